/- Contracts of the program's parser: statements that begin with a word of the language. -/
import Derived.Test.YthfaleaojlnnoaaY7PcY
import Derived.Test.YthfaleaojlnnoaaY72
set_option linter.unusedSimpArgs false
set_option linter.unusedVariables false
namespace Go.Proofs.Ythfaleaojlnnoaa
open List renaming getD_eq_getElem?_getD → zd
open Go Go.Sx Go.RowKit Go.St Pa
set_option maxRecDepth 100000
set_option maxHeartbeats 16000000
section
variable {ts:List Lx.Tok} {p q r g:Ps} {n:Nat}
theorem jmr (hc:TC ts) (h:PreC ts (n+1) p) (hs:(tk ts p).s=jy):RdM ts 99 (qf ts (n+1)) p:=by
 have ht:=hc.ok
 have h2:=ht.len
 have key:∀ s,kwB s=true→sees ts p s=((tk ts p).s == s):=fun s hs=>qcx hc.kind h.at_ h.err hs
 have see:sees ts p jy=true:=by rw [key _ (by decide +kernel),hs];decide
 have hkc:=qdu jy
 rw [show keyF jy=true by decide +kernel] at hkc
 have hnow:Con Try.prog 38 [.rptr (p.cellsC ts)] (.agg [iv (tk ts p).kind,.str jy,iv (tk ts p).pos]):=by rw [← hs];exact qr h.at_
 have A0:=(qh ht h.at_ see).ok h.at_
 have h0:=h.s see ht
 have g0:=h.at_.lo
 have g1:=h0.at_.hi
 have g2:(adv p).at_=p.at_+1:=rfl
 have no_kIdle:¬ (sees ts p qab=true):=by rw [key _ (by decide +kernel),hs];decide
 have no_kWhen:¬ (sees ts p qac=true):=by rw [key _ (by decide +kernel),hs];decide
 have no_kChoose:¬ (sees ts p ji=true):=by rw [key _ (by decide +kernel),hs];decide
 have no_kSend:¬ (sees ts p qbz=true):=by rw [key _ (by decide +kernel),hs];decide
 have no_kIf:¬ (sees ts p kIf=true):=by rw [key _ (by decide +kernel),hs];decide
 have no_kWhile:¬ (sees ts p qca=true):=by rw [key _ (by decide +kernel),hs];decide
 have no_kAtomic:¬ (sees ts p qcb=true):=by rw [key _ (by decide +kernel),hs];decide
 have no_kSkip:¬ (sees ts p qcc=true):=by rw [key _ (by decide +kernel),hs];decide
 have no_kStop:¬ (sees ts p qcd=true):=by rw [key _ (by decide +kernel),hs];decide
 have e0:took ts p qab=p:=za no_kIdle
 have e1:qaf ts p qab=0:=za no_kIdle
 have e2:qf ts (n+1) p=(.mk 8 [jn ts (adv p),jn ts (qd ts (adv p))] [0] (tk ts p).pos [],must ts (qd ts (qd ts (adv p))) qj):=by
  unfold qf qce
  simp only
  rw [zb (.inr (.inl see)),e0,e1,zb see]
 have t1:=jap hc h0 0 (tk ts p).pos
 rw [RdM,e2]
 dsimp only
 refine qat (T:=tab Try.prog) (C:={}) 600 (fun _=>rfl) Try.func99 rfl (by kernel_rfl) (by kernel_rfl) (fun c0 rdb mpb=>?_)
 (repeat' ((conv=>whnf);first|refine zA ?_|refine zO ?_|refine Ob.auto ?_|refine zD 600 ?_|(apply zB <;> intro hb <;> (try simp [-zd] at hb) <;> try (exfalso;omega))|refine Ob.intro ?_ ?_))
 ((conv=>whnf);refine zT 600 [0] (qbc h.at_ 6) qa ?_)
 (repeat' ((conv=>whnf);first|refine zA ?_|refine zO ?_|refine Ob.auto ?_|(refine Ob.intro (by (exact qv (by dsimp only;omega) (by dsimp only;omega))) ?_)|refine zC 600 (hnow) ?_|refine zG 600 (fun hg=>hnow) ?_|(refine CallY.con (hnow) (by rfl) leA ?_)|(refine CallZ.con (fun hg=>hnow) qn (by rfl) ?_)|refine zC 600 (hkc) ?_|refine zG 600 (fun hg=>hkc) ?_|(refine CallY.con (hkc) (by rfl) leA ?_)|(refine CallZ.con (fun hg=>hkc) qn (by rfl) ?_)|(refine ql (fun _=>rfl) 600 (hnow) qc (by (repeat' (first|exact trivial|exact Le.refl _|(refine And.intro ?_ ?_))) <;> fail) (by rfl) (by kernel_rfl) ?_)|(refine qp (fun _=>rfl) 600 (fun hg=>hnow) (fun hg=>qc) (fun hg=>(by (repeat' (first|exact trivial|exact Le.refl _|exact Le.cnd hg|(refine And.intro ?_ ?_))) <;> fail)) (by rfl) (by kernel_rfl) ?_)|(refine ql (fun _=>rfl) 600 (hkc) qc (by (repeat' (first|exact trivial|exact Le.refl _|(refine And.intro ?_ ?_))) <;> fail) (by rfl) (by kernel_rfl) ?_)|(refine qp (fun _=>rfl) 600 (fun hg=>hkc) (fun hg=>qc) (fun hg=>(by (repeat' (first|exact trivial|exact Le.refl _|exact Le.cnd hg|(refine And.intro ?_ ?_))) <;> fail)) (by rfl) (by kernel_rfl) ?_)|refine zD 600 ?_|(apply zB <;> intro hb <;> (try simp [-zd] at hb) <;> try (exfalso;omega))|refine Ob.intro ?_ ?_))
 ((conv=>whnf);refine qm (fun _=>rfl) 600 [0,1] (t1) (by kernel_rfl) (by kernel_rfl) leA qa (by exact qb rfl) (by exact qb rfl) (by kernel_rfl) (fun hk=>⟨hk,rfl⟩) (fun hok=>?_))
 (repeat' ((conv=>whnf);first|refine zA ?_|refine zO ?_|refine Ob.auto ?_|refine zD 600 ?_|(apply zB <;> intro hb <;> (try simp [-zd] at hb) <;> try (exfalso;omega))|refine Ob.intro ?_ ?_))
 exact ⟨hok,Le.rptrL ⟨Le.refl _,Le.refl _,Le.refl _,Le.refl _,Le.refl _,Le.nils _ _,trivial⟩,qa⟩
theorem jms (hc:TC ts) (h:PreC ts (n+1) p) (hs:(tk ts p).s=qac):RdM ts 99 (qf ts (n+1)) p:=by
 have ht:=hc.ok
 have h2:=ht.len
 have key:∀ s,kwB s=true→sees ts p s=((tk ts p).s == s):=fun s hs=>qcx hc.kind h.at_ h.err hs
 have see:sees ts p qac=true:=by rw [key _ (by decide +kernel),hs];decide
 have hkc:=qdu qac
 rw [show keyF qac=true by decide +kernel] at hkc
 have hnow:Con Try.prog 38 [.rptr (p.cellsC ts)] (.agg [iv (tk ts p).kind,.str qac,iv (tk ts p).pos]):=by rw [← hs];exact qr h.at_
 have A0:=(qh ht h.at_ see).ok h.at_
 have h0:=h.s see ht
 have g0:=h.at_.lo
 have g1:=h0.at_.hi
 have g2:(adv p).at_=p.at_+1:=rfl
 have no_kIdle:¬ (sees ts p qab=true):=by rw [key _ (by decide +kernel),hs];decide
 have no_kRecv:¬ (sees ts p jy=true):=by rw [key _ (by decide +kernel),hs];decide
 have no_kChoose:¬ (sees ts p ji=true):=by rw [key _ (by decide +kernel),hs];decide
 have no_kSend:¬ (sees ts p qbz=true):=by rw [key _ (by decide +kernel),hs];decide
 have no_kIf:¬ (sees ts p kIf=true):=by rw [key _ (by decide +kernel),hs];decide
 have no_kWhile:¬ (sees ts p qca=true):=by rw [key _ (by decide +kernel),hs];decide
 have no_kAtomic:¬ (sees ts p qcb=true):=by rw [key _ (by decide +kernel),hs];decide
 have no_kSkip:¬ (sees ts p qcc=true):=by rw [key _ (by decide +kernel),hs];decide
 have no_kStop:¬ (sees ts p qcd=true):=by rw [key _ (by decide +kernel),hs];decide
 have e0:took ts p qab=p:=za no_kIdle
 have e1:qaf ts p qab=0:=za no_kIdle
 have e2:qf ts (n+1) p=(.mk 9 [] [0] (tk ts p).pos [(eF ts (adv p)).1],must ts (eF ts (adv p)).2 qj):=by
  unfold qf qce
  simp only
  rw [zb (.inr (.inr (.inl see))),e0,e1,za no_kRecv,zb see]
 have t1:=jaq hc (qjh hc) h0 0 (tk ts p).pos
 rw [RdM,e2]
 dsimp only
 refine qat (T:=tab Try.prog) (C:={}) 600 (fun _=>rfl) Try.func99 rfl (by kernel_rfl) (by kernel_rfl) (fun c0 rdb mpb=>?_)
 (repeat' ((conv=>whnf);first|refine zA ?_|refine zO ?_|refine Ob.auto ?_|refine zD 600 ?_|(apply zB <;> intro hb <;> (try simp [-zd] at hb) <;> try (exfalso;omega))|refine Ob.intro ?_ ?_))
 ((conv=>whnf);refine zT 600 [0] (qbc h.at_ 6) qa ?_)
 (repeat' ((conv=>whnf);first|refine zA ?_|refine zO ?_|refine Ob.auto ?_|(refine Ob.intro (by (exact qv (by dsimp only;omega) (by dsimp only;omega))) ?_)|refine zC 600 (hnow) ?_|refine zG 600 (fun hg=>hnow) ?_|(refine CallY.con (hnow) (by rfl) leA ?_)|(refine CallZ.con (fun hg=>hnow) qn (by rfl) ?_)|refine zC 600 (hkc) ?_|refine zG 600 (fun hg=>hkc) ?_|(refine CallY.con (hkc) (by rfl) leA ?_)|(refine CallZ.con (fun hg=>hkc) qn (by rfl) ?_)|(refine ql (fun _=>rfl) 600 (hnow) qc (by (repeat' (first|exact trivial|exact Le.refl _|(refine And.intro ?_ ?_))) <;> fail) (by rfl) (by kernel_rfl) ?_)|(refine qp (fun _=>rfl) 600 (fun hg=>hnow) (fun hg=>qc) (fun hg=>(by (repeat' (first|exact trivial|exact Le.refl _|exact Le.cnd hg|(refine And.intro ?_ ?_))) <;> fail)) (by rfl) (by kernel_rfl) ?_)|(refine ql (fun _=>rfl) 600 (hkc) qc (by (repeat' (first|exact trivial|exact Le.refl _|(refine And.intro ?_ ?_))) <;> fail) (by rfl) (by kernel_rfl) ?_)|(refine qp (fun _=>rfl) 600 (fun hg=>hkc) (fun hg=>qc) (fun hg=>(by (repeat' (first|exact trivial|exact Le.refl _|exact Le.cnd hg|(refine And.intro ?_ ?_))) <;> fail)) (by rfl) (by kernel_rfl) ?_)|refine zD 600 ?_|(apply zB <;> intro hb <;> (try simp [-zd] at hb) <;> try (exfalso;omega))|refine Ob.intro ?_ ?_))
 ((conv=>whnf);refine qm (fun _=>rfl) 600 [0,1] (t1) (by kernel_rfl) (by kernel_rfl) leA qa (by exact qb rfl) (by exact qb rfl) (by kernel_rfl) (fun hk=>⟨hk,rfl⟩) (fun hok=>?_))
 (repeat' ((conv=>whnf);first|refine zA ?_|refine zO ?_|refine Ob.auto ?_|refine zD 600 ?_|(apply zB <;> intro hb <;> (try simp [-zd] at hb) <;> try (exfalso;omega))|refine Ob.intro ?_ ?_))
 exact ⟨hok,Le.rptrL ⟨Le.refl _,Le.nils _ _,Le.refl _,Le.refl _,Le.refl _,Le.refl _,trivial⟩,qa⟩
theorem jmt (hc:TC ts) (hbt:∀ q,PreC ts n q→RdM ts 107 (qw ts (qf ts n)) q) (h:PreC ts (n+1) p) (hs:(tk ts p).s=ji):RdM ts 99 (qf ts (n+1)) p:=by
 have ht:=hc.ok
 have h2:=ht.len
 have key:∀ s,kwB s=true→sees ts p s=((tk ts p).s == s):=fun s hs=>qcx hc.kind h.at_ h.err hs
 have see:sees ts p ji=true:=by rw [key _ (by decide +kernel),hs];decide
 have hkc:=qdu ji
 rw [show keyF ji=true by decide +kernel] at hkc
 have hnow:Con Try.prog 38 [.rptr (p.cellsC ts)] (.agg [iv (tk ts p).kind,.str ji,iv (tk ts p).pos]):=by rw [← hs];exact qr h.at_
 have A0:=(qh ht h.at_ see).ok h.at_
 have h0:=h.s see ht
 have g0:=h.at_.lo
 have g1:=h0.at_.hi
 have g2:(adv p).at_=p.at_+1:=rfl
 have hB:=qgq ht (qeb ht n)
 have no_kIdle:¬ (sees ts p qab=true):=by rw [key _ (by decide +kernel),hs];decide
 have no_kRecv:¬ (sees ts p jy=true):=by rw [key _ (by decide +kernel),hs];decide
 have no_kWhen:¬ (sees ts p qac=true):=by rw [key _ (by decide +kernel),hs];decide
 have no_kSend:¬ (sees ts p qbz=true):=by rw [key _ (by decide +kernel),hs];decide
 have no_kIf:¬ (sees ts p kIf=true):=by rw [key _ (by decide +kernel),hs];decide
 have no_kWhile:¬ (sees ts p qca=true):=by rw [key _ (by decide +kernel),hs];decide
 have no_kAtomic:¬ (sees ts p qcb=true):=by rw [key _ (by decide +kernel),hs];decide
 have no_kSkip:¬ (sees ts p qcc=true):=by rw [key _ (by decide +kernel),hs];decide
 have no_kStop:¬ (sees ts p qcd=true):=by rw [key _ (by decide +kernel),hs];decide
 have e0:took ts p qab=p:=za no_kIdle
 have e1:qaf ts p qab=0:=za no_kIdle
 have em:must ts p ji=adv p:=zb see
 have e2:qf ts (n+1) p=(.mk 10 [] [0] (tk ts p).pos (orL ts (qw ts (qf ts n)) ts.length [(qw ts (qf ts n) (adv p)).1] (qw ts (qf ts n) (adv p)).2).1,(orL ts (qw ts (qf ts n)) ts.length [(qw ts (qf ts n) (adv p)).1] (qw ts (qf ts n) (adv p)).2).2):=by
  unfold qf qce
  simp only
  rw [zb (.inr (.inr (.inr see))),e0,e1,za no_kRecv,za no_kWhen,em]
 have t1:=jar hc hB hbt (h.less A0.refl (qbw h.err)) 0 (tk ts p).pos
 rw [RdM,e2]
 dsimp only
 refine qat (T:=tab Try.prog) (C:={}) 600 (fun _=>rfl) Try.func99 rfl (by kernel_rfl) (by kernel_rfl) (fun c0 rdb mpb=>?_)
 (repeat' ((conv=>whnf);first|refine zA ?_|refine zO ?_|refine Ob.auto ?_|refine zD 600 ?_|(apply zB <;> intro hb <;> (try simp [-zd] at hb) <;> try (exfalso;omega))|refine Ob.intro ?_ ?_))
 ((conv=>whnf);refine zT 600 [0] (qbc h.at_ 6) qa ?_)
 (repeat' ((conv=>whnf);first|refine zA ?_|refine zO ?_|refine Ob.auto ?_|(refine Ob.intro (by (exact qv (by dsimp only;omega) (by dsimp only;omega))) ?_)|refine zC 600 (hnow) ?_|refine zG 600 (fun hg=>hnow) ?_|(refine CallY.con (hnow) (by rfl) leA ?_)|(refine CallZ.con (fun hg=>hnow) qn (by rfl) ?_)|refine zC 600 (hkc) ?_|refine zG 600 (fun hg=>hkc) ?_|(refine CallY.con (hkc) (by rfl) leA ?_)|(refine CallZ.con (fun hg=>hkc) qn (by rfl) ?_)|(refine ql (fun _=>rfl) 600 (hnow) qc (by (repeat' (first|exact trivial|exact Le.refl _|(refine And.intro ?_ ?_))) <;> fail) (by rfl) (by kernel_rfl) ?_)|(refine qp (fun _=>rfl) 600 (fun hg=>hnow) (fun hg=>qc) (fun hg=>(by (repeat' (first|exact trivial|exact Le.refl _|exact Le.cnd hg|(refine And.intro ?_ ?_))) <;> fail)) (by rfl) (by kernel_rfl) ?_)|(refine ql (fun _=>rfl) 600 (hkc) qc (by (repeat' (first|exact trivial|exact Le.refl _|(refine And.intro ?_ ?_))) <;> fail) (by rfl) (by kernel_rfl) ?_)|(refine qp (fun _=>rfl) 600 (fun hg=>hkc) (fun hg=>qc) (fun hg=>(by (repeat' (first|exact trivial|exact Le.refl _|exact Le.cnd hg|(refine And.intro ?_ ?_))) <;> fail)) (by rfl) (by kernel_rfl) ?_)|refine zD 600 ?_|(apply zB <;> intro hb <;> (try simp [-zd] at hb) <;> try (exfalso;omega))|refine Ob.intro ?_ ?_))
 ((conv=>whnf);refine qm (fun _=>rfl) 600 [0,1] (t1) (by kernel_rfl) (by kernel_rfl) leA qa (by exact qb rfl) (by exact qb rfl) (by kernel_rfl) (fun hk=>⟨hk,rfl⟩) (fun hok=>?_))
 (repeat' ((conv=>whnf);first|refine zA ?_|refine zO ?_|refine Ob.auto ?_|refine zD 600 ?_|(apply zB <;> intro hb <;> (try simp [-zd] at hb) <;> try (exfalso;omega))|refine Ob.intro ?_ ?_))
 exact ⟨hok,Le.rptrL ⟨Le.refl _,Le.nils _ _,Le.refl _,Le.refl _,Le.refl _,Le.refl _,trivial⟩,qa⟩
theorem jmu (hc:TC ts) (h:PreC ts (n+1) p) (hs:(tk ts p).s=qbz):RdM ts 99 (qf ts (n+1)) p:=by
 have ht:=hc.ok
 have h2:=ht.len
 have key:∀ s,kwB s=true→sees ts p s=((tk ts p).s == s):=fun s hs=>qcx hc.kind h.at_ h.err hs
 have see:sees ts p qbz=true:=by rw [key _ (by decide +kernel),hs];decide
 have hkc:=qdu qbz
 rw [show keyF qbz=true by decide +kernel] at hkc
 have hnow:Con Try.prog 38 [.rptr (p.cellsC ts)] (.agg [iv (tk ts p).kind,.str qbz,iv (tk ts p).pos]):=by rw [← hs];exact qr h.at_
 have A0:=(qh ht h.at_ see).ok h.at_
 have h0:=h.s see ht
 have g0:=h.at_.lo
 have g1:=h0.at_.hi
 have g2:(adv p).at_=p.at_+1:=rfl
 have no_kIdle:¬ (sees ts p qab=true):=by rw [key _ (by decide +kernel),hs];decide
 have no_kRecv:¬ (sees ts p jy=true):=by rw [key _ (by decide +kernel),hs];decide
 have no_kWhen:¬ (sees ts p qac=true):=by rw [key _ (by decide +kernel),hs];decide
 have no_kChoose:¬ (sees ts p ji=true):=by rw [key _ (by decide +kernel),hs];decide
 have no_kIf:¬ (sees ts p kIf=true):=by rw [key _ (by decide +kernel),hs];decide
 have no_kWhile:¬ (sees ts p qca=true):=by rw [key _ (by decide +kernel),hs];decide
 have no_kAtomic:¬ (sees ts p qcb=true):=by rw [key _ (by decide +kernel),hs];decide
 have no_kSkip:¬ (sees ts p qcc=true):=by rw [key _ (by decide +kernel),hs];decide
 have no_kStop:¬ (sees ts p qcd=true):=by rw [key _ (by decide +kernel),hs];decide
 have e2:qf ts (n+1) p=(.mk 7 [jn ts (adv p)] [] (tk ts p).pos [(eF ts (qd ts (adv p))).1],must ts (eF ts (qd ts (adv p))).2 qj):=by
  unfold qf
  simp only
  rw [za (by rintro (h|h|h|h) <;> first|exact no_kIdle h|exact no_kRecv h|exact no_kWhen h|exact no_kChoose h),zb see]
 rw [RdM,e2]
 dsimp only
 have t1:=qek hc h0
 have a1:=jl ht A0
 generalize qd ts (adv p)=p1 at *
 have A1:=a1.ok A0
 have t3:=fun h':PreC ts (n+1) p1=>qjh hc p1 h'.full
 have a3:=qas ht p1 A1
 unfold RdE at t3
 generalize eF ts p1=y at *
 have A3:=a3.ok A1
 have t4:=fun h':PreC ts (n+1) y.2=>qad hc h' (s:=qj) (by decide +kernel)
 have a4:=qe ht A3 qj
 generalize must ts y.2 qj=z at *
 refine qat (T:=tab Try.prog) (C:={}) 600 (fun _=>rfl) Try.func99 rfl (by kernel_rfl) (by kernel_rfl) (fun c0 rdb mpb=>?_)
 (repeat' ((conv=>whnf);first|refine zA ?_|refine zO ?_|refine Ob.auto ?_|refine zD 600 ?_|(apply zB <;> intro hb <;> (try simp [-zd] at hb) <;> try (exfalso;omega))|refine Ob.intro ?_ ?_))
 ((conv=>whnf);refine zT 600 [0] (qbc h.at_ 6) qa ?_)
 (repeat' ((conv=>whnf);first|refine zA ?_|refine zO ?_|refine Ob.auto ?_|(refine Ob.intro (by (exact qv (by dsimp only;omega) (by dsimp only;omega))) ?_)|refine zC 600 (hnow) ?_|refine zG 600 (fun hg=>hnow) ?_|(refine CallY.con (hnow) (by rfl) leA ?_)|(refine CallZ.con (fun hg=>hnow) qn (by rfl) ?_)|refine zC 600 (hkc) ?_|refine zG 600 (fun hg=>hkc) ?_|(refine CallY.con (hkc) (by rfl) leA ?_)|(refine CallZ.con (fun hg=>hkc) qn (by rfl) ?_)|(refine ql (fun _=>rfl) 600 (hnow) qc (by (repeat' (first|exact trivial|exact Le.refl _|(refine And.intro ?_ ?_))) <;> fail) (by rfl) (by kernel_rfl) ?_)|(refine qp (fun _=>rfl) 600 (fun hg=>hnow) (fun hg=>qc) (fun hg=>(by (repeat' (first|exact trivial|exact Le.refl _|exact Le.cnd hg|(refine And.intro ?_ ?_))) <;> fail)) (by rfl) (by kernel_rfl) ?_)|(refine ql (fun _=>rfl) 600 (hkc) qc (by (repeat' (first|exact trivial|exact Le.refl _|(refine And.intro ?_ ?_))) <;> fail) (by rfl) (by kernel_rfl) ?_)|(refine qp (fun _=>rfl) 600 (fun hg=>hkc) (fun hg=>qc) (fun hg=>(by (repeat' (first|exact trivial|exact Le.refl _|exact Le.cnd hg|(refine And.intro ?_ ?_))) <;> fail)) (by rfl) (by kernel_rfl) ?_)|refine zD 600 ?_|(apply zB <;> intro hb <;> (try simp [-zd] at hb) <;> try (exfalso;omega))|refine Ob.intro ?_ ?_))
 ((conv=>whnf);refine qm (fun _=>rfl) 600 [0] (t1) (by kernel_rfl) (by kernel_rfl) leA qa (by exact qb rfl) (by exact qb rfl) (by kernel_rfl) (fun hk=>js (a3.trans a4) hk) (fun hok=>?_))
 have h1:=h0.step a1 hok
 (repeat' ((conv=>whnf);first|refine zA ?_|refine zO ?_|refine Ob.auto ?_|refine zD 600 ?_|(apply zB <;> intro hb <;> (try simp [-zd] at hb) <;> try (exfalso;omega))|refine Ob.intro ?_ ?_))
 have t3':=t3 h1
 cases hk:(y.2.err == 0) with
 | false=>
  (repeat' ((conv=>whnf);first|refine zA ?_|refine zO ?_|refine Ob.auto ?_|refine zI ?_|refine zD 600 ?_|(refine qi (fun _=>rfl) (by kernel_rfl) 600 ?_)|(apply zB <;> intro hb <;> (try simp [-zd] at hb) <;> try (exfalso;omega))|refine Ob.intro ?_ ?_))
  ((conv=>whnf);refine CallY.mpan 99 [0] (t3') hk (js a4 hk) (by kernel_rfl) (by kernel_rfl) leA qa (by exact qb rfl) ?_)
  (repeat' ((conv=>whnf);first|refine zO ?_|refine Ob.auto ?_|refine zI ?_|refine zD 600 ?_|(refine qi (fun _=>rfl) (by kernel_rfl) 600 ?_)|(apply zB <;> intro hb <;> (try simp [-zd] at hb) <;> try (exfalso;omega))|refine Ob.intro ?_ ?_))
  ((conv=>whnf);refine AltG.far 11 [1] (by kernel_rfl) farA (EndG.dead 99 (by rfl)))
 | true=>
  (repeat' ((conv=>whnf);first|refine zA ?_|refine zO ?_|refine Ob.auto ?_|refine zI ?_|refine zD 600 ?_|(refine qi (fun _=>rfl) (by kernel_rfl) 600 ?_)|(apply zB <;> intro hb <;> (try simp [-zd] at hb) <;> try (exfalso;omega))|refine Ob.intro ?_ ?_))
  ((conv=>whnf);refine CallY.trip [0] (t3'.trip hk) (by kernel_rfl) leA qa (by exact qb rfl) (by exact qb rfl) ?_)
  (repeat' ((conv=>whnf);first|refine zO ?_|refine Ob.auto ?_|refine zI ?_|refine zD 600 ?_|(refine qi (fun _=>rfl) (by kernel_rfl) 600 ?_)|(apply zB <;> intro hb <;> (try simp [-zd] at hb) <;> try (exfalso;omega))|refine Ob.intro ?_ ?_))
  ((conv=>whnf);refine AltG.far 11 [1] (by kernel_rfl) farA (EndG.go ?_))
  (repeat' ((conv=>whnf);first|refine zA ?_|refine zO ?_|refine Ob.auto ?_|refine zD 600 ?_|(apply zB <;> intro hb <;> (try simp [-zd] at hb) <;> try (exfalso;omega))|refine Ob.intro ?_ ?_))
  have h4:=h1.step a3 hk
  (((conv=>whnf);refine jr frzA ?_);(conv=>whnf);refine qm (fun _=>rfl) 600 [0] (t4 h4) (by kernel_rfl) (by kernel_rfl) ⟨Le.refl _,jf rfl,trivial⟩ qa (by exact qb rfl) (by exact qb rfl) (by kernel_rfl) (fun hk=>⟨hk,rfl⟩) (fun hok=>?_))
  (repeat' ((conv=>whnf);first|refine zA ?_|refine zO ?_|refine Ob.auto ?_|refine zD 600 ?_|(apply zB <;> intro hb <;> (try simp [-zd] at hb) <;> try (exfalso;omega))|refine Ob.intro ?_ ?_))
  exact ⟨hok,Le.rptrL ⟨Le.refl _,jf rfl,Le.nils _ _,Le.refl _,Le.refl _,qqb rfl,trivial⟩,qa⟩
theorem jmv (hc:TC ts) (h:PreC ts (n+1) p) (hs:(tk ts p).s=qcc):RdM ts 99 (qf ts (n+1)) p:=by
 have ht:=hc.ok
 have h2:=ht.len
 have key:∀ s,kwB s=true→sees ts p s=((tk ts p).s == s):=fun s hs=>qcx hc.kind h.at_ h.err hs
 have see:sees ts p qcc=true:=by rw [key _ (by decide +kernel),hs];decide
 have hkc:=qdu qcc
 rw [show keyF qcc=true by decide +kernel] at hkc
 have hnow:Con Try.prog 38 [.rptr (p.cellsC ts)] (.agg [iv (tk ts p).kind,.str qcc,iv (tk ts p).pos]):=by rw [← hs];exact qr h.at_
 have A0:=(qh ht h.at_ see).ok h.at_
 have h0:=h.s see ht
 have g0:=h.at_.lo
 have g1:=h0.at_.hi
 have g2:(adv p).at_=p.at_+1:=rfl
 have no_kIdle:¬ (sees ts p qab=true):=by rw [key _ (by decide +kernel),hs];decide
 have no_kRecv:¬ (sees ts p jy=true):=by rw [key _ (by decide +kernel),hs];decide
 have no_kWhen:¬ (sees ts p qac=true):=by rw [key _ (by decide +kernel),hs];decide
 have no_kChoose:¬ (sees ts p ji=true):=by rw [key _ (by decide +kernel),hs];decide
 have no_kSend:¬ (sees ts p qbz=true):=by rw [key _ (by decide +kernel),hs];decide
 have no_kIf:¬ (sees ts p kIf=true):=by rw [key _ (by decide +kernel),hs];decide
 have no_kWhile:¬ (sees ts p qca=true):=by rw [key _ (by decide +kernel),hs];decide
 have no_kAtomic:¬ (sees ts p qcb=true):=by rw [key _ (by decide +kernel),hs];decide
 have no_kStop:¬ (sees ts p qcd=true):=by rw [key _ (by decide +kernel),hs];decide
 have e2:qf ts (n+1) p=(.mk 14 [] [] (tk ts p).pos [],must ts (adv p) qj):=by
  unfold qf
  simp only
  rw [za (by rintro (h|h|h|h) <;> first|exact no_kIdle h|exact no_kRecv h|exact no_kWhen h|exact no_kChoose h),za no_kSend,za no_kIf,za no_kWhile,za no_kAtomic,zb see]
 rw [RdM,e2]
 dsimp only
 have t4:=qad hc h0 (s:=qj) (by decide +kernel)
 generalize must ts (adv p) qj=z at *
 refine qat (T:=tab Try.prog) (C:={}) 600 (fun _=>rfl) Try.func99 rfl (by kernel_rfl) (by kernel_rfl) (fun c0 rdb mpb=>?_)
 (repeat' ((conv=>whnf);first|refine zA ?_|refine zO ?_|refine Ob.auto ?_|refine zD 600 ?_|(apply zB <;> intro hb <;> (try simp [-zd] at hb) <;> try (exfalso;omega))|refine Ob.intro ?_ ?_))
 ((conv=>whnf);refine zT 600 [0] (qbc h.at_ 6) qa ?_)
 (repeat' ((conv=>whnf);first|refine zA ?_|refine zO ?_|refine Ob.auto ?_|(refine Ob.intro (by (exact qv (by dsimp only;omega) (by dsimp only;omega))) ?_)|refine zC 600 (hnow) ?_|refine zG 600 (fun hg=>hnow) ?_|(refine CallY.con (hnow) (by rfl) leA ?_)|(refine CallZ.con (fun hg=>hnow) qn (by rfl) ?_)|refine zC 600 (hkc) ?_|refine zG 600 (fun hg=>hkc) ?_|(refine CallY.con (hkc) (by rfl) leA ?_)|(refine CallZ.con (fun hg=>hkc) qn (by rfl) ?_)|(refine ql (fun _=>rfl) 600 (hnow) qc (by (repeat' (first|exact trivial|exact Le.refl _|(refine And.intro ?_ ?_))) <;> fail) (by rfl) (by kernel_rfl) ?_)|(refine qp (fun _=>rfl) 600 (fun hg=>hnow) (fun hg=>qc) (fun hg=>(by (repeat' (first|exact trivial|exact Le.refl _|exact Le.cnd hg|(refine And.intro ?_ ?_))) <;> fail)) (by rfl) (by kernel_rfl) ?_)|(refine ql (fun _=>rfl) 600 (hkc) qc (by (repeat' (first|exact trivial|exact Le.refl _|(refine And.intro ?_ ?_))) <;> fail) (by rfl) (by kernel_rfl) ?_)|(refine qp (fun _=>rfl) 600 (fun hg=>hkc) (fun hg=>qc) (fun hg=>(by (repeat' (first|exact trivial|exact Le.refl _|exact Le.cnd hg|(refine And.intro ?_ ?_))) <;> fail)) (by rfl) (by kernel_rfl) ?_)|refine zD 600 ?_|(apply zB <;> intro hb <;> (try simp [-zd] at hb) <;> try (exfalso;omega))|refine Ob.intro ?_ ?_))
 (((conv=>whnf);refine jr frzA ?_);(conv=>whnf);refine qm (fun _=>rfl) 600 [0] (t4) (by kernel_rfl) (by kernel_rfl) ⟨Le.refl _,jf rfl,trivial⟩ qa (by exact qb rfl) (by exact qb rfl) (by kernel_rfl) (fun hk=>⟨hk,rfl⟩) (fun hok=>?_))
 (repeat' ((conv=>whnf);first|refine zA ?_|refine zO ?_|refine Ob.auto ?_|refine zD 600 ?_|(apply zB <;> intro hb <;> (try simp [-zd] at hb) <;> try (exfalso;omega))|refine Ob.intro ?_ ?_))
 exact ⟨hok,Le.rptrL ⟨Le.refl _,Le.nils _ _,Le.nils _ _,Le.refl _,Le.refl _,Le.nils _ _,trivial⟩,qa⟩
theorem jmw (hc:TC ts) (h:PreC ts (n+1) p) (hs:(tk ts p).s=qcd):RdM ts 99 (qf ts (n+1)) p:=by
 have ht:=hc.ok
 have h2:=ht.len
 have key:∀ s,kwB s=true→sees ts p s=((tk ts p).s == s):=fun s hs=>qcx hc.kind h.at_ h.err hs
 have see:sees ts p qcd=true:=by rw [key _ (by decide +kernel),hs];decide
 have hkc:=qdu qcd
 rw [show keyF qcd=true by decide +kernel] at hkc
 have hnow:Con Try.prog 38 [.rptr (p.cellsC ts)] (.agg [iv (tk ts p).kind,.str qcd,iv (tk ts p).pos]):=by rw [← hs];exact qr h.at_
 have A0:=(qh ht h.at_ see).ok h.at_
 have h0:=h.s see ht
 have g0:=h.at_.lo
 have g1:=h0.at_.hi
 have g2:(adv p).at_=p.at_+1:=rfl
 have no_kIdle:¬ (sees ts p qab=true):=by rw [key _ (by decide +kernel),hs];decide
 have no_kRecv:¬ (sees ts p jy=true):=by rw [key _ (by decide +kernel),hs];decide
 have no_kWhen:¬ (sees ts p qac=true):=by rw [key _ (by decide +kernel),hs];decide
 have no_kChoose:¬ (sees ts p ji=true):=by rw [key _ (by decide +kernel),hs];decide
 have no_kSend:¬ (sees ts p qbz=true):=by rw [key _ (by decide +kernel),hs];decide
 have no_kIf:¬ (sees ts p kIf=true):=by rw [key _ (by decide +kernel),hs];decide
 have no_kWhile:¬ (sees ts p qca=true):=by rw [key _ (by decide +kernel),hs];decide
 have no_kAtomic:¬ (sees ts p qcb=true):=by rw [key _ (by decide +kernel),hs];decide
 have no_kSkip:¬ (sees ts p qcc=true):=by rw [key _ (by decide +kernel),hs];decide
 have e2:qf ts (n+1) p=(.mk 15 [] [] (tk ts p).pos [],must ts (adv p) qj):=by
  unfold qf
  simp only
  rw [za (by rintro (h|h|h|h) <;> first|exact no_kIdle h|exact no_kRecv h|exact no_kWhen h|exact no_kChoose h),za no_kSend,za no_kIf,za no_kWhile,za no_kAtomic,za no_kSkip,zb see]
 rw [RdM,e2]
 dsimp only
 have t4:=qad hc h0 (s:=qj) (by decide +kernel)
 generalize must ts (adv p) qj=z at *
 refine qat (T:=tab Try.prog) (C:={}) 600 (fun _=>rfl) Try.func99 rfl (by kernel_rfl) (by kernel_rfl) (fun c0 rdb mpb=>?_)
 (repeat' ((conv=>whnf);first|refine zA ?_|refine zO ?_|refine Ob.auto ?_|refine zD 600 ?_|(apply zB <;> intro hb <;> (try simp [-zd] at hb) <;> try (exfalso;omega))|refine Ob.intro ?_ ?_))
 ((conv=>whnf);refine zT 600 [0] (qbc h.at_ 6) qa ?_)
 (repeat' ((conv=>whnf);first|refine zA ?_|refine zO ?_|refine Ob.auto ?_|(refine Ob.intro (by (exact qv (by dsimp only;omega) (by dsimp only;omega))) ?_)|refine zC 600 (hnow) ?_|refine zG 600 (fun hg=>hnow) ?_|(refine CallY.con (hnow) (by rfl) leA ?_)|(refine CallZ.con (fun hg=>hnow) qn (by rfl) ?_)|refine zC 600 (hkc) ?_|refine zG 600 (fun hg=>hkc) ?_|(refine CallY.con (hkc) (by rfl) leA ?_)|(refine CallZ.con (fun hg=>hkc) qn (by rfl) ?_)|(refine ql (fun _=>rfl) 600 (hnow) qc (by (repeat' (first|exact trivial|exact Le.refl _|(refine And.intro ?_ ?_))) <;> fail) (by rfl) (by kernel_rfl) ?_)|(refine qp (fun _=>rfl) 600 (fun hg=>hnow) (fun hg=>qc) (fun hg=>(by (repeat' (first|exact trivial|exact Le.refl _|exact Le.cnd hg|(refine And.intro ?_ ?_))) <;> fail)) (by rfl) (by kernel_rfl) ?_)|(refine ql (fun _=>rfl) 600 (hkc) qc (by (repeat' (first|exact trivial|exact Le.refl _|(refine And.intro ?_ ?_))) <;> fail) (by rfl) (by kernel_rfl) ?_)|(refine qp (fun _=>rfl) 600 (fun hg=>hkc) (fun hg=>qc) (fun hg=>(by (repeat' (first|exact trivial|exact Le.refl _|exact Le.cnd hg|(refine And.intro ?_ ?_))) <;> fail)) (by rfl) (by kernel_rfl) ?_)|refine zD 600 ?_|(apply zB <;> intro hb <;> (try simp [-zd] at hb) <;> try (exfalso;omega))|refine Ob.intro ?_ ?_))
 (((conv=>whnf);refine jr frzA ?_);(conv=>whnf);refine qm (fun _=>rfl) 600 [0] (t4) (by kernel_rfl) (by kernel_rfl) ⟨Le.refl _,jf rfl,trivial⟩ qa (by exact qb rfl) (by exact qb rfl) (by kernel_rfl) (fun hk=>⟨hk,rfl⟩) (fun hok=>?_))
 (repeat' ((conv=>whnf);first|refine zA ?_|refine zO ?_|refine Ob.auto ?_|refine zD 600 ?_|(apply zB <;> intro hb <;> (try simp [-zd] at hb) <;> try (exfalso;omega))|refine Ob.intro ?_ ?_))
 exact ⟨hok,Le.rptrL ⟨Le.refl _,Le.nils _ _,Le.nils _ _,Le.refl _,Le.refl _,Le.nils _ _,trivial⟩,qa⟩
end
end Go.Proofs.Ythfaleaojlnnoaa
