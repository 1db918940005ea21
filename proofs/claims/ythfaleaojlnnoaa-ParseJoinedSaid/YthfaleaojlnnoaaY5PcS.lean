/- Contracts of the program's parser: statements that begin with a word of the language. -/
import Derived.Test.YthfaleaojlnnoaaY5PcY
import Derived.Test.YthfaleaojlnnoaaY52
set_option linter.unusedSimpArgs false
set_option linter.unusedVariables false
namespace Go.Proofs.Ythfaleaojlnnoaa
open List renaming getD_eq_getElem?_getD → zd
open Go Go.Sx Go.RowKit Go.St Pa
set_option maxRecDepth 100000
set_option maxHeartbeats 16000000
section
variable {ts:List Lx.Tok} {p q r g:Ps} {n:Nat}
theorem jpw (hc:TC ts) (h:PreC ts (n+1) p) (hs:(tk ts p).s=jn):RdM ts 99 (qd ts (n+1)) p:=by
 have ht:=hc.ok
 have h2:=ht.len
 have key:∀ s,kwB s=true→sees ts p s=((tk ts p).s == s):=fun s hs=>qdt hc.kind h.at_ h.err hs
 have see:sees ts p jn=true:=by rw [key _ (by decide +kernel),hs];decide
 have hkc:=qff jn
 rw [show keyF jn=true by decide +kernel] at hkc
 have hnow:Con Try.prog 38 [.rptr (p.cellsC ts)] (.agg [iv (tk ts p).kind,.str jn,iv (tk ts p).pos]):=by rw [← hs];exact qw h.at_
 have A0:=(qf ht h.at_ see).ok h.at_
 have h0:=h.s see ht
 have g0:=h.at_.lo
 have g1:=h0.at_.hi
 have g2:(adv p).at_=p.at_+1:=rfl
 have no_kIdle:¬ (sees ts p jq=true):=by rw [key _ (by decide +kernel),hs];decide
 have no_kWhen:¬ (sees ts p jr=true):=by rw [key _ (by decide +kernel),hs];decide
 have no_kChoose:¬ (sees ts p qp=true):=by rw [key _ (by decide +kernel),hs];decide
 have no_kSend:¬ (sees ts p qbu=true):=by rw [key _ (by decide +kernel),hs];decide
 have no_kIf:¬ (sees ts p kIf=true):=by rw [key _ (by decide +kernel),hs];decide
 have no_kWhile:¬ (sees ts p qbv=true):=by rw [key _ (by decide +kernel),hs];decide
 have no_kAtomic:¬ (sees ts p qbw=true):=by rw [key _ (by decide +kernel),hs];decide
 have no_kSkip:¬ (sees ts p qbx=true):=by rw [key _ (by decide +kernel),hs];decide
 have no_kStop:¬ (sees ts p qby=true):=by rw [key _ (by decide +kernel),hs];decide
 have e0:took ts p jq=p:=ze no_kIdle
 have e1:ju ts p jq=0:=ze no_kIdle
 have e2:qd ts (n+1) p=(.mk 8 [qz ts (adv p),qz ts (qc ts (adv p))] [0] (tk ts p).pos [],must ts (qc ts (qc ts (adv p))) qj):=by
  unfold qd qam
  simp only
  rw [zf (.inr (.inl see)),e0,e1,zf see]
 have t1:=jcp hc h0 0 (tk ts p).pos
 rw [RdM,e2]
 dsimp only
 refine qbg (T:=tab Try.prog) (C:={}) 600 (fun _=>rfl) Try.func99 rfl (by kernel_rfl) (by kernel_rfl) (fun c0 rdb mpb=>?_)
 (repeat' ((conv=>whnf);first|refine zA ?_|refine zO ?_|refine Ob.auto ?_|refine zD 600 ?_|(apply zB <;> intro hb <;> (try simp [-zd] at hb) <;> try (exfalso;omega))|refine Ob.intro ?_ ?_))
 ((conv=>whnf);refine zT 600 [0] (qca h.at_ 6) qa ?_)
 (repeat' ((conv=>whnf);first|refine zA ?_|refine zO ?_|refine Ob.auto ?_|(refine Ob.intro (by (exact qy (by dsimp only;omega) (by dsimp only;omega))) ?_)|refine zC 600 (hnow) ?_|refine zG 600 (fun hg=>hnow) ?_|(refine CallY.con (hnow) (by rfl) leA ?_)|(refine CallZ.con (fun hg=>hnow) jf (by rfl) ?_)|refine zC 600 (hkc) ?_|refine zG 600 (fun hg=>hkc) ?_|(refine CallY.con (hkc) (by rfl) leA ?_)|(refine CallZ.con (fun hg=>hkc) jf (by rfl) ?_)|(refine qm (fun _=>rfl) 600 (hnow) qe (by (repeat' (first|exact trivial|exact Le.refl _|(refine And.intro ?_ ?_))) <;> fail) (by rfl) (by kernel_rfl) ?_)|(refine qx (fun _=>rfl) 600 (fun hg=>hnow) (fun hg=>qe) (fun hg=>(by (repeat' (first|exact trivial|exact Le.refl _|exact Le.cnd hg|(refine And.intro ?_ ?_))) <;> fail)) (by rfl) (by kernel_rfl) ?_)|(refine qm (fun _=>rfl) 600 (hkc) qe (by (repeat' (first|exact trivial|exact Le.refl _|(refine And.intro ?_ ?_))) <;> fail) (by rfl) (by kernel_rfl) ?_)|(refine qx (fun _=>rfl) 600 (fun hg=>hkc) (fun hg=>qe) (fun hg=>(by (repeat' (first|exact trivial|exact Le.refl _|exact Le.cnd hg|(refine And.intro ?_ ?_))) <;> fail)) (by rfl) (by kernel_rfl) ?_)|refine zD 600 ?_|(apply zB <;> intro hb <;> (try simp [-zd] at hb) <;> try (exfalso;omega))|refine Ob.intro ?_ ?_))
 ((conv=>whnf);refine qt (fun _=>rfl) 600 [0,1] (t1) (by kernel_rfl) (by kernel_rfl) leA qa (by exact qb rfl) (by exact qb rfl) (by kernel_rfl) (fun hk=>⟨hk,rfl⟩) (fun hok=>?_))
 (repeat' ((conv=>whnf);first|refine zA ?_|refine zO ?_|refine Ob.auto ?_|refine zD 600 ?_|(apply zB <;> intro hb <;> (try simp [-zd] at hb) <;> try (exfalso;omega))|refine Ob.intro ?_ ?_))
 exact ⟨hok,Le.rptrL ⟨Le.refl _,Le.refl _,Le.refl _,Le.refl _,Le.refl _,Le.nils _ _,trivial⟩,qa⟩
theorem jpx (hc:TC ts) (h:PreC ts (n+1) p) (hs:(tk ts p).s=jr):RdM ts 99 (qd ts (n+1)) p:=by
 have ht:=hc.ok
 have h2:=ht.len
 have key:∀ s,kwB s=true→sees ts p s=((tk ts p).s == s):=fun s hs=>qdt hc.kind h.at_ h.err hs
 have see:sees ts p jr=true:=by rw [key _ (by decide +kernel),hs];decide
 have hkc:=qff jr
 rw [show keyF jr=true by decide +kernel] at hkc
 have hnow:Con Try.prog 38 [.rptr (p.cellsC ts)] (.agg [iv (tk ts p).kind,.str jr,iv (tk ts p).pos]):=by rw [← hs];exact qw h.at_
 have A0:=(qf ht h.at_ see).ok h.at_
 have h0:=h.s see ht
 have g0:=h.at_.lo
 have g1:=h0.at_.hi
 have g2:(adv p).at_=p.at_+1:=rfl
 have no_kIdle:¬ (sees ts p jq=true):=by rw [key _ (by decide +kernel),hs];decide
 have no_kRecv:¬ (sees ts p jn=true):=by rw [key _ (by decide +kernel),hs];decide
 have no_kChoose:¬ (sees ts p qp=true):=by rw [key _ (by decide +kernel),hs];decide
 have no_kSend:¬ (sees ts p qbu=true):=by rw [key _ (by decide +kernel),hs];decide
 have no_kIf:¬ (sees ts p kIf=true):=by rw [key _ (by decide +kernel),hs];decide
 have no_kWhile:¬ (sees ts p qbv=true):=by rw [key _ (by decide +kernel),hs];decide
 have no_kAtomic:¬ (sees ts p qbw=true):=by rw [key _ (by decide +kernel),hs];decide
 have no_kSkip:¬ (sees ts p qbx=true):=by rw [key _ (by decide +kernel),hs];decide
 have no_kStop:¬ (sees ts p qby=true):=by rw [key _ (by decide +kernel),hs];decide
 have e0:took ts p jq=p:=ze no_kIdle
 have e1:ju ts p jq=0:=ze no_kIdle
 have e2:qd ts (n+1) p=(.mk 9 [] [0] (tk ts p).pos [(eF ts (adv p)).1],must ts (eF ts (adv p)).2 qj):=by
  unfold qd qam
  simp only
  rw [zf (.inr (.inr (.inl see))),e0,e1,ze no_kRecv,zf see]
 have t1:=jcq hc (qkn hc) h0 0 (tk ts p).pos
 rw [RdM,e2]
 dsimp only
 refine qbg (T:=tab Try.prog) (C:={}) 600 (fun _=>rfl) Try.func99 rfl (by kernel_rfl) (by kernel_rfl) (fun c0 rdb mpb=>?_)
 (repeat' ((conv=>whnf);first|refine zA ?_|refine zO ?_|refine Ob.auto ?_|refine zD 600 ?_|(apply zB <;> intro hb <;> (try simp [-zd] at hb) <;> try (exfalso;omega))|refine Ob.intro ?_ ?_))
 ((conv=>whnf);refine zT 600 [0] (qca h.at_ 6) qa ?_)
 (repeat' ((conv=>whnf);first|refine zA ?_|refine zO ?_|refine Ob.auto ?_|(refine Ob.intro (by (exact qy (by dsimp only;omega) (by dsimp only;omega))) ?_)|refine zC 600 (hnow) ?_|refine zG 600 (fun hg=>hnow) ?_|(refine CallY.con (hnow) (by rfl) leA ?_)|(refine CallZ.con (fun hg=>hnow) jf (by rfl) ?_)|refine zC 600 (hkc) ?_|refine zG 600 (fun hg=>hkc) ?_|(refine CallY.con (hkc) (by rfl) leA ?_)|(refine CallZ.con (fun hg=>hkc) jf (by rfl) ?_)|(refine qm (fun _=>rfl) 600 (hnow) qe (by (repeat' (first|exact trivial|exact Le.refl _|(refine And.intro ?_ ?_))) <;> fail) (by rfl) (by kernel_rfl) ?_)|(refine qx (fun _=>rfl) 600 (fun hg=>hnow) (fun hg=>qe) (fun hg=>(by (repeat' (first|exact trivial|exact Le.refl _|exact Le.cnd hg|(refine And.intro ?_ ?_))) <;> fail)) (by rfl) (by kernel_rfl) ?_)|(refine qm (fun _=>rfl) 600 (hkc) qe (by (repeat' (first|exact trivial|exact Le.refl _|(refine And.intro ?_ ?_))) <;> fail) (by rfl) (by kernel_rfl) ?_)|(refine qx (fun _=>rfl) 600 (fun hg=>hkc) (fun hg=>qe) (fun hg=>(by (repeat' (first|exact trivial|exact Le.refl _|exact Le.cnd hg|(refine And.intro ?_ ?_))) <;> fail)) (by rfl) (by kernel_rfl) ?_)|refine zD 600 ?_|(apply zB <;> intro hb <;> (try simp [-zd] at hb) <;> try (exfalso;omega))|refine Ob.intro ?_ ?_))
 ((conv=>whnf);refine qt (fun _=>rfl) 600 [0,1] (t1) (by kernel_rfl) (by kernel_rfl) leA qa (by exact qb rfl) (by exact qb rfl) (by kernel_rfl) (fun hk=>⟨hk,rfl⟩) (fun hok=>?_))
 (repeat' ((conv=>whnf);first|refine zA ?_|refine zO ?_|refine Ob.auto ?_|refine zD 600 ?_|(apply zB <;> intro hb <;> (try simp [-zd] at hb) <;> try (exfalso;omega))|refine Ob.intro ?_ ?_))
 exact ⟨hok,Le.rptrL ⟨Le.refl _,Le.nils _ _,Le.refl _,Le.refl _,Le.refl _,Le.refl _,trivial⟩,qa⟩
theorem jpy (hc:TC ts) (hbt:∀ q,PreC ts n q→RdM ts 107 (qi ts (qd ts n)) q) (h:PreC ts (n+1) p) (hs:(tk ts p).s=qp):RdM ts 99 (qd ts (n+1)) p:=by
 have ht:=hc.ok
 have h2:=ht.len
 have key:∀ s,kwB s=true→sees ts p s=((tk ts p).s == s):=fun s hs=>qdt hc.kind h.at_ h.err hs
 have see:sees ts p qp=true:=by rw [key _ (by decide +kernel),hs];decide
 have hkc:=qff qp
 rw [show keyF qp=true by decide +kernel] at hkc
 have hnow:Con Try.prog 38 [.rptr (p.cellsC ts)] (.agg [iv (tk ts p).kind,.str qp,iv (tk ts p).pos]):=by rw [← hs];exact qw h.at_
 have A0:=(qf ht h.at_ see).ok h.at_
 have h0:=h.s see ht
 have g0:=h.at_.lo
 have g1:=h0.at_.hi
 have g2:(adv p).at_=p.at_+1:=rfl
 have hB:=qgd ht (qdr ht n)
 have no_kIdle:¬ (sees ts p jq=true):=by rw [key _ (by decide +kernel),hs];decide
 have no_kRecv:¬ (sees ts p jn=true):=by rw [key _ (by decide +kernel),hs];decide
 have no_kWhen:¬ (sees ts p jr=true):=by rw [key _ (by decide +kernel),hs];decide
 have no_kSend:¬ (sees ts p qbu=true):=by rw [key _ (by decide +kernel),hs];decide
 have no_kIf:¬ (sees ts p kIf=true):=by rw [key _ (by decide +kernel),hs];decide
 have no_kWhile:¬ (sees ts p qbv=true):=by rw [key _ (by decide +kernel),hs];decide
 have no_kAtomic:¬ (sees ts p qbw=true):=by rw [key _ (by decide +kernel),hs];decide
 have no_kSkip:¬ (sees ts p qbx=true):=by rw [key _ (by decide +kernel),hs];decide
 have no_kStop:¬ (sees ts p qby=true):=by rw [key _ (by decide +kernel),hs];decide
 have e0:took ts p jq=p:=ze no_kIdle
 have e1:ju ts p jq=0:=ze no_kIdle
 have em:must ts p qp=adv p:=zf see
 have e2:qd ts (n+1) p=(.mk 10 [] [0] (tk ts p).pos (orL ts (qi ts (qd ts n)) ts.length [(qi ts (qd ts n) (adv p)).1] (qi ts (qd ts n) (adv p)).2).1,(orL ts (qi ts (qd ts n)) ts.length [(qi ts (qd ts n) (adv p)).1] (qi ts (qd ts n) (adv p)).2).2):=by
  unfold qd qam
  simp only
  rw [zf (.inr (.inr (.inr see))),e0,e1,ze no_kRecv,ze no_kWhen,em]
 have t1:=jcr hc hB hbt (h.less A0.refl (qda h.err)) 0 (tk ts p).pos
 rw [RdM,e2]
 dsimp only
 refine qbg (T:=tab Try.prog) (C:={}) 600 (fun _=>rfl) Try.func99 rfl (by kernel_rfl) (by kernel_rfl) (fun c0 rdb mpb=>?_)
 (repeat' ((conv=>whnf);first|refine zA ?_|refine zO ?_|refine Ob.auto ?_|refine zD 600 ?_|(apply zB <;> intro hb <;> (try simp [-zd] at hb) <;> try (exfalso;omega))|refine Ob.intro ?_ ?_))
 ((conv=>whnf);refine zT 600 [0] (qca h.at_ 6) qa ?_)
 (repeat' ((conv=>whnf);first|refine zA ?_|refine zO ?_|refine Ob.auto ?_|(refine Ob.intro (by (exact qy (by dsimp only;omega) (by dsimp only;omega))) ?_)|refine zC 600 (hnow) ?_|refine zG 600 (fun hg=>hnow) ?_|(refine CallY.con (hnow) (by rfl) leA ?_)|(refine CallZ.con (fun hg=>hnow) jf (by rfl) ?_)|refine zC 600 (hkc) ?_|refine zG 600 (fun hg=>hkc) ?_|(refine CallY.con (hkc) (by rfl) leA ?_)|(refine CallZ.con (fun hg=>hkc) jf (by rfl) ?_)|(refine qm (fun _=>rfl) 600 (hnow) qe (by (repeat' (first|exact trivial|exact Le.refl _|(refine And.intro ?_ ?_))) <;> fail) (by rfl) (by kernel_rfl) ?_)|(refine qx (fun _=>rfl) 600 (fun hg=>hnow) (fun hg=>qe) (fun hg=>(by (repeat' (first|exact trivial|exact Le.refl _|exact Le.cnd hg|(refine And.intro ?_ ?_))) <;> fail)) (by rfl) (by kernel_rfl) ?_)|(refine qm (fun _=>rfl) 600 (hkc) qe (by (repeat' (first|exact trivial|exact Le.refl _|(refine And.intro ?_ ?_))) <;> fail) (by rfl) (by kernel_rfl) ?_)|(refine qx (fun _=>rfl) 600 (fun hg=>hkc) (fun hg=>qe) (fun hg=>(by (repeat' (first|exact trivial|exact Le.refl _|exact Le.cnd hg|(refine And.intro ?_ ?_))) <;> fail)) (by rfl) (by kernel_rfl) ?_)|refine zD 600 ?_|(apply zB <;> intro hb <;> (try simp [-zd] at hb) <;> try (exfalso;omega))|refine Ob.intro ?_ ?_))
 ((conv=>whnf);refine qt (fun _=>rfl) 600 [0,1] (t1) (by kernel_rfl) (by kernel_rfl) leA qa (by exact qb rfl) (by exact qb rfl) (by kernel_rfl) (fun hk=>⟨hk,rfl⟩) (fun hok=>?_))
 (repeat' ((conv=>whnf);first|refine zA ?_|refine zO ?_|refine Ob.auto ?_|refine zD 600 ?_|(apply zB <;> intro hb <;> (try simp [-zd] at hb) <;> try (exfalso;omega))|refine Ob.intro ?_ ?_))
 exact ⟨hok,Le.rptrL ⟨Le.refl _,Le.nils _ _,Le.refl _,Le.refl _,Le.refl _,Le.refl _,trivial⟩,qa⟩
theorem jpz (hc:TC ts) (h:PreC ts (n+1) p) (hs:(tk ts p).s=qbu):RdM ts 99 (qd ts (n+1)) p:=by
 have ht:=hc.ok
 have h2:=ht.len
 have key:∀ s,kwB s=true→sees ts p s=((tk ts p).s == s):=fun s hs=>qdt hc.kind h.at_ h.err hs
 have see:sees ts p qbu=true:=by rw [key _ (by decide +kernel),hs];decide
 have hkc:=qff qbu
 rw [show keyF qbu=true by decide +kernel] at hkc
 have hnow:Con Try.prog 38 [.rptr (p.cellsC ts)] (.agg [iv (tk ts p).kind,.str qbu,iv (tk ts p).pos]):=by rw [← hs];exact qw h.at_
 have A0:=(qf ht h.at_ see).ok h.at_
 have h0:=h.s see ht
 have g0:=h.at_.lo
 have g1:=h0.at_.hi
 have g2:(adv p).at_=p.at_+1:=rfl
 have no_kIdle:¬ (sees ts p jq=true):=by rw [key _ (by decide +kernel),hs];decide
 have no_kRecv:¬ (sees ts p jn=true):=by rw [key _ (by decide +kernel),hs];decide
 have no_kWhen:¬ (sees ts p jr=true):=by rw [key _ (by decide +kernel),hs];decide
 have no_kChoose:¬ (sees ts p qp=true):=by rw [key _ (by decide +kernel),hs];decide
 have no_kIf:¬ (sees ts p kIf=true):=by rw [key _ (by decide +kernel),hs];decide
 have no_kWhile:¬ (sees ts p qbv=true):=by rw [key _ (by decide +kernel),hs];decide
 have no_kAtomic:¬ (sees ts p qbw=true):=by rw [key _ (by decide +kernel),hs];decide
 have no_kSkip:¬ (sees ts p qbx=true):=by rw [key _ (by decide +kernel),hs];decide
 have no_kStop:¬ (sees ts p qby=true):=by rw [key _ (by decide +kernel),hs];decide
 have e2:qd ts (n+1) p=(.mk 7 [qz ts (adv p)] [] (tk ts p).pos [(eF ts (qc ts (adv p))).1],must ts (eF ts (qc ts (adv p))).2 qj):=by
  unfold qd
  simp only
  rw [ze (by rintro (h|h|h|h) <;> first|exact no_kIdle h|exact no_kRecv h|exact no_kWhen h|exact no_kChoose h),zf see]
 rw [RdM,e2]
 dsimp only
 have t1:=qfo hc h0
 have a1:=jj ht A0
 generalize qc ts (adv p)=p1 at *
 have A1:=a1.ok A0
 have t3:=fun h':PreC ts (n+1) p1=>qkn hc p1 h'.full
 have a3:=jz ht p1 A1
 unfold RdE at t3
 generalize eF ts p1=y at *
 have A3:=a3.ok A1
 have t4:=fun h':PreC ts (n+1) y.2=>qap hc h' (s:=qj) (by decide +kernel)
 have a4:=qg ht A3 qj
 generalize must ts y.2 qj=z at *
 refine qbg (T:=tab Try.prog) (C:={}) 600 (fun _=>rfl) Try.func99 rfl (by kernel_rfl) (by kernel_rfl) (fun c0 rdb mpb=>?_)
 (repeat' ((conv=>whnf);first|refine zA ?_|refine zO ?_|refine Ob.auto ?_|refine zD 600 ?_|(apply zB <;> intro hb <;> (try simp [-zd] at hb) <;> try (exfalso;omega))|refine Ob.intro ?_ ?_))
 ((conv=>whnf);refine zT 600 [0] (qca h.at_ 6) qa ?_)
 (repeat' ((conv=>whnf);first|refine zA ?_|refine zO ?_|refine Ob.auto ?_|(refine Ob.intro (by (exact qy (by dsimp only;omega) (by dsimp only;omega))) ?_)|refine zC 600 (hnow) ?_|refine zG 600 (fun hg=>hnow) ?_|(refine CallY.con (hnow) (by rfl) leA ?_)|(refine CallZ.con (fun hg=>hnow) jf (by rfl) ?_)|refine zC 600 (hkc) ?_|refine zG 600 (fun hg=>hkc) ?_|(refine CallY.con (hkc) (by rfl) leA ?_)|(refine CallZ.con (fun hg=>hkc) jf (by rfl) ?_)|(refine qm (fun _=>rfl) 600 (hnow) qe (by (repeat' (first|exact trivial|exact Le.refl _|(refine And.intro ?_ ?_))) <;> fail) (by rfl) (by kernel_rfl) ?_)|(refine qx (fun _=>rfl) 600 (fun hg=>hnow) (fun hg=>qe) (fun hg=>(by (repeat' (first|exact trivial|exact Le.refl _|exact Le.cnd hg|(refine And.intro ?_ ?_))) <;> fail)) (by rfl) (by kernel_rfl) ?_)|(refine qm (fun _=>rfl) 600 (hkc) qe (by (repeat' (first|exact trivial|exact Le.refl _|(refine And.intro ?_ ?_))) <;> fail) (by rfl) (by kernel_rfl) ?_)|(refine qx (fun _=>rfl) 600 (fun hg=>hkc) (fun hg=>qe) (fun hg=>(by (repeat' (first|exact trivial|exact Le.refl _|exact Le.cnd hg|(refine And.intro ?_ ?_))) <;> fail)) (by rfl) (by kernel_rfl) ?_)|refine zD 600 ?_|(apply zB <;> intro hb <;> (try simp [-zd] at hb) <;> try (exfalso;omega))|refine Ob.intro ?_ ?_))
 ((conv=>whnf);refine qt (fun _=>rfl) 600 [0] (t1) (by kernel_rfl) (by kernel_rfl) leA qa (by exact qb rfl) (by exact qb rfl) (by kernel_rfl) (fun hk=>qaf (a3.trans a4) hk) (fun hok=>?_))
 have h1:=h0.step a1 hok
 (repeat' ((conv=>whnf);first|refine zA ?_|refine zO ?_|refine Ob.auto ?_|refine zD 600 ?_|(apply zB <;> intro hb <;> (try simp [-zd] at hb) <;> try (exfalso;omega))|refine Ob.intro ?_ ?_))
 have t3':=t3 h1
 cases hk:(y.2.err == 0) with
 | false=>
  (repeat' ((conv=>whnf);first|refine zA ?_|refine zO ?_|refine Ob.auto ?_|refine zI ?_|refine zD 600 ?_|(refine qk (fun _=>rfl) (by kernel_rfl) 600 ?_)|(apply zB <;> intro hb <;> (try simp [-zd] at hb) <;> try (exfalso;omega))|refine Ob.intro ?_ ?_))
  ((conv=>whnf);refine CallY.mpan 99 [0] (t3') hk (qaf a4 hk) (by kernel_rfl) (by kernel_rfl) leA qa (by exact qb rfl) ?_)
  (repeat' ((conv=>whnf);first|refine zO ?_|refine Ob.auto ?_|refine zI ?_|refine zD 600 ?_|(refine qk (fun _=>rfl) (by kernel_rfl) 600 ?_)|(apply zB <;> intro hb <;> (try simp [-zd] at hb) <;> try (exfalso;omega))|refine Ob.intro ?_ ?_))
  ((conv=>whnf);refine AltG.far 11 [1] (by kernel_rfl) farA (EndG.dead 99 (by rfl)))
 | true=>
  (repeat' ((conv=>whnf);first|refine zA ?_|refine zO ?_|refine Ob.auto ?_|refine zI ?_|refine zD 600 ?_|(refine qk (fun _=>rfl) (by kernel_rfl) 600 ?_)|(apply zB <;> intro hb <;> (try simp [-zd] at hb) <;> try (exfalso;omega))|refine Ob.intro ?_ ?_))
  ((conv=>whnf);refine CallY.trip [0] (t3'.trip hk) (by kernel_rfl) leA qa (by exact qb rfl) (by exact qb rfl) ?_)
  (repeat' ((conv=>whnf);first|refine zO ?_|refine Ob.auto ?_|refine zI ?_|refine zD 600 ?_|(refine qk (fun _=>rfl) (by kernel_rfl) 600 ?_)|(apply zB <;> intro hb <;> (try simp [-zd] at hb) <;> try (exfalso;omega))|refine Ob.intro ?_ ?_))
  ((conv=>whnf);refine AltG.far 11 [1] (by kernel_rfl) farA (EndG.go ?_))
  (repeat' ((conv=>whnf);first|refine zA ?_|refine zO ?_|refine Ob.auto ?_|refine zD 600 ?_|(apply zB <;> intro hb <;> (try simp [-zd] at hb) <;> try (exfalso;omega))|refine Ob.intro ?_ ?_))
  have h4:=h1.step a3 hk
  (((conv=>whnf);refine qae frzA ?_);(conv=>whnf);refine qt (fun _=>rfl) 600 [0] (t4 h4) (by kernel_rfl) (by kernel_rfl) ⟨Le.refl _,jp rfl,trivial⟩ qa (by exact qb rfl) (by exact qb rfl) (by kernel_rfl) (fun hk=>⟨hk,rfl⟩) (fun hok=>?_))
  (repeat' ((conv=>whnf);first|refine zA ?_|refine zO ?_|refine Ob.auto ?_|refine zD 600 ?_|(apply zB <;> intro hb <;> (try simp [-zd] at hb) <;> try (exfalso;omega))|refine Ob.intro ?_ ?_))
  exact ⟨hok,Le.rptrL ⟨Le.refl _,jp rfl,Le.nils _ _,Le.refl _,Le.refl _,qrr rfl,trivial⟩,qa⟩
theorem jqa (hc:TC ts) (h:PreC ts (n+1) p) (hs:(tk ts p).s=qbx):RdM ts 99 (qd ts (n+1)) p:=by
 have ht:=hc.ok
 have h2:=ht.len
 have key:∀ s,kwB s=true→sees ts p s=((tk ts p).s == s):=fun s hs=>qdt hc.kind h.at_ h.err hs
 have see:sees ts p qbx=true:=by rw [key _ (by decide +kernel),hs];decide
 have hkc:=qff qbx
 rw [show keyF qbx=true by decide +kernel] at hkc
 have hnow:Con Try.prog 38 [.rptr (p.cellsC ts)] (.agg [iv (tk ts p).kind,.str qbx,iv (tk ts p).pos]):=by rw [← hs];exact qw h.at_
 have A0:=(qf ht h.at_ see).ok h.at_
 have h0:=h.s see ht
 have g0:=h.at_.lo
 have g1:=h0.at_.hi
 have g2:(adv p).at_=p.at_+1:=rfl
 have no_kIdle:¬ (sees ts p jq=true):=by rw [key _ (by decide +kernel),hs];decide
 have no_kRecv:¬ (sees ts p jn=true):=by rw [key _ (by decide +kernel),hs];decide
 have no_kWhen:¬ (sees ts p jr=true):=by rw [key _ (by decide +kernel),hs];decide
 have no_kChoose:¬ (sees ts p qp=true):=by rw [key _ (by decide +kernel),hs];decide
 have no_kSend:¬ (sees ts p qbu=true):=by rw [key _ (by decide +kernel),hs];decide
 have no_kIf:¬ (sees ts p kIf=true):=by rw [key _ (by decide +kernel),hs];decide
 have no_kWhile:¬ (sees ts p qbv=true):=by rw [key _ (by decide +kernel),hs];decide
 have no_kAtomic:¬ (sees ts p qbw=true):=by rw [key _ (by decide +kernel),hs];decide
 have no_kStop:¬ (sees ts p qby=true):=by rw [key _ (by decide +kernel),hs];decide
 have e2:qd ts (n+1) p=(.mk 14 [] [] (tk ts p).pos [],must ts (adv p) qj):=by
  unfold qd
  simp only
  rw [ze (by rintro (h|h|h|h) <;> first|exact no_kIdle h|exact no_kRecv h|exact no_kWhen h|exact no_kChoose h),ze no_kSend,ze no_kIf,ze no_kWhile,ze no_kAtomic,zf see]
 rw [RdM,e2]
 dsimp only
 have t4:=qap hc h0 (s:=qj) (by decide +kernel)
 generalize must ts (adv p) qj=z at *
 refine qbg (T:=tab Try.prog) (C:={}) 600 (fun _=>rfl) Try.func99 rfl (by kernel_rfl) (by kernel_rfl) (fun c0 rdb mpb=>?_)
 (repeat' ((conv=>whnf);first|refine zA ?_|refine zO ?_|refine Ob.auto ?_|refine zD 600 ?_|(apply zB <;> intro hb <;> (try simp [-zd] at hb) <;> try (exfalso;omega))|refine Ob.intro ?_ ?_))
 ((conv=>whnf);refine zT 600 [0] (qca h.at_ 6) qa ?_)
 (repeat' ((conv=>whnf);first|refine zA ?_|refine zO ?_|refine Ob.auto ?_|(refine Ob.intro (by (exact qy (by dsimp only;omega) (by dsimp only;omega))) ?_)|refine zC 600 (hnow) ?_|refine zG 600 (fun hg=>hnow) ?_|(refine CallY.con (hnow) (by rfl) leA ?_)|(refine CallZ.con (fun hg=>hnow) jf (by rfl) ?_)|refine zC 600 (hkc) ?_|refine zG 600 (fun hg=>hkc) ?_|(refine CallY.con (hkc) (by rfl) leA ?_)|(refine CallZ.con (fun hg=>hkc) jf (by rfl) ?_)|(refine qm (fun _=>rfl) 600 (hnow) qe (by (repeat' (first|exact trivial|exact Le.refl _|(refine And.intro ?_ ?_))) <;> fail) (by rfl) (by kernel_rfl) ?_)|(refine qx (fun _=>rfl) 600 (fun hg=>hnow) (fun hg=>qe) (fun hg=>(by (repeat' (first|exact trivial|exact Le.refl _|exact Le.cnd hg|(refine And.intro ?_ ?_))) <;> fail)) (by rfl) (by kernel_rfl) ?_)|(refine qm (fun _=>rfl) 600 (hkc) qe (by (repeat' (first|exact trivial|exact Le.refl _|(refine And.intro ?_ ?_))) <;> fail) (by rfl) (by kernel_rfl) ?_)|(refine qx (fun _=>rfl) 600 (fun hg=>hkc) (fun hg=>qe) (fun hg=>(by (repeat' (first|exact trivial|exact Le.refl _|exact Le.cnd hg|(refine And.intro ?_ ?_))) <;> fail)) (by rfl) (by kernel_rfl) ?_)|refine zD 600 ?_|(apply zB <;> intro hb <;> (try simp [-zd] at hb) <;> try (exfalso;omega))|refine Ob.intro ?_ ?_))
 (((conv=>whnf);refine qae frzA ?_);(conv=>whnf);refine qt (fun _=>rfl) 600 [0] (t4) (by kernel_rfl) (by kernel_rfl) ⟨Le.refl _,jp rfl,trivial⟩ qa (by exact qb rfl) (by exact qb rfl) (by kernel_rfl) (fun hk=>⟨hk,rfl⟩) (fun hok=>?_))
 (repeat' ((conv=>whnf);first|refine zA ?_|refine zO ?_|refine Ob.auto ?_|refine zD 600 ?_|(apply zB <;> intro hb <;> (try simp [-zd] at hb) <;> try (exfalso;omega))|refine Ob.intro ?_ ?_))
 exact ⟨hok,Le.rptrL ⟨Le.refl _,Le.nils _ _,Le.nils _ _,Le.refl _,Le.refl _,Le.nils _ _,trivial⟩,qa⟩
theorem jqb (hc:TC ts) (h:PreC ts (n+1) p) (hs:(tk ts p).s=qby):RdM ts 99 (qd ts (n+1)) p:=by
 have ht:=hc.ok
 have h2:=ht.len
 have key:∀ s,kwB s=true→sees ts p s=((tk ts p).s == s):=fun s hs=>qdt hc.kind h.at_ h.err hs
 have see:sees ts p qby=true:=by rw [key _ (by decide +kernel),hs];decide
 have hkc:=qff qby
 rw [show keyF qby=true by decide +kernel] at hkc
 have hnow:Con Try.prog 38 [.rptr (p.cellsC ts)] (.agg [iv (tk ts p).kind,.str qby,iv (tk ts p).pos]):=by rw [← hs];exact qw h.at_
 have A0:=(qf ht h.at_ see).ok h.at_
 have h0:=h.s see ht
 have g0:=h.at_.lo
 have g1:=h0.at_.hi
 have g2:(adv p).at_=p.at_+1:=rfl
 have no_kIdle:¬ (sees ts p jq=true):=by rw [key _ (by decide +kernel),hs];decide
 have no_kRecv:¬ (sees ts p jn=true):=by rw [key _ (by decide +kernel),hs];decide
 have no_kWhen:¬ (sees ts p jr=true):=by rw [key _ (by decide +kernel),hs];decide
 have no_kChoose:¬ (sees ts p qp=true):=by rw [key _ (by decide +kernel),hs];decide
 have no_kSend:¬ (sees ts p qbu=true):=by rw [key _ (by decide +kernel),hs];decide
 have no_kIf:¬ (sees ts p kIf=true):=by rw [key _ (by decide +kernel),hs];decide
 have no_kWhile:¬ (sees ts p qbv=true):=by rw [key _ (by decide +kernel),hs];decide
 have no_kAtomic:¬ (sees ts p qbw=true):=by rw [key _ (by decide +kernel),hs];decide
 have no_kSkip:¬ (sees ts p qbx=true):=by rw [key _ (by decide +kernel),hs];decide
 have e2:qd ts (n+1) p=(.mk 15 [] [] (tk ts p).pos [],must ts (adv p) qj):=by
  unfold qd
  simp only
  rw [ze (by rintro (h|h|h|h) <;> first|exact no_kIdle h|exact no_kRecv h|exact no_kWhen h|exact no_kChoose h),ze no_kSend,ze no_kIf,ze no_kWhile,ze no_kAtomic,ze no_kSkip,zf see]
 rw [RdM,e2]
 dsimp only
 have t4:=qap hc h0 (s:=qj) (by decide +kernel)
 generalize must ts (adv p) qj=z at *
 refine qbg (T:=tab Try.prog) (C:={}) 600 (fun _=>rfl) Try.func99 rfl (by kernel_rfl) (by kernel_rfl) (fun c0 rdb mpb=>?_)
 (repeat' ((conv=>whnf);first|refine zA ?_|refine zO ?_|refine Ob.auto ?_|refine zD 600 ?_|(apply zB <;> intro hb <;> (try simp [-zd] at hb) <;> try (exfalso;omega))|refine Ob.intro ?_ ?_))
 ((conv=>whnf);refine zT 600 [0] (qca h.at_ 6) qa ?_)
 (repeat' ((conv=>whnf);first|refine zA ?_|refine zO ?_|refine Ob.auto ?_|(refine Ob.intro (by (exact qy (by dsimp only;omega) (by dsimp only;omega))) ?_)|refine zC 600 (hnow) ?_|refine zG 600 (fun hg=>hnow) ?_|(refine CallY.con (hnow) (by rfl) leA ?_)|(refine CallZ.con (fun hg=>hnow) jf (by rfl) ?_)|refine zC 600 (hkc) ?_|refine zG 600 (fun hg=>hkc) ?_|(refine CallY.con (hkc) (by rfl) leA ?_)|(refine CallZ.con (fun hg=>hkc) jf (by rfl) ?_)|(refine qm (fun _=>rfl) 600 (hnow) qe (by (repeat' (first|exact trivial|exact Le.refl _|(refine And.intro ?_ ?_))) <;> fail) (by rfl) (by kernel_rfl) ?_)|(refine qx (fun _=>rfl) 600 (fun hg=>hnow) (fun hg=>qe) (fun hg=>(by (repeat' (first|exact trivial|exact Le.refl _|exact Le.cnd hg|(refine And.intro ?_ ?_))) <;> fail)) (by rfl) (by kernel_rfl) ?_)|(refine qm (fun _=>rfl) 600 (hkc) qe (by (repeat' (first|exact trivial|exact Le.refl _|(refine And.intro ?_ ?_))) <;> fail) (by rfl) (by kernel_rfl) ?_)|(refine qx (fun _=>rfl) 600 (fun hg=>hkc) (fun hg=>qe) (fun hg=>(by (repeat' (first|exact trivial|exact Le.refl _|exact Le.cnd hg|(refine And.intro ?_ ?_))) <;> fail)) (by rfl) (by kernel_rfl) ?_)|refine zD 600 ?_|(apply zB <;> intro hb <;> (try simp [-zd] at hb) <;> try (exfalso;omega))|refine Ob.intro ?_ ?_))
 (((conv=>whnf);refine qae frzA ?_);(conv=>whnf);refine qt (fun _=>rfl) 600 [0] (t4) (by kernel_rfl) (by kernel_rfl) ⟨Le.refl _,jp rfl,trivial⟩ qa (by exact qb rfl) (by exact qb rfl) (by kernel_rfl) (fun hk=>⟨hk,rfl⟩) (fun hok=>?_))
 (repeat' ((conv=>whnf);first|refine zA ?_|refine zO ?_|refine Ob.auto ?_|refine zD 600 ?_|(apply zB <;> intro hb <;> (try simp [-zd] at hb) <;> try (exfalso;omega))|refine Ob.intro ?_ ?_))
 exact ⟨hok,Le.rptrL ⟨Le.refl _,Le.nils _ _,Le.nils _ _,Le.refl _,Le.refl _,Le.nils _ _,trivial⟩,qa⟩
end
end Go.Proofs.Ythfaleaojlnnoaa
