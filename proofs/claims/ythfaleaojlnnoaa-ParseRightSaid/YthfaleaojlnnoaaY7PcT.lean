/- Contracts of the program's parser: statements that begin with a word of the language. -/
import Derived.Test.YthfaleaojlnnoaaY7PcY
import Derived.Test.YthfaleaojlnnoaaY72
set_option linter.unusedSimpArgs false
set_option linter.unusedVariables false
namespace Go.Proofs.Ythfaleaojlnnoaa
open List renaming getD_eq_getElem?_getD → zd
open Go Go.Sx Go.RowKit Go.St Pa
set_option maxRecDepth 100000
set_option maxHeartbeats 16000000
section
variable {ts:List Lx.Tok} {p q r g:Ps} {n:Nat}
theorem jmx (hc:TC ts) (hbt:∀ q,PreC ts n q→RdM ts 107 (qw ts (qf ts n)) q) (h:PreC ts (n+1) p) (hs:(tk ts p).s=qab):RdM ts 99 (qf ts (n+1)) p:=by
 have ht:=hc.ok
 have h2:=ht.len
 have key:∀ s,kwB s=true→sees ts p s=((tk ts p).s == s):=fun s hs=>qcx hc.kind h.at_ h.err hs
 have see:sees ts p qab=true:=by rw [key _ (by decide +kernel),hs];decide
 have hkc:=qdu qab
 rw [show keyF qab=true by decide +kernel] at hkc
 have hnow:Con Try.prog 38 [.rptr (p.cellsC ts)] (.agg [iv (tk ts p).kind,.str qab,iv (tk ts p).pos]):=by rw [← hs];exact qr h.at_
 have A0:=(qh ht h.at_ see).ok h.at_
 have h0:=h.s see ht
 have g0:=h.at_.lo
 have g1:=h0.at_.hi
 have g2:(adv p).at_=p.at_+1:=rfl
 have hB:=qgq ht (qeb ht n)
 have no_kRecv:¬ (sees ts p jy=true):=by rw [key _ (by decide +kernel),hs];decide
 have no_kWhen:¬ (sees ts p qac=true):=by rw [key _ (by decide +kernel),hs];decide
 have no_kChoose:¬ (sees ts p ji=true):=by rw [key _ (by decide +kernel),hs];decide
 have no_kSend:¬ (sees ts p qbz=true):=by rw [key _ (by decide +kernel),hs];decide
 have no_kIf:¬ (sees ts p kIf=true):=by rw [key _ (by decide +kernel),hs];decide
 have no_kWhile:¬ (sees ts p qca=true):=by rw [key _ (by decide +kernel),hs];decide
 have no_kAtomic:¬ (sees ts p qcb=true):=by rw [key _ (by decide +kernel),hs];decide
 have no_kSkip:¬ (sees ts p qcc=true):=by rw [key _ (by decide +kernel),hs];decide
 have no_kStop:¬ (sees ts p qcd=true):=by rw [key _ (by decide +kernel),hs];decide
 have key1:∀ s,kwB s=true→sees ts (adv p) s=((tk ts (adv p)).s == s):=fun s hs=>qcx hc.kind h0.at_ h0.err hs
 have hnow1:=qr h0.at_
 have e0:took ts p qab=adv p:=zb see
 have e1:qaf ts p qab=1:=zb see
 have e2:qf ts (n+1) p=qce ts (qw ts (qf ts n)) (tk ts p).pos 1 (adv p):=by
  unfold qf
  simp only
  rw [zb (.inl see),e0,e1]
 have t0:=jmp hc h0
 by_cases hw0:(tk ts (adv p)).s=jy
 ·have see1:sees ts (adv p) jy=true:=by rw [key1 _ (by decide +kernel),hw0];decide
  have em3:qgf ts (adv p)=adv (adv p):=zb (.inl see1)
  have h1:=h0.s see1 ht
  have t1:=jap hc h1 1 (tk ts p).pos
  rw [em3] at t0
  have hnow2:Con Try.prog 38 [.rptr ((adv p).cellsC ts)] (.agg [iv (tk ts (adv p)).kind,.str jy,iv (tk ts (adv p)).pos]):=by rw [← hw0];exact hnow1
  have e3:qce ts (qw ts (qf ts n)) (tk ts p).pos 1 (adv p)=(.mk 8 [jn ts (adv (adv p)),jn ts (qd ts (adv (adv p)))] [1] (tk ts p).pos [],must ts (qd ts (qd ts (adv (adv p)))) qj):=zb see1
  rw [RdM,e2,e3]
  dsimp only
  refine qat (T:=tab Try.prog) (C:={}) 600 (fun _=>rfl) Try.func99 rfl (by kernel_rfl) (by kernel_rfl) (fun c0 rdb mpb=>?_)
  (repeat' ((conv=>whnf);first|refine zA ?_|refine zO ?_|refine Ob.auto ?_|refine zD 600 ?_|(apply zB <;> intro hb <;> (try simp [-zd] at hb) <;> try (exfalso;omega))|refine Ob.intro ?_ ?_))
  ((conv=>whnf);refine zT 600 [0] (qbc h.at_ 6) qa ?_)
  (repeat' ((conv=>whnf);first|refine zA ?_|refine zO ?_|refine Ob.auto ?_|(refine Ob.intro (by (exact qv (by dsimp only;omega) (by dsimp only;omega))) ?_)|refine zC 600 (hkc) ?_|refine zG 600 (fun hg=>hkc) ?_|(refine CallY.con (hkc) (by rfl) leA ?_)|(refine CallZ.con (fun hg=>hkc) qn (by rfl) ?_)|(refine ql (fun _=>rfl) 600 (hkc) qc (by (repeat' (first|exact trivial|exact Le.refl _|(refine And.intro ?_ ?_))) <;> fail) (by rfl) (by kernel_rfl) ?_)|(refine qp (fun _=>rfl) 600 (fun hg=>hkc) (fun hg=>qc) (fun hg=>(by (repeat' (first|exact trivial|exact Le.refl _|exact Le.cnd hg|(refine And.intro ?_ ?_))) <;> fail)) (by rfl) (by kernel_rfl) ?_)|refine zD 600 ?_|(apply zB <;> intro hb <;> (try simp [-zd] at hb) <;> try (exfalso;omega))|refine Ob.intro ?_ ?_))
  ((conv=>whnf);refine ql (fun _=>rfl) 600 (hnow) qc ⟨Le.refl _,trivial⟩ (by rfl) (by kernel_rfl) ?_)
  (repeat' ((conv=>whnf);first|refine zA ?_|refine zO ?_|refine Ob.auto ?_|(refine Ob.intro (by (exact qv (by dsimp only;omega) (by dsimp only;omega))) ?_)|refine zC 600 (hkc) ?_|refine zG 600 (fun hg=>hkc) ?_|(refine CallY.con (hkc) (by rfl) leA ?_)|(refine CallZ.con (fun hg=>hkc) qn (by rfl) ?_)|(refine ql (fun _=>rfl) 600 (hkc) qc (by (repeat' (first|exact trivial|exact Le.refl _|(refine And.intro ?_ ?_))) <;> fail) (by rfl) (by kernel_rfl) ?_)|(refine qp (fun _=>rfl) 600 (fun hg=>hkc) (fun hg=>qc) (fun hg=>(by (repeat' (first|exact trivial|exact Le.refl _|exact Le.cnd hg|(refine And.intro ?_ ?_))) <;> fail)) (by rfl) (by kernel_rfl) ?_)|refine zD 600 ?_|(apply zB <;> intro hb <;> (try simp [-zd] at hb) <;> try (exfalso;omega))|refine Ob.intro ?_ ?_))
  ((conv=>whnf);refine ql (fun _=>rfl) 600 (hnow2) qc ⟨Le.refl _,trivial⟩ (by rfl) (by kernel_rfl) ?_)
  (repeat' ((conv=>whnf);first|refine zA ?_|refine zO ?_|refine Ob.auto ?_|refine zD 600 ?_|(apply zB <;> intro hb <;> (try simp [-zd] at hb) <;> try (exfalso;omega))|refine Ob.intro ?_ ?_))
  ((conv=>whnf);refine jr frzA ?_)
  ((conv=>whnf);refine qm (fun _=>rfl) 600 [0] (t0) (by kernel_rfl) (by kernel_rfl) ⟨Le.refl _,qqd rfl rfl rfl,trivial⟩ qa (by exact qb rfl) (by exact qb rfl) (by kernel_rfl) (fun hk=>by have:=qbw h0.err;rw [this] at hk;cases hk) (fun hok=>?_))
  (repeat' ((conv=>whnf);first|refine zA ?_|refine zO ?_|refine Ob.auto ?_|refine zD 600 ?_|(apply zB <;> intro hb <;> (try simp [-zd] at hb) <;> try (exfalso;omega))|refine Ob.intro ?_ ?_))
  ((conv=>whnf);refine qm (fun _=>rfl) 600 [0,1] (t1) (by kernel_rfl) (by kernel_rfl) leA qa (by exact qb rfl) (by exact qb rfl) (by kernel_rfl) (fun hk=>⟨hk,rfl⟩) (fun hok=>?_))
  (repeat' ((conv=>whnf);first|refine zA ?_|refine zO ?_|refine Ob.auto ?_|refine zD 600 ?_|(apply zB <;> intro hb <;> (try simp [-zd] at hb) <;> try (exfalso;omega))|refine Ob.intro ?_ ?_))
  exact ⟨hok,Le.rptrL ⟨Le.refl _,Le.refl _,Le.refl _,Le.refl _,Le.refl _,Le.nils _ _,trivial⟩,qa⟩
 by_cases hw1:(tk ts (adv p)).s=qac
 ·have see1:sees ts (adv p) qac=true:=by rw [key1 _ (by decide +kernel),hw1];decide
  have not0:¬ (sees ts (adv p) jy=true):=by rw [key1 _ (by decide +kernel),hw1];decide
  have em3:qgf ts (adv p)=adv (adv p):=zb (.inr (.inl see1))
  have h1:=h0.s see1 ht
  have t1:=jaq hc (qjh hc) h1 1 (tk ts p).pos
  rw [em3] at t0
  have hnow2:Con Try.prog 38 [.rptr ((adv p).cellsC ts)] (.agg [iv (tk ts (adv p)).kind,.str qac,iv (tk ts (adv p)).pos]):=by rw [← hw1];exact hnow1
  have e3:qce ts (qw ts (qf ts n)) (tk ts p).pos 1 (adv p)=(.mk 9 [] [1] (tk ts p).pos [(eF ts (adv (adv p))).1],must ts (eF ts (adv (adv p))).2 qj):=(za not0).trans (zb see1)
  rw [RdM,e2,e3]
  dsimp only
  refine qat (T:=tab Try.prog) (C:={}) 600 (fun _=>rfl) Try.func99 rfl (by kernel_rfl) (by kernel_rfl) (fun c0 rdb mpb=>?_)
  (repeat' ((conv=>whnf);first|refine zA ?_|refine zO ?_|refine Ob.auto ?_|refine zD 600 ?_|(apply zB <;> intro hb <;> (try simp [-zd] at hb) <;> try (exfalso;omega))|refine Ob.intro ?_ ?_))
  ((conv=>whnf);refine zT 600 [0] (qbc h.at_ 6) qa ?_)
  (repeat' ((conv=>whnf);first|refine zA ?_|refine zO ?_|refine Ob.auto ?_|(refine Ob.intro (by (exact qv (by dsimp only;omega) (by dsimp only;omega))) ?_)|refine zC 600 (hkc) ?_|refine zG 600 (fun hg=>hkc) ?_|(refine CallY.con (hkc) (by rfl) leA ?_)|(refine CallZ.con (fun hg=>hkc) qn (by rfl) ?_)|(refine ql (fun _=>rfl) 600 (hkc) qc (by (repeat' (first|exact trivial|exact Le.refl _|(refine And.intro ?_ ?_))) <;> fail) (by rfl) (by kernel_rfl) ?_)|(refine qp (fun _=>rfl) 600 (fun hg=>hkc) (fun hg=>qc) (fun hg=>(by (repeat' (first|exact trivial|exact Le.refl _|exact Le.cnd hg|(refine And.intro ?_ ?_))) <;> fail)) (by rfl) (by kernel_rfl) ?_)|refine zD 600 ?_|(apply zB <;> intro hb <;> (try simp [-zd] at hb) <;> try (exfalso;omega))|refine Ob.intro ?_ ?_))
  ((conv=>whnf);refine ql (fun _=>rfl) 600 (hnow) qc ⟨Le.refl _,trivial⟩ (by rfl) (by kernel_rfl) ?_)
  (repeat' ((conv=>whnf);first|refine zA ?_|refine zO ?_|refine Ob.auto ?_|(refine Ob.intro (by (exact qv (by dsimp only;omega) (by dsimp only;omega))) ?_)|refine zC 600 (hkc) ?_|refine zG 600 (fun hg=>hkc) ?_|(refine CallY.con (hkc) (by rfl) leA ?_)|(refine CallZ.con (fun hg=>hkc) qn (by rfl) ?_)|(refine ql (fun _=>rfl) 600 (hkc) qc (by (repeat' (first|exact trivial|exact Le.refl _|(refine And.intro ?_ ?_))) <;> fail) (by rfl) (by kernel_rfl) ?_)|(refine qp (fun _=>rfl) 600 (fun hg=>hkc) (fun hg=>qc) (fun hg=>(by (repeat' (first|exact trivial|exact Le.refl _|exact Le.cnd hg|(refine And.intro ?_ ?_))) <;> fail)) (by rfl) (by kernel_rfl) ?_)|refine zD 600 ?_|(apply zB <;> intro hb <;> (try simp [-zd] at hb) <;> try (exfalso;omega))|refine Ob.intro ?_ ?_))
  ((conv=>whnf);refine ql (fun _=>rfl) 600 (hnow2) qc ⟨Le.refl _,trivial⟩ (by rfl) (by kernel_rfl) ?_)
  (repeat' ((conv=>whnf);first|refine zA ?_|refine zO ?_|refine Ob.auto ?_|refine zD 600 ?_|(apply zB <;> intro hb <;> (try simp [-zd] at hb) <;> try (exfalso;omega))|refine Ob.intro ?_ ?_))
  ((conv=>whnf);refine jr frzA ?_)
  ((conv=>whnf);refine qm (fun _=>rfl) 600 [0] (t0) (by kernel_rfl) (by kernel_rfl) ⟨Le.refl _,qqd rfl rfl rfl,trivial⟩ qa (by exact qb rfl) (by exact qb rfl) (by kernel_rfl) (fun hk=>by have:=qbw h0.err;rw [this] at hk;cases hk) (fun hok=>?_))
  (repeat' ((conv=>whnf);first|refine zA ?_|refine zO ?_|refine Ob.auto ?_|refine zD 600 ?_|(apply zB <;> intro hb <;> (try simp [-zd] at hb) <;> try (exfalso;omega))|refine Ob.intro ?_ ?_))
  ((conv=>whnf);refine qm (fun _=>rfl) 600 [0,1] (t1) (by kernel_rfl) (by kernel_rfl) leA qa (by exact qb rfl) (by exact qb rfl) (by kernel_rfl) (fun hk=>⟨hk,rfl⟩) (fun hok=>?_))
  (repeat' ((conv=>whnf);first|refine zA ?_|refine zO ?_|refine Ob.auto ?_|refine zD 600 ?_|(apply zB <;> intro hb <;> (try simp [-zd] at hb) <;> try (exfalso;omega))|refine Ob.intro ?_ ?_))
  exact ⟨hok,Le.rptrL ⟨Le.refl _,Le.nils _ _,Le.refl _,Le.refl _,Le.refl _,Le.refl _,trivial⟩,qa⟩
 by_cases hw2:(tk ts (adv p)).s=ji
 ·have see1:sees ts (adv p) ji=true:=by rw [key1 _ (by decide +kernel),hw2];decide
  have not0:¬ (sees ts (adv p) jy=true):=by rw [key1 _ (by decide +kernel),hw2];decide
  have not1:¬ (sees ts (adv p) qac=true):=by rw [key1 _ (by decide +kernel),hw2];decide
  have em3:qgf ts (adv p)=adv (adv p):=zb (.inr (.inr see1))
  have h1:=h0.s see1 ht
  have t1:=jar hc hB hbt (h.less ((qh ht h0.at_ see1)) (qbw h0.err)) 1 (tk ts p).pos
  rw [em3] at t0
  have hnow2:Con Try.prog 38 [.rptr ((adv p).cellsC ts)] (.agg [iv (tk ts (adv p)).kind,.str ji,iv (tk ts (adv p)).pos]):=by rw [← hw2];exact hnow1
  have em:must ts (adv p) ji=adv (adv p):=zb see1
  have e3:qce ts (qw ts (qf ts n)) (tk ts p).pos 1 (adv p)=(.mk 10 [] [1] (tk ts p).pos (orL ts (qw ts (qf ts n)) ts.length [(qw ts (qf ts n) (adv (adv p))).1] (qw ts (qf ts n) (adv (adv p))).2).1,(orL ts (qw ts (qf ts n)) ts.length [(qw ts (qf ts n) (adv (adv p))).1] (qw ts (qf ts n) (adv (adv p))).2).2):=by
    refine (za not0).trans ((za not1).trans ?_)
    simp only
    rw [em]
  rw [RdM,e2,e3]
  dsimp only
  refine qat (T:=tab Try.prog) (C:={}) 600 (fun _=>rfl) Try.func99 rfl (by kernel_rfl) (by kernel_rfl) (fun c0 rdb mpb=>?_)
  (repeat' ((conv=>whnf);first|refine zA ?_|refine zO ?_|refine Ob.auto ?_|refine zD 600 ?_|(apply zB <;> intro hb <;> (try simp [-zd] at hb) <;> try (exfalso;omega))|refine Ob.intro ?_ ?_))
  ((conv=>whnf);refine zT 600 [0] (qbc h.at_ 6) qa ?_)
  (repeat' ((conv=>whnf);first|refine zA ?_|refine zO ?_|refine Ob.auto ?_|(refine Ob.intro (by (exact qv (by dsimp only;omega) (by dsimp only;omega))) ?_)|refine zC 600 (hkc) ?_|refine zG 600 (fun hg=>hkc) ?_|(refine CallY.con (hkc) (by rfl) leA ?_)|(refine CallZ.con (fun hg=>hkc) qn (by rfl) ?_)|(refine ql (fun _=>rfl) 600 (hkc) qc (by (repeat' (first|exact trivial|exact Le.refl _|(refine And.intro ?_ ?_))) <;> fail) (by rfl) (by kernel_rfl) ?_)|(refine qp (fun _=>rfl) 600 (fun hg=>hkc) (fun hg=>qc) (fun hg=>(by (repeat' (first|exact trivial|exact Le.refl _|exact Le.cnd hg|(refine And.intro ?_ ?_))) <;> fail)) (by rfl) (by kernel_rfl) ?_)|refine zD 600 ?_|(apply zB <;> intro hb <;> (try simp [-zd] at hb) <;> try (exfalso;omega))|refine Ob.intro ?_ ?_))
  ((conv=>whnf);refine ql (fun _=>rfl) 600 (hnow) qc ⟨Le.refl _,trivial⟩ (by rfl) (by kernel_rfl) ?_)
  (repeat' ((conv=>whnf);first|refine zA ?_|refine zO ?_|refine Ob.auto ?_|(refine Ob.intro (by (exact qv (by dsimp only;omega) (by dsimp only;omega))) ?_)|refine zC 600 (hkc) ?_|refine zG 600 (fun hg=>hkc) ?_|(refine CallY.con (hkc) (by rfl) leA ?_)|(refine CallZ.con (fun hg=>hkc) qn (by rfl) ?_)|(refine ql (fun _=>rfl) 600 (hkc) qc (by (repeat' (first|exact trivial|exact Le.refl _|(refine And.intro ?_ ?_))) <;> fail) (by rfl) (by kernel_rfl) ?_)|(refine qp (fun _=>rfl) 600 (fun hg=>hkc) (fun hg=>qc) (fun hg=>(by (repeat' (first|exact trivial|exact Le.refl _|exact Le.cnd hg|(refine And.intro ?_ ?_))) <;> fail)) (by rfl) (by kernel_rfl) ?_)|refine zD 600 ?_|(apply zB <;> intro hb <;> (try simp [-zd] at hb) <;> try (exfalso;omega))|refine Ob.intro ?_ ?_))
  ((conv=>whnf);refine ql (fun _=>rfl) 600 (hnow2) qc ⟨Le.refl _,trivial⟩ (by rfl) (by kernel_rfl) ?_)
  (repeat' ((conv=>whnf);first|refine zA ?_|refine zO ?_|refine Ob.auto ?_|refine zD 600 ?_|(apply zB <;> intro hb <;> (try simp [-zd] at hb) <;> try (exfalso;omega))|refine Ob.intro ?_ ?_))
  ((conv=>whnf);refine jr frzA ?_)
  ((conv=>whnf);refine qm (fun _=>rfl) 600 [0] (t0) (by kernel_rfl) (by kernel_rfl) ⟨Le.refl _,qqd rfl rfl rfl,trivial⟩ qa (by exact qb rfl) (by exact qb rfl) (by kernel_rfl) (fun hk=>by have:=qbw h0.err;rw [this] at hk;cases hk) (fun hok=>?_))
  (repeat' ((conv=>whnf);first|refine zA ?_|refine zO ?_|refine Ob.auto ?_|refine zD 600 ?_|(apply zB <;> intro hb <;> (try simp [-zd] at hb) <;> try (exfalso;omega))|refine Ob.intro ?_ ?_))
  ((conv=>whnf);refine qm (fun _=>rfl) 600 [0,1] (t1) (by kernel_rfl) (by kernel_rfl) leA qa (by exact qb rfl) (by exact qb rfl) (by kernel_rfl) (fun hk=>⟨hk,rfl⟩) (fun hok=>?_))
  (repeat' ((conv=>whnf);first|refine zA ?_|refine zO ?_|refine Ob.auto ?_|refine zD 600 ?_|(apply zB <;> intro hb <;> (try simp [-zd] at hb) <;> try (exfalso;omega))|refine Ob.intro ?_ ?_))
  exact ⟨hok,Le.rptrL ⟨Le.refl _,Le.nils _ _,Le.refl _,Le.refl _,Le.refl _,Le.refl _,trivial⟩,qa⟩
 have n0:¬ (sees ts (adv p) jy=true):=by rw [key1 _ (by decide +kernel)];simpa using hw0
 have n1:¬ (sees ts (adv p) qac=true):=by rw [key1 _ (by decide +kernel)];simpa using hw1
 have n2:¬ (sees ts (adv p) ji=true):=by rw [key1 _ (by decide +kernel)];simpa using hw2
 have em3:qgf ts (adv p)=bad ts (adv p) 11:=za (by rintro (h|h|h) <;> first|exact n0 h|exact n1 h|exact n2 h)
 have em:must ts (adv p) ji=bad ts (adv p) 11:=za n2
 have eb:bad ts (adv p) 11={ (adv p) with err:=11,fat:=(tk ts (adv p)).pos }:=zb h0.err
 have hbe:(bad ts (adv p) 11).err≠0:=by rw [eb];show (11:Int)≠0;decide
 have AB:=(qpm (ts:=ts) h0.at_ 11).ok h0.at_
 have e3:(qce ts (qw ts (qf ts n)) (tk ts p).pos 1 (adv p)).2=bad ts (adv p) 11:=by
  unfold qce
  rw [za n0,za n1]
  simp only
  rw [em]
  have e4:=(hB _ AB).err hbe
  generalize qw ts (qf ts n) (bad ts (adv p) 11)=u at *
  rw [e4]
  cases ts.length with
  | zero=>rfl
  | succ m=>rw [orL,za (by rw [qnc hbe];decide)]
 rw [em3] at t0
 rw [RdM,e2]
 generalize qce ts (qw ts (qf ts n)) (tk ts p).pos 1 (adv p)=w at *
 rw [e3]
 refine qat (T:=tab Try.prog) (C:={}) 600 (fun _=>rfl) Try.func99 rfl (by kernel_rfl) (by kernel_rfl) (fun c0 rdb mpb=>?_)
 (repeat' ((conv=>whnf);first|refine zA ?_|refine zO ?_|refine Ob.auto ?_|refine zD 600 ?_|(apply zB <;> intro hb <;> (try simp [-zd] at hb) <;> try (exfalso;omega))|refine Ob.intro ?_ ?_))
 ((conv=>whnf);refine zT 600 [0] (qbc h.at_ 6) qa ?_)
 (repeat' ((conv=>whnf);first|refine zA ?_|refine zO ?_|refine Ob.auto ?_|(refine Ob.intro (by (exact qv (by dsimp only;omega) (by dsimp only;omega))) ?_)|refine zC 600 (hkc) ?_|refine zG 600 (fun hg=>hkc) ?_|(refine CallY.con (hkc) (by rfl) leA ?_)|(refine CallZ.con (fun hg=>hkc) qn (by rfl) ?_)|(refine ql (fun _=>rfl) 600 (hkc) qc (by (repeat' (first|exact trivial|exact Le.refl _|(refine And.intro ?_ ?_))) <;> fail) (by rfl) (by kernel_rfl) ?_)|(refine qp (fun _=>rfl) 600 (fun hg=>hkc) (fun hg=>qc) (fun hg=>(by (repeat' (first|exact trivial|exact Le.refl _|exact Le.cnd hg|(refine And.intro ?_ ?_))) <;> fail)) (by rfl) (by kernel_rfl) ?_)|refine zD 600 ?_|(apply zB <;> intro hb <;> (try simp [-zd] at hb) <;> try (exfalso;omega))|refine Ob.intro ?_ ?_))
 ((conv=>whnf);refine ql (fun _=>rfl) 600 (hnow) qc ⟨Le.refl _,trivial⟩ (by rfl) (by kernel_rfl) ?_)
 (repeat' ((conv=>whnf);first|refine zA ?_|refine zO ?_|refine Ob.auto ?_|(refine Ob.intro (by (exact qv (by dsimp only;omega) (by dsimp only;omega))) ?_)|refine zC 600 (hkc) ?_|refine zG 600 (fun hg=>hkc) ?_|(refine CallY.con (hkc) (by rfl) leA ?_)|(refine CallZ.con (fun hg=>hkc) qn (by rfl) ?_)|(refine ql (fun _=>rfl) 600 (hkc) qc (by (repeat' (first|exact trivial|exact Le.refl _|(refine And.intro ?_ ?_))) <;> fail) (by rfl) (by kernel_rfl) ?_)|(refine qp (fun _=>rfl) 600 (fun hg=>hkc) (fun hg=>qc) (fun hg=>(by (repeat' (first|exact trivial|exact Le.refl _|exact Le.cnd hg|(refine And.intro ?_ ?_))) <;> fail)) (by rfl) (by kernel_rfl) ?_)|refine zD 600 ?_|(apply zB <;> intro hb <;> (try simp [-zd] at hb) <;> try (exfalso;omega))|refine Ob.intro ?_ ?_))
 ((conv=>whnf);refine ql (fun _=>rfl) 600 (hnow1) qc ⟨Le.refl _,trivial⟩ (by rfl) (by kernel_rfl) ?_)
 (repeat' ((conv=>whnf);first|refine zA ?_|refine zO ?_|refine Ob.auto ?_|refine zD 600 ?_|(apply zB <;> intro hb <;> (try simp [-zd] at hb) <;> try (exfalso;omega))|refine Ob.intro ?_ ?_))
 ((conv=>whnf);refine jr frzA ?_)
 ((conv=>whnf);refine qm (fun _=>rfl) 600 [0] (t0) (by kernel_rfl) (by kernel_rfl) ⟨Le.refl _,qqd rfl rfl rfl,trivial⟩ qa (by exact qb rfl) (by exact qb rfl) (by kernel_rfl) (fun hk=>⟨hk,rfl⟩) (fun hok=>?_))
 exact absurd (by simpa using hok) hbe
end
end Go.Proofs.Ythfaleaojlnnoaa
