/- Contracts of the program's parser: statements that begin with a word of the language. -/
import Derived.Test.YthfaleaojlnnoaaY6PcY
import Derived.Test.YthfaleaojlnnoaaY62
set_option linter.unusedSimpArgs false
set_option linter.unusedVariables false
namespace Go.Proofs.Ythfaleaojlnnoaa
open List renaming getD_eq_getElem?_getD → zd
open Go Go.Sx Go.RowKit Go.St Pa
set_option maxRecDepth 100000
set_option maxHeartbeats 16000000
section
variable {ts:List Lx.Tok} {p q r g:Ps} {n:Nat}
theorem joa (hc:TC ts) (hbt:∀ q,PreC ts n q→RdM ts 107 (qi ts (qe ts n)) q) (h:PreC ts (n+1) p) (hs:(tk ts p).s=jq):RdM ts 99 (qe ts (n+1)) p:=by
 have ht:=hc.ok
 have h2:=ht.len
 have key:∀ s,kwB s=true→sees ts p s=((tk ts p).s == s):=fun s hs=>qdi hc.kind h.at_ h.err hs
 have see:sees ts p jq=true:=by rw [key _ (by decide +kernel),hs];decide
 have hkc:=qet jq
 rw [show keyF jq=true by decide +kernel] at hkc
 have hnow:Con Try.prog 38 [.rptr (p.cellsC ts)] (.agg [iv (tk ts p).kind,.str jq,iv (tk ts p).pos]):=by rw [← hs];exact qw h.at_
 have A0:=(qg ht h.at_ see).ok h.at_
 have h0:=h.s see ht
 have g0:=h.at_.lo
 have g1:=h0.at_.hi
 have g2:(adv p).at_=p.at_+1:=rfl
 have hB:=qgs ht (qdz ht n)
 have no_kRecv:¬ (sees ts p ji=true):=by rw [key _ (by decide +kernel),hs];decide
 have no_kWhen:¬ (sees ts p jm=true):=by rw [key _ (by decide +kernel),hs];decide
 have no_kChoose:¬ (sees ts p qp=true):=by rw [key _ (by decide +kernel),hs];decide
 have no_kSend:¬ (sees ts p qbv=true):=by rw [key _ (by decide +kernel),hs];decide
 have no_kIf:¬ (sees ts p kIf=true):=by rw [key _ (by decide +kernel),hs];decide
 have no_kWhile:¬ (sees ts p qbw=true):=by rw [key _ (by decide +kernel),hs];decide
 have no_kAtomic:¬ (sees ts p qbx=true):=by rw [key _ (by decide +kernel),hs];decide
 have no_kSkip:¬ (sees ts p qby=true):=by rw [key _ (by decide +kernel),hs];decide
 have no_kStop:¬ (sees ts p qbz=true):=by rw [key _ (by decide +kernel),hs];decide
 have key1:∀ s,kwB s=true→sees ts (adv p) s=((tk ts (adv p)).s == s):=fun s hs=>qdi hc.kind h0.at_ h0.err hs
 have hnow1:=qw h0.at_
 have e0:took ts p jq=adv p:=zb see
 have e1:js ts p jq=1:=zb see
 have e2:qe ts (n+1) p=qbh ts (qi ts (qe ts n)) (tk ts p).pos 1 (adv p):=by
  unfold qe
  simp only
  rw [zb (.inl see),e0,e1]
 have t0:=jns hc h0
 by_cases hw0:(tk ts (adv p)).s=ji
 ·have see1:sees ts (adv p) ji=true:=by rw [key1 _ (by decide +kernel),hw0];decide
  have em3:qgv ts (adv p)=adv (adv p):=zb (.inl see1)
  have h1:=h0.s see1 ht
  have t1:=jbk hc h1 1 (tk ts p).pos
  rw [em3] at t0
  have hnow2:Con Try.prog 38 [.rptr ((adv p).cellsC ts)] (.agg [iv (tk ts (adv p)).kind,.str ji,iv (tk ts (adv p)).pos]):=by rw [← hw0];exact hnow1
  have e3:qbh ts (qi ts (qe ts n)) (tk ts p).pos 1 (adv p)=(.mk 8 [jd ts (adv (adv p)),jd ts (qd ts (adv (adv p)))] [1] (tk ts p).pos [],must ts (qd ts (qd ts (adv (adv p)))) sSemi):=zb see1
  rw [RdM,e2,e3]
  dsimp only
  refine qbb (T:=tab Try.prog) (C:={}) 600 (fun _=>rfl) Try.func99 rfl (by kernel_rfl) (by kernel_rfl) (fun c0 rdb mpb=>?_)
  (repeat' ((conv=>whnf);first|refine zA ?_|refine zO ?_|refine Ob.auto ?_|refine zD 600 ?_|(apply zB <;> intro hb <;> (try simp [-zd] at hb) <;> try (exfalso;omega))|refine Ob.intro ?_ ?_))
  ((conv=>whnf);refine zT 600 [0] (qbq h.at_ 6) qa ?_)
  (repeat' ((conv=>whnf);first|refine zA ?_|refine zO ?_|refine Ob.auto ?_|(refine Ob.intro (by (exact qx (by dsimp only;omega) (by dsimp only;omega))) ?_)|refine zC 600 (hkc) ?_|refine zG 600 (fun hg=>hkc) ?_|(refine CallY.con (hkc) (by rfl) leA ?_)|(refine CallZ.con (fun hg=>hkc) qz (by rfl) ?_)|(refine qj (fun _=>rfl) 600 (hkc) qc (by (repeat' (first|exact trivial|exact Le.refl _|(refine And.intro ?_ ?_))) <;> fail) (by rfl) (by kernel_rfl) ?_)|(refine qv (fun _=>rfl) 600 (fun hg=>hkc) (fun hg=>qc) (fun hg=>(by (repeat' (first|exact trivial|exact Le.refl _|exact Le.cnd hg|(refine And.intro ?_ ?_))) <;> fail)) (by rfl) (by kernel_rfl) ?_)|refine zD 600 ?_|(apply zB <;> intro hb <;> (try simp [-zd] at hb) <;> try (exfalso;omega))|refine Ob.intro ?_ ?_))
  ((conv=>whnf);refine qj (fun _=>rfl) 600 (hnow) qc ⟨Le.refl _,trivial⟩ (by rfl) (by kernel_rfl) ?_)
  (repeat' ((conv=>whnf);first|refine zA ?_|refine zO ?_|refine Ob.auto ?_|(refine Ob.intro (by (exact qx (by dsimp only;omega) (by dsimp only;omega))) ?_)|refine zC 600 (hkc) ?_|refine zG 600 (fun hg=>hkc) ?_|(refine CallY.con (hkc) (by rfl) leA ?_)|(refine CallZ.con (fun hg=>hkc) qz (by rfl) ?_)|(refine qj (fun _=>rfl) 600 (hkc) qc (by (repeat' (first|exact trivial|exact Le.refl _|(refine And.intro ?_ ?_))) <;> fail) (by rfl) (by kernel_rfl) ?_)|(refine qv (fun _=>rfl) 600 (fun hg=>hkc) (fun hg=>qc) (fun hg=>(by (repeat' (first|exact trivial|exact Le.refl _|exact Le.cnd hg|(refine And.intro ?_ ?_))) <;> fail)) (by rfl) (by kernel_rfl) ?_)|refine zD 600 ?_|(apply zB <;> intro hb <;> (try simp [-zd] at hb) <;> try (exfalso;omega))|refine Ob.intro ?_ ?_))
  ((conv=>whnf);refine qj (fun _=>rfl) 600 (hnow2) qc ⟨Le.refl _,trivial⟩ (by rfl) (by kernel_rfl) ?_)
  (repeat' ((conv=>whnf);first|refine zA ?_|refine zO ?_|refine Ob.auto ?_|refine zD 600 ?_|(apply zB <;> intro hb <;> (try simp [-zd] at hb) <;> try (exfalso;omega))|refine Ob.intro ?_ ?_))
  ((conv=>whnf);refine jz frzA ?_)
  ((conv=>whnf);refine qr (fun _=>rfl) 600 [0] (t0) (by kernel_rfl) (by kernel_rfl) ⟨Le.refl _,qqz rfl rfl rfl,trivial⟩ qa (by exact qb rfl) (by exact qb rfl) (by kernel_rfl) (fun hk=>by have:=qcq h0.err;rw [this] at hk;cases hk) (fun hok=>?_))
  (repeat' ((conv=>whnf);first|refine zA ?_|refine zO ?_|refine Ob.auto ?_|refine zD 600 ?_|(apply zB <;> intro hb <;> (try simp [-zd] at hb) <;> try (exfalso;omega))|refine Ob.intro ?_ ?_))
  ((conv=>whnf);refine qr (fun _=>rfl) 600 [0,1] (t1) (by kernel_rfl) (by kernel_rfl) leA qa (by exact qb rfl) (by exact qb rfl) (by kernel_rfl) (fun hk=>⟨hk,rfl⟩) (fun hok=>?_))
  (repeat' ((conv=>whnf);first|refine zA ?_|refine zO ?_|refine Ob.auto ?_|refine zD 600 ?_|(apply zB <;> intro hb <;> (try simp [-zd] at hb) <;> try (exfalso;omega))|refine Ob.intro ?_ ?_))
  exact ⟨hok,Le.rptrL ⟨Le.refl _,Le.refl _,Le.refl _,Le.refl _,Le.refl _,Le.nils _ _,trivial⟩,qa⟩
 by_cases hw1:(tk ts (adv p)).s=jm
 ·have see1:sees ts (adv p) jm=true:=by rw [key1 _ (by decide +kernel),hw1];decide
  have not0:¬ (sees ts (adv p) ji=true):=by rw [key1 _ (by decide +kernel),hw1];decide
  have em3:qgv ts (adv p)=adv (adv p):=zb (.inr (.inl see1))
  have h1:=h0.s see1 ht
  have t1:=jbl hc (qka hc) h1 1 (tk ts p).pos
  rw [em3] at t0
  have hnow2:Con Try.prog 38 [.rptr ((adv p).cellsC ts)] (.agg [iv (tk ts (adv p)).kind,.str jm,iv (tk ts (adv p)).pos]):=by rw [← hw1];exact hnow1
  have e3:qbh ts (qi ts (qe ts n)) (tk ts p).pos 1 (adv p)=(.mk 9 [] [1] (tk ts p).pos [(eF ts (adv (adv p))).1],must ts (eF ts (adv (adv p))).2 sSemi):=(za not0).trans (zb see1)
  rw [RdM,e2,e3]
  dsimp only
  refine qbb (T:=tab Try.prog) (C:={}) 600 (fun _=>rfl) Try.func99 rfl (by kernel_rfl) (by kernel_rfl) (fun c0 rdb mpb=>?_)
  (repeat' ((conv=>whnf);first|refine zA ?_|refine zO ?_|refine Ob.auto ?_|refine zD 600 ?_|(apply zB <;> intro hb <;> (try simp [-zd] at hb) <;> try (exfalso;omega))|refine Ob.intro ?_ ?_))
  ((conv=>whnf);refine zT 600 [0] (qbq h.at_ 6) qa ?_)
  (repeat' ((conv=>whnf);first|refine zA ?_|refine zO ?_|refine Ob.auto ?_|(refine Ob.intro (by (exact qx (by dsimp only;omega) (by dsimp only;omega))) ?_)|refine zC 600 (hkc) ?_|refine zG 600 (fun hg=>hkc) ?_|(refine CallY.con (hkc) (by rfl) leA ?_)|(refine CallZ.con (fun hg=>hkc) qz (by rfl) ?_)|(refine qj (fun _=>rfl) 600 (hkc) qc (by (repeat' (first|exact trivial|exact Le.refl _|(refine And.intro ?_ ?_))) <;> fail) (by rfl) (by kernel_rfl) ?_)|(refine qv (fun _=>rfl) 600 (fun hg=>hkc) (fun hg=>qc) (fun hg=>(by (repeat' (first|exact trivial|exact Le.refl _|exact Le.cnd hg|(refine And.intro ?_ ?_))) <;> fail)) (by rfl) (by kernel_rfl) ?_)|refine zD 600 ?_|(apply zB <;> intro hb <;> (try simp [-zd] at hb) <;> try (exfalso;omega))|refine Ob.intro ?_ ?_))
  ((conv=>whnf);refine qj (fun _=>rfl) 600 (hnow) qc ⟨Le.refl _,trivial⟩ (by rfl) (by kernel_rfl) ?_)
  (repeat' ((conv=>whnf);first|refine zA ?_|refine zO ?_|refine Ob.auto ?_|(refine Ob.intro (by (exact qx (by dsimp only;omega) (by dsimp only;omega))) ?_)|refine zC 600 (hkc) ?_|refine zG 600 (fun hg=>hkc) ?_|(refine CallY.con (hkc) (by rfl) leA ?_)|(refine CallZ.con (fun hg=>hkc) qz (by rfl) ?_)|(refine qj (fun _=>rfl) 600 (hkc) qc (by (repeat' (first|exact trivial|exact Le.refl _|(refine And.intro ?_ ?_))) <;> fail) (by rfl) (by kernel_rfl) ?_)|(refine qv (fun _=>rfl) 600 (fun hg=>hkc) (fun hg=>qc) (fun hg=>(by (repeat' (first|exact trivial|exact Le.refl _|exact Le.cnd hg|(refine And.intro ?_ ?_))) <;> fail)) (by rfl) (by kernel_rfl) ?_)|refine zD 600 ?_|(apply zB <;> intro hb <;> (try simp [-zd] at hb) <;> try (exfalso;omega))|refine Ob.intro ?_ ?_))
  ((conv=>whnf);refine qj (fun _=>rfl) 600 (hnow2) qc ⟨Le.refl _,trivial⟩ (by rfl) (by kernel_rfl) ?_)
  (repeat' ((conv=>whnf);first|refine zA ?_|refine zO ?_|refine Ob.auto ?_|refine zD 600 ?_|(apply zB <;> intro hb <;> (try simp [-zd] at hb) <;> try (exfalso;omega))|refine Ob.intro ?_ ?_))
  ((conv=>whnf);refine jz frzA ?_)
  ((conv=>whnf);refine qr (fun _=>rfl) 600 [0] (t0) (by kernel_rfl) (by kernel_rfl) ⟨Le.refl _,qqz rfl rfl rfl,trivial⟩ qa (by exact qb rfl) (by exact qb rfl) (by kernel_rfl) (fun hk=>by have:=qcq h0.err;rw [this] at hk;cases hk) (fun hok=>?_))
  (repeat' ((conv=>whnf);first|refine zA ?_|refine zO ?_|refine Ob.auto ?_|refine zD 600 ?_|(apply zB <;> intro hb <;> (try simp [-zd] at hb) <;> try (exfalso;omega))|refine Ob.intro ?_ ?_))
  ((conv=>whnf);refine qr (fun _=>rfl) 600 [0,1] (t1) (by kernel_rfl) (by kernel_rfl) leA qa (by exact qb rfl) (by exact qb rfl) (by kernel_rfl) (fun hk=>⟨hk,rfl⟩) (fun hok=>?_))
  (repeat' ((conv=>whnf);first|refine zA ?_|refine zO ?_|refine Ob.auto ?_|refine zD 600 ?_|(apply zB <;> intro hb <;> (try simp [-zd] at hb) <;> try (exfalso;omega))|refine Ob.intro ?_ ?_))
  exact ⟨hok,Le.rptrL ⟨Le.refl _,Le.nils _ _,Le.refl _,Le.refl _,Le.refl _,Le.refl _,trivial⟩,qa⟩
 by_cases hw2:(tk ts (adv p)).s=qp
 ·have see1:sees ts (adv p) qp=true:=by rw [key1 _ (by decide +kernel),hw2];decide
  have not0:¬ (sees ts (adv p) ji=true):=by rw [key1 _ (by decide +kernel),hw2];decide
  have not1:¬ (sees ts (adv p) jm=true):=by rw [key1 _ (by decide +kernel),hw2];decide
  have em3:qgv ts (adv p)=adv (adv p):=zb (.inr (.inr see1))
  have h1:=h0.s see1 ht
  have t1:=jbm hc hB hbt (h.less ((qg ht h0.at_ see1)) (qcq h0.err)) 1 (tk ts p).pos
  rw [em3] at t0
  have hnow2:Con Try.prog 38 [.rptr ((adv p).cellsC ts)] (.agg [iv (tk ts (adv p)).kind,.str qp,iv (tk ts (adv p)).pos]):=by rw [← hw2];exact hnow1
  have em:must ts (adv p) qp=adv (adv p):=zb see1
  have e3:qbh ts (qi ts (qe ts n)) (tk ts p).pos 1 (adv p)=(.mk 10 [] [1] (tk ts p).pos (orL ts (qi ts (qe ts n)) ts.length [(qi ts (qe ts n) (adv (adv p))).1] (qi ts (qe ts n) (adv (adv p))).2).1,(orL ts (qi ts (qe ts n)) ts.length [(qi ts (qe ts n) (adv (adv p))).1] (qi ts (qe ts n) (adv (adv p))).2).2):=by
    refine (za not0).trans ((za not1).trans ?_)
    simp only
    rw [em]
  rw [RdM,e2,e3]
  dsimp only
  refine qbb (T:=tab Try.prog) (C:={}) 600 (fun _=>rfl) Try.func99 rfl (by kernel_rfl) (by kernel_rfl) (fun c0 rdb mpb=>?_)
  (repeat' ((conv=>whnf);first|refine zA ?_|refine zO ?_|refine Ob.auto ?_|refine zD 600 ?_|(apply zB <;> intro hb <;> (try simp [-zd] at hb) <;> try (exfalso;omega))|refine Ob.intro ?_ ?_))
  ((conv=>whnf);refine zT 600 [0] (qbq h.at_ 6) qa ?_)
  (repeat' ((conv=>whnf);first|refine zA ?_|refine zO ?_|refine Ob.auto ?_|(refine Ob.intro (by (exact qx (by dsimp only;omega) (by dsimp only;omega))) ?_)|refine zC 600 (hkc) ?_|refine zG 600 (fun hg=>hkc) ?_|(refine CallY.con (hkc) (by rfl) leA ?_)|(refine CallZ.con (fun hg=>hkc) qz (by rfl) ?_)|(refine qj (fun _=>rfl) 600 (hkc) qc (by (repeat' (first|exact trivial|exact Le.refl _|(refine And.intro ?_ ?_))) <;> fail) (by rfl) (by kernel_rfl) ?_)|(refine qv (fun _=>rfl) 600 (fun hg=>hkc) (fun hg=>qc) (fun hg=>(by (repeat' (first|exact trivial|exact Le.refl _|exact Le.cnd hg|(refine And.intro ?_ ?_))) <;> fail)) (by rfl) (by kernel_rfl) ?_)|refine zD 600 ?_|(apply zB <;> intro hb <;> (try simp [-zd] at hb) <;> try (exfalso;omega))|refine Ob.intro ?_ ?_))
  ((conv=>whnf);refine qj (fun _=>rfl) 600 (hnow) qc ⟨Le.refl _,trivial⟩ (by rfl) (by kernel_rfl) ?_)
  (repeat' ((conv=>whnf);first|refine zA ?_|refine zO ?_|refine Ob.auto ?_|(refine Ob.intro (by (exact qx (by dsimp only;omega) (by dsimp only;omega))) ?_)|refine zC 600 (hkc) ?_|refine zG 600 (fun hg=>hkc) ?_|(refine CallY.con (hkc) (by rfl) leA ?_)|(refine CallZ.con (fun hg=>hkc) qz (by rfl) ?_)|(refine qj (fun _=>rfl) 600 (hkc) qc (by (repeat' (first|exact trivial|exact Le.refl _|(refine And.intro ?_ ?_))) <;> fail) (by rfl) (by kernel_rfl) ?_)|(refine qv (fun _=>rfl) 600 (fun hg=>hkc) (fun hg=>qc) (fun hg=>(by (repeat' (first|exact trivial|exact Le.refl _|exact Le.cnd hg|(refine And.intro ?_ ?_))) <;> fail)) (by rfl) (by kernel_rfl) ?_)|refine zD 600 ?_|(apply zB <;> intro hb <;> (try simp [-zd] at hb) <;> try (exfalso;omega))|refine Ob.intro ?_ ?_))
  ((conv=>whnf);refine qj (fun _=>rfl) 600 (hnow2) qc ⟨Le.refl _,trivial⟩ (by rfl) (by kernel_rfl) ?_)
  (repeat' ((conv=>whnf);first|refine zA ?_|refine zO ?_|refine Ob.auto ?_|refine zD 600 ?_|(apply zB <;> intro hb <;> (try simp [-zd] at hb) <;> try (exfalso;omega))|refine Ob.intro ?_ ?_))
  ((conv=>whnf);refine jz frzA ?_)
  ((conv=>whnf);refine qr (fun _=>rfl) 600 [0] (t0) (by kernel_rfl) (by kernel_rfl) ⟨Le.refl _,qqz rfl rfl rfl,trivial⟩ qa (by exact qb rfl) (by exact qb rfl) (by kernel_rfl) (fun hk=>by have:=qcq h0.err;rw [this] at hk;cases hk) (fun hok=>?_))
  (repeat' ((conv=>whnf);first|refine zA ?_|refine zO ?_|refine Ob.auto ?_|refine zD 600 ?_|(apply zB <;> intro hb <;> (try simp [-zd] at hb) <;> try (exfalso;omega))|refine Ob.intro ?_ ?_))
  ((conv=>whnf);refine qr (fun _=>rfl) 600 [0,1] (t1) (by kernel_rfl) (by kernel_rfl) leA qa (by exact qb rfl) (by exact qb rfl) (by kernel_rfl) (fun hk=>⟨hk,rfl⟩) (fun hok=>?_))
  (repeat' ((conv=>whnf);first|refine zA ?_|refine zO ?_|refine Ob.auto ?_|refine zD 600 ?_|(apply zB <;> intro hb <;> (try simp [-zd] at hb) <;> try (exfalso;omega))|refine Ob.intro ?_ ?_))
  exact ⟨hok,Le.rptrL ⟨Le.refl _,Le.nils _ _,Le.refl _,Le.refl _,Le.refl _,Le.refl _,trivial⟩,qa⟩
 have n0:¬ (sees ts (adv p) ji=true):=by rw [key1 _ (by decide +kernel)];simpa using hw0
 have n1:¬ (sees ts (adv p) jm=true):=by rw [key1 _ (by decide +kernel)];simpa using hw1
 have n2:¬ (sees ts (adv p) qp=true):=by rw [key1 _ (by decide +kernel)];simpa using hw2
 have em3:qgv ts (adv p)=bad ts (adv p) 11:=za (by rintro (h|h|h) <;> first|exact n0 h|exact n1 h|exact n2 h)
 have em:must ts (adv p) qp=bad ts (adv p) 11:=za n2
 have eb:bad ts (adv p) 11={ (adv p) with err:=11,fat:=(tk ts (adv p)).pos }:=zb h0.err
 have hbe:(bad ts (adv p) 11).err≠0:=by rw [eb];show (11:Int)≠0;decide
 have AB:=(qqc (ts:=ts) h0.at_ 11).ok h0.at_
 have e3:(qbh ts (qi ts (qe ts n)) (tk ts p).pos 1 (adv p)).2=bad ts (adv p) 11:=by
  unfold qbh
  rw [za n0,za n1]
  simp only
  rw [em]
  have e4:=(hB _ AB).err hbe
  generalize qi ts (qe ts n) (bad ts (adv p) 11)=u at *
  rw [e4]
  cases ts.length with
  | zero=>rfl
  | succ m=>rw [orL,za (by rw [qgq hbe];decide)]
 rw [em3] at t0
 rw [RdM,e2]
 generalize qbh ts (qi ts (qe ts n)) (tk ts p).pos 1 (adv p)=w at *
 rw [e3]
 refine qbb (T:=tab Try.prog) (C:={}) 600 (fun _=>rfl) Try.func99 rfl (by kernel_rfl) (by kernel_rfl) (fun c0 rdb mpb=>?_)
 (repeat' ((conv=>whnf);first|refine zA ?_|refine zO ?_|refine Ob.auto ?_|refine zD 600 ?_|(apply zB <;> intro hb <;> (try simp [-zd] at hb) <;> try (exfalso;omega))|refine Ob.intro ?_ ?_))
 ((conv=>whnf);refine zT 600 [0] (qbq h.at_ 6) qa ?_)
 (repeat' ((conv=>whnf);first|refine zA ?_|refine zO ?_|refine Ob.auto ?_|(refine Ob.intro (by (exact qx (by dsimp only;omega) (by dsimp only;omega))) ?_)|refine zC 600 (hkc) ?_|refine zG 600 (fun hg=>hkc) ?_|(refine CallY.con (hkc) (by rfl) leA ?_)|(refine CallZ.con (fun hg=>hkc) qz (by rfl) ?_)|(refine qj (fun _=>rfl) 600 (hkc) qc (by (repeat' (first|exact trivial|exact Le.refl _|(refine And.intro ?_ ?_))) <;> fail) (by rfl) (by kernel_rfl) ?_)|(refine qv (fun _=>rfl) 600 (fun hg=>hkc) (fun hg=>qc) (fun hg=>(by (repeat' (first|exact trivial|exact Le.refl _|exact Le.cnd hg|(refine And.intro ?_ ?_))) <;> fail)) (by rfl) (by kernel_rfl) ?_)|refine zD 600 ?_|(apply zB <;> intro hb <;> (try simp [-zd] at hb) <;> try (exfalso;omega))|refine Ob.intro ?_ ?_))
 ((conv=>whnf);refine qj (fun _=>rfl) 600 (hnow) qc ⟨Le.refl _,trivial⟩ (by rfl) (by kernel_rfl) ?_)
 (repeat' ((conv=>whnf);first|refine zA ?_|refine zO ?_|refine Ob.auto ?_|(refine Ob.intro (by (exact qx (by dsimp only;omega) (by dsimp only;omega))) ?_)|refine zC 600 (hkc) ?_|refine zG 600 (fun hg=>hkc) ?_|(refine CallY.con (hkc) (by rfl) leA ?_)|(refine CallZ.con (fun hg=>hkc) qz (by rfl) ?_)|(refine qj (fun _=>rfl) 600 (hkc) qc (by (repeat' (first|exact trivial|exact Le.refl _|(refine And.intro ?_ ?_))) <;> fail) (by rfl) (by kernel_rfl) ?_)|(refine qv (fun _=>rfl) 600 (fun hg=>hkc) (fun hg=>qc) (fun hg=>(by (repeat' (first|exact trivial|exact Le.refl _|exact Le.cnd hg|(refine And.intro ?_ ?_))) <;> fail)) (by rfl) (by kernel_rfl) ?_)|refine zD 600 ?_|(apply zB <;> intro hb <;> (try simp [-zd] at hb) <;> try (exfalso;omega))|refine Ob.intro ?_ ?_))
 ((conv=>whnf);refine qj (fun _=>rfl) 600 (hnow1) qc ⟨Le.refl _,trivial⟩ (by rfl) (by kernel_rfl) ?_)
 (repeat' ((conv=>whnf);first|refine zA ?_|refine zO ?_|refine Ob.auto ?_|refine zD 600 ?_|(apply zB <;> intro hb <;> (try simp [-zd] at hb) <;> try (exfalso;omega))|refine Ob.intro ?_ ?_))
 ((conv=>whnf);refine jz frzA ?_)
 ((conv=>whnf);refine qr (fun _=>rfl) 600 [0] (t0) (by kernel_rfl) (by kernel_rfl) ⟨Le.refl _,qqz rfl rfl rfl,trivial⟩ qa (by exact qb rfl) (by exact qb rfl) (by kernel_rfl) (fun hk=>⟨hk,rfl⟩) (fun hok=>?_))
 exact absurd (by simpa using hok) hbe
end
end Go.Proofs.Ythfaleaojlnnoaa
