/- Contracts of the program's parser: statements that begin with a word of the language. -/
import Derived.Test.YthfaleaojlnnoaaY7PcS
import Derived.Test.YthfaleaojlnnoaaY7PcT
import Derived.Test.YthfaleaojlnnoaaY72
set_option linter.unusedSimpArgs false
set_option linter.unusedVariables false
namespace Go.Proofs.Ythfaleaojlnnoaa
open List renaming getD_eq_getElem?_getD → zd
open Go Go.Sx Go.RowKit Go.St Pa
set_option maxRecDepth 100000
set_option maxHeartbeats 16000000
section
variable {ts:List Lx.Tok} {p q r g:Ps} {n:Nat}
theorem jmy (hc:TC ts) (hbt:∀ q,PreC ts n q→RdM ts 107 (qw ts (qf ts n)) q) (h:PreC ts (n+1) p) (hs:(tk ts p).s=qcb):RdM ts 99 (qf ts (n+1)) p:=by
 have ht:=hc.ok
 have h2:=ht.len
 have key:∀ s,kwB s=true→sees ts p s=((tk ts p).s == s):=fun s hs=>qcx hc.kind h.at_ h.err hs
 have see:sees ts p qcb=true:=by rw [key _ (by decide +kernel),hs];decide
 have hkc:=qdu qcb
 rw [show keyF qcb=true by decide +kernel] at hkc
 have hnow:Con Try.prog 38 [.rptr (p.cellsC ts)] (.agg [iv (tk ts p).kind,.str qcb,iv (tk ts p).pos]):=by rw [← hs];exact qr h.at_
 have A0:=(qh ht h.at_ see).ok h.at_
 have h0:=h.s see ht
 have g0:=h.at_.lo
 have g1:=h0.at_.hi
 have g2:(adv p).at_=p.at_+1:=rfl
 have hB:=qgq ht (qeb ht n)
 have no_kIdle:¬ (sees ts p qab=true):=by rw [key _ (by decide +kernel),hs];decide
 have no_kRecv:¬ (sees ts p jy=true):=by rw [key _ (by decide +kernel),hs];decide
 have no_kWhen:¬ (sees ts p qac=true):=by rw [key _ (by decide +kernel),hs];decide
 have no_kChoose:¬ (sees ts p ji=true):=by rw [key _ (by decide +kernel),hs];decide
 have no_kSend:¬ (sees ts p qbz=true):=by rw [key _ (by decide +kernel),hs];decide
 have no_kIf:¬ (sees ts p kIf=true):=by rw [key _ (by decide +kernel),hs];decide
 have no_kWhile:¬ (sees ts p qca=true):=by rw [key _ (by decide +kernel),hs];decide
 have no_kSkip:¬ (sees ts p qcc=true):=by rw [key _ (by decide +kernel),hs];decide
 have no_kStop:¬ (sees ts p qcd=true):=by rw [key _ (by decide +kernel),hs];decide
 have e2:qf ts (n+1) p=(.mk 13 [] [] (tk ts p).pos [(qw ts (qf ts n) (adv p)).1],(qw ts (qf ts n) (adv p)).2):=by
  unfold qf
  simp only
  rw [za (by rintro (h|h|h|h) <;> first|exact no_kIdle h|exact no_kRecv h|exact no_kWhen h|exact no_kChoose h),za no_kSend,za no_kIf,za no_kWhile,zb see]
 rw [RdM,e2]
 dsimp only
 have t1:=hbt _ (h.less A0.refl (qbw h.err))
 rw [RdM] at t1
 generalize qw ts (qf ts n) (adv p)=y at *
 refine qat (T:=tab Try.prog) (C:={}) 600 (fun _=>rfl) Try.func99 rfl (by kernel_rfl) (by kernel_rfl) (fun c0 rdb mpb=>?_)
 (repeat' ((conv=>whnf);first|refine zA ?_|refine zO ?_|refine Ob.auto ?_|refine zD 600 ?_|(apply zB <;> intro hb <;> (try simp [-zd] at hb) <;> try (exfalso;omega))|refine Ob.intro ?_ ?_))
 ((conv=>whnf);refine zT 600 [0] (qbc h.at_ 6) qa ?_)
 (repeat' ((conv=>whnf);first|refine zA ?_|refine zO ?_|refine Ob.auto ?_|(refine Ob.intro (by (exact qv (by dsimp only;omega) (by dsimp only;omega))) ?_)|refine zC 600 (hnow) ?_|refine zG 600 (fun hg=>hnow) ?_|(refine CallY.con (hnow) (by rfl) leA ?_)|(refine CallZ.con (fun hg=>hnow) qn (by rfl) ?_)|refine zC 600 (hkc) ?_|refine zG 600 (fun hg=>hkc) ?_|(refine CallY.con (hkc) (by rfl) leA ?_)|(refine CallZ.con (fun hg=>hkc) qn (by rfl) ?_)|(refine ql (fun _=>rfl) 600 (hnow) qc (by (repeat' (first|exact trivial|exact Le.refl _|(refine And.intro ?_ ?_))) <;> fail) (by rfl) (by kernel_rfl) ?_)|(refine qp (fun _=>rfl) 600 (fun hg=>hnow) (fun hg=>qc) (fun hg=>(by (repeat' (first|exact trivial|exact Le.refl _|exact Le.cnd hg|(refine And.intro ?_ ?_))) <;> fail)) (by rfl) (by kernel_rfl) ?_)|(refine ql (fun _=>rfl) 600 (hkc) qc (by (repeat' (first|exact trivial|exact Le.refl _|(refine And.intro ?_ ?_))) <;> fail) (by rfl) (by kernel_rfl) ?_)|(refine qp (fun _=>rfl) 600 (fun hg=>hkc) (fun hg=>qc) (fun hg=>(by (repeat' (first|exact trivial|exact Le.refl _|exact Le.cnd hg|(refine And.intro ?_ ?_))) <;> fail)) (by rfl) (by kernel_rfl) ?_)|refine zD 600 ?_|(apply zB <;> intro hb <;> (try simp [-zd] at hb) <;> try (exfalso;omega))|refine Ob.intro ?_ ?_))
 cases hk:(y.2.err == 0) with
 | false=>
  (repeat' ((conv=>whnf);first|refine zA ?_|refine zO ?_|refine Ob.auto ?_|refine zI ?_|refine zD 600 ?_|(refine qi (fun _=>rfl) (by kernel_rfl) 600 ?_)|(apply zB <;> intro hb <;> (try simp [-zd] at hb) <;> try (exfalso;omega))|refine Ob.intro ?_ ?_))
  ((conv=>whnf);refine CallY.mpan 99 [0] (t1) hk (⟨rfl,rfl⟩) (by kernel_rfl) (by kernel_rfl) leA qa (by exact qb rfl) ?_)
  (repeat' ((conv=>whnf);first|refine zO ?_|refine Ob.auto ?_|refine zI ?_|refine zD 600 ?_|(refine qi (fun _=>rfl) (by kernel_rfl) 600 ?_)|(apply zB <;> intro hb <;> (try simp [-zd] at hb) <;> try (exfalso;omega))|refine Ob.intro ?_ ?_))
  ((conv=>whnf);refine AltG.far 11 [1] (by kernel_rfl) farA (EndG.dead 99 (by rfl)))
 | true=>
  (repeat' ((conv=>whnf);first|refine zA ?_|refine zO ?_|refine Ob.auto ?_|refine zI ?_|refine zD 600 ?_|(refine qi (fun _=>rfl) (by kernel_rfl) 600 ?_)|(apply zB <;> intro hb <;> (try simp [-zd] at hb) <;> try (exfalso;omega))|refine Ob.intro ?_ ?_))
  ((conv=>whnf);refine CallY.trip [0] (t1.trip hk) (by kernel_rfl) leA qa (by exact qb rfl) (by exact qb rfl) ?_)
  (repeat' ((conv=>whnf);first|refine zO ?_|refine Ob.auto ?_|refine zI ?_|refine zD 600 ?_|(refine qi (fun _=>rfl) (by kernel_rfl) 600 ?_)|(apply zB <;> intro hb <;> (try simp [-zd] at hb) <;> try (exfalso;omega))|refine Ob.intro ?_ ?_))
  ((conv=>whnf);refine AltG.far 11 [1] (by kernel_rfl) farA (EndG.go ?_))
  (repeat' ((conv=>whnf);first|refine zA ?_|refine zO ?_|refine Ob.auto ?_|refine zD 600 ?_|(apply zB <;> intro hb <;> (try simp [-zd] at hb) <;> try (exfalso;omega))|refine Ob.intro ?_ ?_))
  exact ⟨rfl,Le.rptrL ⟨Le.refl _,Le.nils _ _,Le.nils _ _,Le.refl _,Le.refl _,qqb rfl,trivial⟩,qa⟩
theorem jmz (hc:TC ts) (hbt:∀ q,PreC ts n q→RdM ts 107 (qw ts (qf ts n)) q) (h:PreC ts (n+1) p) (hs:(tk ts p).s=qca):RdM ts 99 (qf ts (n+1)) p:=by
 have ht:=hc.ok
 have h2:=ht.len
 have key:∀ s,kwB s=true→sees ts p s=((tk ts p).s == s):=fun s hs=>qcx hc.kind h.at_ h.err hs
 have see:sees ts p qca=true:=by rw [key _ (by decide +kernel),hs];decide
 have hkc:=qdu qca
 rw [show keyF qca=true by decide +kernel] at hkc
 have hnow:Con Try.prog 38 [.rptr (p.cellsC ts)] (.agg [iv (tk ts p).kind,.str qca,iv (tk ts p).pos]):=by rw [← hs];exact qr h.at_
 have A0:=(qh ht h.at_ see).ok h.at_
 have h0:=h.s see ht
 have g0:=h.at_.lo
 have g1:=h0.at_.hi
 have g2:(adv p).at_=p.at_+1:=rfl
 have hB:=qgq ht (qeb ht n)
 have no_kIdle:¬ (sees ts p qab=true):=by rw [key _ (by decide +kernel),hs];decide
 have no_kRecv:¬ (sees ts p jy=true):=by rw [key _ (by decide +kernel),hs];decide
 have no_kWhen:¬ (sees ts p qac=true):=by rw [key _ (by decide +kernel),hs];decide
 have no_kChoose:¬ (sees ts p ji=true):=by rw [key _ (by decide +kernel),hs];decide
 have no_kSend:¬ (sees ts p qbz=true):=by rw [key _ (by decide +kernel),hs];decide
 have no_kIf:¬ (sees ts p kIf=true):=by rw [key _ (by decide +kernel),hs];decide
 have no_kAtomic:¬ (sees ts p qcb=true):=by rw [key _ (by decide +kernel),hs];decide
 have no_kSkip:¬ (sees ts p qcc=true):=by rw [key _ (by decide +kernel),hs];decide
 have no_kStop:¬ (sees ts p qcd=true):=by rw [key _ (by decide +kernel),hs];decide
 have e2:qf ts (n+1) p=(.mk 12 [] [] (tk ts p).pos [(eF ts (adv p)).1,(qw ts (qf ts n) (eF ts (adv p)).2).1],(qw ts (qf ts n) (eF ts (adv p)).2).2):=by
  unfold qf
  simp only
  rw [za (by rintro (h|h|h|h) <;> first|exact no_kIdle h|exact no_kRecv h|exact no_kWhen h|exact no_kChoose h),za no_kSend,za no_kIf,zb see]
 rw [RdM,e2]
 dsimp only
 have t1:=qjh hc (adv p) h0.full
 have a1:=qas ht (adv p) A0
 unfold RdE at t1
 generalize eF ts (adv p)=y at *
 have A1:=a1.ok A0
 have t2:=fun he=>hbt y.2 (h.less a1 he)
 unfold RdM at t2
 have a2:=hB y.2 A1
 generalize qw ts (qf ts n) y.2=u at *
 refine qat (T:=tab Try.prog) (C:={}) 600 (fun _=>rfl) Try.func99 rfl (by kernel_rfl) (by kernel_rfl) (fun c0 rdb mpb=>?_)
 (repeat' ((conv=>whnf);first|refine zA ?_|refine zO ?_|refine Ob.auto ?_|refine zD 600 ?_|(apply zB <;> intro hb <;> (try simp [-zd] at hb) <;> try (exfalso;omega))|refine Ob.intro ?_ ?_))
 ((conv=>whnf);refine zT 600 [0] (qbc h.at_ 6) qa ?_)
 (repeat' ((conv=>whnf);first|refine zA ?_|refine zO ?_|refine Ob.auto ?_|(refine Ob.intro (by (exact qv (by dsimp only;omega) (by dsimp only;omega))) ?_)|refine zC 600 (hnow) ?_|refine zG 600 (fun hg=>hnow) ?_|(refine CallY.con (hnow) (by rfl) leA ?_)|(refine CallZ.con (fun hg=>hnow) qn (by rfl) ?_)|refine zC 600 (hkc) ?_|refine zG 600 (fun hg=>hkc) ?_|(refine CallY.con (hkc) (by rfl) leA ?_)|(refine CallZ.con (fun hg=>hkc) qn (by rfl) ?_)|(refine ql (fun _=>rfl) 600 (hnow) qc (by (repeat' (first|exact trivial|exact Le.refl _|(refine And.intro ?_ ?_))) <;> fail) (by rfl) (by kernel_rfl) ?_)|(refine qp (fun _=>rfl) 600 (fun hg=>hnow) (fun hg=>qc) (fun hg=>(by (repeat' (first|exact trivial|exact Le.refl _|exact Le.cnd hg|(refine And.intro ?_ ?_))) <;> fail)) (by rfl) (by kernel_rfl) ?_)|(refine ql (fun _=>rfl) 600 (hkc) qc (by (repeat' (first|exact trivial|exact Le.refl _|(refine And.intro ?_ ?_))) <;> fail) (by rfl) (by kernel_rfl) ?_)|(refine qp (fun _=>rfl) 600 (fun hg=>hkc) (fun hg=>qc) (fun hg=>(by (repeat' (first|exact trivial|exact Le.refl _|exact Le.cnd hg|(refine And.intro ?_ ?_))) <;> fail)) (by rfl) (by kernel_rfl) ?_)|refine zD 600 ?_|(apply zB <;> intro hb <;> (try simp [-zd] at hb) <;> try (exfalso;omega))|refine Ob.intro ?_ ?_))
 cases hk1:(y.2.err == 0) with
 | false=>
  have hk:=hk1
  (repeat' ((conv=>whnf);first|refine zA ?_|refine zO ?_|refine Ob.auto ?_|refine zI ?_|refine zD 600 ?_|(refine qi (fun _=>rfl) (by kernel_rfl) 600 ?_)|(apply zB <;> intro hb <;> (try simp [-zd] at hb) <;> try (exfalso;omega))|refine Ob.intro ?_ ?_))
  ((conv=>whnf);refine CallY.mpan 99 [0] (t1) hk (js a2 hk) (by kernel_rfl) (by kernel_rfl) leA qa (by exact qb rfl) ?_)
  (repeat' ((conv=>whnf);first|refine zO ?_|refine Ob.auto ?_|refine zI ?_|refine zD 600 ?_|(refine qi (fun _=>rfl) (by kernel_rfl) 600 ?_)|(apply zB <;> intro hb <;> (try simp [-zd] at hb) <;> try (exfalso;omega))|refine Ob.intro ?_ ?_))
  ((conv=>whnf);refine CallY.dead 99 (by rfl) .nilp ?_)
  (repeat' ((conv=>whnf);first|refine zO ?_|refine Ob.auto ?_|refine zI ?_|refine zD 600 ?_|(refine qi (fun _=>rfl) (by kernel_rfl) 600 ?_)|(apply zB <;> intro hb <;> (try simp [-zd] at hb) <;> try (exfalso;omega))|refine Ob.intro ?_ ?_))
  ((conv=>whnf);refine AltG.far 13 [1] (by kernel_rfl) farA (EndG.dead 99 (by rfl)))
 | true=>
  cases hk2:(u.2.err == 0) with
  | false=>
   have hk:=hk2
   (repeat' ((conv=>whnf);first|refine zA ?_|refine zO ?_|refine Ob.auto ?_|refine zI ?_|refine zD 600 ?_|(refine qi (fun _=>rfl) (by kernel_rfl) 600 ?_)|(apply zB <;> intro hb <;> (try simp [-zd] at hb) <;> try (exfalso;omega))|refine Ob.intro ?_ ?_))
   ((conv=>whnf);refine CallY.trip [0] (t1.trip hk1) (by kernel_rfl) leA qa (by exact qb rfl) (by exact qb rfl) ?_)
   (repeat' ((conv=>whnf);first|refine zO ?_|refine Ob.auto ?_|refine zI ?_|refine zD 600 ?_|(refine qi (fun _=>rfl) (by kernel_rfl) 600 ?_)|(apply zB <;> intro hb <;> (try simp [-zd] at hb) <;> try (exfalso;omega))|refine Ob.intro ?_ ?_))
   ((conv=>whnf);refine CallY.mpan 99 [0] ((t2 hk1)) hk (⟨rfl,rfl⟩) (by kernel_rfl) (by kernel_rfl) leA qa (by exact qb rfl) ?_)
   (repeat' ((conv=>whnf);first|refine zO ?_|refine Ob.auto ?_|refine zI ?_|refine zD 600 ?_|(refine qi (fun _=>rfl) (by kernel_rfl) 600 ?_)|(apply zB <;> intro hb <;> (try simp [-zd] at hb) <;> try (exfalso;omega))|refine Ob.intro ?_ ?_))
   ((conv=>whnf);refine AltG.far 13 [1] (by kernel_rfl) farA (EndG.dead 99 (by rfl)))
  | true=>
   (repeat' ((conv=>whnf);first|refine zA ?_|refine zO ?_|refine Ob.auto ?_|refine zI ?_|refine zD 600 ?_|(refine qi (fun _=>rfl) (by kernel_rfl) 600 ?_)|(apply zB <;> intro hb <;> (try simp [-zd] at hb) <;> try (exfalso;omega))|refine Ob.intro ?_ ?_))
   ((conv=>whnf);refine CallY.trip [0] (t1.trip hk1) (by kernel_rfl) leA qa (by exact qb rfl) (by exact qb rfl) ?_)
   (repeat' ((conv=>whnf);first|refine zO ?_|refine Ob.auto ?_|refine zI ?_|refine zD 600 ?_|(refine qi (fun _=>rfl) (by kernel_rfl) 600 ?_)|(apply zB <;> intro hb <;> (try simp [-zd] at hb) <;> try (exfalso;omega))|refine Ob.intro ?_ ?_))
   ((conv=>whnf);refine CallY.trip [0] ((t2 hk1).trip hk2) (by kernel_rfl) leA qa (by exact qb rfl) (by exact qb rfl) ?_)
   (repeat' ((conv=>whnf);first|refine zO ?_|refine Ob.auto ?_|refine zI ?_|refine zD 600 ?_|(refine qi (fun _=>rfl) (by kernel_rfl) 600 ?_)|(apply zB <;> intro hb <;> (try simp [-zd] at hb) <;> try (exfalso;omega))|refine Ob.intro ?_ ?_))
   ((conv=>whnf);refine AltG.far 13 [1] (by kernel_rfl) farA (EndG.go ?_))
   (repeat' ((conv=>whnf);first|refine zA ?_|refine zO ?_|refine Ob.auto ?_|refine zD 600 ?_|(apply zB <;> intro hb <;> (try simp [-zd] at hb) <;> try (exfalso;omega))|refine Ob.intro ?_ ?_))
   exact ⟨rfl,Le.rptrL ⟨Le.refl _,Le.nils _ _,Le.nils _ _,Le.refl _,Le.refl _,qqc rfl rfl,trivial⟩,qa⟩
theorem jna (hc:TC ts) (hbt:∀ q,PreC ts n q→RdM ts 107 (qw ts (qf ts n)) q) (h:PreC ts (n+1) p) (hs:(tk ts p).s=kIf):RdM ts 99 (qf ts (n+1)) p:=by
 have ht:=hc.ok
 have h2:=ht.len
 have key:∀ s,kwB s=true→sees ts p s=((tk ts p).s == s):=fun s hs=>qcx hc.kind h.at_ h.err hs
 have see:sees ts p kIf=true:=by rw [key _ (by decide +kernel),hs];decide
 have hkc:=qdu kIf
 rw [show keyF kIf=true by decide +kernel] at hkc
 have hnow:Con Try.prog 38 [.rptr (p.cellsC ts)] (.agg [iv (tk ts p).kind,.str kIf,iv (tk ts p).pos]):=by rw [← hs];exact qr h.at_
 have A0:=(qh ht h.at_ see).ok h.at_
 have h0:=h.s see ht
 have g0:=h.at_.lo
 have g1:=h0.at_.hi
 have g2:(adv p).at_=p.at_+1:=rfl
 have hB:=qgq ht (qeb ht n)
 have no_kIdle:¬ (sees ts p qab=true):=by rw [key _ (by decide +kernel),hs];decide
 have no_kRecv:¬ (sees ts p jy=true):=by rw [key _ (by decide +kernel),hs];decide
 have no_kWhen:¬ (sees ts p qac=true):=by rw [key _ (by decide +kernel),hs];decide
 have no_kChoose:¬ (sees ts p ji=true):=by rw [key _ (by decide +kernel),hs];decide
 have no_kSend:¬ (sees ts p qbz=true):=by rw [key _ (by decide +kernel),hs];decide
 have no_kWhile:¬ (sees ts p qca=true):=by rw [key _ (by decide +kernel),hs];decide
 have no_kAtomic:¬ (sees ts p qcb=true):=by rw [key _ (by decide +kernel),hs];decide
 have no_kSkip:¬ (sees ts p qcc=true):=by rw [key _ (by decide +kernel),hs];decide
 have no_kStop:¬ (sees ts p qcd=true):=by rw [key _ (by decide +kernel),hs];decide
 have e2:qf ts (n+1) p=(if sees ts (qw ts (qf ts n) (eF ts (adv p)).2).2 qga=true then (.mk 11 [] [] (tk ts p).pos [(eF ts (adv p)).1,(qw ts (qf ts n) (eF ts (adv p)).2).1,(qw ts (qf ts n) (adv (qw ts (qf ts n) (eF ts (adv p)).2).2)).1],(qw ts (qf ts n) (adv (qw ts (qf ts n) (eF ts (adv p)).2).2)).2) else (.mk 11 [] [] (tk ts p).pos [(eF ts (adv p)).1,(qw ts (qf ts n) (eF ts (adv p)).2).1],(qw ts (qf ts n) (eF ts (adv p)).2).2)):=by
  unfold qf
  simp only
  rw [za (by rintro (h|h|h|h) <;> first|exact no_kIdle h|exact no_kRecv h|exact no_kWhen h|exact no_kChoose h),za no_kSend,zb see]
 rw [RdM,e2]
 have t1:=qjh hc (adv p) h0.full
 have a1:=qas ht (adv p) A0
 unfold RdE at t1
 generalize eF ts (adv p)=y at *
 have A1:=a1.ok A0
 have t2:=fun he=>hbt y.2 (h.less a1 he)
 unfold RdM at t2
 have a2:=hB y.2 A1
 generalize qw ts (qf ts n) y.2=u at *
 have A2:=a2.ok A1
 have a12:=a1.trans a2
 have t4:=fun h':PreC ts (n+1) u.2=>qfg hc h' (s:=qga) (by decide +kernel)
 have hz:Step ts u.2 (if sees ts u.2 qga=true then (Tr.mk 11 [] [] (tk ts p).pos [y.1,u.1,(qw ts (qf ts n) (adv u.2)).1],(qw ts (qf ts n) (adv u.2)).2) else (Tr.mk 11 [] [] (tk ts p).pos [y.1,u.1],u.2)).2:=by
  split
  ·have a3:=qh ht A2 (by assumption)
   exact a3.trans (hB _ (a3.ok A2))
  ·exact A2.refl
 generalize hze:(if sees ts u.2 qga=true then (Tr.mk 11 [] [] (tk ts p).pos [y.1,u.1,(qw ts (qf ts n) (adv u.2)).1],(qw ts (qf ts n) (adv u.2)).2) else (Tr.mk 11 [] [] (tk ts p).pos [y.1,u.1],u.2))=z at *
 refine qat (T:=tab Try.prog) (C:={}) 600 (fun _=>rfl) Try.func99 rfl (by kernel_rfl) (by kernel_rfl) (fun c0 rdb mpb=>?_)
 (repeat' ((conv=>whnf);first|refine zA ?_|refine zO ?_|refine Ob.auto ?_|refine zD 600 ?_|(apply zB <;> intro hb <;> (try simp [-zd] at hb) <;> try (exfalso;omega))|refine Ob.intro ?_ ?_))
 ((conv=>whnf);refine zT 600 [0] (qbc h.at_ 6) qa ?_)
 (repeat' ((conv=>whnf);first|refine zA ?_|refine zO ?_|refine Ob.auto ?_|(refine Ob.intro (by (exact qv (by dsimp only;omega) (by dsimp only;omega))) ?_)|refine zC 600 (hnow) ?_|refine zG 600 (fun hg=>hnow) ?_|(refine CallY.con (hnow) (by rfl) leA ?_)|(refine CallZ.con (fun hg=>hnow) qn (by rfl) ?_)|refine zC 600 (hkc) ?_|refine zG 600 (fun hg=>hkc) ?_|(refine CallY.con (hkc) (by rfl) leA ?_)|(refine CallZ.con (fun hg=>hkc) qn (by rfl) ?_)|(refine ql (fun _=>rfl) 600 (hnow) qc (by (repeat' (first|exact trivial|exact Le.refl _|(refine And.intro ?_ ?_))) <;> fail) (by rfl) (by kernel_rfl) ?_)|(refine qp (fun _=>rfl) 600 (fun hg=>hnow) (fun hg=>qc) (fun hg=>(by (repeat' (first|exact trivial|exact Le.refl _|exact Le.cnd hg|(refine And.intro ?_ ?_))) <;> fail)) (by rfl) (by kernel_rfl) ?_)|(refine ql (fun _=>rfl) 600 (hkc) qc (by (repeat' (first|exact trivial|exact Le.refl _|(refine And.intro ?_ ?_))) <;> fail) (by rfl) (by kernel_rfl) ?_)|(refine qp (fun _=>rfl) 600 (fun hg=>hkc) (fun hg=>qc) (fun hg=>(by (repeat' (first|exact trivial|exact Le.refl _|exact Le.cnd hg|(refine And.intro ?_ ?_))) <;> fail)) (by rfl) (by kernel_rfl) ?_)|refine zD 600 ?_|(apply zB <;> intro hb <;> (try simp [-zd] at hb) <;> try (exfalso;omega))|refine Ob.intro ?_ ?_))
 cases hk1:(y.2.err == 0) with
 | false=>
  have hk:=hk1
  (repeat' ((conv=>whnf);first|refine zA ?_|refine zO ?_|refine Ob.auto ?_|refine zI ?_|refine zD 600 ?_|(refine qi (fun _=>rfl) (by kernel_rfl) 600 ?_)|(apply zB <;> intro hb <;> (try simp [-zd] at hb) <;> try (exfalso;omega))|refine Ob.intro ?_ ?_))
  ((conv=>whnf);refine CallY.mpan 99 [0] (t1) hk (js (a2.trans hz) hk) (by kernel_rfl) (by kernel_rfl) leA qa (by exact qb rfl) ?_)
  (repeat' ((conv=>whnf);first|refine zO ?_|refine Ob.auto ?_|refine zI ?_|refine zD 600 ?_|(refine qi (fun _=>rfl) (by kernel_rfl) 600 ?_)|(apply zB <;> intro hb <;> (try simp [-zd] at hb) <;> try (exfalso;omega))|refine Ob.intro ?_ ?_))
  ((conv=>whnf);refine CallY.dead 99 (by rfl) .nilp ?_)
  (repeat' ((conv=>whnf);first|refine zO ?_|refine Ob.auto ?_|refine zI ?_|refine zD 600 ?_|(refine qi (fun _=>rfl) (by kernel_rfl) 600 ?_)|(apply zB <;> intro hb <;> (try simp [-zd] at hb) <;> try (exfalso;omega))|refine Ob.intro ?_ ?_))
  ((conv=>whnf);refine AltG.far 13 [1] (by kernel_rfl) farA (EndG.dead 99 (by rfl)))
 | true=>
  cases hk2:(u.2.err == 0) with
  | false=>
   have hk:=hk2
   (repeat' ((conv=>whnf);first|refine zA ?_|refine zO ?_|refine Ob.auto ?_|refine zI ?_|refine zD 600 ?_|(refine qi (fun _=>rfl) (by kernel_rfl) 600 ?_)|(apply zB <;> intro hb <;> (try simp [-zd] at hb) <;> try (exfalso;omega))|refine Ob.intro ?_ ?_))
   ((conv=>whnf);refine CallY.trip [0] (t1.trip hk1) (by kernel_rfl) leA qa (by exact qb rfl) (by exact qb rfl) ?_)
   (repeat' ((conv=>whnf);first|refine zO ?_|refine Ob.auto ?_|refine zI ?_|refine zD 600 ?_|(refine qi (fun _=>rfl) (by kernel_rfl) 600 ?_)|(apply zB <;> intro hb <;> (try simp [-zd] at hb) <;> try (exfalso;omega))|refine Ob.intro ?_ ?_))
   ((conv=>whnf);refine CallY.mpan 99 [0] ((t2 hk1)) hk (js hz hk) (by kernel_rfl) (by kernel_rfl) leA qa (by exact qb rfl) ?_)
   (repeat' ((conv=>whnf);first|refine zO ?_|refine Ob.auto ?_|refine zI ?_|refine zD 600 ?_|(refine qi (fun _=>rfl) (by kernel_rfl) 600 ?_)|(apply zB <;> intro hb <;> (try simp [-zd] at hb) <;> try (exfalso;omega))|refine Ob.intro ?_ ?_))
   ((conv=>whnf);refine AltG.far 13 [1] (by kernel_rfl) farA (EndG.dead 99 (by rfl)))
  | true=>
   (repeat' ((conv=>whnf);first|refine zA ?_|refine zO ?_|refine Ob.auto ?_|refine zI ?_|refine zD 600 ?_|(refine qi (fun _=>rfl) (by kernel_rfl) 600 ?_)|(apply zB <;> intro hb <;> (try simp [-zd] at hb) <;> try (exfalso;omega))|refine Ob.intro ?_ ?_))
   ((conv=>whnf);refine CallY.trip [0] (t1.trip hk1) (by kernel_rfl) leA qa (by exact qb rfl) (by exact qb rfl) ?_)
   (repeat' ((conv=>whnf);first|refine zO ?_|refine Ob.auto ?_|refine zI ?_|refine zD 600 ?_|(refine qi (fun _=>rfl) (by kernel_rfl) 600 ?_)|(apply zB <;> intro hb <;> (try simp [-zd] at hb) <;> try (exfalso;omega))|refine Ob.intro ?_ ?_))
   ((conv=>whnf);refine CallY.trip [0] ((t2 hk1).trip hk2) (by kernel_rfl) leA qa (by exact qb rfl) (by exact qb rfl) ?_)
   (repeat' ((conv=>whnf);first|refine zO ?_|refine Ob.auto ?_|refine zI ?_|refine zD 600 ?_|(refine qi (fun _=>rfl) (by kernel_rfl) 600 ?_)|(apply zB <;> intro hb <;> (try simp [-zd] at hb) <;> try (exfalso;omega))|refine Ob.intro ?_ ?_))
   ((conv=>whnf);refine AltG.far 13 [1] (by kernel_rfl) farA (EndG.go ?_))
   (repeat' ((conv=>whnf);first|refine zA ?_|refine zO ?_|refine Ob.auto ?_|refine zD 600 ?_|(apply zB <;> intro hb <;> (try simp [-zd] at hb) <;> try (exfalso;omega))|refine Ob.intro ?_ ?_))
   have h5:PreC ts (n+1) u.2:=h0.step a12 hk2
   ((conv=>whnf);refine zT 600 [0] (t4 h5) qa ?_)
   cases hs5:sees ts u.2 qga with
   | false=>
    have e5:took ts u.2 qga=u.2:=za (by rw [hs5];decide)
    have e6:qaf ts u.2 qga=0:=za (by rw [hs5];decide)
    rw [za (by rw [hs5];decide)] at hze
    subst hze
    rw [e5,e6]
    (repeat' ((conv=>whnf);first|refine zA ?_|refine zO ?_|refine Ob.auto ?_|refine zD 600 ?_|(apply zB <;> intro hb <;> (try simp [-zd] at hb) <;> try (exfalso;omega))|refine Ob.intro ?_ ?_))
    exact ⟨hk2,Le.rptrL ⟨Le.refl _,Le.nils _ _,Le.nils _ _,Le.refl _,Le.refl _,qqc rfl rfl,trivial⟩,qa⟩
   | true=>
    have e5:took ts u.2 qga=adv u.2:=zb hs5
    have e6:qaf ts u.2 qga=1:=zb hs5
    rw [zb hs5] at hze
    subst hze
    have a3:=qh ht A2 hs5
    have t6:=hbt (adv u.2) (h.less (a12.trans a3) (qbw h5.err))
    unfold RdM at t6
    rw [e5,e6]
    dsimp only
    generalize qw ts (qf ts n) (adv u.2)=v at *
    (repeat' ((conv=>whnf);first|refine zA ?_|refine zO ?_|refine Ob.auto ?_|refine zD 600 ?_|(apply zB <;> intro hb <;> (try simp [-zd] at hb) <;> try (exfalso;omega))|refine Ob.intro ?_ ?_))
    cases hk:(v.2.err == 0) with
    | false=>
     (repeat' ((conv=>whnf);first|refine zA ?_|refine zO ?_|refine Ob.auto ?_|refine zI ?_|refine zD 600 ?_|(refine qi (fun _=>rfl) (by kernel_rfl) 600 ?_)|(apply zB <;> intro hb <;> (try simp [-zd] at hb) <;> try (exfalso;omega))|refine Ob.intro ?_ ?_))
     ((conv=>whnf);refine CallY.mpan 99 [0] (t6) hk (⟨rfl,rfl⟩) (by kernel_rfl) (by kernel_rfl) leA qa (by exact qb rfl) ?_)
     (repeat' ((conv=>whnf);first|refine zO ?_|refine Ob.auto ?_|refine zI ?_|refine zD 600 ?_|(refine qi (fun _=>rfl) (by kernel_rfl) 600 ?_)|(apply zB <;> intro hb <;> (try simp [-zd] at hb) <;> try (exfalso;omega))|refine Ob.intro ?_ ?_))
     ((conv=>whnf);refine AltG.far 11 [1] (by kernel_rfl) farA (EndG.dead 99 (by rfl)))
    | true=>
     (repeat' ((conv=>whnf);first|refine zA ?_|refine zO ?_|refine Ob.auto ?_|refine zI ?_|refine zD 600 ?_|(refine qi (fun _=>rfl) (by kernel_rfl) 600 ?_)|(apply zB <;> intro hb <;> (try simp [-zd] at hb) <;> try (exfalso;omega))|refine Ob.intro ?_ ?_))
     ((conv=>whnf);refine CallY.trip [0] (t6.trip hk) (by kernel_rfl) leA qa (by exact qb rfl) (by exact qb rfl) ?_)
     (repeat' ((conv=>whnf);first|refine zO ?_|refine Ob.auto ?_|refine zI ?_|refine zD 600 ?_|(refine qi (fun _=>rfl) (by kernel_rfl) 600 ?_)|(apply zB <;> intro hb <;> (try simp [-zd] at hb) <;> try (exfalso;omega))|refine Ob.intro ?_ ?_))
     ((conv=>whnf);refine AltG.far 11 [1] (by kernel_rfl) farA (EndG.go ?_))
     (repeat' ((conv=>whnf);first|refine zA ?_|refine zO ?_|refine Ob.auto ?_|refine zD 600 ?_|(apply zB <;> intro hb <;> (try simp [-zd] at hb) <;> try (exfalso;omega))|refine Ob.intro ?_ ?_))
     exact ⟨rfl,Le.rptrL ⟨Le.refl _,Le.nils _ _,Le.nils _ _,Le.refl _,Le.refl _,jmb rfl rfl rfl,trivial⟩,qa⟩
theorem jnb (hc:TC ts) (h:PreC ts (n+1) p) (hkey:keyF (tk ts p).s=true) (hno:∀ s∈[qab,jy,qac,ji,qbz,kIf,qca,qcb,qcc,qcd],¬ (tk ts p).s=s):RdM ts 99 (qf ts (n+1)) p:=by
 have ht:=hc.ok
 have h2:=ht.len
 have g0:=h.at_.lo
 have g1:=h.at_.hi
 have key:∀ s,kwB s=true→sees ts p s=((tk ts p).s == s):=fun s hs=>qcx hc.kind h.at_ h.err hs
 have no:∀ s∈[qab,jy,qac,ji,qbz,kIf,qca,qcb,qcc,qcd],¬ (sees ts p s=true):=fun s hs he=>hno s hs (by
  have:kwB s=true:=List.all_eq_true.1 (show [qab,jy,qac,ji,qbz,kIf,qca,qcb,qcc,qcd].all kwB=true by decide +kernel) s hs
  rw [key s this] at he
  simpa using he)
 have q_kIdle:¬ (tk ts p).s=qab:=hno _ (by simp)
 have no_kIdle:=no qab (by simp)
 have q_kRecv:¬ (tk ts p).s=jy:=hno _ (by simp)
 have no_kRecv:=no jy (by simp)
 have q_kWhen:¬ (tk ts p).s=qac:=hno _ (by simp)
 have no_kWhen:=no qac (by simp)
 have q_kChoose:¬ (tk ts p).s=ji:=hno _ (by simp)
 have no_kChoose:=no ji (by simp)
 have q_kSend:¬ (tk ts p).s=qbz:=hno _ (by simp)
 have no_kSend:=no qbz (by simp)
 have q_kIf:¬ (tk ts p).s=kIf:=hno _ (by simp)
 have no_kIf:=no kIf (by simp)
 have q_kWhile:¬ (tk ts p).s=qca:=hno _ (by simp)
 have no_kWhile:=no qca (by simp)
 have q_kAtomic:¬ (tk ts p).s=qcb:=hno _ (by simp)
 have no_kAtomic:=no qcb (by simp)
 have q_kSkip:¬ (tk ts p).s=qcc:=hno _ (by simp)
 have no_kSkip:=no qcc (by simp)
 have q_kStop:¬ (tk ts p).s=qcd:=hno _ (by simp)
 have no_kStop:=no qcd (by simp)
 have hni:qdq ts p=false:=by
  unfold qdq nameF
  rw [hkey]
  simp
 have eb:qd ts p={ p with err:=11,fat:=(tk ts p).pos }:=by
  unfold qd bad
  rw [za (by rw [hni];decide),zb h.err]
 have e2:qf ts (n+1) p=(.mk 6 [jn ts p] [] (tk ts p).pos [(eF ts (must ts (qd ts p) sEq)).1],must ts (eF ts (must ts (qd ts p) sEq)).2 qj):=by
  unfold qf
  simp only
  rw [za (by rintro (h|h|h|h) <;> first|exact no_kIdle h|exact no_kRecv h|exact no_kWhen h|exact no_kChoose h),za no_kSend,za no_kIf,za no_kWhile,za no_kAtomic,za no_kSkip,za no_kStop]
 have a1:=jl ht h.at_
 have A1:=a1.ok h.at_
 have a2:=qe ht A1 sEq
 have a3:=qas ht _ (a2.ok A1)
 have a4:=qe ht (a3.ok (a2.ok A1)) qj
 have hz:=(a2.trans (a3.trans a4)).err (by rw [eb];show (11:Int)≠0;decide)
 have hkc:=qdu (tk ts p).s
 rw [hkey] at hkc
 rw [RdM,e2]
 dsimp only
 rw [hz,eb]
 refine qat (T:=tab Try.prog) (C:={}) 600 (fun _=>rfl) Try.func99 rfl (by kernel_rfl) (by kernel_rfl) (fun c0 rdb mpb=>?_)
 (repeat' ((conv=>whnf);first|refine zA ?_|refine zO ?_|refine Ob.auto ?_|refine zD 600 ?_|(apply zB <;> intro hb <;> (try simp [-zd] at hb) <;> try (exfalso;omega))|refine Ob.intro ?_ ?_))
 ((conv=>whnf);refine zT 600 [0] (qbc h.at_ 6) qa ?_)
 (repeat' ((conv=>whnf);first|refine zA ?_|refine zO ?_|refine Ob.auto ?_|(refine Ob.intro (by (exact qv (by dsimp only;omega) (by dsimp only;omega))) ?_)|refine zC 600 (qr h.at_) ?_|refine zG 600 (fun hg=>qr h.at_) ?_|(refine CallY.con (qr h.at_) (by rfl) leA ?_)|(refine CallZ.con (fun hg=>qr h.at_) qn (by rfl) ?_)|refine zC 600 (hkc) ?_|refine zG 600 (fun hg=>hkc) ?_|(refine CallY.con (hkc) (by rfl) leA ?_)|(refine CallZ.con (fun hg=>hkc) qn (by rfl) ?_)|(refine ql (fun _=>rfl) 600 (qr h.at_) qc (by (repeat' (first|exact trivial|exact Le.refl _|(refine And.intro ?_ ?_))) <;> fail) (by rfl) (by kernel_rfl) ?_)|(refine qp (fun _=>rfl) 600 (fun hg=>qr h.at_) (fun hg=>qc) (fun hg=>(by (repeat' (first|exact trivial|exact Le.refl _|exact Le.cnd hg|(refine And.intro ?_ ?_))) <;> fail)) (by rfl) (by kernel_rfl) ?_)|(refine ql (fun _=>rfl) 600 (hkc) qc (by (repeat' (first|exact trivial|exact Le.refl _|(refine And.intro ?_ ?_))) <;> fail) (by rfl) (by kernel_rfl) ?_)|(refine qp (fun _=>rfl) 600 (fun hg=>hkc) (fun hg=>qc) (fun hg=>(by (repeat' (first|exact trivial|exact Le.refl _|exact Le.cnd hg|(refine And.intro ?_ ?_))) <;> fail)) (by rfl) (by kernel_rfl) ?_)|refine zD 600 ?_|(apply zB <;> intro hb <;> (try simp [-zd] at hb) <;> (try (exfalso;omega)) <;> (try contradiction))|refine Ob.intro ?_ ?_))
 ((conv=>whnf);exact qgd [0] (qgt h.at_ 11) rfl (⟨rfl,rfl⟩) (by kernel_rfl) (by kernel_rfl) leA qa (by exact qb rfl))
theorem jnc (hc:TC ts):∀ n q,PreC ts n q→RdM ts 99 (qf ts n) q:=by
 intro n
 induction n with
 | zero=>intro p h;have:=h.left;have:=h.at_.hi;omega
 | succ n ih=>
  intro p h
  have ht:=hc.ok
  have hbt:∀ q,PreC ts n q→RdM ts 107 (qw ts (qf ts n)) q:=by
   cases n with
   | zero=>intro q hq;have:=hq.left;have:=hq.at_.hi;omega
   | succ m=>exact fun q hq=>jmj hc (qeb ht _) (qts ht m) ih hq
  cases hk:keyF (tk ts p).s with
  | false=>exact jmq hc h hk
  | true=>
   by_cases x_kIdle:(tk ts p).s=qab
   ·exact jmx hc hbt h x_kIdle
   by_cases x_kRecv:(tk ts p).s=jy
   ·exact jmr hc h x_kRecv
   by_cases x_kWhen:(tk ts p).s=qac
   ·exact jms hc h x_kWhen
   by_cases x_kChoose:(tk ts p).s=ji
   ·exact jmt hc hbt h x_kChoose
   by_cases x_kSend:(tk ts p).s=qbz
   ·exact jmu hc h x_kSend
   by_cases x_kIf:(tk ts p).s=kIf
   ·exact jna hc hbt h x_kIf
   by_cases x_kWhile:(tk ts p).s=qca
   ·exact jmz hc hbt h x_kWhile
   by_cases x_kAtomic:(tk ts p).s=qcb
   ·exact jmy hc hbt h x_kAtomic
   by_cases x_kSkip:(tk ts p).s=qcc
   ·exact jmv hc h x_kSkip
   by_cases x_kStop:(tk ts p).s=qcd
   ·exact jmw hc h x_kStop
   exact jnb hc h hk (fun s hs=>by
    simp only [List.mem_cons,List.not_mem_nil,or_false] at hs
    rcases hs with rfl|rfl|rfl|rfl|rfl|rfl|rfl|rfl|rfl|rfl <;> assumption)
end
end Go.Proofs.Ythfaleaojlnnoaa
