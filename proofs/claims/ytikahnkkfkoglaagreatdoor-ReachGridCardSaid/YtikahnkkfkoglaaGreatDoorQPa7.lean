/- Contracts of the document's parser: statements. -/
import Derived.Test.YtikahnkkfkoglaaGreatDoorQ23
import Derived.Test.YtikahnkkfkoglaaGreatDoorQ2
set_option linter.unusedSimpArgs false
set_option linter.unusedVariables false
namespace Go.Proofs.YtikahnkkfkoglaaGreatDoor
open List renaming getD_eq_getElem?_getD → zd
open Go Go.Sx Go.RowKit Go.St Pa
set_option maxRecDepth 100000
set_option maxHeartbeats 8000000
section
variable {ts:List Lx.Tok} {p q:Ps} {n:Nat}
theorem Pre.less (h:Pre ts (n+1) p) (k:Step ts (adv p) q):Pre ts n q:=
 ⟨⟨by have:=h.at_.lo;have:p.at_+1≤q.at_:=k.le;omega,k.hi⟩,by have:=h.deep;have:p.at_+1≤q.at_:=k.le;have:q.deep=p.deep:=k.deep;omega,by have:=h.left;have:p.at_+1≤q.at_:=k.le;omega⟩
theorem jsr (ht:ToksOk ts):∀ n q,Pre ts n q→RdT ts 135 (qd ts n) q:=by
 intro n
 induction n with
 | zero=>intro p h;have:=h.left;have:=h.at_.hi;omega
 | succ n ih=>
  intro p h
  have h2:=ht.len
  have hB:=qsb ht (qkn ht n)
  have hbt:∀ q,Pre ts n q→RdT ts 143 (qq ts (qd ts n)) q:=by
   cases n with
   | zero=>intro q hq;have:=hq.left;have:=hq.at_.hi;omega
   | succ m=>exact fun q hq=>jsq ht (qkn ht _) (jfz ht m) ih hq
  refine zM {} 600 Tryz.func135 (fun c0 rdb mpb=>?_)
  (repeat' ((conv=>whnf);first|(refine qm (fun _=>rfl) 600 (qkq h.at_ _) qc (by (repeat' (first|exact trivial|exact Le.refl _|(refine And.intro ?_ ?_))) <;> fail) (by rfl) (by kernel_rfl) ?_)|fail))
  ((conv=>whnf);refine zT 600 [0] (qxa ht h.at_ qdx) qa ?_)
  cases hi:sees ts p qdx with
  | true=>
   have e1:took ts p qdx=adv p:=zb hi
   have e2:qgp ts p qdx=1:=zb hi
   have hs1:=qh ht h.at_ hi
   have h1:=h.step hs1
   have e3:qd ts (n+1) p=qdm ts (qq ts (qd ts n)) (tk ts p).pos 1 (adv p):=(zb (.inl hi)).trans (by rw [e1,e2])
   rw [e1,e2]
   (repeat' ((conv=>whnf);first|refine Ob.auto ?_|(refine jb (fun _=>rfl) 600 (fun hg=>qfh h1.at_ _) (fun hg=>qc) (fun hg=>(by (repeat' (first|exact trivial|exact Le.refl _|exact Le.cnd hg|(refine And.intro ?_ ?_))) <;> fail)) (by rfl) (by kernel_rfl) ?_)|(apply zB <;> intro hb <;> (try simp [-zd] at hb) <;> try (exfalso;omega))))
   cases hr:sees ts (adv p) qdk with
   | true=>
    have e4:qdm ts (qq ts (qd ts n)) (tk ts p).pos 1 (adv p)=(.mk 8 [qac ts (adv (adv p)),qac ts (qf ts (adv (adv p)))] [1] (tk ts p).pos [],must ts (qf ts (qf ts (adv (adv p)))) qp):=zb hr
    rw [e3,e4]
    ((conv=>whnf);refine zT 600 [0,2] (jgh ht h1 hr 1 (tk ts p).pos) (⟨SoLe.refl _,⟨rfl,Le.refl _,Le.refl _,jn rfl,Le.refl _,Le.refl _,Le.refl _,trivial⟩,trivial⟩) ?_)
    (repeat' ((conv=>whnf);first|refine Ob.auto ?_|fail))
    (refine ⟨Le.agg ⟨Le.refl _,?_,?_,Le.refl _,Le.refl _,?_,trivial⟩,qa⟩ <;> first|exact Le.nils _ _|exact Le.refl _|exact jn rfl|exact jx rfl|exact qah rfl|exact qaf rfl rfl|exact qag rfl rfl|exact qai rfl rfl|exact qaj rfl rfl rfl|exact qak (fun _ _=>rfl))
   | false=>
    cases hw:sees ts (adv p) qex with
    | true=>
     have e4:qdm ts (qq ts (qd ts n)) (tk ts p).pos 1 (adv p)=(.mk 9 [] [1] (tk ts p).pos [(eF ts (adv (adv p))).1],must ts (eF ts (adv (adv p))).2 qp):=(za (by rw [hr];decide)).trans (zb hw)
     rw [e3,e4]
     ((conv=>whnf);refine zT 600 [0,2] (jgi ht h1 hr hw 1 (tk ts p).pos) (⟨SoLe.refl _,⟨rfl,Le.refl _,Le.refl _,jn rfl,Le.refl _,Le.refl _,Le.refl _,trivial⟩,trivial⟩) ?_)
     (repeat' ((conv=>whnf);first|refine Ob.auto ?_|fail))
     (refine ⟨Le.agg ⟨Le.refl _,?_,?_,Le.refl _,Le.refl _,?_,trivial⟩,qa⟩ <;> first|exact Le.nils _ _|exact Le.refl _|exact jn rfl|exact jx rfl|exact qah rfl|exact qaf rfl rfl|exact qag rfl rfl|exact qai rfl rfl|exact qaj rfl rfl rfl|exact qak (fun _ _=>rfl))
    | false=>
     have hq:Pre ts n (must ts (adv p) jg):=h.less (qk ht h1.at_ jg)
     have e4:qdm ts (qq ts (qd ts n)) (tk ts p).pos 1 (adv p)=(.mk 10 [] [1] (tk ts p).pos (orL ts (qq ts (qd ts n)) ts.length [(qq ts (qd ts n) (must ts (adv p) jg)).1] (qq ts (qd ts n) (must ts (adv p) jg)).2).1,(orL ts (qq ts (qd ts n)) ts.length [(qq ts (qd ts n) (must ts (adv p) jg)).1] (qq ts (qd ts n) (must ts (adv p) jg)).2).2):=(za (by rw [hr];decide)).trans (za (by rw [hw];decide))
     rw [e3,e4]
     ((conv=>whnf);refine zT 600 [0,2] (jgj ht hB hbt h1 hq hr hw 1 (tk ts p).pos) (⟨SoLe.refl _,⟨rfl,Le.refl _,Le.refl _,jn rfl,Le.refl _,Le.refl _,Le.refl _,trivial⟩,trivial⟩) ?_)
     (repeat' ((conv=>whnf);first|refine Ob.auto ?_|fail))
     (refine ⟨Le.agg ⟨Le.refl _,?_,?_,Le.refl _,Le.refl _,?_,trivial⟩,qa⟩ <;> first|exact Le.nils _ _|exact Le.refl _|exact jn rfl|exact jx rfl|exact qah rfl|exact qaf rfl rfl|exact qag rfl rfl|exact qai rfl rfl|exact qaj rfl rfl rfl|exact qak (fun _ _=>rfl))
  | false=>
   have e1:took ts p qdx=p:=za (by rw [hi];decide)
   have e2:qgp ts p qdx=0:=za (by rw [hi];decide)
   rw [e1,e2]
   (repeat' ((conv=>whnf);first|refine Ob.auto ?_|(refine jb (fun _=>rfl) 600 (fun hg=>qfh h.at_ _) (fun hg=>qc) (fun hg=>(by (repeat' (first|exact trivial|exact Le.refl _|exact Le.cnd hg|(refine And.intro ?_ ?_))) <;> fail)) (by rfl) (by kernel_rfl) ?_)|(apply zB <;> intro hb <;> (try simp [-zd] at hb) <;> try (exfalso;omega))))
   ·have hcond:sees ts p qdx=true∨sees ts p qdk=true∨sees ts p qex=true∨sees ts p jg=true:=by
     rcases hb with (hb|hb)|hb
     ·exact .inr (.inl hb)
     ·exact .inr (.inr (.inl hb))
     ·exact .inr (.inr (.inr hb))
    have e3:qd ts (n+1) p=qdm ts (qq ts (qd ts n)) (tk ts p).pos 0 p:=(zb hcond).trans (by rw [e1,e2])
    cases hr:sees ts p qdk with
    | true=>
     have e4:qdm ts (qq ts (qd ts n)) (tk ts p).pos 0 p=(.mk 8 [qac ts (adv p),qac ts (qf ts (adv p))] [0] (tk ts p).pos [],must ts (qf ts (qf ts (adv p))) qp):=zb hr
     rw [e3,e4]
     ((conv=>whnf);refine zT 600 [0,2] (jgh ht h hr 0 (tk ts p).pos) (⟨SoLe.refl _,⟨rfl,Le.refl _,Le.refl _,jn rfl,Le.refl _,Le.refl _,Le.refl _,trivial⟩,trivial⟩) ?_)
     (repeat' ((conv=>whnf);first|refine Ob.auto ?_|fail))
     (refine ⟨Le.agg ⟨Le.refl _,?_,?_,Le.refl _,Le.refl _,?_,trivial⟩,qa⟩ <;> first|exact Le.nils _ _|exact Le.refl _|exact jn rfl|exact jx rfl|exact qah rfl|exact qaf rfl rfl|exact qag rfl rfl|exact qai rfl rfl|exact qaj rfl rfl rfl|exact qak (fun _ _=>rfl))
    | false=>
     cases hw:sees ts p qex with
     | true=>
      have e4:qdm ts (qq ts (qd ts n)) (tk ts p).pos 0 p=(.mk 9 [] [0] (tk ts p).pos [(eF ts (adv p)).1],must ts (eF ts (adv p)).2 qp):=(za (by rw [hr];decide)).trans (zb hw)
      rw [e3,e4]
      ((conv=>whnf);refine zT 600 [0,2] (jgi ht h hr hw 0 (tk ts p).pos) (⟨SoLe.refl _,⟨rfl,Le.refl _,Le.refl _,jn rfl,Le.refl _,Le.refl _,Le.refl _,trivial⟩,trivial⟩) ?_)
      (repeat' ((conv=>whnf);first|refine Ob.auto ?_|fail))
      (refine ⟨Le.agg ⟨Le.refl _,?_,?_,Le.refl _,Le.refl _,?_,trivial⟩,qa⟩ <;> first|exact Le.nils _ _|exact Le.refl _|exact jn rfl|exact jx rfl|exact qah rfl|exact qaf rfl rfl|exact qag rfl rfl|exact qai rfl rfl|exact qaj rfl rfl rfl|exact qak (fun _ _=>rfl))
     | false=>
      have hch:sees ts p jg=true:=by rcases hcond with hc|hc|hc|hc <;> simp_all
      have hq:Pre ts n (must ts p jg):=by rw [show must ts p jg=adv p from zb hch];exact h.less (((qh ht h.at_ hch).ok h.at_).refl)
      have e4:qdm ts (qq ts (qd ts n)) (tk ts p).pos 0 p=(.mk 10 [] [0] (tk ts p).pos (orL ts (qq ts (qd ts n)) ts.length [(qq ts (qd ts n) (must ts p jg)).1] (qq ts (qd ts n) (must ts p jg)).2).1,(orL ts (qq ts (qd ts n)) ts.length [(qq ts (qd ts n) (must ts p jg)).1] (qq ts (qd ts n) (must ts p jg)).2).2):=(za (by rw [hr];decide)).trans (za (by rw [hw];decide))
      rw [e3,e4]
      ((conv=>whnf);refine zT 600 [0,2] (jgj ht hB hbt h hq hr hw 0 (tk ts p).pos) (⟨SoLe.refl _,⟨rfl,Le.refl _,Le.refl _,jn rfl,Le.refl _,Le.refl _,Le.refl _,trivial⟩,trivial⟩) ?_)
      (repeat' ((conv=>whnf);first|refine Ob.auto ?_|fail))
      (refine ⟨Le.agg ⟨Le.refl _,?_,?_,Le.refl _,Le.refl _,?_,trivial⟩,qa⟩ <;> first|exact Le.nils _ _|exact Le.refl _|exact jn rfl|exact jx rfl|exact qah rfl|exact qaf rfl rfl|exact qag rfl rfl|exact qai rfl rfl|exact qaj rfl rfl rfl|exact qak (fun _ _=>rfl))
   have hc0:¬ (sees ts p qdx=true∨sees ts p qdk=true∨sees ts p qex=true∨sees ts p jg=true):=by
    rw [hi,hb.1.1,hb.1.2,hb.2];decide
   ((conv=>whnf);refine zT 600 [0] (qau ht h.at_ qod) qa ?_)
   cases hkSend:sees ts p qod with
   | true=>
    have tkSend:took ts p qod=adv p:=zb hkSend
    have hs1:=qh ht h.at_ hkSend
    have h1:Pre ts n (adv p):=h.less ((hs1.ok h.at_).refl)
    rw [tkSend]
    (repeat' ((conv=>whnf);first|(apply zB <;> intro hb <;> (try simp [-zd] at hb) <;> try (exfalso;omega))))
    have e5:qd ts (n+1) p=(.mk 7 [qac ts (adv p)] [] (tk ts p).pos [(eF ts (qf ts (adv p))).1],must ts (eF ts (qf ts (adv p))).2 qp):=((za hc0)).trans (zb hkSend)
    rw [e5]
    have h2:=h1.step (qaq ht h1.at_)
    have h3:=h2.step (qbj ht _ h2.at_)
    (repeat' ((conv=>whnf);first|(refine qax (fun _=>rfl) (by kernel_rfl) 600 ?_)|fail))
    ((conv=>whnf);refine CallY.trip [0] (qht ht h1.at_) (by kernel_rfl) leA qa (by exact qb rfl) (by exact qb rfl) ?_)
    (repeat' ((conv=>whnf);first|refine Ob.auto ?_|fail))
    ((conv=>whnf);refine AltG.far 9 [2] (by kernel_rfl) farA (EndG.go ?_))
    ((conv=>whnf);refine qbm (fun _=>rfl) (by kernel_rfl) 600 [.turn [0] [.ptr 0 0] [pso ts (qf ts (adv p))] (eF ts (qf ts (adv p))).1.av [(0,pso ts (eF ts (qf ts (adv p))).2)]] (by kernel_rfl) ?_)
    (repeat' ((conv=>whnf);first|refine Ob.auto ?_|refine Ob.intro ?_ ?_|fail))
    ·exact ⟨e_rd ht h2.full,by kernel_rfl,leA,qa,by exact qb rfl,by exact qb rfl⟩
    ((conv=>whnf);refine zT 600 [0] (qbc ht h3.at_ qp) qa ?_)
    (repeat' ((conv=>whnf);first|refine Ob.auto ?_|fail))
    (refine ⟨Le.agg ⟨Le.refl _,?_,?_,Le.refl _,Le.refl _,?_,trivial⟩,qa⟩ <;> first|exact Le.nils _ _|exact Le.refl _|exact jn rfl|exact jx rfl|exact qah rfl|exact qaf rfl rfl|exact qag rfl rfl|exact qai rfl rfl|exact qaj rfl rfl rfl|exact qak (fun _ _=>rfl))
   | false=>
    have tkSend:took ts p qod=p:=za (by rw [hkSend];decide)
    rw [tkSend]
    (repeat' ((conv=>whnf);first|(apply zB <;> intro hb <;> (try simp [-zd] at hb) <;> try (exfalso;omega))))
    ((conv=>whnf);refine zT 600 [0] (qau ht h.at_ kIf) qa ?_)
    cases hkIf:sees ts p kIf with
    | true=>
     have tkIf:took ts p kIf=adv p:=zb hkIf
     have hs1:=qh ht h.at_ hkIf
     have h1:Pre ts n (adv p):=h.less ((hs1.ok h.at_).refl)
     rw [tkIf]
     (repeat' ((conv=>whnf);first|(apply zB <;> intro hb <;> (try simp [-zd] at hb) <;> try (exfalso;omega))))
     have h2:=h1.step (qbj ht _ h1.at_)
     have h3:=h2.step (hB _ h2.at_)
     ((conv=>whnf);refine qbm (fun _=>rfl) (by kernel_rfl) 600 [.turn [0] [.ptr 0 0] [pso ts (adv p)] (eF ts (adv p)).1.av [(0,pso ts (eF ts (adv p)).2)]] (by kernel_rfl) ?_)
     (repeat' ((conv=>whnf);first|refine Ob.auto ?_|refine Ob.intro ?_ ?_|fail))
     ·exact ⟨e_rd ht h1.full,by kernel_rfl,leA,qa,by exact qb rfl,by exact qb rfl⟩
     ((conv=>whnf);refine qbm (fun _=>rfl) (by kernel_rfl) 600 [.turn [0] [.ptr 0 0] [pso ts (eF ts (adv p)).2] (qq ts (qd ts n) (eF ts (adv p)).2).1.av [(0,pso ts (qq ts (qd ts n) (eF ts (adv p)).2).2)]] (by kernel_rfl) ?_)
     (repeat' ((conv=>whnf);first|refine Ob.auto ?_|refine Ob.intro ?_ ?_|fail))
     ·exact ⟨hbt _ h2,by kernel_rfl,leA,qa,by exact qb rfl,by exact qb rfl⟩
     ((conv=>whnf);refine zT 600 [0] (qau ht h3.at_ qoe) qa ?_)
     cases hel:sees ts (qq ts (qd ts n) (eF ts (adv p)).2).2 qoe with
     | true=>
      have tel:took ts (qq ts (qd ts n) (eF ts (adv p)).2).2 qoe=adv (qq ts (qd ts n) (eF ts (adv p)).2).2:=zb hel
      have h4:=h3.step (qh ht h3.at_ hel)
      have e5:qd ts (n+1) p=(.mk 11 [] [] (tk ts p).pos [(eF ts (adv p)).1,(qq ts (qd ts n) (eF ts (adv p)).2).1,(qq ts (qd ts n) (adv (qq ts (qd ts n) (eF ts (adv p)).2).2)).1],(qq ts (qd ts n) (adv (qq ts (qd ts n) (eF ts (adv p)).2).2)).2):=(((za hc0)).trans (za (by rw [hkSend];decide))).trans ((zb hkIf).trans (zb hel))
      rw [tel,e5]
      (repeat' ((conv=>whnf);first|(apply zB <;> intro hb <;> (try simp [-zd] at hb) <;> try (exfalso;omega))))
      ((conv=>whnf);refine qbm (fun _=>rfl) (by kernel_rfl) 600 [.turn [0] [.ptr 0 0] [pso ts (adv (qq ts (qd ts n) (eF ts (adv p)).2).2)] (qq ts (qd ts n) (adv (qq ts (qd ts n) (eF ts (adv p)).2).2)).1.av [(0,pso ts (qq ts (qd ts n) (adv (qq ts (qd ts n) (eF ts (adv p)).2).2)).2)]] (by kernel_rfl) ?_)
      (repeat' ((conv=>whnf);first|refine Ob.auto ?_|refine Ob.intro ?_ ?_|fail))
      ·exact ⟨hbt _ h4,by kernel_rfl,leA,qa,by exact qb rfl,by exact qb rfl⟩
      (refine ⟨Le.agg ⟨Le.refl _,?_,?_,Le.refl _,Le.refl _,?_,trivial⟩,qa⟩ <;> first|exact Le.nils _ _|exact Le.refl _|exact jn rfl|exact jx rfl|exact qah rfl|exact qaf rfl rfl|exact qag rfl rfl|exact qai rfl rfl|exact qaj rfl rfl rfl|exact qak (fun _ _=>rfl))
     | false=>
      have tel:took ts (qq ts (qd ts n) (eF ts (adv p)).2).2 qoe=(qq ts (qd ts n) (eF ts (adv p)).2).2:=za (by rw [hel];decide)
      have e5:qd ts (n+1) p=(.mk 11 [] [] (tk ts p).pos [(eF ts (adv p)).1,(qq ts (qd ts n) (eF ts (adv p)).2).1],(qq ts (qd ts n) (eF ts (adv p)).2).2):=(((za hc0)).trans (za (by rw [hkSend];decide))).trans ((zb hkIf).trans (za (by rw [hel];decide)))
      rw [tel,e5]
      (repeat' ((conv=>whnf);first|refine Ob.auto ?_|(apply zB <;> intro hb <;> (try simp [-zd] at hb) <;> try (exfalso;omega))))
      (refine ⟨Le.agg ⟨Le.refl _,?_,?_,Le.refl _,Le.refl _,?_,trivial⟩,qa⟩ <;> first|exact Le.nils _ _|exact Le.refl _|exact jn rfl|exact jx rfl|exact qah rfl|exact qaf rfl rfl|exact qag rfl rfl|exact qai rfl rfl|exact qaj rfl rfl rfl|exact qak (fun _ _=>rfl))
    | false=>
     have tkIf:took ts p kIf=p:=za (by rw [hkIf];decide)
     rw [tkIf]
     (repeat' ((conv=>whnf);first|(apply zB <;> intro hb <;> (try simp [-zd] at hb) <;> try (exfalso;omega))))
     ((conv=>whnf);refine zT 600 [0] (qau ht h.at_ qof) qa ?_)
     cases hkWhile:sees ts p qof with
     | true=>
      have tkWhile:took ts p qof=adv p:=zb hkWhile
      have hs1:=qh ht h.at_ hkWhile
      have h1:Pre ts n (adv p):=h.less ((hs1.ok h.at_).refl)
      rw [tkWhile]
      (repeat' ((conv=>whnf);first|(apply zB <;> intro hb <;> (try simp [-zd] at hb) <;> try (exfalso;omega))))
      have e5:qd ts (n+1) p=(.mk 12 [] [] (tk ts p).pos [(eF ts (adv p)).1,(qq ts (qd ts n) (eF ts (adv p)).2).1],(qq ts (qd ts n) (eF ts (adv p)).2).2):=((((za hc0)).trans (za (by rw [hkSend];decide))).trans (za (by rw [hkIf];decide))).trans (zb hkWhile)
      rw [e5]
      have h2:=h1.step (qbj ht _ h1.at_)
      ((conv=>whnf);refine qbm (fun _=>rfl) (by kernel_rfl) 600 [.turn [0] [.ptr 0 0] [pso ts (adv p)] (eF ts (adv p)).1.av [(0,pso ts (eF ts (adv p)).2)]] (by kernel_rfl) ?_)
      (repeat' ((conv=>whnf);first|refine Ob.auto ?_|refine Ob.intro ?_ ?_|fail))
      ·exact ⟨e_rd ht h1.full,by kernel_rfl,leA,qa,by exact qb rfl,by exact qb rfl⟩
      ((conv=>whnf);refine qbm (fun _=>rfl) (by kernel_rfl) 600 [.turn [0] [.ptr 0 0] [pso ts (eF ts (adv p)).2] (qq ts (qd ts n) (eF ts (adv p)).2).1.av [(0,pso ts (qq ts (qd ts n) (eF ts (adv p)).2).2)]] (by kernel_rfl) ?_)
      (repeat' ((conv=>whnf);first|refine Ob.auto ?_|refine Ob.intro ?_ ?_|fail))
      ·exact ⟨hbt _ h2,by kernel_rfl,leA,qa,by exact qb rfl,by exact qb rfl⟩
      (refine ⟨Le.agg ⟨Le.refl _,?_,?_,Le.refl _,Le.refl _,?_,trivial⟩,qa⟩ <;> first|exact Le.nils _ _|exact Le.refl _|exact jn rfl|exact jx rfl|exact qah rfl|exact qaf rfl rfl|exact qag rfl rfl|exact qai rfl rfl|exact qaj rfl rfl rfl|exact qak (fun _ _=>rfl))
     | false=>
      have tkWhile:took ts p qof=p:=za (by rw [hkWhile];decide)
      rw [tkWhile]
      (repeat' ((conv=>whnf);first|(apply zB <;> intro hb <;> (try simp [-zd] at hb) <;> try (exfalso;omega))))
      ((conv=>whnf);refine zT 600 [0] (qau ht h.at_ qog) qa ?_)
      cases hkAtomic:sees ts p qog with
      | true=>
       have tkAtomic:took ts p qog=adv p:=zb hkAtomic
       have hs1:=qh ht h.at_ hkAtomic
       have h1:Pre ts n (adv p):=h.less ((hs1.ok h.at_).refl)
       rw [tkAtomic]
       (repeat' ((conv=>whnf);first|(apply zB <;> intro hb <;> (try simp [-zd] at hb) <;> try (exfalso;omega))))
       have e5:qd ts (n+1) p=(.mk 13 [] [] (tk ts p).pos [(qq ts (qd ts n) (adv p)).1],(qq ts (qd ts n) (adv p)).2):=(((((za hc0)).trans (za (by rw [hkSend];decide))).trans (za (by rw [hkIf];decide))).trans (za (by rw [hkWhile];decide))).trans (zb hkAtomic)
       rw [e5]
       ((conv=>whnf);refine qbm (fun _=>rfl) (by kernel_rfl) 600 [.turn [0] [.ptr 0 0] [pso ts (adv p)] (qq ts (qd ts n) (adv p)).1.av [(0,pso ts (qq ts (qd ts n) (adv p)).2)]] (by kernel_rfl) ?_)
       (repeat' ((conv=>whnf);first|refine Ob.auto ?_|refine Ob.intro ?_ ?_|fail))
       ·exact ⟨hbt _ h1,by kernel_rfl,leA,qa,by exact qb rfl,by exact qb rfl⟩
       (refine ⟨Le.agg ⟨Le.refl _,?_,?_,Le.refl _,Le.refl _,?_,trivial⟩,qa⟩ <;> first|exact Le.nils _ _|exact Le.refl _|exact jn rfl|exact jx rfl|exact qah rfl|exact qaf rfl rfl|exact qag rfl rfl|exact qai rfl rfl|exact qaj rfl rfl rfl|exact qak (fun _ _=>rfl))
      | false=>
       have tkAtomic:took ts p qog=p:=za (by rw [hkAtomic];decide)
       rw [tkAtomic]
       (repeat' ((conv=>whnf);first|(apply zB <;> intro hb <;> (try simp [-zd] at hb) <;> try (exfalso;omega))))
       ((conv=>whnf);refine zT 600 [0] (qau ht h.at_ qoh) qa ?_)
       cases hkSkip:sees ts p qoh with
       | true=>
        have tkSkip:took ts p qoh=adv p:=zb hkSkip
        have hs1:=qh ht h.at_ hkSkip
        have h1:Pre ts n (adv p):=h.less ((hs1.ok h.at_).refl)
        rw [tkSkip]
        (repeat' ((conv=>whnf);first|(apply zB <;> intro hb <;> (try simp [-zd] at hb) <;> try (exfalso;omega))))
        have e5:qd ts (n+1) p=(.mk 14 [] [] (tk ts p).pos [],must ts (adv p) qp):=((((((za hc0)).trans (za (by rw [hkSend];decide))).trans (za (by rw [hkIf];decide))).trans (za (by rw [hkWhile];decide))).trans (za (by rw [hkAtomic];decide))).trans (zb hkSkip)
        rw [e5]
        ((conv=>whnf);refine zT 600 [0] (qbc ht h1.at_ qp) qa ?_)
        (repeat' ((conv=>whnf);first|refine Ob.auto ?_|fail))
        (refine ⟨Le.agg ⟨Le.refl _,?_,?_,Le.refl _,Le.refl _,?_,trivial⟩,qa⟩ <;> first|exact Le.nils _ _|exact Le.refl _|exact jn rfl|exact jx rfl|exact qah rfl|exact qaf rfl rfl|exact qag rfl rfl|exact qai rfl rfl|exact qaj rfl rfl rfl|exact qak (fun _ _=>rfl))
       | false=>
        have tkSkip:took ts p qoh=p:=za (by rw [hkSkip];decide)
        rw [tkSkip]
        (repeat' ((conv=>whnf);first|(apply zB <;> intro hb <;> (try simp [-zd] at hb) <;> try (exfalso;omega))))
        ((conv=>whnf);refine zT 600 [0] (qau ht h.at_ qoi) qa ?_)
        cases hkStop:sees ts p qoi with
        | true=>
         have tkStop:took ts p qoi=adv p:=zb hkStop
         have hs1:=qh ht h.at_ hkStop
         have h1:Pre ts n (adv p):=h.less ((hs1.ok h.at_).refl)
         rw [tkStop]
         (repeat' ((conv=>whnf);first|(apply zB <;> intro hb <;> (try simp [-zd] at hb) <;> try (exfalso;omega))))
         have e5:qd ts (n+1) p=(.mk 15 [] [] (tk ts p).pos [],must ts (adv p) qp):=(((((((za hc0)).trans (za (by rw [hkSend];decide))).trans (za (by rw [hkIf];decide))).trans (za (by rw [hkWhile];decide))).trans (za (by rw [hkAtomic];decide))).trans (za (by rw [hkSkip];decide))).trans (zb hkStop)
         rw [e5]
         ((conv=>whnf);refine zT 600 [0] (qbc ht h1.at_ qp) qa ?_)
         (repeat' ((conv=>whnf);first|refine Ob.auto ?_|fail))
         (refine ⟨Le.agg ⟨Le.refl _,?_,?_,Le.refl _,Le.refl _,?_,trivial⟩,qa⟩ <;> first|exact Le.nils _ _|exact Le.refl _|exact jn rfl|exact jx rfl|exact qah rfl|exact qaf rfl rfl|exact qag rfl rfl|exact qai rfl rfl|exact qaj rfl rfl rfl|exact qak (fun _ _=>rfl))
        | false=>
         have tkStop:took ts p qoi=p:=za (by rw [hkStop];decide)
         rw [tkStop]
         (repeat' ((conv=>whnf);first|(apply zB <;> intro hb <;> (try simp [-zd] at hb) <;> try (exfalso;omega))))
         have e5:qd ts (n+1) p=(.mk 6 [qac ts p] [] (tk ts p).pos [(eF ts (must ts (qf ts p) sEq)).1],must ts (eF ts (must ts (qf ts p) sEq)).2 qp):=(((((((za hc0)).trans (za (by rw [hkSend];decide))).trans (za (by rw [hkIf];decide))).trans (za (by rw [hkWhile];decide))).trans (za (by rw [hkAtomic];decide))).trans (za (by rw [hkSkip];decide))).trans (za (by rw [hkStop];decide))
         have h1:=h.step (qaq ht h.at_)
         have h2:=h1.step (qk ht h1.at_ sEq)
         have h3:=h2.step (qbj ht _ h2.at_)
         rw [e5]
         (repeat' ((conv=>whnf);first|(refine qax (fun _=>rfl) (by kernel_rfl) 600 ?_)|fail))
         ((conv=>whnf);refine CallY.trip [0] (qht ht h.at_) (by kernel_rfl) leA qa (by exact qb rfl) (by exact qb rfl) ?_)
         (repeat' ((conv=>whnf);first|refine Ob.auto ?_|fail))
         ((conv=>whnf);refine AltG.far 9 [2] (by kernel_rfl) farA (EndG.go ?_))
         ((conv=>whnf);refine zT 600 [0] (qbc ht h1.at_ sEq) qa ?_)
         ((conv=>whnf);refine qbm (fun _=>rfl) (by kernel_rfl) 600 [.turn [0] [.ptr 0 0] [pso ts (must ts (qf ts p) sEq)] (eF ts (must ts (qf ts p) sEq)).1.av [(0,pso ts (eF ts (must ts (qf ts p) sEq)).2)]] (by kernel_rfl) ?_)
         (repeat' ((conv=>whnf);first|refine Ob.auto ?_|refine Ob.intro ?_ ?_|fail))
         ·exact ⟨e_rd ht h2.full,by kernel_rfl,leA,qa,by exact qb rfl,by exact qb rfl⟩
         ((conv=>whnf);refine zT 600 [0] (qbc ht h3.at_ qp) qa ?_)
         (repeat' ((conv=>whnf);first|refine Ob.auto ?_|fail))
         (refine ⟨Le.agg ⟨Le.refl _,?_,?_,Le.refl _,Le.refl _,?_,trivial⟩,qa⟩ <;> first|exact Le.nils _ _|exact Le.refl _|exact jn rfl|exact jx rfl|exact qah rfl|exact qaf rfl rfl|exact qag rfl rfl|exact qai rfl rfl|exact qaj rfl rfl rfl|exact qak (fun _ _=>rfl))
theorem s_rd (ht:ToksOk ts) (h:Pre ts n p):RdT ts 135 (sF ts) p:=jsr ht _ p h.full
end
end Go.Proofs.YtikahnkkfkoglaaGreatDoor
