/- Contracts of the document's parser: statements. -/
import Derived.Test.YtikahnkkfkoglaaGreatDoorY227
import Derived.Test.YtikahnkkfkoglaaGreatDoorY22
set_option linter.unusedSimpArgs false
set_option linter.unusedVariables false
namespace Go.Proofs.YtikahnkkfkoglaaGreatDoor
open List renaming getD_eq_getElem?_getD → zd
open Go Go.Sx Go.RowKit Go.St Pa
set_option maxRecDepth 100000
set_option maxHeartbeats 8000000
section
variable {ts:List Lx.Tok} {p q:Ps} {n:Nat}
theorem Pre.less (h:Pre ts (n+1) p) (k:Step ts (adv p) q):Pre ts n q:=
 ⟨⟨by have:=h.at_.lo;have:p.at_+1≤q.at_:=k.le;omega,k.hi⟩,by have:=h.deep;have:p.at_+1≤q.at_:=k.le;have:q.deep=p.deep:=k.deep;omega,by have:=h.left;have:p.at_+1≤q.at_:=k.le;omega⟩
theorem juh (ht:ToksOk ts):∀ n q,Pre ts n q→RdT ts 135 (qe ts n) q:=by
 intro n
 induction n with
 | zero=>intro p h;have:=h.left;have:=h.at_.hi;omega
 | succ n ih=>
  intro p h
  have h2:=ht.len
  have hB:=qto ht (qld ht n)
  have hbt:∀ q,Pre ts n q→RdT ts 143 (qy ts (qe ts n)) q:=by
   cases n with
   | zero=>intro q hq;have:=hq.left;have:=hq.at_.hi;omega
   | succ m=>exact fun q hq=>jug ht (qld ht _) (jgf ht m) ih hq
  refine zM {} 600 Tryz.func135 (fun c0 rdb mpb=>?_)
  (repeat' ((conv=>whnf);first|(refine qi (fun _=>rfl) 600 (qlg h.at_ _) qc (by (repeat' (first|exact trivial|exact Le.refl _|(refine And.intro ?_ ?_))) <;> fail) (by rfl) (by kernel_rfl) ?_)|fail))
  ((conv=>whnf);refine zT 600 [0] (qya ht h.at_ qef) qa ?_)
  cases hi:sees ts p qef with
  | true=>
   have e1:took ts p qef=adv p:=zb hi
   have e2:qhg ts p qef=1:=zb hi
   have hs1:=qh ht h.at_ hi
   have h1:=h.step hs1
   have e3:qe ts (n+1) p=qdv ts (qy ts (qe ts n)) (tk ts p).pos 1 (adv p):=(zb (.inl hi)).trans (by rw [e1,e2])
   rw [e1,e2]
   (repeat' ((conv=>whnf);first|refine Ob.auto ?_|(refine qq (fun _=>rfl) 600 (fun hg=>qfm h1.at_ _) (fun hg=>qc) (fun hg=>(by (repeat' (first|exact trivial|exact Le.refl _|exact Le.cnd hg|(refine And.intro ?_ ?_))) <;> fail)) (by rfl) (by kernel_rfl) ?_)|(apply zB <;> intro hb <;> (try simp [-zd] at hb) <;> try (exfalso;omega))))
   cases hr:sees ts (adv p) qdt with
   | true=>
    have e4:qdv ts (qy ts (qe ts n)) (tk ts p).pos 1 (adv p)=(.mk 8 [qai ts (adv (adv p)),qai ts (qf ts (adv (adv p)))] [1] (tk ts p).pos [],must ts (qf ts (qf ts (adv (adv p)))) qx):=zb hr
    rw [e3,e4]
    ((conv=>whnf);refine zT 600 [0,2] (jgm ht h1 hr 1 (tk ts p).pos) (⟨SoLe.refl _,⟨rfl,Le.refl _,Le.refl _,jr rfl,Le.refl _,Le.refl _,Le.refl _,trivial⟩,trivial⟩) ?_)
    (repeat' ((conv=>whnf);first|refine Ob.auto ?_|fail))
    (refine ⟨Le.agg ⟨Le.refl _,?_,?_,Le.refl _,Le.refl _,?_,trivial⟩,qa⟩ <;> first|exact Le.nils _ _|exact Le.refl _|exact jr rfl|exact qaa rfl|exact qan rfl|exact qal rfl rfl|exact qam rfl rfl|exact qao rfl rfl|exact qap rfl rfl rfl|exact qaq (fun _ _=>rfl))
   | false=>
    cases hw:sees ts (adv p) qfk with
    | true=>
     have e4:qdv ts (qy ts (qe ts n)) (tk ts p).pos 1 (adv p)=(.mk 9 [] [1] (tk ts p).pos [(eF ts (adv (adv p))).1],must ts (eF ts (adv (adv p))).2 qx):=(za (by rw [hr];decide)).trans (zb hw)
     rw [e3,e4]
     ((conv=>whnf);refine zT 600 [0,2] (jgn ht h1 hr hw 1 (tk ts p).pos) (⟨SoLe.refl _,⟨rfl,Le.refl _,Le.refl _,jr rfl,Le.refl _,Le.refl _,Le.refl _,trivial⟩,trivial⟩) ?_)
     (repeat' ((conv=>whnf);first|refine Ob.auto ?_|fail))
     (refine ⟨Le.agg ⟨Le.refl _,?_,?_,Le.refl _,Le.refl _,?_,trivial⟩,qa⟩ <;> first|exact Le.nils _ _|exact Le.refl _|exact jr rfl|exact qaa rfl|exact qan rfl|exact qal rfl rfl|exact qam rfl rfl|exact qao rfl rfl|exact qap rfl rfl rfl|exact qaq (fun _ _=>rfl))
    | false=>
     have hq:Pre ts n (must ts (adv p) jk):=h.less (qn ht h1.at_ jk)
     have e4:qdv ts (qy ts (qe ts n)) (tk ts p).pos 1 (adv p)=(.mk 10 [] [1] (tk ts p).pos (orL ts (qy ts (qe ts n)) ts.length [(qy ts (qe ts n) (must ts (adv p) jk)).1] (qy ts (qe ts n) (must ts (adv p) jk)).2).1,(orL ts (qy ts (qe ts n)) ts.length [(qy ts (qe ts n) (must ts (adv p) jk)).1] (qy ts (qe ts n) (must ts (adv p) jk)).2).2):=(za (by rw [hr];decide)).trans (za (by rw [hw];decide))
     rw [e3,e4]
     ((conv=>whnf);refine zT 600 [0,2] (jgo ht hB hbt h1 hq hr hw 1 (tk ts p).pos) (⟨SoLe.refl _,⟨rfl,Le.refl _,Le.refl _,jr rfl,Le.refl _,Le.refl _,Le.refl _,trivial⟩,trivial⟩) ?_)
     (repeat' ((conv=>whnf);first|refine Ob.auto ?_|fail))
     (refine ⟨Le.agg ⟨Le.refl _,?_,?_,Le.refl _,Le.refl _,?_,trivial⟩,qa⟩ <;> first|exact Le.nils _ _|exact Le.refl _|exact jr rfl|exact qaa rfl|exact qan rfl|exact qal rfl rfl|exact qam rfl rfl|exact qao rfl rfl|exact qap rfl rfl rfl|exact qaq (fun _ _=>rfl))
  | false=>
   have e1:took ts p qef=p:=za (by rw [hi];decide)
   have e2:qhg ts p qef=0:=za (by rw [hi];decide)
   rw [e1,e2]
   (repeat' ((conv=>whnf);first|refine Ob.auto ?_|(refine qq (fun _=>rfl) 600 (fun hg=>qfm h.at_ _) (fun hg=>qc) (fun hg=>(by (repeat' (first|exact trivial|exact Le.refl _|exact Le.cnd hg|(refine And.intro ?_ ?_))) <;> fail)) (by rfl) (by kernel_rfl) ?_)|(apply zB <;> intro hb <;> (try simp [-zd] at hb) <;> try (exfalso;omega))))
   ·have hcond:sees ts p qef=true∨sees ts p qdt=true∨sees ts p qfk=true∨sees ts p jk=true:=by
     rcases hb with (hb|hb)|hb
     ·exact .inr (.inl hb)
     ·exact .inr (.inr (.inl hb))
     ·exact .inr (.inr (.inr hb))
    have e3:qe ts (n+1) p=qdv ts (qy ts (qe ts n)) (tk ts p).pos 0 p:=(zb hcond).trans (by rw [e1,e2])
    cases hr:sees ts p qdt with
    | true=>
     have e4:qdv ts (qy ts (qe ts n)) (tk ts p).pos 0 p=(.mk 8 [qai ts (adv p),qai ts (qf ts (adv p))] [0] (tk ts p).pos [],must ts (qf ts (qf ts (adv p))) qx):=zb hr
     rw [e3,e4]
     ((conv=>whnf);refine zT 600 [0,2] (jgm ht h hr 0 (tk ts p).pos) (⟨SoLe.refl _,⟨rfl,Le.refl _,Le.refl _,jr rfl,Le.refl _,Le.refl _,Le.refl _,trivial⟩,trivial⟩) ?_)
     (repeat' ((conv=>whnf);first|refine Ob.auto ?_|fail))
     (refine ⟨Le.agg ⟨Le.refl _,?_,?_,Le.refl _,Le.refl _,?_,trivial⟩,qa⟩ <;> first|exact Le.nils _ _|exact Le.refl _|exact jr rfl|exact qaa rfl|exact qan rfl|exact qal rfl rfl|exact qam rfl rfl|exact qao rfl rfl|exact qap rfl rfl rfl|exact qaq (fun _ _=>rfl))
    | false=>
     cases hw:sees ts p qfk with
     | true=>
      have e4:qdv ts (qy ts (qe ts n)) (tk ts p).pos 0 p=(.mk 9 [] [0] (tk ts p).pos [(eF ts (adv p)).1],must ts (eF ts (adv p)).2 qx):=(za (by rw [hr];decide)).trans (zb hw)
      rw [e3,e4]
      ((conv=>whnf);refine zT 600 [0,2] (jgn ht h hr hw 0 (tk ts p).pos) (⟨SoLe.refl _,⟨rfl,Le.refl _,Le.refl _,jr rfl,Le.refl _,Le.refl _,Le.refl _,trivial⟩,trivial⟩) ?_)
      (repeat' ((conv=>whnf);first|refine Ob.auto ?_|fail))
      (refine ⟨Le.agg ⟨Le.refl _,?_,?_,Le.refl _,Le.refl _,?_,trivial⟩,qa⟩ <;> first|exact Le.nils _ _|exact Le.refl _|exact jr rfl|exact qaa rfl|exact qan rfl|exact qal rfl rfl|exact qam rfl rfl|exact qao rfl rfl|exact qap rfl rfl rfl|exact qaq (fun _ _=>rfl))
     | false=>
      have hch:sees ts p jk=true:=by rcases hcond with hc|hc|hc|hc <;> simp_all
      have hq:Pre ts n (must ts p jk):=by rw [show must ts p jk=adv p from zb hch];exact h.less (((qh ht h.at_ hch).ok h.at_).refl)
      have e4:qdv ts (qy ts (qe ts n)) (tk ts p).pos 0 p=(.mk 10 [] [0] (tk ts p).pos (orL ts (qy ts (qe ts n)) ts.length [(qy ts (qe ts n) (must ts p jk)).1] (qy ts (qe ts n) (must ts p jk)).2).1,(orL ts (qy ts (qe ts n)) ts.length [(qy ts (qe ts n) (must ts p jk)).1] (qy ts (qe ts n) (must ts p jk)).2).2):=(za (by rw [hr];decide)).trans (za (by rw [hw];decide))
      rw [e3,e4]
      ((conv=>whnf);refine zT 600 [0,2] (jgo ht hB hbt h hq hr hw 0 (tk ts p).pos) (⟨SoLe.refl _,⟨rfl,Le.refl _,Le.refl _,jr rfl,Le.refl _,Le.refl _,Le.refl _,trivial⟩,trivial⟩) ?_)
      (repeat' ((conv=>whnf);first|refine Ob.auto ?_|fail))
      (refine ⟨Le.agg ⟨Le.refl _,?_,?_,Le.refl _,Le.refl _,?_,trivial⟩,qa⟩ <;> first|exact Le.nils _ _|exact Le.refl _|exact jr rfl|exact qaa rfl|exact qan rfl|exact qal rfl rfl|exact qam rfl rfl|exact qao rfl rfl|exact qap rfl rfl rfl|exact qaq (fun _ _=>rfl))
   have hc0:¬ (sees ts p qef=true∨sees ts p qdt=true∨sees ts p qfk=true∨sees ts p jk=true):=by
    rw [hi,hb.1.1,hb.1.2,hb.2];decide
   ((conv=>whnf);refine zT 600 [0] (qba ht h.at_ qpu) qa ?_)
   cases hkSend:sees ts p qpu with
   | true=>
    have tkSend:took ts p qpu=adv p:=zb hkSend
    have hs1:=qh ht h.at_ hkSend
    have h1:Pre ts n (adv p):=h.less ((hs1.ok h.at_).refl)
    rw [tkSend]
    (repeat' ((conv=>whnf);first|(apply zB <;> intro hb <;> (try simp [-zd] at hb) <;> try (exfalso;omega))))
    have e5:qe ts (n+1) p=(.mk 7 [qai ts (adv p)] [] (tk ts p).pos [(eF ts (qf ts (adv p))).1],must ts (eF ts (qf ts (adv p))).2 qx):=((za hc0)).trans (zb hkSend)
    rw [e5]
    have h2:=h1.step (qav ht h1.at_)
    have h3:=h2.step (qbo ht _ h2.at_)
    (repeat' ((conv=>whnf);first|(refine qbc (fun _=>rfl) (by kernel_rfl) 600 ?_)|fail))
    ((conv=>whnf);refine CallY.trip [0] (qih ht h1.at_) (by kernel_rfl) leA qa (by exact qb rfl) (by exact qb rfl) ?_)
    (repeat' ((conv=>whnf);first|refine Ob.auto ?_|fail))
    ((conv=>whnf);refine AltG.far 9 [2] (by kernel_rfl) farA (EndG.go ?_))
    ((conv=>whnf);refine qbm (fun _=>rfl) (by kernel_rfl) 600 [.turn [0] [.ptr 0 0] [pso ts (qf ts (adv p))] (eF ts (qf ts (adv p))).1.av [(0,pso ts (eF ts (qf ts (adv p))).2)]] (by kernel_rfl) ?_)
    (repeat' ((conv=>whnf);first|refine Ob.auto ?_|refine Ob.intro ?_ ?_|fail))
    ·exact ⟨e_rd ht h2.full,by kernel_rfl,leA,qa,by exact qb rfl,by exact qb rfl⟩
    ((conv=>whnf);refine zT 600 [0] (qbh ht h3.at_ qx) qa ?_)
    (repeat' ((conv=>whnf);first|refine Ob.auto ?_|fail))
    (refine ⟨Le.agg ⟨Le.refl _,?_,?_,Le.refl _,Le.refl _,?_,trivial⟩,qa⟩ <;> first|exact Le.nils _ _|exact Le.refl _|exact jr rfl|exact qaa rfl|exact qan rfl|exact qal rfl rfl|exact qam rfl rfl|exact qao rfl rfl|exact qap rfl rfl rfl|exact qaq (fun _ _=>rfl))
   | false=>
    have tkSend:took ts p qpu=p:=za (by rw [hkSend];decide)
    rw [tkSend]
    (repeat' ((conv=>whnf);first|(apply zB <;> intro hb <;> (try simp [-zd] at hb) <;> try (exfalso;omega))))
    ((conv=>whnf);refine zT 600 [0] (qba ht h.at_ kIf) qa ?_)
    cases hkIf:sees ts p kIf with
    | true=>
     have tkIf:took ts p kIf=adv p:=zb hkIf
     have hs1:=qh ht h.at_ hkIf
     have h1:Pre ts n (adv p):=h.less ((hs1.ok h.at_).refl)
     rw [tkIf]
     (repeat' ((conv=>whnf);first|(apply zB <;> intro hb <;> (try simp [-zd] at hb) <;> try (exfalso;omega))))
     have h2:=h1.step (qbo ht _ h1.at_)
     have h3:=h2.step (hB _ h2.at_)
     ((conv=>whnf);refine qbm (fun _=>rfl) (by kernel_rfl) 600 [.turn [0] [.ptr 0 0] [pso ts (adv p)] (eF ts (adv p)).1.av [(0,pso ts (eF ts (adv p)).2)]] (by kernel_rfl) ?_)
     (repeat' ((conv=>whnf);first|refine Ob.auto ?_|refine Ob.intro ?_ ?_|fail))
     ·exact ⟨e_rd ht h1.full,by kernel_rfl,leA,qa,by exact qb rfl,by exact qb rfl⟩
     ((conv=>whnf);refine qbm (fun _=>rfl) (by kernel_rfl) 600 [.turn [0] [.ptr 0 0] [pso ts (eF ts (adv p)).2] (qy ts (qe ts n) (eF ts (adv p)).2).1.av [(0,pso ts (qy ts (qe ts n) (eF ts (adv p)).2).2)]] (by kernel_rfl) ?_)
     (repeat' ((conv=>whnf);first|refine Ob.auto ?_|refine Ob.intro ?_ ?_|fail))
     ·exact ⟨hbt _ h2,by kernel_rfl,leA,qa,by exact qb rfl,by exact qb rfl⟩
     ((conv=>whnf);refine zT 600 [0] (qba ht h3.at_ qpv) qa ?_)
     cases hel:sees ts (qy ts (qe ts n) (eF ts (adv p)).2).2 qpv with
     | true=>
      have tel:took ts (qy ts (qe ts n) (eF ts (adv p)).2).2 qpv=adv (qy ts (qe ts n) (eF ts (adv p)).2).2:=zb hel
      have h4:=h3.step (qh ht h3.at_ hel)
      have e5:qe ts (n+1) p=(.mk 11 [] [] (tk ts p).pos [(eF ts (adv p)).1,(qy ts (qe ts n) (eF ts (adv p)).2).1,(qy ts (qe ts n) (adv (qy ts (qe ts n) (eF ts (adv p)).2).2)).1],(qy ts (qe ts n) (adv (qy ts (qe ts n) (eF ts (adv p)).2).2)).2):=(((za hc0)).trans (za (by rw [hkSend];decide))).trans ((zb hkIf).trans (zb hel))
      rw [tel,e5]
      (repeat' ((conv=>whnf);first|(apply zB <;> intro hb <;> (try simp [-zd] at hb) <;> try (exfalso;omega))))
      ((conv=>whnf);refine qbm (fun _=>rfl) (by kernel_rfl) 600 [.turn [0] [.ptr 0 0] [pso ts (adv (qy ts (qe ts n) (eF ts (adv p)).2).2)] (qy ts (qe ts n) (adv (qy ts (qe ts n) (eF ts (adv p)).2).2)).1.av [(0,pso ts (qy ts (qe ts n) (adv (qy ts (qe ts n) (eF ts (adv p)).2).2)).2)]] (by kernel_rfl) ?_)
      (repeat' ((conv=>whnf);first|refine Ob.auto ?_|refine Ob.intro ?_ ?_|fail))
      ·exact ⟨hbt _ h4,by kernel_rfl,leA,qa,by exact qb rfl,by exact qb rfl⟩
      (refine ⟨Le.agg ⟨Le.refl _,?_,?_,Le.refl _,Le.refl _,?_,trivial⟩,qa⟩ <;> first|exact Le.nils _ _|exact Le.refl _|exact jr rfl|exact qaa rfl|exact qan rfl|exact qal rfl rfl|exact qam rfl rfl|exact qao rfl rfl|exact qap rfl rfl rfl|exact qaq (fun _ _=>rfl))
     | false=>
      have tel:took ts (qy ts (qe ts n) (eF ts (adv p)).2).2 qpv=(qy ts (qe ts n) (eF ts (adv p)).2).2:=za (by rw [hel];decide)
      have e5:qe ts (n+1) p=(.mk 11 [] [] (tk ts p).pos [(eF ts (adv p)).1,(qy ts (qe ts n) (eF ts (adv p)).2).1],(qy ts (qe ts n) (eF ts (adv p)).2).2):=(((za hc0)).trans (za (by rw [hkSend];decide))).trans ((zb hkIf).trans (za (by rw [hel];decide)))
      rw [tel,e5]
      (repeat' ((conv=>whnf);first|refine Ob.auto ?_|(apply zB <;> intro hb <;> (try simp [-zd] at hb) <;> try (exfalso;omega))))
      (refine ⟨Le.agg ⟨Le.refl _,?_,?_,Le.refl _,Le.refl _,?_,trivial⟩,qa⟩ <;> first|exact Le.nils _ _|exact Le.refl _|exact jr rfl|exact qaa rfl|exact qan rfl|exact qal rfl rfl|exact qam rfl rfl|exact qao rfl rfl|exact qap rfl rfl rfl|exact qaq (fun _ _=>rfl))
    | false=>
     have tkIf:took ts p kIf=p:=za (by rw [hkIf];decide)
     rw [tkIf]
     (repeat' ((conv=>whnf);first|(apply zB <;> intro hb <;> (try simp [-zd] at hb) <;> try (exfalso;omega))))
     ((conv=>whnf);refine zT 600 [0] (qba ht h.at_ qpw) qa ?_)
     cases hkWhile:sees ts p qpw with
     | true=>
      have tkWhile:took ts p qpw=adv p:=zb hkWhile
      have hs1:=qh ht h.at_ hkWhile
      have h1:Pre ts n (adv p):=h.less ((hs1.ok h.at_).refl)
      rw [tkWhile]
      (repeat' ((conv=>whnf);first|(apply zB <;> intro hb <;> (try simp [-zd] at hb) <;> try (exfalso;omega))))
      have e5:qe ts (n+1) p=(.mk 12 [] [] (tk ts p).pos [(eF ts (adv p)).1,(qy ts (qe ts n) (eF ts (adv p)).2).1],(qy ts (qe ts n) (eF ts (adv p)).2).2):=((((za hc0)).trans (za (by rw [hkSend];decide))).trans (za (by rw [hkIf];decide))).trans (zb hkWhile)
      rw [e5]
      have h2:=h1.step (qbo ht _ h1.at_)
      ((conv=>whnf);refine qbm (fun _=>rfl) (by kernel_rfl) 600 [.turn [0] [.ptr 0 0] [pso ts (adv p)] (eF ts (adv p)).1.av [(0,pso ts (eF ts (adv p)).2)]] (by kernel_rfl) ?_)
      (repeat' ((conv=>whnf);first|refine Ob.auto ?_|refine Ob.intro ?_ ?_|fail))
      ·exact ⟨e_rd ht h1.full,by kernel_rfl,leA,qa,by exact qb rfl,by exact qb rfl⟩
      ((conv=>whnf);refine qbm (fun _=>rfl) (by kernel_rfl) 600 [.turn [0] [.ptr 0 0] [pso ts (eF ts (adv p)).2] (qy ts (qe ts n) (eF ts (adv p)).2).1.av [(0,pso ts (qy ts (qe ts n) (eF ts (adv p)).2).2)]] (by kernel_rfl) ?_)
      (repeat' ((conv=>whnf);first|refine Ob.auto ?_|refine Ob.intro ?_ ?_|fail))
      ·exact ⟨hbt _ h2,by kernel_rfl,leA,qa,by exact qb rfl,by exact qb rfl⟩
      (refine ⟨Le.agg ⟨Le.refl _,?_,?_,Le.refl _,Le.refl _,?_,trivial⟩,qa⟩ <;> first|exact Le.nils _ _|exact Le.refl _|exact jr rfl|exact qaa rfl|exact qan rfl|exact qal rfl rfl|exact qam rfl rfl|exact qao rfl rfl|exact qap rfl rfl rfl|exact qaq (fun _ _=>rfl))
     | false=>
      have tkWhile:took ts p qpw=p:=za (by rw [hkWhile];decide)
      rw [tkWhile]
      (repeat' ((conv=>whnf);first|(apply zB <;> intro hb <;> (try simp [-zd] at hb) <;> try (exfalso;omega))))
      ((conv=>whnf);refine zT 600 [0] (qba ht h.at_ qpx) qa ?_)
      cases hkAtomic:sees ts p qpx with
      | true=>
       have tkAtomic:took ts p qpx=adv p:=zb hkAtomic
       have hs1:=qh ht h.at_ hkAtomic
       have h1:Pre ts n (adv p):=h.less ((hs1.ok h.at_).refl)
       rw [tkAtomic]
       (repeat' ((conv=>whnf);first|(apply zB <;> intro hb <;> (try simp [-zd] at hb) <;> try (exfalso;omega))))
       have e5:qe ts (n+1) p=(.mk 13 [] [] (tk ts p).pos [(qy ts (qe ts n) (adv p)).1],(qy ts (qe ts n) (adv p)).2):=(((((za hc0)).trans (za (by rw [hkSend];decide))).trans (za (by rw [hkIf];decide))).trans (za (by rw [hkWhile];decide))).trans (zb hkAtomic)
       rw [e5]
       ((conv=>whnf);refine qbm (fun _=>rfl) (by kernel_rfl) 600 [.turn [0] [.ptr 0 0] [pso ts (adv p)] (qy ts (qe ts n) (adv p)).1.av [(0,pso ts (qy ts (qe ts n) (adv p)).2)]] (by kernel_rfl) ?_)
       (repeat' ((conv=>whnf);first|refine Ob.auto ?_|refine Ob.intro ?_ ?_|fail))
       ·exact ⟨hbt _ h1,by kernel_rfl,leA,qa,by exact qb rfl,by exact qb rfl⟩
       (refine ⟨Le.agg ⟨Le.refl _,?_,?_,Le.refl _,Le.refl _,?_,trivial⟩,qa⟩ <;> first|exact Le.nils _ _|exact Le.refl _|exact jr rfl|exact qaa rfl|exact qan rfl|exact qal rfl rfl|exact qam rfl rfl|exact qao rfl rfl|exact qap rfl rfl rfl|exact qaq (fun _ _=>rfl))
      | false=>
       have tkAtomic:took ts p qpx=p:=za (by rw [hkAtomic];decide)
       rw [tkAtomic]
       (repeat' ((conv=>whnf);first|(apply zB <;> intro hb <;> (try simp [-zd] at hb) <;> try (exfalso;omega))))
       ((conv=>whnf);refine zT 600 [0] (qba ht h.at_ qpy) qa ?_)
       cases hkSkip:sees ts p qpy with
       | true=>
        have tkSkip:took ts p qpy=adv p:=zb hkSkip
        have hs1:=qh ht h.at_ hkSkip
        have h1:Pre ts n (adv p):=h.less ((hs1.ok h.at_).refl)
        rw [tkSkip]
        (repeat' ((conv=>whnf);first|(apply zB <;> intro hb <;> (try simp [-zd] at hb) <;> try (exfalso;omega))))
        have e5:qe ts (n+1) p=(.mk 14 [] [] (tk ts p).pos [],must ts (adv p) qx):=((((((za hc0)).trans (za (by rw [hkSend];decide))).trans (za (by rw [hkIf];decide))).trans (za (by rw [hkWhile];decide))).trans (za (by rw [hkAtomic];decide))).trans (zb hkSkip)
        rw [e5]
        ((conv=>whnf);refine zT 600 [0] (qbh ht h1.at_ qx) qa ?_)
        (repeat' ((conv=>whnf);first|refine Ob.auto ?_|fail))
        (refine ⟨Le.agg ⟨Le.refl _,?_,?_,Le.refl _,Le.refl _,?_,trivial⟩,qa⟩ <;> first|exact Le.nils _ _|exact Le.refl _|exact jr rfl|exact qaa rfl|exact qan rfl|exact qal rfl rfl|exact qam rfl rfl|exact qao rfl rfl|exact qap rfl rfl rfl|exact qaq (fun _ _=>rfl))
       | false=>
        have tkSkip:took ts p qpy=p:=za (by rw [hkSkip];decide)
        rw [tkSkip]
        (repeat' ((conv=>whnf);first|(apply zB <;> intro hb <;> (try simp [-zd] at hb) <;> try (exfalso;omega))))
        ((conv=>whnf);refine zT 600 [0] (qba ht h.at_ qpz) qa ?_)
        cases hkStop:sees ts p qpz with
        | true=>
         have tkStop:took ts p qpz=adv p:=zb hkStop
         have hs1:=qh ht h.at_ hkStop
         have h1:Pre ts n (adv p):=h.less ((hs1.ok h.at_).refl)
         rw [tkStop]
         (repeat' ((conv=>whnf);first|(apply zB <;> intro hb <;> (try simp [-zd] at hb) <;> try (exfalso;omega))))
         have e5:qe ts (n+1) p=(.mk 15 [] [] (tk ts p).pos [],must ts (adv p) qx):=(((((((za hc0)).trans (za (by rw [hkSend];decide))).trans (za (by rw [hkIf];decide))).trans (za (by rw [hkWhile];decide))).trans (za (by rw [hkAtomic];decide))).trans (za (by rw [hkSkip];decide))).trans (zb hkStop)
         rw [e5]
         ((conv=>whnf);refine zT 600 [0] (qbh ht h1.at_ qx) qa ?_)
         (repeat' ((conv=>whnf);first|refine Ob.auto ?_|fail))
         (refine ⟨Le.agg ⟨Le.refl _,?_,?_,Le.refl _,Le.refl _,?_,trivial⟩,qa⟩ <;> first|exact Le.nils _ _|exact Le.refl _|exact jr rfl|exact qaa rfl|exact qan rfl|exact qal rfl rfl|exact qam rfl rfl|exact qao rfl rfl|exact qap rfl rfl rfl|exact qaq (fun _ _=>rfl))
        | false=>
         have tkStop:took ts p qpz=p:=za (by rw [hkStop];decide)
         rw [tkStop]
         (repeat' ((conv=>whnf);first|(apply zB <;> intro hb <;> (try simp [-zd] at hb) <;> try (exfalso;omega))))
         have e5:qe ts (n+1) p=(.mk 6 [qai ts p] [] (tk ts p).pos [(eF ts (must ts (qf ts p) sEq)).1],must ts (eF ts (must ts (qf ts p) sEq)).2 qx):=(((((((za hc0)).trans (za (by rw [hkSend];decide))).trans (za (by rw [hkIf];decide))).trans (za (by rw [hkWhile];decide))).trans (za (by rw [hkAtomic];decide))).trans (za (by rw [hkSkip];decide))).trans (za (by rw [hkStop];decide))
         have h1:=h.step (qav ht h.at_)
         have h2:=h1.step (qn ht h1.at_ sEq)
         have h3:=h2.step (qbo ht _ h2.at_)
         rw [e5]
         (repeat' ((conv=>whnf);first|(refine qbc (fun _=>rfl) (by kernel_rfl) 600 ?_)|fail))
         ((conv=>whnf);refine CallY.trip [0] (qih ht h.at_) (by kernel_rfl) leA qa (by exact qb rfl) (by exact qb rfl) ?_)
         (repeat' ((conv=>whnf);first|refine Ob.auto ?_|fail))
         ((conv=>whnf);refine AltG.far 9 [2] (by kernel_rfl) farA (EndG.go ?_))
         ((conv=>whnf);refine zT 600 [0] (qbh ht h1.at_ sEq) qa ?_)
         ((conv=>whnf);refine qbm (fun _=>rfl) (by kernel_rfl) 600 [.turn [0] [.ptr 0 0] [pso ts (must ts (qf ts p) sEq)] (eF ts (must ts (qf ts p) sEq)).1.av [(0,pso ts (eF ts (must ts (qf ts p) sEq)).2)]] (by kernel_rfl) ?_)
         (repeat' ((conv=>whnf);first|refine Ob.auto ?_|refine Ob.intro ?_ ?_|fail))
         ·exact ⟨e_rd ht h2.full,by kernel_rfl,leA,qa,by exact qb rfl,by exact qb rfl⟩
         ((conv=>whnf);refine zT 600 [0] (qbh ht h3.at_ qx) qa ?_)
         (repeat' ((conv=>whnf);first|refine Ob.auto ?_|fail))
         (refine ⟨Le.agg ⟨Le.refl _,?_,?_,Le.refl _,Le.refl _,?_,trivial⟩,qa⟩ <;> first|exact Le.nils _ _|exact Le.refl _|exact jr rfl|exact qaa rfl|exact qan rfl|exact qal rfl rfl|exact qam rfl rfl|exact qao rfl rfl|exact qap rfl rfl rfl|exact qaq (fun _ _=>rfl))
theorem s_rd (ht:ToksOk ts) (h:Pre ts n p):RdT ts 135 (sF ts) p:=juh ht _ p h.full
end
end Go.Proofs.YtikahnkkfkoglaaGreatDoor
