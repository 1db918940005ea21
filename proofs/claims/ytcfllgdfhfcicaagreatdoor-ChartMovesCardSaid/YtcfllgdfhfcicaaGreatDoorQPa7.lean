/- Contracts of the document's parser: statements. -/
import Derived.Test.YtcfllgdfhfcicaaGreatDoorQ10
import Derived.Test.YtcfllgdfhfcicaaGreatDoorQ2
namespace Go.Proofs.YtcfllgdfhfcicaaGreatDoor
open List renaming getD_eq_getElem?_getD → zd
open Go Go.Sx Go.RowKit Go.St Pa
set_option maxRecDepth 100000
set_option maxHeartbeats 8000000
section
variable {ts:List Lx.Tok} {p q:Ps} {n:Nat}
theorem Pre.less (h:Pre ts (n+1) p) (k:Step ts (adv p) q):Pre ts n q:=
 ⟨⟨by have:=h.at_.lo;have:p.at_+1≤q.at_:=k.le;omega,k.hi⟩,by have:=h.deep;have:p.at_+1≤q.at_:=k.le;have:q.deep=p.deep:=k.deep;omega,by have:=h.left;have:p.at_+1≤q.at_:=k.le;omega⟩
theorem jot (ht:ToksOk ts):∀ n q,Pre ts n q→RdT ts 164 (qc ts n) q:=by
 intro n
 induction n with
 | zero=>intro p h;have:=h.left;have:=h.at_.hi;omega
 | succ n ih=>
  intro p h
  have h2:=ht.len
  have hB:=qqy ht (qkd ht n)
  have hbt:∀ q,Pre ts n q→RdT ts 176 (qr ts (qc ts n)) q:=by
   cases n with
   | zero=>intro q hq;have:=hq.left;have:=hq.at_.hi;omega
   | succ m=>exact fun q hq=>jos ht (qkd ht _) (jbe ht m) ih hq
  refine zM {} 600 Tryz.func164 (fun c0 rdb mpb=>?_)
  (repeat' ((conv=>whnf);first|refine zE 600 (qkg h.at_ _) ?_|fail))
  ((conv=>whnf);refine zT 600 [0] (qux ht h.at_ qea) qa ?_)
  cases hi:sees ts p qea with
  | true=>
   have e1:took ts p qea=adv p:=if_pos hi
   have e2:qgq ts p qea=1:=if_pos hi
   have hs1:=qg ht h.at_ hi
   have h1:=h.step hs1
   have e3:qc ts (n+1) p=qdq ts (qr ts (qc ts n)) (tk ts p).pos 1 (adv p):=(if_pos (.inl hi)).trans (by rw [e1,e2])
   rw [e1,e2]
   (repeat' ((conv=>whnf);first|refine Ob.auto ?_|refine zF 600 (fun hg=>qfa h1.at_ _) ?_|(apply zB <;> intro hb <;> (try simp [-zd] at hb) <;> try (exfalso;omega))))
   cases hr:sees ts (adv p) qdo with
   | true=>
    have e4:qdq ts (qr ts (qc ts n)) (tk ts p).pos 1 (adv p)=(.mk 8 [jz ts (adv (adv p)),jz ts (qe ts (adv (adv p)))] [1] (tk ts p).pos [],must ts (qe ts (qe ts (adv (adv p)))) qq):=if_pos hr
    rw [e3,e4]
    ((conv=>whnf);refine zT 600 [0,2] (jbm ht h1 hr 1 (tk ts p).pos) (⟨SoLe.refl _,⟨rfl,Le.refl _,Le.refl _,jm rfl,Le.refl _,Le.refl _,Le.refl _,trivial⟩,trivial⟩) ?_)
    (repeat' ((conv=>whnf);first|refine Ob.auto ?_|fail))
    (refine ⟨Le.agg ⟨Le.refl _,?_,?_,Le.refl _,Le.refl _,?_,trivial⟩,qa⟩ <;> first|exact Le.nils _ _|exact Le.refl _|exact jm rfl|exact js rfl|exact qae rfl|exact qac rfl rfl|exact qad rfl rfl|exact qaf rfl rfl|exact qag rfl rfl rfl|exact qah (fun _ _=>rfl))
   | false=>
    cases hw:sees ts (adv p) qey with
    | true=>
     have e4:qdq ts (qr ts (qc ts n)) (tk ts p).pos 1 (adv p)=(.mk 9 [] [1] (tk ts p).pos [(eF ts (adv (adv p))).1],must ts (eF ts (adv (adv p))).2 qq):=(if_neg (by rw [hr];decide)).trans (if_pos hw)
     rw [e3,e4]
     ((conv=>whnf);refine zT 600 [0,2] (jbn ht h1 hr hw 1 (tk ts p).pos) (⟨SoLe.refl _,⟨rfl,Le.refl _,Le.refl _,jm rfl,Le.refl _,Le.refl _,Le.refl _,trivial⟩,trivial⟩) ?_)
     (repeat' ((conv=>whnf);first|refine Ob.auto ?_|fail))
     (refine ⟨Le.agg ⟨Le.refl _,?_,?_,Le.refl _,Le.refl _,?_,trivial⟩,qa⟩ <;> first|exact Le.nils _ _|exact Le.refl _|exact jm rfl|exact js rfl|exact qae rfl|exact qac rfl rfl|exact qad rfl rfl|exact qaf rfl rfl|exact qag rfl rfl rfl|exact qah (fun _ _=>rfl))
    | false=>
     have hq:Pre ts n (must ts (adv p) jd):=h.less (qk ht h1.at_ jd)
     have e4:qdq ts (qr ts (qc ts n)) (tk ts p).pos 1 (adv p)=(.mk 10 [] [1] (tk ts p).pos (orL ts (qr ts (qc ts n)) ts.length [(qr ts (qc ts n) (must ts (adv p) jd)).1] (qr ts (qc ts n) (must ts (adv p) jd)).2).1,(orL ts (qr ts (qc ts n)) ts.length [(qr ts (qc ts n) (must ts (adv p) jd)).1] (qr ts (qc ts n) (must ts (adv p) jd)).2).2):=(if_neg (by rw [hr];decide)).trans (if_neg (by rw [hw];decide))
     rw [e3,e4]
     ((conv=>whnf);refine zT 600 [0,2] (jbo ht hB hbt h1 hq hr hw 1 (tk ts p).pos) (⟨SoLe.refl _,⟨rfl,Le.refl _,Le.refl _,jm rfl,Le.refl _,Le.refl _,Le.refl _,trivial⟩,trivial⟩) ?_)
     (repeat' ((conv=>whnf);first|refine Ob.auto ?_|fail))
     (refine ⟨Le.agg ⟨Le.refl _,?_,?_,Le.refl _,Le.refl _,?_,trivial⟩,qa⟩ <;> first|exact Le.nils _ _|exact Le.refl _|exact jm rfl|exact js rfl|exact qae rfl|exact qac rfl rfl|exact qad rfl rfl|exact qaf rfl rfl|exact qag rfl rfl rfl|exact qah (fun _ _=>rfl))
  | false=>
   have e1:took ts p qea=p:=if_neg (by rw [hi];decide)
   have e2:qgq ts p qea=0:=if_neg (by rw [hi];decide)
   rw [e1,e2]
   (repeat' ((conv=>whnf);first|refine Ob.auto ?_|refine zF 600 (fun hg=>qfa h.at_ _) ?_|(apply zB <;> intro hb <;> (try simp [-zd] at hb) <;> try (exfalso;omega))))
   ·have hcond:sees ts p qea=true∨sees ts p qdo=true∨sees ts p qey=true∨sees ts p jd=true:=by
     rcases hb with (hb|hb)|hb
     ·exact .inr (.inl hb)
     ·exact .inr (.inr (.inl hb))
     ·exact .inr (.inr (.inr hb))
    have e3:qc ts (n+1) p=qdq ts (qr ts (qc ts n)) (tk ts p).pos 0 p:=(if_pos hcond).trans (by rw [e1,e2])
    cases hr:sees ts p qdo with
    | true=>
     have e4:qdq ts (qr ts (qc ts n)) (tk ts p).pos 0 p=(.mk 8 [jz ts (adv p),jz ts (qe ts (adv p))] [0] (tk ts p).pos [],must ts (qe ts (qe ts (adv p))) qq):=if_pos hr
     rw [e3,e4]
     ((conv=>whnf);refine zT 600 [0,2] (jbm ht h hr 0 (tk ts p).pos) (⟨SoLe.refl _,⟨rfl,Le.refl _,Le.refl _,jm rfl,Le.refl _,Le.refl _,Le.refl _,trivial⟩,trivial⟩) ?_)
     (repeat' ((conv=>whnf);first|refine Ob.auto ?_|fail))
     (refine ⟨Le.agg ⟨Le.refl _,?_,?_,Le.refl _,Le.refl _,?_,trivial⟩,qa⟩ <;> first|exact Le.nils _ _|exact Le.refl _|exact jm rfl|exact js rfl|exact qae rfl|exact qac rfl rfl|exact qad rfl rfl|exact qaf rfl rfl|exact qag rfl rfl rfl|exact qah (fun _ _=>rfl))
    | false=>
     cases hw:sees ts p qey with
     | true=>
      have e4:qdq ts (qr ts (qc ts n)) (tk ts p).pos 0 p=(.mk 9 [] [0] (tk ts p).pos [(eF ts (adv p)).1],must ts (eF ts (adv p)).2 qq):=(if_neg (by rw [hr];decide)).trans (if_pos hw)
      rw [e3,e4]
      ((conv=>whnf);refine zT 600 [0,2] (jbn ht h hr hw 0 (tk ts p).pos) (⟨SoLe.refl _,⟨rfl,Le.refl _,Le.refl _,jm rfl,Le.refl _,Le.refl _,Le.refl _,trivial⟩,trivial⟩) ?_)
      (repeat' ((conv=>whnf);first|refine Ob.auto ?_|fail))
      (refine ⟨Le.agg ⟨Le.refl _,?_,?_,Le.refl _,Le.refl _,?_,trivial⟩,qa⟩ <;> first|exact Le.nils _ _|exact Le.refl _|exact jm rfl|exact js rfl|exact qae rfl|exact qac rfl rfl|exact qad rfl rfl|exact qaf rfl rfl|exact qag rfl rfl rfl|exact qah (fun _ _=>rfl))
     | false=>
      have hch:sees ts p jd=true:=by rcases hcond with hc|hc|hc|hc <;> simp_all
      have hq:Pre ts n (must ts p jd):=by rw [show must ts p jd=adv p from if_pos hch];exact h.less (((qg ht h.at_ hch).ok h.at_).refl)
      have e4:qdq ts (qr ts (qc ts n)) (tk ts p).pos 0 p=(.mk 10 [] [0] (tk ts p).pos (orL ts (qr ts (qc ts n)) ts.length [(qr ts (qc ts n) (must ts p jd)).1] (qr ts (qc ts n) (must ts p jd)).2).1,(orL ts (qr ts (qc ts n)) ts.length [(qr ts (qc ts n) (must ts p jd)).1] (qr ts (qc ts n) (must ts p jd)).2).2):=(if_neg (by rw [hr];decide)).trans (if_neg (by rw [hw];decide))
      rw [e3,e4]
      ((conv=>whnf);refine zT 600 [0,2] (jbo ht hB hbt h hq hr hw 0 (tk ts p).pos) (⟨SoLe.refl _,⟨rfl,Le.refl _,Le.refl _,jm rfl,Le.refl _,Le.refl _,Le.refl _,trivial⟩,trivial⟩) ?_)
      (repeat' ((conv=>whnf);first|refine Ob.auto ?_|fail))
      (refine ⟨Le.agg ⟨Le.refl _,?_,?_,Le.refl _,Le.refl _,?_,trivial⟩,qa⟩ <;> first|exact Le.nils _ _|exact Le.refl _|exact jm rfl|exact js rfl|exact qae rfl|exact qac rfl rfl|exact qad rfl rfl|exact qaf rfl rfl|exact qag rfl rfl rfl|exact qah (fun _ _=>rfl))
   have hc0:¬ (sees ts p qea=true∨sees ts p qdo=true∨sees ts p qey=true∨sees ts p jd=true):=by
    rw [hi,hb.1.1,hb.1.2,hb.2];decide
   ((conv=>whnf);refine zT 600 [0] (qas ht h.at_ qno) qa ?_)
   cases hkSend:sees ts p qno with
   | true=>
    have tkSend:took ts p qno=adv p:=if_pos hkSend
    have hs1:=qg ht h.at_ hkSend
    have h1:Pre ts n (adv p):=h.less ((hs1.ok h.at_).refl)
    rw [tkSend]
    (repeat' ((conv=>whnf);first|(apply zB <;> intro hb <;> (try simp [-zd] at hb) <;> try (exfalso;omega))))
    have e5:qc ts (n+1) p=(.mk 7 [jz ts (adv p)] [] (tk ts p).pos [(eF ts (qe ts (adv p))).1],must ts (eF ts (qe ts (adv p))).2 qq):=((if_neg hc0)).trans (if_pos hkSend)
    rw [e5]
    have h2:=h1.step (qao ht h1.at_)
    have h3:=h2.step (qbe ht _ h2.at_)
    (repeat' ((conv=>whnf);first|(refine qbb (fun _=>rfl) (by kernel_rfl) 600 ?_)|fail))
    ((conv=>whnf);refine CallY.trip [0] (qhr ht h1.at_) (by kernel_rfl) leA qa (by exact qb rfl) (by exact qb rfl) ?_)
    (repeat' ((conv=>whnf);first|refine Ob.auto ?_|fail))
    ((conv=>whnf);refine AltG.far 9 [2] (by kernel_rfl) farA (EndG.go ?_))
    ((conv=>whnf);refine qbd (fun _=>rfl) (by kernel_rfl) 600 [.turn [0] [.ptr 0 0] [pso ts (qe ts (adv p))] (eF ts (qe ts (adv p))).1.av [(0,pso ts (eF ts (qe ts (adv p))).2)]] (by kernel_rfl) ?_)
    (repeat' ((conv=>whnf);first|refine Ob.auto ?_|refine Ob.intro ?_ ?_|fail))
    ·exact ⟨e_rd ht h2.full,by kernel_rfl,leA,qa,by exact qb rfl,by exact qb rfl⟩
    ((conv=>whnf);refine zT 600 [0] (qav ht h3.at_ qq) qa ?_)
    (repeat' ((conv=>whnf);first|refine Ob.auto ?_|fail))
    (refine ⟨Le.agg ⟨Le.refl _,?_,?_,Le.refl _,Le.refl _,?_,trivial⟩,qa⟩ <;> first|exact Le.nils _ _|exact Le.refl _|exact jm rfl|exact js rfl|exact qae rfl|exact qac rfl rfl|exact qad rfl rfl|exact qaf rfl rfl|exact qag rfl rfl rfl|exact qah (fun _ _=>rfl))
   | false=>
    have tkSend:took ts p qno=p:=if_neg (by rw [hkSend];decide)
    rw [tkSend]
    (repeat' ((conv=>whnf);first|(apply zB <;> intro hb <;> (try simp [-zd] at hb) <;> try (exfalso;omega))))
    ((conv=>whnf);refine zT 600 [0] (qas ht h.at_ kIf) qa ?_)
    cases hkIf:sees ts p kIf with
    | true=>
     have tkIf:took ts p kIf=adv p:=if_pos hkIf
     have hs1:=qg ht h.at_ hkIf
     have h1:Pre ts n (adv p):=h.less ((hs1.ok h.at_).refl)
     rw [tkIf]
     (repeat' ((conv=>whnf);first|(apply zB <;> intro hb <;> (try simp [-zd] at hb) <;> try (exfalso;omega))))
     have h2:=h1.step (qbe ht _ h1.at_)
     have h3:=h2.step (hB _ h2.at_)
     ((conv=>whnf);refine qbd (fun _=>rfl) (by kernel_rfl) 600 [.turn [0] [.ptr 0 0] [pso ts (adv p)] (eF ts (adv p)).1.av [(0,pso ts (eF ts (adv p)).2)]] (by kernel_rfl) ?_)
     (repeat' ((conv=>whnf);first|refine Ob.auto ?_|refine Ob.intro ?_ ?_|fail))
     ·exact ⟨e_rd ht h1.full,by kernel_rfl,leA,qa,by exact qb rfl,by exact qb rfl⟩
     ((conv=>whnf);refine qbd (fun _=>rfl) (by kernel_rfl) 600 [.turn [0] [.ptr 0 0] [pso ts (eF ts (adv p)).2] (qr ts (qc ts n) (eF ts (adv p)).2).1.av [(0,pso ts (qr ts (qc ts n) (eF ts (adv p)).2).2)]] (by kernel_rfl) ?_)
     (repeat' ((conv=>whnf);first|refine Ob.auto ?_|refine Ob.intro ?_ ?_|fail))
     ·exact ⟨hbt _ h2,by kernel_rfl,leA,qa,by exact qb rfl,by exact qb rfl⟩
     ((conv=>whnf);refine zT 600 [0] (qas ht h3.at_ qnp) qa ?_)
     cases hel:sees ts (qr ts (qc ts n) (eF ts (adv p)).2).2 qnp with
     | true=>
      have tel:took ts (qr ts (qc ts n) (eF ts (adv p)).2).2 qnp=adv (qr ts (qc ts n) (eF ts (adv p)).2).2:=if_pos hel
      have h4:=h3.step (qg ht h3.at_ hel)
      have e5:qc ts (n+1) p=(.mk 11 [] [] (tk ts p).pos [(eF ts (adv p)).1,(qr ts (qc ts n) (eF ts (adv p)).2).1,(qr ts (qc ts n) (adv (qr ts (qc ts n) (eF ts (adv p)).2).2)).1],(qr ts (qc ts n) (adv (qr ts (qc ts n) (eF ts (adv p)).2).2)).2):=(((if_neg hc0)).trans (if_neg (by rw [hkSend];decide))).trans ((if_pos hkIf).trans (if_pos hel))
      rw [tel,e5]
      (repeat' ((conv=>whnf);first|(apply zB <;> intro hb <;> (try simp [-zd] at hb) <;> try (exfalso;omega))))
      ((conv=>whnf);refine qbd (fun _=>rfl) (by kernel_rfl) 600 [.turn [0] [.ptr 0 0] [pso ts (adv (qr ts (qc ts n) (eF ts (adv p)).2).2)] (qr ts (qc ts n) (adv (qr ts (qc ts n) (eF ts (adv p)).2).2)).1.av [(0,pso ts (qr ts (qc ts n) (adv (qr ts (qc ts n) (eF ts (adv p)).2).2)).2)]] (by kernel_rfl) ?_)
      (repeat' ((conv=>whnf);first|refine Ob.auto ?_|refine Ob.intro ?_ ?_|fail))
      ·exact ⟨hbt _ h4,by kernel_rfl,leA,qa,by exact qb rfl,by exact qb rfl⟩
      (refine ⟨Le.agg ⟨Le.refl _,?_,?_,Le.refl _,Le.refl _,?_,trivial⟩,qa⟩ <;> first|exact Le.nils _ _|exact Le.refl _|exact jm rfl|exact js rfl|exact qae rfl|exact qac rfl rfl|exact qad rfl rfl|exact qaf rfl rfl|exact qag rfl rfl rfl|exact qah (fun _ _=>rfl))
     | false=>
      have tel:took ts (qr ts (qc ts n) (eF ts (adv p)).2).2 qnp=(qr ts (qc ts n) (eF ts (adv p)).2).2:=if_neg (by rw [hel];decide)
      have e5:qc ts (n+1) p=(.mk 11 [] [] (tk ts p).pos [(eF ts (adv p)).1,(qr ts (qc ts n) (eF ts (adv p)).2).1],(qr ts (qc ts n) (eF ts (adv p)).2).2):=(((if_neg hc0)).trans (if_neg (by rw [hkSend];decide))).trans ((if_pos hkIf).trans (if_neg (by rw [hel];decide)))
      rw [tel,e5]
      (repeat' ((conv=>whnf);first|refine Ob.auto ?_|(apply zB <;> intro hb <;> (try simp [-zd] at hb) <;> try (exfalso;omega))))
      (refine ⟨Le.agg ⟨Le.refl _,?_,?_,Le.refl _,Le.refl _,?_,trivial⟩,qa⟩ <;> first|exact Le.nils _ _|exact Le.refl _|exact jm rfl|exact js rfl|exact qae rfl|exact qac rfl rfl|exact qad rfl rfl|exact qaf rfl rfl|exact qag rfl rfl rfl|exact qah (fun _ _=>rfl))
    | false=>
     have tkIf:took ts p kIf=p:=if_neg (by rw [hkIf];decide)
     rw [tkIf]
     (repeat' ((conv=>whnf);first|(apply zB <;> intro hb <;> (try simp [-zd] at hb) <;> try (exfalso;omega))))
     ((conv=>whnf);refine zT 600 [0] (qas ht h.at_ qnq) qa ?_)
     cases hkWhile:sees ts p qnq with
     | true=>
      have tkWhile:took ts p qnq=adv p:=if_pos hkWhile
      have hs1:=qg ht h.at_ hkWhile
      have h1:Pre ts n (adv p):=h.less ((hs1.ok h.at_).refl)
      rw [tkWhile]
      (repeat' ((conv=>whnf);first|(apply zB <;> intro hb <;> (try simp [-zd] at hb) <;> try (exfalso;omega))))
      have e5:qc ts (n+1) p=(.mk 12 [] [] (tk ts p).pos [(eF ts (adv p)).1,(qr ts (qc ts n) (eF ts (adv p)).2).1],(qr ts (qc ts n) (eF ts (adv p)).2).2):=((((if_neg hc0)).trans (if_neg (by rw [hkSend];decide))).trans (if_neg (by rw [hkIf];decide))).trans (if_pos hkWhile)
      rw [e5]
      have h2:=h1.step (qbe ht _ h1.at_)
      ((conv=>whnf);refine qbd (fun _=>rfl) (by kernel_rfl) 600 [.turn [0] [.ptr 0 0] [pso ts (adv p)] (eF ts (adv p)).1.av [(0,pso ts (eF ts (adv p)).2)]] (by kernel_rfl) ?_)
      (repeat' ((conv=>whnf);first|refine Ob.auto ?_|refine Ob.intro ?_ ?_|fail))
      ·exact ⟨e_rd ht h1.full,by kernel_rfl,leA,qa,by exact qb rfl,by exact qb rfl⟩
      ((conv=>whnf);refine qbd (fun _=>rfl) (by kernel_rfl) 600 [.turn [0] [.ptr 0 0] [pso ts (eF ts (adv p)).2] (qr ts (qc ts n) (eF ts (adv p)).2).1.av [(0,pso ts (qr ts (qc ts n) (eF ts (adv p)).2).2)]] (by kernel_rfl) ?_)
      (repeat' ((conv=>whnf);first|refine Ob.auto ?_|refine Ob.intro ?_ ?_|fail))
      ·exact ⟨hbt _ h2,by kernel_rfl,leA,qa,by exact qb rfl,by exact qb rfl⟩
      (refine ⟨Le.agg ⟨Le.refl _,?_,?_,Le.refl _,Le.refl _,?_,trivial⟩,qa⟩ <;> first|exact Le.nils _ _|exact Le.refl _|exact jm rfl|exact js rfl|exact qae rfl|exact qac rfl rfl|exact qad rfl rfl|exact qaf rfl rfl|exact qag rfl rfl rfl|exact qah (fun _ _=>rfl))
     | false=>
      have tkWhile:took ts p qnq=p:=if_neg (by rw [hkWhile];decide)
      rw [tkWhile]
      (repeat' ((conv=>whnf);first|(apply zB <;> intro hb <;> (try simp [-zd] at hb) <;> try (exfalso;omega))))
      ((conv=>whnf);refine zT 600 [0] (qas ht h.at_ qnr) qa ?_)
      cases hkAtomic:sees ts p qnr with
      | true=>
       have tkAtomic:took ts p qnr=adv p:=if_pos hkAtomic
       have hs1:=qg ht h.at_ hkAtomic
       have h1:Pre ts n (adv p):=h.less ((hs1.ok h.at_).refl)
       rw [tkAtomic]
       (repeat' ((conv=>whnf);first|(apply zB <;> intro hb <;> (try simp [-zd] at hb) <;> try (exfalso;omega))))
       have e5:qc ts (n+1) p=(.mk 13 [] [] (tk ts p).pos [(qr ts (qc ts n) (adv p)).1],(qr ts (qc ts n) (adv p)).2):=(((((if_neg hc0)).trans (if_neg (by rw [hkSend];decide))).trans (if_neg (by rw [hkIf];decide))).trans (if_neg (by rw [hkWhile];decide))).trans (if_pos hkAtomic)
       rw [e5]
       ((conv=>whnf);refine qbd (fun _=>rfl) (by kernel_rfl) 600 [.turn [0] [.ptr 0 0] [pso ts (adv p)] (qr ts (qc ts n) (adv p)).1.av [(0,pso ts (qr ts (qc ts n) (adv p)).2)]] (by kernel_rfl) ?_)
       (repeat' ((conv=>whnf);first|refine Ob.auto ?_|refine Ob.intro ?_ ?_|fail))
       ·exact ⟨hbt _ h1,by kernel_rfl,leA,qa,by exact qb rfl,by exact qb rfl⟩
       (refine ⟨Le.agg ⟨Le.refl _,?_,?_,Le.refl _,Le.refl _,?_,trivial⟩,qa⟩ <;> first|exact Le.nils _ _|exact Le.refl _|exact jm rfl|exact js rfl|exact qae rfl|exact qac rfl rfl|exact qad rfl rfl|exact qaf rfl rfl|exact qag rfl rfl rfl|exact qah (fun _ _=>rfl))
      | false=>
       have tkAtomic:took ts p qnr=p:=if_neg (by rw [hkAtomic];decide)
       rw [tkAtomic]
       (repeat' ((conv=>whnf);first|(apply zB <;> intro hb <;> (try simp [-zd] at hb) <;> try (exfalso;omega))))
       ((conv=>whnf);refine zT 600 [0] (qas ht h.at_ qns) qa ?_)
       cases hkSkip:sees ts p qns with
       | true=>
        have tkSkip:took ts p qns=adv p:=if_pos hkSkip
        have hs1:=qg ht h.at_ hkSkip
        have h1:Pre ts n (adv p):=h.less ((hs1.ok h.at_).refl)
        rw [tkSkip]
        (repeat' ((conv=>whnf);first|(apply zB <;> intro hb <;> (try simp [-zd] at hb) <;> try (exfalso;omega))))
        have e5:qc ts (n+1) p=(.mk 14 [] [] (tk ts p).pos [],must ts (adv p) qq):=((((((if_neg hc0)).trans (if_neg (by rw [hkSend];decide))).trans (if_neg (by rw [hkIf];decide))).trans (if_neg (by rw [hkWhile];decide))).trans (if_neg (by rw [hkAtomic];decide))).trans (if_pos hkSkip)
        rw [e5]
        ((conv=>whnf);refine zT 600 [0] (qav ht h1.at_ qq) qa ?_)
        (repeat' ((conv=>whnf);first|refine Ob.auto ?_|fail))
        (refine ⟨Le.agg ⟨Le.refl _,?_,?_,Le.refl _,Le.refl _,?_,trivial⟩,qa⟩ <;> first|exact Le.nils _ _|exact Le.refl _|exact jm rfl|exact js rfl|exact qae rfl|exact qac rfl rfl|exact qad rfl rfl|exact qaf rfl rfl|exact qag rfl rfl rfl|exact qah (fun _ _=>rfl))
       | false=>
        have tkSkip:took ts p qns=p:=if_neg (by rw [hkSkip];decide)
        rw [tkSkip]
        (repeat' ((conv=>whnf);first|(apply zB <;> intro hb <;> (try simp [-zd] at hb) <;> try (exfalso;omega))))
        ((conv=>whnf);refine zT 600 [0] (qas ht h.at_ qnt) qa ?_)
        cases hkStop:sees ts p qnt with
        | true=>
         have tkStop:took ts p qnt=adv p:=if_pos hkStop
         have hs1:=qg ht h.at_ hkStop
         have h1:Pre ts n (adv p):=h.less ((hs1.ok h.at_).refl)
         rw [tkStop]
         (repeat' ((conv=>whnf);first|(apply zB <;> intro hb <;> (try simp [-zd] at hb) <;> try (exfalso;omega))))
         have e5:qc ts (n+1) p=(.mk 15 [] [] (tk ts p).pos [],must ts (adv p) qq):=(((((((if_neg hc0)).trans (if_neg (by rw [hkSend];decide))).trans (if_neg (by rw [hkIf];decide))).trans (if_neg (by rw [hkWhile];decide))).trans (if_neg (by rw [hkAtomic];decide))).trans (if_neg (by rw [hkSkip];decide))).trans (if_pos hkStop)
         rw [e5]
         ((conv=>whnf);refine zT 600 [0] (qav ht h1.at_ qq) qa ?_)
         (repeat' ((conv=>whnf);first|refine Ob.auto ?_|fail))
         (refine ⟨Le.agg ⟨Le.refl _,?_,?_,Le.refl _,Le.refl _,?_,trivial⟩,qa⟩ <;> first|exact Le.nils _ _|exact Le.refl _|exact jm rfl|exact js rfl|exact qae rfl|exact qac rfl rfl|exact qad rfl rfl|exact qaf rfl rfl|exact qag rfl rfl rfl|exact qah (fun _ _=>rfl))
        | false=>
         have tkStop:took ts p qnt=p:=if_neg (by rw [hkStop];decide)
         rw [tkStop]
         (repeat' ((conv=>whnf);first|(apply zB <;> intro hb <;> (try simp [-zd] at hb) <;> try (exfalso;omega))))
         have e5:qc ts (n+1) p=(.mk 6 [jz ts p] [] (tk ts p).pos [(eF ts (must ts (qe ts p) sEq)).1],must ts (eF ts (must ts (qe ts p) sEq)).2 qq):=(((((((if_neg hc0)).trans (if_neg (by rw [hkSend];decide))).trans (if_neg (by rw [hkIf];decide))).trans (if_neg (by rw [hkWhile];decide))).trans (if_neg (by rw [hkAtomic];decide))).trans (if_neg (by rw [hkSkip];decide))).trans (if_neg (by rw [hkStop];decide))
         have h1:=h.step (qao ht h.at_)
         have h2:=h1.step (qk ht h1.at_ sEq)
         have h3:=h2.step (qbe ht _ h2.at_)
         rw [e5]
         (repeat' ((conv=>whnf);first|(refine qbb (fun _=>rfl) (by kernel_rfl) 600 ?_)|fail))
         ((conv=>whnf);refine CallY.trip [0] (qhr ht h.at_) (by kernel_rfl) leA qa (by exact qb rfl) (by exact qb rfl) ?_)
         (repeat' ((conv=>whnf);first|refine Ob.auto ?_|fail))
         ((conv=>whnf);refine AltG.far 9 [2] (by kernel_rfl) farA (EndG.go ?_))
         ((conv=>whnf);refine zT 600 [0] (qav ht h1.at_ sEq) qa ?_)
         ((conv=>whnf);refine qbd (fun _=>rfl) (by kernel_rfl) 600 [.turn [0] [.ptr 0 0] [pso ts (must ts (qe ts p) sEq)] (eF ts (must ts (qe ts p) sEq)).1.av [(0,pso ts (eF ts (must ts (qe ts p) sEq)).2)]] (by kernel_rfl) ?_)
         (repeat' ((conv=>whnf);first|refine Ob.auto ?_|refine Ob.intro ?_ ?_|fail))
         ·exact ⟨e_rd ht h2.full,by kernel_rfl,leA,qa,by exact qb rfl,by exact qb rfl⟩
         ((conv=>whnf);refine zT 600 [0] (qav ht h3.at_ qq) qa ?_)
         (repeat' ((conv=>whnf);first|refine Ob.auto ?_|fail))
         (refine ⟨Le.agg ⟨Le.refl _,?_,?_,Le.refl _,Le.refl _,?_,trivial⟩,qa⟩ <;> first|exact Le.nils _ _|exact Le.refl _|exact jm rfl|exact js rfl|exact qae rfl|exact qac rfl rfl|exact qad rfl rfl|exact qaf rfl rfl|exact qag rfl rfl rfl|exact qah (fun _ _=>rfl))
theorem s_rd (ht:ToksOk ts) (h:Pre ts n p):RdT ts 164 (sF ts) p:=jot ht _ p h.full
end
end Go.Proofs.YtcfllgdfhfcicaaGreatDoor
