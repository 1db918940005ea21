/- Contracts of the document's parser: statements. -/
import Derived.Test.YtcfllgdfhfcicaaGreatDoorQ10
import Derived.Test.YtcfllgdfhfcicaaGreatDoorQ2
namespace Go.Proofs.YtcfllgdfhfcicaaGreatDoor
open List renaming getD_eq_getElem?_getD → zd
open Go Go.Sx Go.RowKit Go.St Pa
set_option maxRecDepth 100000
set_option maxHeartbeats 8000000
section
variable {ts:List Lx.Tok} {p q:Ps} {n:Nat}
theorem Pre.less (h:Pre ts (n+1) p) (k:Step ts (adv p) q):Pre ts n q:=
 ⟨⟨by have:=h.at_.lo;have:p.at_+1≤q.at_:=k.le;omega,k.hi⟩,by have:=h.deep;have:p.at_+1≤q.at_:=k.le;have:q.deep=p.deep:=k.deep;omega,by have:=h.left;have:p.at_+1≤q.at_:=k.le;omega⟩
theorem jor (ht:ToksOk ts):∀ n q,Pre ts n q→RdT ts 164 (qc ts n) q:=by
 intro n
 induction n with
 | zero=>intro p h;have:=h.left;have:=h.at_.hi;omega
 | succ n ih=>
  intro p h
  have h2:=ht.len
  have hB:=qqc ht (qjm ht n)
  have hbt:∀ q,Pre ts n q→RdT ts 176 (qp ts (qc ts n)) q:=by
   cases n with
   | zero=>intro q hq;have:=hq.left;have:=hq.at_.hi;omega
   | succ m=>exact fun q hq=>joq ht (qjm ht _) (jbb ht m) ih hq
  refine zM {} 600 Tryz.func164 (fun c0 rdb mpb=>?_)
  (repeat' ((conv=>whnf);first|refine zE 600 (qjp h.at_ _) ?_|fail))
  ((conv=>whnf);refine zT 600 [0] (quc ht h.at_ qdr) qa ?_)
  cases hi:sees ts p qdr with
  | true=>
   have e1:took ts p qdr=adv p:=if_pos hi
   have e2:qge ts p qdr=1:=if_pos hi
   have hs1:=qg ht h.at_ hi
   have h1:=h.step hs1
   have e3:qc ts (n+1) p=qdh ts (qp ts (qc ts n)) (tk ts p).pos 1 (adv p):=(if_pos (.inl hi)).trans (by rw [e1,e2])
   rw [e1,e2]
   (repeat' ((conv=>whnf);first|refine Ob.auto ?_|refine zF 600 (fun hg=>qeu h1.at_ _) ?_|(apply zB <;> intro hb <;> (try simp [-zd] at hb) <;> try (exfalso;omega))))
   cases hr:sees ts (adv p) qdf with
   | true=>
    have e4:qdh ts (qp ts (qc ts n)) (tk ts p).pos 1 (adv p)=(.mk 8 [ju ts (adv (adv p)),ju ts (qe ts (adv (adv p)))] [1] (tk ts p).pos [],must ts (qe ts (qe ts (adv (adv p)))) qo):=if_pos hr
    rw [e3,e4]
    ((conv=>whnf);refine zT 600 [0,2] (jbj ht h1 hr 1 (tk ts p).pos) (⟨SoLe.refl _,⟨rfl,Le.refl _,Le.refl _,ji rfl,Le.refl _,Le.refl _,Le.refl _,trivial⟩,trivial⟩) ?_)
    (repeat' ((conv=>whnf);first|refine Ob.auto ?_|fail))
    (refine ⟨Le.agg ⟨Le.refl _,?_,?_,Le.refl _,Le.refl _,?_,trivial⟩,qa⟩ <;> first|exact Le.nils _ _|exact Le.refl _|exact ji rfl|exact jo rfl|exact jz rfl|exact jx rfl rfl|exact jy rfl rfl|exact qaa rfl rfl|exact qab rfl rfl rfl|exact qac (fun _ _=>rfl))
   | false=>
    cases hw:sees ts (adv p) qes with
    | true=>
     have e4:qdh ts (qp ts (qc ts n)) (tk ts p).pos 1 (adv p)=(.mk 9 [] [1] (tk ts p).pos [(eF ts (adv (adv p))).1],must ts (eF ts (adv (adv p))).2 qo):=(if_neg (by rw [hr];decide)).trans (if_pos hw)
     rw [e3,e4]
     ((conv=>whnf);refine zT 600 [0,2] (jbk ht h1 hr hw 1 (tk ts p).pos) (⟨SoLe.refl _,⟨rfl,Le.refl _,Le.refl _,ji rfl,Le.refl _,Le.refl _,Le.refl _,trivial⟩,trivial⟩) ?_)
     (repeat' ((conv=>whnf);first|refine Ob.auto ?_|fail))
     (refine ⟨Le.agg ⟨Le.refl _,?_,?_,Le.refl _,Le.refl _,?_,trivial⟩,qa⟩ <;> first|exact Le.nils _ _|exact Le.refl _|exact ji rfl|exact jo rfl|exact jz rfl|exact jx rfl rfl|exact jy rfl rfl|exact qaa rfl rfl|exact qab rfl rfl rfl|exact qac (fun _ _=>rfl))
    | false=>
     have hq:Pre ts n (must ts (adv p) ja):=h.less (qi ht h1.at_ ja)
     have e4:qdh ts (qp ts (qc ts n)) (tk ts p).pos 1 (adv p)=(.mk 10 [] [1] (tk ts p).pos (orL ts (qp ts (qc ts n)) ts.length [(qp ts (qc ts n) (must ts (adv p) ja)).1] (qp ts (qc ts n) (must ts (adv p) ja)).2).1,(orL ts (qp ts (qc ts n)) ts.length [(qp ts (qc ts n) (must ts (adv p) ja)).1] (qp ts (qc ts n) (must ts (adv p) ja)).2).2):=(if_neg (by rw [hr];decide)).trans (if_neg (by rw [hw];decide))
     rw [e3,e4]
     ((conv=>whnf);refine zT 600 [0,2] (jbl ht hB hbt h1 hq hr hw 1 (tk ts p).pos) (⟨SoLe.refl _,⟨rfl,Le.refl _,Le.refl _,ji rfl,Le.refl _,Le.refl _,Le.refl _,trivial⟩,trivial⟩) ?_)
     (repeat' ((conv=>whnf);first|refine Ob.auto ?_|fail))
     (refine ⟨Le.agg ⟨Le.refl _,?_,?_,Le.refl _,Le.refl _,?_,trivial⟩,qa⟩ <;> first|exact Le.nils _ _|exact Le.refl _|exact ji rfl|exact jo rfl|exact jz rfl|exact jx rfl rfl|exact jy rfl rfl|exact qaa rfl rfl|exact qab rfl rfl rfl|exact qac (fun _ _=>rfl))
  | false=>
   have e1:took ts p qdr=p:=if_neg (by rw [hi];decide)
   have e2:qge ts p qdr=0:=if_neg (by rw [hi];decide)
   rw [e1,e2]
   (repeat' ((conv=>whnf);first|refine Ob.auto ?_|refine zF 600 (fun hg=>qeu h.at_ _) ?_|(apply zB <;> intro hb <;> (try simp [-zd] at hb) <;> try (exfalso;omega))))
   ·have hcond:sees ts p qdr=true∨sees ts p qdf=true∨sees ts p qes=true∨sees ts p ja=true:=by
     rcases hb with (hb|hb)|hb
     ·exact .inr (.inl hb)
     ·exact .inr (.inr (.inl hb))
     ·exact .inr (.inr (.inr hb))
    have e3:qc ts (n+1) p=qdh ts (qp ts (qc ts n)) (tk ts p).pos 0 p:=(if_pos hcond).trans (by rw [e1,e2])
    cases hr:sees ts p qdf with
    | true=>
     have e4:qdh ts (qp ts (qc ts n)) (tk ts p).pos 0 p=(.mk 8 [ju ts (adv p),ju ts (qe ts (adv p))] [0] (tk ts p).pos [],must ts (qe ts (qe ts (adv p))) qo):=if_pos hr
     rw [e3,e4]
     ((conv=>whnf);refine zT 600 [0,2] (jbj ht h hr 0 (tk ts p).pos) (⟨SoLe.refl _,⟨rfl,Le.refl _,Le.refl _,ji rfl,Le.refl _,Le.refl _,Le.refl _,trivial⟩,trivial⟩) ?_)
     (repeat' ((conv=>whnf);first|refine Ob.auto ?_|fail))
     (refine ⟨Le.agg ⟨Le.refl _,?_,?_,Le.refl _,Le.refl _,?_,trivial⟩,qa⟩ <;> first|exact Le.nils _ _|exact Le.refl _|exact ji rfl|exact jo rfl|exact jz rfl|exact jx rfl rfl|exact jy rfl rfl|exact qaa rfl rfl|exact qab rfl rfl rfl|exact qac (fun _ _=>rfl))
    | false=>
     cases hw:sees ts p qes with
     | true=>
      have e4:qdh ts (qp ts (qc ts n)) (tk ts p).pos 0 p=(.mk 9 [] [0] (tk ts p).pos [(eF ts (adv p)).1],must ts (eF ts (adv p)).2 qo):=(if_neg (by rw [hr];decide)).trans (if_pos hw)
      rw [e3,e4]
      ((conv=>whnf);refine zT 600 [0,2] (jbk ht h hr hw 0 (tk ts p).pos) (⟨SoLe.refl _,⟨rfl,Le.refl _,Le.refl _,ji rfl,Le.refl _,Le.refl _,Le.refl _,trivial⟩,trivial⟩) ?_)
      (repeat' ((conv=>whnf);first|refine Ob.auto ?_|fail))
      (refine ⟨Le.agg ⟨Le.refl _,?_,?_,Le.refl _,Le.refl _,?_,trivial⟩,qa⟩ <;> first|exact Le.nils _ _|exact Le.refl _|exact ji rfl|exact jo rfl|exact jz rfl|exact jx rfl rfl|exact jy rfl rfl|exact qaa rfl rfl|exact qab rfl rfl rfl|exact qac (fun _ _=>rfl))
     | false=>
      have hch:sees ts p ja=true:=by rcases hcond with hc|hc|hc|hc <;> simp_all
      have hq:Pre ts n (must ts p ja):=by rw [show must ts p ja=adv p from if_pos hch];exact h.less (((qg ht h.at_ hch).ok h.at_).refl)
      have e4:qdh ts (qp ts (qc ts n)) (tk ts p).pos 0 p=(.mk 10 [] [0] (tk ts p).pos (orL ts (qp ts (qc ts n)) ts.length [(qp ts (qc ts n) (must ts p ja)).1] (qp ts (qc ts n) (must ts p ja)).2).1,(orL ts (qp ts (qc ts n)) ts.length [(qp ts (qc ts n) (must ts p ja)).1] (qp ts (qc ts n) (must ts p ja)).2).2):=(if_neg (by rw [hr];decide)).trans (if_neg (by rw [hw];decide))
      rw [e3,e4]
      ((conv=>whnf);refine zT 600 [0,2] (jbl ht hB hbt h hq hr hw 0 (tk ts p).pos) (⟨SoLe.refl _,⟨rfl,Le.refl _,Le.refl _,ji rfl,Le.refl _,Le.refl _,Le.refl _,trivial⟩,trivial⟩) ?_)
      (repeat' ((conv=>whnf);first|refine Ob.auto ?_|fail))
      (refine ⟨Le.agg ⟨Le.refl _,?_,?_,Le.refl _,Le.refl _,?_,trivial⟩,qa⟩ <;> first|exact Le.nils _ _|exact Le.refl _|exact ji rfl|exact jo rfl|exact jz rfl|exact jx rfl rfl|exact jy rfl rfl|exact qaa rfl rfl|exact qab rfl rfl rfl|exact qac (fun _ _=>rfl))
   have hc0:¬ (sees ts p qdr=true∨sees ts p qdf=true∨sees ts p qes=true∨sees ts p ja=true):=by
    rw [hi,hb.1.1,hb.1.2,hb.2];decide
   ((conv=>whnf);refine zT 600 [0] (qam ht h.at_ qmu) qa ?_)
   cases hkSend:sees ts p qmu with
   | true=>
    have tkSend:took ts p qmu=adv p:=if_pos hkSend
    have hs1:=qg ht h.at_ hkSend
    have h1:Pre ts n (adv p):=h.less ((hs1.ok h.at_).refl)
    rw [tkSend]
    (repeat' ((conv=>whnf);first|(apply zB <;> intro hb <;> (try simp [-zd] at hb) <;> try (exfalso;omega))))
    have e5:qc ts (n+1) p=(.mk 7 [ju ts (adv p)] [] (tk ts p).pos [(eF ts (qe ts (adv p))).1],must ts (eF ts (qe ts (adv p))).2 qo):=((if_neg hc0)).trans (if_pos hkSend)
    rw [e5]
    have h2:=h1.step (qai ht h1.at_)
    have h3:=h2.step (qay ht _ h2.at_)
    (repeat' ((conv=>whnf);first|(refine qav (fun _=>rfl) (by kernel_rfl) 600 ?_)|fail))
    ((conv=>whnf);refine CallY.trip [0] (qhh ht h1.at_) (by kernel_rfl) leA qa (by exact qb rfl) (by exact qb rfl) ?_)
    (repeat' ((conv=>whnf);first|refine Ob.auto ?_|fail))
    ((conv=>whnf);refine AltG.far 9 [2] (by kernel_rfl) farA (EndG.go ?_))
    ((conv=>whnf);refine qbe (fun _=>rfl) (by kernel_rfl) 600 [.turn [0] [.ptr 0 0] [pso ts (qe ts (adv p))] (eF ts (qe ts (adv p))).1.av [(0,pso ts (eF ts (qe ts (adv p))).2)]] (by kernel_rfl) ?_)
    (repeat' ((conv=>whnf);first|refine Ob.auto ?_|refine Ob.intro ?_ ?_|fail))
    ·exact ⟨e_rd ht h2.full,by kernel_rfl,leA,qa,by exact qb rfl,by exact qb rfl⟩
    ((conv=>whnf);refine zT 600 [0] (qaq ht h3.at_ qo) qa ?_)
    (repeat' ((conv=>whnf);first|refine Ob.auto ?_|fail))
    (refine ⟨Le.agg ⟨Le.refl _,?_,?_,Le.refl _,Le.refl _,?_,trivial⟩,qa⟩ <;> first|exact Le.nils _ _|exact Le.refl _|exact ji rfl|exact jo rfl|exact jz rfl|exact jx rfl rfl|exact jy rfl rfl|exact qaa rfl rfl|exact qab rfl rfl rfl|exact qac (fun _ _=>rfl))
   | false=>
    have tkSend:took ts p qmu=p:=if_neg (by rw [hkSend];decide)
    rw [tkSend]
    (repeat' ((conv=>whnf);first|(apply zB <;> intro hb <;> (try simp [-zd] at hb) <;> try (exfalso;omega))))
    ((conv=>whnf);refine zT 600 [0] (qam ht h.at_ kIf) qa ?_)
    cases hkIf:sees ts p kIf with
    | true=>
     have tkIf:took ts p kIf=adv p:=if_pos hkIf
     have hs1:=qg ht h.at_ hkIf
     have h1:Pre ts n (adv p):=h.less ((hs1.ok h.at_).refl)
     rw [tkIf]
     (repeat' ((conv=>whnf);first|(apply zB <;> intro hb <;> (try simp [-zd] at hb) <;> try (exfalso;omega))))
     have h2:=h1.step (qay ht _ h1.at_)
     have h3:=h2.step (hB _ h2.at_)
     ((conv=>whnf);refine qbe (fun _=>rfl) (by kernel_rfl) 600 [.turn [0] [.ptr 0 0] [pso ts (adv p)] (eF ts (adv p)).1.av [(0,pso ts (eF ts (adv p)).2)]] (by kernel_rfl) ?_)
     (repeat' ((conv=>whnf);first|refine Ob.auto ?_|refine Ob.intro ?_ ?_|fail))
     ·exact ⟨e_rd ht h1.full,by kernel_rfl,leA,qa,by exact qb rfl,by exact qb rfl⟩
     ((conv=>whnf);refine qbe (fun _=>rfl) (by kernel_rfl) 600 [.turn [0] [.ptr 0 0] [pso ts (eF ts (adv p)).2] (qp ts (qc ts n) (eF ts (adv p)).2).1.av [(0,pso ts (qp ts (qc ts n) (eF ts (adv p)).2).2)]] (by kernel_rfl) ?_)
     (repeat' ((conv=>whnf);first|refine Ob.auto ?_|refine Ob.intro ?_ ?_|fail))
     ·exact ⟨hbt _ h2,by kernel_rfl,leA,qa,by exact qb rfl,by exact qb rfl⟩
     ((conv=>whnf);refine zT 600 [0] (qam ht h3.at_ qmv) qa ?_)
     cases hel:sees ts (qp ts (qc ts n) (eF ts (adv p)).2).2 qmv with
     | true=>
      have tel:took ts (qp ts (qc ts n) (eF ts (adv p)).2).2 qmv=adv (qp ts (qc ts n) (eF ts (adv p)).2).2:=if_pos hel
      have h4:=h3.step (qg ht h3.at_ hel)
      have e5:qc ts (n+1) p=(.mk 11 [] [] (tk ts p).pos [(eF ts (adv p)).1,(qp ts (qc ts n) (eF ts (adv p)).2).1,(qp ts (qc ts n) (adv (qp ts (qc ts n) (eF ts (adv p)).2).2)).1],(qp ts (qc ts n) (adv (qp ts (qc ts n) (eF ts (adv p)).2).2)).2):=(((if_neg hc0)).trans (if_neg (by rw [hkSend];decide))).trans ((if_pos hkIf).trans (if_pos hel))
      rw [tel,e5]
      (repeat' ((conv=>whnf);first|(apply zB <;> intro hb <;> (try simp [-zd] at hb) <;> try (exfalso;omega))))
      ((conv=>whnf);refine qbe (fun _=>rfl) (by kernel_rfl) 600 [.turn [0] [.ptr 0 0] [pso ts (adv (qp ts (qc ts n) (eF ts (adv p)).2).2)] (qp ts (qc ts n) (adv (qp ts (qc ts n) (eF ts (adv p)).2).2)).1.av [(0,pso ts (qp ts (qc ts n) (adv (qp ts (qc ts n) (eF ts (adv p)).2).2)).2)]] (by kernel_rfl) ?_)
      (repeat' ((conv=>whnf);first|refine Ob.auto ?_|refine Ob.intro ?_ ?_|fail))
      ·exact ⟨hbt _ h4,by kernel_rfl,leA,qa,by exact qb rfl,by exact qb rfl⟩
      (refine ⟨Le.agg ⟨Le.refl _,?_,?_,Le.refl _,Le.refl _,?_,trivial⟩,qa⟩ <;> first|exact Le.nils _ _|exact Le.refl _|exact ji rfl|exact jo rfl|exact jz rfl|exact jx rfl rfl|exact jy rfl rfl|exact qaa rfl rfl|exact qab rfl rfl rfl|exact qac (fun _ _=>rfl))
     | false=>
      have tel:took ts (qp ts (qc ts n) (eF ts (adv p)).2).2 qmv=(qp ts (qc ts n) (eF ts (adv p)).2).2:=if_neg (by rw [hel];decide)
      have e5:qc ts (n+1) p=(.mk 11 [] [] (tk ts p).pos [(eF ts (adv p)).1,(qp ts (qc ts n) (eF ts (adv p)).2).1],(qp ts (qc ts n) (eF ts (adv p)).2).2):=(((if_neg hc0)).trans (if_neg (by rw [hkSend];decide))).trans ((if_pos hkIf).trans (if_neg (by rw [hel];decide)))
      rw [tel,e5]
      (repeat' ((conv=>whnf);first|refine Ob.auto ?_|(apply zB <;> intro hb <;> (try simp [-zd] at hb) <;> try (exfalso;omega))))
      (refine ⟨Le.agg ⟨Le.refl _,?_,?_,Le.refl _,Le.refl _,?_,trivial⟩,qa⟩ <;> first|exact Le.nils _ _|exact Le.refl _|exact ji rfl|exact jo rfl|exact jz rfl|exact jx rfl rfl|exact jy rfl rfl|exact qaa rfl rfl|exact qab rfl rfl rfl|exact qac (fun _ _=>rfl))
    | false=>
     have tkIf:took ts p kIf=p:=if_neg (by rw [hkIf];decide)
     rw [tkIf]
     (repeat' ((conv=>whnf);first|(apply zB <;> intro hb <;> (try simp [-zd] at hb) <;> try (exfalso;omega))))
     ((conv=>whnf);refine zT 600 [0] (qam ht h.at_ qmw) qa ?_)
     cases hkWhile:sees ts p qmw with
     | true=>
      have tkWhile:took ts p qmw=adv p:=if_pos hkWhile
      have hs1:=qg ht h.at_ hkWhile
      have h1:Pre ts n (adv p):=h.less ((hs1.ok h.at_).refl)
      rw [tkWhile]
      (repeat' ((conv=>whnf);first|(apply zB <;> intro hb <;> (try simp [-zd] at hb) <;> try (exfalso;omega))))
      have e5:qc ts (n+1) p=(.mk 12 [] [] (tk ts p).pos [(eF ts (adv p)).1,(qp ts (qc ts n) (eF ts (adv p)).2).1],(qp ts (qc ts n) (eF ts (adv p)).2).2):=((((if_neg hc0)).trans (if_neg (by rw [hkSend];decide))).trans (if_neg (by rw [hkIf];decide))).trans (if_pos hkWhile)
      rw [e5]
      have h2:=h1.step (qay ht _ h1.at_)
      ((conv=>whnf);refine qbe (fun _=>rfl) (by kernel_rfl) 600 [.turn [0] [.ptr 0 0] [pso ts (adv p)] (eF ts (adv p)).1.av [(0,pso ts (eF ts (adv p)).2)]] (by kernel_rfl) ?_)
      (repeat' ((conv=>whnf);first|refine Ob.auto ?_|refine Ob.intro ?_ ?_|fail))
      ·exact ⟨e_rd ht h1.full,by kernel_rfl,leA,qa,by exact qb rfl,by exact qb rfl⟩
      ((conv=>whnf);refine qbe (fun _=>rfl) (by kernel_rfl) 600 [.turn [0] [.ptr 0 0] [pso ts (eF ts (adv p)).2] (qp ts (qc ts n) (eF ts (adv p)).2).1.av [(0,pso ts (qp ts (qc ts n) (eF ts (adv p)).2).2)]] (by kernel_rfl) ?_)
      (repeat' ((conv=>whnf);first|refine Ob.auto ?_|refine Ob.intro ?_ ?_|fail))
      ·exact ⟨hbt _ h2,by kernel_rfl,leA,qa,by exact qb rfl,by exact qb rfl⟩
      (refine ⟨Le.agg ⟨Le.refl _,?_,?_,Le.refl _,Le.refl _,?_,trivial⟩,qa⟩ <;> first|exact Le.nils _ _|exact Le.refl _|exact ji rfl|exact jo rfl|exact jz rfl|exact jx rfl rfl|exact jy rfl rfl|exact qaa rfl rfl|exact qab rfl rfl rfl|exact qac (fun _ _=>rfl))
     | false=>
      have tkWhile:took ts p qmw=p:=if_neg (by rw [hkWhile];decide)
      rw [tkWhile]
      (repeat' ((conv=>whnf);first|(apply zB <;> intro hb <;> (try simp [-zd] at hb) <;> try (exfalso;omega))))
      ((conv=>whnf);refine zT 600 [0] (qam ht h.at_ qmx) qa ?_)
      cases hkAtomic:sees ts p qmx with
      | true=>
       have tkAtomic:took ts p qmx=adv p:=if_pos hkAtomic
       have hs1:=qg ht h.at_ hkAtomic
       have h1:Pre ts n (adv p):=h.less ((hs1.ok h.at_).refl)
       rw [tkAtomic]
       (repeat' ((conv=>whnf);first|(apply zB <;> intro hb <;> (try simp [-zd] at hb) <;> try (exfalso;omega))))
       have e5:qc ts (n+1) p=(.mk 13 [] [] (tk ts p).pos [(qp ts (qc ts n) (adv p)).1],(qp ts (qc ts n) (adv p)).2):=(((((if_neg hc0)).trans (if_neg (by rw [hkSend];decide))).trans (if_neg (by rw [hkIf];decide))).trans (if_neg (by rw [hkWhile];decide))).trans (if_pos hkAtomic)
       rw [e5]
       ((conv=>whnf);refine qbe (fun _=>rfl) (by kernel_rfl) 600 [.turn [0] [.ptr 0 0] [pso ts (adv p)] (qp ts (qc ts n) (adv p)).1.av [(0,pso ts (qp ts (qc ts n) (adv p)).2)]] (by kernel_rfl) ?_)
       (repeat' ((conv=>whnf);first|refine Ob.auto ?_|refine Ob.intro ?_ ?_|fail))
       ·exact ⟨hbt _ h1,by kernel_rfl,leA,qa,by exact qb rfl,by exact qb rfl⟩
       (refine ⟨Le.agg ⟨Le.refl _,?_,?_,Le.refl _,Le.refl _,?_,trivial⟩,qa⟩ <;> first|exact Le.nils _ _|exact Le.refl _|exact ji rfl|exact jo rfl|exact jz rfl|exact jx rfl rfl|exact jy rfl rfl|exact qaa rfl rfl|exact qab rfl rfl rfl|exact qac (fun _ _=>rfl))
      | false=>
       have tkAtomic:took ts p qmx=p:=if_neg (by rw [hkAtomic];decide)
       rw [tkAtomic]
       (repeat' ((conv=>whnf);first|(apply zB <;> intro hb <;> (try simp [-zd] at hb) <;> try (exfalso;omega))))
       ((conv=>whnf);refine zT 600 [0] (qam ht h.at_ qmy) qa ?_)
       cases hkSkip:sees ts p qmy with
       | true=>
        have tkSkip:took ts p qmy=adv p:=if_pos hkSkip
        have hs1:=qg ht h.at_ hkSkip
        have h1:Pre ts n (adv p):=h.less ((hs1.ok h.at_).refl)
        rw [tkSkip]
        (repeat' ((conv=>whnf);first|(apply zB <;> intro hb <;> (try simp [-zd] at hb) <;> try (exfalso;omega))))
        have e5:qc ts (n+1) p=(.mk 14 [] [] (tk ts p).pos [],must ts (adv p) qo):=((((((if_neg hc0)).trans (if_neg (by rw [hkSend];decide))).trans (if_neg (by rw [hkIf];decide))).trans (if_neg (by rw [hkWhile];decide))).trans (if_neg (by rw [hkAtomic];decide))).trans (if_pos hkSkip)
        rw [e5]
        ((conv=>whnf);refine zT 600 [0] (qaq ht h1.at_ qo) qa ?_)
        (repeat' ((conv=>whnf);first|refine Ob.auto ?_|fail))
        (refine ⟨Le.agg ⟨Le.refl _,?_,?_,Le.refl _,Le.refl _,?_,trivial⟩,qa⟩ <;> first|exact Le.nils _ _|exact Le.refl _|exact ji rfl|exact jo rfl|exact jz rfl|exact jx rfl rfl|exact jy rfl rfl|exact qaa rfl rfl|exact qab rfl rfl rfl|exact qac (fun _ _=>rfl))
       | false=>
        have tkSkip:took ts p qmy=p:=if_neg (by rw [hkSkip];decide)
        rw [tkSkip]
        (repeat' ((conv=>whnf);first|(apply zB <;> intro hb <;> (try simp [-zd] at hb) <;> try (exfalso;omega))))
        ((conv=>whnf);refine zT 600 [0] (qam ht h.at_ qmz) qa ?_)
        cases hkStop:sees ts p qmz with
        | true=>
         have tkStop:took ts p qmz=adv p:=if_pos hkStop
         have hs1:=qg ht h.at_ hkStop
         have h1:Pre ts n (adv p):=h.less ((hs1.ok h.at_).refl)
         rw [tkStop]
         (repeat' ((conv=>whnf);first|(apply zB <;> intro hb <;> (try simp [-zd] at hb) <;> try (exfalso;omega))))
         have e5:qc ts (n+1) p=(.mk 15 [] [] (tk ts p).pos [],must ts (adv p) qo):=(((((((if_neg hc0)).trans (if_neg (by rw [hkSend];decide))).trans (if_neg (by rw [hkIf];decide))).trans (if_neg (by rw [hkWhile];decide))).trans (if_neg (by rw [hkAtomic];decide))).trans (if_neg (by rw [hkSkip];decide))).trans (if_pos hkStop)
         rw [e5]
         ((conv=>whnf);refine zT 600 [0] (qaq ht h1.at_ qo) qa ?_)
         (repeat' ((conv=>whnf);first|refine Ob.auto ?_|fail))
         (refine ⟨Le.agg ⟨Le.refl _,?_,?_,Le.refl _,Le.refl _,?_,trivial⟩,qa⟩ <;> first|exact Le.nils _ _|exact Le.refl _|exact ji rfl|exact jo rfl|exact jz rfl|exact jx rfl rfl|exact jy rfl rfl|exact qaa rfl rfl|exact qab rfl rfl rfl|exact qac (fun _ _=>rfl))
        | false=>
         have tkStop:took ts p qmz=p:=if_neg (by rw [hkStop];decide)
         rw [tkStop]
         (repeat' ((conv=>whnf);first|(apply zB <;> intro hb <;> (try simp [-zd] at hb) <;> try (exfalso;omega))))
         have e5:qc ts (n+1) p=(.mk 6 [ju ts p] [] (tk ts p).pos [(eF ts (must ts (qe ts p) sEq)).1],must ts (eF ts (must ts (qe ts p) sEq)).2 qo):=(((((((if_neg hc0)).trans (if_neg (by rw [hkSend];decide))).trans (if_neg (by rw [hkIf];decide))).trans (if_neg (by rw [hkWhile];decide))).trans (if_neg (by rw [hkAtomic];decide))).trans (if_neg (by rw [hkSkip];decide))).trans (if_neg (by rw [hkStop];decide))
         have h1:=h.step (qai ht h.at_)
         have h2:=h1.step (qi ht h1.at_ sEq)
         have h3:=h2.step (qay ht _ h2.at_)
         rw [e5]
         (repeat' ((conv=>whnf);first|(refine qav (fun _=>rfl) (by kernel_rfl) 600 ?_)|fail))
         ((conv=>whnf);refine CallY.trip [0] (qhh ht h.at_) (by kernel_rfl) leA qa (by exact qb rfl) (by exact qb rfl) ?_)
         (repeat' ((conv=>whnf);first|refine Ob.auto ?_|fail))
         ((conv=>whnf);refine AltG.far 9 [2] (by kernel_rfl) farA (EndG.go ?_))
         ((conv=>whnf);refine zT 600 [0] (qaq ht h1.at_ sEq) qa ?_)
         ((conv=>whnf);refine qbe (fun _=>rfl) (by kernel_rfl) 600 [.turn [0] [.ptr 0 0] [pso ts (must ts (qe ts p) sEq)] (eF ts (must ts (qe ts p) sEq)).1.av [(0,pso ts (eF ts (must ts (qe ts p) sEq)).2)]] (by kernel_rfl) ?_)
         (repeat' ((conv=>whnf);first|refine Ob.auto ?_|refine Ob.intro ?_ ?_|fail))
         ·exact ⟨e_rd ht h2.full,by kernel_rfl,leA,qa,by exact qb rfl,by exact qb rfl⟩
         ((conv=>whnf);refine zT 600 [0] (qaq ht h3.at_ qo) qa ?_)
         (repeat' ((conv=>whnf);first|refine Ob.auto ?_|fail))
         (refine ⟨Le.agg ⟨Le.refl _,?_,?_,Le.refl _,Le.refl _,?_,trivial⟩,qa⟩ <;> first|exact Le.nils _ _|exact Le.refl _|exact ji rfl|exact jo rfl|exact jz rfl|exact jx rfl rfl|exact jy rfl rfl|exact qaa rfl rfl|exact qab rfl rfl rfl|exact qac (fun _ _=>rfl))
theorem s_rd (ht:ToksOk ts) (h:Pre ts n p):RdT ts 164 (sF ts) p:=jor ht _ p h.full
end
end Go.Proofs.YtcfllgdfhfcicaaGreatDoor
