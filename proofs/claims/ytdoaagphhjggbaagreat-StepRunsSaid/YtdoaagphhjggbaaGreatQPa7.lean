/- Contracts of the document's parser: statements. -/
import Derived.Test.YtdoaagphhjggbaaGreatQ13
import Derived.Test.YtdoaagphhjggbaaGreatQ2
namespace Go.Proofs.YtdoaagphhjggbaaGreat
open List renaming getD_eq_getElem?_getD → zd
open Go Go.Sx Go.RowKit Go.St Pa
set_option maxRecDepth 100000
set_option maxHeartbeats 8000000
section
variable {ts : List Lx.Tok} {p q : Ps} {n : Nat}
theorem Pre.less (h : Pre ts (n + 1) p) (k : Step ts (adv p) q) : Pre ts n q :=
 ⟨⟨by have := h.at_.lo; have : p.at_ + 1 ≤ q.at_ := k.le; omega, k.hi⟩, by have := h.deep; have : p.at_ + 1 ≤ q.at_ := k.le; have : q.deep = p.deep := k.deep; omega, by have := h.left; have : p.at_ + 1 ≤ q.at_ := k.le; omega⟩
theorem jlv (ht : ToksOk ts) : ∀ n q, Pre ts n q → RdT ts 145 (qe ts n) q := by
 intro n
 induction n with
 | zero => intro p h; have := h.left; have := h.at_.hi; omega
 | succ n ih =>
  intro p h
  have h2 := ht.len
  have hB := qqf ht (qjk ht n)
  have hbt : ∀ q, Pre ts n q → RdT ts 149 (qr ts (qe ts n)) q := by
   cases n with
   | zero => intro q hq; have := hq.left; have := hq.at_.hi; omega
   | succ m => exact fun q hq => jlu ht (qjk ht _) (qzu ht m) ih hq
  refine qby (T := tab Tryz.prog) (C := {}) 600 (fun _ => rfl) Tryz.func145 rfl (by kernel_rfl) (by kernel_rfl) (fun c0 rdb mpb => ?_)
  (repeat' ((conv => whnf); first | refine zE 600 (qjn h.at_ _) ?_ | fail))
  ((conv => whnf); refine zT 600 [0] (qtq ht h.at_ qdq) qa ?_)
  cases hi : sees ts p qdq with
  | true =>
   have e1 : took ts p qdq = adv p := if_pos hi
   have e2 : qgh ts p qdq = 1 := if_pos hi
   have hs1 := qh ht h.at_ hi
   have h1 := h.step hs1
   have e3 : qe ts (n + 1) p = qde ts (qr ts (qe ts n)) (tk ts p).pos 1 (adv p) := (if_pos (.inl hi)).trans (by rw [e1, e2])
   rw [e1, e2]
   (repeat' ((conv => whnf); first | refine Ob.auto ?_ | refine zF 600 (fun hg => qem h1.at_ _) ?_ | (apply zB <;> intro hb <;> (try simp [-zd] at hb) <;> try (exfalso; omega))))
   cases hr : sees ts (adv p) qdc with
   | true =>
    have e4 : qde ts (qr ts (qe ts n)) (tk ts p).pos 1 (adv p) = (.mk 8 [jz ts (adv (adv p)), jz ts (qf ts (adv (adv p)))] [1] (tk ts p).pos [], must ts (qf ts (qf ts (adv (adv p)))) qq) := if_pos hr
    rw [e3, e4]
    ((conv => whnf); refine zT 600 [0, 2] (jac ht h1 hr 1 (tk ts p).pos) (⟨SoLe.refl _, ⟨rfl, Le.refl _, Le.refl _, ji rfl, Le.refl _, Le.refl _, Le.refl _, trivial⟩, trivial⟩) ?_)
    (repeat' ((conv => whnf); first | refine Ob.auto ?_ | fail))
    (refine ⟨Le.agg ⟨Le.refl _, ?_, ?_, Le.refl _, Le.refl _, ?_, trivial⟩, qa⟩ <;> first | exact Le.nils _ _ | exact Le.refl _ | exact ji rfl | exact jt rfl | exact qad rfl | exact qab rfl rfl | exact qac rfl rfl | exact qae rfl rfl | exact qaf rfl rfl rfl | exact qag (fun _ _ => rfl))
   | false =>
    cases hw : sees ts (adv p) qek with
    | true =>
     have e4 : qde ts (qr ts (qe ts n)) (tk ts p).pos 1 (adv p) = (.mk 9 [] [1] (tk ts p).pos [(eF ts (adv (adv p))).1], must ts (eF ts (adv (adv p))).2 qq) := (if_neg (by rw [hr]; decide)).trans (if_pos hw)
     rw [e3, e4]
     ((conv => whnf); refine zT 600 [0, 2] (jad ht h1 hr hw 1 (tk ts p).pos) (⟨SoLe.refl _, ⟨rfl, Le.refl _, Le.refl _, ji rfl, Le.refl _, Le.refl _, Le.refl _, trivial⟩, trivial⟩) ?_)
     (repeat' ((conv => whnf); first | refine Ob.auto ?_ | fail))
     (refine ⟨Le.agg ⟨Le.refl _, ?_, ?_, Le.refl _, Le.refl _, ?_, trivial⟩, qa⟩ <;> first | exact Le.nils _ _ | exact Le.refl _ | exact ji rfl | exact jt rfl | exact qad rfl | exact qab rfl rfl | exact qac rfl rfl | exact qae rfl rfl | exact qaf rfl rfl rfl | exact qag (fun _ _ => rfl))
    | false =>
     have hq : Pre ts n (must ts (adv p) jc) := h.less (qj ht h1.at_ jc)
     have e4 : qde ts (qr ts (qe ts n)) (tk ts p).pos 1 (adv p) = (.mk 10 [] [1] (tk ts p).pos (orL ts (qr ts (qe ts n)) ts.length [(qr ts (qe ts n) (must ts (adv p) jc)).1] (qr ts (qe ts n) (must ts (adv p) jc)).2).1, (orL ts (qr ts (qe ts n)) ts.length [(qr ts (qe ts n) (must ts (adv p) jc)).1] (qr ts (qe ts n) (must ts (adv p) jc)).2).2) := (if_neg (by rw [hr]; decide)).trans (if_neg (by rw [hw]; decide))
     rw [e3, e4]
     ((conv => whnf); refine zT 600 [0, 2] (jae ht hB hbt h1 hq hr hw 1 (tk ts p).pos) (⟨SoLe.refl _, ⟨rfl, Le.refl _, Le.refl _, ji rfl, Le.refl _, Le.refl _, Le.refl _, trivial⟩, trivial⟩) ?_)
     (repeat' ((conv => whnf); first | refine Ob.auto ?_ | fail))
     (refine ⟨Le.agg ⟨Le.refl _, ?_, ?_, Le.refl _, Le.refl _, ?_, trivial⟩, qa⟩ <;> first | exact Le.nils _ _ | exact Le.refl _ | exact ji rfl | exact jt rfl | exact qad rfl | exact qab rfl rfl | exact qac rfl rfl | exact qae rfl rfl | exact qaf rfl rfl rfl | exact qag (fun _ _ => rfl))
  | false =>
   have e1 : took ts p qdq = p := if_neg (by rw [hi]; decide)
   have e2 : qgh ts p qdq = 0 := if_neg (by rw [hi]; decide)
   rw [e1, e2]
   (repeat' ((conv => whnf); first | refine Ob.auto ?_ | refine zF 600 (fun hg => qem h.at_ _) ?_ | (apply zB <;> intro hb <;> (try simp [-zd] at hb) <;> try (exfalso; omega))))
   ·have hcond : sees ts p qdq = true ∨ sees ts p qdc = true ∨ sees ts p qek = true ∨ sees ts p jc = true := by
     rcases hb with (hb | hb) | hb
     ·exact .inr (.inl hb)
     ·exact .inr (.inr (.inl hb))
     ·exact .inr (.inr (.inr hb))
    have e3 : qe ts (n + 1) p = qde ts (qr ts (qe ts n)) (tk ts p).pos 0 p := (if_pos hcond).trans (by rw [e1, e2])
    cases hr : sees ts p qdc with
    | true =>
     have e4 : qde ts (qr ts (qe ts n)) (tk ts p).pos 0 p = (.mk 8 [jz ts (adv p), jz ts (qf ts (adv p))] [0] (tk ts p).pos [], must ts (qf ts (qf ts (adv p))) qq) := if_pos hr
     rw [e3, e4]
     ((conv => whnf); refine zT 600 [0, 2] (jac ht h hr 0 (tk ts p).pos) (⟨SoLe.refl _, ⟨rfl, Le.refl _, Le.refl _, ji rfl, Le.refl _, Le.refl _, Le.refl _, trivial⟩, trivial⟩) ?_)
     (repeat' ((conv => whnf); first | refine Ob.auto ?_ | fail))
     (refine ⟨Le.agg ⟨Le.refl _, ?_, ?_, Le.refl _, Le.refl _, ?_, trivial⟩, qa⟩ <;> first | exact Le.nils _ _ | exact Le.refl _ | exact ji rfl | exact jt rfl | exact qad rfl | exact qab rfl rfl | exact qac rfl rfl | exact qae rfl rfl | exact qaf rfl rfl rfl | exact qag (fun _ _ => rfl))
    | false =>
     cases hw : sees ts p qek with
     | true =>
      have e4 : qde ts (qr ts (qe ts n)) (tk ts p).pos 0 p = (.mk 9 [] [0] (tk ts p).pos [(eF ts (adv p)).1], must ts (eF ts (adv p)).2 qq) := (if_neg (by rw [hr]; decide)).trans (if_pos hw)
      rw [e3, e4]
      ((conv => whnf); refine zT 600 [0, 2] (jad ht h hr hw 0 (tk ts p).pos) (⟨SoLe.refl _, ⟨rfl, Le.refl _, Le.refl _, ji rfl, Le.refl _, Le.refl _, Le.refl _, trivial⟩, trivial⟩) ?_)
      (repeat' ((conv => whnf); first | refine Ob.auto ?_ | fail))
      (refine ⟨Le.agg ⟨Le.refl _, ?_, ?_, Le.refl _, Le.refl _, ?_, trivial⟩, qa⟩ <;> first | exact Le.nils _ _ | exact Le.refl _ | exact ji rfl | exact jt rfl | exact qad rfl | exact qab rfl rfl | exact qac rfl rfl | exact qae rfl rfl | exact qaf rfl rfl rfl | exact qag (fun _ _ => rfl))
     | false =>
      have hch : sees ts p jc = true := by rcases hcond with hc | hc | hc | hc <;> simp_all
      have hq : Pre ts n (must ts p jc) := by rw [show must ts p jc = adv p from if_pos hch]; exact h.less (((qh ht h.at_ hch).ok h.at_).refl)
      have e4 : qde ts (qr ts (qe ts n)) (tk ts p).pos 0 p = (.mk 10 [] [0] (tk ts p).pos (orL ts (qr ts (qe ts n)) ts.length [(qr ts (qe ts n) (must ts p jc)).1] (qr ts (qe ts n) (must ts p jc)).2).1, (orL ts (qr ts (qe ts n)) ts.length [(qr ts (qe ts n) (must ts p jc)).1] (qr ts (qe ts n) (must ts p jc)).2).2) := (if_neg (by rw [hr]; decide)).trans (if_neg (by rw [hw]; decide))
      rw [e3, e4]
      ((conv => whnf); refine zT 600 [0, 2] (jae ht hB hbt h hq hr hw 0 (tk ts p).pos) (⟨SoLe.refl _, ⟨rfl, Le.refl _, Le.refl _, ji rfl, Le.refl _, Le.refl _, Le.refl _, trivial⟩, trivial⟩) ?_)
      (repeat' ((conv => whnf); first | refine Ob.auto ?_ | fail))
      (refine ⟨Le.agg ⟨Le.refl _, ?_, ?_, Le.refl _, Le.refl _, ?_, trivial⟩, qa⟩ <;> first | exact Le.nils _ _ | exact Le.refl _ | exact ji rfl | exact jt rfl | exact qad rfl | exact qab rfl rfl | exact qac rfl rfl | exact qae rfl rfl | exact qaf rfl rfl rfl | exact qag (fun _ _ => rfl))
   have hc0 : ¬ (sees ts p qdq = true ∨ sees ts p qdc = true ∨ sees ts p qek = true ∨ sees ts p jc = true) := by
    rw [hi, hb.1.1, hb.1.2, hb.2]; decide
   ((conv => whnf); refine zT 600 [0] (qaq ht h.at_ qmw) qa ?_)
   cases hkSend : sees ts p qmw with
   | true =>
    have tkSend : took ts p qmw = adv p := if_pos hkSend
    have hs1 := qh ht h.at_ hkSend
    have h1 : Pre ts n (adv p) := h.less ((hs1.ok h.at_).refl)
    rw [tkSend]
    (repeat' ((conv => whnf); first | (apply zB <;> intro hb <;> (try simp [-zd] at hb) <;> try (exfalso; omega))))
    have e5 : qe ts (n + 1) p = (.mk 7 [jz ts (adv p)] [] (tk ts p).pos [(eF ts (qf ts (adv p))).1], must ts (eF ts (qf ts (adv p))).2 qq) := ((if_neg hc0)).trans (if_pos hkSend)
    rw [e5]
    have h2 := h1.step (qam ht h1.at_)
    have h3 := h2.step (qba ht _ h2.at_)
    (repeat' ((conv => whnf); first | (refine qaw (fun _ => rfl) (by kernel_rfl) 600 ?_) | fail))
    ((conv => whnf); refine CallY.trip [0] (qhf ht h1.at_) (by kernel_rfl) leA qa (by exact qb rfl) (by exact qb rfl) ?_)
    (repeat' ((conv => whnf); first | refine Ob.auto ?_ | fail))
    ((conv => whnf); refine AltG.far 9 [2] (by kernel_rfl) farA (EndG.go ?_))
    ((conv => whnf); refine qaz (fun _ => rfl) (by kernel_rfl) 600 [.turn [0] [.ptr 0 0] [pso ts (qf ts (adv p))] (eF ts (qf ts (adv p))).1.av [(0, pso ts (eF ts (qf ts (adv p))).2)]] (by kernel_rfl) ?_)
    (repeat' ((conv => whnf); first | refine Ob.auto ?_ | refine Ob.intro ?_ ?_ | fail))
    ·exact ⟨e_rd ht h2.full, by kernel_rfl, leA, qa, by exact qb rfl, by exact qb rfl⟩
    (repeat' ((conv => whnf); first | exact trivial))
    ((conv => whnf); refine zT 600 [0] (qar ht h3.at_ qq) qa ?_)
    (repeat' ((conv => whnf); first | refine Ob.auto ?_ | fail))
    (refine ⟨Le.agg ⟨Le.refl _, ?_, ?_, Le.refl _, Le.refl _, ?_, trivial⟩, qa⟩ <;> first | exact Le.nils _ _ | exact Le.refl _ | exact ji rfl | exact jt rfl | exact qad rfl | exact qab rfl rfl | exact qac rfl rfl | exact qae rfl rfl | exact qaf rfl rfl rfl | exact qag (fun _ _ => rfl))
   | false =>
    have tkSend : took ts p qmw = p := if_neg (by rw [hkSend]; decide)
    rw [tkSend]
    (repeat' ((conv => whnf); first | (apply zB <;> intro hb <;> (try simp [-zd] at hb) <;> try (exfalso; omega))))
    ((conv => whnf); refine zT 600 [0] (qaq ht h.at_ kIf) qa ?_)
    cases hkIf : sees ts p kIf with
    | true =>
     have tkIf : took ts p kIf = adv p := if_pos hkIf
     have hs1 := qh ht h.at_ hkIf
     have h1 : Pre ts n (adv p) := h.less ((hs1.ok h.at_).refl)
     rw [tkIf]
     (repeat' ((conv => whnf); first | (apply zB <;> intro hb <;> (try simp [-zd] at hb) <;> try (exfalso; omega))))
     have h2 := h1.step (qba ht _ h1.at_)
     have h3 := h2.step (hB _ h2.at_)
     ((conv => whnf); refine qaz (fun _ => rfl) (by kernel_rfl) 600 [.turn [0] [.ptr 0 0] [pso ts (adv p)] (eF ts (adv p)).1.av [(0, pso ts (eF ts (adv p)).2)]] (by kernel_rfl) ?_)
     (repeat' ((conv => whnf); first | refine Ob.auto ?_ | refine Ob.intro ?_ ?_ | fail))
     ·exact ⟨e_rd ht h1.full, by kernel_rfl, leA, qa, by exact qb rfl, by exact qb rfl⟩
     ((conv => whnf); refine qaz (fun _ => rfl) (by kernel_rfl) 600 [.turn [0] [.ptr 0 0] [pso ts (eF ts (adv p)).2] (qr ts (qe ts n) (eF ts (adv p)).2).1.av [(0, pso ts (qr ts (qe ts n) (eF ts (adv p)).2).2)]] (by kernel_rfl) ?_)
     (repeat' ((conv => whnf); first | refine Ob.auto ?_ | refine Ob.intro ?_ ?_ | fail))
     ·exact ⟨hbt _ h2, by kernel_rfl, leA, qa, by exact qb rfl, by exact qb rfl⟩
     (repeat' ((conv => whnf); first | exact trivial))
     ((conv => whnf); refine zT 600 [0] (qaq ht h3.at_ qmx) qa ?_)
     cases hel : sees ts (qr ts (qe ts n) (eF ts (adv p)).2).2 qmx with
     | true =>
      have tel : took ts (qr ts (qe ts n) (eF ts (adv p)).2).2 qmx = adv (qr ts (qe ts n) (eF ts (adv p)).2).2 := if_pos hel
      have h4 := h3.step (qh ht h3.at_ hel)
      have e5 : qe ts (n + 1) p = (.mk 11 [] [] (tk ts p).pos [(eF ts (adv p)).1, (qr ts (qe ts n) (eF ts (adv p)).2).1, (qr ts (qe ts n) (adv (qr ts (qe ts n) (eF ts (adv p)).2).2)).1], (qr ts (qe ts n) (adv (qr ts (qe ts n) (eF ts (adv p)).2).2)).2) := (((if_neg hc0)).trans (if_neg (by rw [hkSend]; decide))).trans ((if_pos hkIf).trans (if_pos hel))
      rw [tel, e5]
      (repeat' ((conv => whnf); first | (apply zB <;> intro hb <;> (try simp [-zd] at hb) <;> try (exfalso; omega))))
      ((conv => whnf); refine qaz (fun _ => rfl) (by kernel_rfl) 600 [.turn [0] [.ptr 0 0] [pso ts (adv (qr ts (qe ts n) (eF ts (adv p)).2).2)] (qr ts (qe ts n) (adv (qr ts (qe ts n) (eF ts (adv p)).2).2)).1.av [(0, pso ts (qr ts (qe ts n) (adv (qr ts (qe ts n) (eF ts (adv p)).2).2)).2)]] (by kernel_rfl) ?_)
      (repeat' ((conv => whnf); first | refine Ob.auto ?_ | refine Ob.intro ?_ ?_ | fail))
      ·exact ⟨hbt _ h4, by kernel_rfl, leA, qa, by exact qb rfl, by exact qb rfl⟩
      (repeat' ((conv => whnf); first | exact trivial))
      (refine ⟨Le.agg ⟨Le.refl _, ?_, ?_, Le.refl _, Le.refl _, ?_, trivial⟩, qa⟩ <;> first | exact Le.nils _ _ | exact Le.refl _ | exact ji rfl | exact jt rfl | exact qad rfl | exact qab rfl rfl | exact qac rfl rfl | exact qae rfl rfl | exact qaf rfl rfl rfl | exact qag (fun _ _ => rfl))
     | false =>
      have tel : took ts (qr ts (qe ts n) (eF ts (adv p)).2).2 qmx = (qr ts (qe ts n) (eF ts (adv p)).2).2 := if_neg (by rw [hel]; decide)
      have e5 : qe ts (n + 1) p = (.mk 11 [] [] (tk ts p).pos [(eF ts (adv p)).1, (qr ts (qe ts n) (eF ts (adv p)).2).1], (qr ts (qe ts n) (eF ts (adv p)).2).2) := (((if_neg hc0)).trans (if_neg (by rw [hkSend]; decide))).trans ((if_pos hkIf).trans (if_neg (by rw [hel]; decide)))
      rw [tel, e5]
      (repeat' ((conv => whnf); first | refine Ob.auto ?_ | (apply zB <;> intro hb <;> (try simp [-zd] at hb) <;> try (exfalso; omega))))
      (refine ⟨Le.agg ⟨Le.refl _, ?_, ?_, Le.refl _, Le.refl _, ?_, trivial⟩, qa⟩ <;> first | exact Le.nils _ _ | exact Le.refl _ | exact ji rfl | exact jt rfl | exact qad rfl | exact qab rfl rfl | exact qac rfl rfl | exact qae rfl rfl | exact qaf rfl rfl rfl | exact qag (fun _ _ => rfl))
    | false =>
     have tkIf : took ts p kIf = p := if_neg (by rw [hkIf]; decide)
     rw [tkIf]
     (repeat' ((conv => whnf); first | (apply zB <;> intro hb <;> (try simp [-zd] at hb) <;> try (exfalso; omega))))
     ((conv => whnf); refine zT 600 [0] (qaq ht h.at_ qmy) qa ?_)
     cases hkWhile : sees ts p qmy with
     | true =>
      have tkWhile : took ts p qmy = adv p := if_pos hkWhile
      have hs1 := qh ht h.at_ hkWhile
      have h1 : Pre ts n (adv p) := h.less ((hs1.ok h.at_).refl)
      rw [tkWhile]
      (repeat' ((conv => whnf); first | (apply zB <;> intro hb <;> (try simp [-zd] at hb) <;> try (exfalso; omega))))
      have e5 : qe ts (n + 1) p = (.mk 12 [] [] (tk ts p).pos [(eF ts (adv p)).1, (qr ts (qe ts n) (eF ts (adv p)).2).1], (qr ts (qe ts n) (eF ts (adv p)).2).2) := ((((if_neg hc0)).trans (if_neg (by rw [hkSend]; decide))).trans (if_neg (by rw [hkIf]; decide))).trans (if_pos hkWhile)
      rw [e5]
      have h2 := h1.step (qba ht _ h1.at_)
      ((conv => whnf); refine qaz (fun _ => rfl) (by kernel_rfl) 600 [.turn [0] [.ptr 0 0] [pso ts (adv p)] (eF ts (adv p)).1.av [(0, pso ts (eF ts (adv p)).2)]] (by kernel_rfl) ?_)
      (repeat' ((conv => whnf); first | refine Ob.auto ?_ | refine Ob.intro ?_ ?_ | fail))
      ·exact ⟨e_rd ht h1.full, by kernel_rfl, leA, qa, by exact qb rfl, by exact qb rfl⟩
      ((conv => whnf); refine qaz (fun _ => rfl) (by kernel_rfl) 600 [.turn [0] [.ptr 0 0] [pso ts (eF ts (adv p)).2] (qr ts (qe ts n) (eF ts (adv p)).2).1.av [(0, pso ts (qr ts (qe ts n) (eF ts (adv p)).2).2)]] (by kernel_rfl) ?_)
      (repeat' ((conv => whnf); first | refine Ob.auto ?_ | refine Ob.intro ?_ ?_ | fail))
      ·exact ⟨hbt _ h2, by kernel_rfl, leA, qa, by exact qb rfl, by exact qb rfl⟩
      (repeat' ((conv => whnf); first | exact trivial))
      (refine ⟨Le.agg ⟨Le.refl _, ?_, ?_, Le.refl _, Le.refl _, ?_, trivial⟩, qa⟩ <;> first | exact Le.nils _ _ | exact Le.refl _ | exact ji rfl | exact jt rfl | exact qad rfl | exact qab rfl rfl | exact qac rfl rfl | exact qae rfl rfl | exact qaf rfl rfl rfl | exact qag (fun _ _ => rfl))
     | false =>
      have tkWhile : took ts p qmy = p := if_neg (by rw [hkWhile]; decide)
      rw [tkWhile]
      (repeat' ((conv => whnf); first | (apply zB <;> intro hb <;> (try simp [-zd] at hb) <;> try (exfalso; omega))))
      ((conv => whnf); refine zT 600 [0] (qaq ht h.at_ qmz) qa ?_)
      cases hkAtomic : sees ts p qmz with
      | true =>
       have tkAtomic : took ts p qmz = adv p := if_pos hkAtomic
       have hs1 := qh ht h.at_ hkAtomic
       have h1 : Pre ts n (adv p) := h.less ((hs1.ok h.at_).refl)
       rw [tkAtomic]
       (repeat' ((conv => whnf); first | (apply zB <;> intro hb <;> (try simp [-zd] at hb) <;> try (exfalso; omega))))
       have e5 : qe ts (n + 1) p = (.mk 13 [] [] (tk ts p).pos [(qr ts (qe ts n) (adv p)).1], (qr ts (qe ts n) (adv p)).2) := (((((if_neg hc0)).trans (if_neg (by rw [hkSend]; decide))).trans (if_neg (by rw [hkIf]; decide))).trans (if_neg (by rw [hkWhile]; decide))).trans (if_pos hkAtomic)
       rw [e5]
       ((conv => whnf); refine qaz (fun _ => rfl) (by kernel_rfl) 600 [.turn [0] [.ptr 0 0] [pso ts (adv p)] (qr ts (qe ts n) (adv p)).1.av [(0, pso ts (qr ts (qe ts n) (adv p)).2)]] (by kernel_rfl) ?_)
       (repeat' ((conv => whnf); first | refine Ob.auto ?_ | refine Ob.intro ?_ ?_ | fail))
       ·exact ⟨hbt _ h1, by kernel_rfl, leA, qa, by exact qb rfl, by exact qb rfl⟩
       (repeat' ((conv => whnf); first | exact trivial))
       (refine ⟨Le.agg ⟨Le.refl _, ?_, ?_, Le.refl _, Le.refl _, ?_, trivial⟩, qa⟩ <;> first | exact Le.nils _ _ | exact Le.refl _ | exact ji rfl | exact jt rfl | exact qad rfl | exact qab rfl rfl | exact qac rfl rfl | exact qae rfl rfl | exact qaf rfl rfl rfl | exact qag (fun _ _ => rfl))
      | false =>
       have tkAtomic : took ts p qmz = p := if_neg (by rw [hkAtomic]; decide)
       rw [tkAtomic]
       (repeat' ((conv => whnf); first | (apply zB <;> intro hb <;> (try simp [-zd] at hb) <;> try (exfalso; omega))))
       ((conv => whnf); refine zT 600 [0] (qaq ht h.at_ qna) qa ?_)
       cases hkSkip : sees ts p qna with
       | true =>
        have tkSkip : took ts p qna = adv p := if_pos hkSkip
        have hs1 := qh ht h.at_ hkSkip
        have h1 : Pre ts n (adv p) := h.less ((hs1.ok h.at_).refl)
        rw [tkSkip]
        (repeat' ((conv => whnf); first | (apply zB <;> intro hb <;> (try simp [-zd] at hb) <;> try (exfalso; omega))))
        have e5 : qe ts (n + 1) p = (.mk 14 [] [] (tk ts p).pos [], must ts (adv p) qq) := ((((((if_neg hc0)).trans (if_neg (by rw [hkSend]; decide))).trans (if_neg (by rw [hkIf]; decide))).trans (if_neg (by rw [hkWhile]; decide))).trans (if_neg (by rw [hkAtomic]; decide))).trans (if_pos hkSkip)
        rw [e5]
        (repeat' ((conv => whnf); first | exact trivial))
        ((conv => whnf); refine zT 600 [0] (qar ht h1.at_ qq) qa ?_)
        (repeat' ((conv => whnf); first | refine Ob.auto ?_ | fail))
        (refine ⟨Le.agg ⟨Le.refl _, ?_, ?_, Le.refl _, Le.refl _, ?_, trivial⟩, qa⟩ <;> first | exact Le.nils _ _ | exact Le.refl _ | exact ji rfl | exact jt rfl | exact qad rfl | exact qab rfl rfl | exact qac rfl rfl | exact qae rfl rfl | exact qaf rfl rfl rfl | exact qag (fun _ _ => rfl))
       | false =>
        have tkSkip : took ts p qna = p := if_neg (by rw [hkSkip]; decide)
        rw [tkSkip]
        (repeat' ((conv => whnf); first | (apply zB <;> intro hb <;> (try simp [-zd] at hb) <;> try (exfalso; omega))))
        ((conv => whnf); refine zT 600 [0] (qaq ht h.at_ qnb) qa ?_)
        cases hkStop : sees ts p qnb with
        | true =>
         have tkStop : took ts p qnb = adv p := if_pos hkStop
         have hs1 := qh ht h.at_ hkStop
         have h1 : Pre ts n (adv p) := h.less ((hs1.ok h.at_).refl)
         rw [tkStop]
         (repeat' ((conv => whnf); first | (apply zB <;> intro hb <;> (try simp [-zd] at hb) <;> try (exfalso; omega))))
         have e5 : qe ts (n + 1) p = (.mk 15 [] [] (tk ts p).pos [], must ts (adv p) qq) := (((((((if_neg hc0)).trans (if_neg (by rw [hkSend]; decide))).trans (if_neg (by rw [hkIf]; decide))).trans (if_neg (by rw [hkWhile]; decide))).trans (if_neg (by rw [hkAtomic]; decide))).trans (if_neg (by rw [hkSkip]; decide))).trans (if_pos hkStop)
         rw [e5]
         (repeat' ((conv => whnf); first | exact trivial))
         ((conv => whnf); refine zT 600 [0] (qar ht h1.at_ qq) qa ?_)
         (repeat' ((conv => whnf); first | refine Ob.auto ?_ | fail))
         (refine ⟨Le.agg ⟨Le.refl _, ?_, ?_, Le.refl _, Le.refl _, ?_, trivial⟩, qa⟩ <;> first | exact Le.nils _ _ | exact Le.refl _ | exact ji rfl | exact jt rfl | exact qad rfl | exact qab rfl rfl | exact qac rfl rfl | exact qae rfl rfl | exact qaf rfl rfl rfl | exact qag (fun _ _ => rfl))
        | false =>
         have tkStop : took ts p qnb = p := if_neg (by rw [hkStop]; decide)
         rw [tkStop]
         (repeat' ((conv => whnf); first | (apply zB <;> intro hb <;> (try simp [-zd] at hb) <;> try (exfalso; omega))))
         have e5 : qe ts (n + 1) p = (.mk 6 [jz ts p] [] (tk ts p).pos [(eF ts (must ts (qf ts p) sEq)).1], must ts (eF ts (must ts (qf ts p) sEq)).2 qq) := (((((((if_neg hc0)).trans (if_neg (by rw [hkSend]; decide))).trans (if_neg (by rw [hkIf]; decide))).trans (if_neg (by rw [hkWhile]; decide))).trans (if_neg (by rw [hkAtomic]; decide))).trans (if_neg (by rw [hkSkip]; decide))).trans (if_neg (by rw [hkStop]; decide))
         have h1 := h.step (qam ht h.at_)
         have h2 := h1.step (qj ht h1.at_ sEq)
         have h3 := h2.step (qba ht _ h2.at_)
         rw [e5]
         (repeat' ((conv => whnf); first | (refine qaw (fun _ => rfl) (by kernel_rfl) 600 ?_) | fail))
         ((conv => whnf); refine CallY.trip [0] (qhf ht h.at_) (by kernel_rfl) leA qa (by exact qb rfl) (by exact qb rfl) ?_)
         (repeat' ((conv => whnf); first | refine Ob.auto ?_ | fail))
         ((conv => whnf); refine AltG.far 9 [2] (by kernel_rfl) farA (EndG.go ?_))
         (repeat' ((conv => whnf); first | exact trivial))
         ((conv => whnf); refine zT 600 [0] (qar ht h1.at_ sEq) qa ?_)
         (repeat' ((conv => whnf); first | exact trivial))
         ((conv => whnf); refine qaz (fun _ => rfl) (by kernel_rfl) 600 [.turn [0] [.ptr 0 0] [pso ts (must ts (qf ts p) sEq)] (eF ts (must ts (qf ts p) sEq)).1.av [(0, pso ts (eF ts (must ts (qf ts p) sEq)).2)]] (by kernel_rfl) ?_)
         (repeat' ((conv => whnf); first | refine Ob.auto ?_ | refine Ob.intro ?_ ?_ | fail))
         ·exact ⟨e_rd ht h2.full, by kernel_rfl, leA, qa, by exact qb rfl, by exact qb rfl⟩
         (repeat' ((conv => whnf); first | exact trivial))
         ((conv => whnf); refine zT 600 [0] (qar ht h3.at_ qq) qa ?_)
         (repeat' ((conv => whnf); first | refine Ob.auto ?_ | fail))
         (refine ⟨Le.agg ⟨Le.refl _, ?_, ?_, Le.refl _, Le.refl _, ?_, trivial⟩, qa⟩ <;> first | exact Le.nils _ _ | exact Le.refl _ | exact ji rfl | exact jt rfl | exact qad rfl | exact qab rfl rfl | exact qac rfl rfl | exact qae rfl rfl | exact qaf rfl rfl rfl | exact qag (fun _ _ => rfl))
theorem s_rd (ht : ToksOk ts) (h : Pre ts n p) : RdT ts 145 (sF ts) p := jlv ht _ p h.full
end
end Go.Proofs.YtdoaagphhjggbaaGreat
