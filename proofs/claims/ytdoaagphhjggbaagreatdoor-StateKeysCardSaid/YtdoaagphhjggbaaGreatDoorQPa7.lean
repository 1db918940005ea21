/- Contracts of the document's parser: statements. -/
import Derived.Test.YtdoaagphhjggbaaGreatDoorQPa6
import Derived.Test.YtdoaagphhjggbaaGreatDoorQ2
namespace Go.Proofs.YtdoaagphhjggbaaGreatDoor
open List renaming getD_eq_getElem?_getD → zd
open Go Go.Sx Go.RowKit Go.St Pa
set_option maxRecDepth 100000
set_option maxHeartbeats 8000000
section
variable {ts : List Lx.Tok} {p q : Ps} {n : Nat}
theorem Pre.less (h : Pre ts (n + 1) p) (k : Step ts (adv p) q) : Pre ts n q :=
 ⟨⟨by have := h.at_.lo; have : p.at_ + 1 ≤ q.at_ := k.le; omega, k.hi⟩, by have := h.deep; have : p.at_ + 1 ≤ q.at_ := k.le; have : q.deep = p.deep := k.deep; omega, by have := h.left; have : p.at_ + 1 ≤ q.at_ := k.le; omega⟩
theorem jlv (ht : ToksOk ts) : ∀ n q, Pre ts n q → RdT ts 105 (qc ts n) q := by
 intro n
 induction n with
 | zero => intro p h; have := h.left; have := h.at_.hi; omega
 | succ n ih =>
  intro p h
  have h2 := ht.len
  have hB := qph ht (qil ht n)
  have hbt : ∀ q, Pre ts n q → RdT ts 111 (qm ts (qc ts n)) q := by
   cases n with
   | zero => intro q hq; have := hq.left; have := hq.at_.hi; omega
   | succ m => exact fun q hq => jlu ht (qil ht _) (jah ht m) ih hq
  refine zM {} 600 Tryz.func105 (fun c0 rdb mpb => ?_)
  (repeat' ((conv => whnf); first | refine zE 600 (qio h.at_ _) ?_ | fail))
  ((conv => whnf); refine zT 600 [0] (qtf ht h.at_ qdb) qa ?_)
  cases hi : sees ts p qdb with
  | true =>
   have e1 : took ts p qdb = adv p := if_pos hi
   have e2 : qfj ts p qdb = 1 := if_pos hi
   have hs1 := qf ht h.at_ hi
   have h1 := h.step hs1
   have e3 : qc ts (n + 1) p = qcs ts (qm ts (qc ts n)) (tk ts p).pos 1 (adv p) := (if_pos (.inl hi)).trans (by rw [e1, e2])
   rw [e1, e2]
   (repeat' ((conv => whnf); first | refine Ob.auto ?_ | refine zF 600 (fun hg => qdx h1.at_ _) ?_ | (apply zB <;> intro hb <;> (try simp [-zd] at hb) <;> try (exfalso; omega))))
   cases hr : sees ts (adv p) qcq with
   | true =>
    have e4 : qcs ts (qm ts (qc ts n)) (tk ts p).pos 1 (adv p) = (.mk 8 [jp ts (adv (adv p)), jp ts (qd ts (adv (adv p)))] [1] (tk ts p).pos [], must ts (qd ts (qd ts (adv (adv p)))) ql) := if_pos hr
    rw [e3, e4]
    ((conv => whnf); refine zT 600 [0, 2] (jap ht h1 hr 1 (tk ts p).pos) (⟨SoLe.refl _, ⟨rfl, Le.refl _, Le.refl _, je rfl, Le.refl _, Le.refl _, Le.refl _, trivial⟩, trivial⟩) ?_)
    (repeat' ((conv => whnf); first | refine Ob.auto ?_ | fail))
    (refine ⟨Le.agg ⟨Le.refl _, ?_, ?_, Le.refl _, Le.refl _, ?_, trivial⟩, qa⟩ <;> first | exact Le.nils _ _ | exact Le.refl _ | exact je rfl | exact jl rfl | exact ju rfl | exact js rfl rfl | exact jt rfl rfl | exact jv rfl rfl | exact jx rfl rfl rfl | exact jy (fun _ _ => rfl))
   | false =>
    cases hw : sees ts (adv p) qdv with
    | true =>
     have e4 : qcs ts (qm ts (qc ts n)) (tk ts p).pos 1 (adv p) = (.mk 9 [] [1] (tk ts p).pos [(eF ts (adv (adv p))).1], must ts (eF ts (adv (adv p))).2 ql) := (if_neg (by rw [hr]; decide)).trans (if_pos hw)
     rw [e3, e4]
     ((conv => whnf); refine zT 600 [0, 2] (jaq ht h1 hr hw 1 (tk ts p).pos) (⟨SoLe.refl _, ⟨rfl, Le.refl _, Le.refl _, je rfl, Le.refl _, Le.refl _, Le.refl _, trivial⟩, trivial⟩) ?_)
     (repeat' ((conv => whnf); first | refine Ob.auto ?_ | fail))
     (refine ⟨Le.agg ⟨Le.refl _, ?_, ?_, Le.refl _, Le.refl _, ?_, trivial⟩, qa⟩ <;> first | exact Le.nils _ _ | exact Le.refl _ | exact je rfl | exact jl rfl | exact ju rfl | exact js rfl rfl | exact jt rfl rfl | exact jv rfl rfl | exact jx rfl rfl rfl | exact jy (fun _ _ => rfl))
    | false =>
     have hq : Pre ts n (must ts (adv p) qx) := h.less (qi ht h1.at_ qx)
     have e4 : qcs ts (qm ts (qc ts n)) (tk ts p).pos 1 (adv p) = (.mk 10 [] [1] (tk ts p).pos (orL ts (qm ts (qc ts n)) ts.length [(qm ts (qc ts n) (must ts (adv p) qx)).1] (qm ts (qc ts n) (must ts (adv p) qx)).2).1, (orL ts (qm ts (qc ts n)) ts.length [(qm ts (qc ts n) (must ts (adv p) qx)).1] (qm ts (qc ts n) (must ts (adv p) qx)).2).2) := (if_neg (by rw [hr]; decide)).trans (if_neg (by rw [hw]; decide))
     rw [e3, e4]
     ((conv => whnf); refine zT 600 [0, 2] (jar ht hB hbt h1 hq hr hw 1 (tk ts p).pos) (⟨SoLe.refl _, ⟨rfl, Le.refl _, Le.refl _, je rfl, Le.refl _, Le.refl _, Le.refl _, trivial⟩, trivial⟩) ?_)
     (repeat' ((conv => whnf); first | refine Ob.auto ?_ | fail))
     (refine ⟨Le.agg ⟨Le.refl _, ?_, ?_, Le.refl _, Le.refl _, ?_, trivial⟩, qa⟩ <;> first | exact Le.nils _ _ | exact Le.refl _ | exact je rfl | exact jl rfl | exact ju rfl | exact js rfl rfl | exact jt rfl rfl | exact jv rfl rfl | exact jx rfl rfl rfl | exact jy (fun _ _ => rfl))
  | false =>
   have e1 : took ts p qdb = p := if_neg (by rw [hi]; decide)
   have e2 : qfj ts p qdb = 0 := if_neg (by rw [hi]; decide)
   rw [e1, e2]
   (repeat' ((conv => whnf); first | refine Ob.auto ?_ | refine zF 600 (fun hg => qdx h.at_ _) ?_ | (apply zB <;> intro hb <;> (try simp [-zd] at hb) <;> try (exfalso; omega))))
   ·have hcond : sees ts p qdb = true ∨ sees ts p qcq = true ∨ sees ts p qdv = true ∨ sees ts p qx = true := by
     rcases hb with (hb | hb) | hb
     ·exact .inr (.inl hb)
     ·exact .inr (.inr (.inl hb))
     ·exact .inr (.inr (.inr hb))
    have e3 : qc ts (n + 1) p = qcs ts (qm ts (qc ts n)) (tk ts p).pos 0 p := (if_pos hcond).trans (by rw [e1, e2])
    cases hr : sees ts p qcq with
    | true =>
     have e4 : qcs ts (qm ts (qc ts n)) (tk ts p).pos 0 p = (.mk 8 [jp ts (adv p), jp ts (qd ts (adv p))] [0] (tk ts p).pos [], must ts (qd ts (qd ts (adv p))) ql) := if_pos hr
     rw [e3, e4]
     ((conv => whnf); refine zT 600 [0, 2] (jap ht h hr 0 (tk ts p).pos) (⟨SoLe.refl _, ⟨rfl, Le.refl _, Le.refl _, je rfl, Le.refl _, Le.refl _, Le.refl _, trivial⟩, trivial⟩) ?_)
     (repeat' ((conv => whnf); first | refine Ob.auto ?_ | fail))
     (refine ⟨Le.agg ⟨Le.refl _, ?_, ?_, Le.refl _, Le.refl _, ?_, trivial⟩, qa⟩ <;> first | exact Le.nils _ _ | exact Le.refl _ | exact je rfl | exact jl rfl | exact ju rfl | exact js rfl rfl | exact jt rfl rfl | exact jv rfl rfl | exact jx rfl rfl rfl | exact jy (fun _ _ => rfl))
    | false =>
     cases hw : sees ts p qdv with
     | true =>
      have e4 : qcs ts (qm ts (qc ts n)) (tk ts p).pos 0 p = (.mk 9 [] [0] (tk ts p).pos [(eF ts (adv p)).1], must ts (eF ts (adv p)).2 ql) := (if_neg (by rw [hr]; decide)).trans (if_pos hw)
      rw [e3, e4]
      ((conv => whnf); refine zT 600 [0, 2] (jaq ht h hr hw 0 (tk ts p).pos) (⟨SoLe.refl _, ⟨rfl, Le.refl _, Le.refl _, je rfl, Le.refl _, Le.refl _, Le.refl _, trivial⟩, trivial⟩) ?_)
      (repeat' ((conv => whnf); first | refine Ob.auto ?_ | fail))
      (refine ⟨Le.agg ⟨Le.refl _, ?_, ?_, Le.refl _, Le.refl _, ?_, trivial⟩, qa⟩ <;> first | exact Le.nils _ _ | exact Le.refl _ | exact je rfl | exact jl rfl | exact ju rfl | exact js rfl rfl | exact jt rfl rfl | exact jv rfl rfl | exact jx rfl rfl rfl | exact jy (fun _ _ => rfl))
     | false =>
      have hch : sees ts p qx = true := by rcases hcond with hc | hc | hc | hc <;> simp_all
      have hq : Pre ts n (must ts p qx) := by rw [show must ts p qx = adv p from if_pos hch]; exact h.less (((qf ht h.at_ hch).ok h.at_).refl)
      have e4 : qcs ts (qm ts (qc ts n)) (tk ts p).pos 0 p = (.mk 10 [] [0] (tk ts p).pos (orL ts (qm ts (qc ts n)) ts.length [(qm ts (qc ts n) (must ts p qx)).1] (qm ts (qc ts n) (must ts p qx)).2).1, (orL ts (qm ts (qc ts n)) ts.length [(qm ts (qc ts n) (must ts p qx)).1] (qm ts (qc ts n) (must ts p qx)).2).2) := (if_neg (by rw [hr]; decide)).trans (if_neg (by rw [hw]; decide))
      rw [e3, e4]
      ((conv => whnf); refine zT 600 [0, 2] (jar ht hB hbt h hq hr hw 0 (tk ts p).pos) (⟨SoLe.refl _, ⟨rfl, Le.refl _, Le.refl _, je rfl, Le.refl _, Le.refl _, Le.refl _, trivial⟩, trivial⟩) ?_)
      (repeat' ((conv => whnf); first | refine Ob.auto ?_ | fail))
      (refine ⟨Le.agg ⟨Le.refl _, ?_, ?_, Le.refl _, Le.refl _, ?_, trivial⟩, qa⟩ <;> first | exact Le.nils _ _ | exact Le.refl _ | exact je rfl | exact jl rfl | exact ju rfl | exact js rfl rfl | exact jt rfl rfl | exact jv rfl rfl | exact jx rfl rfl rfl | exact jy (fun _ _ => rfl))
   have hc0 : ¬ (sees ts p qdb = true ∨ sees ts p qcq = true ∨ sees ts p qdv = true ∨ sees ts p qx = true) := by
    rw [hi, hb.1.1, hb.1.2, hb.2]; decide
   ((conv => whnf); refine zT 600 [0] (qag ht h.at_ qly) qa ?_)
   cases hkSend : sees ts p qly with
   | true =>
    have tkSend : took ts p qly = adv p := if_pos hkSend
    have hs1 := qf ht h.at_ hkSend
    have h1 : Pre ts n (adv p) := h.less ((hs1.ok h.at_).refl)
    rw [tkSend]
    (repeat' ((conv => whnf); first | (apply zB <;> intro hb <;> (try simp [-zd] at hb) <;> try (exfalso; omega))))
    have e5 : qc ts (n + 1) p = (.mk 7 [jp ts (adv p)] [] (tk ts p).pos [(eF ts (qd ts (adv p))).1], must ts (eF ts (qd ts (adv p))).2 ql) := ((if_neg hc0)).trans (if_pos hkSend)
    rw [e5]
    have h2 := h1.step (qad ht h1.at_)
    have h3 := h2.step (qat ht _ h2.at_)
    (repeat' ((conv => whnf); first | (refine qap (fun _ => rfl) (by kernel_rfl) 600 ?_) | fail))
    ((conv => whnf); refine CallY.trip [0] (qgm ht h1.at_) (by kernel_rfl) leA qa (by exact qb rfl) (by exact qb rfl) ?_)
    (repeat' ((conv => whnf); first | refine Ob.auto ?_ | fail))
    ((conv => whnf); refine AltG.far 9 [2] (by kernel_rfl) farA (EndG.go ?_))
    ((conv => whnf); refine qbk (fun _ => rfl) (by kernel_rfl) 600 [.turn [0] [.ptr 0 0] [pso ts (qd ts (adv p))] (eF ts (qd ts (adv p))).1.av [(0, pso ts (eF ts (qd ts (adv p))).2)]] (by kernel_rfl) ?_)
    (repeat' ((conv => whnf); first | refine Ob.auto ?_ | refine Ob.intro ?_ ?_ | fail))
    ·exact ⟨e_rd ht h2.full, by kernel_rfl, leA, qa, by exact qb rfl, by exact qb rfl⟩
    ((conv => whnf); refine zT 600 [0] (qaj ht h3.at_ ql) qa ?_)
    (repeat' ((conv => whnf); first | refine Ob.auto ?_ | fail))
    (refine ⟨Le.agg ⟨Le.refl _, ?_, ?_, Le.refl _, Le.refl _, ?_, trivial⟩, qa⟩ <;> first | exact Le.nils _ _ | exact Le.refl _ | exact je rfl | exact jl rfl | exact ju rfl | exact js rfl rfl | exact jt rfl rfl | exact jv rfl rfl | exact jx rfl rfl rfl | exact jy (fun _ _ => rfl))
   | false =>
    have tkSend : took ts p qly = p := if_neg (by rw [hkSend]; decide)
    rw [tkSend]
    (repeat' ((conv => whnf); first | (apply zB <;> intro hb <;> (try simp [-zd] at hb) <;> try (exfalso; omega))))
    ((conv => whnf); refine zT 600 [0] (qag ht h.at_ kIf) qa ?_)
    cases hkIf : sees ts p kIf with
    | true =>
     have tkIf : took ts p kIf = adv p := if_pos hkIf
     have hs1 := qf ht h.at_ hkIf
     have h1 : Pre ts n (adv p) := h.less ((hs1.ok h.at_).refl)
     rw [tkIf]
     (repeat' ((conv => whnf); first | (apply zB <;> intro hb <;> (try simp [-zd] at hb) <;> try (exfalso; omega))))
     have h2 := h1.step (qat ht _ h1.at_)
     have h3 := h2.step (hB _ h2.at_)
     ((conv => whnf); refine qbk (fun _ => rfl) (by kernel_rfl) 600 [.turn [0] [.ptr 0 0] [pso ts (adv p)] (eF ts (adv p)).1.av [(0, pso ts (eF ts (adv p)).2)]] (by kernel_rfl) ?_)
     (repeat' ((conv => whnf); first | refine Ob.auto ?_ | refine Ob.intro ?_ ?_ | fail))
     ·exact ⟨e_rd ht h1.full, by kernel_rfl, leA, qa, by exact qb rfl, by exact qb rfl⟩
     ((conv => whnf); refine qbk (fun _ => rfl) (by kernel_rfl) 600 [.turn [0] [.ptr 0 0] [pso ts (eF ts (adv p)).2] (qm ts (qc ts n) (eF ts (adv p)).2).1.av [(0, pso ts (qm ts (qc ts n) (eF ts (adv p)).2).2)]] (by kernel_rfl) ?_)
     (repeat' ((conv => whnf); first | refine Ob.auto ?_ | refine Ob.intro ?_ ?_ | fail))
     ·exact ⟨hbt _ h2, by kernel_rfl, leA, qa, by exact qb rfl, by exact qb rfl⟩
     ((conv => whnf); refine zT 600 [0] (qag ht h3.at_ qlz) qa ?_)
     cases hel : sees ts (qm ts (qc ts n) (eF ts (adv p)).2).2 qlz with
     | true =>
      have tel : took ts (qm ts (qc ts n) (eF ts (adv p)).2).2 qlz = adv (qm ts (qc ts n) (eF ts (adv p)).2).2 := if_pos hel
      have h4 := h3.step (qf ht h3.at_ hel)
      have e5 : qc ts (n + 1) p = (.mk 11 [] [] (tk ts p).pos [(eF ts (adv p)).1, (qm ts (qc ts n) (eF ts (adv p)).2).1, (qm ts (qc ts n) (adv (qm ts (qc ts n) (eF ts (adv p)).2).2)).1], (qm ts (qc ts n) (adv (qm ts (qc ts n) (eF ts (adv p)).2).2)).2) := (((if_neg hc0)).trans (if_neg (by rw [hkSend]; decide))).trans ((if_pos hkIf).trans (if_pos hel))
      rw [tel, e5]
      (repeat' ((conv => whnf); first | (apply zB <;> intro hb <;> (try simp [-zd] at hb) <;> try (exfalso; omega))))
      ((conv => whnf); refine qbk (fun _ => rfl) (by kernel_rfl) 600 [.turn [0] [.ptr 0 0] [pso ts (adv (qm ts (qc ts n) (eF ts (adv p)).2).2)] (qm ts (qc ts n) (adv (qm ts (qc ts n) (eF ts (adv p)).2).2)).1.av [(0, pso ts (qm ts (qc ts n) (adv (qm ts (qc ts n) (eF ts (adv p)).2).2)).2)]] (by kernel_rfl) ?_)
      (repeat' ((conv => whnf); first | refine Ob.auto ?_ | refine Ob.intro ?_ ?_ | fail))
      ·exact ⟨hbt _ h4, by kernel_rfl, leA, qa, by exact qb rfl, by exact qb rfl⟩
      (refine ⟨Le.agg ⟨Le.refl _, ?_, ?_, Le.refl _, Le.refl _, ?_, trivial⟩, qa⟩ <;> first | exact Le.nils _ _ | exact Le.refl _ | exact je rfl | exact jl rfl | exact ju rfl | exact js rfl rfl | exact jt rfl rfl | exact jv rfl rfl | exact jx rfl rfl rfl | exact jy (fun _ _ => rfl))
     | false =>
      have tel : took ts (qm ts (qc ts n) (eF ts (adv p)).2).2 qlz = (qm ts (qc ts n) (eF ts (adv p)).2).2 := if_neg (by rw [hel]; decide)
      have e5 : qc ts (n + 1) p = (.mk 11 [] [] (tk ts p).pos [(eF ts (adv p)).1, (qm ts (qc ts n) (eF ts (adv p)).2).1], (qm ts (qc ts n) (eF ts (adv p)).2).2) := (((if_neg hc0)).trans (if_neg (by rw [hkSend]; decide))).trans ((if_pos hkIf).trans (if_neg (by rw [hel]; decide)))
      rw [tel, e5]
      (repeat' ((conv => whnf); first | refine Ob.auto ?_ | (apply zB <;> intro hb <;> (try simp [-zd] at hb) <;> try (exfalso; omega))))
      (refine ⟨Le.agg ⟨Le.refl _, ?_, ?_, Le.refl _, Le.refl _, ?_, trivial⟩, qa⟩ <;> first | exact Le.nils _ _ | exact Le.refl _ | exact je rfl | exact jl rfl | exact ju rfl | exact js rfl rfl | exact jt rfl rfl | exact jv rfl rfl | exact jx rfl rfl rfl | exact jy (fun _ _ => rfl))
    | false =>
     have tkIf : took ts p kIf = p := if_neg (by rw [hkIf]; decide)
     rw [tkIf]
     (repeat' ((conv => whnf); first | (apply zB <;> intro hb <;> (try simp [-zd] at hb) <;> try (exfalso; omega))))
     ((conv => whnf); refine zT 600 [0] (qag ht h.at_ qma) qa ?_)
     cases hkWhile : sees ts p qma with
     | true =>
      have tkWhile : took ts p qma = adv p := if_pos hkWhile
      have hs1 := qf ht h.at_ hkWhile
      have h1 : Pre ts n (adv p) := h.less ((hs1.ok h.at_).refl)
      rw [tkWhile]
      (repeat' ((conv => whnf); first | (apply zB <;> intro hb <;> (try simp [-zd] at hb) <;> try (exfalso; omega))))
      have e5 : qc ts (n + 1) p = (.mk 12 [] [] (tk ts p).pos [(eF ts (adv p)).1, (qm ts (qc ts n) (eF ts (adv p)).2).1], (qm ts (qc ts n) (eF ts (adv p)).2).2) := ((((if_neg hc0)).trans (if_neg (by rw [hkSend]; decide))).trans (if_neg (by rw [hkIf]; decide))).trans (if_pos hkWhile)
      rw [e5]
      have h2 := h1.step (qat ht _ h1.at_)
      ((conv => whnf); refine qbk (fun _ => rfl) (by kernel_rfl) 600 [.turn [0] [.ptr 0 0] [pso ts (adv p)] (eF ts (adv p)).1.av [(0, pso ts (eF ts (adv p)).2)]] (by kernel_rfl) ?_)
      (repeat' ((conv => whnf); first | refine Ob.auto ?_ | refine Ob.intro ?_ ?_ | fail))
      ·exact ⟨e_rd ht h1.full, by kernel_rfl, leA, qa, by exact qb rfl, by exact qb rfl⟩
      ((conv => whnf); refine qbk (fun _ => rfl) (by kernel_rfl) 600 [.turn [0] [.ptr 0 0] [pso ts (eF ts (adv p)).2] (qm ts (qc ts n) (eF ts (adv p)).2).1.av [(0, pso ts (qm ts (qc ts n) (eF ts (adv p)).2).2)]] (by kernel_rfl) ?_)
      (repeat' ((conv => whnf); first | refine Ob.auto ?_ | refine Ob.intro ?_ ?_ | fail))
      ·exact ⟨hbt _ h2, by kernel_rfl, leA, qa, by exact qb rfl, by exact qb rfl⟩
      (refine ⟨Le.agg ⟨Le.refl _, ?_, ?_, Le.refl _, Le.refl _, ?_, trivial⟩, qa⟩ <;> first | exact Le.nils _ _ | exact Le.refl _ | exact je rfl | exact jl rfl | exact ju rfl | exact js rfl rfl | exact jt rfl rfl | exact jv rfl rfl | exact jx rfl rfl rfl | exact jy (fun _ _ => rfl))
     | false =>
      have tkWhile : took ts p qma = p := if_neg (by rw [hkWhile]; decide)
      rw [tkWhile]
      (repeat' ((conv => whnf); first | (apply zB <;> intro hb <;> (try simp [-zd] at hb) <;> try (exfalso; omega))))
      ((conv => whnf); refine zT 600 [0] (qag ht h.at_ qmb) qa ?_)
      cases hkAtomic : sees ts p qmb with
      | true =>
       have tkAtomic : took ts p qmb = adv p := if_pos hkAtomic
       have hs1 := qf ht h.at_ hkAtomic
       have h1 : Pre ts n (adv p) := h.less ((hs1.ok h.at_).refl)
       rw [tkAtomic]
       (repeat' ((conv => whnf); first | (apply zB <;> intro hb <;> (try simp [-zd] at hb) <;> try (exfalso; omega))))
       have e5 : qc ts (n + 1) p = (.mk 13 [] [] (tk ts p).pos [(qm ts (qc ts n) (adv p)).1], (qm ts (qc ts n) (adv p)).2) := (((((if_neg hc0)).trans (if_neg (by rw [hkSend]; decide))).trans (if_neg (by rw [hkIf]; decide))).trans (if_neg (by rw [hkWhile]; decide))).trans (if_pos hkAtomic)
       rw [e5]
       ((conv => whnf); refine qbk (fun _ => rfl) (by kernel_rfl) 600 [.turn [0] [.ptr 0 0] [pso ts (adv p)] (qm ts (qc ts n) (adv p)).1.av [(0, pso ts (qm ts (qc ts n) (adv p)).2)]] (by kernel_rfl) ?_)
       (repeat' ((conv => whnf); first | refine Ob.auto ?_ | refine Ob.intro ?_ ?_ | fail))
       ·exact ⟨hbt _ h1, by kernel_rfl, leA, qa, by exact qb rfl, by exact qb rfl⟩
       (refine ⟨Le.agg ⟨Le.refl _, ?_, ?_, Le.refl _, Le.refl _, ?_, trivial⟩, qa⟩ <;> first | exact Le.nils _ _ | exact Le.refl _ | exact je rfl | exact jl rfl | exact ju rfl | exact js rfl rfl | exact jt rfl rfl | exact jv rfl rfl | exact jx rfl rfl rfl | exact jy (fun _ _ => rfl))
      | false =>
       have tkAtomic : took ts p qmb = p := if_neg (by rw [hkAtomic]; decide)
       rw [tkAtomic]
       (repeat' ((conv => whnf); first | (apply zB <;> intro hb <;> (try simp [-zd] at hb) <;> try (exfalso; omega))))
       ((conv => whnf); refine zT 600 [0] (qag ht h.at_ qmc) qa ?_)
       cases hkSkip : sees ts p qmc with
       | true =>
        have tkSkip : took ts p qmc = adv p := if_pos hkSkip
        have hs1 := qf ht h.at_ hkSkip
        have h1 : Pre ts n (adv p) := h.less ((hs1.ok h.at_).refl)
        rw [tkSkip]
        (repeat' ((conv => whnf); first | (apply zB <;> intro hb <;> (try simp [-zd] at hb) <;> try (exfalso; omega))))
        have e5 : qc ts (n + 1) p = (.mk 14 [] [] (tk ts p).pos [], must ts (adv p) ql) := ((((((if_neg hc0)).trans (if_neg (by rw [hkSend]; decide))).trans (if_neg (by rw [hkIf]; decide))).trans (if_neg (by rw [hkWhile]; decide))).trans (if_neg (by rw [hkAtomic]; decide))).trans (if_pos hkSkip)
        rw [e5]
        ((conv => whnf); refine zT 600 [0] (qaj ht h1.at_ ql) qa ?_)
        (repeat' ((conv => whnf); first | refine Ob.auto ?_ | fail))
        (refine ⟨Le.agg ⟨Le.refl _, ?_, ?_, Le.refl _, Le.refl _, ?_, trivial⟩, qa⟩ <;> first | exact Le.nils _ _ | exact Le.refl _ | exact je rfl | exact jl rfl | exact ju rfl | exact js rfl rfl | exact jt rfl rfl | exact jv rfl rfl | exact jx rfl rfl rfl | exact jy (fun _ _ => rfl))
       | false =>
        have tkSkip : took ts p qmc = p := if_neg (by rw [hkSkip]; decide)
        rw [tkSkip]
        (repeat' ((conv => whnf); first | (apply zB <;> intro hb <;> (try simp [-zd] at hb) <;> try (exfalso; omega))))
        ((conv => whnf); refine zT 600 [0] (qag ht h.at_ qmd) qa ?_)
        cases hkStop : sees ts p qmd with
        | true =>
         have tkStop : took ts p qmd = adv p := if_pos hkStop
         have hs1 := qf ht h.at_ hkStop
         have h1 : Pre ts n (adv p) := h.less ((hs1.ok h.at_).refl)
         rw [tkStop]
         (repeat' ((conv => whnf); first | (apply zB <;> intro hb <;> (try simp [-zd] at hb) <;> try (exfalso; omega))))
         have e5 : qc ts (n + 1) p = (.mk 15 [] [] (tk ts p).pos [], must ts (adv p) ql) := (((((((if_neg hc0)).trans (if_neg (by rw [hkSend]; decide))).trans (if_neg (by rw [hkIf]; decide))).trans (if_neg (by rw [hkWhile]; decide))).trans (if_neg (by rw [hkAtomic]; decide))).trans (if_neg (by rw [hkSkip]; decide))).trans (if_pos hkStop)
         rw [e5]
         ((conv => whnf); refine zT 600 [0] (qaj ht h1.at_ ql) qa ?_)
         (repeat' ((conv => whnf); first | refine Ob.auto ?_ | fail))
         (refine ⟨Le.agg ⟨Le.refl _, ?_, ?_, Le.refl _, Le.refl _, ?_, trivial⟩, qa⟩ <;> first | exact Le.nils _ _ | exact Le.refl _ | exact je rfl | exact jl rfl | exact ju rfl | exact js rfl rfl | exact jt rfl rfl | exact jv rfl rfl | exact jx rfl rfl rfl | exact jy (fun _ _ => rfl))
        | false =>
         have tkStop : took ts p qmd = p := if_neg (by rw [hkStop]; decide)
         rw [tkStop]
         (repeat' ((conv => whnf); first | (apply zB <;> intro hb <;> (try simp [-zd] at hb) <;> try (exfalso; omega))))
         have e5 : qc ts (n + 1) p = (.mk 6 [jp ts p] [] (tk ts p).pos [(eF ts (must ts (qd ts p) sEq)).1], must ts (eF ts (must ts (qd ts p) sEq)).2 ql) := (((((((if_neg hc0)).trans (if_neg (by rw [hkSend]; decide))).trans (if_neg (by rw [hkIf]; decide))).trans (if_neg (by rw [hkWhile]; decide))).trans (if_neg (by rw [hkAtomic]; decide))).trans (if_neg (by rw [hkSkip]; decide))).trans (if_neg (by rw [hkStop]; decide))
         have h1 := h.step (qad ht h.at_)
         have h2 := h1.step (qi ht h1.at_ sEq)
         have h3 := h2.step (qat ht _ h2.at_)
         rw [e5]
         (repeat' ((conv => whnf); first | (refine qap (fun _ => rfl) (by kernel_rfl) 600 ?_) | fail))
         ((conv => whnf); refine CallY.trip [0] (qgm ht h.at_) (by kernel_rfl) leA qa (by exact qb rfl) (by exact qb rfl) ?_)
         (repeat' ((conv => whnf); first | refine Ob.auto ?_ | fail))
         ((conv => whnf); refine AltG.far 9 [2] (by kernel_rfl) farA (EndG.go ?_))
         ((conv => whnf); refine zT 600 [0] (qaj ht h1.at_ sEq) qa ?_)
         ((conv => whnf); refine qbk (fun _ => rfl) (by kernel_rfl) 600 [.turn [0] [.ptr 0 0] [pso ts (must ts (qd ts p) sEq)] (eF ts (must ts (qd ts p) sEq)).1.av [(0, pso ts (eF ts (must ts (qd ts p) sEq)).2)]] (by kernel_rfl) ?_)
         (repeat' ((conv => whnf); first | refine Ob.auto ?_ | refine Ob.intro ?_ ?_ | fail))
         ·exact ⟨e_rd ht h2.full, by kernel_rfl, leA, qa, by exact qb rfl, by exact qb rfl⟩
         ((conv => whnf); refine zT 600 [0] (qaj ht h3.at_ ql) qa ?_)
         (repeat' ((conv => whnf); first | refine Ob.auto ?_ | fail))
         (refine ⟨Le.agg ⟨Le.refl _, ?_, ?_, Le.refl _, Le.refl _, ?_, trivial⟩, qa⟩ <;> first | exact Le.nils _ _ | exact Le.refl _ | exact je rfl | exact jl rfl | exact ju rfl | exact js rfl rfl | exact jt rfl rfl | exact jv rfl rfl | exact jx rfl rfl rfl | exact jy (fun _ _ => rfl))
theorem s_rd (ht : ToksOk ts) (h : Pre ts n p) : RdT ts 105 (sF ts) p := jlv ht _ p h.full
end
end Go.Proofs.YtdoaagphhjggbaaGreatDoor
