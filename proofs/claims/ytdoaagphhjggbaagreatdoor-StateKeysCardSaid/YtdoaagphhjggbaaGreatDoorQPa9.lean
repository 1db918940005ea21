/- Contracts of the document's parser: items, the whole. -/
import Derived.Test.YtdoaagphhjggbaaGreatDoorQPa8
import Derived.Test.YtdoaagphhjggbaaGreatDoorQ2
namespace Go.Proofs.YtdoaagphhjggbaaGreatDoor
open List renaming getD_eq_getElem?_getD → zd
open Go Go.Sx Go.RowKit Go.St Pa
set_option maxRecDepth 100000
set_option maxHeartbeats 8000000
section
variable {ts : List Lx.Tok} {p q : Ps} {n : Nat}
theorem jly {f : Nat → List AV} {a b c d : Int} (h : f 0 = [iv a]) (h' : f 1 = [iv b]) (h'' : f 2 = [iv c]) (h''' : f 3 = [iv d]) : Le (.slc 1 4 f) (ints [a, b, c, d]) := Le.slc rfl (fun i hi => by
 rcases (by omega : i = 0 ∨ i = 1 ∨ i = 2 ∨ i = 3) with rfl | rfl | rfl | rfl
 ·exact h
 ·exact h'
 ·exact h''
 ·exact h''')
theorem jlz {l : List Tr} {t : Tr} {g : Nat → List AV} (hg : g 0 = t.cells) : ∀ j, j < l.length + 1 →
  LeL (appF l.length (qbm l) 1 g j) (qbm (l ++ [t]) j) := by
 intro j hj
 refine LeL.of_eq ?_
 have e : qbm (l ++ [t]) j = ((l ++ [t]).getD j Tr.none).cells := Tr.cellsL_get _ _ (by simp; omega)
 rw [e, qol]
 by_cases h : j < l.length
 ·rw [if_pos h, appF, if_pos h]
  exact Tr.cellsL_get _ _ h
 ·obtain rfl : j = l.length := by omega
  rw [if_neg (by omega), if_pos rfl, appF, if_neg (by omega), if_pos (by omega), Nat.sub_self]
  exact hg
theorem jma (ht : ToksOk ts) (h : Pre ts n p) : RdT ts 45 (itemF ts) p := by
 have h2 := ht.len
 refine zM {} 600 Tryz.func45 (fun c0 rdb mpb => ?_)
 (repeat' ((conv => whnf); first | refine zE 600 (qio h.at_ _) ?_ | fail))
 (repeat' ((conv => whnf); first | refine zE 600 (qdx h.at_ _) ?_ | (apply zB <;> intro hb <;> (try simp [-zd] at hb) <;> try (exfalso; omega))))
 ·have hv : sees ts p kVar = true := by assumption
  have e5 : itemF ts p = jk ts p := if_pos hv
  rw [e5]
  ((conv => whnf); refine zT 600 [0] (qth ht h) qa ?_)
  (repeat' ((conv => whnf); first | refine Ob.auto ?_ | fail))
  exact ⟨Le.refl _, qa⟩
 ·have hv : sees ts p kVar = false := by assumption
  have hp : sees ts p qr = true := by assumption
  have e5 : itemF ts p = qct ts p := (if_neg (by rw [hv]; decide)).trans (if_pos hp)
  rw [e5]
  ((conv => whnf); refine zT 600 [0] (jlx ht h) qa ?_)
  (repeat' ((conv => whnf); first | refine Ob.auto ?_ | fail))
  exact ⟨Le.refl _, qa⟩
 have hc0 : ¬ (sees ts p kVar = true) := by simp_all
 have hc1 : ¬ (sees ts p qr = true) := by simp_all
 ((conv => whnf); refine zT 600 [0] (qag ht h.at_ qlw) qa ?_)
 cases hkC : sees ts p qlw with
 | true =>
  have tkC : took ts p qlw = adv p := if_pos hkC
  have h1 : Pre ts n (adv p) := h.step (qf ht h.at_ hkC)
  rw [tkC]
  (repeat' ((conv => whnf); first | (apply zB <;> intro hb <;> (try simp [-zd] at hb) <;> try (exfalso; omega))))
  have h2' := h1.step (qad ht h1.at_)
  have h3 := h2'.step (qi ht h2'.at_ sLb)
  have h4 := h3.step (qaw ht h3.at_)
  have h5 := h4.step (qi ht h4.at_ sRb)
  have h6 := h5.step (qi ht h5.at_ kOf)
  have h7 := h6.step (qaw ht h6.at_)
  have h8 := h7.step (qgl ht h7.at_ qgj)
  have h9 := h8.step (qgl ht h8.at_ qhj)
  have e5 : itemF ts p = (.mk 1 [jp ts (adv p)] [numN ts (must ts (qd ts (adv p)) sLb), numN ts (must ts (must ts (numP ts (must ts (qd ts (adv p)) sLb)) sRb) kOf), qfj ts (numP ts (must ts (must ts (numP ts (must ts (qd ts (adv p)) sLb)) sRb) kOf)) qgj, qfj ts (took ts (numP ts (must ts (must ts (numP ts (must ts (qd ts (adv p)) sLb)) sRb) kOf)) qgj) qhj] (tk ts p).pos [], must ts (took ts (took ts (numP ts (must ts (must ts (numP ts (must ts (qd ts (adv p)) sLb)) sRb) kOf)) qgj) qhj) ql) := ((if_neg hc0).trans (if_neg hc1)).trans (if_pos hkC)
  rw [e5]
  (repeat' ((conv => whnf); first | (refine qap (fun _ => rfl) (by kernel_rfl) 600 ?_) | fail))
  ((conv => whnf); refine CallY.trip [0] (qgm ht h1.at_) (by kernel_rfl) leA qa (by exact qb rfl) (by exact qb rfl) ?_)
  (repeat' ((conv => whnf); first | refine Ob.auto ?_ | fail))
  ((conv => whnf); refine AltG.far 9 [2] (by kernel_rfl) farA (EndG.go ?_))
  ((conv => whnf); refine zT 600 [0] (qaj ht h2'.at_ sLb) qa ?_)
  (repeat' ((conv => whnf); first | (refine qap (fun _ => rfl) (by kernel_rfl) 600 ?_) | fail))
  ((conv => whnf); refine CallY.trip [0] (qin ht h3.at_) (by kernel_rfl) leA qa (by exact qb rfl) (by exact qb rfl) ?_)
  (repeat' ((conv => whnf); first | refine Ob.auto ?_ | fail))
  ((conv => whnf); refine AltG.far 9 [2] (by kernel_rfl) farA (EndG.go ?_))
  ((conv => whnf); refine zT 600 [0] (qaj ht h4.at_ sRb) qa ?_)
  ((conv => whnf); refine zT 600 [0] (qaj ht h5.at_ kOf) qa ?_)
  (repeat' ((conv => whnf); first | (refine qap (fun _ => rfl) (by kernel_rfl) 600 ?_) | fail))
  ((conv => whnf); refine CallY.trip [0] (qin ht h6.at_) (by kernel_rfl) leA qa (by exact qb rfl) (by exact qb rfl) ?_)
  (repeat' ((conv => whnf); first | refine Ob.auto ?_ | fail))
  ((conv => whnf); refine AltG.far 9 [2] (by kernel_rfl) farA (EndG.go ?_))
  (repeat' ((conv => whnf); first | (refine qap (fun _ => rfl) (by kernel_rfl) 600 ?_) | fail))
  ((conv => whnf); refine CallY.trip [0] (qtf ht h7.at_ qgj) (by kernel_rfl) leA qa (by exact qb rfl) (by exact qb rfl) ?_)
  (repeat' ((conv => whnf); first | refine Ob.auto ?_ | fail))
  ((conv => whnf); refine AltG.far 9 [2] (by kernel_rfl) farA (EndG.go ?_))
  (repeat' ((conv => whnf); first | (refine qap (fun _ => rfl) (by kernel_rfl) 600 ?_) | fail))
  ((conv => whnf); refine CallY.trip [0] (qtf ht h8.at_ qhj) (by kernel_rfl) leA qa (by exact qb rfl) (by exact qb rfl) ?_)
  (repeat' ((conv => whnf); first | refine Ob.auto ?_ | fail))
  ((conv => whnf); refine AltG.far 9 [2] (by kernel_rfl) farA (EndG.go ?_))
  ((conv => whnf); refine zT 600 [0] (qaj ht h9.at_ ql) qa ?_)
  (repeat' ((conv => whnf); first | refine Ob.auto ?_ | fail))
  refine ⟨Le.agg ⟨Le.refl _, jl rfl, jly rfl rfl rfl rfl, Le.refl _, Le.refl _, Le.nils _ _, trivial⟩, qa⟩
 | false =>
  have tkC : took ts p qlw = p := if_neg (by rw [hkC]; decide)
  rw [tkC]
  (repeat' ((conv => whnf); first | (apply zB <;> intro hb <;> (try simp [-zd] at hb) <;> try (exfalso; omega))))
  ((conv => whnf); refine zT 600 [0] (qag ht h.at_ qlx) qa ?_)
  cases hkS : sees ts p qlx with
  | true =>
   have tkS : took ts p qlx = adv p := if_pos hkS
   have h1 : Pre ts n (adv p) := h.step (qf ht h.at_ hkS)
   rw [tkS]
   (repeat' ((conv => whnf); first | (apply zB <;> intro hb <;> (try simp [-zd] at hb) <;> try (exfalso; omega))))
   have e5 : itemF ts p = (.mk 4 [] [] (tk ts p).pos [(eF ts (adv p)).1], must ts (eF ts (adv p)).2 ql) := (((if_neg hc0).trans (if_neg hc1)).trans (if_neg (by rw [hkC]; decide))).trans (if_pos hkS)
   rw [e5]
   have h2' := h1.step (qat ht _ h1.at_)
   ((conv => whnf); refine qbk (fun _ => rfl) (by kernel_rfl) 600 [.turn [0] [.ptr 0 0] [pso ts (adv p)] (eF ts (adv p)).1.av [(0, pso ts (eF ts (adv p)).2)]] (by kernel_rfl) ?_)
   (repeat' ((conv => whnf); first | refine Ob.auto ?_ | refine Ob.intro ?_ ?_ | fail))
   ·exact ⟨e_rd ht h1.full, by kernel_rfl, leA, qa, by exact qb rfl, by exact qb rfl⟩
   ((conv => whnf); refine zT 600 [0] (qaj ht h2'.at_ ql) qa ?_)
   (repeat' ((conv => whnf); first | refine Ob.auto ?_ | fail))
   (refine ⟨Le.agg ⟨Le.refl _, ?_, ?_, Le.refl _, Le.refl _, ?_, trivial⟩, qa⟩ <;> first | exact Le.nils _ _ | exact Le.refl _ | exact je rfl | exact jl rfl | exact ju rfl | exact js rfl rfl | exact jt rfl rfl | exact jv rfl rfl | exact jx rfl rfl rfl | exact jy (fun _ _ => rfl))
  | false =>
   have tkS : took ts p qlx = p := if_neg (by rw [hkS]; decide)
   rw [tkS]
   have e5 : itemF ts p = (.mk 5 [] [] (tk ts p).pos [], must ts (must ts p qjx) ql) := (((if_neg hc0).trans (if_neg hc1)).trans (if_neg (by rw [hkC]; decide))).trans (if_neg (by rw [hkS]; decide))
   rw [e5]
   have h1 : Pre ts n (must ts p qjx) := h.step (qi ht h.at_ _)
   (repeat' ((conv => whnf); first | (apply zB <;> intro hb <;> (try simp [-zd] at hb) <;> try (exfalso; omega))))
   ((conv => whnf); refine zT 600 [0] (qaj ht h.at_ qjx) qa ?_)
   ((conv => whnf); refine zT 600 [0] (qaj ht h1.at_ ql) qa ?_)
   (repeat' ((conv => whnf); first | refine Ob.auto ?_ | fail))
   (refine ⟨Le.agg ⟨Le.refl _, ?_, ?_, Le.refl _, Le.refl _, ?_, trivial⟩, qa⟩ <;> first | exact Le.nils _ _ | exact Le.refl _ | exact je rfl | exact jl rfl | exact ju rfl | exact js rfl rfl | exact jt rfl rfl | exact jv rfl rfl | exact jx rfl rfl rfl | exact jy (fun _ _ => rfl))
theorem jmb (ht : ToksOk ts) (h : Pre ts n p) : RdT ts 24 (qby ts) p := by
 have h2 := ht.len
 refine zM {} 600 Tryz.func24 (fun c0 rdb mpb => ?_)
 (repeat' ((conv => whnf); first | refine zE 600 (qio h.at_ _) ?_ | fail))
 ((conv => whnf); refine qoo [0, 1, 2] 2 rfl frzA ?_)
 (conv => whnf)
 refine qda 2 5 74 6 rfl rfl ?_
 ((conv => whnf); refine qo (fun _ => rfl) 600 1 (fun _ : Nat × List Tr × Ps => []) (fun g => [(3, .row [] 74 6 0 g.2.1.length (qbm g.2.1)), (2, .box 74 [iv 0, .nils, .nils, .nils, iv (tk ts p).pos, .own 3 0 0 g.2.1.length]), (0, pso ts g.2.2)]) (fun g => Pre ts n g.2.2 ∧ qcu ts g.1 g.2.1 g.2.2 = qcu ts ts.length [] p ∧ (g.2.2.err = 0 → (ts.length : Int) - g.2.2.at_ ≤ g.1) ∧ g.2.1.length + g.1 ≤ ts.length) (fun g => g.1) ((ts.length, [], p)) (⟨h, rfl, by have := h.at_.lo; simp only; omega, by simp⟩) qa ⟨⟨⟨rfl, rfl, rfl⟩, rfl, rfl, fun j hj => absurd hj (Nat.not_lt_zero j)⟩, ⟨rfl, Le.refl _, Le.refl _, Le.refl _, Le.refl _, Le.refl _, Le.refl _, trivial⟩, SoLe.refl _, trivial⟩ (fun _ => rfl) (by kernel_rfl) ?_; (conv => whnf))
 rintro ⟨m, l, r⟩ ⟨hP, hj, hk, hl⟩
 simp only at hP hj hk hl
 (repeat' ((conv => whnf); first | refine Ob.auto ?_ | refine zE 600 (qeo) ?_ | refine zF 600 (fun hg => qim hP.at_) ?_ | (apply zB <;> intro hb <;> (try simp [-zd] at hb) <;> try (exfalso; omega))))
 ·obtain ⟨he', hk3⟩ := hb
  have hQ := hP
  have hm : 1 ≤ m := by have := hk he'; have := hP.at_.hi; omega
  obtain ⟨m, rfl⟩ : ∃ m', m = m' + 1 := ⟨m - 1, by omega⟩
  rw [qcu, if_pos ⟨he', hk3⟩] at hj
  dsimp only
  ((conv => whnf); refine qbk (fun _ => rfl) (by kernel_rfl) 600 [.turn [0] [.ptr 0 0] [pso ts r] (itemF ts r).1.av [(0, pso ts (itemF ts r).2)]] (by kernel_rfl) ?_)
  (repeat' ((conv => whnf); first | refine Ob.auto ?_ | refine Ob.intro ?_ ?_ | fail))
  ·exact ⟨jma ht hP, by kernel_rfl, leA, qa, by exact qb rfl, by exact qb rfl⟩
  have hst := qtd ht r hP.at_
  have hk' : (itemF ts r).2.err = 0 → (ts.length : Int) - (itemF ts r).2.at_ ≤ m := fun h => by have := jal ht r hP.at_ h; have := hk he'; omega
  have hlen : l.length + 1 = (l ++ [(itemF ts r).1]).length := by rw [List.length_append]; rfl
  ((conv => whnf); refine ⟨(m, l ++ [(itemF ts r).1], (itemF ts r).2), ⟨hP.step hst, hj, hk', by simp; omega⟩, ⟨qa, ⟨⟨⟨rfl, rfl, rfl⟩, rfl, hlen, jlz (t := (itemF ts r).1) rfl⟩, ⟨rfl, Le.refl _, Le.refl _, Le.refl _, Le.refl _, Le.refl _, Le.of_eq (congrArg (AV.own _ _ _) hlen), trivial⟩, qa⟩⟩, ⟨qa, qa⟩, ?_⟩; (first | omega | (dsimp only; omega) | skip))
 ·have hn : ¬ (r.err = 0 ∧ (tk ts r).kind ≠ 3) := fun h => h.2 (hb h.1)
  have e2 : qcu ts ts.length [] p = (l, r) := by
   rw [← hj]
   cases m with
   | zero => rfl
   | succ m => rw [qcu, if_neg hn]
  have e5 : qby ts p = (.mk 0 [] [] (tk ts p).pos l, r) := by unfold qby; rw [e2]
  rw [e5]
  (refine ⟨Le.agg ⟨Le.refl _, ?_, ?_, Le.refl _, Le.refl _, ?_, trivial⟩, qa⟩ <;> first | exact Le.nils _ _ | exact Le.refl _ | exact je rfl | exact jl rfl | exact ju rfl | exact js rfl rfl | exact jt rfl rfl | exact jv rfl rfl | exact jx rfl rfl rfl | exact jy (fun _ _ => rfl))
end
end Go.Proofs.YtdoaagphhjggbaaGreatDoor
