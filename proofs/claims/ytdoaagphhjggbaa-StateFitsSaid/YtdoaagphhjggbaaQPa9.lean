/- Contracts of the document's parser: items, the whole. -/
import Derived.Test.YtdoaagphhjggbaaQPa8
import Derived.Test.YtdoaagphhjggbaaQ2
namespace Go.Proofs.Ytdoaagphhjggbaa
open Go Go.Sx Go.RowKit Go.St Pa
set_option maxRecDepth 100000
set_option maxHeartbeats 8000000

section
variable {ts : List Lx.Tok} {p q : Ps} {n : Nat}

theorem four_int {f : Nat → List AV} {a b c d : Int} (h : f 0 = [iv a]) (h' : f 1 = [iv b]) (h'' : f 2 = [iv c]) (h''' : f 3 = [iv d]) : Le (.slc 1 4 f) (ints [a, b, c, d]) := Le.slc rfl (fun i hi => by
  rcases (by omega : i = 0 ∨ i = 1 ∨ i = 2 ∨ i = 3) with rfl | rfl | rfl | rfl
  · exact h
  · exact h'
  · exact h''
  · exact h''')

theorem kids_app {l : List Tr} {t : Tr} {g : Nat → List AV} (hg : g 0 = t.cells) : ∀ j, j < l.length + 1 →
    LeL (appF l.length (kidsR l) 1 g j) (kidsR (l ++ [t]) j) := by
  intro j hj
  refine LeL.of_eq ?_
  have e : kidsR (l ++ [t]) j = ((l ++ [t]).getD j Tr.none).cells := Tr.cellsL_get _ _ (by simp; omega)
  rw [e, getD_snoc]
  by_cases h : j < l.length
  · rw [if_pos h, appF, if_pos h]
    exact Tr.cellsL_get _ _ h
  · obtain rfl : j = l.length := by omega
    rw [if_neg (by omega), if_pos rfl, appF, if_neg (by omega), if_pos (by omega), Nat.sub_self]
    exact hg

theorem item_rd (ht : ToksOk ts) (h : Pre ts n p) : RdT ts 72 (itemF ts) p := by
  have h2 := ht.len
  refine trip_of_exec_frz (T := tab Try.prog) (C := {}) 600 (fun _ => rfl) Try.func72 rfl (by kernel_rfl) (by kernel_rfl) (fun c0 rdb mpb => ?_)
  (repeat' ((conv => whnf); first | refine zA ?_ | refine zO ?_ | refine Ob.auto ?_ | refine zC 600 (pbegin_con h.at_ _) ?_ | refine zG 600 (fun hg => pbegin_con h.at_ _) ?_ | (refine CallY.con (pbegin_con h.at_ _) (by rfl) leA ?_) | (refine CallZ.con (fun hg => pbegin_con h.at_ _) rflsA (by rfl) ?_) | refine zE 600 (pbegin_con h.at_ _) ?_ | refine zF 600 (fun hg => pbegin_con h.at_ _) ?_ | refine zD 600 ?_ | (refine Br.intro (fun hb => ?_) (fun hb => ?_) <;> (try simp [-List.getD_eq_getElem?_getD] at hb) <;> (try (exfalso; omega))) | refine Ob.intro ?_ ?_))
  (repeat' ((conv => whnf); first | refine zA ?_ | refine zO ?_ | refine Ob.auto ?_ | refine zC 600 (psees_con h.at_ _) ?_ | refine zG 600 (fun hg => psees_con h.at_ _) ?_ | (refine CallY.con (psees_con h.at_ _) (by rfl) leA ?_) | (refine CallZ.con (fun hg => psees_con h.at_ _) rflsA (by rfl) ?_) | refine zE 600 (psees_con h.at_ _) ?_ | refine zF 600 (fun hg => psees_con h.at_ _) ?_ | refine zD 600 ?_ | (refine Br.intro (fun hb => ?_) (fun hb => ?_) <;> (try simp [-List.getD_eq_getElem?_getD] at hb) <;> (try (exfalso; omega))) | refine Ob.intro ?_ ?_))
  · have hv : sees ts p kVar = true := by assumption
    have e5 : itemF ts p = variableF ts p := if_pos hv
    rw [e5]
    ((conv => whnf); refine zT 600 [0] (variable_rd ht h) subtA ?_)
    (repeat' ((conv => whnf); first | refine zA ?_ | refine zO ?_ | refine Ob.auto ?_ | refine zD 600 ?_ | (refine Br.intro (fun hb => ?_) (fun hb => ?_) <;> (try simp [-List.getD_eq_getElem?_getD] at hb) <;> (try (exfalso; omega))) | refine Ob.intro ?_ ?_))
    exact ⟨Le.refl _, subtA⟩
  · have hv : sees ts p kVar = false := by assumption
    have hp : sees ts p kProc = true := by assumption
    have e5 : itemF ts p = processF ts p := (if_neg (by rw [hv]; decide)).trans (if_pos hp)
    rw [e5]
    ((conv => whnf); refine zT 600 [0] (process_rd ht h) subtA ?_)
    (repeat' ((conv => whnf); first | refine zA ?_ | refine zO ?_ | refine Ob.auto ?_ | refine zD 600 ?_ | (refine Br.intro (fun hb => ?_) (fun hb => ?_) <;> (try simp [-List.getD_eq_getElem?_getD] at hb) <;> (try (exfalso; omega))) | refine Ob.intro ?_ ?_))
    exact ⟨Le.refl _, subtA⟩
  have hc0 : ¬ (sees ts p kVar = true) := by simp_all
  have hc1 : ¬ (sees ts p kProc = true) := by simp_all
  ((conv => whnf); refine zT 600 [0] (ptake_trip ht h.at_ kChan) subtA ?_)
  cases hkC : sees ts p kChan with
  | true =>
    have tkC : took ts p kChan = adv p := if_pos hkC
    have h1 : Pre ts n (adv p) := h.step (sees_adv ht h.at_ hkC)
    rw [tkC]
    (repeat' ((conv => whnf); first | refine zA ?_ | refine zO ?_ | refine Ob.auto ?_ | refine zD 600 ?_ | (refine Br.intro (fun hb => ?_) (fun hb => ?_) <;> (try simp [-List.getD_eq_getElem?_getD] at hb) <;> (try (exfalso; omega))) | refine Ob.intro ?_ ?_))
    have h2' := h1.step (step_name ht h1.at_)
    have h3 := h2'.step (step_must ht h2'.at_ sLb)
    have h4 := h3.step (step_num ht h3.at_)
    have h5 := h4.step (step_must ht h4.at_ sRb)
    have h6 := h5.step (step_must ht h5.at_ kOf)
    have h7 := h6.step (step_num ht h6.at_)
    have h8 := h7.step (step_took ht h7.at_ kLossy)
    have h9 := h8.step (step_took ht h8.at_ kCopying)
    have e5 : itemF ts p = (.mk 1 [nameW ts (adv p)] [numN ts (must ts (nameP ts (adv p)) sLb), numN ts (must ts (must ts (numP ts (must ts (nameP ts (adv p)) sLb)) sRb) kOf), flagN ts (numP ts (must ts (must ts (numP ts (must ts (nameP ts (adv p)) sLb)) sRb) kOf)) kLossy, flagN ts (took ts (numP ts (must ts (must ts (numP ts (must ts (nameP ts (adv p)) sLb)) sRb) kOf)) kLossy) kCopying] (tk ts p).pos [], must ts (took ts (took ts (numP ts (must ts (must ts (numP ts (must ts (nameP ts (adv p)) sLb)) sRb) kOf)) kLossy) kCopying) sSemi) := ((if_neg hc0).trans (if_neg hc1)).trans (if_pos hkC)
    rw [e5]
    (repeat' ((conv => whnf); first | refine zA ?_ | refine zO ?_ | refine Ob.auto ?_ | refine zD 600 ?_ | (refine draw4f (fun _ => rfl) (by kernel_rfl) 600 ?_) | (refine Br.intro (fun hb => ?_) (fun hb => ?_) <;> (try simp [-List.getD_eq_getElem?_getD] at hb) <;> (try (exfalso; omega))) | refine Ob.intro ?_ ?_))
    ((conv => whnf); refine CallY.trip [0] (pname_trip ht h1.at_) (by kernel_rfl) leA subtA (by exact rowsLt_nil rfl) (by exact rowsLt_nil rfl) ?_)
    (repeat' ((conv => whnf); first | refine zO ?_ | refine Ob.auto ?_ | refine zD 600 ?_ | (refine draw4f (fun _ => rfl) (by kernel_rfl) 600 ?_) | (refine Br.intro (fun hb => ?_) (fun hb => ?_) <;> (try simp [-List.getD_eq_getElem?_getD] at hb) <;> (try (exfalso; omega))) | refine Ob.intro ?_ ?_))
    ((conv => whnf); refine AltG.far 9 [2] (by kernel_rfl) farA (EndG.go ?_))
    (repeat' ((conv => whnf); first | refine zA ?_ | refine zO ?_ | refine Ob.auto ?_ | refine zD 600 ?_ | (refine Br.intro (fun hb => ?_) (fun hb => ?_) <;> (try simp [-List.getD_eq_getElem?_getD] at hb) <;> (try (exfalso; omega))) | refine Ob.intro ?_ ?_))
    ((conv => whnf); refine zT 600 [0] (pmust_trip ht h2'.at_ sLb) subtA ?_)
    (repeat' ((conv => whnf); first | refine zA ?_ | refine zO ?_ | refine Ob.auto ?_ | refine zD 600 ?_ | (refine draw4f (fun _ => rfl) (by kernel_rfl) 600 ?_) | (refine Br.intro (fun hb => ?_) (fun hb => ?_) <;> (try simp [-List.getD_eq_getElem?_getD] at hb) <;> (try (exfalso; omega))) | refine Ob.intro ?_ ?_))
    ((conv => whnf); refine CallY.trip [0] (pnum_trip ht h3.at_) (by kernel_rfl) leA subtA (by exact rowsLt_nil rfl) (by exact rowsLt_nil rfl) ?_)
    (repeat' ((conv => whnf); first | refine zO ?_ | refine Ob.auto ?_ | refine zD 600 ?_ | (refine draw4f (fun _ => rfl) (by kernel_rfl) 600 ?_) | (refine Br.intro (fun hb => ?_) (fun hb => ?_) <;> (try simp [-List.getD_eq_getElem?_getD] at hb) <;> (try (exfalso; omega))) | refine Ob.intro ?_ ?_))
    ((conv => whnf); refine AltG.far 9 [2] (by kernel_rfl) farA (EndG.go ?_))
    (repeat' ((conv => whnf); first | refine zA ?_ | refine zO ?_ | refine Ob.auto ?_ | refine zD 600 ?_ | (refine Br.intro (fun hb => ?_) (fun hb => ?_) <;> (try simp [-List.getD_eq_getElem?_getD] at hb) <;> (try (exfalso; omega))) | refine Ob.intro ?_ ?_))
    ((conv => whnf); refine zT 600 [0] (pmust_trip ht h4.at_ sRb) subtA ?_)
    (repeat' ((conv => whnf); first | refine zA ?_ | refine zO ?_ | refine Ob.auto ?_ | refine zD 600 ?_ | (refine Br.intro (fun hb => ?_) (fun hb => ?_) <;> (try simp [-List.getD_eq_getElem?_getD] at hb) <;> (try (exfalso; omega))) | refine Ob.intro ?_ ?_))
    ((conv => whnf); refine zT 600 [0] (pmust_trip ht h5.at_ kOf) subtA ?_)
    (repeat' ((conv => whnf); first | refine zA ?_ | refine zO ?_ | refine Ob.auto ?_ | refine zD 600 ?_ | (refine draw4f (fun _ => rfl) (by kernel_rfl) 600 ?_) | (refine Br.intro (fun hb => ?_) (fun hb => ?_) <;> (try simp [-List.getD_eq_getElem?_getD] at hb) <;> (try (exfalso; omega))) | refine Ob.intro ?_ ?_))
    ((conv => whnf); refine CallY.trip [0] (pnum_trip ht h6.at_) (by kernel_rfl) leA subtA (by exact rowsLt_nil rfl) (by exact rowsLt_nil rfl) ?_)
    (repeat' ((conv => whnf); first | refine zO ?_ | refine Ob.auto ?_ | refine zD 600 ?_ | (refine draw4f (fun _ => rfl) (by kernel_rfl) 600 ?_) | (refine Br.intro (fun hb => ?_) (fun hb => ?_) <;> (try simp [-List.getD_eq_getElem?_getD] at hb) <;> (try (exfalso; omega))) | refine Ob.intro ?_ ?_))
    ((conv => whnf); refine AltG.far 9 [2] (by kernel_rfl) farA (EndG.go ?_))
    (repeat' ((conv => whnf); first | refine zA ?_ | refine zO ?_ | refine Ob.auto ?_ | refine zD 600 ?_ | (refine draw4f (fun _ => rfl) (by kernel_rfl) 600 ?_) | (refine Br.intro (fun hb => ?_) (fun hb => ?_) <;> (try simp [-List.getD_eq_getElem?_getD] at hb) <;> (try (exfalso; omega))) | refine Ob.intro ?_ ?_))
    ((conv => whnf); refine CallY.trip [0] (pflag_trip ht h7.at_ kLossy) (by kernel_rfl) leA subtA (by exact rowsLt_nil rfl) (by exact rowsLt_nil rfl) ?_)
    (repeat' ((conv => whnf); first | refine zO ?_ | refine Ob.auto ?_ | refine zD 600 ?_ | (refine draw4f (fun _ => rfl) (by kernel_rfl) 600 ?_) | (refine Br.intro (fun hb => ?_) (fun hb => ?_) <;> (try simp [-List.getD_eq_getElem?_getD] at hb) <;> (try (exfalso; omega))) | refine Ob.intro ?_ ?_))
    ((conv => whnf); refine AltG.far 9 [2] (by kernel_rfl) farA (EndG.go ?_))
    (repeat' ((conv => whnf); first | refine zA ?_ | refine zO ?_ | refine Ob.auto ?_ | refine zD 600 ?_ | (refine draw4f (fun _ => rfl) (by kernel_rfl) 600 ?_) | (refine Br.intro (fun hb => ?_) (fun hb => ?_) <;> (try simp [-List.getD_eq_getElem?_getD] at hb) <;> (try (exfalso; omega))) | refine Ob.intro ?_ ?_))
    ((conv => whnf); refine CallY.trip [0] (pflag_trip ht h8.at_ kCopying) (by kernel_rfl) leA subtA (by exact rowsLt_nil rfl) (by exact rowsLt_nil rfl) ?_)
    (repeat' ((conv => whnf); first | refine zO ?_ | refine Ob.auto ?_ | refine zD 600 ?_ | (refine draw4f (fun _ => rfl) (by kernel_rfl) 600 ?_) | (refine Br.intro (fun hb => ?_) (fun hb => ?_) <;> (try simp [-List.getD_eq_getElem?_getD] at hb) <;> (try (exfalso; omega))) | refine Ob.intro ?_ ?_))
    ((conv => whnf); refine AltG.far 9 [2] (by kernel_rfl) farA (EndG.go ?_))
    (repeat' ((conv => whnf); first | refine zA ?_ | refine zO ?_ | refine Ob.auto ?_ | refine zD 600 ?_ | (refine Br.intro (fun hb => ?_) (fun hb => ?_) <;> (try simp [-List.getD_eq_getElem?_getD] at hb) <;> (try (exfalso; omega))) | refine Ob.intro ?_ ?_))
    ((conv => whnf); refine zT 600 [0] (pmust_trip ht h9.at_ sSemi) subtA ?_)
    (repeat' ((conv => whnf); first | refine zA ?_ | refine zO ?_ | refine Ob.auto ?_ | refine zD 600 ?_ | (refine Br.intro (fun hb => ?_) (fun hb => ?_) <;> (try simp [-List.getD_eq_getElem?_getD] at hb) <;> (try (exfalso; omega))) | refine Ob.intro ?_ ?_))
    refine ⟨Le.agg ⟨Le.refl _, one_str rfl, four_int rfl rfl rfl rfl, Le.refl _, Le.refl _, Le.nils _ _, trivial⟩, subtA⟩
  | false =>
    have tkC : took ts p kChan = p := if_neg (by rw [hkC]; decide)
    rw [tkC]
    (repeat' ((conv => whnf); first | refine zA ?_ | refine zO ?_ | refine Ob.auto ?_ | refine zD 600 ?_ | (refine Br.intro (fun hb => ?_) (fun hb => ?_) <;> (try simp [-List.getD_eq_getElem?_getD] at hb) <;> (try (exfalso; omega))) | refine Ob.intro ?_ ?_))
    ((conv => whnf); refine zT 600 [0] (ptake_trip ht h.at_ kSafe) subtA ?_)
    cases hkS : sees ts p kSafe with
    | true =>
      have tkS : took ts p kSafe = adv p := if_pos hkS
      have h1 : Pre ts n (adv p) := h.step (sees_adv ht h.at_ hkS)
      rw [tkS]
      (repeat' ((conv => whnf); first | refine zA ?_ | refine zO ?_ | refine Ob.auto ?_ | refine zD 600 ?_ | (refine Br.intro (fun hb => ?_) (fun hb => ?_) <;> (try simp [-List.getD_eq_getElem?_getD] at hb) <;> (try (exfalso; omega))) | refine Ob.intro ?_ ?_))
      have e5 : itemF ts p = (.mk 4 [] [] (tk ts p).pos [(eF ts (adv p)).1], must ts (eF ts (adv p)).2 sSemi) := (((if_neg hc0).trans (if_neg hc1)).trans (if_neg (by rw [hkC]; decide))).trans (if_pos hkS)
      rw [e5]
      have h2' := h1.step (runs_e ht _ h1.at_)
      ((conv => whnf); refine draw3 (fun _ => rfl) (by kernel_rfl) 600 [.turn [0] [.ptr 0 0] [pso ts (adv p)] (eF ts (adv p)).1.av [(0, pso ts (eF ts (adv p)).2)]] (by kernel_rfl) ?_)
      (repeat' ((conv => whnf); first | refine zA ?_ | refine zO ?_ | refine Ob.auto ?_ | (refine Ob.intro (by (exact ⟨by omega, by omega⟩)) ?_) | refine zD 600 ?_ | (refine Br.intro (fun hb => ?_) (fun hb => ?_) <;> (try simp [-List.getD_eq_getElem?_getD] at hb) <;> (try (exfalso; omega))) | refine Ob.intro ?_ ?_))
      · exact ⟨e_rd ht h1.full, by kernel_rfl, leA, subtA, by exact rowsLt_nil rfl, by exact rowsLt_nil rfl⟩
      (repeat' ((conv => whnf); first | refine zA ?_ | refine zO ?_ | refine Ob.auto ?_ | refine zD 600 ?_ | (refine Br.intro (fun hb => ?_) (fun hb => ?_) <;> (try simp [-List.getD_eq_getElem?_getD] at hb) <;> (try (exfalso; omega))) | refine Ob.intro ?_ ?_))
      ((conv => whnf); refine zT 600 [0] (pmust_trip ht h2'.at_ sSemi) subtA ?_)
      (repeat' ((conv => whnf); first | refine zA ?_ | refine zO ?_ | refine Ob.auto ?_ | refine zD 600 ?_ | (refine Br.intro (fun hb => ?_) (fun hb => ?_) <;> (try simp [-List.getD_eq_getElem?_getD] at hb) <;> (try (exfalso; omega))) | refine Ob.intro ?_ ?_))
      (refine ⟨Le.agg ⟨Le.refl _, ?_, ?_, Le.refl _, Le.refl _, ?_, trivial⟩, subtA⟩ <;> first | exact Le.nils _ _ | exact Le.refl _ | exact one_int rfl | exact one_str rfl | exact kids_one rfl | exact two_int rfl rfl | exact two_str rfl rfl | exact kids_two' rfl rfl | exact kids_three rfl rfl rfl | exact kidsR_le (fun _ _ => rfl))
    | false =>
      have tkS : took ts p kSafe = p := if_neg (by rw [hkS]; decide)
      rw [tkS]
      have e5 : itemF ts p = (.mk 5 [] [] (tk ts p).pos [], must ts (must ts p kDeadlock) sSemi) := (((if_neg hc0).trans (if_neg hc1)).trans (if_neg (by rw [hkC]; decide))).trans (if_neg (by rw [hkS]; decide))
      rw [e5]
      have h1 : Pre ts n (must ts p kDeadlock) := h.step (step_must ht h.at_ _)
      (repeat' ((conv => whnf); first | refine zA ?_ | refine zO ?_ | refine Ob.auto ?_ | refine zD 600 ?_ | (refine Br.intro (fun hb => ?_) (fun hb => ?_) <;> (try simp [-List.getD_eq_getElem?_getD] at hb) <;> (try (exfalso; omega))) | refine Ob.intro ?_ ?_))
      ((conv => whnf); refine zT 600 [0] (pmust_trip ht h.at_ kDeadlock) subtA ?_)
      (repeat' ((conv => whnf); first | refine zA ?_ | refine zO ?_ | refine Ob.auto ?_ | refine zD 600 ?_ | (refine Br.intro (fun hb => ?_) (fun hb => ?_) <;> (try simp [-List.getD_eq_getElem?_getD] at hb) <;> (try (exfalso; omega))) | refine Ob.intro ?_ ?_))
      ((conv => whnf); refine zT 600 [0] (pmust_trip ht h1.at_ sSemi) subtA ?_)
      (repeat' ((conv => whnf); first | refine zA ?_ | refine zO ?_ | refine Ob.auto ?_ | refine zD 600 ?_ | (refine Br.intro (fun hb => ?_) (fun hb => ?_) <;> (try simp [-List.getD_eq_getElem?_getD] at hb) <;> (try (exfalso; omega))) | refine Ob.intro ?_ ?_))
      (refine ⟨Le.agg ⟨Le.refl _, ?_, ?_, Le.refl _, Le.refl _, ?_, trivial⟩, subtA⟩ <;> first | exact Le.nils _ _ | exact Le.refl _ | exact one_int rfl | exact one_str rfl | exact kids_one rfl | exact two_int rfl rfl | exact two_str rfl rfl | exact kids_two' rfl rfl | exact kids_three rfl rfl rfl | exact kidsR_le (fun _ _ => rfl))

theorem program_rd (ht : ToksOk ts) (h : Pre ts n p) : RdT ts 35 (programF ts) p := by
  have h2 := ht.len
  refine trip_of_exec_frz (T := tab Try.prog) (C := {}) 600 (fun _ => rfl) Try.func35 rfl (by kernel_rfl) (by kernel_rfl) (fun c0 rdb mpb => ?_)
  (repeat' ((conv => whnf); first | refine zA ?_ | refine zO ?_ | refine Ob.auto ?_ | refine zC 600 (pbegin_con h.at_ _) ?_ | refine zG 600 (fun hg => pbegin_con h.at_ _) ?_ | (refine CallY.con (pbegin_con h.at_ _) (by rfl) leA ?_) | (refine CallZ.con (fun hg => pbegin_con h.at_ _) rflsA (by rfl) ?_) | refine zE 600 (pbegin_con h.at_ _) ?_ | refine zF 600 (fun hg => pbegin_con h.at_ _) ?_ | refine zD 600 ?_ | (refine Br.intro (fun hb => ?_) (fun hb => ?_) <;> (try simp [-List.getD_eq_getElem?_getD] at hb) <;> (try (exfalso; omega))) | refine Ob.intro ?_ ?_))
  ((conv => whnf); refine loop_frz [0, 1, 2] 2 rfl frzA ?_)
  (conv => whnf)
  refine loop_nil 2 5 89 6 rfl rfl ?_
  ((conv => whnf); refine loop_auto (fun _ => rfl) 600 1 (fun _ : Nat × List Tr × Ps => []) (fun g => [(3, .row [] 89 6 0 g.2.1.length (kidsR g.2.1)), (2, .box 89 [iv 0, .nils, .nils, .nils, iv (tk ts p).pos, .own 3 0 0 g.2.1.length]), (0, pso ts g.2.2)]) (fun g => Pre ts n g.2.2 ∧ itemsL ts g.1 g.2.1 g.2.2 = itemsL ts ts.length [] p ∧ (g.2.2.err = 0 → (ts.length : Int) - g.2.2.at_ ≤ g.1) ∧ g.2.1.length + g.1 ≤ ts.length) (fun g => g.1) ((ts.length, [], p)) (⟨h, rfl, by have := h.at_.lo; simp only; omega, by simp⟩) subtA ⟨⟨⟨rfl, rfl, rfl⟩, rfl, rfl, fun j hj => absurd hj (Nat.not_lt_zero j)⟩, ⟨rfl, Le.refl _, Le.refl _, Le.refl _, Le.refl _, Le.refl _, Le.refl _, trivial⟩, SoLe.refl _, trivial⟩ (fun _ => rfl) (by kernel_rfl) ?_; (conv => whnf))
  rintro ⟨m, l, r⟩ ⟨hP, hj, hk, hl⟩
  simp only at hP hj hk hl
  (repeat' ((conv => whnf); first | refine zA ?_ | refine zO ?_ | refine Ob.auto ?_ | (refine Ob.intro (by (exact inR_i64 (by dsimp only; omega) (by dsimp only; omega))) ?_) | refine zC 600 (pok_con) ?_ | refine zG 600 (fun hg => pok_con) ?_ | (refine CallY.con (pok_con) (by rfl) leA ?_) | (refine CallZ.con (fun hg => pok_con) rflsA (by rfl) ?_) | refine zC 600 (pnow_con hP.at_) ?_ | refine zG 600 (fun hg => pnow_con hP.at_) ?_ | (refine CallY.con (pnow_con hP.at_) (by rfl) leA ?_) | (refine CallZ.con (fun hg => pnow_con hP.at_) rflsA (by rfl) ?_) | refine zE 600 (pok_con) ?_ | refine zF 600 (fun hg => pok_con) ?_ | refine zE 600 (pnow_con hP.at_) ?_ | refine zF 600 (fun hg => pnow_con hP.at_) ?_ | refine zD 600 ?_ | (refine Br.intro (fun hb => ?_) (fun hb => ?_) <;> (try simp [-List.getD_eq_getElem?_getD] at hb) <;> (try (exfalso; omega))) | refine Ob.intro ?_ ?_))
  · obtain ⟨he', hk3⟩ := hb
    have hQ := hP
    have hm : 1 ≤ m := by have := hk he'; have := hP.at_.hi; omega
    obtain ⟨m, rfl⟩ : ∃ m', m = m' + 1 := ⟨m - 1, by omega⟩
    rw [itemsL, if_pos ⟨he', hk3⟩] at hj
    dsimp only
    ((conv => whnf); refine draw3 (fun _ => rfl) (by kernel_rfl) 600 [.turn [0] [.ptr 0 0] [pso ts r] (itemF ts r).1.av [(0, pso ts (itemF ts r).2)]] (by kernel_rfl) ?_)
    (repeat' ((conv => whnf); first | refine zA ?_ | refine zO ?_ | refine Ob.auto ?_ | (refine Ob.intro (by (exact ⟨by omega, by omega⟩)) ?_) | refine zD 600 ?_ | (refine Br.intro (fun hb => ?_) (fun hb => ?_) <;> (try simp [-List.getD_eq_getElem?_getD] at hb) <;> (try (exfalso; omega))) | refine Ob.intro ?_ ?_))
    · exact ⟨item_rd ht hP, by kernel_rfl, leA, subtA, by exact rowsLt_nil rfl, by exact rowsLt_nil rfl⟩
    have hst := runs_item ht r hP.at_
    have hk' : (itemF ts r).2.err = 0 → (ts.length : Int) - (itemF ts r).2.at_ ≤ m := fun h => by have := gains_item ht r hP.at_ h; have := hk he'; omega
    have hlen : l.length + 1 = (l ++ [(itemF ts r).1]).length := by rw [List.length_append]; rfl
    ((conv => whnf); refine ⟨(m, l ++ [(itemF ts r).1], (itemF ts r).2), ⟨hP.step hst, hj, hk', by simp; omega⟩, ⟨subtA, ⟨⟨⟨rfl, rfl, rfl⟩, rfl, hlen, kids_app (t := (itemF ts r).1) rfl⟩, ⟨rfl, Le.refl _, Le.refl _, Le.refl _, Le.refl _, Le.refl _, Le.of_eq (congrArg (AV.own _ _ _) hlen), trivial⟩, subtA⟩⟩, ⟨subtA, subtA⟩, ?_⟩; (first | omega | (dsimp only; omega) | skip))
  · have hn : ¬ (r.err = 0 ∧ (tk ts r).kind ≠ 3) := fun h => h.2 (hb h.1)
    have e2 : itemsL ts ts.length [] p = (l, r) := by
      rw [← hj]
      cases m with
      | zero => rfl
      | succ m => rw [itemsL, if_neg hn]
    have e5 : programF ts p = (.mk 0 [] [] (tk ts p).pos l, r) := by unfold programF; rw [e2]
    rw [e5]
    (refine ⟨Le.agg ⟨Le.refl _, ?_, ?_, Le.refl _, Le.refl _, ?_, trivial⟩, subtA⟩ <;> first | exact Le.nils _ _ | exact Le.refl _ | exact one_int rfl | exact one_str rfl | exact kids_one rfl | exact two_int rfl rfl | exact two_str rfl rfl | exact kids_two' rfl rfl | exact kids_three rfl rfl rfl | exact kidsR_le (fun _ _ => rfl))
end

end Go.Proofs.Ytdoaagphhjggbaa
