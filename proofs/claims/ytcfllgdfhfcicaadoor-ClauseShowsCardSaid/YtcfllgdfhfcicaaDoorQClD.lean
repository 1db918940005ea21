/- Contracts: the text of clauses by the document's answer. -/
import Derived.Test.YtcfllgdfhfcicaaDoorQClC
import Derived.Test.YtcfllgdfhfcicaaDoorQDg
set_option linter.unusedSimpArgs false
set_option linter.unusedVariables false
namespace Go.Proofs.YtcfllgdfhfcicaaDoor
open Go Go.Sx Go.RowKit Go.St Go.Cl
set_option maxRecDepth 100000
set_option maxHeartbeats 4000000

theorem eq_of_getD' {α : Type} (d : α) {a b : List α} (h : a.length = b.length) (hj : ∀ j, j < a.length → a.getD j d = b.getD j d) : a = b := by
  apply List.ext_getElem h
  intro j h1 h2
  have := hj j h1
  rw [List.getD_eq_getElem?_getD, List.getElem?_eq_getElem h1, List.getD_eq_getElem?_getD, List.getElem?_eq_getElem h2] at this
  exact this

theorem lists_con01 (a b : List (List Int)) (hl : a.length ≤ 1000000) (hm : ∀ c ∈ a, c.length ≤ 1000000) : Con Tryd.prog 26 [listsV a, listsV b] (.bool (a == b)) := by
  refine con_of_exec (T := tab Tryd.prog) (C := {}) 300 (fun _ => rfl) Tryd.func26 rfl (by kernel_rfl) (by kernel_rfl) (fun c0 rdb => ?_)
  (repeat' ((conv => whnf); first | (refine AltG.none (by kernel_rfl) (EndG.go ?_)) | (refine Ob.intro (OrdG.intro (by kernel_rfl)) ?_) | (refine Ob.auto ?_) | (refine draw3n (fun _ => rfl) (by kernel_rfl) 300 (by rfl) ?_) | (refine Br.intro (fun hb => ?_) (fun hb => ?_) <;> (try simp [-List.getD_eq_getElem?_getD] at hb) <;> (try (exfalso; omega))) | (refine Ob.intro ?_ ?_)))
  · refine Le.of_eq (congrArg AV.bool (beq_eq_false_iff_ne.2 fun h => ?_).symm)
    rw [h] at hb; exact hb rfl
  have hlen : a.length = b.length := by omega
  ((conv => whnf); refine loop_auto (fun _ => rfl) 300 1 (fun i : Nat => [(5, iv i)]) (fun _ => []) (fun i => i ≤ a.length ∧ ∀ j, j < i → a.getD j [] = b.getD j []) (fun i => a.length - i) (0) (⟨by omega, fun j hj => absurd hj (Nat.not_lt_zero j)⟩) subtA subtA (fun _ => rfl) (by kernel_rfl) ?_; (conv => whnf))
  intro i hi
  by_cases hil : i < a.length
  · have hc := rints_con01 (a.getD i []) (b.getD i []) (hm _ (getD_mem a i [] hil))
    by_cases he : a.getD i [] = b.getD i []
    · rw [beq_iff_eq.2 he] at hc
      (repeat' ((conv => whnf); first | (refine Ob.intro (OrdG.intro (by kernel_rfl)) ?_) | (refine Ob.auto ?_) | (refine Ob.intro (by (exact ⟨by omega, by omega⟩)) ?_) | (refine call_eq (fun _ => rfl) 300 (hc) (by rfl) (by kernel_rfl) ?_) | (refine gcall_eq (fun _ => rfl) 300 (fun hg => hc) (by rfl) rflsA (by kernel_rfl) ?_) | (refine CallX.intro _ (callOb (hc) (by rfl)) ?_) | (refine CallX.intro _ (callObG (fun hg => hc) rflsA (by rfl)) ?_) | (refine call_lend (fun _ => rfl) 300 (hc) holdA (by repeat' (first | exact trivial | exact Le.refl _ | (refine And.intro ?_ ?_))) (by rfl) (by kernel_rfl) ?_) | (refine gcall_lend (fun _ => rfl) 300 (fun hg => hc) (fun hg => holdA) (fun hg => (by repeat' (first | exact trivial | exact Le.refl _ | exact Le.cnd hg | (refine And.intro ?_ ?_)))) (by rfl) (by kernel_rfl) ?_) | (refine draw3_x (fun _ => rfl) (by kernel_rfl) 300 ?_) | (refine Br.intro (fun hb => ?_) (fun hb => ?_) <;> (try simp [-List.getD_eq_getElem?_getD] at hb) <;> (try (exfalso; omega))) | (refine Ob.intro ?_ ?_)))
      ((conv => whnf); refine ⟨i + 1, ⟨by omega, upto_succ hi.2 he⟩, ⟨subtA, subtA⟩, ⟨subtA, subtA⟩, ?_⟩; (first | omega | (dsimp only; omega) | skip))
    · rw [beq_eq_false_iff_ne.2 he] at hc
      (repeat' ((conv => whnf); first | (refine Ob.intro (OrdG.intro (by kernel_rfl)) ?_) | (refine Ob.auto ?_) | (refine Ob.intro (by (exact ⟨by omega, by omega⟩)) ?_) | (refine call_eq (fun _ => rfl) 300 (hc) (by rfl) (by kernel_rfl) ?_) | (refine gcall_eq (fun _ => rfl) 300 (fun hg => hc) (by rfl) rflsA (by kernel_rfl) ?_) | (refine CallX.intro _ (callOb (hc) (by rfl)) ?_) | (refine CallX.intro _ (callObG (fun hg => hc) rflsA (by rfl)) ?_) | (refine call_lend (fun _ => rfl) 300 (hc) holdA (by repeat' (first | exact trivial | exact Le.refl _ | (refine And.intro ?_ ?_))) (by rfl) (by kernel_rfl) ?_) | (refine gcall_lend (fun _ => rfl) 300 (fun hg => hc) (fun hg => holdA) (fun hg => (by repeat' (first | exact trivial | exact Le.refl _ | exact Le.cnd hg | (refine And.intro ?_ ?_)))) (by rfl) (by kernel_rfl) ?_) | (refine draw3_x (fun _ => rfl) (by kernel_rfl) 300 ?_) | (refine Br.intro (fun hb => ?_) (fun hb => ?_) <;> (try simp [-List.getD_eq_getElem?_getD] at hb) <;> (try (exfalso; omega))) | (refine Ob.intro ?_ ?_)))
      refine Le.of_eq (congrArg AV.bool (beq_eq_false_iff_ne.2 fun h => ?_).symm)
      rw [h] at he; exact he rfl
  · obtain rfl : i = a.length := by omega
    (repeat' ((conv => whnf); first | (refine AltG.none (by kernel_rfl) (EndG.go ?_)) | (refine Ob.intro (OrdG.intro (by kernel_rfl)) ?_) | (refine Ob.auto ?_) | (refine Ob.intro (by (exact ⟨by omega, by omega⟩)) ?_) | (refine draw3n (fun _ => rfl) (by kernel_rfl) 300 (by rfl) ?_) | (refine Br.intro (fun hb => ?_) (fun hb => ?_) <;> (try simp [-List.getD_eq_getElem?_getD] at hb) <;> (try (exfalso; omega))) | (refine Ob.intro ?_ ?_)))
    refine Le.of_eq (congrArg AV.bool (beq_iff_eq.2 ?_).symm)
    exact eq_of_getD' [] hlen fun j hj => hi.2 j hj

theorem rnumber_con01 (w : List UInt8) (hw : w.length ≤ 1000000) : Con Tryd.prog 50 [.str w] (.tup [iv (numR w).1, .bool (numR w).2]) := by
  have hb0 : byteAt w 0 = ((w.getD 0 0).toNat : Int) := rfl
  by_cases hm : w.head? = some 45
  · have hb45 : byteAt w 0 = 45 := by
      cases w with
      | nil => cases hm
      | cons b w => obtain rfl : b = 45 := by simpa using hm
                    rfl
    have hl : 0 < w.length := by
      cases w with
      | nil => cases hm
      | cons b w => simp
    have hdl : (w.drop 1).length ≤ w.length := by rw [List.length_drop]; omega
    have hR : numR w = if (numP (w.drop 1)).2 = true ∧ (numP (w.drop 1)).1 ≠ 0 then (-(numP (w.drop 1)).1, true) else (0, false) := if_pos hm
    have hRn : numP (w.drop 1) = (0, false) → numR w = (0, false) := fun h => by rw [hR, h]; rfl
    refine con_of_exec (T := tab Tryd.prog) (C := {}) 300 (fun _ => rfl) Tryd.func50 rfl (by kernel_rfl) (by kernel_rfl) (fun c0 rdb => ?_)
    (repeat' ((conv => whnf); first | (refine AltG.none (by kernel_rfl) (EndG.go ?_)) | (refine Ob.intro (OrdG.intro (by kernel_rfl)) ?_) | (refine Ob.auto ?_) | (refine Ob.intro (by (exact ⟨by omega, by omega⟩)) ?_) | (refine draw3n (fun _ => rfl) (by kernel_rfl) 300 (by rfl) ?_) | (refine Br.intro (fun hb => ?_) (fun hb => ?_) <;> (try simp [-List.getD_eq_getElem?_getD] at hb) <;> (try (exfalso; omega))) | (refine Ob.intro ?_ ?_)))
    all_goals try (exfalso; omega)
    rw [show (decide (0 < (w.length : Int)) && byteAt w 0 == 45) = true by rw [hb45, decide_eq_true (by omega)]; rfl]
    rw [show List.drop (Int.toNat 1) w = w.drop 1 from rfl]
    generalize w.drop 1 = d at hR hRn hdl ⊢
    ((conv => whnf); refine loop_auto (fun _ => rfl) 300 1 (fun i : Nat => [(5, iv (valD (d.take i))), (6, iv i)]) (fun _ => []) (fun i => i ≤ d.length ∧ i ≤ 6 ∧ (d.take i).all digB = true) (fun i => d.length - i) (0) (⟨Nat.zero_le _, Nat.zero_le _, rfl⟩) subtA subtA (fun _ => rfl) (by kernel_rfl) ?_; (conv => whnf))
    intro i hi
    have hv := valD_le (d.take i) hi.2.2
    have hp : (10 : Int) ^ (d.take i).length ≤ 1000000 := pow_six _ (by rw [List.length_take]; omega)
    by_cases hil : i < d.length
    · have hnx := valD_next d i hil
      have hal : (d.take (i + 1)).all digB = digB (d.getD i 0) := by
        have h : d.take (i + 1) = d.take i ++ [d.getD i 0] := by
          rw [List.take_add_one, List.getD_eq_getElem?_getD, List.getElem?_eq_getElem hil]; rfl
        rw [h, List.all_append, hi.2.2]; simp
      have hbt : byteAt d (i : Int) = ((d.getD i 0).toNat : Int) := rfl
      have hu := (d.getD i 0).toNat_lt
      (repeat' ((conv => whnf); first | (refine AltG.none (by kernel_rfl) (EndG.go ?_)) | (refine Ob.intro (OrdG.intro (by kernel_rfl)) ?_) | (refine Ob.auto ?_) | (refine Ob.intro (by (first | exact ⟨by omega, by omega⟩ | exact ⟨by show (0 : Int) ≤ _; omega, by show _ ≤ (255 : Int); omega⟩)) ?_) | (refine draw3n (fun _ => rfl) (by kernel_rfl) 300 (by rfl) ?_) | (refine Br.intro (fun hb => ?_) (fun hb => ?_) <;> (try simp [-List.getD_eq_getElem?_getD] at hb) <;> (try (exfalso; omega))) | (refine Ob.intro ?_ ?_)))
      · rw [hRn (if_neg fun h => ?_)]
        · exact Le.refl _
        · have := List.all_eq_true.1 h.2.2 _ (getD_mem d i 0 hil)
          have := of_decide_eq_true this
          omega
      · have hdg : digB (d.getD i 0) = true := decide_eq_true (by omega)
        rw [hdg] at hal
        ((conv => whnf); refine ⟨i + 1, ⟨by omega, by omega, hal⟩, ⟨⟨Le.of_eq (congrArg (AV.int _) hnx.symm), Le.refl _, trivial⟩, trivial⟩, ⟨subtA, subtA⟩, ?_⟩; (first | omega | (dsimp only; omega) | skip))
    · obtain he : i = d.length := by omega
      have hda : d.all digB = true := by have := hi.2.2; rw [he, List.take_length] at this; exact this
      rw [he, List.take_length] at hv hp ⊢
      by_cases hd0 : d = []
      · rw [hRn (if_neg fun h => by rw [hd0] at h; simp at h)]
        (repeat' ((conv => whnf); first | (refine AltG.none (by kernel_rfl) (EndG.go ?_)) | (refine Ob.intro (OrdG.intro (by kernel_rfl)) ?_) | (refine Ob.auto ?_) | (refine Ob.intro (by (exact ⟨by omega, by omega⟩)) ?_) | (refine draw3n (fun _ => rfl) (by kernel_rfl) 300 (by rfl) ?_) | (refine Br.intro (fun hb => ?_) (fun hb => ?_) <;> (try simp [-List.getD_eq_getElem?_getD] at hb) <;> (try (exfalso; omega))) | (refine Ob.intro ?_ ?_)))
        all_goals first | exact Le.refl _ | (exfalso; omega) | (exfalso; simp_all; done)
      · have hn := numP_at (l := d) (List.length_pos_iff.2 hd0) (by omega) hda
        rw [hn] at hR
        rw [hR]
        by_cases hz : valD d = 0
        · rw [if_neg (fun h => h.2 hz)]
          (repeat' ((conv => whnf); first | (refine AltG.none (by kernel_rfl) (EndG.go ?_)) | (refine Ob.intro (OrdG.intro (by kernel_rfl)) ?_) | (refine Ob.auto ?_) | (refine Ob.intro (by (exact ⟨by omega, by omega⟩)) ?_) | (refine draw3n (fun _ => rfl) (by kernel_rfl) 300 (by rfl) ?_) | (refine Br.intro (fun hb => ?_) (fun hb => ?_) <;> (try simp [-List.getD_eq_getElem?_getD] at hb) <;> (try (exfalso; omega))) | (refine Ob.intro ?_ ?_)))
          all_goals first | exact Le.refl _ | (exfalso; omega) | (exfalso; simp_all; done)
        · rw [if_pos ⟨rfl, hz⟩]
          (repeat' ((conv => whnf); first | (refine AltG.none (by kernel_rfl) (EndG.go ?_)) | (refine Ob.intro (OrdG.intro (by kernel_rfl)) ?_) | (refine Ob.auto ?_) | (refine Ob.intro (by (exact ⟨by omega, by omega⟩)) ?_) | (refine draw3n (fun _ => rfl) (by kernel_rfl) 300 (by rfl) ?_) | (refine Br.intro (fun hb => ?_) (fun hb => ?_) <;> (try simp [-List.getD_eq_getElem?_getD] at hb) <;> (try (exfalso; omega))) | (refine Ob.intro ?_ ?_)))
          all_goals first | exact Le.refl _ | (exfalso; omega) | (exfalso; simp_all; done) | exact Le.tup ⟨Le.of_eq (congrArg (AV.int _) (Int.zero_sub _)), Le.refl _, trivial⟩
  · have hb45 : 0 < w.length → ¬ byteAt w 0 = 45 := fun h e => by
      cases w with
      | nil => simp at h
      | cons b w =>
        apply hm
        rw [hb0] at e
        have e : (b.toNat : Int) = 45 := e
        rw [show b = 45 from UInt8.toNat_inj.1 (by show b.toNat = 45; omega)]
        rfl
    have hR : numR w = numP w := if_neg hm
    have hRn : numP w = (0, false) → numR w = (0, false) := fun h => by rw [hR, h]
    refine con_of_exec (T := tab Tryd.prog) (C := {}) 300 (fun _ => rfl) Tryd.func50 rfl (by kernel_rfl) (by kernel_rfl) (fun c0 rdb => ?_)
    (repeat' ((conv => whnf); first | (refine AltG.none (by kernel_rfl) (EndG.go ?_)) | (refine Ob.intro (OrdG.intro (by kernel_rfl)) ?_) | (refine Ob.auto ?_) | (refine Ob.intro (by (exact ⟨by omega, by omega⟩)) ?_) | (refine draw3n (fun _ => rfl) (by kernel_rfl) 300 (by rfl) ?_) | (refine Br.intro (fun hb => ?_) (fun hb => ?_) <;> (try simp [-List.getD_eq_getElem?_getD] at hb) <;> (try (exfalso; omega))) | (refine Ob.intro ?_ ?_)))
    all_goals try (exfalso; omega)
    rw [show (decide (0 < (w.length : Int)) && byteAt w 0 == 45) = false by
      by_cases h : 0 < w.length
      · rw [beq_eq_false_iff_ne.2 (hb45 h), Bool.and_false]
      · rw [decide_eq_false (by omega)]; rfl]
    clear hb45 hb hm hb0
    ((conv => whnf); refine loop_auto (fun _ => rfl) 300 1 (fun i : Nat => [(5, iv (valD (w.take i))), (6, iv i)]) (fun _ => []) (fun i => i ≤ w.length ∧ i ≤ 6 ∧ (w.take i).all digB = true) (fun i => w.length - i) (0) (⟨Nat.zero_le _, Nat.zero_le _, rfl⟩) subtA subtA (fun _ => rfl) (by kernel_rfl) ?_; (conv => whnf))
    intro i hi
    have hv := valD_le (w.take i) hi.2.2
    have hp : (10 : Int) ^ (w.take i).length ≤ 1000000 := pow_six _ (by rw [List.length_take]; omega)
    by_cases hil : i < w.length
    · have hnx := valD_next w i hil
      have hal : (w.take (i + 1)).all digB = digB (w.getD i 0) := by
        have h : w.take (i + 1) = w.take i ++ [w.getD i 0] := by
          rw [List.take_add_one, List.getD_eq_getElem?_getD, List.getElem?_eq_getElem hil]; rfl
        rw [h, List.all_append, hi.2.2]; simp
      have hbt : byteAt w (i : Int) = ((w.getD i 0).toNat : Int) := rfl
      have hu := (w.getD i 0).toNat_lt
      (repeat' ((conv => whnf); first | (refine AltG.none (by kernel_rfl) (EndG.go ?_)) | (refine Ob.intro (OrdG.intro (by kernel_rfl)) ?_) | (refine Ob.auto ?_) | (refine Ob.intro (by (first | exact ⟨by omega, by omega⟩ | exact ⟨by show (0 : Int) ≤ _; omega, by show _ ≤ (255 : Int); omega⟩)) ?_) | (refine draw3n (fun _ => rfl) (by kernel_rfl) 300 (by rfl) ?_) | (refine Br.intro (fun hb => ?_) (fun hb => ?_) <;> (try simp [-List.getD_eq_getElem?_getD] at hb) <;> (try (exfalso; omega))) | (refine Ob.intro ?_ ?_)))
      · rw [hRn (if_neg fun h => ?_)]
        · exact Le.refl _
        · have := List.all_eq_true.1 h.2.2 _ (getD_mem w i 0 hil)
          have := of_decide_eq_true this
          omega
      · have hdg : digB (w.getD i 0) = true := decide_eq_true (by omega)
        rw [hdg] at hal
        ((conv => whnf); refine ⟨i + 1, ⟨by omega, by omega, hal⟩, ⟨⟨Le.of_eq (congrArg (AV.int _) hnx.symm), Le.refl _, trivial⟩, trivial⟩, ⟨subtA, subtA⟩, ?_⟩; (first | omega | (dsimp only; omega) | skip))
    · obtain he : i = w.length := by omega
      have hda : w.all digB = true := by have := hi.2.2; rw [he, List.take_length] at this; exact this
      rw [he, List.take_length] at hv hp ⊢
      by_cases hd0 : w = []
      · rw [hRn (if_neg fun h => by rw [hd0] at h; simp at h)]
        (repeat' ((conv => whnf); first | (refine AltG.none (by kernel_rfl) (EndG.go ?_)) | (refine Ob.intro (OrdG.intro (by kernel_rfl)) ?_) | (refine Ob.auto ?_) | (refine Ob.intro (by (exact ⟨by omega, by omega⟩)) ?_) | (refine draw3n (fun _ => rfl) (by kernel_rfl) 300 (by rfl) ?_) | (refine Br.intro (fun hb => ?_) (fun hb => ?_) <;> (try simp [-List.getD_eq_getElem?_getD] at hb) <;> (try (exfalso; omega))) | (refine Ob.intro ?_ ?_)))
        all_goals first | exact Le.refl _ | (exfalso; omega) | (exfalso; simp_all; done)
      · have hn := numP_at (l := w) (List.length_pos_iff.2 hd0) (by omega) hda
        rw [hn] at hR
        rw [hR]
        (repeat' ((conv => whnf); first | (refine AltG.none (by kernel_rfl) (EndG.go ?_)) | (refine Ob.intro (OrdG.intro (by kernel_rfl)) ?_) | (refine Ob.auto ?_) | (refine Ob.intro (by (exact ⟨by omega, by omega⟩)) ?_) | (refine draw3n (fun _ => rfl) (by kernel_rfl) 300 (by rfl) ?_) | (refine Br.intro (fun hb => ?_) (fun hb => ?_) <;> (try simp [-List.getD_eq_getElem?_getD] at hb) <;> (try (exfalso; omega))) | (refine Ob.intro ?_ ?_)))
        all_goals first | exact Le.refl _ | (exfalso; omega) | (exfalso; simp_all; done)

theorem rshow_con01 (cs : List (List Int)) (hl : cs.length ≤ 1000) (hm : ∀ c ∈ cs, c.length ≤ 1000) : Con Tryd.prog 22 [listsV cs] (.str (showT cs)) := by
  have hg := greatL_le cs
  have hgc := rgreat_con cs (by omega) (fun c h => by have := hm c h; omega)
  have hi1 := Lib.itoa_length_le (greatL cs) (by omega) (by omega)
  have hi2 := Lib.itoa_length_le (cs.length : Int) (by omega) (by omega)
  have d1 := digits_con (greatL cs) (by omega) (by omega)
  have d2 := digits_con (cs.length : Int) (by omega) (by omega)
  refine con_of_exec (T := tab Tryd.prog) (C := {}) 300 (fun _ => rfl) Tryd.func22 rfl (by kernel_rfl) (by kernel_rfl) (fun c0 rdb => ?_)
  (repeat' ((conv => whnf); first | (refine AltG.none (by kernel_rfl) (EndG.go ?_)) | (refine Ob.intro (OrdG.intro (by kernel_rfl)) ?_) | (refine Ob.auto ?_) | (refine Ob.intro (by (first | exact ⟨by omega, by omega⟩ | (show _ ≤ (9223372036854775807 : Nat); simp; omega))) ?_) | (refine call_eq (fun _ => rfl) 300 (hgc) (by rfl) (by kernel_rfl) ?_) | (refine gcall_eq (fun _ => rfl) 300 (fun hg => hgc) (by rfl) rflsA (by kernel_rfl) ?_) | (refine CallY.con (hgc) (by rfl) leA ?_) | (refine CallZ.con (fun hg => hgc) rflsA (by rfl) ?_) | (refine call_eq (fun _ => rfl) 300 (d1) (by rfl) (by kernel_rfl) ?_) | (refine gcall_eq (fun _ => rfl) 300 (fun hg => d1) (by rfl) rflsA (by kernel_rfl) ?_) | (refine CallY.con (d1) (by rfl) leA ?_) | (refine CallZ.con (fun hg => d1) rflsA (by rfl) ?_) | (refine call_eq (fun _ => rfl) 300 (d2) (by rfl) (by kernel_rfl) ?_) | (refine gcall_eq (fun _ => rfl) 300 (fun hg => d2) (by rfl) rflsA (by kernel_rfl) ?_) | (refine CallY.con (d2) (by rfl) leA ?_) | (refine CallZ.con (fun hg => d2) rflsA (by rfl) ?_) | (refine call_lend (fun _ => rfl) 300 (hgc) holdA (by repeat' (first | exact trivial | exact Le.refl _ | (refine And.intro ?_ ?_))) (by rfl) (by kernel_rfl) ?_) | (refine gcall_lend (fun _ => rfl) 300 (fun hg => hgc) (fun hg => holdA) (fun hg => (by repeat' (first | exact trivial | exact Le.refl _ | exact Le.cnd hg | (refine And.intro ?_ ?_)))) (by rfl) (by kernel_rfl) ?_) | (refine call_lend (fun _ => rfl) 300 (d1) holdA (by repeat' (first | exact trivial | exact Le.refl _ | (refine And.intro ?_ ?_))) (by rfl) (by kernel_rfl) ?_) | (refine gcall_lend (fun _ => rfl) 300 (fun hg => d1) (fun hg => holdA) (fun hg => (by repeat' (first | exact trivial | exact Le.refl _ | exact Le.cnd hg | (refine And.intro ?_ ?_)))) (by rfl) (by kernel_rfl) ?_) | (refine call_lend (fun _ => rfl) 300 (d2) holdA (by repeat' (first | exact trivial | exact Le.refl _ | (refine And.intro ?_ ?_))) (by rfl) (by kernel_rfl) ?_) | (refine gcall_lend (fun _ => rfl) 300 (fun hg => d2) (fun hg => holdA) (fun hg => (by repeat' (first | exact trivial | exact Le.refl _ | exact Le.cnd hg | (refine And.intro ?_ ?_)))) (by rfl) (by kernel_rfl) ?_) | (refine draw3n (fun _ => rfl) (by kernel_rfl) 300 (by rfl) ?_) | (refine Br.intro (fun hb => ?_) (fun hb => ?_) <;> (try simp [-List.getD_eq_getElem?_getD] at hb) <;> (try (exfalso; omega))) | (refine Ob.intro ?_ ?_)))
  have hh : (headT cs).length ≤ 60 := by simp [headT]; omega
  ((conv => whnf); refine loop_auto (fun _ => rfl) 300 1 (fun i : Nat => [(3, .str (txtI cs i)), (4, iv i)]) (fun _ => []) (fun i => i ≤ cs.length ∧ ∀ j, j < i → rightB (cs.getD j []) = true) (fun i => cs.length - i) (0) (⟨Nat.zero_le _, fun j hj => absurd hj (Nat.not_lt_zero j)⟩) ⟨Le.of_eq (congrArg AV.str (by simp [txtI, bodyC, headT])), Le.refl _, trivial⟩ subtA (fun _ => rfl) (by kernel_rfl) ?_; (conv => whnf))
  intro i hi
  have hall : (cs.take i).all rightB = true := by
    rw [List.all_eq_true]
    intro c hc
    obtain ⟨j, hj, rfl⟩ := List.mem_iff_getElem.1 hc
    have hj' : j < i := by rw [List.length_take] at hj; omega
    have := hi.2 j hj'
    rw [List.getD_eq_getElem?_getD, List.getElem?_eq_getElem (by omega)] at this
    simpa using this
  have hbl := bodyC_le (cs.take i) hall (fun c hc => hm c (List.mem_of_mem_take hc)) _ (Nat.le_refl _)
  rw [List.take_length, List.length_take] at hbl
  have htl : (txtI cs i).length ≤ 60 + 22002 * i := by unfold txtI; rw [List.length_append]; omega
  by_cases hil : i < cs.length
  · have hcl := hm _ (getD_mem cs i [] hil)
    have hrc := rright_con01 (cs.getD i []) (by omega)
    cases hr : rightB (cs.getD i []) with
    | false =>
      rw [hr] at hrc
      (repeat' ((conv => whnf); first | (refine AltG.none (by kernel_rfl) (EndG.go ?_)) | (refine Ob.intro (OrdG.intro (by kernel_rfl)) ?_) | (refine Ob.auto ?_) | (refine Ob.intro (by (exact ⟨by omega, by omega⟩)) ?_) | (refine call_eq (fun _ => rfl) 300 (hrc) (by rfl) (by kernel_rfl) ?_) | (refine gcall_eq (fun _ => rfl) 300 (fun hg => hrc) (by rfl) rflsA (by kernel_rfl) ?_) | (refine CallY.con (hrc) (by rfl) leA ?_) | (refine CallZ.con (fun hg => hrc) rflsA (by rfl) ?_) | (refine call_lend (fun _ => rfl) 300 (hrc) holdA (by repeat' (first | exact trivial | exact Le.refl _ | (refine And.intro ?_ ?_))) (by rfl) (by kernel_rfl) ?_) | (refine gcall_lend (fun _ => rfl) 300 (fun hg => hrc) (fun hg => holdA) (fun hg => (by repeat' (first | exact trivial | exact Le.refl _ | exact Le.cnd hg | (refine And.intro ?_ ?_)))) (by rfl) (by kernel_rfl) ?_) | (refine draw3n (fun _ => rfl) (by kernel_rfl) 300 (by rfl) ?_) | (refine Br.intro (fun hb => ?_) (fun hb => ?_) <;> (try simp [-List.getD_eq_getElem?_getD] at hb) <;> (try (exfalso; omega))) | (refine Ob.intro ?_ ?_)))
      rw [show showT cs = [] from ?_]
      · exact Le.refl _
      · unfold showT
        rw [show cs.all rightB = false from ?_]
        · rfl
        · rw [Bool.eq_false_iff]
          intro h
          have := List.all_eq_true.1 h _ (getD_mem cs i [] hil)
          rw [hr] at this; cases this
    | true =>
      rw [hr] at hrc
      (repeat' ((conv => whnf); first | (refine AltG.none (by kernel_rfl) (EndG.go ?_)) | (refine Ob.intro (OrdG.intro (by kernel_rfl)) ?_) | (refine Ob.auto ?_) | (refine Ob.intro (by (exact ⟨by omega, by omega⟩)) ?_) | (refine call_eq (fun _ => rfl) 300 (hrc) (by rfl) (by kernel_rfl) ?_) | (refine gcall_eq (fun _ => rfl) 300 (fun hg => hrc) (by rfl) rflsA (by kernel_rfl) ?_) | (refine CallY.con (hrc) (by rfl) leA ?_) | (refine CallZ.con (fun hg => hrc) rflsA (by rfl) ?_) | (refine call_lend (fun _ => rfl) 300 (hrc) holdA (by repeat' (first | exact trivial | exact Le.refl _ | (refine And.intro ?_ ?_))) (by rfl) (by kernel_rfl) ?_) | (refine gcall_lend (fun _ => rfl) 300 (fun hg => hrc) (fun hg => holdA) (fun hg => (by repeat' (first | exact trivial | exact Le.refl _ | exact Le.cnd hg | (refine And.intro ?_ ?_)))) (by rfl) (by kernel_rfl) ?_) | (refine draw3n (fun _ => rfl) (by kernel_rfl) 300 (by rfl) ?_) | (refine Br.intro (fun hb => ?_) (fun hb => ?_) <;> (try simp [-List.getD_eq_getElem?_getD] at hb) <;> (try (exfalso; omega))) | (refine Ob.intro ?_ ?_)))
      ((conv => whnf); refine loop_auto (fun _ => rfl) 300 2 (fun k : Nat => [(3, .str (txtI cs i ++ lineT ((cs.getD i []).take k))), (5, iv k)]) (fun _ => []) (fun k => k ≤ (cs.getD i []).length) (fun k => (cs.getD i []).length - k) (0) (Nat.zero_le _) ⟨Le.of_eq (congrArg AV.str (by simp [lineT])), Le.refl _, trivial⟩ subtA (fun _ => rfl) (by kernel_rfl) ?_; (conv => whnf))
      intro k hk
      have hkl := lineT_le _ hr k
      have hlen : (txtI cs i ++ lineT ((cs.getD i []).take k)).length ≤ 60 + 22002 * i + 22 * k := by rw [List.length_append]; omega
      by_cases hkc : k < (cs.getD i []).length
      · have hnx := lineT_next _ k hkc
        have hx := (lit_iff _).1 (List.all_eq_true.1 hr _ (getD_mem _ k 0 hkc))
        have hi3 := Lib.itoa_length_le ((cs.getD i []).getD k 0) (by omega) (by omega)
        have hic := digits_con ((cs.getD i []).getD k 0) (by omega) (by omega)
        have e : (txtI cs i ++ lineT ((cs.getD i []).take k)) ++ Lib.itoa ((cs.getD i []).getD k 0) ++ [32] = txtI cs i ++ lineT ((cs.getD i []).take (k + 1)) := by rw [hnx]; simp
        generalize (txtI cs i ++ lineT ((cs.getD i []).take k)) = T at hlen e ⊢
        (repeat' ((conv => whnf); first | (refine Ob.intro (OrdG.intro (by kernel_rfl)) ?_) | (refine Ob.auto ?_) | (refine Ob.intro (by (first | exact ⟨by omega, by omega⟩ | (show _ ≤ (9223372036854775807 : Nat); simp [-List.getD_eq_getElem?_getD]; omega))) ?_) | (refine call_eq (fun _ => rfl) 300 (hic) (by rfl) (by kernel_rfl) ?_) | (refine gcall_eq (fun _ => rfl) 300 (fun hg => hic) (by rfl) rflsA (by kernel_rfl) ?_) | (refine CallX.intro _ (callOb (hic) (by rfl)) ?_) | (refine CallX.intro _ (callObG (fun hg => hic) rflsA (by rfl)) ?_) | (refine call_lend (fun _ => rfl) 300 (hic) holdA (by repeat' (first | exact trivial | exact Le.refl _ | (refine And.intro ?_ ?_))) (by rfl) (by kernel_rfl) ?_) | (refine gcall_lend (fun _ => rfl) 300 (fun hg => hic) (fun hg => holdA) (fun hg => (by repeat' (first | exact trivial | exact Le.refl _ | exact Le.cnd hg | (refine And.intro ?_ ?_)))) (by rfl) (by kernel_rfl) ?_) | (refine draw3_x (fun _ => rfl) (by kernel_rfl) 300 ?_) | (refine Br.intro (fun hb => ?_) (fun hb => ?_) <;> (try simp [-List.getD_eq_getElem?_getD] at hb) <;> (try (exfalso; omega))) | (refine Ob.intro ?_ ?_)))
        ((conv => whnf); refine ⟨k + 1, by omega, ⟨⟨Le.of_eq (congrArg AV.str e), Le.refl _, trivial⟩, trivial⟩, ⟨subtA, subtA⟩, ?_⟩; (first | omega | (dsimp only; omega) | skip))
      · obtain rfl : k = (cs.getD i []).length := by omega
        have e : (txtI cs i ++ lineT ((cs.getD i []).take (cs.getD i []).length)) ++ [48, 10] = txtI cs (i + 1) := by
          unfold txtI
          rw [bodyC_next cs i hil, List.take_length]
          simp
        generalize (txtI cs i ++ lineT ((cs.getD i []).take (cs.getD i []).length)) = T at hlen e ⊢
        (repeat' ((conv => whnf); first | (refine AltG.none (by kernel_rfl) (EndG.go ?_)) | (refine Ob.intro (OrdG.intro (by kernel_rfl)) ?_) | (refine Ob.auto ?_) | (refine Ob.intro (by (first | exact ⟨by omega, by omega⟩ | (show _ ≤ (9223372036854775807 : Nat); simp [-List.getD_eq_getElem?_getD]; omega))) ?_) | (refine draw3n (fun _ => rfl) (by kernel_rfl) 300 (by rfl) ?_) | (refine Br.intro (fun hb => ?_) (fun hb => ?_) <;> (try simp [-List.getD_eq_getElem?_getD] at hb) <;> (try (exfalso; omega))) | (refine Ob.intro ?_ ?_)))
        ((conv => whnf); refine ⟨i + 1, ⟨by omega, fun j hj => if h : j < i then hi.2 j h else (show j = i by omega) ▸ hr⟩, ⟨⟨Le.of_eq (congrArg AV.str e), Le.refl _, trivial⟩, trivial⟩, ⟨subtA, subtA⟩, ?_⟩; (first | omega | (dsimp only; omega) | skip))
  · obtain rfl : i = cs.length := by omega
    rw [List.take_length] at hall
    have e : txtI cs cs.length = showT cs := by
      unfold txtI showT
      rw [List.take_length, hall]
      rfl
    (repeat' ((conv => whnf); first | (refine AltG.none (by kernel_rfl) (EndG.go ?_)) | (refine Ob.intro (OrdG.intro (by kernel_rfl)) ?_) | (refine Ob.auto ?_) | (refine Ob.intro (by (exact ⟨by omega, by omega⟩)) ?_) | (refine draw3n (fun _ => rfl) (by kernel_rfl) 300 (by rfl) ?_) | (refine Br.intro (fun hb => ?_) (fun hb => ?_) <;> (try simp [-List.getD_eq_getElem?_getD] at hb) <;> (try (exfalso; omega))) | (refine Ob.intro ?_ ?_)))
    exact Le.of_eq (congrArg AV.str e)

theorem restW_flush {b : UInt8} (h : (Sp.blB b || b == 10) = true) (bg sk : Bool) {cur : List UInt8} (hc : ¬ cur = []) (l : List UInt8) : Sp.restW bg sk cur (b :: l) = cur :: Sp.restW (b == 10) (if bg then b == 99 else sk) [] l := by
  rw [Sp.restW, if_pos h, if_neg hc]
theorem restW_flush0 {b : UInt8} (h : (Sp.blB b || b == 10) = true) (bg sk : Bool) (l : List UInt8) : Sp.restW bg sk [] (b :: l) = Sp.restW (b == 10) (if bg then b == 99 else sk) [] l := by
  rw [Sp.restW, if_pos h, if_pos rfl]
theorem restW_add {b : UInt8} (h : (Sp.blB b || b == 10) = false) {bg sk : Bool} (hs : (if bg then b == 99 else sk) = false) (cur l : List UInt8) : Sp.restW bg sk cur (b :: l) = Sp.restW (b == 10) false (cur ++ [b]) l := by
  rw [Sp.restW, if_neg (by rw [h]; decide), if_neg (by rw [hs]; decide), hs]
  rw [Bool.or_eq_false_iff] at h
  rw [h.2]
theorem restW_skip {b : UInt8} (h : (Sp.blB b || b == 10) = false) {bg sk : Bool} (hs : (if bg then b == 99 else sk) = true) (cur l : List UInt8) : Sp.restW bg sk cur (b :: l) = Sp.restW (b == 10) true cur l := by
  rw [Sp.restW, if_neg (by rw [h]; decide), if_pos hs, hs]
  rw [Bool.or_eq_false_iff] at h
  rw [h.2]

theorem rwords_con01 (s : List UInt8) (hs : s.length ≤ 1000000) : Con Tryd.prog 49 [.str s] (strs (Sp.wordsF s)) := by
  have hwl := words_len s
  rw [Sp.words_rest] at hwl ⊢
  obtain ⟨W, hW⟩ : ∃ W, W = Sp.restW true false [] s := ⟨_, rfl⟩
  rw [← hW] at hwl ⊢
  refine con_of_exec (T := tab Tryd.prog) (C := {owns := [(3, (9, 1))]}) 300 (fun _ => rfl) Tryd.func49 rfl (by kernel_rfl) (by kernel_rfl) (fun c0 rdb => ?_)
  (repeat' ((conv => whnf); first | (refine AltG.none (by kernel_rfl) (EndG.go ?_)) | (refine Ob.intro (OrdG.intro (by kernel_rfl)) ?_) | (refine Ob.auto ?_) | (refine draw3n (fun _ => rfl) (by kernel_rfl) 300 (by rfl) ?_) | (refine Br.intro (fun hb => ?_) (fun hb => ?_) <;> (try simp [-List.getD_eq_getElem?_getD] at hb) <;> (try (exfalso; omega))) | (refine Ob.intro ?_ ?_)))
  ((conv => whnf); refine loop_auto (fun _ => rfl) 300 1 (fun g : Nat × List (List UInt8) × List UInt8 × Bool × Bool => [(3, .own 0 0 0 g.2.1.length), (4, .str g.2.2.1), (5, .bool g.2.2.2.1), (6, .bool g.2.2.2.2), (7, iv g.1)]) (fun g => [(0, .row [] 9 1 0 g.2.1.length (encL (fun s => [.str s]) [] g.2.1))]) (fun g => g.1 ≤ s.length + 1 ∧ g.2.2.1.length ≤ g.1 ∧ if g.1 ≤ s.length then g.2.1 ++ Sp.restW g.2.2.2.1 g.2.2.2.2 g.2.2.1 (s.drop g.1) = W else g.2.1 = W) (fun g => s.length + 1 - g.1) ((0, [], [], true, false)) (⟨Nat.zero_le _, Nat.zero_le _, hW.symm⟩) subtA subtA (fun _ => rfl) (by kernel_rfl) ?_; (conv => whnf))
  rintro ⟨i, out, cur, bg, sk⟩ ⟨hi, hcl, hgo⟩
  dsimp only at hi hcl hgo
  by_cases hil : i ≤ s.length
  · rw [if_pos hil] at hgo
    have hol : out.length ≤ s.length := by have := congrArg List.length hgo; rw [List.length_append] at this; omega
    by_cases hlt : i < s.length
    · have hdr : s.drop i = s.getD i 0 :: s.drop (i + 1) := by
        rw [List.drop_eq_getElem_cons hlt, List.getD_eq_getElem?_getD, List.getElem?_eq_getElem hlt]; rfl
      rw [hdr] at hgo
      clear hdr
      have hbt : byteAt s (i : Int) = ((s.getD i 0).toNat : Int) := rfl
      generalize s.getD i 0 = b at hgo hbt
      have hu := b.toNat_lt
      have kb : ∀ c : UInt8, (byteAt s (i : Int) == ((c.toNat : Nat) : Int)) = (b == c) := fun c => by
        rw [Bool.eq_iff_iff, beq_iff_eq, beq_iff_eq, hbt]
        exact ⟨fun h => UInt8.toNat_inj.1 (by omega), fun h => by rw [h]⟩
      have kbe : (Sp.blB b || b == 10) = (byteAt s (i : Int) == 32 || byteAt s (i : Int) == 9 || byteAt s (i : Int) == 13 || byteAt s (i : Int) == 10) := by
        unfold Sp.blB
        rw [← kb 32, ← kb 9, ← kb 13, ← kb 10]; rfl
      have k1 : ((byteAt s (i : Int) = 32 ∨ byteAt s (i : Int) = 9) ∨ byteAt s (i : Int) = 13) ∨ byteAt s (i : Int) = 10 → (Sp.blB b || b == 10) = true := fun h => by
        rw [kbe]; rcases h with ((h | h) | h) | h <;> rw [h] <;> rfl
      have k2 : ((¬ byteAt s (i : Int) = 32 ∧ ¬ byteAt s (i : Int) = 9) ∧ ¬ byteAt s (i : Int) = 13) ∧ ¬ byteAt s (i : Int) = 10 → (Sp.blB b || b == 10) = false := fun h => by
        rw [kbe, beq_eq_false_iff_ne.2 h.1.1.1, beq_eq_false_iff_ne.2 h.1.1.2, beq_eq_false_iff_ne.2 h.1.2, beq_eq_false_iff_ne.2 h.2]; rfl
      have hby : isBytes 1 (chop (0 + 1) [AV.int IntKind.u8 (byteAt s (i : Int))]) := fun k hk => ⟨b, by
        obtain rfl : k = 0 := by omega
        show [AV.int IntKind.u8 (byteAt s (i : Int))] = _
        rw [hbt]⟩
      have hbv : bytesV 1 (chop (0 + 1) [AV.int IntKind.u8 (byteAt s (i : Int))]) = [b] := by
        show [(byteAt s (i : Int)).toNat.toUInt8] = [b]
        rw [hbt]
        simp
      cases bg
      · (repeat' ((conv => whnf); first | (refine AltG.none (by kernel_rfl) (EndG.go ?_)) | (refine Ob.intro (OrdG.intro (by kernel_rfl)) ?_) | (refine Ob.auto ?_) | (refine Ob.intro (by (first | exact ⟨by omega, by omega⟩ | (refine ⟨by omega, by omega, by omega, ?_⟩; dsimp only; refine Int.le_trans (Int.mul_le_mul_of_nonneg_right (?_ : _ ≤ (4000001 : Int)) (Int.natCast_nonneg _)) (by decide +kernel); omega) | exact hby | (dsimp only; rw [hbv]; show _ ≤ (9223372036854775807 : Nat); simp only [List.length_cons, List.length_nil]; omega))) ?_) | (refine draw3n (fun _ => rfl) (by kernel_rfl) 300 (by rfl) ?_) | (refine Br.intro (fun hb => ?_) (fun hb => ?_) <;> (try simp [-List.getD_eq_getElem?_getD] at hb) <;> (try (exfalso; omega))) | (refine Ob.intro ?_ ?_)))
        · rw [restW_flush (k1 (by assumption)) _ _ hb] at hgo
          ((conv => whnf); refine ⟨(i + 1, out ++ [cur], [], b == 10, sk), ⟨by omega, Nat.zero_le _, by dsimp only; rw [if_pos (by omega), List.append_assoc]; exact hgo⟩, ⟨⟨ownL_snoc rfl 0, Le.refl _, Le.of_eq (congrArg AV.bool (kb 10)), Le.refl _, Le.refl _, trivial⟩, ⟨rowL_snoc (fun s => [AV.str s]) [] rfl rfl, trivial⟩⟩, ⟨subtA, subtA⟩, ?_⟩; (first | omega | (dsimp only; omega) | skip))
        · subst hb
          rw [restW_flush0 (k1 (by assumption))] at hgo
          ((conv => whnf); refine ⟨(i + 1, out, [], b == 10, sk), ⟨by omega, Nat.zero_le _, by dsimp only; rw [if_pos (by omega)]; exact hgo⟩, ⟨⟨Le.refl _, Le.refl _, Le.of_eq (congrArg AV.bool (kb 10)), Le.refl _, Le.refl _, trivial⟩, subtA⟩, ⟨subtA, subtA⟩, ?_⟩; (first | omega | (dsimp only; omega) | skip))
        · rw [restW_add (k2 (by assumption)) (by exact hb)] at hgo
          ((conv => whnf); refine ⟨(i + 1, out, cur ++ [b], b == 10, false), ⟨by omega, by simp; omega, by dsimp only; rw [if_pos (by omega)]; exact hgo⟩, ⟨⟨Le.refl _, Le.of_eq (congrArg AV.str (congrArg (cur ++ ·) hbv)), Le.of_eq (congrArg AV.bool (kb 10)), Le.of_eq (congrArg AV.bool hb), Le.refl _, trivial⟩, subtA⟩, ⟨subtA, subtA⟩, ?_⟩; (first | omega | (dsimp only; omega) | skip))
        · rw [restW_skip (k2 (by assumption)) (by exact hb)] at hgo
          ((conv => whnf); refine ⟨(i + 1, out, cur, b == 10, true), ⟨by omega, by dsimp only; omega, by dsimp only; rw [if_pos (by omega)]; exact hgo⟩, ⟨⟨Le.refl _, Le.refl _, Le.of_eq (congrArg AV.bool (kb 10)), Le.of_eq (congrArg AV.bool hb), Le.refl _, trivial⟩, subtA⟩, ⟨subtA, subtA⟩, ?_⟩; (first | omega | (dsimp only; omega) | skip))
      · (repeat' ((conv => whnf); first | (refine AltG.none (by kernel_rfl) (EndG.go ?_)) | (refine Ob.intro (OrdG.intro (by kernel_rfl)) ?_) | (refine Ob.auto ?_) | (refine Ob.intro (by (first | exact ⟨by omega, by omega⟩ | (refine ⟨by omega, by omega, by omega, ?_⟩; dsimp only; refine Int.le_trans (Int.mul_le_mul_of_nonneg_right (?_ : _ ≤ (4000001 : Int)) (Int.natCast_nonneg _)) (by decide +kernel); omega) | exact hby | (dsimp only; rw [hbv]; show _ ≤ (9223372036854775807 : Nat); simp only [List.length_cons, List.length_nil]; omega))) ?_) | (refine draw3n (fun _ => rfl) (by kernel_rfl) 300 (by rfl) ?_) | (refine Br.intro (fun hb => ?_) (fun hb => ?_) <;> (try simp [-List.getD_eq_getElem?_getD] at hb) <;> (try (exfalso; omega))) | (refine Ob.intro ?_ ?_)))
        · rw [restW_flush (k1 (by assumption)) _ _ hb] at hgo
          ((conv => whnf); refine ⟨(i + 1, out ++ [cur], [], b == 10, b == 99), ⟨by omega, Nat.zero_le _, by dsimp only; rw [if_pos (by omega), List.append_assoc]; exact hgo⟩, ⟨⟨ownL_snoc rfl 0, Le.refl _, Le.of_eq (congrArg AV.bool (kb 10)), Le.of_eq (congrArg AV.bool (kb 99)), Le.refl _, trivial⟩, ⟨rowL_snoc (fun s => [AV.str s]) [] rfl rfl, trivial⟩⟩, ⟨subtA, subtA⟩, ?_⟩; (first | omega | (dsimp only; omega) | skip))
        · subst hb
          rw [restW_flush0 (k1 (by assumption))] at hgo
          ((conv => whnf); refine ⟨(i + 1, out, [], b == 10, b == 99), ⟨by omega, Nat.zero_le _, by dsimp only; rw [if_pos (by omega)]; exact hgo⟩, ⟨⟨Le.refl _, Le.refl _, Le.of_eq (congrArg AV.bool (kb 10)), Le.of_eq (congrArg AV.bool (kb 99)), Le.refl _, trivial⟩, subtA⟩, ⟨subtA, subtA⟩, ?_⟩; (first | omega | (dsimp only; omega) | skip))
        · rw [restW_add (k2 (by assumption)) (by rw [if_pos rfl, ← kb 99]; exact beq_eq_false_iff_ne.2 hb)] at hgo
          ((conv => whnf); refine ⟨(i + 1, out, cur ++ [b], b == 10, false), ⟨by omega, by simp; omega, by dsimp only; rw [if_pos (by omega)]; exact hgo⟩, ⟨⟨Le.refl _, Le.of_eq (congrArg AV.str (congrArg (cur ++ ·) hbv)), Le.of_eq (congrArg AV.bool (kb 10)), Le.of_eq (congrArg AV.bool (beq_eq_false_iff_ne.2 hb)), Le.refl _, trivial⟩, subtA⟩, ⟨subtA, subtA⟩, ?_⟩; (first | omega | (dsimp only; omega) | skip))
        · rw [restW_skip (k2 (by assumption)) (by rw [if_pos rfl, ← kb 99]; exact beq_iff_eq.2 hb)] at hgo
          ((conv => whnf); refine ⟨(i + 1, out, cur, b == 10, true), ⟨by omega, by dsimp only; omega, by dsimp only; rw [if_pos (by omega)]; exact hgo⟩, ⟨⟨Le.refl _, Le.refl _, Le.of_eq (congrArg AV.bool (kb 10)), Le.of_eq (congrArg AV.bool (beq_iff_eq.2 hb)), Le.refl _, trivial⟩, subtA⟩, ⟨subtA, subtA⟩, ?_⟩; (first | omega | (dsimp only; omega) | skip))
    · obtain rfl : i = s.length := by omega
      rw [List.drop_length] at hgo
      by_cases hc0 : cur = []
      · subst hc0
        have hgW : out = W := (List.append_nil out).symm.trans hgo
        clear hgo
        cases bg
        · (repeat' ((conv => whnf); first | (refine AltG.none (by kernel_rfl) (EndG.go ?_)) | (refine Ob.intro (OrdG.intro (by kernel_rfl)) ?_) | (refine Ob.auto ?_) | (refine Ob.intro (by (first | exact ⟨by omega, by omega⟩ | (refine ⟨by omega, by omega, by omega, ?_⟩; dsimp only; refine Int.le_trans (Int.mul_le_mul_of_nonneg_right (?_ : _ ≤ (4000001 : Int)) (Int.natCast_nonneg _)) (by decide +kernel); omega))) ?_) | (refine draw3n (fun _ => rfl) (by kernel_rfl) 300 (by rfl) ?_) | (refine Br.intro (fun hb => ?_) (fun hb => ?_) <;> (try simp [-List.getD_eq_getElem?_getD] at hb) <;> (try (exfalso; omega))) | (refine Ob.intro ?_ ?_)))
          all_goals try (exfalso; omega)
          ((conv => whnf); refine ⟨(s.length + 1, out, [], true, sk), ⟨Nat.le_refl _, Nat.zero_le _, by dsimp only; rw [if_neg (by omega)]; exact hgW⟩, ⟨⟨Le.refl _, Le.refl _, Le.of_eq rfl, Le.refl _, Le.refl _, trivial⟩, subtA⟩, ⟨subtA, subtA⟩, ?_⟩; (first | omega | (dsimp only; omega) | skip))
        · (repeat' ((conv => whnf); first | (refine AltG.none (by kernel_rfl) (EndG.go ?_)) | (refine Ob.intro (OrdG.intro (by kernel_rfl)) ?_) | (refine Ob.auto ?_) | (refine Ob.intro (by (first | exact ⟨by omega, by omega⟩ | (refine ⟨by omega, by omega, by omega, ?_⟩; dsimp only; refine Int.le_trans (Int.mul_le_mul_of_nonneg_right (?_ : _ ≤ (4000001 : Int)) (Int.natCast_nonneg _)) (by decide +kernel); omega))) ?_) | (refine draw3n (fun _ => rfl) (by kernel_rfl) 300 (by rfl) ?_) | (refine Br.intro (fun hb => ?_) (fun hb => ?_) <;> (try simp [-List.getD_eq_getElem?_getD] at hb) <;> (try (exfalso; omega))) | (refine Ob.intro ?_ ?_)))
          all_goals try (exfalso; omega)
          ((conv => whnf); refine ⟨(s.length + 1, out, [], true, false), ⟨Nat.le_refl _, Nat.zero_le _, by dsimp only; rw [if_neg (by omega)]; exact hgW⟩, ⟨⟨Le.refl _, Le.refl _, Le.of_eq rfl, Le.of_eq rfl, Le.refl _, trivial⟩, subtA⟩, ⟨subtA, subtA⟩, ?_⟩; (first | omega | (dsimp only; omega) | skip))
      · rw [show Sp.restW bg sk cur [] = [cur] from if_neg hc0] at hgo
        cases bg
        · (repeat' ((conv => whnf); first | (refine AltG.none (by kernel_rfl) (EndG.go ?_)) | (refine Ob.intro (OrdG.intro (by kernel_rfl)) ?_) | (refine Ob.auto ?_) | (refine Ob.intro (by (first | exact ⟨by omega, by omega⟩ | (refine ⟨by omega, by omega, by omega, ?_⟩; dsimp only; refine Int.le_trans (Int.mul_le_mul_of_nonneg_right (?_ : _ ≤ (4000001 : Int)) (Int.natCast_nonneg _)) (by decide +kernel); omega))) ?_) | (refine draw3n (fun _ => rfl) (by kernel_rfl) 300 (by rfl) ?_) | (refine Br.intro (fun hb => ?_) (fun hb => ?_) <;> (try simp [-List.getD_eq_getElem?_getD] at hb) <;> (try (exfalso; omega))) | (refine Ob.intro ?_ ?_)))
          all_goals try (exfalso; omega)
          all_goals try exact absurd hb hc0
          ((conv => whnf); refine ⟨(s.length + 1, out ++ [cur], [], true, sk), ⟨Nat.le_refl _, Nat.zero_le _, by dsimp only; rw [if_neg (by omega)]; exact hgo⟩, ⟨⟨ownL_snoc rfl 0, Le.refl _, Le.of_eq rfl, Le.refl _, Le.refl _, trivial⟩, ⟨rowL_snoc (fun s => [AV.str s]) [] rfl rfl, trivial⟩⟩, ⟨subtA, subtA⟩, ?_⟩; (first | omega | (dsimp only; omega) | skip))
        · (repeat' ((conv => whnf); first | (refine AltG.none (by kernel_rfl) (EndG.go ?_)) | (refine Ob.intro (OrdG.intro (by kernel_rfl)) ?_) | (refine Ob.auto ?_) | (refine Ob.intro (by (first | exact ⟨by omega, by omega⟩ | (refine ⟨by omega, by omega, by omega, ?_⟩; dsimp only; refine Int.le_trans (Int.mul_le_mul_of_nonneg_right (?_ : _ ≤ (4000001 : Int)) (Int.natCast_nonneg _)) (by decide +kernel); omega))) ?_) | (refine draw3n (fun _ => rfl) (by kernel_rfl) 300 (by rfl) ?_) | (refine Br.intro (fun hb => ?_) (fun hb => ?_) <;> (try simp [-List.getD_eq_getElem?_getD] at hb) <;> (try (exfalso; omega))) | (refine Ob.intro ?_ ?_)))
          all_goals try (exfalso; omega)
          all_goals try exact absurd hb hc0
          ((conv => whnf); refine ⟨(s.length + 1, out ++ [cur], [], true, false), ⟨Nat.le_refl _, Nat.zero_le _, by dsimp only; rw [if_neg (by omega)]; exact hgo⟩, ⟨⟨ownL_snoc rfl 0, Le.refl _, Le.of_eq rfl, Le.of_eq rfl, Le.refl _, trivial⟩, ⟨rowL_snoc (fun s => [AV.str s]) [] rfl rfl, trivial⟩⟩, ⟨subtA, subtA⟩, ?_⟩; (first | omega | (dsimp only; omega) | skip))
  · rw [if_neg hil] at hgo
    subst hgo
    (repeat' ((conv => whnf); first | (refine AltG.none (by kernel_rfl) (EndG.go ?_)) | (refine Ob.intro (OrdG.intro (by kernel_rfl)) ?_) | (refine Ob.auto ?_) | (refine draw3n (fun _ => rfl) (by kernel_rfl) 300 (by rfl) ?_) | (refine Br.intro (fun hb => ?_) (fun hb => ?_) <;> (try simp [-List.getD_eq_getElem?_getD] at hb) <;> (try (exfalso; omega))) | (refine Ob.intro ?_ ?_)))
    all_goals first | exact Le.refl _ | (exfalso; omega)

theorem fldB_sub (q : UInt8 → Bool) : ∀ (l cur : List UInt8), ∀ w ∈ Sp.fldB q cur l, w.length ≤ cur.length + l.length
  | [], cur, w, hw => by
    unfold Sp.fldB at hw
    split at hw
    · simp at hw
    · rw [List.mem_singleton.1 hw]; exact Nat.le_add_right _ _
  | b :: l, cur, w, hw => by
    have e : (b :: l).length = l.length + 1 := rfl
    unfold Sp.fldB at hw
    split at hw
    · split at hw
      · have := fldB_sub q l [] w hw
        simp at this; omega
      · rcases List.mem_cons.1 hw with rfl | hw
        · omega
        · have := fldB_sub q l [] w hw
          simp at this; omega
    · have := fldB_sub q l (cur ++ [b]) w hw
      rw [List.length_append, List.length_singleton] at this; omega

theorem words_sub (s : List UInt8) (k : Nat) : ((Sp.wordsF s).getD k []).length ≤ s.length := by
  by_cases h : k < (Sp.wordsF s).length
  · have hm := getD_mem (Sp.wordsF s) k [] h
    unfold Sp.wordsF at hm
    obtain ⟨l, hl, hm⟩ := List.mem_flatMap.1 hm
    have h1 := spL_lenC 10 s l hl
    unfold Sp.lineW at hm
    split at hm
    · simp at hm
    · have := fldB_sub _ _ _ _ hm
      simp only [List.length_nil, Nat.zero_add] at this
      exact Nat.le_trans this h1
  · rw [List.getD_eq_getElem?_getD, List.getElem?_eq_none (by omega)]; exact Nat.zero_le _

theorem rparse_con01 (s : List UInt8) : Con Tryd.prog 27 [.str s] (.tup [listsV (parseC s).1, iv (parseC s).2]) := by
  by_cases hs : s.length ≤ 100000
  · have hw := rwords_con01 s (by omega)
    have hW := words_len s
    have hwl : ∀ k, ((Sp.wordsF s).getD k []).length ≤ 1000000 := fun k => Nat.le_trans (words_sub s k) (by omega)
    unfold parseC
    rw [if_neg (by omega)]
    generalize Sp.wordsF s = W at hw hW hwl ⊢
    have n2 := rnumber_con01 (W.getD 2 []) (hwl 2)
    have n3 := rnumber_con01 (W.getD 3 []) (hwl 3)
    have l2 := numP_le (W.getD 2 [])
    have l3 := numP_le (W.getD 3 [])
    have b2 := num_both (W.getD 2 [])
    have b3 := num_both (W.getD 3 [])
    have s2 : (numP (W.getD 2 [])).2 = true → numR (W.getD 2 []) = numP (W.getD 2 []) := num_same
    have s3 : (numP (W.getD 3 [])).2 = true → numR (W.getD 3 []) = numP (W.getD 3 []) := num_same
    have hno : ¬ HeadOk W → parseW W = ([], 11) := fun h => if_neg h
    have hyes : HeadOk W → parseW W = endP (numP (W.getD 3 [])).1 (goP (numP (W.getD 2 [])).1 (W.drop 4) [] []) := fun h => if_pos h
    have hH : HeadOk W → 4 ≤ W.length ∧ W.getD 0 [] = [112] ∧ W.getD 1 [] = [99, 110, 102] ∧ (numP (W.getD 2 [])).2 = true ∧ (numP (W.getD 3 [])).2 = true := id
    have hH2 : (4 ≤ W.length ∧ W.getD 0 [] = [112] ∧ W.getD 1 [] = [99, 110, 102] ∧ (numP (W.getD 2 [])).2 = true ∧ (numP (W.getD 3 [])).2 = true) → HeadOk W := id
    generalize numP (W.getD 2 []) = V at n2 l2 hyes hH hH2 b2 s2
    generalize numP (W.getD 3 []) = N at n3 l3 hyes hH hH2 b3 s3
    generalize numR (W.getD 2 []) = V' at n2 b2 s2
    generalize numR (W.getD 3 []) = N' at n3 b3 s3
    generalize HeadOk W = HO at hno hyes hH hH2
    refine con_of_exec (T := tab Tryd.prog) (C := {lit := true, owns := [(9, (22, 1)), (10, (3, 1))]}) 300 (fun _ => rfl) Tryd.func27 rfl (by kernel_rfl) (by kernel_rfl) (fun c0 rdb => ?_)
    (repeat' ((conv => whnf); first | (refine AltG.none (by kernel_rfl) (EndG.go ?_)) | (refine Ob.intro (OrdG.intro (by kernel_rfl)) ?_) | (refine Ob.auto ?_) | (refine Ob.intro (by (exact ⟨by omega, by omega⟩)) ?_) | (refine call_eq (fun _ => rfl) 300 (hw) (by rfl) (by kernel_rfl) ?_) | (refine gcall_eq (fun _ => rfl) 300 (fun hg => hw) (by rfl) rflsA (by kernel_rfl) ?_) | (refine CallY.con (hw) (by rfl) leA ?_) | (refine CallZ.con (fun hg => hw) rflsA (by rfl) ?_) | (refine call_eq (fun _ => rfl) 300 (n2) (by rfl) (by kernel_rfl) ?_) | (refine gcall_eq (fun _ => rfl) 300 (fun hg => n2) (by rfl) rflsA (by kernel_rfl) ?_) | (refine CallY.con (n2) (by rfl) leA ?_) | (refine CallZ.con (fun hg => n2) rflsA (by rfl) ?_) | (refine call_eq (fun _ => rfl) 300 (n3) (by rfl) (by kernel_rfl) ?_) | (refine gcall_eq (fun _ => rfl) 300 (fun hg => n3) (by rfl) rflsA (by kernel_rfl) ?_) | (refine CallY.con (n3) (by rfl) leA ?_) | (refine CallZ.con (fun hg => n3) rflsA (by rfl) ?_) | (refine call_lend (fun _ => rfl) 300 (hw) holdA (by repeat' (first | exact trivial | exact Le.refl _ | (refine And.intro ?_ ?_))) (by rfl) (by kernel_rfl) ?_) | (refine gcall_lend (fun _ => rfl) 300 (fun hg => hw) (fun hg => holdA) (fun hg => (by repeat' (first | exact trivial | exact Le.refl _ | exact Le.cnd hg | (refine And.intro ?_ ?_)))) (by rfl) (by kernel_rfl) ?_) | (refine call_lend (fun _ => rfl) 300 (n2) holdA (by repeat' (first | exact trivial | exact Le.refl _ | (refine And.intro ?_ ?_))) (by rfl) (by kernel_rfl) ?_) | (refine gcall_lend (fun _ => rfl) 300 (fun hg => n2) (fun hg => holdA) (fun hg => (by repeat' (first | exact trivial | exact Le.refl _ | exact Le.cnd hg | (refine And.intro ?_ ?_)))) (by rfl) (by kernel_rfl) ?_) | (refine call_lend (fun _ => rfl) 300 (n3) holdA (by repeat' (first | exact trivial | exact Le.refl _ | (refine And.intro ?_ ?_))) (by rfl) (by kernel_rfl) ?_) | (refine gcall_lend (fun _ => rfl) 300 (fun hg => n3) (fun hg => holdA) (fun hg => (by repeat' (first | exact trivial | exact Le.refl _ | exact Le.cnd hg | (refine And.intro ?_ ?_)))) (by rfl) (by kernel_rfl) ?_) | (refine draw3n (fun _ => rfl) (by kernel_rfl) 300 (by rfl) ?_) | (refine Br.intro (fun hb => ?_) (fun hb => ?_) <;> (try simp [-List.getD_eq_getElem?_getD] at hb) <;> (try (exfalso; omega))) | (refine Ob.intro ?_ ?_)))
    · rw [hno fun h => ?_]
      · exact Le.tup ⟨Le.nils _ _, Le.refl _, trivial⟩
      · have h := hH h
        rcases hb with (hb | hb) | hb
        · omega
        · exact hb h.2.1
        · exact hb h.2.2.1
    · rw [hno fun h => ?_]
      · exact Le.tup ⟨Le.nils _ _, Le.refl _, trivial⟩
      · have h := hH h
        rw [s2 h.2.2.2.1, s3 h.2.2.2.2] at hb
        rcases hb with ((hb | hb) | hb) | hb
        · rw [hb] at h; cases h.2.2.2.1
        · rw [hb] at h; cases h.2.2.2.2
        · omega
        · omega
    rename_i hb0
    have v2 : V.2 = true := by rw [b2, hb.1.1.1, decide_eq_true hb.1.2]; rfl
    have v3 : N.2 = true := by rw [b3, hb.1.1.2, decide_eq_true hb.2]; rfl
    rw [hyes (hH2 ⟨by omega, hb0.1.2, hb0.2, v2, v3⟩), s2 v2, s3 v3]
    clear hno hyes hH hH2 hb0 hb n2 n3 hw b2 b3 s2 s3 v2 v3
    ((conv => whnf); refine loop_autoR (fun _ => rfl) 300 1 (fun g : Nat × List (List Int) × List Int => [(9, .own 0 0 0 g.2.1.length), (10, .own 1 0 0 g.2.2.length), (11, iv (4 + g.1 : Nat))]) (fun g => [(0, .row [] 22 1 0 g.2.1.length (encL (fun c => [ints c]) [] g.2.1)), (1, .row [] 3 1 0 g.2.2.length (encL (fun n => [iv n]) 0 g.2.2))]) (fun g => g.1 ≤ W.length - 4 ∧ g.2.1.length ≤ g.1 ∧ g.2.2.length ≤ g.1 ∧ goP V.1 (W.drop (4 + g.1)) g.2.1 g.2.2 = goP V.1 (W.drop 4) [] []) (fun g => W.length - 4 - g.1) ((0, [], [])) (⟨Nat.zero_le _, Nat.zero_le _, Nat.zero_le _, rfl⟩) subtA ⟨⟨⟨rfl, rfl, rfl⟩, rfl, rfl, fun k hk => absurd hk (Nat.not_lt_zero k)⟩, ⟨⟨rfl, rfl, rfl⟩, rfl, rfl, fun k hk => absurd hk (Nat.not_lt_zero k)⟩, trivial⟩ (fun _ => rfl) (by kernel_rfl) ?_; (conv => whnf))
    intro g hg
    obtain ⟨i, out, now⟩ := g
    obtain ⟨hi, ho, hn, hgo⟩ := hg
    dsimp only at hi ho hn hgo
    by_cases hil : i < W.length - 4
    · rw [goP_step V.1 W (4 + i) (by omega)] at hgo
      have hnc := rnumber_con01 (W.getD (4 + i) []) (hwl (4 + i))
      have hnl := numR_le (W.getD (4 + i) [])
      unfold litF at hgo
      generalize numR (W.getD (4 + i) []) = D at hnc hgo hnl
      have hlc := rlit_con D.1
      cases hlb : litB D.1 with
      | true =>
        have hac := rabs_con D.1 hlb
        rw [hlb] at hlc
        have hlz := (lit_iff D.1).1 hlb
        (repeat' ((conv => whnf); first | (refine AltG.none (by kernel_rfl) (EndG.go ?_)) | (refine Ob.intro (OrdG.intro (by kernel_rfl)) ?_) | (refine Ob.auto ?_) | (refine Ob.intro (by (first | exact ⟨by omega, by omega⟩ | (refine ⟨by omega, by omega, by omega, ?_⟩; dsimp only; refine Int.le_trans (Int.mul_le_mul_of_nonneg_right (?_ : _ ≤ (4000001 : Int)) (Int.natCast_nonneg _)) (by decide +kernel); omega))) ?_) | (refine call_eq (fun _ => rfl) 300 (hnc) (by rfl) (by kernel_rfl) ?_) | (refine gcall_eq (fun _ => rfl) 300 (fun hg => hnc) (by rfl) rflsA (by kernel_rfl) ?_) | (refine CallY.con (hnc) (by rfl) leA ?_) | (refine CallZ.con (fun hg => hnc) rflsA (by rfl) ?_) | (refine call_eq (fun _ => rfl) 300 (hlc) (by rfl) (by kernel_rfl) ?_) | (refine gcall_eq (fun _ => rfl) 300 (fun hg => hlc) (by rfl) rflsA (by kernel_rfl) ?_) | (refine CallY.con (hlc) (by rfl) leA ?_) | (refine CallZ.con (fun hg => hlc) rflsA (by rfl) ?_) | (refine call_eq (fun _ => rfl) 300 (hac) (by rfl) (by kernel_rfl) ?_) | (refine gcall_eq (fun _ => rfl) 300 (fun hg => hac) (by rfl) rflsA (by kernel_rfl) ?_) | (refine CallY.con (hac) (by rfl) leA ?_) | (refine CallZ.con (fun hg => hac) rflsA (by rfl) ?_) | (refine call_lend (fun _ => rfl) 300 (hnc) holdA (by repeat' (first | exact trivial | exact Le.refl _ | (refine And.intro ?_ ?_))) (by rfl) (by kernel_rfl) ?_) | (refine gcall_lend (fun _ => rfl) 300 (fun hg => hnc) (fun hg => holdA) (fun hg => (by repeat' (first | exact trivial | exact Le.refl _ | exact Le.cnd hg | (refine And.intro ?_ ?_)))) (by rfl) (by kernel_rfl) ?_) | (refine call_lend (fun _ => rfl) 300 (hlc) holdA (by repeat' (first | exact trivial | exact Le.refl _ | (refine And.intro ?_ ?_))) (by rfl) (by kernel_rfl) ?_) | (refine gcall_lend (fun _ => rfl) 300 (fun hg => hlc) (fun hg => holdA) (fun hg => (by repeat' (first | exact trivial | exact Le.refl _ | exact Le.cnd hg | (refine And.intro ?_ ?_)))) (by rfl) (by kernel_rfl) ?_) | (refine call_lend (fun _ => rfl) 300 (hac) holdA (by repeat' (first | exact trivial | exact Le.refl _ | (refine And.intro ?_ ?_))) (by rfl) (by kernel_rfl) ?_) | (refine gcall_lend (fun _ => rfl) 300 (fun hg => hac) (fun hg => holdA) (fun hg => (by repeat' (first | exact trivial | exact Le.refl _ | exact Le.cnd hg | (refine And.intro ?_ ?_)))) (by rfl) (by kernel_rfl) ?_) | (refine draw3n (fun _ => rfl) (by kernel_rfl) 300 (by rfl) ?_) | (refine Br.intro (fun hb => ?_) (fun hb => ?_) <;> (try simp [-List.getD_eq_getElem?_getD] at hb) <;> (try (exfalso; omega))) | (refine Ob.intro ?_ ?_)))
        · rw [if_neg fun h => ?_] at hgo
          · rw [← hgo]
            exact Le.tup ⟨Le.nils _ _, Le.refl _, trivial⟩
          · rcases hb with hb | hb
            · rw [hb] at h; cases h.1
            · rcases h.2 with h | h
              · exact hb.1 h
              · have := hb.2; omega
        · rename_i h1
          rw [if_pos ⟨h1.1, .inr ⟨hlb, h1.2 hb⟩⟩] at hgo
          have hgo : (if D.1 = 0 then goP V.1 (W.drop (4 + i + 1)) (out ++ [now]) [] else goP V.1 (W.drop (4 + i + 1)) out (now ++ [D.1])) = goP V.1 (W.drop 4) [] [] := hgo
          rw [if_neg hb] at hgo
          ((conv => whnf); refine ⟨(i + 1, out, now ++ [D.1]), ⟨by omega, by dsimp only; omega, by simp; omega, hgo⟩, ⟨_, turnR_refl, ⟨⟨Le.refl _, ownL_snoc rfl 1, Le.of_eq (congrArg (AV.int _) (by dsimp only; omega)), trivial⟩, ⟨SoLe.refl _, rowL_snoc (fun n => [iv n]) 0 rfl rfl, trivial⟩⟩, ⟨subtA, subtA⟩⟩, ?_⟩; (first | omega | (dsimp only; omega) | skip))
      | false =>
        rw [hlb] at hlc
        (repeat' ((conv => whnf); first | (refine AltG.none (by kernel_rfl) (EndG.go ?_)) | (refine Ob.intro (OrdG.intro (by kernel_rfl)) ?_) | (refine Ob.auto ?_) | (refine Ob.intro (by (first | exact ⟨by omega, by omega⟩ | (refine ⟨by omega, by omega, by omega, ?_⟩; dsimp only; refine Int.le_trans (Int.mul_le_mul_of_nonneg_right (?_ : _ ≤ (4000001 : Int)) (Int.natCast_nonneg _)) (by decide +kernel); omega))) ?_) | (refine call_eq (fun _ => rfl) 300 (hnc) (by rfl) (by kernel_rfl) ?_) | (refine gcall_eq (fun _ => rfl) 300 (fun hg => hnc) (by rfl) rflsA (by kernel_rfl) ?_) | (refine CallY.con (hnc) (by rfl) leA ?_) | (refine CallZ.con (fun hg => hnc) rflsA (by rfl) ?_) | (refine call_eq (fun _ => rfl) 300 (hlc) (by rfl) (by kernel_rfl) ?_) | (refine gcall_eq (fun _ => rfl) 300 (fun hg => hlc) (by rfl) rflsA (by kernel_rfl) ?_) | (refine CallY.con (hlc) (by rfl) leA ?_) | (refine CallZ.con (fun hg => hlc) rflsA (by rfl) ?_) | (refine call_eq (fun _ => rfl) 300 ((show Con Tryd.prog 34 [iv D.1] (iv 0) from by simp at hg)) (by rfl) (by kernel_rfl) ?_) | (refine gcall_eq (fun _ => rfl) 300 (fun hg => (show Con Tryd.prog 34 [iv D.1] (iv 0) from by simp at hg)) (by rfl) rflsA (by kernel_rfl) ?_) | (refine CallY.con ((show Con Tryd.prog 34 [iv D.1] (iv 0) from by simp at hg)) (by rfl) leA ?_) | (refine CallZ.con (fun hg => (show Con Tryd.prog 34 [iv D.1] (iv 0) from by simp at hg)) rflsA (by rfl) ?_) | (refine call_lend (fun _ => rfl) 300 (hnc) holdA (by repeat' (first | exact trivial | exact Le.refl _ | (refine And.intro ?_ ?_))) (by rfl) (by kernel_rfl) ?_) | (refine gcall_lend (fun _ => rfl) 300 (fun hg => hnc) (fun hg => holdA) (fun hg => (by repeat' (first | exact trivial | exact Le.refl _ | exact Le.cnd hg | (refine And.intro ?_ ?_)))) (by rfl) (by kernel_rfl) ?_) | (refine call_lend (fun _ => rfl) 300 (hlc) holdA (by repeat' (first | exact trivial | exact Le.refl _ | (refine And.intro ?_ ?_))) (by rfl) (by kernel_rfl) ?_) | (refine gcall_lend (fun _ => rfl) 300 (fun hg => hlc) (fun hg => holdA) (fun hg => (by repeat' (first | exact trivial | exact Le.refl _ | exact Le.cnd hg | (refine And.intro ?_ ?_)))) (by rfl) (by kernel_rfl) ?_) | (refine call_lend (fun _ => rfl) 300 ((show Con Tryd.prog 34 [iv D.1] (iv 0) from by simp at hg)) holdA (by repeat' (first | exact trivial | exact Le.refl _ | (refine And.intro ?_ ?_))) (by rfl) (by kernel_rfl) ?_) | (refine gcall_lend (fun _ => rfl) 300 (fun hg => (show Con Tryd.prog 34 [iv D.1] (iv 0) from by simp at hg)) (fun hg => holdA) (fun hg => (by repeat' (first | exact trivial | exact Le.refl _ | exact Le.cnd hg | (refine And.intro ?_ ?_)))) (by rfl) (by kernel_rfl) ?_) | (refine draw3n (fun _ => rfl) (by kernel_rfl) 300 (by rfl) ?_) | (refine Br.intro (fun hb => ?_) (fun hb => ?_) <;> (try simp [-List.getD_eq_getElem?_getD] at hb) <;> (try (exfalso; omega))) | (refine Ob.intro ?_ ?_)))
        · rw [if_neg fun h => ?_] at hgo
          · rw [← hgo]
            exact Le.tup ⟨Le.nils _ _, Le.refl _, trivial⟩
          · rcases hb with hb | hb
            · rw [hb] at h; cases h.1
            · rcases h.2 with h | h
              · exact hb h
              · rw [hlb] at h; cases h.1
        · rename_i h1
          rw [if_pos ⟨h1.1, .inl hb⟩] at hgo
          have hgo : (if D.1 = 0 then goP V.1 (W.drop (4 + i + 1)) (out ++ [now]) [] else goP V.1 (W.drop (4 + i + 1)) out (now ++ [D.1])) = goP V.1 (W.drop 4) [] [] := hgo
          rw [if_pos hb] at hgo
          ((conv => whnf); refine ⟨(i + 1, out ++ [now], []), ⟨by omega, by simp; omega, Nat.zero_le _, hgo⟩, ⟨⟨[(9, .own 0 0 0 (out ++ [now]).length), (10, .own 1 0 0 0), (11, iv ((4 + (i + 1) : Nat) : Int)), (7, .int .i64 N.1), (5, .int .i64 V.1), (4, .slc 1 W.length (encL (fun s => [AV.str s]) [] W))],
            [(0, .row [] 22 1 0 (out ++ [now]).length (encL (fun c => [ints c]) [] (out ++ [now]))), (1, .row [] 3 1 0 0 (encL (fun n => [iv n]) 0 []))], 2⟩, (TurnR.melt [0, 3] 0 rfl (fun k hk => ?_)).trans (TurnR.ren 1 3 (by kernel_rfl) ?_ ?_), ⟨subtA, subtA⟩, ⟨subtA, subtA⟩⟩, ?_⟩)
          · show allP _ (if k < out.length then _ else _)
            by_cases h : k < out.length
            · rw [if_pos h]; exact ⟨trivial, trivial⟩
            · have hk : k < out.length + 1 := hk
              obtain rfl : k = out.length := by omega
              rw [if_neg h, if_pos hk, Nat.sub_self]
              exact ⟨⟨trivial, ⟨rfl, rfl⟩, trivial⟩, trivial⟩
          · exact ⟨⟨ownL_snoc rfl 0, rfl⟩, ⟨Le.refl _, rfl⟩, ⟨Le.of_eq (congrArg (AV.int _) (by dsimp only; omega)), rfl⟩, ⟨Le.refl _, rfl⟩, ⟨Le.refl _, rfl⟩, ⟨Le.refl _, rfl⟩, trivial⟩
          · refine ⟨⟨⟨⟨rfl, rfl, rfl⟩, rfl, (by rw [List.length_append]; rfl), fun k hk => ?_⟩, rfl⟩, ⟨⟨⟨rfl, rfl, rfl⟩, rfl, rfl, fun k hk => absurd hk (Nat.not_lt_zero k)⟩, rfl⟩, trivial⟩
            show LeL (List.map _ (if k < out.length then _ else _)) [ints ((out ++ [now]).getD k [])]
            by_cases h : k < out.length
            · rw [if_pos h, List.getD_eq_getElem?_getD, List.getElem?_append_left h, ← List.getD_eq_getElem?_getD]
              exact LeL.refl _
            · have hk : k < out.length + 1 := hk
              obtain rfl : k = out.length := by omega
              rw [if_neg h, if_pos hk, Nat.sub_self, List.getD_eq_getElem?_getD, List.getElem?_append_right (Nat.le_refl _), Nat.sub_self]
              exact LeL.refl _
          · show W.length - 4 - (i + 1) < W.length - 4 - i
            omega
    · obtain rfl : i = W.length - 4 := by omega
      rw [List.drop_eq_nil_of_le (by omega)] at hgo
      have hgo : some (out, now) = goP V.1 (W.drop 4) [] [] := hgo
      rw [← hgo]
      (repeat' ((conv => whnf); first | (refine AltG.none (by kernel_rfl) (EndG.go ?_)) | (refine Ob.intro (OrdG.intro (by kernel_rfl)) ?_) | (refine Ob.auto ?_) | (refine Ob.intro (by (exact ⟨by omega, by omega⟩)) ?_) | (refine draw3n (fun _ => rfl) (by kernel_rfl) 300 (by rfl) ?_) | (refine Br.intro (fun hb => ?_) (fun hb => ?_) <;> (try simp [-List.getD_eq_getElem?_getD] at hb) <;> (try (exfalso; omega))) | (refine Ob.intro ?_ ?_)))
      all_goals try (exfalso; omega)
      · rw [show endP N.1 (some (out, now)) = ([], 11) from if_neg fun h => ?_]
        · exact Le.tup ⟨Le.nils _ _, Le.refl _, trivial⟩
        · rcases hb with hb | hb
          · rw [show now = [] from h.1] at hb; exact absurd hb (Nat.lt_irrefl 0)
          · exact hb h.2
      · rw [show endP N.1 (some (out, now)) = (out, 0) from if_pos hb]
        exact Le.refl _
  · unfold parseC
    rw [if_pos (by omega)]
    refine con_of_exec (T := tab Tryd.prog) (C := {}) 300 (fun _ => rfl) Tryd.func27 rfl (by kernel_rfl) (by kernel_rfl) (fun c0 rdb => ?_)
    (repeat' ((conv => whnf); first | (refine AltG.none (by kernel_rfl) (EndG.go ?_)) | (refine Ob.intro (OrdG.intro (by kernel_rfl)) ?_) | (refine Ob.auto ?_) | (refine draw3n (fun _ => rfl) (by kernel_rfl) 300 (by rfl) ?_) | (refine Br.intro (fun hb => ?_) (fun hb => ?_) <;> (try simp [-List.getD_eq_getElem?_getD] at hb) <;> (try (exfalso; omega))) | (refine Ob.intro ?_ ?_)))
    exact Le.tup ⟨Le.nils _ _, Le.refl _, trivial⟩

end Go.Proofs.YtcfllgdfhfcicaaDoor
