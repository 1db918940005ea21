/- Contract: a clause's own form. -/
import Derived.Test.YtcfllgdfhfcicaaDoorQCn2
import Derived.Test.YtcfllgdfhfcicaaDoorQCnS
set_option linter.unusedSimpArgs false
set_option linter.unusedVariables false
namespace Go.Proofs.YtcfllgdfhfcicaaDoor
open Go Go.Sx Go.RowKit Go.St Go.Cl
set_option maxRecDepth 100000
set_option maxHeartbeats 4000000

theorem idleL_true {r : List Int} {i : Nat} (h1 : 1 ≤ i) (h : i < r.length) (e : r.getD i 0 = -(r.getD (i - 1) 0)) : idleL r = true := by
  unfold idleL
  rw [List.any_eq_true]
  exact ⟨i, List.mem_range.2 h, by rw [Bool.and_eq_true, decide_eq_true_eq, beq_iff_eq]; exact ⟨h1, e⟩⟩

theorem idleL_false {r : List Int} (h : ∀ j, 1 ≤ j → j < r.length → r.getD j 0 ≠ -(r.getD (j - 1) 0)) : idleL r = false := by
  rw [Bool.eq_false_iff]
  intro k
  unfold idleL at k
  rw [List.any_eq_true] at k
  obtain ⟨i, hi, k⟩ := k
  rw [Bool.and_eq_true, decide_eq_true_eq, beq_iff_eq] at k
  exact h i k.1 (List.mem_range.1 hi) k.2

theorem norm_none (c : List Int) (hl : c.length ≤ 1000000) (hr : rightB c = false) : Con Tryd.prog 11 [ints c] (.tup [ints [], .bool false]) := by
  have hc := right_con01 c hl
  rw [hr] at hc
  refine con_of_exec (T := tab Tryd.prog) (C := {}) 300 (fun _ => rfl) Tryd.func11 rfl (by kernel_rfl) (by kernel_rfl) (fun c0 rdb => ?_)
  (repeat' ((conv => whnf); first | (refine AltG.none (by kernel_rfl) (EndG.go ?_)) | (refine Ob.intro (OrdG.intro (by kernel_rfl)) ?_) | (refine Ob.auto ?_) | (refine call_eq (fun _ => rfl) 300 (hc) (by rfl) (by kernel_rfl) ?_) | (refine gcall_eq (fun _ => rfl) 300 (fun hg => hc) (by rfl) rflsA (by kernel_rfl) ?_) | (refine CallY.con (hc) (by rfl) leA ?_) | (refine CallZ.con (fun hg => hc) rflsA (by rfl) ?_) | (refine call_lend (fun _ => rfl) 300 (hc) holdA (by repeat' (first | exact trivial | exact Le.refl _ | (refine And.intro ?_ ?_))) (by rfl) (by kernel_rfl) ?_) | (refine gcall_lend (fun _ => rfl) 300 (fun hg => hc) (fun hg => holdA) (fun hg => (by repeat' (first | exact trivial | exact Le.refl _ | exact Le.cnd hg | (refine And.intro ?_ ?_)))) (by rfl) (by kernel_rfl) ?_) | (refine draw3n (fun _ => rfl) (by kernel_rfl) 300 (by rfl) ?_) | (refine Br.intro (fun hb => ?_) (fun hb => ?_) <;> (try simp [-List.getD_eq_getElem?_getD] at hb) <;> (try (exfalso; omega))) | (refine Ob.intro ?_ ?_)))
  exact Le.tup ⟨Le.nils _ _, Le.refl _, trivial⟩

theorem compactN_trip (ep : Nat) (c : List Int) (h0 : 0 < (sortL c).length) (hn : (sortL c).length ≤ 1000000) :
    Trip Tryd.prog 33 [.own 0 0 ep (sortL c).length] [.row [] 3 1 ep (sortL c).length (intF (sortL c))] (.own 0 0 (ep + 1) (normL c).length) [(0, .row [] 3 1 (ep + 1) (normL c).length (intF (normL c ++ List.replicate ((sortL c).length - (normL c).length) 0)))] 1 :=
  compact_trip ep (sortL c) h0 hn

theorem norm_some (c : List Int) (hl : c.length ≤ 1000000) (h0 : 0 < c.length) (hr : rightB c = true) : Con Tryd.prog 11 [ints c] (.tup [ints (normL c), .bool (idleL (normL c))]) := by
  have hc := right_con01 c hl
  rw [hr] at hc
  have hs : (sortL c).length = c.length := by simp [sortL]
  refine con_of_exec (T := tab Tryd.prog) (C := {}) 300 (fun _ => rfl) Tryd.func11 rfl (by kernel_rfl) (by kernel_rfl) (fun c0 rdb => ?_)
  (repeat' ((conv => whnf); first | (refine AltG.none (by kernel_rfl) (EndG.go ?_)) | (refine Ob.intro (OrdG.intro (by kernel_rfl)) ?_) | (refine Ob.auto ?_) | (refine call_eq (fun _ => rfl) 300 (hc) (by rfl) (by kernel_rfl) ?_) | (refine gcall_eq (fun _ => rfl) 300 (fun hg => hc) (by rfl) rflsA (by kernel_rfl) ?_) | (refine CallY.con (hc) (by rfl) leA ?_) | (refine CallZ.con (fun hg => hc) rflsA (by rfl) ?_) | (refine call_lend (fun _ => rfl) 300 (hc) holdA (by repeat' (first | exact trivial | exact Le.refl _ | (refine And.intro ?_ ?_))) (by rfl) (by kernel_rfl) ?_) | (refine gcall_lend (fun _ => rfl) 300 (fun hg => hc) (fun hg => holdA) (fun hg => (by repeat' (first | exact trivial | exact Le.refl _ | exact Le.cnd hg | (refine And.intro ?_ ?_)))) (by rfl) (by kernel_rfl) ?_) | (refine draw3n (fun _ => rfl) (by kernel_rfl) 300 (by rfl) ?_) | (refine Br.intro (fun hb => ?_) (fun hb => ?_) <;> (try simp [-List.getD_eq_getElem?_getD] at hb) <;> (try (exfalso; omega))) | (refine Ob.intro ?_ ?_)))
  · exact ⟨Int.le_refl 0, by omega, by omega, show (c.length : Int) * ((8 : Nat) : Int) ≤ 140737488355328 by omega⟩
  ((conv => whnf); refine call_trip (fun _ => rfl) 300 [0] (sort_trip 0 c h0 hl hr) (by kernel_rfl) ⟨Le.of_eq (congrArg (AV.own 0 0 0) (by simp)), Le.refl _, trivial⟩ ⟨⟨⟨rfl, rfl, rfl⟩, rfl, by simp, fun k hk => LeL.of_eq ?_⟩, trivial⟩ (by exact rowsLt_nil rfl) (by exact rowsLt_nil rfl) (by kernel_rfl) ?_)
  · have hk : k < 0 + c.length := hk
    show appF 0 _ c.length (encL (fun n => [iv n]) 0 c) k = intF c k
    unfold appF
    rw [if_neg (Nat.not_lt_zero k), if_pos hk]
    rfl
  (repeat' ((conv => whnf); first | (refine AltG.none (by kernel_rfl) (EndG.go ?_)) | (refine Ob.intro (OrdG.intro (by kernel_rfl)) ?_) | (refine Ob.auto ?_) | (refine draw3n (fun _ => rfl) (by kernel_rfl) 300 (by rfl) ?_) | (refine Br.intro (fun hb => ?_) (fun hb => ?_) <;> (try simp [-List.getD_eq_getElem?_getD] at hb) <;> (try (exfalso; omega))) | (refine Ob.intro ?_ ?_)))
  ((conv => whnf); refine call_trip (fun _ => rfl) 300 [0] (compactN_trip 0 c (by rw [hs]; exact h0) (by rw [hs]; exact hl)) (by kernel_rfl) ⟨Le.of_eq (congrArg (AV.own 0 0 0) (by simp [hs])), trivial⟩ ⟨⟨⟨rfl, rfl, rfl⟩, rfl, by simp [hs], fun k hk => LeL.of_eq rfl⟩, trivial⟩ (by exact rowsLt_nil rfl) (by exact rowsLt_nil rfl) (by kernel_rfl) ?_)
  (repeat' ((conv => whnf); first | (refine AltG.none (by kernel_rfl) (EndG.go ?_)) | (refine Ob.intro (OrdG.intro (by kernel_rfl)) ?_) | (refine Ob.auto ?_) | (refine draw3n (fun _ => rfl) (by kernel_rfl) 300 (by rfl) ?_) | (refine Br.intro (fun hb => ?_) (fun hb => ?_) <;> (try simp [-List.getD_eq_getElem?_getD] at hb) <;> (try (exfalso; omega))) | (refine Ob.intro ?_ ?_)))
  have hnl := norm_len c
  have hlit : ∀ k, k < (normL c).length → -100000 ≤ (normL c).getD k 0 ∧ (normL c).getD k 0 ≤ 100000 := fun k hk => by
    have h1 := List.all_eq_true.1 hr _ (norm_mem.1 (getD_mem (normL c) k 0 hk))
    exact ((lit_iff _).1 h1).2
  ((conv => whnf); refine loop_auto (fun _ => rfl) 300 1 (fun i : Nat => [(5, iv i)]) (fun _ => [(0, .row [] 3 1 1 (normL c).length (intF (normL c)))]) (fun i => 1 ≤ i ∧ ∀ j, 1 ≤ j → j < i → j < (normL c).length → (normL c).getD j 0 ≠ -((normL c).getD (j - 1) 0)) (fun i => (normL c).length - i) (1) (⟨Nat.le_refl _, fun j h1 h2 => by omega⟩) subtA ⟨⟨⟨rfl, rfl, rfl⟩, rfl, rfl, fun k hk => LeL.of_eq ?_⟩, trivial⟩ (fun _ => rfl) (by kernel_rfl) ?_; (conv => whnf))
  · have hk : k < (normL c).length := hk
    show intF (normL c ++ _) k = intF (normL c) k
    unfold intF
    rw [List.getD_eq_getElem?_getD, List.getElem?_append_left hk, ← List.getD_eq_getElem?_getD]
  intro i hi
  have h1 := hlit ((i : Int) - 1).toNat
  (repeat' ((conv => whnf); first | (refine AltG.none (by kernel_rfl) (EndG.go ?_)) | (refine Ob.intro (OrdG.intro (by kernel_rfl)) ?_) | (refine Ob.auto ?_) | (refine Ob.intro (by (exact ⟨by omega, by omega⟩)) ?_) | (refine draw3n (fun _ => rfl) (by kernel_rfl) 300 (by rfl) ?_) | (refine Br.intro (fun hb => ?_) (fun hb => ?_) <;> (try simp [-List.getD_eq_getElem?_getD] at hb) <;> (try (exfalso; omega))) | (refine Ob.intro ?_ ?_)))
  · refine Le.tup ⟨Le.slc rfl fun k hk => rfl, Le.of_eq (congrArg AV.bool (idleL_true hi.1 (by assumption) hb).symm), trivial⟩
  · ((conv => whnf); refine ⟨i + 1, ⟨by omega, fun j h1 h2 h3 => by
      by_cases hj : j < i
      · exact hi.2 j h1 hj h3
      · obtain rfl : j = i := by omega
        exact hb⟩, ⟨subtA, subtA⟩, ⟨subtA, subtA⟩, ?_⟩; (first | omega | (dsimp only; omega) | skip))
  · refine Le.tup ⟨Le.slc rfl fun k hk => rfl, Le.of_eq (congrArg AV.bool (idleL_false fun j h1 h2 => hi.2 j h1 (by omega) h2).symm), trivial⟩

theorem norm_empty : Con Tryd.prog 11 [ints []] (.tup [ints [], .bool false]) := by
  have hc := right_con01 [] (by decide)
  refine con_of_exec (T := tab Tryd.prog) (C := {}) 300 (fun _ => rfl) Tryd.func11 rfl (by kernel_rfl) (by kernel_rfl) (fun c0 rdb => ?_)
  (repeat' ((conv => whnf); first | (refine AltG.none (by kernel_rfl) (EndG.go ?_)) | (refine Ob.intro (OrdG.intro (by kernel_rfl)) ?_) | (refine Ob.auto ?_) | (refine Ob.intro (by (exact ⟨Int.le_refl 0, by decide, by decide, by decide⟩)) ?_) | (refine call_eq (fun _ => rfl) 300 (hc) (by rfl) (by kernel_rfl) ?_) | (refine gcall_eq (fun _ => rfl) 300 (fun hg => hc) (by rfl) rflsA (by kernel_rfl) ?_) | (refine CallY.con (hc) (by rfl) leA ?_) | (refine CallZ.con (fun hg => hc) rflsA (by rfl) ?_) | (refine call_lend (fun _ => rfl) 300 (hc) holdA (by repeat' (first | exact trivial | exact Le.refl _ | (refine And.intro ?_ ?_))) (by rfl) (by kernel_rfl) ?_) | (refine gcall_lend (fun _ => rfl) 300 (fun hg => hc) (fun hg => holdA) (fun hg => (by repeat' (first | exact trivial | exact Le.refl _ | exact Le.cnd hg | (refine And.intro ?_ ?_)))) (by rfl) (by kernel_rfl) ?_) | (refine draw3n (fun _ => rfl) (by kernel_rfl) 300 (by rfl) ?_) | (refine Br.intro (fun hb => ?_) (fun hb => ?_) <;> (try simp [-List.getD_eq_getElem?_getD] at hb) <;> (try (exfalso; omega))) | (refine Ob.intro ?_ ?_)))
  · exact Le.tup ⟨Le.nils _ _, Le.refl _, trivial⟩
  ((conv => whnf); refine call_trip (fun _ => rfl) 300 [0] (sort_trip0 0 (fun _ => [])) (by kernel_rfl) ⟨Le.refl _, Le.refl _, trivial⟩ ⟨⟨⟨rfl, rfl, rfl⟩, rfl, rfl, fun k hk => absurd hk (Nat.not_lt_zero k)⟩, trivial⟩ (by exact rowsLt_nil rfl) (by exact rowsLt_nil rfl) (by kernel_rfl) ?_)
  (repeat' ((conv => whnf); first | (refine AltG.none (by kernel_rfl) (EndG.go ?_)) | (refine Ob.intro (OrdG.intro (by kernel_rfl)) ?_) | (refine Ob.auto ?_) | (refine draw3n (fun _ => rfl) (by kernel_rfl) 300 (by rfl) ?_) | (refine Br.intro (fun hb => ?_) (fun hb => ?_) <;> (try simp [-List.getD_eq_getElem?_getD] at hb) <;> (try (exfalso; omega))) | (refine Ob.intro ?_ ?_)))
  ((conv => whnf); refine call_trip (fun _ => rfl) 300 [0] (compact_trip0 0 (fun _ => [])) (by kernel_rfl) ⟨Le.refl _, trivial⟩ ⟨⟨⟨rfl, rfl, rfl⟩, rfl, rfl, fun k hk => absurd hk (Nat.not_lt_zero k)⟩, trivial⟩ (by exact rowsLt_nil rfl) (by exact rowsLt_nil rfl) (by kernel_rfl) ?_)
  (repeat' ((conv => whnf); first | (refine AltG.none (by kernel_rfl) (EndG.go ?_)) | (refine Ob.intro (OrdG.intro (by kernel_rfl)) ?_) | (refine Ob.auto ?_) | (refine draw3n (fun _ => rfl) (by kernel_rfl) 300 (by rfl) ?_) | (refine Br.intro (fun hb => ?_) (fun hb => ?_) <;> (try simp [-List.getD_eq_getElem?_getD] at hb) <;> (try (exfalso; omega))) | (refine Ob.intro ?_ ?_)))
  ((conv => whnf); refine loop_auto (fun _ => rfl) 300 1 (fun i : Nat => [(5, iv i)]) (fun _ => [(0, .row [] 3 1 0 0 (fun _ => []))]) (fun i => 1 ≤ i) (fun i => 0) (1) (Nat.le_refl _) subtA ⟨⟨⟨rfl, rfl, rfl⟩, rfl, rfl, fun k hk => absurd hk (Nat.not_lt_zero k)⟩, trivial⟩ (fun _ => rfl) (by kernel_rfl) ?_; (conv => whnf))
  intro i hi
  (repeat' ((conv => whnf); first | (refine AltG.none (by kernel_rfl) (EndG.go ?_)) | (refine Ob.intro (OrdG.intro (by kernel_rfl)) ?_) | (refine Ob.auto ?_) | (refine Ob.intro (by (exact ⟨by omega, by omega⟩)) ?_) | (refine draw3n (fun _ => rfl) (by kernel_rfl) 300 (by rfl) ?_) | (refine Br.intro (fun hb => ?_) (fun hb => ?_) <;> (try simp [-List.getD_eq_getElem?_getD] at hb) <;> (try (exfalso; omega))) | (refine Ob.intro ?_ ?_)))
  exact Le.tup ⟨Le.slc rfl fun k hk => absurd hk (Nat.not_lt_zero k), Le.refl _, trivial⟩

theorem normF_con (c : List Int) (hl : c.length ≤ 1000000) : Con Tryd.prog 11 [ints c] (.tup [ints (bif rightB c then normL c else []), .bool (rightB c && idleL (normL c))]) := by
  cases hr : rightB c with
  | false => exact norm_none c hl hr
  | true =>
    by_cases h0 : 0 < c.length
    · exact norm_some c hl h0 hr
    · obtain rfl : c = [] := List.eq_nil_of_length_eq_zero (by omega)
      have e : normL [] = [] := List.eq_nil_of_length_eq_zero (Nat.le_zero.1 (norm_len []))
      rw [e]
      exact norm_empty

end Go.Proofs.YtcfllgdfhfcicaaDoor
