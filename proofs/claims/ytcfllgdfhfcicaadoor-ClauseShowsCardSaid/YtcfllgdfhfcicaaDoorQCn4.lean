/- Contracts: clauses by the document's answer: what is a literal, what holds, the own form. -/
import Derived.Test.YtcfllgdfhfcicaaDoorQCn1
set_option linter.unusedSimpArgs false
set_option linter.unusedVariables false
namespace Go.Proofs.YtcfllgdfhfcicaaDoor
open Go Go.Sx Go.RowKit Go.St Go.Cl
set_option maxRecDepth 100000
set_option maxHeartbeats 4000000

theorem rlit_con (l : Int) : Con Tryd.prog 28 [iv l] (.bool (litB l)) := by
  refine con_of_exec (T := tab Tryd.prog) (C := {}) 300 (fun _ => rfl) Tryd.func28 rfl (by kernel_rfl) (by kernel_rfl) (fun c0 rdb => ?_)
  (repeat' ((conv => whnf); first | (refine AltG.none (by kernel_rfl) (EndG.go ?_)) | (refine Ob.intro (OrdG.intro (by kernel_rfl)) ?_) | (refine Ob.auto ?_) | (refine draw3n (fun _ => rfl) (by kernel_rfl) 300 (by rfl) ?_) | (refine Br.intro (fun hb => ?_) (fun hb => ?_) <;> (try simp [-List.getD_eq_getElem?_getD] at hb) <;> (try (exfalso; omega))) | (refine Ob.intro ?_ ?_)))
  exact Le.refl _

theorem rabs_con (l : Int) (h : litB l = true) : Con Tryd.prog 34 [iv l] (iv (absI l)) := by
  have h := (lit_iff l).1 h
  refine con_of_exec (T := tab Tryd.prog) (C := {}) 300 (fun _ => rfl) Tryd.func34 rfl (by kernel_rfl) (by kernel_rfl) (fun c0 rdb => ?_)
  (repeat' ((conv => whnf); first | (refine AltG.none (by kernel_rfl) (EndG.go ?_)) | (refine Ob.intro (OrdG.intro (by kernel_rfl)) ?_) | (refine Ob.auto ?_) | (refine Ob.intro (by (exact ⟨by omega, by omega⟩)) ?_) | (refine draw3n (fun _ => rfl) (by kernel_rfl) 300 (by rfl) ?_) | (refine Br.intro (fun hb => ?_) (fun hb => ?_) <;> (try simp [-List.getD_eq_getElem?_getD] at hb) <;> (try (exfalso; omega))) | (refine Ob.intro ?_ ?_)))
  all_goals (refine Le.of_eq (congrArg (AV.int _) ?_); unfold absI; omega)

theorem rright_con01 (c : List Int) (hl : c.length ≤ 1000000) : Con Tryd.prog 10 [ints c] (.bool (rightB c)) := by
  refine con_of_exec (T := tab Tryd.prog) (C := {}) 300 (fun _ => rfl) Tryd.func10 rfl (by kernel_rfl) (by kernel_rfl) (fun c0 rdb => ?_)
  (repeat' ((conv => whnf); first | (refine AltG.none (by kernel_rfl) (EndG.go ?_)) | (refine Ob.intro (OrdG.intro (by kernel_rfl)) ?_) | (refine Ob.auto ?_) | (refine draw3n (fun _ => rfl) (by kernel_rfl) 300 (by rfl) ?_) | (refine Br.intro (fun hb => ?_) (fun hb => ?_) <;> (try simp [-List.getD_eq_getElem?_getD] at hb) <;> (try (exfalso; omega))) | (refine Ob.intro ?_ ?_)))
  ((conv => whnf); refine loop_auto (fun _ => rfl) 300 1 (fun i : Nat => [(3, iv i)]) (fun _ => []) (fun i => i ≤ c.length ∧ ∀ j, j < i → litB (c.getD j 0) = true) (fun i => c.length - i) (0) (⟨by omega, fun j hj => absurd hj (Nat.not_lt_zero j)⟩) subtA subtA (fun _ => rfl) (by kernel_rfl) ?_; (conv => whnf))
  intro i hi
  (repeat' ((conv => whnf); first | (refine AltG.none (by kernel_rfl) (EndG.go ?_)) | (refine Ob.intro (OrdG.intro (by kernel_rfl)) ?_) | (refine Ob.auto ?_) | (refine Ob.intro (by (exact ⟨by omega, by omega⟩)) ?_) | (refine call_eq (fun _ => rfl) 300 (rlit_con (c.getD i 0)) (by rfl) (by kernel_rfl) ?_) | (refine gcall_eq (fun _ => rfl) 300 (fun hg => rlit_con (c.getD i 0)) (by rfl) rflsA (by kernel_rfl) ?_) | (refine CallY.con (rlit_con (c.getD i 0)) (by rfl) leA ?_) | (refine CallZ.con (fun hg => rlit_con (c.getD i 0)) rflsA (by rfl) ?_) | (refine call_lend (fun _ => rfl) 300 (rlit_con (c.getD i 0)) holdA (by repeat' (first | exact trivial | exact Le.refl _ | (refine And.intro ?_ ?_))) (by rfl) (by kernel_rfl) ?_) | (refine gcall_lend (fun _ => rfl) 300 (fun hg => rlit_con (c.getD i 0)) (fun hg => holdA) (fun hg => (by repeat' (first | exact trivial | exact Le.refl _ | exact Le.cnd hg | (refine And.intro ?_ ?_)))) (by rfl) (by kernel_rfl) ?_) | (refine draw3n (fun _ => rfl) (by kernel_rfl) 300 (by rfl) ?_) | (refine Br.intro (fun hb => ?_) (fun hb => ?_) <;> (try simp [-List.getD_eq_getElem?_getD] at hb) <;> (try (exfalso; omega))) | (refine Ob.intro ?_ ?_)))
  · refine Le.of_eq (congrArg AV.bool (Bool.eq_false_iff.2 fun h => ?_).symm)
    rw [List.all_eq_true.1 h _ (getD_mem c i 0 (by assumption))] at hb
    exact absurd hb (by decide)
  · ((conv => whnf); refine ⟨i + 1, ⟨by omega, upto_succ hi.2 hb⟩, ⟨subtA, subtA⟩, ⟨subtA, subtA⟩, ?_⟩; (first | omega | (dsimp only; omega) | skip))
  · refine Le.of_eq (congrArg AV.bool (List.all_eq_true.2 fun x hx => ?_).symm)
    obtain ⟨j, hj, rfl⟩ := List.mem_iff_getElem.1 hx
    rw [← getD_get hj]
    exact hi.2 j (by omega)

theorem rin_con (x : Int) (c : List Int) (hl : c.length ≤ 1000000) : Con Tryd.prog 13 [iv x, ints c] (.bool (decide (x ∈ c))) := by
  refine con_of_exec (T := tab Tryd.prog) (C := {}) 300 (fun _ => rfl) Tryd.func13 rfl (by kernel_rfl) (by kernel_rfl) (fun c0 rdb => ?_)
  (repeat' ((conv => whnf); first | (refine AltG.none (by kernel_rfl) (EndG.go ?_)) | (refine Ob.intro (OrdG.intro (by kernel_rfl)) ?_) | (refine Ob.auto ?_) | (refine draw3n (fun _ => rfl) (by kernel_rfl) 300 (by rfl) ?_) | (refine Br.intro (fun hb => ?_) (fun hb => ?_) <;> (try simp [-List.getD_eq_getElem?_getD] at hb) <;> (try (exfalso; omega))) | (refine Ob.intro ?_ ?_)))
  ((conv => whnf); refine loop_auto (fun _ => rfl) 300 1 (fun i : Nat => [(5, iv i)]) (fun _ => []) (fun i => i ≤ c.length ∧ ∀ j, j < i → c.getD j 0 ≠ x) (fun i => c.length - i) (0) (⟨by omega, fun j hj => absurd hj (Nat.not_lt_zero j)⟩) subtA subtA (fun _ => rfl) (by kernel_rfl) ?_; (conv => whnf))
  intro i hi
  (repeat' ((conv => whnf); first | (refine AltG.none (by kernel_rfl) (EndG.go ?_)) | (refine Ob.intro (OrdG.intro (by kernel_rfl)) ?_) | (refine Ob.auto ?_) | (refine Ob.intro (by (exact ⟨by omega, by omega⟩)) ?_) | (refine draw3n (fun _ => rfl) (by kernel_rfl) 300 (by rfl) ?_) | (refine Br.intro (fun hb => ?_) (fun hb => ?_) <;> (try simp [-List.getD_eq_getElem?_getD] at hb) <;> (try (exfalso; omega))) | (refine Ob.intro ?_ ?_)))
  · refine Le.of_eq (congrArg AV.bool (decide_eq_true ?_).symm)
    rw [← hb]
    exact getD_mem c i 0 (by assumption)
  · ((conv => whnf); refine ⟨i + 1, ⟨by omega, upto_succ hi.2 hb⟩, ⟨subtA, subtA⟩, ⟨subtA, subtA⟩, ?_⟩; (first | omega | (dsimp only; omega) | skip))
  · refine Le.of_eq (congrArg AV.bool (decide_eq_false fun hx => ?_).symm)
    obtain ⟨j, hj, e⟩ := List.mem_iff_getElem.1 hx
    exact hi.2 j (by omega) ((getD_get hj).trans e)

theorem holds_no {c : List Int} {m : List Bool} (h : ∀ j, j < c.length → (litB (c.getD j 0) && isTrue m (c.getD j 0)) = false) : holdsB c m = false := by
  rw [Bool.eq_false_iff]
  intro k
  obtain ⟨x, hx, k⟩ := List.any_eq_true.1 k
  obtain ⟨j, hj, rfl⟩ := List.mem_iff_getElem.1 hx
  have := h j hj
  rw [getD_get hj, k] at this
  exact absurd this (by decide)

theorem rholds_con (c : List Int) (m : List Bool) (hl : c.length ≤ 1000000) : Con Tryd.prog 17 [ints c, bools m] (.bool (holdsB c m)) := by
  refine con_of_exec (T := tab Tryd.prog) (C := {}) 300 (fun _ => rfl) Tryd.func17 rfl (by kernel_rfl) (by kernel_rfl) (fun c0 rdb => ?_)
  (repeat' ((conv => whnf); first | (refine AltG.none (by kernel_rfl) (EndG.go ?_)) | (refine Ob.intro (OrdG.intro (by kernel_rfl)) ?_) | (refine Ob.auto ?_) | (refine draw3n (fun _ => rfl) (by kernel_rfl) 300 (by rfl) ?_) | (refine Br.intro (fun hb => ?_) (fun hb => ?_) <;> (try simp [-List.getD_eq_getElem?_getD] at hb) <;> (try (exfalso; omega))) | (refine Ob.intro ?_ ?_)))
  ((conv => whnf); refine loop_auto (fun _ => rfl) 300 1 (fun i : Nat => [(5, iv i)]) (fun _ => []) (fun i => i ≤ c.length ∧ ∀ j, j < i → (litB (c.getD j 0) && isTrue m (c.getD j 0)) = false) (fun i => c.length - i) (0) (⟨by omega, fun j hj => absurd hj (Nat.not_lt_zero j)⟩) subtA subtA (fun _ => rfl) (by kernel_rfl) ?_; (conv => whnf))
  intro i hi
  by_cases hli : litB (c.getD i 0) = true
  · have hv := rabs_con (c.getD i 0) hli
    have hlit := (lit_iff _).1 hli
    have ha : 1 ≤ absI (c.getD i 0) ∧ absI (c.getD i 0) ≤ 100000 := by unfold absI; omega
    have hlc := rlit_con (c.getD i 0)
    rw [hli] at hlc
    (repeat' ((conv => whnf); first | (refine AltG.none (by kernel_rfl) (EndG.go ?_)) | (refine Ob.intro (OrdG.intro (by kernel_rfl)) ?_) | (refine Ob.auto ?_) | (refine Ob.intro (by (first | exact ⟨by omega, by omega⟩ | exact fun h => ⟨h, by show (-9223372036854775808 : Int) ≤ _; omega, by show _ ≤ (9223372036854775807 : Int); omega⟩)) ?_) | (refine call_eq (fun _ => rfl) 300 (hlc) (by rfl) (by kernel_rfl) ?_) | (refine gcall_eq (fun _ => rfl) 300 (fun hg => hlc) (by rfl) rflsA (by kernel_rfl) ?_) | (refine CallY.con (hlc) (by rfl) leA ?_) | (refine CallZ.con (fun hg => hlc) rflsA (by rfl) ?_) | (refine call_eq (fun _ => rfl) 300 (hv) (by rfl) (by kernel_rfl) ?_) | (refine gcall_eq (fun _ => rfl) 300 (fun hg => hv) (by rfl) rflsA (by kernel_rfl) ?_) | (refine CallY.con (hv) (by rfl) leA ?_) | (refine CallZ.con (fun hg => hv) rflsA (by rfl) ?_) | (refine call_lend (fun _ => rfl) 300 (hlc) holdA (by repeat' (first | exact trivial | exact Le.refl _ | (refine And.intro ?_ ?_))) (by rfl) (by kernel_rfl) ?_) | (refine gcall_lend (fun _ => rfl) 300 (fun hg => hlc) (fun hg => holdA) (fun hg => (by repeat' (first | exact trivial | exact Le.refl _ | exact Le.cnd hg | (refine And.intro ?_ ?_)))) (by rfl) (by kernel_rfl) ?_) | (refine call_lend (fun _ => rfl) 300 (hv) holdA (by repeat' (first | exact trivial | exact Le.refl _ | (refine And.intro ?_ ?_))) (by rfl) (by kernel_rfl) ?_) | (refine gcall_lend (fun _ => rfl) 300 (fun hg => hv) (fun hg => holdA) (fun hg => (by repeat' (first | exact trivial | exact Le.refl _ | exact Le.cnd hg | (refine And.intro ?_ ?_)))) (by rfl) (by kernel_rfl) ?_) | (refine draw3n (fun _ => rfl) (by kernel_rfl) 300 (by rfl) ?_) | (refine Br.intro (fun hb => ?_) (fun hb => ?_) <;> (try simp [-List.getD_eq_getElem?_getD] at hb) <;> (try (exfalso; omega))) | (refine Ob.intro ?_ ?_)))
    · refine Le.of_eq (congrArg AV.bool (List.any_eq_true.2 ⟨_, getD_mem c i 0 (by assumption), ?_⟩).symm)
      rw [hli, Bool.true_and]
      unfold Cl.isTrue
      rw [beq_iff_eq, show (absI (c.getD i 0) - 1).toNat = (absI (c.getD i 0)).toNat - 1 by omega]
      exact hb
    · have hn : (litB (c.getD i 0) && isTrue m (c.getD i 0)) = false := by
        rw [hli, Bool.true_and]
        unfold Cl.isTrue
        rw [beq_eq_false_iff_ne, show (absI (c.getD i 0) - 1).toNat = (absI (c.getD i 0)).toNat - 1 by omega]
        exact hb
      ((conv => whnf); refine ⟨i + 1, ⟨by omega, upto_succ hi.2 hn⟩, ⟨subtA, subtA⟩, ⟨subtA, subtA⟩, ?_⟩; (first | omega | (dsimp only; omega) | skip))
    · exact Le.of_eq (congrArg AV.bool (holds_no fun j hj => hi.2 j (by omega)).symm)
  · have hlf := Bool.not_eq_true _ ▸ hli
    have hlc := rlit_con (c.getD i 0)
    rw [hlf] at hlc
    (repeat' ((conv => whnf); first | (refine AltG.none (by kernel_rfl) (EndG.go ?_)) | (refine Ob.intro (OrdG.intro (by kernel_rfl)) ?_) | (refine Ob.auto ?_) | (refine Ob.intro (by (exact ⟨by omega, by omega⟩)) ?_) | (refine call_eq (fun _ => rfl) 300 (hlc) (by rfl) (by kernel_rfl) ?_) | (refine gcall_eq (fun _ => rfl) 300 (fun hg => hlc) (by rfl) rflsA (by kernel_rfl) ?_) | (refine CallY.con (hlc) (by rfl) leA ?_) | (refine CallZ.con (fun hg => hlc) rflsA (by rfl) ?_) | (refine call_lend (fun _ => rfl) 300 (hlc) holdA (by repeat' (first | exact trivial | exact Le.refl _ | (refine And.intro ?_ ?_))) (by rfl) (by kernel_rfl) ?_) | (refine gcall_lend (fun _ => rfl) 300 (fun hg => hlc) (fun hg => holdA) (fun hg => (by repeat' (first | exact trivial | exact Le.refl _ | exact Le.cnd hg | (refine And.intro ?_ ?_)))) (by rfl) (by kernel_rfl) ?_) | (refine draw3n (fun _ => rfl) (by kernel_rfl) 300 (by rfl) ?_) | (refine Br.intro (fun hb => ?_) (fun hb => ?_) <;> (try simp [-List.getD_eq_getElem?_getD] at hb) <;> (try (exfalso; omega))) | (refine Ob.intro ?_ ?_)))
    · ((conv => whnf); refine ⟨i + 1, ⟨by omega, upto_succ hi.2 (by rw [hlf]; rfl)⟩, ⟨subtA, subtA⟩, ⟨subtA, subtA⟩, ?_⟩; (first | omega | (dsimp only; omega) | skip))
    · exact Le.of_eq (congrArg AV.bool (holds_no fun j hj => hi.2 j (by omega)).symm)

theorem rall_con (cs : List (List Int)) (m : List Bool) (hl : cs.length ≤ 1000000) (hm : ∀ c ∈ cs, c.length ≤ 1000000) : Con Tryd.prog 19 [listsV cs, bools m] (.bool (allB cs m)) := by
  refine con_of_exec (T := tab Tryd.prog) (C := {}) 300 (fun _ => rfl) Tryd.func19 rfl (by kernel_rfl) (by kernel_rfl) (fun c0 rdb => ?_)
  (repeat' ((conv => whnf); first | (refine AltG.none (by kernel_rfl) (EndG.go ?_)) | (refine Ob.intro (OrdG.intro (by kernel_rfl)) ?_) | (refine Ob.auto ?_) | (refine draw3n (fun _ => rfl) (by kernel_rfl) 300 (by rfl) ?_) | (refine Br.intro (fun hb => ?_) (fun hb => ?_) <;> (try simp [-List.getD_eq_getElem?_getD] at hb) <;> (try (exfalso; omega))) | (refine Ob.intro ?_ ?_)))
  ((conv => whnf); refine loop_auto (fun _ => rfl) 300 1 (fun i : Nat => [(5, iv i)]) (fun _ => []) (fun i => i ≤ cs.length ∧ ∀ j, j < i → holdsB (cs.getD j []) m = true) (fun i => cs.length - i) (0) (⟨by omega, fun j hj => absurd hj (Nat.not_lt_zero j)⟩) subtA subtA (fun _ => rfl) (by kernel_rfl) ?_; (conv => whnf))
  intro i hi
  by_cases hil : i < cs.length
  · have hc := rholds_con (cs.getD i []) m (hm _ (getD_mem cs i [] hil))
    (repeat' ((conv => whnf); first | (refine AltG.none (by kernel_rfl) (EndG.go ?_)) | (refine Ob.intro (OrdG.intro (by kernel_rfl)) ?_) | (refine Ob.auto ?_) | (refine Ob.intro (by (exact ⟨by omega, by omega⟩)) ?_) | (refine call_eq (fun _ => rfl) 300 (hc) (by rfl) (by kernel_rfl) ?_) | (refine gcall_eq (fun _ => rfl) 300 (fun hg => hc) (by rfl) rflsA (by kernel_rfl) ?_) | (refine CallY.con (hc) (by rfl) leA ?_) | (refine CallZ.con (fun hg => hc) rflsA (by rfl) ?_) | (refine call_lend (fun _ => rfl) 300 (hc) holdA (by repeat' (first | exact trivial | exact Le.refl _ | (refine And.intro ?_ ?_))) (by rfl) (by kernel_rfl) ?_) | (refine gcall_lend (fun _ => rfl) 300 (fun hg => hc) (fun hg => holdA) (fun hg => (by repeat' (first | exact trivial | exact Le.refl _ | exact Le.cnd hg | (refine And.intro ?_ ?_)))) (by rfl) (by kernel_rfl) ?_) | (refine draw3n (fun _ => rfl) (by kernel_rfl) 300 (by rfl) ?_) | (refine Br.intro (fun hb => ?_) (fun hb => ?_) <;> (try simp [-List.getD_eq_getElem?_getD] at hb) <;> (try (exfalso; omega))) | (refine Ob.intro ?_ ?_)))
    · refine Le.of_eq (congrArg AV.bool (Bool.eq_false_iff.2 fun h => ?_).symm)
      rw [List.all_eq_true.1 h _ (getD_mem cs i [] hil)] at hb
      exact absurd hb (by decide)
    · ((conv => whnf); refine ⟨i + 1, ⟨by omega, upto_succ hi.2 hb⟩, ⟨subtA, subtA⟩, ⟨subtA, subtA⟩, ?_⟩; (first | omega | (dsimp only; omega) | skip))
  · (repeat' ((conv => whnf); first | (refine AltG.none (by kernel_rfl) (EndG.go ?_)) | (refine Ob.intro (OrdG.intro (by kernel_rfl)) ?_) | (refine Ob.auto ?_) | (refine Ob.intro (by (exact ⟨by omega, by omega⟩)) ?_) | (refine draw3n (fun _ => rfl) (by kernel_rfl) 300 (by rfl) ?_) | (refine Br.intro (fun hb => ?_) (fun hb => ?_) <;> (try simp [-List.getD_eq_getElem?_getD] at hb) <;> (try (exfalso; omega))) | (refine Ob.intro ?_ ?_)))
    refine Le.of_eq (congrArg AV.bool (List.all_eq_true.2 fun x hx => ?_).symm)
    obtain ⟨j, hj, rfl⟩ := List.mem_iff_getElem.1 hx
    have e : cs.getD j [] = cs[j] := by rw [List.getD_eq_getElem?_getD, List.getElem?_eq_getElem hj]; rfl
    rw [← e]
    exact hi.2 j (by omega)

theorem rints_con01 (a b : List Int) (hl : a.length ≤ 1000000) : Con Tryd.prog 12 [ints a, ints b] (.bool (a == b)) := by
  refine con_of_exec (T := tab Tryd.prog) (C := {}) 300 (fun _ => rfl) Tryd.func12 rfl (by kernel_rfl) (by kernel_rfl) (fun c0 rdb => ?_)
  (repeat' ((conv => whnf); first | (refine AltG.none (by kernel_rfl) (EndG.go ?_)) | (refine Ob.intro (OrdG.intro (by kernel_rfl)) ?_) | (refine Ob.auto ?_) | (refine draw3n (fun _ => rfl) (by kernel_rfl) 300 (by rfl) ?_) | (refine Br.intro (fun hb => ?_) (fun hb => ?_) <;> (try simp [-List.getD_eq_getElem?_getD] at hb) <;> (try (exfalso; omega))) | (refine Ob.intro ?_ ?_)))
  · refine Le.of_eq (congrArg AV.bool (beq_eq_false_iff_ne.2 fun h => ?_).symm)
    rw [h] at hb; exact hb rfl
  have hlen : a.length = b.length := by omega
  ((conv => whnf); refine loop_auto (fun _ => rfl) 300 1 (fun i : Nat => [(5, iv i)]) (fun _ => []) (fun i => i ≤ a.length ∧ ∀ j, j < i → a.getD j 0 = b.getD j 0) (fun i => a.length - i) (0) (⟨by omega, fun j hj => absurd hj (Nat.not_lt_zero j)⟩) subtA subtA (fun _ => rfl) (by kernel_rfl) ?_; (conv => whnf))
  intro i hi
  (repeat' ((conv => whnf); first | (refine AltG.none (by kernel_rfl) (EndG.go ?_)) | (refine Ob.intro (OrdG.intro (by kernel_rfl)) ?_) | (refine Ob.auto ?_) | (refine Ob.intro (by (exact ⟨by omega, by omega⟩)) ?_) | (refine draw3n (fun _ => rfl) (by kernel_rfl) 300 (by rfl) ?_) | (refine Br.intro (fun hb => ?_) (fun hb => ?_) <;> (try simp [-List.getD_eq_getElem?_getD] at hb) <;> (try (exfalso; omega))) | (refine Ob.intro ?_ ?_)))
  · refine Le.of_eq (congrArg AV.bool (beq_eq_false_iff_ne.2 fun h => ?_).symm)
    rw [h] at hb; exact hb rfl
  · ((conv => whnf); refine ⟨i + 1, ⟨by omega, upto_succ hi.2 hb⟩, ⟨subtA, subtA⟩, ⟨subtA, subtA⟩, ?_⟩; (first | omega | (dsimp only; omega) | skip))
  · refine Le.of_eq (congrArg AV.bool (beq_iff_eq.2 ?_).symm)
    exact eq_of_getD 0 hlen fun j hj => hi.2 j (by omega)

theorem least_next (c : List Int) (last : Int) (i : Nat) (hi : i < c.length) : leastF (c.take (i + 1)) last = least1 last (leastF (c.take i) last) (c.getD i 0) := by
  have h : c.take (i + 1) = c.take i ++ [c.getD i 0] := by
    rw [List.take_add_one, List.getD_eq_getElem?_getD, List.getElem?_eq_getElem hi]; rfl
  unfold leastF
  rw [h, List.foldl_append]
  rfl

theorem snoc1 (out : List Int) (v : Int) (k : Nat) (hk : k < out.length + 1) : appF out.length (encL (fun n => [iv n]) 0 out) 1 (chop (0 + 1) [iv v]) k = encL (fun n => [iv n]) 0 (out ++ [v]) k := by
  unfold appF encL
  by_cases h : k < out.length
  · rw [if_pos h, List.getD_eq_getElem?_getD (l := out ++ [v]), List.getElem?_append_left h, ← List.getD_eq_getElem?_getD]
  · obtain rfl : k = out.length := by omega
    rw [if_neg h, if_pos (by omega), Nat.sub_self, List.getD_eq_getElem?_getD (l := out ++ [v]), List.getElem?_append_right (Nat.le_refl _), Nat.sub_self]
    rfl

theorem appF_lt {n m k : Nat} {f g : Nat → List AV} (h : k < n) : appF n f m g k = f k := by unfold appF; rw [if_pos h]
theorem appF_ge {n m k : Nat} {f g : Nat → List AV} (h : ¬ k < n) (h2 : k < n + m) : appF n f m g k = g (k - n) := by unfold appF; rw [if_neg h, if_pos h2]

theorem snoc2 (out : List Int) (v u : Int) (k : Nat) (hk : k < out.length + 1 + 1) : appF (out.length + 1) (appF out.length (encL (fun n => [iv n]) 0 out) 1 (chop (0 + 1) [iv v])) 1 (chop (0 + 1) [iv u]) k = encL (fun n => [iv n]) 0 (out ++ [v] ++ [u]) k := by
  have h1 := snoc1 (out ++ [v]) u k (by simpa using hk)
  rw [← h1]
  have hl : (out ++ [v]).length = out.length + 1 := by simp
  rw [hl]
  by_cases h : k < out.length + 1
  · rw [appF_lt h, appF_lt h, snoc1 out v k h]
  · rw [appF_ge h hk, appF_ge h hk]

theorem rnorm_con (c : List Int) (hl : c.length ≤ 1000000) : Con Tryd.prog 14 [ints c] (.tup [ints (bif rightB c then normL c else []), .bool (rightB c && idleL (normL c))]) := by
  have hc := rright_con01 c hl
  cases hr : rightB c with
  | false =>
    rw [hr] at hc
    refine con_of_exec (T := tab Tryd.prog) (C := {owns := [(4, (3, 1))]}) 300 (fun _ => rfl) Tryd.func14 rfl (by kernel_rfl) (by kernel_rfl) (fun c0 rdb => ?_)
    (repeat' ((conv => whnf); first | (refine AltG.none (by kernel_rfl) (EndG.go ?_)) | (refine Ob.intro (OrdG.intro (by kernel_rfl)) ?_) | (refine Ob.auto ?_) | (refine call_eq (fun _ => rfl) 300 (hc) (by rfl) (by kernel_rfl) ?_) | (refine gcall_eq (fun _ => rfl) 300 (fun hg => hc) (by rfl) rflsA (by kernel_rfl) ?_) | (refine CallY.con (hc) (by rfl) leA ?_) | (refine CallZ.con (fun hg => hc) rflsA (by rfl) ?_) | (refine call_lend (fun _ => rfl) 300 (hc) holdA (by repeat' (first | exact trivial | exact Le.refl _ | (refine And.intro ?_ ?_))) (by rfl) (by kernel_rfl) ?_) | (refine gcall_lend (fun _ => rfl) 300 (fun hg => hc) (fun hg => holdA) (fun hg => (by repeat' (first | exact trivial | exact Le.refl _ | exact Le.cnd hg | (refine And.intro ?_ ?_)))) (by rfl) (by kernel_rfl) ?_) | (refine draw3n (fun _ => rfl) (by kernel_rfl) 300 (by rfl) ?_) | (refine Br.intro (fun hb => ?_) (fun hb => ?_) <;> (try simp [-List.getD_eq_getElem?_getD] at hb) <;> (try (exfalso; omega))) | (refine Ob.intro ?_ ?_)))
    exact Le.tup ⟨Le.nils _ _, Le.refl _, trivial⟩
  | true =>
    rw [hr] at hc
    have hlit : ∀ x ∈ c, litB x = true := List.all_eq_true.1 hr
    refine con_of_exec (T := tab Tryd.prog) (C := {owns := [(4, (3, 1))]}) 300 (fun _ => rfl) Tryd.func14 rfl (by kernel_rfl) (by kernel_rfl) (fun c0 rdb => ?_)
    (repeat' ((conv => whnf); first | (refine AltG.none (by kernel_rfl) (EndG.go ?_)) | (refine Ob.intro (OrdG.intro (by kernel_rfl)) ?_) | (refine Ob.auto ?_) | (refine call_eq (fun _ => rfl) 300 (hc) (by rfl) (by kernel_rfl) ?_) | (refine gcall_eq (fun _ => rfl) 300 (fun hg => hc) (by rfl) rflsA (by kernel_rfl) ?_) | (refine CallY.con (hc) (by rfl) leA ?_) | (refine CallZ.con (fun hg => hc) rflsA (by rfl) ?_) | (refine call_lend (fun _ => rfl) 300 (hc) holdA (by repeat' (first | exact trivial | exact Le.refl _ | (refine And.intro ?_ ?_))) (by rfl) (by kernel_rfl) ?_) | (refine gcall_lend (fun _ => rfl) 300 (fun hg => hc) (fun hg => holdA) (fun hg => (by repeat' (first | exact trivial | exact Le.refl _ | exact Le.cnd hg | (refine And.intro ?_ ?_)))) (by rfl) (by kernel_rfl) ?_) | (refine draw3n (fun _ => rfl) (by kernel_rfl) 300 (by rfl) ?_) | (refine Br.intro (fun hb => ?_) (fun hb => ?_) <;> (try simp [-List.getD_eq_getElem?_getD] at hb) <;> (try (exfalso; omega))) | (refine Ob.intro ?_ ?_)))
    ((conv => whnf); refine loop_auto (fun _ => rfl) 300 1 (fun g : List Int × Bool × Int => [(6, iv g.2.2), (5, .bool g.2.1), (4, .own 0 0 0 g.1.length)]) (fun g => [(0, .row [] 3 1 0 g.1.length (encL (fun n => [iv n]) 0 g.1))]) (fun g => NInv c g.2.2 g.1 g.2.1 ∧ (g.1.length : Int) ≤ 2 * g.2.2) (fun g => (100000 - g.2.2).toNat) (([], false, 0)) (⟨ninv0 hr, Int.le_refl 0⟩) subtA ⟨row_le (fun k hk => absurd hk (Nat.not_lt_zero k)), trivial⟩ (fun _ => rfl) (by kernel_rfl) ?_; (conv => whnf))
    rintro ⟨out, idle, last⟩ ⟨hI, hol⟩
    dsimp only at hol
    (repeat' ((conv => whnf); first | (refine AltG.none (by kernel_rfl) (EndG.go ?_)) | (refine Ob.intro (OrdG.intro (by kernel_rfl)) ?_) | (refine Ob.auto ?_) | (refine draw3n (fun _ => rfl) (by kernel_rfl) 300 (by rfl) ?_) | (refine Br.intro (fun hb => ?_) (fun hb => ?_) <;> (try simp [-List.getD_eq_getElem?_getD] at hb) <;> (try (exfalso; omega))) | (refine Ob.intro ?_ ?_)))
    ((conv => whnf); refine loop_auto (fun _ => rfl) 300 2 (fun i : Nat => [(8, iv i), (7, iv (leastF (c.take i) last))]) (fun _ => []) (fun i => i ≤ c.length) (fun i => c.length - i) (0) (Nat.zero_le _) subtA subtA (fun _ => rfl) (by kernel_rfl) ?_; (conv => whnf))
    intro i hi
    by_cases hil : i < c.length
    · have hv := rabs_con (c.getD i 0) (hlit _ (getD_mem c i 0 hil))
      have hnx := least_next c last i hil
      (repeat' ((conv => whnf); first | (refine AltG.none (by kernel_rfl) (EndG.go ?_)) | (refine Ob.intro (OrdG.intro (by kernel_rfl)) ?_) | (refine Ob.auto ?_) | (refine Ob.intro (by (exact ⟨by omega, by omega⟩)) ?_) | (refine call_eq (fun _ => rfl) 300 (hv) (by rfl) (by kernel_rfl) ?_) | (refine gcall_eq (fun _ => rfl) 300 (fun hg => hv) (by rfl) rflsA (by kernel_rfl) ?_) | (refine CallY.con (hv) (by rfl) leA ?_) | (refine CallZ.con (fun hg => hv) rflsA (by rfl) ?_) | (refine call_lend (fun _ => rfl) 300 (hv) holdA (by repeat' (first | exact trivial | exact Le.refl _ | (refine And.intro ?_ ?_))) (by rfl) (by kernel_rfl) ?_) | (refine gcall_lend (fun _ => rfl) 300 (fun hg => hv) (fun hg => holdA) (fun hg => (by repeat' (first | exact trivial | exact Le.refl _ | exact Le.cnd hg | (refine And.intro ?_ ?_)))) (by rfl) (by kernel_rfl) ?_) | (refine draw3n (fun _ => rfl) (by kernel_rfl) 300 (by rfl) ?_) | (refine Br.intro (fun hb => ?_) (fun hb => ?_) <;> (try simp [-List.getD_eq_getElem?_getD] at hb) <;> (try (exfalso; omega))) | (refine Ob.intro ?_ ?_)))
      · have e : leastF (c.take (i + 1)) last = absI (c.getD i 0) := by rw [hnx]; exact if_pos hb
        rw [← e]
        ((conv => whnf); refine ⟨i + 1, by omega, ⟨subtA, subtA⟩, ⟨subtA, subtA⟩, ?_⟩; (first | omega | (dsimp only; omega) | skip))
      · have e : leastF (c.take (i + 1)) last = leastF (c.take i) last := by
          rw [hnx]
          exact if_neg fun h => by have := hb h.1; omega
        rw [← e]
        ((conv => whnf); refine ⟨i + 1, by omega, ⟨subtA, subtA⟩, ⟨subtA, subtA⟩, ?_⟩; (first | omega | (dsimp only; omega) | skip))
    · obtain rfl : i = c.length := by omega
      rw [List.take_length]
      by_cases hv0 : leastF c last = 0
      · obtain ⟨e1, e2⟩ := ninv_end hr hI hv0
        (repeat' ((conv => whnf); first | (refine AltG.none (by kernel_rfl) (EndG.go ?_)) | (refine Ob.intro (OrdG.intro (by kernel_rfl)) ?_) | (refine Ob.auto ?_) | (refine Ob.intro (by (exact ⟨by omega, by omega⟩)) ?_) | (refine draw3n (fun _ => rfl) (by kernel_rfl) 300 (by rfl) ?_) | (refine Br.intro (fun hb => ?_) (fun hb => ?_) <;> (try simp [-List.getD_eq_getElem?_getD] at hb) <;> (try (exfalso; omega))) | (refine Ob.intro ?_ ?_)))
        refine Le.tup ⟨Le.slc (congrArg List.length e1) fun k hk => ?_, Le.of_eq (congrArg AV.bool e2), trivial⟩
        show encL (fun n => [iv n]) 0 out k = encL (fun n => [iv n]) 0 (normL c) k
        rw [show out = normL c from e1]
      · have hnext := ninv_next hr hI hv0
        obtain ⟨hp, ⟨y, hy, hy2⟩, _⟩ := least_pos hI.lst.1 hv0
        have hyl := (lit_iff y).1 (hlit y hy)
        have h0 := hI.lst
        have hvb : 0 < leastF c last ∧ leastF c last ≤ 100000 := by unfold absI at hy2; dsimp only at h0 hp hy2 ⊢; omega
        dsimp only at hnext hv0 hvb ⊢
        generalize hvv : leastF c last = v at hnext hv0 hvb ⊢
        have c1 := rin_con v c hl
        have c2 : Con Tryd.prog 13 [iv (0 - v), ints c] (.bool (decide (-v ∈ c))) := by rw [Int.zero_sub]; exact rin_con (-v) c hl
        have hlv : last < v := by dsimp only at hp; rw [hvv] at hp; exact hp
        have h0 : 0 ≤ last ∧ last ≤ 100000 := h0
        by_cases hvc : v ∈ c
        · rw [decide_eq_true hvc] at c1
          (repeat' ((conv => whnf); first | (refine AltG.none (by kernel_rfl) (EndG.go ?_)) | (refine Ob.intro (OrdG.intro (by kernel_rfl)) ?_) | (refine Ob.auto ?_) | (refine Ob.intro (by (exact ⟨by omega, by omega⟩)) ?_) | (refine draw3n (fun _ => rfl) (by kernel_rfl) 300 (by rfl) ?_) | (refine Br.intro (fun hb => ?_) (fun hb => ?_) <;> (try simp [-List.getD_eq_getElem?_getD] at hb) <;> (try (exfalso; omega))) | (refine Ob.intro ?_ ?_)))
          ((conv => whnf); refine call_rule (fun _ => rfl) 300 (c1) (by rfl) leA (by kernel_rfl) ?_)
          (repeat' ((conv => whnf); first | (refine AltG.none (by kernel_rfl) (EndG.go ?_)) | (refine Ob.intro (OrdG.intro (by kernel_rfl)) ?_) | (refine Ob.auto ?_) | (refine Ob.intro (by (first | exact ⟨by omega, by omega⟩ | exact ⟨⟨rfl, rfl⟩, by omega, show (_ + 1) * 8 ≤ 140737488355328 by omega⟩)) ?_) | (refine draw3n (fun _ => rfl) (by kernel_rfl) 300 (by rfl) ?_) | (refine Br.intro (fun hb => ?_) (fun hb => ?_) <;> (try simp [-List.getD_eq_getElem?_getD] at hb) <;> (try (exfalso; omega))) | (refine Ob.intro ?_ ?_)))
          by_cases hnc : -v ∈ c
          · rw [decide_eq_true hnc] at c2
            have e1 : nextO c v out = out ++ [v] ++ [0 - v] := by unfold nextO add1; rw [if_pos hvc, if_pos hnc, ← Int.zero_sub]
            have e2 : (idle || true && true) = nextI c v idle := by unfold nextI; rw [decide_eq_true hvc, decide_eq_true hnc]
            ((conv => whnf); refine call_rule (fun _ => rfl) 300 (c2) (by rfl) leA (by kernel_rfl) ?_)
            (repeat' ((conv => whnf); first | (refine AltG.none (by kernel_rfl) (EndG.go ?_)) | (refine Ob.intro (OrdG.intro (by kernel_rfl)) ?_) | (refine Ob.auto ?_) | (refine Ob.intro (by (first | exact ⟨by omega, by omega⟩ | exact ⟨⟨rfl, rfl⟩, by omega, show (_ + 1) * 8 ≤ 140737488355328 by omega⟩)) ?_) | (refine draw3n (fun _ => rfl) (by kernel_rfl) 300 (by rfl) ?_) | (refine Br.intro (fun hb => ?_) (fun hb => ?_) <;> (try simp [-List.getD_eq_getElem?_getD] at hb) <;> (try (exfalso; omega))) | (refine Ob.intro ?_ ?_)))
            ((conv => whnf); refine gcall_join (fun _ => rfl) 300 (fun _ => c1) (by rfl) (fun hg => by repeat' (first | exact trivial | exact Le.refl _ | exact Le.cnd hg | (refine And.intro ?_ ?_))) (by kernel_rfl) ?_)
            (repeat' ((conv => whnf); first | (refine AltG.none (by kernel_rfl) (EndG.go ?_)) | (refine Ob.intro (OrdG.intro (by kernel_rfl)) ?_) | (refine Ob.auto ?_) | (refine Ob.intro (by (first | exact ⟨by omega, by omega⟩ | exact fun _ => ⟨by omega, by omega⟩)) ?_) | (refine draw3n (fun _ => rfl) (by kernel_rfl) 300 (by rfl) ?_) | (refine Br.intro (fun hb => ?_) (fun hb => ?_) <;> (try simp [-List.getD_eq_getElem?_getD] at hb) <;> (try (exfalso; omega))) | (refine Ob.intro ?_ ?_)))
            ((conv => whnf); refine gcall_join (fun _ => rfl) 300 (fun _ => c2) (by rfl) (fun hg => by repeat' (first | exact trivial | exact Le.refl _ | exact Le.cnd hg | (refine And.intro ?_ ?_))) (by kernel_rfl) ?_)
            (repeat' ((conv => whnf); first | (refine AltG.none (by kernel_rfl) (EndG.go ?_)) | (refine Ob.intro (OrdG.intro (by kernel_rfl)) ?_) | (refine Ob.auto ?_) | (refine Ob.intro (by (first | exact ⟨by omega, by omega⟩ | exact fun _ => ⟨by omega, by omega⟩)) ?_) | (refine draw3n (fun _ => rfl) (by kernel_rfl) 300 (by rfl) ?_) | (refine Br.intro (fun hb => ?_) (fun hb => ?_) <;> (try simp [-List.getD_eq_getElem?_getD] at hb) <;> (try (exfalso; omega))) | (refine Ob.intro ?_ ?_)))
            ((conv => whnf); refine ⟨(nextO c v out, nextI c v idle, v), ⟨hnext, by show ((nextO c v out).length : Int) ≤ 2 * v; rw [e1]; (try simp); omega⟩, ⟨⟨Le.refl _, Le.of_eq (congrArg AV.bool e2), Le.of_eq (congrArg (AV.own 0 0 0) (by show _ = (nextO c v out).length; rw [e1]; (try simp))), trivial⟩, ⟨⟨⟨rfl, rfl, rfl⟩, rfl, by show _ = (nextO c v out).length; rw [e1]; (try simp), fun k hk => LeL.of_eq (by show _ = encL (fun n => [iv n]) 0 (nextO c v out) k; rw [e1]; exact snoc2 out v (0 - v) k hk)⟩, trivial⟩⟩, ⟨subtA, subtA⟩, ?_⟩; (first | omega | (dsimp only; omega) | skip))
          · rw [decide_eq_false hnc] at c2
            have e1 : nextO c v out = out ++ [v] := by unfold nextO add1; rw [if_pos hvc, if_neg hnc]
            have e2 : (idle || true && false) = nextI c v idle := by unfold nextI; rw [decide_eq_true hvc, decide_eq_false hnc]
            ((conv => whnf); refine call_rule (fun _ => rfl) 300 (c2) (by rfl) leA (by kernel_rfl) ?_)
            (repeat' ((conv => whnf); first | (refine AltG.none (by kernel_rfl) (EndG.go ?_)) | (refine Ob.intro (OrdG.intro (by kernel_rfl)) ?_) | (refine Ob.auto ?_) | (refine Ob.intro (by (first | exact ⟨by omega, by omega⟩ | exact ⟨⟨rfl, rfl⟩, by omega, show (_ + 1) * 8 ≤ 140737488355328 by omega⟩)) ?_) | (refine draw3n (fun _ => rfl) (by kernel_rfl) 300 (by rfl) ?_) | (refine Br.intro (fun hb => ?_) (fun hb => ?_) <;> (try simp [-List.getD_eq_getElem?_getD] at hb) <;> (try (exfalso; omega))) | (refine Ob.intro ?_ ?_)))
            ((conv => whnf); refine gcall_join (fun _ => rfl) 300 (fun _ => c1) (by rfl) (fun hg => by repeat' (first | exact trivial | exact Le.refl _ | exact Le.cnd hg | (refine And.intro ?_ ?_))) (by kernel_rfl) ?_)
            (repeat' ((conv => whnf); first | (refine AltG.none (by kernel_rfl) (EndG.go ?_)) | (refine Ob.intro (OrdG.intro (by kernel_rfl)) ?_) | (refine Ob.auto ?_) | (refine Ob.intro (by (first | exact ⟨by omega, by omega⟩ | exact fun _ => ⟨by omega, by omega⟩)) ?_) | (refine draw3n (fun _ => rfl) (by kernel_rfl) 300 (by rfl) ?_) | (refine Br.intro (fun hb => ?_) (fun hb => ?_) <;> (try simp [-List.getD_eq_getElem?_getD] at hb) <;> (try (exfalso; omega))) | (refine Ob.intro ?_ ?_)))
            ((conv => whnf); refine gcall_join (fun _ => rfl) 300 (fun _ => c2) (by rfl) (fun hg => by repeat' (first | exact trivial | exact Le.refl _ | exact Le.cnd hg | (refine And.intro ?_ ?_))) (by kernel_rfl) ?_)
            (repeat' ((conv => whnf); first | (refine AltG.none (by kernel_rfl) (EndG.go ?_)) | (refine Ob.intro (OrdG.intro (by kernel_rfl)) ?_) | (refine Ob.auto ?_) | (refine Ob.intro (by (first | exact ⟨by omega, by omega⟩ | exact fun _ => ⟨by omega, by omega⟩)) ?_) | (refine draw3n (fun _ => rfl) (by kernel_rfl) 300 (by rfl) ?_) | (refine Br.intro (fun hb => ?_) (fun hb => ?_) <;> (try simp [-List.getD_eq_getElem?_getD] at hb) <;> (try (exfalso; omega))) | (refine Ob.intro ?_ ?_)))
            ((conv => whnf); refine ⟨(nextO c v out, nextI c v idle, v), ⟨hnext, by show ((nextO c v out).length : Int) ≤ 2 * v; rw [e1]; (try simp); omega⟩, ⟨⟨Le.refl _, Le.of_eq (congrArg AV.bool e2), Le.of_eq (congrArg (AV.own 0 0 0) (by show _ = (nextO c v out).length; rw [e1]; (try simp))), trivial⟩, ⟨⟨⟨rfl, rfl, rfl⟩, rfl, by show _ = (nextO c v out).length; rw [e1]; (try simp), fun k hk => LeL.of_eq (by show _ = encL (fun n => [iv n]) 0 (nextO c v out) k; rw [e1]; exact snoc1 out v k hk)⟩, trivial⟩⟩, ⟨subtA, subtA⟩, ?_⟩; (first | omega | (dsimp only; omega) | skip))
        · rw [decide_eq_false hvc] at c1
          (repeat' ((conv => whnf); first | (refine AltG.none (by kernel_rfl) (EndG.go ?_)) | (refine Ob.intro (OrdG.intro (by kernel_rfl)) ?_) | (refine Ob.auto ?_) | (refine Ob.intro (by (exact ⟨by omega, by omega⟩)) ?_) | (refine draw3n (fun _ => rfl) (by kernel_rfl) 300 (by rfl) ?_) | (refine Br.intro (fun hb => ?_) (fun hb => ?_) <;> (try simp [-List.getD_eq_getElem?_getD] at hb) <;> (try (exfalso; omega))) | (refine Ob.intro ?_ ?_)))
          ((conv => whnf); refine call_rule (fun _ => rfl) 300 (c1) (by rfl) leA (by kernel_rfl) ?_)
          (repeat' ((conv => whnf); first | (refine AltG.none (by kernel_rfl) (EndG.go ?_)) | (refine Ob.intro (OrdG.intro (by kernel_rfl)) ?_) | (refine Ob.auto ?_) | (refine Ob.intro (by (first | exact ⟨by omega, by omega⟩ | exact ⟨⟨rfl, rfl⟩, by omega, show (_ + 1) * 8 ≤ 140737488355328 by omega⟩)) ?_) | (refine draw3n (fun _ => rfl) (by kernel_rfl) 300 (by rfl) ?_) | (refine Br.intro (fun hb => ?_) (fun hb => ?_) <;> (try simp [-List.getD_eq_getElem?_getD] at hb) <;> (try (exfalso; omega))) | (refine Ob.intro ?_ ?_)))
          by_cases hnc : -v ∈ c
          · rw [decide_eq_true hnc] at c2
            have e1 : nextO c v out = out ++ [0 - v] := by unfold nextO add1; rw [if_neg hvc, if_pos hnc, ← Int.zero_sub]
            have e2 : (idle || false && true) = nextI c v idle := by unfold nextI; rw [decide_eq_false hvc, decide_eq_true hnc]
            ((conv => whnf); refine call_rule (fun _ => rfl) 300 (c2) (by rfl) leA (by kernel_rfl) ?_)
            (repeat' ((conv => whnf); first | (refine AltG.none (by kernel_rfl) (EndG.go ?_)) | (refine Ob.intro (OrdG.intro (by kernel_rfl)) ?_) | (refine Ob.auto ?_) | (refine Ob.intro (by (first | exact ⟨by omega, by omega⟩ | exact ⟨⟨rfl, rfl⟩, by omega, show (_ + 1) * 8 ≤ 140737488355328 by omega⟩)) ?_) | (refine draw3n (fun _ => rfl) (by kernel_rfl) 300 (by rfl) ?_) | (refine Br.intro (fun hb => ?_) (fun hb => ?_) <;> (try simp [-List.getD_eq_getElem?_getD] at hb) <;> (try (exfalso; omega))) | (refine Ob.intro ?_ ?_)))
            ((conv => whnf); refine gcall_join (fun _ => rfl) 300 (fun _ => c1) (by rfl) (fun hg => by repeat' (first | exact trivial | exact Le.refl _ | exact Le.cnd hg | (refine And.intro ?_ ?_))) (by kernel_rfl) ?_)
            (repeat' ((conv => whnf); first | (refine AltG.none (by kernel_rfl) (EndG.go ?_)) | (refine Ob.intro (OrdG.intro (by kernel_rfl)) ?_) | (refine Ob.auto ?_) | (refine Ob.intro (by (first | exact ⟨by omega, by omega⟩ | exact fun _ => ⟨by omega, by omega⟩)) ?_) | (refine draw3n (fun _ => rfl) (by kernel_rfl) 300 (by rfl) ?_) | (refine Br.intro (fun hb => ?_) (fun hb => ?_) <;> (try simp [-List.getD_eq_getElem?_getD] at hb) <;> (try (exfalso; omega))) | (refine Ob.intro ?_ ?_)))
            ((conv => whnf); refine gcall_join (fun _ => rfl) 300 (fun _ => c2) (by rfl) (fun hg => by repeat' (first | exact trivial | exact Le.refl _ | exact Le.cnd hg | (refine And.intro ?_ ?_))) (by kernel_rfl) ?_)
            (repeat' ((conv => whnf); first | (refine AltG.none (by kernel_rfl) (EndG.go ?_)) | (refine Ob.intro (OrdG.intro (by kernel_rfl)) ?_) | (refine Ob.auto ?_) | (refine Ob.intro (by (first | exact ⟨by omega, by omega⟩ | exact fun _ => ⟨by omega, by omega⟩)) ?_) | (refine draw3n (fun _ => rfl) (by kernel_rfl) 300 (by rfl) ?_) | (refine Br.intro (fun hb => ?_) (fun hb => ?_) <;> (try simp [-List.getD_eq_getElem?_getD] at hb) <;> (try (exfalso; omega))) | (refine Ob.intro ?_ ?_)))
            ((conv => whnf); refine ⟨(nextO c v out, nextI c v idle, v), ⟨hnext, by show ((nextO c v out).length : Int) ≤ 2 * v; rw [e1]; (try simp); omega⟩, ⟨⟨Le.refl _, Le.of_eq (congrArg AV.bool e2), Le.of_eq (congrArg (AV.own 0 0 0) (by show _ = (nextO c v out).length; rw [e1]; (try simp))), trivial⟩, ⟨⟨⟨rfl, rfl, rfl⟩, rfl, by show _ = (nextO c v out).length; rw [e1]; (try simp), fun k hk => LeL.of_eq (by show _ = encL (fun n => [iv n]) 0 (nextO c v out) k; rw [e1]; exact snoc1 out (0 - v) k hk)⟩, trivial⟩⟩, ⟨subtA, subtA⟩, ?_⟩; (first | omega | (dsimp only; omega) | skip))
          · rw [decide_eq_false hnc] at c2
            have e1 : nextO c v out = out := by unfold nextO add1; rw [if_neg hvc, if_neg hnc]
            have e2 : (idle || false && false) = nextI c v idle := by unfold nextI; rw [decide_eq_false hvc, decide_eq_false hnc]
            ((conv => whnf); refine call_rule (fun _ => rfl) 300 (c2) (by rfl) leA (by kernel_rfl) ?_)
            (repeat' ((conv => whnf); first | (refine AltG.none (by kernel_rfl) (EndG.go ?_)) | (refine Ob.intro (OrdG.intro (by kernel_rfl)) ?_) | (refine Ob.auto ?_) | (refine Ob.intro (by (first | exact ⟨by omega, by omega⟩ | exact ⟨⟨rfl, rfl⟩, by omega, show (_ + 1) * 8 ≤ 140737488355328 by omega⟩)) ?_) | (refine draw3n (fun _ => rfl) (by kernel_rfl) 300 (by rfl) ?_) | (refine Br.intro (fun hb => ?_) (fun hb => ?_) <;> (try simp [-List.getD_eq_getElem?_getD] at hb) <;> (try (exfalso; omega))) | (refine Ob.intro ?_ ?_)))
            ((conv => whnf); refine gcall_join (fun _ => rfl) 300 (fun _ => c1) (by rfl) (fun hg => by repeat' (first | exact trivial | exact Le.refl _ | exact Le.cnd hg | (refine And.intro ?_ ?_))) (by kernel_rfl) ?_)
            (repeat' ((conv => whnf); first | (refine AltG.none (by kernel_rfl) (EndG.go ?_)) | (refine Ob.intro (OrdG.intro (by kernel_rfl)) ?_) | (refine Ob.auto ?_) | (refine Ob.intro (by (first | exact ⟨by omega, by omega⟩ | exact fun _ => ⟨by omega, by omega⟩)) ?_) | (refine draw3n (fun _ => rfl) (by kernel_rfl) 300 (by rfl) ?_) | (refine Br.intro (fun hb => ?_) (fun hb => ?_) <;> (try simp [-List.getD_eq_getElem?_getD] at hb) <;> (try (exfalso; omega))) | (refine Ob.intro ?_ ?_)))
            ((conv => whnf); refine gcall_join (fun _ => rfl) 300 (fun _ => c2) (by rfl) (fun hg => by repeat' (first | exact trivial | exact Le.refl _ | exact Le.cnd hg | (refine And.intro ?_ ?_))) (by kernel_rfl) ?_)
            (repeat' ((conv => whnf); first | (refine AltG.none (by kernel_rfl) (EndG.go ?_)) | (refine Ob.intro (OrdG.intro (by kernel_rfl)) ?_) | (refine Ob.auto ?_) | (refine Ob.intro (by (first | exact ⟨by omega, by omega⟩ | exact fun _ => ⟨by omega, by omega⟩)) ?_) | (refine draw3n (fun _ => rfl) (by kernel_rfl) 300 (by rfl) ?_) | (refine Br.intro (fun hb => ?_) (fun hb => ?_) <;> (try simp [-List.getD_eq_getElem?_getD] at hb) <;> (try (exfalso; omega))) | (refine Ob.intro ?_ ?_)))
            ((conv => whnf); refine ⟨(nextO c v out, nextI c v idle, v), ⟨hnext, by show ((nextO c v out).length : Int) ≤ 2 * v; rw [e1]; (try simp); omega⟩, ⟨⟨Le.refl _, Le.of_eq (congrArg AV.bool e2), Le.of_eq (congrArg (AV.own 0 0 0) (by show _ = (nextO c v out).length; rw [e1]; (try simp))), trivial⟩, ⟨⟨⟨rfl, rfl, rfl⟩, rfl, by show _ = (nextO c v out).length; rw [e1]; (try simp), fun k hk => LeL.of_eq (by show _ = encL (fun n => [iv n]) 0 (nextO c v out) k; rw [e1])⟩, trivial⟩⟩, ⟨subtA, subtA⟩, ?_⟩; (first | omega | (dsimp only; omega) | skip))

theorem great_next (n : Int) (c : List Int) (k : Nat) (hk : k < c.length) : great1 n (c.take (k + 1)) = (if litB (c.getD k 0) = true ∧ great1 n (c.take k) < absI (c.getD k 0) then absI (c.getD k 0) else great1 n (c.take k)) := by
  have h : c.take (k + 1) = c.take k ++ [c.getD k 0] := by
    rw [List.take_add_one, List.getD_eq_getElem?_getD, List.getElem?_eq_getElem hk]; rfl
  unfold great1
  rw [h, List.foldl_append]
  rfl

theorem greatL_next (cs : List (List Int)) (i : Nat) (hi : i < cs.length) : greatL (cs.take (i + 1)) = great1 (greatL (cs.take i)) (cs.getD i []) := by
  have h : cs.take (i + 1) = cs.take i ++ [cs.getD i []] := by
    rw [List.take_add_one, List.getD_eq_getElem?_getD, List.getElem?_eq_getElem hi]; rfl
  unfold greatL
  rw [h, List.foldl_append]
  rfl

theorem great1_le (n : Int) (hn : 0 ≤ n ∧ n ≤ 100000) (c : List Int) : 0 ≤ great1 n c ∧ great1 n c ≤ 100000 := by
  unfold great1
  induction c generalizing n with
  | nil => exact hn
  | cons l c ih =>
    rw [List.foldl_cons]
    refine ih _ ?_
    split
    · rename_i h
      have := (lit_iff l).1 h.1
      unfold absI at *; omega
    · exact hn

theorem greatL_le (cs : List (List Int)) : 0 ≤ greatL cs ∧ greatL cs ≤ 100000 := by
  unfold greatL
  have : ∀ (cs : List (List Int)) (n : Int), 0 ≤ n ∧ n ≤ 100000 → 0 ≤ cs.foldl great1 n ∧ cs.foldl great1 n ≤ 100000 := by
    intro cs
    induction cs with
    | nil => intro n h; exact h
    | cons c cs ih => intro n h; rw [List.foldl_cons]; exact ih _ (great1_le n h c)
  exact this cs 0 ⟨Int.le_refl _, by decide⟩

theorem rgreat_con (cs : List (List Int)) (hl : cs.length ≤ 1000000) (hm : ∀ c ∈ cs, c.length ≤ 1000000) : Con Tryd.prog 24 [listsV cs] (iv (greatL cs)) := by
  refine con_of_exec (T := tab Tryd.prog) (C := {}) 300 (fun _ => rfl) Tryd.func24 rfl (by kernel_rfl) (by kernel_rfl) (fun c0 rdb => ?_)
  (repeat' ((conv => whnf); first | (refine AltG.none (by kernel_rfl) (EndG.go ?_)) | (refine Ob.intro (OrdG.intro (by kernel_rfl)) ?_) | (refine Ob.auto ?_) | (refine draw3n (fun _ => rfl) (by kernel_rfl) 300 (by rfl) ?_) | (refine Br.intro (fun hb => ?_) (fun hb => ?_) <;> (try simp [-List.getD_eq_getElem?_getD] at hb) <;> (try (exfalso; omega))) | (refine Ob.intro ?_ ?_)))
  ((conv => whnf); refine loop_auto (fun _ => rfl) 300 1 (fun i : Nat => [(4, iv i), (3, iv (greatL (cs.take i)))]) (fun _ => []) (fun i => i ≤ cs.length) (fun i => cs.length - i) (0) (Nat.zero_le _) subtA subtA (fun _ => rfl) (by kernel_rfl) ?_; (conv => whnf))
  intro i hi
  by_cases hil : i < cs.length
  · have hcl := hm _ (getD_mem cs i [] hil)
    have hnx := greatL_next cs i hil
    have hg := greatL_le (cs.take i)
    generalize greatL (cs.take i) = G at hnx hg ⊢
    obtain ⟨c, hcc⟩ : ∃ c, c = cs.getD i [] := ⟨_, rfl⟩
    rw [← hcc] at hcl hnx
    (repeat' ((conv => whnf); first | (refine AltG.none (by kernel_rfl) (EndG.go ?_)) | (refine Ob.intro (OrdG.intro (by kernel_rfl)) ?_) | (refine Ob.auto ?_) | (refine Ob.intro (by (exact ⟨by omega, by omega⟩)) ?_) | (refine draw3n (fun _ => rfl) (by kernel_rfl) 300 (by rfl) ?_) | (refine Br.intro (fun hb => ?_) (fun hb => ?_) <;> (try simp [-List.getD_eq_getElem?_getD] at hb) <;> (try (exfalso; omega))) | (refine Ob.intro ?_ ?_)))
    ((conv => whnf); refine loop_auto (fun _ => rfl) 300 2 (fun k : Nat => [(5, iv k), (3, iv (great1 G (c.take k)))]) (fun _ => []) (fun k => k ≤ c.length) (fun k => c.length - k) (0) (Nat.zero_le _) subtA subtA (fun _ => rfl) (by kernel_rfl) ?_; (conv => whnf))
    intro k hk
    by_cases hkl : k < c.length
    · have hgn := great_next G c k hkl
      have hg1 := great1_le G hg (c.take k)
      have hlc := rlit_con (c.getD k 0)
      rw [hcc] at hlc
      by_cases hli : litB (c.getD k 0) = true
      · have hv := rabs_con (c.getD k 0) hli
        rw [hcc] at hv
        rw [← hcc, hli, hcc] at hlc
        (repeat' ((conv => whnf); first | (refine AltG.none (by kernel_rfl) (EndG.go ?_)) | (refine Ob.intro (OrdG.intro (by kernel_rfl)) ?_) | (refine Ob.auto ?_) | (refine Ob.intro (by (first | exact ⟨by omega, by omega⟩ | exact fun _ => ⟨by omega, by omega⟩)) ?_) | (refine call_eq (fun _ => rfl) 300 (hlc) (by rfl) (by kernel_rfl) ?_) | (refine gcall_eq (fun _ => rfl) 300 (fun hg => hlc) (by rfl) rflsA (by kernel_rfl) ?_) | (refine CallY.con (hlc) (by rfl) leA ?_) | (refine CallZ.con (fun hg => hlc) rflsA (by rfl) ?_) | (refine call_eq (fun _ => rfl) 300 (hv) (by rfl) (by kernel_rfl) ?_) | (refine gcall_eq (fun _ => rfl) 300 (fun hg => hv) (by rfl) rflsA (by kernel_rfl) ?_) | (refine CallY.con (hv) (by rfl) leA ?_) | (refine CallZ.con (fun hg => hv) rflsA (by rfl) ?_) | (refine call_lend (fun _ => rfl) 300 (hlc) holdA (by repeat' (first | exact trivial | exact Le.refl _ | (refine And.intro ?_ ?_))) (by rfl) (by kernel_rfl) ?_) | (refine gcall_lend (fun _ => rfl) 300 (fun hg => hlc) (fun hg => holdA) (fun hg => (by repeat' (first | exact trivial | exact Le.refl _ | exact Le.cnd hg | (refine And.intro ?_ ?_)))) (by rfl) (by kernel_rfl) ?_) | (refine call_lend (fun _ => rfl) 300 (hv) holdA (by repeat' (first | exact trivial | exact Le.refl _ | (refine And.intro ?_ ?_))) (by rfl) (by kernel_rfl) ?_) | (refine gcall_lend (fun _ => rfl) 300 (fun hg => hv) (fun hg => holdA) (fun hg => (by repeat' (first | exact trivial | exact Le.refl _ | exact Le.cnd hg | (refine And.intro ?_ ?_)))) (by rfl) (by kernel_rfl) ?_) | (refine draw3n (fun _ => rfl) (by kernel_rfl) 300 (by rfl) ?_) | (refine Br.intro (fun hb => ?_) (fun hb => ?_) <;> (try simp [-List.getD_eq_getElem?_getD] at hb) <;> (try (exfalso; omega))) | (refine Ob.intro ?_ ?_)))
        · have e : absI ((cs.getD i []).getD k 0) = great1 G (c.take (k + 1)) := by rw [hgn, ← hcc]; exact (if_pos ⟨hli, by rw [← hcc] at hb; exact hb⟩).symm
          rw [e]
          ((conv => whnf); refine ⟨k + 1, by omega, ⟨subtA, subtA⟩, ⟨subtA, subtA⟩, ?_⟩; (first | omega | (dsimp only; omega) | skip))
        · have e : great1 G (c.take k) = great1 G (c.take (k + 1)) := by rw [hgn]; exact (if_neg fun h => by rw [hcc] at h; rw [← hcc] at h hb; omega).symm
          rw [e]
          ((conv => whnf); refine ⟨k + 1, by omega, ⟨subtA, subtA⟩, ⟨subtA, subtA⟩, ?_⟩; (first | omega | (dsimp only; omega) | skip))
        · exfalso; rw [← hcc] at hb; omega
      · have hlf := Bool.not_eq_true _ ▸ hli
        rw [← hcc, hlf, hcc] at hlc
        have hno : false = true → Con Tryd.prog 34 [iv ((cs.getD i []).getD k 0)] (iv 0) := fun h => absurd h (by decide)
        (repeat' ((conv => whnf); first | (refine AltG.none (by kernel_rfl) (EndG.go ?_)) | (refine Ob.intro (OrdG.intro (by kernel_rfl)) ?_) | (refine Ob.auto ?_) | (refine Ob.intro (by (first | exact ⟨by omega, by omega⟩ | exact fun _ => ⟨by omega, by omega⟩)) ?_) | (refine call_eq (fun _ => rfl) 300 (hlc) (by rfl) (by kernel_rfl) ?_) | (refine gcall_eq (fun _ => rfl) 300 (fun hg => hlc) (by rfl) rflsA (by kernel_rfl) ?_) | (refine CallY.con (hlc) (by rfl) leA ?_) | (refine CallZ.con (fun hg => hlc) rflsA (by rfl) ?_) | (refine call_lend (fun _ => rfl) 300 (hlc) holdA (by repeat' (first | exact trivial | exact Le.refl _ | (refine And.intro ?_ ?_))) (by rfl) (by kernel_rfl) ?_) | (refine gcall_lend (fun _ => rfl) 300 (fun hg => hlc) (fun hg => holdA) (fun hg => (by repeat' (first | exact trivial | exact Le.refl _ | exact Le.cnd hg | (refine And.intro ?_ ?_)))) (by rfl) (by kernel_rfl) ?_) | (refine draw3n (fun _ => rfl) (by kernel_rfl) 300 (by rfl) ?_) | (refine Br.intro (fun hb => ?_) (fun hb => ?_) <;> (try simp [-List.getD_eq_getElem?_getD] at hb) <;> (try (exfalso; omega))) | (refine Ob.intro ?_ ?_)))
        · ((conv => whnf); refine gcall_join (fun _ => rfl) 300 (fun hg => hno hg) (by rfl) (fun hg => by repeat' (first | exact trivial | exact Le.refl _ | exact Le.cnd hg | (refine And.intro ?_ ?_))) (by kernel_rfl) ?_)
          (repeat' ((conv => whnf); first | (refine AltG.none (by kernel_rfl) (EndG.go ?_)) | (refine Ob.intro (OrdG.intro (by kernel_rfl)) ?_) | (refine Ob.auto ?_) | (refine Ob.intro (by (first | exact ⟨by omega, by omega⟩ | exact fun _ => ⟨by omega, by omega⟩ | exact fun h => absurd h (by decide))) ?_) | (refine draw3n (fun _ => rfl) (by kernel_rfl) 300 (by rfl) ?_) | (refine Br.intro (fun hb => ?_) (fun hb => ?_) <;> (try simp [-List.getD_eq_getElem?_getD] at hb) <;> (try (exfalso; omega))) | (refine Ob.intro ?_ ?_)))
          have e : great1 G (c.take k) = great1 G (c.take (k + 1)) := by rw [hgn]; exact (if_neg fun h => hli h.1).symm
          rw [e]
          ((conv => whnf); refine ⟨k + 1, by omega, ⟨subtA, subtA⟩, ⟨subtA, subtA⟩, ?_⟩; (first | omega | (dsimp only; omega) | skip))
        · exfalso; rw [← hcc] at hb; omega
    · obtain rfl : k = c.length := by omega
      rw [List.take_length, ← hnx]
      (repeat' ((conv => whnf); first | (refine AltG.none (by kernel_rfl) (EndG.go ?_)) | (refine Ob.intro (OrdG.intro (by kernel_rfl)) ?_) | (refine Ob.auto ?_) | (refine Ob.intro (by (exact ⟨by omega, by omega⟩)) ?_) | (refine draw3n (fun _ => rfl) (by kernel_rfl) 300 (by rfl) ?_) | (refine Br.intro (fun hb => ?_) (fun hb => ?_) <;> (try simp [-List.getD_eq_getElem?_getD] at hb) <;> (try (exfalso; omega))) | (refine Ob.intro ?_ ?_)))
      · exfalso; rw [← hcc] at hb; omega
      · ((conv => whnf); refine ⟨i + 1, by omega, ⟨subtA, subtA⟩, ⟨subtA, subtA⟩, ?_⟩; (first | omega | (dsimp only; omega) | skip))
  · obtain rfl : i = cs.length := by omega
    rw [List.take_length]
    (repeat' ((conv => whnf); first | (refine AltG.none (by kernel_rfl) (EndG.go ?_)) | (refine Ob.intro (OrdG.intro (by kernel_rfl)) ?_) | (refine Ob.auto ?_) | (refine Ob.intro (by (exact ⟨by omega, by omega⟩)) ?_) | (refine draw3n (fun _ => rfl) (by kernel_rfl) 300 (by rfl) ?_) | (refine Br.intro (fun hb => ?_) (fun hb => ?_) <;> (try simp [-List.getD_eq_getElem?_getD] at hb) <;> (try (exfalso; omega))) | (refine Ob.intro ?_ ?_)))
    exact Le.refl _

end Go.Proofs.YtcfllgdfhfcicaaDoor
