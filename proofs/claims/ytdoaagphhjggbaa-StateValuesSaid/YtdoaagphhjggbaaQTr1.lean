/- Contracts: which trees are right: a node. -/
import Derived.Test.YtdoaagphhjggbaaQTr0
import Derived.Test.YtdoaagphhjggbaaQ2
import Derived.Test.YtdoaagphhjggbaaProg
import Derived.KernelRfl
import Derived.Test.YtdoaagphhjggbaaQ3
namespace Go.Proofs.Ytdoaagphhjggbaa
open Go Go.Sx Go.RowKit Go.St
set_option maxRecDepth 100000
set_option maxHeartbeats 2000000

abbrev bv (n : Int) : AV := .int .u8 n

theorem digit_con (c : Int) : Con Try.prog 68 [bv c] (.bool (decide (48 ≤ c) && decide (c ≤ 57))) := by
  refine con_of_exec (T := tab Try.prog) (C := {}) 300 (fun _ => rfl) Try.func68 rfl (by kernel_rfl) (by kernel_rfl) (fun c0 rdb => ?_)
  (repeat' ((conv => whnf); first | (refine Ob.intro (OrdG.intro (by kernel_rfl)) ?_) | (refine Ob.auto ?_) | (refine draw_x (fun _ => rfl) (by kernel_rfl) 300 ?_) | (refine Br.intro (fun hb => ?_) (fun hb => ?_) <;> (try simp [-List.getD_eq_getElem?_getD] at hb) <;> (try (exfalso; omega))) | (refine Ob.intro ?_ ?_)))
  exact Le.refl _

theorem letter_con (c : Int) : Con Try.prog 66 [bv c] (.bool (letterF c)) := by
  refine con_of_exec (T := tab Try.prog) (C := {}) 300 (fun _ => rfl) Try.func66 rfl (by kernel_rfl) (by kernel_rfl) (fun c0 rdb => ?_)
  (repeat' ((conv => whnf); first | (refine Ob.intro (OrdG.intro (by kernel_rfl)) ?_) | (refine Ob.auto ?_) | (refine draw_x (fun _ => rfl) (by kernel_rfl) 300 ?_) | (refine Br.intro (fun hb => ?_) (fun hb => ?_) <;> (try simp [-List.getD_eq_getElem?_getD] at hb) <;> (try (exfalso; omega))) | (refine Ob.intro ?_ ?_)))
  exact Le.refl _

theorem word_con (c : Int) : Con Try.prog 67 [bv c] (.bool (wordF c)) := by
  refine con_of_exec (T := tab Try.prog) (C := {}) 300 (fun _ => rfl) Try.func67 rfl (by kernel_rfl) (by kernel_rfl) (fun c0 rdb => ?_)
  (repeat' ((conv => whnf); first | (refine Ob.intro (OrdG.intro (by kernel_rfl)) ?_) | (refine Ob.auto ?_) | (refine call_eq (fun _ => rfl) 300 (letter_con c) (by rfl) (by kernel_rfl) ?_) | (refine gcall_eq (fun _ => rfl) 300 (fun hg => letter_con c) (by rfl) rflsA (by kernel_rfl) ?_) | (refine CallX.intro _ (callOb (letter_con c) (by rfl)) ?_) | (refine CallX.intro _ (callObG (fun hg => letter_con c) rflsA (by rfl)) ?_) | (refine call_eq (fun _ => rfl) 300 (digit_con c) (by rfl) (by kernel_rfl) ?_) | (refine gcall_eq (fun _ => rfl) 300 (fun hg => digit_con c) (by rfl) rflsA (by kernel_rfl) ?_) | (refine CallX.intro _ (callOb (digit_con c) (by rfl)) ?_) | (refine CallX.intro _ (callObG (fun hg => digit_con c) rflsA (by rfl)) ?_) | (refine call_lend (fun _ => rfl) 300 (letter_con c) holdA (by repeat' (first | exact trivial | exact Le.refl _ | (refine And.intro ?_ ?_))) (by rfl) (by kernel_rfl) ?_) | (refine gcall_lend (fun _ => rfl) 300 (fun hg => letter_con c) (fun hg => holdA) (fun hg => (by repeat' (first | exact trivial | exact Le.refl _ | exact Le.cnd hg | (refine And.intro ?_ ?_)))) (by rfl) (by kernel_rfl) ?_) | (refine call_lend (fun _ => rfl) 300 (digit_con c) holdA (by repeat' (first | exact trivial | exact Le.refl _ | (refine And.intro ?_ ?_))) (by rfl) (by kernel_rfl) ?_) | (refine gcall_lend (fun _ => rfl) 300 (fun hg => digit_con c) (fun hg => holdA) (fun hg => (by repeat' (first | exact trivial | exact Le.refl _ | exact Le.cnd hg | (refine And.intro ?_ ?_)))) (by rfl) (by kernel_rfl) ?_) | (refine draw_x (fun _ => rfl) (by kernel_rfl) 300 ?_) | (refine Br.intro (fun hb => ?_) (fun hb => ?_) <;> (try simp [-List.getD_eq_getElem?_getD] at hb) <;> (try (exfalso; omega))) | (refine Ob.intro ?_ ?_)))
  exact Le.refl _

theorem keys_le (f : Nat → List AV) (h : ∀ i, i < 21 → f i = encL (fun s => [.str s]) [] keyL i) : Le (.slc 1 21 f) (strs keyL) := Le.slc rfl h

theorem key_con (s : List UInt8) : Con Try.prog 107 [.str s] (.bool (keyF s)) := by
  refine con_of_exec (T := tab Try.prog) (C := {}) 300 (fun _ => rfl) Try.func107 rfl (by kernel_rfl) (by kernel_rfl) (fun c0 rdb => ?_)
  (repeat' ((conv => whnf); first | (refine Ob.intro (OrdG.intro (by kernel_rfl)) ?_) | (refine Ob.auto ?_) | (refine draw_x (fun _ => rfl) (by kernel_rfl) 300 ?_) | (refine Br.intro (fun hb => ?_) (fun hb => ?_) <;> (try simp [-List.getD_eq_getElem?_getD] at hb) <;> (try (exfalso; omega))) | (refine Ob.intro ?_ ?_)))
  ((conv => whnf); refine loop_auto (fun _ => rfl) 300 1 (fun i : Nat => [(4, iv i), (3, strs keyL)]) (fun _ => []) (fun i => i ≤ keyL.length ∧ ∀ j, j < i → (keyL.getD j [] == s) = false) (fun i => keyL.length - i) (0) (⟨by omega, fun j hj => absurd hj (Nat.not_lt_zero j)⟩) ⟨Le.refl _, keys_le _ (fun i hi => match i, hi with | 0, _ => rfl | 1, _ => rfl | 2, _ => rfl | 3, _ => rfl | 4, _ => rfl | 5, _ => rfl | 6, _ => rfl | 7, _ => rfl | 8, _ => rfl | 9, _ => rfl | 10, _ => rfl | 11, _ => rfl | 12, _ => rfl | 13, _ => rfl | 14, _ => rfl | 15, _ => rfl | 16, _ => rfl | 17, _ => rfl | 18, _ => rfl | 19, _ => rfl | 20, _ => rfl | n + 21, h => absurd h (by omega)), trivial⟩ subtA (fun _ => rfl) (by kernel_rfl) ?_; (conv => whnf))
  intro i hi
  have h21 : keyL.length = 21 := rfl
  (repeat' ((conv => whnf); first | (refine Ob.intro (OrdG.intro (by kernel_rfl)) ?_) | (refine Ob.auto ?_) | (refine Ob.intro (by (exact ⟨by omega, by omega⟩)) ?_) | (refine draw_x (fun _ => rfl) (by kernel_rfl) 300 ?_) | (refine Br.intro (fun hb => ?_) (fun hb => ?_) <;> (try simp [-List.getD_eq_getElem?_getD] at hb) <;> (try (exfalso; omega))) | (refine Ob.intro ?_ ?_)))
  · refine Le.of_eq (congrArg AV.bool ?_)
    unfold keyF
    exact (List.any_eq_true.2 ⟨keyL.getD i [], getD_mem keyL i [] (by omega), by simpa using hb⟩).symm
  · ((conv => whnf); refine ⟨i + 1, ⟨by omega, upto_succ hi.2 (beq_eq_false_iff_ne.2 hb)⟩, ⟨subtA, subtA⟩, ⟨subtA, subtA⟩, ?_⟩; (first | omega | (dsimp only; omega) | skip))
  · refine Le.of_eq (congrArg AV.bool ?_)
    unfold keyF
    rw [eq_comm, Bool.eq_false_iff]
    intro h
    obtain ⟨x, hx, he⟩ := List.any_eq_true.1 h
    obtain ⟨j, hj, rfl⟩ := List.mem_iff_getElem.1 hx
    have := hi.2 j (by omega)
    rw [List.getD_eq_getElem?_getD, List.getElem?_eq_getElem hj] at this
    simp only [Option.getD_some] at this
    rw [this] at he; cases he

theorem name_con (s : List UInt8) : Con Try.prog 106 [.str s] (.bool (nameF s)) := by
  refine con_of_exec (T := tab Try.prog) (C := {}) 300 (fun _ => rfl) Try.func106 rfl (by kernel_rfl) (by kernel_rfl) (fun c0 rdb => ?_)
  (repeat' ((conv => whnf); first | (refine Ob.intro (OrdG.intro (by kernel_rfl)) ?_) | (refine Ob.auto ?_) | (refine Ob.intro (by ((intro h; simp at h ⊢; exact ⟨h, by have := List.length_pos_iff.2 h.1; omega⟩))) ?_) | (refine call_eq (fun _ => rfl) 300 (letter_con _) (by rfl) (by kernel_rfl) ?_) | (refine gcall_eq (fun _ => rfl) 300 (fun hg => letter_con _) (by rfl) rflsA (by kernel_rfl) ?_) | (refine CallX.intro _ (callOb (letter_con _) (by rfl)) ?_) | (refine CallX.intro _ (callObG (fun hg => letter_con _) rflsA (by rfl)) ?_) | (refine call_eq (fun _ => rfl) 300 (key_con s) (by rfl) (by kernel_rfl) ?_) | (refine gcall_eq (fun _ => rfl) 300 (fun hg => key_con s) (by rfl) rflsA (by kernel_rfl) ?_) | (refine CallX.intro _ (callOb (key_con s) (by rfl)) ?_) | (refine CallX.intro _ (callObG (fun hg => key_con s) rflsA (by rfl)) ?_) | (refine call_lend (fun _ => rfl) 300 (letter_con _) holdA (by repeat' (first | exact trivial | exact Le.refl _ | (refine And.intro ?_ ?_))) (by rfl) (by kernel_rfl) ?_) | (refine gcall_lend (fun _ => rfl) 300 (fun hg => letter_con _) (fun hg => holdA) (fun hg => (by repeat' (first | exact trivial | exact Le.refl _ | exact Le.cnd hg | (refine And.intro ?_ ?_)))) (by rfl) (by kernel_rfl) ?_) | (refine call_lend (fun _ => rfl) 300 (key_con s) holdA (by repeat' (first | exact trivial | exact Le.refl _ | (refine And.intro ?_ ?_))) (by rfl) (by kernel_rfl) ?_) | (refine gcall_lend (fun _ => rfl) 300 (fun hg => key_con s) (fun hg => holdA) (fun hg => (by repeat' (first | exact trivial | exact Le.refl _ | exact Le.cnd hg | (refine And.intro ?_ ?_)))) (by rfl) (by kernel_rfl) ?_) | (refine draw_x (fun _ => rfl) (by kernel_rfl) 300 ?_) | (refine Br.intro (fun hb => ?_) (fun hb => ?_) <;> (try simp [-List.getD_eq_getElem?_getD] at hb) <;> (try (exfalso; omega))) | (refine Ob.intro ?_ ?_)))
  · refine Le.of_eq (congrArg AV.bool ?_)
    unfold nameF
    have : (decide (s.length = 0) || decide (12 < s.length) || !letterF (byteAt s 0) || keyF s) = true := by
      simp only [Bool.or_eq_true, decide_eq_true_eq, List.length_eq_zero_iff, Bool.not_eq_true']
      rcases hb with ((hb | hb) | hb) | hb
      · exact .inl (.inl (.inl hb))
      · exact .inl (.inl (.inr (by omega)))
      · exact .inl (.inr hb)
      · exact .inr hb
    rw [this]; rfl
  · have h0 : (decide (s.length = 0) || decide (12 < s.length) || !letterF (byteAt s 0) || keyF s) = false := by
      simp only [Bool.or_eq_false_iff, decide_eq_false_iff_not, List.length_eq_zero_iff, Bool.not_eq_false']
      exact ⟨⟨⟨hb.1.1.1, by omega⟩, hb.1.2⟩, hb.2⟩
    ((conv => whnf); refine loop_auto (fun _ => rfl) 300 1 (fun i : Nat => [(3, iv i)]) (fun _ => []) (fun i => i ≤ s.length ∧ ∀ j, j < i → wordF (byteAt s j) = true) (fun i => s.length - i) (0) (⟨by omega, fun j hj => absurd hj (Nat.not_lt_zero j)⟩) subtA subtA (fun _ => rfl) (by kernel_rfl) ?_; (conv => whnf))
    intro i hi
    (repeat' ((conv => whnf); first | (refine Ob.intro (OrdG.intro (by kernel_rfl)) ?_) | (refine Ob.auto ?_) | (refine Ob.intro (by (exact ⟨by omega, by omega⟩)) ?_) | (refine call_eq (fun _ => rfl) 300 (word_con _) (by rfl) (by kernel_rfl) ?_) | (refine gcall_eq (fun _ => rfl) 300 (fun hg => word_con _) (by rfl) rflsA (by kernel_rfl) ?_) | (refine CallX.intro _ (callOb (word_con _) (by rfl)) ?_) | (refine CallX.intro _ (callObG (fun hg => word_con _) rflsA (by rfl)) ?_) | (refine call_lend (fun _ => rfl) 300 (word_con _) holdA (by repeat' (first | exact trivial | exact Le.refl _ | (refine And.intro ?_ ?_))) (by rfl) (by kernel_rfl) ?_) | (refine gcall_lend (fun _ => rfl) 300 (fun hg => word_con _) (fun hg => holdA) (fun hg => (by repeat' (first | exact trivial | exact Le.refl _ | exact Le.cnd hg | (refine And.intro ?_ ?_)))) (by rfl) (by kernel_rfl) ?_) | (refine draw_x (fun _ => rfl) (by kernel_rfl) 300 ?_) | (refine Br.intro (fun hb => ?_) (fun hb => ?_) <;> (try simp [-List.getD_eq_getElem?_getD] at hb) <;> (try (exfalso; omega))) | (refine Ob.intro ?_ ?_)))
    · refine Le.of_eq (congrArg AV.bool ?_)
      unfold nameF
      rw [h0, range_no (q := fun i => wordF (byteAt s i)) (i := i) (by omega) hb]; rfl
    · ((conv => whnf); refine ⟨i + 1, ⟨by omega, upto_succ hi.2 hb⟩, ⟨subtA, subtA⟩, ⟨subtA, subtA⟩, ?_⟩; (first | omega | (dsimp only; omega) | skip))
    · refine Le.of_eq (congrArg AV.bool ?_)
      unfold nameF
      rw [h0, range_all (q := fun i => wordF (byteAt s i)) (fun j hj => hi.2 j (by omega))]; rfl

theorem in_con (k a b : Int) : Con Try.prog 86 [iv k, iv a, iv b] (.bool (inK k a b)) := by
  refine con_of_exec (T := tab Try.prog) (C := {}) 300 (fun _ => rfl) Try.func86 rfl (by kernel_rfl) (by kernel_rfl) (fun c0 rdb => ?_)
  (repeat' ((conv => whnf); first | (refine Ob.intro (OrdG.intro (by kernel_rfl)) ?_) | (refine Ob.auto ?_) | (refine draw_x (fun _ => rfl) (by kernel_rfl) 300 ?_) | (refine Br.intro (fun hb => ?_) (fun hb => ?_) <;> (try simp [-List.getD_eq_getElem?_getD] at hb) <;> (try (exfalso; omega))) | (refine Ob.intro ?_ ?_)))
  exact Le.refl _

theorem kid_con (l : List Nd) (n : Nd) (i : Int) (h0 : 0 ≤ i) (h1 : i < n.kids.length) (hk : ∀ k ∈ n.kids, 0 ≤ k ∧ k < l.length) : Con Try.prog 87 [treeV l, .agg n.cells, iv i] (iv (kidK l n i.toNat)) := by
  have hki := hk _ (getD_mem n.kids i.toNat 0 (by omega))
  refine con_of_exec (T := tab Try.prog) (C := {}) 300 (fun _ => rfl) Try.func87 rfl (by kernel_rfl) (by kernel_rfl) (fun c0 rdb => ?_)
  (repeat' ((conv => whnf); first | (refine Ob.intro (OrdG.intro (by kernel_rfl)) ?_) | (refine Ob.auto ?_) | (refine Ob.intro (by (exact ⟨by omega, by omega⟩)) ?_) | (refine draw_x (fun _ => rfl) (by kernel_rfl) 300 ?_) | (refine Br.intro (fun hb => ?_) (fun hb => ?_) <;> (try simp [-List.getD_eq_getElem?_getD] at hb) <;> (try (exfalso; omega))) | (refine Ob.intro ?_ ?_)))
  exact Le.refl _

theorem nums_con (n : Nd) (hn : NdSz n) (c most : Int) : Con Try.prog 84 [.agg n.cells, iv c, iv most] (.bool (numsB n c most)) := by
  have hl := hn.ln
  refine con_of_exec (T := tab Try.prog) (C := {}) 300 (fun _ => rfl) Try.func84 rfl (by kernel_rfl) (by kernel_rfl) (fun c0 rdb => ?_)
  (repeat' ((conv => whnf); first | (refine Ob.intro (OrdG.intro (by kernel_rfl)) ?_) | (refine Ob.auto ?_) | (refine draw_x (fun _ => rfl) (by kernel_rfl) 300 ?_) | (refine Br.intro (fun hb => ?_) (fun hb => ?_) <;> (try simp [-List.getD_eq_getElem?_getD] at hb) <;> (try (exfalso; omega))) | (refine Ob.intro ?_ ?_)))
  ((conv => whnf); refine loop_auto (fun _ => rfl) 300 1 (fun i : Nat => [(7, iv i)]) (fun _ => []) (fun i => i ≤ n.nums.length ∧ ∀ j, j < i → (decide (0 ≤ n.nums.getD j 0) && decide (n.nums.getD j 0 ≤ most)) = true) (fun i => n.nums.length - i) (0) (⟨by omega, fun j hj => absurd hj (Nat.not_lt_zero j)⟩) subtA subtA (fun _ => rfl) (by kernel_rfl) ?_; (conv => whnf))
  intro i hi
  (repeat' ((conv => whnf); first | (refine Ob.intro (OrdG.intro (by kernel_rfl)) ?_) | (refine Ob.auto ?_) | (refine Ob.intro (by (exact ⟨by omega, by omega⟩)) ?_) | (refine draw_x (fun _ => rfl) (by kernel_rfl) 300 ?_) | (refine Br.intro (fun hb => ?_) (fun hb => ?_) <;> (try simp [-List.getD_eq_getElem?_getD] at hb) <;> (try (exfalso; omega))) | (refine Ob.intro ?_ ?_)))
  · refine Le.of_eq (congrArg AV.bool ?_)
    unfold numsB
    rw [all_no (q := fun x => decide (0 ≤ x) && decide (x ≤ most)) 0 (j := i) (by omega) (by simp only [Bool.and_eq_false_iff, decide_eq_false_iff_not]; omega)]; rfl
  · ((conv => whnf); refine ⟨i + 1, ⟨by omega, upto_succ hi.2 (by simp only [Bool.and_eq_true, decide_eq_true_eq]; omega)⟩, ⟨subtA, subtA⟩, ⟨subtA, subtA⟩, ?_⟩; (first | omega | (dsimp only; omega) | skip))
  · refine Le.of_eq (congrArg AV.bool ?_)
    unfold numsB
    rw [all_upto (q := fun x => decide (0 ≤ x) && decide (x ≤ most)) 0 (fun j hj => hi.2 j (by omega))]; rfl

theorem words_con (n : Nd) (hn : NdSz n) (c : Int) : Con Try.prog 83 [.agg n.cells, iv c] (.bool (wordsB n c)) := by
  have hl := hn.lw
  refine con_of_exec (T := tab Try.prog) (C := {}) 300 (fun _ => rfl) Try.func83 rfl (by kernel_rfl) (by kernel_rfl) (fun c0 rdb => ?_)
  (repeat' ((conv => whnf); first | (refine Ob.intro (OrdG.intro (by kernel_rfl)) ?_) | (refine Ob.auto ?_) | (refine draw_x (fun _ => rfl) (by kernel_rfl) 300 ?_) | (refine Br.intro (fun hb => ?_) (fun hb => ?_) <;> (try simp [-List.getD_eq_getElem?_getD] at hb) <;> (try (exfalso; omega))) | (refine Ob.intro ?_ ?_)))
  ((conv => whnf); refine loop_auto (fun _ => rfl) 300 1 (fun i : Nat => [(5, iv i)]) (fun _ => []) (fun i => i ≤ n.words.length ∧ ∀ j, j < i → nameF (n.words.getD j []) = true) (fun i => n.words.length - i) (0) (⟨by omega, fun j hj => absurd hj (Nat.not_lt_zero j)⟩) subtA subtA (fun _ => rfl) (by kernel_rfl) ?_; (conv => whnf))
  intro i hi
  (repeat' ((conv => whnf); first | (refine Ob.intro (OrdG.intro (by kernel_rfl)) ?_) | (refine Ob.auto ?_) | (refine Ob.intro (by (exact ⟨by omega, by omega⟩)) ?_) | (refine call_eq (fun _ => rfl) 300 (name_con _) (by rfl) (by kernel_rfl) ?_) | (refine gcall_eq (fun _ => rfl) 300 (fun hg => name_con _) (by rfl) rflsA (by kernel_rfl) ?_) | (refine CallX.intro _ (callOb (name_con _) (by rfl)) ?_) | (refine CallX.intro _ (callObG (fun hg => name_con _) rflsA (by rfl)) ?_) | (refine call_lend (fun _ => rfl) 300 (name_con _) holdA (by repeat' (first | exact trivial | exact Le.refl _ | (refine And.intro ?_ ?_))) (by rfl) (by kernel_rfl) ?_) | (refine gcall_lend (fun _ => rfl) 300 (fun hg => name_con _) (fun hg => holdA) (fun hg => (by repeat' (first | exact trivial | exact Le.refl _ | exact Le.cnd hg | (refine And.intro ?_ ?_)))) (by rfl) (by kernel_rfl) ?_) | (refine draw_x (fun _ => rfl) (by kernel_rfl) 300 ?_) | (refine Br.intro (fun hb => ?_) (fun hb => ?_) <;> (try simp [-List.getD_eq_getElem?_getD] at hb) <;> (try (exfalso; omega))) | (refine Ob.intro ?_ ?_)))
  · refine Le.of_eq (congrArg AV.bool ?_)
    unfold wordsB
    rw [all_no (q := nameF) [] (j := i) (by omega) hb]; rfl
  · ((conv => whnf); refine ⟨i + 1, ⟨by omega, upto_succ hi.2 hb⟩, ⟨subtA, subtA⟩, ⟨subtA, subtA⟩, ?_⟩; (first | omega | (dsimp only; omega) | skip))
  · refine Le.of_eq (congrArg AV.bool ?_)
    unfold wordsB
    rw [all_upto (q := nameF) [] (fun j hj => hi.2 j (by omega))]; rfl

theorem all_con (l : List Nd) (n : Nd) (hn : NdSz n) (hk : ∀ k ∈ n.kids, 0 ≤ k ∧ k < l.length) (frm : Nat) (hf : frm ≤ n.kids.length) (a b : Int) : Con Try.prog 85 [treeV l, .agg n.cells, iv frm, iv a, iv b] (.bool (allB l n frm a b)) := by
  have hl := hn.lk
  refine con_of_exec (T := tab Try.prog) (C := {}) 300 (fun _ => rfl) Try.func85 rfl (by kernel_rfl) (by kernel_rfl) (fun c0 rdb => ?_)
  (repeat' ((conv => whnf); first | (refine Ob.intro (OrdG.intro (by kernel_rfl)) ?_) | (refine Ob.auto ?_) | (refine draw_x (fun _ => rfl) (by kernel_rfl) 300 ?_) | (refine Br.intro (fun hb => ?_) (fun hb => ?_) <;> (try simp [-List.getD_eq_getElem?_getD] at hb) <;> (try (exfalso; omega))) | (refine Ob.intro ?_ ?_)))
  ((conv => whnf); refine loop_auto (fun _ => rfl) 300 1 (fun i : Nat => [(11, iv i)]) (fun _ => []) (fun i => (frm ≤ i ∧ i ≤ n.kids.length) ∧ ∀ j, j < i → (decide (j < frm) || inK (kidK l n j) a b) = true) (fun i => n.kids.length - i) (frm) (⟨by omega, fun j hj => by simp [hj]⟩) subtA subtA (fun _ => rfl) (by kernel_rfl) ?_; (conv => whnf))
  intro i hi
  (repeat' ((conv => whnf); first | (refine Ob.intro (OrdG.intro (by kernel_rfl)) ?_) | (refine Ob.auto ?_) | (refine Ob.intro (by (exact ⟨by omega, by omega⟩)) ?_) | (refine call_eq (fun _ => rfl) 300 (kid_con l n i (by omega) (by omega) hk) (by rfl) (by kernel_rfl) ?_) | (refine gcall_eq (fun _ => rfl) 300 (fun hg => kid_con l n i (by omega) (by omega) hk) (by rfl) rflsA (by kernel_rfl) ?_) | (refine CallX.intro _ (callOb (kid_con l n i (by omega) (by omega) hk) (by rfl)) ?_) | (refine CallX.intro _ (callObG (fun hg => kid_con l n i (by omega) (by omega) hk) rflsA (by rfl)) ?_) | (refine call_eq (fun _ => rfl) 300 (in_con _ _ _) (by rfl) (by kernel_rfl) ?_) | (refine gcall_eq (fun _ => rfl) 300 (fun hg => in_con _ _ _) (by rfl) rflsA (by kernel_rfl) ?_) | (refine CallX.intro _ (callOb (in_con _ _ _) (by rfl)) ?_) | (refine CallX.intro _ (callObG (fun hg => in_con _ _ _) rflsA (by rfl)) ?_) | (refine call_lend (fun _ => rfl) 300 (kid_con l n i (by omega) (by omega) hk) holdA (by repeat' (first | exact trivial | exact Le.refl _ | (refine And.intro ?_ ?_))) (by rfl) (by kernel_rfl) ?_) | (refine gcall_lend (fun _ => rfl) 300 (fun hg => kid_con l n i (by omega) (by omega) hk) (fun hg => holdA) (fun hg => (by repeat' (first | exact trivial | exact Le.refl _ | exact Le.cnd hg | (refine And.intro ?_ ?_)))) (by rfl) (by kernel_rfl) ?_) | (refine call_lend (fun _ => rfl) 300 (in_con _ _ _) holdA (by repeat' (first | exact trivial | exact Le.refl _ | (refine And.intro ?_ ?_))) (by rfl) (by kernel_rfl) ?_) | (refine gcall_lend (fun _ => rfl) 300 (fun hg => in_con _ _ _) (fun hg => holdA) (fun hg => (by repeat' (first | exact trivial | exact Le.refl _ | exact Le.cnd hg | (refine And.intro ?_ ?_)))) (by rfl) (by kernel_rfl) ?_) | (refine draw_x (fun _ => rfl) (by kernel_rfl) 300 ?_) | (refine Br.intro (fun hb => ?_) (fun hb => ?_) <;> (try simp [-List.getD_eq_getElem?_getD] at hb) <;> (try (exfalso; omega))) | (refine Ob.intro ?_ ?_)))
  · refine Le.of_eq (congrArg AV.bool ?_)
    exact (range_no (i := i) (by omega) (by simp only [Bool.or_eq_false_iff, decide_eq_false_iff_not]; exact ⟨by omega, hb⟩)).symm
  · ((conv => whnf); refine ⟨i + 1, ⟨by omega, upto_succ hi.2 (by rw [Bool.or_eq_true]; exact .inr hb)⟩, ⟨subtA, subtA⟩, ⟨subtA, subtA⟩, ?_⟩; (first | omega | (dsimp only; omega) | skip))
  · refine Le.of_eq (congrArg AV.bool ?_)
    exact (range_all (fun j hj => hi.2 j (by omega))).symm

theorem exprs_con (l : List Nd) (n : Nd) (hn : NdSz n) (hk : ∀ k ∈ n.kids, 0 ≤ k ∧ k < l.length) (first least most : Int) (hf : (0 ≤ first ∧ first ≤ 100000) ∧ (0 ≤ least ∧ least ≤ 100000) ∧ (0 ≤ most ∧ most ≤ 100000)) : Con Try.prog 88 [treeV l, .agg n.cells, iv first, iv least, iv most] (.bool (exprsB l n first least most)) := by
  have hl := hn.lk
  refine con_of_exec (T := tab Try.prog) (C := {}) 300 (fun _ => rfl) Try.func88 rfl (by kernel_rfl) (by kernel_rfl) (fun c0 rdb => ?_)
  (repeat' ((conv => whnf); first | (refine Ob.intro (OrdG.intro (by kernel_rfl)) ?_) | (refine Ob.auto ?_) | (refine draw_x (fun _ => rfl) (by kernel_rfl) 300 ?_) | (refine Br.intro (fun hb => ?_) (fun hb => ?_) <;> (try simp [-List.getD_eq_getElem?_getD] at hb) <;> (try (exfalso; omega))) | (refine Ob.intro ?_ ?_)))
  ((conv => whnf); refine loop_auto (fun _ => rfl) 300 1 (fun i : Nat => [(12, iv i)]) (fun _ => []) (fun i => i ≤ n.kids.length ∧ ∀ j, j < i → (!(decide ((j : Int) < first) && !inK (kidK l n j) 17 22 || decide (first ≤ (j : Int)) && kidK l n j != 16)) = true) (fun i => n.kids.length - i) (0) (⟨by omega, fun j hj => absurd hj (Nat.not_lt_zero j)⟩) subtA subtA (fun _ => rfl) (by kernel_rfl) ?_; (conv => whnf))
  intro i hi
  (repeat' ((conv => whnf); first | (refine Ob.intro (OrdG.intro (by kernel_rfl)) ?_) | (refine Ob.auto ?_) | (refine Ob.intro (by (exact ⟨by omega, by omega⟩)) ?_) | (refine call_eq (fun _ => rfl) 300 (kid_con l n i (by omega) (by omega) hk) (by rfl) (by kernel_rfl) ?_) | (refine gcall_eq (fun _ => rfl) 300 (fun hg => kid_con l n i (by omega) (by omega) hk) (by rfl) rflsA (by kernel_rfl) ?_) | (refine CallX.intro _ (callOb (kid_con l n i (by omega) (by omega) hk) (by rfl)) ?_) | (refine CallX.intro _ (callObG (fun hg => kid_con l n i (by omega) (by omega) hk) rflsA (by rfl)) ?_) | (refine call_eq (fun _ => rfl) 300 (in_con _ _ _) (by rfl) (by kernel_rfl) ?_) | (refine gcall_eq (fun _ => rfl) 300 (fun hg => in_con _ _ _) (by rfl) rflsA (by kernel_rfl) ?_) | (refine CallX.intro _ (callOb (in_con _ _ _) (by rfl)) ?_) | (refine CallX.intro _ (callObG (fun hg => in_con _ _ _) rflsA (by rfl)) ?_) | (refine call_lend (fun _ => rfl) 300 (kid_con l n i (by omega) (by omega) hk) holdA (by repeat' (first | exact trivial | exact Le.refl _ | (refine And.intro ?_ ?_))) (by rfl) (by kernel_rfl) ?_) | (refine gcall_lend (fun _ => rfl) 300 (fun hg => kid_con l n i (by omega) (by omega) hk) (fun hg => holdA) (fun hg => (by repeat' (first | exact trivial | exact Le.refl _ | exact Le.cnd hg | (refine And.intro ?_ ?_)))) (by rfl) (by kernel_rfl) ?_) | (refine call_lend (fun _ => rfl) 300 (in_con _ _ _) holdA (by repeat' (first | exact trivial | exact Le.refl _ | (refine And.intro ?_ ?_))) (by rfl) (by kernel_rfl) ?_) | (refine gcall_lend (fun _ => rfl) 300 (fun hg => in_con _ _ _) (fun hg => holdA) (fun hg => (by repeat' (first | exact trivial | exact Le.refl _ | exact Le.cnd hg | (refine And.intro ?_ ?_)))) (by rfl) (by kernel_rfl) ?_) | (refine draw_x (fun _ => rfl) (by kernel_rfl) 300 ?_) | (refine Br.intro (fun hb => ?_) (fun hb => ?_) <;> (try simp [-List.getD_eq_getElem?_getD] at hb) <;> (try (exfalso; omega))) | (refine Ob.intro ?_ ?_)))
  · refine Le.of_eq (congrArg AV.bool ?_)
    unfold exprsB
    rw [range_no (i := i) (by omega) (by
      simp only [Bool.not_eq_false', Bool.or_eq_true, Bool.and_eq_true, decide_eq_true_eq, Bool.not_eq_true', bne_iff_ne, ne_eq]
      exact hb)]; rfl
  · ((conv => whnf); refine ⟨i + 1, ⟨by omega, upto_succ hi.2 (by
      simp only [Bool.not_eq_true', Bool.or_eq_false_iff, Bool.and_eq_false_imp, decide_eq_true_eq, Bool.not_eq_false', bne_eq_false_iff_eq]
      exact hb)⟩, ⟨subtA, subtA⟩, ⟨subtA, subtA⟩, ?_⟩; (first | omega | (dsimp only; omega) | skip))
  · refine Le.of_eq (congrArg AV.bool ?_)
    unfold exprsB
    rw [range_all (fun j hj => hi.2 j (by omega))]; rfl

end Go.Proofs.Ytdoaagphhjggbaa
