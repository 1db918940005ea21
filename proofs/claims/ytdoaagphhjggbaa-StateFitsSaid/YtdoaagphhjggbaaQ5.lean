/- Some texts of the library, one behind the other. -/
import Derived.Test.YtdoaagphhjggbaaQ4
import Derived.Test.YtdoaagphhjggbaaQ2
import Derived.Test.YtdoaagphhjggbaaProg
import Derived.KernelRfl
section
/- Contracts: which trees are right: a node. -/
namespace Go.Proofs.Ytdoaagphhjggbaa
open Go Go.Sx Go.RowKit Go.St
set_option maxRecDepth 100000
set_option maxHeartbeats 2000000

abbrev bv (n : Int) : AV := .int .u8 n

theorem digit_con (c : Int) : Con Try.prog 68 [bv c] (.bool (decide (48 ≤ c) && decide (c ≤ 57))) := by
  refine con_of_exec (T := tab Try.prog) (C := {}) 300 (fun _ => rfl) Try.func68 rfl (by kernel_rfl) (by kernel_rfl) (fun c0 rdb => ?_)
  (repeat' ((conv => whnf); first | refine zO ?_ | refine Ob.auto ?_ | (refine draw_x (fun _ => rfl) (by kernel_rfl) 300 ?_) | (refine Br.intro (fun hb => ?_) (fun hb => ?_) <;> (try simp [-List.getD_eq_getElem?_getD] at hb) <;> (try (exfalso; omega))) | refine Ob.intro ?_ ?_))
  exact Le.refl _

theorem letter_con (c : Int) : Con Try.prog 66 [bv c] (.bool (letterF c)) := by
  refine con_of_exec (T := tab Try.prog) (C := {}) 300 (fun _ => rfl) Try.func66 rfl (by kernel_rfl) (by kernel_rfl) (fun c0 rdb => ?_)
  (repeat' ((conv => whnf); first | refine zO ?_ | refine Ob.auto ?_ | (refine draw_x (fun _ => rfl) (by kernel_rfl) 300 ?_) | (refine Br.intro (fun hb => ?_) (fun hb => ?_) <;> (try simp [-List.getD_eq_getElem?_getD] at hb) <;> (try (exfalso; omega))) | refine Ob.intro ?_ ?_))
  exact Le.refl _

theorem word_con (c : Int) : Con Try.prog 67 [bv c] (.bool (wordF c)) := by
  refine con_of_exec (T := tab Try.prog) (C := {}) 300 (fun _ => rfl) Try.func67 rfl (by kernel_rfl) (by kernel_rfl) (fun c0 rdb => ?_)
  (repeat' ((conv => whnf); first | refine zO ?_ | refine Ob.auto ?_ | refine zC 300 (letter_con c) ?_ | refine zG 300 (fun hg => letter_con c) ?_ | refine zX (letter_con c) ?_ | refine zY (fun hg => letter_con c) ?_ | refine zC 300 (digit_con c) ?_ | refine zG 300 (fun hg => digit_con c) ?_ | refine zX (digit_con c) ?_ | refine zY (fun hg => digit_con c) ?_ | refine zE 300 (letter_con c) ?_ | refine zF 300 (fun hg => letter_con c) ?_ | refine zE 300 (digit_con c) ?_ | refine zF 300 (fun hg => digit_con c) ?_ | (refine draw_x (fun _ => rfl) (by kernel_rfl) 300 ?_) | (refine Br.intro (fun hb => ?_) (fun hb => ?_) <;> (try simp [-List.getD_eq_getElem?_getD] at hb) <;> (try (exfalso; omega))) | refine Ob.intro ?_ ?_))
  exact Le.refl _

theorem keys_le (f : Nat → List AV) (h : ∀ i, i < 21 → f i = encL (fun s => [.str s]) [] keyL i) : Le (.slc 1 21 f) (strs keyL) := Le.slc rfl h

theorem key_con (s : List UInt8) : Con Try.prog 107 [.str s] (.bool (keyF s)) := by
  refine con_of_exec (T := tab Try.prog) (C := {}) 300 (fun _ => rfl) Try.func107 rfl (by kernel_rfl) (by kernel_rfl) (fun c0 rdb => ?_)
  (repeat' ((conv => whnf); first | refine zO ?_ | refine Ob.auto ?_ | (refine draw_x (fun _ => rfl) (by kernel_rfl) 300 ?_) | (refine Br.intro (fun hb => ?_) (fun hb => ?_) <;> (try simp [-List.getD_eq_getElem?_getD] at hb) <;> (try (exfalso; omega))) | refine Ob.intro ?_ ?_))
  ((conv => whnf); refine loop_auto (fun _ => rfl) 300 1 (fun i : Nat => [(4, iv i), (3, strs keyL)]) (fun _ => []) (fun i => i ≤ keyL.length ∧ ∀ j, j < i → (keyL.getD j [] == s) = false) (fun i => keyL.length - i) (0) (⟨by omega, fun j hj => absurd hj (Nat.not_lt_zero j)⟩) ⟨Le.refl _, keys_le _ (fun i hi => match i, hi with | 0, _ => rfl | 1, _ => rfl | 2, _ => rfl | 3, _ => rfl | 4, _ => rfl | 5, _ => rfl | 6, _ => rfl | 7, _ => rfl | 8, _ => rfl | 9, _ => rfl | 10, _ => rfl | 11, _ => rfl | 12, _ => rfl | 13, _ => rfl | 14, _ => rfl | 15, _ => rfl | 16, _ => rfl | 17, _ => rfl | 18, _ => rfl | 19, _ => rfl | 20, _ => rfl | n + 21, h => absurd h (by omega)), trivial⟩ subtA (fun _ => rfl) (by kernel_rfl) ?_; (conv => whnf))
  intro i hi
  have h21 : keyL.length = 21 := rfl
  (repeat' ((conv => whnf); first | refine zO ?_ | refine Ob.auto ?_ | (refine Ob.intro (by (exact ⟨by omega, by omega⟩)) ?_) | (refine draw_x (fun _ => rfl) (by kernel_rfl) 300 ?_) | (refine Br.intro (fun hb => ?_) (fun hb => ?_) <;> (try simp [-List.getD_eq_getElem?_getD] at hb) <;> (try (exfalso; omega))) | refine Ob.intro ?_ ?_))
  · refine Le.of_eq (congrArg AV.bool ?_)
    unfold keyF
    exact (List.any_eq_true.2 ⟨keyL.getD i [], getD_mem keyL i [] (by omega), by simpa using hb⟩).symm
  · ((conv => whnf); refine ⟨i + 1, ⟨by omega, upto_succ hi.2 (beq_eq_false_iff_ne.2 hb)⟩, ⟨subtA, subtA⟩, ⟨subtA, subtA⟩, ?_⟩; (first | omega | (dsimp only; omega) | skip))
  · refine Le.of_eq (congrArg AV.bool ?_)
    unfold keyF
    rw [eq_comm, Bool.eq_false_iff]
    intro h
    obtain ⟨x, hx, he⟩ := List.any_eq_true.1 h
    obtain ⟨j, hj, rfl⟩ := List.mem_iff_getElem.1 hx
    have := hi.2 j (by omega)
    rw [List.getD_eq_getElem?_getD, List.getElem?_eq_getElem hj] at this
    simp only [Option.getD_some] at this
    rw [this] at he; cases he

theorem name_con (s : List UInt8) : Con Try.prog 106 [.str s] (.bool (nameF s)) := by
  refine con_of_exec (T := tab Try.prog) (C := {}) 300 (fun _ => rfl) Try.func106 rfl (by kernel_rfl) (by kernel_rfl) (fun c0 rdb => ?_)
  (repeat' ((conv => whnf); first | refine zO ?_ | refine Ob.auto ?_ | (refine Ob.intro (by ((intro h; simp at h ⊢; exact ⟨h, by have := List.length_pos_iff.2 h.1; omega⟩))) ?_) | refine zC 300 (letter_con _) ?_ | refine zG 300 (fun hg => letter_con _) ?_ | refine zX (letter_con _) ?_ | refine zY (fun hg => letter_con _) ?_ | refine zC 300 (key_con s) ?_ | refine zG 300 (fun hg => key_con s) ?_ | refine zX (key_con s) ?_ | refine zY (fun hg => key_con s) ?_ | refine zE 300 (letter_con _) ?_ | refine zF 300 (fun hg => letter_con _) ?_ | refine zE 300 (key_con s) ?_ | refine zF 300 (fun hg => key_con s) ?_ | (refine draw_x (fun _ => rfl) (by kernel_rfl) 300 ?_) | (refine Br.intro (fun hb => ?_) (fun hb => ?_) <;> (try simp [-List.getD_eq_getElem?_getD] at hb) <;> (try (exfalso; omega))) | refine Ob.intro ?_ ?_))
  · refine Le.of_eq (congrArg AV.bool ?_)
    unfold nameF
    have : (decide (s.length = 0) || decide (12 < s.length) || !letterF (byteAt s 0) || keyF s) = true := by
      simp only [Bool.or_eq_true, decide_eq_true_eq, List.length_eq_zero_iff, Bool.not_eq_true']
      rcases hb with ((hb | hb) | hb) | hb
      · exact .inl (.inl (.inl hb))
      · exact .inl (.inl (.inr (by omega)))
      · exact .inl (.inr hb)
      · exact .inr hb
    rw [this]; rfl
  · have h0 : (decide (s.length = 0) || decide (12 < s.length) || !letterF (byteAt s 0) || keyF s) = false := by
      simp only [Bool.or_eq_false_iff, decide_eq_false_iff_not, List.length_eq_zero_iff, Bool.not_eq_false']
      exact ⟨⟨⟨hb.1.1.1, by omega⟩, hb.1.2⟩, hb.2⟩
    ((conv => whnf); refine loop_auto (fun _ => rfl) 300 1 (fun i : Nat => [(3, iv i)]) (fun _ => []) (fun i => i ≤ s.length ∧ ∀ j, j < i → wordF (byteAt s j) = true) (fun i => s.length - i) (0) (⟨by omega, fun j hj => absurd hj (Nat.not_lt_zero j)⟩) subtA subtA (fun _ => rfl) (by kernel_rfl) ?_; (conv => whnf))
    intro i hi
    (repeat' ((conv => whnf); first | refine zO ?_ | refine Ob.auto ?_ | (refine Ob.intro (by (exact ⟨by omega, by omega⟩)) ?_) | refine zC 300 (word_con _) ?_ | refine zG 300 (fun hg => word_con _) ?_ | refine zX (word_con _) ?_ | refine zY (fun hg => word_con _) ?_ | refine zE 300 (word_con _) ?_ | refine zF 300 (fun hg => word_con _) ?_ | (refine draw_x (fun _ => rfl) (by kernel_rfl) 300 ?_) | (refine Br.intro (fun hb => ?_) (fun hb => ?_) <;> (try simp [-List.getD_eq_getElem?_getD] at hb) <;> (try (exfalso; omega))) | refine Ob.intro ?_ ?_))
    · refine Le.of_eq (congrArg AV.bool ?_)
      unfold nameF
      rw [h0, range_no (q := fun i => wordF (byteAt s i)) (i := i) (by omega) hb]; rfl
    · ((conv => whnf); refine ⟨i + 1, ⟨by omega, upto_succ hi.2 hb⟩, ⟨subtA, subtA⟩, ⟨subtA, subtA⟩, ?_⟩; (first | omega | (dsimp only; omega) | skip))
    · refine Le.of_eq (congrArg AV.bool ?_)
      unfold nameF
      rw [h0, range_all (q := fun i => wordF (byteAt s i)) (fun j hj => hi.2 j (by omega))]; rfl

theorem in_con (k a b : Int) : Con Try.prog 86 [iv k, iv a, iv b] (.bool (inK k a b)) := by
  refine con_of_exec (T := tab Try.prog) (C := {}) 300 (fun _ => rfl) Try.func86 rfl (by kernel_rfl) (by kernel_rfl) (fun c0 rdb => ?_)
  (repeat' ((conv => whnf); first | refine zO ?_ | refine Ob.auto ?_ | (refine draw_x (fun _ => rfl) (by kernel_rfl) 300 ?_) | (refine Br.intro (fun hb => ?_) (fun hb => ?_) <;> (try simp [-List.getD_eq_getElem?_getD] at hb) <;> (try (exfalso; omega))) | refine Ob.intro ?_ ?_))
  exact Le.refl _

theorem kid_con (l : List Nd) (n : Nd) (i : Int) (h0 : 0 ≤ i) (h1 : i < n.kids.length) (hk : ∀ k ∈ n.kids, 0 ≤ k ∧ k < l.length) : Con Try.prog 87 [treeV l, .agg n.cells, iv i] (iv (kidK l n i.toNat)) := by
  have hki := hk _ (getD_mem n.kids i.toNat 0 (by omega))
  refine con_of_exec (T := tab Try.prog) (C := {}) 300 (fun _ => rfl) Try.func87 rfl (by kernel_rfl) (by kernel_rfl) (fun c0 rdb => ?_)
  (repeat' ((conv => whnf); first | refine zO ?_ | refine Ob.auto ?_ | (refine Ob.intro (by (exact ⟨by omega, by omega⟩)) ?_) | (refine draw_x (fun _ => rfl) (by kernel_rfl) 300 ?_) | (refine Br.intro (fun hb => ?_) (fun hb => ?_) <;> (try simp [-List.getD_eq_getElem?_getD] at hb) <;> (try (exfalso; omega))) | refine Ob.intro ?_ ?_))
  exact Le.refl _

theorem nums_con (n : Nd) (hn : NdSz n) (c most : Int) : Con Try.prog 84 [.agg n.cells, iv c, iv most] (.bool (numsB n c most)) := by
  have hl := hn.ln
  refine con_of_exec (T := tab Try.prog) (C := {}) 300 (fun _ => rfl) Try.func84 rfl (by kernel_rfl) (by kernel_rfl) (fun c0 rdb => ?_)
  (repeat' ((conv => whnf); first | refine zO ?_ | refine Ob.auto ?_ | (refine draw_x (fun _ => rfl) (by kernel_rfl) 300 ?_) | (refine Br.intro (fun hb => ?_) (fun hb => ?_) <;> (try simp [-List.getD_eq_getElem?_getD] at hb) <;> (try (exfalso; omega))) | refine Ob.intro ?_ ?_))
  ((conv => whnf); refine loop_auto (fun _ => rfl) 300 1 (fun i : Nat => [(7, iv i)]) (fun _ => []) (fun i => i ≤ n.nums.length ∧ ∀ j, j < i → (decide (0 ≤ n.nums.getD j 0) && decide (n.nums.getD j 0 ≤ most)) = true) (fun i => n.nums.length - i) (0) (⟨by omega, fun j hj => absurd hj (Nat.not_lt_zero j)⟩) subtA subtA (fun _ => rfl) (by kernel_rfl) ?_; (conv => whnf))
  intro i hi
  (repeat' ((conv => whnf); first | refine zO ?_ | refine Ob.auto ?_ | (refine Ob.intro (by (exact ⟨by omega, by omega⟩)) ?_) | (refine draw_x (fun _ => rfl) (by kernel_rfl) 300 ?_) | (refine Br.intro (fun hb => ?_) (fun hb => ?_) <;> (try simp [-List.getD_eq_getElem?_getD] at hb) <;> (try (exfalso; omega))) | refine Ob.intro ?_ ?_))
  · refine Le.of_eq (congrArg AV.bool ?_)
    unfold numsB
    rw [all_no (q := fun x => decide (0 ≤ x) && decide (x ≤ most)) 0 (j := i) (by omega) (by simp only [Bool.and_eq_false_iff, decide_eq_false_iff_not]; omega)]; rfl
  · ((conv => whnf); refine ⟨i + 1, ⟨by omega, upto_succ hi.2 (by simp only [Bool.and_eq_true, decide_eq_true_eq]; omega)⟩, ⟨subtA, subtA⟩, ⟨subtA, subtA⟩, ?_⟩; (first | omega | (dsimp only; omega) | skip))
  · refine Le.of_eq (congrArg AV.bool ?_)
    unfold numsB
    rw [all_upto (q := fun x => decide (0 ≤ x) && decide (x ≤ most)) 0 (fun j hj => hi.2 j (by omega))]; rfl

theorem words_con (n : Nd) (hn : NdSz n) (c : Int) : Con Try.prog 83 [.agg n.cells, iv c] (.bool (wordsB n c)) := by
  have hl := hn.lw
  refine con_of_exec (T := tab Try.prog) (C := {}) 300 (fun _ => rfl) Try.func83 rfl (by kernel_rfl) (by kernel_rfl) (fun c0 rdb => ?_)
  (repeat' ((conv => whnf); first | refine zO ?_ | refine Ob.auto ?_ | (refine draw_x (fun _ => rfl) (by kernel_rfl) 300 ?_) | (refine Br.intro (fun hb => ?_) (fun hb => ?_) <;> (try simp [-List.getD_eq_getElem?_getD] at hb) <;> (try (exfalso; omega))) | refine Ob.intro ?_ ?_))
  ((conv => whnf); refine loop_auto (fun _ => rfl) 300 1 (fun i : Nat => [(5, iv i)]) (fun _ => []) (fun i => i ≤ n.words.length ∧ ∀ j, j < i → nameF (n.words.getD j []) = true) (fun i => n.words.length - i) (0) (⟨by omega, fun j hj => absurd hj (Nat.not_lt_zero j)⟩) subtA subtA (fun _ => rfl) (by kernel_rfl) ?_; (conv => whnf))
  intro i hi
  (repeat' ((conv => whnf); first | refine zO ?_ | refine Ob.auto ?_ | (refine Ob.intro (by (exact ⟨by omega, by omega⟩)) ?_) | refine zC 300 (name_con _) ?_ | refine zG 300 (fun hg => name_con _) ?_ | refine zX (name_con _) ?_ | refine zY (fun hg => name_con _) ?_ | refine zE 300 (name_con _) ?_ | refine zF 300 (fun hg => name_con _) ?_ | (refine draw_x (fun _ => rfl) (by kernel_rfl) 300 ?_) | (refine Br.intro (fun hb => ?_) (fun hb => ?_) <;> (try simp [-List.getD_eq_getElem?_getD] at hb) <;> (try (exfalso; omega))) | refine Ob.intro ?_ ?_))
  · refine Le.of_eq (congrArg AV.bool ?_)
    unfold wordsB
    rw [all_no (q := nameF) [] (j := i) (by omega) hb]; rfl
  · ((conv => whnf); refine ⟨i + 1, ⟨by omega, upto_succ hi.2 hb⟩, ⟨subtA, subtA⟩, ⟨subtA, subtA⟩, ?_⟩; (first | omega | (dsimp only; omega) | skip))
  · refine Le.of_eq (congrArg AV.bool ?_)
    unfold wordsB
    rw [all_upto (q := nameF) [] (fun j hj => hi.2 j (by omega))]; rfl

theorem all_con (l : List Nd) (n : Nd) (hn : NdSz n) (hk : ∀ k ∈ n.kids, 0 ≤ k ∧ k < l.length) (frm : Nat) (hf : frm ≤ n.kids.length) (a b : Int) : Con Try.prog 85 [treeV l, .agg n.cells, iv frm, iv a, iv b] (.bool (allB l n frm a b)) := by
  have hl := hn.lk
  refine con_of_exec (T := tab Try.prog) (C := {}) 300 (fun _ => rfl) Try.func85 rfl (by kernel_rfl) (by kernel_rfl) (fun c0 rdb => ?_)
  (repeat' ((conv => whnf); first | refine zO ?_ | refine Ob.auto ?_ | (refine draw_x (fun _ => rfl) (by kernel_rfl) 300 ?_) | (refine Br.intro (fun hb => ?_) (fun hb => ?_) <;> (try simp [-List.getD_eq_getElem?_getD] at hb) <;> (try (exfalso; omega))) | refine Ob.intro ?_ ?_))
  ((conv => whnf); refine loop_auto (fun _ => rfl) 300 1 (fun i : Nat => [(11, iv i)]) (fun _ => []) (fun i => (frm ≤ i ∧ i ≤ n.kids.length) ∧ ∀ j, j < i → (decide (j < frm) || inK (kidK l n j) a b) = true) (fun i => n.kids.length - i) (frm) (⟨by omega, fun j hj => by simp [hj]⟩) subtA subtA (fun _ => rfl) (by kernel_rfl) ?_; (conv => whnf))
  intro i hi
  (repeat' ((conv => whnf); first | refine zO ?_ | refine Ob.auto ?_ | (refine Ob.intro (by (exact ⟨by omega, by omega⟩)) ?_) | refine zC 300 (kid_con l n i (by omega) (by omega) hk) ?_ | refine zG 300 (fun hg => kid_con l n i (by omega) (by omega) hk) ?_ | refine zX (kid_con l n i (by omega) (by omega) hk) ?_ | refine zY (fun hg => kid_con l n i (by omega) (by omega) hk) ?_ | refine zC 300 (in_con _ _ _) ?_ | refine zG 300 (fun hg => in_con _ _ _) ?_ | refine zX (in_con _ _ _) ?_ | refine zY (fun hg => in_con _ _ _) ?_ | refine zE 300 (kid_con l n i (by omega) (by omega) hk) ?_ | refine zF 300 (fun hg => kid_con l n i (by omega) (by omega) hk) ?_ | refine zE 300 (in_con _ _ _) ?_ | refine zF 300 (fun hg => in_con _ _ _) ?_ | (refine draw_x (fun _ => rfl) (by kernel_rfl) 300 ?_) | (refine Br.intro (fun hb => ?_) (fun hb => ?_) <;> (try simp [-List.getD_eq_getElem?_getD] at hb) <;> (try (exfalso; omega))) | refine Ob.intro ?_ ?_))
  · refine Le.of_eq (congrArg AV.bool ?_)
    exact (range_no (i := i) (by omega) (by simp only [Bool.or_eq_false_iff, decide_eq_false_iff_not]; exact ⟨by omega, hb⟩)).symm
  · ((conv => whnf); refine ⟨i + 1, ⟨by omega, upto_succ hi.2 (by rw [Bool.or_eq_true]; exact .inr hb)⟩, ⟨subtA, subtA⟩, ⟨subtA, subtA⟩, ?_⟩; (first | omega | (dsimp only; omega) | skip))
  · refine Le.of_eq (congrArg AV.bool ?_)
    exact (range_all (fun j hj => hi.2 j (by omega))).symm

theorem exprs_con (l : List Nd) (n : Nd) (hn : NdSz n) (hk : ∀ k ∈ n.kids, 0 ≤ k ∧ k < l.length) (first least most : Int) (hf : (0 ≤ first ∧ first ≤ 100000) ∧ (0 ≤ least ∧ least ≤ 100000) ∧ (0 ≤ most ∧ most ≤ 100000)) : Con Try.prog 88 [treeV l, .agg n.cells, iv first, iv least, iv most] (.bool (exprsB l n first least most)) := by
  have hl := hn.lk
  refine con_of_exec (T := tab Try.prog) (C := {}) 300 (fun _ => rfl) Try.func88 rfl (by kernel_rfl) (by kernel_rfl) (fun c0 rdb => ?_)
  (repeat' ((conv => whnf); first | refine zO ?_ | refine Ob.auto ?_ | (refine draw_x (fun _ => rfl) (by kernel_rfl) 300 ?_) | (refine Br.intro (fun hb => ?_) (fun hb => ?_) <;> (try simp [-List.getD_eq_getElem?_getD] at hb) <;> (try (exfalso; omega))) | refine Ob.intro ?_ ?_))
  ((conv => whnf); refine loop_auto (fun _ => rfl) 300 1 (fun i : Nat => [(12, iv i)]) (fun _ => []) (fun i => i ≤ n.kids.length ∧ ∀ j, j < i → (!(decide ((j : Int) < first) && !inK (kidK l n j) 17 22 || decide (first ≤ (j : Int)) && kidK l n j != 16)) = true) (fun i => n.kids.length - i) (0) (⟨by omega, fun j hj => absurd hj (Nat.not_lt_zero j)⟩) subtA subtA (fun _ => rfl) (by kernel_rfl) ?_; (conv => whnf))
  intro i hi
  (repeat' ((conv => whnf); first | refine zO ?_ | refine Ob.auto ?_ | (refine Ob.intro (by (exact ⟨by omega, by omega⟩)) ?_) | refine zC 300 (kid_con l n i (by omega) (by omega) hk) ?_ | refine zG 300 (fun hg => kid_con l n i (by omega) (by omega) hk) ?_ | refine zX (kid_con l n i (by omega) (by omega) hk) ?_ | refine zY (fun hg => kid_con l n i (by omega) (by omega) hk) ?_ | refine zC 300 (in_con _ _ _) ?_ | refine zG 300 (fun hg => in_con _ _ _) ?_ | refine zX (in_con _ _ _) ?_ | refine zY (fun hg => in_con _ _ _) ?_ | refine zE 300 (kid_con l n i (by omega) (by omega) hk) ?_ | refine zF 300 (fun hg => kid_con l n i (by omega) (by omega) hk) ?_ | refine zE 300 (in_con _ _ _) ?_ | refine zF 300 (fun hg => in_con _ _ _) ?_ | (refine draw_x (fun _ => rfl) (by kernel_rfl) 300 ?_) | (refine Br.intro (fun hb => ?_) (fun hb => ?_) <;> (try simp [-List.getD_eq_getElem?_getD] at hb) <;> (try (exfalso; omega))) | refine Ob.intro ?_ ?_))
  · refine Le.of_eq (congrArg AV.bool ?_)
    unfold exprsB
    rw [range_no (i := i) (by omega) (by
      simp only [Bool.not_eq_false', Bool.or_eq_true, Bool.and_eq_true, decide_eq_true_eq, Bool.not_eq_true', bne_iff_ne, ne_eq]
      exact hb)]; rfl
  · ((conv => whnf); refine ⟨i + 1, ⟨by omega, upto_succ hi.2 (by
      simp only [Bool.not_eq_true', Bool.or_eq_false_iff, Bool.and_eq_false_imp, decide_eq_true_eq, Bool.not_eq_false', bne_eq_false_iff_eq]
      exact hb)⟩, ⟨subtA, subtA⟩, ⟨subtA, subtA⟩, ?_⟩; (first | omega | (dsimp only; omega) | skip))
  · refine Le.of_eq (congrArg AV.bool ?_)
    unfold exprsB
    rw [range_all (fun j hj => hi.2 j (by omega))]; rfl

end Go.Proofs.Ytdoaagphhjggbaa
end
section
/- Contracts: which trees are right: the node. -/
namespace Go.Proofs.Ytdoaagphhjggbaa
open Go Go.Sx Go.RowKit Go.St
set_option maxRecDepth 100000
set_option maxHeartbeats 4000000

theorem node_con (l : List Nd) (n : Nd) (hn : NdSz n) (hk : ∀ k ∈ n.kids, 0 ≤ k ∧ k < l.length) : Con Try.prog 53 [treeV l, .agg n.cells] (.bool (nodeB l n)) := by
  have hl := hn.lk
  refine con_of_exec (T := tab Try.prog) (C := {}) 600 (fun _ => rfl) Try.func53 rfl (by kernel_rfl) (by kernel_rfl) (fun c0 rdb => ?_)
  (repeat' ((conv => whnf); first | refine zO ?_ | refine Ob.auto ?_ | (refine Ob.intro (by ((intro h; refine ⟨h, ?_⟩; simp only [Bool.and_eq_true, numsB, beq_iff_eq] at h; omega))) ?_) | refine zC 600 (words_con n hn _) ?_ | refine zG 600 (fun hg => words_con n hn _) ?_ | refine zX (words_con n hn _) ?_ | refine zY (fun hg => words_con n hn _) ?_ | refine zC 600 (nums_con n hn _ _) ?_ | refine zG 600 (fun hg => nums_con n hn _ _) ?_ | refine zX (nums_con n hn _ _) ?_ | refine zY (fun hg => nums_con n hn _ _) ?_ | refine zC 600 (all_con l n hn hk 0 (by omega) _ _) ?_ | refine zG 600 (fun hg => all_con l n hn hk 0 (by omega) _ _) ?_ | refine zX (all_con l n hn hk 0 (by omega) _ _) ?_ | refine zY (fun hg => all_con l n hn hk 0 (by omega) _ _) ?_ | refine zC 600 (exprs_con l n hn hk _ _ _ (by omega)) ?_ | refine zG 600 (fun hg => exprs_con l n hn hk _ _ _ (by omega)) ?_ | refine zX (exprs_con l n hn hk _ _ _ (by omega)) ?_ | refine zY (fun hg => exprs_con l n hn hk _ _ _ (by omega)) ?_ | refine zC 600 (in_con _ _ _) ?_ | refine zG 600 (fun hg => in_con _ _ _) ?_ | refine zX (in_con _ _ _) ?_ | refine zY (fun hg => in_con _ _ _) ?_ | refine zE 600 (words_con n hn _) ?_ | refine zF 600 (fun hg => words_con n hn _) ?_ | refine zE 600 (nums_con n hn _ _) ?_ | refine zF 600 (fun hg => nums_con n hn _ _) ?_ | refine zE 600 (all_con l n hn hk 0 (by omega) _ _) ?_ | refine zF 600 (fun hg => all_con l n hn hk 0 (by omega) _ _) ?_ | refine zE 600 (exprs_con l n hn hk _ _ _ (by omega)) ?_ | refine zF 600 (fun hg => exprs_con l n hn hk _ _ _ (by omega)) ?_ | refine zE 600 (in_con _ _ _) ?_ | refine zF 600 (fun hg => in_con _ _ _) ?_ | (refine draw_x (fun _ => rfl) (by kernel_rfl) 600 ?_) | (refine Br.intro (fun hb => ?_) (fun hb => ?_) <;> (try simp [-List.getD_eq_getElem?_getD] at hb) <;> (try (exfalso; omega))) | refine Ob.intro ?_ ?_))
  all_goals first
    | (refine Le.of_eq (congrArg AV.bool ?_); rw [nodeB]; ((repeat (first | rw [if_pos (by omega)] | rw [if_neg (by omega)])) <;> rfl))
    | skip
  ((conv => whnf); refine loop_auto (fun _ => rfl) 600 1 (fun i : Nat => [(6, iv i)]) (fun _ => []) (fun i => i ≤ n.kids.length ∧ ∀ j, j < i → kidK l n j = 2) (fun i => n.kids.length - i) (0) (⟨by omega, fun j hj => absurd hj (Nat.not_lt_zero j)⟩) subtA subtA (fun _ => rfl) (by kernel_rfl) ?_; (conv => whnf))
  intro i hi
  (repeat' ((conv => whnf); first | refine zO ?_ | refine Ob.auto ?_ | (refine call_eq (fun _ => rfl) 600 (kid_con l n i (by omega) (by first | omega | (have := of_decide_eq_true hg; omega)) hk) (by rfl) (by kernel_rfl) ?_) | (refine gcall_eq (fun _ => rfl) 600 (fun hg => kid_con l n i (by omega) (by first | omega | (have := of_decide_eq_true hg; omega)) hk) (by rfl) rflsA (by kernel_rfl) ?_) | (refine CallX.intro _ (callOb (kid_con l n i (by omega) (by first | omega | (have := of_decide_eq_true hg; omega)) hk) (by rfl)) ?_) | (refine CallX.intro _ (callObG (fun hg => kid_con l n i (by omega) (by first | omega | (have := of_decide_eq_true hg; omega)) hk) rflsA (by rfl)) ?_) | refine zC 600 (words_con n hn _) ?_ | refine zG 600 (fun hg => words_con n hn _) ?_ | refine zX (words_con n hn _) ?_ | refine zY (fun hg => words_con n hn _) ?_ | refine zC 600 (nums_con n hn _ _) ?_ | refine zG 600 (fun hg => nums_con n hn _ _) ?_ | refine zX (nums_con n hn _ _) ?_ | refine zY (fun hg => nums_con n hn _ _) ?_ | refine zC 600 (all_con l n hn hk i (by omega) _ _) ?_ | refine zG 600 (fun hg => all_con l n hn hk i (by omega) _ _) ?_ | refine zX (all_con l n hn hk i (by omega) _ _) ?_ | refine zY (fun hg => all_con l n hn hk i (by omega) _ _) ?_ | (refine call_lend (fun _ => rfl) 600 (kid_con l n i (by omega) (by first | omega | (have := of_decide_eq_true hg; omega)) hk) holdA (by repeat' (first | exact trivial | exact Le.refl _ | (refine And.intro ?_ ?_))) (by rfl) (by kernel_rfl) ?_) | (refine gcall_lend (fun _ => rfl) 600 (fun hg => kid_con l n i (by omega) (by first | omega | (have := of_decide_eq_true hg; omega)) hk) (fun hg => holdA) (fun hg => (by repeat' (first | exact trivial | exact Le.refl _ | exact Le.cnd hg | (refine And.intro ?_ ?_)))) (by rfl) (by kernel_rfl) ?_) | refine zE 600 (words_con n hn _) ?_ | refine zF 600 (fun hg => words_con n hn _) ?_ | refine zE 600 (nums_con n hn _ _) ?_ | refine zF 600 (fun hg => nums_con n hn _ _) ?_ | refine zE 600 (all_con l n hn hk i (by omega) _ _) ?_ | refine zF 600 (fun hg => all_con l n hn hk i (by omega) _ _) ?_ | (refine draw_x (fun _ => rfl) (by kernel_rfl) 600 ?_) | (refine Br.intro (fun hb => ?_) (fun hb => ?_) <;> (try simp [-List.getD_eq_getElem?_getD] at hb) <;> (try (exfalso; omega))) | refine Ob.intro ?_ ?_))
  · ((conv => whnf); refine ⟨i + 1, ⟨by omega, upto_succ hi.2 hb.2⟩, ⟨subtA, subtA⟩, ⟨subtA, subtA⟩, ?_⟩; (first | omega | (dsimp only; omega) | skip))
  · rename_i h3
    refine Le.of_eq (congrArg AV.bool ?_)
    rw [nodeB, if_neg (by omega), if_neg (by omega), if_neg (by omega), if_pos (by omega), varsN_eq l n i hi.1 hi.2 (by omega)]

end Go.Proofs.Ytdoaagphhjggbaa
end
