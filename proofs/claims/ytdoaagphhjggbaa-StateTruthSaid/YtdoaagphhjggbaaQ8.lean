/- Some texts of the library, one behind the other. -/
import Derived.Test.YtdoaagphhjggbaaQ5
import Derived.Test.YtdoaagphhjggbaaQ2
import Derived.Test.YtdoaagphhjggbaaProg
import Derived.KernelRfl
section
/- Contracts: which trees are right: a node. -/
namespace Go.Proofs.Ytdoaagphhjggbaa
open Go Go.Sx Go.RowKit Go.St
set_option maxRecDepth 100000
set_option maxHeartbeats 2000000

abbrev bv (n : Int) : AV := .int .u8 n

theorem digit_con (c : Int) : Con Try.prog 68 [bv c] (.bool (decide (48 ≤ c) && decide (c ≤ 57))) := by
  refine con_of_exec (T := tab Try.prog) (C := {}) 300 (fun _ => rfl) Try.func68 rfl (by kernel_rfl) (by kernel_rfl) (fun c0 rdb => ?_)
  (repeat' ((conv => whnf); first | refine zO ?_ | refine Ob.auto ?_ | (refine draw_x (fun _ => rfl) (by kernel_rfl) 300 ?_) | (refine Br.intro (fun hb => ?_) (fun hb => ?_) <;> (try simp [-List.getD_eq_getElem?_getD] at hb) <;> (try (exfalso; omega))) | refine Ob.intro ?_ ?_))
  exact Le.refl _

theorem letter_con (c : Int) : Con Try.prog 66 [bv c] (.bool (letterF c)) := by
  refine con_of_exec (T := tab Try.prog) (C := {}) 300 (fun _ => rfl) Try.func66 rfl (by kernel_rfl) (by kernel_rfl) (fun c0 rdb => ?_)
  (repeat' ((conv => whnf); first | refine zO ?_ | refine Ob.auto ?_ | (refine draw_x (fun _ => rfl) (by kernel_rfl) 300 ?_) | (refine Br.intro (fun hb => ?_) (fun hb => ?_) <;> (try simp [-List.getD_eq_getElem?_getD] at hb) <;> (try (exfalso; omega))) | refine Ob.intro ?_ ?_))
  exact Le.refl _

theorem word_con (c : Int) : Con Try.prog 67 [bv c] (.bool (wordF c)) := by
  refine con_of_exec (T := tab Try.prog) (C := {}) 300 (fun _ => rfl) Try.func67 rfl (by kernel_rfl) (by kernel_rfl) (fun c0 rdb => ?_)
  (repeat' ((conv => whnf); first | refine zO ?_ | refine Ob.auto ?_ | refine zC 300 (letter_con c) ?_ | refine zG 300 (fun hg => letter_con c) ?_ | (refine CallX.intro _ (callOb (letter_con c) (by rfl)) ?_) | (refine CallX.intro _ (callObG (fun hg => letter_con c) rflsA (by rfl)) ?_) | refine zC 300 (digit_con c) ?_ | refine zG 300 (fun hg => digit_con c) ?_ | (refine CallX.intro _ (callOb (digit_con c) (by rfl)) ?_) | (refine CallX.intro _ (callObG (fun hg => digit_con c) rflsA (by rfl)) ?_) | (refine call_lend (fun _ => rfl) 300 (letter_con c) holdA (by repeat' (first | exact trivial | exact Le.refl _ | (refine And.intro ?_ ?_))) (by rfl) (by kernel_rfl) ?_) | (refine gcall_lend (fun _ => rfl) 300 (fun hg => letter_con c) (fun hg => holdA) (fun hg => (by repeat' (first | exact trivial | exact Le.refl _ | exact Le.cnd hg | (refine And.intro ?_ ?_)))) (by rfl) (by kernel_rfl) ?_) | (refine call_lend (fun _ => rfl) 300 (digit_con c) holdA (by repeat' (first | exact trivial | exact Le.refl _ | (refine And.intro ?_ ?_))) (by rfl) (by kernel_rfl) ?_) | (refine gcall_lend (fun _ => rfl) 300 (fun hg => digit_con c) (fun hg => holdA) (fun hg => (by repeat' (first | exact trivial | exact Le.refl _ | exact Le.cnd hg | (refine And.intro ?_ ?_)))) (by rfl) (by kernel_rfl) ?_) | (refine draw_x (fun _ => rfl) (by kernel_rfl) 300 ?_) | (refine Br.intro (fun hb => ?_) (fun hb => ?_) <;> (try simp [-List.getD_eq_getElem?_getD] at hb) <;> (try (exfalso; omega))) | refine Ob.intro ?_ ?_))
  exact Le.refl _

theorem keys_le (f : Nat → List AV) (h : ∀ i, i < 21 → f i = encL (fun s => [.str s]) [] keyL i) : Le (.slc 1 21 f) (strs keyL) := Le.slc rfl h

theorem key_con (s : List UInt8) : Con Try.prog 107 [.str s] (.bool (keyF s)) := by
  refine con_of_exec (T := tab Try.prog) (C := {}) 300 (fun _ => rfl) Try.func107 rfl (by kernel_rfl) (by kernel_rfl) (fun c0 rdb => ?_)
  (repeat' ((conv => whnf); first | refine zO ?_ | refine Ob.auto ?_ | (refine draw_x (fun _ => rfl) (by kernel_rfl) 300 ?_) | (refine Br.intro (fun hb => ?_) (fun hb => ?_) <;> (try simp [-List.getD_eq_getElem?_getD] at hb) <;> (try (exfalso; omega))) | refine Ob.intro ?_ ?_))
  ((conv => whnf); refine loop_auto (fun _ => rfl) 300 1 (fun i : Nat => [(4, iv i), (3, strs keyL)]) (fun _ => []) (fun i => i ≤ keyL.length ∧ ∀ j, j < i → (keyL.getD j [] == s) = false) (fun i => keyL.length - i) (0) (⟨by omega, fun j hj => absurd hj (Nat.not_lt_zero j)⟩) ⟨Le.refl _, keys_le _ (fun i hi => match i, hi with | 0, _ => rfl | 1, _ => rfl | 2, _ => rfl | 3, _ => rfl | 4, _ => rfl | 5, _ => rfl | 6, _ => rfl | 7, _ => rfl | 8, _ => rfl | 9, _ => rfl | 10, _ => rfl | 11, _ => rfl | 12, _ => rfl | 13, _ => rfl | 14, _ => rfl | 15, _ => rfl | 16, _ => rfl | 17, _ => rfl | 18, _ => rfl | 19, _ => rfl | 20, _ => rfl | n + 21, h => absurd h (by omega)), trivial⟩ subtA (fun _ => rfl) (by kernel_rfl) ?_; (conv => whnf))
  intro i hi
  have h21 : keyL.length = 21 := rfl
  (repeat' ((conv => whnf); first | refine zO ?_ | refine Ob.auto ?_ | (refine Ob.intro (by (exact ⟨by omega, by omega⟩)) ?_) | (refine draw_x (fun _ => rfl) (by kernel_rfl) 300 ?_) | (refine Br.intro (fun hb => ?_) (fun hb => ?_) <;> (try simp [-List.getD_eq_getElem?_getD] at hb) <;> (try (exfalso; omega))) | refine Ob.intro ?_ ?_))
  · refine Le.of_eq (congrArg AV.bool ?_)
    unfold keyF
    exact (List.any_eq_true.2 ⟨keyL.getD i [], getD_mem keyL i [] (by omega), by simpa using hb⟩).symm
  · ((conv => whnf); refine ⟨i + 1, ⟨by omega, upto_succ hi.2 (beq_eq_false_iff_ne.2 hb)⟩, ⟨subtA, subtA⟩, ⟨subtA, subtA⟩, ?_⟩; (first | omega | (dsimp only; omega) | skip))
  · refine Le.of_eq (congrArg AV.bool ?_)
    unfold keyF
    rw [eq_comm, Bool.eq_false_iff]
    intro h
    obtain ⟨x, hx, he⟩ := List.any_eq_true.1 h
    obtain ⟨j, hj, rfl⟩ := List.mem_iff_getElem.1 hx
    have := hi.2 j (by omega)
    rw [List.getD_eq_getElem?_getD, List.getElem?_eq_getElem hj] at this
    simp only [Option.getD_some] at this
    rw [this] at he; cases he

theorem name_con (s : List UInt8) : Con Try.prog 106 [.str s] (.bool (nameF s)) := by
  refine con_of_exec (T := tab Try.prog) (C := {}) 300 (fun _ => rfl) Try.func106 rfl (by kernel_rfl) (by kernel_rfl) (fun c0 rdb => ?_)
  (repeat' ((conv => whnf); first | refine zO ?_ | refine Ob.auto ?_ | (refine Ob.intro (by ((intro h; simp at h ⊢; exact ⟨h, by have := List.length_pos_iff.2 h.1; omega⟩))) ?_) | refine zC 300 (letter_con _) ?_ | refine zG 300 (fun hg => letter_con _) ?_ | (refine CallX.intro _ (callOb (letter_con _) (by rfl)) ?_) | (refine CallX.intro _ (callObG (fun hg => letter_con _) rflsA (by rfl)) ?_) | refine zC 300 (key_con s) ?_ | refine zG 300 (fun hg => key_con s) ?_ | (refine CallX.intro _ (callOb (key_con s) (by rfl)) ?_) | (refine CallX.intro _ (callObG (fun hg => key_con s) rflsA (by rfl)) ?_) | (refine call_lend (fun _ => rfl) 300 (letter_con _) holdA (by repeat' (first | exact trivial | exact Le.refl _ | (refine And.intro ?_ ?_))) (by rfl) (by kernel_rfl) ?_) | (refine gcall_lend (fun _ => rfl) 300 (fun hg => letter_con _) (fun hg => holdA) (fun hg => (by repeat' (first | exact trivial | exact Le.refl _ | exact Le.cnd hg | (refine And.intro ?_ ?_)))) (by rfl) (by kernel_rfl) ?_) | (refine call_lend (fun _ => rfl) 300 (key_con s) holdA (by repeat' (first | exact trivial | exact Le.refl _ | (refine And.intro ?_ ?_))) (by rfl) (by kernel_rfl) ?_) | (refine gcall_lend (fun _ => rfl) 300 (fun hg => key_con s) (fun hg => holdA) (fun hg => (by repeat' (first | exact trivial | exact Le.refl _ | exact Le.cnd hg | (refine And.intro ?_ ?_)))) (by rfl) (by kernel_rfl) ?_) | (refine draw_x (fun _ => rfl) (by kernel_rfl) 300 ?_) | (refine Br.intro (fun hb => ?_) (fun hb => ?_) <;> (try simp [-List.getD_eq_getElem?_getD] at hb) <;> (try (exfalso; omega))) | refine Ob.intro ?_ ?_))
  · refine Le.of_eq (congrArg AV.bool ?_)
    unfold nameF
    have : (decide (s.length = 0) || decide (12 < s.length) || !letterF (byteAt s 0) || keyF s) = true := by
      simp only [Bool.or_eq_true, decide_eq_true_eq, List.length_eq_zero_iff, Bool.not_eq_true']
      rcases hb with ((hb | hb) | hb) | hb
      · exact .inl (.inl (.inl hb))
      · exact .inl (.inl (.inr (by omega)))
      · exact .inl (.inr hb)
      · exact .inr hb
    rw [this]; rfl
  · have h0 : (decide (s.length = 0) || decide (12 < s.length) || !letterF (byteAt s 0) || keyF s) = false := by
      simp only [Bool.or_eq_false_iff, decide_eq_false_iff_not, List.length_eq_zero_iff, Bool.not_eq_false']
      exact ⟨⟨⟨hb.1.1.1, by omega⟩, hb.1.2⟩, hb.2⟩
    ((conv => whnf); refine loop_auto (fun _ => rfl) 300 1 (fun i : Nat => [(3, iv i)]) (fun _ => []) (fun i => i ≤ s.length ∧ ∀ j, j < i → wordF (byteAt s j) = true) (fun i => s.length - i) (0) (⟨by omega, fun j hj => absurd hj (Nat.not_lt_zero j)⟩) subtA subtA (fun _ => rfl) (by kernel_rfl) ?_; (conv => whnf))
    intro i hi
    (repeat' ((conv => whnf); first | refine zO ?_ | refine Ob.auto ?_ | (refine Ob.intro (by (exact ⟨by omega, by omega⟩)) ?_) | refine zC 300 (word_con _) ?_ | refine zG 300 (fun hg => word_con _) ?_ | (refine CallX.intro _ (callOb (word_con _) (by rfl)) ?_) | (refine CallX.intro _ (callObG (fun hg => word_con _) rflsA (by rfl)) ?_) | (refine call_lend (fun _ => rfl) 300 (word_con _) holdA (by repeat' (first | exact trivial | exact Le.refl _ | (refine And.intro ?_ ?_))) (by rfl) (by kernel_rfl) ?_) | (refine gcall_lend (fun _ => rfl) 300 (fun hg => word_con _) (fun hg => holdA) (fun hg => (by repeat' (first | exact trivial | exact Le.refl _ | exact Le.cnd hg | (refine And.intro ?_ ?_)))) (by rfl) (by kernel_rfl) ?_) | (refine draw_x (fun _ => rfl) (by kernel_rfl) 300 ?_) | (refine Br.intro (fun hb => ?_) (fun hb => ?_) <;> (try simp [-List.getD_eq_getElem?_getD] at hb) <;> (try (exfalso; omega))) | refine Ob.intro ?_ ?_))
    · refine Le.of_eq (congrArg AV.bool ?_)
      unfold nameF
      rw [h0, range_no (q := fun i => wordF (byteAt s i)) (i := i) (by omega) hb]; rfl
    · ((conv => whnf); refine ⟨i + 1, ⟨by omega, upto_succ hi.2 hb⟩, ⟨subtA, subtA⟩, ⟨subtA, subtA⟩, ?_⟩; (first | omega | (dsimp only; omega) | skip))
    · refine Le.of_eq (congrArg AV.bool ?_)
      unfold nameF
      rw [h0, range_all (q := fun i => wordF (byteAt s i)) (fun j hj => hi.2 j (by omega))]; rfl

end Go.Proofs.Ytdoaagphhjggbaa
end
section
/- Contracts of the reference lexer's small functions, out of those of names. -/
namespace Go.Proofs.Ytdoaagphhjggbaa
open Go.Sx Go.RowKit
set_option maxRecDepth 100000

theorem qdigit_con (c : Int) : Con Try.prog 68 [.int .u8 c] (.bool (decide (48 ≤ c) && decide (c ≤ 57))) := digit_con c

theorem qletter_con (c : Int) : Con Try.prog 66 [.int .u8 c] (.bool (decide (65 ≤ c) && decide (c ≤ 90) || decide (97 ≤ c) && decide (c ≤ 122))) := letter_con c

theorem qhas_con (l : List UInt8) (c : Int) (hl : l.length ≤ 1000) : Con Try.prog 64 [.str l, .int .u8 c] (.bool (Lx.hasB l c)) := by
  refine con_of_exec (T := tab Try.prog) (C := {}) 100 (fun _ => rfl) Try.func64 rfl (by kernel_rfl) (by kernel_rfl) (fun c0 rdb => ?_)
  repeat' ((conv => whnf); first | refine Ob.auto ?_ | (refine Br.intro (fun hb => ?_) (fun hb => ?_) <;> (try simp at hb) <;> (try (exfalso; omega))) | refine Ob.intro ?_ ?_)
  (conv => whnf); refine loop_rule (fun _ => rfl) 100 1 (fun k : Nat => ⟨[(0, .str l), (1, .int .u8 c), (5, .int .i64 k)], [], 0⟩)
    (fun k => k ≤ l.length ∧ Lx.hasB (l.take k) c = false) (fun k => l.length - k) 0 ⟨by omega, by simp [Lx.hasB]⟩ subA (fun _ => rfl) (by kernel_rfl) ?_
  rintro k ⟨hk, hf⟩
  repeat' ((conv => whnf); first | refine Ob.auto ?_ | (refine Br.intro (fun hb => ?_) (fun hb => ?_) <;> (try simp at hb) <;> (try (exfalso; omega))) | refine Ob.intro ?_ ?_)
  · have h1 := Lx.hasB_step (by assumption) c
    refine Le.of_eq (congrArg AV.bool ?_)
    rw [hb, beq_self_eq_true, Bool.or_true] at h1
    exact (Lx.hasB_take h1).symm
  · (conv => whnf); refine Exists.intro (k + 1) ⟨⟨by omega, ?_⟩, subA, by omega⟩
    rw [Lx.hasB_step (by assumption) c, hf]
    simpa using hb
  · rw [List.take_of_length_le (by omega)] at hf
    exact Le.of_eq (by rw [hf])

theorem qword_con (c : Int) : Con Try.prog 67 [.int .u8 c] (.bool (Lx.wordC c)) := word_con c

theorem qtwo_con (s : List UInt8) (i : Nat) (hi : i ≤ s.length) (hs : s.length ≤ 1000000) : Con Try.prog 65 [.str s, .int .i64 i] (.str (Lx.twoL (s.drop i))) := by
  refine con_of_exec (T := tab Try.prog) (C := {}) 100 (fun _ => rfl) Try.func65 rfl (by kernel_rfl) (by kernel_rfl) (fun c0 rdb => ?_)
  repeat' ((conv => whnf); first | refine Ob.auto ?_ | (refine Br.intro (fun hb => ?_) (fun hb => ?_) <;> (try simp at hb) <;> (try (exfalso; omega))) | refine Ob.intro ?_ ?_)
  · refine Le.of_eq (congrArg AV.str ?_)
    rw [Lx.twoL, List.length_drop, if_pos (by omega), show ((i : Int) + 2).toNat = i + 2 by omega, Int.toNat_natCast, List.drop_take, Nat.add_sub_cancel_left]
  · refine Le.of_eq (congrArg AV.str ?_)
    rw [Lx.twoL, List.length_drop, if_neg (by omega)]

end Go.Proofs.Ytdoaagphhjggbaa
end
