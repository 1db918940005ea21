/- Digits and what they say, in plain Lean. -/
import Derived.Test.YtcfllgdfhfcicaaDoorQSplP
import Derived.Lib.ItoaNum
set_option linter.unusedSimpArgs false
set_option linter.unusedVariables false
namespace Go.Proofs.YtcfllgdfhfcicaaDoor
open Go
set_option maxRecDepth 100000

def digB (b : UInt8) : Bool := decide (48 ≤ b.toNat ∧ b.toNat ≤ 57)
def valD (d : List UInt8) : Int := d.foldl (fun n b => 10 * n + ((b.toNat : Int) - 48)) 0

theorem valD_next (d : List UInt8) (k : Nat) (hk : k < d.length) : valD (d.take (k + 1)) = 10 * valD (d.take k) + (((d.getD k 0).toNat : Int) - 48) := by
  have h : d.take (k + 1) = d.take k ++ [d.getD k 0] := by
    rw [List.take_add_one, List.getD_eq_getElem?_getD, List.getElem?_eq_getElem hk]; rfl
  unfold valD
  rw [h, List.foldl_append]
  rfl

theorem valD_le (d : List UInt8) (h : d.all digB = true) : 0 ≤ valD d ∧ valD d < 10 ^ d.length := by
  have key : ∀ (l : List UInt8) (n : Int) (k : Nat), l.all digB = true → 0 ≤ n → n < 10 ^ k → 0 ≤ l.foldl (fun n b => 10 * n + ((b.toNat : Int) - 48)) n ∧ l.foldl (fun n b => 10 * n + ((b.toNat : Int) - 48)) n < 10 ^ (k + l.length) := by
    intro l
    induction l with
    | nil => intro n k _ h0 h1; exact ⟨h0, h1⟩
    | cons b l ih =>
      intro n k hl h0 h1
      rw [List.all_cons, Bool.and_eq_true] at hl
      have hb := of_decide_eq_true hl.1
      have h2 := ih (10 * n + ((b.toNat : Int) - 48)) (k + 1) hl.2 (by omega) (by rw [Int.pow_succ]; omega)
      rw [show k + 1 + l.length = k + (b :: l).length by simp; omega] at h2
      exact h2
  have := key d 0 0 h (Int.le_refl _) (by decide)
  rw [Nat.zero_add] at this
  exact this

theorem pow_six : ∀ k, k < 7 → (10 : Int) ^ k ≤ 1000000 := by decide

theorem decDigits_props (u : Nat) : (Lib.decDigits u).all digB = true ∧ valD (Lib.decDigits u) = u ∧ 0 < (Lib.decDigits u).length := by
    rw [Lib.decDigits]
    by_cases h : u < 10
    · rw [dif_pos h]
      have hb : (UInt8.ofNat (48 + u)).toNat = 48 + u := by simp; omega
      refine ⟨?_, ?_, by simp⟩
      · simp only [List.all_cons, List.all_nil, Bool.and_true, digB, hb]
        exact decide_eq_true ⟨by omega, by omega⟩
      · simp only [valD, List.foldl_cons, List.foldl_nil, hb]
        omega
    · rw [dif_neg h]
      obtain ⟨h1, h2, h3⟩ := decDigits_props (u / 10)
      have hb : (UInt8.ofNat (48 + u % 10)).toNat = 48 + u % 10 := by simp; omega
      refine ⟨?_, ?_, by simp⟩
      · rw [List.all_append, h1]
        simp only [List.all_cons, List.all_nil, Bool.and_true, digB, hb, Bool.true_and]
        exact decide_eq_true ⟨by omega, by omega⟩
      · unfold valD at h2 ⊢
        rw [List.foldl_append, h2]
        simp only [List.foldl_cons, List.foldl_nil, hb]
        omega
termination_by u

theorem decDigits_six : ∀ (k u : Nat), u < 10 ^ (k + 1) → (Lib.decDigits u).length ≤ k + 1
  | 0, u, h => by rw [Lib.decDigits, dif_pos (by simpa using h)]; simp
  | k + 1, u, h => by
    rw [Lib.decDigits]
    by_cases hu : u < 10
    · rw [dif_pos hu]; simp
    · rw [dif_neg hu, List.length_append]
      have := decDigits_six k (u / 10) (by rw [Nat.pow_succ] at h; omega)
      simp; omega

end Go.Proofs.YtcfllgdfhfcicaaDoor
