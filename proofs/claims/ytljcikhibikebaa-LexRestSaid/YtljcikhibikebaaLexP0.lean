/- Lines and columns of a text, plainly. Nothing of the program. -/
import Derived.Test.YtljcikhibikebaaLexPlain
namespace Go.Proofs.Ytljcikhibikebaa
namespace Lx
open Go.Sx

/-- the column behind a text -/
def colN (l : List UInt8) : Nat := l.foldl (fun c b => if b = 10 then 1 else c + 1) 1
def cntN (l : List UInt8) : Nat := l.count 10

theorem colN_step {l : List UInt8} {k : Nat} (h : k < l.length) : colN (l.take (k + 1)) = if l[k] = 10 then 1 else colN (l.take k) + 1 := by
  rw [List.take_succ_eq_append_getElem h, colN, List.foldl_append]; rfl
theorem cntN_step {l : List UInt8} {k : Nat} (h : k < l.length) : cntN (l.take (k + 1)) = cntN (l.take k) + if l[k] = 10 then 1 else 0 := by
  rw [List.take_succ_eq_append_getElem h, cntN, List.count_append]
  by_cases hb : l[k] = 10
  · rw [hb]; simp [cntN]
  · rw [if_neg hb, List.count_eq_zero_of_not_mem (l := [l[k]]) (by simpa using Ne.symm hb)]; rfl
theorem colN_le (l : List UInt8) : 1 ≤ colN l ∧ colN l ≤ l.length + 1 := by
  have : ∀ k, k ≤ l.length → 1 ≤ colN (l.take k) ∧ colN (l.take k) ≤ k + 1 := by
    intro k
    induction k with
    | zero => intro _; simp [colN]
    | succ k ih =>
      intro hk
      have := ih (by omega)
      rw [colN_step (by omega)]
      split <;> omega
  have := this l.length (Nat.le_refl _)
  rwa [List.take_length] at this
theorem cntN_le (l : List UInt8) : cntN l ≤ l.length := List.count_le_length
theorem cntN_mono (l : List UInt8) {i j : Nat} (h : i ≤ j) : cntN (l.take i) ≤ cntN (l.take j) := by
  have hp : l.take i <+: l.take j := by
    rw [show l.take i = (l.take j).take i by rw [List.take_take, Nat.min_eq_left h]]
    exact List.take_prefix _ _
  exact hp.sublist.count_le 10

/-- the bytes ahead of a place -/
def ahead (s : List UInt8) (p : Int) : List UInt8 := s.take (max p 0).toNat
theorem ahead_len (s : List UInt8) (p : Int) : (ahead s p).length ≤ s.length := by simp [ahead]; omega

theorem isTen (b : UInt8) : ((b.toNat : Int) == 10) = decide (b = 10) := by
  by_cases h : b = 10
  · subst h; rfl
  · have : b.toNat ≠ 10 := fun e => h (UInt8.toNat_inj.1 e)
    simp [h]; omega

theorem ten_iff {s : List UInt8} {k : Nat} (h : k < s.length) : byteAt s (k : Int) = 10 ↔ s[k] = 10 := by
  have := isTen s[k]
  rw [byteAt_get h]
  constructor
  · intro e; rw [e] at this; simpa using this.symm
  · intro e; rw [e]; rfl

/-- no line's end in between -/
theorem colN_flat (s : List UInt8) {i j : Nat} (hij : i ≤ j) (hj : j ≤ s.length) (h : cntN (s.take i) = cntN (s.take j)) : colN (s.take j) = colN (s.take i) + (j - i) := by
  induction j with
  | zero => obtain rfl : i = 0 := by omega
            simp
  | succ j ih =>
    by_cases he : i = j + 1
    · subst he; simp
    · have hm := cntN_mono s (show i ≤ j by omega)
      have hs := cntN_step (show j < s.length by omega)
      have : s[j] ≠ 10 := by intro e; rw [if_pos e] at hs; omega
      rw [if_neg this] at hs
      rw [colN_step (show j < s.length by omega), if_neg this, ih (by omega) (by omega) (by omega)]
      omega

def keysAV : AV := slcL (fun s => [.str s]) [] 1 keys

theorem spanN_all (p : UInt8 → Bool) (l : List UInt8) : spanN p l = l.length ↔ ∀ b ∈ l, p b = true := by
  induction l with
  | nil => simp [spanN]
  | cons b r ih =>
    have := spanN_le p r
    simp only [spanN]
    by_cases hb : p b = true
    · simp [hb, ← ih]; omega
    · simp [hb]

end Lx
end Go.Proofs.Ytljcikhibikebaa
