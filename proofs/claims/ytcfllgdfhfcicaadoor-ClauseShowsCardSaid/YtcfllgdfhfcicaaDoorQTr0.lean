/- Trees that are right, in plain Lean. -/
import Derived.Test.YtcfllgdfhfcicaaDoorQStP
set_option linter.unusedSimpArgs false
set_option linter.unusedVariables false
namespace Go.St
open Go Go.Sx

def letterF (c : Int) : Bool := (decide (65 ≤ c) && decide (c ≤ 90)) || (decide (97 ≤ c) && decide (c ≤ 122))
def wordF (c : Int) : Bool := letterF c || (decide (48 ≤ c) && decide (c ≤ 57)) || c == 95
def keyL : List (List UInt8) := [[99, 104, 97, 110], [111, 102], [108, 111, 115, 115, 121], [99, 111, 112, 121, 105, 110, 103], [118, 97, 114], [112, 114, 111, 99], [115, 97, 102, 101], [100, 101, 97, 100, 108, 111, 99, 107], [115, 101, 110, 100], [114, 101, 99, 118], [105, 100, 108, 101], [119, 104, 101, 110], [99, 104, 111, 111, 115, 101], [111, 114], [105, 102], [101, 108, 115, 101], [119, 104, 105, 108, 101], [97, 116, 111, 109, 105, 99], [115, 107, 105, 112], [115, 116, 111, 112], [108, 101, 110]]
def keyF (s : List UInt8) : Bool := keyL.any (· == s)
def nameF (s : List UInt8) : Bool := !(decide (s.length = 0) || decide (12 < s.length) || !letterF (byteAt s 0) || keyF s) && (List.range s.length).all fun i => wordF (byteAt s i)

def inK (k a b : Int) : Bool := decide (a ≤ k) && decide (k ≤ b)
def kidK (l : List Nd) (n : Nd) (i : Nat) : Int := (l.getD (n.kids.getD i 0).toNat Nd.none).kind
def wordsB (n : Nd) (c : Int) : Bool := n.words.all nameF && ((n.words.length : Int) == c)
def numsB (n : Nd) (c most : Int) : Bool := n.nums.all (fun x => decide (0 ≤ x) && decide (x ≤ most)) && ((n.nums.length : Int) == c)
def allB (l : List Nd) (n : Nd) (frm : Nat) (a b : Int) : Bool := (List.range n.kids.length).all fun i => decide (i < frm) || inK (kidK l n i) a b
def exprsB (l : List Nd) (n : Nd) (first least most : Int) : Bool :=
  ((List.range n.kids.length).all fun i => !(decide ((i : Int) < first) && !inK (kidK l n i) 17 22 || decide (first ≤ (i : Int)) && kidK l n i != 16)) && (decide (first + least ≤ (n.kids.length : Int)) && decide ((n.kids.length : Int) ≤ first + most))
/-- How many of the first kids are variables. -/
def varsN (l : List Nd) (n : Nd) : Nat := if idx (fun i => kidK l n i != 2) (List.range n.kids.length) < 0 then n.kids.length else (idx (fun i => kidK l n i != 2) (List.range n.kids.length)).toNat

def nodeB (l : List Nd) (n : Nd) : Bool :=
  if n.kind = 0 then wordsB n 0 && numsB n 0 0 && allB l n 0 1 5
  else if n.kind = 1 then wordsB n 1 && numsB n 4 999999 && decide (n.nums.getD 2 0 ≤ 1) && decide (n.nums.getD 3 0 ≤ 1) && (n.kids.length : Int) == 0
  else if n.kind = 2 then wordsB n 1 && (n.nums.length : Int) == 2 && inK (n.nums.getD 0 0) 0 999999 && inK (n.nums.getD 1 0) (-999999) 999999 && (n.kids.length : Int) == 0
  else if n.kind = 3 then wordsB n 1 && numsB n 1 999999 && allB l n (varsN l n) 6 15
  else if n.kind = 4 ∨ n.kind = 20 ∨ n.kind = 21 then wordsB n 0 && numsB n 0 0 && exprsB l n 1 0 0
  else if n.kind = 5 ∨ n.kind = 14 ∨ n.kind = 15 then wordsB n 0 && numsB n 0 0 && (n.kids.length : Int) == 0
  else if n.kind = 6 ∨ n.kind = 7 then wordsB n 1 && numsB n 0 0 && exprsB l n 1 0 0
  else if n.kind = 8 then wordsB n 2 && numsB n 1 1 && (n.kids.length : Int) == 0
  else if n.kind = 9 then wordsB n 0 && numsB n 1 1 && exprsB l n 1 0 0
  else if n.kind = 10 then wordsB n 0 && numsB n 1 1 && exprsB l n 0 1 800
  else if n.kind = 11 then wordsB n 0 && numsB n 0 0 && exprsB l n 1 1 2
  else if n.kind = 12 then wordsB n 0 && numsB n 0 0 && exprsB l n 1 1 1
  else if n.kind = 13 then wordsB n 0 && numsB n 0 0 && exprsB l n 0 1 1
  else if n.kind = 16 then wordsB n 0 && numsB n 0 0 && allB l n 0 6 15
  else if n.kind = 17 then wordsB n 0 && numsB n 1 999999 && (n.kids.length : Int) == 0
  else if n.kind = 18 ∨ n.kind = 19 then wordsB n 1 && numsB n 0 0 && (n.kids.length : Int) == 0
  else if n.kind = 22 then wordsB n 0 && numsB n 1 8 && exprsB l n 2 0 0
  else false

theorem getD_range' (n i d : Nat) (h : i < n) : (List.range n).getD i d = i := by
  rw [List.getD_eq_getElem?_getD, List.getElem?_range h]; rfl

theorem varsN_eq (l : List Nd) (n : Nd) (v : Nat) (hv : v ≤ n.kids.length) (h : ∀ j, j < v → kidK l n j = 2) (he : v = n.kids.length ∨ kidK l n v ≠ 2) : varsN l n = v := by
  unfold varsN
  by_cases hl : v < n.kids.length
  · have h2 : kidK l n v ≠ 2 := by omega
    have := idx_at (fun i => kidK l n i != 2) (List.range n.kids.length) 0 v (by simpa using hl) (by rw [getD_range' _ _ _ hl]; simpa using h2) (fun j hj => by rw [getD_range' _ _ _ (by omega)]; simpa using h j hj)
    rw [this, if_neg (by omega)]; omega
  · have hz : ∀ j, j < (List.range n.kids.length).length → (kidK l n ((List.range n.kids.length).getD j 0) != 2) = false := by
      intro j hj
      have hj' : j < n.kids.length := by simpa using hj
      rw [getD_range' _ _ _ hj']; simpa using h j (by omega)
    have := idx_none (fun i => kidK l n i != 2) (List.range n.kids.length) 0 hz
    rw [this, if_pos (by omega)]; omega

theorem numsB_len {n : Nd} {c m : Int} (h : numsB n c m = true) : (n.nums.length : Int) = c := by
  unfold numsB at h
  rw [Bool.and_eq_true, beq_iff_eq] at h
  exact h.2

/-- The lists of a node have lengths that a machine has. -/
structure NdSz (n : Nd) : Prop where
  lw : n.words.length ≤ 9223372036854775807
  ln : n.nums.length ≤ 9223372036854775807
  lk : n.kids.length ≤ 9223372036854775807
  ls : ∀ s ∈ n.words, s.length ≤ 9223372036854775807

end Go.St
