/- The text of clauses is read, in plain Lean. -/
import Derived.Test.YtcfllgdfhfcicaaDoorQDgV
import Derived.Test.YtcfllgdfhfcicaaDoorQClQ
import Derived.Test.YtcfllgdfhfcicaaDoorQCnP
set_option linter.unusedSimpArgs false
set_option linter.unusedVariables false
namespace Go.Proofs.YtcfllgdfhfcicaaDoor
open Go Go.Sp Go.Cl
set_option maxRecDepth 100000

/-- A word of 1 to 6 digits. -/
def numP (w : List UInt8) : Int × Bool := if 0 < w.length ∧ w.length ≤ 6 ∧ w.all digB = true then (valD w, true) else (0, false)
/-- A number, perhaps with a sign; no sign ahead of 0. -/
def numR (w : List UInt8) : Int × Bool :=
  if w.head? = some 45 then (if (numP (w.drop 1)).2 = true ∧ (numP (w.drop 1)).1 ≠ 0 then (-(numP (w.drop 1)).1, true) else (0, false)) else numP w
/-- A literal's word, or the 0 behind a clause. -/
def litF (v : Int) (w : List UInt8) : Option Int := if (numR w).2 = true ∧ ((numR w).1 = 0 ∨ (litB (numR w).1 = true ∧ absI (numR w).1 ≤ v)) then some (numR w).1 else none
def goP (v : Int) : List (List UInt8) → List (List Int) → List Int → Option (List (List Int) × List Int)
  | [], out, now => some (out, now)
  | w :: ws, out, now => match litF v w with | none => none | some l => if l = 0 then goP v ws (out ++ [now]) [] else goP v ws out (now ++ [l])
/-- What begins a text of clauses. -/
def HeadOk (W : List (List UInt8)) : Prop := 4 ≤ W.length ∧ W.getD 0 [] = [112] ∧ W.getD 1 [] = [99, 110, 102] ∧ (numP (W.getD 2 [])).2 = true ∧ (numP (W.getD 3 [])).2 = true
instance (W : List (List UInt8)) : Decidable (HeadOk W) := by unfold HeadOk; infer_instance
def endP (n : Int) : Option (List (List Int) × List Int) → List (List Int) × Int
  | some x => if x.2 = [] ∧ (x.1.length : Int) = n then (x.1, 0) else ([], 11)
  | none => ([], 11)
def parseW (W : List (List UInt8)) : List (List Int) × Int := if HeadOk W then endP (numP (W.getD 3 [])).1 (goP (numP (W.getD 2 [])).1 (W.drop 4) [] []) else ([], 11)
def parseC (s : List UInt8) : List (List Int) × Int := if 100000 < s.length then ([], 12) else parseW (wordsF s)

theorem numP_le (w : List UInt8) : 0 ≤ (numP w).1 ∧ (numP w).1 ≤ 999999 := by
  unfold numP
  split
  · rename_i h
    have h1 := valD_le w h.2.2
    have h2 : (10 : Int) ^ w.length ≤ 1000000 := pow_six _ (by omega)
    exact ⟨h1.1, by show valD w ≤ _; omega⟩
  · exact ⟨by decide, by decide⟩

theorem numP_false {w : List UInt8} (h : (numP w).2 = false) : (numP w).1 = 0 := by
  unfold numP at h ⊢
  split at h
  · cases h
  · rename_i h'; rw [if_neg h']

theorem numP_minus {w : List UInt8} (h : w.head? = some 45) : numP w = (0, false) := by
  cases w with
  | nil => cases h
  | cons b w =>
    obtain rfl : b = 45 := by simpa using h
    exact if_neg fun h => by
      have := h.2.2
      rw [List.all_cons] at this
      rw [show digB 45 = false by decide] at this
      cases this

theorem numR_false {w : List UInt8} (h : (numR w).2 = false) : (numR w).1 = 0 := by
  unfold numR at h ⊢
  split
  · rename_i h1
    rw [if_pos h1] at h
    split at h
    · cases h
    · rename_i h2; rw [if_neg h2]
  · rename_i h1
    rw [if_neg h1] at h
    exact numP_false h

theorem numR_le (w : List UInt8) : -999999 ≤ (numR w).1 ∧ (numR w).1 ≤ 999999 := by
  have h1 := numP_le w
  have h2 := numP_le (w.drop 1)
  unfold numR
  split
  · split
    · exact ⟨by show -999999 ≤ -(numP (w.drop 1)).1; omega, by show -(numP (w.drop 1)).1 ≤ _; omega⟩
    · exact ⟨by decide, by decide⟩
  · omega

/-- Without a sign the two agree. -/
theorem num_both (w : List UInt8) : (numP w).2 = (((numR w).2 && decide (0 ≤ (numR w).1))) := by
  have hl := numP_le w
  have h2 := numP_le (w.drop 1)
  unfold numR
  split
  · rename_i h
    rw [numP_minus h]
    split
    · rename_i h1
      symm
      show (true && decide (0 ≤ -(numP (w.drop 1)).1)) = false
      rw [Bool.true_and, decide_eq_false_iff_not]
      omega
    · rfl
  · rw [decide_eq_true hl.1, Bool.and_true]

theorem num_same {w : List UInt8} (h : (numP w).2 = true) : numR w = numP w := by
  unfold numR
  split
  · rename_i h1
    rw [numP_minus h1] at h; cases h
  · rfl

theorem lit_minus {v : Int} {w : List UInt8} (h : w.head? = some 45) : litF v w =
    if (numP (w.drop 1)).2 = true ∧ (numP (w.drop 1)).1 ≠ 0 ∧ (numP (w.drop 1)).1 ≤ v ∧ (numP (w.drop 1)).1 ≤ 100000 then some (-(numP (w.drop 1)).1) else none := by
  have h2 := numP_le (w.drop 1)
  unfold litF numR
  rw [if_pos h]
  by_cases hc : (numP (w.drop 1)).2 = true ∧ (numP (w.drop 1)).1 ≠ 0
  · rw [if_pos hc]
    have e1 : (litB (-(numP (w.drop 1)).1) = true ∧ absI (-(numP (w.drop 1)).1) ≤ v) ↔ ((numP (w.drop 1)).1 ≤ v ∧ (numP (w.drop 1)).1 ≤ 100000) := by
      rw [lit_iff]; unfold absI
      have := hc.2
      constructor
      · rintro ⟨h3, h4⟩; split at h4 <;> omega
      · intro h3; refine ⟨by omega, ?_⟩; split <;> omega
    by_cases hd : (numP (w.drop 1)).1 ≤ v ∧ (numP (w.drop 1)).1 ≤ 100000
    · rw [if_pos ⟨rfl, .inr (e1.2 hd)⟩, if_pos ⟨hc.1, hc.2, hd.1, hd.2⟩]
    · rw [if_neg (fun h => h.2.elim (fun h => hc.2 (by simpa using h)) (fun h => hd (e1.1 h))), if_neg (fun h => hd ⟨h.2.2.1, h.2.2.2⟩)]
  · rw [if_neg hc, if_neg (fun h => by cases h.1), if_neg (fun h => hc ⟨h.1, h.2.1⟩)]

theorem lit_plain {v : Int} (hv : 0 ≤ v) {w : List UInt8} (h : ¬ w.head? = some 45) : litF v w =
    if (numP w).2 = true ∧ (numP w).1 ≤ v ∧ (numP w).1 ≤ 100000 then some (numP w).1 else none := by
  have h2 := numP_le w
  unfold litF numR
  rw [if_neg h]
  have e1 : ((numP w).1 = 0 ∨ (litB (numP w).1 = true ∧ absI (numP w).1 ≤ v)) ↔ ((numP w).1 ≤ v ∧ (numP w).1 ≤ 100000) := by
    rw [lit_iff]; unfold absI
    constructor
    · rintro (h3 | ⟨h3, h4⟩)
      · omega
      · split at h4 <;> omega
    · intro h3
      by_cases h0 : (numP w).1 = 0
      · exact .inl h0
      · refine .inr ⟨by omega, ?_⟩; split <;> omega
  by_cases hd : (numP w).2 = true ∧ (numP w).1 ≤ v ∧ (numP w).1 ≤ 100000
  · rw [if_pos ⟨hd.1, e1.2 hd.2⟩, if_pos hd]
  · rw [if_neg (fun h => hd ⟨h.1, e1.1 h.2⟩), if_neg hd]

theorem lit_le {v : Int} {w : List UInt8} {l : Int} (h : litF v w = some l) : -100000 ≤ l ∧ l ≤ 100000 := by
  unfold litF at h
  split at h
  · rename_i hc
    cases h
    rcases hc.2 with h | ⟨h, _⟩
    · omega
    · have := (lit_iff _).1 h; omega
  · cases h

theorem goP_step (v : Int) (W : List (List UInt8)) (i : Nat) (hi : i < W.length) (out : List (List Int)) (now : List Int) :
    goP v (W.drop i) out now = match litF v (W.getD i []) with | none => none | some l => if l = 0 then goP v (W.drop (i + 1)) (out ++ [now]) [] else goP v (W.drop (i + 1)) out (now ++ [l]) := by
  rw [List.drop_eq_getElem_cons hi, List.getD_eq_getElem?_getD, List.getElem?_eq_getElem hi]
  rfl

end Go.Proofs.YtcfllgdfhfcicaaDoor
