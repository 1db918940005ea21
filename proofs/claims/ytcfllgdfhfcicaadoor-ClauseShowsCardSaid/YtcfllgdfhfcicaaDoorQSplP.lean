/- Splitting by a byte, in plain Lean. -/
import Derived.Lib.SplitLaws
import Derived.Lib.IndexMore
import Derived.Lib.IndexBytes
set_option linter.unusedSimpArgs false
set_option linter.unusedVariables false
namespace Go.Sp
open Go Go.Lib

/-- The pieces between the bytes c. -/
def spL (c : UInt8) : List UInt8 → List (List UInt8)
  | [] => [[]]
  | b :: r => if b = c then [] :: spL c r else match spL c r with | [] => [[b]] | w :: ws => (b :: w) :: ws

theorem spL_ne (c : UInt8) (l : List UInt8) : spL c l ≠ [] := by
  cases l with
  | nil => simp [spL]
  | cons b r =>
    unfold spL
    split
    · simp
    · split <;> simp

theorem spL_none {c : UInt8} : ∀ {l : List UInt8}, (∀ b ∈ l, b ≠ c) → spL c l = [l]
  | [], _ => rfl
  | b :: r, h => by
    unfold spL
    rw [if_neg (h b (List.mem_cons_self ..)), spL_none (fun x hx => h x (List.mem_cons_of_mem _ hx))]

theorem spL_app {c : UInt8} : ∀ {a : List UInt8} (r : List UInt8), (∀ b ∈ a, b ≠ c) → spL c (a ++ c :: r) = a :: spL c r
  | [], r, _ => by simp [spL]
  | b :: a, r, h => by
    rw [List.cons_append, spL, if_neg (h b (List.mem_cons_self ..)), spL_app r (fun x hx => h x (List.mem_cons_of_mem _ hx))]

theorem index_one_cases (c : UInt8) : ∀ (s : List UInt8), (index s [c] = -1 ∧ ∀ b ∈ s, b ≠ c) ∨ ∃ a r, s = a ++ c :: r ∧ (∀ b ∈ a, b ≠ c) ∧ index s [c] = a.length
  | [] => .inl ⟨rfl, fun _ h => absurd h (List.not_mem_nil)⟩
  | b :: s => by
    unfold index
    by_cases h : b = c
    · subst h
      exact .inr ⟨[], s, rfl, fun _ h => absurd h (List.not_mem_nil), by simp [List.isPrefixOf]⟩
    · have hp : List.isPrefixOf [c] (b :: s) = false := by simp [List.isPrefixOf, Ne.symm h]
      rw [hp]
      simp only [Bool.false_eq_true, if_false]
      rcases index_one_cases c s with ⟨h1, h2⟩ | ⟨a, r, h1, h2, h3⟩
      · refine .inl ⟨by rw [h1]; rfl, fun x hx => ?_⟩
        rcases List.mem_cons.1 hx with rfl | hx
        · exact h
        · exact h2 x hx
      · refine .inr ⟨b :: a, r, by rw [h1]; rfl, fun x hx => ?_, ?_⟩
        · rcases List.mem_cons.1 hx with rfl | hx
          · exact h
          · exact h2 x hx
        · rw [h3, if_neg (by simp)]; simp

theorem splitK_one (c : UInt8) : ∀ (n : Nat) (s : List UInt8), s.count c = n → splitK [c] 0 n s = spL c s
  | 0, s, h => by
    rw [splitK, spL_none fun b hb e => ?_]
    subst e
    exact absurd (List.count_pos_iff.2 hb) (by omega)
  | n + 1, s, h => by
    rcases index_one_cases c s with ⟨h1, h2⟩ | ⟨a, r, h1, h2, h3⟩
    · have := List.count_eq_zero.2 (fun hm => h2 c hm rfl)
      omega
    · have ha : a.count c = 0 := List.count_eq_zero.2 (fun hm => h2 c hm rfl)
      rw [splitK, h3, if_neg (by simp), h1, spL_app r h2, ← splitK_one c n r (by rw [h1] at h; simp [ha] at h; omega)]
      simp [← List.drop_drop]

theorem split_one (c : UInt8) (s : List UInt8) : splitK [c] 0 (count s [c]) s = spL c s := splitK_one c _ s (count_one c s).symm

theorem cut_no {c : UInt8} {s : List UInt8} (h : ∀ b ∈ s, b ≠ c) : cut s [c] = (s, [], false) := by
  rcases index_one_cases c s with ⟨h1, _⟩ | ⟨a, r, h1, _, _⟩
  · unfold cut; rw [h1]; rfl
  · exact absurd rfl (h c (by rw [h1]; simp))

theorem cut_at {c : UInt8} {a : List UInt8} (r : List UInt8) (h : ∀ b ∈ a, b ≠ c) : cut (a ++ c :: r) [c] = (a, r, true) := by
  rcases index_one_cases c (a ++ c :: r) with ⟨_, h2⟩ | ⟨a', r', h1, h2, h3⟩
  · exact absurd rfl (h2 c (by simp))
  · have hl : a'.length = a.length := by
      rcases Nat.lt_trichotomy a.length a'.length with hl | hl | hl
      · have e := congrArg (fun l => l[a.length]?) h1
        simp only [List.getElem?_append_right (Nat.le_refl _), Nat.sub_self, List.getElem?_cons_zero, List.getElem?_append_left hl] at e
        exact absurd rfl (h2 c (List.mem_of_getElem? e.symm))
      · exact hl.symm
      · have e := congrArg (fun l => l[a'.length]?) h1
        simp only [List.getElem?_append_right (Nat.le_refl _), Nat.sub_self, List.getElem?_cons_zero, List.getElem?_append_left hl] at e
        exact absurd rfl (h c (List.mem_of_getElem? e))
    unfold cut
    rw [h3, hl, if_pos (by omega)]
    simp [← List.drop_drop]

end Go.Sp
