/- Trees that are right, in plain Lean: their order. -/
import Derived.Test.YtdoaagphhjggbaaQTr0
namespace Go.St
open Go Go.Sx

def walkL (w : Int → Int × Bool) (len : Int) : List Int → Int → Int × Bool
  | [], next => (next, true)
  | k :: ks, next => if k ≠ next ∨ len ≤ next then (next, false) else if (w next).2 = false then ((w next).1, false) else walkL w len ks (w next).1

/-- From a node on, as long as the order is right: the next number, and whether it is. -/
def walkF (l : List Nd) : Nat → Int → Int × Bool
  | 0, at_ => (at_, false)
  | f + 1, at_ => walkL (walkF l f) l.length (l.getD at_.toNat Nd.none).kids (at_ + 1)

theorem walkL_good (l : List Nd) (w : Int → Int × Bool)
    (hw : ∀ a n, 0 ≤ a → w a = (n, true) → (a < n ∧ (a < l.length → n ≤ l.length)) ∧ ∀ j : Nat, a ≤ j → (j : Int) < n → ∀ k ∈ (l.getD j Nd.none).kids, (j : Int) < k ∧ k < n) :
    ∀ (ks : List Int) (next n : Int), 0 ≤ next → walkL w l.length ks next = (n, true) →
      (next ≤ n ∧ (next ≤ l.length → n ≤ l.length)) ∧ (∀ k ∈ ks, next ≤ k ∧ k < n) ∧ ∀ j : Nat, next ≤ j → (j : Int) < n → ∀ k ∈ (l.getD j Nd.none).kids, (j : Int) < k ∧ k < n
  | [], next, n, _, h => by
    simp only [walkL, Prod.mk.injEq, and_true] at h
    subst h
    exact ⟨⟨Int.le_refl _, id⟩, (fun k hk => by cases hk), fun j h1 h2 => by omega⟩
  | k :: ks, next, n, h0, h => by
    rw [walkL] at h
    split at h
    · simp at h
    · rename_i hk
      split at h
      · simp at h
      · rename_i hb
        have hwn : w next = ((w next).1, true) := by
          cases hx : w next with
          | mk a b => rw [hx] at hb; cases b <;> simp_all
        obtain ⟨h1, h2⟩ := hw next _ h0 hwn
        have hk1 : k = next ∧ next < l.length := by omega
        obtain ⟨h3, h4, h5⟩ := walkL_good l w hw ks (w next).1 n (by omega) h
        refine ⟨⟨by omega, fun _ => h3.2 (h1.2 hk1.2)⟩, fun q hq => ?_, fun j hj1 hj2 q hq => ?_⟩
        · rcases List.mem_cons.1 hq with rfl | hq
          · omega
          · have := h4 q hq; omega
        · by_cases hj : (j : Int) < (w next).1
          · have := h2 j hj1 hj q hq; omega
          · exact h5 j (by omega) hj2 q hq

theorem walkF_good (l : List Nd) : ∀ (f : Nat) (a n : Int), 0 ≤ a → walkF l f a = (n, true) → (a < n ∧ (a < l.length → n ≤ l.length)) ∧ ∀ j : Nat, a ≤ j → (j : Int) < n → ∀ k ∈ (l.getD j Nd.none).kids, (j : Int) < k ∧ k < n
  | 0, a, n, _, h => by simp [walkF] at h
  | f + 1, a, n, h0, h => by
    rw [walkF] at h
    obtain ⟨h1, h2, h3⟩ := walkL_good l (walkF l f) (walkF_good l f) _ _ n (by omega) h
    refine ⟨⟨by omega, fun ha => h1.2 (by omega)⟩, fun j hj1 hj2 k hk => ?_⟩
    by_cases hj : (j : Int) = a
    · have : a.toNat = j := by omega
      rw [this] at h2
      have := h2 k hk
      omega
    · exact h3 j (by omega) hj2 k hk

theorem walkL_ge (w : Int → Int × Bool) (len : Int) (hw : ∀ a, 0 ≤ a → a ≤ (w a).1) : ∀ (ks : List Int) (next : Int), 0 ≤ next → next ≤ (walkL w len ks next).1
  | [], next, _ => Int.le_refl _
  | k :: ks, next, h => by
    rw [walkL]
    have := hw next h
    split
    · exact Int.le_refl _
    split
    · exact this
    · have := walkL_ge w len hw ks (w next).1 (by omega); omega

theorem walkF_ge (l : List Nd) : ∀ (f : Nat) (a : Int), 0 ≤ a → a ≤ (walkF l f a).1
  | 0, a, _ => Int.le_refl _
  | f + 1, a, h => by
    rw [walkF]
    have := walkL_ge (walkF l f) l.length (walkF_ge l f) (l.getD a.toNat Nd.none).kids (a + 1) (by omega)
    omega

theorem drop_getD {α : Type} (l : List α) (i : Nat) (d : α) (h : i < l.length) : l.drop i = l.getD i d :: l.drop (i + 1) := by
  rw [List.drop_eq_getElem_cons h, List.getD_eq_getElem?_getD, List.getElem?_eq_getElem h]; rfl

/-- Is a tree right? -/
def rightB (l : List Nd) : Bool :=
  !(decide (l.length = 0) || decide (800 < l.length) || (l.getD 0 Nd.none).kind != 0) && ((walkF l 20 0).2 && (walkF l 20 0).1 == l.length) && l.all (nodeB l)

structure TreeOk (l : List Nd) : Prop where
  len : 1 ≤ l.length ∧ l.length ≤ 800
  root : (l.getD 0 Nd.none).kind = 0
  kids : ∀ j : Nat, j < l.length → ∀ k ∈ (l.getD j Nd.none).kids, (j : Int) < k ∧ k < l.length
  node : ∀ j : Nat, j < l.length → nodeB l (l.getD j Nd.none) = true

theorem treeOk_of_right {l : List Nd} (h : rightB l = true) : TreeOk l := by
  unfold rightB at h
  simp only [Bool.and_eq_true, Bool.not_eq_true', Bool.or_eq_false_iff, decide_eq_false_iff_not, bne_eq_false_iff_eq, beq_iff_eq] at h
  obtain ⟨⟨⟨⟨h1, h2⟩, h3⟩, h4, h5⟩, h6⟩ := h
  have hw : walkF l 20 0 = ((l.length : Int), true) := by rw [← h5]; exact Prod.ext rfl h4
  obtain ⟨_, hk⟩ := walkF_good l 20 0 _ (Int.le_refl _) hw
  exact ⟨by omega, h3, fun j hj k hkk => hk j (by omega) (by omega) k hkk, fun j hj => (all_getD _ _ Nd.none).1 h6 j hj⟩

end Go.St
