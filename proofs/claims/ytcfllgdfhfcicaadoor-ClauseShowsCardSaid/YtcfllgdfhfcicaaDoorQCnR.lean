/- The document's way to a clause's own form: the least variables first; in plain Lean. -/
import Derived.Test.YtcfllgdfhfcicaaDoorQCnP
set_option linter.unusedSimpArgs false
set_option linter.unusedVariables false
namespace Go.Cl
open Go

def least1 (last : Int) (v l : Int) : Int := if absI l > last ∧ (v = 0 ∨ absI l < v) then absI l else v
def leastF (c : List Int) (last : Int) : Int := c.foldl (least1 last) 0

theorem least_spec (last : Int) (h0 : 0 ≤ last) : ∀ (c : List Int) (v : Int), (v = 0 ∨ last < v) →
    (c.foldl (least1 last) v = 0 ∧ v = 0 ∧ ∀ x ∈ c, absI x ≤ last) ∨
    (last < c.foldl (least1 last) v ∧ (c.foldl (least1 last) v = v ∨ ∃ x ∈ c, absI x = c.foldl (least1 last) v) ∧ (∀ x ∈ c, last < absI x → c.foldl (least1 last) v ≤ absI x) ∧ (v ≠ 0 → c.foldl (least1 last) v ≤ v))
  | [], v, hv => by
    rcases hv with rfl | hv
    · left; simp
    · right; exact ⟨hv, .inl rfl, fun x hx => by simp at hx, fun _ => Int.le_refl _⟩
  | l :: c, v, hv => by
    rw [List.foldl_cons]
    have hv' : least1 last v l = 0 ∨ last < least1 last v l := by
      unfold least1
      split
      · rename_i h; exact .inr h.1
      · exact hv
    have e : least1 last v l = (if absI l > last ∧ (v = 0 ∨ absI l < v) then absI l else v) := rfl
    rcases least_spec last h0 c (least1 last v l) hv' with ⟨h1, h2, h3⟩ | ⟨h1, h2, h3, h4⟩
    · left
      rw [e] at h2
      split at h2
      · rename_i h; omega
      · rename_i h
        refine ⟨h1, h2, fun x hx => ?_⟩
        rcases List.mem_cons.1 hx with rfl | hx
        · rcases Int.lt_or_le last (absI x) with k | k
          · exact absurd ⟨k, .inl h2⟩ h
          · exact k
        · exact h3 x hx
    · right
      generalize c.foldl (least1 last) (least1 last v l) = z at h1 h2 h3 h4 ⊢
      rw [e] at h2 h4
      refine ⟨h1, ?_, fun x hx hl => ?_, fun hv0 => ?_⟩
      · rcases h2 with h2 | ⟨x, hx, h2⟩
        · split at h2
          · exact .inr ⟨l, List.mem_cons_self .., h2.symm⟩
          · exact .inl h2
        · exact .inr ⟨x, List.mem_cons_of_mem _ hx, h2⟩
      · rcases List.mem_cons.1 hx with rfl | hx
        · split at h4
          · exact h4 (by omega)
          · rename_i h
            have : v ≠ 0 ∧ v ≤ absI x := by
              constructor
              · intro h5; exact h ⟨hl, .inl h5⟩
              · rcases Int.lt_or_le (absI x) v with k | k
                · exact absurd ⟨hl, .inr k⟩ h
                · exact k
            have := h4 this.1
            omega
        · exact h3 x hx hl
      · split at h4
        · rename_i h
          have := h4 (by omega)
          omega
        · exact h4 hv0

theorem least_zero {c : List Int} {last : Int} (h0 : 0 ≤ last) (h : leastF c last = 0) : ∀ x ∈ c, absI x ≤ last := by
  rcases least_spec last h0 c 0 (.inl rfl) with ⟨_, _, h3⟩ | ⟨h1, _⟩
  · exact h3
  · unfold leastF at h; omega

theorem least_pos {c : List Int} {last : Int} (h0 : 0 ≤ last) (h : leastF c last ≠ 0) : last < leastF c last ∧ (∃ x ∈ c, absI x = leastF c last) ∧ ∀ x ∈ c, last < absI x → leastF c last ≤ absI x := by
  rcases least_spec last h0 c 0 (.inl rfl) with ⟨h1, _⟩ | ⟨h1, h2, h3, _⟩
  · exact absurd h1 h
  · refine ⟨h1, ?_, h3⟩
    rcases h2 with h2 | h2
    · exact absurd h2 h
    · exact h2

/-- What is found so far. -/
structure NInv (c : List Int) (last : Int) (out : List Int) (idle : Bool) : Prop where
  lst : 0 ≤ last ∧ last ≤ 100000
  sorted : out.Pairwise ltL
  mem : ∀ x, x ∈ out ↔ x ∈ c ∧ absI x ≤ last
  idle : idle = true ↔ ∃ v, v ∈ out ∧ -v ∈ out

theorem ninv0 {c : List Int} (hr : rightB c = true) : NInv c 0 [] false := by
  refine ⟨⟨by omega, by omega⟩, List.Pairwise.nil, fun x => ⟨fun h => by simp at h, fun ⟨h1, h2⟩ => ?_⟩, by simp⟩
  unfold rightB at hr
  have := ((lit_iff x).1 (List.all_eq_true.1 hr x h1)).1
  unfold absI at h2; omega

def add1 (c : List Int) (v : Int) (out : List Int) : List Int := if v ∈ c then out ++ [v] else out
def nextO (c : List Int) (v : Int) (out : List Int) : List Int := add1 c (-v) (add1 c v out)
def nextI (c : List Int) (v : Int) (idle : Bool) : Bool := idle || (decide (v ∈ c) && decide (-v ∈ c))

theorem mem_add1 (c : List Int) (v : Int) (out : List Int) (x : Int) : x ∈ add1 c v out ↔ x ∈ out ∨ (x = v ∧ v ∈ c) := by
  unfold add1
  split
  · rename_i h; simp [h]
  · rename_i h; simp [h]

theorem ninv_next {c : List Int} (hr : rightB c = true) {last : Int} {out : List Int} {idle : Bool} (h : NInv c last out idle) (hv : leastF c last ≠ 0) :
    NInv c (leastF c last) (nextO c (leastF c last) out) (nextI c (leastF c last) idle) := by
  obtain ⟨h1, ⟨y, hy, hy2⟩, h3⟩ := least_pos h.lst.1 hv
  have hlit : ∀ x ∈ c, litB x = true := List.all_eq_true.1 hr
  have h0 := h.lst
  generalize leastF c last = v at h1 hy2 h3 ⊢
  have hyl := (lit_iff y).1 (hlit y hy)
  have hv0 : 0 < v := by omega
  have hmem : ∀ x, x ∈ nextO c v out ↔ x ∈ c ∧ absI x ≤ v := fun x => by
    unfold nextO
    rw [mem_add1, mem_add1, h.mem]
    constructor
    · rintro ((⟨h4, h5⟩ | ⟨rfl, h4⟩) | ⟨rfl, h4⟩)
      · exact ⟨h4, by omega⟩
      · exact ⟨h4, by unfold absI; omega⟩
      · exact ⟨h4, by unfold absI; omega⟩
    · rintro ⟨h4, h5⟩
      by_cases hl : last < absI x
      · have h6 := h3 x h4 hl
        have : x = v ∨ x = -v := by unfold absI at *; omega
        rcases this with rfl | rfl
        · exact .inl (.inr ⟨rfl, h4⟩)
        · exact .inr ⟨rfl, h4⟩
      · exact .inl (.inl ⟨h4, by omega⟩)
  refine ⟨⟨by omega, by unfold absI at hy2; omega⟩, ?_, hmem, ?_⟩
  · have s1 : (add1 c v out).Pairwise ltL := by
      unfold add1
      split
      · rw [List.pairwise_append]
        refine ⟨h.sorted, List.pairwise_singleton .., fun x hx z hz => ?_⟩
        simp only [List.mem_singleton] at hz
        subst hz
        have := ((h.mem x).1 hx).2
        left
        have : absI z = z := by unfold absI; omega
        omega
      · exact h.sorted
    unfold nextO
    rw [add1]
    split
    · rw [List.pairwise_append]
      refine ⟨s1, List.pairwise_singleton .., fun x hx z hz => ?_⟩
      simp only [List.mem_singleton] at hz
      subst hz
      have ha : absI (-v) = v := by unfold absI; omega
      rcases (mem_add1 c v out x).1 hx with hx | ⟨rfl, _⟩
      · have := ((h.mem x).1 hx).2
        left; omega
      · right
        exact ⟨by rw [ha]; unfold absI; omega, by omega⟩
    · exact s1
  · unfold nextI
    rw [Bool.or_eq_true, Bool.and_eq_true, decide_eq_true_eq, decide_eq_true_eq, h.idle]
    constructor
    · rintro (⟨z, h4, h5⟩ | ⟨h4, h5⟩)
      · have h6 := (h.mem z).1 h4
        have h7 := (h.mem (-z)).1 h5
        exact ⟨z, (hmem z).2 ⟨h6.1, by omega⟩, (hmem (-z)).2 ⟨h7.1, by omega⟩⟩
      · exact ⟨v, (hmem v).2 ⟨h4, by unfold absI; omega⟩, (hmem (-v)).2 ⟨h5, by unfold absI; omega⟩⟩
    · rintro ⟨z, h4, h5⟩
      have h6 := (hmem z).1 h4
      have h7 := (hmem (-z)).1 h5
      by_cases hl : last < absI z
      · have h8 := h3 z h6.1 hl
        have : z = v ∨ z = -v := by unfold absI at *; omega
        rcases this with rfl | rfl
        · exact .inr ⟨h6.1, h7.1⟩
        · exact .inr ⟨by rw [Int.neg_neg] at h7; exact h7.1, h6.1⟩
      · have : absI (-z) = absI z := by unfold absI; omega
        exact .inl ⟨z, (h.mem z).2 ⟨h6.1, by omega⟩, (h.mem (-z)).2 ⟨h7.1, by omega⟩⟩

theorem ninv_end {c : List Int} (hr : rightB c = true) {last : Int} {out : List Int} {idle : Bool} (h : NInv c last out idle) (hv : leastF c last = 0) :
    out = normL c ∧ idle = idleL (normL c) := by
  have h3 := least_zero h.lst.1 hv
  have hlit : ∀ x ∈ c, litB x = true := List.all_eq_true.1 hr
  have hm : ∀ x, x ∈ out ↔ x ∈ c := fun x => by
    rw [h.mem]
    exact ⟨fun k => k.1, fun k => ⟨k, h3 x k⟩⟩
  have e := sorted_eq h.sorted (norm_sorted c) fun x => (hm x).trans norm_mem.symm
  refine ⟨e, ?_⟩
  have k : idleL (normL c) = true ↔ idle = true := by
    rw [h.idle, idle_iff fun x hx => ((lit_iff x).1 (hlit x hx)).1]
    constructor
    · rintro ⟨v, h1, h2⟩; exact ⟨v, (hm v).2 h1, (hm (-v)).2 h2⟩
    · rintro ⟨v, h1, h2⟩; exact ⟨v, (hm v).1 h1, (hm (-v)).1 h2⟩
  cases hi : idle
  · cases hj : idleL (normL c)
    · rfl
    · rw [k.1 hj] at hi; exact absurd hi (by decide)
  · exact (k.2 hi).symm

end Go.Cl
