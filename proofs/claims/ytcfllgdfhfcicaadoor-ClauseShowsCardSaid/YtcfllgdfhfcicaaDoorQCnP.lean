/- A clause's own form, in plain Lean: sorted by variables, the positive one first, none twice; there is one such list. -/
import Derived.Lib.SlicesCompact
import Derived.Sort.Statements
set_option linter.unusedSimpArgs false
set_option linter.unusedVariables false
namespace Go.Cl
open Go Go.Sort

def absI (l : Int) : Int := if l < 0 then -l else l
def cmp2 (a b : Int) : Int := if a < b then -1 else if b < a then 1 else 0
def cmpL (a b : Int) : Int := if cmp2 (absI a) (absI b) ≠ 0 then cmp2 (absI a) (absI b) else cmp2 b a
def ltL (a b : Int) : Prop := absI a < absI b ∨ (absI a = absI b ∧ b < a)

theorem cmp2_neg (a b : Int) : cmp2 a b < 0 ↔ a < b := by
  unfold cmp2
  by_cases h : a < b
  · rw [if_pos h]; exact ⟨fun _ => h, fun _ => by decide⟩
  · rw [if_neg h]
    by_cases h' : b < a
    · rw [if_pos h']; exact ⟨fun k => absurd k (by decide), fun k => absurd k h⟩
    · rw [if_neg h']; exact ⟨fun k => absurd k (by decide), fun k => absurd k h⟩

theorem cmp2_zero (a b : Int) : cmp2 a b = 0 ↔ a = b := by
  unfold cmp2
  by_cases h : a < b
  · rw [if_pos h]; exact ⟨fun k => absurd k (by decide), fun k => by omega⟩
  · rw [if_neg h]
    by_cases h' : b < a
    · rw [if_pos h']; exact ⟨fun k => absurd k (by decide), fun k => by omega⟩
    · rw [if_neg h']; exact ⟨fun _ => by omega, fun _ => rfl⟩

theorem cmpL_neg (a b : Int) : cmpL a b < 0 ↔ ltL a b := by
  unfold cmpL ltL
  by_cases h : absI a = absI b
  · rw [if_neg (fun k => k ((cmp2_zero _ _).2 h)), cmp2_neg]
    omega
  · rw [if_pos (fun k => h ((cmp2_zero _ _).1 k)), cmp2_neg]
    omega

theorem ltL_irrefl (a : Int) : ¬ ltL a a := by unfold ltL; omega
theorem ltL_trans {a b c : Int} (h : ltL a b) (k : ltL b c) : ltL a c := by unfold ltL at *; omega
theorem ltL_tri (a b : Int) : ltL a b ∨ a = b ∨ ltL b a := by unfold ltL; omega

def ltB (x y : Int) : Bool := decide (cmpL x y < 0)

theorem ltOf_iff (a b : Int) : ltB a b = true ↔ ltL a b := by
  unfold ltB
  rw [decide_eq_true_eq]
  exact cmpL_neg a b

theorem ltOf_not (a b : Int) : ltB a b = false ↔ ¬ ltL a b := by
  rw [← ltOf_iff]; simp

theorem swoL : SWO ltB where
  irrefl x := (ltOf_not x x).2 (ltL_irrefl x)
  trans x y z h k := (ltOf_iff x z).2 (ltL_trans ((ltOf_iff x y).1 h) ((ltOf_iff y z).1 k))
  ntrans x y z h k := (ltOf_not x z).2 (by
    have h := (ltOf_not x y).1 h
    have k := (ltOf_not y z).1 k
    unfold ltL at *; omega)

theorem totL (x y : Int) (h : ltB x y = false) (k : ltB y x = false) : x = y := by
  have h := (ltOf_not x y).1 h
  have k := (ltOf_not y x).1 k
  unfold ltL absI at *; omega

/-- Sorted, with what stands there twice. -/
def sortL (c : List Int) : List Int := c.mergeSort fun x y => !ltB y x

/-- A clause's own form. -/
def normL (c : List Int) : List Int := Lib.compact (sortL c)

theorem sortL_sorted (c : List Int) : (sortL c).Pairwise fun x y => ¬ ltL y x := by
  have h := List.pairwise_mergeSort (le := fun x y => !ltB y x) (fun a b c h k => by
    simp only [Bool.not_eq_true'] at h k ⊢
    exact swoL.ntrans c b a k h) (fun a b => by
    simp only [Bool.or_eq_true, Bool.not_eq_true']
    rcases ltL_tri a b with h | h | h
    · left; rw [ltOf_not]; unfold ltL at *; omega
    · left; subst h; exact swoL.irrefl a
    · right; rw [ltOf_not]; unfold ltL at *; omega) c
  exact h.imp fun {a b} hab => by
    simp only [Bool.not_eq_true'] at hab
    exact (ltOf_not b a).1 hab

theorem keeps_iff (zs : List Int) (j : Nat) (hj : j < zs.length) : Lib.keeps zs.toArray j = true ↔ (j = 0 ∨ zs.getD j 0 ≠ zs.getD (j - 1) 0) := by
  have e : ∀ i, i < zs.length → zs.toArray[i]! = zs.getD i 0 := fun i hi => by
    rw [getElem!_pos _ _ (by simpa using hi), List.getD_eq_getElem?_getD, List.getElem?_eq_getElem hi]; rfl
  unfold Lib.keeps
  rw [decide_eq_true_eq, e j hj, e (j - 1) (by omega)]

theorem compact_eq (zs : List Int) : Lib.compact zs = ((List.range zs.length).filter fun j => decide (j = 0 ∨ zs.getD j 0 ≠ zs.getD (j - 1) 0)).map fun j => zs.getD j 0 := by
  have e : ∀ i, i < zs.length → zs.toArray[i]! = zs.getD i 0 := fun i hi => by
    rw [getElem!_pos _ _ (by simpa using hi), List.getD_eq_getElem?_getD, List.getElem?_eq_getElem hi]; rfl
  unfold Lib.compact Lib.compactUpTo
  have h1 : (List.range zs.length).filter (Lib.keeps zs.toArray) = (List.range zs.length).filter fun j => decide (j = 0 ∨ zs.getD j 0 ≠ zs.getD (j - 1) 0) :=
    List.filter_congr fun j hj => by
      have hj := List.mem_range.1 hj
      have := keeps_iff zs j hj
      by_cases h : Lib.keeps zs.toArray j = true
      · rw [h, decide_eq_true (this.1 h)]
      · rw [Bool.eq_false_iff.2 h, decide_eq_false (fun g => h (this.2 g))]
  rw [h1]
  exact List.map_congr_left fun j hj => e j (List.mem_range.1 (List.mem_filter.1 hj).1)

theorem sorted_at {zs : List Int} (hs : zs.Pairwise fun x y => ¬ ltL y x) {i j : Nat} (hij : i ≤ j) (hj : j < zs.length) : ¬ ltL (zs.getD j 0) (zs.getD i 0) := by
  rcases Nat.lt_or_eq_of_le hij with h | h
  · have := List.pairwise_iff_getElem.1 hs i j (by omega) hj h
    rw [List.getD_eq_getElem?_getD, List.getD_eq_getElem?_getD, List.getElem?_eq_getElem hj, List.getElem?_eq_getElem (by omega : i < zs.length)]
    exact this
  · subst h; exact ltL_irrefl _

theorem compact_sorted {zs : List Int} (hs : zs.Pairwise fun x y => ¬ ltL y x) : (Lib.compact zs).Pairwise ltL := by
  rw [compact_eq, List.pairwise_map]
  have h0 : (List.range zs.length).Pairwise (· < ·) := List.pairwise_lt_range
  have h1 := h0.filter fun j => decide (j = 0 ∨ zs.getD j 0 ≠ zs.getD (j - 1) 0)
  refine h1.imp_of_mem fun {i j} hi hj hij => ?_
  obtain ⟨hj1, hj2⟩ := List.mem_filter.1 hj
  have hjl := List.mem_range.1 hj1
  rw [decide_eq_true_eq] at hj2
  have a1 := sorted_at hs (i := i) (j := j - 1) (by omega) (by omega)
  have a2 := sorted_at hs (i := j - 1) (j := j) (by omega) hjl
  have hne : zs.getD j 0 ≠ zs.getD (j - 1) 0 := by
    rcases hj2 with h | h
    · omega
    · exact h
  rcases ltL_tri (zs.getD (j - 1) 0) (zs.getD j 0) with h | h | h
  · rcases ltL_tri (zs.getD i 0) (zs.getD (j - 1) 0) with k | k | k
    · exact ltL_trans k h
    · rw [k]; exact h
    · exact absurd k a1
  · exact absurd h.symm hne
  · exact absurd h a2

theorem compact_mem {zs : List Int} {x : Int} : x ∈ Lib.compact zs ↔ x ∈ zs := by
  rw [compact_eq]
  constructor
  · intro h
    obtain ⟨j, hj, rfl⟩ := List.mem_map.1 h
    have hjl := List.mem_range.1 (List.mem_filter.1 hj).1
    rw [List.getD_eq_getElem?_getD, List.getElem?_eq_getElem hjl]
    exact List.getElem_mem hjl
  · intro h
    obtain ⟨i, hi, rfl⟩ := List.mem_iff_getElem.1 h
    have key : ∀ i, i < zs.length → ∃ j, j < zs.length ∧ (j = 0 ∨ zs.getD j 0 ≠ zs.getD (j - 1) 0) ∧ zs.getD j 0 = zs.getD i 0 := by
      intro i
      induction i with
      | zero => intro h; exact ⟨0, h, .inl rfl, rfl⟩
      | succ i ih =>
        intro h
        by_cases e : zs.getD (i + 1) 0 = zs.getD i 0
        · obtain ⟨j, h1, h2, h3⟩ := ih (by omega)
          exact ⟨j, h1, h2, h3.trans e.symm⟩
        · exact ⟨i + 1, h, .inr e, rfl⟩
    obtain ⟨j, h1, h2, h3⟩ := key i hi
    refine List.mem_map.2 ⟨j, List.mem_filter.2 ⟨List.mem_range.2 h1, decide_eq_true h2⟩, ?_⟩
    rw [h3, List.getD_eq_getElem?_getD, List.getElem?_eq_getElem hi]
    rfl

theorem norm_sorted (c : List Int) : (normL c).Pairwise ltL := compact_sorted (sortL_sorted c)
theorem norm_mem {c : List Int} {x : Int} : x ∈ normL c ↔ x ∈ c := by
  unfold normL
  rw [compact_mem]
  unfold sortL
  exact List.mem_mergeSort

/-- There is one such list. -/
theorem sorted_eq : ∀ {a b : List Int}, a.Pairwise ltL → b.Pairwise ltL → (∀ x, x ∈ a ↔ x ∈ b) → a = b
  | [], [], _, _, _ => rfl
  | [], y :: b, _, _, h => absurd ((h y).2 (List.mem_cons_self ..)) (by simp)
  | x :: a, [], _, _, h => absurd ((h x).1 (List.mem_cons_self ..)) (by simp)
  | x :: a, y :: b, ha, hb, h => by
    rw [List.pairwise_cons] at ha hb
    have e : x = y := by
      rcases List.mem_cons.1 ((h x).1 (List.mem_cons_self ..)) with h1 | h1
      · exact h1
      · rcases List.mem_cons.1 ((h y).2 (List.mem_cons_self ..)) with h2 | h2
        · exact h2.symm
        · exact absurd (ltL_trans (ha.1 y h2) (hb.1 x h1)) (ltL_irrefl x)
    subst e
    rw [sorted_eq ha.2 hb.2 fun z => ?_]
    constructor
    · intro hz
      rcases List.mem_cons.1 ((h z).1 (List.mem_cons_of_mem _ hz)) with h1 | h1
      · subst h1; exact absurd (ha.1 z hz) (ltL_irrefl z)
      · exact h1
    · intro hz
      rcases List.mem_cons.1 ((h z).2 (List.mem_cons_of_mem _ hz)) with h1 | h1
      · subst h1; exact absurd (hb.1 z hz) (ltL_irrefl z)
      · exact h1

theorem norm_norm (c : List Int) : normL (normL c) = normL c :=
  sorted_eq (norm_sorted _) (norm_sorted _) fun x => norm_mem

theorem norm_len (c : List Int) : (normL c).length ≤ c.length := by
  unfold normL
  rw [compact_eq, List.length_map]
  refine Nat.le_trans (List.length_filter_le ..) ?_
  simp [sortL]

/-- Both a literal and its opposite are there. -/
def idleL (r : List Int) : Bool := (List.range r.length).any fun i => decide (1 ≤ i) && r.getD i 0 == -(r.getD (i - 1) 0)

theorem getD_get {l : List Int} {i : Nat} (h : i < l.length) : l.getD i 0 = l[i] := by
  rw [List.getD_eq_getElem?_getD, List.getElem?_eq_getElem h]; rfl

theorem idle_pos {r : List Int} (hs : r.Pairwise ltL) {v : Int} (hv : 0 < v) (h1 : v ∈ r) (h2 : -v ∈ r) : idleL r = true := by
  obtain ⟨i, hi, e1⟩ := List.mem_iff_getElem.1 h1
  obtain ⟨j, hj, e2⟩ := List.mem_iff_getElem.1 h2
  have hlt := List.pairwise_iff_getElem.1 hs
  have hij : i < j := by
    rcases Nat.lt_trichotomy i j with h | h | h
    · exact h
    · subst h; rw [e1] at e2; omega
    · have := hlt j i hj hi h
      rw [e1, e2] at this
      unfold ltL absI at this; omega
  have hi1 : i + 1 = j := by
    rcases Nat.lt_or_eq_of_le (show i + 1 ≤ j by omega) with h | h
    · have a1 := hlt i (i + 1) hi (by omega) (by omega)
      have a2 := hlt (i + 1) j (by omega) hj h
      rw [e1] at a1
      rw [e2] at a2
      unfold ltL absI at a1 a2; omega
    · exact h
  unfold idleL
  rw [List.any_eq_true]
  refine ⟨i + 1, List.mem_range.2 (by omega), ?_⟩
  rw [Bool.and_eq_true, decide_eq_true_eq, beq_iff_eq]
  refine ⟨by omega, ?_⟩
  rw [getD_get (by omega), show i + 1 - 1 = i by omega, getD_get hi, e1]
  subst hi1
  exact e2

theorem idle_iff {c : List Int} (h0 : ∀ x ∈ c, x ≠ 0) : idleL (normL c) = true ↔ ∃ v, v ∈ c ∧ -v ∈ c := by
  constructor
  · intro h
    unfold idleL at h
    rw [List.any_eq_true] at h
    obtain ⟨i, hi, h⟩ := h
    rw [Bool.and_eq_true, decide_eq_true_eq, beq_iff_eq] at h
    have hi := List.mem_range.1 hi
    refine ⟨(normL c).getD (i - 1) 0, norm_mem.1 ?_, norm_mem.1 ?_⟩
    · rw [getD_get (by omega)]; exact List.getElem_mem _
    · rw [← h.2, getD_get hi]; exact List.getElem_mem _
  · rintro ⟨v, h1, h2⟩
    have hv := h0 v h1
    by_cases hp : 0 < v
    · exact idle_pos (norm_sorted c) hp (norm_mem.2 h1) (norm_mem.2 h2)
    · exact idle_pos (norm_sorted c) (v := -v) (by omega) (norm_mem.2 h2) (norm_mem.2 (by rw [Int.neg_neg]; exact h1))

/-- Literals. -/
def litB (l : Int) : Bool := l != 0 && decide (-100000 ≤ l) && decide (l ≤ 100000)
def rightB (c : List Int) : Bool := c.all litB

theorem lit_iff (l : Int) : litB l = true ↔ l ≠ 0 ∧ -100000 ≤ l ∧ l ≤ 100000 := by
  simp [litB, and_assoc]

/-- Whether a literal is true. -/
def isTrue (m : List Bool) (l : Int) : Bool := (decide (absI l ≤ m.length) && m.getD (absI l - 1).toNat false) == decide (0 < l)
def holdsB (c : List Int) (m : List Bool) : Bool := c.any fun l => litB l && isTrue m l
def allB (cs : List (List Int)) (m : List Bool) : Bool := cs.all fun c => holdsB c m

theorem holds_mem {a c : List Int} (m : List Bool) (h : ∀ x, x ∈ a ↔ x ∈ c) : holdsB a m = holdsB c m := by
  have key : ∀ a c : List Int, (∀ x, x ∈ a → x ∈ c) → holdsB a m = true → holdsB c m = true := fun a c h g => by
    unfold holdsB at *
    rw [List.any_eq_true] at *
    obtain ⟨x, hx, g⟩ := g
    exact ⟨x, h x hx, g⟩
  cases h1 : holdsB a m
  · cases h2 : holdsB c m
    · rfl
    · rw [key c a (fun x => (h x).2) h2] at h1; exact absurd h1 (by decide)
  · exact (key a c (fun x => (h x).1) h1).symm

theorem holds_norm (c : List Int) (m : List Bool) : holdsB (normL c) m = holdsB c m := holds_mem m fun x => norm_mem

theorem holds_idle {c : List Int} (m : List Bool) (hr : rightB c = true) (h : idleL (normL c) = true) : holdsB c m = true := by
  have hl : ∀ x ∈ c, litB x = true := by
    unfold rightB at hr
    rw [List.all_eq_true] at hr
    exact hr
  obtain ⟨v, h1, h2⟩ := (idle_iff fun x hx => ((lit_iff x).1 (hl x hx)).1).1 h
  have a1 := hl v h1
  have a2 := hl (-v) h2
  have hv := ((lit_iff v).1 a1).1
  have ha : absI (-v) = absI v := by unfold absI; omega
  unfold holdsB
  rw [List.any_eq_true]
  by_cases hb : (decide (absI v ≤ m.length) && m.getD (absI v - 1).toNat false) = decide (0 < v)
  · exact ⟨v, h1, by rw [a1, Bool.true_and]; unfold isTrue; rw [beq_iff_eq]; exact hb⟩
  · refine ⟨-v, h2, ?_⟩
    rw [a2, Bool.true_and]
    unfold isTrue
    rw [beq_iff_eq, ha]
    have hd : decide (0 < -v) = !decide (0 < v) := by
      by_cases hp : 0 < v
      · rw [decide_eq_true hp, decide_eq_false (by omega)]; rfl
      · rw [decide_eq_false hp, decide_eq_true (by omega)]; rfl
    rw [hd]
    revert hb
    generalize (decide (absI v ≤ m.length) && m.getD (absI v - 1).toNat false) = x
    generalize decide (0 < v) = y
    cases x <;> cases y <;> simp

/-- The greatest variable. -/
def great1 (n : Int) (c : List Int) : Int := c.foldl (fun n l => if litB l = true ∧ n < absI l then absI l else n) n
def greatL (cs : List (List Int)) : Int := cs.foldl great1 0

end Go.Cl
