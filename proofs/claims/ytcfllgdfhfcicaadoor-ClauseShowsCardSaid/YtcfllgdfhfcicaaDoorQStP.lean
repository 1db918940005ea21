/- States and expressions, in plain Lean. -/
import Derived.Test.YtcfllgdfhfcicaaDoorQSt0
set_option linter.unusedSimpArgs false
set_option linter.unusedVariables false
namespace Go.St
open Go Go.Sx

theorem getD_mem {α : Type} (l : List α) (i : Nat) (d : α) (h : i < l.length) : l.getD i d ∈ l := by
  rw [List.getD_eq_getElem?_getD, List.getElem?_eq_getElem h]; exact List.getElem_mem h

theorem upto_succ {p : Nat → Prop} {i : Nat} (h : ∀ j, j < i → p j) (hi : p i) : ∀ j, j < i + 1 → p j := fun j hj => by
  by_cases e : j = i
  · exact e ▸ hi
  · exact h j (by omega)

structure NdOk (len i : Nat) (n : Nd) : Prop where
  num : n.kind = 17 → 1 ≤ n.nums.length
  word : n.kind = 18 ∨ n.kind = 19 → 1 ≤ n.words.length
  un : n.kind = 20 ∨ n.kind = 21 → 1 ≤ n.kids.length ∧ (i : Int) < n.kids.getD 0 0 ∧ n.kids.getD 0 0 < len
  bin : n.kind = 22 → (2 ≤ n.kids.length ∧ 1 ≤ n.nums.length) ∧ ((i : Int) < n.kids.getD 0 0 ∧ n.kids.getD 0 0 < len) ∧ ((i : Int) < n.kids.getD 1 0 ∧ n.kids.getD 1 0 < len) ∧ 0 ≤ n.nums.getD 0 0 ∧ n.nums.getD 0 0 ≤ 8

structure MOk (m : Md) : Prop where
  tree : ∀ i, i < m.tree.length → NdOk m.tree.length i (m.tree.getD i Nd.none)
  glob : 0 ≤ m.globals ∧ m.globals ≤ m.vars.length
  procs : ∀ q ∈ m.procs, q.names.length ≤ q.vars.length ∧ ∀ v ∈ q.vars, 0 ≤ v ∧ v < m.vars.length
  sz : (m.tree.length ≤ 1000000 ∧ m.vars.length ≤ 1000000 ∧ m.chans.length ≤ 1000000) ∧ m.procs.length ≤ 1000000 ∧ m.safe.length ≤ 1000000
  psz : ∀ q ∈ m.procs, q.names.length ≤ 1000000 ∧ q.edges.length ≤ 1000000
  safe : ∀ k ∈ m.safe, 0 ≤ k ∧ k < m.tree.length
  chan : ∀ c ∈ m.chans, 0 ≤ c.room ∧ c.room ≤ 3
  place : ∀ q ∈ m.procs, 1 ≤ q.places ∧ q.places ≤ 1000000

structure SOk (m : Md) (s : Stt) : Prop where
  vl : s.vars.length = m.vars.length
  cl : s.chans.length = m.chans.length
  vb : ∀ v ∈ s.vars, -32768 ≤ v ∧ v ≤ 32768
  cb : ∀ c ∈ s.chans, c.length ≤ 32768

/-- The first place of a list where something is so; -1: none. -/
def idx {α : Type} (p : α → Bool) (l : List α) : Int := match l.findIdx? p with | some i => i | none => -1

theorem idx_at {α : Type} (p : α → Bool) (l : List α) (d : α) (i : Nat) (hi : i < l.length) (hp : p (l.getD i d) = true) (hb : ∀ j, j < i → p (l.getD j d) = false) : idx p l = i := by
  have : l.findIdx? p = some i := by
    rw [List.findIdx?_eq_some_iff_getElem]
    refine ⟨hi, ?_, fun j hj => ?_⟩
    · rw [List.getD_eq_getElem?_getD, List.getElem?_eq_getElem hi] at hp; exact hp
    · have h := hb j hj
      rw [List.getD_eq_getElem?_getD, List.getElem?_eq_getElem (by omega)] at h
      simp only [Option.getD_some] at h
      rw [h]; decide
  rw [idx, this]

theorem idx_none {α : Type} (p : α → Bool) (l : List α) (d : α) (hb : ∀ j, j < l.length → p (l.getD j d) = false) : idx p l = -1 := by
  have : l.findIdx? p = none := by
    rw [List.findIdx?_eq_none_iff]
    intro x hx
    obtain ⟨j, hj, rfl⟩ := List.mem_iff_getElem.1 hx
    have h := hb j hj
    rw [List.getD_eq_getElem?_getD, List.getElem?_eq_getElem hj] at h
    exact h
  rw [idx, this]

theorem idx_lt {α : Type} (p : α → Bool) (l : List α) : -1 ≤ idx p l ∧ idx p l < l.length := by
  unfold idx
  cases h : l.findIdx? p with
  | none => simp; omega
  | some i =>
    rw [List.findIdx?_eq_some_iff_getElem] at h
    obtain ⟨h, _⟩ := h
    simp; omega

/-- The number of a variable that a process, or the program, sees under a name; -1: none. -/
def varN (m : Md) (p : Int) (s : List UInt8) : Int :=
  if 0 ≤ p ∧ p < m.procs.length then
    (if idx (· == s) (m.procs.getD p.toNat Pr.none).names < 0 then -1 else (m.procs.getD p.toNat Pr.none).vars.getD (idx (· == s) (m.procs.getD p.toNat Pr.none).names).toNat 0)
  else idx (fun v : Vr => v.name == s) (m.vars.take m.globals.toNat)

theorem varN_lt {m : Md} (hm : MOk m) (p : Int) (s : List UInt8) : -1 ≤ varN m p s ∧ varN m p s < m.vars.length := by
  unfold varN
  split
  · rename_i h
    split
    · omega
    · have hq := hm.procs _ (getD_mem m.procs p.toNat Pr.none (by omega))
      have hi := idx_lt (· == s) (m.procs.getD p.toNat Pr.none).names
      have := hq.2 _ (getD_mem (m.procs.getD p.toNat Pr.none).vars (idx (· == s) (m.procs.getD p.toNat Pr.none).names).toNat 0 (by omega))
      omega
  · have := idx_lt (fun v : Vr => v.name == s) (m.vars.take m.globals.toNat)
    rw [List.length_take] at this
    omega

/-- What an expression comes to; 'n' bounds how deep it is. -/
def valN (m : Md) (p : Int) (s : Stt) : Nat → Int → Int × Bool
  | 0, _ => (0, false)
  | n + 1, k =>
    if (m.tree.getD k.toNat Nd.none).kind = 17 then (trim ((m.tree.getD k.toNat Nd.none).nums.getD 0 0) 8, true)
    else if (m.tree.getD k.toNat Nd.none).kind = 18 then
      (if varN m p ((m.tree.getD k.toNat Nd.none).words.getD 0 []) < 0 then (0, false) else (s.vars.getD (varN m p ((m.tree.getD k.toNat Nd.none).words.getD 0 [])).toNat 0, true))
    else if (m.tree.getD k.toNat Nd.none).kind = 19 then
      (if idx (fun c : Ch => c.name == (m.tree.getD k.toNat Nd.none).words.getD 0 []) m.chans < 0 then (0, false) else ((s.chans.getD (idx (fun c : Ch => c.name == (m.tree.getD k.toNat Nd.none).words.getD 0 []) m.chans).toNat []).length, true))
    else if (m.tree.getD k.toNat Nd.none).kind = 20 then
      (trim (0 - (valN m p s n ((m.tree.getD k.toNat Nd.none).kids.getD 0 0)).1) 8, (valN m p s n ((m.tree.getD k.toNat Nd.none).kids.getD 0 0)).2)
    else if (m.tree.getD k.toNat Nd.none).kind = 21 then
      (if ((valN m p s n ((m.tree.getD k.toNat Nd.none).kids.getD 0 0)).2 && (valN m p s n ((m.tree.getD k.toNat Nd.none).kids.getD 0 0)).1 == 0) then 1 else 0, (valN m p s n ((m.tree.getD k.toNat Nd.none).kids.getD 0 0)).2)
    else if (m.tree.getD k.toNat Nd.none).kind = 22 then
      (if (valN m p s n ((m.tree.getD k.toNat Nd.none).kids.getD 0 0)).2 = true ∧ (valN m p s n ((m.tree.getD k.toNat Nd.none).kids.getD 1 0)).2 = true then
        applyF ((m.tree.getD k.toNat Nd.none).nums.getD 0 0) (valN m p s n ((m.tree.getD k.toNat Nd.none).kids.getD 0 0)).1 (valN m p s n ((m.tree.getD k.toNat Nd.none).kids.getD 1 0)).1
      else (0, false))
    else (0, false)

/-- How two sides come together, as the document's answer has it. -/
def binF (sg : Int) (A B : Int × Bool) : Int × Bool := if A.2 = true ∧ B.2 = true then applyF sg A.1 B.1 else (0, false)

theorem valN_21 (m : Md) (p : Int) (s : Stt) (n : Nat) (k : Int) (h : (m.tree.getD k.toNat Nd.none).kind = 21) : valN m p s (n + 1) k =
    (if ((valN m p s n ((m.tree.getD k.toNat Nd.none).kids.getD 0 0)).2 && (valN m p s n ((m.tree.getD k.toNat Nd.none).kids.getD 0 0)).1 == 0) then 1 else 0, (valN m p s n ((m.tree.getD k.toNat Nd.none).kids.getD 0 0)).2) := by
  rw [valN, if_neg (by omega), if_neg (by omega), if_neg (by omega), if_neg (by omega), if_pos h]

theorem valN_22 (m : Md) (p : Int) (s : Stt) (n : Nat) (k : Int) (h : (m.tree.getD k.toNat Nd.none).kind = 22) : valN m p s (n + 1) k =
    binF ((m.tree.getD k.toNat Nd.none).nums.getD 0 0) (valN m p s n ((m.tree.getD k.toNat Nd.none).kids.getD 0 0)) (valN m p s n ((m.tree.getD k.toNat Nd.none).kids.getD 1 0)) := by
  rw [binF, valN, if_neg (by omega), if_neg (by omega), if_neg (by omega), if_neg (by omega), if_neg (by omega), if_pos h]

theorem applyF_bound (op a b : Int) : -32768 ≤ (applyF op a b).1 ∧ (applyF op a b).1 ≤ 32768 := by
  have t := fun n => trim_small n 8
  unfold applyF
  (repeat' split) <;> first | (have := t (a + b); simp; omega) | (have := t (a - b); simp; omega) | (have := t (a * b); simp; omega) | (have := t (a.tdiv b); simp; omega) | (have := t (a.tmod b); simp; omega) | simp

theorem valN_bound {m : Md} {s : Stt} (hm : MOk m) (hs : SOk m s) (p : Int) : ∀ (n : Nat) (k : Int), -32768 ≤ (valN m p s n k).1 ∧ (valN m p s n k).1 ≤ 32768
  | 0, _ => by simp [valN]
  | n + 1, k => by
    have t := fun n => trim_small n 8
    unfold valN
    split
    · have := t ((m.tree.getD k.toNat Nd.none).nums.getD 0 0); simp only; omega
    split
    · split
      · simp
      · have := varN_lt hm p ((m.tree.getD k.toNat Nd.none).words.getD 0 [])
        have h2 := hs.vl
        exact hs.vb _ (getD_mem _ _ _ (by omega))
    split
    · split
      · simp
      · have := idx_lt (fun c : Ch => c.name == (m.tree.getD k.toNat Nd.none).words.getD 0 []) m.chans
        have h2 := hs.cl
        have := hs.cb _ (getD_mem s.chans (idx (fun c : Ch => c.name == (m.tree.getD k.toNat Nd.none).words.getD 0 []) m.chans).toNat [] (by omega))
        simp only; omega
    split
    · have := t (0 - (valN m p s n ((m.tree.getD k.toNat Nd.none).kids.getD 0 0)).1); simp only; omega
    split
    · simp only; split <;> omega
    split
    · split
      · exact applyF_bound _ _ _
      · simp
    · simp

theorem applyF_do (op a b : Int) (h : 0 ≤ op ∧ op ≤ 8) (h4 : 4 ≤ op) (hb : ¬ (7 ≤ op ∧ b = 0)) : applyF op a b = (doF (op - 4) a b, true) := by
  have : op = 4 ∨ op = 5 ∨ op = 6 ∨ op = 7 ∨ op = 8 := by omega
  rcases this with rfl | rfl | rfl | rfl | rfl
  · rfl
  · rfl
  · rfl
  · have : b ≠ 0 := by omega
    simp [applyF, doF, this]
  · have : b ≠ 0 := by omega
    simp [applyF, doF, this]

theorem binF_not (sg : Int) {a b : Int} {x y : Bool} (hs : 0 ≤ sg ∧ sg ≤ 8) (h : (x = false ∨ y = false) ∨ 7 ≤ sg ∧ b = 0) : binF sg (a, x) (b, y) = (0, false) := by
  unfold binF
  by_cases hxy : x = true ∧ y = true
  · rw [if_pos hxy]
    have h2 : 7 ≤ sg ∧ b = 0 := by
      rcases h with (h | h) | h
      · rw [h] at hxy; exact absurd hxy.1 (by decide)
      · rw [h] at hxy; exact absurd hxy.2 (by decide)
      · exact h
    obtain ⟨h7, rfl⟩ := h2
    unfold applyF
    rw [if_neg (by omega), if_neg (by omega), if_neg (by omega), if_neg (by omega), if_neg (by omega), if_neg (by omega), if_neg (by omega), if_pos rfl]
  · rw [if_neg hxy]

theorem binF_yes (sg : Int) {a b : Int} {x y : Bool} (h : x = true ∧ y = true) : binF sg (a, x) (b, y) = applyF sg a b := if_pos h

theorem all_getD {α : Type} (q : α → Bool) (l : List α) (d : α) : l.all q = true ↔ ∀ j, j < l.length → q (l.getD j d) = true := by
  rw [List.all_eq_true]
  constructor
  · exact fun h j hj => h _ (getD_mem l j d hj)
  · intro h x hx
    obtain ⟨j, hj, rfl⟩ := List.mem_iff_getElem.1 hx
    have := h j hj
    rw [List.getD_eq_getElem?_getD, List.getElem?_eq_getElem hj] at this
    exact this

/-- Does a state fit a model? -/
def fitsB (m : Md) (s : Stt) : Bool :=
  decide (s.at_.length = m.procs.length ∧ s.vars.length = m.vars.length ∧ s.chans.length = m.chans.length ∧ -1 ≤ s.holder ∧ s.holder < m.procs.length) &&
  (List.range s.at_.length).all (fun i => decide (0 ≤ s.at_.getD i 0 ∧ s.at_.getD i 0 < (m.procs.getD i Pr.none).places)) &&
  (List.range s.vars.length).all (fun i => trim (s.vars.getD i 0) (m.vars.getD i Vr.none).width == s.vars.getD i 0) &&
  (List.range s.chans.length).all (fun i => decide ((s.chans.getD i []).length ≤ (m.chans.getD i Ch.none).room) && (s.chans.getD i []).all fun x => trim x (m.chans.getD i Ch.none).width == x)

/-- The number of a state's first number that is of a channel, and how many messages it gets. -/
def kAt (m : Md) (l : List Int) : Nat → Nat
  | 0 => m.procs.length + m.vars.length
  | i + 1 => kAt m l i + 1 + (partN l (kAt m l i) ((m.chans.getD i Ch.none).room + 1)).toNat

def nAt (m : Md) (l : List Int) (i : Nat) : Nat := (partN l (kAt m l i) ((m.chans.getD i Ch.none).room + 1)).toNat

def msgAt (m : Md) (l : List Int) (i q : Nat) : Int := trim (partN l (kAt m l i + 1 + q : Nat) 256) (m.chans.getD i Ch.none).width

/-- A state that fits a model, made of any numbers. -/
def heldF (m : Md) (l : List Int) : Stt where
  at_ := (List.range m.procs.length).map fun (i : Nat) => partN l i (m.procs.getD i Pr.none).places
  vars := (List.range m.vars.length).map fun i => trim (partN l (m.procs.length + i : Nat) 256) (m.vars.getD i Vr.none).width
  chans := (List.range m.chans.length).map fun i => (List.range (nAt m l i)).map fun q => msgAt m l i q
  holder := -1

theorem partN_bound (l : List Int) (k n : Int) (hn : 0 < n) : 0 ≤ partN l k n ∧ partN l k n < n := by
  unfold partN
  split
  · omega
  · exact ⟨Int.emod_nonneg _ (by omega), Int.emod_lt_of_pos _ hn⟩

theorem kAt_le (m : Md) (hc : ∀ c ∈ m.chans, 0 ≤ c.room ∧ c.room ≤ 3) (l : List Int) : ∀ i, i ≤ m.chans.length → kAt m l i ≤ m.procs.length + m.vars.length + 4 * i
  | 0, _ => by simp [kAt]
  | i + 1, h => by
    have h1 := kAt_le m hc l i (by omega)
    have h2 := hc _ (getD_mem m.chans i Ch.none (by omega))
    have h3 := partN_bound l (kAt m l i) ((m.chans.getD i Ch.none).room + 1) (by omega)
    simp only [kAt]
    omega

theorem getD_range {α : Type} (f : Nat → α) (n i : Nat) (d : α) (h : i < n) : ((List.range n).map f).getD i d = f i := by
  rw [List.getD_eq_getElem?_getD, List.getElem?_map, List.getElem?_range h]; rfl

/-- What a whole expression comes to. -/
def val (m : Md) (p : Int) (s : Stt) (k : Int) : Int × Bool := valN m p s m.tree.length k

def safe1 (m : Md) (s : Stt) (k : Int) : Bool := (val m (-1) s k).2 && !((val m (-1) s k).1 == 0)
def safeB (m : Md) (s : Stt) : Bool := m.safe.all (safe1 m s)

theorem all_upto {α : Type} {q : α → Bool} {l : List α} (d : α) (h : ∀ j, j < l.length → q (l.getD j d) = true) : l.all q = true := (all_getD q l d).2 h

theorem all_no {α : Type} {q : α → Bool} {l : List α} (d : α) {j : Nat} (hj : j < l.length) (h : q (l.getD j d) = false) : l.all q = false := by
  rw [Bool.eq_false_iff]
  intro h'
  rw [(all_getD q l d).1 h' j hj] at h
  cases h

theorem range_no {q : Nat → Bool} {n i : Nat} (hi : i < n) (h : q i = false) : (List.range n).all q = false := by
  rw [Bool.eq_false_iff]
  intro h'
  rw [List.all_eq_true] at h'
  rw [h' i (List.mem_range.2 hi)] at h
  cases h

theorem range_all {q : Nat → Bool} {n : Nat} (h : ∀ i, i < n → q i = true) : (List.range n).all q = true := by
  rw [List.all_eq_true]
  exact fun i hi => h i (List.mem_range.1 hi)

theorem range_get {q : Nat → Bool} {n i : Nat} (h : (List.range n).all q = true) (hi : i < n) : q i = true := by
  rw [List.all_eq_true] at h
  exact h i (List.mem_range.2 hi)

abbrev fits0 (m : Md) (s : Stt) : Prop := s.at_.length = m.procs.length ∧ s.vars.length = m.vars.length ∧ s.chans.length = m.chans.length ∧ -1 ≤ s.holder ∧ s.holder < m.procs.length
abbrev fitsA (m : Md) (s : Stt) (i : Nat) : Prop := 0 ≤ s.at_.getD i 0 ∧ s.at_.getD i 0 < (m.procs.getD i Pr.none).places
abbrev fitsV (m : Md) (s : Stt) (i : Nat) : Prop := trim (s.vars.getD i 0) (m.vars.getD i Vr.none).width = s.vars.getD i 0
abbrev fitsL (m : Md) (s : Stt) (i : Nat) : Prop := (s.chans.getD i []).length ≤ (m.chans.getD i Ch.none).room
abbrev fitsC (m : Md) (s : Stt) (i k : Nat) : Prop := trim ((s.chans.getD i []).getD k 0) (m.chans.getD i Ch.none).width = (s.chans.getD i []).getD k 0

theorem fitsB_iff (m : Md) (s : Stt) : fitsB m s = true ↔ fits0 m s ∧ (∀ i, i < s.at_.length → fitsA m s i) ∧ (∀ i, i < s.vars.length → fitsV m s i) ∧ ∀ i, i < s.chans.length → fitsL m s i ∧ ∀ k, k < (s.chans.getD i []).length → fitsC m s i k := by
  unfold fitsB
  simp only [Bool.and_eq_true]
  constructor
  · rintro ⟨⟨⟨h1, h2⟩, h3⟩, h4⟩
    refine ⟨of_decide_eq_true h1, fun i hi => of_decide_eq_true (range_get h2 hi), fun i hi => by have := range_get h3 hi; exact beq_iff_eq.1 this, fun i hi => ?_⟩
    have := range_get h4 hi
    simp only [Bool.and_eq_true] at this
    exact ⟨of_decide_eq_true this.1, fun k hk => beq_iff_eq.1 ((all_getD _ _ 0).1 this.2 k hk)⟩
  · rintro ⟨h1, h2, h3, h4⟩
    exact ⟨⟨⟨decide_eq_true h1, range_all fun i hi => decide_eq_true (h2 i hi)⟩, range_all fun i hi => beq_iff_eq.2 (h3 i hi)⟩, range_all fun i hi => by
      simp only [Bool.and_eq_true]
      exact ⟨decide_eq_true (h4 i hi).1, (all_getD _ _ 0).2 fun k hk => beq_iff_eq.2 ((h4 i hi).2 k hk)⟩⟩

theorem fits_no0 {m : Md} {s : Stt} (h : ¬ fits0 m s) : fitsB m s = false := by
  rw [Bool.eq_false_iff]; exact fun h' => h ((fitsB_iff m s).1 h').1
theorem fits_noA {m : Md} {s : Stt} (i : Nat) (hi : i < s.at_.length) (h : ¬ fitsA m s i) : fitsB m s = false := by
  rw [Bool.eq_false_iff]; exact fun h' => h (((fitsB_iff m s).1 h').2.1 i hi)
theorem fits_noV {m : Md} {s : Stt} (i : Nat) (hi : i < s.vars.length) (h : ¬ fitsV m s i) : fitsB m s = false := by
  rw [Bool.eq_false_iff]; exact fun h' => h (((fitsB_iff m s).1 h').2.2.1 i hi)
theorem fits_noL {m : Md} {s : Stt} (i : Nat) (hi : i < s.chans.length) (h : ¬ fitsL m s i) : fitsB m s = false := by
  rw [Bool.eq_false_iff]; exact fun h' => h (((fitsB_iff m s).1 h').2.2.2 i hi).1
theorem fits_noC {m : Md} {s : Stt} (i k : Nat) (hi : i < s.chans.length) (hk : k < (s.chans.getD i []).length) (h : ¬ fitsC m s i k) : fitsB m s = false := by
  rw [Bool.eq_false_iff]; exact fun h' => h ((((fitsB_iff m s).1 h').2.2.2 i hi).2 k hk)

/-- The lists of a state are not too long. -/
structure SSz (s : Stt) : Prop where
  a : s.at_.length ≤ 1000000
  v : s.vars.length ≤ 1000000
  c : s.chans.length ≤ 1000000
  l : ∀ c ∈ s.chans, c.length ≤ 1000000

/-- The first state. -/
def firstF (m : Md) : Stt where
  at_ := List.replicate m.procs.length 0
  vars := m.vars.map (·.value)
  chans := List.replicate m.chans.length []
  holder := -1

theorem getD_map {α β : Type} (f : α → β) (l : List α) (i : Nat) (d : β) (d' : α) (h : i < l.length) : (l.map f).getD i d = f (l.getD i d') := by
  rw [List.getD_eq_getElem?_getD, List.getD_eq_getElem?_getD, List.getElem?_map, List.getElem?_eq_getElem h]; rfl

theorem getD_rep {α : Type} (x : α) (n i : Nat) (d : α) (h : i < n) : (List.replicate n x).getD i d = x := by
  rw [List.getD_eq_getElem?_getD, List.getElem?_replicate, if_pos h]; rfl

/-- Two states are the same. -/
def sameB (a b : Stt) : Bool := a.at_ == b.at_ && a.vars == b.vars && a.chans == b.chans && a.holder == b.holder

theorem eq_of_getD {α : Type} {a b : List α} (d : α) (h : a.length = b.length) (h' : ∀ i, i < a.length → a.getD i d = b.getD i d) : a = b := by
  refine List.ext_getElem h fun i h1 h2 => ?_
  have := h' i h1
  rw [List.getD_eq_getElem?_getD, List.getD_eq_getElem?_getD, List.getElem?_eq_getElem h1, List.getElem?_eq_getElem h2] at this
  exact this

end Go.St
