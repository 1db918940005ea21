/- The store of the abstract state in the machine's memory: what each step of memory leaves. Nothing of a program. -/
import Derived.Test.YtljcikhibikebaaSxCore
namespace Go.Sx
open Go Go.RowKit

structure Ctx where
  w0 : World
  rd0 : Rd
  fx : Nat → Prop

/-- What was there when the call began is as it was, but for what was handed over to be changed. -/
structure Fr (c : Ctx) (w : World) : Prop where
  os : w.os = c.w0.os
  tape : w.tape = c.w0.tape
  output : w.output = c.w0.output
  size : c.w0.heap.size ≤ w.heap.size
  block : ∀ k, k < c.w0.heap.size → ¬ c.fx k → w.heap[k]? = c.w0.heap[k]?

def home (mp : Mp) (id : Nat) : SO → Option Nat
  | .box .. => mp.blk id
  | .row .. => (mp.row id).bind (·.1.ownBlock)

def SOk (c : Ctx) (rd : Rd) (mp : Mp) (w : World) (id : Nat) : SO → Prop
  | .box ty cs => ∃ b vs, mp.blk id = some b ∧ w.heap[b]? = some (.cells vs ty (0, 0)) ∧ vs.size = cs.length ∧
      (∀ (j : Nat) x v, cs[j]? = some x → vs[j]? = some v → Rel rd mp x v) ∧ (∀ o, rd b o = none) ∧ (c.w0.heap.size ≤ b ∨ c.fx b)
  | .row e sz n f => ∃ v xs, mp.row id = some (v, n) ∧ w.ownsRow c.w0.heap.size e sz v n xs ∧ (∀ i, i < n → (f i).length = sz) ∧
      (∀ (i j : Nat) x, i < n → (f i)[j]? = some x → ∃ u, xs[i * sz + j]? = some u ∧ u.oneCell' = true ∧ Rel rd Mp.none x u) ∧ (∀ g, v.ownBlock = some g → ∀ o, rd g o = none)

structure Mem (c : Ctx) (rd : Rd) (mp : Mp) (st : List (Nat × SO)) (nx : Nat) (w : World) : Prop where
  rdw : ∀ g o v, rd g o = some v → w.cell? ⟨g, o, none⟩ = some v
  rd1 : ∀ g o v, rd g o = some v → v.oneCell' = true
  rdn : ∀ g o v, rd g o = some v → c.rd0 g o = some v ∨ c.w0.heap.size ≤ g
  fr : Fr c w
  so : ∀ id x, look st id = some x → SOk c rd mp w id x
  inj : ∀ i j x y g, look st i = some x → look st j = some y → home mp i x = some g → home mp j y = some g → i = j
  fresh : ∀ i, nx ≤ i → mp.blk i = none ∧ mp.row i = none
  ids : ∀ i x, look st i = some x → i < nx

theorem lt_of_block {w : World} {b : Nat} {o : Obj} (h : w.heap[b]? = some o) : b < w.heap.size := (Array.getElem?_eq_some_iff.1 h).1

theorem home_lt {c : Ctx} {rd : Rd} {mp : Mp} {w : World} {id : Nat} {x : SO} (h : SOk c rd mp w id x) {g : Nat} (hg : home mp id x = some g) : g < w.heap.size := by
  cases x with
  | box ty cs =>
    obtain ⟨b, vs, h1, h2, _⟩ := h
    simp only [home] at hg
    rw [h1] at hg
    cases hg
    exact lt_of_block h2
  | row e sz n f =>
    obtain ⟨v, xs, h1, h2, _⟩ := h
    simp only [home, h1, Option.bind_some] at hg
    exact (h2.lt g hg).2

/-- The home of a store's thing, no part of the memory that only reads. -/
theorem home_rd {c : Ctx} {rd : Rd} {mp : Mp} {w : World} {id : Nat} {x : SO} (h : SOk c rd mp w id x) {g : Nat} (hg : home mp id x = some g) (o : Nat) : rd g o = none := by
  cases x with
  | box ty cs =>
    obtain ⟨b, vs, h1, h2, h3, h4, h5, h6⟩ := h
    simp only [home] at hg
    rw [h1] at hg
    cases hg
    exact h5 o
  | row e sz n f =>
    obtain ⟨v, xs, h1, h2, h3, h4, h5⟩ := h
    simp only [home, h1, Option.bind_some] at hg
    exact h5 g hg o

/-- A thing of the store, in a world in which its home is as it was. -/
theorem SOk.keep {c : Ctx} {rd rd' : Rd} {mp mp' : Mp} {w w' : World} {id : Nat} {x : SO} (h : SOk c rd mp w id x) (hr : Rd.le rd rd') (hm : Mp.le mp mp')
    (hb : ∀ g, home mp id x = some g → w'.heap[g]? = w.heap[g]?) (hrow : mp'.row id = mp.row id) (hn : ∀ g, home mp id x = some g → ∀ o, rd' g o = none) : SOk c rd' mp' w' id x := by
  cases x with
  | box ty cs =>
    obtain ⟨b, vs, h1, h2, h3, h4, h5, h6⟩ := h
    exact ⟨b, vs, hm.blk _ _ h1, (hb b h1).trans h2, h3, fun j x v hx hv => (h4 j x v hx hv).mono hr hm, hn b h1, h6⟩
  | row e sz n f =>
    obtain ⟨v, xs, h1, h2, h3, h4, h5⟩ := h
    refine ⟨v, xs, hrow.trans h1, ⟨h2.1, ?_⟩, h3, fun i j x hi hx => ?_, fun g hg => hn g (by simp [home, h1, hg])⟩
    · rcases h2.2 with h2 | ⟨g, cap, cur, rfl, hg, hh, rest⟩
      · exact .inl h2
      · exact .inr ⟨g, cap, cur, rfl, hg, (hb g (by simp [home, h1, Value.ownBlock])).trans hh, rest⟩
    · obtain ⟨u, hu, h1', h2'⟩ := h4 i j x hi hx
      exact ⟨u, hu, h1', h2'.mono hr (Mp.le.refl _)⟩

theorem Fr.below {c : Ctx} {w w' : World} (h : Fr c w) (hb : Below w.heap.size w w') : Fr c w' :=
  ⟨hb.os.trans h.os, hb.tape.trans h.tape, hb.output.trans h.output, Nat.le_trans h.size hb.size, fun k hk hf => (hb.block k (Nat.lt_of_lt_of_le hk h.size)).trans (h.block k hk hf)⟩

/-- Nothing that was there has turned. -/
theorem Mem.below {c : Ctx} {rd : Rd} {mp : Mp} {st : List (Nat × SO)} {nx : Nat} {w w' : World} (h : Mem c rd mp st nx w) (hb : Below w.heap.size w w') : Mem c rd mp st nx w' where
  rdw := fun g o v hv => by
    have := h.rdw g o v hv
    exact (hb.cell (p := ⟨g, o, none⟩) (World.block_lt_of_cell? w _ this)).trans this
  rd1 := h.rd1
  rdn := h.rdn
  fr := h.fr.below hb
  so := fun id x hx => (h.so id x hx).keep (Rd.le.refl _) (Mp.le.refl _) (fun g hg => hb.block g (home_lt (h.so id x hx) hg)) rfl (fun g hg o => home_rd (h.so id x hx) hg o)
  inj := h.inj
  fresh := h.fresh
  ids := h.ids

def Rd.add (rd : Rd) (g : Nat) (vs : Array Value) : Rd := fun b o => if b = g then vs[o]? else rd b o

theorem Mem.rd_lt {c : Ctx} {rd : Rd} {mp : Mp} {st : List (Nat × SO)} {nx : Nat} {w : World} (h : Mem c rd mp st nx w) {g o : Nat} (hn : rd g o ≠ none) : g < w.heap.size := by
  cases hv : rd g o with
  | none => exact absurd hv hn
  | some v => exact World.block_lt_of_cell? w ⟨g, o, none⟩ (h.rdw g o v hv)

theorem Rd.le_add {c : Ctx} {rd : Rd} {mp : Mp} {st : List (Nat × SO)} {nx : Nat} {w : World} (h : Mem c rd mp st nx w) (vs : Array Value) : Rd.le rd (rd.add w.heap.size vs) := by
  intro g o v hv
  have := h.rd_lt (g := g) (o := o) (by rw [hv]; simp)
  simp only [Rd.add]
  rw [if_neg (by omega)]
  exact hv

/-- A new block that is never written. -/
theorem Mem.newRo {c : Ctx} {rd : Rd} {mp : Mp} {st : List (Nat × SO)} {nx : Nat} {w : World} (h : Mem c rd mp st nx w) (vs : Array Value) (ty : TypeId) (h1 : ∀ v ∈ vs, v.oneCell' = true) :
    Mem c (rd.add w.heap.size vs) mp st nx (w.alloc (.cells vs ty)) where
  rdw := fun g o v hv => by
    simp only [Rd.add] at hv
    by_cases hg : g = w.heap.size
    · subst hg
      rw [if_pos rfl] at hv
      rw [cell_of_row _ _ _ vs ty (0, 0) (heap_alloc_new w _)]
      exact hv
    · rw [if_neg hg] at hv
      have := h.rdw g o v hv
      exact (World.cell?_of_block (a := ⟨g, o, none⟩) (heap_alloc_old w _ (World.block_lt_of_cell? w _ this))).trans this
  rd1 := fun g o v hv => by
    simp only [Rd.add] at hv
    by_cases hg : g = w.heap.size
    · rw [if_pos hg] at hv; exact h1 v (Array.mem_of_getElem? hv)
    · rw [if_neg hg] at hv; exact h.rd1 g o v hv
  rdn := fun g o v hv => by
    simp only [Rd.add] at hv
    by_cases hg : g = w.heap.size
    · right; have := h.fr.size; omega
    · rw [if_neg hg] at hv; exact h.rdn g o v hv
  fr := h.fr.below ((Below.refl _ _).alloc (Nat.le_refl _) _)
  so := fun id x hx => (h.so id x hx).keep (Rd.le_add h vs) (Mp.le.refl _) (fun g hg => heap_alloc_old w _ (home_lt (h.so id x hx) hg)) rfl
    (fun g hg o => by
      have := home_lt (h.so id x hx) hg
      simp only [Rd.add]
      rw [if_neg (by omega)]
      exact home_rd (h.so id x hx) hg o)
  inj := h.inj
  fresh := h.fresh
  ids := h.ids

def Mp.addBlk (mp : Mp) (id g : Nat) : Mp := ⟨fun i => if i = id then some g else mp.blk i, mp.row⟩
def Mp.setRow (mp : Mp) (id : Nat) (v : Value) (n : Nat) : Mp := ⟨mp.blk, fun i => if i = id then some (v, n) else mp.row i⟩

theorem Mp.le_addBlk {mp : Mp} {id g : Nat} (h : mp.blk id = Option.none) : Mp.le mp (mp.addBlk id g) :=
  ⟨fun i g' hi => by
    simp only [Mp.addBlk]
    rw [if_neg (by rintro rfl; rw [h] at hi; cases hi)]
    exact hi, fun _ v n h => ⟨v, n, h, .inr ⟨rfl, rfl⟩⟩⟩

theorem Mp.le_setRow {mp : Mp} {id : Nat} {v : Value} {n : Nat} (h : ∀ v0 n0, mp.row id = some (v0, n0) → n0 < n ∨ (n0 = n ∧ v0 = v)) : Mp.le mp (mp.setRow id v n) :=
  ⟨fun _ _ h => h, fun r v0 n0 hr => by
    simp only [Mp.setRow]
    by_cases hid : r = id
    · subst hid
      exact ⟨v, n, by simp, h v0 n0 hr⟩
    · exact ⟨v0, n0, by simp [hid, hr], .inr ⟨rfl, rfl⟩⟩⟩

/-- A new box. -/
theorem Mem.newBox {c : Ctx} {rd : Rd} {mp : Mp} {st : List (Nat × SO)} {nx : Nat} {w : World} (h : Mem c rd mp st nx w) (vs : Array Value) (ty : TypeId) (cs : List AV)
    (hs : vs.size = cs.length) (hv : ∀ (j : Nat) x v, cs[j]? = some x → vs[j]? = some v → Rel rd mp x v) :
    Mem c rd (mp.addBlk nx w.heap.size) ((nx, .box ty cs) :: st) (nx + 1) (w.alloc (.cells vs ty)) := by
  have hle : Mp.le mp (mp.addBlk nx w.heap.size) := Mp.le_addBlk (h.fresh nx (Nat.le_refl _)).1
  have hb : Below w.heap.size w (w.alloc (.cells vs ty)) := (Below.refl _ _).alloc (Nat.le_refl _) _
  have h' := h.below hb
  have hhome : ∀ i x, look st i = some x → home (mp.addBlk nx w.heap.size) i x = home mp i x := by
    intro i x hx
    have := h.ids i x hx
    cases x with
    | box => simp [home, Mp.addBlk, Nat.ne_of_lt this]
    | row => rfl
  have hnew : ∀ o, rd w.heap.size o = none := by
    intro o
    cases hv : rd w.heap.size o with
    | none => rfl
    | some v => exact absurd (h.rd_lt (g := w.heap.size) (o := o) (by rw [hv]; simp)) (by omega)
  refine ⟨h'.rdw, h'.rd1, h'.rdn, h'.fr, ?_, ?_, ?_, ?_⟩
  · intro id x hx
    rw [look_cons] at hx
    by_cases hid : nx = id
    · subst hid
      rw [if_pos rfl] at hx
      cases hx
      exact ⟨w.heap.size, vs, by simp [Mp.addBlk], heap_alloc_new w _, hs, fun j x v hx hv' => (hv j x v hx hv').mono (Rd.le.refl _) hle, hnew, .inl h.fr.size⟩
    · rw [if_neg hid] at hx
      exact (h'.so id x hx).keep (Rd.le.refl _) hle (fun _ _ => rfl) rfl (fun g hg o => home_rd (h'.so id x hx) hg o)
  · intro i j x y g hi hj hgi hgj
    rw [look_cons] at hi hj
    by_cases h1 : nx = i
    · by_cases h2 : nx = j
      · omega
      · rw [if_neg h2] at hj
        rw [hhome j y hj] at hgj
        have := home_lt (h.so j y hj) hgj
        subst h1
        rw [if_pos rfl] at hi
        cases hi
        simp [home, Mp.addBlk] at hgi
        omega
    · rw [if_neg h1] at hi
      rw [hhome i x hi] at hgi
      by_cases h2 : nx = j
      · have := home_lt (h.so i x hi) hgi
        subst h2
        rw [if_pos rfl] at hj
        cases hj
        simp [home, Mp.addBlk] at hgj
        omega
      · rw [if_neg h2] at hj
        rw [hhome j y hj] at hgj
        exact h.inj i j x y g hi hj hgi hgj
  · intro i hi
    have := h.fresh i (by omega)
    simp only [Mp.addBlk]
    rw [if_neg (by omega)]
    exact this
  · intro i x hx
    rw [look_cons] at hx
    by_cases h1 : nx = i
    · omega
    · rw [if_neg h1] at hx
      have := h.ids i x hx
      omega

theorem look_setSt (st : List (Nat × SO)) (id : Nat) (o : SO) (i : Nat) : look (setSt st id o) i = if i = id then (look st i).map (fun _ => o) else look st i := by
  induction st with
  | nil => simp [setSt, look]
  | cons p r ih =>
    obtain ⟨k, v⟩ := p
    simp only [setSt]
    by_cases hk : k = id
    · subst hk
      simp only [Nat.beq_refl, cond_true, look_cons]
      by_cases hi : i = k
      · subst hi; simp
      · simp [hi, Ne.symm hi]
    · have hb : Nat.beq k id = false := by
        cases hb : Nat.beq k id with
        | false => rfl
        | true => exact absurd (Nat.eq_of_beq_eq_true hb) hk
      simp only [hb, cond_false, look_cons, ih]
      by_cases hi : i = id
      · subst hi; simp [hk]
      · simp [hi]

end Go.Sx
