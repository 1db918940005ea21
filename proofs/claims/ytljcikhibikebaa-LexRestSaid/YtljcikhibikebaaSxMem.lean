/- The store of the abstract state in the machine's memory: what each step of memory leaves. Nothing of a program. -/
import Derived.Test.YtljcikhibikebaaSxCore
namespace Go.Sx
open Go Go.RowKit

structure Ctx where
  w0 : World
  rd0 : Rd
  fx : Nat → Prop

/-- What was there when the call began is as it was, but for what was handed over to be changed. -/
structure Fr (c : Ctx) (w : World) : Prop where
  os : w.os = c.w0.os
  tape : w.tape = c.w0.tape
  output : w.output = c.w0.output
  size : c.w0.heap.size ≤ w.heap.size
  block : ∀ k, k < c.w0.heap.size → ¬ c.fx k → w.heap[k]? = c.w0.heap[k]?

/-- A place of the store: a box, a row of a family. -/
inductive Pl where
  | bx (b : Nat)
  | rw (r i : Nat)

def blkOf (mp : Mp) : Pl → Option Nat
  | .bx b => mp.blk b
  | .rw r i => (mp.row r i).bind (·.1.ownBlock)

inductive IsMem (st : List (Nat × SO)) : Nat → Nat → RowV → Prop
  | row {r : Nat} {ids : List Nat} {e : TypeId} {sz ep n : Nat} {f : Nat → List AV} (h : look st r = some (.row ids e sz ep n f)) : IsMem st r 0 ⟨ids, e, sz, ep, n, f⟩
  | fam {r : Nat} {e : TypeId} {sz cnt : Nat} {ep len : Nat → Nat} {f : Nat → Nat → List AV} {i : Nat} (h : look st r = some (.fam e sz cnt ep len f)) (hi : i < cnt) : IsMem st r i ⟨[], e, sz, ep i, len i, f i⟩

def There (st : List (Nat × SO)) : Pl → Prop
  | .bx b => ∃ ty cs, look st b = some (.box ty cs)
  | .rw r i => ∃ R, IsMem st r i R

/-- A slice of the call's own: its block, from a place on to the end, is its own. -/
def Owns (w : World) (e : TypeId) (sz : Nat) (v : Value) (n : Nat) (xs : List Value) : Prop :=
  xs.length = n * sz ∧ ((v = .slice none 0 0 ∧ n = 0) ∨
    ∃ g lo cap cur, v = .slice (some ⟨g, lo, none⟩) n cap ∧ w.heap[g]? = some (.cells cur e (0, 0)) ∧ n ≤ cap ∧ cap ≤ maxLen ∧ lo + cap * sz ≤ cur.size ∧ (cur.toList.drop lo).take (n * sz) = xs)

theorem lt_of_block {w : World} {b : Nat} {o : Obj} (h : w.heap[b]? = some o) : b < w.heap.size := (Array.getElem?_eq_some_iff.1 h).1

theorem Owns.lt {w : World} {e : TypeId} {sz : Nat} {v : Value} {n : Nat} {xs : List Value} (h : Owns w e sz v n xs) {g : Nat} (hg : v.ownBlock = some g) : g < w.heap.size := by
  rcases h.2 with ⟨rfl, _⟩ | ⟨g', lo, cap, cur, rfl, hh, _⟩
  · simp [Value.ownBlock] at hg
  · simp [Value.ownBlock] at hg; subst hg; exact lt_of_block hh

theorem Owns.keep {w w' : World} {e : TypeId} {sz : Nat} {v : Value} {n : Nat} {xs : List Value} (h : Owns w e sz v n xs) (hb : ∀ g, v.ownBlock = some g → w'.heap[g]? = w.heap[g]?) : Owns w' e sz v n xs := by
  refine ⟨h.1, ?_⟩
  rcases h.2 with h2 | ⟨g, lo, cap, cur, rfl, hh, rest⟩
  · exact .inl h2
  · exact .inr ⟨g, lo, cap, cur, rfl, (hb g rfl).trans hh, rest⟩

theorem Owns.cells {w : World} {e : TypeId} {sz : Nat} {n : Nat} {xs : List Value} {g lo cap : Nat} (h : Owns w e sz (.slice (some ⟨g, lo, none⟩) n cap) n xs) {j : Nat} {u : Value} (hu : xs[j]? = some u) : w.cell? ⟨g, lo + j, none⟩ = some u := by
  rcases h.2 with ⟨h2, _⟩ | ⟨g', lo', cap', cur, hv, hh, h1, h2, h3, h4⟩
  · cases h2
  · simp only [Value.slice.injEq, Option.some.injEq, Addr.mk.injEq, and_true, true_and] at hv
    obtain ⟨⟨rfl, rfl⟩, rfl⟩ := hv
    rw [cell_of_row w g (lo + j) cur e (0, 0) hh]
    rw [← h4, List.getElem?_take] at hu
    split at hu
    · rw [List.getElem?_drop] at hu
      simpa using hu
    · cases hu

theorem Owns.of_row {w : World} {base : Nat} {e : TypeId} {sz : Nat} {v : Value} {n : Nat} {xs : List Value} (h : w.ownsRow base e sz v n xs) : Owns w e sz v n xs := by
  refine ⟨h.1, ?_⟩
  rcases h.2 with h2 | ⟨g, cap, cur, rfl, _, hh, h1, h2, h3, h4⟩
  · exact .inl h2
  · exact .inr ⟨g, 0, cap, cur, rfl, hh, h1, h2, by omega, by simpa using h4⟩

def Mp.sel (mp : Mp) (ids : List Nat) : Mp := ⟨fun _ => Option.none, fun r i => if r ∈ ids then mp.row r i else Option.none⟩

theorem Mp.sel_le (mp : Mp) (ids : List Nat) : Mp.le (mp.sel ids) mp :=
  ⟨fun _ _ h => (by cases h), fun r i v e n h => by
    simp only [Mp.sel] at h
    split at h
    · exact ⟨v, e, n, h, .inr ⟨rfl, .inr ⟨rfl, rfl⟩⟩⟩
    · cases h⟩

theorem Mp.sel_mono {mp mp' : Mp} (h : Mp.le mp mp') (ids : List Nat) : Mp.le (mp.sel ids) (mp'.sel ids) :=
  ⟨fun _ _ h => (by cases h), fun r i v e n h0 => by
    simp only [Mp.sel] at h0 ⊢
    split at h0
    · rename_i hr
      rw [if_pos hr]
      exact h.row r i v e n h0
    · cases h0⟩

theorem Mp.none_le_sel (mp : Mp) (ids : List Nat) : Mp.le Mp.none (mp.sel ids) := Mp.none_le _

theorem Mp.sel_nil (mp : Mp) : mp.sel [] = Mp.none := by
  simp [Mp.sel, Mp.none]

def BoxOk (c : Ctx) (rd : Rd) (mp : Mp) (w : World) (b : Nat) (ty : TypeId) (cs : List AV) : Prop :=
  ∃ g vs, mp.blk b = some g ∧ w.heap[g]? = some (.cells vs ty (0, 0)) ∧ vs.size = cs.length ∧
      (∀ (j : Nat) x v, cs[j]? = some x → vs[j]? = some v → Rel rd mp x v) ∧ (∀ o, rd g o = none) ∧ (c.w0.heap.size ≤ g ∨ c.fx g)

def MOk (c : Ctx) (rd : Rd) (mp : Mp) (w : World) (r i : Nat) (R : RowV) : Prop :=
  ∃ v xs, mp.row r i = some (v, R.ep, R.n) ∧ Owns w R.e R.sz v R.n xs ∧ (∀ k, k < R.n → (R.f k).length = R.sz) ∧
      (∀ (k j : Nat) x, k < R.n → (R.f k)[j]? = some x → ∃ u, xs[k * R.sz + j]? = some u ∧ u.oneCell' = true ∧ Rel rd (mp.sel R.ids) x u) ∧
      (∀ g, v.ownBlock = some g → (∀ o, rd g o = none) ∧ (c.w0.heap.size ≤ g ∨ c.fx g))

structure Mem (c : Ctx) (rd : Rd) (mp : Mp) (st : List (Nat × SO)) (nx : Nat) (w : World) : Prop where
  rdw : ∀ g o v, rd g o = some v → w.cell? ⟨g, o, none⟩ = some v
  rd1 : ∀ g o v, rd g o = some v → v.oneCell' = true
  rdn : ∀ g o v, rd g o = some v → c.rd0 g o = some v ∨ c.w0.heap.size ≤ g
  fr : Fr c w
  bx : ∀ b ty cs, look st b = some (.box ty cs) → BoxOk c rd mp w b ty cs
  mb : ∀ r i R, IsMem st r i R → MOk c rd mp w r i R
  inj : ∀ p q g, There st p → There st q → blkOf mp p = some g → blkOf mp q = some g → p = q
  fresh : ∀ i, nx ≤ i → mp.blk i = none ∧ ∀ j, mp.row i j = none
  ids : ∀ i x, look st i = some x → i < nx
  out : ∀ r e sz cnt ep len f, look st r = some (.fam e sz cnt ep len f) → ∀ i, cnt ≤ i → mp.row r i = none

section
variable {c : Ctx} {rd rd' : Rd} {mp mp' : Mp} {st st' : List (Nat × SO)} {nx nx' : Nat} {w w' : World}

/-- The home of a place: there, no part of the memory that only reads, the call's own. -/
theorem Mem.home (h : Mem c rd mp st nx w) {p : Pl} (hp : There st p) {g : Nat} (hg : blkOf mp p = some g) : g < w.heap.size ∧ (∀ o, rd g o = none) ∧ (c.w0.heap.size ≤ g ∨ c.fx g) := by
  cases p with
  | bx b =>
    obtain ⟨ty, cs, hl⟩ := hp
    obtain ⟨g', vs, h1, h2, h3, h4, h5, h6⟩ := h.bx b ty cs hl
    simp only [blkOf] at hg
    rw [h1] at hg; cases hg
    exact ⟨lt_of_block h2, h5, h6⟩
  | rw r i =>
    obtain ⟨R, hR⟩ := hp
    obtain ⟨v, xs, h1, h2, h3, h4, h5⟩ := h.mb r i R hR
    simp only [blkOf, h1, Option.bind_some] at hg
    exact ⟨h2.lt hg, (h5 g hg).1, (h5 g hg).2⟩

theorem BoxOk.keep {b : Nat} {ty : TypeId} {cs : List AV} (h : BoxOk c rd mp w b ty cs) (hr : Rd.le rd rd') (hp : Mp.le mp mp')
    (hb : ∀ g, mp.blk b = some g → w'.heap[g]? = w.heap[g]? ∧ ∀ o, rd' g o = none) : BoxOk c rd' mp' w' b ty cs := by
  obtain ⟨g, vs, h1, h2, h3, h4, h5, h6⟩ := h
  exact ⟨g, vs, hp.blk _ _ h1, (hb g h1).1.trans h2, h3, fun j x v hx hv => (h4 j x v hx hv).mono hr hp, (hb g h1).2, h6⟩

theorem MOk.keep {r i : Nat} {R : RowV} (h : MOk c rd mp w r i R) (hr : Rd.le rd rd') (hp : Mp.le mp mp') (hbind : mp'.row r i = mp.row r i)
    (hb : ∀ g, blkOf mp (.rw r i) = some g → w'.heap[g]? = w.heap[g]? ∧ ∀ o, rd' g o = none) : MOk c rd' mp' w' r i R := by
  obtain ⟨v, xs, h1, h2, h3, h4, h5⟩ := h
  have hb' : ∀ g, v.ownBlock = some g → w'.heap[g]? = w.heap[g]? ∧ ∀ o, rd' g o = none := fun g hg => hb g (by simp [blkOf, h1, hg])
  refine ⟨v, xs, hbind.trans h1, h2.keep (fun g hg => (hb' g hg).1), h3, fun k j x hk hx => ?_, fun g hg => ⟨(hb' g hg).2, (h5 g hg).2⟩⟩
  obtain ⟨u, hu, h1', h2'⟩ := h4 k j x hk hx
  exact ⟨u, hu, h1', h2'.mono hr (Mp.sel_mono hp _)⟩

def bindEq (mp mp' : Mp) : Pl → Prop
  | .bx b => mp'.blk b = mp.blk b
  | .rw r i => mp'.row r i = mp.row r i

theorem bindEq.blk {p : Pl} (h : bindEq mp mp' p) : blkOf mp' p = blkOf mp p := by
  cases p with
  | bx b => exact h
  | rw r i => simp only [blkOf]; rw [show mp'.row r i = mp.row r i from h]

/-- One place is told anew (or none), all else is as it was. -/
theorem Mem.upd (h : Mem c rd mp st nx w) (t : Option Pl) (hr : Rd.le rd rd') (hp : Mp.le mp mp') (hfr : Fr c w')
    (rdw : ∀ g o v, rd' g o = some v → w'.cell? ⟨g, o, none⟩ = some v) (rd1 : ∀ g o v, rd' g o = some v → v.oneCell' = true) (rdn : ∀ g o v, rd' g o = some v → c.rd0 g o = some v ∨ c.w0.heap.size ≤ g)
    (hb : ∀ b ty cs, look st' b = some (.box ty cs) → some (Pl.bx b) ≠ t → look st b = some (.box ty cs))
    (hm : ∀ r i R, IsMem st' r i R → some (Pl.rw r i) ≠ t → IsMem st r i R)
    (keep : ∀ p, There st p → some p ≠ t → bindEq mp mp' p ∧ ∀ g, blkOf mp p = some g → w'.heap[g]? = w.heap[g]? ∧ ∀ o, rd' g o = none)
    (tb : ∀ b ty cs, t = some (.bx b) → look st' b = some (.box ty cs) → BoxOk c rd' mp' w' b ty cs)
    (tm : ∀ r i R, t = some (.rw r i) → IsMem st' r i R → MOk c rd' mp' w' r i R)
    (tsep : ∀ p g, t = some p → There st' p → blkOf mp' p = some g → ∀ q, There st q → some q ≠ t → blkOf mp q ≠ some g)
    (fresh : ∀ i, nx' ≤ i → mp'.blk i = none ∧ ∀ j, mp'.row i j = none) (ids : ∀ i x, look st' i = some x → i < nx')
    (out : ∀ r e sz cnt ep len f, look st' r = some (.fam e sz cnt ep len f) → ∀ i, cnt ≤ i → mp'.row r i = none) :
    Mem c rd' mp' st' nx' w' := by
  have old : ∀ p, There st' p → some p ≠ t → There st p := by
    intro p hp' hne
    cases p with
    | bx b => obtain ⟨ty, cs, hl⟩ := hp'; exact ⟨ty, cs, hb b ty cs hl hne⟩
    | rw r i => obtain ⟨R, hR⟩ := hp'; exact ⟨R, hm r i R hR hne⟩
  refine ⟨rdw, rd1, rdn, hfr, fun b ty cs hl => ?_, fun r i R hR => ?_, fun p q g hp' hq' hgp hgq => ?_, fresh, ids, out⟩
  · by_cases he : some (Pl.bx b) = t
    · exact tb b ty cs he.symm hl
    · have hl' := hb b ty cs hl he
      exact (h.bx b ty cs hl').keep hr hp (fun g hg => (keep (.bx b) ⟨ty, cs, hl'⟩ he).2 g hg)
  · by_cases he : some (Pl.rw r i) = t
    · exact tm r i R he.symm hR
    · have hR' := hm r i R hR he
      exact (h.mb r i R hR').keep hr hp (keep (.rw r i) ⟨R, hR'⟩ he).1 (keep (.rw r i) ⟨R, hR'⟩ he).2
  · by_cases he : some p = t
    · by_cases he' : some q = t
      · have := he.trans he'.symm; cases this; rfl
      · have hq := old q hq' he'
        have := (keep q hq he').1.blk
        rw [this] at hgq
        exact absurd hgq (tsep p g he.symm hp' hgp q hq he')
    · have hpo := old p hp' he
      have h1 := (keep p hpo he).1.blk
      by_cases he' : some q = t
      · rw [h1] at hgp
        exact absurd hgp (tsep q g he'.symm hq' hgq p hpo he)
      · have hq := old q hq' he'
        have h2 := (keep q hq he').1.blk
        rw [h1] at hgp
        rw [h2] at hgq
        exact h.inj p q g hpo hq hgp hgq

theorem Fr.below (h : Fr c w) (hb : Below w.heap.size w w') : Fr c w' :=
  ⟨hb.os.trans h.os, hb.tape.trans h.tape, hb.output.trans h.output, Nat.le_trans h.size hb.size, fun k hk hf => (hb.block k (Nat.lt_of_lt_of_le hk h.size)).trans (h.block k hk hf)⟩

theorem Mem.rd_lt (h : Mem c rd mp st nx w) {g o : Nat} (hn : rd g o ≠ none) : g < w.heap.size := by
  cases hv : rd g o with
  | none => exact absurd hv hn
  | some v => exact World.block_lt_of_cell? w ⟨g, o, none⟩ (h.rdw g o v hv)

/-- More is read-only, in blocks that were not there; what was there is as it was. -/
theorem Mem.more (h : Mem c rd mp st nx w) (hb : Below w.heap.size w w') (hr : Rd.le rd rd') (h1 : ∀ g o v, rd' g o = some v → w'.cell? ⟨g, o, none⟩ = some v) (h2 : ∀ g o v, rd' g o = some v → v.oneCell' = true)
    (hn : ∀ g o v, rd' g o = some v → rd g o = some v ∨ w.heap.size ≤ g) : Mem c rd' mp st nx w' := by
  refine h.upd none hr (Mp.le.refl _) (h.fr.below hb) h1 h2 (fun g o v hv => ?_) (fun b ty cs hl _ => hl) (fun r i R hR _ => hR) (fun p hp _ => ⟨by cases p <;> rfl, fun g hg => ?_⟩)
    (fun b ty cs ht => by cases ht) (fun r i R ht => by cases ht) (fun p g ht => by cases ht) h.fresh h.ids h.out
  · rcases hn g o v hv with hv | hv
    · exact h.rdn g o v hv
    · exact .inr (Nat.le_trans h.fr.size hv)
  · obtain ⟨h1', h2', _⟩ := h.home hp hg
    refine ⟨hb.block g h1', fun o => ?_⟩
    cases hv : rd' g o with
    | none => rfl
    | some v =>
      rcases hn g o v hv with hv | hv
      · rw [h2' o] at hv; cases hv
      · omega

/-- Nothing that was there has turned. -/
theorem Mem.below (h : Mem c rd mp st nx w) (hb : Below w.heap.size w w') : Mem c rd mp st nx w' :=
  h.more hb (Rd.le.refl _) (fun g o v hv => (hb.cell (p := ⟨g, o, none⟩) (World.block_lt_of_cell? w _ (h.rdw g o v hv))).trans (h.rdw g o v hv)) h.rd1 (fun _ _ _ hv => .inl hv)

def Rd.add (rd : Rd) (g : Nat) (vs : Array Value) : Rd := fun b o => if b = g then vs[o]? else rd b o

theorem Rd.le_add (h : Mem c rd mp st nx w) (vs : Array Value) : Rd.le rd (rd.add w.heap.size vs) := by
  intro g o v hv
  have := h.rd_lt (g := g) (o := o) (by rw [hv]; simp)
  simp only [Rd.add]
  rw [if_neg (by omega)]
  exact hv

/-- A new block that is never written. -/
theorem Mem.newRo (h : Mem c rd mp st nx w) (vs : Array Value) (ty : TypeId) (h1 : ∀ v ∈ vs, v.oneCell' = true) :
    Mem c (rd.add w.heap.size vs) mp st nx (w.alloc (.cells vs ty)) := by
  refine h.more ((Below.refl _ _).alloc (Nat.le_refl _) _) (Rd.le_add h vs) (fun g o v hv => ?_) (fun g o v hv => ?_) (fun g o v hv => ?_)
  · simp only [Rd.add] at hv
    by_cases hg : g = w.heap.size
    · subst hg
      rw [if_pos rfl] at hv
      rw [cell_of_row _ _ _ vs ty (0, 0) (heap_alloc_new w _)]
      exact hv
    · rw [if_neg hg] at hv
      have := h.rdw g o v hv
      exact (World.cell?_of_block (a := ⟨g, o, none⟩) (heap_alloc_old w _ (World.block_lt_of_cell? w _ this))).trans this
  · simp only [Rd.add] at hv
    by_cases hg : g = w.heap.size
    · rw [if_pos hg] at hv; exact h1 v (Array.mem_of_getElem? hv)
    · rw [if_neg hg] at hv; exact h.rd1 g o v hv
  · simp only [Rd.add] at hv
    by_cases hg : g = w.heap.size
    · exact .inr (by omega)
    · rw [if_neg hg] at hv; exact .inl hv

def Mp.addBlk (mp : Mp) (id g : Nat) : Mp := ⟨fun i => if i = id then some g else mp.blk i, mp.row⟩
def Mp.setRow (mp : Mp) (r i : Nat) (v : Value) (e n : Nat) : Mp := ⟨mp.blk, fun r' i' => if r' = r ∧ i' = i then some (v, e, n) else mp.row r' i'⟩

theorem Mp.le_addBlk {id g : Nat} (h : mp.blk id = Option.none) : Mp.le mp (mp.addBlk id g) :=
  ⟨fun i g' hi => by
    simp only [Mp.addBlk]
    rw [if_neg (by rintro rfl; rw [h] at hi; cases hi)]
    exact hi, fun _ _ v e n h => ⟨v, e, n, h, .inr ⟨rfl, .inr ⟨rfl, rfl⟩⟩⟩⟩

theorem Mp.le_setRow {r i : Nat} {v : Value} {e n : Nat} (h : ∀ v0 e0 n0, mp.row r i = some (v0, e0, n0) → e0 < e ∨ (e0 = e ∧ (n0 < n ∨ (n0 = n ∧ v0 = v)))) : Mp.le mp (mp.setRow r i v e n) :=
  ⟨fun _ _ h => h, fun r' i' v0 e0 n0 hr => by
    simp only [Mp.setRow]
    by_cases hid : r' = r ∧ i' = i
    · obtain ⟨rfl, rfl⟩ := hid
      exact ⟨v, e, n, by simp, h v0 e0 n0 hr⟩
    · exact ⟨v0, e0, n0, by rw [if_neg hid]; exact hr, .inr ⟨rfl, .inr ⟨rfl, rfl⟩⟩⟩⟩

theorem isMem_cons {k : Nat} {x : SO} {r i : Nat} {R : RowV} (h : IsMem ((k, x) :: st) r i R) (hk : k ≠ r) : IsMem st r i R := by
  cases h with
  | row h => rw [look_cons, if_neg hk] at h; exact .row h
  | fam h hi => rw [look_cons, if_neg hk] at h; exact .fam h hi

theorem isMem_lt (h : Mem c rd mp st nx w) {r i : Nat} {R : RowV} (hR : IsMem st r i R) : r < nx := by
  cases hR with
  | row hl => exact h.ids _ _ hl
  | fam hl _ => exact h.ids _ _ hl

theorem There.lt (h : Mem c rd mp st nx w) {p : Pl} (hp : There st p) : (match p with | .bx b => b | .rw r _ => r) < nx := by
  cases p with
  | bx b => obtain ⟨ty, cs, hl⟩ := hp; exact h.ids _ _ hl
  | rw r i => obtain ⟨R, hR⟩ := hp; exact isMem_lt h hR

/-- A new box. -/
theorem Mem.newBox (h : Mem c rd mp st nx w) (vs : Array Value) (ty : TypeId) (cs : List AV)
    (hs : vs.size = cs.length) (hv : ∀ (j : Nat) x v, cs[j]? = some x → vs[j]? = some v → Rel rd mp x v) :
    Mem c rd (mp.addBlk nx w.heap.size) ((nx, .box ty cs) :: st) (nx + 1) (w.alloc (.cells vs ty)) := by
  have hle : Mp.le mp (mp.addBlk nx w.heap.size) := Mp.le_addBlk (h.fresh nx (Nat.le_refl _)).1
  have hb : Below w.heap.size w (w.alloc (.cells vs ty)) := (Below.refl _ _).alloc (Nat.le_refl _) _
  have h' := h.below hb
  have hnew : ∀ o, rd w.heap.size o = none := by
    intro o
    cases hv : rd w.heap.size o with
    | none => rfl
    | some v => exact absurd (h.rd_lt (g := w.heap.size) (o := o) (by rw [hv]; simp)) (by omega)
  refine h.upd (some (.bx nx)) (Rd.le.refl _) hle h'.fr h'.rdw h'.rd1 h'.rdn (fun b ty' cs' hl hne => ?_) (fun r i R hR _ => ?_) (fun p hp hne => ⟨?_, fun g hg => ?_⟩) (fun b ty' cs' ht hl => ?_) (fun r i R ht => by cases ht)
    (fun p g ht _ hg q hq hne => ?_) (fun i hi => ?_) (fun i x hx => ?_) (fun r e sz cnt ep len f hl => ?_)
  · rw [look_cons, if_neg (by rintro rfl; exact hne rfl)] at hl
    exact hl
  · by_cases hk : nx = r
    · subst hk
      cases hR with
      | row hl => rw [look_cons, if_pos rfl] at hl; cases hl
      | fam hl _ => rw [look_cons, if_pos rfl] at hl; cases hl
    · exact isMem_cons hR hk
  · cases p with
    | bx b =>
      have : b ≠ nx := by rintro rfl; exact hne rfl
      simp [bindEq, Mp.addBlk, this]
    | rw r i => rfl
  · obtain ⟨h1, h2, _⟩ := h.home hp hg
    exact ⟨hb.block g h1, h2⟩
  · cases ht
    rw [look_cons, if_pos rfl] at hl
    cases hl
    exact ⟨w.heap.size, vs, by simp [Mp.addBlk], heap_alloc_new w _, hs, fun j x v hx hv' => (hv j x v hx hv').mono (Rd.le.refl _) hle, hnew, .inl h.fr.size⟩
  · cases ht
    simp [blkOf, Mp.addBlk] at hg
    subst hg
    intro hq'
    have := (h.home hq hq').1
    omega
  · have := h.fresh i (by omega)
    simp only [Mp.addBlk]
    rw [if_neg (by omega)]
    exact this
  · rw [look_cons] at hx
    by_cases h1 : nx = i
    · omega
    · rw [if_neg h1] at hx
      have := h.ids i x hx
      omega
  · rw [look_cons] at hl
    by_cases h1 : nx = r
    · rw [if_pos h1] at hl; cases hl
    · rw [if_neg h1] at hl
      exact h.out r e sz cnt ep len f hl

theorem look_setSt (st : List (Nat × SO)) (id : Nat) (o : SO) (i : Nat) : look (setSt st id o) i = if i = id then (look st i).map (fun _ => o) else look st i := by
  induction st with
  | nil => simp [setSt, look]
  | cons p r ih =>
    obtain ⟨k, v⟩ := p
    simp only [setSt]
    by_cases hk : k = id
    · subst hk
      simp only [Nat.beq_refl, cond_true, look_cons]
      by_cases hi : i = k
      · subst hi; simp
      · simp [hi, Ne.symm hi]
    · have hb : Nat.beq k id = false := by
        cases hb : Nat.beq k id with
        | false => rfl
        | true => exact absurd (Nat.eq_of_beq_eq_true hb) hk
      simp only [hb, cond_false, look_cons, ih]
      by_cases hi : i = id
      · subst hi; simp [hk]
      · simp [hi]

end

end Go.Sx
