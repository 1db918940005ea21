/- Some texts of the library, one behind the other. -/
import Derived.WalkKit
import Derived.Lib.ItoaNum
import Derived.Maps.AppendAt
import Derived.Laws.IdiomStrings
set_option linter.unusedSimpArgs false
set_option linter.unusedVariables false
section
/- A small logic of pure data over the machine: abstract values, how they stand for the machine's values, and the relation's frame laws. Nothing of a program. -/
namespace Go.Sx
open Go Go.RowKit

/-- What is known of a value: numbers, texts, read-only slices as functions, own rows and boxes by a name. -/
inductive AV where
  | any
  | int (k : IntKind) (n : Int)
  | bool (b : Bool)
  | str (s : List UInt8)
  | nils
  | slc (sz n : Nat) (f : Nat → List AV)
  | own (r i e n : Nat)
  | ptr (b off : Nat)
  | eptr (r i e n sz k off : Nat)
  | mapv (b : Nat)
  | ifc (t : TypeId) (v : AV)
  | nili
  | rptr (cs : List AV)
  | nilp
  | agg (cs : List AV)
  | tup (vs : List AV)
  | fn (f : FuncId) (cap : List AV)
  | cnd (b : Bool) (v : AV)

/-- The memory that is never written again. -/
abbrev Rd := Nat → Nat → Option Value

/-- Where the own boxes lie, and what slice an own row is just now: its value, how often it was cut anew, its length. -/
structure Mp where
  blk : Nat → Option Nat
  row : Nat → Nat → Option (Value × Nat × Nat)

def Mp.none : Mp := ⟨fun _ => Option.none, fun _ _ => Option.none⟩

def isSl : Value → Bool
  | .slice .. => true
  | _ => false

inductive Rel (rd : Rd) : Mp → AV → Value → Prop
  | any (mp v) : Rel rd mp .any v
  | int (mp k n) : Rel rd mp (.int k n) (.int k n)
  | bool (mp b) : Rel rd mp (.bool b) (.bool b)
  | str (mp l) : Rel rd mp (.str l) (.string ⟨l.toArray⟩)
  | nils (mp) : Rel rd mp .nils (.slice Option.none 0 0)
  | slc0 (mp sz f a cap) : Rel rd mp (.slc sz 0 f) (.slice a 0 cap)
  | slc (mp sz n f blk off cap) (val : Nat → Nat → Value) (h0 : 0 < n) (hc : n ≤ cap) (hs : ∀ i, i < n → (f i).length = sz)
      (hr : ∀ i j, i < n → j < sz → rd blk (off + (i * sz + j)) = some (val i j))
      (he : ∀ (i j : Nat) x, i < n → (f i)[j]? = some x → Rel rd Mp.none x (val i j)) :
      Rel rd mp (.slc sz n f) (.slice (some ⟨blk, off, Option.none⟩) n cap)
  | own (mp r i e n v vr er nr) (hr : mp.row r i = some (vr, er, nr)) (he : e ≤ er) (hn : e = er → n ≤ nr) (hv : e = er → n = nr → v = vr) (hs : isSl v = true) : Rel rd mp (.own r i e n) v
  | ptr (mp b off blk) (hb : mp.blk b = some blk) : Rel rd mp (.ptr b off) (.pointer (some ⟨blk, off, Option.none⟩))
  | eptr (mp r i e n sz k off v vr er nr) (hr : mp.row r i = some (vr, er, nr)) (he : e ≤ er) (hn : e = er → n ≤ nr)
      (hv : e = er → n = nr → ∃ g lo cap, vr = .slice (some ⟨g, lo, Option.none⟩) n cap ∧ v = .pointer (some ⟨g, lo + (k * sz + off), Option.none⟩)) : Rel rd mp (.eptr r i e n sz k off) v
  | mapv (mp b g) (hb : mp.blk b = some g) : Rel rd mp (.mapv b) (.map (some g))
  | ifc (mp t x v) (h : Rel rd mp x v) : Rel rd mp (.ifc t x) (.iface t v)
  | nili (mp) : Rel rd mp .nili .nilIface
  | rptr (mp cs blk off) (val : Nat → Value) (hr : ∀ (j : Nat) x, cs[j]? = some x → rd blk (off + j) = some (val j))
      (he : ∀ (j : Nat) x, cs[j]? = some x → Rel rd Mp.none x (val j)) : Rel rd mp (.rptr cs) (.pointer (some ⟨blk, off, Option.none⟩))
  | nilp (mp) : Rel rd mp .nilp (.pointer Option.none)
  | agg (mp cs) (vs : Array Value) (hs : vs.size = cs.length) (he : ∀ (j : Nat) x v, cs[j]? = some x → vs[j]? = some v → Rel rd mp x v) : Rel rd mp (.agg cs) (.agg vs)
  | tup (mp cs) (vs : Array Value) (hs : vs.size = cs.length) (he : ∀ (j : Nat) x v, cs[j]? = some x → vs[j]? = some v → Rel rd mp x v) : Rel rd mp (.tup cs) (.tuple vs)
  | fn (mp f cs) (vs : Array Value) (hs : vs.size = cs.length) (he : ∀ (j : Nat) x v, cs[j]? = some x → vs[j]? = some v → Rel rd mp x v) : Rel rd mp (.fn f cs) (.func (.func f) #[] vs)
  | cnd (mp b av v) (h : b = true → Rel rd mp av v) (h0 : b = false → v = undef) : Rel rd mp (.cnd b av) v

/-- More memory is known not to be written again. -/
def Rd.le (a b : Rd) : Prop := ∀ g o v, a g o = some v → b g o = some v

structure Mp.le (a b : Mp) : Prop where
  blk : ∀ i g, a.blk i = some g → b.blk i = some g
  row : ∀ r i v e n, a.row r i = some (v, e, n) → ∃ v' e' n', b.row r i = some (v', e', n') ∧ (e < e' ∨ (e = e' ∧ (n < n' ∨ (n = n' ∧ v = v'))))

theorem Rd.le.refl (a : Rd) : Rd.le a a := fun _ _ _ h => h
theorem Rd.le.trans {a b c : Rd} (h : Rd.le a b) (k : Rd.le b c) : Rd.le a c := fun g o v e => k g o v (h g o v e)
theorem Mp.le.refl (a : Mp) : Mp.le a a := ⟨fun _ _ h => h, fun _ _ v e n h => ⟨v, e, n, h, .inr ⟨rfl, .inr ⟨rfl, rfl⟩⟩⟩⟩
theorem Mp.le.trans {a b c : Mp} (h : Mp.le a b) (k : Mp.le b c) : Mp.le a c :=
  ⟨fun i g e => k.blk i g (h.blk i g e), fun r i v e n h0 => by
    obtain ⟨v', e', n', h1, h'⟩ := h.row r i v e n h0
    obtain ⟨v'', e'', n'', h2, h''⟩ := k.row r i v' e' n' h1
    refine ⟨v'', e'', n'', h2, ?_⟩
    rcases h' with h' | ⟨rfl, h'⟩
    · left; rcases h'' with h'' | ⟨rfl, _⟩ <;> omega
    · rcases h'' with h'' | ⟨rfl, h''⟩
      · left; omega
      · right
        refine ⟨rfl, ?_⟩
        rcases h' with h' | ⟨rfl, rfl⟩
        · left; rcases h'' with h'' | ⟨rfl, _⟩ <;> omega
        · exact h''⟩
theorem Mp.none_le (a : Mp) : Mp.le Mp.none a := ⟨fun _ _ h => (by cases h), fun _ _ _ _ _ h => (by cases h)⟩

theorem Rel.mono {rd rd' : Rd} (h1 : Rd.le rd rd') {mp : Mp} {x : AV} {v : Value} (h : Rel rd mp x v) : ∀ {mp' : Mp}, Mp.le mp mp' → Rel rd' mp' x v := by
  induction h with
  | any => exact fun _ => .any _ _
  | int => exact fun _ => .int _ _ _
  | bool => exact fun _ => .bool _ _
  | str => exact fun _ => .str _ _
  | nils => exact fun _ => .nils _
  | slc0 => exact fun _ => .slc0 _ _ _ _ _
  | slc mp sz n f blk off cap val h0 hc hs hr he ih => exact fun _ => .slc _ _ _ _ _ _ _ val h0 hc hs (fun i j hi hj => h1 _ _ _ (hr i j hi hj)) (fun i j x hi hx => ih i j x hi hx (Mp.le.refl _))
  | own mp r i e n v vr er nr hr he hn hv hsl =>
    intro mp' hm
    obtain ⟨v', e', n', h1, h⟩ := hm.row _ _ _ _ _ hr
    refine .own _ _ _ _ _ _ v' e' n' h1 (by rcases h with h | ⟨rfl, _⟩ <;> omega) (fun hh => ?_) (fun hh hk => ?_) hsl
    · rcases h with h | ⟨rfl, h⟩
      · omega
      · have := hn hh; rcases h with h | ⟨rfl, _⟩ <;> omega
    · rcases h with h | ⟨rfl, h⟩
      · omega
      · have := hn hh
        rcases h with h | ⟨rfl, rfl⟩
        · omega
        · exact hv hh hk
  | ptr mp b off blk hb => exact fun hm => .ptr _ _ _ _ (hm.blk _ _ hb)
  | eptr mp r i e n sz k off v vr er nr hr he hn hv =>
    intro mp' hm
    obtain ⟨v', e', n', h1, h⟩ := hm.row _ _ _ _ _ hr
    refine .eptr _ _ _ _ _ _ _ _ _ v' e' n' h1 (by rcases h with h | ⟨rfl, _⟩ <;> omega) (fun hh => ?_) (fun hh hk => ?_)
    · rcases h with h | ⟨rfl, h⟩
      · omega
      · have := hn hh; rcases h with h | ⟨rfl, _⟩ <;> omega
    · rcases h with h | ⟨rfl, h⟩
      · omega
      · have := hn hh
        rcases h with h | ⟨rfl, rfl⟩
        · omega
        · exact hv hh hk
  | mapv mp b g hb => exact fun hm => .mapv _ _ _ (hm.blk _ _ hb)
  | ifc mp t x v h ih => exact fun hm => .ifc _ _ _ _ (ih hm)
  | nili => exact fun _ => .nili _
  | rptr mp cs blk off val hr he ih => exact fun _ => .rptr _ _ _ _ val (fun j x hx => h1 _ _ _ (hr j x hx)) (fun j x hx => ih j x hx (Mp.le.refl _))
  | nilp => exact fun _ => .nilp _
  | agg mp cs vs hs he ih => exact fun hm => .agg _ _ _ hs (fun j x v hx hv => ih j x v hx hv hm)
  | tup mp cs vs hs he ih => exact fun hm => .tup _ _ _ hs (fun j x v hx hv => ih j x v hx hv hm)
  | fn mp f cs vs hs he ih => exact fun hm => .fn _ _ _ _ hs (fun j x v hx hv => ih j x v hx hv hm)
  | cnd mp b av v h h0 ih => exact fun hm => .cnd _ _ _ _ (fun hb => ih hb hm) h0

/-- A value of one cell that names no box and no row, and is no function. -/
def AV.pure0 : AV → Bool
  | .own .. | .ptr .. | .eptr .. | .mapv .. | .ifc .. | .agg .. | .tup .. | .fn .. | .cnd .. => false
  | _ => true

/-- A value of one cell that names no box and no row. -/
def AV.pure1 : AV → Bool
  | .fn _ cs => cs.all AV.pure0
  | x => x.pure0

def AV.pureA : AV → Bool
  | .agg cs => cs.all AV.pure1
  | x => x.pure1

def AV.pure : AV → Bool
  | .tup vs => vs.all AV.pureA
  | x => x.pureA

theorem Rel.pure0 {rd : Rd} {mp mp' : Mp} {x : AV} {v : Value} (h : Rel rd mp x v) (hp : x.pure0 = true) : Rel rd mp' x v := by
  cases h <;> first
    | (simp [AV.pure0] at hp; done)
    | (constructor <;> assumption)
    | constructor

theorem Rel.pure1 {rd : Rd} {mp mp' : Mp} {x : AV} {v : Value} (h : Rel rd mp x v) (hp : x.pure1 = true) : Rel rd mp' x v := by
  have h' := h
  cases h with
  | fn _ f cs vs hs he =>
    refine .fn _ _ _ _ hs (fun j x v hx hv => (he j x v hx hv).pure0 ?_)
    simp only [AV.pure1, List.all_eq_true] at hp
    exact hp x (List.mem_of_getElem? hx)
  | _ => exact h'.pure0 hp

theorem Rel.pureA {rd : Rd} {mp mp' : Mp} {x : AV} {v : Value} (h : Rel rd mp x v) (hp : x.pureA = true) : Rel rd mp' x v := by
  have h' := h
  cases h with
  | agg _ cs vs hs he =>
    refine .agg _ _ _ hs (fun j x v hx hv => (he j x v hx hv).pure1 ?_)
    simp only [AV.pureA, List.all_eq_true] at hp
    exact hp x (List.mem_of_getElem? hx)
  | _ => exact h'.pure1 hp

theorem Rel.pure {rd : Rd} {mp mp' : Mp} {x : AV} {v : Value} (h : Rel rd mp x v) (hp : x.pure = true) : Rel rd mp' x v := by
  have h' := h
  cases h with
  | tup _ cs vs hs he =>
    refine .tup _ _ _ hs (fun j x v hx hv => (he j x v hx hv).pureA ?_)
    simp only [AV.pure, List.all_eq_true] at hp
    exact hp x (List.mem_of_getElem? hx)
  | _ => exact h'.pureA hp

/-- What lies in a box, in a row of the call's own (whose cells may name rows of 'ids'), in a family of rows, in a row that is read-only by now. -/
inductive SO where
  | box (ty : TypeId) (cs : List AV)
  | row (ids : List Nat) (e : TypeId) (sz ep n : Nat) (f : Nat → List AV)
  | fam (e : TypeId) (sz cnt : Nat) (ep len : Nat → Nat) (f : Nat → Nat → List AV)
  | ro (sz ep n : Nat) (f : Nat → List AV)

/-- A row: of what, how often cut anew, how long, its cells. -/
structure RowV where
  ids : List Nat
  e : TypeId
  sz : Nat
  ep : Nat
  n : Nat
  f : Nat → List AV

/-- The abstract state: the slots that matter, the store, the next name. -/
structure ASt where
  sl : List (Nat × AV)
  st : List (Nat × SO)
  nx : Nat

def look {α : Type} : List (Nat × α) → Nat → Option α
  | [], _ => none
  | (k, v) :: r, t => bif Nat.beq k t then some v else look r t

def ASt.get (s : ASt) (t : Nat) : AV := (look s.sl t).getD .any
def ASt.put (s : ASt) (d : Option Nat) (v : AV) : ASt :=
  match d with
  | some d => { s with sl := (d, v) :: s.sl }
  | none => s
def setSt : List (Nat × SO) → Nat → SO → List (Nat × SO)
  | [], _, _ => []
  | (k, v) :: r, t, o => bif Nat.beq k t then (k, o) :: r else (k, v) :: setSt r t o

theorem look_cons {α : Type} (k : Nat) (v : α) (r : List (Nat × α)) (t : Nat) : look ((k, v) :: r) t = if k = t then some v else look r t := by
  simp only [look]
  by_cases h : k = t
  · subst h; simp
  · have : Nat.beq k t = false := by cases hb : Nat.beq k t with
      | false => rfl
      | true => exact absurd (Nat.eq_of_beq_eq_true hb) h
    simp [h, this]

end Go.Sx
end
section
/- The tables that the program's package variables hold. -/
namespace Go.Sx
open Go Go.RowKit

/-- The laid tables that are read: the variable's block, its cells. -/
def tbs : List (Nat × Array Value) := [(0, (Lib.pow10Tab.map fun z => Value.int .u64 z).toArray)]

/-- The tables are there, and only read. -/
def TabR (rd : Rd) (w : World) : Prop := ∀ t ∈ tbs, rd t.1 0 ≠ none ∧ ∃ ty fz, w.heap[t.1]? = some (.cells t.2 ty fz)

theorem TabR.step {rd rd' : Rd} {w w' : World} (h : TabR rd w) (hr : Rd.le rd rd') (hb : ∀ g, rd g 0 ≠ none → w'.heap[g]? = w.heap[g]?) : TabR rd' w' := fun t ht => by
  obtain ⟨h1, ty, fz, h2⟩ := h t ht
  refine ⟨?_, ty, fz, (hb _ h1).trans h2⟩
  cases hv : rd t.1 0 with
  | none => exact absurd hv h1
  | some v => rw [hr _ _ _ hv]; simp

end Go.Sx
end
section
/- The store of the abstract state in the machine's memory: what each step of memory leaves. Nothing of a program. -/
namespace Go.Sx
open Go Go.RowKit

/-- Which names are free, by the next one: as a rule all from it on. -/
def stdF : Nat → Nat → Prop := fun nx i => nx ≤ i

structure Ctx where
  w0 : World
  rd0 : Rd
  fx : Nat → Prop
  fre : Nat → Nat → Prop

/-- A name may be taken. -/
structure Sup (c : Ctx) (nx : Nat) : Prop where
  here : c.fre nx nx
  next : ∀ i, c.fre (nx + 1) i → c.fre nx i ∧ i ≠ nx

theorem Sup.std {c : Ctx} (h : c.fre = stdF) (nx : Nat) : Sup c nx := ⟨by rw [h]; exact Nat.le_refl _, fun i hi => by rw [h] at hi ⊢; simp only [stdF] at hi ⊢; omega⟩

/-- What was there when the call began is as it was, but for what was handed over to be changed. -/
structure Fr (c : Ctx) (w : World) : Prop where
  os : w.os = c.w0.os
  tape : w.tape = c.w0.tape
  output : w.output = c.w0.output
  size : c.w0.heap.size ≤ w.heap.size
  block : ∀ k, k < c.w0.heap.size → ¬ c.fx k → w.heap[k]? = c.w0.heap[k]?

/-- A place of the store: a box, a row of a family. -/
inductive Pl where
  | bx (b : Nat)
  | rw (r i : Nat)

def blkOf (mp : Mp) : Pl → Option Nat
  | .bx b => mp.blk b
  | .rw r i => (mp.row r i).bind (·.1.ownBlock)

inductive IsMem (st : List (Nat × SO)) : Nat → Nat → RowV → Prop
  | row {r : Nat} {ids : List Nat} {e : TypeId} {sz ep n : Nat} {f : Nat → List AV} (h : look st r = some (.row ids e sz ep n f)) : IsMem st r 0 ⟨ids, e, sz, ep, n, f⟩
  | fam {r : Nat} {e : TypeId} {sz cnt : Nat} {ep len : Nat → Nat} {f : Nat → Nat → List AV} {i : Nat} (h : look st r = some (.fam e sz cnt ep len f)) (hi : i < cnt) : IsMem st r i ⟨[], e, sz, ep i, len i, f i⟩

def There (st : List (Nat × SO)) : Pl → Prop
  | .bx b => ∃ ty cs, look st b = some (.box ty cs)
  | .rw r i => ∃ R, IsMem st r i R

/-- A slice of the call's own: its block, from a place on to the end, is its own. -/
def Owns (w : World) (e : TypeId) (sz : Nat) (v : Value) (n : Nat) (xs : List Value) : Prop :=
  xs.length = n * sz ∧ ((v = .slice none 0 0 ∧ n = 0) ∨
    ∃ g lo cap cur, v = .slice (some ⟨g, lo, none⟩) n cap ∧ w.heap[g]? = some (.cells cur e (0, 0)) ∧ n ≤ cap ∧ cap ≤ maxLen ∧ lo + cap * sz ≤ cur.size ∧ (cur.toList.drop lo).take (n * sz) = xs)

theorem Owns.sl {w : World} {e : TypeId} {sz : Nat} {v : Value} {n : Nat} {xs : List Value} (h : Owns w e sz v n xs) : isSl v = true := by
  rcases h.2 with ⟨rfl, _⟩ | ⟨g, lo, cap, cur, rfl, _⟩ <;> rfl

theorem lt_of_block {w : World} {b : Nat} {o : Obj} (h : w.heap[b]? = some o) : b < w.heap.size := (Array.getElem?_eq_some_iff.1 h).1

theorem Owns.lt {w : World} {e : TypeId} {sz : Nat} {v : Value} {n : Nat} {xs : List Value} (h : Owns w e sz v n xs) {g : Nat} (hg : v.ownBlock = some g) : g < w.heap.size := by
  rcases h.2 with ⟨rfl, _⟩ | ⟨g', lo, cap, cur, rfl, hh, _⟩
  · simp [Value.ownBlock] at hg
  · simp [Value.ownBlock] at hg; subst hg; exact lt_of_block hh

theorem Owns.keep {w w' : World} {e : TypeId} {sz : Nat} {v : Value} {n : Nat} {xs : List Value} (h : Owns w e sz v n xs) (hb : ∀ g, v.ownBlock = some g → w'.heap[g]? = w.heap[g]?) : Owns w' e sz v n xs := by
  refine ⟨h.1, ?_⟩
  rcases h.2 with h2 | ⟨g, lo, cap, cur, rfl, hh, rest⟩
  · exact .inl h2
  · exact .inr ⟨g, lo, cap, cur, rfl, (hb g rfl).trans hh, rest⟩

theorem Owns.cells {w : World} {e : TypeId} {sz : Nat} {n : Nat} {xs : List Value} {g lo cap : Nat} (h : Owns w e sz (.slice (some ⟨g, lo, none⟩) n cap) n xs) {j : Nat} {u : Value} (hu : xs[j]? = some u) : w.cell? ⟨g, lo + j, none⟩ = some u := by
  rcases h.2 with ⟨h2, _⟩ | ⟨g', lo', cap', cur, hv, hh, h1, h2, h3, h4⟩
  · cases h2
  · simp only [Value.slice.injEq, Option.some.injEq, Addr.mk.injEq, and_true, true_and] at hv
    obtain ⟨⟨rfl, rfl⟩, rfl⟩ := hv
    rw [cell_of_row w g (lo + j) cur e (0, 0) hh]
    rw [← h4, List.getElem?_take] at hu
    split at hu
    · rw [List.getElem?_drop] at hu
      simpa using hu
    · cases hu

theorem Owns.of_row {w : World} {base : Nat} {e : TypeId} {sz : Nat} {v : Value} {n : Nat} {xs : List Value} (h : w.ownsRow base e sz v n xs) : Owns w e sz v n xs := by
  refine ⟨h.1, ?_⟩
  rcases h.2 with h2 | ⟨g, cap, cur, rfl, _, hh, h1, h2, h3, h4⟩
  · exact .inl h2
  · exact .inr ⟨g, 0, cap, cur, rfl, hh, h1, h2, by omega, by simpa using h4⟩

/-- The tables were there when the call began, and are nothing that was handed over. -/
def TabC (c : Ctx) : Prop := TabR c.rd0 c.w0 ∧ ∀ t ∈ tbs, ¬ c.fx t.1

def Mp.sel (mp : Mp) (ids : List Nat) : Mp := ⟨fun _ => Option.none, fun r i => if r ∈ ids then mp.row r i else Option.none⟩

theorem Mp.sel_le (mp : Mp) (ids : List Nat) : Mp.le (mp.sel ids) mp :=
  ⟨fun _ _ h => (by cases h), fun r i v e n h => by
    simp only [Mp.sel] at h
    split at h
    · exact ⟨v, e, n, h, .inr ⟨rfl, .inr ⟨rfl, rfl⟩⟩⟩
    · cases h⟩

theorem Mp.sel_mono {mp mp' : Mp} (h : Mp.le mp mp') (ids : List Nat) : Mp.le (mp.sel ids) (mp'.sel ids) :=
  ⟨fun _ _ h => (by cases h), fun r i v e n h0 => by
    simp only [Mp.sel] at h0 ⊢
    split at h0
    · rename_i hr
      rw [if_pos hr]
      exact h.row r i v e n h0
    · cases h0⟩

theorem Mp.none_le_sel (mp : Mp) (ids : List Nat) : Mp.le Mp.none (mp.sel ids) := Mp.none_le _

theorem Mp.sel_nil (mp : Mp) : mp.sel [] = Mp.none := by
  simp [Mp.sel, Mp.none]

def BoxOk (c : Ctx) (rd : Rd) (mp : Mp) (w : World) (b : Nat) (ty : TypeId) (cs : List AV) : Prop :=
  ∃ g vs, mp.blk b = some g ∧ w.heap[g]? = some (.cells vs ty (0, 0)) ∧ vs.size = cs.length ∧
      (∀ (j : Nat) x v, cs[j]? = some x → vs[j]? = some v → Rel rd mp x v) ∧ (∀ o, rd g o = none) ∧ (c.w0.heap.size ≤ g ∨ c.fx g)

def MOk (c : Ctx) (rd : Rd) (mp : Mp) (w : World) (r i : Nat) (R : RowV) : Prop :=
  ∃ v xs, mp.row r i = some (v, R.ep, R.n) ∧ Owns w R.e R.sz v R.n xs ∧ (∀ k, k < R.n → (R.f k).length = R.sz) ∧
      (∀ (k j : Nat) x, k < R.n → (R.f k)[j]? = some x → ∃ u, xs[k * R.sz + j]? = some u ∧ u.oneCell' = true ∧ Rel rd (mp.sel R.ids) x u) ∧
      (∀ g, v.ownBlock = some g → (∀ o, rd g o = none) ∧ (c.w0.heap.size ≤ g ∨ c.fx g))

structure Mem (c : Ctx) (rd : Rd) (mp : Mp) (st : List (Nat × SO)) (nx : Nat) (w : World) : Prop where
  rdw : ∀ g o v, rd g o = some v → w.cell? ⟨g, o, none⟩ = some v
  rd1 : ∀ g o v, rd g o = some v → v.oneCell' = true
  rdn : ∀ g o v, rd g o = some v → c.rd0 g o = some v ∨ c.w0.heap.size ≤ g ∨ c.fx g
  fr : Fr c w
  bx : ∀ b ty cs, look st b = some (.box ty cs) → BoxOk c rd mp w b ty cs
  mb : ∀ r i R, IsMem st r i R → MOk c rd mp w r i R
  inj : ∀ p q g, There st p → There st q → blkOf mp p = some g → blkOf mp q = some g → p = q
  fresh : ∀ i, c.fre nx i → mp.blk i = none ∧ ∀ j, mp.row i j = none
  ids : ∀ i x, look st i = some x → ¬ c.fre nx i
  out : ∀ r e sz cnt ep len f, look st r = some (.fam e sz cnt ep len f) → ∀ i, cnt ≤ i → mp.row r i = none
  ro : ∀ r sz ep n f, look st r = some (.ro sz ep n f) → ∃ v, mp.row r 0 = some (v, ep, n) ∧ Rel rd Mp.none (.slc sz n f) v
  tab : TabC c ∧ Rd.le c.rd0 rd

section
variable {c : Ctx} {rd rd' : Rd} {mp mp' : Mp} {st st' : List (Nat × SO)} {nx nx' : Nat} {w w' : World}

/-- The home of a place: there, no part of the memory that only reads, the call's own. -/
theorem Mem.home (h : Mem c rd mp st nx w) {p : Pl} (hp : There st p) {g : Nat} (hg : blkOf mp p = some g) : g < w.heap.size ∧ (∀ o, rd g o = none) ∧ (c.w0.heap.size ≤ g ∨ c.fx g) := by
  cases p with
  | bx b =>
    obtain ⟨ty, cs, hl⟩ := hp
    obtain ⟨g', vs, h1, h2, h3, h4, h5, h6⟩ := h.bx b ty cs hl
    simp only [blkOf] at hg
    rw [h1] at hg; cases hg
    exact ⟨lt_of_block h2, h5, h6⟩
  | rw r i =>
    obtain ⟨R, hR⟩ := hp
    obtain ⟨v, xs, h1, h2, h3, h4, h5⟩ := h.mb r i R hR
    simp only [blkOf, h1, Option.bind_some] at hg
    exact ⟨h2.lt hg, (h5 g hg).1, (h5 g hg).2⟩

theorem BoxOk.keep {b : Nat} {ty : TypeId} {cs : List AV} (h : BoxOk c rd mp w b ty cs) (hr : Rd.le rd rd') (hp : Mp.le mp mp')
    (hb : ∀ g, mp.blk b = some g → w'.heap[g]? = w.heap[g]? ∧ ∀ o, rd' g o = none) : BoxOk c rd' mp' w' b ty cs := by
  obtain ⟨g, vs, h1, h2, h3, h4, h5, h6⟩ := h
  exact ⟨g, vs, hp.blk _ _ h1, (hb g h1).1.trans h2, h3, fun j x v hx hv => (h4 j x v hx hv).mono hr hp, (hb g h1).2, h6⟩

theorem MOk.keep {r i : Nat} {R : RowV} (h : MOk c rd mp w r i R) (hr : Rd.le rd rd') (hp : Mp.le mp mp') (hbind : mp'.row r i = mp.row r i)
    (hb : ∀ g, blkOf mp (.rw r i) = some g → w'.heap[g]? = w.heap[g]? ∧ ∀ o, rd' g o = none) : MOk c rd' mp' w' r i R := by
  obtain ⟨v, xs, h1, h2, h3, h4, h5⟩ := h
  have hb' : ∀ g, v.ownBlock = some g → w'.heap[g]? = w.heap[g]? ∧ ∀ o, rd' g o = none := fun g hg => hb g (by simp [blkOf, h1, hg])
  refine ⟨v, xs, hbind.trans h1, h2.keep (fun g hg => (hb' g hg).1), h3, fun k j x hk hx => ?_, fun g hg => ⟨(hb' g hg).2, (h5 g hg).2⟩⟩
  obtain ⟨u, hu, h1', h2'⟩ := h4 k j x hk hx
  exact ⟨u, hu, h1', h2'.mono hr (Mp.sel_mono hp _)⟩

def bindEq (mp mp' : Mp) : Pl → Prop
  | .bx b => mp'.blk b = mp.blk b
  | .rw r i => mp'.row r i = mp.row r i

theorem bindEq.blk {p : Pl} (h : bindEq mp mp' p) : blkOf mp' p = blkOf mp p := by
  cases p with
  | bx b => exact h
  | rw r i => simp only [blkOf]; rw [show mp'.row r i = mp.row r i from h]

/-- One place is told anew (or none), all else is as it was. -/
theorem Mem.upd0 (h : Mem c rd mp st nx w) (t : Option Pl) (hr : Rd.le rd rd') (hp : Mp.le mp mp') (hfr : Fr c w')
    (rdw : ∀ g o v, rd' g o = some v → w'.cell? ⟨g, o, none⟩ = some v) (rd1 : ∀ g o v, rd' g o = some v → v.oneCell' = true) (rdn : ∀ g o v, rd' g o = some v → c.rd0 g o = some v ∨ c.w0.heap.size ≤ g ∨ c.fx g)
    (hb : ∀ b ty cs, look st' b = some (.box ty cs) → some (Pl.bx b) ≠ t → look st b = some (.box ty cs))
    (hm : ∀ r i R, IsMem st' r i R → some (Pl.rw r i) ≠ t → IsMem st r i R)
    (keep : ∀ p, There st p → some p ≠ t → bindEq mp mp' p ∧ ∀ g, blkOf mp p = some g → w'.heap[g]? = w.heap[g]? ∧ ∀ o, rd' g o = none)
    (tb : ∀ b ty cs, t = some (.bx b) → look st' b = some (.box ty cs) → BoxOk c rd' mp' w' b ty cs)
    (tm : ∀ r i R, t = some (.rw r i) → IsMem st' r i R → MOk c rd' mp' w' r i R)
    (tsep : ∀ p g, t = some p → There st' p → blkOf mp' p = some g → ∀ q, There st q → some q ≠ t → blkOf mp q ≠ some g)
    (fresh : ∀ i, c.fre nx' i → mp'.blk i = none ∧ ∀ j, mp'.row i j = none) (ids : ∀ i x, look st' i = some x → ¬ c.fre nx' i)
    (out : ∀ r e sz cnt ep len f, look st' r = some (.fam e sz cnt ep len f) → ∀ i, cnt ≤ i → mp'.row r i = none)
    (hro : ∀ r sz ep n f, look st' r = some (.ro sz ep n f) → ∃ v, mp'.row r 0 = some (v, ep, n) ∧ Rel rd' Mp.none (.slc sz n f) v) :
    Mem c rd' mp' st' nx' w' := by
  have old : ∀ p, There st' p → some p ≠ t → There st p := by
    intro p hp' hne
    cases p with
    | bx b => obtain ⟨ty, cs, hl⟩ := hp'; exact ⟨ty, cs, hb b ty cs hl hne⟩
    | rw r i => obtain ⟨R, hR⟩ := hp'; exact ⟨R, hm r i R hR hne⟩
  refine ⟨rdw, rd1, rdn, hfr, fun b ty cs hl => ?_, fun r i R hR => ?_, fun p q g hp' hq' hgp hgq => ?_, fresh, ids, out, hro, h.tab.1, h.tab.2.trans hr⟩
  · by_cases he : some (Pl.bx b) = t
    · exact tb b ty cs he.symm hl
    · have hl' := hb b ty cs hl he
      exact (h.bx b ty cs hl').keep hr hp (fun g hg => (keep (.bx b) ⟨ty, cs, hl'⟩ he).2 g hg)
  · by_cases he : some (Pl.rw r i) = t
    · exact tm r i R he.symm hR
    · have hR' := hm r i R hR he
      exact (h.mb r i R hR').keep hr hp (keep (.rw r i) ⟨R, hR'⟩ he).1 (keep (.rw r i) ⟨R, hR'⟩ he).2
  · by_cases he : some p = t
    · by_cases he' : some q = t
      · have := he.trans he'.symm; cases this; rfl
      · have hq := old q hq' he'
        have := (keep q hq he').1.blk
        rw [this] at hgq
        exact absurd hgq (tsep p g he.symm hp' hgp q hq he')
    · have hpo := old p hp' he
      have h1 := (keep p hpo he).1.blk
      by_cases he' : some q = t
      · rw [h1] at hgp
        exact absurd hgp (tsep q g he'.symm hq' hgq p hpo he)
      · have hq := old q hq' he'
        have h2 := (keep q hq he').1.blk
        rw [h1] at hgp
        rw [h2] at hgq
        exact h.inj p q g hpo hq hgp hgq

/-- The same, where no row becomes read-only. -/
theorem Mem.upd (h : Mem c rd mp st nx w) (t : Option Pl) (hr : Rd.le rd rd') (hp : Mp.le mp mp') (hfr : Fr c w')
    (rdw : ∀ g o v, rd' g o = some v → w'.cell? ⟨g, o, none⟩ = some v) (rd1 : ∀ g o v, rd' g o = some v → v.oneCell' = true) (rdn : ∀ g o v, rd' g o = some v → c.rd0 g o = some v ∨ c.w0.heap.size ≤ g ∨ c.fx g)
    (hb : ∀ b ty cs, look st' b = some (.box ty cs) → some (Pl.bx b) ≠ t → look st b = some (.box ty cs))
    (hm : ∀ r i R, IsMem st' r i R → some (Pl.rw r i) ≠ t → IsMem st r i R)
    (keep : ∀ p, There st p → some p ≠ t → bindEq mp mp' p ∧ ∀ g, blkOf mp p = some g → w'.heap[g]? = w.heap[g]? ∧ ∀ o, rd' g o = none)
    (tb : ∀ b ty cs, t = some (.bx b) → look st' b = some (.box ty cs) → BoxOk c rd' mp' w' b ty cs)
    (tm : ∀ r i R, t = some (.rw r i) → IsMem st' r i R → MOk c rd' mp' w' r i R)
    (tsep : ∀ p g, t = some p → There st' p → blkOf mp' p = some g → ∀ q, There st q → some q ≠ t → blkOf mp q ≠ some g)
    (fresh : ∀ i, c.fre nx' i → mp'.blk i = none ∧ ∀ j, mp'.row i j = none) (ids : ∀ i x, look st' i = some x → ¬ c.fre nx' i)
    (out : ∀ r e sz cnt ep len f, look st' r = some (.fam e sz cnt ep len f) → ∀ i, cnt ≤ i → mp'.row r i = none)
    (hro : ∀ r sz ep n f, look st' r = some (.ro sz ep n f) → look st r = some (.ro sz ep n f) ∧ mp'.row r 0 = mp.row r 0) :
    Mem c rd' mp' st' nx' w' :=
  h.upd0 t hr hp hfr rdw rd1 rdn hb hm keep tb tm tsep fresh ids out (fun r sz ep n f hl => by
    obtain ⟨h1, h2⟩ := hro r sz ep n f hl
    obtain ⟨v, h3, h4⟩ := h.ro r sz ep n f h1
    exact ⟨v, h2.trans h3, h4.mono hr (Mp.le.refl _)⟩)

theorem Fr.below (h : Fr c w) (hb : Below w.heap.size w w') : Fr c w' :=
  ⟨hb.os.trans h.os, hb.tape.trans h.tape, hb.output.trans h.output, Nat.le_trans h.size hb.size, fun k hk hf => (hb.block k (Nat.lt_of_lt_of_le hk h.size)).trans (h.block k hk hf)⟩

theorem Mem.rd_lt (h : Mem c rd mp st nx w) {g o : Nat} (hn : rd g o ≠ none) : g < w.heap.size := by
  cases hv : rd g o with
  | none => exact absurd hv hn
  | some v => exact World.block_lt_of_cell? w ⟨g, o, none⟩ (h.rdw g o v hv)

theorem Mem.tabR (h : Mem c rd mp st nx w) : TabR rd w := fun t ht => by
  obtain ⟨h1, ty, fz, h2⟩ := h.tab.1.1 t ht
  refine ⟨?_, ty, fz, (h.fr.block _ (lt_of_block h2) (h.tab.1.2 t ht)).trans h2⟩
  cases hv : c.rd0 t.1 0 with
  | none => exact absurd hv h1
  | some v => rw [h.tab.2 _ _ _ hv]; simp

/-- More is read-only, in blocks that were not there; what was there is as it was. -/
theorem Mem.more (h : Mem c rd mp st nx w) (hb : Below w.heap.size w w') (hr : Rd.le rd rd') (h1 : ∀ g o v, rd' g o = some v → w'.cell? ⟨g, o, none⟩ = some v) (h2 : ∀ g o v, rd' g o = some v → v.oneCell' = true)
    (hn : ∀ g o v, rd' g o = some v → rd g o = some v ∨ w.heap.size ≤ g) : Mem c rd' mp st nx w' := by
  refine h.upd none hr (Mp.le.refl _) (h.fr.below hb) h1 h2 (fun g o v hv => ?_) (fun b ty cs hl _ => hl) (fun r i R hR _ => hR) (fun p hp _ => ⟨by cases p <;> rfl, fun g hg => ?_⟩)
    (fun b ty cs ht => by cases ht) (fun r i R ht => by cases ht) (fun p g ht => by cases ht) h.fresh h.ids h.out (fun _ _ _ _ _ hl => ⟨hl, rfl⟩)
  · rcases hn g o v hv with hv | hv
    · exact h.rdn g o v hv
    · exact .inr (.inl (Nat.le_trans h.fr.size hv))
  · obtain ⟨h1', h2', _⟩ := h.home hp hg
    refine ⟨hb.block g h1', fun o => ?_⟩
    cases hv : rd' g o with
    | none => rfl
    | some v =>
      rcases hn g o v hv with hv | hv
      · rw [h2' o] at hv; cases hv
      · omega

/-- Nothing that was there has turned. -/
theorem Mem.below (h : Mem c rd mp st nx w) (hb : Below w.heap.size w w') : Mem c rd mp st nx w' :=
  h.more hb (Rd.le.refl _) (fun g o v hv => (hb.cell (p := ⟨g, o, none⟩) (World.block_lt_of_cell? w _ (h.rdw g o v hv))).trans (h.rdw g o v hv)) h.rd1 (fun _ _ _ hv => .inl hv)

def Rd.add (rd : Rd) (g : Nat) (vs : Array Value) : Rd := fun b o => if b = g then vs[o]? else rd b o

theorem Rd.le_add (h : Mem c rd mp st nx w) (vs : Array Value) : Rd.le rd (rd.add w.heap.size vs) := by
  intro g o v hv
  have := h.rd_lt (g := g) (o := o) (by rw [hv]; simp)
  simp only [Rd.add]
  rw [if_neg (by omega)]
  exact hv

/-- A new block that is never written. -/
theorem Mem.newRo (h : Mem c rd mp st nx w) (vs : Array Value) (ty : TypeId) (h1 : ∀ v ∈ vs, v.oneCell' = true) :
    Mem c (rd.add w.heap.size vs) mp st nx (w.alloc (.cells vs ty)) := by
  refine h.more ((Below.refl _ _).alloc (Nat.le_refl _) _) (Rd.le_add h vs) (fun g o v hv => ?_) (fun g o v hv => ?_) (fun g o v hv => ?_)
  · simp only [Rd.add] at hv
    by_cases hg : g = w.heap.size
    · subst hg
      rw [if_pos rfl] at hv
      rw [cell_of_row _ _ _ vs ty (0, 0) (heap_alloc_new w _)]
      exact hv
    · rw [if_neg hg] at hv
      have := h.rdw g o v hv
      exact (World.cell?_of_block (a := ⟨g, o, none⟩) (heap_alloc_old w _ (World.block_lt_of_cell? w _ this))).trans this
  · simp only [Rd.add] at hv
    by_cases hg : g = w.heap.size
    · rw [if_pos hg] at hv; exact h1 v (Array.mem_of_getElem? hv)
    · rw [if_neg hg] at hv; exact h.rd1 g o v hv
  · simp only [Rd.add] at hv
    by_cases hg : g = w.heap.size
    · exact .inr (by omega)
    · rw [if_neg hg] at hv; exact .inl hv

def Mp.addBlk (mp : Mp) (id g : Nat) : Mp := ⟨fun i => if i = id then some g else mp.blk i, mp.row⟩
def Mp.setRow (mp : Mp) (r i : Nat) (v : Value) (e n : Nat) : Mp := ⟨mp.blk, fun r' i' => if r' = r ∧ i' = i then some (v, e, n) else mp.row r' i'⟩

theorem Mp.le_addBlk {id g : Nat} (h : mp.blk id = Option.none) : Mp.le mp (mp.addBlk id g) :=
  ⟨fun i g' hi => by
    simp only [Mp.addBlk]
    rw [if_neg (by rintro rfl; rw [h] at hi; cases hi)]
    exact hi, fun _ _ v e n h => ⟨v, e, n, h, .inr ⟨rfl, .inr ⟨rfl, rfl⟩⟩⟩⟩

theorem Mp.le_setRow {r i : Nat} {v : Value} {e n : Nat} (h : ∀ v0 e0 n0, mp.row r i = some (v0, e0, n0) → e0 < e ∨ (e0 = e ∧ (n0 < n ∨ (n0 = n ∧ v0 = v)))) : Mp.le mp (mp.setRow r i v e n) :=
  ⟨fun _ _ h => h, fun r' i' v0 e0 n0 hr => by
    simp only [Mp.setRow]
    by_cases hid : r' = r ∧ i' = i
    · obtain ⟨rfl, rfl⟩ := hid
      exact ⟨v, e, n, by simp, h v0 e0 n0 hr⟩
    · exact ⟨v0, e0, n0, by rw [if_neg hid]; exact hr, .inr ⟨rfl, .inr ⟨rfl, rfl⟩⟩⟩⟩

theorem isMem_cons {k : Nat} {x : SO} {r i : Nat} {R : RowV} (h : IsMem ((k, x) :: st) r i R) (hk : k ≠ r) : IsMem st r i R := by
  cases h with
  | row h => rw [look_cons, if_neg hk] at h; exact .row h
  | fam h hi => rw [look_cons, if_neg hk] at h; exact .fam h hi

theorem isMem_lt (h : Mem c rd mp st nx w) {r i : Nat} {R : RowV} (hR : IsMem st r i R) : ¬ c.fre nx r := by
  cases hR with
  | row hl => exact h.ids _ _ hl
  | fam hl _ => exact h.ids _ _ hl

theorem There.lt (h : Mem c rd mp st nx w) {p : Pl} (hp : There st p) : ¬ c.fre nx (match p with | .bx b => b | .rw r _ => r) := by
  cases p with
  | bx b => obtain ⟨ty, cs, hl⟩ := hp; exact h.ids _ _ hl
  | rw r i => obtain ⟨R, hR⟩ := hp; exact isMem_lt h hR

/-- A new box. -/
theorem Mem.newBox (h : Mem c rd mp st nx w) (hsup : Sup c nx) (vs : Array Value) (ty : TypeId) (cs : List AV)
    (hs : vs.size = cs.length) (hv : ∀ (j : Nat) x v, cs[j]? = some x → vs[j]? = some v → Rel rd mp x v) :
    Mem c rd (mp.addBlk nx w.heap.size) ((nx, .box ty cs) :: st) (nx + 1) (w.alloc (.cells vs ty)) := by
  have hle : Mp.le mp (mp.addBlk nx w.heap.size) := Mp.le_addBlk (h.fresh nx hsup.here).1
  have hb : Below w.heap.size w (w.alloc (.cells vs ty)) := (Below.refl _ _).alloc (Nat.le_refl _) _
  have h' := h.below hb
  have hnew : ∀ o, rd w.heap.size o = none := by
    intro o
    cases hv : rd w.heap.size o with
    | none => rfl
    | some v => exact absurd (h.rd_lt (g := w.heap.size) (o := o) (by rw [hv]; simp)) (by omega)
  refine h.upd (some (.bx nx)) (Rd.le.refl _) hle h'.fr h'.rdw h'.rd1 h'.rdn (fun b ty' cs' hl hne => ?_) (fun r i R hR _ => ?_) (fun p hp hne => ⟨?_, fun g hg => ?_⟩) (fun b ty' cs' ht hl => ?_) (fun r i R ht => by cases ht)
    (fun p g ht _ hg q hq hne => ?_) (fun i hi => ?_) (fun i x hx => ?_) (fun r e sz cnt ep len f hl => ?_) (fun r sz ep n f hl => ?_)
  · rw [look_cons, if_neg (by rintro rfl; exact hne rfl)] at hl
    exact hl
  · by_cases hk : nx = r
    · subst hk
      cases hR with
      | row hl => rw [look_cons, if_pos rfl] at hl; cases hl
      | fam hl _ => rw [look_cons, if_pos rfl] at hl; cases hl
    · exact isMem_cons hR hk
  · cases p with
    | bx b =>
      have : b ≠ nx := by rintro rfl; exact hne rfl
      simp [bindEq, Mp.addBlk, this]
    | rw r i => rfl
  · obtain ⟨h1, h2, _⟩ := h.home hp hg
    exact ⟨hb.block g h1, h2⟩
  · cases ht
    rw [look_cons, if_pos rfl] at hl
    cases hl
    exact ⟨w.heap.size, vs, by simp [Mp.addBlk], heap_alloc_new w _, hs, fun j x v hx hv' => (hv j x v hx hv').mono (Rd.le.refl _) hle, hnew, .inl h.fr.size⟩
  · cases ht
    simp [blkOf, Mp.addBlk] at hg
    subst hg
    intro hq'
    have := (h.home hq hq').1
    omega
  · have := h.fresh i (hsup.next i hi).1
    simp only [Mp.addBlk]
    rw [if_neg (hsup.next i hi).2]
    exact this
  · rw [look_cons] at hx
    by_cases h1 : nx = i
    · subst h1; exact fun hf => (hsup.next _ hf).2 rfl
    · rw [if_neg h1] at hx
      exact fun hf => h.ids i x hx (hsup.next i hf).1
  · rw [look_cons] at hl
    by_cases h1 : nx = r
    · rw [if_pos h1] at hl; cases hl
    · rw [if_neg h1] at hl
      exact h.out r e sz cnt ep len f hl
  · rw [look_cons] at hl
    by_cases h1 : nx = r
    · rw [if_pos h1] at hl; cases hl
    · rw [if_neg h1] at hl
      exact ⟨hl, rfl⟩

theorem look_setSt (st : List (Nat × SO)) (id : Nat) (o : SO) (i : Nat) : look (setSt st id o) i = if i = id then (look st i).map (fun _ => o) else look st i := by
  induction st with
  | nil => simp [setSt, look]
  | cons p r ih =>
    obtain ⟨k, v⟩ := p
    simp only [setSt]
    by_cases hk : k = id
    · subst hk
      simp only [Nat.beq_refl, cond_true, look_cons]
      by_cases hi : i = k
      · subst hi; simp
      · simp [hi, Ne.symm hi]
    · have hb : Nat.beq k id = false := by
        cases hb : Nat.beq k id with
        | false => rfl
        | true => exact absurd (Nat.eq_of_beq_eq_true hb) hk
      simp only [hb, cond_false, look_cons, ih]
      by_cases hi : i = id
      · subst hi; simp [hk]
      · simp [hi]

end

end Go.Sx
end
section
/- More laws of the store: a store into a box, own rows, forgetting. Nothing of a program. -/
namespace Go.Sx
open Go Go.RowKit

section
variable {c : Ctx} {rd rd' : Rd} {mp mp' : Mp} {st st' : List (Nat × SO)} {nx nx' : Nat} {w w' : World}

theorem isMem_setBox {id : Nat} {ty ty' : TypeId} {cs cs' : List AV} (hl : look st id = some (.box ty cs)) {r i : Nat} {R : RowV} (h : IsMem (setSt st id (.box ty' cs')) r i R) : IsMem st r i R := by
  have hne : ∀ x, look (setSt st id (.box ty' cs')) r = some x → (∀ t c, x ≠ .box t c) → look st r = some x := by
    intro x hx hx'
    rw [look_setSt] at hx
    by_cases hi : r = id
    · subst hi; rw [if_pos rfl, hl] at hx; cases hx; exact absurd rfl (hx' _ _)
    · rwa [if_neg hi] at hx
  cases h with
  | row h => exact .row (hne _ h (by simp))
  | fam h hi => exact .fam (hne _ h (by simp)) hi

/-- A store into one box. -/
theorem Mem.storeBox (h : Mem c rd mp st nx w) {id : Nat} {ty : TypeId} {cs : List AV} (hl : look st id = some (.box ty cs))
    {b : Nat} (hb : mp.blk id = some b) (off : Nat) (x : AV) (v : Value) (hr : Rel rd mp x v) :
    Mem c rd mp (setSt st id (.box ty (cs.set off x))) nx (w.setCell ⟨b, off, none⟩ v) := by
  obtain ⟨b', vs, h1, h2, h3, h4, h5, h6⟩ := h.bx id _ _ hl
  rw [hb] at h1; cases h1
  have hblk : ∀ k, k ≠ b → (w.setCell ⟨b, off, none⟩ v).heap[k]? = w.heap[k]? := fun k hk => Below.heap_setCell w ⟨b, off, none⟩ v k hk
  have hsz : (w.setCell ⟨b, off, none⟩ v).heap.size = w.heap.size := by simp [World.setCell]
  have hnew : (w.setCell ⟨b, off, none⟩ v).heap[b]? = some (.cells (vs.setIfInBounds off v) ty (0, 0)) := by
    simp [World.setCell, Array.getElem?_modify, h2]
  have hne : ∀ p, There st p → some p ≠ some (Pl.bx id) → ∀ g, blkOf mp p = some g → g ≠ b := by
    intro p hp hne g hg e
    subst e
    exact hne (congrArg some (h.inj p (.bx id) g hp ⟨ty, cs, hl⟩ hg hb))
  refine h.upd (some (.bx id)) (Rd.le.refl _) (Mp.le.refl _) ⟨h.fr.os, h.fr.tape, h.fr.output, by rw [hsz]; exact h.fr.size, fun k hk hf => ?_⟩ ?_ h.rd1 h.rdn (fun b' ty' cs' hl' hne' => ?_) (fun r i R hR _ => isMem_setBox hl hR)
    (fun p hp hp' => ⟨by cases p <;> rfl, fun g hg => ⟨hblk g (hne p hp hp' g hg), (h.home hp hg).2.1⟩⟩) (fun b' ty' cs' ht hl' => ?_) (fun r i R ht => by cases ht)
    (fun p g ht _ hg q hq hq' hg' => ?_) h.fresh (fun i y hy => ?_) (fun r e sz cnt ep len f hl' => ?_) (fun r sz ep n f hl' => ?_)
  · by_cases hkb : k = b
    · subst hkb
      rcases h6 with h6 | h6
      · omega
      · exact absurd h6 hf
    · rw [hblk k hkb]; exact h.fr.block k hk hf
  · intro g o u hu
    have hg : g ≠ b := by rintro rfl; rw [h5 o] at hu; cases hu
    exact (World.cell?_of_block (a := ⟨g, o, none⟩) (hblk g hg)).trans (h.rdw g o u hu)
  · rw [look_setSt, if_neg (by rintro rfl; exact hne' rfl)] at hl'
    exact hl'
  · cases ht
    rw [look_setSt, if_pos rfl, hl] at hl'
    cases hl'
    refine ⟨b, _, hb, hnew, by simpa using h3, fun j x' v' hx hv => ?_, h5, h6⟩
    by_cases hj : off = j
    · subst hj
      rw [List.getElem?_set] at hx
      simp at hx
      rw [Array.getElem?_setIfInBounds] at hv
      simp at hv
      obtain ⟨_, rfl⟩ := hx
      obtain ⟨_, rfl⟩ := hv
      exact hr
    · rw [List.getElem?_set_ne hj] at hx
      rw [Array.getElem?_setIfInBounds_ne hj] at hv
      exact h4 j x' v' hx hv
  · cases ht
    simp only [blkOf, hb] at hg
    cases hg
    exact hne q hq hq' b hg' rfl
  · rw [look_setSt] at hy
    by_cases hid : i = id
    · subst hid; exact h.ids i _ hl
    · rw [if_neg hid] at hy; exact h.ids i y hy
  · rw [look_setSt] at hl'
    by_cases hid : r = id
    · subst hid; rw [if_pos rfl, hl] at hl'; cases hl'
    · rw [if_neg hid] at hl'; exact h.out r e sz cnt ep len f hl'
  · rw [look_setSt] at hl'
    by_cases hid : r = id
    · subst hid; rw [if_pos rfl, hl] at hl'; cases hl'
    · rw [if_neg hid] at hl'; exact ⟨hl', rfl⟩

theorem isMem_sub (hs : ∀ i x, look st' i = some x → look st i = some x) {r i : Nat} {R : RowV} (h : IsMem st' r i R) : IsMem st r i R := by
  cases h with
  | row h => exact .row (hs _ _ h)
  | fam h hi => exact .fam (hs _ _ h) hi

/-- Some of the store is forgotten. -/
theorem Mem.forget (h : Mem c rd mp st nx w) (hs : ∀ i x, look st' i = some x → look st i = some x) : Mem c rd mp st' nx w :=
  h.upd none (Rd.le.refl _) (Mp.le.refl _) h.fr h.rdw h.rd1 h.rdn (fun b ty cs hl _ => hs _ _ hl) (fun r i R hR _ => isMem_sub hs hR) (fun p hp _ => ⟨by cases p <;> rfl, fun g hg => ⟨rfl, (h.home hp hg).2.1⟩⟩)
    (fun b ty cs ht => by cases ht) (fun r i R ht => by cases ht) (fun p g ht => by cases ht) h.fresh (fun i x hx => h.ids i x (hs i x hx)) (fun r e sz cnt ep len f hl => h.out r e sz cnt ep len f (hs _ _ hl)) (fun _ _ _ _ _ hl => ⟨hs _ _ hl, rfl⟩)

/-- A row of a name of its own, or one that has turned: all that is asked of the new value and the new world. -/
theorem Mem.setMem (h : Mem c rd mp st nx w) (r i : Nat) (R : RowV) (v : Value) (xs : List Value)
    (old : Option Nat) (hold : ∀ p, There st p → some p ≠ some (Pl.rw r i) → ∀ g, blkOf mp p = some g → some g ≠ old) (holdrd : ∀ g, old = some g → (c.w0.heap.size ≤ g ∨ c.fx g) ∧ ∀ o, rd g o = none)
    (hmp : ∀ v0 e0 n0, mp.row r i = some (v0, e0, n0) → e0 < R.ep ∨ (e0 = R.ep ∧ (n0 < R.n ∨ (n0 = R.n ∧ v0 = v))))
    (hg : w.grownBy w' old) (hown : Owns w' R.e R.sz v R.n xs) (hat : v.ownBlock = old ∨ ∃ g, v.ownBlock = some g ∧ w.heap.size ≤ g)
    (hf : ∀ k, k < R.n → (R.f k).length = R.sz) (hx : ∀ (k j : Nat) x, k < R.n → (R.f k)[j]? = some x → ∃ u, xs[k * R.sz + j]? = some u ∧ u.oneCell' = true ∧ Rel rd (mp.sel R.ids) x u)
    (hb : ∀ b ty cs, look st' b = some (.box ty cs) → look st b = some (.box ty cs))
    (hm : ∀ r' i' R', IsMem st' r' i' R' → (r' = r ∧ i' = i ∧ R' = R) ∨ (¬ (r' = r ∧ i' = i) ∧ IsMem st r' i' R')) (hnx : ∀ i, c.fre nx' i → c.fre nx i) (hids : ∀ i x, look st' i = some x → ¬ c.fre nx' i)
    (hrn : ¬ c.fre nx' r) (hout : ∀ r' e sz cnt ep len f, look st' r' = some (.fam e sz cnt ep len f) → ∀ i', cnt ≤ i' → (mp.setRow r i v R.ep R.n).row r' i' = none)
    (hro : ∀ r' sz ep n f, look st' r' = some (.ro sz ep n f) → r' ≠ r ∧ look st r' = some (.ro sz ep n f)) :
    Mem c rd (mp.setRow r i v R.ep R.n) st' nx' w' := by
  have hle : Mp.le mp (mp.setRow r i v R.ep R.n) := Mp.le_setRow hmp
  have hblk : ∀ k, k < w.heap.size → some k ≠ old → w'.heap[k]? = w.heap[k]? := fun k hk hne => hg.block k hk hne
  have hrow : (mp.setRow r i v R.ep R.n).row r i = some (v, R.ep, R.n) := by simp [Mp.setRow]
  refine h.upd (some (.rw r i)) (Rd.le.refl _) hle ⟨hg.os.trans h.fr.os, hg.tape.trans h.fr.tape, hg.output.trans h.fr.output, Nat.le_trans h.fr.size hg.size, fun k hk hf' => ?_⟩ (fun g o u hu => ?_) h.rd1 h.rdn (fun b ty cs hl _ => hb b ty cs hl)
    (fun r' i' R' hR hne => ?_) (fun p hp hne => ⟨?_, fun g hgp => ?_⟩) (fun b ty cs ht => by cases ht) (fun r' i' R' ht hR => ?_) (fun p g ht _ hgp q hq hne hgq => ?_) (fun j hj => ?_) hids hout (fun r' sz ep n f hl => ⟨(hro r' sz ep n f hl).2, by simp only [Mp.setRow]; rw [if_neg (fun h => (hro r' sz ep n f hl).1 h.1)]⟩)
  · have hne : some k ≠ old := fun eq => by
      rcases (holdrd k eq.symm).1 with h1 | h1
      · omega
      · exact hf' h1
    rw [hblk k (Nat.lt_of_lt_of_le hk h.fr.size) hne]
    exact h.fr.block k hk hf'
  · have hlt := h.rd_lt (g := g) (o := o) (by rw [hu]; simp)
    have hne : some g ≠ old := fun eq => by have := (holdrd g eq.symm).2 o; rw [hu] at this; cases this
    exact (World.cell?_of_block (a := ⟨g, o, none⟩) (hblk g hlt hne)).trans (h.rdw g o u hu)
  · rcases hm r' i' R' hR with ⟨rfl, rfl, _⟩ | ⟨_, hR'⟩
    · exact absurd rfl hne
    · exact hR'
  · cases p with
    | bx b => rfl
    | rw r' i' =>
      have : ¬ (r' = r ∧ i' = i) := by rintro ⟨rfl, rfl⟩; exact hne rfl
      simp [bindEq, Mp.setRow, this]
  · obtain ⟨h1, h2, _⟩ := h.home hp hgp
    exact ⟨hblk g h1 (hold p hp hne g hgp), h2⟩
  · simp only [Option.some.injEq, Pl.rw.injEq] at ht
    obtain ⟨rfl, rfl⟩ := ht
    rcases hm r i R' hR with ⟨_, _, rfl⟩ | ⟨hne, _⟩
    · refine ⟨v, xs, hrow, hown, hf, fun k j x hk hxx => ?_, fun g hgv => ?_⟩
      · obtain ⟨u, hu, hu1, hu2⟩ := hx k j x hk hxx
        exact ⟨u, hu, hu1, hu2.mono (Rd.le.refl _) (Mp.sel_mono hle _)⟩
      · rcases hat with hat | ⟨g', hat, hge⟩
        · exact ⟨(holdrd g (by rw [← hat]; exact hgv)).2, (holdrd g (by rw [← hat]; exact hgv)).1⟩
        · rw [hgv] at hat
          cases hat
          refine ⟨fun o => ?_, .inl (Nat.le_trans h.fr.size hge)⟩
          cases hro : rd g o with
          | none => rfl
          | some u => exact absurd (h.rd_lt (g := g) (o := o) (by rw [hro]; simp)) (by omega)
    · exact absurd ⟨rfl, rfl⟩ hne
  · cases ht
    simp only [blkOf, hrow, Option.bind_some] at hgp
    rcases hat with hat | ⟨g', hat, hge⟩
    · exact hold q hq hne g hgq (by rw [← hat]; exact hgp.symm)
    · rw [hgp] at hat
      cases hat
      have := (h.home hq hgq).1
      omega
  · have := h.fresh j (hnx j hj)
    refine ⟨this.1, fun k => ?_⟩
    simp only [Mp.setRow]
    rw [if_neg (by rintro ⟨rfl, _⟩; exact hrn hj)]
    exact this.2 k

/-- The own row's block is no other's home. -/
theorem Mem.mem_alone (h : Mem c rd mp st nx w) {r i : Nat} {R : RowV} (hR : IsMem st r i R)
    {v : Value} {e n : Nat} (hv : mp.row r i = some (v, e, n)) : ∀ p, There st p → some p ≠ some (Pl.rw r i) → ∀ g, blkOf mp p = some g → some g ≠ v.ownBlock := by
  intro p hp hne g hg he
  exact hne (congrArg some (h.inj p (.rw r i) g hp ⟨R, hR⟩ hg (by simp [blkOf, hv, he])))

def AV.lt0 (n : Nat) : AV → Bool
  | .own r .. => Nat.ble (r + 1) n
  | .ptr b _ => Nat.ble (b + 1) n
  | .mapv b => Nat.ble (b + 1) n
  | .eptr r .. => Nat.ble (r + 1) n
  | .agg .. | .tup .. | .fn .. | .cnd .. | .ifc .. => false
  | _ => true

def AV.lt1 (n : Nat) : AV → Bool
  | .fn _ cs => cs.all (AV.lt0 n)
  | x => x.lt0 n

def AV.ltA (n : Nat) : AV → Bool
  | .agg cs => cs.all (AV.lt1 n)
  | .fn _ cs => cs.all (AV.lt1 n)
  | x => x.lt1 n

def AV.lt (n : Nat) : AV → Bool
  | .tup vs => vs.all (AV.ltA n)
  | x => x.ltA n

def Mp.restrict (mp : Mp) (n : Nat) : Mp := ⟨fun i => if i < n then mp.blk i else Option.none, fun r i => if r < n then mp.row r i else Option.none⟩

theorem Rel.lt0 {n : Nat} {x : AV} {v : Value} (h : Rel rd mp x v) (hp : x.lt0 n = true) : Rel rd (mp.restrict n) x v := by
  cases h with
  | own _ r i e m v vr er nr hr he hn hv hsl =>
    have hl : r < n := by simp [AV.lt0, Nat.ble_eq] at hp; omega
    exact .own _ _ _ _ _ _ vr er nr (by simp [Mp.restrict, hl, hr]) he hn hv hsl
  | ptr _ b off blk hb =>
    have hl : b < n := by simp [AV.lt0, Nat.ble_eq] at hp; omega
    exact .ptr _ _ _ _ (by simp [Mp.restrict, hl, hb])
  | mapv _ b g hb =>
    have hl : b < n := by simp [AV.lt0, Nat.ble_eq] at hp; omega
    exact .mapv _ _ _ (by simp [Mp.restrict, hl, hb])
  | eptr _ r i e m sz k off v vr er nr hr he hn hv =>
    have hl : r < n := by simp [AV.lt0, Nat.ble_eq] at hp; omega
    exact .eptr _ _ _ _ _ _ _ _ _ vr er nr (by simp [Mp.restrict, hl, hr]) he hn hv
  | _ => first
    | (simp [AV.lt0] at hp; done)
    | (constructor <;> assumption)
    | constructor

theorem Rel.lt1 {n : Nat} {x : AV} {v : Value} (h : Rel rd mp x v) (hp : x.lt1 n = true) : Rel rd (mp.restrict n) x v := by
  have h' := h
  cases h with
  | fn _ f cs vs hs he =>
    refine .fn _ _ _ _ hs (fun j x v hx hv => (he j x v hx hv).lt0 ?_)
    simp only [AV.lt1, List.all_eq_true] at hp
    exact hp x (List.mem_of_getElem? hx)
  | _ => exact h'.lt0 hp

theorem Rel.ltA {n : Nat} {x : AV} {v : Value} (h : Rel rd mp x v) (hp : x.ltA n = true) : Rel rd (mp.restrict n) x v := by
  have h' := h
  cases h with
  | agg _ cs vs hs he =>
    refine .agg _ _ _ hs (fun j x v hx hv => (he j x v hx hv).lt1 ?_)
    simp only [AV.ltA, List.all_eq_true] at hp
    exact hp x (List.mem_of_getElem? hx)
  | fn _ f cs vs hs he =>
    refine .fn _ _ _ _ hs (fun j x v hx hv => (he j x v hx hv).lt1 ?_)
    simp only [AV.ltA, List.all_eq_true] at hp
    exact hp x (List.mem_of_getElem? hx)
  | _ => exact h'.lt1 hp

theorem Rel.lt {n : Nat} {x : AV} {v : Value} (h : Rel rd mp x v) (hp : x.lt n = true) : Rel rd (mp.restrict n) x v := by
  have h' := h
  cases h with
  | tup _ cs vs hs he =>
    refine .tup _ _ _ hs (fun j x v hx hv => (he j x v hx hv).ltA ?_)
    simp only [AV.lt, List.all_eq_true] at hp
    exact hp x (List.mem_of_getElem? hx)
  | _ => exact h'.ltA hp

def SO.lt (n : Nat) : SO → Bool
  | .box _ cs => cs.all (AV.lt1 n)
  | .row ids .. => ids.all fun r => Nat.ble (r + 1) n
  | .fam .. => true
  | .ro .. => true

def stLt (n : Nat) (st : List (Nat × SO)) : Bool := st.all fun p => Nat.ble (p.1 + 1) n && p.2.lt n

theorem mem_of_look {α : Type} {l : List (Nat × α)} {i : Nat} {x : α} (h : look l i = some x) : (i, x) ∈ l := by
  induction l with
  | nil => simp [look] at h
  | cons p r ih =>
    obtain ⟨k, v⟩ := p
    rw [look_cons] at h
    by_cases hk : k = i
    · subst hk; rw [if_pos rfl] at h; cases h; simp
    · rw [if_neg hk] at h; simp [ih h]

theorem Mp.restrict_le (mp : Mp) (n : Nat) : Mp.le (mp.restrict n) mp := by
  refine ⟨fun i g h => ?_, fun r i v e k h => ?_⟩
  · simp only [Mp.restrict] at h
    split at h
    · exact h
    · cases h
  · simp only [Mp.restrict] at h
    split at h
    · exact ⟨v, e, k, h, .inr ⟨rfl, .inr ⟨rfl, rfl⟩⟩⟩
    · cases h

/-- What lies below a name is kept by a cut behind it. -/
theorem Mp.le_restrict {b : Mp} {n : Nat} (h : Mp.le b mp) (hn : ∀ i, n ≤ i → b.blk i = Option.none ∧ ∀ j, b.row i j = Option.none) : Mp.le b (mp.restrict n) := by
  refine ⟨fun i g hi => ?_, fun r i v e k hr => ?_⟩
  · by_cases hl : i < n
    · simp only [Mp.restrict, if_pos hl]; exact h.blk i g hi
    · rw [(hn i (by omega)).1] at hi; cases hi
  · by_cases hl : r < n
    · simp only [Mp.restrict, if_pos hl]; exact h.row r i v e k hr
    · rw [(hn r (by omega)).2 i] at hr; cases hr

theorem Mp.restrict_sel {n : Nat} {ids : List Nat} (h : ids.all (fun r => Nat.ble (r + 1) n) = true) : (mp.restrict n).sel ids = mp.sel ids := by
  simp only [Mp.sel, Mp.restrict, Mp.mk.injEq, true_and]
  funext r i
  by_cases hr : r ∈ ids
  · have := List.all_eq_true.1 h r hr
    simp only [Nat.ble_eq] at this
    rw [if_pos hr, if_pos hr, if_pos (by omega)]
  · rw [if_neg hr, if_neg hr]

theorem Mem.restrict {n : Nat} (h : Mem c rd mp st nx w) (hstd : c.fre = stdF) (hl : stLt n st = true) : Mem c rd (mp.restrict n) st n w := by
  have hid : ∀ i x, look st i = some x → i < n ∧ x.lt n = true := by
    intro i x hx
    have := (List.all_eq_true.1 hl) _ (mem_of_look hx)
    simp only [Bool.and_eq_true, Nat.ble_eq] at this
    exact ⟨by omega, this.2⟩
  have hmem : ∀ r i R, IsMem st r i R → r < n ∧ R.ids.all (fun r => Nat.ble (r + 1) n) = true := by
    intro r i R hR
    cases hR with
    | row hl => exact ⟨(hid _ _ hl).1, (hid _ _ hl).2⟩
    | fam hl _ => exact ⟨(hid _ _ hl).1, rfl⟩
  have hblk : ∀ p, There st p → blkOf (mp.restrict n) p = blkOf mp p := by
    intro p hp
    cases p with
    | bx b =>
      obtain ⟨ty, cs, hl⟩ := hp
      simp [blkOf, Mp.restrict, (hid _ _ hl).1]
    | rw r i =>
      obtain ⟨R, hR⟩ := hp
      simp [blkOf, Mp.restrict, (hmem _ _ _ hR).1]
  refine ⟨h.rdw, h.rd1, h.rdn, h.fr, fun b ty cs hlk => ?_, fun r i R hR => ?_, fun p q g hp hq hgp hgq => ?_, fun i hi => ?_, fun i x hx => by rw [hstd]; simp only [stdF, Nat.not_le]; exact (hid i x hx).1, fun r e sz cnt ep len f hlk i hi => ?_, fun r sz ep n' f hlk => ?_, h.tab⟩
  · obtain ⟨g, vs, h1, h2, h3, h4, h5, h6⟩ := h.bx b ty cs hlk
    have hi := hid _ _ hlk
    refine ⟨g, vs, by simp [Mp.restrict, hi.1, h1], h2, h3, fun j x v hx' hv => (h4 j x v hx' hv).lt1 ?_, h5, h6⟩
    exact List.all_eq_true.1 hi.2 x (List.mem_of_getElem? hx')
  · obtain ⟨v, xs, h1, h2, h3, h4, h5⟩ := h.mb r i R hR
    have hi := hmem r i R hR
    refine ⟨v, xs, by simp [Mp.restrict, hi.1, h1], h2, h3, fun k j x hk hx => ?_, h5⟩
    rw [Mp.restrict_sel hi.2]
    exact h4 k j x hk hx
  · rw [hblk p hp] at hgp
    rw [hblk q hq] at hgq
    exact h.inj p q g hp hq hgp hgq
  · rw [hstd] at hi; simp only [stdF] at hi; simp [Mp.restrict, Nat.not_lt.2 hi]
  · have := h.out r e sz cnt ep len f hlk i hi
    simp [Mp.restrict, this]
  · obtain ⟨v, h1, h2⟩ := h.ro r sz ep n' f hlk
    exact ⟨v, by simp [Mp.restrict, (hid _ _ hlk).1, h1], h2⟩

end

end Go.Sx
end
section
/- What an operation does to an abstract state: definitions only. Nothing of a program. -/
namespace Go.Sx
open Go Go.RowKit

universe u

/-- A number laid open. -/
def frcN {α : Sort u} (n : Nat) (K : Nat → α) : α :=
  match n with
  | 0 => K 0
  | m + 1 => match m with
    | 0 => K (0 + 1)
    | k + 1 => K (k + 1 + 1)

theorem frcN_eq {α : Sort u} (n : Nat) (K : Nat → α) : frcN n K = K n := by
  cases n with
  | zero => rfl
  | succ m => cases m <;> rfl

/-- A value of one cell laid open, so that what is kept is no open term. -/
def frc1 {α : Sort u} (v : AV) (K : AV → α) : α :=
  match v with
  | .any => K .any
  | .int k n => K (.int k n)
  | .bool b => K (.bool b)
  | .str l => K (.str l)
  | .nils => K .nils
  | .slc sz n f => K (.slc sz n f)
  | .own r i e n => frcN r fun r => K (.own r i e n)
  | .ptr b o => frcN b fun b => K (.ptr b o)
  | .eptr r i e n sz k o => K (.eptr r i e n sz k o)
  | .mapv b => K (.mapv b)
  | .ifc t v => K (.ifc t v)
  | .nili => K .nili
  | .rptr cs => K (.rptr cs)
  | .nilp => K .nilp
  | .agg cs => K (.agg cs)
  | .tup vs => K (.tup vs)
  | .fn f cs => K (.fn f cs)
  | .cnd b v => K (.cnd b v)

theorem frc1_eq {α : Sort u} (v : AV) (K : AV → α) : frc1 v K = K v := by cases v <;> simp only [frc1, frcN_eq]

def frcL1 {α : Sort u} : List AV → (List AV → α) → α
  | [], K => K []
  | x :: xs, K => frc1 x fun x' => frcL1 xs fun xs' => K (x' :: xs')

theorem frcL1_eq {α : Sort u} : ∀ (xs : List AV) (K : List AV → α), frcL1 xs K = K xs
  | [], _ => rfl
  | x :: xs, K => by simp only [frcL1, frc1_eq]; exact frcL1_eq xs _

inductive Kd where
  | int (k : IntKind) | bool | str | slice (e : TypeId) | struct (fs : List (Nat × TypeId)) | array (n : Nat) (e : TypeId) | ptr (e : TypeId) | other

structure TI where
  kd : Kd
  size : Nat
  bytes : Nat
  zero : List AV
  cmp : Bool

def ofVal1 : Value → AV
  | .int k n => .int k n
  | .bool b => .bool b
  | .string s => .str s.data.toList
  | .slice none 0 0 => .nils
  | .pointer none => .nilp
  | _ => .any

def ofVal : Value → AV
  | .agg cs => .agg (cs.toList.map ofVal1)
  | v => ofVal1 v

def kdOf : TypeDesc → Kd
  | .int k => .int k
  | .bool => .bool
  | .string => .str
  | .slice e => .slice e
  | .struct fs => .struct (fs.toList.map fun f => (f.offset, f.type))
  | .array n e => .array n e
  | .pointer e => .ptr e
  | _ => .other

def zeroOf (i : TypeInfo) : List AV :=
  match i.zero with
  | some z => z.cells.toList.map ofVal1
  | none => []

/-- May two structs of the type be compared field by field, with nothing of the model's own in the way? -/
def cmpOf (P : Program) (t : TypeId) : TypeDesc → Bool
  | .struct fs => !P.stoodInHeld t && !P.eqGuardType P.depth t && fs.toList.all fun f => f.name != "_"
  | _ => false

def tab (P : Program) (t : TypeId) : TI :=
  match P.info? t, P.underlying t with
  | some i, some d => ⟨kdOf d, i.size, i.bytes, zeroOf i, cmpOf P t d⟩
  | _, _ => ⟨.other, 0, 0, [], false⟩

/-- What is to be kept wrapping, which slots bear rows of the call's own, which slots bear a row that is cut anew. -/
structure Cfg where
  wraps : List Nat := []
  owns : List (Nat × (TypeId × Nat)) := []
  cuts : List Nat := []
  lit : Bool := false

def inR (k : IntKind) (n : Int) : Prop := k.min ≤ n ∧ n ≤ k.max

/-- Something that is owed, and a look that may settle it. -/
structure DP where
  p : Prop
  b : Bool
  h : b = true → p

def dp (p : Prop) [Decidable p] : DP := ⟨p, decide p, of_decide_eq_true⟩

instance (k : IntKind) (n : Int) : Decidable (inR k n) := inferInstanceAs (Decidable (k.min ≤ n ∧ n ≤ k.max))

/-- A value, laid bare: behind its guard, a row that is read-only by now as a slice that reads. -/
def strip (st : List (Nat × SO)) : AV → AV
  | .cnd _ v => v
  | .own r i e n => match look st r with | some (.ro sz _ _ f) => .slc sz n f | _ => .own r i e n
  | v => v

def scond (st : List (Nat × SO)) : AV → Option DP
  | .cnd q _ => some (dp (q = true))
  | .own r i e n => match look st r with | some (.ro _ ep m _) => some (dp (i = 0 ∧ e = ep ∧ n = m)) | _ => none
  | _ => none

def scondO (st : List (Nat × SO)) : Option AV → Option DP
  | some x => scond st x
  | none => none

def andO : Option DP → Option DP → Option DP
  | none, q => q
  | some p, none => some p
  | some ⟨p, b, h⟩, some ⟨q, c, k⟩ => some ⟨p ∧ q, b && c, fun e => by simp only [Bool.and_eq_true] at e; exact ⟨h e.1, k e.2⟩⟩

def obT : Option DP → Prop
  | none => True
  | some d => d.p

def scondL (st : List (Nat × SO)) : List AV → Option DP
  | [] => none
  | x :: xs => andO (scond st x) (scondL st xs)

theorem obT_andO (p q : Option DP) : obT (andO p q) ↔ obT p ∧ obT q := by
  cases p <;> cases q <;> simp [andO, obT]

inductive OR where
  | ok (ob : Option DP) (v : AV)
  | mem (ob : Option DP) (v : AV) (st : List (Nat × SO)) (nx : Nat)
  | call (f : FuncId) (args : List AV)
  | bad

def ev (s : ASt) : Operand → AV
  | .tmp t => s.get t
  | .const v => ofVal v
  | .global _ => .any
  | .func f => .fn f []

/-- A value that one cell can bear. -/
def AV.one : AV → Bool
  | .any | .agg .. | .tup .. | .cnd .. | .own .. | .eptr .. | .ifc .. => false
  | _ => true

def AV.oneOwn : AV → Bool
  | .own .. => true
  | x => x.one

def isAggK : Kd → Bool
  | .struct _ | .array _ _ => true
  | _ => false

def byteAt (l : List UInt8) (i : Int) : Int := ((l.getD i.toNat 0).toNat : Int)

def wrapN (C : Cfg) (dst : Option Nat) : Bool :=
  match dst with
  | some d => C.wraps.any (Nat.beq d)
  | none => false

def arith (wr : Bool) (k : IntKind) (n : Int) : OR := bif wr then .ok none (.int k (k.wrap n)) else .ok (some (dp (inR k n))) (.int k n)

/-- The bits of two numbers together. -/
def bitI (op : BinOp) (k : IntKind) (a b : Int) : Int :=
  match op with
  | .and => k.wrap (BitVec.ofInt k.bits a &&& BitVec.ofInt k.bits b).toNat
  | .or => k.wrap (BitVec.ofInt k.bits a ||| BitVec.ofInt k.bits b).toNat
  | _ => k.wrap (BitVec.ofInt k.bits a ^^^ BitVec.ofInt k.bits b).toNat

def shlI (k : IntKind) (a b : Int) : Int := a * 2 ^ (min b.toNat k.bits)
def shrI (k : IntKind) (a b : Int) : Int := a.fdiv (2 ^ (min b.toNat k.bits))

def intO (wr : Bool) : BinOp → IntKind → Int → Int → OR
  | .add, k, a, b => arith wr k (a + b)
  | .sub, k, a, b => arith wr k (a - b)
  | .mul, k, a, b => arith wr k (a * b)
  | .quo, k, a, b => .ok (some (dp (b ≠ 0 ∧ inR k (a.tdiv b)))) (.int k (a.tdiv b))
  | .rem, k, a, b => .ok (some (dp (b ≠ 0))) (.int k (a.tmod b))
  | .and, k, a, b => .ok none (.int k (bitI .and k a b))
  | .or, k, a, b => .ok none (.int k (bitI .or k a b))
  | .xor, k, a, b => .ok none (.int k (bitI .xor k a b))
  | .eql, _, a, b => .ok none (.bool (a == b))
  | .neq, _, a, b => .ok none (.bool (a != b))
  | .lss, _, a, b => .ok none (.bool (decide (a < b)))
  | .leq, _, a, b => .ok none (.bool (decide (a ≤ b)))
  | .gtr, _, a, b => .ok none (.bool (decide (b < a)))
  | .geq, _, a, b => .ok none (.bool (decide (b ≤ a)))
  | _, _, _, _ => .bad

def strO : BinOp → List UInt8 → List UInt8 → OR
  | .add, a, b => .ok (some (dp (a.length + b.length ≤ 9223372036854775807))) (.str (a ++ b))
  | .eql, a, b => .ok none (.bool (a == b))
  | .neq, a, b => .ok none (.bool (!(a == b)))
  | .lss, a, b => .ok none (.bool (Op.bytesLess a b))
  | _, _, _ => .bad

/-- Two lists of plain cells, of a struct's fields: are they alike? -/
def eqCells (T : Nat → TI) : Nat → List (Nat × TypeId) → List AV → List AV → Option Bool
  | _, [], [], [] => some true
  | i, (o, t) :: fs, x :: xs, y :: ys =>
    bif Nat.beq o i then
      match (T t).kd, x, y with
      | .int _, .int k a, .int k' b => bif decide (k = k') then (eqCells T (i + 1) fs xs ys).map ((a == b) && ·) else none
      | .bool, .bool a, .bool b => (eqCells T (i + 1) fs xs ys).map ((a == b) && ·)
      | .str, .str a, .str b => (eqCells T (i + 1) fs xs ys).map ((a == b) && ·)
      | _, _, _ => none
    else none
  | _, _, _, _ => none

def aggO (T : Nat → TI) (neg : Bool) (t : TypeId) (xs ys : List AV) : OR :=
  match (T t).kd with
  | .struct fs =>
    match eqCells T 0 fs xs ys with
    | some b => .ok (some (dp ((T t).cmp = true))) (.bool (bif neg then !b else b))
    | none => .bad
  | _ => .bad

def also (p : Option DP) : OR → OR
  | .ok ob v => .ok (andO p ob) v
  | .mem ob v st nx => .mem (andO p ob) v st nx
  | _ => .bad

def binO (T : Nat → TI) (C : Cfg) (dst : Option Nat) (op : BinOp) (t : TypeId) : AV → AV → OR
  | .int k a, .int k' b =>
    match op with
    | .shl => also (some (dp (0 ≤ b))) (arith (wrapN C dst) k (shlI k a b))
    | .shr => .ok (some (dp (0 ≤ b))) (.int k (shrI k a b))
    | op => bif decide (k = k') then intO (wrapN C dst) op k a b else .bad
  | .str a, .str b => strO op a b
  | .bool a, .bool b =>
    match op, (T t).kd with
    | .eql, .bool => .ok none (.bool (a == b))
    | .neq, .bool => .ok none (.bool (!(a == b)))
    | _, _ => .bad
  | .agg xs, .agg ys =>
    match op with
    | .eql => aggO T false t xs ys
    | .neq => aggO T true t xs ys
    | _ => .bad
  | _, _ => .bad

def pickO : AV → AV → AV → OR
  | .bool p, .bool x, .bool y => .ok none (.bool (bif p then x else y))
  | .bool p, .cnd q (.bool x), .bool y => .ok (some (dp (p = true → q = true))) (.bool (bif p then x else y))
  | .bool p, .bool x, .cnd q (.bool y) => .ok (some (dp (p = false → q = true))) (.bool (bif p then x else y))
  | _, _, _ => .bad

def andP : AV → AV → OR
  | .bool p, .bool x => .ok none (.bool (p && x))
  | .bool p, .cnd q (.bool x) => .ok (some (dp (p = true → q = true))) (.bool (p && x))
  | _, _ => .bad

def orP : AV → AV → OR
  | .bool p, .bool y => .ok none (.bool (p || y))
  | .bool p, .cnd q (.bool y) => .ok (some (dp (p = false → q = true))) (.bool (p || y))
  | _, _ => .bad

def unO (C : Cfg) (dst : Option Nat) : UnOp → AV → OR
  | .not, .bool b => .ok none (.bool (!b))
  | .neg, .int k n => arith (wrapN C dst) k (0 - n)
  | _, _ => .bad

def indexO (T : Nat → TI) (t : TypeId) : AV → AV → OR
  | .str l, .int _ i => match (T t).kd with | .str => .ok (some (dp (0 ≤ i ∧ i < l.length))) (.int .u8 (byteAt l i)) | _ => .bad
  | .agg cs, .int _ i =>
    match (T t).kd with
    | .array n e => bif Nat.beq (T e).size 1 && !isAggK (T e).kd && Nat.beq cs.length n then .ok (some (dp (0 ≤ i ∧ i < n))) (cs.getD i.toNat .any) else .bad
    | _ => .bad
  | _, _ => .bad

def sliceO (T : Nat → TI) (t : TypeId) : AV → Option AV → Option AV → Option AV → OR
  | .str l, none, none, none => match (T t).kd with | .str => .ok none (.str l) | _ => .bad
  | .str l, some (.int _ a), none, none => match (T t).kd with | .str => .ok (some (dp (0 ≤ a ∧ a ≤ l.length))) (.str (l.drop a.toNat)) | _ => .bad
  | .str l, none, some (.int _ b), none => match (T t).kd with | .str => .ok (some (dp (0 ≤ b ∧ b ≤ l.length))) (.str (l.take b.toNat)) | _ => .bad
  | .str l, some (.int _ a), some (.int _ b), none => match (T t).kd with | .str => .ok (some (dp (0 ≤ a ∧ a ≤ b ∧ b ≤ l.length))) (.str ((l.take b.toNat).drop a.toNat)) | _ => .bad
  | .slc sz n f, some (.int _ a), none, none =>
    match (T t).kd with
    | .slice e => bif Nat.beq (T e).size sz && Nat.ble 1 sz then .ok (some (dp (0 ≤ a ∧ a ≤ n))) (.slc sz (n - a.toNat) (fun i => f (a.toNat + i))) else .bad
    | _ => .bad
  | .slc sz n f, none, some (.int _ b), none =>
    match (T t).kd with
    | .slice e => bif Nat.beq (T e).size sz && Nat.ble 1 sz then .ok (some (dp (0 ≤ b ∧ b ≤ n))) (.slc sz b.toNat f) else .bad
    | _ => .bad
  | .slc sz n f, some (.int _ a), some (.int _ b), none =>
    match (T t).kd with
    | .slice e => bif Nat.beq (T e).size sz && Nat.ble 1 sz then .ok (some (dp (0 ≤ a ∧ a ≤ b ∧ b ≤ n))) (.slc sz (b.toNat - a.toNat) (fun i => f (a.toNat + i))) else .bad
    | _ => .bad
  | _, _, _, _ => .bad

def upd {α : Type} (g : Nat → α) (i : Nat) (x : α) : Nat → α := fun j => if j = i then x else g j

/-- A row by its name: what is owed for it to be there, and what it is. -/
def rowAt (st : List (Nat × SO)) (r i : Nat) : Option (Option DP × RowV) :=
  match look st r with
  | some (.row ids e sz ep n f) => bif Nat.beq i 0 then some (none, ⟨ids, e, sz, ep, n, f⟩) else none
  | some (.fam e sz cnt ep len f) => some (some (dp (i < cnt)), ⟨[], e, sz, ep i, len i, f i⟩)
  | _ => none

def setRowAt (st : List (Nat × SO)) (r i ep n : Nat) (f : Nat → List AV) : List (Nat × SO) :=
  match look st r with
  | some (.row ids e sz _ _ _) => setSt st r (.row ids e sz ep n f)
  | some (.fam e sz cnt eps len fs) => setSt st r (.fam e sz cnt (upd eps i ep) (upd len i n) (upd fs i f))
  | _ => st

/-- The row is as it was told. -/
def now (e n : Nat) (R : RowV) : Prop := e = R.ep ∧ n = R.n

def indexAddrO (T : Nat → TI) (st : List (Nat × SO)) (t : TypeId) : AV → AV → OR
  | .slc sz n f, .int _ i =>
    match (T t).kd with
    | .slice e => bif Nat.beq (T e).size sz && Nat.ble 1 sz then .ok (some (dp (0 ≤ i ∧ i < n))) (.rptr (f i.toNat)) else .bad
    | _ => .bad
  | .own r i e n, .int _ k =>
    match (T t).kd, rowAt st r i with
    | .slice el, some (ob, R) => bif Nat.beq (T el).size R.sz && Nat.ble 1 R.sz then .ok (andO ob (some (dp ((e = R.ep ∧ n = R.n) ∧ 0 ≤ k ∧ k < n)))) (.eptr r i e n R.sz k.toNat 0) else .bad
    | _, _ => .bad
  | _, _ => .bad

def fieldAddrO (T : Nat → TI) (st : List (Nat × SO)) (t : TypeId) (fi : Nat) (x : AV) : OR :=
  match (T t).kd with
  | .struct fs =>
    match fs[fi]? with
    | some (off, ft) =>
      bif Nat.ble 1 (T ft).size then
        match x with
        | .ptr b o => .ok none (.ptr b (o + off))
        | .eptr r i e n sz k o => match rowAt st r i with | some (ob, R) => .ok (andO ob (some (dp (e = R.ep ∧ n = R.n)))) (.eptr r i e n sz k (o + off)) | _ => .bad
        | .rptr cs => .ok none (.rptr (cs.drop off))
        | _ => .bad
      else .bad
    | none => .bad
  | _ => .bad

/-- Of a row of cells the value of a type that lies at a place. -/
def cellsO (ti : TI) (cs : List AV) : OR :=
  bif isAggK ti.kd then (bif Nat.ble ti.size cs.length then .ok none (.agg (cs.take ti.size)) else .bad)
  else bif Nat.beq ti.size 1 then
    match cs with
    | x :: _ => .ok none x
    | [] => .bad
  else .bad

def loadO (T : Nat → TI) (st : List (Nat × SO)) (t : TypeId) : AV → OR
  | .rptr cs => cellsO (T t) cs
  | .ptr b o => match look st b with | some (.box _ cs) => cellsO (T t) (cs.drop o) | _ => .bad
  | .eptr r i e n sz' k o => match rowAt st r i with | some (ob, R) => bif Nat.beq sz' R.sz then also (andO ob (some (dp ((e = R.ep ∧ n = R.n) ∧ k < n)))) (cellsO (T t) ((R.f k).drop o)) else .bad | _ => .bad
  | _ => .bad

def setAll : List AV → Nat → List AV → List AV
  | cs, _, [] => cs
  | cs, o, x :: r => setAll (cs.set o x) (o + 1) r

/-- The cells of a value that is to be stored. -/
def cellsOf : AV → List AV
  | .agg cs => cs
  | x => [x]

/-- The own rows among some cells are as they are just now. -/
def ownOb (st : List (Nat × SO)) : List AV → Option DP
  | [] => none
  | .own r i e n :: l => match rowAt st r i with
    | some (ob, R) => andO (andO ob (some (dp (e = R.ep ∧ n = R.n)))) (ownOb st l)
    | none => match look st r with
      | some (.ro _ ep m _) => andO (some (dp (i = 0 ∧ e = ep ∧ n = m))) (ownOb st l)
      | _ => some (dp False)
  | _ :: l => ownOb st l

/-- May a value be laid into cells? (A struct's cells, or one cell.) -/
def partOk : AV → Bool
  | .agg _ => true
  | x => x.oneOwn

def partOb (st : List (Nat × SO)) : AV → Option DP
  | .agg _ => none
  | x => ownOb st [x]

/-- May a value lie in a cell of a row whose cells may name the rows 'ids'? -/
def cellOk (ids : List Nat) : AV → Bool
  | .own r .. => ids.any (Nat.beq r)
  | y => y.one && y.pure1

/-- The rows that some cells name. -/
def ownNames : List AV → List Nat
  | [] => []
  | .own r .. :: l => r :: ownNames l
  | _ :: l => ownNames l

def addId (ids : List Nat) (r : Nat) : List Nat := bif ids.any (Nat.beq r) then ids else r :: ids

def addIds (ids : List Nat) : List Nat → List Nat
  | [] => ids
  | r :: l => addIds (addId ids r) l

/-- A row's cells may name some rows more. -/
def addIdsAt (st : List (Nat × SO)) (r : Nat) : List Nat → List (Nat × SO)
  | [] => st
  | q :: qs => match look st r with
    | some (.row ids e sz ep n f) => setSt st r (.row (addIds ids (q :: qs)) e sz ep n f)
    | _ => st

def withIds (st : List (Nat × SO)) : AV → AV → List (Nat × SO)
  | .eptr r .., x => addIdsAt st r (ownNames (cellsOf x))
  | _, _ => st

def storeO0 (T : Nat → TI) (st : List (Nat × SO)) (nx : Nat) (t : TypeId) : AV → AV → OR
  | .ptr b o, x =>
    match look st b with
    | some (.box ty cs) =>
      bif Nat.ble 1 (T t).size && Nat.beq (cellsOf x).length (T t).size && (cellsOf x).all AV.oneOwn && Nat.ble (o + (cellsOf x).length) cs.length
      then .mem (ownOb st (cellsOf x)) .any (setSt st b (.box ty (setAll cs o (cellsOf x)))) nx else .bad
    | _ => .bad
  | .eptr r i e n sz' k o, x =>
    match rowAt st r i with
    | some (ob, R) =>
      bif Nat.ble 1 (T t).size && Nat.beq sz' R.sz && Nat.beq (cellsOf x).length (T t).size && (cellsOf x).all (cellOk R.ids) && Nat.ble (o + (cellsOf x).length) R.sz
      then .mem (andO (andO ob (some (dp ((e = R.ep ∧ n = R.n) ∧ k < n)))) (ownOb st (cellsOf x))) .any (setRowAt st r i R.ep R.n (fun j => if j = k then setAll (R.f k) o (cellsOf x) else R.f j)) nx else .bad
    | _ => .bad
  | _, _ => .bad

def storeO (T : Nat → TI) (st : List (Nat × SO)) (nx : Nat) (t : TypeId) (a x : AV) : OR := storeO0 T (withIds st a x) nx t a x

/-- A row of the call's own is laid into a box: nothing is looked at but the box. -/
def storeB (T : Nat → TI) (st : List (Nat × SO)) (nx : Nat) (t : TypeId) (b o r i e n : Nat) : OR :=
  match look st b with
  | some (.box ty cs) => bif Nat.beq (T t).size 1 && Nat.ble (o + 1) cs.length then .mem none .any (setSt st b (.box ty (setAll cs o [.own r i e n]))) nx else .bad
  | _ => .bad

def storeA (T : Nat → TI) (st : List (Nat × SO)) (nx : Nat) (t : TypeId) : AV → AV → OR
  | .ptr b o, .own r i e n => storeB T st nx t b o r i e n
  | a, x => also (scond st x) (storeO T st nx t a (strip st x))

/-- The cells of a struct or array that is built of parts. -/
def fillO (place : Nat → Option (Nat × Nat)) : List AV → List (Nat × AV) → Option (List AV)
  | cs, [] => some cs
  | cs, (i, x) :: r =>
    match place i with
    | some (off, size) => bif partOk x && Nat.beq (cellsOf x).length size && Nat.ble (off + size) cs.length then frcL1 (setAll cs off (cellsOf x)) fun cs' => fillO place cs' r else none
    | none => none

def partsOb (st : List (Nat × SO)) : List (Nat × AV) → Option DP
  | [] => none
  | (_, x) :: r => andO (partOb st x) (partsOb st r)

def placeS (T : Nat → TI) (fs : List (Nat × TypeId)) (i : Nat) : Option (Nat × Nat) := (fs[i]?).map fun p => (p.1, (T p.2).size)

def buildO (T : Nat → TI) (st : List (Nat × SO)) (t : TypeId) (parts : List (Nat × AV)) : OR :=
  match (T t).kd with
  | .struct fs => bif Nat.ble 1 (T t).size && Nat.beq (T t).zero.length (T t).size && fs.all (fun p => Nat.ble 1 (T p.2).size) then (match fillO (placeS T fs) (T t).zero parts with | some cs => .ok (partsOb st parts) (.agg cs) | none => .bad) else .bad
  | .array _ e => bif Nat.ble 1 (T t).size && Nat.beq (T t).zero.length (T t).size && Nat.ble 1 (T e).size then (match fillO (fun i => some (i * (T e).size, (T e).size)) (T t).zero parts with | some cs => .ok (partsOb st parts) (.agg cs) | none => .bad) else .bad
  | _ => .bad

def chop (sz : Nat) (cs : List AV) (i : Nat) : List AV := (cs.drop (i * sz)).take sz

def zeros (z : List AV) : Nat → List AV
  | 0 => []
  | n + 1 => z ++ zeros z n

def buildSliceO (T : Nat → TI) (st : List (Nat × SO)) (t : TypeId) (len : Nat) (parts : List (Nat × AV)) : OR :=
  match (T t).kd with
  | .slice e =>
    bif Nat.ble 1 (T e).size && Nat.ble (len * (T e).size) 16777216 && Nat.beq (T e).zero.length (T e).size then
      match fillO (fun i => some (i * (T e).size, (T e).size)) (zeros (T e).zero len) parts with
      | some cs => frcL1 cs fun cs => bif cs.all (fun y => y.one && y.pure1) then frcN (T e).size fun sz => .ok (partsOb st parts) (.slc sz len (chop sz cs)) else .bad
      | none => .bad
    else .bad
  | _ => .bad

/-- A slice's literal that is a row of the call's own. -/
def buildOwnO (T : Nat → TI) (s : ASt) (t : TypeId) (len : Nat) (parts : List (Nat × AV)) : OR :=
  match (T t).kd with
  | .slice e =>
    bif Nat.ble 1 (T e).size && Nat.ble (len * (T e).size) 16777216 && Nat.beq (T e).zero.length (T e).size then
      match fillO (fun i => some (i * (T e).size, (T e).size)) (zeros (T e).zero len) parts with
      | some cs => frcL1 cs fun cs => bif cs.all (cellOk (addIds [] (ownNames cs))) then frcN (T e).size fun sz =>
          .mem (andO (partsOb s.st parts) (ownOb s.st cs)) (.own s.nx 0 0 len) ((s.nx, .row (addIds [] (ownNames cs)) e sz 0 len (chop sz cs)) :: s.st) (s.nx + 1) else .bad
      | none => .bad
    else .bad
  | _ => .bad

/-- A slice's literal: to be read, or a row of the call's own. -/
def buildSlO (T : Nat → TI) (C : Cfg) (s : ASt) (dst : Option Nat) (t : TypeId) (len : Nat) (parts : List (Nat × AV)) : OR :=
  match dst.bind (look C.owns) with
  | some _ => buildOwnO T s t len parts
  | none => bif C.lit then buildOwnO T s t len parts else buildSliceO T s.st t len parts

def isCut (C : Cfg) (dst : Option Nat) : Bool :=
  match dst with
  | some d => C.cuts.any (Nat.beq d)
  | none => false

/-- A row of the call's own that is cut anew. -/
def cutO (T : Nat → TI) (C : Cfg) (s : ASt) (dst : Option Nat) (t : TypeId) : AV → Option AV → Option AV → Option AV → OR
  | .own r i e n, some (.int _ a), none, none =>
    match (T t).kd, rowAt s.st r i with
    | .slice el, some (ob, R) =>
      bif Nat.beq (T el).size R.sz && Nat.ble 1 R.sz then
        .mem (andO ob (some (dp ((e = R.ep ∧ n = R.n) ∧ 0 ≤ a ∧ a ≤ n)))) (.own r i (R.ep + 1) (n - a.toNat)) (setRowAt s.st r i (R.ep + 1) (n - a.toNat) (fun j => R.f (a.toNat + j))) s.nx
      else .bad
    | _, _ => .bad
  | .own r i e n, none, some (.int _ b), none =>
    match (T t).kd, rowAt s.st r i with
    | .slice el, some (ob, R) =>
      bif Nat.beq (T el).size R.sz && Nat.ble 1 R.sz then
        .mem (andO ob (some (dp ((e = R.ep ∧ n = R.n) ∧ 0 ≤ b ∧ b ≤ n)))) (.own r i (R.ep + 1) b.toNat) (setRowAt s.st r i (R.ep + 1) b.toNat R.f) s.nx
      else .bad
    | _, _ => .bad
  | _, _, _, _ => .bad

/-- A slice of what is there: of a row of the call's own, which is read-only from then on. -/
def slicesO (T : Nat → TI) (C : Cfg) (s : ASt) (dst : Option Nat) (t : TypeId) : AV → Option AV → Option AV → Option AV → OR
  | .own r i e n, lo, hi, mx =>
    bif isCut C dst then cutO T C s dst t (.own r i e n) lo hi mx
    else
    match look s.st r with
    | some (.row [] _ sz ep m f) =>
      match sliceO T t (.slc sz n f) lo hi mx with
      | .ok ob v => .mem (andO (some (dp (i = 0 ∧ e = ep ∧ n = m))) ob) v (setSt s.st r (.ro sz ep n f)) s.nx
      | _ => .bad
    | _ => .bad
  | x, lo, hi, mx => sliceO T t x lo hi mx

def fieldO (T : Nat → TI) (t : TypeId) (fi : Nat) : AV → OR
  | .agg cs =>
    match (T t).kd with
    | .struct fs => match fs[fi]? with | some (off, ft) => cellsO (T ft) (cs.drop off) | none => .bad
    | _ => .bad
  | _ => .bad

def extractO (i : Nat) : AV → OR
  | .tup vs => match vs[i]? with | some v => .ok none v | none => .bad
  | _ => .bad

/-- The bytes of a row of bytes. -/
def byteV : List AV → UInt8
  | [.int _ x] => x.toNat.toUInt8
  | _ => 0
def bytesV (n : Nat) (f : Nat → List AV) : List UInt8 := (List.range n).map fun i => byteV (f i)
def isBytes (n : Nat) (f : Nat → List AV) : Prop := ∀ i, i < n → ∃ b : UInt8, f i = [.int .u8 b.toNat]
def isByte : List AV → Bool
  | [.int .u8 x] => decide (0 ≤ x ∧ x < 256)
  | _ => false
theorem isByte_some {l : List AV} (h : isByte l = true) : ∃ b : UInt8, l = [.int .u8 b.toNat] := by
  unfold isByte at h
  split at h
  · rename_i x
    simp only [decide_eq_true_eq] at h
    refine ⟨UInt8.ofNat x.toNat, ?_⟩
    have : (UInt8.ofNat x.toNat).toNat = x.toNat := by rw [UInt8.toNat_ofNat']; omega
    rw [this]
    congr 2; omega
  · cases h
def dpBytes (n : Nat) (f : Nat → List AV) : DP := ⟨isBytes n f, (List.range n).all fun i => isByte (f i), fun h i hi => isByte_some (List.all_eq_true.1 h i (List.mem_range.2 hi))⟩

def byteSl (T : Nat → TI) (src to : TypeId) : Bool :=
  match (T src).kd, (T to).kd with
  | .slice e, .str => Nat.beq (T e).size 1 && (match (T e).kd with | .int .u8 => true | _ => false)
  | _, _ => false

def convertO (T : Nat → TI) (C : Cfg) (st : List (Nat × SO)) (dst : Option Nat) (src to : TypeId) (x : AV) : OR :=
  bif Nat.ble 1 (T src).size then
    match x with
    | .slc sz n f => bif byteSl T src to && Nat.beq sz 1 then .ok (some (dpBytes n f)) (.str (bytesV n f)) else .bad
    | .own r i e n =>
      match rowAt st r i with
      | some (ob, R) => bif byteSl T src to && Nat.beq R.sz 1 then .ok (andO ob (andO (some (dp (e = R.ep ∧ n = R.n))) (some (dpBytes n R.f)))) (.str (bytesV n R.f)) else .bad
      | none => .bad
    | .nils => bif byteSl T src to then .ok none (.str []) else .bad
    | .int _ n => match (T to).kd with | .int k => arith (wrapN C dst) k n | _ => .bad
    | .str l => match (T to).kd with | .str => .ok none (.str l) | _ => .bad
    | _ => .bad
  else .bad

def appF (n : Nat) (f : Nat → List AV) (m : Nat) (g : Nat → List AV) : Nat → List AV :=
  fun i => if i < n then f i else if i < n + m then g (i - n) else f i

/-- append of a slice that reads to a row of the call's own, or to nil; of a row of the call's own to another one, or to nil. -/
def appendO (T : Nat → TI) (s : ASt) (t : TypeId) : AV → AV → OR
  | .own r i ep n, .slc sz m g =>
    match (T t).kd, rowAt s.st r i with
    | .slice e, some (ob, R) =>
      bif Nat.beq (T e).size sz && Nat.beq e R.e && Nat.beq sz R.sz && Nat.ble 1 sz && Nat.beq (T e).zero.length sz then
        .mem (andO ob (some (dp ((ep = R.ep ∧ n = R.n) ∧ n + m ≤ 9223372036854775807 ∧ (n + m) * (T e).bytes ≤ 140737488355328)))) (.own r i ep (n + m)) (setRowAt s.st r i ep (n + m) (appF n R.f m g)) s.nx
      else .bad
    | _, _ => .bad
  | .own r i ep n, .own r' i' ep' m =>
    match rowAt s.st r' i' with
    | some (ob', R') =>
      match (T t).kd, rowAt (addIdsAt s.st r R'.ids) r i with
      | .slice e, some (ob, R) =>
        bif Nat.beq (T e).size R.sz && Nat.beq e R.e && Nat.beq R'.sz R.sz && Nat.ble 1 R.sz && Nat.beq (T e).zero.length R.sz && !Nat.beq r r' && R'.ids.all (fun q => R.ids.any (Nat.beq q)) then
          .mem (andO ob (andO ob' (some (dp ((ep = R.ep ∧ n = R.n) ∧ (ep' = R'.ep ∧ m = R'.n) ∧ n + m ≤ 9223372036854775807 ∧ (n + m) * (T e).bytes ≤ 140737488355328))))) (.own r i ep (n + m)) (setRowAt (addIdsAt s.st r R'.ids) r i ep (n + m) (appF n R.f m R'.f)) s.nx
        else .bad
      | _, _ => .bad
    | none => .bad
  | .own r i ep n, .nils =>
    match (T t).kd, rowAt s.st r i with
    | .slice e, some (ob, R) =>
      bif Nat.beq (T e).size R.sz && Nat.beq e R.e && Nat.ble 1 R.sz && Nat.beq (T e).zero.length R.sz then .ok (andO ob (some (dp (ep = R.ep ∧ n = R.n)))) (.own r i ep n) else .bad
    | _, _ => .bad
  | .nils, .own r' i' ep' m =>
    match (T t).kd, rowAt s.st r' i' with
    | .slice e, some (ob', R') =>
      bif Nat.beq (T e).size R'.sz && Nat.ble 1 R'.sz && Nat.beq (T e).zero.length R'.sz then
        .mem (andO ob' (some (dp ((ep' = R'.ep ∧ m = R'.n) ∧ m ≤ 9223372036854775807 ∧ m * (T e).bytes ≤ 140737488355328)))) (.own s.nx 0 0 m) ((s.nx, .row R'.ids e R'.sz 0 m R'.f) :: s.st) (s.nx + 1)
      else .bad
    | _, _ => .bad
  | .nils, .slc sz m g =>
    match (T t).kd with
    | .slice e =>
      bif Nat.beq (T e).size sz && Nat.ble 1 sz && Nat.beq (T e).zero.length sz then
        .mem (some (dp (m ≤ 9223372036854775807 ∧ m * (T e).bytes ≤ 140737488355328))) (.own s.nx 0 0 m) ((s.nx, .row [] e sz 0 m g) :: s.st) (s.nx + 1)
      else .bad
    | _ => .bad
  | _, _ => .bad

def makeO (T : Nat → TI) (s : ASt) (t : TypeId) : AV → AV → OR
  | .int _ l, .int _ c =>
    match (T t).kd with
    | .slice e => bif Nat.beq (T e).zero.length (T e).size && Nat.ble 1 (T e).size && (T e).zero.all (fun y => y.one && y.pure1) then
        .mem (some (dp (0 ≤ l ∧ l ≤ c ∧ c ≤ 9223372036854775807 ∧ c * (T e).bytes ≤ 140737488355328))) (.own s.nx 0 0 l.toNat) ((s.nx, .row [] e (T e).size 0 l.toNat (fun _ => (T e).zero)) :: s.st) (s.nx + 1) else .bad
    | _ => .bad
  | _, _ => .bad

def lenO (st : List (Nat × SO)) : Kd → AV → OR
  | .str, .str l => .ok none (.int .i64 l.length)
  | .slice _, .slc _ n _ => .ok none (.int .i64 n)
  | .slice _, .own r i e n => match rowAt st r i with | some (ob, R) => .ok (andO ob (some (dp (e = R.ep ∧ n = R.n)))) (.int .i64 n) | _ => .bad
  | .slice _, .nils => .ok none (.int .i64 0)
  | _, _ => .bad

def minO (mx : Bool) : AV → AV → OR
  | .int .i64 a, .int .i64 b => .ok none (.int .i64 (bif mx then max a b else min a b))
  | _, _ => .bad

def builtinO (T : Nat → TI) (s : ASt) (b : Builtin) (ts : List TypeId) (args : List AV) : OR :=
  match b, ts, args with
  | .len, [t], [x] => lenO s.st (T t).kd x
  | .append, [t, t'], [x, y] => bif Nat.beq t t' then appendO T s t x y else .bad
  | .min, [_, _], [x, y] => minO false x y
  | .max, [_, _], [x, y] => minO true x y
  | _, _, _ => .bad

def nilCheckO : AV → OR
  | .ptr b o => .ok none (.ptr b o)
  | .rptr cs => .ok none (.rptr cs)
  | .fn f cs => .ok none (.fn f cs)
  | _ => .bad

def ownAt (l : List (Nat × (TypeId × Nat))) (d : Option Nat) : Option (TypeId × Nat) := d.bind (look l)

def assignO (C : Cfg) (s : ASt) (dst : Option Nat) (v : AV) : OR :=
  match v, ownAt C.owns dst with
  | .nils, some (e, sz) => .mem none (.own s.nx 0 0 0) ((s.nx, .row [] e sz 0 0 (fun _ => [])) :: s.st) (s.nx + 1)
  | v, _ => .ok none v

def boxO (s : ASt) (ty : TypeId) (cs : List AV) (ob : Option DP) : OR := .mem ob (.ptr s.nx 0) ((s.nx, .box ty cs) :: s.st) (s.nx + 1)

def callO (args : List AV) : AV → OR
  | .fn f caps => .call f (args ++ caps)
  | _ => .bad

/-- An operation over an abstract state. -/
def aop (T : Nat → TI) (C : Cfg) (s : ASt) (dst : Option Nat) : Op → OR
  | .move x => .ok none (ev s x)
  | .assign x => assignO C s dst (ev s x)
  | .pick c a b =>
    match a, b with
    | _, .const (.bool false) => also (scond s.st (ev s c)) (andP (strip s.st (ev s c)) (ev s a))
    | .const (.bool true), _ => also (scond s.st (ev s c)) (orP (strip s.st (ev s c)) (ev s b))
    | _, _ => also (scond s.st (ev s c)) (pickO (strip s.st (ev s c)) (ev s a) (ev s b))
  | .alloc e => bif Nat.ble 1 (T e).size && Nat.beq (T e).zero.length (T e).size then boxO s e (T e).zero none else .bad
  | .box e x => bif partOk (strip s.st (ev s x)) then also (scond s.st (ev s x)) (boxO s e (cellsOf (strip s.st (ev s x))) (partOb s.st (strip s.st (ev s x)))) else .bad
  | .build t ps => also (scondL s.st (ps.toList.map fun p => ev s p.2)) (buildO T s.st t (ps.toList.map fun p => (p.1, strip s.st (ev s p.2))))
  | .buildSlice t n ps => also (scondL s.st (ps.toList.map fun p => ev s p.2)) (buildSlO T C s dst t n (ps.toList.map fun p => (p.1, strip s.st (ev s p.2))))
  | .load t a => also (scond s.st (ev s a)) (loadO T s.st t (strip s.st (ev s a)))
  | .store t a x => also (scond s.st (ev s a)) (storeA T s.st s.nx t (strip s.st (ev s a)) (ev s x))
  | .nilCheck x => also (scond s.st (ev s x)) (nilCheckO (strip s.st (ev s x)))
  | .binOp op t x y _ => also (scond s.st (ev s x)) (also (scond s.st (ev s y)) (binO T C dst op t (strip s.st (ev s x)) (strip s.st (ev s y))))
  | .unOp op _ x => also (scond s.st (ev s x)) (unO C dst op (strip s.st (ev s x)))
  | .convert src t x => also (scond s.st (ev s x)) (convertO T C s.st dst src t (strip s.st (ev s x)))
  | .makeFunc fn first captured => match fn, first.toList with | .func f, [] => .ok none (.fn f (captured.toList.map (ev s))) | _, _ => .bad
  | .makeSlice t l c => also (scond s.st (ev s l)) (also (scond s.st (ev s c)) (makeO T s t (strip s.st (ev s l)) (strip s.st (ev s c))))
  | .slice t x lo hi mx => also (scond s.st (ev s x)) (also (scondO s.st (lo.map (ev s))) (also (scondO s.st (hi.map (ev s))) (slicesO T C s dst t (strip s.st (ev s x)) (lo.map fun y => strip s.st (ev s y)) (hi.map fun y => strip s.st (ev s y)) (mx.map fun y => strip s.st (ev s y)))))
  | .fieldAddr t x i => also (scond s.st (ev s x)) (fieldAddrO T s.st t i (strip s.st (ev s x)))
  | .field t x i => also (scond s.st (ev s x)) (fieldO T t i (strip s.st (ev s x)))
  | .indexAddr t x i => also (scond s.st (ev s x)) (also (scond s.st (ev s i)) (indexAddrO T s.st t (strip s.st (ev s x)) (strip s.st (ev s i))))
  | .index t x i => also (scond s.st (ev s x)) (also (scond s.st (ev s i)) (indexO T t (strip s.st (ev s x)) (strip s.st (ev s i))))
  | .extract x i => also (scond s.st (ev s x)) (extractO i (strip s.st (ev s x)))
  | .call c =>
    match c.callee with
    | .builtin b => also (scondL s.st (c.args.toList.map (ev s))) (builtinO T s b c.argTypes.toList (c.args.toList.map fun x => strip s.st (ev s x)))
    | .value f => callO (c.args.toList.map (ev s)) (ev s f)
    | _ => .bad
  | _ => .bad

end Go.Sx
end
section
/- The abstract run of a function's code: what is left to prove. Definitions. Nothing of a program. -/
namespace Go.Sx
open Go Go.RowKit

inductive Itm where
  | code (c : Code)
  | blk (id : Nat)
  | mark (n : Nat)
  | ops (full : Array Oper) (l : List Oper)

structure SR (c : Ctx) (rd : Rd) (mp : Mp) (s : ASt) (a : Act) (w : World) : Prop where
  slots : ∀ t, Rel rd mp (s.get t) (a.tmps.getD t undef)
  defers : a.defers = []
  mem : Mem c rd mp s.st s.nx w

structure Env where
  P : Program
  T : Nat → TI
  C : Cfg
  fn : Func
  c : Ctx
  rdb : Rd
  mpb : Mp
  nxb : Nat
  R : List (Nat × SO) → Nat → AV → Prop
  X : List (Nat × SO) → Nat → AV → Prop

/-- What was known stays known. -/
structure Base (E : Env) (rd : Rd) (mp : Mp) : Prop where
  rd : Rd.le E.rdb rd
  mp : Mp.le E.mpb mp
  low : ∀ i, E.nxb ≤ i → E.mpb.blk i = none ∧ ∀ j, E.mpb.row i j = none
  std : E.c.fre = stdF

theorem Base.step {E : Env} {rd rd' : Rd} {mp mp' : Mp} (h : Base E rd mp) (hr : Rd.le rd rd') (hp : Mp.le mp mp') : Base E rd' mp' := ⟨h.rd.trans hr, h.mp.trans hp, h.low, h.std⟩

/-- How a function may end: with a value that an abstract one tells of, or in a panic; and the store. -/
def Post (E : Env) : Ending → World → Prop
  | .returned v, w => ∃ x rd mp st nx, E.R st nx x ∧ Rel rd mp x v ∧ Mem E.c rd mp st nx w ∧ Base E rd mp
  | .panicked [⟨v, false, false⟩], w => ∃ x rd mp st nx, E.X st nx x ∧ Rel rd mp x v ∧ Mem E.c rd mp st nx w ∧ Base E rd mp
  | _, _ => False

def QK (E : Env) (B : Nat → ASt → Prop) : List Itm → Exit → Act → World → Prop
  | [], e, a, w => bodyPost E.P E.fn (Post E) e a w
  | .code x :: k, e, a, w => match e with | .normal => x.wp E.P (QK E B k) a w | e => QK E B k e a w
  | .blk id :: k, e, a, w => match e with | .exit id' => if id' = id then QK E B k .normal a w else QK E B k (.exit id') a w | e => QK E B k e a w
  | .mark n :: k, e, a, w => match e with | .normal => a.tmps.size = E.fn.ntmps ∧ ∃ rd mp s, SR E.c rd mp s a w ∧ Base E rd mp ∧ B n s | e => QK E B k e a w
  | .ops full l :: k, e, a, w => match e with | .normal => wpList E.P full (QK E B k) l a w | e => QK E B k e a w

def Ok (E : Env) (B : Nat → ASt → Prop) (k : List Itm) (s : ASt) : Prop := ∀ rd mp a w, SR E.c rd mp s a w → Base E rd mp → a.tmps.size = E.fn.ntmps → QK E B k .normal a w

def RelL (rd : Rd) (mp : Mp) (xs : List AV) (vs : Array Value) : Prop := vs.size = xs.length ∧ ∀ (j : Nat) x v, xs[j]? = some x → vs[j]? = some v → Rel rd mp x v

/-- A call of a function, whether it has a text or is the model's own. -/
def Invokes (P : Program) (f : FuncId) (vs : Array Value) (w : World) (R : Value → World → Prop) (X : List PanicEntry → World → Prop) : Prop :=
  ((callFunc f vs).run P w = .ok (.enter f vs) w ∧ Calls P f vs w fun e w' => (∃ v, e = .returned v ∧ R v w') ∨ ∃ ch, e = .panicked ch ∧ X ch w') ∨
  ∃ v w', (callFunc f vs).run P w = .ok (.value v) w' ∧ R v w'

theorem Invokes.mono {P : Program} {f : FuncId} {vs : Array Value} {w : World} {R R' : Value → World → Prop} {X X' : List PanicEntry → World → Prop} (h : Invokes P f vs w R X) (hr : ∀ v w', R v w' → R' v w') (hx : ∀ ch w', X ch w' → X' ch w') : Invokes P f vs w R' X' := by
  rcases h with ⟨h1, h2⟩ | ⟨v, w', h1, h2⟩
  · refine .inl ⟨h1, h2.mono fun e w' he => ?_⟩
    rcases he with ⟨v, he, hv⟩ | ⟨ch, he, hv⟩
    · exact .inl ⟨v, he, hr _ _ hv⟩
    · exact .inr ⟨ch, he, hx _ _ hv⟩
  · exact .inr ⟨v, w', h1, hr _ _ h2⟩

/-- A call stands next. -/
def CallG (E : Env) (B : Nat → ASt → Prop) (f : FuncId) (args : List AV) (dst : Option Nat) (full : Array Oper) (rest : List Oper) (k : List Itm) (s : ASt) : Prop :=
  ∀ rd mp a w vs, SR E.c rd mp s a w → Base E rd mp → a.tmps.size = E.fn.ntmps → RelL rd mp args vs →
    Invokes E.P f vs w (fun v w' => wpList E.P full (QK E B k) rest (a.put dst v) w') (fun ch w' => QK E B k (.panic ch) a w')

/-- A guarded call stands next. -/
def GCallG (E : Env) (B : Nat → ASt → Prop) (g : Bool) (f : FuncId) (args : List AV) (dst : Option Nat) (full : Array Oper) (rest : List Oper) (k : List Itm) (s : ASt) : Prop :=
  (g = true → CallG E B f args dst full rest k s) ∧
  (g = false → ∀ rd mp a w, SR E.c rd mp s a w → Base E rd mp → a.tmps.size = E.fn.ntmps → wpList E.P full (QK E B k) rest (a.put dst undef) w)

/-- A loop stands next. -/
def LoopG (E : Env) (B : Nat → ASt → Prop) (body : Code) (k : List Itm) (s : ASt) : Prop := Ok E B (.code (.loop body) :: k) s

/-- A region that draws its order stands next. -/
def DrawG (E : Env) (B : Nat → ASt → Prop) (id : Nat) (ops : Array Oper) (k : List Itm) (s : ASt) : Prop := Ok E B (.code (.region id ops true) :: k) s

/-- A cell's value, handed out: rows and boxes are read-only from here on. -/
def frzC (st : List (Nat × SO)) : Nat → AV → AV
  | n + 1, .own r i _ m => match rowAt st r i with
    | some (_, R) => .slc R.sz m (match R.ids with | [] => R.f | _ => fun k => (R.f k).map (frzC st n))
    | none => match look st r with
      | some (.ro sz _ _ f) => .slc sz m f
      | _ => .any
  | n + 1, .ptr b o => match look st b with
    | some (.box _ cs) => .rptr ((cs.drop o).map (frzC st n))
    | _ => .any
  | n + 1, .fn f cs => .fn f (cs.map (frzC st n))
  | _, x => bif x.pure1 then x else .any

def allP {α : Type} (p : α → Prop) : List α → Prop
  | [] => True
  | x :: r => p x ∧ allP p r

theorem allP_get {α : Type} {p : α → Prop} : ∀ {l : List α}, allP p l → ∀ (j : Nat) x, l[j]? = some x → p x
  | [], _, j, x, h => by simp at h
  | y :: r, hk, 0, x, h => by simp at h; subst h; exact hk.1
  | y :: r, hk, j + 1, x, h => by simp at h; exact allP_get hk.2 j x h

/-- What is handed out is as it is just now. -/
def frzOkC (st : List (Nat × SO)) : Nat → AV → Prop
  | n + 1, .own r i e m => match rowAt st r i with
    | some (ob, R) => obT ob ∧ (e = R.ep ∧ m = R.n) ∧ (match R.ids with | [] => True | _ => ∀ k, k < m → allP (frzOkC st n) (R.f k))
    | none => match look st r with
      | some (.ro _ ep n' _) => i = 0 ∧ e = ep ∧ m = n'
      | _ => True
  | n + 1, .ptr b o => match look st b with
    | some (.box _ cs) => ((cs.drop o).all AV.oneOwn = true ∧ obT (ownOb st (cs.drop o))) ∧ allP (frzOkC st n) (cs.drop o)
    | _ => True
  | n + 1, .fn _ cs => allP (frzOkC st n) cs
  | _, _ => True

def frzB (st : List (Nat × SO)) : AV → AV
  | .agg cs => .agg (cs.map (frzC st 4))
  | .cnd b x => .cnd b (frzC st 4 x)
  | x => frzC st 4 x
def frzOkB (st : List (Nat × SO)) : AV → Prop
  | .agg cs => allP (frzOkC st 4) cs
  | .cnd b x => b = true → frzOkC st 4 x
  | x => frzOkC st 4 x
def frzV (st : List (Nat × SO)) : AV → AV
  | .tup vs => .tup (vs.map (frzB st))
  | x => frzB st x
def frzOkV (st : List (Nat × SO)) : AV → Prop
  | .tup vs => allP (frzOkB st) vs
  | x => frzOkB st x

def resV (T : Nat → TI) (s : ASt) : ResultVar → Option AV
  | .tmp t => some (s.get t)
  | .cell t ty => match s.get t with
    | .ptr b o => match look s.st b with
      | some (.box _ cs) => match cellsO (T ty) (cs.drop o) with | .ok _ v => some v | _ => none
      | _ => none
    | _ => none

def resL (T : Nat → TI) (s : ASt) : List ResultVar → Option (List AV)
  | [] => some []
  | r :: rs => match resV T s r, resL T s rs with | some v, some vs => some (v :: vs) | _, _ => none

def resOf (T : Nat → TI) (s : ASt) (rs : List ResultVar) : Option AV :=
  match resL T s rs with
  | some [v] => some v
  | some vs => some (.tup vs)
  | none => none

/-- Something is owed, and the rest. -/
def Ob (p r : Prop) : Prop := p ∧ r
/-- Two ways. -/
def Br (b : Bool) (t e : Prop) : Prop := (b = true → t) ∧ (b = false → e)

theorem Ob.intro {p r : Prop} (h : p) (k : r) : Ob p r := ⟨h, k⟩
theorem Ob.left {p r : Prop} (h : Ob p r) : p := h.1
theorem Ob.right {p r : Prop} (h : Ob p r) : r := h.2
theorem Br.intro {b : Bool} {t e : Prop} (h : b = true → t) (k : b = false → e) : Br b t e := ⟨h, k⟩
theorem Br.yes {b : Bool} {t e : Prop} (h : Br b t e) : b = true → t := h.1
theorem Br.no {b : Bool} {t e : Prop} (h : Br b t e) : b = false → e := h.2

def frcA (v : AV) (K : AV → Prop) : Prop :=
  match v with
  | .agg cs => frcL1 cs fun cs => K (.agg cs)
  | .rptr cs => frcL1 cs fun cs => K (.rptr cs)
  | .cnd b v => frc1 v fun v => K (.cnd b v)
  | v => frc1 v K

theorem frcA_eq (v : AV) (K : AV → Prop) : frcA v K = K v := by cases v <;> simp only [frcA, frcL1_eq, frc1_eq]

def frcLA : List AV → (List AV → Prop) → Prop
  | [], K => K []
  | x :: xs, K => frcA x fun x' => frcLA xs fun xs' => K (x' :: xs')

theorem frcLA_eq : ∀ (xs : List AV) (K : List AV → Prop), frcLA xs K = K xs
  | [], _ => rfl
  | x :: xs, K => by simp only [frcLA, frcA_eq]; exact frcLA_eq xs _

def frc (v : AV) (K : AV → Prop) : Prop :=
  match v with
  | .tup vs => frcLA vs fun vs => K (.tup vs)
  | v => frcA v K

theorem frc_eq (v : AV) (K : AV → Prop) : frc v K = K v := by cases v <;> simp only [frc, frcLA_eq, frcA_eq]

def frcL : List AV → (List AV → Prop) → Prop
  | [], K => K []
  | x :: xs, K => frc x fun x' => frcL xs fun xs' => K (x' :: xs')

theorem frcL_eq : ∀ (xs : List AV) (K : List AV → Prop), frcL xs K = K xs
  | [], _ => rfl
  | x :: xs, K => by simp only [frcL, frc_eq]; exact frcL_eq xs _

def frcSt : List (Nat × SO) → (List (Nat × SO) → Prop) → Prop
  | [], K => K []
  | (i, .box t cs) :: r, K => frcN i fun i => frcL1 cs fun cs => frcSt r fun r => K ((i, .box t cs) :: r)
  | (i, .row ids e sz ep n f) :: r, K => frcN i fun i => frcN sz fun sz => frcSt r fun r => K ((i, .row ids e sz ep n f) :: r)
  | (i, .fam e sz cnt ep len f) :: r, K => frcSt r fun r => K ((i, .fam e sz cnt ep len f) :: r)
  | (i, .ro sz ep n f) :: r, K => frcN i fun i => frcSt r fun r => K ((i, .ro sz ep n f) :: r)

theorem frcSt_eq : ∀ (st : List (Nat × SO)) (K : List (Nat × SO) → Prop), frcSt st K = K st
  | [], _ => rfl
  | (i, .box t cs) :: r, K => by simp only [frcSt, frcN_eq, frcL1_eq]; exact frcSt_eq r _
  | (i, .row ids e sz ep n f) :: r, K => by simp only [frcSt, frcN_eq]; exact frcSt_eq r _
  | (i, .fam e sz cnt ep len f) :: r, K => by simp only [frcSt, frcN_eq]; exact frcSt_eq r _
  | (i, .ro sz ep n f) :: r, K => by simp only [frcSt, frcN_eq]; exact frcSt_eq r _

def RetG (E : Env) (s : ASt) : Prop :=
  match resOf E.T s E.fn.results.toList with
  | some v => frc v fun v => E.R s.st s.nx v
  | none => False

def cj : Option DP → Prop → Prop
  | none, r => r
  | some ⟨p, _, _⟩, r => Ob p r

def gob (g : Bool) : Option DP → Option DP
  | none => none
  | some ⟨p, b, h⟩ => some ⟨g = true → p, !g || b, fun e hg => h (by rw [hg] at e; simpa using e)⟩

def popTo (id : Nat) : List Itm → Option (List Itm)
  | [] => none
  | .blk id' :: k => bif Nat.beq id' id then some k else popTo id k
  | _ :: k => popTo id k

def dstOk (E : Env) : Option Nat → Bool
  | some d => Nat.blt d E.fn.ntmps
  | none => true

/-- The Bool of a guard: the slot's Bool, and whether it is there at all. -/
def guardB : Bool → AV → Option Bool
  | true, .bool p => some p
  | false, .bool p => some (!p)
  | true, .cnd q (.bool p) => some (q && p)
  | false, .cnd q (.bool p) => some (q && !p)
  | _, _ => none

def guardSlot (full : Array Oper) (j : Nat) : Option Nat := (full.toList[j]?).bind (·.dst)

def putSl (sl : List (Nat × AV)) : Option Nat → AV → List (Nat × AV)
  | some d, v => (d, v) :: sl
  | none, _ => sl

/-- The slots with one more, laid open. -/
def frcSl (sl : List (Nat × AV)) (d : Option Nat) (K : List (Nat × AV) → Prop) (v : AV) : Prop :=
  match d with
  | some d => K ((d, v) :: sl)
  | none => K sl

theorem frcSl_eq (sl : List (Nat × AV)) (d : Option Nat) (K : List (Nat × AV) → Prop) (v : AV) : frcSl sl d K v = K (putSl sl d v) := by cases d <;> rfl

/-- The abstract run: n bounds the steps. -/
def exec (E : Env) (B : Nat → ASt → Prop) : Nat → List Itm → ASt → Prop
  | 0, _, _ => False
  | n + 1, k, ⟨sl, st, nx⟩ =>
    match k with
    | [] => RetG E ⟨sl, st, nx⟩
    | .blk _ :: k => exec E B n k ⟨sl, st, nx⟩
    | .mark m :: _ => B m ⟨sl, st, nx⟩
    | .code c :: k =>
      match c with
      | .skip => exec E B n k ⟨sl, st, nx⟩
      | .label _ => exec E B n k ⟨sl, st, nx⟩
      | .seq x y => exec E B n (.code x :: .code y :: k) ⟨sl, st, nx⟩
      | .block id x => exec E B n (.code x :: .blk id :: k) ⟨sl, st, nx⟩
      | .cond o x y =>
        match ev ⟨sl, st, nx⟩ o with
        | .bool p => Br p (exec E B n (.code x :: k) ⟨sl, st, nx⟩) (exec E B n (.code y :: k) ⟨sl, st, nx⟩)
        | .cnd q (.bool p) => Ob (q = true) (Br p (exec E B n (.code x :: k) ⟨sl, st, nx⟩) (exec E B n (.code y :: k) ⟨sl, st, nx⟩))
        | _ => False
      | .loop b => LoopG E B b k ⟨sl, st, nx⟩
      | .exit id => match popTo id k with | some k' => exec E B n k' ⟨sl, st, nx⟩ | none => False
      | .ret => RetG E ⟨sl, st, nx⟩
      | .region id ops d =>
        match d with
        | true => DrawG E B id ops k ⟨sl, st, nx⟩
        | false => exec E B n (.ops ops ops.toList :: k) ⟨sl, st, nx⟩
      | _ => False
    | .ops _ [] :: k => exec E B n k ⟨sl, st, nx⟩
    | .ops full (⟨dst, op, _, _, _, guard⟩ :: rest) :: k =>
      match dstOk E dst with
      | true =>
        match guard with
        | none =>
          match aop E.T E.C ⟨sl, st, nx⟩ dst op with
          | .ok ob v => cj ob (frc v (frcSl sl dst (fun sl' => exec E B n (.ops full rest :: k) ⟨sl', st, nx⟩)))
          | .mem ob v st' nx' => cj ob (frcN nx' fun nx' => frcSt st' fun st' => frc v (frcSl sl dst (fun sl' => exec E B n (.ops full rest :: k) ⟨sl', st', nx'⟩)))
          | .call f args => frcL args fun args => CallG E B f args dst full rest k ⟨sl, st, nx⟩
          | .bad => False
        | some (j, want) =>
          match (guardSlot full j).map (ASt.get ⟨sl, st, nx⟩) with
          | some x =>
            match guardB want x with
            | some g =>
              match aop E.T E.C ⟨sl, st, nx⟩ dst op with
              | .ok ob v => cj (gob g (andO (scond st v) ob)) (frc (strip st v) (fun v' => frcSl sl dst (fun sl' => exec E B n (.ops full rest :: k) ⟨sl', st, nx⟩) (.cnd g v')))
              | .mem ob v st' nx' => Br g (cj ob (frcN nx' fun nx' => frcSt st' fun st' => frc v (frcSl sl dst (fun sl' => exec E B n (.ops full rest :: k) ⟨sl', st', nx'⟩)))) (frcSl sl dst (fun sl' => exec E B n (.ops full rest :: k) ⟨sl', st, nx⟩) .any)
              | .call f args => frcL args fun args => GCallG E B g f args dst full rest k ⟨sl, st, nx⟩
              | .bad => Br g False (frcSl sl dst (fun sl' => exec E B n (.ops full rest :: k) ⟨sl', st, nx⟩) .any)
            | none => False
          | none => False
      | false => False

attribute [irreducible] CallG GCallG LoopG DrawG Ob Br

end Go.Sx
end
section
/- Soundness of the abstract operations, first part: values, numbers, texts. Nothing of a program. -/
namespace Go.Sx
open Go Go.RowKit

variable {P : Program} {T : Nat → TI} {C : Cfg} {c : Ctx} {rd : Rd} {mp : Mp} {s : ASt} {a : Act} {w : World}

theorem tab_none {t : TypeId} (h : P.info? t = none) : tab P t = ⟨.other, 0, 0, [], false⟩ := by simp [tab, h]

theorem underlying_some {t : TypeId} {d : TypeDesc} (h : P.underlying t = some d) : ∃ i, P.info? t = some i := by
  unfold Program.underlying at h
  cases hi : P.info? t with
  | none => rw [hi] at h; cases h
  | some i => exact ⟨i, rfl⟩

theorem tab_some {t : TypeId} {i : TypeInfo} {d : TypeDesc} (h : P.info? t = some i) (hd : P.underlying t = some d) :
    tab P t = ⟨kdOf d, i.size, i.bytes, zeroOf i, cmpOf P t d⟩ := by simp [tab, h, hd]

/-- A type whose kind is told has its row in the table. -/
theorem tab_kd (hT : ∀ t, T t = tab P t) {t : TypeId} (h : (T t).kd ≠ .other) : ∃ i d, P.info? t = some i ∧ P.underlying t = some d ∧ (T t).kd = kdOf d ∧ (T t).size = i.size ∧ (T t).bytes = i.bytes ∧
    (T t).zero = zeroOf i ∧ (T t).cmp = cmpOf P t d := by
  rw [hT] at h ⊢
  cases hi : P.info? t with
  | none => rw [tab_none hi] at h; exact absurd rfl h
  | some i =>
    cases hd : P.underlying t with
    | none => simp [tab, hi, hd] at h
    | some d => rw [tab_some hi hd]; exact ⟨i, d, rfl, rfl, rfl, rfl, rfl, rfl, rfl⟩

theorem tab_slice (hT : ∀ t, T t = tab P t) {t e : TypeId} (h : (T t).kd = .slice e) : P.underlying t = some (.slice e) := by
  obtain ⟨i, d, _, hd, hk, _⟩ := tab_kd hT (t := t) (by rw [h]; simp)
  rw [h] at hk
  cases d <;> simp [kdOf] at hk
  subst hk; exact hd

theorem tab_str (hT : ∀ t, T t = tab P t) {t : TypeId} (h : (T t).kd = .str) : P.underlying t = some .string := by
  obtain ⟨i, d, _, hd, hk, _⟩ := tab_kd hT (t := t) (by rw [h]; simp)
  rw [h] at hk
  cases d <;> simp [kdOf] at hk
  exact hd

theorem tab_int (hT : ∀ t, T t = tab P t) {t : TypeId} {k : IntKind} (h : (T t).kd = .int k) : P.underlying t = some (.int k) := by
  obtain ⟨i, d, _, hd, hk, _⟩ := tab_kd hT (t := t) (by rw [h]; simp)
  rw [h] at hk
  cases d <;> simp [kdOf] at hk
  subst hk; exact hd

theorem tab_bool (hT : ∀ t, T t = tab P t) {t : TypeId} (h : (T t).kd = .bool) : P.underlying t = some .bool := by
  obtain ⟨i, d, _, hd, hk, _⟩ := tab_kd hT (t := t) (by rw [h]; simp)
  rw [h] at hk
  cases d <;> simp [kdOf] at hk
  exact hd

theorem tab_array (hT : ∀ t, T t = tab P t) {t : TypeId} {n : Nat} {e : TypeId} (h : (T t).kd = .array n e) : P.underlying t = some (.array n e) := by
  obtain ⟨i, d, _, hd, hk, _⟩ := tab_kd hT (t := t) (by rw [h]; simp)
  rw [h] at hk
  cases d <;> simp [kdOf] at hk
  obtain ⟨rfl, rfl⟩ := hk; exact hd

theorem tab_struct (hT : ∀ t, T t = tab P t) {t : TypeId} {fs : List (Nat × TypeId)} (h : (T t).kd = .struct fs) :
    ∃ fields : Array Field, P.underlying t = some (.struct fields) ∧ fs = fields.toList.map fun f => (f.offset, f.type) := by
  obtain ⟨i, d, _, hd, hk, _⟩ := tab_kd hT (t := t) (by rw [h]; simp)
  rw [h] at hk
  cases d <;> simp [kdOf] at hk
  exact ⟨_, hd, hk⟩

/-- A type that has a size has its row in the table. -/
theorem tab_size (hT : ∀ t, T t = tab P t) {t : TypeId} (h : 1 ≤ (T t).size) : ∃ i, P.info? t = some i ∧ (T t).size = i.size ∧ (T t).bytes = i.bytes ∧
    (T t).zero = zeroOf i := by
  rw [hT] at h ⊢
  unfold tab at h ⊢
  split at h
  · rename_i i d h1 h2
    exact ⟨i, h1, rfl, rfl, rfl⟩
  · simp at h

theorem isAgg_run (hT : ∀ t, T t = tab P t) {t : TypeId} (h : 1 ≤ (T t).size) (w : World) : (isAgg t).run P w = .ok (isAggK (T t).kd) w := by
  rw [hT] at h ⊢
  unfold tab at h ⊢
  split at h
  · rename_i i d h1 h2
    simp only [isAgg, Sem.run_bind, run_underlying h2, Result.andThen]
    cases d <;> simp [kdOf, isAggK]
  · simp at h

theorem rel_ofVal1 (rd : Rd) (mp : Mp) (v : Value) : Rel rd mp (ofVal1 v) v := by
  unfold ofVal1
  split <;> first | exact .int _ _ _ | exact .bool _ _ | exact .any _ _ | exact .nils _ | exact .nilp _ | skip
  rename_i s
  have : s = ⟨s.data.toList.toArray⟩ := by cases s; simp
  conv => arg 4; rw [this]
  exact .str _ _

theorem rel_ofVal (rd : Rd) (mp : Mp) (v : Value) : Rel rd mp (ofVal v) v := by
  cases v with
  | agg cs =>
    simp only [ofVal]
    refine .agg _ _ _ (by simp) (fun j x u hx hu => ?_)
    simp [hu] at hx
    subst hx
    exact rel_ofVal1 rd mp u
  | _ => simp only [ofVal]; apply rel_ofVal1

/-- What an operand is. -/
theorem rel_ev (h : SR c rd mp s a w) (x : Operand) : Rel rd mp (ev s x) (a.eval x) := by
  cases x with
  | tmp t => exact h.slots t
  | const v => exact rel_ofVal rd mp v
  | global g => exact .any _ _
  | func f => exact .fn _ _ _ _ rfl (fun j x v hx _ => by simp at hx)

theorem rel_strip {st : List (Nat × SO)} {nx : Nat} (hm : Mem c rd mp st nx w) {x : AV} {v : Value} (h : Rel rd mp x v) (hc : obT (scond st x)) : Rel rd mp (strip st x) v := by
  cases x with
  | cnd q y =>
    cases h with
    | cnd _ _ _ _ h _ => exact h hc
  | own r i e n =>
    simp only [strip]
    split
    · rename_i sz ep m f hl
      simp only [scond, hl] at hc
      obtain ⟨rfl, rfl, rfl⟩ := hc
      obtain ⟨v', h1, h2⟩ := hm.ro _ _ _ _ _ hl
      cases h with
      | own _ _ _ _ _ _ vr er nr g1 g2 g3 g4 _ =>
        rw [h1] at g1; cases g1
        rw [g4 rfl rfl]
        exact h2.mono (Rd.le.refl _) (Mp.none_le _)
    · exact h
  | _ => exact h

theorem rel_int {k : IntKind} {n : Int} {v : Value} (h : Rel rd mp (.int k n) v) : v = .int k n := by cases h; rfl
theorem rel_bool {b : Bool} {v : Value} (h : Rel rd mp (.bool b) v) : v = .bool b := by cases h; rfl
theorem rel_str {l : List UInt8} {v : Value} (h : Rel rd mp (.str l) v) : v = .string ⟨l.toArray⟩ := by cases h; rfl

theorem wrap_in {k : IntKind} {n : Int} (h : inR k n) : k.wrap n = n := by
  unfold inR at h
  cases k <;> simp [IntKind.min, IntKind.max, IntKind.wrap, IntKind.signed, IntKind.bits] at h ⊢ <;> (try split) <;> omega

theorem rowAt_mem {st : List (Nat × SO)} {r i : Nat} {ob : Option DP} {R : RowV} (h : rowAt st r i = some (ob, R)) (hob : obT ob) : IsMem st r i R := by
  unfold rowAt at h
  split at h
  · rename_i ids e sz ep n f hl
    cases hi : Nat.beq i 0 with
    | false => simp [hi] at h
    | true =>
      simp only [hi, cond_true, Option.some.injEq, Prod.mk.injEq] at h
      obtain ⟨rfl, rfl⟩ := h
      obtain rfl : i = 0 := Nat.eq_of_beq_eq_true hi
      exact .row hl
  · rename_i e sz cnt ep len f hl
    simp only [Option.some.injEq, Prod.mk.injEq] at h
    obtain ⟨rfl, rfl⟩ := h
    exact .fam hl hob
  · cases h

theorem rel_own {r i e n : Nat} {v : Value} (hr : Rel rd mp (.own r i e n) v) : ∃ vr er nr, mp.row r i = some (vr, er, nr) ∧ e ≤ er ∧ (e = er → n ≤ nr) ∧ (e = er → n = nr → v = vr) := by
  cases hr with
  | own _ _ _ _ _ _ vr er nr h1 h2 h3 h4 _ => exact ⟨vr, er, nr, h1, h2, h3, h4⟩

theorem rel_eptr {r i e n sz k o : Nat} {v : Value} (hr : Rel rd mp (.eptr r i e n sz k o) v) : ∃ vr er nr, mp.row r i = some (vr, er, nr) ∧ e ≤ er ∧ (e = er → n ≤ nr) ∧
    (e = er → n = nr → ∃ g lo cap, vr = .slice (some ⟨g, lo, none⟩) n cap ∧ v = .pointer (some ⟨g, lo + (k * sz + o), none⟩)) := by
  cases hr with
  | eptr _ _ _ _ _ _ _ _ _ vr er nr h1 h2 h3 h4 => exact ⟨vr, er, nr, h1, h2, h3, h4⟩

/-- A row that is as it was told: its value, its cells. -/
theorem own_now {st : List (Nat × SO)} {nx : Nat} (hm : Mem c rd mp st nx w) {r i e n : Nat} {ob : Option DP} {R : RowV} {v : Value} (hr : rowAt st r i = some (ob, R)) (hob : obT ob) (hx : Rel rd mp (.own r i e n) v) (hn : e = R.ep ∧ n = R.n) :
    ∃ xs, mp.row r i = some (v, R.ep, R.n) ∧ Owns w R.e R.sz v R.n xs ∧ (∀ k, k < R.n → (R.f k).length = R.sz) ∧
      (∀ (k j : Nat) x, k < R.n → (R.f k)[j]? = some x → ∃ u, xs[k * R.sz + j]? = some u ∧ u.oneCell' = true ∧ Rel rd (mp.sel R.ids) x u) ∧
      (∀ g, v.ownBlock = some g → (∀ o, rd g o = none) ∧ (c.w0.heap.size ≤ g ∨ c.fx g)) := by
  obtain ⟨v', xs, h1, h2⟩ := hm.mb r i R (rowAt_mem hr hob)
  obtain ⟨vr, er, nr, g1, _, _, g4⟩ := rel_own hx
  rw [h1] at g1; cases g1
  cases g4 hn.1 hn.2
  exact ⟨xs, h1, h2⟩

/-- What a quiet operation leaves. -/
def Quiet (P : Program) (c : Ctx) (rd : Rd) (mp : Mp) (st : List (Nat × SO)) (nx : Nat) (w : World) (v : AV) (m : Sem Value) : Prop :=
  ∃ x w' rd', m.run P w = .ok x w' ∧ Rd.le rd rd' ∧ Mem c rd' mp st nx w' ∧ Rel rd' mp v x

/-- What an operation that turns the store leaves. -/
def Turns (P : Program) (c : Ctx) (rd : Rd) (mp : Mp) (st' : List (Nat × SO)) (nx' : Nat) (w : World) (v : AV) (m : Sem Value) : Prop :=
  ∃ x w' rd' mp', m.run P w = .ok x w' ∧ Rd.le rd rd' ∧ Mp.le mp mp' ∧ Mem c rd' mp' st' nx' w' ∧ Rel rd' mp' v x

/-- What is to be shown of an operation. -/
def Fits (P : Program) (c : Ctx) (rd : Rd) (mp : Mp) (st : List (Nat × SO)) (nx : Nat) (w : World) (r : OR) (m : Sem Value) : Prop :=
  match r with
  | .ok ob v => obT ob → Quiet P c rd mp st nx w v m
  | .mem ob v st' nx' => obT ob → Turns P c rd mp st' nx' w v m
  | .call _ _ => False
  | .bad => True

theorem Quiet.here {st : List (Nat × SO)} {nx : Nat} {v : AV} {m : Sem Value} {x : Value} (hm : Mem c rd mp st nx w) (hr : m.run P w = .ok x w) (h : Rel rd mp v x) : Quiet P c rd mp st nx w v m :=
  ⟨x, w, rd, hr, Rd.le.refl _, hm, h⟩

theorem Fits.also {st : List (Nat × SO)} {nx : Nat} {r : OR} {m : Sem Value} {p : Option DP} (h : obT p → Fits P c rd mp st nx w r m) : Fits P c rd mp st nx w (also p r) m := by
  cases r with
  | ok ob v => exact fun hob => h ((obT_andO _ _).1 hob).1 ((obT_andO _ _).1 hob).2
  | mem ob v st' nx' => exact fun hob => h ((obT_andO _ _).1 hob).1 ((obT_andO _ _).1 hob).2
  | call f args => trivial
  | bad => trivial

theorem fits_arith {st : List (Nat × SO)} {nx : Nat} (hm : Mem c rd mp st nx w) (wr : Bool) (k : IntKind) (n : Int) (m : Sem Value) (hr : m.run P w = .ok (.int k (k.wrap n)) w) : Fits P c rd mp st nx w (arith wr k n) m := by
  cases wr with
  | true => exact fun _ => .here hm hr (.int _ _ _)
  | false => exact fun h => .here hm hr (by rw [wrap_in h]; exact .int _ _ _)

theorem fits_int {st : List (Nat × SO)} {nx : Nat} (hm : Mem c rd mp st nx w) (wr : Bool) (op : BinOp) (t : TypeId) (k : IntKind) (x y : Int) : Fits P c rd mp st nx w (intO wr op k x y) (binOp op t (.int k x) (.int k y)) := by
  cases op with
  | add => exact fits_arith hm _ _ _ _ (by simp [binOp, Op.intArith])
  | sub => exact fits_arith hm _ _ _ _ (by simp [binOp, Op.intArith])
  | mul => exact fits_arith hm _ _ _ _ (by simp [binOp, Op.intArith])
  | quo => exact fun h => .here hm (by simp [binOp, Op.intDiv, h.1]; rfl) (by rw [wrap_in h.2]; exact .int _ _ _)
  | rem => exact fun h => .here hm (x := .int k (x.tmod y)) (by have h' : y ≠ 0 := h; simp [binOp, Op.intDiv, h']) (.int _ _ _)
  | and => exact fun _ => .here hm (x := .int k (bitI .and k x y)) (by simp [binOp, Op.intBits, bitI]) (.int _ _ _)
  | or => exact fun _ => .here hm (x := .int k (bitI .or k x y)) (by simp [binOp, Op.intBits, bitI]) (.int _ _ _)
  | xor => exact fun _ => .here hm (x := .int k (bitI .xor k x y)) (by simp [binOp, Op.intBits, bitI]) (.int _ _ _)
  | eql => exact fun _ => .here hm (x := .bool (x == y)) (by simp [binOp, Op.intCmp]) (.bool _ _)
  | neq => exact fun _ => .here hm (x := .bool (x != y)) (by simp [binOp, Op.intCmp]) (.bool _ _)
  | lss => exact fun _ => .here hm (x := .bool (decide (x < y))) (by simp [binOp, Op.intCmp]) (.bool _ _)
  | leq => exact fun _ => .here hm (x := .bool (decide (x ≤ y))) (by simp [binOp, Op.intCmp]) (.bool _ _)
  | gtr => exact fun _ => .here hm (x := .bool (decide (y < x))) (by simp [binOp, Op.intCmp]) (.bool _ _)
  | geq => exact fun _ => .here hm (x := .bool (decide (y ≤ x))) (by simp [binOp, Op.intCmp]) (.bool _ _)
  | _ => trivial

end Go.Sx
end
section
/- Soundness of the abstract operations, second part: texts, structs, picks, indexes, slices, fields. Nothing of a program. -/
namespace Go.Sx
open Go Go.RowKit

variable {P : Program} {T : Nat → TI} {C : Cfg} {c : Ctx} {rd : Rd} {mp : Mp} {st : List (Nat × SO)} {nx : Nat} {w : World}

theorem toList_bytes (l : List UInt8) : (⟨l.toArray⟩ : ByteArray).toList = l := by rw [ByteArray.toList_eq]
theorem size_bytes (l : List UInt8) : (⟨l.toArray⟩ : ByteArray).size = l.length := by simp [ByteArray.size]

theorem fits_str (hm : Mem c rd mp st nx w) (op : BinOp) (t : TypeId) (x y : List UInt8) : Fits P c rd mp st nx w (strO op x y) (binOp op t (.string ⟨x.toArray⟩) (.string ⟨y.toArray⟩)) := by
  cases op with
  | add =>
    intro h
    have h' : x.length + y.length ≤ 9223372036854775807 := h
    have hx : (⟨x.toArray⟩ : ByteArray) ++ ⟨y.toArray⟩ = ⟨(x ++ y).toArray⟩ := by
      apply ByteArray.ext
      simp
    refine .here hm (x := .string ⟨(x ++ y).toArray⟩) ?_ (.str _ _)
    have hn : ¬ (((⟨x.toArray⟩ : ByteArray).size + (⟨y.toArray⟩ : ByteArray).size : Nat) : Int) > IntKind.i64.max := by
      rw [size_bytes, size_bytes]; simp [IntKind.max, IntKind.signed, IntKind.bits]; omega
    simp only [binOp, Op.stringOp, hn, if_false, hx]
    rfl
  | eql => exact fun _ => .here hm (x := .bool (x == y)) (by simp [binOp, Op.stringOp]) (.bool _ _)
  | neq => exact fun _ => .here hm (x := .bool (!(x == y))) (by simp [binOp, Op.stringOp]) (.bool _ _)
  | lss => exact fun _ => .here hm (x := .bool (Op.bytesLess x y)) (by simp [binOp, Op.stringOp]) (.bool _ _)
  | _ => trivial

theorem rel_agg {cs : List AV} {v : Value} (h : Rel rd mp (.agg cs) v) : ∃ vs : Array Value, v = .agg vs ∧ vs.size = cs.length ∧ ∀ (j : Nat) x u, cs[j]? = some x → vs[j]? = some u → Rel rd mp x u := by
  cases h with
  | agg _ _ vs hs he => exact ⟨vs, rfl, hs, he⟩

theorem rel_tup {cs : List AV} {v : Value} (h : Rel rd mp (.tup cs) v) : ∃ vs : Array Value, v = .tuple vs ∧ vs.size = cs.length ∧ ∀ (j : Nat) x u, cs[j]? = some x → vs[j]? = some u → Rel rd mp x u := by
  cases h with
  | tup _ _ vs hs he => exact ⟨vs, rfl, hs, he⟩

theorem part_plain (hT : ∀ t, T t = tab P t) {t : TypeId} (hk : (T t).kd ≠ .other) (ha : isAggK (T t).kd = false) (vs : Array Value) (o : Nat) (v : Value) (h : vs[o]? = some v) (w : World) : (part t vs o).run P w = .ok v w := by
  obtain ⟨i, d, h1, h2, h3, _⟩ := tab_kd hT hk
  have hg : (isAgg t).run P w = .ok false w := by
    simp only [isAgg, Sem.run_bind, run_underlying h2, Result.andThen]
    rw [h3] at ha
    cases d <;> simp [kdOf, isAggK] at ha ⊢
  simp [part, hg, h]

/-- The fields' loop over plain cells. -/
theorem eqFields_run (hT : ∀ t, T t = tab P t) (d : Nat) (vs us : Array Value) : ∀ (fs : List Field) (i : Nat) (xs ys : List AV) (b : Bool),
    (fs.all fun f => f.name != "_") = true →
    (∀ (j : Nat) x, xs[j]? = some x → ∃ u, vs[i + j]? = some u ∧ Rel rd mp x u) → (∀ (j : Nat) x, ys[j]? = some x → ∃ u, us[i + j]? = some u ∧ Rel rd mp x u) →
    eqCells T i (fs.map fun f => (f.offset, f.type)) xs ys = some b → (Op.eqFields (d + 1) vs us fs).run P w = .ok b w := by
  intro fs
  induction fs with
  | nil =>
    intro i xs ys b _ _ _ hb
    cases xs <;> cases ys <;> simp [eqCells] at hb
    subst hb
    simp [Op.eqFields]
  | cons f fs ih =>
    intro i xs ys b hn hvs hus hb
    cases xs with
    | nil => simp [eqCells] at hb
    | cons x xs =>
      cases ys with
      | nil => simp [eqCells] at hb
      | cons y ys =>
        simp only [List.map_cons, eqCells] at hb
        cases ho : Nat.beq f.offset i with
        | false => simp [ho] at hb
        | true =>
          simp only [ho, cond_true] at hb
          have ho' : f.offset = i := Nat.eq_of_beq_eq_true ho
          simp only [List.all_cons, Bool.and_eq_true] at hn
          have hnm : f.name ≠ "_" := by simpa using hn.1
          obtain ⟨u, hu, hru⟩ := hvs 0 x rfl
          obtain ⟨u', hu', hru'⟩ := hus 0 y rfl
          simp only [Nat.add_zero] at hu hu'
          have hvs' : ∀ (j : Nat) z, xs[j]? = some z → ∃ u, vs[(i + 1) + j]? = some u ∧ Rel rd mp z u := fun j z hz => by
            have := hvs (j + 1) z (by simpa using hz)
            rwa [show i + (j + 1) = i + 1 + j by omega] at this
          have hus' : ∀ (j : Nat) z, ys[j]? = some z → ∃ u, us[(i + 1) + j]? = some u ∧ Rel rd mp z u := fun j z hz => by
            have := hus (j + 1) z (by simpa using hz)
            rwa [show i + (j + 1) = i + 1 + j by omega] at this
          have step : ∀ q : Bool, (Op.equalIn (d + 1) f.type u u').run P w = .ok q w → (isAggK (T f.type).kd = false ∧ (T f.type).kd ≠ .other) →
              ∀ b', eqCells T (i + 1) (fs.map fun f => (f.offset, f.type)) xs ys = some b' → b = (q && b') → (Op.eqFields (d + 1) vs us (f :: fs)).run P w = .ok b w := by
            intro q hq hagg b' hb' hbb
            have p1 := part_plain hT hagg.2 hagg.1 vs f.offset u (by rw [ho']; exact hu) w
            have p2 := part_plain hT hagg.2 hagg.1 us f.offset u' (by rw [ho']; exact hu') w
            have hrest := ih (i + 1) xs ys b' hn.2 hvs' hus' hb'
            cases q with
            | true => simp [Op.eqFields, hnm, p1, p2, hq, hrest, hbb]
            | false => simp [Op.eqFields, hnm, p1, p2, hq, hbb]
          split at hb
          · rename_i k2 k n k' n' hkt
            by_cases hkk : k = k'
            · subst hkk
              simp only [decide_true, cond_true, Option.map_eq_some_iff] at hb
              obtain ⟨b', hb', rfl⟩ := hb
              rw [rel_int hru, rel_int hru'] at step
              exact step _ (run_equalIn_int w d f.type k k2 n n' (tab_int hT hkt)) (by rw [hkt]; simp [isAggK]) b' hb' rfl
            · simp [hkk] at hb
          · rename_i p q hkt
            simp only [Option.map_eq_some_iff] at hb
            obtain ⟨b', hb', rfl⟩ := hb
            rw [rel_bool hru, rel_bool hru'] at step
            exact step _ (run_equalIn_bool' w d f.type p q (tab_bool hT hkt)) (by rw [hkt]; simp [isAggK]) b' hb' rfl
          · rename_i p q hkt
            simp only [Option.map_eq_some_iff] at hb
            obtain ⟨b', hb', rfl⟩ := hb
            rw [rel_str hru, rel_str hru'] at step
            refine step _ ?_ (by rw [hkt]; simp [isAggK]) b' hb' rfl
            rw [run_equalIn_string w d f.type _ _ (tab_str hT hkt), toList_bytes, toList_bytes]
          · cases hb

theorem fits_agg (hT : ∀ t, T t = tab P t) (hm : Mem c rd mp st nx w) (neg : Bool) (t : TypeId) (xs ys : List AV) (u v : Value) (hu : Rel rd mp (.agg xs) u) (hv : Rel rd mp (.agg ys) v) (xo yo : Operand) :
    Fits P c rd mp st nx w (aggO T neg t xs ys) (do eqGuard (if neg then .neq else .eql) t xo yo u v; binOp (if neg then .neq else .eql) t u v) := by
  unfold aggO
  split
  · rename_i fs hk
    · cases he : eqCells T 0 fs xs ys with
      | none => trivial
      | some b =>
        intro hc
        simp only [obT] at hc
        obtain ⟨us, rfl, hus, hue⟩ := rel_agg hu
        obtain ⟨vs, rfl, hvs, hve⟩ := rel_agg hv
        obtain ⟨fields, hd, rfl⟩ := tab_struct hT hk
        obtain ⟨i, d, h1, h2, _, _, _, _, h3⟩ := tab_kd hT (t := t) (by rw [hk]; simp)
        rw [hd] at h2; cases h2
        rw [h3] at hc
        simp only [cmpOf, Bool.and_eq_true, Bool.not_eq_true'] at hc
        have hf : P.fieldsOf t = fields := by simp [Program.fieldsOf, hd]
        have hrun := run_equalIn_struct w 9999 t us vs (by rw [hf]; exact hd) hc.1.1
        rw [hf] at hrun
        have heq := eqFields_run (rd := rd) (mp := mp) (w := w) hT 9998 us vs fields.toList 0 xs ys b hc.2
          (fun j x hx => by
            have hj : j < us.size := by rw [hus]; exact (List.getElem?_eq_some_iff.1 hx).1
            exact ⟨us[j], by simp [hj], hue j x _ hx (by simp [hj])⟩)
          (fun j x hx => by
            have hj : j < vs.size := by rw [hvs]; exact (List.getElem?_eq_some_iff.1 hx).1
            exact ⟨vs[j], by simp [hj], hve j x _ hx (by simp [hj])⟩) he
        rw [heq] at hrun
        cases neg with
        | false => exact .here hm (x := .bool b) (by simp [eqGuard, binOp, Op.equal, Op.maxDepth, hrun, hc.1.2]) (.bool _ _)
        | true => exact .here hm (x := .bool (!b)) (by simp [eqGuard, binOp, Op.equal, Op.maxDepth, hrun, hc.1.2]) (.bool _ _)
  · trivial

end Go.Sx
end
section
/- Soundness of the abstract operations, third part: indexes, slices, addresses, loads and stores. Nothing of a program. -/
namespace Go.Sx
open Go Go.RowKit

variable {P : Program} {T : Nat → TI} {C : Cfg} {c : Ctx} {rd : Rd} {mp : Mp} {st : List (Nat × SO)} {nx : Nat} {w : World}

theorem fits_pick (hm : Mem c rd mp st nx w) (x y z : AV) (vx vy vz : Value) (hx : Rel rd mp x vx) (hy : Rel rd mp y vy) (hz : Rel rd mp z vz) :
    Fits P c rd mp st nx w (pickO x y z) (do pure (if ← asBool vx then vy else vz)) := by
  unfold pickO
  split
  · rename_i p b1 b2
    intro _
    cases rel_bool hx; cases rel_bool hy; cases rel_bool hz
    exact .here hm (x := .bool (bif p then b1 else b2)) (by cases p <;> simp [asBool]) (.bool _ _)
  · rename_i p q b1 b2
    intro h
    cases rel_bool hx; cases rel_bool hz
    cases p with
    | false => exact .here hm (x := .bool b2) (by simp [asBool]) (.bool _ _)
    | true =>
      cases hy with
      | cnd _ _ _ _ hy _ =>
        cases rel_bool (hy (h rfl))
        exact .here hm (x := .bool b1) (by simp [asBool]) (.bool _ _)
  · rename_i p b1 q b2
    intro h
    cases rel_bool hx; cases rel_bool hy
    cases p with
    | true => exact .here hm (x := .bool b1) (by simp [asBool]) (.bool _ _)
    | false =>
      cases hz with
      | cnd _ _ _ _ hz _ =>
        cases rel_bool (hz (h rfl))
        exact .here hm (x := .bool b2) (by simp [asBool]) (.bool _ _)
  · trivial

theorem fits_and (hm : Mem c rd mp st nx w) (x y : AV) (vx vy : Value) (hx : Rel rd mp x vx) (hy : Rel rd mp y vy) :
    Fits P c rd mp st nx w (andP x y) (do pure (if ← asBool vx then vy else .bool false)) := by
  unfold andP
  split
  · rename_i p b1
    intro _
    cases rel_bool hx; cases rel_bool hy
    exact .here hm (x := .bool (p && b1)) (by cases p <;> simp [asBool]) (.bool _ _)
  · rename_i p q b1
    intro h
    cases rel_bool hx
    cases p with
    | false => exact .here hm (x := .bool false) (by simp [asBool]) (.bool _ _)
    | true =>
      cases hy with
      | cnd _ _ _ _ hy _ =>
        cases rel_bool (hy (h rfl))
        exact .here hm (x := .bool b1) (by simp [asBool]) (by rw [Bool.true_and]; exact .bool _ _)
  · trivial

theorem fits_or (hm : Mem c rd mp st nx w) (x y : AV) (vx vy : Value) (hx : Rel rd mp x vx) (hy : Rel rd mp y vy) :
    Fits P c rd mp st nx w (orP x y) (do pure (if ← asBool vx then .bool true else vy)) := by
  unfold orP
  split
  · rename_i p b1
    intro _
    cases rel_bool hx; cases rel_bool hy
    exact .here hm (x := .bool (p || b1)) (by cases p <;> simp [asBool]) (.bool _ _)
  · rename_i p q b1
    intro h
    cases rel_bool hx
    cases p with
    | true => exact .here hm (x := .bool true) (by simp [asBool]) (.bool _ _)
    | false =>
      cases hy with
      | cnd _ _ _ _ hy _ =>
        cases rel_bool (hy (h rfl))
        exact .here hm (x := .bool b1) (by simp [asBool]) (by rw [Bool.false_or]; exact .bool _ _)
  · trivial

theorem fits_un (hm : Mem c rd mp st nx w) (dst : Option Nat) (op : UnOp) (x : AV) (v : Value) (hx : Rel rd mp x v) : Fits P c rd mp st nx w (unO C dst op x) (Op.unary op v) := by
  unfold unO
  split
  · rename_i b
    cases rel_bool hx
    exact fun _ => .here hm (x := .bool (!b)) (by simp [Op.unary]) (.bool _ _)
  · rename_i k n
    cases rel_int hx
    exact fits_arith hm _ _ _ _ (by simp [Op.unary, Op.intArith])
  · trivial

theorem getElem_bytes (l : List UInt8) (i : Nat) : (⟨l.toArray⟩ : ByteArray)[i]? = l[i]? := by
  by_cases h : i < l.length
  · rw [getElem?_pos _ _ (by rw [size_bytes]; exact h), List.getElem?_eq_getElem h]
    rfl
  · rw [getElem?_neg _ _ (by rw [size_bytes]; exact h), List.getElem?_eq_none (by omega)]

theorem fits_index (hT : ∀ t, T t = tab P t) (hm : Mem c rd mp st nx w) (t : TypeId) (x y : AV) (vx vy : Value) (hx : Rel rd mp x vx) (hy : Rel rd mp y vy) :
    Fits P c rd mp st nx w (indexO T t x y) (Instr.index t vx vy) := by
  unfold indexO
  split
  · rename_i l k i
    split
    · rename_i hk
      intro h
      obtain ⟨h0, h1⟩ := h
      cases rel_str hx; cases rel_int hy
      have hi : i.toNat < l.length := by omega
      have hb : (⟨l.toArray⟩ : ByteArray)[i.toNat]? = some (l.getD i.toNat 0) := by rw [getElem_bytes]; simp [List.getD, hi]
      exact .here hm (x := .int .u8 (byteAt l i)) (by simp [Instr.index, asIntOf, run_underlying (tab_str hT hk), h0, hb, byteAt]) (.int _ _ _)
    · trivial
  · rename_i cs k i
    split
    · rename_i n e hk
      cases hc : (Nat.beq (T e).size 1 && !isAggK (T e).kd && Nat.beq cs.length n) with
      | false => trivial
      | true =>
        simp only [Bool.and_eq_true, Nat.beq_eq, Bool.not_eq_true'] at hc
        obtain ⟨⟨h1, h2⟩, h3⟩ := hc
        intro h
        obtain ⟨h0, hl⟩ := h
        obtain ⟨vs, rfl, hs, he⟩ := rel_agg hx
        cases rel_int hy
        obtain ⟨inf, hinf, hsz, _⟩ := tab_size hT (t := e) (by omega)
        have hi : i.toNat < vs.size := by omega
        have hag := isAgg_run hT (t := e) (by omega) w
        rw [h2] at hag
        refine .here hm (x := vs[i.toNat]) ?_ (he i.toNat _ _ (by simp [List.getD, show i.toNat < cs.length by omega]) (by simp [hi]))
        simp [Instr.index, asIntOf, run_underlying (tab_array hT hk), h0, hl, part, hag, sizeOf, typeInfo, hinf, ← hsz, h1, hi]
    · trivial
  · trivial

theorem drop_bytes (l : List UInt8) (i j : Nat) : (⟨l.toArray⟩ : ByteArray).extract i j = ⟨((l.take j).drop i).toArray⟩ := by
  apply ByteArray.ext
  rw [ByteArray.data_extract]
  simp [List.drop_take]

/-- A read-only slice, cut. -/
theorem rel_cut {sz n : Nat} {f : Nat → List AV} {ad : Option Addr} {cap l h : Nat} (hr : Rel rd mp (.slc sz n f) (.slice ad n cap)) (hl : l ≤ h) (hh : h ≤ n) (hc : n ≤ cap) :
    Rel rd mp (.slc sz (h - l) (fun i => f (l + i))) (.slice (if cap = l then ad else ad.map (·.add (l * sz))) (h - l) (cap - l)) := by
  by_cases h0 : h - l = 0
  · rw [h0]; exact .slc0 _ _ _ _ _
  · cases hr with
    | slc0 => omega
    | slc _ _ _ _ blk off _ val hn hcap hs hrd he =>
      rw [if_neg (by omega)]
      simp only [Option.map_some, Addr.add_lit]
      refine .slc _ _ _ _ _ _ _ (fun i j => val (l + i) j) (by omega) (by omega) (fun i hi => hs _ (by omega)) (fun i j hi hj => ?_) (fun i j x hi hx => he _ _ _ (by omega) hx)
      have := hrd (l + i) j (by omega) hj
      rw [Nat.add_mul] at this
      rwa [show off + l * sz + (i * sz + j) = off + (l * sz + i * sz + j) by omega]

theorem rel_slc {sz n : Nat} {f : Nat → List AV} {v : Value} (hr : Rel rd mp (.slc sz n f) v) : ∃ ad cap, v = .slice ad n cap ∧ (0 < n → n ≤ cap) := by
  cases hr with
  | slc0 _ _ _ a cap => exact ⟨a, cap, rfl, fun h => absurd h (by omega)⟩
  | slc _ _ _ _ blk off cap val hn hcap => exact ⟨_, cap, rfl, fun _ => hcap⟩

theorem fits_slice (hT : ∀ t, T t = tab P t) (hm : Mem c rd mp st nx w) (t : TypeId) (x : AV) (lo hi mx : Option AV) (vx : Value) (vlo vhi vmx : Option Value) (hx : Rel rd mp x vx)
    (hlo : ∀ y, lo = some y → ∃ u, vlo = some u ∧ Rel rd mp y u) (hlo' : lo = none → vlo = none) (hhi : ∀ y, hi = some y → ∃ u, vhi = some u ∧ Rel rd mp y u) (hhi' : hi = none → vhi = none)
    (hmx' : mx = none → vmx = none) : Fits P c rd mp st nx w (sliceO T t x lo hi mx) (Instr.sliceAt t vx vlo vhi vmx) := by
  have strs : ∀ {t}, (T t).kd = .str → ∀ v lo hi mx, (Instr.sliceAt t v lo hi mx).run P w = (Instr.slice t v lo hi mx).run P w := by
    intro t hk v lo hi mx
    simp [Instr.sliceAt, run_underlying (tab_str hT hk)]
  have slcs : ∀ {t e}, (T t).kd = .slice e → ∀ v lo hi mx, (Instr.sliceAt t v lo hi mx).run P w = (Instr.slice t v lo hi mx).run P w := by
    intro t e hk v lo hi mx
    simp [Instr.sliceAt, run_underlying (tab_slice hT hk)]
  unfold sliceO
  split
  · rename_i l
    split
    · rename_i hk
      intro _
      cases rel_str hx
      cases hlo' rfl; cases hhi' rfl; cases hmx' rfl
      refine .here hm (x := .string ⟨l.toArray⟩) ?_ (.str _ _)
      rw [strs hk]
      simp [Instr.slice, run_underlying (tab_str hT hk), Instr.sliceBounds]
    · trivial
  · rename_i l k n
    split
    · rename_i hk
      intro h
      obtain ⟨h0, h1⟩ := h
      cases rel_str hx
      obtain ⟨u, rfl, hu⟩ := hlo _ rfl
      cases rel_int hu
      cases hhi' rfl; cases hmx' rfl
      refine .here hm (x := .string ⟨(l.drop n.toNat).toArray⟩) ?_ (.str _ _)
      rw [strs hk]
      simp [Instr.slice, run_underlying (tab_str hT hk), Instr.sliceBounds, Instr.sliceBound, asIntOf, h0, h1, drop_bytes, size_bytes]
    · trivial
  · rename_i l k n
    split
    · rename_i hk
      intro h
      obtain ⟨h0, h1⟩ := h
      cases rel_str hx
      obtain ⟨u, rfl, hu⟩ := hhi _ rfl
      cases rel_int hu
      cases hlo' rfl; cases hmx' rfl
      refine .here hm (x := .string ⟨(l.take n.toNat).toArray⟩) ?_ (.str _ _)
      rw [strs hk]
      simp [Instr.slice, run_underlying (tab_str hT hk), Instr.sliceBounds, Instr.sliceBound, asIntOf, h0, h1, drop_bytes, size_bytes]
    · trivial
  · rename_i l k n k' m
    split
    · rename_i hk
      intro h
      obtain ⟨h0, h1, h2⟩ := h
      cases rel_str hx
      obtain ⟨u, rfl, hu⟩ := hlo _ rfl
      cases rel_int hu
      obtain ⟨u, rfl, hu⟩ := hhi _ rfl
      cases rel_int hu
      cases hmx' rfl
      refine .here hm (x := .string ⟨((l.take m.toNat).drop n.toNat).toArray⟩) ?_ (.str _ _)
      rw [strs hk]
      have h3 : 0 ≤ m := by omega
      simp [Instr.slice, run_underlying (tab_str hT hk), Instr.sliceBounds, Instr.sliceBound, asIntOf, h0, h2, h3, drop_bytes, size_bytes]
      intro hlt; omega
    · trivial
  · rename_i sz n f k a
    split
    · rename_i e hk
      cases hc : (Nat.beq (T e).size sz && Nat.ble 1 sz) with
      | false => trivial
      | true =>
        simp only [Bool.and_eq_true, Nat.beq_eq, Nat.ble_eq] at hc
        intro h
        obtain ⟨h0, h1⟩ := h
        obtain ⟨ad, cap, rfl, hcap⟩ := rel_slc hx
        obtain ⟨u, rfl, hu⟩ := hlo _ rfl
        cases rel_int hu
        cases hhi' rfl; cases hmx' rfl
        obtain ⟨inf, hinf, hsz, _⟩ := tab_size hT (t := e) (by omega)
        refine .here hm (x := .slice (if cap = a.toNat then ad else ad.map (·.add (a.toNat * sz))) (n - a.toNat) (cap - a.toNat)) ?_ ?_
        · rw [slcs hk]
          simp [Instr.slice, run_underlying (tab_slice hT hk), Instr.sliceBounds, Instr.sliceBound, asIntOf, h0, h1, sizeOf, typeInfo, hinf, ← hsz, hc.1]
        · by_cases hn : n = 0
          · subst hn; rw [Nat.zero_sub]; exact .slc0 _ _ _ _ _
          · exact rel_cut hx (by omega) (Nat.le_refl _) (hcap (by omega))
    · trivial
  · rename_i sz n f k a
    split
    · rename_i e hk
      cases hc : (Nat.beq (T e).size sz && Nat.ble 1 sz) with
      | false => trivial
      | true =>
        simp only [Bool.and_eq_true, Nat.beq_eq, Nat.ble_eq] at hc
        intro h
        obtain ⟨h0, h1⟩ := h
        obtain ⟨ad, cap, rfl, hcap⟩ := rel_slc hx
        obtain ⟨u, rfl, hu⟩ := hhi _ rfl
        cases rel_int hu
        cases hlo' rfl; cases hmx' rfl
        obtain ⟨inf, hinf, hsz, _⟩ := tab_size hT (t := e) (by omega)
        have hac : a ≤ (cap : Int) := by
          by_cases hn : n = 0
          · omega
          · have := hcap (by omega); omega
        refine .here hm (x := .slice (if cap = 0 then ad else ad.map (·.add (0 * sz))) (a.toNat - 0) (cap - 0)) ?_ ?_
        · rw [slcs hk]
          simp [Instr.slice, run_underlying (tab_slice hT hk), Instr.sliceBounds, Instr.sliceBound, asIntOf, h0, hac, sizeOf, typeInfo, hinf]
        · by_cases hn : n = 0
          · rw [show a.toNat - 0 = 0 by omega, show a.toNat = 0 by omega]; exact .slc0 _ _ _ _ _
          · have := rel_cut hx (l := 0) (h := a.toNat) (by omega) (by omega) (hcap (by omega))
            simpa using this
    · trivial
  · rename_i sz n f k a k' b
    split
    · rename_i e hk
      cases hc : (Nat.beq (T e).size sz && Nat.ble 1 sz) with
      | false => trivial
      | true =>
        simp only [Bool.and_eq_true, Nat.beq_eq, Nat.ble_eq] at hc
        intro h
        obtain ⟨h0, h1, h2⟩ := h
        obtain ⟨ad, cap, rfl, hcap⟩ := rel_slc hx
        obtain ⟨u, rfl, hu⟩ := hlo _ rfl
        cases rel_int hu
        obtain ⟨u, rfl, hu⟩ := hhi _ rfl
        cases rel_int hu
        cases hmx' rfl
        obtain ⟨inf, hinf, hsz, _⟩ := tab_size hT (t := e) (by omega)
        have hac : b ≤ (cap : Int) := by
          by_cases hn : n = 0
          · omega
          · have := hcap (by omega); omega
        have hb0 : 0 ≤ b := by omega
        refine .here hm (x := .slice (if cap = a.toNat then ad else ad.map (·.add (a.toNat * sz))) (b.toNat - a.toNat) (cap - a.toNat)) ?_ ?_
        · rw [slcs hk]
          simp [Instr.slice, run_underlying (tab_slice hT hk), Instr.sliceBounds, Instr.sliceBound, asIntOf, h0, hac, hb0, sizeOf, typeInfo, hinf, ← hsz, hc.1]
          intro hlt; omega
        · by_cases hn : n = 0
          · rw [show b.toNat - a.toNat = 0 by omega]; exact .slc0 _ _ _ _ _
          · exact rel_cut hx (by omega) (by omega) (hcap (by omega))
    · trivial
  · trivial

theorem fits_indexAddr (hT : ∀ t, T t = tab P t) (hm : Mem c rd mp st nx w) (t : TypeId) (x y : AV) (vx vy : Value) (hx : Rel rd mp x vx) (hy : Rel rd mp y vy) :
    Fits P c rd mp st nx w (indexAddrO T st t x y) (Instr.indexAt t vx vy) := by
  unfold indexAddrO
  split
  · rename_i sz n f k i
    split
    · rename_i e hk
      cases hc : (Nat.beq (T e).size sz && Nat.ble 1 sz) with
      | false => trivial
      | true =>
        simp only [Bool.and_eq_true, Nat.beq_eq, Nat.ble_eq] at hc
        intro h
        obtain ⟨h0, h1⟩ := h
        cases rel_int hy
        obtain ⟨inf, hinf, hsz, _⟩ := tab_size hT (t := e) (by omega)
        cases hx with
        | slc0 => omega
        | slc _ _ _ _ blk off cap val hn hcap hs hrd he =>
          refine .here hm (x := .pointer (some ⟨blk, off + i.toNat * sz, none⟩)) ?_ ?_
          · simp [Instr.indexAt, asIntOf, run_underlying (tab_slice hT hk), h0, h1, sizeOf, typeInfo, hinf, ← hsz, hc.1, Addr.add_lit]
          · have hi : i.toNat < n := by omega
            refine .rptr _ _ _ _ (fun j => val i.toNat j) (fun j x hx => ?_) (fun j x hx => he _ _ _ hi hx)
            have hj : j < sz := by rw [← hs _ hi]; exact (List.getElem?_eq_some_iff.1 hx).1
            rw [Nat.add_assoc]
            exact hrd _ _ hi hj
    · trivial
  · rename_i r i ep n k j
    split
    · rename_i e ob R hk hl
      cases hc : (Nat.beq (T e).size R.sz && Nat.ble 1 R.sz) with
      | false => trivial
      | true =>
        simp only [Bool.and_eq_true, Nat.beq_eq, Nat.ble_eq] at hc
        intro h
        obtain ⟨hob, hn, h0, h1⟩ := (obT_andO _ _).1 h
        cases rel_int hy
        obtain ⟨inf, hinf, hsz, _⟩ := tab_size hT (t := e) (by omega)
        obtain ⟨xs, hv, hown, _⟩ := own_now hm hl hob hx hn
        rcases hown.2 with ⟨_, h5⟩ | ⟨g, lo, cap, cur, rfl, _⟩
        · have := hn.2; omega
        · have hn2 := hn.2
          refine .here hm (x := .pointer (some ⟨g, lo + j.toNat * R.sz, none⟩)) ?_ ?_
          · have h1' : j < (R.n : Int) := by omega
            simp [Instr.indexAt, asIntOf, run_underlying (tab_slice hT hk), h0, h1', sizeOf, typeInfo, hinf, ← hsz, hc.1, Addr.add_lit]
          · exact .eptr _ _ _ _ _ _ _ _ _ _ _ _ hv (by omega) (fun _ => by omega) (fun _ _ => ⟨g, lo, cap, by rw [hn2], by simp⟩)
    · trivial
  · trivial

end Go.Sx
end
section
/- Soundness of the abstract operations, fourth part: fields, loads, stores, boxes. Nothing of a program. -/
namespace Go.Sx
open Go Go.RowKit

variable {P : Program} {T : Nat → TI} {C : Cfg} {c : Ctx} {rd : Rd} {mp : Mp} {st : List (Nat × SO)} {nx : Nat} {w : World}

theorem rel_ptr {b o : Nat} {v : Value} (hr : Rel rd mp (.ptr b o) v) : ∃ g, mp.blk b = some g ∧ v = .pointer (some ⟨g, o, none⟩) := by
  cases hr with
  | ptr _ _ _ g h => exact ⟨g, h, rfl⟩

theorem rel_rptr {cs : List AV} {v : Value} (hr : Rel rd mp (.rptr cs) v) : ∃ g o, v = .pointer (some ⟨g, o, none⟩) ∧ ∀ (j : Nat) x, cs[j]? = some x → ∃ u, rd g (o + j) = some u ∧ Rel rd Mp.none x u := by
  cases hr with
  | rptr _ _ g o val h1 h2 => exact ⟨g, o, rfl, fun j x hx => ⟨val j, h1 j x hx, h2 j x hx⟩⟩

theorem fits_fieldAddr (hT : ∀ t, T t = tab P t) (hm : Mem c rd mp st nx w) (t : TypeId) (fi : Nat) (x : AV) (v : Value) (hx : Rel rd mp x v) :
    Fits P c rd mp st nx w (fieldAddrO T st t fi x) (Instr.fieldAt t v fi) := by
  unfold fieldAddrO
  split
  · rename_i fs hk
    split
    · rename_i off ft hf
      cases hc : Nat.ble 1 (T ft).size with
      | false => trivial
      | true =>
        simp only [cond_true]
        obtain ⟨fields, hd, rfl⟩ := tab_struct hT hk
        simp only [List.getElem?_map, Option.map_eq_some_iff] at hf
        obtain ⟨fd, hfd, heq⟩ := hf
        simp only [Prod.mk.injEq] at heq
        obtain ⟨rfl, rfl⟩ := heq
        have hfd' : fields[fi]? = some fd := by simpa using hfd
        obtain ⟨inf, hinf, hsz, _⟩ := tab_size hT (t := fd.type) (by simpa [Nat.ble_eq] using hc)
        have hs0 : inf.size ≠ 0 := by
          have : 1 ≤ (T fd.type).size := by simpa [Nat.ble_eq] using hc
          omega
        have run : ∀ g o, (Instr.fieldAt t (.pointer (some ⟨g, o, none⟩)) fi).run P w = .ok (.pointer (some ⟨g, o + fd.offset, none⟩)) w := by
          intro g o
          simp [Instr.fieldAt, run_underlying hd, hfd', Instr.sureAddr, fieldPlace, sizeOf, typeInfo, hinf, hs0, Addr.add_lit]
        split
        · obtain ⟨g, hg, rfl⟩ := rel_ptr hx
          exact fun _ => .here hm (run _ _) (.ptr _ _ _ _ hg)
        · rename_i r i e n sz k o
          split
          · rename_i ob R hl
            intro hob
            obtain ⟨hob1, hn⟩ := (obT_andO _ _).1 hob
            obtain ⟨v', xs, hv', _⟩ := hm.mb r i R (rowAt_mem hl hob1)
            obtain ⟨vr, er, nr, h1, h2, h3, h4⟩ := rel_eptr hx
            rw [hv'] at h1; cases h1
            obtain ⟨g, lo, cap, hv, rfl⟩ := h4 hn.1 hn.2
            refine .here hm (run _ _) (.eptr _ _ _ _ _ _ _ _ _ _ _ _ hv' h2 h3 (fun _ _ => ⟨g, lo, cap, hv, ?_⟩))
            rw [Nat.add_assoc, Nat.add_assoc]
          · trivial
        · rename_i cs
          obtain ⟨g, o, rfl, h⟩ := rel_rptr hx
          intro _
          refine .here hm (run _ _) (.rptr _ _ _ _ (fun j => (rd g (o + fd.offset + j)).getD undef) (fun j x hx => ?_) (fun j x hx => ?_))
          · rw [List.getElem?_drop] at hx
            obtain ⟨u, hu, _⟩ := h _ _ hx
            rw [← Nat.add_assoc] at hu
            simp [hu]
          · rw [List.getElem?_drop] at hx
            obtain ⟨u, hu, hr⟩ := h _ _ hx
            rw [← Nat.add_assoc] at hu
            simpa [hu] using hr
        · trivial
    · trivial
  · trivial

/-- A value of a type that lies at an address of known cells. -/
theorem cells_load (hT : ∀ t, T t = tab P t) (t : TypeId) (cs : List AV) (g o : Nat)
    (h : ∀ (j : Nat) x, cs[j]? = some x → ∃ u, w.cell? ⟨g, o + j, none⟩ = some u ∧ Rel rd mp x u) (ob : Option DP) (y : AV) (hy : cellsO (T t) cs = .ok ob y) :
    ∃ x, (Instr.loadAt t (.pointer (some ⟨g, o, none⟩))).run P w = .ok x w ∧ Rel rd mp y x := by
  unfold cellsO at hy
  cases hag : isAggK (T t).kd with
  | true =>
    simp only [hag, cond_true] at hy
    cases hl : Nat.ble (T t).size cs.length with
    | false => simp [hl] at hy
    | true =>
      simp only [hl, cond_true, OR.ok.injEq] at hy
      obtain ⟨_, rfl⟩ := hy
      have hle : (T t).size ≤ cs.length := Nat.le_of_ble_eq_true hl
      obtain ⟨inf, d, h1, h2, h3, h4, _⟩ := tab_kd hT (t := t) (by intro e; rw [e] at hag; simp [isAggK] at hag)
      have hg : (isAgg t).run P w = .ok true w := by
        simp only [isAgg, Sem.run_bind, run_underlying h2, Result.andThen]
        rw [h3] at hag
        cases d <;> simp [kdOf, isAggK] at hag ⊢
      have hcell : ∀ j, j < inf.size → w.cell? ((⟨g, o, none⟩ : Addr).add j) = some ((w.cell? ⟨g, o + j, none⟩).getD undef) := by
        intro j hj
        obtain ⟨u, hu, _⟩ := h j (cs[j]'(by omega)) (List.getElem?_eq_getElem (by omega))
        rw [Addr.add_lit, hu]; rfl
      refine ⟨.agg ((Array.range inf.size).map fun j => (w.cell? ⟨g, o + j, none⟩).getD undef), ?_, ?_⟩
      · simp [Instr.loadAt, Instr.sureAddr, loadVar, hg, sizeOf, typeInfo, h1, run_loadCells w _ _ _ hcell]
        apply Array.ext
        · simp
        · intro i h1 h2; simp
      · refine .agg _ _ _ (by simp; omega) (fun j x v hx hv => ?_)
        rw [List.getElem?_take] at hx
        split at hx
        · obtain ⟨u, hu, hr⟩ := h j x hx
          rw [Array.getElem?_map] at hv
          obtain ⟨j', hj', rfl⟩ := Option.map_eq_some_iff.1 hv
          have : j' = j := by
            rw [Array.getElem?_range] at hj'
            split at hj'
            · cases hj'; rfl
            · cases hj'
          subst this
          simpa [hu] using hr
        · cases hx
  | false =>
    simp only [hag, cond_false] at hy
    cases hs : Nat.beq (T t).size 1 with
    | false => simp [hs] at hy
    | true =>
      have hs' : (T t).size = 1 := Nat.eq_of_beq_eq_true hs
      simp only [hs, cond_true] at hy
      cases cs with
      | nil => simp at hy
      | cons x r =>
        simp only [OR.ok.injEq] at hy
        obtain ⟨_, rfl⟩ := hy
        obtain ⟨u, hu, hr⟩ := h 0 x rfl
        have hg := isAgg_run hT (t := t) (by omega) w
        rw [hag] at hg
        exact ⟨u, by simp at hu; simp [Instr.loadAt, Instr.sureAddr, loadVar, hg, hu], hr⟩

theorem cellsO_or (ti : TI) (cs : List AV) : cellsO ti cs = .bad ∨ ∃ y, cellsO ti cs = .ok none y := by
  unfold cellsO
  cases isAggK ti.kd <;> cases Nat.ble ti.size cs.length <;> cases Nat.beq ti.size 1 <;> cases cs <;> simp

theorem fits_cells (hT : ∀ t, T t = tab P t) (hm : Mem c rd mp st nx w) (t : TypeId) (cs : List AV) (g o : Nat)
    (h : ∀ (j : Nat) x, cs[j]? = some x → ∃ u, w.cell? ⟨g, o + j, none⟩ = some u ∧ Rel rd mp x u) : Fits P c rd mp st nx w (cellsO (T t) cs) (Instr.loadAt t (.pointer (some ⟨g, o, none⟩))) := by
  rcases cellsO_or (T t) cs with hb | ⟨y, hy⟩
  · rw [hb]; trivial
  · rw [hy]
    intro _
    obtain ⟨x, hx, hr⟩ := cells_load (P := P) hT t cs g o h none y hy
    exact .here hm hx hr

/-- A box, read. -/
theorem box_load (hT : ∀ t, T t = tab P t) (hm : Mem c rd mp st nx w) (t : TypeId) {b o : Nat} {ty : TypeId} {cs : List AV} (hl : look st b = some (.box ty cs)) {v : Value} (hv : Rel rd mp (.ptr b o) v) (ob : Option DP) (y : AV) (hy : cellsO (T t) (cs.drop o) = .ok ob y) :
    ∃ ad x, v = .pointer (some ad) ∧ (Instr.loadAt t v).run P w = .ok x w ∧ Rel rd mp y x := by
  obtain ⟨g, hg, rfl⟩ := rel_ptr hv
  obtain ⟨b', vs, h1, h2, h3, h4, h5, h6⟩ := hm.bx b _ _ hl
  rw [hg] at h1; cases h1
  obtain ⟨x, h7, h8⟩ := cells_load (P := P) (w := w) (rd := rd) (mp := mp) hT t (cs.drop o) g o (fun j x hx => by
    rw [List.getElem?_drop] at hx
    have hlt : o + j < vs.size := by rw [h3]; exact (List.getElem?_eq_some_iff.1 hx).1
    refine ⟨vs[o + j], ?_, h4 _ _ _ hx (by simp [hlt])⟩
    rw [cell_of_row w g (o + j) vs ty (0, 0) h2]
    simp [hlt]) ob y hy
  exact ⟨_, x, rfl, h7, h8⟩

theorem fits_load (hT : ∀ t, T t = tab P t) (hm : Mem c rd mp st nx w) (t : TypeId) (x : AV) (v : Value) (hx : Rel rd mp x v) : Fits P c rd mp st nx w (loadO T st t x) (Instr.loadAt t v) := by
  unfold loadO
  split
  · rename_i cs
    obtain ⟨g, o, rfl, h⟩ := rel_rptr hx
    refine fits_cells hT hm t cs g o (fun j x hx => ?_)
    obtain ⟨u, hu, hr⟩ := h j x hx
    exact ⟨u, hm.rdw _ _ _ hu, hr.mono (Rd.le.refl _) (Mp.none_le _)⟩
  · rename_i b o
    split
    · rename_i ty cs hl
      obtain ⟨g, hg, rfl⟩ := rel_ptr hx
      obtain ⟨b', vs, h1, h2, h3, h4, h5, h6⟩ := hm.bx b _ _ hl
      rw [hg] at h1; cases h1
      refine fits_cells hT hm t _ g o (fun j x hx => ?_)
      rw [List.getElem?_drop] at hx
      have hlt : o + j < vs.size := by rw [h3]; exact (List.getElem?_eq_some_iff.1 hx).1
      refine ⟨vs[o + j], ?_, h4 _ _ _ hx (by simp [hlt])⟩
      rw [cell_of_row w g (o + j) vs ty (0, 0) h2]
      simp [hlt]
    · trivial
  · rename_i r i e n sz' k o
    split
    · rename_i ob R hl
      cases hz : Nat.beq sz' R.sz with
      | false => trivial
      | true =>
        obtain rfl : sz' = R.sz := Nat.eq_of_beq_eq_true hz
        simp only [cond_true]
        have h0 : obT (andO ob (some (dp ((e = R.ep ∧ n = R.n) ∧ k < n)))) → Fits P c rd mp st nx w (cellsO (T t) ((R.f k).drop o)) (Instr.loadAt t v) := by
          intro hob
          obtain ⟨hob1, hn, hk⟩ := (obT_andO _ _).1 hob
          obtain ⟨vr, xs, h1, h2, h3, h4, h5⟩ := hm.mb r i R (rowAt_mem hl hob1)
          obtain ⟨vr', er, nr, g1, g2, g3, g4⟩ := rel_eptr hx
          rw [h1] at g1; cases g1
          obtain ⟨g, lo, cap, rfl, rfl⟩ := g4 hn.1 hn.2
          have hn2 := hn.2
          subst hn2
          refine fits_cells hT hm t _ g _ (fun j x hx => ?_)
          rw [List.getElem?_drop] at hx
          obtain ⟨u, hu, _, hr⟩ := h4 k (o + j) x hk hx
          refine ⟨u, ?_, hr.mono (Rd.le.refl _) (Mp.sel_le _ _)⟩
          have := h2.cells hu
          rwa [show lo + (k * R.sz + (o + j)) = lo + (k * R.sz + o) + j by omega] at this
        exact Fits.also h0
    · trivial
  · trivial

theorem rel_one {x : AV} {v : Value} (hr : Rel rd mp x v) (h : x.one = true) : v.oneCell' = true := by
  cases hr <;> first | rfl | (simp [AV.one] at h; done)

/-- A store of several cells into one box. -/
theorem store_cells (id : Nat) (ty : TypeId) (b : Nat) : ∀ (xs : List AV) (vs : List Value) (o i : Nat) (cs : List AV) (st : List (Nat × SO)) (w : World), Mem c rd mp st nx w → look st id = some (.box ty cs) → mp.blk id = some b →
    vs.length = xs.length → (∀ (j : Nat) x v, xs[j]? = some x → vs[j]? = some v → Rel rd mp x v ∧ v.oneCell' = true) → o + i + xs.length ≤ cs.length →
    ∃ w', (storeCells ⟨b, o, none⟩ vs i).run P w = .ok () w' ∧ Mem c rd mp (setSt st id (.box ty (setAll cs (o + i) xs))) nx w' := by
  intro xs
  induction xs with
  | nil =>
    intro vs o i cs st w hm hl hb hlen _ _
    have : vs = [] := by simpa using hlen
    subst this
    refine ⟨w, by simp [storeCells], ?_⟩
    simp only [setAll]
    refine hm.forget (fun j y hy => ?_)
    rw [look_setSt] at hy
    by_cases hj : j = id
    · subst hj; rw [if_pos rfl, hl] at hy; rw [hl]; exact hy
    · rw [if_neg hj] at hy; exact hy
  | cons x xs ih =>
    intro vs o i cs st w hm hl hb hlen hr hle
    cases vs with
    | nil => simp at hlen
    | cons v vs =>
      obtain ⟨hxv, h1⟩ := hr 0 x v rfl rfl
      have hm1 := hm.storeBox hl hb (o + i) x v hxv
      obtain ⟨b', us, g1, g2, g3, _⟩ := hm.bx id _ _ hl
      rw [hb] at g1; cases g1
      have hlt : o + i < us.size := by rw [g3]; simp at hle; omega
      have hcell : w.cell? ⟨b, o + i, none⟩ = some us[o + i] := by rw [cell_of_row w b (o + i) us ty (0, 0) g2]; simp [hlt]
      have hfr : w.frozen? ⟨b, o + i, none⟩ = false := by simp [World.frozen?, g2]
      have hl1 : look (setSt st id (.box ty (cs.set (o + i) x))) id = some (.box ty (cs.set (o + i) x)) := by rw [look_setSt, if_pos rfl, hl]; rfl
      obtain ⟨w', hw', hm'⟩ := ih vs o (i + 1) (cs.set (o + i) x) _ _ hm1 hl1 hb (by simpa using hlen) (fun j x' v' hx hv => hr (j + 1) x' v' (by simpa using hx) (by simpa using hv)) (by simp at hle ⊢; omega)
      refine ⟨w', ?_, ?_⟩
      · simp only [storeCells, Sem.run_bind, Addr.add_lit, run_store P w _ v .plain h1, hcell, hfr]
        simpa using hw'
      · refine hm'.forget (fun j y hy => ?_)
        rw [look_setSt] at hy
        rw [look_setSt, look_setSt]
        by_cases hj : j = id
        · subst hj
          simp only [if_pos, hl, Option.map_some] at hy ⊢
          simp only [setAll] at hy
          rw [← Nat.add_assoc]; exact hy
        · simp only [if_neg hj] at hy ⊢; exact hy

end Go.Sx
end
section
/- Soundness of the abstract operations, fifth part: stores, boxes, structs and slices that are built. Nothing of a program. -/
namespace Go.Sx
open Go Go.RowKit

variable {P : Program} {T : Nat → TI} {C : Cfg} {c : Ctx} {rd : Rd} {mp : Mp} {st : List (Nat × SO)} {nx : Nat} {w : World} {s : ASt}

theorem rel_oneOwn (hm : Mem c rd mp st nx w) {x : AV} {v : Value} (hr : Rel rd mp x v) (h : x.oneOwn = true) (hob : obT (ownOb st [x])) : v.oneCell' = true := by
  cases x with
  | own r i e n =>
    simp only [ownOb] at hob
    split at hob
    · rename_i ob R hl
      obtain ⟨hob1, hn⟩ := (obT_andO _ _).1 ((obT_andO _ _).1 hob).1
      obtain ⟨xs, h1, h2, _⟩ := own_now hm hl hob1 hr hn
      rcases h2.2 with ⟨rfl, _⟩ | ⟨g, lo, cap, cur, rfl, _⟩ <;> rfl
    · split at hob
      · rename_i hl
        obtain ⟨rfl, rfl, rfl⟩ := ((obT_andO _ _).1 hob).1
        obtain ⟨v', h1, h2⟩ := hm.ro _ _ _ _ _ hl
        obtain ⟨vr, er, nr, g1, _, _, g4⟩ := rel_own hr
        rw [h1] at g1; cases g1
        rw [g4 rfl rfl]
        cases h2 <;> rfl
      · exact absurd hob id
  | _ => exact rel_one hr h

theorem ownOb_mem : ∀ {l : List AV}, obT (ownOb st l) → ∀ x ∈ l, obT (ownOb st [x]) := by
  intro l
  induction l with
  | nil => intro _ x hx; simp at hx
  | cons y l ih =>
    intro h x hx
    have hsplit : obT (ownOb st [y]) ∧ obT (ownOb st l) := by
      cases y with
      | own r i e n =>
        simp only [ownOb] at h ⊢
        split at h
        · have h' := (obT_andO _ _).1 h
          exact ⟨(obT_andO _ _).2 ⟨h'.1, trivial⟩, h'.2⟩
        · split at h
          · have h' := (obT_andO _ _).1 h
            exact ⟨(obT_andO _ _).2 ⟨h'.1, trivial⟩, h'.2⟩
          · exact absurd h id
      | _ => exact ⟨trivial, h⟩
    rcases List.mem_cons.1 hx with rfl | hx
    · exact hsplit.1
    · exact ih hsplit.2 x hx

/-- The cells of a value that is to be laid down. -/
theorem cells_rel (hm : Mem c rd mp st nx w) {x : AV} {v : Value} (hr : Rel rd mp x v) (h : partOk x = true) (hob : obT (partOb st x)) :
    v.cells.size = (cellsOf x).length ∧ ∀ (j : Nat) y u, (cellsOf x)[j]? = some y → v.cells[j]? = some u → Rel rd mp y u := by
  by_cases hag : ∃ cs, x = .agg cs
  · obtain ⟨cs, rfl⟩ := hag
    obtain ⟨vs, rfl, hs, he⟩ := rel_agg hr
    exact ⟨hs, he⟩
  · have hx : x.oneOwn = true ∧ obT (ownOb st [x]) ∧ cellsOf x = [x] := by
      cases x with
      | agg cs => exact absurd ⟨cs, rfl⟩ hag
      | _ => exact ⟨h, hob, rfl⟩
    have h1 := rel_oneOwn hm hr hx.1 hx.2.1
    have hc : v.cells = #[v] := by cases v <;> first | rfl | (simp [Value.oneCell'] at h1; done)
    rw [hc, hx.2.2]
    refine ⟨rfl, fun j y u hy hu => ?_⟩
    cases j with
    | zero => simp at hy hu; subst hy; subst hu; exact hr
    | succ j => simp at hy

theorem fits_box (hm : Mem c rd mp s.st s.nx w) (hsup : Sup c s.nx) (e : TypeId) (x : AV) (v : Value) (hr : Rel rd mp x v) (h : partOk x = true) :
    Fits P c rd mp s.st s.nx w (boxO s e (cellsOf x) (partOb s.st x)) (Instr.box e v) := by
  intro hob
  obtain ⟨h1, h2⟩ := cells_rel hm hr h hob
  refine ⟨.pointer (some ⟨w.heap.size, 0, none⟩), w.alloc (.cells v.cells e), rd, mp.addBlk s.nx w.heap.size, ?_, Rd.le.refl _, Mp.le_addBlk (hm.fresh _ hsup.here).1, hm.newBox hsup v.cells e _ h1 h2, .ptr _ _ _ _ (by simp [Mp.addBlk])⟩
  simp [Instr.box, newVar, newRow]

theorem zero_parts (hT : ∀ t, T t = tab P t) {e : TypeId} (h1 : 1 ≤ (T e).size) (h2 : (T e).zero.length = (T e).size) :
    ∃ i z, P.info? e = some i ∧ i.zero = some z ∧ i.size = (T e).size ∧ i.bytes = (T e).bytes ∧ z.cells.size = (T e).size ∧ (T e).zero = z.cells.toList.map ofVal1 := by
  obtain ⟨i, hi, hs, hb, hz⟩ := tab_size hT h1
  cases hzz : i.zero with
  | none =>
    rw [hz] at h2
    simp only [zeroOf, hzz, List.length_nil] at h2
    omega
  | some z =>
    have hz' : (T e).zero = z.cells.toList.map ofVal1 := by rw [hz, zeroOf, hzz]
    refine ⟨i, z, hi, hzz, hs.symm, hb.symm, ?_, hz'⟩
    rw [hz'] at h2
    simpa using h2

theorem fits_alloc (hT : ∀ t, T t = tab P t) (hm : Mem c rd mp s.st s.nx w) (hsup : Sup c s.nx) (e : TypeId) (h1 : 1 ≤ (T e).size) (h2 : (T e).zero.length = (T e).size) :
    Fits P c rd mp s.st s.nx w (boxO s e (T e).zero none) (Instr.alloc e true (.tuple #[])) := by
  intro _
  obtain ⟨i, z, hi, hz, hs, _, hzs, hzz⟩ := zero_parts hT h1 h2
  refine ⟨.pointer (some ⟨w.heap.size, 0, none⟩), w.alloc (.cells z.cells e), rd, mp.addBlk s.nx w.heap.size, ?_, Rd.le.refl _, Mp.le_addBlk (hm.fresh _ hsup.here).1,
    hm.newBox hsup z.cells e _ (by rw [hzz]; simp) (fun j x v hx hv => ?_), .ptr _ _ _ _ (by simp [Mp.addBlk])⟩
  · simp [Instr.alloc, zeroValue, typeInfo, hi, hz, newVar, newRow]
  · rw [hzz] at hx
    simp at hx
    obtain ⟨u, hu, rfl⟩ := hx
    rw [hv] at hu; cases hu
    exact rel_ofVal1 rd mp v

theorem setAll_length : ∀ (xs : List AV) (cs : List AV) (o : Nat), (setAll cs o xs).length = cs.length := by
  intro xs
  induction xs with
  | nil => intro cs o; rfl
  | cons x xs ih => intro cs o; simp [setAll, ih]

theorem setAll_get : ∀ (xs : List AV) (cs : List AV) (o j : Nat), (setAll cs o xs)[j]? = if j < cs.length then (if o ≤ j ∧ j < o + xs.length then xs[j - o]? else cs[j]?) else none := by
  intro xs
  induction xs with
  | nil =>
    intro cs o j
    simp only [setAll, List.length_nil, Nat.add_zero]
    by_cases hj : j < cs.length
    · rw [if_pos hj, if_neg (by omega)]
    · rw [if_neg hj, List.getElem?_eq_none (by omega)]
  | cons x xs ih =>
    intro cs o j
    simp only [setAll, ih, List.length_set, List.length_cons]
    by_cases hj : j < cs.length
    · rw [if_pos hj, if_pos hj]
      by_cases ho : o = j
      · subst ho
        rw [if_neg (by omega), if_pos (by omega)]
        simp [hj]
      · by_cases h1 : o + 1 ≤ j ∧ j < o + 1 + xs.length
        · rw [if_pos h1, if_pos (by omega)]
          rw [show j - o = (j - (o + 1)) + 1 by omega, List.getElem?_cons_succ]
        · rw [if_neg h1, if_neg (by omega), List.getElem?_set_ne ho]
    · rw [if_neg hj, if_neg hj]

/-- The machine's own laying of cells. -/
theorem fold_get (off : Nat) (vs : List Value) : ∀ (k : Nat) (cs : Array Value) (j : Nat), off + k + vs.length ≤ cs.size →
    ((vs.zipIdx k).foldl (fun cs (p : Value × Nat) => cs.setIfInBounds (off + p.2) p.1) cs)[j]? = (if off + k ≤ j ∧ j < off + k + vs.length then vs[j - (off + k)]? else cs[j]?) ∧
    ((vs.zipIdx k).foldl (fun cs (p : Value × Nat) => cs.setIfInBounds (off + p.2) p.1) cs).size = cs.size := by
  induction vs with
  | nil => intro k cs j _; simp; intro h1 h2; omega
  | cons v vs ih =>
    intro k cs j hle
    simp only [List.zipIdx_cons, List.foldl_cons, List.length_cons]
    have := ih (k + 1) (cs.setIfInBounds (off + k) v) j (by simp at hle ⊢; omega)
    refine ⟨?_, by rw [this.2]; simp⟩
    rw [this.1]
    by_cases ho : j = off + k
    · subst ho
      rw [if_neg (by omega), if_pos (by omega)]
      simp at hle
      simp [show off + k < cs.size by omega]
    · by_cases h1 : off + (k + 1) ≤ j ∧ j < off + (k + 1) + vs.length
      · rw [if_pos h1, if_pos (by omega), show j - (off + k) = (j - (off + (k + 1))) + 1 by omega, List.getElem?_cons_succ]
      · rw [if_neg h1, if_neg (by omega), Array.getElem?_setIfInBounds_ne (by omega)]

theorem fill_rel (hm : Mem c rd mp st nx w) (place place' : Nat → Option (Nat × Nat)) (hp : ∀ i, place i ≠ none → place' i = place i) : ∀ (parts : List (Nat × AV)) (vparts : List (Nat × Value)) (cs : List AV) (vs : Array Value) (out : List AV),
    vs.size = cs.length → (∀ (j : Nat) x v, cs[j]? = some x → vs[j]? = some v → Rel rd mp x v) →
    vparts.length = parts.length → (∀ (j : Nat) p q, parts[j]? = some p → vparts[j]? = some q → p.1 = q.1 ∧ Rel rd mp p.2 q.2) → obT (partsOb st parts) →
    fillO place cs parts = some out → ∃ us, Instr.fill place' vs vparts = some us ∧ us.size = out.length ∧ ∀ (j : Nat) x v, out[j]? = some x → us[j]? = some v → Rel rd mp x v := by
  intro parts
  induction parts with
  | nil =>
    intro vparts cs vs out hs hr hl _ _ ho
    have : vparts = [] := by simpa using hl
    subst this
    simp only [fillO, Option.some.injEq] at ho
    subst ho
    exact ⟨vs, rfl, hs, hr⟩
  | cons p parts ih =>
    intro vparts cs vs out hs hr hl hv hob ho
    cases vparts with
    | nil => simp at hl
    | cons q vparts =>
      obtain ⟨i, x⟩ := p
      obtain ⟨i', v⟩ := q
      obtain ⟨hi, hxv⟩ := hv 0 _ _ rfl rfl
      simp only at hi hxv
      subst hi
      simp only [fillO] at ho
      split at ho
      · rename_i off size hpl
        cases hc : (partOk x && Nat.beq (cellsOf x).length size && Nat.ble (off + size) cs.length) with
        | false => simp [hc] at ho
        | true =>
          simp only [hc, cond_true, frcL1_eq] at ho
          simp only [Bool.and_eq_true, Nat.beq_eq, Nat.ble_eq] at hc
          obtain ⟨⟨h1, h2⟩, h3⟩ := hc
          simp only [partsOb] at hob
          obtain ⟨hob1, hob2⟩ := (obT_andO _ _).1 hob
          obtain ⟨g1, g2⟩ := cells_rel hm hxv h1 hob1
          have hfold := fun j => fold_get off v.cells.toList 0 vs j (by simp; omega)
          have hsz : (v.cells.zipIdx.foldl (fun cs (p : Value × Nat) => cs.setIfInBounds (off + p.2) p.1) vs) = ((v.cells.toList.zipIdx 0).foldl (fun cs (p : Value × Nat) => cs.setIfInBounds (off + p.2) p.1) vs) := by
            rw [← Array.foldl_toList, Array.toList_zipIdx]
          obtain ⟨us, hus, hu1, hu2⟩ := ih vparts (setAll cs off (cellsOf x)) (v.cells.zipIdx.foldl (fun cs (p : Value × Nat) => cs.setIfInBounds (off + p.2) p.1) vs) out
            (by rw [hsz, (hfold 0).2, setAll_length]; exact hs)
            (fun j y u hy hu => by
              rw [hsz, (hfold j).1] at hu
              rw [setAll_get] at hy
              split at hy
              · rename_i hj
                simp only [Nat.add_zero, Array.length_toList] at hu
                by_cases hin : off ≤ j ∧ j < off + (cellsOf x).length
                · rw [if_pos hin] at hy
                  rw [if_pos (by omega)] at hu
                  exact g2 _ _ _ hy (by simpa using hu)
                · rw [if_neg hin] at hy
                  rw [if_neg (by omega)] at hu
                  exact hr _ _ _ hy hu
              · cases hy)
            (by simpa using hl) (fun j p q hp hq => hv (j + 1) p q (by simpa using hp) (by simpa using hq)) hob2 ho
          refine ⟨us, ?_, hu1, hu2⟩
          have hpl' : place' i = some (off, size) := by rw [hp i (by rw [hpl]; simp), hpl]
          simp only [Instr.fill, hpl']
          rw [if_neg (by simp; omega)]
          exact hus
      · cases ho

end Go.Sx
end
section
/- Soundness of the abstract operations, sixth part: stores, structs and slices that are built, append, make. Nothing of a program. -/
namespace Go.Sx
open Go Go.RowKit

variable {P : Program} {T : Nat → TI} {C : Cfg} {c : Ctx} {rd : Rd} {mp : Mp} {st : List (Nat × SO)} {nx : Nat} {w : World} {s : ASt}

theorem cellsOf_part {x : AV} (h : (cellsOf x).all AV.oneOwn = true) : partOk x = true := by
  cases x <;> simp [cellsOf, partOk, AV.oneOwn, AV.one] at h ⊢

/-- The cells of a value that is to be stored: each of one cell. -/
theorem cells_one (hm : Mem c rd mp st nx w) {x : AV} {v : Value} (hr : Rel rd mp x v) (h : (cellsOf x).all AV.oneOwn = true) (hob : obT (ownOb st (cellsOf x))) :
    v.cells.size = (cellsOf x).length ∧ ∀ (j : Nat) y u, (cellsOf x)[j]? = some y → v.cells[j]? = some u → Rel rd mp y u ∧ u.oneCell' = true := by
  have hp : obT (partOb st x) := by
    cases x <;> first | trivial | exact hob
  obtain ⟨h1, h2⟩ := cells_rel hm hr (cellsOf_part h) hp
  refine ⟨h1, fun j y u hy hu => ⟨h2 j y u hy hu, ?_⟩⟩
  have hy' := List.mem_of_getElem? hy
  exact rel_oneOwn hm (h2 j y u hy hu) (List.all_eq_true.1 h y hy') (ownOb_mem hob y hy')

theorem storeVar_run (hT : ∀ t, T t = tab P t) (t : TypeId) (g o : Nat) (v : Value) (hs : v.cells.size = (T t).size) (h1 : 1 ≤ (T t).size) (w : World) :
    (Instr.storeAt t (.pointer (some ⟨g, o, none⟩)) v).run P w = (storeCells ⟨g, o, none⟩ v.cells.toList 0).run P w := by
  obtain ⟨i, hi, hsz, _⟩ := tab_size hT h1
  simp [Instr.storeAt, Instr.sureAddr, storeVar, sizeOf, typeInfo, hi, ← hsz, hs]

/-- A store into a box leaves the store turned. -/
theorem fits_store_box (hT : ∀ t, T t = tab P t) (hm : Mem c rd mp st nx w) (t : TypeId) (b o : Nat) (ty : TypeId) (cs : List AV) (hl : look st b = some (.box ty cs)) (x : AV) (va v : Value) (ha : Rel rd mp (.ptr b o) va) (hx : Rel rd mp x v)
    (h1 : (cellsOf x).length = (T t).size) (h2 : (cellsOf x).all AV.oneOwn = true) (h3 : o + (cellsOf x).length ≤ cs.length) (h4 : 1 ≤ (T t).size) (hob : obT (ownOb st (cellsOf x))) :
    ∃ w', (Instr.storeAt t va v).run P w = .ok () w' ∧ Mem c rd mp (setSt st b (.box ty (setAll cs o (cellsOf x)))) nx w' := by
  obtain ⟨g, hg, rfl⟩ := rel_ptr ha
  obtain ⟨hs, hr⟩ := cells_one hm hx h2 hob
  rw [storeVar_run hT t g o v (by omega) h4]
  obtain ⟨w', hw', hm'⟩ := store_cells (P := P) b ty g (cellsOf x) v.cells.toList o 0 cs st w hm hl hg (by simpa using hs) (fun j y u hy hu => hr j y u hy (by simpa using hu)) (by omega)
  exact ⟨w', hw', by simpa using hm'⟩

/-- A row of the call's own is laid into a box. -/
theorem fits_store_own (hT : ∀ t, T t = tab P t) (hm : Mem c rd mp st nx w) (t : TypeId) (b o : Nat) (ty : TypeId) (cs : List AV) (hl : look st b = some (.box ty cs)) {r i e n : Nat} (va v : Value) (ha : Rel rd mp (.ptr b o) va) (hx : Rel rd mp (.own r i e n) v)
    (h1 : (T t).size = 1) (h3 : o + 1 ≤ cs.length) :
    ∃ w', (Instr.storeAt t va v).run P w = .ok () w' ∧ Mem c rd mp (setSt st b (.box ty (setAll cs o [.own r i e n]))) nx w' := by
  obtain ⟨g, hg, rfl⟩ := rel_ptr ha
  have hv : v.cells = #[v] ∧ v.oneCell' = true := by
    cases hx with
    | own _ _ _ _ _ _ _ _ _ _ _ _ _ hsl => cases v <;> first | exact ⟨rfl, rfl⟩ | (simp [isSl] at hsl; done)
  rw [storeVar_run hT t g o v (by rw [hv.1, h1]; rfl) (by omega)]
  obtain ⟨w', hw', hm'⟩ := store_cells (P := P) b ty g [.own r i e n] v.cells.toList o 0 cs st w hm hl hg (by rw [hv.1]; rfl) (fun j y u hy hu => by
    rw [hv.1] at hu
    cases j with
    | zero => cases hy; cases hu; exact ⟨hx, hv.2⟩
    | succ j => simp at hy) (by simpa using h3)
  exact ⟨w', hw', by simpa using hm'⟩

theorem setRowAt_mem {r i ep n : Nat} {f : Nat → List AV} {ob : Option DP} {R : RowV} (hl : rowAt st r i = some (ob, R)) {r' i' : Nat} {R' : RowV} (h : IsMem (setRowAt st r i ep n f) r' i' R') :
    (r' = r ∧ i' = i ∧ R' = ⟨R.ids, R.e, R.sz, ep, n, f⟩) ∨ (¬ (r' = r ∧ i' = i) ∧ IsMem st r' i' R') := by
  unfold rowAt at hl
  split at hl
  · rename_i ids e sz ep0 n0 f0 hk
    simp only [setRowAt, hk] at h
    cases hi : Nat.beq i 0 with
    | false => simp [hi] at hl
    | true =>
      simp only [hi, cond_true, Option.some.injEq, Prod.mk.injEq] at hl
      obtain ⟨rfl, rfl⟩ := hl
      obtain rfl : i = 0 := Nat.eq_of_beq_eq_true hi
      cases h with
      | row h =>
        rw [look_setSt] at h
        by_cases hr : r' = r
        · subst hr; rw [if_pos rfl, hk] at h; cases h; exact .inl ⟨rfl, rfl, rfl⟩
        · rw [if_neg hr] at h; exact .inr ⟨fun e => hr e.1, .row h⟩
      | fam h hi =>
        rw [look_setSt] at h
        by_cases hr : r' = r
        · subst hr; rw [if_pos rfl, hk] at h; cases h
        · rw [if_neg hr] at h; exact .inr ⟨fun e => hr e.1, .fam h hi⟩
  · rename_i e sz cnt eps len fs hk
    simp only [setRowAt, hk] at h
    simp only [Option.some.injEq, Prod.mk.injEq] at hl
    obtain ⟨rfl, rfl⟩ := hl
    cases h with
    | row h =>
      rw [look_setSt] at h
      by_cases hr : r' = r
      · subst hr; rw [if_pos rfl, hk] at h; cases h
      · rw [if_neg hr] at h; exact .inr ⟨fun e => hr e.1, .row h⟩
    | fam h hi =>
      rw [look_setSt] at h
      by_cases hr : r' = r
      · subst hr
        rw [if_pos rfl, hk] at h
        cases h
        by_cases hi' : i' = i
        · subst hi'; exact .inl ⟨rfl, rfl, by simp [upd]⟩
        · refine .inr ⟨fun e => hi' e.2, ?_⟩
          simp only [upd, if_neg hi']
          exact .fam hk hi
      · rw [if_neg hr] at h; exact .inr ⟨fun e => hr e.1, .fam h hi⟩
  · cases hl

theorem setRowAt_box {r i ep n : Nat} {f : Nat → List AV} {b : Nat} {ty : TypeId} {cs : List AV} (h : look (setRowAt st r i ep n f) b = some (.box ty cs)) : look st b = some (.box ty cs) := by
  unfold setRowAt at h
  split at h
  · rename_i hk
    rw [look_setSt] at h
    by_cases hb : b = r
    · subst hb; rw [if_pos rfl, hk] at h; cases h
    · rwa [if_neg hb] at h
  · rename_i hk
    rw [look_setSt] at h
    by_cases hb : b = r
    · subst hb; rw [if_pos rfl, hk] at h; cases h
    · rwa [if_neg hb] at h
  · exact h

theorem setRowAt_ids (hm : Mem c rd mp st nx w) {r i ep n : Nat} {f : Nat → List AV} : ∀ j x, look (setRowAt st r i ep n f) j = some x → ¬ c.fre nx j := by
  intro j x h
  unfold setRowAt at h
  split at h
  · rename_i hk
    rw [look_setSt] at h
    by_cases hb : j = r
    · subst hb; exact hm.ids _ _ hk
    · rw [if_neg hb] at h; exact hm.ids _ _ h
  · rename_i hk
    rw [look_setSt] at h
    by_cases hb : j = r
    · subst hb; exact hm.ids _ _ hk
    · rw [if_neg hb] at h; exact hm.ids _ _ h
  · exact hm.ids _ _ h

theorem setRowAt_out (hm : Mem c rd mp st nx w) {r i ep n : Nat} {f : Nat → List AV} {ob : Option DP} {R : RowV} (hl : rowAt st r i = some (ob, R)) (hob : obT ob) (v : Value) (ep' n' : Nat) :
    ∀ r' e sz cnt eps len fs, look (setRowAt st r i ep n f) r' = some (.fam e sz cnt eps len fs) → ∀ i', cnt ≤ i' → (mp.setRow r i v ep' n').row r' i' = none := by
  intro r' e sz cnt eps len fs h i' hi'
  have key : ∃ eps' len' fs', look st r' = some (.fam e sz cnt eps' len' fs') := by
    unfold setRowAt at h
    split at h
    · rename_i hk
      rw [look_setSt] at h
      by_cases hb : r' = r
      · subst hb; rw [if_pos rfl, hk] at h; cases h
      · rw [if_neg hb] at h; exact ⟨_, _, _, h⟩
    · rename_i hk
      rw [look_setSt] at h
      by_cases hb : r' = r
      · subst hb; rw [if_pos rfl, hk] at h; cases h; exact ⟨_, _, _, hk⟩
      · rw [if_neg hb] at h; exact ⟨_, _, _, h⟩
    · exact ⟨_, _, _, h⟩
  obtain ⟨eps', len', fs', hk⟩ := key
  simp only [Mp.setRow]
  rw [if_neg]
  · exact hm.out _ _ _ _ _ _ _ hk i' hi'
  · rintro ⟨rfl, rfl⟩
    unfold rowAt at hl
    rw [hk] at hl
    simp only [Option.some.injEq, Prod.mk.injEq] at hl
    obtain ⟨rfl, rfl⟩ := hl
    have : i' < cnt := hob
    omega

theorem setRowAt_ro {r i ep n : Nat} {f : Nat → List AV} {ob : Option DP} {R : RowV} (hl : rowAt st r i = some (ob, R)) : ∀ r' sz ep' n' f', look (setRowAt st r i ep n f) r' = some (.ro sz ep' n' f') → r' ≠ r ∧ look st r' = some (.ro sz ep' n' f') := by
  intro r' sz ep' n' f' h
  unfold rowAt at hl
  split at hl
  · rename_i hk
    simp only [setRowAt, hk] at h
    rw [look_setSt] at h
    by_cases hb : r' = r
    · subst hb; rw [if_pos rfl, hk] at h; cases h
    · rw [if_neg hb] at h; exact ⟨hb, h⟩
  · rename_i hk
    simp only [setRowAt, hk] at h
    rw [look_setSt] at h
    by_cases hb : r' = r
    · subst hb; rw [if_pos rfl, hk] at h; cases h
    · rw [if_neg hb] at h; exact ⟨hb, h⟩
  · cases hl

/-- A row of the store that turns. -/
theorem Mem.turnRow (hm : Mem c rd mp st nx w) {w' : World} {r i ep n : Nat} {f : Nat → List AV} {ob : Option DP} {R : RowV} (hl : rowAt st r i = some (ob, R)) (hob : obT ob) {v v' : Value} {xs : List Value} (hv : mp.row r i = some (v, R.ep, R.n))
    (hsep : ∀ g, v.ownBlock = some g → (∀ o, rd g o = none) ∧ (c.w0.heap.size ≤ g ∨ c.fx g))
    (hmp : R.ep < ep ∨ (R.ep = ep ∧ (R.n < n ∨ (R.n = n ∧ v = v')))) (hg : w.grownBy w' v.ownBlock) (hown : Owns w' R.e R.sz v' n xs) (hat : v'.ownBlock = v.ownBlock ∨ ∃ g, v'.ownBlock = some g ∧ w.heap.size ≤ g)
    (hf : ∀ k, k < n → (f k).length = R.sz) (hx : ∀ (k j : Nat) x, k < n → (f k)[j]? = some x → ∃ u, xs[k * R.sz + j]? = some u ∧ u.oneCell' = true ∧ Rel rd (mp.sel R.ids) x u) :
    Mp.le mp (mp.setRow r i v' ep n) ∧ Mem c rd (mp.setRow r i v' ep n) (setRowAt st r i ep n f) nx w' := by
  have hmono : ∀ v0 e0 n0, mp.row r i = some (v0, e0, n0) → e0 < ep ∨ (e0 = ep ∧ (n0 < n ∨ (n0 = n ∧ v0 = v'))) := by
    intro v0 e0 n0 h
    rw [hv] at h; cases h
    exact hmp
  have hR := rowAt_mem hl hob
  refine ⟨Mp.le_setRow hmono, ?_⟩
  exact hm.setMem r i ⟨R.ids, R.e, R.sz, ep, n, f⟩ v' xs v.ownBlock (hm.mem_alone hR hv) (fun g hg' => ⟨(hsep g hg').2, (hsep g hg').1⟩) hmono hg hown hat hf hx (fun b ty cs => setRowAt_box)
    (fun r' i' R' h => setRowAt_mem hl h) (fun _ h => h) (setRowAt_ids hm) (isMem_lt hm hR) (setRowAt_out hm hl hob v' ep n) (setRowAt_ro hl)

theorem cellOk_one {ids : List Nat} {y : AV} (h : cellOk ids y = true) : y.oneOwn = true := by
  cases y <;> simp_all [cellOk, AV.oneOwn, AV.one]

theorem cellOk_rel {ids : List Nat} {y : AV} {u : Value} (h : cellOk ids y = true) (hr : Rel rd mp y u) : Rel rd (mp.sel ids) y u := by
  cases hr with
  | own _ r i e n v vr er nr h1 h2 h3 h4 hsl =>
    have : r ∈ ids := by
      simp only [cellOk, List.any_eq_true] at h
      obtain ⟨x, hx, he⟩ := h
      rw [Nat.eq_of_beq_eq_true he]; exact hx
    exact .own _ _ _ _ _ _ vr er nr (by simp [Mp.sel, this, h1]) h2 h3 h4 hsl
  | fn _ f cs vs hs he =>
    refine .fn _ _ _ _ hs (fun j x v hx hv => (he j x v hx hv).pure0 ?_)
    simp only [cellOk, AV.one, Bool.true_and, AV.pure1, List.all_eq_true] at h
    exact h x (List.mem_of_getElem? hx)
  | _ => first
    | (simp [cellOk, AV.one] at h; done)
    | (simp [cellOk, AV.pure1, AV.pure0] at h; done)
    | (constructor <;> assumption)
    | constructor

theorem addId_any (ids : List Nat) (r q : Nat) (h : ids.any (Nat.beq q) = true) : (addId ids r).any (Nat.beq q) = true := by
  simp only [addId]
  cases ids.any (Nat.beq r) with
  | true => exact h
  | false => simp [h]

theorem addIds_any : ∀ (l ids : List Nat) (q : Nat), ids.any (Nat.beq q) = true → (addIds ids l).any (Nat.beq q) = true
  | [], _, _, h => h
  | r :: l, ids, q, h => addIds_any l _ q (addId_any ids r q h)

theorem mem_any {ids : List Nat} {q : Nat} : ids.any (Nat.beq q) = true ↔ q ∈ ids := by
  rw [List.any_eq_true]
  constructor
  · rintro ⟨x, hx, he⟩; rw [Nat.eq_of_beq_eq_true he]; exact hx
  · intro h; exact ⟨q, h, by simp⟩

theorem Mp.sel_sub {mp : Mp} {a b : List Nat} (h : ∀ q ∈ a, q ∈ b) : Mp.le (mp.sel a) (mp.sel b) :=
  ⟨fun _ _ h => (by cases h), fun r i v e n h0 => by
    simp only [Mp.sel] at h0 ⊢
    split at h0
    · rename_i hr
      rw [if_pos (h r hr)]
      exact ⟨v, e, n, h0, .inr ⟨rfl, .inr ⟨rfl, rfl⟩⟩⟩
    · cases h0⟩

/-- A row's cells may name more rows than they do. -/
theorem Mem.moreIds (hm : Mem c rd mp st nx w) (r : Nat) (l : List Nat) : Mem c rd mp (addIdsAt st r l) nx w := by
  cases l with
  | nil => exact hm
  | cons q qs =>
    simp only [addIdsAt]
    split
    · rename_i ids e sz ep n f hk
      have hlook : ∀ i x, look (setSt st r (.row (addIds ids (q :: qs)) e sz ep n f)) i = some x → (i = r ∧ x = .row (addIds ids (q :: qs)) e sz ep n f) ∨ (i ≠ r ∧ look st i = some x) := by
        intro i x h
        rw [look_setSt] at h
        by_cases hi : i = r
        · subst hi; rw [if_pos rfl, hk] at h; cases h; exact .inl ⟨rfl, rfl⟩
        · rw [if_neg hi] at h; exact .inr ⟨hi, h⟩
      have hmem : ∀ r' i' R', IsMem (setSt st r (.row (addIds ids (q :: qs)) e sz ep n f)) r' i' R' → (r' = r ∧ i' = 0 ∧ R' = ⟨addIds ids (q :: qs), e, sz, ep, n, f⟩) ∨ IsMem st r' i' R' := by
        intro r' i' R' h
        cases h with
        | row h =>
          rcases hlook _ _ h with ⟨rfl, hx⟩ | ⟨_, hx⟩
          · cases hx; exact .inl ⟨rfl, rfl, rfl⟩
          · exact .inr (.row hx)
        | fam h hi =>
          rcases hlook _ _ h with ⟨rfl, hx⟩ | ⟨_, hx⟩
          · cases hx
          · exact .inr (.fam hx hi)
      have old : ∀ p, There (setSt st r (.row (addIds ids (q :: qs)) e sz ep n f)) p → There st p := by
        intro p hp
        cases p with
        | bx b =>
          obtain ⟨ty, cs, hl⟩ := hp
          rcases hlook _ _ hl with ⟨rfl, hx⟩ | ⟨_, hx⟩
          · cases hx
          · exact ⟨ty, cs, hx⟩
        | rw r' i' =>
          obtain ⟨R, hR⟩ := hp
          rcases hmem _ _ _ hR with ⟨rfl, rfl, _⟩ | h
          · exact ⟨_, .row hk⟩
          · exact ⟨R, h⟩
      refine ⟨hm.rdw, hm.rd1, hm.rdn, hm.fr, fun b ty cs hl => ?_, fun r' i' R hR => ?_, fun p q g hp hq => hm.inj p q g (old p hp) (old q hq), hm.fresh, fun i x hx => ?_, fun r' e' sz' cnt ep' len f' hl => ?_, fun r' sz' ep' n' f' hl => ?_, hm.tab⟩
      · rcases hlook _ _ hl with ⟨rfl, hx⟩ | ⟨_, hx⟩
        · cases hx
        · exact hm.bx b ty cs hx
      · rcases hmem _ _ _ hR with ⟨rfl, rfl, rfl⟩ | h
        · obtain ⟨v, xs, h1, h2, h3, h4, h5⟩ := hm.mb _ _ _ (.row hk)
          refine ⟨v, xs, h1, h2, h3, fun k j x hk' hx => ?_, h5⟩
          obtain ⟨u, hu, hu1, hu2⟩ := h4 k j x hk' hx
          exact ⟨u, hu, hu1, hu2.mono (Rd.le.refl _) (Mp.sel_sub fun y hy => mem_any.1 (addIds_any _ _ _ (mem_any.2 hy)))⟩
        · exact hm.mb _ _ _ h
      · rcases hlook _ _ hx with ⟨rfl, _⟩ | ⟨_, hx⟩
        · exact hm.ids _ _ hk
        · exact hm.ids _ _ hx
      · rcases hlook _ _ hl with ⟨rfl, hx⟩ | ⟨_, hx⟩
        · cases hx
        · exact hm.out _ _ _ _ _ _ _ hx
      · rcases hlook _ _ hl with ⟨rfl, hx⟩ | ⟨_, hx⟩
        · cases hx
        · exact hm.ro _ _ _ _ _ hx
    · exact hm

theorem Mem.withNames (hm : Mem c rd mp st nx w) (a x : AV) : Mem c rd mp (withIds st a x) nx w := by
  cases a <;> first | exact hm | exact hm.moreIds _ _

/-- A store into a row of the call's own. -/
theorem fits_store_row (hT : ∀ t, T t = tab P t) (hm : Mem c rd mp st nx w) (t : TypeId) {r i e n sz k o : Nat} {ob : Option DP} {R : RowV} (hl : rowAt st r i = some (ob, R)) (hob : obT ob) (hnow : e = R.ep ∧ n = R.n) (x : AV) (va v : Value) (ha : Rel rd mp (.eptr r i e n sz k o) va) (hx : Rel rd mp x v)
    (hsz : sz = R.sz) (h1 : (cellsOf x).length = (T t).size) (h2 : (cellsOf x).all (cellOk R.ids) = true) (hown : obT (ownOb st (cellsOf x))) (h3 : o + (cellsOf x).length ≤ R.sz) (h4 : 1 ≤ (T t).size) (hk : k < n) :
    ∃ w' mp', (Instr.storeAt t va v).run P w = .ok () w' ∧ Mp.le mp mp' ∧ Mem c rd mp' (setRowAt st r i R.ep R.n (fun j => if j = k then setAll (R.f k) o (cellsOf x) else R.f j)) nx w' := by
  subst hsz
  obtain ⟨hne, hnn⟩ := hnow
  subst hnn
  have hone : (cellsOf x).all AV.oneOwn = true := by
    rw [List.all_eq_true] at h2 ⊢
    exact fun y hy => cellOk_one (h2 y hy)
  obtain ⟨hs, hr⟩ := cells_one hm hx hone hown
  obtain ⟨v0, xs, g1, g2, g3, g4, g5⟩ := hm.mb r i R (rowAt_mem hl hob)
  obtain ⟨vr, er, nr, e1, e2, e3, e4⟩ := rel_eptr ha
  rw [g1] at e1; cases e1
  obtain ⟨g, lo, cap, rfl, rfl⟩ := e4 hne rfl
  rw [storeVar_run hT t g (lo + (k * R.sz + o)) v (by omega) h4]
  rcases g2.2 with ⟨hnil, _⟩ | ⟨g', lo', cap', cur, hv, hheap, hnc, hcm, hcs, htake⟩
  · cases hnil
  · simp only [Value.slice.injEq, Option.some.injEq, Addr.mk.injEq, and_true, true_and] at hv
    obtain ⟨⟨rfl, rfl⟩, rfl⟩ := hv
    have hisz : k * R.sz + R.sz ≤ R.n * R.sz := by
      have : (k + 1) * R.sz ≤ R.n * R.sz := Nat.mul_le_mul_right R.sz hk
      rwa [Nat.succ_mul] at this
    have hnsz : R.n * R.sz ≤ cap * R.sz := Nat.mul_le_mul_right R.sz hnc
    have hlen : v.cells.toList.length = (cellsOf x).length := by simpa using hs
    have hst := run_storeCells_at P g (lo + (k * R.sz + o)) R.e v.cells.toList 0 cur w hheap (by rw [hlen]; omega)
      (fun u hu => by
        obtain ⟨j, hj⟩ := List.mem_iff_getElem?.1 hu
        have hjl : j < (cellsOf x).length := by rw [← hlen]; exact (List.getElem?_eq_some_iff.1 hj).1
        exact (hr j _ u (List.getElem?_eq_getElem hjl) (by simpa using hj)).2)
    simp only [Nat.add_zero] at hst
    have hcl : cur.toList.length = cur.size := by simp
    let cur' := cur.toList.take (lo + (k * R.sz + o)) ++ v.cells.toList ++ cur.toList.drop (lo + (k * R.sz + o) + v.cells.toList.length)
    have hcur' : cur'.length = cur.size := by
      simp only [cur', List.length_append, List.length_take, List.length_drop, hcl, hlen]
      omega
    have hwg : w.grownBy (w.setRow g cur'.toArray) (some g) :=
      ⟨rfl, rfl, rfl, by simp [World.setRow], fun j hj hne => by simp only [World.setRow, Array.getElem?_modify]; rw [if_neg (by rintro rfl; exact hne rfl)]⟩
    have hheap' : (w.setRow g cur'.toArray).heap[g]? = some (.cells cur'.toArray R.e (0, 0)) := by
      simp [World.setRow, Array.getElem?_modify, hheap]
    have hget : ∀ j, cur'[j]? = if lo + (k * R.sz + o) ≤ j ∧ j < lo + (k * R.sz + o) + (cellsOf x).length then v.cells.toList[j - (lo + (k * R.sz + o))]? else cur.toList[j]? := by
      intro j
      simp only [cur', List.append_assoc]
      by_cases hlo : j < lo + (k * R.sz + o)
      · rw [List.getElem?_append_left (by rw [List.length_take, hcl]; omega), List.getElem?_take, if_pos hlo, if_neg (by omega)]
      · rw [List.getElem?_append_right (by rw [List.length_take, hcl]; omega), List.length_take, hcl, Nat.min_eq_left (by omega)]
        by_cases hin : j < lo + (k * R.sz + o) + (cellsOf x).length
        · rw [List.getElem?_append_left (by omega), if_pos (by omega)]
        · rw [List.getElem?_append_right (by omega), List.getElem?_drop, if_neg (by omega)]
          congr 1; omega
    have hturn := hm.turnRow (w' := w.setRow g cur'.toArray) (ep := R.ep) (n := R.n) (f := fun j => if j = k then setAll (R.f k) o (cellsOf x) else R.f j) hl hob (v' := .slice (some ⟨g, lo, none⟩) R.n cap) (xs := (cur'.drop lo).take (R.n * R.sz)) g1 g5 (.inr ⟨rfl, .inr ⟨rfl, rfl⟩⟩) hwg
      ⟨by rw [List.length_take, List.length_drop, hcur']; omega, .inr ⟨g, lo, cap, cur'.toArray, rfl, hheap', hnc, hcm, by rw [List.size_toArray, hcur']; exact hcs, rfl⟩⟩ (.inl rfl) (fun j hj => ?_) (fun j l y hj hy => ?_)
    · exact ⟨_, _, hst, hturn⟩
    · by_cases h : j = k
      · subst h; simp [setAll_length, g3 j hj]
      · simp [h, g3 j hj]
    · have hjsz : l < R.sz := by
        have : l < (if j = k then setAll (R.f k) o (cellsOf x) else R.f j).length := (List.getElem?_eq_some_iff.1 hy).1
        by_cases h : j = k
        · rw [if_pos h, setAll_length, g3 k hk] at this; exact this
        · rw [if_neg h, g3 j hj] at this; exact this
      have hi'sz : j * R.sz + R.sz ≤ R.n * R.sz := by
        have : (j + 1) * R.sz ≤ R.n * R.sz := Nat.mul_le_mul_right R.sz hj
        rwa [Nat.succ_mul] at this
      rw [List.getElem?_take, if_pos (by omega), List.getElem?_drop, hget]
      have hold : ∀ z, (R.f j)[l]? = some z → ∃ u, cur.toList[lo + (j * R.sz + l)]? = some u ∧ u.oneCell' = true ∧ Rel rd (mp.sel R.ids) z u := by
        intro z hz
        obtain ⟨u, hu, hu1, hu2⟩ := g4 j l z hj hz
        rw [← htake, List.getElem?_take, if_pos (by omega), List.getElem?_drop] at hu
        exact ⟨u, hu, hu1, hu2⟩
      by_cases h : j = k
      · subst h
        simp only [if_pos] at hy
        rw [setAll_get, g3 j hk, if_pos hjsz] at hy
        by_cases hin : o ≤ l ∧ l < o + (cellsOf x).length
        · rw [if_pos hin] at hy
          rw [if_pos (by omega), show lo + (j * R.sz + l) - (lo + (j * R.sz + o)) = l - o by omega]
          have hjl : l - o < v.cells.toList.length := by omega
          obtain ⟨hr1, hr2⟩ := hr (l - o) y v.cells.toList[l - o] hy (by simp)
          exact ⟨_, List.getElem?_eq_getElem hjl, hr2, cellOk_rel (List.all_eq_true.1 h2 y (List.mem_of_getElem? hy)) hr1⟩
        · rw [if_neg hin] at hy
          rw [if_neg (by omega)]
          exact hold y hy
      · simp only [if_neg h] at hy
        rw [if_neg]
        · exact hold y hy
        · rintro ⟨ha, hb⟩
          by_cases hlo : j < k
          · have : j * R.sz + R.sz ≤ k * R.sz := by
              have : (j + 1) * R.sz ≤ k * R.sz := Nat.mul_le_mul_right R.sz hlo
              rwa [Nat.succ_mul] at this
            omega
          · have : k * R.sz + R.sz ≤ j * R.sz := by
              have : (k + 1) * R.sz ≤ j * R.sz := Nat.mul_le_mul_right R.sz (by omega)
              rwa [Nat.succ_mul] at this
            omega

end Go.Sx
end
section
/- Soundness of the abstract operations, seventh part: structs and slices that are built, append, make, len and their kin. Nothing of a program. -/
namespace Go.Sx
open Go Go.RowKit

variable {P : Program} {T : Nat → TI} {C : Cfg} {c : Ctx} {rd : Rd} {mp : Mp} {st : List (Nat × SO)} {nx : Nat} {w : World} {s : ASt}

theorem rel_zero {e : TypeId} {z : Value} (hz : (T e).zero = z.cells.toList.map ofVal1) : ∀ (j : Nat) x v, (T e).zero[j]? = some x → z.cells[j]? = some v → Rel rd mp x v := by
  intro j x v hx hv
  rw [hz] at hx
  simp at hx
  obtain ⟨u, hu, rfl⟩ := hx
  rw [hv] at hu; cases hu
  exact rel_ofVal1 rd mp v

theorem places_some (hT : ∀ t, T t = tab P t) : ∀ (fs : List Field), (fs.map fun f => (f.offset, f.type)).all (fun p => Nat.ble 1 (T p.2).size) = true →
    fs.mapM (fun f => (P.info? f.type).map fun i => (f.offset, i.size)) = some (fs.map fun f => (f.offset, (T f.type).size)) := by
  intro fs
  induction fs with
  | nil => intro _; rfl
  | cons f fs ih =>
    intro h
    simp only [List.map_cons, List.all_cons, Bool.and_eq_true, Nat.ble_eq] at h
    obtain ⟨i, hi, hs, _⟩ := tab_size hT h.1
    simp [List.mapM_cons, hi, ih h.2, hs]

theorem fits_build (hT : ∀ t, T t = tab P t) (hm : Mem c rd mp st nx w) (t : TypeId) (parts : List (Nat × AV)) (vparts : Array (Nat × Value)) (hl : vparts.size = parts.length)
    (hv : ∀ (j : Nat) p q, parts[j]? = some p → vparts[j]? = some q → p.1 = q.1 ∧ Rel rd mp p.2 q.2) : Fits P c rd mp st nx w (buildO T st t parts) (Instr.build t vparts) := by
  unfold buildO
  split
  · rename_i fs hk
    cases hc : (Nat.ble 1 (T t).size && Nat.beq (T t).zero.length (T t).size && fs.all (fun p => Nat.ble 1 (T p.2).size)) with
    | false => trivial
    | true =>
      simp only [cond_true]
      simp only [Bool.and_eq_true, Nat.beq_eq, Nat.ble_eq] at hc
      obtain ⟨⟨h1, h2⟩, h3⟩ := hc
      split
      · rename_i cs hf
        intro hob
        obtain ⟨i, z, hi, hz, _, _, hzs, hzz⟩ := zero_parts hT h1 h2
        obtain ⟨fields, hd, rfl⟩ := tab_struct hT hk
        obtain ⟨us, hus, hu1, hu2⟩ := fill_rel hm (placeS T (fields.toList.map fun f => (f.offset, f.type))) (fun i => (fields.toList.map fun f => (f.offset, (T f.type).size)).toArray[i]?)
          (fun i _ => by simp [placeS]; rfl) parts vparts.toList (T t).zero z.cells cs (by rw [hzz]; simp) (rel_zero hzz) (by simpa using hl) (fun j p q hp hq => hv j p q hp (by simpa using hq)) hob hf
        refine .here hm (x := .agg us) (run_build w t vparts us ?_) (.agg _ _ _ hu1 hu2)
        simp only [Program.built, hi, hd, hz, places_some hT _ h3]
        exact hus
      · trivial
  · rename_i n e hk
    cases hc : (Nat.ble 1 (T t).size && Nat.beq (T t).zero.length (T t).size && Nat.ble 1 (T e).size) with
    | false => trivial
    | true =>
      simp only [cond_true]
      simp only [Bool.and_eq_true, Nat.beq_eq, Nat.ble_eq] at hc
      obtain ⟨⟨h1, h2⟩, h3⟩ := hc
      split
      · rename_i cs hf
        intro hob
        obtain ⟨i, z, hi, hz, _, _, hzs, hzz⟩ := zero_parts hT h1 h2
        obtain ⟨ie, hie, hes, _⟩ := tab_size hT h3
        obtain ⟨us, hus, hu1, hu2⟩ := fill_rel hm (fun i => some (i * (T e).size, (T e).size)) (fun i => some (i * ie.size, ie.size))
          (fun i _ => by rw [hes]) parts vparts.toList (T t).zero z.cells cs (by rw [hzz]; simp) (rel_zero hzz) (by simpa using hl) (fun j p q hp hq => hv j p q hp (by simpa using hq)) hob hf
        refine .here hm (x := .agg us) (run_build w t vparts us ?_) (.agg _ _ _ hu1 hu2)
        simp only [Program.built, hi, tab_array hT hk, hz, hie]
        exact hus
      · trivial
  · trivial

theorem zeros_length (z : List AV) (n : Nat) : (zeros z n).length = n * z.length := by
  induction n with
  | zero => simp [zeros]
  | succ n ih => simp [zeros, ih, Nat.succ_mul]; omega

theorem zeros_get (z : List AV) : ∀ (n j : Nat), j < n * z.length → (zeros z n)[j]? = z[j % z.length]? := by
  intro n
  induction n with
  | zero => intro j hj; omega
  | succ n ih =>
    intro j hj
    rw [Nat.succ_mul] at hj
    simp only [zeros]
    by_cases h : j < z.length
    · rw [List.getElem?_append_left h, Nat.mod_eq_of_lt h]
    · rw [List.getElem?_append_right (by omega), ih _ (by omega), Nat.mod_eq_sub_mod (by omega : z.length ≤ j)]

theorem build_cells (hT : ∀ t, T t = tab P t) (hm : Mem c rd mp st nx w) (t : TypeId) (len : Nat) (parts : List (Nat × AV)) (vparts : Array (Nat × Value)) (hl : vparts.size = parts.length)
    (hv : ∀ (j : Nat) p q, parts[j]? = some p → vparts[j]? = some q → p.1 = q.1 ∧ Rel rd mp p.2 q.2) {e : TypeId} (hk : (T t).kd = .slice e) (h1 : 1 ≤ (T e).size) (h2 : len * (T e).size ≤ 16777216) (h3 : (T e).zero.length = (T e).size) {cs : List AV}
    (hf : fillO (fun i => some (i * (T e).size, (T e).size)) (zeros (T e).zero len) parts = some cs) (hone : cs.all AV.oneOwn = true) (hob : obT (partsOb st parts)) (hown : obT (ownOb st cs)) :
    ∃ us, (Instr.buildSlice t len vparts).run P w = .ok (.slice (some ⟨w.heap.size, 0, none⟩) len len) (w.alloc (.cells us e)) ∧
      us.size = len * (T e).size ∧ (∀ v ∈ us, v.oneCell' = true) ∧ (∀ i, i < len → (chop (T e).size cs i).length = (T e).size) ∧
      ∀ (i j : Nat) x, i < len → (chop (T e).size cs i)[j]? = some x → ∃ u, us[i * (T e).size + j]? = some u ∧ Rel rd mp x u ∧ x ∈ cs := by
  obtain ⟨i, z, hi, hz, hsz, _, hzs, hzz⟩ := zero_parts hT h1 h3
  let zc : Array Value := (Array.range (len * (T e).size)).map (fun q => z.cells[q % z.cells.size]!)
  have hzc : zc.size = len * (T e).size := by simp [zc]
  have hzr : ∀ (j : Nat) x v, (zeros (T e).zero len)[j]? = some x → zc[j]? = some v → Rel rd mp x v := by
    intro j x v hx hv'
    have hj : j < len * (T e).size := by rw [← hzc]; exact (Array.getElem?_eq_some_iff.1 hv').1
    rw [zeros_get _ _ _ (by rw [h3]; exact hj), h3] at hx
    have hm' : j % z.cells.size < z.cells.size := Nat.mod_lt _ (by omega)
    simp only [zc, Array.getElem?_map, Array.getElem?_range] at hv'
    rw [if_pos hj] at hv'
    simp only [Option.map_some, Option.some.injEq] at hv'
    rw [getElem!_pos z.cells _ hm'] at hv'
    exact rel_zero hzz (j % (T e).size) x v hx (by rw [← hv', ← hzs]; simp [hm'])
  obtain ⟨us, hus, hu1, hu2⟩ := fill_rel hm (fun i => some (i * (T e).size, (T e).size)) (fun k => some (k * i.size, i.size))
    (fun k _ => by rw [hsz]) parts vparts.toList (zeros (T e).zero len) zc cs (by rw [zeros_length, h3]; exact hzc) hzr (by simpa using hl) (fun j p q hp hq => hv j p q hp (by simpa using hq)) hob hf
  have hfl : ∀ (ps : List (Nat × AV)) (cs out : List AV), fillO (fun i => some (i * (T e).size, (T e).size)) cs ps = some out → out.length = cs.length := by
    intro ps
    induction ps with
    | nil => intro cs out h; simp only [fillO, Option.some.injEq] at h; rw [h]
    | cons p ps ih =>
      intro cs out h
      obtain ⟨i, x⟩ := p
      simp only [fillO, frcL1_eq] at h
      cases hc : (partOk x && Nat.beq (cellsOf x).length (T e).size && Nat.ble (i * (T e).size + (T e).size) cs.length) with
      | false => simp [hc] at h
      | true => simp only [hc, cond_true] at h; rw [ih _ _ h, setAll_length]
  have hcsl : cs.length = len * (T e).size := by rw [hfl _ _ _ hf, zeros_length, h3]
  have hus1 : ∀ v ∈ us, v.oneCell' = true := by
    intro v hv'
    obtain ⟨j, hj⟩ := Array.mem_iff_getElem?.1 hv'
    have hjl : j < cs.length := by rw [← hu1]; exact (Array.getElem?_eq_some_iff.1 hj).1
    exact rel_oneOwn hm (hu2 j cs[j] v (List.getElem?_eq_getElem hjl) hj) (List.all_eq_true.1 hone cs[j] (List.getElem_mem hjl)) (ownOb_mem hown _ (List.getElem_mem hjl))
  have hidx : ∀ i j, i < len → j < (T e).size → i * (T e).size + j < us.size := by
    intro i j hi' hj
    have : (i + 1) * (T e).size ≤ len * (T e).size := Nat.mul_le_mul_right _ hi'
    rw [Nat.succ_mul] at this
    omega
  refine ⟨us, ?_, by omega, hus1, fun i hi' => ?_, fun i j x hi' hx => ?_⟩
  · have hz0 : ¬ len * i.size > 2 ^ 24 := by rw [hsz]; omega
    by_cases hlen : len = 0
    · subst hlen
      have hzc0 : zc = #[] := by
        apply Array.eq_empty_of_size_eq_zero
        simpa using hzc
      rw [hzc0] at hus
      simp [Instr.buildSlice, run_underlying (tab_slice hT hk), sizeOf, typeInfo, hi, newRow]
      rw [show Array.map (fun _ : Nat => (default : Value)) (Array.range 0) = #[] from Array.eq_empty_of_size_eq_zero (by simp), hus]
      rfl
    · have hne : ¬ len * i.size = 0 := by
        have : 0 < len * i.size := Nat.mul_pos (by omega) (by omega)
        omega
      have hzc' : (Array.range (len * i.size)).map (fun q => z.cells[q % z.cells.size]!) = zc := by simp only [zc, hsz]
      simp only [Instr.buildSlice, Sem.run_bind, run_underlying (tab_slice hT hk), Result.andThen_ok, sizeOf, typeInfo, run_program, hi, Sem.run_pure, hz0, if_false, hne, zeroValue, hz, hzc', hus, newRow]
      rfl
  · have := hidx i ((T e).size - 1) hi' (by omega)
    simp only [chop, List.length_take, List.length_drop]
    omega
  · simp only [chop] at hx
    rw [List.getElem?_take] at hx
    split at hx
    · rename_i hj
      rw [List.getElem?_drop] at hx
      have := hidx i j hi' hj
      have hr := hu2 _ x (us.getD (i * (T e).size + j) undef) hx (by simp [this])
      exact ⟨_, by simp [this], hr, List.mem_of_getElem? hx⟩
    · cases hx

theorem ownOb_none : ∀ {cs : List AV}, cs.all (fun y => y.one && y.pure1) = true → ownOb st cs = none
  | [], _ => rfl
  | x :: cs, h => by
    simp only [List.all_cons, Bool.and_eq_true] at h
    have := ownOb_none (cs := cs) h.2
    cases x <;> simp_all [ownOb, AV.one]

theorem build_core (hT : ∀ t, T t = tab P t) (hm : Mem c rd mp st nx w) (t : TypeId) (len : Nat) (parts : List (Nat × AV)) (vparts : Array (Nat × Value)) (hl : vparts.size = parts.length)
    (hv : ∀ (j : Nat) p q, parts[j]? = some p → vparts[j]? = some q → p.1 = q.1 ∧ Rel rd mp p.2 q.2) {ob : Option DP} {y : AV} (h : buildSliceO T st t len parts = .ok ob y) (hob : obT ob) :
    ∃ e us f, (T t).kd = .slice e ∧ y = .slc (T e).size len f ∧ 1 ≤ (T e).size ∧ len * (T e).size ≤ 16777216 ∧ (Instr.buildSlice t len vparts).run P w = .ok (.slice (some ⟨w.heap.size, 0, none⟩) len len) (w.alloc (.cells us e)) ∧
      us.size = len * (T e).size ∧ (∀ v ∈ us, v.oneCell' = true) ∧ (∀ i, i < len → (f i).length = (T e).size) ∧
      ∀ (i j : Nat) x, i < len → (f i)[j]? = some x → ∃ u, us[i * (T e).size + j]? = some u ∧ Rel rd Mp.none x u := by
  unfold buildSliceO at h
  split at h
  · rename_i e hk
    cases hc : (Nat.ble 1 (T e).size && Nat.ble (len * (T e).size) 16777216 && Nat.beq (T e).zero.length (T e).size) with
    | false => simp [hc] at h
    | true =>
      simp only [hc, cond_true] at h
      simp only [Bool.and_eq_true, Nat.beq_eq, Nat.ble_eq] at hc
      obtain ⟨⟨h1, h2⟩, h3⟩ := hc
      split at h
      · rename_i cs hf
        rw [frcL1_eq, frcN_eq] at h
        cases hone : cs.all (fun y => y.one && y.pure1) with
        | false => simp [hone] at h
        | true =>
          simp only [hone, cond_true, OR.ok.injEq] at h
          obtain ⟨rfl, rfl⟩ := h
          have hone' : cs.all AV.oneOwn = true := List.all_eq_true.2 fun y hy => by
            have := List.all_eq_true.1 hone y hy
            simp only [Bool.and_eq_true] at this
            cases y <;> simp_all [AV.oneOwn, AV.one]
          obtain ⟨us, hrun, hus, hus1, hfl, hx⟩ := build_cells hT hm t len parts vparts hl hv hk h1 h2 h3 hf hone' hob (by rw [ownOb_none hone]; trivial)
          refine ⟨e, us, chop (T e).size cs, hk, rfl, h1, h2, hrun, hus, hus1, hfl, fun i j x hi hxx => ?_⟩
          obtain ⟨u, hu, hr, hin⟩ := hx i j x hi hxx
          have := List.all_eq_true.1 hone x hin
          simp only [Bool.and_eq_true] at this
          exact ⟨u, hu, hr.pure1 this.2⟩
      · cases h
  · cases h

theorem buildSlice_or (st : List (Nat × SO)) (t : TypeId) (len : Nat) (parts : List (Nat × AV)) : buildSliceO T st t len parts = .bad ∨ ∃ ob y, buildSliceO T st t len parts = .ok ob y := by
  unfold buildSliceO
  split
  · rename_i e _
    cases (Nat.ble 1 (T e).size && Nat.ble (len * (T e).size) 16777216 && Nat.beq (T e).zero.length (T e).size) with
    | false => exact .inl rfl
    | true =>
      simp only [cond_true]
      split
      · rename_i cs _
        rw [frcL1_eq, frcN_eq]
        cases cs.all (fun y => y.one && y.pure1) with
        | false => exact .inl rfl
        | true => exact .inr ⟨_, _, rfl⟩
      · exact .inl rfl
  · exact .inl rfl

theorem fits_buildSlice (hT : ∀ t, T t = tab P t) (hm : Mem c rd mp st nx w) (t : TypeId) (len : Nat) (parts : List (Nat × AV)) (vparts : Array (Nat × Value)) (hl : vparts.size = parts.length)
    (hv : ∀ (j : Nat) p q, parts[j]? = some p → vparts[j]? = some q → p.1 = q.1 ∧ Rel rd mp p.2 q.2) : Fits P c rd mp st nx w (buildSliceO T st t len parts) (Instr.buildSlice t len vparts) := by
  rcases buildSlice_or (T := T) st t len parts with hb | ⟨ob, y, hb⟩
  · rw [hb]; trivial
  · rw [hb]
    intro hob
    obtain ⟨e, us, f, hk, rfl, h1, h2, hrun, hus, hone, hf, hx⟩ := build_core hT hm t len parts vparts hl hv hb hob
    refine ⟨_, _, rd.add w.heap.size us, hrun, Rd.le_add hm us, hm.newRo us e hone, ?_⟩
    by_cases hlen : len = 0
    · subst hlen; exact .slc0 _ _ _ _ _
    · refine .slc _ _ _ _ _ _ _ (fun i j => us.getD (i * (T e).size + j) undef) (by omega) (Nat.le_refl _) hf (fun i j hi' hj => ?_) (fun i j x hi' hx' => ?_)
      · have : i * (T e).size + j < us.size := by
          have : (i + 1) * (T e).size ≤ len * (T e).size := Nat.mul_le_mul_right _ hi'
          rw [Nat.succ_mul] at this
          omega
        simp [Rd.add, this]
      · obtain ⟨u, hu, hr⟩ := hx i j x hi' hx'
        have : us.getD (i * (T e).size + j) undef = u := by simp [Array.getD_eq_getD_getElem?, hu]
        rw [this]
        exact hr.mono (Rd.le_add hm us) (Mp.le.refl _)

end Go.Sx
end
section
/- Soundness of the abstract operations, eighth part: fields, extracts, conversions, append, make, len. Nothing of a program. -/
namespace Go.Sx
open Go Go.RowKit

variable {P : Program} {T : Nat → TI} {C : Cfg} {c : Ctx} {rd : Rd} {mp : Mp} {st : List (Nat × SO)} {nx : Nat} {w : World} {s : ASt}

theorem fits_field (hT : ∀ t, T t = tab P t) (hm : Mem c rd mp st nx w) (t : TypeId) (fi : Nat) (x : AV) (v : Value) (hx : Rel rd mp x v) : Fits P c rd mp st nx w (fieldO T t fi x) (Instr.field t v fi) := by
  unfold fieldO
  split
  · rename_i cs
    split
    · rename_i fs hk
      split
      · rename_i off ft hf
        obtain ⟨vs, rfl, hs, he⟩ := rel_agg hx
        obtain ⟨fields, hd, rfl⟩ := tab_struct hT hk
        simp only [List.getElem?_map, Option.map_eq_some_iff] at hf
        obtain ⟨fd, hfd, heq⟩ := hf
        simp only [Prod.mk.injEq] at heq
        obtain ⟨rfl, rfl⟩ := heq
        have hfd' : fields[fi]? = some fd := by simpa using hfd
        have hrun : (Instr.field t (.agg vs) fi).run P w = (part fd.type vs fd.offset).run P w := by simp [Instr.field, run_underlying hd, hfd', asAgg]
        unfold cellsO
        cases hag : isAggK (T fd.type).kd with
        | true =>
          cases hl : Nat.ble (T fd.type).size (cs.drop fd.offset).length with
          | false => trivial
          | true =>
            intro _
            have hle : (T fd.type).size ≤ (cs.drop fd.offset).length := Nat.le_of_ble_eq_true hl
            rw [List.length_drop] at hle
            obtain ⟨inf, d, h1, h2, h3, h4, _⟩ := tab_kd hT (t := fd.type) (by intro e; rw [e] at hag; simp [isAggK] at hag)
            have hg : (isAgg fd.type).run P w = .ok true w := by
              simp only [isAgg, Sem.run_bind, run_underlying h2, Result.andThen]
              rw [h3] at hag
              cases d <;> simp [kdOf, isAggK] at hag ⊢
            refine .here hm (x := .agg (vs.extract fd.offset (fd.offset + inf.size))) ?_ ?_
            · rw [hrun]; simp [part, hg, sizeOf, typeInfo, h1]
            · by_cases h0 : inf.size = 0
              · refine .agg _ _ _ (by simp [h4, h0]; omega) (fun j x v hx _ => by simp [h4, h0] at hx)
              refine .agg _ _ _ (by simp; omega) (fun j x v hx hv => ?_)
              rw [List.getElem?_take] at hx
              split at hx
              · rw [List.getElem?_drop] at hx
                rw [Array.getElem?_extract] at hv
                split at hv
                · exact he _ _ _ hx hv
                · cases hv
              · cases hx
        | false =>
          cases hs1 : Nat.beq (T fd.type).size 1 with
          | false => trivial
          | true =>
            have hs' : (T fd.type).size = 1 := Nat.eq_of_beq_eq_true hs1
            cases hc : cs.drop fd.offset with
            | nil => trivial
            | cons x r =>
              intro _
              have hx0 : cs[fd.offset]? = some x := by
                have : (cs.drop fd.offset)[0]? = some x := by rw [hc]; rfl
                rwa [List.getElem?_drop, Nat.add_zero] at this
              have hlt : fd.offset < vs.size := by rw [hs]; exact (List.getElem?_eq_some_iff.1 hx0).1
              have hg := isAgg_run hT (t := fd.type) (by omega) w
              rw [hag] at hg
              exact .here hm (x := vs[fd.offset]) (by rw [hrun]; simp [part, hg, hlt]) (he _ _ _ hx0 (by simp [hlt]))
      · trivial
    · trivial
  · trivial

theorem fits_extract (hm : Mem c rd mp st nx w) (i : Nat) (x : AV) (v : Value) (hx : Rel rd mp x v) : Fits P c rd mp st nx w (extractO i x) (Instr.extract v i) := by
  unfold extractO
  split
  · rename_i vs
    split
    · rename_i y hy
      intro _
      obtain ⟨us, rfl, hs, he⟩ := rel_tup hx
      have hlt : i < us.size := by rw [hs]; exact (List.getElem?_eq_some_iff.1 hy).1
      exact .here hm (x := us[i]) (by simp [Instr.extract, hlt]) (he _ _ _ hy (by simp [hlt]))
    · trivial
  · trivial

theorem tab_und (hT : ∀ t, T t = tab P t) {t : TypeId} (h : 1 ≤ (T t).size) : ∃ d, P.underlying t = some d := by
  rw [hT] at h
  unfold tab at h
  split at h
  · rename_i i d h1 h2
    exact ⟨d, h2⟩
  · simp at h

theorem byteSl_kd (hT : ∀ t, T t = tab P t) {src to : TypeId} (h : byteSl T src to = true) : ∃ e, P.underlying src = some (.slice e) ∧ P.underlying to = some .string ∧ P.underlying e = some (.int .u8) := by
  unfold byteSl at h
  split at h
  · rename_i e h1 h2
    simp only [Bool.and_eq_true] at h
    refine ⟨e, tab_slice hT h1, tab_str hT h2, ?_⟩
    have h3 := h.2
    split at h3
    · rename_i hk; exact tab_int hT hk
    · cases h3
  · cases h

theorem bytesV_get {n : Nat} {f : Nat → List AV} (h : isBytes n f) {j : Nat} (hj : j < (bytesV n f).length) : f j = [.int .u8 ((bytesV n f)[j].toNat : Int)] := by
  have hn : j < n := by simpa [bytesV] using hj
  obtain ⟨b, hb⟩ := h j hn
  have : (bytesV n f)[j] = b := by simp [bytesV, hb, byteV]
  rw [this, hb]

/-- string(b) of known bytes. -/
theorem bytes_run (hT : ∀ t, T t = tab P t) {src to : TypeId} (hk : byteSl T src to = true) (a : Option Addr) (n cap : Nat) (f : Nat → List AV) (h : isBytes n f)
    (hc : 0 < n → ∃ blk off, a = some ⟨blk, off, none⟩ ∧ ∀ i x, i < n → f i = [x] → ∃ u, w.cell? ⟨blk, off + i, none⟩ = some u ∧ Rel rd mp x u) :
    (convert src to (.slice a n cap)).run P w = .ok (.string ⟨(bytesV n f).toArray⟩) w := by
  obtain ⟨e, h1, h2, h3⟩ := byteSl_kd hT hk
  by_cases hn : n = 0
  · subst hn
    rw [run_convert_bytes_string w src to e a 0 cap h1 h3 h2]
    cases a with
    | none => simp [Conv.bytesToString, bytesV]; rfl
    | some ad => simp [Conv.bytesToString, loadCells, loadCellsFrom, bytesV]; rfl
  · obtain ⟨blk, off, rfl, hcell⟩ := hc (by omega)
    have hlen : (bytesV n f).length = n := by simp [bytesV]
    have := run_convert_bytes_back (P := P) w src to e ⟨blk, off, none⟩ cap (bytesV n f) h1 h3 h2 (fun j hj => by
      obtain ⟨u, hu, hr⟩ := hcell j _ (by omega) (bytesV_get h hj)
      rw [Addr.add_lit, hu, rel_int hr])
    rwa [hlen] at this

theorem fits_convert (hT : ∀ t, T t = tab P t) (hm : Mem c rd mp st nx w) (dst : Option Nat) (src to : TypeId) (x : AV) (v : Value) (hx : Rel rd mp x v) :
    Fits P c rd mp st nx w (convertO T C st dst src to x) (convert src to v) := by
  unfold convertO
  cases hc : Nat.ble 1 (T src).size with
  | false => trivial
  | true =>
    obtain ⟨d, hd⟩ := tab_und hT (t := src) (Nat.le_of_ble_eq_true hc)
    simp only [cond_true]
    split
    · rename_i sz n f
      cases hk : (byteSl T src to && Nat.beq sz 1) with
      | false => trivial
      | true =>
        simp only [Bool.and_eq_true] at hk
        obtain rfl : sz = 1 := Nat.eq_of_beq_eq_true hk.2
        intro h
        cases hx with
        | slc0 _ _ _ a cap => exact .here hm (bytes_run (rd := rd) (mp := mp) hT hk.1 a 0 cap f h (fun h => by omega)) (.str _ _)
        | slc _ _ _ _ blk off cap val h0 hc' hs hr he =>
          refine .here hm (bytes_run (rd := rd) (mp := mp) hT hk.1 _ n cap f h (fun _ => ⟨blk, off, rfl, fun i x hi hf => ?_⟩)) (.str _ _)
          have h1 := hr i 0 hi (by omega)
          rw [Nat.mul_one, Nat.add_zero] at h1
          exact ⟨_, hm.rdw _ _ _ h1, (he i 0 x hi (by rw [hf]; rfl)).mono (Rd.le.refl _) (Mp.none_le _)⟩
    · rename_i r i e n
      split
      · rename_i ob R hl
        cases hk : (byteSl T src to && Nat.beq R.sz 1) with
        | false => trivial
        | true =>
          simp only [Bool.and_eq_true] at hk
          have hsz : R.sz = 1 := Nat.eq_of_beq_eq_true hk.2
          intro hob
          obtain ⟨hob1, hn, h⟩ := (obT_andO _ _).1 hob
          obtain ⟨xs, hv, hown, hlen, hcells, _⟩ := own_now hm hl hob1 hx hn
          have hn2 := hn.2
          subst hn2
          rcases hown.2 with ⟨rfl, h0⟩ | ⟨g, lo, cap, cur, rfl, hrest⟩
          · rw [h0] at h ⊢
            exact .here hm (bytes_run (rd := rd) (mp := mp) hT hk.1 none 0 0 R.f h (fun h => by omega)) (.str _ _)
          · refine .here hm (bytes_run (rd := rd) (mp := mp) hT hk.1 _ R.n cap R.f h (fun _ => ⟨g, lo, rfl, fun i x hi hf => ?_⟩)) (.str _ _)
            obtain ⟨u, hu, _, hr⟩ := hcells i 0 x hi (by rw [hf]; rfl)
            rw [hsz, Nat.mul_one, Nat.add_zero] at hu
            exact ⟨u, hown.cells hu, hr.mono (Rd.le.refl _) (Mp.sel_le _ _)⟩
      · trivial
    · cases hk : byteSl T src to with
      | false => trivial
      | true =>
        intro _
        cases hx
        have := bytes_run (w := w) (rd := rd) (mp := mp) hT hk none 0 0 (fun _ => []) (fun i hi => by omega) (fun h => by omega)
        exact .here hm this (.str _ _)
    · rename_i k n
      split
      · rename_i k' hk
        cases rel_int hx
        refine fits_arith hm _ _ _ _ ?_
        simp only [convert, Sem.run_bind, run_underlying hd, run_underlying (tab_int hT hk), Result.andThen_ok]
        cases d <;> simp [Conv.intToInt]
      · trivial
    · rename_i l
      split
      · rename_i hk
        cases rel_str hx
        intro _
        refine .here hm (x := .string ⟨l.toArray⟩) ?_ (.str _ _)
        simp only [convert, Sem.run_bind, run_underlying hd, run_underlying (tab_str hT hk), Result.andThen_ok]
        cases d <;> simp
      · trivial
    · trivial

theorem fits_len (hT : ∀ t, T t = tab P t) (hm : Mem c rd mp st nx w) (t ty : TypeId) (x : AV) (v : Value) (hx : Rel rd mp x v) :
    Fits P c rd mp st nx w (lenO st (T t).kd x) (Builtin.len_ #[t] ty #[v]) := by
  unfold lenO
  split
  · rename_i l hk
    cases rel_str hx
    exact fun _ => .here hm (x := .int .i64 l.length) (by simp [Builtin.len_, run_underlying (tab_str hT hk), goInt, size_bytes]) (.int _ _ _)
  · rename_i e sz n f he
    obtain ⟨ad, cap, rfl, _⟩ := rel_slc hx
    exact fun _ => .here hm (x := .int .i64 n) (by simp [Builtin.len_, run_underlying (tab_slice hT he), goInt]) (.int _ _ _)
  · rename_i el r i e n he
    split
    · rename_i ob R hl
      intro hob
      obtain ⟨hob1, hn⟩ := (obT_andO _ _).1 hob
      obtain ⟨xs, h1, h2, _⟩ := own_now hm hl hob1 hx hn
      refine .here hm (x := .int .i64 n) ?_ (.int _ _ _)
      have hn2 := hn.2
      rcases h2.2 with ⟨rfl, h0⟩ | ⟨g, lo, cap, cur, rfl, _⟩
      · simp [Builtin.len_, run_underlying (tab_slice hT he), goInt, hn2, h0]
      · simp [Builtin.len_, run_underlying (tab_slice hT he), goInt, hn2]
    · trivial
  · rename_i e he
    cases hx
    exact fun _ => .here hm (x := .int .i64 0) (by simp [Builtin.len_, run_underlying (tab_slice hT he), goInt]) (.int _ _ _)
  · trivial

/-- What is appended: so many things, and their cells. -/
def Src (w : World) (sz m : Nat) (y : Value) (news : List Value) : Prop :=
  news.length = m * sz ∧ ∃ a c, y = .slice a m c ∧ (m ≠ 0 → ∃ ad, a = some ad ∧ (∀ j u, news[j]? = some u → w.cell? (ad.add j) = some u) ∧ ∀ u ∈ news, u.oneCell' = true)

theorem append_none (w : World) (t ty e : TypeId) (i : TypeInfo) (ht : P.underlying t = some (.slice e)) (hi : P.info? e = some i) {size : Nat}
    (v : Value) (n : Nat) (xs : List Value) (hown : Owns w e size v n xs) (a : Option Addr) (c : Nat) : (Builtin.append_ #[t, t] ty #[v, .slice a 0 c]).run P w = .ok v w := by
  rcases hown.2 with ⟨rfl, rfl⟩ | ⟨g, lo, cap, cur, rfl, _, hnc, _⟩ <;> cases a <;>
    simp [Builtin.append_, run_underlying ht, sizeOf, typeInfo, hi, Builtin.lenOf, Builtin.firstCells, loadCells, loadCellsFrom, storeCells, *]

/-- append to a row of the call's own. -/
theorem append_src (w : World) (t ty e : TypeId) (i : TypeInfo) (z : Value) (size bytes : Nat) (ht : P.underlying t = some (.slice e)) (hi : P.info? e = some i) (hz : i.zero = some z)
    (hsize : i.size = size) (hby : i.bytes = bytes) (hzs : z.cells.size = size) (hsz : 0 < size) (v : Value) (n : Nat) (xs : List Value) (hown : Owns w e size v n xs) (y : Value) (m : Nat) (news : List Value) (hy : Src w size m y news)
    (h63 : n + m ≤ maxLen) (hbytes : (n + m) * bytes ≤ 140737488355328) :
    ∃ v' w', (Builtin.append_ #[t, t] ty #[v, y]).run P w = .ok v' w' ∧ Owns w' e size v' (n + m) (xs ++ news) ∧ w.grownBy w' v.ownBlock ∧ (v'.ownBlock = v.ownBlock ∨ v'.ownBlock = some w.heap.size) ∧ (m = 0 → v' = v) := by
  obtain ⟨hl, a, c, rfl, hsrc⟩ := hy
  by_cases hm : m = 0
  · subst hm
    have hn : news = [] := List.eq_nil_of_length_eq_zero (by simpa using hl)
    subst hn
    exact ⟨v, w, append_none w t ty e i ht hi v n xs hown a c, by simpa using hown, World.grownBy.refl w _, .inl rfl, fun _ => rfl⟩
  · obtain ⟨ad, rfl, hnews, h1⟩ := hsrc hm
    rcases hown.2 with ⟨rfl, rfl⟩ | ⟨g, lo, cap, cur, rfl, hg, hnc, hcm, hcs, htake⟩
    · have hx : xs = [] := List.eq_nil_of_length_eq_zero (by simpa using hown.1)
      subst hx
      obtain ⟨v', w', hrun, hown', hgr, _, hat⟩ := run_append_own_at (P := P) w 0 t ty e i z size bytes ht hi hz hsize hby hzs hsz (.slice none 0 0) 0 [] (World.ownsRow_nil w _ _ _) ad m c news hl hnews h1 h63 hbytes (Nat.zero_le _)
      exact ⟨v', w', hrun, .of_row hown', hgr, hat, fun h => absurd h hm⟩
    · subst hsize
      subst hby
      have hlen : (xs ++ news).length = (n + m) * i.size := by rw [List.length_append, hown.1, hl, Nat.add_mul]
      have hsmall : n + m ≤ 9223372036854775807 := by simp only [maxLen] at h63; omega
      by_cases hroom : n + m ≤ cap
      · have hrs : (n + m) * i.size ≤ cap * i.size := Nat.mul_le_mul_right _ hroom
        rw [Nat.add_mul] at hrs
        have hfit : lo + n * i.size + news.length ≤ cur.size := by rw [hl]; omega
        have hf := run_firstCells_some (P := P) w i.size m ad m c news hl hnews
        have hst := run_storeCells_at P g (lo + n * i.size) e news 0 cur w hg (by simpa using hfit) h1
        simp only [Nat.add_zero] at hst
        have hr : (Builtin.append_ #[t, t] ty #[.slice (some ⟨g, lo, none⟩) n cap, .slice (some ad) m c]).run P w =
            .ok (.slice (some ⟨g, lo, none⟩) (n + m) cap) (w.setRow g (cur.toList.take (lo + n * i.size) ++ news ++ cur.toList.drop (lo + n * i.size + news.length)).toArray) := by
          simp [Builtin.append_, run_underlying ht, sizeOf, typeInfo, hi, Builtin.lenOf, hroom, hf, Addr.add_lit, hst]
        have hcl : cur.toList.length = cur.size := by simp
        refine ⟨_, _, hr, ⟨hlen, .inr ⟨g, lo, cap, _, rfl, setRow_heap w g cur _ e _ hg, hroom, hcm, ?_, ?_⟩⟩, ⟨rfl, rfl, rfl, by simp, fun k _ hk => setRow_other w g k _ (fun e => hk (by simp [Value.ownBlock, e]))⟩, .inl rfl, fun h => absurd h hm⟩
        · simp only [List.size_toArray, List.length_append, List.length_take, List.length_drop]
          omega
        · simp only [List.append_assoc]
          have htk : (cur.toList.take (lo + n * i.size)).drop lo = xs := by rw [← htake, List.drop_take, Nat.add_sub_cancel_left]
          rw [List.drop_append_of_le_length (by rw [List.length_take, hcl]; omega), htk, ← List.append_assoc, ← hlen]
          exact List.take_left
      · have holds : ∀ j u, xs[j]? = some u → w.cell? ((⟨g, lo, none⟩ : Addr).add j) = some u := fun j u hu => by rw [Addr.add_lit]; exact hown.cells hu
        have hr := run_append_grow (P := P) w t ty e i z ht hi hz ⟨g, lo, none⟩ n cap xs hown.1 holds ad m c news hl hnews (by omega) (by omega) (growslice_fits (by omega) hbytes)
        have hge := grownCap_ge w (n + m) cap e
        have hcm' : grownCap w (n + m) cap e ≤ maxLen := grownCap_le_maxLen w (n + m) cap e h63
        refine ⟨_, _, hr, ⟨hlen, .inr ⟨w.heap.size, 0, _, _, rfl, heap_alloc_new w.drew _, hge, hcm', ?_, ?_⟩⟩, ⟨rfl, rfl, rfl, by simp, fun k hk _ => heap_alloc_old w.drew _ hk⟩, .inr rfl, fun h => absurd h hm⟩
        · simp only [Array.size_append, List.size_toArray, size_zeroCells, hzs, hown.1, hl, ← Nat.add_mul, Nat.zero_add]
          exact Nat.le_of_eq (congrArg (· * i.size) (by omega))
        · simp only [Array.toList_append, List.append_assoc, List.drop_zero]
          rw [← List.append_assoc, ← hlen]
          exact List.take_left

theorem src_slc (hm : Mem c rd mp st nx w) {sz m : Nat} (hsz0 : 0 < sz) {g : Nat → List AV} {y : Value} (hy : Rel rd mp (.slc sz m g) y) :
    ∃ news, Src w sz m y news ∧ (∀ i, i < m → (g i).length = sz) ∧ ∀ (i j : Nat) x, i < m → (g i)[j]? = some x → ∃ u, news[i * sz + j]? = some u ∧ u.oneCell' = true ∧ Rel rd Mp.none x u := by
  cases hy with
  | slc0 _ _ _ a cap => exact ⟨[], ⟨by simp, a, cap, rfl, fun h => absurd rfl h⟩, fun i hi => by omega, fun i j x hi => by omega⟩
  | slc _ _ _ _ blk off cap val h0 hc hs hr he =>
    let news : List Value := (List.range (m * sz)).map fun q => val (q / sz) (q % sz)
    have hnl : news.length = m * sz := by simp [news]
    have hnget : ∀ q, q < m * sz → news[q]? = some (val (q / sz) (q % sz)) := by
      intro q hq
      simp [news, hq]
    have hrd : ∀ q, q < m * sz → rd blk (off + q) = some (val (q / sz) (q % sz)) := by
      intro q hq
      have h1' : q / sz < m := Nat.div_lt_of_lt_mul (by rwa [Nat.mul_comm] at hq)
      have h2' : q % sz < sz := Nat.mod_lt _ hsz0
      have := hr _ _ h1' h2'
      rwa [show q / sz * sz + q % sz = q from Nat.div_add_mod' q sz] at this
    refine ⟨news, ⟨hnl, some ⟨blk, off, none⟩, cap, rfl, fun _ => ⟨_, rfl, fun j u hu => ?_, fun u hu => ?_⟩⟩, hs, fun i j x hi hx => ?_⟩
    · have hj : j < m * sz := by rw [← hnl]; exact (List.getElem?_eq_some_iff.1 hu).1
      rw [hnget j hj] at hu
      rw [Addr.add_lit, hm.rdw _ _ _ (hrd j hj)]
      exact hu
    · obtain ⟨j, hj⟩ := List.mem_iff_getElem?.1 hu
      have hj' : j < m * sz := by rw [← hnl]; exact (List.getElem?_eq_some_iff.1 hj).1
      rw [hnget j hj'] at hj
      cases hj
      exact hm.rd1 _ _ _ (hrd j hj')
    · have hj : j < sz := by rw [← hs i hi]; exact (List.getElem?_eq_some_iff.1 hx).1
      have hq : i * sz + j < m * sz := by
        have : (i + 1) * sz ≤ m * sz := Nat.mul_le_mul_right sz hi
        rw [Nat.succ_mul] at this
        omega
      have hdiv : (i * sz + j) / sz = i := by rw [Nat.add_comm, Nat.add_mul_div_right _ _ hsz0, Nat.div_eq_of_lt hj, Nat.zero_add]
      have hmod : (i * sz + j) % sz = j := by rw [Nat.add_comm, Nat.add_mul_mod_self_right, Nat.mod_eq_of_lt hj]
      have hg' := hnget _ hq
      rw [hdiv, hmod] at hg'
      exact ⟨val i j, hg', hm.rd1 _ _ _ (hr _ _ hi hj), he _ _ _ hi hx⟩

theorem src_own {e : TypeId} {sz m : Nat} {y : Value} {xs : List Value} (h : Owns w e sz y m xs) (h1 : ∀ u ∈ xs, u.oneCell' = true) : Src w sz m y xs := by
  refine ⟨h.1, ?_⟩
  rcases h.2 with ⟨rfl, h0⟩ | ⟨g, lo, cap, cur, rfl, rest⟩
  · exact ⟨none, 0, by rw [h0], fun hm => absurd h0 hm⟩
  · exact ⟨_, cap, rfl, fun _ => ⟨_, rfl, fun j u hu => by rw [Addr.add_lit]; exact h.cells hu, h1⟩⟩

/-- The cells of two rows, one behind the other. -/
theorem app_cells {mp1 : Mp} {sz n m : Nat} {f g : Nat → List AV} {xs news : List Value} (hxl : xs.length = n * sz) (hf : ∀ i, i < n → (f i).length = sz) (hg : ∀ i, i < m → (g i).length = sz)
    (hx : ∀ (i j : Nat) x, i < n → (f i)[j]? = some x → ∃ u, xs[i * sz + j]? = some u ∧ u.oneCell' = true ∧ Rel rd mp1 x u) (hy : ∀ (i j : Nat) x, i < m → (g i)[j]? = some x → ∃ u, news[i * sz + j]? = some u ∧ u.oneCell' = true ∧ Rel rd mp1 x u) :
    (∀ i, i < n + m → (appF n f m g i).length = sz) ∧ ∀ (i j : Nat) x, i < n + m → (appF n f m g i)[j]? = some x → ∃ u, (xs ++ news)[i * sz + j]? = some u ∧ u.oneCell' = true ∧ Rel rd mp1 x u := by
  refine ⟨fun i hi' => ?_, fun i j x hi' hx' => ?_⟩
  · simp only [appF]
    by_cases h : i < n
    · rw [if_pos h]; exact hf i h
    · rw [if_neg h, if_pos hi']; exact hg _ (by omega)
  · simp only [appF] at hx'
    by_cases h : i < n
    · rw [if_pos h] at hx'
      obtain ⟨u, hu, r⟩ := hx i j x h hx'
      exact ⟨u, by rw [List.getElem?_append_left (List.getElem?_eq_some_iff.1 hu).1]; exact hu, r⟩
    · rw [if_neg h, if_pos hi'] at hx'
      obtain ⟨u, hu, r⟩ := hy (i - n) j x (by omega) hx'
      have hidx : i * sz + j = n * sz + ((i - n) * sz + j) := by
        rw [← Nat.add_assoc, ← Nat.add_mul, show n + (i - n) = i by omega]
      refine ⟨u, ?_, r⟩
      rw [hidx, List.getElem?_append_right (by rw [hxl]; omega), hxl, show n * sz + ((i - n) * sz + j) - n * sz = (i - n) * sz + j by omega]
      exact hu

end Go.Sx
end
