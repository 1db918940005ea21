/- A small logic of pure data over the machine: abstract values, how they stand for the machine's values, and the relation's frame laws. Nothing of a program. -/
import Derived.WalkKit
namespace Go.Sx
open Go Go.RowKit

/-- What is known of a value: numbers, texts, read-only slices as functions, own rows and boxes by a name. -/
inductive AV where
  | any
  | int (k : IntKind) (n : Int)
  | bool (b : Bool)
  | str (s : List UInt8)
  | nils
  | slc (sz n : Nat) (f : Nat → List AV)
  | own (r i e n : Nat)
  | ptr (b off : Nat)
  | eptr (r i e n sz k off : Nat)
  | mapv (b : Nat)
  | ifc (t : TypeId) (v : AV)
  | nili
  | rptr (cs : List AV)
  | nilp
  | agg (cs : List AV)
  | tup (vs : List AV)
  | fn (f : FuncId) (cap : List AV)
  | cnd (b : Bool) (v : AV)

/-- The memory that is never written again. -/
abbrev Rd := Nat → Nat → Option Value

/-- Where the own boxes lie, and what slice an own row is just now: its value, how often it was cut anew, its length. -/
structure Mp where
  blk : Nat → Option Nat
  row : Nat → Nat → Option (Value × Nat × Nat)

def Mp.none : Mp := ⟨fun _ => Option.none, fun _ _ => Option.none⟩

inductive Rel (rd : Rd) : Mp → AV → Value → Prop
  | any (mp v) : Rel rd mp .any v
  | int (mp k n) : Rel rd mp (.int k n) (.int k n)
  | bool (mp b) : Rel rd mp (.bool b) (.bool b)
  | str (mp l) : Rel rd mp (.str l) (.string ⟨l.toArray⟩)
  | nils (mp) : Rel rd mp .nils (.slice Option.none 0 0)
  | slc0 (mp sz f a cap) : Rel rd mp (.slc sz 0 f) (.slice a 0 cap)
  | slc (mp sz n f blk off cap) (val : Nat → Nat → Value) (h0 : 0 < n) (hc : n ≤ cap) (hs : ∀ i, i < n → (f i).length = sz)
      (hr : ∀ i j, i < n → j < sz → rd blk (off + (i * sz + j)) = some (val i j))
      (he : ∀ (i j : Nat) x, i < n → (f i)[j]? = some x → Rel rd Mp.none x (val i j)) :
      Rel rd mp (.slc sz n f) (.slice (some ⟨blk, off, Option.none⟩) n cap)
  | own (mp r i e n v vr er nr) (hr : mp.row r i = some (vr, er, nr)) (he : e ≤ er) (hn : e = er → n ≤ nr) (hv : e = er → n = nr → v = vr) : Rel rd mp (.own r i e n) v
  | ptr (mp b off blk) (hb : mp.blk b = some blk) : Rel rd mp (.ptr b off) (.pointer (some ⟨blk, off, Option.none⟩))
  | eptr (mp r i e n sz k off v vr er nr) (hr : mp.row r i = some (vr, er, nr)) (he : e ≤ er) (hn : e = er → n ≤ nr)
      (hv : e = er → n = nr → ∃ g lo cap, vr = .slice (some ⟨g, lo, Option.none⟩) n cap ∧ v = .pointer (some ⟨g, lo + (k * sz + off), Option.none⟩)) : Rel rd mp (.eptr r i e n sz k off) v
  | mapv (mp b g) (hb : mp.blk b = some g) : Rel rd mp (.mapv b) (.map (some g))
  | ifc (mp t x v) (h : Rel rd mp x v) : Rel rd mp (.ifc t x) (.iface t v)
  | nili (mp) : Rel rd mp .nili .nilIface
  | rptr (mp cs blk off) (val : Nat → Value) (hr : ∀ (j : Nat) x, cs[j]? = some x → rd blk (off + j) = some (val j))
      (he : ∀ (j : Nat) x, cs[j]? = some x → Rel rd Mp.none x (val j)) : Rel rd mp (.rptr cs) (.pointer (some ⟨blk, off, Option.none⟩))
  | nilp (mp) : Rel rd mp .nilp (.pointer Option.none)
  | agg (mp cs) (vs : Array Value) (hs : vs.size = cs.length) (he : ∀ (j : Nat) x v, cs[j]? = some x → vs[j]? = some v → Rel rd mp x v) : Rel rd mp (.agg cs) (.agg vs)
  | tup (mp cs) (vs : Array Value) (hs : vs.size = cs.length) (he : ∀ (j : Nat) x v, cs[j]? = some x → vs[j]? = some v → Rel rd mp x v) : Rel rd mp (.tup cs) (.tuple vs)
  | fn (mp f cs) (vs : Array Value) (hs : vs.size = cs.length) (he : ∀ (j : Nat) x v, cs[j]? = some x → vs[j]? = some v → Rel rd mp x v) : Rel rd mp (.fn f cs) (.func (.func f) #[] vs)
  | cnd (mp b av v) (h : b = true → Rel rd mp av v) (h0 : b = false → v = undef) : Rel rd mp (.cnd b av) v

/-- More memory is known not to be written again. -/
def Rd.le (a b : Rd) : Prop := ∀ g o v, a g o = some v → b g o = some v

structure Mp.le (a b : Mp) : Prop where
  blk : ∀ i g, a.blk i = some g → b.blk i = some g
  row : ∀ r i v e n, a.row r i = some (v, e, n) → ∃ v' e' n', b.row r i = some (v', e', n') ∧ (e < e' ∨ (e = e' ∧ (n < n' ∨ (n = n' ∧ v = v'))))

theorem Rd.le.refl (a : Rd) : Rd.le a a := fun _ _ _ h => h
theorem Rd.le.trans {a b c : Rd} (h : Rd.le a b) (k : Rd.le b c) : Rd.le a c := fun g o v e => k g o v (h g o v e)
theorem Mp.le.refl (a : Mp) : Mp.le a a := ⟨fun _ _ h => h, fun _ _ v e n h => ⟨v, e, n, h, .inr ⟨rfl, .inr ⟨rfl, rfl⟩⟩⟩⟩
theorem Mp.le.trans {a b c : Mp} (h : Mp.le a b) (k : Mp.le b c) : Mp.le a c :=
  ⟨fun i g e => k.blk i g (h.blk i g e), fun r i v e n h0 => by
    obtain ⟨v', e', n', h1, h'⟩ := h.row r i v e n h0
    obtain ⟨v'', e'', n'', h2, h''⟩ := k.row r i v' e' n' h1
    refine ⟨v'', e'', n'', h2, ?_⟩
    rcases h' with h' | ⟨rfl, h'⟩
    · left; rcases h'' with h'' | ⟨rfl, _⟩ <;> omega
    · rcases h'' with h'' | ⟨rfl, h''⟩
      · left; omega
      · right
        refine ⟨rfl, ?_⟩
        rcases h' with h' | ⟨rfl, rfl⟩
        · left; rcases h'' with h'' | ⟨rfl, _⟩ <;> omega
        · exact h''⟩
theorem Mp.none_le (a : Mp) : Mp.le Mp.none a := ⟨fun _ _ h => (by cases h), fun _ _ _ _ _ h => (by cases h)⟩

theorem Rel.mono {rd rd' : Rd} (h1 : Rd.le rd rd') {mp : Mp} {x : AV} {v : Value} (h : Rel rd mp x v) : ∀ {mp' : Mp}, Mp.le mp mp' → Rel rd' mp' x v := by
  induction h with
  | any => exact fun _ => .any _ _
  | int => exact fun _ => .int _ _ _
  | bool => exact fun _ => .bool _ _
  | str => exact fun _ => .str _ _
  | nils => exact fun _ => .nils _
  | slc0 => exact fun _ => .slc0 _ _ _ _ _
  | slc mp sz n f blk off cap val h0 hc hs hr he ih => exact fun _ => .slc _ _ _ _ _ _ _ val h0 hc hs (fun i j hi hj => h1 _ _ _ (hr i j hi hj)) (fun i j x hi hx => ih i j x hi hx (Mp.le.refl _))
  | own mp r i e n v vr er nr hr he hn hv =>
    intro mp' hm
    obtain ⟨v', e', n', h1, h⟩ := hm.row _ _ _ _ _ hr
    refine .own _ _ _ _ _ _ v' e' n' h1 (by rcases h with h | ⟨rfl, _⟩ <;> omega) (fun hh => ?_) (fun hh hk => ?_)
    · rcases h with h | ⟨rfl, h⟩
      · omega
      · have := hn hh; rcases h with h | ⟨rfl, _⟩ <;> omega
    · rcases h with h | ⟨rfl, h⟩
      · omega
      · have := hn hh
        rcases h with h | ⟨rfl, rfl⟩
        · omega
        · exact hv hh hk
  | ptr mp b off blk hb => exact fun hm => .ptr _ _ _ _ (hm.blk _ _ hb)
  | eptr mp r i e n sz k off v vr er nr hr he hn hv =>
    intro mp' hm
    obtain ⟨v', e', n', h1, h⟩ := hm.row _ _ _ _ _ hr
    refine .eptr _ _ _ _ _ _ _ _ _ v' e' n' h1 (by rcases h with h | ⟨rfl, _⟩ <;> omega) (fun hh => ?_) (fun hh hk => ?_)
    · rcases h with h | ⟨rfl, h⟩
      · omega
      · have := hn hh; rcases h with h | ⟨rfl, _⟩ <;> omega
    · rcases h with h | ⟨rfl, h⟩
      · omega
      · have := hn hh
        rcases h with h | ⟨rfl, rfl⟩
        · omega
        · exact hv hh hk
  | mapv mp b g hb => exact fun hm => .mapv _ _ _ (hm.blk _ _ hb)
  | ifc mp t x v h ih => exact fun hm => .ifc _ _ _ _ (ih hm)
  | nili => exact fun _ => .nili _
  | rptr mp cs blk off val hr he ih => exact fun _ => .rptr _ _ _ _ val (fun j x hx => h1 _ _ _ (hr j x hx)) (fun j x hx => ih j x hx (Mp.le.refl _))
  | nilp => exact fun _ => .nilp _
  | agg mp cs vs hs he ih => exact fun hm => .agg _ _ _ hs (fun j x v hx hv => ih j x v hx hv hm)
  | tup mp cs vs hs he ih => exact fun hm => .tup _ _ _ hs (fun j x v hx hv => ih j x v hx hv hm)
  | fn mp f cs vs hs he ih => exact fun hm => .fn _ _ _ _ hs (fun j x v hx hv => ih j x v hx hv hm)
  | cnd mp b av v h h0 ih => exact fun hm => .cnd _ _ _ _ (fun hb => ih hb hm) h0

/-- A value of one cell that names no box and no row. -/
def AV.pure1 : AV → Bool
  | .own .. | .ptr .. | .eptr .. | .mapv .. | .ifc .. | .agg .. | .tup .. | .fn .. | .cnd .. => false
  | _ => true

def AV.pureA : AV → Bool
  | .agg cs => cs.all AV.pure1
  | .fn _ [] => true
  | x => x.pure1

def AV.pure : AV → Bool
  | .tup vs => vs.all AV.pureA
  | x => x.pureA

theorem Rel.pure1 {rd : Rd} {mp mp' : Mp} {x : AV} {v : Value} (h : Rel rd mp x v) (hp : x.pure1 = true) : Rel rd mp' x v := by
  cases h <;> first
    | (simp [AV.pure1] at hp; done)
    | (constructor <;> assumption)
    | constructor

theorem Rel.pureA {rd : Rd} {mp mp' : Mp} {x : AV} {v : Value} (h : Rel rd mp x v) (hp : x.pureA = true) : Rel rd mp' x v := by
  have h' := h
  cases h with
  | agg _ cs vs hs he =>
    refine .agg _ _ _ hs (fun j x v hx hv => (he j x v hx hv).pure1 ?_)
    simp only [AV.pureA, List.all_eq_true] at hp
    exact hp x (List.mem_of_getElem? hx)
  | fn _ f cs vs hs he =>
    cases cs with
    | nil => exact .fn _ _ _ _ hs (fun j x v hx _ => by simp at hx)
    | cons => simp [AV.pureA, AV.pure1] at hp
  | _ => exact h'.pure1 hp

theorem Rel.pure {rd : Rd} {mp mp' : Mp} {x : AV} {v : Value} (h : Rel rd mp x v) (hp : x.pure = true) : Rel rd mp' x v := by
  have h' := h
  cases h with
  | tup _ cs vs hs he =>
    refine .tup _ _ _ hs (fun j x v hx hv => (he j x v hx hv).pureA ?_)
    simp only [AV.pure, List.all_eq_true] at hp
    exact hp x (List.mem_of_getElem? hx)
  | _ => exact h'.pureA hp

/-- What lies in a box, in a row of the call's own (whose cells may name rows of 'ids'), in a family of rows. -/
inductive SO where
  | box (ty : TypeId) (cs : List AV)
  | row (ids : List Nat) (e : TypeId) (sz ep n : Nat) (f : Nat → List AV)
  | fam (e : TypeId) (sz cnt : Nat) (ep len : Nat → Nat) (f : Nat → Nat → List AV)

/-- A row: of what, how often cut anew, how long, its cells. -/
structure RowV where
  ids : List Nat
  e : TypeId
  sz : Nat
  ep : Nat
  n : Nat
  f : Nat → List AV

/-- The abstract state: the slots that matter, the store, the next name. -/
structure ASt where
  sl : List (Nat × AV)
  st : List (Nat × SO)
  nx : Nat

def look {α : Type} : List (Nat × α) → Nat → Option α
  | [], _ => none
  | (k, v) :: r, t => bif Nat.beq k t then some v else look r t

def ASt.get (s : ASt) (t : Nat) : AV := (look s.sl t).getD .any
def ASt.put (s : ASt) (d : Option Nat) (v : AV) : ASt :=
  match d with
  | some d => { s with sl := (d, v) :: s.sl }
  | none => s
def setSt : List (Nat × SO) → Nat → SO → List (Nat × SO)
  | [], _, _ => []
  | (k, v) :: r, t, o => bif Nat.beq k t then (k, o) :: r else (k, v) :: setSt r t o

theorem look_cons {α : Type} (k : Nat) (v : α) (r : List (Nat × α)) (t : Nat) : look ((k, v) :: r) t = if k = t then some v else look r t := by
  simp only [look]
  by_cases h : k = t
  · subst h; simp
  · have : Nat.beq k t = false := by cases hb : Nat.beq k t with
      | false => rfl
      | true => exact absurd (Nat.eq_of_beq_eq_true hb) h
    simp [h, this]

end Go.Sx
