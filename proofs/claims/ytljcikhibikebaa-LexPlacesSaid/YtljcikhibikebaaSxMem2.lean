/- More laws of the store: a store into a box, own rows, forgetting, freezing. Nothing of a program. -/
import Derived.Test.YtljcikhibikebaaSxMem
namespace Go.Sx
open Go Go.RowKit

/-- A store into one box. -/
theorem Mem.storeBox {c : Ctx} {rd : Rd} {mp : Mp} {st : List (Nat × SO)} {nx : Nat} {w : World} (h : Mem c rd mp st nx w) {id : Nat} {ty : TypeId} {cs : List AV} (hl : look st id = some (.box ty cs))
    {b : Nat} (hb : mp.blk id = some b) (off : Nat) (x : AV) (v : Value) (hr : Rel rd mp x v) :
    Mem c rd mp (setSt st id (.box ty (cs.set off x))) nx (w.setCell ⟨b, off, none⟩ v) := by
  obtain ⟨b', vs, h1, h2, h3, h4, h5, h6⟩ := h.so id _ hl
  rw [hb] at h1; cases h1
  have hblk : ∀ k, k ≠ b → (w.setCell ⟨b, off, none⟩ v).heap[k]? = w.heap[k]? := fun k hk => Below.heap_setCell w ⟨b, off, none⟩ v k hk
  have hsz : (w.setCell ⟨b, off, none⟩ v).heap.size = w.heap.size := by simp [World.setCell]
  have hnew : (w.setCell ⟨b, off, none⟩ v).heap[b]? = some (.cells (vs.setIfInBounds off v) ty (0, 0)) := by
    simp [World.setCell, Array.getElem?_modify, h2]
  have hne : ∀ i y, look st i = some y → i ≠ id → ∀ g, home mp i y = some g → g ≠ b := by
    intro i y hi hid g hg e
    subst e
    exact hid (h.inj i id y _ g hi hl hg (by simp [home, hb]))
  refine ⟨?_, h.rd1, h.rdn, ⟨h.fr.os, h.fr.tape, h.fr.output, by rw [hsz]; exact h.fr.size, fun k hk hf => ?_⟩, ?_, ?_, h.fresh, ?_⟩
  · intro g o u hu
    have hg : g ≠ b := by rintro rfl; rw [h5 o] at hu; cases hu
    exact (World.cell?_of_block (a := ⟨g, o, none⟩) (hblk g hg)).trans (h.rdw g o u hu)
  · by_cases hkb : k = b
    · subst hkb
      rcases h6 with h6 | h6
      · omega
      · exact absurd h6 hf
    · rw [hblk k hkb]; exact h.fr.block k hk hf
  · intro i y hy
    rw [look_setSt] at hy
    by_cases hid : i = id
    · subst hid
      rw [if_pos rfl, hl] at hy
      cases hy
      refine ⟨b, _, hb, hnew, by simpa using h3, fun j x' v' hx hv => ?_, h5, h6⟩
      by_cases hj : off = j
      · subst hj
        rw [List.getElem?_set] at hx
        simp at hx
        rw [Array.getElem?_setIfInBounds] at hv
        simp at hv
        obtain ⟨_, rfl⟩ := hx
        obtain ⟨_, rfl⟩ := hv
        exact hr
      · rw [List.getElem?_set_ne hj] at hx
        rw [Array.getElem?_setIfInBounds_ne hj] at hv
        exact h4 j x' v' hx hv
    · rw [if_neg hid] at hy
      exact (h.so i y hy).keep (Rd.le.refl _) (Mp.le.refl _) (fun g hg => hblk g (hne i y hy hid g hg)) rfl (fun g hg o => home_rd (h.so i y hy) hg o)
  · have hh : ∀ i y, look (setSt st id (.box ty (cs.set off x))) i = some y → ∃ y', look st i = some y' ∧ home mp i y' = home mp i y := by
      intro i y hy
      rw [look_setSt] at hy
      by_cases hid : i = id
      · subst hid
        rw [if_pos rfl, hl] at hy
        cases hy
        exact ⟨_, hl, rfl⟩
      · rw [if_neg hid] at hy
        exact ⟨y, hy, rfl⟩
    intro i j y z g hi hj hgi hgj
    obtain ⟨y', h1', h2'⟩ := hh i y hi
    obtain ⟨z', h3', h4'⟩ := hh j z hj
    exact h.inj i j y' z' g h1' h3' (h2'.trans hgi) (h4'.trans hgj)
  · intro i y hy
    rw [look_setSt] at hy
    by_cases hid : i = id
    · subst hid; exact h.ids i _ hl
    · rw [if_neg hid] at hy; exact h.ids i y hy

/-- Some of the store is forgotten. -/
theorem Mem.forget {c : Ctx} {rd : Rd} {mp : Mp} {st st' : List (Nat × SO)} {nx : Nat} {w : World} (h : Mem c rd mp st nx w) (hs : ∀ i x, look st' i = some x → look st i = some x) : Mem c rd mp st' nx w :=
  ⟨h.rdw, h.rd1, h.rdn, h.fr, fun i x hx => h.so i x (hs i x hx), fun i j x y g hi hj => h.inj i j x y g (hs i x hi) (hs j y hj), h.fresh, fun i x hx => h.ids i x (hs i x hx)⟩

/-- A row of a name of its own, or one that has turned: all that is asked of the new value and the new world. -/
theorem Mem.setRow {c : Ctx} {rd : Rd} {mp : Mp} {st : List (Nat × SO)} {nx : Nat} {w w' : World} (h : Mem c rd mp st nx w) (r : Nat) (e : TypeId) (sz n : Nat) (f : Nat → List AV) (v : Value) (xs : List Value)
    (old : Option Nat) (hold : ∀ i y, look st i = some y → i ≠ r → ∀ g, home mp i y = some g → some g ≠ old) (holdrd : ∀ g, old = some g → c.w0.heap.size ≤ g ∧ ∀ o, rd g o = none)
    (hmp : ∀ v0 n0, mp.row r = some (v0, n0) → n0 < n ∨ (n0 = n ∧ v0 = v))
    (hg : w.grownBy w' old) (hown : w'.ownsRow c.w0.heap.size e sz v n xs) (hat : v.ownBlock = old ∨ ∃ g, v.ownBlock = some g ∧ w.heap.size ≤ g)
    (hf : ∀ i, i < n → (f i).length = sz) (hx : ∀ (i j : Nat) x, i < n → (f i)[j]? = some x → ∃ u, xs[i * sz + j]? = some u ∧ u.oneCell' = true ∧ Rel rd Mp.none x u)
    (st' : List (Nat × SO)) (nx' : Nat) (hst : ∀ i y, look st' i = some y → (i = r ∧ y = .row e sz n f) ∨ (i ≠ r ∧ look st i = some y)) (hnx : nx ≤ nx') (hr : r < nx') :
    Mem c rd (mp.setRow r v n) st' nx' w' := by
  have hle : Mp.le mp (mp.setRow r v n) := Mp.le_setRow hmp
  have hblk : ∀ k, k < w.heap.size → some k ≠ old → w'.heap[k]? = w.heap[k]? := fun k hk hne => hg.block k hk hne
  have hhome : ∀ i y, i ≠ r → home (mp.setRow r v n) i y = home mp i y := by
    intro i y hi
    cases y with
    | box => rfl
    | row => simp [home, Mp.setRow, hi]
  have hvh : ∀ g, home (mp.setRow r v n) r (.row e sz n f) = some g ↔ v.ownBlock = some g := by
    intro g; simp [home, Mp.setRow]
  refine ⟨?_, h.rd1, h.rdn, ⟨hg.os.trans h.fr.os, hg.tape.trans h.fr.tape, hg.output.trans h.fr.output, Nat.le_trans h.fr.size hg.size, fun k hk hf' => ?_⟩, ?_, ?_, ?_, ?_⟩
  · intro g o u hu
    have hlt := h.rd_lt (g := g) (o := o) (by rw [hu]; simp)
    have hne : some g ≠ old := fun eq => by have := (holdrd g eq.symm).2 o; rw [hu] at this; cases this
    exact (World.cell?_of_block (a := ⟨g, o, none⟩) (hblk g hlt hne)).trans (h.rdw g o u hu)
  · have hne : some k ≠ old := fun eq => by have := (holdrd k eq.symm).1; omega
    rw [hblk k (Nat.lt_of_lt_of_le hk h.fr.size) hne]
    exact h.fr.block k hk hf'
  · intro i y hy
    rcases hst i y hy with ⟨rfl, rfl⟩ | ⟨hne, hy'⟩
    · refine ⟨v, xs, by simp [Mp.setRow], hown, hf, hx, fun g hgv o => ?_⟩
      rcases hat with hat | ⟨g', hat, hge⟩
      · exact (holdrd g (by rw [← hat]; exact hgv)).2 o
      · rw [hgv] at hat
        cases hat
        cases hro : rd g o with
        | none => rfl
        | some u => exact absurd (h.rd_lt (g := g) (o := o) (by rw [hro]; simp)) (by omega)
    · refine (h.so i y hy').keep (Rd.le.refl _) hle (fun g hgi => hblk g (home_lt (h.so i y hy') hgi) (hold i y hy' hne g hgi)) (by simp [Mp.setRow, hne]) (fun g hgi o => home_rd (h.so i y hy') hgi o)
  · have hsep : ∀ i y, i ≠ r → look st i = some y → ∀ g, home mp i y = some g → v.ownBlock ≠ some g := by
      intro i y hi hy g hgi hv
      rcases hat with hat | ⟨g', hat, hge⟩
      · exact hold i y hy hi g hgi (by rw [← hat]; exact hv.symm)
      · rw [hv] at hat
        cases hat
        have := home_lt (h.so i y hy) hgi
        omega
    intro i j y z g hi hj hgi hgj
    rcases hst i y hi with ⟨rfl, rfl⟩ | ⟨hi1, hi2⟩ <;> rcases hst j z hj with ⟨rfl, rfl⟩ | ⟨hj1, hj2⟩
    · rfl
    · rw [hvh] at hgi
      rw [hhome j z hj1] at hgj
      exact absurd hgi (hsep j z hj1 hj2 g hgj)
    · rw [hvh] at hgj
      rw [hhome i y hi1] at hgi
      exact absurd hgj (hsep i y hi1 hi2 g hgi)
    · rw [hhome i y hi1] at hgi
      rw [hhome j z hj1] at hgj
      exact h.inj i j y z g hi2 hj2 hgi hgj
  · intro i hi
    have := h.fresh i (by omega)
    refine ⟨this.1, ?_⟩
    simp only [Mp.setRow]
    rw [if_neg (by omega)]
    exact this.2
  · intro i y hy
    rcases hst i y hy with ⟨rfl, rfl⟩ | ⟨_, hi2⟩
    · exact hr
    · have := h.ids i y hi2; omega

/-- The own row's block is no other's home. -/
theorem Mem.row_alone {c : Ctx} {rd : Rd} {mp : Mp} {st : List (Nat × SO)} {nx : Nat} {w : World} (h : Mem c rd mp st nx w) {r : Nat} {e : TypeId} {sz n : Nat} {f : Nat → List AV} (hl : look st r = some (.row e sz n f))
    {v : Value} {n' : Nat} (hv : mp.row r = some (v, n')) : ∀ i y, look st i = some y → i ≠ r → ∀ g, home mp i y = some g → some g ≠ v.ownBlock := by
  intro i y hi hne g hg he
  exact hne (h.inj i r y _ g hi hl hg (by simp [home, hv, he]))

def AV.lt1 (n : Nat) : AV → Bool
  | .own r _ => Nat.ble (r + 1) n
  | .ptr b _ => Nat.ble (b + 1) n
  | .eptr r .. => Nat.ble (r + 1) n
  | .agg .. | .tup .. | .fn .. | .cnd .. => false
  | _ => true

def AV.ltA (n : Nat) : AV → Bool
  | .agg cs => cs.all (AV.lt1 n)
  | .fn _ cs => cs.all (AV.lt1 n)
  | x => x.lt1 n

def AV.lt (n : Nat) : AV → Bool
  | .tup vs => vs.all (AV.ltA n)
  | x => x.ltA n

def Mp.restrict (mp : Mp) (n : Nat) : Mp := ⟨fun i => if i < n then mp.blk i else Option.none, fun i => if i < n then mp.row i else Option.none⟩

theorem Rel.lt1 {rd : Rd} {mp : Mp} {n : Nat} {x : AV} {v : Value} (h : Rel rd mp x v) (hp : x.lt1 n = true) : Rel rd (mp.restrict n) x v := by
  cases h with
  | own _ r m v vr nr hr hn hv =>
    have hl : r < n := by simp [AV.lt1, Nat.ble_eq] at hp; omega
    exact .own _ _ _ _ vr nr (by simp [Mp.restrict, hl, hr]) hn hv
  | ptr _ b off blk hb =>
    have hl : b < n := by simp [AV.lt1, Nat.ble_eq] at hp; omega
    exact .ptr _ _ _ _ (by simp [Mp.restrict, hl, hb])
  | eptr _ r m sz i off v vr nr hr hn hv =>
    have hl : r < n := by simp [AV.lt1, Nat.ble_eq] at hp; omega
    exact .eptr _ _ _ _ _ _ _ vr nr (by simp [Mp.restrict, hl, hr]) hn hv
  | _ => first
    | (simp [AV.lt1] at hp; done)
    | (constructor <;> assumption)
    | constructor

theorem Rel.ltA {rd : Rd} {mp : Mp} {n : Nat} {x : AV} {v : Value} (h : Rel rd mp x v) (hp : x.ltA n = true) : Rel rd (mp.restrict n) x v := by
  have h' := h
  cases h with
  | agg _ cs vs hs he =>
    refine .agg _ _ _ hs (fun j x v hx hv => (he j x v hx hv).lt1 ?_)
    simp only [AV.ltA, List.all_eq_true] at hp
    exact hp x (List.mem_of_getElem? hx)
  | fn _ f cs vs hs he =>
    refine .fn _ _ _ _ hs (fun j x v hx hv => (he j x v hx hv).lt1 ?_)
    simp only [AV.ltA, List.all_eq_true] at hp
    exact hp x (List.mem_of_getElem? hx)
  | _ => exact h'.lt1 hp

theorem Rel.lt {rd : Rd} {mp : Mp} {n : Nat} {x : AV} {v : Value} (h : Rel rd mp x v) (hp : x.lt n = true) : Rel rd (mp.restrict n) x v := by
  have h' := h
  cases h with
  | tup _ cs vs hs he =>
    refine .tup _ _ _ hs (fun j x v hx hv => (he j x v hx hv).ltA ?_)
    simp only [AV.lt, List.all_eq_true] at hp
    exact hp x (List.mem_of_getElem? hx)
  | _ => exact h'.ltA hp

def stLt (n : Nat) (st : List (Nat × SO)) : Bool := st.all fun p => Nat.ble (p.1 + 1) n && (match p.2 with | .box _ cs => cs.all (AV.lt1 n) | .row .. => true)

theorem mem_of_look {α : Type} {l : List (Nat × α)} {i : Nat} {x : α} (h : look l i = some x) : (i, x) ∈ l := by
  induction l with
  | nil => simp [look] at h
  | cons p r ih =>
    obtain ⟨k, v⟩ := p
    rw [look_cons] at h
    by_cases hk : k = i
    · subst hk; rw [if_pos rfl] at h; cases h; simp
    · rw [if_neg hk] at h; simp [ih h]

theorem Mem.restrict {c : Ctx} {rd : Rd} {mp : Mp} {st : List (Nat × SO)} {nx n : Nat} {w : World} (h : Mem c rd mp st nx w) (hl : stLt n st = true) : Mem c rd (mp.restrict n) st n w := by
  have hid : ∀ i x, look st i = some x → i < n ∧ (∀ ty cs, x = .box ty cs → cs.all (AV.lt1 n) = true) := by
    intro i x hx
    have := (List.all_eq_true.1 hl) _ (mem_of_look hx)
    simp only [Bool.and_eq_true, Nat.ble_eq] at this
    exact ⟨by omega, fun ty cs e => by subst e; exact this.2⟩
  have hhome : ∀ i x, look st i = some x → home (mp.restrict n) i x = home mp i x := by
    intro i x hx
    have := (hid i x hx).1
    cases x <;> simp [home, Mp.restrict, this]
  refine ⟨h.rdw, h.rd1, h.rdn, h.fr, fun i x hx => ?_, fun i j x y g hi hj hgi hgj => ?_, fun i hi => ?_, fun i x hx => (hid i x hx).1⟩
  · have hi := hid i x hx
    have hso := h.so i x hx
    cases x with
    | box ty cs =>
      obtain ⟨b, vs, h1, h2, h3, h4, h5, h6⟩ := hso
      refine ⟨b, vs, by simp [Mp.restrict, hi.1, h1], h2, h3, fun j x v hx' hv => (h4 j x v hx' hv).lt1 ?_, h5, h6⟩
      exact List.all_eq_true.1 (hi.2 ty cs rfl) x (List.mem_of_getElem? hx')
    | row e sz m f =>
      obtain ⟨v, xs, h1, rest⟩ := hso
      exact ⟨v, xs, by simp [Mp.restrict, hi.1, h1], rest⟩
  · rw [hhome i x hi] at hgi
    rw [hhome j y hj] at hgj
    exact h.inj i j x y g hi hj hgi hgj
  · simp [Mp.restrict, Nat.not_lt.2 hi]

end Go.Sx
