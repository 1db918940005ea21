/- More laws of the store: a store into a box, own rows, forgetting. Nothing of a program. -/
import Derived.Test.YtljcikhibikebaaSxMem
namespace Go.Sx
open Go Go.RowKit

section
variable {c : Ctx} {rd rd' : Rd} {mp mp' : Mp} {st st' : List (Nat × SO)} {nx nx' : Nat} {w w' : World}

theorem isMem_setBox {id : Nat} {ty ty' : TypeId} {cs cs' : List AV} (hl : look st id = some (.box ty cs)) {r i : Nat} {R : RowV} (h : IsMem (setSt st id (.box ty' cs')) r i R) : IsMem st r i R := by
  have hne : ∀ x, look (setSt st id (.box ty' cs')) r = some x → (∀ t c, x ≠ .box t c) → look st r = some x := by
    intro x hx hx'
    rw [look_setSt] at hx
    by_cases hi : r = id
    · subst hi; rw [if_pos rfl, hl] at hx; cases hx; exact absurd rfl (hx' _ _)
    · rwa [if_neg hi] at hx
  cases h with
  | row h => exact .row (hne _ h (by simp))
  | fam h hi => exact .fam (hne _ h (by simp)) hi

/-- A store into one box. -/
theorem Mem.storeBox (h : Mem c rd mp st nx w) {id : Nat} {ty : TypeId} {cs : List AV} (hl : look st id = some (.box ty cs))
    {b : Nat} (hb : mp.blk id = some b) (off : Nat) (x : AV) (v : Value) (hr : Rel rd mp x v) :
    Mem c rd mp (setSt st id (.box ty (cs.set off x))) nx (w.setCell ⟨b, off, none⟩ v) := by
  obtain ⟨b', vs, h1, h2, h3, h4, h5, h6⟩ := h.bx id _ _ hl
  rw [hb] at h1; cases h1
  have hblk : ∀ k, k ≠ b → (w.setCell ⟨b, off, none⟩ v).heap[k]? = w.heap[k]? := fun k hk => Below.heap_setCell w ⟨b, off, none⟩ v k hk
  have hsz : (w.setCell ⟨b, off, none⟩ v).heap.size = w.heap.size := by simp [World.setCell]
  have hnew : (w.setCell ⟨b, off, none⟩ v).heap[b]? = some (.cells (vs.setIfInBounds off v) ty (0, 0)) := by
    simp [World.setCell, Array.getElem?_modify, h2]
  have hne : ∀ p, There st p → some p ≠ some (Pl.bx id) → ∀ g, blkOf mp p = some g → g ≠ b := by
    intro p hp hne g hg e
    subst e
    exact hne (congrArg some (h.inj p (.bx id) g hp ⟨ty, cs, hl⟩ hg hb))
  refine h.upd (some (.bx id)) (Rd.le.refl _) (Mp.le.refl _) ⟨h.fr.os, h.fr.tape, h.fr.output, by rw [hsz]; exact h.fr.size, fun k hk hf => ?_⟩ ?_ h.rd1 h.rdn (fun b' ty' cs' hl' hne' => ?_) (fun r i R hR _ => isMem_setBox hl hR)
    (fun p hp hp' => ⟨by cases p <;> rfl, fun g hg => ⟨hblk g (hne p hp hp' g hg), (h.home hp hg).2.1⟩⟩) (fun b' ty' cs' ht hl' => ?_) (fun r i R ht => by cases ht)
    (fun p g ht _ hg q hq hq' hg' => ?_) h.fresh (fun i y hy => ?_) (fun r e sz cnt ep len f hl' => ?_)
  · by_cases hkb : k = b
    · subst hkb
      rcases h6 with h6 | h6
      · omega
      · exact absurd h6 hf
    · rw [hblk k hkb]; exact h.fr.block k hk hf
  · intro g o u hu
    have hg : g ≠ b := by rintro rfl; rw [h5 o] at hu; cases hu
    exact (World.cell?_of_block (a := ⟨g, o, none⟩) (hblk g hg)).trans (h.rdw g o u hu)
  · rw [look_setSt, if_neg (by rintro rfl; exact hne' rfl)] at hl'
    exact hl'
  · cases ht
    rw [look_setSt, if_pos rfl, hl] at hl'
    cases hl'
    refine ⟨b, _, hb, hnew, by simpa using h3, fun j x' v' hx hv => ?_, h5, h6⟩
    by_cases hj : off = j
    · subst hj
      rw [List.getElem?_set] at hx
      simp at hx
      rw [Array.getElem?_setIfInBounds] at hv
      simp at hv
      obtain ⟨_, rfl⟩ := hx
      obtain ⟨_, rfl⟩ := hv
      exact hr
    · rw [List.getElem?_set_ne hj] at hx
      rw [Array.getElem?_setIfInBounds_ne hj] at hv
      exact h4 j x' v' hx hv
  · cases ht
    simp only [blkOf, hb] at hg
    cases hg
    exact hne q hq hq' b hg' rfl
  · rw [look_setSt] at hy
    by_cases hid : i = id
    · subst hid; exact h.ids i _ hl
    · rw [if_neg hid] at hy; exact h.ids i y hy
  · rw [look_setSt] at hl'
    by_cases hid : r = id
    · subst hid; rw [if_pos rfl, hl] at hl'; cases hl'
    · rw [if_neg hid] at hl'; exact h.out r e sz cnt ep len f hl'

theorem isMem_sub (hs : ∀ i x, look st' i = some x → look st i = some x) {r i : Nat} {R : RowV} (h : IsMem st' r i R) : IsMem st r i R := by
  cases h with
  | row h => exact .row (hs _ _ h)
  | fam h hi => exact .fam (hs _ _ h) hi

/-- Some of the store is forgotten. -/
theorem Mem.forget (h : Mem c rd mp st nx w) (hs : ∀ i x, look st' i = some x → look st i = some x) : Mem c rd mp st' nx w :=
  h.upd none (Rd.le.refl _) (Mp.le.refl _) h.fr h.rdw h.rd1 h.rdn (fun b ty cs hl _ => hs _ _ hl) (fun r i R hR _ => isMem_sub hs hR) (fun p hp _ => ⟨by cases p <;> rfl, fun g hg => ⟨rfl, (h.home hp hg).2.1⟩⟩)
    (fun b ty cs ht => by cases ht) (fun r i R ht => by cases ht) (fun p g ht => by cases ht) h.fresh (fun i x hx => h.ids i x (hs i x hx)) (fun r e sz cnt ep len f hl => h.out r e sz cnt ep len f (hs _ _ hl))

/-- A row of a name of its own, or one that has turned: all that is asked of the new value and the new world. -/
theorem Mem.setMem (h : Mem c rd mp st nx w) (r i : Nat) (R : RowV) (v : Value) (xs : List Value)
    (old : Option Nat) (hold : ∀ p, There st p → some p ≠ some (Pl.rw r i) → ∀ g, blkOf mp p = some g → some g ≠ old) (holdrd : ∀ g, old = some g → (c.w0.heap.size ≤ g ∨ c.fx g) ∧ ∀ o, rd g o = none)
    (hmp : ∀ v0 e0 n0, mp.row r i = some (v0, e0, n0) → e0 < R.ep ∨ (e0 = R.ep ∧ (n0 < R.n ∨ (n0 = R.n ∧ v0 = v))))
    (hg : w.grownBy w' old) (hown : Owns w' R.e R.sz v R.n xs) (hat : v.ownBlock = old ∨ ∃ g, v.ownBlock = some g ∧ w.heap.size ≤ g)
    (hf : ∀ k, k < R.n → (R.f k).length = R.sz) (hx : ∀ (k j : Nat) x, k < R.n → (R.f k)[j]? = some x → ∃ u, xs[k * R.sz + j]? = some u ∧ u.oneCell' = true ∧ Rel rd (mp.sel R.ids) x u)
    (hb : ∀ b ty cs, look st' b = some (.box ty cs) → look st b = some (.box ty cs))
    (hm : ∀ r' i' R', IsMem st' r' i' R' → (r' = r ∧ i' = i ∧ R' = R) ∨ (¬ (r' = r ∧ i' = i) ∧ IsMem st r' i' R')) (hnx : nx ≤ nx') (hids : ∀ i x, look st' i = some x → i < nx')
    (hrn : r < nx') (hout : ∀ r' e sz cnt ep len f, look st' r' = some (.fam e sz cnt ep len f) → ∀ i', cnt ≤ i' → (mp.setRow r i v R.ep R.n).row r' i' = none) :
    Mem c rd (mp.setRow r i v R.ep R.n) st' nx' w' := by
  have hle : Mp.le mp (mp.setRow r i v R.ep R.n) := Mp.le_setRow hmp
  have hblk : ∀ k, k < w.heap.size → some k ≠ old → w'.heap[k]? = w.heap[k]? := fun k hk hne => hg.block k hk hne
  have hrow : (mp.setRow r i v R.ep R.n).row r i = some (v, R.ep, R.n) := by simp [Mp.setRow]
  refine h.upd (some (.rw r i)) (Rd.le.refl _) hle ⟨hg.os.trans h.fr.os, hg.tape.trans h.fr.tape, hg.output.trans h.fr.output, Nat.le_trans h.fr.size hg.size, fun k hk hf' => ?_⟩ (fun g o u hu => ?_) h.rd1 h.rdn (fun b ty cs hl _ => hb b ty cs hl)
    (fun r' i' R' hR hne => ?_) (fun p hp hne => ⟨?_, fun g hgp => ?_⟩) (fun b ty cs ht => by cases ht) (fun r' i' R' ht hR => ?_) (fun p g ht _ hgp q hq hne hgq => ?_) (fun j hj => ?_) hids hout
  · have hne : some k ≠ old := fun eq => by
      rcases (holdrd k eq.symm).1 with h1 | h1
      · omega
      · exact hf' h1
    rw [hblk k (Nat.lt_of_lt_of_le hk h.fr.size) hne]
    exact h.fr.block k hk hf'
  · have hlt := h.rd_lt (g := g) (o := o) (by rw [hu]; simp)
    have hne : some g ≠ old := fun eq => by have := (holdrd g eq.symm).2 o; rw [hu] at this; cases this
    exact (World.cell?_of_block (a := ⟨g, o, none⟩) (hblk g hlt hne)).trans (h.rdw g o u hu)
  · rcases hm r' i' R' hR with ⟨rfl, rfl, _⟩ | ⟨_, hR'⟩
    · exact absurd rfl hne
    · exact hR'
  · cases p with
    | bx b => rfl
    | rw r' i' =>
      have : ¬ (r' = r ∧ i' = i) := by rintro ⟨rfl, rfl⟩; exact hne rfl
      simp [bindEq, Mp.setRow, this]
  · obtain ⟨h1, h2, _⟩ := h.home hp hgp
    exact ⟨hblk g h1 (hold p hp hne g hgp), h2⟩
  · simp only [Option.some.injEq, Pl.rw.injEq] at ht
    obtain ⟨rfl, rfl⟩ := ht
    rcases hm r i R' hR with ⟨_, _, rfl⟩ | ⟨hne, _⟩
    · refine ⟨v, xs, hrow, hown, hf, fun k j x hk hxx => ?_, fun g hgv => ?_⟩
      · obtain ⟨u, hu, hu1, hu2⟩ := hx k j x hk hxx
        exact ⟨u, hu, hu1, hu2.mono (Rd.le.refl _) (Mp.sel_mono hle _)⟩
      · rcases hat with hat | ⟨g', hat, hge⟩
        · exact ⟨(holdrd g (by rw [← hat]; exact hgv)).2, (holdrd g (by rw [← hat]; exact hgv)).1⟩
        · rw [hgv] at hat
          cases hat
          refine ⟨fun o => ?_, .inl (Nat.le_trans h.fr.size hge)⟩
          cases hro : rd g o with
          | none => rfl
          | some u => exact absurd (h.rd_lt (g := g) (o := o) (by rw [hro]; simp)) (by omega)
    · exact absurd ⟨rfl, rfl⟩ hne
  · cases ht
    simp only [blkOf, hrow, Option.bind_some] at hgp
    rcases hat with hat | ⟨g', hat, hge⟩
    · exact hold q hq hne g hgq (by rw [← hat]; exact hgp.symm)
    · rw [hgp] at hat
      cases hat
      have := (h.home hq hgq).1
      omega
  · have := h.fresh j (by omega)
    refine ⟨this.1, fun k => ?_⟩
    simp only [Mp.setRow]
    rw [if_neg (by omega)]
    exact this.2 k

/-- The own row's block is no other's home. -/
theorem Mem.mem_alone (h : Mem c rd mp st nx w) {r i : Nat} {R : RowV} (hR : IsMem st r i R)
    {v : Value} {e n : Nat} (hv : mp.row r i = some (v, e, n)) : ∀ p, There st p → some p ≠ some (Pl.rw r i) → ∀ g, blkOf mp p = some g → some g ≠ v.ownBlock := by
  intro p hp hne g hg he
  exact hne (congrArg some (h.inj p (.rw r i) g hp ⟨R, hR⟩ hg (by simp [blkOf, hv, he])))

def AV.lt1 (n : Nat) : AV → Bool
  | .own r .. => Nat.ble (r + 1) n
  | .ptr b _ => Nat.ble (b + 1) n
  | .mapv b => Nat.ble (b + 1) n
  | .eptr r .. => Nat.ble (r + 1) n
  | .agg .. | .tup .. | .fn .. | .cnd .. | .ifc .. => false
  | _ => true

def AV.ltA (n : Nat) : AV → Bool
  | .agg cs => cs.all (AV.lt1 n)
  | .fn _ cs => cs.all (AV.lt1 n)
  | x => x.lt1 n

def AV.lt (n : Nat) : AV → Bool
  | .tup vs => vs.all (AV.ltA n)
  | x => x.ltA n

def Mp.restrict (mp : Mp) (n : Nat) : Mp := ⟨fun i => if i < n then mp.blk i else Option.none, fun r i => if r < n then mp.row r i else Option.none⟩

theorem Rel.lt1 {n : Nat} {x : AV} {v : Value} (h : Rel rd mp x v) (hp : x.lt1 n = true) : Rel rd (mp.restrict n) x v := by
  cases h with
  | own _ r i e m v vr er nr hr he hn hv =>
    have hl : r < n := by simp [AV.lt1, Nat.ble_eq] at hp; omega
    exact .own _ _ _ _ _ _ vr er nr (by simp [Mp.restrict, hl, hr]) he hn hv
  | ptr _ b off blk hb =>
    have hl : b < n := by simp [AV.lt1, Nat.ble_eq] at hp; omega
    exact .ptr _ _ _ _ (by simp [Mp.restrict, hl, hb])
  | mapv _ b g hb =>
    have hl : b < n := by simp [AV.lt1, Nat.ble_eq] at hp; omega
    exact .mapv _ _ _ (by simp [Mp.restrict, hl, hb])
  | eptr _ r i e m sz k off v vr er nr hr he hn hv =>
    have hl : r < n := by simp [AV.lt1, Nat.ble_eq] at hp; omega
    exact .eptr _ _ _ _ _ _ _ _ _ vr er nr (by simp [Mp.restrict, hl, hr]) he hn hv
  | _ => first
    | (simp [AV.lt1] at hp; done)
    | (constructor <;> assumption)
    | constructor

theorem Rel.ltA {n : Nat} {x : AV} {v : Value} (h : Rel rd mp x v) (hp : x.ltA n = true) : Rel rd (mp.restrict n) x v := by
  have h' := h
  cases h with
  | agg _ cs vs hs he =>
    refine .agg _ _ _ hs (fun j x v hx hv => (he j x v hx hv).lt1 ?_)
    simp only [AV.ltA, List.all_eq_true] at hp
    exact hp x (List.mem_of_getElem? hx)
  | fn _ f cs vs hs he =>
    refine .fn _ _ _ _ hs (fun j x v hx hv => (he j x v hx hv).lt1 ?_)
    simp only [AV.ltA, List.all_eq_true] at hp
    exact hp x (List.mem_of_getElem? hx)
  | _ => exact h'.lt1 hp

theorem Rel.lt {n : Nat} {x : AV} {v : Value} (h : Rel rd mp x v) (hp : x.lt n = true) : Rel rd (mp.restrict n) x v := by
  have h' := h
  cases h with
  | tup _ cs vs hs he =>
    refine .tup _ _ _ hs (fun j x v hx hv => (he j x v hx hv).ltA ?_)
    simp only [AV.lt, List.all_eq_true] at hp
    exact hp x (List.mem_of_getElem? hx)
  | _ => exact h'.ltA hp

def SO.lt (n : Nat) : SO → Bool
  | .box _ cs => cs.all (AV.lt1 n)
  | .row ids .. => ids.all fun r => Nat.ble (r + 1) n
  | .fam .. => true

def stLt (n : Nat) (st : List (Nat × SO)) : Bool := st.all fun p => Nat.ble (p.1 + 1) n && p.2.lt n

theorem mem_of_look {α : Type} {l : List (Nat × α)} {i : Nat} {x : α} (h : look l i = some x) : (i, x) ∈ l := by
  induction l with
  | nil => simp [look] at h
  | cons p r ih =>
    obtain ⟨k, v⟩ := p
    rw [look_cons] at h
    by_cases hk : k = i
    · subst hk; rw [if_pos rfl] at h; cases h; simp
    · rw [if_neg hk] at h; simp [ih h]

theorem Mp.restrict_le (mp : Mp) (n : Nat) : Mp.le (mp.restrict n) mp := by
  refine ⟨fun i g h => ?_, fun r i v e k h => ?_⟩
  · simp only [Mp.restrict] at h
    split at h
    · exact h
    · cases h
  · simp only [Mp.restrict] at h
    split at h
    · exact ⟨v, e, k, h, .inr ⟨rfl, .inr ⟨rfl, rfl⟩⟩⟩
    · cases h

/-- What lies below a name is kept by a cut behind it. -/
theorem Mp.le_restrict {b : Mp} {n : Nat} (h : Mp.le b mp) (hn : ∀ i, n ≤ i → b.blk i = Option.none ∧ ∀ j, b.row i j = Option.none) : Mp.le b (mp.restrict n) := by
  refine ⟨fun i g hi => ?_, fun r i v e k hr => ?_⟩
  · by_cases hl : i < n
    · simp only [Mp.restrict, if_pos hl]; exact h.blk i g hi
    · rw [(hn i (by omega)).1] at hi; cases hi
  · by_cases hl : r < n
    · simp only [Mp.restrict, if_pos hl]; exact h.row r i v e k hr
    · rw [(hn r (by omega)).2 i] at hr; cases hr

theorem Mp.restrict_sel {n : Nat} {ids : List Nat} (h : ids.all (fun r => Nat.ble (r + 1) n) = true) : (mp.restrict n).sel ids = mp.sel ids := by
  simp only [Mp.sel, Mp.restrict, Mp.mk.injEq, true_and]
  funext r i
  by_cases hr : r ∈ ids
  · have := List.all_eq_true.1 h r hr
    simp only [Nat.ble_eq] at this
    rw [if_pos hr, if_pos hr, if_pos (by omega)]
  · rw [if_neg hr, if_neg hr]

theorem Mem.restrict {n : Nat} (h : Mem c rd mp st nx w) (hl : stLt n st = true) : Mem c rd (mp.restrict n) st n w := by
  have hid : ∀ i x, look st i = some x → i < n ∧ x.lt n = true := by
    intro i x hx
    have := (List.all_eq_true.1 hl) _ (mem_of_look hx)
    simp only [Bool.and_eq_true, Nat.ble_eq] at this
    exact ⟨by omega, this.2⟩
  have hmem : ∀ r i R, IsMem st r i R → r < n ∧ R.ids.all (fun r => Nat.ble (r + 1) n) = true := by
    intro r i R hR
    cases hR with
    | row hl => exact ⟨(hid _ _ hl).1, (hid _ _ hl).2⟩
    | fam hl _ => exact ⟨(hid _ _ hl).1, rfl⟩
  have hblk : ∀ p, There st p → blkOf (mp.restrict n) p = blkOf mp p := by
    intro p hp
    cases p with
    | bx b =>
      obtain ⟨ty, cs, hl⟩ := hp
      simp [blkOf, Mp.restrict, (hid _ _ hl).1]
    | rw r i =>
      obtain ⟨R, hR⟩ := hp
      simp [blkOf, Mp.restrict, (hmem _ _ _ hR).1]
  refine ⟨h.rdw, h.rd1, h.rdn, h.fr, fun b ty cs hlk => ?_, fun r i R hR => ?_, fun p q g hp hq hgp hgq => ?_, fun i hi => ?_, fun i x hx => (hid i x hx).1, fun r e sz cnt ep len f hlk i hi => ?_⟩
  · obtain ⟨g, vs, h1, h2, h3, h4, h5, h6⟩ := h.bx b ty cs hlk
    have hi := hid _ _ hlk
    refine ⟨g, vs, by simp [Mp.restrict, hi.1, h1], h2, h3, fun j x v hx' hv => (h4 j x v hx' hv).lt1 ?_, h5, h6⟩
    exact List.all_eq_true.1 hi.2 x (List.mem_of_getElem? hx')
  · obtain ⟨v, xs, h1, h2, h3, h4, h5⟩ := h.mb r i R hR
    have hi := hmem r i R hR
    refine ⟨v, xs, by simp [Mp.restrict, hi.1, h1], h2, h3, fun k j x hk hx => ?_, h5⟩
    rw [Mp.restrict_sel hi.2]
    exact h4 k j x hk hx
  · rw [hblk p hp] at hgp
    rw [hblk q hq] at hgq
    exact h.inj p q g hp hq hgp hgq
  · simp [Mp.restrict, Nat.not_lt.2 hi]
  · have := h.out r e sz cnt ep len f hlk i hi
    simp [Mp.restrict, this]

end

end Go.Sx
