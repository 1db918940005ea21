/- Soundness of the abstract operations, fourth part: fields, loads, stores, boxes. Nothing of a program. -/
import Derived.Test.YtljcikhibikebaaSxS3
namespace Go.Sx
open Go Go.RowKit

variable {P : Program} {T : Nat → TI} {C : Cfg} {c : Ctx} {rd : Rd} {mp : Mp} {st : List (Nat × SO)} {nx : Nat} {w : World}

theorem rel_ptr {b o : Nat} {v : Value} (hr : Rel rd mp (.ptr b o) v) : ∃ g, mp.blk b = some g ∧ v = .pointer (some ⟨g, o, none⟩) := by
  cases hr with
  | ptr _ _ _ g h => exact ⟨g, h, rfl⟩

theorem rel_rptr {cs : List AV} {v : Value} (hr : Rel rd mp (.rptr cs) v) : ∃ g o, v = .pointer (some ⟨g, o, none⟩) ∧ ∀ (j : Nat) x, cs[j]? = some x → ∃ u, rd g (o + j) = some u ∧ Rel rd Mp.none x u := by
  cases hr with
  | rptr _ _ g o val h1 h2 => exact ⟨g, o, rfl, fun j x hx => ⟨val j, h1 j x hx, h2 j x hx⟩⟩

theorem fits_fieldAddr (hT : ∀ t, T t = tab P t) (hm : Mem c rd mp st nx w) (t : TypeId) (fi : Nat) (x : AV) (v : Value) (hx : Rel rd mp x v) :
    Fits P c rd mp st nx w (fieldAddrO T st t fi x) (Instr.fieldAt t v fi) := by
  unfold fieldAddrO
  split
  · rename_i fs hk
    split
    · rename_i off ft hf
      cases hc : Nat.ble 1 (T ft).size with
      | false => trivial
      | true =>
        simp only [cond_true]
        obtain ⟨fields, hd, rfl⟩ := tab_struct hT hk
        simp only [List.getElem?_map, Option.map_eq_some_iff] at hf
        obtain ⟨fd, hfd, heq⟩ := hf
        simp only [Prod.mk.injEq] at heq
        obtain ⟨rfl, rfl⟩ := heq
        have hfd' : fields[fi]? = some fd := by simpa using hfd
        obtain ⟨inf, hinf, hsz, _⟩ := tab_size hT (t := fd.type) (by simpa [Nat.ble_eq] using hc)
        have hs0 : inf.size ≠ 0 := by
          have : 1 ≤ (T fd.type).size := by simpa [Nat.ble_eq] using hc
          omega
        have run : ∀ g o, (Instr.fieldAt t (.pointer (some ⟨g, o, none⟩)) fi).run P w = .ok (.pointer (some ⟨g, o + fd.offset, none⟩)) w := by
          intro g o
          simp [Instr.fieldAt, run_underlying hd, hfd', Instr.sureAddr, fieldPlace, sizeOf, typeInfo, hinf, hs0, Addr.add_lit]
        split
        · obtain ⟨g, hg, rfl⟩ := rel_ptr hx
          exact fun _ => .here hm (run _ _) (.ptr _ _ _ _ hg)
        · rename_i r i e n sz k o
          split
          · rename_i ob R hl
            intro hob
            obtain ⟨hob1, hn⟩ := (obT_andO _ _).1 hob
            obtain ⟨v', xs, hv', _⟩ := hm.mb r i R (rowAt_mem hl hob1)
            obtain ⟨vr, er, nr, h1, h2, h3, h4⟩ := rel_eptr hx
            rw [hv'] at h1; cases h1
            obtain ⟨g, lo, cap, hv, rfl⟩ := h4 hn.1 hn.2
            refine .here hm (run _ _) (.eptr _ _ _ _ _ _ _ _ _ _ _ _ hv' h2 h3 (fun _ _ => ⟨g, lo, cap, hv, ?_⟩))
            rw [Nat.add_assoc, Nat.add_assoc]
          · trivial
        · rename_i cs
          obtain ⟨g, o, rfl, h⟩ := rel_rptr hx
          intro _
          refine .here hm (run _ _) (.rptr _ _ _ _ (fun j => (rd g (o + fd.offset + j)).getD undef) (fun j x hx => ?_) (fun j x hx => ?_))
          · rw [List.getElem?_drop] at hx
            obtain ⟨u, hu, _⟩ := h _ _ hx
            rw [← Nat.add_assoc] at hu
            simp [hu]
          · rw [List.getElem?_drop] at hx
            obtain ⟨u, hu, hr⟩ := h _ _ hx
            rw [← Nat.add_assoc] at hu
            simpa [hu] using hr
        · trivial
    · trivial
  · trivial

/-- A value of a type that lies at an address of known cells. -/
theorem cells_load (hT : ∀ t, T t = tab P t) (t : TypeId) (cs : List AV) (g o : Nat)
    (h : ∀ (j : Nat) x, cs[j]? = some x → ∃ u, w.cell? ⟨g, o + j, none⟩ = some u ∧ Rel rd mp x u) (ob : Option Prop) (y : AV) (hy : cellsO (T t) cs = .ok ob y) :
    ∃ x, (Instr.loadAt t (.pointer (some ⟨g, o, none⟩))).run P w = .ok x w ∧ Rel rd mp y x := by
  unfold cellsO at hy
  cases hag : isAggK (T t).kd with
  | true =>
    simp only [hag, cond_true] at hy
    cases hl : Nat.ble (T t).size cs.length with
    | false => simp [hl] at hy
    | true =>
      simp only [hl, cond_true, OR.ok.injEq] at hy
      obtain ⟨_, rfl⟩ := hy
      have hle : (T t).size ≤ cs.length := Nat.le_of_ble_eq_true hl
      obtain ⟨inf, d, h1, h2, h3, h4, _⟩ := tab_kd hT (t := t) (by intro e; rw [e] at hag; simp [isAggK] at hag)
      have hg : (isAgg t).run P w = .ok true w := by
        simp only [isAgg, Sem.run_bind, run_underlying h2, Result.andThen]
        rw [h3] at hag
        cases d <;> simp [kdOf, isAggK] at hag ⊢
      have hcell : ∀ j, j < inf.size → w.cell? ((⟨g, o, none⟩ : Addr).add j) = some ((w.cell? ⟨g, o + j, none⟩).getD undef) := by
        intro j hj
        obtain ⟨u, hu, _⟩ := h j (cs[j]'(by omega)) (List.getElem?_eq_getElem (by omega))
        rw [Addr.add_lit, hu]; rfl
      refine ⟨.agg ((Array.range inf.size).map fun j => (w.cell? ⟨g, o + j, none⟩).getD undef), ?_, ?_⟩
      · simp [Instr.loadAt, Instr.sureAddr, loadVar, hg, sizeOf, typeInfo, h1, run_loadCells w _ _ _ hcell]
        apply Array.ext
        · simp
        · intro i h1 h2; simp
      · refine .agg _ _ _ (by simp; omega) (fun j x v hx hv => ?_)
        rw [List.getElem?_take] at hx
        split at hx
        · obtain ⟨u, hu, hr⟩ := h j x hx
          rw [Array.getElem?_map] at hv
          obtain ⟨j', hj', rfl⟩ := Option.map_eq_some_iff.1 hv
          have : j' = j := by
            rw [Array.getElem?_range] at hj'
            split at hj'
            · cases hj'; rfl
            · cases hj'
          subst this
          simpa [hu] using hr
        · cases hx
  | false =>
    simp only [hag, cond_false] at hy
    cases hs : Nat.beq (T t).size 1 with
    | false => simp [hs] at hy
    | true =>
      have hs' : (T t).size = 1 := Nat.eq_of_beq_eq_true hs
      simp only [hs, cond_true] at hy
      cases cs with
      | nil => simp at hy
      | cons x r =>
        simp only [OR.ok.injEq] at hy
        obtain ⟨_, rfl⟩ := hy
        obtain ⟨u, hu, hr⟩ := h 0 x rfl
        have hg := isAgg_run hT (t := t) (by omega) w
        rw [hag] at hg
        exact ⟨u, by simp at hu; simp [Instr.loadAt, Instr.sureAddr, loadVar, hg, hu], hr⟩

theorem cellsO_or (ti : TI) (cs : List AV) : cellsO ti cs = .bad ∨ ∃ y, cellsO ti cs = .ok none y := by
  unfold cellsO
  cases isAggK ti.kd <;> cases Nat.ble ti.size cs.length <;> cases Nat.beq ti.size 1 <;> cases cs <;> simp

theorem fits_cells (hT : ∀ t, T t = tab P t) (hm : Mem c rd mp st nx w) (t : TypeId) (cs : List AV) (g o : Nat)
    (h : ∀ (j : Nat) x, cs[j]? = some x → ∃ u, w.cell? ⟨g, o + j, none⟩ = some u ∧ Rel rd mp x u) : Fits P c rd mp st nx w (cellsO (T t) cs) (Instr.loadAt t (.pointer (some ⟨g, o, none⟩))) := by
  rcases cellsO_or (T t) cs with hb | ⟨y, hy⟩
  · rw [hb]; trivial
  · rw [hy]
    intro _
    obtain ⟨x, hx, hr⟩ := cells_load (P := P) hT t cs g o h none y hy
    exact .here hm hx hr

/-- A box, read. -/
theorem box_load (hT : ∀ t, T t = tab P t) (hm : Mem c rd mp st nx w) (t : TypeId) {b o : Nat} {ty : TypeId} {cs : List AV} (hl : look st b = some (.box ty cs)) {v : Value} (hv : Rel rd mp (.ptr b o) v) (ob : Option Prop) (y : AV) (hy : cellsO (T t) (cs.drop o) = .ok ob y) :
    ∃ ad x, v = .pointer (some ad) ∧ (Instr.loadAt t v).run P w = .ok x w ∧ Rel rd mp y x := by
  obtain ⟨g, hg, rfl⟩ := rel_ptr hv
  obtain ⟨b', vs, h1, h2, h3, h4, h5, h6⟩ := hm.bx b _ _ hl
  rw [hg] at h1; cases h1
  obtain ⟨x, h7, h8⟩ := cells_load (P := P) (w := w) (rd := rd) (mp := mp) hT t (cs.drop o) g o (fun j x hx => by
    rw [List.getElem?_drop] at hx
    have hlt : o + j < vs.size := by rw [h3]; exact (List.getElem?_eq_some_iff.1 hx).1
    refine ⟨vs[o + j], ?_, h4 _ _ _ hx (by simp [hlt])⟩
    rw [cell_of_row w g (o + j) vs ty (0, 0) h2]
    simp [hlt]) ob y hy
  exact ⟨_, x, rfl, h7, h8⟩

theorem fits_load (hT : ∀ t, T t = tab P t) (hm : Mem c rd mp st nx w) (t : TypeId) (x : AV) (v : Value) (hx : Rel rd mp x v) : Fits P c rd mp st nx w (loadO T st t x) (Instr.loadAt t v) := by
  unfold loadO
  split
  · rename_i cs
    obtain ⟨g, o, rfl, h⟩ := rel_rptr hx
    refine fits_cells hT hm t cs g o (fun j x hx => ?_)
    obtain ⟨u, hu, hr⟩ := h j x hx
    exact ⟨u, hm.rdw _ _ _ hu, hr.mono (Rd.le.refl _) (Mp.none_le _)⟩
  · rename_i b o
    split
    · rename_i ty cs hl
      obtain ⟨g, hg, rfl⟩ := rel_ptr hx
      obtain ⟨b', vs, h1, h2, h3, h4, h5, h6⟩ := hm.bx b _ _ hl
      rw [hg] at h1; cases h1
      refine fits_cells hT hm t _ g o (fun j x hx => ?_)
      rw [List.getElem?_drop] at hx
      have hlt : o + j < vs.size := by rw [h3]; exact (List.getElem?_eq_some_iff.1 hx).1
      refine ⟨vs[o + j], ?_, h4 _ _ _ hx (by simp [hlt])⟩
      rw [cell_of_row w g (o + j) vs ty (0, 0) h2]
      simp [hlt]
    · trivial
  · rename_i r i e n sz' k o
    split
    · rename_i ob R hl
      cases hz : Nat.beq sz' R.sz with
      | false => trivial
      | true =>
        obtain rfl : sz' = R.sz := Nat.eq_of_beq_eq_true hz
        simp only [cond_true]
        have h0 : obT (andO ob (some ((e = R.ep ∧ n = R.n) ∧ k < n))) → Fits P c rd mp st nx w (cellsO (T t) ((R.f k).drop o)) (Instr.loadAt t v) := by
          intro hob
          obtain ⟨hob1, hn, hk⟩ := (obT_andO _ _).1 hob
          obtain ⟨vr, xs, h1, h2, h3, h4, h5⟩ := hm.mb r i R (rowAt_mem hl hob1)
          obtain ⟨vr', er, nr, g1, g2, g3, g4⟩ := rel_eptr hx
          rw [h1] at g1; cases g1
          obtain ⟨g, lo, cap, rfl, rfl⟩ := g4 hn.1 hn.2
          have hn2 := hn.2
          subst hn2
          refine fits_cells hT hm t _ g _ (fun j x hx => ?_)
          rw [List.getElem?_drop] at hx
          obtain ⟨u, hu, _, hr⟩ := h4 k (o + j) x hk hx
          refine ⟨u, ?_, hr.mono (Rd.le.refl _) (Mp.sel_le _ _)⟩
          have := h2.cells hu
          rwa [show lo + (k * R.sz + (o + j)) = lo + (k * R.sz + o) + j by omega] at this
        exact Fits.also h0
    · trivial
  · trivial

theorem rel_one {x : AV} {v : Value} (hr : Rel rd mp x v) (h : x.one = true) : v.oneCell' = true := by
  cases hr <;> first | rfl | (simp [AV.one] at h; done)

/-- A store of several cells into one box. -/
theorem store_cells (id : Nat) (ty : TypeId) (b : Nat) : ∀ (xs : List AV) (vs : List Value) (o i : Nat) (cs : List AV) (st : List (Nat × SO)) (w : World), Mem c rd mp st nx w → look st id = some (.box ty cs) → mp.blk id = some b →
    vs.length = xs.length → (∀ (j : Nat) x v, xs[j]? = some x → vs[j]? = some v → Rel rd mp x v ∧ v.oneCell' = true) → o + i + xs.length ≤ cs.length →
    ∃ w', (storeCells ⟨b, o, none⟩ vs i).run P w = .ok () w' ∧ Mem c rd mp (setSt st id (.box ty (setAll cs (o + i) xs))) nx w' := by
  intro xs
  induction xs with
  | nil =>
    intro vs o i cs st w hm hl hb hlen _ _
    have : vs = [] := by simpa using hlen
    subst this
    refine ⟨w, by simp [storeCells], ?_⟩
    simp only [setAll]
    refine hm.forget (fun j y hy => ?_)
    rw [look_setSt] at hy
    by_cases hj : j = id
    · subst hj; rw [if_pos rfl, hl] at hy; rw [hl]; exact hy
    · rw [if_neg hj] at hy; exact hy
  | cons x xs ih =>
    intro vs o i cs st w hm hl hb hlen hr hle
    cases vs with
    | nil => simp at hlen
    | cons v vs =>
      obtain ⟨hxv, h1⟩ := hr 0 x v rfl rfl
      have hm1 := hm.storeBox hl hb (o + i) x v hxv
      obtain ⟨b', us, g1, g2, g3, _⟩ := hm.bx id _ _ hl
      rw [hb] at g1; cases g1
      have hlt : o + i < us.size := by rw [g3]; simp at hle; omega
      have hcell : w.cell? ⟨b, o + i, none⟩ = some us[o + i] := by rw [cell_of_row w b (o + i) us ty (0, 0) g2]; simp [hlt]
      have hfr : w.frozen? ⟨b, o + i, none⟩ = false := by simp [World.frozen?, g2]
      have hl1 : look (setSt st id (.box ty (cs.set (o + i) x))) id = some (.box ty (cs.set (o + i) x)) := by rw [look_setSt, if_pos rfl, hl]; rfl
      obtain ⟨w', hw', hm'⟩ := ih vs o (i + 1) (cs.set (o + i) x) _ _ hm1 hl1 hb (by simpa using hlen) (fun j x' v' hx hv => hr (j + 1) x' v' (by simpa using hx) (by simpa using hv)) (by simp at hle ⊢; omega)
      refine ⟨w', ?_, ?_⟩
      · simp only [storeCells, Sem.run_bind, Addr.add_lit, run_store P w _ v .plain h1, hcell, hfr]
        simpa using hw'
      · refine hm'.forget (fun j y hy => ?_)
        rw [look_setSt] at hy
        rw [look_setSt, look_setSt]
        by_cases hj : j = id
        · subst hj
          simp only [if_pos, hl, Option.map_some] at hy ⊢
          simp only [setAll] at hy
          rw [← Nat.add_assoc]; exact hy
        · simp only [if_neg hj] at hy ⊢; exact hy

end Go.Sx
