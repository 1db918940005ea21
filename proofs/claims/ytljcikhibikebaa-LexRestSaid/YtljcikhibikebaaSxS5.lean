/- Soundness of the abstract operations, fifth part: stores, boxes, structs and slices that are built. Nothing of a program. -/
import Derived.Test.YtljcikhibikebaaSxS4
namespace Go.Sx
open Go Go.RowKit

variable {P : Program} {T : Nat → TI} {C : Cfg} {c : Ctx} {rd : Rd} {mp : Mp} {st : List (Nat × SO)} {nx : Nat} {w : World} {s : ASt}

theorem rel_oneOwn (hm : Mem c rd mp st nx w) {x : AV} {v : Value} (hr : Rel rd mp x v) (h : x.oneOwn = true) (hob : obT (ownOb st [x])) : v.oneCell' = true := by
  cases x with
  | own r i e n =>
    simp only [ownOb] at hob
    split at hob
    · rename_i ob R hl
      obtain ⟨hob1, hn⟩ := (obT_andO _ _).1 ((obT_andO _ _).1 hob).1
      obtain ⟨xs, h1, h2, _⟩ := own_now hm hl hob1 hr hn
      rcases h2.2 with ⟨rfl, _⟩ | ⟨g, lo, cap, cur, rfl, _⟩ <;> rfl
    · exact absurd hob id
  | _ => exact rel_one hr h

theorem ownOb_mem : ∀ {l : List AV}, obT (ownOb st l) → ∀ x ∈ l, obT (ownOb st [x]) := by
  intro l
  induction l with
  | nil => intro _ x hx; simp at hx
  | cons y l ih =>
    intro h x hx
    have hsplit : obT (ownOb st [y]) ∧ obT (ownOb st l) := by
      cases y with
      | own r i e n =>
        simp only [ownOb] at h ⊢
        split at h
        · have h' := (obT_andO _ _).1 h
          exact ⟨(obT_andO _ _).2 ⟨h'.1, trivial⟩, h'.2⟩
        · exact absurd h id
      | _ => exact ⟨trivial, h⟩
    rcases List.mem_cons.1 hx with rfl | hx
    · exact hsplit.1
    · exact ih hsplit.2 x hx

/-- The cells of a value that is to be laid down. -/
theorem cells_rel (hm : Mem c rd mp st nx w) {x : AV} {v : Value} (hr : Rel rd mp x v) (h : partOk x = true) (hob : obT (partOb st x)) :
    v.cells.size = (cellsOf x).length ∧ ∀ (j : Nat) y u, (cellsOf x)[j]? = some y → v.cells[j]? = some u → Rel rd mp y u := by
  by_cases hag : ∃ cs, x = .agg cs
  · obtain ⟨cs, rfl⟩ := hag
    obtain ⟨vs, rfl, hs, he⟩ := rel_agg hr
    exact ⟨hs, he⟩
  · have hx : x.oneOwn = true ∧ obT (ownOb st [x]) ∧ cellsOf x = [x] := by
      cases x with
      | agg cs => exact absurd ⟨cs, rfl⟩ hag
      | _ => exact ⟨h, hob, rfl⟩
    have h1 := rel_oneOwn hm hr hx.1 hx.2.1
    have hc : v.cells = #[v] := by cases v <;> first | rfl | (simp [Value.oneCell'] at h1; done)
    rw [hc, hx.2.2]
    refine ⟨rfl, fun j y u hy hu => ?_⟩
    cases j with
    | zero => simp at hy hu; subst hy; subst hu; exact hr
    | succ j => simp at hy

theorem fits_box (hm : Mem c rd mp s.st s.nx w) (e : TypeId) (x : AV) (v : Value) (hr : Rel rd mp x v) (h : partOk x = true) :
    Fits P c rd mp s.st s.nx w (boxO s e (cellsOf x) (partOb s.st x)) (Instr.box e v) := by
  intro hob
  obtain ⟨h1, h2⟩ := cells_rel hm hr h hob
  refine ⟨.pointer (some ⟨w.heap.size, 0, none⟩), w.alloc (.cells v.cells e), rd, mp.addBlk s.nx w.heap.size, ?_, Rd.le.refl _, Mp.le_addBlk (hm.fresh _ (Nat.le_refl _)).1, hm.newBox v.cells e _ h1 h2, .ptr _ _ _ _ (by simp [Mp.addBlk])⟩
  simp [Instr.box, newVar, newRow]

theorem zero_parts (hT : ∀ t, T t = tab P t) {e : TypeId} (h1 : 1 ≤ (T e).size) (h2 : (T e).zero.length = (T e).size) :
    ∃ i z, P.info? e = some i ∧ i.zero = some z ∧ i.size = (T e).size ∧ i.bytes = (T e).bytes ∧ z.cells.size = (T e).size ∧ (T e).zero = z.cells.toList.map ofVal1 := by
  obtain ⟨i, hi, hs, hb, hz⟩ := tab_size hT h1
  cases hzz : i.zero with
  | none =>
    rw [hz] at h2
    simp only [zeroOf, hzz, List.length_nil] at h2
    omega
  | some z =>
    have hz' : (T e).zero = z.cells.toList.map ofVal1 := by rw [hz, zeroOf, hzz]
    refine ⟨i, z, hi, hzz, hs.symm, hb.symm, ?_, hz'⟩
    rw [hz'] at h2
    simpa using h2

theorem fits_alloc (hT : ∀ t, T t = tab P t) (hm : Mem c rd mp s.st s.nx w) (e : TypeId) (h1 : 1 ≤ (T e).size) (h2 : (T e).zero.length = (T e).size) :
    Fits P c rd mp s.st s.nx w (boxO s e (T e).zero none) (Instr.alloc e true (.tuple #[])) := by
  intro _
  obtain ⟨i, z, hi, hz, hs, _, hzs, hzz⟩ := zero_parts hT h1 h2
  refine ⟨.pointer (some ⟨w.heap.size, 0, none⟩), w.alloc (.cells z.cells e), rd, mp.addBlk s.nx w.heap.size, ?_, Rd.le.refl _, Mp.le_addBlk (hm.fresh _ (Nat.le_refl _)).1,
    hm.newBox z.cells e _ (by rw [hzz]; simp) (fun j x v hx hv => ?_), .ptr _ _ _ _ (by simp [Mp.addBlk])⟩
  · simp [Instr.alloc, zeroValue, typeInfo, hi, hz, newVar, newRow]
  · rw [hzz] at hx
    simp at hx
    obtain ⟨u, hu, rfl⟩ := hx
    rw [hv] at hu; cases hu
    exact rel_ofVal1 rd mp v

theorem setAll_length : ∀ (xs : List AV) (cs : List AV) (o : Nat), (setAll cs o xs).length = cs.length := by
  intro xs
  induction xs with
  | nil => intro cs o; rfl
  | cons x xs ih => intro cs o; simp [setAll, ih]

theorem setAll_get : ∀ (xs : List AV) (cs : List AV) (o j : Nat), (setAll cs o xs)[j]? = if j < cs.length then (if o ≤ j ∧ j < o + xs.length then xs[j - o]? else cs[j]?) else none := by
  intro xs
  induction xs with
  | nil =>
    intro cs o j
    simp only [setAll, List.length_nil, Nat.add_zero]
    by_cases hj : j < cs.length
    · rw [if_pos hj, if_neg (by omega)]
    · rw [if_neg hj, List.getElem?_eq_none (by omega)]
  | cons x xs ih =>
    intro cs o j
    simp only [setAll, ih, List.length_set, List.length_cons]
    by_cases hj : j < cs.length
    · rw [if_pos hj, if_pos hj]
      by_cases ho : o = j
      · subst ho
        rw [if_neg (by omega), if_pos (by omega)]
        simp [hj]
      · by_cases h1 : o + 1 ≤ j ∧ j < o + 1 + xs.length
        · rw [if_pos h1, if_pos (by omega)]
          rw [show j - o = (j - (o + 1)) + 1 by omega, List.getElem?_cons_succ]
        · rw [if_neg h1, if_neg (by omega), List.getElem?_set_ne ho]
    · rw [if_neg hj, if_neg hj]

/-- The machine's own laying of cells. -/
theorem fold_get (off : Nat) (vs : List Value) : ∀ (k : Nat) (cs : Array Value) (j : Nat), off + k + vs.length ≤ cs.size →
    ((vs.zipIdx k).foldl (fun cs (p : Value × Nat) => cs.setIfInBounds (off + p.2) p.1) cs)[j]? = (if off + k ≤ j ∧ j < off + k + vs.length then vs[j - (off + k)]? else cs[j]?) ∧
    ((vs.zipIdx k).foldl (fun cs (p : Value × Nat) => cs.setIfInBounds (off + p.2) p.1) cs).size = cs.size := by
  induction vs with
  | nil => intro k cs j _; simp; intro h1 h2; omega
  | cons v vs ih =>
    intro k cs j hle
    simp only [List.zipIdx_cons, List.foldl_cons, List.length_cons]
    have := ih (k + 1) (cs.setIfInBounds (off + k) v) j (by simp at hle ⊢; omega)
    refine ⟨?_, by rw [this.2]; simp⟩
    rw [this.1]
    by_cases ho : j = off + k
    · subst ho
      rw [if_neg (by omega), if_pos (by omega)]
      simp at hle
      simp [show off + k < cs.size by omega]
    · by_cases h1 : off + (k + 1) ≤ j ∧ j < off + (k + 1) + vs.length
      · rw [if_pos h1, if_pos (by omega), show j - (off + k) = (j - (off + (k + 1))) + 1 by omega, List.getElem?_cons_succ]
      · rw [if_neg h1, if_neg (by omega), Array.getElem?_setIfInBounds_ne (by omega)]

theorem fill_rel (hm : Mem c rd mp st nx w) (place place' : Nat → Option (Nat × Nat)) (hp : ∀ i, place i ≠ none → place' i = place i) : ∀ (parts : List (Nat × AV)) (vparts : List (Nat × Value)) (cs : List AV) (vs : Array Value) (out : List AV),
    vs.size = cs.length → (∀ (j : Nat) x v, cs[j]? = some x → vs[j]? = some v → Rel rd mp x v) →
    vparts.length = parts.length → (∀ (j : Nat) p q, parts[j]? = some p → vparts[j]? = some q → p.1 = q.1 ∧ Rel rd mp p.2 q.2) → obT (partsOb st parts) →
    fillO place cs parts = some out → ∃ us, Instr.fill place' vs vparts = some us ∧ us.size = out.length ∧ ∀ (j : Nat) x v, out[j]? = some x → us[j]? = some v → Rel rd mp x v := by
  intro parts
  induction parts with
  | nil =>
    intro vparts cs vs out hs hr hl _ _ ho
    have : vparts = [] := by simpa using hl
    subst this
    simp only [fillO, Option.some.injEq] at ho
    subst ho
    exact ⟨vs, rfl, hs, hr⟩
  | cons p parts ih =>
    intro vparts cs vs out hs hr hl hv hob ho
    cases vparts with
    | nil => simp at hl
    | cons q vparts =>
      obtain ⟨i, x⟩ := p
      obtain ⟨i', v⟩ := q
      obtain ⟨hi, hxv⟩ := hv 0 _ _ rfl rfl
      simp only at hi hxv
      subst hi
      simp only [fillO] at ho
      split at ho
      · rename_i off size hpl
        cases hc : (partOk x && Nat.beq (cellsOf x).length size && Nat.ble (off + size) cs.length) with
        | false => simp [hc] at ho
        | true =>
          simp only [hc, cond_true, frcL1_eq] at ho
          simp only [Bool.and_eq_true, Nat.beq_eq, Nat.ble_eq] at hc
          obtain ⟨⟨h1, h2⟩, h3⟩ := hc
          simp only [partsOb] at hob
          obtain ⟨hob1, hob2⟩ := (obT_andO _ _).1 hob
          obtain ⟨g1, g2⟩ := cells_rel hm hxv h1 hob1
          have hfold := fun j => fold_get off v.cells.toList 0 vs j (by simp; omega)
          have hsz : (v.cells.zipIdx.foldl (fun cs (p : Value × Nat) => cs.setIfInBounds (off + p.2) p.1) vs) = ((v.cells.toList.zipIdx 0).foldl (fun cs (p : Value × Nat) => cs.setIfInBounds (off + p.2) p.1) vs) := by
            rw [← Array.foldl_toList, Array.toList_zipIdx]
          obtain ⟨us, hus, hu1, hu2⟩ := ih vparts (setAll cs off (cellsOf x)) (v.cells.zipIdx.foldl (fun cs (p : Value × Nat) => cs.setIfInBounds (off + p.2) p.1) vs) out
            (by rw [hsz, (hfold 0).2, setAll_length]; exact hs)
            (fun j y u hy hu => by
              rw [hsz, (hfold j).1] at hu
              rw [setAll_get] at hy
              split at hy
              · rename_i hj
                simp only [Nat.add_zero, Array.length_toList] at hu
                by_cases hin : off ≤ j ∧ j < off + (cellsOf x).length
                · rw [if_pos hin] at hy
                  rw [if_pos (by omega)] at hu
                  exact g2 _ _ _ hy (by simpa using hu)
                · rw [if_neg hin] at hy
                  rw [if_neg (by omega)] at hu
                  exact hr _ _ _ hy hu
              · cases hy)
            (by simpa using hl) (fun j p q hp hq => hv (j + 1) p q (by simpa using hp) (by simpa using hq)) hob2 ho
          refine ⟨us, ?_, hu1, hu2⟩
          have hpl' : place' i = some (off, size) := by rw [hp i (by rw [hpl]; simp), hpl]
          simp only [Instr.fill, hpl']
          rw [if_neg (by simp; omega)]
          exact hus
      · cases ho

end Go.Sx
