/- Soundness of the abstract operations, sixth part: stores, structs and slices that are built, append, make. Nothing of a program. -/
import Derived.Test.YtljcikhibikebaaSxS5
import Derived.Maps.AppendAt
namespace Go.Sx
open Go Go.RowKit

variable {P : Program} {T : Nat → TI} {C : Cfg} {c : Ctx} {rd : Rd} {mp : Mp} {st : List (Nat × SO)} {nx : Nat} {w : World} {s : ASt}

theorem cellsOf_part {x : AV} (h : (cellsOf x).all AV.oneOwn = true) : partOk x = true := by
  cases x <;> simp [cellsOf, partOk, AV.oneOwn, AV.one] at h ⊢

/-- The cells of a value that is to be stored: each of one cell. -/
theorem cells_one (hm : Mem c rd mp st nx w) {x : AV} {v : Value} (hr : Rel rd mp x v) (h : (cellsOf x).all AV.oneOwn = true) (hob : obT (ownOb st (cellsOf x))) :
    v.cells.size = (cellsOf x).length ∧ ∀ (j : Nat) y u, (cellsOf x)[j]? = some y → v.cells[j]? = some u → Rel rd mp y u ∧ u.oneCell' = true := by
  have hp : obT (partOb st x) := by
    cases x <;> first | trivial | exact hob
  obtain ⟨h1, h2⟩ := cells_rel hm hr (cellsOf_part h) hp
  refine ⟨h1, fun j y u hy hu => ⟨h2 j y u hy hu, ?_⟩⟩
  have hy' := List.mem_of_getElem? hy
  exact rel_oneOwn hm (h2 j y u hy hu) (List.all_eq_true.1 h y hy') (ownOb_mem hob y hy')

theorem storeVar_run (hT : ∀ t, T t = tab P t) (t : TypeId) (g o : Nat) (v : Value) (hs : v.cells.size = (T t).size) (h1 : 1 ≤ (T t).size) (w : World) :
    (Instr.storeAt t (.pointer (some ⟨g, o, none⟩)) v).run P w = (storeCells ⟨g, o, none⟩ v.cells.toList 0).run P w := by
  obtain ⟨i, hi, hsz, _⟩ := tab_size hT h1
  simp [Instr.storeAt, Instr.sureAddr, storeVar, sizeOf, typeInfo, hi, ← hsz, hs]

/-- A store into a box leaves the store turned. -/
theorem fits_store_box (hT : ∀ t, T t = tab P t) (hm : Mem c rd mp st nx w) (t : TypeId) (b o : Nat) (ty : TypeId) (cs : List AV) (hl : look st b = some (.box ty cs)) (x : AV) (va v : Value) (ha : Rel rd mp (.ptr b o) va) (hx : Rel rd mp x v)
    (h1 : (cellsOf x).length = (T t).size) (h2 : (cellsOf x).all AV.oneOwn = true) (h3 : o + (cellsOf x).length ≤ cs.length) (h4 : 1 ≤ (T t).size) (hob : obT (ownOb st (cellsOf x))) :
    ∃ w', (Instr.storeAt t va v).run P w = .ok () w' ∧ Mem c rd mp (setSt st b (.box ty (setAll cs o (cellsOf x)))) nx w' := by
  obtain ⟨g, hg, rfl⟩ := rel_ptr ha
  obtain ⟨hs, hr⟩ := cells_one hm hx h2 hob
  rw [storeVar_run hT t g o v (by omega) h4]
  obtain ⟨w', hw', hm'⟩ := store_cells (P := P) b ty g (cellsOf x) v.cells.toList o 0 cs st w hm hl hg (by simpa using hs) (fun j y u hy hu => hr j y u hy (by simpa using hu)) (by omega)
  exact ⟨w', hw', by simpa using hm'⟩

theorem setRowAt_mem {r i ep n : Nat} {f : Nat → List AV} {ob : Option Prop} {R : RowV} (hl : rowAt st r i = some (ob, R)) {r' i' : Nat} {R' : RowV} (h : IsMem (setRowAt st r i ep n f) r' i' R') :
    (r' = r ∧ i' = i ∧ R' = ⟨R.ids, R.e, R.sz, ep, n, f⟩) ∨ (¬ (r' = r ∧ i' = i) ∧ IsMem st r' i' R') := by
  unfold rowAt at hl
  split at hl
  · rename_i ids e sz ep0 n0 f0 hk
    simp only [setRowAt, hk] at h
    cases hi : Nat.beq i 0 with
    | false => simp [hi] at hl
    | true =>
      simp only [hi, cond_true, Option.some.injEq, Prod.mk.injEq] at hl
      obtain ⟨rfl, rfl⟩ := hl
      obtain rfl : i = 0 := Nat.eq_of_beq_eq_true hi
      cases h with
      | row h =>
        rw [look_setSt] at h
        by_cases hr : r' = r
        · subst hr; rw [if_pos rfl, hk] at h; cases h; exact .inl ⟨rfl, rfl, rfl⟩
        · rw [if_neg hr] at h; exact .inr ⟨fun e => hr e.1, .row h⟩
      | fam h hi =>
        rw [look_setSt] at h
        by_cases hr : r' = r
        · subst hr; rw [if_pos rfl, hk] at h; cases h
        · rw [if_neg hr] at h; exact .inr ⟨fun e => hr e.1, .fam h hi⟩
  · rename_i e sz cnt eps len fs hk
    simp only [setRowAt, hk] at h
    simp only [Option.some.injEq, Prod.mk.injEq] at hl
    obtain ⟨rfl, rfl⟩ := hl
    cases h with
    | row h =>
      rw [look_setSt] at h
      by_cases hr : r' = r
      · subst hr; rw [if_pos rfl, hk] at h; cases h
      · rw [if_neg hr] at h; exact .inr ⟨fun e => hr e.1, .row h⟩
    | fam h hi =>
      rw [look_setSt] at h
      by_cases hr : r' = r
      · subst hr
        rw [if_pos rfl, hk] at h
        cases h
        by_cases hi' : i' = i
        · subst hi'; exact .inl ⟨rfl, rfl, by simp [upd]⟩
        · refine .inr ⟨fun e => hi' e.2, ?_⟩
          simp only [upd, if_neg hi']
          exact .fam hk hi
      · rw [if_neg hr] at h; exact .inr ⟨fun e => hr e.1, .fam h hi⟩
  · cases hl

theorem setRowAt_box {r i ep n : Nat} {f : Nat → List AV} {b : Nat} {ty : TypeId} {cs : List AV} (h : look (setRowAt st r i ep n f) b = some (.box ty cs)) : look st b = some (.box ty cs) := by
  unfold setRowAt at h
  split at h
  · rename_i hk
    rw [look_setSt] at h
    by_cases hb : b = r
    · subst hb; rw [if_pos rfl, hk] at h; cases h
    · rwa [if_neg hb] at h
  · rename_i hk
    rw [look_setSt] at h
    by_cases hb : b = r
    · subst hb; rw [if_pos rfl, hk] at h; cases h
    · rwa [if_neg hb] at h
  · exact h

theorem setRowAt_ids (hm : Mem c rd mp st nx w) {r i ep n : Nat} {f : Nat → List AV} : ∀ j x, look (setRowAt st r i ep n f) j = some x → j < nx := by
  intro j x h
  unfold setRowAt at h
  split at h
  · rename_i hk
    rw [look_setSt] at h
    by_cases hb : j = r
    · subst hb; exact hm.ids _ _ hk
    · rw [if_neg hb] at h; exact hm.ids _ _ h
  · rename_i hk
    rw [look_setSt] at h
    by_cases hb : j = r
    · subst hb; exact hm.ids _ _ hk
    · rw [if_neg hb] at h; exact hm.ids _ _ h
  · exact hm.ids _ _ h

theorem setRowAt_out (hm : Mem c rd mp st nx w) {r i ep n : Nat} {f : Nat → List AV} {ob : Option Prop} {R : RowV} (hl : rowAt st r i = some (ob, R)) (hob : obT ob) (v : Value) (ep' n' : Nat) :
    ∀ r' e sz cnt eps len fs, look (setRowAt st r i ep n f) r' = some (.fam e sz cnt eps len fs) → ∀ i', cnt ≤ i' → (mp.setRow r i v ep' n').row r' i' = none := by
  intro r' e sz cnt eps len fs h i' hi'
  have key : ∃ eps' len' fs', look st r' = some (.fam e sz cnt eps' len' fs') := by
    unfold setRowAt at h
    split at h
    · rename_i hk
      rw [look_setSt] at h
      by_cases hb : r' = r
      · subst hb; rw [if_pos rfl, hk] at h; cases h
      · rw [if_neg hb] at h; exact ⟨_, _, _, h⟩
    · rename_i hk
      rw [look_setSt] at h
      by_cases hb : r' = r
      · subst hb; rw [if_pos rfl, hk] at h; cases h; exact ⟨_, _, _, hk⟩
      · rw [if_neg hb] at h; exact ⟨_, _, _, h⟩
    · exact ⟨_, _, _, h⟩
  obtain ⟨eps', len', fs', hk⟩ := key
  simp only [Mp.setRow]
  rw [if_neg]
  · exact hm.out _ _ _ _ _ _ _ hk i' hi'
  · rintro ⟨rfl, rfl⟩
    unfold rowAt at hl
    rw [hk] at hl
    simp only [Option.some.injEq, Prod.mk.injEq] at hl
    obtain ⟨rfl, rfl⟩ := hl
    have : i' < cnt := hob
    omega

/-- A row of the store that turns. -/
theorem Mem.turnRow (hm : Mem c rd mp st nx w) {w' : World} {r i ep n : Nat} {f : Nat → List AV} {ob : Option Prop} {R : RowV} (hl : rowAt st r i = some (ob, R)) (hob : obT ob) {v v' : Value} {xs : List Value} (hv : mp.row r i = some (v, R.ep, R.n))
    (hsep : ∀ g, v.ownBlock = some g → (∀ o, rd g o = none) ∧ (c.w0.heap.size ≤ g ∨ c.fx g))
    (hmp : R.ep < ep ∨ (R.ep = ep ∧ (R.n < n ∨ (R.n = n ∧ v = v')))) (hg : w.grownBy w' v.ownBlock) (hown : Owns w' R.e R.sz v' n xs) (hat : v'.ownBlock = v.ownBlock ∨ ∃ g, v'.ownBlock = some g ∧ w.heap.size ≤ g)
    (hf : ∀ k, k < n → (f k).length = R.sz) (hx : ∀ (k j : Nat) x, k < n → (f k)[j]? = some x → ∃ u, xs[k * R.sz + j]? = some u ∧ u.oneCell' = true ∧ Rel rd (mp.sel R.ids) x u) :
    Mp.le mp (mp.setRow r i v' ep n) ∧ Mem c rd (mp.setRow r i v' ep n) (setRowAt st r i ep n f) nx w' := by
  have hmono : ∀ v0 e0 n0, mp.row r i = some (v0, e0, n0) → e0 < ep ∨ (e0 = ep ∧ (n0 < n ∨ (n0 = n ∧ v0 = v'))) := by
    intro v0 e0 n0 h
    rw [hv] at h; cases h
    exact hmp
  have hR := rowAt_mem hl hob
  refine ⟨Mp.le_setRow hmono, ?_⟩
  exact hm.setMem r i ⟨R.ids, R.e, R.sz, ep, n, f⟩ v' xs v.ownBlock (hm.mem_alone hR hv) (fun g hg' => ⟨(hsep g hg').2, (hsep g hg').1⟩) hmono hg hown hat hf hx (fun b ty cs => setRowAt_box)
    (fun r' i' R' h => setRowAt_mem hl h) (Nat.le_refl _) (setRowAt_ids hm) (isMem_lt hm hR) (setRowAt_out hm hl hob v' ep n)

theorem cellOk_one {ids : List Nat} {y : AV} (h : cellOk ids y = true) : y.oneOwn = true := by
  cases y <;> simp_all [cellOk, AV.oneOwn, AV.one]

theorem cellOk_rel {ids : List Nat} {y : AV} {u : Value} (h : cellOk ids y = true) (hr : Rel rd mp y u) : Rel rd (mp.sel ids) y u := by
  cases hr with
  | own _ r i e n v vr er nr h1 h2 h3 h4 =>
    have : r ∈ ids := by
      simp only [cellOk, List.any_eq_true] at h
      obtain ⟨x, hx, he⟩ := h
      rw [Nat.eq_of_beq_eq_true he]; exact hx
    exact .own _ _ _ _ _ _ vr er nr (by simp [Mp.sel, this, h1]) h2 h3 h4
  | _ => first
    | (simp [cellOk, AV.one] at h; done)
    | (simp [cellOk, AV.pure1] at h; done)
    | (constructor <;> assumption)
    | constructor

/-- A store into a row of the call's own. -/
theorem fits_store_row (hT : ∀ t, T t = tab P t) (hm : Mem c rd mp st nx w) (t : TypeId) {r i e n sz k o : Nat} {ob : Option Prop} {R : RowV} (hl : rowAt st r i = some (ob, R)) (hob : obT ob) (hnow : e = R.ep ∧ n = R.n) (x : AV) (va v : Value) (ha : Rel rd mp (.eptr r i e n sz k o) va) (hx : Rel rd mp x v)
    (hsz : sz = R.sz) (h1 : (cellsOf x).length = (T t).size) (h2 : (cellsOf x).all (cellOk R.ids) = true) (hown : obT (ownOb st (cellsOf x))) (h3 : o + (cellsOf x).length ≤ R.sz) (h4 : 1 ≤ (T t).size) (hk : k < n) :
    ∃ w' mp', (Instr.storeAt t va v).run P w = .ok () w' ∧ Mp.le mp mp' ∧ Mem c rd mp' (setRowAt st r i R.ep R.n (fun j => if j = k then setAll (R.f k) o (cellsOf x) else R.f j)) nx w' := by
  subst hsz
  obtain ⟨hne, hnn⟩ := hnow
  subst hnn
  have hone : (cellsOf x).all AV.oneOwn = true := by
    rw [List.all_eq_true] at h2 ⊢
    exact fun y hy => cellOk_one (h2 y hy)
  obtain ⟨hs, hr⟩ := cells_one hm hx hone hown
  obtain ⟨v0, xs, g1, g2, g3, g4, g5⟩ := hm.mb r i R (rowAt_mem hl hob)
  obtain ⟨vr, er, nr, e1, e2, e3, e4⟩ := rel_eptr ha
  rw [g1] at e1; cases e1
  obtain ⟨g, lo, cap, rfl, rfl⟩ := e4 hne rfl
  rw [storeVar_run hT t g (lo + (k * R.sz + o)) v (by omega) h4]
  rcases g2.2 with ⟨hnil, _⟩ | ⟨g', lo', cap', cur, hv, hheap, hnc, hcm, hcs, htake⟩
  · cases hnil
  · simp only [Value.slice.injEq, Option.some.injEq, Addr.mk.injEq, and_true, true_and] at hv
    obtain ⟨⟨rfl, rfl⟩, rfl⟩ := hv
    have hisz : k * R.sz + R.sz ≤ R.n * R.sz := by
      have : (k + 1) * R.sz ≤ R.n * R.sz := Nat.mul_le_mul_right R.sz hk
      rwa [Nat.succ_mul] at this
    have hnsz : R.n * R.sz ≤ cap * R.sz := Nat.mul_le_mul_right R.sz hnc
    have hlen : v.cells.toList.length = (cellsOf x).length := by simpa using hs
    have hst := run_storeCells_at P g (lo + (k * R.sz + o)) R.e v.cells.toList 0 cur w hheap (by rw [hlen]; omega)
      (fun u hu => by
        obtain ⟨j, hj⟩ := List.mem_iff_getElem?.1 hu
        have hjl : j < (cellsOf x).length := by rw [← hlen]; exact (List.getElem?_eq_some_iff.1 hj).1
        exact (hr j _ u (List.getElem?_eq_getElem hjl) (by simpa using hj)).2)
    simp only [Nat.add_zero] at hst
    have hcl : cur.toList.length = cur.size := by simp
    let cur' := cur.toList.take (lo + (k * R.sz + o)) ++ v.cells.toList ++ cur.toList.drop (lo + (k * R.sz + o) + v.cells.toList.length)
    have hcur' : cur'.length = cur.size := by
      simp only [cur', List.length_append, List.length_take, List.length_drop, hcl, hlen]
      omega
    have hwg : w.grownBy (w.setRow g cur'.toArray) (some g) :=
      ⟨rfl, rfl, rfl, by simp [World.setRow], fun j hj hne => by simp only [World.setRow, Array.getElem?_modify]; rw [if_neg (by rintro rfl; exact hne rfl)]⟩
    have hheap' : (w.setRow g cur'.toArray).heap[g]? = some (.cells cur'.toArray R.e (0, 0)) := by
      simp [World.setRow, Array.getElem?_modify, hheap]
    have hget : ∀ j, cur'[j]? = if lo + (k * R.sz + o) ≤ j ∧ j < lo + (k * R.sz + o) + (cellsOf x).length then v.cells.toList[j - (lo + (k * R.sz + o))]? else cur.toList[j]? := by
      intro j
      simp only [cur', List.append_assoc]
      by_cases hlo : j < lo + (k * R.sz + o)
      · rw [List.getElem?_append_left (by rw [List.length_take, hcl]; omega), List.getElem?_take, if_pos hlo, if_neg (by omega)]
      · rw [List.getElem?_append_right (by rw [List.length_take, hcl]; omega), List.length_take, hcl, Nat.min_eq_left (by omega)]
        by_cases hin : j < lo + (k * R.sz + o) + (cellsOf x).length
        · rw [List.getElem?_append_left (by omega), if_pos (by omega)]
        · rw [List.getElem?_append_right (by omega), List.getElem?_drop, if_neg (by omega)]
          congr 1; omega
    have hturn := hm.turnRow (w' := w.setRow g cur'.toArray) (ep := R.ep) (n := R.n) (f := fun j => if j = k then setAll (R.f k) o (cellsOf x) else R.f j) hl hob (v' := .slice (some ⟨g, lo, none⟩) R.n cap) (xs := (cur'.drop lo).take (R.n * R.sz)) g1 g5 (.inr ⟨rfl, .inr ⟨rfl, rfl⟩⟩) hwg
      ⟨by rw [List.length_take, List.length_drop, hcur']; omega, .inr ⟨g, lo, cap, cur'.toArray, rfl, hheap', hnc, hcm, by rw [List.size_toArray, hcur']; exact hcs, rfl⟩⟩ (.inl rfl) (fun j hj => ?_) (fun j l y hj hy => ?_)
    · exact ⟨_, _, hst, hturn⟩
    · by_cases h : j = k
      · subst h; simp [setAll_length, g3 j hj]
      · simp [h, g3 j hj]
    · have hjsz : l < R.sz := by
        have : l < (if j = k then setAll (R.f k) o (cellsOf x) else R.f j).length := (List.getElem?_eq_some_iff.1 hy).1
        by_cases h : j = k
        · rw [if_pos h, setAll_length, g3 k hk] at this; exact this
        · rw [if_neg h, g3 j hj] at this; exact this
      have hi'sz : j * R.sz + R.sz ≤ R.n * R.sz := by
        have : (j + 1) * R.sz ≤ R.n * R.sz := Nat.mul_le_mul_right R.sz hj
        rwa [Nat.succ_mul] at this
      rw [List.getElem?_take, if_pos (by omega), List.getElem?_drop, hget]
      have hold : ∀ z, (R.f j)[l]? = some z → ∃ u, cur.toList[lo + (j * R.sz + l)]? = some u ∧ u.oneCell' = true ∧ Rel rd (mp.sel R.ids) z u := by
        intro z hz
        obtain ⟨u, hu, hu1, hu2⟩ := g4 j l z hj hz
        rw [← htake, List.getElem?_take, if_pos (by omega), List.getElem?_drop] at hu
        exact ⟨u, hu, hu1, hu2⟩
      by_cases h : j = k
      · subst h
        simp only [if_pos] at hy
        rw [setAll_get, g3 j hk, if_pos hjsz] at hy
        by_cases hin : o ≤ l ∧ l < o + (cellsOf x).length
        · rw [if_pos hin] at hy
          rw [if_pos (by omega), show lo + (j * R.sz + l) - (lo + (j * R.sz + o)) = l - o by omega]
          have hjl : l - o < v.cells.toList.length := by omega
          obtain ⟨hr1, hr2⟩ := hr (l - o) y v.cells.toList[l - o] hy (by simp)
          exact ⟨_, List.getElem?_eq_getElem hjl, hr2, cellOk_rel (List.all_eq_true.1 h2 y (List.mem_of_getElem? hy)) hr1⟩
        · rw [if_neg hin] at hy
          rw [if_neg (by omega)]
          exact hold y hy
      · simp only [if_neg h] at hy
        rw [if_neg]
        · exact hold y hy
        · rintro ⟨ha, hb⟩
          by_cases hlo : j < k
          · have : j * R.sz + R.sz ≤ k * R.sz := by
              have : (j + 1) * R.sz ≤ k * R.sz := Nat.mul_le_mul_right R.sz hlo
              rwa [Nat.succ_mul] at this
            omega
          · have : k * R.sz + R.sz ≤ j * R.sz := by
              have : (k + 1) * R.sz ≤ j * R.sz := Nat.mul_le_mul_right R.sz (by omega)
              rwa [Nat.succ_mul] at this
            omega

end Go.Sx
