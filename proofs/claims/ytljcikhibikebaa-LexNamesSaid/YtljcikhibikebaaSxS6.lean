/- Soundness of the abstract operations, sixth part: stores, structs and slices that are built, append, make. Nothing of a program. -/
import Derived.Test.YtljcikhibikebaaSxS5
import Derived.Maps.AppendAt
namespace Go.Sx
open Go Go.RowKit

variable {P : Program} {T : Nat → TI} {C : Cfg} {c : Ctx} {rd : Rd} {mp : Mp} {st : List (Nat × SO)} {nx : Nat} {w : World} {s : ASt}

theorem cellsOf_part {x : AV} (h : (cellsOf x).all AV.oneOwn = true) : partOk x = true := by
  cases x <;> simp [cellsOf, partOk, AV.oneOwn, AV.one] at h ⊢

/-- The cells of a value that is to be stored: each of one cell. -/
theorem cells_one (hm : Mem c rd mp st nx w) {x : AV} {v : Value} (hr : Rel rd mp x v) (h : (cellsOf x).all AV.oneOwn = true) (hob : obT (ownOb st (cellsOf x))) :
    v.cells.size = (cellsOf x).length ∧ ∀ (j : Nat) y u, (cellsOf x)[j]? = some y → v.cells[j]? = some u → Rel rd mp y u ∧ u.oneCell' = true := by
  have hp : obT (partOb st x) := by
    cases x <;> first | trivial | exact hob
  obtain ⟨h1, h2⟩ := cells_rel hm hr (cellsOf_part h) hp
  refine ⟨h1, fun j y u hy hu => ⟨h2 j y u hy hu, ?_⟩⟩
  have hy' := List.mem_of_getElem? hy
  exact rel_oneOwn hm (h2 j y u hy hu) (List.all_eq_true.1 h y hy') (ownOb_mem hob y hy')

theorem storeVar_run (hT : ∀ t, T t = tab P t) (t : TypeId) (g o : Nat) (v : Value) (hs : v.cells.size = (T t).size) (h1 : 1 ≤ (T t).size) (w : World) :
    (Instr.storeAt t (.pointer (some ⟨g, o, none⟩)) v).run P w = (storeCells ⟨g, o, none⟩ v.cells.toList 0).run P w := by
  obtain ⟨i, hi, hsz, _⟩ := tab_size hT h1
  simp [Instr.storeAt, Instr.sureAddr, storeVar, sizeOf, typeInfo, hi, ← hsz, hs]

/-- A store into a box leaves the store turned. -/
theorem fits_store_box (hT : ∀ t, T t = tab P t) (hm : Mem c rd mp st nx w) (t : TypeId) (b o : Nat) (ty : TypeId) (cs : List AV) (hl : look st b = some (.box ty cs)) (x : AV) (va v : Value) (ha : Rel rd mp (.ptr b o) va) (hx : Rel rd mp x v)
    (h1 : (cellsOf x).length = (T t).size) (h2 : (cellsOf x).all AV.oneOwn = true) (h3 : o + (cellsOf x).length ≤ cs.length) (h4 : 1 ≤ (T t).size) (hob : obT (ownOb st (cellsOf x))) :
    ∃ w', (Instr.storeAt t va v).run P w = .ok () w' ∧ Mem c rd mp (setSt st b (.box ty (setAll cs o (cellsOf x)))) nx w' := by
  obtain ⟨g, hg, rfl⟩ := rel_ptr ha
  obtain ⟨hs, hr⟩ := cells_one hm hx h2 hob
  rw [storeVar_run hT t g o v (by omega) h4]
  obtain ⟨w', hw', hm'⟩ := store_cells (P := P) b ty g (cellsOf x) v.cells.toList o 0 cs st w hm hl hg (by simpa using hs) (fun j y u hy hu => hr j y u hy (by simpa using hu)) (by omega)
  exact ⟨w', hw', by simpa using hm'⟩

/-- A store into a row of the call's own. -/
theorem fits_store_row (hT : ∀ t, T t = tab P t) (hm : Mem c rd mp st nx w) (t : TypeId) (r n sz i o : Nat) (e : TypeId) (f : Nat → List AV) (hl : look st r = some (.row e sz n f)) (x : AV) (va v : Value) (ha : Rel rd mp (.eptr r n sz i o) va) (hx : Rel rd mp x v)
    (h1 : (cellsOf x).length = (T t).size) (h2 : (cellsOf x).all (fun y => y.one && y.pure1) = true) (h3 : o + (cellsOf x).length ≤ sz) (h4 : 1 ≤ (T t).size) (hi : i < n) :
    ∃ w' mp', (Instr.storeAt t va v).run P w = .ok () w' ∧ Mp.le mp mp' ∧ Mem c rd mp' (setSt st r (.row e sz n (fun j => if j = i then setAll (f i) o (cellsOf x) else f j))) nx w' := by
  have hone : (cellsOf x).all AV.oneOwn = true := by
    rw [List.all_eq_true] at h2 ⊢
    intro y hy
    have := h2 y hy
    simp only [Bool.and_eq_true] at this
    cases y <;> simp_all [AV.oneOwn, AV.one]
  have hnoown : obT (ownOb st (cellsOf x)) := by
    have : ∀ l : List AV, l.all (fun y => y.one && y.pure1) = true → obT (ownOb st l) := by
      intro l
      induction l with
      | nil => intro _; trivial
      | cons y l ih =>
        intro h
        simp only [List.all_cons, Bool.and_eq_true] at h
        cases y <;> first | exact ih h.2 | (simp [AV.one] at h; done)
    exact this _ h2
  obtain ⟨hs, hr⟩ := cells_one hm hx hone hnoown
  obtain ⟨v0, xs, g1, g2, g3, g4, g5⟩ := hm.so r _ hl
  obtain ⟨vr, nr, e1, e2, e3⟩ := rel_eptr ha
  rw [g1] at e1; cases e1
  obtain ⟨g, cap, rfl, rfl⟩ := e3 rfl
  rw [storeVar_run hT t g (i * sz + o) v (by omega) h4]
  rcases g2.2 with ⟨hnil, _⟩ | ⟨g', cap', cur, hv, hbase, hheap, hnc, hcm, hcs, htake⟩
  · cases hnil
  · simp only [Value.slice.injEq, Option.some.injEq, Addr.mk.injEq, and_true, true_and] at hv
    obtain ⟨rfl, rfl⟩ := hv
    have hisz : i * sz + sz ≤ n * sz := by
      have : (i + 1) * sz ≤ n * sz := Nat.mul_le_mul_right sz hi
      rwa [Nat.succ_mul] at this
    have hnsz : n * sz ≤ cap * sz := Nat.mul_le_mul_right sz hnc
    have hlen : v.cells.toList.length = (cellsOf x).length := by simpa using hs
    have hst := run_storeCells_at P g (i * sz + o) e v.cells.toList 0 cur w hheap (by rw [hlen, hcs]; omega)
      (fun u hu => by
        obtain ⟨j, hj⟩ := List.mem_iff_getElem?.1 hu
        have hjl : j < (cellsOf x).length := by rw [← hlen]; exact (List.getElem?_eq_some_iff.1 hj).1
        exact (hr j _ u (List.getElem?_eq_getElem hjl) (by simpa using hj)).2)
    simp only [Nat.add_zero] at hst
    refine ⟨_, mp.setRow r (.slice (some ⟨g, 0, none⟩) n cap) n, hst, Mp.le_setRow (fun v1 n1 h => by rw [g1] at h; cases h; exact .inr ⟨rfl, rfl⟩), ?_⟩
    have hlook : ∀ i' y, look (setSt st r (.row e sz n (fun j => if j = i then setAll (f i) o (cellsOf x) else f j))) i' = some y → (i' = r ∧ y = .row e sz n (fun j => if j = i then setAll (f i) o (cellsOf x) else f j)) ∨ (i' ≠ r ∧ look st i' = some y) := by
      intro i' y hy
      rw [look_setSt] at hy
      by_cases hi' : i' = r
      · subst hi'; rw [if_pos rfl, hl] at hy; cases hy; exact .inl ⟨rfl, rfl⟩
      · rw [if_neg hi'] at hy; exact .inr ⟨hi', hy⟩
    have hwg : w.grownBy (w.setRow g (cur.toList.take (i * sz + o) ++ v.cells.toList ++ cur.toList.drop (i * sz + o + v.cells.toList.length)).toArray) (some g) :=
      ⟨rfl, rfl, rfl, by simp [World.setRow], fun k hk hne => by simp only [World.setRow, Array.getElem?_modify]; rw [if_neg (by rintro rfl; exact hne rfl)]⟩
    have hheap' : (w.setRow g (cur.toList.take (i * sz + o) ++ v.cells.toList ++ cur.toList.drop (i * sz + o + v.cells.toList.length)).toArray).heap[g]? =
        some (.cells (cur.toList.take (i * sz + o) ++ v.cells.toList ++ cur.toList.drop (i * sz + o + v.cells.toList.length)).toArray e (0, 0)) := by
      simp [World.setRow, Array.getElem?_modify, hheap]
    have hcl : cur.toList.length = cap * sz := by simpa using hcs
    let cur' := cur.toList.take (i * sz + o) ++ v.cells.toList ++ cur.toList.drop (i * sz + o + v.cells.toList.length)
    have hcur' : cur'.length = cap * sz := by
      simp only [cur', List.length_append, List.length_take, List.length_drop, hcl, hlen]
      omega
    refine hm.setRow r e sz n _ (.slice (some ⟨g, 0, none⟩) n cap) (cur'.take (n * sz)) (some g) (fun i' y hy hne g' hg' => ?_) (fun g' hg' => ?_) (fun v1 n1 h => by rw [g1] at h; cases h; exact .inr ⟨rfl, rfl⟩) hwg
      ⟨by rw [List.length_take, hcur']; omega, .inr ⟨g, cap, cur'.toArray, rfl, hbase, hheap', hnc, hcm, by simpa using hcur', rfl⟩⟩ (.inl rfl) (fun i' hi' => ?_) (fun i' j y hi' hy => ?_) _ nx hlook (Nat.le_refl _) (hm.ids r _ hl)
    · exact hm.row_alone hl g1 i' y hy hne g' hg'
    · cases hg'; exact ⟨hbase, fun o' => g5 g rfl o'⟩
    · by_cases h : i' = i
      · subst h; simp [setAll_length, g3 i' hi']
      · simp [h, g3 i' hi']
    · have hjsz : j < sz := by
        have : j < (if i' = i then setAll (f i) o (cellsOf x) else f i').length := (List.getElem?_eq_some_iff.1 hy).1
        by_cases h : i' = i
        · rw [if_pos h, setAll_length, g3 i hi] at this; exact this
        · rw [if_neg h, g3 i' hi'] at this; exact this
      have hi'sz : i' * sz + sz ≤ n * sz := by
        have : (i' + 1) * sz ≤ n * sz := Nat.mul_le_mul_right sz hi'
        rwa [Nat.succ_mul] at this
      have hget : (cur'.take (n * sz))[i' * sz + j]? = cur'[i' * sz + j]? := by rw [List.getElem?_take, if_pos (by omega)]
      rw [hget]
      have hold : ∀ z, (f i')[j]? = some z → ∃ u, cur.toList[i' * sz + j]? = some u ∧ u.oneCell' = true ∧ Rel rd Mp.none z u := by
        intro z hz
        obtain ⟨u, hu, hu1, hu2⟩ := g4 i' j z hi' hz
        rw [← htake, List.getElem?_take, if_pos (by omega)] at hu
        exact ⟨u, hu, hu1, hu2⟩
      by_cases h : i' = i
      · subst h
        simp only [if_pos] at hy
        rw [setAll_get, g3 i' hi, if_pos hjsz] at hy
        by_cases hin : o ≤ j ∧ j < o + (cellsOf x).length
        · rw [if_pos hin] at hy
          have hjl : j - o < v.cells.toList.length := by omega
          have hc : cur'[i' * sz + j]? = some v.cells.toList[j - o] := by
            simp only [cur', List.append_assoc]
            rw [List.getElem?_append_right (by rw [List.length_take, hcl]; omega), List.length_take, hcl, Nat.min_eq_left (by omega),
              List.getElem?_append_left (by omega), show i' * sz + j - (i' * sz + o) = j - o by omega]
            exact List.getElem?_eq_getElem hjl
          obtain ⟨hr1, hr2⟩ := hr (j - o) y v.cells.toList[j - o] hy (by simp)
          refine ⟨_, hc, hr2, hr1.pure1 ?_⟩
          have := List.all_eq_true.1 h2 y (List.mem_of_getElem? hy)
          simp only [Bool.and_eq_true] at this
          exact this.2
        · rw [if_neg hin] at hy
          obtain ⟨u, hu, hu1, hu2⟩ := hold y hy
          refine ⟨u, ?_, hu1, hu2⟩
          rw [← hu]
          simp only [cur', List.append_assoc]
          by_cases hlo : j < o
          · rw [List.getElem?_append_left (by rw [List.length_take, hcl]; omega), List.getElem?_take, if_pos (by omega)]
          · rw [List.getElem?_append_right (by rw [List.length_take, hcl]; omega), List.length_take, hcl, Nat.min_eq_left (by omega),
              List.getElem?_append_right (by omega), List.getElem?_drop]
            congr 1; omega
      · simp only [if_neg h] at hy
        obtain ⟨u, hu, hu1, hu2⟩ := hold y hy
        refine ⟨u, ?_, hu1, hu2⟩
        rw [← hu]
        simp only [cur', List.append_assoc]
        by_cases hlo : i' < i
        · have : i' * sz + sz ≤ i * sz := by
            have : (i' + 1) * sz ≤ i * sz := Nat.mul_le_mul_right sz hlo
            rwa [Nat.succ_mul] at this
          rw [List.getElem?_append_left (by rw [List.length_take, hcl]; omega), List.getElem?_take, if_pos (by omega)]
        · have : i * sz + sz ≤ i' * sz := by
            have : (i + 1) * sz ≤ i' * sz := Nat.mul_le_mul_right sz (by omega)
            rwa [Nat.succ_mul] at this
          rw [List.getElem?_append_right (by rw [List.length_take, hcl]; omega), List.length_take, hcl, Nat.min_eq_left (by omega),
            List.getElem?_append_right (by omega), List.getElem?_drop]
          congr 1; omega

end Go.Sx
