/- Soundness of the abstract operations, seventh part: structs and slices that are built, append, make, len and their kin. Nothing of a program. -/
import Derived.Test.YtljcikhibikebaaSxS6
namespace Go.Sx
open Go Go.RowKit

variable {P : Program} {T : Nat → TI} {C : Cfg} {c : Ctx} {rd : Rd} {mp : Mp} {st : List (Nat × SO)} {nx : Nat} {w : World} {s : ASt}

theorem rel_zero {e : TypeId} {z : Value} (hz : (T e).zero = z.cells.toList.map ofVal1) : ∀ (j : Nat) x v, (T e).zero[j]? = some x → z.cells[j]? = some v → Rel rd mp x v := by
  intro j x v hx hv
  rw [hz] at hx
  simp at hx
  obtain ⟨u, hu, rfl⟩ := hx
  rw [hv] at hu; cases hu
  exact rel_ofVal1 rd mp v

theorem places_some (hT : ∀ t, T t = tab P t) : ∀ (fs : List Field), (fs.map fun f => (f.offset, f.type)).all (fun p => Nat.ble 1 (T p.2).size) = true →
    fs.mapM (fun f => (P.info? f.type).map fun i => (f.offset, i.size)) = some (fs.map fun f => (f.offset, (T f.type).size)) := by
  intro fs
  induction fs with
  | nil => intro _; rfl
  | cons f fs ih =>
    intro h
    simp only [List.map_cons, List.all_cons, Bool.and_eq_true, Nat.ble_eq] at h
    obtain ⟨i, hi, hs, _⟩ := tab_size hT h.1
    simp [List.mapM_cons, hi, ih h.2, hs]

theorem fits_build (hT : ∀ t, T t = tab P t) (hm : Mem c rd mp st nx w) (t : TypeId) (parts : List (Nat × AV)) (vparts : Array (Nat × Value)) (hl : vparts.size = parts.length)
    (hv : ∀ (j : Nat) p q, parts[j]? = some p → vparts[j]? = some q → p.1 = q.1 ∧ Rel rd mp p.2 q.2) : Fits P c rd mp st nx w (buildO T st t parts) (Instr.build t vparts) := by
  unfold buildO
  split
  · rename_i fs hk
    cases hc : (Nat.ble 1 (T t).size && Nat.beq (T t).zero.length (T t).size && fs.all (fun p => Nat.ble 1 (T p.2).size)) with
    | false => trivial
    | true =>
      simp only [cond_true]
      simp only [Bool.and_eq_true, Nat.beq_eq, Nat.ble_eq] at hc
      obtain ⟨⟨h1, h2⟩, h3⟩ := hc
      split
      · rename_i cs hf
        intro hob
        obtain ⟨i, z, hi, hz, _, _, hzs, hzz⟩ := zero_parts hT h1 h2
        obtain ⟨fields, hd, rfl⟩ := tab_struct hT hk
        obtain ⟨us, hus, hu1, hu2⟩ := fill_rel hm (placeS T (fields.toList.map fun f => (f.offset, f.type))) (fun i => (fields.toList.map fun f => (f.offset, (T f.type).size)).toArray[i]?)
          (fun i _ => by simp [placeS]; rfl) parts vparts.toList (T t).zero z.cells cs (by rw [hzz]; simp) (rel_zero hzz) (by simpa using hl) (fun j p q hp hq => hv j p q hp (by simpa using hq)) hob hf
        refine .here hm (x := .agg us) (run_build w t vparts us ?_) (.agg _ _ _ hu1 hu2)
        simp only [Program.built, hi, hd, hz, places_some hT _ h3]
        exact hus
      · trivial
  · rename_i n e hk
    cases hc : (Nat.ble 1 (T t).size && Nat.beq (T t).zero.length (T t).size && Nat.ble 1 (T e).size) with
    | false => trivial
    | true =>
      simp only [cond_true]
      simp only [Bool.and_eq_true, Nat.beq_eq, Nat.ble_eq] at hc
      obtain ⟨⟨h1, h2⟩, h3⟩ := hc
      split
      · rename_i cs hf
        intro hob
        obtain ⟨i, z, hi, hz, _, _, hzs, hzz⟩ := zero_parts hT h1 h2
        obtain ⟨ie, hie, hes, _⟩ := tab_size hT h3
        obtain ⟨us, hus, hu1, hu2⟩ := fill_rel hm (fun i => some (i * (T e).size, (T e).size)) (fun i => some (i * ie.size, ie.size))
          (fun i _ => by rw [hes]) parts vparts.toList (T t).zero z.cells cs (by rw [hzz]; simp) (rel_zero hzz) (by simpa using hl) (fun j p q hp hq => hv j p q hp (by simpa using hq)) hob hf
        refine .here hm (x := .agg us) (run_build w t vparts us ?_) (.agg _ _ _ hu1 hu2)
        simp only [Program.built, hi, tab_array hT hk, hz, hie]
        exact hus
      · trivial
  · trivial

theorem zeros_length (z : List AV) (n : Nat) : (zeros z n).length = n * z.length := by
  induction n with
  | zero => simp [zeros]
  | succ n ih => simp [zeros, ih, Nat.succ_mul]; omega

theorem zeros_get (z : List AV) : ∀ (n j : Nat), j < n * z.length → (zeros z n)[j]? = z[j % z.length]? := by
  intro n
  induction n with
  | zero => intro j hj; omega
  | succ n ih =>
    intro j hj
    rw [Nat.succ_mul] at hj
    simp only [zeros]
    by_cases h : j < z.length
    · rw [List.getElem?_append_left h, Nat.mod_eq_of_lt h]
    · rw [List.getElem?_append_right (by omega), ih _ (by omega), Nat.mod_eq_sub_mod (by omega : z.length ≤ j)]

theorem build_core (hT : ∀ t, T t = tab P t) (hm : Mem c rd mp st nx w) (t : TypeId) (len : Nat) (parts : List (Nat × AV)) (vparts : Array (Nat × Value)) (hl : vparts.size = parts.length)
    (hv : ∀ (j : Nat) p q, parts[j]? = some p → vparts[j]? = some q → p.1 = q.1 ∧ Rel rd mp p.2 q.2) {ob : Option Prop} {y : AV} (h : buildSliceO T st t len parts = .ok ob y) (hob : obT ob) :
    ∃ e us f, (T t).kd = .slice e ∧ y = .slc (T e).size len f ∧ 1 ≤ (T e).size ∧ len * (T e).size ≤ 16777216 ∧ (Instr.buildSlice t len vparts).run P w = .ok (.slice (some ⟨w.heap.size, 0, none⟩) len len) (w.alloc (.cells us e)) ∧
      us.size = len * (T e).size ∧ (∀ v ∈ us, v.oneCell' = true) ∧ (∀ i, i < len → (f i).length = (T e).size) ∧
      ∀ (i j : Nat) x, i < len → (f i)[j]? = some x → ∃ u, us[i * (T e).size + j]? = some u ∧ Rel rd Mp.none x u := by
  unfold buildSliceO at h
  split at h
  · rename_i e hk
    cases hc : (Nat.ble 1 (T e).size && Nat.ble (len * (T e).size) 16777216 && Nat.beq (T e).zero.length (T e).size) with
    | false => simp [hc] at h
    | true =>
      simp only [hc, cond_true] at h
      simp only [Bool.and_eq_true, Nat.beq_eq, Nat.ble_eq] at hc
      obtain ⟨⟨h1, h2⟩, h3⟩ := hc
      split at h
      · rename_i cs hf
        rw [frcL1_eq, frcN_eq] at h
        cases hone : cs.all (fun y => y.one && y.pure1) with
        | false => simp [hone] at h
        | true =>
          simp only [hone, cond_true, OR.ok.injEq] at h
          obtain ⟨rfl, rfl⟩ := h
          obtain ⟨i, z, hi, hz, hsz, _, hzs, hzz⟩ := zero_parts hT h1 h3
          let zc : Array Value := (Array.range (len * (T e).size)).map (fun q => z.cells[q % z.cells.size]!)
          have hzc : zc.size = len * (T e).size := by simp [zc]
          have hzr : ∀ (j : Nat) x v, (zeros (T e).zero len)[j]? = some x → zc[j]? = some v → Rel rd mp x v := by
            intro j x v hx hv'
            have hj : j < len * (T e).size := by rw [← hzc]; exact (Array.getElem?_eq_some_iff.1 hv').1
            rw [zeros_get _ _ _ (by rw [h3]; exact hj), h3] at hx
            have hm' : j % z.cells.size < z.cells.size := Nat.mod_lt _ (by omega)
            simp only [zc, Array.getElem?_map, Array.getElem?_range] at hv'
            rw [if_pos hj] at hv'
            simp only [Option.map_some, Option.some.injEq] at hv'
            rw [getElem!_pos z.cells _ hm'] at hv'
            exact rel_zero hzz (j % (T e).size) x v hx (by rw [← hv', ← hzs]; simp [hm'])
          obtain ⟨us, hus, hu1, hu2⟩ := fill_rel hm (fun i => some (i * (T e).size, (T e).size)) (fun k => some (k * i.size, i.size))
            (fun k _ => by rw [hsz]) parts vparts.toList (zeros (T e).zero len) zc cs (by rw [zeros_length, h3]; exact hzc) hzr (by simpa using hl) (fun j p q hp hq => hv j p q hp (by simpa using hq)) hob hf
          have hfl : ∀ (ps : List (Nat × AV)) (cs out : List AV), fillO (fun i => some (i * (T e).size, (T e).size)) cs ps = some out → out.length = cs.length := by
            intro ps
            induction ps with
            | nil => intro cs out h; simp only [fillO, Option.some.injEq] at h; rw [h]
            | cons p ps ih =>
              intro cs out h
              obtain ⟨i, x⟩ := p
              simp only [fillO, frcL1_eq] at h
              cases hc : (partOk x && Nat.beq (cellsOf x).length (T e).size && Nat.ble (i * (T e).size + (T e).size) cs.length) with
              | false => simp [hc] at h
              | true => simp only [hc, cond_true] at h; rw [ih _ _ h, setAll_length]
          have hcsl : cs.length = len * (T e).size := by rw [hfl _ _ _ hf, zeros_length, h3]
          have hus1 : ∀ v ∈ us, v.oneCell' = true := by
            intro v hv'
            obtain ⟨j, hj⟩ := Array.mem_iff_getElem?.1 hv'
            have hjl : j < cs.length := by rw [← hu1]; exact (Array.getElem?_eq_some_iff.1 hj).1
            have hmem := List.all_eq_true.1 hone cs[j] (List.getElem_mem hjl)
            simp only [Bool.and_eq_true] at hmem
            exact rel_one (hu2 j cs[j] v (List.getElem?_eq_getElem hjl) hj) hmem.1
          have hidx : ∀ i j, i < len → j < (T e).size → i * (T e).size + j < us.size := by
            intro i j hi' hj
            have : (i + 1) * (T e).size ≤ len * (T e).size := Nat.mul_le_mul_right _ hi'
            rw [Nat.succ_mul] at this
            omega
          refine ⟨e, us, chop (T e).size cs, hk, rfl, h1, h2, ?_, by omega, hus1, fun i hi' => ?_, fun i j x hi' hx => ?_⟩
          · have hz0 : ¬ len * i.size > 2 ^ 24 := by rw [hsz]; omega
            by_cases hlen : len = 0
            · subst hlen
              have hzc0 : zc = #[] := by
                apply Array.eq_empty_of_size_eq_zero
                simpa using hzc
              rw [hzc0] at hus
              simp [Instr.buildSlice, run_underlying (tab_slice hT hk), sizeOf, typeInfo, hi, newRow]
              rw [show Array.map (fun _ : Nat => (default : Value)) (Array.range 0) = #[] from Array.eq_empty_of_size_eq_zero (by simp), hus]
              rfl
            · have hne : ¬ len * i.size = 0 := by
                have : 0 < len * i.size := Nat.mul_pos (by omega) (by omega)
                omega
              have hzc' : (Array.range (len * i.size)).map (fun q => z.cells[q % z.cells.size]!) = zc := by simp only [zc, hsz]
              simp only [Instr.buildSlice, Sem.run_bind, run_underlying (tab_slice hT hk), Result.andThen_ok, sizeOf, typeInfo, run_program, hi, Sem.run_pure, hz0, if_false, hne, zeroValue, hz, hzc', hus, newRow]
              rfl
          · have := hidx i ((T e).size - 1) hi' (by omega)
            simp only [chop, List.length_take, List.length_drop]
            omega
          · simp only [chop] at hx
            rw [List.getElem?_take] at hx
            split at hx
            · rename_i hj
              rw [List.getElem?_drop] at hx
              have := hidx i j hi' hj
              have hr := hu2 _ x (us.getD (i * (T e).size + j) undef) hx (by simp [this])
              have hmem := List.all_eq_true.1 hone x (List.mem_of_getElem? hx)
              simp only [Bool.and_eq_true] at hmem
              exact ⟨_, by simp [this], hr.pure1 hmem.2⟩
            · cases hx
      · cases h
  · cases h

theorem buildSlice_or (st : List (Nat × SO)) (t : TypeId) (len : Nat) (parts : List (Nat × AV)) : buildSliceO T st t len parts = .bad ∨ ∃ ob y, buildSliceO T st t len parts = .ok ob y := by
  unfold buildSliceO
  split
  · rename_i e _
    cases (Nat.ble 1 (T e).size && Nat.ble (len * (T e).size) 16777216 && Nat.beq (T e).zero.length (T e).size) with
    | false => exact .inl rfl
    | true =>
      simp only [cond_true]
      split
      · rename_i cs _
        rw [frcL1_eq, frcN_eq]
        cases cs.all (fun y => y.one && y.pure1) with
        | false => exact .inl rfl
        | true => exact .inr ⟨_, _, rfl⟩
      · exact .inl rfl
  · exact .inl rfl

theorem fits_buildSlice (hT : ∀ t, T t = tab P t) (hm : Mem c rd mp st nx w) (t : TypeId) (len : Nat) (parts : List (Nat × AV)) (vparts : Array (Nat × Value)) (hl : vparts.size = parts.length)
    (hv : ∀ (j : Nat) p q, parts[j]? = some p → vparts[j]? = some q → p.1 = q.1 ∧ Rel rd mp p.2 q.2) : Fits P c rd mp st nx w (buildSliceO T st t len parts) (Instr.buildSlice t len vparts) := by
  rcases buildSlice_or (T := T) st t len parts with hb | ⟨ob, y, hb⟩
  · rw [hb]; trivial
  · rw [hb]
    intro hob
    obtain ⟨e, us, f, hk, rfl, h1, h2, hrun, hus, hone, hf, hx⟩ := build_core hT hm t len parts vparts hl hv hb hob
    refine ⟨_, _, rd.add w.heap.size us, hrun, Rd.le_add hm us, hm.newRo us e hone, ?_⟩
    by_cases hlen : len = 0
    · subst hlen; exact .slc0 _ _ _ _ _
    · refine .slc _ _ _ _ _ _ _ (fun i j => us.getD (i * (T e).size + j) undef) (by omega) (Nat.le_refl _) hf (fun i j hi' hj => ?_) (fun i j x hi' hx' => ?_)
      · have : i * (T e).size + j < us.size := by
          have : (i + 1) * (T e).size ≤ len * (T e).size := Nat.mul_le_mul_right _ hi'
          rw [Nat.succ_mul] at this
          omega
        simp [Rd.add, this]
      · obtain ⟨u, hu, hr⟩ := hx i j x hi' hx'
        have : us.getD (i * (T e).size + j) undef = u := by simp [Array.getD_eq_getD_getElem?, hu]
        rw [this]
        exact hr.mono (Rd.le_add hm us) (Mp.le.refl _)

end Go.Sx
