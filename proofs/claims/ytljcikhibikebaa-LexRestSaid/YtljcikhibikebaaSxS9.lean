/- Soundness of the abstract operations, last part: the whole of an operation. Nothing of a program. -/
import Derived.Test.YtljcikhibikebaaSxS8
namespace Go.Sx
open Go Go.RowKit

variable {P : Program} {T : Nat → TI} {C : Cfg} {c : Ctx} {rd : Rd} {mp : Mp} {st : List (Nat × SO)} {nx : Nat} {w : World} {s : ASt} {a : Act}

/-- A new row. -/
theorem Mem.newRow (hm : Mem c rd mp st nx w) {w' : World} {e : TypeId} {sz n : Nat} {f : Nat → List AV} {v : Value} {xs : List Value} (hg : w.grownBy w' none) (hown : Owns w' e sz v n xs) (hat : v.ownBlock = none ∨ ∃ g, v.ownBlock = some g ∧ w.heap.size ≤ g)
    (hf : ∀ k, k < n → (f k).length = sz) (hx : ∀ (k j : Nat) x, k < n → (f k)[j]? = some x → ∃ u, xs[k * sz + j]? = some u ∧ u.oneCell' = true ∧ Rel rd Mp.none x u) :
    Mp.le mp (mp.setRow nx 0 v 0 n) ∧ Mem c rd (mp.setRow nx 0 v 0 n) ((nx, .row [] e sz 0 n f) :: st) (nx + 1) w' := by
  have hfr := hm.fresh nx (Nat.le_refl _)
  have hmono : ∀ v0 e0 n0, mp.row nx 0 = some (v0, e0, n0) → e0 < 0 ∨ (e0 = 0 ∧ (n0 < n ∨ (n0 = n ∧ v0 = v))) := fun v0 e0 n0 h => by rw [hfr.2] at h; cases h
  refine ⟨Mp.le_setRow hmono, hm.setMem nx 0 ⟨[], e, sz, 0, n, f⟩ v xs none (fun p hp hne g hg' h => by cases h) (fun g h => by cases h) hmono hg hown hat hf (fun k j x hk hxx => ?_) (fun b ty cs hl => ?_) (fun r' i' R' hR => ?_) (Nat.le_succ _) (fun i x hl => ?_) (by omega) (fun r' e' sz' cnt ep len f' hl i' hi' => ?_)⟩
  · obtain ⟨u, hu, h1, h2⟩ := hx k j x hk hxx
    exact ⟨u, hu, h1, h2.mono (Rd.le.refl _) (Mp.none_le _)⟩
  · rw [look_cons] at hl
    by_cases hi : nx = b
    · rw [if_pos hi] at hl; cases hl
    · rwa [if_neg hi] at hl
  · by_cases hi : nx = r'
    · subst hi
      cases hR with
      | row hl => rw [look_cons, if_pos rfl] at hl; cases hl; exact .inl ⟨rfl, rfl, rfl⟩
      | fam hl _ => rw [look_cons, if_pos rfl] at hl; cases hl
    · exact .inr ⟨fun h => hi h.1.symm, isMem_cons hR hi⟩
  · rw [look_cons] at hl
    by_cases hi : nx = i
    · omega
    · rw [if_neg hi] at hl; have := hm.ids _ _ hl; omega
  · rw [look_cons] at hl
    by_cases hi : nx = r'
    · rw [if_pos hi] at hl; cases hl
    · rw [if_neg hi] at hl
      simp only [Mp.setRow]
      rw [if_neg (fun h => hi h.1.symm)]
      exact hm.out _ _ _ _ _ _ _ hl i' hi'

theorem rel_newRow {v : Value} {n : Nat} : Rel rd (mp.setRow nx 0 v 0 n) (.own nx 0 0 n) v :=
  .own _ _ _ _ _ _ v 0 n (by simp [Mp.setRow]) (Nat.le_refl _) (fun _ => Nat.le_refl _) (fun _ _ => rfl)

theorem rel_turned {r i e n : Nat} {v : Value} : Rel rd (mp.setRow r i v e n) (.own r i e n) v :=
  .own _ _ _ _ _ _ v e n (by simp [Mp.setRow]) (Nat.le_refl _) (fun _ => Nat.le_refl _) (fun _ _ => rfl)

/-- append to a row of the call's own, from whatever source. -/
theorem fits_append_own (hT : ∀ t, T t = tab P t) (hm : Mem c rd mp s.st s.nx w) (t ty e : TypeId) (hk : (T t).kd = .slice e) {r i ep n m : Nat} {ob : Option Prop} {R : RowV} (hl : rowAt s.st r i = some (ob, R)) (hob : obT ob) (hnow : ep = R.ep ∧ n = R.n)
    (h1 : (T e).size = R.sz) (h2 : e = R.e) (h4 : 1 ≤ R.sz) (h5 : (T e).zero.length = R.sz) {vx vy : Value} (hx : Rel rd mp (.own r i ep n) vx) {news : List Value} (hy : Src w R.sz m vy news) {g : Nat → List AV} (hgl : ∀ k, k < m → (g k).length = R.sz)
    (hg : ∀ (k j : Nat) x, k < m → (g k)[j]? = some x → ∃ u, news[k * R.sz + j]? = some u ∧ u.oneCell' = true ∧ Rel rd Mp.none x u)
    (hb1 : n + m ≤ 9223372036854775807) (hb2 : (n + m) * (T e).bytes ≤ 140737488355328) :
    Turns P c rd mp (setRowAt s.st r i ep (n + m) (appF n R.f m g)) s.nx w (.own r i ep (n + m)) (Builtin.append_ #[t, t] ty #[vx, vy]) := by
  obtain ⟨xs, hv, hown, hf, hxs, hsep⟩ := own_now hm hl hob hx hnow
  obtain ⟨i0, z, hi, hz, his, hib, hzs, _⟩ := zero_parts hT (e := e) (by omega) (by omega)
  obtain ⟨hn1, hn2⟩ := hnow
  subst hn1 hn2 h2
  obtain ⟨v', w', hrun, hown', hgr, hat, hm0⟩ := append_src (P := P) w t ty R.e i0 z R.sz (T R.e).bytes (tab_slice hT hk) hi hz (by omega) hib (by omega) (by omega) vx R.n xs hown vy m news hy (by simp only [maxLen]; omega) hb2
  obtain ⟨hf', hx'⟩ := app_cells (rd := rd) (mp1 := mp.sel R.ids) (g := g) (news := news) (m := m) hown.1 hf hgl hxs (fun k j x hk hxx => by
    obtain ⟨u, hu, hu1, hu2⟩ := hg k j x hk hxx
    exact ⟨u, hu, hu1, hu2.mono (Rd.le.refl _) (Mp.none_le _)⟩)
  obtain ⟨hle, hmem⟩ := hm.turnRow (w' := w') (ep := R.ep) (n := R.n + m) (f := appF R.n R.f m g) hl hob (v' := v') (xs := xs ++ news) hv hsep
    (.inr ⟨rfl, by by_cases h0 : m = 0; (exact .inr ⟨by omega, (hm0 h0).symm⟩); (exact .inl (by omega))⟩) hgr hown' (by rcases hat with h | h; (exact .inl h); (exact .inr ⟨_, h, Nat.le_refl _⟩)) hf' hx'
  exact ⟨v', w', rd, _, hrun, Rd.le.refl _, hle, hmem, rel_turned⟩

theorem fits_append (hT : ∀ t, T t = tab P t) (hm : Mem c rd mp s.st s.nx w) (t ty : TypeId) (x y : AV) (vx vy : Value) (hx : Rel rd mp x vx) (hy : Rel rd mp y vy) :
    Fits P c rd mp s.st s.nx w (appendO T s t x y) (Builtin.append_ #[t, t] ty #[vx, vy]) := by
  unfold appendO
  split
  · rename_i r i ep n sz m g
    split
    · rename_i e ob R hk hl
      cases hc : (Nat.beq (T e).size sz && Nat.beq e R.e && Nat.beq sz R.sz && Nat.ble 1 sz && Nat.beq (T e).zero.length sz) with
      | false => trivial
      | true =>
        simp only [Bool.and_eq_true, Nat.beq_eq, Nat.ble_eq] at hc
        obtain ⟨⟨⟨⟨h1, h2⟩, h3⟩, h4⟩, h5⟩ := hc
        intro hob
        obtain ⟨hob1, hn, hb1, hb2⟩ := (obT_andO _ _).1 hob
        subst h3
        obtain ⟨news, hsrc, hgl, hg⟩ := src_slc hm (by omega) hy
        exact fits_append_own hT hm t ty e hk hl hob1 hn h1 h2 h4 h5 hx hsrc hgl hg hb1 hb2
    · trivial
  · rename_i r i ep n r' i' ep' m
    split
    · rename_i e ob R ob' R' hk hl hl'
      cases hc : (Nat.beq (T e).size R.sz && Nat.beq e R.e && Nat.beq R'.sz R.sz && Nat.ble 1 R.sz && Nat.beq (T e).zero.length R.sz && !Nat.beq r r' && R'.ids.isEmpty) with
      | false => trivial
      | true =>
        simp only [Bool.and_eq_true, Nat.beq_eq, Nat.ble_eq] at hc
        obtain ⟨⟨⟨⟨⟨⟨h1, h2⟩, h3⟩, h4⟩, h5⟩, _⟩, h7⟩ := hc
        intro hob
        obtain ⟨hob1, hob'⟩ := (obT_andO _ _).1 hob
        obtain ⟨hob2, hn, hn', hb1, hb2⟩ := (obT_andO _ _).1 hob'
        obtain ⟨ys, hv, hown, hf, hxs, hsep⟩ := own_now hm hl' hob2 hy hn'
        have hids : R'.ids = [] := by simpa using h7
        obtain ⟨he', hm'⟩ := hn'
        subst hm'
        rw [h3] at hown hf hxs
        rw [hids, Mp.sel_nil] at hxs
        have h1' : ∀ u ∈ ys, u.oneCell' = true := by
          intro u hu
          obtain ⟨q, hq⟩ := List.mem_iff_getElem?.1 hu
          have hql : q < R'.n * R.sz := by rw [← hown.1]; exact (List.getElem?_eq_some_iff.1 hq).1
          have hk1 : q / R.sz < R'.n := Nat.div_lt_of_lt_mul (by rwa [Nat.mul_comm] at hql)
          have hk2 : q % R.sz < (R'.f (q / R.sz)).length := by rw [hf _ hk1]; exact Nat.mod_lt _ (by omega)
          obtain ⟨u', hu', ho, _⟩ := hxs (q / R.sz) (q % R.sz) _ hk1 (List.getElem?_eq_getElem hk2)
          rw [Nat.div_add_mod' q R.sz, hq] at hu'
          cases hu'
          exact ho
        exact fits_append_own hT hm t ty e hk hl hob1 hn h1 h2 h4 h5 hx (src_own hown h1') hf hxs hb1 hb2
    · trivial
  · rename_i sz m g
    split
    · rename_i e hk
      cases hc : (Nat.beq (T e).size sz && Nat.ble 1 sz && Nat.beq (T e).zero.length sz) with
      | false => trivial
      | true =>
        simp only [Bool.and_eq_true, Nat.beq_eq, Nat.ble_eq] at hc
        obtain ⟨⟨h1, h4⟩, h5⟩ := hc
        rintro ⟨hb1, hb2⟩
        cases hx
        obtain ⟨i0, z, hi, hz, his, hib, hzs, _⟩ := zero_parts hT (e := e) (by omega) (by omega)
        obtain ⟨news, hsrc, hgl, hg⟩ := src_slc hm (by omega) hy
        have hown : Owns w e sz (.slice none 0 0) 0 [] := ⟨by simp, .inl ⟨rfl, rfl⟩⟩
        obtain ⟨v', w', hrun, hown', hgr, hat, hm0⟩ := append_src (P := P) w t ty e i0 z sz (T e).bytes (tab_slice hT hk) hi hz (by omega) hib (by omega) (by omega) _ 0 [] hown vy m news hsrc (by simp only [maxLen]; omega) (by simpa using hb2)
        rw [Nat.zero_add, List.nil_append] at hown'
        obtain ⟨hle, hmem⟩ := hm.newRow hgr hown' (by rcases hat with h | h; (exact .inl h); (exact .inr ⟨_, h, Nat.le_refl _⟩)) hgl hg
        exact ⟨v', w', rd, _, hrun, Rd.le.refl _, hle, hmem, rel_newRow⟩
    · trivial
  · trivial

theorem fits_make (hT : ∀ t, T t = tab P t) (hm : Mem c rd mp s.st s.nx w) (t : TypeId) (x y : AV) (vx vy : Value) (hx : Rel rd mp x vx) (hy : Rel rd mp y vy) :
    Fits P c rd mp s.st s.nx w (makeO T s t x y) (Instr.makeSlice t vx vy) := by
  unfold makeO
  split
  · rename_i kl l kc cp
    split
    · rename_i e hk
      cases hc : (Nat.beq (T e).zero.length (T e).size && Nat.ble 1 (T e).size && (T e).zero.all (fun y => y.one && y.pure1)) with
      | false => trivial
      | true =>
        simp only [Bool.and_eq_true, Nat.beq_eq, Nat.ble_eq] at hc
        obtain ⟨⟨h1, h2⟩, h3⟩ := hc
        rintro ⟨h0, hlc, hb1, hb2⟩
        cases rel_int hx; cases rel_int hy
        obtain ⟨i, z, hi, hz, his, hib, hzs, hzz⟩ := zero_parts hT h2 h1
        have hrun := run_make (P := P) w t e i z (tab_slice hT hk) hi hz kl kc l cp h0 hlc (by rw [hib, Int.mul_comm]; omega) hb1
        rw [his] at hrun
        have hcp : l.toNat ≤ cp.toNat := by omega
        have hms : (madeCells z.cells (cp.toNat * (T e).size)).size = cp.toNat * (T e).size := size_madeCells _ _
        have hle : l.toNat * (T e).size ≤ cp.toNat * (T e).size := Nat.mul_le_mul_right _ hcp
        have hnr := hm.newRow (e := e) (sz := (T e).size) (n := l.toNat) (f := fun _ => (T e).zero) (v := .slice (some ⟨w.heap.size, 0, none⟩) l.toNat cp.toNat) (xs := (madeCells z.cells (cp.toNat * (T e).size)).toList.take (l.toNat * (T e).size)) (World.grownBy_alloc w _ none)
          ⟨by rw [List.length_take, Array.length_toList, hms, Nat.min_eq_left hle], .inr ⟨w.heap.size, 0, cp.toNat, _, rfl, heap_alloc_new w _, hcp, by simp only [maxLen]; omega, by rw [Nat.zero_add]; exact Nat.le_of_eq hms.symm, by rw [List.drop_zero]⟩⟩ (.inr ⟨_, rfl, Nat.le_refl _⟩)
          (fun _ _ => h1) (fun q j x hq hx' => ?_)
        · exact ⟨_, _, rd, _, hrun, Rd.le.refl _, hnr.1, hnr.2, rel_newRow⟩
        · have hj : j < (T e).size := by rw [← h1]; exact (List.getElem?_eq_some_iff.1 hx').1
          have hqj : q * (T e).size + j < l.toNat * (T e).size := by
            have : (q + 1) * (T e).size ≤ l.toNat * (T e).size := Nat.mul_le_mul_right _ hq
            rw [Nat.succ_mul] at this
            omega
          have hmem := List.all_eq_true.1 h3 x (List.mem_of_getElem? hx')
          simp only [Bool.and_eq_true] at hmem
          have hmod : (q * (T e).size + j) % z.cells.size = j := by rw [hzs, Nat.add_comm, Nat.add_mul_mod_self_right, Nat.mod_eq_of_lt hj]
          have hjz : j < z.cells.size := by omega
          have hget : ((madeCells z.cells (cp.toNat * (T e).size)).toList.take (l.toNat * (T e).size))[q * (T e).size + j]? = some z.cells[j] := by
            rw [List.getElem?_take, if_pos hqj]
            simp only [madeCells, Array.getElem?_toList, Array.getElem?_map, Array.getElem?_range]
            rw [if_pos (by omega)]
            simp only [Option.map_some, hmod]
            rw [getElem!_pos z.cells j hjz]
          have hr : Rel rd mp x z.cells[j] := rel_zero hzz j x _ hx' (by simp [hjz])
          exact ⟨z.cells[j], hget, rel_one hr hmem.1, hr.pure1 hmem.2⟩
    · trivial
  · trivial

theorem fits_buildSl (hT : ∀ t, T t = tab P t) (hm : Mem c rd mp s.st s.nx w) (dst : Option Nat) (t : TypeId) (len : Nat) (parts : List (Nat × AV)) (vparts : Array (Nat × Value)) (hl : vparts.size = parts.length)
    (hv : ∀ (j : Nat) p q, parts[j]? = some p → vparts[j]? = some q → p.1 = q.1 ∧ Rel rd mp p.2 q.2) : Fits P c rd mp s.st s.nx w (buildSlO T C s dst t len parts) (Instr.buildSlice t len vparts) := by
  unfold buildSlO
  split
  · rename_i e ob sz n f _ hk hb
    intro hob
    obtain ⟨e', us, f', hk', hy, h1, h2, hrun, hus, hone, hf, hx⟩ := build_core hT hm t len parts vparts hl hv hb hob
    rw [hk] at hk'; cases hk'
    cases hy
    obtain ⟨hmp, hmem⟩ := hm.newRow (e := e) (sz := (T e).size) (n := len) (f := f) (v := .slice (some ⟨w.heap.size, 0, none⟩) len len) (xs := us.toList) (World.grownBy_alloc w _ none)
      ⟨by simpa using hus, .inr ⟨w.heap.size, 0, len, us, rfl, heap_alloc_new w _, Nat.le_refl _, by simp only [maxLen]; have := Nat.le_mul_of_pos_right len (show 0 < (T e).size by omega); omega, by rw [Nat.zero_add]; exact Nat.le_of_eq hus.symm, by rw [List.drop_zero, List.take_of_length_le (by simp; omega)]⟩⟩
      (.inr ⟨_, rfl, Nat.le_refl _⟩) hf (fun k j x hk hxx => by
        obtain ⟨u, hu, hr⟩ := hx k j x hk hxx
        exact ⟨u, by simpa using hu, hone u (Array.mem_of_getElem? hu), hr⟩)
    exact ⟨_, _, rd, _, hrun, Rd.le.refl _, hmp, hmem, rel_newRow⟩
  · trivial
  · exact fits_buildSlice hT hm t len parts vparts hl hv

theorem fits_cut (hT : ∀ t, T t = tab P t) (hm : Mem c rd mp s.st s.nx w) (dst : Option Nat) (t : TypeId) (x : AV) (lo hi mx : Option AV) (vx : Value) (vlo vhi vmx : Option Value) (hx : Rel rd mp x vx)
    (hlo : ∀ y, lo = some y → ∃ u, vlo = some u ∧ Rel rd mp y u) (hlo' : lo = none → vlo = none) (hhi : ∀ y, hi = some y → ∃ u, vhi = some u ∧ Rel rd mp y u) (hhi' : hi = none → vhi = none)
    (hmx' : mx = none → vmx = none) : Fits P c rd mp s.st s.nx w (cutO T C s dst t x lo hi mx) (Instr.sliceAt t vx vlo vhi vmx) := by
  have slcs : ∀ {t e}, (T t).kd = .slice e → ∀ v lo hi mx, (Instr.sliceAt t v lo hi mx).run P w = (Instr.slice t v lo hi mx).run P w := by
    intro t e hk v lo hi mx
    simp [Instr.sliceAt, run_underlying (tab_slice hT hk)]
  unfold cutO
  split
  · rename_i r i e n k a
    split
    · rename_i el ob R hk hl
      cases hc : (isCut C dst && Nat.beq (T el).size R.sz && Nat.ble 1 R.sz) with
      | false => trivial
      | true =>
        simp only [Bool.and_eq_true, Nat.beq_eq, Nat.ble_eq] at hc
        obtain ⟨⟨_, h1⟩, h2⟩ := hc
        intro hob
        obtain ⟨hob1, hn, h0, ha⟩ := (obT_andO _ _).1 hob
        obtain ⟨xs, hv, hown, hf, hxs, hsep⟩ := own_now hm hl hob1 hx hn
        obtain ⟨u, rfl, hu⟩ := hlo _ rfl
        cases rel_int hu
        cases hhi' rfl; cases hmx' rfl
        obtain ⟨inf, hinf, hsz, _⟩ := tab_size hT (t := el) (by omega)
        obtain ⟨hn1, hn2⟩ := hn
        subst hn1 hn2
        have hal : a.toNat ≤ R.n := by omega
        have hsplit : R.n * R.sz = a.toNat * R.sz + (R.n - a.toNat) * R.sz := by rw [← Nat.add_mul]; congr 1; omega
        obtain ⟨v', hrun, hown', hblk⟩ : ∃ v', (Instr.sliceAt t vx (some (.int k a)) none none).run P w = .ok v' w ∧ Owns w R.e R.sz v' (R.n - a.toNat) (xs.drop (a.toNat * R.sz)) ∧ v'.ownBlock = vx.ownBlock := by
          have hxl : (xs.drop (a.toNat * R.sz)).length = (R.n - a.toNat) * R.sz := by rw [List.length_drop, hown.1]; omega
          rcases hown.2 with ⟨rfl, h0'⟩ | ⟨g, lo, cap, cur, rfl, hh, hnc, hcm, hcs, htake⟩
          · refine ⟨.slice none 0 0, ?_, ⟨hxl, .inl ⟨rfl, by omega⟩⟩, rfl⟩
            rw [slcs hk]
            have : a = 0 := by omega
            subst this
            simp [Instr.slice, run_underlying (tab_slice hT hk), Instr.sliceBounds, Instr.sliceBound, asIntOf, sizeOf, typeInfo, hinf, h0']
          · refine ⟨.slice (if cap = a.toNat then some ⟨g, lo, none⟩ else some ⟨g, lo + a.toNat * R.sz, none⟩) (R.n - a.toNat) (cap - a.toNat), ?_, ⟨hxl, .inr ?_⟩, by split <;> rfl⟩
            · rw [slcs hk]
              have ha' : a ≤ (R.n : Int) := ha
              simp [Instr.slice, run_underlying (tab_slice hT hk), Instr.sliceBounds, Instr.sliceBound, asIntOf, h0, ha', sizeOf, typeInfo, hinf, ← hsz, h1, Addr.add_lit]
            · by_cases hcap : cap = a.toNat
              · have hz : R.n - a.toNat = 0 := by omega
                refine ⟨g, lo, cap - a.toNat, cur, by rw [if_pos hcap], hh, by omega, by omega, ?_, ?_⟩
                · rw [hcap, Nat.sub_self, Nat.zero_mul]; omega
                · rw [hz, Nat.zero_mul, List.take_zero]
                  exact (List.eq_nil_of_length_eq_zero (by rw [hxl, hz, Nat.zero_mul])).symm
              · have hcsplit : cap * R.sz = a.toNat * R.sz + (cap - a.toNat) * R.sz := by rw [← Nat.add_mul]; congr 1; omega
                refine ⟨g, lo + a.toNat * R.sz, cap - a.toNat, cur, by rw [if_neg hcap], hh, by omega, by omega, by omega, ?_⟩
                rw [← htake, List.drop_take, List.drop_drop, hsplit, Nat.add_sub_cancel_left]
        obtain ⟨hle, hmem⟩ := hm.turnRow (w' := w) (ep := R.ep + 1) (n := R.n - a.toNat) (f := fun j => R.f (a.toNat + j)) hl hob1 (v' := v') (xs := xs.drop (a.toNat * R.sz)) hv hsep (.inl (Nat.lt_succ_self _)) (World.grownBy.refl w _) hown' (.inl hblk)
          (fun q hq => hf _ (by omega)) (fun q j x hq hxx => by
            obtain ⟨u, hu, hu1, hu2⟩ := hxs (a.toNat + q) j x (by omega) hxx
            refine ⟨u, ?_, hu1, hu2⟩
            rw [List.getElem?_drop, ← hu, Nat.add_mul]
            congr 1; omega)
        exact ⟨v', w, rd, _, hrun, Rd.le.refl _, hle, hmem, rel_turned⟩
    · trivial
  · rename_i r i e n k b
    split
    · rename_i el ob R hk hl
      cases hc : (isCut C dst && Nat.beq (T el).size R.sz && Nat.ble 1 R.sz) with
      | false => trivial
      | true =>
        simp only [Bool.and_eq_true, Nat.beq_eq, Nat.ble_eq] at hc
        obtain ⟨⟨_, h1⟩, h2⟩ := hc
        intro hob
        obtain ⟨hob1, hn, h0, hb⟩ := (obT_andO _ _).1 hob
        obtain ⟨xs, hv, hown, hf, hxs, hsep⟩ := own_now hm hl hob1 hx hn
        obtain ⟨u, rfl, hu⟩ := hhi _ rfl
        cases rel_int hu
        cases hlo' rfl; cases hmx' rfl
        obtain ⟨inf, hinf, hsz, _⟩ := tab_size hT (t := el) (by omega)
        obtain ⟨hn1, hn2⟩ := hn
        subst hn1 hn2
        have hbl : b.toNat ≤ R.n := by omega
        have hbs : b.toNat * R.sz ≤ R.n * R.sz := Nat.mul_le_mul_right _ hbl
        obtain ⟨v', hrun, hown', hblk⟩ : ∃ v', (Instr.sliceAt t vx none (some (.int k b)) none).run P w = .ok v' w ∧ Owns w R.e R.sz v' b.toNat (xs.take (b.toNat * R.sz)) ∧ v'.ownBlock = vx.ownBlock := by
          have hxl : (xs.take (b.toNat * R.sz)).length = b.toNat * R.sz := by rw [List.length_take, hown.1]; omega
          rcases hown.2 with ⟨rfl, h0'⟩ | ⟨g, lo, cap, cur, rfl, hh, hnc, hcm, hcs, htake⟩
          · refine ⟨.slice none 0 0, ?_, ⟨hxl, .inl ⟨rfl, by omega⟩⟩, rfl⟩
            rw [slcs hk]
            have : b = 0 := by omega
            subst this
            simp [Instr.slice, run_underlying (tab_slice hT hk), Instr.sliceBounds, Instr.sliceBound, asIntOf, sizeOf, typeInfo, hinf]
          · refine ⟨.slice (some ⟨g, lo, none⟩) b.toNat cap, ?_, ⟨hxl, .inr ⟨g, lo, cap, cur, rfl, hh, by omega, hcm, hcs, ?_⟩⟩, rfl⟩
            · rw [slcs hk]
              have hb' : b ≤ (cap : Int) := by omega
              simp [Instr.slice, run_underlying (tab_slice hT hk), Instr.sliceBounds, Instr.sliceBound, asIntOf, h0, hb', sizeOf, typeInfo, hinf, Addr.add_lit]
            · rw [← htake, List.take_take, Nat.min_eq_left hbs]
        obtain ⟨hle, hmem⟩ := hm.turnRow (w' := w) (ep := R.ep + 1) (n := b.toNat) (f := R.f) hl hob1 (v' := v') (xs := xs.take (b.toNat * R.sz)) hv hsep (.inl (Nat.lt_succ_self _)) (World.grownBy.refl w _) hown' (.inl hblk)
          (fun q hq => hf _ (by omega)) (fun q j x hq hxx => by
            have hj : j < R.sz := by rw [← hf q (by omega)]; exact (List.getElem?_eq_some_iff.1 hxx).1
            obtain ⟨u, hu, hu1, hu2⟩ := hxs q j x (by omega) hxx
            refine ⟨u, ?_, hu1, hu2⟩
            have : (q + 1) * R.sz ≤ b.toNat * R.sz := Nat.mul_le_mul_right _ hq
            rw [Nat.succ_mul] at this
            rw [List.getElem?_take, if_pos (by omega)]
            exact hu)
        exact ⟨v', w, rd, _, hrun, Rd.le.refl _, hle, hmem, rel_turned⟩
    · trivial
  · exact fits_slice hT hm t _ _ _ _ _ _ _ _ hx hlo hlo' hhi hhi' hmx'

theorem fits_min (hm : Mem c rd mp st nx w) (ts : Array TypeId) (ty : TypeId) (mx : Bool) (x y : AV) (vx vy : Value) (hx : Rel rd mp x vx) (hy : Rel rd mp y vy) :
    Fits P c rd mp st nx w (minO mx x y) (if mx then Builtin.max_ ts ty #[vx, vy] else Builtin.min_ ts ty #[vx, vy]) := by
  unfold minO
  split
  · rename_i p q
    cases rel_int hx; cases rel_int hy
    intro _
    cases mx with
    | true =>
      refine .here hm (x := .int .i64 (if q > p then q else p)) (by simp [Builtin.max_, Builtin.max2]) ?_
      have : (if q > p then q else p) = max p q := by rw [Int.max_def]; split <;> split <;> omega
      rw [this]; exact .int _ _ _
    | false =>
      refine .here hm (x := .int .i64 (if q < p then q else p)) (by simp [Builtin.min_, Builtin.min2]) ?_
      have : (if q < p then q else p) = min p q := by rw [Int.min_def]; split <;> split <;> omega
      rw [this]; exact .int _ _ _
  · trivial

theorem fits_assign (hm : Mem c rd mp s.st s.nx w) (dst : Option Nat) (x : AV) (v : Value) (hx : Rel rd mp x v) : Fits P c rd mp s.st s.nx w (assignO C s dst x) (pure v) := by
  unfold assignO
  split
  · rename_i e sz ho
    intro _
    cases hx
    obtain ⟨hmp, hmem⟩ := hm.newRow (e := e) (sz := sz) (n := 0) (f := fun _ => []) (v := .slice none 0 0) (xs := []) (World.grownBy.refl w _) ⟨by simp, .inl ⟨rfl, rfl⟩⟩ (.inl rfl) (fun k hk => by omega) (fun k j x hk => by omega)
    exact ⟨.slice none 0 0, w, rd, _, by simp, Rd.le.refl _, hmp, hmem, rel_newRow⟩
  · exact fun _ => .here hm (by simp) hx

theorem fits_nilCheck (hm : Mem c rd mp st nx w) (o : Oper) (y : Operand) (ho : o.op = .nilCheck y) (x : AV) (hx : Rel rd mp x (a.eval y)) (ob : Option Prop) (v : AV) (h : nilCheckO x = .ok ob v) :
    (execOp a.eval o).run P w = .ok (.value (a.eval y)) w ∧ Rel rd mp v (a.eval y) ∧ Mem c rd mp st nx w := by
  unfold nilCheckO at h
  split at h
  · cases h
    refine ⟨?_, hx, hm⟩
    obtain ⟨g, _, hv⟩ := rel_ptr hx
    simp [execOp, ho, hv]
  · cases h
    refine ⟨?_, hx, hm⟩
    obtain ⟨g, o', hv, _⟩ := rel_rptr hx
    simp [execOp, ho, hv]
  · cases h
    refine ⟨?_, hx, hm⟩
    generalize hv : a.eval y = v at hx
    cases hx
    simp [execOp, ho, hv]
  · cases h

/-- What is to be shown of a whole operation. -/
def Good (P : Program) (c : Ctx) (rd : Rd) (mp : Mp) (st : List (Nat × SO)) (nx : Nat) (w : World) (r : OR) (m : Sem Next) : Prop :=
  match r with
  | .ok ob v => obT ob → ∃ x w' rd', m.run P w = .ok (.value x) w' ∧ Rd.le rd rd' ∧ Mem c rd' mp st nx w' ∧ Rel rd' mp v x
  | .mem ob v st' nx' => obT ob → ∃ n x w' rd' mp', m.run P w = .ok n w' ∧ (n = .value x ∨ (n = .skip ∧ x = undef)) ∧ Rd.le rd rd' ∧ Mp.le mp mp' ∧ Mem c rd' mp' st' nx' w' ∧ Rel rd' mp' v x
  | .call f args => ∃ vs, m.run P w = (callFunc f vs).run P w ∧ RelL rd mp args vs
  | .bad => True

theorem Good.of_fits {r : OR} {m : Sem Value} (h : Fits P c rd mp st nx w r m) {m' : Sem Next} (hm : m' = (do pure (.value (← m)))) : Good P c rd mp st nx w r m' := by
  subst hm
  cases r with
  | ok ob v =>
    intro hob
    obtain ⟨x, w', rd', h1, h2, h3, h4⟩ := h hob
    exact ⟨x, w', rd', by simp [h1], h2, h3, h4⟩
  | mem ob v st' nx' =>
    intro hob
    obtain ⟨x, w', rd', mp', h1, h2, h3, h4, h5⟩ := h hob
    exact ⟨.value x, x, w', rd', mp', by simp [h1], .inl rfl, h2, h3, h4, h5⟩
  | call f args => exact absurd h id
  | bad => trivial

theorem eqGuard_plain (op : BinOp) (t : TypeId) (x y : Operand) (u v : Value) (hu : ∀ cs, u ≠ .agg cs) (hn : u ≠ .nilIface) : (eqGuard op t x y u v).run P w = .ok () w := by
  cases op <;> simp [eqGuard] <;> cases u <;> first | rfl | exact absurd rfl (hu _) | exact absurd rfl hn

theorem fits_bin (hT : ∀ t, T t = tab P t) (hm : Mem c rd mp st nx w) (dst : Option Nat) (op : BinOp) (t : TypeId) (xo yo : Operand) (x y : AV) (u v : Value) (hx : Rel rd mp x u) (hy : Rel rd mp y v) :
    Fits P c rd mp st nx w (binO T C dst op t x y) (do eqGuard op t xo yo u v; binOp op t u v) := by
  have plain : ∀ {r : OR}, (∀ cs, u ≠ .agg cs) → u ≠ .nilIface → Fits P c rd mp st nx w r (binOp op t u v) → Fits P c rd mp st nx w r (do eqGuard op t xo yo u v; binOp op t u v) := by
    intro r h1 h2 h
    have he : (do eqGuard op t xo yo u v; binOp op t u v : Sem Value).run P w = (binOp op t u v).run P w := by
      simp [eqGuard_plain op t xo yo u v h1 h2]
    cases r with
    | ok ob z =>
      intro hob
      obtain ⟨x', w', rd', g1, g2⟩ := h hob
      exact ⟨x', w', rd', by rw [he]; exact g1, g2⟩
    | mem ob z st' nx' =>
      intro hob
      obtain ⟨x', w', rd', mp', g1, g2⟩ := h hob
      exact ⟨x', w', rd', mp', by rw [he]; exact g1, g2⟩
    | call f args => exact h
    | bad => trivial
  unfold binO
  split
  · rename_i k p k' q
    cases rel_int hx; cases rel_int hy
    split
    · refine plain (by simp) (by simp) (Fits.also fun hq => fits_arith hm _ _ _ _ ?_)
      have hq' : ¬ q < 0 := by have : 0 ≤ q := hq; omega
      simp [binOp, Op.shift, hq', shlI]
    · refine plain (by simp) (by simp) fun hq => .here hm (x := .int k (shrI k p q)) ?_ (.int _ _ _)
      have hq' : ¬ q < 0 := by have : 0 ≤ q := hq; omega
      simp [binOp, Op.shift, hq', shrI]
    · by_cases hk : k = k'
      · subst hk
        simp only [decide_true, cond_true]
        exact plain (by simp) (by simp) (fits_int hm _ op t k p q)
      · simp [hk]; trivial
  · rename_i p q
    cases rel_str hx; cases rel_str hy
    exact plain (by simp) (by simp) (fits_str hm op t p q)
  · rename_i p q
    cases rel_bool hx; cases rel_bool hy
    split
    · rename_i hk
      exact plain (by simp) (by simp) (fun _ => .here hm (x := .bool (p == q)) (by
        simp [binOp, Op.equal, Op.maxDepth, run_equalIn_bool' w 9999 t p q (tab_bool hT hk)]) (.bool _ _))
    · rename_i hk
      exact plain (by simp) (by simp) (fun _ => .here hm (x := .bool (!(p == q))) (by
        simp [binOp, Op.equal, Op.maxDepth, run_equalIn_bool' w 9999 t p q (tab_bool hT hk)]) (.bool _ _))
    · trivial
  · rename_i xs ys
    split
    · exact fits_agg hT hm false t xs ys u v hx hy xo yo
    · exact fits_agg hT hm true t xs ys u v hx hy xo yo
    · trivial
  · trivial

theorem scondL_mem : ∀ {l : List AV}, obT (scondL l) → ∀ x ∈ l, obT (scond x)
  | [], _, x, h => by simp at h
  | y :: l, h, x, hx => by
    obtain ⟨h1, h2⟩ := (obT_andO _ _).1 h
    rcases List.mem_cons.1 hx with rfl | hx
    · exact h1
    · exact scondL_mem h2 x hx

theorem parts_rel (hs : SR c rd mp s a w) (ps : Array (Nat × Operand)) (hc : obT (scondL (ps.toList.map fun p => ev s p.2))) : (ps.map fun (i, x) => (i, a.eval x)).size = (ps.toList.map fun p => (p.1, strip (ev s p.2))).length ∧
    ∀ (j : Nat) p q, (ps.toList.map fun p => (p.1, strip (ev s p.2)))[j]? = some p → (ps.map fun (i, x) => (i, a.eval x))[j]? = some q → p.1 = q.1 ∧ Rel rd mp p.2 q.2 := by
  refine ⟨by simp, fun j p q hp hq => ?_⟩
  rw [List.getElem?_map] at hp
  rw [Array.getElem?_map] at hq
  obtain ⟨p', hp', rfl⟩ := Option.map_eq_some_iff.1 hp
  obtain ⟨q', hq', rfl⟩ := Option.map_eq_some_iff.1 hq
  have hmem : p' ∈ ps.toList := List.mem_of_getElem? hp'
  rw [Array.getElem?_toList] at hp'
  rw [hp'] at hq'; cases hq'
  exact ⟨rfl, rel_strip (rel_ev hs _) (scondL_mem hc _ (List.mem_map.2 ⟨p', hmem, rfl⟩))⟩

theorem args_rel (hs : SR c rd mp s a w) (xs : Array Operand) : RelL rd mp (xs.toList.map (ev s)) (xs.map a.eval) := by
  refine ⟨by simp, fun j p q hp hq => ?_⟩
  rw [List.getElem?_map] at hp
  rw [Array.getElem?_map] at hq
  obtain ⟨p', hp', rfl⟩ := Option.map_eq_some_iff.1 hp
  obtain ⟨q', hq', rfl⟩ := Option.map_eq_some_iff.1 hq
  rw [Array.getElem?_toList] at hp'
  rw [hp'] at hq'; cases hq'
  exact rel_ev hs _

theorem RelL.append {xs ys : List AV} {us vs : Array Value} (h : RelL rd mp xs us) (k : RelL rd mp ys vs) : RelL rd mp (xs ++ ys) (us ++ vs) := by
  refine ⟨by simp [h.1, k.1], fun j x v hx hv => ?_⟩
  by_cases hj : j < xs.length
  · rw [List.getElem?_append_left hj] at hx
    rw [Array.getElem?_append_left (by rw [h.1]; exact hj)] at hv
    exact h.2 j x v hx hv
  · rw [List.getElem?_append_right (by omega)] at hx
    rw [Array.getElem?_append_right (by rw [h.1]; omega), h.1] at hv
    exact k.2 _ x v hx hv

theorem aop_sound (hT : ∀ t, T t = tab P t) (hs : SR c rd mp s a w) (o : Oper) : Good P c rd mp s.st s.nx w (aop T C s o.dst o.op) (execOp a.eval o) := by
  have hm := hs.mem
  have one : ∀ {r : OR} {x : Operand} {m : Sem Value}, (Rel rd mp (strip (ev s x)) (a.eval x) → Fits P c rd mp s.st s.nx w r m) → Fits P c rd mp s.st s.nx w (also (scond (ev s x)) r) m :=
    fun h => Fits.also fun hc => h (rel_strip (rel_ev hs _) hc)
  cases ho : o.op with
  | move x =>
    have hf : Fits P c rd mp s.st s.nx w (.ok none (ev s x)) (pure (a.eval x)) := fun _ => .here hm (by simp) (rel_ev hs x)
    exact Good.of_fits hf (by simp [execOp, ho])
  | assign x => exact Good.of_fits (m := pure (a.eval x)) (fits_assign hm _ _ _ (rel_ev hs x)) (by simp [execOp, ho])
  | pick x y z =>
    simp only [aop]
    split
    · exact Good.of_fits (one fun hr => fits_and hm _ _ _ _ hr (rel_ev hs y)) (by simp [execOp, ho, Act.eval])
    · exact Good.of_fits (one fun hr => fits_or hm _ _ _ _ hr (rel_ev hs z)) (by simp [execOp, ho, Act.eval])
    · exact Good.of_fits (one fun hr => fits_pick hm _ _ _ _ _ _ hr (rel_ev hs y) (rel_ev hs z)) (by simp [execOp, ho])
  | alloc e =>
    simp only [aop]
    cases hc : (Nat.ble 1 (T e).size && Nat.beq (T e).zero.length (T e).size) with
    | false => trivial
    | true =>
      simp only [Bool.and_eq_true, Nat.beq_eq, Nat.ble_eq] at hc
      exact Good.of_fits (fits_alloc hT hm e hc.1 hc.2) (by simp [execOp, ho])
  | box e x =>
    simp only [aop]
    cases hc : partOk (strip (ev s x)) with
    | false => trivial
    | true => exact Good.of_fits (one fun hr => fits_box hm e _ _ hr hc) (by simp [execOp, ho])
  | build t ps => exact Good.of_fits (Fits.also fun hc => fits_build hT hm t _ _ (parts_rel hs ps hc).1 (parts_rel hs ps hc).2) (by simp [execOp, ho])
  | buildSlice t n ps => exact Good.of_fits (Fits.also fun hc => fits_buildSl hT hm o.dst t n _ _ (parts_rel hs ps hc).1 (parts_rel hs ps hc).2) (by simp [execOp, ho])
  | load t x => exact Good.of_fits (one fun hr => fits_load hT hm t _ _ hr) (by simp [execOp, ho])
  | store t x y =>
    simp only [aop]
    have hex : execOp a.eval o = (do Instr.storeAt t (a.eval x) (a.eval y); pure .skip) := by simp [execOp, ho]
    rw [hex]
    have galso : ∀ {p : Option Prop} {r : OR} {m : Sem Next}, (obT p → Good P c rd mp s.st s.nx w r m) → Good P c rd mp s.st s.nx w (also p r) m := by
      intro p r m h
      cases r with
      | ok ob v => exact fun hob => h ((obT_andO _ _).1 hob).1 ((obT_andO _ _).1 hob).2
      | mem ob v st' nx' => exact fun hob => h ((obT_andO _ _).1 hob).1 ((obT_andO _ _).1 hob).2
      | call f args => trivial
      | bad => trivial
    refine galso fun hcx => galso fun hcy => ?_
    have hx := rel_strip (rel_ev hs x) hcx
    have hy := rel_strip (rel_ev hs y) hcy
    generalize strip (ev s x) = sx at hx ⊢
    generalize strip (ev s y) = sy at hy ⊢
    unfold storeO
    split
    · rename_i b off
      split
      · rename_i ty cs hl
        cases hc : (Nat.ble 1 (T t).size && Nat.beq (cellsOf sy).length (T t).size && (cellsOf sy).all AV.oneOwn && Nat.ble (off + (cellsOf sy).length) cs.length) with
        | false => trivial
        | true =>
          simp only [Bool.and_eq_true, Nat.beq_eq, Nat.ble_eq] at hc
          obtain ⟨⟨⟨h1, h2⟩, h3⟩, h4⟩ := hc
          intro hob
          obtain ⟨w', hw', hm'⟩ := fits_store_box hT hm t b off ty cs hl _ _ _ hx hy h2 h3 h4 h1 hob
          exact ⟨.skip, undef, w', rd, mp, by simp [hw'], .inr ⟨rfl, rfl⟩, Rd.le.refl _, Mp.le.refl _, hm', .any _ _⟩
      · trivial
    · rename_i r i e n sz' k off
      split
      · rename_i ob R hl
        cases hc : (Nat.ble 1 (T t).size && Nat.beq sz' R.sz && Nat.beq (cellsOf sy).length (T t).size && (cellsOf sy).all (cellOk R.ids) && Nat.ble (off + (cellsOf sy).length) R.sz) with
        | false => trivial
        | true =>
          simp only [Bool.and_eq_true, Nat.beq_eq, Nat.ble_eq] at hc
          obtain ⟨⟨⟨⟨h1, h0⟩, h2⟩, h3⟩, h4⟩ := hc
          intro hob
          obtain ⟨hob1, hob2⟩ := (obT_andO _ _).1 hob
          obtain ⟨hob3, hn, hk⟩ := (obT_andO _ _).1 hob1
          obtain ⟨w', mp', hw', hle, hm'⟩ := fits_store_row hT hm t hl hob3 hn _ _ _ hx hy h0 h2 h3 hob2 h4 h1 hk
          exact ⟨.skip, undef, w', rd, mp', by simp [hw'], .inr ⟨rfl, rfl⟩, Rd.le.refl _, hle, hm', .any _ _⟩
      · trivial
    · trivial
  | nilCheck x =>
    simp only [aop]
    cases hn : nilCheckO (strip (ev s x)) with
    | ok ob v =>
      intro hob
      obtain ⟨hc, _⟩ := (obT_andO _ _).1 hob
      obtain ⟨g1, g2, g3⟩ := fits_nilCheck (P := P) (w := w) hm o x ho _ (rel_strip (rel_ev hs x) hc) ob v hn
      exact ⟨_, w, rd, g1, Rd.le.refl _, g3, g2⟩
    | mem ob v st nx => unfold nilCheckO at hn; split at hn <;> cases hn
    | call f args => trivial
    | bad => trivial
  | binOp op t x y yt =>
    refine Good.of_fits (m := do eqGuard op t x y (a.eval x) (a.eval y); binOp op t (a.eval x) (a.eval y)) (one fun hx => one fun hy => fits_bin hT hm o.dst op t x y _ _ _ _ hx hy) (by simp [execOp, ho])
  | unOp op t x => exact Good.of_fits (one fun hr => fits_un hm o.dst op _ _ hr) (by simp [execOp, ho])
  | convert src t x => exact Good.of_fits (one fun hr => fits_convert hT hm o.dst src t _ _ hr) (by simp [execOp, ho])
  | makeFunc fn first captured =>
    simp only [aop]
    cases fn with
    | func f =>
      obtain ⟨first⟩ := first
      cases first with
      | nil =>
        have hf : Fits P c rd mp s.st s.nx w (.ok none (.fn f (captured.toList.map (ev s)))) (pure (.func (.func f) #[] (captured.map a.eval))) :=
          fun _ => .here hm (by simp) (.fn _ _ _ _ (args_rel hs captured).1 (args_rel hs captured).2)
        exact Good.of_fits hf (by simp [execOp, ho, Instr.makeFunc])
      | cons x l => trivial
    | _ => trivial
  | makeSlice t x y => exact Good.of_fits (one fun hx => one fun hy => fits_make hT hm t _ _ _ _ hx hy) (by simp [execOp, ho])
  | slice t x lo hi mx =>
    refine Good.of_fits (one fun hx => Fits.also fun hcl => Fits.also fun hch => fits_cut hT hm o.dst t _ _ _ _ _ (lo.map a.eval) (hi.map a.eval) (mx.map a.eval) hx ?_ ?_ ?_ ?_ ?_) (by simp [execOp, ho])
    · intro y hy
      obtain ⟨z, rfl, rfl⟩ := Option.map_eq_some_iff.1 hy
      exact ⟨_, rfl, rel_strip (rel_ev hs z) hcl⟩
    · intro h; cases lo <;> simp at h ⊢
    · intro y hy
      obtain ⟨z, rfl, rfl⟩ := Option.map_eq_some_iff.1 hy
      exact ⟨_, rfl, rel_strip (rel_ev hs z) hch⟩
    · intro h; cases hi <;> simp at h ⊢
    · intro h; cases mx <;> simp at h ⊢
  | fieldAddr t x i => exact Good.of_fits (one fun hr => fits_fieldAddr hT hm t i _ _ hr) (by simp [execOp, ho])
  | field t x i => exact Good.of_fits (one fun hr => fits_field hT hm t i _ _ hr) (by simp [execOp, ho])
  | indexAddr t x i => exact Good.of_fits (one fun hx => one fun hy => fits_indexAddr hT hm t _ _ _ _ hx hy) (by simp [execOp, ho])
  | index t x i => exact Good.of_fits (one fun hx => one fun hy => fits_index hT hm t _ _ _ _ hx hy) (by simp [execOp, ho])
  | extract x i => exact Good.of_fits (one fun hr => fits_extract hm i _ _ hr) (by simp [execOp, ho])
  | call cl =>
    obtain ⟨callee, args, ats⟩ := cl
    simp only [aop]
    cases callee with
    | builtin b =>
      obtain ⟨args⟩ := args
      obtain ⟨ats⟩ := ats
      obtain ⟨cs, hex⟩ : ∃ cs, execOp a.eval o = builtin b ⟨ats⟩ o.type cs ((⟨args⟩ : Array Operand).map a.eval) := by
        simp only [execOp, ho, resolve, invoke]
        exact ⟨_, rfl⟩
      rw [hex]
      have fits : obT (scondL (args.map (ev s))) → ∃ m : Sem Value, builtin b ⟨ats⟩ o.type cs ((⟨args⟩ : Array Operand).map a.eval) = (do pure (.value (← m))) ∧ Fits P c rd mp s.st s.nx w (builtinO T s b ats (args.map fun x => strip (ev s x))) m ∨
          builtinO T s b ats (args.map fun x => strip (ev s x)) = .bad := by
        intro hc
        have hr : ∀ x ∈ args, Rel rd mp (strip (ev s x)) (a.eval x) := fun x hx => rel_strip (rel_ev hs x) (scondL_mem hc _ (List.mem_map.2 ⟨x, hx, rfl⟩))
        unfold builtinO
        split
        · rename_i t y hb
          match args, hb, hr with
          | [x], hb, hr =>
            simp only [List.map_cons, List.map_nil, List.cons.injEq, and_true] at hb
            subst hb
            exact ⟨Builtin.len_ #[t] o.type #[a.eval x], .inl ⟨by simp [builtin], fits_len hT hm t o.type _ _ (hr x (by simp))⟩⟩
        · rename_i t t' x' y' hb
          match args, hb, hr with
          | [x, y], hb, hr =>
            simp only [List.map_cons, List.map_nil, List.cons.injEq, and_true] at hb
            obtain ⟨rfl, rfl⟩ := hb
            cases ht : Nat.beq t t' with
            | false => exact ⟨pure (.bool true), .inr rfl⟩
            | true =>
              obtain rfl : t = t' := Nat.eq_of_beq_eq_true ht
              exact ⟨Builtin.append_ #[t, t] o.type #[a.eval x, a.eval y], .inl ⟨by simp [builtin], fits_append hT hm t o.type _ _ _ _ (hr x (by simp)) (hr y (by simp))⟩⟩
        · rename_i t t' x' y' hb
          match args, hb, hr with
          | [x, y], hb, hr =>
            simp only [List.map_cons, List.map_nil, List.cons.injEq, and_true] at hb
            obtain ⟨rfl, rfl⟩ := hb
            exact ⟨Builtin.min_ ⟨[t, t']⟩ o.type #[a.eval x, a.eval y], .inl ⟨by simp [builtin], fits_min hm ⟨[t, t']⟩ o.type false _ _ _ _ (hr x (by simp)) (hr y (by simp))⟩⟩
        · rename_i t t' x' y' hb
          match args, hb, hr with
          | [x, y], hb, hr =>
            simp only [List.map_cons, List.map_nil, List.cons.injEq, and_true] at hb
            obtain ⟨rfl, rfl⟩ := hb
            exact ⟨Builtin.max_ ⟨[t, t']⟩ o.type #[a.eval x, a.eval y], .inl ⟨by simp [builtin], fits_min hm ⟨[t, t']⟩ o.type true _ _ _ _ (hr x (by simp)) (hr y (by simp))⟩⟩
        · exact ⟨pure (.bool true), .inr rfl⟩
      have galso : ∀ {p : Option Prop} {r : OR} {m : Sem Next}, (obT p → Good P c rd mp s.st s.nx w r m) → Good P c rd mp s.st s.nx w (also p r) m := by
        intro p r m h
        cases r with
        | ok ob v => exact fun hob => h ((obT_andO _ _).1 hob).1 ((obT_andO _ _).1 hob).2
        | mem ob v st' nx' => exact fun hob => h ((obT_andO _ _).1 hob).1 ((obT_andO _ _).1 hob).2
        | call f args => trivial
        | bad => trivial
      refine galso fun hc => ?_
      obtain ⟨m, ⟨h1, h2⟩ | h⟩ := fits hc
      · exact Good.of_fits h2 h1
      · simp only [h]; trivial
    | value f =>
      simp only [callO]
      have hf := rel_ev hs f
      split
      · rename_i g caps hg
        rw [hg] at hf
        generalize hv : a.eval f = v at hf
        cases hf with
        | fn _ _ _ vs h1 h2 =>
          refine ⟨args.map a.eval ++ vs, ?_, (args_rel hs args).append ⟨h1, h2⟩⟩
          simp [execOp, ho, resolve, Deferred.ofValue, hv, invoke]
      · trivial
    | invoke r m => trivial
  | _ => trivial

end Go.Sx
