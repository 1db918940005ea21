/- Contracts: a clause's literals are sorted; what stands twice goes. -/
import Derived.Test.YtcfllgdfhfcicaaDoorQ3
import Derived.Test.YtcfllgdfhfcicaaDoorQCnP
import Derived.Test.YtcfllgdfhfcicaaDoorQShYtcfllgdfhfcicaaDoor
import Derived.Test.YtcfllgdfhfcicaaDoorChecked
import Derived.Shelf.SlSortCmp.NoneTotal
import Derived.Shelf.Slices.CompactI
set_option linter.unusedSimpArgs false
set_option linter.unusedVariables false
namespace Go.Proofs.YtcfllgdfhfcicaaDoor
open Go Go.Sx Go.RowKit Go.Sort Go.Cl
set_option maxRecDepth 100000

/-- A literal's variable, as the machine reckons at whatever number. -/
def absW (l : Int) : Int := if l < 0 then wrap64 (-l) else l
def cmpW (a b : Int) : Int := if cmp2 (absW a) (absW b) ≠ 0 then cmp2 (absW a) (absW b) else cmp2 b a

theorem cmpW_neg (a b : Int) : cmpW a b < 0 ↔ absW a < absW b ∨ (absW a = absW b ∧ b < a) := by
  unfold cmpW
  by_cases h : absW a = absW b
  · rw [if_neg (fun k => k ((cmp2_zero _ _).2 h)), cmp2_neg]
    omega
  · rw [if_pos (fun k => h ((cmp2_zero _ _).1 k)), cmp2_neg]
    omega

theorem ltW_iff (a b : Int) : (ltOf cmpW) a b = true ↔ absW a < absW b ∨ (absW a = absW b ∧ b < a) := by
  unfold ltOf
  rw [decide_eq_true_eq]
  exact cmpW_neg a b

theorem ltW_not (a b : Int) : (ltOf cmpW) a b = false ↔ ¬ (absW a < absW b ∨ (absW a = absW b ∧ b < a)) := by
  rw [← ltW_iff]; simp

theorem swoW : SWO (ltOf cmpW) where
  irrefl x := (ltW_not x x).2 (by omega)
  trans x y z h k := (ltW_iff x z).2 (by have h := (ltW_iff x y).1 h; have k := (ltW_iff y z).1 k; omega)
  ntrans x y z h k := (ltW_not x z).2 (by have h := (ltW_not x y).1 h; have k := (ltW_not y z).1 k; omega)

theorem totW (x y : Int) (h : (ltOf cmpW) x y = false) (k : (ltOf cmpW) y x = false) : x = y := by
  have h := (ltW_not x y).1 h
  have k := (ltW_not y x).1 k
  omega

theorem absW_lit {l : Int} (h : litB l = true) : absW l = absI l := by
  have h := (lit_iff l).1 h
  unfold absW absI
  split
  · unfold wrap64; omega
  · rfl

theorem sortW_eq {c : List Int} (h : rightB c = true) : (c.mergeSort fun x y => !(ltOf cmpW) y x) = sortL c := by
  have hl : ∀ x ∈ c, litB x = true := List.all_eq_true.1 h
  have := List.map_mergeSort (f := id) (r := fun x y => !(ltOf cmpW) y x) (s := fun x y => !ltB y x) (l := c) (fun a ha b hb => by
    have e : (ltOf cmpW) b a = ltB b a := by
      rw [Bool.eq_iff_iff, ltW_iff, ltOf_iff, absW_lit (hl a ha), absW_lit (hl b hb)]
      rfl
    show (!(ltOf cmpW) b a) = !ltB b a
    rw [e])
  rw [List.map_id, List.map_id] at this
  exact this

theorem isNaN_raw (x : Int) (w : World) : Calls Tryd.prog 53 #[.int .i64 x] w fun e w' => e = .returned (.bool false) ∧ w' = w := by
  go_enter Tryd.func53, Tryd.ntmps53
  go_wp2
  go_ret
  exact ⟨rfl, rfl⟩

theorem var_raw (l : Int) (w : World) : Calls Tryd.prog 32 #[.int .i64 l] w fun e w' => e = .returned (.int .i64 (absW l)) ∧ w' = w := by
  go_enter Tryd.func32, Tryd.ntmps32
  go_wp2
  · go_ret; refine ⟨?_, rfl⟩
    rw [show absW l = wrap64 (-l) from if_pos ‹_›]; rfl
  · go_ret; refine ⟨?_, rfl⟩
    rw [show absW l = l from if_neg (by omega)]; rfl

theorem compare_raw (x y : Int) (w : World) : Calls Tryd.prog 31 #[.int .i64 x, .int .i64 y] w fun e w' => e = .returned (.int .i64 (cmp2 x y)) ∧ w' = w := by
  go_enter Tryd.func31, Tryd.ntmps31
  go_wp2_with (go_at_call 53; refine (isNaN_raw _ _).mono ?_; rintro e w' ⟨rfl, rfl⟩)
  · go_ret; refine ⟨?_, rfl⟩
    rw [show cmp2 x y = -1 from if_pos ‹_›]; rfl
  · go_ret; refine ⟨?_, rfl⟩
    rw [show cmp2 x y = 1 from (if_neg (by omega)).trans (if_pos (by omega))]; rfl
  · go_ret; refine ⟨?_, rfl⟩
    rw [show cmp2 x y = 0 from (if_neg (by omega)).trans (if_neg (by omega))]; rfl

set_option maxHeartbeats 4000000 in
theorem norm1_raw (x y : Int) (w : World) : Calls Tryd.prog 30 #[.int .i64 x, .int .i64 y] w fun e w' => e = .returned (.int .i64 (cmpW x y)) ∧ w' = w := by
  go_enter Tryd.func30, Tryd.ntmps30
  go_wp2_with (first | (go_at_call 32; refine (var_raw _ _).mono ?_; rintro e w' ⟨rfl, rfl⟩) | (go_at_call 31; refine (compare_raw _ _ _).mono ?_; rintro e w' ⟨rfl, rfl⟩))
  · go_ret; refine ⟨?_, rfl⟩
    rw [show cmpW x y = cmp2 (absW x) (absW y) from if_pos (bne_iff_ne.1 (by assumption))]; rfl
  · go_ret; refine ⟨?_, rfl⟩
    rw [show cmpW x y = cmp2 y x from if_neg (fun h => h (bne_eq_false_iff_eq.1 (by assumption)))]; rfl

theorem int_own {rd : Rd} {mp : Mp} {ep k : Nat} {sv : Value} (h : mp.row 0 0 = some (sv, ep, k)) (hs : isSl sv = true) : Rel rd mp (.own 0 0 ep k) sv :=
  .own _ _ _ _ _ _ _ _ _ h (Nat.le_refl _) (fun _ => Nat.le_refl _) (fun _ _ => rfl) hs

theorem sort_trip (ep : Nat) (c : List Int) (h0 : 0 < c.length) (hn : c.length ≤ 1000000) (hr : rightB c = true) :
    Trip Tryd.prog 29 [.own 0 0 ep c.length, .fn 30 []] [.row [] 3 1 ep c.length (intF c)] (.tup []) [(0, .row [] 3 1 ep c.length (intF (sortL c)))] 1 := by
  have hl : (sortL c).length = c.length := by simp [sortL]
  refine trip_put Tryd.func29 rfl (by kernel_rfl) c (sortL c) c.length hl (Nat.le_refl _) (.inr ⟨rfl, rfl⟩) [.fn 30 []] [.func (.func 30) #[] #[]] (fun rd mp vs h => ?_) (.tup []) (fun _ => .tuple #[]) h0 (fun rd mp sv' _ _ => .tup _ _ _ rfl fun j x v hx _ => by simp at hx) (fun w g lo cap hH hg hcap => ?_)
  · obtain ⟨a, rfl, ha⟩ := relL_one h
    cases ha with
    | fn _ _ _ vs hs _ =>
      obtain rfl : vs = #[] := by simpa using hs
      rfl
  · have hs := Any.slices_SortFunc_total Tryd.laysSlF6_f29 encI (fun x => rfl) cmpW swoW 30 #[] g lo cap c.toArray w (fun args w => by kernel_rfl) (fun m os dk hs x y => by
      refine (norm1_raw x y _).mono fun e w' ⟨he, hw⟩ => ⟨he, 0, #[], ?_⟩
      rw [hw, grow_empty]
      rfl) hH hg (by simp; omega) totW
    have e1 : c.toArray.size = c.length := by simp
    rw [e1] at hs
    refine hs.mono fun e w' ⟨he, m, os, hw⟩ => ⟨he, ?_⟩
    rw [hw]
    have := putW_sort w g lo m (c.toArray.toList.mergeSort fun x y => !(ltOf cmpW) y x).toArray os
    rw [show c.toArray.toList = c from rfl, sortW_eq hr] at this ⊢
    exact this

theorem compact_trip (ep : Nat) (c : List Int) (h0 : 0 < c.length) (hn : c.length ≤ 1000000) :
    Trip Tryd.prog 33 [.own 0 0 ep c.length] [.row [] 3 1 ep c.length (intF c)] (.own 0 0 (ep + 1) (Lib.compact c).length) [(0, .row [] 3 1 (ep + 1) (Lib.compact c).length (intF (Lib.compact c ++ List.replicate (c.length - (Lib.compact c).length) 0)))] 1 := by
  have hle : (Lib.compact c).length ≤ c.length := by
    rw [compact_eq, List.length_map]
    refine Nat.le_trans (List.length_filter_le ..) ?_
    simp
  refine trip_put Tryd.func33 rfl (by kernel_rfl) c (Lib.compact c ++ List.replicate (c.length - (Lib.compact c).length) 0) (Lib.compact c).length (by simp; omega) hle (.inl (Nat.lt_succ_self _)) [] [] (fun rd mp vs h => ?_) (.own 0 0 (ep + 1) (Lib.compact c).length) (fun v => v) h0 (fun rd mp sv' h hs => int_own h hs) (fun w g lo cap hH hg hcap => ?_)
  · have h1 := h.1
    simpa using h1
  · have hs := Any.slices_Compact_int Tryd.laysNm220 g lo cap c w hH (by omega) hcap
    refine hs.mono fun e w' ⟨he, q, hw⟩ => ⟨he, ?_⟩
    rw [hw]
    exact putW_row w g lo q _

theorem norm1_fn (rd : Rd) (mp : Mp) (vs : Array Value) (h : RelL rd mp [.fn 30 []] vs) : vs.toList = [.func (.func 30) #[] #[]] := by
  obtain ⟨a, rfl, ha⟩ := relL_one h
  cases ha with
  | fn _ _ _ vs hs _ =>
    obtain rfl : vs = #[] := by simpa using hs
    rfl

theorem sort_trip0 (ep : Nat) (F : Nat → List AV) :
    Trip Tryd.prog 29 [.own 0 0 ep 0, .fn 30 []] [.row [] 3 1 ep 0 F] (.tup []) [(0, .row [] 3 1 ep 0 F)] 1 :=
  trip_put0 Tryd.func29 rfl (by kernel_rfl) [.fn 30 []] [.func (.func 30) #[] #[]] norm1_fn (.tup []) (fun _ => .tuple #[]) (fun rd mp sv' _ _ => .tup _ _ _ rfl fun j x v hx _ => by simp at hx)
    (fun w a cap => AnyF.slices_SortFunc_none Tryd.laysSlF06_f29 a cap _ w)

theorem compact_trip0 (ep : Nat) (F : Nat → List AV) :
    Trip Tryd.prog 33 [.own 0 0 ep 0] [.row [] 3 1 ep 0 F] (.own 0 0 ep 0) [(0, .row [] 3 1 ep 0 F)] 1 :=
  trip_put0 Tryd.func33 rfl (by kernel_rfl) [] [] (fun rd mp vs h => by have h1 := h.1; simpa using h1) (.own 0 0 ep 0) (fun v => v) (fun rd mp sv' h hs => int_own h hs)
    (fun w a cap => Any.slices_Compact_int_empty Tryd.laysNm220 a cap w)

end Go.Proofs.YtcfllgdfhfcicaaDoor
