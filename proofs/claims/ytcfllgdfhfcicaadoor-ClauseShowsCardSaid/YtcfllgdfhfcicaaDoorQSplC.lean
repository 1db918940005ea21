/- Contracts: strings.Split and strings.Cut by one byte, strings.TrimPrefix. -/
import Derived.Test.YtcfllgdfhfcicaaDoorQ3
import Derived.Test.YtcfllgdfhfcicaaDoorQSplP
import Derived.Test.YtcfllgdfhfcicaaDoorQShYtcfllgdfhfcicaaDoor
import Derived.Test.YtcfllgdfhfcicaaDoorQMdl
import Derived.Shelf.Strings.SplitShaped
import Derived.Shelf.Strings.Cut
import Derived.Shelf.Strings.Prefix
set_option linter.unusedSimpArgs false
set_option linter.unusedVariables false
namespace Go.Proofs
open Go Go.Shelf Go.RowKit Go.Lib
variable {P : Program} {ρ : Ren}

theorem indexB_one (s : ByteArray) (c : UInt8) : Lib.indexB s ⟨#[c]⟩ = Lib.indexByte s.data.toList c := Lib.index_one s.data.toList c

theorem AnyOne.count (L : Lays.n138 P ρ) (s : ByteArray) (c : UInt8) (w : World) :
    Calls P (ρ.f 138) #[.string s, .string ⟨#[c]⟩] w fun e w' => e = .returned (.int .i64 (Lib.countB s ⟨#[c]⟩)) ∧ w' = w := by
  refine (Any.strings_Count_one L s c w).mono fun e w' ⟨he, hw⟩ => ⟨?_, hw⟩
  rw [he]
  show _ = Ending.returned (Value.int .i64 ((Lib.count s.data.toList [c] : Nat) : Int))
  rw [Lib.count_one]
  rfl

theorem AnyOne.index (L : Lays.n143 P ρ) (s : ByteArray) (c : UInt8) (w : World) :
    Calls P (ρ.f 143) #[.string s, .string ⟨#[c]⟩] w fun e w' => e = .returned (.int .i64 (Lib.indexB s ⟨#[c]⟩)) ∧ w' = w := by
  refine (Any.strings_Index_one L s c w).mono fun e w' ⟨he, hw⟩ => ⟨?_, hw⟩
  rw [he, indexB_one]

set_option maxHeartbeats 1000000 in
theorem AnyOne.split (L : Lays.n146 P ρ) (hi9 : (P.info? (ρ.t 9)).map (fun i => (i.zero, i.size, i.bytes)) = some (some (.string ByteArray.empty), 1, 16)) (s : ByteArray) (b : UInt8) (w : World)
    (hs : s.size < 4294967281) :
    Calls P (ρ.f 146) #[.string s, .string ⟨#[b]⟩] w fun e w' =>
      e = .returned (.slice (some ⟨w.heap.size, 0, none⟩) (Lib.countB s ⟨#[b]⟩ + 1) (Lib.countB s ⟨#[b]⟩ + 1)) ∧ w' = w.alloc (.cells ((Lib.splitB ⟨#[b]⟩ 0 (Lib.countB s ⟨#[b]⟩) s).map Value.string).toArray (ρ.t 9)) := by
  obtain ⟨sep, hsep⟩ : ∃ sep : ByteArray, sep = ⟨#[b]⟩ := ⟨_, rfl⟩
  have h1 : 1 ≤ sep.size := by rw [hsep]; exact Nat.le_refl 1
  have hle := Lib.countB_le sep h1 s.size s (Nat.le_refl _)
  have hlen := Lib.splitB_all sep h1 0 _ s rfl
  have c := Any.strings_genSplit_core { L with } hi9 s sep 0 (-1) (Lib.countB s sep + 1) w hs h1 (Nat.zero_le _)
    (fun x c hx => by rw [hsep]; exact AnyOne.index { L with } x b _) (by rw [hsep]; exact AnyOne.count { L with } s b w) (by decide) (by decide) (by rw [if_pos (by decide)]; omega)
  rw [Nat.add_sub_cancel, hlen] at c
  have e2 : Lib.cellsOf (Lib.splitB sep 0 (Lib.countB s sep) s) (Lib.countB s sep + 1) = ((Lib.splitB sep 0 (Lib.countB s sep) s).map Value.string).toArray := by rw [← hlen]; exact Lib.cellsOf_full _
  rw [e2] at c
  rw [← hsep]
  clear hsep
  have t3 := L.t3; have t9 := L.t9; have t31 := L.t31
  have a3 := L.a3; have a9 := L.a9; have a31 := L.a31
  have z3 := L.z3; have v3 := L.v3; have z9 := L.z9; have v9 := L.v9; have z31 := L.z31; have v31 := L.v31
  have e221 : ∀ args w, (callFunc (ρ.f 221) args).run P w = .ok (.enter (ρ.f 221) args) w := enters_of L.f221 (by kernel_rfl) rfl
  go_enter L.f146, Body.n146_ntmps ρ
  go_wp2_with (go_at_fn (ρ.f 221); refine c.mono ?_; rintro e w' ⟨rfl, hw⟩; rw [hw])
  go_ret
  exact ⟨rfl, rfl⟩

set_option maxHeartbeats 2000000 in
theorem AnyOne.litecut (L : Lays.n220 P ρ) (s : ByteArray) (b : UInt8) (w : World) (hs : s.size < 4294967281) :
    Calls P (ρ.f 220) #[.string s, .string ⟨#[b]⟩] w fun e w' => e = .returned (.tuple #[.string ⟨(Lib.cut s.data.toList [b]).1.toArray⟩, .string ⟨(Lib.cut s.data.toList [b]).2.1.toArray⟩, .bool (Lib.cut s.data.toList [b]).2.2]) ∧ ∃ n, w' = w.drewN n := by
  obtain ⟨sep, hsep⟩ : ∃ sep : ByteArray, sep = ⟨#[b]⟩ := ⟨_, rfl⟩
  rw [← hsep, show [b] = sep.data.toList by rw [hsep]]
  have hI : ∀ w, Calls P (ρ.f 219) #[.string s, .string sep] w fun e w' => e = .returned (.int .i64 (Lib.indexB s sep)) ∧ w' = w := fun w => by
    rw [hsep]
    refine (Any.stringslite_Index_one { L with } s b w).mono fun e w' ⟨he, hw⟩ => ⟨?_, hw⟩
    rw [he, indexB_one]
  have hsz : sep.size = 1 := by rw [hsep]; rfl
  clear hsep
  rcases Lib.indexB_cases s sep with hix | ⟨i, hix, hroom⟩
  · obtain ⟨e1, e2, e3⟩ := Lib.cutB_miss s sep hix
    rw [e1, e2, e3]
    have t3 := L.t3; have t4 := L.t4; have t9 := L.t9
    have a3 : ∀ w, (isAgg (ρ.t 3)).run P w = .ok false w := run_isAgg_plain L.t3 rfl; have a4 : ∀ w, (isAgg (ρ.t 4)).run P w = .ok false w := run_isAgg_plain L.t4 rfl; have a9 : ∀ w, (isAgg (ρ.t 9)).run P w = .ok false w := run_isAgg_plain L.t9 rfl
    have e219 : ∀ args w, (callFunc (ρ.f 219) args).run P w = .ok (.enter (ρ.f 219) args) w := enters_of L.f219 (by kernel_rfl) rfl
    have mixed := L.mixed; have z3 := L.z3; have v3 := L.v3; have z4 := L.z4; have v4 := L.v4; have z9 := L.z9; have v9 := L.v9
    go_enter L.f220, Body.n220_ntmps ρ
    go_wp2_with (go_at_fn (ρ.f 219); refine (hI _).mono ?_; rintro e w' ⟨rfl, rfl⟩; rw [show Lib.indexB s sep = _ from hix])
    go_ret3
    exact ⟨rfl, 0, rfl⟩
  · obtain ⟨e1, e2, e3⟩ := Lib.cutB_hit s sep i hix
    rw [e1, e2, e3]
    have c1 : (0 : Int) ≤ ↑i := by omega
    have c2 : (↑i : Int) ≤ ↑s.size := by omega
    have c3 : (0 : Int) ≤ ↑i + ↑sep.size := by omega
    have c4 : (↑i + ↑sep.size : Int) ≤ ↑s.size := by omega
    have t3 := L.t3; have t4 := L.t4; have t9 := L.t9
    have a3 : ∀ w, (isAgg (ρ.t 3)).run P w = .ok false w := run_isAgg_plain L.t3 rfl; have a4 : ∀ w, (isAgg (ρ.t 4)).run P w = .ok false w := run_isAgg_plain L.t4 rfl; have a9 : ∀ w, (isAgg (ρ.t 9)).run P w = .ok false w := run_isAgg_plain L.t9 rfl
    have e219 : ∀ args w, (callFunc (ρ.f 219) args).run P w = .ok (.enter (ρ.f 219) args) w := enters_of L.f219 (by kernel_rfl) rfl
    have mixed := L.mixed; have z3 := L.z3; have v3 := L.v3; have z4 := L.z4; have v4 := L.v4; have z9 := L.z9; have v9 := L.v9
    go_enter L.f220, Body.n220_ntmps ρ
    go_wp2_with (go_at_fn (ρ.f 219); refine (hI _).mono ?_; rintro e w' ⟨rfl, rfl⟩; rw [show Lib.indexB s sep = _ from hix])
    go_region_o
    go_wp2
    go_ret3
    exact ⟨by rw [hsz]; rfl, 1, rfl⟩

set_option maxHeartbeats 1000000 in
theorem AnyOne.cut (L : Lays.n145 P ρ) (s : ByteArray) (b : UInt8) (w : World) (hs : s.size < 4294967281) :
    Calls P (ρ.f 145) #[.string s, .string ⟨#[b]⟩] w fun e w' => e = .returned (.tuple #[.string ⟨(Lib.cut s.data.toList [b]).1.toArray⟩, .string ⟨(Lib.cut s.data.toList [b]).2.1.toArray⟩, .bool (Lib.cut s.data.toList [b]).2.2]) ∧ ∃ n, w' = w.drewN n := by
  have hC := AnyOne.litecut { L with } s b w hs
  obtain ⟨sep, hsep⟩ : ∃ sep : ByteArray, sep = ⟨#[b]⟩ := ⟨_, rfl⟩
  rw [← hsep] at hC ⊢
  clear hsep
  have t4 := L.t4; have t9 := L.t9; have t59 := L.t59
  have a4 : ∀ w, (isAgg (ρ.t 4)).run P w = .ok false w := run_isAgg_plain L.t4 rfl; have a9 : ∀ w, (isAgg (ρ.t 9)).run P w = .ok false w := run_isAgg_plain L.t9 rfl; have a59 : ∀ w, (isAgg (ρ.t 59)).run P w = .ok false w := run_isAgg_plain L.t59 rfl
  have e220 : ∀ args w, (callFunc (ρ.f 220) args).run P w = .ok (.enter (ρ.f 220) args) w := enters_of L.f220 (by kernel_rfl) rfl
  have mixed := L.mixed; have z4 := L.z4; have v4 := L.v4; have z9 := L.z9; have v9 := L.v9; have z59 := L.z59; have v59 := L.v59
  go_enter L.f145, Body.n145_ntmps ρ
  go_wp2_with (go_at_fn (ρ.f 220); refine hC.mono ?_; rintro e w' ⟨rfl, n, rfl⟩)
  go_ret3
  exact ⟨rfl, n, rfl⟩

theorem below_drewM {B : Nat} {a w : World} (h : Below B a w) (n : Nat) : Below B a (w.drewN n) := ⟨h.os, h.tape, h.output, h.size, h.block⟩

end Go.Proofs
namespace Go.Proofs.YtcfllgdfhfcicaaDoor
open Go Go.Sx Go.RowKit
set_option maxRecDepth 100000

theorem split_con (s : List UInt8) (c : UInt8) (hs : s.length ≤ 1000000) : Con Tryd.prog 58 [.str s, .str [c]] (strs (Sp.spL c s)) := by
  have hne := Sp.spL_ne c s
  have h0 : 0 < (Sp.spL c s).length := List.length_pos_iff.2 hne
  refine con_row Tryd.func58 rfl (by kernel_rfl) [.str s, .str [c]] h0 (fun i hi => by unfold encL; rfl) fun rd w vs hm ha => ?_
  obtain ⟨a, b, rfl, h1, h2⟩ := relL_two ha
  obtain rfl := rel_str_eq h1
  obtain rfl := rel_str_eq h2
  have h := AnyOne.split Tryd.lays146 (by kernel_rfl) ⟨s.toArray⟩ c w (by simp [ByteArray.size]; omega)
  have hd := Lib.splitB_data ⟨#[c]⟩ 0 (Lib.countB ⟨s.toArray⟩ ⟨#[c]⟩) ⟨s.toArray⟩
  have hd2 : (Lib.splitB ⟨#[c]⟩ 0 (Lib.countB ⟨s.toArray⟩ ⟨#[c]⟩) ⟨s.toArray⟩).map (·.data.toList) = Sp.spL c s := hd.trans (Sp.split_one c s)
  have hlen := Lib.splitB_all ⟨#[c]⟩ (Nat.le_refl 1) 0 _ ⟨s.toArray⟩ rfl
  generalize Lib.splitB ⟨#[c]⟩ 0 (Lib.countB ⟨s.toArray⟩ ⟨#[c]⟩) ⟨s.toArray⟩ = L at h hd2 hlen
  rw [← hlen] at h
  have hl2 : L.length = (Sp.spL c s).length := by rw [← hd2, List.length_map]
  rw [hl2] at h
  refine h.mono fun x w' ⟨he, hw⟩ => ⟨_, _, _, he, Nat.le_refl _, hw, ?_, fun i hi => ?_⟩
  · intro v hv
    simp only [List.mem_toArray, List.mem_map] at hv
    obtain ⟨b, _, rfl⟩ := hv
    rfl
  · have hi' : i < L.length := by rw [hl2]; exact hi
    refine ⟨.string L[i], by simp [hi'], fun x hx => ?_⟩
    have e : (Sp.spL c s).getD i [] = L[i].data.toList := by
      rw [← hd2, List.getD_eq_getElem?_getD, List.getElem?_map, List.getElem?_eq_getElem hi']; rfl
    simp only [encL, e, List.getElem?_cons_zero, Option.some.injEq] at hx
    subst hx
    exact .str _ _

end Go.Proofs.YtcfllgdfhfcicaaDoor
