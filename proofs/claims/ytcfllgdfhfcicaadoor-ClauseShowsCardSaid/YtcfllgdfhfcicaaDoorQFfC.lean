/- Contracts: strings.FieldsFunc with the program's predicate, strings.HasPrefix, strings.CutPrefix. -/
import Derived.Test.YtcfllgdfhfcicaaDoorQ3
import Derived.Test.YtcfllgdfhfcicaaDoorQClQ
import Derived.Test.YtcfllgdfhfcicaaDoorQShYtcfllgdfhfcicaaDoor
import Derived.Test.YtcfllgdfhfcicaaDoorQMdl
import Derived.Test.YtcfllgdfhfcicaaDoorQSplC
import Derived.Shelf.Strings.FieldsFuncAny
set_option linter.unusedSimpArgs false
set_option linter.unusedVariables false
namespace Go.Proofs.YtcfllgdfhfcicaaDoor
open Go Go.Sx Go.RowKit
set_option maxRecDepth 100000

/-- Blanks among runes. -/
def blR (x : Nat) : Bool := x == 32 || x == 9 || x == 13

set_option maxHeartbeats 4000000 in
theorem words1_raw (x : Nat) (hx : x ≤ 1114111) (w : World) : Calls Tryd.prog 61 #[.int .i32 (x : Int)] w fun e w' => e = .returned (.bool (blR x)) ∧ w' = w := by
  go_enter Tryd.func61, Tryd.ntmps61
  have key : ∀ c : Nat, ((x : Int) == (c : Int)) = (x == c) := fun c => by
    rw [Bool.eq_iff_iff, beq_iff_eq, beq_iff_eq]
    omega
  go_wp2
  all_goals
    go_ret
    refine ⟨?_, rfl⟩
    unfold blR
  · rw [show x = 32 by omega]; rfl
  · rw [show x = 9 by omega]; rfl
  · show Ending.returned (.bool ((x : Int) == ((32 : Nat) : Int) || (x : Int) == ((9 : Nat) : Int) || (x : Int) == ((13 : Nat) : Int))) = _
    rw [key, key, key]

theorem blR_low (b : UInt8) (h : b.toNat < 128) : blR b.toNat = Sp.blB b := by
  have key : ∀ c : UInt8, (b.toNat == c.toNat) = (b == c) := fun c => by
    rw [Bool.eq_iff_iff, beq_iff_eq, beq_iff_eq]
    exact UInt8.toNat_inj
  unfold blR Sp.blB
  rw [← key 32, ← key 9, ← key 13]
  rfl
theorem blR_high (r : Nat) (h : 128 ≤ r) : blR r = false := by
  unfold blR
  rw [beq_eq_false_iff_ne.2 (by omega), beq_eq_false_iff_ne.2 (by omega), beq_eq_false_iff_ne.2 (by omega)]
  rfl
theorem blB_high (b : UInt8) (h : 128 ≤ b.toNat) : Sp.blB b = false := by
  have key : ∀ c : UInt8, c.toNat < 128 → b ≠ c := fun c hc e => by rw [e] at h; omega
  unfold Sp.blB
  rw [beq_eq_false_iff_ne.2 (key 32 (by decide)), beq_eq_false_iff_ne.2 (key 9 (by decide)), beq_eq_false_iff_ne.2 (key 13 (by decide))]
  rfl

theorem fields_con (s : List UInt8) (hs : s.length ≤ 1000000) : Con Tryd.prog 60 [.str s, .fn 61 []] (strs (Sp.fldB Sp.blB [] s)) := by
  refine con_rowA Tryd.func60 rfl (by kernel_rfl) [.str s, .fn 61 []] (fun i hi => by unfold encL; rfl) fun rd w vs hm ha => ?_
  obtain ⟨a, b, rfl, h1, h2⟩ := relL_two ha
  obtain rfl := rel_str_eq h1
  obtain rfl : b = .func (.func 61) #[] #[] := by
    cases h2 with
    | fn _ _ _ vs hs he =>
      obtain rfl : vs = #[] := Array.eq_empty_of_size_eq_zero hs
      rfl
  have h := Any.strings_FieldsFunc_runes Tryd.lays229 61 #[] (enters_of Tryd.func61 (by kernel_rfl) rfl) blR ⟨s.toArray⟩ w (by simp [ByteArray.size]; omega)
    (fun W x hx _ => (words1_raw x hx W).mono fun e w' ⟨h1, h2⟩ => ⟨h1, 0, h2⟩) (by kernel_rfl) (by kernel_rfl)
  have hd : (Lib.goFieldsP blR ⟨s.toArray⟩).map (·.data.toList) = Sp.fldB Sp.blB [] s := Sp.goFieldsP_bytes blR_low blR_high blB_high ⟨s.toArray⟩
  generalize Lib.goFieldsP blR ⟨s.toArray⟩ = L at h hd
  have hl : L.length = (Sp.fldB Sp.blB [] s).length := by rw [← hd, List.length_map]
  rw [hl] at h
  refine h.mono fun x w' ⟨A, he, hA, ho, hbw⟩ => ⟨A, _, _, _, he, hA, ho, hbw, fun v hv => ?_, fun i hi => ?_⟩
  · obtain ⟨b, _, rfl⟩ := List.mem_map.1 hv
    rfl
  · have hi' : i < L.length := by rw [hl]; exact hi
    refine ⟨.string L[i], by simp [hi'], fun x hx => ?_⟩
    have e : (Sp.fldB Sp.blB [] s).getD i [] = L[i].data.toList := by
      rw [← hd, List.getD_eq_getElem?_getD, List.getElem?_map, List.getElem?_eq_getElem hi']; rfl
    simp only [encL, e, List.getElem?_cons_zero, Option.some.injEq] at hx
    subst hx
    exact .str _ _

theorem hasP_con (s p : List UInt8) : Con Tryd.prog 59 [.str s, .str p] (.bool (Lib.hasPrefix s p)) := by
  refine con_flat Tryd.func59 rfl (by kernel_rfl) [.str s, .str p] _ fun rd w vs hm ha => ?_
  obtain ⟨a, b, rfl, h1, h2⟩ := relL_two ha
  obtain rfl := rel_str_eq h1
  obtain rfl := rel_str_eq h2
  exact (Any.strings_HasPrefix Tryd.lays99 ⟨s.toArray⟩ ⟨p.toArray⟩ w).mono fun x w' ⟨he, hw⟩ => ⟨_, he, .bool _ _, by rw [hw]; exact Below.refl _ _⟩

end Go.Proofs.YtcfllgdfhfcicaaDoor
