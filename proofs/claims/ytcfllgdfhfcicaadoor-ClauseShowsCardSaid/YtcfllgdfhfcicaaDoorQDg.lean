/- Contract: the document's numerals. -/
import Derived.Test.YtcfllgdfhfcicaaDoorQMdl
import Derived.Test.YtcfllgdfhfcicaaDoorQ3
import Derived.Lib.ItoaNum
import Derived.Lib.ItoaLen
import Derived.Test.YtcfllgdfhfcicaaDoorChecked
set_option linter.unusedSimpArgs false
set_option linter.unusedVariables false
namespace Go.Proofs.YtcfllgdfhfcicaaDoor
open Go Go.Sx Go.RowKit
set_option maxRecDepth 100000
set_option maxHeartbeats 4000000

theorem itoa_small {n : Int} (h0 : 0 ≤ n) (h1 : n < 10) : Lib.itoa n = [UInt8.ofNat (48 + n.toNat)] := by
  unfold Lib.itoa
  rw [if_neg (by omega), Lib.decDigits, dif_pos (by omega)]

theorem itoa_more {n : Int} (h : 10 ≤ n) : Lib.itoa n = Lib.itoa (n / 10) ++ Lib.itoa (n % 10) := by
  unfold Lib.itoa
  rw [if_neg (by omega), if_neg (by omega), if_neg (by omega), Lib.decDigits, dif_neg (by omega), show n.toNat / 10 = (n / 10).toNat by omega]
  congr 1
  rw [Lib.decDigits, dif_pos (by omega)]
  congr 2
  omega

theorem itoa_neg {n : Int} (h : n < 0) : Lib.itoa n = 45 :: Lib.itoa (-n) := by
  unfold Lib.itoa
  rw [if_pos h, if_neg (by omega)]
  congr 2
  omega

theorem digits_pos : ∀ (k : Nat) (n : Int), 0 ≤ n → n ≤ 9223372036854775807 → n.toNat ≤ k → Con Tryd.prog 45 [iv n] (.str (Lib.itoa n)) := by
  intro k
  induction k using Nat.strongRecOn with
  | _ k ih =>
    intro n h0 h1 hk
    refine con_of_exec (T := tab Tryd.prog) (C := {}) 300 (fun _ => rfl) Tryd.func45 rfl (by kernel_rfl) (by kernel_rfl) (fun c0 rdb => ?_)
    have hd : n.tdiv 10 = n / 10 := Int.tdiv_eq_ediv_of_nonneg h0
    have hm : n.tmod 10 = n % 10 := Int.tmod_eq_emod_of_nonneg h0
    (repeat' ((conv => whnf); first | (refine AltG.none (by kernel_rfl) (EndG.go ?_)) | (refine Ob.intro (OrdG.intro (by kernel_rfl)) ?_) | (refine Ob.auto ?_) | (refine Ob.intro (by (first | exact ⟨by omega, by omega⟩ | exact ⟨fun h => absurd h (by decide), ⟨by omega, by omega⟩⟩ | exact ⟨fun h => absurd h (by decide), by rw [hd]; exact ⟨by omega, by omega⟩⟩ | exact ⟨fun h => absurd h (by decide), by rw [hm]; exact ⟨by omega, by omega⟩⟩)) ?_) | (refine draw3n (fun _ => rfl) (by kernel_rfl) 300 (by rfl) ?_) | (refine Br.intro (fun hb => ?_) (fun hb => ?_) <;> (try simp [-List.getD_eq_getElem?_getD] at hb) <;> (try (exfalso; omega))) | (refine Ob.intro ?_ ?_)))
    · exact ⟨show (0 : Int) ≤ 48 + n by omega, show 48 + n ≤ (255 : Int) by omega⟩
    · refine fun i hi => ⟨UInt8.ofNat (48 + n.toNat), ?_⟩
      obtain rfl : i = 0 := by omega
      show [AV.int IntKind.u8 (48 + n)] = [AV.int IntKind.u8 _]
      rw [UInt8.toNat_ofNat']
      congr 2
      omega
    · rw [itoa_small h0 hb]
      refine Le.of_eq (congrArg AV.str ?_)
      show [(48 + n).toNat.toUInt8] = [UInt8.ofNat (48 + n.toNat)]
      rw [show (48 + n).toNat = 48 + n.toNat by omega]
    · exact ⟨by decide, by rw [hd]; exact ⟨show (-9223372036854775808 : Int) ≤ _ by omega, show _ ≤ (9223372036854775807 : Int) by omega⟩⟩
    · have c1 := ih (k - 1) (by omega) (n / 10) (by omega) (by omega) (by omega)
      have c2 := ih (k - 1) (by omega) (n % 10) (by omega) (by omega) (by omega)
      have l1 := Lib.itoa_length_le (n / 10) (by omega) (by omega)
      have l2 := Lib.itoa_length_le (n % 10) (by omega) (by omega)
      rw [← hd] at c1 l1
      rw [← hm] at c2 l2
      (repeat' ((conv => whnf); first | (refine AltG.none (by kernel_rfl) (EndG.go ?_)) | (refine Ob.intro (OrdG.intro (by kernel_rfl)) ?_) | (refine Ob.auto ?_) | (refine Ob.intro (by (first | exact ⟨by omega, by omega⟩ | exact ⟨by decide, by rw [hm]; exact ⟨show (-9223372036854775808 : Int) ≤ _ by omega, show _ ≤ (9223372036854775807 : Int) by omega⟩⟩ | (show _ ≤ (9223372036854775807 : Nat); omega))) ?_) | (refine call_eq (fun _ => rfl) 300 (c1) (by rfl) (by kernel_rfl) ?_) | (refine gcall_eq (fun _ => rfl) 300 (fun hg => c1) (by rfl) rflsA (by kernel_rfl) ?_) | (refine CallY.con (c1) (by rfl) leA ?_) | (refine CallZ.con (fun hg => c1) rflsA (by rfl) ?_) | (refine call_eq (fun _ => rfl) 300 (c2) (by rfl) (by kernel_rfl) ?_) | (refine gcall_eq (fun _ => rfl) 300 (fun hg => c2) (by rfl) rflsA (by kernel_rfl) ?_) | (refine CallY.con (c2) (by rfl) leA ?_) | (refine CallZ.con (fun hg => c2) rflsA (by rfl) ?_) | (refine call_lend (fun _ => rfl) 300 (c1) holdA (by repeat' (first | exact trivial | exact Le.refl _ | (refine And.intro ?_ ?_))) (by rfl) (by kernel_rfl) ?_) | (refine gcall_lend (fun _ => rfl) 300 (fun hg => c1) (fun hg => holdA) (fun hg => (by repeat' (first | exact trivial | exact Le.refl _ | exact Le.cnd hg | (refine And.intro ?_ ?_)))) (by rfl) (by kernel_rfl) ?_) | (refine call_lend (fun _ => rfl) 300 (c2) holdA (by repeat' (first | exact trivial | exact Le.refl _ | (refine And.intro ?_ ?_))) (by rfl) (by kernel_rfl) ?_) | (refine gcall_lend (fun _ => rfl) 300 (fun hg => c2) (fun hg => holdA) (fun hg => (by repeat' (first | exact trivial | exact Le.refl _ | exact Le.cnd hg | (refine And.intro ?_ ?_)))) (by rfl) (by kernel_rfl) ?_) | (refine draw3n (fun _ => rfl) (by kernel_rfl) 300 (by rfl) ?_) | (refine Br.intro (fun hb => ?_) (fun hb => ?_) <;> (try simp [-List.getD_eq_getElem?_getD] at hb) <;> (try (exfalso; omega))) | (refine Ob.intro ?_ ?_)))
      rw [hd, hm, ← itoa_more hb]
      exact Le.refl _

theorem digits_con (n : Int) (h0 : -9223372036854775807 ≤ n) (h1 : n ≤ 9223372036854775807) : Con Tryd.prog 45 [iv n] (.str (Lib.itoa n)) := by
  by_cases h : 0 ≤ n
  · exact digits_pos n.toNat n h h1 (Nat.le_refl _)
  · have c := digits_pos (-n).toNat (-n) (by omega) (by omega) (Nat.le_refl _)
    have l1 := Lib.itoa_length_le (-n) (by omega) (by omega)
    rw [← Int.zero_sub] at c l1
    refine con_of_exec (T := tab Tryd.prog) (C := {}) 300 (fun _ => rfl) Tryd.func45 rfl (by kernel_rfl) (by kernel_rfl) (fun c0 rdb => ?_)
    (repeat' ((conv => whnf); first | (refine AltG.none (by kernel_rfl) (EndG.go ?_)) | (refine Ob.intro (OrdG.intro (by kernel_rfl)) ?_) | (refine Ob.auto ?_) | (refine Ob.intro (by (first | exact ⟨by omega, by omega⟩ | (show _ ≤ (9223372036854775807 : Nat); simp; omega))) ?_) | (refine call_eq (fun _ => rfl) 300 (c) (by rfl) (by kernel_rfl) ?_) | (refine gcall_eq (fun _ => rfl) 300 (fun hg => c) (by rfl) rflsA (by kernel_rfl) ?_) | (refine CallY.con (c) (by rfl) leA ?_) | (refine CallZ.con (fun hg => c) rflsA (by rfl) ?_) | (refine call_lend (fun _ => rfl) 300 (c) holdA (by repeat' (first | exact trivial | exact Le.refl _ | (refine And.intro ?_ ?_))) (by rfl) (by kernel_rfl) ?_) | (refine gcall_lend (fun _ => rfl) 300 (fun hg => c) (fun hg => holdA) (fun hg => (by repeat' (first | exact trivial | exact Le.refl _ | exact Le.cnd hg | (refine And.intro ?_ ?_)))) (by rfl) (by kernel_rfl) ?_) | (refine draw3n (fun _ => rfl) (by kernel_rfl) 300 (by rfl) ?_) | (refine Br.intro (fun hb => ?_) (fun hb => ?_) <;> (try simp [-List.getD_eq_getElem?_getD] at hb) <;> (try (exfalso; omega))) | (refine Ob.intro ?_ ?_)))
    · show 1 + _ ≤ _
      omega
    · have e : Lib.itoa n = [45] ++ Lib.itoa (0 - n) := by rw [itoa_neg (by omega), Int.zero_sub]; rfl
      rw [e]
      exact Le.refl _

end Go.Proofs.YtcfllgdfhfcicaaDoor
