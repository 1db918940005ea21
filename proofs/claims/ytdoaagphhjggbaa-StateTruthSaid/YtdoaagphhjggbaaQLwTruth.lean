/- The law StateTruth: what is so and what isn't is told as 1 and 0. -/
import Derived.Test.YtdoaagphhjggbaaQ41
import Derived.Test.YtdoaagphhjggbaaQ38
import Derived.Test.YtdoaagphhjggbaaQ2
namespace Go.Proofs.Ytdoaagphhjggbaa
open Go Go.Sx Go.RowKit Go.St
set_option maxRecDepth 100000
set_option maxHeartbeats 2000000

theorem mok14b : Go.St.MOk model14b := mod_14b.ok

section
variable (s : Stt)
theorem val_not : val model14b (-1) s 4 = (if (true && s.vars.getD 0 0 == 0) then 1 else 0, true) := by kernel_rfl
theorem val_and : val model14b (-1) s 7 = (if (s.vars.getD 0 0 != 0 && s.vars.getD 1 0 != 0) then 1 else 0, true) := by kernel_rfl
theorem val_or : val model14b (-1) s 11 = (if (s.vars.getD 0 0 != 0 || s.vars.getD 1 0 != 0) then 1 else 0, true) := by kernel_rfl
theorem val_same : val model14b (-1) s 15 = (if (s.vars.getD 0 0 == s.vars.getD 1 0) then 1 else 0, true) := by kernel_rfl
theorem val_less : val model14b (-1) s 19 = (if decide (s.vars.getD 0 0 < s.vars.getD 1 0) then 1 else 0, true) := by kernel_rfl
end

theorem stateTruth_con (x y : Int) : Con Try.prog 4 [iv x, iv y] (.bool true) := by
  have hf := held_fits mok14b [x, y]
  have hz := held_ssz mok14b [x, y]
  have hh := held_con model14b mok14b [x, y]
  refine con_of_exec (T := tab Try.prog) (C := {}) 300 (fun _ => rfl) Try.func4 rfl (by kernel_rfl) (by kernel_rfl) (fun c0 rdb => ?_)
  (repeat' ((conv => whnf); first | refine zA ?_ | refine zO ?_ | refine Ob.auto ?_ | refine zC 300 (awake14) ?_ | refine zG 300 (fun hg => awake14) ?_ | (refine CallY.con (awake14) (by rfl) leA ?_) | (refine CallZ.con (fun hg => awake14) rflsA (by rfl) ?_) | refine zC 300 (parse14b) ?_ | refine zG 300 (fun hg => parse14b) ?_ | (refine CallY.con (parse14b) (by rfl) leA ?_) | (refine CallZ.con (fun hg => parse14b) rflsA (by rfl) ?_) | refine zC 300 (make14b) ?_ | refine zG 300 (fun hg => make14b) ?_ | (refine CallY.con (make14b) (by rfl) leA ?_) | (refine CallZ.con (fun hg => make14b) rflsA (by rfl) ?_) | (refine call_lend (fun _ => rfl) 300 (awake14) holdA (by repeat' (first | exact trivial | exact Le.refl _ | (refine And.intro ?_ ?_))) (by rfl) (by kernel_rfl) ?_) | (refine gcall_lend (fun _ => rfl) 300 (fun hg => awake14) (fun hg => holdA) (fun hg => (by repeat' (first | exact trivial | exact Le.refl _ | exact Le.cnd hg | (refine And.intro ?_ ?_)))) (by rfl) (by kernel_rfl) ?_) | (refine call_lend (fun _ => rfl) 300 (parse14b) holdA (by repeat' (first | exact trivial | exact Le.refl _ | (refine And.intro ?_ ?_))) (by rfl) (by kernel_rfl) ?_) | (refine gcall_lend (fun _ => rfl) 300 (fun hg => parse14b) (fun hg => holdA) (fun hg => (by repeat' (first | exact trivial | exact Le.refl _ | exact Le.cnd hg | (refine And.intro ?_ ?_)))) (by rfl) (by kernel_rfl) ?_) | (refine call_lend (fun _ => rfl) 300 (make14b) holdA (by repeat' (first | exact trivial | exact Le.refl _ | (refine And.intro ?_ ?_))) (by rfl) (by kernel_rfl) ?_) | (refine gcall_lend (fun _ => rfl) 300 (fun hg => make14b) (fun hg => holdA) (fun hg => (by repeat' (first | exact trivial | exact Le.refl _ | exact Le.cnd hg | (refine And.intro ?_ ?_)))) (by rfl) (by kernel_rfl) ?_) | refine zD 300 ?_ | (refine Br.intro (fun hb => ?_) (fun hb => ?_) <;> (try simp [-List.getD_eq_getElem?_getD] at hb) <;> (try (exfalso; omega))) | refine Ob.intro ?_ ?_))
  (conv => whnf)
  refine call_rule (fun _ => rfl) 300 hh (by rfl) ⟨Le.refl _, two_int rfl rfl, trivial⟩ (by kernel_rfl) ?_
  have hv : (heldF model14b [x, y]).vars.length = 2 := by simp [heldF]; rfl
  generalize heldF model14b [x, y] = s at hf hz hv ⊢
  (repeat' ((conv => whnf); first | refine zA ?_ | refine zO ?_ | refine Ob.auto ?_ | refine zD 300 ?_ | (refine Br.intro (fun hb => ?_) (fun hb => ?_) <;> (try simp [-List.getD_eq_getElem?_getD] at hb) <;> (try (exfalso; omega))) | refine Ob.intro ?_ ?_))
  have hsv : ∀ k : Int, 0 ≤ k ∧ k < 22 → sval model14b (-1) s k = valN model14b (-1) s 22 k := fun k hk => if_pos ⟨hk.1, hk.2, hf⟩
  ((conv => whnf); refine loop_auto (fun _ => rfl) 300 1 (fun i : Nat => [(13, iv i), (4, .bool false)]) (fun _ => []) (fun i => i ≤ 5) (fun i => 5 - i) (0) (Nat.zero_le _) subtA subtA (fun _ => rfl) (by kernel_rfl) ?_; (conv => whnf))
  intro i hi
  rcases (by omega : i = 0 ∨ i = 1 ∨ i = 2 ∨ i = 3 ∨ i = 4 ∨ i = 5) with rfl | rfl | rfl | rfl | rfl | rfl
  · have hq : sval model14b (-1) s 4 = (if (s.vars.getD 0 0 == 0) = true then 1 else 0, true) := (hsv 4 (by decide)).trans (val_not s)
    (repeat' ((conv => whnf); first | refine zA ?_ | refine zO ?_ | refine Ob.auto ?_ | (refine Ob.intro (by (decide)) ?_) | refine zC 300 (svalue_con model14b mok14b (-1) s hz 4) ?_ | refine zG 300 (fun hg => svalue_con model14b mok14b (-1) s hz 4) ?_ | (refine CallY.con (svalue_con model14b mok14b (-1) s hz 4) (by rfl) leA ?_) | (refine CallZ.con (fun hg => svalue_con model14b mok14b (-1) s hz 4) rflsA (by rfl) ?_) | (refine call_lend (fun _ => rfl) 300 (svalue_con model14b mok14b (-1) s hz 4) holdA (by repeat' (first | exact trivial | exact Le.refl _ | (refine And.intro ?_ ?_))) (by rfl) (by kernel_rfl) ?_) | (refine gcall_lend (fun _ => rfl) 300 (fun hg => svalue_con model14b mok14b (-1) s hz 4) (fun hg => holdA) (fun hg => (by repeat' (first | exact trivial | exact Le.refl _ | exact Le.cnd hg | (refine And.intro ?_ ?_)))) (by rfl) (by kernel_rfl) ?_) | refine zD 300 ?_ | (refine draw4 (fun _ => rfl) (by kernel_rfl) 300 ?_) | (refine Br.intro (fun hb => ?_) (fun hb => ?_) <;> (try simp [-List.getD_eq_getElem?_getD] at hb) <;> (try (exfalso; omega))) | refine Ob.intro ?_ ?_))
    · exfalso
      rw [hq] at hb
      cases hW : (s.vars.getD 0 0 == 0) <;> rw [hW] at hb <;> simp at hb
    · ((conv => whnf); refine ⟨1, by omega, ⟨subtA, subtA⟩, ⟨subtA, subtA⟩, ?_⟩; (first | omega | (dsimp only; omega) | skip))
  · have hq : sval model14b (-1) s 7 = (if (s.vars.getD 0 0 != 0 && s.vars.getD 1 0 != 0) = true then 1 else 0, true) := (hsv 7 (by decide)).trans (val_and s)
    (repeat' ((conv => whnf); first | refine zA ?_ | refine zO ?_ | refine Ob.auto ?_ | (refine Ob.intro (by (decide)) ?_) | refine zC 300 (svalue_con model14b mok14b (-1) s hz 7) ?_ | refine zG 300 (fun hg => svalue_con model14b mok14b (-1) s hz 7) ?_ | (refine CallY.con (svalue_con model14b mok14b (-1) s hz 7) (by rfl) leA ?_) | (refine CallZ.con (fun hg => svalue_con model14b mok14b (-1) s hz 7) rflsA (by rfl) ?_) | (refine call_lend (fun _ => rfl) 300 (svalue_con model14b mok14b (-1) s hz 7) holdA (by repeat' (first | exact trivial | exact Le.refl _ | (refine And.intro ?_ ?_))) (by rfl) (by kernel_rfl) ?_) | (refine gcall_lend (fun _ => rfl) 300 (fun hg => svalue_con model14b mok14b (-1) s hz 7) (fun hg => holdA) (fun hg => (by repeat' (first | exact trivial | exact Le.refl _ | exact Le.cnd hg | (refine And.intro ?_ ?_)))) (by rfl) (by kernel_rfl) ?_) | refine zD 300 ?_ | (refine draw4 (fun _ => rfl) (by kernel_rfl) 300 ?_) | (refine Br.intro (fun hb => ?_) (fun hb => ?_) <;> (try simp [-List.getD_eq_getElem?_getD] at hb) <;> (try (exfalso; omega))) | refine Ob.intro ?_ ?_))
    · exfalso
      rw [hq] at hb
      cases hW : (s.vars.getD 0 0 != 0 && s.vars.getD 1 0 != 0) <;> rw [hW] at hb <;> simp at hb
    · ((conv => whnf); refine ⟨2, by omega, ⟨subtA, subtA⟩, ⟨subtA, subtA⟩, ?_⟩; (first | omega | (dsimp only; omega) | skip))
  · have hq : sval model14b (-1) s 11 = (if (s.vars.getD 0 0 != 0 || s.vars.getD 1 0 != 0) = true then 1 else 0, true) := (hsv 11 (by decide)).trans (val_or s)
    (repeat' ((conv => whnf); first | refine zA ?_ | refine zO ?_ | refine Ob.auto ?_ | (refine Ob.intro (by (decide)) ?_) | refine zC 300 (svalue_con model14b mok14b (-1) s hz 11) ?_ | refine zG 300 (fun hg => svalue_con model14b mok14b (-1) s hz 11) ?_ | (refine CallY.con (svalue_con model14b mok14b (-1) s hz 11) (by rfl) leA ?_) | (refine CallZ.con (fun hg => svalue_con model14b mok14b (-1) s hz 11) rflsA (by rfl) ?_) | (refine call_lend (fun _ => rfl) 300 (svalue_con model14b mok14b (-1) s hz 11) holdA (by repeat' (first | exact trivial | exact Le.refl _ | (refine And.intro ?_ ?_))) (by rfl) (by kernel_rfl) ?_) | (refine gcall_lend (fun _ => rfl) 300 (fun hg => svalue_con model14b mok14b (-1) s hz 11) (fun hg => holdA) (fun hg => (by repeat' (first | exact trivial | exact Le.refl _ | exact Le.cnd hg | (refine And.intro ?_ ?_)))) (by rfl) (by kernel_rfl) ?_) | refine zD 300 ?_ | (refine draw4 (fun _ => rfl) (by kernel_rfl) 300 ?_) | (refine Br.intro (fun hb => ?_) (fun hb => ?_) <;> (try simp [-List.getD_eq_getElem?_getD] at hb) <;> (try (exfalso; omega))) | refine Ob.intro ?_ ?_))
    · exfalso
      rw [hq] at hb
      cases hW : (s.vars.getD 0 0 != 0 || s.vars.getD 1 0 != 0) <;> rw [hW] at hb <;> simp at hb
    · ((conv => whnf); refine ⟨3, by omega, ⟨subtA, subtA⟩, ⟨subtA, subtA⟩, ?_⟩; (first | omega | (dsimp only; omega) | skip))
  · have hq : sval model14b (-1) s 15 = (if (s.vars.getD 0 0 == s.vars.getD 1 0) = true then 1 else 0, true) := (hsv 15 (by decide)).trans (val_same s)
    (repeat' ((conv => whnf); first | refine zA ?_ | refine zO ?_ | refine Ob.auto ?_ | (refine Ob.intro (by (decide)) ?_) | refine zC 300 (svalue_con model14b mok14b (-1) s hz 15) ?_ | refine zG 300 (fun hg => svalue_con model14b mok14b (-1) s hz 15) ?_ | (refine CallY.con (svalue_con model14b mok14b (-1) s hz 15) (by rfl) leA ?_) | (refine CallZ.con (fun hg => svalue_con model14b mok14b (-1) s hz 15) rflsA (by rfl) ?_) | (refine call_lend (fun _ => rfl) 300 (svalue_con model14b mok14b (-1) s hz 15) holdA (by repeat' (first | exact trivial | exact Le.refl _ | (refine And.intro ?_ ?_))) (by rfl) (by kernel_rfl) ?_) | (refine gcall_lend (fun _ => rfl) 300 (fun hg => svalue_con model14b mok14b (-1) s hz 15) (fun hg => holdA) (fun hg => (by repeat' (first | exact trivial | exact Le.refl _ | exact Le.cnd hg | (refine And.intro ?_ ?_)))) (by rfl) (by kernel_rfl) ?_) | refine zD 300 ?_ | (refine draw4 (fun _ => rfl) (by kernel_rfl) 300 ?_) | (refine Br.intro (fun hb => ?_) (fun hb => ?_) <;> (try simp [-List.getD_eq_getElem?_getD] at hb) <;> (try (exfalso; omega))) | refine Ob.intro ?_ ?_))
    · exfalso
      rw [hq] at hb
      cases hW : (s.vars.getD 0 0 == s.vars.getD 1 0) <;> rw [hW] at hb <;> simp at hb
    · ((conv => whnf); refine ⟨4, by omega, ⟨subtA, subtA⟩, ⟨subtA, subtA⟩, ?_⟩; (first | omega | (dsimp only; omega) | skip))
  · have hq : sval model14b (-1) s 19 = (if (decide (s.vars.getD 0 0 < s.vars.getD 1 0)) = true then 1 else 0, true) := (hsv 19 (by decide)).trans (val_less s)
    (repeat' ((conv => whnf); first | refine zA ?_ | refine zO ?_ | refine Ob.auto ?_ | (refine Ob.intro (by (decide)) ?_) | refine zC 300 (svalue_con model14b mok14b (-1) s hz 19) ?_ | refine zG 300 (fun hg => svalue_con model14b mok14b (-1) s hz 19) ?_ | (refine CallY.con (svalue_con model14b mok14b (-1) s hz 19) (by rfl) leA ?_) | (refine CallZ.con (fun hg => svalue_con model14b mok14b (-1) s hz 19) rflsA (by rfl) ?_) | (refine call_lend (fun _ => rfl) 300 (svalue_con model14b mok14b (-1) s hz 19) holdA (by repeat' (first | exact trivial | exact Le.refl _ | (refine And.intro ?_ ?_))) (by rfl) (by kernel_rfl) ?_) | (refine gcall_lend (fun _ => rfl) 300 (fun hg => svalue_con model14b mok14b (-1) s hz 19) (fun hg => holdA) (fun hg => (by repeat' (first | exact trivial | exact Le.refl _ | exact Le.cnd hg | (refine And.intro ?_ ?_)))) (by rfl) (by kernel_rfl) ?_) | refine zD 300 ?_ | (refine draw4 (fun _ => rfl) (by kernel_rfl) 300 ?_) | (refine Br.intro (fun hb => ?_) (fun hb => ?_) <;> (try simp [-List.getD_eq_getElem?_getD] at hb) <;> (try (exfalso; omega))) | refine Ob.intro ?_ ?_))
    · exfalso
      rw [hq] at hb
      cases hW : (decide (s.vars.getD 0 0 < s.vars.getD 1 0)) <;> rw [hW] at hb <;> simp at hb
    · ((conv => whnf); refine ⟨5, by omega, ⟨subtA, subtA⟩, ⟨subtA, subtA⟩, ?_⟩; (first | omega | (dsimp only; omega) | skip))
  · (repeat' ((conv => whnf); first | refine zA ?_ | refine zO ?_ | refine Ob.auto ?_ | refine zD 300 ?_ | (refine Br.intro (fun hb => ?_) (fun hb => ?_) <;> (try simp [-List.getD_eq_getElem?_getD] at hb) <;> (try (exfalso; omega))) | refine Ob.intro ?_ ?_))
    exact Le.refl _

end Go.Proofs.Ytdoaagphhjggbaa
