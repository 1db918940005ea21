/- Some texts of the library, one behind the other. -/
import Derived.Test.YtdoaagphhjggbaaQSt7
import Derived.Test.YtdoaagphhjggbaaQ38
import Derived.Test.YtdoaagphhjggbaaQStP
import Derived.Test.YtdoaagphhjggbaaQ2
section
/- Contracts: the program's expressions, and what is safe. -/
namespace Go.Proofs.Ytdoaagphhjggbaa
open Go Go.Sx Go.RowKit Go.St
set_option maxRecDepth 100000
set_option maxHeartbeats 2000000

theorem sok_of_fits {m : Md} {s : Stt} (hm : MOk m) (h : fitsB m s = true) : SOk m s := by
  obtain ⟨h0, hA, hV, hC⟩ := (fitsB_iff m s).1 h
  refine ⟨h0.2.1, h0.2.2.1, fun v hv => ?_, fun c hc => ?_⟩
  · obtain ⟨i, hi, rfl⟩ := List.mem_iff_getElem.1 hv
    have h1 := hV i hi
    have h2 := trim_small (s.vars.getD i 0) (m.vars.getD i Vr.none).width
    unfold fitsV at h1
    rw [h1] at h2
    rw [List.getD_eq_getElem?_getD, List.getElem?_eq_getElem hi] at h2
    simp only [Option.getD_some] at h2
    omega
  · obtain ⟨i, hi, rfl⟩ := List.mem_iff_getElem.1 hc
    have h1 := (hC i hi).1
    have h2 := hm.chan _ (getD_mem m.chans i Ch.none (by omega))
    unfold fitsL at h1
    rw [List.getD_eq_getElem?_getD, List.getElem?_eq_getElem hi] at h1
    simp only [Option.getD_some] at h1
    omega

def sval (m : Md) (p : Int) (s : Stt) (k : Int) : Int × Bool := if 0 ≤ k ∧ k < m.tree.length ∧ fitsB m s = true then val m p s k else (0, false)

theorem svalue_con (m : Md) (hm : MOk m) (p : Int) (s : Stt) (hs : SSz s) (k : Int) : Con Try.prog 12 [m.av, iv p, s.av, iv k] (pairV (sval m p s k)) := by
  have hsz := hm.sz
  by_cases hf : 0 ≤ k ∧ k < m.tree.length ∧ fitsB m s = true
  · have hso := sok_of_fits hm hf.2.2
    refine con_of_exec (T := tab Try.prog) (C := {}) 300 (fun _ => rfl) Try.func12 rfl (by kernel_rfl) (by kernel_rfl) (fun c0 rdb => ?_)
    (repeat' ((conv => whnf); first | refine zO ?_ | refine Ob.auto ?_ | refine zC 300 (fits_con m s hs) ?_ | refine zG 300 (fun hg => fits_con m s hs) ?_ | (refine CallX.intro _ (callOb (fits_con m s hs) (by rfl)) ?_) | (refine CallX.intro _ (callObG (fun hg => fits_con m s hs) rflsA (by rfl)) ?_) | refine zC 300 (look_con m p s) ?_ | refine zG 300 (fun hg => look_con m p s) ?_ | (refine CallX.intro _ (callOb (look_con m p s) (by rfl)) ?_) | (refine CallX.intro _ (callObG (fun hg => look_con m p s) rflsA (by rfl)) ?_) | refine zC 300 (value_con m hm p s hso m.tree.length k (by omega) (by omega) (by omega)) ?_ | refine zG 300 (fun hg => value_con m hm p s hso m.tree.length k (by omega) (by omega) (by omega)) ?_ | (refine CallX.intro _ (callOb (value_con m hm p s hso m.tree.length k (by omega) (by omega) (by omega)) (by rfl)) ?_) | (refine CallX.intro _ (callObG (fun hg => value_con m hm p s hso m.tree.length k (by omega) (by omega) (by omega)) rflsA (by rfl)) ?_) | (refine call_lend (fun _ => rfl) 300 (fits_con m s hs) holdA (by repeat' (first | exact trivial | exact Le.refl _ | (refine And.intro ?_ ?_))) (by rfl) (by kernel_rfl) ?_) | (refine gcall_lend (fun _ => rfl) 300 (fun hg => fits_con m s hs) (fun hg => holdA) (fun hg => (by repeat' (first | exact trivial | exact Le.refl _ | exact Le.cnd hg | (refine And.intro ?_ ?_)))) (by rfl) (by kernel_rfl) ?_) | (refine call_lend (fun _ => rfl) 300 (look_con m p s) holdA (by repeat' (first | exact trivial | exact Le.refl _ | (refine And.intro ?_ ?_))) (by rfl) (by kernel_rfl) ?_) | (refine gcall_lend (fun _ => rfl) 300 (fun hg => look_con m p s) (fun hg => holdA) (fun hg => (by repeat' (first | exact trivial | exact Le.refl _ | exact Le.cnd hg | (refine And.intro ?_ ?_)))) (by rfl) (by kernel_rfl) ?_) | (refine call_lend (fun _ => rfl) 300 (value_con m hm p s hso m.tree.length k (by omega) (by omega) (by omega)) holdA (by repeat' (first | exact trivial | exact Le.refl _ | (refine And.intro ?_ ?_))) (by rfl) (by kernel_rfl) ?_) | (refine gcall_lend (fun _ => rfl) 300 (fun hg => value_con m hm p s hso m.tree.length k (by omega) (by omega) (by omega)) (fun hg => holdA) (fun hg => (by repeat' (first | exact trivial | exact Le.refl _ | exact Le.cnd hg | (refine And.intro ?_ ?_)))) (by rfl) (by kernel_rfl) ?_) | (refine draw_x (fun _ => rfl) (by kernel_rfl) 300 ?_) | (refine Br.intro (fun hb => ?_) (fun hb => ?_) <;> (try simp [-List.getD_eq_getElem?_getD] at hb) <;> (try (exfalso; omega))) | refine Ob.intro ?_ ?_))
    · exfalso; rcases hb with hb | hb
      · omega
      · rw [hf.2.2] at hb; cases hb
    · refine Le.of_eq ?_
      rw [sval, if_pos hf]; rfl
  · refine con_of_exec (T := tab Try.prog) (C := {}) 300 (fun _ => rfl) Try.func12 rfl (by kernel_rfl) (by kernel_rfl) (fun c0 rdb => ?_)
    (repeat' ((conv => whnf); first | refine zO ?_ | refine Ob.auto ?_ | refine zC 300 (fits_con m s hs) ?_ | refine zG 300 (fun hg => fits_con m s hs) ?_ | (refine CallX.intro _ (callOb (fits_con m s hs) (by rfl)) ?_) | (refine CallX.intro _ (callObG (fun hg => fits_con m s hs) rflsA (by rfl)) ?_) | (refine call_lend (fun _ => rfl) 300 (fits_con m s hs) holdA (by repeat' (first | exact trivial | exact Le.refl _ | (refine And.intro ?_ ?_))) (by rfl) (by kernel_rfl) ?_) | (refine gcall_lend (fun _ => rfl) 300 (fun hg => fits_con m s hs) (fun hg => holdA) (fun hg => (by repeat' (first | exact trivial | exact Le.refl _ | exact Le.cnd hg | (refine And.intro ?_ ?_)))) (by rfl) (by kernel_rfl) ?_) | (refine draw_x (fun _ => rfl) (by kernel_rfl) 300 ?_) | (refine Br.intro (fun hb => ?_) (fun hb => ?_) <;> (try simp [-List.getD_eq_getElem?_getD] at hb) <;> (try (exfalso; omega))) | refine Ob.intro ?_ ?_))
    · refine Le.of_eq ?_
      rw [sval, if_neg hf]; rfl
    · exact absurd ⟨hb.1.1, hb.1.2, hb.2⟩ hf

theorem ssafe_con (m : Md) (hm : MOk m) (s : Stt) (hs : SSz s) : Con Try.prog 13 [m.av, s.av] (.bool (m.safe.isEmpty || fitsB m s && safeB m s)) := by
  have hsz := hm.sz
  have hsf := hm.safe
  by_cases hf : fitsB m s = true
  · have hso := sok_of_fits hm hf
    refine con_of_exec (T := tab Try.prog) (C := {}) 300 (fun _ => rfl) Try.func13 rfl (by kernel_rfl) (by kernel_rfl) (fun c0 rdb => ?_)
    (repeat' ((conv => whnf); first | refine zO ?_ | refine Ob.auto ?_ | refine zC 300 (fits_con m s hs) ?_ | refine zG 300 (fun hg => fits_con m s hs) ?_ | (refine CallX.intro _ (callOb (fits_con m s hs) (by rfl)) ?_) | (refine CallX.intro _ (callObG (fun hg => fits_con m s hs) rflsA (by rfl)) ?_) | refine zC 300 (look_con m (-1) s) ?_ | refine zG 300 (fun hg => look_con m (-1) s) ?_ | (refine CallX.intro _ (callOb (look_con m (-1) s) (by rfl)) ?_) | (refine CallX.intro _ (callObG (fun hg => look_con m (-1) s) rflsA (by rfl)) ?_) | (refine call_lend (fun _ => rfl) 300 (fits_con m s hs) holdA (by repeat' (first | exact trivial | exact Le.refl _ | (refine And.intro ?_ ?_))) (by rfl) (by kernel_rfl) ?_) | (refine gcall_lend (fun _ => rfl) 300 (fun hg => fits_con m s hs) (fun hg => holdA) (fun hg => (by repeat' (first | exact trivial | exact Le.refl _ | exact Le.cnd hg | (refine And.intro ?_ ?_)))) (by rfl) (by kernel_rfl) ?_) | (refine call_lend (fun _ => rfl) 300 (look_con m (-1) s) holdA (by repeat' (first | exact trivial | exact Le.refl _ | (refine And.intro ?_ ?_))) (by rfl) (by kernel_rfl) ?_) | (refine gcall_lend (fun _ => rfl) 300 (fun hg => look_con m (-1) s) (fun hg => holdA) (fun hg => (by repeat' (first | exact trivial | exact Le.refl _ | exact Le.cnd hg | (refine And.intro ?_ ?_)))) (by rfl) (by kernel_rfl) ?_) | (refine draw_x (fun _ => rfl) (by kernel_rfl) 300 ?_) | (refine Br.intro (fun hb => ?_) (fun hb => ?_) <;> (try simp [-List.getD_eq_getElem?_getD] at hb) <;> (try (exfalso; omega))) | refine Ob.intro ?_ ?_))
    · refine Le.of_eq (congrArg AV.bool ?_)
      simp [hb]
    · rw [hf] at hb; cases hb
    · rename_i hne
      have hemp : m.safe.isEmpty = false := by simp [hne]
      ((conv => whnf); refine loop_auto (fun _ => rfl) 300 1 (fun i : Nat => [(24, iv i)]) (fun _ => []) (fun i => i ≤ m.safe.length ∧ ∀ j, j < i → safe1 m s (m.safe.getD j 0) = true) (fun i => m.safe.length - i) (0) (⟨by omega, fun j hj => absurd hj (Nat.not_lt_zero j)⟩) subtA subtA (fun _ => rfl) (by kernel_rfl) ?_; (conv => whnf))
      intro i hi
      have hki : i < m.safe.length → _ := fun h => hsf _ (getD_mem m.safe i 0 h)
      (repeat' ((conv => whnf); first | refine zO ?_ | refine Ob.auto ?_ | refine zC 300 (value_con m hm (-1) s hso m.tree.length (m.safe.getD i 0) (hki (by omega)).1 (hki (by omega)).2 (by omega)) ?_ | refine zG 300 (fun hg => value_con m hm (-1) s hso m.tree.length (m.safe.getD i 0) (hki (by omega)).1 (hki (by omega)).2 (by omega)) ?_ | (refine CallX.intro _ (callOb (value_con m hm (-1) s hso m.tree.length (m.safe.getD i 0) (hki (by omega)).1 (hki (by omega)).2 (by omega)) (by rfl)) ?_) | (refine CallX.intro _ (callObG (fun hg => value_con m hm (-1) s hso m.tree.length (m.safe.getD i 0) (hki (by omega)).1 (hki (by omega)).2 (by omega)) rflsA (by rfl)) ?_) | (refine call_lend (fun _ => rfl) 300 (value_con m hm (-1) s hso m.tree.length (m.safe.getD i 0) (hki (by omega)).1 (hki (by omega)).2 (by omega)) holdA (by repeat' (first | exact trivial | exact Le.refl _ | (refine And.intro ?_ ?_))) (by rfl) (by kernel_rfl) ?_) | (refine gcall_lend (fun _ => rfl) 300 (fun hg => value_con m hm (-1) s hso m.tree.length (m.safe.getD i 0) (hki (by omega)).1 (hki (by omega)).2 (by omega)) (fun hg => holdA) (fun hg => (by repeat' (first | exact trivial | exact Le.refl _ | exact Le.cnd hg | (refine And.intro ?_ ?_)))) (by rfl) (by kernel_rfl) ?_) | (refine draw_x (fun _ => rfl) (by kernel_rfl) 300 ?_) | (refine Br.intro (fun hb => ?_) (fun hb => ?_) <;> (try simp [-List.getD_eq_getElem?_getD] at hb) <;> (try (exfalso; omega))) | refine Ob.intro ?_ ?_))
      · refine Le.of_eq (congrArg AV.bool ?_)
        rw [hf, hemp, Bool.false_or, Bool.true_and]
        refine (all_no 0 (j := i) (by omega) ?_).symm
        simp only [safe1, val]
        rcases hb with hb | hb <;> simp [-List.getD_eq_getElem?_getD, hb]
      · ((conv => whnf); refine ⟨i + 1, ⟨by omega, upto_succ hi.2 (by simp only [safe1, val]; simp [-List.getD_eq_getElem?_getD, hb])⟩, ⟨subtA, subtA⟩, ⟨subtA, subtA⟩, ?_⟩; (first | omega | (dsimp only; omega) | skip))
      · refine Le.of_eq (congrArg AV.bool ?_)
        rw [hf, hemp, Bool.false_or, Bool.true_and]
        exact (all_upto 0 (fun j hj => hi.2 j (by omega))).symm
  · refine con_of_exec (T := tab Try.prog) (C := {}) 300 (fun _ => rfl) Try.func13 rfl (by kernel_rfl) (by kernel_rfl) (fun c0 rdb => ?_)
    (repeat' ((conv => whnf); first | refine zO ?_ | refine Ob.auto ?_ | refine zC 300 (fits_con m s hs) ?_ | refine zG 300 (fun hg => fits_con m s hs) ?_ | (refine CallX.intro _ (callOb (fits_con m s hs) (by rfl)) ?_) | (refine CallX.intro _ (callObG (fun hg => fits_con m s hs) rflsA (by rfl)) ?_) | (refine call_lend (fun _ => rfl) 300 (fits_con m s hs) holdA (by repeat' (first | exact trivial | exact Le.refl _ | (refine And.intro ?_ ?_))) (by rfl) (by kernel_rfl) ?_) | (refine gcall_lend (fun _ => rfl) 300 (fun hg => fits_con m s hs) (fun hg => holdA) (fun hg => (by repeat' (first | exact trivial | exact Le.refl _ | exact Le.cnd hg | (refine And.intro ?_ ?_)))) (by rfl) (by kernel_rfl) ?_) | (refine draw_x (fun _ => rfl) (by kernel_rfl) 300 ?_) | (refine Br.intro (fun hb => ?_) (fun hb => ?_) <;> (try simp [-List.getD_eq_getElem?_getD] at hb) <;> (try (exfalso; omega))) | refine Ob.intro ?_ ?_))
    · refine Le.of_eq (congrArg AV.bool ?_)
      simp [hb]
    · rename_i hne
      refine Le.of_eq (congrArg AV.bool ?_)
      simp [hb, hne]
    · exact absurd hb hf

end Go.Proofs.Ytdoaagphhjggbaa
end
section
/- The examples of layer 14. -/
namespace Go.Proofs.Ytdoaagphhjggbaa
open Go Go.Sx Go.RowKit Go.St
set_option maxRecDepth 100000
set_option maxHeartbeats 2000000

theorem mok14 : Go.St.MOk model14 := mod_14.ok

theorem ssz14 : SSz (firstF model14) := ⟨by decide, by decide, by decide, fun c hc => by cases hc⟩

theorem val14 : sval model14 (-1) (firstF model14) 2 = (-56, true) := by decide +kernel
theorem fits14 : fitsB model14 (firstF model14) = true := by decide +kernel
theorem safe14 : (model14.safe.isEmpty || fitsB model14 (firstF model14) && safeB model14 (firstF model14)) = true := by decide +kernel

theorem awake14 : Con Try.prog 8 [] (.bool true) := by
  have h1 := sfirst_con model14 mok14
  have h2 := svalue_con model14 mok14 (-1) (firstF model14) ssz14 2
  have h3 := fits_con model14 (firstF model14) ssz14
  have h4 := ssafe_con model14 mok14 (firstF model14) ssz14
  rw [val14] at h2
  rw [fits14] at h3
  rw [safe14] at h4
  refine con_of_exec (T := tab Try.prog) (C := {}) 300 (fun _ => rfl) Try.func8 rfl (by kernel_rfl) (by kernel_rfl) (fun c0 rdb => ?_)
  (repeat' ((conv => whnf); first | refine zO ?_ | refine Ob.auto ?_ | refine zC 300 (parse14) ?_ | refine zG 300 (fun hg => parse14) ?_ | (refine CallX.intro _ (callOb (parse14) (by rfl)) ?_) | (refine CallX.intro _ (callObG (fun hg => parse14) rflsA (by rfl)) ?_) | refine zC 300 (make14) ?_ | refine zG 300 (fun hg => make14) ?_ | (refine CallX.intro _ (callOb (make14) (by rfl)) ?_) | (refine CallX.intro _ (callObG (fun hg => make14) rflsA (by rfl)) ?_) | refine zC 300 (h1) ?_ | refine zG 300 (fun hg => h1) ?_ | (refine CallX.intro _ (callOb (h1) (by rfl)) ?_) | (refine CallX.intro _ (callObG (fun hg => h1) rflsA (by rfl)) ?_) | refine zC 300 (h2) ?_ | refine zG 300 (fun hg => h2) ?_ | (refine CallX.intro _ (callOb (h2) (by rfl)) ?_) | (refine CallX.intro _ (callObG (fun hg => h2) rflsA (by rfl)) ?_) | refine zC 300 (h3) ?_ | refine zG 300 (fun hg => h3) ?_ | (refine CallX.intro _ (callOb (h3) (by rfl)) ?_) | (refine CallX.intro _ (callObG (fun hg => h3) rflsA (by rfl)) ?_) | refine zC 300 (h4) ?_ | refine zG 300 (fun hg => h4) ?_ | (refine CallX.intro _ (callOb (h4) (by rfl)) ?_) | (refine CallX.intro _ (callObG (fun hg => h4) rflsA (by rfl)) ?_) | (refine call_lend (fun _ => rfl) 300 (parse14) holdA (by repeat' (first | exact trivial | exact Le.refl _ | (refine And.intro ?_ ?_))) (by rfl) (by kernel_rfl) ?_) | (refine gcall_lend (fun _ => rfl) 300 (fun hg => parse14) (fun hg => holdA) (fun hg => (by repeat' (first | exact trivial | exact Le.refl _ | exact Le.cnd hg | (refine And.intro ?_ ?_)))) (by rfl) (by kernel_rfl) ?_) | (refine call_lend (fun _ => rfl) 300 (make14) holdA (by repeat' (first | exact trivial | exact Le.refl _ | (refine And.intro ?_ ?_))) (by rfl) (by kernel_rfl) ?_) | (refine gcall_lend (fun _ => rfl) 300 (fun hg => make14) (fun hg => holdA) (fun hg => (by repeat' (first | exact trivial | exact Le.refl _ | exact Le.cnd hg | (refine And.intro ?_ ?_)))) (by rfl) (by kernel_rfl) ?_) | (refine call_lend (fun _ => rfl) 300 (h1) holdA (by repeat' (first | exact trivial | exact Le.refl _ | (refine And.intro ?_ ?_))) (by rfl) (by kernel_rfl) ?_) | (refine gcall_lend (fun _ => rfl) 300 (fun hg => h1) (fun hg => holdA) (fun hg => (by repeat' (first | exact trivial | exact Le.refl _ | exact Le.cnd hg | (refine And.intro ?_ ?_)))) (by rfl) (by kernel_rfl) ?_) | (refine call_lend (fun _ => rfl) 300 (h2) holdA (by repeat' (first | exact trivial | exact Le.refl _ | (refine And.intro ?_ ?_))) (by rfl) (by kernel_rfl) ?_) | (refine gcall_lend (fun _ => rfl) 300 (fun hg => h2) (fun hg => holdA) (fun hg => (by repeat' (first | exact trivial | exact Le.refl _ | exact Le.cnd hg | (refine And.intro ?_ ?_)))) (by rfl) (by kernel_rfl) ?_) | (refine call_lend (fun _ => rfl) 300 (h3) holdA (by repeat' (first | exact trivial | exact Le.refl _ | (refine And.intro ?_ ?_))) (by rfl) (by kernel_rfl) ?_) | (refine gcall_lend (fun _ => rfl) 300 (fun hg => h3) (fun hg => holdA) (fun hg => (by repeat' (first | exact trivial | exact Le.refl _ | exact Le.cnd hg | (refine And.intro ?_ ?_)))) (by rfl) (by kernel_rfl) ?_) | (refine call_lend (fun _ => rfl) 300 (h4) holdA (by repeat' (first | exact trivial | exact Le.refl _ | (refine And.intro ?_ ?_))) (by rfl) (by kernel_rfl) ?_) | (refine gcall_lend (fun _ => rfl) 300 (fun hg => h4) (fun hg => holdA) (fun hg => (by repeat' (first | exact trivial | exact Le.refl _ | exact Le.cnd hg | (refine And.intro ?_ ?_)))) (by rfl) (by kernel_rfl) ?_) | (refine draw_x (fun _ => rfl) (by kernel_rfl) 300 ?_) | (refine Br.intro (fun hb => ?_) (fun hb => ?_) <;> (try simp [-List.getD_eq_getElem?_getD] at hb) <;> (try (exfalso; omega))) | refine Ob.intro ?_ ?_))
  exact Le.refl _

end Go.Proofs.Ytdoaagphhjggbaa
end
section
/- States in plain Lean, more of them. -/
namespace Go.St
open Go Go.Sx

theorem trim_congr {n n' w : Int} (h : n % 2 ^ wid w = n' % 2 ^ wid w) : trim n w = trim n' w := by
  unfold trim; rw [h]

theorem trim_trim (n w : Int) : trim (trim n w) w = trim n w := by
  refine trim_congr ?_
  have h2 := pow_le (wid w) (wid_pos w).2
  have h3 := Int.emod_nonneg n (b := 2 ^ wid w) (by omega)
  have h4 := Int.emod_lt_of_pos n (b := 2 ^ wid w) (by omega)
  unfold trim
  split
  · rw [Int.sub_emod_right]; exact Int.emod_eq_of_lt h3 h4
  · exact Int.emod_eq_of_lt h3 h4

theorem held_fits {m : Md} (hm : MOk m) (l : List Int) : fitsB m (heldF m l) = true := by
  refine (fitsB_iff m _).2 ⟨⟨by simp [heldF], by simp [heldF], by simp [heldF], by simp [heldF], by simp only [heldF]; omega⟩, fun i hi => ?_, fun i hi => ?_, fun i hi => ?_⟩
  · have hi' : i < m.procs.length := by simpa [heldF] using hi
    have hp := hm.place _ (getD_mem m.procs i Pr.none hi')
    unfold fitsA
    rw [heldF, getD_range _ _ _ _ hi']
    exact partN_bound _ _ _ (by omega)
  · have hi' : i < m.vars.length := by simpa [heldF] using hi
    unfold fitsV
    rw [heldF, getD_range _ _ _ _ hi']
    exact trim_trim _ _
  · have hi' : i < m.chans.length := by simpa [heldF] using hi
    have hc := hm.chan _ (getD_mem m.chans i Ch.none hi')
    have hb := partN_bound l (kAt m l i) ((m.chans.getD i Ch.none).room + 1) (by omega)
    have hg : (heldF m l).chans.getD i [] = (List.range (nAt m l i)).map fun q => msgAt m l i q := by rw [heldF, getD_range _ _ _ _ hi']
    have hlen : ((heldF m l).chans.getD i []).length = nAt m l i := by rw [hg]; simp
    refine ⟨?_, fun k hk => ?_⟩
    · unfold fitsL
      rw [hlen]; unfold nAt; omega
    · rw [hlen] at hk
      unfold fitsC
      rw [hg, getD_range _ _ _ _ hk]
      exact trim_trim _ _

theorem held_ssz {m : Md} (hm : MOk m) (l : List Int) : SSz (heldF m l) := by
  have h := hm.sz
  refine ⟨by simp [heldF]; omega, by simp [heldF]; omega, by simp [heldF]; omega, fun c hc => ?_⟩
  obtain ⟨i, hi, rfl⟩ := List.mem_iff_getElem.1 hc
  have hi' : i < m.chans.length := by simpa [heldF] using hi
  have hc := hm.chan _ (getD_mem m.chans i Ch.none hi')
  have hb := partN_bound l (kAt m l i) ((m.chans.getD i Ch.none).room + 1) (by omega)
  simp only [heldF, List.getElem_map, List.getElem_range, List.length_map, List.length_range]
  unfold nAt; omega

end Go.St
end
