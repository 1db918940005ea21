/- Contracts: the program's expressions, and what is safe. -/
import Derived.Test.YtdoaagphhjggbaaQSt7
namespace Go.Proofs.Ytdoaagphhjggbaa
open Go Go.Sx Go.RowKit Go.St
set_option maxRecDepth 100000
set_option maxHeartbeats 2000000

theorem sok_of_fits {m : Md} {s : Stt} (hm : MOk m) (h : fitsB m s = true) : SOk m s := by
  obtain ⟨h0, hA, hV, hC⟩ := (fitsB_iff m s).1 h
  refine ⟨h0.2.1, h0.2.2.1, fun v hv => ?_, fun c hc => ?_⟩
  · obtain ⟨i, hi, rfl⟩ := List.mem_iff_getElem.1 hv
    have h1 := hV i hi
    have h2 := trim_small (s.vars.getD i 0) (m.vars.getD i Vr.none).width
    unfold fitsV at h1
    rw [h1] at h2
    rw [List.getD_eq_getElem?_getD, List.getElem?_eq_getElem hi] at h2
    simp only [Option.getD_some] at h2
    omega
  · obtain ⟨i, hi, rfl⟩ := List.mem_iff_getElem.1 hc
    have h1 := (hC i hi).1
    have h2 := hm.chan _ (getD_mem m.chans i Ch.none (by omega))
    unfold fitsL at h1
    rw [List.getD_eq_getElem?_getD, List.getElem?_eq_getElem hi] at h1
    simp only [Option.getD_some] at h1
    omega

/-- What the program's expressions come to. -/
def sval (m : Md) (p : Int) (s : Stt) (k : Int) : Int × Bool := if 0 ≤ k ∧ k < m.tree.length ∧ fitsB m s = true then val m p s k else (0, false)

theorem svalue_con (m : Md) (hm : MOk m) (p : Int) (s : Stt) (hs : SSz s) (k : Int) : Con Try.prog 12 [m.av, iv p, s.av, iv k] (pairV (sval m p s k)) := by
  have hsz := hm.sz
  by_cases hf : 0 ≤ k ∧ k < m.tree.length ∧ fitsB m s = true
  · have hso := sok_of_fits hm hf.2.2
    refine con_of_exec (T := tab Try.prog) (C := {}) 300 (fun _ => rfl) Try.func12 rfl (by kernel_rfl) (by kernel_rfl) (fun c0 rdb => ?_)
    (repeat' ((conv => whnf); first | (refine Ob.intro (OrdG.intro (by kernel_rfl)) ?_) | (refine Ob.auto ?_) | (refine call_eq (fun _ => rfl) 300 (fits_con m s hs) (by rfl) (by kernel_rfl) ?_) | (refine gcall_eq (fun _ => rfl) 300 (fun hg => fits_con m s hs) (by rfl) rflsA (by kernel_rfl) ?_) | (refine CallX.intro _ (callOb (fits_con m s hs) (by rfl)) ?_) | (refine CallX.intro _ (callObG (fun hg => fits_con m s hs) rflsA (by rfl)) ?_) | (refine call_eq (fun _ => rfl) 300 (look_con m p s) (by rfl) (by kernel_rfl) ?_) | (refine gcall_eq (fun _ => rfl) 300 (fun hg => look_con m p s) (by rfl) rflsA (by kernel_rfl) ?_) | (refine CallX.intro _ (callOb (look_con m p s) (by rfl)) ?_) | (refine CallX.intro _ (callObG (fun hg => look_con m p s) rflsA (by rfl)) ?_) | (refine call_eq (fun _ => rfl) 300 (value_con m hm p s hso m.tree.length k (by omega) (by omega) (by omega)) (by rfl) (by kernel_rfl) ?_) | (refine gcall_eq (fun _ => rfl) 300 (fun hg => value_con m hm p s hso m.tree.length k (by omega) (by omega) (by omega)) (by rfl) rflsA (by kernel_rfl) ?_) | (refine CallX.intro _ (callOb (value_con m hm p s hso m.tree.length k (by omega) (by omega) (by omega)) (by rfl)) ?_) | (refine CallX.intro _ (callObG (fun hg => value_con m hm p s hso m.tree.length k (by omega) (by omega) (by omega)) rflsA (by rfl)) ?_) | (refine call_lend (fun _ => rfl) 300 (fits_con m s hs) holdA (by repeat' (first | exact trivial | exact Le.refl _ | (refine And.intro ?_ ?_))) (by rfl) (by kernel_rfl) ?_) | (refine gcall_lend (fun _ => rfl) 300 (fun hg => fits_con m s hs) (fun hg => holdA) (fun hg => (by repeat' (first | exact trivial | exact Le.refl _ | exact Le.cnd hg | (refine And.intro ?_ ?_)))) (by rfl) (by kernel_rfl) ?_) | (refine call_lend (fun _ => rfl) 300 (look_con m p s) holdA (by repeat' (first | exact trivial | exact Le.refl _ | (refine And.intro ?_ ?_))) (by rfl) (by kernel_rfl) ?_) | (refine gcall_lend (fun _ => rfl) 300 (fun hg => look_con m p s) (fun hg => holdA) (fun hg => (by repeat' (first | exact trivial | exact Le.refl _ | exact Le.cnd hg | (refine And.intro ?_ ?_)))) (by rfl) (by kernel_rfl) ?_) | (refine call_lend (fun _ => rfl) 300 (value_con m hm p s hso m.tree.length k (by omega) (by omega) (by omega)) holdA (by repeat' (first | exact trivial | exact Le.refl _ | (refine And.intro ?_ ?_))) (by rfl) (by kernel_rfl) ?_) | (refine gcall_lend (fun _ => rfl) 300 (fun hg => value_con m hm p s hso m.tree.length k (by omega) (by omega) (by omega)) (fun hg => holdA) (fun hg => (by repeat' (first | exact trivial | exact Le.refl _ | exact Le.cnd hg | (refine And.intro ?_ ?_)))) (by rfl) (by kernel_rfl) ?_) | (refine draw_x (fun _ => rfl) (by kernel_rfl) 300 ?_) | (refine Br.intro (fun hb => ?_) (fun hb => ?_) <;> (try simp [-List.getD_eq_getElem?_getD] at hb) <;> (try (exfalso; omega))) | (refine Ob.intro ?_ ?_)))
    · exfalso; rcases hb with hb | hb
      · omega
      · rw [hf.2.2] at hb; cases hb
    · refine Le.of_eq ?_
      rw [sval, if_pos hf]; rfl
  · refine con_of_exec (T := tab Try.prog) (C := {}) 300 (fun _ => rfl) Try.func12 rfl (by kernel_rfl) (by kernel_rfl) (fun c0 rdb => ?_)
    (repeat' ((conv => whnf); first | (refine Ob.intro (OrdG.intro (by kernel_rfl)) ?_) | (refine Ob.auto ?_) | (refine call_eq (fun _ => rfl) 300 (fits_con m s hs) (by rfl) (by kernel_rfl) ?_) | (refine gcall_eq (fun _ => rfl) 300 (fun hg => fits_con m s hs) (by rfl) rflsA (by kernel_rfl) ?_) | (refine CallX.intro _ (callOb (fits_con m s hs) (by rfl)) ?_) | (refine CallX.intro _ (callObG (fun hg => fits_con m s hs) rflsA (by rfl)) ?_) | (refine call_lend (fun _ => rfl) 300 (fits_con m s hs) holdA (by repeat' (first | exact trivial | exact Le.refl _ | (refine And.intro ?_ ?_))) (by rfl) (by kernel_rfl) ?_) | (refine gcall_lend (fun _ => rfl) 300 (fun hg => fits_con m s hs) (fun hg => holdA) (fun hg => (by repeat' (first | exact trivial | exact Le.refl _ | exact Le.cnd hg | (refine And.intro ?_ ?_)))) (by rfl) (by kernel_rfl) ?_) | (refine draw_x (fun _ => rfl) (by kernel_rfl) 300 ?_) | (refine Br.intro (fun hb => ?_) (fun hb => ?_) <;> (try simp [-List.getD_eq_getElem?_getD] at hb) <;> (try (exfalso; omega))) | (refine Ob.intro ?_ ?_)))
    · refine Le.of_eq ?_
      rw [sval, if_neg hf]; rfl
    · exact absurd ⟨hb.1.1, hb.1.2, hb.2⟩ hf

theorem ssafe_con (m : Md) (hm : MOk m) (s : Stt) (hs : SSz s) : Con Try.prog 13 [m.av, s.av] (.bool (m.safe.isEmpty || fitsB m s && safeB m s)) := by
  have hsz := hm.sz
  have hsf := hm.safe
  by_cases hf : fitsB m s = true
  · have hso := sok_of_fits hm hf
    refine con_of_exec (T := tab Try.prog) (C := {}) 300 (fun _ => rfl) Try.func13 rfl (by kernel_rfl) (by kernel_rfl) (fun c0 rdb => ?_)
    (repeat' ((conv => whnf); first | (refine Ob.intro (OrdG.intro (by kernel_rfl)) ?_) | (refine Ob.auto ?_) | (refine call_eq (fun _ => rfl) 300 (fits_con m s hs) (by rfl) (by kernel_rfl) ?_) | (refine gcall_eq (fun _ => rfl) 300 (fun hg => fits_con m s hs) (by rfl) rflsA (by kernel_rfl) ?_) | (refine CallX.intro _ (callOb (fits_con m s hs) (by rfl)) ?_) | (refine CallX.intro _ (callObG (fun hg => fits_con m s hs) rflsA (by rfl)) ?_) | (refine call_eq (fun _ => rfl) 300 (look_con m (-1) s) (by rfl) (by kernel_rfl) ?_) | (refine gcall_eq (fun _ => rfl) 300 (fun hg => look_con m (-1) s) (by rfl) rflsA (by kernel_rfl) ?_) | (refine CallX.intro _ (callOb (look_con m (-1) s) (by rfl)) ?_) | (refine CallX.intro _ (callObG (fun hg => look_con m (-1) s) rflsA (by rfl)) ?_) | (refine call_lend (fun _ => rfl) 300 (fits_con m s hs) holdA (by repeat' (first | exact trivial | exact Le.refl _ | (refine And.intro ?_ ?_))) (by rfl) (by kernel_rfl) ?_) | (refine gcall_lend (fun _ => rfl) 300 (fun hg => fits_con m s hs) (fun hg => holdA) (fun hg => (by repeat' (first | exact trivial | exact Le.refl _ | exact Le.cnd hg | (refine And.intro ?_ ?_)))) (by rfl) (by kernel_rfl) ?_) | (refine call_lend (fun _ => rfl) 300 (look_con m (-1) s) holdA (by repeat' (first | exact trivial | exact Le.refl _ | (refine And.intro ?_ ?_))) (by rfl) (by kernel_rfl) ?_) | (refine gcall_lend (fun _ => rfl) 300 (fun hg => look_con m (-1) s) (fun hg => holdA) (fun hg => (by repeat' (first | exact trivial | exact Le.refl _ | exact Le.cnd hg | (refine And.intro ?_ ?_)))) (by rfl) (by kernel_rfl) ?_) | (refine draw_x (fun _ => rfl) (by kernel_rfl) 300 ?_) | (refine Br.intro (fun hb => ?_) (fun hb => ?_) <;> (try simp [-List.getD_eq_getElem?_getD] at hb) <;> (try (exfalso; omega))) | (refine Ob.intro ?_ ?_)))
    · refine Le.of_eq (congrArg AV.bool ?_)
      simp [hb]
    · rw [hf] at hb; cases hb
    · rename_i hne
      have hemp : m.safe.isEmpty = false := by simp [hne]
      ((conv => whnf); refine loop_auto (fun _ => rfl) 300 1 (fun i : Nat => [(24, iv i)]) (fun _ => []) (fun i => i ≤ m.safe.length ∧ ∀ j, j < i → safe1 m s (m.safe.getD j 0) = true) (fun i => m.safe.length - i) (0) (⟨by omega, fun j hj => absurd hj (Nat.not_lt_zero j)⟩) subtA subtA (fun _ => rfl) (by kernel_rfl) ?_; (conv => whnf))
      intro i hi
      have hki : i < m.safe.length → _ := fun h => hsf _ (getD_mem m.safe i 0 h)
      (repeat' ((conv => whnf); first | (refine Ob.intro (OrdG.intro (by kernel_rfl)) ?_) | (refine Ob.auto ?_) | (refine call_eq (fun _ => rfl) 300 (value_con m hm (-1) s hso m.tree.length (m.safe.getD i 0) (hki (by omega)).1 (hki (by omega)).2 (by omega)) (by rfl) (by kernel_rfl) ?_) | (refine gcall_eq (fun _ => rfl) 300 (fun hg => value_con m hm (-1) s hso m.tree.length (m.safe.getD i 0) (hki (by omega)).1 (hki (by omega)).2 (by omega)) (by rfl) rflsA (by kernel_rfl) ?_) | (refine CallX.intro _ (callOb (value_con m hm (-1) s hso m.tree.length (m.safe.getD i 0) (hki (by omega)).1 (hki (by omega)).2 (by omega)) (by rfl)) ?_) | (refine CallX.intro _ (callObG (fun hg => value_con m hm (-1) s hso m.tree.length (m.safe.getD i 0) (hki (by omega)).1 (hki (by omega)).2 (by omega)) rflsA (by rfl)) ?_) | (refine call_lend (fun _ => rfl) 300 (value_con m hm (-1) s hso m.tree.length (m.safe.getD i 0) (hki (by omega)).1 (hki (by omega)).2 (by omega)) holdA (by repeat' (first | exact trivial | exact Le.refl _ | (refine And.intro ?_ ?_))) (by rfl) (by kernel_rfl) ?_) | (refine gcall_lend (fun _ => rfl) 300 (fun hg => value_con m hm (-1) s hso m.tree.length (m.safe.getD i 0) (hki (by omega)).1 (hki (by omega)).2 (by omega)) (fun hg => holdA) (fun hg => (by repeat' (first | exact trivial | exact Le.refl _ | exact Le.cnd hg | (refine And.intro ?_ ?_)))) (by rfl) (by kernel_rfl) ?_) | (refine draw_x (fun _ => rfl) (by kernel_rfl) 300 ?_) | (refine Br.intro (fun hb => ?_) (fun hb => ?_) <;> (try simp [-List.getD_eq_getElem?_getD] at hb) <;> (try (exfalso; omega))) | (refine Ob.intro ?_ ?_)))
      · refine Le.of_eq (congrArg AV.bool ?_)
        rw [hf, hemp, Bool.false_or, Bool.true_and]
        refine (all_no 0 (j := i) (by omega) ?_).symm
        simp only [safe1, val]
        rcases hb with hb | hb <;> simp [-List.getD_eq_getElem?_getD, hb]
      · ((conv => whnf); refine ⟨i + 1, ⟨by omega, upto_succ hi.2 (by simp only [safe1, val]; simp [-List.getD_eq_getElem?_getD, hb])⟩, ⟨subtA, subtA⟩, ⟨subtA, subtA⟩, ?_⟩; (first | omega | (dsimp only; omega) | skip))
      · refine Le.of_eq (congrArg AV.bool ?_)
        rw [hf, hemp, Bool.false_or, Bool.true_and]
        exact (all_upto 0 (fun j hj => hi.2 j (by omega))).symm
  · refine con_of_exec (T := tab Try.prog) (C := {}) 300 (fun _ => rfl) Try.func13 rfl (by kernel_rfl) (by kernel_rfl) (fun c0 rdb => ?_)
    (repeat' ((conv => whnf); first | (refine Ob.intro (OrdG.intro (by kernel_rfl)) ?_) | (refine Ob.auto ?_) | (refine call_eq (fun _ => rfl) 300 (fits_con m s hs) (by rfl) (by kernel_rfl) ?_) | (refine gcall_eq (fun _ => rfl) 300 (fun hg => fits_con m s hs) (by rfl) rflsA (by kernel_rfl) ?_) | (refine CallX.intro _ (callOb (fits_con m s hs) (by rfl)) ?_) | (refine CallX.intro _ (callObG (fun hg => fits_con m s hs) rflsA (by rfl)) ?_) | (refine call_lend (fun _ => rfl) 300 (fits_con m s hs) holdA (by repeat' (first | exact trivial | exact Le.refl _ | (refine And.intro ?_ ?_))) (by rfl) (by kernel_rfl) ?_) | (refine gcall_lend (fun _ => rfl) 300 (fun hg => fits_con m s hs) (fun hg => holdA) (fun hg => (by repeat' (first | exact trivial | exact Le.refl _ | exact Le.cnd hg | (refine And.intro ?_ ?_)))) (by rfl) (by kernel_rfl) ?_) | (refine draw_x (fun _ => rfl) (by kernel_rfl) 300 ?_) | (refine Br.intro (fun hb => ?_) (fun hb => ?_) <;> (try simp [-List.getD_eq_getElem?_getD] at hb) <;> (try (exfalso; omega))) | (refine Ob.intro ?_ ?_)))
    · refine Le.of_eq (congrArg AV.bool ?_)
      simp [hb]
    · rename_i hne
      refine Le.of_eq (congrArg AV.bool ?_)
      simp [hb, hne]
    · exact absurd hb hf

end Go.Proofs.Ytdoaagphhjggbaa
