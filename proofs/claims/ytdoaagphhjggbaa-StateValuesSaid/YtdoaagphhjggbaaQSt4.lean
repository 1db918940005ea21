/- Contracts: states, by the document's answer: what is safe, what fits, what is the same. -/
import Derived.Test.YtdoaagphhjggbaaQSt3
namespace Go.Proofs.Ytdoaagphhjggbaa
open Go Go.Sx Go.RowKit Go.St
set_option maxRecDepth 100000
set_option maxHeartbeats 2000000

theorem rsafe_con (m : Md) (hm : MOk m) (s : Stt) (hs : SOk m s) : Con Try.prog 14 [m.av, s.av] (.bool (safeB m s)) := by
  have hsz := hm.sz
  have hsf := hm.safe
  refine con_of_exec (T := tab Try.prog) (C := {}) 300 (fun _ => rfl) Try.func14 rfl (by kernel_rfl) (by kernel_rfl) (fun c0 rdb => ?_)
  (repeat' ((conv => whnf); first | (refine Ob.intro (OrdG.intro (by kernel_rfl)) ?_) | (refine Ob.auto ?_) | (refine draw_x (fun _ => rfl) (by kernel_rfl) 300 ?_) | (refine Br.intro (fun hb => ?_) (fun hb => ?_) <;> (try simp [-List.getD_eq_getElem?_getD] at hb) <;> (try (exfalso; omega))) | (refine Ob.intro ?_ ?_)))
  ((conv => whnf); refine loop_auto (fun _ => rfl) 300 1 (fun i : Nat => [(5, iv i)]) (fun _ => []) (fun i => i ≤ m.safe.length ∧ ∀ j, j < i → safe1 m s (m.safe.getD j 0) = true) (fun i => m.safe.length - i) (0) (⟨by omega, fun j hj => absurd hj (Nat.not_lt_zero j)⟩) subtA subtA (fun _ => rfl) (by kernel_rfl) ?_; (conv => whnf))
  intro i hi
  have hki : i < m.safe.length → _ := fun h => hsf _ (getD_mem m.safe i 0 h)
  (repeat' ((conv => whnf); first | (refine Ob.intro (OrdG.intro (by kernel_rfl)) ?_) | (refine Ob.auto ?_) | (refine call_eq (fun _ => rfl) 300 (rvalue_con m hm (-1) s hs m.tree.length (m.safe.getD i 0) (hki (by omega)).1 (hki (by omega)).2 (by omega)) (by rfl) (by kernel_rfl) ?_) | (refine gcall_eq (fun _ => rfl) 300 (fun hg => rvalue_con m hm (-1) s hs m.tree.length (m.safe.getD i 0) (hki (by omega)).1 (hki (by omega)).2 (by omega)) (by rfl) rflsA (by kernel_rfl) ?_) | (refine CallX.intro _ (callOb (rvalue_con m hm (-1) s hs m.tree.length (m.safe.getD i 0) (hki (by omega)).1 (hki (by omega)).2 (by omega)) (by rfl)) ?_) | (refine CallX.intro _ (callObG (fun hg => rvalue_con m hm (-1) s hs m.tree.length (m.safe.getD i 0) (hki (by omega)).1 (hki (by omega)).2 (by omega)) rflsA (by rfl)) ?_) | (refine call_lend (fun _ => rfl) 300 (rvalue_con m hm (-1) s hs m.tree.length (m.safe.getD i 0) (hki (by omega)).1 (hki (by omega)).2 (by omega)) holdA (by repeat' (first | exact trivial | exact Le.refl _ | (refine And.intro ?_ ?_))) (by rfl) (by kernel_rfl) ?_) | (refine gcall_lend (fun _ => rfl) 300 (fun hg => rvalue_con m hm (-1) s hs m.tree.length (m.safe.getD i 0) (hki (by omega)).1 (hki (by omega)).2 (by omega)) (fun hg => holdA) (fun hg => (by repeat' (first | exact trivial | exact Le.refl _ | exact Le.cnd hg | (refine And.intro ?_ ?_)))) (by rfl) (by kernel_rfl) ?_) | (refine draw_x (fun _ => rfl) (by kernel_rfl) 300 ?_) | (refine Br.intro (fun hb => ?_) (fun hb => ?_) <;> (try simp [-List.getD_eq_getElem?_getD] at hb) <;> (try (exfalso; omega))) | (refine Ob.intro ?_ ?_)))
  · refine Le.of_eq (congrArg AV.bool ?_)
    refine (all_no 0 (j := i) (by omega) ?_).symm
    simp only [safe1, val]
    rcases hb with hb | hb <;> simp [-List.getD_eq_getElem?_getD, hb]
  · ((conv => whnf); refine ⟨i + 1, ⟨by omega, upto_succ hi.2 (by simp only [safe1, val]; simp [-List.getD_eq_getElem?_getD, hb])⟩, ⟨subtA, subtA⟩, ⟨subtA, subtA⟩, ?_⟩; (first | omega | (dsimp only; omega) | skip))
  · refine Le.of_eq (congrArg AV.bool ?_)
    exact (all_upto 0 (fun j hj => hi.2 j (by omega))).symm

theorem rfits_con (m : Md) (s : Stt) (hs : SSz s) : Con Try.prog 21 [m.av, s.av] (.bool (fitsB m s)) := by
  have ha := hs.a
  have hv := hs.v
  have hc := hs.c
  refine con_of_exec (T := tab Try.prog) (C := {}) 600 (fun _ => rfl) Try.func21 rfl (by kernel_rfl) (by kernel_rfl) (fun c0 rdb => ?_)
  (repeat' ((conv => whnf); first | (refine Ob.intro (OrdG.intro (by kernel_rfl)) ?_) | (refine Ob.auto ?_) | (refine draw_x (fun _ => rfl) (by kernel_rfl) 600 ?_) | (refine Br.intro (fun hb => ?_) (fun hb => ?_) <;> (try simp [-List.getD_eq_getElem?_getD] at hb) <;> (try (exfalso; omega))) | (refine Ob.intro ?_ ?_)))
  · refine Le.of_eq (congrArg AV.bool ?_)
    exact (fits_no0 (by unfold fits0; omega)).symm
  have h0 : fits0 m s := by unfold fits0; omega
  clear hb
  unfold fits0 at h0
  ((conv => whnf); refine loop_auto (fun _ => rfl) 600 1 (fun i : Nat => [(5, iv i)]) (fun _ => []) (fun i => i ≤ s.at_.length ∧ ∀ j, j < i → fitsA m s j) (fun i => s.at_.length - i) (0) (⟨by omega, fun j hj => absurd hj (Nat.not_lt_zero j)⟩) subtA subtA (fun _ => rfl) (by kernel_rfl) ?_; (conv => whnf))
  intro i hi
  (repeat' ((conv => whnf); first | (refine Ob.intro (OrdG.intro (by kernel_rfl)) ?_) | (refine Ob.auto ?_) | (refine draw_x (fun _ => rfl) (by kernel_rfl) 600 ?_) | (refine Br.intro (fun hb => ?_) (fun hb => ?_) <;> (try simp [-List.getD_eq_getElem?_getD] at hb) <;> (try (exfalso; omega))) | (refine Ob.intro ?_ ?_)))
  · refine Le.of_eq (congrArg AV.bool ?_)
    exact (fits_noA i (by omega) (by omega)).symm
  · ((conv => whnf); refine ⟨i + 1, ⟨by omega, upto_succ hi.2 hb⟩, ⟨subtA, subtA⟩, ⟨subtA, subtA⟩, ?_⟩; (first | omega | (dsimp only; omega) | skip))
  obtain rfl : i = s.at_.length := by omega
  have hA := hi.2
  clear hi hb
  ((conv => whnf); refine loop_auto (fun _ => rfl) 600 2 (fun i : Nat => [(6, iv i)]) (fun _ => []) (fun i => i ≤ s.vars.length ∧ ∀ j, j < i → fitsV m s j) (fun i => s.vars.length - i) (0) (⟨by omega, fun j hj => absurd hj (Nat.not_lt_zero j)⟩) subtA subtA (fun _ => rfl) (by kernel_rfl) ?_; (conv => whnf))
  intro i hi
  (repeat' ((conv => whnf); first | (refine Ob.intro (OrdG.intro (by kernel_rfl)) ?_) | (refine Ob.auto ?_) | (refine Ob.intro (by (exact ⟨by omega, by omega⟩)) ?_) | (refine call_eq (fun _ => rfl) 600 (rtrim_con _ _) (by rfl) (by kernel_rfl) ?_) | (refine gcall_eq (fun _ => rfl) 600 (fun hg => rtrim_con _ _) (by rfl) rflsA (by kernel_rfl) ?_) | (refine CallX.intro _ (callOb (rtrim_con _ _) (by rfl)) ?_) | (refine CallX.intro _ (callObG (fun hg => rtrim_con _ _) rflsA (by rfl)) ?_) | (refine call_lend (fun _ => rfl) 600 (rtrim_con _ _) holdA (by repeat' (first | exact trivial | exact Le.refl _ | (refine And.intro ?_ ?_))) (by rfl) (by kernel_rfl) ?_) | (refine gcall_lend (fun _ => rfl) 600 (fun hg => rtrim_con _ _) (fun hg => holdA) (fun hg => (by repeat' (first | exact trivial | exact Le.refl _ | exact Le.cnd hg | (refine And.intro ?_ ?_)))) (by rfl) (by kernel_rfl) ?_) | (refine draw_x (fun _ => rfl) (by kernel_rfl) 600 ?_) | (refine Br.intro (fun hb => ?_) (fun hb => ?_) <;> (try simp [-List.getD_eq_getElem?_getD] at hb) <;> (try (exfalso; omega))) | (refine Ob.intro ?_ ?_)))
  · refine Le.of_eq (congrArg AV.bool ?_)
    exact (fits_noV i (by omega) hb).symm
  · ((conv => whnf); refine ⟨i + 1, ⟨by omega, upto_succ hi.2 hb⟩, ⟨subtA, subtA⟩, ⟨subtA, subtA⟩, ?_⟩; (first | omega | (dsimp only; omega) | skip))
  obtain rfl : i = s.vars.length := by omega
  have hV := hi.2
  clear hi hb
  ((conv => whnf); refine loop_auto (fun _ => rfl) 600 3 (fun i : Nat => [(7, iv i)]) (fun _ => []) (fun i => i ≤ s.chans.length ∧ ∀ j, j < i → fitsL m s j ∧ ∀ k, k < (s.chans.getD j []).length → fitsC m s j k) (fun i => s.chans.length - i) (0) (⟨by omega, fun j hj => absurd hj (Nat.not_lt_zero j)⟩) subtA subtA (fun _ => rfl) (by kernel_rfl) ?_; (conv => whnf))
  intro i hi
  (repeat' ((conv => whnf); first | (refine Ob.intro (OrdG.intro (by kernel_rfl)) ?_) | (refine Ob.auto ?_) | (refine Ob.intro (by (exact ⟨by omega, by omega⟩)) ?_) | (refine draw_x (fun _ => rfl) (by kernel_rfl) 600 ?_) | (refine Br.intro (fun hb => ?_) (fun hb => ?_) <;> (try simp [-List.getD_eq_getElem?_getD] at hb) <;> (try (exfalso; omega))) | (refine Ob.intro ?_ ?_)))
  · refine Le.of_eq (congrArg AV.bool ?_)
    exact (fits_noL i (by omega) (by unfold fitsL; omega)).symm
  · have hL : fitsL m s i := by unfold fitsL; omega
    have hlc := hs.l _ (getD_mem s.chans i [] (by omega))
    ((conv => whnf); refine loop_auto (fun _ => rfl) 600 4 (fun k : Nat => [(8, iv k)]) (fun _ => []) (fun k => k ≤ (s.chans.getD i []).length ∧ ∀ j, j < k → fitsC m s i j) (fun k => (s.chans.getD i []).length - k) (0) (⟨by omega, fun j hj => absurd hj (Nat.not_lt_zero j)⟩) subtA subtA (fun _ => rfl) (by kernel_rfl) ?_; (conv => whnf))
    intro k hk
    (repeat' ((conv => whnf); first | (refine Ob.intro (OrdG.intro (by kernel_rfl)) ?_) | (refine Ob.auto ?_) | (refine Ob.intro (by (exact ⟨by omega, by omega⟩)) ?_) | (refine call_eq (fun _ => rfl) 600 (rtrim_con _ _) (by rfl) (by kernel_rfl) ?_) | (refine gcall_eq (fun _ => rfl) 600 (fun hg => rtrim_con _ _) (by rfl) rflsA (by kernel_rfl) ?_) | (refine CallX.intro _ (callOb (rtrim_con _ _) (by rfl)) ?_) | (refine CallX.intro _ (callObG (fun hg => rtrim_con _ _) rflsA (by rfl)) ?_) | (refine call_lend (fun _ => rfl) 600 (rtrim_con _ _) holdA (by repeat' (first | exact trivial | exact Le.refl _ | (refine And.intro ?_ ?_))) (by rfl) (by kernel_rfl) ?_) | (refine gcall_lend (fun _ => rfl) 600 (fun hg => rtrim_con _ _) (fun hg => holdA) (fun hg => (by repeat' (first | exact trivial | exact Le.refl _ | exact Le.cnd hg | (refine And.intro ?_ ?_)))) (by rfl) (by kernel_rfl) ?_) | (refine draw_x (fun _ => rfl) (by kernel_rfl) 600 ?_) | (refine Br.intro (fun hb => ?_) (fun hb => ?_) <;> (try simp [-List.getD_eq_getElem?_getD] at hb) <;> (try (exfalso; omega))) | (refine Ob.intro ?_ ?_)))
    · refine Le.of_eq (congrArg AV.bool ?_)
      exact (fits_noC i k (by omega) (by omega) hb).symm
    · ((conv => whnf); refine ⟨k + 1, ⟨by omega, upto_succ hk.2 hb⟩, ⟨subtA, subtA⟩, ⟨subtA, subtA⟩, ?_⟩; (first | omega | (dsimp only; omega) | skip))
    · ((conv => whnf); refine ⟨i + 1, ⟨by omega, upto_succ hi.2 ⟨hL, fun j hj => hk.2 j (by omega)⟩⟩, ⟨subtA, subtA⟩, ⟨subtA, subtA⟩, ?_⟩; (first | omega | (dsimp only; omega) | skip))
  · refine Le.of_eq (congrArg AV.bool ?_)
    exact ((fitsB_iff m s).2 ⟨h0, hA, hV, fun j hj => hi.2 j (by omega)⟩).symm

end Go.Proofs.Ytdoaagphhjggbaa
