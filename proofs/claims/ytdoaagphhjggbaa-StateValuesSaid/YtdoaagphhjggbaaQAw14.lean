/- The examples of layer 14. -/
import Derived.Test.YtdoaagphhjggbaaQClo14
import Derived.Test.YtdoaagphhjggbaaQSt8
namespace Go.Proofs.Ytdoaagphhjggbaa
open Go Go.Sx Go.RowKit Go.St
set_option maxRecDepth 100000
set_option maxHeartbeats 2000000

theorem mok14 : Go.St.MOk model14 := by
  refine ⟨fun i hi => ?_, by decide, (fun q hq => by cases hq), by decide, (fun q hq => by cases hq), fun k hk => ?_, (fun c hc => by cases hc), (fun q hq => by cases hq)⟩
  · have : i < 5 := hi
    have : i = 0 ∨ i = 1 ∨ i = 2 ∨ i = 3 ∨ i = 4 := by omega
    rcases this with rfl | rfl | rfl | rfl | rfl <;> exact ⟨by decide, by decide, by decide, by decide⟩
  · simp only [model14, List.mem_singleton] at hk
    subst hk
    decide

theorem ssz14 : SSz (firstF model14) := ⟨by decide, by decide, by decide, fun c hc => by cases hc⟩

theorem val14 : sval model14 (-1) (firstF model14) 2 = (-56, true) := by decide +kernel
theorem fits14 : fitsB model14 (firstF model14) = true := by decide +kernel
theorem safe14 : (model14.safe.isEmpty || fitsB model14 (firstF model14) && safeB model14 (firstF model14)) = true := by decide +kernel

theorem awake14 : Con Try.prog 8 [] (.bool true) := by
  have h1 := sfirst_con model14 mok14
  have h2 := svalue_con model14 mok14 (-1) (firstF model14) ssz14 2
  have h3 := fits_con model14 (firstF model14) ssz14
  have h4 := ssafe_con model14 mok14 (firstF model14) ssz14
  rw [val14] at h2
  rw [fits14] at h3
  rw [safe14] at h4
  refine con_of_exec (T := tab Try.prog) (C := {}) 300 (fun _ => rfl) Try.func8 rfl (by kernel_rfl) (by kernel_rfl) (fun c0 rdb => ?_)
  (repeat' ((conv => whnf); first | (refine Ob.intro (OrdG.intro (by kernel_rfl)) ?_) | (refine Ob.auto ?_) | (refine call_eq (fun _ => rfl) 300 (parse14) (by rfl) (by kernel_rfl) ?_) | (refine gcall_eq (fun _ => rfl) 300 (fun hg => parse14) (by rfl) rflsA (by kernel_rfl) ?_) | (refine CallX.intro _ (callOb (parse14) (by rfl)) ?_) | (refine CallX.intro _ (callObG (fun hg => parse14) rflsA (by rfl)) ?_) | (refine call_eq (fun _ => rfl) 300 (make14) (by rfl) (by kernel_rfl) ?_) | (refine gcall_eq (fun _ => rfl) 300 (fun hg => make14) (by rfl) rflsA (by kernel_rfl) ?_) | (refine CallX.intro _ (callOb (make14) (by rfl)) ?_) | (refine CallX.intro _ (callObG (fun hg => make14) rflsA (by rfl)) ?_) | (refine call_eq (fun _ => rfl) 300 (h1) (by rfl) (by kernel_rfl) ?_) | (refine gcall_eq (fun _ => rfl) 300 (fun hg => h1) (by rfl) rflsA (by kernel_rfl) ?_) | (refine CallX.intro _ (callOb (h1) (by rfl)) ?_) | (refine CallX.intro _ (callObG (fun hg => h1) rflsA (by rfl)) ?_) | (refine call_eq (fun _ => rfl) 300 (h2) (by rfl) (by kernel_rfl) ?_) | (refine gcall_eq (fun _ => rfl) 300 (fun hg => h2) (by rfl) rflsA (by kernel_rfl) ?_) | (refine CallX.intro _ (callOb (h2) (by rfl)) ?_) | (refine CallX.intro _ (callObG (fun hg => h2) rflsA (by rfl)) ?_) | (refine call_eq (fun _ => rfl) 300 (h3) (by rfl) (by kernel_rfl) ?_) | (refine gcall_eq (fun _ => rfl) 300 (fun hg => h3) (by rfl) rflsA (by kernel_rfl) ?_) | (refine CallX.intro _ (callOb (h3) (by rfl)) ?_) | (refine CallX.intro _ (callObG (fun hg => h3) rflsA (by rfl)) ?_) | (refine call_eq (fun _ => rfl) 300 (h4) (by rfl) (by kernel_rfl) ?_) | (refine gcall_eq (fun _ => rfl) 300 (fun hg => h4) (by rfl) rflsA (by kernel_rfl) ?_) | (refine CallX.intro _ (callOb (h4) (by rfl)) ?_) | (refine CallX.intro _ (callObG (fun hg => h4) rflsA (by rfl)) ?_) | (refine call_lend (fun _ => rfl) 300 (parse14) holdA (by repeat' (first | exact trivial | exact Le.refl _ | (refine And.intro ?_ ?_))) (by rfl) (by kernel_rfl) ?_) | (refine gcall_lend (fun _ => rfl) 300 (fun hg => parse14) (fun hg => holdA) (fun hg => (by repeat' (first | exact trivial | exact Le.refl _ | exact Le.cnd hg | (refine And.intro ?_ ?_)))) (by rfl) (by kernel_rfl) ?_) | (refine call_lend (fun _ => rfl) 300 (make14) holdA (by repeat' (first | exact trivial | exact Le.refl _ | (refine And.intro ?_ ?_))) (by rfl) (by kernel_rfl) ?_) | (refine gcall_lend (fun _ => rfl) 300 (fun hg => make14) (fun hg => holdA) (fun hg => (by repeat' (first | exact trivial | exact Le.refl _ | exact Le.cnd hg | (refine And.intro ?_ ?_)))) (by rfl) (by kernel_rfl) ?_) | (refine call_lend (fun _ => rfl) 300 (h1) holdA (by repeat' (first | exact trivial | exact Le.refl _ | (refine And.intro ?_ ?_))) (by rfl) (by kernel_rfl) ?_) | (refine gcall_lend (fun _ => rfl) 300 (fun hg => h1) (fun hg => holdA) (fun hg => (by repeat' (first | exact trivial | exact Le.refl _ | exact Le.cnd hg | (refine And.intro ?_ ?_)))) (by rfl) (by kernel_rfl) ?_) | (refine call_lend (fun _ => rfl) 300 (h2) holdA (by repeat' (first | exact trivial | exact Le.refl _ | (refine And.intro ?_ ?_))) (by rfl) (by kernel_rfl) ?_) | (refine gcall_lend (fun _ => rfl) 300 (fun hg => h2) (fun hg => holdA) (fun hg => (by repeat' (first | exact trivial | exact Le.refl _ | exact Le.cnd hg | (refine And.intro ?_ ?_)))) (by rfl) (by kernel_rfl) ?_) | (refine call_lend (fun _ => rfl) 300 (h3) holdA (by repeat' (first | exact trivial | exact Le.refl _ | (refine And.intro ?_ ?_))) (by rfl) (by kernel_rfl) ?_) | (refine gcall_lend (fun _ => rfl) 300 (fun hg => h3) (fun hg => holdA) (fun hg => (by repeat' (first | exact trivial | exact Le.refl _ | exact Le.cnd hg | (refine And.intro ?_ ?_)))) (by rfl) (by kernel_rfl) ?_) | (refine call_lend (fun _ => rfl) 300 (h4) holdA (by repeat' (first | exact trivial | exact Le.refl _ | (refine And.intro ?_ ?_))) (by rfl) (by kernel_rfl) ?_) | (refine gcall_lend (fun _ => rfl) 300 (fun hg => h4) (fun hg => holdA) (fun hg => (by repeat' (first | exact trivial | exact Le.refl _ | exact Le.cnd hg | (refine And.intro ?_ ?_)))) (by rfl) (by kernel_rfl) ?_) | (refine draw_x (fun _ => rfl) (by kernel_rfl) 300 ?_) | (refine Br.intro (fun hb => ?_) (fun hb => ?_) <;> (try simp [-List.getD_eq_getElem?_getD] at hb) <;> (try (exfalso; omega))) | (refine Ob.intro ?_ ?_)))
  exact Le.refl _

end Go.Proofs.Ytdoaagphhjggbaa
