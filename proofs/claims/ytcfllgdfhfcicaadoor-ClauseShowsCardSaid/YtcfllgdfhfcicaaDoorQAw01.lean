/- The examples of layer 1. -/
import Derived.Test.YtcfllgdfhfcicaaDoorQCn3
import Derived.Test.YtcfllgdfhfcicaaDoorQCn5
set_option linter.unusedSimpArgs false
set_option linter.unusedVariables false
namespace Go.Proofs.YtcfllgdfhfcicaaDoor
open Go Go.Sx Go.RowKit Go.St Go.Cl
set_option maxRecDepth 100000
set_option maxHeartbeats 4000000

theorem norm_313 : normL [3, -1, 3] = [-1, 3] := by
  refine sorted_eq (norm_sorted _) ?_ (fun x => ?_)
  · rw [List.pairwise_cons]
    refine ⟨fun y hy => ?_, List.pairwise_singleton ..⟩
    simp only [List.mem_singleton] at hy
    subst hy
    left; decide
  · rw [norm_mem]
    simp only [List.mem_cons, List.not_mem_nil, or_false]
    omega

theorem show_12 : showT [[1, -2]] = [112, 32, 99, 110, 102, 32, 50, 32, 49, 10, 49, 32, 45, 50, 32, 48, 10] := by decide +kernel

theorem awake01 : Con Tryd.prog 9 [] (.bool true) := by
  have h1 := normF_con [3, -1, 3] (by decide)
  have h2 := show_con [[1, -2]] (by decide) (by decide)
  rw [show rightB [3, -1, 3] = true from rfl, norm_313] at h1
  rw [show_12] at h2
  refine con_of_exec (T := tab Tryd.prog) (C := {}) 300 (fun _ => rfl) Tryd.func9 rfl (by kernel_rfl) (by kernel_rfl) (fun c0 rdb => ?_)
  (repeat' ((conv => whnf); first | (refine AltG.none (by kernel_rfl) (EndG.go ?_)) | (refine Ob.intro (OrdG.intro (by kernel_rfl)) ?_) | (refine Ob.auto ?_) | (refine draw3n (fun _ => rfl) (by kernel_rfl) 300 (by rfl) ?_) | (refine Br.intro (fun hb => ?_) (fun hb => ?_) <;> (try simp [-List.getD_eq_getElem?_getD] at hb) <;> (try (exfalso; omega))) | (refine Ob.intro ?_ ?_)))
  ((conv => whnf); refine call_rule (fun _ => rfl) 300 h1 (by rfl) ⟨Le.slc rfl (fun j hj => ?_), trivial⟩ (by kernel_rfl) ?_)
  · have hj : j < 3 := hj
    match j, hj with
    | 0, _ => rfl
    | 1, _ => rfl
    | 2, _ => rfl
  (repeat' ((conv => whnf); first | (refine AltG.none (by kernel_rfl) (EndG.go ?_)) | (refine Ob.intro (OrdG.intro (by kernel_rfl)) ?_) | (refine Ob.auto ?_) | (refine Ob.intro (by (exact ⟨by decide, by decide⟩)) ?_) | (refine draw3n (fun _ => rfl) (by kernel_rfl) 300 (by rfl) ?_) | (refine Br.intro (fun hb => ?_) (fun hb => ?_) <;> (try simp [-List.getD_eq_getElem?_getD] at hb) <;> (try (exfalso; omega))) | (refine Ob.intro ?_ ?_)))
  ((conv => whnf); refine gcall_join (fun _ => rfl) 300 (fun _ => h2) (by rfl) (fun hg => ⟨(Le.cnd hg).trans (Le.slcL rfl fun i hi => ?_), trivial⟩) (by kernel_rfl) ?_)
  · have hi : i < 1 := hi
    match i, hi with
    | 0, _ =>
      refine ⟨Le.slc rfl fun j hj => ?_, trivial⟩
      have hj : j < 2 := hj
      match j, hj with
      | 0, _ => rfl
      | 1, _ => rfl
  (repeat' ((conv => whnf); first | (refine AltG.none (by kernel_rfl) (EndG.go ?_)) | (refine Ob.intro (OrdG.intro (by kernel_rfl)) ?_) | (refine Ob.auto ?_) | (refine Ob.intro (by (exact ⟨by decide, by decide⟩)) ?_) | (refine draw3n (fun _ => rfl) (by kernel_rfl) 300 (by rfl) ?_) | (refine Br.intro (fun hb => ?_) (fun hb => ?_) <;> (try simp [-List.getD_eq_getElem?_getD] at hb) <;> (try (exfalso; omega))) | (refine Ob.intro ?_ ?_)))
  exact Le.of_eq (congrArg AV.bool (by decide +kernel))

end Go.Proofs.YtcfllgdfhfcicaaDoor
