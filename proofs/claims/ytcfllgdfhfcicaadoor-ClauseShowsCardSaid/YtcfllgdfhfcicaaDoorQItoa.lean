/- Contract: strconv.Itoa. -/
import Derived.Test.YtcfllgdfhfcicaaDoorQ3
import Derived.Test.YtcfllgdfhfcicaaDoorQShYtcfllgdfhfcicaaDoor
import Derived.Test.YtcfllgdfhfcicaaDoorQMdl
import Derived.Shelf.Strconv.Itoa3
import Derived.Lib.AppendIntMem
set_option linter.unusedSimpArgs false
set_option linter.unusedVariables false
namespace Go.Proofs.YtcfllgdfhfcicaaDoor
open Go Go.Sx Go.RowKit Go.Sort
set_option maxRecDepth 100000

theorem itoa_con (n : Int) (h0 : -9223372036854775808 ≤ n) (h1 : n ≤ 9223372036854775807) : Con Tryd.prog 43 [iv n] (.str (Lib.itoa n)) := by
  refine con_flat Tryd.func43 rfl (by kernel_rfl) [iv n] _ fun rd w vs hm ha => ?_
  obtain ⟨a, rfl, h⟩ := relL_one ha
  obtain rfl := rel_int_eq h
  refine (Any.strconv_Itoa Tryd.laysM171 n h0 h1 w (tabIs_of (g := 0) (by kernel_rfl) (hm.tabs (_, _) (by unfold tbs; exact List.mem_singleton.2 rfl)))).mono fun x w' ⟨he, k, os, hw⟩ => ⟨_, he, .str _ _, ?_⟩
  subst hw
  exact Lib.below_grow w.heap.size w (Nat.le_refl _) k os

end Go.Proofs.YtcfllgdfhfcicaaDoor
