/- Arguments of this program's types are read as the executor reads them. -/
import Derived.Test.YtcfllgdfhfcicaaDoorQ1
import Derived.Test.YtcfllgdfhfcicaaDoorQTr0
import Derived.Test.YtcfllgdfhfcicaaDoorRows
import Derived.ProofKit
set_option linter.unusedSimpArgs false
set_option linter.unusedVariables false
namespace Go.Proofs.YtcfllgdfhfcicaaDoor
open Go Go.Sx Go.RowKit Go.St
set_option maxRecDepth 100000

section
variable {H : Type} {enc : TypeId × Value → H}

theorem max64 : maxLen = 9223372036854775807 := by decide +kernel

theorem rdr_ints : Rdr enc Tryd.prog 22 (fun ys => ∃ l : List Int, (l.length ≤ maxLen ∧ ∀ n ∈ l, (Lit.int .i64 n).wf = true) ∧ ys = [ints l]) :=
  rdr_slice (en := fun n => [iv n]) Tryd.underlying22 (by kernel_rfl) (by decide) (fun _ => rfl) (rdr_int Tryd.underlying3)

theorem rdr_strs : Rdr enc Tryd.prog 61 (fun ys => ∃ l : List (List UInt8), (l.length ≤ maxLen ∧ ∀ s ∈ l, s.length ≤ maxLen) ∧ ys = [strs l]) :=
  rdr_slice (en := fun s => [.str s]) Tryd.underlying61 (by kernel_rfl) (by decide) (fun _ => rfl) (rdr_str Tryd.underlying9)

def ndQ : Nat → AV → Prop
  | 0, y | 4, y => ∃ n : Int, y = iv n
  | 1, y => ∃ l : List (List UInt8), (l.length ≤ maxLen ∧ ∀ s ∈ l, s.length ≤ maxLen) ∧ y = strs l
  | 2, y | 3, y => ∃ l : List Int, l.length ≤ maxLen ∧ y = ints l
  | _, _ => True

end

end Go.Proofs.YtcfllgdfhfcicaaDoor
