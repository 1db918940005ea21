/- Clauses and models as arguments are read as the executor reads them. -/
import Derived.Test.YtcfllgdfhfcicaaDoorQNdRd
import Derived.Test.YtcfllgdfhfcicaaDoorQCn1
set_option linter.unusedSimpArgs false
set_option linter.unusedVariables false
namespace Go.Proofs.YtcfllgdfhfcicaaDoor
open Go Go.Sx Go.RowKit
set_option maxRecDepth 100000

section
variable {H : Type} {enc : TypeId × Value → H}

theorem rdr_bools : Rdr enc Tryd.prog 29 (fun ys => ∃ l : List Bool, (l.length ≤ maxLen ∧ ∀ r ∈ l, True) ∧ ys = [bools l]) :=
  rdr_slice (en := fun b => [.bool b]) Tryd.underlying29 (by kernel_rfl) (by decide) (fun _ => rfl) (rdr_bool Tryd.underlying4)

theorem rdr_lists : Rdr enc Tryd.prog 31 (fun ys => ∃ l : List (List Int), (l.length ≤ maxLen ∧ ∀ r ∈ l, r.length ≤ maxLen) ∧ ys = [listsV l]) :=
  rdr_slice (en := fun l => [ints l]) Tryd.underlying31 (by kernel_rfl) (by decide) (fun _ => rfl) (rdr_ints.mono fun ys ⟨l, h1, h⟩ => ⟨l, h1.1, h⟩)

end
end Go.Proofs.YtcfllgdfhfcicaaDoor
