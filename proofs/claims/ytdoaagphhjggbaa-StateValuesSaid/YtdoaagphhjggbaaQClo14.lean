/- Closed runs: the text of the document's example of layer 14 is parsed, and its model made. -/
import Derived.Test.YtdoaagphhjggbaaQMdl
import Derived.Test.YtdoaagphhjggbaaChecked
import Derived.KernelRfl
namespace Go.Proofs.Ytdoaagphhjggbaa
open Go Go.Sx Go.RowKit

noncomputable def D0 : CE := ⟨Try.prog, tab Try.prog, fun _ => { lit := true }⟩

theorem D0_T (t : Nat) : D0.T t = tab D0.P t := by kernel_rfl
theorem D0_mix : D0.P.follows .mixedOrders = true := by kernel_rfl

def text14 : List UInt8 := [115, 97, 102, 101, 32, 49, 48, 48, 32, 43, 32, 49, 48, 48, 59]
def tree14 : List Nd := [⟨0, [], [], [1], 0⟩, ⟨4, [], [], [2], 0⟩, ⟨22, [], [4], [3, 4], 5⟩, ⟨17, [], [100], [], 5⟩, ⟨17, [], [100], [], 11⟩]
def model14 : Md := { tree := tree14, safe := [2] }

theorem parse14 : Con Try.prog 15 [.str text14] (.tup [treeV tree14, flt 0 0]) :=
  con_of_crun (D := D0) D0_T D0_mix (n := 100000) (by kernel_rfl)

theorem make14 : Con Try.prog 16 [treeV tree14] (.tup [model14.av, .bool true]) :=
  con_of_crun (D := D0) D0_T D0_mix (n := 100000) (by kernel_rfl)

end Go.Proofs.Ytdoaagphhjggbaa
