/-
  No cell of these rows narrows 'for every input' (looked for: loops, veiled, ifaces, maps, wideKeys, modest, calm, conditions, laid).
  DERIVED. THE GIVEN ROWS OF THIS SEAT. 5 by the template 'for every input the law returns true; each argument reads behind the call as it read before'; 0 by the template 'total and deterministic' (their statements: YtkhdldncbmkidaaTotals.lean).
  GIVEN WITH THE SEED: the statements are not yours to turn. If you find one false, say at which input.
  Laid BY PROGRAM, IN A SANDBOX (cutbox-rows.mjs): the forced cells as the released guide's own fill.sh prints them over the translation bb7d8b79e8f47096… (all of the seat's roots in one cut). By AI agents, Wed Nov 11 2026. No macro, syntax, notation, axiom, sorry.
-/
import Derived.Test.YtkhdldncbmkidaaChecked
import GoSem.Claim
import GoSem.ClaimJoined
import GoSem.ClaimMapViews
import Derived.JoinedTies
import Derived.KernelRfl
namespace Go.Proofs.Ytkhdldncbmkidaa
/- THE CELL 'sum', in the pinned program and in every row, IS THE sha256 OF THE DUMP (.gsa) THAT YtkhdldncbmkidaaProg.lean LOADS. Nothing in Lean hashes anything: it is a label: what it is worth is what the hold of that sum in a sandbox is worth. -/
noncomputable def Try.pinned : Pinned := { name := "ytkhdldncbmkidaa", sum := "bb7d8b79e8f470967cdf8d203a29ace453771d25e634f4bdff2e8704a9999c5e", checked := Try.checked }
namespace Rows
def none {H : Type} : Left H := { results := [], args := [] }

/-- 'weirgatelaw04.RupFollows': WHATEVER THE INPUT: true; the input reads as it did. -/
def rupFollowsSpec : ChangeSpec := { name := "rupFollows", fn := fun _ => fun
  | [d1, d2] => { results := [.lit (.bool true)], args := [d1, d2] }
  | _ => none }
def rupFollowsRow : OpenClaim := { program := "ytkhdldncbmkidaa", sum := "bb7d8b79e8f470967cdf8d203a29ace453771d25e634f4bdff2e8704a9999c5e", func := "weirgate/weirgatelaw04.RupFollows", spec := "rupFollows", unfollowed := true, recurses := true, apart := false }
def RupFollowsSaid : Prop := rupFollowsRow.holds Try.pinned (OpenSpec.ofChange rupFollowsSpec)

/-- ITS FALSE NEIGHBOUR: 'it returns false'. Refute it at one input. -/
def rupFollowsWrong : ChangeSpec := { name := "rupFollows", fn := fun _ => fun
  | [d1, d2] => { results := [.lit (.bool false)], args := [d1, d2] }
  | _ => none }
def RupFollowsWrongFalsely : Prop := rupFollowsRow.holds Try.pinned (OpenSpec.ofChange rupFollowsWrong)

/-- 'weirgatelaw04.RupChecks': WHATEVER THE INPUT: true; the input reads as it did. -/
def rupChecksSpec : ChangeSpec := { name := "rupChecks", fn := fun _ => fun
  | [d1, d2, d3] => { results := [.lit (.bool true)], args := [d1, d2, d3] }
  | _ => none }
def rupChecksRow : OpenClaim := { program := "ytkhdldncbmkidaa", sum := "bb7d8b79e8f470967cdf8d203a29ace453771d25e634f4bdff2e8704a9999c5e", func := "weirgate/weirgatelaw04.RupChecks", spec := "rupChecks", unfollowed := true, recurses := true, apart := false }
def RupChecksSaid : Prop := rupChecksRow.holds Try.pinned (OpenSpec.ofChange rupChecksSpec)

/-- ITS FALSE NEIGHBOUR: 'it returns false'. Refute it at one input. -/
def rupChecksWrong : ChangeSpec := { name := "rupChecks", fn := fun _ => fun
  | [d1, d2, d3] => { results := [.lit (.bool false)], args := [d1, d2, d3] }
  | _ => none }
def RupChecksWrongFalsely : Prop := rupChecksRow.holds Try.pinned (OpenSpec.ofChange rupChecksWrong)

/-- 'weirgatelaw04.RupMore': WHATEVER THE INPUT: true; the input reads as it did. -/
def rupMoreSpec : ChangeSpec := { name := "rupMore", fn := fun _ => fun
  | [d1, d2, d3] => { results := [.lit (.bool true)], args := [d1, d2, d3] }
  | _ => none }
def rupMoreRow : OpenClaim := { program := "ytkhdldncbmkidaa", sum := "bb7d8b79e8f470967cdf8d203a29ace453771d25e634f4bdff2e8704a9999c5e", func := "weirgate/weirgatelaw04.RupMore", spec := "rupMore", unfollowed := true, recurses := true, apart := false }
def RupMoreSaid : Prop := rupMoreRow.holds Try.pinned (OpenSpec.ofChange rupMoreSpec)

/-- ITS FALSE NEIGHBOUR: 'it returns false'. Refute it at one input. -/
def rupMoreWrong : ChangeSpec := { name := "rupMore", fn := fun _ => fun
  | [d1, d2, d3] => { results := [.lit (.bool false)], args := [d1, d2, d3] }
  | _ => none }
def RupMoreWrongFalsely : Prop := rupMoreRow.holds Try.pinned (OpenSpec.ofChange rupMoreWrong)

/-- 'weirgatelaw04.RupGoals': WHATEVER THE INPUT: true; the input reads as it did. -/
def rupGoalsSpec : ChangeSpec := { name := "rupGoals", fn := fun _ => fun
  | [d1, d2] => { results := [.lit (.bool true)], args := [d1, d2] }
  | _ => none }
def rupGoalsRow : OpenClaim := { program := "ytkhdldncbmkidaa", sum := "bb7d8b79e8f470967cdf8d203a29ace453771d25e634f4bdff2e8704a9999c5e", func := "weirgate/weirgatelaw04.RupGoals", spec := "rupGoals", unfollowed := true, recurses := true, apart := false }
def RupGoalsSaid : Prop := rupGoalsRow.holds Try.pinned (OpenSpec.ofChange rupGoalsSpec)

/-- ITS FALSE NEIGHBOUR: 'it returns false'. Refute it at one input. -/
def rupGoalsWrong : ChangeSpec := { name := "rupGoals", fn := fun _ => fun
  | [d1, d2] => { results := [.lit (.bool false)], args := [d1, d2] }
  | _ => none }
def RupGoalsWrongFalsely : Prop := rupGoalsRow.holds Try.pinned (OpenSpec.ofChange rupGoalsWrong)

/-- 'weirgatelaw04.RupModels': WHATEVER THE INPUT: true; the input reads as it did. -/
def rupModelsSpec : ChangeSpec := { name := "rupModels", fn := fun _ => fun
  | [d1, d2, d3] => { results := [.lit (.bool true)], args := [d1, d2, d3] }
  | _ => none }
def rupModelsRow : OpenClaim := { program := "ytkhdldncbmkidaa", sum := "bb7d8b79e8f470967cdf8d203a29ace453771d25e634f4bdff2e8704a9999c5e", func := "weirgate/weirgatelaw04.RupModels", spec := "rupModels", unfollowed := true, recurses := true, apart := false }
def RupModelsSaid : Prop := rupModelsRow.holds Try.pinned (OpenSpec.ofChange rupModelsSpec)

/-- ITS FALSE NEIGHBOUR: 'it returns false'. Refute it at one input. -/
def rupModelsWrong : ChangeSpec := { name := "rupModels", fn := fun _ => fun
  | [d1, d2, d3] => { results := [.lit (.bool false)], args := [d1, d2, d3] }
  | _ => none }
def RupModelsWrongFalsely : Prop := rupModelsRow.holds Try.pinned (OpenSpec.ofChange rupModelsWrong)

/- THE SECOND FORM. 'bulk': how many values and letters a reading holds, each counted each time it is reached (what is shared counts as often as it is met; a slice's spare places count too). A statement '..UptoSaid' is the law's where the arguments, and the package variables that the reading takes, are together of bulk at most 1048576: NARROWER than '..Said'. Prove '..Said' where nothing that the law and all that it calls make is longer than what came in: it says more and counts as full. Else prove '..UptoSaid'. A law counts once. -/
mutual
def uptoBulk {H : Type} : DataW H → Nat
  | .lit (.string bytes) => bytes.length + 1
  | .lit _ => 1
  | .nil => 1
  | .ptr d => uptoBulk d + 1
  | .slice elems spare => uptoBulkAll elems + uptoBulkAll spare + 1
  | .agg parts => uptoBulkAll parts + 1
  | .iface _ d => uptoBulk d + 1
  | .map entries => uptoBulkEntries entries + 1
  | .held _ => 1
def uptoBulkAll {H : Type} : List (DataW H) → Nat
  | [] => 0
  | d :: r => uptoBulk d + uptoBulkAll r
def uptoBulkEntries {H : Type} : List (Lit × DataW H) → Nat
  | [] => 0
  | x :: r => uptoBulkEntry x + uptoBulkEntries r
def uptoBulkEntry {H : Type} : Lit × DataW H → Nat
  | (.string bytes, d) => bytes.length + uptoBulk d + 1
  | (_, d) => uptoBulk d + 1
 end
def uptoSmall : (H : Type) → List (DataW H) → Bool := fun _ ds => decide (uptoBulkAll ds ≤ 1048576)
def OpenSpec.upto (s : _root_.Go.ChangeSpec) : _root_.Go.OpenSpec := { _root_.Go.OpenSpec.ofChange s with cond := some uptoSmall }

/-- 'weirgatelaw04.RupFollows', WHERE WHAT IT READS IS OF BULK AT MOST 1048576: true; the input reads as it did. -/
def rupFollowsUptoRow : OpenClaim := { program := "ytkhdldncbmkidaa", sum := "bb7d8b79e8f470967cdf8d203a29ace453771d25e634f4bdff2e8704a9999c5e", func := "weirgate/weirgatelaw04.RupFollows", spec := "rupFollows", unfollowed := true, recurses := true, apart := false, narrowed := true }
def RupFollowsUptoSaid : Prop := rupFollowsUptoRow.holds Try.pinned (OpenSpec.upto rupFollowsSpec)

/-- 'weirgatelaw04.RupChecks', WHERE WHAT IT READS IS OF BULK AT MOST 1048576: true; the input reads as it did. -/
def rupChecksUptoRow : OpenClaim := { program := "ytkhdldncbmkidaa", sum := "bb7d8b79e8f470967cdf8d203a29ace453771d25e634f4bdff2e8704a9999c5e", func := "weirgate/weirgatelaw04.RupChecks", spec := "rupChecks", unfollowed := true, recurses := true, apart := false, narrowed := true }
def RupChecksUptoSaid : Prop := rupChecksUptoRow.holds Try.pinned (OpenSpec.upto rupChecksSpec)

/-- 'weirgatelaw04.RupMore', WHERE WHAT IT READS IS OF BULK AT MOST 1048576: true; the input reads as it did. -/
def rupMoreUptoRow : OpenClaim := { program := "ytkhdldncbmkidaa", sum := "bb7d8b79e8f470967cdf8d203a29ace453771d25e634f4bdff2e8704a9999c5e", func := "weirgate/weirgatelaw04.RupMore", spec := "rupMore", unfollowed := true, recurses := true, apart := false, narrowed := true }
def RupMoreUptoSaid : Prop := rupMoreUptoRow.holds Try.pinned (OpenSpec.upto rupMoreSpec)

/-- 'weirgatelaw04.RupGoals', WHERE WHAT IT READS IS OF BULK AT MOST 1048576: true; the input reads as it did. -/
def rupGoalsUptoRow : OpenClaim := { program := "ytkhdldncbmkidaa", sum := "bb7d8b79e8f470967cdf8d203a29ace453771d25e634f4bdff2e8704a9999c5e", func := "weirgate/weirgatelaw04.RupGoals", spec := "rupGoals", unfollowed := true, recurses := true, apart := false, narrowed := true }
def RupGoalsUptoSaid : Prop := rupGoalsUptoRow.holds Try.pinned (OpenSpec.upto rupGoalsSpec)

/-- 'weirgatelaw04.RupModels', WHERE WHAT IT READS IS OF BULK AT MOST 1048576: true; the input reads as it did. -/
def rupModelsUptoRow : OpenClaim := { program := "ytkhdldncbmkidaa", sum := "bb7d8b79e8f470967cdf8d203a29ace453771d25e634f4bdff2e8704a9999c5e", func := "weirgate/weirgatelaw04.RupModels", spec := "rupModels", unfollowed := true, recurses := true, apart := false, narrowed := true }
def RupModelsUptoSaid : Prop := rupModelsUptoRow.holds Try.pinned (OpenSpec.upto rupModelsSpec)

end Rows
end Go.Proofs.Ytkhdldncbmkidaa
