/-
  No cell of these rows narrows 'for every input' (looked for: loops, veiled, ifaces, maps, wideKeys, modest, calm, conditions, laid).
  DERIVED. THE GIVEN ROWS OF THIS SEAT. 5 by the template 'for every input the law returns true; each argument reads behind the call as it read before'; 0 by the template 'total and deterministic' (their statements: YtdoaagphhjggbaaTotals.lean).
  GIVEN WITH THE SEED: the statements are not yours to turn. If you find one false, say at which input.
  Laid BY PROGRAM, IN A SANDBOX (cutbox-rows.mjs): the forced cells as the released guide's own fill.sh prints them over the translation 996ca6059cf1d488… (all of the seat's roots in one cut). By AI agents, Wed Nov 11 2026. No macro, syntax, notation, axiom, sorry.
-/
import Derived.Test.YtdoaagphhjggbaaChecked
import GoSem.Claim
import GoSem.ClaimJoined
import GoSem.ClaimMapViews
import Derived.JoinedTies
import Derived.KernelRfl
namespace Go.Proofs.Ytdoaagphhjggbaa
/- THE CELL 'sum', in the pinned program and in every row, IS THE sha256 OF THE DUMP (.gsa) THAT YtdoaagphhjggbaaProg.lean LOADS. Nothing in Lean hashes anything: it is a label: what it is worth is what the hold of that sum in a sandbox is worth. -/
noncomputable def Try.pinned : Pinned := { name := "ytdoaagphhjggbaa", sum := "996ca6059cf1d48851281aab694946523f0b79997e9152086bb8e5bd7378959f", checked := Try.checked }
namespace Rows
def none {H : Type} : Left H := { results := [], args := [] }

/-- 'weirgatelaw14.StateValues': WHATEVER THE INPUT: true; the input reads as it did. -/
def stateValuesSpec : ChangeSpec := { name := "stateValues", fn := fun _ => fun
  | [d1, d2, d3] => { results := [.lit (.bool true)], args := [d1, d2, d3] }
  | _ => none }
def stateValuesRow : OpenClaim := { program := "ytdoaagphhjggbaa", sum := "996ca6059cf1d48851281aab694946523f0b79997e9152086bb8e5bd7378959f", func := "weirgate/weirgatelaw14.StateValues", spec := "stateValues", unfollowed := true, recurses := true, apart := false }
def StateValuesSaid : Prop := stateValuesRow.holds Try.pinned (OpenSpec.ofChange stateValuesSpec)

/-- ITS FALSE NEIGHBOUR: 'it returns false'. Refute it at one input. -/
def stateValuesWrong : ChangeSpec := { name := "stateValues", fn := fun _ => fun
  | [d1, d2, d3] => { results := [.lit (.bool false)], args := [d1, d2, d3] }
  | _ => none }
def StateValuesWrongFalsely : Prop := stateValuesRow.holds Try.pinned (OpenSpec.ofChange stateValuesWrong)

/-- 'weirgatelaw14.StateTruth': WHATEVER THE INPUT: true; the input reads as it did. -/
def stateTruthSpec : ChangeSpec := { name := "stateTruth", fn := fun _ => fun
  | [d1, d2] => { results := [.lit (.bool true)], args := [d1, d2] }
  | _ => none }
def stateTruthRow : OpenClaim := { program := "ytdoaagphhjggbaa", sum := "996ca6059cf1d48851281aab694946523f0b79997e9152086bb8e5bd7378959f", func := "weirgate/weirgatelaw14.StateTruth", spec := "stateTruth", unfollowed := true, recurses := true, apart := false }
def StateTruthSaid : Prop := stateTruthRow.holds Try.pinned (OpenSpec.ofChange stateTruthSpec)

/-- ITS FALSE NEIGHBOUR: 'it returns false'. Refute it at one input. -/
def stateTruthWrong : ChangeSpec := { name := "stateTruth", fn := fun _ => fun
  | [d1, d2] => { results := [.lit (.bool false)], args := [d1, d2] }
  | _ => none }
def StateTruthWrongFalsely : Prop := stateTruthRow.holds Try.pinned (OpenSpec.ofChange stateTruthWrong)

/-- 'weirgatelaw14.StateFits': WHATEVER THE INPUT: true; the input reads as it did. -/
def stateFitsSpec : ChangeSpec := { name := "stateFits", fn := fun _ => fun
  | [d1, d2, d3] => { results := [.lit (.bool true)], args := [d1, d2, d3] }
  | _ => none }
def stateFitsRow : OpenClaim := { program := "ytdoaagphhjggbaa", sum := "996ca6059cf1d48851281aab694946523f0b79997e9152086bb8e5bd7378959f", func := "weirgate/weirgatelaw14.StateFits", spec := "stateFits", unfollowed := true, recurses := true, apart := false }
def StateFitsSaid : Prop := stateFitsRow.holds Try.pinned (OpenSpec.ofChange stateFitsSpec)

/-- ITS FALSE NEIGHBOUR: 'it returns false'. Refute it at one input. -/
def stateFitsWrong : ChangeSpec := { name := "stateFits", fn := fun _ => fun
  | [d1, d2, d3] => { results := [.lit (.bool false)], args := [d1, d2, d3] }
  | _ => none }
def StateFitsWrongFalsely : Prop := stateFitsRow.holds Try.pinned (OpenSpec.ofChange stateFitsWrong)

/-- 'weirgatelaw15.StepQueue': WHATEVER THE INPUT: true; the input reads as it did. -/
def stepQueueSpec : ChangeSpec := { name := "stepQueue", fn := fun _ => fun
  | [d1, d2] => { results := [.lit (.bool true)], args := [d1, d2] }
  | _ => none }
def stepQueueRow : OpenClaim := { program := "ytdoaagphhjggbaa", sum := "996ca6059cf1d48851281aab694946523f0b79997e9152086bb8e5bd7378959f", func := "weirgate/weirgatelaw15.StepQueue", spec := "stepQueue", unfollowed := true, recurses := true, apart := false }
def StepQueueSaid : Prop := stepQueueRow.holds Try.pinned (OpenSpec.ofChange stepQueueSpec)

/-- ITS FALSE NEIGHBOUR: 'it returns false'. Refute it at one input. -/
def stepQueueWrong : ChangeSpec := { name := "stepQueue", fn := fun _ => fun
  | [d1, d2] => { results := [.lit (.bool false)], args := [d1, d2] }
  | _ => none }
def StepQueueWrongFalsely : Prop := stepQueueRow.holds Try.pinned (OpenSpec.ofChange stepQueueWrong)

/-- 'weirgatelaw15.StepWrap': WHATEVER THE INPUT: true; the input reads as it did. -/
def stepWrapSpec : ChangeSpec := { name := "stepWrap", fn := fun _ => fun
  | [d1, d2, d3] => { results := [.lit (.bool true)], args := [d1, d2, d3] }
  | _ => none }
def stepWrapRow : OpenClaim := { program := "ytdoaagphhjggbaa", sum := "996ca6059cf1d48851281aab694946523f0b79997e9152086bb8e5bd7378959f", func := "weirgate/weirgatelaw15.StepWrap", spec := "stepWrap", unfollowed := true, recurses := true, apart := false }
def StepWrapSaid : Prop := stepWrapRow.holds Try.pinned (OpenSpec.ofChange stepWrapSpec)

/-- ITS FALSE NEIGHBOUR: 'it returns false'. Refute it at one input. -/
def stepWrapWrong : ChangeSpec := { name := "stepWrap", fn := fun _ => fun
  | [d1, d2, d3] => { results := [.lit (.bool false)], args := [d1, d2, d3] }
  | _ => none }
def StepWrapWrongFalsely : Prop := stepWrapRow.holds Try.pinned (OpenSpec.ofChange stepWrapWrong)

/- THE SECOND FORM. 'bulk': how many values and letters a reading holds, each counted each time it is reached (what is shared counts as often as it is met; a slice's spare places count too). A statement '..UptoSaid' is the law's where the arguments, and the package variables that the reading takes, are together of bulk at most 1048576: NARROWER than '..Said'. Prove '..Said' where nothing that the law and all that it calls make is longer than what came in: it says more and counts as full. Else prove '..UptoSaid'. A law counts once. -/
mutual
def uptoBulk {H : Type} : DataW H → Nat
  | .lit (.string bytes) => bytes.length + 1
  | .lit _ => 1
  | .nil => 1
  | .ptr d => uptoBulk d + 1
  | .slice elems spare => uptoBulkAll elems + uptoBulkAll spare + 1
  | .agg parts => uptoBulkAll parts + 1
  | .iface _ d => uptoBulk d + 1
  | .map entries => uptoBulkEntries entries + 1
  | .held _ => 1
def uptoBulkAll {H : Type} : List (DataW H) → Nat
  | [] => 0
  | d :: r => uptoBulk d + uptoBulkAll r
def uptoBulkEntries {H : Type} : List (Lit × DataW H) → Nat
  | [] => 0
  | x :: r => uptoBulkEntry x + uptoBulkEntries r
def uptoBulkEntry {H : Type} : Lit × DataW H → Nat
  | (.string bytes, d) => bytes.length + uptoBulk d + 1
  | (_, d) => uptoBulk d + 1
 end
def uptoSmall : (H : Type) → List (DataW H) → Bool := fun _ ds => decide (uptoBulkAll ds ≤ 1048576)
def OpenSpec.upto (s : _root_.Go.ChangeSpec) : _root_.Go.OpenSpec := { _root_.Go.OpenSpec.ofChange s with cond := some uptoSmall }

/-- 'weirgatelaw14.StateValues', WHERE WHAT IT READS IS OF BULK AT MOST 1048576: true; the input reads as it did. -/
def stateValuesUptoRow : OpenClaim := { program := "ytdoaagphhjggbaa", sum := "996ca6059cf1d48851281aab694946523f0b79997e9152086bb8e5bd7378959f", func := "weirgate/weirgatelaw14.StateValues", spec := "stateValues", unfollowed := true, recurses := true, apart := false, narrowed := true }
def StateValuesUptoSaid : Prop := stateValuesUptoRow.holds Try.pinned (OpenSpec.upto stateValuesSpec)

/-- 'weirgatelaw14.StateTruth', WHERE WHAT IT READS IS OF BULK AT MOST 1048576: true; the input reads as it did. -/
def stateTruthUptoRow : OpenClaim := { program := "ytdoaagphhjggbaa", sum := "996ca6059cf1d48851281aab694946523f0b79997e9152086bb8e5bd7378959f", func := "weirgate/weirgatelaw14.StateTruth", spec := "stateTruth", unfollowed := true, recurses := true, apart := false, narrowed := true }
def StateTruthUptoSaid : Prop := stateTruthUptoRow.holds Try.pinned (OpenSpec.upto stateTruthSpec)

/-- 'weirgatelaw14.StateFits', WHERE WHAT IT READS IS OF BULK AT MOST 1048576: true; the input reads as it did. -/
def stateFitsUptoRow : OpenClaim := { program := "ytdoaagphhjggbaa", sum := "996ca6059cf1d48851281aab694946523f0b79997e9152086bb8e5bd7378959f", func := "weirgate/weirgatelaw14.StateFits", spec := "stateFits", unfollowed := true, recurses := true, apart := false, narrowed := true }
def StateFitsUptoSaid : Prop := stateFitsUptoRow.holds Try.pinned (OpenSpec.upto stateFitsSpec)

/-- 'weirgatelaw15.StepQueue', WHERE WHAT IT READS IS OF BULK AT MOST 1048576: true; the input reads as it did. -/
def stepQueueUptoRow : OpenClaim := { program := "ytdoaagphhjggbaa", sum := "996ca6059cf1d48851281aab694946523f0b79997e9152086bb8e5bd7378959f", func := "weirgate/weirgatelaw15.StepQueue", spec := "stepQueue", unfollowed := true, recurses := true, apart := false, narrowed := true }
def StepQueueUptoSaid : Prop := stepQueueUptoRow.holds Try.pinned (OpenSpec.upto stepQueueSpec)

/-- 'weirgatelaw15.StepWrap', WHERE WHAT IT READS IS OF BULK AT MOST 1048576: true; the input reads as it did. -/
def stepWrapUptoRow : OpenClaim := { program := "ytdoaagphhjggbaa", sum := "996ca6059cf1d48851281aab694946523f0b79997e9152086bb8e5bd7378959f", func := "weirgate/weirgatelaw15.StepWrap", spec := "stepWrap", unfollowed := true, recurses := true, apart := false, narrowed := true }
def StepWrapUptoSaid : Prop := stepWrapUptoRow.holds Try.pinned (OpenSpec.upto stepWrapSpec)

end Rows
end Go.Proofs.Ytdoaagphhjggbaa
