/-
  No cell of these rows narrows 'for every input' (looked for: loops, veiled, ifaces, maps, wideKeys, modest, calm, conditions, laid).
  DERIVED. THE GIVEN ROWS OF THIS SEAT. 7 by the template 'for every input the law returns true; each argument reads behind the call as it read before'; 0 by the template 'total and deterministic' (their statements: YtdoaagphhjggbaaGreatTotals.lean).
  GIVEN WITH THE SEED: the statements are not yours to turn. If you find one false, say at which input.
  Laid BY PROGRAM, IN A SANDBOX (cutbox-rows.mjs): the forced cells as the released guide's own fill.sh prints them over the translation 265c867884ed3c1e… (all of the seat's roots in one cut). By AI agents, Wed Nov 11 2026. No macro, syntax, notation, axiom, sorry.
-/
import Derived.Test.YtdoaagphhjggbaaGreatChecked
import GoSem.Claim
import GoSem.ClaimJoined
import GoSem.ClaimMapViews
import Derived.JoinedTies
import Derived.KernelRfl
namespace Go.Proofs.YtdoaagphhjggbaaGreat
/- THE CELL 'sum', in the pinned program and in every row, IS THE sha256 OF THE DUMP (.gsa) THAT YtdoaagphhjggbaaGreatProg.lean LOADS. Nothing in Lean hashes anything: it is a label: what it is worth is what the hold of that sum in a sandbox is worth. -/
noncomputable def Tryz.pinned : Pinned := { name := "ytdoaagphhjggbaagreat", sum := "265c867884ed3c1eae97f09177f8ac1cc24ef64df9e341dc0023eeb0263f571c", checked := Tryz.checked }
namespace Rows
def none {H : Type} : Left H := { results := [], args := [] }

/-- 'weirgatelaw15.StepMoves': WHATEVER THE INPUT: true; the input reads as it did. -/
def stepMovesSpec : ChangeSpec := { name := "stepMoves", fn := fun _ => fun
  | [d1, d2] => { results := [.lit (.bool true)], args := [d1, d2] }
  | _ => none }
def stepMovesRow : OpenClaim := { program := "ytdoaagphhjggbaagreat", sum := "265c867884ed3c1eae97f09177f8ac1cc24ef64df9e341dc0023eeb0263f571c", func := "weirgate/weirgatelaw15.StepMoves", spec := "stepMoves", unfollowed := true, recurses := true, apart := false }
def StepMovesSaid : Prop := stepMovesRow.holds Tryz.pinned (OpenSpec.ofChange stepMovesSpec)

/-- ITS FALSE NEIGHBOUR: 'it returns false'. Refute it at one input. -/
def stepMovesWrong : ChangeSpec := { name := "stepMoves", fn := fun _ => fun
  | [d1, d2] => { results := [.lit (.bool false)], args := [d1, d2] }
  | _ => none }
def StepMovesWrongFalsely : Prop := stepMovesRow.holds Tryz.pinned (OpenSpec.ofChange stepMovesWrong)

/-- 'weirgatelaw15.StepDoes': WHATEVER THE INPUT: true; the input reads as it did. -/
def stepDoesSpec : ChangeSpec := { name := "stepDoes", fn := fun _ => fun
  | [d1, d2, d3] => { results := [.lit (.bool true)], args := [d1, d2, d3] }
  | _ => none }
def stepDoesRow : OpenClaim := { program := "ytdoaagphhjggbaagreat", sum := "265c867884ed3c1eae97f09177f8ac1cc24ef64df9e341dc0023eeb0263f571c", func := "weirgate/weirgatelaw15.StepDoes", spec := "stepDoes", unfollowed := true, recurses := true, apart := false }
def StepDoesSaid : Prop := stepDoesRow.holds Tryz.pinned (OpenSpec.ofChange stepDoesSpec)

/-- ITS FALSE NEIGHBOUR: 'it returns false'. Refute it at one input. -/
def stepDoesWrong : ChangeSpec := { name := "stepDoes", fn := fun _ => fun
  | [d1, d2, d3] => { results := [.lit (.bool false)], args := [d1, d2, d3] }
  | _ => none }
def StepDoesWrongFalsely : Prop := stepDoesRow.holds Tryz.pinned (OpenSpec.ofChange stepDoesWrong)

/-- 'weirgatelaw15.StepRuns': WHATEVER THE INPUT: true; the input reads as it did. -/
def stepRunsSpec : ChangeSpec := { name := "stepRuns", fn := fun _ => fun
  | [d1, d2] => { results := [.lit (.bool true)], args := [d1, d2] }
  | _ => none }
def stepRunsRow : OpenClaim := { program := "ytdoaagphhjggbaagreat", sum := "265c867884ed3c1eae97f09177f8ac1cc24ef64df9e341dc0023eeb0263f571c", func := "weirgate/weirgatelaw15.StepRuns", spec := "stepRuns", unfollowed := true, recurses := true, apart := false }
def StepRunsSaid : Prop := stepRunsRow.holds Tryz.pinned (OpenSpec.ofChange stepRunsSpec)

/-- ITS FALSE NEIGHBOUR: 'it returns false'. Refute it at one input. -/
def stepRunsWrong : ChangeSpec := { name := "stepRuns", fn := fun _ => fun
  | [d1, d2] => { results := [.lit (.bool false)], args := [d1, d2] }
  | _ => none }
def StepRunsWrongFalsely : Prop := stepRunsRow.holds Tryz.pinned (OpenSpec.ofChange stepRunsWrong)

/-- 'weirgatelaw17.TraceCuts': WHATEVER THE INPUT: true; the input reads as it did. -/
def traceCutsSpec : ChangeSpec := { name := "traceCuts", fn := fun _ => fun
  | [d1, d2, d3] => { results := [.lit (.bool true)], args := [d1, d2, d3] }
  | _ => none }
def traceCutsRow : OpenClaim := { program := "ytdoaagphhjggbaagreat", sum := "265c867884ed3c1eae97f09177f8ac1cc24ef64df9e341dc0023eeb0263f571c", func := "weirgate/weirgatelaw17.TraceCuts", spec := "traceCuts", unfollowed := true, recurses := true, apart := false }
def TraceCutsSaid : Prop := traceCutsRow.holds Tryz.pinned (OpenSpec.ofChange traceCutsSpec)

/-- ITS FALSE NEIGHBOUR: 'it returns false'. Refute it at one input. -/
def traceCutsWrong : ChangeSpec := { name := "traceCuts", fn := fun _ => fun
  | [d1, d2, d3] => { results := [.lit (.bool false)], args := [d1, d2, d3] }
  | _ => none }
def TraceCutsWrongFalsely : Prop := traceCutsRow.holds Tryz.pinned (OpenSpec.ofChange traceCutsWrong)

/-- 'weirgatelaw17.TraceWrong': WHATEVER THE INPUT: true; the input reads as it did. -/
def traceWrongSpec : ChangeSpec := { name := "traceWrong", fn := fun _ => fun
  | [d1, d2, d3] => { results := [.lit (.bool true)], args := [d1, d2, d3] }
  | _ => none }
def traceWrongRow : OpenClaim := { program := "ytdoaagphhjggbaagreat", sum := "265c867884ed3c1eae97f09177f8ac1cc24ef64df9e341dc0023eeb0263f571c", func := "weirgate/weirgatelaw17.TraceWrong", spec := "traceWrong", unfollowed := true, recurses := true, apart := false }
def TraceWrongSaid : Prop := traceWrongRow.holds Tryz.pinned (OpenSpec.ofChange traceWrongSpec)

/-- ITS FALSE NEIGHBOUR: 'it returns false'. Refute it at one input. -/
def traceWrongWrong : ChangeSpec := { name := "traceWrong", fn := fun _ => fun
  | [d1, d2, d3] => { results := [.lit (.bool false)], args := [d1, d2, d3] }
  | _ => none }
def TraceWrongWrongFalsely : Prop := traceWrongRow.holds Tryz.pinned (OpenSpec.ofChange traceWrongWrong)

/-- 'weirgatelaw17.TracePlays': WHATEVER THE INPUT: true; the input reads as it did. -/
def tracePlaysSpec : ChangeSpec := { name := "tracePlays", fn := fun _ => fun
  | [d1, d2] => { results := [.lit (.bool true)], args := [d1, d2] }
  | _ => none }
def tracePlaysRow : OpenClaim := { program := "ytdoaagphhjggbaagreat", sum := "265c867884ed3c1eae97f09177f8ac1cc24ef64df9e341dc0023eeb0263f571c", func := "weirgate/weirgatelaw17.TracePlays", spec := "tracePlays", unfollowed := true, recurses := true, apart := false }
def TracePlaysSaid : Prop := tracePlaysRow.holds Tryz.pinned (OpenSpec.ofChange tracePlaysSpec)

/-- ITS FALSE NEIGHBOUR: 'it returns false'. Refute it at one input. -/
def tracePlaysWrong : ChangeSpec := { name := "tracePlays", fn := fun _ => fun
  | [d1, d2] => { results := [.lit (.bool false)], args := [d1, d2] }
  | _ => none }
def TracePlaysWrongFalsely : Prop := tracePlaysRow.holds Tryz.pinned (OpenSpec.ofChange tracePlaysWrong)

/-- 'weirgatelaw17.TraceRuns': WHATEVER THE INPUT: true; the input reads as it did. -/
def traceRunsSpec : ChangeSpec := { name := "traceRuns", fn := fun _ => fun
  | [d1, d2] => { results := [.lit (.bool true)], args := [d1, d2] }
  | _ => none }
def traceRunsRow : OpenClaim := { program := "ytdoaagphhjggbaagreat", sum := "265c867884ed3c1eae97f09177f8ac1cc24ef64df9e341dc0023eeb0263f571c", func := "weirgate/weirgatelaw17.TraceRuns", spec := "traceRuns", unfollowed := true, recurses := true, apart := false }
def TraceRunsSaid : Prop := traceRunsRow.holds Tryz.pinned (OpenSpec.ofChange traceRunsSpec)

/-- ITS FALSE NEIGHBOUR: 'it returns false'. Refute it at one input. -/
def traceRunsWrong : ChangeSpec := { name := "traceRuns", fn := fun _ => fun
  | [d1, d2] => { results := [.lit (.bool false)], args := [d1, d2] }
  | _ => none }
def TraceRunsWrongFalsely : Prop := traceRunsRow.holds Tryz.pinned (OpenSpec.ofChange traceRunsWrong)

/- THE SECOND FORM. 'bulk': how many values and letters a reading holds, each counted each time it is reached (what is shared counts as often as it is met; a slice's spare places count too). A statement '..UptoSaid' is the law's where the arguments, and the package variables that the reading takes, are together of bulk at most 1048576: NARROWER than '..Said'. Prove '..Said' where nothing that the law and all that it calls make is longer than what came in: it says more and counts as full. Else prove '..UptoSaid'. A law counts once. -/
mutual
def uptoBulk {H : Type} : DataW H → Nat
  | .lit (.string bytes) => bytes.length + 1
  | .lit _ => 1
  | .nil => 1
  | .ptr d => uptoBulk d + 1
  | .slice elems spare => uptoBulkAll elems + uptoBulkAll spare + 1
  | .agg parts => uptoBulkAll parts + 1
  | .iface _ d => uptoBulk d + 1
  | .map entries => uptoBulkEntries entries + 1
  | .held _ => 1
def uptoBulkAll {H : Type} : List (DataW H) → Nat
  | [] => 0
  | d :: r => uptoBulk d + uptoBulkAll r
def uptoBulkEntries {H : Type} : List (Lit × DataW H) → Nat
  | [] => 0
  | x :: r => uptoBulkEntry x + uptoBulkEntries r
def uptoBulkEntry {H : Type} : Lit × DataW H → Nat
  | (.string bytes, d) => bytes.length + uptoBulk d + 1
  | (_, d) => uptoBulk d + 1
 end
def uptoSmall : (H : Type) → List (DataW H) → Bool := fun _ ds => decide (uptoBulkAll ds ≤ 1048576)
def OpenSpec.upto (s : _root_.Go.ChangeSpec) : _root_.Go.OpenSpec := { _root_.Go.OpenSpec.ofChange s with cond := some uptoSmall }

/-- 'weirgatelaw15.StepMoves', WHERE WHAT IT READS IS OF BULK AT MOST 1048576: true; the input reads as it did. -/
def stepMovesUptoRow : OpenClaim := { program := "ytdoaagphhjggbaagreat", sum := "265c867884ed3c1eae97f09177f8ac1cc24ef64df9e341dc0023eeb0263f571c", func := "weirgate/weirgatelaw15.StepMoves", spec := "stepMoves", unfollowed := true, recurses := true, apart := false, narrowed := true }
def StepMovesUptoSaid : Prop := stepMovesUptoRow.holds Tryz.pinned (OpenSpec.upto stepMovesSpec)

/-- 'weirgatelaw15.StepDoes', WHERE WHAT IT READS IS OF BULK AT MOST 1048576: true; the input reads as it did. -/
def stepDoesUptoRow : OpenClaim := { program := "ytdoaagphhjggbaagreat", sum := "265c867884ed3c1eae97f09177f8ac1cc24ef64df9e341dc0023eeb0263f571c", func := "weirgate/weirgatelaw15.StepDoes", spec := "stepDoes", unfollowed := true, recurses := true, apart := false, narrowed := true }
def StepDoesUptoSaid : Prop := stepDoesUptoRow.holds Tryz.pinned (OpenSpec.upto stepDoesSpec)

/-- 'weirgatelaw15.StepRuns', WHERE WHAT IT READS IS OF BULK AT MOST 1048576: true; the input reads as it did. -/
def stepRunsUptoRow : OpenClaim := { program := "ytdoaagphhjggbaagreat", sum := "265c867884ed3c1eae97f09177f8ac1cc24ef64df9e341dc0023eeb0263f571c", func := "weirgate/weirgatelaw15.StepRuns", spec := "stepRuns", unfollowed := true, recurses := true, apart := false, narrowed := true }
def StepRunsUptoSaid : Prop := stepRunsUptoRow.holds Tryz.pinned (OpenSpec.upto stepRunsSpec)

/-- 'weirgatelaw17.TraceCuts', WHERE WHAT IT READS IS OF BULK AT MOST 1048576: true; the input reads as it did. -/
def traceCutsUptoRow : OpenClaim := { program := "ytdoaagphhjggbaagreat", sum := "265c867884ed3c1eae97f09177f8ac1cc24ef64df9e341dc0023eeb0263f571c", func := "weirgate/weirgatelaw17.TraceCuts", spec := "traceCuts", unfollowed := true, recurses := true, apart := false, narrowed := true }
def TraceCutsUptoSaid : Prop := traceCutsUptoRow.holds Tryz.pinned (OpenSpec.upto traceCutsSpec)

/-- 'weirgatelaw17.TraceWrong', WHERE WHAT IT READS IS OF BULK AT MOST 1048576: true; the input reads as it did. -/
def traceWrongUptoRow : OpenClaim := { program := "ytdoaagphhjggbaagreat", sum := "265c867884ed3c1eae97f09177f8ac1cc24ef64df9e341dc0023eeb0263f571c", func := "weirgate/weirgatelaw17.TraceWrong", spec := "traceWrong", unfollowed := true, recurses := true, apart := false, narrowed := true }
def TraceWrongUptoSaid : Prop := traceWrongUptoRow.holds Tryz.pinned (OpenSpec.upto traceWrongSpec)

/-- 'weirgatelaw17.TracePlays', WHERE WHAT IT READS IS OF BULK AT MOST 1048576: true; the input reads as it did. -/
def tracePlaysUptoRow : OpenClaim := { program := "ytdoaagphhjggbaagreat", sum := "265c867884ed3c1eae97f09177f8ac1cc24ef64df9e341dc0023eeb0263f571c", func := "weirgate/weirgatelaw17.TracePlays", spec := "tracePlays", unfollowed := true, recurses := true, apart := false, narrowed := true }
def TracePlaysUptoSaid : Prop := tracePlaysUptoRow.holds Tryz.pinned (OpenSpec.upto tracePlaysSpec)

/-- 'weirgatelaw17.TraceRuns', WHERE WHAT IT READS IS OF BULK AT MOST 1048576: true; the input reads as it did. -/
def traceRunsUptoRow : OpenClaim := { program := "ytdoaagphhjggbaagreat", sum := "265c867884ed3c1eae97f09177f8ac1cc24ef64df9e341dc0023eeb0263f571c", func := "weirgate/weirgatelaw17.TraceRuns", spec := "traceRuns", unfollowed := true, recurses := true, apart := false, narrowed := true }
def TraceRunsUptoSaid : Prop := traceRunsUptoRow.holds Tryz.pinned (OpenSpec.upto traceRunsSpec)

end Rows
end Go.Proofs.YtdoaagphhjggbaaGreat
