/-
  No cell of these rows narrows 'for every input' (looked for: loops, veiled, ifaces, maps, wideKeys, modest, calm, conditions, laid).
  DERIVED. THE GIVEN ROWS OF THIS SEAT. 7 by the template 'for every input the law returns true; each argument reads behind the call as it read before'; 0 by the template 'total and deterministic' (their statements: YthfaleaojlnnoaaTotals.lean).
  GIVEN WITH THE SEED: the statements are not yours to turn. If you find one false, say at which input.
  Laid BY PROGRAM, IN A SANDBOX (cutbox-rows.mjs): the forced cells as the released guide's own fill.sh prints them over the translation 2633b6172478f7a6… (all of the seat's roots in one cut). By AI agents, Wed Nov 11 2026. No macro, syntax, notation, axiom, sorry.
-/
import Derived.Test.YthfaleaojlnnoaaChecked
import GoSem.Claim
import GoSem.ClaimJoined
import GoSem.ClaimMapViews
import Derived.JoinedTies
import Derived.KernelRfl
namespace Go.Proofs.Ythfaleaojlnnoaa
/- THE CELL 'sum', in the pinned program and in every row, IS THE sha256 OF THE DUMP (.gsa) THAT YthfaleaojlnnoaaProg.lean LOADS. Nothing in Lean hashes anything: it is a label: what it is worth is what the hold of that sum in a sandbox is worth. -/
noncomputable def Try.pinned : Pinned := { name := "ythfaleaojlnnoaa", sum := "2633b6172478f7a695171585f9b26fce1258fa4e1a262f87c726bfbf27754a78", checked := Try.checked }
namespace Rows
def none {H : Type} : Left H := { results := [], args := [] }

/-- 'weirgatelaw09.ParseAll': WHATEVER THE INPUT: true; the input reads as it did. -/
def parseAllSpec : ChangeSpec := { name := "parseAll", fn := fun _ => fun
  | [d] => { results := [.lit (.bool true)], args := [d] }
  | _ => none }
def parseAllRow : OpenClaim := { program := "ythfaleaojlnnoaa", sum := "2633b6172478f7a695171585f9b26fce1258fa4e1a262f87c726bfbf27754a78", func := "weirgate/weirgatelaw09.ParseAll", spec := "parseAll", inPlace := ["internal/bytealg.IndexByteString"], unfollowed := true, recurses := true, apart := false }
def ParseAllSaid : Prop := parseAllRow.holds Try.pinned (OpenSpec.ofChange parseAllSpec)

/-- ITS FALSE NEIGHBOUR: 'it returns false'. Refute it at one input. -/
def parseAllWrong : ChangeSpec := { name := "parseAll", fn := fun _ => fun
  | [d] => { results := [.lit (.bool false)], args := [d] }
  | _ => none }
def ParseAllWrongFalsely : Prop := parseAllRow.holds Try.pinned (OpenSpec.ofChange parseAllWrong)

/-- 'weirgatelaw09.ParseRight': WHATEVER THE INPUT: true; the input reads as it did. -/
def parseRightSpec : ChangeSpec := { name := "parseRight", fn := fun _ => fun
  | [d1, d2] => { results := [.lit (.bool true)], args := [d1, d2] }
  | _ => none }
def parseRightRow : OpenClaim := { program := "ythfaleaojlnnoaa", sum := "2633b6172478f7a695171585f9b26fce1258fa4e1a262f87c726bfbf27754a78", func := "weirgate/weirgatelaw09.ParseRight", spec := "parseRight", inPlace := ["internal/bytealg.IndexByteString"], unfollowed := true, recurses := true, apart := false }
def ParseRightSaid : Prop := parseRightRow.holds Try.pinned (OpenSpec.ofChange parseRightSpec)

/-- ITS FALSE NEIGHBOUR: 'it returns false'. Refute it at one input. -/
def parseRightWrong : ChangeSpec := { name := "parseRight", fn := fun _ => fun
  | [d1, d2] => { results := [.lit (.bool false)], args := [d1, d2] }
  | _ => none }
def ParseRightWrongFalsely : Prop := parseRightRow.holds Try.pinned (OpenSpec.ofChange parseRightWrong)

/-- 'weirgatelaw09.ParseBlanks': WHATEVER THE INPUT: true; the input reads as it did. -/
def parseBlanksSpec : ChangeSpec := { name := "parseBlanks", fn := fun _ => fun
  | [d1, d2] => { results := [.lit (.bool true)], args := [d1, d2] }
  | _ => none }
def parseBlanksRow : OpenClaim := { program := "ythfaleaojlnnoaa", sum := "2633b6172478f7a695171585f9b26fce1258fa4e1a262f87c726bfbf27754a78", func := "weirgate/weirgatelaw09.ParseBlanks", spec := "parseBlanks", inPlace := ["internal/bytealg.IndexByteString"], unfollowed := true, recurses := true, apart := false }
def ParseBlanksSaid : Prop := parseBlanksRow.holds Try.pinned (OpenSpec.ofChange parseBlanksSpec)

/-- ITS FALSE NEIGHBOUR: 'it returns false'. Refute it at one input. -/
def parseBlanksWrong : ChangeSpec := { name := "parseBlanks", fn := fun _ => fun
  | [d1, d2] => { results := [.lit (.bool false)], args := [d1, d2] }
  | _ => none }
def ParseBlanksWrongFalsely : Prop := parseBlanksRow.holds Try.pinned (OpenSpec.ofChange parseBlanksWrong)

/-- 'weirgatelaw09.ParseDeep': WHATEVER THE INPUT: true; the input reads as it did. -/
def parseDeepSpec : ChangeSpec := { name := "parseDeep", fn := fun _ => fun
  | [d1, d2] => { results := [.lit (.bool true)], args := [d1, d2] }
  | _ => none }
def parseDeepRow : OpenClaim := { program := "ythfaleaojlnnoaa", sum := "2633b6172478f7a695171585f9b26fce1258fa4e1a262f87c726bfbf27754a78", func := "weirgate/weirgatelaw09.ParseDeep", spec := "parseDeep", inPlace := ["internal/bytealg.IndexByteString"], unfollowed := true, recurses := true, apart := false }
def ParseDeepSaid : Prop := parseDeepRow.holds Try.pinned (OpenSpec.ofChange parseDeepSpec)

/-- ITS FALSE NEIGHBOUR: 'it returns false'. Refute it at one input. -/
def parseDeepWrong : ChangeSpec := { name := "parseDeep", fn := fun _ => fun
  | [d1, d2] => { results := [.lit (.bool false)], args := [d1, d2] }
  | _ => none }
def ParseDeepWrongFalsely : Prop := parseDeepRow.holds Try.pinned (OpenSpec.ofChange parseDeepWrong)

/-- 'weirgatelaw09.ParseCuts': WHATEVER THE INPUT: true; the input reads as it did. -/
def parseCutsSpec : ChangeSpec := { name := "parseCuts", fn := fun _ => fun
  | [d1, d2] => { results := [.lit (.bool true)], args := [d1, d2] }
  | _ => none }
def parseCutsRow : OpenClaim := { program := "ythfaleaojlnnoaa", sum := "2633b6172478f7a695171585f9b26fce1258fa4e1a262f87c726bfbf27754a78", func := "weirgate/weirgatelaw09.ParseCuts", spec := "parseCuts", inPlace := ["internal/bytealg.IndexByteString"], unfollowed := true, recurses := true, apart := false }
def ParseCutsSaid : Prop := parseCutsRow.holds Try.pinned (OpenSpec.ofChange parseCutsSpec)

/-- ITS FALSE NEIGHBOUR: 'it returns false'. Refute it at one input. -/
def parseCutsWrong : ChangeSpec := { name := "parseCuts", fn := fun _ => fun
  | [d1, d2] => { results := [.lit (.bool false)], args := [d1, d2] }
  | _ => none }
def ParseCutsWrongFalsely : Prop := parseCutsRow.holds Try.pinned (OpenSpec.ofChange parseCutsWrong)

/-- 'weirgatelaw09.ParseJoined': WHATEVER THE INPUT: true; the input reads as it did. -/
def parseJoinedSpec : ChangeSpec := { name := "parseJoined", fn := fun _ => fun
  | [d1, d2] => { results := [.lit (.bool true)], args := [d1, d2] }
  | _ => none }
def parseJoinedRow : OpenClaim := { program := "ythfaleaojlnnoaa", sum := "2633b6172478f7a695171585f9b26fce1258fa4e1a262f87c726bfbf27754a78", func := "weirgate/weirgatelaw09.ParseJoined", spec := "parseJoined", inPlace := ["internal/bytealg.IndexByteString"], unfollowed := true, recurses := true, apart := false }
def ParseJoinedSaid : Prop := parseJoinedRow.holds Try.pinned (OpenSpec.ofChange parseJoinedSpec)

/-- ITS FALSE NEIGHBOUR: 'it returns false'. Refute it at one input. -/
def parseJoinedWrong : ChangeSpec := { name := "parseJoined", fn := fun _ => fun
  | [d1, d2] => { results := [.lit (.bool false)], args := [d1, d2] }
  | _ => none }
def ParseJoinedWrongFalsely : Prop := parseJoinedRow.holds Try.pinned (OpenSpec.ofChange parseJoinedWrong)

/-- 'weirgatelaw09.ParseSpans': WHATEVER THE INPUT: true; the input reads as it did. -/
def parseSpansSpec : ChangeSpec := { name := "parseSpans", fn := fun _ => fun
  | [d] => { results := [.lit (.bool true)], args := [d] }
  | _ => none }
def parseSpansRow : OpenClaim := { program := "ythfaleaojlnnoaa", sum := "2633b6172478f7a695171585f9b26fce1258fa4e1a262f87c726bfbf27754a78", func := "weirgate/weirgatelaw09.ParseSpans", spec := "parseSpans", inPlace := ["internal/bytealg.IndexByteString"], unfollowed := true, recurses := true, apart := false }
def ParseSpansSaid : Prop := parseSpansRow.holds Try.pinned (OpenSpec.ofChange parseSpansSpec)

/-- ITS FALSE NEIGHBOUR: 'it returns false'. Refute it at one input. -/
def parseSpansWrong : ChangeSpec := { name := "parseSpans", fn := fun _ => fun
  | [d] => { results := [.lit (.bool false)], args := [d] }
  | _ => none }
def ParseSpansWrongFalsely : Prop := parseSpansRow.holds Try.pinned (OpenSpec.ofChange parseSpansWrong)

/- THE SECOND FORM. 'bulk': how many values and letters a reading holds, each counted each time it is reached (what is shared counts as often as it is met; a slice's spare places count too). A statement '..UptoSaid' is the law's where the arguments, and the package variables that the reading takes, are together of bulk at most 1048576: NARROWER than '..Said'. Prove '..Said' where nothing that the law and all that it calls make is longer than what came in: it says more and counts as full. Else prove '..UptoSaid'. A law counts once. -/
mutual
def uptoBulk {H : Type} : DataW H → Nat
  | .lit (.string bytes) => bytes.length + 1
  | .lit _ => 1
  | .nil => 1
  | .ptr d => uptoBulk d + 1
  | .slice elems spare => uptoBulkAll elems + uptoBulkAll spare + 1
  | .agg parts => uptoBulkAll parts + 1
  | .iface _ d => uptoBulk d + 1
  | .map entries => uptoBulkEntries entries + 1
  | .held _ => 1
def uptoBulkAll {H : Type} : List (DataW H) → Nat
  | [] => 0
  | d :: r => uptoBulk d + uptoBulkAll r
def uptoBulkEntries {H : Type} : List (Lit × DataW H) → Nat
  | [] => 0
  | x :: r => uptoBulkEntry x + uptoBulkEntries r
def uptoBulkEntry {H : Type} : Lit × DataW H → Nat
  | (.string bytes, d) => bytes.length + uptoBulk d + 1
  | (_, d) => uptoBulk d + 1
 end
def uptoSmall : (H : Type) → List (DataW H) → Bool := fun _ ds => decide (uptoBulkAll ds ≤ 1048576)
def OpenSpec.upto (s : _root_.Go.ChangeSpec) : _root_.Go.OpenSpec := { _root_.Go.OpenSpec.ofChange s with cond := some uptoSmall }

/-- 'weirgatelaw09.ParseAll', WHERE WHAT IT READS IS OF BULK AT MOST 1048576: true; the input reads as it did. -/
def parseAllUptoRow : OpenClaim := { program := "ythfaleaojlnnoaa", sum := "2633b6172478f7a695171585f9b26fce1258fa4e1a262f87c726bfbf27754a78", func := "weirgate/weirgatelaw09.ParseAll", spec := "parseAll", inPlace := ["internal/bytealg.IndexByteString"], unfollowed := true, recurses := true, apart := false, narrowed := true }
def ParseAllUptoSaid : Prop := parseAllUptoRow.holds Try.pinned (OpenSpec.upto parseAllSpec)

/-- 'weirgatelaw09.ParseRight', WHERE WHAT IT READS IS OF BULK AT MOST 1048576: true; the input reads as it did. -/
def parseRightUptoRow : OpenClaim := { program := "ythfaleaojlnnoaa", sum := "2633b6172478f7a695171585f9b26fce1258fa4e1a262f87c726bfbf27754a78", func := "weirgate/weirgatelaw09.ParseRight", spec := "parseRight", inPlace := ["internal/bytealg.IndexByteString"], unfollowed := true, recurses := true, apart := false, narrowed := true }
def ParseRightUptoSaid : Prop := parseRightUptoRow.holds Try.pinned (OpenSpec.upto parseRightSpec)

/-- 'weirgatelaw09.ParseBlanks', WHERE WHAT IT READS IS OF BULK AT MOST 1048576: true; the input reads as it did. -/
def parseBlanksUptoRow : OpenClaim := { program := "ythfaleaojlnnoaa", sum := "2633b6172478f7a695171585f9b26fce1258fa4e1a262f87c726bfbf27754a78", func := "weirgate/weirgatelaw09.ParseBlanks", spec := "parseBlanks", inPlace := ["internal/bytealg.IndexByteString"], unfollowed := true, recurses := true, apart := false, narrowed := true }
def ParseBlanksUptoSaid : Prop := parseBlanksUptoRow.holds Try.pinned (OpenSpec.upto parseBlanksSpec)

/-- 'weirgatelaw09.ParseDeep', WHERE WHAT IT READS IS OF BULK AT MOST 1048576: true; the input reads as it did. -/
def parseDeepUptoRow : OpenClaim := { program := "ythfaleaojlnnoaa", sum := "2633b6172478f7a695171585f9b26fce1258fa4e1a262f87c726bfbf27754a78", func := "weirgate/weirgatelaw09.ParseDeep", spec := "parseDeep", inPlace := ["internal/bytealg.IndexByteString"], unfollowed := true, recurses := true, apart := false, narrowed := true }
def ParseDeepUptoSaid : Prop := parseDeepUptoRow.holds Try.pinned (OpenSpec.upto parseDeepSpec)

/-- 'weirgatelaw09.ParseCuts', WHERE WHAT IT READS IS OF BULK AT MOST 1048576: true; the input reads as it did. -/
def parseCutsUptoRow : OpenClaim := { program := "ythfaleaojlnnoaa", sum := "2633b6172478f7a695171585f9b26fce1258fa4e1a262f87c726bfbf27754a78", func := "weirgate/weirgatelaw09.ParseCuts", spec := "parseCuts", inPlace := ["internal/bytealg.IndexByteString"], unfollowed := true, recurses := true, apart := false, narrowed := true }
def ParseCutsUptoSaid : Prop := parseCutsUptoRow.holds Try.pinned (OpenSpec.upto parseCutsSpec)

/-- 'weirgatelaw09.ParseJoined', WHERE WHAT IT READS IS OF BULK AT MOST 1048576: true; the input reads as it did. -/
def parseJoinedUptoRow : OpenClaim := { program := "ythfaleaojlnnoaa", sum := "2633b6172478f7a695171585f9b26fce1258fa4e1a262f87c726bfbf27754a78", func := "weirgate/weirgatelaw09.ParseJoined", spec := "parseJoined", inPlace := ["internal/bytealg.IndexByteString"], unfollowed := true, recurses := true, apart := false, narrowed := true }
def ParseJoinedUptoSaid : Prop := parseJoinedUptoRow.holds Try.pinned (OpenSpec.upto parseJoinedSpec)

/-- 'weirgatelaw09.ParseSpans', WHERE WHAT IT READS IS OF BULK AT MOST 1048576: true; the input reads as it did. -/
def parseSpansUptoRow : OpenClaim := { program := "ythfaleaojlnnoaa", sum := "2633b6172478f7a695171585f9b26fce1258fa4e1a262f87c726bfbf27754a78", func := "weirgate/weirgatelaw09.ParseSpans", spec := "parseSpans", inPlace := ["internal/bytealg.IndexByteString"], unfollowed := true, recurses := true, apart := false, narrowed := true }
def ParseSpansUptoSaid : Prop := parseSpansUptoRow.holds Try.pinned (OpenSpec.upto parseSpansSpec)

end Rows
end Go.Proofs.Ythfaleaojlnnoaa
