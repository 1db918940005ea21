/-
  DERIVED. GIVEN WITH THE SEED: THE CARDS: each row of YtdoaagphhjggbaaGreatDoorRows.lean that lists a variable, with what it lists TIED to the program's text (the seventh form; the later family's looks); each row that meets fmt, with fmt's text TOLD by the authors' own Lean function (tested against real Go, not proved from fmt's source: count such statements apart). THE CARD IS WHAT COUNTS. Prove the row's statement (the work); the ties are given (YtdoaagphhjggbaaGreatDoorTie.lean); close each card by the builder's one call (the guide's Derived/Test/ToyasCard.lean, 'card_holds'). Laid BY PROGRAM, IN A SANDBOX (cutbox-door.mjs). By AI agents, Wed Nov 11 2026. No macro, syntax, notation, axiom, sorry.
-/
import Derived.Test.YtdoaagphhjggbaaGreatDoorRows
import GoSem.ClaimSeven
namespace Go.Proofs.YtdoaagphhjggbaaGreatDoor
namespace Rows

/-- THE TIED CARD OF 'weirgatelaw14.StateKeys'. -/
def stateKeysCard : Claim7 := { stood := { row := stateKeysRow, standIns := [], harness := (true, "4d54605d7bc61244d2b686116d595d53de69b4ac542037fea0748f3c59f1b378"), looks := false }, kinds := [], alts := [], laidByText := true, laidKinds := [.data, .data, .data], laidTests := true, laidLooks := .later }
def StateKeysCardSaid : Prop := Claim7.holds Tryz.pinned (.plain (OpenSpec.ofChange stateKeysSpec)) stateKeysCard

/-- THE SECOND FORM's CARD OF 'weirgatelaw14.StateKeys'. -/
def stateKeysUptoCard : Claim7 := { stood := { row := stateKeysUptoRow, standIns := [], harness := (true, "4d54605d7bc61244d2b686116d595d53de69b4ac542037fea0748f3c59f1b378"), looks := false }, kinds := [], alts := [], laidByText := true, laidKinds := [.data, .data, .data], laidTests := true, laidLooks := .later }
def StateKeysUptoCardSaid : Prop := Claim7.holds Tryz.pinned (.plain (OpenSpec.upto stateKeysSpec)) stateKeysUptoCard
end Rows
end Go.Proofs.YtdoaagphhjggbaaGreatDoor
