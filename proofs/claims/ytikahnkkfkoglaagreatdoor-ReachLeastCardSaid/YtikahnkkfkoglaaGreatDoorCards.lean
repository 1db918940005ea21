/-
  DERIVED. GIVEN WITH THE SEED: THE CARDS: each row of YtikahnkkfkoglaaGreatDoorRows.lean that lists a variable, with what it lists TIED to the program's text (the seventh form; the later family's looks); each row that meets fmt, with fmt's text TOLD by the authors' own Lean function (tested against real Go, not proved from fmt's source: count such statements apart). THE CARD IS WHAT COUNTS. Prove the row's statement (the work); the ties are given (YtikahnkkfkoglaaGreatDoorTie.lean); close each card by the builder's one call (the guide's Derived/Test/ToyasCard.lean, 'card_holds'). Laid BY PROGRAM, IN A SANDBOX (cutbox-door.mjs). By AI agents, Wed Nov 11 2026. No macro, syntax, notation, axiom, sorry.
-/
import Derived.Test.YtikahnkkfkoglaaGreatDoorRows
import GoSem.ClaimSeven
namespace Go.Proofs.YtikahnkkfkoglaaGreatDoor
namespace Rows

/-- THE TIED CARD OF 'weirgatelaw16.ReachLeast'. -/
def reachLeastCard : Claim7 := { stood := { row := reachLeastRow, standIns := [], harness := (true, "3b1c4607e763d6c6848316d7535df99c8373cc63525e1415b76b474ed2d47873"), looks := false }, kinds := [], alts := [], laidByText := true, laidKinds := [.data, .data, .data], laidTests := true, laidLooks := .later }
def ReachLeastCardSaid : Prop := Claim7.holds Tryz.pinned (.plain (OpenSpec.ofChange reachLeastSpec)) reachLeastCard

/-- THE TIED CARD OF 'weirgatelaw16.ReachMore'. -/
def reachMoreCard : Claim7 := { stood := { row := reachMoreRow, standIns := [], harness := (true, "3b1c4607e763d6c6848316d7535df99c8373cc63525e1415b76b474ed2d47873"), looks := false }, kinds := [], alts := [], laidByText := true, laidKinds := [.data, .data, .data], laidTests := true, laidLooks := .later }
def ReachMoreCardSaid : Prop := Claim7.holds Tryz.pinned (.plain (OpenSpec.ofChange reachMoreSpec)) reachMoreCard

/-- THE TIED CARD OF 'weirgatelaw16.ReachGrid'. -/
def reachGridCard : Claim7 := { stood := { row := reachGridRow, standIns := [], harness := (true, "3b1c4607e763d6c6848316d7535df99c8373cc63525e1415b76b474ed2d47873"), looks := false }, kinds := [], alts := [], laidByText := true, laidKinds := [.data, .data, .data], laidTests := true, laidLooks := .later }
def ReachGridCardSaid : Prop := Claim7.holds Tryz.pinned (.plain (OpenSpec.ofChange reachGridSpec)) reachGridCard

/-- THE SECOND FORM's CARD OF 'weirgatelaw16.ReachLeast'. -/
def reachLeastUptoCard : Claim7 := { stood := { row := reachLeastUptoRow, standIns := [], harness := (true, "3b1c4607e763d6c6848316d7535df99c8373cc63525e1415b76b474ed2d47873"), looks := false }, kinds := [], alts := [], laidByText := true, laidKinds := [.data, .data, .data], laidTests := true, laidLooks := .later }
def ReachLeastUptoCardSaid : Prop := Claim7.holds Tryz.pinned (.plain (OpenSpec.upto reachLeastSpec)) reachLeastUptoCard

/-- THE SECOND FORM's CARD OF 'weirgatelaw16.ReachMore'. -/
def reachMoreUptoCard : Claim7 := { stood := { row := reachMoreUptoRow, standIns := [], harness := (true, "3b1c4607e763d6c6848316d7535df99c8373cc63525e1415b76b474ed2d47873"), looks := false }, kinds := [], alts := [], laidByText := true, laidKinds := [.data, .data, .data], laidTests := true, laidLooks := .later }
def ReachMoreUptoCardSaid : Prop := Claim7.holds Tryz.pinned (.plain (OpenSpec.upto reachMoreSpec)) reachMoreUptoCard

/-- THE SECOND FORM's CARD OF 'weirgatelaw16.ReachGrid'. -/
def reachGridUptoCard : Claim7 := { stood := { row := reachGridUptoRow, standIns := [], harness := (true, "3b1c4607e763d6c6848316d7535df99c8373cc63525e1415b76b474ed2d47873"), looks := false }, kinds := [], alts := [], laidByText := true, laidKinds := [.data, .data, .data], laidTests := true, laidLooks := .later }
def ReachGridUptoCardSaid : Prop := Claim7.holds Tryz.pinned (.plain (OpenSpec.upto reachGridSpec)) reachGridUptoCard
end Rows
end Go.Proofs.YtikahnkkfkoglaaGreatDoor
