/-
  DERIVED. GIVEN WITH THE SEED: THE CARDS: each row of YtcfllgdfhfcicaaGreatDoorRows.lean that lists a variable, with what it lists TIED to the program's text (the seventh form; the later family's looks); each row that meets fmt, with fmt's text TOLD by the authors' own Lean function (tested against real Go, not proved from fmt's source: count such statements apart). THE CARD IS WHAT COUNTS. Prove the row's statement (the work); the ties are given (YtcfllgdfhfcicaaGreatDoorTie.lean); close each card by the builder's one call (the guide's Derived/Test/ToyasCard.lean, 'card_holds'). Laid BY PROGRAM, IN A SANDBOX (cutbox-door.mjs). By AI agents, Wed Nov 11 2026. No macro, syntax, notation, axiom, sorry.
-/
import Derived.Test.YtcfllgdfhfcicaaGreatDoorRows
import GoSem.ClaimSeven
namespace Go.Proofs.YtcfllgdfhfcicaaGreatDoor
namespace Rows

/-- THE TIED CARD OF 'weirgatelaw26.ChartMoves'. -/
def chartMovesCard : Claim7 := { stood := { row := chartMovesRow, standIns := [], harness := (true, "de9ad4b82ede24de99b4d349d0aa6f9144d91a1a0b7c7bb2f5c26acd5637ec23"), looks := false }, kinds := [], alts := [], laidByText := true, laidKinds := [.data, .data, .data], laidTests := true, laidLooks := .later }
def ChartMovesCardSaid : Prop := Claim7.holds Tryz.pinned (.plain (OpenSpec.ofChange chartMovesSpec)) chartMovesCard

/-- THE TIED CARD OF 'weirgatelaw26.ChartShows'. -/
def chartShowsCard : Claim7 := { stood := { row := chartShowsRow, standIns := [], harness := (true, "de9ad4b82ede24de99b4d349d0aa6f9144d91a1a0b7c7bb2f5c26acd5637ec23"), looks := false }, kinds := [], alts := [], laidByText := true, laidKinds := [.data, .data, .data, .data, .pinned], laidTests := true, laidLooks := .later }
def ChartShowsCardSaid : Prop := Claim7.holds Tryz.pinned (.plain (OpenSpec.ofChange chartShowsSpec)) chartShowsCard

/-- THE TIED CARD OF 'weirgatelaw26.ChartReads'. -/
def chartReadsCard : Claim7 := { stood := { row := chartReadsRow, standIns := [], harness := (true, "de9ad4b82ede24de99b4d349d0aa6f9144d91a1a0b7c7bb2f5c26acd5637ec23"), looks := false }, kinds := [], alts := [], laidByText := true, laidKinds := [.data, .data, .data, .data, .pinned], laidTests := true, laidLooks := .later }
def ChartReadsCardSaid : Prop := Claim7.holds Tryz.pinned (.plain (OpenSpec.ofChange chartReadsSpec)) chartReadsCard

/-- THE TIED CARD OF 'weirgatelaw26.ChartParts'. -/
def chartPartsCard : Claim7 := { stood := { row := chartPartsRow, standIns := [], harness := (true, "de9ad4b82ede24de99b4d349d0aa6f9144d91a1a0b7c7bb2f5c26acd5637ec23"), looks := false }, kinds := [], alts := [], laidByText := true, laidKinds := [.data, .data, .data, .data, .pinned], laidTests := true, laidLooks := .later }
def ChartPartsCardSaid : Prop := Claim7.holds Tryz.pinned (.plain (OpenSpec.ofChange chartPartsSpec)) chartPartsCard

/-- THE SECOND FORM's CARD OF 'weirgatelaw26.ChartMoves'. -/
def chartMovesUptoCard : Claim7 := { stood := { row := chartMovesUptoRow, standIns := [], harness := (true, "de9ad4b82ede24de99b4d349d0aa6f9144d91a1a0b7c7bb2f5c26acd5637ec23"), looks := false }, kinds := [], alts := [], laidByText := true, laidKinds := [.data, .data, .data], laidTests := true, laidLooks := .later }
def ChartMovesUptoCardSaid : Prop := Claim7.holds Tryz.pinned (.plain (OpenSpec.upto chartMovesSpec)) chartMovesUptoCard

/-- THE SECOND FORM's CARD OF 'weirgatelaw26.ChartShows'. -/
def chartShowsUptoCard : Claim7 := { stood := { row := chartShowsUptoRow, standIns := [], harness := (true, "de9ad4b82ede24de99b4d349d0aa6f9144d91a1a0b7c7bb2f5c26acd5637ec23"), looks := false }, kinds := [], alts := [], laidByText := true, laidKinds := [.data, .data, .data, .data, .pinned], laidTests := true, laidLooks := .later }
def ChartShowsUptoCardSaid : Prop := Claim7.holds Tryz.pinned (.plain (OpenSpec.upto chartShowsSpec)) chartShowsUptoCard

/-- THE SECOND FORM's CARD OF 'weirgatelaw26.ChartReads'. -/
def chartReadsUptoCard : Claim7 := { stood := { row := chartReadsUptoRow, standIns := [], harness := (true, "de9ad4b82ede24de99b4d349d0aa6f9144d91a1a0b7c7bb2f5c26acd5637ec23"), looks := false }, kinds := [], alts := [], laidByText := true, laidKinds := [.data, .data, .data, .data, .pinned], laidTests := true, laidLooks := .later }
def ChartReadsUptoCardSaid : Prop := Claim7.holds Tryz.pinned (.plain (OpenSpec.upto chartReadsSpec)) chartReadsUptoCard

/-- THE SECOND FORM's CARD OF 'weirgatelaw26.ChartParts'. -/
def chartPartsUptoCard : Claim7 := { stood := { row := chartPartsUptoRow, standIns := [], harness := (true, "de9ad4b82ede24de99b4d349d0aa6f9144d91a1a0b7c7bb2f5c26acd5637ec23"), looks := false }, kinds := [], alts := [], laidByText := true, laidKinds := [.data, .data, .data, .data, .pinned], laidTests := true, laidLooks := .later }
def ChartPartsUptoCardSaid : Prop := Claim7.holds Tryz.pinned (.plain (OpenSpec.upto chartPartsSpec)) chartPartsUptoCard
end Rows
end Go.Proofs.YtcfllgdfhfcicaaGreatDoor
