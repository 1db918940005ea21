/-
  DERIVED. GIVEN WITH THE SEED: THE CARDS: each row of YtcfllgdfhfcicaaDoorRows.lean that lists a variable, with what it lists TIED to the program's text (the seventh form; the later family's looks); each row that meets fmt, with fmt's text TOLD by the authors' own Lean function (tested against real Go, not proved from fmt's source: count such statements apart). THE CARD IS WHAT COUNTS. Prove the row's statement (the work); the ties are given (YtcfllgdfhfcicaaDoorTie.lean); close each card by the builder's one call (the guide's Derived/Test/ToyasCard.lean, 'card_holds'). Laid BY PROGRAM, IN A SANDBOX (cutbox-door.mjs). By AI agents, Wed Nov 11 2026. No macro, syntax, notation, axiom, sorry.
-/
import Derived.Test.YtcfllgdfhfcicaaDoorRows
import GoSem.ClaimSeven
namespace Go.Proofs.YtcfllgdfhfcicaaDoor
namespace Rows

/-- THE TIED CARD OF 'weirgatelaw01.ClauseForms'. -/
def clauseFormsCard : Claim7 := { stood := { row := clauseFormsRow, standIns := [], harness := (true, "a9635e50e837324e58126b3c065f7c743fb7ea1890ea17babf5af5f4f693b62a"), looks := false }, kinds := [], alts := [], laidByText := true, laidKinds := [.data, .data, .data], laidTests := true, laidLooks := .later }
def ClauseFormsCardSaid : Prop := Claim7.holds Tryd.pinned (.plain (OpenSpec.ofChange clauseFormsSpec)) clauseFormsCard

/-- THE TIED CARD OF 'weirgatelaw01.ClauseNorms'. -/
def clauseNormsCard : Claim7 := { stood := { row := clauseNormsRow, standIns := [], harness := (true, "a9635e50e837324e58126b3c065f7c743fb7ea1890ea17babf5af5f4f693b62a"), looks := false }, kinds := [], alts := [], laidByText := true, laidKinds := [.data, .data, .data], laidTests := true, laidLooks := .later }
def ClauseNormsCardSaid : Prop := Claim7.holds Tryd.pinned (.plain (OpenSpec.ofChange clauseNormsSpec)) clauseNormsCard

/-- THE TIED CARD OF 'weirgatelaw01.ClauseAll'. -/
def clauseAllCard : Claim7 := { stood := { row := clauseAllRow, standIns := [], harness := (true, "a9635e50e837324e58126b3c065f7c743fb7ea1890ea17babf5af5f4f693b62a"), looks := false }, kinds := [], alts := [], laidByText := true, laidKinds := [.data, .data, .data], laidTests := true, laidLooks := .later }
def ClauseAllCardSaid : Prop := Claim7.holds Tryd.pinned (.plain (OpenSpec.ofChange clauseAllSpec)) clauseAllCard

/-- THE TIED CARD OF 'weirgatelaw01.ClauseBeyond'. -/
def clauseBeyondCard : Claim7 := { stood := { row := clauseBeyondRow, standIns := [], harness := (true, "a9635e50e837324e58126b3c065f7c743fb7ea1890ea17babf5af5f4f693b62a"), looks := false }, kinds := [], alts := [], laidByText := true, laidKinds := [.data, .data, .data], laidTests := true, laidLooks := .later }
def ClauseBeyondCardSaid : Prop := Claim7.holds Tryd.pinned (.plain (OpenSpec.ofChange clauseBeyondSpec)) clauseBeyondCard

/-- THE TIED CARD OF 'weirgatelaw01.ClauseShows'. -/
def clauseShowsCard : Claim7 := { stood := { row := clauseShowsRow, standIns := [], harness := (true, "a9635e50e837324e58126b3c065f7c743fb7ea1890ea17babf5af5f4f693b62a"), looks := false }, kinds := [], alts := [], laidByText := true, laidKinds := [.data, .data, .data, .data, .pinned], laidTests := true, laidLooks := .later }
def ClauseShowsCardSaid : Prop := Claim7.holds Tryd.pinned (.plain (OpenSpec.ofChange clauseShowsSpec)) clauseShowsCard

/-- THE TIED CARD OF 'weirgatelaw01.ClauseParses'. -/
def clauseParsesCard : Claim7 := { stood := { row := clauseParsesRow, standIns := [], harness := (true, "a9635e50e837324e58126b3c065f7c743fb7ea1890ea17babf5af5f4f693b62a"), looks := false }, kinds := [], alts := [], laidByText := true, laidKinds := [.data, .data, .data, .data, .pinned], laidTests := true, laidLooks := .later }
def ClauseParsesCardSaid : Prop := Claim7.holds Tryd.pinned (.plain (OpenSpec.ofChange clauseParsesSpec)) clauseParsesCard

/-- THE SECOND FORM's CARD OF 'weirgatelaw01.ClauseForms'. -/
def clauseFormsUptoCard : Claim7 := { stood := { row := clauseFormsUptoRow, standIns := [], harness := (true, "a9635e50e837324e58126b3c065f7c743fb7ea1890ea17babf5af5f4f693b62a"), looks := false }, kinds := [], alts := [], laidByText := true, laidKinds := [.data, .data, .data], laidTests := true, laidLooks := .later }
def ClauseFormsUptoCardSaid : Prop := Claim7.holds Tryd.pinned (.plain (OpenSpec.upto clauseFormsSpec)) clauseFormsUptoCard

/-- THE SECOND FORM's CARD OF 'weirgatelaw01.ClauseNorms'. -/
def clauseNormsUptoCard : Claim7 := { stood := { row := clauseNormsUptoRow, standIns := [], harness := (true, "a9635e50e837324e58126b3c065f7c743fb7ea1890ea17babf5af5f4f693b62a"), looks := false }, kinds := [], alts := [], laidByText := true, laidKinds := [.data, .data, .data], laidTests := true, laidLooks := .later }
def ClauseNormsUptoCardSaid : Prop := Claim7.holds Tryd.pinned (.plain (OpenSpec.upto clauseNormsSpec)) clauseNormsUptoCard

/-- THE SECOND FORM's CARD OF 'weirgatelaw01.ClauseAll'. -/
def clauseAllUptoCard : Claim7 := { stood := { row := clauseAllUptoRow, standIns := [], harness := (true, "a9635e50e837324e58126b3c065f7c743fb7ea1890ea17babf5af5f4f693b62a"), looks := false }, kinds := [], alts := [], laidByText := true, laidKinds := [.data, .data, .data], laidTests := true, laidLooks := .later }
def ClauseAllUptoCardSaid : Prop := Claim7.holds Tryd.pinned (.plain (OpenSpec.upto clauseAllSpec)) clauseAllUptoCard

/-- THE SECOND FORM's CARD OF 'weirgatelaw01.ClauseBeyond'. -/
def clauseBeyondUptoCard : Claim7 := { stood := { row := clauseBeyondUptoRow, standIns := [], harness := (true, "a9635e50e837324e58126b3c065f7c743fb7ea1890ea17babf5af5f4f693b62a"), looks := false }, kinds := [], alts := [], laidByText := true, laidKinds := [.data, .data, .data], laidTests := true, laidLooks := .later }
def ClauseBeyondUptoCardSaid : Prop := Claim7.holds Tryd.pinned (.plain (OpenSpec.upto clauseBeyondSpec)) clauseBeyondUptoCard

/-- THE SECOND FORM's CARD OF 'weirgatelaw01.ClauseShows'. -/
def clauseShowsUptoCard : Claim7 := { stood := { row := clauseShowsUptoRow, standIns := [], harness := (true, "a9635e50e837324e58126b3c065f7c743fb7ea1890ea17babf5af5f4f693b62a"), looks := false }, kinds := [], alts := [], laidByText := true, laidKinds := [.data, .data, .data, .data, .pinned], laidTests := true, laidLooks := .later }
def ClauseShowsUptoCardSaid : Prop := Claim7.holds Tryd.pinned (.plain (OpenSpec.upto clauseShowsSpec)) clauseShowsUptoCard

/-- THE SECOND FORM's CARD OF 'weirgatelaw01.ClauseParses'. -/
def clauseParsesUptoCard : Claim7 := { stood := { row := clauseParsesUptoRow, standIns := [], harness := (true, "a9635e50e837324e58126b3c065f7c743fb7ea1890ea17babf5af5f4f693b62a"), looks := false }, kinds := [], alts := [], laidByText := true, laidKinds := [.data, .data, .data, .data, .pinned], laidTests := true, laidLooks := .later }
def ClauseParsesUptoCardSaid : Prop := Claim7.holds Tryd.pinned (.plain (OpenSpec.upto clauseParsesSpec)) clauseParsesUptoCard
end Rows
end Go.Proofs.YtcfllgdfhfcicaaDoor
