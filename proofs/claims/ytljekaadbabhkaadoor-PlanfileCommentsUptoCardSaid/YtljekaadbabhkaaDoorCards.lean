/-
  DERIVED. GIVEN WITH THE SEED: THE CARDS: each row of YtljekaadbabhkaaDoorRows.lean that lists a variable, with what it lists TIED to the program's text (the seventh form; the later family's looks); each row that meets fmt, with fmt's text TOLD by the authors' own Lean function (tested against real Go, not proved from fmt's source: count such statements apart). THE CARD IS WHAT COUNTS. Prove the row's statement (the work); the ties are given (YtljekaadbabhkaaDoorTie.lean); close each card by the builder's one call (the guide's Derived/Test/ToyasCard.lean, 'card_holds'). Laid BY PROGRAM, IN A SANDBOX (cutbox-door.mjs). By AI agents, Wed Nov 11 2026. No macro, syntax, notation, axiom, sorry.
-/
import Derived.Test.YtljekaadbabhkaaDoorRows
import GoSem.ClaimSeven
namespace Go.Proofs.YtljekaadbabhkaaDoor
namespace Rows

/-- THE TIED CARD OF 'stratagemlaw13.PlanfileParses'. -/
def planfileParsesCard : Claim7 := { stood := { row := planfileParsesRow, standIns := [], harness := (true, "7f1dc4e91c2990a87202a0fb08f5aee98b39cafdfc2fc32eb1afadb3114519ed"), looks := true }, kinds := [], alts := [], laidByText := true, laidKinds := [.data, .pinned], laidTests := true, laidLooks := .later }
def PlanfileParsesCardSaid : Prop := Claim7.holds Tryd.pinned (.plain (OpenSpec.ofChange planfileParsesSpec)) planfileParsesCard

/-- THE TIED CARD OF 'stratagemlaw13.PlanfileSorts'. -/
def planfileSortsCard : Claim7 := { stood := { row := planfileSortsRow, standIns := [], harness := (true, "7f1dc4e91c2990a87202a0fb08f5aee98b39cafdfc2fc32eb1afadb3114519ed"), looks := true }, kinds := [], alts := [], laidByText := true, laidKinds := [.data, .pinned], laidTests := true, laidLooks := .later }
def PlanfileSortsCardSaid : Prop := Claim7.holds Tryd.pinned (.plain (OpenSpec.ofChange planfileSortsSpec)) planfileSortsCard

/-- THE TIED CARD OF 'stratagemlaw13.PlanfileOrders'. -/
def planfileOrdersCard : Claim7 := { stood := { row := planfileOrdersRow, standIns := [], harness := (true, "7f1dc4e91c2990a87202a0fb08f5aee98b39cafdfc2fc32eb1afadb3114519ed"), looks := true }, kinds := [], alts := [], laidByText := true, laidKinds := [.data, .pinned], laidTests := true, laidLooks := .later }
def PlanfileOrdersCardSaid : Prop := Claim7.holds Tryd.pinned (.plain (OpenSpec.ofChange planfileOrdersSpec)) planfileOrdersCard

/-- THE TIED CARD OF 'stratagemlaw13.PlanfileFormats'. -/
def planfileFormatsCard : Claim7 := { stood := { row := planfileFormatsRow, standIns := [], harness := (true, "7f1dc4e91c2990a87202a0fb08f5aee98b39cafdfc2fc32eb1afadb3114519ed"), looks := true }, kinds := [], alts := [], laidByText := true, laidKinds := [.data, .data, .data, .data, .pinned], laidTests := true, laidLooks := .later }
def PlanfileFormatsCardSaid : Prop := Claim7.holds Tryd.pinned (.plain (OpenSpec.ofChange planfileFormatsSpec)) planfileFormatsCard

/-- THE TIED CARD OF 'stratagemlaw13.PlanfileReturns'. -/
def planfileReturnsCard : Claim7 := { stood := { row := planfileReturnsRow, standIns := [], harness := (true, "7f1dc4e91c2990a87202a0fb08f5aee98b39cafdfc2fc32eb1afadb3114519ed"), looks := true }, kinds := [], alts := [], laidByText := true, laidKinds := [.data, .data, .data, .data, .pinned], laidTests := true, laidLooks := .later }
def PlanfileReturnsCardSaid : Prop := Claim7.holds Tryd.pinned (.plain (OpenSpec.ofChange planfileReturnsSpec)) planfileReturnsCard

/-- THE TIED CARD OF 'stratagemlaw13.PlanfileComments'. -/
def planfileCommentsCard : Claim7 := { stood := { row := planfileCommentsRow, standIns := [], harness := (true, "7f1dc4e91c2990a87202a0fb08f5aee98b39cafdfc2fc32eb1afadb3114519ed"), looks := true }, kinds := [], alts := [], laidByText := true, laidKinds := [.data, .data, .data, .data, .pinned], laidTests := true, laidLooks := .later }
def PlanfileCommentsCardSaid : Prop := Claim7.holds Tryd.pinned (.plain (OpenSpec.ofChange planfileCommentsSpec)) planfileCommentsCard

/-- THE TIED CARD OF 'stratagemlaw13.PlanfileLines'. -/
def planfileLinesCard : Claim7 := { stood := { row := planfileLinesRow, standIns := [], harness := (true, "7f1dc4e91c2990a87202a0fb08f5aee98b39cafdfc2fc32eb1afadb3114519ed"), looks := true }, kinds := [], alts := [], laidByText := true, laidKinds := [.data, .data, .data, .data, .pinned], laidTests := true, laidLooks := .later }
def PlanfileLinesCardSaid : Prop := Claim7.holds Tryd.pinned (.plain (OpenSpec.ofChange planfileLinesSpec)) planfileLinesCard

/-- THE SECOND FORM's CARD OF 'stratagemlaw13.PlanfileParses'. -/
def planfileParsesUptoCard : Claim7 := { stood := { row := planfileParsesUptoRow, standIns := [], harness := (true, "7f1dc4e91c2990a87202a0fb08f5aee98b39cafdfc2fc32eb1afadb3114519ed"), looks := true }, kinds := [], alts := [], laidByText := true, laidKinds := [.data, .pinned], laidTests := true, laidLooks := .later }
def PlanfileParsesUptoCardSaid : Prop := Claim7.holds Tryd.pinned (.plain (OpenSpec.upto planfileParsesSpec)) planfileParsesUptoCard

/-- THE SECOND FORM's CARD OF 'stratagemlaw13.PlanfileSorts'. -/
def planfileSortsUptoCard : Claim7 := { stood := { row := planfileSortsUptoRow, standIns := [], harness := (true, "7f1dc4e91c2990a87202a0fb08f5aee98b39cafdfc2fc32eb1afadb3114519ed"), looks := true }, kinds := [], alts := [], laidByText := true, laidKinds := [.data, .pinned], laidTests := true, laidLooks := .later }
def PlanfileSortsUptoCardSaid : Prop := Claim7.holds Tryd.pinned (.plain (OpenSpec.upto planfileSortsSpec)) planfileSortsUptoCard

/-- THE SECOND FORM's CARD OF 'stratagemlaw13.PlanfileOrders'. -/
def planfileOrdersUptoCard : Claim7 := { stood := { row := planfileOrdersUptoRow, standIns := [], harness := (true, "7f1dc4e91c2990a87202a0fb08f5aee98b39cafdfc2fc32eb1afadb3114519ed"), looks := true }, kinds := [], alts := [], laidByText := true, laidKinds := [.data, .pinned], laidTests := true, laidLooks := .later }
def PlanfileOrdersUptoCardSaid : Prop := Claim7.holds Tryd.pinned (.plain (OpenSpec.upto planfileOrdersSpec)) planfileOrdersUptoCard

/-- THE SECOND FORM's CARD OF 'stratagemlaw13.PlanfileFormats'. -/
def planfileFormatsUptoCard : Claim7 := { stood := { row := planfileFormatsUptoRow, standIns := [], harness := (true, "7f1dc4e91c2990a87202a0fb08f5aee98b39cafdfc2fc32eb1afadb3114519ed"), looks := true }, kinds := [], alts := [], laidByText := true, laidKinds := [.data, .data, .data, .data, .pinned], laidTests := true, laidLooks := .later }
def PlanfileFormatsUptoCardSaid : Prop := Claim7.holds Tryd.pinned (.plain (OpenSpec.upto planfileFormatsSpec)) planfileFormatsUptoCard

/-- THE SECOND FORM's CARD OF 'stratagemlaw13.PlanfileReturns'. -/
def planfileReturnsUptoCard : Claim7 := { stood := { row := planfileReturnsUptoRow, standIns := [], harness := (true, "7f1dc4e91c2990a87202a0fb08f5aee98b39cafdfc2fc32eb1afadb3114519ed"), looks := true }, kinds := [], alts := [], laidByText := true, laidKinds := [.data, .data, .data, .data, .pinned], laidTests := true, laidLooks := .later }
def PlanfileReturnsUptoCardSaid : Prop := Claim7.holds Tryd.pinned (.plain (OpenSpec.upto planfileReturnsSpec)) planfileReturnsUptoCard

/-- THE SECOND FORM's CARD OF 'stratagemlaw13.PlanfileComments'. -/
def planfileCommentsUptoCard : Claim7 := { stood := { row := planfileCommentsUptoRow, standIns := [], harness := (true, "7f1dc4e91c2990a87202a0fb08f5aee98b39cafdfc2fc32eb1afadb3114519ed"), looks := true }, kinds := [], alts := [], laidByText := true, laidKinds := [.data, .data, .data, .data, .pinned], laidTests := true, laidLooks := .later }
def PlanfileCommentsUptoCardSaid : Prop := Claim7.holds Tryd.pinned (.plain (OpenSpec.upto planfileCommentsSpec)) planfileCommentsUptoCard

/-- THE SECOND FORM's CARD OF 'stratagemlaw13.PlanfileLines'. -/
def planfileLinesUptoCard : Claim7 := { stood := { row := planfileLinesUptoRow, standIns := [], harness := (true, "7f1dc4e91c2990a87202a0fb08f5aee98b39cafdfc2fc32eb1afadb3114519ed"), looks := true }, kinds := [], alts := [], laidByText := true, laidKinds := [.data, .data, .data, .data, .pinned], laidTests := true, laidLooks := .later }
def PlanfileLinesUptoCardSaid : Prop := Claim7.holds Tryd.pinned (.plain (OpenSpec.upto planfileLinesSpec)) planfileLinesUptoCard
end Rows
end Go.Proofs.YtljekaadbabhkaaDoor
