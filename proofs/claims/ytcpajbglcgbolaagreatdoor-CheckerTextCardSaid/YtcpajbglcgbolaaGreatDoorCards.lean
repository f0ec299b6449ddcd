/-
  DERIVED. GIVEN WITH THE SEED: THE CARDS: each row of YtcpajbglcgbolaaGreatDoorRows.lean that lists a variable, with what it lists TIED to the program's text (the seventh form; the later family's looks); each row that meets fmt, with fmt's text TOLD by the authors' own Lean function (tested against real Go, not proved from fmt's source: count such statements apart). THE CARD IS WHAT COUNTS. Prove the row's statement (the work); the ties are given (YtcpajbglcgbolaaGreatDoorTie.lean); close each card by the builder's one call (the guide's Derived/Test/ToyasCard.lean, 'card_holds'). Laid BY PROGRAM, IN A SANDBOX (cutbox-door.mjs). By AI agents, Wed Nov 11 2026. No macro, syntax, notation, axiom, sorry.
-/
import Derived.Test.YtcpajbglcgbolaaGreatDoorRows
import GoSem.ClaimSeven
namespace Go.Proofs.YtcpajbglcgbolaaGreatDoor
namespace Rows

/-- THE TIED CARD OF 'stratagemlaw31.CheckerText'. -/
def checkerTextCard : Claim7 := { stood := { row := checkerTextRow, standIns := [], harness := (true, "b5e2859ab57515fdfbc137ba85d51be949f7dbe1f64e7491dd6feb6b6f302bda"), looks := true }, kinds := [], alts := [], laidByText := true, laidKinds := [.data, .pinned], laidTests := true, laidLooks := .later }
def CheckerTextCardSaid : Prop := Claim7.holds Tryz.pinned (.plain (OpenSpec.ofChange checkerTextSpec)) checkerTextCard

/-- THE SECOND FORM's CARD OF 'stratagemlaw31.CheckerText'. -/
def checkerTextUptoCard : Claim7 := { stood := { row := checkerTextUptoRow, standIns := [], harness := (true, "b5e2859ab57515fdfbc137ba85d51be949f7dbe1f64e7491dd6feb6b6f302bda"), looks := true }, kinds := [], alts := [], laidByText := true, laidKinds := [.data, .pinned], laidTests := true, laidLooks := .later }
def CheckerTextUptoCardSaid : Prop := Claim7.holds Tryz.pinned (.plain (OpenSpec.upto checkerTextSpec)) checkerTextUptoCard
end Rows
end Go.Proofs.YtcpajbglcgbolaaGreatDoor
