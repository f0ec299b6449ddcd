/-
  DERIVED. GIVEN WITH THE SEED: THE CARDS: each row of YtpfnmpdcneejbaaGreatDoorRows.lean that lists a variable, with what it lists TIED to the program's text (the seventh form; the later family's looks); each row that meets fmt, with fmt's text TOLD by the authors' own Lean function (tested against real Go, not proved from fmt's source: count such statements apart). THE CARD IS WHAT COUNTS. Prove the row's statement (the work); the ties are given (YtpfnmpdcneejbaaGreatDoorTie.lean); close each card by the builder's one call (the guide's Derived/Test/ToyasCard.lean, 'card_holds'). Laid BY PROGRAM, IN A SANDBOX (cutbox-door.mjs). By AI agents, Wed Nov 11 2026. No macro, syntax, notation, axiom, sorry.
-/
import Derived.Test.YtpfnmpdcneejbaaGreatDoorRows
import GoSem.ClaimSeven
namespace Go.Proofs.YtpfnmpdcneejbaaGreatDoor
namespace Rows

/-- THE TIED CARD OF 'stratagemtop.WholeDatabase'. -/
def wholeDatabaseCard : Claim7 := { stood := { row := wholeDatabaseRow, standIns := [], harness := (true, "ade0549f608a8c55d6c234a5228d7e05daf0d61c7e433fa3cdb44b63aab36afc"), looks := true }, kinds := [], alts := [], laidByText := true, laidKinds := [.data, .data, .data], laidTests := true, laidLooks := .later }
def WholeDatabaseCardSaid : Prop := Claim7.holds Tryz.pinned (.plain (OpenSpec.ofChange wholeDatabaseSpec)) wholeDatabaseCard

/-- THE SECOND FORM's CARD OF 'stratagemtop.WholeDatabase'. -/
def wholeDatabaseUptoCard : Claim7 := { stood := { row := wholeDatabaseUptoRow, standIns := [], harness := (true, "ade0549f608a8c55d6c234a5228d7e05daf0d61c7e433fa3cdb44b63aab36afc"), looks := true }, kinds := [], alts := [], laidByText := true, laidKinds := [.data, .data, .data], laidTests := true, laidLooks := .later }
def WholeDatabaseUptoCardSaid : Prop := Claim7.holds Tryz.pinned (.plain (OpenSpec.upto wholeDatabaseSpec)) wholeDatabaseUptoCard
end Rows
end Go.Proofs.YtpfnmpdcneejbaaGreatDoor
