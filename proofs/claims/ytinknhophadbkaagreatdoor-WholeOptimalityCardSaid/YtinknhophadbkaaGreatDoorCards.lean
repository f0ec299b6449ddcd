/-
  DERIVED. GIVEN WITH THE SEED: THE CARDS: each row of YtinknhophadbkaaGreatDoorRows.lean that lists a variable, with what it lists TIED to the program's text (the seventh form; the later family's looks); each row that meets fmt, with fmt's text TOLD by the authors' own Lean function (tested against real Go, not proved from fmt's source: count such statements apart). THE CARD IS WHAT COUNTS. Prove the row's statement (the work); the ties are given (YtinknhophadbkaaGreatDoorTie.lean); close each card by the builder's one call (the guide's Derived/Test/ToyasCard.lean, 'card_holds'). Laid BY PROGRAM, IN A SANDBOX (cutbox-door.mjs). By AI agents, Wed Nov 11 2026. No macro, syntax, notation, axiom, sorry.
-/
import Derived.Test.YtinknhophadbkaaGreatDoorRows
import GoSem.ClaimSeven
namespace Go.Proofs.YtinknhophadbkaaGreatDoor
namespace Rows

/-- THE TIED CARD OF 'stratagemtop.WholeOptimality'. -/
def wholeOptimalityCard : Claim7 := { stood := { row := wholeOptimalityRow, standIns := [], harness := (true, "52b32175d35ff0b0d9bacb088f0b7b61c7559c4b69de80cfb60ccf50da1ea040"), looks := true }, kinds := [], alts := [], laidByText := true, laidKinds := [.data, .data, .data, .data, .pinned], laidTests := true, laidLooks := .later }
def WholeOptimalityCardSaid : Prop := Claim7.holds Tryz.pinned (.plain (OpenSpec.ofChange wholeOptimalitySpec)) wholeOptimalityCard

/-- THE SECOND FORM's CARD OF 'stratagemtop.WholeOptimality'. -/
def wholeOptimalityUptoCard : Claim7 := { stood := { row := wholeOptimalityUptoRow, standIns := [], harness := (true, "52b32175d35ff0b0d9bacb088f0b7b61c7559c4b69de80cfb60ccf50da1ea040"), looks := true }, kinds := [], alts := [], laidByText := true, laidKinds := [.data, .data, .data, .data, .pinned], laidTests := true, laidLooks := .later }
def WholeOptimalityUptoCardSaid : Prop := Claim7.holds Tryz.pinned (.plain (OpenSpec.upto wholeOptimalitySpec)) wholeOptimalityUptoCard
end Rows
end Go.Proofs.YtinknhophadbkaaGreatDoor
