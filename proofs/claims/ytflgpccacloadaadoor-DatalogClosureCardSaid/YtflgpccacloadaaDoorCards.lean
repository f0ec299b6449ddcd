/-
  DERIVED. GIVEN WITH THE SEED: THE CARDS: each row of YtflgpccacloadaaDoorRows.lean that lists a variable, with what it lists TIED to the program's text (the seventh form; the later family's looks); each row that meets fmt, with fmt's text TOLD by the authors' own Lean function (tested against real Go, not proved from fmt's source: count such statements apart). THE CARD IS WHAT COUNTS. Prove the row's statement (the work); the ties are given (YtflgpccacloadaaDoorTie.lean); close each card by the builder's one call (the guide's Derived/Test/ToyasCard.lean, 'card_holds'). Laid BY PROGRAM, IN A SANDBOX (cutbox-door.mjs). By AI agents, Wed Nov 11 2026. No macro, syntax, notation, axiom, sorry.
-/
import Derived.Test.YtflgpccacloadaaDoorRows
import GoSem.ClaimSeven
namespace Go.Proofs.YtflgpccacloadaaDoor
namespace Rows

/-- THE TIED CARD OF 'stratagemlaw16.DatalogRules'. -/
def datalogRulesCard : Claim7 := { stood := { row := datalogRulesRow, standIns := [], harness := (true, "bdf8f2a708f517089912870082084614165302638cdfa36bc2c086d93280b9e0"), looks := true }, kinds := [], alts := [], laidByText := true, laidKinds := [.data, .data, .data], laidTests := true, laidLooks := .later }
def DatalogRulesCardSaid : Prop := Claim7.holds Tryd.pinned (.plain (OpenSpec.ofChange datalogRulesSpec)) datalogRulesCard

/-- THE TIED CARD OF 'stratagemlaw16.DatalogSolves'. -/
def datalogSolvesCard : Claim7 := { stood := { row := datalogSolvesRow, standIns := [], harness := (true, "bdf8f2a708f517089912870082084614165302638cdfa36bc2c086d93280b9e0"), looks := true }, kinds := [], alts := [], laidByText := true, laidKinds := [.data, .data, .data], laidTests := true, laidLooks := .later }
def DatalogSolvesCardSaid : Prop := Claim7.holds Tryd.pinned (.plain (OpenSpec.ofChange datalogSolvesSpec)) datalogSolvesCard

/-- THE TIED CARD OF 'stratagemlaw16.DatalogModel'. -/
def datalogModelCard : Claim7 := { stood := { row := datalogModelRow, standIns := [], harness := (true, "bdf8f2a708f517089912870082084614165302638cdfa36bc2c086d93280b9e0"), looks := true }, kinds := [], alts := [], laidByText := true, laidKinds := [.data, .data, .data], laidTests := true, laidLooks := .later }
def DatalogModelCardSaid : Prop := Claim7.holds Tryd.pinned (.plain (OpenSpec.ofChange datalogModelSpec)) datalogModelCard

/-- THE TIED CARD OF 'stratagemlaw16.DatalogGrows'. -/
def datalogGrowsCard : Claim7 := { stood := { row := datalogGrowsRow, standIns := [], harness := (true, "bdf8f2a708f517089912870082084614165302638cdfa36bc2c086d93280b9e0"), looks := true }, kinds := [], alts := [], laidByText := true, laidKinds := [.data, .data, .data], laidTests := true, laidLooks := .later }
def DatalogGrowsCardSaid : Prop := Claim7.holds Tryd.pinned (.plain (OpenSpec.ofChange datalogGrowsSpec)) datalogGrowsCard

/-- THE TIED CARD OF 'stratagemlaw16.DatalogTurned'. -/
def datalogTurnedCard : Claim7 := { stood := { row := datalogTurnedRow, standIns := [], harness := (true, "bdf8f2a708f517089912870082084614165302638cdfa36bc2c086d93280b9e0"), looks := true }, kinds := [], alts := [], laidByText := true, laidKinds := [.data, .data, .data], laidTests := true, laidLooks := .later }
def DatalogTurnedCardSaid : Prop := Claim7.holds Tryd.pinned (.plain (OpenSpec.ofChange datalogTurnedSpec)) datalogTurnedCard

/-- THE TIED CARD OF 'stratagemlaw16.DatalogClosure'. -/
def datalogClosureCard : Claim7 := { stood := { row := datalogClosureRow, standIns := [], harness := (true, "bdf8f2a708f517089912870082084614165302638cdfa36bc2c086d93280b9e0"), looks := true }, kinds := [], alts := [], laidByText := true, laidKinds := [.data, .data, .data], laidTests := true, laidLooks := .later }
def DatalogClosureCardSaid : Prop := Claim7.holds Tryd.pinned (.plain (OpenSpec.ofChange datalogClosureSpec)) datalogClosureCard

/-- THE TIED CARD OF 'stratagemlaw16.DatalogLimits'. -/
def datalogLimitsCard : Claim7 := { stood := { row := datalogLimitsRow, standIns := [], harness := (true, "bdf8f2a708f517089912870082084614165302638cdfa36bc2c086d93280b9e0"), looks := true }, kinds := [], alts := [], laidByText := true, laidKinds := [.data, .data, .data], laidTests := true, laidLooks := .later }
def DatalogLimitsCardSaid : Prop := Claim7.holds Tryd.pinned (.plain (OpenSpec.ofChange datalogLimitsSpec)) datalogLimitsCard

/-- THE TIED CARD OF 'stratagemlaw16.DatalogDepends'. -/
def datalogDependsCard : Claim7 := { stood := { row := datalogDependsRow, standIns := [], harness := (true, "bdf8f2a708f517089912870082084614165302638cdfa36bc2c086d93280b9e0"), looks := true }, kinds := [], alts := [], laidByText := true, laidKinds := [.data, .data, .data], laidTests := true, laidLooks := .later }
def DatalogDependsCardSaid : Prop := Claim7.holds Tryd.pinned (.plain (OpenSpec.ofChange datalogDependsSpec)) datalogDependsCard

/-- THE SECOND FORM's CARD OF 'stratagemlaw16.DatalogRules'. -/
def datalogRulesUptoCard : Claim7 := { stood := { row := datalogRulesUptoRow, standIns := [], harness := (true, "bdf8f2a708f517089912870082084614165302638cdfa36bc2c086d93280b9e0"), looks := true }, kinds := [], alts := [], laidByText := true, laidKinds := [.data, .data, .data], laidTests := true, laidLooks := .later }
def DatalogRulesUptoCardSaid : Prop := Claim7.holds Tryd.pinned (.plain (OpenSpec.upto datalogRulesSpec)) datalogRulesUptoCard

/-- THE SECOND FORM's CARD OF 'stratagemlaw16.DatalogSolves'. -/
def datalogSolvesUptoCard : Claim7 := { stood := { row := datalogSolvesUptoRow, standIns := [], harness := (true, "bdf8f2a708f517089912870082084614165302638cdfa36bc2c086d93280b9e0"), looks := true }, kinds := [], alts := [], laidByText := true, laidKinds := [.data, .data, .data], laidTests := true, laidLooks := .later }
def DatalogSolvesUptoCardSaid : Prop := Claim7.holds Tryd.pinned (.plain (OpenSpec.upto datalogSolvesSpec)) datalogSolvesUptoCard

/-- THE SECOND FORM's CARD OF 'stratagemlaw16.DatalogModel'. -/
def datalogModelUptoCard : Claim7 := { stood := { row := datalogModelUptoRow, standIns := [], harness := (true, "bdf8f2a708f517089912870082084614165302638cdfa36bc2c086d93280b9e0"), looks := true }, kinds := [], alts := [], laidByText := true, laidKinds := [.data, .data, .data], laidTests := true, laidLooks := .later }
def DatalogModelUptoCardSaid : Prop := Claim7.holds Tryd.pinned (.plain (OpenSpec.upto datalogModelSpec)) datalogModelUptoCard

/-- THE SECOND FORM's CARD OF 'stratagemlaw16.DatalogGrows'. -/
def datalogGrowsUptoCard : Claim7 := { stood := { row := datalogGrowsUptoRow, standIns := [], harness := (true, "bdf8f2a708f517089912870082084614165302638cdfa36bc2c086d93280b9e0"), looks := true }, kinds := [], alts := [], laidByText := true, laidKinds := [.data, .data, .data], laidTests := true, laidLooks := .later }
def DatalogGrowsUptoCardSaid : Prop := Claim7.holds Tryd.pinned (.plain (OpenSpec.upto datalogGrowsSpec)) datalogGrowsUptoCard

/-- THE SECOND FORM's CARD OF 'stratagemlaw16.DatalogTurned'. -/
def datalogTurnedUptoCard : Claim7 := { stood := { row := datalogTurnedUptoRow, standIns := [], harness := (true, "bdf8f2a708f517089912870082084614165302638cdfa36bc2c086d93280b9e0"), looks := true }, kinds := [], alts := [], laidByText := true, laidKinds := [.data, .data, .data], laidTests := true, laidLooks := .later }
def DatalogTurnedUptoCardSaid : Prop := Claim7.holds Tryd.pinned (.plain (OpenSpec.upto datalogTurnedSpec)) datalogTurnedUptoCard

/-- THE SECOND FORM's CARD OF 'stratagemlaw16.DatalogClosure'. -/
def datalogClosureUptoCard : Claim7 := { stood := { row := datalogClosureUptoRow, standIns := [], harness := (true, "bdf8f2a708f517089912870082084614165302638cdfa36bc2c086d93280b9e0"), looks := true }, kinds := [], alts := [], laidByText := true, laidKinds := [.data, .data, .data], laidTests := true, laidLooks := .later }
def DatalogClosureUptoCardSaid : Prop := Claim7.holds Tryd.pinned (.plain (OpenSpec.upto datalogClosureSpec)) datalogClosureUptoCard

/-- THE SECOND FORM's CARD OF 'stratagemlaw16.DatalogLimits'. -/
def datalogLimitsUptoCard : Claim7 := { stood := { row := datalogLimitsUptoRow, standIns := [], harness := (true, "bdf8f2a708f517089912870082084614165302638cdfa36bc2c086d93280b9e0"), looks := true }, kinds := [], alts := [], laidByText := true, laidKinds := [.data, .data, .data], laidTests := true, laidLooks := .later }
def DatalogLimitsUptoCardSaid : Prop := Claim7.holds Tryd.pinned (.plain (OpenSpec.upto datalogLimitsSpec)) datalogLimitsUptoCard

/-- THE SECOND FORM's CARD OF 'stratagemlaw16.DatalogDepends'. -/
def datalogDependsUptoCard : Claim7 := { stood := { row := datalogDependsUptoRow, standIns := [], harness := (true, "bdf8f2a708f517089912870082084614165302638cdfa36bc2c086d93280b9e0"), looks := true }, kinds := [], alts := [], laidByText := true, laidKinds := [.data, .data, .data], laidTests := true, laidLooks := .later }
def DatalogDependsUptoCardSaid : Prop := Claim7.holds Tryd.pinned (.plain (OpenSpec.upto datalogDependsSpec)) datalogDependsUptoCard
end Rows
end Go.Proofs.YtflgpccacloadaaDoor
