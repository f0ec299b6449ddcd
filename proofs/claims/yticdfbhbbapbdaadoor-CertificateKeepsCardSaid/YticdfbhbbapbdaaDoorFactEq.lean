/- '==' and '!=' between two facts. -/
import Derived.Test.YticdfbhbbapbdaaDoorBase
import Derived.Laws.StructEq
namespace Go.Proofs.YticdfbhbbapbdaaDoor
/-- are two facts equal? -/
def eqB (a b c d : Int) : Bool := decide (a = c ∧ b = d)
end Go.Proofs.YticdfbhbbapbdaaDoor
