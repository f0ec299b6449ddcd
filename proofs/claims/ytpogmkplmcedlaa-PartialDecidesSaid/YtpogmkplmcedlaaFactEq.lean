/- '==' and '!=' between two facts. -/
import Derived.Test.YtpogmkplmcedlaaBase
import Derived.Laws.StructEq
namespace Go.Proofs.Ytpogmkplmcedlaa
/-- are two facts equal? -/
def eqB (a b c d : Int) : Bool := decide (a = c ∧ b = d)
end Go.Proofs.Ytpogmkplmcedlaa
