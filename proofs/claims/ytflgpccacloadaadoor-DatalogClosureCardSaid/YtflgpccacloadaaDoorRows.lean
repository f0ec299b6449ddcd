/-
  NARROWER THAN 'FOR EVERY INPUT', by the rows' own cells (each row's printed sentence says how): DatalogRules: laid · DatalogSolves: laid · DatalogModel: laid · DatalogGrows: laid · DatalogTurned: laid · DatalogClosure: laid · DatalogLimits: laid · DatalogDepends: laid.
  DERIVED. THE GIVEN ROWS OF THIS SEAT. 8 by the template 'for every input the law returns true; each argument reads behind the call as it read before'; 0 by the template 'total and deterministic' (their statements: YtflgpccacloadaaDoorTotals.lean).
  GIVEN WITH THE SEED: the statements are not yours to turn. If you find one false, say at which input.
  Laid BY PROGRAM, IN A SANDBOX (cutbox-rows.mjs): the forced cells as the released guide's own fill.sh prints them over the translation b784b0809065eb8c… (all of the seat's roots in one cut). By AI agents, Wed Nov 11 2026. No macro, syntax, notation, axiom, sorry.
-/
import Derived.Test.YtflgpccacloadaaDoorChecked
import GoSem.Claim
import GoSem.ClaimJoined
import GoSem.ClaimMapViews
import Derived.JoinedTies
import Derived.KernelRfl
namespace Go.Proofs.YtflgpccacloadaaDoor
/- THE CELL 'sum', in the pinned program and in every row, IS THE sha256 OF THE DUMP (.gsa) THAT YtflgpccacloadaaDoorProg.lean LOADS. Nothing in Lean hashes anything: it is a label: what it is worth is what the hold of that sum in a sandbox is worth. -/
noncomputable def Tryd.pinned : Pinned := { name := "ytflgpccacloadaadoor", sum := "b784b0809065eb8c620b1b705fd704b06d4acfc7cf28f1b7c30d79e801db2c7c", checked := Tryd.checked }
namespace Rows
def none {H : Type} : Left H := { results := [], args := [] }

/- WHAT THE LISTED PACKAGE-LEVEL VARIABLES READ AS WHEN THE CALL BEGINS. Each datum BY PROGRAM (the guide's laid-datum.mjs) off the statement by which the dump's own 'gosem.cut.vars' lays the variable. In a bare row this is a premise. The card (YtflgpccacloadaaDoorCards.lean) ties it to the program's text. -/
def laid_math_bits_deBruijn32tab {H : Type} : DataW H := .agg [.lit (.int .u8 0), .lit (.int .u8 1), .lit (.int .u8 28), .lit (.int .u8 2), .lit (.int .u8 29), .lit (.int .u8 14), .lit (.int .u8 24), .lit (.int .u8 3), .lit (.int .u8 30), .lit (.int .u8 22), .lit (.int .u8 20), .lit (.int .u8 15), .lit (.int .u8 25), .lit (.int .u8 17), .lit (.int .u8 4), .lit (.int .u8 8), .lit (.int .u8 31), .lit (.int .u8 27), .lit (.int .u8 13), .lit (.int .u8 23), .lit (.int .u8 21), .lit (.int .u8 19), .lit (.int .u8 16), .lit (.int .u8 7), .lit (.int .u8 26), .lit (.int .u8 12), .lit (.int .u8 18), .lit (.int .u8 6), .lit (.int .u8 11), .lit (.int .u8 5), .lit (.int .u8 10), .lit (.int .u8 9)]
def laid_math_bits_deBruijn64tab {H : Type} : DataW H := .agg [.lit (.int .u8 0), .lit (.int .u8 1), .lit (.int .u8 56), .lit (.int .u8 2), .lit (.int .u8 57), .lit (.int .u8 49), .lit (.int .u8 28), .lit (.int .u8 3), .lit (.int .u8 61), .lit (.int .u8 58), .lit (.int .u8 42), .lit (.int .u8 50), .lit (.int .u8 38), .lit (.int .u8 29), .lit (.int .u8 17), .lit (.int .u8 4), .lit (.int .u8 62), .lit (.int .u8 47), .lit (.int .u8 59), .lit (.int .u8 36), .lit (.int .u8 45), .lit (.int .u8 43), .lit (.int .u8 51), .lit (.int .u8 22), .lit (.int .u8 53), .lit (.int .u8 39), .lit (.int .u8 33), .lit (.int .u8 30), .lit (.int .u8 24), .lit (.int .u8 18), .lit (.int .u8 12), .lit (.int .u8 5), .lit (.int .u8 63), .lit (.int .u8 55), .lit (.int .u8 48), .lit (.int .u8 27), .lit (.int .u8 60), .lit (.int .u8 41), .lit (.int .u8 37), .lit (.int .u8 16), .lit (.int .u8 46), .lit (.int .u8 35), .lit (.int .u8 44), .lit (.int .u8 21), .lit (.int .u8 52), .lit (.int .u8 32), .lit (.int .u8 23), .lit (.int .u8 11), .lit (.int .u8 54), .lit (.int .u8 26), .lit (.int .u8 40), .lit (.int .u8 15), .lit (.int .u8 34), .lit (.int .u8 20), .lit (.int .u8 31), .lit (.int .u8 10), .lit (.int .u8 25), .lit (.int .u8 14), .lit (.int .u8 19), .lit (.int .u8 9), .lit (.int .u8 13), .lit (.int .u8 8), .lit (.int .u8 7), .lit (.int .u8 6)]
def laid_internal_strconv_uint64pow10 {H : Type} : DataW H := .agg [.lit (.int .u64 1), .lit (.int .u64 10), .lit (.int .u64 100), .lit (.int .u64 1000), .lit (.int .u64 10000), .lit (.int .u64 100000), .lit (.int .u64 1000000), .lit (.int .u64 10000000), .lit (.int .u64 100000000), .lit (.int .u64 1000000000), .lit (.int .u64 10000000000), .lit (.int .u64 100000000000), .lit (.int .u64 1000000000000), .lit (.int .u64 10000000000000), .lit (.int .u64 100000000000000), .lit (.int .u64 1000000000000000), .lit (.int .u64 10000000000000000), .lit (.int .u64 100000000000000000), .lit (.int .u64 1000000000000000000), .lit (.int .u64 10000000000000000000)]

/-- 'stratagemlaw16.DatalogRules': WHATEVER THE INPUT: true; the input reads as it did. -/
def datalogRulesSpec : ChangeSpec := { name := "datalogRules", fn := fun _ => fun
  | [d] => { results := [.lit (.bool true)], args := [d] }
  | _ => none }
def datalogRulesRow : OpenClaim := { program := "ytflgpccacloadaadoor", sum := "b784b0809065eb8c620b1b705fd704b06d4acfc7cf28f1b7c30d79e801db2c7c", func := "stratagem/stratagemlaw16.DatalogRules", spec := "datalogRules", unfollowed := true, recurses := true, named := ["internal/strconv.uint64pow10", "math/bits.deBruijn32tab", "math/bits.deBruijn64tab"], plainKeys := false, apart := false, laid := [("math/bits.deBruijn32tab", laid_math_bits_deBruijn32tab), ("math/bits.deBruijn64tab", laid_math_bits_deBruijn64tab), ("internal/strconv.uint64pow10", laid_internal_strconv_uint64pow10)] }
def DatalogRulesSaid : Prop := datalogRulesRow.holds Tryd.pinned (OpenSpec.ofChange datalogRulesSpec)

/-- ITS FALSE NEIGHBOUR: 'it returns false'. Refute it at one input. -/
def datalogRulesWrong : ChangeSpec := { name := "datalogRules", fn := fun _ => fun
  | [d] => { results := [.lit (.bool false)], args := [d] }
  | _ => none }
def DatalogRulesWrongFalsely : Prop := datalogRulesRow.holds Tryd.pinned (OpenSpec.ofChange datalogRulesWrong)

/-- 'stratagemlaw16.DatalogSolves': WHATEVER THE INPUT: true; the input reads as it did. -/
def datalogSolvesSpec : ChangeSpec := { name := "datalogSolves", fn := fun _ => fun
  | [d] => { results := [.lit (.bool true)], args := [d] }
  | _ => none }
def datalogSolvesRow : OpenClaim := { program := "ytflgpccacloadaadoor", sum := "b784b0809065eb8c620b1b705fd704b06d4acfc7cf28f1b7c30d79e801db2c7c", func := "stratagem/stratagemlaw16.DatalogSolves", spec := "datalogSolves", unfollowed := true, recurses := true, named := ["internal/strconv.uint64pow10", "math/bits.deBruijn32tab", "math/bits.deBruijn64tab"], plainKeys := false, apart := false, laid := [("math/bits.deBruijn32tab", laid_math_bits_deBruijn32tab), ("math/bits.deBruijn64tab", laid_math_bits_deBruijn64tab), ("internal/strconv.uint64pow10", laid_internal_strconv_uint64pow10)] }
def DatalogSolvesSaid : Prop := datalogSolvesRow.holds Tryd.pinned (OpenSpec.ofChange datalogSolvesSpec)

/-- ITS FALSE NEIGHBOUR: 'it returns false'. Refute it at one input. -/
def datalogSolvesWrong : ChangeSpec := { name := "datalogSolves", fn := fun _ => fun
  | [d] => { results := [.lit (.bool false)], args := [d] }
  | _ => none }
def DatalogSolvesWrongFalsely : Prop := datalogSolvesRow.holds Tryd.pinned (OpenSpec.ofChange datalogSolvesWrong)

/-- 'stratagemlaw16.DatalogModel': WHATEVER THE INPUT: true; the input reads as it did. -/
def datalogModelSpec : ChangeSpec := { name := "datalogModel", fn := fun _ => fun
  | [d] => { results := [.lit (.bool true)], args := [d] }
  | _ => none }
def datalogModelRow : OpenClaim := { program := "ytflgpccacloadaadoor", sum := "b784b0809065eb8c620b1b705fd704b06d4acfc7cf28f1b7c30d79e801db2c7c", func := "stratagem/stratagemlaw16.DatalogModel", spec := "datalogModel", unfollowed := true, recurses := true, named := ["internal/strconv.uint64pow10", "math/bits.deBruijn32tab", "math/bits.deBruijn64tab"], plainKeys := false, apart := false, laid := [("math/bits.deBruijn32tab", laid_math_bits_deBruijn32tab), ("math/bits.deBruijn64tab", laid_math_bits_deBruijn64tab), ("internal/strconv.uint64pow10", laid_internal_strconv_uint64pow10)] }
def DatalogModelSaid : Prop := datalogModelRow.holds Tryd.pinned (OpenSpec.ofChange datalogModelSpec)

/-- ITS FALSE NEIGHBOUR: 'it returns false'. Refute it at one input. -/
def datalogModelWrong : ChangeSpec := { name := "datalogModel", fn := fun _ => fun
  | [d] => { results := [.lit (.bool false)], args := [d] }
  | _ => none }
def DatalogModelWrongFalsely : Prop := datalogModelRow.holds Tryd.pinned (OpenSpec.ofChange datalogModelWrong)

/-- 'stratagemlaw16.DatalogGrows': WHATEVER THE INPUT: true; the input reads as it did. -/
def datalogGrowsSpec : ChangeSpec := { name := "datalogGrows", fn := fun _ => fun
  | [d1, d2, d3] => { results := [.lit (.bool true)], args := [d1, d2, d3] }
  | _ => none }
def datalogGrowsRow : OpenClaim := { program := "ytflgpccacloadaadoor", sum := "b784b0809065eb8c620b1b705fd704b06d4acfc7cf28f1b7c30d79e801db2c7c", func := "stratagem/stratagemlaw16.DatalogGrows", spec := "datalogGrows", unfollowed := true, recurses := true, named := ["internal/strconv.uint64pow10", "math/bits.deBruijn32tab", "math/bits.deBruijn64tab"], plainKeys := false, apart := false, laid := [("math/bits.deBruijn32tab", laid_math_bits_deBruijn32tab), ("math/bits.deBruijn64tab", laid_math_bits_deBruijn64tab), ("internal/strconv.uint64pow10", laid_internal_strconv_uint64pow10)] }
def DatalogGrowsSaid : Prop := datalogGrowsRow.holds Tryd.pinned (OpenSpec.ofChange datalogGrowsSpec)

/-- ITS FALSE NEIGHBOUR: 'it returns false'. Refute it at one input. -/
def datalogGrowsWrong : ChangeSpec := { name := "datalogGrows", fn := fun _ => fun
  | [d1, d2, d3] => { results := [.lit (.bool false)], args := [d1, d2, d3] }
  | _ => none }
def DatalogGrowsWrongFalsely : Prop := datalogGrowsRow.holds Tryd.pinned (OpenSpec.ofChange datalogGrowsWrong)

/-- 'stratagemlaw16.DatalogTurned': WHATEVER THE INPUT: true; the input reads as it did. -/
def datalogTurnedSpec : ChangeSpec := { name := "datalogTurned", fn := fun _ => fun
  | [d] => { results := [.lit (.bool true)], args := [d] }
  | _ => none }
def datalogTurnedRow : OpenClaim := { program := "ytflgpccacloadaadoor", sum := "b784b0809065eb8c620b1b705fd704b06d4acfc7cf28f1b7c30d79e801db2c7c", func := "stratagem/stratagemlaw16.DatalogTurned", spec := "datalogTurned", unfollowed := true, recurses := true, named := ["internal/strconv.uint64pow10", "math/bits.deBruijn32tab", "math/bits.deBruijn64tab"], plainKeys := false, apart := false, laid := [("math/bits.deBruijn32tab", laid_math_bits_deBruijn32tab), ("math/bits.deBruijn64tab", laid_math_bits_deBruijn64tab), ("internal/strconv.uint64pow10", laid_internal_strconv_uint64pow10)] }
def DatalogTurnedSaid : Prop := datalogTurnedRow.holds Tryd.pinned (OpenSpec.ofChange datalogTurnedSpec)

/-- ITS FALSE NEIGHBOUR: 'it returns false'. Refute it at one input. -/
def datalogTurnedWrong : ChangeSpec := { name := "datalogTurned", fn := fun _ => fun
  | [d] => { results := [.lit (.bool false)], args := [d] }
  | _ => none }
def DatalogTurnedWrongFalsely : Prop := datalogTurnedRow.holds Tryd.pinned (OpenSpec.ofChange datalogTurnedWrong)

/-- 'stratagemlaw16.DatalogClosure': WHATEVER THE INPUT: true; the input reads as it did. -/
def datalogClosureSpec : ChangeSpec := { name := "datalogClosure", fn := fun _ => fun
  | [d] => { results := [.lit (.bool true)], args := [d] }
  | _ => none }
def datalogClosureRow : OpenClaim := { program := "ytflgpccacloadaadoor", sum := "b784b0809065eb8c620b1b705fd704b06d4acfc7cf28f1b7c30d79e801db2c7c", func := "stratagem/stratagemlaw16.DatalogClosure", spec := "datalogClosure", unfollowed := true, recurses := true, named := ["internal/strconv.uint64pow10", "math/bits.deBruijn32tab", "math/bits.deBruijn64tab"], plainKeys := false, apart := false, laid := [("math/bits.deBruijn32tab", laid_math_bits_deBruijn32tab), ("math/bits.deBruijn64tab", laid_math_bits_deBruijn64tab), ("internal/strconv.uint64pow10", laid_internal_strconv_uint64pow10)] }
def DatalogClosureSaid : Prop := datalogClosureRow.holds Tryd.pinned (OpenSpec.ofChange datalogClosureSpec)

/-- ITS FALSE NEIGHBOUR: 'it returns false'. Refute it at one input. -/
def datalogClosureWrong : ChangeSpec := { name := "datalogClosure", fn := fun _ => fun
  | [d] => { results := [.lit (.bool false)], args := [d] }
  | _ => none }
def DatalogClosureWrongFalsely : Prop := datalogClosureRow.holds Tryd.pinned (OpenSpec.ofChange datalogClosureWrong)

/-- 'stratagemlaw16.DatalogLimits': WHATEVER THE INPUT: true; the input reads as it did. -/
def datalogLimitsSpec : ChangeSpec := { name := "datalogLimits", fn := fun _ => fun
  | [d1, d2] => { results := [.lit (.bool true)], args := [d1, d2] }
  | _ => none }
def datalogLimitsRow : OpenClaim := { program := "ytflgpccacloadaadoor", sum := "b784b0809065eb8c620b1b705fd704b06d4acfc7cf28f1b7c30d79e801db2c7c", func := "stratagem/stratagemlaw16.DatalogLimits", spec := "datalogLimits", unfollowed := true, recurses := true, named := ["internal/strconv.uint64pow10", "math/bits.deBruijn32tab", "math/bits.deBruijn64tab"], plainKeys := false, apart := false, laid := [("math/bits.deBruijn32tab", laid_math_bits_deBruijn32tab), ("math/bits.deBruijn64tab", laid_math_bits_deBruijn64tab), ("internal/strconv.uint64pow10", laid_internal_strconv_uint64pow10)] }
def DatalogLimitsSaid : Prop := datalogLimitsRow.holds Tryd.pinned (OpenSpec.ofChange datalogLimitsSpec)

/-- ITS FALSE NEIGHBOUR: 'it returns false'. Refute it at one input. -/
def datalogLimitsWrong : ChangeSpec := { name := "datalogLimits", fn := fun _ => fun
  | [d1, d2] => { results := [.lit (.bool false)], args := [d1, d2] }
  | _ => none }
def DatalogLimitsWrongFalsely : Prop := datalogLimitsRow.holds Tryd.pinned (OpenSpec.ofChange datalogLimitsWrong)

/-- 'stratagemlaw16.DatalogDepends': WHATEVER THE INPUT: true; the input reads as it did. -/
def datalogDependsSpec : ChangeSpec := { name := "datalogDepends", fn := fun _ => fun
  | [d1, d2, d3] => { results := [.lit (.bool true)], args := [d1, d2, d3] }
  | _ => none }
def datalogDependsRow : OpenClaim := { program := "ytflgpccacloadaadoor", sum := "b784b0809065eb8c620b1b705fd704b06d4acfc7cf28f1b7c30d79e801db2c7c", func := "stratagem/stratagemlaw16.DatalogDepends", spec := "datalogDepends", unfollowed := true, recurses := true, named := ["internal/strconv.uint64pow10", "math/bits.deBruijn32tab", "math/bits.deBruijn64tab"], plainKeys := false, apart := false, laid := [("math/bits.deBruijn32tab", laid_math_bits_deBruijn32tab), ("math/bits.deBruijn64tab", laid_math_bits_deBruijn64tab), ("internal/strconv.uint64pow10", laid_internal_strconv_uint64pow10)] }
def DatalogDependsSaid : Prop := datalogDependsRow.holds Tryd.pinned (OpenSpec.ofChange datalogDependsSpec)

/-- ITS FALSE NEIGHBOUR: 'it returns false'. Refute it at one input. -/
def datalogDependsWrong : ChangeSpec := { name := "datalogDepends", fn := fun _ => fun
  | [d1, d2, d3] => { results := [.lit (.bool false)], args := [d1, d2, d3] }
  | _ => none }
def DatalogDependsWrongFalsely : Prop := datalogDependsRow.holds Tryd.pinned (OpenSpec.ofChange datalogDependsWrong)

/- THE SECOND FORM. 'bulk': how many values and letters a reading holds, each counted each time it is reached (what is shared counts as often as it is met; a slice's spare places count too). A statement '..UptoSaid' is the law's where the arguments, and the package variables that the reading takes, are together of bulk at most 1048576: NARROWER than '..Said'. Prove '..Said' where nothing that the law and all that it calls make is longer than what came in: it says more and counts as full. Else prove '..UptoSaid'. A law counts once. -/
mutual
def uptoBulk {H : Type} : DataW H → Nat
  | .lit (.string bytes) => bytes.length + 1
  | .lit _ => 1
  | .nil => 1
  | .ptr d => uptoBulk d + 1
  | .slice elems spare => uptoBulkAll elems + uptoBulkAll spare + 1
  | .agg parts => uptoBulkAll parts + 1
  | .iface _ d => uptoBulk d + 1
  | .map entries => uptoBulkEntries entries + 1
  | .held _ => 1
def uptoBulkAll {H : Type} : List (DataW H) → Nat
  | [] => 0
  | d :: r => uptoBulk d + uptoBulkAll r
def uptoBulkEntries {H : Type} : List (Lit × DataW H) → Nat
  | [] => 0
  | x :: r => uptoBulkEntry x + uptoBulkEntries r
def uptoBulkEntry {H : Type} : Lit × DataW H → Nat
  | (.string bytes, d) => bytes.length + uptoBulk d + 1
  | (_, d) => uptoBulk d + 1
 end
def uptoSmall : (H : Type) → List (DataW H) → Bool := fun _ ds => decide (uptoBulkAll ds ≤ 1048576)
def OpenSpec.upto (s : _root_.Go.ChangeSpec) : _root_.Go.OpenSpec := { _root_.Go.OpenSpec.ofChange s with cond := some uptoSmall }

/-- 'stratagemlaw16.DatalogRules', WHERE WHAT IT READS IS OF BULK AT MOST 1048576: true; the input reads as it did. -/
def datalogRulesUptoRow : OpenClaim := { program := "ytflgpccacloadaadoor", sum := "b784b0809065eb8c620b1b705fd704b06d4acfc7cf28f1b7c30d79e801db2c7c", func := "stratagem/stratagemlaw16.DatalogRules", spec := "datalogRules", unfollowed := true, recurses := true, named := ["internal/strconv.uint64pow10", "math/bits.deBruijn32tab", "math/bits.deBruijn64tab"], plainKeys := false, apart := false, laid := [("math/bits.deBruijn32tab", laid_math_bits_deBruijn32tab), ("math/bits.deBruijn64tab", laid_math_bits_deBruijn64tab), ("internal/strconv.uint64pow10", laid_internal_strconv_uint64pow10)], narrowed := true }
def DatalogRulesUptoSaid : Prop := datalogRulesUptoRow.holds Tryd.pinned (OpenSpec.upto datalogRulesSpec)

/-- 'stratagemlaw16.DatalogSolves', WHERE WHAT IT READS IS OF BULK AT MOST 1048576: true; the input reads as it did. -/
def datalogSolvesUptoRow : OpenClaim := { program := "ytflgpccacloadaadoor", sum := "b784b0809065eb8c620b1b705fd704b06d4acfc7cf28f1b7c30d79e801db2c7c", func := "stratagem/stratagemlaw16.DatalogSolves", spec := "datalogSolves", unfollowed := true, recurses := true, named := ["internal/strconv.uint64pow10", "math/bits.deBruijn32tab", "math/bits.deBruijn64tab"], plainKeys := false, apart := false, laid := [("math/bits.deBruijn32tab", laid_math_bits_deBruijn32tab), ("math/bits.deBruijn64tab", laid_math_bits_deBruijn64tab), ("internal/strconv.uint64pow10", laid_internal_strconv_uint64pow10)], narrowed := true }
def DatalogSolvesUptoSaid : Prop := datalogSolvesUptoRow.holds Tryd.pinned (OpenSpec.upto datalogSolvesSpec)

/-- 'stratagemlaw16.DatalogModel', WHERE WHAT IT READS IS OF BULK AT MOST 1048576: true; the input reads as it did. -/
def datalogModelUptoRow : OpenClaim := { program := "ytflgpccacloadaadoor", sum := "b784b0809065eb8c620b1b705fd704b06d4acfc7cf28f1b7c30d79e801db2c7c", func := "stratagem/stratagemlaw16.DatalogModel", spec := "datalogModel", unfollowed := true, recurses := true, named := ["internal/strconv.uint64pow10", "math/bits.deBruijn32tab", "math/bits.deBruijn64tab"], plainKeys := false, apart := false, laid := [("math/bits.deBruijn32tab", laid_math_bits_deBruijn32tab), ("math/bits.deBruijn64tab", laid_math_bits_deBruijn64tab), ("internal/strconv.uint64pow10", laid_internal_strconv_uint64pow10)], narrowed := true }
def DatalogModelUptoSaid : Prop := datalogModelUptoRow.holds Tryd.pinned (OpenSpec.upto datalogModelSpec)

/-- 'stratagemlaw16.DatalogGrows', WHERE WHAT IT READS IS OF BULK AT MOST 1048576: true; the input reads as it did. -/
def datalogGrowsUptoRow : OpenClaim := { program := "ytflgpccacloadaadoor", sum := "b784b0809065eb8c620b1b705fd704b06d4acfc7cf28f1b7c30d79e801db2c7c", func := "stratagem/stratagemlaw16.DatalogGrows", spec := "datalogGrows", unfollowed := true, recurses := true, named := ["internal/strconv.uint64pow10", "math/bits.deBruijn32tab", "math/bits.deBruijn64tab"], plainKeys := false, apart := false, laid := [("math/bits.deBruijn32tab", laid_math_bits_deBruijn32tab), ("math/bits.deBruijn64tab", laid_math_bits_deBruijn64tab), ("internal/strconv.uint64pow10", laid_internal_strconv_uint64pow10)], narrowed := true }
def DatalogGrowsUptoSaid : Prop := datalogGrowsUptoRow.holds Tryd.pinned (OpenSpec.upto datalogGrowsSpec)

/-- 'stratagemlaw16.DatalogTurned', WHERE WHAT IT READS IS OF BULK AT MOST 1048576: true; the input reads as it did. -/
def datalogTurnedUptoRow : OpenClaim := { program := "ytflgpccacloadaadoor", sum := "b784b0809065eb8c620b1b705fd704b06d4acfc7cf28f1b7c30d79e801db2c7c", func := "stratagem/stratagemlaw16.DatalogTurned", spec := "datalogTurned", unfollowed := true, recurses := true, named := ["internal/strconv.uint64pow10", "math/bits.deBruijn32tab", "math/bits.deBruijn64tab"], plainKeys := false, apart := false, laid := [("math/bits.deBruijn32tab", laid_math_bits_deBruijn32tab), ("math/bits.deBruijn64tab", laid_math_bits_deBruijn64tab), ("internal/strconv.uint64pow10", laid_internal_strconv_uint64pow10)], narrowed := true }
def DatalogTurnedUptoSaid : Prop := datalogTurnedUptoRow.holds Tryd.pinned (OpenSpec.upto datalogTurnedSpec)

/-- 'stratagemlaw16.DatalogClosure', WHERE WHAT IT READS IS OF BULK AT MOST 1048576: true; the input reads as it did. -/
def datalogClosureUptoRow : OpenClaim := { program := "ytflgpccacloadaadoor", sum := "b784b0809065eb8c620b1b705fd704b06d4acfc7cf28f1b7c30d79e801db2c7c", func := "stratagem/stratagemlaw16.DatalogClosure", spec := "datalogClosure", unfollowed := true, recurses := true, named := ["internal/strconv.uint64pow10", "math/bits.deBruijn32tab", "math/bits.deBruijn64tab"], plainKeys := false, apart := false, laid := [("math/bits.deBruijn32tab", laid_math_bits_deBruijn32tab), ("math/bits.deBruijn64tab", laid_math_bits_deBruijn64tab), ("internal/strconv.uint64pow10", laid_internal_strconv_uint64pow10)], narrowed := true }
def DatalogClosureUptoSaid : Prop := datalogClosureUptoRow.holds Tryd.pinned (OpenSpec.upto datalogClosureSpec)

/-- 'stratagemlaw16.DatalogLimits', WHERE WHAT IT READS IS OF BULK AT MOST 1048576: true; the input reads as it did. -/
def datalogLimitsUptoRow : OpenClaim := { program := "ytflgpccacloadaadoor", sum := "b784b0809065eb8c620b1b705fd704b06d4acfc7cf28f1b7c30d79e801db2c7c", func := "stratagem/stratagemlaw16.DatalogLimits", spec := "datalogLimits", unfollowed := true, recurses := true, named := ["internal/strconv.uint64pow10", "math/bits.deBruijn32tab", "math/bits.deBruijn64tab"], plainKeys := false, apart := false, laid := [("math/bits.deBruijn32tab", laid_math_bits_deBruijn32tab), ("math/bits.deBruijn64tab", laid_math_bits_deBruijn64tab), ("internal/strconv.uint64pow10", laid_internal_strconv_uint64pow10)], narrowed := true }
def DatalogLimitsUptoSaid : Prop := datalogLimitsUptoRow.holds Tryd.pinned (OpenSpec.upto datalogLimitsSpec)

/-- 'stratagemlaw16.DatalogDepends', WHERE WHAT IT READS IS OF BULK AT MOST 1048576: true; the input reads as it did. -/
def datalogDependsUptoRow : OpenClaim := { program := "ytflgpccacloadaadoor", sum := "b784b0809065eb8c620b1b705fd704b06d4acfc7cf28f1b7c30d79e801db2c7c", func := "stratagem/stratagemlaw16.DatalogDepends", spec := "datalogDepends", unfollowed := true, recurses := true, named := ["internal/strconv.uint64pow10", "math/bits.deBruijn32tab", "math/bits.deBruijn64tab"], plainKeys := false, apart := false, laid := [("math/bits.deBruijn32tab", laid_math_bits_deBruijn32tab), ("math/bits.deBruijn64tab", laid_math_bits_deBruijn64tab), ("internal/strconv.uint64pow10", laid_internal_strconv_uint64pow10)], narrowed := true }
def DatalogDependsUptoSaid : Prop := datalogDependsUptoRow.holds Tryd.pinned (OpenSpec.upto datalogDependsSpec)

end Rows
end Go.Proofs.YtflgpccacloadaaDoor
