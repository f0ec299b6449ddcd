/-
  No cell of these rows narrows 'for every input' (looked for: loops, veiled, ifaces, maps, wideKeys, modest, calm, conditions, laid).
  DERIVED. THE GIVEN ROWS OF THIS SEAT. 8 by the template 'for every input the law returns true; each argument reads behind the call as it read before'; 0 by the template 'total and deterministic' (their statements: YtohjegemooakpaaGreatTotals.lean).
  GIVEN WITH THE SEED: the statements are not yours to turn. If you find one false, say at which input.
  Laid BY PROGRAM, IN A SANDBOX (cutbox-rows.mjs): the forced cells as the released guide's own fill.sh prints them over the translation 29682817182581f7… (all of the seat's roots in one cut). By AI agents, Wed Nov 11 2026. No macro, syntax, notation, axiom, sorry.
-/
import Derived.Test.YtohjegemooakpaaGreatChecked
import GoSem.Claim
import GoSem.ClaimJoined
import GoSem.ClaimMapViews
import Derived.JoinedTies
import Derived.KernelRfl
namespace Go.Proofs.YtohjegemooakpaaGreat
/- THE CELL 'sum', in the pinned program and in every row, IS THE sha256 OF THE DUMP (.gsa) THAT YtohjegemooakpaaGreatProg.lean LOADS. Nothing in Lean hashes anything: it is a label: what it is worth is what the hold of that sum in a sandbox is worth. -/
noncomputable def Tryz.pinned : Pinned := { name := "ytohjegemooakpaagreat", sum := "29682817182581f78ae2e1a8eb4866fddac12da8a3007500b98cc53ed27ae548", checked := Tryz.checked }
namespace Rows
def none {H : Type} : Left H := { results := [], args := [] }

/-- 'stratagemlaw32.CertifyExact': WHATEVER THE INPUT: true; the input reads as it did. -/
def certifyExactSpec : ChangeSpec := { name := "certifyExact", fn := fun _ => fun
  | [d1, d2] => { results := [.lit (.bool true)], args := [d1, d2] }
  | _ => none }
def certifyExactRow : OpenClaim := { program := "ytohjegemooakpaagreat", sum := "29682817182581f78ae2e1a8eb4866fddac12da8a3007500b98cc53ed27ae548", func := "stratagem/stratagemlaw32.CertifyExact", spec := "certifyExact", inPlace := ["slices.overlaps[[]stratagem/api.Fact]"], unfollowed := true, recurses := true, apart := false }
def CertifyExactSaid : Prop := certifyExactRow.holds Tryz.pinned (OpenSpec.ofChange certifyExactSpec)

/-- ITS FALSE NEIGHBOUR: 'it returns false'. Refute it at one input. -/
def certifyExactWrong : ChangeSpec := { name := "certifyExact", fn := fun _ => fun
  | [d1, d2] => { results := [.lit (.bool false)], args := [d1, d2] }
  | _ => none }
def CertifyExactWrongFalsely : Prop := certifyExactRow.holds Tryz.pinned (OpenSpec.ofChange certifyExactWrong)

/-- 'stratagemlaw32.CertifyLimits': WHATEVER THE INPUT: true; the input reads as it did. -/
def certifyLimitsSpec : ChangeSpec := { name := "certifyLimits", fn := fun _ => fun
  | [d1, d2, d3] => { results := [.lit (.bool true)], args := [d1, d2, d3] }
  | _ => none }
def certifyLimitsRow : OpenClaim := { program := "ytohjegemooakpaagreat", sum := "29682817182581f78ae2e1a8eb4866fddac12da8a3007500b98cc53ed27ae548", func := "stratagem/stratagemlaw32.CertifyLimits", spec := "certifyLimits", inPlace := ["slices.overlaps[[]stratagem/api.Fact]"], unfollowed := true, recurses := true, apart := false }
def CertifyLimitsSaid : Prop := certifyLimitsRow.holds Tryz.pinned (OpenSpec.ofChange certifyLimitsSpec)

/-- ITS FALSE NEIGHBOUR: 'it returns false'. Refute it at one input. -/
def certifyLimitsWrong : ChangeSpec := { name := "certifyLimits", fn := fun _ => fun
  | [d1, d2, d3] => { results := [.lit (.bool false)], args := [d1, d2, d3] }
  | _ => none }
def CertifyLimitsWrongFalsely : Prop := certifyLimitsRow.holds Tryz.pinned (OpenSpec.ofChange certifyLimitsWrong)

/-- 'stratagemlaw32.CertifyTables': WHATEVER THE INPUT: true; the input reads as it did. -/
def certifyTablesSpec : ChangeSpec := { name := "certifyTables", fn := fun _ => fun
  | [d1, d2] => { results := [.lit (.bool true)], args := [d1, d2] }
  | _ => none }
def certifyTablesRow : OpenClaim := { program := "ytohjegemooakpaagreat", sum := "29682817182581f78ae2e1a8eb4866fddac12da8a3007500b98cc53ed27ae548", func := "stratagem/stratagemlaw32.CertifyTables", spec := "certifyTables", inPlace := ["slices.overlaps[[]stratagem/api.Fact]"], unfollowed := true, recurses := true, apart := false }
def CertifyTablesSaid : Prop := certifyTablesRow.holds Tryz.pinned (OpenSpec.ofChange certifyTablesSpec)

/-- ITS FALSE NEIGHBOUR: 'it returns false'. Refute it at one input. -/
def certifyTablesWrong : ChangeSpec := { name := "certifyTables", fn := fun _ => fun
  | [d1, d2] => { results := [.lit (.bool false)], args := [d1, d2] }
  | _ => none }
def CertifyTablesWrongFalsely : Prop := certifyTablesRow.holds Tryz.pinned (OpenSpec.ofChange certifyTablesWrong)

/-- 'stratagemlaw32.CertifyLower': WHATEVER THE INPUT: true; the input reads as it did. -/
def certifyLowerSpec : ChangeSpec := { name := "certifyLower", fn := fun _ => fun
  | [d1, d2] => { results := [.lit (.bool true)], args := [d1, d2] }
  | _ => none }
def certifyLowerRow : OpenClaim := { program := "ytohjegemooakpaagreat", sum := "29682817182581f78ae2e1a8eb4866fddac12da8a3007500b98cc53ed27ae548", func := "stratagem/stratagemlaw32.CertifyLower", spec := "certifyLower", inPlace := ["slices.overlaps[[]stratagem/api.Fact]", "slices.overlaps[stratagem/api.Fact]"], unfollowed := true, recurses := true, apart := false }
def CertifyLowerSaid : Prop := certifyLowerRow.holds Tryz.pinned (OpenSpec.ofChange certifyLowerSpec)

/-- ITS FALSE NEIGHBOUR: 'it returns false'. Refute it at one input. -/
def certifyLowerWrong : ChangeSpec := { name := "certifyLower", fn := fun _ => fun
  | [d1, d2] => { results := [.lit (.bool false)], args := [d1, d2] }
  | _ => none }
def CertifyLowerWrongFalsely : Prop := certifyLowerRow.holds Tryz.pinned (OpenSpec.ofChange certifyLowerWrong)

/-- 'stratagemlaw32.CertifyJoins': WHATEVER THE INPUT: true; the input reads as it did. -/
def certifyJoinsSpec : ChangeSpec := { name := "certifyJoins", fn := fun _ => fun
  | [d1, d2, d3] => { results := [.lit (.bool true)], args := [d1, d2, d3] }
  | _ => none }
def certifyJoinsRow : OpenClaim := { program := "ytohjegemooakpaagreat", sum := "29682817182581f78ae2e1a8eb4866fddac12da8a3007500b98cc53ed27ae548", func := "stratagem/stratagemlaw32.CertifyJoins", spec := "certifyJoins", inPlace := ["slices.overlaps[[]stratagem/api.Fact]", "slices.overlaps[stratagem/api.Fact]"], unfollowed := true, recurses := true, apart := false }
def CertifyJoinsSaid : Prop := certifyJoinsRow.holds Tryz.pinned (OpenSpec.ofChange certifyJoinsSpec)

/-- ITS FALSE NEIGHBOUR: 'it returns false'. Refute it at one input. -/
def certifyJoinsWrong : ChangeSpec := { name := "certifyJoins", fn := fun _ => fun
  | [d1, d2, d3] => { results := [.lit (.bool false)], args := [d1, d2, d3] }
  | _ => none }
def CertifyJoinsWrongFalsely : Prop := certifyJoinsRow.holds Tryz.pinned (OpenSpec.ofChange certifyJoinsWrong)

/-- 'stratagemlaw32.CertifyAbstract': WHATEVER THE INPUT: true; the input reads as it did. -/
def certifyAbstractSpec : ChangeSpec := { name := "certifyAbstract", fn := fun _ => fun
  | [d1, d2, d3] => { results := [.lit (.bool true)], args := [d1, d2, d3] }
  | _ => none }
def certifyAbstractRow : OpenClaim := { program := "ytohjegemooakpaagreat", sum := "29682817182581f78ae2e1a8eb4866fddac12da8a3007500b98cc53ed27ae548", func := "stratagem/stratagemlaw32.CertifyAbstract", spec := "certifyAbstract", inPlace := ["slices.overlaps[[]stratagem/api.Fact]", "slices.overlaps[stratagem/api.Fact]"], unfollowed := true, recurses := true, apart := false }
def CertifyAbstractSaid : Prop := certifyAbstractRow.holds Tryz.pinned (OpenSpec.ofChange certifyAbstractSpec)

/-- ITS FALSE NEIGHBOUR: 'it returns false'. Refute it at one input. -/
def certifyAbstractWrong : ChangeSpec := { name := "certifyAbstract", fn := fun _ => fun
  | [d1, d2, d3] => { results := [.lit (.bool false)], args := [d1, d2, d3] }
  | _ => none }
def CertifyAbstractWrongFalsely : Prop := certifyAbstractRow.holds Tryz.pinned (OpenSpec.ofChange certifyAbstractWrong)

/-- 'stratagemlaw32.CertifyWeakens': WHATEVER THE INPUT: true; the input reads as it did. -/
def certifyWeakensSpec : ChangeSpec := { name := "certifyWeakens", fn := fun _ => fun
  | [d1, d2] => { results := [.lit (.bool true)], args := [d1, d2] }
  | _ => none }
def certifyWeakensRow : OpenClaim := { program := "ytohjegemooakpaagreat", sum := "29682817182581f78ae2e1a8eb4866fddac12da8a3007500b98cc53ed27ae548", func := "stratagem/stratagemlaw32.CertifyWeakens", spec := "certifyWeakens", inPlace := ["slices.overlaps[[]stratagem/api.Fact]", "slices.overlaps[stratagem/api.Fact]"], unfollowed := true, recurses := true, apart := false }
def CertifyWeakensSaid : Prop := certifyWeakensRow.holds Tryz.pinned (OpenSpec.ofChange certifyWeakensSpec)

/-- ITS FALSE NEIGHBOUR: 'it returns false'. Refute it at one input. -/
def certifyWeakensWrong : ChangeSpec := { name := "certifyWeakens", fn := fun _ => fun
  | [d1, d2] => { results := [.lit (.bool false)], args := [d1, d2] }
  | _ => none }
def CertifyWeakensWrongFalsely : Prop := certifyWeakensRow.holds Tryz.pinned (OpenSpec.ofChange certifyWeakensWrong)

/-- 'stratagemlaw32.CertifyErrors': WHATEVER THE INPUT: true; the input reads as it did. -/
def certifyErrorsSpec : ChangeSpec := { name := "certifyErrors", fn := fun _ => fun
  | [d1, d2] => { results := [.lit (.bool true)], args := [d1, d2] }
  | _ => none }
def certifyErrorsRow : OpenClaim := { program := "ytohjegemooakpaagreat", sum := "29682817182581f78ae2e1a8eb4866fddac12da8a3007500b98cc53ed27ae548", func := "stratagem/stratagemlaw32.CertifyErrors", spec := "certifyErrors", inPlace := ["slices.overlaps[[]stratagem/api.Fact]", "slices.overlaps[stratagem/api.Fact]"], unfollowed := true, recurses := true, apart := false }
def CertifyErrorsSaid : Prop := certifyErrorsRow.holds Tryz.pinned (OpenSpec.ofChange certifyErrorsSpec)

/-- ITS FALSE NEIGHBOUR: 'it returns false'. Refute it at one input. -/
def certifyErrorsWrong : ChangeSpec := { name := "certifyErrors", fn := fun _ => fun
  | [d1, d2] => { results := [.lit (.bool false)], args := [d1, d2] }
  | _ => none }
def CertifyErrorsWrongFalsely : Prop := certifyErrorsRow.holds Tryz.pinned (OpenSpec.ofChange certifyErrorsWrong)

/- THE SECOND FORM. 'bulk': how many values and letters a reading holds, each counted each time it is reached (what is shared counts as often as it is met; a slice's spare places count too). A statement '..UptoSaid' is the law's where the arguments, and the package variables that the reading takes, are together of bulk at most 1048576: NARROWER than '..Said'. Prove '..Said' where nothing that the law and all that it calls make is longer than what came in: it says more and counts as full. Else prove '..UptoSaid'. A law counts once. -/
mutual
def uptoBulk {H : Type} : DataW H → Nat
  | .lit (.string bytes) => bytes.length + 1
  | .lit _ => 1
  | .nil => 1
  | .ptr d => uptoBulk d + 1
  | .slice elems spare => uptoBulkAll elems + uptoBulkAll spare + 1
  | .agg parts => uptoBulkAll parts + 1
  | .iface _ d => uptoBulk d + 1
  | .map entries => uptoBulkEntries entries + 1
  | .held _ => 1
def uptoBulkAll {H : Type} : List (DataW H) → Nat
  | [] => 0
  | d :: r => uptoBulk d + uptoBulkAll r
def uptoBulkEntries {H : Type} : List (Lit × DataW H) → Nat
  | [] => 0
  | x :: r => uptoBulkEntry x + uptoBulkEntries r
def uptoBulkEntry {H : Type} : Lit × DataW H → Nat
  | (.string bytes, d) => bytes.length + uptoBulk d + 1
  | (_, d) => uptoBulk d + 1
 end
def uptoSmall : (H : Type) → List (DataW H) → Bool := fun _ ds => decide (uptoBulkAll ds ≤ 1048576)
def OpenSpec.upto (s : _root_.Go.ChangeSpec) : _root_.Go.OpenSpec := { _root_.Go.OpenSpec.ofChange s with cond := some uptoSmall }

/-- 'stratagemlaw32.CertifyExact', WHERE WHAT IT READS IS OF BULK AT MOST 1048576: true; the input reads as it did. -/
def certifyExactUptoRow : OpenClaim := { program := "ytohjegemooakpaagreat", sum := "29682817182581f78ae2e1a8eb4866fddac12da8a3007500b98cc53ed27ae548", func := "stratagem/stratagemlaw32.CertifyExact", spec := "certifyExact", inPlace := ["slices.overlaps[[]stratagem/api.Fact]"], unfollowed := true, recurses := true, apart := false, narrowed := true }
def CertifyExactUptoSaid : Prop := certifyExactUptoRow.holds Tryz.pinned (OpenSpec.upto certifyExactSpec)

/-- 'stratagemlaw32.CertifyLimits', WHERE WHAT IT READS IS OF BULK AT MOST 1048576: true; the input reads as it did. -/
def certifyLimitsUptoRow : OpenClaim := { program := "ytohjegemooakpaagreat", sum := "29682817182581f78ae2e1a8eb4866fddac12da8a3007500b98cc53ed27ae548", func := "stratagem/stratagemlaw32.CertifyLimits", spec := "certifyLimits", inPlace := ["slices.overlaps[[]stratagem/api.Fact]"], unfollowed := true, recurses := true, apart := false, narrowed := true }
def CertifyLimitsUptoSaid : Prop := certifyLimitsUptoRow.holds Tryz.pinned (OpenSpec.upto certifyLimitsSpec)

/-- 'stratagemlaw32.CertifyTables', WHERE WHAT IT READS IS OF BULK AT MOST 1048576: true; the input reads as it did. -/
def certifyTablesUptoRow : OpenClaim := { program := "ytohjegemooakpaagreat", sum := "29682817182581f78ae2e1a8eb4866fddac12da8a3007500b98cc53ed27ae548", func := "stratagem/stratagemlaw32.CertifyTables", spec := "certifyTables", inPlace := ["slices.overlaps[[]stratagem/api.Fact]"], unfollowed := true, recurses := true, apart := false, narrowed := true }
def CertifyTablesUptoSaid : Prop := certifyTablesUptoRow.holds Tryz.pinned (OpenSpec.upto certifyTablesSpec)

/-- 'stratagemlaw32.CertifyLower', WHERE WHAT IT READS IS OF BULK AT MOST 1048576: true; the input reads as it did. -/
def certifyLowerUptoRow : OpenClaim := { program := "ytohjegemooakpaagreat", sum := "29682817182581f78ae2e1a8eb4866fddac12da8a3007500b98cc53ed27ae548", func := "stratagem/stratagemlaw32.CertifyLower", spec := "certifyLower", inPlace := ["slices.overlaps[[]stratagem/api.Fact]", "slices.overlaps[stratagem/api.Fact]"], unfollowed := true, recurses := true, apart := false, narrowed := true }
def CertifyLowerUptoSaid : Prop := certifyLowerUptoRow.holds Tryz.pinned (OpenSpec.upto certifyLowerSpec)

/-- 'stratagemlaw32.CertifyJoins', WHERE WHAT IT READS IS OF BULK AT MOST 1048576: true; the input reads as it did. -/
def certifyJoinsUptoRow : OpenClaim := { program := "ytohjegemooakpaagreat", sum := "29682817182581f78ae2e1a8eb4866fddac12da8a3007500b98cc53ed27ae548", func := "stratagem/stratagemlaw32.CertifyJoins", spec := "certifyJoins", inPlace := ["slices.overlaps[[]stratagem/api.Fact]", "slices.overlaps[stratagem/api.Fact]"], unfollowed := true, recurses := true, apart := false, narrowed := true }
def CertifyJoinsUptoSaid : Prop := certifyJoinsUptoRow.holds Tryz.pinned (OpenSpec.upto certifyJoinsSpec)

/-- 'stratagemlaw32.CertifyAbstract', WHERE WHAT IT READS IS OF BULK AT MOST 1048576: true; the input reads as it did. -/
def certifyAbstractUptoRow : OpenClaim := { program := "ytohjegemooakpaagreat", sum := "29682817182581f78ae2e1a8eb4866fddac12da8a3007500b98cc53ed27ae548", func := "stratagem/stratagemlaw32.CertifyAbstract", spec := "certifyAbstract", inPlace := ["slices.overlaps[[]stratagem/api.Fact]", "slices.overlaps[stratagem/api.Fact]"], unfollowed := true, recurses := true, apart := false, narrowed := true }
def CertifyAbstractUptoSaid : Prop := certifyAbstractUptoRow.holds Tryz.pinned (OpenSpec.upto certifyAbstractSpec)

/-- 'stratagemlaw32.CertifyWeakens', WHERE WHAT IT READS IS OF BULK AT MOST 1048576: true; the input reads as it did. -/
def certifyWeakensUptoRow : OpenClaim := { program := "ytohjegemooakpaagreat", sum := "29682817182581f78ae2e1a8eb4866fddac12da8a3007500b98cc53ed27ae548", func := "stratagem/stratagemlaw32.CertifyWeakens", spec := "certifyWeakens", inPlace := ["slices.overlaps[[]stratagem/api.Fact]", "slices.overlaps[stratagem/api.Fact]"], unfollowed := true, recurses := true, apart := false, narrowed := true }
def CertifyWeakensUptoSaid : Prop := certifyWeakensUptoRow.holds Tryz.pinned (OpenSpec.upto certifyWeakensSpec)

/-- 'stratagemlaw32.CertifyErrors', WHERE WHAT IT READS IS OF BULK AT MOST 1048576: true; the input reads as it did. -/
def certifyErrorsUptoRow : OpenClaim := { program := "ytohjegemooakpaagreat", sum := "29682817182581f78ae2e1a8eb4866fddac12da8a3007500b98cc53ed27ae548", func := "stratagem/stratagemlaw32.CertifyErrors", spec := "certifyErrors", inPlace := ["slices.overlaps[[]stratagem/api.Fact]", "slices.overlaps[stratagem/api.Fact]"], unfollowed := true, recurses := true, apart := false, narrowed := true }
def CertifyErrorsUptoSaid : Prop := certifyErrorsUptoRow.holds Tryz.pinned (OpenSpec.upto certifyErrorsSpec)

end Rows
end Go.Proofs.YtohjegemooakpaaGreat
