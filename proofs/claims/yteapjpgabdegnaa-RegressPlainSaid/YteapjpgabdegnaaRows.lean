/-
  No cell of these rows narrows 'for every input' (looked for: loops, veiled, ifaces, maps, wideKeys, modest, calm, conditions, laid).
  DERIVED. THE GIVEN ROWS OF THIS SEAT. 8 by the template 'for every input the law returns true; each argument reads behind the call as it read before'; 0 by the template 'total and deterministic' (their statements: YteapjpgabdegnaaTotals.lean).
  GIVEN WITH THE SEED: the statements are not yours to turn. If you find one false, say at which input.
  Laid BY PROGRAM, IN A SANDBOX (cutbox-rows.mjs): the forced cells as the released guide's own fill.sh prints them over the translation ada5b4a12cef5b8b… (all of the seat's roots in one cut). By AI agents, Wed Nov 11 2026. No macro, syntax, notation, axiom, sorry.
-/
import Derived.Test.YteapjpgabdegnaaChecked
import GoSem.Claim
import GoSem.ClaimJoined
import GoSem.ClaimMapViews
import Derived.JoinedTies
import Derived.KernelRfl
namespace Go.Proofs.Yteapjpgabdegnaa
/- THE CELL 'sum', in the pinned program and in every row, IS THE sha256 OF THE DUMP (.gsa) THAT YteapjpgabdegnaaProg.lean LOADS. Nothing in Lean hashes anything: it is a label: what it is worth is what the hold of that sum in a sandbox is worth. -/
noncomputable def Try.pinned : Pinned := { name := "yteapjpgabdegnaa", sum := "ada5b4a12cef5b8be4813a24a8dae08d287ae9cd6e4a44a219844f2ebc85e623", checked := Try.checked }
namespace Rows
def none {H : Type} : Left H := { results := [], args := [] }

/-- 'stratagemlaw26.RegressPlain': WHATEVER THE INPUT: true; the input reads as it did. -/
def regressPlainSpec : ChangeSpec := { name := "regressPlain", fn := fun _ => fun
  | [d1, d2, d3] => { results := [.lit (.bool true)], args := [d1, d2, d3] }
  | _ => none }
def regressPlainRow : OpenClaim := { program := "yteapjpgabdegnaa", sum := "ada5b4a12cef5b8be4813a24a8dae08d287ae9cd6e4a44a219844f2ebc85e623", func := "stratagem/stratagemlaw26.RegressPlain", spec := "regressPlain", inPlace := ["slices.overlaps[[]stratagem/api.Fact]"], unfollowed := true, recurses := true, apart := false }
def RegressPlainSaid : Prop := regressPlainRow.holds Try.pinned (OpenSpec.ofChange regressPlainSpec)

/-- ITS FALSE NEIGHBOUR: 'it returns false'. Refute it at one input. -/
def regressPlainWrong : ChangeSpec := { name := "regressPlain", fn := fun _ => fun
  | [d1, d2, d3] => { results := [.lit (.bool false)], args := [d1, d2, d3] }
  | _ => none }
def RegressPlainWrongFalsely : Prop := regressPlainRow.holds Try.pinned (OpenSpec.ofChange regressPlainWrong)

/-- 'stratagemlaw26.RegressForms': WHATEVER THE INPUT: true; the input reads as it did. -/
def regressFormsSpec : ChangeSpec := { name := "regressForms", fn := fun _ => fun
  | [d1, d2, d3] => { results := [.lit (.bool true)], args := [d1, d2, d3] }
  | _ => none }
def regressFormsRow : OpenClaim := { program := "yteapjpgabdegnaa", sum := "ada5b4a12cef5b8be4813a24a8dae08d287ae9cd6e4a44a219844f2ebc85e623", func := "stratagem/stratagemlaw26.RegressForms", spec := "regressForms", inPlace := ["slices.overlaps[[]stratagem/api.Fact]"], unfollowed := true, recurses := true, apart := false }
def RegressFormsSaid : Prop := regressFormsRow.holds Try.pinned (OpenSpec.ofChange regressFormsSpec)

/-- ITS FALSE NEIGHBOUR: 'it returns false'. Refute it at one input. -/
def regressFormsWrong : ChangeSpec := { name := "regressForms", fn := fun _ => fun
  | [d1, d2, d3] => { results := [.lit (.bool false)], args := [d1, d2, d3] }
  | _ => none }
def RegressFormsWrongFalsely : Prop := regressFormsRow.holds Try.pinned (OpenSpec.ofChange regressFormsWrong)

/-- 'stratagemlaw26.RegressGrows': WHATEVER THE INPUT: true; the input reads as it did. -/
def regressGrowsSpec : ChangeSpec := { name := "regressGrows", fn := fun _ => fun
  | [d1, d2, d3] => { results := [.lit (.bool true)], args := [d1, d2, d3] }
  | _ => none }
def regressGrowsRow : OpenClaim := { program := "yteapjpgabdegnaa", sum := "ada5b4a12cef5b8be4813a24a8dae08d287ae9cd6e4a44a219844f2ebc85e623", func := "stratagem/stratagemlaw26.RegressGrows", spec := "regressGrows", inPlace := ["slices.overlaps[[]stratagem/api.Fact]"], unfollowed := true, recurses := true, apart := false }
def RegressGrowsSaid : Prop := regressGrowsRow.holds Try.pinned (OpenSpec.ofChange regressGrowsSpec)

/-- ITS FALSE NEIGHBOUR: 'it returns false'. Refute it at one input. -/
def regressGrowsWrong : ChangeSpec := { name := "regressGrows", fn := fun _ => fun
  | [d1, d2, d3] => { results := [.lit (.bool false)], args := [d1, d2, d3] }
  | _ => none }
def RegressGrowsWrongFalsely : Prop := regressGrowsRow.holds Try.pinned (OpenSpec.ofChange regressGrowsWrong)

/-- 'stratagemlaw26.RegressLarge': WHATEVER THE INPUT: true; the input reads as it did. -/
def regressLargeSpec : ChangeSpec := { name := "regressLarge", fn := fun _ => fun
  | [d] => { results := [.lit (.bool true)], args := [d] }
  | _ => none }
def regressLargeRow : OpenClaim := { program := "yteapjpgabdegnaa", sum := "ada5b4a12cef5b8be4813a24a8dae08d287ae9cd6e4a44a219844f2ebc85e623", func := "stratagem/stratagemlaw26.RegressLarge", spec := "regressLarge", inPlace := ["slices.overlaps[[]stratagem/api.Fact]"], unfollowed := true, recurses := true, apart := false }
def RegressLargeSaid : Prop := regressLargeRow.holds Try.pinned (OpenSpec.ofChange regressLargeSpec)

/-- ITS FALSE NEIGHBOUR: 'it returns false'. Refute it at one input. -/
def regressLargeWrong : ChangeSpec := { name := "regressLarge", fn := fun _ => fun
  | [d] => { results := [.lit (.bool false)], args := [d] }
  | _ => none }
def RegressLargeWrongFalsely : Prop := regressLargeRow.holds Try.pinned (OpenSpec.ofChange regressLargeWrong)

/-- 'stratagemlaw26.RegressCases': WHATEVER THE INPUT: true; the input reads as it did. -/
def regressCasesSpec : ChangeSpec := { name := "regressCases", fn := fun _ => fun
  | [d1, d2, d3] => { results := [.lit (.bool true)], args := [d1, d2, d3] }
  | _ => none }
def regressCasesRow : OpenClaim := { program := "yteapjpgabdegnaa", sum := "ada5b4a12cef5b8be4813a24a8dae08d287ae9cd6e4a44a219844f2ebc85e623", func := "stratagem/stratagemlaw26.RegressCases", spec := "regressCases", inPlace := ["slices.overlaps[[]stratagem/api.Fact]"], unfollowed := true, recurses := true, apart := false }
def RegressCasesSaid : Prop := regressCasesRow.holds Try.pinned (OpenSpec.ofChange regressCasesSpec)

/-- ITS FALSE NEIGHBOUR: 'it returns false'. Refute it at one input. -/
def regressCasesWrong : ChangeSpec := { name := "regressCases", fn := fun _ => fun
  | [d1, d2, d3] => { results := [.lit (.bool false)], args := [d1, d2, d3] }
  | _ => none }
def RegressCasesWrongFalsely : Prop := regressCasesRow.holds Try.pinned (OpenSpec.ofChange regressCasesWrong)

/-- 'stratagemlaw26.RegressExact': WHATEVER THE INPUT: true; the input reads as it did. -/
def regressExactSpec : ChangeSpec := { name := "regressExact", fn := fun _ => fun
  | [d1, d2, d3] => { results := [.lit (.bool true)], args := [d1, d2, d3] }
  | _ => none }
def regressExactRow : OpenClaim := { program := "yteapjpgabdegnaa", sum := "ada5b4a12cef5b8be4813a24a8dae08d287ae9cd6e4a44a219844f2ebc85e623", func := "stratagem/stratagemlaw26.RegressExact", spec := "regressExact", inPlace := ["slices.overlaps[[]stratagem/api.Fact]"], unfollowed := true, recurses := true, apart := false }
def RegressExactSaid : Prop := regressExactRow.holds Try.pinned (OpenSpec.ofChange regressExactSpec)

/-- ITS FALSE NEIGHBOUR: 'it returns false'. Refute it at one input. -/
def regressExactWrong : ChangeSpec := { name := "regressExact", fn := fun _ => fun
  | [d1, d2, d3] => { results := [.lit (.bool false)], args := [d1, d2, d3] }
  | _ => none }
def RegressExactWrongFalsely : Prop := regressExactRow.holds Try.pinned (OpenSpec.ofChange regressExactWrong)

/-- 'stratagemlaw26.RegressRelevant': WHATEVER THE INPUT: true; the input reads as it did. -/
def regressRelevantSpec : ChangeSpec := { name := "regressRelevant", fn := fun _ => fun
  | [d1, d2] => { results := [.lit (.bool true)], args := [d1, d2] }
  | _ => none }
def regressRelevantRow : OpenClaim := { program := "yteapjpgabdegnaa", sum := "ada5b4a12cef5b8be4813a24a8dae08d287ae9cd6e4a44a219844f2ebc85e623", func := "stratagem/stratagemlaw26.RegressRelevant", spec := "regressRelevant", inPlace := ["slices.overlaps[[]stratagem/api.Fact]"], unfollowed := true, recurses := true, apart := false }
def RegressRelevantSaid : Prop := regressRelevantRow.holds Try.pinned (OpenSpec.ofChange regressRelevantSpec)

/-- ITS FALSE NEIGHBOUR: 'it returns false'. Refute it at one input. -/
def regressRelevantWrong : ChangeSpec := { name := "regressRelevant", fn := fun _ => fun
  | [d1, d2] => { results := [.lit (.bool false)], args := [d1, d2] }
  | _ => none }
def RegressRelevantWrongFalsely : Prop := regressRelevantRow.holds Try.pinned (OpenSpec.ofChange regressRelevantWrong)

/-- 'stratagemlaw26.RegressErrors': WHATEVER THE INPUT: true; the input reads as it did. -/
def regressErrorsSpec : ChangeSpec := { name := "regressErrors", fn := fun _ => fun
  | [d1, d2, d3] => { results := [.lit (.bool true)], args := [d1, d2, d3] }
  | _ => none }
def regressErrorsRow : OpenClaim := { program := "yteapjpgabdegnaa", sum := "ada5b4a12cef5b8be4813a24a8dae08d287ae9cd6e4a44a219844f2ebc85e623", func := "stratagem/stratagemlaw26.RegressErrors", spec := "regressErrors", inPlace := ["slices.overlaps[[]stratagem/api.Fact]"], unfollowed := true, recurses := true, apart := false }
def RegressErrorsSaid : Prop := regressErrorsRow.holds Try.pinned (OpenSpec.ofChange regressErrorsSpec)

/-- ITS FALSE NEIGHBOUR: 'it returns false'. Refute it at one input. -/
def regressErrorsWrong : ChangeSpec := { name := "regressErrors", fn := fun _ => fun
  | [d1, d2, d3] => { results := [.lit (.bool false)], args := [d1, d2, d3] }
  | _ => none }
def RegressErrorsWrongFalsely : Prop := regressErrorsRow.holds Try.pinned (OpenSpec.ofChange regressErrorsWrong)

/- THE SECOND FORM. 'bulk': how many values and letters a reading holds, each counted each time it is reached (what is shared counts as often as it is met; a slice's spare places count too). A statement '..UptoSaid' is the law's where the arguments, and the package variables that the reading takes, are together of bulk at most 1048576: NARROWER than '..Said'. Prove '..Said' where nothing that the law and all that it calls make is longer than what came in: it says more and counts as full. Else prove '..UptoSaid'. A law counts once. -/
mutual
def uptoBulk {H : Type} : DataW H → Nat
  | .lit (.string bytes) => bytes.length + 1
  | .lit _ => 1
  | .nil => 1
  | .ptr d => uptoBulk d + 1
  | .slice elems spare => uptoBulkAll elems + uptoBulkAll spare + 1
  | .agg parts => uptoBulkAll parts + 1
  | .iface _ d => uptoBulk d + 1
  | .map entries => uptoBulkEntries entries + 1
  | .held _ => 1
def uptoBulkAll {H : Type} : List (DataW H) → Nat
  | [] => 0
  | d :: r => uptoBulk d + uptoBulkAll r
def uptoBulkEntries {H : Type} : List (Lit × DataW H) → Nat
  | [] => 0
  | x :: r => uptoBulkEntry x + uptoBulkEntries r
def uptoBulkEntry {H : Type} : Lit × DataW H → Nat
  | (.string bytes, d) => bytes.length + uptoBulk d + 1
  | (_, d) => uptoBulk d + 1
 end
def uptoSmall : (H : Type) → List (DataW H) → Bool := fun _ ds => decide (uptoBulkAll ds ≤ 1048576)
def OpenSpec.upto (s : _root_.Go.ChangeSpec) : _root_.Go.OpenSpec := { _root_.Go.OpenSpec.ofChange s with cond := some uptoSmall }

/-- 'stratagemlaw26.RegressPlain', WHERE WHAT IT READS IS OF BULK AT MOST 1048576: true; the input reads as it did. -/
def regressPlainUptoRow : OpenClaim := { program := "yteapjpgabdegnaa", sum := "ada5b4a12cef5b8be4813a24a8dae08d287ae9cd6e4a44a219844f2ebc85e623", func := "stratagem/stratagemlaw26.RegressPlain", spec := "regressPlain", inPlace := ["slices.overlaps[[]stratagem/api.Fact]"], unfollowed := true, recurses := true, apart := false, narrowed := true }
def RegressPlainUptoSaid : Prop := regressPlainUptoRow.holds Try.pinned (OpenSpec.upto regressPlainSpec)

/-- 'stratagemlaw26.RegressForms', WHERE WHAT IT READS IS OF BULK AT MOST 1048576: true; the input reads as it did. -/
def regressFormsUptoRow : OpenClaim := { program := "yteapjpgabdegnaa", sum := "ada5b4a12cef5b8be4813a24a8dae08d287ae9cd6e4a44a219844f2ebc85e623", func := "stratagem/stratagemlaw26.RegressForms", spec := "regressForms", inPlace := ["slices.overlaps[[]stratagem/api.Fact]"], unfollowed := true, recurses := true, apart := false, narrowed := true }
def RegressFormsUptoSaid : Prop := regressFormsUptoRow.holds Try.pinned (OpenSpec.upto regressFormsSpec)

/-- 'stratagemlaw26.RegressGrows', WHERE WHAT IT READS IS OF BULK AT MOST 1048576: true; the input reads as it did. -/
def regressGrowsUptoRow : OpenClaim := { program := "yteapjpgabdegnaa", sum := "ada5b4a12cef5b8be4813a24a8dae08d287ae9cd6e4a44a219844f2ebc85e623", func := "stratagem/stratagemlaw26.RegressGrows", spec := "regressGrows", inPlace := ["slices.overlaps[[]stratagem/api.Fact]"], unfollowed := true, recurses := true, apart := false, narrowed := true }
def RegressGrowsUptoSaid : Prop := regressGrowsUptoRow.holds Try.pinned (OpenSpec.upto regressGrowsSpec)

/-- 'stratagemlaw26.RegressLarge', WHERE WHAT IT READS IS OF BULK AT MOST 1048576: true; the input reads as it did. -/
def regressLargeUptoRow : OpenClaim := { program := "yteapjpgabdegnaa", sum := "ada5b4a12cef5b8be4813a24a8dae08d287ae9cd6e4a44a219844f2ebc85e623", func := "stratagem/stratagemlaw26.RegressLarge", spec := "regressLarge", inPlace := ["slices.overlaps[[]stratagem/api.Fact]"], unfollowed := true, recurses := true, apart := false, narrowed := true }
def RegressLargeUptoSaid : Prop := regressLargeUptoRow.holds Try.pinned (OpenSpec.upto regressLargeSpec)

/-- 'stratagemlaw26.RegressCases', WHERE WHAT IT READS IS OF BULK AT MOST 1048576: true; the input reads as it did. -/
def regressCasesUptoRow : OpenClaim := { program := "yteapjpgabdegnaa", sum := "ada5b4a12cef5b8be4813a24a8dae08d287ae9cd6e4a44a219844f2ebc85e623", func := "stratagem/stratagemlaw26.RegressCases", spec := "regressCases", inPlace := ["slices.overlaps[[]stratagem/api.Fact]"], unfollowed := true, recurses := true, apart := false, narrowed := true }
def RegressCasesUptoSaid : Prop := regressCasesUptoRow.holds Try.pinned (OpenSpec.upto regressCasesSpec)

/-- 'stratagemlaw26.RegressExact', WHERE WHAT IT READS IS OF BULK AT MOST 1048576: true; the input reads as it did. -/
def regressExactUptoRow : OpenClaim := { program := "yteapjpgabdegnaa", sum := "ada5b4a12cef5b8be4813a24a8dae08d287ae9cd6e4a44a219844f2ebc85e623", func := "stratagem/stratagemlaw26.RegressExact", spec := "regressExact", inPlace := ["slices.overlaps[[]stratagem/api.Fact]"], unfollowed := true, recurses := true, apart := false, narrowed := true }
def RegressExactUptoSaid : Prop := regressExactUptoRow.holds Try.pinned (OpenSpec.upto regressExactSpec)

/-- 'stratagemlaw26.RegressRelevant', WHERE WHAT IT READS IS OF BULK AT MOST 1048576: true; the input reads as it did. -/
def regressRelevantUptoRow : OpenClaim := { program := "yteapjpgabdegnaa", sum := "ada5b4a12cef5b8be4813a24a8dae08d287ae9cd6e4a44a219844f2ebc85e623", func := "stratagem/stratagemlaw26.RegressRelevant", spec := "regressRelevant", inPlace := ["slices.overlaps[[]stratagem/api.Fact]"], unfollowed := true, recurses := true, apart := false, narrowed := true }
def RegressRelevantUptoSaid : Prop := regressRelevantUptoRow.holds Try.pinned (OpenSpec.upto regressRelevantSpec)

/-- 'stratagemlaw26.RegressErrors', WHERE WHAT IT READS IS OF BULK AT MOST 1048576: true; the input reads as it did. -/
def regressErrorsUptoRow : OpenClaim := { program := "yteapjpgabdegnaa", sum := "ada5b4a12cef5b8be4813a24a8dae08d287ae9cd6e4a44a219844f2ebc85e623", func := "stratagem/stratagemlaw26.RegressErrors", spec := "regressErrors", inPlace := ["slices.overlaps[[]stratagem/api.Fact]"], unfollowed := true, recurses := true, apart := false, narrowed := true }
def RegressErrorsUptoSaid : Prop := regressErrorsUptoRow.holds Try.pinned (OpenSpec.upto regressErrorsSpec)

end Rows
end Go.Proofs.Yteapjpgabdegnaa
