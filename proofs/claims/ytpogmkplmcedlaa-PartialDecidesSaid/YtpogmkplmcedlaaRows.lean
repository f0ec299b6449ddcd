/-
  No cell of these rows narrows 'for every input' (looked for: loops, veiled, ifaces, maps, wideKeys, modest, calm, conditions, laid).
  DERIVED. THE GIVEN ROWS OF THIS SEAT. 6 by the template 'for every input the law returns true; each argument reads behind the call as it read before'; 0 by the template 'total and deterministic' (their statements: YtpogmkplmcedlaaTotals.lean).
  GIVEN WITH THE SEED: the statements are not yours to turn. If you find one false, say at which input.
  Laid BY PROGRAM, IN A SANDBOX (cutbox-rows.mjs): the forced cells as the released guide's own fill.sh prints them over the translation cd79475b3fd7089b… (all of the seat's roots in one cut). By AI agents, Wed Nov 11 2026. No macro, syntax, notation, axiom, sorry.
-/
import Derived.Test.YtpogmkplmcedlaaChecked
import GoSem.Claim
import GoSem.ClaimJoined
import GoSem.ClaimMapViews
import Derived.JoinedTies
import Derived.KernelRfl
namespace Go.Proofs.Ytpogmkplmcedlaa
/- THE CELL 'sum', in the pinned program and in every row, IS THE sha256 OF THE DUMP (.gsa) THAT YtpogmkplmcedlaaProg.lean LOADS. Nothing in Lean hashes anything: it is a label: what it is worth is what the hold of that sum in a sandbox is worth. -/
noncomputable def Try.pinned : Pinned := { name := "ytpogmkplmcedlaa", sum := "cd79475b3fd7089b119cb203765243cfd6c28e6bfb2df8a8ffd46057ef5113a5", checked := Try.checked }
namespace Rows
def none {H : Type} : Left H := { results := [], args := [] }

/-- 'stratagemlaw06.PartialMakes': WHATEVER THE INPUT: true; the input reads as it did. -/
def partialMakesSpec : ChangeSpec := { name := "partialMakes", fn := fun _ => fun
  | [d] => { results := [.lit (.bool true)], args := [d] }
  | _ => none }
def partialMakesRow : OpenClaim := { program := "ytpogmkplmcedlaa", sum := "cd79475b3fd7089b119cb203765243cfd6c28e6bfb2df8a8ffd46057ef5113a5", func := "stratagem/stratagemlaw06.PartialMakes", spec := "partialMakes", unfollowed := true, recurses := true, apart := false }
def PartialMakesSaid : Prop := partialMakesRow.holds Try.pinned (OpenSpec.ofChange partialMakesSpec)

/-- ITS FALSE NEIGHBOUR: 'it returns false'. Refute it at one input. -/
def partialMakesWrong : ChangeSpec := { name := "partialMakes", fn := fun _ => fun
  | [d] => { results := [.lit (.bool false)], args := [d] }
  | _ => none }
def PartialMakesWrongFalsely : Prop := partialMakesRow.holds Try.pinned (OpenSpec.ofChange partialMakesWrong)

/-- 'stratagemlaw06.PartialJoins': WHATEVER THE INPUT: true; the input reads as it did. -/
def partialJoinsSpec : ChangeSpec := { name := "partialJoins", fn := fun _ => fun
  | [d1, d2] => { results := [.lit (.bool true)], args := [d1, d2] }
  | _ => none }
def partialJoinsRow : OpenClaim := { program := "ytpogmkplmcedlaa", sum := "cd79475b3fd7089b119cb203765243cfd6c28e6bfb2df8a8ffd46057ef5113a5", func := "stratagem/stratagemlaw06.PartialJoins", spec := "partialJoins", unfollowed := true, recurses := true, apart := false }
def PartialJoinsSaid : Prop := partialJoinsRow.holds Try.pinned (OpenSpec.ofChange partialJoinsSpec)

/-- ITS FALSE NEIGHBOUR: 'it returns false'. Refute it at one input. -/
def partialJoinsWrong : ChangeSpec := { name := "partialJoins", fn := fun _ => fun
  | [d1, d2] => { results := [.lit (.bool false)], args := [d1, d2] }
  | _ => none }
def PartialJoinsWrongFalsely : Prop := partialJoinsRow.holds Try.pinned (OpenSpec.ofChange partialJoinsWrong)

/-- 'stratagemlaw06.PartialMinimal': WHATEVER THE INPUT: true; the input reads as it did. -/
def partialMinimalSpec : ChangeSpec := { name := "partialMinimal", fn := fun _ => fun
  | [d] => { results := [.lit (.bool true)], args := [d] }
  | _ => none }
def partialMinimalRow : OpenClaim := { program := "ytpogmkplmcedlaa", sum := "cd79475b3fd7089b119cb203765243cfd6c28e6bfb2df8a8ffd46057ef5113a5", func := "stratagem/stratagemlaw06.PartialMinimal", spec := "partialMinimal", unfollowed := true, recurses := true, apart := false }
def PartialMinimalSaid : Prop := partialMinimalRow.holds Try.pinned (OpenSpec.ofChange partialMinimalSpec)

/-- ITS FALSE NEIGHBOUR: 'it returns false'. Refute it at one input. -/
def partialMinimalWrong : ChangeSpec := { name := "partialMinimal", fn := fun _ => fun
  | [d] => { results := [.lit (.bool false)], args := [d] }
  | _ => none }
def PartialMinimalWrongFalsely : Prop := partialMinimalRow.holds Try.pinned (OpenSpec.ofChange partialMinimalWrong)

/-- 'stratagemlaw06.PartialSplits': WHATEVER THE INPUT: true; the input reads as it did. -/
def partialSplitsSpec : ChangeSpec := { name := "partialSplits", fn := fun _ => fun
  | [d1, d2, d3] => { results := [.lit (.bool true)], args := [d1, d2, d3] }
  | _ => none }
def partialSplitsRow : OpenClaim := { program := "ytpogmkplmcedlaa", sum := "cd79475b3fd7089b119cb203765243cfd6c28e6bfb2df8a8ffd46057ef5113a5", func := "stratagem/stratagemlaw06.PartialSplits", spec := "partialSplits", inPlace := ["slices.overlaps[stratagem/api.Fact]"], unfollowed := true, recurses := true, apart := false }
def PartialSplitsSaid : Prop := partialSplitsRow.holds Try.pinned (OpenSpec.ofChange partialSplitsSpec)

/-- ITS FALSE NEIGHBOUR: 'it returns false'. Refute it at one input. -/
def partialSplitsWrong : ChangeSpec := { name := "partialSplits", fn := fun _ => fun
  | [d1, d2, d3] => { results := [.lit (.bool false)], args := [d1, d2, d3] }
  | _ => none }
def PartialSplitsWrongFalsely : Prop := partialSplitsRow.holds Try.pinned (OpenSpec.ofChange partialSplitsWrong)

/-- 'stratagemlaw06.PartialCounts': WHATEVER THE INPUT: true; the input reads as it did. -/
def partialCountsSpec : ChangeSpec := { name := "partialCounts", fn := fun _ => fun
  | [d1, d2, d3] => { results := [.lit (.bool true)], args := [d1, d2, d3] }
  | _ => none }
def partialCountsRow : OpenClaim := { program := "ytpogmkplmcedlaa", sum := "cd79475b3fd7089b119cb203765243cfd6c28e6bfb2df8a8ffd46057ef5113a5", func := "stratagem/stratagemlaw06.PartialCounts", spec := "partialCounts", inPlace := ["slices.overlaps[stratagem/api.Fact]"], unfollowed := true, recurses := true, apart := false }
def PartialCountsSaid : Prop := partialCountsRow.holds Try.pinned (OpenSpec.ofChange partialCountsSpec)

/-- ITS FALSE NEIGHBOUR: 'it returns false'. Refute it at one input. -/
def partialCountsWrong : ChangeSpec := { name := "partialCounts", fn := fun _ => fun
  | [d1, d2, d3] => { results := [.lit (.bool false)], args := [d1, d2, d3] }
  | _ => none }
def PartialCountsWrongFalsely : Prop := partialCountsRow.holds Try.pinned (OpenSpec.ofChange partialCountsWrong)

/-- 'stratagemlaw06.PartialDecides': WHATEVER THE INPUT: true; the input reads as it did. -/
def partialDecidesSpec : ChangeSpec := { name := "partialDecides", fn := fun _ => fun
  | [d] => { results := [.lit (.bool true)], args := [d] }
  | _ => none }
def partialDecidesRow : OpenClaim := { program := "ytpogmkplmcedlaa", sum := "cd79475b3fd7089b119cb203765243cfd6c28e6bfb2df8a8ffd46057ef5113a5", func := "stratagem/stratagemlaw06.PartialDecides", spec := "partialDecides", inPlace := ["slices.overlaps[stratagem/api.Fact]"], unfollowed := true, recurses := true, apart := false }
def PartialDecidesSaid : Prop := partialDecidesRow.holds Try.pinned (OpenSpec.ofChange partialDecidesSpec)

/-- ITS FALSE NEIGHBOUR: 'it returns false'. Refute it at one input. -/
def partialDecidesWrong : ChangeSpec := { name := "partialDecides", fn := fun _ => fun
  | [d] => { results := [.lit (.bool false)], args := [d] }
  | _ => none }
def PartialDecidesWrongFalsely : Prop := partialDecidesRow.holds Try.pinned (OpenSpec.ofChange partialDecidesWrong)

/- THE SECOND FORM. 'bulk': how many values and letters a reading holds, each counted each time it is reached (what is shared counts as often as it is met; a slice's spare places count too). A statement '..UptoSaid' is the law's where the arguments, and the package variables that the reading takes, are together of bulk at most 1048576: NARROWER than '..Said'. Prove '..Said' where nothing that the law and all that it calls make is longer than what came in: it says more and counts as full. Else prove '..UptoSaid'. A law counts once. -/
mutual
def uptoBulk {H : Type} : DataW H → Nat
  | .lit (.string bytes) => bytes.length + 1
  | .lit _ => 1
  | .nil => 1
  | .ptr d => uptoBulk d + 1
  | .slice elems spare => uptoBulkAll elems + uptoBulkAll spare + 1
  | .agg parts => uptoBulkAll parts + 1
  | .iface _ d => uptoBulk d + 1
  | .map entries => uptoBulkEntries entries + 1
  | .held _ => 1
def uptoBulkAll {H : Type} : List (DataW H) → Nat
  | [] => 0
  | d :: r => uptoBulk d + uptoBulkAll r
def uptoBulkEntries {H : Type} : List (Lit × DataW H) → Nat
  | [] => 0
  | x :: r => uptoBulkEntry x + uptoBulkEntries r
def uptoBulkEntry {H : Type} : Lit × DataW H → Nat
  | (.string bytes, d) => bytes.length + uptoBulk d + 1
  | (_, d) => uptoBulk d + 1
 end
def uptoSmall : (H : Type) → List (DataW H) → Bool := fun _ ds => decide (uptoBulkAll ds ≤ 1048576)
def OpenSpec.upto (s : _root_.Go.ChangeSpec) : _root_.Go.OpenSpec := { _root_.Go.OpenSpec.ofChange s with cond := some uptoSmall }

/-- 'stratagemlaw06.PartialMakes', WHERE WHAT IT READS IS OF BULK AT MOST 1048576: true; the input reads as it did. -/
def partialMakesUptoRow : OpenClaim := { program := "ytpogmkplmcedlaa", sum := "cd79475b3fd7089b119cb203765243cfd6c28e6bfb2df8a8ffd46057ef5113a5", func := "stratagem/stratagemlaw06.PartialMakes", spec := "partialMakes", unfollowed := true, recurses := true, apart := false, narrowed := true }
def PartialMakesUptoSaid : Prop := partialMakesUptoRow.holds Try.pinned (OpenSpec.upto partialMakesSpec)

/-- 'stratagemlaw06.PartialJoins', WHERE WHAT IT READS IS OF BULK AT MOST 1048576: true; the input reads as it did. -/
def partialJoinsUptoRow : OpenClaim := { program := "ytpogmkplmcedlaa", sum := "cd79475b3fd7089b119cb203765243cfd6c28e6bfb2df8a8ffd46057ef5113a5", func := "stratagem/stratagemlaw06.PartialJoins", spec := "partialJoins", unfollowed := true, recurses := true, apart := false, narrowed := true }
def PartialJoinsUptoSaid : Prop := partialJoinsUptoRow.holds Try.pinned (OpenSpec.upto partialJoinsSpec)

/-- 'stratagemlaw06.PartialMinimal', WHERE WHAT IT READS IS OF BULK AT MOST 1048576: true; the input reads as it did. -/
def partialMinimalUptoRow : OpenClaim := { program := "ytpogmkplmcedlaa", sum := "cd79475b3fd7089b119cb203765243cfd6c28e6bfb2df8a8ffd46057ef5113a5", func := "stratagem/stratagemlaw06.PartialMinimal", spec := "partialMinimal", unfollowed := true, recurses := true, apart := false, narrowed := true }
def PartialMinimalUptoSaid : Prop := partialMinimalUptoRow.holds Try.pinned (OpenSpec.upto partialMinimalSpec)

/-- 'stratagemlaw06.PartialSplits', WHERE WHAT IT READS IS OF BULK AT MOST 1048576: true; the input reads as it did. -/
def partialSplitsUptoRow : OpenClaim := { program := "ytpogmkplmcedlaa", sum := "cd79475b3fd7089b119cb203765243cfd6c28e6bfb2df8a8ffd46057ef5113a5", func := "stratagem/stratagemlaw06.PartialSplits", spec := "partialSplits", inPlace := ["slices.overlaps[stratagem/api.Fact]"], unfollowed := true, recurses := true, apart := false, narrowed := true }
def PartialSplitsUptoSaid : Prop := partialSplitsUptoRow.holds Try.pinned (OpenSpec.upto partialSplitsSpec)

/-- 'stratagemlaw06.PartialCounts', WHERE WHAT IT READS IS OF BULK AT MOST 1048576: true; the input reads as it did. -/
def partialCountsUptoRow : OpenClaim := { program := "ytpogmkplmcedlaa", sum := "cd79475b3fd7089b119cb203765243cfd6c28e6bfb2df8a8ffd46057ef5113a5", func := "stratagem/stratagemlaw06.PartialCounts", spec := "partialCounts", inPlace := ["slices.overlaps[stratagem/api.Fact]"], unfollowed := true, recurses := true, apart := false, narrowed := true }
def PartialCountsUptoSaid : Prop := partialCountsUptoRow.holds Try.pinned (OpenSpec.upto partialCountsSpec)

/-- 'stratagemlaw06.PartialDecides', WHERE WHAT IT READS IS OF BULK AT MOST 1048576: true; the input reads as it did. -/
def partialDecidesUptoRow : OpenClaim := { program := "ytpogmkplmcedlaa", sum := "cd79475b3fd7089b119cb203765243cfd6c28e6bfb2df8a8ffd46057ef5113a5", func := "stratagem/stratagemlaw06.PartialDecides", spec := "partialDecides", inPlace := ["slices.overlaps[stratagem/api.Fact]"], unfollowed := true, recurses := true, apart := false, narrowed := true }
def PartialDecidesUptoSaid : Prop := partialDecidesUptoRow.holds Try.pinned (OpenSpec.upto partialDecidesSpec)

end Rows
end Go.Proofs.Ytpogmkplmcedlaa
