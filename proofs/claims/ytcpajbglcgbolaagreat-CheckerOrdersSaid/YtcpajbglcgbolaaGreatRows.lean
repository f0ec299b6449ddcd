/-
  No cell of these rows narrows 'for every input' (looked for: loops, veiled, ifaces, maps, wideKeys, modest, calm, conditions, laid).
  DERIVED. THE GIVEN ROWS OF THIS SEAT. 7 by the template 'for every input the law returns true; each argument reads behind the call as it read before'; 0 by the template 'total and deterministic' (their statements: YtcpajbglcgbolaaGreatTotals.lean).
  GIVEN WITH THE SEED: the statements are not yours to turn. If you find one false, say at which input.
  Laid BY PROGRAM, IN A SANDBOX (cutbox-rows.mjs): the forced cells as the released guide's own fill.sh prints them over the translation 6e6762f15c3ff3bc… (all of the seat's roots in one cut). By AI agents, Wed Nov 11 2026. No macro, syntax, notation, axiom, sorry.
-/
import Derived.Test.YtcpajbglcgbolaaGreatChecked
import GoSem.Claim
import GoSem.ClaimJoined
import GoSem.ClaimMapViews
import Derived.JoinedTies
import Derived.KernelRfl
namespace Go.Proofs.YtcpajbglcgbolaaGreat
/- THE CELL 'sum', in the pinned program and in every row, IS THE sha256 OF THE DUMP (.gsa) THAT YtcpajbglcgbolaaGreatProg.lean LOADS. Nothing in Lean hashes anything: it is a label: what it is worth is what the hold of that sum in a sandbox is worth. -/
noncomputable def Tryz.pinned : Pinned := { name := "ytcpajbglcgbolaagreat", sum := "6e6762f15c3ff3bc883faa6984e12e61e73932b9d100f4d3fc9bc54a0a8962f1", checked := Tryz.checked }
namespace Rows
def none {H : Type} : Left H := { results := [], args := [] }

/-- 'stratagemlaw31.CheckerVerifies': WHATEVER THE INPUT: true; the input reads as it did. -/
def checkerVerifiesSpec : ChangeSpec := { name := "checkerVerifies", fn := fun _ => fun
  | [d1, d2] => { results := [.lit (.bool true)], args := [d1, d2] }
  | _ => none }
def checkerVerifiesRow : OpenClaim := { program := "ytcpajbglcgbolaagreat", sum := "6e6762f15c3ff3bc883faa6984e12e61e73932b9d100f4d3fc9bc54a0a8962f1", func := "stratagem/stratagemlaw31.CheckerVerifies", spec := "checkerVerifies", inPlace := ["slices.overlaps[stratagem/api.Fact]", "slices.overlaps[[]stratagem/api.Fact]"], unfollowed := true, recurses := true, apart := false }
def CheckerVerifiesSaid : Prop := checkerVerifiesRow.holds Tryz.pinned (OpenSpec.ofChange checkerVerifiesSpec)

/-- ITS FALSE NEIGHBOUR: 'it returns false'. Refute it at one input. -/
def checkerVerifiesWrong : ChangeSpec := { name := "checkerVerifies", fn := fun _ => fun
  | [d1, d2] => { results := [.lit (.bool false)], args := [d1, d2] }
  | _ => none }
def CheckerVerifiesWrongFalsely : Prop := checkerVerifiesRow.holds Tryz.pinned (OpenSpec.ofChange checkerVerifiesWrong)

/-- 'stratagemlaw31.CheckerSound': WHATEVER THE INPUT: true; the input reads as it did. -/
def checkerSoundSpec : ChangeSpec := { name := "checkerSound", fn := fun _ => fun
  | [d1, d2, d3] => { results := [.lit (.bool true)], args := [d1, d2, d3] }
  | _ => none }
def checkerSoundRow : OpenClaim := { program := "ytcpajbglcgbolaagreat", sum := "6e6762f15c3ff3bc883faa6984e12e61e73932b9d100f4d3fc9bc54a0a8962f1", func := "stratagem/stratagemlaw31.CheckerSound", spec := "checkerSound", inPlace := ["slices.overlaps[stratagem/api.Fact]", "slices.overlaps[[]stratagem/api.Fact]"], unfollowed := true, recurses := true, apart := false }
def CheckerSoundSaid : Prop := checkerSoundRow.holds Tryz.pinned (OpenSpec.ofChange checkerSoundSpec)

/-- ITS FALSE NEIGHBOUR: 'it returns false'. Refute it at one input. -/
def checkerSoundWrong : ChangeSpec := { name := "checkerSound", fn := fun _ => fun
  | [d1, d2, d3] => { results := [.lit (.bool false)], args := [d1, d2, d3] }
  | _ => none }
def CheckerSoundWrongFalsely : Prop := checkerSoundRow.holds Tryz.pinned (OpenSpec.ofChange checkerSoundWrong)

/-- 'stratagemlaw31.CheckerPerfect': WHATEVER THE INPUT: true; the input reads as it did. -/
def checkerPerfectSpec : ChangeSpec := { name := "checkerPerfect", fn := fun _ => fun
  | [d1, d2] => { results := [.lit (.bool true)], args := [d1, d2] }
  | _ => none }
def checkerPerfectRow : OpenClaim := { program := "ytcpajbglcgbolaagreat", sum := "6e6762f15c3ff3bc883faa6984e12e61e73932b9d100f4d3fc9bc54a0a8962f1", func := "stratagem/stratagemlaw31.CheckerPerfect", spec := "checkerPerfect", inPlace := ["slices.overlaps[stratagem/api.Fact]", "slices.overlaps[[]stratagem/api.Fact]"], unfollowed := true, recurses := true, apart := false }
def CheckerPerfectSaid : Prop := checkerPerfectRow.holds Tryz.pinned (OpenSpec.ofChange checkerPerfectSpec)

/-- ITS FALSE NEIGHBOUR: 'it returns false'. Refute it at one input. -/
def checkerPerfectWrong : ChangeSpec := { name := "checkerPerfect", fn := fun _ => fun
  | [d1, d2] => { results := [.lit (.bool false)], args := [d1, d2] }
  | _ => none }
def CheckerPerfectWrongFalsely : Prop := checkerPerfectRow.holds Tryz.pinned (OpenSpec.ofChange checkerPerfectWrong)

/-- 'stratagemlaw31.CheckerShorter': WHATEVER THE INPUT: true; the input reads as it did. -/
def checkerShorterSpec : ChangeSpec := { name := "checkerShorter", fn := fun _ => fun
  | [d1, d2, d3] => { results := [.lit (.bool true)], args := [d1, d2, d3] }
  | _ => none }
def checkerShorterRow : OpenClaim := { program := "ytcpajbglcgbolaagreat", sum := "6e6762f15c3ff3bc883faa6984e12e61e73932b9d100f4d3fc9bc54a0a8962f1", func := "stratagem/stratagemlaw31.CheckerShorter", spec := "checkerShorter", inPlace := ["slices.overlaps[stratagem/api.Fact]", "slices.overlaps[[]stratagem/api.Fact]"], unfollowed := true, recurses := true, apart := false }
def CheckerShorterSaid : Prop := checkerShorterRow.holds Tryz.pinned (OpenSpec.ofChange checkerShorterSpec)

/-- ITS FALSE NEIGHBOUR: 'it returns false'. Refute it at one input. -/
def checkerShorterWrong : ChangeSpec := { name := "checkerShorter", fn := fun _ => fun
  | [d1, d2, d3] => { results := [.lit (.bool false)], args := [d1, d2, d3] }
  | _ => none }
def CheckerShorterWrongFalsely : Prop := checkerShorterRow.holds Tryz.pinned (OpenSpec.ofChange checkerShorterWrong)

/-- 'stratagemlaw31.CheckerSteps': WHATEVER THE INPUT: true; the input reads as it did. -/
def checkerStepsSpec : ChangeSpec := { name := "checkerSteps", fn := fun _ => fun
  | [d1, d2, d3] => { results := [.lit (.bool true)], args := [d1, d2, d3] }
  | _ => none }
def checkerStepsRow : OpenClaim := { program := "ytcpajbglcgbolaagreat", sum := "6e6762f15c3ff3bc883faa6984e12e61e73932b9d100f4d3fc9bc54a0a8962f1", func := "stratagem/stratagemlaw31.CheckerSteps", spec := "checkerSteps", inPlace := ["slices.overlaps[stratagem/api.Fact]", "slices.overlaps[[]stratagem/api.Fact]"], unfollowed := true, recurses := true, apart := false }
def CheckerStepsSaid : Prop := checkerStepsRow.holds Tryz.pinned (OpenSpec.ofChange checkerStepsSpec)

/-- ITS FALSE NEIGHBOUR: 'it returns false'. Refute it at one input. -/
def checkerStepsWrong : ChangeSpec := { name := "checkerSteps", fn := fun _ => fun
  | [d1, d2, d3] => { results := [.lit (.bool false)], args := [d1, d2, d3] }
  | _ => none }
def CheckerStepsWrongFalsely : Prop := checkerStepsRow.holds Tryz.pinned (OpenSpec.ofChange checkerStepsWrong)

/-- 'stratagemlaw31.CheckerErrors': WHATEVER THE INPUT: true; the input reads as it did. -/
def checkerErrorsSpec : ChangeSpec := { name := "checkerErrors", fn := fun _ => fun
  | [d1, d2] => { results := [.lit (.bool true)], args := [d1, d2] }
  | _ => none }
def checkerErrorsRow : OpenClaim := { program := "ytcpajbglcgbolaagreat", sum := "6e6762f15c3ff3bc883faa6984e12e61e73932b9d100f4d3fc9bc54a0a8962f1", func := "stratagem/stratagemlaw31.CheckerErrors", spec := "checkerErrors", inPlace := ["slices.overlaps[stratagem/api.Fact]", "slices.overlaps[[]stratagem/api.Fact]"], unfollowed := true, recurses := true, apart := false }
def CheckerErrorsSaid : Prop := checkerErrorsRow.holds Tryz.pinned (OpenSpec.ofChange checkerErrorsSpec)

/-- ITS FALSE NEIGHBOUR: 'it returns false'. Refute it at one input. -/
def checkerErrorsWrong : ChangeSpec := { name := "checkerErrors", fn := fun _ => fun
  | [d1, d2] => { results := [.lit (.bool false)], args := [d1, d2] }
  | _ => none }
def CheckerErrorsWrongFalsely : Prop := checkerErrorsRow.holds Tryz.pinned (OpenSpec.ofChange checkerErrorsWrong)

/-- 'stratagemlaw31.CheckerOrders': WHATEVER THE INPUT: true; the input reads as it did. -/
def checkerOrdersSpec : ChangeSpec := { name := "checkerOrders", fn := fun _ => fun
  | [d1, d2] => { results := [.lit (.bool true)], args := [d1, d2] }
  | _ => none }
def checkerOrdersRow : OpenClaim := { program := "ytcpajbglcgbolaagreat", sum := "6e6762f15c3ff3bc883faa6984e12e61e73932b9d100f4d3fc9bc54a0a8962f1", func := "stratagem/stratagemlaw31.CheckerOrders", spec := "checkerOrders", inPlace := ["slices.overlaps[stratagem/api.Fact]", "slices.overlaps[[]stratagem/api.Fact]"], unfollowed := true, recurses := true, apart := false }
def CheckerOrdersSaid : Prop := checkerOrdersRow.holds Tryz.pinned (OpenSpec.ofChange checkerOrdersSpec)

/-- ITS FALSE NEIGHBOUR: 'it returns false'. Refute it at one input. -/
def checkerOrdersWrong : ChangeSpec := { name := "checkerOrders", fn := fun _ => fun
  | [d1, d2] => { results := [.lit (.bool false)], args := [d1, d2] }
  | _ => none }
def CheckerOrdersWrongFalsely : Prop := checkerOrdersRow.holds Tryz.pinned (OpenSpec.ofChange checkerOrdersWrong)

/- THE SECOND FORM. 'bulk': how many values and letters a reading holds, each counted each time it is reached (what is shared counts as often as it is met; a slice's spare places count too). A statement '..UptoSaid' is the law's where the arguments, and the package variables that the reading takes, are together of bulk at most 1048576: NARROWER than '..Said'. Prove '..Said' where nothing that the law and all that it calls make is longer than what came in: it says more and counts as full. Else prove '..UptoSaid'. A law counts once. -/
mutual
def uptoBulk {H : Type} : DataW H → Nat
  | .lit (.string bytes) => bytes.length + 1
  | .lit _ => 1
  | .nil => 1
  | .ptr d => uptoBulk d + 1
  | .slice elems spare => uptoBulkAll elems + uptoBulkAll spare + 1
  | .agg parts => uptoBulkAll parts + 1
  | .iface _ d => uptoBulk d + 1
  | .map entries => uptoBulkEntries entries + 1
  | .held _ => 1
def uptoBulkAll {H : Type} : List (DataW H) → Nat
  | [] => 0
  | d :: r => uptoBulk d + uptoBulkAll r
def uptoBulkEntries {H : Type} : List (Lit × DataW H) → Nat
  | [] => 0
  | x :: r => uptoBulkEntry x + uptoBulkEntries r
def uptoBulkEntry {H : Type} : Lit × DataW H → Nat
  | (.string bytes, d) => bytes.length + uptoBulk d + 1
  | (_, d) => uptoBulk d + 1
 end
def uptoSmall : (H : Type) → List (DataW H) → Bool := fun _ ds => decide (uptoBulkAll ds ≤ 1048576)
def OpenSpec.upto (s : _root_.Go.ChangeSpec) : _root_.Go.OpenSpec := { _root_.Go.OpenSpec.ofChange s with cond := some uptoSmall }

/-- 'stratagemlaw31.CheckerVerifies', WHERE WHAT IT READS IS OF BULK AT MOST 1048576: true; the input reads as it did. -/
def checkerVerifiesUptoRow : OpenClaim := { program := "ytcpajbglcgbolaagreat", sum := "6e6762f15c3ff3bc883faa6984e12e61e73932b9d100f4d3fc9bc54a0a8962f1", func := "stratagem/stratagemlaw31.CheckerVerifies", spec := "checkerVerifies", inPlace := ["slices.overlaps[stratagem/api.Fact]", "slices.overlaps[[]stratagem/api.Fact]"], unfollowed := true, recurses := true, apart := false, narrowed := true }
def CheckerVerifiesUptoSaid : Prop := checkerVerifiesUptoRow.holds Tryz.pinned (OpenSpec.upto checkerVerifiesSpec)

/-- 'stratagemlaw31.CheckerSound', WHERE WHAT IT READS IS OF BULK AT MOST 1048576: true; the input reads as it did. -/
def checkerSoundUptoRow : OpenClaim := { program := "ytcpajbglcgbolaagreat", sum := "6e6762f15c3ff3bc883faa6984e12e61e73932b9d100f4d3fc9bc54a0a8962f1", func := "stratagem/stratagemlaw31.CheckerSound", spec := "checkerSound", inPlace := ["slices.overlaps[stratagem/api.Fact]", "slices.overlaps[[]stratagem/api.Fact]"], unfollowed := true, recurses := true, apart := false, narrowed := true }
def CheckerSoundUptoSaid : Prop := checkerSoundUptoRow.holds Tryz.pinned (OpenSpec.upto checkerSoundSpec)

/-- 'stratagemlaw31.CheckerPerfect', WHERE WHAT IT READS IS OF BULK AT MOST 1048576: true; the input reads as it did. -/
def checkerPerfectUptoRow : OpenClaim := { program := "ytcpajbglcgbolaagreat", sum := "6e6762f15c3ff3bc883faa6984e12e61e73932b9d100f4d3fc9bc54a0a8962f1", func := "stratagem/stratagemlaw31.CheckerPerfect", spec := "checkerPerfect", inPlace := ["slices.overlaps[stratagem/api.Fact]", "slices.overlaps[[]stratagem/api.Fact]"], unfollowed := true, recurses := true, apart := false, narrowed := true }
def CheckerPerfectUptoSaid : Prop := checkerPerfectUptoRow.holds Tryz.pinned (OpenSpec.upto checkerPerfectSpec)

/-- 'stratagemlaw31.CheckerShorter', WHERE WHAT IT READS IS OF BULK AT MOST 1048576: true; the input reads as it did. -/
def checkerShorterUptoRow : OpenClaim := { program := "ytcpajbglcgbolaagreat", sum := "6e6762f15c3ff3bc883faa6984e12e61e73932b9d100f4d3fc9bc54a0a8962f1", func := "stratagem/stratagemlaw31.CheckerShorter", spec := "checkerShorter", inPlace := ["slices.overlaps[stratagem/api.Fact]", "slices.overlaps[[]stratagem/api.Fact]"], unfollowed := true, recurses := true, apart := false, narrowed := true }
def CheckerShorterUptoSaid : Prop := checkerShorterUptoRow.holds Tryz.pinned (OpenSpec.upto checkerShorterSpec)

/-- 'stratagemlaw31.CheckerSteps', WHERE WHAT IT READS IS OF BULK AT MOST 1048576: true; the input reads as it did. -/
def checkerStepsUptoRow : OpenClaim := { program := "ytcpajbglcgbolaagreat", sum := "6e6762f15c3ff3bc883faa6984e12e61e73932b9d100f4d3fc9bc54a0a8962f1", func := "stratagem/stratagemlaw31.CheckerSteps", spec := "checkerSteps", inPlace := ["slices.overlaps[stratagem/api.Fact]", "slices.overlaps[[]stratagem/api.Fact]"], unfollowed := true, recurses := true, apart := false, narrowed := true }
def CheckerStepsUptoSaid : Prop := checkerStepsUptoRow.holds Tryz.pinned (OpenSpec.upto checkerStepsSpec)

/-- 'stratagemlaw31.CheckerErrors', WHERE WHAT IT READS IS OF BULK AT MOST 1048576: true; the input reads as it did. -/
def checkerErrorsUptoRow : OpenClaim := { program := "ytcpajbglcgbolaagreat", sum := "6e6762f15c3ff3bc883faa6984e12e61e73932b9d100f4d3fc9bc54a0a8962f1", func := "stratagem/stratagemlaw31.CheckerErrors", spec := "checkerErrors", inPlace := ["slices.overlaps[stratagem/api.Fact]", "slices.overlaps[[]stratagem/api.Fact]"], unfollowed := true, recurses := true, apart := false, narrowed := true }
def CheckerErrorsUptoSaid : Prop := checkerErrorsUptoRow.holds Tryz.pinned (OpenSpec.upto checkerErrorsSpec)

/-- 'stratagemlaw31.CheckerOrders', WHERE WHAT IT READS IS OF BULK AT MOST 1048576: true; the input reads as it did. -/
def checkerOrdersUptoRow : OpenClaim := { program := "ytcpajbglcgbolaagreat", sum := "6e6762f15c3ff3bc883faa6984e12e61e73932b9d100f4d3fc9bc54a0a8962f1", func := "stratagem/stratagemlaw31.CheckerOrders", spec := "checkerOrders", inPlace := ["slices.overlaps[stratagem/api.Fact]", "slices.overlaps[[]stratagem/api.Fact]"], unfollowed := true, recurses := true, apart := false, narrowed := true }
def CheckerOrdersUptoSaid : Prop := checkerOrdersUptoRow.holds Tryz.pinned (OpenSpec.upto checkerOrdersSpec)

end Rows
end Go.Proofs.YtcpajbglcgbolaaGreat
