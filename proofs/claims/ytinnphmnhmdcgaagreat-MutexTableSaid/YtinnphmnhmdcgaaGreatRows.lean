/-
  No cell of these rows narrows 'for every input' (looked for: loops, veiled, ifaces, maps, wideKeys, modest, calm, conditions, laid).
  DERIVED. THE GIVEN ROWS OF THIS SEAT. 7 by the template 'for every input the law returns true; each argument reads behind the call as it read before'; 0 by the template 'total and deterministic' (their statements: YtinnphmnhmdcgaaGreatTotals.lean).
  GIVEN WITH THE SEED: the statements are not yours to turn. If you find one false, say at which input.
  Laid BY PROGRAM, IN A SANDBOX (cutbox-rows.mjs): the forced cells as the released guide's own fill.sh prints them over the translation 68847848c8925a0d… (all of the seat's roots in one cut). By AI agents, Wed Nov 11 2026. No macro, syntax, notation, axiom, sorry.
-/
import Derived.Test.YtinnphmnhmdcgaaGreatChecked
import GoSem.Claim
import GoSem.ClaimJoined
import GoSem.ClaimMapViews
import Derived.JoinedTies
import Derived.KernelRfl
namespace Go.Proofs.YtinnphmnhmdcgaaGreat
/- THE CELL 'sum', in the pinned program and in every row, IS THE sha256 OF THE DUMP (.gsa) THAT YtinnphmnhmdcgaaGreatProg.lean LOADS. Nothing in Lean hashes anything: it is a label: what it is worth is what the hold of that sum in a sandbox is worth. -/
noncomputable def Tryz.pinned : Pinned := { name := "ytinnphmnhmdcgaagreat", sum := "68847848c8925a0d79b586a4a948bdf6066808df3620825943d43f614c001f3c", checked := Tryz.checked }
namespace Rows
def none {H : Type} : Left H := { results := [], args := [] }

/-- 'stratagemlaw33.MutexTable': WHATEVER THE INPUT: true; the input reads as it did. -/
def mutexTableSpec : ChangeSpec := { name := "mutexTable", fn := fun _ => fun
  | [d] => { results := [.lit (.bool true)], args := [d] }
  | _ => none }
def mutexTableRow : OpenClaim := { program := "ytinnphmnhmdcgaagreat", sum := "68847848c8925a0d79b586a4a948bdf6066808df3620825943d43f614c001f3c", func := "stratagem/stratagemlaw33.MutexTable", spec := "mutexTable", inPlace := ["slices.overlaps[[]stratagem/api.Fact]"], unfollowed := true, recurses := true, plainKeys := false, apart := false }
def MutexTableSaid : Prop := mutexTableRow.holds Tryz.pinned (OpenSpec.ofChange mutexTableSpec)

/-- ITS FALSE NEIGHBOUR: 'it returns false'. Refute it at one input. -/
def mutexTableWrong : ChangeSpec := { name := "mutexTable", fn := fun _ => fun
  | [d] => { results := [.lit (.bool false)], args := [d] }
  | _ => none }
def MutexTableWrongFalsely : Prop := mutexTableRow.holds Tryz.pinned (OpenSpec.ofChange mutexTableWrong)

/-- 'stratagemlaw33.MutexNogoods': WHATEVER THE INPUT: true; the input reads as it did. -/
def mutexNogoodsSpec : ChangeSpec := { name := "mutexNogoods", fn := fun _ => fun
  | [d] => { results := [.lit (.bool true)], args := [d] }
  | _ => none }
def mutexNogoodsRow : OpenClaim := { program := "ytinnphmnhmdcgaagreat", sum := "68847848c8925a0d79b586a4a948bdf6066808df3620825943d43f614c001f3c", func := "stratagem/stratagemlaw33.MutexNogoods", spec := "mutexNogoods", inPlace := ["slices.overlaps[[]stratagem/api.Fact]"], unfollowed := true, recurses := true, plainKeys := false, apart := false }
def MutexNogoodsSaid : Prop := mutexNogoodsRow.holds Tryz.pinned (OpenSpec.ofChange mutexNogoodsSpec)

/-- ITS FALSE NEIGHBOUR: 'it returns false'. Refute it at one input. -/
def mutexNogoodsWrong : ChangeSpec := { name := "mutexNogoods", fn := fun _ => fun
  | [d] => { results := [.lit (.bool false)], args := [d] }
  | _ => none }
def MutexNogoodsWrongFalsely : Prop := mutexNogoodsRow.holds Tryz.pinned (OpenSpec.ofChange mutexNogoodsWrong)

/-- 'stratagemlaw33.MutexReachable': WHATEVER THE INPUT: true; the input reads as it did. -/
def mutexReachableSpec : ChangeSpec := { name := "mutexReachable", fn := fun _ => fun
  | [d] => { results := [.lit (.bool true)], args := [d] }
  | _ => none }
def mutexReachableRow : OpenClaim := { program := "ytinnphmnhmdcgaagreat", sum := "68847848c8925a0d79b586a4a948bdf6066808df3620825943d43f614c001f3c", func := "stratagem/stratagemlaw33.MutexReachable", spec := "mutexReachable", inPlace := ["slices.overlaps[[]stratagem/api.Fact]"], unfollowed := true, recurses := true, plainKeys := false, apart := false }
def MutexReachableSaid : Prop := mutexReachableRow.holds Tryz.pinned (OpenSpec.ofChange mutexReachableSpec)

/-- ITS FALSE NEIGHBOUR: 'it returns false'. Refute it at one input. -/
def mutexReachableWrong : ChangeSpec := { name := "mutexReachable", fn := fun _ => fun
  | [d] => { results := [.lit (.bool false)], args := [d] }
  | _ => none }
def MutexReachableWrongFalsely : Prop := mutexReachableRow.holds Tryz.pinned (OpenSpec.ofChange mutexReachableWrong)

/-- 'stratagemlaw33.MutexPrunes': WHATEVER THE INPUT: true; the input reads as it did. -/
def mutexPrunesSpec : ChangeSpec := { name := "mutexPrunes", fn := fun _ => fun
  | [d] => { results := [.lit (.bool true)], args := [d] }
  | _ => none }
def mutexPrunesRow : OpenClaim := { program := "ytinnphmnhmdcgaagreat", sum := "68847848c8925a0d79b586a4a948bdf6066808df3620825943d43f614c001f3c", func := "stratagem/stratagemlaw33.MutexPrunes", spec := "mutexPrunes", inPlace := ["slices.overlaps[[]stratagem/api.Fact]"], unfollowed := true, recurses := true, plainKeys := false, apart := false }
def MutexPrunesSaid : Prop := mutexPrunesRow.holds Tryz.pinned (OpenSpec.ofChange mutexPrunesSpec)

/-- ITS FALSE NEIGHBOUR: 'it returns false'. Refute it at one input. -/
def mutexPrunesWrong : ChangeSpec := { name := "mutexPrunes", fn := fun _ => fun
  | [d] => { results := [.lit (.bool false)], args := [d] }
  | _ => none }
def MutexPrunesWrongFalsely : Prop := mutexPrunesRow.holds Tryz.pinned (OpenSpec.ofChange mutexPrunesWrong)

/-- 'stratagemlaw33.MutexErrors': WHATEVER THE INPUT: true; the input reads as it did. -/
def mutexErrorsSpec : ChangeSpec := { name := "mutexErrors", fn := fun _ => fun
  | [d1, d2, d3] => { results := [.lit (.bool true)], args := [d1, d2, d3] }
  | _ => none }
def mutexErrorsRow : OpenClaim := { program := "ytinnphmnhmdcgaagreat", sum := "68847848c8925a0d79b586a4a948bdf6066808df3620825943d43f614c001f3c", func := "stratagem/stratagemlaw33.MutexErrors", spec := "mutexErrors", inPlace := ["slices.overlaps[[]stratagem/api.Fact]"], unfollowed := true, recurses := true, plainKeys := false, apart := false }
def MutexErrorsSaid : Prop := mutexErrorsRow.holds Tryz.pinned (OpenSpec.ofChange mutexErrorsSpec)

/-- ITS FALSE NEIGHBOUR: 'it returns false'. Refute it at one input. -/
def mutexErrorsWrong : ChangeSpec := { name := "mutexErrors", fn := fun _ => fun
  | [d1, d2, d3] => { results := [.lit (.bool false)], args := [d1, d2, d3] }
  | _ => none }
def MutexErrorsWrongFalsely : Prop := mutexErrorsRow.holds Tryz.pinned (OpenSpec.ofChange mutexErrorsWrong)

/-- 'stratagemlaw33.MutexInductive': WHATEVER THE INPUT: true; the input reads as it did. -/
def mutexInductiveSpec : ChangeSpec := { name := "mutexInductive", fn := fun _ => fun
  | [d] => { results := [.lit (.bool true)], args := [d] }
  | _ => none }
def mutexInductiveRow : OpenClaim := { program := "ytinnphmnhmdcgaagreat", sum := "68847848c8925a0d79b586a4a948bdf6066808df3620825943d43f614c001f3c", func := "stratagem/stratagemlaw33.MutexInductive", spec := "mutexInductive", inPlace := ["slices.overlaps[[]stratagem/api.Fact]"], unfollowed := true, recurses := true, plainKeys := false, apart := false }
def MutexInductiveSaid : Prop := mutexInductiveRow.holds Tryz.pinned (OpenSpec.ofChange mutexInductiveSpec)

/-- ITS FALSE NEIGHBOUR: 'it returns false'. Refute it at one input. -/
def mutexInductiveWrong : ChangeSpec := { name := "mutexInductive", fn := fun _ => fun
  | [d] => { results := [.lit (.bool false)], args := [d] }
  | _ => none }
def MutexInductiveWrongFalsely : Prop := mutexInductiveRow.holds Tryz.pinned (OpenSpec.ofChange mutexInductiveWrong)

/-- 'stratagemlaw33.MutexCertificate': WHATEVER THE INPUT: true; the input reads as it did. -/
def mutexCertificateSpec : ChangeSpec := { name := "mutexCertificate", fn := fun _ => fun
  | [d] => { results := [.lit (.bool true)], args := [d] }
  | _ => none }
def mutexCertificateRow : OpenClaim := { program := "ytinnphmnhmdcgaagreat", sum := "68847848c8925a0d79b586a4a948bdf6066808df3620825943d43f614c001f3c", func := "stratagem/stratagemlaw33.MutexCertificate", spec := "mutexCertificate", inPlace := ["slices.overlaps[[]stratagem/api.Fact]", "slices.overlaps[stratagem/api.Fact]"], unfollowed := true, recurses := true, plainKeys := false, apart := false }
def MutexCertificateSaid : Prop := mutexCertificateRow.holds Tryz.pinned (OpenSpec.ofChange mutexCertificateSpec)

/-- ITS FALSE NEIGHBOUR: 'it returns false'. Refute it at one input. -/
def mutexCertificateWrong : ChangeSpec := { name := "mutexCertificate", fn := fun _ => fun
  | [d] => { results := [.lit (.bool false)], args := [d] }
  | _ => none }
def MutexCertificateWrongFalsely : Prop := mutexCertificateRow.holds Tryz.pinned (OpenSpec.ofChange mutexCertificateWrong)

/- THE SECOND FORM. 'bulk': how many values and letters a reading holds, each counted each time it is reached (what is shared counts as often as it is met; a slice's spare places count too). A statement '..UptoSaid' is the law's where the arguments, and the package variables that the reading takes, are together of bulk at most 1048576: NARROWER than '..Said'. Prove '..Said' where nothing that the law and all that it calls make is longer than what came in: it says more and counts as full. Else prove '..UptoSaid'. A law counts once. -/
mutual
def uptoBulk {H : Type} : DataW H → Nat
  | .lit (.string bytes) => bytes.length + 1
  | .lit _ => 1
  | .nil => 1
  | .ptr d => uptoBulk d + 1
  | .slice elems spare => uptoBulkAll elems + uptoBulkAll spare + 1
  | .agg parts => uptoBulkAll parts + 1
  | .iface _ d => uptoBulk d + 1
  | .map entries => uptoBulkEntries entries + 1
  | .held _ => 1
def uptoBulkAll {H : Type} : List (DataW H) → Nat
  | [] => 0
  | d :: r => uptoBulk d + uptoBulkAll r
def uptoBulkEntries {H : Type} : List (Lit × DataW H) → Nat
  | [] => 0
  | x :: r => uptoBulkEntry x + uptoBulkEntries r
def uptoBulkEntry {H : Type} : Lit × DataW H → Nat
  | (.string bytes, d) => bytes.length + uptoBulk d + 1
  | (_, d) => uptoBulk d + 1
 end
def uptoSmall : (H : Type) → List (DataW H) → Bool := fun _ ds => decide (uptoBulkAll ds ≤ 1048576)
def OpenSpec.upto (s : _root_.Go.ChangeSpec) : _root_.Go.OpenSpec := { _root_.Go.OpenSpec.ofChange s with cond := some uptoSmall }

/-- 'stratagemlaw33.MutexTable', WHERE WHAT IT READS IS OF BULK AT MOST 1048576: true; the input reads as it did. -/
def mutexTableUptoRow : OpenClaim := { program := "ytinnphmnhmdcgaagreat", sum := "68847848c8925a0d79b586a4a948bdf6066808df3620825943d43f614c001f3c", func := "stratagem/stratagemlaw33.MutexTable", spec := "mutexTable", inPlace := ["slices.overlaps[[]stratagem/api.Fact]"], unfollowed := true, recurses := true, plainKeys := false, apart := false, narrowed := true }
def MutexTableUptoSaid : Prop := mutexTableUptoRow.holds Tryz.pinned (OpenSpec.upto mutexTableSpec)

/-- 'stratagemlaw33.MutexNogoods', WHERE WHAT IT READS IS OF BULK AT MOST 1048576: true; the input reads as it did. -/
def mutexNogoodsUptoRow : OpenClaim := { program := "ytinnphmnhmdcgaagreat", sum := "68847848c8925a0d79b586a4a948bdf6066808df3620825943d43f614c001f3c", func := "stratagem/stratagemlaw33.MutexNogoods", spec := "mutexNogoods", inPlace := ["slices.overlaps[[]stratagem/api.Fact]"], unfollowed := true, recurses := true, plainKeys := false, apart := false, narrowed := true }
def MutexNogoodsUptoSaid : Prop := mutexNogoodsUptoRow.holds Tryz.pinned (OpenSpec.upto mutexNogoodsSpec)

/-- 'stratagemlaw33.MutexReachable', WHERE WHAT IT READS IS OF BULK AT MOST 1048576: true; the input reads as it did. -/
def mutexReachableUptoRow : OpenClaim := { program := "ytinnphmnhmdcgaagreat", sum := "68847848c8925a0d79b586a4a948bdf6066808df3620825943d43f614c001f3c", func := "stratagem/stratagemlaw33.MutexReachable", spec := "mutexReachable", inPlace := ["slices.overlaps[[]stratagem/api.Fact]"], unfollowed := true, recurses := true, plainKeys := false, apart := false, narrowed := true }
def MutexReachableUptoSaid : Prop := mutexReachableUptoRow.holds Tryz.pinned (OpenSpec.upto mutexReachableSpec)

/-- 'stratagemlaw33.MutexPrunes', WHERE WHAT IT READS IS OF BULK AT MOST 1048576: true; the input reads as it did. -/
def mutexPrunesUptoRow : OpenClaim := { program := "ytinnphmnhmdcgaagreat", sum := "68847848c8925a0d79b586a4a948bdf6066808df3620825943d43f614c001f3c", func := "stratagem/stratagemlaw33.MutexPrunes", spec := "mutexPrunes", inPlace := ["slices.overlaps[[]stratagem/api.Fact]"], unfollowed := true, recurses := true, plainKeys := false, apart := false, narrowed := true }
def MutexPrunesUptoSaid : Prop := mutexPrunesUptoRow.holds Tryz.pinned (OpenSpec.upto mutexPrunesSpec)

/-- 'stratagemlaw33.MutexErrors', WHERE WHAT IT READS IS OF BULK AT MOST 1048576: true; the input reads as it did. -/
def mutexErrorsUptoRow : OpenClaim := { program := "ytinnphmnhmdcgaagreat", sum := "68847848c8925a0d79b586a4a948bdf6066808df3620825943d43f614c001f3c", func := "stratagem/stratagemlaw33.MutexErrors", spec := "mutexErrors", inPlace := ["slices.overlaps[[]stratagem/api.Fact]"], unfollowed := true, recurses := true, plainKeys := false, apart := false, narrowed := true }
def MutexErrorsUptoSaid : Prop := mutexErrorsUptoRow.holds Tryz.pinned (OpenSpec.upto mutexErrorsSpec)

/-- 'stratagemlaw33.MutexInductive', WHERE WHAT IT READS IS OF BULK AT MOST 1048576: true; the input reads as it did. -/
def mutexInductiveUptoRow : OpenClaim := { program := "ytinnphmnhmdcgaagreat", sum := "68847848c8925a0d79b586a4a948bdf6066808df3620825943d43f614c001f3c", func := "stratagem/stratagemlaw33.MutexInductive", spec := "mutexInductive", inPlace := ["slices.overlaps[[]stratagem/api.Fact]"], unfollowed := true, recurses := true, plainKeys := false, apart := false, narrowed := true }
def MutexInductiveUptoSaid : Prop := mutexInductiveUptoRow.holds Tryz.pinned (OpenSpec.upto mutexInductiveSpec)

/-- 'stratagemlaw33.MutexCertificate', WHERE WHAT IT READS IS OF BULK AT MOST 1048576: true; the input reads as it did. -/
def mutexCertificateUptoRow : OpenClaim := { program := "ytinnphmnhmdcgaagreat", sum := "68847848c8925a0d79b586a4a948bdf6066808df3620825943d43f614c001f3c", func := "stratagem/stratagemlaw33.MutexCertificate", spec := "mutexCertificate", inPlace := ["slices.overlaps[[]stratagem/api.Fact]", "slices.overlaps[stratagem/api.Fact]"], unfollowed := true, recurses := true, plainKeys := false, apart := false, narrowed := true }
def MutexCertificateUptoSaid : Prop := mutexCertificateUptoRow.holds Tryz.pinned (OpenSpec.upto mutexCertificateSpec)

end Rows
end Go.Proofs.YtinnphmnhmdcgaaGreat
