/-
  NARROWER THAN 'FOR EVERY INPUT', by the rows' own cells (each row's printed sentence says how): CertificateLimits: laid · CertificateFormats: laid · CertificateClaims: laid · CertificateChecks: laid · CertificateSorts: laid · CertificateKeeps: laid · CertificateParses: laid · CertificateReturns: laid.
  DERIVED. THE GIVEN ROWS OF THIS SEAT. 8 by the template 'for every input the law returns true; each argument reads behind the call as it read before'; 0 by the template 'total and deterministic' (their statements: YticdfbhbbapbdaaDoorTotals.lean).
  GIVEN WITH THE SEED: the statements are not yours to turn. If you find one false, say at which input.
  Laid BY PROGRAM, IN A SANDBOX (cutbox-rows.mjs): the forced cells as the released guide's own fill.sh prints them over the translation 798b0ac28caa59cd… (all of the seat's roots in one cut). By AI agents, Wed Nov 11 2026. No macro, syntax, notation, axiom, sorry.
-/
import Derived.Test.YticdfbhbbapbdaaDoorChecked
import GoSem.PinnedTables
import GoSem.Claim
import GoSem.ClaimJoined
import GoSem.ClaimMapViews
import Derived.JoinedTies
import Derived.KernelRfl
namespace Go.Proofs.YticdfbhbbapbdaaDoor
/- THE CELL 'sum', in the pinned program and in every row, IS THE sha256 OF THE DUMP (.gsa) THAT YticdfbhbbapbdaaDoorProg.lean LOADS. Nothing in Lean hashes anything: it is a label: what it is worth is what the hold of that sum in a sandbox is worth. -/
noncomputable def Tryd.pinned : Pinned := { name := "yticdfbhbbapbdaadoor", sum := "798b0ac28caa59cdfbd1ee7835412961af39cc0a4f85e0b452c9be35e8bfa2e6", checked := Tryd.checked }
namespace Rows
def none {H : Type} : Left H := { results := [], args := [] }

/- WHAT THE LISTED PACKAGE-LEVEL VARIABLES READ AS WHEN THE CALL BEGINS. Each datum BY PROGRAM (the guide's laid-datum.mjs) off the statement by which the dump's own 'gosem.cut.vars' lays the variable. In a bare row this is a premise. The card (YticdfbhbbapbdaaDoorCards.lean) ties it to the program's text. -/
def laid_math_bits_deBruijn32tab {H : Type} : DataW H := .agg [.lit (.int .u8 0), .lit (.int .u8 1), .lit (.int .u8 28), .lit (.int .u8 2), .lit (.int .u8 29), .lit (.int .u8 14), .lit (.int .u8 24), .lit (.int .u8 3), .lit (.int .u8 30), .lit (.int .u8 22), .lit (.int .u8 20), .lit (.int .u8 15), .lit (.int .u8 25), .lit (.int .u8 17), .lit (.int .u8 4), .lit (.int .u8 8), .lit (.int .u8 31), .lit (.int .u8 27), .lit (.int .u8 13), .lit (.int .u8 23), .lit (.int .u8 21), .lit (.int .u8 19), .lit (.int .u8 16), .lit (.int .u8 7), .lit (.int .u8 26), .lit (.int .u8 12), .lit (.int .u8 18), .lit (.int .u8 6), .lit (.int .u8 11), .lit (.int .u8 5), .lit (.int .u8 10), .lit (.int .u8 9)]
def laid_math_bits_deBruijn64tab {H : Type} : DataW H := .agg [.lit (.int .u8 0), .lit (.int .u8 1), .lit (.int .u8 56), .lit (.int .u8 2), .lit (.int .u8 57), .lit (.int .u8 49), .lit (.int .u8 28), .lit (.int .u8 3), .lit (.int .u8 61), .lit (.int .u8 58), .lit (.int .u8 42), .lit (.int .u8 50), .lit (.int .u8 38), .lit (.int .u8 29), .lit (.int .u8 17), .lit (.int .u8 4), .lit (.int .u8 62), .lit (.int .u8 47), .lit (.int .u8 59), .lit (.int .u8 36), .lit (.int .u8 45), .lit (.int .u8 43), .lit (.int .u8 51), .lit (.int .u8 22), .lit (.int .u8 53), .lit (.int .u8 39), .lit (.int .u8 33), .lit (.int .u8 30), .lit (.int .u8 24), .lit (.int .u8 18), .lit (.int .u8 12), .lit (.int .u8 5), .lit (.int .u8 63), .lit (.int .u8 55), .lit (.int .u8 48), .lit (.int .u8 27), .lit (.int .u8 60), .lit (.int .u8 41), .lit (.int .u8 37), .lit (.int .u8 16), .lit (.int .u8 46), .lit (.int .u8 35), .lit (.int .u8 44), .lit (.int .u8 21), .lit (.int .u8 52), .lit (.int .u8 32), .lit (.int .u8 23), .lit (.int .u8 11), .lit (.int .u8 54), .lit (.int .u8 26), .lit (.int .u8 40), .lit (.int .u8 15), .lit (.int .u8 34), .lit (.int .u8 20), .lit (.int .u8 31), .lit (.int .u8 10), .lit (.int .u8 25), .lit (.int .u8 14), .lit (.int .u8 19), .lit (.int .u8 9), .lit (.int .u8 13), .lit (.int .u8 8), .lit (.int .u8 7), .lit (.int .u8 6)]
def laid_internal_strconv_uint64pow10 {H : Type} : DataW H := .agg [.lit (.int .u64 1), .lit (.int .u64 10), .lit (.int .u64 100), .lit (.int .u64 1000), .lit (.int .u64 10000), .lit (.int .u64 100000), .lit (.int .u64 1000000), .lit (.int .u64 10000000), .lit (.int .u64 100000000), .lit (.int .u64 1000000000), .lit (.int .u64 10000000000), .lit (.int .u64 100000000000), .lit (.int .u64 1000000000000), .lit (.int .u64 10000000000000), .lit (.int .u64 100000000000000), .lit (.int .u64 1000000000000000), .lit (.int .u64 10000000000000000), .lit (.int .u64 100000000000000000), .lit (.int .u64 1000000000000000000), .lit (.int .u64 10000000000000000000)]
def laid_unicode_utf8_acceptRanges {H : Type} : DataW H := .agg [.agg [.lit (.int .u8 128), .lit (.int .u8 191)], .agg [.lit (.int .u8 160), .lit (.int .u8 191)], .agg [.lit (.int .u8 128), .lit (.int .u8 159)], .agg [.lit (.int .u8 144), .lit (.int .u8 191)], .agg [.lit (.int .u8 128), .lit (.int .u8 143)], .agg [.lit (.int .u8 0), .lit (.int .u8 0)], .agg [.lit (.int .u8 0), .lit (.int .u8 0)], .agg [.lit (.int .u8 0), .lit (.int .u8 0)], .agg [.lit (.int .u8 0), .lit (.int .u8 0)], .agg [.lit (.int .u8 0), .lit (.int .u8 0)], .agg [.lit (.int .u8 0), .lit (.int .u8 0)], .agg [.lit (.int .u8 0), .lit (.int .u8 0)], .agg [.lit (.int .u8 0), .lit (.int .u8 0)], .agg [.lit (.int .u8 0), .lit (.int .u8 0)], .agg [.lit (.int .u8 0), .lit (.int .u8 0)], .agg [.lit (.int .u8 0), .lit (.int .u8 0)]]
/-- One of Go's own tables, pinned by name: the form's constant. -/
def laid_unicode_utf8_first : DataW Unit := Go.Pinned.utf8First

/-- 'stratagemlaw30.CertificateLimits': WHATEVER THE INPUT: true; the input reads as it did. -/
def certificateLimitsSpec : ChangeSpec := { name := "certificateLimits", fn := fun _ => fun
  | [d1, d2] => { results := [.lit (.bool true)], args := [d1, d2] }
  | _ => none }
def certificateLimitsRow : OpenClaim := { program := "yticdfbhbbapbdaadoor", sum := "798b0ac28caa59cdfbd1ee7835412961af39cc0a4f85e0b452c9be35e8bfa2e6", func := "stratagem/stratagemlaw30.CertificateLimits", spec := "certificateLimits", inPlace := ["internal/abi.NoEscape"], named := ["internal/strconv.uint64pow10", "math/bits.deBruijn32tab", "math/bits.deBruijn64tab"], apart := false, laid := [("math/bits.deBruijn32tab", laid_math_bits_deBruijn32tab), ("math/bits.deBruijn64tab", laid_math_bits_deBruijn64tab), ("internal/strconv.uint64pow10", laid_internal_strconv_uint64pow10)] }
def CertificateLimitsSaid : Prop := certificateLimitsRow.holds Tryd.pinned (OpenSpec.ofChange certificateLimitsSpec)

/-- ITS FALSE NEIGHBOUR: 'it returns false'. Refute it at one input. -/
def certificateLimitsWrong : ChangeSpec := { name := "certificateLimits", fn := fun _ => fun
  | [d1, d2] => { results := [.lit (.bool false)], args := [d1, d2] }
  | _ => none }
def CertificateLimitsWrongFalsely : Prop := certificateLimitsRow.holds Tryd.pinned (OpenSpec.ofChange certificateLimitsWrong)

/-- 'stratagemlaw30.CertificateFormats': WHATEVER THE INPUT: true; the input reads as it did. -/
def certificateFormatsSpec : ChangeSpec := { name := "certificateFormats", fn := fun _ => fun
  | [d] => { results := [.lit (.bool true)], args := [d] }
  | _ => none }
def certificateFormatsRow : OpenClaim := { program := "yticdfbhbbapbdaadoor", sum := "798b0ac28caa59cdfbd1ee7835412961af39cc0a4f85e0b452c9be35e8bfa2e6", func := "stratagem/stratagemlaw30.CertificateFormats", spec := "certificateFormats", inPlace := ["internal/abi.NoEscape"], recurses := true, named := ["internal/strconv.uint64pow10", "math/bits.deBruijn32tab", "math/bits.deBruijn64tab"], apart := false, laid := [("math/bits.deBruijn32tab", laid_math_bits_deBruijn32tab), ("math/bits.deBruijn64tab", laid_math_bits_deBruijn64tab), ("internal/strconv.uint64pow10", laid_internal_strconv_uint64pow10)] }
def CertificateFormatsSaid : Prop := certificateFormatsRow.holds Tryd.pinned (OpenSpec.ofChange certificateFormatsSpec)

/-- ITS FALSE NEIGHBOUR: 'it returns false'. Refute it at one input. -/
def certificateFormatsWrong : ChangeSpec := { name := "certificateFormats", fn := fun _ => fun
  | [d] => { results := [.lit (.bool false)], args := [d] }
  | _ => none }
def CertificateFormatsWrongFalsely : Prop := certificateFormatsRow.holds Tryd.pinned (OpenSpec.ofChange certificateFormatsWrong)

/-- 'stratagemlaw30.CertificateClaims': WHATEVER THE INPUT: true; the input reads as it did. -/
def certificateClaimsSpec : ChangeSpec := { name := "certificateClaims", fn := fun _ => fun
  | [d1, d2, d3] => { results := [.lit (.bool true)], args := [d1, d2, d3] }
  | _ => none }
def certificateClaimsRow : OpenClaim := { program := "yticdfbhbbapbdaadoor", sum := "798b0ac28caa59cdfbd1ee7835412961af39cc0a4f85e0b452c9be35e8bfa2e6", func := "stratagem/stratagemlaw30.CertificateClaims", spec := "certificateClaims", inPlace := ["internal/abi.NoEscape"], named := ["internal/strconv.uint64pow10", "math/bits.deBruijn32tab", "math/bits.deBruijn64tab"], apart := false, laid := [("math/bits.deBruijn32tab", laid_math_bits_deBruijn32tab), ("math/bits.deBruijn64tab", laid_math_bits_deBruijn64tab), ("internal/strconv.uint64pow10", laid_internal_strconv_uint64pow10)] }
def CertificateClaimsSaid : Prop := certificateClaimsRow.holds Tryd.pinned (OpenSpec.ofChange certificateClaimsSpec)

/-- ITS FALSE NEIGHBOUR: 'it returns false'. Refute it at one input. -/
def certificateClaimsWrong : ChangeSpec := { name := "certificateClaims", fn := fun _ => fun
  | [d1, d2, d3] => { results := [.lit (.bool false)], args := [d1, d2, d3] }
  | _ => none }
def CertificateClaimsWrongFalsely : Prop := certificateClaimsRow.holds Tryd.pinned (OpenSpec.ofChange certificateClaimsWrong)

/-- 'stratagemlaw30.CertificateChecks': WHATEVER THE INPUT: true; the input reads as it did. -/
def certificateChecksSpec : ChangeSpec := { name := "certificateChecks", fn := fun _ => fun
  | [d1, d2] => { results := [.lit (.bool true)], args := [d1, d2] }
  | _ => none }
def certificateChecksRow : OpenClaim := { program := "yticdfbhbbapbdaadoor", sum := "798b0ac28caa59cdfbd1ee7835412961af39cc0a4f85e0b452c9be35e8bfa2e6", func := "stratagem/stratagemlaw30.CertificateChecks", spec := "certificateChecks", inPlace := ["internal/abi.NoEscape"], named := ["internal/strconv.uint64pow10", "math/bits.deBruijn32tab", "math/bits.deBruijn64tab"], apart := false, laid := [("math/bits.deBruijn32tab", laid_math_bits_deBruijn32tab), ("math/bits.deBruijn64tab", laid_math_bits_deBruijn64tab), ("internal/strconv.uint64pow10", laid_internal_strconv_uint64pow10)] }
def CertificateChecksSaid : Prop := certificateChecksRow.holds Tryd.pinned (OpenSpec.ofChange certificateChecksSpec)

/-- ITS FALSE NEIGHBOUR: 'it returns false'. Refute it at one input. -/
def certificateChecksWrong : ChangeSpec := { name := "certificateChecks", fn := fun _ => fun
  | [d1, d2] => { results := [.lit (.bool false)], args := [d1, d2] }
  | _ => none }
def CertificateChecksWrongFalsely : Prop := certificateChecksRow.holds Tryd.pinned (OpenSpec.ofChange certificateChecksWrong)

/-- 'stratagemlaw30.CertificateSorts': WHATEVER THE INPUT: true; the input reads as it did. -/
def certificateSortsSpec : ChangeSpec := { name := "certificateSorts", fn := fun _ => fun
  | [d] => { results := [.lit (.bool true)], args := [d] }
  | _ => none }
def certificateSortsRow : OpenClaim := { program := "yticdfbhbbapbdaadoor", sum := "798b0ac28caa59cdfbd1ee7835412961af39cc0a4f85e0b452c9be35e8bfa2e6", func := "stratagem/stratagemlaw30.CertificateSorts", spec := "certificateSorts", inPlace := ["internal/abi.NoEscape"], unfollowed := true, recurses := true, named := ["internal/strconv.uint64pow10", "math/bits.deBruijn32tab", "math/bits.deBruijn64tab"], apart := false, laid := [("math/bits.deBruijn32tab", laid_math_bits_deBruijn32tab), ("math/bits.deBruijn64tab", laid_math_bits_deBruijn64tab), ("internal/strconv.uint64pow10", laid_internal_strconv_uint64pow10)] }
def CertificateSortsSaid : Prop := certificateSortsRow.holds Tryd.pinned (OpenSpec.ofChange certificateSortsSpec)

/-- ITS FALSE NEIGHBOUR: 'it returns false'. Refute it at one input. -/
def certificateSortsWrong : ChangeSpec := { name := "certificateSorts", fn := fun _ => fun
  | [d] => { results := [.lit (.bool false)], args := [d] }
  | _ => none }
def CertificateSortsWrongFalsely : Prop := certificateSortsRow.holds Tryd.pinned (OpenSpec.ofChange certificateSortsWrong)

/-- 'stratagemlaw30.CertificateKeeps': WHATEVER THE INPUT: true; the input reads as it did. -/
def certificateKeepsSpec : ChangeSpec := { name := "certificateKeeps", fn := fun _ => fun
  | [d1, d2, d3] => { results := [.lit (.bool true)], args := [d1, d2, d3] }
  | _ => none }
def certificateKeepsRow : OpenClaim := { program := "yticdfbhbbapbdaadoor", sum := "798b0ac28caa59cdfbd1ee7835412961af39cc0a4f85e0b452c9be35e8bfa2e6", func := "stratagem/stratagemlaw30.CertificateKeeps", spec := "certificateKeeps", inPlace := ["internal/abi.NoEscape"], unfollowed := true, recurses := true, named := ["internal/strconv.uint64pow10", "math/bits.deBruijn32tab", "math/bits.deBruijn64tab"], apart := false, laid := [("math/bits.deBruijn32tab", laid_math_bits_deBruijn32tab), ("math/bits.deBruijn64tab", laid_math_bits_deBruijn64tab), ("internal/strconv.uint64pow10", laid_internal_strconv_uint64pow10)] }
def CertificateKeepsSaid : Prop := certificateKeepsRow.holds Tryd.pinned (OpenSpec.ofChange certificateKeepsSpec)

/-- ITS FALSE NEIGHBOUR: 'it returns false'. Refute it at one input. -/
def certificateKeepsWrong : ChangeSpec := { name := "certificateKeeps", fn := fun _ => fun
  | [d1, d2, d3] => { results := [.lit (.bool false)], args := [d1, d2, d3] }
  | _ => none }
def CertificateKeepsWrongFalsely : Prop := certificateKeepsRow.holds Tryd.pinned (OpenSpec.ofChange certificateKeepsWrong)

/-- 'stratagemlaw30.CertificateParses': WHATEVER THE INPUT: true; the input reads as it did. -/
def certificateParsesSpec : ChangeSpec := { name := "certificateParses", fn := fun _ => fun
  | [d] => { results := [.lit (.bool true)], args := [d] }
  | _ => none }
def certificateParsesRow : OpenClaim := { program := "yticdfbhbbapbdaadoor", sum := "798b0ac28caa59cdfbd1ee7835412961af39cc0a4f85e0b452c9be35e8bfa2e6", func := "stratagem/stratagemlaw30.CertificateParses", spec := "certificateParses", inPlace := ["internal/abi.NoEscape", "internal/bytealg.CountString", "internal/bytealg.IndexByteString", "internal/bytealg.IndexString"], named := ["internal/strconv.uint64pow10", "math/bits.deBruijn32tab", "math/bits.deBruijn64tab", "unicode/utf8.first", "unicode/utf8.acceptRanges", "internal/bytealg.MaxLen"], apart := false, laid := [("math/bits.deBruijn32tab", laid_math_bits_deBruijn32tab), ("math/bits.deBruijn64tab", laid_math_bits_deBruijn64tab), ("internal/strconv.uint64pow10", laid_internal_strconv_uint64pow10), ("unicode/utf8.acceptRanges", laid_unicode_utf8_acceptRanges), ("unicode/utf8.first", laid_unicode_utf8_first)] }
def CertificateParsesSaid : Prop := certificateParsesRow.holds Tryd.pinned (OpenSpec.ofChange certificateParsesSpec)

/-- ITS FALSE NEIGHBOUR: 'it returns false'. Refute it at one input. -/
def certificateParsesWrong : ChangeSpec := { name := "certificateParses", fn := fun _ => fun
  | [d] => { results := [.lit (.bool false)], args := [d] }
  | _ => none }
def CertificateParsesWrongFalsely : Prop := certificateParsesRow.holds Tryd.pinned (OpenSpec.ofChange certificateParsesWrong)

/-- 'stratagemlaw30.CertificateReturns': WHATEVER THE INPUT: true; the input reads as it did. -/
def certificateReturnsSpec : ChangeSpec := { name := "certificateReturns", fn := fun _ => fun
  | [d1, d2] => { results := [.lit (.bool true)], args := [d1, d2] }
  | _ => none }
def certificateReturnsRow : OpenClaim := { program := "yticdfbhbbapbdaadoor", sum := "798b0ac28caa59cdfbd1ee7835412961af39cc0a4f85e0b452c9be35e8bfa2e6", func := "stratagem/stratagemlaw30.CertificateReturns", spec := "certificateReturns", inPlace := ["internal/abi.NoEscape", "internal/bytealg.CountString", "internal/bytealg.IndexByteString", "internal/bytealg.IndexString"], named := ["internal/strconv.uint64pow10", "math/bits.deBruijn32tab", "math/bits.deBruijn64tab", "unicode/utf8.first", "unicode/utf8.acceptRanges", "internal/bytealg.MaxLen"], apart := false, laid := [("math/bits.deBruijn32tab", laid_math_bits_deBruijn32tab), ("math/bits.deBruijn64tab", laid_math_bits_deBruijn64tab), ("internal/strconv.uint64pow10", laid_internal_strconv_uint64pow10), ("unicode/utf8.acceptRanges", laid_unicode_utf8_acceptRanges), ("unicode/utf8.first", laid_unicode_utf8_first)] }
def CertificateReturnsSaid : Prop := certificateReturnsRow.holds Tryd.pinned (OpenSpec.ofChange certificateReturnsSpec)

/-- ITS FALSE NEIGHBOUR: 'it returns false'. Refute it at one input. -/
def certificateReturnsWrong : ChangeSpec := { name := "certificateReturns", fn := fun _ => fun
  | [d1, d2] => { results := [.lit (.bool false)], args := [d1, d2] }
  | _ => none }
def CertificateReturnsWrongFalsely : Prop := certificateReturnsRow.holds Tryd.pinned (OpenSpec.ofChange certificateReturnsWrong)

/- THE SECOND FORM. 'bulk': how many values and letters a reading holds, each counted each time it is reached (what is shared counts as often as it is met; a slice's spare places count too). A statement '..UptoSaid' is the law's where the arguments, and the package variables that the reading takes, are together of bulk at most 1048576: NARROWER than '..Said'. Prove '..Said' where nothing that the law and all that it calls make is longer than what came in: it says more and counts as full. Else prove '..UptoSaid'. A law counts once. -/
mutual
def uptoBulk {H : Type} : DataW H → Nat
  | .lit (.string bytes) => bytes.length + 1
  | .lit _ => 1
  | .nil => 1
  | .ptr d => uptoBulk d + 1
  | .slice elems spare => uptoBulkAll elems + uptoBulkAll spare + 1
  | .agg parts => uptoBulkAll parts + 1
  | .iface _ d => uptoBulk d + 1
  | .map entries => uptoBulkEntries entries + 1
  | .held _ => 1
def uptoBulkAll {H : Type} : List (DataW H) → Nat
  | [] => 0
  | d :: r => uptoBulk d + uptoBulkAll r
def uptoBulkEntries {H : Type} : List (Lit × DataW H) → Nat
  | [] => 0
  | x :: r => uptoBulkEntry x + uptoBulkEntries r
def uptoBulkEntry {H : Type} : Lit × DataW H → Nat
  | (.string bytes, d) => bytes.length + uptoBulk d + 1
  | (_, d) => uptoBulk d + 1
 end
def uptoSmall : (H : Type) → List (DataW H) → Bool := fun _ ds => decide (uptoBulkAll ds ≤ 1048576)
def OpenSpec.upto (s : _root_.Go.ChangeSpec) : _root_.Go.OpenSpec := { _root_.Go.OpenSpec.ofChange s with cond := some uptoSmall }

/-- 'stratagemlaw30.CertificateLimits', WHERE WHAT IT READS IS OF BULK AT MOST 1048576: true; the input reads as it did. -/
def certificateLimitsUptoRow : OpenClaim := { program := "yticdfbhbbapbdaadoor", sum := "798b0ac28caa59cdfbd1ee7835412961af39cc0a4f85e0b452c9be35e8bfa2e6", func := "stratagem/stratagemlaw30.CertificateLimits", spec := "certificateLimits", inPlace := ["internal/abi.NoEscape"], named := ["internal/strconv.uint64pow10", "math/bits.deBruijn32tab", "math/bits.deBruijn64tab"], apart := false, laid := [("math/bits.deBruijn32tab", laid_math_bits_deBruijn32tab), ("math/bits.deBruijn64tab", laid_math_bits_deBruijn64tab), ("internal/strconv.uint64pow10", laid_internal_strconv_uint64pow10)], narrowed := true }
def CertificateLimitsUptoSaid : Prop := certificateLimitsUptoRow.holds Tryd.pinned (OpenSpec.upto certificateLimitsSpec)

/-- 'stratagemlaw30.CertificateFormats', WHERE WHAT IT READS IS OF BULK AT MOST 1048576: true; the input reads as it did. -/
def certificateFormatsUptoRow : OpenClaim := { program := "yticdfbhbbapbdaadoor", sum := "798b0ac28caa59cdfbd1ee7835412961af39cc0a4f85e0b452c9be35e8bfa2e6", func := "stratagem/stratagemlaw30.CertificateFormats", spec := "certificateFormats", inPlace := ["internal/abi.NoEscape"], recurses := true, named := ["internal/strconv.uint64pow10", "math/bits.deBruijn32tab", "math/bits.deBruijn64tab"], apart := false, laid := [("math/bits.deBruijn32tab", laid_math_bits_deBruijn32tab), ("math/bits.deBruijn64tab", laid_math_bits_deBruijn64tab), ("internal/strconv.uint64pow10", laid_internal_strconv_uint64pow10)], narrowed := true }
def CertificateFormatsUptoSaid : Prop := certificateFormatsUptoRow.holds Tryd.pinned (OpenSpec.upto certificateFormatsSpec)

/-- 'stratagemlaw30.CertificateClaims', WHERE WHAT IT READS IS OF BULK AT MOST 1048576: true; the input reads as it did. -/
def certificateClaimsUptoRow : OpenClaim := { program := "yticdfbhbbapbdaadoor", sum := "798b0ac28caa59cdfbd1ee7835412961af39cc0a4f85e0b452c9be35e8bfa2e6", func := "stratagem/stratagemlaw30.CertificateClaims", spec := "certificateClaims", inPlace := ["internal/abi.NoEscape"], named := ["internal/strconv.uint64pow10", "math/bits.deBruijn32tab", "math/bits.deBruijn64tab"], apart := false, laid := [("math/bits.deBruijn32tab", laid_math_bits_deBruijn32tab), ("math/bits.deBruijn64tab", laid_math_bits_deBruijn64tab), ("internal/strconv.uint64pow10", laid_internal_strconv_uint64pow10)], narrowed := true }
def CertificateClaimsUptoSaid : Prop := certificateClaimsUptoRow.holds Tryd.pinned (OpenSpec.upto certificateClaimsSpec)

/-- 'stratagemlaw30.CertificateChecks', WHERE WHAT IT READS IS OF BULK AT MOST 1048576: true; the input reads as it did. -/
def certificateChecksUptoRow : OpenClaim := { program := "yticdfbhbbapbdaadoor", sum := "798b0ac28caa59cdfbd1ee7835412961af39cc0a4f85e0b452c9be35e8bfa2e6", func := "stratagem/stratagemlaw30.CertificateChecks", spec := "certificateChecks", inPlace := ["internal/abi.NoEscape"], named := ["internal/strconv.uint64pow10", "math/bits.deBruijn32tab", "math/bits.deBruijn64tab"], apart := false, laid := [("math/bits.deBruijn32tab", laid_math_bits_deBruijn32tab), ("math/bits.deBruijn64tab", laid_math_bits_deBruijn64tab), ("internal/strconv.uint64pow10", laid_internal_strconv_uint64pow10)], narrowed := true }
def CertificateChecksUptoSaid : Prop := certificateChecksUptoRow.holds Tryd.pinned (OpenSpec.upto certificateChecksSpec)

/-- 'stratagemlaw30.CertificateSorts', WHERE WHAT IT READS IS OF BULK AT MOST 1048576: true; the input reads as it did. -/
def certificateSortsUptoRow : OpenClaim := { program := "yticdfbhbbapbdaadoor", sum := "798b0ac28caa59cdfbd1ee7835412961af39cc0a4f85e0b452c9be35e8bfa2e6", func := "stratagem/stratagemlaw30.CertificateSorts", spec := "certificateSorts", inPlace := ["internal/abi.NoEscape"], unfollowed := true, recurses := true, named := ["internal/strconv.uint64pow10", "math/bits.deBruijn32tab", "math/bits.deBruijn64tab"], apart := false, laid := [("math/bits.deBruijn32tab", laid_math_bits_deBruijn32tab), ("math/bits.deBruijn64tab", laid_math_bits_deBruijn64tab), ("internal/strconv.uint64pow10", laid_internal_strconv_uint64pow10)], narrowed := true }
def CertificateSortsUptoSaid : Prop := certificateSortsUptoRow.holds Tryd.pinned (OpenSpec.upto certificateSortsSpec)

/-- 'stratagemlaw30.CertificateKeeps', WHERE WHAT IT READS IS OF BULK AT MOST 1048576: true; the input reads as it did. -/
def certificateKeepsUptoRow : OpenClaim := { program := "yticdfbhbbapbdaadoor", sum := "798b0ac28caa59cdfbd1ee7835412961af39cc0a4f85e0b452c9be35e8bfa2e6", func := "stratagem/stratagemlaw30.CertificateKeeps", spec := "certificateKeeps", inPlace := ["internal/abi.NoEscape"], unfollowed := true, recurses := true, named := ["internal/strconv.uint64pow10", "math/bits.deBruijn32tab", "math/bits.deBruijn64tab"], apart := false, laid := [("math/bits.deBruijn32tab", laid_math_bits_deBruijn32tab), ("math/bits.deBruijn64tab", laid_math_bits_deBruijn64tab), ("internal/strconv.uint64pow10", laid_internal_strconv_uint64pow10)], narrowed := true }
def CertificateKeepsUptoSaid : Prop := certificateKeepsUptoRow.holds Tryd.pinned (OpenSpec.upto certificateKeepsSpec)

/-- 'stratagemlaw30.CertificateParses', WHERE WHAT IT READS IS OF BULK AT MOST 1048576: true; the input reads as it did. -/
def certificateParsesUptoRow : OpenClaim := { program := "yticdfbhbbapbdaadoor", sum := "798b0ac28caa59cdfbd1ee7835412961af39cc0a4f85e0b452c9be35e8bfa2e6", func := "stratagem/stratagemlaw30.CertificateParses", spec := "certificateParses", inPlace := ["internal/abi.NoEscape", "internal/bytealg.CountString", "internal/bytealg.IndexByteString", "internal/bytealg.IndexString"], named := ["internal/strconv.uint64pow10", "math/bits.deBruijn32tab", "math/bits.deBruijn64tab", "unicode/utf8.first", "unicode/utf8.acceptRanges", "internal/bytealg.MaxLen"], apart := false, laid := [("math/bits.deBruijn32tab", laid_math_bits_deBruijn32tab), ("math/bits.deBruijn64tab", laid_math_bits_deBruijn64tab), ("internal/strconv.uint64pow10", laid_internal_strconv_uint64pow10), ("unicode/utf8.acceptRanges", laid_unicode_utf8_acceptRanges), ("unicode/utf8.first", laid_unicode_utf8_first)], narrowed := true }
def CertificateParsesUptoSaid : Prop := certificateParsesUptoRow.holds Tryd.pinned (OpenSpec.upto certificateParsesSpec)

/-- 'stratagemlaw30.CertificateReturns', WHERE WHAT IT READS IS OF BULK AT MOST 1048576: true; the input reads as it did. -/
def certificateReturnsUptoRow : OpenClaim := { program := "yticdfbhbbapbdaadoor", sum := "798b0ac28caa59cdfbd1ee7835412961af39cc0a4f85e0b452c9be35e8bfa2e6", func := "stratagem/stratagemlaw30.CertificateReturns", spec := "certificateReturns", inPlace := ["internal/abi.NoEscape", "internal/bytealg.CountString", "internal/bytealg.IndexByteString", "internal/bytealg.IndexString"], named := ["internal/strconv.uint64pow10", "math/bits.deBruijn32tab", "math/bits.deBruijn64tab", "unicode/utf8.first", "unicode/utf8.acceptRanges", "internal/bytealg.MaxLen"], apart := false, laid := [("math/bits.deBruijn32tab", laid_math_bits_deBruijn32tab), ("math/bits.deBruijn64tab", laid_math_bits_deBruijn64tab), ("internal/strconv.uint64pow10", laid_internal_strconv_uint64pow10), ("unicode/utf8.acceptRanges", laid_unicode_utf8_acceptRanges), ("unicode/utf8.first", laid_unicode_utf8_first)], narrowed := true }
def CertificateReturnsUptoSaid : Prop := certificateReturnsUptoRow.holds Tryd.pinned (OpenSpec.upto certificateReturnsSpec)

end Rows
end Go.Proofs.YticdfbhbbapbdaaDoor
