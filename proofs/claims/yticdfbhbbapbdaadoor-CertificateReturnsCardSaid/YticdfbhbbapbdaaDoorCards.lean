/-
  DERIVED. GIVEN WITH THE SEED: THE CARDS: each row of YticdfbhbbapbdaaDoorRows.lean that lists a variable, with what it lists TIED to the program's text (the seventh form; the later family's looks); each row that meets fmt, with fmt's text TOLD by the authors' own Lean function (tested against real Go, not proved from fmt's source: count such statements apart). THE CARD IS WHAT COUNTS. Prove the row's statement (the work); the ties are given (YticdfbhbbapbdaaDoorTie.lean); close each card by the builder's one call (the guide's Derived/Test/ToyasCard.lean, 'card_holds'). Laid BY PROGRAM, IN A SANDBOX (cutbox-door.mjs). By AI agents, Wed Nov 11 2026. No macro, syntax, notation, axiom, sorry.
-/
import Derived.Test.YticdfbhbbapbdaaDoorRows
import GoSem.ClaimSeven
namespace Go.Proofs.YticdfbhbbapbdaaDoor
namespace Rows

/-- THE TIED CARD OF 'stratagemlaw30.CertificateLimits'. -/
def certificateLimitsCard : Claim7 := { stood := { row := certificateLimitsRow, standIns := [], harness := (true, "01f3fdc6104ff64d707c3308d17b64b72a350b252fd23f3fd5df85416d25709b"), looks := true }, kinds := [], alts := [], laidByText := true, laidKinds := [.data, .data, .data], laidTests := true, laidLooks := .later }
def CertificateLimitsCardSaid : Prop := Claim7.holds Tryd.pinned (.plain (OpenSpec.ofChange certificateLimitsSpec)) certificateLimitsCard

/-- THE TIED CARD OF 'stratagemlaw30.CertificateFormats'. -/
def certificateFormatsCard : Claim7 := { stood := { row := certificateFormatsRow, standIns := [], harness := (true, "01f3fdc6104ff64d707c3308d17b64b72a350b252fd23f3fd5df85416d25709b"), looks := true }, kinds := [], alts := [], laidByText := true, laidKinds := [.data, .data, .data], laidTests := true, laidLooks := .later }
def CertificateFormatsCardSaid : Prop := Claim7.holds Tryd.pinned (.plain (OpenSpec.ofChange certificateFormatsSpec)) certificateFormatsCard

/-- THE TIED CARD OF 'stratagemlaw30.CertificateClaims'. -/
def certificateClaimsCard : Claim7 := { stood := { row := certificateClaimsRow, standIns := [], harness := (true, "01f3fdc6104ff64d707c3308d17b64b72a350b252fd23f3fd5df85416d25709b"), looks := true }, kinds := [], alts := [], laidByText := true, laidKinds := [.data, .data, .data], laidTests := true, laidLooks := .later }
def CertificateClaimsCardSaid : Prop := Claim7.holds Tryd.pinned (.plain (OpenSpec.ofChange certificateClaimsSpec)) certificateClaimsCard

/-- THE TIED CARD OF 'stratagemlaw30.CertificateChecks'. -/
def certificateChecksCard : Claim7 := { stood := { row := certificateChecksRow, standIns := [], harness := (true, "01f3fdc6104ff64d707c3308d17b64b72a350b252fd23f3fd5df85416d25709b"), looks := true }, kinds := [], alts := [], laidByText := true, laidKinds := [.data, .data, .data], laidTests := true, laidLooks := .later }
def CertificateChecksCardSaid : Prop := Claim7.holds Tryd.pinned (.plain (OpenSpec.ofChange certificateChecksSpec)) certificateChecksCard

/-- THE TIED CARD OF 'stratagemlaw30.CertificateSorts'. -/
def certificateSortsCard : Claim7 := { stood := { row := certificateSortsRow, standIns := [], harness := (true, "01f3fdc6104ff64d707c3308d17b64b72a350b252fd23f3fd5df85416d25709b"), looks := true }, kinds := [], alts := [], laidByText := true, laidKinds := [.data, .data, .data], laidTests := true, laidLooks := .later }
def CertificateSortsCardSaid : Prop := Claim7.holds Tryd.pinned (.plain (OpenSpec.ofChange certificateSortsSpec)) certificateSortsCard

/-- THE TIED CARD OF 'stratagemlaw30.CertificateKeeps'. -/
def certificateKeepsCard : Claim7 := { stood := { row := certificateKeepsRow, standIns := [], harness := (true, "01f3fdc6104ff64d707c3308d17b64b72a350b252fd23f3fd5df85416d25709b"), looks := true }, kinds := [], alts := [], laidByText := true, laidKinds := [.data, .data, .data], laidTests := true, laidLooks := .later }
def CertificateKeepsCardSaid : Prop := Claim7.holds Tryd.pinned (.plain (OpenSpec.ofChange certificateKeepsSpec)) certificateKeepsCard

/-- THE TIED CARD OF 'stratagemlaw30.CertificateParses'. -/
def certificateParsesCard : Claim7 := { stood := { row := certificateParsesRow, standIns := [], harness := (true, "01f3fdc6104ff64d707c3308d17b64b72a350b252fd23f3fd5df85416d25709b"), looks := true }, kinds := [], alts := [], laidByText := true, laidKinds := [.data, .data, .data, .data, .pinned], laidTests := true, laidLooks := .later }
def CertificateParsesCardSaid : Prop := Claim7.holds Tryd.pinned (.plain (OpenSpec.ofChange certificateParsesSpec)) certificateParsesCard

/-- THE TIED CARD OF 'stratagemlaw30.CertificateReturns'. -/
def certificateReturnsCard : Claim7 := { stood := { row := certificateReturnsRow, standIns := [], harness := (true, "01f3fdc6104ff64d707c3308d17b64b72a350b252fd23f3fd5df85416d25709b"), looks := true }, kinds := [], alts := [], laidByText := true, laidKinds := [.data, .data, .data, .data, .pinned], laidTests := true, laidLooks := .later }
def CertificateReturnsCardSaid : Prop := Claim7.holds Tryd.pinned (.plain (OpenSpec.ofChange certificateReturnsSpec)) certificateReturnsCard

/-- THE SECOND FORM's CARD OF 'stratagemlaw30.CertificateLimits'. -/
def certificateLimitsUptoCard : Claim7 := { stood := { row := certificateLimitsUptoRow, standIns := [], harness := (true, "01f3fdc6104ff64d707c3308d17b64b72a350b252fd23f3fd5df85416d25709b"), looks := true }, kinds := [], alts := [], laidByText := true, laidKinds := [.data, .data, .data], laidTests := true, laidLooks := .later }
def CertificateLimitsUptoCardSaid : Prop := Claim7.holds Tryd.pinned (.plain (OpenSpec.upto certificateLimitsSpec)) certificateLimitsUptoCard

/-- THE SECOND FORM's CARD OF 'stratagemlaw30.CertificateFormats'. -/
def certificateFormatsUptoCard : Claim7 := { stood := { row := certificateFormatsUptoRow, standIns := [], harness := (true, "01f3fdc6104ff64d707c3308d17b64b72a350b252fd23f3fd5df85416d25709b"), looks := true }, kinds := [], alts := [], laidByText := true, laidKinds := [.data, .data, .data], laidTests := true, laidLooks := .later }
def CertificateFormatsUptoCardSaid : Prop := Claim7.holds Tryd.pinned (.plain (OpenSpec.upto certificateFormatsSpec)) certificateFormatsUptoCard

/-- THE SECOND FORM's CARD OF 'stratagemlaw30.CertificateClaims'. -/
def certificateClaimsUptoCard : Claim7 := { stood := { row := certificateClaimsUptoRow, standIns := [], harness := (true, "01f3fdc6104ff64d707c3308d17b64b72a350b252fd23f3fd5df85416d25709b"), looks := true }, kinds := [], alts := [], laidByText := true, laidKinds := [.data, .data, .data], laidTests := true, laidLooks := .later }
def CertificateClaimsUptoCardSaid : Prop := Claim7.holds Tryd.pinned (.plain (OpenSpec.upto certificateClaimsSpec)) certificateClaimsUptoCard

/-- THE SECOND FORM's CARD OF 'stratagemlaw30.CertificateChecks'. -/
def certificateChecksUptoCard : Claim7 := { stood := { row := certificateChecksUptoRow, standIns := [], harness := (true, "01f3fdc6104ff64d707c3308d17b64b72a350b252fd23f3fd5df85416d25709b"), looks := true }, kinds := [], alts := [], laidByText := true, laidKinds := [.data, .data, .data], laidTests := true, laidLooks := .later }
def CertificateChecksUptoCardSaid : Prop := Claim7.holds Tryd.pinned (.plain (OpenSpec.upto certificateChecksSpec)) certificateChecksUptoCard

/-- THE SECOND FORM's CARD OF 'stratagemlaw30.CertificateSorts'. -/
def certificateSortsUptoCard : Claim7 := { stood := { row := certificateSortsUptoRow, standIns := [], harness := (true, "01f3fdc6104ff64d707c3308d17b64b72a350b252fd23f3fd5df85416d25709b"), looks := true }, kinds := [], alts := [], laidByText := true, laidKinds := [.data, .data, .data], laidTests := true, laidLooks := .later }
def CertificateSortsUptoCardSaid : Prop := Claim7.holds Tryd.pinned (.plain (OpenSpec.upto certificateSortsSpec)) certificateSortsUptoCard

/-- THE SECOND FORM's CARD OF 'stratagemlaw30.CertificateKeeps'. -/
def certificateKeepsUptoCard : Claim7 := { stood := { row := certificateKeepsUptoRow, standIns := [], harness := (true, "01f3fdc6104ff64d707c3308d17b64b72a350b252fd23f3fd5df85416d25709b"), looks := true }, kinds := [], alts := [], laidByText := true, laidKinds := [.data, .data, .data], laidTests := true, laidLooks := .later }
def CertificateKeepsUptoCardSaid : Prop := Claim7.holds Tryd.pinned (.plain (OpenSpec.upto certificateKeepsSpec)) certificateKeepsUptoCard

/-- THE SECOND FORM's CARD OF 'stratagemlaw30.CertificateParses'. -/
def certificateParsesUptoCard : Claim7 := { stood := { row := certificateParsesUptoRow, standIns := [], harness := (true, "01f3fdc6104ff64d707c3308d17b64b72a350b252fd23f3fd5df85416d25709b"), looks := true }, kinds := [], alts := [], laidByText := true, laidKinds := [.data, .data, .data, .data, .pinned], laidTests := true, laidLooks := .later }
def CertificateParsesUptoCardSaid : Prop := Claim7.holds Tryd.pinned (.plain (OpenSpec.upto certificateParsesSpec)) certificateParsesUptoCard

/-- THE SECOND FORM's CARD OF 'stratagemlaw30.CertificateReturns'. -/
def certificateReturnsUptoCard : Claim7 := { stood := { row := certificateReturnsUptoRow, standIns := [], harness := (true, "01f3fdc6104ff64d707c3308d17b64b72a350b252fd23f3fd5df85416d25709b"), looks := true }, kinds := [], alts := [], laidByText := true, laidKinds := [.data, .data, .data, .data, .pinned], laidTests := true, laidLooks := .later }
def CertificateReturnsUptoCardSaid : Prop := Claim7.holds Tryd.pinned (.plain (OpenSpec.upto certificateReturnsSpec)) certificateReturnsUptoCard
end Rows
end Go.Proofs.YticdfbhbbapbdaaDoor
