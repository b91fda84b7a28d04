/-
  DERIVED. GIVEN WITH THE SEED: THE CARDS: each row of YtgflpgcogkdpgaaGreatDoorRows.lean that lists a variable, with what it lists TIED to the program's text (the seventh form; the later family's looks); each row that meets fmt, with fmt's text TOLD by the authors' own Lean function (tested against real Go, not proved from fmt's source: count such statements apart). THE CARD IS WHAT COUNTS. Prove the row's statement (the work); the ties are given (YtgflpgcogkdpgaaGreatDoorTie.lean); close each card by the builder's one call (the guide's Derived/Test/ToyasCard.lean, 'card_holds'). Laid BY PROGRAM, IN A SANDBOX (cutbox-door.mjs). By AI agents, Wed Nov 11 2026. No macro, syntax, notation, axiom, sorry.
-/
import Derived.Test.YtgflpgcogkdpgaaGreatDoorRows
import GoSem.ClaimSeven
namespace Go.Proofs.YtgflpgcogkdpgaaGreatDoor
namespace Rows

/-- THE TIED CARD OF 'attestorlaw33.AuditMatchesReference'. -/
def auditMatchesReferenceCard : Claim7 := { stood := { row := auditMatchesReferenceRow, standIns := [], harness := (true, "ae393f6e2568889d60ddb86b426587f983b757df5ec2f28b130b86bf8470ba78"), looks := true }, kinds := [], alts := [], laidByText := true, laidKinds := [.data, .data, .funcs, .mapped], laidTests := true, laidLooks := .later }
def AuditMatchesReferenceCardSaid : Prop := Claim7.holds Tryz.pinned (.plain (OpenSpec.ofChange auditMatchesReferenceSpec)) auditMatchesReferenceCard

/-- THE TIED CARD OF 'attestorlaw33.AuditStatesMatchReference'. -/
def auditStatesMatchReferenceCard : Claim7 := { stood := { row := auditStatesMatchReferenceRow, standIns := [], harness := (true, "ae393f6e2568889d60ddb86b426587f983b757df5ec2f28b130b86bf8470ba78"), looks := true }, kinds := [], alts := [], laidByText := true, laidKinds := [.data, .data, .funcs, .mapped], laidTests := true, laidLooks := .later }
def AuditStatesMatchReferenceCardSaid : Prop := Claim7.holds Tryz.pinned (.plain (OpenSpec.ofChange auditStatesMatchReferenceSpec)) auditStatesMatchReferenceCard

/-- THE TIED CARD OF 'attestorlaw33.AuditPoints'. -/
def auditPointsCard : Claim7 := { stood := { row := auditPointsRow, standIns := [], harness := (true, "ae393f6e2568889d60ddb86b426587f983b757df5ec2f28b130b86bf8470ba78"), looks := true }, kinds := [], alts := [], laidByText := true, laidKinds := [.data, .data, .funcs, .mapped], laidTests := true, laidLooks := .later }
def AuditPointsCardSaid : Prop := Claim7.holds Tryz.pinned (.plain (OpenSpec.ofChange auditPointsSpec)) auditPointsCard

/-- THE TIED CARD OF 'attestorlaw33.AuditCertificates'. -/
def auditCertificatesCard : Claim7 := { stood := { row := auditCertificatesRow, standIns := [], harness := (true, "ae393f6e2568889d60ddb86b426587f983b757df5ec2f28b130b86bf8470ba78"), looks := true }, kinds := [], alts := [], laidByText := true, laidKinds := [.data, .data, .funcs, .mapped], laidTests := true, laidLooks := .later }
def AuditCertificatesCardSaid : Prop := Claim7.holds Tryz.pinned (.plain (OpenSpec.ofChange auditCertificatesSpec)) auditCertificatesCard

/-- THE TIED CARD OF 'attestorlaw33.AuditBounds'. -/
def auditBoundsCard : Claim7 := { stood := { row := auditBoundsRow, standIns := [], harness := (true, "ae393f6e2568889d60ddb86b426587f983b757df5ec2f28b130b86bf8470ba78"), looks := true }, kinds := [], alts := [], laidByText := true, laidKinds := [.data, .data, .funcs, .mapped], laidTests := true, laidLooks := .later }
def AuditBoundsCardSaid : Prop := Claim7.holds Tryz.pinned (.plain (OpenSpec.ofChange auditBoundsSpec)) auditBoundsCard

/-- THE TIED CARD OF 'attestorlaw33.AuditAcceptsHonestSessions'. -/
def auditAcceptsHonestSessionsCard : Claim7 := { stood := { row := auditAcceptsHonestSessionsRow, standIns := [], harness := (true, "ae393f6e2568889d60ddb86b426587f983b757df5ec2f28b130b86bf8470ba78"), looks := true }, kinds := [], alts := [], laidByText := true, laidKinds := [.data, .data, .funcs, .mapped], laidTests := true, laidLooks := .later }
def AuditAcceptsHonestSessionsCardSaid : Prop := Claim7.holds Tryz.pinned (.plain (OpenSpec.ofChange auditAcceptsHonestSessionsSpec)) auditAcceptsHonestSessionsCard

/-- THE SECOND FORM's CARD OF 'attestorlaw33.AuditMatchesReference'. -/
def auditMatchesReferenceUptoCard : Claim7 := { stood := { row := auditMatchesReferenceUptoRow, standIns := [], harness := (true, "ae393f6e2568889d60ddb86b426587f983b757df5ec2f28b130b86bf8470ba78"), looks := true }, kinds := [], alts := [], laidByText := true, laidKinds := [.data, .data, .funcs, .mapped], laidTests := true, laidLooks := .later }
def AuditMatchesReferenceUptoCardSaid : Prop := Claim7.holds Tryz.pinned (.plain (OpenSpec.upto auditMatchesReferenceSpec)) auditMatchesReferenceUptoCard

/-- THE SECOND FORM's CARD OF 'attestorlaw33.AuditStatesMatchReference'. -/
def auditStatesMatchReferenceUptoCard : Claim7 := { stood := { row := auditStatesMatchReferenceUptoRow, standIns := [], harness := (true, "ae393f6e2568889d60ddb86b426587f983b757df5ec2f28b130b86bf8470ba78"), looks := true }, kinds := [], alts := [], laidByText := true, laidKinds := [.data, .data, .funcs, .mapped], laidTests := true, laidLooks := .later }
def AuditStatesMatchReferenceUptoCardSaid : Prop := Claim7.holds Tryz.pinned (.plain (OpenSpec.upto auditStatesMatchReferenceSpec)) auditStatesMatchReferenceUptoCard

/-- THE SECOND FORM's CARD OF 'attestorlaw33.AuditPoints'. -/
def auditPointsUptoCard : Claim7 := { stood := { row := auditPointsUptoRow, standIns := [], harness := (true, "ae393f6e2568889d60ddb86b426587f983b757df5ec2f28b130b86bf8470ba78"), looks := true }, kinds := [], alts := [], laidByText := true, laidKinds := [.data, .data, .funcs, .mapped], laidTests := true, laidLooks := .later }
def AuditPointsUptoCardSaid : Prop := Claim7.holds Tryz.pinned (.plain (OpenSpec.upto auditPointsSpec)) auditPointsUptoCard

/-- THE SECOND FORM's CARD OF 'attestorlaw33.AuditCertificates'. -/
def auditCertificatesUptoCard : Claim7 := { stood := { row := auditCertificatesUptoRow, standIns := [], harness := (true, "ae393f6e2568889d60ddb86b426587f983b757df5ec2f28b130b86bf8470ba78"), looks := true }, kinds := [], alts := [], laidByText := true, laidKinds := [.data, .data, .funcs, .mapped], laidTests := true, laidLooks := .later }
def AuditCertificatesUptoCardSaid : Prop := Claim7.holds Tryz.pinned (.plain (OpenSpec.upto auditCertificatesSpec)) auditCertificatesUptoCard

/-- THE SECOND FORM's CARD OF 'attestorlaw33.AuditBounds'. -/
def auditBoundsUptoCard : Claim7 := { stood := { row := auditBoundsUptoRow, standIns := [], harness := (true, "ae393f6e2568889d60ddb86b426587f983b757df5ec2f28b130b86bf8470ba78"), looks := true }, kinds := [], alts := [], laidByText := true, laidKinds := [.data, .data, .funcs, .mapped], laidTests := true, laidLooks := .later }
def AuditBoundsUptoCardSaid : Prop := Claim7.holds Tryz.pinned (.plain (OpenSpec.upto auditBoundsSpec)) auditBoundsUptoCard

/-- THE SECOND FORM's CARD OF 'attestorlaw33.AuditAcceptsHonestSessions'. -/
def auditAcceptsHonestSessionsUptoCard : Claim7 := { stood := { row := auditAcceptsHonestSessionsUptoRow, standIns := [], harness := (true, "ae393f6e2568889d60ddb86b426587f983b757df5ec2f28b130b86bf8470ba78"), looks := true }, kinds := [], alts := [], laidByText := true, laidKinds := [.data, .data, .funcs, .mapped], laidTests := true, laidLooks := .later }
def AuditAcceptsHonestSessionsUptoCardSaid : Prop := Claim7.holds Tryz.pinned (.plain (OpenSpec.upto auditAcceptsHonestSessionsSpec)) auditAcceptsHonestSessionsUptoCard
end Rows
end Go.Proofs.YtgflpgcogkdpgaaGreatDoor
