/-
  DERIVED. GIVEN WITH THE SEED: THE PROGRAM's TIES (one call each: nine closed facts by the kernel) AND EACH ROW's TIE, after the 31st guide's Derived/Test/Toyas{Tie, Card}.lean. No idea stands in it: it is a product of the set-up. Laid BY PROGRAM, IN A SANDBOX (cutbox-door.mjs). By AI agents, Wed Nov 11 2026. No macro, syntax, notation, axiom, sorry.
-/
import Derived.Test.YtgflpgcogkdpgaaGreatDoorRows
import Derived.LaidByTextLater
import Derived.SevenTiedAt
import Derived.LaidSub
import Derived.LaidOnce
namespace Go.Proofs.YtgflpgcogkdpgaaGreatDoor
open Go
set_option maxRecDepth 100000
theorem seatTie1 : Tryz.prog.laidByTextLater [("attestor/sha256.constants", Rows.laid_attestor_sha256_constants), ("attestor/sha256.initial", Rows.laid_attestor_sha256_initial), ("attestor/session.rules", Rows.laid_attestor_session_rules), ("attestor/session.states", Rows.laid_attestor_session_states)] [.data, .data, .funcs, .mapped] true :=
  Program.laidByTextLater_by_one 106 8 65 (by kernel_rfl) (by kernel_rfl) (by kernel_rfl) (by kernel_rfl) (by kernel_rfl) (by kernel_rfl) (fun _ _ => by kernel_rfl)
theorem noOwnUnsafe : Tryz.pinned.checked.prog.headLifts.contains "ownunsafe" = false := by kernel_rfl
theorem tie : Tryz.prog.laidByTextLater [("attestor/sha256.constants", Rows.laid_attestor_sha256_constants), ("attestor/sha256.initial", Rows.laid_attestor_sha256_initial), ("attestor/session.rules", Rows.laid_attestor_session_rules), ("attestor/session.states", Rows.laid_attestor_session_states)] [.data, .data, .funcs, .mapped] true :=
  Program.laidByTextLater.sub seatTie1 ["attestor/sha256.constants", "attestor/sha256.initial", "attestor/session.rules", "attestor/session.states"] (by kernel_rfl) (by kernel_rfl)
theorem auditMatchesReference_row_tie : Rows.auditMatchesReferenceRow.laidByTextAt .later Tryz.pinned [.data, .data, .funcs, .mapped] true :=
  OpenClaim.laidByTextAt_later rfl rfl tie noOwnUnsafe
theorem auditStatesMatchReference_row_tie : Rows.auditStatesMatchReferenceRow.laidByTextAt .later Tryz.pinned [.data, .data, .funcs, .mapped] true :=
  OpenClaim.laidByTextAt_later rfl rfl tie noOwnUnsafe
theorem auditPoints_row_tie : Rows.auditPointsRow.laidByTextAt .later Tryz.pinned [.data, .data, .funcs, .mapped] true :=
  OpenClaim.laidByTextAt_later rfl rfl tie noOwnUnsafe
theorem auditCertificates_row_tie : Rows.auditCertificatesRow.laidByTextAt .later Tryz.pinned [.data, .data, .funcs, .mapped] true :=
  OpenClaim.laidByTextAt_later rfl rfl tie noOwnUnsafe
theorem auditBounds_row_tie : Rows.auditBoundsRow.laidByTextAt .later Tryz.pinned [.data, .data, .funcs, .mapped] true :=
  OpenClaim.laidByTextAt_later rfl rfl tie noOwnUnsafe
theorem auditAcceptsHonestSessions_row_tie : Rows.auditAcceptsHonestSessionsRow.laidByTextAt .later Tryz.pinned [.data, .data, .funcs, .mapped] true :=
  OpenClaim.laidByTextAt_later rfl rfl tie noOwnUnsafe
theorem auditMatchesReferenceUpto_row_tie : Rows.auditMatchesReferenceUptoRow.laidByTextAt .later Tryz.pinned [.data, .data, .funcs, .mapped] true :=
  OpenClaim.laidByTextAt_later rfl rfl tie noOwnUnsafe
theorem auditStatesMatchReferenceUpto_row_tie : Rows.auditStatesMatchReferenceUptoRow.laidByTextAt .later Tryz.pinned [.data, .data, .funcs, .mapped] true :=
  OpenClaim.laidByTextAt_later rfl rfl tie noOwnUnsafe
theorem auditPointsUpto_row_tie : Rows.auditPointsUptoRow.laidByTextAt .later Tryz.pinned [.data, .data, .funcs, .mapped] true :=
  OpenClaim.laidByTextAt_later rfl rfl tie noOwnUnsafe
theorem auditCertificatesUpto_row_tie : Rows.auditCertificatesUptoRow.laidByTextAt .later Tryz.pinned [.data, .data, .funcs, .mapped] true :=
  OpenClaim.laidByTextAt_later rfl rfl tie noOwnUnsafe
theorem auditBoundsUpto_row_tie : Rows.auditBoundsUptoRow.laidByTextAt .later Tryz.pinned [.data, .data, .funcs, .mapped] true :=
  OpenClaim.laidByTextAt_later rfl rfl tie noOwnUnsafe
theorem auditAcceptsHonestSessionsUpto_row_tie : Rows.auditAcceptsHonestSessionsUptoRow.laidByTextAt .later Tryz.pinned [.data, .data, .funcs, .mapped] true :=
  OpenClaim.laidByTextAt_later rfl rfl tie noOwnUnsafe
end Go.Proofs.YtgflpgcogkdpgaaGreatDoor
