/-
  DERIVED. GIVEN WITH THE SEED: THE PROGRAM's TIES (one call each: nine closed facts by the kernel) AND EACH ROW's TIE, after the 31st guide's Derived/Test/Toyas{Tie, Card}.lean. No idea stands in it: it is a product of the set-up. Laid BY PROGRAM, IN A SANDBOX (cutbox-door.mjs). By AI agents, Wed Nov 11 2026. No macro, syntax, notation, axiom, sorry.
-/
import Derived.Test.YtmoecjgehdkhkaaDoorRows
import Derived.LaidByTextLater
import Derived.SevenTiedAt
import Derived.LaidSub
import Derived.LaidOnce
namespace Go.Proofs.YtmoecjgehdkhkaaDoor
open Go
set_option maxRecDepth 100000
theorem seatTie1 : Tryd.prog.laidByTextLater [("attestor/sha256.constants", Rows.laid_attestor_sha256_constants), ("attestor/sha256.initial", Rows.laid_attestor_sha256_initial), ("attestor/session.rules", Rows.laid_attestor_session_rules), ("attestor/session.states", Rows.laid_attestor_session_states)] [.data, .data, .funcs, .mapped] true :=
  Program.laidByTextLater_by_one 106 8 65 (by kernel_rfl) (by kernel_rfl) (by kernel_rfl) (by kernel_rfl) (by kernel_rfl) (by kernel_rfl) (fun _ _ => by kernel_rfl)
theorem noOwnUnsafe : Tryd.pinned.checked.prog.headLifts.contains "ownunsafe" = false := by kernel_rfl
theorem tie : Tryd.prog.laidByTextLater [("attestor/sha256.constants", Rows.laid_attestor_sha256_constants), ("attestor/sha256.initial", Rows.laid_attestor_sha256_initial), ("attestor/session.rules", Rows.laid_attestor_session_rules), ("attestor/session.states", Rows.laid_attestor_session_states)] [.data, .data, .funcs, .mapped] true :=
  Program.laidByTextLater.sub seatTie1 ["attestor/sha256.constants", "attestor/sha256.initial", "attestor/session.rules", "attestor/session.states"] (by kernel_rfl) (by kernel_rfl)
theorem sessionCodecMatchesReference_row_tie : Rows.sessionCodecMatchesReferenceRow.laidByTextAt .later Tryd.pinned [.data, .data, .funcs, .mapped] true :=
  OpenClaim.laidByTextAt_later rfl rfl tie noOwnUnsafe
theorem sessionStepsMatchReference_row_tie : Rows.sessionStepsMatchReferenceRow.laidByTextAt .later Tryd.pinned [.data, .data, .funcs, .mapped] true :=
  OpenClaim.laidByTextAt_later rfl rfl tie noOwnUnsafe
theorem sessionCanonical_row_tie : Rows.sessionCanonicalRow.laidByTextAt .later Tryd.pinned [.data, .data, .funcs, .mapped] true :=
  OpenClaim.laidByTextAt_later rfl rfl tie noOwnUnsafe
theorem sessionDeadline_row_tie : Rows.sessionDeadlineRow.laidByTextAt .later Tryd.pinned [.data, .data, .funcs, .mapped] true :=
  OpenClaim.laidByTextAt_later rfl rfl tie noOwnUnsafe
theorem sessionCodecMatchesReferenceUpto_row_tie : Rows.sessionCodecMatchesReferenceUptoRow.laidByTextAt .later Tryd.pinned [.data, .data, .funcs, .mapped] true :=
  OpenClaim.laidByTextAt_later rfl rfl tie noOwnUnsafe
theorem sessionStepsMatchReferenceUpto_row_tie : Rows.sessionStepsMatchReferenceUptoRow.laidByTextAt .later Tryd.pinned [.data, .data, .funcs, .mapped] true :=
  OpenClaim.laidByTextAt_later rfl rfl tie noOwnUnsafe
theorem sessionCanonicalUpto_row_tie : Rows.sessionCanonicalUptoRow.laidByTextAt .later Tryd.pinned [.data, .data, .funcs, .mapped] true :=
  OpenClaim.laidByTextAt_later rfl rfl tie noOwnUnsafe
theorem sessionDeadlineUpto_row_tie : Rows.sessionDeadlineUptoRow.laidByTextAt .later Tryd.pinned [.data, .data, .funcs, .mapped] true :=
  OpenClaim.laidByTextAt_later rfl rfl tie noOwnUnsafe
end Go.Proofs.YtmoecjgehdkhkaaDoor
