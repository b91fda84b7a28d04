/-
  DERIVED. GIVEN WITH THE SEED: THE PROGRAM's TIES (one call each: nine closed facts by the kernel) AND EACH ROW's TIE, after the 31st guide's Derived/Test/Toyas{Tie, Card}.lean. No idea stands in it: it is a product of the set-up. Laid BY PROGRAM, IN A SANDBOX (cutbox-door.mjs). By AI agents, Wed Nov 11 2026. No macro, syntax, notation, axiom, sorry.
-/
import Derived.Test.YtdpfkanfahchjaaDoorRows
import Derived.LaidByTextLater
import Derived.SevenTiedAt
import Derived.LaidSub
import Derived.LaidOnce
namespace Go.Proofs.YtdpfkanfahchjaaDoor
open Go
set_option maxRecDepth 100000
theorem seatTie1 : Tryd.prog.laidByTextLater [("attestor/sha256.constants", Rows.laid_attestor_sha256_constants), ("attestor/sha256.initial", Rows.laid_attestor_sha256_initial)] [.data, .data] true :=
  Program.laidByTextLater_by_one 19 8 65 (by kernel_rfl) (by kernel_rfl) (by kernel_rfl) (by kernel_rfl) (by kernel_rfl) (by kernel_rfl) (fun _ _ => by kernel_rfl)
theorem noOwnUnsafe : Tryd.pinned.checked.prog.headLifts.contains "ownunsafe" = false := by kernel_rfl
theorem tie : Tryd.prog.laidByTextLater [("attestor/sha256.constants", Rows.laid_attestor_sha256_constants), ("attestor/sha256.initial", Rows.laid_attestor_sha256_initial)] [.data, .data] true :=
  Program.laidByTextLater.sub seatTie1 ["attestor/sha256.constants", "attestor/sha256.initial"] (by kernel_rfl) (by kernel_rfl)
theorem colstoreMatchesReference_row_tie : Rows.colstoreMatchesReferenceRow.laidByTextAt .later Tryd.pinned [.data, .data] true :=
  OpenClaim.laidByTextAt_later rfl rfl tie noOwnUnsafe
theorem colstoreLoadMatchesReference_row_tie : Rows.colstoreLoadMatchesReferenceRow.laidByTextAt .later Tryd.pinned [.data, .data] true :=
  OpenClaim.laidByTextAt_later rfl rfl tie noOwnUnsafe
theorem colstoreDurability_row_tie : Rows.colstoreDurabilityRow.laidByTextAt .later Tryd.pinned [.data, .data] true :=
  OpenClaim.laidByTextAt_later rfl rfl tie noOwnUnsafe
theorem colstoreCorruption_row_tie : Rows.colstoreCorruptionRow.laidByTextAt .later Tryd.pinned [.data, .data] true :=
  OpenClaim.laidByTextAt_later rfl rfl tie noOwnUnsafe
theorem colstoreCompression_row_tie : Rows.colstoreCompressionRow.laidByTextAt .later Tryd.pinned [.data, .data] true :=
  OpenClaim.laidByTextAt_later rfl rfl tie noOwnUnsafe
theorem colstoreRepair_row_tie : Rows.colstoreRepairRow.laidByTextAt .later Tryd.pinned [.data, .data] true :=
  OpenClaim.laidByTextAt_later rfl rfl tie noOwnUnsafe
theorem colstoreMatchesReferenceUpto_row_tie : Rows.colstoreMatchesReferenceUptoRow.laidByTextAt .later Tryd.pinned [.data, .data] true :=
  OpenClaim.laidByTextAt_later rfl rfl tie noOwnUnsafe
theorem colstoreLoadMatchesReferenceUpto_row_tie : Rows.colstoreLoadMatchesReferenceUptoRow.laidByTextAt .later Tryd.pinned [.data, .data] true :=
  OpenClaim.laidByTextAt_later rfl rfl tie noOwnUnsafe
theorem colstoreDurabilityUpto_row_tie : Rows.colstoreDurabilityUptoRow.laidByTextAt .later Tryd.pinned [.data, .data] true :=
  OpenClaim.laidByTextAt_later rfl rfl tie noOwnUnsafe
theorem colstoreCorruptionUpto_row_tie : Rows.colstoreCorruptionUptoRow.laidByTextAt .later Tryd.pinned [.data, .data] true :=
  OpenClaim.laidByTextAt_later rfl rfl tie noOwnUnsafe
theorem colstoreCompressionUpto_row_tie : Rows.colstoreCompressionUptoRow.laidByTextAt .later Tryd.pinned [.data, .data] true :=
  OpenClaim.laidByTextAt_later rfl rfl tie noOwnUnsafe
theorem colstoreRepairUpto_row_tie : Rows.colstoreRepairUptoRow.laidByTextAt .later Tryd.pinned [.data, .data] true :=
  OpenClaim.laidByTextAt_later rfl rfl tie noOwnUnsafe
end Go.Proofs.YtdpfkanfahchjaaDoor
