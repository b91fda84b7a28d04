/-
  DERIVED. GIVEN WITH THE SEED: THE PROGRAM's TIES (one call each: nine closed facts by the kernel) AND EACH ROW's TIE, after the 31st guide's Derived/Test/Toyas{Tie, Card}.lean. No idea stands in it: it is a product of the set-up. Laid BY PROGRAM, IN A SANDBOX (cutbox-door.mjs). By AI agents, Wed Nov 11 2026. No macro, syntax, notation, axiom, sorry.
-/
import Derived.Test.YthaoifcebimkfaaGreatDoorRows
import Derived.LaidByTextLater
import Derived.SevenTiedAt
import Derived.LaidSub
import Derived.LaidOnce
namespace Go.Proofs.YthaoifcebimkfaaGreatDoor
open Go
set_option maxRecDepth 100000
theorem seatTie1 : Tryz.prog.laidByTextLater [("attestor/typecheck.widths", Rows.laid_attestor_typecheck_widths)] [.mapped] true :=
  Program.laidByTextLater_by_one 39 8 2 (by kernel_rfl) (by kernel_rfl) (by kernel_rfl) (by kernel_rfl) (by kernel_rfl) (by kernel_rfl) (fun _ _ => by kernel_rfl)
theorem noOwnUnsafe : Tryz.pinned.checked.prog.headLifts.contains "ownunsafe" = false := by kernel_rfl
theorem tie : Tryz.prog.laidByTextLater [("attestor/typecheck.widths", Rows.laid_attestor_typecheck_widths)] [.mapped] true :=
  Program.laidByTextLater.sub seatTie1 ["attestor/typecheck.widths"] (by kernel_rfl) (by kernel_rfl)
theorem compileMatchesReference_row_tie : Rows.compileMatchesReferenceRow.laidByTextAt .later Tryz.pinned [.mapped] true :=
  OpenClaim.laidByTextAt_later rfl rfl tie noOwnUnsafe
theorem compileSoundness_row_tie : Rows.compileSoundnessRow.laidByTextAt .later Tryz.pinned [.mapped] true :=
  OpenClaim.laidByTextAt_later rfl rfl tie noOwnUnsafe
theorem compileUnusedColumns_row_tie : Rows.compileUnusedColumnsRow.laidByTextAt .later Tryz.pinned [.mapped] true :=
  OpenClaim.laidByTextAt_later rfl rfl tie noOwnUnsafe
theorem compileBitsAreForced_row_tie : Rows.compileBitsAreForcedRow.laidByTextAt .later Tryz.pinned [.mapped] true :=
  OpenClaim.laidByTextAt_later rfl rfl tie noOwnUnsafe
theorem compileShape_row_tie : Rows.compileShapeRow.laidByTextAt .later Tryz.pinned [.mapped] true :=
  OpenClaim.laidByTextAt_later rfl rfl tie noOwnUnsafe
theorem compileMatchesReferenceUpto_row_tie : Rows.compileMatchesReferenceUptoRow.laidByTextAt .later Tryz.pinned [.mapped] true :=
  OpenClaim.laidByTextAt_later rfl rfl tie noOwnUnsafe
theorem compileSoundnessUpto_row_tie : Rows.compileSoundnessUptoRow.laidByTextAt .later Tryz.pinned [.mapped] true :=
  OpenClaim.laidByTextAt_later rfl rfl tie noOwnUnsafe
theorem compileUnusedColumnsUpto_row_tie : Rows.compileUnusedColumnsUptoRow.laidByTextAt .later Tryz.pinned [.mapped] true :=
  OpenClaim.laidByTextAt_later rfl rfl tie noOwnUnsafe
theorem compileBitsAreForcedUpto_row_tie : Rows.compileBitsAreForcedUptoRow.laidByTextAt .later Tryz.pinned [.mapped] true :=
  OpenClaim.laidByTextAt_later rfl rfl tie noOwnUnsafe
theorem compileShapeUpto_row_tie : Rows.compileShapeUptoRow.laidByTextAt .later Tryz.pinned [.mapped] true :=
  OpenClaim.laidByTextAt_later rfl rfl tie noOwnUnsafe
end Go.Proofs.YthaoifcebimkfaaGreatDoor
