/-
  DERIVED. GIVEN WITH THE SEED: THE CARDS: each row of YthaoifcebimkfaaGreatDoorRows.lean that lists a variable, with what it lists TIED to the program's text (the seventh form; the later family's looks); each row that meets fmt, with fmt's text TOLD by the authors' own Lean function (tested against real Go, not proved from fmt's source: count such statements apart). THE CARD IS WHAT COUNTS. Prove the row's statement (the work); the ties are given (YthaoifcebimkfaaGreatDoorTie.lean); close each card by the builder's one call (the guide's Derived/Test/ToyasCard.lean, 'card_holds'). Laid BY PROGRAM, IN A SANDBOX (cutbox-door.mjs). By AI agents, Wed Nov 11 2026. No macro, syntax, notation, axiom, sorry.
-/
import Derived.Test.YthaoifcebimkfaaGreatDoorRows
import GoSem.ClaimSeven
namespace Go.Proofs.YthaoifcebimkfaaGreatDoor
namespace Rows

/-- THE TIED CARD OF 'attestorlaw18.CompileMatchesReference'. -/
def compileMatchesReferenceCard : Claim7 := { stood := { row := compileMatchesReferenceRow, standIns := [], harness := (true, "df008a20254bbb2ec33b9de949a9e295b98129dbe980ba0e3b70c9728f8ffc93"), looks := false }, kinds := [], alts := [], laidByText := true, laidKinds := [.mapped], laidTests := true, laidLooks := .later }
def CompileMatchesReferenceCardSaid : Prop := Claim7.holds Tryz.pinned (.plain (OpenSpec.ofChange compileMatchesReferenceSpec)) compileMatchesReferenceCard

/-- THE TIED CARD OF 'attestorlaw18.CompileSoundness'. -/
def compileSoundnessCard : Claim7 := { stood := { row := compileSoundnessRow, standIns := [], harness := (true, "df008a20254bbb2ec33b9de949a9e295b98129dbe980ba0e3b70c9728f8ffc93"), looks := false }, kinds := [], alts := [], laidByText := true, laidKinds := [.mapped], laidTests := true, laidLooks := .later }
def CompileSoundnessCardSaid : Prop := Claim7.holds Tryz.pinned (.plain (OpenSpec.ofChange compileSoundnessSpec)) compileSoundnessCard

/-- THE TIED CARD OF 'attestorlaw18.CompileUnusedColumns'. -/
def compileUnusedColumnsCard : Claim7 := { stood := { row := compileUnusedColumnsRow, standIns := [], harness := (true, "df008a20254bbb2ec33b9de949a9e295b98129dbe980ba0e3b70c9728f8ffc93"), looks := false }, kinds := [], alts := [], laidByText := true, laidKinds := [.mapped], laidTests := true, laidLooks := .later }
def CompileUnusedColumnsCardSaid : Prop := Claim7.holds Tryz.pinned (.plain (OpenSpec.ofChange compileUnusedColumnsSpec)) compileUnusedColumnsCard

/-- THE TIED CARD OF 'attestorlaw18.CompileBitsAreForced'. -/
def compileBitsAreForcedCard : Claim7 := { stood := { row := compileBitsAreForcedRow, standIns := [], harness := (true, "df008a20254bbb2ec33b9de949a9e295b98129dbe980ba0e3b70c9728f8ffc93"), looks := false }, kinds := [], alts := [], laidByText := true, laidKinds := [.mapped], laidTests := true, laidLooks := .later }
def CompileBitsAreForcedCardSaid : Prop := Claim7.holds Tryz.pinned (.plain (OpenSpec.ofChange compileBitsAreForcedSpec)) compileBitsAreForcedCard

/-- THE TIED CARD OF 'attestorlaw18.CompileShape'. -/
def compileShapeCard : Claim7 := { stood := { row := compileShapeRow, standIns := [], harness := (true, "df008a20254bbb2ec33b9de949a9e295b98129dbe980ba0e3b70c9728f8ffc93"), looks := false }, kinds := [], alts := [], laidByText := true, laidKinds := [.mapped], laidTests := true, laidLooks := .later }
def CompileShapeCardSaid : Prop := Claim7.holds Tryz.pinned (.plain (OpenSpec.ofChange compileShapeSpec)) compileShapeCard

/-- THE SECOND FORM's CARD OF 'attestorlaw18.CompileMatchesReference'. -/
def compileMatchesReferenceUptoCard : Claim7 := { stood := { row := compileMatchesReferenceUptoRow, standIns := [], harness := (true, "df008a20254bbb2ec33b9de949a9e295b98129dbe980ba0e3b70c9728f8ffc93"), looks := false }, kinds := [], alts := [], laidByText := true, laidKinds := [.mapped], laidTests := true, laidLooks := .later }
def CompileMatchesReferenceUptoCardSaid : Prop := Claim7.holds Tryz.pinned (.plain (OpenSpec.upto compileMatchesReferenceSpec)) compileMatchesReferenceUptoCard

/-- THE SECOND FORM's CARD OF 'attestorlaw18.CompileSoundness'. -/
def compileSoundnessUptoCard : Claim7 := { stood := { row := compileSoundnessUptoRow, standIns := [], harness := (true, "df008a20254bbb2ec33b9de949a9e295b98129dbe980ba0e3b70c9728f8ffc93"), looks := false }, kinds := [], alts := [], laidByText := true, laidKinds := [.mapped], laidTests := true, laidLooks := .later }
def CompileSoundnessUptoCardSaid : Prop := Claim7.holds Tryz.pinned (.plain (OpenSpec.upto compileSoundnessSpec)) compileSoundnessUptoCard

/-- THE SECOND FORM's CARD OF 'attestorlaw18.CompileUnusedColumns'. -/
def compileUnusedColumnsUptoCard : Claim7 := { stood := { row := compileUnusedColumnsUptoRow, standIns := [], harness := (true, "df008a20254bbb2ec33b9de949a9e295b98129dbe980ba0e3b70c9728f8ffc93"), looks := false }, kinds := [], alts := [], laidByText := true, laidKinds := [.mapped], laidTests := true, laidLooks := .later }
def CompileUnusedColumnsUptoCardSaid : Prop := Claim7.holds Tryz.pinned (.plain (OpenSpec.upto compileUnusedColumnsSpec)) compileUnusedColumnsUptoCard

/-- THE SECOND FORM's CARD OF 'attestorlaw18.CompileBitsAreForced'. -/
def compileBitsAreForcedUptoCard : Claim7 := { stood := { row := compileBitsAreForcedUptoRow, standIns := [], harness := (true, "df008a20254bbb2ec33b9de949a9e295b98129dbe980ba0e3b70c9728f8ffc93"), looks := false }, kinds := [], alts := [], laidByText := true, laidKinds := [.mapped], laidTests := true, laidLooks := .later }
def CompileBitsAreForcedUptoCardSaid : Prop := Claim7.holds Tryz.pinned (.plain (OpenSpec.upto compileBitsAreForcedSpec)) compileBitsAreForcedUptoCard

/-- THE SECOND FORM's CARD OF 'attestorlaw18.CompileShape'. -/
def compileShapeUptoCard : Claim7 := { stood := { row := compileShapeUptoRow, standIns := [], harness := (true, "df008a20254bbb2ec33b9de949a9e295b98129dbe980ba0e3b70c9728f8ffc93"), looks := false }, kinds := [], alts := [], laidByText := true, laidKinds := [.mapped], laidTests := true, laidLooks := .later }
def CompileShapeUptoCardSaid : Prop := Claim7.holds Tryz.pinned (.plain (OpenSpec.upto compileShapeSpec)) compileShapeUptoCard
end Rows
end Go.Proofs.YthaoifcebimkfaaGreatDoor
