/-
  NARROWER THAN 'FOR EVERY INPUT', by the rows' own cells (each row's printed sentence says how): CompileMatchesReference: laid · CompileSoundness: laid · CompileUnusedColumns: laid · CompileBitsAreForced: laid · CompileShape: laid.
  DERIVED. THE GIVEN ROWS OF THIS SEAT. 5 by the template 'for every input the law returns true; each argument reads behind the call as it read before'; 0 by the template 'total and deterministic' (their statements: YthaoifcebimkfaaGreatDoorTotals.lean).
  GIVEN WITH THE SEED: the statements are not yours to turn. If you find one false, say at which input.
  Laid BY PROGRAM, IN A SANDBOX (cutbox-rows.mjs): the forced cells as the released guide's own fill.sh prints them over the translation 497b03cf8395b4c6… (all of the seat's roots in one cut). By AI agents, Wed Nov 11 2026. No macro, syntax, notation, axiom, sorry.
-/
import Derived.Test.YthaoifcebimkfaaGreatDoorChecked
import GoSem.Claim
import GoSem.ClaimJoined
import GoSem.ClaimMapViews
import Derived.JoinedTies
import Derived.KernelRfl
namespace Go.Proofs.YthaoifcebimkfaaGreatDoor
/- THE CELL 'sum', in the pinned program and in every row, IS THE sha256 OF THE DUMP (.gsa) THAT YthaoifcebimkfaaGreatDoorProg.lean LOADS. Nothing in Lean hashes anything: it is a label: what it is worth is what the hold of that sum in a sandbox is worth. -/
noncomputable def Tryz.pinned : Pinned := { name := "ythaoifcebimkfaagreatdoor", sum := "497b03cf8395b4c6fda3e2a4625ec5ffcd35c336a59d131babd10da28f1ce39d", checked := Tryz.checked }
namespace Rows
def none {H : Type} : Left H := { results := [], args := [] }

/- WHAT THE LISTED PACKAGE-LEVEL VARIABLES READ AS WHEN THE CALL BEGINS. Each datum BY PROGRAM (the guide's laid-datum.mjs) off the statement by which the dump's own 'gosem.cut.vars' lays the variable. In a bare row this is a premise. The card (YthaoifcebimkfaaGreatDoorCards.lean) ties it to the program's text. -/
def laid_attestor_typecheck_widths {H : Type} : DataW H := .map [(.int .i64 0, .lit (.int .i64 4)), (.int .i64 1, .lit (.int .i64 8)), (.int .i64 2, .lit (.int .i64 4)), (.int .i64 3, .lit (.int .i64 8)), (.int .i64 4, .lit (.int .i64 1))]

/-- 'attestorlaw18.CompileMatchesReference': WHATEVER THE INPUT: true; the input reads as it did. -/
def compileMatchesReferenceSpec : ChangeSpec := { name := "compileMatchesReference", fn := fun _ => fun
  | [d1, d2, d3, d4] => { results := [.lit (.bool true)], args := [d1, d2, d3, d4] }
  | _ => none }
def compileMatchesReferenceRow : OpenClaim := { program := "ythaoifcebimkfaagreatdoor", sum := "497b03cf8395b4c6fda3e2a4625ec5ffcd35c336a59d131babd10da28f1ce39d", func := "attestor/attestorlaw18.CompileMatchesReference", spec := "compileMatchesReference", inPlace := ["math/bits.Sub64"], unfollowed := true, recurses := true, named := ["attestor/typecheck.widths"], plainKeys := false, apart := false, laid := [("attestor/typecheck.widths", laid_attestor_typecheck_widths)] }
def CompileMatchesReferenceSaid : Prop := compileMatchesReferenceRow.holds Tryz.pinned (OpenSpec.ofChange compileMatchesReferenceSpec)

/-- ITS FALSE NEIGHBOUR: 'it returns false'. Refute it at one input. -/
def compileMatchesReferenceWrong : ChangeSpec := { name := "compileMatchesReference", fn := fun _ => fun
  | [d1, d2, d3, d4] => { results := [.lit (.bool false)], args := [d1, d2, d3, d4] }
  | _ => none }
def CompileMatchesReferenceWrongFalsely : Prop := compileMatchesReferenceRow.holds Tryz.pinned (OpenSpec.ofChange compileMatchesReferenceWrong)

/-- 'attestorlaw18.CompileSoundness': WHATEVER THE INPUT: true; the input reads as it did. -/
def compileSoundnessSpec : ChangeSpec := { name := "compileSoundness", fn := fun _ => fun
  | [d1, d2, d3] => { results := [.lit (.bool true)], args := [d1, d2, d3] }
  | _ => none }
def compileSoundnessRow : OpenClaim := { program := "ythaoifcebimkfaagreatdoor", sum := "497b03cf8395b4c6fda3e2a4625ec5ffcd35c336a59d131babd10da28f1ce39d", func := "attestor/attestorlaw18.CompileSoundness", spec := "compileSoundness", inPlace := ["math/bits.Sub64"], unfollowed := true, recurses := true, named := ["attestor/typecheck.widths"], plainKeys := false, apart := false, laid := [("attestor/typecheck.widths", laid_attestor_typecheck_widths)] }
def CompileSoundnessSaid : Prop := compileSoundnessRow.holds Tryz.pinned (OpenSpec.ofChange compileSoundnessSpec)

/-- ITS FALSE NEIGHBOUR: 'it returns false'. Refute it at one input. -/
def compileSoundnessWrong : ChangeSpec := { name := "compileSoundness", fn := fun _ => fun
  | [d1, d2, d3] => { results := [.lit (.bool false)], args := [d1, d2, d3] }
  | _ => none }
def CompileSoundnessWrongFalsely : Prop := compileSoundnessRow.holds Tryz.pinned (OpenSpec.ofChange compileSoundnessWrong)

/-- 'attestorlaw18.CompileUnusedColumns': WHATEVER THE INPUT: true; the input reads as it did. -/
def compileUnusedColumnsSpec : ChangeSpec := { name := "compileUnusedColumns", fn := fun _ => fun
  | [d1, d2, d3] => { results := [.lit (.bool true)], args := [d1, d2, d3] }
  | _ => none }
def compileUnusedColumnsRow : OpenClaim := { program := "ythaoifcebimkfaagreatdoor", sum := "497b03cf8395b4c6fda3e2a4625ec5ffcd35c336a59d131babd10da28f1ce39d", func := "attestor/attestorlaw18.CompileUnusedColumns", spec := "compileUnusedColumns", inPlace := ["math/bits.Sub64"], unfollowed := true, recurses := true, named := ["attestor/typecheck.widths"], plainKeys := false, apart := false, laid := [("attestor/typecheck.widths", laid_attestor_typecheck_widths)] }
def CompileUnusedColumnsSaid : Prop := compileUnusedColumnsRow.holds Tryz.pinned (OpenSpec.ofChange compileUnusedColumnsSpec)

/-- ITS FALSE NEIGHBOUR: 'it returns false'. Refute it at one input. -/
def compileUnusedColumnsWrong : ChangeSpec := { name := "compileUnusedColumns", fn := fun _ => fun
  | [d1, d2, d3] => { results := [.lit (.bool false)], args := [d1, d2, d3] }
  | _ => none }
def CompileUnusedColumnsWrongFalsely : Prop := compileUnusedColumnsRow.holds Tryz.pinned (OpenSpec.ofChange compileUnusedColumnsWrong)

/-- 'attestorlaw18.CompileBitsAreForced': WHATEVER THE INPUT: true; the input reads as it did. -/
def compileBitsAreForcedSpec : ChangeSpec := { name := "compileBitsAreForced", fn := fun _ => fun
  | [d1, d2, d3] => { results := [.lit (.bool true)], args := [d1, d2, d3] }
  | _ => none }
def compileBitsAreForcedRow : OpenClaim := { program := "ythaoifcebimkfaagreatdoor", sum := "497b03cf8395b4c6fda3e2a4625ec5ffcd35c336a59d131babd10da28f1ce39d", func := "attestor/attestorlaw18.CompileBitsAreForced", spec := "compileBitsAreForced", inPlace := ["math/bits.Sub64"], unfollowed := true, recurses := true, named := ["attestor/typecheck.widths"], plainKeys := false, apart := false, laid := [("attestor/typecheck.widths", laid_attestor_typecheck_widths)] }
def CompileBitsAreForcedSaid : Prop := compileBitsAreForcedRow.holds Tryz.pinned (OpenSpec.ofChange compileBitsAreForcedSpec)

/-- ITS FALSE NEIGHBOUR: 'it returns false'. Refute it at one input. -/
def compileBitsAreForcedWrong : ChangeSpec := { name := "compileBitsAreForced", fn := fun _ => fun
  | [d1, d2, d3] => { results := [.lit (.bool false)], args := [d1, d2, d3] }
  | _ => none }
def CompileBitsAreForcedWrongFalsely : Prop := compileBitsAreForcedRow.holds Tryz.pinned (OpenSpec.ofChange compileBitsAreForcedWrong)

/-- 'attestorlaw18.CompileShape': WHATEVER THE INPUT: true; the input reads as it did. -/
def compileShapeSpec : ChangeSpec := { name := "compileShape", fn := fun _ => fun
  | [d] => { results := [.lit (.bool true)], args := [d] }
  | _ => none }
def compileShapeRow : OpenClaim := { program := "ythaoifcebimkfaagreatdoor", sum := "497b03cf8395b4c6fda3e2a4625ec5ffcd35c336a59d131babd10da28f1ce39d", func := "attestor/attestorlaw18.CompileShape", spec := "compileShape", inPlace := ["math/bits.Sub64"], unfollowed := true, recurses := true, named := ["attestor/typecheck.widths"], plainKeys := false, apart := false, laid := [("attestor/typecheck.widths", laid_attestor_typecheck_widths)] }
def CompileShapeSaid : Prop := compileShapeRow.holds Tryz.pinned (OpenSpec.ofChange compileShapeSpec)

/-- ITS FALSE NEIGHBOUR: 'it returns false'. Refute it at one input. -/
def compileShapeWrong : ChangeSpec := { name := "compileShape", fn := fun _ => fun
  | [d] => { results := [.lit (.bool false)], args := [d] }
  | _ => none }
def CompileShapeWrongFalsely : Prop := compileShapeRow.holds Tryz.pinned (OpenSpec.ofChange compileShapeWrong)

/- THE SECOND FORM. 'bulk': how many values and letters a reading holds, each counted each time it is reached (what is shared counts as often as it is met; a slice's spare places count too). A statement '..UptoSaid' is the law's where the arguments, and the package variables that the reading takes, are together of bulk at most 1048576: NARROWER than '..Said'. Prove '..Said' where nothing that the law and all that it calls make is longer than what came in: it says more and counts as full. Else prove '..UptoSaid'. A law counts once. -/
mutual
def uptoBulk {H : Type} : DataW H → Nat
  | .lit (.string bytes) => bytes.length + 1
  | .lit _ => 1
  | .nil => 1
  | .ptr d => uptoBulk d + 1
  | .slice elems spare => uptoBulkAll elems + uptoBulkAll spare + 1
  | .agg parts => uptoBulkAll parts + 1
  | .iface _ d => uptoBulk d + 1
  | .map entries => uptoBulkEntries entries + 1
  | .held _ => 1
def uptoBulkAll {H : Type} : List (DataW H) → Nat
  | [] => 0
  | d :: r => uptoBulk d + uptoBulkAll r
def uptoBulkEntries {H : Type} : List (Lit × DataW H) → Nat
  | [] => 0
  | x :: r => uptoBulkEntry x + uptoBulkEntries r
def uptoBulkEntry {H : Type} : Lit × DataW H → Nat
  | (.string bytes, d) => bytes.length + uptoBulk d + 1
  | (_, d) => uptoBulk d + 1
 end
def uptoSmall : (H : Type) → List (DataW H) → Bool := fun _ ds => decide (uptoBulkAll ds ≤ 1048576)
def OpenSpec.upto (s : _root_.Go.ChangeSpec) : _root_.Go.OpenSpec := { _root_.Go.OpenSpec.ofChange s with cond := some uptoSmall }

/-- 'attestorlaw18.CompileMatchesReference', WHERE WHAT IT READS IS OF BULK AT MOST 1048576: true; the input reads as it did. -/
def compileMatchesReferenceUptoRow : OpenClaim := { program := "ythaoifcebimkfaagreatdoor", sum := "497b03cf8395b4c6fda3e2a4625ec5ffcd35c336a59d131babd10da28f1ce39d", func := "attestor/attestorlaw18.CompileMatchesReference", spec := "compileMatchesReference", inPlace := ["math/bits.Sub64"], unfollowed := true, recurses := true, named := ["attestor/typecheck.widths"], plainKeys := false, apart := false, laid := [("attestor/typecheck.widths", laid_attestor_typecheck_widths)], narrowed := true }
def CompileMatchesReferenceUptoSaid : Prop := compileMatchesReferenceUptoRow.holds Tryz.pinned (OpenSpec.upto compileMatchesReferenceSpec)

/-- 'attestorlaw18.CompileSoundness', WHERE WHAT IT READS IS OF BULK AT MOST 1048576: true; the input reads as it did. -/
def compileSoundnessUptoRow : OpenClaim := { program := "ythaoifcebimkfaagreatdoor", sum := "497b03cf8395b4c6fda3e2a4625ec5ffcd35c336a59d131babd10da28f1ce39d", func := "attestor/attestorlaw18.CompileSoundness", spec := "compileSoundness", inPlace := ["math/bits.Sub64"], unfollowed := true, recurses := true, named := ["attestor/typecheck.widths"], plainKeys := false, apart := false, laid := [("attestor/typecheck.widths", laid_attestor_typecheck_widths)], narrowed := true }
def CompileSoundnessUptoSaid : Prop := compileSoundnessUptoRow.holds Tryz.pinned (OpenSpec.upto compileSoundnessSpec)

/-- 'attestorlaw18.CompileUnusedColumns', WHERE WHAT IT READS IS OF BULK AT MOST 1048576: true; the input reads as it did. -/
def compileUnusedColumnsUptoRow : OpenClaim := { program := "ythaoifcebimkfaagreatdoor", sum := "497b03cf8395b4c6fda3e2a4625ec5ffcd35c336a59d131babd10da28f1ce39d", func := "attestor/attestorlaw18.CompileUnusedColumns", spec := "compileUnusedColumns", inPlace := ["math/bits.Sub64"], unfollowed := true, recurses := true, named := ["attestor/typecheck.widths"], plainKeys := false, apart := false, laid := [("attestor/typecheck.widths", laid_attestor_typecheck_widths)], narrowed := true }
def CompileUnusedColumnsUptoSaid : Prop := compileUnusedColumnsUptoRow.holds Tryz.pinned (OpenSpec.upto compileUnusedColumnsSpec)

/-- 'attestorlaw18.CompileBitsAreForced', WHERE WHAT IT READS IS OF BULK AT MOST 1048576: true; the input reads as it did. -/
def compileBitsAreForcedUptoRow : OpenClaim := { program := "ythaoifcebimkfaagreatdoor", sum := "497b03cf8395b4c6fda3e2a4625ec5ffcd35c336a59d131babd10da28f1ce39d", func := "attestor/attestorlaw18.CompileBitsAreForced", spec := "compileBitsAreForced", inPlace := ["math/bits.Sub64"], unfollowed := true, recurses := true, named := ["attestor/typecheck.widths"], plainKeys := false, apart := false, laid := [("attestor/typecheck.widths", laid_attestor_typecheck_widths)], narrowed := true }
def CompileBitsAreForcedUptoSaid : Prop := compileBitsAreForcedUptoRow.holds Tryz.pinned (OpenSpec.upto compileBitsAreForcedSpec)

/-- 'attestorlaw18.CompileShape', WHERE WHAT IT READS IS OF BULK AT MOST 1048576: true; the input reads as it did. -/
def compileShapeUptoRow : OpenClaim := { program := "ythaoifcebimkfaagreatdoor", sum := "497b03cf8395b4c6fda3e2a4625ec5ffcd35c336a59d131babd10da28f1ce39d", func := "attestor/attestorlaw18.CompileShape", spec := "compileShape", inPlace := ["math/bits.Sub64"], unfollowed := true, recurses := true, named := ["attestor/typecheck.widths"], plainKeys := false, apart := false, laid := [("attestor/typecheck.widths", laid_attestor_typecheck_widths)], narrowed := true }
def CompileShapeUptoSaid : Prop := compileShapeUptoRow.holds Tryz.pinned (OpenSpec.upto compileShapeSpec)

end Rows
end Go.Proofs.YthaoifcebimkfaaGreatDoor
