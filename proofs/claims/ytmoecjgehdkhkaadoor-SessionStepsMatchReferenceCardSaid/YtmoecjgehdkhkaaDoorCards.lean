/-
  DERIVED. GIVEN WITH THE SEED: THE CARDS: each row of YtmoecjgehdkhkaaDoorRows.lean that lists a variable, with what it lists TIED to the program's text (the seventh form; the later family's looks); each row that meets fmt, with fmt's text TOLD by the authors' own Lean function (tested against real Go, not proved from fmt's source: count such statements apart). THE CARD IS WHAT COUNTS. Prove the row's statement (the work); the ties are given (YtmoecjgehdkhkaaDoorTie.lean); close each card by the builder's one call (the guide's Derived/Test/ToyasCard.lean, 'card_holds'). Laid BY PROGRAM, IN A SANDBOX (cutbox-door.mjs). By AI agents, Wed Nov 11 2026. No macro, syntax, notation, axiom, sorry.
-/
import Derived.Test.YtmoecjgehdkhkaaDoorRows
import GoSem.ClaimSeven
namespace Go.Proofs.YtmoecjgehdkhkaaDoor
namespace Rows

/-- THE TIED CARD OF 'attestorlaw29.SessionCodecMatchesReference'. -/
def sessionCodecMatchesReferenceCard : Claim7 := { stood := { row := sessionCodecMatchesReferenceRow, standIns := [], harness := (true, "789ead3fcb4f3a803a3b9b9791c8ee6374435ee775b7567af9fd38d66b57f359"), looks := false }, kinds := [], alts := [], laidByText := true, laidKinds := [.data, .data, .funcs, .mapped], laidTests := true, laidLooks := .later }
def SessionCodecMatchesReferenceCardSaid : Prop := Claim7.holds Tryd.pinned (.plain (OpenSpec.ofChange sessionCodecMatchesReferenceSpec)) sessionCodecMatchesReferenceCard

/-- THE TIED CARD OF 'attestorlaw29.SessionStepsMatchReference'. -/
def sessionStepsMatchReferenceCard : Claim7 := { stood := { row := sessionStepsMatchReferenceRow, standIns := [], harness := (true, "789ead3fcb4f3a803a3b9b9791c8ee6374435ee775b7567af9fd38d66b57f359"), looks := false }, kinds := [], alts := [], laidByText := true, laidKinds := [.data, .data, .funcs, .mapped], laidTests := true, laidLooks := .later }
def SessionStepsMatchReferenceCardSaid : Prop := Claim7.holds Tryd.pinned (.plain (OpenSpec.ofChange sessionStepsMatchReferenceSpec)) sessionStepsMatchReferenceCard

/-- THE TIED CARD OF 'attestorlaw29.SessionCanonical'. -/
def sessionCanonicalCard : Claim7 := { stood := { row := sessionCanonicalRow, standIns := [], harness := (true, "789ead3fcb4f3a803a3b9b9791c8ee6374435ee775b7567af9fd38d66b57f359"), looks := false }, kinds := [], alts := [], laidByText := true, laidKinds := [.data, .data, .funcs, .mapped], laidTests := true, laidLooks := .later }
def SessionCanonicalCardSaid : Prop := Claim7.holds Tryd.pinned (.plain (OpenSpec.ofChange sessionCanonicalSpec)) sessionCanonicalCard

/-- THE TIED CARD OF 'attestorlaw29.SessionDeadline'. -/
def sessionDeadlineCard : Claim7 := { stood := { row := sessionDeadlineRow, standIns := [], harness := (true, "789ead3fcb4f3a803a3b9b9791c8ee6374435ee775b7567af9fd38d66b57f359"), looks := false }, kinds := [], alts := [], laidByText := true, laidKinds := [.data, .data, .funcs, .mapped], laidTests := true, laidLooks := .later }
def SessionDeadlineCardSaid : Prop := Claim7.holds Tryd.pinned (.plain (OpenSpec.ofChange sessionDeadlineSpec)) sessionDeadlineCard

/-- THE SECOND FORM's CARD OF 'attestorlaw29.SessionCodecMatchesReference'. -/
def sessionCodecMatchesReferenceUptoCard : Claim7 := { stood := { row := sessionCodecMatchesReferenceUptoRow, standIns := [], harness := (true, "789ead3fcb4f3a803a3b9b9791c8ee6374435ee775b7567af9fd38d66b57f359"), looks := false }, kinds := [], alts := [], laidByText := true, laidKinds := [.data, .data, .funcs, .mapped], laidTests := true, laidLooks := .later }
def SessionCodecMatchesReferenceUptoCardSaid : Prop := Claim7.holds Tryd.pinned (.plain (OpenSpec.upto sessionCodecMatchesReferenceSpec)) sessionCodecMatchesReferenceUptoCard

/-- THE SECOND FORM's CARD OF 'attestorlaw29.SessionStepsMatchReference'. -/
def sessionStepsMatchReferenceUptoCard : Claim7 := { stood := { row := sessionStepsMatchReferenceUptoRow, standIns := [], harness := (true, "789ead3fcb4f3a803a3b9b9791c8ee6374435ee775b7567af9fd38d66b57f359"), looks := false }, kinds := [], alts := [], laidByText := true, laidKinds := [.data, .data, .funcs, .mapped], laidTests := true, laidLooks := .later }
def SessionStepsMatchReferenceUptoCardSaid : Prop := Claim7.holds Tryd.pinned (.plain (OpenSpec.upto sessionStepsMatchReferenceSpec)) sessionStepsMatchReferenceUptoCard

/-- THE SECOND FORM's CARD OF 'attestorlaw29.SessionCanonical'. -/
def sessionCanonicalUptoCard : Claim7 := { stood := { row := sessionCanonicalUptoRow, standIns := [], harness := (true, "789ead3fcb4f3a803a3b9b9791c8ee6374435ee775b7567af9fd38d66b57f359"), looks := false }, kinds := [], alts := [], laidByText := true, laidKinds := [.data, .data, .funcs, .mapped], laidTests := true, laidLooks := .later }
def SessionCanonicalUptoCardSaid : Prop := Claim7.holds Tryd.pinned (.plain (OpenSpec.upto sessionCanonicalSpec)) sessionCanonicalUptoCard

/-- THE SECOND FORM's CARD OF 'attestorlaw29.SessionDeadline'. -/
def sessionDeadlineUptoCard : Claim7 := { stood := { row := sessionDeadlineUptoRow, standIns := [], harness := (true, "789ead3fcb4f3a803a3b9b9791c8ee6374435ee775b7567af9fd38d66b57f359"), looks := false }, kinds := [], alts := [], laidByText := true, laidKinds := [.data, .data, .funcs, .mapped], laidTests := true, laidLooks := .later }
def SessionDeadlineUptoCardSaid : Prop := Claim7.holds Tryd.pinned (.plain (OpenSpec.upto sessionDeadlineSpec)) sessionDeadlineUptoCard
end Rows
end Go.Proofs.YtmoecjgehdkhkaaDoor
