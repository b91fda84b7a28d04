/-
  DERIVED. GIVEN WITH THE SEED: THE CARDS: each row of YtdpfkanfahchjaaDoorRows.lean that lists a variable, with what it lists TIED to the program's text (the seventh form; the later family's looks); each row that meets fmt, with fmt's text TOLD by the authors' own Lean function (tested against real Go, not proved from fmt's source: count such statements apart). THE CARD IS WHAT COUNTS. Prove the row's statement (the work); the ties are given (YtdpfkanfahchjaaDoorTie.lean); close each card by the builder's one call (the guide's Derived/Test/ToyasCard.lean, 'card_holds'). Laid BY PROGRAM, IN A SANDBOX (cutbox-door.mjs). By AI agents, Wed Nov 11 2026. No macro, syntax, notation, axiom, sorry.
-/
import Derived.Test.YtdpfkanfahchjaaDoorRows
import GoSem.ClaimSeven
namespace Go.Proofs.YtdpfkanfahchjaaDoor
namespace Rows

/-- THE TIED CARD OF 'attestorlaw27.ColstoreMatchesReference'. -/
def colstoreMatchesReferenceCard : Claim7 := { stood := { row := colstoreMatchesReferenceRow, standIns := [], harness := (true, "4cf737297d14a7a50d3a3d93f1fd8cb613d69f17c079758b85e97a74aadc963e"), looks := false }, kinds := [], alts := [], laidByText := true, laidKinds := [.data, .data], laidTests := true, laidLooks := .later }
def ColstoreMatchesReferenceCardSaid : Prop := Claim7.holds Tryd.pinned (.plain (OpenSpec.ofChange colstoreMatchesReferenceSpec)) colstoreMatchesReferenceCard

/-- THE TIED CARD OF 'attestorlaw27.ColstoreLoadMatchesReference'. -/
def colstoreLoadMatchesReferenceCard : Claim7 := { stood := { row := colstoreLoadMatchesReferenceRow, standIns := [], harness := (true, "4cf737297d14a7a50d3a3d93f1fd8cb613d69f17c079758b85e97a74aadc963e"), looks := false }, kinds := [], alts := [], laidByText := true, laidKinds := [.data, .data], laidTests := true, laidLooks := .later }
def ColstoreLoadMatchesReferenceCardSaid : Prop := Claim7.holds Tryd.pinned (.plain (OpenSpec.ofChange colstoreLoadMatchesReferenceSpec)) colstoreLoadMatchesReferenceCard

/-- THE TIED CARD OF 'attestorlaw27.ColstoreDurability'. -/
def colstoreDurabilityCard : Claim7 := { stood := { row := colstoreDurabilityRow, standIns := [], harness := (true, "4cf737297d14a7a50d3a3d93f1fd8cb613d69f17c079758b85e97a74aadc963e"), looks := false }, kinds := [], alts := [], laidByText := true, laidKinds := [.data, .data], laidTests := true, laidLooks := .later }
def ColstoreDurabilityCardSaid : Prop := Claim7.holds Tryd.pinned (.plain (OpenSpec.ofChange colstoreDurabilitySpec)) colstoreDurabilityCard

/-- THE TIED CARD OF 'attestorlaw27.ColstoreCorruption'. -/
def colstoreCorruptionCard : Claim7 := { stood := { row := colstoreCorruptionRow, standIns := [], harness := (true, "4cf737297d14a7a50d3a3d93f1fd8cb613d69f17c079758b85e97a74aadc963e"), looks := false }, kinds := [], alts := [], laidByText := true, laidKinds := [.data, .data], laidTests := true, laidLooks := .later }
def ColstoreCorruptionCardSaid : Prop := Claim7.holds Tryd.pinned (.plain (OpenSpec.ofChange colstoreCorruptionSpec)) colstoreCorruptionCard

/-- THE TIED CARD OF 'attestorlaw27.ColstoreCompression'. -/
def colstoreCompressionCard : Claim7 := { stood := { row := colstoreCompressionRow, standIns := [], harness := (true, "4cf737297d14a7a50d3a3d93f1fd8cb613d69f17c079758b85e97a74aadc963e"), looks := false }, kinds := [], alts := [], laidByText := true, laidKinds := [.data, .data], laidTests := true, laidLooks := .later }
def ColstoreCompressionCardSaid : Prop := Claim7.holds Tryd.pinned (.plain (OpenSpec.ofChange colstoreCompressionSpec)) colstoreCompressionCard

/-- THE TIED CARD OF 'attestorlaw27.ColstoreRepair'. -/
def colstoreRepairCard : Claim7 := { stood := { row := colstoreRepairRow, standIns := [], harness := (true, "4cf737297d14a7a50d3a3d93f1fd8cb613d69f17c079758b85e97a74aadc963e"), looks := false }, kinds := [], alts := [], laidByText := true, laidKinds := [.data, .data], laidTests := true, laidLooks := .later }
def ColstoreRepairCardSaid : Prop := Claim7.holds Tryd.pinned (.plain (OpenSpec.ofChange colstoreRepairSpec)) colstoreRepairCard

/-- THE SECOND FORM's CARD OF 'attestorlaw27.ColstoreMatchesReference'. -/
def colstoreMatchesReferenceUptoCard : Claim7 := { stood := { row := colstoreMatchesReferenceUptoRow, standIns := [], harness := (true, "4cf737297d14a7a50d3a3d93f1fd8cb613d69f17c079758b85e97a74aadc963e"), looks := false }, kinds := [], alts := [], laidByText := true, laidKinds := [.data, .data], laidTests := true, laidLooks := .later }
def ColstoreMatchesReferenceUptoCardSaid : Prop := Claim7.holds Tryd.pinned (.plain (OpenSpec.upto colstoreMatchesReferenceSpec)) colstoreMatchesReferenceUptoCard

/-- THE SECOND FORM's CARD OF 'attestorlaw27.ColstoreLoadMatchesReference'. -/
def colstoreLoadMatchesReferenceUptoCard : Claim7 := { stood := { row := colstoreLoadMatchesReferenceUptoRow, standIns := [], harness := (true, "4cf737297d14a7a50d3a3d93f1fd8cb613d69f17c079758b85e97a74aadc963e"), looks := false }, kinds := [], alts := [], laidByText := true, laidKinds := [.data, .data], laidTests := true, laidLooks := .later }
def ColstoreLoadMatchesReferenceUptoCardSaid : Prop := Claim7.holds Tryd.pinned (.plain (OpenSpec.upto colstoreLoadMatchesReferenceSpec)) colstoreLoadMatchesReferenceUptoCard

/-- THE SECOND FORM's CARD OF 'attestorlaw27.ColstoreDurability'. -/
def colstoreDurabilityUptoCard : Claim7 := { stood := { row := colstoreDurabilityUptoRow, standIns := [], harness := (true, "4cf737297d14a7a50d3a3d93f1fd8cb613d69f17c079758b85e97a74aadc963e"), looks := false }, kinds := [], alts := [], laidByText := true, laidKinds := [.data, .data], laidTests := true, laidLooks := .later }
def ColstoreDurabilityUptoCardSaid : Prop := Claim7.holds Tryd.pinned (.plain (OpenSpec.upto colstoreDurabilitySpec)) colstoreDurabilityUptoCard

/-- THE SECOND FORM's CARD OF 'attestorlaw27.ColstoreCorruption'. -/
def colstoreCorruptionUptoCard : Claim7 := { stood := { row := colstoreCorruptionUptoRow, standIns := [], harness := (true, "4cf737297d14a7a50d3a3d93f1fd8cb613d69f17c079758b85e97a74aadc963e"), looks := false }, kinds := [], alts := [], laidByText := true, laidKinds := [.data, .data], laidTests := true, laidLooks := .later }
def ColstoreCorruptionUptoCardSaid : Prop := Claim7.holds Tryd.pinned (.plain (OpenSpec.upto colstoreCorruptionSpec)) colstoreCorruptionUptoCard

/-- THE SECOND FORM's CARD OF 'attestorlaw27.ColstoreCompression'. -/
def colstoreCompressionUptoCard : Claim7 := { stood := { row := colstoreCompressionUptoRow, standIns := [], harness := (true, "4cf737297d14a7a50d3a3d93f1fd8cb613d69f17c079758b85e97a74aadc963e"), looks := false }, kinds := [], alts := [], laidByText := true, laidKinds := [.data, .data], laidTests := true, laidLooks := .later }
def ColstoreCompressionUptoCardSaid : Prop := Claim7.holds Tryd.pinned (.plain (OpenSpec.upto colstoreCompressionSpec)) colstoreCompressionUptoCard

/-- THE SECOND FORM's CARD OF 'attestorlaw27.ColstoreRepair'. -/
def colstoreRepairUptoCard : Claim7 := { stood := { row := colstoreRepairUptoRow, standIns := [], harness := (true, "4cf737297d14a7a50d3a3d93f1fd8cb613d69f17c079758b85e97a74aadc963e"), looks := false }, kinds := [], alts := [], laidByText := true, laidKinds := [.data, .data], laidTests := true, laidLooks := .later }
def ColstoreRepairUptoCardSaid : Prop := Claim7.holds Tryd.pinned (.plain (OpenSpec.upto colstoreRepairSpec)) colstoreRepairUptoCard
end Rows
end Go.Proofs.YtdpfkanfahchjaaDoor
