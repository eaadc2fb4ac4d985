/-
  DERIVED. GIVEN WITH THE SEED: THE CARDS: each row of YtnanajdckbfamaaGreatDoorRows.lean that lists a variable, with what it lists TIED to the program's text (the seventh form; the later family's looks); each row that meets fmt, with fmt's text TOLD by the authors' own Lean function (tested against real Go, not proved from fmt's source: count such statements apart). THE CARD IS WHAT COUNTS. Prove the row's statement (the work); the ties are given (YtnanajdckbfamaaGreatDoorTie.lean); close each card by the builder's one call (the guide's Derived/Test/ToyasCard.lean, 'card_holds'). Laid BY PROGRAM, IN A SANDBOX (cutbox-door.mjs). By AI agents, Wed Nov 11 2026. No macro, syntax, notation, axiom, sorry.
-/
import Derived.Test.YtnanajdckbfamaaGreatDoorRows
import GoSem.ClaimSeven
namespace Go.Proofs.YtnanajdckbfamaaGreatDoor
namespace Rows

/-- THE TIED CARD OF 'ambidexterlaw13.ExpandMatchesReference'. -/
def expandMatchesReferenceCard : Claim7 := { stood := { row := expandMatchesReferenceRow, standIns := [], harness := (true, "79b07f9e792b2be16151c36957c204727ea69ad511092c52ed5b186020d21d47"), looks := true }, kinds := [], alts := [], laidByText := true, laidKinds := [.handle], laidTests := true, laidLooks := .later }
def ExpandMatchesReferenceCardSaid : Prop := Claim7.holds Tryz.pinned (.plain (OpenSpec.ofChange expandMatchesReferenceSpec)) expandMatchesReferenceCard

/-- THE TIED CARD OF 'ambidexterlaw13.ExpandStepsExecute'. -/
def expandStepsExecuteCard : Claim7 := { stood := { row := expandStepsExecuteRow, standIns := [], harness := (true, "79b07f9e792b2be16151c36957c204727ea69ad511092c52ed5b186020d21d47"), looks := true }, kinds := [], alts := [], laidByText := true, laidKinds := [.handle], laidTests := true, laidLooks := .later }
def ExpandStepsExecuteCardSaid : Prop := Claim7.holds Tryz.pinned (.plain (OpenSpec.ofChange expandStepsExecuteSpec)) expandStepsExecuteCard

/-- THE TIED CARD OF 'ambidexterlaw13.ExpandPartsConserved'. -/
def expandPartsConservedCard : Claim7 := { stood := { row := expandPartsConservedRow, standIns := [], harness := (true, "79b07f9e792b2be16151c36957c204727ea69ad511092c52ed5b186020d21d47"), looks := true }, kinds := [], alts := [], laidByText := true, laidKinds := [.handle], laidTests := true, laidLooks := .later }
def ExpandPartsConservedCardSaid : Prop := Claim7.holds Tryz.pinned (.plain (OpenSpec.ofChange expandPartsConservedSpec)) expandPartsConservedCard

/-- THE TIED CARD OF 'ambidexterlaw13.ExpandConcatenation'. -/
def expandConcatenationCard : Claim7 := { stood := { row := expandConcatenationRow, standIns := [], harness := (true, "79b07f9e792b2be16151c36957c204727ea69ad511092c52ed5b186020d21d47"), looks := true }, kinds := [], alts := [], laidByText := true, laidKinds := [.handle], laidTests := true, laidLooks := .later }
def ExpandConcatenationCardSaid : Prop := Claim7.holds Tryz.pinned (.plain (OpenSpec.ofChange expandConcatenationSpec)) expandConcatenationCard

/-- THE TIED CARD OF 'ambidexterlaw13.ExpandPickPut'. -/
def expandPickPutCard : Claim7 := { stood := { row := expandPickPutRow, standIns := [], harness := (true, "79b07f9e792b2be16151c36957c204727ea69ad511092c52ed5b186020d21d47"), looks := true }, kinds := [], alts := [], laidByText := true, laidKinds := [.handle], laidTests := true, laidLooks := .later }
def ExpandPickPutCardSaid : Prop := Claim7.holds Tryz.pinned (.plain (OpenSpec.ofChange expandPickPutSpec)) expandPickPutCard

/-- THE TIED CARD OF 'ambidexterlaw13.ExpandHandOver'. -/
def expandHandOverCard : Claim7 := { stood := { row := expandHandOverRow, standIns := [], harness := (true, "79b07f9e792b2be16151c36957c204727ea69ad511092c52ed5b186020d21d47"), looks := true }, kinds := [], alts := [], laidByText := true, laidKinds := [.handle], laidTests := true, laidLooks := .later }
def ExpandHandOverCardSaid : Prop := Claim7.holds Tryz.pinned (.plain (OpenSpec.ofChange expandHandOverSpec)) expandHandOverCard

/-- THE SECOND FORM's CARD OF 'ambidexterlaw13.ExpandMatchesReference'. -/
def expandMatchesReferenceUptoCard : Claim7 := { stood := { row := expandMatchesReferenceUptoRow, standIns := [], harness := (true, "79b07f9e792b2be16151c36957c204727ea69ad511092c52ed5b186020d21d47"), looks := true }, kinds := [], alts := [], laidByText := true, laidKinds := [.handle], laidTests := true, laidLooks := .later }
def ExpandMatchesReferenceUptoCardSaid : Prop := Claim7.holds Tryz.pinned (.plain (OpenSpec.upto expandMatchesReferenceSpec)) expandMatchesReferenceUptoCard

/-- THE SECOND FORM's CARD OF 'ambidexterlaw13.ExpandStepsExecute'. -/
def expandStepsExecuteUptoCard : Claim7 := { stood := { row := expandStepsExecuteUptoRow, standIns := [], harness := (true, "79b07f9e792b2be16151c36957c204727ea69ad511092c52ed5b186020d21d47"), looks := true }, kinds := [], alts := [], laidByText := true, laidKinds := [.handle], laidTests := true, laidLooks := .later }
def ExpandStepsExecuteUptoCardSaid : Prop := Claim7.holds Tryz.pinned (.plain (OpenSpec.upto expandStepsExecuteSpec)) expandStepsExecuteUptoCard

/-- THE SECOND FORM's CARD OF 'ambidexterlaw13.ExpandPartsConserved'. -/
def expandPartsConservedUptoCard : Claim7 := { stood := { row := expandPartsConservedUptoRow, standIns := [], harness := (true, "79b07f9e792b2be16151c36957c204727ea69ad511092c52ed5b186020d21d47"), looks := true }, kinds := [], alts := [], laidByText := true, laidKinds := [.handle], laidTests := true, laidLooks := .later }
def ExpandPartsConservedUptoCardSaid : Prop := Claim7.holds Tryz.pinned (.plain (OpenSpec.upto expandPartsConservedSpec)) expandPartsConservedUptoCard

/-- THE SECOND FORM's CARD OF 'ambidexterlaw13.ExpandConcatenation'. -/
def expandConcatenationUptoCard : Claim7 := { stood := { row := expandConcatenationUptoRow, standIns := [], harness := (true, "79b07f9e792b2be16151c36957c204727ea69ad511092c52ed5b186020d21d47"), looks := true }, kinds := [], alts := [], laidByText := true, laidKinds := [.handle], laidTests := true, laidLooks := .later }
def ExpandConcatenationUptoCardSaid : Prop := Claim7.holds Tryz.pinned (.plain (OpenSpec.upto expandConcatenationSpec)) expandConcatenationUptoCard

/-- THE SECOND FORM's CARD OF 'ambidexterlaw13.ExpandPickPut'. -/
def expandPickPutUptoCard : Claim7 := { stood := { row := expandPickPutUptoRow, standIns := [], harness := (true, "79b07f9e792b2be16151c36957c204727ea69ad511092c52ed5b186020d21d47"), looks := true }, kinds := [], alts := [], laidByText := true, laidKinds := [.handle], laidTests := true, laidLooks := .later }
def ExpandPickPutUptoCardSaid : Prop := Claim7.holds Tryz.pinned (.plain (OpenSpec.upto expandPickPutSpec)) expandPickPutUptoCard

/-- THE SECOND FORM's CARD OF 'ambidexterlaw13.ExpandHandOver'. -/
def expandHandOverUptoCard : Claim7 := { stood := { row := expandHandOverUptoRow, standIns := [], harness := (true, "79b07f9e792b2be16151c36957c204727ea69ad511092c52ed5b186020d21d47"), looks := true }, kinds := [], alts := [], laidByText := true, laidKinds := [.handle], laidTests := true, laidLooks := .later }
def ExpandHandOverUptoCardSaid : Prop := Claim7.holds Tryz.pinned (.plain (OpenSpec.upto expandHandOverSpec)) expandHandOverUptoCard
end Rows
end Go.Proofs.YtnanajdckbfamaaGreatDoor
