/-
  DERIVED. GIVEN WITH THE SEED: THE CARDS: each row of YtjagadjljllabaaGreatDoorRows.lean that lists a variable, with what it lists TIED to the program's text (the seventh form; the later family's looks); each row that meets fmt, with fmt's text TOLD by the authors' own Lean function (tested against real Go, not proved from fmt's source: count such statements apart). THE CARD IS WHAT COUNTS. Prove the row's statement (the work); the ties are given (YtjagadjljllabaaGreatDoorTie.lean); close each card by the builder's one call (the guide's Derived/Test/ToyasCard.lean, 'card_holds'). Laid BY PROGRAM, IN A SANDBOX (cutbox-door.mjs). By AI agents, Wed Nov 11 2026. No macro, syntax, notation, axiom, sorry.
-/
import Derived.Test.YtjagadjljllabaaGreatDoorRows
import GoSem.ClaimSeven
namespace Go.Proofs.YtjagadjljllabaaGreatDoor
namespace Rows

/-- THE TIED CARD OF 'paideialaw12.ClassesWrong'. -/
def classesWrongCard : Claim7 := { stood := { row := classesWrongRow, standIns := [], harness := (true, "4621aaf1a95dee3bb82f453a7062401d36a9e9ec32bb709d6a77b7515e896e7f"), looks := true }, kinds := [], alts := [], laidByText := true, laidKinds := [.sentinel, .sentinel, .sentinel, .sentinel, .sentinel, .sentinel, .sentinel, .sentinel, .sentinel, .sentinel, .sentinel, .sentinel, .sentinel, .sentinel, .sentinel], laidTests := true, laidLooks := .later }
def ClassesWrongCardSaid : Prop := Claim7.holds Tryz.pinned (.plain (OpenSpec.ofChange classesWrongSpec)) classesWrongCard

/-- THE TIED CARD OF 'paideialaw12.ClassesSchemes'. -/
def classesSchemesCard : Claim7 := { stood := { row := classesSchemesRow, standIns := [], harness := (true, "4621aaf1a95dee3bb82f453a7062401d36a9e9ec32bb709d6a77b7515e896e7f"), looks := true }, kinds := [], alts := [], laidByText := true, laidKinds := [.sentinel, .sentinel, .sentinel, .sentinel], laidTests := true, laidLooks := .later }
def ClassesSchemesCardSaid : Prop := Claim7.holds Tryz.pinned (.plain (OpenSpec.ofChange classesSchemesSpec)) classesSchemesCard

/-- THE TIED CARD OF 'paideialaw13.InstsWrong'. -/
def instsWrongCard : Claim7 := { stood := { row := instsWrongRow, standIns := [], harness := (true, "4621aaf1a95dee3bb82f453a7062401d36a9e9ec32bb709d6a77b7515e896e7f"), looks := true }, kinds := [], alts := [], laidByText := true, laidKinds := [.sentinel, .sentinel, .sentinel, .sentinel, .sentinel, .sentinel, .sentinel, .sentinel, .sentinel, .sentinel, .sentinel, .sentinel, .sentinel, .sentinel, .sentinel], laidTests := true, laidLooks := .later }
def InstsWrongCardSaid : Prop := Claim7.holds Tryz.pinned (.plain (OpenSpec.ofChange instsWrongSpec)) instsWrongCard

/-- THE TIED CARD OF 'paideialaw18.CheckErrors'. -/
def checkErrorsCard : Claim7 := { stood := { row := checkErrorsRow, standIns := [], harness := (true, "4621aaf1a95dee3bb82f453a7062401d36a9e9ec32bb709d6a77b7515e896e7f"), looks := true }, kinds := [], alts := [], laidByText := true, laidKinds := [.data, .data, .data, .sentinel, .sentinel, .sentinel, .sentinel, .sentinel, .sentinel, .sentinel, .sentinel, .sentinel, .sentinel, .sentinel, .sentinel, .sentinel, .sentinel, .sentinel], laidTests := true, laidLooks := .later }
def CheckErrorsCardSaid : Prop := Claim7.holds Tryz.pinned (.plain (OpenSpec.ofChange checkErrorsSpec)) checkErrorsCard

/-- THE SECOND FORM's CARD OF 'paideialaw12.ClassesWrong'. -/
def classesWrongUptoCard : Claim7 := { stood := { row := classesWrongUptoRow, standIns := [], harness := (true, "4621aaf1a95dee3bb82f453a7062401d36a9e9ec32bb709d6a77b7515e896e7f"), looks := true }, kinds := [], alts := [], laidByText := true, laidKinds := [.sentinel, .sentinel, .sentinel, .sentinel, .sentinel, .sentinel, .sentinel, .sentinel, .sentinel, .sentinel, .sentinel, .sentinel, .sentinel, .sentinel, .sentinel], laidTests := true, laidLooks := .later }
def ClassesWrongUptoCardSaid : Prop := Claim7.holds Tryz.pinned (.plain (OpenSpec.upto classesWrongSpec)) classesWrongUptoCard

/-- THE SECOND FORM's CARD OF 'paideialaw12.ClassesSchemes'. -/
def classesSchemesUptoCard : Claim7 := { stood := { row := classesSchemesUptoRow, standIns := [], harness := (true, "4621aaf1a95dee3bb82f453a7062401d36a9e9ec32bb709d6a77b7515e896e7f"), looks := true }, kinds := [], alts := [], laidByText := true, laidKinds := [.sentinel, .sentinel, .sentinel, .sentinel], laidTests := true, laidLooks := .later }
def ClassesSchemesUptoCardSaid : Prop := Claim7.holds Tryz.pinned (.plain (OpenSpec.upto classesSchemesSpec)) classesSchemesUptoCard

/-- THE SECOND FORM's CARD OF 'paideialaw13.InstsWrong'. -/
def instsWrongUptoCard : Claim7 := { stood := { row := instsWrongUptoRow, standIns := [], harness := (true, "4621aaf1a95dee3bb82f453a7062401d36a9e9ec32bb709d6a77b7515e896e7f"), looks := true }, kinds := [], alts := [], laidByText := true, laidKinds := [.sentinel, .sentinel, .sentinel, .sentinel, .sentinel, .sentinel, .sentinel, .sentinel, .sentinel, .sentinel, .sentinel, .sentinel, .sentinel, .sentinel, .sentinel], laidTests := true, laidLooks := .later }
def InstsWrongUptoCardSaid : Prop := Claim7.holds Tryz.pinned (.plain (OpenSpec.upto instsWrongSpec)) instsWrongUptoCard

/-- THE SECOND FORM's CARD OF 'paideialaw18.CheckErrors'. -/
def checkErrorsUptoCard : Claim7 := { stood := { row := checkErrorsUptoRow, standIns := [], harness := (true, "4621aaf1a95dee3bb82f453a7062401d36a9e9ec32bb709d6a77b7515e896e7f"), looks := true }, kinds := [], alts := [], laidByText := true, laidKinds := [.data, .data, .data, .sentinel, .sentinel, .sentinel, .sentinel, .sentinel, .sentinel, .sentinel, .sentinel, .sentinel, .sentinel, .sentinel, .sentinel, .sentinel, .sentinel, .sentinel], laidTests := true, laidLooks := .later }
def CheckErrorsUptoCardSaid : Prop := Claim7.holds Tryz.pinned (.plain (OpenSpec.upto checkErrorsSpec)) checkErrorsUptoCard
end Rows
end Go.Proofs.YtjagadjljllabaaGreatDoor
