/-
  DERIVED. GIVEN WITH THE SEED: THE CARDS: each row of YtkohipalihjbbaaGreatDoorRows.lean that lists a variable, with what it lists TIED to the program's text (the seventh form; the later family's looks); each row that meets fmt, with fmt's text TOLD by the authors' own Lean function (tested against real Go, not proved from fmt's source: count such statements apart). THE CARD IS WHAT COUNTS. Prove the row's statement (the work); the ties are given (YtkohipalihjbbaaGreatDoorTie.lean); close each card by the builder's one call (the guide's Derived/Test/ToyasCard.lean, 'card_holds'). Laid BY PROGRAM, IN A SANDBOX (cutbox-door.mjs). By AI agents, Wed Nov 11 2026. No macro, syntax, notation, axiom, sorry.
-/
import Derived.Test.YtkohipalihjbbaaGreatDoorRows
import GoSem.ClaimSeven
namespace Go.Proofs.YtkohipalihjbbaaGreatDoor
namespace Rows

/-- THE TIED CARD OF 'paideialaw13.InstsRows'. -/
def instsRowsCard : Claim7 := { stood := { row := instsRowsRow, standIns := [], harness := (true, "fc92d296de37ad4f1f89962c18e22e067594cff3f890603ac08d156aaa8395ab"), looks := true }, kinds := [], alts := [], laidByText := true, laidKinds := [.sentinel, .sentinel, .sentinel, .sentinel, .sentinel, .sentinel, .sentinel, .sentinel, .sentinel, .sentinel, .sentinel, .sentinel, .sentinel, .sentinel, .sentinel], laidTests := true, laidLooks := .later }
def InstsRowsCardSaid : Prop := Claim7.holds Tryz.pinned (.plain (OpenSpec.ofChange instsRowsSpec)) instsRowsCard

/-- THE SECOND FORM's CARD OF 'paideialaw13.InstsRows'. -/
def instsRowsUptoCard : Claim7 := { stood := { row := instsRowsUptoRow, standIns := [], harness := (true, "fc92d296de37ad4f1f89962c18e22e067594cff3f890603ac08d156aaa8395ab"), looks := true }, kinds := [], alts := [], laidByText := true, laidKinds := [.sentinel, .sentinel, .sentinel, .sentinel, .sentinel, .sentinel, .sentinel, .sentinel, .sentinel, .sentinel, .sentinel, .sentinel, .sentinel, .sentinel, .sentinel], laidTests := true, laidLooks := .later }
def InstsRowsUptoCardSaid : Prop := Claim7.holds Tryz.pinned (.plain (OpenSpec.upto instsRowsSpec)) instsRowsUptoCard
end Rows
end Go.Proofs.YtkohipalihjbbaaGreatDoor
