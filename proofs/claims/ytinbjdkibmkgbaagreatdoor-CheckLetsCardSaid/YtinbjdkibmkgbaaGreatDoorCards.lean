/-
  DERIVED. GIVEN WITH THE SEED: THE CARDS: each row of YtinbjdkibmkgbaaGreatDoorRows.lean that lists a variable, with what it lists TIED to the program's text (the seventh form; the later family's looks); each row that meets fmt, with fmt's text TOLD by the authors' own Lean function (tested against real Go, not proved from fmt's source: count such statements apart). THE CARD IS WHAT COUNTS. Prove the row's statement (the work); the ties are given (YtinbjdkibmkgbaaGreatDoorTie.lean); close each card by the builder's one call (the guide's Derived/Test/ToyasCard.lean, 'card_holds'). Laid BY PROGRAM, IN A SANDBOX (cutbox-door.mjs). By AI agents, Wed Nov 11 2026. No macro, syntax, notation, axiom, sorry.
-/
import Derived.Test.YtinbjdkibmkgbaaGreatDoorRows
import GoSem.ClaimSeven
namespace Go.Proofs.YtinbjdkibmkgbaaGreatDoor
namespace Rows

/-- THE TIED CARD OF 'paideialaw18.CheckLets'. -/
def checkLetsCard : Claim7 := { stood := { row := checkLetsRow, standIns := [], harness := (true, "4d66cb3ee4341ab78239d4954191e6815f72d00bd84f1bdfe7449e1de77976d9"), looks := false }, kinds := [], alts := [], laidByText := true, laidKinds := [.data, .data, .data, .sentinel, .sentinel, .sentinel], laidTests := true, laidLooks := .later }
def CheckLetsCardSaid : Prop := Claim7.holds Tryz.pinned (.plain (OpenSpec.ofChange checkLetsSpec)) checkLetsCard

/-- THE SECOND FORM's CARD OF 'paideialaw18.CheckLets'. -/
def checkLetsUptoCard : Claim7 := { stood := { row := checkLetsUptoRow, standIns := [], harness := (true, "4d66cb3ee4341ab78239d4954191e6815f72d00bd84f1bdfe7449e1de77976d9"), looks := false }, kinds := [], alts := [], laidByText := true, laidKinds := [.data, .data, .data, .sentinel, .sentinel, .sentinel], laidTests := true, laidLooks := .later }
def CheckLetsUptoCardSaid : Prop := Claim7.holds Tryz.pinned (.plain (OpenSpec.upto checkLetsSpec)) checkLetsUptoCard
end Rows
end Go.Proofs.YtinbjdkibmkgbaaGreatDoor
