/-
  DERIVED. GIVEN WITH THE SEED: THE CARDS: each row of YtfagmflapdgcmaaDoorRows.lean that lists a variable, with what it lists TIED to the program's text (the seventh form; the later family's looks); each row that meets fmt, with fmt's text TOLD by the authors' own Lean function (tested against real Go, not proved from fmt's source: count such statements apart). THE CARD IS WHAT COUNTS. Prove the row's statement (the work); the ties are given (YtfagmflapdgcmaaDoorTie.lean); close each card by the builder's one call (the guide's Derived/Test/ToyasCard.lean, 'card_holds'). Laid BY PROGRAM, IN A SANDBOX (cutbox-door.mjs). By AI agents, Wed Nov 11 2026. No macro, syntax, notation, axiom, sorry.
-/
import Derived.Test.YtfagmflapdgcmaaDoorRows
import GoSem.ClaimSeven
namespace Go.Proofs.YtfagmflapdgcmaaDoor
namespace Rows

/-- THE TIED CARD OF 'paideialaw12.ClassesAbove'. -/
def classesAboveCard : Claim7 := { stood := { row := classesAboveRow, standIns := [], harness := (true, "734e0da8e2861b63930aa4c4f96906b076120bf48a6afce8581550042e3bb685"), looks := true }, kinds := [], alts := [], laidByText := true, laidKinds := [.sentinel, .sentinel, .sentinel, .sentinel, .sentinel, .sentinel, .sentinel, .sentinel, .sentinel, .sentinel, .sentinel, .sentinel, .sentinel, .sentinel, .sentinel], laidTests := true, laidLooks := .later }
def ClassesAboveCardSaid : Prop := Claim7.holds Tryd.pinned (.plain (OpenSpec.ofChange classesAboveSpec)) classesAboveCard

/-- THE SECOND FORM's CARD OF 'paideialaw12.ClassesAbove'. -/
def classesAboveUptoCard : Claim7 := { stood := { row := classesAboveUptoRow, standIns := [], harness := (true, "734e0da8e2861b63930aa4c4f96906b076120bf48a6afce8581550042e3bb685"), looks := true }, kinds := [], alts := [], laidByText := true, laidKinds := [.sentinel, .sentinel, .sentinel, .sentinel, .sentinel, .sentinel, .sentinel, .sentinel, .sentinel, .sentinel, .sentinel, .sentinel, .sentinel, .sentinel, .sentinel], laidTests := true, laidLooks := .later }
def ClassesAboveUptoCardSaid : Prop := Claim7.holds Tryd.pinned (.plain (OpenSpec.upto classesAboveSpec)) classesAboveUptoCard
end Rows
end Go.Proofs.YtfagmflapdgcmaaDoor
