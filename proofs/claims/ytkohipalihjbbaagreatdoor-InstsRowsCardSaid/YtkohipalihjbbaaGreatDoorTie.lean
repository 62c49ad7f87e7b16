/-
  DERIVED. GIVEN WITH THE SEED: THE PROGRAM's TIES (one call each: nine closed facts by the kernel) AND EACH ROW's TIE, after the 31st guide's Derived/Test/Toyas{Tie, Card}.lean. No idea stands in it: it is a product of the set-up. Laid BY PROGRAM, IN A SANDBOX (cutbox-door.mjs). By AI agents, Wed Nov 11 2026. No macro, syntax, notation, axiom, sorry.
-/
import Derived.Test.YtkohipalihjbbaaGreatDoorRows
import Derived.LaidByTextLater
import Derived.SevenTiedAt
import Derived.LaidSub
import Derived.LaidOnce
namespace Go.Proofs.YtkohipalihjbbaaGreatDoor
open Go
set_option maxRecDepth 100000
theorem seatTie1 : Tryz.prog.laidByTextLater [("paideia/api.ErrLex", Rows.laid_paideia_api_ErrLex), ("paideia/api.ErrParse", Rows.laid_paideia_api_ErrParse), ("paideia/api.ErrScope", Rows.laid_paideia_api_ErrScope), ("paideia/api.ErrTwice", Rows.laid_paideia_api_ErrTwice), ("paideia/api.ErrClass", Rows.laid_paideia_api_ErrClass), ("paideia/api.ErrType", Rows.laid_paideia_api_ErrType), ("paideia/api.ErrOccur", Rows.laid_paideia_api_ErrOccur), ("paideia/api.ErrKind", Rows.laid_paideia_api_ErrKind), ("paideia/api.ErrAmbig", Rows.laid_paideia_api_ErrAmbig), ("paideia/api.ErrNone", Rows.laid_paideia_api_ErrNone), ("paideia/api.ErrLimit", Rows.laid_paideia_api_ErrLimit), ("paideia/api.ErrFuel", Rows.laid_paideia_api_ErrFuel), ("paideia/api.ErrHeap", Rows.laid_paideia_api_ErrHeap), ("paideia/api.ErrBlack", Rows.laid_paideia_api_ErrBlack), ("paideia/api.ErrMatch", Rows.laid_paideia_api_ErrMatch)] [.sentinel, .sentinel, .sentinel, .sentinel, .sentinel, .sentinel, .sentinel, .sentinel, .sentinel, .sentinel, .sentinel, .sentinel, .sentinel, .sentinel, .sentinel] true :=
  Program.laidByTextLater_by_one 294 8 2 (by kernel_rfl) (by kernel_rfl) (by kernel_rfl) (by kernel_rfl) (by kernel_rfl) (by kernel_rfl) (fun _ _ => by kernel_rfl)
theorem noOwnUnsafe : Tryz.pinned.checked.prog.headLifts.contains "ownunsafe" = false := by kernel_rfl
theorem tie : Tryz.prog.laidByTextLater [("paideia/api.ErrLex", Rows.laid_paideia_api_ErrLex), ("paideia/api.ErrParse", Rows.laid_paideia_api_ErrParse), ("paideia/api.ErrScope", Rows.laid_paideia_api_ErrScope), ("paideia/api.ErrTwice", Rows.laid_paideia_api_ErrTwice), ("paideia/api.ErrClass", Rows.laid_paideia_api_ErrClass), ("paideia/api.ErrType", Rows.laid_paideia_api_ErrType), ("paideia/api.ErrOccur", Rows.laid_paideia_api_ErrOccur), ("paideia/api.ErrKind", Rows.laid_paideia_api_ErrKind), ("paideia/api.ErrAmbig", Rows.laid_paideia_api_ErrAmbig), ("paideia/api.ErrNone", Rows.laid_paideia_api_ErrNone), ("paideia/api.ErrLimit", Rows.laid_paideia_api_ErrLimit), ("paideia/api.ErrFuel", Rows.laid_paideia_api_ErrFuel), ("paideia/api.ErrHeap", Rows.laid_paideia_api_ErrHeap), ("paideia/api.ErrBlack", Rows.laid_paideia_api_ErrBlack), ("paideia/api.ErrMatch", Rows.laid_paideia_api_ErrMatch)] [.sentinel, .sentinel, .sentinel, .sentinel, .sentinel, .sentinel, .sentinel, .sentinel, .sentinel, .sentinel, .sentinel, .sentinel, .sentinel, .sentinel, .sentinel] true :=
  Program.laidByTextLater.sub seatTie1 ["paideia/api.ErrLex", "paideia/api.ErrParse", "paideia/api.ErrScope", "paideia/api.ErrTwice", "paideia/api.ErrClass", "paideia/api.ErrType", "paideia/api.ErrOccur", "paideia/api.ErrKind", "paideia/api.ErrAmbig", "paideia/api.ErrNone", "paideia/api.ErrLimit", "paideia/api.ErrFuel", "paideia/api.ErrHeap", "paideia/api.ErrBlack", "paideia/api.ErrMatch"] (by kernel_rfl) (by kernel_rfl)
theorem instsRows_row_tie : Rows.instsRowsRow.laidByTextAt .later Tryz.pinned [.sentinel, .sentinel, .sentinel, .sentinel, .sentinel, .sentinel, .sentinel, .sentinel, .sentinel, .sentinel, .sentinel, .sentinel, .sentinel, .sentinel, .sentinel] true :=
  OpenClaim.laidByTextAt_later rfl rfl tie noOwnUnsafe
theorem instsRowsUpto_row_tie : Rows.instsRowsUptoRow.laidByTextAt .later Tryz.pinned [.sentinel, .sentinel, .sentinel, .sentinel, .sentinel, .sentinel, .sentinel, .sentinel, .sentinel, .sentinel, .sentinel, .sentinel, .sentinel, .sentinel, .sentinel] true :=
  OpenClaim.laidByTextAt_later rfl rfl tie noOwnUnsafe
end Go.Proofs.YtkohipalihjbbaaGreatDoor
