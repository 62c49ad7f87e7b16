/-
  NARROWER THAN 'FOR EVERY INPUT', by the rows' own cells (each row's printed sentence says how): InstsRows: laid.
  DERIVED. THE GIVEN ROWS OF THIS SEAT. 1 by the template 'for every input the law returns true; each argument reads behind the call as it read before'; 0 by the template 'total and deterministic' (their statements: YtkohipalihjbbaaGreatDoorTotals.lean).
  GIVEN WITH THE SEED: the statements are not yours to turn. If you find one false, say at which input.
  Laid BY PROGRAM, IN A SANDBOX (cutbox-rows.mjs): the forced cells as the released guide's own fill.sh prints them over the translation 3e440e40fcd97b7d… (all of the seat's roots in one cut). By AI agents, Wed Nov 11 2026. No macro, syntax, notation, axiom, sorry.
-/
import Derived.Test.YtkohipalihjbbaaGreatDoorChecked
import GoSem.Claim
import GoSem.ClaimJoined
import GoSem.ClaimMapViews
import Derived.JoinedTies
import Derived.KernelRfl
namespace Go.Proofs.YtkohipalihjbbaaGreatDoor
/- THE CELL 'sum', in the pinned program and in every row, IS THE sha256 OF THE DUMP (.gsa) THAT YtkohipalihjbbaaGreatDoorProg.lean LOADS. Nothing in Lean hashes anything: it is a label: what it is worth is what the hold of that sum in a sandbox is worth. -/
noncomputable def Tryz.pinned : Pinned := { name := "ytkohipalihjbbaagreatdoor", sum := "3e440e40fcd97b7d1c04381edf00aa01b63f10ace9e378138fae64d692b58a31", checked := Tryz.checked }
namespace Rows
def none {H : Type} : Left H := { results := [], args := [] }

/- WHAT THE LISTED PACKAGE-LEVEL VARIABLES READ AS WHEN THE CALL BEGINS. Each datum BY PROGRAM (the guide's laid-datum.mjs) off the statement by which the dump's own 'gosem.cut.vars' lays the variable. In a bare row this is a premise. The card (YtkohipalihjbbaaGreatDoorCards.lean) ties it to the program's text. -/
def laid_paideia_api_ErrLex {H : Type} : DataW H := .iface "*errors.errorString" (.ptr (.agg [.lit (.string [110, 111, 116, 32, 97, 32, 119, 111, 114, 100])]))
def laid_paideia_api_ErrParse {H : Type} : DataW H := .iface "*errors.errorString" (.ptr (.agg [.lit (.string [110, 111, 116, 32, 97, 32, 112, 114, 111, 103, 114, 97, 109])]))
def laid_paideia_api_ErrScope {H : Type} : DataW H := .iface "*errors.errorString" (.ptr (.agg [.lit (.string [97, 32, 110, 97, 109, 101, 32, 116, 104, 97, 116, 32, 105, 115, 32, 110, 111, 98, 111, 100, 121, 39, 115])]))
def laid_paideia_api_ErrTwice {H : Type} : DataW H := .iface "*errors.errorString" (.ptr (.agg [.lit (.string [97, 32, 110, 97, 109, 101, 32, 116, 119, 105, 99, 101])]))
def laid_paideia_api_ErrClass {H : Type} : DataW H := .iface "*errors.errorString" (.ptr (.agg [.lit (.string [110, 111, 116, 32, 97, 32, 99, 108, 97, 115, 115, 44, 32, 111, 114, 32, 110, 111, 116, 32, 97, 110, 32, 105, 110, 115, 116, 97, 110, 99, 101])]))
def laid_paideia_api_ErrType {H : Type} : DataW H := .iface "*errors.errorString" (.ptr (.agg [.lit (.string [116, 121, 112, 101, 115, 32, 116, 104, 97, 116, 32, 97, 114, 101, 32, 110, 111, 116, 32, 111, 110, 101])]))
def laid_paideia_api_ErrOccur {H : Type} : DataW H := .iface "*errors.errorString" (.ptr (.agg [.lit (.string [97, 32, 116, 121, 112, 101, 32, 119, 105, 116, 104, 105, 110, 32, 105, 116, 115, 101, 108, 102])]))
def laid_paideia_api_ErrKind {H : Type} : DataW H := .iface "*errors.errorString" (.ptr (.agg [.lit (.string [97, 32, 116, 121, 112, 101, 32, 119, 105, 116, 104, 32, 111, 116, 104, 101, 114, 32, 97, 114, 103, 117, 109, 101, 110, 116, 115])]))
def laid_paideia_api_ErrAmbig {H : Type} : DataW H := .iface "*errors.errorString" (.ptr (.agg [.lit (.string [97, 32, 116, 121, 112, 101, 32, 116, 104, 97, 116, 32, 105, 115, 32, 110, 111, 116, 32, 116, 111, 108, 100])]))
def laid_paideia_api_ErrNone {H : Type} : DataW H := .iface "*errors.errorString" (.ptr (.agg [.lit (.string [110, 111, 32, 105, 110, 115, 116, 97, 110, 99, 101])]))
def laid_paideia_api_ErrLimit {H : Type} : DataW H := .iface "*errors.errorString" (.ptr (.agg [.lit (.string [109, 111, 114, 101, 32, 116, 104, 97, 110, 32, 109, 97, 121, 32, 98, 101])]))
def laid_paideia_api_ErrFuel {H : Type} : DataW H := .iface "*errors.errorString" (.ptr (.agg [.lit (.string [116, 104, 101, 32, 102, 117, 101, 108, 32, 105, 115, 32, 117, 115, 101, 100, 32, 117, 112])]))
def laid_paideia_api_ErrHeap {H : Type} : DataW H := .iface "*errors.errorString" (.ptr (.agg [.lit (.string [116, 104, 101, 32, 104, 101, 97, 112, 32, 105, 115, 32, 102, 117, 108, 108])]))
def laid_paideia_api_ErrBlack {H : Type} : DataW H := .iface "*errors.errorString" (.ptr (.agg [.lit (.string [97, 32, 118, 97, 108, 117, 101, 32, 116, 104, 97, 116, 32, 110, 101, 101, 100, 115, 32, 105, 116, 115, 101, 108, 102])]))
def laid_paideia_api_ErrMatch {H : Type} : DataW H := .iface "*errors.errorString" (.ptr (.agg [.lit (.string [110, 111, 32, 97, 108, 116, 101, 114, 110, 97, 116, 105, 118, 101, 32, 102, 105, 116, 115])]))

/-- 'paideialaw13.InstsRows': WHATEVER THE INPUT: true; the input reads as it did. -/
def instsRowsSpec : ChangeSpec := { name := "instsRows", fn := fun _ => fun
  | [d1, d2] => { results := [.lit (.bool true)], args := [d1, d2] }
  | _ => none }
def instsRowsRow : OpenClaim := { program := "ytkohipalihjbbaagreatdoor", sum := "3e440e40fcd97b7d1c04381edf00aa01b63f10ace9e378138fae64d692b58a31", func := "paideia/paideialaw13.InstsRows", spec := "instsRows", unfollowed := true, recurses := true, named := ["paideia/api.ErrTwice", "paideia/api.ErrScope", "paideia/api.ErrKind", "paideia/api.ErrClass", "paideia/api.ErrLex", "paideia/api.ErrParse", "paideia/api.ErrType", "paideia/api.ErrOccur", "paideia/api.ErrAmbig", "paideia/api.ErrNone", "paideia/api.ErrLimit", "paideia/api.ErrFuel", "paideia/api.ErrHeap", "paideia/api.ErrBlack", "paideia/api.ErrMatch"], apart := false, laid := [("paideia/api.ErrLex", laid_paideia_api_ErrLex), ("paideia/api.ErrParse", laid_paideia_api_ErrParse), ("paideia/api.ErrScope", laid_paideia_api_ErrScope), ("paideia/api.ErrTwice", laid_paideia_api_ErrTwice), ("paideia/api.ErrClass", laid_paideia_api_ErrClass), ("paideia/api.ErrType", laid_paideia_api_ErrType), ("paideia/api.ErrOccur", laid_paideia_api_ErrOccur), ("paideia/api.ErrKind", laid_paideia_api_ErrKind), ("paideia/api.ErrAmbig", laid_paideia_api_ErrAmbig), ("paideia/api.ErrNone", laid_paideia_api_ErrNone), ("paideia/api.ErrLimit", laid_paideia_api_ErrLimit), ("paideia/api.ErrFuel", laid_paideia_api_ErrFuel), ("paideia/api.ErrHeap", laid_paideia_api_ErrHeap), ("paideia/api.ErrBlack", laid_paideia_api_ErrBlack), ("paideia/api.ErrMatch", laid_paideia_api_ErrMatch)] }
def InstsRowsSaid : Prop := instsRowsRow.holds Tryz.pinned (OpenSpec.ofChange instsRowsSpec)

/-- ITS FALSE NEIGHBOUR: 'it returns false'. Refute it at one input. -/
def instsRowsWrong : ChangeSpec := { name := "instsRows", fn := fun _ => fun
  | [d1, d2] => { results := [.lit (.bool false)], args := [d1, d2] }
  | _ => none }
def InstsRowsWrongFalsely : Prop := instsRowsRow.holds Tryz.pinned (OpenSpec.ofChange instsRowsWrong)

/- THE SECOND FORM. 'bulk': how many values and letters a reading holds, each counted each time it is reached (what is shared counts as often as it is met; a slice's spare places count too). A statement '..UptoSaid' is the law's where the arguments, and the package variables that the reading takes, are together of bulk at most 1048576: NARROWER than '..Said'. Prove '..Said' where nothing that the law and all that it calls make is longer than what came in: it says more and counts as full. Else prove '..UptoSaid'. A law counts once. -/
mutual
def uptoBulk {H : Type} : DataW H → Nat
  | .lit (.string bytes) => bytes.length + 1
  | .lit _ => 1
  | .nil => 1
  | .ptr d => uptoBulk d + 1
  | .slice elems spare => uptoBulkAll elems + uptoBulkAll spare + 1
  | .agg parts => uptoBulkAll parts + 1
  | .iface _ d => uptoBulk d + 1
  | .map entries => uptoBulkEntries entries + 1
  | .held _ => 1
def uptoBulkAll {H : Type} : List (DataW H) → Nat
  | [] => 0
  | d :: r => uptoBulk d + uptoBulkAll r
def uptoBulkEntries {H : Type} : List (Lit × DataW H) → Nat
  | [] => 0
  | x :: r => uptoBulkEntry x + uptoBulkEntries r
def uptoBulkEntry {H : Type} : Lit × DataW H → Nat
  | (.string bytes, d) => bytes.length + uptoBulk d + 1
  | (_, d) => uptoBulk d + 1
 end
def uptoSmall : (H : Type) → List (DataW H) → Bool := fun _ ds => decide (uptoBulkAll ds ≤ 1048576)
def OpenSpec.upto (s : _root_.Go.ChangeSpec) : _root_.Go.OpenSpec := { _root_.Go.OpenSpec.ofChange s with cond := some uptoSmall }

/-- 'paideialaw13.InstsRows', WHERE WHAT IT READS IS OF BULK AT MOST 1048576: true; the input reads as it did. -/
def instsRowsUptoRow : OpenClaim := { program := "ytkohipalihjbbaagreatdoor", sum := "3e440e40fcd97b7d1c04381edf00aa01b63f10ace9e378138fae64d692b58a31", func := "paideia/paideialaw13.InstsRows", spec := "instsRows", unfollowed := true, recurses := true, named := ["paideia/api.ErrTwice", "paideia/api.ErrScope", "paideia/api.ErrKind", "paideia/api.ErrClass", "paideia/api.ErrLex", "paideia/api.ErrParse", "paideia/api.ErrType", "paideia/api.ErrOccur", "paideia/api.ErrAmbig", "paideia/api.ErrNone", "paideia/api.ErrLimit", "paideia/api.ErrFuel", "paideia/api.ErrHeap", "paideia/api.ErrBlack", "paideia/api.ErrMatch"], apart := false, laid := [("paideia/api.ErrLex", laid_paideia_api_ErrLex), ("paideia/api.ErrParse", laid_paideia_api_ErrParse), ("paideia/api.ErrScope", laid_paideia_api_ErrScope), ("paideia/api.ErrTwice", laid_paideia_api_ErrTwice), ("paideia/api.ErrClass", laid_paideia_api_ErrClass), ("paideia/api.ErrType", laid_paideia_api_ErrType), ("paideia/api.ErrOccur", laid_paideia_api_ErrOccur), ("paideia/api.ErrKind", laid_paideia_api_ErrKind), ("paideia/api.ErrAmbig", laid_paideia_api_ErrAmbig), ("paideia/api.ErrNone", laid_paideia_api_ErrNone), ("paideia/api.ErrLimit", laid_paideia_api_ErrLimit), ("paideia/api.ErrFuel", laid_paideia_api_ErrFuel), ("paideia/api.ErrHeap", laid_paideia_api_ErrHeap), ("paideia/api.ErrBlack", laid_paideia_api_ErrBlack), ("paideia/api.ErrMatch", laid_paideia_api_ErrMatch)], narrowed := true }
def InstsRowsUptoSaid : Prop := instsRowsUptoRow.holds Tryz.pinned (OpenSpec.upto instsRowsSpec)

end Rows
end Go.Proofs.YtkohipalihjbbaaGreatDoor
