/-
  No cell of these rows narrows 'for every input' (looked for: loops, veiled, ifaces, maps, wideKeys, modest, calm, conditions, laid).
  DERIVED. THE GIVEN ROWS OF THIS SEAT. 2 by the template 'for every input the law returns true; each argument reads behind the call as it read before'; 0 by the template 'total and deterministic' (their statements: YtjagadjljllabaaTotals.lean).
  GIVEN WITH THE SEED: the statements are not yours to turn. If you find one false, say at which input.
  Laid BY PROGRAM, IN A SANDBOX (cutbox-rows.mjs): the forced cells as the released guide's own fill.sh prints them over the translation 13e698f7a07525a1… (all of the seat's roots in one cut). By AI agents, Wed Nov 11 2026. No macro, syntax, notation, axiom, sorry.
-/
import Derived.Test.YtjagadjljllabaaChecked
import GoSem.Claim
import GoSem.ClaimJoined
import GoSem.ClaimMapViews
import Derived.JoinedTies
import Derived.KernelRfl
namespace Go.Proofs.Ytjagadjljllabaa
/- THE CELL 'sum', in the pinned program and in every row, IS THE sha256 OF THE DUMP (.gsa) THAT YtjagadjljllabaaProg.lean LOADS. Nothing in Lean hashes anything: it is a label: what it is worth is what the hold of that sum in a sandbox is worth. -/
noncomputable def Try.pinned : Pinned := { name := "ytjagadjljllabaa", sum := "13e698f7a07525a12db8e77cf97427ce4c321c4500228765036b2661bb16811b", checked := Try.checked }
namespace Rows
def none {H : Type} : Left H := { results := [], args := [] }

/-- 'paideialaw19.DictTexts': WHATEVER THE INPUT: true; the input reads as it did. -/
def dictTextsSpec : ChangeSpec := { name := "dictTexts", fn := fun _ => fun
  | [d] => { results := [.lit (.bool true)], args := [d] }
  | _ => none }
def dictTextsRow : OpenClaim := { program := "ytjagadjljllabaa", sum := "13e698f7a07525a12db8e77cf97427ce4c321c4500228765036b2661bb16811b", func := "paideia/paideialaw19.DictTexts", spec := "dictTexts", unfollowed := true, recurses := true, apart := false }
def DictTextsSaid : Prop := dictTextsRow.holds Try.pinned (OpenSpec.ofChange dictTextsSpec)

/-- ITS FALSE NEIGHBOUR: 'it returns false'. Refute it at one input. -/
def dictTextsWrong : ChangeSpec := { name := "dictTexts", fn := fun _ => fun
  | [d] => { results := [.lit (.bool false)], args := [d] }
  | _ => none }
def DictTextsWrongFalsely : Prop := dictTextsRow.holds Try.pinned (OpenSpec.ofChange dictTextsWrong)

/-- 'paideialaw10.GroupRing': WHATEVER THE INPUT: true; the input reads as it did. -/
def groupRingSpec : ChangeSpec := { name := "groupRing", fn := fun _ => fun
  | [d1, d2] => { results := [.lit (.bool true)], args := [d1, d2] }
  | _ => none }
def groupRingRow : OpenClaim := { program := "ytjagadjljllabaa", sum := "13e698f7a07525a12db8e77cf97427ce4c321c4500228765036b2661bb16811b", func := "paideia/paideialaw10.GroupRing", spec := "groupRing", unfollowed := true, recurses := true, apart := false }
def GroupRingSaid : Prop := groupRingRow.holds Try.pinned (OpenSpec.ofChange groupRingSpec)

/-- ITS FALSE NEIGHBOUR: 'it returns false'. Refute it at one input. -/
def groupRingWrong : ChangeSpec := { name := "groupRing", fn := fun _ => fun
  | [d1, d2] => { results := [.lit (.bool false)], args := [d1, d2] }
  | _ => none }
def GroupRingWrongFalsely : Prop := groupRingRow.holds Try.pinned (OpenSpec.ofChange groupRingWrong)

/- THE SECOND FORM. 'bulk': how many values and letters a reading holds, each counted each time it is reached (what is shared counts as often as it is met; a slice's spare places count too). A statement '..UptoSaid' is the law's where the arguments, and the package variables that the reading takes, are together of bulk at most 1048576: NARROWER than '..Said'. Prove '..Said' where nothing that the law and all that it calls make is longer than what came in: it says more and counts as full. Else prove '..UptoSaid'. A law counts once. -/
mutual
def uptoBulk {H : Type} : DataW H → Nat
  | .lit (.string bytes) => bytes.length + 1
  | .lit _ => 1
  | .nil => 1
  | .ptr d => uptoBulk d + 1
  | .slice elems spare => uptoBulkAll elems + uptoBulkAll spare + 1
  | .agg parts => uptoBulkAll parts + 1
  | .iface _ d => uptoBulk d + 1
  | .map entries => uptoBulkEntries entries + 1
  | .held _ => 1
def uptoBulkAll {H : Type} : List (DataW H) → Nat
  | [] => 0
  | d :: r => uptoBulk d + uptoBulkAll r
def uptoBulkEntries {H : Type} : List (Lit × DataW H) → Nat
  | [] => 0
  | x :: r => uptoBulkEntry x + uptoBulkEntries r
def uptoBulkEntry {H : Type} : Lit × DataW H → Nat
  | (.string bytes, d) => bytes.length + uptoBulk d + 1
  | (_, d) => uptoBulk d + 1
 end
def uptoSmall : (H : Type) → List (DataW H) → Bool := fun _ ds => decide (uptoBulkAll ds ≤ 1048576)
def OpenSpec.upto (s : _root_.Go.ChangeSpec) : _root_.Go.OpenSpec := { _root_.Go.OpenSpec.ofChange s with cond := some uptoSmall }

/-- 'paideialaw19.DictTexts', WHERE WHAT IT READS IS OF BULK AT MOST 1048576: true; the input reads as it did. -/
def dictTextsUptoRow : OpenClaim := { program := "ytjagadjljllabaa", sum := "13e698f7a07525a12db8e77cf97427ce4c321c4500228765036b2661bb16811b", func := "paideia/paideialaw19.DictTexts", spec := "dictTexts", unfollowed := true, recurses := true, apart := false, narrowed := true }
def DictTextsUptoSaid : Prop := dictTextsUptoRow.holds Try.pinned (OpenSpec.upto dictTextsSpec)

/-- 'paideialaw10.GroupRing', WHERE WHAT IT READS IS OF BULK AT MOST 1048576: true; the input reads as it did. -/
def groupRingUptoRow : OpenClaim := { program := "ytjagadjljllabaa", sum := "13e698f7a07525a12db8e77cf97427ce4c321c4500228765036b2661bb16811b", func := "paideia/paideialaw10.GroupRing", spec := "groupRing", unfollowed := true, recurses := true, apart := false, narrowed := true }
def GroupRingUptoSaid : Prop := groupRingUptoRow.holds Try.pinned (OpenSpec.upto groupRingSpec)

end Rows
end Go.Proofs.Ytjagadjljllabaa
