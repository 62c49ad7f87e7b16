/-
  No cell of these rows narrows 'for every input' (looked for: loops, veiled, ifaces, maps, wideKeys, modest, calm, conditions, laid).
  DERIVED. THE GIVEN ROWS OF THIS SEAT. 4 by the template 'for every input the law returns true; each argument reads behind the call as it read before'; 0 by the template 'total and deterministic' (their statements: YtdepohnidjndjaaTotals.lean).
  GIVEN WITH THE SEED: the statements are not yours to turn. If you find one false, say at which input.
  Laid BY PROGRAM, IN A SANDBOX (cutbox-rows.mjs): the forced cells as the released guide's own fill.sh prints them over the translation 3a21c0473baff937… (all of the seat's roots in one cut). By AI agents, Wed Nov 11 2026. No macro, syntax, notation, axiom, sorry.
-/
import Derived.Test.YtdepohnidjndjaaChecked
import GoSem.Claim
import GoSem.ClaimJoined
import GoSem.ClaimMapViews
import Derived.JoinedTies
import Derived.KernelRfl
namespace Go.Proofs.Ytdepohnidjndjaa
/- THE CELL 'sum', in the pinned program and in every row, IS THE sha256 OF THE DUMP (.gsa) THAT YtdepohnidjndjaaProg.lean LOADS. Nothing in Lean hashes anything: it is a label: what it is worth is what the hold of that sum in a sandbox is worth. -/
noncomputable def Try.pinned : Pinned := { name := "ytdepohnidjndjaa", sum := "3a21c0473baff9379dc9e5521bf6308aad9c701eab4508fe1d0666be82c7a682", checked := Try.checked }
namespace Rows
def none {H : Type} : Left H := { results := [], args := [] }

/-- 'paideialaw5.SubstThen': WHATEVER THE INPUT: true; the input reads as it did. -/
def substThenSpec : ChangeSpec := { name := "substThen", fn := fun _ => fun
  | [d] => { results := [.lit (.bool true)], args := [d] }
  | _ => none }
def substThenRow : OpenClaim := { program := "ytdepohnidjndjaa", sum := "3a21c0473baff9379dc9e5521bf6308aad9c701eab4508fe1d0666be82c7a682", func := "paideia/paideialaw5.SubstThen", spec := "substThen", recurses := true, apart := false }
def SubstThenSaid : Prop := substThenRow.holds Try.pinned (OpenSpec.ofChange substThenSpec)

/-- ITS FALSE NEIGHBOUR: 'it returns false'. Refute it at one input. -/
def substThenWrong : ChangeSpec := { name := "substThen", fn := fun _ => fun
  | [d] => { results := [.lit (.bool false)], args := [d] }
  | _ => none }
def SubstThenWrongFalsely : Prop := substThenRow.holds Try.pinned (OpenSpec.ofChange substThenWrong)

/-- 'paideialaw5.SubstOthers': WHATEVER THE INPUT: true; the input reads as it did. -/
def substOthersSpec : ChangeSpec := { name := "substOthers", fn := fun _ => fun
  | [d] => { results := [.lit (.bool true)], args := [d] }
  | _ => none }
def substOthersRow : OpenClaim := { program := "ytdepohnidjndjaa", sum := "3a21c0473baff9379dc9e5521bf6308aad9c701eab4508fe1d0666be82c7a682", func := "paideia/paideialaw5.SubstOthers", spec := "substOthers", recurses := true, apart := false }
def SubstOthersSaid : Prop := substOthersRow.holds Try.pinned (OpenSpec.ofChange substOthersSpec)

/-- ITS FALSE NEIGHBOUR: 'it returns false'. Refute it at one input. -/
def substOthersWrong : ChangeSpec := { name := "substOthers", fn := fun _ => fun
  | [d] => { results := [.lit (.bool false)], args := [d] }
  | _ => none }
def SubstOthersWrongFalsely : Prop := substOthersRow.holds Try.pinned (OpenSpec.ofChange substOthersWrong)

/-- 'paideialaw5.SubstSays': WHATEVER THE INPUT: true; the input reads as it did. -/
def substSaysSpec : ChangeSpec := { name := "substSays", fn := fun _ => fun
  | [d1, d2, d3, d4] => { results := [.lit (.bool true)], args := [d1, d2, d3, d4] }
  | _ => none }
def substSaysRow : OpenClaim := { program := "ytdepohnidjndjaa", sum := "3a21c0473baff9379dc9e5521bf6308aad9c701eab4508fe1d0666be82c7a682", func := "paideia/paideialaw5.SubstSays", spec := "substSays", recurses := true, apart := false }
def SubstSaysSaid : Prop := substSaysRow.holds Try.pinned (OpenSpec.ofChange substSaysSpec)

/-- ITS FALSE NEIGHBOUR: 'it returns false'. Refute it at one input. -/
def substSaysWrong : ChangeSpec := { name := "substSays", fn := fun _ => fun
  | [d1, d2, d3, d4] => { results := [.lit (.bool false)], args := [d1, d2, d3, d4] }
  | _ => none }
def SubstSaysWrongFalsely : Prop := substSaysRow.holds Try.pinned (OpenSpec.ofChange substSaysWrong)

/-- 'paideialaw5.SubstPairs': WHATEVER THE INPUT: true; the input reads as it did. -/
def substPairsSpec : ChangeSpec := { name := "substPairs", fn := fun _ => fun
  | [d] => { results := [.lit (.bool true)], args := [d] }
  | _ => none }
def substPairsRow : OpenClaim := { program := "ytdepohnidjndjaa", sum := "3a21c0473baff9379dc9e5521bf6308aad9c701eab4508fe1d0666be82c7a682", func := "paideia/paideialaw5.SubstPairs", spec := "substPairs", unfollowed := true, recurses := true, apart := false }
def SubstPairsSaid : Prop := substPairsRow.holds Try.pinned (OpenSpec.ofChange substPairsSpec)

/-- ITS FALSE NEIGHBOUR: 'it returns false'. Refute it at one input. -/
def substPairsWrong : ChangeSpec := { name := "substPairs", fn := fun _ => fun
  | [d] => { results := [.lit (.bool false)], args := [d] }
  | _ => none }
def SubstPairsWrongFalsely : Prop := substPairsRow.holds Try.pinned (OpenSpec.ofChange substPairsWrong)

/- THE SECOND FORM. 'bulk': how many values and letters a reading holds, each counted each time it is reached (what is shared counts as often as it is met; a slice's spare places count too). A statement '..UptoSaid' is the law's where the arguments, and the package variables that the reading takes, are together of bulk at most 1048576: NARROWER than '..Said'. Prove '..Said' where nothing that the law and all that it calls make is longer than what came in: it says more and counts as full. Else prove '..UptoSaid'. A law counts once. -/
mutual
def uptoBulk {H : Type} : DataW H → Nat
  | .lit (.string bytes) => bytes.length + 1
  | .lit _ => 1
  | .nil => 1
  | .ptr d => uptoBulk d + 1
  | .slice elems spare => uptoBulkAll elems + uptoBulkAll spare + 1
  | .agg parts => uptoBulkAll parts + 1
  | .iface _ d => uptoBulk d + 1
  | .map entries => uptoBulkEntries entries + 1
  | .held _ => 1
def uptoBulkAll {H : Type} : List (DataW H) → Nat
  | [] => 0
  | d :: r => uptoBulk d + uptoBulkAll r
def uptoBulkEntries {H : Type} : List (Lit × DataW H) → Nat
  | [] => 0
  | x :: r => uptoBulkEntry x + uptoBulkEntries r
def uptoBulkEntry {H : Type} : Lit × DataW H → Nat
  | (.string bytes, d) => bytes.length + uptoBulk d + 1
  | (_, d) => uptoBulk d + 1
 end
def uptoSmall : (H : Type) → List (DataW H) → Bool := fun _ ds => decide (uptoBulkAll ds ≤ 1048576)
def OpenSpec.upto (s : _root_.Go.ChangeSpec) : _root_.Go.OpenSpec := { _root_.Go.OpenSpec.ofChange s with cond := some uptoSmall }

/-- 'paideialaw5.SubstThen', WHERE WHAT IT READS IS OF BULK AT MOST 1048576: true; the input reads as it did. -/
def substThenUptoRow : OpenClaim := { program := "ytdepohnidjndjaa", sum := "3a21c0473baff9379dc9e5521bf6308aad9c701eab4508fe1d0666be82c7a682", func := "paideia/paideialaw5.SubstThen", spec := "substThen", recurses := true, apart := false, narrowed := true }
def SubstThenUptoSaid : Prop := substThenUptoRow.holds Try.pinned (OpenSpec.upto substThenSpec)

/-- 'paideialaw5.SubstOthers', WHERE WHAT IT READS IS OF BULK AT MOST 1048576: true; the input reads as it did. -/
def substOthersUptoRow : OpenClaim := { program := "ytdepohnidjndjaa", sum := "3a21c0473baff9379dc9e5521bf6308aad9c701eab4508fe1d0666be82c7a682", func := "paideia/paideialaw5.SubstOthers", spec := "substOthers", recurses := true, apart := false, narrowed := true }
def SubstOthersUptoSaid : Prop := substOthersUptoRow.holds Try.pinned (OpenSpec.upto substOthersSpec)

/-- 'paideialaw5.SubstSays', WHERE WHAT IT READS IS OF BULK AT MOST 1048576: true; the input reads as it did. -/
def substSaysUptoRow : OpenClaim := { program := "ytdepohnidjndjaa", sum := "3a21c0473baff9379dc9e5521bf6308aad9c701eab4508fe1d0666be82c7a682", func := "paideia/paideialaw5.SubstSays", spec := "substSays", recurses := true, apart := false, narrowed := true }
def SubstSaysUptoSaid : Prop := substSaysUptoRow.holds Try.pinned (OpenSpec.upto substSaysSpec)

/-- 'paideialaw5.SubstPairs', WHERE WHAT IT READS IS OF BULK AT MOST 1048576: true; the input reads as it did. -/
def substPairsUptoRow : OpenClaim := { program := "ytdepohnidjndjaa", sum := "3a21c0473baff9379dc9e5521bf6308aad9c701eab4508fe1d0666be82c7a682", func := "paideia/paideialaw5.SubstPairs", spec := "substPairs", unfollowed := true, recurses := true, apart := false, narrowed := true }
def SubstPairsUptoSaid : Prop := substPairsUptoRow.holds Try.pinned (OpenSpec.upto substPairsSpec)

end Rows
end Go.Proofs.Ytdepohnidjndjaa
