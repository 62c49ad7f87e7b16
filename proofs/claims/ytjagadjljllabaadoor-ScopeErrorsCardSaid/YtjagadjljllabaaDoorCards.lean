/-
  DERIVED. GIVEN WITH THE SEED: THE CARDS: each row of YtjagadjljllabaaDoorRows.lean that lists a variable, with what it lists TIED to the program's text (the seventh form; the later family's looks); each row that meets fmt, with fmt's text TOLD by the authors' own Lean function (tested against real Go, not proved from fmt's source: count such statements apart). THE CARD IS WHAT COUNTS. Prove the row's statement (the work); the ties are given (YtjagadjljllabaaDoorTie.lean); close each card by the builder's one call (the guide's Derived/Test/ToyasCard.lean, 'card_holds'). Laid BY PROGRAM, IN A SANDBOX (cutbox-door.mjs). By AI agents, Wed Nov 11 2026. No macro, syntax, notation, axiom, sorry.
-/
import Derived.Test.YtjagadjljllabaaDoorRows
import GoSem.ClaimSeven
namespace Go.Proofs.YtjagadjljllabaaDoor
namespace Rows

/-- THE TIED CARD OF 'paideialaw9.ScopeErrors'. -/
def scopeErrorsCard : Claim7 := { stood := { row := scopeErrorsRow, standIns := [], harness := (true, "fe9ddb58dfae4207236c17ce8c7ca076684223639a2eea97d3a53ab460ecb593"), looks := true }, kinds := [], alts := [], laidByText := true, laidKinds := [.sentinel, .sentinel, .sentinel, .sentinel, .sentinel, .sentinel, .sentinel, .sentinel, .sentinel, .sentinel, .sentinel, .sentinel, .sentinel, .sentinel, .sentinel], laidTests := true, laidLooks := .later }
def ScopeErrorsCardSaid : Prop := Claim7.holds Tryd.pinned (.plain (OpenSpec.ofChange scopeErrorsSpec)) scopeErrorsCard

/-- THE SECOND FORM's CARD OF 'paideialaw9.ScopeErrors'. -/
def scopeErrorsUptoCard : Claim7 := { stood := { row := scopeErrorsUptoRow, standIns := [], harness := (true, "fe9ddb58dfae4207236c17ce8c7ca076684223639a2eea97d3a53ab460ecb593"), looks := true }, kinds := [], alts := [], laidByText := true, laidKinds := [.sentinel, .sentinel, .sentinel, .sentinel, .sentinel, .sentinel, .sentinel, .sentinel, .sentinel, .sentinel, .sentinel, .sentinel, .sentinel, .sentinel, .sentinel], laidTests := true, laidLooks := .later }
def ScopeErrorsUptoCardSaid : Prop := Claim7.holds Tryd.pinned (.plain (OpenSpec.upto scopeErrorsSpec)) scopeErrorsUptoCard
end Rows
end Go.Proofs.YtjagadjljllabaaDoor
