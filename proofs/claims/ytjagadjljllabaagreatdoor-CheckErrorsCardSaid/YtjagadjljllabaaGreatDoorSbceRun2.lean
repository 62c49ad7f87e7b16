/- CheckErrors: runs. -/
import Derived.Test.YtjagadjljllabaaGreatDoorSbceEval
namespace Go.Proofs.YtjagadjljllabaaGreatDoor.ce
set_option linter.unusedVariables false
set_option linter.unusedSimpArgs false
open Go.Proofs Go Go.Cn Go.Cn.Ev
theorem r6 (E : Nat → TypeId) (n : Int) : rB E 6 n = true := by kernel_rfl
theorem r7 (E : Nat → TypeId) (n : Int) : rB E 7 n = true := by kernel_rfl
theorem r8 (E : Nat → TypeId) (n : Int) : rB E 8 n = true := by kernel_rfl
end Go.Proofs.YtjagadjljllabaaGreatDoor.ce
