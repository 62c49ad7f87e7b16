/- CheckErrors: runs. -/
import Derived.Test.YtjagadjljllabaaGreatDoorSbceEval
namespace Go.Proofs.YtjagadjljllabaaGreatDoor.ce
set_option linter.unusedVariables false
set_option linter.unusedSimpArgs false
open Go.Proofs Go Go.Cn Go.Cn.Ev
theorem r0 (E : Nat → TypeId) (n : Int) : rB E 0 n = true := by kernel_rfl
theorem r1 (E : Nat → TypeId) (n : Int) : rB E 1 n = true := by kernel_rfl
theorem r2 (E : Nat → TypeId) (n : Int) : rB E 2 n = true := by kernel_rfl
end Go.Proofs.YtjagadjljllabaaGreatDoor.ce
