/- CheckErrors: runs. -/
import Derived.Test.YtjagadjljllabaaGreatDoorSbceEval
namespace Go.Proofs.YtjagadjljllabaaGreatDoor.ce
set_option linter.unusedVariables false
set_option linter.unusedSimpArgs false
open Go.Proofs Go Go.Cn Go.Cn.Ev
theorem r3 (E : Nat → TypeId) (n : Int) : rB E 3 n = true := by kernel_rfl
theorem r4 (E : Nat → TypeId) (n : Int) : rB E 4 n = true := by kernel_rfl
theorem r5 (E : Nat → TypeId) (n : Int) : rB E 5 n = true := by kernel_rfl
end Go.Proofs.YtjagadjljllabaaGreatDoor.ce
