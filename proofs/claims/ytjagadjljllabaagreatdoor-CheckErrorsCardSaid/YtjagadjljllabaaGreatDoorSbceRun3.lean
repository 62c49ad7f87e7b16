/- CheckErrors: runs. -/
import Derived.Test.YtjagadjljllabaaGreatDoorSbceEval
namespace Go.Proofs.YtjagadjljllabaaGreatDoor.ce
set_option linter.unusedVariables false
set_option linter.unusedSimpArgs false
open Go.Proofs Go Go.Cn Go.Cn.Ev
theorem r9 (E : Nat → TypeId) (n : Int) : rB E 9 n = true := by kernel_rfl
theorem r10 (E : Nat → TypeId) (n : Int) : rB E 10 n = true := by kernel_rfl
theorem r11 (E : Nat → TypeId) (n : Int) : rB E 11 n = true := by kernel_rfl
end Go.Proofs.YtjagadjljllabaaGreatDoor.ce
