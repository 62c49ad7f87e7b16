/- ClassesWrong: runs. -/
import Derived.Test.YtjagadjljllabaaGreatDoorSbcwEval
namespace Go.Proofs.YtjagadjljllabaaGreatDoor.cw
set_option linter.unusedVariables false
set_option linter.unusedSimpArgs false
open Go.Proofs Go Go.Cn Go.Cn.Ev
theorem r0 (E : Nat → TypeId) (n : Int) : rB E 0 n = true := by kernel_rfl
theorem r1 (E : Nat → TypeId) (n : Int) : rB E 1 n = true := by kernel_rfl
theorem r2 (E : Nat → TypeId) (n : Int) : rB E 2 n = true := by kernel_rfl
theorem r3 (E : Nat → TypeId) (n : Int) : rB E 3 n = true := by kernel_rfl
theorem r4 (E : Nat → TypeId) (n : Int) : rB E 4 n = true := by kernel_rfl
theorem r5 (E : Nat → TypeId) (n : Int) : rB E 5 n = true := by kernel_rfl
theorem r6 (E : Nat → TypeId) (n : Int) : rB E 6 n = true := by kernel_rfl
theorem r7 (E : Nat → TypeId) (n : Int) : rB E 7 n = true := by kernel_rfl
theorem r8 (E : Nat → TypeId) (n : Int) : rB E 8 n = true := by kernel_rfl
end Go.Proofs.YtjagadjljllabaaGreatDoor.cw
