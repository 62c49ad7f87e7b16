/- ScopeErrors: runs. -/
import Derived.Test.YtjagadjljllabaaDoorSbseEval
namespace Go.Proofs.YtjagadjljllabaaDoor.se
set_option linter.unusedVariables false
set_option linter.unusedSimpArgs false
open Go.Proofs Go Go.Cn Go.Cn.Ev
theorem r8 (E : Nat → TypeId) (n : Int) : rB E 8 n = true := by kernel_rfl
theorem r9 (E : Nat → TypeId) (n : Int) : rB E 9 n = true := by kernel_rfl
theorem r10 (E : Nat → TypeId) (n : Int) : rB E 10 n = true := by kernel_rfl
theorem r11 (E : Nat → TypeId) (n : Int) : rB E 11 n = true := by kernel_rfl
theorem r12 (E : Nat → TypeId) (n : Int) : rB E 12 n = true := by kernel_rfl
theorem r13 (E : Nat → TypeId) (n : Int) : rB E 13 n = true := by kernel_rfl
theorem r14 (E : Nat → TypeId) (n : Int) : rB E 14 n = true := by kernel_rfl
end Go.Proofs.YtjagadjljllabaaDoor.se
