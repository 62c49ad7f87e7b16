/- GroupRing: runs. -/
import Derived.Test.YtjagadjljllabaaSbgrEval
namespace Go.Proofs.Ytjagadjljllabaa.gr
set_option linter.unusedVariables false
set_option linter.unusedSimpArgs false
open Go.Proofs Go Go.Cn Go.Cn.Ev
theorem q0_0 (n a : Int) : r4 0 0 n a = true := by kernel_rfl
theorem q0_1 (n a : Int) : r4 0 1 n a = true := by kernel_rfl
theorem q1_0 (n a : Int) : r4 1 0 n a = true := by kernel_rfl
theorem q1_1 (n a : Int) : r4 1 1 n a = true := by kernel_rfl
theorem q1_2 (n a : Int) : r4 1 2 n a = true := by kernel_rfl
theorem q2_0 (n a : Int) : r4 2 0 n a = true := by kernel_rfl
theorem q2_1 (n a : Int) : r4 2 1 n a = true := by kernel_rfl
theorem q2_2 (n a : Int) : r4 2 2 n a = true := by kernel_rfl
theorem q2_3 (n a : Int) : r4 2 3 n a = true := by kernel_rfl
theorem q3_0 (n a : Int) : r4 3 0 n a = true := by kernel_rfl
theorem q3_1 (n a : Int) : r4 3 1 n a = true := by kernel_rfl
theorem q3_2 (n a : Int) : r4 3 2 n a = true := by kernel_rfl
theorem q3_3 (n a : Int) : r4 3 3 n a = true := by kernel_rfl
theorem q3_4 (n a : Int) : r4 3 4 n a = true := by kernel_rfl
theorem q4_0 (n a : Int) : r4 4 0 n a = true := by kernel_rfl
theorem q4_1 (n a : Int) : r4 4 1 n a = true := by kernel_rfl
theorem q4_2 (n a : Int) : r4 4 2 n a = true := by kernel_rfl
theorem q4_3 (n a : Int) : r4 4 3 n a = true := by kernel_rfl
theorem q4_4 (n a : Int) : r4 4 4 n a = true := by kernel_rfl
theorem q4_5 (n a : Int) : r4 4 5 n a = true := by kernel_rfl
end Go.Proofs.Ytjagadjljllabaa.gr
