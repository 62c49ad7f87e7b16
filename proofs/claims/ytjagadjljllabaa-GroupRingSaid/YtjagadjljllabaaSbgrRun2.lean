/- GroupRing: runs. -/
import Derived.Test.YtjagadjljllabaaSbgrEval
namespace Go.Proofs.Ytjagadjljllabaa.gr
set_option linter.unusedVariables false
set_option linter.unusedSimpArgs false
open Go.Proofs Go Go.Cn Go.Cn.Ev
theorem q7_0 (n a : Int) : r4 7 0 n a = true := by kernel_rfl
theorem q7_1 (n a : Int) : r4 7 1 n a = true := by kernel_rfl
theorem q7_2 (n a : Int) : r4 7 2 n a = true := by kernel_rfl
theorem q7_3 (n a : Int) : r4 7 3 n a = true := by kernel_rfl
theorem q7_4 (n a : Int) : r4 7 4 n a = true := by kernel_rfl
theorem q7_5 (n a : Int) : r4 7 5 n a = true := by kernel_rfl
theorem q7_6 (n a : Int) : r4 7 6 n a = true := by kernel_rfl
theorem q7_7 (n a : Int) : r4 7 7 n a = true := by kernel_rfl
theorem q7_8 (n a : Int) : r4 7 8 n a = true := by kernel_rfl
theorem q8_0 (n a : Int) : r4 8 0 n a = true := by kernel_rfl
theorem q8_1 (n a : Int) : r4 8 1 n a = true := by kernel_rfl
theorem q8_2 (n a : Int) : r4 8 2 n a = true := by kernel_rfl
theorem q8_3 (n a : Int) : r4 8 3 n a = true := by kernel_rfl
theorem q8_4 (n a : Int) : r4 8 4 n a = true := by kernel_rfl
theorem q8_5 (n a : Int) : r4 8 5 n a = true := by kernel_rfl
theorem q8_6 (n a : Int) : r4 8 6 n a = true := by kernel_rfl
theorem q8_7 (n a : Int) : r4 8 7 n a = true := by kernel_rfl
theorem q8_8 (n a : Int) : r4 8 8 n a = true := by kernel_rfl
theorem q8_9 (n a : Int) : r4 8 9 n a = true := by kernel_rfl
end Go.Proofs.Ytjagadjljllabaa.gr
