/- GroupRing: runs. -/
import Derived.Test.YtjagadjljllabaaSbgrEval
namespace Go.Proofs.Ytjagadjljllabaa.gr
set_option linter.unusedVariables false
set_option linter.unusedSimpArgs false
open Go.Proofs Go Go.Cn Go.Cn.Ev
theorem q5_0 (n a : Int) : r4 5 0 n a = true := by kernel_rfl
theorem q5_1 (n a : Int) : r4 5 1 n a = true := by kernel_rfl
theorem q5_2 (n a : Int) : r4 5 2 n a = true := by kernel_rfl
theorem q5_3 (n a : Int) : r4 5 3 n a = true := by kernel_rfl
theorem q5_4 (n a : Int) : r4 5 4 n a = true := by kernel_rfl
theorem q5_5 (n a : Int) : r4 5 5 n a = true := by kernel_rfl
theorem q5_6 (n a : Int) : r4 5 6 n a = true := by kernel_rfl
theorem q6_0 (n a : Int) : r4 6 0 n a = true := by kernel_rfl
theorem q6_1 (n a : Int) : r4 6 1 n a = true := by kernel_rfl
theorem q6_2 (n a : Int) : r4 6 2 n a = true := by kernel_rfl
theorem q6_3 (n a : Int) : r4 6 3 n a = true := by kernel_rfl
theorem q6_4 (n a : Int) : r4 6 4 n a = true := by kernel_rfl
theorem q6_5 (n a : Int) : r4 6 5 n a = true := by kernel_rfl
theorem q6_6 (n a : Int) : r4 6 6 n a = true := by kernel_rfl
theorem q6_7 (n a : Int) : r4 6 7 n a = true := by kernel_rfl
end Go.Proofs.Ytjagadjljllabaa.gr
