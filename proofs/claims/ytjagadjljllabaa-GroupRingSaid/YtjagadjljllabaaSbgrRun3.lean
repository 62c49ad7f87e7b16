/- GroupRing: runs. -/
import Derived.Test.YtjagadjljllabaaSbgrEval
namespace Go.Proofs.Ytjagadjljllabaa.gr
set_option linter.unusedVariables false
set_option linter.unusedSimpArgs false
open Go.Proofs Go Go.Cn Go.Cn.Ev
theorem q9_0 (n a : Int) : r4 9 0 n a = true := by kernel_rfl
theorem q9_1 (n a : Int) : r4 9 1 n a = true := by kernel_rfl
theorem q9_2 (n a : Int) : r4 9 2 n a = true := by kernel_rfl
theorem q9_3 (n a : Int) : r4 9 3 n a = true := by kernel_rfl
theorem q9_4 (n a : Int) : r4 9 4 n a = true := by kernel_rfl
theorem q9_5 (n a : Int) : r4 9 5 n a = true := by kernel_rfl
theorem q9_6 (n a : Int) : r4 9 6 n a = true := by kernel_rfl
theorem q9_7 (n a : Int) : r4 9 7 n a = true := by kernel_rfl
theorem q9_8 (n a : Int) : r4 9 8 n a = true := by kernel_rfl
theorem q9_9 (n a : Int) : r4 9 9 n a = true := by kernel_rfl
theorem q9_10 (n a : Int) : r4 9 10 n a = true := by kernel_rfl
end Go.Proofs.Ytjagadjljllabaa.gr
