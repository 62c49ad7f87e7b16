/- DictTexts, the evaluation: the canonical machine's run answers true in each of the 5 cases that the number's rest leaves. -/
import Derived.Test.YtjagadjljllabaaCnEvRun
import Derived.Test.YtjagadjljllabaaProg
import Derived.KernelRfl
namespace Go.Proofs.Ytjagadjljllabaa.dt
set_option linter.unusedVariables false
set_option linter.unusedSimpArgs false
open Go.Proofs Go Go.Cn Go.Cn.Ev
theorem ok1 : ProgOk Try.prog := progOk_of (by kernel_rfl) (by kernel_rfl)
theorem glob : Try.prog.globals.size = 0 := by kernel_rfl
noncomputable abbrev T := tab Try.prog
noncomputable def F : CFun := (T 3).getD ⟨.no, []⟩
theorem tF : T 3 = some F := by kernel_rfl
def pth : List Dir := [.right, .right, .right, .right, .right, .left, .at 5]
noncomputable def A : CCode := ((split pth F.body).getD (.no, .no)).1
noncomputable def B : CCode := ((split pth F.body).getD (.no, .no)).2
theorem sF : split pth F.body = some (A, B) := by kernel_rfl
noncomputable def rA (n : Int) : RC := codeE (callE T 100) E0 A (argsF [.int .i64 n] 0) h0
theorem nA (n : Int) : isNorm (rA n) = true := by kernel_rfl
noncomputable def V (n : Int) : Int := Int.tmod (wrapE .i64 (addI (Int.tmod n 5) 5)) 5
theorem vA (n : Int) : getV (path 6) (frOf (rA n)) = .int .i64 (V n) := by kernel_rfl
noncomputable def rB (k : Int) (n : Int) : Bool := isTrue (finK F.res (codeE (callE T 100) E0 B (setP (.int .i64 k) (path 6) (frOf (rA n))) (hsOf (rA n))))
theorem r0 (n : Int) : rB 0 n = true := by kernel_rfl
theorem r1 (n : Int) : rB 1 n = true := by kernel_rfl
theorem r2 (n : Int) : rB 2 n = true := by kernel_rfl
theorem r3 (n : Int) : rB 3 n = true := by kernel_rfl
theorem r4 (n : Int) : rB 4 n = true := by kernel_rfl
theorem V_range (n : Int) : 0 ≤ V n ∧ V n < 5 := by
  have h2 : - 5 < Int.tmod n 5 := Int.lt_tmod_of_pos n (by decide)
  have h3 : Int.tmod n 5 < 5 := Int.tmod_lt_of_pos n (by decide)
  have e : wrapE .i64 (addI (Int.tmod n 5) 5) = Int.tmod n 5 + 5 := by
    rw [wrapE_eq, addI_eq]
    exact wrap_small _ _ ⟨by simp only [loOf]; omega, by simp only [hiOf]; omega⟩
  unfold V
  rw [e]
  exact ⟨Int.tmod_nonneg 5 (by omega), Int.tmod_lt_of_pos _ (by decide)⟩
theorem all (k : Int) (h : 0 ≤ k ∧ k < 5) (n : Int) : rB k n = true := by
  have : k = 0 ∨ k = 1 ∨ k = 2 ∨ k = 3 ∨ k = 4 := by omega
  rcases this with rfl | rfl | rfl | rfl | rfl
  · exact r0 n
  · exact r1 n
  · exact r2 n
  · exact r3 n
  · exact r4 n
theorem calls (n : Int) (W : World) : Calls Try.prog 3 #[.int .i64 n] W fun e W' => e = .returned (.bool true) ∧ Kept W W' :=
  run_E ok1 (tab_ok Try.prog) glob (call_cut tF sF (nA n) (vA n) (all (V n) (V_range n) n)) (.cons (.int _ _) .nil) W
end Go.Proofs.Ytjagadjljllabaa.dt
