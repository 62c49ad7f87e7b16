/- GroupRing, the evaluation: the canonical machine's run answers true in each of the cases that the numbers' rests leave. -/
import Derived.Test.YtjagadjljllabaaSbgrRun0
import Derived.Test.YtjagadjljllabaaSbgrRun1
import Derived.Test.YtjagadjljllabaaSbgrRun2
import Derived.Test.YtjagadjljllabaaSbgrRun3
namespace Go.Proofs.Ytjagadjljllabaa.gr
set_option linter.unusedVariables false
set_option linter.unusedSimpArgs false
open Go.Proofs Go Go.Cn Go.Cn.Ev

theorem ends {c : CCode} {fr : FV} {h : HS} (hh : isTrue (finK F.res (codeE false C E0 c fr h)) = true) : CodeW (CallA T) c (frD fr) (den E0 h) fun e fr σ' => (e = .normal ∨ e = .ret) ∧ ∃ vs, resL fr σ' F.res = some vs ∧ resV vs = .bool true := by
  obtain ⟨h', e⟩ := isTrue_ok hh
  generalize hr : codeE false C E0 c fr h = r at e
  cases r with
  | bad => cases e
  | ok ex f1 h1 => exact codeE_ok (callE_ok 100) c hr (finK_ok e (Q := fun v _ => v = .bool true) rfl)
theorem inner (r : Int) (n a : Int) (h0 : 0 ≤ r) (h1 : r < 10) (h3 : isNorm (r3 r n a) = true) (hv : getV (path 16) (frOf (r3 r n a)) = .int .i64 a) (hw : getV (path 17) (frOf (r3 r n a)) = .int .i64 (r + 2)) (hq : ∀ x : Int, 0 ≤ x → x < r + 2 → r4 r x n a = true) :
    CodeW (CallA T) B2 (frD (setP (.int .i64 r) (path 14) (frOf (r1 n a)))) (den E0 (hsOf (r1 n a))) fun e fr σ' => (e = .normal ∨ e = .ret) ∧ ∃ vs, resL fr σ' F.res = some vs ∧ resV vs = .bool true := by
  refine split_ok CallA.mono s3 (codeE_ok (callE_ok 100) A3 (norm_eq h3) ⟨rfl, ?_⟩)
  show CodeW (CallA T) B3 (frD (frOf (r3 r n a))) (den E0 (hsOf (r3 r n a))) _
  refine split_ok CallA.mono s4 (.region (.inl ⟨rfl, ?_⟩))
  show CallA T (.func 15) [frD (frOf (r3 r n a)) 16, frD (frOf (r3 r n a)) 17] _ _
  rw [getV_eq] at hv hw
  rw [show frD (frOf (r3 r n a)) 16 = .int .i64 a from hv, show frD (frOf (r3 r n a)) 17 = .int .i64 (r + 2) from hw]
  refine num a (r + 2) (by omega) (by omega) _ _ fun x x0 x1 => ?_
  show Then _ _ _ _ (upd (frD (frOf (r3 r n a))) 18 (.int .i64 x)) _
  refine ⟨rfl, ?_⟩
  rw [← frD_set]
  exact ends (hq x x0 x1)
theorem call (n a : Int) : CallA T (.func 4) [.int .i64 n, .int .i64 a] (den E0 h0) fun v _ => v = .bool true := by
  refine CallA.func tF (split_ok CallA.mono s1 ?_)
  rw [← argsF_init]
  refine codeE_ok (callE_ok 100) A1 (norm_eq (n1 n a)) ⟨rfl, ?_⟩
  show CodeW (CallA T) B1 (frD (frOf (r1 n a))) (den E0 (hsOf (r1 n a))) _
  refine split_ok CallA.mono s2 (.region (.inl ⟨rfl, ?_⟩))
  have hv := v1 n a
  rw [getV_eq] at hv
  show CallA T (.func 15) [frD (frOf (r1 n a)) 13, .int .i64 10] _ _
  rw [show frD (frOf (r1 n a)) 13 = .int .i64 n from hv]
  refine num n 10 (by decide) (by decide) _ _ fun r r0 r1' => ?_
  show Then _ _ _ _ (upd (frD (frOf (r1 n a))) 14 (.int .i64 r)) _
  refine ⟨rfl, ?_⟩
  rw [← frD_set]
  have : r = 0 ∨ r = 1 ∨ r = 2 ∨ r = 3 ∨ r = 4 ∨ r = 5 ∨ r = 6 ∨ r = 7 ∨ r = 8 ∨ r = 9 := by omega
  rcases this with rfl | rfl | rfl | rfl | rfl | rfl | rfl | rfl | rfl | rfl
  · refine inner 0 n a (by decide) (by decide) (n3_0 n a) (v3_0 n a) (w3_0 n a) fun x x0 x1 => ?_
    have : x = 0 ∨ x = 1 := by omega
    rcases this with rfl | rfl
    · exact q0_0 n a
    · exact q0_1 n a
  · refine inner 1 n a (by decide) (by decide) (n3_1 n a) (v3_1 n a) (w3_1 n a) fun x x0 x1 => ?_
    have : x = 0 ∨ x = 1 ∨ x = 2 := by omega
    rcases this with rfl | rfl | rfl
    · exact q1_0 n a
    · exact q1_1 n a
    · exact q1_2 n a
  · refine inner 2 n a (by decide) (by decide) (n3_2 n a) (v3_2 n a) (w3_2 n a) fun x x0 x1 => ?_
    have : x = 0 ∨ x = 1 ∨ x = 2 ∨ x = 3 := by omega
    rcases this with rfl | rfl | rfl | rfl
    · exact q2_0 n a
    · exact q2_1 n a
    · exact q2_2 n a
    · exact q2_3 n a
  · refine inner 3 n a (by decide) (by decide) (n3_3 n a) (v3_3 n a) (w3_3 n a) fun x x0 x1 => ?_
    have : x = 0 ∨ x = 1 ∨ x = 2 ∨ x = 3 ∨ x = 4 := by omega
    rcases this with rfl | rfl | rfl | rfl | rfl
    · exact q3_0 n a
    · exact q3_1 n a
    · exact q3_2 n a
    · exact q3_3 n a
    · exact q3_4 n a
  · refine inner 4 n a (by decide) (by decide) (n3_4 n a) (v3_4 n a) (w3_4 n a) fun x x0 x1 => ?_
    have : x = 0 ∨ x = 1 ∨ x = 2 ∨ x = 3 ∨ x = 4 ∨ x = 5 := by omega
    rcases this with rfl | rfl | rfl | rfl | rfl | rfl
    · exact q4_0 n a
    · exact q4_1 n a
    · exact q4_2 n a
    · exact q4_3 n a
    · exact q4_4 n a
    · exact q4_5 n a
  · refine inner 5 n a (by decide) (by decide) (n3_5 n a) (v3_5 n a) (w3_5 n a) fun x x0 x1 => ?_
    have : x = 0 ∨ x = 1 ∨ x = 2 ∨ x = 3 ∨ x = 4 ∨ x = 5 ∨ x = 6 := by omega
    rcases this with rfl | rfl | rfl | rfl | rfl | rfl | rfl
    · exact q5_0 n a
    · exact q5_1 n a
    · exact q5_2 n a
    · exact q5_3 n a
    · exact q5_4 n a
    · exact q5_5 n a
    · exact q5_6 n a
  · refine inner 6 n a (by decide) (by decide) (n3_6 n a) (v3_6 n a) (w3_6 n a) fun x x0 x1 => ?_
    have : x = 0 ∨ x = 1 ∨ x = 2 ∨ x = 3 ∨ x = 4 ∨ x = 5 ∨ x = 6 ∨ x = 7 := by omega
    rcases this with rfl | rfl | rfl | rfl | rfl | rfl | rfl | rfl
    · exact q6_0 n a
    · exact q6_1 n a
    · exact q6_2 n a
    · exact q6_3 n a
    · exact q6_4 n a
    · exact q6_5 n a
    · exact q6_6 n a
    · exact q6_7 n a
  · refine inner 7 n a (by decide) (by decide) (n3_7 n a) (v3_7 n a) (w3_7 n a) fun x x0 x1 => ?_
    have : x = 0 ∨ x = 1 ∨ x = 2 ∨ x = 3 ∨ x = 4 ∨ x = 5 ∨ x = 6 ∨ x = 7 ∨ x = 8 := by omega
    rcases this with rfl | rfl | rfl | rfl | rfl | rfl | rfl | rfl | rfl
    · exact q7_0 n a
    · exact q7_1 n a
    · exact q7_2 n a
    · exact q7_3 n a
    · exact q7_4 n a
    · exact q7_5 n a
    · exact q7_6 n a
    · exact q7_7 n a
    · exact q7_8 n a
  · refine inner 8 n a (by decide) (by decide) (n3_8 n a) (v3_8 n a) (w3_8 n a) fun x x0 x1 => ?_
    have : x = 0 ∨ x = 1 ∨ x = 2 ∨ x = 3 ∨ x = 4 ∨ x = 5 ∨ x = 6 ∨ x = 7 ∨ x = 8 ∨ x = 9 := by omega
    rcases this with rfl | rfl | rfl | rfl | rfl | rfl | rfl | rfl | rfl | rfl
    · exact q8_0 n a
    · exact q8_1 n a
    · exact q8_2 n a
    · exact q8_3 n a
    · exact q8_4 n a
    · exact q8_5 n a
    · exact q8_6 n a
    · exact q8_7 n a
    · exact q8_8 n a
    · exact q8_9 n a
  · refine inner 9 n a (by decide) (by decide) (n3_9 n a) (v3_9 n a) (w3_9 n a) fun x x0 x1 => ?_
    have : x = 0 ∨ x = 1 ∨ x = 2 ∨ x = 3 ∨ x = 4 ∨ x = 5 ∨ x = 6 ∨ x = 7 ∨ x = 8 ∨ x = 9 ∨ x = 10 := by omega
    rcases this with rfl | rfl | rfl | rfl | rfl | rfl | rfl | rfl | rfl | rfl | rfl
    · exact q9_0 n a
    · exact q9_1 n a
    · exact q9_2 n a
    · exact q9_3 n a
    · exact q9_4 n a
    · exact q9_5 n a
    · exact q9_6 n a
    · exact q9_7 n a
    · exact q9_8 n a
    · exact q9_9 n a
    · exact q9_10 n a
theorem calls (n a : Int) (W : World) : Calls Try.prog 4 #[.int .i64 n, .int .i64 a] W fun e W' => e = .returned (.bool true) ∧ Kept W W' :=
  run_E ok1 (tab_ok Try.prog) glob (call n a) (.cons (.int _ _) (.cons (.int _ _) .nil)) W
end Go.Proofs.Ytjagadjljllabaa.gr
