/- GroupRing, the evaluation: what is evaluated. -/
import Derived.Test.YtjagadjljllabaaCnEvRun
import Derived.Test.YtjagadjljllabaaProg
import Derived.KernelRfl
namespace Go.Proofs.Ytjagadjljllabaa.gr
set_option linter.unusedVariables false
set_option linter.unusedSimpArgs false
open Go.Proofs Go Go.Cn Go.Cn.Ev

theorem ok1 : ProgOk Try.prog := progOk_of (by kernel_rfl) (by kernel_rfl)
theorem glob : Try.prog.globals.size = 0 := by kernel_rfl
noncomputable abbrev T := tab Try.prog
noncomputable abbrev C : CF := callE T 100
noncomputable def F : CFun := (T 4).getD ⟨.no, []⟩
theorem tF : T 4 = some F := by kernel_rfl
noncomputable def N : CFun := (T 15).getD ⟨.no, []⟩
theorem tN : T 15 = some N := by kernel_rfl
def pN : List Dir := [.right, .right, .left, .left, .at 2]
noncomputable def NA : CCode := ((split pN N.body).getD (.no, .no)).1
noncomputable def NB : CCode := ((split pN N.body).getD (.no, .no)).2
theorem sN : split pN N.body = some (NA, NB) := by kernel_rfl
noncomputable def nA (n m : Int) (E : LE) (h : HS) : RC := codeE true C E NA (argsF [.int .i64 n, .int .i64 m] 0) h
noncomputable def nB (b : Bool) (n m : Int) (E : LE) (h : HS) : ER := finK N.res (codeE true C E NB (setP (.bool b) (path 10) (frOf (nA n m E h))) (hsOf (nA n m E h)))
theorem nN2 (n : Int) (E : LE) (h : HS) : isNorm (nA n 2 E h) = true := by kernel_rfl
theorem vN2 (n : Int) (E : LE) (h : HS) : getV (path 10) (frOf (nA n 2 E h)) = .bool (ltI (Int.tmod n 2) 0) := by kernel_rfl
theorem tN2 (n : Int) (E : LE) (h : HS) : nB true n 2 E h = .ok (.int .i64 (wrapE .i64 (addI (Int.tmod n 2) 2))) h := by kernel_rfl
theorem fN2 (n : Int) (E : LE) (h : HS) : nB false n 2 E h = .ok (.int .i64 (Int.tmod n 2)) h := by kernel_rfl
theorem nN3 (n : Int) (E : LE) (h : HS) : isNorm (nA n 3 E h) = true := by kernel_rfl
theorem vN3 (n : Int) (E : LE) (h : HS) : getV (path 10) (frOf (nA n 3 E h)) = .bool (ltI (Int.tmod n 3) 0) := by kernel_rfl
theorem tN3 (n : Int) (E : LE) (h : HS) : nB true n 3 E h = .ok (.int .i64 (wrapE .i64 (addI (Int.tmod n 3) 3))) h := by kernel_rfl
theorem fN3 (n : Int) (E : LE) (h : HS) : nB false n 3 E h = .ok (.int .i64 (Int.tmod n 3)) h := by kernel_rfl
theorem nN4 (n : Int) (E : LE) (h : HS) : isNorm (nA n 4 E h) = true := by kernel_rfl
theorem vN4 (n : Int) (E : LE) (h : HS) : getV (path 10) (frOf (nA n 4 E h)) = .bool (ltI (Int.tmod n 4) 0) := by kernel_rfl
theorem tN4 (n : Int) (E : LE) (h : HS) : nB true n 4 E h = .ok (.int .i64 (wrapE .i64 (addI (Int.tmod n 4) 4))) h := by kernel_rfl
theorem fN4 (n : Int) (E : LE) (h : HS) : nB false n 4 E h = .ok (.int .i64 (Int.tmod n 4)) h := by kernel_rfl
theorem nN5 (n : Int) (E : LE) (h : HS) : isNorm (nA n 5 E h) = true := by kernel_rfl
theorem vN5 (n : Int) (E : LE) (h : HS) : getV (path 10) (frOf (nA n 5 E h)) = .bool (ltI (Int.tmod n 5) 0) := by kernel_rfl
theorem tN5 (n : Int) (E : LE) (h : HS) : nB true n 5 E h = .ok (.int .i64 (wrapE .i64 (addI (Int.tmod n 5) 5))) h := by kernel_rfl
theorem fN5 (n : Int) (E : LE) (h : HS) : nB false n 5 E h = .ok (.int .i64 (Int.tmod n 5)) h := by kernel_rfl
theorem nN6 (n : Int) (E : LE) (h : HS) : isNorm (nA n 6 E h) = true := by kernel_rfl
theorem vN6 (n : Int) (E : LE) (h : HS) : getV (path 10) (frOf (nA n 6 E h)) = .bool (ltI (Int.tmod n 6) 0) := by kernel_rfl
theorem tN6 (n : Int) (E : LE) (h : HS) : nB true n 6 E h = .ok (.int .i64 (wrapE .i64 (addI (Int.tmod n 6) 6))) h := by kernel_rfl
theorem fN6 (n : Int) (E : LE) (h : HS) : nB false n 6 E h = .ok (.int .i64 (Int.tmod n 6)) h := by kernel_rfl
theorem nN7 (n : Int) (E : LE) (h : HS) : isNorm (nA n 7 E h) = true := by kernel_rfl
theorem vN7 (n : Int) (E : LE) (h : HS) : getV (path 10) (frOf (nA n 7 E h)) = .bool (ltI (Int.tmod n 7) 0) := by kernel_rfl
theorem tN7 (n : Int) (E : LE) (h : HS) : nB true n 7 E h = .ok (.int .i64 (wrapE .i64 (addI (Int.tmod n 7) 7))) h := by kernel_rfl
theorem fN7 (n : Int) (E : LE) (h : HS) : nB false n 7 E h = .ok (.int .i64 (Int.tmod n 7)) h := by kernel_rfl
theorem nN8 (n : Int) (E : LE) (h : HS) : isNorm (nA n 8 E h) = true := by kernel_rfl
theorem vN8 (n : Int) (E : LE) (h : HS) : getV (path 10) (frOf (nA n 8 E h)) = .bool (ltI (Int.tmod n 8) 0) := by kernel_rfl
theorem tN8 (n : Int) (E : LE) (h : HS) : nB true n 8 E h = .ok (.int .i64 (wrapE .i64 (addI (Int.tmod n 8) 8))) h := by kernel_rfl
theorem fN8 (n : Int) (E : LE) (h : HS) : nB false n 8 E h = .ok (.int .i64 (Int.tmod n 8)) h := by kernel_rfl
theorem nN9 (n : Int) (E : LE) (h : HS) : isNorm (nA n 9 E h) = true := by kernel_rfl
theorem vN9 (n : Int) (E : LE) (h : HS) : getV (path 10) (frOf (nA n 9 E h)) = .bool (ltI (Int.tmod n 9) 0) := by kernel_rfl
theorem tN9 (n : Int) (E : LE) (h : HS) : nB true n 9 E h = .ok (.int .i64 (wrapE .i64 (addI (Int.tmod n 9) 9))) h := by kernel_rfl
theorem fN9 (n : Int) (E : LE) (h : HS) : nB false n 9 E h = .ok (.int .i64 (Int.tmod n 9)) h := by kernel_rfl
theorem nN10 (n : Int) (E : LE) (h : HS) : isNorm (nA n 10 E h) = true := by kernel_rfl
theorem vN10 (n : Int) (E : LE) (h : HS) : getV (path 10) (frOf (nA n 10 E h)) = .bool (ltI (Int.tmod n 10) 0) := by kernel_rfl
theorem tN10 (n : Int) (E : LE) (h : HS) : nB true n 10 E h = .ok (.int .i64 (wrapE .i64 (addI (Int.tmod n 10) 10))) h := by kernel_rfl
theorem fN10 (n : Int) (E : LE) (h : HS) : nB false n 10 E h = .ok (.int .i64 (Int.tmod n 10)) h := by kernel_rfl
theorem nN11 (n : Int) (E : LE) (h : HS) : isNorm (nA n 11 E h) = true := by kernel_rfl
theorem vN11 (n : Int) (E : LE) (h : HS) : getV (path 10) (frOf (nA n 11 E h)) = .bool (ltI (Int.tmod n 11) 0) := by kernel_rfl
theorem tN11 (n : Int) (E : LE) (h : HS) : nB true n 11 E h = .ok (.int .i64 (wrapE .i64 (addI (Int.tmod n 11) 11))) h := by kernel_rfl
theorem fN11 (n : Int) (E : LE) (h : HS) : nB false n 11 E h = .ok (.int .i64 (Int.tmod n 11)) h := by kernel_rfl

/-- a call, in two parts, of which the first gives a truth -/
theorem num_of {n m : Int} {E : LE} {h : HS} (hm : 0 < m) (hm2 : m ≤ 1000) (hn : isNorm (nA n m E h) = true) (hv : getV (path 10) (frOf (nA n m E h)) = .bool (ltI (Int.tmod n m) 0)) (ht : nB true n m E h = .ok (.int .i64 (wrapE .i64 (addI (Int.tmod n m) m))) h) (hf : nB false n m E h = .ok (.int .i64 (Int.tmod n m)) h)
    {Q : Value → CW → Prop} (hQ : ∀ r : Int, 0 ≤ r → r < m → Q (.int .i64 r) (den E h)) : CallA T (.func 15) [.int .i64 n, .int .i64 m] (den E h) Q := by
  have h2 : - m < Int.tmod n m := Int.lt_tmod_of_pos n hm
  have h3 : Int.tmod n m < m := Int.tmod_lt_of_pos n hm
  have key : ∀ b : Bool, ltI (Int.tmod n m) 0 = b → ∃ r : Int, 0 ≤ r ∧ r < m ∧ nB b n m E h = .ok (.int .i64 r) h := by
    intro b hb
    rw [ltI_eq] at hb
    cases b with
    | true =>
      have hb' : Int.tmod n m < 0 := of_decide_eq_true hb
      refine ⟨Int.tmod n m + m, by omega, by omega, ?_⟩
      have e : wrapE .i64 (addI (Int.tmod n m) m) = Int.tmod n m + m := by
        rw [wrapE_eq, addI_eq]
        exact Go.Cn.Ev.wrap_small _ _ ⟨by simp only [loOf]; omega, by simp only [hiOf]; omega⟩
      rw [ht, e]
    | false =>
      have hb' : ¬ Int.tmod n m < 0 := of_decide_eq_false hb
      exact ⟨Int.tmod n m, by omega, by omega, hf⟩
  obtain ⟨r, r0, r1, hr⟩ := key _ rfl
  refine CallA.func tN (split_ok CallA.mono sN ?_)
  rw [← argsF_init]
  refine codeE_ok (callE_ok 100) NA (norm_eq hn) ⟨rfl, ?_⟩
  show CodeW (CallA T) NB (frD (frOf (nA n m E h))) (den E (hsOf (nA n m E h))) _
  rw [← frD_same hv]
  unfold nB at hr
  generalize hc : codeE true C E NB (setP (.bool (ltI (Int.tmod n m) 0)) (path 10) (frOf (nA n m E h))) (hsOf (nA n m E h)) = rc at hr
  cases rc with
  | bad => cases hr
  | ok ex f1 h1 => exact codeE_ok (callE_ok 100) NB hc (finK_ok hr (Q := Q) (hQ r r0 r1))
theorem num (n m : Int) (hm : 2 ≤ m) (hm2 : m ≤ 11) (E : LE) (h : HS) {Q : Value → CW → Prop} (hQ : ∀ r : Int, 0 ≤ r → r < m → Q (.int .i64 r) (den E h)) : CallA T (.func 15) [.int .i64 n, .int .i64 m] (den E h) Q := by
  have : m = 2 ∨ m = 3 ∨ m = 4 ∨ m = 5 ∨ m = 6 ∨ m = 7 ∨ m = 8 ∨ m = 9 ∨ m = 10 ∨ m = 11 := by omega
  rcases this with rfl | rfl | rfl | rfl | rfl | rfl | rfl | rfl | rfl | rfl
  · exact num_of (by decide) (by decide) (nN2 n E h) (vN2 n E h) (tN2 n E h) (fN2 n E h) hQ
  · exact num_of (by decide) (by decide) (nN3 n E h) (vN3 n E h) (tN3 n E h) (fN3 n E h) hQ
  · exact num_of (by decide) (by decide) (nN4 n E h) (vN4 n E h) (tN4 n E h) (fN4 n E h) hQ
  · exact num_of (by decide) (by decide) (nN5 n E h) (vN5 n E h) (tN5 n E h) (fN5 n E h) hQ
  · exact num_of (by decide) (by decide) (nN6 n E h) (vN6 n E h) (tN6 n E h) (fN6 n E h) hQ
  · exact num_of (by decide) (by decide) (nN7 n E h) (vN7 n E h) (tN7 n E h) (fN7 n E h) hQ
  · exact num_of (by decide) (by decide) (nN8 n E h) (vN8 n E h) (tN8 n E h) (fN8 n E h) hQ
  · exact num_of (by decide) (by decide) (nN9 n E h) (vN9 n E h) (tN9 n E h) (fN9 n E h) hQ
  · exact num_of (by decide) (by decide) (nN10 n E h) (vN10 n E h) (tN10 n E h) (fN10 n E h) hQ
  · exact num_of (by decide) (by decide) (nN11 n E h) (vN11 n E h) (tN11 n E h) (fN11 n E h) hQ

def p1 : List Dir := [.right, .right, .right, .left, .at 1]
def p2 : List Dir := [.left, .at 1]
def p3 : List Dir := [.right, .left, .at 2]
noncomputable def A1 : CCode := ((split p1 F.body).getD (.no, .no)).1
noncomputable def B1 : CCode := ((split p1 F.body).getD (.no, .no)).2
theorem s1 : split p1 F.body = some (A1, B1) := by kernel_rfl
noncomputable def B2 : CCode := ((split p2 B1).getD (.no, .no)).2
theorem s2 : split p2 B1 = some (.region [⟨some 14, none, .e (.call 15 [.tmp 13, .const (.int .i64 10)])⟩], B2) := by kernel_rfl
noncomputable def A3 : CCode := ((split p3 B2).getD (.no, .no)).1
noncomputable def B3 : CCode := ((split p3 B2).getD (.no, .no)).2
theorem s3 : split p3 B2 = some (A3, B3) := by kernel_rfl
noncomputable def B4 : CCode := ((split p2 B3).getD (.no, .no)).2
theorem s4 : split p2 B3 = some (.region [⟨some 18, none, .e (.call 15 [.tmp 16, .tmp 17])⟩], B4) := by kernel_rfl
noncomputable def r1 (n a : Int) : RC := codeE true C E0 A1 (argsF [.int .i64 n, .int .i64 a] 0) h0
theorem n1 (n a : Int) : isNorm (r1 n a) = true := by kernel_rfl
theorem v1 (n a : Int) : getV (path 13) (frOf (r1 n a)) = .int .i64 n := by kernel_rfl
noncomputable def r3 (r n a : Int) : RC := codeE true C E0 A3 (setP (.int .i64 r) (path 14) (frOf (r1 n a))) (hsOf (r1 n a))
noncomputable def r4 (r x n a : Int) : Bool := isTrue (finK F.res (codeE false C E0 B4 (setP (.int .i64 x) (path 18) (frOf (r3 r n a))) (hsOf (r3 r n a))))
theorem n3_0 (n a : Int) : isNorm (r3 0 n a) = true := by kernel_rfl
theorem v3_0 (n a : Int) : getV (path 16) (frOf (r3 0 n a)) = .int .i64 a := by kernel_rfl
theorem w3_0 (n a : Int) : getV (path 17) (frOf (r3 0 n a)) = .int .i64 2 := by kernel_rfl
theorem n3_1 (n a : Int) : isNorm (r3 1 n a) = true := by kernel_rfl
theorem v3_1 (n a : Int) : getV (path 16) (frOf (r3 1 n a)) = .int .i64 a := by kernel_rfl
theorem w3_1 (n a : Int) : getV (path 17) (frOf (r3 1 n a)) = .int .i64 3 := by kernel_rfl
theorem n3_2 (n a : Int) : isNorm (r3 2 n a) = true := by kernel_rfl
theorem v3_2 (n a : Int) : getV (path 16) (frOf (r3 2 n a)) = .int .i64 a := by kernel_rfl
theorem w3_2 (n a : Int) : getV (path 17) (frOf (r3 2 n a)) = .int .i64 4 := by kernel_rfl
theorem n3_3 (n a : Int) : isNorm (r3 3 n a) = true := by kernel_rfl
theorem v3_3 (n a : Int) : getV (path 16) (frOf (r3 3 n a)) = .int .i64 a := by kernel_rfl
theorem w3_3 (n a : Int) : getV (path 17) (frOf (r3 3 n a)) = .int .i64 5 := by kernel_rfl
theorem n3_4 (n a : Int) : isNorm (r3 4 n a) = true := by kernel_rfl
theorem v3_4 (n a : Int) : getV (path 16) (frOf (r3 4 n a)) = .int .i64 a := by kernel_rfl
theorem w3_4 (n a : Int) : getV (path 17) (frOf (r3 4 n a)) = .int .i64 6 := by kernel_rfl
theorem n3_5 (n a : Int) : isNorm (r3 5 n a) = true := by kernel_rfl
theorem v3_5 (n a : Int) : getV (path 16) (frOf (r3 5 n a)) = .int .i64 a := by kernel_rfl
theorem w3_5 (n a : Int) : getV (path 17) (frOf (r3 5 n a)) = .int .i64 7 := by kernel_rfl
theorem n3_6 (n a : Int) : isNorm (r3 6 n a) = true := by kernel_rfl
theorem v3_6 (n a : Int) : getV (path 16) (frOf (r3 6 n a)) = .int .i64 a := by kernel_rfl
theorem w3_6 (n a : Int) : getV (path 17) (frOf (r3 6 n a)) = .int .i64 8 := by kernel_rfl
theorem n3_7 (n a : Int) : isNorm (r3 7 n a) = true := by kernel_rfl
theorem v3_7 (n a : Int) : getV (path 16) (frOf (r3 7 n a)) = .int .i64 a := by kernel_rfl
theorem w3_7 (n a : Int) : getV (path 17) (frOf (r3 7 n a)) = .int .i64 9 := by kernel_rfl
theorem n3_8 (n a : Int) : isNorm (r3 8 n a) = true := by kernel_rfl
theorem v3_8 (n a : Int) : getV (path 16) (frOf (r3 8 n a)) = .int .i64 a := by kernel_rfl
theorem w3_8 (n a : Int) : getV (path 17) (frOf (r3 8 n a)) = .int .i64 10 := by kernel_rfl
theorem n3_9 (n a : Int) : isNorm (r3 9 n a) = true := by kernel_rfl
theorem v3_9 (n a : Int) : getV (path 16) (frOf (r3 9 n a)) = .int .i64 a := by kernel_rfl
theorem w3_9 (n a : Int) : getV (path 17) (frOf (r3 9 n a)) = .int .i64 11 := by kernel_rfl
end Go.Proofs.Ytjagadjljllabaa.gr
