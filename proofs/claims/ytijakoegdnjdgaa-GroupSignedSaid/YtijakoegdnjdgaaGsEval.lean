/- GroupSigned, the evaluation: the canonical machine's run answers true in each of the 24 cases that the number's rest and the sign leave. -/
import Derived.Test.YtijakoegdnjdgaaCnSeat
import Derived.Test.YtijakoegdnjdgaaProg
import Derived.KernelRfl
namespace Go.Proofs.Ytijakoegdnjdgaa.gsEval
open Go.Proofs Go.Cn
theorem ok1 : ProgOk Try.prog := progOk_of (by kernel_rfl) (by kernel_rfl)
theorem glob : Try.prog.globals.size = 0 := by kernel_rfl
noncomputable abbrev T := tab Try.prog
noncomputable def gsF : CFun := (T 6).getD ⟨.no, []⟩
theorem gsT : T 6 = some gsF := by kernel_rfl
noncomputable def isSome' (o : Option (CCode × CCode)) : Bool := o.isSome
noncomputable def gsA : CCode := ((split [.right, .right, .right, .right] gsF.body).getD (.no, .no)).1
noncomputable def gsB : CCode := ((split [.right, .right, .right, .right] gsF.body).getD (.no, .no)).2
theorem gsS : split [.right, .right, .right, .right] gsF.body = some (gsA, gsB) := by kernel_rfl
noncomputable def gsP (n : Int) (b : Bool) : RC := codeE (callE T 100) gsA (argsF [.int .i64 n, .bool b] 0) h0
theorem gsN (n : Int) (b : Bool) : isNorm (gsP n b) = true := by kernel_rfl
noncomputable def gsV (n : Int) : Int := Int.tmod (wrapE .i64 (addI (Int.tmod n 12) 12)) 12
theorem gsE (n : Int) (b : Bool) : getV (path 0) (frOf (gsP n b)) = .int .i64 (gsV n) := by kernel_rfl
noncomputable def gsR (k : Int) (n : Int) (b : Bool) : Bool := isTrue (finK gsF.res (codeE (callE T 100) gsB (setP (.int .i64 k) (path 0) (frOf (gsP n b))) (hsOf (gsP n b))))
theorem gsR0t (n : Int) : gsR 0 n true = true := by kernel_rfl
theorem gsR0f (n : Int) : gsR 0 n false = true := by kernel_rfl
theorem gsR1t (n : Int) : gsR 1 n true = true := by kernel_rfl
theorem gsR1f (n : Int) : gsR 1 n false = true := by kernel_rfl
theorem gsR2t (n : Int) : gsR 2 n true = true := by kernel_rfl
theorem gsR2f (n : Int) : gsR 2 n false = true := by kernel_rfl
theorem gsR3t (n : Int) : gsR 3 n true = true := by kernel_rfl
theorem gsR3f (n : Int) : gsR 3 n false = true := by kernel_rfl
theorem gsR4t (n : Int) : gsR 4 n true = true := by kernel_rfl
theorem gsR4f (n : Int) : gsR 4 n false = true := by kernel_rfl
theorem gsR5t (n : Int) : gsR 5 n true = true := by kernel_rfl
theorem gsR5f (n : Int) : gsR 5 n false = true := by kernel_rfl
theorem gsR6t (n : Int) : gsR 6 n true = true := by kernel_rfl
theorem gsR6f (n : Int) : gsR 6 n false = true := by kernel_rfl
theorem gsR7t (n : Int) : gsR 7 n true = true := by kernel_rfl
theorem gsR7f (n : Int) : gsR 7 n false = true := by kernel_rfl
theorem gsR8t (n : Int) : gsR 8 n true = true := by kernel_rfl
theorem gsR8f (n : Int) : gsR 8 n false = true := by kernel_rfl
theorem gsR9t (n : Int) : gsR 9 n true = true := by kernel_rfl
theorem gsR9f (n : Int) : gsR 9 n false = true := by kernel_rfl
theorem gsR10t (n : Int) : gsR 10 n true = true := by kernel_rfl
theorem gsR10f (n : Int) : gsR 10 n false = true := by kernel_rfl
theorem gsR11t (n : Int) : gsR 11 n true = true := by kernel_rfl
theorem gsR11f (n : Int) : gsR 11 n false = true := by kernel_rfl
theorem gsV_range (n : Int) : 0 ≤ gsV n ∧ gsV n < 12 := by
  have h2 : - 12 < Int.tmod n 12 := Int.lt_tmod_of_pos n (by decide)
  have h3 : Int.tmod n 12 < 12 := Int.tmod_lt_of_pos n (by decide)
  have e : wrapE .i64 (addI (Int.tmod n 12) 12) = Int.tmod n 12 + 12 := by
    rw [wrapE_eq, addI_eq]
    exact wrap_small _ _ ⟨by simp only [loOf]; omega, by simp only [hiOf]; omega⟩
  unfold gsV
  rw [e]
  exact ⟨Int.tmod_nonneg 12 (by omega), Int.tmod_lt_of_pos _ (by decide)⟩
theorem gsAll (k : Int) (h : 0 ≤ k ∧ k < 12) (n : Int) (b : Bool) : gsR k n b = true := by
  have : k = 0 ∨ k = 1 ∨ k = 2 ∨ k = 3 ∨ k = 4 ∨ k = 5 ∨ k = 6 ∨ k = 7 ∨ k = 8 ∨ k = 9 ∨ k = 10 ∨ k = 11 := by omega
  rcases this with rfl | rfl | rfl | rfl | rfl | rfl | rfl | rfl | rfl | rfl | rfl | rfl <;> cases b
  · exact gsR0f n
  · exact gsR0t n
  · exact gsR1f n
  · exact gsR1t n
  · exact gsR2f n
  · exact gsR2t n
  · exact gsR3f n
  · exact gsR3t n
  · exact gsR4f n
  · exact gsR4t n
  · exact gsR5f n
  · exact gsR5t n
  · exact gsR6f n
  · exact gsR6t n
  · exact gsR7f n
  · exact gsR7t n
  · exact gsR8f n
  · exact gsR8t n
  · exact gsR9f n
  · exact gsR9t n
  · exact gsR10f n
  · exact gsR10t n
  · exact gsR11f n
  · exact gsR11t n
theorem gsCall (n : Int) (b : Bool) : ∃ h', CallN T 101 6 [.int .i64 n, .bool b] (den h0) (.bool true) (den h') := by
  obtain ⟨h', he⟩ := ends_true (callE_ok (T := T) 100) (gsAll (gsV n) (gsV_range n) n b)
  refine ⟨h', callN_of_ends gsT (ends_cut (callE_ok 100) gsS (t := 0) (v := .int .i64 (gsV n)) (gsN n b) ?_ he)⟩
  have := gsE n b
  rw [getV_eq] at this
  exact this
theorem gsCalls (n : Int) (b : Bool) (W : World) : Calls Try.prog 6 #[.int .i64 n, .bool b] W fun e W' => e = .returned (.bool true) ∧ Kept W W' := by
  obtain ⟨h', h⟩ := gsCall n b
  exact run_true ok1 (tab_ok Try.prog) glob h (.cons (.int _ _) (.cons (.bool _) .nil)) W
end Go.Proofs.Ytijakoegdnjdgaa.gsEval
