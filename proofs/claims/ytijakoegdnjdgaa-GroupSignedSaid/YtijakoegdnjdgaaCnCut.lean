/- A cut in a function's code: what stands ahead of it, what stands behind. -/
import Derived.Test.YtijakoegdnjdgaaCnGlue
namespace Go.Cn
set_option linter.unusedVariables false

inductive Dir where
  | left
  | right
  | into

def split : List Dir → CCode → Option (CCode × CCode)
  | [], c => some (.skip, c)
  | .left :: p, .seq a b => match split p a with
    | some (x, y) => some (x, .seq y b)
    | none => none
  | .right :: p, .seq a b => match split p b with
    | some (x, y) => some (.seq a x, y)
    | none => none
  | .into :: p, .block id c => match split p c with
    | some (x, y) => some (x, .block id y)
    | none => none
  | _, _ => none

theorem split_ok {R : CallR} : ∀ {p : List Dir} {c a b : CCode}, split p c = some (a, b) → ∀ {fr fr1 fr2 : Fr} {σ σ1 σ2 : CW} {e : CExit}, CodeR R a fr σ .normal fr1 σ1 → CodeR R b fr1 σ1 e fr2 σ2 → CodeR R c fr σ e fr2 σ2
  | [], c, a, b, h, fr, fr1, fr2, σ, σ1, σ2, e, h1, h2 => by
    cases h
    cases h1
    exact h2
  | d :: p, c, a, b, h, fr, fr1, fr2, σ, σ1, σ2, e, h1, h2 => by
    cases d <;> cases c <;> simp only [split] at h <;> try (cases h; done)
    · rename_i x y
      split at h
      · rename_i u v he
        cases h
        cases h2 with
        | seq g1 g2 => exact .seq (split_ok he h1 g1) g2
        | seqOut g1 g2 => exact .seqOut (split_ok he h1 g1) g2
      · cases h
    · rename_i x y
      split at h
      · rename_i u v he
        cases h
        cases h1 with
        | seq g1 g2 => exact .seq g1 (split_ok he g2 h2)
        | seqOut g1 g2 => exact absurd rfl g2
      · cases h
    · rename_i id x
      split at h
      · rename_i u v he
        cases h
        cases h2 with
        | block g1 g2 => exact .block (split_ok he h1 g1) g2
        | blockOut g1 => exact .blockOut (split_ok he h1 g1)
      · cases h

/-- the temporary 't' holds a number already -/
theorem frD_same {fr : FV} {t : Nat} {v : Value} (h : frD fr t = v) : frD (setP v (path t) fr) = frD fr := by
  rw [frD_set]
  funext m
  unfold upd
  by_cases e : m = t
  · rw [if_pos e, e, h]
  · rw [if_neg e]

noncomputable def frOf (r : RC) : FV := @RC.rec (fun _ => FV) .nil (fun _ fr _ => fr) r
noncomputable def hsOf (r : RC) : HS := @RC.rec (fun _ => HS) h0 (fun _ _ h => h) r
noncomputable def isNorm (r : RC) : Bool := @RC.rec (fun _ => Bool) false (fun e _ _ => @CExit.rec (fun _ => Bool) true (fun _ => false) false e) r
theorem isNorm_ok {r : RC} (h : isNorm r = true) : r = .ok .normal (frOf r) (hsOf r) := by
  cases r with
  | bad => cases h
  | ok e fr x => cases e <;> first | rfl | cases h

/-- what is left of a call comes to -/
def Ends (R : CallR) (rs : List CRes) (b : CCode) (fr : Fr) (σ : CW) (v : Value) (σ' : CW) : Prop :=
  ∃ e fr2 vs, CodeR R b fr σ e fr2 σ' ∧ (e = .normal ∨ e = .ret) ∧ resL fr2 σ' rs = some vs ∧ v = resV vs

theorem ends_of_run {C : CF} {R : CallR} (hC : CallOk C R) {rs : List CRes} {b : CCode} {fr : FV} {h h' : HS} {v : Value} (hh : finK rs (codeE C b fr h) = .ok v h') : Ends R rs b (frD fr) (den h) v (den h') := by
  cases e2 : codeE C b fr h with
  | bad => rw [e2] at hh; cases hh
  | ok ex f1 h1 =>
    rw [e2] at hh
    have hcode := codeE_ok hC b e2
    have hret : ∀ {v h'}, retK rs f1 h1 = .ok v h' → ∃ vs, resL (frD f1) (den h1) rs = some vs ∧ v = resV vs ∧ h' = h1 := by
      intro v h' hh
      unfold retK at hh
      cases e3 : resLE f1 h1 rs with
      | none => rw [e3] at hh; cases hh
      | some vs => rw [e3] at hh; cases hh; exact ⟨vs, resLE_ok e3, resVE_eq vs, rfl⟩
    cases ex with
    | exit id => cases hh
    | normal =>
      obtain ⟨vs, k1, k2, rfl⟩ := hret hh
      exact ⟨_, _, vs, hcode, .inl rfl, k1, k2⟩
    | ret =>
      obtain ⟨vs, k1, k2, rfl⟩ := hret hh
      exact ⟨_, _, vs, hcode, .inr rfl, k1, k2⟩

theorem ends_true {C : CF} {R : CallR} (hC : CallOk C R) {rs : List CRes} {b : CCode} {fr : FV} {h : HS} (hh : isTrue (finK rs (codeE C b fr h)) = true) : ∃ h', Ends R rs b (frD fr) (den h) (.bool true) (den h') := by
  obtain ⟨h', e⟩ := isTrue_ok hh
  exact ⟨h', ends_of_run hC e⟩

/-- Cut: the part ahead may look at numbers that are not known; behind it one that is known stands in the temporary. -/
theorem ends_cut {C : CF} {R : CallR} (hC : CallOk C R) {rs : List CRes} {p : List Dir} {c a b : CCode} (hs : split p c = some (a, b)) {fr : FV} {h : HS} {t : Nat} {v r : Value} {σ' : CW}
    (h1 : isNorm (codeE C a fr h) = true) (h2 : frD (frOf (codeE C a fr h)) t = v) (h3 : Ends R rs b (frD (setP v (path t) (frOf (codeE C a fr h)))) (den (hsOf (codeE C a fr h))) r σ') : Ends R rs c (frD fr) (den h) r σ' := by
  have g1 := codeE_ok hC a (isNorm_ok h1)
  obtain ⟨e, fr2, vs, k1, k2, k3, k4⟩ := h3
  rw [frD_same h2] at k1
  exact ⟨e, fr2, vs, split_ok hs g1 k1, k2, k3, k4⟩

theorem callN_of_ends {T : Nat → Option CFun} {d f : Nat} {args : List Value} {cf : CFun} {σ' : CW} {h : HS} {v : Value} (hf : T f = some cf) (he : Ends (CallN T d) cf.res cf.body (frD (argsF args 0)) (den h) v σ') : CallN T (d + 1) f args (den h) v σ' := by
  obtain ⟨e, fr2, vs, k1, k2, k3, k4⟩ := he
  rw [argsF_init] at k1
  exact ⟨cf, e, fr2, vs, hf, k1, k2, k3, k4⟩

/-- The rest of a number, as Go reckons it when it may be below zero. -/
theorem rem_range (a : Int) (m : Int) (h0 : 0 < m) (h1 : m ≤ 1000000) : 0 ≤ Int.tmod (Int.tmod a m + m) m ∧ Int.tmod (Int.tmod a m + m) m < m := by
  have h2 : - m < Int.tmod a m := by
    have := Int.lt_tmod_of_pos a h0
    exact this
  have h3 : Int.tmod a m < m := Int.tmod_lt_of_pos a h0
  exact ⟨Int.tmod_nonneg m (by omega), Int.tmod_lt_of_pos _ h0⟩

end Go.Cn
