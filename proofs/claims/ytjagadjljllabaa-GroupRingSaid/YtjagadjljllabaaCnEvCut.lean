/- A cut in a function's code: what stands ahead of it, what stands behind; and from the evaluator to calls. -/
import Derived.Test.YtjagadjljllabaaCnEvOk7
namespace Go.Cn.Ev
set_option linter.unusedSimpArgs false
set_option linter.unusedVariables false

inductive Dir where
  | left
  | right
  | into
  /-- ahead of a region's operation -/
  | at (i : Nat)
  /-- ahead of a stage's reading -/
  | stage (j i : Nat)

def split : List Dir → CCode → Option (CCode × CCode)
  | [], c => some (.skip, c)
  | .left :: p, .seq a b => match split p a with
    | some (x, y) => some (x, .seq y b)
    | none => none
  | .right :: p, .seq a b => match split p b with
    | some (x, y) => some (.seq a x, y)
    | none => none
  | .into :: p, .block id c => match split p c with
    | some (x, y) => some (x, .block id y)
    | none => none
  | .at i :: _, .region l => some (.region (l.take i), .region (l.drop i))
  | .at i :: _, .dregion l st => some (.region (l.take i), .dregion (l.drop i) st)
  | .stage j i :: _, .dregion l st => match st[j]? with
    | some s => some (.dregion l (st.take j ++ [⟨s.e, s.ag, s.seg.take i⟩]), .dregion (s.seg.drop i) (st.drop (j + 1)))
    | none => none
  | _, _ => none

section
variable {R : CallQ}
theorem inv_seq {a b : CCode} {fr : Fr} {σ : CW} {Q : CExit → Fr → CW → Prop} (h : CodeW R (.seq a b) fr σ Q) : ∃ P, CodeW R a fr σ P ∧ (∀ fr1 σ1, P .normal fr1 σ1 → CodeW R b fr1 σ1 Q) ∧ ∀ e fr1 σ1, e ≠ .normal → P e fr1 σ1 → Q e fr1 σ1 := by
  cases h with
  | seq h t o => exact ⟨_, h, t, o⟩
theorem inv_block {id : Nat} {c : CCode} {fr : Fr} {σ : CW} {Q : CExit → Fr → CW → Prop} (h : CodeW R (.block id c) fr σ Q) : ∃ P, CodeW R c fr σ P ∧ ∀ e fr1 σ1, P e fr1 σ1 → Q (if e = .exit id then .normal else e) fr1 σ1 := by
  cases h with
  | block h o => exact ⟨_, h, o⟩
theorem inv_region {l : List CStep} {fr : Fr} {σ : CW} {Q : CExit → Fr → CW → Prop} (h : CodeW R (.region l) fr σ Q) : StepsW R l fr σ (Q .normal) := by
  cases h with
  | region h => exact h
theorem inv_dregion {l : List CStep} {st : List Stage} {fr : Fr} {σ : CW} {Q : CExit → Fr → CW → Prop} (h : CodeW R (.dregion l st) fr σ Q) : StepsW R l fr σ fun fr1 σ1 => StagesW R st fr1 σ1 (Q .normal) := by
  cases h with
  | dregion h => exact h
theorem steps_app (hC : LeC R R) : ∀ {l m : List CStep} {fr : Fr} {σ : CW} {K : Fr → CW → Prop}, StepsW R l fr σ (fun fr σ => StepsW R m fr σ K) → StepsW R (l ++ m) fr σ K
  | [], m, fr, σ, K, h => h
  | s :: l, m, fr, σ, K, h => StepW.mono hC h fun _ _ h => steps_app hC h
theorem stages_app (hC : LeC R R) : ∀ {l m : List Stage} {fr : Fr} {σ : CW} {K : Fr → CW → Prop}, StagesW R l fr σ (fun fr σ => StagesW R m fr σ K) → StagesW R (l ++ m) fr σ K
  | [], m, fr, σ, K, h => h
  | s :: l, m, fr, σ, K, h => StepW.mono hC h fun _ _ h => ⟨h.1, StepsW.mono hC h.2 fun _ _ h => stages_app hC h⟩
theorem stages_unapp (hC : LeC R R) : ∀ {l m : List Stage} {fr : Fr} {σ : CW} {K : Fr → CW → Prop}, StagesW R (l ++ m) fr σ K → StagesW R l fr σ fun fr σ => StagesW R m fr σ K
  | [], m, fr, σ, K, h => h
  | s :: l, m, fr, σ, K, h => StepW.mono hC h fun _ _ h => ⟨h.1, StepsW.mono hC h.2 fun _ _ h => stages_unapp hC h⟩

/-- ahead of the cut, then behind it -/
def Then (R : CallQ) (b : CCode) (Q : CExit → Fr → CW → Prop) (e : CExit) (fr : Fr) (σ : CW) : Prop := e = .normal ∧ CodeW R b fr σ Q

theorem split_ok (hC : LeC R R) : ∀ {p : List Dir} {c a b : CCode}, split p c = some (a, b) → ∀ {fr : Fr} {σ : CW} {Q : CExit → Fr → CW → Prop}, CodeW R a fr σ (Then R b Q) → CodeW R c fr σ Q
  | [], c, a, b, h, fr, σ, Q, hw => by
    simp only [split, Option.some.injEq, Prod.mk.injEq] at h
    obtain ⟨rfl, rfl⟩ := h
    cases hw with
    | skip h => exact h.2
  | d :: p, c, a, b, h, fr, σ, Q, hw => by
    cases d <;> cases c <;> simp only [split, reduceCtorEq] at h
    case left.seq x y =>
      split at h
      · rename_i u v he
        cases h
        refine .seq (R := fun e fr σ => (e = .normal → CodeW R y fr σ Q) ∧ (e ≠ .normal → Q e fr σ)) (split_ok hC he (hw.mono hC fun e fr1 σ1 ⟨h1, h2⟩ => ⟨h1, ?_⟩)) (fun _ _ h => h.1 rfl) fun _ _ _ hne h => h.2 hne
        obtain ⟨P, g1, g2, g3⟩ := inv_seq h2
        exact g1.mono hC fun e fr σ hp => ⟨fun he => by subst he; exact g2 _ _ hp, fun he => g3 _ _ _ he hp⟩
      · cases h
    case right.seq x y =>
      split at h
      · rename_i u v he
        cases h
        obtain ⟨P, g1, g2, g3⟩ := inv_seq hw
        exact .seq g1 (fun _ _ hp => split_ok hC he (g2 _ _ hp)) fun e _ _ hne hp => absurd (g3 _ _ _ hne hp).1 hne
      · cases h
    case into.block id x =>
      split at h
      · rename_i u v he
        cases h
        refine .block (R := fun e fr σ => Q (if e = .exit id then .normal else e) fr σ) (split_ok hC he (hw.mono hC fun e fr1 σ1 ⟨h1, h2⟩ => ⟨h1, ?_⟩)) fun _ _ _ h => h
        obtain ⟨P, g1, g2⟩ := inv_block h2
        exact g1.mono hC fun e fr σ hp => g2 _ _ _ hp
      · cases h
    case at.region i l =>
      cases h
      have := StepsW.mono hC (inv_region hw) fun fr σ h => inv_region h.2
      have := steps_app hC this
      rw [List.take_append_drop] at this
      exact .region this
    case at.dregion i l st =>
      cases h
      have := StepsW.mono hC (inv_region hw) fun fr σ h => inv_dregion h.2
      have := steps_app hC this
      rw [List.take_append_drop] at this
      exact .dregion this
    case stage.dregion j i l st =>
      split at h
      · rename_i s he
        cases h
        refine .dregion (StepsW.mono hC (inv_dregion hw) fun fr σ h => ?_)
        have h1 := stages_unapp hC h
        have e1 : st = st.take j ++ s :: st.drop (j + 1) := by
          have hl : j < st.length := (List.getElem?_eq_some_iff.1 he).1
          have : st[j] = s := (List.getElem?_eq_some_iff.1 he).2
          rw [← this, ← List.drop_eq_getElem_cons hl, List.take_append_drop]
        rw [e1]
        refine stages_app hC (StagesW.mono hC h1 fun fr σ h => ?_)
        refine StepW.mono hC (show StepW R s.e fr σ _ from h) fun fr σ h => ⟨h.1, ?_⟩
        have h2 := StepsW.mono hC h.2 fun fr σ (h : Then R _ Q .normal fr σ) => inv_dregion h.2
        have h3 := steps_app hC h2
        rw [List.take_append_drop] at h3
        exact h3
      · cases h
end

/-- the temporary 't' holds a value already -/
theorem frD_same {fr : FV} {t : Nat} {v : Value} (h : getV (path t) fr = v) : frD (setP v (path t) fr) = frD fr := by
  rw [getV_eq] at h
  rw [frD_set]
  funext m
  unfold upd
  by_cases e : m = t
  · subst e; rw [if_pos rfl]; exact h.symm
  · rw [if_neg e]

/-- the evaluator ahead of a run of a program without variables -/
noncomputable def h0 : HS := ⟨.nil, 0, 0, 0, .nil⟩
def E0 : LE := fun _ => none

def isNorm : RC → Bool
  | .ok .normal _ _ => true
  | _ => false
def frOf : RC → FV
  | .ok _ fr _ => fr
  | .bad => .nil
noncomputable def hsOf : RC → HS
  | .ok _ _ h => h
  | .bad => h0
theorem norm_eq {r : RC} (h : isNorm r = true) : r = .ok .normal (frOf r) (hsOf r) := by
  cases r with
  | bad => cases h
  | ok e fr h => cases e <;> first | rfl | cases h

/-- a call, as it is evaluated -/
theorem call_true {T : Nat → Option CFun} {d f : Nat} {args : List Value} {E : LE} {h : HS} (hh : isTrue (callE T d E (.func f) args h) = true) : CallA T (.func f) args (den E h) fun v _ => v = .bool true := by
  obtain ⟨h', e⟩ := isTrue_ok hh
  exact callE_ok d E (.func f) args h _ _ e _ rfl
/-- .. in two parts -/
theorem call_cut {T : Nat → Option CFun} {d f : Nat} {cf : CFun} {args : List Value} {E : LE} {h : HS} {p : List Dir} {a b : CCode} {t : Nat} {v : Value} (hf : T f = some cf) (hs : split p cf.body = some (a, b))
    (hn : isNorm (codeE true (callE T d) E a (argsF args 0) h) = true) (ht : getV (path t) (frOf (codeE true (callE T d) E a (argsF args 0) h)) = v)
    (hh : isTrue (finK cf.res (codeE false (callE T d) E b (setP v (path t) (frOf (codeE true (callE T d) E a (argsF args 0) h))) (hsOf (codeE true (callE T d) E a (argsF args 0) h)))) = true) :
    CallA T (.func f) args (den E h) fun v _ => v = .bool true := by
  refine CallA.func hf (split_ok CallA.mono hs ?_)
  rw [← argsF_init]
  refine codeE_ok (callE_ok d) a (norm_eq hn) ⟨rfl, ?_⟩
  rw [← frD_same ht]
  obtain ⟨h', e⟩ := isTrue_ok hh
  generalize hr : codeE false (callE T d) E b (setP v (path t) (frOf (codeE true (callE T d) E a (argsF args 0) h))) (hsOf (codeE true (callE T d) E a (argsF args 0) h)) = r at e
  cases r with
  | bad => cases e
  | ok ex f1 h1 => exact codeE_ok (callE_ok d) b hr (finK_ok e (Q := fun v _ => v = .bool true) rfl)

end Go.Cn.Ev
