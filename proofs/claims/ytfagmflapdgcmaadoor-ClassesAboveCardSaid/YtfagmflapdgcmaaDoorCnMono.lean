/- What is true of every run: more may be asked of less; calls may stand deeper. -/
import Derived.Test.YtfagmflapdgcmaaDoorCnDraw1
namespace Go.Cn
set_option linter.unusedSimpArgs false
set_option linter.unusedVariables false

/-- the calls of one kind are calls of another -/
def LeC (C C' : CallQ) : Prop := ∀ f args σ Q Q', C f args σ Q → (∀ v σ', Q v σ' → Q' v σ') → C' f args σ Q'

theorem nextW_mono {σ : CW} {Q Q' : Value → CW → Prop} (h : ∀ v σ', Q v σ' → Q' v σ') {x : Value} (hx : nextW σ Q x) : nextW σ Q' x := by
  unfold nextW at hx ⊢
  split at hx
  · split at hx
    · exact h _ _ hx
    · split at hx
      · exact ⟨hx.1, hx.2.1, hx.2.2.1, fun e => h _ _ (hx.2.2.2.1 e), fun k x hk => h _ _ (hx.2.2.2.2 k x hk)⟩
      · exact hx
    · exact hx
  · exact hx

section
variable {C C' : CallQ}

theorem OpW.mono (hC : LeC C C') {o : COp} {ρ : Operand → Value} {σ : CW} {Q Q' : Value → CW → Prop} (h : OpW C o ρ σ Q) (hQ : ∀ v σ', Q v σ' → Q' v σ') : OpW C' o ρ σ Q' := by
  cases o with
  | p o => obtain ⟨v, h1, h2⟩ := h; exact ⟨v, h1, hQ _ _ h2⟩
  | a o => obtain ⟨obj, v, h1, h2⟩ := h; exact ⟨obj, v, h1, hQ _ _ h2⟩
  | no => exact h
  | e o =>
    cases o
    case call f args => exact hC _ _ _ _ _ h hQ
    case callv x args => obtain ⟨f, a, b, h1, h2⟩ := h; exact ⟨f, a, b, h1, hC _ _ _ _ _ h2 hQ⟩
    case next x => exact nextW_mono hQ h
    all_goals (obtain ⟨v, σ', h1, h2⟩ := h; exact ⟨v, σ', h1, hQ _ _ h2⟩)

theorem StepW.mono (hC : LeC C C') {s : CStep} {fr : Fr} {σ : CW} {K K' : Fr → CW → Prop} (h : StepW C s fr σ K) (hK : ∀ fr σ, K fr σ → K' fr σ) : StepW C' s fr σ K' := by
  rcases h with ⟨h1, h2⟩ | ⟨h1, h2⟩
  · exact .inl ⟨h1, h2.mono hC fun v σ' => hK _ _⟩
  · exact .inr ⟨h1, hK _ _ h2⟩

theorem StepsW.mono (hC : LeC C C') : ∀ {l : List CStep} {fr : Fr} {σ : CW} {K K' : Fr → CW → Prop}, StepsW C l fr σ K → (∀ fr σ, K fr σ → K' fr σ) → StepsW C' l fr σ K'
  | [], fr, σ, K, K', h, hK => hK _ _ h
  | s :: l, fr, σ, K, K', h, hK => StepW.mono hC h fun fr σ h => StepsW.mono hC h hK

theorem StagesW.mono (hC : LeC C C') : ∀ {l : List Stage} {fr : Fr} {σ : CW} {K K' : Fr → CW → Prop}, StagesW C l fr σ K → (∀ fr σ, K fr σ → K' fr σ) → StagesW C' l fr σ K'
  | [], fr, σ, K, K', h, hK => hK _ _ h
  | s :: l, fr, σ, K, K', h, hK => StepW.mono hC h fun fr σ h => ⟨h.1, StepsW.mono hC h.2 fun fr σ h => StagesW.mono hC h hK⟩

theorem CodeW.mono (hC : LeC C C') {c : CCode} {fr : Fr} {σ : CW} {Q : CExit → Fr → CW → Prop} (h : CodeW C c fr σ Q) : ∀ {Q' : CExit → Fr → CW → Prop}, (∀ e fr σ, Q e fr σ → Q' e fr σ) → CodeW C' c fr σ Q' := by
  induction h with
  | skip h => exact fun hQ => .skip (hQ _ _ _ h)
  | region h => exact fun hQ => .region (StepsW.mono hC h fun _ _ => hQ _ _ _)
  | dregion h => exact fun hQ => .dregion (StepsW.mono hC h fun _ _ h => StagesW.mono hC h fun _ _ => hQ _ _ _)
  | seq h t o ih1 ih2 => exact fun hQ => .seq (ih1 fun _ _ _ h => h) (fun fr σ h => ih2 fr σ h hQ) fun e fr σ he h => hQ _ _ _ (o e fr σ he h)
  | yes hc h ih => exact fun hQ => .yes hc (ih hQ)
  | no hc h ih => exact fun hQ => .no hc (ih hQ)
  | block h o ih => exact fun hQ => .block (ih fun _ _ _ h => h) fun e fr σ h => hQ _ _ _ (o e fr σ h)
  | loop h t o ih1 ih2 => exact fun hQ => .loop (ih1 fun _ _ _ h => h) (fun fr σ h => ih2 fr σ h hQ) fun e fr σ he h => hQ _ _ _ (o e fr σ he h)
  | exit h => exact fun hQ => .exit (hQ _ _ _ h)
  | ret h => exact fun hQ => .ret (hQ _ _ _ h)
  | rfun g a b hf h => exact fun hQ => .rfun g a b hf (hC _ _ _ _ _ h fun v σ ⟨st, pend, h1, h2, h3, h4⟩ => ⟨st, pend, h1, h2, h3, hQ _ _ _ h4⟩)
end

theorem CallW.mono {T : Nat → Option CFun} : ∀ (d : Deep), LeC (CallW T d) (CallW T d)
  | .zero, f, args, σ, Q, Q', h, _ => h.elim
  | .lim g, f, args, σ, Q, Q', h, hQ => let ⟨i, h⟩ := h; ⟨i, CallW.mono (g i) f args σ Q Q' h hQ⟩
  | .succ d, f, args, σ, Q, Q', h, hQ => by
    have ih := CallW.mono (T := T) d
    cases f with
    | func f =>
      obtain ⟨cf, h1, h2⟩ := h
      exact ⟨cf, h1, h2.mono ih fun e fr σ ⟨k1, vs, k2, k3⟩ => ⟨k1, vs, k2, hQ _ _ k3⟩⟩
    | yield c =>
      obtain ⟨fr, ps, as, body, h1, h2, h3, h4⟩ := h
      exact ⟨fr, ps, as, body, h1, h2, h3, h4.mono ih fun e fr σ ⟨k1, k2, k3⟩ => ⟨k1, k2, k3.mono ih fun e fr σ ⟨k4, k5⟩ => ⟨k4, hQ _ _ k5⟩⟩⟩
    | method _ => exact h.elim
    | methodOf _ _ => exact h.elim
    | via _ _ _ _ => exact h.elim

/-- calls as they are made, to whatever depth -/
def CallA (T : Nat → Option CFun) : CallQ := fun f args σ Q => ∃ d, CallW T d f args σ Q

theorem CallA.mono {T : Nat → Option CFun} : LeC (CallA T) (CallA T) := fun f args σ Q Q' ⟨d, h⟩ hQ => ⟨d, CallW.mono d f args σ Q Q' h hQ⟩

/-- One depth bounds all calls. -/
theorem CallA.sup (T : Nat → Option CFun) : ∃ d, LeC (CallA T) (CallW T d) := by
  classical
  refine ⟨.lim fun i => if h : CallA T i.1 i.2.1 i.2.2.1 i.2.2.2 then Classical.choose h else .zero, fun f args σ Q Q' h hQ => ⟨(f, args, σ, Q), ?_⟩⟩
  show CallW T (if h : CallA T f args σ Q then Classical.choose h else .zero) f args σ Q'
  rw [dif_pos h]
  exact CallW.mono _ f args σ Q Q' (Classical.choose_spec h) hQ

theorem CallA.func {T : Nat → Option CFun} {f : Nat} {cf : CFun} {args : List Value} {σ : CW} {Q : Value → CW → Prop} (hf : T f = some cf)
    (h : CodeW (CallA T) cf.body (initFr args) σ fun e fr σ' => (e = .normal ∨ e = .ret) ∧ ∃ vs, resL fr σ' cf.res = some vs ∧ Q (resV vs) σ') : CallA T (.func f) args σ Q := by
  obtain ⟨d, hd⟩ := CallA.sup T
  exact ⟨.succ d, cf, hf, h.mono hd fun _ _ _ h => h⟩

theorem CallA.yield {T : Nat → Option CFun} {c : Nat} {args : List Value} {σ : CW} {Q : Value → CW → Prop} {fr : Fr} {ps : List Tmp} {as body : CCode} (h1 : σ.heap c = some (.loop .ready fr ps as body none)) (h2 : σ.ro ≤ c) (h3 : args.length = ps.length)
    (h : CodeW (CallA T) as (setPs fr ps args) σ fun e fr1 σ1 => e = .normal ∧ σ1.heap c = some (.loop .ready fr ps as body none) ∧
        CodeW (CallA T) body fr1 (σ1.set c (.loop .busy fr ps as body none)) fun e _ σ2 => σ2.heap c = some (.loop .busy fr ps as body none) ∧
          Q (.bool e.nm) (σ2.set c (.loop (if e.nm then .ready else .done) fr ps as body (if e.nm then none else some e)))) : CallA T (.yield c) args σ Q := by
  obtain ⟨d, hd⟩ := CallA.sup T
  exact ⟨.succ d, fr, ps, as, body, h1, h2, h3, h.mono hd fun _ _ _ ⟨k1, k2, k3⟩ => ⟨k1, k2, k3.mono hd fun _ _ _ h => h⟩⟩

theorem CallA.sim {P : Program} (hP : ProgOk P) {T : Nat → Option CFun} (hT : OkT P T) : SimC P (CallA T) where
  func := fun ⟨d, h⟩ => (sim_calls_all hP hT d).func h
  yield := fun ⟨d, h⟩ => (sim_calls_all hP hT d).yield h
  other := fun ⟨d, h⟩ => (sim_calls_all hP hT d).other h

end Go.Cn
