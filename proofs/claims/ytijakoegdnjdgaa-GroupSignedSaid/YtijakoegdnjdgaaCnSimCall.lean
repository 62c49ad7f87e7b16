/- Calls: by induction on how deep they stand within each other. -/
import Derived.Test.YtijakoegdnjdgaaCnSimRun
namespace Go.Cn
set_option linter.unusedVariables false
set_option linter.unusedSimpArgs false

structure OkT (P : Program) (T : Nat → Option CFun) : Prop where
  fn : ∀ f cf, T f = some cf → ∃ fn c, P.funcs[f]? = some fn ∧ fn.body = some c ∧ compFun P fn = some cf ∧ (fn.name == "runtime.NumGoroutine") = false

/-- a result, as it is read -/
def resSem (tmps : Array Value) : ResultVar → Sem Value
  | .tmp t => pure (tmps.getD t undef)
  | .cell b t => do loadVar t (← asAddr (tmps.getD b undef))
theorem results_eq (fn : Func) (tmps : Array Value) : results fn tmps = (do
    let vs ← fn.results.mapM (resSem tmps)
    pure (if h : vs.size = 1 then vs[0] else .tuple vs)) := rfl

section
variable {P : Program} {C : CallR} {n : Nat}

theorem sim_res1 {r : ResultVar} {cr : CRes} (hr : compRes P r = some cr) {β : Ren} {σ : CW} {w : World} {fr : Fr} {a : Act} (h : Rel P β σ w) (hf : FRel P β n fr a) {v : Value} (hv : res1 fr σ cr = some v) :
    ∃ v', (resSem a.tmps r).run P w = .ok v' w ∧ VRel P β v v' := by
  cases r with
  | tmp t =>
    cases hr
    cases hv
    exact ⟨_, by simp [resSem], hf.rel t⟩
  | cell b t =>
    simp only [compRes] at hr
    have hb := hf.rel b
    split at hr
    · rename_i m ht hn
      cases hr
      simp only [res1, pev, ev] at hv
      split at hv
      · rename_i ad e
        split at hv
        · rename_i l hl
          cases hv
          obtain ⟨hs, c, hr, hk⟩ := cells_some hl
          obtain ⟨_, i, hi, q⟩ := (e ▸ hb).ptr_inv
          obtain ⟨r', h1, _, h2⟩ := h.loads hr hk hi
          exact ⟨.agg r'.toArray, by simp [resSem, q, asAddr, r_loadN ht hn (h2 w rfl)], VRel.agg_iff.2 (by simpa using h1)⟩
        · cases hv
      · cases hv
    · rename_i m ht hn
      cases hr
      simp only [res1, pev, ev] at hv
      split at hv
      · rename_i ad e
        obtain ⟨hs, c, hr, hk⟩ := cell_some hv
        obtain ⟨_, i, hi, q⟩ := (e ▸ hb).ptr_inv
        obtain ⟨v', h1, h2⟩ := h.cellAt hr hk hi
        exact ⟨v', by simp [resSem, q, asAddr, r_load1 ht h1], h2⟩
      · cases hv
    · cases hr

theorem sim_resL {β : Ren} {σ : CW} {w : World} {fr : Fr} {a : Act} (h : Rel P β σ w) (hf : FRel P β n fr a) : ∀ {rs : List ResultVar} {crs : List CRes}, rs.mapM (compRes P) = some crs → ∀ {vs : List Value}, resL fr σ crs = some vs →
    ∃ vs', (rs.mapM (resSem a.tmps)).run P w = .ok vs' w ∧ LRel P β vs vs'
  | [], crs, hc, vs, hv => by
    cases hc
    cases hv
    exact ⟨[], by simp, .nil⟩
  | r :: rs, crs, hc, vs, hv => by
    rw [List.mapM_cons] at hc
    cases e1 : compRes P r with
    | none => rw [e1] at hc; cases hc
    | some cr =>
      rw [e1] at hc
      cases e2 : rs.mapM (compRes P) with
      | none => rw [e2] at hc; cases hc
      | some crs' =>
        rw [e2] at hc
        cases hc
        simp only [resL] at hv
        split at hv
        · rename_i v hv1
          split at hv
          · rename_i vs1 hv2
            cases hv
            obtain ⟨v', q1, q2⟩ := sim_res1 e1 h hf hv1
            obtain ⟨vs', q3, q4⟩ := sim_resL h hf e2 hv2
            refine ⟨v' :: vs', ?_, .cons q2 q4⟩
            rw [List.mapM_cons]
            simp only [Sem.run_bind, q1, q3, Result.andThen, Sem.run_pure]
          · cases hv
        · cases hv

theorem resV_rel {β : Ren} {l l' : List Value} (h : LRel P β l l') : VRel P β (resV l) (if h : l'.toArray.size = 1 then l'.toArray[0] else .tuple l'.toArray) := by
  match l, l', h with
  | [], [], h => simp only [resV]; exact VRel.tuple_iff.2 (by simpa using h)
  | [v], [v'], h => simpa [resV] using h.of_cons.1
  | a :: b :: l, a' :: b' :: l', h =>
    simp only [resV]
    rw [dif_neg (by simp)]
    exact VRel.tuple_iff.2 (by simpa using h)
  | [], _ :: _, h => have := h.1; simp at this
  | [_], [], h => have := h.1; simp at this
  | [_], _ :: _ :: _, h => have := h.1; simp at this
  | _ :: _ :: _, [], h => have := h.1; simp at this
  | _ :: _ :: _, [_], h => have := h.1; simp at this

theorem sim_results {fn : Func} {crs : List CRes} (hc : fn.results.toList.mapM (compRes P) = some crs) {β : Ren} {σ : CW} {w : World} {fr : Fr} {a : Act} (h : Rel P β σ w) (hf : FRel P β n fr a) {vs : List Value} (hv : resL fr σ crs = some vs) :
    ∃ v', (results fn a.tmps).run P w = .ok v' w ∧ VRel P β (resV vs) v' := by
  obtain ⟨vs', q1, q2⟩ := sim_resL h hf hc hv
  refine ⟨_, ?_, resV_rel q2⟩
  simp only [results_eq, Array.mapM_eq_mapM_toList]
  simp only [Sem.run_bind, Sem.run_map, q1, Result.andThen, Sem.run_pure]

theorem init_frel {β : Ren} {args args' : List Value} (h : LRel P β args args') (m : Nat) : FRel P β m (initFr args) { tmps := args'.toArray ++ Array.replicate (m - args'.toArray.size) undef, defers := [] } := by
  refine ⟨by simp; omega, rfl, fun t => ?_⟩
  simp only [initFr]
  cases e : args[t]? with
  | some v =>
    obtain ⟨v', h1, h2⟩ := h.left e
    have ht : t < args'.length := (List.getElem?_eq_some_iff.1 h1).1
    have : (args'.toArray ++ Array.replicate (m - args'.toArray.size) undef).getD t undef = v' := by
      rw [Array.getD_eq_getD_getElem?, Array.getElem?_append_left (by simpa using ht)]
      simp [h1]
    show VRel P β v _
    rw [this]; exact h2
  | none =>
    have ht : args'.length ≤ t := by have := h.1; rw [← this]; exact List.getElem?_eq_none_iff.1 e
    have : (args'.toArray ++ Array.replicate (m - args'.toArray.size) undef).getD t undef = undef := by
      rw [Array.getD_eq_getD_getElem?, Array.getElem?_append_right (by simpa using ht)]
      rw [Array.getElem?_replicate]
      split <;> rfl
    show VRel P β cundef _
    rw [this]; exact .undef

theorem sim_calls (hP : ProgOk P) {T : Nat → Option CFun} (hT : OkT P T) (hD : ∀ d n, SimC P (CallN T d) → DrawOk P (CallN T d) n) : ∀ d, SimC P (CallN T d)
  | 0 => fun f args σ v σ' β w args' h => h.elim
  | d + 1 => by
    have ih := sim_calls hP hT hD d
    intro f args σ v σ' β w args' h hr hG hargs
    obtain ⟨cf, e, fr, vs, h1, h2, h3, h4, rfl⟩ := h
    obtain ⟨fn, c, hf, hb, hcf, hname⟩ := hT.fn f cf h1
    refine ⟨⟨fn, hf, by simp [hb], hname⟩, ?_⟩
    unfold compFun at hcf
    split at hcf
    · rename_i c' rs hb' hrs
      rw [hb] at hb'
      cases hb'
      cases hcf
      refine calls_of_wp hf hb ?_
      refine wp_mono ((sim_code hP ih (hD d fn.ntmps ih) h2).1 c rfl (bodyPost P fn fun e w' => ∃ v' β', e = .returned v' ∧ VRel P β' (resV vs) v' ∧ Stp P β σ w β' σ' w') hG hr (init_frel hargs fn.ntmps) ?_) ?_
      case refine_2 => intro e a w he; cases e <;> first | exact he | exact False.elim he
      intro β1 a1 w1 hst hf1
      obtain ⟨v', q1, q2⟩ := sim_results hrs hst.rel hf1 h4
      rcases h3 with rfl | rfl
      · exact ⟨hf1.defers, v', q1, v', β1, rfl, q2, hst⟩
      · exact ⟨hf1.defers, v', q1, v', β1, rfl, q2, hst⟩
    · cases hcf
end
end Go.Cn
