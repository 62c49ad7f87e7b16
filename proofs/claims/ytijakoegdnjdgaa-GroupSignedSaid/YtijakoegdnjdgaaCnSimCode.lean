/- Steps, code and calls: what the canonical machine does, every run of the model does. -/
import Derived.Test.YtijakoegdnjdgaaCnSimOp
import Derived.Calls
import Derived.LoopN
import Derived.Scope
namespace Go.Cn
set_option linter.unusedVariables false
set_option linter.unusedSimpArgs false

/-- the program's variables lie where they lie -/
def GOk (P : Program) (β : Ren) : Prop := ∀ g, g < P.globals.size → ∃ i, β g = some i ∧ i.B = g ∧ i.sh = 0
theorem GOk.mono {P : Program} {β β' : Ren} (h : GOk P β) (hl : Le β β') : GOk P β' := fun g hg => let ⟨i, h1, h2⟩ := h g hg; ⟨i, hl g i h1, h2⟩

structure FRel (P : Program) (β : Ren) (n : Nat) (fr : Fr) (a : Act) : Prop where
  size : n ≤ a.tmps.size
  defers : a.defers = []
  rel : ∀ t, VRel P β (fr t) (a.tmps.getD t undef)

theorem FRel.mono {P : Program} {β β' : Ren} {n : Nat} {fr : Fr} {a : Act} (h : FRel P β n fr a) (hl : Le β β') : FRel P β' n fr a := ⟨h.size, h.defers, fun t => (h.rel t).mono hl⟩

theorem getD_put {a : Act} {d : Option Tmp} {v : Value} (hd : ∀ t, d = some t → t < a.tmps.size) (t : Nat) : (a.put d v).tmps.getD t undef = if d = some t then v else a.tmps.getD t undef := by
  cases d with
  | none => simp [Act.put]
  | some d =>
    have := hd d rfl
    simp only [Act.put, Array.getD_eq_getD_getElem?, Option.some.injEq]
    by_cases h : d = t
    · subst h; simp [this]
    · rw [if_neg h, Array.getElem?_setIfInBounds_ne h]

theorem FRel.put {P : Program} {β : Ren} {n : Nat} {fr : Fr} {a : Act} (h : FRel P β n fr a) {d : Option Tmp} {v v' : Value} (hd : ∀ t, d = some t → t < n) (hv : VRel P β v v') : FRel P β n (putT fr d v) (a.put d v') := by
  refine ⟨?_, ?_, fun t => ?_⟩
  · cases d <;> simp [Act.put, h.size]
  · cases d <;> exact h.defers
  · rw [getD_put (fun t ht => Nat.lt_of_lt_of_le (hd t ht) h.size)]
    cases d with
    | none => simpa [putT] using h.rel t
    | some d =>
      simp only [putT, Option.some.injEq]
      by_cases hdt : d = t
      · subst hdt; simp only [upd_same, if_true]; exact hv
      · rw [upd_ne _ _ (Ne.symm hdt), if_neg hdt]; exact h.rel t

theorem ev_rel {P : Program} {β : Ren} {fr : Fr} {a : Act} (hG : GOk P β) {x : Operand} (hc : constOk P x = true) (h : ∀ t, x = .tmp t → VRel P β (fr t) (a.tmps.getD t undef)) : VRel P β (ev fr x) (a.eval x) := by
  cases x with
  | tmp t => exact h t rfl
  | const v => exact plain_rel 8 v hc
  | global g =>
    obtain ⟨i, h1, h2, h3⟩ := hG g (by simp [constOk, Nat.blt] at hc; omega)
    have : VRel P β (.pointer (some ⟨g, 0, none⟩)) (.pointer (some ⟨i.B, 0 + i.sh, none⟩)) := .ptr h1
    rw [h2, h3] at this
    exact this
  | func f => exact .func rfl rfl (fun j x y h => by simp at h) (fun j x y h => by simp at h)

/-- what is asked of the calls of a canonical machine -/
def SimC (P : Program) (C : CallR) : Prop := ∀ f args σ v σ' β w (args' : List Value), C f args σ v σ' → Rel P β σ w → GOk P β → LRel P β args args' →
  (∃ fn, P.funcs[f]? = some fn ∧ fn.body.isSome ∧ (fn.name == "runtime.NumGoroutine") = false) ∧
  Calls P f args'.toArray w fun e w' => ∃ v' β', e = .returned v' ∧ VRel P β' v v' ∧ Stp P β σ w β' σ' w'

section
variable {P : Program} {C : CallR} {β : Ren} {σ σ' : CW} {w : World} {fr fr' : Fr} {a : Act} {n : Nat} {ops : Array Oper} {o : Oper} {s : CStep} {Q : Exit → Act → World → Prop}

theorem stepOf_some (h : stepOf P n ops o = some s) : ∃ q, compOp P o.op = some q ∧ s.op = q ∧ s.dst = o.dst ∧ (∀ x ∈ o.op.operands, constOk P x = true) ∧ (∀ t, o.dst = some t → t < n) ∧
    ((o.guard = none ∧ s.guard = none) ∨ ∃ g b t, o.guard = some (g, b) ∧ s.guard = some (t, b) ∧ (ops[g]?).bind (·.dst) = some t) := by
  unfold stepOf at h
  split at h
  · cases h
  · rename_i q hq
    split at h
    · cases h
    · rename_i hc
      split at h
      · cases h
      · rename_i hd
        have hc' : ∀ x ∈ o.op.operands, constOk P x = true := by
          simp only [Bool.not_eq_true, Bool.not_eq_false'] at hc
          have hc2 := List.all_eq_true.1 hc
          intro x hx; exact hc2 x (by simpa using hx)
        have hd' : ∀ t, o.dst = some t → t < n := by
          intro t ht
          simp only [Bool.not_eq_true, Bool.not_eq_false'] at hd
          rw [ht] at hd
          simp [dstLt, Nat.blt] at hd; exact Nat.lt_of_lt_of_le (Nat.lt_succ_self t) hd
        split at h
        · rename_i gd hg
          cases h
          refine ⟨q, hq, rfl, rfl, hc', hd', ?_⟩
          unfold guardOf at hg
          split at hg
          · rename_i e; cases hg; exact .inl ⟨e, rfl⟩
          · rename_i g b e
            split at hg
            · rename_i t ht; cases hg; exact .inr ⟨g, b, t, e, rfl, ht⟩
            · cases hg
        · cases h

theorem bool_rel {v v' : Value} (h : VRel P β v v') (b : Bool) : v = .bool b ↔ v' = .bool b := by
  constructor
  · rintro rfl; exact h.bool_inv
  · rintro rfl; cases h; rfl

theorem wants_rel (hs : stepOf P n ops o = some s) (hg : ∀ t b, s.guard = some (t, b) → VRel P β (fr t) (a.tmps.getD t undef)) : Region.wanted o (yielded ops a.tmps) = wants fr s.guard := by
  obtain ⟨q, _, _, _, _, _, hgd⟩ := stepOf_some hs
  rcases hgd with ⟨h1, h2⟩ | ⟨g, b, t, h1, h2, h3⟩
  · simp [Region.wanted, wants, h1, h2]
  · have hr := hg t b h2
    have hy : yielded ops a.tmps g = match a.tmps[t]? with | some (.bool c) => some c | _ => none := by
      unfold yielded; rw [h3]; rfl
    simp only [Region.wanted, wants, h1, h2, hy]
    rw [Array.getD_eq_getD_getElem?] at hr
    by_cases hb : ∃ c, fr t = .bool c
    · obtain ⟨c, hc⟩ := hb
      rw [hc] at hr
      have := hr.bool_inv
      cases ht : a.tmps[t]? with
      | none => rw [ht] at this; cases this
      | some u => rw [ht] at this; simp at this; subst this; simp [hc]
    · have hno : ∀ c, a.tmps[t]? ≠ some (.bool c) := by
        intro c hc
        rw [hc] at hr
        exact hb ⟨c, (bool_rel hr c).2 rfl⟩
      have e1 : (match fr t with | .bool c => c == b | _ => false) = false := by
        cases hf : fr t <;> first | rfl | exact absurd ⟨_, hf⟩ hb
      have e2 : (match a.tmps[t]? with | some (.bool c) => some c | _ => none : Option Bool) = none := by
        cases ht : a.tmps[t]? with
        | none => rfl
        | some u => cases u <;> first | rfl | exact absurd ht (hno _)
      refine Eq.trans ?_ e1.symm
      refine Eq.trans (congrArg (fun z => z == some b) e2) ?_
      rfl

theorem lrel_map {l : List Operand} {ev' ρ : Operand → Value} (h : ∀ x ∈ l, VRel P β (ev' x) (ρ x)) : LRel P β (l.map ev') (l.map ρ) := by
  induction l with
  | nil => exact .nil
  | cons x l ih => exact .cons (h x (by simp)) (ih fun y hy => h y (by simp [hy]))

theorem compOp_call {op : Op} {q : COp} (h : compOp P op = some q) (hc : isCall q = true) :
    ∃ c, op = .call c ∧ ((∃ f, c.callee = .value (.func f) ∧ q = .e (.call f c.args.toList)) ∨ (∃ t, c.callee = .value (.tmp t) ∧ q = .e (.callv (.tmp t) c.args.toList))) := by
  cases op
  case call c =>
    refine ⟨c, rfl, ?_⟩
    simp only [compOp] at h
    unfold compCall at h
    split at h
    · rename_i f hcal
      split at h
      · split at h
        · split at h
          · cases h
          · cases h; exact .inl ⟨f, hcal, rfl⟩
        · split at h
          · split at h
            · cases h; cases hc
            · cases h
          · cases h
      · cases h
    · rename_i t hcal; cases h; exact .inr ⟨t, hcal, rfl⟩
    all_goals (exfalso; repeat' (first | (cases h; done) | (cases h; cases hc; done) | split at h))
  case binOp op t x y t' =>
    exfalso
    simp only [compOp] at h
    split at h
    · obtain ⟨q', _, rfl⟩ := map_eq_p h; cases hc
    · obtain ⟨q', _, rfl⟩ := map_eq_p h; cases hc
    · cases h; cases hc
  case convert src dst x =>
    exfalso
    simp only [compOp] at h
    unfold compConv at h
    repeat' (first | (cases h; done) | (cases h; cases hc; done) | split at h)
  case makeFunc fn first captured =>
    exfalso
    cases fn <;> simp only [compOp] at h <;> first | (cases h; done) | (cases h; cases hc; done)
  case makeMap t r =>
    exfalso
    cases r <;> simp only [compOp] at h <;> first | (cases h; done) | (cases h; cases hc; done)
  all_goals
    exfalso
    simp only [compOp] at h
    repeat' (first | (cases h; done) | (cases h; cases hc; done) | split at h)

theorem r_callFunc {f : FuncId} {fn : Func} {args : Array Value} (h1 : P.funcs[f]? = some fn) (h2 : fn.body.isSome) (h3 : (fn.name == "runtime.NumGoroutine") = false) : (callFunc f args).run P w = .ok (.enter f args) w := by
  have hb : fn.body.isNone = false := by cases e : fn.body with
    | none => rw [e] at h2; cases h2
    | some _ => rfl
  simp only [callFunc, Sem.run_bind, run_program, Result.andThen, h1, h3, hb, Bool.false_eq_true, if_false, Sem.run_pure]

/-- One operation that is wanted. -/
theorem sim_step (hP : ProgOk P) (hC : SimC P C) (hG : GOk P β) (h : Rel P β σ w) {ev' : Operand → Value} {q : COp} (hq : compOp P o.op = some q) (hop : ∀ x ∈ o.op.operands, VRel P β (ev' x) (a.eval x)) {v : Value} (hp : OpR C q ev' σ v σ')
    {K : Act → World → Prop} (hK : ∀ β' v' w', Stp P β σ w β' σ' w' → VRel P β' v v' → K (a.put o.dst v') w') : o.wp P a w K Q := by
  have hρ : ∀ u, a.eval (.const u) = u := fun _ => rfl
  have hρf : ∀ f, a.eval (.func f) = .func (.func f) #[] #[] := fun _ => rfl
  unfold Oper.wp
  by_cases hnc : isCall q = false
  · obtain ⟨nx, w', β', h1, h2, h3⟩ := sim_op hP h hq hop hρ hρf hp hnc
    rw [h1]
    rcases h2 with ⟨v', rfl, hv⟩ | ⟨rfl, rfl⟩
    · exact hK β' v' w' h3 hv
    · exact hK β' undef w' h3 .undef
  · have hpost : ∀ f (args' : Array Value), (Calls P f args' w fun e w' => ∃ v' β', e = .returned v' ∧ VRel P β' v v' ∧ Stp P β σ w β' σ' w') →
        Calls P f args' w fun | .returned v, w'' => K (a.put o.dst v) w'' | .panicked chain, w'' => Q (.panic chain) a w'' | .outgrown, _ => LetsOut Q := by
      intro f args' hc
      refine hc.mono fun e w' he => ?_
      obtain ⟨v', β', rfl, hv, hst⟩ := he
      exact hK β' v' w' hst hv
    have hnc' : isCall q = true := by cases e : isCall q <;> first | rfl | exact absurd e hnc
    obtain ⟨c, hoo, hcase⟩ := compOp_call hq hnc'
    rw [hoo] at hop
    have harg : ∀ x ∈ c.args.toList, VRel P β (ev' x) (a.eval x) := fun x hx => hop x (by show x ∈ c.operands; unfold Call.operands; exact Array.mem_append.2 (.inr (by simpa using hx)))
    rcases hcase with ⟨f, hcal, rfl⟩ | ⟨t, hcal, rfl⟩
    · obtain ⟨⟨fn', hf1, hf2, hf3⟩, hcalls⟩ := hC f _ σ v σ' β w (c.args.toList.map a.eval) hp h hG (lrel_map harg)
      have hrun : (execOp a.eval o).run P w = .ok (.enter f (c.args.map a.eval)) w := by
        simp only [execOp, hoo, resolve, hcal, hρf, Deferred.ofValue, Sem.run_bind, Sem.run_pure, Result.andThen, invoke, r_callFunc hf1 hf2 hf3]
        simp
      rw [hrun]
      have e1 : (c.args.toList.map a.eval).toArray = c.args.map a.eval := by apply Array.ext'; simp only [Array.toList_map]
      rw [e1] at hcalls
      exact hpost f _ hcalls
    · obtain ⟨f, x1, x2, hx, hp⟩ := hp
      have hfun := hop (.tmp t) (by simp [Op.operands, Call.operands, hcal])
      rw [hx] at hfun
      obtain ⟨f', b1, b2, e1, e2, hr1, hr2⟩ := hfun.func_inv
      cases e1
      have hl : LRel P β (x1.toList ++ c.args.toList.map (ev') ++ x2.toList) (b1.toList ++ c.args.toList.map a.eval ++ b2.toList) := (hr1.append (lrel_map harg)).append hr2
      obtain ⟨⟨fn', hf1, hf2, hf3⟩, hcalls⟩ := hC f _ σ v σ' β w _ hp h hG hl
      have hrun : (execOp a.eval o).run P w = .ok (.enter f (b1 ++ c.args.map a.eval ++ b2)) w := by
        simp only [execOp, hoo, resolve, hcal, e2, Deferred.ofValue, Sem.run_bind, Sem.run_pure, Result.andThen, invoke, r_callFunc hf1 hf2 hf3]
      rw [hrun]
      have e1 : (b1.toList ++ c.args.toList.map a.eval ++ b2.toList).toArray = b1 ++ c.args.map a.eval ++ b2 := by apply Array.ext'; simp only [Array.toList_append, Array.toList_map]
      rw [e1] at hcalls
      exact hpost f _ hcalls

end
end Go.Cn
