/- Steps, code and calls: what the canonical machine does, every run of the model does. -/
import Derived.Test.YtfagmflapdgcmaaDoorCnSimOp
import Derived.RangeFuncLeaves
import Derived.RangeFuncRecord
import Derived.OrdersIn
import Derived.Scope
namespace Go.Cn
set_option linter.unusedVariables false
set_option linter.unusedSimpArgs false

/-- the program's variables lie where they lie -/
def GOk (P : Program) (β : Ren) : Prop := ∀ g, g < P.globals.size → ∃ i, β g = some i ∧ i.B = g ∧ i.sh = 0
theorem GOk.mono {P : Program} {β β' : Ren} (h : GOk P β) (hl : Le β β') : GOk P β' := fun g hg => let ⟨i, h1, h2⟩ := h g hg; ⟨i, hl g i h1, h2⟩

/-- the walk of a frame of a function, or of a round -/
def WR (r : Option Nat) : Fence := { Fence.wide with round := r }

/-- the marks that ranges over functions have left -/
def Marks (lo : Nat) (β : Ren) (w : World) (ds : List Deferred) : Prop :=
  ds.Nodup ∧ ∀ d ∈ ds, ∃ D, d = { target := .collected D, args := #[] } ∧ lo ≤ D ∧ w.heap[D]? = some (.deferred (some [])) ∧ ∀ b i, β b = some i → i.B ≠ D

theorem Marks.step {P : Program} {lo : Nat} {β β' : Ren} {σ σ' : CW} {w w' : World} {ds : List Deferred} (h : Marks lo β w ds) (hst : Stp P β σ w β' σ' w') : Marks lo β' w' ds := by
  refine ⟨h.1, fun d hd => ?_⟩
  obtain ⟨D, h1, h0, h2, h3⟩ := h.2 d hd
  have hlt := lt_of_get h2
  refine ⟨D, h1, h0, ?_, fun b i hb => ?_⟩
  · rw [hst.afr D hlt fun b i hb _ => h3 b i hb]; exact h2
  · rcases hst.new b i hb with g | ⟨_, g⟩
    · exact h3 b i g
    · rcases g with ⟨b0, i0, g1, _, g2⟩ | g
      · rw [← g2]; exact h3 b0 i0 g1
      · omega

structure FRel (P : Program) (β : Ren) (n lo : Nat) (fr : Fr) (a : Act) (w : World) : Prop where
  lob : lo ≤ w.heap.size
  size : n ≤ a.tmps.size
  defers : Marks lo β w a.defers
  rel : ∀ t, VRel P β (fr t) (a.tmps.getD t undef)

theorem FRel.step {P : Program} {β β' : Ren} {σ σ' : CW} {w w' : World} {n lo : Nat} {fr : Fr} {a : Act} (h : FRel P β n lo fr a w) (hst : Stp P β σ w β' σ' w') : FRel P β' n lo fr a w' :=
  ⟨Nat.le_trans h.lob hst.size, h.size, h.defers.step hst, fun t => (h.rel t).mono hst.le⟩

theorem getD_put {a : Act} {d : Option Tmp} {v : Value} (hd : ∀ t, d = some t → t < a.tmps.size) (t : Nat) : (a.put d v).tmps.getD t undef = if d = some t then v else a.tmps.getD t undef := by
  cases d with
  | none => simp [Act.put]
  | some d =>
    have := hd d rfl
    simp only [Act.put, Array.getD_eq_getD_getElem?, Option.some.injEq]
    by_cases h : d = t
    · subst h; simp [this]
    · rw [if_neg h, Array.getElem?_setIfInBounds_ne h]

theorem FRel.put {P : Program} {β : Ren} {n lo : Nat} {fr : Fr} {a : Act} {w : World} (h : FRel P β n lo fr a w) {d : Option Tmp} {v v' : Value} (hd : ∀ t, d = some t → t < n) (hv : VRel P β v v') : FRel P β n lo (putT fr d v) (a.put d v') w := by
  refine ⟨h.lob, ?_, ?_, fun t => ?_⟩
  · cases d <;> simp [Act.put, h.size]
  · cases d <;> exact h.defers
  · rw [getD_put (fun t ht => Nat.lt_of_lt_of_le (hd t ht) h.size)]
    cases d with
    | none => simpa [putT] using h.rel t
    | some d =>
      simp only [putT, Option.some.injEq]
      by_cases hdt : d = t
      · subst hdt; simp only [upd_same, if_true]; exact hv
      · rw [upd_ne _ _ (Ne.symm hdt), if_neg hdt]; exact h.rel t

theorem ev_rel {P : Program} {β : Ren} {fr : Fr} {a : Act} (hG : GOk P β) {x : Operand} (hc : constOk P x = true) (h : ∀ t, x = .tmp t → VRel P β (fr t) (a.tmps.getD t undef)) : VRel P β (ev fr x) (a.eval x) := by
  cases x with
  | tmp t => exact h t rfl
  | const v => exact plain_rel 8 v hc
  | global g =>
    obtain ⟨i, h1, h2, h3⟩ := hG g (by simp [constOk, Nat.blt] at hc; omega)
    have : VRel P β (.pointer (some ⟨g, 0, none⟩)) (.pointer (some ⟨i.B, 0 + i.sh, none⟩)) := .ptr h1
    rw [h2, h3] at this
    exact this
  | func f => exact .func rfl rfl (fun j x y h => by simp at h) (fun j x y h => by simp at h)

/-- what is asked of the calls of a canonical machine -/
structure SimC (P : Program) (C : CallQ) : Prop where
  func : ∀ {f : Nat} {args : List Value} {σ : CW} {Q : Value → CW → Prop} {β : Ren} {w : World} {args' : List Value}, C (.func f) args σ Q → Rel P β σ w → GOk P β → LRel P β args args' →
    (∃ fn, P.funcs[f]? = some fn ∧ fn.body.isSome ∧ (fn.name == "runtime.NumGoroutine") = false) ∧
    CallsIn Fence.wide 0 P f args'.toArray w fun e w' => ∃ v v' β' σ', Q v σ' ∧ e = .returned v' ∧ VRel P β' v v' ∧ Stp P β σ w β' σ' w'
  yield : ∀ {c : Nat} {args : List Value} {σ : CW} {Q : Value → CW → Prop} {β : Ren} {w : World} {args' : List Value} {i : BI}, C (.yield c) args σ Q → Rel P β σ w → GOk P β → LRel P β args args' → β c = some i →
    ∃ f tmps assign body, (Instr.yield i.B args'.toArray).run P w = .ok (.round i.B f tmps assign body) w ∧
      RoundIn Fence.wide 0 P i.B f tmps assign body w fun e w' => ∃ v v' β' σ', Q v σ' ∧ e = .returned v' ∧ VRel P β' v v' ∧ Stp P β σ w β' σ' w'
  other : ∀ {f : Fn} {args : List Value} {σ : CW} {Q : Value → CW → Prop}, C f args σ Q → (∃ g, f = .func g) ∨ ∃ c, f = .yield c

section
variable {P : Program} {C : CallQ} {r : Option Nat} {β : Ren} {σ σ' : CW} {w : World} {fr fr' : Fr} {a : Act} {n : Nat} {ops : Array Oper} {o : Oper} {s : CStep} {Q : Exit → Act → World → Prop}

theorem stepOf_some (h : stepOf P n ops o = some s) : ∃ q, compOp P o.op = some q ∧ s.op = q ∧ s.dst = o.dst ∧ (∀ x ∈ o.op.operands, constOk P x = true) ∧ (∀ t, o.dst = some t → t < n) ∧
    ((o.guard = none ∧ s.guard = none) ∨ ∃ g b t, o.guard = some (g, b) ∧ s.guard = some (t, b) ∧ (ops[g]?).bind (·.dst) = some t) := by
  unfold stepOf at h
  split at h
  · cases h
  · rename_i q hq
    split at h
    · cases h
    · rename_i hc
      split at h
      · cases h
      · rename_i hd
        have hc' : ∀ x ∈ o.op.operands, constOk P x = true := by
          simp only [Bool.not_eq_true, Bool.not_eq_false'] at hc
          have hc2 := List.all_eq_true.1 hc
          intro x hx; exact hc2 x (by simpa using hx)
        have hd' : ∀ t, o.dst = some t → t < n := by
          intro t ht
          simp only [Bool.not_eq_true, Bool.not_eq_false'] at hd
          rw [ht] at hd
          simp [dstLt, Nat.blt] at hd; exact Nat.lt_of_lt_of_le (Nat.lt_succ_self t) hd
        split at h
        · rename_i gd hg
          cases h
          refine ⟨q, hq, rfl, rfl, hc', hd', ?_⟩
          unfold guardOf at hg
          split at hg
          · rename_i e; cases hg; exact .inl ⟨e, rfl⟩
          · rename_i g b e
            split at hg
            · rename_i t ht; cases hg; exact .inr ⟨g, b, t, e, rfl, ht⟩
            · cases hg
        · cases h

theorem bool_rel {v v' : Value} (h : VRel P β v v') (b : Bool) : v = .bool b ↔ v' = .bool b := by
  constructor
  · rintro rfl; exact h.bool_inv
  · rintro rfl; cases h; rfl

theorem wants_rel (hs : stepOf P n ops o = some s) (hg : ∀ t b, s.guard = some (t, b) → VRel P β (fr t) (a.tmps.getD t undef)) : Region.wanted o (yielded ops a.tmps) = wants fr s.guard := by
  obtain ⟨q, _, _, _, _, _, hgd⟩ := stepOf_some hs
  rcases hgd with ⟨h1, h2⟩ | ⟨g, b, t, h1, h2, h3⟩
  · simp [Region.wanted, wants, h1, h2]
  · have hr := hg t b h2
    have hy : yielded ops a.tmps g = match a.tmps[t]? with | some (.bool c) => some c | _ => none := by
      unfold yielded; rw [h3]; rfl
    simp only [Region.wanted, wants, h1, h2, hy]
    rw [Array.getD_eq_getD_getElem?] at hr
    by_cases hb : ∃ c, fr t = .bool c
    · obtain ⟨c, hc⟩ := hb
      rw [hc] at hr
      have := hr.bool_inv
      cases ht : a.tmps[t]? with
      | none => rw [ht] at this; cases this
      | some u => rw [ht] at this; simp at this; subst this; simp [hc]
    · have hno : ∀ c, a.tmps[t]? ≠ some (.bool c) := by
        intro c hc
        rw [hc] at hr
        exact hb ⟨c, (bool_rel hr c).2 rfl⟩
      have e1 : (match fr t with | .bool c => c == b | _ => false) = false := by
        cases hf : fr t <;> first | rfl | exact absurd ⟨_, hf⟩ hb
      have e2 : (match a.tmps[t]? with | some (.bool c) => some c | _ => none : Option Bool) = none := by
        cases ht : a.tmps[t]? with
        | none => rfl
        | some u => cases u <;> first | rfl | exact absurd ht (hno _)
      refine Eq.trans ?_ e1.symm
      refine Eq.trans (congrArg (fun z => z == some b) e2) ?_
      rfl

theorem lrel_map {l : List Operand} {ev' ρ : Operand → Value} (h : ∀ x ∈ l, VRel P β (ev' x) (ρ x)) : LRel P β (l.map ev') (l.map ρ) := by
  induction l with
  | nil => exact .nil
  | cons x l ih => exact .cons (h x (by simp)) (ih fun y hy => h y (by simp [hy]))

theorem compOp_call {op : Op} {q : COp} (h : compOp P op = some q) (hc : isCall q = true) :
    ∃ c, op = .call c ∧ ((∃ f, c.callee = .value (.func f) ∧ q = .e (.call f c.args.toList)) ∨ (∃ t, c.callee = .value (.tmp t) ∧ q = .e (.callv (.tmp t) c.args.toList))) := by
  cases op
  case call c =>
    refine ⟨c, rfl, ?_⟩
    simp only [compOp] at h
    unfold compCall at h
    split at h
    · rename_i f hcal
      split at h
      · split at h
        · split at h
          · cases h
          · cases h; exact .inl ⟨f, hcal, rfl⟩
        · split at h
          · split at h
            · cases h; cases hc
            · cases h
          · cases h
      · cases h
    · rename_i t hcal; cases h; exact .inr ⟨t, hcal, rfl⟩
    all_goals (exfalso; repeat' (first | (cases h; done) | (cases h; cases hc; done) | split at h))
  case binOp op t x y t' =>
    exfalso
    simp only [compOp] at h
    split at h
    · obtain ⟨q', _, rfl⟩ := map_eq_p h; cases hc
    · obtain ⟨q', _, rfl⟩ := map_eq_p h; cases hc
    · cases h; cases hc
  case convert src dst x =>
    exfalso
    simp only [compOp] at h
    unfold compConv at h
    repeat' (first | (cases h; done) | (cases h; cases hc; done) | split at h)
  case makeFunc fn first captured =>
    exfalso
    cases fn <;> simp only [compOp] at h <;> first | (cases h; done) | (cases h; cases hc; done)
  case makeMap t r =>
    exfalso
    cases r <;> simp only [compOp] at h <;> first | (cases h; done) | (cases h; cases hc; done)
  case next x s =>
    exfalso
    cases s <;> simp only [compOp] at h <;> first | (cases h; done) | (cases h; cases hc; done)
  all_goals
    exfalso
    simp only [compOp] at h
    repeat' (first | (cases h; done) | (cases h; cases hc; done) | split at h)

theorem r_callFunc {f : FuncId} {fn : Func} {args : Array Value} (h1 : P.funcs[f]? = some fn) (h2 : fn.body.isSome) (h3 : (fn.name == "runtime.NumGoroutine") = false) : (callFunc f args).run P w = .ok (.enter f args) w := by
  have hb : fn.body.isNone = false := by cases e : fn.body with
    | none => rw [e] at h2; cases h2
    | some _ => rfl
  simp only [callFunc, Sem.run_bind, run_program, Result.andThen, h1, h3, hb, Bool.false_eq_true, if_false, Sem.run_pure]

theorem op_noDefer {op : Op} {q : COp} (h : compOp P op = some q) : ∀ c, op ≠ .defer c := by
  rintro c rfl
  cases h

/-- One operation that is wanted. -/
theorem sim_step (hP : ProgOk P) (hC : SimC P C) (hG : GOk P β) (h : Rel P β σ w) {ev' : Operand → Value} {q : COp} (hq : compOp P o.op = some q) (hop : ∀ x ∈ o.op.operands, VRel P β (ev' x) (a.eval x)) {Qc : Value → CW → Prop} (hp : OpW C q ev' σ Qc)
    {K : Act → World → Prop} (hK : ∀ v σ' β' v' w', Qc v σ' → Stp P β σ w β' σ' w' → VRel P β' v v' → K (a.put o.dst v') w') : o.wpIn (WR r) 0 P a w K Q := by
  have hρ : ∀ u, a.eval (.const u) = u := fun _ => rfl
  have hρf : ∀ f, a.eval (.func f) = .func (.func f) #[] #[] := fun _ => rfl
  unfold Oper.wpIn
  refine ⟨fun _ _ => trivial, ?_⟩
  rw [Oper.semAt_eq _ _ _ (op_noDefer hq)]
  -- operations that come to one thing
  have plain : ∀ v σ', OpR (fun _ _ _ _ _ => False) q ev' σ v σ' → isCall q = false → Qc v σ' → o.uponIn (WR r) 0 P a K Q ((execOp a.eval o).run P w) := by
    intro v σ' hp hnc hQ
    obtain ⟨nx, w', β', h1, h2, h3⟩ := sim_op hP h hq hop hρ hρf hp hnc
    rw [h1]
    rcases h2 with ⟨v', rfl, hv⟩ | ⟨rfl, rfl⟩
    · exact hK v σ' β' v' w' hQ h3 hv
    · exact hK _ σ' β' undef w' hQ h3 .undef
  have call : ∀ f (args args' : List Value), C (.func f) args σ Qc → LRel P β args args' → (execOp a.eval o).run P w = (callFunc f args'.toArray).run P w → o.uponIn (WR r) 0 P a K Q ((execOp a.eval o).run P w) := by
    intro f args args' hc hl hrun
    obtain ⟨⟨fn', hf1, hf2, hf3⟩, hcalls⟩ := hC.func hc h hG hl
    rw [hrun, r_callFunc hf1 hf2 hf3]
    refine ⟨fun hd => absurd hd (by simp [WR, Fence.wide]), CallsIn.mono hcalls fun e w' he => ?_⟩
    obtain ⟨v, v', β', σ', hQ, rfl, hv, hst⟩ := he
    exact hK v σ' β' v' w' hQ hst hv
  cases q with
  | p q =>
    obtain ⟨v, h1, h2⟩ := hp
    exact plain v σ ⟨h1, rfl⟩ rfl h2
  | a q =>
    obtain ⟨obj, v, h1, h2⟩ := hp
    exact plain v _ ⟨obj, h1, rfl⟩ rfl h2
  | no => exact hp.elim
  | e q =>
    by_cases hcall : isCall (.e q) = true
    · obtain ⟨c, hoo, hcase⟩ := compOp_call hq hcall
      rw [hoo] at hop
      have harg : ∀ x ∈ c.args.toList, VRel P β (ev' x) (a.eval x) := fun x hx => hop x (by show x ∈ c.operands; unfold Call.operands; exact Array.mem_append.2 (.inr (by simpa using hx)))
      rcases hcase with ⟨f, hcal, hqq⟩ | ⟨t, hcal, hqq⟩
      · cases hqq
        refine call f _ _ hp (lrel_map harg) ?_
        have e1 : (c.args.toList.map a.eval).toArray = c.args.map a.eval := by apply Array.ext'; simp only [Array.toList_map]
        rw [e1]
        simp only [execOp, hoo, resolve, hcal, hρf, Deferred.ofValue, Sem.run_bind, Sem.run_pure, Result.andThen, invoke]
        simp
      · cases hqq
        obtain ⟨f, x1, x2, hx, hp⟩ := hp
        have hfun := hop (.tmp t) (by simp [Op.operands, Call.operands, hcal])
        rw [hx] at hfun
        rcases hfun.fn_inv with ⟨f', b1, b2, e1, e2, hr1, hr2⟩ | ⟨c', i, e1, e2, e3, hi, e4⟩
        · subst e1
          have hl : LRel P β (x1.toList ++ c.args.toList.map (ev') ++ x2.toList) (b1.toList ++ c.args.toList.map a.eval ++ b2.toList) := (hr1.append (lrel_map harg)).append hr2
          refine call f' _ _ hp hl ?_
          simp only [execOp, hoo, resolve, hcal, e2, Deferred.ofValue, Sem.run_bind, Sem.run_pure, Result.andThen, invoke]
          have e1 : (b1.toList ++ c.args.toList.map a.eval ++ b2.toList).toArray = b1 ++ c.args.map a.eval ++ b2 := by apply Array.ext'; simp only [Array.toList_append, Array.toList_map]
          rw [e1]
        · subst e1 e2 e3
          simp only [List.nil_append, List.append_nil] at hp
          obtain ⟨fn, tmps, assign, body, g1, g2⟩ := hC.yield hp h hG (lrel_map harg) hi
          have e1 : (c.args.toList.map a.eval).toArray = c.args.map a.eval := by apply Array.ext'; simp only [Array.toList_map]
          rw [e1] at g1
          have hrun : (execOp a.eval o).run P w = .ok (.round i.B fn tmps assign body) w := by
            simp only [execOp, hoo, resolve, hcal, e4, Deferred.ofValue, Sem.run_bind, Sem.run_pure, Result.andThen, invoke]
            simpa using g1
          rw [hrun]
          refine ⟨fun hd => absurd hd (by simp [WR, Fence.wide]), RoundIn.mono g2 fun e w' he => ?_⟩
          obtain ⟨v, v', β', σ', hQ, rfl, hv, hst⟩ := he
          exact hK v σ' β' v' w' hQ hst hv
    · have hnc : isCall (.e q) = false := by cases e : isCall (.e q) <;> first | rfl | exact absurd e hcall
      by_cases hnx : ∃ x, q = .next x
      · obtain ⟨x, rfl⟩ := hnx
        have ho : o.op = .next x false := by
          cases ho : o.op <;> rw [ho] at hq <;> simp only [compOp] at hq
          case next y s =>
            cases s <;> simp only [compOp] at hq
            · cases hq; rfl
            · cases hq
          case binOp op t x' y t' =>
            exfalso
            split at hq
            · obtain ⟨q', _, h⟩ := map_eq_p hq; cases h
            · obtain ⟨q', _, h⟩ := map_eq_p hq; cases h
            · cases hq
          case convert src dst x' =>
            exfalso
            unfold compConv at hq
            repeat' (first | (cases hq; done) | split at hq)
          case makeFunc fn first captured => exfalso; cases fn <;> simp only at hq <;> cases hq
          case makeMap t r => exfalso; cases r <;> simp only at hq <;> cases hq
          case call c =>
            exfalso
            unfold compCall at hq
            repeat' (first | (cases hq; done) | split at hq)
          all_goals
            exfalso
            repeat' (first | (cases hq; done) | split at hq)
        obtain ⟨v, σ', v', w', h1, h2, h3, h4⟩ := q_next h ho (hop x (by simp [ho, Op.operands])) hp
        rw [h2]
        exact hK v σ' β v' w' h1 h4 h3
      · have hp' : ∃ v σ', eev q ev' σ = some (v, σ') ∧ Qc v σ' := by
          cases q <;> first | exact hp | (cases hnc; done) | exact absurd ⟨_, rfl⟩ hnx
        obtain ⟨v, σ', h1, h2⟩ := hp'
        refine plain v σ' ?_ hnc h2
        cases q <;> first | exact h1 | (cases hnc; done)

end
end Go.Cn
