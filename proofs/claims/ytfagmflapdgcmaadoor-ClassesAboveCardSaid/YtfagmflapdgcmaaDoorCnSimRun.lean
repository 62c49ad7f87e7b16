/- Regions in order, control, calls. -/
import Derived.Test.YtfagmflapdgcmaaDoorCnSimCode
namespace Go.Cn
set_option linter.unusedVariables false
set_option linter.unusedSimpArgs false

section
variable {P : Program} {C : CallQ} {n lo : Nat} {r : Option Nat} {ops : Array Oper}

theorem sim_one (hP : ProgOk P) (hC : SimC P C) {o : Oper} {s : CStep} (hs : stepOf P n ops o = some s) {β : Ren} {σ : CW} {w : World} {fr : Fr} {a : Act} (hG : GOk P β) (h : Rel P β σ w) (hf : FRel P β n lo fr a w)
    {Kc : Fr → CW → Prop} (hr : StepW C s fr σ Kc) {K : Act → World → Prop} {Q : Exit → Act → World → Prop} (hK : ∀ fr1 σ1 β1 a1 w1, Kc fr1 σ1 → Stp P β σ w β1 σ1 w1 → FRel P β1 n lo fr1 a1 w1 → K a1 w1) :
    if Region.wanted o (yielded ops a.tmps) then o.wpIn (WR r) 0 P a w K Q else (∀ f, o.about P w a.eval = some f → (WR r).fn f) ∧ K (a.put o.dst undef) w := by
  obtain ⟨q, hq, hsq, hsd, hconst, hdst, hgd⟩ := stepOf_some hs
  have hw := wants_rel (a := a) (fr := fr) (β := β) hs (fun t b _ => hf.rel t)
  rw [hw]
  rcases hr with ⟨h1, h2⟩ | ⟨h1, h2⟩
  · rw [if_pos h1]
    refine sim_step hP hC hG h hq (fun x hx => ev_rel hG (hconst x hx) fun t _ => hf.rel t) (hsq ▸ h2) fun v σ' β' v' w' hQ hst hv => ?_
    refine hK _ _ β' _ w' hQ hst ?_
    rw [hsd]
    exact (hf.step hst).put hdst hv
  · rw [if_neg (by rw [h1]; simp)]
    refine ⟨fun _ _ => trivial, hK _ _ β _ w h2 (.refl h) ?_⟩
    rw [hsd]
    exact hf.put hdst .undef

theorem sim_list (hP : ProgOk P) (hC : SimC P C) {Q : Exit → Act → World → Prop} : ∀ (is : List Nat) (ss : List CStep), (∀ (j : Nat) (s : CStep), ss[j]? = some s → ∃ (i : Nat) (o : Oper), is[j]? = some i ∧ ops[i]? = some o ∧ stepOf P n ops o = some s) → is.length = ss.length →
    ∀ {fr : Fr} {σ : CW} {Kc : Fr → CW → Prop}, StepsW C ss fr σ Kc → ∀ {β : Ren} {w : World} {a : Act}, GOk P β → Rel P β σ w → FRel P β n lo fr a w →
      (∀ fr1 σ1 β1 a1 w1, Kc fr1 σ1 → Stp P β σ w β1 σ1 w1 → FRel P β1 n lo fr1 a1 w1 → Q .normal a1 w1) → wpOpsIn (WR r) 0 P ops Q is a w
  | [], ss, _, hl, fr, σ, Kc, hr, β, w, a, hG, h, hf, hK => by
    cases ss with
    | nil => exact hK fr σ β a w hr (.refl h) hf
    | cons s ss => simp at hl
  | i :: is, ss, hm, hl, fr, σ, Kc, hr, β, w, a, hG, h, hf, hK => by
    cases ss with
    | nil => simp at hl
    | cons s ss =>
      obtain ⟨i', o, hi, ho, hs⟩ := hm 0 s rfl
      simp at hi
      subst hi
      simp only [wpOpsIn, ho]
      refine sim_one hP hC hs hG h hf hr ?_
      intro fr1 σ1 β1 a1 w1 hk hst hf1
      refine sim_list hP hC is ss (fun j s' hj => ?_) (by simpa using hl) hk (hG.mono hst.le) hst.rel hf1 ?_
      · obtain ⟨i', o', q1, q2, q3⟩ := hm (j + 1) s' (by simpa using hj)
        exact ⟨i', o', by simpa using q1, q2, q3⟩
      · intro fr2 σ2 β2 a2 w2 hk2 hst2 hf2
        exact hK fr2 σ2 β2 a2 w2 hk2 (hst.trans hst2 h) hf2

theorem mapM_some {α γ : Type} {f : α → Option γ} : ∀ {l : List α} {r : List γ}, l.mapM f = some r → l.length = r.length ∧ ∀ (j : Nat) (y : γ), r[j]? = some y → ∃ x, l[j]? = some x ∧ f x = some y
  | [], r, h => by cases h; exact ⟨rfl, by simp⟩
  | x :: l, r, h => by
    rw [List.mapM_cons] at h
    cases e : f x with
    | none => rw [e] at h; cases h
    | some y =>
      rw [e] at h
      cases e2 : l.mapM f with
      | none => rw [e2] at h; cases h
      | some r' =>
        rw [e2] at h
        cases h
        obtain ⟨h1, h2⟩ := mapM_some e2
        refine ⟨by simp [h1], fun j z hz => ?_⟩
        cases j with
        | zero => simp at hz; subst hz; exact ⟨x, rfl, e⟩
        | succ j => simp at hz; obtain ⟨x', q1, q2⟩ := h2 j z hz; exact ⟨x', by simpa using q1, q2⟩

/-- what is asked of the ends of a walk -/
def Ends' (P : Program) (n lo : Nat) (β : Ren) (σ : CW) (w : World) (Kc : Fr → CW → Prop) (K : Act → World → Prop) : Prop :=
  ∀ fr1 σ1 β1 a1 w1, Kc fr1 σ1 → Stp P β σ w β1 σ1 w1 → FRel P β1 n lo fr1 a1 w1 → K a1 w1

theorem sim_region (hP : ProgOk P) (hC : SimC P C) {id : Nat} {ss : List CStep} (hss : ops.toList.mapM (stepOf P n ops) = some ss) {Q : Exit → Act → World → Prop} {fr : Fr} {σ : CW} {Kc : Fr → CW → Prop} (hr : StepsW C ss fr σ Kc) {β : Ren} {w : World} {a : Act}
    (hG : GOk P β) (h : Rel P β σ w) (hf : FRel P β n lo fr a w) (hK : Ends' P n lo β σ w Kc (Q .normal)) : (Code.region id ops false).wpIn (WR r) 0 P Q a w := by
  obtain ⟨h1, h2⟩ := mapM_some hss
  refine wpIn_region (sim_list hP hC _ ss (fun j s hj => ?_) (by simp [← h1]) hr hG h hf hK)
  obtain ⟨o, q1, q2⟩ := h2 j s hj
  have hj' : j < ops.size := by have := (List.getElem?_eq_some_iff.1 q1).1; simpa using this
  exact ⟨j, o, by simp [hj'], by simpa using q1, q2⟩

/-- a region that draws its order -/
def DrawOk (P : Program) (C : CallQ) (n : Nat) : Prop := ∀ (r : Option Nat) (ops : Array Oper) (p : DPlan), planOf P n ops = some p → ∀ (id : Nat) (Q : Exit → Act → World → Prop) {fr : Fr} {σ : CW} {Kc : Fr → CW → Prop},
  (StepsW C p.seg fr σ fun fr1 σ1 => StagesW C p.stages fr1 σ1 Kc) → ∀ {lo : Nat} {β : Ren} {w : World} {a : Act}, GOk P β → Rel P β σ w → FRel P β n lo fr a w → Ends' P n lo β σ w Kc (Q .normal) → (Code.region id ops true).wpIn (WR r) 0 P Q a w

def toExit : CExit → Exit
  | .normal => .normal
  | .exit id => .exit id
  | .ret => .ret

def strip : Code → Code
  | .scope c => strip c
  | c => c

theorem comp_strip (c : Code) : compCode P n (strip c) = compCode P n c := by
  induction c <;> simp_all [strip, compCode]

theorem flat_strip (c : Code) : flat (strip c) = flat c := by
  induction c <;> simp_all [strip, flat]

theorem noGoto_idem {Q : Exit → Act → World → Prop} {e : Exit} {a : Act} {w : World} (h : Exit.noGoto Q e a w) : Exit.noGoto (Exit.noGoto Q) e a w := by cases e <;> exact h

theorem wpIn_scope_straight {F : Fence} {m : Nat} {Q : Exit → Act → World → Prop} {c : Code} {a : Act} {w : World} (h : c.wpIn F m P (Exit.noGoto Q) a w) : (Code.scope c).wpIn F m P Q a w := by
  intro b k cs hro hb hr
  have h0 : (lone (b.atR a (.code (.scope c) :: k)) cs w).fenced P F := fenced_calm hb hr rfl
  have hs : step P (lone (b.atR a (.code (.scope c) :: k)) cs w) = .next (lone (b.atR a (.code c :: .inScope c :: k)) cs w) := step_lone_go (by simp [stepG, stepG.exec, Frame.atR])
  have hs' : ∀ a w, step P (lone (b.atR a (.inScope c :: k)) cs w) = .next (lone (b.atR a k) cs w) := fun a w => step_lone_go (by simp [stepG, stepG.exec, Frame.atR])
  have hx : ∀ id, exitTo id (.inScope c :: k) = exitTo id k := fun id => by simp [exitTo]
  obtain ⟨e, a₁, w₁, hq, harr⟩ := h b (.inScope c :: k) cs hro hb hr
  cases e with
  | normal => exact ⟨.normal, a₁, w₁, hq, .head h0 hs (StepsIn.trans harr (.one (fenced_calm hb hr rfl) (hs' _ _)))⟩
  | exit id =>
    refine ⟨.exit id, a₁, w₁, hq, fun k' hk => .head h0 hs (harr.1 k' (by rw [hx]; exact hk)), fun hr' hk => ?_⟩
    obtain ⟨k₁, h1, h2⟩ := harr.2 hr' (by rw [hx]; exact hk)
    exact ⟨k₁, h1, .head h0 hs h2⟩
  | goto l => exact hq.elim
  | ret => exact ⟨_, a₁, w₁, hq, .of_steps (.one h0 hs) harr⟩
  | panic ch => exact ⟨_, a₁, w₁, hq, .of_steps (.one h0 hs) harr⟩
  | outgrown => exact ⟨_, a₁, w₁, hq, .of_steps (.one h0 hs) harr⟩

theorem wp_strip {F : Fence} {m : Nat} {Q : Exit → Act → World → Prop} {w : World} {a : Act} (c : Code) (h : (strip c).wpIn F m P (Exit.noGoto Q) a w) : c.wpIn F m P (Exit.noGoto Q) a w := by
  induction c with
  | scope c ih => exact wpIn_scope_straight (wpIn_mono (ih h) fun _ _ _ => noGoto_idem)
  | _ => exact h

theorem strip_scope (c : Code) : ∀ d, strip c ≠ .scope d := by
  induction c <;> intro d h <;> simp_all [strip]

/-- a loop under way -/
def LoopIn (F : Fence) (m : Nat) (P : Program) (c : Code) (Q : Exit → Act → World → Prop) (a : Act) (w : World) : Prop :=
  ∀ (b : Frame) (k : List Go.Item) (cs : List Frame), b.roundOf = F.round → F.fn b.fn → F.room (cs.length + 1 + m) →
    ∃ e a' w', Q e a' w' ∧ ArrivesIn (Machine.fenced P F) P (lone (b.atR a (.code c :: .inLoop c :: k)) cs w) b k cs e a' w'

theorem LoopIn.loop {F : Fence} {m : Nat} {Q : Exit → Act → World → Prop} {c : Code} {a : Act} {w : World} (h : LoopIn F m P c Q a w) : (Code.loop c).wpIn F m P Q a w := by
  intro b k cs hro hb hr
  obtain ⟨e, a', w', hq, harr⟩ := h b k cs hro hb hr
  exact ⟨e, a', w', hq, .of_steps (.one (fenced_calm hb hr rfl) stepR_loop) harr⟩

theorem LoopIn.of_round {F : Fence} {m : Nat} {Q : Exit → Act → World → Prop} {c : Code} {a : Act} {w : World} (h : c.wpIn F m P (Exit.then (LoopIn F m P c Q) Q) a w) : LoopIn F m P c Q a w := by
  intro b k cs hro hb hr
  obtain ⟨e, a₁, w₁, hq, harr⟩ := h b (.inLoop c :: k) cs hro hb hr
  cases e with
  | normal =>
    obtain ⟨e₂, a₂, w₂, hq₂, harr₂⟩ := hq b k cs hro hb hr
    exact ⟨e₂, a₂, w₂, hq₂, .of_steps (StepsIn.trans harr (.one (fenced_calm hb hr rfl) stepR_inLoop)) harr₂⟩
  | exit id => exact ⟨_, a₁, w₁, hq, .pass (x := .inLoop c) rfl (fun _ _ => .inl (by simp)) harr⟩
  | goto l => exact ⟨_, a₁, w₁, hq, .pass (x := .inLoop c) rfl (fun _ _ => .inl (by simp)) harr⟩
  | ret => exact ⟨_, a₁, w₁, hq, .pass (x := .inLoop c) rfl (fun _ _ => .inl (by simp)) harr⟩
  | panic ch => exact ⟨_, a₁, w₁, hq, .pass (x := .inLoop c) rfl (fun _ _ => .inl (by simp)) harr⟩
  | outgrown => exact ⟨_, a₁, w₁, hq, .pass (x := .inLoop c) rfl (fun _ _ => .inl (by simp)) harr⟩

/-- what is asked of the ways out of a walk -/
def Outs (P : Program) (n lo : Nat) (β : Ren) (σ : CW) (w : World) (Kc : CExit → Fr → CW → Prop) (Q : Exit → Act → World → Prop) : Prop :=
  ∀ e fr1 σ1 β1 a1 w1, Kc e fr1 σ1 → Stp P β σ w β1 σ1 w1 → FRel P β1 n lo fr1 a1 w1 → Q (toExit e) a1 w1

/-- what the code comes to -/
def CodeOk (P : Program) (n : Nat) (r : Option Nat) (c : Code) (fr : Fr) (σ : CW) (Kc : CExit → Fr → CW → Prop) : Prop :=
  ∀ (Q : Exit → Act → World → Prop) {lo : Nat} {β : Ren} {w : World} {a : Act}, GOk P β → Rel P β σ w → FRel P β n lo fr a w → Outs P n lo β σ w Kc Q → c.wpIn (WR r) 0 P (Exit.noGoto Q) a w
def LoopOk (P : Program) (n : Nat) (r : Option Nat) (c : Code) (fr : Fr) (σ : CW) (Kc : CExit → Fr → CW → Prop) : Prop :=
  ∀ (Q : Exit → Act → World → Prop) {lo : Nat} {β : Ren} {w : World} {a : Act}, GOk P β → Rel P β σ w → FRel P β n lo fr a w → Outs P n lo β σ w Kc Q → LoopIn (WR r) 0 P c (Exit.noGoto Q) a w

theorem CodeOk.of_strip {c : Code} {fr : Fr} {σ : CW} {Kc : CExit → Fr → CW → Prop} (h : CodeOk P n r (strip c) fr σ Kc) : CodeOk P n r c fr σ Kc :=
  fun Q _ _ _ _ hG hr hf hK => wp_strip c (h Q hG hr hf hK)

inductive CompR (P : Program) (n : Nat) : Code → CCode → Prop where
  | skip : CompR P n .skip .skip
  | label (l : Nat) : CompR P n (.label l) .skip
  | region (id : Nat) {ops : Array Oper} {l : List CStep} (h : ops.toList.mapM (stepOf P n ops) = some l) : CompR P n (.region id ops false) (.region l)
  | dregion (id : Nat) {ops : Array Oper} {p : DPlan} (h : planOf P n ops = some p) : CompR P n (.region id ops true) (.dregion p.seg p.stages)
  | seq (a b : Code) : CompR P n (.seq a b) (.seq (compCode P n a) (compCode P n b))
  | cond {c : Operand} (hc : constOk P c = true) (a b : Code) : CompR P n (.cond c a b) (.cond c (compCode P n a) (compCode P n b))
  | block (id : Nat) (c : Code) : CompR P n (.block id c) (.block id (compCode P n c))
  | loop (c : Code) : CompR P n (.loop c) (.loop (compCode P n c))
  | exit (id : Nat) : CompR P n (.exit id) (.exit id)
  | ret : CompR P n .ret .ret
  | rfun {f : Operand} {ps : Array Tmp} {a b : Code} (hf : constOk P f = true) (hp : ∀ p ∈ ps.toList, p < n) (ha : flat a = true) (hb : flat b = true) : CompR P n (.rangeFunc f ps a b) (.rfun f ps.toList (compCode P n a) (compCode P n b))

theorem comp_inv {c : Code} {cc : CCode} (hs : ∀ d, c ≠ .scope d) (h : compCode P n c = cc) (hn : cc ≠ .no) : CompR P n c cc := by
  cases c
  case skip => subst h; exact .skip
  case label => subst h; exact .label _
  case seq => subst h; exact .seq _ _
  case block => subst h; exact .block _ _
  case loop => subst h; exact .loop _
  case exit => subst h; exact .exit _
  case ret => subst h; exact .ret
  case scope d => exact absurd rfl (hs d)
  case cond c a b =>
    simp only [compCode] at h
    split at h
    · rename_i hc; subst h; exact .cond hc _ _
    · exact absurd h.symm hn
  case region id ops d =>
    cases d <;> simp only [compCode] at h
    · split at h
      · rename_i l hl; subst h; exact .region _ hl
      · exact absurd h.symm hn
    · split at h
      · rename_i l hl; subst h; exact .dregion _ hl
      · exact absurd h.symm hn
  case rangeFunc f ps a b =>
    simp only [compCode] at h
    split at h
    · rename_i hc
      subst h
      simp only [Bool.and_eq_true] at hc
      obtain ⟨⟨⟨h1, h2⟩, h3⟩, h4⟩ := hc
      refine .rfun h1 (fun p hp => ?_) h3 h4
      have := List.all_eq_true.1 h2 p hp
      simpa [Nat.blt, Nat.succ_le_iff] using this
    · exact absurd h.symm hn
  all_goals exact absurd h.symm hn

theorem CodeOk.of_comp {cc : CCode} {fr : Fr} {σ : CW} {Kc : CExit → Fr → CW → Prop} (hn : cc ≠ .no) (h : ∀ c, CompR P n c cc → (r = none ∨ flat c = true) → CodeOk P n r c fr σ Kc) :
    ∀ c, compCode P n c = cc → (r = none ∨ flat c = true) → CodeOk P n r c fr σ Kc :=
  fun c hc hfl => .of_strip (h _ (comp_inv (strip_scope c) (by rw [comp_strip]; exact hc) hn) (by rw [flat_strip]; exact hfl))

theorem LoopOk.code {c : Code} {fr : Fr} {σ : CW} {Kc : CExit → Fr → CW → Prop} (h : LoopOk P n r c fr σ Kc) : CodeOk P n r (.loop c) fr σ Kc :=
  fun Q _ _ _ _ hG hr hf hK => (h Q hG hr hf hK).loop

theorem Outs.trans {β β1 : Ren} {σ σ1 : CW} {w w1 : World} {Kc : CExit → Fr → CW → Prop} {Q : Exit → Act → World → Prop} (h : Rel P β σ w) (hst : Stp P β σ w β1 σ1 w1) (hK : Outs P n lo β σ w Kc Q) : Outs P n lo β1 σ1 w1 Kc Q :=
  fun e fr2 σ2 β2 a2 w2 hk hst2 hf2 => hK e fr2 σ2 β2 a2 w2 hk (hst.trans hst2 h) hf2

/-- blocks that the canonical machine does not know of -/
theorem Stp.push {β : Ren} {σ : CW} {w w' : World} {o' : Obj} (h : Rel P β σ w) (hw : w'.heap = w.heap.push o') (hos : w'.os = w.os) (hout : w'.output = w.output) (htape : w'.tape = w.tape) : Stp P β σ w β σ w' where
  le := .refl _
  new := fun _ _ h => .inl h
  next := Nat.le_refl _
  ro := rfl
  inj := rfl
  cfr := fun _ _ _ => .inl rfl
  size := by rw [hw]; simp
  afr := fun B hB' _ => push_get hw hB'
  os := hos
  out := hout
  tape := htape
  rel :=
  { inv := h.inv
    wr := h.wr
    lt := fun b i hb => ⟨(h.lt b i hb).1, by rw [hw]; simp; exact Nat.lt_succ_of_lt (h.lt b i hb).2⟩
    obj := fun b i o hb ho => by rw [push_get hw (h.lt b i hb).2]; exact h.obj b i o hb ho
    alias := h.alias
    here := h.here
    iters := h.iters.keep (.refl _) (Nat.le_refl _) (fun _ _ h => .inl h) (fun _ _ _ _ h _ => h) fun b i o hb ho _ => by rw [push_get hw (h.lt b i hb).2]; exact ho }

theorem updB_put {w : World} {B : Nat} {o o1 : Obj} (h : w.heap[B]? = some o1) : UpdB w (w.putObj B o) B o where
  size := by simp [World.putObj]
  get := by
    intro j
    by_cases hj : j = B
    · subst hj; rw [if_pos rfl]; exact World.putObj_heap_same (lt_of_get h)
    · rw [if_neg hj]; exact World.putObj_heap_other hj
  os := rfl
  out := rfl
  tape := rfl

/-- A loop's record turns: iterators stay what they are. -/
theorem iters_loop {β : Ren} {σ : CW} {w w' : World} {c : Nat} {i : BI} {o1 o2 : CObj} {o2' : Obj} (h : Rel P β σ w) (hc : σ.heap c = some o1) (h1 : isRow o1 = false) (hm : isMI o1 = false) (h2 : isIter o2 = false) (h3 : isMI o2 = false) (hi : β c = some i) (hu : UpdB w w' i.B o2') : Iters β (σ.set c o2) w' := by
  have other := h.other hc h1 hi
  intro r ir m v seen hr ho
  have ho' : upd σ.heap c (some o2) r = some (.iter (some m) v seen) := ho
  by_cases hrc : r = c
  · subst hrc; rw [upd_same] at ho'; cases ho'; cases h2
  · rw [upd_ne _ _ hrc] at ho'
    obtain ⟨im, since, seen', last, f1, f2, f3, f4, f5⟩ := h.iters r ir m v seen hr ho'
    refine ⟨im, since, seen', last, f1, ?_, f3, f4, fun es0 v1 hm0 => ?_⟩
    · rw [hu.get, if_neg]
      · exact f2
      · intro eB; have := other r ir hrc hr eB; rw [ho'] at this; cases this
    · have hm0' : upd σ.heap c (some o2) m = some (.map es0 v1) := hm0
      by_cases hmc : m = c
      · subst hmc; rw [upd_same] at hm0'; cases hm0'; cases h3
      · rw [upd_ne _ _ hmc] at hm0'
        obtain ⟨p1, p2⟩ := f5 es0 v1 hm0'
        refine ⟨p1, fun e3 => ?_⟩
        obtain ⟨es3, clock3, p3, p4⟩ := p2 e3
        refine ⟨es3, clock3, ?_, p4⟩
        rw [hu.get, if_neg]
        · exact p3
        · intro eB; have := other m im hmc f1 eB; rw [hm0'] at this; cases this

theorem loop_inv {β : Ren} {i : BI} {st : LoopState} {fr : Fr} {ps : List Tmp} {as body : CCode} {pend : Option CExit} {o' : Option Obj} (h : ObjRel P β i (.loop st fr ps as body pend) o') : ∃ L, o' = some (.loop L) ∧ LoopRel P β st fr ps as body pend L := by
  cases o' with
  | none => exact h.elim
  | some o' =>
    cases o' <;> first | exact h.elim | skip
    exact ⟨_, rfl, h⟩

theorem sim_rfun (hP : ProgOk P) (hC : SimC P C) {f : Operand} {ps : Array Tmp} {ac bc : Code} (hcf : constOk P f = true) (hps : ∀ p ∈ ps.toList, p < n) (ha : flat ac = true) (hb : flat bc = true) {fr : Fr} {σ : CW} {Kc : CExit → Fr → CW → Prop} (g : Nat) (x1 x2 : Array Value) (hf : ev fr f = .func (.func g) x1 x2)
    (h : C (.func g) (x1.toList ++ [.func (.yield σ.next) #[] #[]] ++ x2.toList) (σ.add (.loop .ready fr ps.toList (compCode P n ac) (compCode P n bc) none)) fun _ σ2 =>
        ∃ st pend, σ2.heap σ.next = some (.loop st fr ps.toList (compCode P n ac) (compCode P n bc) pend) ∧ st ≠ .busy ∧ pend ≠ some .normal ∧ Kc (pend.getD .normal) fr (σ2.set σ.next .dead)) :
    CodeOk P n none (.rangeFunc f ps ac bc) fr σ Kc := by
  intro Q lo β w a hG hr hfr hK
  refine wpIn_rangeFunc fun fn _ => ?_
  -- the record is laid
  have hst1 := Stp.push (o' := .deferred (some [])) (w' := w.alloc (.deferred (some []))) hr rfl rfl rfl rfl
  obtain ⟨W0, hW0⟩ : ∃ W0, w.alloc (.deferred (some [])) = W0 := ⟨_, rfl⟩
  rw [hW0] at hst1
  have hsz : W0.heap.size = w.heap.size + 1 := by rw [← hW0]; exact World.size_alloc _ _
  let L : Loop := { state := .ready, pending := none, fn := fn, tmps := a.tmps, params := ps, assign := ac, body := bc, defers := w.heap.size }
  let i : BI := ⟨w.heap.size + 1, 0, 0, 0, true⟩
  have hLR : ∀ β', Le β β' → LoopRel P β' .ready fr ps.toList (compCode P n ac) (compCode P n bc) none L := fun β' hl => ⟨rfl, rfl, fun t => (hfr.rel t).mono hl, ⟨n, hfr.size, rfl, rfl, ha, hb, hps⟩, rfl⟩
  have hst2 := hst1.rel.alloc (o := .loop .ready fr ps.toList (compCode P n ac) (compCode P n bc) none) (o' := .loop L) (i := i) (w' := W0.alloc (.loop L)) hsz.symm rfl rfl rfl rfl trivial (hLR _ (hr.le_upd i))
  have hst12 := hst1.trans hst2 hr
  have hfun := ev_rel (a := a) hG hcf fun t _ => hfr.rel t
  rw [hf] at hfun
  obtain ⟨y1, y2, hv, l1, l2⟩ := hfun.func_inv
  have hle := hst12.le
  have hyield : VRel P (upd β σ.next (some i)) (.func (.yield σ.next) #[] #[]) (.func (.yield (w.heap.size + 1)) #[] #[]) := VRel.yield (i := i) (upd_same _ _ _)
  have hl : LRel P (upd β σ.next (some i)) (x1.toList ++ [.func (.yield σ.next) #[] #[]] ++ x2.toList) (y1.toList ++ [.func (.yield (w.heap.size + 1)) #[] #[]] ++ y2.toList) := ((l1.mono hle).append (.cons hyield .nil)).append (l2.mono hle)
  obtain ⟨⟨fn', hf1, hf2, hf3⟩, hcalls⟩ := hC.func h hst12.rel (hG.mono hle) hl
  refine ⟨w.heap.size + 1, [{ target := .collected w.heap.size, args := #[] }], W0.alloc (.loop L), { target := .fn (.func g) y2, args := y1 ++ #[.func (.yield (w.heap.size + 1)) #[] #[]] }, W0.alloc (.loop L), g,
    (y1.toList ++ [Value.func (.yield (w.heap.size + 1)) #[] #[]] ++ y2.toList).toArray, W0.alloc (.loop L), ?_, ?_, fun _ _ => trivial, ?_, fun hd => absurd hd (by simp [WR, Fence.wide]), ?_⟩
  · rw [← hW0]; exact run_enterLoop_outer _ _ _ _ _
  · simp only [resolve, hv]
    simp [go_sem]
  · have e1 : (y1.toList ++ [Value.func (.yield (w.heap.size + 1)) #[] #[]] ++ y2.toList).toArray = y1 ++ #[Value.func (.yield (w.heap.size + 1)) #[] #[]] ++ y2 := by apply Array.ext'; simp
    simp only [invoke, e1]
    exact r_callFunc hf1 hf2 hf3
  · refine CallsIn.mono hcalls fun e w2 he => ?_
    obtain ⟨v, v', β2, σ2, ⟨st, pend, k1, k2, k3, k4⟩, rfl, hv2, hst3⟩ := he
    have hi2 : β2 σ.next = some i := hst3.le _ _ (upd_same _ _ _)
    obtain ⟨L2, m1, m2⟩ := loop_inv (hst3.rel.obj _ _ _ hi2 k1)
    have hrun := run_endLoop (P := P) m1 (by rw [m2.state]; exact k2)
    have hu := updB_put (o := .loop { L2 with state := .exhausted }) m1
    have hro : σ2.ro ≤ σ.next := by
      have e1 := hst3.ro
      have e2 := hr.inv.rol
      have e3 : (σ.add (CObj.loop .ready fr ps.toList (compCode P n ac) (compCode P n bc) none)).ro = σ.ro := rfl
      rw [e1, e3]; exact e2
    have hst4 := hst3.rel.setO (o2 := .dead) k1 rfl rfl hro hi2 hu trivial (iters_loop hst3.rel k1 rfl rfl rfl rfl hi2 hu)
    have hst := hst12.trans (hst3.trans hst4 hst12.rel) hr
    -- the frame, with the mark
    have hfr2 : FRel P (upd β σ.next (some i)) n lo fr { a with defers := { target := .collected w.heap.size, args := #[] } :: a.defers } (W0.alloc (.loop L)) := by
      have hold := hfr.step hst12
      refine ⟨hold.lob, hold.size, ⟨?_, fun d hd => ?_⟩, hold.rel⟩
      · rw [List.nodup_cons]
        refine ⟨fun hmem => ?_, hold.defers.1⟩
        obtain ⟨D, e1, _, e2, _⟩ := hfr.defers.2 _ hmem
        have := lt_of_get e2
        injection e1 with e1
        injection e1 with e1
        omega
      · rcases List.mem_cons.1 hd with rfl | hd
        · refine ⟨w.heap.size, rfl, hfr.lob, ?_, fun b j hb => ?_⟩
          · rw [push_get (o' := .loop L) (w := W0) rfl (by omega), ← hW0]; exact heap_alloc_new w _
          · by_cases e : b = σ.next
            · subst e; rw [upd_same] at hb; cases hb
              show w.heap.size + 1 ≠ _
              omega
            · rw [upd_ne _ _ e] at hb
              have := (hr.lt b j hb).2; omega
        · exact hold.defers.2 d hd
    have hfr3 := (hfr2.step hst3).step hst4
    have hend := hK _ fr _ β2 _ _ k4 hst hfr3
    refine ⟨L2.pending, w2.putObj i.B (.loop { L2 with state := .exhausted }), hrun, ?_⟩
    generalize w2.putObj i.B (.loop { L2 with state := .exhausted }) = w4 at hend ⊢
    rw [m2.pend]
    cases pend with
    | none => exact hend
    | some e =>
      cases e with
      | normal => exact absurd rfl k3
      | exit id => exact wpIn_exit hend
      | ret => exact wpIn_ret hend

theorem sim_code (hP : ProgOk P) (hC : SimC P C) (hD : ∀ n, DrawOk P C n) {cc : CCode} {fr : Fr} {σ : CW} {Kc : CExit → Fr → CW → Prop} (hr : CodeW C cc fr σ Kc) : ∀ (n : Nat) (r : Option Nat),
    (∀ c, compCode P n c = cc → (r = none ∨ flat c = true) → CodeOk P n r c fr σ Kc) ∧ (∀ body, cc = .loop (compCode P n body) → (r = none ∨ flat body = true) → LoopOk P n r body fr σ Kc) := by
  induction hr with
  | skip h =>
    intro n r
    refine ⟨.of_comp (by simp) fun c hc _ => ?_, fun body h => by cases h⟩
    cases hc with
    | skip => intro Q lo β w a hG hr hf hK; exact wpIn_skip (hK _ _ _ β a w h (.refl hr) hf)
    | label l => intro Q lo β w a hG hr hf hK; exact wpIn_label (hK _ _ _ β a w h (.refl hr) hf)
  | region h =>
    intro n r
    refine ⟨.of_comp (by simp) fun c hc _ => ?_, fun body h => by cases h⟩
    cases hc with
    | region id hl =>
      intro Q lo β w a hG hr hf hK
      exact sim_region hP hC hl h hG hr hf fun fr1 σ1 β' a' w' hk hst hf' => hK _ fr1 σ1 β' a' w' hk hst hf'
  | dregion h =>
    intro n r
    refine ⟨fun c hc => ?_, fun body h => by cases h⟩
    refine CodeOk.of_comp (cc := .dregion _ _) (by simp) (fun c hc hfl => ?_) c hc
    generalize hs : (CCode.dregion _ _) = cc at hc
    cases hc <;> cases hs
    rename_i id ops p hp
    intro Q lo β w a hG hr hf hK
    exact hD n r ops p hp id _ h hG hr hf fun fr1 σ1 β' a' w' hk hst hf' => hK _ fr1 σ1 β' a' w' hk hst hf'
  | @seq ca cb fr σ R Qc h t o ih1 ih2 =>
    intro n r
    refine ⟨.of_comp (by simp) fun c hc hfl => ?_, fun body h => by cases h⟩
    generalize hs : (CCode.seq ca cb) = cc at hc
    cases hc <;> cases hs
    rename_i a b
    have hfa : r = none ∨ flat a = true := hfl.imp id fun h => by simp only [flat, Bool.and_eq_true] at h; exact h.1
    have hfb : r = none ∨ flat b = true := hfl.imp id fun h => by simp only [flat, Bool.and_eq_true] at h; exact h.2
    intro Q lo β w a' hG hr hf hK
    refine wpIn_seq ?_
    refine wpIn_mono ((ih1 n r).1 _ rfl hfa (Exit.then (b.wpIn (WR r) 0 P (Exit.noGoto Q)) (Exit.noGoto Q)) hG hr hf ?_) fun e a w he => by cases e <;> first | exact he | exact he.elim
    intro e fr1 σ1 β1 a1 w1 hk hst hf1
    cases e with
    | normal => exact (ih2 fr1 σ1 hk n r).1 _ rfl hfb Q (hG.mono hst.le) hst.rel hf1 (hK.trans hr hst)
    | exit id => exact hK _ fr1 σ1 β1 a1 w1 (o _ fr1 σ1 (by simp) hk) hst hf1
    | ret => exact hK _ fr1 σ1 β1 a1 w1 (o _ fr1 σ1 (by simp) hk) hst hf1
  | @yes c ca cb fr σ Qc hc h ih =>
    intro n r
    refine ⟨.of_comp (by simp) fun d hd hfl => ?_, fun body h => by cases h⟩
    generalize hs : (CCode.cond _ ca cb) = cc at hd
    cases hd <;> cases hs
    rename_i a b hcc
    have hfa : r = none ∨ flat a = true := hfl.imp id fun h => by simp only [flat, Bool.and_eq_true] at h; exact h.1
    intro Q lo β w a' hG hr hf hK
    have hv := ev_rel (a := a') hG hcc fun t _ => hf.rel t
    rw [hc] at hv
    exact wpIn_cond_true hv.bool_inv ((ih n r).1 _ rfl hfa Q hG hr hf hK)
  | @no c ca cb fr σ Qc hc h ih =>
    intro n r
    refine ⟨.of_comp (by simp) fun d hd hfl => ?_, fun body h => by cases h⟩
    generalize hs : (CCode.cond _ ca cb) = cc at hd
    cases hd <;> cases hs
    rename_i a b hcc
    have hfb : r = none ∨ flat b = true := hfl.imp id fun h => by simp only [flat, Bool.and_eq_true] at h; exact h.2
    intro Q lo β w a' hG hr hf hK
    have hv := ev_rel (a := a') hG hcc fun t _ => hf.rel t
    rw [hc] at hv
    exact wpIn_cond_false hv.bool_inv ((ih n r).1 _ rfl hfb Q hG hr hf hK)
  | @block id ca fr σ R Qc h o ih =>
    intro n r
    refine ⟨.of_comp (by simp) fun c hc hfl => ?_, fun body h => by cases h⟩
    generalize hs : (CCode.block id ca) = cc at hc
    cases hc <;> cases hs
    rename_i a
    intro Q lo β w a' hG hr hf hK
    refine wpIn_block ?_
    refine wpIn_mono ((ih n r).1 _ rfl hfl (Exit.inBlock id (Exit.noGoto Q)) hG hr hf ?_) fun e a w he => by cases e <;> first | exact he | exact he.elim
    intro e fr1 σ1 β1 a1 w1 hk hst hf1
    have := hK _ fr1 σ1 β1 a1 w1 (o e fr1 σ1 hk) hst hf1
    cases e with
    | exit j =>
      by_cases hj : j = id
      · subst hj; simp only [toExit, Exit.inBlock, if_true] at this ⊢; exact this
      · rw [if_neg (by simpa using hj)] at this
        simp only [toExit, Exit.inBlock, if_neg hj]; exact this
    | normal => exact this
    | ret => exact this
  | @loop ca fr σ R Qc h t o ih1 ih2 =>
    intro n r
    have key : ∀ body, CCode.loop ca = .loop (compCode P n body) → (r = none ∨ flat body = true) → LoopOk P n r body fr σ Qc := by
      intro body hb hfl
      have hb' : compCode P n body = ca := by cases hb; rfl
      intro Q lo β w a hG hr hf hK
      refine LoopIn.of_round ?_
      refine wpIn_mono ((ih1 n r).1 _ hb' hfl (Exit.then (LoopIn (WR r) 0 P body (Exit.noGoto Q)) (Exit.noGoto Q)) hG hr hf ?_) fun e a w he => by cases e <;> first | exact he | exact he.elim
      intro e fr1 σ1 β1 a1 w1 hk hst hf1
      cases e with
      | normal => exact (ih2 fr1 σ1 hk n r).2 body hb hfl Q (hG.mono hst.le) hst.rel hf1 (hK.trans hr hst)
      | exit id => exact hK _ fr1 σ1 β1 a1 w1 (o _ fr1 σ1 (by simp) hk) hst hf1
      | ret => exact hK _ fr1 σ1 β1 a1 w1 (o _ fr1 σ1 (by simp) hk) hst hf1
    refine ⟨.of_comp (by simp) fun c hc hfl => ?_, key⟩
    generalize hs : (CCode.loop ca) = cc at hc
    cases hc <;> cases hs
    exact (key _ rfl hfl).code
  | exit h =>
    intro n r
    refine ⟨.of_comp (by simp) fun c hc _ => ?_, fun body h => by cases h⟩
    cases hc
    intro Q lo β w a hG hr hf hK
    exact wpIn_exit (hK _ _ _ β a w h (.refl hr) hf)
  | ret h =>
    intro n r
    refine ⟨.of_comp (by simp) fun c hc _ => ?_, fun body h => by cases h⟩
    cases hc
    intro Q lo β w a hG hr hf hK
    exact wpIn_ret (hK _ _ _ β a w h (.refl hr) hf)
  | @rfun f ps as body fr σ Qc g x1 x2 hf h =>
    intro n r
    refine ⟨.of_comp (by simp) fun c hc hfl => ?_, fun body h => by cases h⟩
    generalize hs : (CCode.rfun f ps as body) = cc at hc
    cases hc <;> cases hs
    rename_i ps ac bc hb2 hb3 hb4 hb1
    rcases hfl with rfl | hfl
    · exact sim_rfun hP hC hb1 hb2 hb3 hb4 g x1 x2 hf h
    · cases hfl

end
end Go.Cn
