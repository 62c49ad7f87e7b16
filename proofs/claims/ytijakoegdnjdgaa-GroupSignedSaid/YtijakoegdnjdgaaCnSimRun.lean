/- Regions in order, control, calls. -/
import Derived.Test.YtijakoegdnjdgaaCnSimCode
namespace Go.Cn
set_option linter.unusedVariables false
set_option linter.unusedSimpArgs false

section
variable {P : Program} {C : CallR} {n : Nat} {ops : Array Oper}

/-- what a part of a frame's code comes to -/
def Reaches (P : Program) (n : Nat) (β : Ren) (σ : CW) (w : World) (fr' : Fr) (σ' : CW) (K : Act → World → Prop) : Prop :=
  ∀ β' a' w', Stp P β σ w β' σ' w' → FRel P β' n fr' a' → K a' w'

theorem sim_one (hP : ProgOk P) (hC : SimC P C) {o : Oper} {s : CStep} (hs : stepOf P n ops o = some s) {β : Ren} {σ σ1 : CW} {w : World} {fr fr1 : Fr} {a : Act} (hG : GOk P β) (h : Rel P β σ w) (hf : FRel P β n fr a)
    (hr : StepR C s fr σ fr1 σ1) {K : Act → World → Prop} {Q : Exit → Act → World → Prop} (hK : Reaches P n β σ w fr1 σ1 K) :
    if Region.wanted o (yielded ops a.tmps) then o.wp P a w K Q ∨ (o.asks P a w ∧ LetsOut Q) else K (a.put o.dst undef) w := by
  obtain ⟨q, hq, hsq, hsd, hconst, hdst, hgd⟩ := stepOf_some hs
  have hw := wants_rel (a := a) (fr := fr) (β := β) hs (fun t b _ => hf.rel t)
  rw [hw]
  rcases hr with ⟨h1, v, h2, h3⟩ | ⟨h1, h3, h4⟩
  · rw [if_pos h1]
    refine .inl (sim_step hP hC hG h hq (fun x hx => ev_rel hG (hconst x hx) fun t _ => hf.rel t) (hsq ▸ h2) fun β' v' w' hst hv => ?_)
    subst h3
    refine hK β' _ w' hst ?_
    rw [hsd]
    exact (hf.mono hst.le).put hdst hv
  · rw [if_neg (by rw [h1]; simp)]
    subst h3 h4
    refine hK β _ w (.refl h) ?_
    rw [hsd]
    exact hf.put hdst .undef

theorem sim_list (hP : ProgOk P) (hC : SimC P C) {Q : Exit → Act → World → Prop} : ∀ (is : List Nat) (ss : List CStep), (∀ (j : Nat) (s : CStep), ss[j]? = some s → ∃ (i : Nat) (o : Oper), is[j]? = some i ∧ ops[i]? = some o ∧ stepOf P n ops o = some s) → is.length = ss.length →
    ∀ {fr fr' : Fr} {σ σ' : CW}, StepsR C ss fr σ fr' σ' → ∀ {β : Ren} {w : World} {a : Act}, GOk P β → Rel P β σ w → FRel P β n fr a → Reaches P n β σ w fr' σ' (Q .normal) → wpOps P ops Q is a w
  | [], ss, _, hl, fr, fr', σ, σ', hr, β, w, a, hG, h, hf, hK => by
    cases ss with
    | nil => cases hr; exact hK β a w (.refl h) hf
    | cons s ss => simp at hl
  | i :: is, ss, hm, hl, fr, fr', σ, σ', hr, β, w, a, hG, h, hf, hK => by
    cases ss with
    | nil => simp at hl
    | cons s ss =>
      cases hr with
      | cons h1 ht =>
        obtain ⟨i', o, hi, ho, hs⟩ := hm 0 s rfl
        simp at hi
        subst hi
        simp only [wpOps, ho]
        refine sim_one hP hC hs hG h hf h1 ?_
        intro β1 a1 w1 hst hf1
        refine sim_list hP hC is ss (fun j s' hj => ?_) (by simpa using hl) ht (hG.mono hst.le) hst.rel hf1 ?_
        · obtain ⟨i', o', q1, q2, q3⟩ := hm (j + 1) s' (by simpa using hj)
          exact ⟨i', o', by simpa using q1, q2, q3⟩
        · intro β2 a2 w2 hst2 hf2
          exact hK β2 a2 w2 (hst.trans hst2 h) hf2

theorem mapM_some {α γ : Type} {f : α → Option γ} : ∀ {l : List α} {r : List γ}, l.mapM f = some r → l.length = r.length ∧ ∀ (j : Nat) (y : γ), r[j]? = some y → ∃ x, l[j]? = some x ∧ f x = some y
  | [], r, h => by cases h; exact ⟨rfl, by simp⟩
  | x :: l, r, h => by
    rw [List.mapM_cons] at h
    cases e : f x with
    | none => rw [e] at h; cases h
    | some y =>
      rw [e] at h
      cases e2 : l.mapM f with
      | none => rw [e2] at h; cases h
      | some r' =>
        rw [e2] at h
        cases h
        obtain ⟨h1, h2⟩ := mapM_some e2
        refine ⟨by simp [h1], fun j z hz => ?_⟩
        cases j with
        | zero => simp at hz; subst hz; exact ⟨x, rfl, e⟩
        | succ j => simp at hz; obtain ⟨x', q1, q2⟩ := h2 j z hz; exact ⟨x', by simpa using q1, q2⟩

theorem sim_region (hP : ProgOk P) (hC : SimC P C) {id : Nat} {ss : List CStep} (hss : ops.toList.mapM (stepOf P n ops) = some ss) {Q : Exit → Act → World → Prop} {fr fr' : Fr} {σ σ' : CW} (hr : StepsR C ss fr σ fr' σ') {β : Ren} {w : World} {a : Act}
    (hG : GOk P β) (h : Rel P β σ w) (hf : FRel P β n fr a) (hK : Reaches P n β σ w fr' σ' (Q .normal)) : (Code.region id ops false).wp P Q a w := by
  obtain ⟨h1, h2⟩ := mapM_some hss
  refine wp_region (sim_list hP hC _ ss (fun j s hj => ?_) (by simp [← h1]) hr hG h hf hK)
  obtain ⟨o, q1, q2⟩ := h2 j s hj
  have hj' : j < ops.size := by have := (List.getElem?_eq_some_iff.1 q1).1; simpa using this
  exact ⟨j, o, by simp [hj'], by simpa using q1, q2⟩

/-- a region that draws its order -/
def DrawOk (P : Program) (C : CallR) (n : Nat) : Prop := ∀ (ops : Array Oper) (p : DPlan), planOf P n ops = some p → ∀ (id : Nat) (Q : Exit → Act → World → Prop) {fr fr1 fr' : Fr} {σ σ1 σ' : CW},
  StepsR C p.seg fr σ fr1 σ1 → StagesR C p.stages fr1 σ1 fr' σ' → ∀ {β : Ren} {w : World} {a : Act}, GOk P β → Rel P β σ w → FRel P β n fr a → Reaches P n β σ w fr' σ' (Q .normal) → (Code.region id ops true).wp P Q a w

def toExit : CExit → Exit
  | .normal => .normal
  | .exit id => .exit id
  | .ret => .ret

def strip : Code → Code
  | .scope c => strip c
  | c => c

theorem comp_strip (c : Code) : compCode P n (strip c) = compCode P n c := by
  induction c <;> simp_all [strip, compCode]

theorem noGoto_idem {Q : Exit → Act → World → Prop} {e : Exit} {a : Act} {w : World} (h : Exit.noGoto Q e a w) : Exit.noGoto (Exit.noGoto Q) e a w := by cases e <;> exact h

theorem wp_strip {Q : Exit → Act → World → Prop} {w : World} {a : Act} (c : Code) (h : (strip c).wp P (Exit.noGoto Q) a w) : c.wp P (Exit.noGoto Q) a w := by
  induction c with
  | scope c ih => exact wp_scope_straight (wp_mono (ih h) fun _ _ _ => noGoto_idem)
  | _ => exact h

theorem strip_scope (c : Code) : ∀ d, strip c ≠ .scope d := by
  induction c <;> intro d h <;> simp_all [strip]

/-- what the code comes to -/
def CodeOk (P : Program) (n : Nat) (c : Code) (fr : Fr) (σ : CW) (e : CExit) (fr' : Fr) (σ' : CW) : Prop :=
  ∀ (Q : Exit → Act → World → Prop) {β : Ren} {w : World} {a : Act}, GOk P β → Rel P β σ w → FRel P β n fr a → Reaches P n β σ w fr' σ' (Q (toExit e)) → c.wp P (Exit.noGoto Q) a w
def RoundsOk (P : Program) (n : Nat) (c : Code) (fr : Fr) (σ : CW) (e : CExit) (fr' : Fr) (σ' : CW) : Prop :=
  ∃ k, ∀ (Q : Exit → Act → World → Prop) (β : Ren) (w : World) (a : Act), GOk P β → Rel P β σ w → FRel P β n fr a → Reaches P n β σ w fr' σ' (Q (toExit e)) → Code.rounds P c (Exit.noGoto Q) k a w

theorem CodeOk.of_strip {c : Code} {fr fr' : Fr} {σ σ' : CW} {e : CExit} (h : CodeOk P n (strip c) fr σ e fr' σ') : CodeOk P n c fr σ e fr' σ' :=
  fun Q _ _ _ hG hr hf hK => wp_strip c (h Q hG hr hf hK)

theorem toExit_noGoto {Q : Exit → Act → World → Prop} {e : CExit} {a : Act} {w : World} (h : Q (toExit e) a w) : Exit.noGoto Q (toExit e) a w := by cases e <;> exact h

theorem rounds_mono {body : Code} {Q : Exit → Act → World → Prop} : ∀ (k m : Nat), k ≤ m → ∀ a w, Code.rounds P body Q k a w → Code.rounds P body Q m a w
  | 0, m, _, a, w, h => h.elim
  | k + 1, m, hkm, a, w, h => by
    obtain ⟨m, rfl⟩ : ∃ m', m = m' + 1 := ⟨m - 1, by omega⟩
    rw [rounds_succ] at h ⊢
    refine wp_mono h fun e a w he => ?_
    cases e <;> first | exact he | exact rounds_mono k m (by omega) _ _ he

inductive CompR (P : Program) (n : Nat) : Code → CCode → Prop where
  | skip : CompR P n .skip .skip
  | label (l : Nat) : CompR P n (.label l) .skip
  | region (id : Nat) {ops : Array Oper} {l : List CStep} (h : ops.toList.mapM (stepOf P n ops) = some l) : CompR P n (.region id ops false) (.region l)
  | dregion (id : Nat) {ops : Array Oper} {p : DPlan} (h : planOf P n ops = some p) : CompR P n (.region id ops true) (.dregion p.seg p.stages)
  | seq (a b : Code) : CompR P n (.seq a b) (.seq (compCode P n a) (compCode P n b))
  | cond {c : Operand} (hc : constOk P c = true) (a b : Code) : CompR P n (.cond c a b) (.cond c (compCode P n a) (compCode P n b))
  | block (id : Nat) (c : Code) : CompR P n (.block id c) (.block id (compCode P n c))
  | loop (c : Code) : CompR P n (.loop c) (.loop (compCode P n c))
  | exit (id : Nat) : CompR P n (.exit id) (.exit id)
  | ret : CompR P n .ret .ret

theorem comp_inv {c : Code} {cc : CCode} (hs : ∀ d, c ≠ .scope d) (h : compCode P n c = cc) (hn : cc ≠ .no) : CompR P n c cc := by
  cases c
  case skip => subst h; exact .skip
  case label => subst h; exact .label _
  case seq => subst h; exact .seq _ _
  case block => subst h; exact .block _ _
  case loop => subst h; exact .loop _
  case exit => subst h; exact .exit _
  case ret => subst h; exact .ret
  case scope d => exact absurd rfl (hs d)
  case cond c a b =>
    simp only [compCode] at h
    split at h
    · rename_i hc; subst h; exact .cond hc _ _
    · exact absurd h.symm hn
  case region id ops d =>
    cases d <;> simp only [compCode] at h
    · split at h
      · rename_i l hl; subst h; exact .region _ hl
      · exact absurd h.symm hn
    · split at h
      · rename_i l hl; subst h; exact .dregion _ hl
      · exact absurd h.symm hn
  all_goals exact absurd h.symm hn

theorem CodeOk.of_comp {cc : CCode} {fr fr' : Fr} {σ σ' : CW} {e : CExit} (hn : cc ≠ .no) (h : ∀ c, CompR P n c cc → CodeOk P n c fr σ e fr' σ') :
    ∀ c, compCode P n c = cc → CodeOk P n c fr σ e fr' σ' :=
  fun c hc => .of_strip (h _ (comp_inv (strip_scope c) (by rw [comp_strip]; exact hc) hn))

theorem RoundsOk.code {c : Code} {fr fr' : Fr} {σ σ' : CW} {e : CExit} (h : RoundsOk P n c fr σ e fr' σ') : CodeOk P n (.loop c) fr σ e fr' σ' := by
  intro Q β w a hG hr hf hK
  obtain ⟨k, hk⟩ := h
  exact wp_loop_rounds k (hk Q β w a hG hr hf hK)

theorem Reaches.trans {β β1 : Ren} {σ σ1 σ2 : CW} {w w1 : World} {fr2 : Fr} {K : Act → World → Prop} (h : Rel P β σ w) (hst : Stp P β σ w β1 σ1 w1) (hK : Reaches P n β σ w fr2 σ2 K) : Reaches P n β1 σ1 w1 fr2 σ2 K :=
  fun β2 a2 w2 hst2 hf2 => hK β2 a2 w2 (hst.trans hst2 h) hf2

theorem sim_code (hP : ProgOk P) (hC : SimC P C) (hD : DrawOk P C n) {cc : CCode} {fr fr' : Fr} {σ σ' : CW} {e : CExit} (hr : CodeR C cc fr σ e fr' σ') :
    (∀ c, compCode P n c = cc → CodeOk P n c fr σ e fr' σ') ∧ (∀ body, cc = .loop (compCode P n body) → RoundsOk P n body fr σ e fr' σ') := by
  induction hr with
  | skip fr σ =>
    refine ⟨.of_comp (by simp) fun c hc => ?_, fun body h => by cases h⟩
    cases hc with
    | skip => intro Q β w a hG hr hf hK; exact wp_skip (hK β a w (.refl hr) hf)
    | label l => intro Q β w a hG hr hf hK; exact wp_label (hK β a w (.refl hr) hf)
  | region h =>
    refine ⟨.of_comp (by simp) fun c hc => ?_, fun body h => by cases h⟩
    cases hc with
    | region id hl =>
      intro Q β w a hG hr hf hK
      exact sim_region hP hC hl h hG hr hf fun β' a' w' hst hf' => hK β' a' w' hst hf'
  | dregion h g =>
    refine ⟨fun c hc => ?_, fun body h => by cases h⟩
    refine CodeOk.of_comp (cc := .dregion _ _) (by simp) (fun c hc => ?_) c hc
    generalize hs : (CCode.dregion _ _) = cc at hc
    cases hc <;> cases hs
    rename_i id ops p hp
    intro Q β w a hG hr hf hK
    exact hD ops p hp id _ h g hG hr hf fun β' a' w' hst hf' => hK β' a' w' hst hf'
  | @seq ca cb e fr fr1 fr2 σ σ1 σ2 h t ih1 ih2 =>
    refine ⟨.of_comp (by simp) fun c hc => ?_, fun body h => by cases h⟩
    generalize hs : (CCode.seq ca cb) = cc at hc
    cases hc <;> cases hs
    rename_i a b
    intro Q β w a' hG hr hf hK
    refine wp_seq ?_
    refine wp_mono (ih1.1 _ rfl (Exit.then (b.wp P (Exit.noGoto Q)) (Exit.noGoto Q)) hG hr hf ?_) fun e a w he => by cases e <;> first | exact he | exact he.elim
    intro β1 a1 w1 hst hf1
    exact ih2.1 _ rfl Q (hG.mono hst.le) hst.rel hf1 (hK.trans hr hst)
  | @seqOut ca cb e fr fr1 σ σ1 h he ih1 =>
    refine ⟨.of_comp (by simp) fun c hc => ?_, fun body h => by cases h⟩
    generalize hs : (CCode.seq ca cb) = cc at hc
    cases hc <;> cases hs
    rename_i a b
    intro Q β w a' hG hr hf hK
    refine wp_seq ?_
    refine wp_mono (ih1.1 _ rfl (Exit.then (b.wp P (Exit.noGoto Q)) (Exit.noGoto Q)) hG hr hf ?_) fun e a w he => by cases e <;> first | exact he | exact he.elim
    intro β1 a1 w1 hst hf1
    have := hK β1 a1 w1 hst hf1
    cases e <;> first | exact absurd rfl he | exact this
  | @yes c ca cb e fr fr' σ σ' hc h ih =>
    refine ⟨.of_comp (by simp) fun c hc => ?_, fun body h => by cases h⟩
    generalize hs : (CCode.cond _ ca cb) = cc at hc
    cases hc <;> cases hs
    rename_i a b hcc
    intro Q β w a' hG hr hf hK
    have hv := ev_rel hG hcc fun t _ => hf.rel t
    rw [hc] at hv
    exact wp_cond_true hv.bool_inv (ih.1 _ rfl Q hG hr hf hK)
  | @no c ca cb e fr fr' σ σ' hc h ih =>
    refine ⟨.of_comp (by simp) fun c hc => ?_, fun body h => by cases h⟩
    generalize hs : (CCode.cond _ ca cb) = cc at hc
    cases hc <;> cases hs
    rename_i a b hcc
    intro Q β w a' hG hr hf hK
    have hv := ev_rel hG hcc fun t _ => hf.rel t
    rw [hc] at hv
    exact wp_cond_false hv.bool_inv (ih.1 _ rfl Q hG hr hf hK)
  | @block id ca e fr fr' σ σ' h he ih =>
    refine ⟨.of_comp (by simp) fun c hc => ?_, fun body h => by cases h⟩
    generalize hs : (CCode.block id ca) = cc at hc
    cases hc <;> cases hs
    rename_i a
    intro Q β w a' hG hr hf hK
    refine wp_block ?_
    refine wp_mono (ih.1 _ rfl (Exit.inBlock id (Exit.noGoto Q)) hG hr hf ?_) fun e a w he => by cases e <;> first | exact he | exact he.elim
    intro β1 a1 w1 hst hf1
    have := hK β1 a1 w1 hst hf1
    cases e with
    | exit j =>
      have hj : j ≠ id := fun h => he (by rw [h])
      simp only [toExit, Exit.inBlock, if_neg hj]; exact this
    | normal => exact this
    | ret => exact this
  | @blockOut id ca fr fr' σ σ' h ih =>
    refine ⟨.of_comp (by simp) fun c hc => ?_, fun body h => by cases h⟩
    generalize hs : (CCode.block id ca) = cc at hc
    cases hc <;> cases hs
    rename_i a
    intro Q β w a' hG hr hf hK
    refine wp_block ?_
    refine wp_mono (ih.1 _ rfl (Exit.inBlock id (Exit.noGoto Q)) hG hr hf ?_) fun e a w he => by cases e <;> first | exact he | exact he.elim
    intro β1 a1 w1 hst hf1
    have := hK β1 a1 w1 hst hf1
    simp only [toExit, Exit.inBlock, if_true]; exact this
  | @loop ca e fr fr1 fr2 σ σ1 σ2 h t ih1 ih2 =>
    have key : ∀ body, CCode.loop ca = .loop (compCode P n body) → RoundsOk P n body fr σ e fr2 σ2 := by
      intro body hb
      have hb' : compCode P n body = ca := by cases hb; rfl
      obtain ⟨k, hk⟩ := ih2.2 body hb
      refine ⟨k + 1, fun Q β w a hG hr hf hK => ?_⟩
      rw [rounds_succ]
      refine wp_mono (ih1.1 _ hb' (Exit.then (Code.rounds P body (Exit.noGoto Q) k) (Exit.noGoto Q)) hG hr hf ?_) fun e a w he => by cases e <;> first | exact he | exact he.elim
      intro β1 a1 w1 hst hf1
      exact hk Q β1 w1 a1 (hG.mono hst.le) hst.rel hf1 (hK.trans hr hst)
    refine ⟨.of_comp (by simp) fun c hc => ?_, key⟩
    generalize hs : (CCode.loop ca) = cc at hc
    cases hc <;> cases hs
    exact (key _ rfl).code
  | @loopOut ca e fr fr' σ σ' h he ih =>
    have key : ∀ body, CCode.loop ca = .loop (compCode P n body) → RoundsOk P n body fr σ e fr' σ' := by
      intro body hb
      have hb' : compCode P n body = ca := by cases hb; rfl
      refine ⟨1, fun Q β w a hG hr hf hK => ?_⟩
      rw [rounds_succ]
      refine wp_mono (ih.1 _ hb' (Exit.then (Code.rounds P body (Exit.noGoto Q) 0) (Exit.noGoto Q)) hG hr hf ?_) fun e a w he => by cases e <;> first | exact he | exact he.elim
      intro β1 a1 w1 hst hf1
      have := hK β1 a1 w1 hst hf1
      cases e <;> first | exact absurd rfl he | exact this
    refine ⟨.of_comp (by simp) fun c hc => ?_, key⟩
    generalize hs : (CCode.loop ca) = cc at hc
    cases hc <;> cases hs
    exact (key _ rfl).code
  | exit id fr σ =>
    refine ⟨.of_comp (by simp) fun c hc => ?_, fun body h => by cases h⟩
    cases hc
    intro Q β w a hG hr hf hK
    exact wp_exit (hK β a w (.refl hr) hf)
  | ret fr σ =>
    refine ⟨.of_comp (by simp) fun c hc => ?_, fun body h => by cases h⟩
    cases hc
    intro Q β w a hG hr hf hK
    exact wp_ret (hK β a w (.refl hr) hf)

end
end Go.Cn
