/- What is asked of code, calls, steps. -/
import Derived.Test.YtfagmflapdgcmaaDoorCnA6
namespace Go.Cn
set_option linter.unusedVariables false
set_option linter.unusedSimpArgs false

/-- what is asked of an end -/
def After (K : Nat → Prop) (F : Nat → Nat) (σ : CW) (fr : Fr) (σ' : CW) (Q : AFr → AH → Prop) : Prop :=
  ∃ F' fr' h', Ext K F σ F' σ' ∧ AR F' h' σ' ∧ KOk K h' ∧ (∀ t, Rp F' σ' (fr' t) (fr t)) ∧ Q fr' h'

/-- Code, from what is known of a frame and of memory. 'K': blocks that it leaves as they are. -/
def W (T : Nat → Option CFun) (K : Nat → Prop) (c : CCode) (fr : AFr) (h : AH) (Q : CExit → AFr → AH → Prop) : Prop :=
  ∀ F σ (frC : Fr), AR F h σ → KOk K h → (∀ t, Rp F σ (fr t) (frC t)) → CodeW (CallA T) c frC σ fun e frC' σ' => After K F σ frC' σ' (Q e)

/-- .. steps -/
def WS (T : Nat → Option CFun) (K : Nat → Prop) (l : List CStep) (fr : AFr) (h : AH) (Q : AFr → AH → Prop) : Prop :=
  ∀ F σ (frC : Fr), AR F h σ → KOk K h → (∀ t, Rp F σ (fr t) (frC t)) → StepsW (CallA T) l frC σ fun frC' σ' => After K F σ frC' σ' Q

/-- .. a call -/
def ACall (T : Nat → Option CFun) (K : Nat → Prop) (f : Fn) (args : List AV) (h : AH) (Q : AV → AH → Prop) : Prop :=
  ∀ F σ argsC, AR F h σ → KOk K h → RpL F σ args argsC → CallA T f argsC σ fun v σ' => ∃ F' a h', Ext K F σ F' σ' ∧ AR F' h' σ' ∧ KOk K h' ∧ Rp F' σ' a v ∧ Q a h'

/-- .. one operation: what it comes to -/
def WO (T : Nat → Option CFun) (K : Nat → Prop) (o : COp) (fr : AFr) (h : AH) (Q : AV → AH → Prop) : Prop :=
  ∀ F σ (ρ : Operand → Value), AR F h σ → KOk K h → (∀ x, Rp F σ (evA fr x) (ρ x)) → OpW (CallA T) o ρ σ fun v σ' => ∃ F' a h', Ext K F σ F' σ' ∧ AR F' h' σ' ∧ KOk K h' ∧ Rp F' σ' a v ∧ Q a h'

section
variable {T : Nat → Option CFun} {K : Nat → Prop} {fr : AFr} {h : AH}

theorem ACall.mono {f : Fn} {args : List AV} {Q Q' : AV → AH → Prop} (hc : ACall T K f args h Q) (hQ : ∀ a h', Q a h' → Q' a h') : ACall T K f args h Q' :=
  fun F σ argsC hA hK hl => CallA.mono _ _ _ _ _ (hc F σ argsC hA hK hl) fun v σ' ⟨F', a, h', h1, h2, h3, h4, h5⟩ => ⟨F', a, h', h1, h2, h3, h4, hQ _ _ h5⟩
theorem ACall.lessK {K' : Nat → Prop} {f : Fn} {args : List AV} {Q : AV → AH → Prop} (hc : ACall T K' f args h Q) (hk : KOk K' h) (hK : ∀ b, K b → K' b) : ACall T K f args h Q :=
  fun F σ argsC hA _ hl => CallA.mono _ _ _ _ _ (hc F σ argsC hA hk hl) fun v σ' ⟨F', a, h', h1, h2, h3, h4, h5⟩ => ⟨F', a, h', h1.less hK, h2, fun b hb => h3 b (hK b hb), h4, h5⟩
theorem ACall.weak {f : Fn} {args args' : List AV} {Q : AV → AH → Prop} (hc : ACall T K f args' h Q) (hl : args.length = args'.length) (hw : ∀ (i : Nat) (x y : AV), args[i]? = some x → args'[i]? = some y → Wk x y) : ACall T K f args h Q :=
  fun F σ argsC hA hK hr => hc F σ argsC hA hK ⟨hl ▸ hr.1, fun i x y hx hy => by
    have hi : i < args.length := by rw [hl]; exact (List.getElem?_eq_some_iff.1 hx).1
    exact (hr.2 i args[i] y (by simp [hi]) hy).weak (hw i args[i] x (by simp [hi]) hx)⟩

theorem W.mono {c : CCode} {Q Q' : CExit → AFr → AH → Prop} (hw : W T K c fr h Q) (hQ : ∀ e fr h, Q e fr h → Q' e fr h) : W T K c fr h Q' :=
  fun F σ frC hA hK hf => (hw F σ frC hA hK hf).mono CallA.mono fun e frC' σ' ⟨F', fr', h', h1, h2, h3, h4, h5⟩ => ⟨F', fr', h', h1, h2, h3, h4, hQ _ _ _ h5⟩

theorem After.trans {F F1 : Nat → Nat} {σ σ1 σ2 : CW} {frC : Fr} {Q : AFr → AH → Prop} (hx : Ext K F σ F1 σ1) (ha : After K F1 σ1 frC σ2 Q) : After K F σ frC σ2 Q :=
  let ⟨F', fr', h', h1, h2⟩ := ha
  ⟨F', fr', h', hx.trans h1, h2⟩

theorem W.seq {a b : CCode} {R Q : CExit → AFr → AH → Prop} (h1 : W T K a fr h R) (h2 : ∀ fr h, R .normal fr h → W T K b fr h Q) (h3 : ∀ e fr h, e ≠ .normal → R e fr h → Q e fr h) : W T K (.seq a b) fr h Q := by
  intro F σ frC hA hK hf
  refine .seq (h1 F σ frC hA hK hf) (fun frC1 σ1 ⟨F1, fr1, hh1, g1, g2, g3, g4, g5⟩ => ?_) fun e frC1 σ1 he ⟨F1, fr1, hh1, g1, g2, g3, g4, g5⟩ => ⟨F1, fr1, hh1, g1, g2, g3, g4, h3 e _ _ he g5⟩
  exact (h2 fr1 hh1 g5 F1 σ1 frC1 g2 g3 g4).mono CallA.mono fun e frC' σ' ha => After.trans g1 ha

theorem W.cond {c : Operand} {a b : CCode} {t : Bool} {Q : CExit → AFr → AH → Prop} (hc : evA fr c = .bool t) (hw : W T K (if t then a else b) fr h Q) : W T K (.cond c a b) fr h Q := by
  intro F σ frC hA hK hf
  have hv := evA_rp hf c
  rw [hc] at hv
  cases t with
  | true => exact .yes hv.bool_inv (hw F σ frC hA hK hf)
  | false => exact .no hv.bool_inv (hw F σ frC hA hK hf)

theorem W.block {id : Nat} {c : CCode} {R Q : CExit → AFr → AH → Prop} (h1 : W T K c fr h R) (h2 : ∀ e fr h, R e fr h → Q (if e = .exit id then .normal else e) fr h) : W T K (.block id c) fr h Q :=
  fun F σ frC hA hK hf => .block (h1 F σ frC hA hK hf) fun e frC1 σ1 ⟨F1, fr1, hh1, g1, g2, g3, g4, g5⟩ => ⟨F1, fr1, hh1, g1, g2, g3, g4, h2 e _ _ g5⟩

theorem W.loop {c : CCode} {R Q : CExit → AFr → AH → Prop} (h1 : W T K c fr h R) (h2 : ∀ fr h, R .normal fr h → W T K (.loop c) fr h Q) (h3 : ∀ e fr h, e ≠ .normal → R e fr h → Q e fr h) : W T K (.loop c) fr h Q := by
  intro F σ frC hA hK hf
  refine .loop (h1 F σ frC hA hK hf) (fun frC1 σ1 ⟨F1, fr1, hh1, g1, g2, g3, g4, g5⟩ => ?_) fun e frC1 σ1 he ⟨F1, fr1, hh1, g1, g2, g3, g4, g5⟩ => ⟨F1, fr1, hh1, g1, g2, g3, g4, h3 e _ _ he g5⟩
  exact (h2 fr1 hh1 g5 F1 σ1 frC1 g2 g3 g4).mono CallA.mono fun e frC' σ' ha => After.trans g1 ha

/-- A loop: what holds ahead of each round, by what is left. -/
theorem W.rounds {α : Type} {c : CCode} (I : α → AFr → AH → Prop) (μ : α → Nat) {Q : CExit → AFr → AH → Prop} (hr : ∀ x fr h, I x fr h → W T K c fr h fun e fr h => match e with | .normal => ∃ y, μ y < μ x ∧ I y fr h | e => Q e fr h) :
    ∀ x fr h, I x fr h → W T K (.loop c) fr h Q := by
  have key : ∀ n x fr h, μ x < n → I x fr h → W T K (.loop c) fr h Q := by
    intro n
    induction n with
    | zero => intro x fr h hlt; omega
    | succ n ih =>
      intro x fr h hlt hi
      refine .loop (hr x fr h hi) (fun fr h ⟨y, hy, hi'⟩ => ih y fr h (by omega) hi') fun e fr h he hq => ?_
      cases e with
      | normal => exact absurd rfl he
      | exit id => exact hq
      | ret => exact hq
  exact fun x fr h hi => key (μ x + 1) x fr h (Nat.lt_succ_self _) hi

theorem W.weakF {c : CCode} {fr' : AFr} {Q : CExit → AFr → AH → Prop} (hw : ∀ t, Wk (fr t) (fr' t)) (hc : W T K c fr' h Q) : W T K c fr h Q :=
  fun F σ frC hA hK hf => hc F σ frC hA hK fun t => (hf t).weak (hw t)

theorem W.drop {c : CCode} {h0 : AH} {Q : CExit → AFr → AH → Prop} (hl : h0.le h) (hk : KOk K h → KOk K h0) (hc : W T K c fr h0 Q) : W T K c fr h Q :=
  fun F σ frC hA hK hf => hc F σ frC (hA.drop hl) (hk hK) hf

theorem W.known {c : CCode} {Q : CExit → AFr → AH → Prop} (hc : KOk K h → W T K c fr h Q) : W T K c fr h Q :=
  fun F σ frC hA hK hf => hc hK F σ frC hA hK hf

/-- How long a list may be is known. -/
theorem Rp.lst_big {F : Nat → Nat} {σ : CW} {E : TypeId} {es : List (List AV)} {tag : Tag} {v : Value} (hr : Rp F σ (.lst E es tag) v) : es.length ≤ big := by
  generalize e : AV.lst E es tag = a at hr
  cases hr <;> injection e <;> subst_vars <;> first | exact Nat.zero_le _ | assumption
theorem W.bound {c : CCode} {Q : CExit → AFr → AH → Prop} {t : Tmp} {E : TypeId} {es : List (List AV)} {tag : Tag} (ht : fr t = .lst E es tag) (hc : es.length ≤ big → W T K c fr h Q) : W T K c fr h Q :=
  fun F σ frC hA hK hf => hc (ht ▸ hf t : Rp F σ (.lst E es tag) (frC t)).lst_big F σ frC hA hK hf

end

-- the frame of a call; results ------------------------------------------------------------------------
def initA (args : List AV) : AFr := fun t => (args[t]?).getD (.tuple [])
def resA1 (fr : AFr) (h : AH) : CRes → Option AV
  | .tmp t => some (fr t)
  | .ld1 t => pevA (.ld1 (.tmp t)) (evA fr) h
  | .ldN n t => pevA (.ldN n (.tmp t)) (evA fr) h
def resA (fr : AFr) (h : AH) : List CRes → Option (List AV)
  | [] => some []
  | r :: l => match resA1 fr h r, resA fr h l with
    | some a, some as => some (a :: as)
    | _, _ => none
def resVA : List AV → AV
  | [a] => a
  | l => .tuple l

theorem resA_rp {F : Nat → Nat} {h : AH} {σ : CW} {fr : AFr} {frC : Fr} (hA : AR F h σ) (hf : ∀ t, Rp F σ (fr t) (frC t)) : ∀ {rs : List CRes} {as : List AV}, resA fr h rs = some as → ∃ vs, resL frC σ rs = some vs ∧ RpL F σ as vs
  | [], as, he => by cases he; exact ⟨[], rfl, .nil⟩
  | r :: rs, as, he => by
    unfold resA at he
    split at he
    · rename_i a as' e1 e2
      cases he
      obtain ⟨vs, h1, h2⟩ := resA_rp hA hf e2
      have h3 : ∃ v, res1 frC σ r = some v ∧ Rp F σ a v := by
        cases r with
        | tmp t => cases e1; exact ⟨_, rfl, hf t⟩
        | ld1 t => exact rp_pev hA (evA_rp hf) (show pevA (.ld1 (.tmp t)) (evA fr) h = some a from e1)
        | ldN n t => exact rp_pev hA (evA_rp hf) (show pevA (.ldN n (.tmp t)) (evA fr) h = some a from e1)
      obtain ⟨v, h3, h4⟩ := h3
      exact ⟨v :: vs, by simp only [resL, h3, h1], .cons h4 h2⟩
    · cases he
theorem resV_rp {F : Nat → Nat} {σ : CW} {as : List AV} {vs : List Value} (h : RpL F σ as vs) : Rp F σ (resVA as) (resV vs) := by
  have tup : Rp F σ (.tuple as) (.tuple vs.toArray) := .tuple (by simpa using h.1) fun i x y hi hy => h.2 i x y hi (by simpa using hy)
  match as, vs, h with
  | [], [], h => exact tup
  | [a], [v], h => exact h.of_cons.1
  | _ :: _ :: _, _ :: _ :: _, h => exact tup
  | [], _ :: _, h => have := h.1; simp at this
  | [_], [], h => have := h.1; simp at this
  | [_], _ :: _ :: _, h => have := h.1; simp at this
  | _ :: _ :: _, [], h => have := h.1; simp at this
  | _ :: _ :: _, [_], h => have := h.1; simp at this

theorem init_rp {F : Nat → Nat} {σ : CW} {args : List AV} {argsC : List Value} (h : RpL F σ args argsC) (t : Nat) : Rp F σ (initA args t) (initFr argsC t) := by
  unfold initA initFr
  cases e : args[t]? with
  | some a =>
    obtain ⟨v, h1, h2⟩ := h.left e
    rw [h1]; exact h2
  | none =>
    have : argsC[t]? = none := by rw [List.getElem?_eq_none_iff] at e ⊢; rw [← h.1]; exact e
    rw [this]
    exact .tuple rfl fun i x y h => by simp at h

/-- What is handed back may be said to be never written again; less may be said of it. -/
inductive Frz : AV → AH → AV → AH → Prop where
  | refl (a : AV) (h : AH) : Frz a h a h
  | weak {a b c : AV} {h h' : AH} (hw : Wk a b) (hf : Frz b h c h') : Frz a h c h'
  | drop {a c : AV} {h h0 h' : AH} (hl : h0.le h) (hf : Frz a h0 c h') : Frz a h c h'
  | map {a b c : AV} {h h' : AH} {n : Nat} {es : List (AV × AV)} (ho : h.objs n = some (.map es)) (hc : ∀ F σ v, F n = 1 → (∃ es' ver, σ.heap n = some (.map es' ver) ∧ EntR F σ es es') → Rp F σ a v → Rp F σ b v) (hf : Frz b (h.del n) c h') : Frz a h c h'
  | cells {a b c : AV} {h h' : AH} {n : Nat} {cs : List AV} {E : TypeId} (ho : h.objs n = some (.cells cs E)) (h0 : cs ≠ [])
      (hc : ∀ F σ v, F n = cs.length → (∃ x cl rel, σ.heap n = some (.cells x E cl rel) ∧ RpL F σ cs x) → Rp F σ a v → Rp F σ b v) (hf : Frz b (h.del n) c h') : Frz a h c h'

theorem Frz.gone {a c : AV} {h h' : AH} (hz : Frz a h c h') : ∀ n, h.objs n = none → h'.objs n = none := by
  induction hz with
  | refl => exact fun n hn => hn
  | weak _ _ ih => exact ih
  | @drop a c h h0 h' hl _ ih =>
    intro n hn
    refine ih n ?_
    cases e : h0.objs n with
    | none => rfl
    | some o => rw [hl.1 n o e] at hn; cases hn
  | map _ _ _ ih => exact fun n hn => ih n (by rw [AH.del_objs]; split <;> first | rfl | exact hn)
  | cells _ _ _ _ ih => exact fun n hn => ih n (by rw [AH.del_objs]; split <;> first | rfl | exact hn)

theorem Frz.keep {K : Nat → Prop} {h h' : AH} {n : Nat} {a c : AV} (hz : Frz a (h.del n) c h') (hK : KOk K h') : ¬ K n := by
  intro hKn
  obtain ⟨o, ho⟩ := hK n hKn
  rw [hz.gone n (by rw [AH.del_objs, if_pos rfl])] at ho
  cases ho

theorem Frz.ok {K : Nat → Prop} {a c : AV} {h h' : AH} (hz : Frz a h c h') : KOk K h' → ∀ {F : Nat → Nat} {σ : CW} {v : Value}, AR F h σ → Rp F σ a v → ∃ F', Ext K F σ F' σ ∧ AR F' h' σ ∧ Rp F' σ c v := by
  induction hz with
  | refl a h => exact fun hK _ _ _ hA hr => ⟨_, .refl, hA, hr⟩
  | weak hw _ ih => exact fun hK _ _ _ hA hr => ih hK hA (hr.weak hw)
  | drop hl _ ih => exact fun hK _ _ _ hA hr => ih hK (hA.drop hl) hr
  | @map a b c h h' n es ho hc hf ih =>
    intro hK F σ v hA hr
    obtain ⟨h1, h2⟩ := hA.freeze (K := K) ho (.inr ⟨es, rfl, rfl⟩) (hf.keep hK)
    obtain ⟨_, _, es', ver, g1, g2⟩ := hA.obj n _ ho
    have hr' := hc _ σ v (upd_same F n 1) ⟨es', ver, g1, g2.ext h2⟩ (hr.ext h2)
    obtain ⟨F', q1, q2, q3⟩ := ih hK h1 hr'
    exact ⟨F', h2.trans q1, q2, q3⟩
  | @cells a b c h h' n cs E ho h0 hc hf ih =>
    intro hK F σ v hA hr
    obtain ⟨h1, h2⟩ := hA.freeze (K := K) ho (.inl ⟨cs, E, rfl, rfl, List.length_pos_iff.2 h0⟩) (hf.keep hK)
    obtain ⟨_, _, x, cl, rel, g1, g2, _⟩ := hA.obj n _ ho
    have hr' := hc _ σ v (upd_same F n cs.length) ⟨x, cl, rel, g1, g2.ext h2⟩ (hr.ext h2)
    obtain ⟨F', q1, q2, q3⟩ := ih hK h1 hr'
    exact ⟨F', h2.trans q1, q2, q3⟩

/-- A function's contract, out of its body's. -/
theorem ACall.func {T : Nat → Option CFun} {K : Nat → Prop} {f : Nat} {cf : CFun} {args : List AV} {h : AH} {Q : AV → AH → Prop} (hf : T f = some cf)
    (hw : KOk K h → W T K cf.body (initA args) h fun e fr h' => (e = .normal ∨ e = .ret) ∧ ∃ as, resA fr h' cf.res = some as ∧ ∃ a h'', Frz (resVA as) h' a h'' ∧ KOk K h'' ∧ Q a h'') : ACall T K (.func f) args h Q := by
  intro F σ argsC hA hK hl
  refine CallA.func hf ((hw hK F σ _ hA hK (init_rp hl)).mono CallA.mono fun e frC σ' ⟨F1, fr1, h1, g1, g2, g3, g4, g5, as, g6, a, h2, g7, g8, g9⟩ => ⟨g5, ?_⟩)
  obtain ⟨vs, q1, q2⟩ := resA_rp g2 g4 g6
  obtain ⟨F2, r1, r2, r3⟩ := g7.ok (K := K) g8 g2 (resV_rp q2)
  exact ⟨vs, q1, F2, a, h2, g1.trans r1, r2, g8, r3, g9⟩

end Go.Cn
