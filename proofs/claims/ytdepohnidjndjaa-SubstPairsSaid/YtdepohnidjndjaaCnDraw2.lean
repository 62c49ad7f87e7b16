/- Regions that draw their order: what holds between two operations. -/
import Derived.Test.YtdepohnidjndjaaCnDraw1
namespace Go.Cn
set_option linter.unusedVariables false
set_option linter.unusedSimpArgs false

section
variable {P : Program} {C : CallR} {n : Nat} {ds : List Deferred} {ops : Array Oper} {l : List Item}

theorem hasDst_iff {t : Tmp} {s : CStep} : hasDst t s = true ↔ s.dst = some t := by
  unfold hasDst
  cases s.dst with
  | none => simp
  | some d =>
    show Nat.beq d t = true ↔ _
    rw [Nat.beq_eq]
    exact ⟨fun h => by rw [h], fun h => by cases h; rfl⟩

structure OkP (x y : Item) : Prop where
  ne : x.i ≠ y.i
  dst : ∀ t, x.s.dst = some t → hasDst t y.s = false
  eff : x.eff = true → bit y.anc x.i = true
  fore : ∀ t ∈ tmpsOf x.s x.o, hasDst t y.s = true → y.eff = true ∧ bit y.anc x.i = true
  back : ∀ t ∈ tmpsOf y.s y.o, hasDst t x.s = true → bit y.anc x.i = true

theorem okPair_ok {x y : Item} (h : okPair x y = true) : OkP x y := by
  simp only [okPair, Bool.and_eq_true, List.all_eq_true, Bool.or_eq_true, Bool.not_eq_true'] at h
  obtain ⟨⟨⟨⟨h1, h2⟩, h3⟩, h4⟩, h5⟩ := h
  refine ⟨fun e => by rw [e] at h1; simp at h1, fun t ht => ?_, fun he => ?_, fun t ht hd => ?_, fun t ht hd => ?_⟩
  · rw [ht] at h2; simpa using h2
  · rcases h3 with h | h
    · rw [he] at h; cases h
    · exact h
  · rcases h4 t ht with h | h
    · rw [hd] at h; cases h
    · exact h
  · rcases h5 t ht with h | h
    · rw [hd] at h; cases h
    · exact h

structure OkO (x : Item) : Prop where
  self : x.eff = false → ∀ t ∈ tmpsOf x.s x.o, hasDst t x.s = false
  dst : ∀ q, x.s.op = .p q → x.s.dst = none → reads q = false

theorem okOne_ok {x : Item} (h : okOne x = true) : OkO x := by
  simp only [okOne, Bool.and_eq_true, List.all_eq_true, Bool.or_eq_true, Bool.not_eq_true'] at h
  obtain ⟨h1, h2⟩ := h
  refine ⟨fun he t ht => ?_, fun q hq hd => ?_⟩
  · rcases h1 with h | h
    · rw [he] at h; cases h
    · exact h t ht
  · rw [hq, hd] at h2; simpa using h2

theorem okOrd_ok : ∀ {ord : List Item}, okOrd ord = true → ord.Pairwise OkP ∧ ∀ x ∈ ord, OkO x
  | [], _ => ⟨.nil, by simp⟩
  | x :: ord, h => by
    simp only [okOrd, Bool.and_eq_true, List.all_eq_true] at h
    obtain ⟨⟨h1, h2⟩, h3⟩ := h
    obtain ⟨h4, h5⟩ := okOrd_ok h3
    refine ⟨.cons (fun y hy => okPair_ok (h2 y hy)) h4, fun y hy => ?_⟩
    rcases List.mem_cons.1 hy with rfl | hy
    · exact okOne_ok h1
    · exact h5 y hy

structure ItemOk (P : Program) (n : Nat) (ops : Array Oper) (l : List Item) (x : Item) : Prop where
  op : ops[x.i]? = some x.o
  st : stepOf P n ops x.o = some x.s
  eff : x.eff = false → isEC x.s.op = false
  lt : ∀ e ∈ x.o.after, Region.binds .any e = true → e.on < x.i
  anc : ∀ j, bit x.anc j = true → ∃ e ∈ x.o.after, Region.binds .any e = true ∧ (e.on = j ∨ ∃ y ∈ l, y.i = e.on ∧ bit y.anc j = true)

structure ItemsOk (P : Program) (n : Nat) (ops : Array Oper) (l : List Item) : Prop where
  ok : ∀ x ∈ l, ItemOk P n ops l x
  all : ∀ i, i < ops.size → ∃ x ∈ l, x.i = i
  uni : ∀ x ∈ l, ∀ y ∈ l, x.i = y.i → x = y

def isA : COp → Bool
  | .a _ => true
  | _ => false

/-- what is known of an operation that the canonical machine has made, the model not yet -/
def PF (β : Ren) (σ : CW) (lo : Nat) (pos : Nat → Nat) (fr : Fr) (x : Item) : Prop :=
  (wants fr x.s.guard = false ∧ ∀ t, x.s.dst = some t → fr t = cundef) ∨
  (wants fr x.s.guard = true ∧ ∃ (ρ : Operand → Value) (v : Value), (∀ z ∈ x.o.op.operands, ρ z = ev fr z) ∧ (∀ t, x.s.dst = some t → fr t = v) ∧
    ((∃ q, x.s.op = .p q ∧ pev q ρ σ = some v) ∨
     (∃ q obj, x.s.op = .a q ∧ aev q ρ (pos x.i) = some (obj, v) ∧ β (pos x.i) = none ∧ lo ≤ pos x.i ∧ pos x.i < σ.next ∧ (σ.heap (pos x.i) = some obj ∨ σ.heap (pos x.i) = some .dead))))

structure Inv (P : Program) (n : Nat) (ds : List Deferred) (l : List Item) (β0 : Ren) (σ0 : CW) (w0 : World) (done : List Item) (D : Nat → Prop) (pos : Nat → Nat) (β : Ren) (fr : Fr) (σ : CW) (a : Act) (w : World) : Prop where
  stp : Stp P β0 σ0 w0 β σ w
  size : n ≤ a.tmps.size
  defers : a.defers = ds
  mem : ∀ x ∈ done, x ∈ l
  down : ∀ x ∈ l, D x.i → ∀ j, bit x.anc j = true → D j
  sub : ∀ x ∈ l, D x.i → x ∈ done
  eff : ∀ x ∈ done, x.eff = true → D x.i
  rel : ∀ t, VRel P β (fr t) (a.tmps.getD t undef) ∨ ∃ x ∈ done, ¬ D x.i ∧ hasDst t x.s = true
  pend : ∀ x ∈ done, ¬ D x.i → PF β σ σ0.next pos fr x
  inj : ∀ x ∈ done, ∀ y ∈ done, ¬ D x.i → ¬ D y.i → isA x.s.op = true → isA y.s.op = true → wants fr x.s.guard = true → wants fr y.s.guard = true → pos x.i = pos y.i → x.i = y.i

theorem putT_ne {fr : Fr} {s : CStep} {t : Tmp} {v : Value} (h : hasDst t s = false) : putT fr s.dst v t = fr t := by
  unfold hasDst at h
  cases e : s.dst with
  | none => rfl
  | some d =>
    rw [e] at h
    refine upd_ne _ _ fun h' => ?_
    subst h'
    simp at h

theorem ev_agree {fr fr' : Fr} {s : CStep} {o : Oper} (h : ∀ t ∈ tmpsOf s o, fr' t = fr t) : ∀ z ∈ o.op.operands, ev fr' z = ev fr z := by
  intro z hz
  cases z with
  | tmp t =>
    refine h t ?_
    simp only [tmpsOf, List.mem_append, List.mem_filterMap]
    exact .inl ⟨.tmp t, by simpa using hz, rfl⟩
  | _ => rfl

theorem wants_agree {fr fr' : Fr} {s : CStep} {o : Oper} (h : ∀ t ∈ tmpsOf s o, fr' t = fr t) : wants fr' s.guard = wants fr s.guard := by
  cases e : s.guard with
  | none => rfl
  | some g =>
    obtain ⟨t, b⟩ := g
    have : fr' t = fr t := h t (by simp [tmpsOf, e])
    simp [wants, this]

/-- what a step that is not wanted, or is, writes -/
theorem step_fr {s : CStep} {fr fr' : Fr} {σ σ' : CW} (hr : StepR C s fr σ fr' σ') {t : Tmp} (h : hasDst t s = false) : fr' t = fr t := by
  rcases hr with ⟨_, v, _, rfl⟩ | ⟨_, rfl, _⟩ <;> exact putT_ne h

theorem PF.ahead {β : Ren} {σ σ' : CW} {lo : Nat} {pos pos' : Nat → Nat} {fr fr' : Fr} {y : Item} (hi : CInv σ) (h : PF β σ lo pos fr y) (hfr : ∀ t ∈ tmpsOf y.s y.o, fr' t = fr t) (hd : ∀ t, y.s.dst = some t → fr' t = fr t)
    (hpos : pos' y.i = pos y.i) (hσ : σ' = σ ∨ ∃ o, σ' = σ.add o) : PF β σ' lo pos' fr' y := by
  rcases h with ⟨h1, h2⟩ | ⟨h1, ρ, v, h2, h3, h4⟩
  · exact .inl ⟨by rw [wants_agree hfr]; exact h1, fun t ht => by rw [hd t ht]; exact h2 t ht⟩
  · refine .inr ⟨by rw [wants_agree hfr]; exact h1, ρ, v, fun z hz => (h2 z hz).trans (ev_agree hfr z hz).symm, fun t ht => by rw [hd t ht]; exact h3 t ht, ?_⟩
    rcases h4 with ⟨q, g1, g2⟩ | ⟨q, obj, g1, g2, g3, g4, g5, g6⟩
    · refine .inl ⟨q, g1, ?_⟩
      rcases hσ with rfl | ⟨o, rfl⟩
      · exact g2
      · exact pev_add hi g2
    · refine .inr ⟨q, obj, g1, by rw [hpos]; exact g2, by rw [hpos]; exact g3, by rw [hpos]; exact g4, ?_, ?_⟩
      · rw [hpos]
        rcases hσ with rfl | ⟨o, rfl⟩
        · exact g5
        · exact Nat.lt_succ_of_lt g5
      · rw [hpos]
        rcases hσ with rfl | ⟨o, rfl⟩
        · exact g6
        · rcases g6 with g6 | g6
          · exact .inl (add_old hi g6)
          · exact .inr (add_old hi g6)

variable {β0 β : Ren} {σ0 σ σ' : CW} {w0 w : World} {done : List Item} {D : Nat → Prop} {pos : Nat → Nat} {fr fr' : Fr} {a : Act}

/-- The canonical machine goes on, the model does not. -/
theorem Inv.ahead (hI : ItemsOk P n ops l) (h : Inv P n ds l β0 σ0 w0 done D pos β fr σ a w) {x : Item} (hx : x ∈ l) (hp : ∀ y ∈ done, OkP y x) (ho : OkO x) (he : x.eff = false) (hr : StepR C x.s fr σ fr' σ') :
    ∃ pos', Inv P n ds l β0 σ0 w0 (done ++ [x]) D pos' β fr' σ' a w := by
  have hxD : ¬ D x.i := fun hd => (hp x (h.sub x hx hd)).ne rfl
  have hinv := h.stp.rel.inv
  have hy1 : ∀ y ∈ done, ∀ t ∈ tmpsOf y.s y.o, fr' t = fr t := by
    intro y hy t ht
    refine step_fr hr ?_
    cases e : hasDst t x.s with
    | false => rfl
    | true => have := ((hp y hy).fore t ht e).1; rw [he] at this; cases this
  have hy2 : ∀ y ∈ done, ∀ t, y.s.dst = some t → fr' t = fr t := fun y hy t ht => step_fr hr ((hp y hy).dst t ht)
  have hx1 : ∀ t ∈ tmpsOf x.s x.o, fr' t = fr t := fun t ht => step_fr hr (ho.self he t ht)
  -- what it comes to
  have key : ∃ pos', (∀ y ∈ done, pos' y.i = pos y.i) ∧ PF β σ' σ0.next pos' fr' x ∧ (σ' = σ ∨ ∃ o, σ' = σ.add o) ∧ Stp P β0 σ0 w0 β σ' w ∧ (isA x.s.op = true → wants fr' x.s.guard = true → pos' x.i = σ.next) := by
    rcases hr with ⟨h1, v, h2, h3⟩ | ⟨h1, h3, h4⟩
    · have hec := (hI.ok x hx).eff he
      have hw : wants fr' x.s.guard = true := by rw [wants_agree hx1]; exact h1
      have hdst : ∀ t, x.s.dst = some t → fr' t = v := by
        intro t ht; rw [h3, ht]; exact upd_same _ _ _
      cases eop : x.s.op with
      | p q =>
        rw [eop] at h2
        obtain ⟨h2, rfl⟩ := h2
        exact ⟨pos, fun _ _ => rfl, .inr ⟨hw, ev fr, v, fun z hz => (ev_agree hx1 z hz).symm, hdst, .inl ⟨q, eop, h2⟩⟩, .inl rfl, h.stp, fun e => by cases e⟩
      | a q =>
        rw [eop] at h2
        obtain ⟨obj, h2, rfl⟩ := h2
        have hf := aev_freshO h2
        refine ⟨upd pos x.i σ.next, fun y hy => upd_ne _ _ (hp y hy).ne, .inr ⟨hw, ev fr, v, fun z hz => (ev_agree hx1 z hz).symm, hdst, .inr ⟨q, obj, eop, by rw [upd_same]; exact h2, ?_, ?_, ?_, ?_⟩⟩, .inr ⟨obj, rfl⟩, h.stp.ahead hf (aev_noIter h2), fun _ _ => upd_same _ _ _⟩
        · rw [upd_same]
          cases e : β σ.next with
          | none => rfl
          | some i => have := (h.stp.rel.lt _ _ e).1; omega
        · rw [upd_same]; exact h.stp.next
        · rw [upd_same]; exact Nat.lt_succ_self _
        · rw [upd_same]; exact .inl (by rw [add_heap, if_pos rfl])
      | e q => rw [eop] at hec; cases hec
      | no => rw [eop] at hec; cases hec
    · subst h4
      have hw : wants fr' x.s.guard = false := by rw [wants_agree hx1]; exact h1
      exact ⟨pos, fun _ _ => rfl, .inl ⟨hw, fun t ht => by rw [h3, ht]; exact upd_same _ _ _⟩, .inl rfl, h.stp, fun _ e => by rw [hw] at e; cases e⟩
  obtain ⟨pos', k1, k2, k3, k4, k5⟩ := key
  refine ⟨pos', ⟨k4, h.size, h.defers, ?_, h.down, ?_, ?_, ?_, ?_, ?_⟩⟩
  · intro y hy
    rcases List.mem_append.1 hy with hy | hy
    · exact h.mem y hy
    · simp at hy; subst hy; exact hx
  · exact fun y hy hd => List.mem_append.2 (.inl (h.sub y hy hd))
  · intro y hy hye
    rcases List.mem_append.1 hy with hy | hy
    · exact h.eff y hy hye
    · simp at hy; subst hy; rw [he] at hye; cases hye
  · intro t
    cases e : hasDst t x.s with
    | true => exact .inr ⟨x, by simp, hxD, e⟩
    | false =>
      rw [step_fr hr e]
      rcases h.rel t with h1 | ⟨y, h1, h2, h3⟩
      · exact .inl h1
      · exact .inr ⟨y, by simp [h1], h2, h3⟩
  · intro y hy hd
    rcases List.mem_append.1 hy with hy | hy
    · exact (h.pend y hy hd).ahead hinv (hy1 y hy) (hy2 y hy) (k1 y hy) k3
    · simp at hy; subst hy; exact k2
  · intro y hy z hz dy dz ay az wy wz hpz
    have old : ∀ y ∈ done, ¬ D y.i → isA y.s.op = true → wants fr' y.s.guard = true → pos' y.i < σ.next := by
      intro y hy dy ay wy
      rw [wants_agree (hy1 y hy)] at wy
      rcases h.pend y hy dy with ⟨g, _⟩ | ⟨_, ρ, v, _, _, g⟩
      · rw [g] at wy; cases wy
      · rcases g with ⟨q, g, _⟩ | ⟨q, obj, _, _, _, _, g, _⟩
        · rw [g] at ay; cases ay
        · rw [k1 y hy]; exact g
    rcases List.mem_append.1 hy with hy1' | hy1'
    · rcases List.mem_append.1 hz with hz1' | hz1'
      · refine h.inj y hy1' z hz1' dy dz ay az ?_ ?_ ?_
        · rw [wants_agree (hy1 y hy1')] at wy; exact wy
        · rw [wants_agree (hy1 z hz1')] at wz; exact wz
        · rw [k1 y hy1', k1 z hz1'] at hpz; exact hpz
      · have ez : z = x := by simpa using hz1'
        have := old y hy1' dy ay wy
        rw [hpz, ez, k5 (ez ▸ az) (ez ▸ wz)] at this; omega
    · have ey : y = x := by simpa using hy1'
      rcases List.mem_append.1 hz with hz1' | hz1'
      · have := old z hz1' dz az wz
        rw [← hpz, ey, k5 (ey ▸ ay) (ey ▸ wy)] at this; omega
      · have ez : z = x := by simpa using hz1'
        rw [ey, ez]

theorem Inv.aheads (hI : ItemsOk P n ops l) : ∀ {xs done : List Item} {pos : Nat → Nat} {fr fr' : Fr} {σ σ' : CW}, (∀ x ∈ xs, x ∈ l ∧ x.eff = false ∧ OkO x) → (done ++ xs).Pairwise OkP → Inv P n ds l β0 σ0 w0 done D pos β fr σ a w →
    StepsR C (xs.map (·.s)) fr σ fr' σ' → ∃ pos', Inv P n ds l β0 σ0 w0 (done ++ xs) D pos' β fr' σ' a w
  | [], done, pos, fr, fr', σ, σ', hx, hp, h, hr => by
    cases hr
    exact ⟨pos, by simpa using h⟩
  | x :: xs, done, pos, fr, fr', σ, σ', hx, hp, h, hr => by
    cases hr with
    | cons h1 ht =>
      obtain ⟨g1, g2, g3⟩ := hx x (by simp)
      obtain ⟨pos1, k⟩ := h.ahead hI g1 (fun y hy => (List.pairwise_append.1 hp).2.2 y hy x (by simp)) g3 g2 h1
      have e : done ++ x :: xs = (done ++ [x]) ++ xs := by simp
      rw [e] at hp ⊢
      exact aheads hI (fun y hy => hx y (by simp [hy])) hp k ht
end
end Go.Cn
