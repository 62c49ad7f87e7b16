/- Regions that draw their order: objects that are made late, readings ahead. -/
import Derived.Test.YtfagmflapdgcmaaDoorCnSimCall
namespace Go.Cn
set_option linter.unusedVariables false
set_option linter.unusedSimpArgs false

section
variable {P : Program} {β β0 : Ren} {σ σ0 : CW} {w w0 w' : World}

theorem add_old {σ : CW} (hi : CInv σ) {o : CObj} {n : Nat} {x : CObj} (h : σ.heap n = some x) : (σ.add o).heap n = some x := by
  rw [add_heap, if_neg]
  · exact h
  · intro e; subst e; rw [hi.fresh _ (Nat.le_refl _)] at h; cases h

theorem Rel.add (h : Rel P β σ w) {o : CObj} (hf : FreshO σ o) (hno : isIter o = false) : Rel P β (σ.add o) w where
  inv := h.inv.add hf
  wr := h.wr
  lt := fun b i hb => ⟨Nat.lt_succ_of_lt (h.lt b i hb).1, (h.lt b i hb).2⟩
  obj := by
    intro b i x hb hx
    rw [add_heap, if_neg (Nat.ne_of_lt (h.lt b i hb).1)] at hx
    exact h.obj b i x hb hx
  alias := by
    intro b1 b2 i1 i2 hne h1 h2 hB
    have := h.alias b1 b2 i1 i2 hne h1 h2 hB
    unfold AliasOk at this ⊢
    rw [add_heap, add_heap, if_neg (Nat.ne_of_lt (h.lt b1 i1 h1).1), if_neg (Nat.ne_of_lt (h.lt b2 i2 h2).1)]
    exact this
  here := by
    intro b i hb
    obtain ⟨o', ho⟩ := h.here b i hb
    exact ⟨o', add_old h.inv ho⟩
  iters := h.iters.keep (.refl _) (Nat.le_succ _) (fun _ _ h => .inl h) (fun b i o hb ho _ => by rw [add_heap, if_neg (Nat.ne_of_lt (h.lt b i hb).1)] at ho; exact ho) (fun _ _ _ _ h _ => h)

theorem Stp.ahead (h : Stp P β0 σ0 w0 β σ w) {o : CObj} (hf : FreshO σ o) (hno : isIter o = false) : Stp P β0 σ0 w0 β (σ.add o) w where
  le := h.le
  new := h.new
  next := Nat.le_succ_of_le h.next
  ro := h.ro
  inj := h.inj
  cfr := by
    intro b hb hn
    rw [add_heap, if_neg (Nat.ne_of_lt (Nat.lt_of_lt_of_le hb h.next))]
    exact h.cfr b hb hn
  size := h.size
  afr := h.afr
  os := h.os
  out := h.out
  tape := h.tape
  rel := h.rel.add hf hno

theorem le_upd_none {b : Nat} (hb : β b = none) (i : BI) : Le β (upd β b (some i)) := by
  intro c j hc
  rw [upd_ne]
  · exact hc
  · intro e; subst e; rw [hb] at hc; cases hc

theorem Rel.late (h : Rel P β σ w) {b : Nat} {o' : Obj} {i : BI} (hb : β b = none) (hlt : b < σ.next) (hB : i.B = w.heap.size) (hw : w'.heap = w.heap.push o')
    (hh : ∃ o, σ.heap b = some o ∧ isIter o = false ∧ ObjRel P (upd β b (some i)) i o (some o')) (hwr : i.wr = true) : Rel P (upd β b (some i)) σ w' where
  inv := h.inv
  wr := h.wr_upd hwr b hb
  lt := by
    intro c j hc
    by_cases e : c = b
    · subst e; rw [upd_same] at hc; cases hc; exact ⟨hlt, by rw [hw, hB]; simp⟩
    · rw [upd_ne _ _ e] at hc
      exact ⟨(h.lt c j hc).1, by rw [hw]; simp; exact Nat.lt_succ_of_lt (h.lt c j hc).2⟩
  obj := by
    intro c j x hc hx
    by_cases e : c = b
    · subst e; rw [upd_same] at hc; cases hc
      obtain ⟨o, h1, _, h2⟩ := hh
      rw [h1] at hx; cases hx
      rw [hB, push_new hw]; exact h2
    · rw [upd_ne _ _ e] at hc
      rw [push_get hw (h.lt c j hc).2]
      exact (h.obj c j x hc hx).mono (le_upd_none hb i)
  alias := by
    intro b1 b2 i1 i2 hne h1 h2 hBB
    by_cases e1 : b1 = b
    · subst e1
      rw [upd_same] at h1; cases h1
      rw [upd_ne _ _ (Ne.symm hne)] at h2
      have := (h.lt b2 i2 h2).2
      omega
    · rw [upd_ne _ _ e1] at h1
      by_cases e2 : b2 = b
      · subst e2
        rw [upd_same] at h2; cases h2
        have := (h.lt b1 i1 h1).2
        omega
      · rw [upd_ne _ _ e2] at h2
        exact h.alias b1 b2 i1 i2 hne h1 h2 hBB
  here := by
    intro c j hc
    by_cases e : c = b
    · subst e; obtain ⟨o, h1, _⟩ := hh; exact ⟨o, h1⟩
    · rw [upd_ne _ _ e] at hc; exact h.here c j hc
  iters := by
    refine h.iters.keep (le_upd_none hb i) (Nat.le_refl _) (fun c j hc => ?_) (fun _ _ _ _ h _ => h) fun c j o hc ho _ => by rw [push_get hw (h.lt c j hc).2]; exact ho
    by_cases e : c = b
    · subst e
      obtain ⟨o, h1, h2, _⟩ := hh
      exact .inr fun o' ho => by rw [h1] at ho; cases ho; exact h2
    · rw [upd_ne _ _ e] at hc; exact .inl hc

theorem Stp.late (h : Stp P β0 σ0 w0 β σ w) {b : Nat} {o' : Obj} {i : BI} (hb : β b = none) (hlo : σ0.next ≤ b) (hlt : b < σ.next) (hB : i.B = w.heap.size) (hw : w'.heap = w.heap.push o')
    (hos : w'.os = w.os) (hout : w'.output = w.output) (htape : w'.tape = w.tape)
    (hh : ∃ o, σ.heap b = some o ∧ isIter o = false ∧ ObjRel P (upd β b (some i)) i o (some o')) (hwr : i.wr = true) : Stp P β0 σ0 w0 (upd β b (some i)) σ w' where
  le := h.le.trans (le_upd_none hb i)
  new := by
    intro c j hc
    by_cases e : c = b
    · subst e; rw [upd_same] at hc; cases hc
      exact .inr ⟨hlo, .inr (by rw [hB]; exact h.size)⟩
    · rw [upd_ne _ _ e] at hc; exact h.new c j hc
  next := h.next
  ro := h.ro
  inj := h.inj
  cfr := h.cfr
  size := by rw [hw]; simp; exact Nat.le_succ_of_le h.size
  afr := by
    intro B hB' hne
    rw [push_get hw (Nat.lt_of_lt_of_le hB' h.size)]
    exact h.afr B hB' hne
  os := hos.trans h.os
  out := hout.trans h.out
  tape := htape.trans h.tape
  rel := h.rel.late hb hlt hB hw hh hwr

theorem row_add {σ : CW} (hi : CInv σ) {o : CObj} {b : Nat} {c : List Value} (h : σ.row b = some c) : (σ.add o).row b = some c := by
  unfold CW.row at h ⊢
  split at h
  · rename_i c' e1 e2 e3 hc; rw [add_old hi hc]; exact h
  · cases h
theorem elemIs_add {σ : CW} (hi : CInv σ) {o : CObj} {b : Nat} {t : TypeId} (h : σ.elemIs b t = true) : (σ.add o).elemIs b t = true := by
  unfold CW.elemIs at h ⊢
  split at h
  · rename_i c' e1 e2 e3 hc; rw [add_old hi hc]; exact h
  · cases h
theorem cell_add {σ : CW} (hi : CInv σ) {o : CObj} {a : Addr} {v : Value} (h : σ.cell a = some v) : (σ.add o).cell a = some v := by
  obtain ⟨hs, c, h1, h2⟩ := cell_some h
  unfold CW.cell; rw [hs, row_add hi h1]; exact h2
theorem cells_add {σ : CW} (hi : CInv σ) {o : CObj} {a : Addr} {n : Nat} {l : List Value} (h : σ.cells a n = some l) : (σ.add o).cells a n = some l := by
  obtain ⟨hs, c, h1, h2⟩ := cells_some h
  unfold CW.cells; rw [hs, row_add hi h1]; exact h2
theorem entry_add {σ : CW} (hi : CInv σ) {o : CObj} {v x : Value} (h : σ.entry v = some x) : (σ.add o).entry v = some x := by
  unfold CW.entry at h ⊢
  split at h
  · split at h
    · rename_i m ver k seen hr
      split at h
      · rename_i es v0 hm
        simp only [add_old hi hr, add_old hi hm]; exact h
      · cases h
    · cases h
  · cases h
theorem entries_add {σ : CW} (hi : CInv σ) {o : CObj} {v : Value} {l : List (Value × Value)} (h : σ.entries v = some l) : (σ.add o).entries v = some l := by
  unfold CW.entries at h ⊢
  split at h
  · exact h
  · split at h
    · rename_i r es ver hc; simp only [add_old hi hc]; exact h
    · cases h
  · cases h
theorem apart_add {σ : CW} (hi : CInv σ) {o : CObj} {u8 : List TypeId} {a b : Nat} (h : σ.apart u8 a b = true) : (σ.add o).apart u8 a b = true := by
  unfold CW.apart at h ⊢
  split at h
  · rename_i q1 q2; rw [add_old hi q1, add_old hi q2]; exact h
  · cases h
theorem eqIface_add {σ : CW} (hi : CInv σ) {o : CObj} {ok u8 : List TypeId} {x y : Value} {r : Bool} (h : eqIface σ ok u8 x y = some r) : eqIface (σ.add o) ok u8 x y = some r := by
  unfold eqIface at h ⊢
  split at h
  · exact h
  · exact h
  · split at h
    · rename_i ht
      split at h
      · rename_i hc
        split at h
        · rename_i hb; rw [if_pos ht, if_pos hc, if_pos hb]; exact h
        · rename_i hb
          split at h
          · rename_i ha; rw [if_pos ht, if_pos hc, if_neg hb, if_pos ⟨apart_add hi ha.1, ha.2⟩]; exact h
          · cases h
      · cases h
    · rename_i ht; rw [if_neg ht]; exact h
  · cases h

/-- a reading gives what it gave, where there is one object more -/
theorem pev_add {σ : CW} (hi : CInv σ) {o : CObj} {q : POp} {ρ : Operand → Value} {v : Value} (h : pev q ρ σ = some v) : pev q ρ (σ.add o) = some v := by
  cases q
  case b2s x =>
    simp only [pev] at h ⊢
    split at h
    · exact h
    · split at h
      · rename_i c hc; simp only [cells_add hi hc]; exact h
      · cases h
    · cases h
  case slV elem sz x lo hi' mx =>
    simp only [pev] at h ⊢
    split at h <;> try (cases h; done)
    rename_i q0
    split at h <;> try (cases h; done)
    rename_i q1
    split at h <;> try (cases h; done)
    rename_i q2
    split at h <;> try (cases h; done)
    rename_i q3
    split at h
    · exact h
    · split at h
      · rename_i hc; rw [if_pos ⟨hc.1, elemIs_add hi hc.2⟩]; exact h
      · cases h
  case lookup str zero ok m k =>
    simp only [pev] at h ⊢
    split at h
    · rename_i es he; simp only [entries_add hi he]; exact h
    · cases h
  case lenM x =>
    simp only [pev] at h ⊢
    split at h
    · rename_i es he; simp only [entries_add hi he]; exact h
    · cases h
  case ld1 x =>
    simp only [pev] at h ⊢
    split at h
    · exact cell_add hi h
    · cases h
  case ldN n x =>
    simp only [pev] at h ⊢
    split at h
    · split at h
      · rename_i l hl; simp only [cells_add hi hl]; exact h
      · cases h
    · cases h
  case eqI neg ok u8 x y =>
    simp only [pev] at h ⊢
    split at h
    · rename_i r hr; simp only [eqIface_add hi hr]; exact h
    · cases h
  case entry x => simp only [pev] at h ⊢; exact entry_add hi h
  all_goals exact h

theorem pev_still {q : POp} (hr : reads q = false) (ρ : Operand → Value) (σ σ' : CW) : pev q ρ σ = pev q ρ σ' := by
  cases q <;> first | rfl | cases hr

end
end Go.Cn

namespace Go.Cn
set_option linter.unusedVariables false
set_option linter.unusedSimpArgs false

section
variable {P : Program} {C : CallR} {n : Nat} {ds : List Deferred} {ops : Array Oper} {l : List Item}

theorem hasDst_iff {t : Tmp} {s : CStep} : hasDst t s = true ↔ s.dst = some t := by
  unfold hasDst
  cases s.dst with
  | none => simp
  | some d =>
    show Nat.beq d t = true ↔ _
    rw [Nat.beq_eq]
    exact ⟨fun h => by rw [h], fun h => by cases h; rfl⟩

structure OkP (x y : Item) : Prop where
  ne : x.i ≠ y.i
  dst : ∀ t, x.s.dst = some t → hasDst t y.s = false
  eff : x.eff = true → bit y.anc x.i = true
  fore : ∀ t ∈ tmpsOf x.s x.o, hasDst t y.s = true → y.eff = true ∧ bit y.anc x.i = true
  back : ∀ t ∈ tmpsOf y.s y.o, hasDst t x.s = true → bit y.anc x.i = true

theorem okPair_ok {x y : Item} (h : okPair x y = true) : OkP x y := by
  simp only [okPair, Bool.and_eq_true, List.all_eq_true, Bool.or_eq_true, Bool.not_eq_true'] at h
  obtain ⟨⟨⟨⟨h1, h2⟩, h3⟩, h4⟩, h5⟩ := h
  refine ⟨fun e => by rw [e] at h1; simp at h1, fun t ht => ?_, fun he => ?_, fun t ht hd => ?_, fun t ht hd => ?_⟩
  · rw [ht] at h2; simpa using h2
  · rcases h3 with h | h
    · rw [he] at h; cases h
    · exact h
  · rcases h4 t ht with h | h
    · rw [hd] at h; cases h
    · exact h
  · rcases h5 t ht with h | h
    · rw [hd] at h; cases h
    · exact h

structure OkO (x : Item) : Prop where
  self : x.eff = false → ∀ t ∈ tmpsOf x.s x.o, hasDst t x.s = false
  dst : ∀ q, x.s.op = .p q → x.s.dst = none → reads q = false

theorem okOne_ok {x : Item} (h : okOne x = true) : OkO x := by
  simp only [okOne, Bool.and_eq_true, List.all_eq_true, Bool.or_eq_true, Bool.not_eq_true'] at h
  obtain ⟨h1, h2⟩ := h
  refine ⟨fun he t ht => ?_, fun q hq hd => ?_⟩
  · rcases h1 with h | h
    · rw [he] at h; cases h
    · exact h t ht
  · rw [hq, hd] at h2; simpa using h2

theorem okOrd_ok : ∀ {ord : List Item}, okOrd ord = true → ord.Pairwise OkP ∧ ∀ x ∈ ord, OkO x
  | [], _ => ⟨.nil, by simp⟩
  | x :: ord, h => by
    simp only [okOrd, Bool.and_eq_true, List.all_eq_true] at h
    obtain ⟨⟨h1, h2⟩, h3⟩ := h
    obtain ⟨h4, h5⟩ := okOrd_ok h3
    refine ⟨.cons (fun y hy => okPair_ok (h2 y hy)) h4, fun y hy => ?_⟩
    rcases List.mem_cons.1 hy with rfl | hy
    · exact okOne_ok h1
    · exact h5 y hy

structure ItemOk (P : Program) (n : Nat) (ops : Array Oper) (l : List Item) (x : Item) : Prop where
  op : ops[x.i]? = some x.o
  st : stepOf P n ops x.o = some x.s
  eff : x.eff = false → isEC x.s.op = false
  lt : ∀ e ∈ x.o.after, Region.binds .any e = true → e.on < x.i
  anc : ∀ j, bit x.anc j = true → ∃ e ∈ x.o.after, Region.binds .any e = true ∧ (e.on = j ∨ ∃ y ∈ l, y.i = e.on ∧ bit y.anc j = true)

structure ItemsOk (P : Program) (n : Nat) (ops : Array Oper) (l : List Item) : Prop where
  ok : ∀ x ∈ l, ItemOk P n ops l x
  all : ∀ i, i < ops.size → ∃ x ∈ l, x.i = i
  uni : ∀ x ∈ l, ∀ y ∈ l, x.i = y.i → x = y

def isA : COp → Bool
  | .a _ => true
  | _ => false

/-- what is known of an operation that the canonical machine has made, the model not yet -/
def PF (β : Ren) (σ : CW) (lo : Nat) (pos : Nat → Nat) (fr : Fr) (x : Item) : Prop :=
  (wants fr x.s.guard = false ∧ ∀ t, x.s.dst = some t → fr t = cundef) ∨
  (wants fr x.s.guard = true ∧ ∃ (ρ : Operand → Value) (v : Value), (∀ z ∈ x.o.op.operands, ρ z = ev fr z) ∧ (∀ t, x.s.dst = some t → fr t = v) ∧
    ((∃ q, x.s.op = .p q ∧ pev q ρ σ = some v) ∨
     (∃ q obj, x.s.op = .a q ∧ aev q ρ (pos x.i) = some (obj, v) ∧ β (pos x.i) = none ∧ lo ≤ pos x.i ∧ pos x.i < σ.next ∧ (σ.heap (pos x.i) = some obj ∨ σ.heap (pos x.i) = some .dead))))

structure Inv (P : Program) (n : Nat) (ds : List Deferred) (l : List Item) (β0 : Ren) (σ0 : CW) (w0 : World) (done : List Item) (D : Nat → Prop) (pos : Nat → Nat) (β : Ren) (fr : Fr) (σ : CW) (a : Act) (w : World) : Prop where
  stp : Stp P β0 σ0 w0 β σ w
  size : n ≤ a.tmps.size
  defers : a.defers = ds
  mem : ∀ x ∈ done, x ∈ l
  down : ∀ x ∈ l, D x.i → ∀ j, bit x.anc j = true → D j
  sub : ∀ x ∈ l, D x.i → x ∈ done
  eff : ∀ x ∈ done, x.eff = true → D x.i
  rel : ∀ t, VRel P β (fr t) (a.tmps.getD t undef) ∨ ∃ x ∈ done, ¬ D x.i ∧ hasDst t x.s = true
  pend : ∀ x ∈ done, ¬ D x.i → PF β σ σ0.next pos fr x
  inj : ∀ x ∈ done, ∀ y ∈ done, ¬ D x.i → ¬ D y.i → isA x.s.op = true → isA y.s.op = true → wants fr x.s.guard = true → wants fr y.s.guard = true → pos x.i = pos y.i → x.i = y.i

theorem putT_ne {fr : Fr} {s : CStep} {t : Tmp} {v : Value} (h : hasDst t s = false) : putT fr s.dst v t = fr t := by
  unfold hasDst at h
  cases e : s.dst with
  | none => rfl
  | some d =>
    rw [e] at h
    refine upd_ne _ _ fun h' => ?_
    subst h'
    simp at h

theorem ev_agree {fr fr' : Fr} {s : CStep} {o : Oper} (h : ∀ t ∈ tmpsOf s o, fr' t = fr t) : ∀ z ∈ o.op.operands, ev fr' z = ev fr z := by
  intro z hz
  cases z with
  | tmp t =>
    refine h t ?_
    simp only [tmpsOf, List.mem_append, List.mem_filterMap]
    exact .inl ⟨.tmp t, by simpa using hz, rfl⟩
  | _ => rfl

theorem wants_agree {fr fr' : Fr} {s : CStep} {o : Oper} (h : ∀ t ∈ tmpsOf s o, fr' t = fr t) : wants fr' s.guard = wants fr s.guard := by
  cases e : s.guard with
  | none => rfl
  | some g =>
    obtain ⟨t, b⟩ := g
    have : fr' t = fr t := h t (by simp [tmpsOf, e])
    simp [wants, this]

/-- what a step that is not wanted, or is, writes -/
theorem step_fr {s : CStep} {fr fr' : Fr} {σ σ' : CW} (hr : StepR C s fr σ fr' σ') {t : Tmp} (h : hasDst t s = false) : fr' t = fr t := by
  rcases hr with ⟨_, v, _, rfl⟩ | ⟨_, rfl, _⟩ <;> exact putT_ne h

theorem PF.ahead {β : Ren} {σ σ' : CW} {lo : Nat} {pos pos' : Nat → Nat} {fr fr' : Fr} {y : Item} (hi : CInv σ) (h : PF β σ lo pos fr y) (hfr : ∀ t ∈ tmpsOf y.s y.o, fr' t = fr t) (hd : ∀ t, y.s.dst = some t → fr' t = fr t)
    (hpos : pos' y.i = pos y.i) (hσ : σ' = σ ∨ ∃ o, σ' = σ.add o) : PF β σ' lo pos' fr' y := by
  rcases h with ⟨h1, h2⟩ | ⟨h1, ρ, v, h2, h3, h4⟩
  · exact .inl ⟨by rw [wants_agree hfr]; exact h1, fun t ht => by rw [hd t ht]; exact h2 t ht⟩
  · refine .inr ⟨by rw [wants_agree hfr]; exact h1, ρ, v, fun z hz => (h2 z hz).trans (ev_agree hfr z hz).symm, fun t ht => by rw [hd t ht]; exact h3 t ht, ?_⟩
    rcases h4 with ⟨q, g1, g2⟩ | ⟨q, obj, g1, g2, g3, g4, g5, g6⟩
    · refine .inl ⟨q, g1, ?_⟩
      rcases hσ with rfl | ⟨o, rfl⟩
      · exact g2
      · exact pev_add hi g2
    · refine .inr ⟨q, obj, g1, by rw [hpos]; exact g2, by rw [hpos]; exact g3, by rw [hpos]; exact g4, ?_, ?_⟩
      · rw [hpos]
        rcases hσ with rfl | ⟨o, rfl⟩
        · exact g5
        · exact Nat.lt_succ_of_lt g5
      · rw [hpos]
        rcases hσ with rfl | ⟨o, rfl⟩
        · exact g6
        · rcases g6 with g6 | g6
          · exact .inl (add_old hi g6)
          · exact .inr (add_old hi g6)

variable {β0 β : Ren} {σ0 σ σ' : CW} {w0 w : World} {done : List Item} {D : Nat → Prop} {pos : Nat → Nat} {fr fr' : Fr} {a : Act}

/-- The canonical machine goes on, the model does not. -/
theorem Inv.ahead (hI : ItemsOk P n ops l) (h : Inv P n ds l β0 σ0 w0 done D pos β fr σ a w) {x : Item} (hx : x ∈ l) (hp : ∀ y ∈ done, OkP y x) (ho : OkO x) (he : x.eff = false) (hr : StepR C x.s fr σ fr' σ') :
    ∃ pos', Inv P n ds l β0 σ0 w0 (done ++ [x]) D pos' β fr' σ' a w := by
  have hxD : ¬ D x.i := fun hd => (hp x (h.sub x hx hd)).ne rfl
  have hinv := h.stp.rel.inv
  have hy1 : ∀ y ∈ done, ∀ t ∈ tmpsOf y.s y.o, fr' t = fr t := by
    intro y hy t ht
    refine step_fr hr ?_
    cases e : hasDst t x.s with
    | false => rfl
    | true => have := ((hp y hy).fore t ht e).1; rw [he] at this; cases this
  have hy2 : ∀ y ∈ done, ∀ t, y.s.dst = some t → fr' t = fr t := fun y hy t ht => step_fr hr ((hp y hy).dst t ht)
  have hx1 : ∀ t ∈ tmpsOf x.s x.o, fr' t = fr t := fun t ht => step_fr hr (ho.self he t ht)
  -- what it comes to
  have key : ∃ pos', (∀ y ∈ done, pos' y.i = pos y.i) ∧ PF β σ' σ0.next pos' fr' x ∧ (σ' = σ ∨ ∃ o, σ' = σ.add o) ∧ Stp P β0 σ0 w0 β σ' w ∧ (isA x.s.op = true → wants fr' x.s.guard = true → pos' x.i = σ.next) := by
    rcases hr with ⟨h1, v, h2, h3⟩ | ⟨h1, h3, h4⟩
    · have hec := (hI.ok x hx).eff he
      have hw : wants fr' x.s.guard = true := by rw [wants_agree hx1]; exact h1
      have hdst : ∀ t, x.s.dst = some t → fr' t = v := by
        intro t ht; rw [h3, ht]; exact upd_same _ _ _
      cases eop : x.s.op with
      | p q =>
        rw [eop] at h2
        obtain ⟨h2, rfl⟩ := h2
        exact ⟨pos, fun _ _ => rfl, .inr ⟨hw, ev fr, v, fun z hz => (ev_agree hx1 z hz).symm, hdst, .inl ⟨q, eop, h2⟩⟩, .inl rfl, h.stp, fun e => by cases e⟩
      | a q =>
        rw [eop] at h2
        obtain ⟨obj, h2, rfl⟩ := h2
        have hf := aev_freshO h2
        refine ⟨upd pos x.i σ.next, fun y hy => upd_ne _ _ (hp y hy).ne, .inr ⟨hw, ev fr, v, fun z hz => (ev_agree hx1 z hz).symm, hdst, .inr ⟨q, obj, eop, by rw [upd_same]; exact h2, ?_, ?_, ?_, ?_⟩⟩, .inr ⟨obj, rfl⟩, h.stp.ahead hf (aev_noIter h2), fun _ _ => upd_same _ _ _⟩
        · rw [upd_same]
          cases e : β σ.next with
          | none => rfl
          | some i => have := (h.stp.rel.lt _ _ e).1; omega
        · rw [upd_same]; exact h.stp.next
        · rw [upd_same]; exact Nat.lt_succ_self _
        · rw [upd_same]; exact .inl (by rw [add_heap, if_pos rfl])
      | e q => rw [eop] at hec; cases hec
      | no => rw [eop] at hec; cases hec
    · subst h4
      have hw : wants fr' x.s.guard = false := by rw [wants_agree hx1]; exact h1
      exact ⟨pos, fun _ _ => rfl, .inl ⟨hw, fun t ht => by rw [h3, ht]; exact upd_same _ _ _⟩, .inl rfl, h.stp, fun _ e => by rw [hw] at e; cases e⟩
  obtain ⟨pos', k1, k2, k3, k4, k5⟩ := key
  refine ⟨pos', ⟨k4, h.size, h.defers, ?_, h.down, ?_, ?_, ?_, ?_, ?_⟩⟩
  · intro y hy
    rcases List.mem_append.1 hy with hy | hy
    · exact h.mem y hy
    · simp at hy; subst hy; exact hx
  · exact fun y hy hd => List.mem_append.2 (.inl (h.sub y hy hd))
  · intro y hy hye
    rcases List.mem_append.1 hy with hy | hy
    · exact h.eff y hy hye
    · simp at hy; subst hy; rw [he] at hye; cases hye
  · intro t
    cases e : hasDst t x.s with
    | true => exact .inr ⟨x, by simp, hxD, e⟩
    | false =>
      rw [step_fr hr e]
      rcases h.rel t with h1 | ⟨y, h1, h2, h3⟩
      · exact .inl h1
      · exact .inr ⟨y, by simp [h1], h2, h3⟩
  · intro y hy hd
    rcases List.mem_append.1 hy with hy | hy
    · exact (h.pend y hy hd).ahead hinv (hy1 y hy) (hy2 y hy) (k1 y hy) k3
    · simp at hy; subst hy; exact k2
  · intro y hy z hz dy dz ay az wy wz hpz
    have old : ∀ y ∈ done, ¬ D y.i → isA y.s.op = true → wants fr' y.s.guard = true → pos' y.i < σ.next := by
      intro y hy dy ay wy
      rw [wants_agree (hy1 y hy)] at wy
      rcases h.pend y hy dy with ⟨g, _⟩ | ⟨_, ρ, v, _, _, g⟩
      · rw [g] at wy; cases wy
      · rcases g with ⟨q, g, _⟩ | ⟨q, obj, _, _, _, _, g, _⟩
        · rw [g] at ay; cases ay
        · rw [k1 y hy]; exact g
    rcases List.mem_append.1 hy with hy1' | hy1'
    · rcases List.mem_append.1 hz with hz1' | hz1'
      · refine h.inj y hy1' z hz1' dy dz ay az ?_ ?_ ?_
        · rw [wants_agree (hy1 y hy1')] at wy; exact wy
        · rw [wants_agree (hy1 z hz1')] at wz; exact wz
        · rw [k1 y hy1', k1 z hz1'] at hpz; exact hpz
      · have ez : z = x := by simpa using hz1'
        have := old y hy1' dy ay wy
        rw [hpz, ez, k5 (ez ▸ az) (ez ▸ wz)] at this; omega
    · have ey : y = x := by simpa using hy1'
      rcases List.mem_append.1 hz with hz1' | hz1'
      · have := old z hz1' dz az wz
        rw [← hpz, ey, k5 (ey ▸ ay) (ey ▸ wy)] at this; omega
      · have ez : z = x := by simpa using hz1'
        rw [ey, ez]

theorem Inv.aheads (hI : ItemsOk P n ops l) : ∀ {xs done : List Item} {pos : Nat → Nat} {fr fr' : Fr} {σ σ' : CW}, (∀ x ∈ xs, x ∈ l ∧ x.eff = false ∧ OkO x) → (done ++ xs).Pairwise OkP → Inv P n ds l β0 σ0 w0 done D pos β fr σ a w →
    StepsR C (xs.map (·.s)) fr σ fr' σ' → ∃ pos', Inv P n ds l β0 σ0 w0 (done ++ xs) D pos' β fr' σ' a w
  | [], done, pos, fr, fr', σ, σ', hx, hp, h, hr => by
    cases hr
    exact ⟨pos, by simpa using h⟩
  | x :: xs, done, pos, fr, fr', σ, σ', hx, hp, h, hr => by
    cases hr with
    | cons h1 ht =>
      obtain ⟨g1, g2, g3⟩ := hx x (by simp)
      obtain ⟨pos1, k⟩ := h.ahead hI g1 (fun y hy => (List.pairwise_append.1 hp).2.2 y hy x (by simp)) g3 g2 h1
      have e : done ++ x :: xs = (done ++ [x]) ++ xs := by simp
      rw [e] at hp ⊢
      exact aheads hI (fun y hy => hx y (by simp [hy])) hp k ht
end
end Go.Cn

namespace Go.Cn
set_option linter.unusedVariables false
set_option linter.unusedSimpArgs false

section
variable {P : Program} {C : CallQ} {n : Nat} {r : Option Nat} {ds : List Deferred} {ops : Array Oper} {l : List Item}
variable {β0 β : Ren} {σ0 σ σ' : CW} {w0 w : World} {done : List Item} {D : Nat → Prop} {pos : Nat → Nat} {fr fr' : Fr} {a : Act} {K : Act → World → Prop} {Q : Exit → Act → World → Prop}

/-- what an operation that can be made looks at is there -/
theorem Inv.here (h : Inv P n ds l β0 σ0 w0 done D pos β fr σ a w) (hp : done.Pairwise OkP) {x : Item} (hx : (x ∈ done ∧ OkO x ∧ x.eff = false) ∨ ∀ y ∈ done, OkP y x) (hanc : ∀ j, bit x.anc j = true → D j) :
    ∀ t ∈ tmpsOf x.s x.o, VRel P β (fr t) (a.tmps.getD t undef) := by
  intro t ht
  rcases h.rel t with h1 | ⟨y, h1, h2, h3⟩
  · exact h1
  · exfalso
    rcases hx with ⟨hx, ho, he⟩ | hx
    · -- both stand in the row
      have : y = x ∨ OkP y x ∨ OkP x y := by
        clear h3 h2 h
        induction hp with
        | nil => cases hx
        | @cons z l hz _ ih =>
          rcases List.mem_cons.1 hx with hx1 | hx1
          · rcases List.mem_cons.1 h1 with h11 | h11
            · exact .inl (h11.trans hx1.symm)
            · rw [hx1]; exact .inr (.inr (hz y h11))
          · rcases List.mem_cons.1 h1 with h11 | h11
            · rw [h11]; exact .inr (.inl (hz x hx1))
            · exact ih h11 hx1
      rcases this with rfl | h4 | h4
      · have := ho.self he t ht; rw [h3] at this; cases this
      · exact h2 (hanc _ (h4.back t ht h3))
      · exact h2 (h.eff y h1 (h4.fore t ht h3).1)
    · exact h2 (hanc _ ((hx y h1).back t ht h3))

theorem tmps_ops {s : CStep} {o : Oper} {t : Tmp} (h : Operand.tmp t ∈ o.op.operands) : t ∈ tmpsOf s o := by
  simp only [tmpsOf, List.mem_append, List.mem_filterMap]
  exact .inl ⟨.tmp t, by simpa using h, rfl⟩
theorem tmps_guard {s : CStep} {o : Oper} {t : Tmp} {b : Bool} (h : s.guard = some (t, b)) : t ∈ tmpsOf s o := by simp [tmpsOf, h]

/-- What holds when the model has made an operation that the canonical machine made. -/
theorem Inv.made (hI : ItemsOk P n ops l) (h : Inv P n ds l β0 σ0 w0 done D pos β fr σ a w) {x : Item} (hx : x ∈ done) (hd : ¬ D x.i) (hanc : ∀ j, bit x.anc j = true → D j) (hlt : ∀ t, x.s.dst = some t → t < n)
    {β' : Ren} {w' : World} {v' : Value} (hle : Le β β') (hst : Stp P β0 σ0 w0 β' σ w') (hv : ∀ t, x.s.dst = some t → VRel P β' (fr t) v')
    (hn : ∀ y ∈ done, ¬ D y.i → y.i ≠ x.i → isA y.s.op = true → wants fr y.s.guard = true → β (pos y.i) = none → pos y.i < σ.next → β' (pos y.i) = none) :
    Inv P n ds l β0 σ0 w0 done (fun j => D j ∨ j = x.i) pos β' fr σ (a.put x.s.dst v') w' where
  stp := hst
  size := by cases x.s.dst <;> simp [Act.put, h.size]
  defers := by cases x.s.dst <;> exact h.defers
  mem := h.mem
  down := by
    intro y hy hyd j hj
    rcases hyd with hyd | hyd
    · exact .inl (h.down y hy hyd j hj)
    · have := hI.uni y hy x (h.mem x hx) hyd
      subst this
      exact .inl (hanc j hj)
  sub := by
    intro y hy hyd
    rcases hyd with hyd | hyd
    · exact h.sub y hy hyd
    · have := hI.uni y hy x (h.mem x hx) hyd
      subst this; exact hx
  eff := fun y hy he => .inl (h.eff y hy he)
  rel := by
    intro t
    rw [getD_put (fun t ht => Nat.lt_of_lt_of_le (hlt t ht) h.size)]
    by_cases e : x.s.dst = some t
    · rw [if_pos e]; exact .inl (hv t e)
    · rw [if_neg e]
      rcases h.rel t with h1 | ⟨y, h1, h2, h3⟩
      · exact .inl (h1.mono hle)
      · refine .inr ⟨y, h1, fun h4 => ?_, h3⟩
        rcases h4 with h4 | h4
        · exact h2 h4
        · have := hI.uni y (h.mem y h1) x (h.mem x hx) h4
          subst this
          exact e (hasDst_iff.1 h3)
  pend := by
    intro y hy hyd
    have hyd1 : ¬ D y.i := fun h => hyd (.inl h)
    have hyd2 : y.i ≠ x.i := fun h => hyd (.inr h)
    rcases h.pend y hy hyd1 with g | ⟨g1, ρ, v, g2, g3, g4⟩
    · exact .inl g
    · refine .inr ⟨g1, ρ, v, g2, g3, ?_⟩
      rcases g4 with g4 | ⟨q, obj, k1, k2, k3, k4, k5, k6⟩
      · exact .inl g4
      · exact .inr ⟨q, obj, k1, k2, hn y hy hyd1 hyd2 (by rw [k1]; rfl) g1 k3 k5, k4, k5, k6⟩
  inj := fun y hy z hz dy dz => h.inj y hy z hz (fun h => dy (.inl h)) (fun h => dz (.inl h))

theorem Stp.none {w' : World} {β' : Ren} (h : Stp P β σ w β' σ' w') {b : Nat} (hb : β b = none) (hlt : b < σ.next) : β' b = none := by
  cases e : β' b with
  | none => rfl
  | some i =>
    rcases h.new b i e with h1 | ⟨h1, _⟩
    · rw [hb] at h1; cases h1
    · omega

/-- The model makes what the canonical machine made. -/
theorem Inv.pendStep (hP : ProgOk P) (hC : SimC P C) (hG : GOk P β0) (hr0 : Rel P β0 σ0 w0) (hI : ItemsOk P n ops l) (h : Inv P n ds l β0 σ0 w0 done D pos β fr σ a w) (hp : done.Pairwise OkP) {x : Item} (hx : x ∈ done) (ho : OkO x) (hd : ¬ D x.i)
    (hanc : ∀ j, bit x.anc j = true → D j) (hK : ∀ β' a' w', Inv P n ds l β0 σ0 w0 done (fun j => D j ∨ j = x.i) pos β' fr σ a' w' → K a' w') : wpOpIn (WR r) 0 P ops Q x.i K a w := by
  have hit := hI.ok x (h.mem x hx)
  have hxe : x.eff = false := by
    cases e : x.eff with
    | false => rfl
    | true => exact absurd (h.eff x hx e) hd
  have hhere := h.here hp (.inl ⟨hx, ho, hxe⟩) hanc
  obtain ⟨q, hq, hsq, hsd, hconst, hdst, hgd⟩ := stepOf_some hit.st
  have hlt : ∀ t, x.s.dst = some t → t < n := fun t ht => hdst t (by rw [← hsd]; exact ht)
  have hw := wants_rel (a := a) (fr := fr) (β := β) hit.st (fun t b hg => hhere t (tmps_guard hg))
  have hop : ∀ z ∈ x.o.op.operands, VRel P β (ev fr z) (a.eval z) := fun z hz => ev_rel (hG.mono h.stp.le) (hconst z hz) fun t e => hhere t (tmps_ops (e ▸ hz))
  simp only [wpOpIn, hit.op, hw]
  rcases h.pend x hx hd with ⟨g1, g2⟩ | ⟨g1, ρ, v, g2, g3, g4⟩
  · rw [if_neg (by rw [g1]; simp), ← hsd]
    refine ⟨fun _ _ => trivial, ?_⟩
    exact hK β _ w (h.made hI hx hd hanc hlt (.refl _) h.stp (fun t ht => by rw [g2 t ht]; exact .undef) fun y _ _ _ _ _ g _ => g)
  · rw [if_pos g1]
    have hop' : ∀ z ∈ x.o.op.operands, VRel P β (ρ z) (a.eval z) := fun z hz => by rw [g2 z hz]; exact hop z hz
    rcases g4 with ⟨qp, k1, k2⟩ | ⟨qa, obj, k1, k2, k3, k4, k5, k6⟩
    · refine sim_step (C := C) hP hC (hG.mono h.stp.le) h.stp.rel hq hop' (Qc := fun v' σ' => v' = v ∧ σ' = σ) ?_ fun v1 σ1 β' v' w' hQ hst hv => ?_
      · rw [← hsq, k1]; exact ⟨v, k2, rfl, rfl⟩
      · obtain ⟨rfl, rfl⟩ := hQ
        rw [← hsd]
        exact hK β' _ w' (h.made hI hx hd hanc hlt hst.le (h.stp.trans hst hr0) (fun t ht => by rw [g3 t ht]; exact hv) fun y _ _ _ _ _ g g' => hst.none g g')
    · rw [hsq] at k1
      subst k1
      obtain ⟨v', w', i, o', m1, m2, m3, m4, m5, m6, m7⟩ := sim_makes hq hop' k2 (w := w)
      obtain ⟨m8, m9⟩ := m7 (upd β (pos x.i) (some i)) (le_upd_none k3 i) (upd_same _ _ _)
      unfold Oper.wpIn
      refine ⟨fun _ _ => trivial, ?_⟩
      rw [Oper.semAt_eq _ _ _ (op_noDefer hq), m1]
      simp only [Oper.uponIn]
      rw [← hsd]
      refine hK (upd β (pos x.i) (some i)) _ w' (h.made hI hx hd hanc hlt (le_upd_none k3 i) (h.stp.late k3 k4 k5 m6.1 m2 m3 m4 m5 ?_ m6.2) (fun t ht => by rw [g3 t ht]; exact m8) fun y hy hyd hne ya yw g g' => ?_)
      · rcases k6 with k6 | k6
        · exact ⟨obj, k6, aev_noIter k2, m9⟩
        · exact ⟨.dead, k6, rfl, trivial⟩
      · rw [upd_ne]
        · exact g
        · intro e
          exact hne (h.inj y hy x hx hyd hd ya (by rw [hsq]; rfl) yw g1 e)

/-- What holds behind an effect. -/
theorem Inv.eff' (hr0 : Rel P β0 σ0 w0) (hI : ItemsOk P n ops l) (h : Inv P n ds l β0 σ0 w0 done D pos β fr σ a w) (hone : ∀ y ∈ done, OkO y) {x : Item} (hx : x ∈ l) (hpx : ∀ y ∈ done, OkP y x)
    (hanc : ∀ j, bit x.anc j = true → D j) (hlt : ∀ t, x.s.dst = some t → t < n) (hfr : ∀ t, hasDst t x.s = false → fr' t = fr t) (hag : ∀ g ∈ done.filterMap (againOf x.anc), AgainR fr' σ' g)
    {β' : Ren} {w' : World} {v' : Value} (hst : Stp P β σ w β' σ' w') (hv : ∀ t, x.s.dst = some t → VRel P β' (fr' t) v') :
    Inv P n ds l β0 σ0 w0 (done ++ [x]) (fun j => D j ∨ j = x.i) pos β' fr' σ' (a.put x.s.dst v') w' := by
  -- those that wait do not see it
  have hy1 : ∀ y ∈ done, ¬ D y.i → ∀ t ∈ tmpsOf y.s y.o, fr' t = fr t := by
    intro y hy hyd t ht
    refine hfr t ?_
    cases e : hasDst t x.s with
    | false => rfl
    | true => exact absurd (hanc _ ((hpx y hy).fore t ht e).2) hyd
  have hy2 : ∀ y ∈ done, ∀ t, y.s.dst = some t → fr' t = fr t := fun y hy t ht => hfr t ((hpx y hy).dst t ht)
  refine ⟨h.stp.trans hst hr0, ?_, ?_, ?_, ?_, ?_, ?_, ?_, ?_, ?_⟩
  · cases x.s.dst <;> simp [Act.put, h.size]
  · cases x.s.dst <;> exact h.defers
  · intro y hy
    rcases List.mem_append.1 hy with hy | hy
    · exact h.mem y hy
    · simp at hy; subst hy; exact hx
  · intro y hy hyd j hj
    rcases hyd with hyd | hyd
    · exact .inl (h.down y hy hyd j hj)
    · have := hI.uni y hy x hx hyd
      subst this; exact .inl (hanc j hj)
  · intro y hy hyd
    rcases hyd with hyd | hyd
    · exact List.mem_append.2 (.inl (h.sub y hy hyd))
    · have := hI.uni y hy x hx hyd
      subst this; simp
  · intro y hy hye
    rcases List.mem_append.1 hy with hy | hy
    · exact .inl (h.eff y hy hye)
    · simp at hy; subst hy; exact .inr rfl
  · intro t
    rw [getD_put (fun t ht => Nat.lt_of_lt_of_le (hlt t ht) h.size)]
    by_cases e : x.s.dst = some t
    · rw [if_pos e]; exact .inl (hv t e)
    · rw [if_neg e]
      have e' : hasDst t x.s = false := by
        cases e2 : hasDst t x.s with
        | false => rfl
        | true => exact absurd (hasDst_iff.1 e2) e
      rw [hfr t e']
      rcases h.rel t with h1 | ⟨y, h1, h2, h3⟩
      · exact .inl (h1.mono hst.le)
      · exact .inr ⟨y, by simp [h1], fun h4 => h4.elim h2 (hpx y h1).ne, h3⟩
  · intro y hy hyd
    have hyd1 : ¬ D y.i := fun h => hyd (.inl h)
    rcases List.mem_append.1 hy with hy | hy
    · have w1 := wants_agree (hy1 y hy hyd1)
      have e1 := ev_agree (hy1 y hy hyd1)
      rcases h.pend y hy hyd1 with ⟨g1, g2⟩ | ⟨g1, ρ, v, g2, g3, g4⟩
      · exact .inl ⟨w1.trans g1, fun t ht => (hy2 y hy t ht).trans (g2 t ht)⟩
      · refine .inr ⟨w1.trans g1, ?_⟩
        rcases g4 with ⟨qp, k1, k2⟩ | ⟨qa, obj, k1, k2, k3, k4, k5, k6⟩
        · cases er : reads qp with
          | false => exact ⟨ρ, v, fun z hz => (g2 z hz).trans (e1 z hz).symm, fun t ht => (hy2 y hy t ht).trans (g3 t ht), .inl ⟨qp, k1, by rw [pev_still er ρ σ' σ]; exact k2⟩⟩
          | true =>
            cases ed : y.s.dst with
            | none => have := (hone y hy).dst qp k1 ed; rw [er] at this; cases this
            | some t =>
              have hmem : (⟨t, y.s.guard, qp⟩ : Again) ∈ done.filterMap (againOf x.anc) := by
                refine List.mem_filterMap.2 ⟨y, hy, ?_⟩
                unfold againOf
                rw [k1, ed]
                have hb : bit x.anc y.i = false := by
                  cases e : bit x.anc y.i with
                  | false => rfl
                  | true => exact absurd (hanc _ e) hyd1
                simp [er, hb]
              have := hag _ hmem (w1.trans g1)
              refine ⟨ev fr', fr' t, fun z _ => rfl, fun t' ht' => by cases ht'; rfl, .inl ⟨qp, k1, this⟩⟩
        · refine ⟨ρ, v, fun z hz => (g2 z hz).trans (e1 z hz).symm, fun t ht => (hy2 y hy t ht).trans (g3 t ht), .inr ⟨qa, obj, k1, k2, hst.none k3 k5, k4, Nat.lt_of_lt_of_le k5 hst.next, ?_⟩⟩
          rcases hst.cfr _ k5 k3 with g | g
          · rw [g]; exact k6
          · exact .inr g
    · simp at hy; subst hy; exact absurd (.inr rfl) hyd
  · intro y hy z hz dy dz ay az wy wz
    rcases List.mem_append.1 hy with hy | hy
    · rcases List.mem_append.1 hz with hz | hz
      · refine h.inj y hy z hz (fun h => dy (.inl h)) (fun h => dz (.inl h)) ay az ?_ ?_
        · rw [← wants_agree (hy1 y hy fun h => dy (.inl h))]; exact wy
        · rw [← wants_agree (hy1 z hz fun h => dz (.inl h))]; exact wz
      · simp at hz; subst hz; exact absurd (.inr rfl) dz
    · simp at hy; subst hy; exact absurd (.inr rfl) dy

/-- Both make the next effect. -/
theorem Inv.effStep (hP : ProgOk P) (hC : SimC P C) (hG : GOk P β0) (hr0 : Rel P β0 σ0 w0) (hI : ItemsOk P n ops l) (h : Inv P n ds l β0 σ0 w0 done D pos β fr σ a w) (hp : done.Pairwise OkP) (hone : ∀ y ∈ done, OkO y) {x : Item} (hx : x ∈ l) (hpx : ∀ y ∈ done, OkP y x)
    (he : x.eff = true) (hanc : ∀ j, bit x.anc j = true → D j) {Kc : Fr → CW → Prop} (hr : StepW C x.s fr σ Kc) (hag : ∀ fr' σ', Kc fr' σ' → ∀ g ∈ done.filterMap (againOf x.anc), AgainR fr' σ' g)
    (hK : ∀ fr' σ' β' a' w', Kc fr' σ' → Inv P n ds l β0 σ0 w0 (done ++ [x]) (fun j => D j ∨ j = x.i) pos β' fr' σ' a' w' → K a' w') : wpOpIn (WR r) 0 P ops Q x.i K a w := by
  have hit := hI.ok x hx
  have hhere := h.here hp (.inr hpx) hanc
  obtain ⟨q, hq, hsq, hsd, hconst, hdst, hgd⟩ := stepOf_some hit.st
  have hlt : ∀ t, x.s.dst = some t → t < n := fun t ht => hdst t (by rw [← hsd]; exact ht)
  have hw := wants_rel (a := a) (fr := fr) (β := β) hit.st (fun t b hg => hhere t (tmps_guard hg))
  have hop : ∀ z ∈ x.o.op.operands, VRel P β (ev fr z) (a.eval z) := fun z hz => ev_rel (hG.mono h.stp.le) (hconst z hz) fun t e => hhere t (tmps_ops (e ▸ hz))
  simp only [wpOpIn, hit.op, hw]
  rcases hr with ⟨h1, h2⟩ | ⟨h1, h2⟩
  · rw [if_pos h1]
    refine sim_step hP hC (hG.mono h.stp.le) h.stp.rel hq hop (hsq ▸ h2) fun v σ1 β' v' w' hQ hst hv => ?_
    rw [← hsd]
    refine hK _ _ β' _ w' hQ (h.eff' hr0 hI hone hx hpx hanc hlt (fun t ht => putT_ne ht) (hag _ _ hQ) hst fun t ht => ?_)
    rw [ht]; show VRel P β' (upd fr t v t) v'; rw [upd_same]; exact hv
  · rw [if_neg (by rw [h1]; simp), ← hsd]
    refine ⟨fun _ _ => trivial, hK _ _ β _ w h2 (h.eff' hr0 hI hone hx hpx hanc hlt (fun t ht => putT_ne ht) (hag _ _ h2) (.refl h.stp.rel) fun t ht => ?_)⟩
    rw [ht]; show VRel P β (upd fr t cundef t) undef; rw [upd_same]; exact .undef
end
end Go.Cn

namespace Go.Cn
set_option linter.unusedVariables false
set_option linter.unusedSimpArgs false

theorem bit_test (m i : Nat) : bit m i = m.testBit i := by
  rw [Nat.testBit_eq_decide_div_mod_eq]
  have h1 : Nat.shiftRight m i = m / 2 ^ i := Nat.shiftRight_eq_div_pow m i
  unfold bit
  rw [h1]
  show Nat.beq (m / 2 ^ i % 2) 1 = _
  by_cases h : m / 2 ^ i % 2 = 1
  · rw [decide_eq_true h, Nat.beq_eq]; exact h
  · rw [decide_eq_false h]
    cases e : Nat.beq (m / 2 ^ i % 2) 1 with
    | false => rfl
    | true => exact absurd (Nat.beq_eq.symm ▸ e : m / 2 ^ i % 2 = 1) h

theorem bit_or (a b i : Nat) : bit (Nat.lor a b) i = (bit a i || bit b i) := by
  simp only [bit_test]; exact Nat.testBit_or a b i
theorem bit_one (e i : Nat) : bit (Nat.shiftLeft 1 e) i = true → e = i := by
  rw [bit_test]
  intro h
  have : (1 <<< e).testBit i = true := h
  rw [Nat.testBit_shiftLeft] at this
  simp only [Bool.and_eq_true, decide_eq_true_eq] at this
  have h2 := Nat.testBit_one_eq_true_iff_self_eq_zero.1 this.2
  omega
theorem bit_zero (i : Nat) : bit 0 i = false := by simp [bit_test]

theorem bit_foldl (acc : List Nat) (j : Nat) : ∀ (es : List Nat) (m : Nat), bit (es.foldl (fun m e => Nat.lor m (Nat.lor (acc.getD e 0) (Nat.shiftLeft 1 e))) m) j = true → bit m j = true ∨ ∃ e ∈ es, e = j ∨ bit (acc.getD e 0) j = true
  | [], m, h => .inl h
  | e :: es, m, h => by
    rcases bit_foldl acc j es _ h with h1 | ⟨e', h1, h2⟩
    · rw [bit_or, bit_or] at h1
      simp only [Bool.or_eq_true] at h1
      rcases h1 with h1 | h1 | h1
      · exact .inl h1
      · exact .inr ⟨e, by simp, .inr h1⟩
      · exact .inr ⟨e, by simp, .inl (bit_one _ _ h1)⟩
    · exact .inr ⟨e', by simp [h1], h2⟩

theorem ancs_ok : ∀ (l : List Oper) (i : Nat) (acc r : List Nat), ancs l i acc = some r → acc.length = i → (∃ s, r = acc ++ s ∧ s.length = l.length) ∧
    ∀ (k : Nat) (o : Oper), l[k]? = some o → (∀ e ∈ o.after, Region.binds .any e = true → e.on < i + k) ∧
      ∀ j, bit (r.getD (i + k) 0) j = true → ∃ e ∈ o.after, Region.binds .any e = true ∧ (e.on = j ∨ bit (r.getD e.on 0) j = true)
  | [], i, acc, r, h, ha => by
    cases h
    exact ⟨⟨[], by simp, rfl⟩, by simp⟩
  | o :: l, i, acc, r, h, ha => by
    simp only [ancs] at h
    split at h
    · rename_i hall
      obtain ⟨⟨s, hs, hsl⟩, hk⟩ := ancs_ok l (i + 1) _ r h (by simp [ha])
      have hlt : ∀ e ∈ o.after, Region.binds .any e = true → e.on < i := by
        intro e he hb
        have := List.all_eq_true.1 hall e.on (List.mem_map.2 ⟨e, List.mem_filter.2 ⟨by simpa using he, hb⟩, rfl⟩)
        simp [Nat.blt] at this; omega
      refine ⟨⟨_ :: s, by rw [hs]; simp; rfl, by simp [hsl]⟩, fun k o' ho => ?_⟩
      cases k with
      | zero =>
        simp only [List.getElem?_cons_zero, Option.some.injEq] at ho
        subst ho
        refine ⟨hlt, fun j hj => ?_⟩
        have e1 : ∀ m, m < i → r.getD m 0 = acc.getD m 0 := by
          intro m hm
          rw [hs, List.getD_eq_getElem?_getD, List.getD_eq_getElem?_getD, List.append_assoc, List.getElem?_append_left (by omega)]
        have e2 : r.getD (i + 0) 0 = ((o.after.toList.filter (Region.binds .any)).map (·.on)).foldl (fun m e => Nat.lor m (Nat.lor (acc.getD e 0) (Nat.shiftLeft 1 e))) 0 := by
          rw [hs, List.getD_eq_getElem?_getD, List.append_assoc, List.getElem?_append_right (by omega)]
          simp [ha]
        rw [e2] at hj
        rcases bit_foldl acc j _ _ hj with h1 | ⟨e, h1, h2⟩
        · rw [bit_zero] at h1; cases h1
        · obtain ⟨e', g1, rfl⟩ := List.mem_map.1 h1
          obtain ⟨g1, g2⟩ := List.mem_filter.1 g1
          have g1 : e' ∈ o.after := by simpa using g1
          exact ⟨e', g1, g2, h2.imp id fun h => by rw [e1 _ (hlt e' g1 g2)]; exact h⟩
      | succ k =>
        obtain ⟨h1, h2⟩ := hk k o' (by simpa using ho)
        have e : i + 1 + k = i + (k + 1) := by omega
        rw [e] at h1 h2
        exact ⟨h1, h2⟩
    · cases h

theorem items_mem : ∀ {os : List Oper} {ss : List CStep} {as : List Nat} {i : Nat} {x : Item}, x ∈ itemsOf os ss as i →
    ∃ k, x.i = i + k ∧ os[k]? = some x.o ∧ ss[k]? = some x.s ∧ as[k]? = some x.anc ∧ x.eff = isE x.s x.o
  | o :: os, s :: ss, a :: as, i, x, h => by
    simp only [itemsOf, List.mem_cons] at h
    rcases h with rfl | h
    · exact ⟨0, rfl, rfl, rfl, rfl, rfl⟩
    · obtain ⟨k, h1, h2, h3, h4, h5⟩ := items_mem h
      exact ⟨k + 1, by omega, by simpa using h2, by simpa using h3, by simpa using h4, h5⟩
  | [], _, _, _, _, h => by simp [itemsOf] at h
  | _ :: _, [], _, _, _, h => by simp [itemsOf] at h
  | _ :: _, _ :: _, [], _, _, h => by simp [itemsOf] at h
theorem items_all : ∀ {os : List Oper} {ss : List CStep} {as : List Nat} {i k : Nat}, k < os.length → k < ss.length → k < as.length → ∃ x ∈ itemsOf os ss as i, x.i = i + k
  | o :: os, s :: ss, a :: as, i, k, h1, h2, h3 => by
    cases k with
    | zero => exact ⟨_, by simp [itemsOf]; exact .inl rfl, rfl⟩
    | succ k =>
      obtain ⟨x, g1, g2⟩ := items_all (i := i + 1) (os := os) (ss := ss) (as := as) (k := k) (by simpa using h1) (by simpa using h2) (by simpa using h3)
      exact ⟨x, by simp [itemsOf, g1], by omega⟩
  | [], _, _, _, _, h, _, _ => by simp at h
  | _ :: _, [], _, _, _, _, h, _ => by simp at h
  | _ :: _, _ :: _, [], _, _, _, _, h => by simp at h

theorem items_ok {P : Program} {n : Nat} {ops : Array Oper} {anc : List Nat} {ss : List CStep} (h1 : ancs ops.toList 0 [] = some anc) (h2 : ops.toList.mapM (stepOf P n ops) = some ss) :
    ItemsOk P n ops (itemsOf ops.toList ss anc 0) := by
  obtain ⟨⟨s, hs, hl⟩, ha⟩ := ancs_ok _ _ _ _ h1 rfl
  obtain ⟨hl2, hm⟩ := mapM_some h2
  simp at hs
  subst hs
  have hall : ∀ i, i < ops.size → ∃ x ∈ itemsOf ops.toList ss anc 0, x.i = i := by
    intro i hi
    obtain ⟨x, g1, g2⟩ := items_all (os := ops.toList) (ss := ss) (as := anc) (i := 0) (k := i) (by simpa using hi) (by rw [← hl2]; simpa using hi) (by rw [hl]; simpa using hi)
    exact ⟨x, g1, by omega⟩
  refine ⟨fun x hx => ?_, hall, fun x hx y hy hxy => ?_⟩
  · obtain ⟨k, e1, e2, e3, e4, e5⟩ := items_mem hx
    have ek : x.i = k := by omega
    obtain ⟨a1, a2⟩ := ha k x.o e2
    obtain ⟨o', b1, b2⟩ := hm k x.s e3
    rw [e2] at b1; cases b1
    refine ⟨by rw [ek]; simpa using e2, b2, ?_, ?_, ?_⟩
    · intro hf; rw [e5] at hf
      simp only [isE, Bool.or_eq_false_iff] at hf
      exact hf.1
    · intro e he hb; have := a1 e he hb; omega
    · intro j hj
      have e6 : anc.getD (0 + k) 0 = x.anc := by rw [List.getD_eq_getElem?_getD, Nat.zero_add, e4]; rfl
      obtain ⟨e, g1, g2, g3⟩ := a2 j (by rw [e6]; exact hj)
      refine ⟨e, g1, g2, g3.imp id fun g3 => ?_⟩
      have hlt : e.on < ops.size := by
        have := a1 e g1 g2
        have hk : k < ops.toList.length := (List.getElem?_eq_some_iff.1 e2).1
        simp at hk; omega
      obtain ⟨y, y1, y2⟩ := hall e.on hlt
      refine ⟨y, y1, y2, ?_⟩
      obtain ⟨k', f1, f2, f3, f4, f5⟩ := items_mem y1
      have : anc.getD e.on 0 = y.anc := by
        rw [List.getD_eq_getElem?_getD, show e.on = k' by omega, f4]; rfl
      rw [← this]; exact g3
  · obtain ⟨k, e1, e2, e3, e4, e5⟩ := items_mem hx
    obtain ⟨k', f1, f2, f3, f4, f5⟩ := items_mem hy
    have : k = k' := by omega
    subst this
    rw [e2] at f2; rw [e3] at f3; rw [e4] at f4
    cases x; cases y
    simp_all

section
variable {P : Program} {C : CallQ} {n lo : Nat} {r : Option Nat} {ds : List Deferred} {ops : Array Oper} {l : List Item} {β0 : Ren} {σ0 : CW} {w0 : World} {Q : Exit → Act → World → Prop}

theorem getD_set {listed : Array Bool} {i j : Nat} (hi : i < listed.size) : (listed.setIfInBounds i true).getD j false = true ↔ (listed.getD j false = true ∨ j = i) := by
  rw [Array.getD_eq_getD_getElem?, Array.getD_eq_getD_getElem?]
  by_cases h : i = j
  · subst h; simp [hi]
  · rw [Array.getElem?_setIfInBounds_ne h]
    exact ⟨.inl, fun h' => h'.elim id fun h' => absurd h'.symm h⟩

theorem ready_iff {listed : Array Bool} (hs : listed.size = ops.size) {i : Nat} : i ∈ Region.ready .any ops listed ↔ ∃ o, ops[i]? = some o ∧ listed.getD i false = false ∧ ∀ e ∈ o.after, Region.binds .any e = true → listed.getD e.on false = true := by
  simp only [Region.ready, List.mem_filter, List.mem_range, Bool.and_eq_true, Bool.not_eq_true']
  constructor
  · rintro ⟨h1, h2, h3⟩
    have ho : ops[i]? = some ops[i] := by simp [h1]
    rw [ho] at h3
    simp only [Option.map_some, Option.getD_some] at h3
    refine ⟨_, ho, ?_, fun e he hb => ?_⟩
    · rw [Array.getD_eq_getD_getElem?] at h2 ⊢
      rw [Array.getElem?_eq_getElem (by omega)] at h2 ⊢; exact h2
    · have := Array.all_eq_true'.1 h3 e he
      simpa [hb] using this
  · rintro ⟨o, h1, h2, h3⟩
    have hi : i < ops.size := by
      rw [Array.getElem?_eq_some_iff] at h1; exact h1.1
    refine ⟨hi, ?_, ?_⟩
    · rw [Array.getD_eq_getD_getElem?] at h2 ⊢
      rw [Array.getElem?_eq_getElem (by omega)] at h2 ⊢; exact h2
    · rw [h1]
      simp only [Option.map_some, Option.getD_some]
      refine Array.all_eq_true'.2 fun e he => ?_
      cases hb : Region.binds .any e with
      | false => rfl
      | true => simp [h3 e he hb]

theorem ord_mem {x : Item} : ∀ {r : List (Item × List Item)}, x ∈ ordOf r → ∃ p ∈ r, x = p.1 ∨ x ∈ p.2
  | [], h => by simp [ordOf] at h
  | (e, seg) :: r, h => by
    simp only [ordOf, List.mem_cons, List.mem_append] at h
    rcases h with h | h | h
    · exact ⟨(e, seg), by simp, .inl h⟩
    · exact ⟨(e, seg), by simp, .inr h⟩
    · obtain ⟨p, h1, h2⟩ := ord_mem h
      exact ⟨p, by simp [h1], h2⟩

/-- operations that are no effects come to one thing -/
theorem step_plain {s : CStep} (he : isEC s.op = false) {fr : Fr} {σ : CW} {K : Fr → CW → Prop} (h : StepW C s fr σ K) : ∃ fr' σ', StepR (fun _ _ _ _ _ => False) s fr σ fr' σ' ∧ K fr' σ' := by
  rcases h with ⟨h1, h2⟩ | ⟨h1, h2⟩
  · cases eo : s.op with
    | p q =>
      rw [eo] at h2
      obtain ⟨v, h3, h4⟩ := h2
      exact ⟨_, _, .inl ⟨h1, v, by rw [eo]; exact ⟨h3, rfl⟩, rfl⟩, h4⟩
    | a q =>
      rw [eo] at h2
      obtain ⟨obj, v, h3, h4⟩ := h2
      exact ⟨_, _, .inl ⟨h1, v, by rw [eo]; exact ⟨obj, h3, rfl⟩, rfl⟩, h4⟩
    | e q => rw [eo] at he; cases he
    | no => rw [eo] at he; cases he
  · exact ⟨_, _, .inr ⟨h1, rfl, rfl⟩, h2⟩
theorem steps_plain : ∀ {l : List CStep}, (∀ s ∈ l, isEC s.op = false) → ∀ {fr : Fr} {σ : CW} {K : Fr → CW → Prop}, StepsW C l fr σ K → ∃ fr' σ', StepsR (fun _ _ _ _ _ => False) l fr σ fr' σ' ∧ K fr' σ'
  | [], _, fr, σ, K, h => ⟨fr, σ, .nil _ _, h⟩
  | s :: l, hs, fr, σ, K, h => by
    obtain ⟨fr1, σ1, h1, h2⟩ := step_plain (hs s (by simp)) h
    obtain ⟨fr2, σ2, h3, h4⟩ := steps_plain (fun s' h' => hs s' (by simp [h'])) h2
    exact ⟨fr2, σ2, .cons h1 h3, h4⟩

theorem draw_any (hP : ProgOk P) (hC : SimC P C) (hG : GOk P β0) (hr0 : Rel P β0 σ0 w0) (hlo : lo ≤ w0.heap.size) (hds : Marks lo β0 w0 ds) (hI : ItemsOk P n ops l) : ∀ (fuel : Nat) (U : List Nat) (listed : Array Bool) (todo : List (Item × List Item)) (done : List Item) (pos : Nat → Nat) {β : Ren} {fr : Fr} {σ : CW} {Kc : Fr → CW → Prop} {a : Act} {w : World},
    U.Nodup → listed.size = ops.size → (∀ i, i ∈ U ↔ i < ops.size ∧ listed.getD i false = false) → U.length = fuel → (done ++ ordOf todo).Pairwise OkP → (∀ x ∈ done ++ ordOf todo, OkO x) → (∀ p ∈ todo, p.1 ∈ l ∧ p.1.eff = true ∧ ∀ x ∈ p.2, x ∈ l ∧ x.eff = false) →
    (∀ x ∈ l, x ∈ done ++ ordOf todo) → StagesW C (stagesOf done todo) fr σ Kc → Inv P n ds l β0 σ0 w0 done (fun j => listed.getD j false = true) pos β fr σ a w →
    Ends' P n lo β0 σ0 w0 Kc (Q .normal) → wpAnyIn (WR r) 0 P .any ops Q fuel listed a w := by
  -- where none can be made all are
  have fin : ∀ (listed : Array Bool) (todo : List (Item × List Item)) (done : List Item) (pos : Nat → Nat) {β : Ren} {fr : Fr} {σ : CW} {Kc : Fr → CW → Prop} {a : Act} {w : World}, listed.size = ops.size → (done ++ ordOf todo).Pairwise OkP →
      (∀ p ∈ todo, p.1 ∈ l ∧ p.1.eff = true ∧ ∀ x ∈ p.2, x ∈ l ∧ x.eff = false) → StagesW C (stagesOf done todo) fr σ Kc → Inv P n ds l β0 σ0 w0 done (fun j => listed.getD j false = true) pos β fr σ a w →
      Ends' P n lo β0 σ0 w0 Kc (Q .normal) → Region.ready .any ops listed = [] → Q .normal a w := by
    intro listed todo done pos β fr σ Kc a w hs hp ht hr h hK hnil
    have hall : ∀ i, i < ops.size → listed.getD i false = true := by
      intro i
      induction i using Nat.strongRecOn with
      | _ i ih =>
        intro hi
        cases e : listed.getD i false with
        | true => rfl
        | false =>
          exfalso
          obtain ⟨x, hx, rfl⟩ := hI.all i hi
          have hit := hI.ok x hx
          have : x.i ∈ Region.ready .any ops listed := (ready_iff hs).2 ⟨x.o, hit.op, e, fun e he hb => by
            have := hit.lt e he hb
            exact ih e.on this (by omega)⟩
          rw [hnil] at this; cases this
    have hD : ∀ x ∈ l, listed.getD x.i false = true := by
      intro x hx
      refine hall x.i ?_
      have := (hI.ok x hx).op
      rw [Array.getElem?_eq_some_iff] at this; exact this.1
    cases todo with
    | cons p todo =>
      exfalso
      obtain ⟨e, seg⟩ := p
      have he := (ht (e, seg) (by simp)).1
      have hdone := h.sub e he (hD e he)
      exact ((List.pairwise_append.1 hp).2.2 e hdone e (by simp [ordOf])).ne rfl
    | nil =>
      refine hK _ _ β a w hr h.stp ⟨Nat.le_trans hlo h.stp.size, h.size, by rw [h.defers]; exact hds.step h.stp, fun t => ?_⟩
      rcases h.rel t with h1 | ⟨x, h1, h2, _⟩
      · exact h1
      · exact absurd (hD x (h.mem x h1)) h2
  intro fuel
  induction fuel with
  | zero =>
    intro U listed todo done pos β fr σ Kc a w hU hs hUi hl hp ho ht hc hr h hK
    have hnil : Region.ready .any ops listed = [] := by
      apply List.eq_nil_iff_forall_not_mem.2
      intro i hi
      obtain ⟨o, h1, h2, _⟩ := (ready_iff hs).1 hi
      have : i ∈ U := (hUi i).2 ⟨by rw [Array.getElem?_eq_some_iff] at h1; exact h1.1, h2⟩
      rw [List.length_eq_zero_iff.1 hl] at this; cases this
    exact ⟨hnil, fin listed todo done pos hs hp ht hr h hK hnil⟩
  | succ fuel ih =>
    intro U listed todo done pos β fr σ Kc a w hU hs hUi hl hp ho ht hc hr h hK
    refine ⟨fin listed todo done pos hs hp ht hr h hK, fun i hi => ?_⟩
    obtain ⟨o, h1, h2, h3⟩ := (ready_iff hs).1 hi
    have hisz : i < ops.size := by rw [Array.getElem?_eq_some_iff] at h1; exact h1.1
    obtain ⟨x, hx, rfl⟩ := hI.all i hisz
    have hit := hI.ok x hx
    rw [hit.op] at h1; cases h1
    have hanc : ∀ j, bit x.anc j = true → listed.getD j false = true := by
      intro j hj
      obtain ⟨e, g1, g2, g3⟩ := hit.anc j hj
      have := h3 e g1 g2
      rcases g3 with rfl | ⟨y, g3, g4, g5⟩
      · exact this
      · exact h.down y g3 (by rw [g4]; exact this) j g5
    have hd : ¬ listed.getD x.i false = true := by rw [h2]; simp
    -- what the next rounds ask
    have hU' : (U.erase x.i).Nodup := hU.erase _
    have hs' : (listed.setIfInBounds x.i true).size = ops.size := by simp [hs]
    have hD' : (fun j => (listed.setIfInBounds x.i true).getD j false = true) = fun j => listed.getD j false = true ∨ j = x.i := by
      funext j; exact propext (getD_set (by omega))
    have hUi' : ∀ i, i ∈ U.erase x.i ↔ i < ops.size ∧ (listed.setIfInBounds x.i true).getD i false = false := by
      intro i
      rw [hU.mem_erase_iff, hUi]
      have := congrFun hD' i
      simp only [eq_iff_iff] at this
      rw [← Bool.not_eq_true, ← Bool.not_eq_true (Array.getD _ _ _), this]
      constructor
      · rintro ⟨g1, g2, g3⟩; exact ⟨g2, fun g => g.elim g3 g1⟩
      · rintro ⟨g1, g2⟩; exact ⟨fun g => g2 (.inr g), g1, fun g => g2 (.inl g)⟩
    have hl' : (U.erase x.i).length = fuel := by
      rw [List.length_erase_of_mem ((hUi x.i).2 ⟨hisz, h2⟩), hl]; rfl
    have hpd := (List.pairwise_append.1 hp).1
    by_cases hxd : x ∈ done
    · refine h.pendStep hP hC hG hr0 hI hpd hxd (ho x (by simp [hxd])) hd hanc fun β' a' w' h' => ?_
      rw [← hD'] at h'
      exact ih _ _ todo done pos hU' hs' hUi' hl' hp ho ht hc hr h' hK
    · -- it is the next effect
      have hxo : x ∈ ordOf todo := by
        rcases List.mem_append.1 (hc x hx) with g | g
        · exact absurd g hxd
        · exact g
      cases todo with
      | nil => simp [ordOf] at hxo
      | cons p todo =>
        obtain ⟨e, seg⟩ := p
        obtain ⟨t1, t2, t3⟩ := ht (e, seg) (by simp)
        have hxe : x = e := by
          simp only [ordOf, List.mem_cons] at hxo
          rcases hxo with g | g
          · exact g
          · exfalso
            have hpo := (List.pairwise_append.1 hp).2.1
            simp only [ordOf] at hpo
            have := ((List.pairwise_cons.1 hpo).1 x g).eff t2
            have := h.sub e t1 (hanc _ this)
            exact ((List.pairwise_append.1 hp).2.2 e this e (by simp [ordOf])).ne rfl
        subst hxe
        refine h.effStep hP hC hG hr0 hI hpd (fun y hy => ho y (by simp [hy])) hx (fun y hy => (List.pairwise_append.1 hp).2.2 y hy x (by simp [ordOf])) t2 hanc hr (fun fr' σ' hk => hk.1) fun fr1 σ1 β' a' w' hk h' => ?_
        obtain ⟨r2, r3⟩ := hk
        rw [← hD'] at h'
        have e1 : done ++ ordOf ((x, seg) :: todo) = (done ++ [x]) ++ (seg ++ ordOf todo) := by simp [ordOf]
        have e2 : done ++ ordOf ((x, seg) :: todo) = (done ++ [x] ++ seg) ++ ordOf todo := by simp [ordOf]
        have hp1 : ((done ++ [x]) ++ seg).Pairwise OkP := by rw [e2] at hp; exact (List.pairwise_append.1 hp).1
        obtain ⟨fr2, σ2, r3, r4⟩ := steps_plain (fun s hs => by
          obtain ⟨y, hy, rfl⟩ := List.mem_map.1 hs
          exact (hI.ok y (t3 y hy).1).eff (t3 y hy).2) r3
        obtain ⟨pos', h''⟩ := h'.aheads hI (xs := seg) (fun y hy => ⟨(t3 y hy).1, (t3 y hy).2, ho y (by rw [e1]; simp [hy])⟩) hp1 r3
        refine ih _ _ todo (done ++ [x] ++ seg) pos' hU' hs' hUi' hl' (e2 ▸ hp) (e2 ▸ ho) (fun p hp => ht p (by simp [hp])) (e2 ▸ hc) ?_ h'' hK
        have e3 : done ++ [x] ++ seg = done ++ x :: seg := by simp
        rw [e3]; exact r4

theorem pairs_mem {effs : List Nat} {p : Item × List Item} : ∀ {es : List Item} {k : Nat}, p ∈ pairsOf l effs es k → p.1 ∈ es ∧ ∃ m, p.2 = segOf l effs m
  | [], k, h => by simp [pairsOf] at h
  | e :: es, k, h => by
    simp only [pairsOf, List.mem_cons] at h
    rcases h with rfl | h
    · exact ⟨by simp, _, rfl⟩
    · obtain ⟨h1, h2⟩ := pairs_mem h
      exact ⟨by simp [h1], h2⟩

theorem seg_mem {effs : List Nat} {m : Nat} {x : Item} (h : x ∈ segOf l effs m) : x ∈ l ∧ x.eff = false := by
  simp only [segOf, List.mem_filter, Bool.and_eq_true, Bool.not_eq_true'] at h
  exact ⟨h.1, h.2.1⟩

theorem draw_ok (hP : ProgOk P) (hC : SimC P C) : DrawOk P C n := by
  intro r ops p hpl id Q fr σ Kc hr lo β w a hG h hf hK
  unfold planOf at hpl
  split at hpl
  · rename_i anc ss h1 h2
    have hI := items_ok h1 h2
    simp only at hpl
    split at hpl
    · rename_i hcond
      cases hpl
      simp only [Bool.and_eq_true] at hcond
      obtain ⟨hord, hall⟩ := hcond
      generalize hle : itemsOf ops.toList ss anc 0 = l at *
      generalize hes : l.filter (·.eff) = es at *
      generalize hef : es.map (·.i) = effs at *
      obtain ⟨o1, o2⟩ := okOrd_ok hord
      refine wpIn_region_any hP.mixed ?_
      have hw' : ∀ d, Rel P β σ { w with drawn := d } := fun d => h.heap rfl
      have h0 : Inv P n a.defers l β σ { w with drawn := w.drawn + 1 } [] (fun j => (Array.replicate ops.size false).getD j false = true) (fun _ => 0) β fr σ a { w with drawn := w.drawn + 1 } := by
        have hno : ∀ j, ¬ (Array.replicate ops.size false).getD j false = true := by
          intro j
          rw [Array.getD_eq_getD_getElem?, Array.getElem?_replicate]
          split <;> simp
        exact ⟨.refl (hw' _), hf.size, rfl, by simp, fun x _ hd => absurd hd (hno _), fun x _ hd => absurd hd (hno _), by simp, fun t => .inl (hf.rel t), by simp, by simp⟩
      obtain ⟨fr1, σ1, hr1, hr2⟩ := steps_plain (fun s hs => by
        obtain ⟨y, hy, rfl⟩ := List.mem_map.1 hs
        exact (hI.ok y (seg_mem hy).1).eff (seg_mem hy).2) hr
      obtain ⟨pos', h0'⟩ := h0.aheads hI (xs := segOf l effs 0) (fun x hx => ⟨(seg_mem hx).1, (seg_mem hx).2, o2 x (by simp [hx])⟩) (by simpa using (List.pairwise_append.1 o1).1) hr1
      simp only [List.nil_append] at h0'
      refine draw_any (lo := lo) (w0 := { w with drawn := w.drawn + 1 }) hP hC hG (hw' _) hf.lob hf.defers hI ops.size (List.range ops.size) _ (pairsOf l effs es 0) _ pos' List.nodup_range (by simp) ?_ (by simp) o1 o2 ?_ ?_ hr2 h0' ?_
      · intro i
        rw [List.mem_range, Array.getD_eq_getD_getElem?, Array.getElem?_replicate]
        constructor
        · intro hi; exact ⟨hi, by simp [hi]⟩
        · exact fun hi => hi.1
      · intro q hq
        obtain ⟨g1, m, g2⟩ := pairs_mem hq
        rw [← hes] at g1
        obtain ⟨g3, g4⟩ := List.mem_filter.1 g1
        exact ⟨g3, g4, fun x hx => by rw [g2] at hx; exact seg_mem hx⟩
      · intro x hx
        have := List.all_eq_true.1 hall x hx
        obtain ⟨y, hy, hyx⟩ := List.any_eq_true.1 this
        rw [Nat.beq_eq] at hyx
        have hyl : y ∈ l := by
          rcases List.mem_append.1 hy with g | g
          · exact (seg_mem g).1
          · obtain ⟨q, g1, g2⟩ := ord_mem g
            obtain ⟨g3, m, g4⟩ := pairs_mem g1
            rcases g2 with g2 | g2
            · rw [← hes] at g3; rw [g2]; exact (List.mem_filter.1 g3).1
            · rw [g4] at g2; exact (seg_mem g2).1
        rw [← hI.uni y hyl x hx hyx]; exact hy
      · intro fr2 σ2 β2 a2 w2 hk hst hf2
        refine hK fr2 σ2 β2 a2 w2 hk ?_ hf2
        exact Stp.trans (.same (w' := { w with drawn := w.drawn + 1 }) h rfl rfl rfl rfl) hst h
    · cases hpl
  · cases hpl

/-- Calls of a table of functions: what the canonical machine does, the model does. -/
theorem sim_calls_all (hP : ProgOk P) {T : Nat → Option CFun} (hT : OkT P T) (d : Deep) : SimC P (CallW T d) := sim_calls hP hT (fun d n ih => draw_ok hP ih) d

end
end Go.Cn
