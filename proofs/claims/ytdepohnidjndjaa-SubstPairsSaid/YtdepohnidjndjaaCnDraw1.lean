/- Regions that draw their order: objects that are made late, readings ahead. -/
import Derived.Test.YtdepohnidjndjaaCnSimCall
namespace Go.Cn
set_option linter.unusedVariables false
set_option linter.unusedSimpArgs false

section
variable {P : Program} {β β0 : Ren} {σ σ0 : CW} {w w0 w' : World}

theorem add_old {σ : CW} (hi : CInv σ) {o : CObj} {n : Nat} {x : CObj} (h : σ.heap n = some x) : (σ.add o).heap n = some x := by
  rw [add_heap, if_neg]
  · exact h
  · intro e; subst e; rw [hi.fresh _ (Nat.le_refl _)] at h; cases h

theorem Rel.add (h : Rel P β σ w) {o : CObj} (hf : FreshO σ o) (hno : isIter o = false) : Rel P β (σ.add o) w where
  inv := h.inv.add hf
  wr := h.wr
  lt := fun b i hb => ⟨Nat.lt_succ_of_lt (h.lt b i hb).1, (h.lt b i hb).2⟩
  obj := by
    intro b i x hb hx
    rw [add_heap, if_neg (Nat.ne_of_lt (h.lt b i hb).1)] at hx
    exact h.obj b i x hb hx
  alias := by
    intro b1 b2 i1 i2 hne h1 h2 hB
    have := h.alias b1 b2 i1 i2 hne h1 h2 hB
    unfold AliasOk at this ⊢
    rw [add_heap, add_heap, if_neg (Nat.ne_of_lt (h.lt b1 i1 h1).1), if_neg (Nat.ne_of_lt (h.lt b2 i2 h2).1)]
    exact this
  here := by
    intro b i hb
    obtain ⟨o', ho⟩ := h.here b i hb
    exact ⟨o', add_old h.inv ho⟩
  iters := h.iters.keep (.refl _) (Nat.le_succ _) (fun _ _ h => .inl h) (fun b i o hb ho _ => by rw [add_heap, if_neg (Nat.ne_of_lt (h.lt b i hb).1)] at ho; exact ho) (fun _ _ _ _ h _ => h)

theorem Stp.ahead (h : Stp P β0 σ0 w0 β σ w) {o : CObj} (hf : FreshO σ o) (hno : isIter o = false) : Stp P β0 σ0 w0 β (σ.add o) w where
  le := h.le
  new := h.new
  next := Nat.le_succ_of_le h.next
  ro := h.ro
  inj := h.inj
  cfr := by
    intro b hb hn
    rw [add_heap, if_neg (Nat.ne_of_lt (Nat.lt_of_lt_of_le hb h.next))]
    exact h.cfr b hb hn
  size := h.size
  afr := h.afr
  os := h.os
  out := h.out
  tape := h.tape
  rel := h.rel.add hf hno

theorem le_upd_none {b : Nat} (hb : β b = none) (i : BI) : Le β (upd β b (some i)) := by
  intro c j hc
  rw [upd_ne]
  · exact hc
  · intro e; subst e; rw [hb] at hc; cases hc

theorem Rel.late (h : Rel P β σ w) {b : Nat} {o' : Obj} {i : BI} (hb : β b = none) (hlt : b < σ.next) (hB : i.B = w.heap.size) (hw : w'.heap = w.heap.push o')
    (hh : ∃ o, σ.heap b = some o ∧ isIter o = false ∧ ObjRel P (upd β b (some i)) i o (some o')) (hwr : i.wr = true) : Rel P (upd β b (some i)) σ w' where
  inv := h.inv
  wr := h.wr_upd hwr b hb
  lt := by
    intro c j hc
    by_cases e : c = b
    · subst e; rw [upd_same] at hc; cases hc; exact ⟨hlt, by rw [hw, hB]; simp⟩
    · rw [upd_ne _ _ e] at hc
      exact ⟨(h.lt c j hc).1, by rw [hw]; simp; exact Nat.lt_succ_of_lt (h.lt c j hc).2⟩
  obj := by
    intro c j x hc hx
    by_cases e : c = b
    · subst e; rw [upd_same] at hc; cases hc
      obtain ⟨o, h1, _, h2⟩ := hh
      rw [h1] at hx; cases hx
      rw [hB, push_new hw]; exact h2
    · rw [upd_ne _ _ e] at hc
      rw [push_get hw (h.lt c j hc).2]
      exact (h.obj c j x hc hx).mono (le_upd_none hb i)
  alias := by
    intro b1 b2 i1 i2 hne h1 h2 hBB
    by_cases e1 : b1 = b
    · subst e1
      rw [upd_same] at h1; cases h1
      rw [upd_ne _ _ (Ne.symm hne)] at h2
      have := (h.lt b2 i2 h2).2
      omega
    · rw [upd_ne _ _ e1] at h1
      by_cases e2 : b2 = b
      · subst e2
        rw [upd_same] at h2; cases h2
        have := (h.lt b1 i1 h1).2
        omega
      · rw [upd_ne _ _ e2] at h2
        exact h.alias b1 b2 i1 i2 hne h1 h2 hBB
  here := by
    intro c j hc
    by_cases e : c = b
    · subst e; obtain ⟨o, h1, _⟩ := hh; exact ⟨o, h1⟩
    · rw [upd_ne _ _ e] at hc; exact h.here c j hc
  iters := by
    refine h.iters.keep (le_upd_none hb i) (Nat.le_refl _) (fun c j hc => ?_) (fun _ _ _ _ h _ => h) fun c j o hc ho _ => by rw [push_get hw (h.lt c j hc).2]; exact ho
    by_cases e : c = b
    · subst e
      obtain ⟨o, h1, h2, _⟩ := hh
      exact .inr fun o' ho => by rw [h1] at ho; cases ho; exact h2
    · rw [upd_ne _ _ e] at hc; exact .inl hc

theorem Stp.late (h : Stp P β0 σ0 w0 β σ w) {b : Nat} {o' : Obj} {i : BI} (hb : β b = none) (hlo : σ0.next ≤ b) (hlt : b < σ.next) (hB : i.B = w.heap.size) (hw : w'.heap = w.heap.push o')
    (hos : w'.os = w.os) (hout : w'.output = w.output) (htape : w'.tape = w.tape)
    (hh : ∃ o, σ.heap b = some o ∧ isIter o = false ∧ ObjRel P (upd β b (some i)) i o (some o')) (hwr : i.wr = true) : Stp P β0 σ0 w0 (upd β b (some i)) σ w' where
  le := h.le.trans (le_upd_none hb i)
  new := by
    intro c j hc
    by_cases e : c = b
    · subst e; rw [upd_same] at hc; cases hc
      exact .inr ⟨hlo, .inr (by rw [hB]; exact h.size)⟩
    · rw [upd_ne _ _ e] at hc; exact h.new c j hc
  next := h.next
  ro := h.ro
  inj := h.inj
  cfr := h.cfr
  size := by rw [hw]; simp; exact Nat.le_succ_of_le h.size
  afr := by
    intro B hB' hne
    rw [push_get hw (Nat.lt_of_lt_of_le hB' h.size)]
    exact h.afr B hB' hne
  os := hos.trans h.os
  out := hout.trans h.out
  tape := htape.trans h.tape
  rel := h.rel.late hb hlt hB hw hh hwr

theorem row_add {σ : CW} (hi : CInv σ) {o : CObj} {b : Nat} {c : List Value} (h : σ.row b = some c) : (σ.add o).row b = some c := by
  unfold CW.row at h ⊢
  split at h
  · rename_i c' e1 e2 e3 hc; rw [add_old hi hc]; exact h
  · cases h
theorem elemIs_add {σ : CW} (hi : CInv σ) {o : CObj} {b : Nat} {t : TypeId} (h : σ.elemIs b t = true) : (σ.add o).elemIs b t = true := by
  unfold CW.elemIs at h ⊢
  split at h
  · rename_i c' e1 e2 e3 hc; rw [add_old hi hc]; exact h
  · cases h
theorem cell_add {σ : CW} (hi : CInv σ) {o : CObj} {a : Addr} {v : Value} (h : σ.cell a = some v) : (σ.add o).cell a = some v := by
  obtain ⟨hs, c, h1, h2⟩ := cell_some h
  unfold CW.cell; rw [hs, row_add hi h1]; exact h2
theorem cells_add {σ : CW} (hi : CInv σ) {o : CObj} {a : Addr} {n : Nat} {l : List Value} (h : σ.cells a n = some l) : (σ.add o).cells a n = some l := by
  obtain ⟨hs, c, h1, h2⟩ := cells_some h
  unfold CW.cells; rw [hs, row_add hi h1]; exact h2
theorem entry_add {σ : CW} (hi : CInv σ) {o : CObj} {v x : Value} (h : σ.entry v = some x) : (σ.add o).entry v = some x := by
  unfold CW.entry at h ⊢
  split at h
  · split at h
    · rename_i m ver k seen hr
      split at h
      · rename_i es v0 hm
        simp only [add_old hi hr, add_old hi hm]; exact h
      · cases h
    · cases h
  · cases h
theorem entries_add {σ : CW} (hi : CInv σ) {o : CObj} {v : Value} {l : List (Value × Value)} (h : σ.entries v = some l) : (σ.add o).entries v = some l := by
  unfold CW.entries at h ⊢
  split at h
  · exact h
  · split at h
    · rename_i r es ver hc; simp only [add_old hi hc]; exact h
    · cases h
  · cases h
theorem apart_add {σ : CW} (hi : CInv σ) {o : CObj} {u8 : List TypeId} {a b : Nat} (h : σ.apart u8 a b = true) : (σ.add o).apart u8 a b = true := by
  unfold CW.apart at h ⊢
  split at h
  · rename_i q1 q2; rw [add_old hi q1, add_old hi q2]; exact h
  · cases h
theorem eqIface_add {σ : CW} (hi : CInv σ) {o : CObj} {ok u8 : List TypeId} {x y : Value} {r : Bool} (h : eqIface σ ok u8 x y = some r) : eqIface (σ.add o) ok u8 x y = some r := by
  unfold eqIface at h ⊢
  split at h
  · exact h
  · exact h
  · split at h
    · rename_i ht
      split at h
      · rename_i hc
        split at h
        · rename_i hb; rw [if_pos ht, if_pos hc, if_pos hb]; exact h
        · rename_i hb
          split at h
          · rename_i ha; rw [if_pos ht, if_pos hc, if_neg hb, if_pos ⟨apart_add hi ha.1, ha.2⟩]; exact h
          · cases h
      · cases h
    · rename_i ht; rw [if_neg ht]; exact h
  · cases h

/-- a reading gives what it gave, where there is one object more -/
theorem pev_add {σ : CW} (hi : CInv σ) {o : CObj} {q : POp} {ρ : Operand → Value} {v : Value} (h : pev q ρ σ = some v) : pev q ρ (σ.add o) = some v := by
  cases q
  case b2s x =>
    simp only [pev] at h ⊢
    split at h
    · exact h
    · split at h
      · rename_i c hc; simp only [cells_add hi hc]; exact h
      · cases h
    · cases h
  case slV elem sz x lo hi' mx =>
    simp only [pev] at h ⊢
    split at h <;> try (cases h; done)
    rename_i q0
    split at h <;> try (cases h; done)
    rename_i q1
    split at h <;> try (cases h; done)
    rename_i q2
    split at h <;> try (cases h; done)
    rename_i q3
    split at h
    · exact h
    · split at h
      · rename_i hc; rw [if_pos ⟨hc.1, elemIs_add hi hc.2⟩]; exact h
      · cases h
  case lookup str zero ok m k =>
    simp only [pev] at h ⊢
    split at h
    · rename_i es he; simp only [entries_add hi he]; exact h
    · cases h
  case lenM x =>
    simp only [pev] at h ⊢
    split at h
    · rename_i es he; simp only [entries_add hi he]; exact h
    · cases h
  case ld1 x =>
    simp only [pev] at h ⊢
    split at h
    · exact cell_add hi h
    · cases h
  case ldN n x =>
    simp only [pev] at h ⊢
    split at h
    · split at h
      · rename_i l hl; simp only [cells_add hi hl]; exact h
      · cases h
    · cases h
  case eqI neg ok u8 x y =>
    simp only [pev] at h ⊢
    split at h
    · rename_i r hr; simp only [eqIface_add hi hr]; exact h
    · cases h
  case entry x => simp only [pev] at h ⊢; exact entry_add hi h
  all_goals exact h

theorem pev_still {q : POp} (hr : reads q = false) (ρ : Operand → Value) (σ σ' : CW) : pev q ρ σ = pev q ρ σ' := by
  cases q <;> first | rfl | cases hr

end
end Go.Cn
