/- Copies, clears, bytes that a text was made of; all operations but calls. -/
import Derived.Test.YtfagmflapdgcmaaDoorCnOps8
namespace Go.Cn
set_option linter.unusedVariables false
set_option linter.unusedSimpArgs false

section ops
variable {P : Program} {β : Ren} {σ : CW} {w : World} {ev' ρ : Operand → Value} {o : Oper} {v : Value} {σ' : CW}

theorem e_copy {c : Call} {t u e : TypeId} {sz : Nat} {d s : Operand} (h : Rel P β σ w) (ho : o.op = .call c) (hc : c.callee = .builtin .copy) (hat : c.argTypes = #[t, u]) (ha : c.args = #[d, s])
    (ht : P.underlying t = some (.slice e)) (hsz : szOf P e = some sz) (hd : VRel P β (ev' d) (ρ d)) (hs : VRel P β (ev' s) (ρ s)) (hp : eev (.copy sz d s) ev' σ = some (v, σ')) : Does P ρ o β σ w v σ' := by
  have hex : ∀ w' y, (Builtin.copy_ #[t, u] o.type #[ρ d, ρ s]).run P w = .ok y w' → (execOp ρ o).run P w = .ok (.value y) w' := by
    intro w' y hw'
    simp [execOp, ho, resolve, hc, ha, hat, invoke, builtin, hw']
  simp only [eev] at hp
  split at hp
  case h_2 => cases hp
  rename_i base dLen dCap m ed hln
  split at hp
  case h_2 => cases hp
  rename_i vs hvs
  have hlen := lenV_rel (P := P) (w := w) hln hs
  obtain ⟨vs', h1, h2, h3⟩ := r_first h hs hln (Nat.min_le_left m dLen) hvs
  have hcopy : ∀ (base' : Option Addr) (cap' : Nat) (w' : World), (∀ a ∈ base', (storeCells a vs').run P w = .ok () w') → (base' = none → w' = w) →
      (Builtin.copy_ #[t, u] o.type #[.slice base' dLen cap', ρ s]).run P w = .ok (goInt (Nat.min m dLen)) w' := by
    intro base' cap' w' k1 k2
    simp only [Builtin.copy_, Sem.run_bind, List.getElem?_toArray, List.getElem?_cons_zero, List.getElem?_cons_succ, r_und ht, Result.andThen, hlen, r_size hsz, h3 w rfl, Sem.run_pure]
    cases base' with
    | none => rw [k2 rfl]; rfl
    | some a => simp only [Sem.run_bind, k1 a rfl, Result.andThen, Sem.run_pure]
  split at hp
  · simp only [Option.some.injEq, Prod.mk.injEq] at hp
    obtain ⟨rfl, rfl⟩ := hp
    obtain ⟨rfl, rfl, q⟩ := (ed ▸ hd).nilSlice_inv
    refine ⟨_, w, β, hex w _ (by rw [q]; exact hcopy none 0 w (by simp) (fun _ => rfl)), .inl ⟨_, rfl, .int _ _⟩, .refl h⟩
  · rename_i a
    obtain ⟨_, hlc, a', c', q, hcc, hor⟩ := (ed ▸ hd).slice_inv
    split at hp
    · rename_i hnil
      simp only [Option.some.injEq, Prod.mk.injEq] at hp
      obtain ⟨rfl, rfl⟩ := hp
      have : vs' = [] := by have := h1.1; rw [hnil] at this; exact List.length_eq_zero_iff.1 this.symm
      subst this
      refine ⟨_, w, β, hex w _ (by rw [q]; exact hcopy (some a') c' w (fun _ _ => rfl) (fun h => by cases h)), .inl ⟨_, rfl, .int _ _⟩, .refl h⟩
    · rename_i hnil
      split at hp
      case h_2 => cases hp
      rename_i σ1 hput
      simp only [Option.some.injEq, Prod.mk.injEq] at hp
      obtain ⟨rfl, rfl⟩ := hp
      obtain ⟨hs1, hs2⟩ := put_row hput
      have hpos : 0 < dLen := by
        rcases Nat.eq_zero_or_pos dLen with h0 | h0
        · exfalso; apply hnil; apply List.length_eq_zero_iff.1; rw [h2, h0]; simp
        · exact h0
      rcases hor with hz0 | ⟨i, hi, rfl, hspan⟩
      · omega
      · rw [hs2] at hput
        obtain ⟨w', k1, k2⟩ := h.put hi hput h1
        exact ⟨_, w', β, hex w' _ (by rw [q]; exact hcopy (some _) c' w' (fun y hy => by cases hy; exact k1) (fun h => by cases h)), .inl ⟨_, rfl, .int _ _⟩, k2⟩

theorem e_clearV {c : Call} {t e : TypeId} {z : Value} {s : Operand} (h : Rel P β σ w) (ho : o.op = .call c) (hc : c.callee = .builtin .clear) (hat : c.argTypes = #[t]) (ha : c.args = #[s])
    (ht : P.underlying t = some (.slice e)) (hz : zeroP P e = some z) (hz0 : (cellsOf z).length ≠ 0) (hs : VRel P β (ev' s) (ρ s)) (hp : eev (.clearV (cellsOf z) s) ev' σ = some (v, σ')) : Does P ρ o β σ w v σ' := by
  obtain ⟨hz1, hz2⟩ := zeroP_some hz
  have hex : ∀ w' y, (Builtin.clear_ #[t] o.type #[ρ s]).run P w = .ok y w' → (execOp ρ o).run P w = .ok (.value y) w' := by
    intro w' y hw'
    simp [execOp, ho, resolve, hc, ha, hat, invoke, builtin, hw']
  simp only [eev] at hp
  split at hp
  · rename_i l cp es
    simp only [Option.some.injEq, Prod.mk.injEq] at hp
    obtain ⟨rfl, rfl⟩ := hp
    obtain ⟨_, _, q⟩ := (es ▸ hs).nilSlice_inv
    refine ⟨_, w, β, hex w (.tuple #[]) ?_, .inl ⟨_, rfl, .undef⟩, .refl h⟩
    simp [Builtin.clear_, r_und ht, q]
  · rename_i a n cp es
    obtain ⟨_, hlc, a', c', q, hcc, hor⟩ := (es ▸ hs).slice_inv
    split at hp
    · rename_i hn0
      subst hn0
      simp only [Option.some.injEq, Prod.mk.injEq] at hp
      obtain ⟨rfl, rfl⟩ := hp
      refine ⟨_, w, β, hex w (.tuple #[]) ?_, .inl ⟨_, rfl, .undef⟩, .refl h⟩
      simp [Builtin.clear_, r_und ht, q]
    · rename_i hn0
      split at hp
      case h_2 => cases hp
      rename_i σ1 hput
      simp only [Option.some.injEq, Prod.mk.injEq] at hp
      obtain ⟨rfl, rfl⟩ := hp
      obtain ⟨hs1, hs2⟩ := put_row hput
      rcases hor with hz0 | ⟨i, hi, rfl, hspan⟩
      · omega
      · rw [hs2] at hput
        have hzr := zeros_rel (P := P) (β := β) hz2 rfl hz0 (len := n)
        have hzc : (Builtin.zeroCells z.cells n).toList = ((Array.range (n * (cellsOf z).length)).map (z.cells[· % z.cells.size]!)).toList := by
          unfold Builtin.zeroCells
          rw [show z.cells.size = (cellsOf z).length from (lrel_size (plain_cells (P := P) (β := β) hz2)).symm]
        obtain ⟨w', k1, k2⟩ := h.put hi hput hzr
        refine ⟨_, w', β, hex w' (.tuple #[]) ?_, .inl ⟨_, rfl, .undef⟩, k2⟩
        obtain ⟨m, rfl⟩ : ∃ m, n = m + 1 := ⟨n - 1, by omega⟩
        rw [← hzc] at k1
        simp [Builtin.clear_, r_und ht, q, r_zero hz1, k1]
  · cases hp

/-- A row's marks turn. -/
theorem Rel.mark {b : Nat} {i : BI} {c : List Value} {E : TypeId} {cl rel : Nat} {c1 : Array Value} {fr : Nat × Nat} {w' : World} (h : Rel P β σ w) (hb : β b = some i) (hro : σ.ro ≤ b) (hB : w.heap[i.B]? = some (.cells c1 i.E fr))
    {fr' : Nat × Nat} (hs : Soft P i.E i.N fr') (hsz : c1.size = i.N) (hu : UpdB w w' i.B (.cells c1 i.E fr')) : Stp P β σ w β σ w' where
  le := .refl _
  new := fun _ _ h => .inl h
  next := Nat.le_refl _
  ro := rfl
  inj := rfl
  cfr := fun _ _ _ => .inl rfl
  size := by rw [hu.size]; exact Nat.le_refl _
  afr := by intro B hB' hne; rw [hu.get, if_neg (fun e => hne b i hb hro e.symm)]
  os := hu.os
  out := hu.out
  tape := hu.tape
  rel :=
  { inv := h.inv
    wr := h.wr
    lt := fun n j hn => ⟨(h.lt n j hn).1, by rw [hu.size]; exact (h.lt n j hn).2⟩
    obj := by
      intro n j o hn ho
      have hold := h.obj n j o hn ho
      by_cases hjB : j.B = i.B
      · rw [hu.get, if_pos hjB]
        cases o with
        | dead => trivial
        | map es _ => rw [hjB, hB] at hold; exact hold.elim
        | iter _ _ _ => rw [hjB, hB] at hold; exact hold.elim
        | loop _ _ _ _ _ _ => rw [hjB, hB] at hold; exact hold.elim
        | cells cs E' cl' rel' =>
          rw [hjB, hB] at hold
          obtain ⟨h1, h2, h3, h4, h5, h6⟩ := hold
          exact ⟨h1, h2, h3, h4, fun _ => by rw [← h2, ← h3, hsz]; exact hs, h6⟩
      · rw [hu.get, if_neg hjB]; exact hold
    alias := h.alias
    here := h.here
    iters := h.iters.keep (.refl _) (Nat.le_refl _) (fun _ _ h => .inl h) (fun _ _ _ _ h _ => h) fun n j o hn ho hmi => by
      by_cases hjB : j.B = i.B
      · rw [hjB, hB] at ho; cases ho; cases hmi
      · rw [hu.get, if_neg hjB]; exact ho }

theorem freeze_upd {B n : Nat} {c : Array Value} {E : TypeId} {fr : Nat × Nat} (h : w.heap[B]? = some (.cells c E fr)) :
    UpdB w (w.freeze ⟨B, n, none⟩ 1) B (.cells c E (if fr.1 == fr.2 then (n, n + 1) else (min fr.1 n, max fr.2 (n + 1)))) where
  size := by simp [World.freeze]
  get := by
    intro j
    simp only [World.freeze]
    rw [if_neg (by decide)]
    simp only [Array.getElem?_modify]
    by_cases hj : B = j
    · subst hj; simp [h]
    · simp [hj, Ne.symm hj]
  os := by unfold World.freeze; rw [if_neg (by decide)]
  out := by unfold World.freeze; rw [if_neg (by decide)]
  tape := by unfold World.freeze; rw [if_neg (by decide)]

theorem e_strish {t e : TypeId} {x : Operand} (h : Rel P β σ w) (ho : o.op = .convert t t x) (ht : P.underlying t = some (.slice e)) (he : P.underlying e = some (.int .u8)) (hx : VRel P β (ev' x) (ρ x))
    (hp : eev (.strish e x) ev' σ = some (v, σ')) : Does P ρ o β σ w v σ' := by
  simp only [eev] at hp
  split at hp
  case h_2 => cases hp
  rename_i a n c ex
  split at hp
  case h_2 => cases hp
  rename_i row hrow
  split at hp
  case isFalse => cases hp
  rename_i hcond
  obtain ⟨hsp, hro, hc0, hel⟩ := hcond
  simp only [Option.some.injEq, Prod.mk.injEq] at hp
  obtain ⟨rfl, rfl⟩ := hp
  have hx' := hx
  rw [ex] at hx'
  obtain ⟨_, hlc, a', c', q, hcc, hor⟩ := hx'.slice_inv
  rcases hor with hz0 | ⟨i, hi, rfl, hspan⟩
  · omega
  · obtain ⟨E, cl, rel, hr⟩ := row_some hrow
    obtain ⟨c1, fr, hB, hE, hN, hcN, hsoft', hcs⟩ := (h.obj _ i _ hi hr).cells_inv
    have hsoft := hsoft' (h.wr.2 _ i hi (.inl hro))
    have hEe : i.E = e := by
      unfold CW.elemIs at hel
      rw [hr] at hel
      rw [← hE]; exact Nat.eq_of_beq_eq_true hel
    have hu := freeze_upd (n := c1.size) hB
    refine ⟨.value (ρ x), w.freeze ⟨i.B, c1.size, none⟩ 1, β, ?_, .inl ⟨_, rfl, by rw [← ex]; exact hx⟩, h.mark (c := row) (cl := cl) (rel := rel) (E := E) hi hro hB ?_ hN hu⟩
    · have hsh : w.shape? i.B = some (i.E, c1.size) := by simp [World.shape?, hB]
      simp only [execOp, ho, q, convert, Sem.run_bind, r_und ht, r_und he, Result.andThen, beq_self_eq_true, markStringish, run_shape, hsh, run_freeze, Sem.run_pure]
    · refine .inr ⟨?_, by rw [hEe]; exact he⟩
      rw [hN]
      rcases hsoft with rfl | ⟨h1, _⟩
      · simp
      · split
        · exact Nat.le_refl _
        · show i.N ≤ min fr.1 i.N; omega

end ops
end Go.Cn
