/- Reading, writing and making memory: the canonical heap's steps and the model's. -/
import Derived.Test.YtdepohnidjndjaaCnRel
import Derived.Laws.Cells
namespace Go.Cn
set_option linter.unusedSimpArgs false
set_option linter.unusedVariables false

theorem Addr.add_none (B off n : Nat) : (⟨B, off, none⟩ : Addr).add n = ⟨B, off + n, none⟩ := by
  unfold Addr.add; split
  · rename_i h; subst h; rfl
  · rfl

theorem row_some {σ : CW} {b : Nat} {c : List Value} (h : σ.row b = some c) : ∃ E cl rel, σ.heap b = some (.cells c E cl rel) := by
  unfold CW.row at h
  split at h
  · rename_i c' E cl rel e; cases h; exact ⟨E, cl, rel, e⟩
  · cases h

theorem ObjRel.cells_inv {P : Program} {β : Ren} {i : BI} {c : List Value} {E : TypeId} {cl rel : Nat} {o' : Option Obj} (h : ObjRel P β i (.cells c E cl rel) o') :
    ∃ c' fr, o' = some (.cells c' i.E fr) ∧ E = i.E ∧ c'.size = i.N ∧ c.length + i.sh ≤ i.N ∧ (i.wr = true → Soft P i.E i.N fr) ∧
      ∀ k v, c[k]? = some v → ∃ v', c'[k + i.sh]? = some v' ∧ VRel P β v v' := by
  cases o' with
  | none => exact h.elim
  | some o' =>
    cases o' <;> first | exact h.elim | skip
    rename_i c' E' fr
    obtain ⟨h1, h2, h3, h4, h5, h6⟩ := h
    subst h2
    exact ⟨c', fr, rfl, h1, h3, h4, h5, h6⟩

theorem Rel.cellAt {P : Program} {β : Ren} {σ : CW} {w : World} (h : Rel P β σ w) {b k : Nat} {i : BI} {c : List Value} {v : Value} (hr : σ.row b = some c) (hk : c[k]? = some v)
    (hb : β b = some i) : ∃ v', w.cell? ⟨i.B, k + i.sh, none⟩ = some v' ∧ VRel P β v v' := by
  obtain ⟨E, cl, rel, e⟩ := row_some hr
  obtain ⟨c', fr, hB, _, _, _, _, hcs⟩ := (h.obj b i _ hb e).cells_inv
  obtain ⟨v', h1, h2⟩ := hcs k v hk
  exact ⟨v', by simp [World.cell?, hB, h1], h2⟩

theorem takeAt_some {l r : List Value} {i n : Nat} (h : takeAt l i n = some r) : i + n ≤ l.length ∧ r = (l.drop i).take n := by
  unfold takeAt at h
  split at h
  · rename_i hl; cases h; exact ⟨hl, rfl⟩
  · cases h

theorem Rel.loads {P : Program} {β : Ren} {σ : CW} {w : World} (h : Rel P β σ w) {b off n : Nat} {i : BI} {c r : List Value} (hr : σ.row b = some c) (ht : takeAt c off n = some r) (hb : β b = some i) :
    ∃ r', LRel P β r r' ∧ r.length = n ∧ ∀ w1 : World, w1.heap = w.heap → (loadCells ⟨i.B, off + i.sh, none⟩ n).run P w1 = .ok r'.toArray w1 := by
  obtain ⟨hl, rfl⟩ := takeAt_some ht
  have hlen : ((c.drop off).take n).length = n := by simp; omega
  have key : ∀ j, j < n → ∃ v', w.cell? ⟨i.B, off + j + i.sh, none⟩ = some v' ∧ ∀ x, ((c.drop off).take n)[j]? = some x → VRel P β x v' := by
    intro j hj
    have hx : c[off + j]? = some c[off + j] := by simp
    obtain ⟨v', h1, h2⟩ := h.cellAt hr hx hb
    refine ⟨v', h1, fun x hx' => ?_⟩
    rw [List.getElem?_take, if_pos hj, List.getElem?_drop, hx] at hx'
    cases hx'; exact h2
  let f : Nat → Value := fun j => (w.cell? ⟨i.B, off + j + i.sh, none⟩).getD undef
  refine ⟨(List.range n).map f, ⟨by simp; omega, fun j x y hx hy => ?_⟩, hlen, ?_⟩
  · have hj : j < n := by
      have := (List.getElem?_eq_some_iff.1 hx).1
      rw [hlen] at this; exact this
    obtain ⟨v', h1, h2⟩ := key j hj
    simp only [List.getElem?_map, List.getElem?_range hj, Option.map_some, Option.some.injEq] at hy
    have : y = v' := by rw [← hy]; simp [f, h1]
    rw [this]; exact h2 x hx
  · intro w1 hw1
    refine run_loadCells w1 _ n f fun j hj => ?_
    obtain ⟨v', h1, _⟩ := key j hj
    rw [Addr.add_none]
    have hcell : ∀ y : Addr, w1.cell? y = w.cell? y := fun y => by simp only [World.cell?, hw1]
    rw [hcell]
    have : off + i.sh + j = off + j + i.sh := by omega
    rw [this, h1]; simp [f, h1]

/-- One block has turned. -/
structure UpdB (w w' : World) (B : Nat) (o : Obj) : Prop where
  size : w'.heap.size = w.heap.size
  get : ∀ j, w'.heap[j]? = if j = B then some o else w.heap[j]?
  os : w'.os = w.os
  out : w'.output = w.output
  tape : w'.tape = w.tape

theorem lt_of_get {w : World} {B : Nat} {o : Obj} (h : w.heap[B]? = some o) : B < w.heap.size := by
  rcases Nat.lt_or_ge B w.heap.size with h' | h'
  · exact h'
  · simp [Array.getElem?_eq_none h'] at h

theorem UpdB.setCell {w : World} {B off : Nat} {c : Array Value} {E : TypeId} {fr : Nat × Nat} (h : w.heap[B]? = some (.cells c E fr)) (v : Value) :
    UpdB w (w.setCell ⟨B, off, none⟩ v) B (.cells (c.setIfInBounds off v) E fr) where
  size := by simp
  get := by
    intro j
    simp only [World.setCell, Array.getElem?_modify]
    by_cases hj : B = j
    · subst hj; simp [h]
    · simp [hj, Ne.symm hj]
  os := rfl
  out := rfl
  tape := rfl

theorem UpdB.trans {w w1 w2 : World} {B : Nat} {o o' : Obj} (h : UpdB w w1 B o) (g : UpdB w1 w2 B o') : UpdB w w2 B o' where
  size := g.size.trans h.size
  get := by intro j; rw [g.get]; split
            · rfl
            · rename_i hj; rw [h.get, if_neg hj]
  os := g.os.trans h.os
  out := g.out.trans h.out
  tape := g.tape.trans h.tape

theorem run_storeCells {P : Program} {B off : Nat} {E : TypeId} {fr : Nat × Nat} : ∀ (vs : List Value) (i : Nat) (w : World) (c : Array Value), w.heap[B]? = some (.cells c E fr) →
    (∀ v ∈ vs, v.oneCell' = true) → off + i + vs.length ≤ c.size → (∀ k, k < c.size → (fr.1 ≤ k && k < fr.2) = false) →
    ∃ w' c2, (storeCells ⟨B, off, none⟩ vs i).run P w = .ok () w' ∧ UpdB w w' B (.cells c2 E fr) ∧ c2.size = c.size ∧
      ∀ k, c2[k]? = if off + i ≤ k ∧ k < off + i + vs.length then vs[k - (off + i)]? else c[k]?
  | [], i, w, c, hB, _, _, _ => by
    refine ⟨w, c, rfl, ⟨rfl, fun j => ?_, rfl, rfl, rfl⟩, rfl, fun k => ?_⟩
    · split
      · rename_i hj; rw [hj]; exact hB
      · rfl
    · rw [if_neg]; simp only [List.length_nil]; omega
  | v :: vs, i, w, c, hB, hone, hfit, hs => by
    simp only [List.length_cons] at hfit
    have hlt : off + i < c.size := by omega
    have hu := UpdB.setCell (off := off + i) hB v
    have hcell : w.cell? ⟨B, off + i, none⟩ = some (c[off + i]'hlt) := by simp [World.cell?, hB, hlt]
    have hfz : w.frozen? ⟨B, off + i, none⟩ = false := by simp only [World.frozen?, hB]; exact hs (off + i) hlt
    obtain ⟨w', c2, hr, hu2, hsz, hc2⟩ := run_storeCells (P := P) (off := off) (B := B) (E := E) (fr := fr) vs (i + 1) (w.setCell ⟨B, off + i, none⟩ v) (c.setIfInBounds (off + i) v)
      (by rw [hu.get, if_pos rfl]) (fun x hx => hone x (by simp [hx])) (by simp only [Array.size_setIfInBounds]; omega) (by simpa using hs)
    refine ⟨w', c2, ?_, hu.trans hu2, by simpa using hsz, fun k => ?_⟩
    · simp only [storeCells, Sem.run_bind, Addr.add_none]
      rw [run_store P w _ v _ (hone v (by simp))]
      simp only [hcell, hfz]
      exact hr
    · rw [hc2 k]
      simp only [List.length_cons]
      by_cases hk : k = off + i
      · subst hk
        have h1 : ¬ (off + (i + 1) ≤ off + i ∧ off + i < off + (i + 1) + vs.length) := by omega
        have h2 : off + i ≤ off + i ∧ off + i < off + i + (vs.length + 1) := by omega
        have h3 : off + i < c.size := by omega
        rw [if_neg h1, if_pos h2]
        simp [h3]
      · by_cases hin : off + (i + 1) ≤ k ∧ k < off + (i + 1) + vs.length
        · have h2 : off + i ≤ k ∧ k < off + i + (vs.length + 1) := by omega
          rw [if_pos hin, if_pos h2]
          have : k - (off + i) = (k - (off + (i + 1))) + 1 := by omega
          rw [this]; simp
        · have h2 : ¬ (off + i ≤ k ∧ k < off + i + (vs.length + 1)) := by omega
          rw [if_neg hin, if_neg h2]
          rw [Array.getElem?_setIfInBounds_ne (by omega)]

theorem putAt_some {l r : List Value} {i : Nat} {vs : List Value} (h : putAt l i vs = some r) : i + vs.length ≤ l.length ∧ r.length = l.length ∧
    ∀ k, r[k]? = if i ≤ k ∧ k < i + vs.length then vs[k - i]? else l[k]? := by
  unfold putAt at h
  split at h
  · rename_i hl
    cases h
    refine ⟨hl, by simp; omega, fun k => ?_⟩
    have hlen : (l.take i).length = i := by simp; omega
    by_cases h1 : k < i
    · rw [if_neg (by omega), List.append_assoc, List.getElem?_append_left (by omega), List.getElem?_take, if_pos h1]
    · by_cases h2 : k < i + vs.length
      · rw [if_pos (by omega), List.append_assoc, List.getElem?_append_right (by omega), hlen, List.getElem?_append_left (by omega)]
      · rw [if_neg (by omega), List.getElem?_append_right (by simp; omega), List.getElem?_drop]
        congr 1; simp; omega
  · cases h

theorem members_ro {σ : CW} (hi : CInv σ) {b : Nat} {c : List Value} {E : TypeId} {cl rel : Nat} (hb : σ.heap b = some (.cells c E cl rel)) (hro : σ.ro ≤ b) :
    ∀ m ∈ σ.members cl, σ.ro ≤ m.1 ∧ m.1 < σ.next := by
  intro m hm
  have hmem := (hi.mem b c E cl rel hb).1
  unfold CW.members at hm hmem
  cases hc : σ.cls cl with
  | some l => rw [hc] at hm; exact (hi.cls cl l hc).2 m hm
  | none =>
    rw [hc] at hm hmem
    simp only at hm hmem
    split at hm
    · rename_i l E' c' r' hh
      simp only [hh] at hmem
      simp only [List.mem_singleton] at hm hmem
      subst hm
      have : b = cl := congrArg Prod.fst hmem
      subst this
      refine ⟨hro, ?_⟩
      rcases Nat.lt_or_ge b σ.next with h | h
      · exact h
      · rw [hi.fresh b h] at hh; cases hh
    · simp at hm

theorem heap_lt {σ : CW} (hi : CInv σ) {b : Nat} {o : CObj} (h : σ.heap b = some o) : b < σ.next := by
  rcases Nat.lt_or_ge b σ.next with h' | h'
  · exact h'
  · rw [hi.fresh b h'] at h; cases h

/-- what is there of another row behind a touch -/
theorem kill_live {b p : Nat} {l : List (Nat × Nat)} {h : Nat → Option CObj} {n : Nat} {o : CObj} (hk : killL b p l h n = some o) (hd : o ≠ .dead) :
    h n = some o ∧ (n ≠ b → ∀ m ∈ l, m.1 = n → m.2 ≤ p) := by
  unfold killL at hk
  split at hk
  · cases hk; exact absurd rfl hd
  · rename_i hn
    refine ⟨hk, fun hb m hm he => ?_⟩
    rcases Nat.lt_or_ge p m.2 with h1 | h1
    · exact absurd ⟨hb, m, hm, he, h1⟩ hn
    · exact h1
theorem kill_or {b p : Nat} {l : List (Nat × Nat)} {h : Nat → Option CObj} (n : Nat) : killL b p l h n = h n ∨ (killL b p l h n = some .dead ∧ n ≠ b ∧ ∃ m ∈ l, m.1 = n) := by
  unfold killL
  split
  · rename_i hn; exact .inr ⟨rfl, hn.1, let ⟨m, hm, he, _⟩ := hn.2; ⟨m, hm, he⟩⟩
  · exact .inl rfl
theorem kill_self {b p : Nat} {l : List (Nat × Nat)} {h : Nat → Option CObj} : killL b p l h b = h b := by
  unfold killL; rw [if_neg]; simp

end Go.Cn
