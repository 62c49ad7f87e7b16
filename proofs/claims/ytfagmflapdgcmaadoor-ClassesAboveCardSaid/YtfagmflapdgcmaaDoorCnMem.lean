/- Reading, writing and making memory: the canonical heap's steps and the model's. -/
import Derived.Test.YtfagmflapdgcmaaDoorCnRel
import Derived.Laws.Cells
namespace Go.Cn
set_option linter.unusedSimpArgs false
set_option linter.unusedVariables false

theorem Addr.add_none (B off n : Nat) : (⟨B, off, none⟩ : Addr).add n = ⟨B, off + n, none⟩ := by
  unfold Addr.add; split
  · rename_i h; subst h; rfl
  · rfl

theorem row_some {σ : CW} {b : Nat} {c : List Value} (h : σ.row b = some c) : ∃ E cl rel, σ.heap b = some (.cells c E cl rel) := by
  unfold CW.row at h
  split at h
  · rename_i c' E cl rel e; cases h; exact ⟨E, cl, rel, e⟩
  · cases h

theorem ObjRel.cells_inv {P : Program} {β : Ren} {i : BI} {c : List Value} {E : TypeId} {cl rel : Nat} {o' : Option Obj} (h : ObjRel P β i (.cells c E cl rel) o') :
    ∃ c' fr, o' = some (.cells c' i.E fr) ∧ E = i.E ∧ c'.size = i.N ∧ c.length + i.sh ≤ i.N ∧ (i.wr = true → Soft P i.E i.N fr) ∧
      ∀ k v, c[k]? = some v → ∃ v', c'[k + i.sh]? = some v' ∧ VRel P β v v' := by
  cases o' with
  | none => exact h.elim
  | some o' =>
    cases o' <;> first | exact h.elim | skip
    rename_i c' E' fr
    obtain ⟨h1, h2, h3, h4, h5, h6⟩ := h
    subst h2
    exact ⟨c', fr, rfl, h1, h3, h4, h5, h6⟩

theorem Rel.cellAt {P : Program} {β : Ren} {σ : CW} {w : World} (h : Rel P β σ w) {b k : Nat} {i : BI} {c : List Value} {v : Value} (hr : σ.row b = some c) (hk : c[k]? = some v)
    (hb : β b = some i) : ∃ v', w.cell? ⟨i.B, k + i.sh, none⟩ = some v' ∧ VRel P β v v' := by
  obtain ⟨E, cl, rel, e⟩ := row_some hr
  obtain ⟨c', fr, hB, _, _, _, _, hcs⟩ := (h.obj b i _ hb e).cells_inv
  obtain ⟨v', h1, h2⟩ := hcs k v hk
  exact ⟨v', by simp [World.cell?, hB, h1], h2⟩

theorem takeAt_some {l r : List Value} {i n : Nat} (h : takeAt l i n = some r) : i + n ≤ l.length ∧ r = (l.drop i).take n := by
  unfold takeAt at h
  split at h
  · rename_i hl; cases h; exact ⟨hl, rfl⟩
  · cases h

theorem Rel.loads {P : Program} {β : Ren} {σ : CW} {w : World} (h : Rel P β σ w) {b off n : Nat} {i : BI} {c r : List Value} (hr : σ.row b = some c) (ht : takeAt c off n = some r) (hb : β b = some i) :
    ∃ r', LRel P β r r' ∧ r.length = n ∧ ∀ w1 : World, w1.heap = w.heap → (loadCells ⟨i.B, off + i.sh, none⟩ n).run P w1 = .ok r'.toArray w1 := by
  obtain ⟨hl, rfl⟩ := takeAt_some ht
  have hlen : ((c.drop off).take n).length = n := by simp; omega
  have key : ∀ j, j < n → ∃ v', w.cell? ⟨i.B, off + j + i.sh, none⟩ = some v' ∧ ∀ x, ((c.drop off).take n)[j]? = some x → VRel P β x v' := by
    intro j hj
    have hx : c[off + j]? = some c[off + j] := by simp
    obtain ⟨v', h1, h2⟩ := h.cellAt hr hx hb
    refine ⟨v', h1, fun x hx' => ?_⟩
    rw [List.getElem?_take, if_pos hj, List.getElem?_drop, hx] at hx'
    cases hx'; exact h2
  let f : Nat → Value := fun j => (w.cell? ⟨i.B, off + j + i.sh, none⟩).getD undef
  refine ⟨(List.range n).map f, ⟨by simp; omega, fun j x y hx hy => ?_⟩, hlen, ?_⟩
  · have hj : j < n := by
      have := (List.getElem?_eq_some_iff.1 hx).1
      rw [hlen] at this; exact this
    obtain ⟨v', h1, h2⟩ := key j hj
    simp only [List.getElem?_map, List.getElem?_range hj, Option.map_some, Option.some.injEq] at hy
    have : y = v' := by rw [← hy]; simp [f, h1]
    rw [this]; exact h2 x hx
  · intro w1 hw1
    refine run_loadCells w1 _ n f fun j hj => ?_
    obtain ⟨v', h1, _⟩ := key j hj
    rw [Addr.add_none]
    have hcell : ∀ y : Addr, w1.cell? y = w.cell? y := fun y => by simp only [World.cell?, hw1]
    rw [hcell]
    have : off + i.sh + j = off + j + i.sh := by omega
    rw [this, h1]; simp [f, h1]

/-- One block has turned. -/
structure UpdB (w w' : World) (B : Nat) (o : Obj) : Prop where
  size : w'.heap.size = w.heap.size
  get : ∀ j, w'.heap[j]? = if j = B then some o else w.heap[j]?
  os : w'.os = w.os
  out : w'.output = w.output
  tape : w'.tape = w.tape

theorem lt_of_get {w : World} {B : Nat} {o : Obj} (h : w.heap[B]? = some o) : B < w.heap.size := by
  rcases Nat.lt_or_ge B w.heap.size with h' | h'
  · exact h'
  · simp [Array.getElem?_eq_none h'] at h

theorem UpdB.setCell {w : World} {B off : Nat} {c : Array Value} {E : TypeId} {fr : Nat × Nat} (h : w.heap[B]? = some (.cells c E fr)) (v : Value) :
    UpdB w (w.setCell ⟨B, off, none⟩ v) B (.cells (c.setIfInBounds off v) E fr) where
  size := by simp
  get := by
    intro j
    simp only [World.setCell, Array.getElem?_modify]
    by_cases hj : B = j
    · subst hj; simp [h]
    · simp [hj, Ne.symm hj]
  os := rfl
  out := rfl
  tape := rfl

theorem UpdB.trans {w w1 w2 : World} {B : Nat} {o o' : Obj} (h : UpdB w w1 B o) (g : UpdB w1 w2 B o') : UpdB w w2 B o' where
  size := g.size.trans h.size
  get := by intro j; rw [g.get]; split
            · rfl
            · rename_i hj; rw [h.get, if_neg hj]
  os := g.os.trans h.os
  out := g.out.trans h.out
  tape := g.tape.trans h.tape

theorem run_storeCells {P : Program} {B off : Nat} {E : TypeId} {fr : Nat × Nat} : ∀ (vs : List Value) (i : Nat) (w : World) (c : Array Value), w.heap[B]? = some (.cells c E fr) →
    (∀ v ∈ vs, v.oneCell' = true) → off + i + vs.length ≤ c.size → (∀ k, k < c.size → (fr.1 ≤ k && k < fr.2) = false) →
    ∃ w' c2, (storeCells ⟨B, off, none⟩ vs i).run P w = .ok () w' ∧ UpdB w w' B (.cells c2 E fr) ∧ c2.size = c.size ∧
      ∀ k, c2[k]? = if off + i ≤ k ∧ k < off + i + vs.length then vs[k - (off + i)]? else c[k]?
  | [], i, w, c, hB, _, _, _ => by
    refine ⟨w, c, rfl, ⟨rfl, fun j => ?_, rfl, rfl, rfl⟩, rfl, fun k => ?_⟩
    · split
      · rename_i hj; rw [hj]; exact hB
      · rfl
    · rw [if_neg]; simp only [List.length_nil]; omega
  | v :: vs, i, w, c, hB, hone, hfit, hs => by
    simp only [List.length_cons] at hfit
    have hlt : off + i < c.size := by omega
    have hu := UpdB.setCell (off := off + i) hB v
    have hcell : w.cell? ⟨B, off + i, none⟩ = some (c[off + i]'hlt) := by simp [World.cell?, hB, hlt]
    have hfz : w.frozen? ⟨B, off + i, none⟩ = false := by simp only [World.frozen?, hB]; exact hs (off + i) hlt
    obtain ⟨w', c2, hr, hu2, hsz, hc2⟩ := run_storeCells (P := P) (off := off) (B := B) (E := E) (fr := fr) vs (i + 1) (w.setCell ⟨B, off + i, none⟩ v) (c.setIfInBounds (off + i) v)
      (by rw [hu.get, if_pos rfl]) (fun x hx => hone x (by simp [hx])) (by simp only [Array.size_setIfInBounds]; omega) (by simpa using hs)
    refine ⟨w', c2, ?_, hu.trans hu2, by simpa using hsz, fun k => ?_⟩
    · simp only [storeCells, Sem.run_bind, Addr.add_none]
      rw [run_store P w _ v _ (hone v (by simp))]
      simp only [hcell, hfz]
      exact hr
    · rw [hc2 k]
      simp only [List.length_cons]
      by_cases hk : k = off + i
      · subst hk
        have h1 : ¬ (off + (i + 1) ≤ off + i ∧ off + i < off + (i + 1) + vs.length) := by omega
        have h2 : off + i ≤ off + i ∧ off + i < off + i + (vs.length + 1) := by omega
        have h3 : off + i < c.size := by omega
        rw [if_neg h1, if_pos h2]
        simp [h3]
      · by_cases hin : off + (i + 1) ≤ k ∧ k < off + (i + 1) + vs.length
        · have h2 : off + i ≤ k ∧ k < off + i + (vs.length + 1) := by omega
          rw [if_pos hin, if_pos h2]
          have : k - (off + i) = (k - (off + (i + 1))) + 1 := by omega
          rw [this]; simp
        · have h2 : ¬ (off + i ≤ k ∧ k < off + i + (vs.length + 1)) := by omega
          rw [if_neg hin, if_neg h2]
          rw [Array.getElem?_setIfInBounds_ne (by omega)]

theorem putAt_some {l r : List Value} {i : Nat} {vs : List Value} (h : putAt l i vs = some r) : i + vs.length ≤ l.length ∧ r.length = l.length ∧
    ∀ k, r[k]? = if i ≤ k ∧ k < i + vs.length then vs[k - i]? else l[k]? := by
  unfold putAt at h
  split at h
  · rename_i hl
    cases h
    refine ⟨hl, by simp; omega, fun k => ?_⟩
    have hlen : (l.take i).length = i := by simp; omega
    by_cases h1 : k < i
    · rw [if_neg (by omega), List.append_assoc, List.getElem?_append_left (by omega), List.getElem?_take, if_pos h1]
    · by_cases h2 : k < i + vs.length
      · rw [if_pos (by omega), List.append_assoc, List.getElem?_append_right (by omega), hlen, List.getElem?_append_left (by omega)]
      · rw [if_neg (by omega), List.getElem?_append_right (by simp; omega), List.getElem?_drop]
        congr 1; simp; omega
  · cases h

theorem members_ro {σ : CW} (hi : CInv σ) {b : Nat} {c : List Value} {E : TypeId} {cl rel : Nat} (hb : σ.heap b = some (.cells c E cl rel)) (hro : σ.ro ≤ b) :
    ∀ m ∈ σ.members cl, σ.ro ≤ m.1 ∧ m.1 < σ.next := by
  intro m hm
  have hmem := (hi.mem b c E cl rel hb).1
  unfold CW.members at hm hmem
  cases hc : σ.cls cl with
  | some l => rw [hc] at hm; exact (hi.cls cl l hc).2 m hm
  | none =>
    rw [hc] at hm hmem
    simp only at hm hmem
    split at hm
    · rename_i l E' c' r' hh
      simp only [hh] at hmem
      simp only [List.mem_singleton] at hm hmem
      subst hm
      have : b = cl := congrArg Prod.fst hmem
      subst this
      refine ⟨hro, ?_⟩
      rcases Nat.lt_or_ge b σ.next with h | h
      · exact h
      · rw [hi.fresh b h] at hh; cases hh
    · simp at hm

theorem heap_lt {σ : CW} (hi : CInv σ) {b : Nat} {o : CObj} (h : σ.heap b = some o) : b < σ.next := by
  rcases Nat.lt_or_ge b σ.next with h' | h'
  · exact h'
  · rw [hi.fresh b h'] at h; cases h

/-- what is there of another row behind a touch -/
theorem kill_live {b p : Nat} {l : List (Nat × Nat)} {h : Nat → Option CObj} {n : Nat} {o : CObj} (hk : killL b p l h n = some o) (hd : o ≠ .dead) :
    h n = some o ∧ (n ≠ b → ∀ m ∈ l, m.1 = n → m.2 ≤ p) := by
  unfold killL at hk
  split at hk
  · cases hk; exact absurd rfl hd
  · rename_i hn
    refine ⟨hk, fun hb m hm he => ?_⟩
    rcases Nat.lt_or_ge p m.2 with h1 | h1
    · exact absurd ⟨hb, m, hm, he, h1⟩ hn
    · exact h1
theorem kill_or {b p : Nat} {l : List (Nat × Nat)} {h : Nat → Option CObj} (n : Nat) : killL b p l h n = h n ∨ (killL b p l h n = some .dead ∧ n ≠ b ∧ ∃ m ∈ l, m.1 = n) := by
  unfold killL
  split
  · rename_i hn; exact .inr ⟨rfl, hn.1, let ⟨m, hm, he, _⟩ := hn.2; ⟨m, hm, he⟩⟩
  · exact .inl rfl
theorem kill_self {b p : Nat} {l : List (Nat × Nat)} {h : Nat → Option CObj} : killL b p l h b = h b := by
  unfold killL; rw [if_neg]; simp

end Go.Cn

namespace Go.Cn
set_option linter.unusedSimpArgs false
set_option linter.unusedVariables false

theorem members_upd_other {σ : CW} {c cl : Nat} {l : List (Nat × Nat)} {h : Nat → Option CObj} {nx : Nat} {ro inj : Nat} (hc : c ≠ cl)
    (hh : ∀ cs E cl' rel, h c = some (.cells cs E cl' rel) → ∃ cs' E' cl'' rel', σ.heap c = some (.cells cs' E' cl'' rel') ∧ cs'.length = cs.length)
    {m : Nat × Nat} (hm : m ∈ σ.members c) (hlive : ∀ cs' E' cl' rel', σ.cls c = none → σ.heap c = some (.cells cs' E' cl' rel') → ∃ cs E cl'' rel, h c = some (.cells cs E cl'' rel) ∧ cs.length = cs'.length) :
    m ∈ CW.members ⟨h, nx, ro, inj, upd σ.cls cl (some l)⟩ c := by
  unfold CW.members at hm ⊢
  simp only [upd_ne _ _ hc]
  cases e : σ.cls c with
  | some l' => rw [e] at hm; exact hm
  | none =>
    rw [e] at hm
    simp only at hm ⊢
    split at hm
    · rename_i cs' E' cl' rel' hc'
      obtain ⟨cs, E, cl'', rel, h1, h2⟩ := hlive _ _ _ _ e hc'
      simp only [h1, h2]; exact hm
    · simp at hm

theorem mem_singleton_root {σ : CW} {c b n : Nat} (hn : σ.cls c = none) (hm : (b, n) ∈ σ.members c) : b = c := by
  unfold CW.members at hm
  rw [hn] at hm
  simp only at hm
  split at hm
  · simp only [List.mem_singleton] at hm; exact congrArg Prod.fst hm
  · simp at hm

/-- The canonical heap behind a store into a row. -/
def afterPut (σ : CW) (b p : Nat) (c c' : List Value) (E : TypeId) (cl rel : Nat) : CW :=
  { σ.touch cl b p (rel + c.length) with heap := upd (σ.touch cl b p (rel + c.length)).heap b (some (.cells c' E cl rel)) }

theorem afterPut_heap {σ : CW} {b p : Nat} {c c' : List Value} {E : TypeId} {cl rel n : Nat} :
    (afterPut σ b p c c' E cl rel).heap n = if n = b then some (.cells c' E cl rel) else killL b p (σ.members cl) σ.heap n := rfl

theorem CInv.put {σ : CW} (hi : CInv σ) {b p : Nat} {c c' : List Value} {E : TypeId} {cl rel : Nat} (hb : σ.heap b = some (.cells c E cl rel)) (hro : σ.ro ≤ b)
    (hl : c'.length = c.length) : CInv (afterPut σ b p c c' E cl rel) where
  fresh := by
    intro n hn
    have hn' : σ.next ≤ n := hn
    have hbl := heap_lt hi hb
    rw [afterPut_heap, if_neg (by omega)]
    rcases kill_or (b := b) (p := p) (l := σ.members cl) (h := σ.heap) n with h | ⟨_, _, m, hm, he⟩
    · rw [h]; exact hi.fresh n hn'
    · have := (members_ro hi hb hro m hm).2; omega
  mem := by
    intro n cs E' cl' rel' hn
    rw [afterPut_heap] at hn
    by_cases hnb : n = b
    · rw [if_pos hnb] at hn
      cases hn
      subst hnb
      refine ⟨?_, (hi.mem _ _ _ _ _ hb).2⟩
      unfold CW.members
      simp [afterPut, CW.touch, hl]
    · rw [if_neg hnb] at hn
      obtain ⟨h1, h2⟩ := kill_live hn (by simp)
      have hm := hi.mem n cs E' cl' rel' h1
      refine ⟨?_, hm.2⟩
      by_cases hcl : cl' = cl
      · subst hcl
        unfold CW.members
        simp only [afterPut, CW.touch, upd_same]
        refine List.mem_cons_of_mem _ ?_
        unfold keepL
        rw [List.mem_filter]
        refine ⟨hm.1, ?_⟩
        simp only [decide_eq_true_eq]
        exact ⟨hnb, h2 hnb _ hm.1 rfl⟩
      · refine members_upd_other (σ := σ) (nx := σ.next) (ro := σ.ro) (inj := σ.inj) hcl ?_ hm.1 ?_
        · intro cs1 E1 cl1 rel1 hh
          have hh' : (if cl' = b then some (.cells c' E cl rel) else killL b p (σ.members cl) σ.heap cl') = some (.cells cs1 E1 cl1 rel1) := hh
          split at hh'
          · cases hh'; rename_i e; subst e; exact ⟨_, _, _, _, hb, hl.symm⟩
          · exact ⟨_, _, _, _, (kill_live hh' (by simp)).1, rfl⟩
        · intro cs1 E1 cl1 rel1 hnone hh
          have hroot := mem_singleton_root hnone hm.1
          subst hroot
          refine ⟨cs, E', n, rel', ?_, ?_⟩
          · show (if n = b then some (.cells c' E cl rel) else killL b p (σ.members cl) σ.heap n) = _
            rw [if_neg hnb, hn]
          · rw [h1] at hh; cases hh; rfl
  cls := by
    intro n l hn
    have hn' : upd σ.cls cl (some ((b, rel + c.length) :: keepL b p (σ.members cl))) n = some l := hn
    by_cases hc : n = cl
    · subst hc
      rw [upd_same] at hn'
      cases hn'
      refine ⟨(hi.mem _ _ _ _ _ hb).2, fun m hm => ?_⟩
      rcases List.mem_cons.1 hm with h | h
      · subst h; exact ⟨hro, heap_lt hi hb⟩
      · unfold keepL at h
        exact members_ro hi hb hro m (List.mem_filter.1 h).1
    · rw [upd_ne _ _ hc] at hn'
      exact hi.cls n l hn'
  rol := hi.rol

/-- An old row that lives on behind a touch: what of its block was written lies behind its end. -/
theorem alias_end {P : Program} {β : Ren} {σ : CW} {w : World} (h : Rel P β σ w) {b n : Nat} {i j : BI} {c cs : List Value} {E E' : TypeId} {cl rel cl' rel' p : Nat}
    (hb : β b = some i) (hbc : σ.heap b = some (.cells c E cl rel)) (hro : σ.ro ≤ b) (hn : β n = some j) (hnb : n ≠ b) (hB : j.B = i.B) (hnc : σ.heap n = some (.cells cs E' cl' rel'))
    (hk : ∀ m ∈ σ.members cl, m.1 = n → m.2 ≤ p) : σ.ro ≤ n ∧ cl' = cl ∧ j.sh + rel = i.sh + rel' ∧ rel' + cs.length ≤ p := by
  obtain ⟨hr, ha⟩ := h.alias n b j i hnb hn hb hB
  rw [hnc, hbc] at ha
  simp only at ha
  have hnro : σ.ro ≤ n := by
    rcases Nat.lt_or_ge n σ.ro with h1 | h1
    · have := hr.1 h1; omega
    · exact h1
  rcases ha with ⟨h1, _⟩ | ⟨_, h2, h3⟩
  · omega
  · subst h2
    exact ⟨hnro, rfl, h3, hk _ (h.inv.mem n cs E' _ rel' hnc).1 rfl⟩

def isRow : CObj → Bool
  | .cells _ _ _ _ => true
  | .dead => true
  | _ => false

theorem cells_map_alias {P : Program} {β : Ren} {σ : CW} {w : World} (h : Rel P β σ w) {b n : Nat} {i j : BI} {c : List Value} {E : TypeId} {cl rel : Nat} {o : CObj}
    (hb : β b = some i) (hbc : σ.heap b = some (.cells c E cl rel)) (hn : β n = some j) (hnb : n ≠ b) (hB : j.B = i.B) (hnc : σ.heap n = some o) (hno : isRow o = false) : False := by
  obtain ⟨hr, ha⟩ := h.alias n b j i hnb hn hb hB
  rw [hnc, hbc] at ha
  cases o with
  | cells _ _ _ _ => cases hno
  | dead => cases hno
  | map _ _ => exact ha
  | iter _ _ _ => exact ha
  | loop _ _ _ _ _ _ => exact ha

theorem Rel.put {P : Program} {β : Ren} {σ : CW} {w : World} (h : Rel P β σ w) {b off : Nat} {i : BI} {vs vs' : List Value} {σ' : CW} (hb : β b = some i)
    (hp : σ.put ⟨b, off, none⟩ vs = some σ') (hv : LRel P β vs vs') :
    ∃ w', (storeCells ⟨i.B, off + i.sh, none⟩ vs').run P w = .ok () w' ∧ Stp P β σ w β σ' w' := by
  unfold CW.put at hp
  simp only at hp
  split at hp
  case h_2 => cases hp
  rename_i c E cl rel hbc
  split at hp
  case isFalse => cases hp
  rename_i hcond
  obtain ⟨hro, hone⟩ := hcond
  split at hp
  case h_2 => cases hp
  rename_i c' hput
  obtain ⟨hfit, hlen, hget⟩ := putAt_some hput
  have hσ' : σ' = afterPut σ b (rel + off) c c' E cl rel := by cases hp; rfl
  clear hp
  obtain ⟨c1, fr, hB, hE, hN, hcN, hsoft, hcs⟩ := (h.obj b i _ hb hbc).cells_inv
  have hone' : ∀ v ∈ vs', v.oneCell' = true := by
    intro v hvm
    obtain ⟨j, hj, rfl⟩ := List.getElem_of_mem hvm
    have hj' : j < vs.length := by rw [hv.1]; exact hj
    have hr := hv.2 j vs[j] vs'[j] (by simp) (by simp)
    exact hr.oneCell ((List.all_eq_true.1 hone) _ (by simp))
  obtain ⟨w', c2, hrun, hu, hsz, hc2⟩ := run_storeCells (P := P) (off := off + i.sh) (B := i.B) (E := i.E) (fr := fr) vs' 0 w c1 hB hone'
    (by rw [hN, ← hv.1]; omega) (by rw [hN]; exact (hsoft (h.wr.2 b i hb (.inl hro))).cells)
  simp only [Nat.add_zero] at hc2
  have hobjb : ObjRel P β i (.cells c' E cl rel) (some (.cells c2 i.E fr)) := by
    refine ⟨hE, rfl, hsz.trans hN, by rw [hlen]; exact hcN, hsoft, fun k v hk => ?_⟩
    rw [hget] at hk
    rw [hc2]
    split at hk
    · rename_i hin
      obtain ⟨v', h1, h2⟩ := hv.left hk
      refine ⟨v', ?_, h2⟩
      rw [if_pos (by rw [← hv.1]; omega), ← h1]
      congr 1; omega
    · rename_i hin
      obtain ⟨v', h1, h2⟩ := hcs k v hk
      refine ⟨v', ?_, h2⟩
      rw [if_neg (by rw [← hv.1]; omega)]; exact h1
  refine ⟨w', hrun, ?_⟩
  subst hσ'
  have hobj : ∀ n j o, β n = some j → (afterPut σ b (rel + off) c c' E cl rel).heap n = some o → ObjRel P β j o w'.heap[j.B]? := by
    intro n j o hn ho
    rw [afterPut_heap] at ho
    by_cases hnb : n = b
    · subst hnb
      rw [if_pos rfl] at ho
      cases ho
      rw [hb] at hn; cases hn
      rw [hu.get, if_pos rfl]
      exact hobjb
    · rw [if_neg hnb] at ho
      by_cases hd : o = .dead
      · subst hd; trivial
      · obtain ⟨h1, h2⟩ := kill_live ho hd
        have hold := h.obj n j o hn h1
        by_cases hjB : j.B = i.B
        · rw [hu.get, if_pos hjB]
          cases o with
          | dead => exact absurd rfl hd
          | map es _ => exact (cells_map_alias h hb hbc hn hnb hjB h1 rfl).elim
          | iter _ _ _ => exact (cells_map_alias h hb hbc hn hnb hjB h1 rfl).elim
          | loop _ _ _ _ _ _ => exact (cells_map_alias h hb hbc hn hnb hjB h1 rfl).elim
          | cells cs E' cl' rel' =>
            obtain ⟨_, _, h3, h4⟩ := alias_end h hb hbc hro hn hnb hjB h1 (h2 hnb)
            obtain ⟨c3, fr3, e3, g1, g2, g3, g4, g5⟩ := hold.cells_inv
            rw [hjB, hB] at e3
            injection e3 with e3
            injection e3 with e3 e4 e5
            subst e3 e5
            refine ⟨g1, e4, hsz.trans g2, g3, g4, fun k v hk => ?_⟩
            obtain ⟨v', q1, q2⟩ := g5 k v hk
            have hkl : k < cs.length := (List.getElem?_eq_some_iff.1 hk).1
            refine ⟨v', ?_, q2⟩
            rw [hc2, if_neg (by rw [← hv.1]; omega)]; exact q1
        · rw [hu.get, if_neg hjB]; exact hold
  exact
  { le := .refl _
    new := fun _ _ h => .inl h
    next := Nat.le_refl _
    ro := rfl
    inj := rfl
    cfr := by
      intro n hn hnone
      rw [afterPut_heap, if_neg (fun e => by rw [e, hb] at hnone; cases hnone)]
      rcases kill_or (b := b) (p := rel + off) (l := σ.members cl) (h := σ.heap) n with h | ⟨h, _⟩
      · exact .inl h
      · exact .inr h
    size := by rw [hu.size]; exact Nat.le_refl _
    afr := by intro B hB' hne; rw [hu.get, if_neg (fun e => hne b i hb hro e.symm)]
    os := hu.os
    out := hu.out
    tape := hu.tape
    rel :=
    { inv := h.inv.put hbc hro hlen
      wr := h.wr
      lt := fun n j hn => ⟨(h.lt n j hn).1, by rw [hu.size]; exact (h.lt n j hn).2⟩
      obj := hobj
      alias := by
        intro b1 b2 i1 i2 hne h1 h2 hB12
        obtain ⟨ha, hm⟩ := h.alias b1 b2 i1 i2 hne h1 h2 hB12
        refine ⟨ha, ?_⟩
        simp only [afterPut_heap]
        have hcase : ∀ n, β n ≠ none → (∃ o, (if n = b then some (CObj.cells c' E cl rel) else killL b (rel + off) (σ.members cl) σ.heap n) = some o ∧
            (o = .dead ∧ σ.ro ≤ n ∨ (∃ cs, o = .cells cs E cl rel ∧ σ.heap n = some (.cells c E cl rel)) ∨ σ.heap n = some o)) := by
          intro n hn
          by_cases hnb : n = b
          · subst hnb; rw [if_pos rfl]; exact ⟨_, rfl, .inr (.inl ⟨c', rfl, hbc⟩)⟩
          · rw [if_neg hnb]
            rcases kill_or (b := b) (p := rel + off) (l := σ.members cl) (h := σ.heap) n with hk | ⟨hk, _, m, hm, he⟩
            · cases e : β n with
              | none => exact absurd e hn
              | some j => obtain ⟨o, ho⟩ := h.here n j e; rw [hk, ho]; exact ⟨o, rfl, .inr (.inr rfl)⟩
            · rw [hk]; exact ⟨_, rfl, .inl ⟨rfl, he ▸ (members_ro h.inv hbc hro m hm).1⟩⟩
        obtain ⟨o1, e1, q1⟩ := hcase b1 (by rw [h1]; simp)
        obtain ⟨o2, e2, q2⟩ := hcase b2 (by rw [h2]; simp)
        rw [e1, e2]
        rcases q1 with ⟨rfl, q1⟩ | ⟨cs1, rfl, q1⟩ | q1
        · exact trivial
        · rcases q2 with ⟨rfl, q2⟩ | ⟨cs2, rfl, q2⟩ | q2
          · exact trivial
          · rw [q1, q2] at hm; exact hm
          · rw [q1, q2] at hm; cases o2 <;> exact hm
        · rcases q2 with ⟨rfl, q2⟩ | ⟨cs2, rfl, q2⟩ | q2
          · cases o1 <;> exact trivial
          · rw [q1, q2] at hm; cases o1 <;> exact hm
          · rw [q1, q2] at hm; exact hm
      here := by
        intro n j hn
        rw [afterPut_heap]
        by_cases hnb : n = b
        · rw [if_pos hnb]; exact ⟨_, rfl⟩
        · rw [if_neg hnb]
          rcases kill_or (b := b) (p := rel + off) (l := σ.members cl) (h := σ.heap) n with hk | ⟨hk, _⟩
          · rw [hk]; exact h.here n j hn
          · exact ⟨_, hk⟩
      iters := by
        refine h.iters.keep (.refl _) (Nat.le_refl _) (fun _ _ h => .inl h) (fun n j o hn ho hmi => ?_) (fun n j o hn ho hmi => ?_)
        · rw [afterPut_heap] at ho
          by_cases hnb : n = b
          · rw [if_pos hnb] at ho; cases ho; cases hmi
          · rw [if_neg hnb] at ho
            exact (kill_live ho (by intro e; rw [e] at hmi; cases hmi)).1
        · by_cases hjB : j.B = i.B
          · rw [hjB, hB] at ho; cases ho; cases hmi
          · rw [hu.get, if_neg hjB]; exact ho } }

end Go.Cn

namespace Go.Cn
set_option linter.unusedSimpArgs false
set_option linter.unusedVariables false

def FreshO (σ : CW) : CObj → Prop
  | .cells _ _ cl rel => cl = σ.next ∧ rel = 0
  | .map _ _ => True
  | .iter _ _ _ => True
  | .loop _ _ _ _ _ _ => True
  | .dead => False

theorem add_heap {σ : CW} {o : CObj} {n : Nat} : (σ.add o).heap n = if n = σ.next then some o else σ.heap n := rfl

theorem cls_next {σ : CW} (hi : CInv σ) : σ.cls σ.next = none := by
  cases e : σ.cls σ.next with
  | none => rfl
  | some l => have := (hi.cls _ _ e).1; omega

theorem members_add {σ : CW} {o : CObj} {c : Nat} (hc : c < σ.next) : (σ.add o).members c = σ.members c := by
  unfold CW.members
  show (match σ.cls c with | some l => l | none => _) = _
  cases σ.cls c with
  | some l => rfl
  | none => simp only [add_heap, if_neg (Nat.ne_of_lt hc)]

theorem CInv.add {σ : CW} (hi : CInv σ) {o : CObj} (ho : FreshO σ o) : CInv (σ.add o) where
  fresh := by
    intro n hn
    have hn' : σ.next + 1 ≤ n := hn
    rw [add_heap, if_neg (by omega)]; exact hi.fresh n (by omega)
  mem := by
    intro n cs E cl rel hn
    rw [add_heap] at hn
    split at hn
    · rename_i e
      cases hn
      obtain ⟨h1, h2⟩ := ho
      subst h1 h2 e
      refine ⟨?_, Nat.lt_succ_self _⟩
      unfold CW.members
      have : (σ.add (.cells cs E σ.next 0)).cls σ.next = none := cls_next hi
      rw [this]
      simp [add_heap]
    · have hm := hi.mem n cs E cl rel hn
      rw [members_add hm.2]
      exact ⟨hm.1, Nat.lt_succ_of_lt hm.2⟩
  cls := by
    intro n l hn
    have := hi.cls n l hn
    exact ⟨Nat.lt_succ_of_lt this.1, fun m hm => ⟨(this.2 m hm).1, Nat.lt_succ_of_lt (this.2 m hm).2⟩⟩
  rol := Nat.le_succ_of_le hi.rol

theorem Rel.le_upd {P : Program} {β : Ren} {σ : CW} {w : World} (h : Rel P β σ w) (i : BI) : Le β (upd β σ.next (some i)) := by
  intro b j hb
  rw [upd_ne _ _ (by have := (h.lt b j hb).1; omega)]; exact hb

theorem Rel.wr_upd {P : Program} {β : Ren} {σ : CW} {w : World} (h : Rel P β σ w) {i : BI} (hi : i.wr = true) (n : Nat) (hn : β n = none) :
    (∀ b, b < σ.inj → ∃ j, upd β n (some i) b = some j ∧ P.underlying j.E ≠ some (.int .u8)) ∧ ∀ b j, upd β n (some i) b = some j → (σ.ro ≤ b ∨ b < σ.inj) → j.wr = true := by
  refine ⟨fun b hb => ?_, fun b j hb hr => ?_⟩
  · obtain ⟨j, h1, h2⟩ := h.wr.1 b hb
    exact ⟨j, by rw [upd_ne _ _ (by intro e; subst e; rw [hn] at h1; cases h1)]; exact h1, h2⟩
  · by_cases e : b = n
    · subst e; rw [upd_same] at hb; cases hb; exact hi
    · rw [upd_ne _ _ e] at hb; exact h.wr.2 b j hb hr
theorem Rel.next_none {P : Program} {β : Ren} {σ : CW} {w : World} (h : Rel P β σ w) : β σ.next = none := by
  cases e : β σ.next with
  | none => rfl
  | some i => have := (h.lt _ i e).1; omega

theorem push_get {w w' : World} {o' : Obj} (hw : w'.heap = w.heap.push o') {B : Nat} (hB : B < w.heap.size) : w'.heap[B]? = w.heap[B]? := by
  rw [hw, Array.getElem?_push, if_neg (by omega)]
theorem push_new {w w' : World} {o' : Obj} (hw : w'.heap = w.heap.push o') : w'.heap[w.heap.size]? = some o' := by
  rw [hw]; simp

theorem Rel.allocI {P : Program} {β : Ren} {σ : CW} {w w' : World} (h : Rel P β σ w) {o : CObj} {o' : Obj} {i : BI} (hB : i.B = w.heap.size) (hw : w'.heap = w.heap.push o')
    (hos : w'.os = w.os) (hout : w'.output = w.output) (htape : w'.tape = w.tape) (hf : FreshO σ o) (ho : ObjRel P (upd β σ.next (some i)) i o (some o'))
    (hit : ∀ m ver seen, o = .iter (some m) ver seen → IterOk (upd β σ.next (some i)) (σ.add o) w' i m ver seen) (hwr : i.wr = true := by rfl) :
    Stp P β σ w (upd β σ.next (some i)) (σ.add o) w' where
  le := h.le_upd i
  new := by
    intro b j hb
    by_cases e : b = σ.next
    · subst e; rw [upd_same] at hb; cases hb; exact .inr ⟨Nat.le_refl _, .inr (by omega)⟩
    · rw [upd_ne _ _ e] at hb; exact .inl hb
  next := Nat.le_succ _
  ro := rfl
  inj := rfl
  cfr := by intro b hb _; rw [add_heap, if_neg (by omega)]; exact .inl rfl
  size := by rw [hw]; simp
  afr := fun B hB' _ => push_get hw hB'
  os := hos
  out := hout
  tape := htape
  rel :=
  { inv := h.inv.add hf
    wr := h.wr_upd hwr σ.next h.next_none
    lt := by
      intro b j hb
      by_cases e : b = σ.next
      · subst e; rw [upd_same] at hb; cases hb; exact ⟨Nat.lt_succ_self _, by rw [hw, hB]; simp⟩
      · rw [upd_ne _ _ e] at hb
        exact ⟨Nat.lt_succ_of_lt (h.lt b j hb).1, by rw [hw]; simp; exact Nat.lt_succ_of_lt (h.lt b j hb).2⟩
    obj := by
      intro b j x hb hx
      rw [add_heap] at hx
      by_cases e : b = σ.next
      · subst e
        rw [upd_same] at hb; cases hb
        rw [if_pos rfl] at hx; cases hx
        rw [hB, push_new hw]; exact ho
      · rw [upd_ne _ _ e] at hb
        rw [if_neg e] at hx
        rw [push_get hw (h.lt b j hb).2]
        exact (h.obj b j x hb hx).mono (h.le_upd i)
    alias := by
      intro b1 b2 i1 i2 hne h1 h2 hBB
      by_cases e1 : b1 = σ.next
      · subst e1
        rw [upd_same] at h1; cases h1
        rw [upd_ne _ _ (Ne.symm hne)] at h2
        have := (h.lt b2 i2 h2).2; omega
      · rw [upd_ne _ _ e1] at h1
        by_cases e2 : b2 = σ.next
        · subst e2
          rw [upd_same] at h2; cases h2
          have := (h.lt b1 i1 h1).2; omega
        · rw [upd_ne _ _ e2] at h2
          have ha := h.alias b1 b2 i1 i2 hne h1 h2 hBB
          unfold AliasOk at ha ⊢
          simp only [add_heap, if_neg e1, if_neg e2]
          exact ha
    here := by
      intro b j hb
      rw [add_heap]
      by_cases e : b = σ.next
      · rw [if_pos e]; exact ⟨_, rfl⟩
      · rw [if_neg e]; rw [upd_ne _ _ e] at hb; exact h.here b j hb
    iters := by
      intro r ir m ver seen hr hro
      rw [add_heap] at hro
      by_cases e : r = σ.next
      · subst e
        rw [upd_same] at hr; cases hr
        rw [if_pos rfl] at hro; cases hro
        exact hit m ver seen rfl
      · rw [upd_ne _ _ e] at hr
        rw [if_neg e] at hro
        obtain ⟨im, since, seen', last, a1, a2, a3, a4, a5⟩ := h.iters r ir m ver seen hr hro
        refine ⟨im, since, seen', last, h.le_upd i _ _ a1, by rw [push_get hw (h.lt r ir hr).2]; exact a2, a3, Nat.lt_succ_of_lt a4, fun es v0 hm => ?_⟩
        rw [add_heap, if_neg (by omega)] at hm
        rw [push_get hw (h.lt m im a1).2]
        exact a5 es v0 hm }

theorem Rel.alloc {P : Program} {β : Ren} {σ : CW} {w w' : World} (h : Rel P β σ w) {o : CObj} {o' : Obj} {i : BI} (hB : i.B = w.heap.size) (hw : w'.heap = w.heap.push o')
    (hos : w'.os = w.os) (hout : w'.output = w.output) (htape : w'.tape = w.tape) (hf : FreshO σ o) (ho : ObjRel P (upd β σ.next (some i)) i o (some o')) (hit : isIter o = false := by rfl) (hwr : i.wr = true := by rfl) :
    Stp P β σ w (upd β σ.next (some i)) (σ.add o) w' :=
  h.allocI hB hw hos hout htape hf ho (fun m ver seen e => by rw [e] at hit; cases hit) hwr

abbrev grown := CW.grow

theorem grown_heap {σ : CW} {cl p : Nat} {cs : List Value} {E : TypeId} {rel n : Nat} :
    (grown σ cl p cs E rel).heap n = if n = σ.next then some (.cells cs E cl rel) else killL σ.next p (σ.members cl) σ.heap n := rfl

theorem CInv.grow {σ : CW} (hi : CInv σ) {b p : Nat} {c cs : List Value} {E E' : TypeId} {cl rel rel' : Nat} (hb : σ.heap b = some (.cells c E cl rel)) (hro : σ.ro ≤ b) :
    CInv (grown σ cl p cs E' rel') where
  fresh := by
    intro n hn
    have hn' : σ.next + 1 ≤ n := hn
    rw [grown_heap, if_neg (by omega)]
    rcases kill_or (b := σ.next) (p := p) (l := σ.members cl) (h := σ.heap) n with h | ⟨_, _, m, hm, he⟩
    · rw [h]; exact hi.fresh n (by omega)
    · have := (members_ro hi hb hro m hm).2; omega
  mem := by
    intro n cs1 E1 cl1 rel1 hn
    rw [grown_heap] at hn
    by_cases hnb : n = σ.next
    · rw [if_pos hnb] at hn
      cases hn
      subst hnb
      refine ⟨?_, Nat.lt_succ_of_lt (hi.mem _ _ _ _ _ hb).2⟩
      unfold CW.members
      simp [CW.grow, CW.touch, CW.add]
    · rw [if_neg hnb] at hn
      obtain ⟨h1, h2⟩ := kill_live hn (by simp)
      have hm := hi.mem n cs1 E1 cl1 rel1 h1
      refine ⟨?_, Nat.lt_succ_of_lt hm.2⟩
      by_cases hcl : cl1 = cl
      · subst hcl
        unfold CW.members
        simp only [CW.grow, CW.touch, CW.add, upd_same]
        refine List.mem_cons_of_mem _ ?_
        unfold keepL
        rw [List.mem_filter]
        refine ⟨hm.1, ?_⟩
        simp only [decide_eq_true_eq]
        exact ⟨hnb, h2 hnb _ hm.1 rfl⟩
      · refine members_upd_other (σ := σ) (nx := σ.next + 1) (ro := σ.ro) (inj := σ.inj) hcl ?_ hm.1 ?_
        · intro cs2 E2 cl2 rel2 hh
          have hh' : (if cl1 = σ.next then some (.cells cs E' cl rel') else killL σ.next p (σ.members cl) σ.heap cl1) = some (.cells cs2 E2 cl2 rel2) := hh
          rw [if_neg (by have := hm.2; omega)] at hh'
          exact ⟨_, _, _, _, (kill_live hh' (by simp)).1, rfl⟩
        · intro cs2 E2 cl2 rel2 hnone hh
          have hroot := mem_singleton_root hnone hm.1
          subst hroot
          refine ⟨cs1, E1, n, rel1, ?_, ?_⟩
          · show (if n = σ.next then some (.cells cs E' cl rel') else killL σ.next p (σ.members cl) σ.heap n) = _
            rw [if_neg hnb, hn]
          · rw [h1] at hh; cases hh; rfl
  cls := by
    intro n l hn
    have hn' : upd σ.cls cl (some ((σ.next, rel' + cs.length) :: keepL σ.next p (σ.members cl))) n = some l := hn
    by_cases hc : n = cl
    · subst hc
      rw [upd_same] at hn'
      cases hn'
      refine ⟨Nat.lt_succ_of_lt (hi.mem _ _ _ _ _ hb).2, fun m hm => ?_⟩
      rcases List.mem_cons.1 hm with h | h
      · subst h; exact ⟨hi.rol, Nat.lt_succ_self _⟩
      · unfold keepL at h
        have := members_ro hi hb hro m (List.mem_filter.1 h).1
        exact ⟨this.1, Nat.lt_succ_of_lt this.2⟩
    · rw [upd_ne _ _ hc] at hn'
      have := hi.cls n l hn'
      exact ⟨Nat.lt_succ_of_lt this.1, fun m hm => ⟨(this.2 m hm).1, Nat.lt_succ_of_lt (this.2 m hm).2⟩⟩
  rol := Nat.le_succ_of_le hi.rol

/-- Two old rows behind a touch of a class. -/
theorem alias_kill {P : Program} {β : Ren} {σ : CW} {w : World} (h : Rel P β σ w) {b p : Nat} {c : List Value} {E : TypeId} {cl rel : Nat} (hbc : σ.heap b = some (.cells c E cl rel)) (hro : σ.ro ≤ b)
    {b1 b2 : Nat} {i1 i2 : BI} (hne : b1 ≠ b2) (h1 : β b1 = some i1) (h2 : β b2 = some i2) (hBB : i1.B = i2.B) (nw : Nat) {σ' : CW} (hro' : σ'.ro = σ.ro) (hinj : σ'.inj = σ.inj)
    (e1 : σ'.heap b1 = killL nw p (σ.members cl) σ.heap b1) (e2 : σ'.heap b2 = killL nw p (σ.members cl) σ.heap b2) : AliasOk σ' b1 b2 i1 i2 := by
  obtain ⟨ha, hm⟩ := h.alias b1 b2 i1 i2 hne h1 h2 hBB
  refine ⟨by rw [hro']; exact ha, ?_⟩
  rw [e1, e2, hro', hinj]
  have hro2 : ∀ n, (∃ m ∈ σ.members cl, m.1 = n) → σ.ro ≤ n := fun n ⟨m, hm, he⟩ => he ▸ (members_ro h.inv hbc hro m hm).1
  rcases kill_or (b := nw) (p := p) (l := σ.members cl) (h := σ.heap) b1 with q1 | ⟨q1, _, q1'⟩
  · rcases kill_or (b := nw) (p := p) (l := σ.members cl) (h := σ.heap) b2 with q2 | ⟨q2, _, q2'⟩
    · rw [q1, q2]; exact hm
    · rw [q2]
      have h3 : σ.ro ≤ b1 := by
        have := hro2 _ q2'
        rcases Nat.lt_or_ge b1 σ.ro with h3 | h3
        · have := ha.1 h3; omega
        · exact h3
      split <;> first | trivial | simp_all
  · rw [q1]; trivial

/-- An append that copies here, and there makes a new block. -/
theorem Rel.growNew {P : Program} {β : Ren} {σ : CW} {w w' : World} (h : Rel P β σ w) {b p : Nat} {c cs : List Value} {E E' : TypeId} {cl rel rel' : Nat} {o' : Obj} {i : BI}
    (hbc : σ.heap b = some (.cells c E cl rel)) (hro : σ.ro ≤ b) (hB : i.B = w.heap.size) (hw : w'.heap = w.heap.push o') (hos : w'.os = w.os) (hout : w'.output = w.output) (htape : w'.tape = w.tape)
    (ho : ObjRel P (upd β σ.next (some i)) i (.cells cs E' cl rel') (some o')) (hwr : i.wr = true := by rfl) : Stp P β σ w (upd β σ.next (some i)) (grown σ cl p cs E' rel') w' where
  le := h.le_upd i
  new := by
    intro b j hb
    by_cases e : b = σ.next
    · subst e; rw [upd_same] at hb; cases hb; exact .inr ⟨Nat.le_refl _, .inr (by omega)⟩
    · rw [upd_ne _ _ e] at hb; exact .inl hb
  next := Nat.le_succ _
  ro := rfl
  inj := rfl
  cfr := by
    intro n hn _
    rw [grown_heap, if_neg (by omega)]
    rcases kill_or (b := σ.next) (p := p) (l := σ.members cl) (h := σ.heap) n with h | ⟨h, _⟩
    · exact .inl h
    · exact .inr h
  size := by rw [hw]; simp
  afr := fun B hB' _ => push_get hw hB'
  os := hos
  out := hout
  tape := htape
  rel :=
  { inv := h.inv.grow hbc hro
    wr := h.wr_upd hwr σ.next h.next_none
    lt := by
      intro n j hb
      by_cases e : n = σ.next
      · subst e; rw [upd_same] at hb; cases hb; exact ⟨Nat.lt_succ_self _, by rw [hw, hB]; simp⟩
      · rw [upd_ne _ _ e] at hb
        exact ⟨Nat.lt_succ_of_lt (h.lt n j hb).1, by rw [hw]; simp; exact Nat.lt_succ_of_lt (h.lt n j hb).2⟩
    obj := by
      intro n j x hb hx
      rw [grown_heap] at hx
      by_cases e : n = σ.next
      · subst e
        rw [upd_same] at hb; cases hb
        rw [if_pos rfl] at hx; cases hx
        rw [hB, push_new hw]; exact ho
      · rw [upd_ne _ _ e] at hb
        rw [if_neg e] at hx
        by_cases hd : x = .dead
        · subst hd; trivial
        · obtain ⟨g1, _⟩ := kill_live hx hd
          rw [push_get hw (h.lt n j hb).2]
          exact (h.obj n j x hb g1).mono (h.le_upd i)
    alias := by
      intro b1 b2 i1 i2 hne h1 h2 hBB
      by_cases e1 : b1 = σ.next
      · subst e1
        rw [upd_same] at h1; cases h1
        rw [upd_ne _ _ (Ne.symm hne)] at h2
        have := (h.lt b2 i2 h2).2; omega
      · rw [upd_ne _ _ e1] at h1
        by_cases e2 : b2 = σ.next
        · subst e2
          rw [upd_same] at h2; cases h2
          have := (h.lt b1 i1 h1).2; omega
        · rw [upd_ne _ _ e2] at h2
          exact alias_kill h hbc hro hne h1 h2 hBB σ.next rfl rfl (by rw [grown_heap, if_neg e1]) (by rw [grown_heap, if_neg e2])
    here := by
      intro n j hb
      rw [grown_heap]
      by_cases e : n = σ.next
      · rw [if_pos e]; exact ⟨_, rfl⟩
      · rw [if_neg e]; rw [upd_ne _ _ e] at hb
        rcases kill_or (b := σ.next) (p := p) (l := σ.members cl) (h := σ.heap) n with hk | ⟨hk, _⟩
        · rw [hk]; exact h.here n j hb
        · exact ⟨_, hk⟩
    iters := by
      refine h.iters.keep (h.le_upd i) (Nat.le_succ _) (fun n j hn => ?_) (fun n j o hn ho hmi => ?_) (fun n j o hn ho _ => by rw [push_get hw (h.lt n j hn).2]; exact ho)
      · by_cases e : n = σ.next
        · refine .inr fun o ho => ?_
          rw [grown_heap, if_pos e] at ho; cases ho; rfl
        · rw [upd_ne _ _ e] at hn; exact .inl hn
      · rw [grown_heap, if_neg (Nat.ne_of_lt (h.lt n j hn).1)] at ho
        exact (kill_live ho (by intro e; rw [e] at hmi; cases hmi)).1 }

/-- An append that copies here, and there is made in place: 'off' in row 'b' the slice begins, 'q' cells of it there are. -/
theorem Rel.growIn {P : Program} {β : Ren} {σ : CW} {w w' : World} (h : Rel P β σ w) {b off q : Nat} {c old new new' : List Value} {E : TypeId} {cl rel : Nat} {i : BI} {c1 c2 : Array Value} {fr : Nat × Nat}
    (hb : β b = some i) (hbc : σ.heap b = some (.cells c E cl rel)) (hro : σ.ro ≤ b) (htake : takeAt c off q = some old) (hnew : LRel P β new new')
    (hB : w.heap[i.B]? = some (.cells c1 i.E fr)) (hu : UpdB w w' i.B (.cells c2 i.E fr)) (hsz : c2.size = c1.size) (hfit : off + i.sh + q + new.length ≤ i.N)
    (hc2 : ∀ (k : Nat), c2[k]? = if off + i.sh + q ≤ k ∧ k < off + i.sh + q + new'.length then new'[k - (off + i.sh + q)]? else c1[k]?) :
    Stp P β σ w (upd β σ.next (some ⟨i.B, off + i.sh, i.N, i.E, true⟩)) (grown σ cl (rel + off + q) (old ++ new) E (rel + off)) w' := by
  obtain ⟨c1', fr', hB', hE, hN, hcN, hsoft, hcs⟩ := (h.obj b i _ hb hbc).cells_inv
  rw [hB] at hB'
  injection hB' with e1
  injection e1 with e1 _ e2
  subst e1 e2
  obtain ⟨hql, hold⟩ := takeAt_some htake
  have hq : old.length = q := by subst hold; simp; omega
  have hle := h.le_upd ⟨i.B, off + i.sh, i.N, i.E, true⟩
  have hnewlen := hnew.1
  -- an old row that lives on is where it was
  have holds : ∀ n j x, β n = some j → killL σ.next (rel + off + q) (σ.members cl) σ.heap n = some x → ObjRel P β j x w'.heap[j.B]? := by
    intro n j x hn hx
    by_cases hd : x = .dead
    · subst hd; trivial
    · obtain ⟨g1, g2⟩ := kill_live hx hd
      have hnn : n ≠ σ.next := by have := (h.lt n j hn).1; omega
      have holdo := h.obj n j x hn g1
      by_cases hjB : j.B = i.B
      · rw [hu.get, if_pos hjB]
        cases x with
        | dead => exact absurd rfl hd
        | map es _ =>
          by_cases hnb : n = b
          · subst hnb; rw [hbc] at g1; cases g1
          · exact (cells_map_alias h hb hbc hn hnb hjB g1 rfl).elim
        | iter _ _ _ =>
          by_cases hnb : n = b
          · subst hnb; rw [hbc] at g1; cases g1
          · exact (cells_map_alias h hb hbc hn hnb hjB g1 rfl).elim
        | loop _ _ _ _ _ _ =>
          by_cases hnb : n = b
          · subst hnb; rw [hbc] at g1; cases g1
          · exact (cells_map_alias h hb hbc hn hnb hjB g1 rfl).elim
        | cells ds E' cl' rel' =>
          have hend : rel' + ds.length ≤ rel + off + q ∧ j.sh + rel = i.sh + rel' := by
            by_cases hnb : n = b
            · subst hnb
              rw [hbc] at g1; cases g1
              rw [hb] at hn; cases hn
              exact ⟨g2 hnn _ (h.inv.mem n c E cl rel hbc).1 rfl, rfl⟩
            · obtain ⟨_, _, h3, h4⟩ := alias_end h hb hbc hro hn hnb hjB g1 (g2 hnn)
              exact ⟨h4, h3⟩
          obtain ⟨c3, fr3, e3, k1, k2, k3, k4, k5⟩ := holdo.cells_inv
          rw [hjB, hB] at e3
          injection e3 with e3
          injection e3 with e3 e4 e5
          subst e3 e5
          refine ⟨k1, e4, hsz.trans k2, k3, k4, fun k v hk => ?_⟩
          obtain ⟨v', q1, q2⟩ := k5 k v hk
          have hkl : k < ds.length := (List.getElem?_eq_some_iff.1 hk).1
          refine ⟨v', ?_, q2⟩
          rw [hc2, if_neg (by omega)]; exact q1
      · rw [hu.get, if_neg hjB]; exact holdo
  have hnewo : ObjRel P (upd β σ.next (some ⟨i.B, off + i.sh, i.N, i.E, true⟩)) ⟨i.B, off + i.sh, i.N, i.E, true⟩ (.cells (old ++ new) E cl (rel + off)) (some (.cells c2 i.E fr)) := by
    refine ⟨hE, rfl, hsz.trans hN, by simp only [List.length_append]; omega, fun _ => hsoft (h.wr.2 b i hb (.inl hro)), fun k v hk => ?_⟩
    show ∃ v', c2[k + (off + i.sh)]? = some v' ∧ _
    by_cases hkq : k < q
    · rw [List.getElem?_append_left (by omega)] at hk
      subst hold
      rw [List.getElem?_take, if_pos hkq, List.getElem?_drop] at hk
      obtain ⟨v', r1, r2⟩ := hcs (off + k) v hk
      refine ⟨v', ?_, r2.mono hle⟩
      rw [hc2, if_neg (by omega)]
      rw [← r1]; congr 1; omega
    · rw [List.getElem?_append_right (by omega), hq] at hk
      obtain ⟨v', r1, r2⟩ := hnew.left hk
      have : k - q < new.length := (List.getElem?_eq_some_iff.1 hk).1
      refine ⟨v', ?_, r2.mono hle⟩
      rw [hc2, if_pos (by omega), ← r1]; congr 1; omega
  exact
  { le := hle
    new := by
      intro n j hn
      by_cases e : n = σ.next
      · subst e; rw [upd_same] at hn; cases hn; exact .inr ⟨Nat.le_refl _, .inl ⟨b, i, hb, hro, rfl⟩⟩
      · rw [upd_ne _ _ e] at hn; exact .inl hn
    next := Nat.le_succ _
    ro := rfl
    inj := rfl
    cfr := by
      intro n hn _
      rw [grown_heap, if_neg (by omega)]
      rcases kill_or (b := σ.next) (p := rel + off + q) (l := σ.members cl) (h := σ.heap) n with h | ⟨h, _⟩
      · exact .inl h
      · exact .inr h
    size := by rw [hu.size]; exact Nat.le_refl _
    afr := by intro B hB' hne; rw [hu.get, if_neg (fun e => hne b i hb hro e.symm)]
    os := hu.os
    out := hu.out
    tape := hu.tape
    rel :=
    { inv := h.inv.grow hbc hro
      wr := h.wr_upd rfl σ.next h.next_none
      lt := by
        intro n j hn
        by_cases e : n = σ.next
        · subst e; rw [upd_same] at hn; cases hn; exact ⟨Nat.lt_succ_self _, by rw [hu.size]; exact (h.lt b i hb).2⟩
        · rw [upd_ne _ _ e] at hn
          exact ⟨Nat.lt_succ_of_lt (h.lt n j hn).1, by rw [hu.size]; exact (h.lt n j hn).2⟩
      obj := by
        intro n j x hn hx
        rw [grown_heap] at hx
        by_cases e : n = σ.next
        · subst e
          rw [upd_same] at hn; cases hn
          rw [if_pos rfl] at hx; cases hx
          show ObjRel P _ _ _ w'.heap[i.B]?
          rw [hu.get, if_pos rfl]; exact hnewo
        · rw [upd_ne _ _ e] at hn
          rw [if_neg e] at hx
          exact (holds n j x hn hx).mono hle
      alias := by
        intro b1 b2 i1 i2 hne h1 h2 hBB
        have hone : ∀ n j, n ≠ σ.next → β n = some j → j.B = i.B → ∀ x, killL σ.next (rel + off + q) (σ.members cl) σ.heap n = some x →
            σ.ro ≤ n ∧ (x = .dead ∨ ∃ ds E' rel', x = .cells ds E' cl rel' ∧ j.sh + rel = i.sh + rel') := by
          intro n j hnn hn hjB x hx
          have hron : σ.ro ≤ n := by
            by_cases hnb : n = b
            · subst hnb; exact hro
            · obtain ⟨hr, _⟩ := h.alias n b j i hnb hn hb hjB
              rcases Nat.lt_or_ge n σ.ro with h3 | h3
              · have := hr.1 h3; omega
              · exact h3
          refine ⟨hron, ?_⟩
          by_cases hd : x = .dead
          · exact .inl hd
          · obtain ⟨g1, g2⟩ := kill_live hx hd
            cases x with
            | dead => exact absurd rfl hd
            | map es _ =>
              by_cases hnb : n = b
              · subst hnb; rw [hbc] at g1; cases g1
              · exact (cells_map_alias h hb hbc hn hnb hjB g1 rfl).elim
            | iter _ _ _ =>
              by_cases hnb : n = b
              · subst hnb; rw [hbc] at g1; cases g1
              · exact (cells_map_alias h hb hbc hn hnb hjB g1 rfl).elim
            | loop _ _ _ _ _ _ =>
              by_cases hnb : n = b
              · subst hnb; rw [hbc] at g1; cases g1
              · exact (cells_map_alias h hb hbc hn hnb hjB g1 rfl).elim
            | cells ds E' cl' rel' =>
              by_cases hnb : n = b
              · subst hnb
                rw [hbc] at g1; cases g1
                rw [hb] at hn; cases hn
                exact .inr ⟨_, _, _, rfl, rfl⟩
              · obtain ⟨_, h3, h4, _⟩ := alias_end h hb hbc hro hn hnb hjB g1 (g2 hnn)
                subst h3
                exact .inr ⟨_, _, _, rfl, h4⟩
        by_cases e1 : b1 = σ.next
        · subst e1
          rw [upd_same] at h1; cases h1
          rw [upd_ne _ _ (Ne.symm hne)] at h2
          have hx2 : ∃ x, killL σ.next (rel + off + q) (σ.members cl) σ.heap b2 = some x := by
            rcases kill_or (b := σ.next) (p := rel + off + q) (l := σ.members cl) (h := σ.heap) b2 with hk | ⟨hk, _⟩
            · rw [hk]; exact h.here b2 i2 h2
            · exact ⟨_, hk⟩
          obtain ⟨x, hx⟩ := hx2
          obtain ⟨r1, r2⟩ := hone b2 i2 (Ne.symm hne) h2 hBB.symm x hx
          have hron : σ.ro ≤ σ.next := h.inv.rol
          refine ⟨⟨fun h3 => absurd h3 (Nat.not_lt.2 hron), fun h3 => absurd h3 (Nat.not_lt.2 r1)⟩, ?_⟩
          rw [grown_heap, grown_heap, if_pos rfl, if_neg (Ne.symm hne), hx]
          rcases r2 with rfl | ⟨ds, E', rel', rfl, r2⟩
          · exact trivial
          · refine .inr ⟨hron, rfl, ?_⟩
            show off + i.sh + rel' = i2.sh + (rel + off)
            omega
        · rw [upd_ne _ _ e1] at h1
          by_cases e2 : b2 = σ.next
          · subst e2
            rw [upd_same] at h2; cases h2
            have hx1 : ∃ x, killL σ.next (rel + off + q) (σ.members cl) σ.heap b1 = some x := by
              rcases kill_or (b := σ.next) (p := rel + off + q) (l := σ.members cl) (h := σ.heap) b1 with hk | ⟨hk, _⟩
              · rw [hk]; exact h.here b1 i1 h1
              · exact ⟨_, hk⟩
            obtain ⟨x, hx⟩ := hx1
            obtain ⟨r1, r2⟩ := hone b1 i1 hne h1 hBB x hx
            have hron : σ.ro ≤ σ.next := h.inv.rol
            refine ⟨⟨fun h3 => absurd h3 (Nat.not_lt.2 r1), fun h3 => absurd h3 (Nat.not_lt.2 hron)⟩, ?_⟩
            rw [grown_heap, grown_heap, if_pos rfl, if_neg hne, hx]
            rcases r2 with rfl | ⟨ds, E', rel', rfl, r2⟩
            · exact trivial
            · refine .inr ⟨r1, rfl, ?_⟩
              show i1.sh + (rel + off) = off + i.sh + rel'
              omega
          · rw [upd_ne _ _ e2] at h2
            exact alias_kill h hbc hro hne h1 h2 hBB σ.next rfl rfl (by rw [grown_heap, if_neg e1]) (by rw [grown_heap, if_neg e2])
      here := by
        intro n j hn
        rw [grown_heap]
        by_cases e : n = σ.next
        · rw [if_pos e]; exact ⟨_, rfl⟩
        · rw [if_neg e]; rw [upd_ne _ _ e] at hn
          rcases kill_or (b := σ.next) (p := rel + off + q) (l := σ.members cl) (h := σ.heap) n with hk | ⟨hk, _⟩
          · rw [hk]; exact h.here n j hn
          · exact ⟨_, hk⟩
      iters := by
        refine h.iters.keep hle (Nat.le_succ _) (fun n j hn => ?_) (fun n j o hn ho hmi => ?_) (fun n j o hn ho hmi => ?_)
        · by_cases e : n = σ.next
          · refine .inr fun o ho => ?_
            rw [grown_heap, if_pos e] at ho; cases ho; rfl
          · rw [upd_ne _ _ e] at hn; exact .inl hn
        · rw [grown_heap, if_neg (Nat.ne_of_lt (h.lt n j hn).1)] at ho
          exact (kill_live ho (by intro e; rw [e] at hmi; cases hmi)).1
        · by_cases hjB : j.B = i.B
          · rw [hjB, hB] at ho; cases ho; cases hmi
          · rw [hu.get, if_neg hjB]; exact ho } }

end Go.Cn
