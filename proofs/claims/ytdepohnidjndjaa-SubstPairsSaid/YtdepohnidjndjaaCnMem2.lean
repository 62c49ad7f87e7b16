/- Stores, new blocks, appends. -/
import Derived.Test.YtdepohnidjndjaaCnMem
namespace Go.Cn
set_option linter.unusedSimpArgs false
set_option linter.unusedVariables false

theorem members_upd_other {σ : CW} {c cl : Nat} {l : List (Nat × Nat)} {h : Nat → Option CObj} {nx : Nat} {ro inj : Nat} (hc : c ≠ cl)
    (hh : ∀ cs E cl' rel, h c = some (.cells cs E cl' rel) → ∃ cs' E' cl'' rel', σ.heap c = some (.cells cs' E' cl'' rel') ∧ cs'.length = cs.length)
    {m : Nat × Nat} (hm : m ∈ σ.members c) (hlive : ∀ cs' E' cl' rel', σ.cls c = none → σ.heap c = some (.cells cs' E' cl' rel') → ∃ cs E cl'' rel, h c = some (.cells cs E cl'' rel) ∧ cs.length = cs'.length) :
    m ∈ CW.members ⟨h, nx, ro, inj, upd σ.cls cl (some l)⟩ c := by
  unfold CW.members at hm ⊢
  simp only [upd_ne _ _ hc]
  cases e : σ.cls c with
  | some l' => rw [e] at hm; exact hm
  | none =>
    rw [e] at hm
    simp only at hm ⊢
    split at hm
    · rename_i cs' E' cl' rel' hc'
      obtain ⟨cs, E, cl'', rel, h1, h2⟩ := hlive _ _ _ _ e hc'
      simp only [h1, h2]; exact hm
    · simp at hm

theorem mem_singleton_root {σ : CW} {c b n : Nat} (hn : σ.cls c = none) (hm : (b, n) ∈ σ.members c) : b = c := by
  unfold CW.members at hm
  rw [hn] at hm
  simp only at hm
  split at hm
  · simp only [List.mem_singleton] at hm; exact congrArg Prod.fst hm
  · simp at hm

/-- The canonical heap behind a store into a row. -/
def afterPut (σ : CW) (b p : Nat) (c c' : List Value) (E : TypeId) (cl rel : Nat) : CW :=
  { σ.touch cl b p (rel + c.length) with heap := upd (σ.touch cl b p (rel + c.length)).heap b (some (.cells c' E cl rel)) }

theorem afterPut_heap {σ : CW} {b p : Nat} {c c' : List Value} {E : TypeId} {cl rel n : Nat} :
    (afterPut σ b p c c' E cl rel).heap n = if n = b then some (.cells c' E cl rel) else killL b p (σ.members cl) σ.heap n := rfl

theorem CInv.put {σ : CW} (hi : CInv σ) {b p : Nat} {c c' : List Value} {E : TypeId} {cl rel : Nat} (hb : σ.heap b = some (.cells c E cl rel)) (hro : σ.ro ≤ b)
    (hl : c'.length = c.length) : CInv (afterPut σ b p c c' E cl rel) where
  fresh := by
    intro n hn
    have hn' : σ.next ≤ n := hn
    have hbl := heap_lt hi hb
    rw [afterPut_heap, if_neg (by omega)]
    rcases kill_or (b := b) (p := p) (l := σ.members cl) (h := σ.heap) n with h | ⟨_, _, m, hm, he⟩
    · rw [h]; exact hi.fresh n hn'
    · have := (members_ro hi hb hro m hm).2; omega
  mem := by
    intro n cs E' cl' rel' hn
    rw [afterPut_heap] at hn
    by_cases hnb : n = b
    · rw [if_pos hnb] at hn
      cases hn
      subst hnb
      refine ⟨?_, (hi.mem _ _ _ _ _ hb).2⟩
      unfold CW.members
      simp [afterPut, CW.touch, hl]
    · rw [if_neg hnb] at hn
      obtain ⟨h1, h2⟩ := kill_live hn (by simp)
      have hm := hi.mem n cs E' cl' rel' h1
      refine ⟨?_, hm.2⟩
      by_cases hcl : cl' = cl
      · subst hcl
        unfold CW.members
        simp only [afterPut, CW.touch, upd_same]
        refine List.mem_cons_of_mem _ ?_
        unfold keepL
        rw [List.mem_filter]
        refine ⟨hm.1, ?_⟩
        simp only [decide_eq_true_eq]
        exact ⟨hnb, h2 hnb _ hm.1 rfl⟩
      · refine members_upd_other (σ := σ) (nx := σ.next) (ro := σ.ro) (inj := σ.inj) hcl ?_ hm.1 ?_
        · intro cs1 E1 cl1 rel1 hh
          have hh' : (if cl' = b then some (.cells c' E cl rel) else killL b p (σ.members cl) σ.heap cl') = some (.cells cs1 E1 cl1 rel1) := hh
          split at hh'
          · cases hh'; rename_i e; subst e; exact ⟨_, _, _, _, hb, hl.symm⟩
          · exact ⟨_, _, _, _, (kill_live hh' (by simp)).1, rfl⟩
        · intro cs1 E1 cl1 rel1 hnone hh
          have hroot := mem_singleton_root hnone hm.1
          subst hroot
          refine ⟨cs, E', n, rel', ?_, ?_⟩
          · show (if n = b then some (.cells c' E cl rel) else killL b p (σ.members cl) σ.heap n) = _
            rw [if_neg hnb, hn]
          · rw [h1] at hh; cases hh; rfl
  cls := by
    intro n l hn
    have hn' : upd σ.cls cl (some ((b, rel + c.length) :: keepL b p (σ.members cl))) n = some l := hn
    by_cases hc : n = cl
    · subst hc
      rw [upd_same] at hn'
      cases hn'
      refine ⟨(hi.mem _ _ _ _ _ hb).2, fun m hm => ?_⟩
      rcases List.mem_cons.1 hm with h | h
      · subst h; exact ⟨hro, heap_lt hi hb⟩
      · unfold keepL at h
        exact members_ro hi hb hro m (List.mem_filter.1 h).1
    · rw [upd_ne _ _ hc] at hn'
      exact hi.cls n l hn'
  rol := hi.rol

/-- An old row that lives on behind a touch: what of its block was written lies behind its end. -/
theorem alias_end {P : Program} {β : Ren} {σ : CW} {w : World} (h : Rel P β σ w) {b n : Nat} {i j : BI} {c cs : List Value} {E E' : TypeId} {cl rel cl' rel' p : Nat}
    (hb : β b = some i) (hbc : σ.heap b = some (.cells c E cl rel)) (hro : σ.ro ≤ b) (hn : β n = some j) (hnb : n ≠ b) (hB : j.B = i.B) (hnc : σ.heap n = some (.cells cs E' cl' rel'))
    (hk : ∀ m ∈ σ.members cl, m.1 = n → m.2 ≤ p) : σ.ro ≤ n ∧ cl' = cl ∧ j.sh + rel = i.sh + rel' ∧ rel' + cs.length ≤ p := by
  obtain ⟨hr, ha⟩ := h.alias n b j i hnb hn hb hB
  rw [hnc, hbc] at ha
  simp only at ha
  have hnro : σ.ro ≤ n := by
    rcases Nat.lt_or_ge n σ.ro with h1 | h1
    · have := hr.1 h1; omega
    · exact h1
  rcases ha with ⟨h1, _⟩ | ⟨_, h2, h3⟩
  · omega
  · subst h2
    exact ⟨hnro, rfl, h3, hk _ (h.inv.mem n cs E' _ rel' hnc).1 rfl⟩

def isRow : CObj → Bool
  | .cells _ _ _ _ => true
  | .dead => true
  | _ => false

theorem cells_map_alias {P : Program} {β : Ren} {σ : CW} {w : World} (h : Rel P β σ w) {b n : Nat} {i j : BI} {c : List Value} {E : TypeId} {cl rel : Nat} {o : CObj}
    (hb : β b = some i) (hbc : σ.heap b = some (.cells c E cl rel)) (hn : β n = some j) (hnb : n ≠ b) (hB : j.B = i.B) (hnc : σ.heap n = some o) (hno : isRow o = false) : False := by
  obtain ⟨hr, ha⟩ := h.alias n b j i hnb hn hb hB
  rw [hnc, hbc] at ha
  cases o with
  | cells _ _ _ _ => cases hno
  | dead => cases hno
  | map _ _ => exact ha
  | iter _ _ _ => exact ha
  | loop _ _ _ _ _ _ => exact ha

theorem Rel.put {P : Program} {β : Ren} {σ : CW} {w : World} (h : Rel P β σ w) {b off : Nat} {i : BI} {vs vs' : List Value} {σ' : CW} (hb : β b = some i)
    (hp : σ.put ⟨b, off, none⟩ vs = some σ') (hv : LRel P β vs vs') :
    ∃ w', (storeCells ⟨i.B, off + i.sh, none⟩ vs').run P w = .ok () w' ∧ Stp P β σ w β σ' w' := by
  unfold CW.put at hp
  simp only at hp
  split at hp
  case h_2 => cases hp
  rename_i c E cl rel hbc
  split at hp
  case isFalse => cases hp
  rename_i hcond
  obtain ⟨hro, hone⟩ := hcond
  split at hp
  case h_2 => cases hp
  rename_i c' hput
  obtain ⟨hfit, hlen, hget⟩ := putAt_some hput
  have hσ' : σ' = afterPut σ b (rel + off) c c' E cl rel := by cases hp; rfl
  clear hp
  obtain ⟨c1, fr, hB, hE, hN, hcN, hsoft, hcs⟩ := (h.obj b i _ hb hbc).cells_inv
  have hone' : ∀ v ∈ vs', v.oneCell' = true := by
    intro v hvm
    obtain ⟨j, hj, rfl⟩ := List.getElem_of_mem hvm
    have hj' : j < vs.length := by rw [hv.1]; exact hj
    have hr := hv.2 j vs[j] vs'[j] (by simp) (by simp)
    exact hr.oneCell ((List.all_eq_true.1 hone) _ (by simp))
  obtain ⟨w', c2, hrun, hu, hsz, hc2⟩ := run_storeCells (P := P) (off := off + i.sh) (B := i.B) (E := i.E) (fr := fr) vs' 0 w c1 hB hone'
    (by rw [hN, ← hv.1]; omega) (by rw [hN]; exact (hsoft (h.wr.2 b i hb (.inl hro))).cells)
  simp only [Nat.add_zero] at hc2
  have hobjb : ObjRel P β i (.cells c' E cl rel) (some (.cells c2 i.E fr)) := by
    refine ⟨hE, rfl, hsz.trans hN, by rw [hlen]; exact hcN, hsoft, fun k v hk => ?_⟩
    rw [hget] at hk
    rw [hc2]
    split at hk
    · rename_i hin
      obtain ⟨v', h1, h2⟩ := hv.left hk
      refine ⟨v', ?_, h2⟩
      rw [if_pos (by rw [← hv.1]; omega), ← h1]
      congr 1; omega
    · rename_i hin
      obtain ⟨v', h1, h2⟩ := hcs k v hk
      refine ⟨v', ?_, h2⟩
      rw [if_neg (by rw [← hv.1]; omega)]; exact h1
  refine ⟨w', hrun, ?_⟩
  subst hσ'
  have hobj : ∀ n j o, β n = some j → (afterPut σ b (rel + off) c c' E cl rel).heap n = some o → ObjRel P β j o w'.heap[j.B]? := by
    intro n j o hn ho
    rw [afterPut_heap] at ho
    by_cases hnb : n = b
    · subst hnb
      rw [if_pos rfl] at ho
      cases ho
      rw [hb] at hn; cases hn
      rw [hu.get, if_pos rfl]
      exact hobjb
    · rw [if_neg hnb] at ho
      by_cases hd : o = .dead
      · subst hd; trivial
      · obtain ⟨h1, h2⟩ := kill_live ho hd
        have hold := h.obj n j o hn h1
        by_cases hjB : j.B = i.B
        · rw [hu.get, if_pos hjB]
          cases o with
          | dead => exact absurd rfl hd
          | map es _ => exact (cells_map_alias h hb hbc hn hnb hjB h1 rfl).elim
          | iter _ _ _ => exact (cells_map_alias h hb hbc hn hnb hjB h1 rfl).elim
          | loop _ _ _ _ _ _ => exact (cells_map_alias h hb hbc hn hnb hjB h1 rfl).elim
          | cells cs E' cl' rel' =>
            obtain ⟨_, _, h3, h4⟩ := alias_end h hb hbc hro hn hnb hjB h1 (h2 hnb)
            obtain ⟨c3, fr3, e3, g1, g2, g3, g4, g5⟩ := hold.cells_inv
            rw [hjB, hB] at e3
            injection e3 with e3
            injection e3 with e3 e4 e5
            subst e3 e5
            refine ⟨g1, e4, hsz.trans g2, g3, g4, fun k v hk => ?_⟩
            obtain ⟨v', q1, q2⟩ := g5 k v hk
            have hkl : k < cs.length := (List.getElem?_eq_some_iff.1 hk).1
            refine ⟨v', ?_, q2⟩
            rw [hc2, if_neg (by rw [← hv.1]; omega)]; exact q1
        · rw [hu.get, if_neg hjB]; exact hold
  exact
  { le := .refl _
    new := fun _ _ h => .inl h
    next := Nat.le_refl _
    ro := rfl
    inj := rfl
    cfr := by
      intro n hn hnone
      rw [afterPut_heap, if_neg (fun e => by rw [e, hb] at hnone; cases hnone)]
      rcases kill_or (b := b) (p := rel + off) (l := σ.members cl) (h := σ.heap) n with h | ⟨h, _⟩
      · exact .inl h
      · exact .inr h
    size := by rw [hu.size]; exact Nat.le_refl _
    afr := by intro B hB' hne; rw [hu.get, if_neg (fun e => hne b i hb hro e.symm)]
    os := hu.os
    out := hu.out
    tape := hu.tape
    rel :=
    { inv := h.inv.put hbc hro hlen
      wr := h.wr
      lt := fun n j hn => ⟨(h.lt n j hn).1, by rw [hu.size]; exact (h.lt n j hn).2⟩
      obj := hobj
      alias := by
        intro b1 b2 i1 i2 hne h1 h2 hB12
        obtain ⟨ha, hm⟩ := h.alias b1 b2 i1 i2 hne h1 h2 hB12
        refine ⟨ha, ?_⟩
        simp only [afterPut_heap]
        have hcase : ∀ n, β n ≠ none → (∃ o, (if n = b then some (CObj.cells c' E cl rel) else killL b (rel + off) (σ.members cl) σ.heap n) = some o ∧
            (o = .dead ∧ σ.ro ≤ n ∨ (∃ cs, o = .cells cs E cl rel ∧ σ.heap n = some (.cells c E cl rel)) ∨ σ.heap n = some o)) := by
          intro n hn
          by_cases hnb : n = b
          · subst hnb; rw [if_pos rfl]; exact ⟨_, rfl, .inr (.inl ⟨c', rfl, hbc⟩)⟩
          · rw [if_neg hnb]
            rcases kill_or (b := b) (p := rel + off) (l := σ.members cl) (h := σ.heap) n with hk | ⟨hk, _, m, hm, he⟩
            · cases e : β n with
              | none => exact absurd e hn
              | some j => obtain ⟨o, ho⟩ := h.here n j e; rw [hk, ho]; exact ⟨o, rfl, .inr (.inr rfl)⟩
            · rw [hk]; exact ⟨_, rfl, .inl ⟨rfl, he ▸ (members_ro h.inv hbc hro m hm).1⟩⟩
        obtain ⟨o1, e1, q1⟩ := hcase b1 (by rw [h1]; simp)
        obtain ⟨o2, e2, q2⟩ := hcase b2 (by rw [h2]; simp)
        rw [e1, e2]
        rcases q1 with ⟨rfl, q1⟩ | ⟨cs1, rfl, q1⟩ | q1
        · exact trivial
        · rcases q2 with ⟨rfl, q2⟩ | ⟨cs2, rfl, q2⟩ | q2
          · exact trivial
          · rw [q1, q2] at hm; exact hm
          · rw [q1, q2] at hm; cases o2 <;> exact hm
        · rcases q2 with ⟨rfl, q2⟩ | ⟨cs2, rfl, q2⟩ | q2
          · cases o1 <;> exact trivial
          · rw [q1, q2] at hm; cases o1 <;> exact hm
          · rw [q1, q2] at hm; exact hm
      here := by
        intro n j hn
        rw [afterPut_heap]
        by_cases hnb : n = b
        · rw [if_pos hnb]; exact ⟨_, rfl⟩
        · rw [if_neg hnb]
          rcases kill_or (b := b) (p := rel + off) (l := σ.members cl) (h := σ.heap) n with hk | ⟨hk, _⟩
          · rw [hk]; exact h.here n j hn
          · exact ⟨_, hk⟩
      iters := by
        refine h.iters.keep (.refl _) (Nat.le_refl _) (fun _ _ h => .inl h) (fun n j o hn ho hmi => ?_) (fun n j o hn ho hmi => ?_)
        · rw [afterPut_heap] at ho
          by_cases hnb : n = b
          · rw [if_pos hnb] at ho; cases ho; cases hmi
          · rw [if_neg hnb] at ho
            exact (kill_live ho (by intro e; rw [e] at hmi; cases hmi)).1
        · by_cases hjB : j.B = i.B
          · rw [hjB, hB] at ho; cases ho; cases hmi
          · rw [hu.get, if_neg hjB]; exact ho } }

end Go.Cn
