/- Stores, map updates, deletions, clears, copies. -/
import Derived.Test.YtfagmflapdgcmaaDoorCnOps6
namespace Go.Cn
set_option linter.unusedVariables false
set_option linter.unusedSimpArgs false

section ops
variable {P : Program} {β : Ren} {σ : CW} {w : World} {ev' ρ : Operand → Value} {o : Oper} {v : Value} {σ' : CW}

theorem put_row {σ : CW} {a : Addr} {vs : List Value} {σ' : CW} (h : σ.put a vs = some σ') : a.spot = none ∧ a = ⟨a.block, a.off, none⟩ := by
  unfold CW.put at h
  split at h
  · cases h
  · rename_i hs; exact ⟨hs, by cases a; simp_all⟩

theorem r_storeVar {t : TypeId} {a : Addr} {x : Value} {n : Nat} (hn : szOf P t = some n) (hx : x.cells.size = n) {w' : World} (h : (storeCells a x.cells.toList).run P w = .ok () w') : (storeVar t a x).run P w = .ok () w' := by
  simp [storeVar, r_size hn, hx, h]

theorem e_store {t : TypeId} {a x : Operand} {n : Nat} (h : Rel P β σ w) (ho : o.op = .store t a x) (hn : szOf P t = some n) (ha : VRel P β (ev' a) (ρ a)) (hx : VRel P β (ev' x) (ρ x))
    {ad : Addr} (had : ev' a = .pointer (some ad)) (hl : (cellsOf (ev' x)).length = n) (hp : σ.put ad (cellsOf (ev' x)) = some σ') : Does P ρ o β σ w cundef σ' := by
  obtain ⟨hs, hae⟩ := put_row hp
  obtain ⟨_, i, hi, q⟩ := (had ▸ ha).ptr_inv
  have hc := hx.cells
  rw [hae] at hp
  obtain ⟨w', h1, h2⟩ := h.put hi hp hc
  refine ⟨.skip, w', β, ?_, .inr ⟨rfl, rfl⟩, h2⟩
  have hsz : (ρ x).cells.size = n := by rw [← hl]; exact (lrel_size hc).symm
  simp [execOp, ho, q, Instr.storeAt, Instr.sureAddr, r_storeVar hn hsz h1]

theorem e_st1 {t : TypeId} {a x : Operand} (h : Rel P β σ w) (ho : o.op = .store t a x) (hn : szOf P t = some 1) (ha : VRel P β (ev' a) (ρ a)) (hx : VRel P β (ev' x) (ρ x))
    (hp : eev (.st1 a x) ev' σ = some (v, σ')) : Does P ρ o β σ w v σ' := by
  simp only [eev] at hp
  split at hp
  case h_2 => cases hp
  rename_i ad had
  split at hp
  case h_2 => cases hp
  rename_i u hu
  split at hp
  case h_2 => cases hp
  rename_i σ1 hput
  simp only [Option.some.injEq, Prod.mk.injEq] at hp
  obtain ⟨rfl, rfl⟩ := hp
  exact e_store h ho hn ha hx had (by rw [hu]; rfl) (by rw [hu]; exact hput)

theorem e_stN {t : TypeId} {a x : Operand} {n : Nat} (h : Rel P β σ w) (ho : o.op = .store t a x) (hn : szOf P t = some n) (ha : VRel P β (ev' a) (ρ a)) (hx : VRel P β (ev' x) (ρ x))
    (hp : eev (.stN n a x) ev' σ = some (v, σ')) : Does P ρ o β σ w v σ' := by
  simp only [eev] at hp
  split at hp
  case h_2 => cases hp
  rename_i ad had
  split at hp
  case isFalse => cases hp
  rename_i hl
  split at hp
  case h_2 => cases hp
  rename_i σ1 hput
  simp only [Option.some.injEq, Prod.mk.injEq] at hp
  obtain ⟨rfl, rfl⟩ := hp
  exact e_store h ho hn ha hx had hl hput

theorem Rel.other {r : Nat} {o1 : CObj} {i : BI} (h : Rel P β σ w) (hr : σ.heap r = some o1) (h1 : isRow o1 = false) (hi : β r = some i) : ∀ n j, n ≠ r → β n = some j → j.B = i.B → σ.heap n = some .dead := by
  intro n j hn hj hB
  obtain ⟨_, ha⟩ := h.alias n r j i hn hj hi hB
  rw [hr] at ha
  obtain ⟨o, ho⟩ := h.here n j hj
  rw [ho] at ha ⊢
  cases o with
  | dead => rfl
  | cells _ _ _ _ => cases o1 <;> first | cases h1; done | exact ha.elim
  | map _ _ => cases o1 <;> first | cases h1; done | exact ha.elim
  | iter _ _ _ => cases o1 <;> first | cases h1; done | exact ha.elim
  | loop _ _ _ _ _ _ => cases o1 <;> first | cases h1; done | exact ha.elim

def isCells : CObj → Bool
  | .cells _ _ _ _ => true
  | _ => false

/-- An object that is no row turns. -/
theorem Rel.setO {r : Nat} {o1 o2 : CObj} {i : BI} {o2' : Obj} {w' : World} (h : Rel P β σ w) (hr : σ.heap r = some o1) (h1 : isRow o1 = false) (h2 : isCells o2 = false) (hro : σ.ro ≤ r) (hi : β r = some i)
    (hu : UpdB w w' i.B o2') (hm : ObjRel P β i o2 (some o2')) (hit : Iters β (σ.set r o2) w') : Stp P β σ w β (σ.set r o2) w' := by
  have other := h.other hr h1 hi
  have hinv := h.inv
  exact
  { le := .refl _
    new := fun _ _ h => .inl h
    next := Nat.le_refl _
    ro := rfl
    inj := rfl
    cfr := by
      intro b hb hn
      show upd σ.heap r _ b = _ ∨ _
      rw [upd_ne _ _ (fun e => by rw [e, hi] at hn; cases hn)]
      exact .inl rfl
    size := by rw [hu.size]; exact Nat.le_refl _
    afr := by intro B hB hne; rw [hu.get, if_neg (fun e => hne r i hi hro e.symm)]
    os := hu.os
    out := hu.out
    tape := hu.tape
    rel :=
    { wr := h.wr
      inv :=
      { fresh := by
          intro b hb
          show upd σ.heap r _ b = none
          have hb2 : σ.next ≤ b := hb
          rw [upd_ne _ _ (fun e => by subst e; have := heap_lt hinv hr; omega)]
          exact hinv.fresh b hb2
        mem := by
          intro b c E cl rel hb
          have hb' : upd σ.heap r (some o2) b = some (.cells c E cl rel) := hb
          by_cases hbr : b = r
          · subst hbr; rw [upd_same] at hb'; cases hb'; cases h2
          · rw [upd_ne _ _ hbr] at hb'
            have hm := hinv.mem b c E cl rel hb'
            refine ⟨?_, hm.2⟩
            unfold CW.members at hm ⊢
            show _ ∈ (match σ.cls cl with | some l => l | none => (match upd σ.heap r (some o2) cl with | some (.cells l _ _ _) => [(cl, l.length)] | _ => []))
            cases hc : σ.cls cl with
            | some l => rw [hc] at hm; exact hm.1
            | none =>
              rw [hc] at hm
              by_cases hcr : cl = r
              · subst hcr; rw [hr] at hm; refine absurd hm.1 ?_; cases o1 <;> first | cases h1; done | exact List.not_mem_nil
              · simp only [upd_ne _ _ hcr]; exact hm.1
        cls := hinv.cls
        rol := hinv.rol }
      lt := fun n j hn => ⟨(h.lt n j hn).1, by rw [hu.size]; exact (h.lt n j hn).2⟩
      obj := by
        intro n j o hn ho
        have ho' : upd σ.heap r (some o2) n = some o := ho
        by_cases hnr : n = r
        · subst hnr
          rw [upd_same] at ho'; cases ho'
          rw [hi] at hn; cases hn
          rw [hu.get, if_pos rfl]; exact hm
        · rw [upd_ne _ _ hnr] at ho'
          by_cases hB : j.B = i.B
          · rw [other n j hnr hn hB] at ho'; cases ho'; trivial
          · rw [hu.get, if_neg hB]; exact h.obj n j o hn ho'
      alias := by
        intro b1 b2 i1 i2 hne h1 h2 hBB
        have ha := h.alias b1 b2 i1 i2 hne h1 h2 hBB
        unfold AliasOk at ha ⊢
        refine ⟨ha.1, ?_⟩
        show match upd σ.heap r (some o2) b1, upd σ.heap r (some o2) b2 with | some .dead, _ => True | _, some .dead => True | some (.cells _ _ c1 r1), some (.cells _ _ c2 r2) => (b1 < σ.ro ∧ ((σ.inj ≤ b1 ∧ σ.inj ≤ b2) ∨ i1.sh ≠ i2.sh)) ∨ (σ.ro ≤ b1 ∧ c1 = c2 ∧ i1.sh + r2 = i2.sh + r1) | _, _ => False
        by_cases e1 : b1 = r
        · subst e1
          rw [hi] at h1; cases h1
          have hd := other b2 i2 (Ne.symm hne) h2 hBB.symm
          rw [upd_same, upd_ne _ _ (Ne.symm hne), hd]
          cases o2 <;> trivial
        · by_cases e2 : b2 = r
          · subst e2
            rw [hi] at h2; cases h2
            have hd := other b1 i1 hne h1 hBB
            rw [upd_same, upd_ne _ _ e1, hd]
            trivial
          · rw [upd_ne _ _ e1, upd_ne _ _ e2]; exact ha.2
      here := by
        intro n j hn
        show ∃ o, upd σ.heap r (some o2) n = some o
        by_cases hnr : n = r
        · subst hnr; rw [upd_same]; exact ⟨_, rfl⟩
        · rw [upd_ne _ _ hnr]; exact h.here n j hn
      iters := hit } }

/-- A map's entries turn. -/
theorem Rel.setMap {r ver : Nat} {es es2 : List (Value × Value)} {i : BI} {es2' : Array MapEntry} {clock : Nat} {w' : World} (h : Rel P β σ w) (hr : σ.heap r = some (.map es ver)) (hro : σ.ro ≤ r) (hi : β r = some i)
    (hu : UpdB w w' i.B (.map es2' clock)) (hm : MapRel P β es2 es2') (hb : Born es2' clock) : Stp P β σ w β { σ with heap := upd σ.heap r (some (.map es2 (ver + 1))) } w' := by
  have other := h.other hr rfl hi
  refine h.setO hr rfl rfl hro hi hu ⟨hm, hb⟩ ?_
  intro n ir m v seen hn ho
  have ho' : upd σ.heap r (some (.map es2 (ver + 1))) n = some (.iter (some m) v seen) := ho
  have hnr : n ≠ r := by intro e; subst e; rw [upd_same] at ho'; cases ho'
  rw [upd_ne _ _ hnr] at ho'
  obtain ⟨im, since, seen', last, a1, a2, a3, a4, a5⟩ := h.iters n ir m v seen hn ho'
  refine ⟨im, since, seen', last, a1, ?_, a3, a4, fun es0 v0 hm0 => ?_⟩
  · rw [hu.get, if_neg]
    · exact a2
    · intro e; rw [other n ir hnr hn e] at ho'; cases ho'
  · have hm0' : upd σ.heap r (some (.map es2 (ver + 1))) m = some (.map es0 v0) := hm0
    by_cases hmr : m = r
    · subst hmr
      rw [upd_same] at hm0'; cases hm0'
      obtain ⟨b1, _⟩ := a5 es ver hr
      exact ⟨by omega, fun e => by omega⟩
    · rw [upd_ne _ _ hmr] at hm0'
      obtain ⟨b1, b2⟩ := a5 es0 v0 hm0'
      refine ⟨b1, fun e => ?_⟩
      obtain ⟨es', clock', c1, c2⟩ := b2 e
      refine ⟨es', clock', ?_, c2⟩
      rw [hu.get, if_neg]
      · exact c1
      · intro e; rw [other m im hmr a1 e] at hm0'; cases hm0'

theorem Born.push {es' : Array MapEntry} {clock : Nat} (h : Born es' clock) {e : MapEntry} (he : e.born = clock) : Born (es'.push e) (clock + 1) := by
  refine ⟨fun x hx => ?_, ?_⟩
  · simp only [Array.toList_push, List.mem_append, List.mem_singleton] at hx
    rcases hx with hx | rfl
    · have := h.1 x hx; omega
    · omega
  · simp only [Array.toList_push, List.map_append, List.map_cons, List.map_nil]
    rw [List.nodup_append]
    refine ⟨h.2, by simp, fun a ha b hb => ?_⟩
    rw [List.mem_singleton] at hb
    obtain ⟨x, hx, rfl⟩ := List.mem_map.1 ha
    have := h.1 x hx
    omega
theorem Born.sub {es' es2 : Array MapEntry} {clock : Nat} (h : Born es' clock) (hs : (es2.toList.map (·.born)).Sublist (es'.toList.map (·.born))) : Born es2 clock := by
  refine ⟨fun x hx => ?_, h.2.sublist hs⟩
  have : x.born ∈ es'.toList.map (·.born) := hs.subset (List.mem_map.2 ⟨x, hx, rfl⟩)
  obtain ⟨y, hy, e⟩ := List.mem_map.1 this
  rw [← e]; exact h.1 y hy

theorem r_setMap {B : Nat} {es' es2' : Array MapEntry} {clock clock2 : Nat} (h : w.heap[B]? = some (.map es' clock)) :
    ∃ w', (setObj B (.map es2' clock2)).run P w = .ok () w' ∧ UpdB w w' B (.map es2' clock2) := by
  refine ⟨{ w with heap := w.heap.setIfInBounds B (.map es2' clock2) }, by simp [setObj, Sem.run, h], ⟨by simp, fun j => ?_, rfl, rfl, rfl⟩⟩
  have hlt := lt_of_get h
  by_cases hj : j = B
  · subst hj; simp [hlt]
  · rw [if_neg hj]; simp [Array.getElem?_setIfInBounds_ne (Ne.symm hj)]

theorem mput_none {k v : Value} : ∀ {es es2 : List (Value × Value)}, mput k v es = some es2 → (∀ x ∈ es, keyEq k x.1 = some false) → es2 = es ++ [(k, v)]
  | [], es2, h, _ => by cases h; rfl
  | (k', v') :: es, es2, h, hn => by
    have := hn (k', v') (by simp)
    simp only [mput, this] at h
    split at h
    · rename_i r hr; cases h; rw [mput_none hr fun x hx => hn x (by simp [hx])]; rfl
    · cases h
theorem mput_some {k v v0 : Value} : ∀ {pre post es2 : List (Value × Value)}, mput k v (pre ++ (k, v0) :: post) = some es2 → (∀ x ∈ pre, keyEq k x.1 = some false) → keyEq k k = some true → es2 = pre ++ (k, v) :: post
  | [], post, es2, h, _, hk => by simp only [List.nil_append, mput, hk] at h; cases h; rfl
  | (k', v') :: pre, post, es2, h, hn, hk => by
    have := hn (k', v') (by simp)
    simp only [List.cons_append, mput, this] at h
    split at h
    · rename_i r hr; cases h; rw [mput_some hr (fun x hx => hn x (by simp [hx])) hk]; rfl
    · cases h
theorem mput_look {k v : Value} : ∀ {es es2 : List (Value × Value)}, mput k v es = some es2 → ∃ r, look k es = some r
  | [], es2, h => ⟨none, rfl⟩
  | (k', v') :: es, es2, h => by
    unfold mput at h
    split at h
    · rename_i e; simp only [look, e]; exact ⟨_, rfl⟩
    · rename_i e
      simp only [look, e]
      split at h
      · rename_i r hr; exact mput_look hr
      · cases h
    · cases h
theorem mdel_look {k : Value} : ∀ {es es2 : List (Value × Value)}, mdel k es = some es2 → ∃ r, look k es = some r
  | [], es2, h => ⟨none, rfl⟩
  | (k', v') :: es, es2, h => by
    unfold mdel at h
    split at h
    · rename_i e; simp only [look, e]; exact ⟨_, rfl⟩
    · rename_i e
      simp only [look, e]
      split at h
      · rename_i r hr; exact mdel_look hr
      · cases h
    · cases h
theorem mdel_none {k : Value} : ∀ {es es2 : List (Value × Value)}, mdel k es = some es2 → (∀ x ∈ es, keyEq k x.1 = some false) → es2 = es
  | [], es2, h, _ => by cases h; rfl
  | (k', v') :: es, es2, h, hn => by
    have := hn (k', v') (by simp)
    simp only [mdel, this] at h
    split at h
    · rename_i r hr; cases h; rw [mdel_none hr fun x hx => hn x (by simp [hx])]
    · cases h
theorem mdel_some {k v0 : Value} : ∀ {pre post es2 : List (Value × Value)}, mdel k (pre ++ (k, v0) :: post) = some es2 → (∀ x ∈ pre, keyEq k x.1 = some false) → keyEq k k = some true → es2 = pre ++ post
  | [], post, es2, h, _, hk => by simp only [List.nil_append, mdel, hk] at h; cases h; rfl
  | (k', v') :: pre, post, es2, h, hn, hk => by
    have := hn (k', v') (by simp)
    simp only [List.cons_append, mdel, this] at h
    split at h
    · rename_i r hr; cases h; rw [mdel_some hr (fun x hx => hn x (by simp [hx])) hk]; rfl
    · cases h

/-- the entry that was found, taken out of the model's entries and of those in the canonical order -/
theorem perm_split {pre post : List (Value × Value)} {k v0 : Value} {es' : Array MapEntry} {j : Nat} {e : MapEntry} (hm : MapRel P β (pre ++ (k, v0) :: post) es') (hj : es'[j]? = some e) (hk : e.key = k)
    (ho : ∀ x ∈ pre ++ post, keyEq k x.1 = some false) : ∃ p q, ERel P β pre p ∧ ERel P β post q ∧ (es'.toList.take j ++ es'.toList.drop (j + 1)).Perm (p ++ q) := by
  obtain ⟨hkeys, l, hp, hr⟩ := hm
  obtain ⟨p, e1, q, rfl, h1, h2, h3, h4⟩ := ERel.split hr
  refine ⟨p, q, h1, h4, ?_⟩
  have hjl : j < es'.toList.length := by have := (Array.getElem?_eq_some_iff.1 hj).1; simpa using this
  have hje : es'.toList[j] = e := by have := (Array.getElem?_eq_some_iff.1 hj).2; simpa using this
  have hsp : es'.toList = es'.toList.take j ++ e :: es'.toList.drop (j + 1) := by
    rw [← hje, ← List.drop_eq_getElem_cons hjl, List.take_append_drop]
  have hmem : e ∈ p ++ e1 :: q := hp.mem_iff.1 (by rw [hsp]; simp)
  have hee : e = e1 := by
    have hno : ∀ x ∈ p ++ q, x.key ≠ k := by
      intro x hx he
      have : ∃ u, (x.key, u) ∈ pre ++ post ∧ VRel P β u x.val := by
        rcases List.mem_append.1 hx with hx | hx
        · obtain ⟨u, g1, g2⟩ := h1.mem hx; exact ⟨u, List.mem_append_left _ g1, g2⟩
        · obtain ⟨u, g1, g2⟩ := h4.mem hx; exact ⟨u, List.mem_append_right _ g1, g2⟩
      obtain ⟨u, g1, _⟩ := this
      exact keyEq_false_ne (ho _ g1) he.symm
    rcases List.mem_append.1 hmem with hx | hx
    · exact absurd hk (hno e (List.mem_append_left _ hx))
    · rcases List.mem_cons.1 hx with hx | hx
      · exact hx
      · exact absurd hk (hno e (List.mem_append_right _ hx))
  subst hee
  have h5 : (e :: (es'.toList.take j ++ es'.toList.drop (j + 1))).Perm (e :: (p ++ q)) := by
    refine List.Perm.trans ?_ (hp.trans (List.perm_middle))
    conv => rhs; rw [hsp]
    exact List.perm_middle.symm
  exact h5.cons_inv

theorem keysOk_mid {pre post : List (Value × Value)} {k v0 v : Value} (h : KeysOk (pre ++ (k, v0) :: post)) : KeysOk (pre ++ (k, v) :: post) := by
  unfold KeysOk at h ⊢
  rw [List.pairwise_append] at h ⊢
  obtain ⟨h1, h2, h3⟩ := h
  rw [List.pairwise_cons] at h2 ⊢
  refine ⟨h1, ⟨h2.1, h2.2⟩, fun x hx y hy => ?_⟩
  rcases List.mem_cons.1 hy with rfl | hy
  · exact h3 x hx (k, v0) (by simp)
  · exact h3 x hx y (by simp [hy])
theorem keysOk_rm {pre post : List (Value × Value)} {x : Value × Value} (h : KeysOk (pre ++ x :: post)) : KeysOk (pre ++ post) := by
  unfold KeysOk at h ⊢
  exact h.sublist (List.Sublist.append (List.Sublist.refl _) (List.sublist_cons_self x post))
theorem keysOk_snoc {es : List (Value × Value)} {k v : Value} (h : KeysOk es) (hn : ∀ x ∈ es, keyEq k x.1 = some false) : KeysOk (es ++ [(k, v)]) := by
  unfold KeysOk at h ⊢
  rw [List.pairwise_append]
  refine ⟨h, List.pairwise_singleton _ _, fun x hx y hy => ?_⟩
  rw [List.mem_singleton] at hy
  subst hy
  exact keyEq_symm_false (hn x hx)

theorem run_keyStays {k : Value} {str : Bool} (h : isKey str k = true) : (Instr.keyThatStays k k).run P w = .ok k w := by
  have : Instr.sameBits 10000 k k = true := by
    unfold isKey at h
    split at h
    · rw [Instr.sameBits]; rw [ba_beq]
    · rw [Instr.sameBits]; simp
    · cases h
  unfold Instr.keyThatStays
  rw [if_pos this]; rfl

theorem e_mapupd {t kt e : TypeId} {d : TypeDesc} {str : Bool} {m k x : Operand} (h : Rel P β σ w) (ho : o.op = .mapUpdate t m k x ∨ o.op = .insert t m k x) (ht : P.underlying t = some (.map kt e)) (hkt : P.underlying kt = some d) (hd : KeyKind d str)
    (hm : VRel P β (ev' m) (ρ m)) (hk : VRel P β (ev' k) (ρ k)) (hx : VRel P β (ev' x) (ρ x)) (hp : eev (.mapupd str m k x) ev' σ = some (v, σ')) : Does P ρ o β σ w v σ' := by
  simp only [eev] at hp
  split at hp
  case h_2 => cases hp
  rename_i r em
  split at hp
  case h_2 => cases hp
  rename_i es ver hr
  split at hp
  case isFalse => cases hp
  rename_i hcond
  obtain ⟨hkey, hro⟩ := hcond
  split at hp
  case h_2 => cases hp
  rename_i es2 hput
  simp only [Option.some.injEq, Prod.mk.injEq] at hp
  obtain ⟨rfl, rfl⟩ := hp
  obtain ⟨i, hi, q⟩ := (em ▸ hm).map_inv
  obtain ⟨es', clock, hB, hmr, hbo⟩ := h.mapB hr hi
  have qk := isKey_rel hkey hk
  obtain ⟨lr, hlook⟩ := mput_look hput
  have hck : ∀ b, (Instr.checkKey b 10000 kt (ρ k)).run P w = .ok () w := fun b => run_checkKey (n := 9999) hkt hd
  have hex : ∀ w', (Instr.mapUpdate t (.map (some i.B)) (ρ k) (ρ x)).run P w = .ok () w' → (execOp ρ o).run P w = .ok .skip w' := by
    intro w' hw'
    rcases ho with ho | ho <;> simp only [execOp, ho, q, Sem.run_bind, hw', Result.andThen] <;> rfl
  rcases hmr.look hd hkey hlook with ⟨rfl, hf, hno⟩ | ⟨v0, pre, post, j, en, rfl, rfl, hj, hek, _, hf, hoth⟩
  · have hes2 := mput_none hput hno
    subst hes2
    have hfk := run_findKey (P := P) (w := w) hkt (qk ▸ hf)
    obtain ⟨w', hw', hu⟩ := r_setMap (P := P) (es2' := es'.push { key := ρ k, val := ρ x, born := clock }) (clock2 := clock + 1) hB
    refine ⟨.skip, w', β, hex w' ?_, .inr ⟨rfl, rfl⟩, h.setMap hr hro hi hu ?_ (hbo.push rfl)⟩
    · simp only [Instr.mapUpdate, Sem.run_bind, r_und ht, Result.andThen, r_getMap hB, hck, hfk, hw']
    · obtain ⟨hkeys, l, hpm, hrel⟩ := hmr
      refine ⟨keysOk_snoc hkeys hno, l ++ [{ key := ρ k, val := ρ x, born := clock }], ?_, hrel.append (.cons qk hx .nil)⟩
      simp only [Array.toList_push]
      exact hpm.append_right _
  · have hes2 := mput_some hput (fun y hy => hoth y (by simp [hy])) (keyEq_self hkey)
    subst hes2
    have hfk := run_findKey (P := P) (w := w) hkt (qk ▸ hf)
    obtain ⟨w', hw', hu⟩ := r_setMap (P := P) (es2' := es'.modify j fun e => { e with key := ρ k, val := ρ x }) (clock2 := clock) hB
    have hbo2 : Born (es'.modify j fun e => { e with key := ρ k, val := ρ x }) clock := by
      refine hbo.sub ?_
      have : (es'.modify j fun e => { e with key := ρ k, val := ρ x }).toList.map (·.born) = es'.toList.map (·.born) := by
        apply List.ext_getElem?
        intro n
        simp only [List.getElem?_map, Array.getElem?_toList, Array.getElem?_modify]
        split
        · cases es'[n]? <;> rfl
        · rfl
      rw [this]; exact List.Sublist.refl _
    refine ⟨.skip, w', β, hex w' ?_, .inr ⟨rfl, rfl⟩, h.setMap hr hro hi hu ?_ hbo2⟩
    · have hks : (Instr.keyThatStays (((es'[j]?).map (·.key)).getD (ρ k)) (ρ k)).run P w = .ok (ρ k) w := by
        rw [hj]
        simp only [Option.map_some, Option.getD_some, hek]
        rw [qk]; exact run_keyStays hkey
      simp only [Instr.mapUpdate, Sem.run_bind, r_und ht, Result.andThen, r_getMap hB, hck, hfk, hks, hw']
    · obtain ⟨p, q', h1, h2, h3⟩ := perm_split hmr hj hek hoth
      refine ⟨keysOk_mid hmr.1, p ++ { en with key := ρ k, val := ρ x } :: q', ?_, h1.append (.cons qk hx h2)⟩
      have hjl : j < es'.size := (Array.getElem?_eq_some_iff.1 hj).1
      have hmod : (es'.modify j fun e => { e with key := ρ k, val := ρ x }).toList = es'.toList.take j ++ { en with key := ρ k, val := ρ x } :: es'.toList.drop (j + 1) := by
        apply List.ext_getElem?
        intro n
        simp only [Array.getElem?_toList, Array.getElem?_modify]
        have hjl' : j ≤ es'.toList.length := by simp; omega
        by_cases hn : j = n
        · subst hn
          rw [if_pos rfl, hj, List.getElem?_append_right (by simp; omega)]
          simp [Nat.min_eq_left (Nat.le_of_lt hjl)]
        · rw [if_neg hn]
          by_cases hlt : n < j
          · rw [List.getElem?_append_left (by simp; omega), List.getElem?_take, if_pos hlt]; simp
          · rw [List.getElem?_append_right (by simp; omega)]
            have : n - (es'.toList.take j).length = (n - (j + 1)) + 1 := by simp; omega
            rw [this, List.getElem?_cons_succ, List.getElem?_drop]
            have : j + 1 + (n - (j + 1)) = n := by omega
            rw [this]; simp
      rw [hmod]
      refine List.perm_middle.trans (List.Perm.trans ?_ List.perm_middle.symm)
      exact h3.cons _

theorem e_delete {c : Call} {t u kt e : TypeId} {d : TypeDesc} {str : Bool} {m k : Operand} (h : Rel P β σ w) (ho : o.op = .call c) (hc : c.callee = .builtin .delete) (hat : c.argTypes = #[t, u]) (ha : c.args = #[m, k]) (ht : P.underlying t = some (.map kt e))
    (hkt : P.underlying kt = some d) (hd : KeyKind d str) (hm : VRel P β (ev' m) (ρ m)) (hk : VRel P β (ev' k) (ρ k)) (hp : eev (.delete str m k) ev' σ = some (v, σ')) : Does P ρ o β σ w v σ' := by
  have hck : ∀ b, (Instr.checkKey b 10000 kt (ρ k)).run P w = .ok () w := fun b => run_checkKey (n := 9999) hkt hd
  have hex : ∀ w' y, (Builtin.delete_ #[t, u] o.type #[ρ m, ρ k]).run P w = .ok y w' → (execOp ρ o).run P w = .ok (.value y) w' := by
    intro w' y hw'
    simp [execOp, ho, resolve, hc, ha, hat, invoke, builtin, hw']
  simp only [eev] at hp
  split at hp
  · rename_i r em
    split at hp
    case h_2 => cases hp
    rename_i es ver hr
    split at hp
    case isFalse => cases hp
    rename_i hcond
    obtain ⟨hkey, hro⟩ := hcond
    split at hp
    case h_2 => cases hp
    rename_i es2 hdel
    simp only [Option.some.injEq, Prod.mk.injEq] at hp
    obtain ⟨rfl, rfl⟩ := hp
    obtain ⟨i, hi, q⟩ := (em ▸ hm).map_inv
    obtain ⟨es', clock, hB, hmr, hbo⟩ := h.mapB hr hi
    have qk := isKey_rel hkey hk
    obtain ⟨lr, hlook⟩ := mdel_look hdel
    rcases hmr.look hd hkey hlook with ⟨rfl, hf, hno⟩ | ⟨v0, pre, post, j, en, rfl, rfl, hj, hek, _, hf, hoth⟩
    · have hes2 := mdel_none hdel hno
      subst hes2
      have hfk := run_findKey (P := P) (w := w) hkt (qk ▸ hf)
      obtain ⟨w', hw', hu⟩ := r_setMap (P := P) (es2' := es') (clock2 := clock) hB
      refine ⟨.value (.tuple #[]), w', β, hex w' _ ?_, .inl ⟨_, rfl, .undef⟩, h.setMap hr hro hi hu hmr hbo⟩
      simp [Builtin.delete_, r_und ht, q, r_getMap hB, hck, hfk, hw']
    · have hes2 := mdel_some hdel (fun y hy => hoth y (by simp [hy])) (keyEq_self hkey)
      subst hes2
      have hfk := run_findKey (P := P) (w := w) hkt (qk ▸ hf)
      obtain ⟨w', hw', hu⟩ := r_setMap (P := P) (es2' := es'.eraseIdxIfInBounds j) (clock2 := clock) hB
      have hbo2 : Born (es'.eraseIdxIfInBounds j) clock := by
        refine hbo.sub (List.Sublist.map _ ?_)
        have hjl : j < es'.size := (Array.getElem?_eq_some_iff.1 hj).1
        rw [Array.eraseIdxIfInBounds, dif_pos hjl]
        simp only [Array.toList_eraseIdx]
        exact List.eraseIdx_sublist _ _
      refine ⟨.value (.tuple #[]), w', β, hex w' _ ?_, .inl ⟨_, rfl, .undef⟩, h.setMap hr hro hi hu ?_ hbo2⟩
      · simp [Builtin.delete_, r_und ht, q, r_getMap hB, hck, hfk, hw']
      · obtain ⟨p, q', h1, h2, h3⟩ := perm_split hmr hj hek hoth
        refine ⟨keysOk_rm hmr.1, p ++ q', ?_, h1.append h2⟩
        have hjl : j < es'.size := (Array.getElem?_eq_some_iff.1 hj).1
        have : (es'.eraseIdxIfInBounds j).toList = es'.toList.take j ++ es'.toList.drop (j + 1) := by
          rw [Array.eraseIdxIfInBounds, dif_pos hjl]
          simp [List.eraseIdx_eq_take_drop_succ]
        rw [this]; exact h3
  · rename_i em
    split at hp
    case isFalse => cases hp
    simp only [Option.some.injEq, Prod.mk.injEq] at hp
    obtain ⟨rfl, rfl⟩ := hp
    refine ⟨.value (.tuple #[]), w, β, hex w _ ?_, .inl ⟨_, rfl, .undef⟩, .refl h⟩
    simp [Builtin.delete_, r_und ht, (em ▸ hm).nilMap_inv, hck]
  · cases hp

end ops
end Go.Cn
