/- Regions that draw their order: whatever the order. -/
import Derived.Test.YtdepohnidjndjaaCnDraw3
namespace Go.Cn
set_option linter.unusedVariables false
set_option linter.unusedSimpArgs false

theorem bit_test (m i : Nat) : bit m i = m.testBit i := by
  rw [Nat.testBit_eq_decide_div_mod_eq]
  have h1 : Nat.shiftRight m i = m / 2 ^ i := Nat.shiftRight_eq_div_pow m i
  unfold bit
  rw [h1]
  show Nat.beq (m / 2 ^ i % 2) 1 = _
  by_cases h : m / 2 ^ i % 2 = 1
  · rw [decide_eq_true h, Nat.beq_eq]; exact h
  · rw [decide_eq_false h]
    cases e : Nat.beq (m / 2 ^ i % 2) 1 with
    | false => rfl
    | true => exact absurd (Nat.beq_eq.symm ▸ e : m / 2 ^ i % 2 = 1) h

theorem bit_or (a b i : Nat) : bit (Nat.lor a b) i = (bit a i || bit b i) := by
  simp only [bit_test]; exact Nat.testBit_or a b i
theorem bit_one (e i : Nat) : bit (Nat.shiftLeft 1 e) i = true → e = i := by
  rw [bit_test]
  intro h
  have : (1 <<< e).testBit i = true := h
  rw [Nat.testBit_shiftLeft] at this
  simp only [Bool.and_eq_true, decide_eq_true_eq] at this
  have h2 := Nat.testBit_one_eq_true_iff_self_eq_zero.1 this.2
  omega
theorem bit_zero (i : Nat) : bit 0 i = false := by simp [bit_test]

theorem bit_foldl (acc : List Nat) (j : Nat) : ∀ (es : List Nat) (m : Nat), bit (es.foldl (fun m e => Nat.lor m (Nat.lor (acc.getD e 0) (Nat.shiftLeft 1 e))) m) j = true → bit m j = true ∨ ∃ e ∈ es, e = j ∨ bit (acc.getD e 0) j = true
  | [], m, h => .inl h
  | e :: es, m, h => by
    rcases bit_foldl acc j es _ h with h1 | ⟨e', h1, h2⟩
    · rw [bit_or, bit_or] at h1
      simp only [Bool.or_eq_true] at h1
      rcases h1 with h1 | h1 | h1
      · exact .inl h1
      · exact .inr ⟨e, by simp, .inr h1⟩
      · exact .inr ⟨e, by simp, .inl (bit_one _ _ h1)⟩
    · exact .inr ⟨e', by simp [h1], h2⟩

theorem ancs_ok : ∀ (l : List Oper) (i : Nat) (acc r : List Nat), ancs l i acc = some r → acc.length = i → (∃ s, r = acc ++ s ∧ s.length = l.length) ∧
    ∀ (k : Nat) (o : Oper), l[k]? = some o → (∀ e ∈ o.after, Region.binds .any e = true → e.on < i + k) ∧
      ∀ j, bit (r.getD (i + k) 0) j = true → ∃ e ∈ o.after, Region.binds .any e = true ∧ (e.on = j ∨ bit (r.getD e.on 0) j = true)
  | [], i, acc, r, h, ha => by
    cases h
    exact ⟨⟨[], by simp, rfl⟩, by simp⟩
  | o :: l, i, acc, r, h, ha => by
    simp only [ancs] at h
    split at h
    · rename_i hall
      obtain ⟨⟨s, hs, hsl⟩, hk⟩ := ancs_ok l (i + 1) _ r h (by simp [ha])
      have hlt : ∀ e ∈ o.after, Region.binds .any e = true → e.on < i := by
        intro e he hb
        have := List.all_eq_true.1 hall e.on (List.mem_map.2 ⟨e, List.mem_filter.2 ⟨by simpa using he, hb⟩, rfl⟩)
        simp [Nat.blt] at this; omega
      refine ⟨⟨_ :: s, by rw [hs]; simp; rfl, by simp [hsl]⟩, fun k o' ho => ?_⟩
      cases k with
      | zero =>
        simp only [List.getElem?_cons_zero, Option.some.injEq] at ho
        subst ho
        refine ⟨hlt, fun j hj => ?_⟩
        have e1 : ∀ m, m < i → r.getD m 0 = acc.getD m 0 := by
          intro m hm
          rw [hs, List.getD_eq_getElem?_getD, List.getD_eq_getElem?_getD, List.append_assoc, List.getElem?_append_left (by omega)]
        have e2 : r.getD (i + 0) 0 = ((o.after.toList.filter (Region.binds .any)).map (·.on)).foldl (fun m e => Nat.lor m (Nat.lor (acc.getD e 0) (Nat.shiftLeft 1 e))) 0 := by
          rw [hs, List.getD_eq_getElem?_getD, List.append_assoc, List.getElem?_append_right (by omega)]
          simp [ha]
        rw [e2] at hj
        rcases bit_foldl acc j _ _ hj with h1 | ⟨e, h1, h2⟩
        · rw [bit_zero] at h1; cases h1
        · obtain ⟨e', g1, rfl⟩ := List.mem_map.1 h1
          obtain ⟨g1, g2⟩ := List.mem_filter.1 g1
          have g1 : e' ∈ o.after := by simpa using g1
          exact ⟨e', g1, g2, h2.imp id fun h => by rw [e1 _ (hlt e' g1 g2)]; exact h⟩
      | succ k =>
        obtain ⟨h1, h2⟩ := hk k o' (by simpa using ho)
        have e : i + 1 + k = i + (k + 1) := by omega
        rw [e] at h1 h2
        exact ⟨h1, h2⟩
    · cases h

theorem items_mem : ∀ {os : List Oper} {ss : List CStep} {as : List Nat} {i : Nat} {x : Item}, x ∈ itemsOf os ss as i →
    ∃ k, x.i = i + k ∧ os[k]? = some x.o ∧ ss[k]? = some x.s ∧ as[k]? = some x.anc ∧ x.eff = isE x.s x.o
  | o :: os, s :: ss, a :: as, i, x, h => by
    simp only [itemsOf, List.mem_cons] at h
    rcases h with rfl | h
    · exact ⟨0, rfl, rfl, rfl, rfl, rfl⟩
    · obtain ⟨k, h1, h2, h3, h4, h5⟩ := items_mem h
      exact ⟨k + 1, by omega, by simpa using h2, by simpa using h3, by simpa using h4, h5⟩
  | [], _, _, _, _, h => by simp [itemsOf] at h
  | _ :: _, [], _, _, _, h => by simp [itemsOf] at h
  | _ :: _, _ :: _, [], _, _, h => by simp [itemsOf] at h
theorem items_all : ∀ {os : List Oper} {ss : List CStep} {as : List Nat} {i k : Nat}, k < os.length → k < ss.length → k < as.length → ∃ x ∈ itemsOf os ss as i, x.i = i + k
  | o :: os, s :: ss, a :: as, i, k, h1, h2, h3 => by
    cases k with
    | zero => exact ⟨_, by simp [itemsOf]; exact .inl rfl, rfl⟩
    | succ k =>
      obtain ⟨x, g1, g2⟩ := items_all (i := i + 1) (os := os) (ss := ss) (as := as) (k := k) (by simpa using h1) (by simpa using h2) (by simpa using h3)
      exact ⟨x, by simp [itemsOf, g1], by omega⟩
  | [], _, _, _, _, h, _, _ => by simp at h
  | _ :: _, [], _, _, _, _, h, _ => by simp at h
  | _ :: _, _ :: _, [], _, _, _, _, h => by simp at h

theorem items_ok {P : Program} {n : Nat} {ops : Array Oper} {anc : List Nat} {ss : List CStep} (h1 : ancs ops.toList 0 [] = some anc) (h2 : ops.toList.mapM (stepOf P n ops) = some ss) :
    ItemsOk P n ops (itemsOf ops.toList ss anc 0) := by
  obtain ⟨⟨s, hs, hl⟩, ha⟩ := ancs_ok _ _ _ _ h1 rfl
  obtain ⟨hl2, hm⟩ := mapM_some h2
  simp at hs
  subst hs
  have hall : ∀ i, i < ops.size → ∃ x ∈ itemsOf ops.toList ss anc 0, x.i = i := by
    intro i hi
    obtain ⟨x, g1, g2⟩ := items_all (os := ops.toList) (ss := ss) (as := anc) (i := 0) (k := i) (by simpa using hi) (by rw [← hl2]; simpa using hi) (by rw [hl]; simpa using hi)
    exact ⟨x, g1, by omega⟩
  refine ⟨fun x hx => ?_, hall, fun x hx y hy hxy => ?_⟩
  · obtain ⟨k, e1, e2, e3, e4, e5⟩ := items_mem hx
    have ek : x.i = k := by omega
    obtain ⟨a1, a2⟩ := ha k x.o e2
    obtain ⟨o', b1, b2⟩ := hm k x.s e3
    rw [e2] at b1; cases b1
    refine ⟨by rw [ek]; simpa using e2, b2, ?_, ?_, ?_⟩
    · intro hf; rw [e5] at hf
      simp only [isE, Bool.or_eq_false_iff] at hf
      exact hf.1
    · intro e he hb; have := a1 e he hb; omega
    · intro j hj
      have e6 : anc.getD (0 + k) 0 = x.anc := by rw [List.getD_eq_getElem?_getD, Nat.zero_add, e4]; rfl
      obtain ⟨e, g1, g2, g3⟩ := a2 j (by rw [e6]; exact hj)
      refine ⟨e, g1, g2, g3.imp id fun g3 => ?_⟩
      have hlt : e.on < ops.size := by
        have := a1 e g1 g2
        have hk : k < ops.toList.length := (List.getElem?_eq_some_iff.1 e2).1
        simp at hk; omega
      obtain ⟨y, y1, y2⟩ := hall e.on hlt
      refine ⟨y, y1, y2, ?_⟩
      obtain ⟨k', f1, f2, f3, f4, f5⟩ := items_mem y1
      have : anc.getD e.on 0 = y.anc := by
        rw [List.getD_eq_getElem?_getD, show e.on = k' by omega, f4]; rfl
      rw [← this]; exact g3
  · obtain ⟨k, e1, e2, e3, e4, e5⟩ := items_mem hx
    obtain ⟨k', f1, f2, f3, f4, f5⟩ := items_mem hy
    have : k = k' := by omega
    subst this
    rw [e2] at f2; rw [e3] at f3; rw [e4] at f4
    cases x; cases y
    simp_all

section
variable {P : Program} {C : CallQ} {n lo : Nat} {r : Option Nat} {ds : List Deferred} {ops : Array Oper} {l : List Item} {β0 : Ren} {σ0 : CW} {w0 : World} {Q : Exit → Act → World → Prop}

theorem getD_set {listed : Array Bool} {i j : Nat} (hi : i < listed.size) : (listed.setIfInBounds i true).getD j false = true ↔ (listed.getD j false = true ∨ j = i) := by
  rw [Array.getD_eq_getD_getElem?, Array.getD_eq_getD_getElem?]
  by_cases h : i = j
  · subst h; simp [hi]
  · rw [Array.getElem?_setIfInBounds_ne h]
    exact ⟨.inl, fun h' => h'.elim id fun h' => absurd h'.symm h⟩

theorem ready_iff {listed : Array Bool} (hs : listed.size = ops.size) {i : Nat} : i ∈ Region.ready .any ops listed ↔ ∃ o, ops[i]? = some o ∧ listed.getD i false = false ∧ ∀ e ∈ o.after, Region.binds .any e = true → listed.getD e.on false = true := by
  simp only [Region.ready, List.mem_filter, List.mem_range, Bool.and_eq_true, Bool.not_eq_true']
  constructor
  · rintro ⟨h1, h2, h3⟩
    have ho : ops[i]? = some ops[i] := by simp [h1]
    rw [ho] at h3
    simp only [Option.map_some, Option.getD_some] at h3
    refine ⟨_, ho, ?_, fun e he hb => ?_⟩
    · rw [Array.getD_eq_getD_getElem?] at h2 ⊢
      rw [Array.getElem?_eq_getElem (by omega)] at h2 ⊢; exact h2
    · have := Array.all_eq_true'.1 h3 e he
      simpa [hb] using this
  · rintro ⟨o, h1, h2, h3⟩
    have hi : i < ops.size := by
      rw [Array.getElem?_eq_some_iff] at h1; exact h1.1
    refine ⟨hi, ?_, ?_⟩
    · rw [Array.getD_eq_getD_getElem?] at h2 ⊢
      rw [Array.getElem?_eq_getElem (by omega)] at h2 ⊢; exact h2
    · rw [h1]
      simp only [Option.map_some, Option.getD_some]
      refine Array.all_eq_true'.2 fun e he => ?_
      cases hb : Region.binds .any e with
      | false => rfl
      | true => simp [h3 e he hb]

theorem ord_mem {x : Item} : ∀ {r : List (Item × List Item)}, x ∈ ordOf r → ∃ p ∈ r, x = p.1 ∨ x ∈ p.2
  | [], h => by simp [ordOf] at h
  | (e, seg) :: r, h => by
    simp only [ordOf, List.mem_cons, List.mem_append] at h
    rcases h with h | h | h
    · exact ⟨(e, seg), by simp, .inl h⟩
    · exact ⟨(e, seg), by simp, .inr h⟩
    · obtain ⟨p, h1, h2⟩ := ord_mem h
      exact ⟨p, by simp [h1], h2⟩

/-- operations that are no effects come to one thing -/
theorem step_plain {s : CStep} (he : isEC s.op = false) {fr : Fr} {σ : CW} {K : Fr → CW → Prop} (h : StepW C s fr σ K) : ∃ fr' σ', StepR (fun _ _ _ _ _ => False) s fr σ fr' σ' ∧ K fr' σ' := by
  rcases h with ⟨h1, h2⟩ | ⟨h1, h2⟩
  · cases eo : s.op with
    | p q =>
      rw [eo] at h2
      obtain ⟨v, h3, h4⟩ := h2
      exact ⟨_, _, .inl ⟨h1, v, by rw [eo]; exact ⟨h3, rfl⟩, rfl⟩, h4⟩
    | a q =>
      rw [eo] at h2
      obtain ⟨obj, v, h3, h4⟩ := h2
      exact ⟨_, _, .inl ⟨h1, v, by rw [eo]; exact ⟨obj, h3, rfl⟩, rfl⟩, h4⟩
    | e q => rw [eo] at he; cases he
    | no => rw [eo] at he; cases he
  · exact ⟨_, _, .inr ⟨h1, rfl, rfl⟩, h2⟩
theorem steps_plain : ∀ {l : List CStep}, (∀ s ∈ l, isEC s.op = false) → ∀ {fr : Fr} {σ : CW} {K : Fr → CW → Prop}, StepsW C l fr σ K → ∃ fr' σ', StepsR (fun _ _ _ _ _ => False) l fr σ fr' σ' ∧ K fr' σ'
  | [], _, fr, σ, K, h => ⟨fr, σ, .nil _ _, h⟩
  | s :: l, hs, fr, σ, K, h => by
    obtain ⟨fr1, σ1, h1, h2⟩ := step_plain (hs s (by simp)) h
    obtain ⟨fr2, σ2, h3, h4⟩ := steps_plain (fun s' h' => hs s' (by simp [h'])) h2
    exact ⟨fr2, σ2, .cons h1 h3, h4⟩

theorem draw_any (hP : ProgOk P) (hC : SimC P C) (hG : GOk P β0) (hr0 : Rel P β0 σ0 w0) (hlo : lo ≤ w0.heap.size) (hds : Marks lo β0 w0 ds) (hI : ItemsOk P n ops l) : ∀ (fuel : Nat) (U : List Nat) (listed : Array Bool) (todo : List (Item × List Item)) (done : List Item) (pos : Nat → Nat) {β : Ren} {fr : Fr} {σ : CW} {Kc : Fr → CW → Prop} {a : Act} {w : World},
    U.Nodup → listed.size = ops.size → (∀ i, i ∈ U ↔ i < ops.size ∧ listed.getD i false = false) → U.length = fuel → (done ++ ordOf todo).Pairwise OkP → (∀ x ∈ done ++ ordOf todo, OkO x) → (∀ p ∈ todo, p.1 ∈ l ∧ p.1.eff = true ∧ ∀ x ∈ p.2, x ∈ l ∧ x.eff = false) →
    (∀ x ∈ l, x ∈ done ++ ordOf todo) → StagesW C (stagesOf done todo) fr σ Kc → Inv P n ds l β0 σ0 w0 done (fun j => listed.getD j false = true) pos β fr σ a w →
    Ends' P n lo β0 σ0 w0 Kc (Q .normal) → wpAnyIn (WR r) 0 P .any ops Q fuel listed a w := by
  -- where none can be made all are
  have fin : ∀ (listed : Array Bool) (todo : List (Item × List Item)) (done : List Item) (pos : Nat → Nat) {β : Ren} {fr : Fr} {σ : CW} {Kc : Fr → CW → Prop} {a : Act} {w : World}, listed.size = ops.size → (done ++ ordOf todo).Pairwise OkP →
      (∀ p ∈ todo, p.1 ∈ l ∧ p.1.eff = true ∧ ∀ x ∈ p.2, x ∈ l ∧ x.eff = false) → StagesW C (stagesOf done todo) fr σ Kc → Inv P n ds l β0 σ0 w0 done (fun j => listed.getD j false = true) pos β fr σ a w →
      Ends' P n lo β0 σ0 w0 Kc (Q .normal) → Region.ready .any ops listed = [] → Q .normal a w := by
    intro listed todo done pos β fr σ Kc a w hs hp ht hr h hK hnil
    have hall : ∀ i, i < ops.size → listed.getD i false = true := by
      intro i
      induction i using Nat.strongRecOn with
      | _ i ih =>
        intro hi
        cases e : listed.getD i false with
        | true => rfl
        | false =>
          exfalso
          obtain ⟨x, hx, rfl⟩ := hI.all i hi
          have hit := hI.ok x hx
          have : x.i ∈ Region.ready .any ops listed := (ready_iff hs).2 ⟨x.o, hit.op, e, fun e he hb => by
            have := hit.lt e he hb
            exact ih e.on this (by omega)⟩
          rw [hnil] at this; cases this
    have hD : ∀ x ∈ l, listed.getD x.i false = true := by
      intro x hx
      refine hall x.i ?_
      have := (hI.ok x hx).op
      rw [Array.getElem?_eq_some_iff] at this; exact this.1
    cases todo with
    | cons p todo =>
      exfalso
      obtain ⟨e, seg⟩ := p
      have he := (ht (e, seg) (by simp)).1
      have hdone := h.sub e he (hD e he)
      exact ((List.pairwise_append.1 hp).2.2 e hdone e (by simp [ordOf])).ne rfl
    | nil =>
      refine hK _ _ β a w hr h.stp ⟨Nat.le_trans hlo h.stp.size, h.size, by rw [h.defers]; exact hds.step h.stp, fun t => ?_⟩
      rcases h.rel t with h1 | ⟨x, h1, h2, _⟩
      · exact h1
      · exact absurd (hD x (h.mem x h1)) h2
  intro fuel
  induction fuel with
  | zero =>
    intro U listed todo done pos β fr σ Kc a w hU hs hUi hl hp ho ht hc hr h hK
    have hnil : Region.ready .any ops listed = [] := by
      apply List.eq_nil_iff_forall_not_mem.2
      intro i hi
      obtain ⟨o, h1, h2, _⟩ := (ready_iff hs).1 hi
      have : i ∈ U := (hUi i).2 ⟨by rw [Array.getElem?_eq_some_iff] at h1; exact h1.1, h2⟩
      rw [List.length_eq_zero_iff.1 hl] at this; cases this
    exact ⟨hnil, fin listed todo done pos hs hp ht hr h hK hnil⟩
  | succ fuel ih =>
    intro U listed todo done pos β fr σ Kc a w hU hs hUi hl hp ho ht hc hr h hK
    refine ⟨fin listed todo done pos hs hp ht hr h hK, fun i hi => ?_⟩
    obtain ⟨o, h1, h2, h3⟩ := (ready_iff hs).1 hi
    have hisz : i < ops.size := by rw [Array.getElem?_eq_some_iff] at h1; exact h1.1
    obtain ⟨x, hx, rfl⟩ := hI.all i hisz
    have hit := hI.ok x hx
    rw [hit.op] at h1; cases h1
    have hanc : ∀ j, bit x.anc j = true → listed.getD j false = true := by
      intro j hj
      obtain ⟨e, g1, g2, g3⟩ := hit.anc j hj
      have := h3 e g1 g2
      rcases g3 with rfl | ⟨y, g3, g4, g5⟩
      · exact this
      · exact h.down y g3 (by rw [g4]; exact this) j g5
    have hd : ¬ listed.getD x.i false = true := by rw [h2]; simp
    -- what the next rounds ask
    have hU' : (U.erase x.i).Nodup := hU.erase _
    have hs' : (listed.setIfInBounds x.i true).size = ops.size := by simp [hs]
    have hD' : (fun j => (listed.setIfInBounds x.i true).getD j false = true) = fun j => listed.getD j false = true ∨ j = x.i := by
      funext j; exact propext (getD_set (by omega))
    have hUi' : ∀ i, i ∈ U.erase x.i ↔ i < ops.size ∧ (listed.setIfInBounds x.i true).getD i false = false := by
      intro i
      rw [hU.mem_erase_iff, hUi]
      have := congrFun hD' i
      simp only [eq_iff_iff] at this
      rw [← Bool.not_eq_true, ← Bool.not_eq_true (Array.getD _ _ _), this]
      constructor
      · rintro ⟨g1, g2, g3⟩; exact ⟨g2, fun g => g.elim g3 g1⟩
      · rintro ⟨g1, g2⟩; exact ⟨fun g => g2 (.inr g), g1, fun g => g2 (.inl g)⟩
    have hl' : (U.erase x.i).length = fuel := by
      rw [List.length_erase_of_mem ((hUi x.i).2 ⟨hisz, h2⟩), hl]; rfl
    have hpd := (List.pairwise_append.1 hp).1
    by_cases hxd : x ∈ done
    · refine h.pendStep hP hC hG hr0 hI hpd hxd (ho x (by simp [hxd])) hd hanc fun β' a' w' h' => ?_
      rw [← hD'] at h'
      exact ih _ _ todo done pos hU' hs' hUi' hl' hp ho ht hc hr h' hK
    · -- it is the next effect
      have hxo : x ∈ ordOf todo := by
        rcases List.mem_append.1 (hc x hx) with g | g
        · exact absurd g hxd
        · exact g
      cases todo with
      | nil => simp [ordOf] at hxo
      | cons p todo =>
        obtain ⟨e, seg⟩ := p
        obtain ⟨t1, t2, t3⟩ := ht (e, seg) (by simp)
        have hxe : x = e := by
          simp only [ordOf, List.mem_cons] at hxo
          rcases hxo with g | g
          · exact g
          · exfalso
            have hpo := (List.pairwise_append.1 hp).2.1
            simp only [ordOf] at hpo
            have := ((List.pairwise_cons.1 hpo).1 x g).eff t2
            have := h.sub e t1 (hanc _ this)
            exact ((List.pairwise_append.1 hp).2.2 e this e (by simp [ordOf])).ne rfl
        subst hxe
        refine h.effStep hP hC hG hr0 hI hpd (fun y hy => ho y (by simp [hy])) hx (fun y hy => (List.pairwise_append.1 hp).2.2 y hy x (by simp [ordOf])) t2 hanc hr (fun fr' σ' hk => hk.1) fun fr1 σ1 β' a' w' hk h' => ?_
        obtain ⟨r2, r3⟩ := hk
        rw [← hD'] at h'
        have e1 : done ++ ordOf ((x, seg) :: todo) = (done ++ [x]) ++ (seg ++ ordOf todo) := by simp [ordOf]
        have e2 : done ++ ordOf ((x, seg) :: todo) = (done ++ [x] ++ seg) ++ ordOf todo := by simp [ordOf]
        have hp1 : ((done ++ [x]) ++ seg).Pairwise OkP := by rw [e2] at hp; exact (List.pairwise_append.1 hp).1
        obtain ⟨fr2, σ2, r3, r4⟩ := steps_plain (fun s hs => by
          obtain ⟨y, hy, rfl⟩ := List.mem_map.1 hs
          exact (hI.ok y (t3 y hy).1).eff (t3 y hy).2) r3
        obtain ⟨pos', h''⟩ := h'.aheads hI (xs := seg) (fun y hy => ⟨(t3 y hy).1, (t3 y hy).2, ho y (by rw [e1]; simp [hy])⟩) hp1 r3
        refine ih _ _ todo (done ++ [x] ++ seg) pos' hU' hs' hUi' hl' (e2 ▸ hp) (e2 ▸ ho) (fun p hp => ht p (by simp [hp])) (e2 ▸ hc) ?_ h'' hK
        have e3 : done ++ [x] ++ seg = done ++ x :: seg := by simp
        rw [e3]; exact r4

theorem pairs_mem {effs : List Nat} {p : Item × List Item} : ∀ {es : List Item} {k : Nat}, p ∈ pairsOf l effs es k → p.1 ∈ es ∧ ∃ m, p.2 = segOf l effs m
  | [], k, h => by simp [pairsOf] at h
  | e :: es, k, h => by
    simp only [pairsOf, List.mem_cons] at h
    rcases h with rfl | h
    · exact ⟨by simp, _, rfl⟩
    · obtain ⟨h1, h2⟩ := pairs_mem h
      exact ⟨by simp [h1], h2⟩

theorem seg_mem {effs : List Nat} {m : Nat} {x : Item} (h : x ∈ segOf l effs m) : x ∈ l ∧ x.eff = false := by
  simp only [segOf, List.mem_filter, Bool.and_eq_true, Bool.not_eq_true'] at h
  exact ⟨h.1, h.2.1⟩

theorem draw_ok (hP : ProgOk P) (hC : SimC P C) : DrawOk P C n := by
  intro r ops p hpl id Q fr σ Kc hr lo β w a hG h hf hK
  unfold planOf at hpl
  split at hpl
  · rename_i anc ss h1 h2
    have hI := items_ok h1 h2
    simp only at hpl
    split at hpl
    · rename_i hcond
      cases hpl
      simp only [Bool.and_eq_true] at hcond
      obtain ⟨hord, hall⟩ := hcond
      generalize hle : itemsOf ops.toList ss anc 0 = l at *
      generalize hes : l.filter (·.eff) = es at *
      generalize hef : es.map (·.i) = effs at *
      obtain ⟨o1, o2⟩ := okOrd_ok hord
      refine wpIn_region_any hP.mixed ?_
      have hw' : ∀ d, Rel P β σ { w with drawn := d } := fun d => h.heap rfl
      have h0 : Inv P n a.defers l β σ { w with drawn := w.drawn + 1 } [] (fun j => (Array.replicate ops.size false).getD j false = true) (fun _ => 0) β fr σ a { w with drawn := w.drawn + 1 } := by
        have hno : ∀ j, ¬ (Array.replicate ops.size false).getD j false = true := by
          intro j
          rw [Array.getD_eq_getD_getElem?, Array.getElem?_replicate]
          split <;> simp
        exact ⟨.refl (hw' _), hf.size, rfl, by simp, fun x _ hd => absurd hd (hno _), fun x _ hd => absurd hd (hno _), by simp, fun t => .inl (hf.rel t), by simp, by simp⟩
      obtain ⟨fr1, σ1, hr1, hr2⟩ := steps_plain (fun s hs => by
        obtain ⟨y, hy, rfl⟩ := List.mem_map.1 hs
        exact (hI.ok y (seg_mem hy).1).eff (seg_mem hy).2) hr
      obtain ⟨pos', h0'⟩ := h0.aheads hI (xs := segOf l effs 0) (fun x hx => ⟨(seg_mem hx).1, (seg_mem hx).2, o2 x (by simp [hx])⟩) (by simpa using (List.pairwise_append.1 o1).1) hr1
      simp only [List.nil_append] at h0'
      refine draw_any (lo := lo) (w0 := { w with drawn := w.drawn + 1 }) hP hC hG (hw' _) hf.lob hf.defers hI ops.size (List.range ops.size) _ (pairsOf l effs es 0) _ pos' List.nodup_range (by simp) ?_ (by simp) o1 o2 ?_ ?_ hr2 h0' ?_
      · intro i
        rw [List.mem_range, Array.getD_eq_getD_getElem?, Array.getElem?_replicate]
        constructor
        · intro hi; exact ⟨hi, by simp [hi]⟩
        · exact fun hi => hi.1
      · intro q hq
        obtain ⟨g1, m, g2⟩ := pairs_mem hq
        rw [← hes] at g1
        obtain ⟨g3, g4⟩ := List.mem_filter.1 g1
        exact ⟨g3, g4, fun x hx => by rw [g2] at hx; exact seg_mem hx⟩
      · intro x hx
        have := List.all_eq_true.1 hall x hx
        obtain ⟨y, hy, hyx⟩ := List.any_eq_true.1 this
        rw [Nat.beq_eq] at hyx
        have hyl : y ∈ l := by
          rcases List.mem_append.1 hy with g | g
          · exact (seg_mem g).1
          · obtain ⟨q, g1, g2⟩ := ord_mem g
            obtain ⟨g3, m, g4⟩ := pairs_mem g1
            rcases g2 with g2 | g2
            · rw [← hes] at g3; rw [g2]; exact (List.mem_filter.1 g3).1
            · rw [g4] at g2; exact (seg_mem g2).1
        rw [← hI.uni y hyl x hx hyx]; exact hy
      · intro fr2 σ2 β2 a2 w2 hk hst hf2
        refine hK fr2 σ2 β2 a2 w2 hk ?_ hf2
        exact Stp.trans (.same (w' := { w with drawn := w.drawn + 1 }) h rfl rfl rfl rfl) hst h
    · cases hpl
  · cases hpl

/-- Calls of a table of functions: what the canonical machine does, the model does. -/
theorem sim_calls_all (hP : ProgOk P) {T : Nat → Option CFun} (hT : OkT P T) (d : Deep) : SimC P (CallW T d) := sim_calls hP hT (fun d n ih => draw_ok hP ih) d

end
end Go.Cn
