/- What is known of memory, behind effects. -/
import Derived.Test.YtfagmflapdgcmaaDoorCnA4
namespace Go.Cn
set_option linter.unusedVariables false
set_option linter.unusedSimpArgs false

theorem members_none {σ : CW} {c : Nat} (h : σ.cls c = none) {m : Nat × Nat} (hm : m ∈ σ.members c) : ∃ x E cl rel, σ.heap c = some (.cells x E cl rel) ∧ m = (c, x.length) := by
  unfold CW.members at hm
  rw [h] at hm
  simp only at hm
  split at hm
  · rename_i x E cl rel hc
    simp only [List.mem_singleton] at hm
    exact ⟨x, E, cl, rel, hc, hm⟩
  · cases hm
theorem members_some {σ : CW} {c : Nat} {l : List (Nat × Nat)} (h : σ.cls c = some l) : σ.members c = l := by
  unfold CW.members; rw [h]

/-- a list of a class that a live row is of -/
theorem MInv.cases {σ : CW} (hm : MInv σ) (hi : CInv σ) {b : Nat} {c : List Value} {E : TypeId} {cl rel : Nat} (hb : σ.heap b = some (.cells c E cl rel)) {m : Nat × Nat} (h : m ∈ σ.members cl) :
    (∃ c E rel, σ.heap m.1 = some (.cells c E cl rel) ∧ m.2 = rel + c.length) ∨ σ.heap m.1 = some .dead := by
  rcases hm cl m h with h1 | h1 | ⟨h1, h2, c', E', cl', rel', h3, h4⟩
  · exact .inl h1
  · exact .inr h1
  · exfalso
    have := mem_singleton_root h1 (hi.mem _ _ _ _ _ hb).1
    subst this
    rw [hb] at h3; cases h3; exact h4 rfl

theorem MInv.add {σ : CW} (hi : CInv σ) (hm : MInv σ) {o : CObj} (ho : FreshO σ o) : MInv (σ.add o) := by
  intro cl m h
  have hne : ∀ n x, σ.heap n = some x → n ≠ σ.next := fun n x hx e => by subst e; rw [hi.fresh _ (Nat.le_refl _)] at hx; cases hx
  by_cases hc : cl = σ.next
  · subst hc
    have hn : (σ.add o).cls σ.next = none := cls_next hi
    obtain ⟨x, E, cl, rel, h1, h2⟩ := members_none hn h
    rw [add_heap, if_pos rfl] at h1
    cases h1
    obtain ⟨e1, e2⟩ := ho
    left
    refine ⟨x, E, rel, by rw [h2, add_heap, if_pos rfl, e1], by rw [h2, e2]; simp⟩
  · have h0 : m ∈ σ.members cl := by
      unfold CW.members at h ⊢
      have : (σ.add o).cls cl = σ.cls cl := rfl
      rw [this] at h
      rw [add_heap, if_neg hc] at h
      exact h
    rcases hm cl m h0 with ⟨c, E, rel, h1, h2⟩ | h1 | ⟨h1, h2, c', E', cl', rel', h3, h4⟩
    · exact .inl ⟨c, E, rel, by rw [add_heap, if_neg (hne _ _ h1)]; exact h1, h2⟩
    · exact .inr (.inl (by rw [add_heap, if_neg (hne _ _ h1)]; exact h1))
    · exact .inr (.inr ⟨h1, h2, c', E', cl', rel', by rw [add_heap, if_neg hc]; exact h3, h4⟩)

theorem MInv.put {σ : CW} (hi : CInv σ) (hm : MInv σ) {b p : Nat} {c c' : List Value} {E : TypeId} {cl rel : Nat} (hb : σ.heap b = some (.cells c E cl rel)) (hl : c'.length = c.length) : MInv (afterPut σ b p c c' E cl rel) := by
  have keep : ∀ n, n ≠ b → (afterPut σ b p c c' E cl rel).heap n = σ.heap n ∨ (afterPut σ b p c c' E cl rel).heap n = some .dead := by
    intro n hn
    rw [afterPut_heap, if_neg hn]
    rcases kill_or (b := b) (p := p) (l := σ.members cl) (h := σ.heap) n with h | ⟨h, _⟩
    · exact .inl h
    · exact .inr h
  intro c0 m h
  by_cases hc : c0 = cl
  · subst hc
    have hs : (afterPut σ b p c c' E c0 rel).cls c0 = some ((b, rel + c.length) :: keepL b p (σ.members c0)) := by simp [afterPut, CW.touch]
    rw [members_some hs] at h
    rcases List.mem_cons.1 h with rfl | h
    · exact .inl ⟨c', E, rel, by rw [afterPut_heap, if_pos rfl], by rw [hl]⟩
    · unfold keepL at h
      rw [List.mem_filter] at h
      simp only [decide_eq_true_eq] at h
      obtain ⟨h1, h2, h3⟩ := h
      rcases keep m.1 h2 with hk | hk
      · rcases hm.cases hi hb h1 with ⟨x, E', rel', g1, g2⟩ | g1
        · exact .inl ⟨x, E', rel', by rw [hk]; exact g1, g2⟩
        · exact .inr (.inl (by rw [hk]; exact g1))
      · exact .inr (.inl hk)
  · have hcls : (afterPut σ b p c c' E cl rel).cls c0 = σ.cls c0 := by simp [afterPut, CW.touch, upd_ne _ _ hc]
    cases e : σ.cls c0 with
    | some l =>
      have h0 : m ∈ σ.members c0 := by rw [members_some (hcls.trans e)] at h; rw [members_some e]; exact h
      have hmb : m.1 ≠ b := by
        intro e2
        rcases hm c0 m h0 with ⟨x, E', rel', g1, g2⟩ | g1 | ⟨g1, _⟩
        · rw [e2, hb] at g1; cases g1; exact hc rfl
        · rw [e2, hb] at g1; cases g1
        · rw [e] at g1; cases g1
      rcases keep m.1 hmb with hk | hk
      · rcases hm c0 m h0 with ⟨x, E', rel', g1, g2⟩ | g1 | ⟨g1, _⟩
        · exact .inl ⟨x, E', rel', by rw [hk]; exact g1, g2⟩
        · exact .inr (.inl (by rw [hk]; exact g1))
        · rw [e] at g1; cases g1
      · exact .inr (.inl hk)
    | none =>
      obtain ⟨x, E', cl', rel', h1, h2⟩ := members_none (hcls.trans e) h
      by_cases hcb : c0 = b
      · subst hcb
        rw [afterPut_heap, if_pos rfl] at h1
        cases h1
        exact .inr (.inr ⟨hcls.trans e, by rw [h2], c', E, cl, rel, by rw [afterPut_heap, if_pos rfl], fun e => hc e.symm⟩)
      · rw [afterPut_heap, if_neg hcb] at h1
        have h3 := (kill_live h1 (by simp)).1
        have h4 : (afterPut σ b p c c' E cl rel).heap c0 = σ.heap c0 := by rw [afterPut_heap, if_neg hcb, h1, h3]
        have h0 : m ∈ σ.members c0 := by unfold CW.members; rw [e, h3, h2]; simp
        rcases hm c0 m h0 with ⟨y, E2, r2, g1, g2⟩ | g1 | ⟨g1, g2, y, E2, cl2, r2, g3, g4⟩
        · rw [h2] at g1 g2 ⊢
          exact .inl ⟨y, E2, r2, by rw [h4]; exact g1, g2⟩
        · rw [h2] at g1; rw [h3] at g1; cases g1
        · exact .inr (.inr ⟨hcls.trans e, g2, y, E2, cl2, r2, by rw [h4]; exact g3, g4⟩)

theorem MInv.grow {σ : CW} (hi : CInv σ) (hm : MInv σ) {b p : Nat} {c cs : List Value} {E E' : TypeId} {cl rel rel' : Nat} (hb : σ.heap b = some (.cells c E cl rel)) : MInv (grown σ cl p cs E' rel') := by
  have hne : ∀ n x, σ.heap n = some x → n ≠ σ.next := fun n x hx e => by subst e; rw [hi.fresh _ (Nat.le_refl _)] at hx; cases hx
  have hcln : cl ≠ σ.next := by have := (hi.mem _ _ _ _ _ hb).2; omega
  have keep : ∀ n, n ≠ σ.next → (grown σ cl p cs E' rel').heap n = σ.heap n ∨ (grown σ cl p cs E' rel').heap n = some .dead := by
    intro n hn
    rw [grown_heap, if_neg hn]
    rcases kill_or (b := σ.next) (p := p) (l := σ.members cl) (h := σ.heap) n with h | ⟨h, _⟩
    · exact .inl h
    · exact .inr h
  intro c0 m h
  by_cases hc : c0 = cl
  · subst hc
    have hs : (grown σ c0 p cs E' rel').cls c0 = some ((σ.next, rel' + cs.length) :: keepL σ.next p (σ.members c0)) := by simp [CW.grow, CW.touch, CW.add]
    rw [members_some hs] at h
    rcases List.mem_cons.1 h with rfl | h
    · exact .inl ⟨cs, E', rel', by rw [grown_heap, if_pos rfl], rfl⟩
    · unfold keepL at h
      rw [List.mem_filter] at h
      simp only [decide_eq_true_eq] at h
      obtain ⟨h1, h2, h3⟩ := h
      rcases keep m.1 h2 with hk | hk
      · rcases hm.cases hi hb h1 with ⟨x, E', rel', g1, g2⟩ | g1
        · exact .inl ⟨x, E', rel', by rw [hk]; exact g1, g2⟩
        · exact .inr (.inl (by rw [hk]; exact g1))
      · exact .inr (.inl hk)
  · have hcls : (grown σ cl p cs E' rel').cls c0 = σ.cls c0 := by simp [CW.grow, CW.touch, CW.add, upd_ne _ _ hc]
    cases e : σ.cls c0 with
    | some l =>
      have h0 : m ∈ σ.members c0 := by rw [members_some (hcls.trans e)] at h; rw [members_some e]; exact h
      rcases hm c0 m h0 with ⟨x, E2, r2, g1, g2⟩ | g1 | ⟨g1, _⟩
      · rcases keep m.1 (hne _ _ g1) with hk | hk
        · exact .inl ⟨x, E2, r2, by rw [hk]; exact g1, g2⟩
        · exact .inr (.inl hk)
      · rcases keep m.1 (hne _ _ g1) with hk | hk
        · exact .inr (.inl (by rw [hk]; exact g1))
        · exact .inr (.inl hk)
      · rw [e] at g1; cases g1
    | none =>
      obtain ⟨x, E2, cl2, r2, h1, h2⟩ := members_none (hcls.trans e) h
      by_cases hcb : c0 = σ.next
      · subst hcb
        rw [grown_heap, if_pos rfl] at h1
        cases h1
        exact .inr (.inr ⟨hcls.trans e, by rw [h2], cs, E', cl, rel', by rw [grown_heap, if_pos rfl], hcln⟩)
      · rw [grown_heap, if_neg hcb] at h1
        have h3 := (kill_live h1 (by simp)).1
        have h4 : (grown σ cl p cs E' rel').heap c0 = σ.heap c0 := by rw [grown_heap, if_neg hcb, h1, h3]
        have h0 : m ∈ σ.members c0 := by unfold CW.members; rw [e, h3, h2]; simp
        rcases hm c0 m h0 with ⟨y, E3, r3, g1, g2⟩ | g1 | ⟨g1, g2, y, E3, cl3, r3, g3, g4⟩
        · rw [h2] at g1 g2 ⊢
          exact .inl ⟨y, E3, r3, by rw [h4]; exact g1, g2⟩
        · rw [h2] at g1; rw [h3] at g1; cases g1
        · exact .inr (.inr ⟨hcls.trans e, g2, y, E3, cl3, r3, by rw [h4]; exact g3, g4⟩)

theorem set_heap {σ : CW} {b : Nat} {o : CObj} {n : Nat} : (σ.set b o).heap n = if n = b then some o else σ.heap n := rfl

theorem set_members {σ : CW} {b : Nat} {o1 o2 : CObj} (hb : σ.heap b = some o1) (h1 : isCells o1 = false) (h2 : isCells o2 = false) (c : Nat) : (σ.set b o2).members c = σ.members c := by
  unfold CW.members
  have : (σ.set b o2).cls c = σ.cls c := rfl
  rw [this, set_heap]
  cases σ.cls c with
  | some l => rfl
  | none =>
    by_cases e : c = b
    · subst e
      rw [if_pos rfl, hb]
      cases o1 <;> cases o2 <;> first | (cases h2; done) | (cases h1; done) | rfl
    · rw [if_neg e]

theorem CInv.set {σ : CW} (hi : CInv σ) {b : Nat} {o1 o2 : CObj} (hb : σ.heap b = some o1) (h1 : isCells o1 = false) (h2 : isCells o2 = false) : CInv (σ.set b o2) where
  fresh := by
    intro n hn
    have hn' : σ.next ≤ n := hn
    rw [set_heap, if_neg (by have := heap_next hi hb; omega)]; exact hi.fresh n hn'
  mem := by
    intro n c E cl rel hn
    rw [set_heap] at hn
    split at hn
    · cases hn; cases h2
    · rw [set_members hb h1 h2]; exact hi.mem n c E cl rel hn
  cls := hi.cls
  rol := hi.rol

theorem MInv.set {σ : CW} (hm : MInv σ) {b : Nat} {o1 o2 : CObj} (hb : σ.heap b = some o1) (h1 : isRow o1 = false) (h2 : isCells o2 = false) : MInv (σ.set b o2) := by
  have h1' : isCells o1 = false := by cases o1 <;> first | rfl | cases h1
  intro cl m h
  rw [set_members hb h1' h2] at h
  have hne : ∀ n x, σ.heap n = some x → isRow x = true → n ≠ b := fun n x hx hr e => by subst e; rw [hb] at hx; cases hx; rw [h1] at hr; cases hr
  rcases hm cl m h with ⟨c, E, rel, g1, g2⟩ | g1 | ⟨g1, g2, c', E', cl', rel', g3, g4⟩
  · exact .inl ⟨c, E, rel, by rw [set_heap, if_neg (hne _ _ g1 rfl)]; exact g1, g2⟩
  · exact .inr (.inl (by rw [set_heap, if_neg (hne _ _ g1 rfl)]; exact g1))
  · exact .inr (.inr ⟨g1, g2, c', E', cl', rel', by rw [set_heap, if_neg (hne _ _ g3 rfl)]; exact g3, g4⟩)

section
variable {K : Nat → Prop} {F F' : Nat → Nat} {h : AH} {σ σ' : CW}

/-- An object of which nothing was turned. -/
theorem AOk.keep (hx : Ext K F σ F' σ') {b : Nat} {o : AO} (hb : σ'.heap b = σ.heap b) (hF : F' b = F b) (hm : ∀ cs E c E' cl rel, o = .cells cs E → σ.heap b = some (.cells c E' cl rel) → σ'.members cl = σ.members cl ∧ ∀ m ∈ σ.members cl, F' m.1 = F m.1) (h : AOk F σ b o) : AOk F' σ' b o := by
  cases o with
  | cells cs E =>
    obtain ⟨h1, h2, c, cl, rel, h3, h4, e, l, h5, h6⟩ := h
    obtain ⟨g1, g2⟩ := hm _ _ _ _ _ _ rfl h3
    exact ⟨hF.trans h1, by rw [hx.ro]; exact h2, c, cl, rel, hb.trans h3, h4.ext hx, e, l, g1.trans h5, fun m hmm => (g2 m (by rw [h5]; exact List.mem_cons_of_mem _ hmm)).trans (h6 m hmm)⟩
  | stat cs E =>
    obtain ⟨h1, h2, c, cl, rel, h3, h4, h5, h6⟩ := h
    exact ⟨by rw [hx.ro]; exact h1, by rw [hx.inj]; exact h2, c, cl, rel, hb.trans h3, hF.trans h4, h5, h6.ext hx⟩
  | map es =>
    obtain ⟨h1, h2, es', ver, h3, h4⟩ := h
    exact ⟨hF.trans h1, by rw [hx.ro]; exact h2, es', ver, hb.trans h3, h4.ext hx⟩
  | iter todo cur =>
    obtain ⟨h1, h2, h3⟩ := h
    refine ⟨hF.trans h1, by rw [hx.ro]; exact h2, ?_⟩
    rcases h3 with ⟨ver, seen, g1, g2⟩ | ⟨m, ver, seen, es', g1, g2, g3, g4, g5, g6⟩
    · exact .inl ⟨ver, seen, hb.trans g1, g2⟩
    · refine .inr ⟨m, ver, seen, es', hb.trans g1, hx.map _ _ _ g3 g2, Nat.lt_of_lt_of_le g3 (hx.up _), g4, g5.ext hx, fun k x hc => ?_⟩
      obtain ⟨k', l, x', q1, q2, q3, q4⟩ := g6 k x hc
      exact ⟨k', l, x', q1, q2, q3, q4.ext hx⟩
  | loop st fr frC ps as body pend =>
    obtain ⟨h1, h2, h3, h4⟩ := h
    exact ⟨hF.trans h1, by rw [hx.ro]; exact h2, hb.trans h3, fun t => (h4 t).ext hx⟩

theorem TokOk.keep (hx : Ext K F σ F' σ') {c : Nat} {k : Tok} (hb : σ'.heap k.cur = σ.heap k.cur) (hF : F' k.cur = F k.cur)
    (ho : ∀ b cc E rel, b ≠ k.cur → 0 < F' b → σ'.heap b = some (.cells cc E c rel) → ∃ cc' E', 0 < F b ∧ σ.heap b = some (.cells cc' E' c rel) ∧ cc'.length = cc.length) (h : TokOk F σ c k) : TokOk F' σ' c k where
  ro := by rw [hx.ro]; exact h.ro
  row := let ⟨cc, h1, h2⟩ := h.row; ⟨cc, hb.trans h1, h2⟩
  fro := by rw [hF]; exact h.fro
  le := h.le
  others := by
    intro b cc E rel hne hp hc
    obtain ⟨cc', E', g1, g2, g3⟩ := ho b cc E rel hne hp hc
    rw [← g3]; exact h.others b cc' E' rel hne g1 g2

/-- A new object. -/
theorem Ext.add (hA : AR F h σ) {o : CObj} (n : Nat) (hK : ∀ b, K b → b < σ.next) : Ext K F σ (upd F σ.next n) (σ.add o) where
  ro := rfl
  inj := rfl
  next := Nat.le_succ _
  up := by
    intro b
    by_cases e : b = σ.next
    · subst e; rw [hA.fnext]; exact Nat.zero_le _
    · rw [upd_ne _ _ e]; exact Nat.le_refl _
  row := fun b c E cl rel hb hc => ⟨c, by rw [add_heap, if_neg (Nat.ne_of_lt (hA.flt hb))]; exact hc, rfl, fun _ _ => rfl⟩
  map := fun b es v hb hc => by rw [add_heap, if_neg (Nat.ne_of_lt (hA.flt hb))]; exact hc
  keep := fun b hb => by rw [add_heap, if_neg (Nat.ne_of_lt (hK b hb))]

theorem AR.add (hA : AR F h σ) {o : CObj} {n : Nat} (ho : FreshO σ o) (hn : 0 < n → (∃ c E cl rel, o = .cells c E cl rel ∧ n ≤ c.length) ∨ ∃ es v, o = .map es v) : AR (upd F σ.next n) h (σ.add o) := by
  have hx : Ext (fun _ => False) F σ (upd F σ.next n) (σ.add o) := Ext.add hA n (fun _ h => h.elim)
  refine ⟨hA.inv.add ho, hA.mem.add hA.inv ho, fun b hb => ?_, fun b ob hb => ?_, fun c k hc => ?_, hA.sep, fun b cs E hb c E' cl rel hc => ?_⟩
  · by_cases e : b = σ.next
    · subst e
      rw [upd_same] at hb ⊢
      exact ⟨o, by rw [add_heap, if_pos rfl], hn hb⟩
    · rw [upd_ne _ _ e] at hb ⊢
      obtain ⟨x, h1, h2⟩ := hA.fro b hb
      exact ⟨x, by rw [add_heap, if_neg e]; exact h1, h2⟩
  · have hlt := hA.lt hb
    refine (hA.obj b ob hb).keep hx (by rw [add_heap, if_neg (Nat.ne_of_lt hlt)]) (upd_ne _ _ (Nat.ne_of_lt hlt)) fun cs E c E' cl rel _ hc => ?_
    have hcl := (hA.inv.mem _ _ _ _ _ hc).2
    refine ⟨members_add hcl, fun m hm => upd_ne _ _ ?_⟩
    intro e
    rcases hA.mem.cases hA.inv hc hm with ⟨x, _, _, g, _⟩ | g <;> (rw [e, hA.inv.fresh _ (Nat.le_refl _)] at g; cases g)
  · have ht := hA.tlt hc
    refine (hA.tok c k hc).keep hx (by rw [add_heap, if_neg (Nat.ne_of_lt ht.2)]) (upd_ne _ _ (Nat.ne_of_lt ht.2)) fun b cc E rel hne hp hcc => ?_
    by_cases e : b = σ.next
    · subst e
      rw [add_heap, if_pos rfl] at hcc
      cases hcc
      have := ho.1
      have := ht.1
      omega
    · rw [upd_ne _ _ e] at hp
      rw [add_heap, if_neg e] at hcc
      exact ⟨cc, E, hp, hcc, rfl⟩
  · have hlt := hA.lt hb
    rw [add_heap, if_neg (Nat.ne_of_lt hlt)] at hc
    exact hA.own b cs E hb c E' cl rel hc

theorem AR.learn (hA : AR F h σ) {b : Nat} {o : AO} (ho : AOk F σ b o) (hb : h.objs b = none) (ht : h.toks b = none) (hto : ∀ c E' cl rel, σ.heap b = some (.cells c E' cl rel) → h.toks cl = none) : AR F (h.set b o) σ := by
  refine ⟨hA.inv, hA.mem, hA.fro, fun n x hn => ?_, hA.tok, fun n x hn => ?_, fun n cs E hn c E' cl rel hc => ?_⟩
  · rw [AH.set_objs] at hn
    split at hn
    · rename_i e; subst e; cases hn; exact ho
    · exact hA.obj n x hn
  · rw [AH.set_objs] at hn
    split at hn
    · rename_i e; subst e; exact ht
    · exact hA.sep n x hn
  · rw [AH.set_objs] at hn
    split at hn
    · rename_i e; subst e; exact hto c E' cl rel hc
    · exact hA.own n cs E hn c E' cl rel hc
/-- .. that is new -/
theorem AR.learn' {o : CObj} (hA : AR F h (σ.add o)) (hi : CInv σ) (hf : FreshO σ o) {a : AO} (ho : AOk F (σ.add o) σ.next a) (hb : h.objs σ.next = none) (ht : h.toks σ.next = none) : AR F (h.set σ.next a) (σ.add o) :=
  hA.learn ho hb ht fun c E' cl rel hc => by
    rw [add_heap, if_pos rfl] at hc
    cases hc
    rw [hf.1]; exact ht

theorem AR.learnT (hA : AR F h σ) {c : Nat} {k : Tok} (hk : TokOk F σ c k) (hb : h.objs c = none) (hno : ∀ b cs E c0 E' rel, h.objs b = some (.cells cs E) → σ.heap b ≠ some (.cells c0 E' c rel)) : AR F (h.setT c k) σ := by
  refine ⟨hA.inv, hA.mem, hA.fro, hA.obj, fun n x hn => ?_, fun n x hn => ?_, fun n cs E hn c0 E' cl rel hc => ?_⟩
  · rw [AH.setT_toks] at hn
    split at hn
    · rename_i e; subst e; cases hn; exact hk
    · exact hA.tok n x hn
  · rw [AH.setT_toks]
    split
    · rename_i e; subst e; rw [AH.setT_objs, hb] at hn; cases hn
    · exact hA.sep n x hn
  · rw [AH.setT_toks]
    replace hn : h.objs n = some (.cells cs E) := hn
    split
    · rename_i e; subst e; exact absurd hc (hno _ _ _ _ _ _ hn)
    · exact hA.own n cs E hn c0 E' cl rel hc

end
end Go.Cn
