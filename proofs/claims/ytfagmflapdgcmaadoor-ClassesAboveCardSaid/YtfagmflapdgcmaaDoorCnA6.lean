/- What is known of memory, behind stores, updates of maps, appends. -/
import Derived.Test.YtfagmflapdgcmaaDoorCnA5
namespace Go.Cn
set_option linter.unusedVariables false
set_option linter.unusedSimpArgs false

section
variable {K : Nat → Prop} {F F' : Nat → Nat} {h : AH} {σ σ' : CW}

theorem RpL.all_one {l : List AV} {l' : List Value} (h : RpL F σ l l') (ho : l.all oneA = true) : l'.all oneCell = true := by
  rw [List.all_eq_true]
  intro y hy
  obtain ⟨i, hi⟩ := List.getElem?_of_mem hy
  have hil : i < l.length := by rw [h.1]; exact (List.getElem?_eq_some_iff.1 hi).1
  exact (h.2 i l[i] y (by simp [hil]) hi).one (List.all_eq_true.1 ho _ (List.getElem_mem hil))

theorem putAt_len {l r vs : List Value} {i : Nat} (h : putAt l i vs = some r) : r.length = l.length := by
  unfold putAt at h
  split at h
  · cases h; simp; omega
  · cases h

theorem put_val {b off : Nat} {vs c c' : List Value} {E : TypeId} {cl rel : Nat} (hb : σ.heap b = some (.cells c E cl rel)) (hro : σ.ro ≤ b) (hone : vs.all oneCell = true) (hp : putAt c off vs = some c') :
    σ.put ⟨b, off, none⟩ vs = some (afterPut σ b (rel + off) c c' E cl rel) := by
  simp only [CW.put, hb, hp]
  rw [if_pos ⟨hro, hone⟩]
  rfl

theorem AOk.dead {b : Nat} {o : AO} (h : AOk F σ b o) : σ.heap b ≠ some .dead := by
  intro e
  cases o with
  | cells cs E => obtain ⟨_, _, c, _, _, g, _⟩ := h; rw [e] at g; cases g
  | stat cs E => obtain ⟨_, _, c, cl, rel, g, _⟩ := h; rw [e] at g; cases g
  | map es => obtain ⟨_, _, es', v, g, _⟩ := h; rw [e] at g; cases g
  | iter todo cur => obtain ⟨_, _, ⟨_, _, g, _⟩ | ⟨_, _, _, _, g, _⟩⟩ := h <;> (rw [e] at g; cases g)
  | loop st fr frC ps as body pend => obtain ⟨_, _, g, _⟩ := h; rw [e] at g; cases g
theorem AOk.row {b : Nat} {o : AO} (h : AOk F σ b o) {c : List Value} {E : TypeId} {cl rel : Nat} (hc : σ.heap b = some (.cells c E cl rel)) : (∃ cs E, o = .cells cs E) ∨ (0 < F b ∧ b < σ.ro) := by
  cases o with
  | cells cs E => exact .inl ⟨_, _, rfl⟩
  | stat cs E => obtain ⟨g1, _, _, _, _, _, g2, g3, _⟩ := h; exact .inr ⟨by omega, g1⟩
  | map es => obtain ⟨_, _, es', v, g, _⟩ := h; rw [hc] at g; cases g
  | iter todo cur => obtain ⟨_, _, ⟨_, _, g, _⟩ | ⟨_, _, _, _, g, _⟩⟩ := h <;> (rw [hc] at g; cases g)
  | loop st fr frC ps as body pend => obtain ⟨_, _, g, _⟩ := h; rw [hc] at g; cases g

/-- an object's row: its class, of which it is the last that was written -/
theorem AR.last (hA : AR F h σ) {b : Nat} {cs : List AV} {E : TypeId} (hb : h.objs b = some (.cells cs E)) {c : List Value} {E' : TypeId} {cl rel : Nat} (hc : σ.heap b = some (.cells c E' cl rel)) :
    F b = 0 ∧ ∃ e l, σ.members cl = (b, e) :: l ∧ ∀ m ∈ l, F m.1 = 0 := by
  obtain ⟨hF, hro, c0, cl0, rel0, h1, h2, h3⟩ := hA.obj b _ hb
  rw [hc] at h1; cases h1
  exact ⟨hF, h3⟩
theorem AR.two (hA : AR F h σ) {b b' : Nat} {cs cs' : List AV} {E E' : TypeId} (hb : h.objs b = some (.cells cs E)) (hb' : h.objs b' = some (.cells cs' E')) {c c' : List Value} {E1 E2 : TypeId} {cl rel rel' : Nat}
    (hc : σ.heap b = some (.cells c E1 cl rel)) (hc' : σ.heap b' = some (.cells c' E2 cl rel')) : b' = b := by
  obtain ⟨_, e, l, h1, _⟩ := hA.last hb hc
  obtain ⟨_, e', l', h2, _⟩ := hA.last hb' hc'
  rw [h1] at h2
  injection h2 with h2 _
  injection h2 with h2 _
  exact h2.symm

/-- what is known lies outside a class that an object is of -/
theorem AR.alone (hA : AR F h σ) {b : Nat} {cs : List AV} {E : TypeId} (hb : h.objs b = some (.cells cs E)) {c : List Value} {E' : TypeId} {cl rel : Nat} (hc : σ.heap b = some (.cells c E' cl rel)) {m : Nat × Nat} (hm : m ∈ σ.members cl) (hn : m.1 ≠ b)
    (hkn : 0 < F m.1 ∨ (∃ o, h.objs m.1 = some o) ∨ ∃ c' k', h.toks c' = some k' ∧ k'.cur = m.1) : False := by
  obtain ⟨_, e, l, h3, h4⟩ := hA.last hb hc
  have hF0 : F m.1 = 0 := by
    have hm' := hm
    rw [h3] at hm'
    rcases List.mem_cons.1 hm' with e | hm'
    · rw [e] at hn; exact absurd rfl hn
    · exact h4 m hm'
  have hcase := hA.mem.cases hA.inv hc hm
  rcases hkn with hkn | ⟨o, ho⟩ | ⟨c', k', hk', hkc⟩
  · omega
  · rcases hcase with ⟨x, E2, rel2, g1, g2⟩ | g1
    · rcases (hA.obj _ _ ho).row g1 with ⟨cs2, E3, rfl⟩ | ⟨g3, _⟩
      · exact hn (hA.two hb ho hc g1)
      · omega
    · exact (hA.obj _ _ ho).dead g1
  · obtain ⟨y, g3, _⟩ := (hA.tok c' k' hk').row
    rw [hkc] at g3
    rcases hcase with ⟨x, E2, rel2, g1, g2⟩ | g1
    · rw [g1] at g3
      injection g3 with g3
      injection g3 with _ _ g3 _
      have := hA.own b cs E hb _ _ _ _ hc
      rw [g3, hk'] at this; cases this
    · rw [g1] at g3; cases g3
theorem AR.aloneK (hA : AR F h σ) {b : Nat} {cs : List AV} {E : TypeId} (hb : h.objs b = some (.cells cs E)) {c : List Value} {E' : TypeId} {cl rel b' p : Nat} (hc : σ.heap b = some (.cells c E' cl rel)) {n : Nat} (hn : n ≠ b)
    (hkn : 0 < F n ∨ (∃ o, h.objs n = some o) ∨ ∃ c' k', h.toks c' = some k' ∧ k'.cur = n) : killL b' p (σ.members cl) σ.heap n = σ.heap n := by
  rcases kill_or (b := b') (p := p) (l := σ.members cl) (h := σ.heap) n with g | ⟨_, _, m, hm, rfl⟩
  · exact g
  · exact (hA.alone hb hc hm hn hkn).elim

theorem members_eq (hi : CInv σ) {n : Nat} {c : List Value} {E : TypeId} {cl rel : Nat} (hc : σ.heap n = some (.cells c E cl rel)) (hcls : σ'.cls cl = σ.cls cl) (hh : σ'.heap n = σ.heap n) : σ'.members cl = σ.members cl := by
  unfold CW.members
  rw [hcls]
  cases e : σ.cls cl with
  | some l => rfl
  | none =>
    have := mem_singleton_root e (hi.mem _ _ _ _ _ hc).1
    subst this
    simp only [hh]

/-- what is named is known -/
def KOk (K : Nat → Prop) (h : AH) : Prop := ∀ b, K b → ∃ o, h.objs b = some o

/-- A store into a block that is known. -/
theorem AR.put (hA : AR F h σ) {b off : Nat} {cs cs' vs : List AV} {E : TypeId} {vs' : List Value} (hb : h.objs b = some (.cells cs E)) (hp : putA cs off vs = some cs') (ho : vs.all oneA = true) (hv : RpL F σ vs vs') (hK : ¬ K b) (hKK : KOk K h) :
    ∃ σ', σ.put ⟨b, off, none⟩ vs' = some σ' ∧ AR F (h.set b (.cells cs' E)) σ' ∧ Ext K F σ F σ' := by
  obtain ⟨hF, hro, c, cl, rel, hc, hl, e0, l0, hm0, hm⟩ := hA.obj b _ hb
  obtain ⟨c', hp', hl'⟩ := putA_rp hp hl hv
  have hlen := putAt_len hp'
  refine ⟨_, put_val hc hro (hv.all_one ho) hp', ?_, ?_⟩
  all_goals
    have hother : ∀ n, n ≠ b → (0 < F n ∨ (∃ o, h.objs n = some o) ∨ ∃ c' k', h.toks c' = some k' ∧ k'.cur = n) → (afterPut σ b (rel + off) c c' E cl rel).heap n = σ.heap n := by
      intro n hn hkn
      rw [afterPut_heap, if_neg hn]
      exact hA.aloneK hb hc hn hkn
    have hx : ∀ K : Nat → Prop, ¬ K b → KOk K h → Ext K F σ F (afterPut σ b (rel + off) c c' E cl rel) := fun K hK hKK => by
      refine ⟨rfl, rfl, Nat.le_refl _, fun _ => Nat.le_refl _, fun n x E' cl rel hn hx => ?_, fun n es v hn hx => ?_, fun n hn => ?_⟩
      · have hnb : n ≠ b := by rintro rfl; omega
        exact ⟨x, (hother n hnb (.inl hn)).trans hx, rfl, fun _ _ => rfl⟩
      · have hnb : n ≠ b := by rintro rfl; omega
        exact (hother n hnb (.inl hn)).trans hx
      · exact hother n (by rintro rfl; exact hK hn) (.inr (.inl (hKK n hn)))
  · have hx0 := hx (fun _ => False) (fun h => h) (fun _ h => h.elim)
    have hcls : ∀ cl', cl' ≠ cl → (afterPut σ b (rel + off) c c' E cl rel).cls cl' = σ.cls cl' := fun cl' hcl => by simp [afterPut, CW.touch, upd_ne _ _ hcl]
    refine ⟨hA.inv.put hc hro hlen, hA.mem.put hA.inv hc hlen, fun n hn => ?_, fun n o hn => ?_, fun cl' k hk => ?_, fun n o hn => ?_, fun n ds E1 hn x E2 cl' rel' hx => ?_⟩
    · obtain ⟨o, h1, h2⟩ := hA.fro n hn
      exact ⟨o, (hother n (by rintro rfl; omega) (.inl hn)).trans h1, h2⟩
    · rw [AH.set_objs] at hn
      split at hn
      · rename_i e; subst e; cases hn
        have hs : (afterPut σ n (rel + off) c c' E cl rel).cls cl = some ((n, rel + c.length) :: keepL n (rel + off) (σ.members cl)) := by simp [afterPut, CW.touch]
        refine ⟨hF, hro, c', cl, rel, by rw [afterPut_heap, if_pos rfl], hl'.ext hx0, _, _, members_some hs, fun m hmm => ?_⟩
        unfold keepL at hmm
        rw [List.mem_filter] at hmm
        simp only [decide_eq_true_eq] at hmm
        obtain ⟨g1, g2, _⟩ := hmm
        rw [hm0] at g1
        rcases List.mem_cons.1 g1 with g1 | g1
        · rw [g1] at g2; exact absurd rfl g2
        · exact hm m g1
      · rename_i e
        refine (hA.obj n o hn).keep hx0 (hother n e (.inr (.inl ⟨o, hn⟩))) rfl fun ds E1 x E2 cl' rel' ho hxx => ?_
        subst ho
        have hcl : cl' ≠ cl := fun ec => e (hA.two hb hn hc (ec ▸ hxx))
        exact ⟨members_eq hA.inv hxx (hcls cl' hcl) (hother n e (.inr (.inl ⟨_, hn⟩))), fun _ _ => rfl⟩
    · replace hk : h.toks cl' = some k := hk
      have hne : k.cur ≠ b := by
        intro e
        obtain ⟨cc, g1, _⟩ := (hA.tok cl' k hk).row
        rw [e, hc] at g1
        injection g1 with g1
        injection g1 with _ _ g1 _
        rw [← g1, hA.own _ _ _ hb _ _ _ _ hc] at hk; cases hk
      refine (hA.tok cl' k hk).keep hx0 (hother _ hne (.inr (.inr ⟨cl', k, hk, rfl⟩))) rfl fun n cc E' rel hn hp hcc => ?_
      have hnb : n ≠ b := by rintro rfl; omega
      rw [hother n hnb (.inl hp)] at hcc
      exact ⟨cc, E', hp, hcc, rfl⟩
    · rw [AH.set_objs] at hn
      split at hn
      · rename_i e; subst e; exact hA.sep _ _ hb
      · exact hA.sep n o hn
    · rw [AH.set_objs] at hn
      split at hn
      · rename_i e; subst e
        rw [afterPut_heap, if_pos rfl] at hx
        cases hx
        exact hA.own _ _ _ hb _ _ _ _ hc
      · rename_i e
        rw [hother n e (.inr (.inl ⟨_, hn⟩))] at hx
        exact hA.own _ _ _ hn _ _ _ _ hx
  · exact hx K hK hKK

/-- An object that is no row turns. -/
theorem AR.setO (hA : AR F h σ) {b : Nat} {o1 o2 : CObj} {a1 a2 : AO} (hb : h.objs b = some a1) (hF : F b = 0) (hc : σ.heap b = some o1) (h1 : isRow o1 = false) (h2 : isCells o2 = false) (hK : ¬ K b)
    (ha : Ext (fun _ => False) F σ F (σ.set b o2) → AOk F (σ.set b o2) b a2) : AR F (h.set b a2) (σ.set b o2) ∧ Ext K F σ F (σ.set b o2) := by
  have h1' : isCells o1 = false := by cases o1 <;> first | rfl | cases h1
  have hx : ∀ K : Nat → Prop, ¬ K b → Ext K F σ F (σ.set b o2) := fun K hK => by
    refine ⟨rfl, rfl, Nat.le_refl _, fun _ => Nat.le_refl _, fun n x E' cl rel hn hx => ?_, fun n es v hn hx => ?_, fun n hn => ?_⟩
    · exact ⟨x, by rw [set_heap, if_neg (by rintro rfl; omega)]; exact hx, rfl, fun _ _ => rfl⟩
    · rw [set_heap, if_neg (by rintro rfl; omega)]; exact hx
    · rw [set_heap, if_neg (by rintro rfl; exact hK hn)]
  have hx0 := hx (fun _ => False) (fun h => h)
  refine ⟨⟨hA.inv.set hc h1' h2, hA.mem.set hc h1 h2, fun n hn => ?_, fun n o hn => ?_, fun cl k hk => ?_, fun n o hn => ?_, fun n ds E1 hn x E2 cl' rel' hx => ?_⟩, hx K hK⟩
  · obtain ⟨o, g1, g2⟩ := hA.fro n hn
    exact ⟨o, by rw [set_heap, if_neg (by rintro rfl; omega)]; exact g1, g2⟩
  · rw [AH.set_objs] at hn
    split at hn
    · rename_i e; subst e; cases hn; exact ha hx0
    · rename_i e
      exact (hA.obj n o hn).keep hx0 (by rw [set_heap, if_neg e]) rfl fun _ _ _ _ _ _ _ _ => ⟨set_members hc h1' h2 _, fun _ _ => rfl⟩
  · have hne : k.cur ≠ b := by
      intro e
      obtain ⟨cc, g1, _⟩ := (hA.tok cl k hk).row
      rw [e, hc] at g1; cases g1; cases h1
    refine (hA.tok cl k hk).keep hx0 (by rw [set_heap, if_neg hne]) rfl fun n cc E' rel hn hp hcc => ?_
    have hnb : n ≠ b := by rintro rfl; omega
    rw [set_heap, if_neg hnb] at hcc
    exact ⟨cc, E', hp, hcc, rfl⟩
  · rw [AH.set_objs] at hn
    split at hn
    · rename_i e; subst e; exact hA.sep _ _ hb
    · exact hA.sep n o hn
  · rw [AH.set_objs] at hn
    rw [set_heap] at hx
    split at hn
    · rename_i e; rw [if_pos e] at hx; cases hx; cases h2
    · rename_i e; rw [if_neg e] at hx; exact hA.own _ _ _ hn _ _ _ _ hx

/-- An object that is no row is no more. -/
theorem AR.kill (hA : AR F h σ) {b : Nat} {o1 : CObj} {a1 : AO} (hb : h.objs b = some a1) (hF : F b = 0) (hc : σ.heap b = some o1) (h1 : isRow o1 = false) (hK : ¬ K b) : AR F (h.del b) (σ.set b .dead) ∧ Ext K F σ F (σ.set b .dead) := by
  have h1' : isCells o1 = false := by cases o1 <;> first | rfl | cases h1
  have hx : ∀ K : Nat → Prop, ¬ K b → Ext K F σ F (σ.set b .dead) := fun K hK => by
    refine ⟨rfl, rfl, Nat.le_refl _, fun _ => Nat.le_refl _, fun n x E' cl rel hn hx => ?_, fun n es v hn hx => ?_, fun n hn => ?_⟩
    · exact ⟨x, by rw [set_heap, if_neg (by rintro rfl; omega)]; exact hx, rfl, fun _ _ => rfl⟩
    · rw [set_heap, if_neg (by rintro rfl; omega)]; exact hx
    · rw [set_heap, if_neg (by rintro rfl; exact hK hn)]
  have hx0 := hx (fun _ => False) (fun h => h)
  refine ⟨⟨hA.inv.set hc h1' rfl, hA.mem.set hc h1 rfl, fun n hn => ?_, fun n o hn => ?_, fun cl k hk => ?_, fun n o hn => ?_, fun n ds E1 hn x E2 cl' rel' hx => ?_⟩, hx K hK⟩
  · obtain ⟨o, g1, g2⟩ := hA.fro n hn
    exact ⟨o, by rw [set_heap, if_neg (by rintro rfl; omega)]; exact g1, g2⟩
  · rw [AH.del_objs] at hn
    split at hn
    · cases hn
    · rename_i e
      exact (hA.obj n o hn).keep hx0 (by rw [set_heap, if_neg e]) rfl fun _ _ _ _ _ _ _ _ => ⟨set_members hc h1' rfl _, fun _ _ => rfl⟩
  · have hne : k.cur ≠ b := by
      intro e
      obtain ⟨cc, g1, _⟩ := (hA.tok cl k hk).row
      rw [e, hc] at g1; cases g1; cases h1
    refine (hA.tok cl k hk).keep hx0 (by rw [set_heap, if_neg hne]) rfl fun n cc E' rel hn hp hcc => ?_
    have hnb : n ≠ b := by rintro rfl; omega
    rw [set_heap, if_neg hnb] at hcc
    exact ⟨cc, E', hp, hcc, rfl⟩
  · rw [AH.del_objs] at hn
    split at hn
    · cases hn
    · exact hA.sep n o hn
  · rw [AH.del_objs] at hn
    rw [set_heap] at hx
    split at hn
    · cases hn
    · rename_i e; rw [if_neg e] at hx; exact hA.own _ _ _ hn _ _ _ _ hx

/-- entries, one put in -/
def mputA (k v : AV) : List (AV × AV) → Option (List (AV × AV))
  | [] => some [(k, v)]
  | (k', v') :: l => match keyEqA k k' with
    | some true => some ((k, v) :: l)
    | some false => match mputA k v l with
      | some r => some ((k', v') :: r)
      | none => none
    | none => none
/-- entries, one taken out -/
def mdelA (k : AV) : List (AV × AV) → Option (List (AV × AV))
  | [] => some []
  | (k', v') :: l => match keyEqA k k' with
    | some true => some l
    | some false => match mdelA k l with
      | some r => some ((k', v') :: r)
      | none => none
    | none => none

theorem isKey_rp {str : Bool} {k : AV} {v : Value} (h : isKeyA str k = true) (hk : Rp F σ k v) : isKey str v = true ∧ keyV k = some v := by
  unfold isKeyA at h
  split at h
  · rw [hk.str_inv]; exact ⟨h, rfl⟩
  · rw [hk.int_inv]; exact ⟨h, rfl⟩
  · cases h

theorem mput_rp {k v : AV} {k' v' : Value} (hk : Rp F σ k k') (hkv : keyV k = some k') (hv : Rp F σ v v') : ∀ {es r : List (AV × AV)} {es' : List (Value × Value)}, mputA k v es = some r → EntR F σ es es' → ∃ r', mput k' v' es' = some r' ∧ EntR F σ r r'
  | [], r, es', h, he => by
    cases h
    rw [he.nil_inv]
    exact ⟨_, rfl, .cons hkv hv .nil⟩
  | (k0, a) :: es, r, es', h, he => by
    obtain ⟨⟨q1, q2⟩, l, rfl, h1, h2, h3⟩ := he.of_cons
    unfold mputA at h
    split at h
    · rename_i e; cases h
      exact ⟨(k', v') :: l, by simp only [mput, keyEq_rp e hk h1], .cons hkv hv h3⟩
    · rename_i e
      split at h
      · rename_i r0 e2
        cases h
        obtain ⟨r', g1, g2⟩ := mput_rp hk hkv hv e2 h3
        exact ⟨(q1, q2) :: r', by simp only [mput, keyEq_rp e hk h1, g1], .cons h1 h2 g2⟩
      · cases h
    · cases h
theorem mdel_rp {k : AV} {k' : Value} (hk : Rp F σ k k') : ∀ {es r : List (AV × AV)} {es' : List (Value × Value)}, mdelA k es = some r → EntR F σ es es' → ∃ r', mdel k' es' = some r' ∧ EntR F σ r r'
  | [], r, es', h, he => by
    cases h
    rw [he.nil_inv]
    exact ⟨_, rfl, .nil⟩
  | (k0, a) :: es, r, es', h, he => by
    obtain ⟨⟨q1, q2⟩, l, rfl, h1, h2, h3⟩ := he.of_cons
    unfold mdelA at h
    split at h
    · rename_i e; cases h
      exact ⟨l, by simp only [mdel, keyEq_rp e hk h1], h3⟩
    · rename_i e
      split at h
      · rename_i r0 e2
        cases h
        obtain ⟨r', g1, g2⟩ := mdel_rp hk e2 h3
        exact ⟨(q1, q2) :: r', by simp only [mdel, keyEq_rp e hk h1, g1], .cons h1 h2 g2⟩
      · cases h
    · cases h

/-- Nothing that is known is lost by a step that writes a class at its end. -/
theorem AR.safe (hA : AR F h σ) {c : Nat} {k : Tok} (hk : h.toks c = some k) {n : Nat} (hn : n ≠ k.cur) (hkn : 0 < F n ∨ (∃ o, h.objs n = some o) ∨ ∃ c' k', h.toks c' = some k' ∧ k'.cur = n) {b : Nat} : killL b k.p (σ.members c) σ.heap n = σ.heap n := by
  have hT := hA.tok c k hk
  obtain ⟨cc, hrow, hcp⟩ := hT.row
  unfold killL
  rw [if_neg]
  rintro ⟨_, m, hm, rfl, hlt⟩
  rcases hA.mem.cases hA.inv hrow hm with ⟨x, E', rel', g1, g2⟩ | g1
  · rcases hkn with hkn | ⟨o, hkn⟩ | ⟨c', k', hkn, hkc⟩
    · have := hT.others _ _ _ _ hn hkn g1; omega
    · rcases (hA.obj _ _ hkn).row g1 with ⟨cs2, E3, rfl⟩ | ⟨g3, _⟩
      · rw [hA.own _ _ _ hkn _ _ _ _ g1] at hk; cases hk
      · have := hT.others _ _ _ _ hn g3 g1; omega
    · obtain ⟨y, g3, _⟩ := (hA.tok c' k' hkn).row
      rw [hkc, g1] at g3; cases g3
      rw [hkn] at hk; cases hk
      exact hn hkc.symm
  · rcases hkn with hkn | ⟨o, hkn⟩ | ⟨c', k', hkn, hkc⟩
    · obtain ⟨o, g2, g3⟩ := hA.fro _ hkn
      rw [g1] at g2; cases g2
      rcases g3 with ⟨_, _, _, _, g3, _⟩ | ⟨_, _, g3⟩ <;> cases g3
    · exact (hA.obj _ _ hkn).dead g1
    · obtain ⟨y, g3, _⟩ := (hA.tok c' k' hkn).row
      rw [hkc, g1] at g3; cases g3

theorem AR.cur_free (hA : AR F h σ) {c : Nat} {k : Tok} (hk : h.toks c = some k) : h.objs k.cur = none := by
  have hT := hA.tok c k hk
  obtain ⟨cc, hrow, hcp⟩ := hT.row
  cases e : h.objs k.cur with
  | none => rfl
  | some o =>
    exfalso
    rcases (hA.obj _ _ e).row hrow with ⟨cs2, E3, rfl⟩ | ⟨_, g1⟩
    · rw [hA.own _ _ _ e _ _ _ _ hrow] at hk; cases hk
    · have := hT.ro; omega

/-- an object's own class is not one that may be appended to -/
theorem AR.obj_class (hA : AR F h σ) {b c : Nat} {k : Tok} {o : AO} (hb : h.objs b = some o) (hk : h.toks c = some k) : b ≠ c := by
  rintro rfl
  rw [hA.sep _ _ hb] at hk; cases hk

/-- Behind an append in place, in a row that is its class' last. -/
theorem AR.appIn (hA : AR F h σ) {c : Nat} {k : Tok} (hk : h.toks c = some k) {vs : List AV} {vs' : List Value} (hv : RpL F σ vs vs') (ho : vs.all oneA = true) (hfit : k.p + vs.length ≤ k.cp) (h0 : vs ≠ []) (hK : KOk K h) :
    ∃ σ', σ.put ⟨k.cur, k.p - k.rel, none⟩ vs' = some σ' ∧ AR (upd F k.cur (k.p + vs.length - k.rel)) (h.setT c { k with p := k.p + vs.length }) σ' ∧ Ext K F σ (upd F k.cur (k.p + vs.length - k.rel)) σ' ∧
      ∃ cc cc', σ.heap k.cur = some (.cells cc k.E c k.rel) ∧ σ'.heap k.cur = some (.cells cc' k.E c k.rel) ∧ cc'.length = cc.length ∧ k.rel + cc.length = k.cp ∧ (∀ i : Nat, i < k.p - k.rel → cc'[i]? = cc[i]?) ∧ ∀ i : Nat, i < vs.length → cc'[k.p - k.rel + i]? = vs'[i]? := by
  have hT := hA.tok c k hk
  obtain ⟨cc, hrow, hcp⟩ := hT.row
  have hfro := hT.fro
  have hle := hT.le
  have hlen : vs.length = vs'.length := hv.1
  have hpos : 0 < vs.length := List.length_pos_iff.2 h0
  obtain ⟨cc', hcc'⟩ : ∃ cc', putAt cc (k.p - k.rel) vs' = some cc' := by unfold putAt; rw [if_pos (by omega)]; exact ⟨_, rfl⟩
  have hl' := putAt_len hcc'
  have hget : ∀ i : Nat, cc'[i]? = if i < k.p - k.rel then cc[i]? else if i < k.p - k.rel + vs.length then vs'[i - (k.p - k.rel)]? else cc[i]? := by
    intro i
    unfold putAt at hcc'
    split at hcc'
    · cases hcc'
      have e1 : (cc.take (k.p - k.rel)).length = k.p - k.rel := by simp; omega
      split
      · rename_i hi
        rw [List.append_assoc, List.getElem?_append_left (by omega), List.getElem?_take, if_pos hi]
      · rename_i hi
        rw [List.append_assoc, List.getElem?_append_right (by omega), e1]
        split
        · rename_i hi2
          rw [List.getElem?_append_left (by omega)]
        · rename_i hi2
          rw [List.getElem?_append_right (by omega), List.getElem?_drop]
          congr 1; omega
    · cases hcc'
  have hp : k.rel + (k.p - k.rel) = k.p := by omega
  have hother : ∀ n, n ≠ k.cur → (0 < F n ∨ (∃ o, h.objs n = some o) ∨ ∃ c' k', h.toks c' = some k' ∧ k'.cur = n) → (afterPut σ k.cur k.p cc cc' k.E c k.rel).heap n = σ.heap n := by
    intro n hn hkn
    rw [afterPut_heap, if_neg hn]
    exact hA.safe hk hn hkn
  have hFu : ∀ n, n ≠ k.cur → upd F k.cur (k.p + vs.length - k.rel) n = F n := fun n hn => upd_ne _ _ hn
  have hx : ∀ K : Nat → Prop, KOk K h → Ext K F σ (upd F k.cur (k.p + vs.length - k.rel)) (afterPut σ k.cur k.p cc cc' k.E c k.rel) := fun K hK => by
    refine ⟨rfl, rfl, Nat.le_refl _, fun n => ?_, fun n x E' cl rel hn hx => ?_, fun n es v hn hx => ?_, fun n hn => ?_⟩
    · by_cases e : n = k.cur
      · subst e; rw [upd_same]; omega
      · rw [hFu n e]; exact Nat.le_refl _
    · by_cases e : n = k.cur
      · subst e
        rw [hrow] at hx; cases hx
        exact ⟨cc', by rw [afterPut_heap, if_pos rfl], hl', fun i hi => by rw [hget, if_pos (by omega)]⟩
      · exact ⟨x, (hother n e (.inl hn)).trans hx, rfl, fun _ _ => rfl⟩
    · have e : n ≠ k.cur := by rintro rfl; rw [hrow] at hx; cases hx
      exact (hother n e (.inl hn)).trans hx
    · obtain ⟨o, ho⟩ := hK n hn
      have e : n ≠ k.cur := by rintro rfl; rw [hA.cur_free hk] at ho; cases ho
      exact hother n e (.inr (.inl ⟨o, ho⟩))
  have hx0 := hx (fun _ => False) (fun _ h => h.elim)
  refine ⟨_, by have := put_val hrow hT.ro (hv.all_one ho) hcc'; rw [hp] at this; exact this, ?_, hx K hK, cc, cc', hrow, by rw [afterPut_heap, if_pos rfl], hl', hcp, fun i hi => by rw [hget, if_pos hi], fun i hi => by
    rw [hget, if_neg (by omega), if_pos (by omega)]; congr 1; omega⟩
  have hcls : ∀ cl, cl ≠ c → (afterPut σ k.cur k.p cc cc' k.E c k.rel).cls cl = σ.cls cl := fun cl hcl => by simp [afterPut, CW.touch, upd_ne _ _ hcl]
  refine ⟨hA.inv.put hrow hT.ro hl', hA.mem.put hA.inv hrow hl', fun n hn => ?_, fun n o hn => ?_, fun cl k' hk' => ?_, fun n o hn => ?_, fun n ds E1 hn x E2 cl' rel' hxx => ?_⟩
  · by_cases e : n = k.cur
    · subst e
      exact ⟨_, by rw [afterPut_heap, if_pos rfl], .inl ⟨cc', _, _, _, rfl, by rw [upd_same]; omega⟩⟩
    · rw [hFu n e] at hn ⊢
      obtain ⟨o, g1, g2⟩ := hA.fro n hn
      exact ⟨o, (hother n e (.inl hn)).trans g1, g2⟩
  · have e : n ≠ k.cur := by rintro rfl; rw [AH.setT_objs, hA.cur_free hk] at hn; cases hn
    refine (hA.obj n o hn).keep hx0 (hother n e (.inr (.inl ⟨o, hn⟩))) (hFu n e) fun ds E1 x E2 cl' rel' ho hxx => ?_
    subst ho
    have hcl : cl' ≠ c := by rintro rfl; rw [hA.own _ _ _ hn _ _ _ _ hxx] at hk; cases hk
    refine ⟨members_eq hA.inv hxx (hcls cl' hcl) (hother n e (.inr (.inl ⟨_, hn⟩))), fun m hm => hFu _ ?_⟩
    intro e2
    rcases hA.mem.cases hA.inv hxx hm with ⟨y, E3, r3, g1, _⟩ | g1
    · rw [e2, hrow] at g1; cases g1; exact hcl rfl
    · rw [e2, hrow] at g1; cases g1
  · rw [AH.setT_toks] at hk'
    split at hk'
    · rename_i ec
      subst ec
      cases hk'
      refine ⟨hT.ro, ⟨cc', by rw [afterPut_heap, if_pos rfl], by show k.rel + cc'.length = k.cp; omega⟩, by show k.rel + upd F k.cur _ k.cur ≤ _; rw [upd_same]; show k.rel + (k.p + vs.length - k.rel) ≤ k.p + vs.length; omega, hfit, fun b y E rel hb hFb hy => ?_⟩
      have hb' : b ≠ k.cur := hb
      rw [hFu b hb'] at hFb
      rw [hother b hb' (.inl hFb)] at hy
      have := hT.others b y E rel hb' hFb hy
      show rel + y.length ≤ k.p + vs.length
      omega
    · rename_i ec
      have hT' := hA.tok cl k' hk'
      have hne : k'.cur ≠ k.cur := by
        intro e
        obtain ⟨y, g, _⟩ := hT'.row
        rw [e, hrow] at g
        injection g with g
        injection g with _ _ g _
        exact ec g.symm
      refine hT'.keep hx0 (hother _ hne (.inr (.inr ⟨cl, k', hk', rfl⟩))) (hFu _ hne) fun b y E rel hb hFb hy => ?_
      have hb' : b ≠ k.cur := by
        rintro rfl
        rw [afterPut_heap, if_pos rfl] at hy; cases hy; exact ec rfl
      rw [hFu b hb'] at hFb
      rw [hother b hb' (.inl hFb)] at hy
      exact ⟨y, E, hFb, hy, rfl⟩
  · rw [AH.setT_toks]
    split
    · rename_i ec; subst ec; exact absurd rfl (hA.obj_class hn hk)
    · exact hA.sep n o hn
  · have e : n ≠ k.cur := by rintro rfl; rw [AH.setT_objs, hA.cur_free hk] at hn; cases hn
    replace hn : h.objs n = some (.cells ds E1) := hn
    rw [hother n e (.inr (.inl ⟨_, hn⟩))] at hxx
    have := hA.own _ _ _ hn _ _ _ _ hxx
    rw [AH.setT_toks]
    split
    · rename_i ec; subst ec; rw [this] at hk; cases hk
    · exact this

/-- Behind an append that copies: the class goes on in a new row. -/
theorem AR.appCopy (hA : AR F h σ) {c : Nat} {k : Tok} (hk : h.toks c = some k) (hend : k.p = k.cp) {cs : List Value} {r0 n : Nat} (hr : r0 + cs.length = k.p + n) (hK : KOk K h) :
    AR (upd F σ.next cs.length) (h.setT c { k with cur := σ.next, rel := r0, p := k.p + n, cp := k.p + n }) (grown σ c k.p cs k.E r0) ∧ Ext K F σ (upd F σ.next cs.length) (grown σ c k.p cs k.E r0) := by
  have hT := hA.tok c k hk
  obtain ⟨cc, hrow, hcp⟩ := hT.row
  have hother : ∀ n, n ≠ σ.next → (0 < F n ∨ (∃ o, h.objs n = some o) ∨ ∃ c' k', h.toks c' = some k' ∧ k'.cur = n) → (grown σ c k.p cs k.E r0).heap n = σ.heap n := by
    intro n hn hkn
    rw [grown_heap, if_neg hn]
    by_cases e : n = k.cur
    · subst e
      unfold killL
      rw [if_neg]
      rintro ⟨_, m, hm, he, hlt⟩
      rcases hA.mem.cases hA.inv hrow hm with ⟨x, E', rel', g1, g2⟩ | g1
      · rw [he, hrow] at g1
        injection g1 with g1
        injection g1 with g3 _ _ g4
        rw [g3] at hcp
        omega
      · rw [he, hrow] at g1; cases g1
    · exact hA.safe hk e hkn
  have hFu : ∀ n, n ≠ σ.next → upd F σ.next cs.length n = F n := fun n hn => upd_ne _ _ hn
  have hx : ∀ K : Nat → Prop, KOk K h → Ext K F σ (upd F σ.next cs.length) (grown σ c k.p cs k.E r0) := fun K hK => by
    refine ⟨rfl, rfl, Nat.le_succ _, fun n => ?_, fun n x E' cl rel hn hx => ?_, fun n es v hn hx => ?_, fun n hn => ?_⟩
    · by_cases e : n = σ.next
      · subst e; rw [hA.fnext]; exact Nat.zero_le _
      · rw [hFu n e]; exact Nat.le_refl _
    · exact ⟨x, (hother n (Nat.ne_of_lt (hA.flt hn)) (.inl hn)).trans hx, rfl, fun _ _ => rfl⟩
    · exact (hother n (Nat.ne_of_lt (hA.flt hn)) (.inl hn)).trans hx
    · obtain ⟨o, ho⟩ := hK n hn
      exact hother n (Nat.ne_of_lt (hA.lt ho)) (.inr (.inl ⟨o, ho⟩))
  have hx0 := hx (fun _ => False) (fun _ h => h.elim)
  refine ⟨?_, hx K hK⟩
  have hcls : ∀ cl, cl ≠ c → (grown σ c k.p cs k.E r0).cls cl = σ.cls cl := fun cl hcl => by simp [CW.grow, CW.touch, CW.add, upd_ne _ _ hcl]
  refine ⟨hA.inv.grow hrow hT.ro, hA.mem.grow hA.inv hrow, fun n hn => ?_, fun n o hn => ?_, fun cl k' hk' => ?_, fun n o hn => ?_, fun n ds E1 hn x E2 cl' rel' hxx => ?_⟩
  · by_cases e : n = σ.next
    · subst e
      exact ⟨_, by rw [grown_heap, if_pos rfl], .inl ⟨cs, _, _, _, rfl, by rw [upd_same]; exact Nat.le_refl _⟩⟩
    · rw [hFu n e] at hn ⊢
      obtain ⟨o, g1, g2⟩ := hA.fro n hn
      exact ⟨o, (hother n e (.inl hn)).trans g1, g2⟩
  · replace hn : h.objs n = some o := hn
    have e := Nat.ne_of_lt (hA.lt hn)
    refine (hA.obj n o hn).keep hx0 (hother n e (.inr (.inl ⟨o, hn⟩))) (hFu n e) fun ds E1 x E2 cl' rel' ho hxx => ?_
    subst ho
    have hcl : cl' ≠ c := by rintro rfl; rw [hA.own _ _ _ hn _ _ _ _ hxx] at hk; cases hk
    refine ⟨members_eq hA.inv hxx (hcls cl' hcl) (hother n e (.inr (.inl ⟨_, hn⟩))), fun m hm => hFu _ ?_⟩
    intro e2
    rcases hA.mem.cases hA.inv hxx hm with ⟨y, E3, r3, g1, _⟩ | g1 <;> (rw [e2, hA.inv.fresh _ (Nat.le_refl _)] at g1; cases g1)
  · rw [AH.setT_toks] at hk'
    split at hk'
    · rename_i ec
      subst ec
      cases hk'
      refine ⟨Nat.le_trans hA.inv.rol (Nat.le_refl _), ⟨cs, by rw [grown_heap, if_pos rfl], hr⟩, by show r0 + upd F σ.next _ σ.next ≤ _; rw [upd_same]; exact Nat.le_of_eq hr, Nat.le_refl _, fun b y E rel hb hFb hy => ?_⟩
      have hb' : b ≠ σ.next := hb
      rw [hFu b hb'] at hFb
      rw [hother b hb' (.inl hFb)] at hy
      show rel + y.length ≤ k.p + n
      by_cases ebc : b = k.cur
      · subst ebc
        rw [hrow] at hy
        injection hy with hy
        injection hy with g3 _ _ g4
        rw [← g3, ← g4]; omega
      · have := hT.others b y E rel ebc hFb hy
        omega
    · rename_i ec
      have hT' := hA.tok cl k' hk'
      have hne : k'.cur ≠ σ.next := Nat.ne_of_lt (hA.tlt hk').2
      refine hT'.keep hx0 (hother _ hne (.inr (.inr ⟨cl, k', hk', rfl⟩))) (hFu _ hne) fun b y E rel hb hFb hy => ?_
      have hb' : b ≠ σ.next := by
        rintro rfl
        rw [grown_heap, if_pos rfl] at hy; cases hy; exact ec rfl
      rw [hFu b hb'] at hFb
      rw [hother b hb' (.inl hFb)] at hy
      exact ⟨y, E, hFb, hy, rfl⟩
  · rw [AH.setT_toks]
    replace hn : h.objs n = some o := hn
    split
    · rename_i ec; subst ec; exact absurd rfl (hA.obj_class hn hk)
    · exact hA.sep n o hn
  · replace hn : h.objs n = some (.cells ds E1) := hn
    rw [hother n (Nat.ne_of_lt (hA.lt hn)) (.inr (.inl ⟨_, hn⟩))] at hxx
    have := hA.own _ _ _ hn _ _ _ _ hxx
    rw [AH.setT_toks]
    split
    · rename_i ec; subst ec; rw [this] at hk; cases hk
    · exact this

/-- A new row that may be appended to, of which the first 'p' cells are never written again. -/
theorem AR.newOwn (hA : AR F h σ) {c : List Value} {E : TypeId} {p sz : Nat} (hp : p ≤ c.length) (hK : KOk K h) :
    AR (upd F σ.next p) (h.setT σ.next ⟨σ.next, 0, p, c.length, sz, E⟩) (σ.add (.cells c E σ.next 0)) ∧ Ext K F σ (upd F σ.next p) (σ.add (.cells c E σ.next 0)) := by
  have h1 : AR (upd F σ.next p) h (σ.add (.cells c E σ.next 0)) := hA.add ⟨rfl, rfl⟩ fun _ => .inl ⟨c, E, _, _, rfl, hp⟩
  refine ⟨h1.learnT ⟨hA.inv.rol, ⟨c, by rw [add_heap, if_pos rfl], Nat.zero_add _⟩, by show 0 + upd F σ.next p σ.next ≤ p; rw [upd_same]; omega, hp, fun b cc E' rel hb hFb hc => ?_⟩ hA.onext (fun b cs E2 c0 E3 rel hb hc => by
    have hlt := hA.lt hb
    rw [add_heap, if_neg (Nat.ne_of_lt hlt)] at hc
    have := (hA.inv.mem _ _ _ _ _ hc).2
    omega), Ext.add hA p fun b hb => let ⟨o, ho⟩ := hK b hb; hA.lt ho⟩
  have hb' : b ≠ σ.next := hb
  rw [add_heap, if_neg hb'] at hc
  have := (hA.inv.mem _ _ _ _ _ hc).2
  omega

/-- A block that is known is never written again. -/
theorem AR.freeze (hA : AR F h σ) {b : Nat} {o : AO} (hb : h.objs b = some o) {n : Nat} (hn : (∃ cs E, o = .cells cs E ∧ n = cs.length ∧ 0 < n) ∨ ∃ es, o = .map es ∧ n = 1) (hK : ¬ K b) :
    AR (upd F b n) (h.del b) σ ∧ Ext K F σ (upd F b n) σ := by
  have hF0 : F b = 0 := by
    have := hA.obj b o hb
    rcases hn with ⟨cs, E, rfl, _⟩ | ⟨es, rfl, _⟩ <;> exact this.1
  have hx : ∀ K : Nat → Prop, Ext K F σ (upd F b n) σ := fun K => by
    refine ⟨rfl, rfl, Nat.le_refl _, fun m => ?_, fun m x E' cl rel _ hx => ⟨x, hx, rfl, fun _ _ => rfl⟩, fun _ _ _ _ hx => hx, fun _ _ => rfl⟩
    by_cases e : m = b
    · subst e; rw [hF0]; exact Nat.zero_le _
    · rw [upd_ne _ _ e]; exact Nat.le_refl _
  have hx0 := hx fun _ => False
  refine ⟨⟨hA.inv, hA.mem, fun m hm => ?_, fun m x hm => ?_, fun c k hk => ?_, fun m x hm => ?_, fun m ds E1 hm x E2 cl' rel' hxx => ?_⟩, hx K⟩
  · by_cases e : m = b
    · subst e
      have hob := hA.obj m o hb
      rw [upd_same]
      rcases hn with ⟨cs, E, rfl, rfl, _⟩ | ⟨es, rfl, rfl⟩
      · obtain ⟨_, _, c, _, _, h1, h2, _⟩ := hob
        exact ⟨_, h1, .inl ⟨c, _, _, _, rfl, by rw [h2.1]; exact Nat.le_refl _⟩⟩
      · obtain ⟨_, _, es', v, h1, _⟩ := hob
        exact ⟨_, h1, .inr ⟨_, _, rfl⟩⟩
    · rw [upd_ne _ _ e] at hm ⊢; exact hA.fro m hm
  · rw [AH.del_objs] at hm
    split at hm
    · cases hm
    · rename_i e
      refine (hA.obj m x hm).keep hx0 rfl (upd_ne _ _ e) fun ds E1 y E2 cl' rel' hox hxx => ⟨rfl, fun m2 hm2 => upd_ne _ _ fun e2 => ?_⟩
      subst hox
      refine hA.alone hm hxx hm2 (fun e3 => e (e3.symm.trans e2)) (.inr (.inl ⟨o, by rw [e2]; exact hb⟩))
  · replace hk : h.toks c = some k := hk
    have hT := hA.tok c k hk
    have hne : k.cur ≠ b := by rintro rfl; rw [hA.cur_free hk] at hb; cases hb
    refine hT.keep hx0 rfl (upd_ne _ _ hne) fun m y E rel hm hFm hy => ?_
    by_cases e : m = b
    · subst e
      exfalso
      have hob := hA.obj m o hb
      rcases hn with ⟨cs, E, rfl, _⟩ | ⟨es, rfl, _⟩
      · rw [hA.own _ _ _ hb _ _ _ _ hy] at hk; cases hk
      · obtain ⟨_, _, es', v, h1, _⟩ := hob
        rw [h1] at hy; cases hy
    · rw [upd_ne _ _ e] at hFm
      exact ⟨y, E, hFm, hy, rfl⟩
  · rw [AH.del_objs] at hm
    split at hm
    · cases hm
    · exact hA.sep m x hm
  · rw [AH.del_objs] at hm
    split at hm
    · cases hm
    · exact hA.own _ _ _ hm _ _ _ _ hxx

end
end Go.Cn
