/- All operations but calls of functions: what the canonical machine does, the model does. -/
import Derived.Test.YtfagmflapdgcmaaDoorCnOps10
namespace Go.Cn
set_option linter.unusedVariables false
set_option linter.unusedSimpArgs false

def isCall : COp → Bool
  | .e (.call _ _) => true
  | .e (.callv _ _) => true
  | _ => false

/-- what is asked of a program beside what the compiler looks at -/
structure ProgOk (P : Program) : Prop where
  u8 : ∀ t, P.underlying t = some (.int .u8) → t < P.types.size
  cmp : ∀ f fn, P.funcs[f]? = some fn → fn.body = none → fn.name = "internal/bytealg.abigen_runtime_cmpstring" → CmpOk P f
  mixed : P.follows .mixedOrders = true

theorem placeAll_rel {pl : List (Nat × Nat)} : ∀ {l : List (Nat × Operand)} {ps : List (Nat × Nat × Operand)}, placeAll pl l = some ps → PartsR (fun (x : Nat) => pl[x]?) l ps
  | [], ps, h => by cases h; exact .nil
  | (i, x) :: l, ps, h => by
    unfold placeAll at h
    split at h
    · rename_i o n r h1 h2; cases h; exact .cons h1 (placeAll_rel h2)
    · cases h

theorem partsOf_ok {P : Program} {t : TypeId} {parts : List (Nat × Operand)} {ps : List (Nat × Nat × Operand)} (h : partsOf P t parts = some ps) : BuildOk P t parts ps := by
  unfold partsOf at h
  split at h
  · rename_i fs ht
    split at h
    · rename_i pl hpl; exact .struct ht hpl (placeAll_rel h)
    · cases h
  · rename_i len e ht
    split at h
    · rename_i n hn
      cases h
      refine .array ht hn ?_
      generalize parts = l
      induction l with
      | nil => exact .nil
      | cons p l ih => exact .cons rfl ih
    · cases h
  · cases h

section
variable {P : Program} {β : Ren} {σ : CW} {w : World} {ev' ρ : Operand → Value} {o : Oper} {v : Value} {σ' : CW}

theorem Gives.does (h : Rel P β σ w) (hg : Gives P ρ o w β v) : Does P ρ o β σ w v σ :=
  let ⟨v', h1, h2⟩ := hg
  ⟨_, w, β, h1, .inl ⟨v', rfl, h2⟩, .refl h⟩

theorem str_kind {kt : TypeId} (h : isStrT P kt = true) : ∃ d, P.underlying kt = some d ∧ KeyKind d true := by
  unfold isStrT at h
  split at h
  · rename_i e; exact ⟨_, e, .inl ⟨rfl, rfl⟩⟩
  · cases h
theorem int_kind {kt : TypeId} (h : isIntT P kt = true) : ∃ d, P.underlying kt = some d ∧ KeyKind d false := by
  unfold isIntT at h
  split at h
  · rename_i k e; exact ⟨_, e, .inr ⟨rfl, k, rfl⟩⟩
  · cases h

theorem map_eq_p {x : Option POp} {c : COp} (h : x.map COp.p = some c) : ∃ q, x = some q ∧ c = .p q := by
  cases x with
  | none => cases h
  | some q => cases h; exact ⟨q, rfl, rfl⟩

theorem sim_eq (hP : ProgOk P) (h : Rel P β σ w) {neg : Bool} {t t' : TypeId} {x y : Operand} (ho : o.op = .binOp (if neg then .neq else .eql) t x y t') {q : POp} (hc : compEq P neg t x y = some q)
    (hx : VRel P β (ev' x) (ρ x)) (hy : VRel P β (ev' y) (ρ y)) (hρ : ∀ u, ρ (.const u) = u) (hp : pev q ev' σ = some v) : Gives P ρ o w β v := by
  unfold compEq at hc
  split at hc
  · rename_i ht; cases hc; exact p_beq ho ht hx hy hp
  · rename_i ht; cases hc; exact p_bin ho hx hy hp
  · rename_i ht; cases hc; exact p_bin ho hx hy hp
  · rename_i d _ _ _ ht
    split at hc
    · rename_i c hn; cases hc; exact p_isnil ht (.inl ⟨ho, hn, rfl⟩) hρ hx hp
    · split at hc
      · rename_i c hn; cases hc; exact p_isnil ht (.inr ⟨ho, hn, rfl⟩) hρ hy hp
      · split at hc
        · cases hc; exact p_eqI h ho ht hP.u8 hx hy hp
        · cases hc
  · cases hc

theorem list2 {α : Type} {a : Array α} {x y : α} (h : a.toList = [x, y]) : a = #[x, y] := by apply Array.ext'; simpa using h
theorem list1 {α : Type} {a : Array α} {x : α} (h : a.toList = [x]) : a = #[x] := by apply Array.ext'; simpa using h

theorem sim_call (hP : ProgOk P) (h : Rel P β σ w) {c : Call} (ho : o.op = .call c) {q : COp} (hc : compCall P c = some q) (hop : ∀ x ∈ c.operands, VRel P β (ev' x) (ρ x)) (hρf : ∀ f, ρ (.func f) = .func (.func f) #[] #[])
    {C : CallR} (hp : OpR C q ev' σ v σ') (hnc : isCall q = false) : Does P ρ o β σ w v σ' := by
  have harg : ∀ x ∈ c.args.toList, VRel P β (ev' x) (ρ x) := fun x hx => hop x (by simp [Call.operands]; exact .inr (by simpa using hx))
  unfold compCall at hc
  split at hc
  · rename_i f hcal
    split at hc
    · rename_i fn hfn
      split at hc
      · split at hc
        · cases hc
        · cases hc; cases hnc
      · rename_i hbody
        split at hc
        · rename_i hname
          split at hc
          · rename_i x y hargs
            cases hc
            obtain ⟨h1, rfl⟩ := hp
            rw [hargs] at harg
            have hb : fn.body = none := by cases e : fn.body with
              | none => rfl
              | some b => rw [e] at hbody; exact absurd rfl hbody
            exact (p_cmp ho hcal (list2 hargs) (hρf f) (hP.cmp f fn hfn hb (by simpa using hname)) (harg x (by simp)) (harg y (by simp)) h1).does h
          · cases hc
        · cases hc
    · cases hc
  · cases hc; cases hnc
  · rename_i hcal
    split at hc
    · rename_i t x ht hargs
      rw [hargs] at harg
      split at hc
      · rename_i hu; cases hc; obtain ⟨h1, rfl⟩ := hp; exact (p_lenS (u := t) ho hcal (list1 ht) (list1 hargs) hu (harg x (by simp)) h1).does h
      · rename_i e hu; cases hc; obtain ⟨h1, rfl⟩ := hp; exact (p_lenV (u := t) ho hcal (list1 ht) (list1 hargs) hu (harg x (by simp)) h1).does h
      · rename_i k e hu; cases hc; obtain ⟨h1, rfl⟩ := hp; exact (p_lenM h ho hcal (list1 ht) (list1 hargs) hu (harg x (by simp)) h1).does h
      · cases hc
    · cases hc
  · rename_i hcal
    split at hc
    · rename_i t x ht hargs
      rw [hargs] at harg
      split at hc
      · rename_i e hu; cases hc; obtain ⟨h1, rfl⟩ := hp; exact (p_cap ho hcal (list1 ht) (list1 hargs) hu (harg x (by simp)) h1).does h
      · cases hc
    · cases hc
  · rename_i hcal
    split at hc
    · rename_i t u s x ht hargs
      rw [hargs] at harg
      split at hc
      · rename_i e d hut huu
        split at hc
        · rename_i sz b z hsz hb hz
          split at hc
          · cases hc
          · rename_i hcond
            cases hc
            simp only [Bool.or_eq_true, not_or, Bool.not_eq_true] at hcond
            obtain ⟨⟨⟨h1, h2⟩, h3⟩, h4⟩ := hcond
            have h2' : b ≠ 0 := by intro e; subst e; simp at h2
            have h3' : (cellsOf z).length = sz := by simpa using h3
            have h4' : ∀ k, d ≠ .int k := by rintro k rfl; simp [isIntD] at h4
            exact e_append h ho hcal (list2 ht) (list2 hargs) hut huu h4' hsz hb h2' hz h3' (harg s (by simp)) (harg x (by simp)) hp
        · cases hc
      · cases hc
    · cases hc
  · rename_i hcal
    split at hc
    · rename_i t u d s ht hargs
      rw [hargs] at harg
      split at hc
      · rename_i e hut
        split at hc
        · rename_i sz hsz
          cases hc
          exact e_copy h ho hcal (list2 ht) (list2 hargs) hut hsz (harg d (by simp)) (harg s (by simp)) hp
        · cases hc
      · cases hc
    · cases hc
  · rename_i hcal
    split at hc
    · rename_i t u m k ht hargs
      rw [hargs] at harg
      split at hc
      · rename_i kt e hut
        split at hc
        · rename_i hk
          cases hc
          obtain ⟨d, hd1, hd2⟩ := str_kind hk
          exact e_delete h ho hcal (list2 ht) (list2 hargs) hut hd1 hd2 (harg m (by simp)) (harg k (by simp)) hp
        · split at hc
          · rename_i hk
            cases hc
            obtain ⟨d, hd1, hd2⟩ := int_kind hk
            exact e_delete h ho hcal (list2 ht) (list2 hargs) hut hd1 hd2 (harg m (by simp)) (harg k (by simp)) hp
          · cases hc
      · cases hc
    · cases hc
  · rename_i hcal
    split at hc
    · rename_i t x ht hargs
      rw [hargs] at harg
      split at hc
      · rename_i e hut
        split at hc
        · rename_i z hz
          split at hc
          · cases hc
          · rename_i h0
            cases hc
            exact e_clearV h ho hcal (list1 ht) (list1 hargs) hut hz (by intro e0; rw [e0] at h0; simp at h0) (harg x (by simp)) hp
        · cases hc
      · cases hc
    · cases hc
  · rename_i hcal
    split at hc
    · rename_i x y hargs
      rw [hargs] at harg
      cases hc
      obtain ⟨h1, rfl⟩ := hp
      exact (p_mm (b := true) ho hcal (list2 hargs) (harg x (by simp)) (harg y (by simp)) h1).does h
    · cases hc
  · rename_i hcal
    split at hc
    · rename_i x y hargs
      rw [hargs] at harg
      cases hc
      obtain ⟨h1, rfl⟩ := hp
      exact (p_mm (b := false) ho hcal (list2 hargs) (harg x (by simp)) (harg y (by simp)) h1).does h
    · cases hc
  · cases hc

theorem sim_conv (h : Rel P β σ w) {src dst : TypeId} {x : Operand} (ho : o.op = .convert src dst x) {q : COp} (hc : compConv P src dst x = some q) (hx : VRel P β (ev' x) (ρ x))
    {C : CallR} (hp : OpR C q ev' σ v σ') : Does P ρ o β σ w v σ' := by
  unfold compConv at hc
  split at hc
  · rename_i ks k h1 h2; cases hc; obtain ⟨g1, rfl⟩ := hp; exact (p_i2i ho h1 h2 hx g1).does h
  · rename_i ks h1 h2; cases hc; obtain ⟨g1, rfl⟩ := hp; exact (p_i2s ho h1 h2 hx g1).does h
  · rename_i h1 h2; cases hc; obtain ⟨g1, rfl⟩ := hp; exact (p_s2s ho h1 h2 hx g1).does h
  · rename_i e h1 h2
    split at hc
    · rename_i he hsz; cases hc; obtain ⟨obj, g1, rfl⟩ := hp; exact (m_s2b ho h1 h2 he hsz hx g1).does h (aev_freshO g1) (aev_noIter g1)
    · cases hc
  · rename_i e h1 h2
    split at hc
    · rename_i he; cases hc; obtain ⟨g1, rfl⟩ := hp; exact (p_b2s h ho h1 he h2 hx g1).does h
    · cases hc
  · rename_i e0 e h1 h2
    split at hc
    · rename_i heq
      split at hc
      · rename_i he
        cases hc
        simp only [beq_iff_eq] at heq
        subst heq
        exact e_strish h ho h2 he hx hp
      · cases hc
    · cases hc
  · cases hc

theorem sim_op (hP : ProgOk P) (h : Rel P β σ w) {q : COp} (hc : compOp P o.op = some q) (hop : ∀ x ∈ o.op.operands, VRel P β (ev' x) (ρ x)) (hρ : ∀ u, ρ (.const u) = u) (hρf : ∀ f, ρ (.func f) = .func (.func f) #[] #[])
    {C : CallR} (hp : OpR C q ev' σ v σ') (hnc : isCall q = false) : Does P ρ o β σ w v σ' := by
  cases ho : o.op <;> rw [ho] at hc hop <;> simp only [compOp, Op.operands] at hc hop
  all_goals try (cases hc; done)
  case move x => cases hc; obtain ⟨g, rfl⟩ := hp; exact (p_mov (.inl ho) (hop x (by simp)) g).does h
  case assign x => cases hc; obtain ⟨g, rfl⟩ := hp; exact (p_mov (.inr ho) (hop x (by simp)) g).does h
  case pick c a b => cases hc; obtain ⟨g, rfl⟩ := hp; exact (p_pick ho (hop c (by simp)) (hop a (by simp)) (hop b (by simp)) g).does h
  case alloc t =>
    split at hc
    · rename_i z hz; cases hc; obtain ⟨obj, g, rfl⟩ := hp; exact (m_alloc ho hz g).does h (aev_freshO g) (aev_noIter g)
    · cases hc
  case box t x => cases hc; obtain ⟨obj, g, rfl⟩ := hp; exact (m_box ho (hop x (by simp)) g).does h (aev_freshO g) (aev_noIter g)
  case build t parts =>
    split at hc
    · rename_i z ps hz hps
      cases hc; obtain ⟨g, rfl⟩ := hp
      exact (p_build ho hz (partsOf_ok hps) (fun x hx => hop x.2 (by simp; exact ⟨x.1, by simpa using hx⟩)) g).does h
    · cases hc
  case buildSlice t len parts =>
    split at hc
    · rename_i e ht
      split at hc
      · rename_i n z hn hz
        split at hc
        · rename_i hcond
          cases hc
          simp only [Bool.and_eq_true, Nat.ble_eq, Nat.beq_eq, Bool.not_eq_true'] at hcond
          obtain ⟨⟨h1, h2⟩, h3⟩ := hcond
          obtain ⟨obj, g, rfl⟩ := hp
          exact (m_bsl ho ht hn hz h1 h2 (by intro e0; subst e0; simp at h3) (fun x hx => hop x.2 (by simp; exact ⟨x.1, by simpa using hx⟩)) g).does h (aev_freshO g) (aev_noIter g)
        · cases hc
      · cases hc
    · cases hc
  case load t x =>
    split at hc
    · rename_i n hg hn; cases hc; obtain ⟨g, rfl⟩ := hp; exact (p_ldN h ho hg hn (hop x (by simp)) g).does h
    · rename_i n hg hn; cases hc; obtain ⟨g, rfl⟩ := hp; exact (p_ld1 h ho hg (hop x (by simp)) g).does h
    · cases hc
  case store t a x =>
    split at hc
    · rename_i n hn hg; cases hc; exact e_stN h ho hn (hop a (by simp)) (hop x (by simp)) hp
    · rename_i n hn hg
      split at hc
      · rename_i h1; cases hc; simp only [Nat.beq_eq] at h1; subst h1; exact e_st1 h ho hn (hop a (by simp)) (hop x (by simp)) hp
      · cases hc
    · cases hc
  case nilCheck x => cases hc; obtain ⟨g, rfl⟩ := hp; exact (p_nilck ho (hop x (by simp)) g).does h
  case binOp op t x y t' =>
    split at hc
    · obtain ⟨q', e1, rfl⟩ := map_eq_p hc
      obtain ⟨g, rfl⟩ := hp
      exact (sim_eq (neg := false) hP h ho e1 (hop x (by simp)) (hop y (by simp)) hρ g).does h
    · obtain ⟨q', e1, rfl⟩ := map_eq_p hc
      obtain ⟨g, rfl⟩ := hp
      exact (sim_eq (neg := true) hP h ho e1 (hop x (by simp)) (hop y (by simp)) hρ g).does h
    · cases hc; obtain ⟨g, rfl⟩ := hp; exact (p_bin ho (hop x (by simp)) (hop y (by simp)) g).does h
  case unOp op t x => cases hc; obtain ⟨g, rfl⟩ := hp; exact (p_un ho (hop x (by simp)) g).does h
  case convert src dst x => exact sim_conv h ho hc (hop x (by simp)) hp
  case makeInterface t x =>
    split at hc
    · cases hc
    · rename_i d hd ht; cases hc; obtain ⟨g, rfl⟩ := hp; exact (p_mkif ho ht (fun ms e => hd ms e) (hop x (by simp)) g).does h
    · cases hc
  case makeFunc fn first captured =>
    cases fn <;> simp only at hc <;> try (cases hc; done)
    cases hc; obtain ⟨g, rfl⟩ := hp; exact (p_mkfn ho hop g).does h
  case makeMap t r =>
    cases r <;> simp only at hc <;> try (cases hc; done)
    cases hc; obtain ⟨obj, g, rfl⟩ := hp; exact (m_mkmap ho g).does h (aev_freshO g) (aev_noIter g)
  case makeSlice t l c =>
    split at hc
    · rename_i e ht
      split at hc
      · rename_i b z n hb hz hn
        split at hc
        · rename_i hcond
          cases hc
          simp only [Bool.and_eq_true, Nat.beq_eq, Bool.not_eq_true'] at hcond
          obtain ⟨obj, g, rfl⟩ := hp
          exact (m_mksl ho ht hb hz hn hcond.1 (by intro e0; have := hcond.2; subst e0; simp at this) (hop l (by simp)) (hop c (by simp)) g).does h (aev_freshO g) (aev_noIter g)
        · cases hc
      · cases hc
    · cases hc
  case slice t x lo hi mx =>
    have hlo : ∀ y ∈ lo, VRel P β (ev' y) (ρ y) := fun y hy => hop y (by simp; simp at hy; simp [hy])
    have hhi : ∀ y ∈ hi, VRel P β (ev' y) (ρ y) := fun y hy => hop y (by simp; simp at hy; simp [hy])
    have hmx : ∀ y ∈ mx, VRel P β (ev' y) (ρ y) := fun y hy => hop y (by simp; simp at hy; simp [hy])
    split at hc
    · rename_i ht
      split at hc
      · rename_i hm
        cases hc; obtain ⟨g, rfl⟩ := hp
        have : mx = none := by simpa using hm
        subst this
        exact (p_slS ho ht (hop x (by simp)) hlo hhi g).does h
      · cases hc
    · rename_i e ht
      split at hc
      · rename_i n hn
        split at hc
        · cases hc
        · rename_i hm
          cases hc; obtain ⟨g, rfl⟩ := hp
          refine (p_slV h ho ht hn (hop x (by simp)) hlo hhi hmx ?_ g).does h
          intro hms
          simp only [Bool.and_eq_true, not_and] at hm
          have := hm hms
          cases hi with
          | none => exact absurd rfl this
          | some _ => rfl
      · cases hc
    · cases hc
  case fieldAddr t x f =>
    split at hc
    · rename_i fs ht
      split at hc
      · rename_i fd hf
        split at hc
        · rename_i n hn
          split at hc
          · cases hc
          · rename_i h0
            cases hc; obtain ⟨g, rfl⟩ := hp
            exact (p_fa ho ht hf hn (by intro e0; subst e0; simp at h0) (hop x (by simp)) g).does h
        · cases hc
      · cases hc
    · cases hc
  case field t x f =>
    split at hc
    · rename_i fs ht
      split at hc
      · rename_i fd hf
        split at hc
        · rename_i n b hn hb; cases hc; obtain ⟨g, rfl⟩ := hp; exact (p_fld ho ht hf hn hb (hop x (by simp)) g).does h
        · cases hc
      · cases hc
    · cases hc
  case indexAddr t x i =>
    split at hc
    · rename_i e ht
      split at hc
      · rename_i n hn; cases hc; obtain ⟨g, rfl⟩ := hp; exact (p_ia ho ht hn (hop x (by simp)) (hop i (by simp)) g).does h
      · cases hc
    · cases hc
  case index t x i =>
    split at hc
    · rename_i ht; cases hc; obtain ⟨g, rfl⟩ := hp; exact (p_ixS ho ht (hop x (by simp)) (hop i (by simp)) g).does h
    · cases hc
  case lookup t m k ok =>
    split at hc
    · rename_i kt e ht
      split at hc
      · rename_i z hz
        split at hc
        · rename_i hk
          cases hc; obtain ⟨g, rfl⟩ := hp
          obtain ⟨d, hd1, hd2⟩ := str_kind hk
          exact (p_lookup h ho ht hd1 hd2 hz (hop m (by simp)) (hop k (by simp)) g).does h
        · split at hc
          · rename_i hk
            cases hc; obtain ⟨g, rfl⟩ := hp
            obtain ⟨d, hd1, hd2⟩ := int_kind hk
            exact (p_lookup h ho ht hd1 hd2 hz (hop m (by simp)) (hop k (by simp)) g).does h
          · cases hc
      · cases hc
    · cases hc
  case mapUpdate t m k x =>
    split at hc
    · rename_i kt e ht
      split at hc
      · rename_i hk
        cases hc
        obtain ⟨d, hd1, hd2⟩ := str_kind hk
        exact e_mapupd h (.inl ho) ht hd1 hd2 (hop m (by simp)) (hop k (by simp)) (hop x (by simp)) hp
      · split at hc
        · rename_i hk
          cases hc
          obtain ⟨d, hd1, hd2⟩ := int_kind hk
          exact e_mapupd h (.inl ho) ht hd1 hd2 (hop m (by simp)) (hop k (by simp)) (hop x (by simp)) hp
        · cases hc
    · cases hc
  case insert t m k x =>
    split at hc
    · rename_i kt e ht
      split at hc
      · rename_i hk
        cases hc
        obtain ⟨d, hd1, hd2⟩ := str_kind hk
        exact e_mapupd h (.inr ho) ht hd1 hd2 (hop m (by simp)) (hop k (by simp)) (hop x (by simp)) hp
      · split at hc
        · rename_i hk
          cases hc
          obtain ⟨d, hd1, hd2⟩ := int_kind hk
          exact e_mapupd h (.inr ho) ht hd1 hd2 (hop m (by simp)) (hop k (by simp)) (hop x (by simp)) hp
        · cases hc
    · cases hc
  case typeAssert x xt t ok =>
    split at hc
    · cases hc
    · rename_i d hd ht
      split at hc
      · rename_i z hz; cases hc; obtain ⟨g, rfl⟩ := hp; exact (p_ta ho ht (fun ms e => hd ms e) hz (hop x (by simp)) g).does h
      · cases hc
    · cases hc
  case extract x i => cases hc; obtain ⟨g, rfl⟩ := hp; exact (p_ext ho (hop x (by simp)) g).does h
  case range t x =>
    split at hc
    · rename_i k e ht; cases hc; exact e_range h ho ht (hop x (by simp)) hp
    · cases hc
  case next x s =>
    cases s
    · cases hc; cases hp
    · cases hc
  case entry x => cases hc; obtain ⟨g, rfl⟩ := hp; exact (p_entry h ho (hop x (by simp)) g).does h
  case call c => exact sim_call hP h ho hc hop hρf hp hnc


theorem conv_makes {src dst : TypeId} {x : Operand} (ho : o.op = .convert src dst x) {q : AOp} (hc : compConv P src dst x = some (.a q)) (hx : VRel P β (ev' x) (ρ x)) {b : Nat} {obj : CObj}
    (g : aev q ev' b = some (obj, v)) : Makes P ρ o β w b obj v := by
  unfold compConv at hc
  split at hc <;> try (cases hc; done)
  · rename_i e h1 h2
    split at hc
    · rename_i he hsz; cases hc; exact m_s2b ho h1 h2 he hsz hx g
    · cases hc
  · split at hc <;> cases hc
  · split at hc
    · split at hc <;> cases hc
    · cases hc

theorem call_no_a {c : Call} {q : AOp} (hc : compCall P c = some (.a q)) : False := by
  unfold compCall at hc
  repeat' (first | (cases hc; done) | split at hc)
theorem map_no_a {f : Option POp} {q : AOp} (h : f.map COp.p = some (.a q)) : False := by
  cases f <;> cases h

theorem sim_makes {q : AOp} (hc : compOp P o.op = some (.a q)) (hop : ∀ x ∈ o.op.operands, VRel P β (ev' x) (ρ x)) {b : Nat} {obj : CObj} (g : aev q ev' b = some (obj, v)) : Makes P ρ o β w b obj v := by
  cases ho : o.op <;> rw [ho] at hc hop <;> simp only [compOp, Op.operands] at hc hop
  all_goals try (cases hc; done)
  case alloc t =>
    split at hc
    · rename_i z hz; cases hc; exact m_alloc ho hz g
    · cases hc
  case box t x => cases hc; exact m_box ho (hop x (by simp)) g
  case buildSlice t len parts =>
    split at hc
    · rename_i e ht
      split at hc
      · rename_i n z hn hz
        split at hc
        · rename_i hcond
          cases hc
          simp only [Bool.and_eq_true, Nat.ble_eq, Nat.beq_eq, Bool.not_eq_true'] at hcond
          obtain ⟨⟨h1, h2⟩, h3⟩ := hcond
          exact m_bsl ho ht hn hz h1 h2 (by intro e0; subst e0; simp at h3) (fun x hx => hop x.2 (by simp; exact ⟨x.1, by simpa using hx⟩)) g
        · cases hc
      · cases hc
    · cases hc
  case convert src dst x => exact conv_makes ho hc (hop x (by simp)) g
  case makeMap t r =>
    cases r <;> simp only at hc <;> try (cases hc; done)
    cases hc; exact m_mkmap ho g
  case makeSlice t l c =>
    split at hc
    · rename_i e ht
      split at hc
      · rename_i b z n hb hz hn
        split at hc
        · rename_i hcond
          cases hc
          simp only [Bool.and_eq_true, Nat.beq_eq, Bool.not_eq_true'] at hcond
          exact m_mksl ho ht hb hz hn hcond.1 (by intro e0; have := hcond.2; subst e0; simp at this) (hop l (by simp)) (hop c (by simp)) g
        · cases hc
      · cases hc
    · cases hc
  case binOp op t x y t' =>
    exfalso
    split at hc
    · exact map_no_a hc
    · exact map_no_a hc
    · cases hc
  case call c => exact (call_no_a hc).elim
  case makeFunc fn first captured =>
    exfalso
    cases fn <;> simp only at hc <;> cases hc
  case next x s =>
    exfalso
    cases s <;> simp only at hc <;> cases hc
  all_goals
    exfalso
    repeat' (first | (cases hc; done) | split at hc)

end
end Go.Cn
