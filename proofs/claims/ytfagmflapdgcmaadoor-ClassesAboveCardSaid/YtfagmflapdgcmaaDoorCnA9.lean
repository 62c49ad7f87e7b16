/- Readings that stand behind an effect as well as ahead of it. -/
import Derived.Test.YtfagmflapdgcmaaDoorCnA8
namespace Go.Cn
set_option linter.unusedVariables false
set_option linter.unusedSimpArgs false

/-- what a reading of memory hangs on; none: it is not looked at here -/
def rdOps : POp → Option (List Operand)
  | .ld1 x => some [x]
  | .ldN _ x => some [x]
  | .lookup _ _ _ m k => some [m, k]
  | .lenM x => some [x]
  | .b2s x => some [x]
  | .slV _ _ x lo hi mx => some (x :: (lo.toList ++ hi.toList ++ mx.toList))
  | .entry x => some [x]
  | _ => none

theorem pev_congr {o : POp} {l : List Operand} {ρ ρ' : Operand → Value} {σ : CW} (hl : rdOps o = some l) (h : ∀ x ∈ l, ρ x = ρ' x) : pev o ρ σ = pev o ρ' σ := by
  cases o <;> simp only [rdOps, Option.some.injEq, reduceCtorEq] at hl <;> subst hl
  case lookup str zero ok m k => simp only [pev, h m (by simp), h k (by simp)]
  case slV elem sz x lo hi mx =>
    have e1 : lo.map ρ = lo.map ρ' := by cases lo with | none => rfl | some a => simp [h a (by simp)]
    have e2 : hi.map ρ = hi.map ρ' := by cases hi with | none => rfl | some a => simp [h a (by simp)]
    have e3 : mx.map ρ = mx.map ρ' := by cases mx with | none => rfl | some a => simp [h a (by simp)]
    simp only [pev, h x (by simp), e1, e2, e3]
  all_goals (rename_i x; simp only [pev, h x (by simp)])

/-- the blocks that a reading hangs on -/
def depV (n : Nat) : AV → Option (List Nat)
  | .ptr b _ => some [b]
  | .rptr cs => if n ≤ cs.length then some [] else none
  | _ => none
def depM : AV → Option (List Nat)
  | .nilm => some []
  | .fmap _ => some []
  | .map b => some [b]
  | _ => none
def depS : AV → Option (List Nat)
  | .lst _ [] .nil => some []
  | .lst _ (_ :: _) _ => some []
  | .slice b _ _ _ => some [b]
  | _ => none
def depA (o : POp) (ρ : Operand → AV) : Option (List Nat) :=
  match o with
  | .ld1 x => depV 1 (ρ x)
  | .ldN n x => depV n (ρ x)
  | .lookup _ _ _ m _ => depM (ρ m)
  | .lenM x => depM (ρ x)
  | .b2s x => depS (ρ x)
  | .slV _ _ x _ _ _ => depS (ρ x)
  | _ => none

section
variable {K : Nat → Prop} {F F' : Nat → Nat} {σ σ' : CW}

theorem cells_keep (hx : Ext K F σ F' σ') {x : AV} {v : Value} {n : Nat} {ds : List Nat} (hv : Rp F σ x v) (hd : depV n x = some ds) (hn : 0 < n) (hK : ∀ b ∈ ds, K b) : ∃ b off, v = .pointer (some ⟨b, off, none⟩) ∧ ∀ c E cl rel, σ.heap b = some (.cells c E cl rel) → ∃ c', σ'.heap b = some (.cells c' E cl rel) ∧ c'.length = c.length ∧ ∀ i, i < off + n → c'[i]? = c[i]? := by
  cases hv <;> simp only [depV, reduceCtorEq] at hd
  case ptr b off =>
    cases hd
    exact ⟨b, off, rfl, fun c E cl rel hc => ⟨c, by rw [hx.keep b (hK b (by simp))]; exact hc, rfl, fun _ _ => rfl⟩⟩
  case rptr cs b off c E cl rel hb h0 hF hc hv =>
    split at hd
    · rename_i hle
      refine ⟨b, off, rfl, fun c2 E2 cl2 rel2 hc2 => ?_⟩
      have hpos : 0 < F b := by have := List.length_pos_iff.2 h0; omega
      obtain ⟨c', h1, h2, h3⟩ := hx.row b _ _ _ _ hpos hc2
      exact ⟨c', h1, h2, fun i hi => h3 i (by omega)⟩
    · cases hd

theorem take_congr {c c' : List Value} {i n : Nat} (hl : c'.length = c.length) (h : ∀ j, j < i + n → c'[j]? = c[j]?) : takeAt c' i n = takeAt c i n := by
  unfold takeAt
  rw [hl]
  split
  · congr 1
    apply List.ext_getElem?
    intro j
    simp only [List.getElem?_take, List.getElem?_drop]
    split
    · exact h _ (by omega)
    · rfl
  · rfl

theorem pev_keep (hx : Ext K F σ F' σ') {o : POp} {ρA : Operand → AV} {ρ : Operand → Value} (hρ : ∀ x, Rp F σ (ρA x) (ρ x)) {ds : List Nat} (hd : depA o ρA = some ds) (hK : ∀ b ∈ ds, K b) {v : Value} (hv : pev o ρ σ = some v) : pev o ρ σ' = some v := by
  have hM : ∀ x ds, depM (ρA x) = some ds → (∀ b ∈ ds, K b) → ∀ es, σ.entries (ρ x) = some es → σ'.entries (ρ x) = some es := by
    intro x ds hd hK es he
    have hr := hρ x
    generalize ρA x = a at hr hd
    generalize ρ x = w at hr he
    cases hr <;> simp only [depM, reduceCtorEq] at hd
    case nilm => exact he
    case map b => cases hd; simp only [CW.entries] at he ⊢; rw [hx.keep b (hK b (by simp))]; exact he
    case fmap0 => exact he
    case fmap hb hF _ _ _ => simp only [CW.entries] at he ⊢; rw [hx.map _ _ _ hF hb]; rw [hb] at he; exact he
  have hS : ∀ x ds, depS (ρA x) = some ds → (∀ b ∈ ds, K b) → (∃ n c, ρ x = .slice none n c) ∨ ∃ b off len cap, ρ x = .slice (some ⟨b, off, none⟩) len cap ∧ ∀ c E cl rel, σ.heap b = some (.cells c E cl rel) → ∃ c', σ'.heap b = some (.cells c' E cl rel) ∧ c'.length = c.length ∧ ∀ i, i < off + len → c'[i]? = c[i]? := by
    intro x ds hd hK
    have hr := hρ x
    generalize ρA x = a at hr hd
    generalize ρ x = w at hr
    cases hr <;> simp only [depS, reduceCtorEq] at hd
    case lst0 => exact .inl ⟨_, _, rfl⟩
    case lst E es t b off cap sz c cl rel hb h0 hz hs hF hc hl hB ht hv =>
      refine .inr ⟨b, off, _, _, rfl, fun c2 E2 cl2 rel2 hc2 => ?_⟩
      have hpos : 0 < es.length := List.length_pos_iff.2 h0
      have hmul : es.length * 1 ≤ es.length * sz := Nat.mul_le_mul_left _ hz
      obtain ⟨c', h1, h2, h3⟩ := hx.row b _ _ _ _ (by omega) hc2
      exact ⟨c', h1, h2, fun i hi => h3 i (by omega)⟩
    case slice b off len cap hl =>
      cases hd
      exact .inr ⟨b, off, len, cap, rfl, fun c E cl rel hc => ⟨c, by rw [hx.keep b (hK b (by simp))]; exact hc, rfl, fun _ _ => rfl⟩⟩
  cases o <;> simp only [depA, reduceCtorEq] at hd
  case ld1 x =>
    obtain ⟨b, off, e, hk⟩ := cells_keep hx (hρ x) hd (by omega) hK
    simp only [pev, e, CW.cell, CW.row] at hv ⊢
    split at hv
    · rename_i c hc
      split at hc
      · rename_i c0 E cl rel hc0
        cases hc
        obtain ⟨c', h1, h2, h3⟩ := hk _ _ _ _ hc0
        rw [h1]
        simp only [nth] at hv ⊢
        rw [h3 off (by omega)]; exact hv
      · cases hc
    · cases hv
  case ldN n x =>
    by_cases hn : 0 < n
    · obtain ⟨b, off, e, hk⟩ := cells_keep hx (hρ x) hd hn hK
      simp only [pev, e, CW.cells, CW.row] at hv ⊢
      split at hv <;> try (cases hv; done)
      rename_i l hl
      split at hl <;> try (cases hl; done)
      rename_i c hc
      split at hc <;> try (cases hc; done)
      rename_i c0 E cl rel hc0
      cases hc
      obtain ⟨c', h1, h2, h3⟩ := hk _ _ _ _ hc0
      rw [h1]
      simp only [show takeAt c' off n = some l from (take_congr h2 h3).trans hl]; exact hv
    · obtain ⟨b, off, e, hk⟩ := cells_keep (n := 1) hx (hρ x) (ds := ds) (by
        have : n = 0 := by omega
        subst this
        have hr := hρ x
        generalize ρA x = a at hr hd
        generalize ρ x = w at hr
        cases hr <;> simp only [depV, reduceCtorEq] at hd ⊢
        · rename_i h0 _ _ _
          rw [if_pos (by have := List.length_pos_iff.2 h0; omega)]; simpa using hd
        · exact hd) (by omega) hK
      simp only [pev, e, CW.cells, CW.row] at hv ⊢
      split at hv <;> try (cases hv; done)
      rename_i l hl
      split at hl <;> try (cases hl; done)
      rename_i c hc
      split at hc <;> try (cases hc; done)
      rename_i c0 E cl rel hc0
      cases hc
      obtain ⟨c', h1, h2, h3⟩ := hk _ _ _ _ hc0
      rw [h1]
      simp only [show takeAt c' off n = some l from (take_congr h2 fun j hj => h3 j (by omega)).trans hl]; exact hv
  case lookup str zero ok m k =>
    simp only [pev] at hv ⊢
    split at hv
    · rename_i es he; simp only [hM _ _ hd hK es he]; exact hv
    · cases hv
  case lenM x =>
    simp only [pev] at hv ⊢
    split at hv
    · rename_i es he; simp only [hM _ _ hd hK es he]; exact hv
    · cases hv
  case b2s x =>
    rcases hS _ _ hd hK with ⟨n, c, e⟩ | ⟨b, off, len, cap, e, hk⟩
    · simp only [pev, e] at hv ⊢; exact hv
    · simp only [pev, e, CW.cells, CW.row] at hv ⊢
      split at hv <;> try (cases hv; done)
      rename_i l hl
      split at hl <;> try (cases hl; done)
      rename_i c hc
      split at hc <;> try (cases hc; done)
      rename_i c0 E cl rel hc0
      cases hc
      obtain ⟨c', h1, h2, h3⟩ := hk _ _ _ _ hc0
      rw [h1]
      simp only [show takeAt c' off len = some l from (take_congr h2 h3).trans hl]; exact hv
  case slV elem sz x lo hi mx =>
    rcases hS _ _ hd hK with ⟨n, c, e⟩ | ⟨b, off, len, cap, e, hk⟩
    · simp only [pev, e] at hv ⊢; exact hv
    · simp only [pev, e] at hv ⊢
      split at hv <;> try (cases hv; done)
      rename_i m hm
      split at hv <;> try (cases hv; done)
      rename_i u hu
      split at hv <;> try (cases hv; done)
      rename_i l hl
      split at hv <;> try (cases hv; done)
      rename_i hc
      rw [if_pos]; exact hv
      refine ⟨hc.1, ?_⟩
      have := hc.2
      simp only [CW.elemIs] at this ⊢
      split at this <;> try (cases this; done)
      rename_i c0 E cl rel hc0
      obtain ⟨c', h1, h2, h3⟩ := hk _ _ _ _ hc0
      rw [h1]; exact this

end

-- facts of readings that were made -----------------------------------------------------------------------
/-- a reading -/
def readOf : CStep → Option Again
  | ⟨some t, g, .p o⟩ => some ⟨t, g, o⟩
  | _ => none
/-- the reading that gave 't' -/
def againAt : List CStep → Tmp → Option Again
  | [], _ => none
  | s :: l, t => match readOf s with
    | some a => if a.t = t then some a else againAt l t
    | none => againAt l t

theorem againAt_app {l m : List CStep} {t : Tmp} {a : Again} : againAt l t = some a → againAt (l ++ m) t = some a := by
  induction l with
  | nil => intro h; cases h
  | cons s l ih =>
    intro h
    simp only [List.cons_append]
    unfold againAt at h ⊢
    cases e : readOf s with
    | none => rw [e] at h; exact ih h
    | some b =>
      rw [e] at h
      simp only at h ⊢
      split
      · rename_i e2; rw [if_pos e2] at h; exact h
      · rename_i e2; rw [if_neg e2] at h; exact ih h
theorem againAt_last {prev : List CStep} {s : CStep} {a : Again} (hs : readOf s = some a) : againAt prev a.t = none → againAt (prev ++ [s]) a.t = some a := by
  induction prev with
  | nil => intro _; simp [againAt, hs]
  | cons s' l ih =>
    intro h
    simp only [List.cons_append]
    unfold againAt at h ⊢
    cases e : readOf s' with
    | none => rw [e] at h; exact ih h
    | some b =>
      rw [e] at h
      simp only at h ⊢
      split
      · rename_i e2; rw [if_pos e2] at h; cases h
      · rename_i e2; rw [if_neg e2] at h; exact ih h
theorem readOf_some {s : CStep} {a : Again} (h : readOf s = some a) : s = ⟨some a.t, a.g, .p a.o⟩ := by
  obtain ⟨d, g, op⟩ := s
  cases d with
  | none => cases h
  | some t => cases op <;> cases h; rfl

/-- a step that writes 'd' leaves the reading as it is -/
def indR (a : Again) (d : Option Tmp) : Bool :=
  (match rdOps a.o with
  | some l => l.all (notT d)
  | none => false) && notT d (.tmp a.t) && (match a.g with
  | some (g, _) => notT d (.tmp g)
  | none => true)
def indT (prev : List CStep) (d : Option Tmp) (t : Tmp) : Bool :=
  match againAt prev t with
  | some a => indR a d
  | none => false

theorem wants_put {fr : Fr} {d : Option Tmp} {v : Value} {g : Option (Tmp × Bool)} (h : (match g with
    | some (g, _) => notT d (.tmp g)
    | none => true) = true) : wants (putT fr d v) g = wants fr g := by
  cases g with
  | none => rfl
  | some p =>
    obtain ⟨t, b⟩ := p
    have : putT fr d v t = fr t := ev_putT (x := .tmp t) h
    simp only [wants, this]

theorem again_put {a : Again} {d : Option Tmp} {fr : Fr} {σ σ' : CW} {v : Value} (hi : indR a d = true) (hp : ∀ u, wants fr a.g = true → pev a.o (ev fr) σ = some u → pev a.o (ev fr) σ' = some u) (h : AgainR fr σ a) : AgainR (putT fr d v) σ' a := by
  unfold indR at hi
  simp only [Bool.and_eq_true] at hi
  obtain ⟨⟨h1, h2⟩, h3⟩ := hi
  intro hw
  rw [wants_put h3] at hw
  cases hl : rdOps a.o with
  | none => rw [hl] at h1; cases h1
  | some l =>
    rw [hl] at h1
    have e1 : putT fr d v a.t = fr a.t := ev_putT (x := .tmp a.t) h2
    rw [e1, pev_congr hl (ρ' := ev fr) fun x hx => ev_putT (List.all_eq_true.1 h1 x hx)]
    exact hp _ hw (h hw)

def Facts (prev : List CStep) (av : List Tmp) (fr : Fr) (σ : CW) : Prop := ∀ t ∈ av, ∃ a, againAt prev t = some a ∧ AgainR fr σ a

/-- nothing that the reading hangs on is what it gives -/
def selfR (a : Again) : Bool :=
  (match rdOps a.o with
  | some l => l.all (notT (some a.t))
  | none => false) && (match a.g with
  | some (g, _) => notT (some a.t) (.tmp g)
  | none => true)
/-- what is known behind a step of readings and new objects -/
def runStep (prev : List CStep) (av : List Tmp) (s : CStep) : List Tmp :=
  match readOf s with
  | some a => if (againAt prev a.t).isNone && selfR a then a.t :: av.filter (indT prev s.dst) else av.filter (indT prev s.dst)
  | none => av.filter (indT prev s.dst)
def runSeg : List CStep → List Tmp → List CStep → List Tmp
  | prev, av, [] => av
  | prev, av, s :: l => runSeg (prev ++ [s]) (runStep prev av s) l

def isPA (s : CStep) : Bool := match s.op with
  | .p _ => true
  | .a _ => true
  | _ => false

theorem facts_filter {prev : List CStep} {av : List Tmp} {fr : Fr} {σ σ' : CW} {s : CStep} {v : Value} (hf : Facts prev av fr σ) (hp : ∀ o u, pev o (ev fr) σ = some u → pev o (ev fr) σ' = some u) : Facts (prev ++ [s]) (av.filter (indT prev s.dst)) (putT fr s.dst v) σ' := by
  intro t ht
  obtain ⟨ht1, ht2⟩ := List.mem_filter.1 ht
  obtain ⟨a, h1, h2⟩ := hf t ht1
  refine ⟨a, againAt_app h1, again_put ?_ (fun u _ => hp _ u) h2⟩
  simpa only [indT, h1] using ht2

theorem runStep_eq (prev : List CStep) (av : List Tmp) (s : CStep) : runStep prev av s = av.filter (indT prev s.dst) ∨ ∃ a, readOf s = some a ∧ runStep prev av s = a.t :: av.filter (indT prev s.dst) ∧ againAt prev a.t = none ∧ (∃ l, rdOps a.o = some l ∧ l.all (notT (some a.t)) = true) ∧ (match a.g with
      | some (g, _) => notT (some a.t) (.tmp g)
      | none => true) = true := by
  unfold runStep
  cases e : readOf s with
  | none => exact .inl rfl
  | some a =>
    simp only
    split
    · rename_i hc
      simp only [Bool.and_eq_true, selfR] at hc
      refine .inr ⟨a, rfl, rfl, by simpa using hc.1, ?_, hc.2.2⟩
      have := hc.2.1
      split at this
      · rename_i l hl; exact ⟨l, hl, this⟩
      · cases this
    · exact .inl rfl

theorem step_facts {C : CallQ} {s : CStep} {prev : List CStep} {av : List Tmp} {fr : Fr} {σ : CW} {Q : Fr → CW → Prop} (hs : isPA s = true) (hi : CInv σ) (h : StepW C s fr σ Q) (hf : Facts prev av fr σ) :
    StepW C s fr σ fun fr' σ' => Q fr' σ' ∧ CInv σ' ∧ Facts (prev ++ [s]) (runStep prev av s) fr' σ' := by
  obtain ⟨d, g, op⟩ := s
  rcases h with ⟨h1, h2⟩ | ⟨h1, h2⟩
  · refine .inl ⟨h1, ?_⟩
    cases op with
    | p o =>
      obtain ⟨v, g1, g2⟩ := h2
      refine ⟨v, g1, g2, hi, ?_⟩
      rcases runStep_eq prev av ⟨d, g, .p o⟩ with e | ⟨a, e0, e, e1, ⟨l, e2, e3⟩, e4⟩
      · rw [e]; exact facts_filter hf fun _ _ h => h
      · rw [e]
        intro u hu
        rcases List.mem_cons.1 hu with rfl | hu
        · refine ⟨_, againAt_last e0 e1, fun _ => ?_⟩
          have e5 := readOf_some e0
          obtain ⟨t, ga, oa⟩ := a
          cases e5
          show pev oa (ev (putT fr (some t) v)) σ = some (upd fr t v t)
          rw [upd_same, pev_congr e2 (ρ' := ev fr) fun x hx => ev_putT (List.all_eq_true.1 e3 x hx)]
          exact g1
        · exact facts_filter (s := ⟨d, g, .p o⟩) (v := v) hf (fun _ _ h => h) u hu
    | a o =>
      obtain ⟨obj, v, g1, g2⟩ := h2
      have hi' : CInv (σ.add obj) := hi.add (aev_freshO g1)
      refine ⟨obj, v, g1, g2, hi', ?_⟩
      rcases runStep_eq prev av ⟨d, g, .a o⟩ with e | ⟨a, e0, _⟩
      · rw [e]; exact facts_filter hf fun _ _ h => pev_add hi h
      · cases readOf_some e0
    | e o => cases hs
    | no => cases hs
  · refine .inr ⟨h1, h2, hi, ?_⟩
    rcases runStep_eq prev av ⟨d, g, op⟩ with e | ⟨a, e0, e, e1, ⟨l, e2, e3⟩, e4⟩
    · rw [e]; exact facts_filter hf fun _ _ h => h
    · rw [e]
      intro u hu
      rcases List.mem_cons.1 hu with rfl | hu
      · refine ⟨_, againAt_last e0 e1, fun hw => ?_⟩
        have e5 := readOf_some e0
        obtain ⟨t, ga, oa⟩ := a
        cases e5
        rw [wants_put (d := some t) e4] at hw
        rw [hw] at h1; cases h1
      · exact facts_filter (s := ⟨d, g, op⟩) (v := cundef) hf (fun _ _ h => h) u hu

theorem seg_facts {C : CallQ} (hC : LeC C C) : ∀ {l : List CStep} {prev : List CStep} {av : List Tmp} {fr : Fr} {σ : CW} {Q : Fr → CW → Prop}, l.all isPA = true → CInv σ → StepsW C l fr σ Q → Facts prev av fr σ →
    StepsW C l fr σ fun fr' σ' => Q fr' σ' ∧ Facts (prev ++ l) (runSeg prev av l) fr' σ'
  | [], prev, av, fr, σ, Q, _, hi, h, hf => ⟨h, by simpa [runSeg] using hf⟩
  | s :: l, prev, av, fr, σ, Q, hs, hi, h, hf => by
    rw [List.all_cons, Bool.and_eq_true] at hs
    refine StepW.mono hC (step_facts hs.1 hi h hf) fun fr1 σ1 ⟨h1, h2, h3⟩ => ?_
    refine StepsW.mono hC (seg_facts hC hs.2 h2 h1 h3) fun fr2 σ2 ⟨g1, g2⟩ => ⟨g1, by simpa [runSeg] using g2⟩

end Go.Cn
