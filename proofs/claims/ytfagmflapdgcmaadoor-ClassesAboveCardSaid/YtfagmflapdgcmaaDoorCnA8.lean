/- What one operation comes to, on what is known. -/
import Derived.Test.YtfagmflapdgcmaaDoorCnA7
namespace Go.Cn
set_option linter.unusedVariables false
set_option linter.unusedSimpArgs false

/-- the frame behind a step -/
def setA (fr : AFr) : Option Tmp → AV → AFr
  | none, _ => fr
  | some t, v => upd fr t v

theorem setA_rp {F : Nat → Nat} {σ : CW} {fr : AFr} {frC : Fr} {a : AV} {v : Value} (hf : ∀ t, Rp F σ (fr t) (frC t)) (hv : Rp F σ a v) (d : Option Tmp) : ∀ t, Rp F σ (setA fr d a t) (putT frC d v t) := by
  cases d with
  | none => exact hf
  | some d =>
    intro t
    by_cases e : t = d
    · subst e; simp only [setA, putT, upd_same]; exact hv
    · simp only [setA, putT, upd_ne _ _ e]; exact hf t

/-- 'x' reads another temporary than 't' -/
def notT (t : Option Tmp) : Operand → Bool
  | .tmp u => !(t == some u)
  | _ => true

theorem evA_setA {fr : AFr} {d : Option Tmp} {a : AV} {x : Operand} (hx : notT d x = true) : evA (setA fr d a) x = evA fr x := by
  cases x with
  | tmp u =>
    cases d with
    | none => rfl
    | some t =>
      have : u ≠ t := by intro e; subst e; simp [notT] at hx
      show upd fr t a u = fr u
      exact upd_ne _ _ this
  | const v => rfl
  | global g => rfl
  | func f => rfl
theorem ev_putT {fr : Fr} {d : Option Tmp} {a : Value} {x : Operand} (hx : notT d x = true) : ev (putT fr d a) x = ev fr x := by
  cases x with
  | tmp u =>
    cases d with
    | none => rfl
    | some t =>
      have : u ≠ t := by intro e; subst e; simp [notT] at hx
      show upd fr t a u = fr u
      exact upd_ne _ _ this
  | const v => rfl
  | global g => rfl
  | func f => rfl

theorem StepsW.app {C : CallQ} (hC : LeC C C) : ∀ {l m : List CStep} {fr : Fr} {σ : CW} {K : Fr → CW → Prop}, StepsW C l fr σ (fun fr σ => StepsW C m fr σ K) → StepsW C (l ++ m) fr σ K
  | [], m, fr, σ, K, h => h
  | s :: l, m, fr, σ, K, h => StepW.mono hC h fun fr σ h => StepsW.app hC h

section
variable {T : Nat → Option CFun} {K : Nat → Prop} {fr : AFr} {h : AH}

theorem WO.mono {o : COp} {Q Q' : AV → AH → Prop} (hw : WO T K o fr h Q) (hQ : ∀ a h, Q a h → Q' a h) : WO T K o fr h Q' :=
  fun F σ ρ hA hK hρ => OpW.mono CallA.mono (hw F σ ρ hA hK hρ) fun v σ' ⟨F', a, h', h1, h2, h3, h4, h5⟩ => ⟨F', a, h', h1, h2, h3, h4, hQ _ _ h5⟩

theorem WS.nil {Q : AFr → AH → Prop} (hq : Q fr h) : WS T K [] fr h Q := fun F σ frC hA hK hf => ⟨F, fr, h, .refl, hA, hK, hf, hq⟩
theorem WS.app {l m : List CStep} {R Q : AFr → AH → Prop} (h1 : WS T K l fr h R) (h2 : ∀ fr h, R fr h → WS T K m fr h Q) : WS T K (l ++ m) fr h Q :=
  fun F σ frC hA hK hf => StepsW.app CallA.mono (StepsW.mono CallA.mono (h1 F σ frC hA hK hf) fun frC1 σ1 ⟨F1, fr1, hh1, g1, g2, g3, g4, g5⟩ =>
    StepsW.mono CallA.mono (h2 fr1 hh1 g5 F1 σ1 frC1 g2 g3 g4) fun _ _ ha => After.trans g1 ha)
theorem WS.mono {l : List CStep} {Q Q' : AFr → AH → Prop} (hw : WS T K l fr h Q) (hQ : ∀ fr h, Q fr h → Q' fr h) : WS T K l fr h Q' :=
  fun F σ frC hA hK hf => StepsW.mono CallA.mono (hw F σ frC hA hK hf) fun _ _ ⟨F', fr', h', h1, h2, h3, h4, h5⟩ => ⟨F', fr', h', h1, h2, h3, h4, hQ _ _ h5⟩

/-- one operation, no guard -/
theorem WS.one {d : Option Tmp} {o : COp} {Q : AFr → AH → Prop} (hw : WO T K o fr h fun a h => Q (setA fr d a) h) : WS T K [⟨d, none, o⟩] fr h Q :=
  fun F σ frC hA hK hf => .inl ⟨rfl, OpW.mono CallA.mono (hw F σ _ hA hK (evA_rp hf)) fun v σ' ⟨F', a, h', h1, h2, h3, h4, h5⟩ =>
    ⟨F', _, h', h1, h2, h3, setA_rp (fun t => (hf t).ext h1) h4 d, h5⟩⟩
/-- .. with a guard that holds -/
theorem WS.yes {d : Option Tmp} {o : COp} {t : Tmp} {b : Bool} {Q : AFr → AH → Prop} (hg : fr t = .bool b) (hw : WS T K [⟨d, none, o⟩] fr h Q) : WS T K [⟨d, some (t, b), o⟩] fr h Q := by
  intro F σ frC hA hK hf
  have hv := hf t
  rw [hg] at hv
  rcases hw F σ frC hA hK hf with ⟨_, h2⟩ | ⟨h1, _⟩
  · exact .inl ⟨by simp only [wants, hv.bool_inv]; cases b <;> rfl, h2⟩
  · cases h1
theorem Rp.und (F : Nat → Nat) (σ : CW) : Rp F σ (.tuple []) cundef := .tuple rfl fun i x y h => by simp at h
theorem Rp.und_inv {F : Nat → Nat} {σ : CW} {v : Value} (h : Rp F σ (.tuple []) v) : v = cundef := by
  cases h with
  | @tuple _ a hl _ =>
    have : a = #[] := Array.eq_empty_of_size_eq_zero hl.symm
    rw [this]; rfl
theorem WS.skip {d : Option Tmp} {o : COp} {t : Tmp} {b c : Bool} {Q : AFr → AH → Prop} (hg : fr t = .bool c) (hn : (c == b) = false) (hw : Q (setA fr d (.tuple [])) h) : WS T K [⟨d, some (t, b), o⟩] fr h Q := by
  intro F σ frC hA hK hf
  have hv := hf t
  rw [hg] at hv
  exact .inr ⟨by simp only [wants, hv.bool_inv]; exact hn, F, _, h, .refl, hA, hK, setA_rp hf (.und _ _) d, hw⟩
/-- .. with a guard that was left out itself -/
theorem WS.skipU {d : Option Tmp} {o : COp} {t : Tmp} {b : Bool} {Q : AFr → AH → Prop} (hg : fr t = .tuple []) (hw : Q (setA fr d (.tuple [])) h) : WS T K [⟨d, some (t, b), o⟩] fr h Q := by
  intro F σ frC hA hK hf
  have hv := hf t
  rw [hg] at hv
  exact .inr ⟨by simp only [wants, hv.und_inv]; rfl, F, _, h, .refl, hA, hK, setA_rp hf (.und _ _) d, hw⟩

theorem WO.p {o : POp} {a : AV} {Q : AV → AH → Prop} (he : pevA o (evA fr) h = some a) (hq : Q a h) : WO T K (.p o) fr h Q :=
  fun F σ ρ hA hK hρ => let ⟨v, h1, h2⟩ := rp_pev hA hρ he; ⟨v, h1, F, a, h, .refl, hA, hK, h2, hq⟩

/-- A new object that is known from then on. -/
theorem WO.newO {o : AOp} {mk : Nat → AV} {ob : AO} {Q : AV → AH → Prop}
    (he : ∀ F σ ρ, AR F h σ → (∀ x, Rp F σ (evA fr x) (ρ x)) → ∃ obj v, aev o ρ σ.next = some (obj, v) ∧ FreshO σ obj ∧ ∀ F', (∀ b, F' b = F b ∨ b = σ.next ∧ F' b = 0) → AR F' h (σ.add obj) → Ext K F σ F' (σ.add obj) → AOk F' (σ.add obj) σ.next ob ∧ Rp F' (σ.add obj) (mk σ.next) v)
    (hq : ∀ b, h.objs b = none → ¬ K b → Q (mk b) (h.set b ob)) : WO T K (.a o) fr h Q := by
  intro F σ ρ hA hK hρ
  obtain ⟨obj, v, h1, h2, h3⟩ := he F σ ρ hA hρ
  have hlt : ∀ b, K b → b < σ.next := fun b hb => let ⟨o, ho⟩ := hK b hb; hA.lt ho
  have hx := Ext.add hA (o := obj) 0 hlt
  have hA1 : AR (upd F σ.next 0) h (σ.add obj) := hA.add h2 fun h => absurd h (by omega)
  obtain ⟨h4, h5⟩ := h3 _ (fun b => by by_cases e : b = σ.next <;> simp [upd, e]) hA1 hx
  refine ⟨obj, v, h1, upd F σ.next 0, mk σ.next, h.set σ.next ob, hx, hA1.learn' hA.inv h2 h4 hA.onext hA.tnext, fun b hb => ?_, h5, hq _ hA.onext fun hk => absurd (hlt _ hk) (by omega)⟩
  obtain ⟨o', ho'⟩ := hK b hb
  exact ⟨o', by rw [AH.set_ne _ _ (by have := hA.lt ho'; omega)]; exact ho'⟩

/-- .. that is never written again -/
theorem WO.newF {o : AOp} {a : AV} {Q : AV → AH → Prop}
    (he : ∀ F σ ρ, AR F h σ → (∀ x, Rp F σ (evA fr x) (ρ x)) → ∃ c E v n, aev o ρ σ.next = some (.cells c E σ.next 0, v) ∧ n ≤ c.length ∧ ∀ F', F' σ.next = n → Ext K F σ F' (σ.add (.cells c E σ.next 0)) → Rp F' (σ.add (.cells c E σ.next 0)) a v)
    (hq : Q a h) : WO T K (.a o) fr h Q := by
  intro F σ ρ hA hK hρ
  obtain ⟨c, E, v, n, h1, h2, h3⟩ := he F σ ρ hA hρ
  have hlt : ∀ b, K b → b < σ.next := fun b hb => let ⟨o, ho⟩ := hK b hb; hA.lt ho
  have hx := Ext.add hA (o := .cells c E σ.next 0) n hlt
  have hA1 : AR (upd F σ.next n) h (σ.add (.cells c E σ.next 0)) := hA.add ⟨rfl, rfl⟩ fun _ => .inl ⟨c, E, _, _, rfl, h2⟩
  exact ⟨_, v, h1, upd F σ.next n, a, h, hx, hA1, hK, h3 _ (upd_same _ _ _) hx, hq⟩

theorem consts_rp {F : Nat → Nat} {σ : CW} (zs : List Value) : RpL F σ (zs.map ofC1) zs := by
  have := RpL.map (F := F) (σ := σ) ofC1 (fun v => v) zs fun v _ => ofC1_rp F σ v
  rwa [List.map_id'] at this

theorem members_new {σ : CW} (hi : CInv σ) {c : List Value} {E : TypeId} {F : Nat → Nat} : ∃ e l, (σ.add (.cells c E σ.next 0)).members σ.next = (σ.next, e) :: l ∧ ∀ m ∈ l, F m.1 = 0 := by
  have hn : (σ.add (.cells c E σ.next 0)).cls σ.next = none := cls_next hi
  refine ⟨c.length, [], ?_, fun m hm => by cases hm⟩
  unfold CW.members
  rw [hn, add_heap, if_pos rfl]

theorem WO.alloc {E : TypeId} {zs : List Value} {Q : AV → AH → Prop} (hq : ∀ b, h.objs b = none → ¬ K b → Q (.ptr b 0) (h.set b (.cells (zs.map ofC1) E))) : WO T K (.a (.alloc E zs)) fr h Q := by
  refine WO.newO (mk := fun b => .ptr b 0) (ob := .cells (zs.map ofC1) E) (fun F σ ρ hA hρ => ⟨_, _, rfl, ⟨rfl, rfl⟩, fun F' hF' hA' hx => ⟨⟨?_, hA.inv.rol, zs, _, _, by rw [add_heap, if_pos rfl], consts_rp zs, members_new hA.inv⟩, .ptr _ _⟩⟩) hq
  rcases hF' σ.next with e | ⟨_, e⟩
  · rw [e]; exact hA.fnext
  · exact e
theorem WO.zero {E : TypeId} {zs : List Value} {Q : AV → AH → Prop} (h0 : zs ≠ []) (hq : Q (.rptr (zs.map ofC1)) h) : WO T K (.a (.alloc E zs)) fr h Q := by
  refine WO.newF (fun F σ ρ hA hρ => ⟨zs, E, _, zs.length, rfl, Nat.le_refl _, fun F' hF hx => ?_⟩) hq
  have hv := consts_rp (F := F') (σ := σ.add (.cells zs E σ.next 0)) zs
  refine .rptr (by rw [add_heap, if_pos rfl]) (by simp [h0]) (by simp [hF]) (by simp) fun i x y hi hy => hv.2 i x y hi (by simpa using hy)
theorem WO.box {E : TypeId} {x : Operand} {Q : AV → AH → Prop} (ha : isAny (evA fr x) = false) (hq : ∀ b, h.objs b = none → ¬ K b → Q (.ptr b 0) (h.set b (.cells (cellsA (evA fr x)) E))) : WO T K (.a (.box E x)) fr h Q := by
  refine WO.newO (mk := fun b => .ptr b 0) (ob := .cells (cellsA (evA fr x)) E) (fun F σ ρ hA hρ => ⟨_, _, rfl, ⟨rfl, rfl⟩, fun F' hF' hA' hx => ⟨⟨?_, hA.inv.rol, _, _, _, by rw [add_heap, if_pos rfl], ((hρ x).cells (by intro e; rw [e] at ha; cases ha)).ext hx, members_new hA.inv⟩, .ptr _ _⟩⟩) hq
  rcases hF' σ.next with e | ⟨_, e⟩
  · rw [e]; exact hA.fnext
  · exact e
theorem WO.boxF {E : TypeId} {x : Operand} {Q : AV → AH → Prop} (ha : isAny (evA fr x) = false) (h0 : cellsA (evA fr x) ≠ []) (hq : Q (.rptr (cellsA (evA fr x))) h) : WO T K (.a (.box E x)) fr h Q := by
  refine WO.newF (fun F σ ρ hA hρ => ?_) hq
  have hv := (hρ x).cells (by intro e; rw [e] at ha; cases ha)
  refine ⟨cellsOf (ρ x), E, _, (cellsOf (ρ x)).length, rfl, Nat.le_refl _, fun F' hF hx => ?_⟩
  refine .rptr (by rw [add_heap, if_pos rfl]) h0 (by rw [hF, hv.1]; omega) (by rw [hv.1]; omega) fun i x y hi hy => (hv.2 i x y hi (by simpa using hy)).ext hx
theorem WO.mkmap {Q : AV → AH → Prop} (hq : ∀ b, h.objs b = none → ¬ K b → Q (.map b) (h.set b (.map []))) : WO T K (.a .mkmap) fr h Q := by
  refine WO.newO (mk := fun b => .map b) (ob := .map []) (fun F σ ρ hA hρ => ⟨_, _, rfl, trivial, fun F' hF' hA' hx => ⟨⟨?_, hA.inv.rol, [], 0, by rw [add_heap, if_pos rfl], rfl, fun i p q hp => by simp at hp⟩, .map _⟩⟩) hq
  rcases hF' σ.next with e | ⟨_, e⟩
  · rw [e]; exact hA.fnext
  · exact e

/-- elements out of cells -/
def chunkA (sz : Nat) : Nat → List AV → List (List AV)
  | 0, _ => []
  | n + 1, l => l.take sz :: chunkA sz n (l.drop sz)
theorem chunkA_len {sz : Nat} : ∀ {n : Nat} {l : List AV}, (chunkA sz n l).length = n
  | 0, l => rfl
  | n + 1, l => by simp [chunkA, chunkA_len]
theorem chunkA_each {sz : Nat} : ∀ {n : Nat} {l : List AV}, n * sz ≤ l.length → ∀ e ∈ chunkA sz n l, e.length = sz
  | 0, l, _, e, he => by cases he
  | n + 1, l, hl, e, he => by
    rw [Nat.add_mul] at hl
    rcases List.mem_cons.1 he with rfl | he
    · simp; omega
    · exact chunkA_each (by simp; omega) e he
theorem chunkA_flat {sz : Nat} : ∀ {n : Nat} {l : List AV}, l.length = n * sz → (chunkA sz n l).flatten = l
  | 0, l, h => by
    have : l = [] := List.length_eq_zero_iff.1 (by simpa using h)
    subst this; rfl
  | n + 1, l, h => by
    rw [Nat.add_mul] at h
    show (l.take sz) ++ (chunkA sz n (l.drop sz)).flatten = l
    rw [chunkA_flat (by simp; omega), List.take_append_drop]

theorem fillA_len : ∀ {ps : List (Nat × Nat × AV)} {l r : List AV}, fillA l ps = some r → r.length = l.length
  | [], l, r, h => by cases h; rfl
  | (o, s, x) :: ps, l, r, h => by
    simp only [fillA] at h
    split at h
    · split at h
      · rename_i l1 h1
        rw [fillA_len h]
        unfold putA at h1
        split at h1
        · cases h1; simp; omega
        · cases h1
      · cases h
    · cases h

/-- A literal of a list. -/
theorem WO.bsl {E : TypeId} {zero : List Value} {n : Nat} {parts : List (Nat × Nat × Operand)} {cs : List AV} {Q : AV → AH → Prop}
    (hf : fillA ((zerosL zero n).map ofC1) (parts.map fun (o, s, x) => (o, s, evA fr x)) = some cs) (h0 : 0 < n) (hz : 0 < zero.length) (hB : n ≤ big) (hq : Q (.lst E (chunkA zero.length n cs) .no) h) : WO T K (.a (.bsl E zero n parts)) fr h Q := by
  refine WO.newF (fun F σ ρ hA hρ => ?_) hq
  obtain ⟨r, h1, h2⟩ := fillA_rp hρ hf (consts_rp (zerosL zero n))
  have hl : cs.length = n * zero.length := by rw [fillA_len hf]; simp [zerosL_len]
  refine ⟨r, E, .slice (some ⟨σ.next, 0, none⟩) n n, r.length, by simp only [aev, h1], Nat.le_refl _, fun F' hF hx => ?_⟩
  have := Rp.lst (F := F') (σ := σ.add (.cells r E σ.next 0)) (E := E) (es := chunkA zero.length n cs) (t := .no) (b := σ.next) (off := 0) (cap := n) (sz := zero.length) (by rw [add_heap, if_pos rfl])
    (by intro e; have := congrArg List.length e; rw [chunkA_len] at this; simp at this; omega) hz (chunkA_each (by omega)) (by rw [chunkA_len, hF, ← h2.1, hl]; omega) (by rw [chunkA_len, ← h2.1, hl]; omega) (by rw [chunkA_len]; omega) (by rw [chunkA_len]; exact hB) (.inl rfl)
    (fun i x y hi hy => by rw [chunkA_flat hl] at hi; exact (h2.2 i x y hi (by simpa using hy)).ext hx)
  rwa [chunkA_len] at this

/-- .. of none -/
theorem WO.bsl0 {E : TypeId} {zero : List Value} {Q : AV → AH → Prop} (hq : Q (.lst E [] .no) h) : WO T K (.a (.bsl E zero 0 [])) fr h Q :=
  WO.newF (fun F σ ρ hA hρ => ⟨[], E, .slice (some ⟨σ.next, 0, none⟩) 0 0, 0, rfl, Nat.le_refl _, fun F' hF hx => .lstE E _ _ _⟩) hq

/-- A new row that is this list's own. -/
theorem WO.newT {o : AOp} {es : List (List AV)} {E : TypeId} {sz : Nat} {Q : AV → AH → Prop} (cp : Nat)
    (he : ∀ F σ ρ, AR F h σ → (∀ x, Rp F σ (evA fr x) (ρ x)) → ∃ c v, aev o ρ σ.next = some (.cells c E σ.next 0, v) ∧ c.length = cp ∧ es.length * sz ≤ cp ∧ ∀ F', F' σ.next = es.length * sz → Ext K F σ F' (σ.add (.cells c E σ.next 0)) → Rp F' (σ.add (.cells c E σ.next 0)) (.lst E es (.own σ.next σ.next 0 (es.length * sz) cp sz)) v)
    (hq : ∀ b, h.toks b = none → h.objs b = none → Q (.lst E es (.own b b 0 (es.length * sz) cp sz)) (h.setT b ⟨b, 0, es.length * sz, cp, sz, E⟩)) : WO T K (.a o) fr h Q := by
  intro F σ ρ hA hK hρ
  obtain ⟨c, v, h1, h2, h3, h4⟩ := he F σ ρ hA hρ
  obtain ⟨g1, g2⟩ := hA.newOwn (K := K) (c := c) (E := E) (p := es.length * sz) (sz := sz) (by omega) hK
  rw [h2] at g1
  exact ⟨_, v, h1, _, _, _, g2, g1, hK, h4 _ (upd_same _ _ _) g2, hq _ hA.tnext hA.onext⟩

theorem WO.bslT {E : TypeId} {zero : List Value} {n : Nat} {parts : List (Nat × Nat × Operand)} {cs : List AV} {Q : AV → AH → Prop}
    (hf : fillA ((zerosL zero n).map ofC1) (parts.map fun (o, s, x) => (o, s, evA fr x)) = some cs) (h0 : 0 < n) (hz : 0 < zero.length) (hB : n ≤ big)
    (hq : ∀ b, h.toks b = none → h.objs b = none → Q (.lst E (chunkA zero.length n cs) (.own b b 0 (n * zero.length) (n * zero.length) zero.length)) (h.setT b ⟨b, 0, n * zero.length, n * zero.length, zero.length, E⟩)) : WO T K (.a (.bsl E zero n parts)) fr h Q := by
  have hl : cs.length = n * zero.length := by rw [fillA_len hf]; simp [zerosL_len]
  refine WO.newT (es := chunkA zero.length n cs) (E := E) (sz := zero.length) (n * zero.length) (fun F σ ρ hA hρ => ?_) (by simpa only [chunkA_len] using hq)
  obtain ⟨r, h1, h2⟩ := fillA_rp hρ hf (consts_rp (zerosL zero n))
  refine ⟨r, .slice (some ⟨σ.next, 0, none⟩) n n, by simp only [aev, h1], by rw [← h2.1, hl], by rw [chunkA_len]; omega, fun F' hF hx => ?_⟩
  rw [chunkA_len] at hF
  have := Rp.lst (F := F') (σ := σ.add (.cells r E σ.next 0)) (E := E) (es := chunkA zero.length n cs) (t := .own σ.next σ.next 0 (0 + 0 + (chunkA zero.length n cs).length * zero.length) (0 + 0 + n * zero.length) zero.length) (b := σ.next) (off := 0) (cap := n) (sz := zero.length) (by rw [add_heap, if_pos rfl])
    (by intro e; have := congrArg List.length e; rw [chunkA_len] at this; simp at this; omega) hz (chunkA_each (by omega)) (by rw [chunkA_len, hF]; omega) (by rw [chunkA_len, ← h2.1, hl]; omega) (by rw [chunkA_len]; omega) (by rw [chunkA_len]; exact hB) (.inr rfl)
    (fun i x y hi hy => by rw [chunkA_flat hl] at hi; exact (h2.2 i x y hi (by simpa using hy)).ext hx)
  simpa only [chunkA_len, Nat.zero_add] using this

theorem WO.bslT0 {E : TypeId} {zero : List Value} {Q : AV → AH → Prop}
    (hq : ∀ b, h.toks b = none → h.objs b = none → Q (.lst E [] (.own b b 0 0 0 zero.length)) (h.setT b ⟨b, 0, 0, 0, zero.length, E⟩)) : WO T K (.a (.bsl E zero 0 [])) fr h Q := by
  refine WO.newT (es := []) (E := E) (sz := zero.length) 0 (fun F σ ρ hA hρ => ⟨[], _, rfl, rfl, by simp, fun F' hF hx => ?_⟩) (by simpa using hq)
  simp only [List.length_nil, Nat.zero_mul]
  exact .lstO E rfl (by simp)

/-- A list with room that is empty. -/
theorem WO.mksl0 {E : TypeId} {bytes : Nat} {zero : List Value} {l c : Operand} {j k : IntKind} {n : Nat} {Q : AV → AH → Prop} (hl : evA fr l = .int j 0) (hc : evA fr c = .int k n) (hz : bytes * n ≤ 1099511627776) (hn : n ≤ 1099511627776)
    (hq : ∀ b, h.toks b = none → h.objs b = none → Q (.lst E [] (.own b b 0 0 (n * zero.length) zero.length)) (h.setT b ⟨b, 0, 0, n * zero.length, zero.length, E⟩)) : WO T K (.a (.mksl E bytes zero l c)) fr h Q := by
  refine WO.newT (es := []) (E := E) (sz := zero.length) (n * zero.length) (fun F σ ρ hA hρ => ?_) (by simpa using hq)
  have h1 := hρ l; rw [hl] at h1
  have h2 := hρ c; rw [hc] at h2
  refine ⟨zerosL zero n, .slice (some ⟨σ.next, 0, none⟩) 0 n, ?_, zerosL_len _ _, by simp, fun F' hF hx => ?_⟩
  · simp only [aev, h1.int_inv, h2.int_inv]
    rw [if_pos ⟨by omega, by omega, by rw [← Int.natCast_mul]; omega, by omega⟩]
    rfl
  · simp only [List.length_nil, Nat.zero_mul]
    exact .lstO E rfl (by simp)

/-- A list of zeros that may be written. -/
theorem WO.mksl {E : TypeId} {bytes : Nat} {zero : List Value} {l c : Operand} {j k : IntKind} {m n : Nat} {Q : AV → AH → Prop} (hl : evA fr l = .int j m) (hc : evA fr c = .int k n) (hmn : m ≤ n) (hz : bytes * n ≤ 1099511627776) (hn : n ≤ 1099511627776)
    (hq : ∀ b, h.objs b = none → ¬ K b → Q (.slice b 0 m n) (h.set b (.cells ((zerosL zero n).map ofC1) E))) : WO T K (.a (.mksl E bytes zero l c)) fr h Q := by
  refine WO.newO (mk := fun b => .slice b 0 m n) (ob := .cells ((zerosL zero n).map ofC1) E) (fun F σ ρ hA hρ => ?_) hq
  have h1 := hρ l; rw [hl] at h1
  have h2 := hρ c; rw [hc] at h2
  refine ⟨.cells (zerosL zero n) E σ.next 0, .slice (some ⟨σ.next, 0, none⟩) m n, ?_, ⟨rfl, rfl⟩, fun F' hF' hA' hx => ⟨⟨?_, hA.inv.rol, zerosL zero n, _, _, by rw [add_heap, if_pos rfl], consts_rp _, members_new hA.inv⟩, .slice hmn⟩⟩
  · simp only [aev, h1.int_inv, h2.int_inv]
    rw [if_pos ⟨by omega, by omega, by rw [← Int.natCast_mul]; omega, by omega⟩]
    rfl
  · rcases hF' σ.next with e | ⟨_, e⟩
    · rw [e]; exact hA.fnext
    · exact e

theorem flat_one (s : List UInt8) : (s.map fun c => [AV.int .u8 c.toNat]).flatten = s.map fun c => AV.int .u8 c.toNat := by
  induction s with
  | nil => rfl
  | cons a l ih => simp only [List.map_cons, List.flatten_cons, ih]; rfl

/-- The bytes of a text. -/
theorem WO.s2b {E : TypeId} {x : Operand} {s : List UInt8} {Q : AV → AH → Prop} (hx : evA fr x = .str s) (hB : s.length ≤ big) (hq : Q (.lst E (s.map fun c => [.int .u8 c.toNat]) .no) h) : WO T K (.a (.s2b E x)) fr h Q := by
  refine WO.newF (fun F σ ρ hA hρ => ?_) hq
  have hv := hρ x; rw [hx] at hv
  refine ⟨s.map fun c => .int .u8 c.toNat, E, .slice (some ⟨σ.next, 0, none⟩) s.length s.length, s.length, ?_, by simp, fun F' hF hx => ?_⟩
  · simp only [aev, hv.str_inv]; rfl
  · by_cases h0 : s = []
    · subst h0; exact .lstE E _ _ _
    · have := Rp.lst (F := F') (σ := σ.add (.cells (s.map fun c => .int .u8 c.toNat) E σ.next 0)) (E := E) (es := s.map fun c => [AV.int .u8 c.toNat]) (t := .no) (b := σ.next) (off := 0) (cap := s.length) (sz := 1) (by rw [add_heap, if_pos rfl])
        (by simpa using h0) (by omega) (by simp) (by simp [hF]) (by simp) (by simp) (by simpa using hB) (.inl rfl) (fun i x y hi hy => ?_)
      · simpa using this
      · rw [flat_one] at hi
        simp only [Nat.zero_add, List.getElem?_map] at hi hy
        cases hs : s[i]? <;> rw [hs] at hi hy <;> simp at hi hy
        subst hi hy; exact .int _ _

-- what is changed ------------------------------------------------------------------------------------
theorem KOk.set {K : Nat → Prop} {h : AH} (hK : KOk K h) (b : Nat) (o : AO) : KOk K (h.set b o) := fun n hn => by
  rw [AH.set_objs]; split
  · exact ⟨o, rfl⟩
  · exact hK n hn
theorem KOk.del {K : Nat → Prop} {h : AH} (hK : KOk K h) {b : Nat} (hb : ¬ K b) : KOk K (h.del b) := fun n hn => by
  rw [AH.del_objs, if_neg (by rintro rfl; exact hb hn)]; exact hK n hn

/-- A store, by its address and what is stored. -/
theorem AR.store {F : Nat → Nat} {σ : CW} (hA : AR F h σ) (hK : KOk K h) {b off : Nat} {cs cs' : List AV} {E : TypeId} {x : AV} {v : Value} (hb : h.objs b = some (.cells cs E)) (hKb : ¬ K b) (hx : isAny x = false) (ho : (cellsA x).all oneA = true)
    (hp : putA cs off (cellsA x) = some cs') (hv : Rp F σ x v) : ∃ σ', σ.put ⟨b, off, none⟩ (cellsOf v) = some σ' ∧ (cellsOf v).length = (cellsA x).length ∧ AR F (h.set b (.cells cs' E)) σ' ∧ Ext K F σ F σ' ∧ KOk K (h.set b (.cells cs' E)) := by
  have hc := hv.cells (by intro e; rw [e] at hx; cases hx)
  obtain ⟨σ', h1, h2, h3⟩ := hA.put hb hp ho hc hKb hK
  exact ⟨σ', h1, hc.1.symm, h2, h3, hK.set _ _⟩

theorem WO.stN {n : Nat} {a x : Operand} {b off : Nat} {cs cs' : List AV} {E : TypeId} {Q : AV → AH → Prop} (ha : evA fr a = .ptr b off) (hb : h.objs b = some (.cells cs E)) (hKb : ¬ K b) (hx : isAny (evA fr x) = false) (hl : (cellsA (evA fr x)).length = n)
    (ho : (cellsA (evA fr x)).all oneA = true) (hp : putA cs off (cellsA (evA fr x)) = some cs') (hq : Q .any (h.set b (.cells cs' E))) : WO T K (.e (.stN n a x)) fr h Q := by
  intro F σ ρ hA hK hρ
  obtain ⟨σ', h1, h2, h3, h4, h5⟩ := hA.store hK hb hKb hx ho hp (hρ x)
  have hv := hρ a; rw [ha] at hv
  cases hv' : ρ a <;> rw [hv'] at hv <;> cases hv
  exact ⟨cundef, σ', by simp only [eev, hv', h2, hl, if_true, h1], F, .any, _, h4, h3, h5, .any _, hq⟩
theorem WO.st1 {a x : Operand} {b off : Nat} {cs cs' : List AV} {E : TypeId} {Q : AV → AH → Prop} (ha : evA fr a = .ptr b off) (hb : h.objs b = some (.cells cs E)) (hKb : ¬ K b) (hx : isAny (evA fr x) = false) (hl : (cellsA (evA fr x)).length = 1)
    (ho : (cellsA (evA fr x)).all oneA = true) (hp : putA cs off (cellsA (evA fr x)) = some cs') (hq : Q .any (h.set b (.cells cs' E))) : WO T K (.e (.st1 a x)) fr h Q := by
  intro F σ ρ hA hK hρ
  obtain ⟨σ', h1, h2, h3, h4, h5⟩ := hA.store hK hb hKb hx ho hp (hρ x)
  have hv := hρ a; rw [ha] at hv
  cases hv' : ρ a <;> rw [hv'] at hv <;> cases hv
  rw [hl] at h2
  obtain ⟨w, hw⟩ : ∃ w, cellsOf (ρ x) = [w] := by
    match cellsOf (ρ x), h2 with
    | [w], _ => exact ⟨w, rfl⟩
  rw [hw] at h1
  exact ⟨cundef, σ', by simp only [eev, hv', hw, h1], F, .any, _, h4, h3, h5, .any _, hq⟩

/-- What a pointer leads to is said to be written no more. -/
theorem WS.fz {l : List CStep} {t : Tmp} {b : Nat} {cs : List AV} {E : TypeId} {Q : AFr → AH → Prop} (hKb : ¬ K b)
    (hw : WS T K l fr h fun fr h => fr t = .ptr b 0 ∧ h.objs b = some (.cells cs E) ∧ cs ≠ [] ∧ Q (upd fr t (.rptr cs)) (h.del b)) : WS T K l fr h Q := by
  intro F σ frC hA hK hf
  refine StepsW.mono CallA.mono (hw F σ frC hA hK hf) fun frC' σ' ⟨F', fr', h', g1, g2, g3, g4, g5, g6, g7, g8⟩ => ?_
  obtain ⟨q1, q2⟩ := g2.freeze (K := K) g6 (.inl ⟨cs, E, rfl, rfl, List.length_pos_iff.2 g7⟩) hKb
  refine ⟨_, _, _, g1.trans q2, q1, g3.del hKb, fun u => ?_, g8⟩
  by_cases e : u = t
  · subst e
    rw [upd_same]
    have hv := g4 u; rw [g5] at hv
    obtain ⟨_, _, c, _, _, e1, e2, e3⟩ := g2.obj b _ g6
    cases hv' : frC' u <;> rw [hv'] at hv <;> cases hv
    exact .rptr e1 g7 (by rw [upd_same]; omega) (by rw [e2.1]; omega) fun i x y hi hy => (e2.2 i x y hi (by simpa using hy)).ext q2
  · rw [upd_ne _ _ e]; exact (g4 u).ext q2

theorem WO.mapupd {str : Bool} {m k x : Operand} {b : Nat} {es r : List (AV × AV)} {Q : AV → AH → Prop} (hm : evA fr m = .map b) (hb : h.objs b = some (.map es)) (hKb : ¬ K b) (hk : isKeyA str (evA fr k) = true)
    (hp : mputA (evA fr k) (evA fr x) es = some r) (hq : Q .any (h.set b (.map r))) : WO T K (.e (.mapupd str m k x)) fr h Q := by
  intro F σ ρ hA hK hρ
  obtain ⟨hF, hro, es', ver, g1, g2⟩ := hA.obj b _ hb
  obtain ⟨k1, k2⟩ := isKey_rp hk (hρ k)
  obtain ⟨r', q1, q2⟩ := mput_rp (hρ k) k2 (hρ x) hp g2
  have hv := hρ m; rw [hm] at hv
  cases hv' : ρ m <;> rw [hv'] at hv <;> cases hv
  obtain ⟨u1, u2⟩ := hA.setO (K := K) (o2 := .map r' (ver + 1)) (a2 := .map r) hb hF g1 rfl rfl hKb fun hx => ⟨hF, hro, r', ver + 1, by rw [set_heap, if_pos rfl], q2.ext hx⟩
  exact ⟨cundef, _, by simp only [eev, hv', g1]; rw [if_pos ⟨k1, hro⟩, q1]; rfl, F, .any, _, u2, u1, hK.set _ _, .any _, hq⟩
theorem WO.delete {str : Bool} {m k : Operand} {b : Nat} {es r : List (AV × AV)} {Q : AV → AH → Prop} (hm : evA fr m = .map b) (hb : h.objs b = some (.map es)) (hKb : ¬ K b) (hk : isKeyA str (evA fr k) = true)
    (hp : mdelA (evA fr k) es = some r) (hq : Q .any (h.set b (.map r))) : WO T K (.e (.delete str m k)) fr h Q := by
  intro F σ ρ hA hK hρ
  obtain ⟨hF, hro, es', ver, g1, g2⟩ := hA.obj b _ hb
  obtain ⟨k1, k2⟩ := isKey_rp hk (hρ k)
  obtain ⟨r', q1, q2⟩ := mdel_rp (hρ k) hp g2
  have hv := hρ m; rw [hm] at hv
  cases hv' : ρ m <;> rw [hv'] at hv <;> cases hv
  obtain ⟨u1, u2⟩ := hA.setO (K := K) (o2 := .map r' (ver + 1)) (a2 := .map r) hb hF g1 rfl rfl hKb fun hx => ⟨hF, hro, r', ver + 1, by rw [set_heap, if_pos rfl], q2.ext hx⟩
  exact ⟨cundef, _, by simp only [eev, hv', g1]; rw [if_pos ⟨k1, hro⟩, q1]; rfl, F, .any, _, u2, u1, hK.set _ _, .any _, hq⟩

theorem args_rp {F : Nat → Nat} {σ : CW} {ρA : Operand → AV} {ρ : Operand → Value} (hρ : ∀ x, Rp F σ (ρA x) (ρ x)) (args : List Operand) : RpL F σ (args.map ρA) (args.map ρ) := .map _ _ _ fun x _ => hρ x

theorem WO.call {f : FuncId} {args : List Operand} {Q : AV → AH → Prop} (hc : ACall T K (.func f) (args.map (evA fr)) h Q) : WO T K (.e (.call f args)) fr h Q :=
  fun F σ ρ hA hK hρ => hc F σ _ hA hK (args_rp hρ args)
theorem WO.callv {x : Operand} {args : List Operand} {f : Nat} {a b : List AV} {Q : AV → AH → Prop} (hx : evA fr x = .func f a b) (hc : ACall T K (.func f) (a ++ args.map (evA fr) ++ b) h Q) : WO T K (.e (.callv x args)) fr h Q := by
  intro F σ ρ hA hK hρ
  have hv := hρ x; rw [hx] at hv
  cases hv' : ρ x <;> rw [hv'] at hv <;> cases hv
  rename_i ha h1 hb h2
  exact ⟨_, _, _, hv', hc F σ _ hA hK (((show RpL F σ a _ from ⟨by simpa using ha, fun i x y hi hy => h1 i x y hi (by simpa using hy)⟩).append (args_rp hρ args)).append ⟨by simpa using hb, fun i x y hi hy => h2 i x y hi (by simpa using hy)⟩)⟩
theorem WO.cally {x : Operand} {args : List Operand} {c : Nat} {Q : AV → AH → Prop} (hx : evA fr x = .yield c) (hc : ACall T K (.yield c) (args.map (evA fr)) h Q) : WO T K (.e (.callv x args)) fr h Q := by
  intro F σ ρ hA hK hρ
  have hv := hρ x; rw [hx] at hv
  cases hv' : ρ x <;> rw [hv'] at hv <;> cases hv
  exact ⟨_, _, _, hv', by simpa using hc F σ _ hA hK (args_rp hρ args)⟩

end
end Go.Cn
