/- From a contract to a row: what lay before lies as it lay. -/
import Derived.Test.YtdepohnidjndjaaCnSeat
import Derived.ChangeSame
namespace Go.Cn
set_option linter.unusedSimpArgs false
set_option linter.unusedVariables false
open Go.ChangeShapes Go.WideShapes

/-- what lay before lies as it lay -/
def Kept (w w' : World) : Prop := (∀ B, B < w.heap.size → w'.heap[B]? = w.heap[B]?) ∧ w.heap.size ≤ w'.heap.size ∧ w'.os = w.os ∧ w'.output = w.output

theorem Kept.but {w w' : World} (h : Kept w w') (may : MemPlace → Prop) : w.keptBut w' may := by
  refine ⟨h.2.2.1, h.2.2.2, fun i hi => ?_⟩
  rw [h.1 i hi]
  cases w.heap[i]? with
  | none => rfl
  | some o =>
    cases o with
    | cells c t fr => exact ⟨rfl, rfl, rfl, fun _ _ => rfl⟩
    | map es clock => exact .inr ⟨rfl, rfl⟩
    | _ => rfl

theorem Kept.frozen {w w' : World} (h : Kept w w') (a : Addr) (ha : a.block < w.heap.size) : w'.frozen? a = w.frozen? a := by
  unfold World.frozen?
  rw [h.1 _ ha]
theorem Kept.cell {w w' : World} (h : Kept w w') {a : Addr} {v : Value} (hc : w.cell? a = some v) : w'.cell? a = some v := by
  unfold World.cell? at hc ⊢
  rw [h.1]
  · exact hc
  · rcases Nat.lt_or_ge a.block w.heap.size with h1 | h1
    · exact h1
    · have : w.heap[a.block]? = none := Array.getElem?_eq_none h1
      rw [this] at hc
      simp at hc

/-- What is asked of the end of a run of which the old memory is as it was. -/
theorem post_of_kept {H : Type} {enc : TypeId × Value → H} {P : Program} {f : Func} {s : ChangeSpec} {apart fresh handsOn again : Bool} {W W' : World} {args : Array Value} {v : Value} {ds gs : List (DataW H)} {before pa pv : List MemPlace}
    (hW : DataW.Whole enc P f.params.toList s.vars apart W args.toList ds gs before)
    (hres : ∀ (b : Nat) (sp : Nat → Bool) (hd : Bool), DataW.TrodAll enc P W' b sp hd f.resultTypes.toList (v.resultList f.resultTypes.size) (s.fn H (ds ++ gs)).results [])
    (hargs : ∀ sp : Nat → Bool, (∀ p ∈ before, sp p.block = true) → DataW.TrodAll enc P W' 0 sp true f.params.toList args.toList (s.fn H (ds ++ gs)).args pa)
    (hvars : ∀ sp : Nat → Bool, (∀ p ∈ before, sp p.block = true) → DataW.TrodVars enc P W' sp s.vars (s.fn H (ds ++ gs)).vars pv)
    (hps : before = pa ++ pv) (hk : Kept W W')
    (hok : ∀ (j : Nat) (t : TypeId) (r : Value), f.resultTypes[j]? = some t → (v.resultList f.resultTypes.size)[j]? = some r → Value.okWide P W' .any 0 t r) :
    s.post enc P f apart fresh handsOn again W args v W' := by
  have hlt := hW.lt
  have hold : ∀ p ∈ before, (fun b => decide (b < W.heap.size)) p.block = true := fun p hp => by simpa using hlt p hp
  have hbp : ∀ p ∈ before, p ∈ pa ∨ p ∈ pv := fun p hp => by rw [hps] at hp; exact List.mem_append.1 hp
  refine ⟨ds, gs, before, [], pa, pv, hW, hres _ _ _, hargs _ hold, hvars _ hold, hk.but _, fun _ => ?_⟩
  obtain ⟨_, _, _, _, _, hz, hn⟩ := hW
  refine ⟨hok, _, _, ([] ++ pa) ++ pv, ⟨[] ++ pa, pv, trodAll_append (hargs _ (fun _ _ => rfl)) (hres _ _ _), hvars _ (fun _ _ => rfl), rfl, ?_, ?_⟩, ?_⟩
  · intro b off hp
    have hp' : MemPlace.cell b off ∈ before := by rw [hps]; simpa using hp
    rw [hk.frozen _ (hlt _ hp')]
    exact hz b off hp'
  · intro ha
    have := hn ha
    rw [hps] at this
    simpa using this
  · intro p hp _
    rw [hps]
    simpa using hp

/-- A row that is there when a run begins, and is only read: block, place in it, how many cells the block has, its type, the row's cells. -/
structure Row0 where
  B : Nat
  off : Nat
  N : Nat
  E : TypeId
  l : List Value

def Row0.ok (P : Program) (W : World) (r : Row0) : Prop :=
  ∃ c' fr, W.heap[r.B]? = some (.cells c' r.E fr) ∧ c'.size = r.N ∧ r.off + r.l.length ≤ r.N ∧ ∀ k v, r.l[k]? = some v → c'[r.off + k]? = some v ∧ ∀ β, VRel P β v v

def br (rs : List Row0) : Ren := fun b => (rs[b]?).map fun r => ⟨r.B, r.off, r.N, r.E, false⟩
def sr (rs : List Row0) : CW where
  heap := fun b => (rs[b]?).map fun r => .cells r.l r.E b 0
  next := rs.length
  ro := rs.length
  inj := 0
  cls := fun _ => none
theorem sr_heap {rs : List Row0} {b : Nat} {o : CObj} (h : (sr rs).heap b = some o) : ∃ r, rs[b]? = some r ∧ o = .cells r.l r.E b 0 := by
  simp only [sr, Option.map_eq_some_iff] at h
  obtain ⟨r, h1, h2⟩ := h
  exact ⟨r, h1, h2.symm⟩
theorem sr_inv (rs : List Row0) : CInv (sr rs) where
  fresh := fun b hb => by
    show (rs[b]?).map _ = none
    rw [List.getElem?_eq_none hb]; rfl
  mem := fun b c E cl rel h => by
    obtain ⟨r, h1, h2⟩ := sr_heap h
    cases h2
    refine ⟨?_, (List.getElem?_eq_some_iff.1 h1).1⟩
    unfold CW.members
    show (b, 0 + r.l.length) ∈ (match (sr rs).heap b with | some (.cells l _ _ _) => [(b, l.length)] | _ => [])
    rw [h]; simp
  cls := fun c l h => by cases h
  rol := Nat.le_refl _
theorem sr_rel {P : Program} {W : World} {rs : List Row0} (h : ∀ r ∈ rs, r.ok P W) : Rel P (br rs) (sr rs) W where
  inv := sr_inv rs
  lt := fun b i hb => by
    simp only [br, Option.map_eq_some_iff] at hb
    obtain ⟨r, h1, rfl⟩ := hb
    obtain ⟨c', fr, h2, _⟩ := h r (List.mem_of_getElem? h1)
    refine ⟨(List.getElem?_eq_some_iff.1 h1).1, ?_⟩
    rcases Nat.lt_or_ge r.B W.heap.size with h3 | h3
    · exact h3
    · rw [Array.getElem?_eq_none h3] at h2; cases h2
  obj := fun b i o hb ho => by
    simp only [br, Option.map_eq_some_iff] at hb
    obtain ⟨r, h1, rfl⟩ := hb
    obtain ⟨r', h2, rfl⟩ := sr_heap ho
    rw [h1] at h2; cases h2
    obtain ⟨c', fr, h3, h4, h5, h6⟩ := h r (List.mem_of_getElem? h1)
    show ObjRel P _ _ _ W.heap[r.B]?
    rw [h3]
    exact ⟨rfl, rfl, h4, by show r.l.length + r.off ≤ r.N; omega, fun e => (by cases e), fun k v hk => ⟨v, by show c'[k + r.off]? = some v; rw [Nat.add_comm]; exact (h6 k v hk).1, (h6 k v hk).2 _⟩⟩
  alias := fun b1 b2 i1 i2 hne h1 h2 hB => by
    simp only [br, Option.map_eq_some_iff] at h1 h2
    obtain ⟨r1, g1, rfl⟩ := h1
    obtain ⟨r2, g2, rfl⟩ := h2
    have l1 := (List.getElem?_eq_some_iff.1 g1).1
    have l2 := (List.getElem?_eq_some_iff.1 g2).1
    refine ⟨⟨fun _ => l2, fun _ => l1⟩, ?_⟩
    have e1 : (sr rs).heap b1 = some (.cells r1.l r1.E b1 0) := by show (rs[b1]?).map _ = _; rw [g1]; rfl
    have e2 : (sr rs).heap b2 = some (.cells r2.l r2.E b2 0) := by show (rs[b2]?).map _ = _; rw [g2]; rfl
    rw [e1, e2]
    exact .inl ⟨l1, .inl ⟨Nat.zero_le _, Nat.zero_le _⟩⟩
  here := fun b i hb => by
    simp only [br, Option.map_eq_some_iff] at hb
    obtain ⟨r, h1, rfl⟩ := hb
    exact ⟨_, by show (rs[b]?).map _ = _; rw [h1]; rfl⟩
  iters := fun r ir m ver seen _ ho => by obtain ⟨_, _, h⟩ := sr_heap ho; cases h
  wr := ⟨fun b hb => absurd hb (Nat.not_lt_zero b), fun b i hb hr => by
    simp only [br, Option.map_eq_some_iff] at hb
    obtain ⟨r, h1, rfl⟩ := hb
    have l1 := (List.getElem?_eq_some_iff.1 h1).1
    have : rs.length ≤ b ∨ b < 0 := hr
    omega⟩

theorem kept_of {P : Program} {rs : List Row0} {β' : Ren} {σ' : CW} {w w' : World} (h : Stp P (br rs) (sr rs) w β' σ' w') : Kept w w' :=
  ⟨fun B hB => h.afr B hB fun b i hb hr => by
    simp only [br, Option.map_eq_some_iff] at hb
    obtain ⟨r, h1, rfl⟩ := hb
    have l1 := (List.getElem?_eq_some_iff.1 h1).1
    have : rs.length ≤ b := hr
    omega, h.size, h.os, h.out⟩


end Go.Cn
