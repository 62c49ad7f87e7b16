/- From the canonical machine to a row: what lay before lies as it lay. -/
import Derived.Test.YtijakoegdnjdgaaCnDraw4
import Derived.Test.YtijakoegdnjdgaaCnEvOk7
import Derived.ChangeSame
namespace Go.Cn
set_option linter.unusedVariables false
open Go.ChangeShapes Go.WideShapes

/-- what lay before lies as it lay -/
def Kept (w w' : World) : Prop := (∀ B, B < w.heap.size → w'.heap[B]? = w.heap[B]?) ∧ w.heap.size ≤ w'.heap.size ∧ w'.os = w.os ∧ w'.output = w.output

theorem Kept.but {w w' : World} (h : Kept w w') (may : MemPlace → Prop) : w.keptBut w' may := by
  refine ⟨h.2.2.1, h.2.2.2, fun i hi => ?_⟩
  rw [h.1 i hi]
  cases w.heap[i]? with
  | none => rfl
  | some o =>
    cases o with
    | cells c t fr => exact ⟨rfl, rfl, rfl, fun _ _ => rfl⟩
    | map es clock => exact .inr ⟨rfl, rfl⟩
    | _ => rfl

theorem Kept.frozen {w w' : World} (h : Kept w w') (a : Addr) (ha : a.block < w.heap.size) : w'.frozen? a = w.frozen? a := by
  unfold World.frozen?
  rw [h.1 _ ha]

/-- What is asked of the end of a run of which the old memory is as it was. -/
theorem post_of_kept {H : Type} {enc : TypeId × Value → H} {P : Program} {f : Func} {s : ChangeSpec} {apart fresh handsOn again : Bool} {W W' : World} {args : Array Value} {v : Value} {ds gs : List (DataW H)} {before pa pv : List MemPlace}
    (hW : DataW.Whole enc P f.params.toList s.vars apart W args.toList ds gs before)
    (hres : ∀ (b : Nat) (sp : Nat → Bool) (hd : Bool), DataW.TrodAll enc P W' b sp hd f.resultTypes.toList (v.resultList f.resultTypes.size) (s.fn H (ds ++ gs)).results [])
    (hargs : ∀ sp : Nat → Bool, (∀ p ∈ before, sp p.block = true) → DataW.TrodAll enc P W' 0 sp true f.params.toList args.toList (s.fn H (ds ++ gs)).args pa)
    (hvars : ∀ sp : Nat → Bool, (∀ p ∈ before, sp p.block = true) → DataW.TrodVars enc P W' sp s.vars (s.fn H (ds ++ gs)).vars pv)
    (hps : before = pa ++ pv) (hk : Kept W W')
    (hok : ∀ (j : Nat) (t : TypeId) (r : Value), f.resultTypes[j]? = some t → (v.resultList f.resultTypes.size)[j]? = some r → Value.okWide P W' .any 0 t r) :
    s.post enc P f apart fresh handsOn again W args v W' := by
  have hlt := hW.lt
  have hold : ∀ p ∈ before, (fun b => decide (b < W.heap.size)) p.block = true := fun p hp => by simpa using hlt p hp
  have hbp : ∀ p ∈ before, p ∈ pa ∨ p ∈ pv := fun p hp => by rw [hps] at hp; exact List.mem_append.1 hp
  refine ⟨ds, gs, before, [], pa, pv, hW, hres _ _ _, hargs _ hold, hvars _ hold, hk.but _, fun _ => ?_⟩
  obtain ⟨_, _, _, _, _, hz, hn⟩ := hW
  refine ⟨hok, _, _, ([] ++ pa) ++ pv, ⟨[] ++ pa, pv, trodAll_append (hargs _ (fun _ _ => rfl)) (hres _ _ _), hvars _ (fun _ _ => rfl), rfl, ?_, ?_⟩, ?_⟩
  · intro b off hp
    have hp' : MemPlace.cell b off ∈ before := by rw [hps]; simpa using hp
    rw [hk.frozen _ (hlt _ hp')]
    exact hz b off hp'
  · intro ha
    have := hn ha
    rw [hps] at this
    simpa using this
  · intro p hp _
    rw [hps]
    simpa using hp

/-- the canonical machine ahead of a run of a program without variables -/
noncomputable def h0 : HS := ⟨.nil, 0, 0, 0, .nil⟩

theorem den0_heap (n : Nat) : (den h0).heap n = none := get_nil _
theorem den0_cls (n : Nat) : (den h0).cls n = none := get_nil _

theorem rel0 (P : Program) (w : World) : Rel P (fun _ => none) (den h0) w where
  inv := ⟨fun b _ => den0_heap b, fun b c E cl rel h => (by rw [den0_heap] at h; cases h), fun c l h => (by rw [den0_cls] at h; cases h), Nat.le_refl _⟩
  lt := fun b i h => by cases h
  obj := fun b i o h => by cases h
  alias := fun b1 b2 i1 i2 _ h => by cases h
  here := fun b i h => by cases h

theorem kept_of {P : Program} {β' : Ren} {σ σ' : CW} {w w' : World} (h : Stp P (fun _ => Option.none) σ w β' σ' w') : Kept w w' :=
  ⟨fun B hB => h.afr B hB fun b i hb => (by cases hb), h.size, h.os, h.out⟩

/-- A run of a program without variables. -/
theorem run_plain {P : Program} (hP : ProgOk P) {T : Nat → Option CFun} (hT : OkT P T) (hg : P.globals.size = 0) {d f : Nat} {args : List Value} {v : Value} {σ' : CW} (h : CallN T d f args (den h0) v σ') (hargs : LRel P (fun _ => none) args args) (w : World) :
    Calls P f args.toArray w fun e w' => ∃ v' β', e = .returned v' ∧ VRel P β' v v' ∧ Kept w w' :=
  ((sim_calls_all hP hT d f args (den h0) v σ' (fun _ => none) w args h (rel0 P w) (fun g hg' => by omega) hargs).2).mono fun e w' ⟨v', β', h1, h2, h3⟩ => ⟨v', β', h1, h2, kept_of h3⟩

/-- .. that answers true -/
theorem run_true {P : Program} (hP : ProgOk P) {T : Nat → Option CFun} (hT : OkT P T) (hg : P.globals.size = 0) {d f : Nat} {args : List Value} {σ' : CW} (h : CallN T d f args (den h0) (.bool true) σ') (hargs : LRel P (fun _ => none) args args) (w : World) :
    Calls P f args.toArray w fun e w' => e = .returned (.bool true) ∧ Kept w w' :=
  (run_plain hP hT hg h hargs w).mono fun e w' ⟨v', β', h1, h2, h3⟩ => by rw [h2.bool_inv] at h1; exact ⟨h1, h3⟩

end Go.Cn
