/- From a contract to a row: what lay before lies as it lay. -/
import Derived.Test.YtdepohnidjndjaaCnSeat
import Derived.ChangeSame
namespace Go.Cn
set_option linter.unusedSimpArgs false
set_option linter.unusedVariables false
open Go.ChangeShapes Go.WideShapes

/-- what lay before lies as it lay -/
def Kept (w w' : World) : Prop := (∀ B, B < w.heap.size → w'.heap[B]? = w.heap[B]?) ∧ w.heap.size ≤ w'.heap.size ∧ w'.os = w.os ∧ w'.output = w.output

theorem Kept.but {w w' : World} (h : Kept w w') (may : MemPlace → Prop) : w.keptBut w' may := by
  refine ⟨h.2.2.1, h.2.2.2, fun i hi => ?_⟩
  rw [h.1 i hi]
  cases w.heap[i]? with
  | none => rfl
  | some o =>
    cases o with
    | cells c t fr => exact ⟨rfl, rfl, rfl, fun _ _ => rfl⟩
    | map es clock => exact .inr ⟨rfl, rfl⟩
    | _ => rfl

theorem Kept.frozen {w w' : World} (h : Kept w w') (a : Addr) (ha : a.block < w.heap.size) : w'.frozen? a = w.frozen? a := by
  unfold World.frozen?
  rw [h.1 _ ha]
theorem Kept.cell {w w' : World} (h : Kept w w') {a : Addr} {v : Value} (hc : w.cell? a = some v) : w'.cell? a = some v := by
  unfold World.cell? at hc ⊢
  rw [h.1]
  · exact hc
  · rcases Nat.lt_or_ge a.block w.heap.size with h1 | h1
    · exact h1
    · have : w.heap[a.block]? = none := Array.getElem?_eq_none h1
      rw [this] at hc
      simp at hc

/-- What is asked of the end of a run of which the old memory is as it was. -/
theorem post_of_kept {H : Type} {enc : TypeId × Value → H} {P : Program} {f : Func} {s : ChangeSpec} {apart fresh handsOn again : Bool} {W W' : World} {args : Array Value} {v : Value} {ds gs : List (DataW H)} {before pa pv : List MemPlace}
    (hW : DataW.Whole enc P f.params.toList s.vars apart W args.toList ds gs before)
    (hres : ∀ (b : Nat) (sp : Nat → Bool) (hd : Bool), DataW.TrodAll enc P W' b sp hd f.resultTypes.toList (v.resultList f.resultTypes.size) (s.fn H (ds ++ gs)).results [])
    (hargs : ∀ sp : Nat → Bool, (∀ p ∈ before, sp p.block = true) → DataW.TrodAll enc P W' 0 sp true f.params.toList args.toList (s.fn H (ds ++ gs)).args pa)
    (hvars : ∀ sp : Nat → Bool, (∀ p ∈ before, sp p.block = true) → DataW.TrodVars enc P W' sp s.vars (s.fn H (ds ++ gs)).vars pv)
    (hps : before = pa ++ pv) (hk : Kept W W')
    (hok : ∀ (j : Nat) (t : TypeId) (r : Value), f.resultTypes[j]? = some t → (v.resultList f.resultTypes.size)[j]? = some r → Value.okWide P W' .any 0 t r) :
    s.post enc P f apart fresh handsOn again W args v W' := by
  have hlt := hW.lt
  have hold : ∀ p ∈ before, (fun b => decide (b < W.heap.size)) p.block = true := fun p hp => by simpa using hlt p hp
  have hbp : ∀ p ∈ before, p ∈ pa ∨ p ∈ pv := fun p hp => by rw [hps] at hp; exact List.mem_append.1 hp
  refine ⟨ds, gs, before, [], pa, pv, hW, hres _ _ _, hargs _ hold, hvars _ hold, hk.but _, fun _ => ?_⟩
  obtain ⟨_, _, _, _, _, hz, hn⟩ := hW
  refine ⟨hok, _, _, ([] ++ pa) ++ pv, ⟨[] ++ pa, pv, trodAll_append (hargs _ (fun _ _ => rfl)) (hres _ _ _), hvars _ (fun _ _ => rfl), rfl, ?_, ?_⟩, ?_⟩
  · intro b off hp
    have hp' : MemPlace.cell b off ∈ before := by rw [hps]; simpa using hp
    rw [hk.frozen _ (hlt _ hp')]
    exact hz b off hp'
  · intro ha
    have := hn ha
    rw [hps] at this
    simpa using this
  · intro p hp _
    rw [hps]
    simpa using hp

/-- A row that is there when a run begins, and is only read: block, place in it, how many cells the block has, its type, the row's cells. -/
structure Row0 where
  B : Nat
  off : Nat
  N : Nat
  E : TypeId
  l : List Value

def Row0.ok (P : Program) (W : World) (r : Row0) : Prop :=
  ∃ c' fr, W.heap[r.B]? = some (.cells c' r.E fr) ∧ c'.size = r.N ∧ r.off + r.l.length ≤ r.N ∧ ∀ k v, r.l[k]? = some v → c'[r.off + k]? = some v ∧ ∀ β, VRel P β v v

def br (rs : List Row0) : Ren := fun b => (rs[b]?).map fun r => ⟨r.B, r.off, r.N, r.E, false⟩
def sr (rs : List Row0) : CW where
  heap := fun b => (rs[b]?).map fun r => .cells r.l r.E b 0
  next := rs.length
  ro := rs.length
  inj := 0
  cls := fun _ => none
def fr0 (rs : List Row0) : Nat → Nat := fun b => match rs[b]? with
  | some r => r.l.length
  | none => 0
def ah0 : AH := ⟨fun _ => none, fun _ => none⟩

theorem sr_heap {rs : List Row0} {b : Nat} {o : CObj} (h : (sr rs).heap b = some o) : ∃ r, rs[b]? = some r ∧ o = .cells r.l r.E b 0 := by
  simp only [sr, Option.map_eq_some_iff] at h
  obtain ⟨r, h1, h2⟩ := h
  exact ⟨r, h1, h2.symm⟩
theorem sr_mem {rs : List Row0} {cl : Nat} {m : Nat × Nat} : m ∈ (sr rs).members cl → ∃ r, rs[cl]? = some r ∧ m = (cl, r.l.length) := by
  intro hm
  have hn : (sr rs).cls cl = none := rfl
  obtain ⟨x, E, cl', rel, h1, h2⟩ := members_none hn hm
  obtain ⟨r, h3, h4⟩ := sr_heap h1
  cases h4
  exact ⟨r, h3, h2⟩
theorem sr_inv (rs : List Row0) : CInv (sr rs) where
  fresh := fun b hb => by
    show (rs[b]?).map _ = none
    rw [List.getElem?_eq_none hb]; rfl
  mem := fun b c E cl rel h => by
    obtain ⟨r, h1, h2⟩ := sr_heap h
    cases h2
    refine ⟨?_, (List.getElem?_eq_some_iff.1 h1).1⟩
    unfold CW.members
    show (b, 0 + r.l.length) ∈ (match (sr rs).heap b with | some (.cells l _ _ _) => [(b, l.length)] | _ => [])
    rw [h]; simp
  cls := fun c l h => by cases h
  rol := Nat.le_refl _
theorem sr_ar (rs : List Row0) : AR (fr0 rs) ah0 (sr rs) where
  inv := sr_inv rs
  mem := fun cl m hm => by
    obtain ⟨r, h1, rfl⟩ := sr_mem hm
    exact .inl ⟨r.l, r.E, 0, by show (rs[cl]?).map _ = _; rw [h1]; rfl, by simp⟩
  fro := fun b hb => by
    unfold fr0 at hb
    cases e : rs[b]? with
    | none => rw [e] at hb; simp at hb
    | some r => exact ⟨_, by show (rs[b]?).map _ = _; rw [e]; rfl, .inl ⟨_, _, _, _, rfl, by unfold fr0; rw [e]; exact Nat.le_refl _⟩⟩
  obj := fun b o h => by cases h
  tok := fun c k h => by cases h
  sep := fun b o h => by cases h

theorem sr_rel {P : Program} {W : World} {rs : List Row0} (h : ∀ r ∈ rs, r.ok P W) : Rel P (br rs) (sr rs) W where
  inv := sr_inv rs
  lt := fun b i hb => by
    simp only [br, Option.map_eq_some_iff] at hb
    obtain ⟨r, h1, rfl⟩ := hb
    obtain ⟨c', fr, h2, _⟩ := h r (List.mem_of_getElem? h1)
    refine ⟨(List.getElem?_eq_some_iff.1 h1).1, ?_⟩
    rcases Nat.lt_or_ge r.B W.heap.size with h3 | h3
    · exact h3
    · rw [Array.getElem?_eq_none h3] at h2; cases h2
  obj := fun b i o hb ho => by
    simp only [br, Option.map_eq_some_iff] at hb
    obtain ⟨r, h1, rfl⟩ := hb
    obtain ⟨r', h2, rfl⟩ := sr_heap ho
    rw [h1] at h2; cases h2
    obtain ⟨c', fr, h3, h4, h5, h6⟩ := h r (List.mem_of_getElem? h1)
    show ObjRel P _ _ _ W.heap[r.B]?
    rw [h3]
    exact ⟨rfl, rfl, h4, by show r.l.length + r.off ≤ r.N; omega, fun e => (by cases e), fun k v hk => ⟨v, by show c'[k + r.off]? = some v; rw [Nat.add_comm]; exact (h6 k v hk).1, (h6 k v hk).2 _⟩⟩
  alias := fun b1 b2 i1 i2 hne h1 h2 hB => by
    simp only [br, Option.map_eq_some_iff] at h1 h2
    obtain ⟨r1, g1, rfl⟩ := h1
    obtain ⟨r2, g2, rfl⟩ := h2
    have l1 := (List.getElem?_eq_some_iff.1 g1).1
    have l2 := (List.getElem?_eq_some_iff.1 g2).1
    refine ⟨⟨fun _ => l2, fun _ => l1⟩, ?_⟩
    have e1 : (sr rs).heap b1 = some (.cells r1.l r1.E b1 0) := by show (rs[b1]?).map _ = _; rw [g1]; rfl
    have e2 : (sr rs).heap b2 = some (.cells r2.l r2.E b2 0) := by show (rs[b2]?).map _ = _; rw [g2]; rfl
    rw [e1, e2]
    exact .inl ⟨l1, Nat.zero_le _, Nat.zero_le _⟩
  here := fun b i hb => by
    simp only [br, Option.map_eq_some_iff] at hb
    obtain ⟨r, h1, rfl⟩ := hb
    exact ⟨_, by show (rs[b]?).map _ = _; rw [h1]; rfl⟩
  iters := fun r ir m ver seen _ ho => by obtain ⟨_, _, h⟩ := sr_heap ho; cases h
  wr := fun b i hb hr => by
    simp only [br, Option.map_eq_some_iff] at hb
    obtain ⟨r, h1, rfl⟩ := hb
    have l1 := (List.getElem?_eq_some_iff.1 h1).1
    have : rs.length ≤ b ∨ b < 0 := hr
    omega

theorem kept_of {P : Program} {rs : List Row0} {β' : Ren} {σ' : CW} {w w' : World} (h : Stp P (br rs) (sr rs) w β' σ' w') : Kept w w' :=
  ⟨fun B hB => h.afr B hB fun b i hb hr => by
    simp only [br, Option.map_eq_some_iff] at hb
    obtain ⟨r, h1, rfl⟩ := hb
    have l1 := (List.getElem?_eq_some_iff.1 h1).1
    have : rs.length ≤ b := hr
    omega, h.size, h.os, h.out⟩

/-- A run that answers true, from its contract. -/
theorem run_A {P : Program} (hP : ProgOk P) {T : Nat → Option CFun} (hT : OkT P T) (hg : P.globals.size = 0) {f : Nat} {args : List AV} {argsC argsM : List Value} {rs : List Row0} {W : World} (hc : Pure T f args (.bool true))
    (hr : ∀ r ∈ rs, r.ok P W) (ha : RpL (fr0 rs) (sr rs) args argsC) (hm : LRel P (br rs) argsC argsM) : Calls P f argsM.toArray W fun e W' => e = .returned (.bool true) ∧ Kept W W' := by
  have h1 := hc (fun _ => False) ah0 (fr0 rs) (sr rs) argsC (sr_ar rs) (fun b hb => hb.elim) ha
  have h2 := ((CallA.sim hP hT).func h1 (sr_rel hr) (fun g hg' => by omega) hm).2
  refine (callsIn_wide.1 h2).mono fun e W' ⟨v, v', β', σ', ⟨F', a, h', _, _, _, hv, hq, _⟩, he, hvr, hs⟩ => ⟨?_, kept_of hs⟩
  subst hq
  have := hv.bool_inv
  subst this
  rw [he, hvr.bool_inv]

/-- a slice of numbers that is only read -/
theorem ints_rel {P : Program} {rs : List Row0} {b : Nat} {r : Row0} (hb : rs[b]? = some r) {len cap : Nat} (hl : len ≤ cap) : VRel P (br rs) (.slice (some ⟨b, 0, none⟩) len cap) (.slice (some ⟨r.B, r.off, none⟩) len cap) :=
  .slice hl (Nat.le_refl _) (.inr ⟨_, by show (rs[b]?).map _ = _; rw [hb]; rfl, by simp, .inl rfl⟩)
theorem ints_rp {rs : List Row0} {b : Nat} {r : Row0} (hb : rs[b]? = some r) {k : IntKind} {zs : List Int} {cap : Nat} (hr : r.l = zs.map fun n => .int k n) (hl : zs.length ≤ cap) (hB : zs.length ≤ big) :
    Rp (fr0 rs) (sr rs) (.lst r.E (zs.map fun n => [.int k n]) .no) (.slice (some ⟨b, 0, none⟩) zs.length cap) := by
  by_cases h0 : zs = []
  · subst h0; exact .lstE _ _ _ _
  · have h1 : (sr rs).heap b = some (.cells r.l r.E b 0) := by show (rs[b]?).map _ = _; rw [hb]; rfl
    have hlen : r.l.length = zs.length := by rw [hr, List.length_map]
    have hF : fr0 rs b = zs.length := by unfold fr0; rw [hb]; exact hlen
    have := Rp.lst (F := fr0 rs) (σ := sr rs) (E := r.E) (es := zs.map fun n => [AV.int k n]) (t := .no) (b := b) (off := 0) (cap := cap) (sz := 1) h1 (by simpa using h0) (by omega) (by simp) (by rw [List.length_map, hF]; omega) (by rw [List.length_map, hlen]; omega) (by rw [List.length_map]; exact hl) (by rw [List.length_map]; exact hB) (.inl rfl) (fun i x y hi hy => ?_)
    · simpa only [List.length_map] using this
    · have e1 : (zs.map fun n => [AV.int k n]).flatten = zs.map fun n => AV.int k n := by
        clear hr hl hB h0 hlen hF hi
        induction zs with
        | nil => rfl
        | cons a l ih => simp only [List.map_cons, List.flatten_cons, ih]; rfl
      rw [e1] at hi
      rw [hr, Nat.zero_add, List.getElem?_map] at hy
      rw [List.getElem?_map] at hi
      cases hz : zs[i]? <;> rw [hz] at hi hy <;> simp at hi hy
      subst hi hy; exact .int _ _

/-- A function of a slice of numbers: its contract where it is short, and where it is long. -/
theorem run_ints {P : Program} (hP : ProgOk P) {T : Nat → Option CFun} (hT : OkT P T) (hg : P.globals.size = 0) {f : Nat} {k : IntKind} {N : Nat} (hN : N ≤ big) (hs : ∀ (E : TypeId) (zs : List Int), zs.length ≤ N → Pure T f [.lst E (zs.map fun n => [.int k n]) .no] (.bool true))
    (hL : ∀ b o n c, N < n → Pure T f [.slice b o n c] (.bool true)) {W : World} {a : Addr} {len cap : Nat} {zs : List Int} (hle : len ≤ cap) (hz : zs.length = cap) (hcell : ∀ i, i < zs.length → W.cell? (a.add i) = some (.int k (zs.getD i 0))) :
    Calls P f #[.slice (some a) len cap] W fun e W' => e = .returned (.bool true) ∧ Kept W W' := by
  have one : ∀ {β : Ren} {x y : Value}, VRel P β x y → LRel P β [x] [y] := fun h => ⟨rfl, fun i x y hx hy => by
    match i, hx, hy with
    | 0, hx, hy => simp at hx hy; subst hx hy; exact h⟩
  by_cases h0 : cap = 0
  · subst h0
    have hl0 : len = 0 := by omega
    subst hl0
    exact run_A hP hT hg (rs := []) (argsC := [.slice (some ⟨0, 0, none⟩) 0 0]) (argsM := [.slice (some a) 0 0]) (hs 0 [] (Nat.zero_le _)) (by simp) (.cons (.lstE _ _ _ _) .nil) (one (.slice (Nat.le_refl _) (Nat.le_refl _) (.inl rfl)))
  · have hpos : 0 < zs.length := by omega
    have hc0 := hcell 0 hpos
    obtain ⟨b, off, spot⟩ := a
    simp only [Addr.add, if_true] at hc0
    unfold World.cell? at hc0
    split at hc0
    case h_2 => cases hc0
    rename_i c' E fr hB
    cases spot with
    | some x => simp at hc0
    | none =>
      have hB' : W.heap[b]? = some (.cells c' E fr) := hB
      have hall : ∀ i, i < zs.length → c'[off + i]? = some (.int k (zs.getD i 0)) := by
        intro i hi
        have h1 := hcell i hi
        have e : (Addr.add ⟨b, off, none⟩ i) = ⟨b, off + i, none⟩ := by
          unfold Addr.add
          split
          · rename_i e; subst e; rfl
          · rfl
        rw [e] at h1
        unfold World.cell? at h1
        simp only [hB'] at h1
        simpa using h1
      have hoff : off + len ≤ c'.size := by
        by_cases hl0 : len = 0
        · subst hl0
          have := (Array.getElem?_eq_some_iff.1 (hall 0 hpos)).1
          omega
        · have := (Array.getElem?_eq_some_iff.1 (hall (len - 1) (by omega))).1
          omega
      have hlen : (zs.take len).length = len := by simp; omega
      have hrow : ∀ r ∈ [(⟨b, off, c'.size, E, (zs.take len).map fun n => .int k n⟩ : Row0)], r.ok P W := by
        intro r hr
        simp only [List.mem_singleton] at hr
        subst hr
        refine ⟨c', fr, hB', rfl, by show off + ((zs.take len).map _).length ≤ c'.size; rw [List.length_map, hlen]; exact hoff, fun i v hv => ?_⟩
        simp only [List.getElem?_map, Option.map_eq_some_iff] at hv
        obtain ⟨n, hn, rfl⟩ := hv
        have hil : i < len := by rw [← hlen]; exact (List.getElem?_eq_some_iff.1 hn).1
        refine ⟨?_, fun β => .int _ _⟩
        show c'[off + i]? = _
        rw [hall i (by omega)]
        rw [List.getElem?_take, if_pos hil] at hn
        simp [List.getD, hn]
      have hm := one (ints_rel (P := P) (rs := [⟨b, off, c'.size, E, (zs.take len).map fun n => .int k n⟩]) (b := 0) rfl hle)
      by_cases hl : len ≤ N
      · have hrp := ints_rp (rs := [⟨b, off, c'.size, E, (zs.take len).map fun n => .int k n⟩]) (b := 0) (k := k) (zs := zs.take len) (cap := cap) rfl rfl (by omega) (by omega)
        rw [hlen] at hrp
        exact run_A hP hT hg (hs E (zs.take len) (by omega)) hrow (.cons hrp .nil) hm
      · exact run_A hP hT hg (hL 0 0 len cap (by omega)) hrow (.cons (.slice hle) .nil) hm

theorem run_intsNil {P : Program} (hP : ProgOk P) {T : Nat → Option CFun} (hT : OkT P T) (hg : P.globals.size = 0) {f : Nat} {k : IntKind} {N : Nat} (hs : ∀ (E : TypeId) (zs : List Int), zs.length ≤ N → Pure T f [.lst E (zs.map fun n => [.int k n]) .no] (.bool true)) {W : World} :
    Calls P f #[.slice none 0 0] W fun e W' => e = .returned (.bool true) ∧ Kept W W' :=
  run_A hP hT hg (rs := []) (argsC := [.slice none 0 0]) (argsM := [.slice none 0 0]) (hs 0 [] (Nat.zero_le _)) (by simp) (.cons (.lstN _) .nil) ⟨rfl, fun i x y hx hy => by
    match i, hx, hy with
    | 0, hx, hy => simp at hx hy; subst hx hy; exact .nilSlice⟩

end Go.Cn
