/- From a contract to a row: what lay before lies as it lay. -/
import Derived.Test.YtfagmflapdgcmaaDoorCnSeat
import Derived.ChangeSame
import Derived.Test.YtfagmflapdgcmaaDoorCnA15
import Derived.Test.YtfagmflapdgcmaaDoorCnA17
namespace Go.Cn
set_option linter.unusedSimpArgs false
set_option linter.unusedVariables false
open Go.ChangeShapes Go.WideShapes

/-- what lay before lies as it lay -/
def Kept (w w' : World) : Prop := (∀ B, B < w.heap.size → w'.heap[B]? = w.heap[B]?) ∧ w.heap.size ≤ w'.heap.size ∧ w'.os = w.os ∧ w'.output = w.output

theorem Kept.but {w w' : World} (h : Kept w w') (may : MemPlace → Prop) : w.keptBut w' may := by
  refine ⟨h.2.2.1, h.2.2.2, fun i hi => ?_⟩
  rw [h.1 i hi]
  cases w.heap[i]? with
  | none => rfl
  | some o =>
    cases o with
    | cells c t fr => exact ⟨rfl, rfl, rfl, fun _ _ => rfl⟩
    | map es clock => exact .inr ⟨rfl, rfl⟩
    | _ => rfl

theorem Kept.frozen {w w' : World} (h : Kept w w') (a : Addr) (ha : a.block < w.heap.size) : w'.frozen? a = w.frozen? a := by
  unfold World.frozen?
  rw [h.1 _ ha]
theorem Kept.cell {w w' : World} (h : Kept w w') {a : Addr} {v : Value} (hc : w.cell? a = some v) : w'.cell? a = some v := by
  unfold World.cell? at hc ⊢
  rw [h.1]
  · exact hc
  · rcases Nat.lt_or_ge a.block w.heap.size with h1 | h1
    · exact h1
    · have : w.heap[a.block]? = none := Array.getElem?_eq_none h1
      rw [this] at hc
      simp at hc

/-- What is asked of the end of a run of which the old memory is as it was. -/
theorem post_of_kept {H : Type} {enc : TypeId × Value → H} {P : Program} {f : Func} {s : ChangeSpec} {apart fresh handsOn again : Bool} {W W' : World} {args : Array Value} {v : Value} {ds gs : List (DataW H)} {before pa pv : List MemPlace}
    (hW : DataW.Whole enc P f.params.toList s.vars apart W args.toList ds gs before)
    (hres : ∀ (b : Nat) (sp : Nat → Bool) (hd : Bool), DataW.TrodAll enc P W' b sp hd f.resultTypes.toList (v.resultList f.resultTypes.size) (s.fn H (ds ++ gs)).results [])
    (hargs : ∀ sp : Nat → Bool, (∀ p ∈ before, sp p.block = true) → DataW.TrodAll enc P W' 0 sp true f.params.toList args.toList (s.fn H (ds ++ gs)).args pa)
    (hvars : ∀ sp : Nat → Bool, (∀ p ∈ before, sp p.block = true) → DataW.TrodVars enc P W' sp s.vars (s.fn H (ds ++ gs)).vars pv)
    (hps : before = pa ++ pv) (hk : Kept W W')
    (hok : ∀ (j : Nat) (t : TypeId) (r : Value), f.resultTypes[j]? = some t → (v.resultList f.resultTypes.size)[j]? = some r → Value.okWide P W' .any 0 t r) :
    s.post enc P f apart fresh handsOn again W args v W' := by
  have hlt := hW.lt
  have hold : ∀ p ∈ before, (fun b => decide (b < W.heap.size)) p.block = true := fun p hp => by simpa using hlt p hp
  have hbp : ∀ p ∈ before, p ∈ pa ∨ p ∈ pv := fun p hp => by rw [hps] at hp; exact List.mem_append.1 hp
  refine ⟨ds, gs, before, [], pa, pv, hW, hres _ _ _, hargs _ hold, hvars _ hold, hk.but _, fun _ => ?_⟩
  obtain ⟨_, _, _, _, _, hz, hn⟩ := hW
  refine ⟨hok, _, _, ([] ++ pa) ++ pv, ⟨[] ++ pa, pv, trodAll_append (hargs _ (fun _ _ => rfl)) (hres _ _ _), hvars _ (fun _ _ => rfl), rfl, ?_, ?_⟩, ?_⟩
  · intro b off hp
    have hp' : MemPlace.cell b off ∈ before := by rw [hps]; simpa using hp
    rw [hk.frozen _ (hlt _ hp')]
    exact hz b off hp'
  · intro ha
    have := hn ha
    rw [hps] at this
    simpa using this
  · intro p hp _
    rw [hps]
    simpa using hp

/-- A row that is there when a run begins, and is only read: block, place in it, how many cells the block has, its type, the row's cells. -/
structure Row0 where
  B : Nat
  off : Nat
  N : Nat
  E : TypeId
  l : List Value

def Row0.ok (P : Program) (W : World) (r : Row0) : Prop :=
  ∃ c' fr, W.heap[r.B]? = some (.cells c' r.E fr) ∧ c'.size = r.N ∧ r.off + r.l.length ≤ r.N ∧ ∀ k v, r.l[k]? = some v → c'[r.off + k]? = some v ∧ ∀ β, VRel P β v v

def br (rs : List Row0) : Ren := fun b => (rs[b]?).map fun r => ⟨r.B, r.off, r.N, r.E, false⟩
def sr (rs : List Row0) : CW where
  heap := fun b => (rs[b]?).map fun r => .cells r.l r.E b 0
  next := rs.length
  ro := rs.length
  inj := 0
  cls := fun _ => none
theorem sr_heap {rs : List Row0} {b : Nat} {o : CObj} (h : (sr rs).heap b = some o) : ∃ r, rs[b]? = some r ∧ o = .cells r.l r.E b 0 := by
  simp only [sr, Option.map_eq_some_iff] at h
  obtain ⟨r, h1, h2⟩ := h
  exact ⟨r, h1, h2.symm⟩
theorem sr_inv (rs : List Row0) : CInv (sr rs) where
  fresh := fun b hb => by
    show (rs[b]?).map _ = none
    rw [List.getElem?_eq_none hb]; rfl
  mem := fun b c E cl rel h => by
    obtain ⟨r, h1, h2⟩ := sr_heap h
    cases h2
    refine ⟨?_, (List.getElem?_eq_some_iff.1 h1).1⟩
    unfold CW.members
    show (b, 0 + r.l.length) ∈ (match (sr rs).heap b with | some (.cells l _ _ _) => [(b, l.length)] | _ => [])
    rw [h]; simp
  cls := fun c l h => by cases h
  rol := Nat.le_refl _
theorem sr_rel {P : Program} {W : World} {rs : List Row0} (h : ∀ r ∈ rs, r.ok P W) : Rel P (br rs) (sr rs) W where
  inv := sr_inv rs
  lt := fun b i hb => by
    simp only [br, Option.map_eq_some_iff] at hb
    obtain ⟨r, h1, rfl⟩ := hb
    obtain ⟨c', fr, h2, _⟩ := h r (List.mem_of_getElem? h1)
    refine ⟨(List.getElem?_eq_some_iff.1 h1).1, ?_⟩
    rcases Nat.lt_or_ge r.B W.heap.size with h3 | h3
    · exact h3
    · rw [Array.getElem?_eq_none h3] at h2; cases h2
  obj := fun b i o hb ho => by
    simp only [br, Option.map_eq_some_iff] at hb
    obtain ⟨r, h1, rfl⟩ := hb
    obtain ⟨r', h2, rfl⟩ := sr_heap ho
    rw [h1] at h2; cases h2
    obtain ⟨c', fr, h3, h4, h5, h6⟩ := h r (List.mem_of_getElem? h1)
    show ObjRel P _ _ _ W.heap[r.B]?
    rw [h3]
    exact ⟨rfl, rfl, h4, by show r.l.length + r.off ≤ r.N; omega, fun e => (by cases e), fun k v hk => ⟨v, by show c'[k + r.off]? = some v; rw [Nat.add_comm]; exact (h6 k v hk).1, (h6 k v hk).2 _⟩⟩
  alias := fun b1 b2 i1 i2 hne h1 h2 hB => by
    simp only [br, Option.map_eq_some_iff] at h1 h2
    obtain ⟨r1, g1, rfl⟩ := h1
    obtain ⟨r2, g2, rfl⟩ := h2
    have l1 := (List.getElem?_eq_some_iff.1 g1).1
    have l2 := (List.getElem?_eq_some_iff.1 g2).1
    refine ⟨⟨fun _ => l2, fun _ => l1⟩, ?_⟩
    have e1 : (sr rs).heap b1 = some (.cells r1.l r1.E b1 0) := by show (rs[b1]?).map _ = _; rw [g1]; rfl
    have e2 : (sr rs).heap b2 = some (.cells r2.l r2.E b2 0) := by show (rs[b2]?).map _ = _; rw [g2]; rfl
    rw [e1, e2]
    exact .inl ⟨l1, .inl ⟨Nat.zero_le _, Nat.zero_le _⟩⟩
  here := fun b i hb => by
    simp only [br, Option.map_eq_some_iff] at hb
    obtain ⟨r, h1, rfl⟩ := hb
    exact ⟨_, by show (rs[b]?).map _ = _; rw [h1]; rfl⟩
  iters := fun r ir m ver seen _ ho => by obtain ⟨_, _, h⟩ := sr_heap ho; cases h
  wr := ⟨fun b hb => absurd hb (Nat.not_lt_zero b), fun b i hb hr => by
    simp only [br, Option.map_eq_some_iff] at hb
    obtain ⟨r, h1, rfl⟩ := hb
    have l1 := (List.getElem?_eq_some_iff.1 h1).1
    have : rs.length ≤ b ∨ b < 0 := hr
    omega⟩

theorem kept_of {P : Program} {rs : List Row0} {β' : Ren} {σ' : CW} {w w' : World} (h : Stp P (br rs) (sr rs) w β' σ' w') : Kept w w' :=
  ⟨fun B hB => h.afr B hB fun b i hb hr => by
    simp only [br, Option.map_eq_some_iff] at hb
    obtain ⟨r, h1, rfl⟩ := hb
    have l1 := (List.getElem?_eq_some_iff.1 h1).1
    have : rs.length ≤ b := hr
    omega, h.size, h.os, h.out⟩


end Go.Cn

namespace Go.Cn
set_option linter.unusedSimpArgs false
set_option linter.unusedVariables false
open Go.ChangeShapes Go.WideShapes

def fr0 (rs : List Row0) : Nat → Nat := fun b => match rs[b]? with
  | some r => r.l.length
  | none => 0
def ah0 : AH := ⟨fun _ => none, fun _ => none⟩

theorem sr_mem {rs : List Row0} {cl : Nat} {m : Nat × Nat} : m ∈ (sr rs).members cl → ∃ r, rs[cl]? = some r ∧ m = (cl, r.l.length) := by
  intro hm
  have hn : (sr rs).cls cl = none := rfl
  obtain ⟨x, E, cl', rel, h1, h2⟩ := members_none hn hm
  obtain ⟨r, h3, h4⟩ := sr_heap h1
  cases h4
  exact ⟨r, h3, h2⟩
theorem sr_ar (rs : List Row0) : AR (fr0 rs) ah0 (sr rs) where
  inv := sr_inv rs
  mem := fun cl m hm => by
    obtain ⟨r, h1, rfl⟩ := sr_mem hm
    exact .inl ⟨r.l, r.E, 0, by show (rs[cl]?).map _ = _; rw [h1]; rfl, by simp⟩
  fro := fun b hb => by
    unfold fr0 at hb
    cases e : rs[b]? with
    | none => rw [e] at hb; simp at hb
    | some r => exact ⟨_, by show (rs[b]?).map _ = _; rw [e]; rfl, .inl ⟨_, _, _, _, rfl, by unfold fr0; rw [e]; exact Nat.le_refl _⟩⟩
  obj := fun b o h => by cases h
  tok := fun c k h => by cases h
  sep := fun b o h => by cases h
  own := fun b cs E h => by cases h

/-- A run that answers true, from its contract. -/
theorem run_A {P : Program} (hP : ProgOk P) {T : Nat → Option CFun} (hT : OkT P T) (hg : P.globals.size = 0) {f : Nat} {args : List AV} {argsC argsM : List Value} {rs : List Row0} {W : World} (hc : Pure T f args (.bool true))
    (hr : ∀ r ∈ rs, r.ok P W) (ha : RpL (fr0 rs) (sr rs) args argsC) (hm : LRel P (br rs) argsC argsM) : Calls P f argsM.toArray W fun e W' => e = .returned (.bool true) ∧ Kept W W' := by
  have h1 := hc (fun _ => False) ah0 (fr0 rs) (sr rs) argsC (sr_ar rs) (fun b hb => hb.elim) ha
  have h2 := ((CallA.sim hP hT).func h1 (sr_rel hr) (fun g hg' => by omega) hm).2
  refine (callsIn_wide.1 h2).mono fun e W' ⟨v, v', β', σ', ⟨F', a, h', _, _, _, hv, hq, _⟩, he, hvr, hs⟩ => ⟨?_, kept_of hs⟩
  subst hq
  have := hv.bool_inv
  subst this
  rw [he, hvr.bool_inv]

/-- a slice of numbers that is only read -/
theorem ints_rel {P : Program} {rs : List Row0} {b : Nat} {r : Row0} (hb : rs[b]? = some r) {len cap : Nat} (hl : len ≤ cap) : VRel P (br rs) (.slice (some ⟨b, 0, none⟩) len cap) (.slice (some ⟨r.B, r.off, none⟩) len cap) :=
  .slice hl (Nat.le_refl _) (.inr ⟨_, by show (rs[b]?).map _ = _; rw [hb]; rfl, by simp, .inl rfl⟩)
theorem ints_rp {rs : List Row0} {b : Nat} {r : Row0} (hb : rs[b]? = some r) {k : IntKind} {zs : List Int} {cap : Nat} (hr : r.l = zs.map fun n => .int k n) (hl : zs.length ≤ cap) (hB : zs.length ≤ big) :
    Rp (fr0 rs) (sr rs) (.lst r.E (zs.map fun n => [.int k n]) .no) (.slice (some ⟨b, 0, none⟩) zs.length cap) := by
  by_cases h0 : zs = []
  · subst h0; exact .lstE _ _ _ _
  · have h1 : (sr rs).heap b = some (.cells r.l r.E b 0) := by show (rs[b]?).map _ = _; rw [hb]; rfl
    have hlen : r.l.length = zs.length := by rw [hr, List.length_map]
    have hF : fr0 rs b = zs.length := by unfold fr0; rw [hb]; exact hlen
    have := Rp.lst (F := fr0 rs) (σ := sr rs) (E := r.E) (es := zs.map fun n => [AV.int k n]) (t := .no) (b := b) (off := 0) (cap := cap) (sz := 1) h1 (by simpa using h0) (by omega) (by simp) (by rw [List.length_map, hF]; omega) (by rw [List.length_map, hlen]; omega) (by rw [List.length_map]; exact hl) (by rw [List.length_map]; exact hB) (.inl rfl) (fun i x y hi hy => ?_)
    · simpa only [List.length_map] using this
    · have e1 : (zs.map fun n => [AV.int k n]).flatten = zs.map fun n => AV.int k n := by
        clear hr hl hB h0 hlen hF hi
        induction zs with
        | nil => rfl
        | cons a l ih => simp only [List.map_cons, List.flatten_cons, ih]; rfl
      rw [e1] at hi
      rw [hr, Nat.zero_add, List.getElem?_map] at hy
      rw [List.getElem?_map] at hi
      cases hz : zs[i]? <;> rw [hz] at hi hy <;> simp at hi hy
      subst hi hy; exact .int _ _

/-- A function of a slice of numbers: its contract where it is short, and where it is long. -/
theorem run_ints {P : Program} (hP : ProgOk P) {T : Nat → Option CFun} (hT : OkT P T) (hg : P.globals.size = 0) {f : Nat} {k : IntKind} {N : Nat} (hN : N ≤ big) (hs : ∀ (E : TypeId) (zs : List Int), zs.length ≤ N → Pure T f [.lst E (zs.map fun n => [.int k n]) .no] (.bool true))
    (hL : ∀ b o n c, N < n → Pure T f [.slice b o n c] (.bool true)) {W : World} {a : Addr} {len cap : Nat} {zs : List Int} (hle : len ≤ cap) (hz : zs.length = cap) (hcell : ∀ i, i < zs.length → W.cell? (a.add i) = some (.int k (zs.getD i 0))) :
    Calls P f #[.slice (some a) len cap] W fun e W' => e = .returned (.bool true) ∧ Kept W W' := by
  have one : ∀ {β : Ren} {x y : Value}, VRel P β x y → LRel P β [x] [y] := fun h => ⟨rfl, fun i x y hx hy => by
    match i, hx, hy with
    | 0, hx, hy => simp at hx hy; subst hx hy; exact h⟩
  by_cases h0 : cap = 0
  · subst h0
    have hl0 : len = 0 := by omega
    subst hl0
    exact run_A hP hT hg (rs := []) (argsC := [.slice (some ⟨0, 0, none⟩) 0 0]) (argsM := [.slice (some a) 0 0]) (hs 0 [] (Nat.zero_le _)) (by simp) (.cons (.lstE _ _ _ _) .nil) (one (.slice (Nat.le_refl _) (Nat.le_refl _) (.inl rfl)))
  · have hpos : 0 < zs.length := by omega
    have hc0 := hcell 0 hpos
    obtain ⟨b, off, spot⟩ := a
    simp only [Addr.add, if_true] at hc0
    unfold World.cell? at hc0
    split at hc0
    case h_2 => cases hc0
    rename_i c' E fr hB
    cases spot with
    | some x => simp at hc0
    | none =>
      have hB' : W.heap[b]? = some (.cells c' E fr) := hB
      have hall : ∀ i, i < zs.length → c'[off + i]? = some (.int k (zs.getD i 0)) := by
        intro i hi
        have h1 := hcell i hi
        have e : (Addr.add ⟨b, off, none⟩ i) = ⟨b, off + i, none⟩ := by
          unfold Addr.add
          split
          · rename_i e; subst e; rfl
          · rfl
        rw [e] at h1
        unfold World.cell? at h1
        simp only [hB'] at h1
        simpa using h1
      have hoff : off + len ≤ c'.size := by
        by_cases hl0 : len = 0
        · subst hl0
          have := (Array.getElem?_eq_some_iff.1 (hall 0 hpos)).1
          omega
        · have := (Array.getElem?_eq_some_iff.1 (hall (len - 1) (by omega))).1
          omega
      have hlen : (zs.take len).length = len := by simp; omega
      have hrow : ∀ r ∈ [(⟨b, off, c'.size, E, (zs.take len).map fun n => .int k n⟩ : Row0)], r.ok P W := by
        intro r hr
        simp only [List.mem_singleton] at hr
        subst hr
        refine ⟨c', fr, hB', rfl, by show off + ((zs.take len).map _).length ≤ c'.size; rw [List.length_map, hlen]; exact hoff, fun i v hv => ?_⟩
        simp only [List.getElem?_map, Option.map_eq_some_iff] at hv
        obtain ⟨n, hn, rfl⟩ := hv
        have hil : i < len := by rw [← hlen]; exact (List.getElem?_eq_some_iff.1 hn).1
        refine ⟨?_, fun β => .int _ _⟩
        show c'[off + i]? = _
        rw [hall i (by omega)]
        rw [List.getElem?_take, if_pos hil] at hn
        simp [List.getD, hn]
      have hm := one (ints_rel (P := P) (rs := [⟨b, off, c'.size, E, (zs.take len).map fun n => .int k n⟩]) (b := 0) rfl hle)
      by_cases hl : len ≤ N
      · have hrp := ints_rp (rs := [⟨b, off, c'.size, E, (zs.take len).map fun n => .int k n⟩]) (b := 0) (k := k) (zs := zs.take len) (cap := cap) rfl rfl (by omega) (by omega)
        rw [hlen] at hrp
        exact run_A hP hT hg (hs E (zs.take len) (by omega)) hrow (.cons hrp .nil) hm
      · exact run_A hP hT hg (hL 0 0 len cap (by omega)) hrow (.cons (.slice hle) .nil) hm

theorem run_intsNil {P : Program} (hP : ProgOk P) {T : Nat → Option CFun} (hT : OkT P T) (hg : P.globals.size = 0) {f : Nat} {k : IntKind} {N : Nat} (hs : ∀ (E : TypeId) (zs : List Int), zs.length ≤ N → Pure T f [.lst E (zs.map fun n => [.int k n]) .no] (.bool true)) {W : World} :
    Calls P f #[.slice none 0 0] W fun e W' => e = .returned (.bool true) ∧ Kept W W' :=
  run_A hP hT hg (rs := []) (argsC := [.slice none 0 0]) (argsM := [.slice none 0 0]) (hs 0 [] (Nat.zero_le _)) (by simp) (.cons (.lstN _) .nil) ⟨rfl, fun i x y hx hy => by
    match i, hx, hy with
    | 0, hx, hy => simp at hx hy; subst hx hy; exact .nilSlice⟩

end Go.Cn

namespace Go.Cn.Dr
set_option linter.unusedVariables false
set_option linter.unusedSimpArgs false

/-- a variable's place among the variables, its error's text -/
abbrev Sen := Nat × List UInt8

section
variable (G : Nat) (tp : TypeId) (gs : List Sen) (E : Nat → TypeId)
def senAt (b : Nat) : List Sen → Nat → Option Nat
  | [], _ => none
  | s :: l, i => if s.1 = b then some i else senAt b l (i + 1)
def gRow (b : Nat) : CObj := match senAt b gs 0 with
  | some i => .cells [.iface tp (.pointer (some ⟨G + i, 0, none⟩))] (E b) b 0
  | none => .dead
/-- what lies at a place ahead of a run -/
def rowD (b : Nat) : Option CObj := if b < G then some (gRow G tp gs E b) else (gs[b - G]?).map fun s => .cells [.string ⟨⟨s.2⟩⟩] (E b) b 0
def dC : CW where
  heap := rowD G tp gs E
  next := G + gs.length
  ro := G + gs.length
  inj := G + gs.length
  cls := fun _ => none
end

theorem senAt_some {b : Nat} : ∀ {l : List Sen} {k i : Nat}, senAt b l k = some i → ∃ s, k ≤ i ∧ l[i - k]? = some s ∧ s.1 = b
  | [], k, i, h => by cases h
  | s :: l, k, i, h => by
    simp only [senAt] at h
    split at h
    · rename_i e; cases h; exact ⟨s, Nat.le_refl _, by simp, e⟩
    · obtain ⟨t, h1, h2, h3⟩ := senAt_some h
      refine ⟨t, by omega, ?_, h3⟩
      rw [show i - k = (i - (k + 1)) + 1 by omega]; simpa using h2

/-- How the variables lie. 'A': where an error is, 'N': how many cells its block has. -/
structure DoorW (P : Program) (W : World) (G : Nat) (tp : TypeId) (gs : List Sen) (E : Nat → TypeId) (A : Nat → Addr) (N : Nat → Nat) : Prop where
  gsize : P.globals.size = G
  size : G ≤ W.heap.size
  glob : ∀ (i : Nat) (s : Sen), gs[i]? = some s → s.1 < G ∧ W.heap[s.1]? = some (Obj.cells #[.iface tp (.pointer (some (A i)))] (E s.1) (0, 0)) ∧ P.underlying (E s.1) ≠ some (.int .u8)
  ptr : ∀ (i : Nat) (s : Sen), gs[i]? = some s → (A i).spot = none ∧ ∃ c, W.heap[(A i).block]? = some (Obj.cells c (E (G + i)) (0, 0)) ∧ c.size = N i ∧ c[(A i).off]? = some (Value.string ⟨⟨s.2⟩⟩) ∧ P.underlying (E (G + i)) ≠ some (.int .u8)
  dis : ∀ (i j : Nat) (s t : Sen), i ≠ j → gs[i]? = some s → gs[j]? = some t → s.2 ≠ t.2
  utp : P.underlying tp ≠ some (.int .u8)

def bD (G : Nat) (tp : TypeId) (gs : List Sen) (E : Nat → TypeId) (A : Nat → Addr) (N : Nat → Nat) : Ren := fun b =>
  if b < G then match senAt b gs 0 with
    | some i => some ⟨b, 0, 1, E b, true⟩
    | none => some ⟨b, 0, 0, tp, true⟩
  else match gs[b - G]? with
    | some s => some ⟨(A (b - G)).block, (A (b - G)).off, N (b - G), E b, true⟩
    | none => none

section
variable {P : Program} {W : World} {G : Nat} {tp : TypeId} {gs : List Sen} {E : Nat → TypeId} {A : Nat → Addr} {N : Nat → Nat}

/-- the three kinds of rows -/
inductive RowK (W : World) (G : Nat) (tp : TypeId) (gs : List Sen) (E : Nat → TypeId) (A : Nat → Addr) (N : Nat → Nat) (b : Nat) (i : BI) : CObj → Prop where
  | free (hb : b < G) (hi : i = ⟨b, 0, 0, tp, true⟩) : RowK W G tp gs E A N b i .dead
  | glob (k : Nat) (s : Sen) (hb : b < G) (hk : gs[k]? = some s) (hs : s.1 = b) (hi : i = ⟨b, 0, 1, E b, true⟩) : RowK W G tp gs E A N b i (.cells [.iface tp (.pointer (some ⟨G + k, 0, none⟩))] (E b) b 0)
  | sen (k : Nat) (s : Sen) (hb : b = G + k) (hk : gs[k]? = some s) (hi : i = ⟨(A k).block, (A k).off, N k, E b, true⟩) : RowK W G tp gs E A N b i (.cells [.string ⟨⟨s.2⟩⟩] (E b) b 0)

theorem bD_row {b : Nat} {i : BI} (h : bD G tp gs E A N b = some i) : ∃ o, rowD G tp gs E b = some o ∧ RowK W G tp gs E A N b i o := by
  unfold rowD
  unfold bD at h
  by_cases hb : b < G
  · rw [if_pos hb] at h ⊢
    refine ⟨_, rfl, ?_⟩
    unfold gRow
    cases e : senAt b gs 0 with
    | none => rw [e] at h; cases h; exact .free hb rfl
    | some k =>
      rw [e] at h; cases h
      obtain ⟨s, _, h2, h3⟩ := senAt_some e
      exact .glob k s hb (by simpa using h2) h3 rfl
  · rw [if_neg hb] at h ⊢
    cases e : gs[b - G]? with
    | none => rw [e] at h; cases h
    | some s =>
      rw [e] at h; cases h
      exact ⟨_, rfl, .sen (b - G) s (by omega) e rfl⟩

theorem bD_glob {s : Sen} {k : Nat} (h : gs[k]? = some s) (A : Nat → Addr) (N : Nat → Nat) : bD G tp gs E A N (G + k) = some ⟨(A k).block, (A k).off, N k, E (G + k), true⟩ := by
  unfold bD
  rw [if_neg (by omega), show G + k - G = k by omega, h]

theorem addr_eq {a : Addr} (h : a.spot = none) : a = ⟨a.block, a.off, none⟩ := by cases a; simp only at h; rw [h]

theorem rowD_none {b : Nat} (hb : G + gs.length ≤ b) : rowD G tp gs E b = none := by
  unfold rowD
  rw [if_neg (by omega), List.getElem?_eq_none (by omega)]; rfl
theorem rowD_lt {b : Nat} {o : CObj} (h : rowD G tp gs E b = some o) : b < G + gs.length := by
  rcases Nat.lt_or_ge b (G + gs.length) with h1 | h1
  · exact h1
  · rw [rowD_none h1] at h; cases h
theorem rowD_cells {b : Nat} {c : List Value} {E' : TypeId} {cl rel : Nat} (h : rowD G tp gs E b = some (.cells c E' cl rel)) : cl = b ∧ rel = 0 := by
  unfold rowD at h
  split at h
  · unfold gRow at h
    split at h
    · simp only [Option.some.injEq, CObj.cells.injEq] at h; exact ⟨h.2.2.1.symm, h.2.2.2.symm⟩
    · cases h
  · cases e : gs[b - G]? with
    | none => rw [e] at h; cases h
    | some s => rw [e] at h; simp only [Option.map_some, Option.some.injEq, CObj.cells.injEq] at h; exact ⟨h.2.2.1.symm, h.2.2.2.symm⟩
theorem rel_D (hW : DoorW P W G tp gs E A N) : Rel P (bD G tp gs E A N) (dC G tp gs E) W ∧ GOk P (bD G tp gs E A N) := by
  have hro : (dC G tp gs E).ro = G + gs.length := rfl
  have hinj : (dC G tp gs E).inj = G + gs.length := rfl
  have hnext : (dC G tp gs E).next = G + gs.length := rfl
  have hcls : ∀ c, (dC G tp gs E).cls c = none := fun c => rfl
  have hD_heap : ∀ b, (dC G tp gs E).heap b = rowD G tp gs E b := fun b => rfl
  have hbl : ∀ b i, bD G tp gs E A N b = some i → b < G + gs.length := by
    intro b i hb
    obtain ⟨o, h1, _⟩ := bD_row (W := W) hb
    exact rowD_lt h1
  refine ⟨⟨⟨fun b hb => ?_, fun b c E' cl rel h => ?_, fun c l h => ?_, ?_⟩, fun b i hb => ?_, fun b i o hb ho => ?_, fun b1 b2 i1 i2 hne h1 h2 hB => ?_, fun b i hb => ?_, fun r ir m ver seen hr ho => ?_, ?_⟩, fun g hg => ?_⟩
  · rw [hD_heap]; exact rowD_none hb
  · rw [hD_heap] at h
    have hb : b < G + gs.length := rowD_lt h
    have key : rel = 0 ∧ cl = b := ⟨(rowD_cells h).2, (rowD_cells h).1⟩
    obtain ⟨rfl, rfl⟩ := key
    refine ⟨?_, by rw [hnext]; exact hb⟩
    unfold CW.members
    rw [hcls, hD_heap, h]
    simp
  · rw [hcls] at h; cases h
  · rw [hro, hnext]; exact Nat.le_refl _
  · refine ⟨by rw [hnext]; exact hbl b i hb, ?_⟩
    obtain ⟨o, _, hk⟩ := bD_row (W := W) hb
    cases hk with
    | free hb hi => subst hi; have := hW.size; show b < _; omega
    | glob k s hb hk hs hi => subst hi; have := hW.size; show b < _; omega
    | sen k s hb hk hi =>
      subst hi
      obtain ⟨_, c, h1, _⟩ := hW.ptr k s hk
      show (A k).block < _
      rcases Nat.lt_or_ge (A k).block W.heap.size with h2 | h2
      · exact h2
      · rw [Array.getElem?_eq_none h2] at h1; cases h1
  · obtain ⟨o', h1, hk⟩ := bD_row (W := W) hb
    rw [hD_heap, h1] at ho
    simp only [Option.some.injEq] at ho
    subst ho
    cases hk with
    | free hb hi => trivial
    | glob k s hb hk hs hi =>
      subst hi hs
      obtain ⟨_, g1, _⟩ := hW.glob k s hk
      show ObjRel P _ _ _ W.heap[s.1]?
      rw [g1]
      refine ⟨rfl, rfl, rfl, Nat.le_refl _, fun _ => .inl rfl, fun j v hj => ?_⟩
      match j, hj with
      | 0, hj =>
        simp only [List.getElem?_cons_zero, Option.some.injEq] at hj
        subst hj
        refine ⟨_, rfl, .iface ?_⟩
        have := VRel.ptr (P := P) (off := 0) (bD_glob (G := G) (tp := tp) (E := E) hk A N)
        rw [addr_eq (hW.ptr k s hk).1]
        simpa using this
    | sen k s hbb hk hi =>
      subst hi hbb
      obtain ⟨_, c, g1, g2, g3, _⟩ := hW.ptr k s hk
      show ObjRel P _ _ _ W.heap[(A k).block]?
      rw [g1]
      have hoff : (A k).off < c.size := (Array.getElem?_eq_some_iff.1 g3).1
      refine ⟨rfl, rfl, g2, by show 1 + (A k).off ≤ N k; omega, fun _ => .inl rfl, fun j v hj => ?_⟩
      match j, hj with
      | 0, hj =>
        simp only [List.getElem?_cons_zero, Option.some.injEq] at hj
        subst hj
        exact ⟨_, by show c[0 + (A k).off]? = _; rw [Nat.zero_add]; exact g3, .string _⟩
  · refine ⟨⟨fun _ => by rw [hro]; exact hbl b2 i2 h2, fun _ => by rw [hro]; exact hbl b1 i1 h1⟩, ?_⟩
    have hb1 := hbl b1 i1 h1
    obtain ⟨o1, q1, k1⟩ := bD_row (W := W) h1
    obtain ⟨o2, q2, k2⟩ := bD_row (W := W) h2
    rw [hD_heap, hD_heap, q1, q2]
    have gs_no : ∀ {k : Nat} {s : Sen} {j : Nat} {t : Sen}, gs[k]? = some s → gs[j]? = some t → s.1 = (A j).block → False := by
      intro k s j t hk hj he
      obtain ⟨_, g1, _⟩ := hW.glob k s hk
      obtain ⟨_, c, g3, _, g4, _⟩ := hW.ptr j t hj
      rw [← he, g1] at g3
      simp only [Option.some.injEq, Obj.cells.injEq] at g3
      obtain ⟨g3, _⟩ := g3
      subst g3
      match hoff : (A j).off, g4 with
      | 0, g4 => simp at g4
      | n + 1, g4 => simp at g4
    cases k1 with
    | free hb hi => trivial
    | glob k s hb hk hs hi =>
      cases k2 with
      | free hb hi => trivial
      | glob j t hb' hj ht hi' => subst hi hi'; exact absurd hB hne
      | sen j t hb' hj hi' => subst hi hi' hs; exact (gs_no hk hj hB).elim
    | sen k s hb hk hi =>
      cases k2 with
      | free hb hi => trivial
      | glob j t hb' hj ht hi' => subst hi hi' ht; exact (gs_no hj hk hB.symm).elim
      | sen j t hb' hj hi' =>
        subst hi hi' hb hb'
        refine .inl ⟨by rw [hro]; exact hb1, .inr ?_⟩
        intro hsh
        simp only at hB hsh
        obtain ⟨_, c, g1, _, g2, _⟩ := hW.ptr k s hk
        obtain ⟨_, c', g3, _, g4, _⟩ := hW.ptr j t hj
        rw [hB, g3] at g1
        simp only [Option.some.injEq, Obj.cells.injEq] at g1
        obtain ⟨g1, _⟩ := g1
        subst g1
        rw [hsh, g4] at g2
        simp only [Option.some.injEq, Value.string.injEq, ByteArray.mk.injEq, Array.mk.injEq] at g2
        exact hW.dis j k t s (by intro e; subst e; exact hne rfl) hj hk g2
  · obtain ⟨o, q, _⟩ := bD_row (W := W) hb
    exact ⟨_, by rw [hD_heap, q]⟩
  · obtain ⟨o, q, k⟩ := bD_row (W := W) hr
    rw [hD_heap, q] at ho
    cases k <;> cases ho
  · refine ⟨fun b hb => ?_, fun b i hb _ => ?_⟩
    · rw [hinj] at hb
      unfold bD
      by_cases h1 : b < G
      · rw [if_pos h1]
        cases e : senAt b gs 0 with
        | none => exact ⟨_, rfl, hW.utp⟩
        | some k =>
          obtain ⟨s, _, h2, h3⟩ := senAt_some e
          subst h3
          exact ⟨_, rfl, (hW.glob k s (by simpa using h2)).2.2⟩
      · rw [if_neg h1]
        have hlt : b - G < gs.length := by omega
        rw [List.getElem?_eq_getElem hlt]
        refine ⟨_, rfl, ?_⟩
        obtain ⟨_, c, _, _, _, h2⟩ := hW.ptr (b - G) _ (List.getElem?_eq_getElem hlt)
        rw [show G + (b - G) = b by omega] at h2
        exact h2
    · obtain ⟨o, _, k⟩ := bD_row (W := W) hb
      cases k with
      | free _ hi => subst hi; rfl
      | glob _ _ _ _ _ hi => subst hi; rfl
      | sen _ _ _ _ hi => subst hi; rfl
  · rw [hW.gsize] at hg
    unfold bD
    rw [if_pos hg]
    cases e : senAt g gs 0 with
    | none => exact ⟨_, rfl, rfl, rfl⟩
    | some k => exact ⟨_, rfl, rfl, rfl⟩
end
end Go.Cn.Dr

namespace Go.Cn
set_option linter.unusedVariables false
set_option linter.unusedSimpArgs false
open Go.ChangeShapes Go.WideShapes Go.Cn.Dr

/-- a row that begins with a number -/
def Row0.num (W : World) (r : Row0) : Prop := ∃ c fr k n, W.heap[r.B]? = some (Obj.cells c r.E fr) ∧ c[r.off]? = some (Value.int k n)

section
variable {P : Program} {W : World} {G : Nat} {tp : TypeId} {gs : List Sen} {E : Nat → TypeId} {A : Nat → Addr} {N : Nat → Nat}

noncomputable def sg (G : Nat) (tp : TypeId) (gs : List Sen) (E : Nat → TypeId) (rs : List Row0) : CW where
  heap := fun b => if b < G + gs.length then rowD G tp gs E b else (rs[b - (G + gs.length)]?).map fun r => .cells r.l r.E b 0
  next := G + gs.length + rs.length
  ro := G + gs.length + rs.length
  inj := G + gs.length
  cls := fun _ => none
def bg (G : Nat) (tp : TypeId) (gs : List Sen) (E : Nat → TypeId) (A : Nat → Addr) (N : Nat → Nat) (rs : List Row0) : Ren := fun b =>
  if b < G + gs.length then bD G tp gs E A N b else (rs[b - (G + gs.length)]?).map fun r => ⟨r.B, r.off, r.N, r.E, false⟩

theorem bD_lt {b : Nat} {i : BI} (h : bD G tp gs E A N b = some i) : b < G + gs.length := by
  obtain ⟨o, h1, _⟩ := bD_row (W := default) h
  exact rowD_lt h1
theorem bD_le (rs : List Row0) : Le (bD G tp gs E A N) (bg G tp gs E A N rs) := fun b i h => by
  unfold bg; rw [if_pos (bD_lt h)]; exact h
theorem sg_door {rs : List Row0} {b : Nat} (h : b < G + gs.length) : (sg G tp gs E rs).heap b = (dC G tp gs E).heap b := by
  show (if _ then _ else _) = _
  rw [if_pos h]; rfl
theorem sg_row {rs : List Row0} {b : Nat} {o : CObj} (hb : ¬ b < G + gs.length) (h : (sg G tp gs E rs).heap b = some o) : ∃ r, rs[b - (G + gs.length)]? = some r ∧ o = .cells r.l r.E b 0 := by
  have h' : (if b < G + gs.length then rowD G tp gs E b else (rs[b - (G + gs.length)]?).map fun r => CObj.cells r.l r.E b 0) = some o := h
  rw [if_neg hb, Option.map_eq_some_iff] at h'
  obtain ⟨r, h1, h2⟩ := h'
  exact ⟨r, h1, h2.symm⟩
theorem bg_row {rs : List Row0} {b : Nat} {i : BI} (hb : ¬ b < G + gs.length) (h : bg G tp gs E A N rs b = some i) : ∃ r, rs[b - (G + gs.length)]? = some r ∧ i = ⟨r.B, r.off, r.N, r.E, false⟩ := by
  unfold bg at h
  rw [if_neg hb, Option.map_eq_some_iff] at h
  obtain ⟨r, h1, h2⟩ := h
  exact ⟨r, h1, h2.symm⟩
theorem bg_door {rs : List Row0} {b : Nat} (hb : b < G + gs.length) : bg G tp gs E A N rs b = bD G tp gs E A N b := by unfold bg; rw [if_pos hb]

/-- a door's row: its class is its own -/
theorem door_cells {b : Nat} {c : List Value} {E' : TypeId} {cl rel : Nat} (h : (dC G tp gs E).heap b = some (.cells c E' cl rel)) : cl = b ∧ rel = 0 ∧ b < G + gs.length := by
  exact ⟨(rowD_cells h).1, (rowD_cells h).2, rowD_lt h⟩
theorem sg_inv (rs : List Row0) : CInv (sg G tp gs E rs) where
  fresh := fun b hb => by
    have hb' : G + gs.length + rs.length ≤ b := hb
    show (if _ then _ else _) = _
    rw [if_neg (by omega), List.getElem?_eq_none (by omega)]; rfl
  mem := fun b c E' cl rel h => by
    have key : cl = b ∧ rel = 0 ∧ b < G + gs.length + rs.length := by
      by_cases hb : b < G + gs.length
      · rw [sg_door hb] at h
        obtain ⟨h1, h2, _⟩ := door_cells h
        exact ⟨h1, h2, by omega⟩
      · obtain ⟨r, h1, h2⟩ := sg_row hb h
        cases h2
        have := (List.getElem?_eq_some_iff.1 h1).1
        exact ⟨rfl, rfl, by omega⟩
    obtain ⟨rfl, rfl, hlt⟩ := key
    refine ⟨?_, hlt⟩
    unfold CW.members
    show _ ∈ (match (sg G tp gs E rs).heap cl with | some (.cells l _ _ _) => [(cl, l.length)] | _ => [])
    rw [h]; simp
  cls := fun c l h => by cases h
  rol := Nat.le_refl _

theorem sg_rel (hW : DoorW P W G tp gs E A N) {rs : List Row0} (h : ∀ r ∈ rs, r.ok P W) (hn : ∀ r ∈ rs, r.num W) : Rel P (bg G tp gs E A N rs) (sg G tp gs E rs) W ∧ GOk P (bg G tp gs E A N rs) := by
  obtain ⟨hR, hG⟩ := rel_D hW
  have hin : (dC G tp gs E).inj = G + gs.length := rfl
  have hro : (dC G tp gs E).ro = G + gs.length := rfl
  have hD_heap : ∀ b, (dC G tp gs E).heap b = rowD G tp gs E b := fun b => rfl
  refine ⟨⟨sg_inv rs, fun b i hb => ?_, fun b i o hb ho => ?_, fun b1 b2 i1 i2 hne h1 h2 hB => ?_, fun b i hb => ?_, fun r ir m ver seen hr ho => ?_, fun b hb => ?_, fun b i hb hr => ?_⟩, hG.mono (bD_le rs)⟩
  · show b < G + gs.length + rs.length ∧ _
    by_cases hlt : b < G + gs.length
    · rw [bg_door hlt] at hb
      exact ⟨by omega, (hR.lt b i hb).2⟩
    · obtain ⟨r, q1, rfl⟩ := bg_row hlt hb
      have := (List.getElem?_eq_some_iff.1 q1).1
      refine ⟨by omega, ?_⟩
      obtain ⟨c', fr, q2, _⟩ := h r (List.mem_of_getElem? q1)
      show r.B < _
      rcases Nat.lt_or_ge r.B W.heap.size with h3 | h3
      · exact h3
      · rw [Array.getElem?_eq_none h3] at q2; cases q2
  · by_cases hlt : b < G + gs.length
    · rw [bg_door hlt] at hb
      rw [sg_door hlt] at ho
      exact (hR.obj b i o hb ho).mono (bD_le rs)
    · obtain ⟨r, q1, rfl⟩ := bg_row hlt hb
      obtain ⟨r', q2, rfl⟩ := sg_row hlt ho
      rw [q1] at q2; cases q2
      obtain ⟨c', fr, h3, h4, h5, h6⟩ := h r (List.mem_of_getElem? q1)
      show ObjRel P _ _ _ W.heap[r.B]?
      rw [h3]
      exact ⟨rfl, rfl, h4, by show r.l.length + r.off ≤ r.N; omega, fun e => (by cases e), fun k v hk => ⟨v, by show c'[k + r.off]? = some v; rw [Nat.add_comm]; exact (h6 k v hk).1, (h6 k v hk).2 _⟩⟩
  · have hlt : ∀ b i, bg G tp gs E A N rs b = some i → b < G + gs.length + rs.length := by
      intro b i hb
      by_cases hlt : b < G + gs.length
      · omega
      · obtain ⟨r, q1, _⟩ := bg_row hlt hb
        have := (List.getElem?_eq_some_iff.1 q1).1
        omega
    have l1 := hlt b1 i1 h1
    have l2 := hlt b2 i2 h2
    -- a row and a door's row lie apart
    have mix : ∀ {b1 b2 : Nat} {i1 i2 : BI}, b1 < G + gs.length → ¬ b2 < G + gs.length → bg G tp gs E A N rs b1 = some i1 → bg G tp gs E A N rs b2 = some i2 → i1.B = i2.B → ∀ c Ec cl rel, (sg G tp gs E rs).heap b1 = some (.cells c Ec cl rel) → i1.sh ≠ i2.sh := by
      intro b1 b2 i1 i2 x1 x2 q1 q2 hB c Ec cl rel hc hsh
      rw [bg_door x1] at q1
      obtain ⟨r, q3, rfl⟩ := bg_row x2 q2
      obtain ⟨c', fr, k, n, q4, q5⟩ := hn r (List.mem_of_getElem? q3)
      obtain ⟨o, q6, q7⟩ := bD_row (W := W) q1
      rw [sg_door x1, hD_heap, q6] at hc
      simp only at hB hsh
      cases q7 with
      | free hb hi => cases hc
      | glob k' s hb hk hs hi =>
        subst hi hs
        obtain ⟨_, g1, _⟩ := hW.glob k' s hk
        simp only at hB hsh
        rw [← hB, g1] at q4
        simp only [Option.some.injEq, Obj.cells.injEq] at q4
        obtain ⟨q4, _⟩ := q4
        subst q4
        rw [← hsh] at q5
        simp at q5
      | sen k' s hbb hk hi =>
        subst hi
        obtain ⟨_, cc, g1, _, g3, _⟩ := hW.ptr k' s hk
        simp only at hB hsh
        rw [← hB, g1] at q4
        simp only [Option.some.injEq, Obj.cells.injEq] at q4
        obtain ⟨q4, _⟩ := q4
        subst q4
        rw [← hsh, g3] at q5
        cases q5
    refine ⟨⟨fun _ => l2, fun _ => l1⟩, ?_⟩
    by_cases x1 : b1 < G + gs.length
    · by_cases x2 : b2 < G + gs.length
      · have y1 := h1
        have y2 := h2
        rw [bg_door x1] at y1
        rw [bg_door x2] at y2
        obtain ⟨_, hal⟩ := hR.alias b1 b2 i1 i2 hne y1 y2 hB
        obtain ⟨o1, w1, k1⟩ := bD_row (W := W) y1
        obtain ⟨o2, w2, k2⟩ := bD_row (W := W) y2
        rw [hD_heap, hD_heap, w1, w2] at hal
        rw [sg_door x1, sg_door x2, hD_heap, hD_heap, w1, w2]
        have fin : ∀ {X : Prop}, (b1 < (dC G tp gs E).ro ∧ ((dC G tp gs E).inj ≤ b1 ∧ (dC G tp gs E).inj ≤ b2 ∨ i1.sh ≠ i2.sh) ∨ (dC G tp gs E).ro ≤ b1 ∧ X) → i1.sh ≠ i2.sh := by
          rintro X (⟨_, g2 | g2⟩ | ⟨g1, _⟩)
          · rw [hin] at g2; omega
          · exact g2
          · rw [hro] at g1; omega
        cases k1 with
        | free _ _ => trivial
        | glob _ _ _ _ _ _ =>
          cases k2 with
          | free _ _ => trivial
          | glob _ _ _ _ _ _ => exact .inl ⟨l1, .inr (fin hal)⟩
          | sen _ _ _ _ _ => exact .inl ⟨l1, .inr (fin hal)⟩
        | sen _ _ _ _ _ =>
          cases k2 with
          | free _ _ => trivial
          | glob _ _ _ _ _ _ => exact .inl ⟨l1, .inr (fin hal)⟩
          | sen _ _ _ _ _ => exact .inl ⟨l1, .inr (fin hal)⟩
      · obtain ⟨r2, q2, rfl⟩ := bg_row x2 h2
        have e2 : (sg G tp gs E rs).heap b2 = some (.cells r2.l r2.E b2 0) := by
          show (if _ then _ else _) = _
          rw [if_neg x2, q2]; rfl
        rw [e2]
        cases e1 : (sg G tp gs E rs).heap b1 with
        | none =>
          rw [bg_door x1] at h1
          obtain ⟨o, w⟩ := hR.here b1 i1 h1
          rw [sg_door x1, w] at e1; cases e1
        | some o1 =>
          cases o1 with
          | dead => trivial
          | cells c Ec cl rel => exact .inl ⟨l1, .inr (mix x1 x2 h1 h2 hB c Ec cl rel e1)⟩
          | map _ _ =>
            rw [sg_door x1] at e1
            rw [bg_door x1] at h1
            obtain ⟨o, w, k⟩ := bD_row (W := W) h1
            rw [hD_heap, w] at e1
            cases k <;> cases e1
          | iter _ _ _ =>
            rw [sg_door x1] at e1
            rw [bg_door x1] at h1
            obtain ⟨o, w, k⟩ := bD_row (W := W) h1
            rw [hD_heap, w] at e1
            cases k <;> cases e1
          | loop _ _ _ _ _ _ =>
            rw [sg_door x1] at e1
            rw [bg_door x1] at h1
            obtain ⟨o, w, k⟩ := bD_row (W := W) h1
            rw [hD_heap, w] at e1
            cases k <;> cases e1
    · obtain ⟨r1, q1, rfl⟩ := bg_row x1 h1
      have e1 : (sg G tp gs E rs).heap b1 = some (.cells r1.l r1.E b1 0) := by
        show (if _ then _ else _) = _
        rw [if_neg x1, q1]; rfl
      rw [e1]
      by_cases x2 : b2 < G + gs.length
      · cases e2 : (sg G tp gs E rs).heap b2 with
        | none =>
          rw [bg_door x2] at h2
          obtain ⟨o, w⟩ := hR.here b2 i2 h2
          rw [sg_door x2, w] at e2; cases e2
        | some o2 =>
          cases o2 with
          | dead => trivial
          | cells c Ec cl rel => exact .inl ⟨l1, .inr fun e => mix x2 x1 h2 h1 hB.symm c Ec cl rel e2 e.symm⟩
          | map _ _ =>
            rw [sg_door x2] at e2
            rw [bg_door x2] at h2
            obtain ⟨o, w, k⟩ := bD_row (W := W) h2
            rw [hD_heap, w] at e2
            cases k <;> cases e2
          | iter _ _ _ =>
            rw [sg_door x2] at e2
            rw [bg_door x2] at h2
            obtain ⟨o, w, k⟩ := bD_row (W := W) h2
            rw [hD_heap, w] at e2
            cases k <;> cases e2
          | loop _ _ _ _ _ _ =>
            rw [sg_door x2] at e2
            rw [bg_door x2] at h2
            obtain ⟨o, w, k⟩ := bD_row (W := W) h2
            rw [hD_heap, w] at e2
            cases k <;> cases e2
      · obtain ⟨r2, q2, rfl⟩ := bg_row x2 h2
        have e2 : (sg G tp gs E rs).heap b2 = some (.cells r2.l r2.E b2 0) := by
          show (if _ then _ else _) = _
          rw [if_neg x2, q2]; rfl
        rw [e2]
        exact .inl ⟨l1, .inl ⟨Nat.not_lt.1 x1, Nat.not_lt.1 x2⟩⟩
  · by_cases hlt : b < G + gs.length
    · rw [bg_door hlt] at hb
      rw [sg_door hlt]
      exact hR.here b i hb
    · obtain ⟨r, q1, _⟩ := bg_row hlt hb
      exact ⟨_, by show (if _ then _ else _) = _; rw [if_neg hlt, q1]; rfl⟩
  · by_cases hlt : r < G + gs.length
    · rw [bg_door hlt] at hr
      rw [sg_door hlt] at ho
      obtain ⟨o, w, k⟩ := bD_row (W := W) hr
      rw [hD_heap, w] at ho
      cases k <;> cases ho
    · obtain ⟨_, _, h⟩ := sg_row hlt ho; cases h
  · have hb' : b < G + gs.length := hb
    obtain ⟨i, q1, q2⟩ := hR.wr.1 b (by rw [hin]; exact hb')
    exact ⟨i, bD_le rs b i q1, q2⟩
  · have hr' : G + gs.length + rs.length ≤ b ∨ b < G + gs.length := hr
    by_cases hlt : b < G + gs.length
    · rw [bg_door hlt] at hb
      exact hR.wr.2 b i hb (.inr (by rw [hin]; exact hlt))
    · obtain ⟨r, q1, _⟩ := bg_row hlt hb
      have := (List.getElem?_eq_some_iff.1 q1).1
      omega
end
end Go.Cn

namespace Go.Cn
set_option linter.unusedVariables false
set_option linter.unusedSimpArgs false
open Go.ChangeShapes Go.WideShapes Go.Cn.Dr

section
variable {P : Program} {W : World} {G : Nat} {tp : TypeId} {gs : List Sen} {E : Nat → TypeId} {A : Nat → Addr} {N : Nat → Nat}

/-- what is known of the variables -/
def gO (G : Nat) (tp : TypeId) (gs : List Sen) (E : Nat → TypeId) (b : Nat) : Option AO :=
  if b < G then match senAt b gs 0 with
    | some i => some (.stat [.iface tp (.ptr (G + i) 0)] (E b))
    | none => none
  else (gs[b - G]?).map fun s => .stat [.str s.2] (E b)
def gA (G : Nat) (tp : TypeId) (gs : List Sen) (E : Nat → TypeId) : AH := ⟨gO G tp gs E, fun _ => none⟩
def gF (G : Nat) (gs : List Sen) (rs : List Row0) (b : Nat) : Nat :=
  if b < G then (match senAt b gs 0 with | some _ => 1 | none => 0) else if b < G + gs.length then 1 else fr0 rs (b - (G + gs.length))

theorem sg_heap_lo {rs : List Row0} {b : Nat} (hb : b < G) : (sg G tp gs E rs).heap b = some (gRow G tp gs E b) := by
  show (if _ then _ else _) = _
  rw [if_pos (by omega)]; unfold rowD; rw [if_pos hb]
theorem sg_heap_mid {rs : List Row0} {b : Nat} (hb : ¬ b < G) (hb2 : b < G + gs.length) : ∃ s, gs[b - G]? = some s ∧ (sg G tp gs E rs).heap b = some (.cells [.string ⟨⟨s.2⟩⟩] (E b) b 0) := by
  have hlt : b - G < gs.length := by omega
  refine ⟨gs[b - G], by simp [hlt], ?_⟩
  show (if _ then _ else _) = _
  rw [if_pos hb2]; unfold rowD; rw [if_neg hb, List.getElem?_eq_getElem hlt]; rfl
theorem sg_heap_hi {rs : List Row0} {b : Nat} (hb : ¬ b < G + gs.length) : (sg G tp gs E rs).heap b = (rs[b - (G + gs.length)]?).map fun r => .cells r.l r.E b 0 := by
  show (if _ then _ else _) = _
  rw [if_neg hb]

theorem sg_ar (rs : List Row0) : AR (gF G gs rs) (gA G tp gs E) (sg G tp gs E rs) where
  inv := sg_inv rs
  mem := fun cl m hm => by
    have hn : (sg G tp gs E rs).cls cl = none := rfl
    obtain ⟨x, E', cl', rel, h1, rfl⟩ := members_none hn hm
    have h2 := (sg_inv rs).mem _ _ _ _ _ h1
    by_cases hb : cl < G + gs.length
    · have h3 := h1
      rw [sg_door hb] at h3
      obtain ⟨rfl, rfl, _⟩ := door_cells h3
      exact .inl ⟨x, E', 0, h1, by simp⟩
    · obtain ⟨r, _, e⟩ := sg_row hb h1
      cases e
      exact .inl ⟨_, _, 0, h1, by simp⟩
  fro := fun b hb => by
    unfold gF at hb ⊢
    by_cases h1 : b < G
    · rw [if_pos h1] at hb ⊢
      rw [sg_heap_lo h1]
      unfold gRow
      cases e : senAt b gs 0 with
      | none => rw [e] at hb; simp at hb
      | some i => exact ⟨_, rfl, .inl ⟨_, _, _, _, rfl, by simp⟩⟩
    · rw [if_neg h1] at hb ⊢
      by_cases h2 : b < G + gs.length
      · rw [if_pos h2] at hb ⊢
        obtain ⟨s, _, e⟩ := sg_heap_mid (tp := tp) (E := E) (rs := rs) h1 h2
        exact ⟨_, e, .inl ⟨_, _, _, _, rfl, by simp⟩⟩
      · rw [if_neg h2] at hb ⊢
        rw [sg_heap_hi h2]
        unfold fr0 at hb ⊢
        cases e : rs[b - (G + gs.length)]? with
        | none => rw [e] at hb; simp at hb
        | some r => exact ⟨_, rfl, .inl ⟨_, _, _, _, rfl, Nat.le_refl _⟩⟩
  obj := fun b o h => by
    have h' : gO G tp gs E b = some o := h
    unfold gO at h'
    by_cases h1 : b < G
    · rw [if_pos h1] at h'
      cases e : senAt b gs 0 with
      | none => rw [e] at h'; cases h'
      | some i =>
        rw [e] at h'
        simp only [Option.some.injEq] at h'
        subst h'
        refine ⟨by show b < G + gs.length + rs.length; omega, by show b < G + gs.length; omega, [.iface tp (.pointer (some ⟨G + i, 0, none⟩))], b, 0, ?_, ?_, by simp, .cons (.iface (.ptr _ _)) .nil⟩
        · rw [sg_heap_lo h1]; unfold gRow; rw [e]
        · unfold gF; rw [if_pos h1, e]; rfl
    · rw [if_neg h1] at h'
      cases e : gs[b - G]? with
      | none => rw [e] at h'; cases h'
      | some s =>
        rw [e] at h'
        simp only [Option.map_some, Option.some.injEq] at h'
        subst h'
        have hlt := (List.getElem?_eq_some_iff.1 e).1
        have h2 : b < G + gs.length := by omega
        obtain ⟨s', e', eh⟩ := sg_heap_mid (tp := tp) (E := E) (rs := rs) h1 h2
        rw [e] at e'; cases e'
        refine ⟨by show b < G + gs.length + rs.length; omega, h2, _, _, _, eh, ?_, by simp, .cons (.str _) .nil⟩
        unfold gF; rw [if_neg h1, if_pos h2]; rfl
  tok := fun c k h => by cases h
  sep := fun b o h => rfl
  own := fun b cs E h => fun _ _ _ _ _ => rfl

/-- A run that answers true, from its contract. -/
theorem run_G (hW : DoorW P W G tp gs E A N) (hP : ProgOk P) {T : Nat → Option CFun} (hT : OkT P T) {f : Nat} {args : List AV} {argsC argsM : List Value} {rs : List Row0} (hc : ACall T (fun _ => False) (.func f) args (gA G tp gs E) fun v _ => v = .bool true)
    (hr : ∀ r ∈ rs, r.ok P W) (hn : ∀ r ∈ rs, r.num W) (ha : RpL (gF G gs rs) (sg G tp gs E rs) args argsC) (hm : LRel P (bg G tp gs E A N rs) argsC argsM) : Calls P f argsM.toArray W fun e W' => e = .returned (.bool true) ∧ Kept W W' := by
  obtain ⟨hR, hG⟩ := sg_rel hW hr hn
  have h1 := hc (gF G gs rs) (sg G tp gs E rs) argsC (sg_ar rs) (fun b hb => hb.elim) ha
  have h2 := ((CallA.sim hP hT).func h1 hR hG hm).2
  refine (callsIn_wide.1 h2).mono fun e W' ⟨v, v', β', σ', ⟨F', a, h', _, _, _, hv, hq⟩, he, hvr, hs⟩ => ⟨?_, ?_⟩
  · subst hq
    have := hv.bool_inv
    subst this
    rw [he, hvr.bool_inv]
  · refine ⟨fun B hB => hs.afr B hB fun b i hb hr => ?_, hs.size, hs.os, hs.out⟩
    have hro : G + gs.length + rs.length ≤ b := hr
    by_cases hlt : b < G + gs.length
    · omega
    · obtain ⟨r, q1, _⟩ := bg_row hlt hb
      have := (List.getElem?_eq_some_iff.1 q1).1
      omega

/-- A function of a slice of numbers and a truth value. -/
theorem runG_ints (hW : DoorW P W G tp gs E A N) (hP : ProgOk P) {T : Nat → Option CFun} (hT : OkT P T) {f : Nat} {k : IntKind} {M : Nat} (hM : M ≤ big) {x : AV} {xv : Value} (hx : ∀ F σ, Rp F σ x xv) (hxm : ∀ β, VRel P β xv xv)
    (hs : ∀ (E' : TypeId) (zs : List Int), zs.length ≤ M → ACall T (fun _ => False) (.func f) [.lst E' (zs.map fun n => [.int k n]) .no, x] (gA G tp gs E) fun v _ => v = .bool true)
    (hL : ∀ b o n c, M < n → ACall T (fun _ => False) (.func f) [.slice b o n c, x] (gA G tp gs E) fun v _ => v = .bool true) {a : Addr} {len cap : Nat} {zs : List Int} (hle : len ≤ cap) (hz : zs.length = cap) (hcell : ∀ i, i < zs.length → W.cell? (a.add i) = some (.int k (zs.getD i 0))) :
    Calls P f #[.slice (some a) len cap, xv] W fun e W' => e = .returned (.bool true) ∧ Kept W W' := by
  have two : ∀ {β : Ren} {x' y' : Value}, VRel P β x' y' → LRel P β [x', xv] [y', xv] := fun h => ⟨rfl, fun i x y hx hy => by
    match i, hx, hy with
    | 0, hx, hy => simp at hx hy; subst hx hy; exact h
    | 1, hx, hy => simp at hx hy; subst hx hy; exact hxm _⟩
  by_cases h0 : cap = 0
  · subst h0
    have hl0 : len = 0 := by omega
    subst hl0
    exact run_G hW hP hT (rs := []) (argsC := [.slice (some ⟨0, 0, none⟩) 0 0, xv]) (argsM := [.slice (some a) 0 0, xv]) (hs 0 [] (Nat.zero_le _)) (by simp) (by simp) (.cons (.lstE _ _ _ _) (.cons (hx _ _) .nil)) (two (.slice (Nat.le_refl _) (Nat.le_refl _) (.inl rfl)))
  · have hpos : 0 < zs.length := by omega
    have hc0 := hcell 0 hpos
    obtain ⟨b, off, spot⟩ := a
    simp only [Addr.add, if_true] at hc0
    unfold World.cell? at hc0
    split at hc0
    case h_2 => cases hc0
    rename_i c' E' fr hB
    cases spot with
    | some x => simp at hc0
    | none =>
      have hB' : W.heap[b]? = some (.cells c' E' fr) := hB
      have hall : ∀ i, i < zs.length → c'[off + i]? = some (.int k (zs.getD i 0)) := by
        intro i hi
        have h1 := hcell i hi
        have e : (Addr.add ⟨b, off, none⟩ i) = ⟨b, off + i, none⟩ := by
          unfold Addr.add
          split
          · rename_i e; subst e; rfl
          · rfl
        rw [e] at h1
        unfold World.cell? at h1
        simp only [hB'] at h1
        simpa using h1
      have hoff : off + len ≤ c'.size := by
        by_cases hl0 : len = 0
        · subst hl0
          have := (Array.getElem?_eq_some_iff.1 (hall 0 hpos)).1
          omega
        · have := (Array.getElem?_eq_some_iff.1 (hall (len - 1) (by omega))).1
          omega
      have hlen : (zs.take len).length = len := by simp; omega
      generalize hrr : (⟨b, off, c'.size, E', (zs.take len).map fun n => .int k n⟩ : Row0) = r0
      have hrow : ∀ r ∈ [r0], r.ok P W := by
        intro r hr
        simp only [List.mem_singleton] at hr
        subst hr hrr
        refine ⟨c', fr, hB', rfl, by show off + ((zs.take len).map _).length ≤ c'.size; rw [List.length_map, hlen]; exact hoff, fun i v hv => ?_⟩
        simp only [List.getElem?_map, Option.map_eq_some_iff] at hv
        obtain ⟨n, hn, rfl⟩ := hv
        have hil : i < len := by rw [← hlen]; exact (List.getElem?_eq_some_iff.1 hn).1
        refine ⟨?_, fun β => .int _ _⟩
        show c'[off + i]? = _
        rw [hall i (by omega)]
        rw [List.getElem?_take, if_pos hil] at hn
        simp [List.getD, hn]
      have hnum : ∀ r ∈ [r0], r.num W := by
        intro r hr
        simp only [List.mem_singleton] at hr
        subst hr hrr
        exact ⟨c', fr, k, zs.getD 0 0, hB', by simpa using hall 0 hpos⟩
      have hlo : ¬ (G + gs.length) < G + gs.length := by omega
      have hbg : bg G tp gs E A N [r0] (G + gs.length) = some ⟨b, off, c'.size, E', false⟩ := by
        unfold bg; rw [if_neg hlo, Nat.sub_self, ← hrr]; rfl
      have hm : VRel P (bg G tp gs E A N [r0]) (.slice (some ⟨G + gs.length, 0, none⟩) len cap) (.slice (some ⟨b, off, none⟩) len cap) :=
        .slice hle (Nat.le_refl _) (.inr ⟨_, hbg, by simp, .inl rfl⟩)
      by_cases hl : len ≤ M
      · have hrp : Rp (gF G gs [r0]) (sg G tp gs E [r0]) (.lst E' ((zs.take len).map fun n => [.int k n]) .no) (.slice (some ⟨G + gs.length, 0, none⟩) len cap) := by
          by_cases h1 : zs.take len = []
          · have : len = 0 := by rw [← hlen, h1]; rfl
            subst this
            rw [h1]; exact .lstE _ _ _ _
          · have e1 : (sg G tp gs E [r0]).heap (G + gs.length) = some (.cells ((zs.take len).map fun n => .int k n) E' (G + gs.length) 0) := by
              rw [sg_heap_hi hlo, Nat.sub_self, ← hrr]; rfl
            have hF : gF G gs [r0] (G + gs.length) = len := by
              unfold gF
              rw [if_neg (by omega), if_neg hlo, Nat.sub_self, ← hrr]
              show ((zs.take len).map _).length = len
              rw [List.length_map, hlen]
            have := Rp.lst (F := gF G gs [r0]) (σ := sg G tp gs E [r0]) (E := E') (es := (zs.take len).map fun n => [AV.int k n]) (t := .no) (b := G + gs.length) (off := 0) (cap := cap) (sz := 1) e1 (by simpa using h1) (by omega) (fun e he => by obtain ⟨x, _, rfl⟩ := List.mem_map.1 he; rfl) (by rw [List.length_map, hF, hlen]; omega) (by rw [List.length_map, List.length_map, hlen]; omega) (by rw [List.length_map, hlen]; exact hle) (by rw [List.length_map, hlen]; omega) (.inl rfl) (fun i x y hi hy => ?_)
            · simpa only [List.length_map, hlen] using this
            · have e2 : ((zs.take len).map fun x => [AV.int k x]).flatten = (zs.take len).map fun n => AV.int k n := by
                generalize zs.take len = l
                induction l with
                | nil => rfl
                | cons a l ih => simp only [List.map_cons, List.flatten_cons, ih]; rfl
              rw [e2] at hi
              rw [Nat.zero_add, List.getElem?_map] at hy
              rw [List.getElem?_map] at hi
              cases hz : (zs.take len)[i]? <;> rw [hz] at hi hy <;> simp at hi hy
              subst hi hy; exact .int _ _
        exact run_G hW hP hT (hs E' (zs.take len) (by omega)) hrow hnum (.cons hrp (.cons (hx _ _) .nil)) (two hm)
      · exact run_G hW hP hT (hL _ 0 len cap (by omega)) hrow hnum (.cons (.slice hle) (.cons (hx _ _) .nil)) (two hm)

theorem runG_nil (hW : DoorW P W G tp gs E A N) (hP : ProgOk P) {T : Nat → Option CFun} (hT : OkT P T) {f : Nat} {x : AV} {xv : Value} (hx : ∀ F σ, Rp F σ x xv) (hxm : ∀ β, VRel P β xv xv) (hs : ACall T (fun _ => False) (.func f) [.lst 0 [] .no, x] (gA G tp gs E) fun v _ => v = .bool true) :
    Calls P f #[.slice none 0 0, xv] W fun e W' => e = .returned (.bool true) ∧ Kept W W' :=
  run_G hW hP hT (rs := []) (argsC := [.slice none 0 0, xv]) (argsM := [.slice none 0 0, xv]) hs (by simp) (by simp) (.cons (.lstN _) (.cons (hx _ _) .nil)) ⟨rfl, fun i x y hx hy => by
    match i, hx, hy with
    | 0, hx, hy => simp at hx hy; subst hx hy; exact .nilSlice
    | 1, hx, hy => simp at hx hy; subst hx hy; exact hxm _⟩
end

/-- A literal of a list, as a row that may be written. -/
theorem WO.bslO {T : Nat → Option CFun} {K : Nat → Prop} {fr : AFr} {h : AH} {E : TypeId} {zero : List Value} {n : Nat} {parts : List (Nat × Nat × Operand)} {cs : List AV} {Q : AV → AH → Prop}
    (hf : fillA ((zerosL zero n).map ofC1) (parts.map fun (o, s, x) => (o, s, evA fr x)) = some cs) (hq : ∀ b, h.objs b = none → ¬ K b → Q (.slice b 0 n n) (h.set b (.cells cs E))) : WO T K (.a (.bsl E zero n parts)) fr h Q := by
  refine WO.newO (mk := fun b => .slice b 0 n n) (ob := .cells cs E) (fun F σ ρ hA hρ => ?_) hq
  obtain ⟨r, h1, h2⟩ := fillA_rp hρ hf (consts_rp (zerosL zero n))
  refine ⟨.cells r E σ.next 0, .slice (some ⟨σ.next, 0, none⟩) n n, by simp only [aev, h1], ⟨rfl, rfl⟩, fun F' hF' hA' hx => ⟨⟨?_, hA.inv.rol, r, _, _, by rw [add_heap, if_pos rfl], h2.ext hx, members_new hA.inv⟩, .slice (Nat.le_refl _)⟩⟩
  rcases hF' σ.next with e | ⟨_, e⟩
  · rw [e]; exact hA.fnext
  · exact e
end Go.Cn
