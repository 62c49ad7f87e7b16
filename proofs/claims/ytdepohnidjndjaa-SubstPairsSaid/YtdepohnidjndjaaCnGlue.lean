/- From a contract to a row: runs. -/
import Derived.Test.YtdepohnidjndjaaCnA15
import Derived.Test.YtdepohnidjndjaaCnGlue0
namespace Go.Cn
set_option linter.unusedSimpArgs false
set_option linter.unusedVariables false
open Go.ChangeShapes Go.WideShapes

def fr0 (rs : List Row0) : Nat → Nat := fun b => match rs[b]? with
  | some r => r.l.length
  | none => 0
def ah0 : AH := ⟨fun _ => none, fun _ => none⟩

theorem sr_mem {rs : List Row0} {cl : Nat} {m : Nat × Nat} : m ∈ (sr rs).members cl → ∃ r, rs[cl]? = some r ∧ m = (cl, r.l.length) := by
  intro hm
  have hn : (sr rs).cls cl = none := rfl
  obtain ⟨x, E, cl', rel, h1, h2⟩ := members_none hn hm
  obtain ⟨r, h3, h4⟩ := sr_heap h1
  cases h4
  exact ⟨r, h3, h2⟩
theorem sr_ar (rs : List Row0) : AR (fr0 rs) ah0 (sr rs) where
  inv := sr_inv rs
  mem := fun cl m hm => by
    obtain ⟨r, h1, rfl⟩ := sr_mem hm
    exact .inl ⟨r.l, r.E, 0, by show (rs[cl]?).map _ = _; rw [h1]; rfl, by simp⟩
  fro := fun b hb => by
    unfold fr0 at hb
    cases e : rs[b]? with
    | none => rw [e] at hb; simp at hb
    | some r => exact ⟨_, by show (rs[b]?).map _ = _; rw [e]; rfl, .inl ⟨_, _, _, _, rfl, by unfold fr0; rw [e]; exact Nat.le_refl _⟩⟩
  obj := fun b o h => by cases h
  tok := fun c k h => by cases h
  sep := fun b o h => by cases h
  own := fun b cs E h => by cases h

/-- A run that answers true, from its contract. -/
theorem run_A {P : Program} (hP : ProgOk P) {T : Nat → Option CFun} (hT : OkT P T) (hg : P.globals.size = 0) {f : Nat} {args : List AV} {argsC argsM : List Value} {rs : List Row0} {W : World} (hc : Pure T f args (.bool true))
    (hr : ∀ r ∈ rs, r.ok P W) (ha : RpL (fr0 rs) (sr rs) args argsC) (hm : LRel P (br rs) argsC argsM) : Calls P f argsM.toArray W fun e W' => e = .returned (.bool true) ∧ Kept W W' := by
  have h1 := hc (fun _ => False) ah0 (fr0 rs) (sr rs) argsC (sr_ar rs) (fun b hb => hb.elim) ha
  have h2 := ((CallA.sim hP hT).func h1 (sr_rel hr) (fun g hg' => by omega) hm).2
  refine (callsIn_wide.1 h2).mono fun e W' ⟨v, v', β', σ', ⟨F', a, h', _, _, _, hv, hq, _⟩, he, hvr, hs⟩ => ⟨?_, kept_of hs⟩
  subst hq
  have := hv.bool_inv
  subst this
  rw [he, hvr.bool_inv]

/-- a slice of numbers that is only read -/
theorem ints_rel {P : Program} {rs : List Row0} {b : Nat} {r : Row0} (hb : rs[b]? = some r) {len cap : Nat} (hl : len ≤ cap) : VRel P (br rs) (.slice (some ⟨b, 0, none⟩) len cap) (.slice (some ⟨r.B, r.off, none⟩) len cap) :=
  .slice hl (Nat.le_refl _) (.inr ⟨_, by show (rs[b]?).map _ = _; rw [hb]; rfl, by simp, .inl rfl⟩)
theorem ints_rp {rs : List Row0} {b : Nat} {r : Row0} (hb : rs[b]? = some r) {k : IntKind} {zs : List Int} {cap : Nat} (hr : r.l = zs.map fun n => .int k n) (hl : zs.length ≤ cap) (hB : zs.length ≤ big) :
    Rp (fr0 rs) (sr rs) (.lst r.E (zs.map fun n => [.int k n]) .no) (.slice (some ⟨b, 0, none⟩) zs.length cap) := by
  by_cases h0 : zs = []
  · subst h0; exact .lstE _ _ _ _
  · have h1 : (sr rs).heap b = some (.cells r.l r.E b 0) := by show (rs[b]?).map _ = _; rw [hb]; rfl
    have hlen : r.l.length = zs.length := by rw [hr, List.length_map]
    have hF : fr0 rs b = zs.length := by unfold fr0; rw [hb]; exact hlen
    have := Rp.lst (F := fr0 rs) (σ := sr rs) (E := r.E) (es := zs.map fun n => [AV.int k n]) (t := .no) (b := b) (off := 0) (cap := cap) (sz := 1) h1 (by simpa using h0) (by omega) (by simp) (by rw [List.length_map, hF]; omega) (by rw [List.length_map, hlen]; omega) (by rw [List.length_map]; exact hl) (by rw [List.length_map]; exact hB) (.inl rfl) (fun i x y hi hy => ?_)
    · simpa only [List.length_map] using this
    · have e1 : (zs.map fun n => [AV.int k n]).flatten = zs.map fun n => AV.int k n := by
        clear hr hl hB h0 hlen hF hi
        induction zs with
        | nil => rfl
        | cons a l ih => simp only [List.map_cons, List.flatten_cons, ih]; rfl
      rw [e1] at hi
      rw [hr, Nat.zero_add, List.getElem?_map] at hy
      rw [List.getElem?_map] at hi
      cases hz : zs[i]? <;> rw [hz] at hi hy <;> simp at hi hy
      subst hi hy; exact .int _ _

/-- A function of a slice of numbers: its contract where it is short, and where it is long. -/
theorem run_ints {P : Program} (hP : ProgOk P) {T : Nat → Option CFun} (hT : OkT P T) (hg : P.globals.size = 0) {f : Nat} {k : IntKind} {N : Nat} (hN : N ≤ big) (hs : ∀ (E : TypeId) (zs : List Int), zs.length ≤ N → Pure T f [.lst E (zs.map fun n => [.int k n]) .no] (.bool true))
    (hL : ∀ b o n c, N < n → Pure T f [.slice b o n c] (.bool true)) {W : World} {a : Addr} {len cap : Nat} {zs : List Int} (hle : len ≤ cap) (hz : zs.length = cap) (hcell : ∀ i, i < zs.length → W.cell? (a.add i) = some (.int k (zs.getD i 0))) :
    Calls P f #[.slice (some a) len cap] W fun e W' => e = .returned (.bool true) ∧ Kept W W' := by
  have one : ∀ {β : Ren} {x y : Value}, VRel P β x y → LRel P β [x] [y] := fun h => ⟨rfl, fun i x y hx hy => by
    match i, hx, hy with
    | 0, hx, hy => simp at hx hy; subst hx hy; exact h⟩
  by_cases h0 : cap = 0
  · subst h0
    have hl0 : len = 0 := by omega
    subst hl0
    exact run_A hP hT hg (rs := []) (argsC := [.slice (some ⟨0, 0, none⟩) 0 0]) (argsM := [.slice (some a) 0 0]) (hs 0 [] (Nat.zero_le _)) (by simp) (.cons (.lstE _ _ _ _) .nil) (one (.slice (Nat.le_refl _) (Nat.le_refl _) (.inl rfl)))
  · have hpos : 0 < zs.length := by omega
    have hc0 := hcell 0 hpos
    obtain ⟨b, off, spot⟩ := a
    simp only [Addr.add, if_true] at hc0
    unfold World.cell? at hc0
    split at hc0
    case h_2 => cases hc0
    rename_i c' E fr hB
    cases spot with
    | some x => simp at hc0
    | none =>
      have hB' : W.heap[b]? = some (.cells c' E fr) := hB
      have hall : ∀ i, i < zs.length → c'[off + i]? = some (.int k (zs.getD i 0)) := by
        intro i hi
        have h1 := hcell i hi
        have e : (Addr.add ⟨b, off, none⟩ i) = ⟨b, off + i, none⟩ := by
          unfold Addr.add
          split
          · rename_i e; subst e; rfl
          · rfl
        rw [e] at h1
        unfold World.cell? at h1
        simp only [hB'] at h1
        simpa using h1
      have hoff : off + len ≤ c'.size := by
        by_cases hl0 : len = 0
        · subst hl0
          have := (Array.getElem?_eq_some_iff.1 (hall 0 hpos)).1
          omega
        · have := (Array.getElem?_eq_some_iff.1 (hall (len - 1) (by omega))).1
          omega
      have hlen : (zs.take len).length = len := by simp; omega
      have hrow : ∀ r ∈ [(⟨b, off, c'.size, E, (zs.take len).map fun n => .int k n⟩ : Row0)], r.ok P W := by
        intro r hr
        simp only [List.mem_singleton] at hr
        subst hr
        refine ⟨c', fr, hB', rfl, by show off + ((zs.take len).map _).length ≤ c'.size; rw [List.length_map, hlen]; exact hoff, fun i v hv => ?_⟩
        simp only [List.getElem?_map, Option.map_eq_some_iff] at hv
        obtain ⟨n, hn, rfl⟩ := hv
        have hil : i < len := by rw [← hlen]; exact (List.getElem?_eq_some_iff.1 hn).1
        refine ⟨?_, fun β => .int _ _⟩
        show c'[off + i]? = _
        rw [hall i (by omega)]
        rw [List.getElem?_take, if_pos hil] at hn
        simp [List.getD, hn]
      have hm := one (ints_rel (P := P) (rs := [⟨b, off, c'.size, E, (zs.take len).map fun n => .int k n⟩]) (b := 0) rfl hle)
      by_cases hl : len ≤ N
      · have hrp := ints_rp (rs := [⟨b, off, c'.size, E, (zs.take len).map fun n => .int k n⟩]) (b := 0) (k := k) (zs := zs.take len) (cap := cap) rfl rfl (by omega) (by omega)
        rw [hlen] at hrp
        exact run_A hP hT hg (hs E (zs.take len) (by omega)) hrow (.cons hrp .nil) hm
      · exact run_A hP hT hg (hL 0 0 len cap (by omega)) hrow (.cons (.slice hle) .nil) hm

theorem run_intsNil {P : Program} (hP : ProgOk P) {T : Nat → Option CFun} (hT : OkT P T) (hg : P.globals.size = 0) {f : Nat} {k : IntKind} {N : Nat} (hs : ∀ (E : TypeId) (zs : List Int), zs.length ≤ N → Pure T f [.lst E (zs.map fun n => [.int k n]) .no] (.bool true)) {W : World} :
    Calls P f #[.slice none 0 0] W fun e W' => e = .returned (.bool true) ∧ Kept W W' :=
  run_A hP hT hg (rs := []) (argsC := [.slice none 0 0]) (argsM := [.slice none 0 0]) (hs 0 [] (Nat.zero_le _)) (by simp) (.cons (.lstN _) .nil) ⟨rfl, fun i x y hx hy => by
    match i, hx, hy with
    | 0, hx, hy => simp at hx hy; subst hx hy; exact .nilSlice⟩

end Go.Cn
