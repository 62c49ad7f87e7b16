/- From a contract to a row: slices of one-cell things, as many as there are. -/
import Derived.Test.YtplnafebmpldgaaCnGlue
namespace Go.Cn
set_option linter.unusedSimpArgs false
set_option linter.unusedVariables false
open Go.ChangeShapes Go.WideShapes

/-- what an argument is inside: the rows that it brings, a value, and what it is seen as -/
def ArgIn (P : Program) (W : World) (v : Value) (rs1 : List Row0) (A : AV → Prop) : Prop :=
  (∀ r ∈ rs1, r.ok P W) ∧ ∀ pre post, ∃ c av, VRel P (br (pre ++ rs1 ++ post)) c v ∧ Rp (fr0 (pre ++ rs1 ++ post)) (sr (pre ++ rs1 ++ post)) av c ∧ A av

theorem row_in {P : Program} {W : World} {α : Type} {g : α → Value} {ga : α → AV} (hg : ∀ x β, VRel P β (g x) (g x)) (hga : ∀ x F σ, Rp F σ (ga x) (g x)) (hone : ∀ x, oneA (ga x) = true)
    {N : Nat} (hN : N ≤ big) {a : Addr} {len cap : Nat} {xs : List α} (d : α) (hle : len ≤ cap) (hz : xs.length = cap) (hcell : ∀ i, i < xs.length → W.cell? (a.add i) = some (g (xs.getD i d))) :
    ∃ rs1, ArgIn P W (.slice (some a) len cap) rs1 fun av => (len ≤ N ∧ ∃ E, av = .lst E ((xs.take len).map fun x => [ga x]) .no) ∨ (N < len ∧ ∃ b o, av = .slice b o len cap) := by
  by_cases h0 : cap = 0
  · subst h0
    have hl0 : len = 0 := by omega
    subst hl0
    refine ⟨[], by simp, fun pre post => ⟨.slice (some ⟨0, 0, none⟩) 0 0, .lst 0 [] .no, .slice (Nat.le_refl _) (Nat.le_refl _) (.inl rfl), .lstE _ _ _ _, .inl ⟨Nat.zero_le _, 0, rfl⟩⟩⟩
  · have hpos : 0 < xs.length := by omega
    have hc0 := hcell 0 hpos
    obtain ⟨b, off, spot⟩ := a
    simp only [Addr.add, if_true] at hc0
    unfold World.cell? at hc0
    split at hc0
    case h_2 => cases hc0
    rename_i c' E fr hB
    cases spot with
    | some x => simp at hc0
    | none =>
      have hB' : W.heap[b]? = some (.cells c' E fr) := hB
      have hall : ∀ i, i < xs.length → c'[off + i]? = some (g (xs.getD i d)) := by
        intro i hi
        have h1 := hcell i hi
        have e : (Addr.add ⟨b, off, none⟩ i) = ⟨b, off + i, none⟩ := by
          unfold Addr.add
          split
          · rename_i e; subst e; rfl
          · rfl
        rw [e] at h1
        unfold World.cell? at h1
        simp only [hB'] at h1
        simpa using h1
      have hoff : off + len ≤ c'.size := by
        by_cases hl0 : len = 0
        · subst hl0
          have := (Array.getElem?_eq_some_iff.1 (hall 0 hpos)).1
          omega
        · have := (Array.getElem?_eq_some_iff.1 (hall (len - 1) (by omega))).1
          omega
      have hlen : (xs.take len).length = len := by simp; omega
      have hrow : ∀ r ∈ [(⟨b, off, c'.size, E, (xs.take len).map g⟩ : Row0)], r.ok P W := by
        intro r hr
        simp only [List.mem_singleton] at hr
        subst hr
        refine ⟨c', fr, hB', rfl, by show off + ((xs.take len).map _).length ≤ c'.size; rw [List.length_map, hlen]; exact hoff, fun i v hv => ?_⟩
        simp only [List.getElem?_map, Option.map_eq_some_iff] at hv
        obtain ⟨n, hn, rfl⟩ := hv
        have hil : i < len := by rw [← hlen]; exact (List.getElem?_eq_some_iff.1 hn).1
        refine ⟨?_, fun β => hg _ _⟩
        show c'[off + i]? = _
        rw [hall i (by omega)]
        rw [List.getElem?_take, if_pos hil] at hn
        simp [List.getD, hn]
      refine ⟨[⟨b, off, c'.size, E, (xs.take len).map g⟩], hrow, fun pre post => ?_⟩
      generalize hR : pre ++ [(⟨b, off, c'.size, E, (xs.take len).map g⟩ : Row0)] ++ post = rs
      have hb : rs[pre.length]? = some (⟨b, off, c'.size, E, (xs.take len).map g⟩ : Row0) := by rw [← hR, List.append_assoc, List.getElem?_append_right (Nat.le_refl _), Nat.sub_self]; rfl
      refine ⟨.slice (some ⟨pre.length, 0, none⟩) len cap, ?_⟩
      have hm := ints_rel (P := P) hb hle
      by_cases hl : len ≤ N
      · refine ⟨_, hm, ?_, .inl ⟨hl, E, rfl⟩⟩
        by_cases h1 : xs.take len = []
        · have : len = 0 := by rw [← hlen, h1]; rfl
          subst this
          rw [h1]; exact .lstE _ _ _ _
        · have e1 : (sr rs).heap pre.length = some (.cells ((xs.take len).map g) E pre.length 0) := by show (rs[pre.length]?).map _ = _; rw [hb]; rfl
          have hF : fr0 rs pre.length = len := by unfold fr0; rw [hb]; show ((xs.take len).map g).length = len; rw [List.length_map, hlen]
          have := Rp.lst (F := fr0 rs) (σ := sr rs) (E := E) (es := (xs.take len).map fun x => [ga x]) (t := .no) (b := pre.length) (off := 0) (cap := cap) (sz := 1) e1 (by simpa using h1) (by omega) (fun e he => by obtain ⟨x, _, rfl⟩ := List.mem_map.1 he; rfl) (by rw [List.length_map, hF, hlen]; omega) (by rw [List.length_map, List.length_map, hlen]; omega) (by rw [List.length_map, hlen]; exact hle) (by rw [List.length_map, hlen]; omega) (.inl rfl) (fun i x y hi hy => ?_)
          · simpa only [List.length_map, hlen] using this
          · have e2 : ((xs.take len).map fun x => [ga x]).flatten = (xs.take len).map ga := by
              generalize xs.take len = l
              induction l with
              | nil => rfl
              | cons a l ih => simp only [List.map_cons, List.flatten_cons, ih]; rfl
            rw [e2] at hi
            rw [Nat.zero_add, List.getElem?_map] at hy
            rw [List.getElem?_map] at hi
            cases hz : (xs.take len)[i]? <;> rw [hz] at hi hy <;> simp at hi hy
            subst hi hy; exact hga _ _ _
      · exact ⟨_, hm, .slice hle, .inr ⟨by omega, _, _, rfl⟩⟩

theorem nil_in (P : Program) (W : World) : ArgIn P W (.slice none 0 0) [] fun av => av = .lst 0 [] .no :=
  ⟨by simp, fun pre post => ⟨.slice none 0 0, .lst 0 [] .no, .nilSlice, .lstN _, rfl⟩⟩
theorem str_in (P : Program) (W : World) (s : ByteArray) : ArgIn P W (.string s) [] fun av => av = .str s.data.toList :=
  ⟨by simp, fun pre post => ⟨.string s, .str s.data.toList, .string s, .str _, rfl⟩⟩
theorem ints_in {P : Program} {W : World} {k : IntKind} {N : Nat} (hN : N ≤ big) {a : Addr} {len cap : Nat} {zs : List Int} (hle : len ≤ cap) (hz : zs.length = cap) (hcell : ∀ i, i < zs.length → W.cell? (a.add i) = some (.int k (zs.getD i 0))) :
    ∃ rs1, ArgIn P W (.slice (some a) len cap) rs1 fun av => (len ≤ N ∧ ∃ E, av = .lst E ((zs.take len).map fun x => [.int k x]) .no) ∨ (N < len ∧ ∃ b o, av = .slice b o len cap) :=
  row_in (g := fun n => .int k n) (ga := fun n => .int k n) (fun x β => .int _ _) (fun x F σ => .int _ _) (fun _ => rfl) hN 0 hle hz hcell
theorem strs_in {P : Program} {W : World} {N : Nat} (hN : N ≤ big) {a : Addr} {len cap : Nat} {ss : List ByteArray} (hle : len ≤ cap) (hz : ss.length = cap) (hcell : ∀ i, i < ss.length → W.cell? (a.add i) = some (.string (ss.getD i ByteArray.empty))) :
    ∃ rs1, ArgIn P W (.slice (some a) len cap) rs1 fun av => (len ≤ N ∧ ∃ E, av = .lst E ((ss.take len).map fun x => [.str x.data.toList]) .no) ∨ (N < len ∧ ∃ b o, av = .slice b o len cap) :=
  row_in (g := fun s => .string s) (ga := fun s => .str s.data.toList) (fun x β => .string _) (fun x F σ => .str _) (fun _ => rfl) hN ByteArray.empty hle hz hcell

/-- A run of four arguments that answers true, from its contract. -/
theorem run4 {P : Program} (hP : ProgOk P) {T : Nat → Option CFun} (hT : OkT P T) (hg : P.globals.size = 0) {f : Nat} {W : World} {v0 v1 v2 v3 : Value} {r0 r1 r2 r3 : List Row0} {A0 A1 A2 A3 : AV → Prop}
    (h0 : ArgIn P W v0 r0 A0) (h1 : ArgIn P W v1 r1 A1) (h2 : ArgIn P W v2 r2 A2) (h3 : ArgIn P W v3 r3 A3)
    (hc : ∀ a0 a1 a2 a3, A0 a0 → A1 a1 → A2 a2 → A3 a3 → Pure T f [a0, a1, a2, a3] (.bool true)) :
    Calls P f #[v0, v1, v2, v3] W fun e W' => e = .returned (.bool true) ∧ Kept W W' := by
  have e0 : r0 ++ r1 ++ r2 ++ r3 = [] ++ r0 ++ (r1 ++ r2 ++ r3) := by simp
  have e1 : r0 ++ r1 ++ r2 ++ r3 = r0 ++ r1 ++ (r2 ++ r3) := by simp
  have e2 : r0 ++ r1 ++ r2 ++ r3 = (r0 ++ r1) ++ r2 ++ r3 := by simp
  have e3 : r0 ++ r1 ++ r2 ++ r3 = (r0 ++ r1 ++ r2) ++ r3 ++ [] := by simp
  obtain ⟨c0, a0, m0, p0, q0⟩ := h0.2 [] (r1 ++ r2 ++ r3)
  obtain ⟨c1, a1, m1, p1, q1⟩ := h1.2 r0 (r2 ++ r3)
  obtain ⟨c2, a2, m2, p2, q2⟩ := h2.2 (r0 ++ r1) r3
  obtain ⟨c3, a3, m3, p3, q3⟩ := h3.2 (r0 ++ r1 ++ r2) []
  rw [← e0] at m0 p0
  rw [← e1] at m1 p1
  rw [← e2] at m2 p2
  rw [← e3] at m3 p3
  refine run_A hP hT hg (rs := r0 ++ r1 ++ r2 ++ r3) (argsC := [c0, c1, c2, c3]) (argsM := [v0, v1, v2, v3]) (hc a0 a1 a2 a3 q0 q1 q2 q3) (fun r hr => ?_) (.cons p0 (.cons p1 (.cons p2 (.cons p3 .nil)))) ⟨rfl, fun i x y hx hy => ?_⟩
  · rcases List.mem_append.1 hr with hr | hr
    · rcases List.mem_append.1 hr with hr | hr
      · rcases List.mem_append.1 hr with hr | hr
        · exact h0.1 r hr
        · exact h1.1 r hr
      · exact h2.1 r hr
    · exact h3.1 r hr
  · match i, hx, hy with
    | 0, hx, hy => cases hx; cases hy; exact m0
    | 1, hx, hy => cases hx; cases hy; exact m1
    | 2, hx, hy => cases hx; cases hy; exact m2
    | 3, hx, hy => cases hx; cases hy; exact m3
end Go.Cn
