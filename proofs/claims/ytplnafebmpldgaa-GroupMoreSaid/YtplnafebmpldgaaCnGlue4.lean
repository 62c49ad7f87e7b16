/- From a contract to a row: what the arguments bring, and that they are seen again. -/
import Derived.Test.YtplnafebmpldgaaCnGlue3
import Derived.OpenShut
import Derived.RowKit
import Derived.ChangeSlices
import Derived.SliceStrings
import Derived.ChangeMaps5
namespace Go.Cn
set_option linter.unusedSimpArgs false
open Go.ChangeShapes Go.WideShapes Go.RowKit
set_option linter.unusedVariables false

section
variable {H : Type} {enc : TypeId × Value → H} {P : Program} {w : World} {base : Nat} {spare : Nat → Bool} {held : Bool}
theorem trod_string_mk {t : TypeId} {s : ByteArray} (m : Nat) (ht : P.underlying t = some .string) (hs : s.size ≤ maxLen) : DataW.trod enc P w base spare held (m + 1) t [.string s] = some (.lit (.string s.data.toList), []) := by
  simp [DataW.trod, ht, hs]
theorem shut_strs {t e : TypeId} {a : Addr} {len cap : Nat} {zs : List ByteArray} (m : Nat) (ht : P.underlying t = some (.slice e)) (he : P.underlying e = some .string) (hc : P.cellsOf e = 1)
    (hb : base ≤ a.block) (hl : len ≤ cap) (hm : cap ≤ maxLen) (hz : zs.length = (if spare a.block then cap else len))
    (hcell : ∀ i, i < zs.length → w.cell? (a.add i) = some (.string (zs.getD i ByteArray.empty))) (hw : ∀ s ∈ zs, s.size ≤ maxLen) :
    DataW.trod enc P w base spare held (m + 2) t [.slice (some a) len cap] = some (.slice (strs (zs.take len)) (strs (zs.drop len)), MemPlace.row a zs.length) := by
  have hlz : len ≤ zs.length := by rw [hz]; split <;> omega
  have one : ∀ i, i < zs.length → (w.cells? base (a.add (i * P.cellsOf e)) (P.cellsOf e)).bind (DataW.trod enc P w base spare held (m + 1) e) = some ((.lit (.string (zs.getD i ByteArray.empty).data.toList), []) : DataW H × List MemPlace) := by
    intro i hi
    rw [hc, Nat.mul_one, cells?_one (by rw [block_add]; exact hb) (hcell i hi)]
    exact trod_string_mk m he (hw _ (by
      have : zs.getD i ByteArray.empty = zs[i] := by simp [List.getD, hi]
      rw [this]
      exact List.getElem_mem hi))
  have t1 : (List.range len).map (fun i => ((.lit (.string (zs.getD i ByteArray.empty).data.toList), []) : DataW H × List MemPlace)) = (zs.take len).map fun s => (.lit (.string s.data.toList), []) := by
    apply List.ext_getElem?
    intro i
    by_cases hi : i < len
    · simp [hi, List.getD, show i < zs.length by omega]
    · simp [hi, List.getElem?_take]
  have t2 : (List.range (zs.length - len)).map (fun j => ((.lit (.string (zs.getD (len + j) ByteArray.empty).data.toList), []) : DataW H × List MemPlace)) = (zs.drop len).map fun s => (.lit (.string s.data.toList), []) := by
    apply List.ext_getElem?
    intro j
    by_cases hj : j < zs.length - len
    · simp [hj, List.getD, show len + j < zs.length by omega]
    · simp [hj]
  rw [DataW.trod_step]
  unfold DataW.trodStep
  simp only [ht]
  rw [if_pos ⟨hb, hl, hm⟩, mapM_range_of len (fun i hi => one i (by omega)), t1]
  simp only [Option.bind_some]
  cases hs : spare a.block with
  | false =>
    have hzl : zs.length = len := by simpa [hs] using hz
    simp [strs, hzl, hc, List.take_of_length_le (Nat.le_of_eq hzl), List.drop_of_length_le (Nat.le_of_eq hzl), List.flatMap_eq_nil_iff]
  | true =>
    have hzl : zs.length = cap := by simpa [hs] using hz
    simp only [if_true]
    rw [← hzl, mapM_range_of (zs.length - len) (fun j hj => one (len + j) (by omega)), t2]
    simp [strs, hc]
    refine ⟨⟨rfl, rfl⟩, ?_⟩
    have z : ∀ l : List (DataW H × List MemPlace), (∀ y ∈ l, y ∈ zs.map (fun s => ((.lit (.string s.data.toList), []) : DataW H × List MemPlace))) → l.flatMap (·.2) = [] := fun l h =>
      List.flatMap_eq_nil_iff.2 fun y hy => by
        obtain ⟨n, _, rfl⟩ := List.mem_map.1 (h y hy)
        rfl
    rw [z _ (fun y hy => List.mem_of_mem_take hy), z _ (fun y hy => List.mem_of_mem_drop hy), show min len zs.length + (zs.length - len) = zs.length by omega]
    simp
end

/-- what an argument brings: the rows inside, and that it is seen again as it was -/
def Pkg {H : Type} (enc : TypeId × Value → H) (P : Program) (W : World) (t : TypeId) (v : Value) (d : DataW H) (q : List MemPlace) (A : AV → Prop) : Prop :=
  (∃ rs, ArgIn P W v rs A) ∧ ∀ W', Kept W W' → ∀ sp : Nat → Bool, (∀ x ∈ q, sp x.block = true) → DataW.Trod enc P W' 0 sp true t v d q
/-- a row of which a length is known -/
inductive Lng : AV → Nat → Prop where
  | s (b o n c : Nat) : Lng (.slice b o n c) n
  | l (E : TypeId) (es : List (List AV)) (t : Tag) : Lng (.lst E es t) es.length
/-- a row, long or short -/
def Sl {α : Type} (N : Nat) (mk : List α → List (List AV)) (av : AV) : Prop := ∃ n, Lng av n ∧ (n ≤ N → ∃ E xs, xs.length = n ∧ av = .lst E (mk xs) .no)

theorem spare_of {a : Addr} {n len cap : Nat} {sp : Nat → Bool} (hz : n = cap) (hle : len ≤ cap) (h : ∀ x ∈ MemPlace.row a n, sp x.block = true) : n = (if sp a.block then cap else len) := by
  by_cases h0 : n = 0
  · split <;> omega
  · have := h (MemPlace.cell a.block a.off) (MemPlace.mem_row.2 ⟨0, by omega, by simp⟩)
    have : sp a.block = true := this
    rw [this]; simpa using hz

theorem ints_pkg {H : Type} {enc : TypeId × Value → H} {P : Program} {W : World} {t e : TypeId} {k : IntKind} {v : Value} {d : DataW H} {q : List MemPlace} {N : Nat} (hN : N ≤ big) (ht : P.underlying t = some (.slice e)) (he : P.underlying e = some (.int k)) (hc : P.cellsOf e = 1)
    (hv : ∃ a len cap, v = .slice a len cap) (hT : DataW.Trod enc P W 0 (fun _ => true) true t v d q) : Pkg enc P W t v d q (Sl N fun l => l.map fun n => [.int k n]) := by
  obtain ⟨a0, len, cap, rfl⟩ := hv
  obtain ⟨fuel, hf⟩ := hT
  rcases open_ints ht he hc hf with ⟨hcs, hx⟩ | ⟨a, len', cap', zs, hcs, _, hl, hm, hz, hx, hcell, hwz⟩
  · simp [Value.cells] at hcs
    obtain ⟨rfl, rfl, rfl⟩ := hcs
    simp only [Prod.mk.injEq] at hx
    obtain ⟨rfl, rfl⟩ := hx
    obtain ⟨h1, h2⟩ := nil_in P W
    exact ⟨⟨_, h1, fun pre post => by
      obtain ⟨c, av, g1, g2, g3⟩ := h2 pre post
      subst g3
      exact ⟨c, _, g1, g2, 0, .l _ _ _, fun _ => ⟨0, [], rfl, rfl⟩⟩⟩, fun W' _ sp _ => shut_slice_nil ht⟩
  · simp [Value.cells] at hcs
    obtain ⟨rfl, rfl, rfl⟩ := hcs
    simp only [Prod.mk.injEq] at hx
    obtain ⟨rfl, rfl⟩ := hx
    simp only [if_true] at hz
    obtain ⟨rs, h1, h2⟩ := ints_in (P := P) (N := N) hN hl hz hcell
    refine ⟨⟨rs, h1, fun pre post => ?_⟩, fun W' hk sp hsp => ?_⟩
    · obtain ⟨c, av, g1, g2, g3⟩ := h2 pre post
      refine ⟨c, av, g1, g2, len, ?_⟩
      have hlen : (zs.take len).length = len := by rw [List.length_take]; omega
      rcases g3 with ⟨hn, E, rfl⟩ | ⟨hn, b, o, rfl⟩
      · have h5 := Lng.l E ((zs.take len).map fun n => [AV.int k n]) .no
        rw [List.length_map, hlen] at h5
        exact ⟨h5, fun _ => ⟨E, _, hlen, rfl⟩⟩
      · exact ⟨.s _ _ _ _, fun h => absurd h (by omega)⟩
    · have t0 := shut_ints (enc := enc) (w := W') (base := 0) (spare := sp) (held := true) 0 ht he hc (Nat.zero_le _) hl hm (spare_of hz hl hsp) (fun i hi => hk.cell (hcell i hi)) hwz
      exact ⟨2, by simpa [Value.cells] using t0⟩

theorem strs_pkg {H : Type} {enc : TypeId × Value → H} {P : Program} {W : World} {t e : TypeId} {v : Value} {d : DataW H} {q : List MemPlace} {N : Nat} (hN : N ≤ big) (ht : P.underlying t = some (.slice e)) (he : P.underlying e = some .string) (hc : P.cellsOf e = 1)
    (hv : ∃ a len cap, v = .slice a len cap) (hT : DataW.Trod enc P W 0 (fun _ => true) true t v d q) : Pkg enc P W t v d q (Sl N fun l => l.map fun s => [.str s]) := by
  obtain ⟨a0, len, cap, rfl⟩ := hv
  obtain ⟨fuel, hf⟩ := hT
  rcases open_strings ht he hc hf with ⟨hcs, hx⟩ | ⟨a, len', cap', zs, hcs, _, hl, hm, hz, hx, hcell, hwz⟩
  · simp [Value.cells] at hcs
    obtain ⟨rfl, rfl, rfl⟩ := hcs
    simp only [Prod.mk.injEq] at hx
    obtain ⟨rfl, rfl⟩ := hx
    obtain ⟨h1, h2⟩ := nil_in P W
    exact ⟨⟨_, h1, fun pre post => by
      obtain ⟨c, av, g1, g2, g3⟩ := h2 pre post
      subst g3
      exact ⟨c, _, g1, g2, 0, .l _ _ _, fun _ => ⟨0, [], rfl, rfl⟩⟩⟩, fun W' _ sp _ => shut_slice_nil ht⟩
  · simp [Value.cells] at hcs
    obtain ⟨rfl, rfl, rfl⟩ := hcs
    simp only [Prod.mk.injEq] at hx
    obtain ⟨rfl, rfl⟩ := hx
    simp only [if_true] at hz
    obtain ⟨rs, h1, h2⟩ := strs_in (P := P) (N := N) hN hl hz hcell
    refine ⟨⟨rs, h1, fun pre post => ?_⟩, fun W' hk sp hsp => ?_⟩
    · obtain ⟨c, av, g1, g2, g3⟩ := h2 pre post
      refine ⟨c, av, g1, g2, len, ?_⟩
      have hlen : (zs.take len).length = len := by rw [List.length_take]; omega
      rcases g3 with ⟨hn, E, rfl⟩ | ⟨hn, b, o, rfl⟩
      · have h5 := Lng.l E ((zs.take len).map fun x => [AV.str x.data.toList]) .no
        rw [List.length_map, hlen] at h5
        exact ⟨h5, fun _ => ⟨E, (zs.take len).map fun x => x.data.toList, by rw [List.length_map, hlen], by show _ = AV.lst E (((zs.take len).map fun x => x.data.toList).map fun s => [AV.str s]) .no; rw [List.map_map]; rfl⟩⟩
      · exact ⟨.s _ _ _ _, fun h => absurd h (by omega)⟩
    · have t0 := shut_strs (enc := enc) (w := W') (base := 0) (spare := sp) (held := true) 0 ht he hc (Nat.zero_le _) hl hm (spare_of hz hl hsp) (fun i hi => hk.cell (hcell i hi)) hwz
      exact ⟨2, by simpa [Value.cells] using t0⟩


theorem int_pkg {H : Type} {enc : TypeId × Value → H} {P : Program} {W : World} {t : TypeId} {k : IntKind} {n : Int} (ht : P.underlying t = some (.int k)) (hw : (Lit.int k n).wf = true) : Pkg enc P W t (.int k n) (.lit (.int k n)) [] fun av => av = .int k n :=
  ⟨⟨[], by simp, fun pre post => ⟨.int k n, .int k n, .int _ _, .int _ _, rfl⟩⟩, fun W' _ sp _ => shut_int ht hw⟩
theorem str_pkg {H : Type} {enc : TypeId × Value → H} {P : Program} {W : World} {t : TypeId} {s : ByteArray} (ht : P.underlying t = some .string) (hs : s.size ≤ maxLen) : Pkg enc P W t (.string s) (.lit (.string s.data.toList)) [] fun av => av = .str s.data.toList :=
  ⟨⟨[], str_in P W s⟩, fun W' _ sp _ => Go.ChangeMaps.shut_string ht hs⟩

/-- all arguments' -/
def Pkgs {H : Type} (enc : TypeId × Value → H) (P : Program) (W : World) (ts : List TypeId) (vs : List Value) (ds : List (DataW H)) (q : List MemPlace) (A : List AV → Prop) : Prop :=
  (∃ rs : List Row0, (∀ r ∈ rs, r.ok P W) ∧ ∀ pre post, ∃ cs avs, LRel P (br (pre ++ rs ++ post)) cs vs ∧ RpL (fr0 (pre ++ rs ++ post)) (sr (pre ++ rs ++ post)) avs cs ∧ A avs) ∧
  ∀ W', Kept W W' → ∀ sp : Nat → Bool, (∀ x ∈ q, sp x.block = true) → DataW.TrodAll enc P W' 0 sp true ts vs ds q
theorem Pkgs.nil {H : Type} {enc : TypeId × Value → H} {P : Program} {W : World} : Pkgs enc P W [] [] [] [] fun l => l = [] :=
  ⟨⟨[], by simp, fun pre post => ⟨[], [], ⟨rfl, fun i x y h => by simp at h⟩, .nil, rfl⟩⟩, fun _ _ _ _ => trodAll_mk0⟩
theorem Pkgs.cons {H : Type} {enc : TypeId × Value → H} {P : Program} {W : World} {t : TypeId} {ts : List TypeId} {v : Value} {vs : List Value} {d : DataW H} {ds : List (DataW H)} {q qs : List MemPlace} {A : AV → Prop} {As : List AV → Prop}
    (h : Pkg enc P W t v d q A) (hs : Pkgs enc P W ts vs ds qs As) : Pkgs enc P W (t :: ts) (v :: vs) (d :: ds) (q ++ qs) fun l => ∃ a as, l = a :: as ∧ A a ∧ As as := by
  obtain ⟨⟨r0, o0, g0⟩, k0⟩ := h
  obtain ⟨⟨r1, o1, g1⟩, k1⟩ := hs
  refine ⟨⟨r0 ++ r1, fun r hr => (List.mem_append.1 hr).elim (o0 r) (o1 r), fun pre post => ?_⟩, fun W' hk sp hsp => trodAll_cons_mk (k0 W' hk sp fun x hx => hsp x (List.mem_append_left _ hx)) (k1 W' hk sp fun x hx => hsp x (List.mem_append_right _ hx))⟩
  have e0 : pre ++ (r0 ++ r1) ++ post = pre ++ r0 ++ (r1 ++ post) := by simp
  have e1 : pre ++ (r0 ++ r1) ++ post = (pre ++ r0) ++ r1 ++ post := by simp
  obtain ⟨c, a, m0, p0, q0⟩ := g0 pre (r1 ++ post)
  obtain ⟨cs, as, m1, p1, q1⟩ := g1 (pre ++ r0) post
  rw [← e0] at m0 p0
  rw [← e1] at m1 p1
  refine ⟨c :: cs, a :: as, ⟨by simp [m1.1], fun i x y hx hy => ?_⟩, .cons p0 p1, a, as, rfl, q0, q1⟩
  match i, hx, hy with
  | 0, hx, hy => cases hx; cases hy; exact m0
  | i + 1, hx, hy => exact m1.2 i x y hx hy
/-- A run that answers true, from its contract. -/
theorem runPk {H : Type} {enc : TypeId × Value → H} {P : Program} (hP : ProgOk P) {T : Nat → Option CFun} (hT : OkT P T) (hg : P.globals.size = 0) {f : Nat} {W : World} {ts : List TypeId} {vs : List Value} {ds : List (DataW H)} {q : List MemPlace} {A : List AV → Prop}
    (h : Pkgs enc P W ts vs ds q A) (hc : ∀ l, A l → Pure T f l (.bool true)) : Calls P f vs.toArray W fun e W' => e = .returned (.bool true) ∧ Kept W W' := by
  obtain ⟨⟨rs, o, g⟩, _⟩ := h
  obtain ⟨cs, as, m, p, q⟩ := g [] []
  simp only [List.nil_append, List.append_nil] at m p
  exact run_A hP hT hg (hc as q) o p m
end Go.Cn
