/- SubstSays: whatever the numbers, the name and the names, the statement's function returns true, changes nothing that was there, and never panics. No condition beyond the row's own. -/
import Derived.Test.YtdepohnidjndjaaSbR11
import Derived.Test.YtdepohnidjndjaaCnGlue3
import Derived.Test.YtdepohnidjndjaaRows
import Derived.WalkKit
import Derived.ProofKit
import Derived.OpenShut
import Derived.JoinedCond
import Derived.ChangeSlices
import Derived.SliceStrings
import Derived.ChangeMaps5
namespace Go.Proofs.Ytdepohnidjndjaa.substSays
set_option linter.unusedSimpArgs false
open Go.ChangeShapes Go.WideShapes Go.ChangeAt Go.RowKit Go.Cn
set_option linter.unusedVariables false

section
variable {H : Type} {enc : TypeId × Value → H} {P : Program} {w : World} {base : Nat} {spare : Nat → Bool} {held : Bool}
theorem trod_string_mk {t : TypeId} {s : ByteArray} (m : Nat) (ht : P.underlying t = some .string) (hs : s.size ≤ maxLen) : DataW.trod enc P w base spare held (m + 1) t [.string s] = some (.lit (.string s.data.toList), []) := by
  simp [DataW.trod, ht, hs]
theorem shut_strs {t e : TypeId} {a : Addr} {len cap : Nat} {zs : List ByteArray} (m : Nat) (ht : P.underlying t = some (.slice e)) (he : P.underlying e = some .string) (hc : P.cellsOf e = 1)
    (hb : base ≤ a.block) (hl : len ≤ cap) (hm : cap ≤ maxLen) (hz : zs.length = (if spare a.block then cap else len))
    (hcell : ∀ i, i < zs.length → w.cell? (a.add i) = some (.string (zs.getD i ByteArray.empty))) (hw : ∀ s ∈ zs, s.size ≤ maxLen) :
    DataW.trod enc P w base spare held (m + 2) t [.slice (some a) len cap] = some (.slice (strs (zs.take len)) (strs (zs.drop len)), MemPlace.row a zs.length) := by
  have hlz : len ≤ zs.length := by rw [hz]; split <;> omega
  have one : ∀ i, i < zs.length → (w.cells? base (a.add (i * P.cellsOf e)) (P.cellsOf e)).bind (DataW.trod enc P w base spare held (m + 1) e) = some ((.lit (.string (zs.getD i ByteArray.empty).data.toList), []) : DataW H × List MemPlace) := by
    intro i hi
    rw [hc, Nat.mul_one, cells?_one (by rw [block_add]; exact hb) (hcell i hi)]
    exact trod_string_mk m he (hw _ (by
      have : zs.getD i ByteArray.empty = zs[i] := by simp [List.getD, hi]
      rw [this]
      exact List.getElem_mem hi))
  have t1 : (List.range len).map (fun i => ((.lit (.string (zs.getD i ByteArray.empty).data.toList), []) : DataW H × List MemPlace)) = (zs.take len).map fun s => (.lit (.string s.data.toList), []) := by
    apply List.ext_getElem?
    intro i
    by_cases hi : i < len
    · simp [hi, List.getD, show i < zs.length by omega]
    · simp [hi, List.getElem?_take]
  have t2 : (List.range (zs.length - len)).map (fun j => ((.lit (.string (zs.getD (len + j) ByteArray.empty).data.toList), []) : DataW H × List MemPlace)) = (zs.drop len).map fun s => (.lit (.string s.data.toList), []) := by
    apply List.ext_getElem?
    intro j
    by_cases hj : j < zs.length - len
    · simp [hj, List.getD, show len + j < zs.length by omega]
    · simp [hj]
  rw [DataW.trod_step]
  unfold DataW.trodStep
  simp only [ht]
  rw [if_pos ⟨hb, hl, hm⟩, mapM_range_of len (fun i hi => one i (by omega)), t1]
  simp only [Option.bind_some]
  cases hs : spare a.block with
  | false =>
    have hzl : zs.length = len := by simpa [hs] using hz
    simp [strs, hzl, hc, List.take_of_length_le (Nat.le_of_eq hzl), List.drop_of_length_le (Nat.le_of_eq hzl), List.flatMap_eq_nil_iff]
  | true =>
    have hzl : zs.length = cap := by simpa [hs] using hz
    simp only [if_true]
    rw [← hzl, mapM_range_of (zs.length - len) (fun j hj => one (len + j) (by omega)), t2]
    simp [strs, hc]
    refine ⟨⟨rfl, rfl⟩, ?_⟩
    have z : ∀ l : List (DataW H × List MemPlace), (∀ y ∈ l, y ∈ zs.map (fun s => ((.lit (.string s.data.toList), []) : DataW H × List MemPlace))) → l.flatMap (·.2) = [] := fun l h =>
      List.flatMap_eq_nil_iff.2 fun y hy => by
        obtain ⟨n, _, rfl⟩ := List.mem_map.1 (h y hy)
        rfl
    rw [z _ (fun y hy => List.mem_of_mem_take hy), z _ (fun y hy => List.mem_of_mem_drop hy), show min len zs.length + (zs.length - len) = zs.length by omega]
    simp
end

/-- what an argument brings: the rows inside, and that it is seen again as it was -/
def Pkg {H : Type} (enc : TypeId × Value → H) (P : Program) (W : World) (t : TypeId) (v : Value) (d : DataW H) (q : List MemPlace) (A : AV → Prop) : Prop :=
  (∃ rs, ArgIn P W v rs A) ∧ ∀ W', Kept W W' → ∀ sp : Nat → Bool, (∀ x ∈ q, sp x.block = true) → DataW.Trod enc P W' 0 sp true t v d q
/-- a row, long or short -/
def Sl {α : Type} (N : Nat) (mk : List α → List (List AV)) (av : AV) : Prop := ∃ n, p.Lng av n ∧ (n ≤ N → ∃ E xs, xs.length = n ∧ av = .lst E (mk xs) .no)

theorem spare_of {a : Addr} {n len cap : Nat} {sp : Nat → Bool} (hz : n = cap) (hle : len ≤ cap) (h : ∀ x ∈ MemPlace.row a n, sp x.block = true) : n = (if sp a.block then cap else len) := by
  by_cases h0 : n = 0
  · split <;> omega
  · have := h (MemPlace.cell a.block a.off) (MemPlace.mem_row.2 ⟨0, by omega, by simp⟩)
    have : sp a.block = true := this
    rw [this]; simpa using hz

theorem ints_pkg {H : Type} {enc : TypeId × Value → H} {P : Program} {W : World} {t e : TypeId} {k : IntKind} {v : Value} {d : DataW H} {q : List MemPlace} {N : Nat} (hN : N ≤ big) (ht : P.underlying t = some (.slice e)) (he : P.underlying e = some (.int k)) (hc : P.cellsOf e = 1)
    (hv : ∃ a len cap, v = .slice a len cap) (hT : DataW.Trod enc P W 0 (fun _ => true) true t v d q) : Pkg enc P W t v d q (Sl N fun l => l.map fun n => [.int k n]) := by
  obtain ⟨a0, len, cap, rfl⟩ := hv
  obtain ⟨fuel, hf⟩ := hT
  rcases open_ints ht he hc hf with ⟨hcs, hx⟩ | ⟨a, len', cap', zs, hcs, _, hl, hm, hz, hx, hcell, hwz⟩
  · simp [Value.cells] at hcs
    obtain ⟨rfl, rfl, rfl⟩ := hcs
    simp only [Prod.mk.injEq] at hx
    obtain ⟨rfl, rfl⟩ := hx
    obtain ⟨h1, h2⟩ := nil_in P W
    exact ⟨⟨_, h1, fun pre post => by
      obtain ⟨c, av, g1, g2, g3⟩ := h2 pre post
      subst g3
      exact ⟨c, _, g1, g2, 0, .l _ _ _, fun _ => ⟨0, [], rfl, rfl⟩⟩⟩, fun W' _ sp _ => shut_slice_nil ht⟩
  · simp [Value.cells] at hcs
    obtain ⟨rfl, rfl, rfl⟩ := hcs
    simp only [Prod.mk.injEq] at hx
    obtain ⟨rfl, rfl⟩ := hx
    simp only [if_true] at hz
    obtain ⟨rs, h1, h2⟩ := ints_in (P := P) (N := N) hN hl hz hcell
    refine ⟨⟨rs, h1, fun pre post => ?_⟩, fun W' hk sp hsp => ?_⟩
    · obtain ⟨c, av, g1, g2, g3⟩ := h2 pre post
      refine ⟨c, av, g1, g2, len, ?_⟩
      have hlen : (zs.take len).length = len := by rw [List.length_take]; omega
      rcases g3 with ⟨hn, E, rfl⟩ | ⟨hn, b, o, rfl⟩
      · have h5 := p.Lng.l E ((zs.take len).map fun n => [AV.int k n]) .no
        rw [List.length_map, hlen] at h5
        exact ⟨h5, fun _ => ⟨E, _, hlen, rfl⟩⟩
      · exact ⟨.s _ _ _ _, fun h => absurd h (by omega)⟩
    · have t0 := shut_ints (enc := enc) (w := W') (base := 0) (spare := sp) (held := true) 0 ht he hc (Nat.zero_le _) hl hm (spare_of hz hl hsp) (fun i hi => hk.cell (hcell i hi)) hwz
      exact ⟨2, by simpa [Value.cells] using t0⟩

theorem strs_pkg {H : Type} {enc : TypeId × Value → H} {P : Program} {W : World} {t e : TypeId} {v : Value} {d : DataW H} {q : List MemPlace} {N : Nat} (hN : N ≤ big) (ht : P.underlying t = some (.slice e)) (he : P.underlying e = some .string) (hc : P.cellsOf e = 1)
    (hv : ∃ a len cap, v = .slice a len cap) (hT : DataW.Trod enc P W 0 (fun _ => true) true t v d q) : Pkg enc P W t v d q (Sl N p.strC) := by
  obtain ⟨a0, len, cap, rfl⟩ := hv
  obtain ⟨fuel, hf⟩ := hT
  rcases open_strings ht he hc hf with ⟨hcs, hx⟩ | ⟨a, len', cap', zs, hcs, _, hl, hm, hz, hx, hcell, hwz⟩
  · simp [Value.cells] at hcs
    obtain ⟨rfl, rfl, rfl⟩ := hcs
    simp only [Prod.mk.injEq] at hx
    obtain ⟨rfl, rfl⟩ := hx
    obtain ⟨h1, h2⟩ := nil_in P W
    exact ⟨⟨_, h1, fun pre post => by
      obtain ⟨c, av, g1, g2, g3⟩ := h2 pre post
      subst g3
      exact ⟨c, _, g1, g2, 0, .l _ _ _, fun _ => ⟨0, [], rfl, rfl⟩⟩⟩, fun W' _ sp _ => shut_slice_nil ht⟩
  · simp [Value.cells] at hcs
    obtain ⟨rfl, rfl, rfl⟩ := hcs
    simp only [Prod.mk.injEq] at hx
    obtain ⟨rfl, rfl⟩ := hx
    simp only [if_true] at hz
    obtain ⟨rs, h1, h2⟩ := strs_in (P := P) (N := N) hN hl hz hcell
    refine ⟨⟨rs, h1, fun pre post => ?_⟩, fun W' hk sp hsp => ?_⟩
    · obtain ⟨c, av, g1, g2, g3⟩ := h2 pre post
      refine ⟨c, av, g1, g2, len, ?_⟩
      have hlen : (zs.take len).length = len := by rw [List.length_take]; omega
      rcases g3 with ⟨hn, E, rfl⟩ | ⟨hn, b, o, rfl⟩
      · have h5 := p.Lng.l E ((zs.take len).map fun x => [AV.str x.data.toList]) .no
        rw [List.length_map, hlen] at h5
        exact ⟨h5, fun _ => ⟨E, (zs.take len).map fun x => x.data.toList, by rw [List.length_map, hlen], by rw [p.strC, List.map_map]; rfl⟩⟩
      · exact ⟨.s _ _ _ _, fun h => absurd h (by omega)⟩
    · have t0 := shut_strs (enc := enc) (w := W') (base := 0) (spare := sp) (held := true) 0 ht he hc (Nat.zero_le _) hl hm (spare_of hz hl hsp) (fun i hi => hk.cell (hcell i hi)) hwz
      exact ⟨2, by simpa [Value.cells] using t0⟩

theorem own : ownKnob Try.prog.godebug = none := by kernel_rfl
theorem ok1 : ProgOk Try.prog := progOk_of (by kernel_rfl) (by kernel_rfl)
theorem glob : Try.prog.globals.size = 0 := by kernel_rfl
theorem cells3 : Try.prog.cellsOf 3 = 1 := by kernel_rfl
theorem cells9 : Try.prog.cellsOf 9 = 1 := by kernel_rfl

theorem walk (a0 a1 a2 a3 : AV) (s : List UInt8) (h0 : Sl 200 (fun l => l.map fun n => [.int .i64 n]) a0) (h1 : a1 = .str s) (h2 : Sl 5 p.strC a2) (h3 : Sl 5 p.strC a3) : Pure code.T 5 [a0, a1, a2, a3] (.bool true) := by
  subst h1
  obtain ⟨n0, l0, g0⟩ := h0
  obtain ⟨n2, l2, g2⟩ := h2
  obtain ⟨n3, l3, g3⟩ := h3
  by_cases hc : 200 < n0 ∨ 40 < s.length ∨ 5 < n2 ∨ 5 < n3
  · exact p.says_early s l0 l2 l3 hc
  · obtain ⟨E, x0, e0, rfl⟩ := g0 (by omega)
    obtain ⟨E2, x2, e2, rfl⟩ := g2 (by omega)
    obtain ⟨E3, x3, e3, rfl⟩ := g3 (by omega)
    exact p.says_main E E2 E3 x0 s x2 x3 (by omega) (by omega) (by omega) (by omega)

set_option maxRecDepth 100000 in
theorem contract (H : Type) (enc : TypeId × Value → H) (W : World) (base : Nat) (args : Array Value) (ds gs : List (DataW H)) (before : List MemPlace)
    (hval : ∀ (j : Nat) t v, Try.f5.params[j]? = some t → args[j]? = some v → Value.okWide Try.prog W .any base t v)
    (hW : DataW.Whole enc Try.prog Try.f5.params.toList Rows.substSaysSpec.vars false W args.toList ds gs before) :
    Calls Try.prog 5 args W fun e W' => ∃ v, e = .returned v ∧ Rows.substSaysSpec.post enc Try.prog Try.f5 false true false false W args v W' := by
  have hW' := hW
  obtain ⟨p, q, hA0, hV, rfl, hfz, hnd⟩ := hW
  have hA : DataW.TrodAll enc Try.prog W 0 (fun _ => true) true Try.f5.params.toList args.toList ds p := hA0
  rw [Try.params5] at hA hval
  obtain ⟨v0, vs0, d0, ds0, p0, q0, hargs, rfl, rfl, h0, r0⟩ := trodAll_cons hA
  obtain ⟨v1, vs1, d1, ds1, p1, q1, rfl, rfl, rfl, h1, r1⟩ := trodAll_cons r0
  obtain ⟨v2, vs2, d2, ds2, p2, q2, rfl, rfl, rfl, h2, r2⟩ := trodAll_cons r1
  obtain ⟨v3, vs3, d3, ds3, p3, q3, rfl, rfl, rfl, h3, r3⟩ := trodAll_cons r2
  obtain ⟨rfl, rfl, rfl⟩ := trodAll_nil r3
  obtain rfl : args = #[v0, v1, v2, v3] := by cases args; simp_all
  obtain ⟨rfl, rfl⟩ := trodVars_none hV
  obtain ⟨s, rfl, rfl, rfl, hs⟩ := Go.ChangeMaps.open_string Try.underlying9 (hval 1 9 v1 rfl rfl) h1
  obtain ⟨⟨rs0, i0⟩, k0⟩ := ints_pkg (N := 200) (by decide) Try.underlying22 Try.underlying3 cells3 (okWide_slice Try.underlying22 (hval 0 22 v0 rfl rfl)) h0
  obtain ⟨⟨rs2, i2⟩, k2⟩ := strs_pkg (N := 5) (by decide) Try.underlying45 Try.underlying9 cells9 (okWide_slice Try.underlying45 (hval 2 45 v2 rfl rfl)) h2
  obtain ⟨⟨rs3, i3⟩, k3⟩ := strs_pkg (N := 5) (by decide) Try.underlying45 Try.underlying9 cells9 (okWide_slice Try.underlying45 (hval 3 45 v3 rfl rfl)) h3
  refine (run4 ok1 (tab_ok Try.prog) glob i0 (str_in Try.prog W s) i2 i3 (fun a0 a1 a2 a3 g0 g1 g2 g3 => walk a0 a1 a2 a3 _ g0 g1 g2 g3)).mono fun e W' ⟨he, hg⟩ => ?_
  subst he
  refine ⟨_, rfl, post_of_kept (pa := p0 ++ ([] ++ (p2 ++ (p3 ++ [])))) (pv := []) hW' (fun _ _ _ => (trodAll_cons_mk (shut_bool Try.underlying4 _) trodAll_mk0)) (fun sp hsp => ?_) (fun _ _ => rfl) (by simp)
    hg (ok_one (by kernel_rfl) rfl (okWide_bool_mk Try.underlying4 _))⟩
  exact trodAll_cons_mk (k0 W' hg sp fun x hx => hsp x (by simp [hx])) (trodAll_cons_mk (Go.ChangeMaps.shut_string Try.underlying9 hs) (trodAll_cons_mk (k2 W' hg sp fun x hx => hsp x (by simp [hx])) (trodAll_cons_mk (k3 W' hg sp fun x hx => hsp x (by simp [hx])) trodAll_mk0)))

set_option maxRecDepth 100000 in
theorem lifted (os : Os) (started : os.Started) (H : Type) (enc : TypeId × Value → H) :
    ReturnsInHanded {} Try.checked os 5 .any (Rows.substSaysSpec.pre6 enc Try.prog Try.f5 Rows.substSaysRow.domain false) (Rows.substSaysSpec.post enc Try.prog Try.f5 false true false false) := by
  refine returnsInHanded_of_change (C := Try.checked) own started (by kernel_rfl) Try.func5
    (ChangeSpec.witness6 (enc := enc) (C := Try.checked) false ⟨#[], #[.slice none 0 0, .string ⟨⟨[]⟩⟩, .slice none 0 0, .slice none 0 0], []⟩ 8 (by kernel_rfl) (by kernel_rfl) (by kernel_rfl) (by kernel_rfl)) ?_
  intro W base args ds gs before hval hW _ _
  exact contract H enc W base args ds gs before hval hW

theorem proved : Rows.SubstSaysSaid :=
  OpenClaim.holds_of_wide 5 Try.f5 rfl rfl rfl rfl rfl rfl rfl ⟨rfl, rfl, rfl, rfl, rfl⟩ rfl rfl rfl rfl rfl (by kernel_rfl) Try.func5 (by kernel_rfl)
    (of_decide_eq_true (by kernel_rfl)) (by unfold Func.isWrapper; first | (rw [if_pos (by decide +kernel)]; kernel_rfl) | (rw [if_neg (by decide +kernel)]; exact ⟨rfl, rfl⟩))
    (fun os started H enc _ => lifted os started H enc)
#print axioms proved
end Go.Proofs.Ytdepohnidjndjaa.substSays
