/- ClassesAbove: for every row of numbers and every truth value the statement's function returns true, changes nothing that was there, and never panics. The variables hold what is listed (the card ties that to the program's text). -/
import Derived.Test.YtfagmflapdgcmaaDoorSbA14
import Derived.Test.YtfagmflapdgcmaaDoorCnDoorB
import Derived.Test.YtfagmflapdgcmaaDoorRows
import Derived.Test.YtfagmflapdgcmaaDoorCards
import Derived.Test.YtfagmflapdgcmaaDoorTie
import Derived.WalkKit
import Derived.ProofKit
import Derived.OpenShut
import Derived.JoinedCond
import Derived.ChangeSlices
import Derived.SevenTiedAt
namespace Go.Proofs.YtfagmflapdgcmaaDoor.classesAbove
open Go.ChangeShapes Go.WideShapes Go.ChangeAt Go.RowKit Go.Cn Go.Cn.Dr
set_option linter.unusedVariables false
set_option linter.unusedSimpArgs false

def gsN : List SenN := [("paideia/api.ErrLex", 2, [110, 111, 116, 32, 97, 32, 119, 111, 114, 100]), ("paideia/api.ErrParse", 3, [110, 111, 116, 32, 97, 32, 112, 114, 111, 103, 114, 97, 109]), ("paideia/api.ErrScope", 4, [97, 32, 110, 97, 109, 101, 32, 116, 104, 97, 116, 32, 105, 115, 32, 110, 111, 98, 111, 100, 121, 39, 115]), ("paideia/api.ErrTwice", 0, [97, 32, 110, 97, 109, 101, 32, 116, 119, 105, 99, 101]), ("paideia/api.ErrClass", 1, [110, 111, 116, 32, 97, 32, 99, 108, 97, 115, 115, 44, 32, 111, 114, 32, 110, 111, 116, 32, 97, 110, 32, 105, 110, 115, 116, 97, 110, 99, 101]), ("paideia/api.ErrType", 5, [116, 121, 112, 101, 115, 32, 116, 104, 97, 116, 32, 97, 114, 101, 32, 110, 111, 116, 32, 111, 110, 101]), ("paideia/api.ErrOccur", 6, [97, 32, 116, 121, 112, 101, 32, 119, 105, 116, 104, 105, 110, 32, 105, 116, 115, 101, 108, 102]), ("paideia/api.ErrKind", 7, [97, 32, 116, 121, 112, 101, 32, 119, 105, 116, 104, 32, 111, 116, 104, 101, 114, 32, 97, 114, 103, 117, 109, 101, 110, 116, 115]), ("paideia/api.ErrAmbig", 8, [97, 32, 116, 121, 112, 101, 32, 116, 104, 97, 116, 32, 105, 115, 32, 110, 111, 116, 32, 116, 111, 108, 100]), ("paideia/api.ErrNone", 9, [110, 111, 32, 105, 110, 115, 116, 97, 110, 99, 101]), ("paideia/api.ErrLimit", 10, [109, 111, 114, 101, 32, 116, 104, 97, 110, 32, 109, 97, 121, 32, 98, 101]), ("paideia/api.ErrFuel", 11, [116, 104, 101, 32, 102, 117, 101, 108, 32, 105, 115, 32, 117, 115, 101, 100, 32, 117, 112]), ("paideia/api.ErrHeap", 12, [116, 104, 101, 32, 104, 101, 97, 112, 32, 105, 115, 32, 102, 117, 108, 108]), ("paideia/api.ErrBlack", 13, [97, 32, 118, 97, 108, 117, 101, 32, 116, 104, 97, 116, 32, 110, 101, 101, 100, 115, 32, 105, 116, 115, 101, 108, 102]), ("paideia/api.ErrMatch", 14, [110, 111, 32, 97, 108, 116, 101, 114, 110, 97, 116, 105, 118, 101, 32, 102, 105, 116, 115])]
def gs : List Sen := [(2, [110, 111, 116, 32, 97, 32, 119, 111, 114, 100]), (3, [110, 111, 116, 32, 97, 32, 112, 114, 111, 103, 114, 97, 109]), (4, [97, 32, 110, 97, 109, 101, 32, 116, 104, 97, 116, 32, 105, 115, 32, 110, 111, 98, 111, 100, 121, 39, 115]), (0, [97, 32, 110, 97, 109, 101, 32, 116, 119, 105, 99, 101]), (1, [110, 111, 116, 32, 97, 32, 99, 108, 97, 115, 115, 44, 32, 111, 114, 32, 110, 111, 116, 32, 97, 110, 32, 105, 110, 115, 116, 97, 110, 99, 101]), (5, [116, 121, 112, 101, 115, 32, 116, 104, 97, 116, 32, 97, 114, 101, 32, 110, 111, 116, 32, 111, 110, 101]), (6, [97, 32, 116, 121, 112, 101, 32, 119, 105, 116, 104, 105, 110, 32, 105, 116, 115, 101, 108, 102]), (7, [97, 32, 116, 121, 112, 101, 32, 119, 105, 116, 104, 32, 111, 116, 104, 101, 114, 32, 97, 114, 103, 117, 109, 101, 110, 116, 115]), (8, [97, 32, 116, 121, 112, 101, 32, 116, 104, 97, 116, 32, 105, 115, 32, 110, 111, 116, 32, 116, 111, 108, 100]), (9, [110, 111, 32, 105, 110, 115, 116, 97, 110, 99, 101]), (10, [109, 111, 114, 101, 32, 116, 104, 97, 110, 32, 109, 97, 121, 32, 98, 101]), (11, [116, 104, 101, 32, 102, 117, 101, 108, 32, 105, 115, 32, 117, 115, 101, 100, 32, 117, 112]), (12, [116, 104, 101, 32, 104, 101, 97, 112, 32, 105, 115, 32, 102, 117, 108, 108]), (13, [97, 32, 118, 97, 108, 117, 101, 32, 116, 104, 97, 116, 32, 110, 101, 101, 100, 115, 32, 105, 116, 115, 101, 108, 102]), (14, [110, 111, 32, 97, 108, 116, 101, 114, 110, 97, 116, 105, 118, 101, 32, 102, 105, 116, 115])]
def ga (g : Nat) : Nat := match senAt g gs 0 with | some i => 15 + i | none => 0
theorem known (E : Nat → TypeId) : p.GA (gA 15 121 gs E) ga E where
  g := fun g hg => by
    have h : g = 0 ∨ g = 1 ∨ g = 2 ∨ g = 3 ∨ g = 4 ∨ g = 5 ∨ g = 6 ∨ g = 7 ∨ g = 8 ∨ g = 9 ∨ g = 10 ∨ g = 11 ∨ g = 12 ∨ g = 13 ∨ g = 14 := by omega
    rcases h with rfl | rfl | rfl | rfl | rfl | rfl | rfl | rfl | rfl | rfl | rfl | rfl | rfl | rfl | rfl <;> rfl
  s := fun g hg => by
    have h : g = 0 ∨ g = 1 ∨ g = 2 ∨ g = 3 ∨ g = 4 ∨ g = 5 ∨ g = 6 ∨ g = 7 ∨ g = 8 ∨ g = 9 ∨ g = 10 ∨ g = 11 ∨ g = 12 ∨ g = 13 ∨ g = 14 := by omega
    rcases h with rfl | rfl | rfl | rfl | rfl | rfl | rfl | rfl | rfl | rfl | rfl | rfl | rfl | rfl | rfl <;> exact ⟨_, _, rfl⟩
  inj := by
    have h : ∀ g, g < 15 → ∀ g', g' < 15 → ga g = ga g' → g = g' := by decide
    exact fun g g' h1 h2 h3 => h g h1 g' h2 h3

theorem ok1 : ProgOk Tryd.prog := progOk_of (by kernel_rfl) (by kernel_rfl)
theorem own : ownKnob Tryd.prog.godebug = none := by kernel_rfl
theorem gsize : Tryd.prog.globals.size = 15 := by kernel_rfl
theorem und47 : ∃ ms, Tryd.prog.underlying 47 = some (.interface ms) := ⟨_, Tryd.underlying47⟩
theorem star : "*" ++ "errors.errorString" = "*errors.errorString" := by decide
theorem rowTp (u : TypeId) (h : Tryd.prog.typeName? 3 u = some "*errors.errorString") : u = 121 :=
  typeName_ptr_named (nm := "errors.errorString") (by rw [star]; kernel_rfl) (by kernel_rfl) (by decide) u (by rw [star]; exact h)
theorem noByte : noU8 Tryd.prog 143 = true := by kernel_rfl
theorem named : okN Tryd.prog 47 gsN = true := by kernel_rfl
theorem typed : okS Tryd.prog gsN = true := by kernel_rfl
theorem apart : okD' gsN = true := by kernel_rfl
theorem cellsTe : Tryd.prog.cellsOf 143 = 1 := by kernel_rfl
theorem cellsTs : Tryd.prog.cellsOf 9 = 1 := by kernel_rfl
theorem cellsTi : Tryd.prog.cellsOf 3 = 1 := by kernel_rfl
theorem door (W : World) (hopen : W.ShapedOpen Tryd.prog) (hL : laidMet Tryd.prog Rows.classesAboveRow.laid W) : ∃ E A N, DoorW Tryd.prog W 15 121 gs E A N := by
  obtain ⟨ms, hms⟩ := und47
  exact doorW_of (l := gsN) (nm := "*errors.errorString") gsize hms rowTp Tryd.underlying121 Tryd.underlying143 rfl rfl Tryd.underlying9 cellsTe cellsTs noByte named typed apart hopen hL

set_option maxRecDepth 100000 in
theorem contract (H : Type) (enc : TypeId × Value → H) (W : World) (base : Nat) (args : Array Value) (ds gs' : List (DataW H)) (before : List MemPlace) (hopen : W.ShapedOpen Tryd.prog) (hL : laidMet Tryd.prog Rows.classesAboveRow.laid W)
    (hval : ∀ (j : Nat) t v, Tryd.f3.params[j]? = some t → args[j]? = some v → Value.okWide Tryd.prog W .any base t v)
    (hW : DataW.Whole enc Tryd.prog Tryd.f3.params.toList Rows.classesAboveSpec.vars false W args.toList ds gs' before) :
    Calls Tryd.prog 3 args W fun e W' => ∃ v, e = .returned v ∧ Rows.classesAboveSpec.post enc Tryd.prog Tryd.f3 false true false false W args v W' := by
  obtain ⟨Ed, Ad, Nd, hdoor⟩ := door W hopen hL
  have hW' := hW
  obtain ⟨p', q, hA0, hV, rfl, hfz, hnd⟩ := hW
  have hA : DataW.TrodAll enc Tryd.prog W 0 (fun _ => true) true Tryd.f3.params.toList args.toList ds p' := hA0
  rw [Tryd.params3] at hA hval
  obtain ⟨v0, vs0, d0, ds0, p0, q0, hargs, rfl, rfl, h0, r0⟩ := trodAll_cons hA
  obtain ⟨v1, vs1, d1, ds1, p1, q1, rfl, rfl, rfl, h1, r1⟩ := trodAll_cons r0
  obtain ⟨rfl, rfl, rfl⟩ := trodAll_nil r1
  obtain rfl : args = #[v0, v1] := by cases args; simp_all
  obtain ⟨rfl, rfl⟩ := trodVars_none hV
  obtain ⟨ring, rfl, rfl, rfl⟩ := open_bool Tryd.underlying4 (hval 1 4 v1 rfl rfl) h1
  obtain ⟨a0, len, cap, rfl⟩ := okWide_slice Tryd.underlying22 (hval 0 22 v0 rfl rfl)
  obtain ⟨fuel, hf⟩ := h0
  clear hA0
  simp only [List.append_nil] at hW'
  rcases open_ints Tryd.underlying22 Tryd.underlying3 cellsTi hf with ⟨hcs, hx⟩ | ⟨a, len', cap', zs, hcs, _, hl, hm, hz, hx, hcell, hwz⟩
  · simp [Value.cells] at hcs
    obtain ⟨rfl, rfl, rfl⟩ := hcs
    simp only [Prod.mk.injEq] at hx
    obtain ⟨rfl, rfl⟩ := hx
    refine (runG_nil hdoor ok1 (tab_ok Tryd.prog) (x := .bool ring) (xv := .bool ring) (fun F σ => .bool ring) (fun β => .bool ring) ((p.main_ok 0 [] ring (known Ed) _).mono fun v h' hv => hv.1)).mono fun e W' ⟨he, hg⟩ => ?_
    subst he
    exact ⟨_, rfl, post_of_kept (pa := []) (pv := []) hW' (fun _ _ _ => (trodAll_cons_mk (shut_bool Tryd.underlying4 _) trodAll_mk0)) (fun sp _ => (trodAll_cons_mk (shut_slice_nil Tryd.underlying22) (trodAll_cons_mk (shut_bool Tryd.underlying4 _) trodAll_mk0))) (fun _ _ => rfl) (by simp)
      hg (ok_one (by kernel_rfl) rfl (okWide_bool_mk Tryd.underlying4 _))⟩
  · simp [Value.cells] at hcs
    obtain ⟨rfl, rfl, rfl⟩ := hcs
    simp only [Prod.mk.injEq] at hx
    obtain ⟨rfl, rfl⟩ := hx
    simp only [if_true] at hz
    refine (runG_ints hdoor ok1 (tab_ok Tryd.prog) (k := .i64) (M := 40) (by decide) (x := .bool ring) (xv := .bool ring) (fun F σ => .bool ring) (fun β => .bool ring) (fun E' zs _ => (p.main_ok E' zs ring (known Ed) _).mono fun v h' hv => hv.1) (fun b o n c h => (p.main_long b o n c h ring _ _).mono fun v h' hv => hv.1) hl hz hcell).mono fun e W' ⟨he, hg⟩ => ?_
    subst he
    refine ⟨_, rfl, post_of_kept (pa := MemPlace.row a zs.length) (pv := []) hW' (fun _ _ _ => (trodAll_cons_mk (shut_bool Tryd.underlying4 _) trodAll_mk0)) (fun sp hsp => ?_) (fun _ _ => rfl) (by simp)
      hg (ok_one (by kernel_rfl) rfl (okWide_bool_mk Tryd.underlying4 _))⟩
    have hz' : zs.length = (if sp a.block then cap else len) := by
      by_cases h0 : zs.length = 0
      · rw [h0] at hz; split <;> omega
      · have hmem : MemPlace.cell a.block a.off ∈ MemPlace.row a zs.length := MemPlace.mem_row.2 ⟨0, by omega, by simp⟩
        have : sp (MemPlace.cell a.block a.off).block = true := hsp (MemPlace.cell a.block a.off) (by simpa using hmem)
        have : sp a.block = true := this
        rw [this]; simpa using hz
    have t0 := shut_ints (enc := enc) (w := W') (base := 0) (spare := sp) (held := true) 0 Tryd.underlying22 Tryd.underlying3 cellsTi (Nat.zero_le _) hl hm hz' (fun i hi => hg.cell (hcell i hi)) hwz
    have t1 := trodAll_cons_mk (⟨2, by simpa [Value.cells] using t0⟩ : DataW.Trod enc Tryd.prog W' 0 sp true 22 (.slice (some a) len cap) _ _) (trodAll_cons_mk (shut_bool Tryd.underlying4 ring) trodAll_mk0)
    simp only [List.append_nil] at t1
    exact t1

set_option maxRecDepth 100000 in
theorem lifted (os : Os) (started : os.Started) (H : Type) (enc : TypeId × Value → H) :
    ReturnsInHanded {} Tryd.checked os 3 .any (fun w args => (Rows.classesAboveSpec.pre enc Tryd.prog Tryd.f3 Rows.classesAboveRow.domain false w args ∧ laidMetH Tryd.prog Rows.classesAboveRow.laid w) ∧ sizedMet enc Tryd.prog Tryd.f3 (OpenSpec.ofChange Rows.classesAboveSpec) false w args)
      (Rows.classesAboveSpec.post enc Tryd.prog Tryd.f3 false true false false) := by
  refine returnsInHanded_of_door (C := Tryd.checked) (X := fun w _ => laidMetH Tryd.prog Rows.classesAboveRow.laid w) (fun _ _ _ hh h => h.of_heap hh) own started (by kernel_rfl) Tryd.func3
    (ChangeSpec.witness_shaped (enc := enc) (C := Tryd.checked) (os := os) (X := fun w _ => laidMetH Tryd.prog Rows.classesAboveRow.laid w) false (World.laidAll Tryd.prog os Rows.classesAboveRow.laid) #[.slice none 0 0, .bool false] 8 (World.laidAll_os _ _ _)
      (World.shaped_of_ZipB (by kernel_rfl) (by kernel_rfl)) (by kernel_rfl) (by kernel_rfl) (by kernel_rfl)
      (by rw [laidH_plain (by kernel_rfl)]; exact laidMet_laidAll _ (by kernel_rfl) (by kernel_rfl))) ?_
  intro W base args ds gs' before hopen hval hW hL0
  have hL : laidMet Tryd.prog Rows.classesAboveRow.laid W := by rw [← laidH_plain (by kernel_rfl)]; exact hL0
  exact contract H enc W base args ds gs' before hopen hL hval hW

theorem row : Rows.ClassesAboveSaid :=
  OpenClaim.holds_of_wide 3 Tryd.f3 rfl rfl rfl rfl rfl rfl rfl ⟨rfl, rfl, rfl, rfl, rfl⟩ rfl rfl rfl rfl rfl (by kernel_rfl) Tryd.func3 (by kernel_rfl)
    (of_decide_eq_true (by kernel_rfl)) (by unfold Func.isWrapper; first | (rw [if_pos (by decide +kernel)]; kernel_rfl) | (rw [if_neg (by decide +kernel)]; exact ⟨rfl, rfl⟩))
    (fun os started H enc _ => lifted os started H enc)

theorem proved : Rows.ClassesAboveCardSaid :=
  Claim7.holds_tied_plain_at .later [] [.sentinel, .sentinel, .sentinel, .sentinel, .sentinel, .sentinel, .sentinel, .sentinel, .sentinel, .sentinel, .sentinel, .sentinel, .sentinel, .sentinel, .sentinel] true (true, "734e0da8e2861b63930aa4c4f96906b076120bf48a6afce8581550042e3bb685") true
    row (fun _ h => by cases h) (by kernel_rfl) (fun _ h => by cases h) classesAbove_row_tie rfl ⟨rfl, rfl⟩ (by kernel_rfl) rfl
    (fun f fn hf hfn => by
      obtain rfl : f = 3 := Option.some.inj ((show Tryd.prog.funcNamed "paideia/paideialaw12.ClassesAbove" = some 3 by kernel_rfl).symm.trans hf) |>.symm
      obtain rfl : fn = Tryd.f3 := (Option.some.inj (Tryd.func3.symm.trans hfn)).symm
      exact ⟨by kernel_rfl, fun j t ht => by
        rw [Tryd.params3] at ht
        have h3 : t = 22 ∨ t = 4 := by
          rcases j with _ | _ | j
          · exact .inl (by simpa using ht.symm)
          · exact .inr (by simpa using ht.symm)
          · simp at ht
        rcases h3 with rfl | rfl
        · exact (show Tryd.prog.wantsStandIn 22 = false by kernel_rfl)
        · exact (show Tryd.prog.wantsStandIn 4 = false by kernel_rfl)⟩)
    (by kernel_rfl)
#print axioms proved
end Go.Proofs.YtfagmflapdgcmaaDoor.classesAbove
