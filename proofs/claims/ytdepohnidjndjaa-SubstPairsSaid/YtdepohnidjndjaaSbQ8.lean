/- SubstPairs: for every row of numbers the statement's function returns true, changes nothing that was there, and never panics. No condition beyond the row's own. -/
import Derived.Test.YtdepohnidjndjaaSbQ6
import Derived.Test.YtdepohnidjndjaaCnGlue
import Derived.Test.YtdepohnidjndjaaRows
import Derived.WalkKit
import Derived.ProofKit
import Derived.OpenShut
import Derived.JoinedCond
import Derived.ChangeSlices
namespace Go.Proofs.Ytdepohnidjndjaa.substPairs
set_option linter.unusedSimpArgs false
open Go.ChangeShapes Go.WideShapes Go.ChangeAt Go.RowKit Go.Cn
set_option linter.unusedVariables false

theorem own : ownKnob Try.prog.godebug = none := by kernel_rfl
theorem ok1 : ProgOk Try.prog := progOk_of (by kernel_rfl) (by kernel_rfl)
theorem glob : Try.prog.globals.size = 0 := by kernel_rfl
theorem cells3 : Try.prog.cellsOf 3 = 1 := by kernel_rfl

set_option maxRecDepth 100000 in
theorem contract (H : Type) (enc : TypeId × Value → H) (W : World) (base : Nat) (args : Array Value) (ds gs : List (DataW H)) (before : List MemPlace)
    (hval : ∀ (j : Nat) t v, Try.f6.params[j]? = some t → args[j]? = some v → Value.okWide Try.prog W .any base t v)
    (hW : DataW.Whole enc Try.prog Try.f6.params.toList Rows.substPairsSpec.vars false W args.toList ds gs before) :
    Calls Try.prog 6 args W fun e W' => ∃ v, e = .returned v ∧ Rows.substPairsSpec.post enc Try.prog Try.f6 false true false false W args v W' := by
  have hW' := hW
  obtain ⟨p, q, hA0, hV, rfl, hfz, hnd⟩ := hW
  have hA : DataW.TrodAll enc Try.prog W 0 (fun _ => true) true Try.f6.params.toList args.toList ds p := hA0
  rw [Try.params6] at hA hval
  obtain ⟨v0, vs0, d0, ds0, p0, q0, hargs, rfl, rfl, h0, r0⟩ := trodAll_cons hA
  obtain ⟨rfl, rfl, rfl⟩ := trodAll_nil r0
  obtain rfl : args = #[v0] := by cases args; simp_all
  obtain ⟨rfl, rfl⟩ := trodVars_none hV
  obtain ⟨a0, len, cap, rfl⟩ := okWide_slice Try.underlying22 (hval 0 22 v0 rfl rfl)
  obtain ⟨fuel, hf⟩ := h0
  clear hA0
  simp only [List.append_nil] at hW'
  rcases open_ints Try.underlying22 Try.underlying3 cells3 hf with ⟨hcs, hx⟩ | ⟨a, len', cap', zs, hcs, _, hl, hm, hz, hx, hcell, hwz⟩
  · simp [Value.cells] at hcs
    obtain ⟨rfl, rfl, rfl⟩ := hcs
    simp only [Prod.mk.injEq] at hx
    obtain ⟨rfl, rfl⟩ := hx
    refine (run_intsNil ok1 (tab_ok Try.prog) glob (k := .i64) (N := 100) (fun E zs _ => p.pairs_main E zs)).mono fun e W' ⟨he, hg⟩ => ?_
    subst he
    exact ⟨_, rfl, post_of_kept (pa := []) (pv := []) hW' (fun _ _ _ => (trodAll_cons_mk (shut_bool Try.underlying4 _) trodAll_mk0)) (fun sp _ => (trodAll_cons_mk (shut_slice_nil Try.underlying22) trodAll_mk0)) (fun _ _ => rfl) rfl
      hg (ok_one (by kernel_rfl) rfl (okWide_bool_mk Try.underlying4 _))⟩
  · simp [Value.cells] at hcs
    obtain ⟨rfl, rfl, rfl⟩ := hcs
    simp only [Prod.mk.injEq] at hx
    obtain ⟨rfl, rfl⟩ := hx
    simp only [if_true] at hz
    refine (run_ints ok1 (tab_ok Try.prog) glob (k := .i64) (N := 100) (by decide) (fun E zs _ => p.pairs_main E zs) (fun b o n c h => p.pairs_long b o n c h) hl hz hcell).mono fun e W' ⟨he, hg⟩ => ?_
    subst he
    refine ⟨_, rfl, post_of_kept (pa := MemPlace.row a zs.length) (pv := []) hW' (fun _ _ _ => (trodAll_cons_mk (shut_bool Try.underlying4 _) trodAll_mk0)) (fun sp hsp => ?_) (fun _ _ => rfl) (by simp)
      hg (ok_one (by kernel_rfl) rfl (okWide_bool_mk Try.underlying4 _))⟩
    have hz' : zs.length = (if sp a.block then cap else len) := by
      by_cases h0 : zs.length = 0
      · rw [h0] at hz; split <;> omega
      · have hmem : MemPlace.cell a.block a.off ∈ MemPlace.row a zs.length := MemPlace.mem_row.2 ⟨0, by omega, by simp⟩
        have : sp (MemPlace.cell a.block a.off).block = true := hsp (MemPlace.cell a.block a.off) (by simpa using hmem)
        have : sp a.block = true := this
        rw [this]; simpa using hz
    have t0 := shut_ints (enc := enc) (w := W') (base := 0) (spare := sp) (held := true) 0 Try.underlying22 Try.underlying3 cells3 (Nat.zero_le _) hl hm hz' (fun i hi => hg.cell (hcell i hi)) hwz
    have t1 := trodAll_cons_mk (⟨2, by simpa [Value.cells] using t0⟩ : DataW.Trod enc Try.prog W' 0 sp true 22 (.slice (some a) len cap) _ _) trodAll_mk0
    rw [List.append_nil] at t1
    exact t1

set_option maxRecDepth 100000 in
theorem lifted (os : Os) (started : os.Started) (H : Type) (enc : TypeId × Value → H) :
    ReturnsInHanded {} Try.checked os 6 .any (Rows.substPairsSpec.pre6 enc Try.prog Try.f6 Rows.substPairsRow.domain false) (Rows.substPairsSpec.post enc Try.prog Try.f6 false true false false) := by
  refine returnsInHanded_of_change (C := Try.checked) own started (by kernel_rfl) Try.func6
    (ChangeSpec.witness6 (enc := enc) (C := Try.checked) false ⟨#[], #[.slice none 0 0], []⟩ 8 (by kernel_rfl) (by kernel_rfl) (by kernel_rfl) (by kernel_rfl)) ?_
  intro W base args ds gs before hval hW _ _
  exact contract H enc W base args ds gs before hval hW

theorem proved : Rows.SubstPairsSaid :=
  OpenClaim.holds_of_wide 6 Try.f6 rfl rfl rfl rfl rfl rfl rfl ⟨rfl, rfl, rfl, rfl, rfl⟩ rfl rfl rfl rfl rfl (by kernel_rfl) Try.func6 (by kernel_rfl)
    (of_decide_eq_true (by kernel_rfl)) (by unfold Func.isWrapper; first | (rw [if_pos (by decide +kernel)]; kernel_rfl) | (rw [if_neg (by decide +kernel)]; exact ⟨rfl, rfl⟩))
    (fun os started H enc _ => lifted os started H enc)
#print axioms proved
end Go.Proofs.Ytdepohnidjndjaa.substPairs
