/- GroupMore: whatever the numbers, the statement's function returns true, changes nothing that was there, and never panics. No condition beyond the row's own. -/
import Derived.Test.YtplnafebmpldgaaSbG6
import Derived.Test.YtplnafebmpldgaaCnGlue4
import Derived.Test.YtplnafebmpldgaaRows
import Derived.WalkKit
import Derived.ProofKit
import Derived.OpenShut
import Derived.JoinedCond
import Derived.ChangeSlices
namespace Go.Proofs.Ytplnafebmpldgaa.groupMore
set_option linter.unusedSimpArgs false
open Go.ChangeShapes Go.WideShapes Go.ChangeAt Go.RowKit Go.Cn
set_option linter.unusedVariables false

theorem own : ownKnob Try.prog.godebug = none := by kernel_rfl
theorem ok1 : ProgOk Try.prog := progOk_of (by kernel_rfl) (by kernel_rfl)
theorem glob : Try.prog.globals.size = 0 := by kernel_rfl
theorem cells3 : Try.prog.cellsOf 3 = 1 := by kernel_rfl

theorem walk (z y x : Int) (l : List AV) (h : ∃ a l1, l = a :: l1 ∧ Sl 30 (fun l => l.map fun n => [.int .i64 n]) a ∧ ∃ a' l2, l1 = a' :: l2 ∧ a' = .int .i64 z ∧ ∃ a' l3, l2 = a' :: l3 ∧ a' = .int .i64 y ∧ ∃ a' l4, l3 = a' :: l4 ∧ a' = .int .i64 x ∧ l4 = []) : Pure code.T 3 l (.bool true) := by
  obtain ⟨a, l1, rfl, ⟨n, h1, h2⟩, _, _, rfl, rfl, _, _, rfl, rfl, _, _, rfl, rfl, rfl⟩ := h
  by_cases hc : 30 < n
  · cases h1 with
    | s b o n c => exact p.more_long z y x (.inl ⟨b, o, c, rfl⟩) hc
    | l E es t => exact p.more_long z y x (.inr ⟨E, es, t, rfl, rfl⟩) hc
  · obtain ⟨E, xs, e, rfl⟩ := h2 (by omega)
    exact p.more_main E xs z y x (by omega)

set_option maxRecDepth 100000 in
theorem contract (H : Type) (enc : TypeId × Value → H) (W : World) (base : Nat) (args : Array Value) (ds gs : List (DataW H)) (before : List MemPlace)
    (hval : ∀ (j : Nat) t v, Try.f3.params[j]? = some t → args[j]? = some v → Value.okWide Try.prog W .any base t v)
    (hW : DataW.Whole enc Try.prog Try.f3.params.toList Rows.groupMoreSpec.vars false W args.toList ds gs before) :
    Calls Try.prog 3 args W fun e W' => ∃ v, e = .returned v ∧ Rows.groupMoreSpec.post enc Try.prog Try.f3 false true false false W args v W' := by
  have hW' := hW
  obtain ⟨p, q, hA0, hV, rfl, hfz, hnd⟩ := hW
  have hA : DataW.TrodAll enc Try.prog W 0 (fun _ => true) true Try.f3.params.toList args.toList ds p := hA0
  rw [Try.params3] at hA hval
  obtain ⟨v0, vs0, d0, ds0, p0, q0, hargs, rfl, rfl, h0, r0⟩ := trodAll_cons hA
  obtain ⟨v1, vs1, d1, ds1, p1, q1, rfl, rfl, rfl, h1, r1⟩ := trodAll_cons r0
  obtain ⟨v2, vs2, d2, ds2, p2, q2, rfl, rfl, rfl, h2, r2⟩ := trodAll_cons r1
  obtain ⟨v3, vs3, d3, ds3, p3, q3, rfl, rfl, rfl, h3, r3⟩ := trodAll_cons r2
  obtain ⟨rfl, rfl, rfl⟩ := trodAll_nil r3
  obtain rfl : args = #[v0, v1, v2, v3] := by cases args; simp_all
  obtain ⟨rfl, rfl⟩ := trodVars_none hV
  obtain ⟨z, rfl, rfl, rfl, w1⟩ := open_int Try.underlying3 (hval 1 3 v1 rfl rfl) h1
  obtain ⟨y, rfl, rfl, rfl, w2⟩ := open_int Try.underlying3 (hval 2 3 v2 rfl rfl) h2
  obtain ⟨x, rfl, rfl, rfl, w3⟩ := open_int Try.underlying3 (hval 3 3 v3 rfl rfl) h3
  have k0 := ints_pkg (N := 30) (by decide) Try.underlying22 Try.underlying3 cells3 (okWide_slice Try.underlying22 (hval 0 22 v0 rfl rfl)) h0
  have kk := Pkgs.cons k0 (Pkgs.cons (int_pkg (enc := enc) (W := W) Try.underlying3 w1) (Pkgs.cons (int_pkg (enc := enc) (W := W) Try.underlying3 w2) (Pkgs.cons (int_pkg (enc := enc) (W := W) Try.underlying3 w3) Pkgs.nil)))
  refine (runPk ok1 (tab_ok Try.prog) glob kk (walk z y x)).mono fun e W' ⟨he, hg⟩ => ?_
  subst he
  exact ⟨_, rfl, post_of_kept (pa := p0 ++ ([] ++ ([] ++ ([] ++ [])))) (pv := []) hW' (fun _ _ _ => (trodAll_cons_mk (shut_bool Try.underlying4 _) trodAll_mk0)) (fun sp hsp => kk.2 W' hg sp fun x hx => hsp x (by simpa using hx)) (fun _ _ => rfl) (by simp)
    hg (ok_one (by kernel_rfl) rfl (okWide_bool_mk Try.underlying4 _))⟩

set_option maxRecDepth 100000 in
theorem lifted (os : Os) (started : os.Started) (H : Type) (enc : TypeId × Value → H) :
    ReturnsInHanded {} Try.checked os 3 .any (Rows.groupMoreSpec.pre6 enc Try.prog Try.f3 Rows.groupMoreRow.domain false) (Rows.groupMoreSpec.post enc Try.prog Try.f3 false true false false) := by
  refine returnsInHanded_of_change (C := Try.checked) own started (by kernel_rfl) Try.func3
    (ChangeSpec.witness6 (enc := enc) (C := Try.checked) false ⟨#[], #[.slice none 0 0, .int .i64 0, .int .i64 0, .int .i64 0], []⟩ 8 (by kernel_rfl) (by kernel_rfl) (by kernel_rfl) (by kernel_rfl)) ?_
  intro W base args ds gs before hval hW _ _
  exact contract H enc W base args ds gs before hval hW

theorem proved : Rows.GroupMoreSaid :=
  OpenClaim.holds_of_wide 3 Try.f3 rfl rfl rfl rfl rfl rfl rfl ⟨rfl, rfl, rfl, rfl, rfl⟩ rfl rfl rfl rfl rfl (by kernel_rfl) Try.func3 (by kernel_rfl)
    (of_decide_eq_true (by kernel_rfl)) (by unfold Func.isWrapper; first | (rw [if_pos (by decide +kernel)]; kernel_rfl) | (rw [if_neg (by decide +kernel)]; exact ⟨rfl, rfl⟩))
    (fun os started H enc _ => lifted os started H enc)
#print axioms proved
end Go.Proofs.Ytplnafebmpldgaa.groupMore
