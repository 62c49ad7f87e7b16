/- CheckErrors: for every number the statement's function returns true, changes nothing that was there, and never panics. The variables hold what is listed (the card ties that to the program's text). -/
import Derived.Test.YtjagadjljllabaaGreatDoorSbceRun0
import Derived.Test.YtjagadjljllabaaGreatDoorSbceRun1
import Derived.Test.YtjagadjljllabaaGreatDoorSbceRun2
import Derived.Test.YtjagadjljllabaaGreatDoorSbceRun3
import Derived.Test.YtjagadjljllabaaGreatDoorRows
import Derived.Test.YtjagadjljllabaaGreatDoorCards
import Derived.Test.YtjagadjljllabaaGreatDoorTie
import Derived.WalkKit
import Derived.ProofKit
import Derived.OpenShut
import Derived.JoinedCond
import Derived.SevenTiedAt
namespace Go.Proofs.YtjagadjljllabaaGreatDoor.checkErrors
set_option linter.unusedSimpArgs false
open Go.ChangeShapes Go.WideShapes Go.ChangeAt Go.RowKit Go.Cn Go.Cn.Ev
set_option linter.unusedVariables false

theorem V_range (n : Int) : 0 ≤ ce.V n ∧ ce.V n < 12 := by
  have h2 : - 12 < Int.tmod n 12 := Int.lt_tmod_of_pos n (by decide)
  have h3 : Int.tmod n 12 < 12 := Int.tmod_lt_of_pos n (by decide)
  have e : wrapE .i64 (addI (Int.tmod n 12) 12) = Int.tmod n 12 + 12 := by
    rw [wrapE_eq, addI_eq]
    exact Go.Cn.Ev.wrap_small _ _ ⟨by simp only [loOf]; omega, by simp only [hiOf]; omega⟩
  unfold ce.V
  rw [e]
  exact ⟨Int.tmod_nonneg 12 (by omega), Int.tmod_lt_of_pos _ (by decide)⟩
theorem all (E : Nat → TypeId) (k : Int) (h : 0 ≤ k ∧ k < 12) (n : Int) : ce.rB E k n = true := by
  have : k = 0 ∨ k = 1 ∨ k = 2 ∨ k = 3 ∨ k = 4 ∨ k = 5 ∨ k = 6 ∨ k = 7 ∨ k = 8 ∨ k = 9 ∨ k = 10 ∨ k = 11 := by omega
  rcases this with rfl | rfl | rfl | rfl | rfl | rfl | rfl | rfl | rfl | rfl | rfl | rfl
  · exact ce.r0 E n
  · exact ce.r1 E n
  · exact ce.r2 E n
  · exact ce.r3 E n
  · exact ce.r4 E n
  · exact ce.r5 E n
  · exact ce.r6 E n
  · exact ce.r7 E n
  · exact ce.r8 E n
  · exact ce.r9 E n
  · exact ce.r10 E n
  · exact ce.r11 E n

theorem own : ownKnob Tryz.prog.godebug = none := by kernel_rfl
theorem gsize : Tryz.prog.globals.size = 18 := by kernel_rfl
theorem und44 : ∃ ms, Tryz.prog.underlying 44 = some (.interface ms) := ⟨_, Tryz.underlying44⟩
theorem star : "*" ++ "errors.errorString" = "*errors.errorString" := by decide
theorem rowTp (u : TypeId) (h : Tryz.prog.typeName? 3 u = some "*errors.errorString") : u = 290 :=
  typeName_ptr_named (nm := "errors.errorString") (by rw [star]; kernel_rfl) (by kernel_rfl) (by decide) u (by rw [star]; exact h)
theorem noByte : noU8 Tryz.prog 307 = true := by kernel_rfl
theorem named : okN Tryz.prog 44 ce.gsN = true := by kernel_rfl
theorem typed : okS Tryz.prog ce.gsN = true := by kernel_rfl
theorem apart : okD' ce.gsN = true := by kernel_rfl
theorem cellsTe : Tryz.prog.cellsOf 307 = 1 := by kernel_rfl
theorem cellsTs : Tryz.prog.cellsOf 9 = 1 := by kernel_rfl

theorem calls (n : Int) (W : World) (hopen : W.ShapedOpen Tryz.prog) (hL : laidMet Tryz.prog Rows.checkErrorsRow.laid W) : Calls Tryz.prog 6 #[.int .i64 n] W fun e W' => e = .returned (.bool true) ∧ Kept W W' := by
  obtain ⟨ms, hms⟩ := und44
  obtain ⟨E, A, N, hW⟩ := doorW_of (l := ce.gsN) (nm := "*errors.errorString") gsize hms rowTp Tryz.underlying290 Tryz.underlying307 rfl rfl Tryz.underlying9 cellsTe cellsTs noByte named typed apart hopen (laidMet.tail (laidMet.tail (laidMet.tail (hL))))
  exact run_D hW ce.ok1 (tab_ok Tryz.prog) (call_cut ce.tF ce.sF (ce.nA E n) (ce.vA E n) (all E (ce.V n) (V_range n) n)) (.cons (.int _ _) .nil)

set_option maxRecDepth 100000 in
theorem lifted (os : Os) (started : os.Started) (H : Type) (enc : TypeId × Value → H) :
    ReturnsInHanded {} Tryz.checked os 6 .any (fun w args => (Rows.checkErrorsSpec.pre enc Tryz.prog Tryz.f6 Rows.checkErrorsRow.domain false w args ∧ laidMetH Tryz.prog Rows.checkErrorsRow.laid w) ∧ sizedMet enc Tryz.prog Tryz.f6 (OpenSpec.ofChange Rows.checkErrorsSpec) false w args)
      (Rows.checkErrorsSpec.post enc Tryz.prog Tryz.f6 false true false false) := by
  refine returnsInHanded_of_door (C := Tryz.checked) (X := fun w _ => laidMetH Tryz.prog Rows.checkErrorsRow.laid w) (fun _ _ _ hh h => h.of_heap hh) own started (by kernel_rfl) Tryz.func6
    (ChangeSpec.witness_shaped (enc := enc) (C := Tryz.checked) (os := os) (X := fun w _ => laidMetH Tryz.prog Rows.checkErrorsRow.laid w) false (World.laidAll Tryz.prog os Rows.checkErrorsRow.laid) #[.int .i64 0] 8 (World.laidAll_os _ _ _)
      (World.shaped_of_ZipB (by kernel_rfl) (by kernel_rfl)) (by kernel_rfl) (by kernel_rfl) (by kernel_rfl)
      (by rw [laidH_plain (by kernel_rfl)]; exact laidMet_laidAll _ (by kernel_rfl) (by kernel_rfl))) ?_
  intro W base args ds gs before hopen hval0 hW hL0
  have hval : ∀ (j : Nat) t v, Tryz.f6.params[j]? = some t → args[j]? = some v → Value.okWide Tryz.prog W .any base t v := hval0
  have hL : laidMet Tryz.prog Rows.checkErrorsRow.laid W := by rw [← laidH_plain (by kernel_rfl)]; exact hL0
  have hW' := hW
  obtain ⟨p, q, hA0, hV, rfl, hfz, hnd⟩ := hW
  have hA : DataW.TrodAll enc Tryz.prog W 0 (fun _ => true) true Tryz.f6.params.toList args.toList ds p := hA0
  rw [Tryz.params6] at hA hval
  obtain ⟨v0, vs0, d0, ds0, p0, q0, hargs, rfl, rfl, h0, r0⟩ := trodAll_cons hA
  obtain ⟨rfl, rfl, rfl⟩ := trodAll_nil r0
  obtain rfl : args = #[v0] := by cases args; simp_all
  obtain ⟨rfl, rfl⟩ := trodVars_none hV
  obtain ⟨a0, rfl, rfl, rfl, w0⟩ := open_int Tryz.underlying3 (hval 0 3 v0 rfl rfl) h0
  clear hA0
  simp only [List.append_nil] at hW'
  refine (calls a0 W hopen hL).mono fun e W' ⟨he, hg⟩ => ?_
  subst he
  exact ⟨_, rfl, post_of_kept (pa := []) (pv := []) hW' (fun _ _ _ => (trodAll_cons_mk (shut_bool Tryz.underlying4 _) trodAll_mk0)) (fun sp _ => (trodAll_cons_mk (shut_int Tryz.underlying3 w0) trodAll_mk0)) (fun _ _ => rfl) rfl
    hg (ok_one (by kernel_rfl) rfl (okWide_bool_mk Tryz.underlying4 _))⟩

theorem row : Rows.CheckErrorsSaid :=
  OpenClaim.holds_of_wide 6 Tryz.f6 rfl rfl rfl rfl rfl rfl rfl ⟨rfl, rfl, rfl, rfl, rfl⟩ rfl rfl rfl rfl rfl (by kernel_rfl) Tryz.func6 (by kernel_rfl)
    (of_decide_eq_true (by kernel_rfl)) (by unfold Func.isWrapper; first | (rw [if_pos (by decide +kernel)]; kernel_rfl) | (rw [if_neg (by decide +kernel)]; exact ⟨rfl, rfl⟩))
    (fun os started H enc _ => lifted os started H enc)

theorem proved : Rows.CheckErrorsCardSaid :=
  Claim7.holds_tied_plain_at .later [] [.data, .data, .data, .sentinel, .sentinel, .sentinel, .sentinel, .sentinel, .sentinel, .sentinel, .sentinel, .sentinel, .sentinel, .sentinel, .sentinel, .sentinel, .sentinel, .sentinel] true (true, "4621aaf1a95dee3bb82f453a7062401d36a9e9ec32bb709d6a77b7515e896e7f") true
    row (fun _ h => by cases h) (by kernel_rfl) (fun _ h => by cases h) checkErrors_row_tie rfl ⟨rfl, rfl⟩ (by kernel_rfl) rfl
    (fun f fn hf hfn => by
      obtain rfl : f = 6 := Option.some.inj ((show Tryz.prog.funcNamed "paideia/paideialaw18.CheckErrors" = some 6 by kernel_rfl).symm.trans hf) |>.symm
      obtain rfl : fn = Tryz.f6 := (Option.some.inj (Tryz.func6.symm.trans hfn)).symm
      exact ⟨by kernel_rfl, fun j t ht => by
        rw [Tryz.params6] at ht
        have h3 : t = 3 := by
          rcases j with _ | j
          · simpa using ht.symm
          · simp at ht
        subst h3
        exact (show Tryz.prog.wantsStandIn 3 = false by kernel_rfl)⟩)
    (by kernel_rfl)
#print axioms proved
end Go.Proofs.YtjagadjljllabaaGreatDoor.checkErrors
