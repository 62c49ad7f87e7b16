/- ScopeErrors: for every number the statement's function returns true, changes nothing that was there, and never panics. The variables hold what is listed (the card ties that to the program's text). -/
import Derived.Test.YtjagadjljllabaaDoorSbseRun0
import Derived.Test.YtjagadjljllabaaDoorSbseRun1
import Derived.Test.YtjagadjljllabaaDoorRows
import Derived.Test.YtjagadjljllabaaDoorCards
import Derived.Test.YtjagadjljllabaaDoorTie
import Derived.WalkKit
import Derived.ProofKit
import Derived.OpenShut
import Derived.JoinedCond
import Derived.SevenTiedAt
namespace Go.Proofs.YtjagadjljllabaaDoor.scopeErrors
set_option linter.unusedSimpArgs false
open Go.ChangeShapes Go.WideShapes Go.ChangeAt Go.RowKit Go.Cn Go.Cn.Ev
set_option linter.unusedVariables false

theorem V_range (n : Int) : 0 ≤ se.V n ∧ se.V n < 15 := by
  have h2 : - 15 < Int.tmod n 15 := Int.lt_tmod_of_pos n (by decide)
  have h3 : Int.tmod n 15 < 15 := Int.tmod_lt_of_pos n (by decide)
  have e : wrapE .i64 (addI (Int.tmod n 15) 15) = Int.tmod n 15 + 15 := by
    rw [wrapE_eq, addI_eq]
    exact Go.Cn.Ev.wrap_small _ _ ⟨by simp only [loOf]; omega, by simp only [hiOf]; omega⟩
  unfold se.V
  rw [e]
  exact ⟨Int.tmod_nonneg 15 (by omega), Int.tmod_lt_of_pos _ (by decide)⟩
theorem all (E : Nat → TypeId) (k : Int) (h : 0 ≤ k ∧ k < 15) (n : Int) : se.rB E k n = true := by
  have : k = 0 ∨ k = 1 ∨ k = 2 ∨ k = 3 ∨ k = 4 ∨ k = 5 ∨ k = 6 ∨ k = 7 ∨ k = 8 ∨ k = 9 ∨ k = 10 ∨ k = 11 ∨ k = 12 ∨ k = 13 ∨ k = 14 := by omega
  rcases this with rfl | rfl | rfl | rfl | rfl | rfl | rfl | rfl | rfl | rfl | rfl | rfl | rfl | rfl | rfl
  · exact se.r0 E n
  · exact se.r1 E n
  · exact se.r2 E n
  · exact se.r3 E n
  · exact se.r4 E n
  · exact se.r5 E n
  · exact se.r6 E n
  · exact se.r7 E n
  · exact se.r8 E n
  · exact se.r9 E n
  · exact se.r10 E n
  · exact se.r11 E n
  · exact se.r12 E n
  · exact se.r13 E n
  · exact se.r14 E n

theorem own : ownKnob Tryd.prog.godebug = none := by kernel_rfl
theorem gsize : Tryd.prog.globals.size = 15 := by kernel_rfl
theorem und37 : ∃ ms, Tryd.prog.underlying 37 = some (.interface ms) := ⟨_, Tryd.underlying37⟩
theorem star : "*" ++ "errors.errorString" = "*errors.errorString" := by decide
theorem rowTp (u : TypeId) (h : Tryd.prog.typeName? 3 u = some "*errors.errorString") : u = 155 :=
  typeName_ptr_named (nm := "errors.errorString") (by rw [star]; kernel_rfl) (by kernel_rfl) (by decide) u (by rw [star]; exact h)
theorem noByte : noU8 Tryd.prog 172 = true := by kernel_rfl
theorem named : okN Tryd.prog 37 se.gsN = true := by kernel_rfl
theorem typed : okS Tryd.prog se.gsN = true := by kernel_rfl
theorem apart : okD' se.gsN = true := by kernel_rfl
theorem cellsTe : Tryd.prog.cellsOf 172 = 1 := by kernel_rfl
theorem cellsTs : Tryd.prog.cellsOf 9 = 1 := by kernel_rfl

theorem calls (n : Int) (W : World) (hopen : W.ShapedOpen Tryd.prog) (hL : laidMet Tryd.prog Rows.scopeErrorsRow.laid W) : Calls Tryd.prog 3 #[.int .i64 n] W fun e W' => e = .returned (.bool true) ∧ Kept W W' := by
  obtain ⟨ms, hms⟩ := und37
  obtain ⟨E, A, N, hW⟩ := doorW_of (l := se.gsN) (nm := "*errors.errorString") gsize hms rowTp Tryd.underlying155 Tryd.underlying172 rfl rfl Tryd.underlying9 cellsTe cellsTs noByte named typed apart hopen hL
  exact run_D hW se.ok1 (tab_ok Tryd.prog) (call_cut se.tF se.sF (se.nA E n) (se.vA E n) (all E (se.V n) (V_range n) n)) (.cons (.int _ _) .nil)

set_option maxRecDepth 100000 in
theorem lifted (os : Os) (started : os.Started) (H : Type) (enc : TypeId × Value → H) :
    ReturnsInHanded {} Tryd.checked os 3 .any (fun w args => (Rows.scopeErrorsSpec.pre enc Tryd.prog Tryd.f3 Rows.scopeErrorsRow.domain false w args ∧ laidMetH Tryd.prog Rows.scopeErrorsRow.laid w) ∧ sizedMet enc Tryd.prog Tryd.f3 (OpenSpec.ofChange Rows.scopeErrorsSpec) false w args)
      (Rows.scopeErrorsSpec.post enc Tryd.prog Tryd.f3 false true false false) := by
  refine returnsInHanded_of_door (C := Tryd.checked) (X := fun w _ => laidMetH Tryd.prog Rows.scopeErrorsRow.laid w) (fun _ _ _ hh h => h.of_heap hh) own started (by kernel_rfl) Tryd.func3
    (ChangeSpec.witness_shaped (enc := enc) (C := Tryd.checked) (os := os) (X := fun w _ => laidMetH Tryd.prog Rows.scopeErrorsRow.laid w) false (World.laidAll Tryd.prog os Rows.scopeErrorsRow.laid) #[.int .i64 0] 8 (World.laidAll_os _ _ _)
      (World.shaped_of_ZipB (by kernel_rfl) (by kernel_rfl)) (by kernel_rfl) (by kernel_rfl) (by kernel_rfl)
      (by rw [laidH_plain (by kernel_rfl)]; exact laidMet_laidAll _ (by kernel_rfl) (by kernel_rfl))) ?_
  intro W base args ds gs before hopen hval0 hW hL0
  have hval : ∀ (j : Nat) t v, Tryd.f3.params[j]? = some t → args[j]? = some v → Value.okWide Tryd.prog W .any base t v := hval0
  have hL : laidMet Tryd.prog Rows.scopeErrorsRow.laid W := by rw [← laidH_plain (by kernel_rfl)]; exact hL0
  have hW' := hW
  obtain ⟨p, q, hA0, hV, rfl, hfz, hnd⟩ := hW
  have hA : DataW.TrodAll enc Tryd.prog W 0 (fun _ => true) true Tryd.f3.params.toList args.toList ds p := hA0
  rw [Tryd.params3] at hA hval
  obtain ⟨v0, vs0, d0, ds0, p0, q0, hargs, rfl, rfl, h0, r0⟩ := trodAll_cons hA
  obtain ⟨rfl, rfl, rfl⟩ := trodAll_nil r0
  obtain rfl : args = #[v0] := by cases args; simp_all
  obtain ⟨rfl, rfl⟩ := trodVars_none hV
  obtain ⟨a0, rfl, rfl, rfl, w0⟩ := open_int Tryd.underlying3 (hval 0 3 v0 rfl rfl) h0
  clear hA0
  simp only [List.append_nil] at hW'
  refine (calls a0 W hopen hL).mono fun e W' ⟨he, hg⟩ => ?_
  subst he
  exact ⟨_, rfl, post_of_kept (pa := []) (pv := []) hW' (fun _ _ _ => (trodAll_cons_mk (shut_bool Tryd.underlying4 _) trodAll_mk0)) (fun sp _ => (trodAll_cons_mk (shut_int Tryd.underlying3 w0) trodAll_mk0)) (fun _ _ => rfl) rfl
    hg (ok_one (by kernel_rfl) rfl (okWide_bool_mk Tryd.underlying4 _))⟩

theorem row : Rows.ScopeErrorsSaid :=
  OpenClaim.holds_of_wide 3 Tryd.f3 rfl rfl rfl rfl rfl rfl rfl ⟨rfl, rfl, rfl, rfl, rfl⟩ rfl rfl rfl rfl rfl (by kernel_rfl) Tryd.func3 (by kernel_rfl)
    (of_decide_eq_true (by kernel_rfl)) (by unfold Func.isWrapper; first | (rw [if_pos (by decide +kernel)]; kernel_rfl) | (rw [if_neg (by decide +kernel)]; exact ⟨rfl, rfl⟩))
    (fun os started H enc _ => lifted os started H enc)

theorem proved : Rows.ScopeErrorsCardSaid :=
  Claim7.holds_tied_plain_at .later [] [.sentinel, .sentinel, .sentinel, .sentinel, .sentinel, .sentinel, .sentinel, .sentinel, .sentinel, .sentinel, .sentinel, .sentinel, .sentinel, .sentinel, .sentinel] true (true, "fe9ddb58dfae4207236c17ce8c7ca076684223639a2eea97d3a53ab460ecb593") true
    row (fun _ h => by cases h) (by kernel_rfl) (fun _ h => by cases h) scopeErrors_row_tie rfl ⟨rfl, rfl⟩ (by kernel_rfl) rfl
    (fun f fn hf hfn => by
      obtain rfl : f = 3 := Option.some.inj ((show Tryd.prog.funcNamed "paideia/paideialaw9.ScopeErrors" = some 3 by kernel_rfl).symm.trans hf) |>.symm
      obtain rfl : fn = Tryd.f3 := (Option.some.inj (Tryd.func3.symm.trans hfn)).symm
      exact ⟨by kernel_rfl, fun j t ht => by
        rw [Tryd.params3] at ht
        have h3 : t = 3 := by
          rcases j with _ | j
          · simpa using ht.symm
          · simp at ht
        subst h3
        exact (show Tryd.prog.wantsStandIn 3 = false by kernel_rfl)⟩)
    (by kernel_rfl)
#print axioms proved
end Go.Proofs.YtjagadjljllabaaDoor.scopeErrors
