/- From an evaluated run to a row. -/
import Derived.Test.YtjagadjljllabaaCnEvCut
import Derived.Test.YtjagadjljllabaaCnGlue0
namespace Go.Cn.Ev
set_option linter.unusedSimpArgs false
set_option linter.unusedVariables false

theorem den_h0 : den E0 h0 = sr [] := by
  unfold den sr
  congr 1
  · funext n; show (getP (path n) (.nil : FT EObj)).map _ = _; rw [get_nil]; simp
  · funext n; show getP (path n) (.nil : FT (List (Nat × Nat))) = _; rw [get_nil]

/-- A run that answers true, as it is evaluated: of a program without variables, of arguments without memory. -/
theorem run_E {P : Program} (hP : ProgOk P) {T : Nat → Option CFun} (hT : OkT P T) (hg : P.globals.size = 0) {f : Nat} {args : List Value} (hc : CallA T (.func f) args (den E0 h0) fun v _ => v = .bool true)
    (hm : LRel P (br []) args args) (W : World) : Calls P f args.toArray W fun e W' => e = .returned (.bool true) ∧ Kept W W' := by
  rw [den_h0] at hc
  have h2 := ((CallA.sim hP hT).func hc (sr_rel (P := P) (W := W) (rs := []) (fun r hr => by cases hr)) (fun g hg' => by omega) hm).2
  refine (callsIn_wide.1 h2).mono fun e W' ⟨v, v', β', σ', hv, he, hvr, hs⟩ => ⟨?_, kept_of hs⟩
  subst hv
  rw [he, hvr.bool_inv]

end Go.Cn.Ev
