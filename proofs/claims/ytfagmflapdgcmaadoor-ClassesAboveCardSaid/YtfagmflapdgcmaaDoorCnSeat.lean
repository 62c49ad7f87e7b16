/- A program's table of functions; what is asked of the program. -/
import Derived.Test.YtfagmflapdgcmaaDoorCnMono
import Derived.ChangeMade
namespace Go.Cn
set_option linter.unusedSimpArgs false
set_option linter.unusedVariables false

/-- the table of a program's functions -/
def tab (P : Program) (f : Nat) : Option CFun :=
  match P.funcs[f]? with
  | some fn => if fn.name == "runtime.NumGoroutine" then none else compFun P fn
  | none => none

theorem tab_ok (P : Program) : OkT P (tab P) where
  fn := by
    intro f cf h
    unfold tab at h
    split at h
    · rename_i fn hf
      split at h
      · cases h
      · rename_i hn
        have hb : ∃ c, fn.body = some c := by
          unfold compFun at h
          split at h
          · rename_i c rs e1 e2; exact ⟨c, e1⟩
          · cases h
        obtain ⟨c, hb⟩ := hb
        exact ⟨fn, c, hf, hb, h, by simpa using hn⟩
    · cases h

/-- the program does not compare texts by the runtime's function -/
def noCmp (P : Program) : Bool := P.funcs.toList.all fun fn => fn.body.isSome || !(fn.name == "internal/bytealg.abigen_runtime_cmpstring")

theorem u8_lt {P : Program} {t : TypeId} (h : P.underlying t = some (.int .u8)) : t < P.types.size := by
  by_cases ht : t < P.types.size
  · exact ht
  · exfalso
    unfold Program.underlying at h
    cases e : P.info? t with
    | none => rw [e] at h; cases h
    | some i =>
      have hb := Tables.info?_beyond ht e
      rw [e] at h
      obtain ⟨d, a, b, c, z⟩ := i
      cases d <;> simp [TypeDesc.tableOnly] at hb <;> simp at h

theorem progOk_of {P : Program} (h1 : noCmp P = true) (h2 : P.follows .mixedOrders = true) : ProgOk P where
  u8 := fun t h => u8_lt h
  cmp := by
    intro f fn hf hb hn
    have := List.all_eq_true.1 h1 fn (by
      have := Array.mem_of_getElem? hf
      simpa using this)
    rw [hb, hn] at this
    simp at this
  mixed := h2

end Go.Cn
