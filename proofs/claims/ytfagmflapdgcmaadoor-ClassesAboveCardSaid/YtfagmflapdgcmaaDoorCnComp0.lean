/- Sizes and zeros of the model's types. -/
import Derived.Test.YtfagmflapdgcmaaDoorCnSem
namespace Go.Cn
set_option linter.unusedVariables false
set_option linter.unusedSimpArgs false
def szOf (P : Program) (t : TypeId) : Option Nat := (P.info? t).map (·.size)
def bytesOf (P : Program) (t : TypeId) : Option Nat := (P.info? t).map (·.bytes)
def zeroOf (P : Program) (t : TypeId) : Option Value := (P.info? t).bind (·.zero)
def aggOf (P : Program) (t : TypeId) : Option Bool :=
  match P.underlying t with
  | some (.struct _) => some true
  | some (.array _ _) => some true
  | some _ => some false
  | none => none
end Go.Cn
