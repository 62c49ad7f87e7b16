/- InstsWrong, the evaluation: what is evaluated. -/
import Derived.Test.YtjagadjljllabaaGreatDoorCnDoor2
import Derived.Test.YtjagadjljllabaaGreatDoorProg
import Derived.KernelRfl
namespace Go.Proofs.YtjagadjljllabaaGreatDoor.iw
set_option linter.unusedVariables false
set_option linter.unusedSimpArgs false
open Go.Proofs Go Go.Cn Go.Cn.Ev
theorem ok1 : ProgOk Tryz.prog := progOk_of (by kernel_rfl) (by kernel_rfl)
noncomputable abbrev T := tab Tryz.prog
noncomputable def F : CFun := (T 5).getD ⟨.no, []⟩
theorem tF : T 5 = some F := by kernel_rfl
def pth : List Dir := [.right, .right, .right, .right, .right, .left, .at 11]
noncomputable def A : CCode := ((split pth F.body).getD (.no, .no)).1
noncomputable def B : CCode := ((split pth F.body).getD (.no, .no)).2
theorem sF : split pth F.body = some (A, B) := by kernel_rfl
def gsN : List SenN := [("paideia/api.ErrLex", 5, [110, 111, 116, 32, 97, 32, 119, 111, 114, 100]), ("paideia/api.ErrParse", 6, [110, 111, 116, 32, 97, 32, 112, 114, 111, 103, 114, 97, 109]), ("paideia/api.ErrScope", 2, [97, 32, 110, 97, 109, 101, 32, 116, 104, 97, 116, 32, 105, 115, 32, 110, 111, 98, 111, 100, 121, 39, 115]), ("paideia/api.ErrTwice", 0, [97, 32, 110, 97, 109, 101, 32, 116, 119, 105, 99, 101]), ("paideia/api.ErrClass", 1, [110, 111, 116, 32, 97, 32, 99, 108, 97, 115, 115, 44, 32, 111, 114, 32, 110, 111, 116, 32, 97, 110, 32, 105, 110, 115, 116, 97, 110, 99, 101]), ("paideia/api.ErrType", 4, [116, 121, 112, 101, 115, 32, 116, 104, 97, 116, 32, 97, 114, 101, 32, 110, 111, 116, 32, 111, 110, 101]), ("paideia/api.ErrOccur", 7, [97, 32, 116, 121, 112, 101, 32, 119, 105, 116, 104, 105, 110, 32, 105, 116, 115, 101, 108, 102]), ("paideia/api.ErrKind", 3, [97, 32, 116, 121, 112, 101, 32, 119, 105, 116, 104, 32, 111, 116, 104, 101, 114, 32, 97, 114, 103, 117, 109, 101, 110, 116, 115]), ("paideia/api.ErrAmbig", 8, [97, 32, 116, 121, 112, 101, 32, 116, 104, 97, 116, 32, 105, 115, 32, 110, 111, 116, 32, 116, 111, 108, 100]), ("paideia/api.ErrNone", 9, [110, 111, 32, 105, 110, 115, 116, 97, 110, 99, 101]), ("paideia/api.ErrLimit", 10, [109, 111, 114, 101, 32, 116, 104, 97, 110, 32, 109, 97, 121, 32, 98, 101]), ("paideia/api.ErrFuel", 11, [116, 104, 101, 32, 102, 117, 101, 108, 32, 105, 115, 32, 117, 115, 101, 100, 32, 117, 112]), ("paideia/api.ErrHeap", 12, [116, 104, 101, 32, 104, 101, 97, 112, 32, 105, 115, 32, 102, 117, 108, 108]), ("paideia/api.ErrBlack", 13, [97, 32, 118, 97, 108, 117, 101, 32, 116, 104, 97, 116, 32, 110, 101, 101, 100, 115, 32, 105, 116, 115, 101, 108, 102]), ("paideia/api.ErrMatch", 14, [110, 111, 32, 97, 108, 116, 101, 114, 110, 97, 116, 105, 118, 101, 32, 102, 105, 116, 115])]
def gs : List Sen := [(5, [110, 111, 116, 32, 97, 32, 119, 111, 114, 100]), (6, [110, 111, 116, 32, 97, 32, 112, 114, 111, 103, 114, 97, 109]), (2, [97, 32, 110, 97, 109, 101, 32, 116, 104, 97, 116, 32, 105, 115, 32, 110, 111, 98, 111, 100, 121, 39, 115]), (0, [97, 32, 110, 97, 109, 101, 32, 116, 119, 105, 99, 101]), (1, [110, 111, 116, 32, 97, 32, 99, 108, 97, 115, 115, 44, 32, 111, 114, 32, 110, 111, 116, 32, 97, 110, 32, 105, 110, 115, 116, 97, 110, 99, 101]), (4, [116, 121, 112, 101, 115, 32, 116, 104, 97, 116, 32, 97, 114, 101, 32, 110, 111, 116, 32, 111, 110, 101]), (7, [97, 32, 116, 121, 112, 101, 32, 119, 105, 116, 104, 105, 110, 32, 105, 116, 115, 101, 108, 102]), (3, [97, 32, 116, 121, 112, 101, 32, 119, 105, 116, 104, 32, 111, 116, 104, 101, 114, 32, 97, 114, 103, 117, 109, 101, 110, 116, 115]), (8, [97, 32, 116, 121, 112, 101, 32, 116, 104, 97, 116, 32, 105, 115, 32, 110, 111, 116, 32, 116, 111, 108, 100]), (9, [110, 111, 32, 105, 110, 115, 116, 97, 110, 99, 101]), (10, [109, 111, 114, 101, 32, 116, 104, 97, 110, 32, 109, 97, 121, 32, 98, 101]), (11, [116, 104, 101, 32, 102, 117, 101, 108, 32, 105, 115, 32, 117, 115, 101, 100, 32, 117, 112]), (12, [116, 104, 101, 32, 104, 101, 97, 112, 32, 105, 115, 32, 102, 117, 108, 108]), (13, [97, 32, 118, 97, 108, 117, 101, 32, 116, 104, 97, 116, 32, 110, 101, 101, 100, 115, 32, 105, 116, 115, 101, 108, 102]), (14, [110, 111, 32, 97, 108, 116, 101, 114, 110, 97, 116, 105, 118, 101, 32, 102, 105, 116, 115])]
noncomputable def rA (E : Nat → TypeId) (n : Int) : RC := codeE true (callE T 100) E0 A (argsF [.int .i64 n] 0) (hD (rowsD 18 290 gs E))
theorem nA (E : Nat → TypeId) (n : Int) : isNorm (rA E n) = true := by kernel_rfl
noncomputable def V (n : Int) : Int := Int.tmod (wrapE .i64 (addI (Int.tmod n 10) 10)) 10
theorem vA (E : Nat → TypeId) (n : Int) : getV (path 6) (frOf (rA E n)) = .int .i64 (V n) := by kernel_rfl
noncomputable def rB (E : Nat → TypeId) (k : Int) (n : Int) : Bool := isTrue (finK F.res (codeE false (callE T 100) E0 B (setP (.int .i64 k) (path 6) (frOf (rA E n))) (hsOf (rA E n))))
end Go.Proofs.YtjagadjljllabaaGreatDoor.iw
