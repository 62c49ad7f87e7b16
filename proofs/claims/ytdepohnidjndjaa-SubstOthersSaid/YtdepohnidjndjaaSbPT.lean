/- types as trees -/
import Derived.Test.YtdepohnidjndjaaSbCode
namespace Go.Proofs.Ytdepohnidjndjaa.p
open Go.Proofs Go Go.Cn code
set_option linter.unusedSimpArgs false
set_option linter.unusedVariables false

inductive PT where
  | mk (k : Int) (n : List UInt8) (args : List PT)
theorem PT.ind {P : PT → Prop} (h : ∀ k n args, (∀ a ∈ args, P a) → P (.mk k n args)) : ∀ t, P t
  | .mk k n args => h k n args fun a ha => PT.ind h a
  termination_by t => SizeOf.sizeOf t
  decreasing_by have := List.sizeOf_lt_of_mem ha; simp; omega
mutual
def tyC : PT → List AV
  | .mk k n args => [.int .i64 k, .str n, .lst 33 (tyCs args) .no]
def tyCs : List PT → List (List AV)
  | [] => []
  | t :: l => tyC t :: tyCs l
end
inductive PTOk : PT → Prop where
  | mk {k : Int} {n : List UInt8} {args : List PT} (hl : args.length ≤ 1073741824) (ha : ∀ a ∈ args, PTOk a) : PTOk (.mk k n args)
theorem tyC_len (t : PT) : (tyC t).length = 3 := by cases t; rfl
theorem tyC_ne (t : PT) : tyC t ≠ [] := by cases t; simp [tyC]
theorem tyC_one (t : PT) : (tyC t).all oneA = true := by cases t; rfl
theorem tyC_take (t : PT) : (tyC t).take 3 = tyC t := by cases t; rfl
theorem tyC_drop (t : PT) : (tyC t).drop 3 = [] := by cases t; rfl
theorem tyCs_eq (l : List PT) : tyCs l = l.map tyC := by
  induction l with
  | nil => rfl
  | cons a l ih => simp only [tyCs, List.map_cons, ih]
theorem tyCs_len (l : List PT) : (tyCs l).length = l.length := by rw [tyCs_eq, List.length_map]
theorem tyCs_app (l m : List PT) : tyCs (l ++ m) = tyCs l ++ tyCs m := by simp only [tyCs_eq, List.map_append]
theorem tyCs_one (t : PT) : tyCs [t] = [tyC t] := rfl
theorem tyCs_get {l m : List PT} {a : PT} : (tyCs (l ++ a :: m))[l.length]? = some (tyC a) := by
  rw [tyCs_eq, List.getElem?_map, List.getElem?_append_right (Nat.le_refl _), Nat.sub_self]; rfl
open Classical in
noncomputable def eqT (a b : PT) : Bool := decide (a = b)
open Classical in
noncomputable def eqTs (a b : List PT) : Bool := decide (a = b)
theorem eqT_mk (k k' : Int) (n n' : List UInt8) (l l' : List PT) : eqT (.mk k n l) (.mk k' n' l') = (decide (k = k') && (decide (n = n') && eqTs l l')) := by
  simp only [eqT, eqTs, PT.mk.injEq]
  by_cases h1 : k = k' <;> by_cases h2 : n = n' <;> by_cases h3 : l = l' <;> simp [h1, h2, h3]
theorem eqT_true {a b : PT} : eqT a b = true ↔ a = b := by simp [eqT]
theorem eqTs_false {a b : List PT} (h : a ≠ b) : eqTs a b = false := by simp [eqTs, h]
theorem eqT_false {a b : PT} (h : a ≠ b) : eqT a b = false := by simp [eqT, h]
theorem eqTs_true {a b : List PT} : eqTs a b = true ↔ a = b := by simp [eqTs]
theorem tyC_ta (t : PT) (l : List AV) : (tyC t ++ l).take 3 = tyC t := by cases t; rfl
theorem tyC_da (t : PT) (l : List AV) : (tyC t ++ l).drop 3 = l := by cases t; rfl
theorem tyC_d6 (t : PT) (l : List AV) : (tyC t ++ l).drop 6 = l.drop 3 := by cases t; rfl
end Go.Proofs.Ytdepohnidjndjaa.p
