/- The evaluator is right: operations of two values, cells. -/
import Derived.Test.YtjagadjljllabaaCnEvOk1
import Derived.Test.YtjagadjljllabaaCnSimOp
namespace Go.Cn.Ev
set_option linter.unusedVariables false
set_option linter.unusedSimpArgs false

theorem ii_some {g : IntKind → Int → Int → Value} {d : Option Value} {x y v : Value} (h : ii g d x y = some v) : (∃ j a b, x = .int j a ∧ y = .int j b ∧ v = g j a b) ∨ d = some v := by
  unfold ii at h
  cases e1 : asI x with
  | no => rw [e1] at h; exact .inr h
  | yes j a =>
    rw [e1] at h
    cases e2 : asI y with
    | no => rw [e2] at h; cases h
    | yes k b =>
      rw [e2] at h
      dsimp only at h
      cases e3 : Nat.beq (ikNum j) (ikNum k) with
      | false => rw [e3] at h; cases h
      | true =>
        rw [e3] at h
        have := ik_eq e3
        subst this
        cases h
        exact .inl ⟨j, a, b, asI_yes e1, asI_yes e2, rfl⟩

theorem ss_some {g : List UInt8 → List UInt8 → Option Value} {x y v : Value} (h : ss g x y = some v) : ∃ s t, x = .string s ∧ y = .string t ∧ g s.data.toList t.data.toList = some v := by
  unfold ss at h
  cases e1 : asS x with
  | no => rw [e1] at h; cases h
  | yes s =>
    rw [e1] at h
    cases e2 : asS y with
    | no => rw [e2] at h; cases h
    | yes t => rw [e2] at h; exact ⟨s, t, asS_yes e1, asS_yes e2, h⟩

theorem cbin_int {op : BinOp} {j : IntKind} {a b : Int} {v : Value} (h : binOp op 0 (.int j a) (.int j b) = Sem.pure v) : cbin op (.int j a) (.int j b) = some v := by
  simp only [cbin, h]; rfl
theorem cbin_str {op : BinOp} {a b : ByteArray} {v : Value} (h : binOp op 0 (.string a) (.string b) = Sem.pure v) : cbin op (.string a) (.string b) = some v := by
  simp only [cbin, h]; rfl

theorem binE_ok {op : BinOp} {x y v : Value} (h : binE op x y = some v) : cbin op x y = some v := by
  have none_ne : ∀ {p : Prop}, (none : Option Value) = some v → p := fun h => by cases h
  cases op
  case add =>
    rcases ii_some (show bAdd x y = some v from h) with ⟨j, a, b, rfl, rfl, rfl⟩ | h
    · refine cbin_int ?_
      simp only [gAdd, wrapE_eq, addI_eq, binOp, ne_eq, not_true_eq_false, if_false]; rfl
    · obtain ⟨s, t, rfl, rfl, hg⟩ := ss_some h
      unfold sAdd at hg
      cases e : Nat.blt (Nat.add (lenE s.data.toList) (lenE t.data.toList)) 1099511627776 with
      | false => rw [e] at hg; cases hg
      | true =>
        rw [e] at hg
        cases hg
        rw [blt_iff, lenE_eq, lenE_eq] at e
        refine cbin_str ?_
        have hs : ¬ (((s.size + t.size : Nat) : Int) > IntKind.i64.max) := by
          have e1 : IntKind.i64.max = 9223372036854775807 := by decide
          have e2 : s.data.toList.length = s.size := rfl
          have e3 : t.data.toList.length = t.size := rfl
          have e4 : s.data.toList.length + t.data.toList.length < 1099511627776 := e
          rw [e1]; omega
        show Op.stringOp .add s t = _
        simp only [Op.stringOp, if_neg hs, catE_eq]
        congr 2
  case sub =>
    rcases ii_some (show bSub x y = some v from h) with ⟨j, a, b, rfl, rfl, rfl⟩ | h
    · refine cbin_int ?_
      simp only [gSub, wrapE_eq, subI_eq, binOp, ne_eq, not_true_eq_false, if_false]; rfl
    · cases h
  case eql =>
    rcases ii_some (show bEql x y = some v from h) with ⟨j, a, b, rfl, rfl, rfl⟩ | h
    · refine cbin_int ?_
      simp only [gEql, eqI_eq, binOp, ne_eq, not_true_eq_false, if_false]; rfl
    · obtain ⟨s, t, rfl, rfl, h⟩ := ss_some h
      cases h
      refine cbin_str ?_
      show Op.stringOp .eql s t = _
      simp only [Op.stringOp, eqU_eq, ByteArray.toList_eq]; rfl
  case neq =>
    rcases ii_some (show bNeq x y = some v from h) with ⟨j, a, b, rfl, rfl, rfl⟩ | h
    · refine cbin_int ?_
      simp only [gNeq, notB_eq, eqI_eq, binOp, ne_eq, not_true_eq_false, if_false]; rfl
    · obtain ⟨s, t, rfl, rfl, h⟩ := ss_some h
      cases h
      refine cbin_str ?_
      show Op.stringOp .neq s t = _
      simp only [Op.stringOp, notB_eq, eqU_eq, ByteArray.toList_eq]; rfl
  case lss =>
    rcases ii_some (show bLss x y = some v from h) with ⟨j, a, b, rfl, rfl, rfl⟩ | h
    · refine cbin_int ?_
      simp only [gLss, ltI_eq, binOp, ne_eq, not_true_eq_false, if_false]; rfl
    · obtain ⟨s, t, rfl, rfl, h⟩ := ss_some h
      cases h
      refine cbin_str ?_
      show Op.stringOp .lss s t = _
      simp only [Op.stringOp, ltU_eq, ByteArray.toList_eq]; rfl
  case leq =>
    rcases ii_some (show bLeq x y = some v from h) with ⟨j, a, b, rfl, rfl, rfl⟩ | h
    · refine cbin_int ?_
      have e : (!decide (b < a)) = decide (a ≤ b) := by rw [Bool.eq_iff_iff]; simp
      simp only [gLeq, notB_eq, ltI_eq, e, binOp, ne_eq, not_true_eq_false, if_false]; rfl
    · cases h
  case gtr =>
    rcases ii_some (show bGtr x y = some v from h) with ⟨j, a, b, rfl, rfl, rfl⟩ | h
    · refine cbin_int ?_
      simp only [gGtr, ltI_eq, binOp, ne_eq, not_true_eq_false, if_false]; rfl
    · cases h
  case geq =>
    rcases ii_some (show bGeq x y = some v from h) with ⟨j, a, b, rfl, rfl, rfl⟩ | h
    · refine cbin_int ?_
      have e : (!decide (a < b)) = decide (b ≤ a) := by rw [Bool.eq_iff_iff]; simp
      simp only [gGeq, notB_eq, ltI_eq, e, binOp, ne_eq, not_true_eq_false, if_false]; rfl
    · cases h
  all_goals exact h

-- cells
theorem nthE_eq : ∀ (l : List Value) (n : Nat), nthE l n = nth l n
  | [], n => rfl
  | a :: l, n => by
    show (@Bool.rec (fun _ => Option Value) (nthE l (Nat.sub n 1)) (some a) (Nat.beq n 0)) = _
    cases n with
    | zero => rfl
    | succ n => exact nthE_eq l n

theorem dropE_eq : ∀ (l : List Value) (n : Nat), dropE l n = if n ≤ l.length then some (l.drop n) else none
  | [], n => by cases n <;> rfl
  | a :: l, n => by
    show (@Bool.rec (fun _ => Option (List Value)) (dropE l (Nat.sub n 1)) (some (a :: l)) (Nat.beq n 0)) = _
    cases n with
    | zero => simp
    | succ n =>
      show dropE l n = _
      rw [dropE_eq l n]
      simp
theorem firstE_eq : ∀ (l : List Value) (n : Nat), firstE l n = if n ≤ l.length then some (l.take n) else none
  | [], n => by cases n <;> rfl
  | a :: l, n => by
    show (@Bool.rec (fun _ => Option (List Value)) (@Option.rec (List Value) (fun _ => Option (List Value)) none (fun r => some (a :: r)) (firstE l (Nat.sub n 1))) (some []) (Nat.beq n 0)) = _
    cases n with
    | zero => simp
    | succ n =>
      show (@Option.rec (List Value) (fun _ => Option (List Value)) none (fun r => some (a :: r)) (firstE l n)) = _
      rw [firstE_eq l n]
      by_cases h : n ≤ l.length
      · rw [if_pos h, if_pos (by simpa using h)]; simp
      · rw [if_neg h, if_neg (by simpa using h)]
theorem takeE_eq (l : List Value) (i n : Nat) : takeE l i n = takeAt l i n := by
  unfold takeE takeAt
  rw [dropE_eq]
  by_cases h : i ≤ l.length
  · rw [if_pos h]
    show firstE (l.drop i) n = _
    rw [firstE_eq]
    simp only [List.length_drop]
    by_cases h2 : n ≤ l.length - i
    · rw [if_pos h2, if_pos (by omega)]
    · rw [if_neg h2, if_neg (by omega)]
  · rw [if_neg h, if_neg (by omega)]
theorem overE_eq : ∀ (vs l : List Value), overE vs l = if vs.length ≤ l.length then some (vs ++ l.drop vs.length) else none
  | [], l => by simp; rfl
  | v :: vs, [] => by simp; rfl
  | v :: vs, a :: l => by
    show (@Option.rec (List Value) (fun _ => Option (List Value)) none (fun r => some (v :: r)) (overE vs l)) = _
    rw [overE_eq vs l]
    by_cases h : vs.length ≤ l.length
    · rw [if_pos h, if_pos (by simpa using h)]; simp
    · rw [if_neg h, if_neg (by simpa using h)]
theorem putE_eq (vs : List Value) : ∀ (l : List Value) (n : Nat), putE vs l n = putAt l n vs
  | [], n => by
    show (@Bool.rec (fun _ => Option (List Value)) none (overE vs []) (Nat.beq n 0)) = _
    cases n with
    | zero =>
      show overE vs [] = _
      rw [overE_eq]; simp [putAt]
    | succ n =>
      show (none : Option (List Value)) = _
      simp [putAt]
  | a :: l, n => by
    show (@Bool.rec (fun _ => Option (List Value)) (@Option.rec (List Value) (fun _ => Option (List Value)) none (fun r => some (a :: r)) (putE vs l (Nat.sub n 1))) (overE vs (a :: l)) (Nat.beq n 0)) = _
    cases n with
    | zero =>
      show overE vs (a :: l) = _
      rw [overE_eq]
      simp [putAt]
    | succ n =>
      show (@Option.rec (List Value) (fun _ => Option (List Value)) none (fun r => some (a :: r)) (putE vs l n)) = _
      rw [putE_eq vs l n]
      unfold putAt
      by_cases h : n + vs.length ≤ l.length
      · rw [if_pos h, if_pos (by simp; omega)]
        have : n + 1 + vs.length = n + vs.length + 1 := by omega
        rw [this]; simp
      · rw [if_neg h, if_neg (by simp; omega)]

/-- what lies in a block -/
theorem den_get {E : LE} {h : HS} {b : Nat} {o : EObj} (e : getP (path b) h.t = some o) : (den E h).heap b = some (denO (E b) o) := by
  show (getP (path b) h.t).map _ = _
  rw [e]; rfl
theorem den_none {E : LE} {h : HS} {b : Nat} (e : getP (path b) h.t = none) : (den E h).heap b = none := by
  show (getP (path b) h.t).map _ = _
  rw [e]; rfl
theorem denL_not (st : LoopState) (p : Option CExit) (e : Option LD) : (∃ d : LD, denL st p e = .loop st (frD d.fr) d.ps d.as d.body p) ∨ denL st p e = .dead := by
  cases e with
  | none => exact .inr rfl
  | some d => exact .inl ⟨d, rfl⟩
theorem rowE_eq (E : LE) (h : HS) (b : Nat) : rowE h b = (den E h).row b := by
  unfold rowE CW.row
  cases e : getP (path b) h.t with
  | none => rw [den_none e]; rfl
  | some o =>
    rw [den_get e]
    cases o with
    | loop st p => rcases denL_not st p (E b) with ⟨d, q⟩ | q <;> (simp only [denO, q]; rfl)
    | _ => rfl
theorem noSpot_iff {a : Addr} : noSpot a = true ↔ a.spot = none := by unfold noSpot; simp
theorem cellE_eq (E : LE) (h : HS) (a : Addr) : cellE h a = (den E h).cell a := by
  unfold cellE CW.cell noSpot
  rw [rowE_eq E]
  cases a.spot with
  | some s => rfl
  | none =>
    show (@Option.rec (List Value) (fun _ => Option Value) none (fun c => nthE c a.off) ((den E h).row a.block)) = _
    cases (den E h).row a.block with
    | none => rfl
    | some c => exact nthE_eq c a.off
theorem cellsE_eq (E : LE) (h : HS) (a : Addr) (n : Nat) : cellsE h a n = (den E h).cells a n := by
  unfold cellsE CW.cells noSpot
  rw [rowE_eq E]
  cases a.spot with
  | some s => rfl
  | none =>
    show (@Option.rec (List Value) (fun _ => Option (List Value)) none (fun c => takeE c a.off n) ((den E h).row a.block)) = _
    cases (den E h).row a.block with
    | none => rfl
    | some c => exact takeE_eq c a.off n

end Go.Cn.Ev
