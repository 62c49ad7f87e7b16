/- GroupOrders: contracts for any number -/
import Derived.Test.YtplnafebmpldgaaSbG4
import Derived.Test.YtplnafebmpldgaaSbLaw1
namespace Go.Proofs.Ytplnafebmpldgaa.p
open Go.Proofs Go Go.Cn code grp
set_option linter.unusedSimpArgs false
set_option linter.unusedVariables false

theorem needsF_0 (l : List Int) : needsF 0 l = [] := by
  unfold needsF
  have : ∀ l : List Int, l.foldl (stepF 0) [] = [] := by
    intro l
    induction l with
    | nil => rfl
    | cons a l ih => exact ih
  exact this l
theorem needs_in (n : Nat) (l : List Int) : InR n (needsF n l) := by
  rcases Nat.eq_zero_or_pos n with rfl | h
  · rw [needsF_0]; exact ⟨rfl, by simp⟩
  · exact needsF_in h l
theorem needs_len (n : Nat) (l : List Int) : ∀ row ∈ needsF n l, row.length ≤ l.length := by
  unfold needsF
  have : ∀ (l : List Int) (x : List (List Int)) (m : Nat), (∀ row ∈ x, row.length ≤ m) → ∀ row ∈ l.foldl (stepF n) x, row.length ≤ m + l.length := by
    intro l
    induction l with
    | nil => exact fun x m h => h
    | cons a l ih =>
      intro x m h row hr
      have := ih (stepF n x a) (m + 1) (fun row hr => ?_) row hr
      · rw [List.length_cons]; omega
      · unfold stepF at hr
        rcases List.mem_or_eq_of_mem_set hr with hr | rfl
        · have := h row hr; omega
        · rw [List.length_append, List.length_singleton]
          have : (x.getD (kF n a).toNat []).length ≤ m := by
            cases e : x[(kF n a).toNat]? with
            | none => simp [List.getD, e]
            | some r => simp only [List.getD, e, Option.getD_some]; exact h r (List.mem_of_getElem? e)
          omega
  intro row hr
  have := this l (List.replicate n []) 0 (by simp) row hr
  omega
theorem needs0 (E : TypeId) (l : List Int) : Pure T 6 [.lst E (lC l) .no, .int .i64 0] (.lst 22 [] .no) := by
  intro K h
  refine ACall.ret t6 fun hK => ?_
  simp only [u_C c6.eq_1, runs, e_onS, AH.set_same, AH.set_set, List.map_cons, List.map_nil, List.length_cons, List.length_nil, List.drop_zero, List.drop_succ_cons, List.take_succ_cons, List.take_zero, List.take_nil, List.nil_append, List.cons_append, List.append_nil, List.all_cons, List.all_nil, Nat.zero_add, Nat.add_zero, ite_true, ite_false, if_true, if_false, ne_eq, not_false_eq_true, not_true_eq_false, and_true, true_and, and_self, Bool.and_true, Bool.true_and, Bool.not_true, Bool.not_false, List.getElem?_cons_zero, List.getElem?_cons_succ, Option.isSome_some, beq_self_eq_true, implies_true, forall_const, Nat.le_refl, Option.some.injEq, Option.getD_some, Option.getD_none, List.getElem?_nil, e_Lpn, e_Lpe, e_Lpr, decide_true, decide_false, Int.natCast_nonneg, Int.toNat_natCast, Int.toNat_zero, lt_irr, imp_self, false_implies, big_eq, pevA, takeA, putA, fillA, chunkA, zerosL, binA, binI, binS, isNilA, lookA, bndA, depA, depV, depM, depS, cellAt, elemAt, initA, Nat.reduceAdd, Nat.reduceLeDiff, Nat.reduceEqDiff, reduceIte, reduceCtorEq, Nat.reduceLT, Nat.reduceMul, Nat.reduceSub, Int.reduceAdd, Int.reduceSub, Int.reduceMul, Int.reduceLT, Int.reduceLE, Int.reduceEq, Int.reduceNe, Int.reduceNeg, Int.reduceToNat]
  refine WO.mksl0 (j := .i64) (k := .i64) (n := 0) rfl rfl (by decide) (by decide) fun b hb1 hb2 => ?_
  simp only [runs, e_onS, AH.set_same, AH.set_set, List.map_cons, List.map_nil, List.length_cons, List.length_nil, List.drop_zero, List.drop_succ_cons, List.take_succ_cons, List.take_zero, List.take_nil, List.nil_append, List.cons_append, List.append_nil, List.all_cons, List.all_nil, Nat.zero_add, Nat.add_zero, ite_true, ite_false, if_true, if_false, ne_eq, not_false_eq_true, not_true_eq_false, and_true, true_and, and_self, Bool.and_true, Bool.true_and, Bool.not_true, Bool.not_false, List.getElem?_cons_zero, List.getElem?_cons_succ, Option.isSome_some, beq_self_eq_true, implies_true, forall_const, Nat.le_refl, Option.some.injEq, Option.getD_some, Option.getD_none, List.getElem?_nil, e_Lpn, e_Lpe, e_Lpr, decide_true, decide_false, Int.natCast_nonneg, Int.toNat_natCast, Int.toNat_zero, lt_irr, imp_self, false_implies, big_eq, pevA, takeA, putA, fillA, chunkA, zerosL, binA, binI, binS, isNilA, lookA, bndA, depA, depV, depM, depS, cellAt, elemAt, initA, Nat.reduceAdd, Nat.reduceLeDiff, Nat.reduceEqDiff, reduceIte, reduceCtorEq, Nat.reduceLT, Nat.reduceMul, Nat.reduceSub, Int.reduceAdd, Int.reduceSub, Int.reduceMul, Int.reduceLT, Int.reduceLE, Int.reduceEq, Int.reduceNe, Int.reduceNeg, Int.reduceToNat]
  refine aloop (α := Unit) (fun i fr h1 => fr 0 = .lst E (lC l) .no ∧ fr 1 = .int .i64 0 ∧ fr 5 = .lst 22 [] (.own b b 0 0 0 1) ∧ fr 6 = .int .i64 0 ∧ h1 = h.setT b ⟨b, 0, 0, 0, 1, 22⟩) (fun i => 0) () ?_ ?_
  · exact ⟨rfl, rfl, rfl, rfl, rfl⟩
  · rintro _ fr h1 ⟨f0, f1, f5, f6, rfl⟩
    have k2 : decide ((0 : Int) < 0) = false := rfl
    by_cases hl : (0 : Int) < (l.length : Int)
    · simp only [u_C l6_0.eq_1, runs, e_onS, AH.set_same, AH.set_set, List.map_cons, List.map_nil, List.length_cons, List.length_nil, List.drop_zero, List.drop_succ_cons, List.take_succ_cons, List.take_zero, List.take_nil, List.nil_append, List.cons_append, List.append_nil, List.all_cons, List.all_nil, Nat.zero_add, Nat.add_zero, ite_true, ite_false, if_true, if_false, ne_eq, not_false_eq_true, not_true_eq_false, and_true, true_and, and_self, Bool.and_true, Bool.true_and, Bool.not_true, Bool.not_false, List.getElem?_cons_zero, List.getElem?_cons_succ, Option.isSome_some, beq_self_eq_true, implies_true, forall_const, Nat.le_refl, Option.some.injEq, Option.getD_some, Option.getD_none, List.getElem?_nil, e_Lpn, e_Lpe, e_Lpr, decide_true, decide_false, Int.natCast_nonneg, Int.toNat_natCast, Int.toNat_zero, lt_irr, imp_self, false_implies, big_eq, pevA, takeA, putA, fillA, chunkA, zerosL, binA, binI, binS, isNilA, lookA, bndA, depA, depV, depM, depS, cellAt, elemAt, initA, Nat.reduceAdd, Nat.reduceLeDiff, Nat.reduceEqDiff, reduceIte, reduceCtorEq, Nat.reduceLT, Nat.reduceMul, Nat.reduceSub, Int.reduceAdd, Int.reduceSub, Int.reduceMul, Int.reduceLT, Int.reduceLE, Int.reduceEq, Int.reduceNe, Int.reduceNeg, Int.reduceToNat, f0, f1, f5, f6, lC_len, hl, decide_true, k2]
      exact ⟨.tag _ _ _, AH.le_setT hb1⟩
    · simp only [u_C l6_0.eq_1, runs, e_onS, AH.set_same, AH.set_set, List.map_cons, List.map_nil, List.length_cons, List.length_nil, List.drop_zero, List.drop_succ_cons, List.take_succ_cons, List.take_zero, List.take_nil, List.nil_append, List.cons_append, List.append_nil, List.all_cons, List.all_nil, Nat.zero_add, Nat.add_zero, ite_true, ite_false, if_true, if_false, ne_eq, not_false_eq_true, not_true_eq_false, and_true, true_and, and_self, Bool.and_true, Bool.true_and, Bool.not_true, Bool.not_false, List.getElem?_cons_zero, List.getElem?_cons_succ, Option.isSome_some, beq_self_eq_true, implies_true, forall_const, Nat.le_refl, Option.some.injEq, Option.getD_some, Option.getD_none, List.getElem?_nil, e_Lpn, e_Lpe, e_Lpr, decide_true, decide_false, Int.natCast_nonneg, Int.toNat_natCast, Int.toNat_zero, lt_irr, imp_self, false_implies, big_eq, pevA, takeA, putA, fillA, chunkA, zerosL, binA, binI, binS, isNilA, lookA, bndA, depA, depV, depM, depS, cellAt, elemAt, initA, Nat.reduceAdd, Nat.reduceLeDiff, Nat.reduceEqDiff, reduceIte, reduceCtorEq, Nat.reduceLT, Nat.reduceMul, Nat.reduceSub, Int.reduceAdd, Int.reduceSub, Int.reduceMul, Int.reduceLT, Int.reduceLE, Int.reduceEq, Int.reduceNe, Int.reduceNeg, Int.reduceToNat, f0, f1, f5, f6, lC_len, hl, decide_false, k2]
      exact ⟨.tag _ _ _, AH.le_setT hb1⟩
theorem needs_all (E : TypeId) (l : List Int) (n : Nat) (hn2 : n ≤ 15) (hl : l.length ≤ 40) : Pure T 6 [.lst E (lC l) .no, .int .i64 n] (.lst 22 (rowsC (needsF n l)) .no) := by
  rcases Nat.eq_zero_or_pos n with rfl | h
  · rw [needsF_0]; exact needs0 E l
  · exact needs_ok E l n h hn2 hl
theorem order_all (x : List (List Int)) (n : Nat) (hn2 : n ≤ 15) (hx : InR n x) (hrl : ∀ row ∈ x, row.length ≤ 1000) (K : Nat → Prop) (h : AH) : ACall T K (.func 7) [.int .i64 n, .lst 22 (rowsC x) .no] h (OrdQ n x h) := by
  rcases Nat.eq_zero_or_pos n with rfl | hn
  · refine (order0 _).use ⟨[], ⟨0, rfl, rfl⟩, rfl, rfl⟩
  · exact order_ok x n hn hn2 hx hrl K h
def iC (d : List Int) : List AV := d.map fun v => .int .i64 v
theorem iC_len (d : List Int) : (iC d).length = d.length := by rw [iC, List.length_map]
theorem iC_get (d : List Int) (i : Nat) : (iC d)[i]? = (d[i]?).map fun b => AV.int .i64 b := by rw [iC, List.getElem?_map]
theorem iC_set (d : List Int) (k : Nat) (b : Int) (hk : k < d.length) : (iC d).take k ++ [AV.int .i64 b] ++ (iC d).drop (k + 1) = iC (d.set k b) := by
  rw [← set_put _ _ _ (by rw [iC_len]; exact hk), iC, iC, map_set']
theorem getI {d : List Int} {y : Nat} (h : y < d.length) : d[y]? = some (d.getD y 0) := by simp [List.getD, h]
theorem setI {d : List Int} {k y : Nat} {v : Int} (hk : k < d.length) : (d.set k v).getD y 0 = if y = k then v else d.getD y 0 := by
  by_cases h : y = k
  · subst h; simp [List.getD, hk]
  · have h' : k ≠ y := fun e => h e.symm
    simp [List.getD, h, h']
end Go.Proofs.Ytplnafebmpldgaa.p

namespace Go.Proofs.Ytplnafebmpldgaa.p
open Go.Proofs Go Go.Cn code grp
set_option linter.unusedSimpArgs false
set_option linter.unusedVariables false

theorem sameInts_ok (g : List Nat) : Pure T 12 [.lst 3 (nC g) .no, .lst 3 (nC g) .no] (.bool true) := by
  intro K h
  refine ACall.ret t12 fun hK => ?_
  have j1 : (!decide ((g.length : Int) = (g.length : Int))) = false := by simp
  simp only [u_C c12.eq_1, runs, e_onS, AH.set_same, AH.set_set, List.map_cons, List.map_nil, List.length_cons, List.length_nil, List.drop_zero, List.drop_succ_cons, List.take_succ_cons, List.take_zero, List.take_nil, List.nil_append, List.cons_append, List.append_nil, List.all_cons, List.all_nil, Nat.zero_add, Nat.add_zero, ite_true, ite_false, if_true, if_false, ne_eq, not_false_eq_true, not_true_eq_false, and_true, true_and, and_self, Bool.and_true, Bool.true_and, Bool.not_true, Bool.not_false, List.getElem?_cons_zero, List.getElem?_cons_succ, Option.isSome_some, beq_self_eq_true, implies_true, forall_const, Nat.le_refl, Option.some.injEq, Option.getD_some, Option.getD_none, List.getElem?_nil, e_Lpn, e_Lpe, e_Lpr, decide_true, decide_false, Int.natCast_nonneg, Int.toNat_natCast, Int.toNat_zero, lt_irr, imp_self, false_implies, big_eq, pevA, takeA, putA, fillA, chunkA, zerosL, binA, binI, binS, isNilA, lookA, bndA, depA, depV, depM, depS, cellAt, elemAt, initA, Nat.reduceAdd, Nat.reduceLeDiff, Nat.reduceEqDiff, reduceIte, reduceCtorEq, Nat.reduceLT, Nat.reduceMul, Nat.reduceSub, Int.reduceAdd, Int.reduceSub, Int.reduceMul, Int.reduceLT, Int.reduceLE, Int.reduceEq, Int.reduceNe, Int.reduceNeg, Int.reduceToNat, nC_len, j1]
  refine W.bound (t := 0) rfl fun hB => ?_
  rw [nC_len] at hB
  refine aloop (α := Nat) (fun i fr h1 => fr 0 = .lst 3 (nC g) .no ∧ fr 1 = .lst 3 (nC g) .no ∧ fr 5 = .int .i64 i ∧ i ≤ g.length ∧ h1 = h) (fun i => g.length - i) 0 ?_ ?_
  · exact ⟨rfl, rfl, rfl, Nat.zero_le _, rfl⟩
  · rintro i fr h1 ⟨f0, f1, f5, hi, rfl⟩
    by_cases hlt : i < g.length
    · have k1 : decide ((i : Int) < (g.length : Int)) = true := by simp; omega
      obtain ⟨v, hv⟩ : ∃ v, g[i]? = some v := ⟨_, List.getElem?_eq_getElem hlt⟩
      have j2 : decide ((v : Int) = (v : Int)) = true := by simp
      have hw : IntKind.i64.wrap ((i : Int) + 1) = ((i + 1 : Nat) : Int) := wrapS hlt hB
      simp only [u_C l12_1.eq_1, e_dregion d12_0, u_L s12_0.eq_1, u_T g12_0.eq_1, runs, e_onS, AH.set_same, AH.set_set, List.map_cons, List.map_nil, List.length_cons, List.length_nil, List.drop_zero, List.drop_succ_cons, List.take_succ_cons, List.take_zero, List.take_nil, List.nil_append, List.cons_append, List.append_nil, List.all_cons, List.all_nil, Nat.zero_add, Nat.add_zero, ite_true, ite_false, if_true, if_false, ne_eq, not_false_eq_true, not_true_eq_false, and_true, true_and, and_self, Bool.and_true, Bool.true_and, Bool.not_true, Bool.not_false, List.getElem?_cons_zero, List.getElem?_cons_succ, Option.isSome_some, beq_self_eq_true, implies_true, forall_const, Nat.le_refl, Option.some.injEq, Option.getD_some, Option.getD_none, List.getElem?_nil, e_Lpn, e_Lpe, e_Lpr, decide_true, decide_false, Int.natCast_nonneg, Int.toNat_natCast, Int.toNat_zero, lt_irr, imp_self, false_implies, big_eq, pevA, takeA, putA, fillA, chunkA, zerosL, binA, binI, binS, isNilA, lookA, bndA, depA, depV, depM, depS, cellAt, elemAt, initA, Nat.reduceAdd, Nat.reduceLeDiff, Nat.reduceEqDiff, reduceIte, reduceCtorEq, Nat.reduceLT, Nat.reduceMul, Nat.reduceSub, Int.reduceAdd, Int.reduceSub, Int.reduceMul, Int.reduceLT, Int.reduceLE, Int.reduceEq, Int.reduceNe, Int.reduceNeg, Int.reduceToNat, f0, f1, f5, nC_len, nC_get, hv, Option.map_some, k1, j2, hw]
      exact ⟨i + 1, by show g.length - (i + 1) < g.length - i; omega, f0, f1, by simp [upd], hlt, rfl⟩
    · have k1 : decide ((i : Int) < (g.length : Int)) = false := by simp; omega
      simp only [u_C l12_1.eq_1, runs, e_onS, AH.set_same, AH.set_set, List.map_cons, List.map_nil, List.length_cons, List.length_nil, List.drop_zero, List.drop_succ_cons, List.take_succ_cons, List.take_zero, List.take_nil, List.nil_append, List.cons_append, List.append_nil, List.all_cons, List.all_nil, Nat.zero_add, Nat.add_zero, ite_true, ite_false, if_true, if_false, ne_eq, not_false_eq_true, not_true_eq_false, and_true, true_and, and_self, Bool.and_true, Bool.true_and, Bool.not_true, Bool.not_false, List.getElem?_cons_zero, List.getElem?_cons_succ, Option.isSome_some, beq_self_eq_true, implies_true, forall_const, Nat.le_refl, Option.some.injEq, Option.getD_some, Option.getD_none, List.getElem?_nil, e_Lpn, e_Lpe, e_Lpr, decide_true, decide_false, Int.natCast_nonneg, Int.toNat_natCast, Int.toNat_zero, lt_irr, imp_self, false_implies, big_eq, pevA, takeA, putA, fillA, chunkA, zerosL, binA, binI, binS, isNilA, lookA, bndA, depA, depV, depM, depS, cellAt, elemAt, initA, Nat.reduceAdd, Nat.reduceLeDiff, Nat.reduceEqDiff, reduceIte, reduceCtorEq, Nat.reduceLT, Nat.reduceMul, Nat.reduceSub, Int.reduceAdd, Int.reduceSub, Int.reduceMul, Int.reduceLT, Int.reduceLE, Int.reduceEq, Int.reduceNe, Int.reduceNeg, Int.reduceToNat, f0, f1, f5, nC_len, k1]
      exact ⟨.refl _, AH.le_refl _⟩
theorem sameRows_ok (o : List (List Nat)) : Pure T 8 [.lst 22 (oC o) .no, .lst 22 (oC o) .no] (.bool true) := by
  intro K h
  refine ACall.ret t8 fun hK => ?_
  have j1 : (!decide ((o.length : Int) = (o.length : Int))) = false := by simp
  simp only [u_C c8.eq_1, runs, e_onS, AH.set_same, AH.set_set, List.map_cons, List.map_nil, List.length_cons, List.length_nil, List.drop_zero, List.drop_succ_cons, List.take_succ_cons, List.take_zero, List.take_nil, List.nil_append, List.cons_append, List.append_nil, List.all_cons, List.all_nil, Nat.zero_add, Nat.add_zero, ite_true, ite_false, if_true, if_false, ne_eq, not_false_eq_true, not_true_eq_false, and_true, true_and, and_self, Bool.and_true, Bool.true_and, Bool.not_true, Bool.not_false, List.getElem?_cons_zero, List.getElem?_cons_succ, Option.isSome_some, beq_self_eq_true, implies_true, forall_const, Nat.le_refl, Option.some.injEq, Option.getD_some, Option.getD_none, List.getElem?_nil, e_Lpn, e_Lpe, e_Lpr, decide_true, decide_false, Int.natCast_nonneg, Int.toNat_natCast, Int.toNat_zero, lt_irr, imp_self, false_implies, big_eq, pevA, takeA, putA, fillA, chunkA, zerosL, binA, binI, binS, isNilA, lookA, bndA, depA, depV, depM, depS, cellAt, elemAt, initA, Nat.reduceAdd, Nat.reduceLeDiff, Nat.reduceEqDiff, reduceIte, reduceCtorEq, Nat.reduceLT, Nat.reduceMul, Nat.reduceSub, Int.reduceAdd, Int.reduceSub, Int.reduceMul, Int.reduceLT, Int.reduceLE, Int.reduceEq, Int.reduceNe, Int.reduceNeg, Int.reduceToNat, oC_len, j1]
  refine W.bound (t := 0) rfl fun hB => ?_
  rw [oC_len] at hB
  refine aloop (α := Nat) (fun i fr h1 => fr 0 = .lst 22 (oC o) .no ∧ fr 1 = .lst 22 (oC o) .no ∧ fr 5 = .int .i64 i ∧ i ≤ o.length ∧ h1 = h) (fun i => o.length - i) 0 ?_ ?_
  · exact ⟨rfl, rfl, rfl, Nat.zero_le _, rfl⟩
  · rintro i fr h1 ⟨f0, f1, f5, hi, rfl⟩
    by_cases hlt : i < o.length
    · have k1 : decide ((i : Int) < (o.length : Int)) = true := by simp; omega
      obtain ⟨v, hv⟩ : ∃ v, o[i]? = some v := ⟨_, List.getElem?_eq_getElem hlt⟩
      have hw : IntKind.i64.wrap ((i : Int) + 1) = ((i + 1 : Nat) : Int) := wrapS hlt hB
      simp only [u_C l8_1.eq_1, e_dregion d8_0, u_L s8_0.eq_1, u_T g8_0.eq_1, runs, e_onS, AH.set_same, AH.set_set, List.map_cons, List.map_nil, List.length_cons, List.length_nil, List.drop_zero, List.drop_succ_cons, List.take_succ_cons, List.take_zero, List.take_nil, List.nil_append, List.cons_append, List.append_nil, List.all_cons, List.all_nil, Nat.zero_add, Nat.add_zero, ite_true, ite_false, if_true, if_false, ne_eq, not_false_eq_true, not_true_eq_false, and_true, true_and, and_self, Bool.and_true, Bool.true_and, Bool.not_true, Bool.not_false, List.getElem?_cons_zero, List.getElem?_cons_succ, Option.isSome_some, beq_self_eq_true, implies_true, forall_const, Nat.le_refl, Option.some.injEq, Option.getD_some, Option.getD_none, List.getElem?_nil, e_Lpn, e_Lpe, e_Lpr, decide_true, decide_false, Int.natCast_nonneg, Int.toNat_natCast, Int.toNat_zero, lt_irr, imp_self, false_implies, big_eq, pevA, takeA, putA, fillA, chunkA, zerosL, binA, binI, binS, isNilA, lookA, bndA, depA, depV, depM, depS, cellAt, elemAt, initA, Nat.reduceAdd, Nat.reduceLeDiff, Nat.reduceEqDiff, reduceIte, reduceCtorEq, Nat.reduceLT, Nat.reduceMul, Nat.reduceSub, Int.reduceAdd, Int.reduceSub, Int.reduceMul, Int.reduceLT, Int.reduceLE, Int.reduceEq, Int.reduceNe, Int.reduceNeg, Int.reduceToNat, f0, f1, f5, oC_len, oC_get, hv, Option.map_some, k1]
      refine (sameInts_ok v).use ?_
      simp only [u_C l8_1.eq_1, e_dregion d8_0, u_L s8_0.eq_1, u_T g8_0.eq_1, runs, e_onS, AH.set_same, AH.set_set, List.map_cons, List.map_nil, List.length_cons, List.length_nil, List.drop_zero, List.drop_succ_cons, List.take_succ_cons, List.take_zero, List.take_nil, List.nil_append, List.cons_append, List.append_nil, List.all_cons, List.all_nil, Nat.zero_add, Nat.add_zero, ite_true, ite_false, if_true, if_false, ne_eq, not_false_eq_true, not_true_eq_false, and_true, true_and, and_self, Bool.and_true, Bool.true_and, Bool.not_true, Bool.not_false, List.getElem?_cons_zero, List.getElem?_cons_succ, Option.isSome_some, beq_self_eq_true, implies_true, forall_const, Nat.le_refl, Option.some.injEq, Option.getD_some, Option.getD_none, List.getElem?_nil, e_Lpn, e_Lpe, e_Lpr, decide_true, decide_false, Int.natCast_nonneg, Int.toNat_natCast, Int.toNat_zero, lt_irr, imp_self, false_implies, big_eq, pevA, takeA, putA, fillA, chunkA, zerosL, binA, binI, binS, isNilA, lookA, bndA, depA, depV, depM, depS, cellAt, elemAt, initA, Nat.reduceAdd, Nat.reduceLeDiff, Nat.reduceEqDiff, reduceIte, reduceCtorEq, Nat.reduceLT, Nat.reduceMul, Nat.reduceSub, Int.reduceAdd, Int.reduceSub, Int.reduceMul, Int.reduceLT, Int.reduceLE, Int.reduceEq, Int.reduceNe, Int.reduceNeg, Int.reduceToNat, f0, f1, f5, oC_len, oC_get, hv, Option.map_some, k1, hw]
      exact ⟨i + 1, by show o.length - (i + 1) < o.length - i; omega, f0, f1, by simp [upd], hlt, rfl⟩
    · have k1 : decide ((i : Int) < (o.length : Int)) = false := by simp; omega
      simp only [u_C l8_1.eq_1, runs, e_onS, AH.set_same, AH.set_set, List.map_cons, List.map_nil, List.length_cons, List.length_nil, List.drop_zero, List.drop_succ_cons, List.take_succ_cons, List.take_zero, List.take_nil, List.nil_append, List.cons_append, List.append_nil, List.all_cons, List.all_nil, Nat.zero_add, Nat.add_zero, ite_true, ite_false, if_true, if_false, ne_eq, not_false_eq_true, not_true_eq_false, and_true, true_and, and_self, Bool.and_true, Bool.true_and, Bool.not_true, Bool.not_false, List.getElem?_cons_zero, List.getElem?_cons_succ, Option.isSome_some, beq_self_eq_true, implies_true, forall_const, Nat.le_refl, Option.some.injEq, Option.getD_some, Option.getD_none, List.getElem?_nil, e_Lpn, e_Lpe, e_Lpr, decide_true, decide_false, Int.natCast_nonneg, Int.toNat_natCast, Int.toNat_zero, lt_irr, imp_self, false_implies, big_eq, pevA, takeA, putA, fillA, chunkA, zerosL, binA, binI, binS, isNilA, lookA, bndA, depA, depV, depM, depS, cellAt, elemAt, initA, Nat.reduceAdd, Nat.reduceLeDiff, Nat.reduceEqDiff, reduceIte, reduceCtorEq, Nat.reduceLT, Nat.reduceMul, Nat.reduceSub, Int.reduceAdd, Int.reduceSub, Int.reduceMul, Int.reduceLT, Int.reduceLE, Int.reduceEq, Int.reduceNe, Int.reduceNeg, Int.reduceToNat, f0, f1, f5, oC_len, k1]
      exact ⟨.refl _, AH.le_refl _⟩
end Go.Proofs.Ytplnafebmpldgaa.p

namespace Go.Proofs.Ytplnafebmpldgaa.p
open Go.Proofs Go Go.Cn code grp
set_option linter.unusedSimpArgs false
set_option linter.unusedVariables false

theorem mod12 (z : Int) : IntKind.i64.wrap (z.tmod 12 + 12) = z.tmod 12 + 12 ∧ ∃ n : Nat, 0 < n ∧ n ≤ 12 ∧ IntKind.i64.wrap ((z.tmod 12 + 12).tmod 12 + 1) = n := by
  have h1 := kF_in (n := 12) (by decide) z
  have h2 := wrapK (n := 12) (by decide) (by decide) z
  have e : (z.tmod 12 + 12).tmod 12 = kF 12 z := rfl
  refine ⟨h2, (kF 12 z).toNat + 1, by omega, by omega, ?_⟩
  rw [e, wrap64 ⟨by omega, by omega⟩]; omega
theorem more_long {v : AV} {m : Nat} (z a b : Int) (hv : (∃ b o c, v = .slice b o m c) ∨ ∃ E es t, v = .lst E es t ∧ es.length = m) (hm : 30 < m) : Pure T 3 [v, .int .i64 z, .int .i64 a, .int .i64 b] (.bool true) := by
  intro K h
  refine ACall.ret t3 fun hK => ?_
  have hl : (30 : Int) < (m : Int) := by omega
  rcases hv with ⟨_, _, _, rfl⟩ | ⟨_, es, _, rfl, he⟩
  · simp only [u_C c3.eq_1, runs, e_onS, AH.set_same, AH.set_set, List.map_cons, List.map_nil, List.length_cons, List.length_nil, List.drop_zero, List.drop_succ_cons, List.take_succ_cons, List.take_zero, List.take_nil, List.nil_append, List.cons_append, List.append_nil, List.all_cons, List.all_nil, Nat.zero_add, Nat.add_zero, ite_true, ite_false, if_true, if_false, ne_eq, not_false_eq_true, not_true_eq_false, and_true, true_and, and_self, Bool.and_true, Bool.true_and, Bool.not_true, Bool.not_false, List.getElem?_cons_zero, List.getElem?_cons_succ, Option.isSome_some, beq_self_eq_true, implies_true, forall_const, Nat.le_refl, Option.some.injEq, Option.getD_some, Option.getD_none, List.getElem?_nil, e_Lpn, e_Lpe, e_Lpr, decide_true, decide_false, Int.natCast_nonneg, Int.toNat_natCast, Int.toNat_zero, lt_irr, imp_self, false_implies, big_eq, pevA, takeA, putA, fillA, chunkA, zerosL, binA, binI, binS, isNilA, lookA, bndA, depA, depV, depM, depS, cellAt, elemAt, initA, Nat.reduceAdd, Nat.reduceLeDiff, Nat.reduceEqDiff, reduceIte, reduceCtorEq, Nat.reduceLT, Nat.reduceMul, Nat.reduceSub, Int.reduceAdd, Int.reduceSub, Int.reduceMul, Int.reduceLT, Int.reduceLE, Int.reduceEq, Int.reduceNe, Int.reduceNeg, Int.reduceToNat]
    refine first_ok.use ?_
    simp only [hl, runs, e_onS, AH.set_same, AH.set_set, List.map_cons, List.map_nil, List.length_cons, List.length_nil, List.drop_zero, List.drop_succ_cons, List.take_succ_cons, List.take_zero, List.take_nil, List.nil_append, List.cons_append, List.append_nil, List.all_cons, List.all_nil, Nat.zero_add, Nat.add_zero, ite_true, ite_false, if_true, if_false, ne_eq, not_false_eq_true, not_true_eq_false, and_true, true_and, and_self, Bool.and_true, Bool.true_and, Bool.not_true, Bool.not_false, List.getElem?_cons_zero, List.getElem?_cons_succ, Option.isSome_some, beq_self_eq_true, implies_true, forall_const, Nat.le_refl, Option.some.injEq, Option.getD_some, Option.getD_none, List.getElem?_nil, e_Lpn, e_Lpe, e_Lpr, decide_true, decide_false, Int.natCast_nonneg, Int.toNat_natCast, Int.toNat_zero, lt_irr, imp_self, false_implies, big_eq, pevA, takeA, putA, fillA, chunkA, zerosL, binA, binI, binS, isNilA, lookA, bndA, depA, depV, depM, depS, cellAt, elemAt, initA, Nat.reduceAdd, Nat.reduceLeDiff, Nat.reduceEqDiff, reduceIte, reduceCtorEq, Nat.reduceLT, Nat.reduceMul, Nat.reduceSub, Int.reduceAdd, Int.reduceSub, Int.reduceMul, Int.reduceLT, Int.reduceLE, Int.reduceEq, Int.reduceNe, Int.reduceNeg, Int.reduceToNat]
    exact ⟨.refl _, AH.le_refl _⟩
  · simp only [u_C c3.eq_1, runs, e_onS, AH.set_same, AH.set_set, List.map_cons, List.map_nil, List.length_cons, List.length_nil, List.drop_zero, List.drop_succ_cons, List.take_succ_cons, List.take_zero, List.take_nil, List.nil_append, List.cons_append, List.append_nil, List.all_cons, List.all_nil, Nat.zero_add, Nat.add_zero, ite_true, ite_false, if_true, if_false, ne_eq, not_false_eq_true, not_true_eq_false, and_true, true_and, and_self, Bool.and_true, Bool.true_and, Bool.not_true, Bool.not_false, List.getElem?_cons_zero, List.getElem?_cons_succ, Option.isSome_some, beq_self_eq_true, implies_true, forall_const, Nat.le_refl, Option.some.injEq, Option.getD_some, Option.getD_none, List.getElem?_nil, e_Lpn, e_Lpe, e_Lpr, decide_true, decide_false, Int.natCast_nonneg, Int.toNat_natCast, Int.toNat_zero, lt_irr, imp_self, false_implies, big_eq, pevA, takeA, putA, fillA, chunkA, zerosL, binA, binI, binS, isNilA, lookA, bndA, depA, depV, depM, depS, cellAt, elemAt, initA, Nat.reduceAdd, Nat.reduceLeDiff, Nat.reduceEqDiff, reduceIte, reduceCtorEq, Nat.reduceLT, Nat.reduceMul, Nat.reduceSub, Int.reduceAdd, Int.reduceSub, Int.reduceMul, Int.reduceLT, Int.reduceLE, Int.reduceEq, Int.reduceNe, Int.reduceNeg, Int.reduceToNat]
    refine first_ok.use ?_
    rw [← he] at hl
    simp only [hl, runs, e_onS, AH.set_same, AH.set_set, List.map_cons, List.map_nil, List.length_cons, List.length_nil, List.drop_zero, List.drop_succ_cons, List.take_succ_cons, List.take_zero, List.take_nil, List.nil_append, List.cons_append, List.append_nil, List.all_cons, List.all_nil, Nat.zero_add, Nat.add_zero, ite_true, ite_false, if_true, if_false, ne_eq, not_false_eq_true, not_true_eq_false, and_true, true_and, and_self, Bool.and_true, Bool.true_and, Bool.not_true, Bool.not_false, List.getElem?_cons_zero, List.getElem?_cons_succ, Option.isSome_some, beq_self_eq_true, implies_true, forall_const, Nat.le_refl, Option.some.injEq, Option.getD_some, Option.getD_none, List.getElem?_nil, e_Lpn, e_Lpe, e_Lpr, decide_true, decide_false, Int.natCast_nonneg, Int.toNat_natCast, Int.toNat_zero, lt_irr, imp_self, false_implies, big_eq, pevA, takeA, putA, fillA, chunkA, zerosL, binA, binI, binS, isNilA, lookA, bndA, depA, depV, depM, depS, cellAt, elemAt, initA, Nat.reduceAdd, Nat.reduceLeDiff, Nat.reduceEqDiff, reduceIte, reduceCtorEq, Nat.reduceLT, Nat.reduceMul, Nat.reduceSub, Int.reduceAdd, Int.reduceSub, Int.reduceMul, Int.reduceLT, Int.reduceLE, Int.reduceEq, Int.reduceNe, Int.reduceNeg, Int.reduceToNat]
    exact ⟨.refl _, AH.le_refl _⟩

/-- what the frame has on the way -/
def MF (n a b : Nat) (o1 o2 : List (List Nat)) (y c : Nat) (fr : AFr) : Prop :=
  fr 1 = .int .i64 n ∧ fr 2 = .int .i64 a ∧ fr 3 = .int .i64 b ∧ fr 9 = .bool true ∧ fr 11 = .lst 22 (oC o1) .no ∧ fr 12 = .slice y 0 n n ∧ fr 13 = .lst 22 (oC o2) .no ∧ fr 14 = .slice c 0 n n
set_option maxRecDepth 8000 in
theorem more_1 (x : List (List Int)) (n a b : Nat) (hn : n ≤ 12) (o1 out : List (List Nat)) (p : Nat → Nat) (hp : Pos n x out p) (y c : Nat) (K : Nat → Prop) (H : AH) (fr : AFr) (d : List Int) (hk : ¬ K c) (hf : MF n a b o1 out y c fr) (f15 : fr 15 = .int .i64 0) (hd : d.length = n)
    (R : CExit → AQ) (hR : ∀ fr d, MF n a b o1 out y c fr → d.length = n → (∀ z, z < n → d.getD z 0 = (p z : Int)) → R (.exit 0) fr (H.set c (.cells (iC d) 3))) : W T K (.loop l3_1.toC) fr (H.set c (.cells (iC d) 3)) R := by
  refine W.bound (t := 13) hf.2.2.2.2.2.2.1 fun hB => ?_
  rw [oC_len] at hB
  refine aloop (α := Nat × List Int) (fun q fr h1 => MF n a b o1 out y c fr ∧ fr 15 = .int .i64 q.1 ∧ q.1 ≤ out.length ∧ q.2.length = n ∧ (∀ z, z < n → p z < q.1 → q.2.getD z 0 = (p z : Int)) ∧ h1 = H.set c (.cells (iC q.2) 3)) (fun q => out.length - q.1) (0, d) ?_ ?_
  · exact ⟨hf, f15, Nat.zero_le _, hd, fun z _ h => absurd h (Nat.not_lt_zero _), rfl⟩
  · clear hf f15 hd
    rintro ⟨i, d⟩ fr h1 ⟨hf, f15, hi, hd, hd1, rfl⟩
    simp only at f15 hi hd hd1
    have hf' := hf
    obtain ⟨f1, f2, f3, f9, f11, f12, f13, f14⟩ := hf'
    by_cases hlt : i < out.length
    · have k1 : decide ((i : Int) < (out.length : Int)) = true := by simp; omega
      have hw : IntKind.i64.wrap ((i : Int) + 1) = ((i + 1 : Nat) : Int) := wrapS hlt hB
      obtain ⟨g, hg⟩ : ∃ g, out[i]? = some g := ⟨_, List.getElem?_eq_getElem hlt⟩
      have hgm := List.mem_of_getElem? hg
      have hgl := hp.len g hgm
      simp only [u_C l3_1.eq_1, runs, e_onS, AH.set_same, AH.set_set, List.map_cons, List.map_nil, List.length_cons, List.length_nil, List.drop_zero, List.drop_succ_cons, List.take_succ_cons, List.take_zero, List.take_nil, List.nil_append, List.cons_append, List.append_nil, List.all_cons, List.all_nil, Nat.zero_add, Nat.add_zero, ite_true, ite_false, if_true, if_false, ne_eq, not_false_eq_true, not_true_eq_false, and_true, true_and, and_self, Bool.and_true, Bool.true_and, Bool.not_true, Bool.not_false, List.getElem?_cons_zero, List.getElem?_cons_succ, Option.isSome_some, beq_self_eq_true, implies_true, forall_const, Nat.le_refl, Option.some.injEq, Option.getD_some, Option.getD_none, List.getElem?_nil, e_Lpn, e_Lpe, e_Lpr, decide_true, decide_false, Int.natCast_nonneg, Int.toNat_natCast, Int.toNat_zero, lt_irr, imp_self, false_implies, big_eq, pevA, takeA, putA, fillA, chunkA, zerosL, binA, binI, binS, isNilA, lookA, bndA, depA, depV, depM, depS, cellAt, elemAt, initA, Nat.reduceAdd, Nat.reduceLeDiff, Nat.reduceEqDiff, reduceIte, reduceCtorEq, Nat.reduceLT, Nat.reduceMul, Nat.reduceSub, Int.reduceAdd, Int.reduceSub, Int.reduceMul, Int.reduceLT, Int.reduceLE, Int.reduceEq, Int.reduceNe, Int.reduceNeg, Int.reduceToNat, f13, f15, oC_len, k1]
      refine aloop (α := Nat × List Int) (fun q fr h1 => MF n a b o1 out y c fr ∧ fr 15 = .int .i64 i ∧ fr 16 = .int .i64 q.1 ∧ q.1 ≤ g.length ∧ q.2.length = n ∧ (∀ z, z < n → (p z < i ∨ (p z = i ∧ z ∈ g.take q.1)) → q.2.getD z 0 = (p z : Int)) ∧ h1 = H.set c (.cells (iC q.2) 3)) (fun q => g.length - q.1) (0, d) ?_ ?_
      · refine ⟨hf, f15, rfl, Nat.zero_le _, hd, fun z hz h => ?_, rfl⟩
        rcases h with h | ⟨_, h⟩
        · exact hd1 z hz h
        · simp at h
      · clear hf f1 f2 f3 f9 f11 f12 f13 f14 f15 hd hd1
        rintro ⟨k, d⟩ fr h1 ⟨hf, f15, f16, hkl, hd, hd1, rfl⟩
        simp only at f16 hkl hd hd1
        have hf' := hf
        obtain ⟨f1, f2, f3, f9, f11, f12, f13, f14⟩ := hf'
        by_cases hkt : k < g.length
        · have k2 : decide ((k : Int) < (g.length : Int)) = true := by simp; omega
          have hw2 : IntKind.i64.wrap ((k : Int) + 1) = ((k + 1 : Nat) : Int) := wrap64 ⟨by omega, by omega⟩
          obtain ⟨v, hv⟩ : ∃ v, g[k]? = some v := ⟨_, List.getElem?_eq_getElem hkt⟩
          have hvm := List.mem_of_getElem? hv
          have hvn := hp.lt g v hgm hvm
          have hpv := hp.uniq i v g hg hvm
          have j1 : decide ((v : Int) < 0) = false := by simp
          have j2 : decide ((n : Int) ≤ (v : Int)) = false := by simp; omega
          have cv : (v : Int) < (n : Int) := by omega
          have hpl : v + 1 ≤ (iC d).length := by rw [iC_len]; omega
          have hput := iC_set d v (i : Int) (by omega)
          simp only [u_C l3_0.eq_1, runs, e_onS, AH.set_same, AH.set_set, List.map_cons, List.map_nil, List.length_cons, List.length_nil, List.drop_zero, List.drop_succ_cons, List.take_succ_cons, List.take_zero, List.take_nil, List.nil_append, List.cons_append, List.append_nil, List.all_cons, List.all_nil, Nat.zero_add, Nat.add_zero, ite_true, ite_false, if_true, if_false, ne_eq, not_false_eq_true, not_true_eq_false, and_true, true_and, and_self, Bool.and_true, Bool.true_and, Bool.not_true, Bool.not_false, List.getElem?_cons_zero, List.getElem?_cons_succ, Option.isSome_some, beq_self_eq_true, implies_true, forall_const, Nat.le_refl, Option.some.injEq, Option.getD_some, Option.getD_none, List.getElem?_nil, e_Lpn, e_Lpe, e_Lpr, decide_true, decide_false, Int.natCast_nonneg, Int.toNat_natCast, Int.toNat_zero, lt_irr, imp_self, false_implies, big_eq, pevA, takeA, putA, fillA, chunkA, zerosL, binA, binI, binS, isNilA, lookA, bndA, depA, depV, depM, depS, cellAt, elemAt, initA, Nat.reduceAdd, Nat.reduceLeDiff, Nat.reduceEqDiff, reduceIte, reduceCtorEq, Nat.reduceLT, Nat.reduceMul, Nat.reduceSub, Int.reduceAdd, Int.reduceSub, Int.reduceMul, Int.reduceLT, Int.reduceLE, Int.reduceEq, Int.reduceNe, Int.reduceNeg, Int.reduceToNat, f1, f13, f14, f15, f16, oC_get, hg, nC_len, nC_get, hv, k2, Option.map_some, j1, j2, cv, if_true, Int.toNat_natCast, Nat.mul_one, hpl, hput, hw2]
          refine ⟨hk, (k + 1, d.set v (i : Int)), by show g.length - (k + 1) < g.length - k; omega, hf, f15, by simp [upd], hkt, by rw [List.length_set]; exact hd, fun z hz h => ?_, rfl⟩
          show (d.set v (i : Int)).getD z 0 = _
          rw [setI (by omega)]
          by_cases hzv : z = v
          · subst hzv; rw [if_pos rfl, hpv]
          · rw [if_neg hzv]
            refine hd1 z hz ?_
            rcases h with h | ⟨h, h2⟩
            · exact .inl h
            · refine .inr ⟨h, ?_⟩
              have h2 : z ∈ g.take (k + 1) := h2
              rw [List.take_add_one, hv, Option.toList_some] at h2
              rcases List.mem_append.1 h2 with h2 | h2
              · exact h2
              · exact absurd (List.mem_singleton.1 h2) hzv
        · have k2 : decide ((k : Int) < (g.length : Int)) = false := by simp; omega
          simp only [u_C l3_0.eq_1, runs, e_onS, AH.set_same, AH.set_set, List.map_cons, List.map_nil, List.length_cons, List.length_nil, List.drop_zero, List.drop_succ_cons, List.take_succ_cons, List.take_zero, List.take_nil, List.nil_append, List.cons_append, List.append_nil, List.all_cons, List.all_nil, Nat.zero_add, Nat.add_zero, ite_true, ite_false, if_true, if_false, ne_eq, not_false_eq_true, not_true_eq_false, and_true, true_and, and_self, Bool.and_true, Bool.true_and, Bool.not_true, Bool.not_false, List.getElem?_cons_zero, List.getElem?_cons_succ, Option.isSome_some, beq_self_eq_true, implies_true, forall_const, Nat.le_refl, Option.some.injEq, Option.getD_some, Option.getD_none, List.getElem?_nil, e_Lpn, e_Lpe, e_Lpr, decide_true, decide_false, Int.natCast_nonneg, Int.toNat_natCast, Int.toNat_zero, lt_irr, imp_self, false_implies, big_eq, pevA, takeA, putA, fillA, chunkA, zerosL, binA, binI, binS, isNilA, lookA, bndA, depA, depV, depM, depS, cellAt, elemAt, initA, Nat.reduceAdd, Nat.reduceLeDiff, Nat.reduceEqDiff, reduceIte, reduceCtorEq, Nat.reduceLT, Nat.reduceMul, Nat.reduceSub, Int.reduceAdd, Int.reduceSub, Int.reduceMul, Int.reduceLT, Int.reduceLE, Int.reduceEq, Int.reduceNe, Int.reduceNeg, Int.reduceToNat, f13, f15, f16, oC_get, hg, nC_len, k2, Option.map_some, hw]
          refine ⟨(i + 1, d), by show out.length - (i + 1) < out.length - i; omega, hf, by simp [upd], hlt, hd, fun z hz h => hd1 z hz ?_, rfl⟩
          rcases Nat.lt_succ_iff_lt_or_eq.1 h with h | h
          · exact .inl h
          · obtain ⟨g', h1, h2⟩ := hp.at_ z hz
            rw [h, hg] at h1
            cases h1
            exact .inr ⟨h, by rw [List.take_of_length_le (by omega)]; exact h2⟩
    · have k1 : decide ((i : Int) < (out.length : Int)) = false := by simp; omega
      simp only [u_C l3_1.eq_1, runs, e_onS, AH.set_same, AH.set_set, List.map_cons, List.map_nil, List.length_cons, List.length_nil, List.drop_zero, List.drop_succ_cons, List.take_succ_cons, List.take_zero, List.take_nil, List.nil_append, List.cons_append, List.append_nil, List.all_cons, List.all_nil, Nat.zero_add, Nat.add_zero, ite_true, ite_false, if_true, if_false, ne_eq, not_false_eq_true, not_true_eq_false, and_true, true_and, and_self, Bool.and_true, Bool.true_and, Bool.not_true, Bool.not_false, List.getElem?_cons_zero, List.getElem?_cons_succ, Option.isSome_some, beq_self_eq_true, implies_true, forall_const, Nat.le_refl, Option.some.injEq, Option.getD_some, Option.getD_none, List.getElem?_nil, e_Lpn, e_Lpe, e_Lpr, decide_true, decide_false, Int.natCast_nonneg, Int.toNat_natCast, Int.toNat_zero, lt_irr, imp_self, false_implies, big_eq, pevA, takeA, putA, fillA, chunkA, zerosL, binA, binI, binS, isNilA, lookA, bndA, depA, depV, depM, depS, cellAt, elemAt, initA, Nat.reduceAdd, Nat.reduceLeDiff, Nat.reduceEqDiff, reduceIte, reduceCtorEq, Nat.reduceLT, Nat.reduceMul, Nat.reduceSub, Int.reduceAdd, Int.reduceSub, Int.reduceMul, Int.reduceLT, Int.reduceLE, Int.reduceEq, Int.reduceNe, Int.reduceNeg, Int.reduceToNat, f13, f15, oC_len, k1]
      refine hR _ d hf hd fun z hz => hd1 z hz ?_
      obtain ⟨g, hg, _⟩ := hp.at_ z hz
      have := (List.getElem?_eq_some_iff.1 hg).1
      omega
set_option maxRecDepth 8000 in
theorem more_2 (n a b : Nat) (hn : n ≤ 12) (o1 out : List (List Nat)) (p : Nat → Nat) (hlt1 : ∀ g ∈ o1, ∀ z ∈ g, z < n) (hlen : ∀ g ∈ o1, g.length ≤ n) (hsame : ∀ g ∈ o1, ∀ u ∈ g, ∀ v ∈ g, p u = p v) (y c : Nat) (K : Nat → Prop) (H : AH) (fr : AFr) (d : List Int) (hf : MF n a b o1 out y c fr) (f17 : fr 17 = .int .i64 0)
    (hdg : ∀ z, z < n → d[z]? = some (p z : Int)) (R : CExit → AQ) (hR : ∀ fr, MF n a b o1 out y c fr → R (.exit 4) fr (H.set c (.cells (iC d) 3))) : W T K (.loop l3_4.toC) fr (H.set c (.cells (iC d) 3)) R := by
  refine W.bound (t := 11) hf.2.2.2.2.1 fun hB => ?_
  rw [oC_len] at hB
  refine aloop (α := Nat) (fun i fr h1 => MF n a b o1 out y c fr ∧ fr 17 = .int .i64 i ∧ i ≤ o1.length ∧ h1 = H.set c (.cells (iC d) 3)) (fun i => o1.length - i) 0 ?_ ?_
  · exact ⟨hf, f17, Nat.zero_le _, rfl⟩
  · clear hf f17
    rintro i fr h1 ⟨hf, f17, hi, rfl⟩
    have hf' := hf
    obtain ⟨f1, f2, f3, f9, f11, f12, f13, f14⟩ := hf'
    by_cases hlt : i < o1.length
    · have k1 : decide ((i : Int) < (o1.length : Int)) = true := by simp; omega
      have hw : IntKind.i64.wrap ((i : Int) + 1) = ((i + 1 : Nat) : Int) := wrapS hlt hB
      obtain ⟨g, hg⟩ : ∃ g, o1[i]? = some g := ⟨_, List.getElem?_eq_getElem hlt⟩
      have hgm := List.mem_of_getElem? hg
      have hgl := hlen g hgm
      simp only [u_C l3_4.eq_1, runs, e_onS, AH.set_same, AH.set_set, List.map_cons, List.map_nil, List.length_cons, List.length_nil, List.drop_zero, List.drop_succ_cons, List.take_succ_cons, List.take_zero, List.take_nil, List.nil_append, List.cons_append, List.append_nil, List.all_cons, List.all_nil, Nat.zero_add, Nat.add_zero, ite_true, ite_false, if_true, if_false, ne_eq, not_false_eq_true, not_true_eq_false, and_true, true_and, and_self, Bool.and_true, Bool.true_and, Bool.not_true, Bool.not_false, List.getElem?_cons_zero, List.getElem?_cons_succ, Option.isSome_some, beq_self_eq_true, implies_true, forall_const, Nat.le_refl, Option.some.injEq, Option.getD_some, Option.getD_none, List.getElem?_nil, e_Lpn, e_Lpe, e_Lpr, decide_true, decide_false, Int.natCast_nonneg, Int.toNat_natCast, Int.toNat_zero, lt_irr, imp_self, false_implies, big_eq, pevA, takeA, putA, fillA, chunkA, zerosL, binA, binI, binS, isNilA, lookA, bndA, depA, depV, depM, depS, cellAt, elemAt, initA, Nat.reduceAdd, Nat.reduceLeDiff, Nat.reduceEqDiff, reduceIte, reduceCtorEq, Nat.reduceLT, Nat.reduceMul, Nat.reduceSub, Int.reduceAdd, Int.reduceSub, Int.reduceMul, Int.reduceLT, Int.reduceLE, Int.reduceEq, Int.reduceNe, Int.reduceNeg, Int.reduceToNat, f11, f17, oC_len, k1]
      refine aloop (α := Nat) (fun k fr h1 => MF n a b o1 out y c fr ∧ fr 17 = .int .i64 i ∧ fr 18 = .int .i64 k ∧ 1 ≤ k ∧ h1 = H.set c (.cells (iC d) 3)) (fun k => g.length + 1 - k) 1 ?_ ?_
      · exact ⟨hf, f17, rfl, Nat.le_refl _, rfl⟩
      · clear hf f1 f2 f3 f9 f11 f12 f13 f14 f17
        rintro k fr h1 ⟨hf, f17, f18, hk1, rfl⟩
        have hf' := hf
        obtain ⟨f1, f2, f3, f9, f11, f12, f13, f14⟩ := hf'
        by_cases hkt : k < g.length
        · have k2 : decide ((k : Int) < (g.length : Int)) = true := by simp; omega
          have hw2 : IntKind.i64.wrap ((k : Int) + 1) = ((k + 1 : Nat) : Int) := wrap64 ⟨by omega, by omega⟩
          obtain ⟨v, hv⟩ : ∃ v, g[k]? = some v := ⟨_, List.getElem?_eq_getElem hkt⟩
          obtain ⟨u, hu⟩ : ∃ u, g[0]? = some u := ⟨_, List.getElem?_eq_getElem (by omega)⟩
          have hvm := List.mem_of_getElem? hv
          have hum := List.mem_of_getElem? hu
          have hvn := hlt1 g hgm v hvm
          have hun := hlt1 g hgm u hum
          have cv : (v : Int) < (n : Int) := by omega
          have cu : (u : Int) < (n : Int) := by omega
          have hdv := hdg v hvn
          have hdu := hdg u hun
          have hpp := hsame g hgm v hvm u hum
          have j1 : (!decide ((p v : Int) = (p u : Int))) = false := by simp; omega
          have z0 : (0 : Int).toNat = 0 := rfl
          simp only [u_C l3_3.eq_1, e_dregion d3_2, u_L s3_2.eq_1, u_T g3_2.eq_1, runs, e_onS, AH.set_same, AH.set_set, List.map_cons, List.map_nil, List.length_cons, List.length_nil, List.drop_zero, List.drop_succ_cons, List.take_succ_cons, List.take_zero, List.take_nil, List.nil_append, List.cons_append, List.append_nil, List.all_cons, List.all_nil, Nat.zero_add, Nat.add_zero, ite_true, ite_false, if_true, if_false, ne_eq, not_false_eq_true, not_true_eq_false, and_true, true_and, and_self, Bool.and_true, Bool.true_and, Bool.not_true, Bool.not_false, List.getElem?_cons_zero, List.getElem?_cons_succ, Option.isSome_some, beq_self_eq_true, implies_true, forall_const, Nat.le_refl, Option.some.injEq, Option.getD_some, Option.getD_none, List.getElem?_nil, e_Lpn, e_Lpe, e_Lpr, decide_true, decide_false, Int.natCast_nonneg, Int.toNat_natCast, Int.toNat_zero, lt_irr, imp_self, false_implies, big_eq, pevA, takeA, putA, fillA, chunkA, zerosL, binA, binI, binS, isNilA, lookA, bndA, depA, depV, depM, depS, cellAt, elemAt, initA, Nat.reduceAdd, Nat.reduceLeDiff, Nat.reduceEqDiff, reduceIte, reduceCtorEq, Nat.reduceLT, Nat.reduceMul, Nat.reduceSub, Int.reduceAdd, Int.reduceSub, Int.reduceMul, Int.reduceLT, Int.reduceLE, Int.reduceEq, Int.reduceNe, Int.reduceNeg, Int.reduceToNat, f1, f11, f14, f17, f18, oC_get, hg, nC_len, nC_get, hv, hu, k2, Option.map_some, j1, cv, cu, if_true, Int.toNat_natCast, Nat.mul_one, iC_get, hdv, hdu, hw2, z0]
          exact ⟨k + 1, by show g.length + 1 - (k + 1) < g.length + 1 - k; omega, hf, f17, by simp [upd], by omega, rfl⟩
        · have k2 : decide ((k : Int) < (g.length : Int)) = false := by simp; omega
          simp only [u_C l3_3.eq_1, runs, e_onS, AH.set_same, AH.set_set, List.map_cons, List.map_nil, List.length_cons, List.length_nil, List.drop_zero, List.drop_succ_cons, List.take_succ_cons, List.take_zero, List.take_nil, List.nil_append, List.cons_append, List.append_nil, List.all_cons, List.all_nil, Nat.zero_add, Nat.add_zero, ite_true, ite_false, if_true, if_false, ne_eq, not_false_eq_true, not_true_eq_false, and_true, true_and, and_self, Bool.and_true, Bool.true_and, Bool.not_true, Bool.not_false, List.getElem?_cons_zero, List.getElem?_cons_succ, Option.isSome_some, beq_self_eq_true, implies_true, forall_const, Nat.le_refl, Option.some.injEq, Option.getD_some, Option.getD_none, List.getElem?_nil, e_Lpn, e_Lpe, e_Lpr, decide_true, decide_false, Int.natCast_nonneg, Int.toNat_natCast, Int.toNat_zero, lt_irr, imp_self, false_implies, big_eq, pevA, takeA, putA, fillA, chunkA, zerosL, binA, binI, binS, isNilA, lookA, bndA, depA, depV, depM, depS, cellAt, elemAt, initA, Nat.reduceAdd, Nat.reduceLeDiff, Nat.reduceEqDiff, reduceIte, reduceCtorEq, Nat.reduceLT, Nat.reduceMul, Nat.reduceSub, Int.reduceAdd, Int.reduceSub, Int.reduceMul, Int.reduceLT, Int.reduceLE, Int.reduceEq, Int.reduceNe, Int.reduceNeg, Int.reduceToNat, f11, f17, f18, oC_get, hg, nC_len, k2, Option.map_some, hw]
          exact ⟨i + 1, by show o1.length - (i + 1) < o1.length - i; omega, hf, by simp [upd], hlt, rfl⟩
    · have k1 : decide ((i : Int) < (o1.length : Int)) = false := by simp; omega
      simp only [u_C l3_4.eq_1, runs, e_onS, AH.set_same, AH.set_set, List.map_cons, List.map_nil, List.length_cons, List.length_nil, List.drop_zero, List.drop_succ_cons, List.take_succ_cons, List.take_zero, List.take_nil, List.nil_append, List.cons_append, List.append_nil, List.all_cons, List.all_nil, Nat.zero_add, Nat.add_zero, ite_true, ite_false, if_true, if_false, ne_eq, not_false_eq_true, not_true_eq_false, and_true, true_and, and_self, Bool.and_true, Bool.true_and, Bool.not_true, Bool.not_false, List.getElem?_cons_zero, List.getElem?_cons_succ, Option.isSome_some, beq_self_eq_true, implies_true, forall_const, Nat.le_refl, Option.some.injEq, Option.getD_some, Option.getD_none, List.getElem?_nil, e_Lpn, e_Lpe, e_Lpr, decide_true, decide_false, Int.natCast_nonneg, Int.toNat_natCast, Int.toNat_zero, lt_irr, imp_self, false_implies, big_eq, pevA, takeA, putA, fillA, chunkA, zerosL, binA, binI, binS, isNilA, lookA, bndA, depA, depV, depM, depS, cellAt, elemAt, initA, Nat.reduceAdd, Nat.reduceLeDiff, Nat.reduceEqDiff, reduceIte, reduceCtorEq, Nat.reduceLT, Nat.reduceMul, Nat.reduceSub, Int.reduceAdd, Int.reduceSub, Int.reduceMul, Int.reduceLT, Int.reduceLE, Int.reduceEq, Int.reduceNe, Int.reduceNeg, Int.reduceToNat, f11, f17, oC_len, k1]
      exact hR _ hf

theorem srX_set {S : Sr} {a : Nat} {Es : TypeId} {r : List Int} {ts tag : Tag} {b : Int} (hs : S[a]? = some (Es, r, ts)) : srX (S.set a (3, r ++ [b], tag)) = addE (srX S) a b := by
  have hr : (srX S).getD a [] = r := by rw [srX, List.getD, List.getElem?_map, hs]; rfl
  unfold addE
  rw [hr, srX, map_set']; rfl
set_option maxRecDepth 8000 in
theorem more_main (E : TypeId) (l : List Int) (z a0 b0 : Int) (hl : l.length ≤ 30) : Pure T 3 [.lst E (lC l) .no, .int .i64 z, .int .i64 a0, .int .i64 b0] (.bool true) := by
  intro K h
  refine ACall.ret t3 fun hK => ?_
  have d0 : ¬ ((30 : Int) < (l.length : Int)) := by omega
  obtain ⟨hw12, n, hn0, hn, e12⟩ := mod12 z
  have hz : ¬ ((n : Int) = 0) := by omega
  have wa := wrapK hn0 (by omega) a0
  have wb := wrapK hn0 (by omega) b0
  obtain ⟨ha0, ha1⟩ := kF_in hn0 a0
  obtain ⟨hb0, hb1⟩ := kF_in hn0 b0
  obtain ⟨a, ea⟩ : ∃ a : Nat, kF n a0 = a := ⟨(kF n a0).toNat, by omega⟩
  obtain ⟨b, eb⟩ : ∃ b : Nat, kF n b0 = b := ⟨(kF n b0).toNat, by omega⟩
  have ea' : (a0.tmod n + n).tmod n = (a : Int) := ea
  have eb' : (b0.tmod n + n).tmod n = (b : Int) := eb
  have ca : (a : Int) < (n : Int) := by omega
  simp only [u_C c3.eq_1, runs, e_onS, AH.set_same, AH.set_set, List.map_cons, List.map_nil, List.length_cons, List.length_nil, List.drop_zero, List.drop_succ_cons, List.take_succ_cons, List.take_zero, List.take_nil, List.nil_append, List.cons_append, List.append_nil, List.all_cons, List.all_nil, Nat.zero_add, Nat.add_zero, ite_true, ite_false, if_true, if_false, ne_eq, not_false_eq_true, not_true_eq_false, and_true, true_and, and_self, Bool.and_true, Bool.true_and, Bool.not_true, Bool.not_false, List.getElem?_cons_zero, List.getElem?_cons_succ, Option.isSome_some, beq_self_eq_true, implies_true, forall_const, Nat.le_refl, Option.some.injEq, Option.getD_some, Option.getD_none, List.getElem?_nil, e_Lpn, e_Lpe, e_Lpr, decide_true, decide_false, Int.natCast_nonneg, Int.toNat_natCast, Int.toNat_zero, lt_irr, imp_self, false_implies, big_eq, pevA, takeA, putA, fillA, chunkA, zerosL, binA, binI, binS, isNilA, lookA, bndA, depA, depV, depM, depS, cellAt, elemAt, initA, Nat.reduceAdd, Nat.reduceLeDiff, Nat.reduceEqDiff, reduceIte, reduceCtorEq, Nat.reduceLT, Nat.reduceMul, Nat.reduceSub, Int.reduceAdd, Int.reduceSub, Int.reduceMul, Int.reduceLT, Int.reduceLE, Int.reduceEq, Int.reduceNe, Int.reduceNeg, Int.reduceToNat]
  refine first_ok.use ?_
  simp only [runs, e_onS, AH.set_same, AH.set_set, List.map_cons, List.map_nil, List.length_cons, List.length_nil, List.drop_zero, List.drop_succ_cons, List.take_succ_cons, List.take_zero, List.take_nil, List.nil_append, List.cons_append, List.append_nil, List.all_cons, List.all_nil, Nat.zero_add, Nat.add_zero, ite_true, ite_false, if_true, if_false, ne_eq, not_false_eq_true, not_true_eq_false, and_true, true_and, and_self, Bool.and_true, Bool.true_and, Bool.not_true, Bool.not_false, List.getElem?_cons_zero, List.getElem?_cons_succ, Option.isSome_some, beq_self_eq_true, implies_true, forall_const, Nat.le_refl, Option.some.injEq, Option.getD_some, Option.getD_none, List.getElem?_nil, e_Lpn, e_Lpe, e_Lpr, decide_true, decide_false, Int.natCast_nonneg, Int.toNat_natCast, Int.toNat_zero, lt_irr, imp_self, false_implies, big_eq, pevA, takeA, putA, fillA, chunkA, zerosL, binA, binI, binS, isNilA, lookA, bndA, depA, depV, depM, depS, cellAt, elemAt, initA, Nat.reduceAdd, Nat.reduceLeDiff, Nat.reduceEqDiff, reduceIte, reduceCtorEq, Nat.reduceLT, Nat.reduceMul, Nat.reduceSub, Int.reduceAdd, Int.reduceSub, Int.reduceMul, Int.reduceLT, Int.reduceLE, Int.reduceEq, Int.reduceNe, Int.reduceNeg, Int.reduceToNat, lC_len, d0, decide_false, hw12, e12, hz, wa, wb, ea', eb']
  refine (needs_ok E l n hn0 (by omega) (by omega)).use ?_
  simp only [runs, e_onS, AH.set_same, AH.set_set, List.map_cons, List.map_nil, List.length_cons, List.length_nil, List.drop_zero, List.drop_succ_cons, List.take_succ_cons, List.take_zero, List.take_nil, List.nil_append, List.cons_append, List.append_nil, List.all_cons, List.all_nil, Nat.zero_add, Nat.add_zero, ite_true, ite_false, if_true, if_false, ne_eq, not_false_eq_true, not_true_eq_false, and_true, true_and, and_self, Bool.and_true, Bool.true_and, Bool.not_true, Bool.not_false, List.getElem?_cons_zero, List.getElem?_cons_succ, Option.isSome_some, beq_self_eq_true, implies_true, forall_const, Nat.le_refl, Option.some.injEq, Option.getD_some, Option.getD_none, List.getElem?_nil, e_Lpn, e_Lpe, e_Lpr, decide_true, decide_false, Int.natCast_nonneg, Int.toNat_natCast, Int.toNat_zero, lt_irr, imp_self, false_implies, big_eq, pevA, takeA, putA, fillA, chunkA, zerosL, binA, binI, binS, isNilA, lookA, bndA, depA, depV, depM, depS, cellAt, elemAt, initA, Nat.reduceAdd, Nat.reduceLeDiff, Nat.reduceEqDiff, reduceIte, reduceCtorEq, Nat.reduceLT, Nat.reduceMul, Nat.reduceSub, Int.reduceAdd, Int.reduceSub, Int.reduceMul, Int.reduceLT, Int.reduceLE, Int.reduceEq, Int.reduceNe, Int.reduceNeg, Int.reduceToNat]
  have hx := needs_in n l
  have hrl : ∀ row ∈ needsF n l, row.length ≤ 30 := fun row hr => by have := needs_len n l row hr; omega
  refine (order_ok (needsF n l) n hn0 (by omega) hx (fun row hr => by have := hrl row hr; omega) K h).mono ?_
  rintro _ h' ⟨out1, hO1, rfl, e⟩
  rw [e]
  clear e h'
  simp only [runs, e_onS, AH.set_same, AH.set_set, List.map_cons, List.map_nil, List.length_cons, List.length_nil, List.drop_zero, List.drop_succ_cons, List.take_succ_cons, List.take_zero, List.take_nil, List.nil_append, List.cons_append, List.append_nil, List.all_cons, List.all_nil, Nat.zero_add, Nat.add_zero, ite_true, ite_false, if_true, if_false, ne_eq, not_false_eq_true, not_true_eq_false, and_true, true_and, and_self, Bool.and_true, Bool.true_and, Bool.not_true, Bool.not_false, List.getElem?_cons_zero, List.getElem?_cons_succ, Option.isSome_some, beq_self_eq_true, implies_true, forall_const, Nat.le_refl, Option.some.injEq, Option.getD_some, Option.getD_none, List.getElem?_nil, e_Lpn, e_Lpe, e_Lpr, decide_true, decide_false, Int.natCast_nonneg, Int.toNat_natCast, Int.toNat_zero, lt_irr, imp_self, false_implies, big_eq, pevA, takeA, putA, fillA, chunkA, zerosL, binA, binI, binS, isNilA, lookA, bndA, depA, depV, depM, depS, cellAt, elemAt, initA, Nat.reduceAdd, Nat.reduceLeDiff, Nat.reduceEqDiff, reduceIte, reduceCtorEq, Nat.reduceLT, Nat.reduceMul, Nat.reduceSub, Int.reduceAdd, Int.reduceSub, Int.reduceMul, Int.reduceLT, Int.reduceLE, Int.reduceEq, Int.reduceNe, Int.reduceNeg, Int.reduceToNat]
  refine (needs_mut E l n hn0 (by omega) (by omega) K h).mono ?_
  rintro _ _ ⟨by_, S, tk, _, hby, hkb, hS, hX, hS3, hT, rfl, rfl⟩
  obtain ⟨s, hs⟩ : ∃ s, S[a]? = some s := ⟨_, List.getElem?_eq_getElem (by omega)⟩
  obtain ⟨Es, r, ts⟩ := s
  simp only [runs, e_onS, AH.set_same, AH.set_set, List.map_cons, List.map_nil, List.length_cons, List.length_nil, List.drop_zero, List.drop_succ_cons, List.take_succ_cons, List.take_zero, List.take_nil, List.nil_append, List.cons_append, List.append_nil, List.all_cons, List.all_nil, Nat.zero_add, Nat.add_zero, ite_true, ite_false, if_true, if_false, ne_eq, not_false_eq_true, not_true_eq_false, and_true, true_and, and_self, Bool.and_true, Bool.true_and, Bool.not_true, Bool.not_false, List.getElem?_cons_zero, List.getElem?_cons_succ, Option.isSome_some, beq_self_eq_true, implies_true, forall_const, Nat.le_refl, Option.some.injEq, Option.getD_some, Option.getD_none, List.getElem?_nil, e_Lpn, e_Lpe, e_Lpr, decide_true, decide_false, Int.natCast_nonneg, Int.toNat_natCast, Int.toNat_zero, lt_irr, imp_self, false_implies, big_eq, pevA, takeA, putA, fillA, chunkA, zerosL, binA, binI, binS, isNilA, lookA, bndA, depA, depV, depM, depS, cellAt, elemAt, initA, Nat.reduceAdd, Nat.reduceLeDiff, Nat.reduceEqDiff, reduceIte, reduceCtorEq, Nat.reduceLT, Nat.reduceMul, Nat.reduceSub, Int.reduceAdd, Int.reduceSub, Int.reduceMul, Int.reduceLT, Int.reduceLE, Int.reduceEq, Int.reduceNe, Int.reduceNeg, Int.reduceToNat, ca, if_true, Int.toNat_natCast, Nat.mul_one, srC_get, hs, Option.map_some]
  refine WO.append (i := a) hT (by rw [srT_get, hs]; rfl) rfl rfl trivial (by decide) ?_ ?_ ?_ ?_ ?_ fun tag' t' hT' => ?_
  · simp
  · simp [oneA]
  · simp
  · have := hrl r (by rw [← hX, srX]; exact List.mem_map.2 ⟨_, List.mem_of_getElem? hs, rfl⟩)
    intro _; simp only [capOk, lC_len, List.length_singleton]; omega
  · have := hrl r (by rw [← hX, srX]; exact List.mem_map.2 ⟨_, List.mem_of_getElem? hs, rfl⟩)
    simp only [big_eq, lC_len, List.length_singleton]; omega
  have haS : a < S.length := by omega
  have hpl : a + 1 ≤ (srC S).length := by rw [srC_len]; omega
  have hput : (srC S).take a ++ [AV.lst 3 (lC r ++ [[AV.int .i64 (b : Int)]]) tag'] ++ (srC S).drop (a + 1) = srC (S.set a (3, r ++ [(b : Int)], tag')) := by
    rw [← srC_set S a _ haS]
    show _ = (srC S).take a ++ [AV.lst 3 (lC (r ++ [(b : Int)])) tag'] ++ _
    rw [lC_app]; rfl
  simp only [runs, e_onS, AH.set_same, AH.set_set, List.map_cons, List.map_nil, List.length_cons, List.length_nil, List.drop_zero, List.drop_succ_cons, List.take_succ_cons, List.take_zero, List.take_nil, List.nil_append, List.cons_append, List.append_nil, List.all_cons, List.all_nil, Nat.zero_add, Nat.add_zero, ite_true, ite_false, if_true, if_false, ne_eq, not_false_eq_true, not_true_eq_false, and_true, true_and, and_self, Bool.and_true, Bool.true_and, Bool.not_true, Bool.not_false, List.getElem?_cons_zero, List.getElem?_cons_succ, Option.isSome_some, beq_self_eq_true, implies_true, forall_const, Nat.le_refl, Option.some.injEq, Option.getD_some, Option.getD_none, List.getElem?_nil, e_Lpn, e_Lpe, e_Lpr, decide_true, decide_false, Int.natCast_nonneg, Int.toNat_natCast, Int.toNat_zero, lt_irr, imp_self, false_implies, big_eq, pevA, takeA, putA, fillA, chunkA, zerosL, binA, binI, binS, isNilA, lookA, bndA, depA, depV, depM, depS, cellAt, elemAt, initA, Nat.reduceAdd, Nat.reduceLeDiff, Nat.reduceEqDiff, reduceIte, reduceCtorEq, Nat.reduceLT, Nat.reduceMul, Nat.reduceSub, Int.reduceAdd, Int.reduceSub, Int.reduceMul, Int.reduceLT, Int.reduceLE, Int.reduceEq, Int.reduceNe, Int.reduceNeg, Int.reduceToNat, ca, if_true, Int.toNat_natCast, Nat.mul_one, hpl, hput]
  refine ⟨hkb, ?_⟩
  have hX1 : srX (S.set a (3, r ++ [(b : Int)], tag')) = addE (needsF n l) a b := by rw [srX_set hs, hX]
  have hT1 : Toks h.toks t' (srT (S.set a (3, r ++ [(b : Int)], tag'))) := by rw [srT, map_set']; exact hT'
  have hS31 : ∀ s ∈ S.set a (3, r ++ [(b : Int)], tag'), s.2.1 ≠ [] → s.1 = 3 := fun s hs' => by
    rcases List.mem_or_eq_of_mem_set hs' with h1 | rfl
    · exact hS3 s h1
    · exact fun _ => rfl
  have hSl1 : (S.set a (3, r ++ [(b : Int)], tag')).length = n := by rw [List.length_set]; exact hS
  have hs1 : (S.set a (3, r ++ [(b : Int)], tag'))[a]? = some (3, r ++ [(b : Int)], tag') := by simp [haS]
  generalize S.set a (3, r ++ [(b : Int)], tag') = S1 at hX1 hT1 hS31 hSl1 hs1 ⊢
  have hxl := hx.1
  have hx1 : InR n (addE (needsF n l) a b) := addE_in hx (by omega) (by omega)
  have hrl1 : ∀ row ∈ addE (needsF n l) a b, row.length ≤ 31 := addE_len hrl
  have hre : r ++ [(b : Int)] ∈ addE (needsF n l) a b := by rw [← hX1, srX]; exact List.mem_map.2 ⟨_, List.mem_of_getElem? hs1, rfl⟩
  have hrel := hrl1 _ hre
  generalize hr1 : r ++ [(b : Int)] = r1 at hs1 hre hrel
  refine (order_gen (addE (needsF n l) a b) n hn0 (by omega) hx1 (fun row hr => by have := hrl1 row hr; omega) (.slice by_ 0 n n) K _ (.inr ⟨by_, S1, rfl, by rw [tk_objs, AH.set_same], hX1, hSl1⟩)).mono ?_
  rintro _ h' ⟨out2, hO2, rfl, e⟩
  rw [e]
  clear e h'
  simp only [runs, e_onS, AH.set_same, AH.set_set, List.map_cons, List.map_nil, List.length_cons, List.length_nil, List.drop_zero, List.drop_succ_cons, List.take_succ_cons, List.take_zero, List.take_nil, List.nil_append, List.cons_append, List.append_nil, List.all_cons, List.all_nil, Nat.zero_add, Nat.add_zero, ite_true, ite_false, if_true, if_false, ne_eq, not_false_eq_true, not_true_eq_false, and_true, true_and, and_self, Bool.and_true, Bool.true_and, Bool.not_true, Bool.not_false, List.getElem?_cons_zero, List.getElem?_cons_succ, Option.isSome_some, beq_self_eq_true, implies_true, forall_const, Nat.le_refl, Option.some.injEq, Option.getD_some, Option.getD_none, List.getElem?_nil, e_Lpn, e_Lpe, e_Lpr, decide_true, decide_false, Int.natCast_nonneg, Int.toNat_natCast, Int.toNat_zero, lt_irr, imp_self, false_implies, big_eq, pevA, takeA, putA, fillA, chunkA, zerosL, binA, binI, binS, isNilA, lookA, bndA, depA, depV, depM, depS, cellAt, elemAt, initA, Nat.reduceAdd, Nat.reduceLeDiff, Nat.reduceEqDiff, reduceIte, reduceCtorEq, Nat.reduceLT, Nat.reduceMul, Nat.reduceSub, Int.reduceAdd, Int.reduceSub, Int.reduceMul, Int.reduceLT, Int.reduceLE, Int.reduceEq, Int.reduceNe, Int.reduceNeg, Int.reduceToNat]
  refine WO.mksl (j := .i64) (k := .i64) (m := n) (n := n) rfl rfl (Nat.le_refl _) (by omega) (by omega) fun c hc hkc => ?_
  have hc0 : (zerosL [Value.int .i64 0] n).map ofC1 = iC (List.replicate n 0) := by
    rw [zerosL_one, iC, List.map_replicate, List.map_replicate]; rfl
  simp only [runs, e_onS, AH.set_same, AH.set_set, List.map_cons, List.map_nil, List.length_cons, List.length_nil, List.drop_zero, List.drop_succ_cons, List.take_succ_cons, List.take_zero, List.take_nil, List.nil_append, List.cons_append, List.append_nil, List.all_cons, List.all_nil, Nat.zero_add, Nat.add_zero, ite_true, ite_false, if_true, if_false, ne_eq, not_false_eq_true, not_true_eq_false, and_true, true_and, and_self, Bool.and_true, Bool.true_and, Bool.not_true, Bool.not_false, List.getElem?_cons_zero, List.getElem?_cons_succ, Option.isSome_some, beq_self_eq_true, implies_true, forall_const, Nat.le_refl, Option.some.injEq, Option.getD_some, Option.getD_none, List.getElem?_nil, e_Lpn, e_Lpe, e_Lpr, decide_true, decide_false, Int.natCast_nonneg, Int.toNat_natCast, Int.toNat_zero, lt_irr, imp_self, false_implies, big_eq, pevA, takeA, putA, fillA, chunkA, zerosL, binA, binI, binS, isNilA, lookA, bndA, depA, depV, depM, depS, cellAt, elemAt, initA, Nat.reduceAdd, Nat.reduceLeDiff, Nat.reduceEqDiff, reduceIte, reduceCtorEq, Nat.reduceLT, Nat.reduceMul, Nat.reduceSub, Int.reduceAdd, Int.reduceSub, Int.reduceMul, Int.reduceLT, Int.reduceLE, Int.reduceEq, Int.reduceNe, Int.reduceNeg, Int.reduceToNat, hc0]
  have hA := matF_is n (needsF n l)
  have hA1 := matF_is n (addE (needsF n l) a b)
  have ho1 := Out.of hx hA hO1
  have ho2 := Out.of hx1 hA1 hO2
  obtain ⟨p1, hp1⟩ := ho1.pos hx hA
  obtain ⟨p, hp⟩ := ho2.pos hx1 hA1
  have hmono : ∀ i j, Pl (needsF n l) i j → Pl (addE (needsF n l) a b) i j := fun i j h => h.mono fun _ _ e => addE_ed (by omega) e
  have hfew := fewer hA hA1 ho1 ho2 hmono
  have hsame : ∀ g ∈ out1, ∀ u ∈ g, ∀ v ∈ g, p u = p v := by
    intro g hg u hu v hv
    rcases ho1.both hA hg hu hv with h | ⟨q1, q2⟩
    · rw [h]
    · obtain ⟨g1, e1, m1⟩ := hp.at_ u (hp1.lt g u hg hu)
      obtain ⟨g2, e2, m2⟩ := hp.at_ v (hp1.lt g v hg hv)
      exact ho2.both' hA1 e1 e2 m1 m2 (hmono _ _ q1) (hmono _ _ q2)
  obtain ⟨hne, hch⟩ := AH.set_none.1 hc
  refine more_1 (addE (needsF n l) a b) n a b hn out1 out2 p hp by_ c K ((h.set by_ (.cells (srC S1) 22)).tk t') _ (List.replicate n 0) hkc ⟨rfl, rfl, rfl, rfl, rfl, rfl, rfl, rfl⟩ rfl (by simp) _ fun fr d hf hd hd1 => ?_
  simp only [runs, e_onS, AH.set_same, AH.set_set, List.map_cons, List.map_nil, List.length_cons, List.length_nil, List.drop_zero, List.drop_succ_cons, List.take_succ_cons, List.take_zero, List.take_nil, List.nil_append, List.cons_append, List.append_nil, List.all_cons, List.all_nil, Nat.zero_add, Nat.add_zero, ite_true, ite_false, if_true, if_false, ne_eq, not_false_eq_true, not_true_eq_false, and_true, true_and, and_self, Bool.and_true, Bool.true_and, Bool.not_true, Bool.not_false, List.getElem?_cons_zero, List.getElem?_cons_succ, Option.isSome_some, beq_self_eq_true, implies_true, forall_const, Nat.le_refl, Option.some.injEq, Option.getD_some, Option.getD_none, List.getElem?_nil, e_Lpn, e_Lpe, e_Lpr, decide_true, decide_false, Int.natCast_nonneg, Int.toNat_natCast, Int.toNat_zero, lt_irr, imp_self, false_implies, big_eq, pevA, takeA, putA, fillA, chunkA, zerosL, binA, binI, binS, isNilA, lookA, bndA, depA, depV, depM, depS, cellAt, elemAt, initA, Nat.reduceAdd, Nat.reduceLeDiff, Nat.reduceEqDiff, reduceIte, reduceCtorEq, Nat.reduceLT, Nat.reduceMul, Nat.reduceSub, Int.reduceAdd, Int.reduceSub, Int.reduceMul, Int.reduceLT, Int.reduceLE, Int.reduceEq, Int.reduceNe, Int.reduceNeg, Int.reduceToNat]
  refine more_2 n a b hn out1 out2 p (fun g hg z hz => hp1.lt g z hg hz) hp1.len hsame by_ c K ((h.set by_ (.cells (srC S1) 22)).tk t') _ d ?_ ?_ (fun z hz => by rw [getI (by omega), hd1 z hz]) _ fun fr hf => ?_
  · exact hf
  · rfl
  obtain ⟨f1, f2, f3, f9, f11, f12, f13, f14⟩ := hf
  simp only [runs, e_onS, AH.set_same, AH.set_set, List.map_cons, List.map_nil, List.length_cons, List.length_nil, List.drop_zero, List.drop_succ_cons, List.take_succ_cons, List.take_zero, List.take_nil, List.nil_append, List.cons_append, List.append_nil, List.all_cons, List.all_nil, Nat.zero_add, Nat.add_zero, ite_true, ite_false, if_true, if_false, ne_eq, not_false_eq_true, not_true_eq_false, and_true, true_and, and_self, Bool.and_true, Bool.true_and, Bool.not_true, Bool.not_false, List.getElem?_cons_zero, List.getElem?_cons_succ, Option.isSome_some, beq_self_eq_true, implies_true, forall_const, Nat.le_refl, Option.some.injEq, Option.getD_some, Option.getD_none, List.getElem?_nil, e_Lpn, e_Lpe, e_Lpr, decide_true, decide_false, Int.natCast_nonneg, Int.toNat_natCast, Int.toNat_zero, lt_irr, imp_self, false_implies, big_eq, pevA, takeA, putA, fillA, chunkA, zerosL, binA, binI, binS, isNilA, lookA, bndA, depA, depV, depM, depS, cellAt, elemAt, initA, Nat.reduceAdd, Nat.reduceLeDiff, Nat.reduceEqDiff, reduceIte, reduceCtorEq, Nat.reduceLT, Nat.reduceMul, Nat.reduceSub, Int.reduceAdd, Int.reduceSub, Int.reduceMul, Int.reduceLT, Int.reduceLE, Int.reduceEq, Int.reduceNe, Int.reduceNeg, Int.reduceToNat, f1, f2, f3, f9, f11, f12, f13, f14, ca, if_true, Int.toNat_natCast, Nat.mul_one, s_objs hne.symm, srC_get, hs1, Option.map_some]
  have hpl1 : a + 1 ≤ (srC S1).length := by rw [srC_len]; omega
  have hbr : (b : Int) ∈ (addE (needsF n l) a b).getD a [] := addE_has (by omega)
  refine WO.append (t0 := h.toks) (L := srT S1) (i := a) hT1 (by rw [srT_get, hs1]; rfl) rfl rfl trivial (by decide) ?_ ?_ ?_ ?_ ?_ fun tag2 t2 hT2 => ?_
  · simp
  · simp [oneA]
  · simp
  · intro _; simp only [capOk, lC_len, List.length_singleton]; omega
  · simp only [big_eq, lC_len, List.length_singleton]; omega
  have hput2 : (srC S1).take a ++ [AV.lst 3 (lC r1 ++ [[AV.int .i64 (b : Int)]]) tag2] ++ (srC S1).drop (a + 1) = srC (S1.set a (3, r1 ++ [(b : Int)], tag2)) := by
    rw [← srC_set S1 a _ (by omega)]
    show _ = (srC S1).take a ++ [AV.lst 3 (lC (r1 ++ [(b : Int)])) tag2] ++ _
    rw [lC_app]; rfl
  simp only [runs, e_onS, AH.set_same, AH.set_set, List.map_cons, List.map_nil, List.length_cons, List.length_nil, List.drop_zero, List.drop_succ_cons, List.take_succ_cons, List.take_zero, List.take_nil, List.nil_append, List.cons_append, List.append_nil, List.all_cons, List.all_nil, Nat.zero_add, Nat.add_zero, ite_true, ite_false, if_true, if_false, ne_eq, not_false_eq_true, not_true_eq_false, and_true, true_and, and_self, Bool.and_true, Bool.true_and, Bool.not_true, Bool.not_false, List.getElem?_cons_zero, List.getElem?_cons_succ, Option.isSome_some, beq_self_eq_true, implies_true, forall_const, Nat.le_refl, Option.some.injEq, Option.getD_some, Option.getD_none, List.getElem?_nil, e_Lpn, e_Lpe, e_Lpr, decide_true, decide_false, Int.natCast_nonneg, Int.toNat_natCast, Int.toNat_zero, lt_irr, imp_self, false_implies, big_eq, pevA, takeA, putA, fillA, chunkA, zerosL, binA, binI, binS, isNilA, lookA, bndA, depA, depV, depM, depS, cellAt, elemAt, initA, Nat.reduceAdd, Nat.reduceLeDiff, Nat.reduceEqDiff, reduceIte, reduceCtorEq, Nat.reduceLT, Nat.reduceMul, Nat.reduceSub, Int.reduceAdd, Int.reduceSub, Int.reduceMul, Int.reduceLT, Int.reduceLE, Int.reduceEq, Int.reduceNe, Int.reduceNeg, Int.reduceToNat, f1, f2, f3, f9, f11, f12, f13, f14, ca, if_true, Int.toNat_natCast, Nat.mul_one, s_objs hne.symm, hpl1, hput2]
  refine ⟨hkb, ?_⟩
  have hX2 : srX (S1.set a (3, r1 ++ [(b : Int)], tag2)) = addE (addE (needsF n l) a b) a b := by rw [srX_set hs1, hX1]
  have hSl2 : (S1.set a (3, r1 ++ [(b : Int)], tag2)).length = n := by rw [List.length_set]; exact hSl1
  generalize S1.set a (3, r1 ++ [(b : Int)], tag2) = S2 at hX2 hSl2 ⊢
  have hx2 : InR n (addE (addE (needsF n l) a b) a b) := addE_in hx1 (by omega) (by omega)
  have hrl2 : ∀ row ∈ addE (addE (needsF n l) a b) a b, row.length ≤ 32 := addE_len hrl1
  refine (order_gen (addE (addE (needsF n l) a b) a b) n hn0 (by omega) hx2 (fun row hr => by have := hrl2 row hr; omega) (.slice by_ 0 n n) K _ (.inr ⟨by_, S2, rfl, by simp only [tk_objs]; exact AH.set_same _ _ _, hX2, hSl2⟩)).mono ?_
  rintro _ h' ⟨out3, hO3, rfl, e⟩
  rw [e]
  clear e h'
  have hxl1 := hx1.1
  rw [matF_twice (by omega) hbr] at hO3
  obtain rfl := hO3.uniq hO2
  simp only [runs, e_onS, AH.set_same, AH.set_set, List.map_cons, List.map_nil, List.length_cons, List.length_nil, List.drop_zero, List.drop_succ_cons, List.take_succ_cons, List.take_zero, List.take_nil, List.nil_append, List.cons_append, List.append_nil, List.all_cons, List.all_nil, Nat.zero_add, Nat.add_zero, ite_true, ite_false, if_true, if_false, ne_eq, not_false_eq_true, not_true_eq_false, and_true, true_and, and_self, Bool.and_true, Bool.true_and, Bool.not_true, Bool.not_false, List.getElem?_cons_zero, List.getElem?_cons_succ, Option.isSome_some, beq_self_eq_true, implies_true, forall_const, Nat.le_refl, Option.some.injEq, Option.getD_some, Option.getD_none, List.getElem?_nil, e_Lpn, e_Lpe, e_Lpr, decide_true, decide_false, Int.natCast_nonneg, Int.toNat_natCast, Int.toNat_zero, lt_irr, imp_self, false_implies, big_eq, pevA, takeA, putA, fillA, chunkA, zerosL, binA, binI, binS, isNilA, lookA, bndA, depA, depV, depM, depS, cellAt, elemAt, initA, Nat.reduceAdd, Nat.reduceLeDiff, Nat.reduceEqDiff, reduceIte, reduceCtorEq, Nat.reduceLT, Nat.reduceMul, Nat.reduceSub, Int.reduceAdd, Int.reduceSub, Int.reduceMul, Int.reduceLT, Int.reduceLE, Int.reduceEq, Int.reduceNe, Int.reduceNeg, Int.reduceToNat, f1, f2, f3, f9, f11, f12, f13, f14]
  refine (sameRows_ok _).use ?_
  have hfew' : decide ((out3.length : Int) ≤ (out1.length : Int)) = true := by simp; omega
  simp only [runs, e_onS, AH.set_same, AH.set_set, List.map_cons, List.map_nil, List.length_cons, List.length_nil, List.drop_zero, List.drop_succ_cons, List.take_succ_cons, List.take_zero, List.take_nil, List.nil_append, List.cons_append, List.append_nil, List.all_cons, List.all_nil, Nat.zero_add, Nat.add_zero, ite_true, ite_false, if_true, if_false, ne_eq, not_false_eq_true, not_true_eq_false, and_true, true_and, and_self, Bool.and_true, Bool.true_and, Bool.not_true, Bool.not_false, List.getElem?_cons_zero, List.getElem?_cons_succ, Option.isSome_some, beq_self_eq_true, implies_true, forall_const, Nat.le_refl, Option.some.injEq, Option.getD_some, Option.getD_none, List.getElem?_nil, e_Lpn, e_Lpe, e_Lpr, decide_true, decide_false, Int.natCast_nonneg, Int.toNat_natCast, Int.toNat_zero, lt_irr, imp_self, false_implies, big_eq, pevA, takeA, putA, fillA, chunkA, zerosL, binA, binI, binS, isNilA, lookA, bndA, depA, depV, depM, depS, cellAt, elemAt, initA, Nat.reduceAdd, Nat.reduceLeDiff, Nat.reduceEqDiff, reduceIte, reduceCtorEq, Nat.reduceLT, Nat.reduceMul, Nat.reduceSub, Int.reduceAdd, Int.reduceSub, Int.reduceMul, Int.reduceLT, Int.reduceLE, Int.reduceEq, Int.reduceNe, Int.reduceNeg, Int.reduceToNat, f1, f2, f3, f9, f11, f12, f13, f14, oC_len, hfew']
  refine ⟨.refl _, ?_⟩
  exact le_tk (le_set (le_set (le_set (AH.le_refl _) hby) hch) hby) hT2.le
end Go.Proofs.Ytplnafebmpldgaa.p
