/- Lists of texts: is one in it? -/
import Derived.Test.YtfagmflapdgcmaaDoorSbCode
import Derived.Test.YtfagmflapdgcmaaDoorCnGlue0
namespace Go.Proofs.YtfagmflapdgcmaaDoor.p
open Go.Proofs Go Go.Cn code
set_option linter.unusedSimpArgs false
set_option linter.unusedVariables false

def strC (l : List (List UInt8)) : List (List AV) := l.map fun s => [.str s]
theorem strC_len (l : List (List UInt8)) : (strC l).length = l.length := by rw [strC, List.length_map]
theorem strC_get (l : List (List UInt8)) (i : Nat) : (strC l)[i]? = (l[i]?).map fun s => [AV.str s] := by rw [strC, List.getElem?_map]
theorem strC_app (l m : List (List UInt8)) : strC (l ++ m) = strC l ++ strC m := by simp [strC]

theorem mem_take {α : Type} {l : List α} {i : Nat} {a : α} (h : l[i]? = some a) {v : α} (hv : v ∉ l.take i) (hne : v ≠ a) : v ∉ l.take (i + 1) := by
  rw [List.take_add_one, h]
  intro hm
  rcases List.mem_append.1 hm with hm | hm
  · exact hv hm
  · simp at hm; exact hne hm

theorem index_ok (E : TypeId) (l : List (List UInt8)) (t : Tag) (v : List UInt8) (K : Nat → Prop) (h : AH) : ACall T K (.func 42) [.lst E (strC l) t, .str v] h fun r h' => (∃ n : Int, r = .int .i64 n ∧ (0 ≤ n ↔ v ∈ l)) ∧ h' = h := by
  refine ACall.retQ t42 fun hK => ?_
  simp only [u_C c42.eq_1, runs, e_onS, AH.set_same, AH.set_set, List.map_cons, List.map_nil, List.length_cons, List.length_nil, List.drop_zero, List.drop_succ_cons, List.take_succ_cons, List.take_zero, List.take_nil, List.nil_append, List.cons_append, List.append_nil, List.all_cons, List.all_nil, Nat.zero_add, Nat.add_zero, ite_true, ite_false, if_true, if_false, ne_eq, not_false_eq_true, not_true_eq_false, and_true, true_and, and_self, Bool.and_true, Bool.true_and, Bool.not_true, Bool.not_false, List.getElem?_cons_zero, List.getElem?_cons_succ, Option.isSome_some, beq_self_eq_true, implies_true, forall_const, Nat.le_refl, Option.some.injEq, Option.getD_some, Option.getD_none, List.getElem?_nil, e_Lpn, e_Lpe, e_Lpr, decide_true, decide_false, Int.natCast_nonneg, Int.toNat_natCast, Int.toNat_zero, lt_irr, imp_self, false_implies, big_eq, pevA, takeA, putA, fillA, chunkA, zerosL, binA, binI, binS, isNilA, lookA, bndA, depA, depV, depM, depS, cellAt, elemAt, initA, Nat.reduceAdd, Nat.reduceLeDiff, Nat.reduceEqDiff, reduceIte, reduceCtorEq, Nat.reduceLT, Nat.reduceMul, Nat.reduceSub, Int.reduceAdd, Int.reduceSub, Int.reduceMul, Int.reduceLT, Int.reduceLE, Int.reduceEq, Int.reduceNe, Int.reduceNeg, Int.reduceToNat, strC_len]
  refine W.bound (t := 0) rfl fun hB => ?_
  rw [strC_len] at hB
  refine aloop (α := Nat) (fun k fr h1 => fr 0 = .lst E (strC l) t ∧ fr 1 = .str v ∧ fr 7 = .int .i64 l.length ∧ fr 8 = .int .i64 k ∧ k ≤ l.length ∧ v ∉ l.take k ∧ h1 = h) (fun k => l.length - k) 0 ?_ ?_
  · exact ⟨rfl, rfl, rfl, rfl, Nat.zero_le _, by simp, rfl⟩
  · rintro k fr h1 ⟨f0, f1, f7, f8, hk, hv, rfl⟩
    by_cases hlt : k < l.length
    · have c1 : decide ((k : Int) < (l.length : Int)) = true := decide_eq_true (by omega)
      obtain ⟨a, ha⟩ : ∃ a, l[k]? = some a := ⟨l[k], by simp [hlt]⟩
      have hget : (strC l)[k]? = some [.str a] := by rw [strC_get, ha]; rfl
      by_cases e : v = a
      · subst e
        simp only [u_C l42_0.eq_1, runs, e_onS, AH.set_same, AH.set_set, List.map_cons, List.map_nil, List.length_cons, List.length_nil, List.drop_zero, List.drop_succ_cons, List.take_succ_cons, List.take_zero, List.take_nil, List.nil_append, List.cons_append, List.append_nil, List.all_cons, List.all_nil, Nat.zero_add, Nat.add_zero, ite_true, ite_false, if_true, if_false, ne_eq, not_false_eq_true, not_true_eq_false, and_true, true_and, and_self, Bool.and_true, Bool.true_and, Bool.not_true, Bool.not_false, List.getElem?_cons_zero, List.getElem?_cons_succ, Option.isSome_some, beq_self_eq_true, implies_true, forall_const, Nat.le_refl, Option.some.injEq, Option.getD_some, Option.getD_none, List.getElem?_nil, e_Lpn, e_Lpe, e_Lpr, decide_true, decide_false, Int.natCast_nonneg, Int.toNat_natCast, Int.toNat_zero, lt_irr, imp_self, false_implies, big_eq, pevA, takeA, putA, fillA, chunkA, zerosL, binA, binI, binS, isNilA, lookA, bndA, depA, depV, depM, depS, cellAt, elemAt, initA, Nat.reduceAdd, Nat.reduceLeDiff, Nat.reduceEqDiff, reduceIte, reduceCtorEq, Nat.reduceLT, Nat.reduceMul, Nat.reduceSub, Int.reduceAdd, Int.reduceSub, Int.reduceMul, Int.reduceLT, Int.reduceLE, Int.reduceEq, Int.reduceNe, Int.reduceNeg, Int.reduceToNat, f0, f1, f7, f8, c1, hget]
        exact ⟨_, h1, .refl _ _, hK, ⟨k, rfl, fun _ => List.mem_of_getElem? ha, fun _ => by omega⟩, rfl⟩
      · simp only [u_C l42_0.eq_1, runs, e_onS, AH.set_same, AH.set_set, List.map_cons, List.map_nil, List.length_cons, List.length_nil, List.drop_zero, List.drop_succ_cons, List.take_succ_cons, List.take_zero, List.take_nil, List.nil_append, List.cons_append, List.append_nil, List.all_cons, List.all_nil, Nat.zero_add, Nat.add_zero, ite_true, ite_false, if_true, if_false, ne_eq, not_false_eq_true, not_true_eq_false, and_true, true_and, and_self, Bool.and_true, Bool.true_and, Bool.not_true, Bool.not_false, List.getElem?_cons_zero, List.getElem?_cons_succ, Option.isSome_some, beq_self_eq_true, implies_true, forall_const, Nat.le_refl, Option.some.injEq, Option.getD_some, Option.getD_none, List.getElem?_nil, e_Lpn, e_Lpe, e_Lpr, decide_true, decide_false, Int.natCast_nonneg, Int.toNat_natCast, Int.toNat_zero, lt_irr, imp_self, false_implies, big_eq, pevA, takeA, putA, fillA, chunkA, zerosL, binA, binI, binS, isNilA, lookA, bndA, depA, depV, depM, depS, cellAt, elemAt, initA, Nat.reduceAdd, Nat.reduceLeDiff, Nat.reduceEqDiff, reduceIte, reduceCtorEq, Nat.reduceLT, Nat.reduceMul, Nat.reduceSub, Int.reduceAdd, Int.reduceSub, Int.reduceMul, Int.reduceLT, Int.reduceLE, Int.reduceEq, Int.reduceNe, Int.reduceNeg, Int.reduceToNat, f0, f1, f7, f8, c1, hget, e, wrapS hlt hB]
        refine ⟨k + 1, by show l.length - (k + 1) < l.length - k; omega, f0, f1, f7, rfl, hlt, mem_take ha hv e, rfl⟩
    · have hke : k = l.length := by omega
      subst hke
      have c1 : decide ((l.length : Int) < (l.length : Int)) = false := by simp
      simp only [u_C l42_0.eq_1, runs, e_onS, AH.set_same, AH.set_set, List.map_cons, List.map_nil, List.length_cons, List.length_nil, List.drop_zero, List.drop_succ_cons, List.take_succ_cons, List.take_zero, List.take_nil, List.nil_append, List.cons_append, List.append_nil, List.all_cons, List.all_nil, Nat.zero_add, Nat.add_zero, ite_true, ite_false, if_true, if_false, ne_eq, not_false_eq_true, not_true_eq_false, and_true, true_and, and_self, Bool.and_true, Bool.true_and, Bool.not_true, Bool.not_false, List.getElem?_cons_zero, List.getElem?_cons_succ, Option.isSome_some, beq_self_eq_true, implies_true, forall_const, Nat.le_refl, Option.some.injEq, Option.getD_some, Option.getD_none, List.getElem?_nil, e_Lpn, e_Lpe, e_Lpr, decide_true, decide_false, Int.natCast_nonneg, Int.toNat_natCast, Int.toNat_zero, lt_irr, imp_self, false_implies, big_eq, pevA, takeA, putA, fillA, chunkA, zerosL, binA, binI, binS, isNilA, lookA, bndA, depA, depV, depM, depS, cellAt, elemAt, initA, Nat.reduceAdd, Nat.reduceLeDiff, Nat.reduceEqDiff, reduceIte, reduceCtorEq, Nat.reduceLT, Nat.reduceMul, Nat.reduceSub, Int.reduceAdd, Int.reduceSub, Int.reduceMul, Int.reduceLT, Int.reduceLE, Int.reduceEq, Int.reduceNe, Int.reduceNeg, Int.reduceToNat, f0, f1, f7, f8, c1]
      rw [List.take_length] at hv
      exact ⟨_, h1, .refl _ _, hK, ⟨-1, rfl, fun h => absurd h (by decide), fun h => absurd h hv⟩, rfl⟩
theorem contains_ok (E : TypeId) (l : List (List UInt8)) (t : Tag) (v : List UInt8) : Pure T 33 [.lst E (strC l) t, .str v] (.bool (decide (v ∈ l))) := by
  intro K h
  refine ACall.ret t33 fun hK => ?_
  simp only [u_C c33.eq_1, runs, e_onS, AH.set_same, AH.set_set, List.map_cons, List.map_nil, List.length_cons, List.length_nil, List.drop_zero, List.drop_succ_cons, List.take_succ_cons, List.take_zero, List.take_nil, List.nil_append, List.cons_append, List.append_nil, List.all_cons, List.all_nil, Nat.zero_add, Nat.add_zero, ite_true, ite_false, if_true, if_false, ne_eq, not_false_eq_true, not_true_eq_false, and_true, true_and, and_self, Bool.and_true, Bool.true_and, Bool.not_true, Bool.not_false, List.getElem?_cons_zero, List.getElem?_cons_succ, Option.isSome_some, beq_self_eq_true, implies_true, forall_const, Nat.le_refl, Option.some.injEq, Option.getD_some, Option.getD_none, List.getElem?_nil, e_Lpn, e_Lpe, e_Lpr, decide_true, decide_false, Int.natCast_nonneg, Int.toNat_natCast, Int.toNat_zero, lt_irr, imp_self, false_implies, big_eq, pevA, takeA, putA, fillA, chunkA, zerosL, binA, binI, binS, isNilA, lookA, bndA, depA, depV, depM, depS, cellAt, elemAt, initA, Nat.reduceAdd, Nat.reduceLeDiff, Nat.reduceEqDiff, reduceIte, reduceCtorEq, Nat.reduceLT, Nat.reduceMul, Nat.reduceSub, Int.reduceAdd, Int.reduceSub, Int.reduceMul, Int.reduceLT, Int.reduceLE, Int.reduceEq, Int.reduceNe, Int.reduceNeg, Int.reduceToNat]
  refine (index_ok E l t v K h).mono ?_
  rintro _ _ ⟨⟨n, rfl, hn⟩, rfl⟩
  simp only [runs, e_onS, AH.set_same, AH.set_set, List.map_cons, List.map_nil, List.length_cons, List.length_nil, List.drop_zero, List.drop_succ_cons, List.take_succ_cons, List.take_zero, List.take_nil, List.nil_append, List.cons_append, List.append_nil, List.all_cons, List.all_nil, Nat.zero_add, Nat.add_zero, ite_true, ite_false, if_true, if_false, ne_eq, not_false_eq_true, not_true_eq_false, and_true, true_and, and_self, Bool.and_true, Bool.true_and, Bool.not_true, Bool.not_false, List.getElem?_cons_zero, List.getElem?_cons_succ, Option.isSome_some, beq_self_eq_true, implies_true, forall_const, Nat.le_refl, Option.some.injEq, Option.getD_some, Option.getD_none, List.getElem?_nil, e_Lpn, e_Lpe, e_Lpr, decide_true, decide_false, Int.natCast_nonneg, Int.toNat_natCast, Int.toNat_zero, lt_irr, imp_self, false_implies, big_eq, pevA, takeA, putA, fillA, chunkA, zerosL, binA, binI, binS, isNilA, lookA, bndA, depA, depV, depM, depS, cellAt, elemAt, initA, Nat.reduceAdd, Nat.reduceLeDiff, Nat.reduceEqDiff, reduceIte, reduceCtorEq, Nat.reduceLT, Nat.reduceMul, Nat.reduceSub, Int.reduceAdd, Int.reduceSub, Int.reduceMul, Int.reduceLT, Int.reduceLE, Int.reduceEq, Int.reduceNe, Int.reduceNeg, Int.reduceToNat, hn]
  exact ⟨.refl _, AH.le_refl _⟩

theorem place_ok (E : TypeId) (l : List (List UInt8)) (t : Tag) (v : List UInt8) (K : Nat → Prop) (h : AH) : ACall T K (.func 23) [.lst E (strC l) t, .str v] h fun r h' => (∃ n : Int, r = .int .i64 n ∧ (0 ≤ n ↔ v ∈ l)) ∧ h' = h := by
  refine ACall.retQ t23 fun hK => ?_
  simp only [u_C c23.eq_1, runs, e_onS, AH.set_same, AH.set_set, List.map_cons, List.map_nil, List.length_cons, List.length_nil, List.drop_zero, List.drop_succ_cons, List.take_succ_cons, List.take_zero, List.take_nil, List.nil_append, List.cons_append, List.append_nil, List.all_cons, List.all_nil, Nat.zero_add, Nat.add_zero, ite_true, ite_false, if_true, if_false, ne_eq, not_false_eq_true, not_true_eq_false, and_true, true_and, and_self, Bool.and_true, Bool.true_and, Bool.not_true, Bool.not_false, List.getElem?_cons_zero, List.getElem?_cons_succ, Option.isSome_some, beq_self_eq_true, implies_true, forall_const, Nat.le_refl, Option.some.injEq, Option.getD_some, Option.getD_none, List.getElem?_nil, e_Lpn, e_Lpe, e_Lpr, decide_true, decide_false, Int.natCast_nonneg, Int.toNat_natCast, Int.toNat_zero, lt_irr, imp_self, false_implies, big_eq, pevA, takeA, putA, fillA, chunkA, zerosL, binA, binI, binS, isNilA, lookA, bndA, depA, depV, depM, depS, cellAt, elemAt, initA, Nat.reduceAdd, Nat.reduceLeDiff, Nat.reduceEqDiff, reduceIte, reduceCtorEq, Nat.reduceLT, Nat.reduceMul, Nat.reduceSub, Int.reduceAdd, Int.reduceSub, Int.reduceMul, Int.reduceLT, Int.reduceLE, Int.reduceEq, Int.reduceNe, Int.reduceNeg, Int.reduceToNat, strC_len]
  refine W.bound (t := 0) rfl fun hB => ?_
  rw [strC_len] at hB
  refine aloop (α := Nat) (fun k fr h1 => fr 0 = .lst E (strC l) t ∧ fr 1 = .str v ∧ fr 5 = .int .i64 k ∧ k ≤ l.length ∧ v ∉ l.take k ∧ h1 = h) (fun k => l.length - k) 0 ?_ ?_
  · exact ⟨rfl, rfl, rfl, Nat.zero_le _, by simp, rfl⟩
  · rintro k fr h1 ⟨f0, f1, f5, hk, hv, rfl⟩
    by_cases hlt : k < l.length
    · have c1 : decide ((k : Int) < (l.length : Int)) = true := decide_eq_true (by omega)
      obtain ⟨a, ha⟩ : ∃ a, l[k]? = some a := ⟨l[k], by simp [hlt]⟩
      have hget : (strC l)[k]? = some [.str a] := by rw [strC_get, ha]; rfl
      by_cases e : a = v
      · subst e
        simp only [u_C l23_0.eq_1, runs, e_onS, AH.set_same, AH.set_set, List.map_cons, List.map_nil, List.length_cons, List.length_nil, List.drop_zero, List.drop_succ_cons, List.take_succ_cons, List.take_zero, List.take_nil, List.nil_append, List.cons_append, List.append_nil, List.all_cons, List.all_nil, Nat.zero_add, Nat.add_zero, ite_true, ite_false, if_true, if_false, ne_eq, not_false_eq_true, not_true_eq_false, and_true, true_and, and_self, Bool.and_true, Bool.true_and, Bool.not_true, Bool.not_false, List.getElem?_cons_zero, List.getElem?_cons_succ, Option.isSome_some, beq_self_eq_true, implies_true, forall_const, Nat.le_refl, Option.some.injEq, Option.getD_some, Option.getD_none, List.getElem?_nil, e_Lpn, e_Lpe, e_Lpr, decide_true, decide_false, Int.natCast_nonneg, Int.toNat_natCast, Int.toNat_zero, lt_irr, imp_self, false_implies, big_eq, pevA, takeA, putA, fillA, chunkA, zerosL, binA, binI, binS, isNilA, lookA, bndA, depA, depV, depM, depS, cellAt, elemAt, initA, Nat.reduceAdd, Nat.reduceLeDiff, Nat.reduceEqDiff, reduceIte, reduceCtorEq, Nat.reduceLT, Nat.reduceMul, Nat.reduceSub, Int.reduceAdd, Int.reduceSub, Int.reduceMul, Int.reduceLT, Int.reduceLE, Int.reduceEq, Int.reduceNe, Int.reduceNeg, Int.reduceToNat, f0, f1, f5, c1, hget, strC_len]
        exact ⟨_, h1, .refl _ _, hK, ⟨k, rfl, fun _ => List.mem_of_getElem? ha, fun _ => by omega⟩, rfl⟩
      · simp only [u_C l23_0.eq_1, runs, e_onS, AH.set_same, AH.set_set, List.map_cons, List.map_nil, List.length_cons, List.length_nil, List.drop_zero, List.drop_succ_cons, List.take_succ_cons, List.take_zero, List.take_nil, List.nil_append, List.cons_append, List.append_nil, List.all_cons, List.all_nil, Nat.zero_add, Nat.add_zero, ite_true, ite_false, if_true, if_false, ne_eq, not_false_eq_true, not_true_eq_false, and_true, true_and, and_self, Bool.and_true, Bool.true_and, Bool.not_true, Bool.not_false, List.getElem?_cons_zero, List.getElem?_cons_succ, Option.isSome_some, beq_self_eq_true, implies_true, forall_const, Nat.le_refl, Option.some.injEq, Option.getD_some, Option.getD_none, List.getElem?_nil, e_Lpn, e_Lpe, e_Lpr, decide_true, decide_false, Int.natCast_nonneg, Int.toNat_natCast, Int.toNat_zero, lt_irr, imp_self, false_implies, big_eq, pevA, takeA, putA, fillA, chunkA, zerosL, binA, binI, binS, isNilA, lookA, bndA, depA, depV, depM, depS, cellAt, elemAt, initA, Nat.reduceAdd, Nat.reduceLeDiff, Nat.reduceEqDiff, reduceIte, reduceCtorEq, Nat.reduceLT, Nat.reduceMul, Nat.reduceSub, Int.reduceAdd, Int.reduceSub, Int.reduceMul, Int.reduceLT, Int.reduceLE, Int.reduceEq, Int.reduceNe, Int.reduceNeg, Int.reduceToNat, f0, f1, f5, c1, hget, e, wrapS hlt hB, strC_len]
        refine ⟨k + 1, by show l.length - (k + 1) < l.length - k; omega, f0, f1, rfl, hlt, mem_take ha hv fun x => e x.symm, rfl⟩
    · have hke : k = l.length := by omega
      subst hke
      have c1 : decide ((l.length : Int) < (l.length : Int)) = false := by simp
      simp only [u_C l23_0.eq_1, runs, e_onS, AH.set_same, AH.set_set, List.map_cons, List.map_nil, List.length_cons, List.length_nil, List.drop_zero, List.drop_succ_cons, List.take_succ_cons, List.take_zero, List.take_nil, List.nil_append, List.cons_append, List.append_nil, List.all_cons, List.all_nil, Nat.zero_add, Nat.add_zero, ite_true, ite_false, if_true, if_false, ne_eq, not_false_eq_true, not_true_eq_false, and_true, true_and, and_self, Bool.and_true, Bool.true_and, Bool.not_true, Bool.not_false, List.getElem?_cons_zero, List.getElem?_cons_succ, Option.isSome_some, beq_self_eq_true, implies_true, forall_const, Nat.le_refl, Option.some.injEq, Option.getD_some, Option.getD_none, List.getElem?_nil, e_Lpn, e_Lpe, e_Lpr, decide_true, decide_false, Int.natCast_nonneg, Int.toNat_natCast, Int.toNat_zero, lt_irr, imp_self, false_implies, big_eq, pevA, takeA, putA, fillA, chunkA, zerosL, binA, binI, binS, isNilA, lookA, bndA, depA, depV, depM, depS, cellAt, elemAt, initA, Nat.reduceAdd, Nat.reduceLeDiff, Nat.reduceEqDiff, reduceIte, reduceCtorEq, Nat.reduceLT, Nat.reduceMul, Nat.reduceSub, Int.reduceAdd, Int.reduceSub, Int.reduceMul, Int.reduceLT, Int.reduceLE, Int.reduceEq, Int.reduceNe, Int.reduceNeg, Int.reduceToNat, f0, f1, f5, c1, strC_len]
      rw [List.take_length] at hv
      exact ⟨_, h1, .refl _ _, hK, ⟨-1, rfl, fun h => absurd h (by decide), fun h => absurd h hv⟩, rfl⟩
theorem has_ok (E : TypeId) (l : List (List UInt8)) (t : Tag) (v : List UInt8) : Pure T 11 [.lst E (strC l) t, .str v] (.bool (decide (v ∈ l))) := by
  intro K h
  refine ACall.ret t11 fun hK => ?_
  simp only [u_C c11.eq_1, runs, e_onS, AH.set_same, AH.set_set, List.map_cons, List.map_nil, List.length_cons, List.length_nil, List.drop_zero, List.drop_succ_cons, List.take_succ_cons, List.take_zero, List.take_nil, List.nil_append, List.cons_append, List.append_nil, List.all_cons, List.all_nil, Nat.zero_add, Nat.add_zero, ite_true, ite_false, if_true, if_false, ne_eq, not_false_eq_true, not_true_eq_false, and_true, true_and, and_self, Bool.and_true, Bool.true_and, Bool.not_true, Bool.not_false, List.getElem?_cons_zero, List.getElem?_cons_succ, Option.isSome_some, beq_self_eq_true, implies_true, forall_const, Nat.le_refl, Option.some.injEq, Option.getD_some, Option.getD_none, List.getElem?_nil, e_Lpn, e_Lpe, e_Lpr, decide_true, decide_false, Int.natCast_nonneg, Int.toNat_natCast, Int.toNat_zero, lt_irr, imp_self, false_implies, big_eq, pevA, takeA, putA, fillA, chunkA, zerosL, binA, binI, binS, isNilA, lookA, bndA, depA, depV, depM, depS, cellAt, elemAt, initA, Nat.reduceAdd, Nat.reduceLeDiff, Nat.reduceEqDiff, reduceIte, reduceCtorEq, Nat.reduceLT, Nat.reduceMul, Nat.reduceSub, Int.reduceAdd, Int.reduceSub, Int.reduceMul, Int.reduceLT, Int.reduceLE, Int.reduceEq, Int.reduceNe, Int.reduceNeg, Int.reduceToNat]
  refine (place_ok E l t v K h).mono ?_
  rintro _ _ ⟨⟨n, rfl, hn⟩, rfl⟩
  simp only [runs, e_onS, AH.set_same, AH.set_set, List.map_cons, List.map_nil, List.length_cons, List.length_nil, List.drop_zero, List.drop_succ_cons, List.take_succ_cons, List.take_zero, List.take_nil, List.nil_append, List.cons_append, List.append_nil, List.all_cons, List.all_nil, Nat.zero_add, Nat.add_zero, ite_true, ite_false, if_true, if_false, ne_eq, not_false_eq_true, not_true_eq_false, and_true, true_and, and_self, Bool.and_true, Bool.true_and, Bool.not_true, Bool.not_false, List.getElem?_cons_zero, List.getElem?_cons_succ, Option.isSome_some, beq_self_eq_true, implies_true, forall_const, Nat.le_refl, Option.some.injEq, Option.getD_some, Option.getD_none, List.getElem?_nil, e_Lpn, e_Lpe, e_Lpr, decide_true, decide_false, Int.natCast_nonneg, Int.toNat_natCast, Int.toNat_zero, lt_irr, imp_self, false_implies, big_eq, pevA, takeA, putA, fillA, chunkA, zerosL, binA, binI, binS, isNilA, lookA, bndA, depA, depV, depM, depS, cellAt, elemAt, initA, Nat.reduceAdd, Nat.reduceLeDiff, Nat.reduceEqDiff, reduceIte, reduceCtorEq, Nat.reduceLT, Nat.reduceMul, Nat.reduceSub, Int.reduceAdd, Int.reduceSub, Int.reduceMul, Int.reduceLT, Int.reduceLE, Int.reduceEq, Int.reduceNe, Int.reduceNeg, Int.reduceToNat, hn]
  exact ⟨.refl _, AH.le_refl _⟩
end Go.Proofs.YtfagmflapdgcmaaDoor.p

namespace Go.Proofs.YtfagmflapdgcmaaDoor.p
open Go.Proofs Go Go.Cn code
set_option linter.unusedSimpArgs false
set_option linter.unusedVariables false

/-- a row of texts that was made by appends, or nothing -/
def SupV (S : List (List UInt8)) (s : AV) : Prop := (S = [] ∧ s = .lst 0 [] .nil) ∨ (S ≠ [] ∧ ∃ t, s = .lst 9 (strC S) t)
def supN (S : List (List UInt8)) : AV := if S = [] then .lst 0 [] .nil else .lst 9 (strC S) .no
theorem supN_v (S : List (List UInt8)) : SupV S (supN S) := by
  unfold supN
  by_cases h : S = []
  · rw [if_pos h]; exact .inl ⟨h, rfl⟩
  · rw [if_neg h]; exact .inr ⟨h, .no, rfl⟩
theorem SupV.wk {S : List (List UInt8)} {s : AV} (h : SupV S s) : Wk s (supN S) := by
  unfold supN
  rcases h with ⟨rfl, rfl⟩ | ⟨h, t, rfl⟩
  · exact .refl _
  · rw [if_neg h]; exact .tag _ _ _
theorem SupV.one {S : List (List UInt8)} {s : AV} (h : SupV S s) : oneA s = true := by rcases h with ⟨_, rfl⟩ | ⟨_, t, rfl⟩ <;> rfl
theorem SupV.any {S : List (List UInt8)} {s : AV} (h : SupV S s) : isAny s = false := by rcases h with ⟨_, rfl⟩ | ⟨_, t, rfl⟩ <;> rfl
theorem SupV.cells {S : List (List UInt8)} {s : AV} (h : SupV S s) : cellsA s = [s] := by rcases h with ⟨_, rfl⟩ | ⟨_, t, rfl⟩ <;> rfl
theorem SupV.lst {S : List (List UInt8)} {s : AV} (h : SupV S s) : ∃ E t, s = .lst E (strC S) t := by rcases h with ⟨rfl, rfl⟩ | ⟨_, t, rfl⟩ <;> exact ⟨_, _, rfl⟩
theorem flat_strC (l : List (List UInt8)) : (strC l).flatten = l.map fun s => AV.str s := by
  induction l with
  | nil => rfl
  | cons a l ih => show [AV.str a] ++ (strC l).flatten = _; rw [ih]; rfl
theorem one_strC (l : List (List UInt8)) : (strC l).flatten.all oneA = true := by rw [flat_strC]; simp [oneA]
theorem len_strC (l : List (List UInt8)) : ∀ e ∈ strC l, e.length = 1 := fun e he => by obtain ⟨z, _, rfl⟩ := List.mem_map.1 he; rfl

theorem cloneS_ok (S : List (List UInt8)) (s : AV) (hS : SupV S s) (hl : S.length ≤ 1000) : Pure T 30 [s] (supN S) := by
  intro K h
  refine ACall.ret t30 fun hK => ?_
  unfold supN
  rcases hS with ⟨rfl, rfl⟩ | ⟨hne, t, rfl⟩
  · simp only [u_C c30.eq_1, runs, e_onS, AH.set_same, AH.set_set, List.map_cons, List.map_nil, List.length_cons, List.length_nil, List.drop_zero, List.drop_succ_cons, List.take_succ_cons, List.take_zero, List.take_nil, List.nil_append, List.cons_append, List.append_nil, List.all_cons, List.all_nil, Nat.zero_add, Nat.add_zero, ite_true, ite_false, if_true, if_false, ne_eq, not_false_eq_true, not_true_eq_false, and_true, true_and, and_self, Bool.and_true, Bool.true_and, Bool.not_true, Bool.not_false, List.getElem?_cons_zero, List.getElem?_cons_succ, Option.isSome_some, beq_self_eq_true, implies_true, forall_const, Nat.le_refl, Option.some.injEq, Option.getD_some, Option.getD_none, List.getElem?_nil, e_Lpn, e_Lpe, e_Lpr, decide_true, decide_false, Int.natCast_nonneg, Int.toNat_natCast, Int.toNat_zero, lt_irr, imp_self, false_implies, big_eq, pevA, takeA, putA, fillA, chunkA, zerosL, binA, binI, binS, isNilA, lookA, bndA, depA, depV, depM, depS, cellAt, elemAt, initA, Nat.reduceAdd, Nat.reduceLeDiff, Nat.reduceEqDiff, reduceIte, reduceCtorEq, Nat.reduceLT, Nat.reduceMul, Nat.reduceSub, Int.reduceAdd, Int.reduceSub, Int.reduceMul, Int.reduceLT, Int.reduceLE, Int.reduceEq, Int.reduceNe, Int.reduceNeg, Int.reduceToNat]
    exact ⟨.refl _, AH.le_refl _⟩
  · rw [if_neg hne]
    obtain ⟨a, l, rfl⟩ := List.exists_cons_of_ne_nil hne
    have hc : strC (a :: l) = [AV.str a] :: strC l := rfl
    rw [hc]
    simp only [u_C c30.eq_1, runs, e_onS, AH.set_same, AH.set_set, List.map_cons, List.map_nil, List.length_cons, List.length_nil, List.drop_zero, List.drop_succ_cons, List.take_succ_cons, List.take_zero, List.take_nil, List.nil_append, List.cons_append, List.append_nil, List.all_cons, List.all_nil, Nat.zero_add, Nat.add_zero, ite_true, ite_false, if_true, if_false, ne_eq, not_false_eq_true, not_true_eq_false, and_true, true_and, and_self, Bool.and_true, Bool.true_and, Bool.not_true, Bool.not_false, List.getElem?_cons_zero, List.getElem?_cons_succ, Option.isSome_some, beq_self_eq_true, implies_true, forall_const, Nat.le_refl, Option.some.injEq, Option.getD_some, Option.getD_none, List.getElem?_nil, e_Lpn, e_Lpe, e_Lpr, decide_true, decide_false, Int.natCast_nonneg, Int.toNat_natCast, Int.toNat_zero, lt_irr, imp_self, false_implies, big_eq, pevA, takeA, putA, fillA, chunkA, zerosL, binA, binI, binS, isNilA, lookA, bndA, depA, depV, depM, depS, cellAt, elemAt, initA, Nat.reduceAdd, Nat.reduceLeDiff, Nat.reduceEqDiff, reduceIte, reduceCtorEq, Nat.reduceLT, Nat.reduceMul, Nat.reduceSub, Int.reduceAdd, Int.reduceSub, Int.reduceMul, Int.reduceLT, Int.reduceLE, Int.reduceEq, Int.reduceNe, Int.reduceNeg, Int.reduceToNat]
    refine WO.bslT0 fun b ht hb => ?_
    have hT : Toks h.toks (h.setT b ⟨b, 0, 0, 0, 1, 9⟩).toks [(.own b b 0 0 0 1, 9, 1, 0)] := (Toks.one h.toks 9 1).set (i := 0) rfl (.inr ⟨rfl, ht⟩) rfl ⟨rfl, by rw [upd_same], by simp⟩
    simp only [runs, e_onS, AH.set_same, AH.set_set, List.map_cons, List.map_nil, List.length_cons, List.length_nil, List.drop_zero, List.drop_succ_cons, List.take_succ_cons, List.take_zero, List.take_nil, List.nil_append, List.cons_append, List.append_nil, List.all_cons, List.all_nil, Nat.zero_add, Nat.add_zero, ite_true, ite_false, if_true, if_false, ne_eq, not_false_eq_true, not_true_eq_false, and_true, true_and, and_self, Bool.and_true, Bool.true_and, Bool.not_true, Bool.not_false, List.getElem?_cons_zero, List.getElem?_cons_succ, Option.isSome_some, beq_self_eq_true, implies_true, forall_const, Nat.le_refl, Option.some.injEq, Option.getD_some, Option.getD_none, List.getElem?_nil, e_Lpn, e_Lpe, e_Lpr, decide_true, decide_false, Int.natCast_nonneg, Int.toNat_natCast, Int.toNat_zero, lt_irr, imp_self, false_implies, big_eq, pevA, takeA, putA, fillA, chunkA, zerosL, binA, binI, binS, isNilA, lookA, bndA, depA, depV, depM, depS, cellAt, elemAt, initA, Nat.reduceAdd, Nat.reduceLeDiff, Nat.reduceEqDiff, reduceIte, reduceCtorEq, Nat.reduceLT, Nat.reduceMul, Nat.reduceSub, Int.reduceAdd, Int.reduceSub, Int.reduceMul, Int.reduceLT, Int.reduceLE, Int.reduceEq, Int.reduceNe, Int.reduceNeg, Int.reduceToNat]
    refine WO.append (i := 0) hT rfl rfl rfl trivial (by decide) (by rw [← hc]; exact len_strC _) (by rw [← hc]; exact one_strC _) (.inr rfl) (fun _ => ?_) ?_ fun tag' t' hT' => ?_
    · have := strC_len l
      constructor
      · simp [this] at hl ⊢; omega
      · simp [this] at hl ⊢; omega
    · have := strC_len l
      simp [big_eq, this] at hl ⊢; omega
    simp only [runs, e_onS, AH.set_same, AH.set_set, List.map_cons, List.map_nil, List.length_cons, List.length_nil, List.drop_zero, List.drop_succ_cons, List.take_succ_cons, List.take_zero, List.take_nil, List.nil_append, List.cons_append, List.append_nil, List.all_cons, List.all_nil, Nat.zero_add, Nat.add_zero, ite_true, ite_false, if_true, if_false, ne_eq, not_false_eq_true, not_true_eq_false, and_true, true_and, and_self, Bool.and_true, Bool.true_and, Bool.not_true, Bool.not_false, List.getElem?_cons_zero, List.getElem?_cons_succ, Option.isSome_some, beq_self_eq_true, implies_true, forall_const, Nat.le_refl, Option.some.injEq, Option.getD_some, Option.getD_none, List.getElem?_nil, e_Lpn, e_Lpe, e_Lpr, decide_true, decide_false, Int.natCast_nonneg, Int.toNat_natCast, Int.toNat_zero, lt_irr, imp_self, false_implies, big_eq, pevA, takeA, putA, fillA, chunkA, zerosL, binA, binI, binS, isNilA, lookA, bndA, depA, depV, depM, depS, cellAt, elemAt, initA, Nat.reduceAdd, Nat.reduceLeDiff, Nat.reduceEqDiff, reduceIte, reduceCtorEq, Nat.reduceLT, Nat.reduceMul, Nat.reduceSub, Int.reduceAdd, Int.reduceSub, Int.reduceMul, Int.reduceLT, Int.reduceLE, Int.reduceEq, Int.reduceNe, Int.reduceNeg, Int.reduceToNat]
    exact ⟨.tag _ _ _, ⟨fun _ _ h => h, hT'.le⟩⟩

theorem take_nd {l : List (List UInt8)} (h : l.Nodup) {i : Nat} {a : List UInt8} (ha : l[i]? = some a) : a ∉ l.take i := by
  have e := List.take_append_drop i l
  obtain ⟨hi, hai⟩ := List.getElem?_eq_some_iff.1 ha
  rw [List.drop_eq_getElem_cons hi, hai] at e
  rw [← e] at h
  exact fun hm => (List.nodup_append.1 h).2.2 a hm a (by simp) rfl

theorem twice_ok (S : List (List UInt8)) (s : AV) (hS : SupV S s) (hnd : S.Nodup) : Pure T 27 [s] (.bool false) := by
  intro K h
  refine ACall.ret t27 fun hK => ?_
  obtain ⟨E, t, rfl⟩ := hS.lst
  simp only [u_C c27.eq_1, runs, e_onS, AH.set_same, AH.set_set, List.map_cons, List.map_nil, List.length_cons, List.length_nil, List.drop_zero, List.drop_succ_cons, List.take_succ_cons, List.take_zero, List.take_nil, List.nil_append, List.cons_append, List.append_nil, List.all_cons, List.all_nil, Nat.zero_add, Nat.add_zero, ite_true, ite_false, if_true, if_false, ne_eq, not_false_eq_true, not_true_eq_false, and_true, true_and, and_self, Bool.and_true, Bool.true_and, Bool.not_true, Bool.not_false, List.getElem?_cons_zero, List.getElem?_cons_succ, Option.isSome_some, beq_self_eq_true, implies_true, forall_const, Nat.le_refl, Option.some.injEq, Option.getD_some, Option.getD_none, List.getElem?_nil, e_Lpn, e_Lpe, e_Lpr, decide_true, decide_false, Int.natCast_nonneg, Int.toNat_natCast, Int.toNat_zero, lt_irr, imp_self, false_implies, big_eq, pevA, takeA, putA, fillA, chunkA, zerosL, binA, binI, binS, isNilA, lookA, bndA, depA, depV, depM, depS, cellAt, elemAt, initA, Nat.reduceAdd, Nat.reduceLeDiff, Nat.reduceEqDiff, reduceIte, reduceCtorEq, Nat.reduceLT, Nat.reduceMul, Nat.reduceSub, Int.reduceAdd, Int.reduceSub, Int.reduceMul, Int.reduceLT, Int.reduceLE, Int.reduceEq, Int.reduceNe, Int.reduceNeg, Int.reduceToNat, strC_len]
  refine W.bound (t := 0) rfl fun hB => ?_
  rw [strC_len] at hB
  refine aloop (α := Nat) (fun k fr h1 => fr 0 = .lst E (strC S) t ∧ fr 5 = .lst E (strC S) t ∧ fr 6 = .int .i64 S.length ∧ fr 7 = .int .i64 k ∧ k ≤ S.length ∧ h1 = h) (fun k => S.length - k) 0 ?_ ?_
  · exact ⟨rfl, rfl, rfl, rfl, Nat.zero_le _, rfl⟩
  · rintro k fr h1 ⟨f0, f5, f6, f7, hk, rfl⟩
    by_cases hlt : k < S.length
    · have c1 : decide ((k : Int) < (S.length : Int)) = true := decide_eq_true (by omega)
      obtain ⟨a, ha⟩ : ∃ a, S[k]? = some a := ⟨S[k], by simp [hlt]⟩
      have hget : (strC S)[k]? = some [.str a] := by rw [strC_get, ha]; rfl
      rcases hS with ⟨rfl, _⟩ | ⟨hne, t', e⟩
      · simp at hlt
      · cases e
        obtain ⟨x, l, hxl⟩ := List.exists_cons_of_ne_nil hne
        have hc : strC S = [AV.str x] :: strC l := by rw [hxl]; rfl
        have hle : (k : Int) ≤ ((strC l).length + 1 : Nat) := by
          have := strC_len S
          rw [hc] at this
          simp at this
          omega
        have htk : List.take (k - 0) ([AV.str x] :: strC l) = strC (S.take k) := by
          rw [← hc]; simp [strC, List.map_take]
        have hlen1 : ∀ y ∈ [AV.str x] :: strC l, y.length = 1 := by rw [← hc]; exact len_strC S
        have hget' : ([AV.str x] :: strC l)[k]? = some [.str a] := by rw [← hc]; exact hget
        rw [hc] at f0 f5
        have hk0 : (0 : Int) ≤ (k : Int) := by omega
        have hni := take_nd hnd ha
        simp only [u_C l27_0.eq_1, runs, e_onS, AH.set_same, AH.set_set, List.map_cons, List.map_nil, List.length_cons, List.length_nil, List.drop_zero, List.drop_succ_cons, List.take_succ_cons, List.take_zero, List.take_nil, List.nil_append, List.cons_append, List.append_nil, List.all_cons, List.all_nil, Nat.zero_add, Nat.add_zero, ite_true, ite_false, if_true, if_false, ne_eq, not_false_eq_true, not_true_eq_false, and_true, true_and, and_self, Bool.and_true, Bool.true_and, Bool.not_true, Bool.not_false, List.getElem?_cons_zero, List.getElem?_cons_succ, Option.isSome_some, beq_self_eq_true, implies_true, forall_const, Nat.le_refl, Option.some.injEq, Option.getD_some, Option.getD_none, List.getElem?_nil, e_Lpn, e_Lpe, e_Lpr, decide_true, decide_false, Int.natCast_nonneg, Int.toNat_natCast, Int.toNat_zero, lt_irr, imp_self, false_implies, big_eq, pevA, takeA, putA, fillA, chunkA, zerosL, binA, binI, binS, isNilA, lookA, bndA, depA, depV, depM, depS, cellAt, elemAt, initA, Nat.reduceAdd, Nat.reduceLeDiff, Nat.reduceEqDiff, reduceIte, reduceCtorEq, Nat.reduceLT, Nat.reduceMul, Nat.reduceSub, Int.reduceAdd, Int.reduceSub, Int.reduceMul, Int.reduceLT, Int.reduceLE, Int.reduceEq, Int.reduceNe, Int.reduceNeg, Int.reduceToNat, f0, f5, f6, f7, c1, hget', Option.map_some, Option.map_none, hle, hk0, Int.toNat_natCast, Nat.zero_le, List.drop_zero]
        rw [if_pos hlen1]
        rw [htk]
        simp only [runs, e_onS, AH.set_same, AH.set_set, List.map_cons, List.map_nil, List.length_cons, List.length_nil, List.drop_zero, List.drop_succ_cons, List.take_succ_cons, List.take_zero, List.take_nil, List.nil_append, List.cons_append, List.append_nil, List.all_cons, List.all_nil, Nat.zero_add, Nat.add_zero, ite_true, ite_false, if_true, if_false, ne_eq, not_false_eq_true, not_true_eq_false, and_true, true_and, and_self, Bool.and_true, Bool.true_and, Bool.not_true, Bool.not_false, List.getElem?_cons_zero, List.getElem?_cons_succ, Option.isSome_some, beq_self_eq_true, implies_true, forall_const, Nat.le_refl, Option.some.injEq, Option.getD_some, Option.getD_none, List.getElem?_nil, e_Lpn, e_Lpe, e_Lpr, decide_true, decide_false, Int.natCast_nonneg, Int.toNat_natCast, Int.toNat_zero, lt_irr, imp_self, false_implies, big_eq, pevA, takeA, putA, fillA, chunkA, zerosL, binA, binI, binS, isNilA, lookA, bndA, depA, depV, depM, depS, cellAt, elemAt, initA, Nat.reduceAdd, Nat.reduceLeDiff, Nat.reduceEqDiff, reduceIte, reduceCtorEq, Nat.reduceLT, Nat.reduceMul, Nat.reduceSub, Int.reduceAdd, Int.reduceSub, Int.reduceMul, Int.reduceLT, Int.reduceLE, Int.reduceEq, Int.reduceNe, Int.reduceNeg, Int.reduceToNat]
        refine (contains_ok _ _ _ _).use ?_
        simp only [runs, e_onS, AH.set_same, AH.set_set, List.map_cons, List.map_nil, List.length_cons, List.length_nil, List.drop_zero, List.drop_succ_cons, List.take_succ_cons, List.take_zero, List.take_nil, List.nil_append, List.cons_append, List.append_nil, List.all_cons, List.all_nil, Nat.zero_add, Nat.add_zero, ite_true, ite_false, if_true, if_false, ne_eq, not_false_eq_true, not_true_eq_false, and_true, true_and, and_self, Bool.and_true, Bool.true_and, Bool.not_true, Bool.not_false, List.getElem?_cons_zero, List.getElem?_cons_succ, Option.isSome_some, beq_self_eq_true, implies_true, forall_const, Nat.le_refl, Option.some.injEq, Option.getD_some, Option.getD_none, List.getElem?_nil, e_Lpn, e_Lpe, e_Lpr, decide_true, decide_false, Int.natCast_nonneg, Int.toNat_natCast, Int.toNat_zero, lt_irr, imp_self, false_implies, big_eq, pevA, takeA, putA, fillA, chunkA, zerosL, binA, binI, binS, isNilA, lookA, bndA, depA, depV, depM, depS, cellAt, elemAt, initA, Nat.reduceAdd, Nat.reduceLeDiff, Nat.reduceEqDiff, reduceIte, reduceCtorEq, Nat.reduceLT, Nat.reduceMul, Nat.reduceSub, Int.reduceAdd, Int.reduceSub, Int.reduceMul, Int.reduceLT, Int.reduceLE, Int.reduceEq, Int.reduceNe, Int.reduceNeg, Int.reduceToNat, hni, f7, wrapS hlt hB]
        refine ⟨k + 1, by show S.length - (k + 1) < S.length - k; omega, by rw [hc]; exact f0, by rw [hc]; exact f5, f6, rfl, hlt, rfl⟩
    · have hke : k = S.length := by omega
      subst hke
      have c1 : decide ((S.length : Int) < (S.length : Int)) = false := by simp
      simp only [u_C l27_0.eq_1, runs, e_onS, AH.set_same, AH.set_set, List.map_cons, List.map_nil, List.length_cons, List.length_nil, List.drop_zero, List.drop_succ_cons, List.take_succ_cons, List.take_zero, List.take_nil, List.nil_append, List.cons_append, List.append_nil, List.all_cons, List.all_nil, Nat.zero_add, Nat.add_zero, ite_true, ite_false, if_true, if_false, ne_eq, not_false_eq_true, not_true_eq_false, and_true, true_and, and_self, Bool.and_true, Bool.true_and, Bool.not_true, Bool.not_false, List.getElem?_cons_zero, List.getElem?_cons_succ, Option.isSome_some, beq_self_eq_true, implies_true, forall_const, Nat.le_refl, Option.some.injEq, Option.getD_some, Option.getD_none, List.getElem?_nil, e_Lpn, e_Lpe, e_Lpr, decide_true, decide_false, Int.natCast_nonneg, Int.toNat_natCast, Int.toNat_zero, lt_irr, imp_self, false_implies, big_eq, pevA, takeA, putA, fillA, chunkA, zerosL, binA, binI, binS, isNilA, lookA, bndA, depA, depV, depM, depS, cellAt, elemAt, initA, Nat.reduceAdd, Nat.reduceLeDiff, Nat.reduceEqDiff, reduceIte, reduceCtorEq, Nat.reduceLT, Nat.reduceMul, Nat.reduceSub, Int.reduceAdd, Int.reduceSub, Int.reduceMul, Int.reduceLT, Int.reduceLE, Int.reduceEq, Int.reduceNe, Int.reduceNeg, Int.reduceToNat, f0, f5, f6, f7, c1]
      exact ⟨.refl _, AH.le_refl _⟩

-- what has no elements
theorem names0_ok : Pure T 26 [.lst 0 [] .nil] (.lst 0 [] .nil) := by
  intro K h
  refine ACall.ret t26 fun hK => ?_
  simp only [u_C c26.eq_1, runs, e_onS, AH.set_same, AH.set_set, List.map_cons, List.map_nil, List.length_cons, List.length_nil, List.drop_zero, List.drop_succ_cons, List.take_succ_cons, List.take_zero, List.take_nil, List.nil_append, List.cons_append, List.append_nil, List.all_cons, List.all_nil, Nat.zero_add, Nat.add_zero, ite_true, ite_false, if_true, if_false, ne_eq, not_false_eq_true, not_true_eq_false, and_true, true_and, and_self, Bool.and_true, Bool.true_and, Bool.not_true, Bool.not_false, List.getElem?_cons_zero, List.getElem?_cons_succ, Option.isSome_some, beq_self_eq_true, implies_true, forall_const, Nat.le_refl, Option.some.injEq, Option.getD_some, Option.getD_none, List.getElem?_nil, e_Lpn, e_Lpe, e_Lpr, decide_true, decide_false, Int.natCast_nonneg, Int.toNat_natCast, Int.toNat_zero, lt_irr, imp_self, false_implies, big_eq, pevA, takeA, putA, fillA, chunkA, zerosL, binA, binI, binS, isNilA, lookA, bndA, depA, depV, depM, depS, cellAt, elemAt, initA, Nat.reduceAdd, Nat.reduceLeDiff, Nat.reduceEqDiff, reduceIte, reduceCtorEq, Nat.reduceLT, Nat.reduceMul, Nat.reduceSub, Int.reduceAdd, Int.reduceSub, Int.reduceMul, Int.reduceLT, Int.reduceLE, Int.reduceEq, Int.reduceNe, Int.reduceNeg, Int.reduceToNat]
  refine aloop (α := Unit) (fun _ fr h1 => fr 3 = .lst 0 [] .nil ∧ fr 7 = .int .i64 0 ∧ fr 8 = .int .i64 0 ∧ h1 = h) (fun _ => 0) () ⟨rfl, rfl, rfl, rfl⟩ ?_
  rintro _ fr h1 ⟨f3, f7, f8, rfl⟩
  simp only [u_C l26_0.eq_1, runs, e_onS, AH.set_same, AH.set_set, List.map_cons, List.map_nil, List.length_cons, List.length_nil, List.drop_zero, List.drop_succ_cons, List.take_succ_cons, List.take_zero, List.take_nil, List.nil_append, List.cons_append, List.append_nil, List.all_cons, List.all_nil, Nat.zero_add, Nat.add_zero, ite_true, ite_false, if_true, if_false, ne_eq, not_false_eq_true, not_true_eq_false, and_true, true_and, and_self, Bool.and_true, Bool.true_and, Bool.not_true, Bool.not_false, List.getElem?_cons_zero, List.getElem?_cons_succ, Option.isSome_some, beq_self_eq_true, implies_true, forall_const, Nat.le_refl, Option.some.injEq, Option.getD_some, Option.getD_none, List.getElem?_nil, e_Lpn, e_Lpe, e_Lpr, decide_true, decide_false, Int.natCast_nonneg, Int.toNat_natCast, Int.toNat_zero, lt_irr, imp_self, false_implies, big_eq, pevA, takeA, putA, fillA, chunkA, zerosL, binA, binI, binS, isNilA, lookA, bndA, depA, depV, depM, depS, cellAt, elemAt, initA, Nat.reduceAdd, Nat.reduceLeDiff, Nat.reduceEqDiff, reduceIte, reduceCtorEq, Nat.reduceLT, Nat.reduceMul, Nat.reduceSub, Int.reduceAdd, Int.reduceSub, Int.reduceMul, Int.reduceLT, Int.reduceLE, Int.reduceEq, Int.reduceNe, Int.reduceNeg, Int.reduceToNat, f3, f7, f8]
  exact ⟨.refl _, AH.le_refl _⟩
theorem cfunc0_ok (v : AV) : Pure T 28 [.lst 0 [] .nil, v] (.bool false) := by
  intro K h
  refine ACall.ret t28 fun hK => ?_
  simp only [u_C c28.eq_1, runs, e_onS, AH.set_same, AH.set_set, List.map_cons, List.map_nil, List.length_cons, List.length_nil, List.drop_zero, List.drop_succ_cons, List.take_succ_cons, List.take_zero, List.take_nil, List.nil_append, List.cons_append, List.append_nil, List.all_cons, List.all_nil, Nat.zero_add, Nat.add_zero, ite_true, ite_false, if_true, if_false, ne_eq, not_false_eq_true, not_true_eq_false, and_true, true_and, and_self, Bool.and_true, Bool.true_and, Bool.not_true, Bool.not_false, List.getElem?_cons_zero, List.getElem?_cons_succ, Option.isSome_some, beq_self_eq_true, implies_true, forall_const, Nat.le_refl, Option.some.injEq, Option.getD_some, Option.getD_none, List.getElem?_nil, e_Lpn, e_Lpe, e_Lpr, decide_true, decide_false, Int.natCast_nonneg, Int.toNat_natCast, Int.toNat_zero, lt_irr, imp_self, false_implies, big_eq, pevA, takeA, putA, fillA, chunkA, zerosL, binA, binI, binS, isNilA, lookA, bndA, depA, depV, depM, depS, cellAt, elemAt, initA, Nat.reduceAdd, Nat.reduceLeDiff, Nat.reduceEqDiff, reduceIte, reduceCtorEq, Nat.reduceLT, Nat.reduceMul, Nat.reduceSub, Int.reduceAdd, Int.reduceSub, Int.reduceMul, Int.reduceLT, Int.reduceLE, Int.reduceEq, Int.reduceNe, Int.reduceNeg, Int.reduceToNat]
  have h39 : Pure T 39 [.lst 0 [] .nil, v] (.int .i64 (-1)) := by
    intro K h
    refine ACall.ret t39 fun hK => ?_
    simp only [u_C c39.eq_1, runs, e_onS, AH.set_same, AH.set_set, List.map_cons, List.map_nil, List.length_cons, List.length_nil, List.drop_zero, List.drop_succ_cons, List.take_succ_cons, List.take_zero, List.take_nil, List.nil_append, List.cons_append, List.append_nil, List.all_cons, List.all_nil, Nat.zero_add, Nat.add_zero, ite_true, ite_false, if_true, if_false, ne_eq, not_false_eq_true, not_true_eq_false, and_true, true_and, and_self, Bool.and_true, Bool.true_and, Bool.not_true, Bool.not_false, List.getElem?_cons_zero, List.getElem?_cons_succ, Option.isSome_some, beq_self_eq_true, implies_true, forall_const, Nat.le_refl, Option.some.injEq, Option.getD_some, Option.getD_none, List.getElem?_nil, e_Lpn, e_Lpe, e_Lpr, decide_true, decide_false, Int.natCast_nonneg, Int.toNat_natCast, Int.toNat_zero, lt_irr, imp_self, false_implies, big_eq, pevA, takeA, putA, fillA, chunkA, zerosL, binA, binI, binS, isNilA, lookA, bndA, depA, depV, depM, depS, cellAt, elemAt, initA, Nat.reduceAdd, Nat.reduceLeDiff, Nat.reduceEqDiff, reduceIte, reduceCtorEq, Nat.reduceLT, Nat.reduceMul, Nat.reduceSub, Int.reduceAdd, Int.reduceSub, Int.reduceMul, Int.reduceLT, Int.reduceLE, Int.reduceEq, Int.reduceNe, Int.reduceNeg, Int.reduceToNat]
    refine aloop (α := Unit) (fun _ fr h1 => fr 7 = .int .i64 0 ∧ fr 8 = .int .i64 0 ∧ h1 = h) (fun _ => 0) () ⟨rfl, rfl, rfl⟩ ?_
    rintro _ fr h1 ⟨f7, f8, rfl⟩
    simp only [u_C l39_0.eq_1, runs, e_onS, AH.set_same, AH.set_set, List.map_cons, List.map_nil, List.length_cons, List.length_nil, List.drop_zero, List.drop_succ_cons, List.take_succ_cons, List.take_zero, List.take_nil, List.nil_append, List.cons_append, List.append_nil, List.all_cons, List.all_nil, Nat.zero_add, Nat.add_zero, ite_true, ite_false, if_true, if_false, ne_eq, not_false_eq_true, not_true_eq_false, and_true, true_and, and_self, Bool.and_true, Bool.true_and, Bool.not_true, Bool.not_false, List.getElem?_cons_zero, List.getElem?_cons_succ, Option.isSome_some, beq_self_eq_true, implies_true, forall_const, Nat.le_refl, Option.some.injEq, Option.getD_some, Option.getD_none, List.getElem?_nil, e_Lpn, e_Lpe, e_Lpr, decide_true, decide_false, Int.natCast_nonneg, Int.toNat_natCast, Int.toNat_zero, lt_irr, imp_self, false_implies, big_eq, pevA, takeA, putA, fillA, chunkA, zerosL, binA, binI, binS, isNilA, lookA, bndA, depA, depV, depM, depS, cellAt, elemAt, initA, Nat.reduceAdd, Nat.reduceLeDiff, Nat.reduceEqDiff, reduceIte, reduceCtorEq, Nat.reduceLT, Nat.reduceMul, Nat.reduceSub, Int.reduceAdd, Int.reduceSub, Int.reduceMul, Int.reduceLT, Int.reduceLE, Int.reduceEq, Int.reduceNe, Int.reduceNeg, Int.reduceToNat, f7, f8]
    exact ⟨.refl _, AH.le_refl _⟩
  refine h39.use ?_
  simp only [runs, e_onS, AH.set_same, AH.set_set, List.map_cons, List.map_nil, List.length_cons, List.length_nil, List.drop_zero, List.drop_succ_cons, List.take_succ_cons, List.take_zero, List.take_nil, List.nil_append, List.cons_append, List.append_nil, List.all_cons, List.all_nil, Nat.zero_add, Nat.add_zero, ite_true, ite_false, if_true, if_false, ne_eq, not_false_eq_true, not_true_eq_false, and_true, true_and, and_self, Bool.and_true, Bool.true_and, Bool.not_true, Bool.not_false, List.getElem?_cons_zero, List.getElem?_cons_succ, Option.isSome_some, beq_self_eq_true, implies_true, forall_const, Nat.le_refl, Option.some.injEq, Option.getD_some, Option.getD_none, List.getElem?_nil, e_Lpn, e_Lpe, e_Lpr, decide_true, decide_false, Int.natCast_nonneg, Int.toNat_natCast, Int.toNat_zero, lt_irr, imp_self, false_implies, big_eq, pevA, takeA, putA, fillA, chunkA, zerosL, binA, binI, binS, isNilA, lookA, bndA, depA, depV, depM, depS, cellAt, elemAt, initA, Nat.reduceAdd, Nat.reduceLeDiff, Nat.reduceEqDiff, reduceIte, reduceCtorEq, Nat.reduceLT, Nat.reduceMul, Nat.reduceSub, Int.reduceAdd, Int.reduceSub, Int.reduceMul, Int.reduceLT, Int.reduceLE, Int.reduceEq, Int.reduceNe, Int.reduceNeg, Int.reduceToNat]
  exact ⟨.refl _, AH.le_refl _⟩
theorem binds0_ok : Pure T 32 [.lst 0 [] .nil] (.lst 0 [] .nil) := by
  intro K h
  refine ACall.ret t32 fun hK => ?_
  simp only [u_C c32.eq_1, runs, e_onS, AH.set_same, AH.set_set, List.map_cons, List.map_nil, List.length_cons, List.length_nil, List.drop_zero, List.drop_succ_cons, List.take_succ_cons, List.take_zero, List.take_nil, List.nil_append, List.cons_append, List.append_nil, List.all_cons, List.all_nil, Nat.zero_add, Nat.add_zero, ite_true, ite_false, if_true, if_false, ne_eq, not_false_eq_true, not_true_eq_false, and_true, true_and, and_self, Bool.and_true, Bool.true_and, Bool.not_true, Bool.not_false, List.getElem?_cons_zero, List.getElem?_cons_succ, Option.isSome_some, beq_self_eq_true, implies_true, forall_const, Nat.le_refl, Option.some.injEq, Option.getD_some, Option.getD_none, List.getElem?_nil, e_Lpn, e_Lpe, e_Lpr, decide_true, decide_false, Int.natCast_nonneg, Int.toNat_natCast, Int.toNat_zero, lt_irr, imp_self, false_implies, big_eq, pevA, takeA, putA, fillA, chunkA, zerosL, binA, binI, binS, isNilA, lookA, bndA, depA, depV, depM, depS, cellAt, elemAt, initA, Nat.reduceAdd, Nat.reduceLeDiff, Nat.reduceEqDiff, reduceIte, reduceCtorEq, Nat.reduceLT, Nat.reduceMul, Nat.reduceSub, Int.reduceAdd, Int.reduceSub, Int.reduceMul, Int.reduceLT, Int.reduceLE, Int.reduceEq, Int.reduceNe, Int.reduceNeg, Int.reduceToNat]
  refine aloop (α := Unit) (fun _ fr h1 => fr 3 = .lst 0 [] .nil ∧ fr 7 = .int .i64 0 ∧ fr 8 = .int .i64 0 ∧ h1 = h) (fun _ => 0) () ⟨rfl, rfl, rfl, rfl⟩ ?_
  rintro _ fr h1 ⟨f3, f7, f8, rfl⟩
  simp only [u_C l32_1.eq_1, runs, e_onS, AH.set_same, AH.set_set, List.map_cons, List.map_nil, List.length_cons, List.length_nil, List.drop_zero, List.drop_succ_cons, List.take_succ_cons, List.take_zero, List.take_nil, List.nil_append, List.cons_append, List.append_nil, List.all_cons, List.all_nil, Nat.zero_add, Nat.add_zero, ite_true, ite_false, if_true, if_false, ne_eq, not_false_eq_true, not_true_eq_false, and_true, true_and, and_self, Bool.and_true, Bool.true_and, Bool.not_true, Bool.not_false, List.getElem?_cons_zero, List.getElem?_cons_succ, Option.isSome_some, beq_self_eq_true, implies_true, forall_const, Nat.le_refl, Option.some.injEq, Option.getD_some, Option.getD_none, List.getElem?_nil, e_Lpn, e_Lpe, e_Lpr, decide_true, decide_false, Int.natCast_nonneg, Int.toNat_natCast, Int.toNat_zero, lt_irr, imp_self, false_implies, big_eq, pevA, takeA, putA, fillA, chunkA, zerosL, binA, binI, binS, isNilA, lookA, bndA, depA, depV, depM, depS, cellAt, elemAt, initA, Nat.reduceAdd, Nat.reduceLeDiff, Nat.reduceEqDiff, reduceIte, reduceCtorEq, Nat.reduceLT, Nat.reduceMul, Nat.reduceSub, Int.reduceAdd, Int.reduceSub, Int.reduceMul, Int.reduceLT, Int.reduceLE, Int.reduceEq, Int.reduceNe, Int.reduceNeg, Int.reduceToNat, f3, f7, f8]
  exact ⟨.refl _, AH.le_refl _⟩

/-- a class' cells -/
def clsC (nm : List UInt8) (s : AV) : List AV := [.str nm, .str [97], s, .lst 0 [] .nil, .lst 0 [] .nil, .int .i64 0]
theorem clone_ok (nm : List UInt8) (S : List (List UInt8)) (s : AV) (hS : SupV S s) (hl : S.length ≤ 1000) : Pure T 20 [.agg (clsC nm s)] (.agg (clsC nm (supN S))) := by
  intro K h
  refine ACall.ret t20 fun hK => ?_
  have n1 := (supN_v S).one
  have n2 := (supN_v S).any
  have n3 := (supN_v S).cells
  simp only [u_C c20.eq_1, runs, e_onS, AH.set_same, AH.set_set, List.map_cons, List.map_nil, List.length_cons, List.length_nil, List.drop_zero, List.drop_succ_cons, List.take_succ_cons, List.take_zero, List.take_nil, List.nil_append, List.cons_append, List.append_nil, List.all_cons, List.all_nil, Nat.zero_add, Nat.add_zero, ite_true, ite_false, if_true, if_false, ne_eq, not_false_eq_true, not_true_eq_false, and_true, true_and, and_self, Bool.and_true, Bool.true_and, Bool.not_true, Bool.not_false, List.getElem?_cons_zero, List.getElem?_cons_succ, Option.isSome_some, beq_self_eq_true, implies_true, forall_const, Nat.le_refl, Option.some.injEq, Option.getD_some, Option.getD_none, List.getElem?_nil, e_Lpn, e_Lpe, e_Lpr, decide_true, decide_false, Int.natCast_nonneg, Int.toNat_natCast, Int.toNat_zero, lt_irr, imp_self, false_implies, big_eq, pevA, takeA, putA, fillA, chunkA, zerosL, binA, binI, binS, isNilA, lookA, bndA, depA, depV, depM, depS, cellAt, elemAt, initA, Nat.reduceAdd, Nat.reduceLeDiff, Nat.reduceEqDiff, reduceIte, reduceCtorEq, Nat.reduceLT, Nat.reduceMul, Nat.reduceSub, Int.reduceAdd, Int.reduceSub, Int.reduceMul, Int.reduceLT, Int.reduceLE, Int.reduceEq, Int.reduceNe, Int.reduceNeg, Int.reduceToNat, clsC, hS.one]
  intro b1 hb1 hk1
  simp only [runs, e_onS, AH.set_same, AH.set_set, List.map_cons, List.map_nil, List.length_cons, List.length_nil, List.drop_zero, List.drop_succ_cons, List.take_succ_cons, List.take_zero, List.take_nil, List.nil_append, List.cons_append, List.append_nil, List.all_cons, List.all_nil, Nat.zero_add, Nat.add_zero, ite_true, ite_false, if_true, if_false, ne_eq, not_false_eq_true, not_true_eq_false, and_true, true_and, and_self, Bool.and_true, Bool.true_and, Bool.not_true, Bool.not_false, List.getElem?_cons_zero, List.getElem?_cons_succ, Option.isSome_some, beq_self_eq_true, implies_true, forall_const, Nat.le_refl, Option.some.injEq, Option.getD_some, Option.getD_none, List.getElem?_nil, e_Lpn, e_Lpe, e_Lpr, decide_true, decide_false, Int.natCast_nonneg, Int.toNat_natCast, Int.toNat_zero, lt_irr, imp_self, false_implies, big_eq, pevA, takeA, putA, fillA, chunkA, zerosL, binA, binI, binS, isNilA, lookA, bndA, depA, depV, depM, depS, cellAt, elemAt, initA, Nat.reduceAdd, Nat.reduceLeDiff, Nat.reduceEqDiff, reduceIte, reduceCtorEq, Nat.reduceLT, Nat.reduceMul, Nat.reduceSub, Int.reduceAdd, Int.reduceSub, Int.reduceMul, Int.reduceLT, Int.reduceLE, Int.reduceEq, Int.reduceNe, Int.reduceNeg, Int.reduceToNat]
  intro b2 hb2 hk2
  obtain ⟨n21, hb2⟩ := AH.set_none.1 hb2
  simp only [runs, e_onS, AH.set_same, AH.set_set, List.map_cons, List.map_nil, List.length_cons, List.length_nil, List.drop_zero, List.drop_succ_cons, List.take_succ_cons, List.take_zero, List.take_nil, List.nil_append, List.cons_append, List.append_nil, List.all_cons, List.all_nil, Nat.zero_add, Nat.add_zero, ite_true, ite_false, if_true, if_false, ne_eq, not_false_eq_true, not_true_eq_false, and_true, true_and, and_self, Bool.and_true, Bool.true_and, Bool.not_true, Bool.not_false, List.getElem?_cons_zero, List.getElem?_cons_succ, Option.isSome_some, beq_self_eq_true, implies_true, forall_const, Nat.le_refl, Option.some.injEq, Option.getD_some, Option.getD_none, List.getElem?_nil, e_Lpn, e_Lpe, e_Lpr, decide_true, decide_false, Int.natCast_nonneg, Int.toNat_natCast, Int.toNat_zero, lt_irr, imp_self, false_implies, big_eq, pevA, takeA, putA, fillA, chunkA, zerosL, binA, binI, binS, isNilA, lookA, bndA, depA, depV, depM, depS, cellAt, elemAt, initA, Nat.reduceAdd, Nat.reduceLeDiff, Nat.reduceEqDiff, reduceIte, reduceCtorEq, Nat.reduceLT, Nat.reduceMul, Nat.reduceSub, Int.reduceAdd, Int.reduceSub, Int.reduceMul, Int.reduceLT, Int.reduceLE, Int.reduceEq, Int.reduceNe, Int.reduceNeg, Int.reduceToNat, s_objs n21, s_objs n21.symm]
  refine (cloneS_ok S s hS hl).use ?_
  simp only [runs, e_onS, AH.set_same, AH.set_set, List.map_cons, List.map_nil, List.length_cons, List.length_nil, List.drop_zero, List.drop_succ_cons, List.take_succ_cons, List.take_zero, List.take_nil, List.nil_append, List.cons_append, List.append_nil, List.all_cons, List.all_nil, Nat.zero_add, Nat.add_zero, ite_true, ite_false, if_true, if_false, ne_eq, not_false_eq_true, not_true_eq_false, and_true, true_and, and_self, Bool.and_true, Bool.true_and, Bool.not_true, Bool.not_false, List.getElem?_cons_zero, List.getElem?_cons_succ, Option.isSome_some, beq_self_eq_true, implies_true, forall_const, Nat.le_refl, Option.some.injEq, Option.getD_some, Option.getD_none, List.getElem?_nil, e_Lpn, e_Lpe, e_Lpr, decide_true, decide_false, Int.natCast_nonneg, Int.toNat_natCast, Int.toNat_zero, lt_irr, imp_self, false_implies, big_eq, pevA, takeA, putA, fillA, chunkA, zerosL, binA, binI, binS, isNilA, lookA, bndA, depA, depV, depM, depS, cellAt, elemAt, initA, Nat.reduceAdd, Nat.reduceLeDiff, Nat.reduceEqDiff, reduceIte, reduceCtorEq, Nat.reduceLT, Nat.reduceMul, Nat.reduceSub, Int.reduceAdd, Int.reduceSub, Int.reduceMul, Int.reduceLT, Int.reduceLE, Int.reduceEq, Int.reduceNe, Int.reduceNeg, Int.reduceToNat, s_objs n21, s_objs n21.symm, hk1, n1, n2, n3]
  refine aloop (α := Unit) (fun _ fr h1 => fr 1 = .ptr b1 0 ∧ fr 2 = .ptr b2 0 ∧ fr 14 = .int .i64 0 ∧ fr 15 = .int .i64 0 ∧ h1.objs b1 = some (.cells [.str nm, .str [97], supN S, .lst 0 [] .nil, .lst 0 [] .nil, .int .i64 0] 32) ∧ h1.objs b2 = some (.cells [.str [], .str [], .lst 0 [] .nil, .lst 0 [] .nil, .lst 0 [] .nil, .int .i64 0] 32) ∧ h.le (h1.del b2)) (fun _ => 0) () ?_ ?_
  · refine ⟨rfl, rfl, rfl, rfl, AH.set_same _ _ _, ?_, ?_⟩
    · rw [AH.set_ne _ _ n21, AH.set_same]
    · exact le_del (le_set (le_set (le_set (AH.le_refl _) hb1) hb2) hb1) hb2
  · rintro _ fr h1 ⟨f1, f2, f14, f15, o1, o2, hle⟩
    simp only [u_C l20_1.eq_1, runs, e_onS, AH.set_same, AH.set_set, List.map_cons, List.map_nil, List.length_cons, List.length_nil, List.drop_zero, List.drop_succ_cons, List.take_succ_cons, List.take_zero, List.take_nil, List.nil_append, List.cons_append, List.append_nil, List.all_cons, List.all_nil, Nat.zero_add, Nat.add_zero, ite_true, ite_false, if_true, if_false, ne_eq, not_false_eq_true, not_true_eq_false, and_true, true_and, and_self, Bool.and_true, Bool.true_and, Bool.not_true, Bool.not_false, List.getElem?_cons_zero, List.getElem?_cons_succ, Option.isSome_some, beq_self_eq_true, implies_true, forall_const, Nat.le_refl, Option.some.injEq, Option.getD_some, Option.getD_none, List.getElem?_nil, e_Lpn, e_Lpe, e_Lpr, decide_true, decide_false, Int.natCast_nonneg, Int.toNat_natCast, Int.toNat_zero, lt_irr, imp_self, false_implies, big_eq, pevA, takeA, putA, fillA, chunkA, zerosL, binA, binI, binS, isNilA, lookA, bndA, depA, depV, depM, depS, cellAt, elemAt, initA, Nat.reduceAdd, Nat.reduceLeDiff, Nat.reduceEqDiff, reduceIte, reduceCtorEq, Nat.reduceLT, Nat.reduceMul, Nat.reduceSub, Int.reduceAdd, Int.reduceSub, Int.reduceMul, Int.reduceLT, Int.reduceLE, Int.reduceEq, Int.reduceNe, Int.reduceNeg, Int.reduceToNat, f1, f14, f15, f2, o1, o2]
    refine binds0_ok.use ?_
    simp only [runs, e_onS, AH.set_same, AH.set_set, List.map_cons, List.map_nil, List.length_cons, List.length_nil, List.drop_zero, List.drop_succ_cons, List.take_succ_cons, List.take_zero, List.take_nil, List.nil_append, List.cons_append, List.append_nil, List.all_cons, List.all_nil, Nat.zero_add, Nat.add_zero, ite_true, ite_false, if_true, if_false, ne_eq, not_false_eq_true, not_true_eq_false, and_true, true_and, and_self, Bool.and_true, Bool.true_and, Bool.not_true, Bool.not_false, List.getElem?_cons_zero, List.getElem?_cons_succ, Option.isSome_some, beq_self_eq_true, implies_true, forall_const, Nat.le_refl, Option.some.injEq, Option.getD_some, Option.getD_none, List.getElem?_nil, e_Lpn, e_Lpe, e_Lpr, decide_true, decide_false, Int.natCast_nonneg, Int.toNat_natCast, Int.toNat_zero, lt_irr, imp_self, false_implies, big_eq, pevA, takeA, putA, fillA, chunkA, zerosL, binA, binI, binS, isNilA, lookA, bndA, depA, depV, depM, depS, cellAt, elemAt, initA, Nat.reduceAdd, Nat.reduceLeDiff, Nat.reduceEqDiff, reduceIte, reduceCtorEq, Nat.reduceLT, Nat.reduceMul, Nat.reduceSub, Int.reduceAdd, Int.reduceSub, Int.reduceMul, Int.reduceLT, Int.reduceLE, Int.reduceEq, Int.reduceNe, Int.reduceNeg, Int.reduceToNat, f1, f14, f15, f2, o1, o2, hk1, hk2, s_objs n21, s_objs n21.symm, n1, n2, n3]
    refine ⟨.refl _, ?_⟩
    rw [del_set n21.symm]
    exact le_set hle hb1
end Go.Proofs.YtfagmflapdgcmaaDoor.p

namespace Go.Proofs.YtfagmflapdgcmaaDoor.p
open Go.Proofs Go Go.Cn code
set_option linter.unusedSimpArgs false
set_option linter.unusedVariables false

abbrev Nm := List UInt8
abbrev Cl := List (Nm × List Nm)
def elsC (c : Cl) : List (List AV) := c.map fun p => clsC p.1 (supN p.2)
def byN : Nat → Cl → List (AV × AV)
  | _, [] => []
  | i, p :: l => (.str p.1, .int .i64 (i : Nat)) :: byN (i + 1) l
def lkN : Nat → Cl → Nm → Option (Nat × List Nm)
  | _, [], _ => none
  | i, p :: l, n => if n = p.1 then some (i, p.2) else lkN (i + 1) l n
def gr (c : Cl) (n : Nm) : List Nm := match lkN 0 c n with | some x => x.2 | none => []
theorem look_by (n : Nm) : ∀ (i : Nat) (c : Cl), lookA (.str n) (byN i c) = some ((lkN i c n).map fun x => .int .i64 (x.1 : Nat))
  | _, [] => rfl
  | i, p :: l => by
    show (match keyEqA (.str n) (.str p.1) with | some true => _ | some false => _ | none => _) = _
    simp only [keyEqA, lkN]
    by_cases e : n = p.1
    · simp [e]
    · simp only [e, decide_false, if_false]; exact look_by n (i + 1) l
theorem lkN_get (n : Nm) : ∀ (i : Nat) (c : Cl) (j : Nat) (S : List Nm), lkN i c n = some (j, S) → i ≤ j ∧ c[j - i]? = some (n, S)
  | _, [], j, S, h => by cases h
  | i, p :: l, j, S, h => by
    simp only [lkN] at h
    split at h
    · rename_i e; cases h; exact ⟨Nat.le_refl _, by simp [e]⟩
    · obtain ⟨h1, h2⟩ := lkN_get n (i + 1) l j S h
      refine ⟨by omega, ?_⟩
      rw [show j - i = (j - (i + 1)) + 1 by omega]
      simpa using h2

/-- what is known of an environment -/
structure EnvA (h : AH) (be : Nat) (mv m2v : AV) (E : TypeId) (tg : Tag) (c : Cl) : Prop where
  o : h.objs be = some (.cells [.lst E (elsC c) tg, mv, m2v] 41)
  m : entA h mv = some (byN 0 c)
theorem ent_set {h : AH} {b : Nat} {o : AO} {mv : AV} {es : List (AV × AV)} (hb : h.objs b = none) (hm : entA h mv = some es) : entA (h.set b o) mv = some es := by
  cases mv with
  | map m =>
    rw [en_m] at hm ⊢
    have hne : m ≠ b := by rintro rfl; rw [hb] at hm; cases hm
    rw [AH.set_ne _ _ hne]
    exact hm
  | nilm => exact hm
  | fmap es => exact hm
  | _ => cases hm
theorem EnvA.set {h : AH} {be : Nat} {mv m2v : AV} {E : TypeId} {tg : Tag} {c : Cl} (he : EnvA h be mv m2v E tg c) {b : Nat} {o : AO} (hb : h.objs b = none) : EnvA (h.set b o) be mv m2v E tg c :=
  ⟨by rw [AH.set_ne _ _ (by rintro rfl; rw [he.o] at hb; cases hb)]; exact he.o, ent_set hb he.m⟩
theorem EnvA.tk {h : AH} {be : Nat} {mv m2v : AV} {E : TypeId} {tg : Tag} {c : Cl} (he : EnvA h be mv m2v E tg c) (t : Nat → Option Tok) : EnvA (h.tk t) be mv m2v E tg c := ⟨he.o, he.m⟩

theorem supers_ok (c : Cl) (hl : ∀ p ∈ c, p.2.length ≤ 1000) {h : AH} {be : Nat} {mv m2v : AV} {E : TypeId} {tg : Tag} (he : EnvA h be mv m2v E tg c) (n : Nm) (K : Nat → Prop) : ACall T K (.func 38) [.ptr be 0, .str n] h fun v h' => v = supN (gr c n) ∧ h' = h := by
  refine ACall.ret t38 fun hK => ?_
  simp only [u_C c38.eq_1, runs, e_onS, AH.set_same, AH.set_set, List.map_cons, List.map_nil, List.length_cons, List.length_nil, List.drop_zero, List.drop_succ_cons, List.take_succ_cons, List.take_zero, List.take_nil, List.nil_append, List.cons_append, List.append_nil, List.all_cons, List.all_nil, Nat.zero_add, Nat.add_zero, ite_true, ite_false, if_true, if_false, ne_eq, not_false_eq_true, not_true_eq_false, and_true, true_and, and_self, Bool.and_true, Bool.true_and, Bool.not_true, Bool.not_false, List.getElem?_cons_zero, List.getElem?_cons_succ, Option.isSome_some, beq_self_eq_true, implies_true, forall_const, Nat.le_refl, Option.some.injEq, Option.getD_some, Option.getD_none, List.getElem?_nil, e_Lpn, e_Lpe, e_Lpr, decide_true, decide_false, Int.natCast_nonneg, Int.toNat_natCast, Int.toNat_zero, lt_irr, imp_self, false_implies, big_eq, pevA, takeA, putA, fillA, chunkA, zerosL, binA, binI, binS, isNilA, lookA, bndA, depA, depV, depM, depS, cellAt, elemAt, initA, Nat.reduceAdd, Nat.reduceLeDiff, Nat.reduceEqDiff, reduceIte, reduceCtorEq, Nat.reduceLT, Nat.reduceMul, Nat.reduceSub, Int.reduceAdd, Int.reduceSub, Int.reduceMul, Int.reduceLT, Int.reduceLE, Int.reduceEq, Int.reduceNe, Int.reduceNeg, Int.reduceToNat, he.o, he.m, look_by]
  unfold gr
  cases e : lkN 0 c n with
  | none =>
    simp only [Option.map_none, runs, e_onS, AH.set_same, AH.set_set, List.map_cons, List.map_nil, List.length_cons, List.length_nil, List.drop_zero, List.drop_succ_cons, List.take_succ_cons, List.take_zero, List.take_nil, List.nil_append, List.cons_append, List.append_nil, List.all_cons, List.all_nil, Nat.zero_add, Nat.add_zero, ite_true, ite_false, if_true, if_false, ne_eq, not_false_eq_true, not_true_eq_false, and_true, true_and, and_self, Bool.and_true, Bool.true_and, Bool.not_true, Bool.not_false, List.getElem?_cons_zero, List.getElem?_cons_succ, Option.isSome_some, beq_self_eq_true, implies_true, forall_const, Nat.le_refl, Option.some.injEq, Option.getD_some, Option.getD_none, List.getElem?_nil, e_Lpn, e_Lpe, e_Lpr, decide_true, decide_false, Int.natCast_nonneg, Int.toNat_natCast, Int.toNat_zero, lt_irr, imp_self, false_implies, big_eq, pevA, takeA, putA, fillA, chunkA, zerosL, binA, binI, binS, isNilA, lookA, bndA, depA, depV, depM, depS, cellAt, elemAt, initA, Nat.reduceAdd, Nat.reduceLeDiff, Nat.reduceEqDiff, reduceIte, reduceCtorEq, Nat.reduceLT, Nat.reduceMul, Nat.reduceSub, Int.reduceAdd, Int.reduceSub, Int.reduceMul, Int.reduceLT, Int.reduceLE, Int.reduceEq, Int.reduceNe, Int.reduceNeg, Int.reduceToNat]
    exact ⟨.refl _, AH.le_refl _⟩
  | some x =>
    obtain ⟨j, S⟩ := x
    obtain ⟨_, hj⟩ := lkN_get n 0 c j S e
    rw [Nat.sub_zero] at hj
    have hel : (elsC c)[j]? = some (clsC n (supN S)) := by rw [elsC, List.getElem?_map, hj]; rfl
    have hlen : (clsC n (supN S)).length = 6 := rfl
    have hne : clsC n (supN S) ≠ [] := by simp [clsC]
    have hd : (clsC n (supN S)).drop 2 = [supN S, .lst 0 [] .nil, .lst 0 [] .nil, .int .i64 0] := rfl
    simp only [Option.map_some, runs, e_onS, AH.set_same, AH.set_set, List.map_cons, List.map_nil, List.length_cons, List.length_nil, List.drop_zero, List.drop_succ_cons, List.take_succ_cons, List.take_zero, List.take_nil, List.nil_append, List.cons_append, List.append_nil, List.all_cons, List.all_nil, Nat.zero_add, Nat.add_zero, ite_true, ite_false, if_true, if_false, ne_eq, not_false_eq_true, not_true_eq_false, and_true, true_and, and_self, Bool.and_true, Bool.true_and, Bool.not_true, Bool.not_false, List.getElem?_cons_zero, List.getElem?_cons_succ, Option.isSome_some, beq_self_eq_true, implies_true, forall_const, Nat.le_refl, Option.some.injEq, Option.getD_some, Option.getD_none, List.getElem?_nil, e_Lpn, e_Lpe, e_Lpr, decide_true, decide_false, Int.natCast_nonneg, Int.toNat_natCast, Int.toNat_zero, lt_irr, imp_self, false_implies, big_eq, pevA, takeA, putA, fillA, chunkA, zerosL, binA, binI, binS, isNilA, lookA, bndA, depA, depV, depM, depS, cellAt, elemAt, initA, Nat.reduceAdd, Nat.reduceLeDiff, Nat.reduceEqDiff, reduceIte, reduceCtorEq, Nat.reduceLT, Nat.reduceMul, Nat.reduceSub, Int.reduceAdd, Int.reduceSub, Int.reduceMul, Int.reduceLT, Int.reduceLE, Int.reduceEq, Int.reduceNe, Int.reduceNeg, Int.reduceToNat, he.o, he.m, hel, hlen, hne, hd]
    refine (cloneS_ok S _ (supN_v S) (hl _ (List.mem_of_getElem? hj))).use ?_
    simp only [runs, e_onS, AH.set_same, AH.set_set, List.map_cons, List.map_nil, List.length_cons, List.length_nil, List.drop_zero, List.drop_succ_cons, List.take_succ_cons, List.take_zero, List.take_nil, List.nil_append, List.cons_append, List.append_nil, List.all_cons, List.all_nil, Nat.zero_add, Nat.add_zero, ite_true, ite_false, if_true, if_false, ne_eq, not_false_eq_true, not_true_eq_false, and_true, true_and, and_self, Bool.and_true, Bool.true_and, Bool.not_true, Bool.not_false, List.getElem?_cons_zero, List.getElem?_cons_succ, Option.isSome_some, beq_self_eq_true, implies_true, forall_const, Nat.le_refl, Option.some.injEq, Option.getD_some, Option.getD_none, List.getElem?_nil, e_Lpn, e_Lpe, e_Lpr, decide_true, decide_false, Int.natCast_nonneg, Int.toNat_natCast, Int.toNat_zero, lt_irr, imp_self, false_implies, big_eq, pevA, takeA, putA, fillA, chunkA, zerosL, binA, binI, binS, isNilA, lookA, bndA, depA, depV, depM, depS, cellAt, elemAt, initA, Nat.reduceAdd, Nat.reduceLeDiff, Nat.reduceEqDiff, reduceIte, reduceCtorEq, Nat.reduceLT, Nat.reduceMul, Nat.reduceSub, Int.reduceAdd, Int.reduceSub, Int.reduceMul, Int.reduceLT, Int.reduceLE, Int.reduceEq, Int.reduceNe, Int.reduceNeg, Int.reduceToNat]
    exact ⟨.refl _, AH.le_refl _⟩

-- what is above, in plain words
def stp (f : Nm → List Nm → List Nm) (o : List Nm) (s : Nm) : List Nm := if s ∈ o then o else f s (o ++ [s])
def abF (g : Nm → List Nm) : Nat → Nm → List Nm → List Nm
  | 0, _, out => out
  | n + 1, nm, out => (g nm).foldl (stp (abF g n)) out
theorem nodup_len : ∀ {l U : List Nm}, l.Nodup → (∀ x ∈ l, x ∈ U) → l.length ≤ U.length
  | [], U, _, _ => Nat.zero_le _
  | a :: l, U, h, hs => by
    obtain ⟨h1, h2⟩ := List.nodup_cons.1 h
    have ha := hs a (by simp)
    have := nodup_len (l := l) (U := U.erase a) h2 fun x hx => by
      have hne : x ≠ a := by rintro rfl; exact h1 hx
      exact (List.mem_erase_of_ne hne).2 (hs x (by simp [hx]))
    rw [List.length_erase_of_mem ha] at this
    have hp : 0 < U.length := List.length_pos_of_mem ha
    simp only [List.length_cons]
    omega
structure Inv (U out o : List Nm) : Prop where
  nd : o.Nodup
  sub : ∀ x ∈ o, x ∈ U
  len : out.length ≤ o.length
theorem stp_inv {U : List Nm} {f : Nm → List Nm → List Nm} (hf : ∀ s o, o.Nodup → (∀ x ∈ o, x ∈ U) → Inv U o (f s o)) {out o : List Nm} (h : Inv U out o) {s : Nm} (hs : s ∈ U) : Inv U out (stp f o s) := by
  unfold stp
  split
  · exact h
  · rename_i hn
    have h1 := hf s (o ++ [s]) (List.nodup_append.2 ⟨h.nd, by simp, fun a ha b hb => by simp at hb; subst hb; rintro rfl; exact hn ha⟩) fun x hx => by
      rcases List.mem_append.1 hx with hx | hx
      · exact h.sub x hx
      · simp at hx; rw [hx]; exact hs
    exact ⟨h1.nd, h1.sub, by have := h1.len; have := h.len; simp at *; omega⟩
theorem fold_inv {U : List Nm} {f : Nm → List Nm → List Nm} (hf : ∀ s o, o.Nodup → (∀ x ∈ o, x ∈ U) → Inv U o (f s o)) : ∀ (S : List Nm) {out o : List Nm}, Inv U out o → (∀ s ∈ S, s ∈ U) → Inv U out (S.foldl (stp f) o)
  | [], out, o, h, _ => h
  | s :: S, out, o, h, hs => fold_inv hf S (stp_inv hf h (hs s (by simp))) fun x hx => hs x (by simp [hx])
theorem abF_inv {g : Nm → List Nm} {U : List Nm} (hg : ∀ n, ∀ s ∈ g n, s ∈ U) : ∀ (n : Nat) (nm : Nm) (out : List Nm), out.Nodup → (∀ x ∈ out, x ∈ U) → Inv U out (abF g n nm out)
  | 0, nm, out, h1, h2 => ⟨h1, h2, Nat.le_refl _⟩
  | n + 1, nm, out, h1, h2 => fold_inv (fun s o => abF_inv hg n s o) _ ⟨h1, h2, Nat.le_refl _⟩ (hg nm)
end Go.Proofs.YtfagmflapdgcmaaDoor.p

namespace Go.Proofs.YtfagmflapdgcmaaDoor.p
open Go.Proofs Go Go.Cn code
set_option linter.unusedSimpArgs false
set_option linter.unusedVariables false

theorem above_ok (c : Cl) (U : List Nm) (hU8 : U.length ≤ 100) (hU : ∀ n, ∀ s ∈ gr c n, s ∈ U) (hl : ∀ p ∈ c, p.2.length ≤ 1000) (be : Nat) (mv m2v : AV) (E : TypeId) (tg : Tag) : ∀ (n : Nat) (K : Nat → Prop) (h : AH) (nm : Nm) (out : List Nm) (E' : TypeId) (tag : Tag) (t0 : Nat → Option Tok),
    EnvA h be mv m2v E tg c → out.Nodup → (∀ x ∈ out, x ∈ U) → U.length < out.length + n → Toks t0 h.toks [(tag, 9, 1, 0)] → (strC out ≠ [] → E' = 9) →
    ACall T K (.func 22) [.ptr be 0, .str nm, .lst E' (strC out) tag] h fun v h' => ∃ E'' tag' t', v = .lst E'' (strC (abF (gr c) n nm out)) tag' ∧ (strC (abF (gr c) n nm out) ≠ [] → E'' = 9) ∧ Toks t0 t' [(tag', 9, 1, 0)] ∧ h' = h.tk t'
  | 0, K, h, nm, out, E', tag, t0, he, hnd, hsub, hlt, hT, hE => by
    have := nodup_len hnd hsub
    omega
  | n + 1, K, h, nm, out, E', tag, t0, he, hnd, hsub, hlt, hT, hE => by
    refine ACall.retQ t22 fun hK => ?_
    simp only [u_C c22.eq_1, runs, e_onS, AH.set_same, AH.set_set, List.map_cons, List.map_nil, List.length_cons, List.length_nil, List.drop_zero, List.drop_succ_cons, List.take_succ_cons, List.take_zero, List.take_nil, List.nil_append, List.cons_append, List.append_nil, List.all_cons, List.all_nil, Nat.zero_add, Nat.add_zero, ite_true, ite_false, if_true, if_false, ne_eq, not_false_eq_true, not_true_eq_false, and_true, true_and, and_self, Bool.and_true, Bool.true_and, Bool.not_true, Bool.not_false, List.getElem?_cons_zero, List.getElem?_cons_succ, Option.isSome_some, beq_self_eq_true, implies_true, forall_const, Nat.le_refl, Option.some.injEq, Option.getD_some, Option.getD_none, List.getElem?_nil, e_Lpn, e_Lpe, e_Lpr, decide_true, decide_false, Int.natCast_nonneg, Int.toNat_natCast, Int.toNat_zero, lt_irr, imp_self, false_implies, big_eq, pevA, takeA, putA, fillA, chunkA, zerosL, binA, binI, binS, isNilA, lookA, bndA, depA, depV, depM, depS, cellAt, elemAt, initA, Nat.reduceAdd, Nat.reduceLeDiff, Nat.reduceEqDiff, reduceIte, reduceCtorEq, Nat.reduceLT, Nat.reduceMul, Nat.reduceSub, Int.reduceAdd, Int.reduceSub, Int.reduceMul, Int.reduceLT, Int.reduceLE, Int.reduceEq, Int.reduceNe, Int.reduceNeg, Int.reduceToNat]
    refine (supers_ok c hl he nm K).mono ?_
    rintro _ h ⟨rfl, rfl⟩
    have hSl : (gr c nm).length ≤ 1000 := by
      unfold gr
      cases e : lkN 0 c nm with
      | none => simp
      | some x =>
        obtain ⟨j, S⟩ := x
        obtain ⟨_, hj⟩ := lkN_get nm 0 c j S e
        exact hl _ (List.mem_of_getElem? hj)
    have hgU := hU nm
    have habs : abF (gr c) (n + 1) nm out = (gr c nm).foldl (stp (abF (gr c) n)) out := rfl
    rw [habs]
    obtain ⟨E1, t1, e1⟩ := (supN_v (gr c nm)).lst
    rw [e1]
    clear e1 habs
    generalize gr c nm = S at hSl hgU ⊢
    simp only [runs, e_onS, AH.set_same, AH.set_set, List.map_cons, List.map_nil, List.length_cons, List.length_nil, List.drop_zero, List.drop_succ_cons, List.take_succ_cons, List.take_zero, List.take_nil, List.nil_append, List.cons_append, List.append_nil, List.all_cons, List.all_nil, Nat.zero_add, Nat.add_zero, ite_true, ite_false, if_true, if_false, ne_eq, not_false_eq_true, not_true_eq_false, and_true, true_and, and_self, Bool.and_true, Bool.true_and, Bool.not_true, Bool.not_false, List.getElem?_cons_zero, List.getElem?_cons_succ, Option.isSome_some, beq_self_eq_true, implies_true, forall_const, Nat.le_refl, Option.some.injEq, Option.getD_some, Option.getD_none, List.getElem?_nil, e_Lpn, e_Lpe, e_Lpr, decide_true, decide_false, Int.natCast_nonneg, Int.toNat_natCast, Int.toNat_zero, lt_irr, imp_self, false_implies, big_eq, pevA, takeA, putA, fillA, chunkA, zerosL, binA, binI, binS, isNilA, lookA, bndA, depA, depV, depM, depS, cellAt, elemAt, initA, Nat.reduceAdd, Nat.reduceLeDiff, Nat.reduceEqDiff, reduceIte, reduceCtorEq, Nat.reduceLT, Nat.reduceMul, Nat.reduceSub, Int.reduceAdd, Int.reduceSub, Int.reduceMul, Int.reduceLT, Int.reduceLE, Int.reduceEq, Int.reduceNe, Int.reduceNeg, Int.reduceToNat, strC_len]
    refine aloop (α := Nat) (fun i fr h1 => fr 0 = .ptr be 0 ∧ fr 11 = .lst E1 (strC S) t1 ∧ fr 12 = .int .i64 S.length ∧ fr 13 = .int .i64 i ∧ i ≤ S.length ∧ Inv U out ((S.take i).foldl (stp (abF (gr c) n)) out) ∧
      ∃ Eo tag' t', fr 2 = .lst Eo (strC ((S.take i).foldl (stp (abF (gr c) n)) out)) tag' ∧ (strC ((S.take i).foldl (stp (abF (gr c) n)) out) ≠ [] → Eo = 9) ∧ Toks t0 t' [(tag', 9, 1, 0)] ∧ h1 = h.tk t') (fun i => S.length - i) 0 ?_ ?_
    · exact ⟨rfl, rfl, rfl, rfl, Nat.zero_le _, ⟨hnd, hsub, Nat.le_refl _⟩, E', tag, h.toks, rfl, hE, hT, rfl⟩
    · rintro i fr h1 ⟨f0, f11, f12, f13, hi, hI, Eo, tag', t', f2, hEo, hT', rfl⟩
      by_cases hlt2 : i < S.length
      · have c1 : decide ((i : Int) < (S.length : Int)) = true := decide_eq_true (by omega)
        obtain ⟨a, ha⟩ : ∃ a, S[i]? = some a := ⟨S[i], by simp [hlt2]⟩
        have hget : (strC S)[i]? = some [.str a] := by rw [strC_get, ha]; rfl
        have haU := hgU a (List.mem_of_getElem? ha)
        have hstep : (S.take (i + 1)).foldl (stp (abF (gr c) n)) out = stp (abF (gr c) n) ((S.take i).foldl (stp (abF (gr c) n)) out) a := by
          rw [List.take_add_one, ha, List.foldl_append]; rfl
        have hI' := stp_inv (fun s o => abF_inv hU n s o) hI haU
        rw [← hstep] at hI'
        have w : IntKind.i64.wrap ((i : Int) + 1) = ((i + 1 : Nat) : Int) := by rw [wrap64 ⟨by omega, by omega⟩]; rfl
        simp only [u_C l22_0.eq_1, runs, e_onS, AH.set_same, AH.set_set, List.map_cons, List.map_nil, List.length_cons, List.length_nil, List.drop_zero, List.drop_succ_cons, List.take_succ_cons, List.take_zero, List.take_nil, List.nil_append, List.cons_append, List.append_nil, List.all_cons, List.all_nil, Nat.zero_add, Nat.add_zero, ite_true, ite_false, if_true, if_false, ne_eq, not_false_eq_true, not_true_eq_false, and_true, true_and, and_self, Bool.and_true, Bool.true_and, Bool.not_true, Bool.not_false, List.getElem?_cons_zero, List.getElem?_cons_succ, Option.isSome_some, beq_self_eq_true, implies_true, forall_const, Nat.le_refl, Option.some.injEq, Option.getD_some, Option.getD_none, List.getElem?_nil, e_Lpn, e_Lpe, e_Lpr, decide_true, decide_false, Int.natCast_nonneg, Int.toNat_natCast, Int.toNat_zero, lt_irr, imp_self, false_implies, big_eq, pevA, takeA, putA, fillA, chunkA, zerosL, binA, binI, binS, isNilA, lookA, bndA, depA, depV, depM, depS, cellAt, elemAt, initA, Nat.reduceAdd, Nat.reduceLeDiff, Nat.reduceEqDiff, reduceIte, reduceCtorEq, Nat.reduceLT, Nat.reduceMul, Nat.reduceSub, Int.reduceAdd, Int.reduceSub, Int.reduceMul, Int.reduceLT, Int.reduceLE, Int.reduceEq, Int.reduceNe, Int.reduceNeg, Int.reduceToNat, f0, f2, f11, f12, f13, c1, hget]
        generalize ho : (S.take i).foldl (stp (abF (gr c) n)) out = o at hI f2 hEo hstep ⊢
        refine (contains_ok _ _ _ _).use ?_
        by_cases hm : a ∈ o
        · have hs2 : (S.take (i + 1)).foldl (stp (abF (gr c) n)) out = o := by rw [hstep]; unfold stp; rw [if_pos hm]
          simp only [runs, e_onS, AH.set_same, AH.set_set, List.map_cons, List.map_nil, List.length_cons, List.length_nil, List.drop_zero, List.drop_succ_cons, List.take_succ_cons, List.take_zero, List.take_nil, List.nil_append, List.cons_append, List.append_nil, List.all_cons, List.all_nil, Nat.zero_add, Nat.add_zero, ite_true, ite_false, if_true, if_false, ne_eq, not_false_eq_true, not_true_eq_false, and_true, true_and, and_self, Bool.and_true, Bool.true_and, Bool.not_true, Bool.not_false, List.getElem?_cons_zero, List.getElem?_cons_succ, Option.isSome_some, beq_self_eq_true, implies_true, forall_const, Nat.le_refl, Option.some.injEq, Option.getD_some, Option.getD_none, List.getElem?_nil, e_Lpn, e_Lpe, e_Lpr, decide_true, decide_false, Int.natCast_nonneg, Int.toNat_natCast, Int.toNat_zero, lt_irr, imp_self, false_implies, big_eq, pevA, takeA, putA, fillA, chunkA, zerosL, binA, binI, binS, isNilA, lookA, bndA, depA, depV, depM, depS, cellAt, elemAt, initA, Nat.reduceAdd, Nat.reduceLeDiff, Nat.reduceEqDiff, reduceIte, reduceCtorEq, Nat.reduceLT, Nat.reduceMul, Nat.reduceSub, Int.reduceAdd, Int.reduceSub, Int.reduceMul, Int.reduceLT, Int.reduceLE, Int.reduceEq, Int.reduceNe, Int.reduceNeg, Int.reduceToNat, hm, f13, w]
          refine ⟨i + 1, by show S.length - (i + 1) < S.length - i; omega, f0, f11, f12, rfl, hlt2, hI', Eo, tag', t', ?_, ?_, hT', rfl⟩
          · rw [hs2]; exact f2
          · rw [hs2]; exact hEo
        · have hs2 : (S.take (i + 1)).foldl (stp (abF (gr c) n)) out = abF (gr c) n a (o ++ [a]) := by rw [hstep]; unfold stp; rw [if_neg hm]
          have hol : o.length ≤ 100 := Nat.le_trans (nodup_len hI.nd hI.sub) hU8
          have hnd' : (o ++ [a]).Nodup := List.nodup_append.2 ⟨hI.nd, by simp, fun x hx y hy => by simp at hy; subst hy; rintro rfl; exact hm hx⟩
          have hsub' : ∀ x ∈ o ++ [a], x ∈ U := fun x hx => by
            rcases List.mem_append.1 hx with hx | hx
            · exact hI.sub x hx
            · simp at hx; rw [hx]; exact haU
          simp only [runs, e_onS, AH.set_same, AH.set_set, List.map_cons, List.map_nil, List.length_cons, List.length_nil, List.drop_zero, List.drop_succ_cons, List.take_succ_cons, List.take_zero, List.take_nil, List.nil_append, List.cons_append, List.append_nil, List.all_cons, List.all_nil, Nat.zero_add, Nat.add_zero, ite_true, ite_false, if_true, if_false, ne_eq, not_false_eq_true, not_true_eq_false, and_true, true_and, and_self, Bool.and_true, Bool.true_and, Bool.not_true, Bool.not_false, List.getElem?_cons_zero, List.getElem?_cons_succ, Option.isSome_some, beq_self_eq_true, implies_true, forall_const, Nat.le_refl, Option.some.injEq, Option.getD_some, Option.getD_none, List.getElem?_nil, e_Lpn, e_Lpe, e_Lpr, decide_true, decide_false, Int.natCast_nonneg, Int.toNat_natCast, Int.toNat_zero, lt_irr, imp_self, false_implies, big_eq, pevA, takeA, putA, fillA, chunkA, zerosL, binA, binI, binS, isNilA, lookA, bndA, depA, depV, depM, depS, cellAt, elemAt, initA, Nat.reduceAdd, Nat.reduceLeDiff, Nat.reduceEqDiff, reduceIte, reduceCtorEq, Nat.reduceLT, Nat.reduceMul, Nat.reduceSub, Int.reduceAdd, Int.reduceSub, Int.reduceMul, Int.reduceLT, Int.reduceLE, Int.reduceEq, Int.reduceNe, Int.reduceNeg, Int.reduceToNat, f0, f2, f11, f12, f13, hm]
          refine WO.append (i := 0) hT' rfl rfl rfl trivial (by decide) (by simp) rfl (.inr rfl) (fun _ => ?_) ?_ fun tag2 t2 hT2 => ?_
          · simp [capOk, strC_len]; omega
          · simp [big_eq, strC_len]; omega
          have hap : strC o ++ [[AV.str a]] = strC (o ++ [a]) := by rw [strC_app]; rfl
          rw [hap]
          simp only [runs, e_onS, AH.set_same, AH.set_set, List.map_cons, List.map_nil, List.length_cons, List.length_nil, List.drop_zero, List.drop_succ_cons, List.take_succ_cons, List.take_zero, List.take_nil, List.nil_append, List.cons_append, List.append_nil, List.all_cons, List.all_nil, Nat.zero_add, Nat.add_zero, ite_true, ite_false, if_true, if_false, ne_eq, not_false_eq_true, not_true_eq_false, and_true, true_and, and_self, Bool.and_true, Bool.true_and, Bool.not_true, Bool.not_false, List.getElem?_cons_zero, List.getElem?_cons_succ, Option.isSome_some, beq_self_eq_true, implies_true, forall_const, Nat.le_refl, Option.some.injEq, Option.getD_some, Option.getD_none, List.getElem?_nil, e_Lpn, e_Lpe, e_Lpr, decide_true, decide_false, Int.natCast_nonneg, Int.toNat_natCast, Int.toNat_zero, lt_irr, imp_self, false_implies, big_eq, pevA, takeA, putA, fillA, chunkA, zerosL, binA, binI, binS, isNilA, lookA, bndA, depA, depV, depM, depS, cellAt, elemAt, initA, Nat.reduceAdd, Nat.reduceLeDiff, Nat.reduceEqDiff, reduceIte, reduceCtorEq, Nat.reduceLT, Nat.reduceMul, Nat.reduceSub, Int.reduceAdd, Int.reduceSub, Int.reduceMul, Int.reduceLT, Int.reduceLE, Int.reduceEq, Int.reduceNe, Int.reduceNeg, Int.reduceToNat, f0]
          refine (above_ok c U hU8 hU hl be mv m2v E tg n K _ a (o ++ [a]) 9 tag2 t0 (he.tk _) hnd' hsub' (by have := hI.len; simp; omega) hT2 (fun _ => rfl)).mono ?_
          rintro _ _ ⟨E3, tag3, t3, rfl, hE3, hT3, rfl⟩
          simp only [runs, e_onS, AH.set_same, AH.set_set, List.map_cons, List.map_nil, List.length_cons, List.length_nil, List.drop_zero, List.drop_succ_cons, List.take_succ_cons, List.take_zero, List.take_nil, List.nil_append, List.cons_append, List.append_nil, List.all_cons, List.all_nil, Nat.zero_add, Nat.add_zero, ite_true, ite_false, if_true, if_false, ne_eq, not_false_eq_true, not_true_eq_false, and_true, true_and, and_self, Bool.and_true, Bool.true_and, Bool.not_true, Bool.not_false, List.getElem?_cons_zero, List.getElem?_cons_succ, Option.isSome_some, beq_self_eq_true, implies_true, forall_const, Nat.le_refl, Option.some.injEq, Option.getD_some, Option.getD_none, List.getElem?_nil, e_Lpn, e_Lpe, e_Lpr, decide_true, decide_false, Int.natCast_nonneg, Int.toNat_natCast, Int.toNat_zero, lt_irr, imp_self, false_implies, big_eq, pevA, takeA, putA, fillA, chunkA, zerosL, binA, binI, binS, isNilA, lookA, bndA, depA, depV, depM, depS, cellAt, elemAt, initA, Nat.reduceAdd, Nat.reduceLeDiff, Nat.reduceEqDiff, reduceIte, reduceCtorEq, Nat.reduceLT, Nat.reduceMul, Nat.reduceSub, Int.reduceAdd, Int.reduceSub, Int.reduceMul, Int.reduceLT, Int.reduceLE, Int.reduceEq, Int.reduceNe, Int.reduceNeg, Int.reduceToNat, f13, w]
          refine ⟨i + 1, by show S.length - (i + 1) < S.length - i; omega, f0, f11, f12, rfl, hlt2, hI', E3, tag3, t3, ?_, ?_, hT3, rfl⟩
          · rw [hs2]; rfl
          · rw [hs2]; exact hE3
      · have hie : i = S.length := by omega
        subst hie
        have c1 : decide ((S.length : Int) < (S.length : Int)) = false := by simp
        rw [List.take_length] at *
        simp only [u_C l22_0.eq_1, runs, e_onS, AH.set_same, AH.set_set, List.map_cons, List.map_nil, List.length_cons, List.length_nil, List.drop_zero, List.drop_succ_cons, List.take_succ_cons, List.take_zero, List.take_nil, List.nil_append, List.cons_append, List.append_nil, List.all_cons, List.all_nil, Nat.zero_add, Nat.add_zero, ite_true, ite_false, if_true, if_false, ne_eq, not_false_eq_true, not_true_eq_false, and_true, true_and, and_self, Bool.and_true, Bool.true_and, Bool.not_true, Bool.not_false, List.getElem?_cons_zero, List.getElem?_cons_succ, Option.isSome_some, beq_self_eq_true, implies_true, forall_const, Nat.le_refl, Option.some.injEq, Option.getD_some, Option.getD_none, List.getElem?_nil, e_Lpn, e_Lpe, e_Lpr, decide_true, decide_false, Int.natCast_nonneg, Int.toNat_natCast, Int.toNat_zero, lt_irr, imp_self, false_implies, big_eq, pevA, takeA, putA, fillA, chunkA, zerosL, binA, binI, binS, isNilA, lookA, bndA, depA, depV, depM, depS, cellAt, elemAt, initA, Nat.reduceAdd, Nat.reduceLeDiff, Nat.reduceEqDiff, reduceIte, reduceCtorEq, Nat.reduceLT, Nat.reduceMul, Nat.reduceSub, Int.reduceAdd, Int.reduceSub, Int.reduceMul, Int.reduceLT, Int.reduceLE, Int.reduceEq, Int.reduceNe, Int.reduceNeg, Int.reduceToNat, f0, f2, f11, f12, f13, c1]
        exact ⟨_, _, .refl _ _, (fun b hb => hK b hb), Eo, tag', t', rfl, hEo, hT', rfl⟩

/-- what is above a name -/
def ab (c : Cl) (U : List Nm) (nm : Nm) : List Nm := abF (gr c) (U.length + 1) nm []
theorem Above_ok (c : Cl) (U : List Nm) (hU8 : U.length ≤ 100) (hU : ∀ n, ∀ s ∈ gr c n, s ∈ U) (hl : ∀ p ∈ c, p.2.length ≤ 1000) {h : AH} {be : Nat} {mv m2v : AV} {E : TypeId} {tg : Tag} (he : EnvA h be mv m2v E tg c) (nm : Nm) (K : Nat → Prop) :
    ACall T K (.func 10) [.ptr be 0, .str nm] h fun v h' => v = .lst 9 (strC (ab c U nm)) .no ∧ h' = h := by
  refine ACall.ret t10 fun hK => ?_
  simp only [u_C c10.eq_1, runs, e_onS, AH.set_same, AH.set_set, List.map_cons, List.map_nil, List.length_cons, List.length_nil, List.drop_zero, List.drop_succ_cons, List.take_succ_cons, List.take_zero, List.take_nil, List.nil_append, List.cons_append, List.append_nil, List.all_cons, List.all_nil, Nat.zero_add, Nat.add_zero, ite_true, ite_false, if_true, if_false, ne_eq, not_false_eq_true, not_true_eq_false, and_true, true_and, and_self, Bool.and_true, Bool.true_and, Bool.not_true, Bool.not_false, List.getElem?_cons_zero, List.getElem?_cons_succ, Option.isSome_some, beq_self_eq_true, implies_true, forall_const, Nat.le_refl, Option.some.injEq, Option.getD_some, Option.getD_none, List.getElem?_nil, e_Lpn, e_Lpe, e_Lpr, decide_true, decide_false, Int.natCast_nonneg, Int.toNat_natCast, Int.toNat_zero, lt_irr, imp_self, false_implies, big_eq, pevA, takeA, putA, fillA, chunkA, zerosL, binA, binI, binS, isNilA, lookA, bndA, depA, depV, depM, depS, cellAt, elemAt, initA, Nat.reduceAdd, Nat.reduceLeDiff, Nat.reduceEqDiff, reduceIte, reduceCtorEq, Nat.reduceLT, Nat.reduceMul, Nat.reduceSub, Int.reduceAdd, Int.reduceSub, Int.reduceMul, Int.reduceLT, Int.reduceLE, Int.reduceEq, Int.reduceNe, Int.reduceNeg, Int.reduceToNat]
  refine (above_ok c U hU8 hU hl be mv m2v E tg (U.length + 1) K h nm [] 0 .nil h.toks he .nil (by simp) (by simp) (.one _ _ _) (fun h => absurd rfl h)).mono ?_
  rintro _ _ ⟨E2, tag2, t2, rfl, hE2, hT2, rfl⟩
  simp only [runs, e_onS, AH.set_same, AH.set_set, List.map_cons, List.map_nil, List.length_cons, List.length_nil, List.drop_zero, List.drop_succ_cons, List.take_succ_cons, List.take_zero, List.take_nil, List.nil_append, List.cons_append, List.append_nil, List.all_cons, List.all_nil, Nat.zero_add, Nat.add_zero, ite_true, ite_false, if_true, if_false, ne_eq, not_false_eq_true, not_true_eq_false, and_true, true_and, and_self, Bool.and_true, Bool.true_and, Bool.not_true, Bool.not_false, List.getElem?_cons_zero, List.getElem?_cons_succ, Option.isSome_some, beq_self_eq_true, implies_true, forall_const, Nat.le_refl, Option.some.injEq, Option.getD_some, Option.getD_none, List.getElem?_nil, e_Lpn, e_Lpe, e_Lpr, decide_true, decide_false, Int.natCast_nonneg, Int.toNat_natCast, Int.toNat_zero, lt_irr, imp_self, false_implies, big_eq, pevA, takeA, putA, fillA, chunkA, zerosL, binA, binI, binS, isNilA, lookA, bndA, depA, depV, depM, depS, cellAt, elemAt, initA, Nat.reduceAdd, Nat.reduceLeDiff, Nat.reduceEqDiff, reduceIte, reduceCtorEq, Nat.reduceLT, Nat.reduceMul, Nat.reduceSub, Int.reduceAdd, Int.reduceSub, Int.reduceMul, Int.reduceLT, Int.reduceLE, Int.reduceEq, Int.reduceNe, Int.reduceNeg, Int.reduceToNat]
  exact ⟨.lstE hE2, le_tk (AH.le_refl _) hT2.le⟩
end Go.Proofs.YtfagmflapdgcmaaDoor.p
