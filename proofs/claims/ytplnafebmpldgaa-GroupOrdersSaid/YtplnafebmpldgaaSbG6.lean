/- GroupOrders: contracts for any number -/
import Derived.Test.YtplnafebmpldgaaSbG4
import Derived.Test.YtplnafebmpldgaaSbLaw1
namespace Go.Proofs.Ytplnafebmpldgaa.p
open Go.Proofs Go Go.Cn code grp
set_option linter.unusedSimpArgs false
set_option linter.unusedVariables false

theorem needsF_0 (l : List Int) : needsF 0 l = [] := by
  unfold needsF
  have : ∀ l : List Int, l.foldl (stepF 0) [] = [] := by
    intro l
    induction l with
    | nil => rfl
    | cons a l ih => exact ih
  exact this l
theorem needs_in (n : Nat) (l : List Int) : InR n (needsF n l) := by
  rcases Nat.eq_zero_or_pos n with rfl | h
  · rw [needsF_0]; exact ⟨rfl, by simp⟩
  · exact needsF_in h l
theorem needs_len (n : Nat) (l : List Int) : ∀ row ∈ needsF n l, row.length ≤ l.length := by
  unfold needsF
  have : ∀ (l : List Int) (x : List (List Int)) (m : Nat), (∀ row ∈ x, row.length ≤ m) → ∀ row ∈ l.foldl (stepF n) x, row.length ≤ m + l.length := by
    intro l
    induction l with
    | nil => exact fun x m h => h
    | cons a l ih =>
      intro x m h row hr
      have := ih (stepF n x a) (m + 1) (fun row hr => ?_) row hr
      · rw [List.length_cons]; omega
      · unfold stepF at hr
        rcases List.mem_or_eq_of_mem_set hr with hr | rfl
        · have := h row hr; omega
        · rw [List.length_append, List.length_singleton]
          have : (x.getD (kF n a).toNat []).length ≤ m := by
            cases e : x[(kF n a).toNat]? with
            | none => simp [List.getD, e]
            | some r => simp only [List.getD, e, Option.getD_some]; exact h r (List.mem_of_getElem? e)
          omega
  intro row hr
  have := this l (List.replicate n []) 0 (by simp) row hr
  omega
theorem needs0 (E : TypeId) (l : List Int) : Pure T 6 [.lst E (lC l) .no, .int .i64 0] (.lst 22 [] .no) := by
  intro K h
  refine ACall.ret t6 fun hK => ?_
  simp only [u_C c6.eq_1, runs, e_onS, AH.set_same, AH.set_set, List.map_cons, List.map_nil, List.length_cons, List.length_nil, List.drop_zero, List.drop_succ_cons, List.take_succ_cons, List.take_zero, List.take_nil, List.nil_append, List.cons_append, List.append_nil, List.all_cons, List.all_nil, Nat.zero_add, Nat.add_zero, ite_true, ite_false, if_true, if_false, ne_eq, not_false_eq_true, not_true_eq_false, and_true, true_and, and_self, Bool.and_true, Bool.true_and, Bool.not_true, Bool.not_false, List.getElem?_cons_zero, List.getElem?_cons_succ, Option.isSome_some, beq_self_eq_true, implies_true, forall_const, Nat.le_refl, Option.some.injEq, Option.getD_some, Option.getD_none, List.getElem?_nil, e_Lpn, e_Lpe, e_Lpr, decide_true, decide_false, Int.natCast_nonneg, Int.toNat_natCast, Int.toNat_zero, lt_irr, imp_self, false_implies, big_eq, pevA, takeA, putA, fillA, chunkA, zerosL, binA, binI, binS, isNilA, lookA, bndA, depA, depV, depM, depS, cellAt, elemAt, initA, Nat.reduceAdd, Nat.reduceLeDiff, Nat.reduceEqDiff, reduceIte, reduceCtorEq, Nat.reduceLT, Nat.reduceMul, Nat.reduceSub, Int.reduceAdd, Int.reduceSub, Int.reduceMul, Int.reduceLT, Int.reduceLE, Int.reduceEq, Int.reduceNe, Int.reduceNeg, Int.reduceToNat]
  refine WO.mksl0 (j := .i64) (k := .i64) (n := 0) rfl rfl (by decide) (by decide) fun b hb1 hb2 => ?_
  simp only [runs, e_onS, AH.set_same, AH.set_set, List.map_cons, List.map_nil, List.length_cons, List.length_nil, List.drop_zero, List.drop_succ_cons, List.take_succ_cons, List.take_zero, List.take_nil, List.nil_append, List.cons_append, List.append_nil, List.all_cons, List.all_nil, Nat.zero_add, Nat.add_zero, ite_true, ite_false, if_true, if_false, ne_eq, not_false_eq_true, not_true_eq_false, and_true, true_and, and_self, Bool.and_true, Bool.true_and, Bool.not_true, Bool.not_false, List.getElem?_cons_zero, List.getElem?_cons_succ, Option.isSome_some, beq_self_eq_true, implies_true, forall_const, Nat.le_refl, Option.some.injEq, Option.getD_some, Option.getD_none, List.getElem?_nil, e_Lpn, e_Lpe, e_Lpr, decide_true, decide_false, Int.natCast_nonneg, Int.toNat_natCast, Int.toNat_zero, lt_irr, imp_self, false_implies, big_eq, pevA, takeA, putA, fillA, chunkA, zerosL, binA, binI, binS, isNilA, lookA, bndA, depA, depV, depM, depS, cellAt, elemAt, initA, Nat.reduceAdd, Nat.reduceLeDiff, Nat.reduceEqDiff, reduceIte, reduceCtorEq, Nat.reduceLT, Nat.reduceMul, Nat.reduceSub, Int.reduceAdd, Int.reduceSub, Int.reduceMul, Int.reduceLT, Int.reduceLE, Int.reduceEq, Int.reduceNe, Int.reduceNeg, Int.reduceToNat]
  refine aloop (α := Unit) (fun i fr h1 => fr 0 = .lst E (lC l) .no ∧ fr 1 = .int .i64 0 ∧ fr 5 = .lst 22 [] (.own b b 0 0 0 1) ∧ fr 6 = .int .i64 0 ∧ h1 = h.setT b ⟨b, 0, 0, 0, 1, 22⟩) (fun i => 0) () ?_ ?_
  · exact ⟨rfl, rfl, rfl, rfl, rfl⟩
  · rintro _ fr h1 ⟨f0, f1, f5, f6, rfl⟩
    have k2 : decide ((0 : Int) < 0) = false := rfl
    by_cases hl : (0 : Int) < (l.length : Int)
    · simp only [u_C l6_0.eq_1, runs, e_onS, AH.set_same, AH.set_set, List.map_cons, List.map_nil, List.length_cons, List.length_nil, List.drop_zero, List.drop_succ_cons, List.take_succ_cons, List.take_zero, List.take_nil, List.nil_append, List.cons_append, List.append_nil, List.all_cons, List.all_nil, Nat.zero_add, Nat.add_zero, ite_true, ite_false, if_true, if_false, ne_eq, not_false_eq_true, not_true_eq_false, and_true, true_and, and_self, Bool.and_true, Bool.true_and, Bool.not_true, Bool.not_false, List.getElem?_cons_zero, List.getElem?_cons_succ, Option.isSome_some, beq_self_eq_true, implies_true, forall_const, Nat.le_refl, Option.some.injEq, Option.getD_some, Option.getD_none, List.getElem?_nil, e_Lpn, e_Lpe, e_Lpr, decide_true, decide_false, Int.natCast_nonneg, Int.toNat_natCast, Int.toNat_zero, lt_irr, imp_self, false_implies, big_eq, pevA, takeA, putA, fillA, chunkA, zerosL, binA, binI, binS, isNilA, lookA, bndA, depA, depV, depM, depS, cellAt, elemAt, initA, Nat.reduceAdd, Nat.reduceLeDiff, Nat.reduceEqDiff, reduceIte, reduceCtorEq, Nat.reduceLT, Nat.reduceMul, Nat.reduceSub, Int.reduceAdd, Int.reduceSub, Int.reduceMul, Int.reduceLT, Int.reduceLE, Int.reduceEq, Int.reduceNe, Int.reduceNeg, Int.reduceToNat, f0, f1, f5, f6, lC_len, hl, decide_true, k2]
      exact ⟨.tag _ _ _, AH.le_setT hb1⟩
    · simp only [u_C l6_0.eq_1, runs, e_onS, AH.set_same, AH.set_set, List.map_cons, List.map_nil, List.length_cons, List.length_nil, List.drop_zero, List.drop_succ_cons, List.take_succ_cons, List.take_zero, List.take_nil, List.nil_append, List.cons_append, List.append_nil, List.all_cons, List.all_nil, Nat.zero_add, Nat.add_zero, ite_true, ite_false, if_true, if_false, ne_eq, not_false_eq_true, not_true_eq_false, and_true, true_and, and_self, Bool.and_true, Bool.true_and, Bool.not_true, Bool.not_false, List.getElem?_cons_zero, List.getElem?_cons_succ, Option.isSome_some, beq_self_eq_true, implies_true, forall_const, Nat.le_refl, Option.some.injEq, Option.getD_some, Option.getD_none, List.getElem?_nil, e_Lpn, e_Lpe, e_Lpr, decide_true, decide_false, Int.natCast_nonneg, Int.toNat_natCast, Int.toNat_zero, lt_irr, imp_self, false_implies, big_eq, pevA, takeA, putA, fillA, chunkA, zerosL, binA, binI, binS, isNilA, lookA, bndA, depA, depV, depM, depS, cellAt, elemAt, initA, Nat.reduceAdd, Nat.reduceLeDiff, Nat.reduceEqDiff, reduceIte, reduceCtorEq, Nat.reduceLT, Nat.reduceMul, Nat.reduceSub, Int.reduceAdd, Int.reduceSub, Int.reduceMul, Int.reduceLT, Int.reduceLE, Int.reduceEq, Int.reduceNe, Int.reduceNeg, Int.reduceToNat, f0, f1, f5, f6, lC_len, hl, decide_false, k2]
      exact ⟨.tag _ _ _, AH.le_setT hb1⟩
theorem needs_all (E : TypeId) (l : List Int) (n : Nat) (hn2 : n ≤ 15) (hl : l.length ≤ 40) : Pure T 6 [.lst E (lC l) .no, .int .i64 n] (.lst 22 (rowsC (needsF n l)) .no) := by
  rcases Nat.eq_zero_or_pos n with rfl | h
  · rw [needsF_0]; exact needs0 E l
  · exact needs_ok E l n h hn2 hl
theorem order_all (x : List (List Int)) (n : Nat) (hn2 : n ≤ 15) (hx : InR n x) (K : Nat → Prop) (h : AH) : ACall T K (.func 7) [.int .i64 n, .lst 22 (rowsC x) .no] h (OrdQ n x h) := by
  rcases Nat.eq_zero_or_pos n with rfl | hn
  · refine (order0 _).use ⟨[], ⟨0, rfl, rfl⟩, rfl, rfl⟩
  · exact order_ok x n hn hn2 hx K h
def iC (d : List Int) : List AV := d.map fun v => .int .i64 v
theorem iC_len (d : List Int) : (iC d).length = d.length := by rw [iC, List.length_map]
theorem iC_get (d : List Int) (i : Nat) : (iC d)[i]? = (d[i]?).map fun b => AV.int .i64 b := by rw [iC, List.getElem?_map]
theorem iC_set (d : List Int) (k : Nat) (b : Int) (hk : k < d.length) : (iC d).take k ++ [AV.int .i64 b] ++ (iC d).drop (k + 1) = iC (d.set k b) := by
  rw [← set_put _ _ _ (by rw [iC_len]; exact hk), iC, iC, map_set']
theorem getI {d : List Int} {y : Nat} (h : y < d.length) : d[y]? = some (d.getD y 0) := by simp [List.getD, h]
theorem setI {d : List Int} {k y : Nat} {v : Int} (hk : k < d.length) : (d.set k v).getD y 0 = if y = k then v else d.getD y 0 := by
  by_cases h : y = k
  · subst h; simp [List.getD, hk]
  · have h' : k ≠ y := fun e => h e.symm
    simp [List.getD, h, h']
end Go.Proofs.Ytplnafebmpldgaa.p

namespace Go.Proofs.Ytplnafebmpldgaa.p
open Go.Proofs Go Go.Cn code grp
set_option linter.unusedSimpArgs false
set_option linter.unusedVariables false

theorem mod15 (z : Int) : IntKind.i64.wrap (z.tmod 15 + 15) = z.tmod 15 + 15 ∧ ∃ n : Nat, n ≤ 14 ∧ (z.tmod 15 + 15).tmod 15 = n := by
  have h1 := kF_in (n := 15) (by decide) z
  have h2 := wrapK (n := 15) (by decide) (by decide) z
  refine ⟨h2, (kF 15 z).toNat, by omega, ?_⟩
  have : (z.tmod 15 + 15).tmod 15 = kF 15 z := rfl
  rw [this]; omega

theorem orders_long (b o m c : Nat) (z : Int) (hm : 40 < m) : Pure T 4 [.slice b o m c, .int .i64 z] (.bool true) := by
  intro K h
  refine ACall.ret t4 fun hK => ?_
  simp only [u_C c4.eq_1, runs, e_onS, AH.set_same, AH.set_set, List.map_cons, List.map_nil, List.length_cons, List.length_nil, List.drop_zero, List.drop_succ_cons, List.take_succ_cons, List.take_zero, List.take_nil, List.nil_append, List.cons_append, List.append_nil, List.all_cons, List.all_nil, Nat.zero_add, Nat.add_zero, ite_true, ite_false, if_true, if_false, ne_eq, not_false_eq_true, not_true_eq_false, and_true, true_and, and_self, Bool.and_true, Bool.true_and, Bool.not_true, Bool.not_false, List.getElem?_cons_zero, List.getElem?_cons_succ, Option.isSome_some, beq_self_eq_true, implies_true, forall_const, Nat.le_refl, Option.some.injEq, Option.getD_some, Option.getD_none, List.getElem?_nil, e_Lpn, e_Lpe, e_Lpr, decide_true, decide_false, Int.natCast_nonneg, Int.toNat_natCast, Int.toNat_zero, lt_irr, imp_self, false_implies, big_eq, pevA, takeA, putA, fillA, chunkA, zerosL, binA, binI, binS, isNilA, lookA, bndA, depA, depV, depM, depS, cellAt, elemAt, initA, Nat.reduceAdd, Nat.reduceLeDiff, Nat.reduceEqDiff, reduceIte, reduceCtorEq, Nat.reduceLT, Nat.reduceMul, Nat.reduceSub, Int.reduceAdd, Int.reduceSub, Int.reduceMul, Int.reduceLT, Int.reduceLE, Int.reduceEq, Int.reduceNe, Int.reduceNeg, Int.reduceToNat]
  refine first_ok.use ?_
  have hl : (40 : Int) < (m : Int) := by omega
  simp only [hl, runs, e_onS, AH.set_same, AH.set_set, List.map_cons, List.map_nil, List.length_cons, List.length_nil, List.drop_zero, List.drop_succ_cons, List.take_succ_cons, List.take_zero, List.take_nil, List.nil_append, List.cons_append, List.append_nil, List.all_cons, List.all_nil, Nat.zero_add, Nat.add_zero, ite_true, ite_false, if_true, if_false, ne_eq, not_false_eq_true, not_true_eq_false, and_true, true_and, and_self, Bool.and_true, Bool.true_and, Bool.not_true, Bool.not_false, List.getElem?_cons_zero, List.getElem?_cons_succ, Option.isSome_some, beq_self_eq_true, implies_true, forall_const, Nat.le_refl, Option.some.injEq, Option.getD_some, Option.getD_none, List.getElem?_nil, e_Lpn, e_Lpe, e_Lpr, decide_true, decide_false, Int.natCast_nonneg, Int.toNat_natCast, Int.toNat_zero, lt_irr, imp_self, false_implies, big_eq, pevA, takeA, putA, fillA, chunkA, zerosL, binA, binI, binS, isNilA, lookA, bndA, depA, depV, depM, depS, cellAt, elemAt, initA, Nat.reduceAdd, Nat.reduceLeDiff, Nat.reduceEqDiff, reduceIte, reduceCtorEq, Nat.reduceLT, Nat.reduceMul, Nat.reduceSub, Int.reduceAdd, Int.reduceSub, Int.reduceMul, Int.reduceLT, Int.reduceLE, Int.reduceEq, Int.reduceNe, Int.reduceNeg, Int.reduceToNat]
  exact ⟨.refl _, AH.le_refl _⟩

noncomputable abbrev R5 : MCode := .seq (.seq (.region [⟨(some 15), none, (.p (.mov (.const (.int .i64 0))))⟩]) (.block 10 (.loop l4_8))) (.seq (.region [⟨(some 171), none, (.p (.mov (.tmp 5)))⟩, ⟨(some 4), none, (.p (.mov (.tmp 171)))⟩]) (.ret))
noncomputable abbrev R4 : MCode := .seq (.seq (.region [⟨(some 13), none, (.p (.mov (.const (.int .i64 0))))⟩]) (.block 6 (.loop l4_5))) R5
theorem orders_longL (E : TypeId) (es : List (List AV)) (t : Tag) (z : Int) (hm : 40 < es.length) : Pure T 4 [.lst E es t, .int .i64 z] (.bool true) := by
  intro K h
  refine ACall.ret t4 fun hK => ?_
  simp only [u_C c4.eq_1, runs, e_onS, AH.set_same, AH.set_set, List.map_cons, List.map_nil, List.length_cons, List.length_nil, List.drop_zero, List.drop_succ_cons, List.take_succ_cons, List.take_zero, List.take_nil, List.nil_append, List.cons_append, List.append_nil, List.all_cons, List.all_nil, Nat.zero_add, Nat.add_zero, ite_true, ite_false, if_true, if_false, ne_eq, not_false_eq_true, not_true_eq_false, and_true, true_and, and_self, Bool.and_true, Bool.true_and, Bool.not_true, Bool.not_false, List.getElem?_cons_zero, List.getElem?_cons_succ, Option.isSome_some, beq_self_eq_true, implies_true, forall_const, Nat.le_refl, Option.some.injEq, Option.getD_some, Option.getD_none, List.getElem?_nil, e_Lpn, e_Lpe, e_Lpr, decide_true, decide_false, Int.natCast_nonneg, Int.toNat_natCast, Int.toNat_zero, lt_irr, imp_self, false_implies, big_eq, pevA, takeA, putA, fillA, chunkA, zerosL, binA, binI, binS, isNilA, lookA, bndA, depA, depV, depM, depS, cellAt, elemAt, initA, Nat.reduceAdd, Nat.reduceLeDiff, Nat.reduceEqDiff, reduceIte, reduceCtorEq, Nat.reduceLT, Nat.reduceMul, Nat.reduceSub, Int.reduceAdd, Int.reduceSub, Int.reduceMul, Int.reduceLT, Int.reduceLE, Int.reduceEq, Int.reduceNe, Int.reduceNeg, Int.reduceToNat]
  refine first_ok.use ?_
  have hl : (40 : Int) < (es.length : Int) := by omega
  simp only [hl, runs, e_onS, AH.set_same, AH.set_set, List.map_cons, List.map_nil, List.length_cons, List.length_nil, List.drop_zero, List.drop_succ_cons, List.take_succ_cons, List.take_zero, List.take_nil, List.nil_append, List.cons_append, List.append_nil, List.all_cons, List.all_nil, Nat.zero_add, Nat.add_zero, ite_true, ite_false, if_true, if_false, ne_eq, not_false_eq_true, not_true_eq_false, and_true, true_and, and_self, Bool.and_true, Bool.true_and, Bool.not_true, Bool.not_false, List.getElem?_cons_zero, List.getElem?_cons_succ, Option.isSome_some, beq_self_eq_true, implies_true, forall_const, Nat.le_refl, Option.some.injEq, Option.getD_some, Option.getD_none, List.getElem?_nil, e_Lpn, e_Lpe, e_Lpr, decide_true, decide_false, Int.natCast_nonneg, Int.toNat_natCast, Int.toNat_zero, lt_irr, imp_self, false_implies, big_eq, pevA, takeA, putA, fillA, chunkA, zerosL, binA, binI, binS, isNilA, lookA, bndA, depA, depV, depM, depS, cellAt, elemAt, initA, Nat.reduceAdd, Nat.reduceLeDiff, Nat.reduceEqDiff, reduceIte, reduceCtorEq, Nat.reduceLT, Nat.reduceMul, Nat.reduceSub, Int.reduceAdd, Int.reduceSub, Int.reduceMul, Int.reduceLT, Int.reduceLE, Int.reduceEq, Int.reduceNe, Int.reduceNeg, Int.reduceToNat]
  exact ⟨.refl _, AH.le_refl _⟩

noncomputable abbrev R9 : MCode := .seq (.region [⟨(some 171), none, (.p (.mov (.tmp 5)))⟩, ⟨(some 4), none, (.p (.mov (.tmp 171)))⟩]) (.ret)
set_option maxRecDepth 8000 in
/-- who are together need each other -/
theorem orders_8 (x : List (List Int)) (n : Nat) (hn : n ≤ 14) (hx : InR n x) (hrl : ∀ row ∈ x, row.length ≤ 1000) (out : List (List Nat)) (p : Nat → Nat) (hp : Pos n x out p) (b : Nat) (K : Nat → Prop) (h : AH) (fr : AFr) (d : List Int) (hK : KOk K h) (hb : h.objs b = none) (hk : ¬ K b)
    (f1 : fr 1 = .int .i64 n) (f5 : fr 5 = .bool true) (f6 : fr 6 = .lst 22 (rowsC x) .no) (f8 : fr 8 = .slice b 0 n n) (f15 : fr 15 = .int .i64 0) (hd : d.length = n)
    (hd1 : ∀ y, y < n → d.getD y 0 = (p y : Int)) : W T K (.loop l4_8.toC) fr (h.set b (.cells (iC d) 3)) (kB 10 (kC T K R9 (Ret [.tmp 4] (.bool true) h))) := by
  have hdg : ∀ y, y < n → d[y]? = some (p y : Int) := fun y hy => by rw [getI (by omega), hd1 y hy]
  refine aloop (α := Nat) (fun i fr h1 => fr 1 = .int .i64 n ∧ fr 5 = .bool true ∧ fr 6 = .lst 22 (rowsC x) .no ∧ fr 8 = .slice b 0 n n ∧ fr 15 = .int .i64 i ∧ i ≤ n ∧ h1 = h.set b (.cells (iC d) 3)) (fun i => n - i) 0 ?_ ?_
  · exact ⟨f1, f5, f6, f8, f15, Nat.zero_le _, rfl⟩
  · clear f1 f5 f6 f8 f15
    rintro i fr h1 ⟨f1, f5, f6, f8, f15, hi, rfl⟩
    by_cases hlt : i < n
    · have k1 : decide ((i : Int) < (n : Int)) = true := by simp; omega
      have ci : (i : Int) < (n : Int) := by omega
      have hw : IntKind.i64.wrap ((i : Int) + 1) = ((i + 1 : Nat) : Int) := wrap64 ⟨by omega, by omega⟩
      have hdi := hdg i hlt
      simp only [u_C l4_8.eq_1, runs, e_onS, AH.set_same, AH.set_set, List.map_cons, List.map_nil, List.length_cons, List.length_nil, List.drop_zero, List.drop_succ_cons, List.take_succ_cons, List.take_zero, List.take_nil, List.nil_append, List.cons_append, List.append_nil, List.all_cons, List.all_nil, Nat.zero_add, Nat.add_zero, ite_true, ite_false, if_true, if_false, ne_eq, not_false_eq_true, not_true_eq_false, and_true, true_and, and_self, Bool.and_true, Bool.true_and, Bool.not_true, Bool.not_false, List.getElem?_cons_zero, List.getElem?_cons_succ, Option.isSome_some, beq_self_eq_true, implies_true, forall_const, Nat.le_refl, Option.some.injEq, Option.getD_some, Option.getD_none, List.getElem?_nil, e_Lpn, e_Lpe, e_Lpr, decide_true, decide_false, Int.natCast_nonneg, Int.toNat_natCast, Int.toNat_zero, lt_irr, imp_self, false_implies, big_eq, pevA, takeA, putA, fillA, chunkA, zerosL, binA, binI, binS, isNilA, lookA, bndA, depA, depV, depM, depS, cellAt, elemAt, initA, Nat.reduceAdd, Nat.reduceLeDiff, Nat.reduceEqDiff, reduceIte, reduceCtorEq, Nat.reduceLT, Nat.reduceMul, Nat.reduceSub, Int.reduceAdd, Int.reduceSub, Int.reduceMul, Int.reduceLT, Int.reduceLE, Int.reduceEq, Int.reduceNe, Int.reduceNeg, Int.reduceToNat, f1, f5, f6, f8, f15, k1]
      refine aloop (α := Nat) (fun k fr h1 => fr 1 = .int .i64 n ∧ fr 5 = .bool true ∧ fr 6 = .lst 22 (rowsC x) .no ∧ fr 8 = .slice b 0 n n ∧ fr 15 = .int .i64 i ∧ fr 16 = .int .i64 k ∧ k ≤ n ∧ h1 = h.set b (.cells (iC d) 3)) (fun k => n - k) 0 ?_ ?_
      · exact ⟨f1, f5, f6, f8, f15, rfl, Nat.zero_le _, rfl⟩
      · clear f1 f5 f6 f8 f15
        rintro k fr h1 ⟨f1, f5, f6, f8, f15, f16, hkl, rfl⟩
        by_cases hkt : k < n
        · have k2 : decide ((k : Int) < (n : Int)) = true := by simp; omega
          have ck : (k : Int) < (n : Int) := by omega
          have hw2 : IntKind.i64.wrap ((k : Int) + 1) = ((k + 1 : Nat) : Int) := wrap64 ⟨by omega, by omega⟩
          have hdk := hdg k hkt
          have fin : ∀ fr : AFr, fr 1 = .int .i64 n → fr 5 = .bool true → fr 6 = .lst 22 (rowsC x) .no → fr 8 = .slice b 0 n n → fr 15 = .int .i64 i → fr 16 = .int .i64 ((k + 1 : Nat) : Int) →
              Nxt (fun (k : Nat) fr h1 => fr 1 = .int .i64 n ∧ fr 5 = .bool true ∧ fr 6 = .lst 22 (rowsC x) .no ∧ fr 8 = .slice b 0 n n ∧ fr 15 = .int .i64 i ∧ fr 16 = .int .i64 k ∧ k ≤ n ∧ h1 = h.set b (.cells (iC d) 3)) (fun k => n - k) k fr (h.set b (.cells (iC d) 3)) :=
            fun fr f1 f5 f6 f8 f15 f16 => ⟨k + 1, by show n - (k + 1) < n - k; omega, f1, f5, f6, f8, f15, f16, hkt, rfl⟩
          by_cases hik : i = k
          · subst hik
            have j1 : (!decide ((i : Int) = (i : Int))) = false := by simp
            simp only [u_C l4_7.eq_1, e_dregion d4_6, u_L s4_6.eq_1, u_T g4_6.eq_1, runs, e_onS, AH.set_same, AH.set_set, List.map_cons, List.map_nil, List.length_cons, List.length_nil, List.drop_zero, List.drop_succ_cons, List.take_succ_cons, List.take_zero, List.take_nil, List.nil_append, List.cons_append, List.append_nil, List.all_cons, List.all_nil, Nat.zero_add, Nat.add_zero, ite_true, ite_false, if_true, if_false, ne_eq, not_false_eq_true, not_true_eq_false, and_true, true_and, and_self, Bool.and_true, Bool.true_and, Bool.not_true, Bool.not_false, List.getElem?_cons_zero, List.getElem?_cons_succ, Option.isSome_some, beq_self_eq_true, implies_true, forall_const, Nat.le_refl, Option.some.injEq, Option.getD_some, Option.getD_none, List.getElem?_nil, e_Lpn, e_Lpe, e_Lpr, decide_true, decide_false, Int.natCast_nonneg, Int.toNat_natCast, Int.toNat_zero, lt_irr, imp_self, false_implies, big_eq, pevA, takeA, putA, fillA, chunkA, zerosL, binA, binI, binS, isNilA, lookA, bndA, depA, depV, depM, depS, cellAt, elemAt, initA, Nat.reduceAdd, Nat.reduceLeDiff, Nat.reduceEqDiff, reduceIte, reduceCtorEq, Nat.reduceLT, Nat.reduceMul, Nat.reduceSub, Int.reduceAdd, Int.reduceSub, Int.reduceMul, Int.reduceLT, Int.reduceLE, Int.reduceEq, Int.reduceNe, Int.reduceNeg, Int.reduceToNat, f1, f5, f6, f8, f15, f16, k2, j1, hw2]
            exact fin _ f1 f5 f6 f8 f15 (by simp [upd])
          · have j1 : (!decide ((i : Int) = (k : Int))) = true := by simp; omega
            by_cases hpp : p i = p k
            · have j2 : decide ((p i : Int) = (p k : Int)) = true := by simp; omega
              obtain ⟨b1, b2⟩ := hp.both i k hlt hkt hik hpp
              simp only [u_C l4_7.eq_1, e_dregion d4_6, u_L s4_6.eq_1, u_T g4_6.eq_1, runs, e_onS, AH.set_same, AH.set_set, List.map_cons, List.map_nil, List.length_cons, List.length_nil, List.drop_zero, List.drop_succ_cons, List.take_succ_cons, List.take_zero, List.take_nil, List.nil_append, List.cons_append, List.append_nil, List.all_cons, List.all_nil, Nat.zero_add, Nat.add_zero, ite_true, ite_false, if_true, if_false, ne_eq, not_false_eq_true, not_true_eq_false, and_true, true_and, and_self, Bool.and_true, Bool.true_and, Bool.not_true, Bool.not_false, List.getElem?_cons_zero, List.getElem?_cons_succ, Option.isSome_some, beq_self_eq_true, implies_true, forall_const, Nat.le_refl, Option.some.injEq, Option.getD_some, Option.getD_none, List.getElem?_nil, e_Lpn, e_Lpe, e_Lpr, decide_true, decide_false, Int.natCast_nonneg, Int.toNat_natCast, Int.toNat_zero, lt_irr, imp_self, false_implies, big_eq, pevA, takeA, putA, fillA, chunkA, zerosL, binA, binI, binS, isNilA, lookA, bndA, depA, depV, depM, depS, cellAt, elemAt, initA, Nat.reduceAdd, Nat.reduceLeDiff, Nat.reduceEqDiff, reduceIte, reduceCtorEq, Nat.reduceLT, Nat.reduceMul, Nat.reduceSub, Int.reduceAdd, Int.reduceSub, Int.reduceMul, Int.reduceLT, Int.reduceLE, Int.reduceEq, Int.reduceNe, Int.reduceNeg, Int.reduceToNat, f1, f5, f6, f8, f15, f16, k2, j1, j2, ci, ck, if_true, Int.toNat_natCast, Nat.mul_one, iC_get, hdi, hdk, Option.map_some]
              refine (comes_ok x n i k (by omega) hx hlt hkt (.inr b1) hrl).use ?_
              simp only [u_C l4_7.eq_1, e_dregion d4_6, u_L s4_6.eq_1, u_T g4_6.eq_1, runs, e_onS, AH.set_same, AH.set_set, List.map_cons, List.map_nil, List.length_cons, List.length_nil, List.drop_zero, List.drop_succ_cons, List.take_succ_cons, List.take_zero, List.take_nil, List.nil_append, List.cons_append, List.append_nil, List.all_cons, List.all_nil, Nat.zero_add, Nat.add_zero, ite_true, ite_false, if_true, if_false, ne_eq, not_false_eq_true, not_true_eq_false, and_true, true_and, and_self, Bool.and_true, Bool.true_and, Bool.not_true, Bool.not_false, List.getElem?_cons_zero, List.getElem?_cons_succ, Option.isSome_some, beq_self_eq_true, implies_true, forall_const, Nat.le_refl, Option.some.injEq, Option.getD_some, Option.getD_none, List.getElem?_nil, e_Lpn, e_Lpe, e_Lpr, decide_true, decide_false, Int.natCast_nonneg, Int.toNat_natCast, Int.toNat_zero, lt_irr, imp_self, false_implies, big_eq, pevA, takeA, putA, fillA, chunkA, zerosL, binA, binI, binS, isNilA, lookA, bndA, depA, depV, depM, depS, cellAt, elemAt, initA, Nat.reduceAdd, Nat.reduceLeDiff, Nat.reduceEqDiff, reduceIte, reduceCtorEq, Nat.reduceLT, Nat.reduceMul, Nat.reduceSub, Int.reduceAdd, Int.reduceSub, Int.reduceMul, Int.reduceLT, Int.reduceLE, Int.reduceEq, Int.reduceNe, Int.reduceNeg, Int.reduceToNat, f1, f5, f6, f8, f15, f16, k2, j1, j2, ci, ck, if_true, Int.toNat_natCast, Nat.mul_one, iC_get, hdi, hdk, Option.map_some]
              refine (comes_ok x n k i (by omega) hx hkt hlt (.inr b2) hrl).use ?_
              simp only [u_C l4_7.eq_1, e_dregion d4_6, u_L s4_6.eq_1, u_T g4_6.eq_1, runs, e_onS, AH.set_same, AH.set_set, List.map_cons, List.map_nil, List.length_cons, List.length_nil, List.drop_zero, List.drop_succ_cons, List.take_succ_cons, List.take_zero, List.take_nil, List.nil_append, List.cons_append, List.append_nil, List.all_cons, List.all_nil, Nat.zero_add, Nat.add_zero, ite_true, ite_false, if_true, if_false, ne_eq, not_false_eq_true, not_true_eq_false, and_true, true_and, and_self, Bool.and_true, Bool.true_and, Bool.not_true, Bool.not_false, List.getElem?_cons_zero, List.getElem?_cons_succ, Option.isSome_some, beq_self_eq_true, implies_true, forall_const, Nat.le_refl, Option.some.injEq, Option.getD_some, Option.getD_none, List.getElem?_nil, e_Lpn, e_Lpe, e_Lpr, decide_true, decide_false, Int.natCast_nonneg, Int.toNat_natCast, Int.toNat_zero, lt_irr, imp_self, false_implies, big_eq, pevA, takeA, putA, fillA, chunkA, zerosL, binA, binI, binS, isNilA, lookA, bndA, depA, depV, depM, depS, cellAt, elemAt, initA, Nat.reduceAdd, Nat.reduceLeDiff, Nat.reduceEqDiff, reduceIte, reduceCtorEq, Nat.reduceLT, Nat.reduceMul, Nat.reduceSub, Int.reduceAdd, Int.reduceSub, Int.reduceMul, Int.reduceLT, Int.reduceLE, Int.reduceEq, Int.reduceNe, Int.reduceNeg, Int.reduceToNat, f1, f5, f6, f8, f15, f16, k2, j1, j2, ci, ck, if_true, Int.toNat_natCast, Nat.mul_one, iC_get, hdi, hdk, Option.map_some, hw2]
              exact fin _ f1 f5 f6 f8 f15 (by simp [upd])
            · have j2 : decide ((p i : Int) = (p k : Int)) = false := by simp; omega
              simp only [u_C l4_7.eq_1, e_dregion d4_6, u_L s4_6.eq_1, u_T g4_6.eq_1, runs, e_onS, AH.set_same, AH.set_set, List.map_cons, List.map_nil, List.length_cons, List.length_nil, List.drop_zero, List.drop_succ_cons, List.take_succ_cons, List.take_zero, List.take_nil, List.nil_append, List.cons_append, List.append_nil, List.all_cons, List.all_nil, Nat.zero_add, Nat.add_zero, ite_true, ite_false, if_true, if_false, ne_eq, not_false_eq_true, not_true_eq_false, and_true, true_and, and_self, Bool.and_true, Bool.true_and, Bool.not_true, Bool.not_false, List.getElem?_cons_zero, List.getElem?_cons_succ, Option.isSome_some, beq_self_eq_true, implies_true, forall_const, Nat.le_refl, Option.some.injEq, Option.getD_some, Option.getD_none, List.getElem?_nil, e_Lpn, e_Lpe, e_Lpr, decide_true, decide_false, Int.natCast_nonneg, Int.toNat_natCast, Int.toNat_zero, lt_irr, imp_self, false_implies, big_eq, pevA, takeA, putA, fillA, chunkA, zerosL, binA, binI, binS, isNilA, lookA, bndA, depA, depV, depM, depS, cellAt, elemAt, initA, Nat.reduceAdd, Nat.reduceLeDiff, Nat.reduceEqDiff, reduceIte, reduceCtorEq, Nat.reduceLT, Nat.reduceMul, Nat.reduceSub, Int.reduceAdd, Int.reduceSub, Int.reduceMul, Int.reduceLT, Int.reduceLE, Int.reduceEq, Int.reduceNe, Int.reduceNeg, Int.reduceToNat, f1, f5, f6, f8, f15, f16, k2, j1, j2, ci, ck, if_true, Int.toNat_natCast, Nat.mul_one, iC_get, hdi, hdk, Option.map_some, hw2]
              exact fin _ f1 f5 f6 f8 f15 (by simp [upd])
        · have k2 : decide ((k : Int) < (n : Int)) = false := by simp; omega
          simp only [u_C l4_7.eq_1, runs, e_onS, AH.set_same, AH.set_set, List.map_cons, List.map_nil, List.length_cons, List.length_nil, List.drop_zero, List.drop_succ_cons, List.take_succ_cons, List.take_zero, List.take_nil, List.nil_append, List.cons_append, List.append_nil, List.all_cons, List.all_nil, Nat.zero_add, Nat.add_zero, ite_true, ite_false, if_true, if_false, ne_eq, not_false_eq_true, not_true_eq_false, and_true, true_and, and_self, Bool.and_true, Bool.true_and, Bool.not_true, Bool.not_false, List.getElem?_cons_zero, List.getElem?_cons_succ, Option.isSome_some, beq_self_eq_true, implies_true, forall_const, Nat.le_refl, Option.some.injEq, Option.getD_some, Option.getD_none, List.getElem?_nil, e_Lpn, e_Lpe, e_Lpr, decide_true, decide_false, Int.natCast_nonneg, Int.toNat_natCast, Int.toNat_zero, lt_irr, imp_self, false_implies, big_eq, pevA, takeA, putA, fillA, chunkA, zerosL, binA, binI, binS, isNilA, lookA, bndA, depA, depV, depM, depS, cellAt, elemAt, initA, Nat.reduceAdd, Nat.reduceLeDiff, Nat.reduceEqDiff, reduceIte, reduceCtorEq, Nat.reduceLT, Nat.reduceMul, Nat.reduceSub, Int.reduceAdd, Int.reduceSub, Int.reduceMul, Int.reduceLT, Int.reduceLE, Int.reduceEq, Int.reduceNe, Int.reduceNeg, Int.reduceToNat, f1, f5, f6, f8, f15, f16, k2, hw]
          exact ⟨i + 1, by show n - (i + 1) < n - i; omega, f1, f5, f6, f8, by simp [upd], hlt, rfl⟩
    · have k1 : decide ((i : Int) < (n : Int)) = false := by simp; omega
      simp only [u_C l4_8.eq_1, runs, e_onS, AH.set_same, AH.set_set, List.map_cons, List.map_nil, List.length_cons, List.length_nil, List.drop_zero, List.drop_succ_cons, List.take_succ_cons, List.take_zero, List.take_nil, List.nil_append, List.cons_append, List.append_nil, List.all_cons, List.all_nil, Nat.zero_add, Nat.add_zero, ite_true, ite_false, if_true, if_false, ne_eq, not_false_eq_true, not_true_eq_false, and_true, true_and, and_self, Bool.and_true, Bool.true_and, Bool.not_true, Bool.not_false, List.getElem?_cons_zero, List.getElem?_cons_succ, Option.isSome_some, beq_self_eq_true, implies_true, forall_const, Nat.le_refl, Option.some.injEq, Option.getD_some, Option.getD_none, List.getElem?_nil, e_Lpn, e_Lpe, e_Lpr, decide_true, decide_false, Int.natCast_nonneg, Int.toNat_natCast, Int.toNat_zero, lt_irr, imp_self, false_implies, big_eq, pevA, takeA, putA, fillA, chunkA, zerosL, binA, binI, binS, isNilA, lookA, bndA, depA, depV, depM, depS, cellAt, elemAt, initA, Nat.reduceAdd, Nat.reduceLeDiff, Nat.reduceEqDiff, reduceIte, reduceCtorEq, Nat.reduceLT, Nat.reduceMul, Nat.reduceSub, Int.reduceAdd, Int.reduceSub, Int.reduceMul, Int.reduceLT, Int.reduceLE, Int.reduceEq, Int.reduceNe, Int.reduceNeg, Int.reduceToNat, f1, f5, f6, f8, f15, k1]
      exact ⟨.refl _, le_set (AH.le_refl _) hb⟩

set_option maxRecDepth 8000 in
/-- whom they need is not behind -/
theorem orders_5 (x : List (List Int)) (n : Nat) (hn : n ≤ 14) (hx : InR n x) (hrl : ∀ row ∈ x, row.length ≤ 1000) (out : List (List Nat)) (p : Nat → Nat) (hp : Pos n x out p) (b : Nat) (K : Nat → Prop) (h : AH) (fr : AFr) (d : List Int) (hK : KOk K h) (hb : h.objs b = none) (hk : ¬ K b)
    (f1 : fr 1 = .int .i64 n) (f5 : fr 5 = .bool true) (f6 : fr 6 = .lst 22 (rowsC x) .no) (f8 : fr 8 = .slice b 0 n n) (f13 : fr 13 = .int .i64 0) (hd : d.length = n)
    (hd1 : ∀ y, y < n → d.getD y 0 = (p y : Int)) : W T K (.loop l4_5.toC) fr (h.set b (.cells (iC d) 3)) (kB 6 (kC T K R5 (Ret [.tmp 4] (.bool true) h))) := by
  have hxl := hx.1
  have hdg : ∀ y, y < n → d[y]? = some (p y : Int) := fun y hy => by rw [getI (by omega), hd1 y hy]
  refine aloop (α := Nat) (fun i fr h1 => fr 1 = .int .i64 n ∧ fr 5 = .bool true ∧ fr 6 = .lst 22 (rowsC x) .no ∧ fr 8 = .slice b 0 n n ∧ fr 13 = .int .i64 i ∧ i ≤ n ∧ h1 = h.set b (.cells (iC d) 3)) (fun i => n - i) 0 ?_ ?_
  · exact ⟨f1, f5, f6, f8, f13, Nat.zero_le _, rfl⟩
  · clear f1 f5 f6 f8 f13
    rintro i fr h1 ⟨f1, f5, f6, f8, f13, hi, rfl⟩
    by_cases hlt : i < n
    · have k1 : decide ((i : Int) < (n : Int)) = true := by simp; omega
      have ci : (i : Int) < (n : Int) := by omega
      have hw : IntKind.i64.wrap ((i : Int) + 1) = ((i + 1 : Nat) : Int) := wrap64 ⟨by omega, by omega⟩
      have hdi := hdg i hlt
      have j1 : decide ((p i : Int) < 0) = false := by simp
      obtain ⟨row, hrow⟩ : ∃ row, x[i]? = some row := ⟨_, List.getElem?_eq_getElem (by omega)⟩
      have hrowl := hrl row (List.mem_of_getElem? hrow)
      simp only [u_C l4_5.eq_1, runs, e_onS, AH.set_same, AH.set_set, List.map_cons, List.map_nil, List.length_cons, List.length_nil, List.drop_zero, List.drop_succ_cons, List.take_succ_cons, List.take_zero, List.take_nil, List.nil_append, List.cons_append, List.append_nil, List.all_cons, List.all_nil, Nat.zero_add, Nat.add_zero, ite_true, ite_false, if_true, if_false, ne_eq, not_false_eq_true, not_true_eq_false, and_true, true_and, and_self, Bool.and_true, Bool.true_and, Bool.not_true, Bool.not_false, List.getElem?_cons_zero, List.getElem?_cons_succ, Option.isSome_some, beq_self_eq_true, implies_true, forall_const, Nat.le_refl, Option.some.injEq, Option.getD_some, Option.getD_none, List.getElem?_nil, e_Lpn, e_Lpe, e_Lpr, decide_true, decide_false, Int.natCast_nonneg, Int.toNat_natCast, Int.toNat_zero, lt_irr, imp_self, false_implies, big_eq, pevA, takeA, putA, fillA, chunkA, zerosL, binA, binI, binS, isNilA, lookA, bndA, depA, depV, depM, depS, cellAt, elemAt, initA, Nat.reduceAdd, Nat.reduceLeDiff, Nat.reduceEqDiff, reduceIte, reduceCtorEq, Nat.reduceLT, Nat.reduceMul, Nat.reduceSub, Int.reduceAdd, Int.reduceSub, Int.reduceMul, Int.reduceLT, Int.reduceLE, Int.reduceEq, Int.reduceNe, Int.reduceNeg, Int.reduceToNat, f1, f5, f6, f8, f13, k1, ci, if_true, Int.toNat_natCast, Nat.mul_one, iC_get, hdi, Option.map_some, j1]
      refine aloop (α := Nat) (fun k fr h1 => fr 1 = .int .i64 n ∧ fr 5 = .bool true ∧ fr 6 = .lst 22 (rowsC x) .no ∧ fr 8 = .slice b 0 n n ∧ fr 13 = .int .i64 i ∧ fr 14 = .int .i64 k ∧ k ≤ row.length ∧ h1 = h.set b (.cells (iC d) 3)) (fun k => row.length - k) 0 ?_ ?_
      · exact ⟨f1, f5, f6, f8, f13, rfl, Nat.zero_le _, rfl⟩
      · clear f1 f5 f6 f8 f13
        rintro k fr h1 ⟨f1, f5, f6, f8, f13, f14, hkl, rfl⟩
        by_cases hkt : k < row.length
        · have k2 : decide ((k : Int) < (row.length : Int)) = true := by simp; omega
          have hw2 : IntKind.i64.wrap ((k : Int) + 1) = ((k + 1 : Nat) : Int) := wrap64 ⟨by omega, by omega⟩
          obtain ⟨v, hv⟩ : ∃ v, row[k]? = some v := ⟨_, List.getElem?_eq_getElem hkt⟩
          obtain ⟨hv0, hvn⟩ := hx.2 row (List.mem_of_getElem? hrow) v (List.mem_of_getElem? hv)
          obtain ⟨y, rfl⟩ : ∃ y : Nat, v = y := ⟨v.toNat, by omega⟩
          have cy : (y : Int) < (n : Int) := hvn
          have hdy := hdg y (by omega)
          have hle := hp.up i y ⟨row, hrow, List.mem_of_getElem? hv⟩
          have j2 : decide ((p i : Int) < (p y : Int)) = false := by simp; omega
          simp only [u_C l4_4.eq_1, e_dregion d4_3, u_L s4_3.eq_1, u_T g4_3.eq_1, runs, e_onS, AH.set_same, AH.set_set, List.map_cons, List.map_nil, List.length_cons, List.length_nil, List.drop_zero, List.drop_succ_cons, List.take_succ_cons, List.take_zero, List.take_nil, List.nil_append, List.cons_append, List.append_nil, List.all_cons, List.all_nil, Nat.zero_add, Nat.add_zero, ite_true, ite_false, if_true, if_false, ne_eq, not_false_eq_true, not_true_eq_false, and_true, true_and, and_self, Bool.and_true, Bool.true_and, Bool.not_true, Bool.not_false, List.getElem?_cons_zero, List.getElem?_cons_succ, Option.isSome_some, beq_self_eq_true, implies_true, forall_const, Nat.le_refl, Option.some.injEq, Option.getD_some, Option.getD_none, List.getElem?_nil, e_Lpn, e_Lpe, e_Lpr, decide_true, decide_false, Int.natCast_nonneg, Int.toNat_natCast, Int.toNat_zero, lt_irr, imp_self, false_implies, big_eq, pevA, takeA, putA, fillA, chunkA, zerosL, binA, binI, binS, isNilA, lookA, bndA, depA, depV, depM, depS, cellAt, elemAt, initA, Nat.reduceAdd, Nat.reduceLeDiff, Nat.reduceEqDiff, reduceIte, reduceCtorEq, Nat.reduceLT, Nat.reduceMul, Nat.reduceSub, Int.reduceAdd, Int.reduceSub, Int.reduceMul, Int.reduceLT, Int.reduceLE, Int.reduceEq, Int.reduceNe, Int.reduceNeg, Int.reduceToNat, f1, f5, f6, f8, f13, f14, rowsC_get, hrow, lC_len, lC_get, hv, k2, Option.map_some, ci, cy, if_true, Int.toNat_natCast, Nat.mul_one, iC_get, hdi, hdy, j2, hw2]
          exact ⟨k + 1, by show row.length - (k + 1) < row.length - k; omega, f1, f5, f6, f8, f13, by simp [upd], hkt, rfl⟩
        · have k2 : decide ((k : Int) < (row.length : Int)) = false := by simp; omega
          simp only [u_C l4_4.eq_1, runs, e_onS, AH.set_same, AH.set_set, List.map_cons, List.map_nil, List.length_cons, List.length_nil, List.drop_zero, List.drop_succ_cons, List.take_succ_cons, List.take_zero, List.take_nil, List.nil_append, List.cons_append, List.append_nil, List.all_cons, List.all_nil, Nat.zero_add, Nat.add_zero, ite_true, ite_false, if_true, if_false, ne_eq, not_false_eq_true, not_true_eq_false, and_true, true_and, and_self, Bool.and_true, Bool.true_and, Bool.not_true, Bool.not_false, List.getElem?_cons_zero, List.getElem?_cons_succ, Option.isSome_some, beq_self_eq_true, implies_true, forall_const, Nat.le_refl, Option.some.injEq, Option.getD_some, Option.getD_none, List.getElem?_nil, e_Lpn, e_Lpe, e_Lpr, decide_true, decide_false, Int.natCast_nonneg, Int.toNat_natCast, Int.toNat_zero, lt_irr, imp_self, false_implies, big_eq, pevA, takeA, putA, fillA, chunkA, zerosL, binA, binI, binS, isNilA, lookA, bndA, depA, depV, depM, depS, cellAt, elemAt, initA, Nat.reduceAdd, Nat.reduceLeDiff, Nat.reduceEqDiff, reduceIte, reduceCtorEq, Nat.reduceLT, Nat.reduceMul, Nat.reduceSub, Int.reduceAdd, Int.reduceSub, Int.reduceMul, Int.reduceLT, Int.reduceLE, Int.reduceEq, Int.reduceNe, Int.reduceNeg, Int.reduceToNat, f1, f5, f6, f8, f13, f14, rowsC_get, hrow, lC_len, k2, Option.map_some, hw]
          exact ⟨i + 1, by show n - (i + 1) < n - i; omega, f1, f5, f6, f8, by simp [upd], hlt, rfl⟩
    · have k1 : decide ((i : Int) < (n : Int)) = false := by simp; omega
      simp only [u_C l4_5.eq_1, runs, e_onS, AH.set_same, AH.set_set, List.map_cons, List.map_nil, List.length_cons, List.length_nil, List.drop_zero, List.drop_succ_cons, List.take_succ_cons, List.take_zero, List.take_nil, List.nil_append, List.cons_append, List.append_nil, List.all_cons, List.all_nil, Nat.zero_add, Nat.add_zero, ite_true, ite_false, if_true, if_false, ne_eq, not_false_eq_true, not_true_eq_false, and_true, true_and, and_self, Bool.and_true, Bool.true_and, Bool.not_true, Bool.not_false, List.getElem?_cons_zero, List.getElem?_cons_succ, Option.isSome_some, beq_self_eq_true, implies_true, forall_const, Nat.le_refl, Option.some.injEq, Option.getD_some, Option.getD_none, List.getElem?_nil, e_Lpn, e_Lpe, e_Lpr, decide_true, decide_false, Int.natCast_nonneg, Int.toNat_natCast, Int.toNat_zero, lt_irr, imp_self, false_implies, big_eq, pevA, takeA, putA, fillA, chunkA, zerosL, binA, binI, binS, isNilA, lookA, bndA, depA, depV, depM, depS, cellAt, elemAt, initA, Nat.reduceAdd, Nat.reduceLeDiff, Nat.reduceEqDiff, reduceIte, reduceCtorEq, Nat.reduceLT, Nat.reduceMul, Nat.reduceSub, Int.reduceAdd, Int.reduceSub, Int.reduceMul, Int.reduceLT, Int.reduceLE, Int.reduceEq, Int.reduceNe, Int.reduceNeg, Int.reduceToNat, f1, f5, f6, f8, f13, k1]
      exact orders_8 x n hn hx hrl out p hp b K h _ d hK hb hk f1 f5 f6 f8 rfl hd hd1

set_option maxRecDepth 8000 in
/-- who is where: so far -/
theorem orders_2 (x : List (List Int)) (n : Nat) (hn : n ≤ 14) (hx : InR n x) (hrl : ∀ row ∈ x, row.length ≤ 1000) (out : List (List Nat)) (p : Nat → Nat) (hp : Pos n x out p) (b : Nat) (K : Nat → Prop) (h : AH) (fr : AFr) (d : List Int) (hK : KOk K h) (hb : h.objs b = none) (hk : ¬ K b)
    (f1 : fr 1 = .int .i64 n) (f5 : fr 5 = .bool true) (f6 : fr 6 = .lst 22 (rowsC x) .no) (f7 : fr 7 = .lst 22 (oC out) .no) (f8 : fr 8 = .slice b 0 n n) (f10 : fr 10 = .int .i64 0) (hd : d.length = n)
    (hd1 : ∀ y, y < n → d.getD y 0 = if p y < 0 then (p y : Int) else -1) : W T K (.loop l4_2.toC) fr (h.set b (.cells (iC d) 3)) (kB 2 (kC T K R4 (Ret [.tmp 4] (.bool true) h))) := by
  refine W.bound (t := 7) f7 fun hB => ?_
  rw [oC_len] at hB
  refine aloop (α := Nat × List Int) (fun q fr h1 => fr 1 = .int .i64 n ∧ fr 5 = .bool true ∧ fr 6 = .lst 22 (rowsC x) .no ∧ fr 7 = .lst 22 (oC out) .no ∧ fr 8 = .slice b 0 n n ∧ fr 10 = .int .i64 q.1 ∧ q.1 ≤ out.length ∧ q.2.length = n ∧ (∀ y, y < n → q.2.getD y 0 = if p y < q.1 then (p y : Int) else -1) ∧ h1 = h.set b (.cells (iC q.2) 3)) (fun q => out.length - q.1) (0, d) ?_ ?_
  · exact ⟨f1, f5, f6, f7, f8, f10, Nat.zero_le _, hd, hd1, rfl⟩
  · clear f1 f5 f6 f7 f8 f10 hd hd1
    rintro ⟨i, d⟩ fr h1 ⟨f1, f5, f6, f7, f8, f10, hi, hd, hd1, rfl⟩
    simp only at f10 hi hd hd1
    by_cases hlt : i < out.length
    · have k1 : decide ((i : Int) < (out.length : Int)) = true := by simp; omega
      have hw : IntKind.i64.wrap ((i : Int) + 1) = ((i + 1 : Nat) : Int) := wrapS hlt hB
      obtain ⟨g, hg⟩ : ∃ g, out[i]? = some g := ⟨_, List.getElem?_eq_getElem hlt⟩
      have hgm := List.mem_of_getElem? hg
      have hgl := hp.len g hgm
      have hgs := hp.sorted g hgm
      simp only [u_C l4_2.eq_1, runs, e_onS, AH.set_same, AH.set_set, List.map_cons, List.map_nil, List.length_cons, List.length_nil, List.drop_zero, List.drop_succ_cons, List.take_succ_cons, List.take_zero, List.take_nil, List.nil_append, List.cons_append, List.append_nil, List.all_cons, List.all_nil, Nat.zero_add, Nat.add_zero, ite_true, ite_false, if_true, if_false, ne_eq, not_false_eq_true, not_true_eq_false, and_true, true_and, and_self, Bool.and_true, Bool.true_and, Bool.not_true, Bool.not_false, List.getElem?_cons_zero, List.getElem?_cons_succ, Option.isSome_some, beq_self_eq_true, implies_true, forall_const, Nat.le_refl, Option.some.injEq, Option.getD_some, Option.getD_none, List.getElem?_nil, e_Lpn, e_Lpe, e_Lpr, decide_true, decide_false, Int.natCast_nonneg, Int.toNat_natCast, Int.toNat_zero, lt_irr, imp_self, false_implies, big_eq, pevA, takeA, putA, fillA, chunkA, zerosL, binA, binI, binS, isNilA, lookA, bndA, depA, depV, depM, depS, cellAt, elemAt, initA, Nat.reduceAdd, Nat.reduceLeDiff, Nat.reduceEqDiff, reduceIte, reduceCtorEq, Nat.reduceLT, Nat.reduceMul, Nat.reduceSub, Int.reduceAdd, Int.reduceSub, Int.reduceMul, Int.reduceLT, Int.reduceLE, Int.reduceEq, Int.reduceNe, Int.reduceNeg, Int.reduceToNat, f1, f5, f6, f7, f8, f10, oC_len, k1]
      refine aloop (α := Nat × List Int) (fun q fr h1 => fr 1 = .int .i64 n ∧ fr 5 = .bool true ∧ fr 6 = .lst 22 (rowsC x) .no ∧ fr 7 = .lst 22 (oC out) .no ∧ fr 8 = .slice b 0 n n ∧ fr 10 = .int .i64 i ∧ fr 11 = .int .i64 q.1 ∧ q.1 ≤ g.length ∧ q.2.length = n ∧ (∀ y, y < n → q.2.getD y 0 = if p y < i ∨ (p y = i ∧ y ∈ g.take q.1) then (p y : Int) else -1) ∧ h1 = h.set b (.cells (iC q.2) 3)) (fun q => g.length - q.1) (0, d) ?_ ?_
      · refine ⟨f1, f5, f6, f7, f8, f10, rfl, Nat.zero_le _, hd, fun y hy => ?_, rfl⟩
        rw [hd1 y hy]; simp
      · clear f1 f5 f6 f7 f8 f10 hd hd1
        rintro ⟨k, d⟩ fr h1 ⟨f1, f5, f6, f7, f8, f10, f11, hkl, hd, hd1, rfl⟩
        simp only at f11 hkl hd hd1
        by_cases hkt : k < g.length
        · have k2 : decide ((k : Int) < (g.length : Int)) = true := by simp; omega
          have hw2 : IntKind.i64.wrap ((k : Int) + 1) = ((k + 1 : Nat) : Int) := wrap64 ⟨by omega, by omega⟩
          obtain ⟨v, hv⟩ : ∃ v, g[k]? = some v := ⟨_, List.getElem?_eq_getElem hkt⟩
          have hvm := List.mem_of_getElem? hv
          have hvn := hp.lt g v hgm hvm
          have hpv := hp.uniq i v g hg hvm
          obtain ⟨hs1, hs2⟩ := sorted_next hgs hv
          have hnv : ¬ (p v < i ∨ (p v = i ∧ v ∈ g.take k)) := by
            rw [hpv]
            exact fun h => h.elim (fun h => by omega) fun h => hs2 h.2
          have hdv : d.getD v 0 = -1 := by rw [hd1 v hvn, if_neg hnv]
          have hgv : d[v]? = some (-1) := by rw [getI (by omega), hdv]
          have j1 : decide ((v : Int) < 0) = false := by simp
          have j2 : decide ((n : Int) ≤ (v : Int)) = false := by simp; omega
          have j3 : decide ((0 : Int) ≤ -1) = false := rfl
          have cv : (v : Int) < (n : Int) := by omega
          have hpl : v + 1 ≤ (iC d).length := by rw [iC_len]; omega
          have hput := iC_set d v (i : Int) (by omega)
          have fin : ∀ fr : AFr, fr 1 = .int .i64 n → fr 5 = .bool true → fr 6 = .lst 22 (rowsC x) .no → fr 7 = .lst 22 (oC out) .no → fr 8 = .slice b 0 n n → fr 10 = .int .i64 i → fr 11 = .int .i64 ((k + 1 : Nat) : Int) →
              Nxt (fun (q : Nat × List Int) fr h1 => fr 1 = .int .i64 n ∧ fr 5 = .bool true ∧ fr 6 = .lst 22 (rowsC x) .no ∧ fr 7 = .lst 22 (oC out) .no ∧ fr 8 = .slice b 0 n n ∧ fr 10 = .int .i64 i ∧ fr 11 = .int .i64 q.1 ∧ q.1 ≤ g.length ∧ q.2.length = n ∧ (∀ y, y < n → q.2.getD y 0 = if p y < i ∨ (p y = i ∧ y ∈ g.take q.1) then (p y : Int) else -1) ∧ h1 = h.set b (.cells (iC q.2) 3)) (fun q => g.length - q.1) (k, d) fr (h.set b (.cells (iC (d.set v (i : Int))) 3)) := by
            intro fr f1 f5 f6 f7 f8 f10 f11
            refine ⟨(k + 1, d.set v i), by show g.length - (k + 1) < g.length - k; omega, f1, f5, f6, f7, f8, f10, f11, hkt, by rw [List.length_set]; exact hd, fun y hy => ?_, rfl⟩
            show (d.set v (i : Int)).getD y 0 = _
            rw [setI (by omega), List.take_add_one, hv, Option.toList_some]
            by_cases hyv : y = v
            · subst hyv
              rw [if_pos rfl, if_pos (.inr ⟨hpv, by simp⟩), hpv]
            · rw [if_neg hyv, hd1 y hy]
              simp only [List.mem_append, List.mem_singleton, hyv, or_false]
          by_cases hk0 : k = 0
          · subst hk0
            have j4 : decide ((0 : Int) < ((0 : Nat) : Int)) = false := rfl
            simp only [u_C l4_1.eq_1, runs, e_onS, AH.set_same, AH.set_set, List.map_cons, List.map_nil, List.length_cons, List.length_nil, List.drop_zero, List.drop_succ_cons, List.take_succ_cons, List.take_zero, List.take_nil, List.nil_append, List.cons_append, List.append_nil, List.all_cons, List.all_nil, Nat.zero_add, Nat.add_zero, ite_true, ite_false, if_true, if_false, ne_eq, not_false_eq_true, not_true_eq_false, and_true, true_and, and_self, Bool.and_true, Bool.true_and, Bool.not_true, Bool.not_false, List.getElem?_cons_zero, List.getElem?_cons_succ, Option.isSome_some, beq_self_eq_true, implies_true, forall_const, Nat.le_refl, Option.some.injEq, Option.getD_some, Option.getD_none, List.getElem?_nil, e_Lpn, e_Lpe, e_Lpr, decide_true, decide_false, Int.natCast_nonneg, Int.toNat_natCast, Int.toNat_zero, lt_irr, imp_self, false_implies, big_eq, pevA, takeA, putA, fillA, chunkA, zerosL, binA, binI, binS, isNilA, lookA, bndA, depA, depV, depM, depS, cellAt, elemAt, initA, Nat.reduceAdd, Nat.reduceLeDiff, Nat.reduceEqDiff, reduceIte, reduceCtorEq, Nat.reduceLT, Nat.reduceMul, Nat.reduceSub, Int.reduceAdd, Int.reduceSub, Int.reduceMul, Int.reduceLT, Int.reduceLE, Int.reduceEq, Int.reduceNe, Int.reduceNeg, Int.reduceToNat, f1, f5, f6, f7, f8, f10, f11, oC_get, hg, nC_len, nC_get, hv, k2, Option.map_some, j1, j2, j3, j4, cv, if_true, Int.toNat_natCast, Nat.mul_one, iC_get, hgv, hpl, hput, hw2]
            exact ⟨hk, fin _ f1 f5 f6 f7 f8 f10 (by simp [upd])⟩
          · obtain ⟨u, hu⟩ : ∃ u, g[k - 1]? = some u := ⟨_, List.getElem?_eq_getElem (by omega)⟩
            have huv := hs1 u hu (by omega)
            have j4 : decide ((0 : Int) < (k : Int)) = true := by simp; omega
            have hw3 : IntKind.i64.wrap ((k : Int) - 1) = ((k - 1 : Nat) : Int) := by rw [wrap64 ⟨by omega, by omega⟩]; omega
            have j5 : decide ((v : Int) ≤ (u : Int)) = false := by simp; omega
            simp only [u_C l4_1.eq_1, runs, e_onS, AH.set_same, AH.set_set, List.map_cons, List.map_nil, List.length_cons, List.length_nil, List.drop_zero, List.drop_succ_cons, List.take_succ_cons, List.take_zero, List.take_nil, List.nil_append, List.cons_append, List.append_nil, List.all_cons, List.all_nil, Nat.zero_add, Nat.add_zero, ite_true, ite_false, if_true, if_false, ne_eq, not_false_eq_true, not_true_eq_false, and_true, true_and, and_self, Bool.and_true, Bool.true_and, Bool.not_true, Bool.not_false, List.getElem?_cons_zero, List.getElem?_cons_succ, Option.isSome_some, beq_self_eq_true, implies_true, forall_const, Nat.le_refl, Option.some.injEq, Option.getD_some, Option.getD_none, List.getElem?_nil, e_Lpn, e_Lpe, e_Lpr, decide_true, decide_false, Int.natCast_nonneg, Int.toNat_natCast, Int.toNat_zero, lt_irr, imp_self, false_implies, big_eq, pevA, takeA, putA, fillA, chunkA, zerosL, binA, binI, binS, isNilA, lookA, bndA, depA, depV, depM, depS, cellAt, elemAt, initA, Nat.reduceAdd, Nat.reduceLeDiff, Nat.reduceEqDiff, reduceIte, reduceCtorEq, Nat.reduceLT, Nat.reduceMul, Nat.reduceSub, Int.reduceAdd, Int.reduceSub, Int.reduceMul, Int.reduceLT, Int.reduceLE, Int.reduceEq, Int.reduceNe, Int.reduceNeg, Int.reduceToNat, f1, f5, f6, f7, f8, f10, f11, oC_get, hg, nC_len, nC_get, hv, hu, k2, Option.map_some, j1, j2, j3, j4, j5, cv, if_true, Int.toNat_natCast, Nat.mul_one, iC_get, hgv, hpl, hput, hw2, hw3]
            exact ⟨hk, fin _ f1 f5 f6 f7 f8 f10 (by simp [upd])⟩
        · have k2 : decide ((k : Int) < (g.length : Int)) = false := by simp; omega
          simp only [u_C l4_1.eq_1, runs, e_onS, AH.set_same, AH.set_set, List.map_cons, List.map_nil, List.length_cons, List.length_nil, List.drop_zero, List.drop_succ_cons, List.take_succ_cons, List.take_zero, List.take_nil, List.nil_append, List.cons_append, List.append_nil, List.all_cons, List.all_nil, Nat.zero_add, Nat.add_zero, ite_true, ite_false, if_true, if_false, ne_eq, not_false_eq_true, not_true_eq_false, and_true, true_and, and_self, Bool.and_true, Bool.true_and, Bool.not_true, Bool.not_false, List.getElem?_cons_zero, List.getElem?_cons_succ, Option.isSome_some, beq_self_eq_true, implies_true, forall_const, Nat.le_refl, Option.some.injEq, Option.getD_some, Option.getD_none, List.getElem?_nil, e_Lpn, e_Lpe, e_Lpr, decide_true, decide_false, Int.natCast_nonneg, Int.toNat_natCast, Int.toNat_zero, lt_irr, imp_self, false_implies, big_eq, pevA, takeA, putA, fillA, chunkA, zerosL, binA, binI, binS, isNilA, lookA, bndA, depA, depV, depM, depS, cellAt, elemAt, initA, Nat.reduceAdd, Nat.reduceLeDiff, Nat.reduceEqDiff, reduceIte, reduceCtorEq, Nat.reduceLT, Nat.reduceMul, Nat.reduceSub, Int.reduceAdd, Int.reduceSub, Int.reduceMul, Int.reduceLT, Int.reduceLE, Int.reduceEq, Int.reduceNe, Int.reduceNeg, Int.reduceToNat, f1, f5, f6, f7, f8, f10, f11, oC_get, hg, nC_len, k2, Option.map_some, hw]
          have hkg : k = g.length := by omega
          refine ⟨(i + 1, d), by show out.length - (i + 1) < out.length - i; omega, f1, f5, f6, f7, f8, by simp [upd], hlt, hd, fun y hy => ?_, rfl⟩
          show d.getD y 0 = if p y < i + 1 then (p y : Int) else -1
          rw [hd1 y hy]
          have : (p y < i ∨ p y = i ∧ y ∈ g.take k) ↔ p y < i + 1 := by
            rw [List.take_of_length_le (by omega)]
            constructor
            · rintro (h | ⟨h, _⟩) <;> omega
            · intro h
              rcases Nat.lt_succ_iff_lt_or_eq.1 h with h | h
              · exact .inl h
              · obtain ⟨g', h1, h2⟩ := hp.at_ y hy
                rw [h, hg] at h1
                cases h1
                exact .inr ⟨h, h2⟩
          simp only [this]
    · have k1 : decide ((i : Int) < (out.length : Int)) = false := by simp; omega
      simp only [u_C l4_2.eq_1, runs, e_onS, AH.set_same, AH.set_set, List.map_cons, List.map_nil, List.length_cons, List.length_nil, List.drop_zero, List.drop_succ_cons, List.take_succ_cons, List.take_zero, List.take_nil, List.nil_append, List.cons_append, List.append_nil, List.all_cons, List.all_nil, Nat.zero_add, Nat.add_zero, ite_true, ite_false, if_true, if_false, ne_eq, not_false_eq_true, not_true_eq_false, and_true, true_and, and_self, Bool.and_true, Bool.true_and, Bool.not_true, Bool.not_false, List.getElem?_cons_zero, List.getElem?_cons_succ, Option.isSome_some, beq_self_eq_true, implies_true, forall_const, Nat.le_refl, Option.some.injEq, Option.getD_some, Option.getD_none, List.getElem?_nil, e_Lpn, e_Lpe, e_Lpr, decide_true, decide_false, Int.natCast_nonneg, Int.toNat_natCast, Int.toNat_zero, lt_irr, imp_self, false_implies, big_eq, pevA, takeA, putA, fillA, chunkA, zerosL, binA, binI, binS, isNilA, lookA, bndA, depA, depV, depM, depS, cellAt, elemAt, initA, Nat.reduceAdd, Nat.reduceLeDiff, Nat.reduceEqDiff, reduceIte, reduceCtorEq, Nat.reduceLT, Nat.reduceMul, Nat.reduceSub, Int.reduceAdd, Int.reduceSub, Int.reduceMul, Int.reduceLT, Int.reduceLE, Int.reduceEq, Int.reduceNe, Int.reduceNeg, Int.reduceToNat, f1, f5, f6, f7, f8, f10, oC_len, k1]
      have hio : i = out.length := by omega
      refine orders_5 x n hn hx hrl out p hp b K h _ d hK hb hk f1 f5 f6 f8 rfl hd fun y hy => ?_
      rw [hd1 y hy]
      obtain ⟨g, hg, _⟩ := hp.at_ y hy
      rw [if_pos (by rw [hio]; exact (List.getElem?_eq_some_iff.1 hg).1)]

set_option maxRecDepth 8000 in
theorem orders_main (E : TypeId) (l : List Int) (z : Int) (hl : l.length ≤ 40) : Pure T 4 [.lst E (lC l) .no, .int .i64 z] (.bool true) := by
  intro K h
  refine ACall.ret t4 fun hK => ?_
  have d0 : ¬ ((40 : Int) < (l.length : Int)) := by omega
  obtain ⟨hw15, n, hn, e15⟩ := mod15 z
  simp only [u_C c4.eq_1, runs, e_onS, AH.set_same, AH.set_set, List.map_cons, List.map_nil, List.length_cons, List.length_nil, List.drop_zero, List.drop_succ_cons, List.take_succ_cons, List.take_zero, List.take_nil, List.nil_append, List.cons_append, List.append_nil, List.all_cons, List.all_nil, Nat.zero_add, Nat.add_zero, ite_true, ite_false, if_true, if_false, ne_eq, not_false_eq_true, not_true_eq_false, and_true, true_and, and_self, Bool.and_true, Bool.true_and, Bool.not_true, Bool.not_false, List.getElem?_cons_zero, List.getElem?_cons_succ, Option.isSome_some, beq_self_eq_true, implies_true, forall_const, Nat.le_refl, Option.some.injEq, Option.getD_some, Option.getD_none, List.getElem?_nil, e_Lpn, e_Lpe, e_Lpr, decide_true, decide_false, Int.natCast_nonneg, Int.toNat_natCast, Int.toNat_zero, lt_irr, imp_self, false_implies, big_eq, pevA, takeA, putA, fillA, chunkA, zerosL, binA, binI, binS, isNilA, lookA, bndA, depA, depV, depM, depS, cellAt, elemAt, initA, Nat.reduceAdd, Nat.reduceLeDiff, Nat.reduceEqDiff, reduceIte, reduceCtorEq, Nat.reduceLT, Nat.reduceMul, Nat.reduceSub, Int.reduceAdd, Int.reduceSub, Int.reduceMul, Int.reduceLT, Int.reduceLE, Int.reduceEq, Int.reduceNe, Int.reduceNeg, Int.reduceToNat]
  refine first_ok.use ?_
  simp only [runs, e_onS, AH.set_same, AH.set_set, List.map_cons, List.map_nil, List.length_cons, List.length_nil, List.drop_zero, List.drop_succ_cons, List.take_succ_cons, List.take_zero, List.take_nil, List.nil_append, List.cons_append, List.append_nil, List.all_cons, List.all_nil, Nat.zero_add, Nat.add_zero, ite_true, ite_false, if_true, if_false, ne_eq, not_false_eq_true, not_true_eq_false, and_true, true_and, and_self, Bool.and_true, Bool.true_and, Bool.not_true, Bool.not_false, List.getElem?_cons_zero, List.getElem?_cons_succ, Option.isSome_some, beq_self_eq_true, implies_true, forall_const, Nat.le_refl, Option.some.injEq, Option.getD_some, Option.getD_none, List.getElem?_nil, e_Lpn, e_Lpe, e_Lpr, decide_true, decide_false, Int.natCast_nonneg, Int.toNat_natCast, Int.toNat_zero, lt_irr, imp_self, false_implies, big_eq, pevA, takeA, putA, fillA, chunkA, zerosL, binA, binI, binS, isNilA, lookA, bndA, depA, depV, depM, depS, cellAt, elemAt, initA, Nat.reduceAdd, Nat.reduceLeDiff, Nat.reduceEqDiff, reduceIte, reduceCtorEq, Nat.reduceLT, Nat.reduceMul, Nat.reduceSub, Int.reduceAdd, Int.reduceSub, Int.reduceMul, Int.reduceLT, Int.reduceLE, Int.reduceEq, Int.reduceNe, Int.reduceNeg, Int.reduceToNat, lC_len, d0, decide_false, hw15, e15]
  refine (needs_all E l n (by omega) hl).use ?_
  simp only [runs, e_onS, AH.set_same, AH.set_set, List.map_cons, List.map_nil, List.length_cons, List.length_nil, List.drop_zero, List.drop_succ_cons, List.take_succ_cons, List.take_zero, List.take_nil, List.nil_append, List.cons_append, List.append_nil, List.all_cons, List.all_nil, Nat.zero_add, Nat.add_zero, ite_true, ite_false, if_true, if_false, ne_eq, not_false_eq_true, not_true_eq_false, and_true, true_and, and_self, Bool.and_true, Bool.true_and, Bool.not_true, Bool.not_false, List.getElem?_cons_zero, List.getElem?_cons_succ, Option.isSome_some, beq_self_eq_true, implies_true, forall_const, Nat.le_refl, Option.some.injEq, Option.getD_some, Option.getD_none, List.getElem?_nil, e_Lpn, e_Lpe, e_Lpr, decide_true, decide_false, Int.natCast_nonneg, Int.toNat_natCast, Int.toNat_zero, lt_irr, imp_self, false_implies, big_eq, pevA, takeA, putA, fillA, chunkA, zerosL, binA, binI, binS, isNilA, lookA, bndA, depA, depV, depM, depS, cellAt, elemAt, initA, Nat.reduceAdd, Nat.reduceLeDiff, Nat.reduceEqDiff, reduceIte, reduceCtorEq, Nat.reduceLT, Nat.reduceMul, Nat.reduceSub, Int.reduceAdd, Int.reduceSub, Int.reduceMul, Int.reduceLT, Int.reduceLE, Int.reduceEq, Int.reduceNe, Int.reduceNeg, Int.reduceToNat]
  have hx := needs_in n l
  have hrl : ∀ row ∈ needsF n l, row.length ≤ 1000 := fun row hr => by have := needs_len n l row hr; omega
  generalize needsF n l = x at *
  refine (order_all x n (by omega) hx K h).mono ?_
  rintro _ h' ⟨out, hO, rfl, e⟩
  rw [e]
  clear e h'
  have hA := matF_is n x
  have hOut := Out.of hx hA hO
  obtain ⟨p, hp⟩ := hOut.pos hx hA
  simp only [runs, e_onS, AH.set_same, AH.set_set, List.map_cons, List.map_nil, List.length_cons, List.length_nil, List.drop_zero, List.drop_succ_cons, List.take_succ_cons, List.take_zero, List.take_nil, List.nil_append, List.cons_append, List.append_nil, List.all_cons, List.all_nil, Nat.zero_add, Nat.add_zero, ite_true, ite_false, if_true, if_false, ne_eq, not_false_eq_true, not_true_eq_false, and_true, true_and, and_self, Bool.and_true, Bool.true_and, Bool.not_true, Bool.not_false, List.getElem?_cons_zero, List.getElem?_cons_succ, Option.isSome_some, beq_self_eq_true, implies_true, forall_const, Nat.le_refl, Option.some.injEq, Option.getD_some, Option.getD_none, List.getElem?_nil, e_Lpn, e_Lpe, e_Lpr, decide_true, decide_false, Int.natCast_nonneg, Int.toNat_natCast, Int.toNat_zero, lt_irr, imp_self, false_implies, big_eq, pevA, takeA, putA, fillA, chunkA, zerosL, binA, binI, binS, isNilA, lookA, bndA, depA, depV, depM, depS, cellAt, elemAt, initA, Nat.reduceAdd, Nat.reduceLeDiff, Nat.reduceEqDiff, reduceIte, reduceCtorEq, Nat.reduceLT, Nat.reduceMul, Nat.reduceSub, Int.reduceAdd, Int.reduceSub, Int.reduceMul, Int.reduceLT, Int.reduceLE, Int.reduceEq, Int.reduceNe, Int.reduceNeg, Int.reduceToNat]
  refine WO.mksl (j := .i64) (k := .i64) (m := n) (n := n) rfl rfl (Nat.le_refl _) (by omega) (by omega) fun b hb hk => ?_
  have hc0 : (zerosL [Value.int .i64 0] n).map ofC1 = iC (List.replicate n 0) := by
    rw [zerosL_one, iC, List.map_replicate, List.map_replicate]; rfl
  simp only [runs, e_onS, AH.set_same, AH.set_set, List.map_cons, List.map_nil, List.length_cons, List.length_nil, List.drop_zero, List.drop_succ_cons, List.take_succ_cons, List.take_zero, List.take_nil, List.nil_append, List.cons_append, List.append_nil, List.all_cons, List.all_nil, Nat.zero_add, Nat.add_zero, ite_true, ite_false, if_true, if_false, ne_eq, not_false_eq_true, not_true_eq_false, and_true, true_and, and_self, Bool.and_true, Bool.true_and, Bool.not_true, Bool.not_false, List.getElem?_cons_zero, List.getElem?_cons_succ, Option.isSome_some, beq_self_eq_true, implies_true, forall_const, Nat.le_refl, Option.some.injEq, Option.getD_some, Option.getD_none, List.getElem?_nil, e_Lpn, e_Lpe, e_Lpr, decide_true, decide_false, Int.natCast_nonneg, Int.toNat_natCast, Int.toNat_zero, lt_irr, imp_self, false_implies, big_eq, pevA, takeA, putA, fillA, chunkA, zerosL, binA, binI, binS, isNilA, lookA, bndA, depA, depV, depM, depS, cellAt, elemAt, initA, Nat.reduceAdd, Nat.reduceLeDiff, Nat.reduceEqDiff, reduceIte, reduceCtorEq, Nat.reduceLT, Nat.reduceMul, Nat.reduceSub, Int.reduceAdd, Int.reduceSub, Int.reduceMul, Int.reduceLT, Int.reduceLE, Int.reduceEq, Int.reduceNe, Int.reduceNeg, Int.reduceToNat, hc0]
  refine aloop (α := Nat × List Int) (fun q fr h1 => fr 1 = .int .i64 n ∧ fr 5 = .bool true ∧ fr 6 = .lst 22 (rowsC x) .no ∧ fr 7 = .lst 22 (oC out) .no ∧ fr 8 = .slice b 0 n n ∧ fr 9 = .int .i64 q.1 ∧ q.1 ≤ n ∧ q.2.length = n ∧ (∀ y, y < q.1 → q.2.getD y 0 = -1) ∧ h1 = h.set b (.cells (iC q.2) 3)) (fun q => n - q.1) (0, List.replicate n 0) ?_ ?_
  · exact ⟨rfl, rfl, rfl, rfl, rfl, rfl, Nat.zero_le _, by simp, fun y hy => absurd hy (Nat.not_lt_zero _), rfl⟩
  · rintro ⟨i, d⟩ fr h1 ⟨f1, f5, f6, f7, f8, f9, hi, hd, hd1, rfl⟩
    simp only at f9 hi hd hd1
    by_cases hlt : i < n
    · have k1 : decide ((i : Int) < (n : Int)) = true := by simp; omega
      have c1 : (i : Int) < (n : Int) := by omega
      have hw : IntKind.i64.wrap ((i : Int) + 1) = ((i + 1 : Nat) : Int) := wrap64 ⟨by omega, by omega⟩
      have hpl : i + 1 ≤ (iC d).length := by rw [iC_len]; omega
      have hput := iC_set d i (-1) (by omega)
      simp only [u_C l4_0.eq_1, runs, e_onS, AH.set_same, AH.set_set, List.map_cons, List.map_nil, List.length_cons, List.length_nil, List.drop_zero, List.drop_succ_cons, List.take_succ_cons, List.take_zero, List.take_nil, List.nil_append, List.cons_append, List.append_nil, List.all_cons, List.all_nil, Nat.zero_add, Nat.add_zero, ite_true, ite_false, if_true, if_false, ne_eq, not_false_eq_true, not_true_eq_false, and_true, true_and, and_self, Bool.and_true, Bool.true_and, Bool.not_true, Bool.not_false, List.getElem?_cons_zero, List.getElem?_cons_succ, Option.isSome_some, beq_self_eq_true, implies_true, forall_const, Nat.le_refl, Option.some.injEq, Option.getD_some, Option.getD_none, List.getElem?_nil, e_Lpn, e_Lpe, e_Lpr, decide_true, decide_false, Int.natCast_nonneg, Int.toNat_natCast, Int.toNat_zero, lt_irr, imp_self, false_implies, big_eq, pevA, takeA, putA, fillA, chunkA, zerosL, binA, binI, binS, isNilA, lookA, bndA, depA, depV, depM, depS, cellAt, elemAt, initA, Nat.reduceAdd, Nat.reduceLeDiff, Nat.reduceEqDiff, reduceIte, reduceCtorEq, Nat.reduceLT, Nat.reduceMul, Nat.reduceSub, Int.reduceAdd, Int.reduceSub, Int.reduceMul, Int.reduceLT, Int.reduceLE, Int.reduceEq, Int.reduceNe, Int.reduceNeg, Int.reduceToNat, f1, f5, f6, f7, f8, f9, k1, c1, if_true, Int.toNat_natCast, Nat.mul_one, hpl, hput, hw]
      refine ⟨hk, (i + 1, d.set i (-1)), by show n - (i + 1) < n - i; omega, f1, f5, f6, f7, f8, by simp [upd], hlt, by rw [List.length_set]; exact hd, fun y hy => ?_, rfl⟩
      show (d.set i (-1)).getD y 0 = -1
      rw [setI (by omega)]
      split
      · rfl
      · exact hd1 y (by have : y < i + 1 := hy; omega)
    · have k1 : decide ((i : Int) < (n : Int)) = false := by simp; omega
      have hin : i = n := by omega
      subst hin
      simp only [u_C l4_0.eq_1, runs, e_onS, AH.set_same, AH.set_set, List.map_cons, List.map_nil, List.length_cons, List.length_nil, List.drop_zero, List.drop_succ_cons, List.take_succ_cons, List.take_zero, List.take_nil, List.nil_append, List.cons_append, List.append_nil, List.all_cons, List.all_nil, Nat.zero_add, Nat.add_zero, ite_true, ite_false, if_true, if_false, ne_eq, not_false_eq_true, not_true_eq_false, and_true, true_and, and_self, Bool.and_true, Bool.true_and, Bool.not_true, Bool.not_false, List.getElem?_cons_zero, List.getElem?_cons_succ, Option.isSome_some, beq_self_eq_true, implies_true, forall_const, Nat.le_refl, Option.some.injEq, Option.getD_some, Option.getD_none, List.getElem?_nil, e_Lpn, e_Lpe, e_Lpr, decide_true, decide_false, Int.natCast_nonneg, Int.toNat_natCast, Int.toNat_zero, lt_irr, imp_self, false_implies, big_eq, pevA, takeA, putA, fillA, chunkA, zerosL, binA, binI, binS, isNilA, lookA, bndA, depA, depV, depM, depS, cellAt, elemAt, initA, Nat.reduceAdd, Nat.reduceLeDiff, Nat.reduceEqDiff, reduceIte, reduceCtorEq, Nat.reduceLT, Nat.reduceMul, Nat.reduceSub, Int.reduceAdd, Int.reduceSub, Int.reduceMul, Int.reduceLT, Int.reduceLE, Int.reduceEq, Int.reduceNe, Int.reduceNeg, Int.reduceToNat, f1, f5, f6, f7, f8, f9, k1]
      refine orders_2 x i hn hx hrl out p hp b K h _ d hK hb hk f1 f5 f6 f7 f8 rfl hd fun y hy => ?_
      rw [if_neg (Nat.not_lt_zero _)]
      exact hd1 y hy
end Go.Proofs.Ytplnafebmpldgaa.p
