/- Classes; the chapter's examples. -/
import Derived.Test.YtfagmflapdgcmaaDoorSbA5
import Derived.Test.YtfagmflapdgcmaaDoorSbA1
namespace Go.Proofs.YtfagmflapdgcmaaDoor.p
open Go.Proofs Go Go.Cn code
set_option linter.unusedSimpArgs false
set_option linter.unusedVariables false

theorem classes_ok (c : Cl) (hc : c.length ≤ 100) (hl : ∀ p ∈ c, p.2.length ≤ 1000) {h : AH} {be : Nat} {mv m2v : AV} {E : TypeId} {tg : Tag} (he : h.objs be = some (.cells [.lst E (elsC c) tg, mv, m2v] 41)) (K : Nat → Prop) :
    ACall T K (.func 9) [.ptr be 0] h fun v h' => (∃ E' tg', v = .lst E' (elsC c) tg') ∧ h' = h := by
  refine ACall.retQ t9 fun hK => ?_
  simp only [u_C c9.eq_1, runs, e_onS, AH.set_same, AH.set_set, List.map_cons, List.map_nil, List.length_cons, List.length_nil, List.drop_zero, List.drop_succ_cons, List.take_succ_cons, List.take_zero, List.take_nil, List.nil_append, List.cons_append, List.append_nil, List.all_cons, List.all_nil, Nat.zero_add, Nat.add_zero, ite_true, ite_false, if_true, if_false, ne_eq, not_false_eq_true, not_true_eq_false, and_true, true_and, and_self, Bool.and_true, Bool.true_and, Bool.not_true, Bool.not_false, List.getElem?_cons_zero, List.getElem?_cons_succ, Option.isSome_some, beq_self_eq_true, implies_true, forall_const, Nat.le_refl, Option.some.injEq, Option.getD_some, Option.getD_none, List.getElem?_nil, e_Lpn, e_Lpe, e_Lpr, decide_true, decide_false, Int.natCast_nonneg, Int.toNat_natCast, Int.toNat_zero, lt_irr, imp_self, false_implies, big_eq, pevA, takeA, putA, fillA, chunkA, zerosL, binA, binI, binS, isNilA, lookA, bndA, depA, depV, depM, depS, cellAt, elemAt, initA, Nat.reduceAdd, Nat.reduceLeDiff, Nat.reduceEqDiff, reduceIte, reduceCtorEq, Nat.reduceLT, Nat.reduceMul, Nat.reduceSub, Int.reduceAdd, Int.reduceSub, Int.reduceMul, Int.reduceLT, Int.reduceLE, Int.reduceEq, Int.reduceNe, Int.reduceNeg, Int.reduceToNat, he, elsC_len]
  refine aloop (α := Nat) (fun i fr h1 => fr 9 = .lst E (elsC c) tg ∧ fr 10 = .int .i64 c.length ∧ fr 11 = .int .i64 i ∧ i ≤ c.length ∧
    ∃ E' tg' t, fr 3 = .lst E' (elsC (c.take i)) tg' ∧ Toks h.toks t [(tg', 32, 6, 0)] ∧ h1 = h.tk t) (fun i => c.length - i) 0 ?_ ?_
  · exact ⟨rfl, rfl, rfl, Nat.zero_le _, 0, .nil, h.toks, rfl, .one _ _ _, rfl⟩
  · rintro i fr h1 ⟨f9, f10, f11, hi, E', tg', t, f3, hT, rfl⟩
    by_cases hlt : i < c.length
    · have c1 : decide ((i : Int) < (c.length : Int)) = true := decide_eq_true (by omega)
      obtain ⟨p, hp⟩ : ∃ p, c[i]? = some p := ⟨c[i], by simp [hlt]⟩
      obtain ⟨nm, S⟩ := p
      have hel : (elsC c)[i]? = some (clsC nm (supN S)) := by rw [elsC, List.getElem?_map, hp]; rfl
      have hSv := supN_v S
      have n1 := hSv.one
      have hone : (clsC nm (supN S)).all oneA = true := by simp only [clsC, List.all_cons, List.all_nil, n1]; rfl
      have hne : clsC nm (supN S) ≠ [] := by simp [clsC]
      have ht6 : (clsC nm (supN S)).take 6 = clsC nm (supN S) := rfl
      have hd6 : (clsC nm (supN S)).drop 6 = [] := rfl
      have w : IntKind.i64.wrap ((i : Int) + 1) = ((i + 1 : Nat) : Int) := by rw [wrap64 ⟨by omega, by omega⟩]; rfl
      simp only [u_C l9_0.eq_1, runs, e_onS, AH.set_same, AH.set_set, List.map_cons, List.map_nil, List.length_cons, List.length_nil, List.drop_zero, List.drop_succ_cons, List.take_succ_cons, List.take_zero, List.take_nil, List.nil_append, List.cons_append, List.append_nil, List.all_cons, List.all_nil, Nat.zero_add, Nat.add_zero, ite_true, ite_false, if_true, if_false, ne_eq, not_false_eq_true, not_true_eq_false, and_true, true_and, and_self, Bool.and_true, Bool.true_and, Bool.not_true, Bool.not_false, List.getElem?_cons_zero, List.getElem?_cons_succ, Option.isSome_some, beq_self_eq_true, implies_true, forall_const, Nat.le_refl, Option.some.injEq, Option.getD_some, Option.getD_none, List.getElem?_nil, e_Lpn, e_Lpe, e_Lpr, decide_true, decide_false, Int.natCast_nonneg, Int.toNat_natCast, Int.toNat_zero, lt_irr, imp_self, false_implies, big_eq, pevA, takeA, putA, fillA, chunkA, zerosL, binA, binI, binS, isNilA, lookA, bndA, depA, depV, depM, depS, cellAt, elemAt, initA, Nat.reduceAdd, Nat.reduceLeDiff, Nat.reduceEqDiff, reduceIte, reduceCtorEq, Nat.reduceLT, Nat.reduceMul, Nat.reduceSub, Int.reduceAdd, Int.reduceSub, Int.reduceMul, Int.reduceLT, Int.reduceLE, Int.reduceEq, Int.reduceNe, Int.reduceNeg, Int.reduceToNat, f9, f10, f11, f3, c1, hel, hone, hne, clsC_len, ht6]
      refine (clone_ok nm S _ hSv (hl _ (List.mem_of_getElem? hp))).use ?_
      simp only [runs, e_onS, AH.set_same, AH.set_set, List.map_cons, List.map_nil, List.length_cons, List.length_nil, List.drop_zero, List.drop_succ_cons, List.take_succ_cons, List.take_zero, List.take_nil, List.nil_append, List.cons_append, List.append_nil, List.all_cons, List.all_nil, Nat.zero_add, Nat.add_zero, ite_true, ite_false, if_true, if_false, ne_eq, not_false_eq_true, not_true_eq_false, and_true, true_and, and_self, Bool.and_true, Bool.true_and, Bool.not_true, Bool.not_false, List.getElem?_cons_zero, List.getElem?_cons_succ, Option.isSome_some, beq_self_eq_true, implies_true, forall_const, Nat.le_refl, Option.some.injEq, Option.getD_some, Option.getD_none, List.getElem?_nil, e_Lpn, e_Lpe, e_Lpr, decide_true, decide_false, Int.natCast_nonneg, Int.toNat_natCast, Int.toNat_zero, lt_irr, imp_self, false_implies, big_eq, pevA, takeA, putA, fillA, chunkA, zerosL, binA, binI, binS, isNilA, lookA, bndA, depA, depV, depM, depS, cellAt, elemAt, initA, Nat.reduceAdd, Nat.reduceLeDiff, Nat.reduceEqDiff, reduceIte, reduceCtorEq, Nat.reduceLT, Nat.reduceMul, Nat.reduceSub, Int.reduceAdd, Int.reduceSub, Int.reduceMul, Int.reduceLT, Int.reduceLE, Int.reduceEq, Int.reduceNe, Int.reduceNeg, Int.reduceToNat, f9, f10, f11, f3, c1, hel, hone, hne, clsC_len, ht6, hd6]
      refine WO.append (i := 0) hT rfl rfl rfl trivial (by decide) (by simp [clsC_len]) (by simpa using hone) (.inr rfl) (fun _ => ?_) ?_ fun tag2 t2 hT2 => ?_
      · simp [capOk, elsC_len]; omega
      · simp [big_eq, elsC_len]; omega
      have hap : elsC (c.take i) ++ [clsC nm (supN S)] = elsC (c.take (i + 1)) := by rw [List.take_add_one, hp]; exact (elsC_app _ (nm, S)).symm
      rw [hap]
      simp only [runs, e_onS, AH.set_same, AH.set_set, List.map_cons, List.map_nil, List.length_cons, List.length_nil, List.drop_zero, List.drop_succ_cons, List.take_succ_cons, List.take_zero, List.take_nil, List.nil_append, List.cons_append, List.append_nil, List.all_cons, List.all_nil, Nat.zero_add, Nat.add_zero, ite_true, ite_false, if_true, if_false, ne_eq, not_false_eq_true, not_true_eq_false, and_true, true_and, and_self, Bool.and_true, Bool.true_and, Bool.not_true, Bool.not_false, List.getElem?_cons_zero, List.getElem?_cons_succ, Option.isSome_some, beq_self_eq_true, implies_true, forall_const, Nat.le_refl, Option.some.injEq, Option.getD_some, Option.getD_none, List.getElem?_nil, e_Lpn, e_Lpe, e_Lpr, decide_true, decide_false, Int.natCast_nonneg, Int.toNat_natCast, Int.toNat_zero, lt_irr, imp_self, false_implies, big_eq, pevA, takeA, putA, fillA, chunkA, zerosL, binA, binI, binS, isNilA, lookA, bndA, depA, depV, depM, depS, cellAt, elemAt, initA, Nat.reduceAdd, Nat.reduceLeDiff, Nat.reduceEqDiff, reduceIte, reduceCtorEq, Nat.reduceLT, Nat.reduceMul, Nat.reduceSub, Int.reduceAdd, Int.reduceSub, Int.reduceMul, Int.reduceLT, Int.reduceLE, Int.reduceEq, Int.reduceNe, Int.reduceNeg, Int.reduceToNat, f11, w]
      exact ⟨i + 1, by show c.length - (i + 1) < c.length - i; omega, f9, f10, rfl, hlt, 32, tag2, t2, rfl, hT2, rfl⟩
    · have hie : i = c.length := by omega
      subst hie
      have c1 : decide ((c.length : Int) < (c.length : Int)) = false := by simp
      rw [List.take_length] at f3
      simp only [u_C l9_0.eq_1, runs, e_onS, AH.set_same, AH.set_set, List.map_cons, List.map_nil, List.length_cons, List.length_nil, List.drop_zero, List.drop_succ_cons, List.take_succ_cons, List.take_zero, List.take_nil, List.nil_append, List.cons_append, List.append_nil, List.all_cons, List.all_nil, Nat.zero_add, Nat.add_zero, ite_true, ite_false, if_true, if_false, ne_eq, not_false_eq_true, not_true_eq_false, and_true, true_and, and_self, Bool.and_true, Bool.true_and, Bool.not_true, Bool.not_false, List.getElem?_cons_zero, List.getElem?_cons_succ, Option.isSome_some, beq_self_eq_true, implies_true, forall_const, Nat.le_refl, Option.some.injEq, Option.getD_some, Option.getD_none, List.getElem?_nil, e_Lpn, e_Lpe, e_Lpr, decide_true, decide_false, Int.natCast_nonneg, Int.toNat_natCast, Int.toNat_zero, lt_irr, imp_self, false_implies, big_eq, pevA, takeA, putA, fillA, chunkA, zerosL, binA, binI, binS, isNilA, lookA, bndA, depA, depV, depM, depS, cellAt, elemAt, initA, Nat.reduceAdd, Nat.reduceLeDiff, Nat.reduceEqDiff, reduceIte, reduceCtorEq, Nat.reduceLT, Nat.reduceMul, Nat.reduceSub, Int.reduceAdd, Int.reduceSub, Int.reduceMul, Int.reduceLT, Int.reduceLE, Int.reduceEq, Int.reduceNe, Int.reduceNeg, Int.reduceToNat, f9, f10, f11, f3, c1]
      exact ⟨_, h, .drop (tk_le (AH.le_refl _) hT.le) (.refl _ _), hK, ⟨E', tg', rfl⟩, rfl⟩

/-- the example's class -/
def rwC : Rw := [([67], [], .lst 0 [] .nil)]
theorem first_ok : Pure T 4 [] (.bool true) := by
  intro K h
  refine ACall.ret t4 fun hK => ?_
  simp only [u_C c4.eq_1, runs, e_onS, AH.set_same, AH.set_set, List.map_cons, List.map_nil, List.length_cons, List.length_nil, List.drop_zero, List.drop_succ_cons, List.take_succ_cons, List.take_zero, List.take_nil, List.nil_append, List.cons_append, List.append_nil, List.all_cons, List.all_nil, Nat.zero_add, Nat.add_zero, ite_true, ite_false, if_true, if_false, ne_eq, not_false_eq_true, not_true_eq_false, and_true, true_and, and_self, Bool.and_true, Bool.true_and, Bool.not_true, Bool.not_false, List.getElem?_cons_zero, List.getElem?_cons_succ, Option.isSome_some, beq_self_eq_true, implies_true, forall_const, Nat.le_refl, Option.some.injEq, Option.getD_some, Option.getD_none, List.getElem?_nil, e_Lpn, e_Lpe, e_Lpr, decide_true, decide_false, Int.natCast_nonneg, Int.toNat_natCast, Int.toNat_zero, lt_irr, imp_self, false_implies, big_eq, pevA, takeA, putA, fillA, chunkA, zerosL, binA, binI, binS, isNilA, lookA, bndA, depA, depV, depM, depS, cellAt, elemAt, initA, Nat.reduceAdd, Nat.reduceLeDiff, Nat.reduceEqDiff, reduceIte, reduceCtorEq, Nat.reduceLT, Nat.reduceMul, Nat.reduceSub, Int.reduceAdd, Int.reduceSub, Int.reduceMul, Int.reduceLT, Int.reduceLE, Int.reduceEq, Int.reduceNe, Int.reduceNeg, Int.reduceToNat]
  intro b1 hb1 hk1
  simp only [runs, e_onS, AH.set_same, AH.set_set, List.map_cons, List.map_nil, List.length_cons, List.length_nil, List.drop_zero, List.drop_succ_cons, List.take_succ_cons, List.take_zero, List.take_nil, List.nil_append, List.cons_append, List.append_nil, List.all_cons, List.all_nil, Nat.zero_add, Nat.add_zero, ite_true, ite_false, if_true, if_false, ne_eq, not_false_eq_true, not_true_eq_false, and_true, true_and, and_self, Bool.and_true, Bool.true_and, Bool.not_true, Bool.not_false, List.getElem?_cons_zero, List.getElem?_cons_succ, Option.isSome_some, beq_self_eq_true, implies_true, forall_const, Nat.le_refl, Option.some.injEq, Option.getD_some, Option.getD_none, List.getElem?_nil, e_Lpn, e_Lpe, e_Lpr, decide_true, decide_false, Int.natCast_nonneg, Int.toNat_natCast, Int.toNat_zero, lt_irr, imp_self, false_implies, big_eq, pevA, takeA, putA, fillA, chunkA, zerosL, binA, binI, binS, isNilA, lookA, bndA, depA, depV, depM, depS, cellAt, elemAt, initA, Nat.reduceAdd, Nat.reduceLeDiff, Nat.reduceEqDiff, reduceIte, reduceCtorEq, Nat.reduceLT, Nat.reduceMul, Nat.reduceSub, Int.reduceAdd, Int.reduceSub, Int.reduceMul, Int.reduceLT, Int.reduceLE, Int.reduceEq, Int.reduceNe, Int.reduceNeg, Int.reduceToNat]
  intro b2 hb2 hk2
  obtain ⟨n21, hb2⟩ := AH.set_none.1 hb2
  simp only [runs, e_onS, AH.set_same, AH.set_set, List.map_cons, List.map_nil, List.length_cons, List.length_nil, List.drop_zero, List.drop_succ_cons, List.take_succ_cons, List.take_zero, List.take_nil, List.nil_append, List.cons_append, List.append_nil, List.all_cons, List.all_nil, Nat.zero_add, Nat.add_zero, ite_true, ite_false, if_true, if_false, ne_eq, not_false_eq_true, not_true_eq_false, and_true, true_and, and_self, Bool.and_true, Bool.true_and, Bool.not_true, Bool.not_false, List.getElem?_cons_zero, List.getElem?_cons_succ, Option.isSome_some, beq_self_eq_true, implies_true, forall_const, Nat.le_refl, Option.some.injEq, Option.getD_some, Option.getD_none, List.getElem?_nil, e_Lpn, e_Lpe, e_Lpr, decide_true, decide_false, Int.natCast_nonneg, Int.toNat_natCast, Int.toNat_zero, lt_irr, imp_self, false_implies, big_eq, pevA, takeA, putA, fillA, chunkA, zerosL, binA, binI, binS, isNilA, lookA, bndA, depA, depV, depM, depS, cellAt, elemAt, initA, Nat.reduceAdd, Nat.reduceLeDiff, Nat.reduceEqDiff, reduceIte, reduceCtorEq, Nat.reduceLT, Nat.reduceMul, Nat.reduceSub, Int.reduceAdd, Int.reduceSub, Int.reduceMul, Int.reduceLT, Int.reduceLE, Int.reduceEq, Int.reduceNe, Int.reduceNeg, Int.reduceToNat]
  refine WO.bslO (cs := rowC rwC) ?_ fun rb hrb hkr => ?_
  · simp only [runs, e_onS, AH.set_same, AH.set_set, List.map_cons, List.map_nil, List.length_cons, List.length_nil, List.drop_zero, List.drop_succ_cons, List.take_succ_cons, List.take_zero, List.take_nil, List.nil_append, List.cons_append, List.append_nil, List.all_cons, List.all_nil, Nat.zero_add, Nat.add_zero, ite_true, ite_false, if_true, if_false, ne_eq, not_false_eq_true, not_true_eq_false, and_true, true_and, and_self, Bool.and_true, Bool.true_and, Bool.not_true, Bool.not_false, List.getElem?_cons_zero, List.getElem?_cons_succ, Option.isSome_some, beq_self_eq_true, implies_true, forall_const, Nat.le_refl, Option.some.injEq, Option.getD_some, Option.getD_none, List.getElem?_nil, e_Lpn, e_Lpe, e_Lpr, decide_true, decide_false, Int.natCast_nonneg, Int.toNat_natCast, Int.toNat_zero, lt_irr, imp_self, false_implies, big_eq, pevA, takeA, putA, fillA, chunkA, zerosL, binA, binI, binS, isNilA, lookA, bndA, depA, depV, depM, depS, cellAt, elemAt, initA, Nat.reduceAdd, Nat.reduceLeDiff, Nat.reduceEqDiff, reduceIte, reduceCtorEq, Nat.reduceLT, Nat.reduceMul, Nat.reduceSub, Int.reduceAdd, Int.reduceSub, Int.reduceMul, Int.reduceLT, Int.reduceLE, Int.reduceEq, Int.reduceNe, Int.reduceNeg, Int.reduceToNat]
    rfl
  obtain ⟨nr2, hrb⟩ := AH.set_none.1 hrb
  obtain ⟨nr1, hrb⟩ := AH.set_none.1 hrb
  simp only [runs, e_onS, AH.set_same, AH.set_set, List.map_cons, List.map_nil, List.length_cons, List.length_nil, List.drop_zero, List.drop_succ_cons, List.take_succ_cons, List.take_zero, List.take_nil, List.nil_append, List.cons_append, List.append_nil, List.all_cons, List.all_nil, Nat.zero_add, Nat.add_zero, ite_true, ite_false, if_true, if_false, ne_eq, not_false_eq_true, not_true_eq_false, and_true, true_and, and_self, Bool.and_true, Bool.true_and, Bool.not_true, Bool.not_false, List.getElem?_cons_zero, List.getElem?_cons_succ, Option.isSome_some, beq_self_eq_true, implies_true, forall_const, Nat.le_refl, Option.some.injEq, Option.getD_some, Option.getD_none, List.getElem?_nil, e_Lpn, e_Lpe, e_Lpr, decide_true, decide_false, Int.natCast_nonneg, Int.toNat_natCast, Int.toNat_zero, lt_irr, imp_self, false_implies, big_eq, pevA, takeA, putA, fillA, chunkA, zerosL, binA, binI, binS, isNilA, lookA, bndA, depA, depV, depM, depS, cellAt, elemAt, initA, Nat.reduceAdd, Nat.reduceLeDiff, Nat.reduceEqDiff, reduceIte, reduceCtorEq, Nat.reduceLT, Nat.reduceMul, Nat.reduceSub, Int.reduceAdd, Int.reduceSub, Int.reduceMul, Int.reduceLT, Int.reduceLE, Int.reduceEq, Int.reduceNe, Int.reduceNeg, Int.reduceToNat]
  have hgr : ∀ n, gr (clR rwC) n = [] := by
    intro n
    show (match (if n = [67] then some (0, []) else none : Option (Nat × List Nm)) with | some x => x.2 | none => []) = []
    by_cases e : n = [67] <;> simp [e]
  have hab : ∀ n, ab (clR rwC) [[67]] n = [] := fun n => by
    show (gr (clR rwC) n).foldl _ [] = []
    rw [hgr]; rfl
  have hadd := add_ok rwC (by simp [rwC]) (by simp [rwC]) [[67]] (by simp) (fun n s hs => by rw [hgr] at hs; cases hs) (by simp [clR, rwC]) (fun p hp => by
      simp only [rwC, List.mem_singleton] at hp
      subst hp
      exact ⟨.inl ⟨rfl, rfl⟩, .nil, by simp, by simp⟩) (h := ((h.set b1 (.cells [.lst 0 [] .nil, .nilm, .nilm] 41)).set b2 (.cells [.lst 0 [] .nil, .nilm, .nilm] 38)).set rb (.cells (rowC rwC) 32)) (be := b1) (rb := rb) (mv := .nilm) (m2v := .nilm) (kv := .ptr b2 0) (E := 0) (Er := 32)
      (by rw [AH.set_ne _ _ nr1.symm, AH.set_ne _ _ n21.symm, AH.set_same]) (AH.set_same _ _ _) 0 0 (fun ⟨p, _, hp⟩ => by rw [hab] at hp; cases hp) K hk1
  refine hadd.mono ?_
  rintro v h' (⟨_, rfl, m1, m2, tg, t, hm1, hm2, x1, x2, x3, hT, rfl⟩ | ⟨⟨p, _, hp⟩, _, _⟩)
  · have he : EnvA (((((((h.set b1 (.cells [.lst 0 [] .nil, .nilm, .nilm] 41)).set b2 (.cells [.lst 0 [] .nil, .nilm, .nilm] 38)).set rb (.cells (rowC rwC) 32)).set m1 (.map (byN 0 (clR rwC)))).set m2 (.map [])).set b1 (.cells [.lst 32 (elsC (clR rwC)) tg, .map m1, .map m2] 41)).tk t) b1 (.map m1) (.map m2) 32 tg (clR rwC) :=
      ⟨by rw [tk_objs, AH.set_same], by rw [en_m, tk_objs, AH.set_ne _ _ x1, AH.set_ne _ _ x3.symm, AH.set_same]⟩
    simp only [runs, e_onS, AH.set_same, AH.set_set, List.map_cons, List.map_nil, List.length_cons, List.length_nil, List.drop_zero, List.drop_succ_cons, List.take_succ_cons, List.take_zero, List.take_nil, List.nil_append, List.cons_append, List.append_nil, List.all_cons, List.all_nil, Nat.zero_add, Nat.add_zero, ite_true, ite_false, if_true, if_false, ne_eq, not_false_eq_true, not_true_eq_false, and_true, true_and, and_self, Bool.and_true, Bool.true_and, Bool.not_true, Bool.not_false, List.getElem?_cons_zero, List.getElem?_cons_succ, Option.isSome_some, beq_self_eq_true, implies_true, forall_const, Nat.le_refl, Option.some.injEq, Option.getD_some, Option.getD_none, List.getElem?_nil, e_Lpn, e_Lpe, e_Lpr, decide_true, decide_false, Int.natCast_nonneg, Int.toNat_natCast, Int.toNat_zero, lt_irr, imp_self, false_implies, big_eq, pevA, takeA, putA, fillA, chunkA, zerosL, binA, binI, binS, isNilA, lookA, bndA, depA, depV, depM, depS, cellAt, elemAt, initA, Nat.reduceAdd, Nat.reduceLeDiff, Nat.reduceEqDiff, reduceIte, reduceCtorEq, Nat.reduceLT, Nat.reduceMul, Nat.reduceSub, Int.reduceAdd, Int.reduceSub, Int.reduceMul, Int.reduceLT, Int.reduceLE, Int.reduceEq, Int.reduceNe, Int.reduceNeg, Int.reduceToNat]
    refine (Above_ok (clR rwC) [[67]] (by simp) (fun n s hs => by rw [hgr] at hs; cases hs) (by simp [clR, rwC]) he [67] K).mono ?_
    rintro _ _ ⟨rfl, rfl⟩
    rw [hab]
    have e0 : strC [] = [] := rfl
    rw [e0]
    have k0 : decide (((0 : Nat) : Int) = 0) = true := rfl
    have k1 : decide (((1 : Nat) : Int) = 1) = true := rfl
    simp only [runs, e_onS, AH.set_same, AH.set_set, List.map_cons, List.map_nil, List.length_cons, List.length_nil, List.drop_zero, List.drop_succ_cons, List.take_succ_cons, List.take_zero, List.take_nil, List.nil_append, List.cons_append, List.append_nil, List.all_cons, List.all_nil, Nat.zero_add, Nat.add_zero, ite_true, ite_false, if_true, if_false, ne_eq, not_false_eq_true, not_true_eq_false, and_true, true_and, and_self, Bool.and_true, Bool.true_and, Bool.not_true, Bool.not_false, List.getElem?_cons_zero, List.getElem?_cons_succ, Option.isSome_some, beq_self_eq_true, implies_true, forall_const, Nat.le_refl, Option.some.injEq, Option.getD_some, Option.getD_none, List.getElem?_nil, e_Lpn, e_Lpe, e_Lpr, decide_true, decide_false, Int.natCast_nonneg, Int.toNat_natCast, Int.toNat_zero, lt_irr, imp_self, false_implies, big_eq, pevA, takeA, putA, fillA, chunkA, zerosL, binA, binI, binS, isNilA, lookA, bndA, depA, depV, depM, depS, cellAt, elemAt, initA, Nat.reduceAdd, Nat.reduceLeDiff, Nat.reduceEqDiff, reduceIte, reduceCtorEq, Nat.reduceLT, Nat.reduceMul, Nat.reduceSub, Int.reduceAdd, Int.reduceSub, Int.reduceMul, Int.reduceLT, Int.reduceLE, Int.reduceEq, Int.reduceNe, Int.reduceNeg, Int.reduceToNat, k0]
    refine (classes_ok (clR rwC) (by simp [clR, rwC]) (by simp [clR, rwC]) he.o K).mono ?_
    rintro _ _ ⟨⟨E', tg', rfl⟩, rfl⟩
    have e1 : (elsC (clR rwC)).length = 1 := rfl
    simp only [runs, e_onS, AH.set_same, AH.set_set, List.map_cons, List.map_nil, List.length_cons, List.length_nil, List.drop_zero, List.drop_succ_cons, List.take_succ_cons, List.take_zero, List.take_nil, List.nil_append, List.cons_append, List.append_nil, List.all_cons, List.all_nil, Nat.zero_add, Nat.add_zero, ite_true, ite_false, if_true, if_false, ne_eq, not_false_eq_true, not_true_eq_false, and_true, true_and, and_self, Bool.and_true, Bool.true_and, Bool.not_true, Bool.not_false, List.getElem?_cons_zero, List.getElem?_cons_succ, Option.isSome_some, beq_self_eq_true, implies_true, forall_const, Nat.le_refl, Option.some.injEq, Option.getD_some, Option.getD_none, List.getElem?_nil, e_Lpn, e_Lpe, e_Lpr, decide_true, decide_false, Int.natCast_nonneg, Int.toNat_natCast, Int.toNat_zero, lt_irr, imp_self, false_implies, big_eq, pevA, takeA, putA, fillA, chunkA, zerosL, binA, binI, binS, isNilA, lookA, bndA, depA, depV, depM, depS, cellAt, elemAt, initA, Nat.reduceAdd, Nat.reduceLeDiff, Nat.reduceEqDiff, reduceIte, reduceCtorEq, Nat.reduceLT, Nat.reduceMul, Nat.reduceSub, Int.reduceAdd, Int.reduceSub, Int.reduceMul, Int.reduceLT, Int.reduceLE, Int.reduceEq, Int.reduceNe, Int.reduceNeg, Int.reduceToNat, e1, k1]
    have q1 : h.objs m1 = none := (AH.set_none.1 (AH.set_none.1 (AH.set_none.1 hm1).2).2).2
    have q2 : h.objs m2 = none := (AH.set_none.1 (AH.set_none.1 (AH.set_none.1 hm2).2).2).2
    exact ⟨.refl _, tk_le (le_set (le_set (le_set (le_set (le_set (le_set (AH.le_refl _) hb1) hb2) hrb) q1) q2) hb1) hT.le⟩
  · rw [hab] at hp; cases hp

-- what an error is, as a number
theorem placed_ok : Pure T 16 [.int .i64 105, .int .i64 0] (.agg [.int .i64 105, .bool true, .int .i64 0]) := by
  intro K h
  refine ACall.ret t16 fun hK => ?_
  simp only [u_C c16.eq_1, runs, e_onS, AH.set_same, AH.set_set, List.map_cons, List.map_nil, List.length_cons, List.length_nil, List.drop_zero, List.drop_succ_cons, List.take_succ_cons, List.take_zero, List.take_nil, List.nil_append, List.cons_append, List.append_nil, List.all_cons, List.all_nil, Nat.zero_add, Nat.add_zero, ite_true, ite_false, if_true, if_false, ne_eq, not_false_eq_true, not_true_eq_false, and_true, true_and, and_self, Bool.and_true, Bool.true_and, Bool.not_true, Bool.not_false, List.getElem?_cons_zero, List.getElem?_cons_succ, Option.isSome_some, beq_self_eq_true, implies_true, forall_const, Nat.le_refl, Option.some.injEq, Option.getD_some, Option.getD_none, List.getElem?_nil, e_Lpn, e_Lpe, e_Lpr, decide_true, decide_false, Int.natCast_nonneg, Int.toNat_natCast, Int.toNat_zero, lt_irr, imp_self, false_implies, big_eq, pevA, takeA, putA, fillA, chunkA, zerosL, binA, binI, binS, isNilA, lookA, bndA, depA, depV, depM, depS, cellAt, elemAt, initA, Nat.reduceAdd, Nat.reduceLeDiff, Nat.reduceEqDiff, reduceIte, reduceCtorEq, Nat.reduceLT, Nat.reduceMul, Nat.reduceSub, Int.reduceAdd, Int.reduceSub, Int.reduceMul, Int.reduceLT, Int.reduceLE, Int.reduceEq, Int.reduceNe, Int.reduceNeg, Int.reduceToNat]
  intro b hb hk
  simp only [runs, e_onS, AH.set_same, AH.set_set, List.map_cons, List.map_nil, List.length_cons, List.length_nil, List.drop_zero, List.drop_succ_cons, List.take_succ_cons, List.take_zero, List.take_nil, List.nil_append, List.cons_append, List.append_nil, List.all_cons, List.all_nil, Nat.zero_add, Nat.add_zero, ite_true, ite_false, if_true, if_false, ne_eq, not_false_eq_true, not_true_eq_false, and_true, true_and, and_self, Bool.and_true, Bool.true_and, Bool.not_true, Bool.not_false, List.getElem?_cons_zero, List.getElem?_cons_succ, Option.isSome_some, beq_self_eq_true, implies_true, forall_const, Nat.le_refl, Option.some.injEq, Option.getD_some, Option.getD_none, List.getElem?_nil, e_Lpn, e_Lpe, e_Lpr, decide_true, decide_false, Int.natCast_nonneg, Int.toNat_natCast, Int.toNat_zero, lt_irr, imp_self, false_implies, big_eq, pevA, takeA, putA, fillA, chunkA, zerosL, binA, binI, binS, isNilA, lookA, bndA, depA, depV, depM, depS, cellAt, elemAt, initA, Nat.reduceAdd, Nat.reduceLeDiff, Nat.reduceEqDiff, reduceIte, reduceCtorEq, Nat.reduceLT, Nat.reduceMul, Nat.reduceSub, Int.reduceAdd, Int.reduceSub, Int.reduceMul, Int.reduceLT, Int.reduceLE, Int.reduceEq, Int.reduceNe, Int.reduceNeg, Int.reduceToNat, hk]
  exact ⟨.refl _, by rw [s_del hb]; exact AH.le_refl _⟩

/-- the package-level variables -/
structure GA (h : AH) (ga : Nat → Nat) (Eg : Nat → TypeId) : Prop where
  g : ∀ g, g < 15 → h.objs g = some (.stat [.iface 121 (.ptr (ga g) 0)] (Eg g))
  s : ∀ g, g < 15 → ∃ cs E, h.objs (ga g) = some (.stat cs E)
  inj : ∀ g g', g < 15 → g' < 15 → ga g = ga g' → g = g'
theorem GA.mono {h h' : AH} {ga : Nat → Nat} {Eg : Nat → TypeId} (hg : GA h ga Eg) (hk : ∀ b o, h.objs b = some o → h'.objs b = some o) : GA h' ga Eg :=
  ⟨fun g hl => hk _ _ (hg.g g hl), fun g hl => let ⟨cs, E, e⟩ := hg.s g hl; ⟨cs, E, hk _ _ e⟩, hg.inj⟩
theorem GA.set {h : AH} {ga : Nat → Nat} {Eg : Nat → TypeId} (hg : GA h ga Eg) {b : Nat} {o : AO} (hb : h.objs b = none) : GA (h.set b o) ga Eg :=
  hg.mono fun n x hn => by rw [AH.set_ne _ _ (by rintro rfl; rw [hb] at hn; cases hn)]; exact hn

def sens (ga : Nat → Nat) : List (List AV) := [2, 3, 4, 0, 1, 5, 6, 7, 8, 9, 10, 11, 12, 13, 14].map fun g => [.iface 121 (.ptr (ga g) 0)]
theorem sentinels_ok {h : AH} {ga : Nat → Nat} {Eg : Nat → TypeId} (hg : GA h ga Eg) (K : Nat → Prop) : ACall T K (.func 24) [] h fun v h' => v = .lst 47 (sens ga) .no ∧ h' = h := by
  refine ACall.ret t24 fun hK => ?_
  simp only [u_C c24.eq_1, runs, e_onS, AH.set_same, AH.set_set, List.map_cons, List.map_nil, List.length_cons, List.length_nil, List.drop_zero, List.drop_succ_cons, List.take_succ_cons, List.take_zero, List.take_nil, List.nil_append, List.cons_append, List.append_nil, List.all_cons, List.all_nil, Nat.zero_add, Nat.add_zero, ite_true, ite_false, if_true, if_false, ne_eq, not_false_eq_true, not_true_eq_false, and_true, true_and, and_self, Bool.and_true, Bool.true_and, Bool.not_true, Bool.not_false, List.getElem?_cons_zero, List.getElem?_cons_succ, Option.isSome_some, beq_self_eq_true, implies_true, forall_const, Nat.le_refl, Option.some.injEq, Option.getD_some, Option.getD_none, List.getElem?_nil, e_Lpn, e_Lpe, e_Lpr, decide_true, decide_false, Int.natCast_nonneg, Int.toNat_natCast, Int.toNat_zero, lt_irr, imp_self, false_implies, big_eq, pevA, takeA, putA, fillA, chunkA, zerosL, binA, binI, binS, isNilA, lookA, bndA, depA, depV, depM, depS, cellAt, elemAt, initA, Nat.reduceAdd, Nat.reduceLeDiff, Nat.reduceEqDiff, reduceIte, reduceCtorEq, Nat.reduceLT, Nat.reduceMul, Nat.reduceSub, Int.reduceAdd, Int.reduceSub, Int.reduceMul, Int.reduceLT, Int.reduceLE, Int.reduceEq, Int.reduceNe, Int.reduceNeg, Int.reduceToNat, hg.g 0 (by decide), hg.g 1 (by decide), hg.g 2 (by decide), hg.g 3 (by decide), hg.g 4 (by decide), hg.g 5 (by decide), hg.g 6 (by decide), hg.g 7 (by decide), hg.g 8 (by decide), hg.g 9 (by decide), hg.g 10 (by decide), hg.g 11 (by decide), hg.g 12 (by decide), hg.g 13 (by decide), hg.g 14 (by decide)]
  exact ⟨.refl _, AH.le_refl _⟩
theorem alike_ok {h : AH} {ga : Nat → Nat} {Eg : Nat → TypeId} (hg : GA h ga Eg) (x y : Nat) (hx : x < 15) (hy : y < 15) (K : Nat → Prop) : ACall T K (.func 25) [.iface 121 (.ptr (ga x) 0), .iface 121 (.ptr (ga y) 0)] h fun v h' => v = .bool (decide (x = y)) ∧ h' = h := by
  refine ACall.ret t25 fun hK => ?_
  have he : eqIA h [15, 17, 26, 49, 56, 63, 121, 133] [5, 6, 130, 131] (.iface 121 (.ptr (ga x) 0)) (.iface 121 (.ptr (ga y) 0)) = some (decide (x = y)) := by
    have hok : ([15, 17, 26, 49, 56, 63, 121, 133] : List TypeId).contains 121 = true := by decide
    simp only [eqIA, if_true, hok]
    by_cases e : x = y
    · subst e; simp
    · have hne : ga x ≠ ga y := fun h => e (hg.inj x y hx hy h)
      obtain ⟨c1, E1, e1⟩ := hg.s x hx
      obtain ⟨c2, E2, e2⟩ := hg.s y hy
      simp [hne, e, apartA, e1, e2]
  simp only [u_C c25.eq_1, runs, e_onS, AH.set_same, AH.set_set, List.map_cons, List.map_nil, List.length_cons, List.length_nil, List.drop_zero, List.drop_succ_cons, List.take_succ_cons, List.take_zero, List.take_nil, List.nil_append, List.cons_append, List.append_nil, List.all_cons, List.all_nil, Nat.zero_add, Nat.add_zero, ite_true, ite_false, if_true, if_false, ne_eq, not_false_eq_true, not_true_eq_false, and_true, true_and, and_self, Bool.and_true, Bool.true_and, Bool.not_true, Bool.not_false, List.getElem?_cons_zero, List.getElem?_cons_succ, Option.isSome_some, beq_self_eq_true, implies_true, forall_const, Nat.le_refl, Option.some.injEq, Option.getD_some, Option.getD_none, List.getElem?_nil, e_Lpn, e_Lpe, e_Lpr, decide_true, decide_false, Int.natCast_nonneg, Int.toNat_natCast, Int.toNat_zero, lt_irr, imp_self, false_implies, big_eq, pevA, takeA, putA, fillA, chunkA, zerosL, binA, binI, binS, isNilA, lookA, bndA, depA, depV, depM, depS, cellAt, elemAt, initA, Nat.reduceAdd, Nat.reduceLeDiff, Nat.reduceEqDiff, reduceIte, reduceCtorEq, Nat.reduceLT, Nat.reduceMul, Nat.reduceSub, Int.reduceAdd, Int.reduceSub, Int.reduceMul, Int.reduceLT, Int.reduceLE, Int.reduceEq, Int.reduceNe, Int.reduceNeg, Int.reduceToNat, he]
  exact ⟨.refl _, AH.le_refl _⟩
theorem sentinel_ok {h : AH} {ga : Nat → Nat} {Eg : Nat → TypeId} (hg : GA h ga Eg) (K : Nat → Prop) : ACall T K (.func 15) [.iface 121 (.ptr (ga 1) 0)] h fun v h' => v = .int .i64 105 ∧ h' = h := by
  refine ACall.ret t15 fun hK => ?_
  simp only [u_C c15.eq_1, runs, e_onS, AH.set_same, AH.set_set, List.map_cons, List.map_nil, List.length_cons, List.length_nil, List.drop_zero, List.drop_succ_cons, List.take_succ_cons, List.take_zero, List.take_nil, List.nil_append, List.cons_append, List.append_nil, List.all_cons, List.all_nil, Nat.zero_add, Nat.add_zero, ite_true, ite_false, if_true, if_false, ne_eq, not_false_eq_true, not_true_eq_false, and_true, true_and, and_self, Bool.and_true, Bool.true_and, Bool.not_true, Bool.not_false, List.getElem?_cons_zero, List.getElem?_cons_succ, Option.isSome_some, beq_self_eq_true, implies_true, forall_const, Nat.le_refl, Option.some.injEq, Option.getD_some, Option.getD_none, List.getElem?_nil, e_Lpn, e_Lpe, e_Lpr, decide_true, decide_false, Int.natCast_nonneg, Int.toNat_natCast, Int.toNat_zero, lt_irr, imp_self, false_implies, big_eq, pevA, takeA, putA, fillA, chunkA, zerosL, binA, binI, binS, isNilA, lookA, bndA, depA, depV, depM, depS, cellAt, elemAt, initA, Nat.reduceAdd, Nat.reduceLeDiff, Nat.reduceEqDiff, reduceIte, reduceCtorEq, Nat.reduceLT, Nat.reduceMul, Nat.reduceSub, Int.reduceAdd, Int.reduceSub, Int.reduceMul, Int.reduceLT, Int.reduceLE, Int.reduceEq, Int.reduceNe, Int.reduceNeg, Int.reduceToNat]
  refine (sentinels_ok hg K).mono ?_
  rintro _ h ⟨rfl, rfl⟩
  simp only [runs, e_onS, AH.set_same, AH.set_set, List.map_cons, List.map_nil, List.length_cons, List.length_nil, List.drop_zero, List.drop_succ_cons, List.take_succ_cons, List.take_zero, List.take_nil, List.nil_append, List.cons_append, List.append_nil, List.all_cons, List.all_nil, Nat.zero_add, Nat.add_zero, ite_true, ite_false, if_true, if_false, ne_eq, not_false_eq_true, not_true_eq_false, and_true, true_and, and_self, Bool.and_true, Bool.true_and, Bool.not_true, Bool.not_false, List.getElem?_cons_zero, List.getElem?_cons_succ, Option.isSome_some, beq_self_eq_true, implies_true, forall_const, Nat.le_refl, Option.some.injEq, Option.getD_some, Option.getD_none, List.getElem?_nil, e_Lpn, e_Lpe, e_Lpr, decide_true, decide_false, Int.natCast_nonneg, Int.toNat_natCast, Int.toNat_zero, lt_irr, imp_self, false_implies, big_eq, pevA, takeA, putA, fillA, chunkA, zerosL, binA, binI, binS, isNilA, lookA, bndA, depA, depV, depM, depS, cellAt, elemAt, initA, Nat.reduceAdd, Nat.reduceLeDiff, Nat.reduceEqDiff, reduceIte, reduceCtorEq, Nat.reduceLT, Nat.reduceMul, Nat.reduceSub, Int.reduceAdd, Int.reduceSub, Int.reduceMul, Int.reduceLT, Int.reduceLE, Int.reduceEq, Int.reduceNe, Int.reduceNeg, Int.reduceToNat]
  refine aloop (α := Nat) (fun i fr h1 => fr 0 = .iface 121 (.ptr (ga 1) 0) ∧ fr 3 = .lst 47 (sens ga) .no ∧ fr 4 = .int .i64 i ∧ i ≤ 4 ∧ h1 = h) (fun i => 5 - i) 0 ?_ ?_
  · exact ⟨rfl, rfl, rfl, Nat.zero_le _, rfl⟩
  · rintro i fr h ⟨f0, f3, f4, hi, rfl⟩
    have c1 : decide ((i : Int) < ((sens ga).length : Nat)) = true := by
      have : (sens ga).length = 15 := rfl
      rw [this]; exact decide_eq_true (by omega)
    have h5 : i = 0 ∨ i = 1 ∨ i = 2 ∨ i = 3 ∨ i = 4 := by omega
    have w : IntKind.i64.wrap ((i : Int) + 1) = ((i + 1 : Nat) : Int) := by rw [wrap64 ⟨by omega, by omega⟩]; rfl
    have step : ∀ (y : Nat) (R : CExit → AQ), (sens ga)[i]? = some [.iface 121 (.ptr (ga y) 0)] → y < 15 → y ≠ 1 → (∀ fr' : AFr, fr' 0 = .iface 121 (.ptr (ga 1) 0) → fr' 3 = .lst 47 (sens ga) .no → fr' 4 = .int .i64 ((i + 1 : Nat) : Int) → R .normal fr' h) → wpC T K l15_0 fr h R := by
      intro y R hget hy15 hy hR
      simp only [u_C l15_0.eq_1, runs, e_onS, AH.set_same, AH.set_set, List.map_cons, List.map_nil, List.length_cons, List.length_nil, List.drop_zero, List.drop_succ_cons, List.take_succ_cons, List.take_zero, List.take_nil, List.nil_append, List.cons_append, List.append_nil, List.all_cons, List.all_nil, Nat.zero_add, Nat.add_zero, ite_true, ite_false, if_true, if_false, ne_eq, not_false_eq_true, not_true_eq_false, and_true, true_and, and_self, Bool.and_true, Bool.true_and, Bool.not_true, Bool.not_false, List.getElem?_cons_zero, List.getElem?_cons_succ, Option.isSome_some, beq_self_eq_true, implies_true, forall_const, Nat.le_refl, Option.some.injEq, Option.getD_some, Option.getD_none, List.getElem?_nil, e_Lpn, e_Lpe, e_Lpr, decide_true, decide_false, Int.natCast_nonneg, Int.toNat_natCast, Int.toNat_zero, lt_irr, imp_self, false_implies, big_eq, pevA, takeA, putA, fillA, chunkA, zerosL, binA, binI, binS, isNilA, lookA, bndA, depA, depV, depM, depS, cellAt, elemAt, initA, Nat.reduceAdd, Nat.reduceLeDiff, Nat.reduceEqDiff, reduceIte, reduceCtorEq, Nat.reduceLT, Nat.reduceMul, Nat.reduceSub, Int.reduceAdd, Int.reduceSub, Int.reduceMul, Int.reduceLT, Int.reduceLE, Int.reduceEq, Int.reduceNe, Int.reduceNeg, Int.reduceToNat, f0, f3, f4, c1, hget]
      refine (alike_ok hg 1 y (by decide) hy15 K).mono ?_
      rintro _ _ ⟨rfl, rfl⟩
      have e : decide (1 = y) = false := decide_eq_false fun e => hy e.symm
      simp only [runs, e_onS, AH.set_same, AH.set_set, List.map_cons, List.map_nil, List.length_cons, List.length_nil, List.drop_zero, List.drop_succ_cons, List.take_succ_cons, List.take_zero, List.take_nil, List.nil_append, List.cons_append, List.append_nil, List.all_cons, List.all_nil, Nat.zero_add, Nat.add_zero, ite_true, ite_false, if_true, if_false, ne_eq, not_false_eq_true, not_true_eq_false, and_true, true_and, and_self, Bool.and_true, Bool.true_and, Bool.not_true, Bool.not_false, List.getElem?_cons_zero, List.getElem?_cons_succ, Option.isSome_some, beq_self_eq_true, implies_true, forall_const, Nat.le_refl, Option.some.injEq, Option.getD_some, Option.getD_none, List.getElem?_nil, e_Lpn, e_Lpe, e_Lpr, decide_true, decide_false, Int.natCast_nonneg, Int.toNat_natCast, Int.toNat_zero, lt_irr, imp_self, false_implies, big_eq, pevA, takeA, putA, fillA, chunkA, zerosL, binA, binI, binS, isNilA, lookA, bndA, depA, depV, depM, depS, cellAt, elemAt, initA, Nat.reduceAdd, Nat.reduceLeDiff, Nat.reduceEqDiff, reduceIte, reduceCtorEq, Nat.reduceLT, Nat.reduceMul, Nat.reduceSub, Int.reduceAdd, Int.reduceSub, Int.reduceMul, Int.reduceLT, Int.reduceLE, Int.reduceEq, Int.reduceNe, Int.reduceNeg, Int.reduceToNat, e, f4, w]
      exact hR _ f0 f3 rfl
    rcases h5 with rfl | rfl | rfl | rfl | rfl
    · refine step 2 _ rfl (by decide) (by decide) fun fr' g0 g3 g4 => ?_
      exact ⟨1, by decide, g0, g3, g4, by decide, rfl⟩
    · refine step 3 _ rfl (by decide) (by decide) fun fr' g0 g3 g4 => ?_
      exact ⟨2, by decide, g0, g3, g4, by decide, rfl⟩
    · refine step 4 _ rfl (by decide) (by decide) fun fr' g0 g3 g4 => ?_
      exact ⟨3, by decide, g0, g3, g4, by decide, rfl⟩
    · refine step 0 _ rfl (by decide) (by decide) fun fr' g0 g3 g4 => ?_
      exact ⟨4, by decide, g0, g3, g4, by decide, rfl⟩
    · have hget : (sens ga)[4]? = some [.iface 121 (.ptr (ga 1) 0)] := rfl
      have w2 : IntKind.i64.wrap (101 + ((4 : Nat) : Int)) = 105 := rfl
      simp only [u_C l15_0.eq_1, runs, e_onS, AH.set_same, AH.set_set, List.map_cons, List.map_nil, List.length_cons, List.length_nil, List.drop_zero, List.drop_succ_cons, List.take_succ_cons, List.take_zero, List.take_nil, List.nil_append, List.cons_append, List.append_nil, List.all_cons, List.all_nil, Nat.zero_add, Nat.add_zero, ite_true, ite_false, if_true, if_false, ne_eq, not_false_eq_true, not_true_eq_false, and_true, true_and, and_self, Bool.and_true, Bool.true_and, Bool.not_true, Bool.not_false, List.getElem?_cons_zero, List.getElem?_cons_succ, Option.isSome_some, beq_self_eq_true, implies_true, forall_const, Nat.le_refl, Option.some.injEq, Option.getD_some, Option.getD_none, List.getElem?_nil, e_Lpn, e_Lpe, e_Lpr, decide_true, decide_false, Int.natCast_nonneg, Int.toNat_natCast, Int.toNat_zero, lt_irr, imp_self, false_implies, big_eq, pevA, takeA, putA, fillA, chunkA, zerosL, binA, binI, binS, isNilA, lookA, bndA, depA, depV, depM, depS, cellAt, elemAt, initA, Nat.reduceAdd, Nat.reduceLeDiff, Nat.reduceEqDiff, reduceIte, reduceCtorEq, Nat.reduceLT, Nat.reduceMul, Nat.reduceSub, Int.reduceAdd, Int.reduceSub, Int.reduceMul, Int.reduceLT, Int.reduceLE, Int.reduceEq, Int.reduceNe, Int.reduceNeg, Int.reduceToNat, f0, f3, f4, c1, hget]
      refine (alike_ok hg 1 1 (by decide) (by decide) K).mono ?_
      rintro _ _ ⟨rfl, rfl⟩
      simp only [runs, e_onS, AH.set_same, AH.set_set, List.map_cons, List.map_nil, List.length_cons, List.length_nil, List.drop_zero, List.drop_succ_cons, List.take_succ_cons, List.take_zero, List.take_nil, List.nil_append, List.cons_append, List.append_nil, List.all_cons, List.all_nil, Nat.zero_add, Nat.add_zero, ite_true, ite_false, if_true, if_false, ne_eq, not_false_eq_true, not_true_eq_false, and_true, true_and, and_self, Bool.and_true, Bool.true_and, Bool.not_true, Bool.not_false, List.getElem?_cons_zero, List.getElem?_cons_succ, Option.isSome_some, beq_self_eq_true, implies_true, forall_const, Nat.le_refl, Option.some.injEq, Option.getD_some, Option.getD_none, List.getElem?_nil, e_Lpn, e_Lpe, e_Lpr, decide_true, decide_false, Int.natCast_nonneg, Int.toNat_natCast, Int.toNat_zero, lt_irr, imp_self, false_implies, big_eq, pevA, takeA, putA, fillA, chunkA, zerosL, binA, binI, binS, isNilA, lookA, bndA, depA, depV, depM, depS, cellAt, elemAt, initA, Nat.reduceAdd, Nat.reduceLeDiff, Nat.reduceEqDiff, reduceIte, reduceCtorEq, Nat.reduceLT, Nat.reduceMul, Nat.reduceSub, Int.reduceAdd, Int.reduceSub, Int.reduceMul, Int.reduceLT, Int.reduceLE, Int.reduceEq, Int.reduceNe, Int.reduceNeg, Int.reduceToNat, f4, w2]
      exact ⟨.refl _, AH.le_refl _⟩
theorem fault_ok {h : AH} {ga : Nat → Nat} {Eg : Nat → TypeId} (hg : GA h ga Eg) (K : Nat → Prop) : ACall T K (.func 7) [.iface 56 (.rptr [.int .i64 0, .iface 121 (.ptr (ga 1) 0)])] h fun v h' => v = .agg [.int .i64 105, .bool true, .int .i64 0] ∧ h' = h := by
  refine ACall.ret t7 fun hK => ?_
  simp only [u_C c7.eq_1, runs, e_onS, AH.set_same, AH.set_set, List.map_cons, List.map_nil, List.length_cons, List.length_nil, List.drop_zero, List.drop_succ_cons, List.take_succ_cons, List.take_zero, List.take_nil, List.nil_append, List.cons_append, List.append_nil, List.all_cons, List.all_nil, Nat.zero_add, Nat.add_zero, ite_true, ite_false, if_true, if_false, ne_eq, not_false_eq_true, not_true_eq_false, and_true, true_and, and_self, Bool.and_true, Bool.true_and, Bool.not_true, Bool.not_false, List.getElem?_cons_zero, List.getElem?_cons_succ, Option.isSome_some, beq_self_eq_true, implies_true, forall_const, Nat.le_refl, Option.some.injEq, Option.getD_some, Option.getD_none, List.getElem?_nil, e_Lpn, e_Lpe, e_Lpr, decide_true, decide_false, Int.natCast_nonneg, Int.toNat_natCast, Int.toNat_zero, lt_irr, imp_self, false_implies, big_eq, pevA, takeA, putA, fillA, chunkA, zerosL, binA, binI, binS, isNilA, lookA, bndA, depA, depV, depM, depS, cellAt, elemAt, initA, Nat.reduceAdd, Nat.reduceLeDiff, Nat.reduceEqDiff, reduceIte, reduceCtorEq, Nat.reduceLT, Nat.reduceMul, Nat.reduceSub, Int.reduceAdd, Int.reduceSub, Int.reduceMul, Int.reduceLT, Int.reduceLE, Int.reduceEq, Int.reduceNe, Int.reduceNeg, Int.reduceToNat]
  intro b hb hk
  simp only [e_dregion d7_0, u_L s7_0.eq_1, u_T g7_0.eq_1, runs, e_onS, AH.set_same, AH.set_set, List.map_cons, List.map_nil, List.length_cons, List.length_nil, List.drop_zero, List.drop_succ_cons, List.take_succ_cons, List.take_zero, List.take_nil, List.nil_append, List.cons_append, List.append_nil, List.all_cons, List.all_nil, Nat.zero_add, Nat.add_zero, ite_true, ite_false, if_true, if_false, ne_eq, not_false_eq_true, not_true_eq_false, and_true, true_and, and_self, Bool.and_true, Bool.true_and, Bool.not_true, Bool.not_false, List.getElem?_cons_zero, List.getElem?_cons_succ, Option.isSome_some, beq_self_eq_true, implies_true, forall_const, Nat.le_refl, Option.some.injEq, Option.getD_some, Option.getD_none, List.getElem?_nil, e_Lpn, e_Lpe, e_Lpr, decide_true, decide_false, Int.natCast_nonneg, Int.toNat_natCast, Int.toNat_zero, lt_irr, imp_self, false_implies, big_eq, pevA, takeA, putA, fillA, chunkA, zerosL, binA, binI, binS, isNilA, lookA, bndA, depA, depV, depM, depS, cellAt, elemAt, initA, Nat.reduceAdd, Nat.reduceLeDiff, Nat.reduceEqDiff, reduceIte, reduceCtorEq, Nat.reduceLT, Nat.reduceMul, Nat.reduceSub, Int.reduceAdd, Int.reduceSub, Int.reduceMul, Int.reduceLT, Int.reduceLE, Int.reduceEq, Int.reduceNe, Int.reduceNeg, Int.reduceToNat]
  refine (sentinel_ok (hg.set hb) K).mono ?_
  rintro _ _ ⟨rfl, rfl⟩
  simp only [e_dregion d7_0, u_L s7_0.eq_1, u_T g7_0.eq_1, runs, e_onS, AH.set_same, AH.set_set, List.map_cons, List.map_nil, List.length_cons, List.length_nil, List.drop_zero, List.drop_succ_cons, List.take_succ_cons, List.take_zero, List.take_nil, List.nil_append, List.cons_append, List.append_nil, List.all_cons, List.all_nil, Nat.zero_add, Nat.add_zero, ite_true, ite_false, if_true, if_false, ne_eq, not_false_eq_true, not_true_eq_false, and_true, true_and, and_self, Bool.and_true, Bool.true_and, Bool.not_true, Bool.not_false, List.getElem?_cons_zero, List.getElem?_cons_succ, Option.isSome_some, beq_self_eq_true, implies_true, forall_const, Nat.le_refl, Option.some.injEq, Option.getD_some, Option.getD_none, List.getElem?_nil, e_Lpn, e_Lpe, e_Lpr, decide_true, decide_false, Int.natCast_nonneg, Int.toNat_natCast, Int.toNat_zero, lt_irr, imp_self, false_implies, big_eq, pevA, takeA, putA, fillA, chunkA, zerosL, binA, binI, binS, isNilA, lookA, bndA, depA, depV, depM, depS, cellAt, elemAt, initA, Nat.reduceAdd, Nat.reduceLeDiff, Nat.reduceEqDiff, reduceIte, reduceCtorEq, Nat.reduceLT, Nat.reduceMul, Nat.reduceSub, Int.reduceAdd, Int.reduceSub, Int.reduceMul, Int.reduceLT, Int.reduceLE, Int.reduceEq, Int.reduceNe, Int.reduceNeg, Int.reduceToNat]
  refine placed_ok.use ?_
  simp only [e_dregion d7_0, u_L s7_0.eq_1, u_T g7_0.eq_1, runs, e_onS, AH.set_same, AH.set_set, List.map_cons, List.map_nil, List.length_cons, List.length_nil, List.drop_zero, List.drop_succ_cons, List.take_succ_cons, List.take_zero, List.take_nil, List.nil_append, List.cons_append, List.append_nil, List.all_cons, List.all_nil, Nat.zero_add, Nat.add_zero, ite_true, ite_false, if_true, if_false, ne_eq, not_false_eq_true, not_true_eq_false, and_true, true_and, and_self, Bool.and_true, Bool.true_and, Bool.not_true, Bool.not_false, List.getElem?_cons_zero, List.getElem?_cons_succ, Option.isSome_some, beq_self_eq_true, implies_true, forall_const, Nat.le_refl, Option.some.injEq, Option.getD_some, Option.getD_none, List.getElem?_nil, e_Lpn, e_Lpe, e_Lpr, decide_true, decide_false, Int.natCast_nonneg, Int.toNat_natCast, Int.toNat_zero, lt_irr, imp_self, false_implies, big_eq, pevA, takeA, putA, fillA, chunkA, zerosL, binA, binI, binS, isNilA, lookA, bndA, depA, depV, depM, depS, cellAt, elemAt, initA, Nat.reduceAdd, Nat.reduceLeDiff, Nat.reduceEqDiff, reduceIte, reduceCtorEq, Nat.reduceLT, Nat.reduceMul, Nat.reduceSub, Int.reduceAdd, Int.reduceSub, Int.reduceMul, Int.reduceLT, Int.reduceLE, Int.reduceEq, Int.reduceNe, Int.reduceNeg, Int.reduceToNat, hk]
  exact ⟨.refl _, by rw [s_del hb]; exact AH.le_refl _⟩
end Go.Proofs.YtfagmflapdgcmaaDoor.p

namespace Go.Proofs.YtfagmflapdgcmaaDoor.p
open Go.Proofs Go Go.Cn code
set_option linter.unusedSimpArgs false
set_option linter.unusedVariables false

/-- what holds behind 'abF' -/
structure Clo (g : Nm → List Nm) (nm : Nm) (out r : List Nm) : Prop where
  ext : ∀ x ∈ out, x ∈ r
  sup : ∀ s ∈ g nm, s ∈ r
  clo : ∀ x ∈ r, x ∉ out → ∀ s ∈ g x, s ∈ r
theorem clo_fold {g : Nm → List Nm} {U : List Nm} {f : Nm → List Nm → List Nm} {out : List Nm} (hi : ∀ s o, o.Nodup → (∀ x ∈ o, x ∈ U) → Inv U o (f s o)) (hf : ∀ s o, o.Nodup → (∀ x ∈ o, x ∈ U) → out.length < o.length → Clo g s o (f s o)) :
    ∀ (S : List Nm) {o : List Nm}, Inv U out o → (∀ s ∈ S, s ∈ U) → (∀ x ∈ out, x ∈ o) → (∀ x ∈ o, x ∉ out → ∀ s ∈ g x, s ∈ o) →
      (∀ x ∈ o, x ∈ S.foldl (stp f) o) ∧ (∀ s ∈ S, s ∈ S.foldl (stp f) o) ∧ ∀ x ∈ S.foldl (stp f) o, x ∉ out → ∀ s ∈ g x, s ∈ S.foldl (stp f) o
  | [], o, h, _, he, hc => ⟨fun x hx => hx, by simp, hc⟩
  | s :: S, o, h, hs, he, hc => by
    have hI := stp_inv hi h (hs s (by simp))
    simp only [List.foldl_cons]
    have key : (∀ x ∈ o, x ∈ stp f o s) ∧ s ∈ stp f o s ∧ ∀ x ∈ stp f o s, x ∉ out → ∀ t ∈ g x, t ∈ stp f o s := by
      unfold stp
      split
      · rename_i hm; exact ⟨fun x hx => hx, hm, hc⟩
      · rename_i hm
        have h1 : (o ++ [s]).Nodup := List.nodup_append.2 ⟨h.nd, by simp, fun a ha b hb => by simp at hb; subst hb; rintro rfl; exact hm ha⟩
        have h2 : ∀ x ∈ o ++ [s], x ∈ U := fun x hx => by
          rcases List.mem_append.1 hx with hx | hx
          · exact h.sub x hx
          · simp at hx; rw [hx]; exact hs s (by simp)
        have hC := hf s (o ++ [s]) h1 h2 (by have := h.len; simp; omega)
        refine ⟨fun x hx => hC.ext x (by simp [hx]), hC.ext s (by simp), fun x hx hn t ht => ?_⟩
        by_cases hxo : x ∈ o
        · exact hC.ext t (by simp [hc x hxo hn t ht])
        · by_cases hxs : x = s
          · subst hxs; exact hC.sup t ht
          · exact hC.clo x hx (by simp [hxo, hxs]) t ht
    obtain ⟨k1, k2, k3⟩ := key
    obtain ⟨r1, r2, r3⟩ := clo_fold hi hf S hI (fun x hx => hs x (by simp [hx])) (fun x hx => k1 x (he x hx)) k3
    exact ⟨fun x hx => r1 x (k1 x hx), fun x hx => by rcases List.mem_cons.1 hx with rfl | hx; exact r1 _ k2; exact r2 x hx, r3⟩
theorem abF_clo {g : Nm → List Nm} {U : List Nm} (hg : ∀ n, ∀ s ∈ g n, s ∈ U) : ∀ (n : Nat) (nm : Nm) (out : List Nm), out.Nodup → (∀ x ∈ out, x ∈ U) → U.length < out.length + n → Clo g nm out (abF g n nm out)
  | 0, nm, out, h1, h2, h3 => by have := nodup_len h1 h2; omega
  | n + 1, nm, out, h1, h2, h3 => by
    obtain ⟨r1, r2, r3⟩ := clo_fold (out := out) (fun s o => abF_inv hg n s o) (fun s o x1 x2 x3 => abF_clo hg n s o x1 x2 (by omega)) (g nm) ⟨h1, h2, Nat.le_refl _⟩ (hg nm) (fun x hx => hx) (fun x hx hn => absurd hx hn)
    exact ⟨r1, r2, r3⟩
/-- nothing else is in it than what has to be -/
theorem abF_min {g : Nm → List Nm} {X : Nm → Prop} (hX : ∀ x, X x → ∀ s ∈ g x, X s) : ∀ (n : Nat) (nm : Nm) (out : List Nm), (∀ s ∈ g nm, X s) → ∀ x ∈ abF g n nm out, x ∈ out ∨ X x
  | 0, nm, out, h, x, hx => .inl hx
  | n + 1, nm, out, h, x, hx => by
    have key : ∀ (S : List Nm) (o : List Nm), (∀ s ∈ S, X s) → ∀ x ∈ S.foldl (stp (abF g n)) o, x ∈ o ∨ X x := by
      intro S
      induction S with
      | nil => intro o _ x hx; exact .inl hx
      | cons s S ih =>
        intro o hS x hx
        rcases ih _ (fun t ht => hS t (by simp [ht])) x hx with h1 | h1
        · unfold stp at h1
          split at h1
          · exact .inl h1
          · rcases abF_min hX n s (o ++ [s]) (hX s (hS s (by simp))) x h1 with h2 | h2
            · rcases List.mem_append.1 h2 with h2 | h2
              · exact .inl h2
              · simp at h2; rw [h2]; exact .inr (hS s (by simp))
            · exact .inr h2
        · exact .inr h1
    exact key (g nm) out h x hx
section
variable {c : Cl} {U : List Nm} (hg : ∀ n, ∀ s ∈ gr c n, s ∈ U)
include hg
theorem ab_nd (nm : Nm) : (ab c U nm).Nodup := (abF_inv hg _ nm [] .nil (by simp)).nd
theorem ab_sub (nm : Nm) : ∀ x ∈ ab c U nm, x ∈ U := (abF_inv hg _ nm [] .nil (by simp)).sub
theorem ab_clo (nm : Nm) : Clo (gr c) nm [] (ab c U nm) := abF_clo hg _ nm [] .nil (by simp) (by simp)
omit hg in
theorem ab_min {X : Nm → Prop} (hX : ∀ x, X x → ∀ s ∈ gr c x, X s) (nm : Nm) (h : ∀ s ∈ gr c nm, X s) : ∀ x ∈ ab c U nm, X x := fun x hx => by
  rcases abF_min hX _ nm [] h x hx with h1 | h1
  · cases h1
  · exact h1
/-- what is above what is above is above -/
theorem ab_trans (nm x : Nm) (hx : x ∈ ab c U nm) : ∀ y ∈ ab c U x, y ∈ ab c U nm :=
  ab_min (fun z hz s hs => (ab_clo hg nm).clo z hz (by simp) s hs) x (fun s hs => (ab_clo hg nm).clo x hx (by simp) s hs)
end
end Go.Proofs.YtfagmflapdgcmaaDoor.p

namespace Go.Proofs.YtfagmflapdgcmaaDoor.p
open Go.Proofs Go Go.Cn code
set_option linter.unusedSimpArgs false
set_option linter.unusedVariables false

/-- a number below -/
theorem number_ok (n m : Int) (h0 : 0 < m) (h1 : m ≤ 1000000) (K : Nat → Prop) (h : AH) : ACall T K (.func 12) [.int .i64 n, .int .i64 m] h fun v h' => (∃ r, v = .int .i64 r ∧ 0 ≤ r ∧ r < m) ∧ h' = h := by
  have h2 : - m < Int.tmod n m := Int.lt_tmod_of_pos n h0
  have h3 : Int.tmod n m < m := Int.tmod_lt_of_pos n h0
  have hm : ¬ m = 0 := by omega
  refine ACall.retQ t12 fun hK => ?_
  simp only [u_C c12.eq_1, runs, e_onS, AH.set_same, AH.set_set, List.map_cons, List.map_nil, List.length_cons, List.length_nil, List.drop_zero, List.drop_succ_cons, List.take_succ_cons, List.take_zero, List.take_nil, List.nil_append, List.cons_append, List.append_nil, List.all_cons, List.all_nil, Nat.zero_add, Nat.add_zero, ite_true, ite_false, if_true, if_false, ne_eq, not_false_eq_true, not_true_eq_false, and_true, true_and, and_self, Bool.and_true, Bool.true_and, Bool.not_true, Bool.not_false, List.getElem?_cons_zero, List.getElem?_cons_succ, Option.isSome_some, beq_self_eq_true, implies_true, forall_const, Nat.le_refl, Option.some.injEq, Option.getD_some, Option.getD_none, List.getElem?_nil, e_Lpn, e_Lpe, e_Lpr, decide_true, decide_false, Int.natCast_nonneg, Int.toNat_natCast, Int.toNat_zero, lt_irr, imp_self, false_implies, big_eq, pevA, takeA, putA, fillA, chunkA, zerosL, binA, binI, binS, isNilA, lookA, bndA, depA, depV, depM, depS, cellAt, elemAt, initA, Nat.reduceAdd, Nat.reduceLeDiff, Nat.reduceEqDiff, reduceIte, reduceCtorEq, Nat.reduceLT, Nat.reduceMul, Nat.reduceSub, Int.reduceAdd, Int.reduceSub, Int.reduceMul, Int.reduceLT, Int.reduceLE, Int.reduceEq, Int.reduceNe, Int.reduceNeg, Int.reduceToNat, hm]
  by_cases hr : Int.tmod n m < 0
  · simp only [hr, runs, e_onS, AH.set_same, AH.set_set, List.map_cons, List.map_nil, List.length_cons, List.length_nil, List.drop_zero, List.drop_succ_cons, List.take_succ_cons, List.take_zero, List.take_nil, List.nil_append, List.cons_append, List.append_nil, List.all_cons, List.all_nil, Nat.zero_add, Nat.add_zero, ite_true, ite_false, if_true, if_false, ne_eq, not_false_eq_true, not_true_eq_false, and_true, true_and, and_self, Bool.and_true, Bool.true_and, Bool.not_true, Bool.not_false, List.getElem?_cons_zero, List.getElem?_cons_succ, Option.isSome_some, beq_self_eq_true, implies_true, forall_const, Nat.le_refl, Option.some.injEq, Option.getD_some, Option.getD_none, List.getElem?_nil, e_Lpn, e_Lpe, e_Lpr, decide_true, decide_false, Int.natCast_nonneg, Int.toNat_natCast, Int.toNat_zero, lt_irr, imp_self, false_implies, big_eq, pevA, takeA, putA, fillA, chunkA, zerosL, binA, binI, binS, isNilA, lookA, bndA, depA, depV, depM, depS, cellAt, elemAt, initA, Nat.reduceAdd, Nat.reduceLeDiff, Nat.reduceEqDiff, reduceIte, reduceCtorEq, Nat.reduceLT, Nat.reduceMul, Nat.reduceSub, Int.reduceAdd, Int.reduceSub, Int.reduceMul, Int.reduceLT, Int.reduceLE, Int.reduceEq, Int.reduceNe, Int.reduceNeg, Int.reduceToNat]
    rw [wrap64 ⟨by omega, by omega⟩]
    exact ⟨_, _, .refl _ _, hK, ⟨_, rfl, by omega, by omega⟩, rfl⟩
  · simp only [hr, runs, e_onS, AH.set_same, AH.set_set, List.map_cons, List.map_nil, List.length_cons, List.length_nil, List.drop_zero, List.drop_succ_cons, List.take_succ_cons, List.take_zero, List.take_nil, List.nil_append, List.cons_append, List.append_nil, List.all_cons, List.all_nil, Nat.zero_add, Nat.add_zero, ite_true, ite_false, if_true, if_false, ne_eq, not_false_eq_true, not_true_eq_false, and_true, true_and, and_self, Bool.and_true, Bool.true_and, Bool.not_true, Bool.not_false, List.getElem?_cons_zero, List.getElem?_cons_succ, Option.isSome_some, beq_self_eq_true, implies_true, forall_const, Nat.le_refl, Option.some.injEq, Option.getD_some, Option.getD_none, List.getElem?_nil, e_Lpn, e_Lpe, e_Lpr, decide_true, decide_false, Int.natCast_nonneg, Int.toNat_natCast, Int.toNat_zero, lt_irr, imp_self, false_implies, big_eq, pevA, takeA, putA, fillA, chunkA, zerosL, binA, binI, binS, isNilA, lookA, bndA, depA, depV, depM, depS, cellAt, elemAt, initA, Nat.reduceAdd, Nat.reduceLeDiff, Nat.reduceEqDiff, reduceIte, reduceCtorEq, Nat.reduceLT, Nat.reduceMul, Nat.reduceSub, Int.reduceAdd, Int.reduceSub, Int.reduceMul, Int.reduceLT, Int.reduceLE, Int.reduceEq, Int.reduceNe, Int.reduceNeg, Int.reduceToNat]
    exact ⟨_, _, .refl _ _, hK, ⟨_, rfl, by omega, by omega⟩, rfl⟩

/-- numbers that are taken one by one -/
def seqO (E : TypeId) (l : List Int) (p : Int) : AO := .cells [.lst E (l.map fun n => [.int .i64 n]) .no, .int .i64 p] 28
theorem next_ok (E : TypeId) (l : List Int) (p m : Int) (hp : 0 ≤ p) (hp2 : p ≤ 1000000000) (h0 : 0 < m) (h1 : m ≤ 1000000) (K : Nat → Prop) (h : AH) (b : Nat) (hb : h.objs b = some (seqO E l p)) (hk : ¬ K b) :
    ACall T K (.func 5) [.ptr b 0, .int .i64 m] h fun v h' => (∃ r, v = .int .i64 r ∧ 0 ≤ r ∧ r < m) ∧ h' = h.set b (seqO E l (p + 1)) := by
  refine ACall.retQ t5 fun hK => ?_
  unfold seqO at *
  simp only [u_C c5.eq_1, e_dregion d5_0, u_L s5_0.eq_1, u_T g5_0.eq_1, runs, e_onS, AH.set_same, AH.set_set, List.map_cons, List.map_nil, List.length_cons, List.length_nil, List.drop_zero, List.drop_succ_cons, List.take_succ_cons, List.take_zero, List.take_nil, List.nil_append, List.cons_append, List.append_nil, List.all_cons, List.all_nil, Nat.zero_add, Nat.add_zero, ite_true, ite_false, if_true, if_false, ne_eq, not_false_eq_true, not_true_eq_false, and_true, true_and, and_self, Bool.and_true, Bool.true_and, Bool.not_true, Bool.not_false, List.getElem?_cons_zero, List.getElem?_cons_succ, Option.isSome_some, beq_self_eq_true, implies_true, forall_const, Nat.le_refl, Option.some.injEq, Option.getD_some, Option.getD_none, List.getElem?_nil, e_Lpn, e_Lpe, e_Lpr, decide_true, decide_false, Int.natCast_nonneg, Int.toNat_natCast, Int.toNat_zero, lt_irr, imp_self, false_implies, big_eq, pevA, takeA, putA, fillA, chunkA, zerosL, binA, binI, binS, isNilA, lookA, bndA, depA, depV, depM, depS, cellAt, elemAt, initA, Nat.reduceAdd, Nat.reduceLeDiff, Nat.reduceEqDiff, reduceIte, reduceCtorEq, Nat.reduceLT, Nat.reduceMul, Nat.reduceSub, Int.reduceAdd, Int.reduceSub, Int.reduceMul, Int.reduceLT, Int.reduceLE, Int.reduceEq, Int.reduceNe, Int.reduceNeg, Int.reduceToNat, hb, List.length_map]
  have hw : IntKind.i64.wrap (p + 1) = p + 1 := wrap64 ⟨by omega, by omega⟩
  by_cases hlt : p < (l.length : Int)
  · have hi : (l.map fun n => [AV.int .i64 n])[p.toNat]? = some [.int .i64 (l[p.toNat]'(by omega))] := by simp
    simp only [hlt, e_dregion d5_1, u_L s5_1.eq_1, u_T g5_1.eq_1, runs, e_onS, AH.set_same, AH.set_set, List.map_cons, List.map_nil, List.length_cons, List.length_nil, List.drop_zero, List.drop_succ_cons, List.take_succ_cons, List.take_zero, List.take_nil, List.nil_append, List.cons_append, List.append_nil, List.all_cons, List.all_nil, Nat.zero_add, Nat.add_zero, ite_true, ite_false, if_true, if_false, ne_eq, not_false_eq_true, not_true_eq_false, and_true, true_and, and_self, Bool.and_true, Bool.true_and, Bool.not_true, Bool.not_false, List.getElem?_cons_zero, List.getElem?_cons_succ, Option.isSome_some, beq_self_eq_true, implies_true, forall_const, Nat.le_refl, Option.some.injEq, Option.getD_some, Option.getD_none, List.getElem?_nil, e_Lpn, e_Lpe, e_Lpr, decide_true, decide_false, Int.natCast_nonneg, Int.toNat_natCast, Int.toNat_zero, lt_irr, imp_self, false_implies, big_eq, pevA, takeA, putA, fillA, chunkA, zerosL, binA, binI, binS, isNilA, lookA, bndA, depA, depV, depM, depS, cellAt, elemAt, initA, Nat.reduceAdd, Nat.reduceLeDiff, Nat.reduceEqDiff, reduceIte, reduceCtorEq, Nat.reduceLT, Nat.reduceMul, Nat.reduceSub, Int.reduceAdd, Int.reduceSub, Int.reduceMul, Int.reduceLT, Int.reduceLE, Int.reduceEq, Int.reduceNe, Int.reduceNeg, Int.reduceToNat, hb, hp, hi, hw, hk]
    refine (number_ok _ m h0 h1 K _).mono ?_
    rintro _ _ ⟨⟨r, rfl, hr⟩, rfl⟩
    simp only [runs, e_onS, AH.set_same, AH.set_set, List.map_cons, List.map_nil, List.length_cons, List.length_nil, List.drop_zero, List.drop_succ_cons, List.take_succ_cons, List.take_zero, List.take_nil, List.nil_append, List.cons_append, List.append_nil, List.all_cons, List.all_nil, Nat.zero_add, Nat.add_zero, ite_true, ite_false, if_true, if_false, ne_eq, not_false_eq_true, not_true_eq_false, and_true, true_and, and_self, Bool.and_true, Bool.true_and, Bool.not_true, Bool.not_false, List.getElem?_cons_zero, List.getElem?_cons_succ, Option.isSome_some, beq_self_eq_true, implies_true, forall_const, Nat.le_refl, Option.some.injEq, Option.getD_some, Option.getD_none, List.getElem?_nil, e_Lpn, e_Lpe, e_Lpr, decide_true, decide_false, Int.natCast_nonneg, Int.toNat_natCast, Int.toNat_zero, lt_irr, imp_self, false_implies, big_eq, pevA, takeA, putA, fillA, chunkA, zerosL, binA, binI, binS, isNilA, lookA, bndA, depA, depV, depM, depS, cellAt, elemAt, initA, Nat.reduceAdd, Nat.reduceLeDiff, Nat.reduceEqDiff, reduceIte, reduceCtorEq, Nat.reduceLT, Nat.reduceMul, Nat.reduceSub, Int.reduceAdd, Int.reduceSub, Int.reduceMul, Int.reduceLT, Int.reduceLE, Int.reduceEq, Int.reduceNe, Int.reduceNeg, Int.reduceToNat]
    exact ⟨_, _, .refl _ _, hK.set _ _, ⟨r, rfl, hr⟩, rfl⟩
  · simp only [hlt, e_dregion d5_1, u_L s5_1.eq_1, u_T g5_1.eq_1, runs, e_onS, AH.set_same, AH.set_set, List.map_cons, List.map_nil, List.length_cons, List.length_nil, List.drop_zero, List.drop_succ_cons, List.take_succ_cons, List.take_zero, List.take_nil, List.nil_append, List.cons_append, List.append_nil, List.all_cons, List.all_nil, Nat.zero_add, Nat.add_zero, ite_true, ite_false, if_true, if_false, ne_eq, not_false_eq_true, not_true_eq_false, and_true, true_and, and_self, Bool.and_true, Bool.true_and, Bool.not_true, Bool.not_false, List.getElem?_cons_zero, List.getElem?_cons_succ, Option.isSome_some, beq_self_eq_true, implies_true, forall_const, Nat.le_refl, Option.some.injEq, Option.getD_some, Option.getD_none, List.getElem?_nil, e_Lpn, e_Lpe, e_Lpr, decide_true, decide_false, Int.natCast_nonneg, Int.toNat_natCast, Int.toNat_zero, lt_irr, imp_self, false_implies, big_eq, pevA, takeA, putA, fillA, chunkA, zerosL, binA, binI, binS, isNilA, lookA, bndA, depA, depV, depM, depS, cellAt, elemAt, initA, Nat.reduceAdd, Nat.reduceLeDiff, Nat.reduceEqDiff, reduceIte, reduceCtorEq, Nat.reduceLT, Nat.reduceMul, Nat.reduceSub, Int.reduceAdd, Int.reduceSub, Int.reduceMul, Int.reduceLT, Int.reduceLE, Int.reduceEq, Int.reduceNe, Int.reduceNeg, Int.reduceToNat, hb, hp, hw, hk]
    refine (number_ok _ m h0 h1 K _).mono ?_
    rintro _ _ ⟨⟨r, rfl, hr⟩, rfl⟩
    simp only [runs, e_onS, AH.set_same, AH.set_set, List.map_cons, List.map_nil, List.length_cons, List.length_nil, List.drop_zero, List.drop_succ_cons, List.take_succ_cons, List.take_zero, List.take_nil, List.nil_append, List.cons_append, List.append_nil, List.all_cons, List.all_nil, Nat.zero_add, Nat.add_zero, ite_true, ite_false, if_true, if_false, ne_eq, not_false_eq_true, not_true_eq_false, and_true, true_and, and_self, Bool.and_true, Bool.true_and, Bool.not_true, Bool.not_false, List.getElem?_cons_zero, List.getElem?_cons_succ, Option.isSome_some, beq_self_eq_true, implies_true, forall_const, Nat.le_refl, Option.some.injEq, Option.getD_some, Option.getD_none, List.getElem?_nil, e_Lpn, e_Lpe, e_Lpr, decide_true, decide_false, Int.natCast_nonneg, Int.toNat_natCast, Int.toNat_zero, lt_irr, imp_self, false_implies, big_eq, pevA, takeA, putA, fillA, chunkA, zerosL, binA, binI, binS, isNilA, lookA, bndA, depA, depV, depM, depS, cellAt, elemAt, initA, Nat.reduceAdd, Nat.reduceLeDiff, Nat.reduceEqDiff, reduceIte, reduceCtorEq, Nat.reduceLT, Nat.reduceMul, Nat.reduceSub, Int.reduceAdd, Int.reduceSub, Int.reduceMul, Int.reduceLT, Int.reduceLE, Int.reduceEq, Int.reduceNe, Int.reduceNeg, Int.reduceToNat]
    exact ⟨_, _, .refl _ _, hK.set _ _, ⟨r, rfl, hr⟩, rfl⟩

def N8 : List Nm := [[65], [66], [67], [68], [69], [70], [71], [72]]
def RwI (r : Rw) : Prop := ∀ (j : Nat) (p : Nm × List Nm × AV), r[j]? = some p → N8[j]? = some p.1 ∧ p.2.1.Sublist (N8.take j) ∧ SupV p.2.1 p.2.2
/-- the row so far -/
def RowV (r : Rw) (v : AV) (ob : Nat → Option AO) (P : Nat → Prop) : Prop := (r = [] ∧ v = .lst 0 [] .nil) ∨ (r ≠ [] ∧ ∃ rb, v = .slice rb 0 r.length r.length ∧ ob rb = some (.cells (rowC r) 32) ∧ P rb)
theorem RowV.mono {r : Rw} {v : AV} {ob ob' : Nat → Option AO} {P Q : Nat → Prop} (h : RowV r v ob P) (hP : ∀ b, P b → Q b) (ho : ∀ b, P b → ob b = some (.cells (rowC r) 32) → ob' b = some (.cells (rowC r) 32)) : RowV r v ob' Q := by
  rcases h with h | ⟨h1, rb, h2, h3, h4⟩
  · exact .inl h
  · exact .inr ⟨h1, rb, h2, ho rb h4 h3, hP rb h4⟩
def Keep (h h1 : AH) : Prop := ∀ m o, h.objs m = some o → h1.objs m = some o
theorem keep_none {h h1 : AH} (hk : Keep h h1) {b : Nat} (hb : h1.objs b = none) : h.objs b = none := by
  cases e : h.objs b with
  | none => rfl
  | some o => rw [hk b o e] at hb; cases hb

/-- what is above one class: out of as many numbers as there are classes ahead -/
theorem inner_ok (h : AH) (K : Nat → Prop) (b8 b10 : Nat) (E : TypeId) (l : List Int) (i : Nat) (hi8 : i < 8) (nm : Nm) (r : Rw) (v7 : AV) (ring : Bool) (fr0 : AFr) (R : CExit → AQ) (k8 : ¬ K b8) (k10 : ¬ K b10) (n108 : b10 ≠ b8) (hh8 : h.objs b8 = none) (hh10 : h.objs b10 = none)
    (h1 : AH) (p : Int) (hp : 0 ≤ p) (hp2 : p ≤ 8 * i) (f1 : fr0 1 = .bool ring) (f5 : fr0 5 = .bool true) (f6 : fr0 6 = .lst 9 (strC N8) .no) (f7 : fr0 7 = v7) (f8 : fr0 8 = .ptr b8 0) (f9 : fr0 9 = .int .i64 i) (f10 : fr0 10 = .ptr b10 0) (f11 : fr0 11 = .int .i64 0)
    (o8 : h1.objs b8 = some (seqO E l p)) (o10 : h1.objs b10 = some (.cells [.str nm, .str [97], .lst 0 [] .nil, .lst 0 [] .nil, .lst 0 [] .nil, .int .i64 0] 32)) (hrow : RowV r v7 h1.objs fun rb => rb ≠ b8 ∧ ¬ K rb ∧ h.objs rb = none ∧ rb ≠ b10) (hk : Keep h h1) (ht : ∀ c k, h.toks c = some k → h1.toks c = some k)
    (hR : ∀ (fr : AFr) (h2 : AH) (S : List Nm) (s : AV) (p' : Int), fr 1 = .bool ring → fr 5 = .bool true → fr 6 = .lst 9 (strC N8) .no → fr 7 = v7 → fr 8 = .ptr b8 0 → fr 9 = .int .i64 i → fr 10 = .ptr b10 0 → S.Sublist (N8.take i) → SupV S s → 0 ≤ p' → p' ≤ 8 * (i + 1) → h2.objs b8 = some (seqO E l p') → h2.objs b10 = some (.cells (clsC nm s) 32) →
      RowV r v7 h2.objs (fun rb => rb ≠ b8 ∧ ¬ K rb ∧ h.objs rb = none ∧ rb ≠ b10) → Keep h h2 → (∀ c k, h.toks c = some k → h2.toks c = some k) → R (.exit 2) fr h2) : W T K (.loop l3_1.toC) fr0 h1 R := by
  refine aloop (α := Nat × List Nm × Int) (fun x fr h2 => fr 1 = .bool ring ∧ fr 5 = .bool true ∧ fr 6 = .lst 9 (strC N8) .no ∧ fr 7 = v7 ∧ fr 8 = .ptr b8 0 ∧ fr 9 = .int .i64 i ∧ fr 10 = .ptr b10 0 ∧ fr 11 = .int .i64 x.1 ∧ x.1 ≤ i ∧ x.2.1.Sublist (N8.take x.1) ∧ 0 ≤ x.2.2 ∧ x.2.2 ≤ 8 * i + x.1 ∧
      h2.objs b8 = some (seqO E l x.2.2) ∧ (∃ Es tag, (x.2.1 = [] ∧ Es = 0 ∧ tag = .nil ∨ x.2.1 ≠ [] ∧ Es = 9) ∧ h2.objs b10 = some (.cells (clsC nm (.lst Es (strC x.2.1) tag)) 32) ∧ Toks h1.toks h2.toks [(tag, 9, 1, 0)]) ∧
      RowV r v7 h2.objs (fun rb => rb ≠ b8 ∧ ¬ K rb ∧ h.objs rb = none ∧ rb ≠ b10) ∧ Keep h h2) (fun x => i - x.1) (0, [], p) ?_ ?_
  · exact ⟨f1, f5, f6, f7, f8, f9, f10, f11, Nat.zero_le _, by simp, hp, by simpa using hp2, o8, ⟨0, .nil, .inl ⟨rfl, rfl, rfl⟩, o10, .one _ _ _⟩, hrow, hk⟩
  · clear f1 f5 f6 f7 f8 f9 f10 f11 o8 o10 hrow hk hp hp2
    rintro ⟨k, S, q⟩ fr h2 ⟨f1, f5, f6, f7, f8, f9, f10, f11, hki, hsub, hq, hq2, o8, ⟨Es, tag, hE, o10, hT⟩, hrow, hk⟩
    simp only at f11 hki hsub hq hq2 o8 hE o10
    by_cases hlt : k < i
    · have c1 : decide ((k : Int) < (i : Int)) = true := decide_eq_true (by omega)
      have w : IntKind.i64.wrap ((k : Int) + 1) = ((k + 1 : Nat) : Int) := by rw [wrap64 ⟨by omega, by omega⟩]; rfl
      have hsub' : S.Sublist (N8.take (k + 1)) := hsub.trans (by rw [List.take_add_one]; exact List.sublist_append_left _ _)
      simp only [u_C l3_1.eq_1, runs, e_onS, AH.set_same, AH.set_set, List.map_cons, List.map_nil, List.length_cons, List.length_nil, List.drop_zero, List.drop_succ_cons, List.take_succ_cons, List.take_zero, List.take_nil, List.nil_append, List.cons_append, List.append_nil, List.all_cons, List.all_nil, Nat.zero_add, Nat.add_zero, ite_true, ite_false, if_true, if_false, ne_eq, not_false_eq_true, not_true_eq_false, and_true, true_and, and_self, Bool.and_true, Bool.true_and, Bool.not_true, Bool.not_false, List.getElem?_cons_zero, List.getElem?_cons_succ, Option.isSome_some, beq_self_eq_true, implies_true, forall_const, Nat.le_refl, Option.some.injEq, Option.getD_some, Option.getD_none, List.getElem?_nil, e_Lpn, e_Lpe, e_Lpr, decide_true, decide_false, Int.natCast_nonneg, Int.toNat_natCast, Int.toNat_zero, lt_irr, imp_self, false_implies, big_eq, pevA, takeA, putA, fillA, chunkA, zerosL, binA, binI, binS, isNilA, lookA, bndA, depA, depV, depM, depS, cellAt, elemAt, initA, Nat.reduceAdd, Nat.reduceLeDiff, Nat.reduceEqDiff, reduceIte, reduceCtorEq, Nat.reduceLT, Nat.reduceMul, Nat.reduceSub, Int.reduceAdd, Int.reduceSub, Int.reduceMul, Int.reduceLT, Int.reduceLE, Int.reduceEq, Int.reduceNe, Int.reduceNeg, Int.reduceToNat, f8, f9, f11, c1]
      refine (next_ok E l q 3 hq (by omega) (by omega) (by omega) K h2 b8 o8 k8).mono ?_
      rintro _ _ ⟨⟨n, rfl, hn0, hn3⟩, rfl⟩
      have o10' : (h2.set b8 (seqO E l (q + 1))).objs b10 = some (.cells (clsC nm (.lst Es (strC S) tag)) 32) := by rw [AH.set_ne _ _ n108]; exact o10
      have hrow' : RowV r v7 (h2.set b8 (seqO E l (q + 1))).objs (fun rb => rb ≠ b8 ∧ ¬ K rb ∧ h.objs rb = none ∧ rb ≠ b10) := hrow.mono (fun _ h => h) fun b hb ho => by rw [AH.set_ne _ _ hb.1]; exact ho
      have hk' : Keep h (h2.set b8 (seqO E l (q + 1))) := fun m o ho => by rw [AH.set_ne _ _ (by rintro rfl; rw [hh8] at ho; cases ho)]; exact hk m o ho
      by_cases h0 : n = 0
      · obtain ⟨a, ha⟩ : ∃ a, N8[k]? = some a := ⟨N8[k]'(by show k < 8; omega), by simp⟩
        have hget : (strC N8)[k]? = some [.str a] := by rw [strC_get, ha]; rfl
        have hd2 : (clsC nm (.lst Es (strC S) tag)).drop 2 = [.lst Es (strC S) tag, .lst 0 [] .nil, .lst 0 [] .nil, .int .i64 0] := rfl
        have hg2 : (clsC nm (.lst Es (strC S) tag))[2]? = some (.lst Es (strC S) tag) := rfl
        have hSl : S.length ≤ 8 := by
          have := hsub.length_le
          have h8 : (N8.take k).length ≤ 8 := Nat.le_trans (List.length_take_le _ _) (by omega)
          omega
        simp only [e_dregion d3_0, u_L s3_0.eq_1, u_T g3_0.eq_1, runs, e_onS, AH.set_same, AH.set_set, List.map_cons, List.map_nil, List.length_cons, List.length_nil, List.drop_zero, List.drop_succ_cons, List.take_succ_cons, List.take_zero, List.take_nil, List.nil_append, List.cons_append, List.append_nil, List.all_cons, List.all_nil, Nat.zero_add, Nat.add_zero, ite_true, ite_false, if_true, if_false, ne_eq, not_false_eq_true, not_true_eq_false, and_true, true_and, and_self, Bool.and_true, Bool.true_and, Bool.not_true, Bool.not_false, List.getElem?_cons_zero, List.getElem?_cons_succ, Option.isSome_some, beq_self_eq_true, implies_true, forall_const, Nat.le_refl, Option.some.injEq, Option.getD_some, Option.getD_none, List.getElem?_nil, e_Lpn, e_Lpe, e_Lpr, decide_true, decide_false, Int.natCast_nonneg, Int.toNat_natCast, Int.toNat_zero, lt_irr, imp_self, false_implies, big_eq, pevA, takeA, putA, fillA, chunkA, zerosL, binA, binI, binS, isNilA, lookA, bndA, depA, depV, depM, depS, cellAt, elemAt, initA, Nat.reduceAdd, Nat.reduceLeDiff, Nat.reduceEqDiff, reduceIte, reduceCtorEq, Nat.reduceLT, Nat.reduceMul, Nat.reduceSub, Int.reduceAdd, Int.reduceSub, Int.reduceMul, Int.reduceLT, Int.reduceLE, Int.reduceEq, Int.reduceNe, Int.reduceNeg, Int.reduceToNat, h0, f6, f10, f11, w, hget, o10', hg2]
        refine WO.append (i := 0) hT rfl rfl rfl trivial (by decide) (by simp) rfl (.inr rfl) (fun _ => ?_) ?_ fun tag2 t2 hT2 => ?_
        · simp [capOk, strC_len]; omega
        · simp [big_eq, strC_len]; omega
        have hap : strC S ++ [[AV.str a]] = strC (S ++ [a]) := by rw [strC_app]; rfl
        rw [hap]
        have hput : (clsC nm (.lst Es (strC S) tag)).take 2 ++ [.lst 9 (strC (S ++ [a])) tag2] ++ (clsC nm (.lst Es (strC S) tag)).drop (2 + 1) = clsC nm (.lst 9 (strC (S ++ [a])) tag2) := rfl
        have hl3 : 2 + 1 ≤ (clsC nm (.lst Es (strC S) tag)).length := by rw [clsC_len]; omega
        simp only [e_dregion d3_0, u_L s3_0.eq_1, u_T g3_0.eq_1, runs, e_onS, AH.set_same, AH.set_set, List.map_cons, List.map_nil, List.length_cons, List.length_nil, List.drop_zero, List.drop_succ_cons, List.take_succ_cons, List.take_zero, List.take_nil, List.nil_append, List.cons_append, List.append_nil, List.all_cons, List.all_nil, Nat.zero_add, Nat.add_zero, ite_true, ite_false, if_true, if_false, ne_eq, not_false_eq_true, not_true_eq_false, and_true, true_and, and_self, Bool.and_true, Bool.true_and, Bool.not_true, Bool.not_false, List.getElem?_cons_zero, List.getElem?_cons_succ, Option.isSome_some, beq_self_eq_true, implies_true, forall_const, Nat.le_refl, Option.some.injEq, Option.getD_some, Option.getD_none, List.getElem?_nil, e_Lpn, e_Lpe, e_Lpr, decide_true, decide_false, Int.natCast_nonneg, Int.toNat_natCast, Int.toNat_zero, lt_irr, imp_self, false_implies, big_eq, pevA, takeA, putA, fillA, chunkA, zerosL, binA, binI, binS, isNilA, lookA, bndA, depA, depV, depM, depS, cellAt, elemAt, initA, Nat.reduceAdd, Nat.reduceLeDiff, Nat.reduceEqDiff, reduceIte, reduceCtorEq, Nat.reduceLT, Nat.reduceMul, Nat.reduceSub, Int.reduceAdd, Int.reduceSub, Int.reduceMul, Int.reduceLT, Int.reduceLE, Int.reduceEq, Int.reduceNe, Int.reduceNeg, Int.reduceToNat, h0, f6, f10, f11, w, hget, o10', hd2, k10, clsC]
        have hsub2 : (S ++ [a]).Sublist (N8.take (k + 1)) := by
          rw [List.take_add_one, ha]
          exact hsub.append (List.Sublist.refl _)
        refine ⟨(k + 1, S ++ [a], q + 1), by show i - (k + 1) < i - k; omega, f1, f5, f6, f7, f8, f9, f10, rfl, hlt, hsub2, by simp only; omega, by simp only; omega, ?_, ⟨9, tag2, .inr ⟨by simp, rfl⟩, ?_, hT2⟩, hrow'.mono (fun _ h => h) fun b hb ho => ?_, fun m o ho => ?_⟩
        · rw [tk_objs, AH.set_ne _ _ n108.symm, AH.set_same]
        · rw [tk_objs, AH.set_same]
        · rw [tk_objs, AH.set_ne _ _ hb.2.2.2]; exact ho
        · rw [tk_objs, AH.set_ne _ _ (by rintro rfl; rw [hh10] at ho; cases ho)]; exact hk' m o ho
      · simp only [runs, e_onS, AH.set_same, AH.set_set, List.map_cons, List.map_nil, List.length_cons, List.length_nil, List.drop_zero, List.drop_succ_cons, List.take_succ_cons, List.take_zero, List.take_nil, List.nil_append, List.cons_append, List.append_nil, List.all_cons, List.all_nil, Nat.zero_add, Nat.add_zero, ite_true, ite_false, if_true, if_false, ne_eq, not_false_eq_true, not_true_eq_false, and_true, true_and, and_self, Bool.and_true, Bool.true_and, Bool.not_true, Bool.not_false, List.getElem?_cons_zero, List.getElem?_cons_succ, Option.isSome_some, beq_self_eq_true, implies_true, forall_const, Nat.le_refl, Option.some.injEq, Option.getD_some, Option.getD_none, List.getElem?_nil, e_Lpn, e_Lpe, e_Lpr, decide_true, decide_false, Int.natCast_nonneg, Int.toNat_natCast, Int.toNat_zero, lt_irr, imp_self, false_implies, big_eq, pevA, takeA, putA, fillA, chunkA, zerosL, binA, binI, binS, isNilA, lookA, bndA, depA, depV, depM, depS, cellAt, elemAt, initA, Nat.reduceAdd, Nat.reduceLeDiff, Nat.reduceEqDiff, reduceIte, reduceCtorEq, Nat.reduceLT, Nat.reduceMul, Nat.reduceSub, Int.reduceAdd, Int.reduceSub, Int.reduceMul, Int.reduceLT, Int.reduceLE, Int.reduceEq, Int.reduceNe, Int.reduceNeg, Int.reduceToNat, h0, f11, w]
        exact ⟨(k + 1, S, q + 1), by show i - (k + 1) < i - k; omega, f1, f5, f6, f7, f8, f9, f10, rfl, hlt, hsub', by simp only; omega, by simp only; omega, AH.set_same _ _ _, ⟨Es, tag, hE, o10', hT⟩, hrow', hk'⟩
    · have hke : k = i := by omega
      subst hke
      have c1 : decide ((k : Int) < (k : Int)) = false := by simp
      simp only [u_C l3_1.eq_1, runs, e_onS, AH.set_same, AH.set_set, List.map_cons, List.map_nil, List.length_cons, List.length_nil, List.drop_zero, List.drop_succ_cons, List.take_succ_cons, List.take_zero, List.take_nil, List.nil_append, List.cons_append, List.append_nil, List.all_cons, List.all_nil, Nat.zero_add, Nat.add_zero, ite_true, ite_false, if_true, if_false, ne_eq, not_false_eq_true, not_true_eq_false, and_true, true_and, and_self, Bool.and_true, Bool.true_and, Bool.not_true, Bool.not_false, List.getElem?_cons_zero, List.getElem?_cons_succ, Option.isSome_some, beq_self_eq_true, implies_true, forall_const, Nat.le_refl, Option.some.injEq, Option.getD_some, Option.getD_none, List.getElem?_nil, e_Lpn, e_Lpe, e_Lpr, decide_true, decide_false, Int.natCast_nonneg, Int.toNat_natCast, Int.toNat_zero, lt_irr, imp_self, false_implies, big_eq, pevA, takeA, putA, fillA, chunkA, zerosL, binA, binI, binS, isNilA, lookA, bndA, depA, depV, depM, depS, cellAt, elemAt, initA, Nat.reduceAdd, Nat.reduceLeDiff, Nat.reduceEqDiff, reduceIte, reduceCtorEq, Nat.reduceLT, Nat.reduceMul, Nat.reduceSub, Int.reduceAdd, Int.reduceSub, Int.reduceMul, Int.reduceLT, Int.reduceLE, Int.reduceEq, Int.reduceNe, Int.reduceNeg, Int.reduceToNat, f9, f11, c1]
      refine hR _ h2 S (.lst Es (strC S) tag) q f1 f5 f6 f7 f8 f9 f10 hsub ?_ hq (by omega) o8 o10 hrow hk fun c x hx => hT.le c x (ht c x hx)
      rcases hE with ⟨rfl, rfl, rfl⟩ | ⟨hne, rfl⟩
      · exact .inl ⟨rfl, rfl⟩
      · exact .inr ⟨hne, tag, rfl⟩
end Go.Proofs.YtfagmflapdgcmaaDoor.p
