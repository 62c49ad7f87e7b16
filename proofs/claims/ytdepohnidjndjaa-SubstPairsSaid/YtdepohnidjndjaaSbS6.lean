/- SubstOthers -/
import Derived.Test.YtdepohnidjndjaaSbPT
namespace Go.Proofs.Ytdepohnidjndjaa.p
open Go.Proofs Go Go.Cn code
set_option linter.unusedSimpArgs false
set_option linter.unusedVariables false

abbrev V (n : List UInt8) : PT := .mk 1 n []
theorem first_ok : Pure T 7 [] (.bool true) := by
  intro K h
  refine ACall.ret t7 fun hK => ?_
  simp only [u_C c7.eq_1, runs, e_onS, AH.set_same, AH.set_set, List.map_cons, List.map_nil, List.length_cons, List.length_nil, List.drop_zero, List.drop_succ_cons, List.take_succ_cons, List.take_zero, List.take_nil, List.nil_append, List.cons_append, List.append_nil, List.all_cons, List.all_nil, Nat.zero_add, Nat.add_zero, ite_true, ite_false, if_true, if_false, ne_eq, not_false_eq_true, not_true_eq_false, and_true, true_and, and_self, Bool.and_true, Bool.true_and, Bool.not_true, Bool.not_false, List.getElem?_cons_zero, List.getElem?_cons_succ, Option.isSome_some, beq_self_eq_true, implies_true, forall_const, Nat.le_refl, Option.some.injEq, Option.getD_some, Option.getD_none, List.getElem?_nil, e_Lpn, e_Lpe, e_Lpr, decide_true, decide_false, Int.natCast_nonneg, Int.toNat_natCast, Int.toNat_zero, lt_irr, imp_self, false_implies, big_eq, pevA, takeA, putA, fillA, chunkA, zerosL, binA, binI, binS, isNilA, lookA, bndA, depA, depV, depM, depS, cellAt, elemAt, initA, Nat.reduceAdd, Nat.reduceLeDiff, Nat.reduceEqDiff, reduceIte, reduceCtorEq, Nat.reduceLT, Nat.reduceMul, Nat.reduceSub, Int.reduceAdd, Int.reduceSub, Int.reduceMul, Int.reduceLT, Int.reduceLE, Int.reduceEq, Int.reduceNe, Int.reduceNeg, Int.reduceToNat]
  refine ((of_ok [([97], .mk 2 [73, 110, 116] [])] (by simpa using ⟨by simp, by simp⟩)).weakL (args := [.lst 44 [[.str [97], .int .i64 2, .str [73, 110, 116], .lst 0 [] .nil]] .no]) ⟨.lstL ⟨⟨.refl _, .refl _, .refl _, .lstE (by simp), trivial⟩, trivial⟩, trivial⟩).use ?_
  simp only [runs, e_onS, AH.set_same, AH.set_set, List.map_cons, List.map_nil, List.length_cons, List.length_nil, List.drop_zero, List.drop_succ_cons, List.take_succ_cons, List.take_zero, List.take_nil, List.nil_append, List.cons_append, List.append_nil, List.all_cons, List.all_nil, Nat.zero_add, Nat.add_zero, ite_true, ite_false, if_true, if_false, ne_eq, not_false_eq_true, not_true_eq_false, and_true, true_and, and_self, Bool.and_true, Bool.true_and, Bool.not_true, Bool.not_false, List.getElem?_cons_zero, List.getElem?_cons_succ, Option.isSome_some, beq_self_eq_true, implies_true, forall_const, Nat.le_refl, Option.some.injEq, Option.getD_some, Option.getD_none, List.getElem?_nil, e_Lpn, e_Lpe, e_Lpr, decide_true, decide_false, Int.natCast_nonneg, Int.toNat_natCast, Int.toNat_zero, lt_irr, imp_self, false_implies, big_eq, pevA, takeA, putA, fillA, chunkA, zerosL, binA, binI, binS, isNilA, lookA, bndA, depA, depV, depM, depS, cellAt, elemAt, initA, Nat.reduceAdd, Nat.reduceLeDiff, Nat.reduceEqDiff, reduceIte, reduceCtorEq, Nat.reduceLT, Nat.reduceMul, Nat.reduceSub, Int.reduceAdd, Int.reduceSub, Int.reduceMul, Int.reduceLT, Int.reduceLE, Int.reduceEq, Int.reduceNe, Int.reduceNeg, Int.reduceToNat]
  have hof : ofL [([97], .mk 2 [73, 110, 116] [])] = [([97], .mk 2 [73, 110, 116] [])] := rfl
  rw [hof]
  refine ((apply_ok (.fmap (sbC [([97], .mk 2 [73, 110, 116] [])])) [([97], .mk 2 [73, 110, 116] [])] (fun _ => rfl) rfl rfl (lk_ok _ (by simpa using ⟨by simp, by simp⟩)) (V [97]) ⟨by simp, by simp⟩).weakL (args := [.agg [.fmap (sbC [([97], .mk 2 [73, 110, 116] [])])], .agg [.int .i64 1, .str [97], .lst 0 [] .nil]]) ⟨.refl _, .aggL ⟨.refl _, .refl _, .lstE (by simp), trivial⟩, trivial⟩).use ?_
  have hap : ap [([97], .mk 2 [73, 110, 116] [])] (V [97]) = .mk 2 [73, 110, 116] [] := rfl
  rw [hap]
  simp only [runs, e_onS, AH.set_same, AH.set_set, List.map_cons, List.map_nil, List.length_cons, List.length_nil, List.drop_zero, List.drop_succ_cons, List.take_succ_cons, List.take_zero, List.take_nil, List.nil_append, List.cons_append, List.append_nil, List.all_cons, List.all_nil, Nat.zero_add, Nat.add_zero, ite_true, ite_false, if_true, if_false, ne_eq, not_false_eq_true, not_true_eq_false, and_true, true_and, and_self, Bool.and_true, Bool.true_and, Bool.not_true, Bool.not_false, List.getElem?_cons_zero, List.getElem?_cons_succ, Option.isSome_some, beq_self_eq_true, implies_true, forall_const, Nat.le_refl, Option.some.injEq, Option.getD_some, Option.getD_none, List.getElem?_nil, e_Lpn, e_Lpe, e_Lpr, decide_true, decide_false, Int.natCast_nonneg, Int.toNat_natCast, Int.toNat_zero, lt_irr, imp_self, false_implies, big_eq, pevA, takeA, putA, fillA, chunkA, zerosL, binA, binI, binS, isNilA, lookA, bndA, depA, depV, depM, depS, cellAt, elemAt, initA, Nat.reduceAdd, Nat.reduceLeDiff, Nat.reduceEqDiff, reduceIte, reduceCtorEq, Nat.reduceLT, Nat.reduceMul, Nat.reduceSub, Int.reduceAdd, Int.reduceSub, Int.reduceMul, Int.reduceLT, Int.reduceLE, Int.reduceEq, Int.reduceNe, Int.reduceNeg, Int.reduceToNat, tyC]
  refine (len_ok (.fmap (sbC [([97], .mk 2 [73, 110, 116] [])])) [([97], .mk 2 [73, 110, 116] [])] (fun _ => rfl) rfl rfl).use ?_
  have e1 : decide ((([([97], PT.mk 2 [73, 110, 116] [])] : Sb).length : Int) = 1) = true := rfl
  simp only [e1, runs, e_onS, AH.set_same, AH.set_set, List.map_cons, List.map_nil, List.length_cons, List.length_nil, List.drop_zero, List.drop_succ_cons, List.take_succ_cons, List.take_zero, List.take_nil, List.nil_append, List.cons_append, List.append_nil, List.all_cons, List.all_nil, Nat.zero_add, Nat.add_zero, ite_true, ite_false, if_true, if_false, ne_eq, not_false_eq_true, not_true_eq_false, and_true, true_and, and_self, Bool.and_true, Bool.true_and, Bool.not_true, Bool.not_false, List.getElem?_cons_zero, List.getElem?_cons_succ, Option.isSome_some, beq_self_eq_true, implies_true, forall_const, Nat.le_refl, Option.some.injEq, Option.getD_some, Option.getD_none, List.getElem?_nil, e_Lpn, e_Lpe, e_Lpr, decide_true, decide_false, Int.natCast_nonneg, Int.toNat_natCast, Int.toNat_zero, lt_irr, imp_self, false_implies, big_eq, pevA, takeA, putA, fillA, chunkA, zerosL, binA, binI, binS, isNilA, lookA, bndA, depA, depV, depM, depS, cellAt, elemAt, initA, Nat.reduceAdd, Nat.reduceLeDiff, Nat.reduceEqDiff, reduceIte, reduceCtorEq, Nat.reduceLT, Nat.reduceMul, Nat.reduceSub, Int.reduceAdd, Int.reduceSub, Int.reduceMul, Int.reduceLT, Int.reduceLE, Int.reduceEq, Int.reduceNe, Int.reduceNeg, Int.reduceToNat, tyC]
  have e2 : decide (((1 : Nat) : Int) = 1) = true := rfl
  simp only [e2, runs, e_onS, AH.set_same, AH.set_set, List.map_cons, List.map_nil, List.length_cons, List.length_nil, List.drop_zero, List.drop_succ_cons, List.take_succ_cons, List.take_zero, List.take_nil, List.nil_append, List.cons_append, List.append_nil, List.all_cons, List.all_nil, Nat.zero_add, Nat.add_zero, ite_true, ite_false, if_true, if_false, ne_eq, not_false_eq_true, not_true_eq_false, and_true, true_and, and_self, Bool.and_true, Bool.true_and, Bool.not_true, Bool.not_false, List.getElem?_cons_zero, List.getElem?_cons_succ, Option.isSome_some, beq_self_eq_true, implies_true, forall_const, Nat.le_refl, Option.some.injEq, Option.getD_some, Option.getD_none, List.getElem?_nil, e_Lpn, e_Lpe, e_Lpr, decide_true, decide_false, Int.natCast_nonneg, Int.toNat_natCast, Int.toNat_zero, lt_irr, imp_self, false_implies, big_eq, pevA, takeA, putA, fillA, chunkA, zerosL, binA, binI, binS, isNilA, lookA, bndA, depA, depV, depM, depS, cellAt, elemAt, initA, Nat.reduceAdd, Nat.reduceLeDiff, Nat.reduceEqDiff, reduceIte, reduceCtorEq, Nat.reduceLT, Nat.reduceMul, Nat.reduceSub, Int.reduceAdd, Int.reduceSub, Int.reduceMul, Int.reduceLT, Int.reduceLE, Int.reduceEq, Int.reduceNe, Int.reduceNeg, Int.reduceToNat, tyC]
  exact ⟨.refl _, AH.le_refl _⟩

-- the laws
theorem ap_v (l : Sb) (n : List UInt8) : ap l (V n) = (match lk l n with | some u => u | none => V n) := by
  simp only [ap, aps, if_true]
  cases lk l n <;> rfl
theorem ap_c (l : Sb) {k : Int} (hk : k ≠ 1) (n : List UInt8) (args : List PT) : ap l (.mk k n args) = .mk k n (args.map (ap l)) := by
  simp only [ap, hk, if_false, aps_eq]
theorem ap_ap {l1 l2 : Sb} (hv : ∀ n, n = [97] ∨ n = [98] ∨ n = [99] → ap l2 (ap l1 (V n)) = V n) : ∀ t, GT t → ap l2 (ap l1 t) = t := by
  refine PT.ind fun k n args ih h => ?_
  cases h with
  | v h => exact hv n h
  | c hk hl ha =>
    rw [ap_c l1 hk, ap_c l2 hk, List.map_map]
    congr 1
    conv => rhs; rw [← List.map_id args]
    exact List.map_congr_left fun a h => ih a h (ha a h)
theorem ap_id {l : Sb} (hv : ∀ n, n = [97] ∨ n = [98] ∨ n = [99] → ap l (V n) = V n) : ∀ t, GT t → ap l t = t := by
  refine PT.ind fun k n args ih h => ?_
  cases h with
  | v h => exact hv n h
  | c hk hl ha =>
    rw [ap_c l hk]
    congr 1
    conv => rhs; rw [← List.map_id args]
    exact List.map_congr_left fun a h => ih a h (ha a h)
theorem szF_map {f : PT → PT} : ∀ (l : List PT) (n : Int), (∀ a ∈ l, szT (f a) = szT a) → szF n (l.map f) = szF n l
  | [], n, h => rfl
  | a :: l, n, h => by
    simp only [List.map_cons, szF, h a (by simp)]
    exact szF_map l _ fun b hb => h b (by simp [hb])
theorem sz_ap {l : Sb} (hv : ∀ n, n = [97] ∨ n = [98] ∨ n = [99] → ∃ m, ap l (V n) = V m) : ∀ t, GT t → szT (ap l t) = szT t := by
  refine PT.ind fun k n args ih h => ?_
  cases h with
  | v h => obtain ⟨m, hm⟩ := hv n h; rw [hm]; rfl
  | c hk hl ha =>
    rw [ap_c l hk]
    exact szF_map args 1 fun a h => ih a h (ha a h)
theorem ap_ok {l : Sb} (hl : ∀ n u, lk l n = some u → PTOk u) : ∀ t, PTOk t → PTOk (ap l t) := by
  refine PT.ind fun k n args ih h => ?_
  cases h with
  | mk hlen ha =>
    have h1 : PTOk (.mk k n (aps l args)) := ⟨by simpa [aps_eq] using hlen, by
      intro a h
      rw [aps_eq] at h
      obtain ⟨b, hb, rfl⟩ := List.mem_map.1 h
      exact ih b hb (ha b hb)⟩
    simp only [ap]
    split
    · cases hu : lk l n with
      | some u => exact hl n u hu
      | none => exact h1
    · exact h1

def sw : Sb := [([97], V [98]), ([98], V [97])]
def zz : Sb := [([122, 122], V [97])]
theorem sw_of : ofL sw = sw := rfl
theorem zz_of : ofL zz = zz := rfl
theorem sw_ok : ∀ n u, lk sw n = some u → PTOk u := lk_ok _ (by intro p hp; rcases List.mem_cons.1 hp with rfl | hp; exact ⟨by simp, by simp⟩; rcases List.mem_cons.1 hp with rfl | hp; exact ⟨by simp, by simp⟩; cases hp)
theorem zz_ok : ∀ n u, lk zz n = some u → PTOk u := lk_ok _ (by intro p hp; rcases List.mem_cons.1 hp with rfl | hp; exact ⟨by simp, by simp⟩; cases hp)
theorem abc {P : List UInt8 → Prop} (h1 : P [97]) (h2 : P [98]) (h3 : P [99]) : ∀ n, n = [97] ∨ n = [98] ∨ n = [99] → P n := by
  rintro n (rfl | rfl | rfl)
  · exact h1
  · exact h2
  · exact h3
theorem law1 (t : PT) (h : GT t) : ap sw (ap sw t) = t := ap_ap (abc rfl rfl rfl) t h
theorem law2 (t : PT) (h : GT t) : ap zz t = t := ap_id (abc rfl rfl rfl) t h
theorem law3 (t : PT) (h : GT t) : ap (ofL (renN [[97], [98], [99]] 0 [[99], [120], [98]])) (ap (ofL (renN [[99], [120], [98]] 0 [[97], [98], [99]])) t) = t := ap_ap (abc rfl rfl rfl) t h
theorem law4 : ofL (renN [[98], [97]] 0 [[97], [98]]) = sw := rfl
theorem law5 (t : PT) (h : GT t) : szT (ap sw t) = szT t := sz_ap (abc ⟨_, rfl⟩ ⟨_, rfl⟩ ⟨_, rfl⟩) t h

def lC (l : List Int) : List (List AV) := l.map fun n => [.int .i64 n]
theorem lC_len (l : List Int) : (lC l).length = l.length := by rw [lC, List.length_map]

theorem others_ok (E : TypeId) (l : List Int) : Pure T 4 [.lst E (lC l) .no] (.bool true) := by
  intro K h
  refine ACall.ret t4 fun hK => ?_
  simp only [u_C c4.eq_1, runs, e_onS, AH.set_same, AH.set_set, List.map_cons, List.map_nil, List.length_cons, List.length_nil, List.drop_zero, List.drop_succ_cons, List.take_succ_cons, List.take_zero, List.take_nil, List.nil_append, List.cons_append, List.append_nil, List.all_cons, List.all_nil, Nat.zero_add, Nat.add_zero, ite_true, ite_false, if_true, if_false, ne_eq, not_false_eq_true, not_true_eq_false, and_true, true_and, and_self, Bool.and_true, Bool.true_and, Bool.not_true, Bool.not_false, List.getElem?_cons_zero, List.getElem?_cons_succ, Option.isSome_some, beq_self_eq_true, implies_true, forall_const, Nat.le_refl, Option.some.injEq, Option.getD_some, Option.getD_none, List.getElem?_nil, e_Lpn, e_Lpe, e_Lpr, decide_true, decide_false, Int.natCast_nonneg, Int.toNat_natCast, Int.toNat_zero, lt_irr, imp_self, false_implies, big_eq, pevA, takeA, putA, fillA, chunkA, zerosL, binA, binI, binS, isNilA, lookA, bndA, depA, depV, depM, depS, cellAt, elemAt, initA, Nat.reduceAdd, Nat.reduceLeDiff, Nat.reduceEqDiff, reduceIte, reduceCtorEq, Nat.reduceLT, Nat.reduceMul, Nat.reduceSub, Int.reduceAdd, Int.reduceSub, Int.reduceMul, Int.reduceLT, Int.reduceLE, Int.reduceEq, Int.reduceNe, Int.reduceNeg, Int.reduceToNat]
  refine first_ok.use ?_
  simp only [runs, e_onS, AH.set_same, AH.set_set, List.map_cons, List.map_nil, List.length_cons, List.length_nil, List.drop_zero, List.drop_succ_cons, List.take_succ_cons, List.take_zero, List.take_nil, List.nil_append, List.cons_append, List.append_nil, List.all_cons, List.all_nil, Nat.zero_add, Nat.add_zero, ite_true, ite_false, if_true, if_false, ne_eq, not_false_eq_true, not_true_eq_false, and_true, true_and, and_self, Bool.and_true, Bool.true_and, Bool.not_true, Bool.not_false, List.getElem?_cons_zero, List.getElem?_cons_succ, Option.isSome_some, beq_self_eq_true, implies_true, forall_const, Nat.le_refl, Option.some.injEq, Option.getD_some, Option.getD_none, List.getElem?_nil, e_Lpn, e_Lpe, e_Lpr, decide_true, decide_false, Int.natCast_nonneg, Int.toNat_natCast, Int.toNat_zero, lt_irr, imp_self, false_implies, big_eq, pevA, takeA, putA, fillA, chunkA, zerosL, binA, binI, binS, isNilA, lookA, bndA, depA, depV, depM, depS, cellAt, elemAt, initA, Nat.reduceAdd, Nat.reduceLeDiff, Nat.reduceEqDiff, reduceIte, reduceCtorEq, Nat.reduceLT, Nat.reduceMul, Nat.reduceSub, Int.reduceAdd, Int.reduceSub, Int.reduceMul, Int.reduceLT, Int.reduceLE, Int.reduceEq, Int.reduceNe, Int.reduceNeg, Int.reduceToNat, lC_len]
  by_cases hl : (100 : Int) < (l.length : Int)
  · simp only [hl, runs, e_onS, AH.set_same, AH.set_set, List.map_cons, List.map_nil, List.length_cons, List.length_nil, List.drop_zero, List.drop_succ_cons, List.take_succ_cons, List.take_zero, List.take_nil, List.nil_append, List.cons_append, List.append_nil, List.all_cons, List.all_nil, Nat.zero_add, Nat.add_zero, ite_true, ite_false, if_true, if_false, ne_eq, not_false_eq_true, not_true_eq_false, and_true, true_and, and_self, Bool.and_true, Bool.true_and, Bool.not_true, Bool.not_false, List.getElem?_cons_zero, List.getElem?_cons_succ, Option.isSome_some, beq_self_eq_true, implies_true, forall_const, Nat.le_refl, Option.some.injEq, Option.getD_some, Option.getD_none, List.getElem?_nil, e_Lpn, e_Lpe, e_Lpr, decide_true, decide_false, Int.natCast_nonneg, Int.toNat_natCast, Int.toNat_zero, lt_irr, imp_self, false_implies, big_eq, pevA, takeA, putA, fillA, chunkA, zerosL, binA, binI, binS, isNilA, lookA, bndA, depA, depV, depM, depS, cellAt, elemAt, initA, Nat.reduceAdd, Nat.reduceLeDiff, Nat.reduceEqDiff, reduceIte, reduceCtorEq, Nat.reduceLT, Nat.reduceMul, Nat.reduceSub, Int.reduceAdd, Int.reduceSub, Int.reduceMul, Int.reduceLT, Int.reduceLE, Int.reduceEq, Int.reduceNe, Int.reduceNeg, Int.reduceToNat]
    exact ⟨.refl _, AH.le_refl _⟩
  simp only [hl, runs, e_onS, AH.set_same, AH.set_set, List.map_cons, List.map_nil, List.length_cons, List.length_nil, List.drop_zero, List.drop_succ_cons, List.take_succ_cons, List.take_zero, List.take_nil, List.nil_append, List.cons_append, List.append_nil, List.all_cons, List.all_nil, Nat.zero_add, Nat.add_zero, ite_true, ite_false, if_true, if_false, ne_eq, not_false_eq_true, not_true_eq_false, and_true, true_and, and_self, Bool.and_true, Bool.true_and, Bool.not_true, Bool.not_false, List.getElem?_cons_zero, List.getElem?_cons_succ, Option.isSome_some, beq_self_eq_true, implies_true, forall_const, Nat.le_refl, Option.some.injEq, Option.getD_some, Option.getD_none, List.getElem?_nil, e_Lpn, e_Lpe, e_Lpr, decide_true, decide_false, Int.natCast_nonneg, Int.toNat_natCast, Int.toNat_zero, lt_irr, imp_self, false_implies, big_eq, pevA, takeA, putA, fillA, chunkA, zerosL, binA, binI, binS, isNilA, lookA, bndA, depA, depV, depM, depS, cellAt, elemAt, initA, Nat.reduceAdd, Nat.reduceLeDiff, Nat.reduceEqDiff, reduceIte, reduceCtorEq, Nat.reduceLT, Nat.reduceMul, Nat.reduceSub, Int.reduceAdd, Int.reduceSub, Int.reduceMul, Int.reduceLT, Int.reduceLE, Int.reduceEq, Int.reduceNe, Int.reduceNeg, Int.reduceToNat]
  intro b hb hk
  simp only [runs, e_onS, AH.set_same, AH.set_set, List.map_cons, List.map_nil, List.length_cons, List.length_nil, List.drop_zero, List.drop_succ_cons, List.take_succ_cons, List.take_zero, List.take_nil, List.nil_append, List.cons_append, List.append_nil, List.all_cons, List.all_nil, Nat.zero_add, Nat.add_zero, ite_true, ite_false, if_true, if_false, ne_eq, not_false_eq_true, not_true_eq_false, and_true, true_and, and_self, Bool.and_true, Bool.true_and, Bool.not_true, Bool.not_false, List.getElem?_cons_zero, List.getElem?_cons_succ, Option.isSome_some, beq_self_eq_true, implies_true, forall_const, Nat.le_refl, Option.some.injEq, Option.getD_some, Option.getD_none, List.getElem?_nil, e_Lpn, e_Lpe, e_Lpr, decide_true, decide_false, Int.natCast_nonneg, Int.toNat_natCast, Int.toNat_zero, lt_irr, imp_self, false_implies, big_eq, pevA, takeA, putA, fillA, chunkA, zerosL, binA, binI, binS, isNilA, lookA, bndA, depA, depV, depM, depS, cellAt, elemAt, initA, Nat.reduceAdd, Nat.reduceLeDiff, Nat.reduceEqDiff, reduceIte, reduceCtorEq, Nat.reduceLT, Nat.reduceMul, Nat.reduceSub, Int.reduceAdd, Int.reduceSub, Int.reduceMul, Int.reduceLT, Int.reduceLE, Int.reduceEq, Int.reduceNe, Int.reduceNeg, Int.reduceToNat]
  refine (type_ok E l b 4 (by omega) 0 (by omega) (by decide) K _ (by rw [AH.set_same]; rfl) hk).mono ?_
  rintro _ _ ⟨t, p', rfl, ht, -, -, rfl⟩
  rw [AH.set_set]
  have hto := GT.ok t ht
  have hv : ∀ n, PTOk (V n) := fun n => ⟨by simp, by simp⟩
  simp only [e_dregion d4_0, u_L s4_0.eq_1, u_T g4_0.eq_1, runs, e_onS, AH.set_same, AH.set_set, List.map_cons, List.map_nil, List.length_cons, List.length_nil, List.drop_zero, List.drop_succ_cons, List.take_succ_cons, List.take_zero, List.take_nil, List.nil_append, List.cons_append, List.append_nil, List.all_cons, List.all_nil, Nat.zero_add, Nat.add_zero, ite_true, ite_false, if_true, if_false, ne_eq, not_false_eq_true, not_true_eq_false, and_true, true_and, and_self, Bool.and_true, Bool.true_and, Bool.not_true, Bool.not_false, List.getElem?_cons_zero, List.getElem?_cons_succ, Option.isSome_some, beq_self_eq_true, implies_true, forall_const, Nat.le_refl, Option.some.injEq, Option.getD_some, Option.getD_none, List.getElem?_nil, e_Lpn, e_Lpe, e_Lpr, decide_true, decide_false, Int.natCast_nonneg, Int.toNat_natCast, Int.toNat_zero, lt_irr, imp_self, false_implies, big_eq, pevA, takeA, putA, fillA, chunkA, zerosL, binA, binI, binS, isNilA, lookA, bndA, depA, depV, depM, depS, cellAt, elemAt, initA, Nat.reduceAdd, Nat.reduceLeDiff, Nat.reduceEqDiff, reduceIte, reduceCtorEq, Nat.reduceLT, Nat.reduceMul, Nat.reduceSub, Int.reduceAdd, Int.reduceSub, Int.reduceMul, Int.reduceLT, Int.reduceLE, Int.reduceEq, Int.reduceNe, Int.reduceNeg, Int.reduceToNat, tyC_len, tyC_ne, tyC_one, tyC_take, tyC_drop, tyC_ta, tyC_da, tyC_d6]
  refine ((of_ok sw (by intro p hp; rcases List.mem_cons.1 hp with rfl | hp; exact hv _; rcases List.mem_cons.1 hp with rfl | hp; exact hv _; cases hp)).weakL (args := [.lst 44 [[.str [97], .int .i64 1, .str [98], .lst 0 [] .nil], [.str [98], .int .i64 1, .str [97], .lst 0 [] .nil]] .no]) ⟨.lstL ⟨⟨.refl _, .refl _, .refl _, .lstE (by simp), trivial⟩, ⟨.refl _, .refl _, .refl _, .lstE (by simp), trivial⟩, trivial⟩, trivial⟩).use ?_
  rw [sw_of]
  simp only [runs, e_onS, AH.set_same, AH.set_set, List.map_cons, List.map_nil, List.length_cons, List.length_nil, List.drop_zero, List.drop_succ_cons, List.take_succ_cons, List.take_zero, List.take_nil, List.nil_append, List.cons_append, List.append_nil, List.all_cons, List.all_nil, Nat.zero_add, Nat.add_zero, ite_true, ite_false, if_true, if_false, ne_eq, not_false_eq_true, not_true_eq_false, and_true, true_and, and_self, Bool.and_true, Bool.true_and, Bool.not_true, Bool.not_false, List.getElem?_cons_zero, List.getElem?_cons_succ, Option.isSome_some, beq_self_eq_true, implies_true, forall_const, Nat.le_refl, Option.some.injEq, Option.getD_some, Option.getD_none, List.getElem?_nil, e_Lpn, e_Lpe, e_Lpr, decide_true, decide_false, Int.natCast_nonneg, Int.toNat_natCast, Int.toNat_zero, lt_irr, imp_self, false_implies, big_eq, pevA, takeA, putA, fillA, chunkA, zerosL, binA, binI, binS, isNilA, lookA, bndA, depA, depV, depM, depS, cellAt, elemAt, initA, Nat.reduceAdd, Nat.reduceLeDiff, Nat.reduceEqDiff, reduceIte, reduceCtorEq, Nat.reduceLT, Nat.reduceMul, Nat.reduceSub, Int.reduceAdd, Int.reduceSub, Int.reduceMul, Int.reduceLT, Int.reduceLE, Int.reduceEq, Int.reduceNe, Int.reduceNeg, Int.reduceToNat, tyC_len, tyC_ne, tyC_one, tyC_take, tyC_drop, tyC_ta, tyC_da, tyC_d6]
  refine ((of_ok zz (by intro p hp; rcases List.mem_cons.1 hp with rfl | hp; exact hv _; cases hp)).weakL (args := [.lst 44 [[.str [122, 122], .int .i64 1, .str [97], .lst 0 [] .nil]] .no]) ⟨.lstL ⟨⟨.refl _, .refl _, .refl _, .lstE (by simp), trivial⟩, trivial⟩, trivial⟩).use ?_
  rw [zz_of]
  simp only [runs, e_onS, AH.set_same, AH.set_set, List.map_cons, List.map_nil, List.length_cons, List.length_nil, List.drop_zero, List.drop_succ_cons, List.take_succ_cons, List.take_zero, List.take_nil, List.nil_append, List.cons_append, List.append_nil, List.all_cons, List.all_nil, Nat.zero_add, Nat.add_zero, ite_true, ite_false, if_true, if_false, ne_eq, not_false_eq_true, not_true_eq_false, and_true, true_and, and_self, Bool.and_true, Bool.true_and, Bool.not_true, Bool.not_false, List.getElem?_cons_zero, List.getElem?_cons_succ, Option.isSome_some, beq_self_eq_true, implies_true, forall_const, Nat.le_refl, Option.some.injEq, Option.getD_some, Option.getD_none, List.getElem?_nil, e_Lpn, e_Lpe, e_Lpr, decide_true, decide_false, Int.natCast_nonneg, Int.toNat_natCast, Int.toNat_zero, lt_irr, imp_self, false_implies, big_eq, pevA, takeA, putA, fillA, chunkA, zerosL, binA, binI, binS, isNilA, lookA, bndA, depA, depV, depM, depS, cellAt, elemAt, initA, Nat.reduceAdd, Nat.reduceLeDiff, Nat.reduceEqDiff, reduceIte, reduceCtorEq, Nat.reduceLT, Nat.reduceMul, Nat.reduceSub, Int.reduceAdd, Int.reduceSub, Int.reduceMul, Int.reduceLT, Int.reduceLE, Int.reduceEq, Int.reduceNe, Int.reduceNeg, Int.reduceToNat, tyC_len, tyC_ne, tyC_one, tyC_take, tyC_drop, tyC_ta, tyC_da, tyC_d6]
  have ap1 := fun t ht => apply_ok (.fmap (sbC sw)) sw (fun _ => rfl) rfl rfl sw_ok t ht
  have ap2 := fun t ht => apply_ok (.fmap (sbC zz)) zz (fun _ => rfl) rfl rfl zz_ok t ht
  have hsw := ap_ok sw_ok t hto
  refine (ap1 t hto).use ?_
  simp only [e_dregion d4_0, u_L s4_0.eq_1, u_T g4_0.eq_1, runs, e_onS, AH.set_same, AH.set_set, List.map_cons, List.map_nil, List.length_cons, List.length_nil, List.drop_zero, List.drop_succ_cons, List.take_succ_cons, List.take_zero, List.take_nil, List.nil_append, List.cons_append, List.append_nil, List.all_cons, List.all_nil, Nat.zero_add, Nat.add_zero, ite_true, ite_false, if_true, if_false, ne_eq, not_false_eq_true, not_true_eq_false, and_true, true_and, and_self, Bool.and_true, Bool.true_and, Bool.not_true, Bool.not_false, List.getElem?_cons_zero, List.getElem?_cons_succ, Option.isSome_some, beq_self_eq_true, implies_true, forall_const, Nat.le_refl, Option.some.injEq, Option.getD_some, Option.getD_none, List.getElem?_nil, e_Lpn, e_Lpe, e_Lpr, decide_true, decide_false, Int.natCast_nonneg, Int.toNat_natCast, Int.toNat_zero, lt_irr, imp_self, false_implies, big_eq, pevA, takeA, putA, fillA, chunkA, zerosL, binA, binI, binS, isNilA, lookA, bndA, depA, depV, depM, depS, cellAt, elemAt, initA, Nat.reduceAdd, Nat.reduceLeDiff, Nat.reduceEqDiff, reduceIte, reduceCtorEq, Nat.reduceLT, Nat.reduceMul, Nat.reduceSub, Int.reduceAdd, Int.reduceSub, Int.reduceMul, Int.reduceLT, Int.reduceLE, Int.reduceEq, Int.reduceNe, Int.reduceNeg, Int.reduceToNat, tyC_len, tyC_ne, tyC_one, tyC_take, tyC_drop, tyC_ta, tyC_da, tyC_d6]
  refine (ap1 _ hsw).use ?_
  rw [law1 t ht]
  simp only [runs, e_onS, AH.set_same, AH.set_set, List.map_cons, List.map_nil, List.length_cons, List.length_nil, List.drop_zero, List.drop_succ_cons, List.take_succ_cons, List.take_zero, List.take_nil, List.nil_append, List.cons_append, List.append_nil, List.all_cons, List.all_nil, Nat.zero_add, Nat.add_zero, ite_true, ite_false, if_true, if_false, ne_eq, not_false_eq_true, not_true_eq_false, and_true, true_and, and_self, Bool.and_true, Bool.true_and, Bool.not_true, Bool.not_false, List.getElem?_cons_zero, List.getElem?_cons_succ, Option.isSome_some, beq_self_eq_true, implies_true, forall_const, Nat.le_refl, Option.some.injEq, Option.getD_some, Option.getD_none, List.getElem?_nil, e_Lpn, e_Lpe, e_Lpr, decide_true, decide_false, Int.natCast_nonneg, Int.toNat_natCast, Int.toNat_zero, lt_irr, imp_self, false_implies, big_eq, pevA, takeA, putA, fillA, chunkA, zerosL, binA, binI, binS, isNilA, lookA, bndA, depA, depV, depM, depS, cellAt, elemAt, initA, Nat.reduceAdd, Nat.reduceLeDiff, Nat.reduceEqDiff, reduceIte, reduceCtorEq, Nat.reduceLT, Nat.reduceMul, Nat.reduceSub, Int.reduceAdd, Int.reduceSub, Int.reduceMul, Int.reduceLT, Int.reduceLE, Int.reduceEq, Int.reduceNe, Int.reduceNeg, Int.reduceToNat, tyC_len, tyC_ne, tyC_one, tyC_take, tyC_drop, tyC_ta, tyC_da, tyC_d6]
  refine (sameType_ok t t).use ?_
  rw [eqT_true.2 rfl]
  simp only [runs, e_onS, AH.set_same, AH.set_set, List.map_cons, List.map_nil, List.length_cons, List.length_nil, List.drop_zero, List.drop_succ_cons, List.take_succ_cons, List.take_zero, List.take_nil, List.nil_append, List.cons_append, List.append_nil, List.all_cons, List.all_nil, Nat.zero_add, Nat.add_zero, ite_true, ite_false, if_true, if_false, ne_eq, not_false_eq_true, not_true_eq_false, and_true, true_and, and_self, Bool.and_true, Bool.true_and, Bool.not_true, Bool.not_false, List.getElem?_cons_zero, List.getElem?_cons_succ, Option.isSome_some, beq_self_eq_true, implies_true, forall_const, Nat.le_refl, Option.some.injEq, Option.getD_some, Option.getD_none, List.getElem?_nil, e_Lpn, e_Lpe, e_Lpr, decide_true, decide_false, Int.natCast_nonneg, Int.toNat_natCast, Int.toNat_zero, lt_irr, imp_self, false_implies, big_eq, pevA, takeA, putA, fillA, chunkA, zerosL, binA, binI, binS, isNilA, lookA, bndA, depA, depV, depM, depS, cellAt, elemAt, initA, Nat.reduceAdd, Nat.reduceLeDiff, Nat.reduceEqDiff, reduceIte, reduceCtorEq, Nat.reduceLT, Nat.reduceMul, Nat.reduceSub, Int.reduceAdd, Int.reduceSub, Int.reduceMul, Int.reduceLT, Int.reduceLE, Int.reduceEq, Int.reduceNe, Int.reduceNeg, Int.reduceToNat, tyC_len, tyC_ne, tyC_one, tyC_take, tyC_drop, tyC_ta, tyC_da, tyC_d6]
  refine (ap2 t hto).use ?_
  rw [law2 t ht]
  simp only [runs, e_onS, AH.set_same, AH.set_set, List.map_cons, List.map_nil, List.length_cons, List.length_nil, List.drop_zero, List.drop_succ_cons, List.take_succ_cons, List.take_zero, List.take_nil, List.nil_append, List.cons_append, List.append_nil, List.all_cons, List.all_nil, Nat.zero_add, Nat.add_zero, ite_true, ite_false, if_true, if_false, ne_eq, not_false_eq_true, not_true_eq_false, and_true, true_and, and_self, Bool.and_true, Bool.true_and, Bool.not_true, Bool.not_false, List.getElem?_cons_zero, List.getElem?_cons_succ, Option.isSome_some, beq_self_eq_true, implies_true, forall_const, Nat.le_refl, Option.some.injEq, Option.getD_some, Option.getD_none, List.getElem?_nil, e_Lpn, e_Lpe, e_Lpr, decide_true, decide_false, Int.natCast_nonneg, Int.toNat_natCast, Int.toNat_zero, lt_irr, imp_self, false_implies, big_eq, pevA, takeA, putA, fillA, chunkA, zerosL, binA, binI, binS, isNilA, lookA, bndA, depA, depV, depM, depS, cellAt, elemAt, initA, Nat.reduceAdd, Nat.reduceLeDiff, Nat.reduceEqDiff, reduceIte, reduceCtorEq, Nat.reduceLT, Nat.reduceMul, Nat.reduceSub, Int.reduceAdd, Int.reduceSub, Int.reduceMul, Int.reduceLT, Int.reduceLE, Int.reduceEq, Int.reduceNe, Int.reduceNeg, Int.reduceToNat, tyC_len, tyC_ne, tyC_one, tyC_take, tyC_drop, tyC_ta, tyC_da, tyC_d6]
  refine (sameType_ok t t).use ?_
  rw [eqT_true.2 rfl]
  simp only [runs, e_onS, AH.set_same, AH.set_set, List.map_cons, List.map_nil, List.length_cons, List.length_nil, List.drop_zero, List.drop_succ_cons, List.take_succ_cons, List.take_zero, List.take_nil, List.nil_append, List.cons_append, List.append_nil, List.all_cons, List.all_nil, Nat.zero_add, Nat.add_zero, ite_true, ite_false, if_true, if_false, ne_eq, not_false_eq_true, not_true_eq_false, and_true, true_and, and_self, Bool.and_true, Bool.true_and, Bool.not_true, Bool.not_false, List.getElem?_cons_zero, List.getElem?_cons_succ, Option.isSome_some, beq_self_eq_true, implies_true, forall_const, Nat.le_refl, Option.some.injEq, Option.getD_some, Option.getD_none, List.getElem?_nil, e_Lpn, e_Lpe, e_Lpr, decide_true, decide_false, Int.natCast_nonneg, Int.toNat_natCast, Int.toNat_zero, lt_irr, imp_self, false_implies, big_eq, pevA, takeA, putA, fillA, chunkA, zerosL, binA, binI, binS, isNilA, lookA, bndA, depA, depV, depM, depS, cellAt, elemAt, initA, Nat.reduceAdd, Nat.reduceLeDiff, Nat.reduceEqDiff, reduceIte, reduceCtorEq, Nat.reduceLT, Nat.reduceMul, Nat.reduceSub, Int.reduceAdd, Int.reduceSub, Int.reduceMul, Int.reduceLT, Int.reduceLE, Int.reduceEq, Int.reduceNe, Int.reduceNeg, Int.reduceToNat, tyC_len, tyC_ne, tyC_one, tyC_take, tyC_drop, tyC_ta, tyC_da, tyC_d6]
  refine (rename_ok t hto [[97], [98], [99]] [[99], [120], [98]] (by decide)).use ?_
  simp only [runs, e_onS, AH.set_same, AH.set_set, List.map_cons, List.map_nil, List.length_cons, List.length_nil, List.drop_zero, List.drop_succ_cons, List.take_succ_cons, List.take_zero, List.take_nil, List.nil_append, List.cons_append, List.append_nil, List.all_cons, List.all_nil, Nat.zero_add, Nat.add_zero, ite_true, ite_false, if_true, if_false, ne_eq, not_false_eq_true, not_true_eq_false, and_true, true_and, and_self, Bool.and_true, Bool.true_and, Bool.not_true, Bool.not_false, List.getElem?_cons_zero, List.getElem?_cons_succ, Option.isSome_some, beq_self_eq_true, implies_true, forall_const, Nat.le_refl, Option.some.injEq, Option.getD_some, Option.getD_none, List.getElem?_nil, e_Lpn, e_Lpe, e_Lpr, decide_true, decide_false, Int.natCast_nonneg, Int.toNat_natCast, Int.toNat_zero, lt_irr, imp_self, false_implies, big_eq, pevA, takeA, putA, fillA, chunkA, zerosL, binA, binI, binS, isNilA, lookA, bndA, depA, depV, depM, depS, cellAt, elemAt, initA, Nat.reduceAdd, Nat.reduceLeDiff, Nat.reduceEqDiff, reduceIte, reduceCtorEq, Nat.reduceLT, Nat.reduceMul, Nat.reduceSub, Int.reduceAdd, Int.reduceSub, Int.reduceMul, Int.reduceLT, Int.reduceLE, Int.reduceEq, Int.reduceNe, Int.reduceNeg, Int.reduceToNat, tyC_len, tyC_ne, tyC_one, tyC_take, tyC_drop, tyC_ta, tyC_da, tyC_d6]
  have hr1 := ap_ok (lk_ok _ (ofL_ok _ (renN_ok [[99], [120], [98]] 0 [[97], [98], [99]]))) t hto
  refine (rename_ok _ hr1 [[99], [120], [98]] [[97], [98], [99]] (by decide)).use ?_
  rw [law3 t ht]
  simp only [runs, e_onS, AH.set_same, AH.set_set, List.map_cons, List.map_nil, List.length_cons, List.length_nil, List.drop_zero, List.drop_succ_cons, List.take_succ_cons, List.take_zero, List.take_nil, List.nil_append, List.cons_append, List.append_nil, List.all_cons, List.all_nil, Nat.zero_add, Nat.add_zero, ite_true, ite_false, if_true, if_false, ne_eq, not_false_eq_true, not_true_eq_false, and_true, true_and, and_self, Bool.and_true, Bool.true_and, Bool.not_true, Bool.not_false, List.getElem?_cons_zero, List.getElem?_cons_succ, Option.isSome_some, beq_self_eq_true, implies_true, forall_const, Nat.le_refl, Option.some.injEq, Option.getD_some, Option.getD_none, List.getElem?_nil, e_Lpn, e_Lpe, e_Lpr, decide_true, decide_false, Int.natCast_nonneg, Int.toNat_natCast, Int.toNat_zero, lt_irr, imp_self, false_implies, big_eq, pevA, takeA, putA, fillA, chunkA, zerosL, binA, binI, binS, isNilA, lookA, bndA, depA, depV, depM, depS, cellAt, elemAt, initA, Nat.reduceAdd, Nat.reduceLeDiff, Nat.reduceEqDiff, reduceIte, reduceCtorEq, Nat.reduceLT, Nat.reduceMul, Nat.reduceSub, Int.reduceAdd, Int.reduceSub, Int.reduceMul, Int.reduceLT, Int.reduceLE, Int.reduceEq, Int.reduceNe, Int.reduceNeg, Int.reduceToNat, tyC_len, tyC_ne, tyC_one, tyC_take, tyC_drop, tyC_ta, tyC_da, tyC_d6]
  refine (sameType_ok t t).use ?_
  rw [eqT_true.2 rfl]
  simp only [runs, e_onS, AH.set_same, AH.set_set, List.map_cons, List.map_nil, List.length_cons, List.length_nil, List.drop_zero, List.drop_succ_cons, List.take_succ_cons, List.take_zero, List.take_nil, List.nil_append, List.cons_append, List.append_nil, List.all_cons, List.all_nil, Nat.zero_add, Nat.add_zero, ite_true, ite_false, if_true, if_false, ne_eq, not_false_eq_true, not_true_eq_false, and_true, true_and, and_self, Bool.and_true, Bool.true_and, Bool.not_true, Bool.not_false, List.getElem?_cons_zero, List.getElem?_cons_succ, Option.isSome_some, beq_self_eq_true, implies_true, forall_const, Nat.le_refl, Option.some.injEq, Option.getD_some, Option.getD_none, List.getElem?_nil, e_Lpn, e_Lpe, e_Lpr, decide_true, decide_false, Int.natCast_nonneg, Int.toNat_natCast, Int.toNat_zero, lt_irr, imp_self, false_implies, big_eq, pevA, takeA, putA, fillA, chunkA, zerosL, binA, binI, binS, isNilA, lookA, bndA, depA, depV, depM, depS, cellAt, elemAt, initA, Nat.reduceAdd, Nat.reduceLeDiff, Nat.reduceEqDiff, reduceIte, reduceCtorEq, Nat.reduceLT, Nat.reduceMul, Nat.reduceSub, Int.reduceAdd, Int.reduceSub, Int.reduceMul, Int.reduceLT, Int.reduceLE, Int.reduceEq, Int.reduceNe, Int.reduceNeg, Int.reduceToNat, tyC_len, tyC_ne, tyC_one, tyC_take, tyC_drop, tyC_ta, tyC_da, tyC_d6]
  refine (rename_ok t hto [[97], [98]] [[98], [97]] (by decide)).use ?_
  rw [law4]
  simp only [runs, e_onS, AH.set_same, AH.set_set, List.map_cons, List.map_nil, List.length_cons, List.length_nil, List.drop_zero, List.drop_succ_cons, List.take_succ_cons, List.take_zero, List.take_nil, List.nil_append, List.cons_append, List.append_nil, List.all_cons, List.all_nil, Nat.zero_add, Nat.add_zero, ite_true, ite_false, if_true, if_false, ne_eq, not_false_eq_true, not_true_eq_false, and_true, true_and, and_self, Bool.and_true, Bool.true_and, Bool.not_true, Bool.not_false, List.getElem?_cons_zero, List.getElem?_cons_succ, Option.isSome_some, beq_self_eq_true, implies_true, forall_const, Nat.le_refl, Option.some.injEq, Option.getD_some, Option.getD_none, List.getElem?_nil, e_Lpn, e_Lpe, e_Lpr, decide_true, decide_false, Int.natCast_nonneg, Int.toNat_natCast, Int.toNat_zero, lt_irr, imp_self, false_implies, big_eq, pevA, takeA, putA, fillA, chunkA, zerosL, binA, binI, binS, isNilA, lookA, bndA, depA, depV, depM, depS, cellAt, elemAt, initA, Nat.reduceAdd, Nat.reduceLeDiff, Nat.reduceEqDiff, reduceIte, reduceCtorEq, Nat.reduceLT, Nat.reduceMul, Nat.reduceSub, Int.reduceAdd, Int.reduceSub, Int.reduceMul, Int.reduceLT, Int.reduceLE, Int.reduceEq, Int.reduceNe, Int.reduceNeg, Int.reduceToNat, tyC_len, tyC_ne, tyC_one, tyC_take, tyC_drop, tyC_ta, tyC_da, tyC_d6]
  refine (sameType_ok (ap sw t) (ap sw t)).use ?_
  rw [eqT_true.2 rfl]
  simp only [runs, e_onS, AH.set_same, AH.set_set, List.map_cons, List.map_nil, List.length_cons, List.length_nil, List.drop_zero, List.drop_succ_cons, List.take_succ_cons, List.take_zero, List.take_nil, List.nil_append, List.cons_append, List.append_nil, List.all_cons, List.all_nil, Nat.zero_add, Nat.add_zero, ite_true, ite_false, if_true, if_false, ne_eq, not_false_eq_true, not_true_eq_false, and_true, true_and, and_self, Bool.and_true, Bool.true_and, Bool.not_true, Bool.not_false, List.getElem?_cons_zero, List.getElem?_cons_succ, Option.isSome_some, beq_self_eq_true, implies_true, forall_const, Nat.le_refl, Option.some.injEq, Option.getD_some, Option.getD_none, List.getElem?_nil, e_Lpn, e_Lpe, e_Lpr, decide_true, decide_false, Int.natCast_nonneg, Int.toNat_natCast, Int.toNat_zero, lt_irr, imp_self, false_implies, big_eq, pevA, takeA, putA, fillA, chunkA, zerosL, binA, binI, binS, isNilA, lookA, bndA, depA, depV, depM, depS, cellAt, elemAt, initA, Nat.reduceAdd, Nat.reduceLeDiff, Nat.reduceEqDiff, reduceIte, reduceCtorEq, Nat.reduceLT, Nat.reduceMul, Nat.reduceSub, Int.reduceAdd, Int.reduceSub, Int.reduceMul, Int.reduceLT, Int.reduceLE, Int.reduceEq, Int.reduceNe, Int.reduceNeg, Int.reduceToNat, tyC_len, tyC_ne, tyC_one, tyC_take, tyC_drop, tyC_ta, tyC_da, tyC_d6]
  refine (size_ok (ap sw t)).use ?_
  rw [law5 t ht]
  simp only [runs, e_onS, AH.set_same, AH.set_set, List.map_cons, List.map_nil, List.length_cons, List.length_nil, List.drop_zero, List.drop_succ_cons, List.take_succ_cons, List.take_zero, List.take_nil, List.nil_append, List.cons_append, List.append_nil, List.all_cons, List.all_nil, Nat.zero_add, Nat.add_zero, ite_true, ite_false, if_true, if_false, ne_eq, not_false_eq_true, not_true_eq_false, and_true, true_and, and_self, Bool.and_true, Bool.true_and, Bool.not_true, Bool.not_false, List.getElem?_cons_zero, List.getElem?_cons_succ, Option.isSome_some, beq_self_eq_true, implies_true, forall_const, Nat.le_refl, Option.some.injEq, Option.getD_some, Option.getD_none, List.getElem?_nil, e_Lpn, e_Lpe, e_Lpr, decide_true, decide_false, Int.natCast_nonneg, Int.toNat_natCast, Int.toNat_zero, lt_irr, imp_self, false_implies, big_eq, pevA, takeA, putA, fillA, chunkA, zerosL, binA, binI, binS, isNilA, lookA, bndA, depA, depV, depM, depS, cellAt, elemAt, initA, Nat.reduceAdd, Nat.reduceLeDiff, Nat.reduceEqDiff, reduceIte, reduceCtorEq, Nat.reduceLT, Nat.reduceMul, Nat.reduceSub, Int.reduceAdd, Int.reduceSub, Int.reduceMul, Int.reduceLT, Int.reduceLE, Int.reduceEq, Int.reduceNe, Int.reduceNeg, Int.reduceToNat, tyC_len, tyC_ne, tyC_one, tyC_take, tyC_drop, tyC_ta, tyC_da, tyC_d6]
  refine (size_ok t).use ?_
  simp only [runs, e_onS, AH.set_same, AH.set_set, List.map_cons, List.map_nil, List.length_cons, List.length_nil, List.drop_zero, List.drop_succ_cons, List.take_succ_cons, List.take_zero, List.take_nil, List.nil_append, List.cons_append, List.append_nil, List.all_cons, List.all_nil, Nat.zero_add, Nat.add_zero, ite_true, ite_false, if_true, if_false, ne_eq, not_false_eq_true, not_true_eq_false, and_true, true_and, and_self, Bool.and_true, Bool.true_and, Bool.not_true, Bool.not_false, List.getElem?_cons_zero, List.getElem?_cons_succ, Option.isSome_some, beq_self_eq_true, implies_true, forall_const, Nat.le_refl, Option.some.injEq, Option.getD_some, Option.getD_none, List.getElem?_nil, e_Lpn, e_Lpe, e_Lpr, decide_true, decide_false, Int.natCast_nonneg, Int.toNat_natCast, Int.toNat_zero, lt_irr, imp_self, false_implies, big_eq, pevA, takeA, putA, fillA, chunkA, zerosL, binA, binI, binS, isNilA, lookA, bndA, depA, depV, depM, depS, cellAt, elemAt, initA, Nat.reduceAdd, Nat.reduceLeDiff, Nat.reduceEqDiff, reduceIte, reduceCtorEq, Nat.reduceLT, Nat.reduceMul, Nat.reduceSub, Int.reduceAdd, Int.reduceSub, Int.reduceMul, Int.reduceLT, Int.reduceLE, Int.reduceEq, Int.reduceNe, Int.reduceNeg, Int.reduceToNat, tyC_len, tyC_ne, tyC_one, tyC_take, tyC_drop, tyC_ta, tyC_da, tyC_d6]
  exact ⟨.refl _, le_set (AH.le_refl _) hb⟩
theorem others_long (b o n c : Nat) (hn : 100 < n) : Pure T 4 [.slice b o n c] (.bool true) := by
  intro K h
  refine ACall.ret t4 fun hK => ?_
  simp only [u_C c4.eq_1, runs, e_onS, AH.set_same, AH.set_set, List.map_cons, List.map_nil, List.length_cons, List.length_nil, List.drop_zero, List.drop_succ_cons, List.take_succ_cons, List.take_zero, List.take_nil, List.nil_append, List.cons_append, List.append_nil, List.all_cons, List.all_nil, Nat.zero_add, Nat.add_zero, ite_true, ite_false, if_true, if_false, ne_eq, not_false_eq_true, not_true_eq_false, and_true, true_and, and_self, Bool.and_true, Bool.true_and, Bool.not_true, Bool.not_false, List.getElem?_cons_zero, List.getElem?_cons_succ, Option.isSome_some, beq_self_eq_true, implies_true, forall_const, Nat.le_refl, Option.some.injEq, Option.getD_some, Option.getD_none, List.getElem?_nil, e_Lpn, e_Lpe, e_Lpr, decide_true, decide_false, Int.natCast_nonneg, Int.toNat_natCast, Int.toNat_zero, lt_irr, imp_self, false_implies, big_eq, pevA, takeA, putA, fillA, chunkA, zerosL, binA, binI, binS, isNilA, lookA, bndA, depA, depV, depM, depS, cellAt, elemAt, initA, Nat.reduceAdd, Nat.reduceLeDiff, Nat.reduceEqDiff, reduceIte, reduceCtorEq, Nat.reduceLT, Nat.reduceMul, Nat.reduceSub, Int.reduceAdd, Int.reduceSub, Int.reduceMul, Int.reduceLT, Int.reduceLE, Int.reduceEq, Int.reduceNe, Int.reduceNeg, Int.reduceToNat]
  refine first_ok.use ?_
  have hl : (100 : Int) < (n : Int) := by omega
  simp only [hl, runs, e_onS, AH.set_same, AH.set_set, List.map_cons, List.map_nil, List.length_cons, List.length_nil, List.drop_zero, List.drop_succ_cons, List.take_succ_cons, List.take_zero, List.take_nil, List.nil_append, List.cons_append, List.append_nil, List.all_cons, List.all_nil, Nat.zero_add, Nat.add_zero, ite_true, ite_false, if_true, if_false, ne_eq, not_false_eq_true, not_true_eq_false, and_true, true_and, and_self, Bool.and_true, Bool.true_and, Bool.not_true, Bool.not_false, List.getElem?_cons_zero, List.getElem?_cons_succ, Option.isSome_some, beq_self_eq_true, implies_true, forall_const, Nat.le_refl, Option.some.injEq, Option.getD_some, Option.getD_none, List.getElem?_nil, e_Lpn, e_Lpe, e_Lpr, decide_true, decide_false, Int.natCast_nonneg, Int.toNat_natCast, Int.toNat_zero, lt_irr, imp_self, false_implies, big_eq, pevA, takeA, putA, fillA, chunkA, zerosL, binA, binI, binS, isNilA, lookA, bndA, depA, depV, depM, depS, cellAt, elemAt, initA, Nat.reduceAdd, Nat.reduceLeDiff, Nat.reduceEqDiff, reduceIte, reduceCtorEq, Nat.reduceLT, Nat.reduceMul, Nat.reduceSub, Int.reduceAdd, Int.reduceSub, Int.reduceMul, Int.reduceLT, Int.reduceLE, Int.reduceEq, Int.reduceNe, Int.reduceNeg, Int.reduceToNat]
  exact ⟨.refl _, AH.le_refl _⟩
end Go.Proofs.Ytdepohnidjndjaa.p

namespace Go.Proofs.Ytdepohnidjndjaa.p
open Go.Proofs Go Go.Cn code
set_option linter.unusedSimpArgs false
set_option linter.unusedVariables false

/-- no name twice -/
def Nd (l : Sb) : Prop := l.Pairwise fun a b => a.1 ≠ b.1
def names (l : Sb) : List (List UInt8) := l.map (·.1)
def dl (n : List UInt8) : Sb → Sb
  | [] => []
  | (k, u) :: l => if n = k then l else (k, u) :: dl n l
theorem del_sb (n : List UInt8) : ∀ l, mdelA (.str n) (sbC l) = some (sbC (dl n l))
  | [] => rfl
  | (k, u) :: l => by
    show (match keyEqA (.str n) (.str k) with | some true => _ | some false => _ | none => _) = _
    simp only [keyEqA, dl]
    by_cases e : n = k
    · simp [e]; rfl
    · simp only [e, decide_false, if_false]
      have := del_sb n l
      show (match mdelA (.str n) (sbC l) with | some r => _ | none => _) = _
      rw [this]; rfl
theorem lk_none {l : Sb} {n : List UInt8} : lk l n = none ↔ n ∉ names l := by
  induction l with
  | nil => simp [lk, names]
  | cons p l ih =>
    simp only [lk, names, List.map_cons, List.mem_cons, not_or]
    by_cases e : n = p.1
    · simp [e]
    · simp only [e, if_false, not_false_eq_true, true_and]; exact ih
theorem lk_mem {l : Sb} (h : Nd l) {p : List UInt8 × PT} (hp : p ∈ l) : lk l p.1 = some p.2 := by
  induction l with
  | nil => cases hp
  | cons q l ih =>
    obtain ⟨h1, h2⟩ := List.pairwise_cons.1 h
    simp only [lk]
    rcases List.mem_cons.1 hp with rfl | hp
    · simp
    · rw [if_neg (fun e => h1 p hp e.symm)]; exact ih h2 hp
theorem lk_some {l : Sb} {n : List UInt8} {t : PT} (h : lk l n = some t) : (n, t) ∈ l := by
  induction l with
  | nil => cases h
  | cons q l ih =>
    simp only [lk] at h
    split at h
    · rename_i e; cases h; rw [e]; simp
    · exact List.mem_cons_of_mem _ (ih h)
theorem pt_names (n : List UInt8) (t : PT) : ∀ l, ∀ m, m ∈ names (pt n t l) ↔ m = n ∨ m ∈ names l
  | [], m => by simp [pt, names]
  | (k, u) :: l, m => by
    simp only [pt]
    split
    · rename_i e; subst e; simp [names]
    · have := pt_names n t l m
      simp only [names, List.map_cons, List.mem_cons] at this ⊢
      rw [this]
      constructor
      · rintro (h | h | h) <;> simp [h]
      · rintro (h | h | h) <;> simp [h]
theorem pt_nd (n : List UInt8) (t : PT) : ∀ l, Nd l → Nd (pt n t l)
  | [], _ => by simp [pt, Nd]
  | (k, u) :: l, h => by
    obtain ⟨h1, h2⟩ := List.pairwise_cons.1 h
    simp only [pt]
    split
    · rename_i e; subst e; exact List.pairwise_cons.2 ⟨h1, h2⟩
    · rename_i e
      refine List.pairwise_cons.2 ⟨fun p hp => ?_, pt_nd n t l h2⟩
      have : p.1 ∈ names (pt n t l) := List.mem_map.2 ⟨p, hp, rfl⟩
      rcases (pt_names n t l p.1).1 this with h | h
      · rw [h]; exact fun e2 => e e2.symm
      · obtain ⟨q, hq, e2⟩ := List.mem_map.1 h
        rw [← e2]; exact h1 q hq
theorem dl_sub (n : List UInt8) : ∀ l, (dl n l).Sublist l
  | [] => .slnil
  | (k, u) :: l => by
    simp only [dl]
    split
    · exact List.sublist_cons_self _ _
    · exact (dl_sub n l).cons_cons _
theorem dl_nd (n : List UInt8) (l : Sb) (h : Nd l) : Nd (dl n l) := h.sublist (dl_sub n l)
theorem lk_dl (n m : List UInt8) : ∀ l, Nd l → lk (dl n l) m = if m = n then none else lk l m
  | [], _ => by simp [dl, lk]
  | (k, u) :: l, h => by
    obtain ⟨h1, h2⟩ := List.pairwise_cons.1 h
    simp only [dl]
    split
    · rename_i e; subst e
      simp only [lk]
      by_cases e : m = n
      · subst e
        simp only [if_true]
        exact lk_none.2 fun hm => by
          obtain ⟨q, hq, e2⟩ := List.mem_map.1 hm
          exact h1 q hq e2.symm
      · simp [e]
    · rename_i e
      simp only [lk, lk_dl n m l h2]
      split
      · rename_i e2; subst e2; rw [if_neg (fun h => e h.symm)]
      · rfl
theorem put1_nd (n : List UInt8) (t : PT) (l : Sb) (h : Nd l) : Nd (put1 n t l) := by
  unfold put1
  split
  · exact h
  · exact pt_nd n t l h
theorem sb_keys {l : Sb} (h : Nd l) : keysA (sbC l) := by
  refine ⟨fun e he => ?_, ?_⟩
  · obtain ⟨p, _, rfl⟩ := List.mem_map.1 he
    simp [keyEqA]
  · unfold sbC
    rw [List.pairwise_map]
    exact h.imp fun hab => by simp [keyEqA, hab]
theorem sb_split {l : Sb} {pre post : List (AV × AV)} {k v : AV} (h : sbC l = pre ++ (k, v) :: post) : ∃ a p b, l = a ++ p :: b ∧ pre = sbC a ∧ k = .str p.1 ∧ v = .agg (tyC p.2) ∧ post = sbC b := by
  unfold sbC at h
  obtain ⟨a, r, h1, h2, h3⟩ := List.map_eq_append_iff.1 h
  obtain ⟨p, b, h4, h5, h6⟩ := List.map_eq_cons_iff.1 h3
  cases h5
  exact ⟨a, p, b, by rw [h1, h4], h2.symm, rfl, rfl, h6.symm⟩

theorem ofFold_nd : ∀ (ps : Sb) (x : List (List UInt8) × Sb), Nd x.2 → Nd (ps.foldl ofStep x).2
  | [], x, h => h
  | p :: ps, x, h => by
    refine ofFold_nd ps (ofStep x p) ?_
    unfold ofStep
    split
    · exact h
    · exact put1_nd _ _ _ h
theorem ofL_nd (ps : Sb) : Nd (ofL ps) := ofFold_nd ps _ List.Pairwise.nil
end Go.Proofs.Ytdepohnidjndjaa.p

namespace Go.Proofs.Ytdepohnidjndjaa.p
open Go.Proofs Go Go.Cn code
set_option linter.unusedSimpArgs false
set_option linter.unusedVariables false

/-- a map of types by names, or none -/
def isM (m : AV) (l : Sb) : Prop := m = .fmap (sbC l) ∨ m = .nilm ∧ l = []
def keepV (n : List UInt8) (t : PT) : Option PT := if isV t n then none else some t
def lk1 (u : Sb) (n : List UInt8) : Option PT := match lk u n with
  | some t => keepV n t
  | none => none
/-- what a name has, after both -/
def thenLk (s u : Sb) (n : List UInt8) : Option PT := match lk s n with
  | some t => keepV n (ap u t)
  | none => lk1 u n
theorem lk_put1 (n m : List UInt8) (t : PT) (l : Sb) : lk (put1 n t l) m = if m = n then (if isV t n then lk l m else some t) else lk l m := by
  unfold put1
  by_cases hv : isV t n = true
  · simp [hv]
  · simp only [hv, if_false, lk_pt, Bool.false_eq_true]

theorem nd_split {a b : Sb} {p : List UInt8 × PT} (h : Nd (a ++ p :: b)) : Nd (a ++ b) ∧ p.1 ∉ names (a ++ b) := by
  obtain ⟨h1, h2, h3⟩ := List.pairwise_append.1 h
  obtain ⟨h4, h5⟩ := List.pairwise_cons.1 h2
  refine ⟨List.pairwise_append.2 ⟨h1, h5, fun x hx y hy => h3 x hx y (by simp [hy])⟩, fun hm => ?_⟩
  obtain ⟨q, hq, e⟩ := List.mem_map.1 hm
  rcases List.mem_append.1 hq with hq | hq
  · exact h3 q hq p (by simp) e
  · exact h4 q hq e.symm
theorem names_split {a b : Sb} {p : List UInt8 × PT} {n : List UInt8} : n ∈ names (a ++ p :: b) ↔ n = p.1 ∨ n ∈ names (a ++ b) := by
  simp only [names, List.map_append, List.map_cons, List.mem_append, List.mem_cons]
  constructor
  · rintro (h | h | h) <;> simp [h]
  · rintro (h | h | h) <;> simp [h]

theorem then_ok (ms mu : AV) (s u : Sb) (hs : isM ms s) (hu : isM mu u) (ns : Nd s) (nu : Nd u) (os : ∀ p ∈ s, PTOk p.2) (ou : ∀ p ∈ u, PTOk p.2) (K : Nat → Prop) (h : AH) :
    ACall T K (.func 11) [.agg [ms], .agg [mu]] h fun v h' => (∃ r, v = .agg [.fmap (sbC r)] ∧ Nd r ∧ ∀ n, lk r n = thenLk s u n) ∧ h' = h := by
  have mA : ∀ {m : AV} {l : Sb}, isM m l → isAny m = false ∧ cellsA m = [m] := by
    rintro m l (rfl | ⟨rfl, _⟩) <;> exact ⟨rfl, rfl⟩
  refine ACall.retQ t11 fun hK => ?_
  simp only [u_C c11.eq_1, runs, e_onS, AH.set_same, AH.set_set, List.map_cons, List.map_nil, List.length_cons, List.length_nil, List.drop_zero, List.drop_succ_cons, List.take_succ_cons, List.take_zero, List.take_nil, List.nil_append, List.cons_append, List.append_nil, List.all_cons, List.all_nil, Nat.zero_add, Nat.add_zero, ite_true, ite_false, if_true, if_false, ne_eq, not_false_eq_true, not_true_eq_false, and_true, true_and, and_self, Bool.and_true, Bool.true_and, Bool.not_true, Bool.not_false, List.getElem?_cons_zero, List.getElem?_cons_succ, Option.isSome_some, beq_self_eq_true, implies_true, forall_const, Nat.le_refl, Option.some.injEq, Option.getD_some, Option.getD_none, List.getElem?_nil, e_Lpn, e_Lpe, e_Lpr, decide_true, decide_false, Int.natCast_nonneg, Int.toNat_natCast, Int.toNat_zero, lt_irr, imp_self, false_implies, big_eq, pevA, takeA, putA, fillA, chunkA, zerosL, binA, binI, binS, isNilA, lookA, bndA, depA, depV, depM, depS, cellAt, elemAt, initA, Nat.reduceAdd, Nat.reduceLeDiff, Nat.reduceEqDiff, reduceIte, reduceCtorEq, Nat.reduceLT, Nat.reduceMul, Nat.reduceSub, Int.reduceAdd, Int.reduceSub, Int.reduceMul, Int.reduceLT, Int.reduceLE, Int.reduceEq, Int.reduceNe, Int.reduceNeg, Int.reduceToNat]
  intro b4 hb4 hk4
  simp only [runs, e_onS, AH.set_same, AH.set_set, List.map_cons, List.map_nil, List.length_cons, List.length_nil, List.drop_zero, List.drop_succ_cons, List.take_succ_cons, List.take_zero, List.take_nil, List.nil_append, List.cons_append, List.append_nil, List.all_cons, List.all_nil, Nat.zero_add, Nat.add_zero, ite_true, ite_false, if_true, if_false, ne_eq, not_false_eq_true, not_true_eq_false, and_true, true_and, and_self, Bool.and_true, Bool.true_and, Bool.not_true, Bool.not_false, List.getElem?_cons_zero, List.getElem?_cons_succ, Option.isSome_some, beq_self_eq_true, implies_true, forall_const, Nat.le_refl, Option.some.injEq, Option.getD_some, Option.getD_none, List.getElem?_nil, e_Lpn, e_Lpe, e_Lpr, decide_true, decide_false, Int.natCast_nonneg, Int.toNat_natCast, Int.toNat_zero, lt_irr, imp_self, false_implies, big_eq, pevA, takeA, putA, fillA, chunkA, zerosL, binA, binI, binS, isNilA, lookA, bndA, depA, depV, depM, depS, cellAt, elemAt, initA, Nat.reduceAdd, Nat.reduceLeDiff, Nat.reduceEqDiff, reduceIte, reduceCtorEq, Nat.reduceLT, Nat.reduceMul, Nat.reduceSub, Int.reduceAdd, Int.reduceSub, Int.reduceMul, Int.reduceLT, Int.reduceLE, Int.reduceEq, Int.reduceNe, Int.reduceNeg, Int.reduceToNat]
  intro b5 hb5 hk5
  obtain ⟨n54, hb5⟩ := AH.set_none.1 hb5
  simp only [runs, e_onS, AH.set_same, AH.set_set, List.map_cons, List.map_nil, List.length_cons, List.length_nil, List.drop_zero, List.drop_succ_cons, List.take_succ_cons, List.take_zero, List.take_nil, List.nil_append, List.cons_append, List.append_nil, List.all_cons, List.all_nil, Nat.zero_add, Nat.add_zero, ite_true, ite_false, if_true, if_false, ne_eq, not_false_eq_true, not_true_eq_false, and_true, true_and, and_self, Bool.and_true, Bool.true_and, Bool.not_true, Bool.not_false, List.getElem?_cons_zero, List.getElem?_cons_succ, Option.isSome_some, beq_self_eq_true, implies_true, forall_const, Nat.le_refl, Option.some.injEq, Option.getD_some, Option.getD_none, List.getElem?_nil, e_Lpn, e_Lpe, e_Lpr, decide_true, decide_false, Int.natCast_nonneg, Int.toNat_natCast, Int.toNat_zero, lt_irr, imp_self, false_implies, big_eq, pevA, takeA, putA, fillA, chunkA, zerosL, binA, binI, binS, isNilA, lookA, bndA, depA, depV, depM, depS, cellAt, elemAt, initA, Nat.reduceAdd, Nat.reduceLeDiff, Nat.reduceEqDiff, reduceIte, reduceCtorEq, Nat.reduceLT, Nat.reduceMul, Nat.reduceSub, Int.reduceAdd, Int.reduceSub, Int.reduceMul, Int.reduceLT, Int.reduceLE, Int.reduceEq, Int.reduceNe, Int.reduceNeg, Int.reduceToNat]
  refine WO.range (es := sbC u) ?_ (sb_keys nu) fun b14 hb14 hk14 => ?_
  · rcases hu with rfl | ⟨rfl, rfl⟩
    · exact .inl rfl
    · exact .inr ⟨rfl, rfl⟩
  obtain ⟨n145, hb14⟩ := AH.set_none.1 hb14
  obtain ⟨n144, hb14⟩ := AH.set_none.1 hb14
  simp only [runs, e_onS, AH.set_same, AH.set_set, List.map_cons, List.map_nil, List.length_cons, List.length_nil, List.drop_zero, List.drop_succ_cons, List.take_succ_cons, List.take_zero, List.take_nil, List.nil_append, List.cons_append, List.append_nil, List.all_cons, List.all_nil, Nat.zero_add, Nat.add_zero, ite_true, ite_false, if_true, if_false, ne_eq, not_false_eq_true, not_true_eq_false, and_true, true_and, and_self, Bool.and_true, Bool.true_and, Bool.not_true, Bool.not_false, List.getElem?_cons_zero, List.getElem?_cons_succ, Option.isSome_some, beq_self_eq_true, implies_true, forall_const, Nat.le_refl, Option.some.injEq, Option.getD_some, Option.getD_none, List.getElem?_nil, e_Lpn, e_Lpe, e_Lpr, decide_true, decide_false, Int.natCast_nonneg, Int.toNat_natCast, Int.toNat_zero, lt_irr, imp_self, false_implies, big_eq, pevA, takeA, putA, fillA, chunkA, zerosL, binA, binI, binS, isNilA, lookA, bndA, depA, depV, depM, depS, cellAt, elemAt, initA, Nat.reduceAdd, Nat.reduceLeDiff, Nat.reduceEqDiff, reduceIte, reduceCtorEq, Nat.reduceLT, Nat.reduceMul, Nat.reduceSub, Int.reduceAdd, Int.reduceSub, Int.reduceMul, Int.reduceLT, Int.reduceLE, Int.reduceEq, Int.reduceNe, Int.reduceNeg, Int.reduceToNat]
  refine aloop (α := Sb × Sb) (fun x fr h1 => fr 2 = .rptr [ms] ∧ fr 3 = .rptr [mu] ∧ fr 4 = .ptr b4 0 ∧ fr 5 = .rptr [.map b5] ∧ fr 14 = .ptr b14 0 ∧ Nd x.1 ∧ (∀ p ∈ x.1, p ∈ u) ∧ Nd x.2 ∧ (∀ n, lk x.2 n = if n ∈ names x.1 then none else lk1 u n) ∧
      ∃ cur, h1 = ((h.set b4 (.cells [.nilm] 37)).set b5 (.map (sbC x.2))).set b14 (.iter (sbC x.1) cur)) (fun x => x.1.length) (u, []) ?_ ?_
  · refine ⟨rfl, rfl, rfl, rfl, rfl, nu, fun p hp => hp, .nil, fun n => ?_, none, rfl⟩
    simp only [lk]
    by_cases hn : n ∈ names u
    · simp [hn]
    · simp [hn, lk1, lk_none.2 hn]
  · rintro ⟨td, r⟩ fr h1 ⟨f2, f3, f4, f5, f14, ntd, sub, nr, hr, cur0, rfl⟩
    simp only at ntd sub nr hr
    simp only [u_C l11_0.eq_1, runs, e_onS, AH.set_same, AH.set_set, List.map_cons, List.map_nil, List.length_cons, List.length_nil, List.drop_zero, List.drop_succ_cons, List.take_succ_cons, List.take_zero, List.take_nil, List.nil_append, List.cons_append, List.append_nil, List.all_cons, List.all_nil, Nat.zero_add, Nat.add_zero, ite_true, ite_false, if_true, if_false, ne_eq, not_false_eq_true, not_true_eq_false, and_true, true_and, and_self, Bool.and_true, Bool.true_and, Bool.not_true, Bool.not_false, List.getElem?_cons_zero, List.getElem?_cons_succ, Option.isSome_some, beq_self_eq_true, implies_true, forall_const, Nat.le_refl, Option.some.injEq, Option.getD_some, Option.getD_none, List.getElem?_nil, e_Lpn, e_Lpe, e_Lpr, decide_true, decide_false, Int.natCast_nonneg, Int.toNat_natCast, Int.toNat_zero, lt_irr, imp_self, false_implies, big_eq, pevA, takeA, putA, fillA, chunkA, zerosL, binA, binI, binS, isNilA, lookA, bndA, depA, depV, depM, depS, cellAt, elemAt, initA, Nat.reduceAdd, Nat.reduceLeDiff, Nat.reduceEqDiff, reduceIte, reduceCtorEq, Nat.reduceLT, Nat.reduceMul, Nat.reduceSub, Int.reduceAdd, Int.reduceSub, Int.reduceMul, Int.reduceLT, Int.reduceLE, Int.reduceEq, Int.reduceNe, Int.reduceNeg, Int.reduceToNat]
    refine WO.next f14 (AH.set_same _ _ _) hk14 (fun h0 => ?_) fun pre k v post h0 => ?_
    · have htd : td = [] := by simpa [sbC] using h0
      subst htd
      have hr' : ∀ n, lk r n = lk1 u n := fun n => by rw [hr]; simp [names]
      simp only [runs, e_onS, AH.set_same, AH.set_set, List.map_cons, List.map_nil, List.length_cons, List.length_nil, List.drop_zero, List.drop_succ_cons, List.take_succ_cons, List.take_zero, List.take_nil, List.nil_append, List.cons_append, List.append_nil, List.all_cons, List.all_nil, Nat.zero_add, Nat.add_zero, ite_true, ite_false, if_true, if_false, ne_eq, not_false_eq_true, not_true_eq_false, and_true, true_and, and_self, Bool.and_true, Bool.true_and, Bool.not_true, Bool.not_false, List.getElem?_cons_zero, List.getElem?_cons_succ, Option.isSome_some, beq_self_eq_true, implies_true, forall_const, Nat.le_refl, Option.some.injEq, Option.getD_some, Option.getD_none, List.getElem?_nil, e_Lpn, e_Lpe, e_Lpr, decide_true, decide_false, Int.natCast_nonneg, Int.toNat_natCast, Int.toNat_zero, lt_irr, imp_self, false_implies, big_eq, pevA, takeA, putA, fillA, chunkA, zerosL, binA, binI, binS, isNilA, lookA, bndA, depA, depV, depM, depS, cellAt, elemAt, initA, Nat.reduceAdd, Nat.reduceLeDiff, Nat.reduceEqDiff, reduceIte, reduceCtorEq, Nat.reduceLT, Nat.reduceMul, Nat.reduceSub, Int.reduceAdd, Int.reduceSub, Int.reduceMul, Int.reduceLT, Int.reduceLE, Int.reduceEq, Int.reduceNe, Int.reduceNeg, Int.reduceToNat, f2]
      refine WO.range (es := sbC s) ?_ (sb_keys ns) fun b26 hb26 hk26 => ?_
      · rcases hs with rfl | ⟨rfl, rfl⟩
        · exact .inl rfl
        · exact .inr ⟨rfl, rfl⟩
      obtain ⟨n2614, hb26⟩ := AH.set_none.1 hb26
      obtain ⟨n265, hb26⟩ := AH.set_none.1 hb26
      obtain ⟨n264, hb26⟩ := AH.set_none.1 hb26
      have hum : ∀ h, entA h mu = some (sbC u) := by
        rcases hu with rfl | ⟨rfl, rfl⟩ <;> exact fun _ => rfl
      simp only [runs, e_onS, AH.set_same, AH.set_set, List.map_cons, List.map_nil, List.length_cons, List.length_nil, List.drop_zero, List.drop_succ_cons, List.take_succ_cons, List.take_zero, List.take_nil, List.nil_append, List.cons_append, List.append_nil, List.all_cons, List.all_nil, Nat.zero_add, Nat.add_zero, ite_true, ite_false, if_true, if_false, ne_eq, not_false_eq_true, not_true_eq_false, and_true, true_and, and_self, Bool.and_true, Bool.true_and, Bool.not_true, Bool.not_false, List.getElem?_cons_zero, List.getElem?_cons_succ, Option.isSome_some, beq_self_eq_true, implies_true, forall_const, Nat.le_refl, Option.some.injEq, Option.getD_some, Option.getD_none, List.getElem?_nil, e_Lpn, e_Lpe, e_Lpr, decide_true, decide_false, Int.natCast_nonneg, Int.toNat_natCast, Int.toNat_zero, lt_irr, imp_self, false_implies, big_eq, pevA, takeA, putA, fillA, chunkA, zerosL, binA, binI, binS, isNilA, lookA, bndA, depA, depV, depM, depS, cellAt, elemAt, initA, Nat.reduceAdd, Nat.reduceLeDiff, Nat.reduceEqDiff, reduceIte, reduceCtorEq, Nat.reduceLT, Nat.reduceMul, Nat.reduceSub, Int.reduceAdd, Int.reduceSub, Int.reduceMul, Int.reduceLT, Int.reduceLE, Int.reduceEq, Int.reduceNe, Int.reduceNeg, Int.reduceToNat]
      refine aloop (α := Sb × Sb) (fun x fr h1 => fr 3 = .rptr [mu] ∧ fr 4 = .ptr b4 0 ∧ fr 5 = .rptr [.map b5] ∧ fr 26 = .ptr b26 0 ∧ Nd x.1 ∧ (∀ p ∈ x.1, p ∈ s) ∧ Nd x.2 ∧ (∀ n, lk x.2 n = if n ∈ names x.1 then lk1 u n else thenLk s u n) ∧
        ∃ cur, h1 = (((h.set b4 (.cells [.nilm] 37)).set b14 (.iter (sbC []) cur0)).set b26 (.iter (sbC x.1) cur)).set b5 (.map (sbC x.2))) (fun x => x.1.length) (s, r) ?_ ?_
      · refine ⟨f3, f4, f5, rfl, ns, fun p hp => hp, nr, fun n => ?_, none, ?_⟩
        · rw [hr']
          by_cases hn : n ∈ names s
          · simp [hn]
          · simp [hn, thenLk, lk_none.2 hn]
        · rw [set_comm n145.symm, set_comm n265.symm]
      · clear f2 f3 f4 f5 f14
        rintro ⟨td, r⟩ fr h1 ⟨f3, f4, f5, f26, ntd, sub, nr, hr, cur, rfl⟩
        simp only at ntd sub nr hr
        have hit : ∀ r', ((((h.set b4 (.cells [.nilm] 37)).set b14 (.iter (sbC []) cur0)).set b26 (.iter (sbC td) cur)).set b5 (.map (sbC r'))).objs b26 = some (.iter (sbC td) cur) := fun r' => by rw [s_objs n265, AH.set_same]
        simp only [u_C l11_2.eq_1, runs, e_onS, AH.set_same, AH.set_set, List.map_cons, List.map_nil, List.length_cons, List.length_nil, List.drop_zero, List.drop_succ_cons, List.take_succ_cons, List.take_zero, List.take_nil, List.nil_append, List.cons_append, List.append_nil, List.all_cons, List.all_nil, Nat.zero_add, Nat.add_zero, ite_true, ite_false, if_true, if_false, ne_eq, not_false_eq_true, not_true_eq_false, and_true, true_and, and_self, Bool.and_true, Bool.true_and, Bool.not_true, Bool.not_false, List.getElem?_cons_zero, List.getElem?_cons_succ, Option.isSome_some, beq_self_eq_true, implies_true, forall_const, Nat.le_refl, Option.some.injEq, Option.getD_some, Option.getD_none, List.getElem?_nil, e_Lpn, e_Lpe, e_Lpr, decide_true, decide_false, Int.natCast_nonneg, Int.toNat_natCast, Int.toNat_zero, lt_irr, imp_self, false_implies, big_eq, pevA, takeA, putA, fillA, chunkA, zerosL, binA, binI, binS, isNilA, lookA, bndA, depA, depV, depM, depS, cellAt, elemAt, initA, Nat.reduceAdd, Nat.reduceLeDiff, Nat.reduceEqDiff, reduceIte, reduceCtorEq, Nat.reduceLT, Nat.reduceMul, Nat.reduceSub, Int.reduceAdd, Int.reduceSub, Int.reduceMul, Int.reduceLT, Int.reduceLE, Int.reduceEq, Int.reduceNe, Int.reduceNeg, Int.reduceToNat]
        refine WO.next f26 (hit r) hk26 (fun h0 => ?_) fun pre k v post h0 => ?_
        · have htd : td = [] := by simpa [sbC] using h0
          subst htd
          simp only [runs, e_onS, AH.set_same, AH.set_set, List.map_cons, List.map_nil, List.length_cons, List.length_nil, List.drop_zero, List.drop_succ_cons, List.take_succ_cons, List.take_zero, List.take_nil, List.nil_append, List.cons_append, List.append_nil, List.all_cons, List.all_nil, Nat.zero_add, Nat.add_zero, ite_true, ite_false, if_true, if_false, ne_eq, not_false_eq_true, not_true_eq_false, and_true, true_and, and_self, Bool.and_true, Bool.true_and, Bool.not_true, Bool.not_false, List.getElem?_cons_zero, List.getElem?_cons_succ, Option.isSome_some, beq_self_eq_true, implies_true, forall_const, Nat.le_refl, Option.some.injEq, Option.getD_some, Option.getD_none, List.getElem?_nil, e_Lpn, e_Lpe, e_Lpr, decide_true, decide_false, Int.natCast_nonneg, Int.toNat_natCast, Int.toNat_zero, lt_irr, imp_self, false_implies, big_eq, pevA, takeA, putA, fillA, chunkA, zerosL, binA, binI, binS, isNilA, lookA, bndA, depA, depV, depM, depS, cellAt, elemAt, initA, Nat.reduceAdd, Nat.reduceLeDiff, Nat.reduceEqDiff, reduceIte, reduceCtorEq, Nat.reduceLT, Nat.reduceMul, Nat.reduceSub, Int.reduceAdd, Int.reduceSub, Int.reduceMul, Int.reduceLT, Int.reduceLE, Int.reduceEq, Int.reduceNe, Int.reduceNeg, Int.reduceToNat, f5, f4, s_objs n54.symm, s_objs n264.symm, s_objs n144.symm, hk4]
          refine ⟨_, h, .map1 (es := sbC r) ?_ ?_, hK, ⟨r, rfl, nr, fun n => by rw [hr]; simp [names]⟩, rfl⟩
          · rw [AH.del_objs, if_neg n54, AH.set_same]
          · exact le_del (le_del (le_set (le_set (le_set (le_set (AH.le_refl _) hb4) hb14) hb26) hb5) hb4) hb5
        · obtain ⟨a, p, b, rfl, rfl, rfl, rfl, rfl⟩ := sb_split h0
          have hp := sub p (by simp)
          rw [set_comm n265.symm, AH.set_set]
          simp only [runs, e_onS, AH.set_same, AH.set_set, List.map_cons, List.map_nil, List.length_cons, List.length_nil, List.drop_zero, List.drop_succ_cons, List.take_succ_cons, List.take_zero, List.take_nil, List.nil_append, List.cons_append, List.append_nil, List.all_cons, List.all_nil, Nat.zero_add, Nat.add_zero, ite_true, ite_false, if_true, if_false, ne_eq, not_false_eq_true, not_true_eq_false, and_true, true_and, and_self, Bool.and_true, Bool.true_and, Bool.not_true, Bool.not_false, List.getElem?_cons_zero, List.getElem?_cons_succ, Option.isSome_some, beq_self_eq_true, implies_true, forall_const, Nat.le_refl, Option.some.injEq, Option.getD_some, Option.getD_none, List.getElem?_nil, e_Lpn, e_Lpe, e_Lpr, decide_true, decide_false, Int.natCast_nonneg, Int.toNat_natCast, Int.toNat_zero, lt_irr, imp_self, false_implies, big_eq, pevA, takeA, putA, fillA, chunkA, zerosL, binA, binI, binS, isNilA, lookA, bndA, depA, depV, depM, depS, cellAt, elemAt, initA, Nat.reduceAdd, Nat.reduceLeDiff, Nat.reduceEqDiff, reduceIte, reduceCtorEq, Nat.reduceLT, Nat.reduceMul, Nat.reduceSub, Int.reduceAdd, Int.reduceSub, Int.reduceMul, Int.reduceLT, Int.reduceLE, Int.reduceEq, Int.reduceNe, Int.reduceNeg, Int.reduceToNat, f26, f5, f4, s_objs n265]
          intro b9 hb9 hk9
          simp only [e_dregion d11_1, u_L s11_1.eq_1, u_T g11_1.eq_1, runs, e_onS, AH.set_same, AH.set_set, List.map_cons, List.map_nil, List.length_cons, List.length_nil, List.drop_zero, List.drop_succ_cons, List.take_succ_cons, List.take_zero, List.take_nil, List.nil_append, List.cons_append, List.append_nil, List.all_cons, List.all_nil, Nat.zero_add, Nat.add_zero, ite_true, ite_false, if_true, if_false, ne_eq, not_false_eq_true, not_true_eq_false, and_true, true_and, and_self, Bool.and_true, Bool.true_and, Bool.not_true, Bool.not_false, List.getElem?_cons_zero, List.getElem?_cons_succ, Option.isSome_some, beq_self_eq_true, implies_true, forall_const, Nat.le_refl, Option.some.injEq, Option.getD_some, Option.getD_none, List.getElem?_nil, e_Lpn, e_Lpe, e_Lpr, decide_true, decide_false, Int.natCast_nonneg, Int.toNat_natCast, Int.toNat_zero, lt_irr, imp_self, false_implies, big_eq, pevA, takeA, putA, fillA, chunkA, zerosL, binA, binI, binS, isNilA, lookA, bndA, depA, depV, depM, depS, cellAt, elemAt, initA, Nat.reduceAdd, Nat.reduceLeDiff, Nat.reduceEqDiff, reduceIte, reduceCtorEq, Nat.reduceLT, Nat.reduceMul, Nat.reduceSub, Int.reduceAdd, Int.reduceSub, Int.reduceMul, Int.reduceLT, Int.reduceLE, Int.reduceEq, Int.reduceNe, Int.reduceNeg, Int.reduceToNat, f3, f5, hk9, s_del hb9, hk5, del_sb, tyC_len, tyC_ne, tyC_one, tyC_take, tyC_drop, tyC_ta, tyC_da, tyC_d6]
          refine (apply_ok mu u hum (mA hu).1 (mA hu).2 (lk_ok _ ou) p.2 (os p hp)).use ?_
          simp only [runs, e_onS, AH.set_same, AH.set_set, List.map_cons, List.map_nil, List.length_cons, List.length_nil, List.drop_zero, List.drop_succ_cons, List.take_succ_cons, List.take_zero, List.take_nil, List.nil_append, List.cons_append, List.append_nil, List.all_cons, List.all_nil, Nat.zero_add, Nat.add_zero, ite_true, ite_false, if_true, if_false, ne_eq, not_false_eq_true, not_true_eq_false, and_true, true_and, and_self, Bool.and_true, Bool.true_and, Bool.not_true, Bool.not_false, List.getElem?_cons_zero, List.getElem?_cons_succ, Option.isSome_some, beq_self_eq_true, implies_true, forall_const, Nat.le_refl, Option.some.injEq, Option.getD_some, Option.getD_none, List.getElem?_nil, e_Lpn, e_Lpe, e_Lpr, decide_true, decide_false, Int.natCast_nonneg, Int.toNat_natCast, Int.toNat_zero, lt_irr, imp_self, false_implies, big_eq, pevA, takeA, putA, fillA, chunkA, zerosL, binA, binI, binS, isNilA, lookA, bndA, depA, depV, depM, depS, cellAt, elemAt, initA, Nat.reduceAdd, Nat.reduceLeDiff, Nat.reduceEqDiff, reduceIte, reduceCtorEq, Nat.reduceLT, Nat.reduceMul, Nat.reduceSub, Int.reduceAdd, Int.reduceSub, Int.reduceMul, Int.reduceLT, Int.reduceLE, Int.reduceEq, Int.reduceNe, Int.reduceNeg, Int.reduceToNat, f3, f5, tyC_len, tyC_ne, tyC_one, tyC_take, tyC_drop, tyC_ta, tyC_da, tyC_d6]
          refine (put_ok p.1 (ap u p.2) (ap_ok (lk_ok _ ou) p.2 (os p hp)) (dl p.1 r) K _ b5 (AH.set_same _ _ _) hk5).mono ?_
          rintro v _ rfl
          rw [AH.set_set]
          simp only [runs, e_onS, AH.set_same, AH.set_set, List.map_cons, List.map_nil, List.length_cons, List.length_nil, List.drop_zero, List.drop_succ_cons, List.take_succ_cons, List.take_zero, List.take_nil, List.nil_append, List.cons_append, List.append_nil, List.all_cons, List.all_nil, Nat.zero_add, Nat.add_zero, ite_true, ite_false, if_true, if_false, ne_eq, not_false_eq_true, not_true_eq_false, and_true, true_and, and_self, Bool.and_true, Bool.true_and, Bool.not_true, Bool.not_false, List.getElem?_cons_zero, List.getElem?_cons_succ, Option.isSome_some, beq_self_eq_true, implies_true, forall_const, Nat.le_refl, Option.some.injEq, Option.getD_some, Option.getD_none, List.getElem?_nil, e_Lpn, e_Lpe, e_Lpr, decide_true, decide_false, Int.natCast_nonneg, Int.toNat_natCast, Int.toNat_zero, lt_irr, imp_self, false_implies, big_eq, pevA, takeA, putA, fillA, chunkA, zerosL, binA, binI, binS, isNilA, lookA, bndA, depA, depV, depM, depS, cellAt, elemAt, initA, Nat.reduceAdd, Nat.reduceLeDiff, Nat.reduceEqDiff, reduceIte, reduceCtorEq, Nat.reduceLT, Nat.reduceMul, Nat.reduceSub, Int.reduceAdd, Int.reduceSub, Int.reduceMul, Int.reduceLT, Int.reduceLE, Int.reduceEq, Int.reduceNe, Int.reduceNeg, Int.reduceToNat]
          obtain ⟨k1, k2⟩ := nd_split ntd
          refine ⟨(a ++ b, put1 p.1 (ap u p.2) (dl p.1 r)), by simp, f3, f4, f5, f26, k1, fun q hq => sub q (by simp at hq ⊢; rcases hq with h | h <;> simp [h]), put1_nd _ _ _ (dl_nd _ _ nr), fun n => ?_, some (.str p.1, .agg (tyC p.2)), by simp only [sbC, List.map_append]⟩
          have hsp := lk_mem ns hp
          rw [lk_put1, lk_dl _ _ _ nr]
          by_cases hn : n = p.1
          · subst hn
            simp only [if_true, k2, if_false, thenLk, hsp, keepV]
          · rw [if_neg hn, if_neg hn, hr]
            simp only [names_split, hn, false_or]
    · obtain ⟨a, p, b, rfl, rfl, rfl, rfl, rfl⟩ := sb_split h0
      have hp := sub p (by simp)
      simp only [runs, e_onS, AH.set_same, AH.set_set, List.map_cons, List.map_nil, List.length_cons, List.length_nil, List.drop_zero, List.drop_succ_cons, List.take_succ_cons, List.take_zero, List.take_nil, List.nil_append, List.cons_append, List.append_nil, List.all_cons, List.all_nil, Nat.zero_add, Nat.add_zero, ite_true, ite_false, if_true, if_false, ne_eq, not_false_eq_true, not_true_eq_false, and_true, true_and, and_self, Bool.and_true, Bool.true_and, Bool.not_true, Bool.not_false, List.getElem?_cons_zero, List.getElem?_cons_succ, Option.isSome_some, beq_self_eq_true, implies_true, forall_const, Nat.le_refl, Option.some.injEq, Option.getD_some, Option.getD_none, List.getElem?_nil, e_Lpn, e_Lpe, e_Lpr, decide_true, decide_false, Int.natCast_nonneg, Int.toNat_natCast, Int.toNat_zero, lt_irr, imp_self, false_implies, big_eq, pevA, takeA, putA, fillA, chunkA, zerosL, binA, binI, binS, isNilA, lookA, bndA, depA, depV, depM, depS, cellAt, elemAt, initA, Nat.reduceAdd, Nat.reduceLeDiff, Nat.reduceEqDiff, reduceIte, reduceCtorEq, Nat.reduceLT, Nat.reduceMul, Nat.reduceSub, Int.reduceAdd, Int.reduceSub, Int.reduceMul, Int.reduceLT, Int.reduceLE, Int.reduceEq, Int.reduceNe, Int.reduceNeg, Int.reduceToNat, f14, f5, f4]
      intro b7 hb7 hk7
      simp only [runs, e_onS, AH.set_same, AH.set_set, List.map_cons, List.map_nil, List.length_cons, List.length_nil, List.drop_zero, List.drop_succ_cons, List.take_succ_cons, List.take_zero, List.take_nil, List.nil_append, List.cons_append, List.append_nil, List.all_cons, List.all_nil, Nat.zero_add, Nat.add_zero, ite_true, ite_false, if_true, if_false, ne_eq, not_false_eq_true, not_true_eq_false, and_true, true_and, and_self, Bool.and_true, Bool.true_and, Bool.not_true, Bool.not_false, List.getElem?_cons_zero, List.getElem?_cons_succ, Option.isSome_some, beq_self_eq_true, implies_true, forall_const, Nat.le_refl, Option.some.injEq, Option.getD_some, Option.getD_none, List.getElem?_nil, e_Lpn, e_Lpe, e_Lpr, decide_true, decide_false, Int.natCast_nonneg, Int.toNat_natCast, Int.toNat_zero, lt_irr, imp_self, false_implies, big_eq, pevA, takeA, putA, fillA, chunkA, zerosL, binA, binI, binS, isNilA, lookA, bndA, depA, depV, depM, depS, cellAt, elemAt, initA, Nat.reduceAdd, Nat.reduceLeDiff, Nat.reduceEqDiff, reduceIte, reduceCtorEq, Nat.reduceLT, Nat.reduceMul, Nat.reduceSub, Int.reduceAdd, Int.reduceSub, Int.reduceMul, Int.reduceLT, Int.reduceLE, Int.reduceEq, Int.reduceNe, Int.reduceNeg, Int.reduceToNat, f5, hk7, s_del hb7, tyC_len, tyC_ne, tyC_one, tyC_take, tyC_drop, tyC_ta, tyC_da, tyC_d6]
      refine (put_ok p.1 p.2 (ou p hp) r K _ b5 (by rw [s_objs n145.symm, AH.set_same]) hk5).mono ?_
      rintro v _ rfl
      rw [set_comm n145, AH.set_set]
      simp only [runs, e_onS, AH.set_same, AH.set_set, List.map_cons, List.map_nil, List.length_cons, List.length_nil, List.drop_zero, List.drop_succ_cons, List.take_succ_cons, List.take_zero, List.take_nil, List.nil_append, List.cons_append, List.append_nil, List.all_cons, List.all_nil, Nat.zero_add, Nat.add_zero, ite_true, ite_false, if_true, if_false, ne_eq, not_false_eq_true, not_true_eq_false, and_true, true_and, and_self, Bool.and_true, Bool.true_and, Bool.not_true, Bool.not_false, List.getElem?_cons_zero, List.getElem?_cons_succ, Option.isSome_some, beq_self_eq_true, implies_true, forall_const, Nat.le_refl, Option.some.injEq, Option.getD_some, Option.getD_none, List.getElem?_nil, e_Lpn, e_Lpe, e_Lpr, decide_true, decide_false, Int.natCast_nonneg, Int.toNat_natCast, Int.toNat_zero, lt_irr, imp_self, false_implies, big_eq, pevA, takeA, putA, fillA, chunkA, zerosL, binA, binI, binS, isNilA, lookA, bndA, depA, depV, depM, depS, cellAt, elemAt, initA, Nat.reduceAdd, Nat.reduceLeDiff, Nat.reduceEqDiff, reduceIte, reduceCtorEq, Nat.reduceLT, Nat.reduceMul, Nat.reduceSub, Int.reduceAdd, Int.reduceSub, Int.reduceMul, Int.reduceLT, Int.reduceLE, Int.reduceEq, Int.reduceNe, Int.reduceNeg, Int.reduceToNat]
      obtain ⟨k1, k2⟩ := nd_split ntd
      refine ⟨(a ++ b, put1 p.1 p.2 r), by simp, f2, f3, f4, f5, f14, k1, fun q hq => sub q (by simp at hq ⊢; rcases hq with h | h <;> simp [h]), put1_nd _ _ _ nr, fun n => ?_, some (.str p.1, .agg (tyC p.2)), by simp only [sbC, List.map_append]⟩
      have hup := lk_mem nu hp
      have hrp : lk r p.1 = none := by rw [hr, if_pos (names_split.2 (.inl rfl))]
      rw [lk_put1]
      by_cases hn : n = p.1
      · subst hn
        simp only [if_true, k2, if_false, hrp, lk1, hup, keepV]
      · rw [if_neg hn, hr]
        simp only [names_split, hn, false_or]
end Go.Proofs.Ytdepohnidjndjaa.p

namespace Go.Proofs.Ytdepohnidjndjaa.p
open Go.Proofs Go Go.Cn code
set_option linter.unusedSimpArgs false
set_option linter.unusedVariables false

def PairsQ (E : TypeId) (l : List Int) (b : Nat) (h : AH) (p : Int) (v : AV) (h' : AH) : Prop :=
  ∃ ps p', v = .tuple [.lst 44 (prCs ps) .no, .lst 54 (prCs ps) .no] ∧ (∀ q ∈ ps, GT q.2) ∧ ps.length ≤ 4 ∧ p ≤ p' ∧ p' ≤ p + 40 ∧ h' = h.set b (seqO E l p')

theorem pairs_ok (E : TypeId) (l : List Int) (b : Nat) (p : Int) (hp : 0 ≤ p) (hp2 : p ≤ 10000000) (K : Nat → Prop) (h : AH) (hb : h.objs b = some (seqO E l p)) (hk : ¬ K b) :
    ACall T K (.func 8) [.ptr b 0] h (PairsQ E l b h p) := by
  refine ACall.retQ t8 fun hK => ?_
  simp only [u_C c8.eq_1, runs, e_onS, AH.set_same, AH.set_set, List.map_cons, List.map_nil, List.length_cons, List.length_nil, List.drop_zero, List.drop_succ_cons, List.take_succ_cons, List.take_zero, List.take_nil, List.nil_append, List.cons_append, List.append_nil, List.all_cons, List.all_nil, Nat.zero_add, Nat.add_zero, ite_true, ite_false, if_true, if_false, ne_eq, not_false_eq_true, not_true_eq_false, and_true, true_and, and_self, Bool.and_true, Bool.true_and, Bool.not_true, Bool.not_false, List.getElem?_cons_zero, List.getElem?_cons_succ, Option.isSome_some, beq_self_eq_true, implies_true, forall_const, Nat.le_refl, Option.some.injEq, Option.getD_some, Option.getD_none, List.getElem?_nil, e_Lpn, e_Lpe, e_Lpr, decide_true, decide_false, Int.natCast_nonneg, Int.toNat_natCast, Int.toNat_zero, lt_irr, imp_self, false_implies, big_eq, pevA, takeA, putA, fillA, chunkA, zerosL, binA, binI, binS, isNilA, lookA, bndA, depA, depV, depM, depS, cellAt, elemAt, initA, Nat.reduceAdd, Nat.reduceLeDiff, Nat.reduceEqDiff, reduceIte, reduceCtorEq, Nat.reduceLT, Nat.reduceMul, Nat.reduceSub, Int.reduceAdd, Int.reduceSub, Int.reduceMul, Int.reduceLT, Int.reduceLE, Int.reduceEq, Int.reduceNe, Int.reduceNeg, Int.reduceToNat]
  refine (next_ok E l p 5 hp (by omega) (by omega) (by omega) K _ b hb hk).mono ?_
  rintro _ _ ⟨⟨r, rfl, hr0, hr1⟩, rfl⟩
  simp only [runs, e_onS, AH.set_same, AH.set_set, List.map_cons, List.map_nil, List.length_cons, List.length_nil, List.drop_zero, List.drop_succ_cons, List.take_succ_cons, List.take_zero, List.take_nil, List.nil_append, List.cons_append, List.append_nil, List.all_cons, List.all_nil, Nat.zero_add, Nat.add_zero, ite_true, ite_false, if_true, if_false, ne_eq, not_false_eq_true, not_true_eq_false, and_true, true_and, and_self, Bool.and_true, Bool.true_and, Bool.not_true, Bool.not_false, List.getElem?_cons_zero, List.getElem?_cons_succ, Option.isSome_some, beq_self_eq_true, implies_true, forall_const, Nat.le_refl, Option.some.injEq, Option.getD_some, Option.getD_none, List.getElem?_nil, e_Lpn, e_Lpe, e_Lpr, decide_true, decide_false, Int.natCast_nonneg, Int.toNat_natCast, Int.toNat_zero, lt_irr, imp_self, false_implies, big_eq, pevA, takeA, putA, fillA, chunkA, zerosL, binA, binI, binS, isNilA, lookA, bndA, depA, depV, depM, depS, cellAt, elemAt, initA, Nat.reduceAdd, Nat.reduceLeDiff, Nat.reduceEqDiff, reduceIte, reduceCtorEq, Nat.reduceLT, Nat.reduceMul, Nat.reduceSub, Int.reduceAdd, Int.reduceSub, Int.reduceMul, Int.reduceLT, Int.reduceLE, Int.reduceEq, Int.reduceNe, Int.reduceNeg, Int.reduceToNat]
  refine aloop (α := Sb × Int × Int) (fun x fr h1 => fr 0 = .ptr b 0 ∧ fr 6 = .int .i64 x.2.1 ∧ x.2.1 ≤ 4 - x.1.length ∧ (∀ q ∈ x.1, GT q.2) ∧ p + 1 ≤ x.2.2 ∧ x.2.2 ≤ p + 1 + 8 * x.1.length ∧ x.1.length ≤ 4 ∧
      ∃ E1 t1 E2 t2 tk, (prCs x.1 ≠ [] → E1 = 44) ∧ (prCs x.1 ≠ [] → E2 = 54) ∧ fr 4 = .lst E1 (prCs x.1) t1 ∧ fr 5 = .lst E2 (prCs x.1) t2 ∧ Toks h.toks tk [(t1, 44, 4, 0), (t2, 54, 4, 0)] ∧ h1 = (h.set b (seqO E l x.2.2)).tk tk) (fun x => x.2.1.toNat) ([], r, p + 1) ?_ ?_
  · exact ⟨rfl, rfl, by simp; omega, by simp, by simp, by simp, by simp, 0, .nil, 0, .nil, h.toks, fun h => absurd rfl h, fun h => absurd rfl h, rfl, rfl, .cons (.one _ _ _) _ _, rfl⟩
  · rintro ⟨ps, i, p'⟩ fr h1 ⟨f0, f6, hi, hps, hp1, hp3, hlen, E1, t1, E2, t2, tk, hE1, hE2, f4, f5, hT, rfl⟩
    simp only at f6 hi hps hp1 hp3 hlen hE1 hE2 f4 f5
    by_cases hi0 : 0 < i
    · simp only [u_C l8_0.eq_1, runs, e_onS, AH.set_same, AH.set_set, List.map_cons, List.map_nil, List.length_cons, List.length_nil, List.drop_zero, List.drop_succ_cons, List.take_succ_cons, List.take_zero, List.take_nil, List.nil_append, List.cons_append, List.append_nil, List.all_cons, List.all_nil, Nat.zero_add, Nat.add_zero, ite_true, ite_false, if_true, if_false, ne_eq, not_false_eq_true, not_true_eq_false, and_true, true_and, and_self, Bool.and_true, Bool.true_and, Bool.not_true, Bool.not_false, List.getElem?_cons_zero, List.getElem?_cons_succ, Option.isSome_some, beq_self_eq_true, implies_true, forall_const, Nat.le_refl, Option.some.injEq, Option.getD_some, Option.getD_none, List.getElem?_nil, e_Lpn, e_Lpe, e_Lpr, decide_true, decide_false, Int.natCast_nonneg, Int.toNat_natCast, Int.toNat_zero, lt_irr, imp_self, false_implies, big_eq, pevA, takeA, putA, fillA, chunkA, zerosL, binA, binI, binS, isNilA, lookA, bndA, depA, depV, depM, depS, cellAt, elemAt, initA, Nat.reduceAdd, Nat.reduceLeDiff, Nat.reduceEqDiff, reduceIte, reduceCtorEq, Nat.reduceLT, Nat.reduceMul, Nat.reduceSub, Int.reduceAdd, Int.reduceSub, Int.reduceMul, Int.reduceLT, Int.reduceLE, Int.reduceEq, Int.reduceNe, Int.reduceNeg, Int.reduceToNat, f0, f6, hi0]
      refine (next_ok E l p' 4 (by omega) (by omega) (by omega) (by omega) K _ b (by rw [tk_objs, AH.set_same]) hk).mono ?_
      rintro _ _ ⟨⟨n, rfl, hn0, hn1⟩, rfl⟩
      have hn : n = 0 ∨ n = 1 ∨ n = 2 ∨ n = 3 := by omega
      have hw : IntKind.i64.wrap (i - 1) = i - 1 := wrap64 ⟨by omega, by omega⟩
      have hl4 : ps.length ≤ 3 := by omega
      obtain ⟨nm, hnm⟩ : ∃ nm, ([[.str [97]], [.str [98]], [.str [99]], [.str [100]]] : List (List AV))[n.toNat]? = some [.str nm] := by
        rcases hn with rfl | rfl | rfl | rfl <;> exact ⟨_, rfl⟩
      simp only [runs, e_onS, AH.set_same, AH.set_set, List.map_cons, List.map_nil, List.length_cons, List.length_nil, List.drop_zero, List.drop_succ_cons, List.take_succ_cons, List.take_zero, List.take_nil, List.nil_append, List.cons_append, List.append_nil, List.all_cons, List.all_nil, Nat.zero_add, Nat.add_zero, ite_true, ite_false, if_true, if_false, ne_eq, not_false_eq_true, not_true_eq_false, and_true, true_and, and_self, Bool.and_true, Bool.true_and, Bool.not_true, Bool.not_false, List.getElem?_cons_zero, List.getElem?_cons_succ, Option.isSome_some, beq_self_eq_true, implies_true, forall_const, Nat.le_refl, Option.some.injEq, Option.getD_some, Option.getD_none, List.getElem?_nil, e_Lpn, e_Lpe, e_Lpr, decide_true, decide_false, Int.natCast_nonneg, Int.toNat_natCast, Int.toNat_zero, lt_irr, imp_self, false_implies, big_eq, pevA, takeA, putA, fillA, chunkA, zerosL, binA, binI, binS, isNilA, lookA, bndA, depA, depV, depM, depS, cellAt, elemAt, initA, Nat.reduceAdd, Nat.reduceLeDiff, Nat.reduceEqDiff, reduceIte, reduceCtorEq, Nat.reduceLT, Nat.reduceMul, Nat.reduceSub, Int.reduceAdd, Int.reduceSub, Int.reduceMul, Int.reduceLT, Int.reduceLE, Int.reduceEq, Int.reduceNe, Int.reduceNeg, Int.reduceToNat, hn0, hnm, f0]
      refine (type_ok E l b 2 (by omega) (p' + 1) (by omega) (by omega) K _ (by rw [tk_objs, AH.set_same]) hk).mono ?_
      rintro _ _ ⟨t, q, rfl, ht, hq1, hq2, rfl⟩
      rw [tk_set, AH.set_set]
      simp only [runs, e_onS, AH.set_same, AH.set_set, List.map_cons, List.map_nil, List.length_cons, List.length_nil, List.drop_zero, List.drop_succ_cons, List.take_succ_cons, List.take_zero, List.take_nil, List.nil_append, List.cons_append, List.append_nil, List.all_cons, List.all_nil, Nat.zero_add, Nat.add_zero, ite_true, ite_false, if_true, if_false, ne_eq, not_false_eq_true, not_true_eq_false, and_true, true_and, and_self, Bool.and_true, Bool.true_and, Bool.not_true, Bool.not_false, List.getElem?_cons_zero, List.getElem?_cons_succ, Option.isSome_some, beq_self_eq_true, implies_true, forall_const, Nat.le_refl, Option.some.injEq, Option.getD_some, Option.getD_none, List.getElem?_nil, e_Lpn, e_Lpe, e_Lpr, decide_true, decide_false, Int.natCast_nonneg, Int.toNat_natCast, Int.toNat_zero, lt_irr, imp_self, false_implies, big_eq, pevA, takeA, putA, fillA, chunkA, zerosL, binA, binI, binS, isNilA, lookA, bndA, depA, depV, depM, depS, cellAt, elemAt, initA, Nat.reduceAdd, Nat.reduceLeDiff, Nat.reduceEqDiff, reduceIte, reduceCtorEq, Nat.reduceLT, Nat.reduceMul, Nat.reduceSub, Int.reduceAdd, Int.reduceSub, Int.reduceMul, Int.reduceLT, Int.reduceLE, Int.reduceEq, Int.reduceNe, Int.reduceNeg, Int.reduceToNat, f4, f5, f6, tyC_len, tyC_ne, tyC_one, tyC_take, tyC_drop, tyC_ta, tyC_da, tyC_d6]
      refine WO.append (i := 0) hT rfl rfl rfl trivial (by decide) ?_ ?_ ?_ ?_ ?_ fun t1' tk1 hT1 => ?_
      · simp [tyC_len]
      · simp [tyC_one, oneA]
      · simp
      · intro _; simp [capOk, prCs_len]; omega
      · simp [big_eq, prCs_len]; omega
      simp only [runs, e_onS, AH.set_same, AH.set_set, List.map_cons, List.map_nil, List.length_cons, List.length_nil, List.drop_zero, List.drop_succ_cons, List.take_succ_cons, List.take_zero, List.take_nil, List.nil_append, List.cons_append, List.append_nil, List.all_cons, List.all_nil, Nat.zero_add, Nat.add_zero, ite_true, ite_false, if_true, if_false, ne_eq, not_false_eq_true, not_true_eq_false, and_true, true_and, and_self, Bool.and_true, Bool.true_and, Bool.not_true, Bool.not_false, List.getElem?_cons_zero, List.getElem?_cons_succ, Option.isSome_some, beq_self_eq_true, implies_true, forall_const, Nat.le_refl, Option.some.injEq, Option.getD_some, Option.getD_none, List.getElem?_nil, e_Lpn, e_Lpe, e_Lpr, decide_true, decide_false, Int.natCast_nonneg, Int.toNat_natCast, Int.toNat_zero, lt_irr, imp_self, false_implies, big_eq, pevA, takeA, putA, fillA, chunkA, zerosL, binA, binI, binS, isNilA, lookA, bndA, depA, depV, depM, depS, cellAt, elemAt, initA, Nat.reduceAdd, Nat.reduceLeDiff, Nat.reduceEqDiff, reduceIte, reduceCtorEq, Nat.reduceLT, Nat.reduceMul, Nat.reduceSub, Int.reduceAdd, Int.reduceSub, Int.reduceMul, Int.reduceLT, Int.reduceLE, Int.reduceEq, Int.reduceNe, Int.reduceNeg, Int.reduceToNat, f4, f5, f6, tyC_len, tyC_ne, tyC_one, tyC_take, tyC_drop, tyC_ta, tyC_da, tyC_d6]
      refine WO.append (i := 1) hT1 rfl rfl rfl trivial (by decide) ?_ ?_ ?_ ?_ ?_ fun t2' tk2 hT2 => ?_
      · simp [tyC_len]
      · simp [tyC_one, oneA]
      · simp
      · intro _; simp [capOk, prCs_len]; omega
      · simp [big_eq, prCs_len]; omega
      simp only [hw, runs, e_onS, AH.set_same, AH.set_set, List.map_cons, List.map_nil, List.length_cons, List.length_nil, List.drop_zero, List.drop_succ_cons, List.take_succ_cons, List.take_zero, List.take_nil, List.nil_append, List.cons_append, List.append_nil, List.all_cons, List.all_nil, Nat.zero_add, Nat.add_zero, ite_true, ite_false, if_true, if_false, ne_eq, not_false_eq_true, not_true_eq_false, and_true, true_and, and_self, Bool.and_true, Bool.true_and, Bool.not_true, Bool.not_false, List.getElem?_cons_zero, List.getElem?_cons_succ, Option.isSome_some, beq_self_eq_true, implies_true, forall_const, Nat.le_refl, Option.some.injEq, Option.getD_some, Option.getD_none, List.getElem?_nil, e_Lpn, e_Lpe, e_Lpr, decide_true, decide_false, Int.natCast_nonneg, Int.toNat_natCast, Int.toNat_zero, lt_irr, imp_self, false_implies, big_eq, pevA, takeA, putA, fillA, chunkA, zerosL, binA, binI, binS, isNilA, lookA, bndA, depA, depV, depM, depS, cellAt, elemAt, initA, Nat.reduceAdd, Nat.reduceLeDiff, Nat.reduceEqDiff, reduceIte, reduceCtorEq, Nat.reduceLT, Nat.reduceMul, Nat.reduceSub, Int.reduceAdd, Int.reduceSub, Int.reduceMul, Int.reduceLT, Int.reduceLE, Int.reduceEq, Int.reduceNe, Int.reduceNeg, Int.reduceToNat, f4, f5, f6, tyC_len, tyC_ne, tyC_one, tyC_take, tyC_drop, tyC_ta, tyC_da, tyC_d6]
      refine ⟨(ps ++ [(nm, t)], i - 1, q), by simp; omega, f0, rfl, by simp; omega, fun x hx => ?_, by simp; omega, by simp; omega, by simp; omega, 44, t1', 54, t2', tk2, fun _ => rfl, fun _ => rfl, ?_, ?_, hT2, rfl⟩
      · rcases List.mem_append.1 hx with hx | hx
        · exact hps x hx
        · rw [List.mem_singleton.1 hx]; exact ht
      · simp only [e_upd, reduceIte, Nat.reduceEqDiff, prCs_app]; rfl
      · simp only [e_upd, reduceIte, Nat.reduceEqDiff, prCs_app]; rfl
    · simp only [u_C l8_0.eq_1, runs, e_onS, AH.set_same, AH.set_set, List.map_cons, List.map_nil, List.length_cons, List.length_nil, List.drop_zero, List.drop_succ_cons, List.take_succ_cons, List.take_zero, List.take_nil, List.nil_append, List.cons_append, List.append_nil, List.all_cons, List.all_nil, Nat.zero_add, Nat.add_zero, ite_true, ite_false, if_true, if_false, ne_eq, not_false_eq_true, not_true_eq_false, and_true, true_and, and_self, Bool.and_true, Bool.true_and, Bool.not_true, Bool.not_false, List.getElem?_cons_zero, List.getElem?_cons_succ, Option.isSome_some, beq_self_eq_true, implies_true, forall_const, Nat.le_refl, Option.some.injEq, Option.getD_some, Option.getD_none, List.getElem?_nil, e_Lpn, e_Lpe, e_Lpr, decide_true, decide_false, Int.natCast_nonneg, Int.toNat_natCast, Int.toNat_zero, lt_irr, imp_self, false_implies, big_eq, pevA, takeA, putA, fillA, chunkA, zerosL, binA, binI, binS, isNilA, lookA, bndA, depA, depV, depM, depS, cellAt, elemAt, initA, Nat.reduceAdd, Nat.reduceLeDiff, Nat.reduceEqDiff, reduceIte, reduceCtorEq, Nat.reduceLT, Nat.reduceMul, Nat.reduceSub, Int.reduceAdd, Int.reduceSub, Int.reduceMul, Int.reduceLT, Int.reduceLE, Int.reduceEq, Int.reduceNe, Int.reduceNeg, Int.reduceToNat, f0, f6, hi0, f4, f5]
      have hwk : Wk (.tuple [.lst E1 (prCs ps) t1, .lst E2 (prCs ps) t2]) (.tuple [.lst 44 (prCs ps) .no, .lst 54 (prCs ps) .no]) := .tupL ⟨.lstE hE1, .lstE hE2, trivial⟩
      exact ⟨_, h.set b (seqO E l p'), .weak hwk (.drop (le_tk (AH.le_refl _) hT.le) (.refl _ _)), hK.set _ _, ps, p', rfl, hps, hlen, by omega, by omega, rfl⟩
end Go.Proofs.Ytdepohnidjndjaa.p

namespace Go.Proofs.Ytdepohnidjndjaa.p
open Go.Proofs Go Go.Cn code
set_option linter.unusedSimpArgs false
set_option linter.unusedVariables false

/-- its variables have no arguments -/
inductive WF : PT → Prop where
  | mk {k : Int} {n : List UInt8} {args : List PT} (h1 : k = 1 → args = []) (h : ∀ a ∈ args, WF a) : WF (.mk k n args)
theorem WF.ofGT : ∀ t, GT t → WF t := by
  refine PT.ind fun k n args ih h => ?_
  cases h with
  | v _ => exact ⟨fun _ => rfl, by simp⟩
  | c hk hl ha => exact ⟨fun h => absurd h hk, fun a h => ih a h (ha a h)⟩
theorem WF.var {t : PT} {n : List UInt8} (h : WF t) (hv : isV t n = true) : t = V n := by
  cases h with
  | @mk k m args h1 _ =>
    simp only [isV, PT.kind, PT.name, Bool.and_eq_true, decide_eq_true_eq] at hv
    obtain ⟨h2, h3⟩ := hv
    rw [h1 (of_decide_eq_true h2), of_decide_eq_true h2, of_decide_eq_true h3]
theorem WF.ap {l : Sb} (hl : ∀ n u, lk l n = some u → WF u) : ∀ t, WF t → WF (ap l t) := by
  refine PT.ind fun k n args ih h => ?_
  cases h with
  | mk h1 ha =>
    by_cases hk : k = 1
    · subst hk
      rw [h1 rfl]
      show WF (p.ap l (V n))
      rw [ap_v]
      cases hu : lk l n with
      | some u => exact hl n u hu
      | none => exact ⟨fun _ => rfl, by simp⟩
    · rw [ap_c l hk]
      exact ⟨fun h => absurd h hk, fun a h => by obtain ⟨b, hb, rfl⟩ := List.mem_map.1 h; exact ih b hb (ha b hb)⟩

theorem ap_then {r s u : Sb} (hr : ∀ n, lk r n = thenLk s u n) (ws : ∀ n t, lk s n = some t → WF t) (wu : ∀ n t, lk u n = some t → WF t) : ∀ t, WF t → ap r t = ap u (ap s t) := by
  refine PT.ind fun k n args ih h => ?_
  cases h with
  | mk h1 ha =>
    by_cases hk : k = 1
    · subst hk
      rw [h1 rfl]
      show ap r (V n) = ap u (ap s (V n))
      rw [ap_v r, ap_v s, hr]
      unfold thenLk
      cases hs : lk s n with
      | some t =>
        simp only
        unfold keepV
        cases hv : isV (ap u t) n with
        | true => simp only [if_true]; exact ((WF.ap wu t (ws n t hs)).var hv).symm
        | false => simp
      | none =>
        simp only
        rw [ap_v u]
        unfold lk1
        cases hu : lk u n with
        | some t =>
          simp only
          unfold keepV
          cases hv : isV t n with
          | true => simp only [if_true]; exact ((wu n t hu).var hv).symm
          | false => simp
        | none => rfl
    · rw [ap_c r hk, ap_c s hk, ap_c u hk, List.map_map]
      congr 1
      exact List.map_congr_left fun a h => ih a h (ha a h)
theorem ap_nil : ∀ t, ap [] t = t := by
  refine PT.ind fun k n args ih => ?_
  have h1 : aps [] args = args := by
    rw [aps_eq]
    conv => rhs; rw [← List.map_id args]
    exact List.map_congr_left fun a h => ih a h
  simp only [ap, lk, h1, ite_self]
/-- what holds of all types that a map has -/
def AllV (P : PT → Prop) (l : Sb) : Prop := ∀ n t, lk l n = some t → P t
theorem AllV.then {P : PT → Prop} {r s u : Sb} (hr : ∀ n, lk r n = thenLk s u n) (hs : AllV P s) (hu : AllV P u) (hap : ∀ t, P t → P (ap u t)) : AllV P r := by
  intro n t h
  rw [hr] at h
  unfold thenLk at h
  cases e : lk s n with
  | some v =>
    rw [e] at h
    simp only [keepV] at h
    split at h
    · cases h
    · cases h; exact hap v (hs n v e)
  | none =>
    rw [e] at h
    simp only [lk1] at h
    cases e2 : lk u n with
    | some v =>
      rw [e2] at h
      simp only [keepV] at h
      split at h
      · cases h
      · cases h; exact hu n _ e2
    | none => rw [e2] at h; cases h
theorem AllV.mem {P : PT → Prop} {l : Sb} (h : AllV P l) (hn : Nd l) : ∀ p ∈ l, P p.2 := fun p hp => h p.1 p.2 (lk_mem hn hp)
theorem AllV.of {P : PT → Prop} {l : Sb} (h : ∀ p ∈ l, P p.2) : AllV P l := fun n t ht => h (n, t) (lk_some ht)
theorem ofFold_P {P : PT → Prop} : ∀ (ps : Sb) (x : List (List UInt8) × Sb), (∀ p ∈ ps, P p.2) → (∀ p ∈ x.2, P p.2) → ∀ p ∈ (ps.foldl ofStep x).2, P p.2
  | [], x, _, hx => hx
  | q :: ps, x, hp, hx => by
    refine ofFold_P ps (ofStep x q) (fun p h => hp p (by simp [h])) fun p h => ?_
    unfold ofStep at h
    split at h
    · exact hx p h
    · simp only [put1] at h
      split at h
      · exact hx p h
      · rcases pt_mem _ _ _ p h with h | h
        · rw [h]; exact hp q (by simp)
        · exact hx p h
theorem ofL_P {P : PT → Prop} (ps : Sb) (hp : ∀ p ∈ ps, P p.2) : ∀ p ∈ ofL ps, P p.2 := ofFold_P ps _ hp (by simp)
end Go.Proofs.Ytdepohnidjndjaa.p

namespace Go.Proofs.Ytdepohnidjndjaa.p
open Go.Proofs Go Go.Cn code
set_option linter.unusedSimpArgs false
set_option linter.unusedVariables false

/-- a map that is well: no name twice, all its types well -/
structure Good (r : Sb) : Prop where
  nd : Nd r
  ok : AllV PTOk r
  wf : AllV WF r
theorem Good.mem {r : Sb} (h : Good r) : ∀ p ∈ r, PTOk p.2 := h.ok.mem h.nd
theorem Good.of (ps : Sb) (h : ∀ q ∈ ps, GT q.2) : Good (ofL ps) :=
  ⟨ofL_nd ps, AllV.of (ofL_P ps fun q hq => GT.ok _ (h q hq)), AllV.of (ofL_P ps fun q hq => WF.ofGT _ (h q hq))⟩
theorem Good.then {r s u : Sb} (nr : Nd r) (hr : ∀ n, lk r n = thenLk s u n) (hs : Good s) (hu : Good u) : Good r :=
  ⟨nr, .then hr hs.ok hu.ok (ap_ok hu.ok), .then hr hs.wf hu.wf (WF.ap hu.wf)⟩
theorem good0 : Good [] := ⟨.nil, fun n t h => (by cases h), fun n t h => (by cases h)⟩

theorem thenG (ms mu : AV) (s u : Sb) (hs : isM ms s) (hu : isM mu u) (gs : Good s) (gu : Good u) (K : Nat → Prop) (h : AH) {Q : AV → AH → Prop}
    (hq : ∀ r, Good r → (∀ t, WF t → ap r t = ap u (ap s t)) → Q (.agg [.fmap (sbC r)]) h) : ACall T K (.func 11) [.agg [ms], .agg [mu]] h Q :=
  (then_ok ms mu s u hs hu gs.nd gu.nd gs.mem gu.mem K h).mono fun v h' ⟨⟨r, hv, nr, hr⟩, hh⟩ => by
    subst hv hh
    exact hq r (.then nr hr gs gu) (ap_then hr gs.wf gu.wf)
theorem applyG (r : Sb) (g : Good r) (t : PT) (ht : PTOk t) : Pure T 12 [.agg [.fmap (sbC r)], .agg (tyC t)] (.agg (tyC (ap r t))) := apply_ok (.fmap (sbC r)) r (fun _ => rfl) rfl rfl g.ok t ht

theorem then_main (E : TypeId) (l : List Int) : Pure T 3 [.lst E (lC l) .no] (.bool true) := by
  intro K h
  refine ACall.ret t3 fun hK => ?_
  simp only [u_C c3.eq_1, runs, e_onS, AH.set_same, AH.set_set, List.map_cons, List.map_nil, List.length_cons, List.length_nil, List.drop_zero, List.drop_succ_cons, List.take_succ_cons, List.take_zero, List.take_nil, List.nil_append, List.cons_append, List.append_nil, List.all_cons, List.all_nil, Nat.zero_add, Nat.add_zero, ite_true, ite_false, if_true, if_false, ne_eq, not_false_eq_true, not_true_eq_false, and_true, true_and, and_self, Bool.and_true, Bool.true_and, Bool.not_true, Bool.not_false, List.getElem?_cons_zero, List.getElem?_cons_succ, Option.isSome_some, beq_self_eq_true, implies_true, forall_const, Nat.le_refl, Option.some.injEq, Option.getD_some, Option.getD_none, List.getElem?_nil, e_Lpn, e_Lpe, e_Lpr, decide_true, decide_false, Int.natCast_nonneg, Int.toNat_natCast, Int.toNat_zero, lt_irr, imp_self, false_implies, big_eq, pevA, takeA, putA, fillA, chunkA, zerosL, binA, binI, binS, isNilA, lookA, bndA, depA, depV, depM, depS, cellAt, elemAt, initA, Nat.reduceAdd, Nat.reduceLeDiff, Nat.reduceEqDiff, reduceIte, reduceCtorEq, Nat.reduceLT, Nat.reduceMul, Nat.reduceSub, Int.reduceAdd, Int.reduceSub, Int.reduceMul, Int.reduceLT, Int.reduceLE, Int.reduceEq, Int.reduceNe, Int.reduceNeg, Int.reduceToNat]
  refine first_ok.use ?_
  simp only [runs, e_onS, AH.set_same, AH.set_set, List.map_cons, List.map_nil, List.length_cons, List.length_nil, List.drop_zero, List.drop_succ_cons, List.take_succ_cons, List.take_zero, List.take_nil, List.nil_append, List.cons_append, List.append_nil, List.all_cons, List.all_nil, Nat.zero_add, Nat.add_zero, ite_true, ite_false, if_true, if_false, ne_eq, not_false_eq_true, not_true_eq_false, and_true, true_and, and_self, Bool.and_true, Bool.true_and, Bool.not_true, Bool.not_false, List.getElem?_cons_zero, List.getElem?_cons_succ, Option.isSome_some, beq_self_eq_true, implies_true, forall_const, Nat.le_refl, Option.some.injEq, Option.getD_some, Option.getD_none, List.getElem?_nil, e_Lpn, e_Lpe, e_Lpr, decide_true, decide_false, Int.natCast_nonneg, Int.toNat_natCast, Int.toNat_zero, lt_irr, imp_self, false_implies, big_eq, pevA, takeA, putA, fillA, chunkA, zerosL, binA, binI, binS, isNilA, lookA, bndA, depA, depV, depM, depS, cellAt, elemAt, initA, Nat.reduceAdd, Nat.reduceLeDiff, Nat.reduceEqDiff, reduceIte, reduceCtorEq, Nat.reduceLT, Nat.reduceMul, Nat.reduceSub, Int.reduceAdd, Int.reduceSub, Int.reduceMul, Int.reduceLT, Int.reduceLE, Int.reduceEq, Int.reduceNe, Int.reduceNeg, Int.reduceToNat, lC_len]
  by_cases hl : (150 : Int) < (l.length : Int)
  · simp only [hl, runs, e_onS, AH.set_same, AH.set_set, List.map_cons, List.map_nil, List.length_cons, List.length_nil, List.drop_zero, List.drop_succ_cons, List.take_succ_cons, List.take_zero, List.take_nil, List.nil_append, List.cons_append, List.append_nil, List.all_cons, List.all_nil, Nat.zero_add, Nat.add_zero, ite_true, ite_false, if_true, if_false, ne_eq, not_false_eq_true, not_true_eq_false, and_true, true_and, and_self, Bool.and_true, Bool.true_and, Bool.not_true, Bool.not_false, List.getElem?_cons_zero, List.getElem?_cons_succ, Option.isSome_some, beq_self_eq_true, implies_true, forall_const, Nat.le_refl, Option.some.injEq, Option.getD_some, Option.getD_none, List.getElem?_nil, e_Lpn, e_Lpe, e_Lpr, decide_true, decide_false, Int.natCast_nonneg, Int.toNat_natCast, Int.toNat_zero, lt_irr, imp_self, false_implies, big_eq, pevA, takeA, putA, fillA, chunkA, zerosL, binA, binI, binS, isNilA, lookA, bndA, depA, depV, depM, depS, cellAt, elemAt, initA, Nat.reduceAdd, Nat.reduceLeDiff, Nat.reduceEqDiff, reduceIte, reduceCtorEq, Nat.reduceLT, Nat.reduceMul, Nat.reduceSub, Int.reduceAdd, Int.reduceSub, Int.reduceMul, Int.reduceLT, Int.reduceLE, Int.reduceEq, Int.reduceNe, Int.reduceNeg, Int.reduceToNat]
    exact ⟨.refl _, AH.le_refl _⟩
  simp only [hl, runs, e_onS, AH.set_same, AH.set_set, List.map_cons, List.map_nil, List.length_cons, List.length_nil, List.drop_zero, List.drop_succ_cons, List.take_succ_cons, List.take_zero, List.take_nil, List.nil_append, List.cons_append, List.append_nil, List.all_cons, List.all_nil, Nat.zero_add, Nat.add_zero, ite_true, ite_false, if_true, if_false, ne_eq, not_false_eq_true, not_true_eq_false, and_true, true_and, and_self, Bool.and_true, Bool.true_and, Bool.not_true, Bool.not_false, List.getElem?_cons_zero, List.getElem?_cons_succ, Option.isSome_some, beq_self_eq_true, implies_true, forall_const, Nat.le_refl, Option.some.injEq, Option.getD_some, Option.getD_none, List.getElem?_nil, e_Lpn, e_Lpe, e_Lpr, decide_true, decide_false, Int.natCast_nonneg, Int.toNat_natCast, Int.toNat_zero, lt_irr, imp_self, false_implies, big_eq, pevA, takeA, putA, fillA, chunkA, zerosL, binA, binI, binS, isNilA, lookA, bndA, depA, depV, depM, depS, cellAt, elemAt, initA, Nat.reduceAdd, Nat.reduceLeDiff, Nat.reduceEqDiff, reduceIte, reduceCtorEq, Nat.reduceLT, Nat.reduceMul, Nat.reduceSub, Int.reduceAdd, Int.reduceSub, Int.reduceMul, Int.reduceLT, Int.reduceLE, Int.reduceEq, Int.reduceNe, Int.reduceNeg, Int.reduceToNat]
  intro b hb hk
  simp only [runs, e_onS, AH.set_same, AH.set_set, List.map_cons, List.map_nil, List.length_cons, List.length_nil, List.drop_zero, List.drop_succ_cons, List.take_succ_cons, List.take_zero, List.take_nil, List.nil_append, List.cons_append, List.append_nil, List.all_cons, List.all_nil, Nat.zero_add, Nat.add_zero, ite_true, ite_false, if_true, if_false, ne_eq, not_false_eq_true, not_true_eq_false, and_true, true_and, and_self, Bool.and_true, Bool.true_and, Bool.not_true, Bool.not_false, List.getElem?_cons_zero, List.getElem?_cons_succ, Option.isSome_some, beq_self_eq_true, implies_true, forall_const, Nat.le_refl, Option.some.injEq, Option.getD_some, Option.getD_none, List.getElem?_nil, e_Lpn, e_Lpe, e_Lpr, decide_true, decide_false, Int.natCast_nonneg, Int.toNat_natCast, Int.toNat_zero, lt_irr, imp_self, false_implies, big_eq, pevA, takeA, putA, fillA, chunkA, zerosL, binA, binI, binS, isNilA, lookA, bndA, depA, depV, depM, depS, cellAt, elemAt, initA, Nat.reduceAdd, Nat.reduceLeDiff, Nat.reduceEqDiff, reduceIte, reduceCtorEq, Nat.reduceLT, Nat.reduceMul, Nat.reduceSub, Int.reduceAdd, Int.reduceSub, Int.reduceMul, Int.reduceLT, Int.reduceLE, Int.reduceEq, Int.reduceNe, Int.reduceNeg, Int.reduceToNat]
  refine (pairs_ok E l b 0 (by omega) (by omega) K _ (by rw [AH.set_same]; rfl) hk).mono ?_
  rintro _ _ ⟨pa, p1, rfl, ga, -, q1, q2, rfl⟩
  rw [AH.set_set]
  simp only [runs, e_onS, AH.set_same, AH.set_set, List.map_cons, List.map_nil, List.length_cons, List.length_nil, List.drop_zero, List.drop_succ_cons, List.take_succ_cons, List.take_zero, List.take_nil, List.nil_append, List.cons_append, List.append_nil, List.all_cons, List.all_nil, Nat.zero_add, Nat.add_zero, ite_true, ite_false, if_true, if_false, ne_eq, not_false_eq_true, not_true_eq_false, and_true, true_and, and_self, Bool.and_true, Bool.true_and, Bool.not_true, Bool.not_false, List.getElem?_cons_zero, List.getElem?_cons_succ, Option.isSome_some, beq_self_eq_true, implies_true, forall_const, Nat.le_refl, Option.some.injEq, Option.getD_some, Option.getD_none, List.getElem?_nil, e_Lpn, e_Lpe, e_Lpr, decide_true, decide_false, Int.natCast_nonneg, Int.toNat_natCast, Int.toNat_zero, lt_irr, imp_self, false_implies, big_eq, pevA, takeA, putA, fillA, chunkA, zerosL, binA, binI, binS, isNilA, lookA, bndA, depA, depV, depM, depS, cellAt, elemAt, initA, Nat.reduceAdd, Nat.reduceLeDiff, Nat.reduceEqDiff, reduceIte, reduceCtorEq, Nat.reduceLT, Nat.reduceMul, Nat.reduceSub, Int.reduceAdd, Int.reduceSub, Int.reduceMul, Int.reduceLT, Int.reduceLE, Int.reduceEq, Int.reduceNe, Int.reduceNeg, Int.reduceToNat]
  refine (pairs_ok E l b p1 (by omega) (by omega) K _ (AH.set_same _ _ _) hk).mono ?_
  rintro _ _ ⟨pb, p2, rfl, gb, -, q3, q4, rfl⟩
  rw [AH.set_set]
  simp only [runs, e_onS, AH.set_same, AH.set_set, List.map_cons, List.map_nil, List.length_cons, List.length_nil, List.drop_zero, List.drop_succ_cons, List.take_succ_cons, List.take_zero, List.take_nil, List.nil_append, List.cons_append, List.append_nil, List.all_cons, List.all_nil, Nat.zero_add, Nat.add_zero, ite_true, ite_false, if_true, if_false, ne_eq, not_false_eq_true, not_true_eq_false, and_true, true_and, and_self, Bool.and_true, Bool.true_and, Bool.not_true, Bool.not_false, List.getElem?_cons_zero, List.getElem?_cons_succ, Option.isSome_some, beq_self_eq_true, implies_true, forall_const, Nat.le_refl, Option.some.injEq, Option.getD_some, Option.getD_none, List.getElem?_nil, e_Lpn, e_Lpe, e_Lpr, decide_true, decide_false, Int.natCast_nonneg, Int.toNat_natCast, Int.toNat_zero, lt_irr, imp_self, false_implies, big_eq, pevA, takeA, putA, fillA, chunkA, zerosL, binA, binI, binS, isNilA, lookA, bndA, depA, depV, depM, depS, cellAt, elemAt, initA, Nat.reduceAdd, Nat.reduceLeDiff, Nat.reduceEqDiff, reduceIte, reduceCtorEq, Nat.reduceLT, Nat.reduceMul, Nat.reduceSub, Int.reduceAdd, Int.reduceSub, Int.reduceMul, Int.reduceLT, Int.reduceLE, Int.reduceEq, Int.reduceNe, Int.reduceNeg, Int.reduceToNat]
  refine (pairs_ok E l b p2 (by omega) (by omega) K _ (AH.set_same _ _ _) hk).mono ?_
  rintro _ _ ⟨pc, p3, rfl, gc, -, q5, q6, rfl⟩
  rw [AH.set_set]
  simp only [runs, e_onS, AH.set_same, AH.set_set, List.map_cons, List.map_nil, List.length_cons, List.length_nil, List.drop_zero, List.drop_succ_cons, List.take_succ_cons, List.take_zero, List.take_nil, List.nil_append, List.cons_append, List.append_nil, List.all_cons, List.all_nil, Nat.zero_add, Nat.add_zero, ite_true, ite_false, if_true, if_false, ne_eq, not_false_eq_true, not_true_eq_false, and_true, true_and, and_self, Bool.and_true, Bool.true_and, Bool.not_true, Bool.not_false, List.getElem?_cons_zero, List.getElem?_cons_succ, Option.isSome_some, beq_self_eq_true, implies_true, forall_const, Nat.le_refl, Option.some.injEq, Option.getD_some, Option.getD_none, List.getElem?_nil, e_Lpn, e_Lpe, e_Lpr, decide_true, decide_false, Int.natCast_nonneg, Int.toNat_natCast, Int.toNat_zero, lt_irr, imp_self, false_implies, big_eq, pevA, takeA, putA, fillA, chunkA, zerosL, binA, binI, binS, isNilA, lookA, bndA, depA, depV, depM, depS, cellAt, elemAt, initA, Nat.reduceAdd, Nat.reduceLeDiff, Nat.reduceEqDiff, reduceIte, reduceCtorEq, Nat.reduceLT, Nat.reduceMul, Nat.reduceSub, Int.reduceAdd, Int.reduceSub, Int.reduceMul, Int.reduceLT, Int.reduceLE, Int.reduceEq, Int.reduceNe, Int.reduceNeg, Int.reduceToNat]
  refine (type_ok E l b 3 (by omega) p3 (by omega) (by omega) K _ (AH.set_same _ _ _) hk).mono ?_
  rintro _ _ ⟨t, p', rfl, ht, -, -, rfl⟩
  rw [AH.set_set]
  have hto := GT.ok t ht
  have hwt := WF.ofGT t ht
  have gx := Good.of pa ga
  have gy := Good.of pb gb
  have gz := Good.of pc gc
  simp only [runs, e_onS, AH.set_same, AH.set_set, List.map_cons, List.map_nil, List.length_cons, List.length_nil, List.drop_zero, List.drop_succ_cons, List.take_succ_cons, List.take_zero, List.take_nil, List.nil_append, List.cons_append, List.append_nil, List.all_cons, List.all_nil, Nat.zero_add, Nat.add_zero, ite_true, ite_false, if_true, if_false, ne_eq, not_false_eq_true, not_true_eq_false, and_true, true_and, and_self, Bool.and_true, Bool.true_and, Bool.not_true, Bool.not_false, List.getElem?_cons_zero, List.getElem?_cons_succ, Option.isSome_some, beq_self_eq_true, implies_true, forall_const, Nat.le_refl, Option.some.injEq, Option.getD_some, Option.getD_none, List.getElem?_nil, e_Lpn, e_Lpe, e_Lpr, decide_true, decide_false, Int.natCast_nonneg, Int.toNat_natCast, Int.toNat_zero, lt_irr, imp_self, false_implies, big_eq, pevA, takeA, putA, fillA, chunkA, zerosL, binA, binI, binS, isNilA, lookA, bndA, depA, depV, depM, depS, cellAt, elemAt, initA, Nat.reduceAdd, Nat.reduceLeDiff, Nat.reduceEqDiff, reduceIte, reduceCtorEq, Nat.reduceLT, Nat.reduceMul, Nat.reduceSub, Int.reduceAdd, Int.reduceSub, Int.reduceMul, Int.reduceLT, Int.reduceLE, Int.reduceEq, Int.reduceNe, Int.reduceNeg, Int.reduceToNat, tyC_len, tyC_ne, tyC_one, tyC_take, tyC_drop, tyC_ta, tyC_da, tyC_d6]
  refine (of_ok pa fun q hq => GT.ok _ (ga q hq)).use ?_
  simp only [runs, e_onS, AH.set_same, AH.set_set, List.map_cons, List.map_nil, List.length_cons, List.length_nil, List.drop_zero, List.drop_succ_cons, List.take_succ_cons, List.take_zero, List.take_nil, List.nil_append, List.cons_append, List.append_nil, List.all_cons, List.all_nil, Nat.zero_add, Nat.add_zero, ite_true, ite_false, if_true, if_false, ne_eq, not_false_eq_true, not_true_eq_false, and_true, true_and, and_self, Bool.and_true, Bool.true_and, Bool.not_true, Bool.not_false, List.getElem?_cons_zero, List.getElem?_cons_succ, Option.isSome_some, beq_self_eq_true, implies_true, forall_const, Nat.le_refl, Option.some.injEq, Option.getD_some, Option.getD_none, List.getElem?_nil, e_Lpn, e_Lpe, e_Lpr, decide_true, decide_false, Int.natCast_nonneg, Int.toNat_natCast, Int.toNat_zero, lt_irr, imp_self, false_implies, big_eq, pevA, takeA, putA, fillA, chunkA, zerosL, binA, binI, binS, isNilA, lookA, bndA, depA, depV, depM, depS, cellAt, elemAt, initA, Nat.reduceAdd, Nat.reduceLeDiff, Nat.reduceEqDiff, reduceIte, reduceCtorEq, Nat.reduceLT, Nat.reduceMul, Nat.reduceSub, Int.reduceAdd, Int.reduceSub, Int.reduceMul, Int.reduceLT, Int.reduceLE, Int.reduceEq, Int.reduceNe, Int.reduceNeg, Int.reduceToNat, tyC_len, tyC_ne, tyC_one, tyC_take, tyC_drop, tyC_ta, tyC_da, tyC_d6]
  refine (of_ok pb fun q hq => GT.ok _ (gb q hq)).use ?_
  simp only [runs, e_onS, AH.set_same, AH.set_set, List.map_cons, List.map_nil, List.length_cons, List.length_nil, List.drop_zero, List.drop_succ_cons, List.take_succ_cons, List.take_zero, List.take_nil, List.nil_append, List.cons_append, List.append_nil, List.all_cons, List.all_nil, Nat.zero_add, Nat.add_zero, ite_true, ite_false, if_true, if_false, ne_eq, not_false_eq_true, not_true_eq_false, and_true, true_and, and_self, Bool.and_true, Bool.true_and, Bool.not_true, Bool.not_false, List.getElem?_cons_zero, List.getElem?_cons_succ, Option.isSome_some, beq_self_eq_true, implies_true, forall_const, Nat.le_refl, Option.some.injEq, Option.getD_some, Option.getD_none, List.getElem?_nil, e_Lpn, e_Lpe, e_Lpr, decide_true, decide_false, Int.natCast_nonneg, Int.toNat_natCast, Int.toNat_zero, lt_irr, imp_self, false_implies, big_eq, pevA, takeA, putA, fillA, chunkA, zerosL, binA, binI, binS, isNilA, lookA, bndA, depA, depV, depM, depS, cellAt, elemAt, initA, Nat.reduceAdd, Nat.reduceLeDiff, Nat.reduceEqDiff, reduceIte, reduceCtorEq, Nat.reduceLT, Nat.reduceMul, Nat.reduceSub, Int.reduceAdd, Int.reduceSub, Int.reduceMul, Int.reduceLT, Int.reduceLE, Int.reduceEq, Int.reduceNe, Int.reduceNeg, Int.reduceToNat, tyC_len, tyC_ne, tyC_one, tyC_take, tyC_drop, tyC_ta, tyC_da, tyC_d6]
  refine (of_ok pc fun q hq => GT.ok _ (gc q hq)).use ?_
  generalize ofL pa = x at gx ⊢
  generalize ofL pb = y at gy ⊢
  generalize ofL pc = z at gz ⊢
  simp only [e_dregion d3_0, u_L s3_0.eq_1, u_T g3_0.eq_1, runs, e_onS, AH.set_same, AH.set_set, List.map_cons, List.map_nil, List.length_cons, List.length_nil, List.drop_zero, List.drop_succ_cons, List.take_succ_cons, List.take_zero, List.take_nil, List.nil_append, List.cons_append, List.append_nil, List.all_cons, List.all_nil, Nat.zero_add, Nat.add_zero, ite_true, ite_false, if_true, if_false, ne_eq, not_false_eq_true, not_true_eq_false, and_true, true_and, and_self, Bool.and_true, Bool.true_and, Bool.not_true, Bool.not_false, List.getElem?_cons_zero, List.getElem?_cons_succ, Option.isSome_some, beq_self_eq_true, implies_true, forall_const, Nat.le_refl, Option.some.injEq, Option.getD_some, Option.getD_none, List.getElem?_nil, e_Lpn, e_Lpe, e_Lpr, decide_true, decide_false, Int.natCast_nonneg, Int.toNat_natCast, Int.toNat_zero, lt_irr, imp_self, false_implies, big_eq, pevA, takeA, putA, fillA, chunkA, zerosL, binA, binI, binS, isNilA, lookA, bndA, depA, depV, depM, depS, cellAt, elemAt, initA, Nat.reduceAdd, Nat.reduceLeDiff, Nat.reduceEqDiff, reduceIte, reduceCtorEq, Nat.reduceLT, Nat.reduceMul, Nat.reduceSub, Int.reduceAdd, Int.reduceSub, Int.reduceMul, Int.reduceLT, Int.reduceLE, Int.reduceEq, Int.reduceNe, Int.reduceNeg, Int.reduceToNat, tyC_len, tyC_ne, tyC_one, tyC_take, tyC_drop, tyC_ta, tyC_da, tyC_d6]
  intro b16 hb16 hk16
  simp only [e_dregion d3_0, u_L s3_0.eq_1, u_T g3_0.eq_1, runs, e_onS, AH.set_same, AH.set_set, List.map_cons, List.map_nil, List.length_cons, List.length_nil, List.drop_zero, List.drop_succ_cons, List.take_succ_cons, List.take_zero, List.take_nil, List.nil_append, List.cons_append, List.append_nil, List.all_cons, List.all_nil, Nat.zero_add, Nat.add_zero, ite_true, ite_false, if_true, if_false, ne_eq, not_false_eq_true, not_true_eq_false, and_true, true_and, and_self, Bool.and_true, Bool.true_and, Bool.not_true, Bool.not_false, List.getElem?_cons_zero, List.getElem?_cons_succ, Option.isSome_some, beq_self_eq_true, implies_true, forall_const, Nat.le_refl, Option.some.injEq, Option.getD_some, Option.getD_none, List.getElem?_nil, e_Lpn, e_Lpe, e_Lpr, decide_true, decide_false, Int.natCast_nonneg, Int.toNat_natCast, Int.toNat_zero, lt_irr, imp_self, false_implies, big_eq, pevA, takeA, putA, fillA, chunkA, zerosL, binA, binI, binS, isNilA, lookA, bndA, depA, depV, depM, depS, cellAt, elemAt, initA, Nat.reduceAdd, Nat.reduceLeDiff, Nat.reduceEqDiff, reduceIte, reduceCtorEq, Nat.reduceLT, Nat.reduceMul, Nat.reduceSub, Int.reduceAdd, Int.reduceSub, Int.reduceMul, Int.reduceLT, Int.reduceLE, Int.reduceEq, Int.reduceNe, Int.reduceNeg, Int.reduceToNat, tyC_len, tyC_ne, tyC_one, tyC_take, tyC_drop, tyC_ta, tyC_da, tyC_d6]
  refine thenG _ _ x y (.inl rfl) (.inl rfl) gx gy K _ fun xy gxy exy => ?_
  simp only [runs, e_onS, AH.set_same, AH.set_set, List.map_cons, List.map_nil, List.length_cons, List.length_nil, List.drop_zero, List.drop_succ_cons, List.take_succ_cons, List.take_zero, List.take_nil, List.nil_append, List.cons_append, List.append_nil, List.all_cons, List.all_nil, Nat.zero_add, Nat.add_zero, ite_true, ite_false, if_true, if_false, ne_eq, not_false_eq_true, not_true_eq_false, and_true, true_and, and_self, Bool.and_true, Bool.true_and, Bool.not_true, Bool.not_false, List.getElem?_cons_zero, List.getElem?_cons_succ, Option.isSome_some, beq_self_eq_true, implies_true, forall_const, Nat.le_refl, Option.some.injEq, Option.getD_some, Option.getD_none, List.getElem?_nil, e_Lpn, e_Lpe, e_Lpr, decide_true, decide_false, Int.natCast_nonneg, Int.toNat_natCast, Int.toNat_zero, lt_irr, imp_self, false_implies, big_eq, pevA, takeA, putA, fillA, chunkA, zerosL, binA, binI, binS, isNilA, lookA, bndA, depA, depV, depM, depS, cellAt, elemAt, initA, Nat.reduceAdd, Nat.reduceLeDiff, Nat.reduceEqDiff, reduceIte, reduceCtorEq, Nat.reduceLT, Nat.reduceMul, Nat.reduceSub, Int.reduceAdd, Int.reduceSub, Int.reduceMul, Int.reduceLT, Int.reduceLE, Int.reduceEq, Int.reduceNe, Int.reduceNeg, Int.reduceToNat, tyC_len, tyC_ne, tyC_one, tyC_take, tyC_drop, tyC_ta, tyC_da, tyC_d6]
  refine thenG _ _ xy z (.inl rfl) (.inl rfl) gxy gz K _ fun xyz gxyz exyz => ?_
  simp only [runs, e_onS, AH.set_same, AH.set_set, List.map_cons, List.map_nil, List.length_cons, List.length_nil, List.drop_zero, List.drop_succ_cons, List.take_succ_cons, List.take_zero, List.take_nil, List.nil_append, List.cons_append, List.append_nil, List.all_cons, List.all_nil, Nat.zero_add, Nat.add_zero, ite_true, ite_false, if_true, if_false, ne_eq, not_false_eq_true, not_true_eq_false, and_true, true_and, and_self, Bool.and_true, Bool.true_and, Bool.not_true, Bool.not_false, List.getElem?_cons_zero, List.getElem?_cons_succ, Option.isSome_some, beq_self_eq_true, implies_true, forall_const, Nat.le_refl, Option.some.injEq, Option.getD_some, Option.getD_none, List.getElem?_nil, e_Lpn, e_Lpe, e_Lpr, decide_true, decide_false, Int.natCast_nonneg, Int.toNat_natCast, Int.toNat_zero, lt_irr, imp_self, false_implies, big_eq, pevA, takeA, putA, fillA, chunkA, zerosL, binA, binI, binS, isNilA, lookA, bndA, depA, depV, depM, depS, cellAt, elemAt, initA, Nat.reduceAdd, Nat.reduceLeDiff, Nat.reduceEqDiff, reduceIte, reduceCtorEq, Nat.reduceLT, Nat.reduceMul, Nat.reduceSub, Int.reduceAdd, Int.reduceSub, Int.reduceMul, Int.reduceLT, Int.reduceLE, Int.reduceEq, Int.reduceNe, Int.reduceNeg, Int.reduceToNat, tyC_len, tyC_ne, tyC_one, tyC_take, tyC_drop, tyC_ta, tyC_da, tyC_d6]
  refine (applyG xyz gxyz t hto).use ?_
  simp only [e_dregion d3_1, u_L s3_1.eq_1, u_T g3_1.eq_1, runs, e_onS, AH.set_same, AH.set_set, List.map_cons, List.map_nil, List.length_cons, List.length_nil, List.drop_zero, List.drop_succ_cons, List.take_succ_cons, List.take_zero, List.take_nil, List.nil_append, List.cons_append, List.append_nil, List.all_cons, List.all_nil, Nat.zero_add, Nat.add_zero, ite_true, ite_false, if_true, if_false, ne_eq, not_false_eq_true, not_true_eq_false, and_true, true_and, and_self, Bool.and_true, Bool.true_and, Bool.not_true, Bool.not_false, List.getElem?_cons_zero, List.getElem?_cons_succ, Option.isSome_some, beq_self_eq_true, implies_true, forall_const, Nat.le_refl, Option.some.injEq, Option.getD_some, Option.getD_none, List.getElem?_nil, e_Lpn, e_Lpe, e_Lpr, decide_true, decide_false, Int.natCast_nonneg, Int.toNat_natCast, Int.toNat_zero, lt_irr, imp_self, false_implies, big_eq, pevA, takeA, putA, fillA, chunkA, zerosL, binA, binI, binS, isNilA, lookA, bndA, depA, depV, depM, depS, cellAt, elemAt, initA, Nat.reduceAdd, Nat.reduceLeDiff, Nat.reduceEqDiff, reduceIte, reduceCtorEq, Nat.reduceLT, Nat.reduceMul, Nat.reduceSub, Int.reduceAdd, Int.reduceSub, Int.reduceMul, Int.reduceLT, Int.reduceLE, Int.reduceEq, Int.reduceNe, Int.reduceNeg, Int.reduceToNat, tyC_len, tyC_ne, tyC_one, tyC_take, tyC_drop, tyC_ta, tyC_da, tyC_d6, hk16, s_del hb16]
  intro b17 hb17 hk17
  simp only [e_dregion d3_1, u_L s3_1.eq_1, u_T g3_1.eq_1, runs, e_onS, AH.set_same, AH.set_set, List.map_cons, List.map_nil, List.length_cons, List.length_nil, List.drop_zero, List.drop_succ_cons, List.take_succ_cons, List.take_zero, List.take_nil, List.nil_append, List.cons_append, List.append_nil, List.all_cons, List.all_nil, Nat.zero_add, Nat.add_zero, ite_true, ite_false, if_true, if_false, ne_eq, not_false_eq_true, not_true_eq_false, and_true, true_and, and_self, Bool.and_true, Bool.true_and, Bool.not_true, Bool.not_false, List.getElem?_cons_zero, List.getElem?_cons_succ, Option.isSome_some, beq_self_eq_true, implies_true, forall_const, Nat.le_refl, Option.some.injEq, Option.getD_some, Option.getD_none, List.getElem?_nil, e_Lpn, e_Lpe, e_Lpr, decide_true, decide_false, Int.natCast_nonneg, Int.toNat_natCast, Int.toNat_zero, lt_irr, imp_self, false_implies, big_eq, pevA, takeA, putA, fillA, chunkA, zerosL, binA, binI, binS, isNilA, lookA, bndA, depA, depV, depM, depS, cellAt, elemAt, initA, Nat.reduceAdd, Nat.reduceLeDiff, Nat.reduceEqDiff, reduceIte, reduceCtorEq, Nat.reduceLT, Nat.reduceMul, Nat.reduceSub, Int.reduceAdd, Int.reduceSub, Int.reduceMul, Int.reduceLT, Int.reduceLE, Int.reduceEq, Int.reduceNe, Int.reduceNeg, Int.reduceToNat, tyC_len, tyC_ne, tyC_one, tyC_take, tyC_drop, tyC_ta, tyC_da, tyC_d6]
  refine thenG _ _ y z (.inl rfl) (.inl rfl) gy gz K _ fun yz gyz eyz => ?_
  simp only [runs, e_onS, AH.set_same, AH.set_set, List.map_cons, List.map_nil, List.length_cons, List.length_nil, List.drop_zero, List.drop_succ_cons, List.take_succ_cons, List.take_zero, List.take_nil, List.nil_append, List.cons_append, List.append_nil, List.all_cons, List.all_nil, Nat.zero_add, Nat.add_zero, ite_true, ite_false, if_true, if_false, ne_eq, not_false_eq_true, not_true_eq_false, and_true, true_and, and_self, Bool.and_true, Bool.true_and, Bool.not_true, Bool.not_false, List.getElem?_cons_zero, List.getElem?_cons_succ, Option.isSome_some, beq_self_eq_true, implies_true, forall_const, Nat.le_refl, Option.some.injEq, Option.getD_some, Option.getD_none, List.getElem?_nil, e_Lpn, e_Lpe, e_Lpr, decide_true, decide_false, Int.natCast_nonneg, Int.toNat_natCast, Int.toNat_zero, lt_irr, imp_self, false_implies, big_eq, pevA, takeA, putA, fillA, chunkA, zerosL, binA, binI, binS, isNilA, lookA, bndA, depA, depV, depM, depS, cellAt, elemAt, initA, Nat.reduceAdd, Nat.reduceLeDiff, Nat.reduceEqDiff, reduceIte, reduceCtorEq, Nat.reduceLT, Nat.reduceMul, Nat.reduceSub, Int.reduceAdd, Int.reduceSub, Int.reduceMul, Int.reduceLT, Int.reduceLE, Int.reduceEq, Int.reduceNe, Int.reduceNeg, Int.reduceToNat, tyC_len, tyC_ne, tyC_one, tyC_take, tyC_drop, tyC_ta, tyC_da, tyC_d6]
  refine thenG _ _ x yz (.inl rfl) (.inl rfl) gx gyz K _ fun xyz' gxyz' exyz' => ?_
  simp only [runs, e_onS, AH.set_same, AH.set_set, List.map_cons, List.map_nil, List.length_cons, List.length_nil, List.drop_zero, List.drop_succ_cons, List.take_succ_cons, List.take_zero, List.take_nil, List.nil_append, List.cons_append, List.append_nil, List.all_cons, List.all_nil, Nat.zero_add, Nat.add_zero, ite_true, ite_false, if_true, if_false, ne_eq, not_false_eq_true, not_true_eq_false, and_true, true_and, and_self, Bool.and_true, Bool.true_and, Bool.not_true, Bool.not_false, List.getElem?_cons_zero, List.getElem?_cons_succ, Option.isSome_some, beq_self_eq_true, implies_true, forall_const, Nat.le_refl, Option.some.injEq, Option.getD_some, Option.getD_none, List.getElem?_nil, e_Lpn, e_Lpe, e_Lpr, decide_true, decide_false, Int.natCast_nonneg, Int.toNat_natCast, Int.toNat_zero, lt_irr, imp_self, false_implies, big_eq, pevA, takeA, putA, fillA, chunkA, zerosL, binA, binI, binS, isNilA, lookA, bndA, depA, depV, depM, depS, cellAt, elemAt, initA, Nat.reduceAdd, Nat.reduceLeDiff, Nat.reduceEqDiff, reduceIte, reduceCtorEq, Nat.reduceLT, Nat.reduceMul, Nat.reduceSub, Int.reduceAdd, Int.reduceSub, Int.reduceMul, Int.reduceLT, Int.reduceLE, Int.reduceEq, Int.reduceNe, Int.reduceNeg, Int.reduceToNat, tyC_len, tyC_ne, tyC_one, tyC_take, tyC_drop, tyC_ta, tyC_da, tyC_d6]
  refine (applyG xyz' gxyz' t hto).use ?_
  simp only [e_dregion d3_2, u_L s3_2.eq_1, u_T g3_2.eq_1, runs, e_onS, AH.set_same, AH.set_set, List.map_cons, List.map_nil, List.length_cons, List.length_nil, List.drop_zero, List.drop_succ_cons, List.take_succ_cons, List.take_zero, List.take_nil, List.nil_append, List.cons_append, List.append_nil, List.all_cons, List.all_nil, Nat.zero_add, Nat.add_zero, ite_true, ite_false, if_true, if_false, ne_eq, not_false_eq_true, not_true_eq_false, and_true, true_and, and_self, Bool.and_true, Bool.true_and, Bool.not_true, Bool.not_false, List.getElem?_cons_zero, List.getElem?_cons_succ, Option.isSome_some, beq_self_eq_true, implies_true, forall_const, Nat.le_refl, Option.some.injEq, Option.getD_some, Option.getD_none, List.getElem?_nil, e_Lpn, e_Lpe, e_Lpr, decide_true, decide_false, Int.natCast_nonneg, Int.toNat_natCast, Int.toNat_zero, lt_irr, imp_self, false_implies, big_eq, pevA, takeA, putA, fillA, chunkA, zerosL, binA, binI, binS, isNilA, lookA, bndA, depA, depV, depM, depS, cellAt, elemAt, initA, Nat.reduceAdd, Nat.reduceLeDiff, Nat.reduceEqDiff, reduceIte, reduceCtorEq, Nat.reduceLT, Nat.reduceMul, Nat.reduceSub, Int.reduceAdd, Int.reduceSub, Int.reduceMul, Int.reduceLT, Int.reduceLE, Int.reduceEq, Int.reduceNe, Int.reduceNeg, Int.reduceToNat, tyC_len, tyC_ne, tyC_one, tyC_take, tyC_drop, tyC_ta, tyC_da, tyC_d6, hk17, s_del hb17]
  have e1 : ap xyz t = ap z (ap y (ap x t)) := by rw [exyz t hwt, exy t hwt]
  have wx := WF.ap gx.wf t hwt
  have ox := ap_ok gx.ok t hto
  have oy := ap_ok gy.ok _ ox
  have e2 : ap xyz' t = ap z (ap y (ap x t)) := by rw [exyz' t hwt, eyz _ wx]
  rw [e1, e2]
  refine (sameType_ok _ _).use ?_
  rw [eqT_true.2 rfl]
  simp only [runs, e_onS, AH.set_same, AH.set_set, List.map_cons, List.map_nil, List.length_cons, List.length_nil, List.drop_zero, List.drop_succ_cons, List.take_succ_cons, List.take_zero, List.take_nil, List.nil_append, List.cons_append, List.append_nil, List.all_cons, List.all_nil, Nat.zero_add, Nat.add_zero, ite_true, ite_false, if_true, if_false, ne_eq, not_false_eq_true, not_true_eq_false, and_true, true_and, and_self, Bool.and_true, Bool.true_and, Bool.not_true, Bool.not_false, List.getElem?_cons_zero, List.getElem?_cons_succ, Option.isSome_some, beq_self_eq_true, implies_true, forall_const, Nat.le_refl, Option.some.injEq, Option.getD_some, Option.getD_none, List.getElem?_nil, e_Lpn, e_Lpe, e_Lpr, decide_true, decide_false, Int.natCast_nonneg, Int.toNat_natCast, Int.toNat_zero, lt_irr, imp_self, false_implies, big_eq, pevA, takeA, putA, fillA, chunkA, zerosL, binA, binI, binS, isNilA, lookA, bndA, depA, depV, depM, depS, cellAt, elemAt, initA, Nat.reduceAdd, Nat.reduceLeDiff, Nat.reduceEqDiff, reduceIte, reduceCtorEq, Nat.reduceLT, Nat.reduceMul, Nat.reduceSub, Int.reduceAdd, Int.reduceSub, Int.reduceMul, Int.reduceLT, Int.reduceLE, Int.reduceEq, Int.reduceNe, Int.reduceNeg, Int.reduceToNat, tyC_len, tyC_ne, tyC_one, tyC_take, tyC_drop, tyC_ta, tyC_da, tyC_d6]
  refine (applyG x gx t hto).use ?_
  simp only [runs, e_onS, AH.set_same, AH.set_set, List.map_cons, List.map_nil, List.length_cons, List.length_nil, List.drop_zero, List.drop_succ_cons, List.take_succ_cons, List.take_zero, List.take_nil, List.nil_append, List.cons_append, List.append_nil, List.all_cons, List.all_nil, Nat.zero_add, Nat.add_zero, ite_true, ite_false, if_true, if_false, ne_eq, not_false_eq_true, not_true_eq_false, and_true, true_and, and_self, Bool.and_true, Bool.true_and, Bool.not_true, Bool.not_false, List.getElem?_cons_zero, List.getElem?_cons_succ, Option.isSome_some, beq_self_eq_true, implies_true, forall_const, Nat.le_refl, Option.some.injEq, Option.getD_some, Option.getD_none, List.getElem?_nil, e_Lpn, e_Lpe, e_Lpr, decide_true, decide_false, Int.natCast_nonneg, Int.toNat_natCast, Int.toNat_zero, lt_irr, imp_self, false_implies, big_eq, pevA, takeA, putA, fillA, chunkA, zerosL, binA, binI, binS, isNilA, lookA, bndA, depA, depV, depM, depS, cellAt, elemAt, initA, Nat.reduceAdd, Nat.reduceLeDiff, Nat.reduceEqDiff, reduceIte, reduceCtorEq, Nat.reduceLT, Nat.reduceMul, Nat.reduceSub, Int.reduceAdd, Int.reduceSub, Int.reduceMul, Int.reduceLT, Int.reduceLE, Int.reduceEq, Int.reduceNe, Int.reduceNeg, Int.reduceToNat, tyC_len, tyC_ne, tyC_one, tyC_take, tyC_drop, tyC_ta, tyC_da, tyC_d6]
  refine (applyG y gy _ ox).use ?_
  simp only [runs, e_onS, AH.set_same, AH.set_set, List.map_cons, List.map_nil, List.length_cons, List.length_nil, List.drop_zero, List.drop_succ_cons, List.take_succ_cons, List.take_zero, List.take_nil, List.nil_append, List.cons_append, List.append_nil, List.all_cons, List.all_nil, Nat.zero_add, Nat.add_zero, ite_true, ite_false, if_true, if_false, ne_eq, not_false_eq_true, not_true_eq_false, and_true, true_and, and_self, Bool.and_true, Bool.true_and, Bool.not_true, Bool.not_false, List.getElem?_cons_zero, List.getElem?_cons_succ, Option.isSome_some, beq_self_eq_true, implies_true, forall_const, Nat.le_refl, Option.some.injEq, Option.getD_some, Option.getD_none, List.getElem?_nil, e_Lpn, e_Lpe, e_Lpr, decide_true, decide_false, Int.natCast_nonneg, Int.toNat_natCast, Int.toNat_zero, lt_irr, imp_self, false_implies, big_eq, pevA, takeA, putA, fillA, chunkA, zerosL, binA, binI, binS, isNilA, lookA, bndA, depA, depV, depM, depS, cellAt, elemAt, initA, Nat.reduceAdd, Nat.reduceLeDiff, Nat.reduceEqDiff, reduceIte, reduceCtorEq, Nat.reduceLT, Nat.reduceMul, Nat.reduceSub, Int.reduceAdd, Int.reduceSub, Int.reduceMul, Int.reduceLT, Int.reduceLE, Int.reduceEq, Int.reduceNe, Int.reduceNeg, Int.reduceToNat, tyC_len, tyC_ne, tyC_one, tyC_take, tyC_drop, tyC_ta, tyC_da, tyC_d6]
  refine (applyG z gz _ oy).use ?_
  simp only [runs, e_onS, AH.set_same, AH.set_set, List.map_cons, List.map_nil, List.length_cons, List.length_nil, List.drop_zero, List.drop_succ_cons, List.take_succ_cons, List.take_zero, List.take_nil, List.nil_append, List.cons_append, List.append_nil, List.all_cons, List.all_nil, Nat.zero_add, Nat.add_zero, ite_true, ite_false, if_true, if_false, ne_eq, not_false_eq_true, not_true_eq_false, and_true, true_and, and_self, Bool.and_true, Bool.true_and, Bool.not_true, Bool.not_false, List.getElem?_cons_zero, List.getElem?_cons_succ, Option.isSome_some, beq_self_eq_true, implies_true, forall_const, Nat.le_refl, Option.some.injEq, Option.getD_some, Option.getD_none, List.getElem?_nil, e_Lpn, e_Lpe, e_Lpr, decide_true, decide_false, Int.natCast_nonneg, Int.toNat_natCast, Int.toNat_zero, lt_irr, imp_self, false_implies, big_eq, pevA, takeA, putA, fillA, chunkA, zerosL, binA, binI, binS, isNilA, lookA, bndA, depA, depV, depM, depS, cellAt, elemAt, initA, Nat.reduceAdd, Nat.reduceLeDiff, Nat.reduceEqDiff, reduceIte, reduceCtorEq, Nat.reduceLT, Nat.reduceMul, Nat.reduceSub, Int.reduceAdd, Int.reduceSub, Int.reduceMul, Int.reduceLT, Int.reduceLE, Int.reduceEq, Int.reduceNe, Int.reduceNeg, Int.reduceToNat, tyC_len, tyC_ne, tyC_one, tyC_take, tyC_drop, tyC_ta, tyC_da, tyC_d6]
  refine (sameType_ok _ _).use ?_
  rw [eqT_true.2 rfl]
  simp only [runs, e_onS, AH.set_same, AH.set_set, List.map_cons, List.map_nil, List.length_cons, List.length_nil, List.drop_zero, List.drop_succ_cons, List.take_succ_cons, List.take_zero, List.take_nil, List.nil_append, List.cons_append, List.append_nil, List.all_cons, List.all_nil, Nat.zero_add, Nat.add_zero, ite_true, ite_false, if_true, if_false, ne_eq, not_false_eq_true, not_true_eq_false, and_true, true_and, and_self, Bool.and_true, Bool.true_and, Bool.not_true, Bool.not_false, List.getElem?_cons_zero, List.getElem?_cons_succ, Option.isSome_some, beq_self_eq_true, implies_true, forall_const, Nat.le_refl, Option.some.injEq, Option.getD_some, Option.getD_none, List.getElem?_nil, e_Lpn, e_Lpe, e_Lpr, decide_true, decide_false, Int.natCast_nonneg, Int.toNat_natCast, Int.toNat_zero, lt_irr, imp_self, false_implies, big_eq, pevA, takeA, putA, fillA, chunkA, zerosL, binA, binI, binS, isNilA, lookA, bndA, depA, depV, depM, depS, cellAt, elemAt, initA, Nat.reduceAdd, Nat.reduceLeDiff, Nat.reduceEqDiff, reduceIte, reduceCtorEq, Nat.reduceLT, Nat.reduceMul, Nat.reduceSub, Int.reduceAdd, Int.reduceSub, Int.reduceMul, Int.reduceLT, Int.reduceLE, Int.reduceEq, Int.reduceNe, Int.reduceNeg, Int.reduceToNat, tyC_len, tyC_ne, tyC_one, tyC_take, tyC_drop, tyC_ta, tyC_da, tyC_d6]
  refine thenG _ _ x [] (.inl rfl) (.inr ⟨rfl, rfl⟩) gx good0 K _ fun xn gxn exn => ?_
  simp only [runs, e_onS, AH.set_same, AH.set_set, List.map_cons, List.map_nil, List.length_cons, List.length_nil, List.drop_zero, List.drop_succ_cons, List.take_succ_cons, List.take_zero, List.take_nil, List.nil_append, List.cons_append, List.append_nil, List.all_cons, List.all_nil, Nat.zero_add, Nat.add_zero, ite_true, ite_false, if_true, if_false, ne_eq, not_false_eq_true, not_true_eq_false, and_true, true_and, and_self, Bool.and_true, Bool.true_and, Bool.not_true, Bool.not_false, List.getElem?_cons_zero, List.getElem?_cons_succ, Option.isSome_some, beq_self_eq_true, implies_true, forall_const, Nat.le_refl, Option.some.injEq, Option.getD_some, Option.getD_none, List.getElem?_nil, e_Lpn, e_Lpe, e_Lpr, decide_true, decide_false, Int.natCast_nonneg, Int.toNat_natCast, Int.toNat_zero, lt_irr, imp_self, false_implies, big_eq, pevA, takeA, putA, fillA, chunkA, zerosL, binA, binI, binS, isNilA, lookA, bndA, depA, depV, depM, depS, cellAt, elemAt, initA, Nat.reduceAdd, Nat.reduceLeDiff, Nat.reduceEqDiff, reduceIte, reduceCtorEq, Nat.reduceLT, Nat.reduceMul, Nat.reduceSub, Int.reduceAdd, Int.reduceSub, Int.reduceMul, Int.reduceLT, Int.reduceLE, Int.reduceEq, Int.reduceNe, Int.reduceNeg, Int.reduceToNat, tyC_len, tyC_ne, tyC_one, tyC_take, tyC_drop, tyC_ta, tyC_da, tyC_d6]
  refine (applyG xn gxn t hto).use ?_
  rw [exn t hwt, ap_nil]
  simp only [runs, e_onS, AH.set_same, AH.set_set, List.map_cons, List.map_nil, List.length_cons, List.length_nil, List.drop_zero, List.drop_succ_cons, List.take_succ_cons, List.take_zero, List.take_nil, List.nil_append, List.cons_append, List.append_nil, List.all_cons, List.all_nil, Nat.zero_add, Nat.add_zero, ite_true, ite_false, if_true, if_false, ne_eq, not_false_eq_true, not_true_eq_false, and_true, true_and, and_self, Bool.and_true, Bool.true_and, Bool.not_true, Bool.not_false, List.getElem?_cons_zero, List.getElem?_cons_succ, Option.isSome_some, beq_self_eq_true, implies_true, forall_const, Nat.le_refl, Option.some.injEq, Option.getD_some, Option.getD_none, List.getElem?_nil, e_Lpn, e_Lpe, e_Lpr, decide_true, decide_false, Int.natCast_nonneg, Int.toNat_natCast, Int.toNat_zero, lt_irr, imp_self, false_implies, big_eq, pevA, takeA, putA, fillA, chunkA, zerosL, binA, binI, binS, isNilA, lookA, bndA, depA, depV, depM, depS, cellAt, elemAt, initA, Nat.reduceAdd, Nat.reduceLeDiff, Nat.reduceEqDiff, reduceIte, reduceCtorEq, Nat.reduceLT, Nat.reduceMul, Nat.reduceSub, Int.reduceAdd, Int.reduceSub, Int.reduceMul, Int.reduceLT, Int.reduceLE, Int.reduceEq, Int.reduceNe, Int.reduceNeg, Int.reduceToNat, tyC_len, tyC_ne, tyC_one, tyC_take, tyC_drop, tyC_ta, tyC_da, tyC_d6]
  refine (applyG x gx t hto).use ?_
  simp only [runs, e_onS, AH.set_same, AH.set_set, List.map_cons, List.map_nil, List.length_cons, List.length_nil, List.drop_zero, List.drop_succ_cons, List.take_succ_cons, List.take_zero, List.take_nil, List.nil_append, List.cons_append, List.append_nil, List.all_cons, List.all_nil, Nat.zero_add, Nat.add_zero, ite_true, ite_false, if_true, if_false, ne_eq, not_false_eq_true, not_true_eq_false, and_true, true_and, and_self, Bool.and_true, Bool.true_and, Bool.not_true, Bool.not_false, List.getElem?_cons_zero, List.getElem?_cons_succ, Option.isSome_some, beq_self_eq_true, implies_true, forall_const, Nat.le_refl, Option.some.injEq, Option.getD_some, Option.getD_none, List.getElem?_nil, e_Lpn, e_Lpe, e_Lpr, decide_true, decide_false, Int.natCast_nonneg, Int.toNat_natCast, Int.toNat_zero, lt_irr, imp_self, false_implies, big_eq, pevA, takeA, putA, fillA, chunkA, zerosL, binA, binI, binS, isNilA, lookA, bndA, depA, depV, depM, depS, cellAt, elemAt, initA, Nat.reduceAdd, Nat.reduceLeDiff, Nat.reduceEqDiff, reduceIte, reduceCtorEq, Nat.reduceLT, Nat.reduceMul, Nat.reduceSub, Int.reduceAdd, Int.reduceSub, Int.reduceMul, Int.reduceLT, Int.reduceLE, Int.reduceEq, Int.reduceNe, Int.reduceNeg, Int.reduceToNat, tyC_len, tyC_ne, tyC_one, tyC_take, tyC_drop, tyC_ta, tyC_da, tyC_d6]
  refine (sameType_ok _ _).use ?_
  rw [eqT_true.2 rfl]
  simp only [runs, e_onS, AH.set_same, AH.set_set, List.map_cons, List.map_nil, List.length_cons, List.length_nil, List.drop_zero, List.drop_succ_cons, List.take_succ_cons, List.take_zero, List.take_nil, List.nil_append, List.cons_append, List.append_nil, List.all_cons, List.all_nil, Nat.zero_add, Nat.add_zero, ite_true, ite_false, if_true, if_false, ne_eq, not_false_eq_true, not_true_eq_false, and_true, true_and, and_self, Bool.and_true, Bool.true_and, Bool.not_true, Bool.not_false, List.getElem?_cons_zero, List.getElem?_cons_succ, Option.isSome_some, beq_self_eq_true, implies_true, forall_const, Nat.le_refl, Option.some.injEq, Option.getD_some, Option.getD_none, List.getElem?_nil, e_Lpn, e_Lpe, e_Lpr, decide_true, decide_false, Int.natCast_nonneg, Int.toNat_natCast, Int.toNat_zero, lt_irr, imp_self, false_implies, big_eq, pevA, takeA, putA, fillA, chunkA, zerosL, binA, binI, binS, isNilA, lookA, bndA, depA, depV, depM, depS, cellAt, elemAt, initA, Nat.reduceAdd, Nat.reduceLeDiff, Nat.reduceEqDiff, reduceIte, reduceCtorEq, Nat.reduceLT, Nat.reduceMul, Nat.reduceSub, Int.reduceAdd, Int.reduceSub, Int.reduceMul, Int.reduceLT, Int.reduceLE, Int.reduceEq, Int.reduceNe, Int.reduceNeg, Int.reduceToNat, tyC_len, tyC_ne, tyC_one, tyC_take, tyC_drop, tyC_ta, tyC_da, tyC_d6]
  refine thenG _ _ [] x (.inr ⟨rfl, rfl⟩) (.inl rfl) good0 gx K _ fun nx gnx enx => ?_
  simp only [runs, e_onS, AH.set_same, AH.set_set, List.map_cons, List.map_nil, List.length_cons, List.length_nil, List.drop_zero, List.drop_succ_cons, List.take_succ_cons, List.take_zero, List.take_nil, List.nil_append, List.cons_append, List.append_nil, List.all_cons, List.all_nil, Nat.zero_add, Nat.add_zero, ite_true, ite_false, if_true, if_false, ne_eq, not_false_eq_true, not_true_eq_false, and_true, true_and, and_self, Bool.and_true, Bool.true_and, Bool.not_true, Bool.not_false, List.getElem?_cons_zero, List.getElem?_cons_succ, Option.isSome_some, beq_self_eq_true, implies_true, forall_const, Nat.le_refl, Option.some.injEq, Option.getD_some, Option.getD_none, List.getElem?_nil, e_Lpn, e_Lpe, e_Lpr, decide_true, decide_false, Int.natCast_nonneg, Int.toNat_natCast, Int.toNat_zero, lt_irr, imp_self, false_implies, big_eq, pevA, takeA, putA, fillA, chunkA, zerosL, binA, binI, binS, isNilA, lookA, bndA, depA, depV, depM, depS, cellAt, elemAt, initA, Nat.reduceAdd, Nat.reduceLeDiff, Nat.reduceEqDiff, reduceIte, reduceCtorEq, Nat.reduceLT, Nat.reduceMul, Nat.reduceSub, Int.reduceAdd, Int.reduceSub, Int.reduceMul, Int.reduceLT, Int.reduceLE, Int.reduceEq, Int.reduceNe, Int.reduceNeg, Int.reduceToNat, tyC_len, tyC_ne, tyC_one, tyC_take, tyC_drop, tyC_ta, tyC_da, tyC_d6]
  refine (applyG nx gnx t hto).use ?_
  rw [enx t hwt, ap_nil]
  simp only [runs, e_onS, AH.set_same, AH.set_set, List.map_cons, List.map_nil, List.length_cons, List.length_nil, List.drop_zero, List.drop_succ_cons, List.take_succ_cons, List.take_zero, List.take_nil, List.nil_append, List.cons_append, List.append_nil, List.all_cons, List.all_nil, Nat.zero_add, Nat.add_zero, ite_true, ite_false, if_true, if_false, ne_eq, not_false_eq_true, not_true_eq_false, and_true, true_and, and_self, Bool.and_true, Bool.true_and, Bool.not_true, Bool.not_false, List.getElem?_cons_zero, List.getElem?_cons_succ, Option.isSome_some, beq_self_eq_true, implies_true, forall_const, Nat.le_refl, Option.some.injEq, Option.getD_some, Option.getD_none, List.getElem?_nil, e_Lpn, e_Lpe, e_Lpr, decide_true, decide_false, Int.natCast_nonneg, Int.toNat_natCast, Int.toNat_zero, lt_irr, imp_self, false_implies, big_eq, pevA, takeA, putA, fillA, chunkA, zerosL, binA, binI, binS, isNilA, lookA, bndA, depA, depV, depM, depS, cellAt, elemAt, initA, Nat.reduceAdd, Nat.reduceLeDiff, Nat.reduceEqDiff, reduceIte, reduceCtorEq, Nat.reduceLT, Nat.reduceMul, Nat.reduceSub, Int.reduceAdd, Int.reduceSub, Int.reduceMul, Int.reduceLT, Int.reduceLE, Int.reduceEq, Int.reduceNe, Int.reduceNeg, Int.reduceToNat, tyC_len, tyC_ne, tyC_one, tyC_take, tyC_drop, tyC_ta, tyC_da, tyC_d6]
  refine (applyG x gx t hto).use ?_
  simp only [runs, e_onS, AH.set_same, AH.set_set, List.map_cons, List.map_nil, List.length_cons, List.length_nil, List.drop_zero, List.drop_succ_cons, List.take_succ_cons, List.take_zero, List.take_nil, List.nil_append, List.cons_append, List.append_nil, List.all_cons, List.all_nil, Nat.zero_add, Nat.add_zero, ite_true, ite_false, if_true, if_false, ne_eq, not_false_eq_true, not_true_eq_false, and_true, true_and, and_self, Bool.and_true, Bool.true_and, Bool.not_true, Bool.not_false, List.getElem?_cons_zero, List.getElem?_cons_succ, Option.isSome_some, beq_self_eq_true, implies_true, forall_const, Nat.le_refl, Option.some.injEq, Option.getD_some, Option.getD_none, List.getElem?_nil, e_Lpn, e_Lpe, e_Lpr, decide_true, decide_false, Int.natCast_nonneg, Int.toNat_natCast, Int.toNat_zero, lt_irr, imp_self, false_implies, big_eq, pevA, takeA, putA, fillA, chunkA, zerosL, binA, binI, binS, isNilA, lookA, bndA, depA, depV, depM, depS, cellAt, elemAt, initA, Nat.reduceAdd, Nat.reduceLeDiff, Nat.reduceEqDiff, reduceIte, reduceCtorEq, Nat.reduceLT, Nat.reduceMul, Nat.reduceSub, Int.reduceAdd, Int.reduceSub, Int.reduceMul, Int.reduceLT, Int.reduceLE, Int.reduceEq, Int.reduceNe, Int.reduceNeg, Int.reduceToNat, tyC_len, tyC_ne, tyC_one, tyC_take, tyC_drop, tyC_ta, tyC_da, tyC_d6]
  refine (sameType_ok _ _).use ?_
  rw [eqT_true.2 rfl]
  simp only [runs, e_onS, AH.set_same, AH.set_set, List.map_cons, List.map_nil, List.length_cons, List.length_nil, List.drop_zero, List.drop_succ_cons, List.take_succ_cons, List.take_zero, List.take_nil, List.nil_append, List.cons_append, List.append_nil, List.all_cons, List.all_nil, Nat.zero_add, Nat.add_zero, ite_true, ite_false, if_true, if_false, ne_eq, not_false_eq_true, not_true_eq_false, and_true, true_and, and_self, Bool.and_true, Bool.true_and, Bool.not_true, Bool.not_false, List.getElem?_cons_zero, List.getElem?_cons_succ, Option.isSome_some, beq_self_eq_true, implies_true, forall_const, Nat.le_refl, Option.some.injEq, Option.getD_some, Option.getD_none, List.getElem?_nil, e_Lpn, e_Lpe, e_Lpr, decide_true, decide_false, Int.natCast_nonneg, Int.toNat_natCast, Int.toNat_zero, lt_irr, imp_self, false_implies, big_eq, pevA, takeA, putA, fillA, chunkA, zerosL, binA, binI, binS, isNilA, lookA, bndA, depA, depV, depM, depS, cellAt, elemAt, initA, Nat.reduceAdd, Nat.reduceLeDiff, Nat.reduceEqDiff, reduceIte, reduceCtorEq, Nat.reduceLT, Nat.reduceMul, Nat.reduceSub, Int.reduceAdd, Int.reduceSub, Int.reduceMul, Int.reduceLT, Int.reduceLE, Int.reduceEq, Int.reduceNe, Int.reduceNeg, Int.reduceToNat, tyC_len, tyC_ne, tyC_one, tyC_take, tyC_drop, tyC_ta, tyC_da, tyC_d6]
  exact ⟨.refl _, le_set (AH.le_refl _) hb⟩

theorem then_long (b o n c : Nat) (hn : 150 < n) : Pure T 3 [.slice b o n c] (.bool true) := by
  intro K h
  refine ACall.ret t3 fun hK => ?_
  simp only [u_C c3.eq_1, runs, e_onS, AH.set_same, AH.set_set, List.map_cons, List.map_nil, List.length_cons, List.length_nil, List.drop_zero, List.drop_succ_cons, List.take_succ_cons, List.take_zero, List.take_nil, List.nil_append, List.cons_append, List.append_nil, List.all_cons, List.all_nil, Nat.zero_add, Nat.add_zero, ite_true, ite_false, if_true, if_false, ne_eq, not_false_eq_true, not_true_eq_false, and_true, true_and, and_self, Bool.and_true, Bool.true_and, Bool.not_true, Bool.not_false, List.getElem?_cons_zero, List.getElem?_cons_succ, Option.isSome_some, beq_self_eq_true, implies_true, forall_const, Nat.le_refl, Option.some.injEq, Option.getD_some, Option.getD_none, List.getElem?_nil, e_Lpn, e_Lpe, e_Lpr, decide_true, decide_false, Int.natCast_nonneg, Int.toNat_natCast, Int.toNat_zero, lt_irr, imp_self, false_implies, big_eq, pevA, takeA, putA, fillA, chunkA, zerosL, binA, binI, binS, isNilA, lookA, bndA, depA, depV, depM, depS, cellAt, elemAt, initA, Nat.reduceAdd, Nat.reduceLeDiff, Nat.reduceEqDiff, reduceIte, reduceCtorEq, Nat.reduceLT, Nat.reduceMul, Nat.reduceSub, Int.reduceAdd, Int.reduceSub, Int.reduceMul, Int.reduceLT, Int.reduceLE, Int.reduceEq, Int.reduceNe, Int.reduceNeg, Int.reduceToNat]
  refine first_ok.use ?_
  have hl : (150 : Int) < (n : Int) := by omega
  simp only [hl, runs, e_onS, AH.set_same, AH.set_set, List.map_cons, List.map_nil, List.length_cons, List.length_nil, List.drop_zero, List.drop_succ_cons, List.take_succ_cons, List.take_zero, List.take_nil, List.nil_append, List.cons_append, List.append_nil, List.all_cons, List.all_nil, Nat.zero_add, Nat.add_zero, ite_true, ite_false, if_true, if_false, ne_eq, not_false_eq_true, not_true_eq_false, and_true, true_and, and_self, Bool.and_true, Bool.true_and, Bool.not_true, Bool.not_false, List.getElem?_cons_zero, List.getElem?_cons_succ, Option.isSome_some, beq_self_eq_true, implies_true, forall_const, Nat.le_refl, Option.some.injEq, Option.getD_some, Option.getD_none, List.getElem?_nil, e_Lpn, e_Lpe, e_Lpr, decide_true, decide_false, Int.natCast_nonneg, Int.toNat_natCast, Int.toNat_zero, lt_irr, imp_self, false_implies, big_eq, pevA, takeA, putA, fillA, chunkA, zerosL, binA, binI, binS, isNilA, lookA, bndA, depA, depV, depM, depS, cellAt, elemAt, initA, Nat.reduceAdd, Nat.reduceLeDiff, Nat.reduceEqDiff, reduceIte, reduceCtorEq, Nat.reduceLT, Nat.reduceMul, Nat.reduceSub, Int.reduceAdd, Int.reduceSub, Int.reduceMul, Int.reduceLT, Int.reduceLE, Int.reduceEq, Int.reduceNe, Int.reduceNeg, Int.reduceToNat]
  exact ⟨.refl _, AH.le_refl _⟩
end Go.Proofs.Ytdepohnidjndjaa.p

namespace Go.Proofs.Ytdepohnidjndjaa.p
open Go.Proofs Go Go.Cn code
set_option linter.unusedSimpArgs false
set_option linter.unusedVariables false

def zeroT : PT := .mk 0 [] []
/-- what a name has first -/
def getV (l : Sb) (n : List UInt8) : PT × Bool := match lk l n with
  | some u => (u, true)
  | none => (zeroT, false)
theorem lk_app {l m : Sb} {n : List UInt8} (h : lk l n = none) : lk (l ++ m) n = lk m n := by
  induction l with
  | nil => rfl
  | cons p l ih =>
    simp only [lk] at h
    split at h
    · cases h
    · rename_i e; simp only [List.cons_append, lk, e, if_false]; exact ih h

theorem get_ok (l : Sb) (n : List UInt8) : Pure T 33 [.lst 54 (prCs l) .no, .str n] (.tuple [.agg (tyC (getV l n).1), .bool (getV l n).2]) := by
  intro K h
  refine ACall.ret t33 fun hK => ?_
  simp only [u_C c33.eq_1, runs, e_onS, AH.set_same, AH.set_set, List.map_cons, List.map_nil, List.length_cons, List.length_nil, List.drop_zero, List.drop_succ_cons, List.take_succ_cons, List.take_zero, List.take_nil, List.nil_append, List.cons_append, List.append_nil, List.all_cons, List.all_nil, Nat.zero_add, Nat.add_zero, ite_true, ite_false, if_true, if_false, ne_eq, not_false_eq_true, not_true_eq_false, and_true, true_and, and_self, Bool.and_true, Bool.true_and, Bool.not_true, Bool.not_false, List.getElem?_cons_zero, List.getElem?_cons_succ, Option.isSome_some, beq_self_eq_true, implies_true, forall_const, Nat.le_refl, Option.some.injEq, Option.getD_some, Option.getD_none, List.getElem?_nil, e_Lpn, e_Lpe, e_Lpr, decide_true, decide_false, Int.natCast_nonneg, Int.toNat_natCast, Int.toNat_zero, lt_irr, imp_self, false_implies, big_eq, pevA, takeA, putA, fillA, chunkA, zerosL, binA, binI, binS, isNilA, lookA, bndA, depA, depV, depM, depS, cellAt, elemAt, initA, Nat.reduceAdd, Nat.reduceLeDiff, Nat.reduceEqDiff, reduceIte, reduceCtorEq, Nat.reduceLT, Nat.reduceMul, Nat.reduceSub, Int.reduceAdd, Int.reduceSub, Int.reduceMul, Int.reduceLT, Int.reduceLE, Int.reduceEq, Int.reduceNe, Int.reduceNeg, Int.reduceToNat]
  intro b hb hk
  simp only [runs, e_onS, AH.set_same, AH.set_set, List.map_cons, List.map_nil, List.length_cons, List.length_nil, List.drop_zero, List.drop_succ_cons, List.take_succ_cons, List.take_zero, List.take_nil, List.nil_append, List.cons_append, List.append_nil, List.all_cons, List.all_nil, Nat.zero_add, Nat.add_zero, ite_true, ite_false, if_true, if_false, ne_eq, not_false_eq_true, not_true_eq_false, and_true, true_and, and_self, Bool.and_true, Bool.true_and, Bool.not_true, Bool.not_false, List.getElem?_cons_zero, List.getElem?_cons_succ, Option.isSome_some, beq_self_eq_true, implies_true, forall_const, Nat.le_refl, Option.some.injEq, Option.getD_some, Option.getD_none, List.getElem?_nil, e_Lpn, e_Lpe, e_Lpr, decide_true, decide_false, Int.natCast_nonneg, Int.toNat_natCast, Int.toNat_zero, lt_irr, imp_self, false_implies, big_eq, pevA, takeA, putA, fillA, chunkA, zerosL, binA, binI, binS, isNilA, lookA, bndA, depA, depV, depM, depS, cellAt, elemAt, initA, Nat.reduceAdd, Nat.reduceLeDiff, Nat.reduceEqDiff, reduceIte, reduceCtorEq, Nat.reduceLT, Nat.reduceMul, Nat.reduceSub, Int.reduceAdd, Int.reduceSub, Int.reduceMul, Int.reduceLT, Int.reduceLE, Int.reduceEq, Int.reduceNe, Int.reduceNeg, Int.reduceToNat]
  refine W.bound (t := 0) rfl fun hB => ?_
  rw [prCs_len] at hB
  refine aloop (α := Sb × Sb) (fun x fr h1 => l = x.1 ++ x.2 ∧ lk x.1 n = none ∧ fr 0 = .lst 54 (prCs l) .no ∧ fr 1 = .str n ∧ fr 4 = .ptr b 0 ∧ fr 6 = .int .i64 x.1.length ∧ h1 = h.set b (.cells [.int .i64 0, .str [], .lst 0 [] .nil] 33)) (fun x => x.2.length) ([], l) ?_ ?_
  · exact ⟨rfl, rfl, rfl, rfl, rfl, rfl, rfl⟩
  · rintro ⟨done, rest⟩ fr h1 ⟨e1, hd, f0, f1, f4, f6, rfl⟩
    simp only at e1 hd f6
    subst e1
    cases rest with
    | nil =>
      rw [List.append_nil] at *
      simp only [u_C l33_0.eq_1, runs, e_onS, AH.set_same, AH.set_set, List.map_cons, List.map_nil, List.length_cons, List.length_nil, List.drop_zero, List.drop_succ_cons, List.take_succ_cons, List.take_zero, List.take_nil, List.nil_append, List.cons_append, List.append_nil, List.all_cons, List.all_nil, Nat.zero_add, Nat.add_zero, ite_true, ite_false, if_true, if_false, ne_eq, not_false_eq_true, not_true_eq_false, and_true, true_and, and_self, Bool.and_true, Bool.true_and, Bool.not_true, Bool.not_false, List.getElem?_cons_zero, List.getElem?_cons_succ, Option.isSome_some, beq_self_eq_true, implies_true, forall_const, Nat.le_refl, Option.some.injEq, Option.getD_some, Option.getD_none, List.getElem?_nil, e_Lpn, e_Lpe, e_Lpr, decide_true, decide_false, Int.natCast_nonneg, Int.toNat_natCast, Int.toNat_zero, lt_irr, imp_self, false_implies, big_eq, pevA, takeA, putA, fillA, chunkA, zerosL, binA, binI, binS, isNilA, lookA, bndA, depA, depV, depM, depS, cellAt, elemAt, initA, Nat.reduceAdd, Nat.reduceLeDiff, Nat.reduceEqDiff, reduceIte, reduceCtorEq, Nat.reduceLT, Nat.reduceMul, Nat.reduceSub, Int.reduceAdd, Int.reduceSub, Int.reduceMul, Int.reduceLT, Int.reduceLE, Int.reduceEq, Int.reduceNe, Int.reduceNeg, Int.reduceToNat, f0, f1, f4, f6, prCs_len, hk]
      have hg : getV done n = (zeroT, false) := by simp only [getV, hd]
      rw [hg]
      exact ⟨.tupL ⟨.aggL ⟨.refl _, .refl _, .lstE (by simp), trivial⟩, .refl _, trivial⟩, le_del (AH.le_refl _) hb⟩
    | cons a rest =>
      have hlt : decide ((done.length : Int) < ((done ++ a :: rest).length : Nat)) = true := by simp; omega
      have hu : done.length < (done ++ a :: rest).length := by simp
      simp only [u_C l33_0.eq_1, runs, e_onS, AH.set_same, AH.set_set, List.map_cons, List.map_nil, List.length_cons, List.length_nil, List.drop_zero, List.drop_succ_cons, List.take_succ_cons, List.take_zero, List.take_nil, List.nil_append, List.cons_append, List.append_nil, List.all_cons, List.all_nil, Nat.zero_add, Nat.add_zero, ite_true, ite_false, if_true, if_false, ne_eq, not_false_eq_true, not_true_eq_false, and_true, true_and, and_self, Bool.and_true, Bool.true_and, Bool.not_true, Bool.not_false, List.getElem?_cons_zero, List.getElem?_cons_succ, Option.isSome_some, beq_self_eq_true, implies_true, forall_const, Nat.le_refl, Option.some.injEq, Option.getD_some, Option.getD_none, List.getElem?_nil, e_Lpn, e_Lpe, e_Lpr, decide_true, decide_false, Int.natCast_nonneg, Int.toNat_natCast, Int.toNat_zero, lt_irr, imp_self, false_implies, big_eq, pevA, takeA, putA, fillA, chunkA, zerosL, binA, binI, binS, isNilA, lookA, bndA, depA, depV, depM, depS, cellAt, elemAt, initA, Nat.reduceAdd, Nat.reduceLeDiff, Nat.reduceEqDiff, reduceIte, reduceCtorEq, Nat.reduceLT, Nat.reduceMul, Nat.reduceSub, Int.reduceAdd, Int.reduceSub, Int.reduceMul, Int.reduceLT, Int.reduceLE, Int.reduceEq, Int.reduceNe, Int.reduceNeg, Int.reduceToNat, f0, f1, f4, f6, prCs_len, hlt, prCs_get, prC_len, prC_ne, prC_0, prC_1]
      by_cases ha : a.1 = n
      · have hg : getV (done ++ a :: rest) n = (a.2, true) := by
          simp only [getV, lk_app hd, lk, ha, if_true]
        rw [hg]
        simp only [ha, runs, e_onS, AH.set_same, AH.set_set, List.map_cons, List.map_nil, List.length_cons, List.length_nil, List.drop_zero, List.drop_succ_cons, List.take_succ_cons, List.take_zero, List.take_nil, List.nil_append, List.cons_append, List.append_nil, List.all_cons, List.all_nil, Nat.zero_add, Nat.add_zero, ite_true, ite_false, if_true, if_false, ne_eq, not_false_eq_true, not_true_eq_false, and_true, true_and, and_self, Bool.and_true, Bool.true_and, Bool.not_true, Bool.not_false, List.getElem?_cons_zero, List.getElem?_cons_succ, Option.isSome_some, beq_self_eq_true, implies_true, forall_const, Nat.le_refl, Option.some.injEq, Option.getD_some, Option.getD_none, List.getElem?_nil, e_Lpn, e_Lpe, e_Lpr, decide_true, decide_false, Int.natCast_nonneg, Int.toNat_natCast, Int.toNat_zero, lt_irr, imp_self, false_implies, big_eq, pevA, takeA, putA, fillA, chunkA, zerosL, binA, binI, binS, isNilA, lookA, bndA, depA, depV, depM, depS, cellAt, elemAt, initA, Nat.reduceAdd, Nat.reduceLeDiff, Nat.reduceEqDiff, reduceIte, reduceCtorEq, Nat.reduceLT, Nat.reduceMul, Nat.reduceSub, Int.reduceAdd, Int.reduceSub, Int.reduceMul, Int.reduceLT, Int.reduceLE, Int.reduceEq, Int.reduceNe, Int.reduceNeg, Int.reduceToNat, f0, f4, f6, hk, prCs_get, prC_len, prC_ne, prC_0, prC_1, prC_take, tyC_len, tyC_ne, tyC_one, tyC_take, tyC_drop, tyC_ta, tyC_da, tyC_d6]
        exact ⟨.refl _, le_del (AH.le_refl _) hb⟩
      · simp only [ha, wrapS hu hB, runs, e_onS, AH.set_same, AH.set_set, List.map_cons, List.map_nil, List.length_cons, List.length_nil, List.drop_zero, List.drop_succ_cons, List.take_succ_cons, List.take_zero, List.take_nil, List.nil_append, List.cons_append, List.append_nil, List.all_cons, List.all_nil, Nat.zero_add, Nat.add_zero, ite_true, ite_false, if_true, if_false, ne_eq, not_false_eq_true, not_true_eq_false, and_true, true_and, and_self, Bool.and_true, Bool.true_and, Bool.not_true, Bool.not_false, List.getElem?_cons_zero, List.getElem?_cons_succ, Option.isSome_some, beq_self_eq_true, implies_true, forall_const, Nat.le_refl, Option.some.injEq, Option.getD_some, Option.getD_none, List.getElem?_nil, e_Lpn, e_Lpe, e_Lpr, decide_true, decide_false, Int.natCast_nonneg, Int.toNat_natCast, Int.toNat_zero, lt_irr, imp_self, false_implies, big_eq, pevA, takeA, putA, fillA, chunkA, zerosL, binA, binI, binS, isNilA, lookA, bndA, depA, depV, depM, depS, cellAt, elemAt, initA, Nat.reduceAdd, Nat.reduceLeDiff, Nat.reduceEqDiff, reduceIte, reduceCtorEq, Nat.reduceLT, Nat.reduceMul, Nat.reduceSub, Int.reduceAdd, Int.reduceSub, Int.reduceMul, Int.reduceLT, Int.reduceLE, Int.reduceEq, Int.reduceNe, Int.reduceNeg, Int.reduceToNat, f6]
        refine ⟨(done ++ [a], rest), by simp, by simp, ?_, f0, f1, f4, by simp [upd], rfl⟩
        rw [lk_app hd]
        show lk [a] n = none
        simp only [lk]
        rw [if_neg (fun h => ha h.symm)]
end Go.Proofs.Ytdepohnidjndjaa.p
