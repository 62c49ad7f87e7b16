/- Rename, Size, first -/
import Derived.Test.YtdepohnidjndjaaSbS4
namespace Go.Proofs.Ytdepohnidjndjaa.p
open Go.Proofs Go Go.Cn code
set_option linter.unusedSimpArgs false
set_option linter.unusedVariables false

mutual
/-- how many parts a type has, as the program counts -/
def szT : PT → Int
  | .mk _ _ args => szF 1 args
def szF : Int → List PT → Int
  | n, [] => n
  | n, a :: r => szF (IntKind.i64.wrap (n + szT a)) r
end
theorem szF_app (n : Int) (l : List PT) (a : PT) : szF n (l ++ [a]) = IntKind.i64.wrap (szF n l + szT a) := by
  induction l generalizing n with
  | nil => rfl
  | cons b l ih => simp only [List.cons_append, szF, ih]

theorem size_ok : ∀ t, Pure T 15 [.agg (tyC t)] (.int .i64 (szT t)) := by
  refine PT.ind fun k n args ih K h => ?_
  refine ACall.ret t15 fun hK => ?_
  simp only [u_C c15.eq_1, tyC, runs, e_onS, AH.set_same, AH.set_set, List.map_cons, List.map_nil, List.length_cons, List.length_nil, List.drop_zero, List.drop_succ_cons, List.take_succ_cons, List.take_zero, List.take_nil, List.nil_append, List.cons_append, List.append_nil, List.all_cons, List.all_nil, Nat.zero_add, Nat.add_zero, ite_true, ite_false, if_true, if_false, ne_eq, not_false_eq_true, not_true_eq_false, and_true, true_and, and_self, Bool.and_true, Bool.true_and, Bool.not_true, Bool.not_false, List.getElem?_cons_zero, List.getElem?_cons_succ, Option.isSome_some, beq_self_eq_true, implies_true, forall_const, Nat.le_refl, Option.some.injEq, Option.getD_some, Option.getD_none, List.getElem?_nil, e_Lpn, e_Lpe, e_Lpr, decide_true, decide_false, Int.natCast_nonneg, Int.toNat_natCast, Int.toNat_zero, lt_irr, imp_self, false_implies, big_eq, pevA, takeA, putA, fillA, chunkA, zerosL, binA, binI, binS, isNilA, lookA, bndA, depA, depV, depM, depS, cellAt, elemAt, initA, Nat.reduceAdd, Nat.reduceLeDiff, Nat.reduceEqDiff, reduceIte, reduceCtorEq, Nat.reduceLT, Nat.reduceMul, Nat.reduceSub, Int.reduceAdd, Int.reduceSub, Int.reduceMul, Int.reduceLT, Int.reduceLE, Int.reduceEq, Int.reduceNe, Int.reduceNeg, Int.reduceToNat]
  refine W.boundR (t := 1) 2 rfl rfl fun hB => ?_
  rw [tyCs_len] at hB
  refine aloop (α := List PT × List PT) (fun x fr h1 => args = x.1 ++ x.2 ∧ args.length ≤ big ∧ fr 1 = .rptr [.int .i64 k, .str n, .lst 33 (tyCs args) .no] ∧ fr 3 = .int .i64 (szF 1 x.1) ∧ fr 4 = .int .i64 x.1.length ∧ h1 = h) (fun x => x.2.length) ([], args) ?_ ?_
  · exact ⟨rfl, hB, rfl, rfl, rfl, rfl⟩
  · rintro ⟨done, rest⟩ fr h1 ⟨e1, _, f1, f3, f4, rfl⟩
    simp only at e1 f3 f4
    subst e1
    cases rest with
    | nil =>
      rw [List.append_nil] at *
      simp only [u_C l15_0.eq_1, runs, e_onS, AH.set_same, AH.set_set, List.map_cons, List.map_nil, List.length_cons, List.length_nil, List.drop_zero, List.drop_succ_cons, List.take_succ_cons, List.take_zero, List.take_nil, List.nil_append, List.cons_append, List.append_nil, List.all_cons, List.all_nil, Nat.zero_add, Nat.add_zero, ite_true, ite_false, if_true, if_false, ne_eq, not_false_eq_true, not_true_eq_false, and_true, true_and, and_self, Bool.and_true, Bool.true_and, Bool.not_true, Bool.not_false, List.getElem?_cons_zero, List.getElem?_cons_succ, Option.isSome_some, beq_self_eq_true, implies_true, forall_const, Nat.le_refl, Option.some.injEq, Option.getD_some, Option.getD_none, List.getElem?_nil, e_Lpn, e_Lpe, e_Lpr, decide_true, decide_false, Int.natCast_nonneg, Int.toNat_natCast, Int.toNat_zero, lt_irr, imp_self, false_implies, big_eq, pevA, takeA, putA, fillA, chunkA, zerosL, binA, binI, binS, isNilA, lookA, bndA, depA, depV, depM, depS, cellAt, elemAt, initA, Nat.reduceAdd, Nat.reduceLeDiff, Nat.reduceEqDiff, reduceIte, reduceCtorEq, Nat.reduceLT, Nat.reduceMul, Nat.reduceSub, Int.reduceAdd, Int.reduceSub, Int.reduceMul, Int.reduceLT, Int.reduceLE, Int.reduceEq, Int.reduceNe, Int.reduceNeg, Int.reduceToNat, f1, f3, f4, tyCs_len]
      exact ⟨.refl _, AH.le_refl _⟩
    | cons a rest =>
      have hlt : decide ((done.length : Int) < ((done ++ a :: rest).length : Nat)) = true := by simp; omega
      have hu : done.length < (done ++ a :: rest).length := by simp
      simp only [u_C l15_0.eq_1, runs, e_onS, AH.set_same, AH.set_set, List.map_cons, List.map_nil, List.length_cons, List.length_nil, List.drop_zero, List.drop_succ_cons, List.take_succ_cons, List.take_zero, List.take_nil, List.nil_append, List.cons_append, List.append_nil, List.all_cons, List.all_nil, Nat.zero_add, Nat.add_zero, ite_true, ite_false, if_true, if_false, ne_eq, not_false_eq_true, not_true_eq_false, and_true, true_and, and_self, Bool.and_true, Bool.true_and, Bool.not_true, Bool.not_false, List.getElem?_cons_zero, List.getElem?_cons_succ, Option.isSome_some, beq_self_eq_true, implies_true, forall_const, Nat.le_refl, Option.some.injEq, Option.getD_some, Option.getD_none, List.getElem?_nil, e_Lpn, e_Lpe, e_Lpr, decide_true, decide_false, Int.natCast_nonneg, Int.toNat_natCast, Int.toNat_zero, lt_irr, imp_self, false_implies, big_eq, pevA, takeA, putA, fillA, chunkA, zerosL, binA, binI, binS, isNilA, lookA, bndA, depA, depV, depM, depS, cellAt, elemAt, initA, Nat.reduceAdd, Nat.reduceLeDiff, Nat.reduceEqDiff, reduceIte, reduceCtorEq, Nat.reduceLT, Nat.reduceMul, Nat.reduceSub, Int.reduceAdd, Int.reduceSub, Int.reduceMul, Int.reduceLT, Int.reduceLE, Int.reduceEq, Int.reduceNe, Int.reduceNeg, Int.reduceToNat, f1, f3, f4, tyCs_len, hlt, tyCs_get, tyC_len, tyC_ne, tyC_one, tyC_take, tyC_drop, tyC_ta, tyC_da, tyC_d6]
      refine (ih a (by simp)).use ?_
      simp only [wrapS hu hB, runs, e_onS, AH.set_same, AH.set_set, List.map_cons, List.map_nil, List.length_cons, List.length_nil, List.drop_zero, List.drop_succ_cons, List.take_succ_cons, List.take_zero, List.take_nil, List.nil_append, List.cons_append, List.append_nil, List.all_cons, List.all_nil, Nat.zero_add, Nat.add_zero, ite_true, ite_false, if_true, if_false, ne_eq, not_false_eq_true, not_true_eq_false, and_true, true_and, and_self, Bool.and_true, Bool.true_and, Bool.not_true, Bool.not_false, List.getElem?_cons_zero, List.getElem?_cons_succ, Option.isSome_some, beq_self_eq_true, implies_true, forall_const, Nat.le_refl, Option.some.injEq, Option.getD_some, Option.getD_none, List.getElem?_nil, e_Lpn, e_Lpe, e_Lpr, decide_true, decide_false, Int.natCast_nonneg, Int.toNat_natCast, Int.toNat_zero, lt_irr, imp_self, false_implies, big_eq, pevA, takeA, putA, fillA, chunkA, zerosL, binA, binI, binS, isNilA, lookA, bndA, depA, depV, depM, depS, cellAt, elemAt, initA, Nat.reduceAdd, Nat.reduceLeDiff, Nat.reduceEqDiff, reduceIte, reduceCtorEq, Nat.reduceLT, Nat.reduceMul, Nat.reduceSub, Int.reduceAdd, Int.reduceSub, Int.reduceMul, Int.reduceLT, Int.reduceLE, Int.reduceEq, Int.reduceNe, Int.reduceNeg, Int.reduceToNat, f1, f3, f4]
      refine ⟨(done ++ [a], rest), by simp, by simp, hB, f1, ?_, by simp [upd], rfl⟩
      simp [upd, szF_app]

def strC (l : List (List UInt8)) : List (List AV) := l.map fun s => [.str s]
theorem strC_len (l : List (List UInt8)) : (strC l).length = l.length := by rw [strC, List.length_map]
theorem strC_get (l : List (List UInt8)) (i : Nat) : (strC l)[i]? = (l[i]?).map fun s => [AV.str s] := by rw [strC, List.getElem?_map]
/-- names for names -/
def renN (to : List (List UInt8)) : Nat → List (List UInt8) → Sb
  | _, [] => []
  | i, n :: l => (n, .mk 1 ((to[i]?).getD n) []) :: renN to (i + 1) l
theorem renN_app (to : List (List UInt8)) : ∀ (i : Nat) (l : List (List UInt8)) (n : List UInt8), renN to i (l ++ [n]) = renN to i l ++ [(n, .mk 1 ((to[i + l.length]?).getD n) [])]
  | i, [], n => rfl
  | i, a :: l, n => by
    simp only [List.cons_append, renN, renN_app to (i + 1) l n, List.length_cons, List.cons.injEq, true_and]
    rw [show i + 1 + l.length = i + (l.length + 1) by omega]
theorem renN_len (to : List (List UInt8)) : ∀ (i : Nat) (l : List (List UInt8)), (renN to i l).length = l.length
  | i, [] => rfl
  | i, a :: l => by simp [renN, renN_len]
theorem renN_ok (to : List (List UInt8)) : ∀ (i : Nat) (l : List (List UInt8)), ∀ p ∈ renN to i l, PTOk p.2
  | i, [] => by simp [renN]
  | i, a :: l => by
    intro p hp
    rcases List.mem_cons.1 hp with rfl | hp
    · exact ⟨by simp, by simp⟩
    · exact renN_ok to (i + 1) l p hp
theorem prCs_app (l m : Sb) : prCs (l ++ m) = prCs l ++ prCs m := by simp [prCs]
theorem lk_ok (l : Sb) (h : ∀ p ∈ l, PTOk p.2) : ∀ n u, lk l n = some u → PTOk u := by
  induction l with
  | nil => intro n u h; cases h
  | cons p l ih =>
    intro n u hu
    simp only [lk] at hu
    split at hu
    · cases hu; exact h p (by simp)
    · exact ih (fun q hq => h q (by simp [hq])) n u hu
theorem pt_mem (n : List UInt8) (t : PT) : ∀ l, ∀ p ∈ pt n t l, p = (n, t) ∨ p ∈ l
  | [], p, hp => by simp [pt] at hp; exact .inl hp
  | (k, u) :: l, p, hp => by
    simp only [pt] at hp
    split at hp
    · rcases List.mem_cons.1 hp with h | h
      · exact .inl h
      · exact .inr (by simp [h])
    · rcases List.mem_cons.1 hp with h | h
      · exact .inr (by simp [h])
      · rcases pt_mem n t l p h with h | h
        · exact .inl h
        · exact .inr (by simp [h])
theorem ofFold_ok : ∀ (ps : Sb) (x : List (List UInt8) × Sb), (∀ p ∈ ps, PTOk p.2) → (∀ p ∈ x.2, PTOk p.2) → ∀ p ∈ (ps.foldl ofStep x).2, PTOk p.2
  | [], x, _, hx => hx
  | q :: ps, x, hp, hx => by
    refine ofFold_ok ps (ofStep x q) (fun p h => hp p (by simp [h])) fun p h => ?_
    unfold ofStep at h
    split at h
    · exact hx p h
    · simp only [put1] at h
      split at h
      · exact hx p h
      · rcases pt_mem _ _ _ p h with h | h
        · rw [h]; exact hp q (by simp)
        · exact hx p h
theorem ofL_ok (ps : Sb) (hp : ∀ p ∈ ps, PTOk p.2) : ∀ p ∈ ofL ps, PTOk p.2 := ofFold_ok ps _ hp (by simp)

theorem rename_ok (t : PT) (ht : PTOk t) (fro to : List (List UInt8)) (hf : fro.length ≤ 1073741824) : Pure T 14 [.agg (tyC t), .lst 9 (strC fro) .no, .lst 9 (strC to) .no] (.agg (tyC (ap (ofL (renN to 0 fro)) t))) := by
  intro K h
  refine ACall.ret t14 fun hK => ?_
  simp only [u_C c14.eq_1, runs, e_onS, AH.set_same, AH.set_set, List.map_cons, List.map_nil, List.length_cons, List.length_nil, List.drop_zero, List.drop_succ_cons, List.take_succ_cons, List.take_zero, List.take_nil, List.nil_append, List.cons_append, List.append_nil, List.all_cons, List.all_nil, Nat.zero_add, Nat.add_zero, ite_true, ite_false, if_true, if_false, ne_eq, not_false_eq_true, not_true_eq_false, and_true, true_and, and_self, Bool.and_true, Bool.true_and, Bool.not_true, Bool.not_false, List.getElem?_cons_zero, List.getElem?_cons_succ, Option.isSome_some, beq_self_eq_true, implies_true, forall_const, Nat.le_refl, Option.some.injEq, Option.getD_some, Option.getD_none, List.getElem?_nil, e_Lpn, e_Lpe, e_Lpr, decide_true, decide_false, Int.natCast_nonneg, Int.toNat_natCast, Int.toNat_zero, lt_irr, imp_self, false_implies, big_eq, pevA, takeA, putA, fillA, chunkA, zerosL, binA, binI, binS, isNilA, lookA, bndA, depA, depV, depM, depS, cellAt, elemAt, initA, Nat.reduceAdd, Nat.reduceLeDiff, Nat.reduceEqDiff, reduceIte, reduceCtorEq, Nat.reduceLT, Nat.reduceMul, Nat.reduceSub, Int.reduceAdd, Int.reduceSub, Int.reduceMul, Int.reduceLT, Int.reduceLE, Int.reduceEq, Int.reduceNe, Int.reduceNeg, Int.reduceToNat, tyC_len, tyC_ne, tyC_one, tyC_take, tyC_drop, tyC_ta, tyC_da, tyC_d6]
  intro b6 hb6 hk6
  simp only [runs, e_onS, AH.set_same, AH.set_set, List.map_cons, List.map_nil, List.length_cons, List.length_nil, List.drop_zero, List.drop_succ_cons, List.take_succ_cons, List.take_zero, List.take_nil, List.nil_append, List.cons_append, List.append_nil, List.all_cons, List.all_nil, Nat.zero_add, Nat.add_zero, ite_true, ite_false, if_true, if_false, ne_eq, not_false_eq_true, not_true_eq_false, and_true, true_and, and_self, Bool.and_true, Bool.true_and, Bool.not_true, Bool.not_false, List.getElem?_cons_zero, List.getElem?_cons_succ, Option.isSome_some, beq_self_eq_true, implies_true, forall_const, Nat.le_refl, Option.some.injEq, Option.getD_some, Option.getD_none, List.getElem?_nil, e_Lpn, e_Lpe, e_Lpr, decide_true, decide_false, Int.natCast_nonneg, Int.toNat_natCast, Int.toNat_zero, lt_irr, imp_self, false_implies, big_eq, pevA, takeA, putA, fillA, chunkA, zerosL, binA, binI, binS, isNilA, lookA, bndA, depA, depV, depM, depS, cellAt, elemAt, initA, Nat.reduceAdd, Nat.reduceLeDiff, Nat.reduceEqDiff, reduceIte, reduceCtorEq, Nat.reduceLT, Nat.reduceMul, Nat.reduceSub, Int.reduceAdd, Int.reduceSub, Int.reduceMul, Int.reduceLT, Int.reduceLE, Int.reduceEq, Int.reduceNe, Int.reduceNeg, Int.reduceToNat, strC_len]
  refine W.bound (t := 11) rfl fun hB => ?_
  rw [strC_len] at hB
  refine W.bound (t := 2) rfl fun hB2 => ?_
  rw [strC_len] at hB2
  refine aloop (α := List (List UInt8) × List (List UInt8)) (fun x fr h1 => fro = x.1 ++ x.2 ∧ fr 2 = .lst 9 (strC to) .no ∧ fr 3 = .rptr (tyC t) ∧ fr 6 = .ptr b6 0 ∧ fr 11 = .lst 9 (strC fro) .no ∧ fr 12 = .int .i64 fro.length ∧ fr 13 = .int .i64 x.1.length ∧
      ∃ E' tag tk, (prCs (renN to 0 x.1) ≠ [] → E' = 44) ∧ Toks h.toks tk [(tag, 44, 4, 0)] ∧ fr 7 = .lst E' (prCs (renN to 0 x.1)) tag ∧ h1 = (h.set b6 (.cells [.int .i64 0, .str [], .lst 0 [] .nil] 33)).tk tk) (fun x => x.2.length) ([], fro) ?_ ?_
  · exact ⟨rfl, rfl, rfl, rfl, rfl, rfl, rfl, 0, .nil, h.toks, fun h => absurd rfl h, .one _ _ _, rfl, rfl⟩
  · rintro ⟨done, rest⟩ fr h1 ⟨e1, f2, f3, f6, f11, f12, f13, E', tag, tk, hE, hT, f7, rfl⟩
    simp only at e1 f13 hE f7
    subst e1
    cases rest with
    | nil =>
      rw [List.append_nil] at *
      simp only [u_C l14_0.eq_1, e_dregion d14_1, u_L s14_1.eq_1, u_T g14_1.eq_1, runs, e_onS, AH.set_same, AH.set_set, List.map_cons, List.map_nil, List.length_cons, List.length_nil, List.drop_zero, List.drop_succ_cons, List.take_succ_cons, List.take_zero, List.take_nil, List.nil_append, List.cons_append, List.append_nil, List.all_cons, List.all_nil, Nat.zero_add, Nat.add_zero, ite_true, ite_false, if_true, if_false, ne_eq, not_false_eq_true, not_true_eq_false, and_true, true_and, and_self, Bool.and_true, Bool.true_and, Bool.not_true, Bool.not_false, List.getElem?_cons_zero, List.getElem?_cons_succ, Option.isSome_some, beq_self_eq_true, implies_true, forall_const, Nat.le_refl, Option.some.injEq, Option.getD_some, Option.getD_none, List.getElem?_nil, e_Lpn, e_Lpe, e_Lpr, decide_true, decide_false, Int.natCast_nonneg, Int.toNat_natCast, Int.toNat_zero, lt_irr, imp_self, false_implies, big_eq, pevA, takeA, putA, fillA, chunkA, zerosL, binA, binI, binS, isNilA, lookA, bndA, depA, depV, depM, depS, cellAt, elemAt, initA, Nat.reduceAdd, Nat.reduceLeDiff, Nat.reduceEqDiff, reduceIte, reduceCtorEq, Nat.reduceLT, Nat.reduceMul, Nat.reduceSub, Int.reduceAdd, Int.reduceSub, Int.reduceMul, Int.reduceLT, Int.reduceLE, Int.reduceEq, Int.reduceNe, Int.reduceNeg, Int.reduceToNat, f2, f3, f6, f7, f11, f12, f13, tyC_len, tyC_ne, tyC_one, tyC_take, tyC_drop, tyC_ta, tyC_da, tyC_d6]
      have hps := renN_ok to 0 done
      refine ((of_ok (renN to 0 done) hps).weak (args := [.lst E' (prCs (renN to 0 done)) tag]) rfl (by
        intro i x y hx hy
        match i, hx, hy with
        | 0, hx, hy => cases hx; cases hy; exact .lstE hE)).use ?_
      simp only [runs, e_onS, AH.set_same, AH.set_set, List.map_cons, List.map_nil, List.length_cons, List.length_nil, List.drop_zero, List.drop_succ_cons, List.take_succ_cons, List.take_zero, List.take_nil, List.nil_append, List.cons_append, List.append_nil, List.all_cons, List.all_nil, Nat.zero_add, Nat.add_zero, ite_true, ite_false, if_true, if_false, ne_eq, not_false_eq_true, not_true_eq_false, and_true, true_and, and_self, Bool.and_true, Bool.true_and, Bool.not_true, Bool.not_false, List.getElem?_cons_zero, List.getElem?_cons_succ, Option.isSome_some, beq_self_eq_true, implies_true, forall_const, Nat.le_refl, Option.some.injEq, Option.getD_some, Option.getD_none, List.getElem?_nil, e_Lpn, e_Lpe, e_Lpr, decide_true, decide_false, Int.natCast_nonneg, Int.toNat_natCast, Int.toNat_zero, lt_irr, imp_self, false_implies, big_eq, pevA, takeA, putA, fillA, chunkA, zerosL, binA, binI, binS, isNilA, lookA, bndA, depA, depV, depM, depS, cellAt, elemAt, initA, Nat.reduceAdd, Nat.reduceLeDiff, Nat.reduceEqDiff, reduceIte, reduceCtorEq, Nat.reduceLT, Nat.reduceMul, Nat.reduceSub, Int.reduceAdd, Int.reduceSub, Int.reduceMul, Int.reduceLT, Int.reduceLE, Int.reduceEq, Int.reduceNe, Int.reduceNeg, Int.reduceToNat]
      refine (apply_ok (.fmap (sbC (ofL (renN to 0 done)))) (ofL (renN to 0 done)) (fun _ => rfl) rfl rfl (lk_ok _ (ofL_ok _ hps)) t ht).use ?_
      simp only [runs, e_onS, AH.set_same, AH.set_set, List.map_cons, List.map_nil, List.length_cons, List.length_nil, List.drop_zero, List.drop_succ_cons, List.take_succ_cons, List.take_zero, List.take_nil, List.nil_append, List.cons_append, List.append_nil, List.all_cons, List.all_nil, Nat.zero_add, Nat.add_zero, ite_true, ite_false, if_true, if_false, ne_eq, not_false_eq_true, not_true_eq_false, and_true, true_and, and_self, Bool.and_true, Bool.true_and, Bool.not_true, Bool.not_false, List.getElem?_cons_zero, List.getElem?_cons_succ, Option.isSome_some, beq_self_eq_true, implies_true, forall_const, Nat.le_refl, Option.some.injEq, Option.getD_some, Option.getD_none, List.getElem?_nil, e_Lpn, e_Lpe, e_Lpr, decide_true, decide_false, Int.natCast_nonneg, Int.toNat_natCast, Int.toNat_zero, lt_irr, imp_self, false_implies, big_eq, pevA, takeA, putA, fillA, chunkA, zerosL, binA, binI, binS, isNilA, lookA, bndA, depA, depV, depM, depS, cellAt, elemAt, initA, Nat.reduceAdd, Nat.reduceLeDiff, Nat.reduceEqDiff, reduceIte, reduceCtorEq, Nat.reduceLT, Nat.reduceMul, Nat.reduceSub, Int.reduceAdd, Int.reduceSub, Int.reduceMul, Int.reduceLT, Int.reduceLE, Int.reduceEq, Int.reduceNe, Int.reduceNeg, Int.reduceToNat, f6, hk6, tyC_len, tyC_ne, tyC_one, tyC_take, tyC_drop, tyC_ta, tyC_da, tyC_d6]
      exact ⟨.refl _, le_tk (le_del (AH.le_refl _) hb6) hT.le⟩
    | cons a rest =>
      have hlt : decide ((done.length : Int) < ((done ++ a :: rest).length : Nat)) = true := by simp; omega
      have hu : done.length < (done ++ a :: rest).length := by simp
      have hg : (done ++ a :: rest)[done.length]? = some a := by simp
      simp only [u_C l14_0.eq_1, runs, e_onS, AH.set_same, AH.set_set, List.map_cons, List.map_nil, List.length_cons, List.length_nil, List.drop_zero, List.drop_succ_cons, List.take_succ_cons, List.take_zero, List.take_nil, List.nil_append, List.cons_append, List.append_nil, List.all_cons, List.all_nil, Nat.zero_add, Nat.add_zero, ite_true, ite_false, if_true, if_false, ne_eq, not_false_eq_true, not_true_eq_false, and_true, true_and, and_self, Bool.and_true, Bool.true_and, Bool.not_true, Bool.not_false, List.getElem?_cons_zero, List.getElem?_cons_succ, Option.isSome_some, beq_self_eq_true, implies_true, forall_const, Nat.le_refl, Option.some.injEq, Option.getD_some, Option.getD_none, List.getElem?_nil, e_Lpn, e_Lpe, e_Lpr, decide_true, decide_false, Int.natCast_nonneg, Int.toNat_natCast, Int.toNat_zero, lt_irr, imp_self, false_implies, big_eq, pevA, takeA, putA, fillA, chunkA, zerosL, binA, binI, binS, isNilA, lookA, bndA, depA, depV, depM, depS, cellAt, elemAt, initA, Nat.reduceAdd, Nat.reduceLeDiff, Nat.reduceEqDiff, reduceIte, reduceCtorEq, Nat.reduceLT, Nat.reduceMul, Nat.reduceSub, Int.reduceAdd, Int.reduceSub, Int.reduceMul, Int.reduceLT, Int.reduceLE, Int.reduceEq, Int.reduceNe, Int.reduceNeg, Int.reduceToNat, f2, f3, f6, f7, f11, f12, f13, strC_len, hlt, strC_get, hg, Option.map_some]
      cases hto : to[done.length]? with
      | none =>
        have hd : decide ((done.length : Int) < (to.length : Nat)) = false := by
          have := List.getElem?_eq_none_iff.1 hto; simp; omega
        simp only [runs, e_onS, AH.set_same, AH.set_set, List.map_cons, List.map_nil, List.length_cons, List.length_nil, List.drop_zero, List.drop_succ_cons, List.take_succ_cons, List.take_zero, List.take_nil, List.nil_append, List.cons_append, List.append_nil, List.all_cons, List.all_nil, Nat.zero_add, Nat.add_zero, ite_true, ite_false, if_true, if_false, ne_eq, not_false_eq_true, not_true_eq_false, and_true, true_and, and_self, Bool.and_true, Bool.true_and, Bool.not_true, Bool.not_false, List.getElem?_cons_zero, List.getElem?_cons_succ, Option.isSome_some, beq_self_eq_true, implies_true, forall_const, Nat.le_refl, Option.some.injEq, Option.getD_some, Option.getD_none, List.getElem?_nil, e_Lpn, e_Lpe, e_Lpr, decide_true, decide_false, Int.natCast_nonneg, Int.toNat_natCast, Int.toNat_zero, lt_irr, imp_self, false_implies, big_eq, pevA, takeA, putA, fillA, chunkA, zerosL, binA, binI, binS, isNilA, lookA, bndA, depA, depV, depM, depS, cellAt, elemAt, initA, Nat.reduceAdd, Nat.reduceLeDiff, Nat.reduceEqDiff, reduceIte, reduceCtorEq, Nat.reduceLT, Nat.reduceMul, Nat.reduceSub, Int.reduceAdd, Int.reduceSub, Int.reduceMul, Int.reduceLT, Int.reduceLE, Int.reduceEq, Int.reduceNe, Int.reduceNeg, Int.reduceToNat, hd, f7]
        refine (tvar_ok a).use ?_
        simp only [runs, e_onS, AH.set_same, AH.set_set, List.map_cons, List.map_nil, List.length_cons, List.length_nil, List.drop_zero, List.drop_succ_cons, List.take_succ_cons, List.take_zero, List.take_nil, List.nil_append, List.cons_append, List.append_nil, List.all_cons, List.all_nil, Nat.zero_add, Nat.add_zero, ite_true, ite_false, if_true, if_false, ne_eq, not_false_eq_true, not_true_eq_false, and_true, true_and, and_self, Bool.and_true, Bool.true_and, Bool.not_true, Bool.not_false, List.getElem?_cons_zero, List.getElem?_cons_succ, Option.isSome_some, beq_self_eq_true, implies_true, forall_const, Nat.le_refl, Option.some.injEq, Option.getD_some, Option.getD_none, List.getElem?_nil, e_Lpn, e_Lpe, e_Lpr, decide_true, decide_false, Int.natCast_nonneg, Int.toNat_natCast, Int.toNat_zero, lt_irr, imp_self, false_implies, big_eq, pevA, takeA, putA, fillA, chunkA, zerosL, binA, binI, binS, isNilA, lookA, bndA, depA, depV, depM, depS, cellAt, elemAt, initA, Nat.reduceAdd, Nat.reduceLeDiff, Nat.reduceEqDiff, reduceIte, reduceCtorEq, Nat.reduceLT, Nat.reduceMul, Nat.reduceSub, Int.reduceAdd, Int.reduceSub, Int.reduceMul, Int.reduceLT, Int.reduceLE, Int.reduceEq, Int.reduceNe, Int.reduceNeg, Int.reduceToNat, tyC]
        refine WO.append (i := 0) hT rfl rfl rfl trivial (by decide) ?_ ?_ ?_ ?_ ?_ fun tag' t' hT' => ?_
        · simp
        · simp [oneA]
        · simp
        · intro _; simp [capOk, prCs_len, renN_len]; simp at hf; omega
        · simp [big_eq, prCs_len, renN_len]; simp at hf; omega
        simp only [wrapS hu hB, runs, e_onS, AH.set_same, AH.set_set, List.map_cons, List.map_nil, List.length_cons, List.length_nil, List.drop_zero, List.drop_succ_cons, List.take_succ_cons, List.take_zero, List.take_nil, List.nil_append, List.cons_append, List.append_nil, List.all_cons, List.all_nil, Nat.zero_add, Nat.add_zero, ite_true, ite_false, if_true, if_false, ne_eq, not_false_eq_true, not_true_eq_false, and_true, true_and, and_self, Bool.and_true, Bool.true_and, Bool.not_true, Bool.not_false, List.getElem?_cons_zero, List.getElem?_cons_succ, Option.isSome_some, beq_self_eq_true, implies_true, forall_const, Nat.le_refl, Option.some.injEq, Option.getD_some, Option.getD_none, List.getElem?_nil, e_Lpn, e_Lpe, e_Lpr, decide_true, decide_false, Int.natCast_nonneg, Int.toNat_natCast, Int.toNat_zero, lt_irr, imp_self, false_implies, big_eq, pevA, takeA, putA, fillA, chunkA, zerosL, binA, binI, binS, isNilA, lookA, bndA, depA, depV, depM, depS, cellAt, elemAt, initA, Nat.reduceAdd, Nat.reduceLeDiff, Nat.reduceEqDiff, reduceIte, reduceCtorEq, Nat.reduceLT, Nat.reduceMul, Nat.reduceSub, Int.reduceAdd, Int.reduceSub, Int.reduceMul, Int.reduceLT, Int.reduceLE, Int.reduceEq, Int.reduceNe, Int.reduceNeg, Int.reduceToNat, f13]
        refine ⟨(done ++ [a], rest), by simp, by simp, f2, f3, f6, f11, f12, by simp [upd], 44, tag', t', fun _ => rfl, hT', ?_, rfl⟩
        simp only [e_upd, reduceIte, Nat.reduceEqDiff, renN_app, prCs_app, Nat.zero_add, hto]
        rfl
      | some nx =>
        have hd : decide ((done.length : Int) < (to.length : Nat)) = true := by
          have := (List.getElem?_eq_some_iff.1 hto).1; simp; omega
        simp only [runs, e_onS, AH.set_same, AH.set_set, List.map_cons, List.map_nil, List.length_cons, List.length_nil, List.drop_zero, List.drop_succ_cons, List.take_succ_cons, List.take_zero, List.take_nil, List.nil_append, List.cons_append, List.append_nil, List.all_cons, List.all_nil, Nat.zero_add, Nat.add_zero, ite_true, ite_false, if_true, if_false, ne_eq, not_false_eq_true, not_true_eq_false, and_true, true_and, and_self, Bool.and_true, Bool.true_and, Bool.not_true, Bool.not_false, List.getElem?_cons_zero, List.getElem?_cons_succ, Option.isSome_some, beq_self_eq_true, implies_true, forall_const, Nat.le_refl, Option.some.injEq, Option.getD_some, Option.getD_none, List.getElem?_nil, e_Lpn, e_Lpe, e_Lpr, decide_true, decide_false, Int.natCast_nonneg, Int.toNat_natCast, Int.toNat_zero, lt_irr, imp_self, false_implies, big_eq, pevA, takeA, putA, fillA, chunkA, zerosL, binA, binI, binS, isNilA, lookA, bndA, depA, depV, depM, depS, cellAt, elemAt, initA, Nat.reduceAdd, Nat.reduceLeDiff, Nat.reduceEqDiff, reduceIte, reduceCtorEq, Nat.reduceLT, Nat.reduceMul, Nat.reduceSub, Int.reduceAdd, Int.reduceSub, Int.reduceMul, Int.reduceLT, Int.reduceLE, Int.reduceEq, Int.reduceNe, Int.reduceNeg, Int.reduceToNat, hd, f7, f2, strC_get, hto, Option.map_some]
        refine (tvar_ok nx).use ?_
        simp only [runs, e_onS, AH.set_same, AH.set_set, List.map_cons, List.map_nil, List.length_cons, List.length_nil, List.drop_zero, List.drop_succ_cons, List.take_succ_cons, List.take_zero, List.take_nil, List.nil_append, List.cons_append, List.append_nil, List.all_cons, List.all_nil, Nat.zero_add, Nat.add_zero, ite_true, ite_false, if_true, if_false, ne_eq, not_false_eq_true, not_true_eq_false, and_true, true_and, and_self, Bool.and_true, Bool.true_and, Bool.not_true, Bool.not_false, List.getElem?_cons_zero, List.getElem?_cons_succ, Option.isSome_some, beq_self_eq_true, implies_true, forall_const, Nat.le_refl, Option.some.injEq, Option.getD_some, Option.getD_none, List.getElem?_nil, e_Lpn, e_Lpe, e_Lpr, decide_true, decide_false, Int.natCast_nonneg, Int.toNat_natCast, Int.toNat_zero, lt_irr, imp_self, false_implies, big_eq, pevA, takeA, putA, fillA, chunkA, zerosL, binA, binI, binS, isNilA, lookA, bndA, depA, depV, depM, depS, cellAt, elemAt, initA, Nat.reduceAdd, Nat.reduceLeDiff, Nat.reduceEqDiff, reduceIte, reduceCtorEq, Nat.reduceLT, Nat.reduceMul, Nat.reduceSub, Int.reduceAdd, Int.reduceSub, Int.reduceMul, Int.reduceLT, Int.reduceLE, Int.reduceEq, Int.reduceNe, Int.reduceNeg, Int.reduceToNat, tyC]
        refine WO.append (i := 0) hT rfl rfl rfl trivial (by decide) ?_ ?_ ?_ ?_ ?_ fun tag' t' hT' => ?_
        · simp
        · simp [oneA]
        · simp
        · intro _; simp [capOk, prCs_len, renN_len]; simp at hf; omega
        · simp [big_eq, prCs_len, renN_len]; simp at hf; omega
        simp only [wrapS hu hB, runs, e_onS, AH.set_same, AH.set_set, List.map_cons, List.map_nil, List.length_cons, List.length_nil, List.drop_zero, List.drop_succ_cons, List.take_succ_cons, List.take_zero, List.take_nil, List.nil_append, List.cons_append, List.append_nil, List.all_cons, List.all_nil, Nat.zero_add, Nat.add_zero, ite_true, ite_false, if_true, if_false, ne_eq, not_false_eq_true, not_true_eq_false, and_true, true_and, and_self, Bool.and_true, Bool.true_and, Bool.not_true, Bool.not_false, List.getElem?_cons_zero, List.getElem?_cons_succ, Option.isSome_some, beq_self_eq_true, implies_true, forall_const, Nat.le_refl, Option.some.injEq, Option.getD_some, Option.getD_none, List.getElem?_nil, e_Lpn, e_Lpe, e_Lpr, decide_true, decide_false, Int.natCast_nonneg, Int.toNat_natCast, Int.toNat_zero, lt_irr, imp_self, false_implies, big_eq, pevA, takeA, putA, fillA, chunkA, zerosL, binA, binI, binS, isNilA, lookA, bndA, depA, depV, depM, depS, cellAt, elemAt, initA, Nat.reduceAdd, Nat.reduceLeDiff, Nat.reduceEqDiff, reduceIte, reduceCtorEq, Nat.reduceLT, Nat.reduceMul, Nat.reduceSub, Int.reduceAdd, Int.reduceSub, Int.reduceMul, Int.reduceLT, Int.reduceLE, Int.reduceEq, Int.reduceNe, Int.reduceNeg, Int.reduceToNat, f13]
        refine ⟨(done ++ [a], rest), by simp, by simp, f2, f3, f6, f11, f12, by simp [upd], 44, tag', t', fun _ => rfl, hT', ?_, rfl⟩
        simp only [e_upd, reduceIte, Nat.reduceEqDiff, renN_app, prCs_app, Nat.zero_add, hto]
        rfl
end Go.Proofs.Ytdepohnidjndjaa.p
