/- types in variables' places -/
import Derived.Test.YtdepohnidjndjaaSbS2
namespace Go.Proofs.Ytdepohnidjndjaa.p
open Go.Proofs Go Go.Cn code
set_option linter.unusedSimpArgs false
set_option linter.unusedVariables false

abbrev Sb := List (List UInt8 × PT)
def sbC (l : Sb) : List (AV × AV) := l.map fun p => (.str p.1, .agg (tyC p.2))
def lk : Sb → List UInt8 → Option PT
  | [], _ => none
  | (k, t) :: l, n => if n = k then some t else lk l n
def pt (n : List UInt8) (t : PT) : Sb → Sb
  | [] => [(n, t)]
  | (k, u) :: l => if n = k then (n, t) :: l else (k, u) :: pt n t l
theorem lk_pt (n m : List UInt8) (t : PT) : ∀ l, lk (pt n t l) m = if m = n then some t else lk l m
  | [] => by simp [pt, lk]
  | (k, u) :: l => by
    simp only [pt]
    split
    · rename_i e; subst e
      simp only [lk]
      split <;> simp_all
    · rename_i e
      simp only [lk, lk_pt n m t l]
      split
      · rename_i e2; subst e2
        rw [if_neg (fun h => e h.symm)]
      · rfl
theorem look_sb (n : List UInt8) : ∀ l, lookA (.str n) (sbC l) = some ((lk l n).map fun t => .agg (tyC t))
  | [] => rfl
  | (k, u) :: l => by
    show (match keyEqA (.str n) (.str k) with | some true => _ | some false => _ | none => _) = _
    simp only [keyEqA, lk]
    by_cases e : n = k
    · simp [e]
    · simp only [e, decide_false, if_false]; exact look_sb n l
theorem put_sb (n : List UInt8) (t : PT) : ∀ l, mputA (.str n) (.agg (tyC t)) (sbC l) = some (sbC (pt n t l))
  | [] => rfl
  | (k, u) :: l => by
    show (match keyEqA (.str n) (.str k) with | some true => _ | some false => _ | none => _) = _
    simp only [keyEqA, pt]
    by_cases e : n = k
    · simp [e, sbC]
    · simp only [e, decide_false, if_false]
      have := put_sb n t l
      show (match mputA (.str n) (.agg (tyC t)) (sbC l) with | some r => _ | none => _) = _
      rw [this]; rfl

def PT.kind : PT → Int | .mk k _ _ => k
def PT.name : PT → List UInt8 | .mk _ n _ => n
def PT.args : PT → List PT | .mk _ _ a => a
/-- Is it this variable? -/
def isV (t : PT) (n : List UInt8) : Bool := decide (t.kind = 1) && decide (t.name = n)
def put1 (n : List UInt8) (t : PT) (l : Sb) : Sb := if isV t n then l else pt n t l

theorem put_ok (n : List UInt8) (t : PT) (ht : PTOk t) (l : Sb) (K : Nat → Prop) (h : AH) (b : Nat) (hb : h.objs b = some (.map (sbC l))) (hk : ¬ K b) :
    ACall T K (.func 28) [.agg [.map b], .str n, .agg (tyC t)] h fun v h' => h' = h.set b (.map (sbC (put1 n t l))) := by
  refine ACall.retQ t28 fun hK => ?_
  have hsame : h.set b (.map (sbC l)) = h := by
    obtain ⟨o, tk⟩ := h
    unfold AH.set; congr 1; funext m; simp only [upd]; split
    · rename_i e; rw [e]; exact hb.symm
    · rfl
  have key : KOk K h ∧ ∀ (hput : isV t n = false), True := ⟨hK, fun _ => trivial⟩
  obtain ⟨k, m, args⟩ := t
  by_cases h1 : k = 1
  · by_cases h2 : m = n
    · have hv : put1 n (.mk k m args) l = l := by simp [put1, isV, PT.kind, PT.name, h1, h2]
      rw [hv]
      simp only [u_C c28.eq_1, tyC, runs, e_onS, AH.set_same, AH.set_set, List.map_cons, List.map_nil, List.length_cons, List.length_nil, List.drop_zero, List.drop_succ_cons, List.take_succ_cons, List.take_zero, List.take_nil, List.nil_append, List.cons_append, List.append_nil, List.all_cons, List.all_nil, Nat.zero_add, Nat.add_zero, ite_true, ite_false, if_true, if_false, ne_eq, not_false_eq_true, not_true_eq_false, and_true, true_and, and_self, Bool.and_true, Bool.true_and, Bool.not_true, Bool.not_false, List.getElem?_cons_zero, List.getElem?_cons_succ, Option.isSome_some, beq_self_eq_true, implies_true, forall_const, Nat.le_refl, Option.some.injEq, Option.getD_some, Option.getD_none, List.getElem?_nil, e_Lpn, e_Lpe, e_Lpr, decide_true, decide_false, Int.natCast_nonneg, Int.toNat_natCast, Int.toNat_zero, lt_irr, imp_self, false_implies, big_eq, pevA, takeA, putA, fillA, chunkA, zerosL, binA, binI, binS, isNilA, lookA, bndA, depA, depV, depM, depS, cellAt, elemAt, initA, Nat.reduceAdd, Nat.reduceLeDiff, Nat.reduceEqDiff, reduceIte, reduceCtorEq, Nat.reduceLT, Nat.reduceMul, Nat.reduceSub, Int.reduceAdd, Int.reduceSub, Int.reduceMul, Int.reduceLT, Int.reduceLE, Int.reduceEq, Int.reduceNe, Int.reduceNeg, Int.reduceToNat, h1, h2]
      exact ⟨_, _, .refl _ _, hK, hsame.symm⟩
    · have hv : put1 n (.mk k m args) l = pt n (.mk k m args) l := by simp [put1, isV, PT.kind, PT.name, h1, h2]
      rw [hv]
      simp only [u_C c28.eq_1, e_dregion d28_0, u_L s28_0.eq_1, u_T g28_0.eq_1, tyC, runs, e_onS, AH.set_same, AH.set_set, List.map_cons, List.map_nil, List.length_cons, List.length_nil, List.drop_zero, List.drop_succ_cons, List.take_succ_cons, List.take_zero, List.take_nil, List.nil_append, List.cons_append, List.append_nil, List.all_cons, List.all_nil, Nat.zero_add, Nat.add_zero, ite_true, ite_false, if_true, if_false, ne_eq, not_false_eq_true, not_true_eq_false, and_true, true_and, and_self, Bool.and_true, Bool.true_and, Bool.not_true, Bool.not_false, List.getElem?_cons_zero, List.getElem?_cons_succ, Option.isSome_some, beq_self_eq_true, implies_true, forall_const, Nat.le_refl, Option.some.injEq, Option.getD_some, Option.getD_none, List.getElem?_nil, e_Lpn, e_Lpe, e_Lpr, decide_true, decide_false, Int.natCast_nonneg, Int.toNat_natCast, Int.toNat_zero, lt_irr, imp_self, false_implies, big_eq, pevA, takeA, putA, fillA, chunkA, zerosL, binA, binI, binS, isNilA, lookA, bndA, depA, depV, depM, depS, cellAt, elemAt, initA, Nat.reduceAdd, Nat.reduceLeDiff, Nat.reduceEqDiff, reduceIte, reduceCtorEq, Nat.reduceLT, Nat.reduceMul, Nat.reduceSub, Int.reduceAdd, Int.reduceSub, Int.reduceMul, Int.reduceLT, Int.reduceLE, Int.reduceEq, Int.reduceNe, Int.reduceNeg, Int.reduceToNat, h1, h2]
      subst h1
      refine (clone_ok (.mk 1 m args) ht).use ?_
      simp only [runs, e_onS, AH.set_same, AH.set_set, List.map_cons, List.map_nil, List.length_cons, List.length_nil, List.drop_zero, List.drop_succ_cons, List.take_succ_cons, List.take_zero, List.take_nil, List.nil_append, List.cons_append, List.append_nil, List.all_cons, List.all_nil, Nat.zero_add, Nat.add_zero, ite_true, ite_false, if_true, if_false, ne_eq, not_false_eq_true, not_true_eq_false, and_true, true_and, and_self, Bool.and_true, Bool.true_and, Bool.not_true, Bool.not_false, List.getElem?_cons_zero, List.getElem?_cons_succ, Option.isSome_some, beq_self_eq_true, implies_true, forall_const, Nat.le_refl, Option.some.injEq, Option.getD_some, Option.getD_none, List.getElem?_nil, e_Lpn, e_Lpe, e_Lpr, decide_true, decide_false, Int.natCast_nonneg, Int.toNat_natCast, Int.toNat_zero, lt_irr, imp_self, false_implies, big_eq, pevA, takeA, putA, fillA, chunkA, zerosL, binA, binI, binS, isNilA, lookA, bndA, depA, depV, depM, depS, cellAt, elemAt, initA, Nat.reduceAdd, Nat.reduceLeDiff, Nat.reduceEqDiff, reduceIte, reduceCtorEq, Nat.reduceLT, Nat.reduceMul, Nat.reduceSub, Int.reduceAdd, Int.reduceSub, Int.reduceMul, Int.reduceLT, Int.reduceLE, Int.reduceEq, Int.reduceNe, Int.reduceNeg, Int.reduceToNat, hb, hk, put_sb]
      exact ⟨_, _, .refl _ _, hK.set _ _, rfl⟩
  · have hv : put1 n (.mk k m args) l = pt n (.mk k m args) l := by simp [put1, isV, PT.kind, PT.name, h1]
    rw [hv]
    simp only [u_C c28.eq_1, e_dregion d28_0, u_L s28_0.eq_1, u_T g28_0.eq_1, tyC, runs, e_onS, AH.set_same, AH.set_set, List.map_cons, List.map_nil, List.length_cons, List.length_nil, List.drop_zero, List.drop_succ_cons, List.take_succ_cons, List.take_zero, List.take_nil, List.nil_append, List.cons_append, List.append_nil, List.all_cons, List.all_nil, Nat.zero_add, Nat.add_zero, ite_true, ite_false, if_true, if_false, ne_eq, not_false_eq_true, not_true_eq_false, and_true, true_and, and_self, Bool.and_true, Bool.true_and, Bool.not_true, Bool.not_false, List.getElem?_cons_zero, List.getElem?_cons_succ, Option.isSome_some, beq_self_eq_true, implies_true, forall_const, Nat.le_refl, Option.some.injEq, Option.getD_some, Option.getD_none, List.getElem?_nil, e_Lpn, e_Lpe, e_Lpr, decide_true, decide_false, Int.natCast_nonneg, Int.toNat_natCast, Int.toNat_zero, lt_irr, imp_self, false_implies, big_eq, pevA, takeA, putA, fillA, chunkA, zerosL, binA, binI, binS, isNilA, lookA, bndA, depA, depV, depM, depS, cellAt, elemAt, initA, Nat.reduceAdd, Nat.reduceLeDiff, Nat.reduceEqDiff, reduceIte, reduceCtorEq, Nat.reduceLT, Nat.reduceMul, Nat.reduceSub, Int.reduceAdd, Int.reduceSub, Int.reduceMul, Int.reduceLT, Int.reduceLE, Int.reduceEq, Int.reduceNe, Int.reduceNeg, Int.reduceToNat, h1]
    refine (clone_ok (.mk k m args) ht).use ?_
    simp only [runs, e_onS, AH.set_same, AH.set_set, List.map_cons, List.map_nil, List.length_cons, List.length_nil, List.drop_zero, List.drop_succ_cons, List.take_succ_cons, List.take_zero, List.take_nil, List.nil_append, List.cons_append, List.append_nil, List.all_cons, List.all_nil, Nat.zero_add, Nat.add_zero, ite_true, ite_false, if_true, if_false, ne_eq, not_false_eq_true, not_true_eq_false, and_true, true_and, and_self, Bool.and_true, Bool.true_and, Bool.not_true, Bool.not_false, List.getElem?_cons_zero, List.getElem?_cons_succ, Option.isSome_some, beq_self_eq_true, implies_true, forall_const, Nat.le_refl, Option.some.injEq, Option.getD_some, Option.getD_none, List.getElem?_nil, e_Lpn, e_Lpe, e_Lpr, decide_true, decide_false, Int.natCast_nonneg, Int.toNat_natCast, Int.toNat_zero, lt_irr, imp_self, false_implies, big_eq, pevA, takeA, putA, fillA, chunkA, zerosL, binA, binI, binS, isNilA, lookA, bndA, depA, depV, depM, depS, cellAt, elemAt, initA, Nat.reduceAdd, Nat.reduceLeDiff, Nat.reduceEqDiff, reduceIte, reduceCtorEq, Nat.reduceLT, Nat.reduceMul, Nat.reduceSub, Int.reduceAdd, Int.reduceSub, Int.reduceMul, Int.reduceLT, Int.reduceLE, Int.reduceEq, Int.reduceNe, Int.reduceNeg, Int.reduceToNat, hb, hk, put_sb]
    exact ⟨_, _, .refl _ _, hK.set _ _, rfl⟩
end Go.Proofs.Ytdepohnidjndjaa.p
