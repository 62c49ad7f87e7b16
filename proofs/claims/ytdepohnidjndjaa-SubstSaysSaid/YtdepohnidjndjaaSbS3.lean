/- types in variables' places -/
import Derived.Test.YtdepohnidjndjaaSbPT
namespace Go.Proofs.Ytdepohnidjndjaa.p
open Go.Proofs Go Go.Cn code
set_option linter.unusedSimpArgs false
set_option linter.unusedVariables false

abbrev Sb := List (List UInt8 × PT)
def sbC (l : Sb) : List (AV × AV) := l.map fun p => (.str p.1, .agg (tyC p.2))
def lk : Sb → List UInt8 → Option PT
  | [], _ => none
  | (k, t) :: l, n => if n = k then some t else lk l n
def pt (n : List UInt8) (t : PT) : Sb → Sb
  | [] => [(n, t)]
  | (k, u) :: l => if n = k then (n, t) :: l else (k, u) :: pt n t l
theorem lk_pt (n m : List UInt8) (t : PT) : ∀ l, lk (pt n t l) m = if m = n then some t else lk l m
  | [] => by simp [pt, lk]
  | (k, u) :: l => by
    simp only [pt]
    split
    · rename_i e; subst e
      simp only [lk]
      split <;> simp_all
    · rename_i e
      simp only [lk, lk_pt n m t l]
      split
      · rename_i e2; subst e2
        rw [if_neg (fun h => e h.symm)]
      · rfl
theorem look_sb (n : List UInt8) : ∀ l, lookA (.str n) (sbC l) = some ((lk l n).map fun t => .agg (tyC t))
  | [] => rfl
  | (k, u) :: l => by
    show (match keyEqA (.str n) (.str k) with | some true => _ | some false => _ | none => _) = _
    simp only [keyEqA, lk]
    by_cases e : n = k
    · simp [e]
    · simp only [e, decide_false, if_false]; exact look_sb n l
theorem put_sb (n : List UInt8) (t : PT) : ∀ l, mputA (.str n) (.agg (tyC t)) (sbC l) = some (sbC (pt n t l))
  | [] => rfl
  | (k, u) :: l => by
    show (match keyEqA (.str n) (.str k) with | some true => _ | some false => _ | none => _) = _
    simp only [keyEqA, pt]
    by_cases e : n = k
    · simp [e, sbC]
    · simp only [e, decide_false, if_false]
      have := put_sb n t l
      show (match mputA (.str n) (.agg (tyC t)) (sbC l) with | some r => _ | none => _) = _
      rw [this]; rfl

def PT.kind : PT → Int | .mk k _ _ => k
def PT.name : PT → List UInt8 | .mk _ n _ => n
def PT.args : PT → List PT | .mk _ _ a => a
/-- Is it this variable? -/
def isV (t : PT) (n : List UInt8) : Bool := decide (t.kind = 1) && decide (t.name = n)
def put1 (n : List UInt8) (t : PT) (l : Sb) : Sb := if isV t n then l else pt n t l

theorem put_ok (n : List UInt8) (t : PT) (ht : PTOk t) (l : Sb) (K : Nat → Prop) (h : AH) (b : Nat) (hb : h.objs b = some (.map (sbC l))) (hk : ¬ K b) :
    ACall T K (.func 28) [.agg [.map b], .str n, .agg (tyC t)] h fun v h' => h' = h.set b (.map (sbC (put1 n t l))) := by
  refine ACall.retQ t28 fun hK => ?_
  have hsame : h.set b (.map (sbC l)) = h := by
    obtain ⟨o, tk⟩ := h
    unfold AH.set; congr 1; funext m; simp only [upd]; split
    · rename_i e; rw [e]; exact hb.symm
    · rfl
  have key : KOk K h ∧ ∀ (hput : isV t n = false), True := ⟨hK, fun _ => trivial⟩
  obtain ⟨k, m, args⟩ := t
  by_cases h1 : k = 1
  · by_cases h2 : m = n
    · have hv : put1 n (.mk k m args) l = l := by simp [put1, isV, PT.kind, PT.name, h1, h2]
      rw [hv]
      simp only [u_C c28.eq_1, tyC, runs, e_onS, AH.set_same, AH.set_set, List.map_cons, List.map_nil, List.length_cons, List.length_nil, List.drop_zero, List.drop_succ_cons, List.take_succ_cons, List.take_zero, List.take_nil, List.nil_append, List.cons_append, List.append_nil, List.all_cons, List.all_nil, Nat.zero_add, Nat.add_zero, ite_true, ite_false, if_true, if_false, ne_eq, not_false_eq_true, not_true_eq_false, and_true, true_and, and_self, Bool.and_true, Bool.true_and, Bool.not_true, Bool.not_false, List.getElem?_cons_zero, List.getElem?_cons_succ, Option.isSome_some, beq_self_eq_true, implies_true, forall_const, Nat.le_refl, Option.some.injEq, Option.getD_some, Option.getD_none, List.getElem?_nil, e_Lpn, e_Lpe, e_Lpr, decide_true, decide_false, Int.natCast_nonneg, Int.toNat_natCast, Int.toNat_zero, lt_irr, imp_self, false_implies, big_eq, pevA, takeA, putA, fillA, chunkA, zerosL, binA, binI, binS, isNilA, lookA, bndA, depA, depV, depM, depS, cellAt, elemAt, initA, Nat.reduceAdd, Nat.reduceLeDiff, Nat.reduceEqDiff, reduceIte, reduceCtorEq, Nat.reduceLT, Nat.reduceMul, Nat.reduceSub, Int.reduceAdd, Int.reduceSub, Int.reduceMul, Int.reduceLT, Int.reduceLE, Int.reduceEq, Int.reduceNe, Int.reduceNeg, Int.reduceToNat, h1, h2]
      exact ⟨_, _, .refl _ _, hK, hsame.symm⟩
    · have hv : put1 n (.mk k m args) l = pt n (.mk k m args) l := by simp [put1, isV, PT.kind, PT.name, h1, h2]
      rw [hv]
      simp only [u_C c28.eq_1, e_dregion d28_0, u_L s28_0.eq_1, u_T g28_0.eq_1, tyC, runs, e_onS, AH.set_same, AH.set_set, List.map_cons, List.map_nil, List.length_cons, List.length_nil, List.drop_zero, List.drop_succ_cons, List.take_succ_cons, List.take_zero, List.take_nil, List.nil_append, List.cons_append, List.append_nil, List.all_cons, List.all_nil, Nat.zero_add, Nat.add_zero, ite_true, ite_false, if_true, if_false, ne_eq, not_false_eq_true, not_true_eq_false, and_true, true_and, and_self, Bool.and_true, Bool.true_and, Bool.not_true, Bool.not_false, List.getElem?_cons_zero, List.getElem?_cons_succ, Option.isSome_some, beq_self_eq_true, implies_true, forall_const, Nat.le_refl, Option.some.injEq, Option.getD_some, Option.getD_none, List.getElem?_nil, e_Lpn, e_Lpe, e_Lpr, decide_true, decide_false, Int.natCast_nonneg, Int.toNat_natCast, Int.toNat_zero, lt_irr, imp_self, false_implies, big_eq, pevA, takeA, putA, fillA, chunkA, zerosL, binA, binI, binS, isNilA, lookA, bndA, depA, depV, depM, depS, cellAt, elemAt, initA, Nat.reduceAdd, Nat.reduceLeDiff, Nat.reduceEqDiff, reduceIte, reduceCtorEq, Nat.reduceLT, Nat.reduceMul, Nat.reduceSub, Int.reduceAdd, Int.reduceSub, Int.reduceMul, Int.reduceLT, Int.reduceLE, Int.reduceEq, Int.reduceNe, Int.reduceNeg, Int.reduceToNat, h1, h2]
      subst h1
      refine (clone_ok (.mk 1 m args) ht).use ?_
      simp only [runs, e_onS, AH.set_same, AH.set_set, List.map_cons, List.map_nil, List.length_cons, List.length_nil, List.drop_zero, List.drop_succ_cons, List.take_succ_cons, List.take_zero, List.take_nil, List.nil_append, List.cons_append, List.append_nil, List.all_cons, List.all_nil, Nat.zero_add, Nat.add_zero, ite_true, ite_false, if_true, if_false, ne_eq, not_false_eq_true, not_true_eq_false, and_true, true_and, and_self, Bool.and_true, Bool.true_and, Bool.not_true, Bool.not_false, List.getElem?_cons_zero, List.getElem?_cons_succ, Option.isSome_some, beq_self_eq_true, implies_true, forall_const, Nat.le_refl, Option.some.injEq, Option.getD_some, Option.getD_none, List.getElem?_nil, e_Lpn, e_Lpe, e_Lpr, decide_true, decide_false, Int.natCast_nonneg, Int.toNat_natCast, Int.toNat_zero, lt_irr, imp_self, false_implies, big_eq, pevA, takeA, putA, fillA, chunkA, zerosL, binA, binI, binS, isNilA, lookA, bndA, depA, depV, depM, depS, cellAt, elemAt, initA, Nat.reduceAdd, Nat.reduceLeDiff, Nat.reduceEqDiff, reduceIte, reduceCtorEq, Nat.reduceLT, Nat.reduceMul, Nat.reduceSub, Int.reduceAdd, Int.reduceSub, Int.reduceMul, Int.reduceLT, Int.reduceLE, Int.reduceEq, Int.reduceNe, Int.reduceNeg, Int.reduceToNat, hb, hk, put_sb]
      exact ⟨_, _, .refl _ _, hK.set _ _, rfl⟩
  · have hv : put1 n (.mk k m args) l = pt n (.mk k m args) l := by simp [put1, isV, PT.kind, PT.name, h1]
    rw [hv]
    simp only [u_C c28.eq_1, e_dregion d28_0, u_L s28_0.eq_1, u_T g28_0.eq_1, tyC, runs, e_onS, AH.set_same, AH.set_set, List.map_cons, List.map_nil, List.length_cons, List.length_nil, List.drop_zero, List.drop_succ_cons, List.take_succ_cons, List.take_zero, List.take_nil, List.nil_append, List.cons_append, List.append_nil, List.all_cons, List.all_nil, Nat.zero_add, Nat.add_zero, ite_true, ite_false, if_true, if_false, ne_eq, not_false_eq_true, not_true_eq_false, and_true, true_and, and_self, Bool.and_true, Bool.true_and, Bool.not_true, Bool.not_false, List.getElem?_cons_zero, List.getElem?_cons_succ, Option.isSome_some, beq_self_eq_true, implies_true, forall_const, Nat.le_refl, Option.some.injEq, Option.getD_some, Option.getD_none, List.getElem?_nil, e_Lpn, e_Lpe, e_Lpr, decide_true, decide_false, Int.natCast_nonneg, Int.toNat_natCast, Int.toNat_zero, lt_irr, imp_self, false_implies, big_eq, pevA, takeA, putA, fillA, chunkA, zerosL, binA, binI, binS, isNilA, lookA, bndA, depA, depV, depM, depS, cellAt, elemAt, initA, Nat.reduceAdd, Nat.reduceLeDiff, Nat.reduceEqDiff, reduceIte, reduceCtorEq, Nat.reduceLT, Nat.reduceMul, Nat.reduceSub, Int.reduceAdd, Int.reduceSub, Int.reduceMul, Int.reduceLT, Int.reduceLE, Int.reduceEq, Int.reduceNe, Int.reduceNeg, Int.reduceToNat, h1]
    refine (clone_ok (.mk k m args) ht).use ?_
    simp only [runs, e_onS, AH.set_same, AH.set_set, List.map_cons, List.map_nil, List.length_cons, List.length_nil, List.drop_zero, List.drop_succ_cons, List.take_succ_cons, List.take_zero, List.take_nil, List.nil_append, List.cons_append, List.append_nil, List.all_cons, List.all_nil, Nat.zero_add, Nat.add_zero, ite_true, ite_false, if_true, if_false, ne_eq, not_false_eq_true, not_true_eq_false, and_true, true_and, and_self, Bool.and_true, Bool.true_and, Bool.not_true, Bool.not_false, List.getElem?_cons_zero, List.getElem?_cons_succ, Option.isSome_some, beq_self_eq_true, implies_true, forall_const, Nat.le_refl, Option.some.injEq, Option.getD_some, Option.getD_none, List.getElem?_nil, e_Lpn, e_Lpe, e_Lpr, decide_true, decide_false, Int.natCast_nonneg, Int.toNat_natCast, Int.toNat_zero, lt_irr, imp_self, false_implies, big_eq, pevA, takeA, putA, fillA, chunkA, zerosL, binA, binI, binS, isNilA, lookA, bndA, depA, depV, depM, depS, cellAt, elemAt, initA, Nat.reduceAdd, Nat.reduceLeDiff, Nat.reduceEqDiff, reduceIte, reduceCtorEq, Nat.reduceLT, Nat.reduceMul, Nat.reduceSub, Int.reduceAdd, Int.reduceSub, Int.reduceMul, Int.reduceLT, Int.reduceLE, Int.reduceEq, Int.reduceNe, Int.reduceNeg, Int.reduceToNat, hb, hk, put_sb]
    exact ⟨_, _, .refl _ _, hK.set _ _, rfl⟩
end Go.Proofs.Ytdepohnidjndjaa.p

namespace Go.Proofs.Ytdepohnidjndjaa.p
open Go.Proofs Go Go.Cn code
set_option linter.unusedSimpArgs false
set_option linter.unusedVariables false

def prC (p : List UInt8 × PT) : List AV := .str p.1 :: tyC p.2
def prCs (l : Sb) : List (List AV) := l.map prC
theorem prC_len (p : List UInt8 × PT) : (prC p).length = 4 := by simp [prC, tyC_len]
theorem prC_ne (p : List UInt8 × PT) : prC p ≠ [] := by simp [prC]
theorem prC_one (p : List UInt8 × PT) : (prC p).all oneA = true := by simp [prC, tyC_one, oneA]
theorem prC_take (p : List UInt8 × PT) : (prC p).take 4 = prC p := by rw [← prC_len p, List.take_length]
theorem prC_drop (p : List UInt8 × PT) : (prC p).drop 4 = [] := by rw [← prC_len p, List.drop_length]
theorem prC_0 (p : List UInt8 × PT) : (prC p)[0]? = some (.str p.1) := rfl
theorem prC_1 (p : List UInt8 × PT) : (prC p).drop 1 = tyC p.2 := rfl
theorem prCs_get {l m : Sb} {a : List UInt8 × PT} : (prCs (l ++ a :: m))[l.length]? = some (prC a) := by
  rw [prCs, List.getElem?_map, List.getElem?_append_right (Nat.le_refl _), Nat.sub_self]; rfl
theorem prCs_len (l : Sb) : (prCs l).length = l.length := by rw [prCs, List.length_map]

def seenC (s : List (List UInt8)) : List (AV × AV) := s.map fun n => (.str n, .bool true)
theorem look_seen (n : List UInt8) : ∀ s, lookA (.str n) (seenC s) = some (if n ∈ s then some (.bool true) else none)
  | [] => rfl
  | k :: l => by
    show (match keyEqA (.str n) (.str k) with | some true => _ | some false => _ | none => _) = _
    simp only [keyEqA]
    by_cases e : n = k
    · simp [e]
    · simp only [e, decide_false, List.mem_cons, false_or]; exact look_seen n l
theorem put_seen (n : List UInt8) : ∀ s, n ∉ s → mputA (.str n) (.bool true) (seenC s) = some (seenC (s ++ [n]))
  | [], _ => rfl
  | k :: l, h => by
    show (match keyEqA (.str n) (.str k) with | some true => _ | some false => _ | none => _) = _
    simp only [List.mem_cons, not_or] at h
    simp only [keyEqA, h.1, decide_false]
    have := put_seen n l h.2
    show (match mputA (.str n) (.bool true) (seenC l) with | some r => _ | none => _) = _
    rw [this]; rfl
def ofStep (x : List (List UInt8) × Sb) (p : List UInt8 × PT) : List (List UInt8) × Sb := if p.1 ∈ x.1 then x else (x.1 ++ [p.1], put1 p.1 p.2 x.2)
def ofS (ps : Sb) : List (List UInt8) × Sb := ps.foldl ofStep ([], [])
theorem ofS_app (a : Sb) (p : List UInt8 × PT) : ofS (a ++ [p]) = ofStep (ofS a) p := by simp [ofS]
/-- what 'Of' makes -/
def ofL (ps : Sb) : Sb := (ofS ps).2

theorem of_ok (ps : Sb) (hp : ∀ p ∈ ps, PTOk p.2) : Pure T 10 [.lst 44 (prCs ps) .no] (.agg [.fmap (sbC (ofL ps))]) := by
  intro K h
  refine ACall.retQ t10 fun hK => ?_
  simp only [u_C c10.eq_1, runs, e_onS, AH.set_same, AH.set_set, List.map_cons, List.map_nil, List.length_cons, List.length_nil, List.drop_zero, List.drop_succ_cons, List.take_succ_cons, List.take_zero, List.take_nil, List.nil_append, List.cons_append, List.append_nil, List.all_cons, List.all_nil, Nat.zero_add, Nat.add_zero, ite_true, ite_false, if_true, if_false, ne_eq, not_false_eq_true, not_true_eq_false, and_true, true_and, and_self, Bool.and_true, Bool.true_and, Bool.not_true, Bool.not_false, List.getElem?_cons_zero, List.getElem?_cons_succ, Option.isSome_some, beq_self_eq_true, implies_true, forall_const, Nat.le_refl, Option.some.injEq, Option.getD_some, Option.getD_none, List.getElem?_nil, e_Lpn, e_Lpe, e_Lpr, decide_true, decide_false, Int.natCast_nonneg, Int.toNat_natCast, Int.toNat_zero, lt_irr, imp_self, false_implies, big_eq, pevA, takeA, putA, fillA, chunkA, zerosL, binA, binI, binS, isNilA, lookA, bndA, depA, depV, depM, depS, cellAt, elemAt, initA, Nat.reduceAdd, Nat.reduceLeDiff, Nat.reduceEqDiff, reduceIte, reduceCtorEq, Nat.reduceLT, Nat.reduceMul, Nat.reduceSub, Int.reduceAdd, Int.reduceSub, Int.reduceMul, Int.reduceLT, Int.reduceLE, Int.reduceEq, Int.reduceNe, Int.reduceNeg, Int.reduceToNat]
  intro b2 hb2 hk2
  simp only [runs, e_onS, AH.set_same, AH.set_set, List.map_cons, List.map_nil, List.length_cons, List.length_nil, List.drop_zero, List.drop_succ_cons, List.take_succ_cons, List.take_zero, List.take_nil, List.nil_append, List.cons_append, List.append_nil, List.all_cons, List.all_nil, Nat.zero_add, Nat.add_zero, ite_true, ite_false, if_true, if_false, ne_eq, not_false_eq_true, not_true_eq_false, and_true, true_and, and_self, Bool.and_true, Bool.true_and, Bool.not_true, Bool.not_false, List.getElem?_cons_zero, List.getElem?_cons_succ, Option.isSome_some, beq_self_eq_true, implies_true, forall_const, Nat.le_refl, Option.some.injEq, Option.getD_some, Option.getD_none, List.getElem?_nil, e_Lpn, e_Lpe, e_Lpr, decide_true, decide_false, Int.natCast_nonneg, Int.toNat_natCast, Int.toNat_zero, lt_irr, imp_self, false_implies, big_eq, pevA, takeA, putA, fillA, chunkA, zerosL, binA, binI, binS, isNilA, lookA, bndA, depA, depV, depM, depS, cellAt, elemAt, initA, Nat.reduceAdd, Nat.reduceLeDiff, Nat.reduceEqDiff, reduceIte, reduceCtorEq, Nat.reduceLT, Nat.reduceMul, Nat.reduceSub, Int.reduceAdd, Int.reduceSub, Int.reduceMul, Int.reduceLT, Int.reduceLE, Int.reduceEq, Int.reduceNe, Int.reduceNeg, Int.reduceToNat]
  intro b3 hb3 hk3
  obtain ⟨n32, hb3⟩ := AH.set_none.1 hb3
  simp only [runs, e_onS, AH.set_same, AH.set_set, List.map_cons, List.map_nil, List.length_cons, List.length_nil, List.drop_zero, List.drop_succ_cons, List.take_succ_cons, List.take_zero, List.take_nil, List.nil_append, List.cons_append, List.append_nil, List.all_cons, List.all_nil, Nat.zero_add, Nat.add_zero, ite_true, ite_false, if_true, if_false, ne_eq, not_false_eq_true, not_true_eq_false, and_true, true_and, and_self, Bool.and_true, Bool.true_and, Bool.not_true, Bool.not_false, List.getElem?_cons_zero, List.getElem?_cons_succ, Option.isSome_some, beq_self_eq_true, implies_true, forall_const, Nat.le_refl, Option.some.injEq, Option.getD_some, Option.getD_none, List.getElem?_nil, e_Lpn, e_Lpe, e_Lpr, decide_true, decide_false, Int.natCast_nonneg, Int.toNat_natCast, Int.toNat_zero, lt_irr, imp_self, false_implies, big_eq, pevA, takeA, putA, fillA, chunkA, zerosL, binA, binI, binS, isNilA, lookA, bndA, depA, depV, depM, depS, cellAt, elemAt, initA, Nat.reduceAdd, Nat.reduceLeDiff, Nat.reduceEqDiff, reduceIte, reduceCtorEq, Nat.reduceLT, Nat.reduceMul, Nat.reduceSub, Int.reduceAdd, Int.reduceSub, Int.reduceMul, Int.reduceLT, Int.reduceLE, Int.reduceEq, Int.reduceNe, Int.reduceNeg, Int.reduceToNat]
  intro b4 hb4 hk4
  obtain ⟨n43, hb4⟩ := AH.set_none.1 hb4
  obtain ⟨n42, hb4⟩ := AH.set_none.1 hb4
  simp only [runs, e_onS, AH.set_same, AH.set_set, List.map_cons, List.map_nil, List.length_cons, List.length_nil, List.drop_zero, List.drop_succ_cons, List.take_succ_cons, List.take_zero, List.take_nil, List.nil_append, List.cons_append, List.append_nil, List.all_cons, List.all_nil, Nat.zero_add, Nat.add_zero, ite_true, ite_false, if_true, if_false, ne_eq, not_false_eq_true, not_true_eq_false, and_true, true_and, and_self, Bool.and_true, Bool.true_and, Bool.not_true, Bool.not_false, List.getElem?_cons_zero, List.getElem?_cons_succ, Option.isSome_some, beq_self_eq_true, implies_true, forall_const, Nat.le_refl, Option.some.injEq, Option.getD_some, Option.getD_none, List.getElem?_nil, e_Lpn, e_Lpe, e_Lpr, decide_true, decide_false, Int.natCast_nonneg, Int.toNat_natCast, Int.toNat_zero, lt_irr, imp_self, false_implies, big_eq, pevA, takeA, putA, fillA, chunkA, zerosL, binA, binI, binS, isNilA, lookA, bndA, depA, depV, depM, depS, cellAt, elemAt, initA, Nat.reduceAdd, Nat.reduceLeDiff, Nat.reduceEqDiff, reduceIte, reduceCtorEq, Nat.reduceLT, Nat.reduceMul, Nat.reduceSub, Int.reduceAdd, Int.reduceSub, Int.reduceMul, Int.reduceLT, Int.reduceLE, Int.reduceEq, Int.reduceNe, Int.reduceNeg, Int.reduceToNat]
  refine W.bound (t := 10) rfl fun hB => ?_
  rw [prCs_len] at hB
  simp only [prCs_len]
  refine aloop (α := Sb × Sb) (fun x fr h1 => ps = x.1 ++ x.2 ∧ fr 10 = .lst 44 (prCs ps) .no ∧ fr 11 = .int .i64 ps.length ∧ fr 12 = .int .i64 x.1.length ∧ fr 2 = .ptr b2 0 ∧ fr 3 = .rptr [.map b3] ∧ fr 4 = .map b4 ∧
      h1 = ((h.set b2 (.cells [.nilm] 37)).set b3 (.map (sbC (ofS x.1).2))).set b4 (.map (seenC (ofS x.1).1))) (fun x => x.2.length) ([], ps) ?_ ?_
  · exact ⟨rfl, rfl, rfl, rfl, rfl, rfl, rfl, rfl⟩
  · rintro ⟨done, rest⟩ fr h1 ⟨e1, f10, f11, f12, f2, f3, f4, rfl⟩
    simp only at e1 f12
    subst e1
    have q3 : (((h.set b2 (.cells [.nilm] 37)).set b3 (.map (sbC (ofS done).2))).set b4 (.map (seenC (ofS done).1))).objs b3 = some (.map (sbC (ofS done).2)) := by rw [s_objs n43.symm, AH.set_same]
    cases rest with
    | nil =>
      rw [List.append_nil] at *
      have q2 : (((h.set b2 (.cells [.nilm] 37)).set b3 (.map (sbC (ofS done).2))).set b4 (.map (seenC (ofS done).1))).objs b2 = some (.cells [.nilm] 37) := by rw [s_objs n42.symm, s_objs n32.symm, AH.set_same]
      simp only [u_C l10_0.eq_1, runs, e_onS, AH.set_same, AH.set_set, List.map_cons, List.map_nil, List.length_cons, List.length_nil, List.drop_zero, List.drop_succ_cons, List.take_succ_cons, List.take_zero, List.take_nil, List.nil_append, List.cons_append, List.append_nil, List.all_cons, List.all_nil, Nat.zero_add, Nat.add_zero, ite_true, ite_false, if_true, if_false, ne_eq, not_false_eq_true, not_true_eq_false, and_true, true_and, and_self, Bool.and_true, Bool.true_and, Bool.not_true, Bool.not_false, List.getElem?_cons_zero, List.getElem?_cons_succ, Option.isSome_some, beq_self_eq_true, implies_true, forall_const, Nat.le_refl, Option.some.injEq, Option.getD_some, Option.getD_none, List.getElem?_nil, e_Lpn, e_Lpe, e_Lpr, decide_true, decide_false, Int.natCast_nonneg, Int.toNat_natCast, Int.toNat_zero, lt_irr, imp_self, false_implies, big_eq, pevA, takeA, putA, fillA, chunkA, zerosL, binA, binI, binS, isNilA, lookA, bndA, depA, depV, depM, depS, cellAt, elemAt, initA, Nat.reduceAdd, Nat.reduceLeDiff, Nat.reduceEqDiff, reduceIte, reduceCtorEq, Nat.reduceLT, Nat.reduceMul, Nat.reduceSub, Int.reduceAdd, Int.reduceSub, Int.reduceMul, Int.reduceLT, Int.reduceLE, Int.reduceEq, Int.reduceNe, Int.reduceNeg, Int.reduceToNat, f10, f11, f12, f2, f3, f4, q2, hk2]
      refine ⟨_, h, .map1 (es := sbC (ofS done).2) ?_ ?_, hK, rfl, rfl⟩
      · rw [AH.del_objs, if_neg n32, s_objs n43.symm, AH.set_same]
      · exact le_del (le_del (le_set (le_set (le_set (AH.le_refl _) hb2) hb3) hb4) hb2) hb3
    | cons p rest =>
      have hlt : decide ((done.length : Int) < ((done ++ p :: rest).length : Nat)) = true := by simp; omega
      have hu : done.length < (done ++ p :: rest).length := by simp
      by_cases hs : p.1 ∈ (ofS done).1
      · simp only [wrapS hu hB, u_C l10_0.eq_1, runs, e_onS, AH.set_same, AH.set_set, List.map_cons, List.map_nil, List.length_cons, List.length_nil, List.drop_zero, List.drop_succ_cons, List.take_succ_cons, List.take_zero, List.take_nil, List.nil_append, List.cons_append, List.append_nil, List.all_cons, List.all_nil, Nat.zero_add, Nat.add_zero, ite_true, ite_false, if_true, if_false, ne_eq, not_false_eq_true, not_true_eq_false, and_true, true_and, and_self, Bool.and_true, Bool.true_and, Bool.not_true, Bool.not_false, List.getElem?_cons_zero, List.getElem?_cons_succ, Option.isSome_some, beq_self_eq_true, implies_true, forall_const, Nat.le_refl, Option.some.injEq, Option.getD_some, Option.getD_none, List.getElem?_nil, e_Lpn, e_Lpe, e_Lpr, decide_true, decide_false, Int.natCast_nonneg, Int.toNat_natCast, Int.toNat_zero, lt_irr, imp_self, false_implies, big_eq, pevA, takeA, putA, fillA, chunkA, zerosL, binA, binI, binS, isNilA, lookA, bndA, depA, depV, depM, depS, cellAt, elemAt, initA, Nat.reduceAdd, Nat.reduceLeDiff, Nat.reduceEqDiff, reduceIte, reduceCtorEq, Nat.reduceLT, Nat.reduceMul, Nat.reduceSub, Int.reduceAdd, Int.reduceSub, Int.reduceMul, Int.reduceLT, Int.reduceLE, Int.reduceEq, Int.reduceNe, Int.reduceNeg, Int.reduceToNat, f10, f11, f12, f2, f3, f4, hlt, prCs_get, prC_len, prC_ne, prC_one, prC_take, prC_0, prC_1, look_seen, hs]
        refine ⟨(done ++ [p], rest), by simp, by simp, f10, f11, by simp [upd], f2, f3, f4, ?_⟩
        simp only [ofS_app, ofStep, hs, if_true]
      · simp only [u_C l10_0.eq_1, runs, e_onS, AH.set_same, AH.set_set, List.map_cons, List.map_nil, List.length_cons, List.length_nil, List.drop_zero, List.drop_succ_cons, List.take_succ_cons, List.take_zero, List.take_nil, List.nil_append, List.cons_append, List.append_nil, List.all_cons, List.all_nil, Nat.zero_add, Nat.add_zero, ite_true, ite_false, if_true, if_false, ne_eq, not_false_eq_true, not_true_eq_false, and_true, true_and, and_self, Bool.and_true, Bool.true_and, Bool.not_true, Bool.not_false, List.getElem?_cons_zero, List.getElem?_cons_succ, Option.isSome_some, beq_self_eq_true, implies_true, forall_const, Nat.le_refl, Option.some.injEq, Option.getD_some, Option.getD_none, List.getElem?_nil, e_Lpn, e_Lpe, e_Lpr, decide_true, decide_false, Int.natCast_nonneg, Int.toNat_natCast, Int.toNat_zero, lt_irr, imp_self, false_implies, big_eq, pevA, takeA, putA, fillA, chunkA, zerosL, binA, binI, binS, isNilA, lookA, bndA, depA, depV, depM, depS, cellAt, elemAt, initA, Nat.reduceAdd, Nat.reduceLeDiff, Nat.reduceEqDiff, reduceIte, reduceCtorEq, Nat.reduceLT, Nat.reduceMul, Nat.reduceSub, Int.reduceAdd, Int.reduceSub, Int.reduceMul, Int.reduceLT, Int.reduceLE, Int.reduceEq, Int.reduceNe, Int.reduceNeg, Int.reduceToNat, f10, f11, f12, f2, f3, f4, hlt, prCs_get, prC_len, prC_ne, prC_one, prC_take, prC_0, prC_1, look_seen, hs, put_seen _ _ hs, hk4, tyC_len, tyC_ne, tyC_one, tyC_take, tyC_drop, tyC_ta, tyC_da, tyC_d6]
        refine (put_ok p.1 p.2 (hp p (by simp)) (ofS done).2 K _ b3 (by rw [s_objs n43.symm, AH.set_same]) hk3).mono ?_
        rintro v _ rfl
        rw [set_comm n43, AH.set_set]
        simp only [wrapS hu hB, runs, e_onS, AH.set_same, AH.set_set, List.map_cons, List.map_nil, List.length_cons, List.length_nil, List.drop_zero, List.drop_succ_cons, List.take_succ_cons, List.take_zero, List.take_nil, List.nil_append, List.cons_append, List.append_nil, List.all_cons, List.all_nil, Nat.zero_add, Nat.add_zero, ite_true, ite_false, if_true, if_false, ne_eq, not_false_eq_true, not_true_eq_false, and_true, true_and, and_self, Bool.and_true, Bool.true_and, Bool.not_true, Bool.not_false, List.getElem?_cons_zero, List.getElem?_cons_succ, Option.isSome_some, beq_self_eq_true, implies_true, forall_const, Nat.le_refl, Option.some.injEq, Option.getD_some, Option.getD_none, List.getElem?_nil, e_Lpn, e_Lpe, e_Lpr, decide_true, decide_false, Int.natCast_nonneg, Int.toNat_natCast, Int.toNat_zero, lt_irr, imp_self, false_implies, big_eq, pevA, takeA, putA, fillA, chunkA, zerosL, binA, binI, binS, isNilA, lookA, bndA, depA, depV, depM, depS, cellAt, elemAt, initA, Nat.reduceAdd, Nat.reduceLeDiff, Nat.reduceEqDiff, reduceIte, reduceCtorEq, Nat.reduceLT, Nat.reduceMul, Nat.reduceSub, Int.reduceAdd, Int.reduceSub, Int.reduceMul, Int.reduceLT, Int.reduceLE, Int.reduceEq, Int.reduceNe, Int.reduceNeg, Int.reduceToNat, f10, f11, f12, f2, f3, f4]
        refine ⟨(done ++ [p], rest), by simp, by simp, f10, f11, by simp [upd], f2, f3, f4, ?_⟩
        simp only [ofS_app, ofStep, hs, if_false]

theorem len_ok (m : AV) (l : Sb) (hm : ∀ h, entA h m = some (sbC l)) (ha : isAny m = false) (hc : cellsA m = [m]) : Pure T 24 [.agg [m]] (.int .i64 l.length) := by
  intro K h
  refine ACall.ret t24 fun hK => ?_
  simp only [u_C c24.eq_1, runs, e_onS, AH.set_same, AH.set_set, List.map_cons, List.map_nil, List.length_cons, List.length_nil, List.drop_zero, List.drop_succ_cons, List.take_succ_cons, List.take_zero, List.take_nil, List.nil_append, List.cons_append, List.append_nil, List.all_cons, List.all_nil, Nat.zero_add, Nat.add_zero, ite_true, ite_false, if_true, if_false, ne_eq, not_false_eq_true, not_true_eq_false, and_true, true_and, and_self, Bool.and_true, Bool.true_and, Bool.not_true, Bool.not_false, List.getElem?_cons_zero, List.getElem?_cons_succ, Option.isSome_some, beq_self_eq_true, implies_true, forall_const, Nat.le_refl, Option.some.injEq, Option.getD_some, Option.getD_none, List.getElem?_nil, e_Lpn, e_Lpe, e_Lpr, decide_true, decide_false, Int.natCast_nonneg, Int.toNat_natCast, Int.toNat_zero, lt_irr, imp_self, false_implies, big_eq, pevA, takeA, putA, fillA, chunkA, zerosL, binA, binI, binS, isNilA, lookA, bndA, depA, depV, depM, depS, cellAt, elemAt, initA, Nat.reduceAdd, Nat.reduceLeDiff, Nat.reduceEqDiff, reduceIte, reduceCtorEq, Nat.reduceLT, Nat.reduceMul, Nat.reduceSub, Int.reduceAdd, Int.reduceSub, Int.reduceMul, Int.reduceLT, Int.reduceLE, Int.reduceEq, Int.reduceNe, Int.reduceNeg, Int.reduceToNat, hm]
  exact ⟨by simp [sbC, Wk.refl], AH.le_refl _⟩

mutual
/-- types in variables' places -/
def ap (l : Sb) : PT → PT
  | .mk k n args => if k = 1 then (match lk l n with
    | some u => u
    | none => .mk k n (aps l args)) else .mk k n (aps l args)
def aps (l : Sb) : List PT → List PT
  | [] => []
  | t :: r => ap l t :: aps l r
end
theorem aps_eq (l : Sb) (r : List PT) : aps l r = r.map (ap l) := by
  induction r with
  | nil => rfl
  | cons a r ih => simp only [aps, List.map_cons, ih]
theorem apply_loop {m : AV} {l : Sb} (args : List PT) (ih : ∀ a ∈ args, Pure T 12 [.agg [m], .agg (tyC a)] (.agg (tyC (ap l a)))) (hlen : args.length ≤ 1073741824) {K : Nat → Prop} {h : AH} {b4 b7 : Nat} (hb4 : h.objs b4 = none) (hb7 : h.objs b7 = none) (hk7 : ¬ K b7) (n74 : b7 ≠ b4)
    {k : Int} {n : List UInt8} {o4 : AO} {R : CExit → AQ} {fr : AFr} (f2 : fr 2 = .rptr [m]) (f4 : fr 4 = .ptr b4 0) (f7 : fr 7 = .ptr b7 0) (f30 : fr 30 = .lst 33 (tyCs args) .no) (f31 : fr 31 = .int .i64 args.length) (f32 : fr 32 = .int .i64 0) (hm1 : isAny m = false) (hm2 : cellsA m = [m])
    (hq : ∀ fr tag t E', fr 4 = .ptr b4 0 → fr 7 = .ptr b7 0 → (tyCs (aps l args) ≠ [] → E' = 33) → Toks h.toks t [(tag, 33, 3, 0)] → R .normal fr (((h.set b4 o4).set b7 (.cells [.int .i64 k, .str n, .lst E' (tyCs (aps l args)) tag] 33)).tk t)) :
    W T K (.loop l12_1.toC) fr ((h.set b4 o4).set b7 (.cells [.int .i64 k, .str n, .lst 0 [] .nil] 33)) (kB 0 R) := by
  refine W.bound f30 fun hB => ?_
  rw [tyCs_len] at hB
  refine aloop (α := List PT × List PT) (fun x fr h1 => args = x.1 ++ x.2 ∧ fr 30 = .lst 33 (tyCs args) .no ∧ fr 31 = .int .i64 args.length ∧ fr 32 = .int .i64 x.1.length ∧ fr 2 = .rptr [m] ∧ fr 4 = .ptr b4 0 ∧ fr 7 = .ptr b7 0 ∧
      ∃ E' tag t, (tyCs (aps l x.1) ≠ [] → E' = 33) ∧ Toks h.toks t [(tag, 33, 3, 0)] ∧ h1 = ((h.set b4 o4).set b7 (.cells [.int .i64 k, .str n, .lst E' (tyCs (aps l x.1)) tag] 33)).tk t) (fun x => x.2.length) ([], args) ?_ ?_
  · exact ⟨rfl, f30, f31, f32, f2, f4, f7, 0, .nil, h.toks, fun h => absurd rfl h, .one _ _ _, rfl⟩
  · clear f2 f4 f7 f30 f31 f32
    rintro ⟨done, rest⟩ fr h1 ⟨hargs, f30, f31, f32, f2, f4, f7, E', tag, t, hE, hT, rfl⟩
    simp only at hargs f32 hE
    subst hargs
    cases rest with
    | nil =>
      rw [List.append_nil] at *
      simp only [u_C l12_1.eq_1, runs, e_onS, AH.set_same, AH.set_set, List.map_cons, List.map_nil, List.length_cons, List.length_nil, List.drop_zero, List.drop_succ_cons, List.take_succ_cons, List.take_zero, List.take_nil, List.nil_append, List.cons_append, List.append_nil, List.all_cons, List.all_nil, Nat.zero_add, Nat.add_zero, ite_true, ite_false, if_true, if_false, ne_eq, not_false_eq_true, not_true_eq_false, and_true, true_and, and_self, Bool.and_true, Bool.true_and, Bool.not_true, Bool.not_false, List.getElem?_cons_zero, List.getElem?_cons_succ, Option.isSome_some, beq_self_eq_true, implies_true, forall_const, Nat.le_refl, Option.some.injEq, Option.getD_some, Option.getD_none, List.getElem?_nil, e_Lpn, e_Lpe, e_Lpr, decide_true, decide_false, Int.natCast_nonneg, Int.toNat_natCast, Int.toNat_zero, lt_irr, imp_self, false_implies, big_eq, pevA, takeA, putA, fillA, chunkA, zerosL, binA, binI, binS, isNilA, lookA, bndA, depA, depV, depM, depS, cellAt, elemAt, initA, Nat.reduceAdd, Nat.reduceLeDiff, Nat.reduceEqDiff, reduceIte, reduceCtorEq, Nat.reduceLT, Nat.reduceMul, Nat.reduceSub, Int.reduceAdd, Int.reduceSub, Int.reduceMul, Int.reduceLT, Int.reduceLE, Int.reduceEq, Int.reduceNe, Int.reduceNeg, Int.reduceToNat, f30, f31, f32, f2, f4, f7]
      exact hq _ _ _ _ f4 f7 hE hT
    | cons a rest =>
      have hlt : decide ((done.length : Int) < ((done ++ a :: rest).length : Nat)) = true := by simp; omega
      have hu : done.length < (done ++ a :: rest).length := by simp
      simp only [u_C l12_1.eq_1, e_dregion d12_0, u_L s12_0.eq_1, u_T g12_0.eq_1, runs, e_onS, AH.set_same, AH.set_set, List.map_cons, List.map_nil, List.length_cons, List.length_nil, List.drop_zero, List.drop_succ_cons, List.take_succ_cons, List.take_zero, List.take_nil, List.nil_append, List.cons_append, List.append_nil, List.all_cons, List.all_nil, Nat.zero_add, Nat.add_zero, ite_true, ite_false, if_true, if_false, ne_eq, not_false_eq_true, not_true_eq_false, and_true, true_and, and_self, Bool.and_true, Bool.true_and, Bool.not_true, Bool.not_false, List.getElem?_cons_zero, List.getElem?_cons_succ, Option.isSome_some, beq_self_eq_true, implies_true, forall_const, Nat.le_refl, Option.some.injEq, Option.getD_some, Option.getD_none, List.getElem?_nil, e_Lpn, e_Lpe, e_Lpr, decide_true, decide_false, Int.natCast_nonneg, Int.toNat_natCast, Int.toNat_zero, lt_irr, imp_self, false_implies, big_eq, pevA, takeA, putA, fillA, chunkA, zerosL, binA, binI, binS, isNilA, lookA, bndA, depA, depV, depM, depS, cellAt, elemAt, initA, Nat.reduceAdd, Nat.reduceLeDiff, Nat.reduceEqDiff, reduceIte, reduceCtorEq, Nat.reduceLT, Nat.reduceMul, Nat.reduceSub, Int.reduceAdd, Int.reduceSub, Int.reduceMul, Int.reduceLT, Int.reduceLE, Int.reduceEq, Int.reduceNe, Int.reduceNeg, Int.reduceToNat, f30, f31, f32, f2, f4, f7, hlt, tyCs_get, tyC_len, tyC_ne, tyC_one, tyC_take, tyC_drop, tyC_ta, tyC_da, tyC_d6]
      refine (ih a (by simp)).use ?_
      simp only [runs, e_onS, AH.set_same, AH.set_set, List.map_cons, List.map_nil, List.length_cons, List.length_nil, List.drop_zero, List.drop_succ_cons, List.take_succ_cons, List.take_zero, List.take_nil, List.nil_append, List.cons_append, List.append_nil, List.all_cons, List.all_nil, Nat.zero_add, Nat.add_zero, ite_true, ite_false, if_true, if_false, ne_eq, not_false_eq_true, not_true_eq_false, and_true, true_and, and_self, Bool.and_true, Bool.true_and, Bool.not_true, Bool.not_false, List.getElem?_cons_zero, List.getElem?_cons_succ, Option.isSome_some, beq_self_eq_true, implies_true, forall_const, Nat.le_refl, Option.some.injEq, Option.getD_some, Option.getD_none, List.getElem?_nil, e_Lpn, e_Lpe, e_Lpr, decide_true, decide_false, Int.natCast_nonneg, Int.toNat_natCast, Int.toNat_zero, lt_irr, imp_self, false_implies, big_eq, pevA, takeA, putA, fillA, chunkA, zerosL, binA, binI, binS, isNilA, lookA, bndA, depA, depV, depM, depS, cellAt, elemAt, initA, Nat.reduceAdd, Nat.reduceLeDiff, Nat.reduceEqDiff, reduceIte, reduceCtorEq, Nat.reduceLT, Nat.reduceMul, Nat.reduceSub, Int.reduceAdd, Int.reduceSub, Int.reduceMul, Int.reduceLT, Int.reduceLE, Int.reduceEq, Int.reduceNe, Int.reduceNeg, Int.reduceToNat, hk7, tyC_len, tyC_ne, tyC_one, tyC_take, tyC_drop, tyC_ta, tyC_da, tyC_d6]
      refine WO.append (i := 0) hT rfl rfl rfl trivial (by decide) ?_ ?_ ?_ ?_ ?_ fun tag' t' hT' => ?_
      · simp [tyC_len]
      · simp [tyC_one]
      · simp
      · intro _; simp [capOk, tyCs_len, aps_eq]; simp at hlen; omega
      · simp [big_eq, tyCs_len, aps_eq]; simp at hlen; omega
      simp only [wrapS hu hB, runs, e_onS, AH.set_same, AH.set_set, List.map_cons, List.map_nil, List.length_cons, List.length_nil, List.drop_zero, List.drop_succ_cons, List.take_succ_cons, List.take_zero, List.take_nil, List.nil_append, List.cons_append, List.append_nil, List.all_cons, List.all_nil, Nat.zero_add, Nat.add_zero, ite_true, ite_false, if_true, if_false, ne_eq, not_false_eq_true, not_true_eq_false, and_true, true_and, and_self, Bool.and_true, Bool.true_and, Bool.not_true, Bool.not_false, List.getElem?_cons_zero, List.getElem?_cons_succ, Option.isSome_some, beq_self_eq_true, implies_true, forall_const, Nat.le_refl, Option.some.injEq, Option.getD_some, Option.getD_none, List.getElem?_nil, e_Lpn, e_Lpe, e_Lpr, decide_true, decide_false, Int.natCast_nonneg, Int.toNat_natCast, Int.toNat_zero, lt_irr, imp_self, false_implies, big_eq, pevA, takeA, putA, fillA, chunkA, zerosL, binA, binI, binS, isNilA, lookA, bndA, depA, depV, depM, depS, cellAt, elemAt, initA, Nat.reduceAdd, Nat.reduceLeDiff, Nat.reduceEqDiff, reduceIte, reduceCtorEq, Nat.reduceLT, Nat.reduceMul, Nat.reduceSub, Int.reduceAdd, Int.reduceSub, Int.reduceMul, Int.reduceLT, Int.reduceLE, Int.reduceEq, Int.reduceNe, Int.reduceNeg, Int.reduceToNat, f30, f31, f32, f2, f4, f7, hk7, tyC_len, tyC_ne, tyC_one, tyC_take, tyC_drop, tyC_ta, tyC_da, tyC_d6]
      refine ⟨(done ++ [a], rest), by simp, by simp, f30, f31, by simp [upd], f2, f4, f7, 33, tag', t', fun _ => rfl, hT', ?_⟩
      simp only [aps_eq, List.map_append, tyCs_app, List.map_cons, List.map_nil, tyCs_one]

theorem apply_ok (m : AV) (l : Sb) (hm : ∀ h, entA h m = some (sbC l)) (hm1 : isAny m = false) (hm2 : cellsA m = [m]) (hl : ∀ n u, lk l n = some u → PTOk u) : ∀ t, PTOk t → Pure T 12 [.agg [m], .agg (tyC t)] (.agg (tyC (ap l t))) := by
  refine PT.ind fun k n args ih ho K h => ?_
  cases ho with
  | mk hlen ha =>
  refine ACall.ret t12 fun hK => ?_
  simp only [u_C c12.eq_1, tyC, runs, e_onS, AH.set_same, AH.set_set, List.map_cons, List.map_nil, List.length_cons, List.length_nil, List.drop_zero, List.drop_succ_cons, List.take_succ_cons, List.take_zero, List.take_nil, List.nil_append, List.cons_append, List.append_nil, List.all_cons, List.all_nil, Nat.zero_add, Nat.add_zero, ite_true, ite_false, if_true, if_false, ne_eq, not_false_eq_true, not_true_eq_false, and_true, true_and, and_self, Bool.and_true, Bool.true_and, Bool.not_true, Bool.not_false, List.getElem?_cons_zero, List.getElem?_cons_succ, Option.isSome_some, beq_self_eq_true, implies_true, forall_const, Nat.le_refl, Option.some.injEq, Option.getD_some, Option.getD_none, List.getElem?_nil, e_Lpn, e_Lpe, e_Lpr, decide_true, decide_false, Int.natCast_nonneg, Int.toNat_natCast, Int.toNat_zero, lt_irr, imp_self, false_implies, big_eq, pevA, takeA, putA, fillA, chunkA, zerosL, binA, binI, binS, isNilA, lookA, bndA, depA, depV, depM, depS, cellAt, elemAt, initA, Nat.reduceAdd, Nat.reduceLeDiff, Nat.reduceEqDiff, reduceIte, reduceCtorEq, Nat.reduceLT, Nat.reduceMul, Nat.reduceSub, Int.reduceAdd, Int.reduceSub, Int.reduceMul, Int.reduceLT, Int.reduceLE, Int.reduceEq, Int.reduceNe, Int.reduceNeg, Int.reduceToNat]
  intro b4 hb4 hk4
  simp only [runs, e_onS, AH.set_same, AH.set_set, List.map_cons, List.map_nil, List.length_cons, List.length_nil, List.drop_zero, List.drop_succ_cons, List.take_succ_cons, List.take_zero, List.take_nil, List.nil_append, List.cons_append, List.append_nil, List.all_cons, List.all_nil, Nat.zero_add, Nat.add_zero, ite_true, ite_false, if_true, if_false, ne_eq, not_false_eq_true, not_true_eq_false, and_true, true_and, and_self, Bool.and_true, Bool.true_and, Bool.not_true, Bool.not_false, List.getElem?_cons_zero, List.getElem?_cons_succ, Option.isSome_some, beq_self_eq_true, implies_true, forall_const, Nat.le_refl, Option.some.injEq, Option.getD_some, Option.getD_none, List.getElem?_nil, e_Lpn, e_Lpe, e_Lpr, decide_true, decide_false, Int.natCast_nonneg, Int.toNat_natCast, Int.toNat_zero, lt_irr, imp_self, false_implies, big_eq, pevA, takeA, putA, fillA, chunkA, zerosL, binA, binI, binS, isNilA, lookA, bndA, depA, depV, depM, depS, cellAt, elemAt, initA, Nat.reduceAdd, Nat.reduceLeDiff, Nat.reduceEqDiff, reduceIte, reduceCtorEq, Nat.reduceLT, Nat.reduceMul, Nat.reduceSub, Int.reduceAdd, Int.reduceSub, Int.reduceMul, Int.reduceLT, Int.reduceLE, Int.reduceEq, Int.reduceNe, Int.reduceNeg, Int.reduceToNat]
  have hdel : h.del b4 = h := s_del hb4
  by_cases h1 : k = 1
  · subst h1
    simp only [runs, e_onS, AH.set_same, AH.set_set, List.map_cons, List.map_nil, List.length_cons, List.length_nil, List.drop_zero, List.drop_succ_cons, List.take_succ_cons, List.take_zero, List.take_nil, List.nil_append, List.cons_append, List.append_nil, List.all_cons, List.all_nil, Nat.zero_add, Nat.add_zero, ite_true, ite_false, if_true, if_false, ne_eq, not_false_eq_true, not_true_eq_false, and_true, true_and, and_self, Bool.and_true, Bool.true_and, Bool.not_true, Bool.not_false, List.getElem?_cons_zero, List.getElem?_cons_succ, Option.isSome_some, beq_self_eq_true, implies_true, forall_const, Nat.le_refl, Option.some.injEq, Option.getD_some, Option.getD_none, List.getElem?_nil, e_Lpn, e_Lpe, e_Lpr, decide_true, decide_false, Int.natCast_nonneg, Int.toNat_natCast, Int.toNat_zero, lt_irr, imp_self, false_implies, big_eq, pevA, takeA, putA, fillA, chunkA, zerosL, binA, binI, binS, isNilA, lookA, bndA, depA, depV, depM, depS, cellAt, elemAt, initA, Nat.reduceAdd, Nat.reduceLeDiff, Nat.reduceEqDiff, reduceIte, reduceCtorEq, Nat.reduceLT, Nat.reduceMul, Nat.reduceSub, Int.reduceAdd, Int.reduceSub, Int.reduceMul, Int.reduceLT, Int.reduceLE, Int.reduceEq, Int.reduceNe, Int.reduceNeg, Int.reduceToNat, hm, look_sb]
    cases hu : lk l n with
    | some u =>
      simp only [runs, e_onS, AH.set_same, AH.set_set, List.map_cons, List.map_nil, List.length_cons, List.length_nil, List.drop_zero, List.drop_succ_cons, List.take_succ_cons, List.take_zero, List.take_nil, List.nil_append, List.cons_append, List.append_nil, List.all_cons, List.all_nil, Nat.zero_add, Nat.add_zero, ite_true, ite_false, if_true, if_false, ne_eq, not_false_eq_true, not_true_eq_false, and_true, true_and, and_self, Bool.and_true, Bool.true_and, Bool.not_true, Bool.not_false, List.getElem?_cons_zero, List.getElem?_cons_succ, Option.isSome_some, beq_self_eq_true, implies_true, forall_const, Nat.le_refl, Option.some.injEq, Option.getD_some, Option.getD_none, List.getElem?_nil, e_Lpn, e_Lpe, e_Lpr, decide_true, decide_false, Int.natCast_nonneg, Int.toNat_natCast, Int.toNat_zero, lt_irr, imp_self, false_implies, big_eq, pevA, takeA, putA, fillA, chunkA, zerosL, binA, binI, binS, isNilA, lookA, bndA, depA, depV, depM, depS, cellAt, elemAt, initA, Nat.reduceAdd, Nat.reduceLeDiff, Nat.reduceEqDiff, reduceIte, reduceCtorEq, Nat.reduceLT, Nat.reduceMul, Nat.reduceSub, Int.reduceAdd, Int.reduceSub, Int.reduceMul, Int.reduceLT, Int.reduceLE, Int.reduceEq, Int.reduceNe, Int.reduceNeg, Int.reduceToNat, tyC_len, tyC_ne, tyC_one, tyC_take, tyC_drop, tyC_ta, tyC_da, tyC_d6, Option.map_some]
      refine (clone_ok u (hl n u hu)).use ?_
      simp only [runs, e_onS, AH.set_same, AH.set_set, List.map_cons, List.map_nil, List.length_cons, List.length_nil, List.drop_zero, List.drop_succ_cons, List.take_succ_cons, List.take_zero, List.take_nil, List.nil_append, List.cons_append, List.append_nil, List.all_cons, List.all_nil, Nat.zero_add, Nat.add_zero, ite_true, ite_false, if_true, if_false, ne_eq, not_false_eq_true, not_true_eq_false, and_true, true_and, and_self, Bool.and_true, Bool.true_and, Bool.not_true, Bool.not_false, List.getElem?_cons_zero, List.getElem?_cons_succ, Option.isSome_some, beq_self_eq_true, implies_true, forall_const, Nat.le_refl, Option.some.injEq, Option.getD_some, Option.getD_none, List.getElem?_nil, e_Lpn, e_Lpe, e_Lpr, decide_true, decide_false, Int.natCast_nonneg, Int.toNat_natCast, Int.toNat_zero, lt_irr, imp_self, false_implies, big_eq, pevA, takeA, putA, fillA, chunkA, zerosL, binA, binI, binS, isNilA, lookA, bndA, depA, depV, depM, depS, cellAt, elemAt, initA, Nat.reduceAdd, Nat.reduceLeDiff, Nat.reduceEqDiff, reduceIte, reduceCtorEq, Nat.reduceLT, Nat.reduceMul, Nat.reduceSub, Int.reduceAdd, Int.reduceSub, Int.reduceMul, Int.reduceLT, Int.reduceLE, Int.reduceEq, Int.reduceNe, Int.reduceNeg, Int.reduceToNat, tyC_len, tyC_ne, tyC_one, tyC_take, tyC_drop, tyC_ta, tyC_da, tyC_d6, hk4, hdel]
      have : ap l (.mk 1 n args) = u := by simp only [ap, hu, if_true]
      rw [this]
      exact ⟨.refl _, AH.le_refl _⟩
    | none =>
      have : ap l (.mk 1 n args) = .mk 1 n (aps l args) := by simp only [ap, hu, if_true]
      rw [this]
      simp only [runs, e_onS, AH.set_same, AH.set_set, List.map_cons, List.map_nil, List.length_cons, List.length_nil, List.drop_zero, List.drop_succ_cons, List.take_succ_cons, List.take_zero, List.take_nil, List.nil_append, List.cons_append, List.append_nil, List.all_cons, List.all_nil, Nat.zero_add, Nat.add_zero, ite_true, ite_false, if_true, if_false, ne_eq, not_false_eq_true, not_true_eq_false, and_true, true_and, and_self, Bool.and_true, Bool.true_and, Bool.not_true, Bool.not_false, List.getElem?_cons_zero, List.getElem?_cons_succ, Option.isSome_some, beq_self_eq_true, implies_true, forall_const, Nat.le_refl, Option.some.injEq, Option.getD_some, Option.getD_none, List.getElem?_nil, e_Lpn, e_Lpe, e_Lpr, decide_true, decide_false, Int.natCast_nonneg, Int.toNat_natCast, Int.toNat_zero, lt_irr, imp_self, false_implies, big_eq, pevA, takeA, putA, fillA, chunkA, zerosL, binA, binI, binS, isNilA, lookA, bndA, depA, depV, depM, depS, cellAt, elemAt, initA, Nat.reduceAdd, Nat.reduceLeDiff, Nat.reduceEqDiff, reduceIte, reduceCtorEq, Nat.reduceLT, Nat.reduceMul, Nat.reduceSub, Int.reduceAdd, Int.reduceSub, Int.reduceMul, Int.reduceLT, Int.reduceLE, Int.reduceEq, Int.reduceNe, Int.reduceNeg, Int.reduceToNat, tyC_len, tyC_ne, tyC_one, tyC_take, tyC_drop, tyC_ta, tyC_da, tyC_d6, Option.map_none]
      intro b7 hb7 hk7
      obtain ⟨n74, hb7⟩ := AH.set_none.1 hb7
      simp only [runs, e_onS, AH.set_same, AH.set_set, List.map_cons, List.map_nil, List.length_cons, List.length_nil, List.drop_zero, List.drop_succ_cons, List.take_succ_cons, List.take_zero, List.take_nil, List.nil_append, List.cons_append, List.append_nil, List.all_cons, List.all_nil, Nat.zero_add, Nat.add_zero, ite_true, ite_false, if_true, if_false, ne_eq, not_false_eq_true, not_true_eq_false, and_true, true_and, and_self, Bool.and_true, Bool.true_and, Bool.not_true, Bool.not_false, List.getElem?_cons_zero, List.getElem?_cons_succ, Option.isSome_some, beq_self_eq_true, implies_true, forall_const, Nat.le_refl, Option.some.injEq, Option.getD_some, Option.getD_none, List.getElem?_nil, e_Lpn, e_Lpe, e_Lpr, decide_true, decide_false, Int.natCast_nonneg, Int.toNat_natCast, Int.toNat_zero, lt_irr, imp_self, false_implies, big_eq, pevA, takeA, putA, fillA, chunkA, zerosL, binA, binI, binS, isNilA, lookA, bndA, depA, depV, depM, depS, cellAt, elemAt, initA, Nat.reduceAdd, Nat.reduceLeDiff, Nat.reduceEqDiff, reduceIte, reduceCtorEq, Nat.reduceLT, Nat.reduceMul, Nat.reduceSub, Int.reduceAdd, Int.reduceSub, Int.reduceMul, Int.reduceLT, Int.reduceLE, Int.reduceEq, Int.reduceNe, Int.reduceNeg, Int.reduceToNat, hk7, tyCs_len]
      refine apply_loop args (fun a h => ih a h (ha a h)) hlen hb4 hb7 hk7 n74 rfl rfl rfl rfl rfl rfl hm1 hm2 fun fr tag t E' f4 f7 hE hT => ?_
      simp only [runs, e_onS, AH.set_same, AH.set_set, List.map_cons, List.map_nil, List.length_cons, List.length_nil, List.drop_zero, List.drop_succ_cons, List.take_succ_cons, List.take_zero, List.take_nil, List.nil_append, List.cons_append, List.append_nil, List.all_cons, List.all_nil, Nat.zero_add, Nat.add_zero, ite_true, ite_false, if_true, if_false, ne_eq, not_false_eq_true, not_true_eq_false, and_true, true_and, and_self, Bool.and_true, Bool.true_and, Bool.not_true, Bool.not_false, List.getElem?_cons_zero, List.getElem?_cons_succ, Option.isSome_some, beq_self_eq_true, implies_true, forall_const, Nat.le_refl, Option.some.injEq, Option.getD_some, Option.getD_none, List.getElem?_nil, e_Lpn, e_Lpe, e_Lpr, decide_true, decide_false, Int.natCast_nonneg, Int.toNat_natCast, Int.toNat_zero, lt_irr, imp_self, false_implies, big_eq, pevA, takeA, putA, fillA, chunkA, zerosL, binA, binI, binS, isNilA, lookA, bndA, depA, depV, depM, depS, cellAt, elemAt, initA, Nat.reduceAdd, Nat.reduceLeDiff, Nat.reduceEqDiff, reduceIte, reduceCtorEq, Nat.reduceLT, Nat.reduceMul, Nat.reduceSub, Int.reduceAdd, Int.reduceSub, Int.reduceMul, Int.reduceLT, Int.reduceLE, Int.reduceEq, Int.reduceNe, Int.reduceNeg, Int.reduceToNat, f4, f7, hk4, s_objs n74.symm, tyC]
      exact ⟨.aggL ⟨.refl _, .refl _, .lstE hE, trivial⟩, le_tk (le_del (le_set (le_set (AH.le_refl _) hb4) hb7) hb4) hT.le⟩
  · have : ap l (.mk k n args) = .mk k n (aps l args) := by simp only [ap, h1, if_false]
    rw [this]
    simp only [h1, runs, e_onS, AH.set_same, AH.set_set, List.map_cons, List.map_nil, List.length_cons, List.length_nil, List.drop_zero, List.drop_succ_cons, List.take_succ_cons, List.take_zero, List.take_nil, List.nil_append, List.cons_append, List.append_nil, List.all_cons, List.all_nil, Nat.zero_add, Nat.add_zero, ite_true, ite_false, if_true, if_false, ne_eq, not_false_eq_true, not_true_eq_false, and_true, true_and, and_self, Bool.and_true, Bool.true_and, Bool.not_true, Bool.not_false, List.getElem?_cons_zero, List.getElem?_cons_succ, Option.isSome_some, beq_self_eq_true, implies_true, forall_const, Nat.le_refl, Option.some.injEq, Option.getD_some, Option.getD_none, List.getElem?_nil, e_Lpn, e_Lpe, e_Lpr, decide_true, decide_false, Int.natCast_nonneg, Int.toNat_natCast, Int.toNat_zero, lt_irr, imp_self, false_implies, big_eq, pevA, takeA, putA, fillA, chunkA, zerosL, binA, binI, binS, isNilA, lookA, bndA, depA, depV, depM, depS, cellAt, elemAt, initA, Nat.reduceAdd, Nat.reduceLeDiff, Nat.reduceEqDiff, reduceIte, reduceCtorEq, Nat.reduceLT, Nat.reduceMul, Nat.reduceSub, Int.reduceAdd, Int.reduceSub, Int.reduceMul, Int.reduceLT, Int.reduceLE, Int.reduceEq, Int.reduceNe, Int.reduceNeg, Int.reduceToNat, tyC_len, tyC_ne, tyC_one, tyC_take, tyC_drop, tyC_ta, tyC_da, tyC_d6]
    intro b7 hb7 hk7
    obtain ⟨n74, hb7⟩ := AH.set_none.1 hb7
    simp only [runs, e_onS, AH.set_same, AH.set_set, List.map_cons, List.map_nil, List.length_cons, List.length_nil, List.drop_zero, List.drop_succ_cons, List.take_succ_cons, List.take_zero, List.take_nil, List.nil_append, List.cons_append, List.append_nil, List.all_cons, List.all_nil, Nat.zero_add, Nat.add_zero, ite_true, ite_false, if_true, if_false, ne_eq, not_false_eq_true, not_true_eq_false, and_true, true_and, and_self, Bool.and_true, Bool.true_and, Bool.not_true, Bool.not_false, List.getElem?_cons_zero, List.getElem?_cons_succ, Option.isSome_some, beq_self_eq_true, implies_true, forall_const, Nat.le_refl, Option.some.injEq, Option.getD_some, Option.getD_none, List.getElem?_nil, e_Lpn, e_Lpe, e_Lpr, decide_true, decide_false, Int.natCast_nonneg, Int.toNat_natCast, Int.toNat_zero, lt_irr, imp_self, false_implies, big_eq, pevA, takeA, putA, fillA, chunkA, zerosL, binA, binI, binS, isNilA, lookA, bndA, depA, depV, depM, depS, cellAt, elemAt, initA, Nat.reduceAdd, Nat.reduceLeDiff, Nat.reduceEqDiff, reduceIte, reduceCtorEq, Nat.reduceLT, Nat.reduceMul, Nat.reduceSub, Int.reduceAdd, Int.reduceSub, Int.reduceMul, Int.reduceLT, Int.reduceLE, Int.reduceEq, Int.reduceNe, Int.reduceNeg, Int.reduceToNat, hk7, tyCs_len]
    refine apply_loop args (fun a h => ih a h (ha a h)) hlen hb4 hb7 hk7 n74 rfl rfl rfl rfl rfl rfl hm1 hm2 fun fr tag t E' f4 f7 hE hT => ?_
    simp only [runs, e_onS, AH.set_same, AH.set_set, List.map_cons, List.map_nil, List.length_cons, List.length_nil, List.drop_zero, List.drop_succ_cons, List.take_succ_cons, List.take_zero, List.take_nil, List.nil_append, List.cons_append, List.append_nil, List.all_cons, List.all_nil, Nat.zero_add, Nat.add_zero, ite_true, ite_false, if_true, if_false, ne_eq, not_false_eq_true, not_true_eq_false, and_true, true_and, and_self, Bool.and_true, Bool.true_and, Bool.not_true, Bool.not_false, List.getElem?_cons_zero, List.getElem?_cons_succ, Option.isSome_some, beq_self_eq_true, implies_true, forall_const, Nat.le_refl, Option.some.injEq, Option.getD_some, Option.getD_none, List.getElem?_nil, e_Lpn, e_Lpe, e_Lpr, decide_true, decide_false, Int.natCast_nonneg, Int.toNat_natCast, Int.toNat_zero, lt_irr, imp_self, false_implies, big_eq, pevA, takeA, putA, fillA, chunkA, zerosL, binA, binI, binS, isNilA, lookA, bndA, depA, depV, depM, depS, cellAt, elemAt, initA, Nat.reduceAdd, Nat.reduceLeDiff, Nat.reduceEqDiff, reduceIte, reduceCtorEq, Nat.reduceLT, Nat.reduceMul, Nat.reduceSub, Int.reduceAdd, Int.reduceSub, Int.reduceMul, Int.reduceLT, Int.reduceLE, Int.reduceEq, Int.reduceNe, Int.reduceNeg, Int.reduceToNat, f4, f7, hk4, s_objs n74.symm, tyC]
    exact ⟨.aggL ⟨.refl _, .refl _, .lstE hE, trivial⟩, le_tk (le_del (le_set (le_set (AH.le_refl _) hb4) hb7) hb4) hT.le⟩
end Go.Proofs.Ytdepohnidjndjaa.p

namespace Go.Proofs.Ytdepohnidjndjaa.p
open Go.Proofs Go Go.Cn code
set_option linter.unusedSimpArgs false
set_option linter.unusedVariables false

mutual
/-- how many parts a type has, as the program counts -/
def szT : PT → Int
  | .mk _ _ args => szF 1 args
def szF : Int → List PT → Int
  | n, [] => n
  | n, a :: r => szF (IntKind.i64.wrap (n + szT a)) r
end
theorem szF_app (n : Int) (l : List PT) (a : PT) : szF n (l ++ [a]) = IntKind.i64.wrap (szF n l + szT a) := by
  induction l generalizing n with
  | nil => rfl
  | cons b l ih => simp only [List.cons_append, szF, ih]

theorem size_ok : ∀ t, Pure T 15 [.agg (tyC t)] (.int .i64 (szT t)) := by
  refine PT.ind fun k n args ih K h => ?_
  refine ACall.ret t15 fun hK => ?_
  simp only [u_C c15.eq_1, tyC, runs, e_onS, AH.set_same, AH.set_set, List.map_cons, List.map_nil, List.length_cons, List.length_nil, List.drop_zero, List.drop_succ_cons, List.take_succ_cons, List.take_zero, List.take_nil, List.nil_append, List.cons_append, List.append_nil, List.all_cons, List.all_nil, Nat.zero_add, Nat.add_zero, ite_true, ite_false, if_true, if_false, ne_eq, not_false_eq_true, not_true_eq_false, and_true, true_and, and_self, Bool.and_true, Bool.true_and, Bool.not_true, Bool.not_false, List.getElem?_cons_zero, List.getElem?_cons_succ, Option.isSome_some, beq_self_eq_true, implies_true, forall_const, Nat.le_refl, Option.some.injEq, Option.getD_some, Option.getD_none, List.getElem?_nil, e_Lpn, e_Lpe, e_Lpr, decide_true, decide_false, Int.natCast_nonneg, Int.toNat_natCast, Int.toNat_zero, lt_irr, imp_self, false_implies, big_eq, pevA, takeA, putA, fillA, chunkA, zerosL, binA, binI, binS, isNilA, lookA, bndA, depA, depV, depM, depS, cellAt, elemAt, initA, Nat.reduceAdd, Nat.reduceLeDiff, Nat.reduceEqDiff, reduceIte, reduceCtorEq, Nat.reduceLT, Nat.reduceMul, Nat.reduceSub, Int.reduceAdd, Int.reduceSub, Int.reduceMul, Int.reduceLT, Int.reduceLE, Int.reduceEq, Int.reduceNe, Int.reduceNeg, Int.reduceToNat]
  refine W.boundR (t := 1) 2 rfl rfl fun hB => ?_
  rw [tyCs_len] at hB
  refine aloop (α := List PT × List PT) (fun x fr h1 => args = x.1 ++ x.2 ∧ args.length ≤ big ∧ fr 1 = .rptr [.int .i64 k, .str n, .lst 33 (tyCs args) .no] ∧ fr 3 = .int .i64 (szF 1 x.1) ∧ fr 4 = .int .i64 x.1.length ∧ h1 = h) (fun x => x.2.length) ([], args) ?_ ?_
  · exact ⟨rfl, hB, rfl, rfl, rfl, rfl⟩
  · rintro ⟨done, rest⟩ fr h1 ⟨e1, _, f1, f3, f4, rfl⟩
    simp only at e1 f3 f4
    subst e1
    cases rest with
    | nil =>
      rw [List.append_nil] at *
      simp only [u_C l15_0.eq_1, runs, e_onS, AH.set_same, AH.set_set, List.map_cons, List.map_nil, List.length_cons, List.length_nil, List.drop_zero, List.drop_succ_cons, List.take_succ_cons, List.take_zero, List.take_nil, List.nil_append, List.cons_append, List.append_nil, List.all_cons, List.all_nil, Nat.zero_add, Nat.add_zero, ite_true, ite_false, if_true, if_false, ne_eq, not_false_eq_true, not_true_eq_false, and_true, true_and, and_self, Bool.and_true, Bool.true_and, Bool.not_true, Bool.not_false, List.getElem?_cons_zero, List.getElem?_cons_succ, Option.isSome_some, beq_self_eq_true, implies_true, forall_const, Nat.le_refl, Option.some.injEq, Option.getD_some, Option.getD_none, List.getElem?_nil, e_Lpn, e_Lpe, e_Lpr, decide_true, decide_false, Int.natCast_nonneg, Int.toNat_natCast, Int.toNat_zero, lt_irr, imp_self, false_implies, big_eq, pevA, takeA, putA, fillA, chunkA, zerosL, binA, binI, binS, isNilA, lookA, bndA, depA, depV, depM, depS, cellAt, elemAt, initA, Nat.reduceAdd, Nat.reduceLeDiff, Nat.reduceEqDiff, reduceIte, reduceCtorEq, Nat.reduceLT, Nat.reduceMul, Nat.reduceSub, Int.reduceAdd, Int.reduceSub, Int.reduceMul, Int.reduceLT, Int.reduceLE, Int.reduceEq, Int.reduceNe, Int.reduceNeg, Int.reduceToNat, f1, f3, f4, tyCs_len]
      exact ⟨.refl _, AH.le_refl _⟩
    | cons a rest =>
      have hlt : decide ((done.length : Int) < ((done ++ a :: rest).length : Nat)) = true := by simp; omega
      have hu : done.length < (done ++ a :: rest).length := by simp
      simp only [u_C l15_0.eq_1, runs, e_onS, AH.set_same, AH.set_set, List.map_cons, List.map_nil, List.length_cons, List.length_nil, List.drop_zero, List.drop_succ_cons, List.take_succ_cons, List.take_zero, List.take_nil, List.nil_append, List.cons_append, List.append_nil, List.all_cons, List.all_nil, Nat.zero_add, Nat.add_zero, ite_true, ite_false, if_true, if_false, ne_eq, not_false_eq_true, not_true_eq_false, and_true, true_and, and_self, Bool.and_true, Bool.true_and, Bool.not_true, Bool.not_false, List.getElem?_cons_zero, List.getElem?_cons_succ, Option.isSome_some, beq_self_eq_true, implies_true, forall_const, Nat.le_refl, Option.some.injEq, Option.getD_some, Option.getD_none, List.getElem?_nil, e_Lpn, e_Lpe, e_Lpr, decide_true, decide_false, Int.natCast_nonneg, Int.toNat_natCast, Int.toNat_zero, lt_irr, imp_self, false_implies, big_eq, pevA, takeA, putA, fillA, chunkA, zerosL, binA, binI, binS, isNilA, lookA, bndA, depA, depV, depM, depS, cellAt, elemAt, initA, Nat.reduceAdd, Nat.reduceLeDiff, Nat.reduceEqDiff, reduceIte, reduceCtorEq, Nat.reduceLT, Nat.reduceMul, Nat.reduceSub, Int.reduceAdd, Int.reduceSub, Int.reduceMul, Int.reduceLT, Int.reduceLE, Int.reduceEq, Int.reduceNe, Int.reduceNeg, Int.reduceToNat, f1, f3, f4, tyCs_len, hlt, tyCs_get, tyC_len, tyC_ne, tyC_one, tyC_take, tyC_drop, tyC_ta, tyC_da, tyC_d6]
      refine (ih a (by simp)).use ?_
      simp only [wrapS hu hB, runs, e_onS, AH.set_same, AH.set_set, List.map_cons, List.map_nil, List.length_cons, List.length_nil, List.drop_zero, List.drop_succ_cons, List.take_succ_cons, List.take_zero, List.take_nil, List.nil_append, List.cons_append, List.append_nil, List.all_cons, List.all_nil, Nat.zero_add, Nat.add_zero, ite_true, ite_false, if_true, if_false, ne_eq, not_false_eq_true, not_true_eq_false, and_true, true_and, and_self, Bool.and_true, Bool.true_and, Bool.not_true, Bool.not_false, List.getElem?_cons_zero, List.getElem?_cons_succ, Option.isSome_some, beq_self_eq_true, implies_true, forall_const, Nat.le_refl, Option.some.injEq, Option.getD_some, Option.getD_none, List.getElem?_nil, e_Lpn, e_Lpe, e_Lpr, decide_true, decide_false, Int.natCast_nonneg, Int.toNat_natCast, Int.toNat_zero, lt_irr, imp_self, false_implies, big_eq, pevA, takeA, putA, fillA, chunkA, zerosL, binA, binI, binS, isNilA, lookA, bndA, depA, depV, depM, depS, cellAt, elemAt, initA, Nat.reduceAdd, Nat.reduceLeDiff, Nat.reduceEqDiff, reduceIte, reduceCtorEq, Nat.reduceLT, Nat.reduceMul, Nat.reduceSub, Int.reduceAdd, Int.reduceSub, Int.reduceMul, Int.reduceLT, Int.reduceLE, Int.reduceEq, Int.reduceNe, Int.reduceNeg, Int.reduceToNat, f1, f3, f4]
      refine ⟨(done ++ [a], rest), by simp, by simp, hB, f1, ?_, by simp [upd], rfl⟩
      simp [upd, szF_app]

def strC (l : List (List UInt8)) : List (List AV) := l.map fun s => [.str s]
theorem strC_len (l : List (List UInt8)) : (strC l).length = l.length := by rw [strC, List.length_map]
theorem strC_get (l : List (List UInt8)) (i : Nat) : (strC l)[i]? = (l[i]?).map fun s => [AV.str s] := by rw [strC, List.getElem?_map]
/-- names for names -/
def renN (to : List (List UInt8)) : Nat → List (List UInt8) → Sb
  | _, [] => []
  | i, n :: l => (n, .mk 1 ((to[i]?).getD n) []) :: renN to (i + 1) l
theorem renN_app (to : List (List UInt8)) : ∀ (i : Nat) (l : List (List UInt8)) (n : List UInt8), renN to i (l ++ [n]) = renN to i l ++ [(n, .mk 1 ((to[i + l.length]?).getD n) [])]
  | i, [], n => rfl
  | i, a :: l, n => by
    simp only [List.cons_append, renN, renN_app to (i + 1) l n, List.length_cons, List.cons.injEq, true_and]
    rw [show i + 1 + l.length = i + (l.length + 1) by omega]
theorem renN_len (to : List (List UInt8)) : ∀ (i : Nat) (l : List (List UInt8)), (renN to i l).length = l.length
  | i, [] => rfl
  | i, a :: l => by simp [renN, renN_len]
theorem renN_ok (to : List (List UInt8)) : ∀ (i : Nat) (l : List (List UInt8)), ∀ p ∈ renN to i l, PTOk p.2
  | i, [] => by simp [renN]
  | i, a :: l => by
    intro p hp
    rcases List.mem_cons.1 hp with rfl | hp
    · exact ⟨by simp, by simp⟩
    · exact renN_ok to (i + 1) l p hp
theorem prCs_app (l m : Sb) : prCs (l ++ m) = prCs l ++ prCs m := by simp [prCs]
theorem lk_ok (l : Sb) (h : ∀ p ∈ l, PTOk p.2) : ∀ n u, lk l n = some u → PTOk u := by
  induction l with
  | nil => intro n u h; cases h
  | cons p l ih =>
    intro n u hu
    simp only [lk] at hu
    split at hu
    · cases hu; exact h p (by simp)
    · exact ih (fun q hq => h q (by simp [hq])) n u hu
theorem pt_mem (n : List UInt8) (t : PT) : ∀ l, ∀ p ∈ pt n t l, p = (n, t) ∨ p ∈ l
  | [], p, hp => by simp [pt] at hp; exact .inl hp
  | (k, u) :: l, p, hp => by
    simp only [pt] at hp
    split at hp
    · rcases List.mem_cons.1 hp with h | h
      · exact .inl h
      · exact .inr (by simp [h])
    · rcases List.mem_cons.1 hp with h | h
      · exact .inr (by simp [h])
      · rcases pt_mem n t l p h with h | h
        · exact .inl h
        · exact .inr (by simp [h])
theorem ofFold_ok : ∀ (ps : Sb) (x : List (List UInt8) × Sb), (∀ p ∈ ps, PTOk p.2) → (∀ p ∈ x.2, PTOk p.2) → ∀ p ∈ (ps.foldl ofStep x).2, PTOk p.2
  | [], x, _, hx => hx
  | q :: ps, x, hp, hx => by
    refine ofFold_ok ps (ofStep x q) (fun p h => hp p (by simp [h])) fun p h => ?_
    unfold ofStep at h
    split at h
    · exact hx p h
    · simp only [put1] at h
      split at h
      · exact hx p h
      · rcases pt_mem _ _ _ p h with h | h
        · rw [h]; exact hp q (by simp)
        · exact hx p h
theorem ofL_ok (ps : Sb) (hp : ∀ p ∈ ps, PTOk p.2) : ∀ p ∈ ofL ps, PTOk p.2 := ofFold_ok ps _ hp (by simp)

theorem rename_ok (t : PT) (ht : PTOk t) (fro to : List (List UInt8)) (hf : fro.length ≤ 1073741824) {E1 E2 : TypeId} : Pure T 14 [.agg (tyC t), .lst E1 (strC fro) .no, .lst E2 (strC to) .no] (.agg (tyC (ap (ofL (renN to 0 fro)) t))) := by
  intro K h
  refine ACall.ret t14 fun hK => ?_
  simp only [u_C c14.eq_1, runs, e_onS, AH.set_same, AH.set_set, List.map_cons, List.map_nil, List.length_cons, List.length_nil, List.drop_zero, List.drop_succ_cons, List.take_succ_cons, List.take_zero, List.take_nil, List.nil_append, List.cons_append, List.append_nil, List.all_cons, List.all_nil, Nat.zero_add, Nat.add_zero, ite_true, ite_false, if_true, if_false, ne_eq, not_false_eq_true, not_true_eq_false, and_true, true_and, and_self, Bool.and_true, Bool.true_and, Bool.not_true, Bool.not_false, List.getElem?_cons_zero, List.getElem?_cons_succ, Option.isSome_some, beq_self_eq_true, implies_true, forall_const, Nat.le_refl, Option.some.injEq, Option.getD_some, Option.getD_none, List.getElem?_nil, e_Lpn, e_Lpe, e_Lpr, decide_true, decide_false, Int.natCast_nonneg, Int.toNat_natCast, Int.toNat_zero, lt_irr, imp_self, false_implies, big_eq, pevA, takeA, putA, fillA, chunkA, zerosL, binA, binI, binS, isNilA, lookA, bndA, depA, depV, depM, depS, cellAt, elemAt, initA, Nat.reduceAdd, Nat.reduceLeDiff, Nat.reduceEqDiff, reduceIte, reduceCtorEq, Nat.reduceLT, Nat.reduceMul, Nat.reduceSub, Int.reduceAdd, Int.reduceSub, Int.reduceMul, Int.reduceLT, Int.reduceLE, Int.reduceEq, Int.reduceNe, Int.reduceNeg, Int.reduceToNat, tyC_len, tyC_ne, tyC_one, tyC_take, tyC_drop, tyC_ta, tyC_da, tyC_d6]
  intro b6 hb6 hk6
  simp only [runs, e_onS, AH.set_same, AH.set_set, List.map_cons, List.map_nil, List.length_cons, List.length_nil, List.drop_zero, List.drop_succ_cons, List.take_succ_cons, List.take_zero, List.take_nil, List.nil_append, List.cons_append, List.append_nil, List.all_cons, List.all_nil, Nat.zero_add, Nat.add_zero, ite_true, ite_false, if_true, if_false, ne_eq, not_false_eq_true, not_true_eq_false, and_true, true_and, and_self, Bool.and_true, Bool.true_and, Bool.not_true, Bool.not_false, List.getElem?_cons_zero, List.getElem?_cons_succ, Option.isSome_some, beq_self_eq_true, implies_true, forall_const, Nat.le_refl, Option.some.injEq, Option.getD_some, Option.getD_none, List.getElem?_nil, e_Lpn, e_Lpe, e_Lpr, decide_true, decide_false, Int.natCast_nonneg, Int.toNat_natCast, Int.toNat_zero, lt_irr, imp_self, false_implies, big_eq, pevA, takeA, putA, fillA, chunkA, zerosL, binA, binI, binS, isNilA, lookA, bndA, depA, depV, depM, depS, cellAt, elemAt, initA, Nat.reduceAdd, Nat.reduceLeDiff, Nat.reduceEqDiff, reduceIte, reduceCtorEq, Nat.reduceLT, Nat.reduceMul, Nat.reduceSub, Int.reduceAdd, Int.reduceSub, Int.reduceMul, Int.reduceLT, Int.reduceLE, Int.reduceEq, Int.reduceNe, Int.reduceNeg, Int.reduceToNat, strC_len]
  refine W.bound (t := 11) rfl fun hB => ?_
  rw [strC_len] at hB
  refine W.bound (t := 2) rfl fun hB2 => ?_
  rw [strC_len] at hB2
  refine aloop (α := List (List UInt8) × List (List UInt8)) (fun x fr h1 => fro = x.1 ++ x.2 ∧ fr 2 = .lst E2 (strC to) .no ∧ fr 3 = .rptr (tyC t) ∧ fr 6 = .ptr b6 0 ∧ fr 11 = .lst E1 (strC fro) .no ∧ fr 12 = .int .i64 fro.length ∧ fr 13 = .int .i64 x.1.length ∧
      ∃ E' tag tk, (prCs (renN to 0 x.1) ≠ [] → E' = 44) ∧ Toks h.toks tk [(tag, 44, 4, 0)] ∧ fr 7 = .lst E' (prCs (renN to 0 x.1)) tag ∧ h1 = (h.set b6 (.cells [.int .i64 0, .str [], .lst 0 [] .nil] 33)).tk tk) (fun x => x.2.length) ([], fro) ?_ ?_
  · exact ⟨rfl, rfl, rfl, rfl, rfl, rfl, rfl, 0, .nil, h.toks, fun h => absurd rfl h, .one _ _ _, rfl, rfl⟩
  · rintro ⟨done, rest⟩ fr h1 ⟨e1, f2, f3, f6, f11, f12, f13, E', tag, tk, hE, hT, f7, rfl⟩
    simp only at e1 f13 hE f7
    subst e1
    cases rest with
    | nil =>
      rw [List.append_nil] at *
      simp only [u_C l14_0.eq_1, e_dregion d14_1, u_L s14_1.eq_1, u_T g14_1.eq_1, runs, e_onS, AH.set_same, AH.set_set, List.map_cons, List.map_nil, List.length_cons, List.length_nil, List.drop_zero, List.drop_succ_cons, List.take_succ_cons, List.take_zero, List.take_nil, List.nil_append, List.cons_append, List.append_nil, List.all_cons, List.all_nil, Nat.zero_add, Nat.add_zero, ite_true, ite_false, if_true, if_false, ne_eq, not_false_eq_true, not_true_eq_false, and_true, true_and, and_self, Bool.and_true, Bool.true_and, Bool.not_true, Bool.not_false, List.getElem?_cons_zero, List.getElem?_cons_succ, Option.isSome_some, beq_self_eq_true, implies_true, forall_const, Nat.le_refl, Option.some.injEq, Option.getD_some, Option.getD_none, List.getElem?_nil, e_Lpn, e_Lpe, e_Lpr, decide_true, decide_false, Int.natCast_nonneg, Int.toNat_natCast, Int.toNat_zero, lt_irr, imp_self, false_implies, big_eq, pevA, takeA, putA, fillA, chunkA, zerosL, binA, binI, binS, isNilA, lookA, bndA, depA, depV, depM, depS, cellAt, elemAt, initA, Nat.reduceAdd, Nat.reduceLeDiff, Nat.reduceEqDiff, reduceIte, reduceCtorEq, Nat.reduceLT, Nat.reduceMul, Nat.reduceSub, Int.reduceAdd, Int.reduceSub, Int.reduceMul, Int.reduceLT, Int.reduceLE, Int.reduceEq, Int.reduceNe, Int.reduceNeg, Int.reduceToNat, f2, f3, f6, f7, f11, f12, f13, tyC_len, tyC_ne, tyC_one, tyC_take, tyC_drop, tyC_ta, tyC_da, tyC_d6]
      have hps := renN_ok to 0 done
      refine ((of_ok (renN to 0 done) hps).weak (args := [.lst E' (prCs (renN to 0 done)) tag]) rfl (by
        intro i x y hx hy
        match i, hx, hy with
        | 0, hx, hy => cases hx; cases hy; exact .lstE hE)).use ?_
      simp only [runs, e_onS, AH.set_same, AH.set_set, List.map_cons, List.map_nil, List.length_cons, List.length_nil, List.drop_zero, List.drop_succ_cons, List.take_succ_cons, List.take_zero, List.take_nil, List.nil_append, List.cons_append, List.append_nil, List.all_cons, List.all_nil, Nat.zero_add, Nat.add_zero, ite_true, ite_false, if_true, if_false, ne_eq, not_false_eq_true, not_true_eq_false, and_true, true_and, and_self, Bool.and_true, Bool.true_and, Bool.not_true, Bool.not_false, List.getElem?_cons_zero, List.getElem?_cons_succ, Option.isSome_some, beq_self_eq_true, implies_true, forall_const, Nat.le_refl, Option.some.injEq, Option.getD_some, Option.getD_none, List.getElem?_nil, e_Lpn, e_Lpe, e_Lpr, decide_true, decide_false, Int.natCast_nonneg, Int.toNat_natCast, Int.toNat_zero, lt_irr, imp_self, false_implies, big_eq, pevA, takeA, putA, fillA, chunkA, zerosL, binA, binI, binS, isNilA, lookA, bndA, depA, depV, depM, depS, cellAt, elemAt, initA, Nat.reduceAdd, Nat.reduceLeDiff, Nat.reduceEqDiff, reduceIte, reduceCtorEq, Nat.reduceLT, Nat.reduceMul, Nat.reduceSub, Int.reduceAdd, Int.reduceSub, Int.reduceMul, Int.reduceLT, Int.reduceLE, Int.reduceEq, Int.reduceNe, Int.reduceNeg, Int.reduceToNat]
      refine (apply_ok (.fmap (sbC (ofL (renN to 0 done)))) (ofL (renN to 0 done)) (fun _ => rfl) rfl rfl (lk_ok _ (ofL_ok _ hps)) t ht).use ?_
      simp only [runs, e_onS, AH.set_same, AH.set_set, List.map_cons, List.map_nil, List.length_cons, List.length_nil, List.drop_zero, List.drop_succ_cons, List.take_succ_cons, List.take_zero, List.take_nil, List.nil_append, List.cons_append, List.append_nil, List.all_cons, List.all_nil, Nat.zero_add, Nat.add_zero, ite_true, ite_false, if_true, if_false, ne_eq, not_false_eq_true, not_true_eq_false, and_true, true_and, and_self, Bool.and_true, Bool.true_and, Bool.not_true, Bool.not_false, List.getElem?_cons_zero, List.getElem?_cons_succ, Option.isSome_some, beq_self_eq_true, implies_true, forall_const, Nat.le_refl, Option.some.injEq, Option.getD_some, Option.getD_none, List.getElem?_nil, e_Lpn, e_Lpe, e_Lpr, decide_true, decide_false, Int.natCast_nonneg, Int.toNat_natCast, Int.toNat_zero, lt_irr, imp_self, false_implies, big_eq, pevA, takeA, putA, fillA, chunkA, zerosL, binA, binI, binS, isNilA, lookA, bndA, depA, depV, depM, depS, cellAt, elemAt, initA, Nat.reduceAdd, Nat.reduceLeDiff, Nat.reduceEqDiff, reduceIte, reduceCtorEq, Nat.reduceLT, Nat.reduceMul, Nat.reduceSub, Int.reduceAdd, Int.reduceSub, Int.reduceMul, Int.reduceLT, Int.reduceLE, Int.reduceEq, Int.reduceNe, Int.reduceNeg, Int.reduceToNat, f6, hk6, tyC_len, tyC_ne, tyC_one, tyC_take, tyC_drop, tyC_ta, tyC_da, tyC_d6]
      exact ⟨.refl _, le_tk (le_del (AH.le_refl _) hb6) hT.le⟩
    | cons a rest =>
      have hlt : decide ((done.length : Int) < ((done ++ a :: rest).length : Nat)) = true := by simp; omega
      have hu : done.length < (done ++ a :: rest).length := by simp
      have hg : (done ++ a :: rest)[done.length]? = some a := by simp
      simp only [u_C l14_0.eq_1, runs, e_onS, AH.set_same, AH.set_set, List.map_cons, List.map_nil, List.length_cons, List.length_nil, List.drop_zero, List.drop_succ_cons, List.take_succ_cons, List.take_zero, List.take_nil, List.nil_append, List.cons_append, List.append_nil, List.all_cons, List.all_nil, Nat.zero_add, Nat.add_zero, ite_true, ite_false, if_true, if_false, ne_eq, not_false_eq_true, not_true_eq_false, and_true, true_and, and_self, Bool.and_true, Bool.true_and, Bool.not_true, Bool.not_false, List.getElem?_cons_zero, List.getElem?_cons_succ, Option.isSome_some, beq_self_eq_true, implies_true, forall_const, Nat.le_refl, Option.some.injEq, Option.getD_some, Option.getD_none, List.getElem?_nil, e_Lpn, e_Lpe, e_Lpr, decide_true, decide_false, Int.natCast_nonneg, Int.toNat_natCast, Int.toNat_zero, lt_irr, imp_self, false_implies, big_eq, pevA, takeA, putA, fillA, chunkA, zerosL, binA, binI, binS, isNilA, lookA, bndA, depA, depV, depM, depS, cellAt, elemAt, initA, Nat.reduceAdd, Nat.reduceLeDiff, Nat.reduceEqDiff, reduceIte, reduceCtorEq, Nat.reduceLT, Nat.reduceMul, Nat.reduceSub, Int.reduceAdd, Int.reduceSub, Int.reduceMul, Int.reduceLT, Int.reduceLE, Int.reduceEq, Int.reduceNe, Int.reduceNeg, Int.reduceToNat, f2, f3, f6, f7, f11, f12, f13, strC_len, hlt, strC_get, hg, Option.map_some]
      cases hto : to[done.length]? with
      | none =>
        have hd : decide ((done.length : Int) < (to.length : Nat)) = false := by
          have := List.getElem?_eq_none_iff.1 hto; simp; omega
        simp only [runs, e_onS, AH.set_same, AH.set_set, List.map_cons, List.map_nil, List.length_cons, List.length_nil, List.drop_zero, List.drop_succ_cons, List.take_succ_cons, List.take_zero, List.take_nil, List.nil_append, List.cons_append, List.append_nil, List.all_cons, List.all_nil, Nat.zero_add, Nat.add_zero, ite_true, ite_false, if_true, if_false, ne_eq, not_false_eq_true, not_true_eq_false, and_true, true_and, and_self, Bool.and_true, Bool.true_and, Bool.not_true, Bool.not_false, List.getElem?_cons_zero, List.getElem?_cons_succ, Option.isSome_some, beq_self_eq_true, implies_true, forall_const, Nat.le_refl, Option.some.injEq, Option.getD_some, Option.getD_none, List.getElem?_nil, e_Lpn, e_Lpe, e_Lpr, decide_true, decide_false, Int.natCast_nonneg, Int.toNat_natCast, Int.toNat_zero, lt_irr, imp_self, false_implies, big_eq, pevA, takeA, putA, fillA, chunkA, zerosL, binA, binI, binS, isNilA, lookA, bndA, depA, depV, depM, depS, cellAt, elemAt, initA, Nat.reduceAdd, Nat.reduceLeDiff, Nat.reduceEqDiff, reduceIte, reduceCtorEq, Nat.reduceLT, Nat.reduceMul, Nat.reduceSub, Int.reduceAdd, Int.reduceSub, Int.reduceMul, Int.reduceLT, Int.reduceLE, Int.reduceEq, Int.reduceNe, Int.reduceNeg, Int.reduceToNat, hd, f7]
        refine (tvar_ok a).use ?_
        simp only [runs, e_onS, AH.set_same, AH.set_set, List.map_cons, List.map_nil, List.length_cons, List.length_nil, List.drop_zero, List.drop_succ_cons, List.take_succ_cons, List.take_zero, List.take_nil, List.nil_append, List.cons_append, List.append_nil, List.all_cons, List.all_nil, Nat.zero_add, Nat.add_zero, ite_true, ite_false, if_true, if_false, ne_eq, not_false_eq_true, not_true_eq_false, and_true, true_and, and_self, Bool.and_true, Bool.true_and, Bool.not_true, Bool.not_false, List.getElem?_cons_zero, List.getElem?_cons_succ, Option.isSome_some, beq_self_eq_true, implies_true, forall_const, Nat.le_refl, Option.some.injEq, Option.getD_some, Option.getD_none, List.getElem?_nil, e_Lpn, e_Lpe, e_Lpr, decide_true, decide_false, Int.natCast_nonneg, Int.toNat_natCast, Int.toNat_zero, lt_irr, imp_self, false_implies, big_eq, pevA, takeA, putA, fillA, chunkA, zerosL, binA, binI, binS, isNilA, lookA, bndA, depA, depV, depM, depS, cellAt, elemAt, initA, Nat.reduceAdd, Nat.reduceLeDiff, Nat.reduceEqDiff, reduceIte, reduceCtorEq, Nat.reduceLT, Nat.reduceMul, Nat.reduceSub, Int.reduceAdd, Int.reduceSub, Int.reduceMul, Int.reduceLT, Int.reduceLE, Int.reduceEq, Int.reduceNe, Int.reduceNeg, Int.reduceToNat, tyC]
        refine WO.append (i := 0) hT rfl rfl rfl trivial (by decide) ?_ ?_ ?_ ?_ ?_ fun tag' t' hT' => ?_
        · simp
        · simp [oneA]
        · simp
        · intro _; simp [capOk, prCs_len, renN_len]; simp at hf; omega
        · simp [big_eq, prCs_len, renN_len]; simp at hf; omega
        simp only [wrapS hu hB, runs, e_onS, AH.set_same, AH.set_set, List.map_cons, List.map_nil, List.length_cons, List.length_nil, List.drop_zero, List.drop_succ_cons, List.take_succ_cons, List.take_zero, List.take_nil, List.nil_append, List.cons_append, List.append_nil, List.all_cons, List.all_nil, Nat.zero_add, Nat.add_zero, ite_true, ite_false, if_true, if_false, ne_eq, not_false_eq_true, not_true_eq_false, and_true, true_and, and_self, Bool.and_true, Bool.true_and, Bool.not_true, Bool.not_false, List.getElem?_cons_zero, List.getElem?_cons_succ, Option.isSome_some, beq_self_eq_true, implies_true, forall_const, Nat.le_refl, Option.some.injEq, Option.getD_some, Option.getD_none, List.getElem?_nil, e_Lpn, e_Lpe, e_Lpr, decide_true, decide_false, Int.natCast_nonneg, Int.toNat_natCast, Int.toNat_zero, lt_irr, imp_self, false_implies, big_eq, pevA, takeA, putA, fillA, chunkA, zerosL, binA, binI, binS, isNilA, lookA, bndA, depA, depV, depM, depS, cellAt, elemAt, initA, Nat.reduceAdd, Nat.reduceLeDiff, Nat.reduceEqDiff, reduceIte, reduceCtorEq, Nat.reduceLT, Nat.reduceMul, Nat.reduceSub, Int.reduceAdd, Int.reduceSub, Int.reduceMul, Int.reduceLT, Int.reduceLE, Int.reduceEq, Int.reduceNe, Int.reduceNeg, Int.reduceToNat, f13]
        refine ⟨(done ++ [a], rest), by simp, by simp, f2, f3, f6, f11, f12, by simp [upd], 44, tag', t', fun _ => rfl, hT', ?_, rfl⟩
        simp only [e_upd, reduceIte, Nat.reduceEqDiff, renN_app, prCs_app, Nat.zero_add, hto]
        rfl
      | some nx =>
        have hd : decide ((done.length : Int) < (to.length : Nat)) = true := by
          have := (List.getElem?_eq_some_iff.1 hto).1; simp; omega
        simp only [runs, e_onS, AH.set_same, AH.set_set, List.map_cons, List.map_nil, List.length_cons, List.length_nil, List.drop_zero, List.drop_succ_cons, List.take_succ_cons, List.take_zero, List.take_nil, List.nil_append, List.cons_append, List.append_nil, List.all_cons, List.all_nil, Nat.zero_add, Nat.add_zero, ite_true, ite_false, if_true, if_false, ne_eq, not_false_eq_true, not_true_eq_false, and_true, true_and, and_self, Bool.and_true, Bool.true_and, Bool.not_true, Bool.not_false, List.getElem?_cons_zero, List.getElem?_cons_succ, Option.isSome_some, beq_self_eq_true, implies_true, forall_const, Nat.le_refl, Option.some.injEq, Option.getD_some, Option.getD_none, List.getElem?_nil, e_Lpn, e_Lpe, e_Lpr, decide_true, decide_false, Int.natCast_nonneg, Int.toNat_natCast, Int.toNat_zero, lt_irr, imp_self, false_implies, big_eq, pevA, takeA, putA, fillA, chunkA, zerosL, binA, binI, binS, isNilA, lookA, bndA, depA, depV, depM, depS, cellAt, elemAt, initA, Nat.reduceAdd, Nat.reduceLeDiff, Nat.reduceEqDiff, reduceIte, reduceCtorEq, Nat.reduceLT, Nat.reduceMul, Nat.reduceSub, Int.reduceAdd, Int.reduceSub, Int.reduceMul, Int.reduceLT, Int.reduceLE, Int.reduceEq, Int.reduceNe, Int.reduceNeg, Int.reduceToNat, hd, f7, f2, strC_get, hto, Option.map_some]
        refine (tvar_ok nx).use ?_
        simp only [runs, e_onS, AH.set_same, AH.set_set, List.map_cons, List.map_nil, List.length_cons, List.length_nil, List.drop_zero, List.drop_succ_cons, List.take_succ_cons, List.take_zero, List.take_nil, List.nil_append, List.cons_append, List.append_nil, List.all_cons, List.all_nil, Nat.zero_add, Nat.add_zero, ite_true, ite_false, if_true, if_false, ne_eq, not_false_eq_true, not_true_eq_false, and_true, true_and, and_self, Bool.and_true, Bool.true_and, Bool.not_true, Bool.not_false, List.getElem?_cons_zero, List.getElem?_cons_succ, Option.isSome_some, beq_self_eq_true, implies_true, forall_const, Nat.le_refl, Option.some.injEq, Option.getD_some, Option.getD_none, List.getElem?_nil, e_Lpn, e_Lpe, e_Lpr, decide_true, decide_false, Int.natCast_nonneg, Int.toNat_natCast, Int.toNat_zero, lt_irr, imp_self, false_implies, big_eq, pevA, takeA, putA, fillA, chunkA, zerosL, binA, binI, binS, isNilA, lookA, bndA, depA, depV, depM, depS, cellAt, elemAt, initA, Nat.reduceAdd, Nat.reduceLeDiff, Nat.reduceEqDiff, reduceIte, reduceCtorEq, Nat.reduceLT, Nat.reduceMul, Nat.reduceSub, Int.reduceAdd, Int.reduceSub, Int.reduceMul, Int.reduceLT, Int.reduceLE, Int.reduceEq, Int.reduceNe, Int.reduceNeg, Int.reduceToNat, tyC]
        refine WO.append (i := 0) hT rfl rfl rfl trivial (by decide) ?_ ?_ ?_ ?_ ?_ fun tag' t' hT' => ?_
        · simp
        · simp [oneA]
        · simp
        · intro _; simp [capOk, prCs_len, renN_len]; simp at hf; omega
        · simp [big_eq, prCs_len, renN_len]; simp at hf; omega
        simp only [wrapS hu hB, runs, e_onS, AH.set_same, AH.set_set, List.map_cons, List.map_nil, List.length_cons, List.length_nil, List.drop_zero, List.drop_succ_cons, List.take_succ_cons, List.take_zero, List.take_nil, List.nil_append, List.cons_append, List.append_nil, List.all_cons, List.all_nil, Nat.zero_add, Nat.add_zero, ite_true, ite_false, if_true, if_false, ne_eq, not_false_eq_true, not_true_eq_false, and_true, true_and, and_self, Bool.and_true, Bool.true_and, Bool.not_true, Bool.not_false, List.getElem?_cons_zero, List.getElem?_cons_succ, Option.isSome_some, beq_self_eq_true, implies_true, forall_const, Nat.le_refl, Option.some.injEq, Option.getD_some, Option.getD_none, List.getElem?_nil, e_Lpn, e_Lpe, e_Lpr, decide_true, decide_false, Int.natCast_nonneg, Int.toNat_natCast, Int.toNat_zero, lt_irr, imp_self, false_implies, big_eq, pevA, takeA, putA, fillA, chunkA, zerosL, binA, binI, binS, isNilA, lookA, bndA, depA, depV, depM, depS, cellAt, elemAt, initA, Nat.reduceAdd, Nat.reduceLeDiff, Nat.reduceEqDiff, reduceIte, reduceCtorEq, Nat.reduceLT, Nat.reduceMul, Nat.reduceSub, Int.reduceAdd, Int.reduceSub, Int.reduceMul, Int.reduceLT, Int.reduceLE, Int.reduceEq, Int.reduceNe, Int.reduceNeg, Int.reduceToNat, f13]
        refine ⟨(done ++ [a], rest), by simp, by simp, f2, f3, f6, f11, f12, by simp [upd], 44, tag', t', fun _ => rfl, hT', ?_, rfl⟩
        simp only [e_upd, reduceIte, Nat.reduceEqDiff, renN_app, prCs_app, Nat.zero_add, hto]
        rfl
end Go.Proofs.Ytdepohnidjndjaa.p
