/- Order -/
import Derived.Test.YtplnafebmpldgaaSbG1
namespace Go.Proofs.Ytplnafebmpldgaa.p
open Go.Proofs Go Go.Cn code grp
set_option linter.unusedSimpArgs false
set_option linter.unusedVariables false

theorem toks_tail {t0 t : Nat → Option Tok} {a : Tag × TypeId × Nat × Nat} {L : List (Tag × TypeId × Nat × Nat)} (h : Toks t0 t (a :: L)) : Toks t0 t L :=
  ⟨h.le, fun i tag E sz k hi => h.own (i + 1) tag E sz k hi, fun i tag E sz k c hi hc => h.out (i + 1) tag E sz k c hi hc, fun i j a b c hij ha hb hc => h.sep (i + 1) (j + 1) a b c (by omega) ha hb hc⟩
def matC (A : List (List Bool)) : List (List AV) := A.map fun r => [.lst 4 (bL r) .no]
theorem matC_len (A : List (List Bool)) : (matC A).length = A.length := by rw [matC, List.length_map]
theorem matC_get (A : List (List Bool)) (i : Nat) : (matC A)[i]? = (A[i]?).map fun r => [AV.lst 4 (bL r) .no] := by rw [matC, List.getElem?_map]
theorem matC_app (A B : List (List Bool)) : matC (A ++ B) = matC A ++ matC B := by rw [matC, List.map_append]; rfl
/-- groups that are being told -/
abbrev So := List (List Nat × TypeId × Tag)
def soC (S : So) : List (List AV) := S.map fun s => [.lst s.2.1 (nC s.1) s.2.2]
theorem soC_len (S : So) : (soC S).length = S.length := by rw [soC, List.length_map]
theorem soC_app (A B : So) : soC (A ++ B) = soC A ++ soC B := by rw [soC, List.map_append]; rfl
def oC (o : List (List Nat)) : List (List AV) := o.map fun g => [.lst 3 (nC g) .no]
theorem oC_len (S : List (List Nat)) : (oC S).length = S.length := by rw [oC, List.length_map]
theorem oC_get (A : List (List Nat)) (i : Nat) : (oC A)[i]? = (A[i]?).map fun r => [AV.lst 3 (nC r) .no] := by rw [oC, List.getElem?_map]
theorem max0 (n : Nat) : max (n : Int) 0 = n := by omega

/-- is one with the other? -/
def inB (A : List (List Bool)) (k y : Nat) : Bool := y == k || (at2 A k y && at2 A y k)
def okB (A : List (List Bool)) (done : List Bool) (k y : Nat) : Bool := inB A k y || !(at2 A k y && !done.getD y false)
theorem at2_get {n : Nat} {x : List (List Int)} {A : List (List Bool)} (hA : IsM n x A) {k y : Nat} (hk : k < n) (hy : y < n) : ∃ r, A[k]? = some r ∧ r[y]? = some (at2 A k y) := by
  have h1 : k < A.length := by rw [hA.1]; exact hk
  have e := List.getElem?_eq_getElem h1
  have h2 : y < (A[k]).length := by rw [hA.2.1 _ (List.getElem_mem h1)]; exact hy
  refine ⟨_, e, ?_⟩
  unfold at2
  rw [e]
  simp [List.getD, h2]
theorem scc_eq {n : Nat} {x : List (List Int)} {A : List (List Bool)} (hA : IsM n x A) (k : Nat) : scc A k = (List.range n).filter (inB A k) := by rw [scc, hA.1]; rfl
theorem rdy_eq {n : Nat} {x : List (List Int)} {A : List (List Bool)} (hA : IsM n x A) (done : List Bool) (k : Nat) : rdy A done k = (List.range n).all (okB A done k) := by rw [rdy, hA.1]; rfl
theorem fil_succ (p : Nat → Bool) (y : Nat) : (List.range (y + 1)).filter p = (List.range y).filter p ++ (if p y = true then [y] else []) := by
  rw [List.range_succ, List.filter_append]
  cases e : p y <;> simp [e]
theorem all_succ (p : Nat → Bool) (y : Nat) : (List.range (y + 1)).all p = ((List.range y).all p && p y) := by
  rw [List.range_succ, List.all_append]; simp
theorem it_succ {A : List (List Bool)} {j k : Nat} (h : nxt A (it A j).1 = some k) : it A (j + 1) = (grp.mark (it A j).1 (scc A k), (it A j).2 ++ [scc A k]) := by
  show (match nxt A (it A j).1 with | some k => _ | none => _) = _
  rw [h]
theorem mark_app (d : List Bool) (l : List Nat) (z : Nat) : grp.mark d (l ++ [z]) = (grp.mark d l).set z true := by rw [grp.mark, List.foldl_append]; rfl
theorem so_wk {S : So} {E : TypeId} {t : Tag} {out : List (List Nat)} (hE : soC S ≠ [] → E = 22) (hS : S.map (fun g => g.1) = out) (h3 : ∀ g ∈ S, g.1 ≠ [] → g.2.1 = 3) : Wk (.lst E (soC S) t) (.lst 22 (oC out) .no) := by
  refine .trans (.lstE hE) ?_
  have e1 : soC S = (S.map fun s => AV.lst s.2.1 (nC s.1) s.2.2).map fun a => [a] := by rw [soC, List.map_map]; rfl
  have e2 : oC out = (S.map fun s => AV.lst 3 (nC s.1) .no).map fun a => [a] := by rw [oC, ← hS, List.map_map, List.map_map]; rfl
  rw [e1, e2]
  refine single_wk (by simp) fun i x y hx hy => ?_
  rw [List.getElem?_map] at hx hy
  cases e : S[i]? with
  | none => rw [e] at hx; cases hx
  | some s =>
    rw [e] at hx hy
    cases hx; cases hy
    refine .lstE fun hne => h3 s (List.mem_of_getElem? e) fun e => hne ?_
    rw [e]; rfl
theorem nxt_some {n : Nat} {x : List (List Int)} {A : List (List Bool)} (hA : IsM n x A) {done : List Bool} {k : Nat} (hk : k < n) (h0 : ∀ j, j < k → (!done.getD j false && rdy A done j) = false) (h1 : (!done.getD k false && rdy A done k) = true) : nxt A done = some k := by
  unfold nxt
  rw [List.find?_range_eq_some]
  exact ⟨h1, by rw [List.mem_range, hA.1]; exact hk, fun j hj => by rw [h0 j hj]; rfl⟩
theorem nxt_none {n : Nat} {x : List (List Int)} {A : List (List Bool)} (hA : IsM n x A) {done : List Bool} (h0 : ∀ j, j < n → (!done.getD j false && rdy A done j) = false) : nxt A done = none := by
  unfold nxt
  rw [List.find?_range_eq_none]
  intro j hj
  rw [h0 j (by rw [← hA.1]; exact hj)]; rfl

def OrdQ (n : Nat) (x : List (List Int)) (h : AH) (v : AV) (h' : AH) : Prop := ∃ out, Ord (matF n x) out ∧ v = .lst 22 (oC out) .no ∧ h' = h
set_option maxRecDepth 8000 in
theorem order_gen (x : List (List Int)) (n : Nat) (hn : 0 < n) (hn2 : n ≤ 15) (hx : InR n x) (hrl : ∀ row ∈ x, row.length ≤ 1000) (nv : AV) (K : Nat → Prop) (h : AH) (hnv : Rows x n h nv) : ACall T K (.func 7) [.int .i64 n, nv] h (OrdQ n x h) := by
  refine ACall.retQ t7 fun hK => ?_
  simp only [u_C c7.eq_1, runs, e_onS, AH.set_same, AH.set_set, List.map_cons, List.map_nil, List.length_cons, List.length_nil, List.drop_zero, List.drop_succ_cons, List.take_succ_cons, List.take_zero, List.take_nil, List.nil_append, List.cons_append, List.append_nil, List.all_cons, List.all_nil, Nat.zero_add, Nat.add_zero, ite_true, ite_false, if_true, if_false, ne_eq, not_false_eq_true, not_true_eq_false, and_true, true_and, and_self, Bool.and_true, Bool.true_and, Bool.not_true, Bool.not_false, List.getElem?_cons_zero, List.getElem?_cons_succ, Option.isSome_some, beq_self_eq_true, implies_true, forall_const, Nat.le_refl, Option.some.injEq, Option.getD_some, Option.getD_none, List.getElem?_nil, e_Lpn, e_Lpe, e_Lpr, decide_true, decide_false, Int.natCast_nonneg, Int.toNat_natCast, Int.toNat_zero, lt_irr, imp_self, false_implies, big_eq, pevA, takeA, putA, fillA, chunkA, zerosL, binA, binI, binS, isNilA, lookA, bndA, depA, depV, depM, depS, cellAt, elemAt, initA, Nat.reduceAdd, Nat.reduceLeDiff, Nat.reduceEqDiff, reduceIte, reduceCtorEq, Nat.reduceLT, Nat.reduceMul, Nat.reduceSub, Int.reduceAdd, Int.reduceSub, Int.reduceMul, Int.reduceLT, Int.reduceLE, Int.reduceEq, Int.reduceNe, Int.reduceNeg, Int.reduceToNat, max0]
  refine aloop (α := Nat) (fun i fr h1 => fr 0 = .int .i64 n ∧ fr 1 = nv ∧ fr 4 = .lst 0 [] .nil ∧ fr 16 = .int .i64 n ∧ fr 17 = .int .i64 i ∧ i ≤ n ∧
      ∃ E5 tag tk, (matC ((List.range i).map (rowF n x)) ≠ [] → E5 = 33) ∧ fr 5 = .lst E5 (matC ((List.range i).map (rowF n x))) tag ∧ Toks h.toks tk [(tag, 33, 1, 0)] ∧ h1 = h.tk tk) (fun i => n - i) 0 ?_ ?_
  · exact ⟨rfl, rfl, rfl, rfl, rfl, Nat.zero_le _, 0, .nil, h.toks, fun h => absurd rfl h, rfl, .one _ _ _, rfl⟩
  · rintro i fr h1 ⟨f0, f1, f4, f16, f17, hi, E5, tag, tk, hE5, f5, hT, rfl⟩
    by_cases hlt : i < n
    · have k1 : decide ((i : Int) < (n : Int)) = true := by simp; omega
      simp only [u_C l7_0.eq_1, runs, e_onS, AH.set_same, AH.set_set, List.map_cons, List.map_nil, List.length_cons, List.length_nil, List.drop_zero, List.drop_succ_cons, List.take_succ_cons, List.take_zero, List.take_nil, List.nil_append, List.cons_append, List.append_nil, List.all_cons, List.all_nil, Nat.zero_add, Nat.add_zero, ite_true, ite_false, if_true, if_false, ne_eq, not_false_eq_true, not_true_eq_false, and_true, true_and, and_self, Bool.and_true, Bool.true_and, Bool.not_true, Bool.not_false, List.getElem?_cons_zero, List.getElem?_cons_succ, Option.isSome_some, beq_self_eq_true, implies_true, forall_const, Nat.le_refl, Option.some.injEq, Option.getD_some, Option.getD_none, List.getElem?_nil, e_Lpn, e_Lpe, e_Lpr, decide_true, decide_false, Int.natCast_nonneg, Int.toNat_natCast, Int.toNat_zero, lt_irr, imp_self, false_implies, big_eq, pevA, takeA, putA, fillA, chunkA, zerosL, binA, binI, binS, isNilA, lookA, bndA, depA, depV, depM, depS, cellAt, elemAt, initA, Nat.reduceAdd, Nat.reduceLeDiff, Nat.reduceEqDiff, reduceIte, reduceCtorEq, Nat.reduceLT, Nat.reduceMul, Nat.reduceSub, Int.reduceAdd, Int.reduceSub, Int.reduceMul, Int.reduceLT, Int.reduceLE, Int.reduceEq, Int.reduceNe, Int.reduceNeg, Int.reduceToNat, f0, f1, f5, f16, f17, k1]
      refine (reach_gen x n i hlt hn2 hx hrl nv K (h.tk tk) hnv).mono ?_
      rintro _ _ ⟨rfl, rfl⟩
      simp only [runs, e_onS, AH.set_same, AH.set_set, List.map_cons, List.map_nil, List.length_cons, List.length_nil, List.drop_zero, List.drop_succ_cons, List.take_succ_cons, List.take_zero, List.take_nil, List.nil_append, List.cons_append, List.append_nil, List.all_cons, List.all_nil, Nat.zero_add, Nat.add_zero, ite_true, ite_false, if_true, if_false, ne_eq, not_false_eq_true, not_true_eq_false, and_true, true_and, and_self, Bool.and_true, Bool.true_and, Bool.not_true, Bool.not_false, List.getElem?_cons_zero, List.getElem?_cons_succ, Option.isSome_some, beq_self_eq_true, implies_true, forall_const, Nat.le_refl, Option.some.injEq, Option.getD_some, Option.getD_none, List.getElem?_nil, e_Lpn, e_Lpe, e_Lpr, decide_true, decide_false, Int.natCast_nonneg, Int.toNat_natCast, Int.toNat_zero, lt_irr, imp_self, false_implies, big_eq, pevA, takeA, putA, fillA, chunkA, zerosL, binA, binI, binS, isNilA, lookA, bndA, depA, depV, depM, depS, cellAt, elemAt, initA, Nat.reduceAdd, Nat.reduceLeDiff, Nat.reduceEqDiff, reduceIte, reduceCtorEq, Nat.reduceLT, Nat.reduceMul, Nat.reduceSub, Int.reduceAdd, Int.reduceSub, Int.reduceMul, Int.reduceLT, Int.reduceLE, Int.reduceEq, Int.reduceNe, Int.reduceNeg, Int.reduceToNat, f0, f1, f5, f16, f17]
      refine WO.append (i := 0) hT rfl rfl rfl trivial (by decide) ?_ ?_ ?_ ?_ ?_ fun tag' t' hT' => ?_
      · simp
      · simp [oneA]
      · simp
      · intro _; simp only [capOk, matC_len, List.length_map, List.length_range, List.length_singleton]; omega
      · simp only [big_eq, matC_len, List.length_map, List.length_range, List.length_singleton]; omega
      have hw : IntKind.i64.wrap ((i : Int) + 1) = ((i + 1 : Nat) : Int) := wrap64 ⟨by omega, by omega⟩
      simp only [runs, e_onS, AH.set_same, AH.set_set, List.map_cons, List.map_nil, List.length_cons, List.length_nil, List.drop_zero, List.drop_succ_cons, List.take_succ_cons, List.take_zero, List.take_nil, List.nil_append, List.cons_append, List.append_nil, List.all_cons, List.all_nil, Nat.zero_add, Nat.add_zero, ite_true, ite_false, if_true, if_false, ne_eq, not_false_eq_true, not_true_eq_false, and_true, true_and, and_self, Bool.and_true, Bool.true_and, Bool.not_true, Bool.not_false, List.getElem?_cons_zero, List.getElem?_cons_succ, Option.isSome_some, beq_self_eq_true, implies_true, forall_const, Nat.le_refl, Option.some.injEq, Option.getD_some, Option.getD_none, List.getElem?_nil, e_Lpn, e_Lpe, e_Lpr, decide_true, decide_false, Int.natCast_nonneg, Int.toNat_natCast, Int.toNat_zero, lt_irr, imp_self, false_implies, big_eq, pevA, takeA, putA, fillA, chunkA, zerosL, binA, binI, binS, isNilA, lookA, bndA, depA, depV, depM, depS, cellAt, elemAt, initA, Nat.reduceAdd, Nat.reduceLeDiff, Nat.reduceEqDiff, reduceIte, reduceCtorEq, Nat.reduceLT, Nat.reduceMul, Nat.reduceSub, Int.reduceAdd, Int.reduceSub, Int.reduceMul, Int.reduceLT, Int.reduceLE, Int.reduceEq, Int.reduceNe, Int.reduceNeg, Int.reduceToNat, f17, hw]
      refine ⟨i + 1, by show n - (i + 1) < n - i; omega, f0, f1, f4, f16, by simp [upd], hlt, 33, tag', t', fun _ => rfl, ?_, hT', rfl⟩
      simp only [e_upd, reduceIte, Nat.reduceEqDiff, List.range_succ, List.map_append, matC_app]; rfl
    · have k1 : decide ((i : Int) < (n : Int)) = false := by simp; omega
      have hin : i = n := by omega
      subst hin
      have hmat : (List.range i).map (rowF i x) = matF i x := rfl
      rw [hmat] at f5 hE5
      have hA := matF_is i x
      have hlen := hA.1
      simp only [u_C l7_0.eq_1, runs, e_onS, AH.set_same, AH.set_set, List.map_cons, List.map_nil, List.length_cons, List.length_nil, List.drop_zero, List.drop_succ_cons, List.take_succ_cons, List.take_zero, List.take_nil, List.nil_append, List.cons_append, List.append_nil, List.all_cons, List.all_nil, Nat.zero_add, Nat.add_zero, ite_true, ite_false, if_true, if_false, ne_eq, not_false_eq_true, not_true_eq_false, and_true, true_and, and_self, Bool.and_true, Bool.true_and, Bool.not_true, Bool.not_false, List.getElem?_cons_zero, List.getElem?_cons_succ, Option.isSome_some, beq_self_eq_true, implies_true, forall_const, Nat.le_refl, Option.some.injEq, Option.getD_some, Option.getD_none, List.getElem?_nil, e_Lpn, e_Lpe, e_Lpr, decide_true, decide_false, Int.natCast_nonneg, Int.toNat_natCast, Int.toNat_zero, lt_irr, imp_self, false_implies, big_eq, pevA, takeA, putA, fillA, chunkA, zerosL, binA, binI, binS, isNilA, lookA, bndA, depA, depV, depM, depS, cellAt, elemAt, initA, Nat.reduceAdd, Nat.reduceLeDiff, Nat.reduceEqDiff, reduceIte, reduceCtorEq, Nat.reduceLT, Nat.reduceMul, Nat.reduceSub, Int.reduceAdd, Int.reduceSub, Int.reduceMul, Int.reduceLT, Int.reduceLE, Int.reduceEq, Int.reduceNe, Int.reduceNeg, Int.reduceToNat, f0, f1, f4, f5, f16, f17, k1, matC_len, hlen]
      refine WO.mksl (j := .i64) (k := .i64) (m := i) (n := i) rfl rfl (Nat.le_refl _) (by omega) (by omega) fun b hb hk => ?_
      have hc0 : (zerosL [Value.bool false] i).map ofC1 = bC (List.replicate i false) := by
        rw [zerosL_one, bC, List.map_replicate, List.map_replicate]; rfl
      simp only [runs, e_onS, AH.set_same, AH.set_set, List.map_cons, List.map_nil, List.length_cons, List.length_nil, List.drop_zero, List.drop_succ_cons, List.take_succ_cons, List.take_zero, List.take_nil, List.nil_append, List.cons_append, List.append_nil, List.all_cons, List.all_nil, Nat.zero_add, Nat.add_zero, ite_true, ite_false, if_true, if_false, ne_eq, not_false_eq_true, not_true_eq_false, and_true, true_and, and_self, Bool.and_true, Bool.true_and, Bool.not_true, Bool.not_false, List.getElem?_cons_zero, List.getElem?_cons_succ, Option.isSome_some, beq_self_eq_true, implies_true, forall_const, Nat.le_refl, Option.some.injEq, Option.getD_some, Option.getD_none, List.getElem?_nil, e_Lpn, e_Lpe, e_Lpr, decide_true, decide_false, Int.natCast_nonneg, Int.toNat_natCast, Int.toNat_zero, lt_irr, imp_self, false_implies, big_eq, pevA, takeA, putA, fillA, chunkA, zerosL, binA, binI, binS, isNilA, lookA, bndA, depA, depV, depM, depS, cellAt, elemAt, initA, Nat.reduceAdd, Nat.reduceLeDiff, Nat.reduceEqDiff, reduceIte, reduceCtorEq, Nat.reduceLT, Nat.reduceMul, Nat.reduceSub, Int.reduceAdd, Int.reduceSub, Int.reduceMul, Int.reduceLT, Int.reduceLE, Int.reduceEq, Int.reduceNe, Int.reduceNeg, Int.reduceToNat, f0, f1, f4, f5, f16, f17, matC_len, hlen, hc0]
      have h0n : decide ((0 : Int) < (i : Int)) = true := decide_eq_true (by omega)
      have hle0 := hT.le
      clear f0 f1 f4 f16 f17 hT hmat k1 hi hlt
      generalize hmA : matF i x = A at *
      generalize hn' : i = n at *
      refine aloop (α := Nat × So) (fun s fr h1 => fr 5 = .lst E5 (matC A) tag ∧ fr 7 = .slice b 0 n n ∧ s.2.map (fun g => g.1) = (it A s.1).2 ∧ (∀ g ∈ s.2, g.1 ≠ [] → g.2.1 = 3) ∧ s.2.length + cnt (it A s.1).1 ≤ n ∧
          ∃ E8 tag8 tk', (soC s.2 ≠ [] → E8 = 22) ∧ fr 8 = .lst E8 (soC s.2) tag8 ∧ Toks tk tk' [(tag8, 22, 1, 0)] ∧ h1 = (h.set b (.cells (bC (it A s.1).1) 4)).tk tk') (fun s => cnt (it A s.1).1) (0, []) ?_ ?_
      · have h00 : (it A 0).1 = List.replicate n false := by show List.replicate A.length false = _; rw [hlen]
        refine ⟨f5, rfl, rfl, by simp, ?_, 0, .nil, tk, fun h => absurd rfl h, rfl, .one _ _ _, by rw [h00]⟩
        have := cnt_le (it A 0).1
        rw [h00, List.length_replicate] at this
        rw [h00]; simpa using this
      · clear f5
        rintro ⟨j, S⟩ fr h1 ⟨f5, f7, hS, hS3, hSn, E8, tag8, tk1, hE8, f8, hT, rfl⟩
        simp only at hS hS3 hSn hE8 f8
        have hI := Inv.it hx hA j
        simp only [u_C l7_4.eq_1, runs, e_onS, AH.set_same, AH.set_set, List.map_cons, List.map_nil, List.length_cons, List.length_nil, List.drop_zero, List.drop_succ_cons, List.take_succ_cons, List.take_zero, List.take_nil, List.nil_append, List.cons_append, List.append_nil, List.all_cons, List.all_nil, Nat.zero_add, Nat.add_zero, ite_true, ite_false, if_true, if_false, ne_eq, not_false_eq_true, not_true_eq_false, and_true, true_and, and_self, Bool.and_true, Bool.true_and, Bool.not_true, Bool.not_false, List.getElem?_cons_zero, List.getElem?_cons_succ, Option.isSome_some, beq_self_eq_true, implies_true, forall_const, Nat.le_refl, Option.some.injEq, Option.getD_some, Option.getD_none, List.getElem?_nil, e_Lpn, e_Lpe, e_Lpr, decide_true, decide_false, Int.natCast_nonneg, Int.toNat_natCast, Int.toNat_zero, lt_irr, imp_self, false_implies, big_eq, pevA, takeA, putA, fillA, chunkA, zerosL, binA, binI, binS, isNilA, lookA, bndA, depA, depV, depM, depS, cellAt, elemAt, initA, Nat.reduceAdd, Nat.reduceLeDiff, Nat.reduceEqDiff, reduceIte, reduceCtorEq, Nat.reduceLT, Nat.reduceMul, Nat.reduceSub, Int.reduceAdd, Int.reduceSub, Int.reduceMul, Int.reduceLT, Int.reduceLE, Int.reduceEq, Int.reduceNe, Int.reduceNeg, Int.reduceToNat, f5, f7, f8, matC_len, hlen, h0n]
        generalize hdn : (it A j).1 = done at *
        have hdl := hI.len
        refine aloop (α := Nat) (fun k fr h1 => fr 5 = .lst E5 (matC A) tag ∧ fr 7 = .slice b 0 n n ∧ fr 8 = .lst E8 (soC S) tag8 ∧ fr 35 = .int .i64 n ∧ fr 36 = .int .i64 k ∧ k ≤ n ∧ (∀ i, i < k → (!done.getD i false && rdy A done i) = false) ∧
            ∃ tk', Toks tk tk' [(tag8, 22, 1, 0)] ∧ h1 = (h.set b (.cells (bC done) 4)).tk tk') (fun k => n - k) 0 ?_ ?_
        · exact ⟨f5, f7, f8, rfl, rfl, Nat.zero_le _, fun i hi => absurd hi (Nat.not_lt_zero _), tk1, hT, rfl⟩
        · clear f5 f7 f8 hT
          rintro k fr h1 ⟨f5, f7, f8, f35, f36, hkn, hno, tk1, hT, rfl⟩
          by_cases hlt : k < n
          · have k1 : decide ((k : Int) < (n : Int)) = true := by simp; omega
            have c1 : (k : Int) < (n : Int) := by omega
            have hgk : done[k]? = some (done.getD k false) := by
              have : k < done.length := by omega
              simp [List.getD, this]
            have hw : IntKind.i64.wrap ((k : Int) + 1) = ((k + 1 : Nat) : Int) := wrap64 ⟨by omega, by omega⟩
            have hnext : (!done.getD k false && rdy A done k) = false → ∀ i, i < k + 1 → (!done.getD i false && rdy A done i) = false := fun h i hi => by
              rcases Nat.lt_succ_iff_lt_or_eq.1 hi with hi | hi
              · exact hno i hi
              · rw [hi]; exact h
            simp only [u_C l7_3.eq_1, runs, e_onS, AH.set_same, AH.set_set, List.map_cons, List.map_nil, List.length_cons, List.length_nil, List.drop_zero, List.drop_succ_cons, List.take_succ_cons, List.take_zero, List.take_nil, List.nil_append, List.cons_append, List.append_nil, List.all_cons, List.all_nil, Nat.zero_add, Nat.add_zero, ite_true, ite_false, if_true, if_false, ne_eq, not_false_eq_true, not_true_eq_false, and_true, true_and, and_self, Bool.and_true, Bool.true_and, Bool.not_true, Bool.not_false, List.getElem?_cons_zero, List.getElem?_cons_succ, Option.isSome_some, beq_self_eq_true, implies_true, forall_const, Nat.le_refl, Option.some.injEq, Option.getD_some, Option.getD_none, List.getElem?_nil, e_Lpn, e_Lpe, e_Lpr, decide_true, decide_false, Int.natCast_nonneg, Int.toNat_natCast, Int.toNat_zero, lt_irr, imp_self, false_implies, big_eq, pevA, takeA, putA, fillA, chunkA, zerosL, binA, binI, binS, isNilA, lookA, bndA, depA, depV, depM, depS, cellAt, elemAt, initA, Nat.reduceAdd, Nat.reduceLeDiff, Nat.reduceEqDiff, reduceIte, reduceCtorEq, Nat.reduceLT, Nat.reduceMul, Nat.reduceSub, Int.reduceAdd, Int.reduceSub, Int.reduceMul, Int.reduceLT, Int.reduceLE, Int.reduceEq, Int.reduceNe, Int.reduceNeg, Int.reduceToNat, f5, f7, f8, f35, f36, k1, c1, if_true, Int.toNat_natCast, Nat.mul_one, bC_get, hgk, Option.map_some]
            cases hd : done.getD k false with
            | true =>
              simp only [runs, e_onS, AH.set_same, AH.set_set, List.map_cons, List.map_nil, List.length_cons, List.length_nil, List.drop_zero, List.drop_succ_cons, List.take_succ_cons, List.take_zero, List.take_nil, List.nil_append, List.cons_append, List.append_nil, List.all_cons, List.all_nil, Nat.zero_add, Nat.add_zero, ite_true, ite_false, if_true, if_false, ne_eq, not_false_eq_true, not_true_eq_false, and_true, true_and, and_self, Bool.and_true, Bool.true_and, Bool.not_true, Bool.not_false, List.getElem?_cons_zero, List.getElem?_cons_succ, Option.isSome_some, beq_self_eq_true, implies_true, forall_const, Nat.le_refl, Option.some.injEq, Option.getD_some, Option.getD_none, List.getElem?_nil, e_Lpn, e_Lpe, e_Lpr, decide_true, decide_false, Int.natCast_nonneg, Int.toNat_natCast, Int.toNat_zero, lt_irr, imp_self, false_implies, big_eq, pevA, takeA, putA, fillA, chunkA, zerosL, binA, binI, binS, isNilA, lookA, bndA, depA, depV, depM, depS, cellAt, elemAt, initA, Nat.reduceAdd, Nat.reduceLeDiff, Nat.reduceEqDiff, reduceIte, reduceCtorEq, Nat.reduceLT, Nat.reduceMul, Nat.reduceSub, Int.reduceAdd, Int.reduceSub, Int.reduceMul, Int.reduceLT, Int.reduceLE, Int.reduceEq, Int.reduceNe, Int.reduceNeg, Int.reduceToNat, f36, hw]
              exact ⟨k + 1, by show n - (k + 1) < n - k; omega, f5, f7, f8, f35, by simp [upd], hlt, hnext (by rw [hd]; rfl), tk1, hT, rfl⟩
            | false =>
              simp only [runs, e_onS, AH.set_same, AH.set_set, List.map_cons, List.map_nil, List.length_cons, List.length_nil, List.drop_zero, List.drop_succ_cons, List.take_succ_cons, List.take_zero, List.take_nil, List.nil_append, List.cons_append, List.append_nil, List.all_cons, List.all_nil, Nat.zero_add, Nat.add_zero, ite_true, ite_false, if_true, if_false, ne_eq, not_false_eq_true, not_true_eq_false, and_true, true_and, and_self, Bool.and_true, Bool.true_and, Bool.not_true, Bool.not_false, List.getElem?_cons_zero, List.getElem?_cons_succ, Option.isSome_some, beq_self_eq_true, implies_true, forall_const, Nat.le_refl, Option.some.injEq, Option.getD_some, Option.getD_none, List.getElem?_nil, e_Lpn, e_Lpe, e_Lpr, decide_true, decide_false, Int.natCast_nonneg, Int.toNat_natCast, Int.toNat_zero, lt_irr, imp_self, false_implies, big_eq, pevA, takeA, putA, fillA, chunkA, zerosL, binA, binI, binS, isNilA, lookA, bndA, depA, depV, depM, depS, cellAt, elemAt, initA, Nat.reduceAdd, Nat.reduceLeDiff, Nat.reduceEqDiff, reduceIte, reduceCtorEq, Nat.reduceLT, Nat.reduceMul, Nat.reduceSub, Int.reduceAdd, Int.reduceSub, Int.reduceMul, Int.reduceLT, Int.reduceLE, Int.reduceEq, Int.reduceNe, Int.reduceNeg, Int.reduceToNat, f5, f7, f8, f35, f36, matC_len, hlen]
              refine aloop (α := Nat) (fun y fr h1 => fr 5 = .lst E5 (matC A) tag ∧ fr 7 = .slice b 0 n n ∧ fr 8 = .lst E8 (soC S) tag8 ∧ fr 9 = .int .i64 k ∧ fr 35 = .int .i64 n ∧ fr 36 = .int .i64 k ∧ fr 44 = .int .i64 n ∧ fr 45 = .int .i64 y ∧ y ≤ n ∧
                  fr 11 = .bool ((List.range y).all (okB A done k)) ∧ ∃ E10 tag10 tk', (nC ((List.range y).filter (inB A k)) ≠ [] → E10 = 3) ∧ fr 10 = .lst E10 (nC ((List.range y).filter (inB A k))) tag10 ∧ Toks tk tk' [(tag10, 3, 1, 0), (tag8, 22, 1, 0)] ∧ h1 = (h.set b (.cells (bC done) 4)).tk tk') (fun y => n - y) 0 ?_ ?_
              · exact ⟨f5, f7, f8, rfl, f35, f36, rfl, rfl, Nat.zero_le _, rfl, 0, .nil, tk1, fun h => absurd rfl h, rfl, hT.cons _ _, rfl⟩
              · clear f5 f7 f8 f35 f36 hT
                rintro y fr h1 ⟨f5, f7, f8, f9, f35, f36, f44, f45, hyn, f11, E10, tag10, tk1, hE10, f10, hT, rfl⟩
                by_cases hylt : y < n
                · have k2 : decide ((y : Int) < (n : Int)) = true := by simp; omega
                  have c2 : (y : Int) < (n : Int) := by omega
                  have hw2 : IntKind.i64.wrap ((y : Int) + 1) = ((y + 1 : Nat) : Int) := wrap64 ⟨by omega, by omega⟩
                  obtain ⟨rk, hrk, hrky⟩ := at2_get hA hlt hylt
                  obtain ⟨ry, hry, hryk⟩ := at2_get hA hylt hlt
                  have hgy : done[y]? = some (done.getD y false) := by
                    have : y < done.length := by omega
                    simp [List.getD, this]
                  have happ : inB A k y = true → ∀ fr tk1, fr 5 = .lst E5 (matC A) tag → fr 7 = .slice b 0 n n → fr 8 = .lst E8 (soC S) tag8 → fr 9 = .int .i64 k → fr 35 = .int .i64 n → fr 36 = .int .i64 k → fr 44 = .int .i64 n → fr 45 = .int .i64 ((y + 1 : Nat) : Int) →
                      fr 11 = .bool ((List.range y).all (okB A done k)) → (∃ E10 tag10, E10 = 3 ∧ fr 10 = .lst E10 (nC ((List.range y).filter (inB A k)) ++ nC [y]) tag10 ∧ Toks tk tk1 [(tag10, 3, 1, 0), (tag8, 22, 1, 0)]) →
                      Nxt (fun (y : Nat) fr h1 => fr 5 = .lst E5 (matC A) tag ∧ fr 7 = .slice b 0 n n ∧ fr 8 = .lst E8 (soC S) tag8 ∧ fr 9 = .int .i64 k ∧ fr 35 = .int .i64 n ∧ fr 36 = .int .i64 k ∧ fr 44 = .int .i64 n ∧ fr 45 = .int .i64 y ∧ y ≤ n ∧
                  fr 11 = .bool ((List.range y).all (okB A done k)) ∧ ∃ E10 tag10 tk', (nC ((List.range y).filter (inB A k)) ≠ [] → E10 = 3) ∧ fr 10 = .lst E10 (nC ((List.range y).filter (inB A k))) tag10 ∧ Toks tk tk' [(tag10, 3, 1, 0), (tag8, 22, 1, 0)] ∧ h1 = (h.set b (.cells (bC done) 4)).tk tk') (fun y => n - y) y fr ((h.set b (.cells (bC done) 4)).tk tk1) := by
                    rintro hin fr tk1 f5 f7 f8 f9 f35 f36 f44 f45 f11 ⟨E10, tag10, h1, f10, hT⟩
                    refine ⟨y + 1, by show n - (y + 1) < n - y; omega, f5, f7, f8, f9, f35, f36, f44, f45, hylt, ?_, E10, tag10, tk1, fun _ => h1, ?_, hT, rfl⟩
                    · rw [all_succ, f11]; simp only [okB, hin, Bool.true_or, Bool.and_true]
                    · rw [fil_succ, if_pos hin, nC_app, f10]
                  have hskip : inB A k y = false → ∀ fr tk1, fr 5 = .lst E5 (matC A) tag → fr 7 = .slice b 0 n n → fr 8 = .lst E8 (soC S) tag8 → fr 9 = .int .i64 k → fr 35 = .int .i64 n → fr 36 = .int .i64 k → fr 44 = .int .i64 n → fr 45 = .int .i64 ((y + 1 : Nat) : Int) →
                      fr 11 = .bool ((List.range y).all (okB A done k) && okB A done k y) → fr 10 = .lst E10 (nC ((List.range y).filter (inB A k))) tag10 → Toks tk tk1 [(tag10, 3, 1, 0), (tag8, 22, 1, 0)] →
                      Nxt (fun (y : Nat) fr h1 => fr 5 = .lst E5 (matC A) tag ∧ fr 7 = .slice b 0 n n ∧ fr 8 = .lst E8 (soC S) tag8 ∧ fr 9 = .int .i64 k ∧ fr 35 = .int .i64 n ∧ fr 36 = .int .i64 k ∧ fr 44 = .int .i64 n ∧ fr 45 = .int .i64 y ∧ y ≤ n ∧
                  fr 11 = .bool ((List.range y).all (okB A done k)) ∧ ∃ E10 tag10 tk', (nC ((List.range y).filter (inB A k)) ≠ [] → E10 = 3) ∧ fr 10 = .lst E10 (nC ((List.range y).filter (inB A k))) tag10 ∧ Toks tk tk' [(tag10, 3, 1, 0), (tag8, 22, 1, 0)] ∧ h1 = (h.set b (.cells (bC done) 4)).tk tk') (fun y => n - y) y fr ((h.set b (.cells (bC done) 4)).tk tk1) := by
                    intro hin fr tk1 f5 f7 f8 f9 f35 f36 f44 f45 f11 f10 hT
                    have e : (List.range (y + 1)).filter (inB A k) = (List.range y).filter (inB A k) := by rw [fil_succ, if_neg (by simp [hin]), List.append_nil]
                    refine ⟨y + 1, by show n - (y + 1) < n - y; omega, f5, f7, f8, f9, f35, f36, f44, f45, hylt, ?_, E10, tag10, tk1, ?_, ?_, hT, rfl⟩
                    · rw [all_succ, f11]
                    · rw [e]; exact hE10
                    · rw [e]; exact f10
                  have hfl : (List.filter (inB A k) (List.range y)).length ≤ y := Nat.le_trans (List.length_filter_le _ _) (by simp)
                  by_cases hyk : y = k
                  · subst hyk
                    have hin : inB A y y = true := by simp [inB]
                    simp only [u_C l7_1.eq_1, runs, e_onS, AH.set_same, AH.set_set, List.map_cons, List.map_nil, List.length_cons, List.length_nil, List.drop_zero, List.drop_succ_cons, List.take_succ_cons, List.take_zero, List.take_nil, List.nil_append, List.cons_append, List.append_nil, List.all_cons, List.all_nil, Nat.zero_add, Nat.add_zero, ite_true, ite_false, if_true, if_false, ne_eq, not_false_eq_true, not_true_eq_false, and_true, true_and, and_self, Bool.and_true, Bool.true_and, Bool.not_true, Bool.not_false, List.getElem?_cons_zero, List.getElem?_cons_succ, Option.isSome_some, beq_self_eq_true, implies_true, forall_const, Nat.le_refl, Option.some.injEq, Option.getD_some, Option.getD_none, List.getElem?_nil, e_Lpn, e_Lpe, e_Lpr, decide_true, decide_false, Int.natCast_nonneg, Int.toNat_natCast, Int.toNat_zero, lt_irr, imp_self, false_implies, big_eq, pevA, takeA, putA, fillA, chunkA, zerosL, binA, binI, binS, isNilA, lookA, bndA, depA, depV, depM, depS, cellAt, elemAt, initA, Nat.reduceAdd, Nat.reduceLeDiff, Nat.reduceEqDiff, reduceIte, reduceCtorEq, Nat.reduceLT, Nat.reduceMul, Nat.reduceSub, Int.reduceAdd, Int.reduceSub, Int.reduceMul, Int.reduceLT, Int.reduceLE, Int.reduceEq, Int.reduceNe, Int.reduceNeg, Int.reduceToNat, f5, f7, f8, f9, f10, f11, f35, f36, f44, f45, k2, c1, c2, matC_get, hrk, hry, bL_get, hrky, hryk, Option.map_some, bC_get, hgy, if_true, Int.toNat_natCast, Nat.mul_one, decide_true]
                    refine WO.append (i := 0) hT rfl rfl rfl trivial (by decide) ?_ ?_ ?_ ?_ ?_ fun tag' t' hT' => ?_
                    · simp
                    · simp [oneA]
                    · simp
                    · intro _; simp only [capOk, nC_len, List.length_singleton]; omega
                    · simp only [big_eq, nC_len, List.length_singleton]; omega
                    simp only [runs, e_onS, AH.set_same, AH.set_set, List.map_cons, List.map_nil, List.length_cons, List.length_nil, List.drop_zero, List.drop_succ_cons, List.take_succ_cons, List.take_zero, List.take_nil, List.nil_append, List.cons_append, List.append_nil, List.all_cons, List.all_nil, Nat.zero_add, Nat.add_zero, ite_true, ite_false, if_true, if_false, ne_eq, not_false_eq_true, not_true_eq_false, and_true, true_and, and_self, Bool.and_true, Bool.true_and, Bool.not_true, Bool.not_false, List.getElem?_cons_zero, List.getElem?_cons_succ, Option.isSome_some, beq_self_eq_true, implies_true, forall_const, Nat.le_refl, Option.some.injEq, Option.getD_some, Option.getD_none, List.getElem?_nil, e_Lpn, e_Lpe, e_Lpr, decide_true, decide_false, Int.natCast_nonneg, Int.toNat_natCast, Int.toNat_zero, lt_irr, imp_self, false_implies, big_eq, pevA, takeA, putA, fillA, chunkA, zerosL, binA, binI, binS, isNilA, lookA, bndA, depA, depV, depM, depS, cellAt, elemAt, initA, Nat.reduceAdd, Nat.reduceLeDiff, Nat.reduceEqDiff, reduceIte, reduceCtorEq, Nat.reduceLT, Nat.reduceMul, Nat.reduceSub, Int.reduceAdd, Int.reduceSub, Int.reduceMul, Int.reduceLT, Int.reduceLE, Int.reduceEq, Int.reduceNe, Int.reduceNeg, Int.reduceToNat, f5, f7, f8, f9, f10, f11, f35, f36, f44, f45, k2, c1, c2, matC_get, hrk, hry, bL_get, hrky, hryk, Option.map_some, bC_get, hgy, if_true, Int.toNat_natCast, Nat.mul_one, hw2]
                    exact happ hin _ t' f5 f7 f8 f9 f35 f36 f44 (by simp [upd]) f11 ⟨3, tag', rfl, rfl, hT'⟩
                  · have hyk' : ¬ ((y : Int) = (k : Int)) := by omega
                    have hb : (y == k) = false := by simpa using hyk
                    cases a1 : at2 A k y with
                    | false =>
                      rw [a1] at hrky
                      have hin : inB A k y = false := by simp [inB, hb, a1]
                      simp only [u_C l7_1.eq_1, runs, e_onS, AH.set_same, AH.set_set, List.map_cons, List.map_nil, List.length_cons, List.length_nil, List.drop_zero, List.drop_succ_cons, List.take_succ_cons, List.take_zero, List.take_nil, List.nil_append, List.cons_append, List.append_nil, List.all_cons, List.all_nil, Nat.zero_add, Nat.add_zero, ite_true, ite_false, if_true, if_false, ne_eq, not_false_eq_true, not_true_eq_false, and_true, true_and, and_self, Bool.and_true, Bool.true_and, Bool.not_true, Bool.not_false, List.getElem?_cons_zero, List.getElem?_cons_succ, Option.isSome_some, beq_self_eq_true, implies_true, forall_const, Nat.le_refl, Option.some.injEq, Option.getD_some, Option.getD_none, List.getElem?_nil, e_Lpn, e_Lpe, e_Lpr, decide_true, decide_false, Int.natCast_nonneg, Int.toNat_natCast, Int.toNat_zero, lt_irr, imp_self, false_implies, big_eq, pevA, takeA, putA, fillA, chunkA, zerosL, binA, binI, binS, isNilA, lookA, bndA, depA, depV, depM, depS, cellAt, elemAt, initA, Nat.reduceAdd, Nat.reduceLeDiff, Nat.reduceEqDiff, reduceIte, reduceCtorEq, Nat.reduceLT, Nat.reduceMul, Nat.reduceSub, Int.reduceAdd, Int.reduceSub, Int.reduceMul, Int.reduceLT, Int.reduceLE, Int.reduceEq, Int.reduceNe, Int.reduceNeg, Int.reduceToNat, f5, f7, f8, f9, f10, f11, f35, f36, f44, f45, k2, c1, c2, matC_get, hrk, hry, bL_get, hrky, hryk, Option.map_some, bC_get, hgy, if_true, Int.toNat_natCast, Nat.mul_one, hyk', decide_false, hw2]
                      exact hskip hin _ tk1 f5 f7 f8 f9 f35 f36 f44 (by simp [upd]) (by have hok : okB A done k y = true := (by simp only [okB, hin, a1, Bool.false_and, Bool.not_false, Bool.false_or]); rw [hok, Bool.and_true]; exact f11) f10 hT
                    | true =>
                      rw [a1] at hrky
                      cases a2 : at2 A y k with
                      | true =>
                        rw [a2] at hryk
                        have hin : inB A k y = true := by simp [inB, a1, a2]
                        simp only [u_C l7_1.eq_1, runs, e_onS, AH.set_same, AH.set_set, List.map_cons, List.map_nil, List.length_cons, List.length_nil, List.drop_zero, List.drop_succ_cons, List.take_succ_cons, List.take_zero, List.take_nil, List.nil_append, List.cons_append, List.append_nil, List.all_cons, List.all_nil, Nat.zero_add, Nat.add_zero, ite_true, ite_false, if_true, if_false, ne_eq, not_false_eq_true, not_true_eq_false, and_true, true_and, and_self, Bool.and_true, Bool.true_and, Bool.not_true, Bool.not_false, List.getElem?_cons_zero, List.getElem?_cons_succ, Option.isSome_some, beq_self_eq_true, implies_true, forall_const, Nat.le_refl, Option.some.injEq, Option.getD_some, Option.getD_none, List.getElem?_nil, e_Lpn, e_Lpe, e_Lpr, decide_true, decide_false, Int.natCast_nonneg, Int.toNat_natCast, Int.toNat_zero, lt_irr, imp_self, false_implies, big_eq, pevA, takeA, putA, fillA, chunkA, zerosL, binA, binI, binS, isNilA, lookA, bndA, depA, depV, depM, depS, cellAt, elemAt, initA, Nat.reduceAdd, Nat.reduceLeDiff, Nat.reduceEqDiff, reduceIte, reduceCtorEq, Nat.reduceLT, Nat.reduceMul, Nat.reduceSub, Int.reduceAdd, Int.reduceSub, Int.reduceMul, Int.reduceLT, Int.reduceLE, Int.reduceEq, Int.reduceNe, Int.reduceNeg, Int.reduceToNat, f5, f7, f8, f9, f10, f11, f35, f36, f44, f45, k2, c1, c2, matC_get, hrk, hry, bL_get, hrky, hryk, Option.map_some, bC_get, hgy, if_true, Int.toNat_natCast, Nat.mul_one, hyk', decide_false]
                        refine WO.append (i := 0) hT rfl rfl rfl trivial (by decide) ?_ ?_ ?_ ?_ ?_ fun tag' t' hT' => ?_
                        · simp
                        · simp [oneA]
                        · simp
                        · intro _; simp only [capOk, nC_len, List.length_singleton]; omega
                        · simp only [big_eq, nC_len, List.length_singleton]; omega
                        simp only [runs, e_onS, AH.set_same, AH.set_set, List.map_cons, List.map_nil, List.length_cons, List.length_nil, List.drop_zero, List.drop_succ_cons, List.take_succ_cons, List.take_zero, List.take_nil, List.nil_append, List.cons_append, List.append_nil, List.all_cons, List.all_nil, Nat.zero_add, Nat.add_zero, ite_true, ite_false, if_true, if_false, ne_eq, not_false_eq_true, not_true_eq_false, and_true, true_and, and_self, Bool.and_true, Bool.true_and, Bool.not_true, Bool.not_false, List.getElem?_cons_zero, List.getElem?_cons_succ, Option.isSome_some, beq_self_eq_true, implies_true, forall_const, Nat.le_refl, Option.some.injEq, Option.getD_some, Option.getD_none, List.getElem?_nil, e_Lpn, e_Lpe, e_Lpr, decide_true, decide_false, Int.natCast_nonneg, Int.toNat_natCast, Int.toNat_zero, lt_irr, imp_self, false_implies, big_eq, pevA, takeA, putA, fillA, chunkA, zerosL, binA, binI, binS, isNilA, lookA, bndA, depA, depV, depM, depS, cellAt, elemAt, initA, Nat.reduceAdd, Nat.reduceLeDiff, Nat.reduceEqDiff, reduceIte, reduceCtorEq, Nat.reduceLT, Nat.reduceMul, Nat.reduceSub, Int.reduceAdd, Int.reduceSub, Int.reduceMul, Int.reduceLT, Int.reduceLE, Int.reduceEq, Int.reduceNe, Int.reduceNeg, Int.reduceToNat, f5, f7, f8, f9, f10, f11, f35, f36, f44, f45, k2, c1, c2, matC_get, hrk, hry, bL_get, hrky, hryk, Option.map_some, bC_get, hgy, if_true, Int.toNat_natCast, Nat.mul_one, hw2]
                        exact happ hin _ t' f5 f7 f8 f9 f35 f36 f44 (by simp [upd]) f11 ⟨3, tag', rfl, rfl, hT'⟩
                      | false =>
                        rw [a2] at hryk
                        have hin : inB A k y = false := by simp [inB, hb, a2]
                        cases d : done.getD y false with
                        | true =>
                          rw [d] at hgy
                          simp only [u_C l7_1.eq_1, runs, e_onS, AH.set_same, AH.set_set, List.map_cons, List.map_nil, List.length_cons, List.length_nil, List.drop_zero, List.drop_succ_cons, List.take_succ_cons, List.take_zero, List.take_nil, List.nil_append, List.cons_append, List.append_nil, List.all_cons, List.all_nil, Nat.zero_add, Nat.add_zero, ite_true, ite_false, if_true, if_false, ne_eq, not_false_eq_true, not_true_eq_false, and_true, true_and, and_self, Bool.and_true, Bool.true_and, Bool.not_true, Bool.not_false, List.getElem?_cons_zero, List.getElem?_cons_succ, Option.isSome_some, beq_self_eq_true, implies_true, forall_const, Nat.le_refl, Option.some.injEq, Option.getD_some, Option.getD_none, List.getElem?_nil, e_Lpn, e_Lpe, e_Lpr, decide_true, decide_false, Int.natCast_nonneg, Int.toNat_natCast, Int.toNat_zero, lt_irr, imp_self, false_implies, big_eq, pevA, takeA, putA, fillA, chunkA, zerosL, binA, binI, binS, isNilA, lookA, bndA, depA, depV, depM, depS, cellAt, elemAt, initA, Nat.reduceAdd, Nat.reduceLeDiff, Nat.reduceEqDiff, reduceIte, reduceCtorEq, Nat.reduceLT, Nat.reduceMul, Nat.reduceSub, Int.reduceAdd, Int.reduceSub, Int.reduceMul, Int.reduceLT, Int.reduceLE, Int.reduceEq, Int.reduceNe, Int.reduceNeg, Int.reduceToNat, f5, f7, f8, f9, f10, f11, f35, f36, f44, f45, k2, c1, c2, matC_get, hrk, hry, bL_get, hrky, hryk, Option.map_some, bC_get, hgy, if_true, Int.toNat_natCast, Nat.mul_one, hyk', decide_false, hw2]
                          exact hskip hin _ tk1 f5 f7 f8 f9 f35 f36 f44 (by simp [upd]) (by have hok : okB A done k y = true := (by simp only [okB, hin, a1, d, Bool.true_and, Bool.not_true, Bool.not_false, Bool.false_or]); rw [hok, Bool.and_true]; exact f11) f10 hT
                        | false =>
                          rw [d] at hgy
                          simp only [u_C l7_1.eq_1, runs, e_onS, AH.set_same, AH.set_set, List.map_cons, List.map_nil, List.length_cons, List.length_nil, List.drop_zero, List.drop_succ_cons, List.take_succ_cons, List.take_zero, List.take_nil, List.nil_append, List.cons_append, List.append_nil, List.all_cons, List.all_nil, Nat.zero_add, Nat.add_zero, ite_true, ite_false, if_true, if_false, ne_eq, not_false_eq_true, not_true_eq_false, and_true, true_and, and_self, Bool.and_true, Bool.true_and, Bool.not_true, Bool.not_false, List.getElem?_cons_zero, List.getElem?_cons_succ, Option.isSome_some, beq_self_eq_true, implies_true, forall_const, Nat.le_refl, Option.some.injEq, Option.getD_some, Option.getD_none, List.getElem?_nil, e_Lpn, e_Lpe, e_Lpr, decide_true, decide_false, Int.natCast_nonneg, Int.toNat_natCast, Int.toNat_zero, lt_irr, imp_self, false_implies, big_eq, pevA, takeA, putA, fillA, chunkA, zerosL, binA, binI, binS, isNilA, lookA, bndA, depA, depV, depM, depS, cellAt, elemAt, initA, Nat.reduceAdd, Nat.reduceLeDiff, Nat.reduceEqDiff, reduceIte, reduceCtorEq, Nat.reduceLT, Nat.reduceMul, Nat.reduceSub, Int.reduceAdd, Int.reduceSub, Int.reduceMul, Int.reduceLT, Int.reduceLE, Int.reduceEq, Int.reduceNe, Int.reduceNeg, Int.reduceToNat, f5, f7, f8, f9, f10, f11, f35, f36, f44, f45, k2, c1, c2, matC_get, hrk, hry, bL_get, hrky, hryk, Option.map_some, bC_get, hgy, if_true, Int.toNat_natCast, Nat.mul_one, hyk', decide_false, hw2]
                          exact hskip hin _ tk1 f5 f7 f8 f9 f35 f36 f44 (by simp [upd]) (by simp only [okB, hin, a1, d, Bool.not_false, Bool.and_self, Bool.not_true, Bool.or_self, Bool.and_false]; simp [upd]) f10 hT
                · have k2 : decide ((y : Int) < (n : Int)) = false := by simp; omega
                  have hyn' : y = n := by omega
                  subst hyn'
                  rw [← scc_eq hA] at f10 hE10
                  rw [← rdy_eq hA] at f11
                  have hscc : ∀ z ∈ scc A k, z < y := fun z hz => ((scc_mem hA hlt).1 hz).1
                  have hself := scc_self hA hlt
                  have hsl : (scc A k).length ≤ y := by rw [scc_eq hA]; exact Nat.le_trans (List.length_filter_le _ _) (by simp)
                  cases hr : rdy A done k with
                  | false =>
                    rw [hr] at f11
                    simp only [u_C l7_1.eq_1, runs, e_onS, AH.set_same, AH.set_set, List.map_cons, List.map_nil, List.length_cons, List.length_nil, List.drop_zero, List.drop_succ_cons, List.take_succ_cons, List.take_zero, List.take_nil, List.nil_append, List.cons_append, List.append_nil, List.all_cons, List.all_nil, Nat.zero_add, Nat.add_zero, ite_true, ite_false, if_true, if_false, ne_eq, not_false_eq_true, not_true_eq_false, and_true, true_and, and_self, Bool.and_true, Bool.true_and, Bool.not_true, Bool.not_false, List.getElem?_cons_zero, List.getElem?_cons_succ, Option.isSome_some, beq_self_eq_true, implies_true, forall_const, Nat.le_refl, Option.some.injEq, Option.getD_some, Option.getD_none, List.getElem?_nil, e_Lpn, e_Lpe, e_Lpr, decide_true, decide_false, Int.natCast_nonneg, Int.toNat_natCast, Int.toNat_zero, lt_irr, imp_self, false_implies, big_eq, pevA, takeA, putA, fillA, chunkA, zerosL, binA, binI, binS, isNilA, lookA, bndA, depA, depV, depM, depS, cellAt, elemAt, initA, Nat.reduceAdd, Nat.reduceLeDiff, Nat.reduceEqDiff, reduceIte, reduceCtorEq, Nat.reduceLT, Nat.reduceMul, Nat.reduceSub, Int.reduceAdd, Int.reduceSub, Int.reduceMul, Int.reduceLT, Int.reduceLE, Int.reduceEq, Int.reduceNe, Int.reduceNeg, Int.reduceToNat, f5, f7, f8, f9, f10, f11, f35, f36, f44, f45, k2, hw]
                    exact ⟨k + 1, by show y - (k + 1) < y - k; omega, f5, f7, f8, f35, by simp [upd], hlt, hnext (by rw [hr, Bool.and_false]), tk1, toks_tail hT, rfl⟩
                  | true =>
                    rw [hr] at f11
                    simp only [u_C l7_1.eq_1, runs, e_onS, AH.set_same, AH.set_set, List.map_cons, List.map_nil, List.length_cons, List.length_nil, List.drop_zero, List.drop_succ_cons, List.take_succ_cons, List.take_zero, List.take_nil, List.nil_append, List.cons_append, List.append_nil, List.all_cons, List.all_nil, Nat.zero_add, Nat.add_zero, ite_true, ite_false, if_true, if_false, ne_eq, not_false_eq_true, not_true_eq_false, and_true, true_and, and_self, Bool.and_true, Bool.true_and, Bool.not_true, Bool.not_false, List.getElem?_cons_zero, List.getElem?_cons_succ, Option.isSome_some, beq_self_eq_true, implies_true, forall_const, Nat.le_refl, Option.some.injEq, Option.getD_some, Option.getD_none, List.getElem?_nil, e_Lpn, e_Lpe, e_Lpr, decide_true, decide_false, Int.natCast_nonneg, Int.toNat_natCast, Int.toNat_zero, lt_irr, imp_self, false_implies, big_eq, pevA, takeA, putA, fillA, chunkA, zerosL, binA, binI, binS, isNilA, lookA, bndA, depA, depV, depM, depS, cellAt, elemAt, initA, Nat.reduceAdd, Nat.reduceLeDiff, Nat.reduceEqDiff, reduceIte, reduceCtorEq, Nat.reduceLT, Nat.reduceMul, Nat.reduceSub, Int.reduceAdd, Int.reduceSub, Int.reduceMul, Int.reduceLT, Int.reduceLE, Int.reduceEq, Int.reduceNe, Int.reduceNeg, Int.reduceToNat, f5, f7, f8, f9, f10, f11, f35, f36, f44, f45, k2, nC_len]
                    have hnx : nxt A (it A j).1 = some k := by rw [hdn]; exact nxt_some hA hlt hno (by rw [hd, hr]; rfl)
                    have hit := it_succ hnx
                    rw [hdn] at hit
                    have hcm : cnt (grp.mark done (scc A k)) < cnt done := cnt_mark (by omega) hself hd
                    refine aloop (α := Nat) (fun i fr h1 => fr 5 = .lst E5 (matC A) tag ∧ fr 7 = .slice b 0 y y ∧ fr 8 = .lst E8 (soC S) tag8 ∧ fr 10 = .lst E10 (nC (scc A k)) tag10 ∧ fr 92 = .lst E10 (nC (scc A k)) tag10 ∧ fr 93 = .int .i64 (scc A k).length ∧ fr 94 = .int .i64 i ∧ i ≤ (scc A k).length ∧
                        h1 = (h.set b (.cells (bC (grp.mark done ((scc A k).take i))) 4)).tk tk1) (fun i => (scc A k).length - i) 0 ?_ ?_
                    · exact ⟨f5, f7, f8, f10, rfl, rfl, rfl, Nat.zero_le _, rfl⟩
                    · clear f5 f7 f8 f9 f10 f11 f35 f36 f44 f45
                      rintro i fr h1 ⟨f5, f7, f8, f10, f92, f93, f94, hi, rfl⟩
                      by_cases hil : i < (scc A k).length
                      · have k3 : decide ((i : Int) < ((scc A k).length : Nat)) = true := by simp; omega
                        obtain ⟨z, hz⟩ : ∃ z, (scc A k)[i]? = some z := ⟨_, List.getElem?_eq_getElem hil⟩
                        have hzy := hscc z (List.mem_of_getElem? hz)
                        have c3 : (z : Int) < (y : Int) := by omega
                        have hw3 : IntKind.i64.wrap ((i : Int) + 1) = ((i + 1 : Nat) : Int) := wrap64 ⟨by omega, by omega⟩
                        have hml : z < (grp.mark done ((scc A k).take i)).length := by rw [mark_len]; omega
                        have hp : z + 1 ≤ (bC (grp.mark done ((scc A k).take i))).length := by rw [bC_len]; omega
                        have hput := bC_set _ z true hml
                        simp only [u_C l7_2.eq_1, runs, e_onS, AH.set_same, AH.set_set, List.map_cons, List.map_nil, List.length_cons, List.length_nil, List.drop_zero, List.drop_succ_cons, List.take_succ_cons, List.take_zero, List.take_nil, List.nil_append, List.cons_append, List.append_nil, List.all_cons, List.all_nil, Nat.zero_add, Nat.add_zero, ite_true, ite_false, if_true, if_false, ne_eq, not_false_eq_true, not_true_eq_false, and_true, true_and, and_self, Bool.and_true, Bool.true_and, Bool.not_true, Bool.not_false, List.getElem?_cons_zero, List.getElem?_cons_succ, Option.isSome_some, beq_self_eq_true, implies_true, forall_const, Nat.le_refl, Option.some.injEq, Option.getD_some, Option.getD_none, List.getElem?_nil, e_Lpn, e_Lpe, e_Lpr, decide_true, decide_false, Int.natCast_nonneg, Int.toNat_natCast, Int.toNat_zero, lt_irr, imp_self, false_implies, big_eq, pevA, takeA, putA, fillA, chunkA, zerosL, binA, binI, binS, isNilA, lookA, bndA, depA, depV, depM, depS, cellAt, elemAt, initA, Nat.reduceAdd, Nat.reduceLeDiff, Nat.reduceEqDiff, reduceIte, reduceCtorEq, Nat.reduceLT, Nat.reduceMul, Nat.reduceSub, Int.reduceAdd, Int.reduceSub, Int.reduceMul, Int.reduceLT, Int.reduceLE, Int.reduceEq, Int.reduceNe, Int.reduceNeg, Int.reduceToNat, f5, f7, f8, f10, f92, f93, f94, k3, nC_get, hz, Option.map_some, c3, if_true, Int.toNat_natCast, Nat.mul_one, hp, hput, hw3]
                        refine ⟨hk, i + 1, by show (scc A k).length - (i + 1) < (scc A k).length - i; omega, f5, f7, f8, f10, f92, f93, by simp [upd], hil, ?_⟩
                        rw [List.take_add_one, hz, Option.toList_some, mark_app]
                      · have k3 : decide ((i : Int) < ((scc A k).length : Nat)) = false := by simp; omega
                        have hti : (scc A k).take i = scc A k := List.take_of_length_le (by omega)
                        rw [hti]
                        simp only [u_C l7_2.eq_1, runs, e_onS, AH.set_same, AH.set_set, List.map_cons, List.map_nil, List.length_cons, List.length_nil, List.drop_zero, List.drop_succ_cons, List.take_succ_cons, List.take_zero, List.take_nil, List.nil_append, List.cons_append, List.append_nil, List.all_cons, List.all_nil, Nat.zero_add, Nat.add_zero, ite_true, ite_false, if_true, if_false, ne_eq, not_false_eq_true, not_true_eq_false, and_true, true_and, and_self, Bool.and_true, Bool.true_and, Bool.not_true, Bool.not_false, List.getElem?_cons_zero, List.getElem?_cons_succ, Option.isSome_some, beq_self_eq_true, implies_true, forall_const, Nat.le_refl, Option.some.injEq, Option.getD_some, Option.getD_none, List.getElem?_nil, e_Lpn, e_Lpe, e_Lpr, decide_true, decide_false, Int.natCast_nonneg, Int.toNat_natCast, Int.toNat_zero, lt_irr, imp_self, false_implies, big_eq, pevA, takeA, putA, fillA, chunkA, zerosL, binA, binI, binS, isNilA, lookA, bndA, depA, depV, depM, depS, cellAt, elemAt, initA, Nat.reduceAdd, Nat.reduceLeDiff, Nat.reduceEqDiff, reduceIte, reduceCtorEq, Nat.reduceLT, Nat.reduceMul, Nat.reduceSub, Int.reduceAdd, Int.reduceSub, Int.reduceMul, Int.reduceLT, Int.reduceLE, Int.reduceEq, Int.reduceNe, Int.reduceNeg, Int.reduceToNat, f5, f7, f8, f10, f92, f93, f94, k3]
                        refine WO.append (i := 1) hT rfl rfl rfl trivial (by decide) ?_ ?_ ?_ ?_ ?_ fun tag' t' hT' => ?_
                        · simp
                        · simp [oneA]
                        · simp
                        · intro _; simp only [capOk, soC_len, List.length_singleton]; omega
                        · simp only [big_eq, soC_len, List.length_singleton]; omega
                        simp only [runs, e_onS, AH.set_same, AH.set_set, List.map_cons, List.map_nil, List.length_cons, List.length_nil, List.drop_zero, List.drop_succ_cons, List.take_succ_cons, List.take_zero, List.take_nil, List.nil_append, List.cons_append, List.append_nil, List.all_cons, List.all_nil, Nat.zero_add, Nat.add_zero, ite_true, ite_false, if_true, if_false, ne_eq, not_false_eq_true, not_true_eq_false, and_true, true_and, and_self, Bool.and_true, Bool.true_and, Bool.not_true, Bool.not_false, List.getElem?_cons_zero, List.getElem?_cons_succ, Option.isSome_some, beq_self_eq_true, implies_true, forall_const, Nat.le_refl, Option.some.injEq, Option.getD_some, Option.getD_none, List.getElem?_nil, e_Lpn, e_Lpe, e_Lpr, decide_true, decide_false, Int.natCast_nonneg, Int.toNat_natCast, Int.toNat_zero, lt_irr, imp_self, false_implies, big_eq, pevA, takeA, putA, fillA, chunkA, zerosL, binA, binI, binS, isNilA, lookA, bndA, depA, depV, depM, depS, cellAt, elemAt, initA, Nat.reduceAdd, Nat.reduceLeDiff, Nat.reduceEqDiff, reduceIte, reduceCtorEq, Nat.reduceLT, Nat.reduceMul, Nat.reduceSub, Int.reduceAdd, Int.reduceSub, Int.reduceMul, Int.reduceLT, Int.reduceLE, Int.reduceEq, Int.reduceNe, Int.reduceNeg, Int.reduceToNat, f5, f7, f8, f10]
                        refine ⟨(j + 1, S ++ [(scc A k, E10, tag10)]), ?_, f5, f7, ?_, ?_, ?_, 22, tag', t', fun _ => rfl, ?_, toks_tail hT', ?_⟩
                        · show cnt (it A (j + 1)).1 < cnt (it A j).1
                          rw [hit, hdn]; exact hcm
                        · show (S ++ [(scc A k, E10, tag10)]).map (fun g => g.1) = (it A (j + 1)).2
                          rw [hit, List.map_append, hS]; rfl
                        · intro g hg
                          rcases List.mem_append.1 hg with hg | hg
                          · exact hS3 g hg
                          · rw [List.mem_singleton.1 hg]
                            intro hne
                            refine hE10 fun e => hne ?_
                            have := congrArg List.length e
                            rw [nC_len] at this
                            exact List.length_eq_zero_iff.1 this
                        · show (S ++ [(scc A k, E10, tag10)]).length + cnt (it A (j + 1)).1 ≤ y
                          rw [hit, List.length_append, List.length_singleton]
                          show S.length + 1 + cnt (grp.mark done (scc A k)) ≤ y
                          omega
                        · simp only [e_upd, reduceIte, Nat.reduceEqDiff, soC_app]; rfl
                        · show _ = (h.set b (.cells (bC (it A (j + 1)).1) 4)).tk t'
                          rw [hit]
          · have k1 : decide ((k : Int) < (n : Int)) = false := by simp; omega
            have hkn' : k = n := by omega
            subst hkn'
            simp only [u_C l7_3.eq_1, runs, e_onS, AH.set_same, AH.set_set, List.map_cons, List.map_nil, List.length_cons, List.length_nil, List.drop_zero, List.drop_succ_cons, List.take_succ_cons, List.take_zero, List.take_nil, List.nil_append, List.cons_append, List.append_nil, List.all_cons, List.all_nil, Nat.zero_add, Nat.add_zero, ite_true, ite_false, if_true, if_false, ne_eq, not_false_eq_true, not_true_eq_false, and_true, true_and, and_self, Bool.and_true, Bool.true_and, Bool.not_true, Bool.not_false, List.getElem?_cons_zero, List.getElem?_cons_succ, Option.isSome_some, beq_self_eq_true, implies_true, forall_const, Nat.le_refl, Option.some.injEq, Option.getD_some, Option.getD_none, List.getElem?_nil, e_Lpn, e_Lpe, e_Lpr, decide_true, decide_false, Int.natCast_nonneg, Int.toNat_natCast, Int.toNat_zero, lt_irr, imp_self, false_implies, big_eq, pevA, takeA, putA, fillA, chunkA, zerosL, binA, binI, binS, isNilA, lookA, bndA, depA, depV, depM, depS, cellAt, elemAt, initA, Nat.reduceAdd, Nat.reduceLeDiff, Nat.reduceEqDiff, reduceIte, reduceCtorEq, Nat.reduceLT, Nat.reduceMul, Nat.reduceSub, Int.reduceAdd, Int.reduceSub, Int.reduceMul, Int.reduceLT, Int.reduceLE, Int.reduceEq, Int.reduceNe, Int.reduceNeg, Int.reduceToNat, f5, f7, f8, f35, f36, k1]
            have hnx : nxt A (it A j).1 = none := by rw [hdn]; exact nxt_none hA hno
            refine ⟨_, h, .weak (so_wk hE8 hS hS3) (.drop ?_ (.refl _ _)), hK, (it A j).2, ⟨j, ?_, ?_⟩, rfl, rfl⟩
            · exact le_tk (le_set (AH.le_refl _) hb) fun c k hc => hT.le c k (hle0 c k hc)
            · rw [hmA]; exact hnx
            · rw [hmA]
theorem order_ok (x : List (List Int)) (n : Nat) (hn : 0 < n) (hn2 : n ≤ 15) (hx : InR n x) (hrl : ∀ row ∈ x, row.length ≤ 1000) (K : Nat → Prop) (h : AH) : ACall T K (.func 7) [.int .i64 n, .lst 22 (rowsC x) .no] h (OrdQ n x h) :=
  order_gen x n hn hn2 hx hrl _ K h (.inl rfl)
end Go.Proofs.Ytplnafebmpldgaa.p
