/- The names of a map, collected and sorted. -/
import Derived.Test.YtdepohnidjndjaaSbR8
import Derived.Test.YtdepohnidjndjaaSbS6
namespace Go.Proofs.Ytdepohnidjndjaa.p
open Go.Proofs Go Go.Cn code
set_option linter.unusedSimpArgs false
set_option linter.unusedVariables false

/-- the loop of AppendSeq -/
noncomputable def lpA (fr : AFr) (frC : Fr) (st : LoopState) (pend : Option CExit) : AO := .loop st fr frC [7] a42_0.toC b42_0.toC pend
/-- the row so far -/
def rowV (told : List (List UInt8)) (v : AV) (ob : Nat → Option AO) (P : Nat → Prop) : Prop :=
  (told = [] ∧ v = .lst 0 [] .nil) ∨ ∃ b, v = .slice b 0 told.length told.length ∧ ob b = some (.cells (nmC told) 9) ∧ P b

def AppQ (frA : AFr) (frC : Fr) (b2 c : Nat) (K : Nat → Prop) (h1 : AH) (told : List (List UInt8)) (n : List UInt8) (v r : AV) (h2 : AH) : Prop :=
  r = .bool true ∧ ∃ b', h2.objs b2 = some (.cells [.slice b' 0 (told ++ [n]).length (told ++ [n]).length] 45) ∧ h2.objs b' = some (.cells (nmC (told ++ [n])) 9) ∧ h2.objs c = some (lpA frA frC .ready none) ∧
      b' ≠ b2 ∧ b' ≠ c ∧ ¬ K b' ∧ h1.objs b' = none ∧ h2.toks = h1.toks ∧ ∀ m o, m ≠ b2 → (∀ b, v = .slice b 0 told.length told.length → m ≠ b) → h1.objs m = some o → h2.objs m = some o

theorem app_yield (frA : AFr) (frC : Fr) (b2 c : Nat) (hf : frA 2 = .ptr b2 0) (K : Nat → Prop) (h1 : AH) (told : List (List UInt8)) (n : List UInt8) (v : AV) (ht : told.length ≤ 1000) (n2c : b2 ≠ c) (k2 : ¬ K b2) (kc : ¬ K c)
    (o2 : h1.objs b2 = some (.cells [v] 45)) (oc : h1.objs c = some (lpA frA frC .ready none)) (hv : rowV told v h1.objs fun b => b ≠ b2 ∧ b ≠ c ∧ ¬ K b) :
    ACall T K (.yield c) [.str n] h1 (AppQ frA frC b2 c K h1 told n v) := by
  refine ACall.yield (frA := frA) (frC := frC) oc kc rfl (wpC_ok ?_)
  simp only [u_C a42_0.eq_1, runs, e_onS, AH.set_same, AH.set_set, List.map_cons, List.map_nil, List.length_cons, List.length_nil, List.drop_zero, List.drop_succ_cons, List.take_succ_cons, List.take_zero, List.take_nil, List.nil_append, List.cons_append, List.append_nil, List.all_cons, List.all_nil, Nat.zero_add, Nat.add_zero, ite_true, ite_false, if_true, if_false, ne_eq, not_false_eq_true, not_true_eq_false, and_true, true_and, and_self, Bool.and_true, Bool.true_and, Bool.not_true, Bool.not_false, List.getElem?_cons_zero, List.getElem?_cons_succ, Option.isSome_some, beq_self_eq_true, implies_true, forall_const, Nat.le_refl, Option.some.injEq, Option.getD_some, Option.getD_none, List.getElem?_nil, e_Lpn, e_Lpe, e_Lpr, decide_true, decide_false, Int.natCast_nonneg, Int.toNat_natCast, Int.toNat_zero, lt_irr, imp_self, false_implies, big_eq, pevA, takeA, putA, fillA, chunkA, zerosL, binA, binI, binS, isNilA, lookA, bndA, depA, depV, depM, depS, cellAt, elemAt, initA, Nat.reduceAdd, Nat.reduceLeDiff, Nat.reduceEqDiff, reduceIte, reduceCtorEq, Nat.reduceLT, Nat.reduceMul, Nat.reduceSub, Int.reduceAdd, Int.reduceSub, Int.reduceMul, Int.reduceLT, Int.reduceLE, Int.reduceEq, Int.reduceNe, Int.reduceNeg, Int.reduceToNat, setPsA]
  refine ⟨oc, wpC_ok ?_⟩
  have o2' : (h1.set c (.loop .busy frA frC [7] a42_0.toC b42_0.toC none)).objs b2 = some (.cells [v] 45) := by rw [AH.set_ne _ _ n2c]; exact o2
  rcases hv with ⟨rfl, rfl⟩ | ⟨b, rfl, ob, nb2, nbc, kb⟩
  · simp only [u_C b42_0.eq_1, runs, e_onS, AH.set_same, AH.set_set, List.map_cons, List.map_nil, List.length_cons, List.length_nil, List.drop_zero, List.drop_succ_cons, List.take_succ_cons, List.take_zero, List.take_nil, List.nil_append, List.cons_append, List.append_nil, List.all_cons, List.all_nil, Nat.zero_add, Nat.add_zero, ite_true, ite_false, if_true, if_false, ne_eq, not_false_eq_true, not_true_eq_false, and_true, true_and, and_self, Bool.and_true, Bool.true_and, Bool.not_true, Bool.not_false, List.getElem?_cons_zero, List.getElem?_cons_succ, Option.isSome_some, beq_self_eq_true, implies_true, forall_const, Nat.le_refl, Option.some.injEq, Option.getD_some, Option.getD_none, List.getElem?_nil, e_Lpn, e_Lpe, e_Lpr, decide_true, decide_false, Int.natCast_nonneg, Int.toNat_natCast, Int.toNat_zero, lt_irr, imp_self, false_implies, big_eq, pevA, takeA, putA, fillA, chunkA, zerosL, binA, binI, binS, isNilA, lookA, bndA, depA, depV, depM, depS, cellAt, elemAt, initA, Nat.reduceAdd, Nat.reduceLeDiff, Nat.reduceEqDiff, reduceIte, reduceCtorEq, Nat.reduceLT, Nat.reduceMul, Nat.reduceSub, Int.reduceAdd, Int.reduceSub, Int.reduceMul, Int.reduceLT, Int.reduceLE, Int.reduceEq, Int.reduceNe, Int.reduceNeg, Int.reduceToNat, hf, o2']
    refine WO.vec0 (ns := [[.str n]]) rfl rfl trivial (by simp) rfl (by simp) (by show capOk 1 16; decide) fun b' hb' hk' => ?_
    obtain ⟨nb'c, hb'⟩ := AH.set_none.1 hb'
    have nb'2 : b' ≠ b2 := by rintro rfl; rw [o2] at hb'; cases hb'
    have o2'' : ((h1.set c (.loop .busy frA frC [7] a42_0.toC b42_0.toC none)).set b' (.cells [[AV.str n]].flatten 9)).objs b2 = some (.cells [.lst 0 [] .nil] 45) := by rw [AH.set_ne _ _ nb'2.symm]; exact o2'
    simp only [runs, e_onS, AH.set_same, AH.set_set, List.map_cons, List.map_nil, List.length_cons, List.length_nil, List.drop_zero, List.drop_succ_cons, List.take_succ_cons, List.take_zero, List.take_nil, List.nil_append, List.cons_append, List.append_nil, List.all_cons, List.all_nil, Nat.zero_add, Nat.add_zero, ite_true, ite_false, if_true, if_false, ne_eq, not_false_eq_true, not_true_eq_false, and_true, true_and, and_self, Bool.and_true, Bool.true_and, Bool.not_true, Bool.not_false, List.getElem?_cons_zero, List.getElem?_cons_succ, Option.isSome_some, beq_self_eq_true, implies_true, forall_const, Nat.le_refl, Option.some.injEq, Option.getD_some, Option.getD_none, List.getElem?_nil, e_Lpn, e_Lpe, e_Lpr, decide_true, decide_false, Int.natCast_nonneg, Int.toNat_natCast, Int.toNat_zero, lt_irr, imp_self, false_implies, big_eq, pevA, takeA, putA, fillA, chunkA, zerosL, binA, binI, binS, isNilA, lookA, bndA, depA, depV, depM, depS, cellAt, elemAt, initA, Nat.reduceAdd, Nat.reduceLeDiff, Nat.reduceEqDiff, reduceIte, reduceCtorEq, Nat.reduceLT, Nat.reduceMul, Nat.reduceSub, Int.reduceAdd, Int.reduceSub, Int.reduceMul, Int.reduceLT, Int.reduceLE, Int.reduceEq, Int.reduceNe, Int.reduceNeg, Int.reduceToNat, hf, o2'', k2]
    refine ⟨by simp [AH.set_objs, n2c.symm, nb'c.symm], rfl, b', by simp [AH.set_objs, n2c], by simp [AH.set_objs, nb'c, nb'2, nmC], by simp [AH.set_objs, lpA, CExit.nm], nb'2, nb'c, hk', hb', rfl, fun m o hm2 _ ho => ?_⟩
    have hmb : m ≠ b' := by rintro rfl; rw [hb'] at ho; cases ho
    by_cases hmc : m = c
    · subst hmc
      rw [oc] at ho
      simp only [AH.set_objs, if_true, CExit.nm]
      exact ho
    · simp only [AH.set_objs, hm2, hmb, hmc, if_false]; exact ho
  · have ob' : (h1.set c (.loop .busy frA frC [7] a42_0.toC b42_0.toC none)).objs b = some (.cells (nmC told) 9) := by rw [AH.set_ne _ _ nbc]; exact ob
    simp only [u_C b42_0.eq_1, runs, e_onS, AH.set_same, AH.set_set, List.map_cons, List.map_nil, List.length_cons, List.length_nil, List.drop_zero, List.drop_succ_cons, List.take_succ_cons, List.take_zero, List.take_nil, List.nil_append, List.cons_append, List.append_nil, List.all_cons, List.all_nil, Nat.zero_add, Nat.add_zero, ite_true, ite_false, if_true, if_false, ne_eq, not_false_eq_true, not_true_eq_false, and_true, true_and, and_self, Bool.and_true, Bool.true_and, Bool.not_true, Bool.not_false, List.getElem?_cons_zero, List.getElem?_cons_succ, Option.isSome_some, beq_self_eq_true, implies_true, forall_const, Nat.le_refl, Option.some.injEq, Option.getD_some, Option.getD_none, List.getElem?_nil, e_Lpn, e_Lpe, e_Lpr, decide_true, decide_false, Int.natCast_nonneg, Int.toNat_natCast, Int.toNat_zero, lt_irr, imp_self, false_implies, big_eq, pevA, takeA, putA, fillA, chunkA, zerosL, binA, binI, binS, isNilA, lookA, bndA, depA, depV, depM, depS, cellAt, elemAt, initA, Nat.reduceAdd, Nat.reduceLeDiff, Nat.reduceEqDiff, reduceIte, reduceCtorEq, Nat.reduceLT, Nat.reduceMul, Nat.reduceSub, Int.reduceAdd, Int.reduceSub, Int.reduceMul, Int.reduceLT, Int.reduceLE, Int.reduceEq, Int.reduceNe, Int.reduceNeg, Int.reduceToNat, hf, o2']
    refine WO.vec (ns := [[.str n]]) rfl ob' (by rw [nmC_len, Nat.mul_one]) kb rfl trivial (by simp) rfl (by simp) ⟨by simp; omega, by simp; omega⟩ fun b' hb' hk' => ?_
    obtain ⟨nb'c, hb'⟩ := AH.set_none.1 hb'
    have nb'2 : b' ≠ b2 := by rintro rfl; rw [o2] at hb'; cases hb'
    have nb'b : b' ≠ b := by rintro rfl; rw [ob] at hb'; cases hb'
    have o2'' : (((h1.set c (.loop .busy frA frC [7] a42_0.toC b42_0.toC none)).del b).set b' (.cells (nmC told ++ [[AV.str n]].flatten) 9)).objs b2 = some (.cells [.slice b 0 told.length told.length] 45) := by
      rw [AH.set_ne _ _ nb'2.symm, AH.del_objs, if_neg nb2.symm]; exact o2'
    simp only [runs, e_onS, AH.set_same, AH.set_set, List.map_cons, List.map_nil, List.length_cons, List.length_nil, List.drop_zero, List.drop_succ_cons, List.take_succ_cons, List.take_zero, List.take_nil, List.nil_append, List.cons_append, List.append_nil, List.all_cons, List.all_nil, Nat.zero_add, Nat.add_zero, ite_true, ite_false, if_true, if_false, ne_eq, not_false_eq_true, not_true_eq_false, and_true, true_and, and_self, Bool.and_true, Bool.true_and, Bool.not_true, Bool.not_false, List.getElem?_cons_zero, List.getElem?_cons_succ, Option.isSome_some, beq_self_eq_true, implies_true, forall_const, Nat.le_refl, Option.some.injEq, Option.getD_some, Option.getD_none, List.getElem?_nil, e_Lpn, e_Lpe, e_Lpr, decide_true, decide_false, Int.natCast_nonneg, Int.toNat_natCast, Int.toNat_zero, lt_irr, imp_self, false_implies, big_eq, pevA, takeA, putA, fillA, chunkA, zerosL, binA, binI, binS, isNilA, lookA, bndA, depA, depV, depM, depS, cellAt, elemAt, initA, Nat.reduceAdd, Nat.reduceLeDiff, Nat.reduceEqDiff, reduceIte, reduceCtorEq, Nat.reduceLT, Nat.reduceMul, Nat.reduceSub, Int.reduceAdd, Int.reduceSub, Int.reduceMul, Int.reduceLT, Int.reduceLE, Int.reduceEq, Int.reduceNe, Int.reduceNeg, Int.reduceToNat, hf, o2'', k2]
    refine ⟨by simp [AH.set_objs, AH.del_objs, n2c.symm, nb'c.symm, nbc.symm], rfl, b', by simp [AH.set_objs, AH.del_objs, n2c], by simp [AH.set_objs, AH.del_objs, nb'c, nb'2, nmC], by simp [AH.set_objs, lpA, CExit.nm], nb'2, nb'c, hk', hb', rfl, fun m o hm2 hmb0 ho => ?_⟩
    have hmb : m ≠ b' := by rintro rfl; rw [hb'] at ho; cases ho
    have hmb2 : m ≠ b := hmb0 b rfl
    by_cases hmc : m = c
    · subst hmc
      rw [oc] at ho
      simp only [AH.set_objs, if_true, CExit.nm]
      exact ho
    · simp only [AH.set_objs, AH.del_objs, hm2, hmb, hmc, hmb2, if_false]; exact ho

/-- behind the names that were told -/
structure Told (frA : AFr) (frC : Fr) (b2 c : Nat) (P : Nat → Prop) (h1 : AH) (told : List (List UInt8)) (v : AV) (h2 : AH) : Prop where
  o2 : h2.objs b2 = some (.cells [v] 45)
  oc : h2.objs c = some (lpA frA frC .ready none)
  row : rowV told v h2.objs fun b => b ≠ b2 ∧ b ≠ c ∧ P b ∧ h1.objs b = none ∧ told ≠ []
  tk : h2.toks = h1.toks
  keep : ∀ m o, m ≠ b2 → h1.objs m = some o → h2.objs m = some o

theorem rowV.mono {told : List (List UInt8)} {v : AV} {ob ob' : Nat → Option AO} {P Q : Nat → Prop} (h : rowV told v ob P) (hPQ : ∀ b, P b → Q b) (ho : ∀ b, P b → ob b = some (.cells (nmC told) 9) → ob' b = some (.cells (nmC told) 9)) : rowV told v ob' Q := by
  rcases h with h | ⟨b, h1, h2, h3⟩
  · exact .inl h
  · exact .inr ⟨b, h1, ho b h3 h2, hPQ b h3⟩

theorem keys1_app (l : Sb) (nd : Nd l) (hl : l.length ≤ 1000) (frA : AFr) (frC : Fr) (b2 c : Nat) (hf : frA 2 = .ptr b2 0) (K : Nat → Prop) (h1 : AH) (n2c : b2 ≠ c) (k2 : ¬ K b2) (kc : ¬ K c)
    (o2 : h1.objs b2 = some (.cells [.lst 0 [] .nil] 45)) (oc : h1.objs c = some (lpA frA frC .ready none)) :
    ACall T K (.func 41) [.yield c, .rptr [.fmap (sbC l)]] h1 fun _ h2 => ∃ told v, told.Perm (names l) ∧ Told frA frC b2 c (fun b => ¬ K b) h1 told v h2 := by
  refine ACall.retQ t41 fun hK => ?_
  simp only [u_C c41.eq_1, runs, e_onS, AH.set_same, AH.set_set, List.map_cons, List.map_nil, List.length_cons, List.length_nil, List.drop_zero, List.drop_succ_cons, List.take_succ_cons, List.take_zero, List.take_nil, List.nil_append, List.cons_append, List.append_nil, List.all_cons, List.all_nil, Nat.zero_add, Nat.add_zero, ite_true, ite_false, if_true, if_false, ne_eq, not_false_eq_true, not_true_eq_false, and_true, true_and, and_self, Bool.and_true, Bool.true_and, Bool.not_true, Bool.not_false, List.getElem?_cons_zero, List.getElem?_cons_succ, Option.isSome_some, beq_self_eq_true, implies_true, forall_const, Nat.le_refl, Option.some.injEq, Option.getD_some, Option.getD_none, List.getElem?_nil, e_Lpn, e_Lpe, e_Lpr, decide_true, decide_false, Int.natCast_nonneg, Int.toNat_natCast, Int.toNat_zero, lt_irr, imp_self, false_implies, big_eq, pevA, takeA, putA, fillA, chunkA, zerosL, binA, binI, binS, isNilA, lookA, bndA, depA, depV, depM, depS, cellAt, elemAt, initA, Nat.reduceAdd, Nat.reduceLeDiff, Nat.reduceEqDiff, reduceIte, reduceCtorEq, Nat.reduceLT, Nat.reduceMul, Nat.reduceSub, Int.reduceAdd, Int.reduceSub, Int.reduceMul, Int.reduceLT, Int.reduceLE, Int.reduceEq, Int.reduceNe, Int.reduceNeg, Int.reduceToNat]
  refine WO.range (es := sbC l) (.inl rfl) (sb_keys nd) fun b5 hb5 hk5 => ?_
  have n52 : b5 ≠ b2 := by rintro rfl; rw [o2] at hb5; cases hb5
  have n5c : b5 ≠ c := by rintro rfl; rw [oc] at hb5; cases hb5
  simp only [runs, e_onS, AH.set_same, AH.set_set, List.map_cons, List.map_nil, List.length_cons, List.length_nil, List.drop_zero, List.drop_succ_cons, List.take_succ_cons, List.take_zero, List.take_nil, List.nil_append, List.cons_append, List.append_nil, List.all_cons, List.all_nil, Nat.zero_add, Nat.add_zero, ite_true, ite_false, if_true, if_false, ne_eq, not_false_eq_true, not_true_eq_false, and_true, true_and, and_self, Bool.and_true, Bool.true_and, Bool.not_true, Bool.not_false, List.getElem?_cons_zero, List.getElem?_cons_succ, Option.isSome_some, beq_self_eq_true, implies_true, forall_const, Nat.le_refl, Option.some.injEq, Option.getD_some, Option.getD_none, List.getElem?_nil, e_Lpn, e_Lpe, e_Lpr, decide_true, decide_false, Int.natCast_nonneg, Int.toNat_natCast, Int.toNat_zero, lt_irr, imp_self, false_implies, big_eq, pevA, takeA, putA, fillA, chunkA, zerosL, binA, binI, binS, isNilA, lookA, bndA, depA, depV, depM, depS, cellAt, elemAt, initA, Nat.reduceAdd, Nat.reduceLeDiff, Nat.reduceEqDiff, reduceIte, reduceCtorEq, Nat.reduceLT, Nat.reduceMul, Nat.reduceSub, Int.reduceAdd, Int.reduceSub, Int.reduceMul, Int.reduceLT, Int.reduceLE, Int.reduceEq, Int.reduceNe, Int.reduceNeg, Int.reduceToNat]
  refine aloop (α := Sb × List (List UInt8)) (fun x fr h2 => fr 0 = .yield c ∧ fr 5 = .ptr b5 0 ∧ Nd x.1 ∧ (x.2 ++ names x.1).Perm (names l) ∧ (∃ v, Told frA frC b2 c (fun b => ¬ K b ∧ b ≠ b5) h1 x.2 v h2) ∧ KOk K h2 ∧ ∃ cur, h2.objs b5 = some (.iter (sbC x.1) cur)) (fun x => x.1.length) (l, []) ?_ ?_
  · refine ⟨rfl, rfl, nd, by simp, ⟨_, by rw [AH.set_ne _ _ n52.symm]; exact o2, by rw [AH.set_ne _ _ n5c.symm]; exact oc, .inl ⟨rfl, rfl⟩, rfl, fun m o _ ho => ?_⟩, hK.set _ _, none, AH.set_same _ _ _⟩
    rw [AH.set_ne _ _ (by rintro rfl; rw [hb5] at ho; cases ho)]; exact ho
  · rintro ⟨td, told⟩ fr h2 ⟨f0, f5, ntd, hp, ⟨v, hT⟩, hK2, cur, o5⟩
    simp only at ntd hp hT o5
    simp only [u_C l41_0.eq_1, runs, e_onS, AH.set_same, AH.set_set, List.map_cons, List.map_nil, List.length_cons, List.length_nil, List.drop_zero, List.drop_succ_cons, List.take_succ_cons, List.take_zero, List.take_nil, List.nil_append, List.cons_append, List.append_nil, List.all_cons, List.all_nil, Nat.zero_add, Nat.add_zero, ite_true, ite_false, if_true, if_false, ne_eq, not_false_eq_true, not_true_eq_false, and_true, true_and, and_self, Bool.and_true, Bool.true_and, Bool.not_true, Bool.not_false, List.getElem?_cons_zero, List.getElem?_cons_succ, Option.isSome_some, beq_self_eq_true, implies_true, forall_const, Nat.le_refl, Option.some.injEq, Option.getD_some, Option.getD_none, List.getElem?_nil, e_Lpn, e_Lpe, e_Lpr, decide_true, decide_false, Int.natCast_nonneg, Int.toNat_natCast, Int.toNat_zero, lt_irr, imp_self, false_implies, big_eq, pevA, takeA, putA, fillA, chunkA, zerosL, binA, binI, binS, isNilA, lookA, bndA, depA, depV, depM, depS, cellAt, elemAt, initA, Nat.reduceAdd, Nat.reduceLeDiff, Nat.reduceEqDiff, reduceIte, reduceCtorEq, Nat.reduceLT, Nat.reduceMul, Nat.reduceSub, Int.reduceAdd, Int.reduceSub, Int.reduceMul, Int.reduceLT, Int.reduceLE, Int.reduceEq, Int.reduceNe, Int.reduceNeg, Int.reduceToNat]
    refine WO.next f5 o5 hk5 (fun h0 => ?_) fun pre k w post h0 => ?_
    · have htd : td = [] := by simpa [sbC] using h0
      subst htd
      simp only [runs, e_onS, AH.set_same, AH.set_set, List.map_cons, List.map_nil, List.length_cons, List.length_nil, List.drop_zero, List.drop_succ_cons, List.take_succ_cons, List.take_zero, List.take_nil, List.nil_append, List.cons_append, List.append_nil, List.all_cons, List.all_nil, Nat.zero_add, Nat.add_zero, ite_true, ite_false, if_true, if_false, ne_eq, not_false_eq_true, not_true_eq_false, and_true, true_and, and_self, Bool.and_true, Bool.true_and, Bool.not_true, Bool.not_false, List.getElem?_cons_zero, List.getElem?_cons_succ, Option.isSome_some, beq_self_eq_true, implies_true, forall_const, Nat.le_refl, Option.some.injEq, Option.getD_some, Option.getD_none, List.getElem?_nil, e_Lpn, e_Lpe, e_Lpr, decide_true, decide_false, Int.natCast_nonneg, Int.toNat_natCast, Int.toNat_zero, lt_irr, imp_self, false_implies, big_eq, pevA, takeA, putA, fillA, chunkA, zerosL, binA, binI, binS, isNilA, lookA, bndA, depA, depV, depM, depS, cellAt, elemAt, initA, Nat.reduceAdd, Nat.reduceLeDiff, Nat.reduceEqDiff, reduceIte, reduceCtorEq, Nat.reduceLT, Nat.reduceMul, Nat.reduceSub, Int.reduceAdd, Int.reduceSub, Int.reduceMul, Int.reduceLT, Int.reduceLE, Int.reduceEq, Int.reduceNe, Int.reduceNeg, Int.reduceToNat]
      refine ⟨_, h2, .refl _ _, hK2, told, v, by simpa [names] using hp, ⟨hT.o2, hT.oc, hT.row.mono (fun b hb => ⟨hb.1, hb.2.1, hb.2.2.1.1, hb.2.2.2⟩) fun b _ h => h, hT.tk, hT.keep⟩⟩
    · obtain ⟨a, p, z, rfl, rfl, rfl, rfl, rfl⟩ := sb_split h0
      simp only [runs, e_onS, AH.set_same, AH.set_set, List.map_cons, List.map_nil, List.length_cons, List.length_nil, List.drop_zero, List.drop_succ_cons, List.take_succ_cons, List.take_zero, List.take_nil, List.nil_append, List.cons_append, List.append_nil, List.all_cons, List.all_nil, Nat.zero_add, Nat.add_zero, ite_true, ite_false, if_true, if_false, ne_eq, not_false_eq_true, not_true_eq_false, and_true, true_and, and_self, Bool.and_true, Bool.true_and, Bool.not_true, Bool.not_false, List.getElem?_cons_zero, List.getElem?_cons_succ, Option.isSome_some, beq_self_eq_true, implies_true, forall_const, Nat.le_refl, Option.some.injEq, Option.getD_some, Option.getD_none, List.getElem?_nil, e_Lpn, e_Lpe, e_Lpr, decide_true, decide_false, Int.natCast_nonneg, Int.toNat_natCast, Int.toNat_zero, lt_irr, imp_self, false_implies, big_eq, pevA, takeA, putA, fillA, chunkA, zerosL, binA, binI, binS, isNilA, lookA, bndA, depA, depV, depM, depS, cellAt, elemAt, initA, Nat.reduceAdd, Nat.reduceLeDiff, Nat.reduceEqDiff, reduceIte, reduceCtorEq, Nat.reduceLT, Nat.reduceMul, Nat.reduceSub, Int.reduceAdd, Int.reduceSub, Int.reduceMul, Int.reduceLT, Int.reduceLE, Int.reduceEq, Int.reduceNe, Int.reduceNeg, Int.reduceToNat, f5, f0]
      have hlen : told.length ≤ 1000 := by
        have := hp.length_eq
        simp [names] at this
        omega
      have hrow : ∀ b, v = .slice b 0 told.length told.length → b ≠ b5 ∧ h1.objs b = none := by
        intro b hv
        rcases hT.row with ⟨_, e⟩ | ⟨b0, e, _, _, _, ⟨_, e5⟩, e6⟩
        · rw [e] at hv; cases hv
        · rw [e] at hv; cases hv; exact ⟨e5, e6.1⟩
      refine ACall.kn ((app_yield frA frC b2 c hf K _ told p.1 v hlen n2c k2 kc (by rw [AH.set_ne _ _ n52.symm]; exact hT.o2) (by rw [AH.set_ne _ _ n5c.symm]; exact hT.oc) (hT.row.mono (fun b hb => ⟨hb.1, hb.2.1, hb.2.2.1.1⟩) fun b hb h => by rw [AH.set_ne _ _ hb.2.2.1.2]; exact h)).mono ?_)
      rintro _ h3 ⟨rfl, b', q2, qb, qc, nb2, nbc, kb', hb', qt, qk⟩ hK3
      obtain ⟨nb5, hb'⟩ := AH.set_none.1 hb'
      have hb1 : h1.objs b' = none := by
        cases e : h1.objs b' with
        | none => rfl
        | some o => rw [hT.keep b' o nb2 e] at hb'; cases hb'
      simp only [runs, e_onS, AH.set_same, AH.set_set, List.map_cons, List.map_nil, List.length_cons, List.length_nil, List.drop_zero, List.drop_succ_cons, List.take_succ_cons, List.take_zero, List.take_nil, List.nil_append, List.cons_append, List.append_nil, List.all_cons, List.all_nil, Nat.zero_add, Nat.add_zero, ite_true, ite_false, if_true, if_false, ne_eq, not_false_eq_true, not_true_eq_false, and_true, true_and, and_self, Bool.and_true, Bool.true_and, Bool.not_true, Bool.not_false, List.getElem?_cons_zero, List.getElem?_cons_succ, Option.isSome_some, beq_self_eq_true, implies_true, forall_const, Nat.le_refl, Option.some.injEq, Option.getD_some, Option.getD_none, List.getElem?_nil, e_Lpn, e_Lpe, e_Lpr, decide_true, decide_false, Int.natCast_nonneg, Int.toNat_natCast, Int.toNat_zero, lt_irr, imp_self, false_implies, big_eq, pevA, takeA, putA, fillA, chunkA, zerosL, binA, binI, binS, isNilA, lookA, bndA, depA, depV, depM, depS, cellAt, elemAt, initA, Nat.reduceAdd, Nat.reduceLeDiff, Nat.reduceEqDiff, reduceIte, reduceCtorEq, Nat.reduceLT, Nat.reduceMul, Nat.reduceSub, Int.reduceAdd, Int.reduceSub, Int.reduceMul, Int.reduceLT, Int.reduceLE, Int.reduceEq, Int.reduceNe, Int.reduceNeg, Int.reduceToNat]
      refine ⟨(a ++ z, told ++ [p.1]), by simp, f0, f5, (nd_split ntd).1, ?_, ⟨_, q2, qc, .inr ⟨b', rfl, qb, nb2, nbc, ⟨kb', nb5⟩, hb1, by simp⟩, qt.trans hT.tk, fun m o hm ho => ?_⟩, hK3, some (.str p.1, .agg (tyC p.2)), ?_⟩
      · refine List.Perm.trans ?_ hp
        simp only [names, List.map_append, List.map_cons, List.append_assoc, List.singleton_append]
        refine List.Perm.append_left told ?_
        exact List.perm_middle.symm
      · refine qk m o hm (fun b hv e => ?_) ?_
        · subst e; rw [(hrow m hv).2] at ho; cases ho
        · rw [AH.set_ne _ _ (by rintro rfl; rw [hb5] at ho; cases ho)]; exact hT.keep m o hm ho
      · refine qk b5 _ n52 (fun b hv e => (hrow b hv).1 e.symm) ?_
        rw [AH.set_same, sbC, sbC, sbC, List.map_append]

/-- the names, in a row that may still be written -/
def SeqQ (l : Sb) (K : Nat → Prop) (h : AH) (v : AV) (h' : AH) : Prop := ∃ told, told.Perm (names l) ∧ ((told = [] ∧ v = .lst 0 [] .nil ∧ h' = h) ∨ ∃ b, v = .slice b 0 told.length told.length ∧ h' = h.set b (.cells (nmC told) 9) ∧ h.objs b = none ∧ ¬ K b ∧ told ≠ [])

theorem le_put {h0 h : AH} {b : Nat} {o : AO} (hl : h0.le h) (ho : h.objs b = some o) : (h0.set b o).le h :=
  ⟨fun m x hm => by
    rw [AH.set_objs] at hm
    split at hm
    · rename_i e; subst e; cases hm; exact ho
    · exact hl.1 m x hm, hl.2⟩

theorem seq_ok (l : Sb) (nd : Nd l) (hl : l.length ≤ 1000) (K : Nat → Prop) (h : AH) : ACall T K (.func 42) [.lst 0 [] .nil, .func 41 [] [.rptr [.fmap (sbC l)]]] h (SeqQ l K h) := by
  refine ACall.retQ t42 fun hK => ?_
  simp only [u_C c42.eq_1, runs, e_onS, AH.set_same, AH.set_set, List.map_cons, List.map_nil, List.length_cons, List.length_nil, List.drop_zero, List.drop_succ_cons, List.take_succ_cons, List.take_zero, List.take_nil, List.nil_append, List.cons_append, List.append_nil, List.all_cons, List.all_nil, Nat.zero_add, Nat.add_zero, ite_true, ite_false, if_true, if_false, ne_eq, not_false_eq_true, not_true_eq_false, and_true, true_and, and_self, Bool.and_true, Bool.true_and, Bool.not_true, Bool.not_false, List.getElem?_cons_zero, List.getElem?_cons_succ, Option.isSome_some, beq_self_eq_true, implies_true, forall_const, Nat.le_refl, Option.some.injEq, Option.getD_some, Option.getD_none, List.getElem?_nil, e_Lpn, e_Lpe, e_Lpr, decide_true, decide_false, Int.natCast_nonneg, Int.toNat_natCast, Int.toNat_zero, lt_irr, imp_self, false_implies, big_eq, pevA, takeA, putA, fillA, chunkA, zerosL, binA, binI, binS, isNilA, lookA, bndA, depA, depV, depM, depS, cellAt, elemAt, initA, Nat.reduceAdd, Nat.reduceLeDiff, Nat.reduceEqDiff, reduceIte, reduceCtorEq, Nat.reduceLT, Nat.reduceMul, Nat.reduceSub, Int.reduceAdd, Int.reduceSub, Int.reduceMul, Int.reduceLT, Int.reduceLE, Int.reduceEq, Int.reduceNe, Int.reduceNeg, Int.reduceToNat]
  intro b2 hb2 hk2
  simp only [runs, e_onS, AH.set_same, AH.set_set, List.map_cons, List.map_nil, List.length_cons, List.length_nil, List.drop_zero, List.drop_succ_cons, List.take_succ_cons, List.take_zero, List.take_nil, List.nil_append, List.cons_append, List.append_nil, List.all_cons, List.all_nil, Nat.zero_add, Nat.add_zero, ite_true, ite_false, if_true, if_false, ne_eq, not_false_eq_true, not_true_eq_false, and_true, true_and, and_self, Bool.and_true, Bool.true_and, Bool.not_true, Bool.not_false, List.getElem?_cons_zero, List.getElem?_cons_succ, Option.isSome_some, beq_self_eq_true, implies_true, forall_const, Nat.le_refl, Option.some.injEq, Option.getD_some, Option.getD_none, List.getElem?_nil, e_Lpn, e_Lpe, e_Lpr, decide_true, decide_false, Int.natCast_nonneg, Int.toNat_natCast, Int.toNat_zero, lt_irr, imp_self, false_implies, big_eq, pevA, takeA, putA, fillA, chunkA, zerosL, binA, binI, binS, isNilA, lookA, bndA, depA, depV, depM, depS, cellAt, elemAt, initA, Nat.reduceAdd, Nat.reduceLeDiff, Nat.reduceEqDiff, reduceIte, reduceCtorEq, Nat.reduceLT, Nat.reduceMul, Nat.reduceSub, Int.reduceAdd, Int.reduceSub, Int.reduceMul, Int.reduceLT, Int.reduceLE, Int.reduceEq, Int.reduceNe, Int.reduceNeg, Int.reduceToNat]
  refine W.rfun rfl fun c frC hc htc hkc => ?_
  obtain ⟨ncb, hc⟩ := AH.set_none.1 hc
  have n2c : b2 ≠ c := ncb.symm
  refine ACall.kn ((keys1_app l nd hl _ frC b2 c rfl K _ n2c hk2 hkc (by rw [AH.set_ne _ _ n2c, AH.set_same]) (AH.set_same _ _ _)).mono ?_)
  rintro _ h2 ⟨told, v, hp, hT⟩ hK2
  refine ⟨_, _, hT.oc, by simp, by simp, ?_⟩
  have o2 : (h2.del c).objs b2 = some (.cells [v] 45) := by rw [AH.del_objs, if_neg n2c]; exact hT.o2
  simp only [Option.getD_none, runs, e_onS, AH.set_same, AH.set_set, List.map_cons, List.map_nil, List.length_cons, List.length_nil, List.drop_zero, List.drop_succ_cons, List.take_succ_cons, List.take_zero, List.take_nil, List.nil_append, List.cons_append, List.append_nil, List.all_cons, List.all_nil, Nat.zero_add, Nat.add_zero, ite_true, ite_false, if_true, if_false, ne_eq, not_false_eq_true, not_true_eq_false, and_true, true_and, and_self, Bool.and_true, Bool.true_and, Bool.not_true, Bool.not_false, List.getElem?_cons_zero, List.getElem?_cons_succ, Option.isSome_some, beq_self_eq_true, implies_true, forall_const, Nat.le_refl, Option.some.injEq, Option.getD_some, Option.getD_none, List.getElem?_nil, e_Lpn, e_Lpe, e_Lpr, decide_true, decide_false, Int.natCast_nonneg, Int.toNat_natCast, Int.toNat_zero, lt_irr, imp_self, false_implies, big_eq, pevA, takeA, putA, fillA, chunkA, zerosL, binA, binI, binS, isNilA, lookA, bndA, depA, depV, depM, depS, cellAt, elemAt, initA, Nat.reduceAdd, Nat.reduceLeDiff, Nat.reduceEqDiff, reduceIte, reduceCtorEq, Nat.reduceLT, Nat.reduceMul, Nat.reduceSub, Int.reduceAdd, Int.reduceSub, Int.reduceMul, Int.reduceLT, Int.reduceLE, Int.reduceEq, Int.reduceNe, Int.reduceNeg, Int.reduceToNat, o2]
  have hle : h.le (h2.del c) := ⟨fun m o ho => by
    have m2 : m ≠ b2 := by rintro rfl; rw [hb2] at ho; cases ho
    have mc : m ≠ c := by rintro rfl; rw [hc] at ho; cases ho
    rw [AH.del_objs, if_neg mc]
    exact hT.keep m o m2 (by rw [AH.set_ne _ _ mc, AH.set_ne _ _ m2]; exact ho), fun d k hk => by show h2.toks d = some k; rw [hT.tk]; exact hk⟩
  rcases hT.row with ⟨rfl, rfl⟩ | ⟨b, rfl, ob, nb2, nbc, kb, hb1, hne⟩
  · exact ⟨_, h, .drop hle (.refl _ _), hK, [], hp, .inl ⟨rfl, rfl, rfl⟩⟩
  · obtain ⟨_, hb1⟩ := AH.set_none.1 hb1
    obtain ⟨_, hb1⟩ := AH.set_none.1 hb1
    exact ⟨_, _, .drop (le_put hle (by rw [AH.del_objs, if_neg nbc]; exact ob)) (.refl _ _), hK.set _ _, told, hp,   .inr ⟨b, rfl, rfl, hb1, kb, hne⟩⟩

theorem collect_ok (l : Sb) (nd : Nd l) (hl : l.length ≤ 1000) (K : Nat → Prop) (h : AH) : ACall T K (.func 39) [.func 41 [] [.rptr [.fmap (sbC l)]]] h (SeqQ l K h) := by
  refine ACall.retQ t39 fun hK => ?_
  simp only [u_C c39.eq_1, runs, e_onS, AH.set_same, AH.set_set, List.map_cons, List.map_nil, List.length_cons, List.length_nil, List.drop_zero, List.drop_succ_cons, List.take_succ_cons, List.take_zero, List.take_nil, List.nil_append, List.cons_append, List.append_nil, List.all_cons, List.all_nil, Nat.zero_add, Nat.add_zero, ite_true, ite_false, if_true, if_false, ne_eq, not_false_eq_true, not_true_eq_false, and_true, true_and, and_self, Bool.and_true, Bool.true_and, Bool.not_true, Bool.not_false, List.getElem?_cons_zero, List.getElem?_cons_succ, Option.isSome_some, beq_self_eq_true, implies_true, forall_const, Nat.le_refl, Option.some.injEq, Option.getD_some, Option.getD_none, List.getElem?_nil, e_Lpn, e_Lpe, e_Lpr, decide_true, decide_false, Int.natCast_nonneg, Int.toNat_natCast, Int.toNat_zero, lt_irr, imp_self, false_implies, big_eq, pevA, takeA, putA, fillA, chunkA, zerosL, binA, binI, binS, isNilA, lookA, bndA, depA, depV, depM, depS, cellAt, elemAt, initA, Nat.reduceAdd, Nat.reduceLeDiff, Nat.reduceEqDiff, reduceIte, reduceCtorEq, Nat.reduceLT, Nat.reduceMul, Nat.reduceSub, Int.reduceAdd, Int.reduceSub, Int.reduceMul, Int.reduceLT, Int.reduceLE, Int.reduceEq, Int.reduceNe, Int.reduceNeg, Int.reduceToNat]
  refine ACall.kn ((seq_ok l nd hl K h).mono fun v h' hq hK' => ?_)
  simp only [runs, e_onS, AH.set_same, AH.set_set, List.map_cons, List.map_nil, List.length_cons, List.length_nil, List.drop_zero, List.drop_succ_cons, List.take_succ_cons, List.take_zero, List.take_nil, List.nil_append, List.cons_append, List.append_nil, List.all_cons, List.all_nil, Nat.zero_add, Nat.add_zero, ite_true, ite_false, if_true, if_false, ne_eq, not_false_eq_true, not_true_eq_false, and_true, true_and, and_self, Bool.and_true, Bool.true_and, Bool.not_true, Bool.not_false, List.getElem?_cons_zero, List.getElem?_cons_succ, Option.isSome_some, beq_self_eq_true, implies_true, forall_const, Nat.le_refl, Option.some.injEq, Option.getD_some, Option.getD_none, List.getElem?_nil, e_Lpn, e_Lpe, e_Lpr, decide_true, decide_false, Int.natCast_nonneg, Int.toNat_natCast, Int.toNat_zero, lt_irr, imp_self, false_implies, big_eq, pevA, takeA, putA, fillA, chunkA, zerosL, binA, binI, binS, isNilA, lookA, bndA, depA, depV, depM, depS, cellAt, elemAt, initA, Nat.reduceAdd, Nat.reduceLeDiff, Nat.reduceEqDiff, reduceIte, reduceCtorEq, Nat.reduceLT, Nat.reduceMul, Nat.reduceSub, Int.reduceAdd, Int.reduceSub, Int.reduceMul, Int.reduceLT, Int.reduceLE, Int.reduceEq, Int.reduceNe, Int.reduceNeg, Int.reduceToNat]
  exact ⟨_, h', .refl _ _, hK', hq⟩

/-- the names, sorted -/
theorem sorted_ok (l : Sb) (nd : Nd l) (hl : l.length ≤ 4) (K : Nat → Prop) (h : AH) : ACall T K (.func 36) [.func 41 [] [.rptr [.fmap (sbC l)]]] h fun v h' => (∃ E t ns, v = .lst E (ns.map fun s => [.str s]) t ∧ ns.Perm (names l) ∧ Srt ns) ∧ h' = h := by
  refine ACall.retQ t36 fun hK => ?_
  simp only [u_C c36.eq_1, runs, e_onS, AH.set_same, AH.set_set, List.map_cons, List.map_nil, List.length_cons, List.length_nil, List.drop_zero, List.drop_succ_cons, List.take_succ_cons, List.take_zero, List.take_nil, List.nil_append, List.cons_append, List.append_nil, List.all_cons, List.all_nil, Nat.zero_add, Nat.add_zero, ite_true, ite_false, if_true, if_false, ne_eq, not_false_eq_true, not_true_eq_false, and_true, true_and, and_self, Bool.and_true, Bool.true_and, Bool.not_true, Bool.not_false, List.getElem?_cons_zero, List.getElem?_cons_succ, Option.isSome_some, beq_self_eq_true, implies_true, forall_const, Nat.le_refl, Option.some.injEq, Option.getD_some, Option.getD_none, List.getElem?_nil, e_Lpn, e_Lpe, e_Lpr, decide_true, decide_false, Int.natCast_nonneg, Int.toNat_natCast, Int.toNat_zero, lt_irr, imp_self, false_implies, big_eq, pevA, takeA, putA, fillA, chunkA, zerosL, binA, binI, binS, isNilA, lookA, bndA, depA, depV, depM, depS, cellAt, elemAt, initA, Nat.reduceAdd, Nat.reduceLeDiff, Nat.reduceEqDiff, reduceIte, reduceCtorEq, Nat.reduceLT, Nat.reduceMul, Nat.reduceSub, Int.reduceAdd, Int.reduceSub, Int.reduceMul, Int.reduceLT, Int.reduceLE, Int.reduceEq, Int.reduceNe, Int.reduceNeg, Int.reduceToNat]
  refine ACall.kn ((collect_ok l nd (by omega) K h).mono ?_)
  rintro v h' ⟨told, hp, hq⟩ hK'
  have hlen : told.length ≤ 4 := by have := hp.length_eq; simp [names] at this; omega
  simp only [runs, e_onS, AH.set_same, AH.set_set, List.map_cons, List.map_nil, List.length_cons, List.length_nil, List.drop_zero, List.drop_succ_cons, List.take_succ_cons, List.take_zero, List.take_nil, List.nil_append, List.cons_append, List.append_nil, List.all_cons, List.all_nil, Nat.zero_add, Nat.add_zero, ite_true, ite_false, if_true, if_false, ne_eq, not_false_eq_true, not_true_eq_false, and_true, true_and, and_self, Bool.and_true, Bool.true_and, Bool.not_true, Bool.not_false, List.getElem?_cons_zero, List.getElem?_cons_succ, Option.isSome_some, beq_self_eq_true, implies_true, forall_const, Nat.le_refl, Option.some.injEq, Option.getD_some, Option.getD_none, List.getElem?_nil, e_Lpn, e_Lpe, e_Lpr, decide_true, decide_false, Int.natCast_nonneg, Int.toNat_natCast, Int.toNat_zero, lt_irr, imp_self, false_implies, big_eq, pevA, takeA, putA, fillA, chunkA, zerosL, binA, binI, binS, isNilA, lookA, bndA, depA, depV, depM, depS, cellAt, elemAt, initA, Nat.reduceAdd, Nat.reduceLeDiff, Nat.reduceEqDiff, reduceIte, reduceCtorEq, Nat.reduceLT, Nat.reduceMul, Nat.reduceSub, Int.reduceAdd, Int.reduceSub, Int.reduceMul, Int.reduceLT, Int.reduceLE, Int.reduceEq, Int.reduceNe, Int.reduceNeg, Int.reduceToNat]
  rcases hq with ⟨rfl, rfl, rfl⟩ | ⟨b, rfl, rfl, hb, hkb, hne⟩
  · refine ACall.kn ((sortS_few (.lst 0 [] .nil) 0 (by omega) (.inr ⟨⟨_, rfl⟩, rfl⟩) K h' (fun h'' => h'' = h') ((sort_nil 0).use rfl)).mono ?_)
    rintro _ h2 rfl hK2
    simp only [runs, e_onS, AH.set_same, AH.set_set, List.map_cons, List.map_nil, List.length_cons, List.length_nil, List.drop_zero, List.drop_succ_cons, List.take_succ_cons, List.take_zero, List.take_nil, List.nil_append, List.cons_append, List.append_nil, List.all_cons, List.all_nil, Nat.zero_add, Nat.add_zero, ite_true, ite_false, if_true, if_false, ne_eq, not_false_eq_true, not_true_eq_false, and_true, true_and, and_self, Bool.and_true, Bool.true_and, Bool.not_true, Bool.not_false, List.getElem?_cons_zero, List.getElem?_cons_succ, Option.isSome_some, beq_self_eq_true, implies_true, forall_const, Nat.le_refl, Option.some.injEq, Option.getD_some, Option.getD_none, List.getElem?_nil, e_Lpn, e_Lpe, e_Lpr, decide_true, decide_false, Int.natCast_nonneg, Int.toNat_natCast, Int.toNat_zero, lt_irr, imp_self, false_implies, big_eq, pevA, takeA, putA, fillA, chunkA, zerosL, binA, binI, binS, isNilA, lookA, bndA, depA, depV, depM, depS, cellAt, elemAt, initA, Nat.reduceAdd, Nat.reduceLeDiff, Nat.reduceEqDiff, reduceIte, reduceCtorEq, Nat.reduceLT, Nat.reduceMul, Nat.reduceSub, Int.reduceAdd, Int.reduceSub, Int.reduceMul, Int.reduceLT, Int.reduceLE, Int.reduceEq, Int.reduceNe, Int.reduceNeg, Int.reduceToNat]
    exact ⟨_, h2, .refl _ _, hK2, ⟨0, .nil, [], rfl, hp, .nil⟩, rfl⟩
  · refine ACall.kn ((sortS_few (.slice b 0 told.length told.length) told.length hlen (.inl ⟨b, rfl⟩) K _ _ (sort_ok told (by omega) K _ b 9 (AH.set_same _ _ _) hkb)).mono ?_)
    rintro _ h2 ⟨l', hp2, hs, rfl⟩ hK2
    rw [AH.set_set] at hK2 ⊢
    simp only [runs, e_onS, AH.set_same, AH.set_set, List.map_cons, List.map_nil, List.length_cons, List.length_nil, List.drop_zero, List.drop_succ_cons, List.take_succ_cons, List.take_zero, List.take_nil, List.nil_append, List.cons_append, List.append_nil, List.all_cons, List.all_nil, Nat.zero_add, Nat.add_zero, ite_true, ite_false, if_true, if_false, ne_eq, not_false_eq_true, not_true_eq_false, and_true, true_and, and_self, Bool.and_true, Bool.true_and, Bool.not_true, Bool.not_false, List.getElem?_cons_zero, List.getElem?_cons_succ, Option.isSome_some, beq_self_eq_true, implies_true, forall_const, Nat.le_refl, Option.some.injEq, Option.getD_some, Option.getD_none, List.getElem?_nil, e_Lpn, e_Lpe, e_Lpr, decide_true, decide_false, Int.natCast_nonneg, Int.toNat_natCast, Int.toNat_zero, lt_irr, imp_self, false_implies, big_eq, pevA, takeA, putA, fillA, chunkA, zerosL, binA, binI, binS, isNilA, lookA, bndA, depA, depV, depM, depS, cellAt, elemAt, initA, Nat.reduceAdd, Nat.reduceLeDiff, Nat.reduceEqDiff, reduceIte, reduceCtorEq, Nat.reduceLT, Nat.reduceMul, Nat.reduceSub, Int.reduceAdd, Int.reduceSub, Int.reduceMul, Int.reduceLT, Int.reduceLE, Int.reduceEq, Int.reduceNe, Int.reduceNeg, Int.reduceToNat]
    have hl' := hp2.length_eq
    refine ⟨_, h, Frz.slice1 (cs := nmC l') (E := 9) (AH.set_same _ _ _) (by rw [nmC_len, hl']) (List.length_pos_iff.2 hne) (by rw [big_eq]; omega) (c := .lst 9 (l'.map fun s => [.str s]) .no) ?_ ?_, hK, ⟨9, .no, l', rfl, hp2.trans hp, hs⟩, rfl⟩
    · rw [nmC, List.map_map]; exact .refl _
    · rw [AH.set_del _ _ hb]; exact AH.le_refl _
end Go.Proofs.Ytdepohnidjndjaa.p

namespace Go.Proofs.Ytdepohnidjndjaa.p
open Go.Proofs Go Go.Cn code
set_option linter.unusedSimpArgs false
set_option linter.unusedVariables false

theorem keys_ok (l : Sb) : Pure T 37 [.fmap (sbC l)] (.func 41 [] [.rptr [.fmap (sbC l)]]) := by
  intro K h
  refine ACall.ret t37 fun hK => ?_
  simp only [u_C c37.eq_1, runs, e_onS, AH.set_same, AH.set_set, List.map_cons, List.map_nil, List.length_cons, List.length_nil, List.drop_zero, List.drop_succ_cons, List.take_succ_cons, List.take_zero, List.take_nil, List.nil_append, List.cons_append, List.append_nil, List.all_cons, List.all_nil, Nat.zero_add, Nat.add_zero, ite_true, ite_false, if_true, if_false, ne_eq, not_false_eq_true, not_true_eq_false, and_true, true_and, and_self, Bool.and_true, Bool.true_and, Bool.not_true, Bool.not_false, List.getElem?_cons_zero, List.getElem?_cons_succ, Option.isSome_some, beq_self_eq_true, implies_true, forall_const, Nat.le_refl, Option.some.injEq, Option.getD_some, Option.getD_none, List.getElem?_nil, e_Lpn, e_Lpe, e_Lpr, decide_true, decide_false, Int.natCast_nonneg, Int.toNat_natCast, Int.toNat_zero, lt_irr, imp_self, false_implies, big_eq, pevA, takeA, putA, fillA, chunkA, zerosL, binA, binI, binS, isNilA, lookA, bndA, depA, depV, depM, depS, cellAt, elemAt, initA, Nat.reduceAdd, Nat.reduceLeDiff, Nat.reduceEqDiff, reduceIte, reduceCtorEq, Nat.reduceLT, Nat.reduceMul, Nat.reduceSub, Int.reduceAdd, Int.reduceSub, Int.reduceMul, Int.reduceLT, Int.reduceLE, Int.reduceEq, Int.reduceNe, Int.reduceNeg, Int.reduceToNat]
  exact ⟨.refl _, AH.le_refl _⟩
theorem prs_ok (l : Sb) : Pure T 23 [.agg [.fmap (sbC l)]] (.func 35 [] [.rptr [.fmap (sbC l)]]) := by
  intro K h
  refine ACall.ret t23 fun hK => ?_
  simp only [u_C c23.eq_1, runs, e_onS, AH.set_same, AH.set_set, List.map_cons, List.map_nil, List.length_cons, List.length_nil, List.drop_zero, List.drop_succ_cons, List.take_succ_cons, List.take_zero, List.take_nil, List.nil_append, List.cons_append, List.append_nil, List.all_cons, List.all_nil, Nat.zero_add, Nat.add_zero, ite_true, ite_false, if_true, if_false, ne_eq, not_false_eq_true, not_true_eq_false, and_true, true_and, and_self, Bool.and_true, Bool.true_and, Bool.not_true, Bool.not_false, List.getElem?_cons_zero, List.getElem?_cons_succ, Option.isSome_some, beq_self_eq_true, implies_true, forall_const, Nat.le_refl, Option.some.injEq, Option.getD_some, Option.getD_none, List.getElem?_nil, e_Lpn, e_Lpe, e_Lpr, decide_true, decide_false, Int.natCast_nonneg, Int.toNat_natCast, Int.toNat_zero, lt_irr, imp_self, false_implies, big_eq, pevA, takeA, putA, fillA, chunkA, zerosL, binA, binI, binS, isNilA, lookA, bndA, depA, depV, depM, depS, cellAt, elemAt, initA, Nat.reduceAdd, Nat.reduceLeDiff, Nat.reduceEqDiff, reduceIte, reduceCtorEq, Nat.reduceLT, Nat.reduceMul, Nat.reduceSub, Int.reduceAdd, Int.reduceSub, Int.reduceMul, Int.reduceLT, Int.reduceLE, Int.reduceEq, Int.reduceNe, Int.reduceNeg, Int.reduceToNat]
  exact ⟨.refl _, AH.le_refl _⟩

theorem prs1_ok (l : Sb) (nd : Nd l) (hl : l.length ≤ 4) (ok : ∀ p ∈ l, PTOk p.2) (c : Nat) (K : Nat → Prop) (I : List (List UInt8) → AH → Prop)
    (hy : ∀ ns, ns.Perm (names l) → Srt ns → ∀ told n rest h1, ns = told ++ n :: rest → ∀ u, lk l n = some u → I told h1 → KOk K h1 → ACall T K (.yield c) [.str n, .agg (tyC u)] h1 fun v h2 => v = .bool true ∧ I (told ++ [n]) h2) (h : AH) (h0 : I [] h) :
    ACall T K (.func 35) [.yield c, .rptr [.fmap (sbC l)]] h fun _ h' => ∃ ns, ns.Perm (names l) ∧ Srt ns ∧ I ns h' := by
  refine ACall.retQ t35 fun hK => ?_
  simp only [u_C c35.eq_1, runs, e_onS, AH.set_same, AH.set_set, List.map_cons, List.map_nil, List.length_cons, List.length_nil, List.drop_zero, List.drop_succ_cons, List.take_succ_cons, List.take_zero, List.take_nil, List.nil_append, List.cons_append, List.append_nil, List.all_cons, List.all_nil, Nat.zero_add, Nat.add_zero, ite_true, ite_false, if_true, if_false, ne_eq, not_false_eq_true, not_true_eq_false, and_true, true_and, and_self, Bool.and_true, Bool.true_and, Bool.not_true, Bool.not_false, List.getElem?_cons_zero, List.getElem?_cons_succ, Option.isSome_some, beq_self_eq_true, implies_true, forall_const, Nat.le_refl, Option.some.injEq, Option.getD_some, Option.getD_none, List.getElem?_nil, e_Lpn, e_Lpe, e_Lpr, decide_true, decide_false, Int.natCast_nonneg, Int.toNat_natCast, Int.toNat_zero, lt_irr, imp_self, false_implies, big_eq, pevA, takeA, putA, fillA, chunkA, zerosL, binA, binI, binS, isNilA, lookA, bndA, depA, depV, depM, depS, cellAt, elemAt, initA, Nat.reduceAdd, Nat.reduceLeDiff, Nat.reduceEqDiff, reduceIte, reduceCtorEq, Nat.reduceLT, Nat.reduceMul, Nat.reduceSub, Int.reduceAdd, Int.reduceSub, Int.reduceMul, Int.reduceLT, Int.reduceLE, Int.reduceEq, Int.reduceNe, Int.reduceNeg, Int.reduceToNat]
  refine (keys_ok l).use ?_
  simp only [runs, e_onS, AH.set_same, AH.set_set, List.map_cons, List.map_nil, List.length_cons, List.length_nil, List.drop_zero, List.drop_succ_cons, List.take_succ_cons, List.take_zero, List.take_nil, List.nil_append, List.cons_append, List.append_nil, List.all_cons, List.all_nil, Nat.zero_add, Nat.add_zero, ite_true, ite_false, if_true, if_false, ne_eq, not_false_eq_true, not_true_eq_false, and_true, true_and, and_self, Bool.and_true, Bool.true_and, Bool.not_true, Bool.not_false, List.getElem?_cons_zero, List.getElem?_cons_succ, Option.isSome_some, beq_self_eq_true, implies_true, forall_const, Nat.le_refl, Option.some.injEq, Option.getD_some, Option.getD_none, List.getElem?_nil, e_Lpn, e_Lpe, e_Lpr, decide_true, decide_false, Int.natCast_nonneg, Int.toNat_natCast, Int.toNat_zero, lt_irr, imp_self, false_implies, big_eq, pevA, takeA, putA, fillA, chunkA, zerosL, binA, binI, binS, isNilA, lookA, bndA, depA, depV, depM, depS, cellAt, elemAt, initA, Nat.reduceAdd, Nat.reduceLeDiff, Nat.reduceEqDiff, reduceIte, reduceCtorEq, Nat.reduceLT, Nat.reduceMul, Nat.reduceSub, Int.reduceAdd, Int.reduceSub, Int.reduceMul, Int.reduceLT, Int.reduceLE, Int.reduceEq, Int.reduceNe, Int.reduceNeg, Int.reduceToNat]
  refine (sorted_ok l nd hl K h).mono ?_
  rintro _ _ ⟨⟨E, t, ns, rfl, hp, hs⟩, rfl⟩
  have hlen : ns.length ≤ 4 := by have := hp.length_eq; simp [names] at this; omega
  simp only [runs, e_onS, AH.set_same, AH.set_set, List.map_cons, List.map_nil, List.length_cons, List.length_nil, List.drop_zero, List.drop_succ_cons, List.take_succ_cons, List.take_zero, List.take_nil, List.nil_append, List.cons_append, List.append_nil, List.all_cons, List.all_nil, Nat.zero_add, Nat.add_zero, ite_true, ite_false, if_true, if_false, ne_eq, not_false_eq_true, not_true_eq_false, and_true, true_and, and_self, Bool.and_true, Bool.true_and, Bool.not_true, Bool.not_false, List.getElem?_cons_zero, List.getElem?_cons_succ, Option.isSome_some, beq_self_eq_true, implies_true, forall_const, Nat.le_refl, Option.some.injEq, Option.getD_some, Option.getD_none, List.getElem?_nil, e_Lpn, e_Lpe, e_Lpr, decide_true, decide_false, Int.natCast_nonneg, Int.toNat_natCast, Int.toNat_zero, lt_irr, imp_self, false_implies, big_eq, pevA, takeA, putA, fillA, chunkA, zerosL, binA, binI, binS, isNilA, lookA, bndA, depA, depV, depM, depS, cellAt, elemAt, initA, Nat.reduceAdd, Nat.reduceLeDiff, Nat.reduceEqDiff, reduceIte, reduceCtorEq, Nat.reduceLT, Nat.reduceMul, Nat.reduceSub, Int.reduceAdd, Int.reduceSub, Int.reduceMul, Int.reduceLT, Int.reduceLE, Int.reduceEq, Int.reduceNe, Int.reduceNeg, Int.reduceToNat, List.length_map]
  refine aloop (α := Nat) (fun i fr h1 => fr 0 = .yield c ∧ fr 1 = .rptr [.fmap (sbC l)] ∧ fr 8 = .lst E (ns.map fun s => [.str s]) t ∧ fr 9 = .int .i64 ns.length ∧ fr 10 = .int .i64 i ∧ i ≤ ns.length ∧ I (ns.take i) h1 ∧ KOk K h1) (fun i => ns.length - i) 0 ?_ ?_
  · exact ⟨rfl, rfl, rfl, rfl, rfl, Nat.zero_le _, h0, hK⟩
  · rintro i fr h1 ⟨f0, f1, f8, f9, f10, hi, hI, hK1⟩
    by_cases hlt : i < ns.length
    · have k : decide ((i : Int) < (ns.length : Int)) = true := decide_eq_true (by omega)
      obtain ⟨n, hn⟩ : ∃ n, ns[i]? = some n := ⟨ns[i], by simp [hlt]⟩
      have hel : (ns.map fun s => [AV.str s])[i]? = some [.str n] := by rw [List.getElem?_map, hn]; rfl
      have hmem : n ∈ names l := hp.mem_iff.1 (List.mem_of_getElem? hn)
      obtain ⟨u, hu⟩ : ∃ u, lk l n = some u := by
        cases e : lk l n with
        | some u => exact ⟨u, rfl⟩
        | none => exact absurd hmem (lk_none.1 e)
      simp only [u_C l35_0.eq_1, runs, e_onS, AH.set_same, AH.set_set, List.map_cons, List.map_nil, List.length_cons, List.length_nil, List.drop_zero, List.drop_succ_cons, List.take_succ_cons, List.take_zero, List.take_nil, List.nil_append, List.cons_append, List.append_nil, List.all_cons, List.all_nil, Nat.zero_add, Nat.add_zero, ite_true, ite_false, if_true, if_false, ne_eq, not_false_eq_true, not_true_eq_false, and_true, true_and, and_self, Bool.and_true, Bool.true_and, Bool.not_true, Bool.not_false, List.getElem?_cons_zero, List.getElem?_cons_succ, Option.isSome_some, beq_self_eq_true, implies_true, forall_const, Nat.le_refl, Option.some.injEq, Option.getD_some, Option.getD_none, List.getElem?_nil, e_Lpn, e_Lpe, e_Lpr, decide_true, decide_false, Int.natCast_nonneg, Int.toNat_natCast, Int.toNat_zero, lt_irr, imp_self, false_implies, big_eq, pevA, takeA, putA, fillA, chunkA, zerosL, binA, binI, binS, isNilA, lookA, bndA, depA, depV, depM, depS, cellAt, elemAt, initA, Nat.reduceAdd, Nat.reduceLeDiff, Nat.reduceEqDiff, reduceIte, reduceCtorEq, Nat.reduceLT, Nat.reduceMul, Nat.reduceSub, Int.reduceAdd, Int.reduceSub, Int.reduceMul, Int.reduceLT, Int.reduceLE, Int.reduceEq, Int.reduceNe, Int.reduceNeg, Int.reduceToNat, f9, f10, f8, k, hel, f0, f1, look_sb, hu, Option.map_some]
      refine (clone_ok u (lk_ok l ok n u hu)).use ?_
      simp only [runs, e_onS, AH.set_same, AH.set_set, List.map_cons, List.map_nil, List.length_cons, List.length_nil, List.drop_zero, List.drop_succ_cons, List.take_succ_cons, List.take_zero, List.take_nil, List.nil_append, List.cons_append, List.append_nil, List.all_cons, List.all_nil, Nat.zero_add, Nat.add_zero, ite_true, ite_false, if_true, if_false, ne_eq, not_false_eq_true, not_true_eq_false, and_true, true_and, and_self, Bool.and_true, Bool.true_and, Bool.not_true, Bool.not_false, List.getElem?_cons_zero, List.getElem?_cons_succ, Option.isSome_some, beq_self_eq_true, implies_true, forall_const, Nat.le_refl, Option.some.injEq, Option.getD_some, Option.getD_none, List.getElem?_nil, e_Lpn, e_Lpe, e_Lpr, decide_true, decide_false, Int.natCast_nonneg, Int.toNat_natCast, Int.toNat_zero, lt_irr, imp_self, false_implies, big_eq, pevA, takeA, putA, fillA, chunkA, zerosL, binA, binI, binS, isNilA, lookA, bndA, depA, depV, depM, depS, cellAt, elemAt, initA, Nat.reduceAdd, Nat.reduceLeDiff, Nat.reduceEqDiff, reduceIte, reduceCtorEq, Nat.reduceLT, Nat.reduceMul, Nat.reduceSub, Int.reduceAdd, Int.reduceSub, Int.reduceMul, Int.reduceLT, Int.reduceLE, Int.reduceEq, Int.reduceNe, Int.reduceNeg, Int.reduceToNat]
      have hsplit : ns = ns.take i ++ n :: ns.drop (i + 1) := by
        have h1 := List.take_append_drop i ns
        rw [List.drop_eq_getElem_cons hlt] at h1
        have : ns[i] = n := by rw [List.getElem?_eq_getElem hlt] at hn; exact Option.some.inj hn
        rw [this] at h1
        exact h1.symm
      refine ACall.kn ((hy ns hp hs _ n _ h1 hsplit u hu hI hK1).mono ?_)
      rintro _ h2 ⟨rfl, hI2⟩ hK2
      have w : IntKind.i64.wrap ((i : Int) + 1) = ((i + 1 : Nat) : Int) := by rw [wrap64 ⟨by omega, by omega⟩]; rfl
      simp only [runs, e_onS, AH.set_same, AH.set_set, List.map_cons, List.map_nil, List.length_cons, List.length_nil, List.drop_zero, List.drop_succ_cons, List.take_succ_cons, List.take_zero, List.take_nil, List.nil_append, List.cons_append, List.append_nil, List.all_cons, List.all_nil, Nat.zero_add, Nat.add_zero, ite_true, ite_false, if_true, if_false, ne_eq, not_false_eq_true, not_true_eq_false, and_true, true_and, and_self, Bool.and_true, Bool.true_and, Bool.not_true, Bool.not_false, List.getElem?_cons_zero, List.getElem?_cons_succ, Option.isSome_some, beq_self_eq_true, implies_true, forall_const, Nat.le_refl, Option.some.injEq, Option.getD_some, Option.getD_none, List.getElem?_nil, e_Lpn, e_Lpe, e_Lpr, decide_true, decide_false, Int.natCast_nonneg, Int.toNat_natCast, Int.toNat_zero, lt_irr, imp_self, false_implies, big_eq, pevA, takeA, putA, fillA, chunkA, zerosL, binA, binI, binS, isNilA, lookA, bndA, depA, depV, depM, depS, cellAt, elemAt, initA, Nat.reduceAdd, Nat.reduceLeDiff, Nat.reduceEqDiff, reduceIte, reduceCtorEq, Nat.reduceLT, Nat.reduceMul, Nat.reduceSub, Int.reduceAdd, Int.reduceSub, Int.reduceMul, Int.reduceLT, Int.reduceLE, Int.reduceEq, Int.reduceNe, Int.reduceNeg, Int.reduceToNat, f10, w]
      refine ⟨i + 1, by show ns.length - (i + 1) < ns.length - i; omega, f0, f1, f8, f9, rfl, hlt, ?_, hK2⟩
      rw [List.take_add_one, hn]
      exact hI2
    · have hie : i = ns.length := by omega
      subst hie
      have k : decide ((ns.length : Int) < (ns.length : Int)) = false := by simp
      simp only [u_C l35_0.eq_1, runs, e_onS, AH.set_same, AH.set_set, List.map_cons, List.map_nil, List.length_cons, List.length_nil, List.drop_zero, List.drop_succ_cons, List.take_succ_cons, List.take_zero, List.take_nil, List.nil_append, List.cons_append, List.append_nil, List.all_cons, List.all_nil, Nat.zero_add, Nat.add_zero, ite_true, ite_false, if_true, if_false, ne_eq, not_false_eq_true, not_true_eq_false, and_true, true_and, and_self, Bool.and_true, Bool.true_and, Bool.not_true, Bool.not_false, List.getElem?_cons_zero, List.getElem?_cons_succ, Option.isSome_some, beq_self_eq_true, implies_true, forall_const, Nat.le_refl, Option.some.injEq, Option.getD_some, Option.getD_none, List.getElem?_nil, e_Lpn, e_Lpe, e_Lpr, decide_true, decide_false, Int.natCast_nonneg, Int.toNat_natCast, Int.toNat_zero, lt_irr, imp_self, false_implies, big_eq, pevA, takeA, putA, fillA, chunkA, zerosL, binA, binI, binS, isNilA, lookA, bndA, depA, depV, depM, depS, cellAt, elemAt, initA, Nat.reduceAdd, Nat.reduceLeDiff, Nat.reduceEqDiff, reduceIte, reduceCtorEq, Nat.reduceLT, Nat.reduceMul, Nat.reduceSub, Int.reduceAdd, Int.reduceSub, Int.reduceMul, Int.reduceLT, Int.reduceLE, Int.reduceEq, Int.reduceNe, Int.reduceNeg, Int.reduceToNat, f9, f10, k]
      rw [List.take_length] at hI
      exact ⟨_, h1, .refl _ _, hK1, ns, hp, hs, hI⟩
end Go.Proofs.Ytdepohnidjndjaa.p

namespace Go.Proofs.Ytdepohnidjndjaa.p
open Go.Proofs Go Go.Cn code
set_option linter.unusedSimpArgs false
set_option linter.unusedVariables false

theorem ap_congr {l m : Sb} (h : ∀ n, lk l n = lk m n) : ∀ t, ap l t = ap m t := by
  refine PT.ind fun k n args ih => ?_
  have h1 : aps l args = aps m args := by
    rw [aps_eq, aps_eq]
    exact List.map_congr_left fun a h => ih a h
  simp only [ap, h, h1]

def NoSelf (l : Sb) : Prop := ∀ p ∈ l, isV p.2 p.1 = false
theorem put1_self {n : List UInt8} {t : PT} {l : Sb} (h : NoSelf l) : NoSelf (put1 n t l) := by
  intro p hp
  unfold put1 at hp
  split at hp
  · exact h p hp
  · rename_i hv
    rcases pt_mem _ _ _ p hp with e | hp
    · rw [e]; simpa using hv
    · exact h p hp
theorem ofFold_self : ∀ (ps : Sb) (x : List (List UInt8) × Sb), NoSelf x.2 → NoSelf (ps.foldl ofStep x).2
  | [], x, h => h
  | q :: ps, x, h => by
    refine ofFold_self ps (ofStep x q) ?_
    unfold ofStep
    split
    · exact h
    · exact put1_self h
theorem ofL_self (ps : Sb) : NoSelf (ofL ps) := ofFold_self ps _ (by intro p hp; cases hp)
theorem pt_len (n : List UInt8) (t : PT) : ∀ l, (pt n t l).length ≤ l.length + 1
  | [] => by simp [pt]
  | (k, u) :: l => by
    have := pt_len n t l
    simp only [pt]
    split <;> simp <;> omega
theorem ofFold_len : ∀ (ps : Sb) (x : List (List UInt8) × Sb), (ps.foldl ofStep x).2.length ≤ x.2.length + ps.length
  | [], x => Nat.le_refl _
  | q :: ps, x => by
    have h1 := ofFold_len ps (ofStep x q)
    have h2 : (ofStep x q).2.length ≤ x.2.length + 1 := by
      unfold ofStep
      split
      · omega
      · show (put1 _ _ _).length ≤ _
        unfold put1
        split
        · omega
        · exact pt_len _ _ _
    simp only [List.foldl_cons, List.length_cons]
    omega
theorem ofL_len (ps : Sb) : (ofL ps).length ≤ ps.length := by
  have := ofFold_len ps ([], [])
  simpa [ofL, ofS] using this
theorem pt_new (n : List UInt8) (t : PT) : ∀ l, n ∉ names l → pt n t l = l ++ [(n, t)]
  | [], _ => rfl
  | (k, u) :: l, h => by
    simp only [names, List.map_cons, List.mem_cons, not_or] at h
    simp only [pt, h.1, if_false, List.cons_append]
    rw [pt_new n t l h.2]
theorem ofFold_same : ∀ (rest pre : Sb), Nd (pre ++ rest) → NoSelf rest → (rest.foldl ofStep (names pre, pre)).2 = pre ++ rest
  | [], pre, _, _ => by simp
  | q :: rest, pre, hn, hs => by
    have hq : q.1 ∉ names pre := by
      intro hm
      obtain ⟨p, hp, e⟩ := List.mem_map.1 hm
      exact (List.pairwise_append.1 hn).2.2 p hp q (by simp) e
    have hstep : ofStep (names pre, pre) q = (names (pre ++ [q]), pre ++ [q]) := by
      unfold ofStep
      rw [if_neg hq]
      unfold put1
      rw [if_neg (by rw [hs q (by simp)]; simp), pt_new _ _ _ hq]
      simp [names]
    rw [List.foldl_cons, hstep, ofFold_same rest (pre ++ [q]) (by simpa using hn) fun p hp => hs p (by simp [hp])]
    simp
theorem ofL_same (qs : Sb) (hn : Nd qs) (hs : NoSelf qs) : ofL qs = qs := by
  have := ofFold_same qs [] hn hs
  simpa [ofL, ofS, names] using this

theorem nd_names {l : Sb} (h : Nd l) : (names l).Nodup := by
  unfold names
  rw [List.nodup_iff_pairwise_ne, List.pairwise_map]
  exact h
/-- the pairs of these names -/
def prs (r : Sb) (ns : List (List UInt8)) : Sb := ns.map fun n => (n, ((lk r n).getD zeroT))
theorem prs_names (r : Sb) (ns : List (List UInt8)) : names (prs r ns) = ns := by
  simp [names, prs, List.map_map, Function.comp_def]
theorem prs_nd {r : Sb} {ns : List (List UInt8)} (hn : ns.Nodup) : Nd (prs r ns) := by
  have : (names (prs r ns)).Nodup := by rw [prs_names]; exact hn
  unfold names at this
  rw [List.nodup_iff_pairwise_ne, List.pairwise_map] at this
  exact this
theorem prs_lk {r : Sb} {ns : List (List UInt8)} (hr : Nd r) (hp : ns.Perm (names r)) (n : List UInt8) : lk (prs r ns) n = lk r n := by
  have hnd : ns.Nodup := hp.nodup_iff.2 (nd_names hr)
  cases e : lk r n with
  | none =>
    have := lk_none.1 e
    rw [lk_none, prs_names]
    exact fun hm => this (hp.mem_iff.1 hm)
  | some t =>
    have hm : n ∈ ns := hp.mem_iff.2 (by
      cases hh : lk r n with
      | none => rw [hh] at e; cases e
      | some u => exact List.mem_map.2 ⟨_, lk_some hh, rfl⟩)
    have : (n, t) ∈ prs r ns := List.mem_map.2 ⟨n, hm, by rw [e]; rfl⟩
    exact lk_mem (prs_nd hnd) this
theorem prs_mem {r : Sb} {ns : List (List UInt8)} (hp : ns.Perm (names r)) {p : List UInt8 × PT} (h : p ∈ prs r ns) : p ∈ r := by
  obtain ⟨n, hn, rfl⟩ := List.mem_map.1 h
  have hm : n ∈ names r := hp.mem_iff.1 hn
  cases e : lk r n with
  | none => exact absurd hm (lk_none.1 e)
  | some t => exact lk_some e
theorem prs_app (r : Sb) (told : List (List UInt8)) (n : List UInt8) (u : PT) (hu : lk r n = some u) : prs r (told ++ [n]) = prs r told ++ [(n, u)] := by
  simp [prs, hu]
/-- of sorted names, none twice, each is ahead of the next -/
theorem srt_lt {ns told rest : List (List UInt8)} {a n : List UInt8} (h : Srt ns) (hd : ns.Nodup) (e : ns = (told ++ [a]) ++ n :: rest) : ltS a n = true := by
  subst e
  have h1 := (List.pairwise_append.1 h).2.2 a (by simp) n (by simp)
  have h2 := (List.nodup_append.1 hd).2.2 a (by simp) n (by simp)
  rcases h1.cases with h1 | h1
  · exact h1
  · exact absurd h1 h2
end Go.Proofs.Ytdepohnidjndjaa.p
