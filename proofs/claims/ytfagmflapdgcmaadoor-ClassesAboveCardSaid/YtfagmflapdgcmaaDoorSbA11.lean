/- The row of eight classes. -/
import Derived.Test.YtfagmflapdgcmaaDoorSbA8
namespace Go.Proofs.YtfagmflapdgcmaaDoor.p
open Go.Proofs Go Go.Cn code
set_option linter.unusedSimpArgs false
set_option linter.unusedVariables false

theorem rowC_app (r : Rw) (p : Nm × List Nm × AV) : rowC (r ++ [p]) = rowC r ++ clsC p.1 p.2.2 := by simp [rowC]
theorem RwI.snoc {r : Rw} (h : RwI r) {p : Nm × List Nm × AV} (h1 : N8[r.length]? = some p.1) (h2 : p.2.1.Sublist (N8.take r.length)) (h3 : SupV p.2.1 p.2.2) : RwI (r ++ [p]) := by
  intro j q hq
  by_cases hj : j < r.length
  · rw [List.getElem?_append_left hj] at hq; exact h j q hq
  · rw [List.getElem?_append_right (by omega)] at hq
    have : j - r.length = 0 := by
      by_cases e : j - r.length = 0
      · exact e
      · rw [List.getElem?_eq_none (by simp; omega)] at hq; cases hq
    rw [this] at hq
    cases hq
    have : j = r.length := by omega
    subst this
    exact ⟨h1, h2, h3⟩

theorem RowV.mono' {r : Rw} {v : AV} {ob ob' : Nat → Option AO} {P Q : Nat → Prop} (h : RowV r v ob P) (hPQ : ∀ b, P b → ob b = some (.cells (rowC r) 32) → Q b ∧ ob' b = some (.cells (rowC r) 32)) : RowV r v ob' Q := by
  rcases h with h | ⟨h1, rb, h2, h3, h4⟩
  · exact .inl h
  · exact .inr ⟨h1, rb, h2, (hPQ rb h4 h3).2, (hPQ rb h4 h3).1⟩

theorem build_ok (h : AH) (K : Nat → Prop) (b8 : Nat) (E : TypeId) (l : List Int) (ring : Bool) (fr0 : AFr) (R : CExit → AQ) (k8 : ¬ K b8) (hh8 : h.objs b8 = none)
    (h1 : AH) (f1 : fr0 1 = .bool ring) (f5 : fr0 5 = .bool true) (f6 : fr0 6 = .lst 9 (strC N8) .no) (f7 : fr0 7 = .lst 0 [] .nil) (f8 : fr0 8 = .ptr b8 0) (f9 : fr0 9 = .int .i64 0)
    (o8 : h1.objs b8 = some (seqO E l 0)) (hk : Keep h h1) (ht : ∀ c k, h.toks c = some k → h1.toks c = some k)
    (hR : ∀ (fr : AFr) (h2 : AH) (r : Rw) (rb : Nat), r.length = 8 → RwI r → fr 1 = .bool ring → fr 5 = .bool true → fr 6 = .lst 9 (strC N8) .no → fr 7 = .slice rb 0 8 8 → h2.objs rb = some (.cells (rowC r) 32) → ¬ K rb → h.objs rb = none → h.le h2 → R (.exit 0) fr h2) : W T K (.loop l3_2.toC) fr0 h1 R := by
  refine aloop (α := Rw × Int) (fun x fr h2 => fr 1 = .bool ring ∧ fr 5 = .bool true ∧ fr 6 = .lst 9 (strC N8) .no ∧ fr 8 = .ptr b8 0 ∧ fr 9 = .int .i64 (x.1.length : Nat) ∧ x.1.length ≤ 8 ∧ RwI x.1 ∧ 0 ≤ x.2 ∧ x.2 ≤ 8 * (x.1.length : Nat) ∧ h2.objs b8 = some (seqO E l x.2) ∧
      RowV x.1 (fr 7) h2.objs (fun rb => rb ≠ b8 ∧ ¬ K rb ∧ h.objs rb = none) ∧ Keep h h2 ∧ ∀ c k, h.toks c = some k → h2.toks c = some k) (fun x => 8 - x.1.length) ([], 0) ?_ ?_
  · exact ⟨f1, f5, f6, f8, f9, by simp, fun j p hp => by simp at hp, Int.le_refl _, by simp, o8, .inl ⟨rfl, f7⟩, hk, ht⟩
  · clear f1 f5 f6 f7 f8 f9 o8 hk ht
    rintro ⟨r, p⟩ fr h2 ⟨f1, f5, f6, f8, f9, h8, hI, hp, hp2, o8, hrow, hk, ht⟩
    simp only at f9 h8 hI hp hp2 o8 hrow
    by_cases hlt : r.length < 8
    · have c1 : decide ((r.length : Int) < 8) = true := decide_eq_true (by omega)
      obtain ⟨nm, ha⟩ : ∃ a, N8[r.length]? = some a := ⟨N8[r.length]'(by show r.length < 8; omega), by simp⟩
      have hget : (strC N8)[r.length]? = some [.str nm] := by rw [strC_get, ha]; rfl
      have w : IntKind.i64.wrap ((r.length : Int) + 1) = ((r.length + 1 : Nat) : Int) := by rw [wrap64 ⟨by omega, by omega⟩]; rfl
      simp only [u_C l3_2.eq_1, runs, e_onS, AH.set_same, AH.set_set, List.map_cons, List.map_nil, List.length_cons, List.length_nil, List.drop_zero, List.drop_succ_cons, List.take_succ_cons, List.take_zero, List.take_nil, List.nil_append, List.cons_append, List.append_nil, List.all_cons, List.all_nil, Nat.zero_add, Nat.add_zero, ite_true, ite_false, if_true, if_false, ne_eq, not_false_eq_true, not_true_eq_false, and_true, true_and, and_self, Bool.and_true, Bool.true_and, Bool.not_true, Bool.not_false, List.getElem?_cons_zero, List.getElem?_cons_succ, Option.isSome_some, beq_self_eq_true, implies_true, forall_const, Nat.le_refl, Option.some.injEq, Option.getD_some, Option.getD_none, List.getElem?_nil, e_Lpn, e_Lpe, e_Lpr, decide_true, decide_false, Int.natCast_nonneg, Int.toNat_natCast, Int.toNat_zero, lt_irr, imp_self, false_implies, big_eq, pevA, takeA, putA, fillA, chunkA, zerosL, binA, binI, binS, isNilA, lookA, bndA, depA, depV, depM, depS, cellAt, elemAt, initA, Nat.reduceAdd, Nat.reduceLeDiff, Nat.reduceEqDiff, reduceIte, reduceCtorEq, Nat.reduceLT, Nat.reduceMul, Nat.reduceSub, Int.reduceAdd, Int.reduceSub, Int.reduceMul, Int.reduceLT, Int.reduceLE, Int.reduceEq, Int.reduceNe, Int.reduceNeg, Int.reduceToNat, f6, f9, c1, hget]
      intro b10 hb10 hk10
      have hh10 := keep_none hk hb10
      have n108 : b10 ≠ b8 := by rintro rfl; rw [o8] at hb10; cases hb10
      simp only [runs, e_onS, AH.set_same, AH.set_set, List.map_cons, List.map_nil, List.length_cons, List.length_nil, List.drop_zero, List.drop_succ_cons, List.take_succ_cons, List.take_zero, List.take_nil, List.nil_append, List.cons_append, List.append_nil, List.all_cons, List.all_nil, Nat.zero_add, Nat.add_zero, ite_true, ite_false, if_true, if_false, ne_eq, not_false_eq_true, not_true_eq_false, and_true, true_and, and_self, Bool.and_true, Bool.true_and, Bool.not_true, Bool.not_false, List.getElem?_cons_zero, List.getElem?_cons_succ, Option.isSome_some, beq_self_eq_true, implies_true, forall_const, Nat.le_refl, Option.some.injEq, Option.getD_some, Option.getD_none, List.getElem?_nil, e_Lpn, e_Lpe, e_Lpr, decide_true, decide_false, Int.natCast_nonneg, Int.toNat_natCast, Int.toNat_zero, lt_irr, imp_self, false_implies, big_eq, pevA, takeA, putA, fillA, chunkA, zerosL, binA, binI, binS, isNilA, lookA, bndA, depA, depV, depM, depS, cellAt, elemAt, initA, Nat.reduceAdd, Nat.reduceLeDiff, Nat.reduceEqDiff, reduceIte, reduceCtorEq, Nat.reduceLT, Nat.reduceMul, Nat.reduceSub, Int.reduceAdd, Int.reduceSub, Int.reduceMul, Int.reduceLT, Int.reduceLE, Int.reduceEq, Int.reduceNe, Int.reduceNeg, Int.reduceToNat, f6, f9, c1, hget, hk10]
      refine inner_ok h K b8 b10 E l r.length hlt nm r (fr 7) ring _ _ k8 hk10 n108 hh8 hh10 _ p hp hp2 f1 f5 f6 rfl f8 f9 rfl rfl ?_ ?_ ?_ ?_ ht ?_
      · rw [AH.set_ne _ _ n108.symm]; exact o8
      · exact AH.set_same _ _ _
      · refine hrow.mono' fun b hb ho => ?_
        have hne : b ≠ b10 := by rintro rfl; rw [ho] at hb10; cases hb10
        exact ⟨⟨hb.1, hb.2.1, hb.2.2, hne⟩, by rw [AH.set_ne _ _ hne]; exact ho⟩
      · intro m o ho
        rw [AH.set_ne _ _ (by rintro rfl; rw [hh10] at ho; cases ho)]
        exact hk m o ho
      · intro fr h3 S s p' g1 g5 g6 g7 g8 g9 g10 hsub hSv hp' hp'2 q8 q10 hrow3 hk3 ht3
        have n1 := hSv.one
        have hone : (clsC nm s).all oneA = true := by simp only [clsC, List.all_cons, List.all_nil, n1]; rfl
        have hne : clsC nm s ≠ [] := by simp [clsC]
        have ht6 : (clsC nm s).take 6 = clsC nm s := rfl
        have hd6 : (clsC nm s).drop 6 = [] := rfl
        have hI2 : RwI (r ++ [(nm, S, s)]) := hI.snoc ha hsub hSv
        have hrl : (r ++ [(nm, S, s)]).length = r.length + 1 := by simp
        have hrn : r ++ [(nm, S, s)] ≠ [] := by simp
        have hrc : rowC (r ++ [(nm, S, s)]) = rowC r ++ clsC nm s := rowC_app r (nm, S, s)
        have hfl : [clsC nm s].flatten = clsC nm s := by simp
        simp only [runs, e_onS, AH.set_same, AH.set_set, List.map_cons, List.map_nil, List.length_cons, List.length_nil, List.drop_zero, List.drop_succ_cons, List.take_succ_cons, List.take_zero, List.take_nil, List.nil_append, List.cons_append, List.append_nil, List.all_cons, List.all_nil, Nat.zero_add, Nat.add_zero, ite_true, ite_false, if_true, if_false, ne_eq, not_false_eq_true, not_true_eq_false, and_true, true_and, and_self, Bool.and_true, Bool.true_and, Bool.not_true, Bool.not_false, List.getElem?_cons_zero, List.getElem?_cons_succ, Option.isSome_some, beq_self_eq_true, implies_true, forall_const, Nat.le_refl, Option.some.injEq, Option.getD_some, Option.getD_none, List.getElem?_nil, e_Lpn, e_Lpe, e_Lpr, decide_true, decide_false, Int.natCast_nonneg, Int.toNat_natCast, Int.toNat_zero, lt_irr, imp_self, false_implies, big_eq, pevA, takeA, putA, fillA, chunkA, zerosL, binA, binI, binS, isNilA, lookA, bndA, depA, depV, depM, depS, cellAt, elemAt, initA, Nat.reduceAdd, Nat.reduceLeDiff, Nat.reduceEqDiff, reduceIte, reduceCtorEq, Nat.reduceLT, Nat.reduceMul, Nat.reduceSub, Int.reduceAdd, Int.reduceSub, Int.reduceMul, Int.reduceLT, Int.reduceLE, Int.reduceEq, Int.reduceNe, Int.reduceNeg, Int.reduceToNat, g7, g10, q10, clsC_len, ht6, hone, hd6, hne]
        rcases hrow3 with ⟨rfl, e7⟩ | ⟨hrne, rb, e7, ho, hrb8, hkb, hhb, hrb10⟩
        · refine WO.vec0 (ns := [clsC nm s]) (by simp only [evA, e_upd, reduceIte, Nat.reduceEqDiff]; exact e7) rfl trivial (by simp [clsC_len]) (by rw [hfl]; exact hone) (by simp) (by show capOk 1 112; decide) fun b' hb' hk' => ?_
          have nb8 : b' ≠ b8 := by rintro rfl; rw [q8] at hb'; cases hb'
          simp only [runs, e_onS, AH.set_same, AH.set_set, List.map_cons, List.map_nil, List.length_cons, List.length_nil, List.drop_zero, List.drop_succ_cons, List.take_succ_cons, List.take_zero, List.take_nil, List.nil_append, List.cons_append, List.append_nil, List.all_cons, List.all_nil, Nat.zero_add, Nat.add_zero, ite_true, ite_false, if_true, if_false, ne_eq, not_false_eq_true, not_true_eq_false, and_true, true_and, and_self, Bool.and_true, Bool.true_and, Bool.not_true, Bool.not_false, List.getElem?_cons_zero, List.getElem?_cons_succ, Option.isSome_some, beq_self_eq_true, implies_true, forall_const, Nat.le_refl, Option.some.injEq, Option.getD_some, Option.getD_none, List.getElem?_nil, e_Lpn, e_Lpe, e_Lpr, decide_true, decide_false, Int.natCast_nonneg, Int.toNat_natCast, Int.toNat_zero, lt_irr, imp_self, false_implies, big_eq, pevA, takeA, putA, fillA, chunkA, zerosL, binA, binI, binS, isNilA, lookA, bndA, depA, depV, depM, depS, cellAt, elemAt, initA, Nat.reduceAdd, Nat.reduceLeDiff, Nat.reduceEqDiff, reduceIte, reduceCtorEq, Nat.reduceLT, Nat.reduceMul, Nat.reduceSub, Int.reduceAdd, Int.reduceSub, Int.reduceMul, Int.reduceLT, Int.reduceLE, Int.reduceEq, Int.reduceNe, Int.reduceNeg, Int.reduceToNat, g9, w]
          refine ⟨([] ++ [(nm, S, s)], p'), by simp, g1, g5, g6, g8, rfl, by simp, hI2, hp', by simpa using hp'2, ?_, .inr ⟨by simp, b', rfl, ?_, nb8, hk', keep_none hk3 hb'⟩, fun m o ho => ?_, ht3⟩
          · rw [AH.set_ne _ _ nb8.symm]; exact q8
          · rw [AH.set_same, hrc, hfl]; rfl
          · rw [AH.set_ne _ _ (by rintro rfl; rw [keep_none hk3 hb'] at ho; cases ho)]; exact hk3 m o ho
        · refine WO.vec (ns := [clsC nm s]) (n := r.length) (by simp only [evA, e_upd, reduceIte, Nat.reduceEqDiff]; exact e7) ho (rowC_len r) hkb rfl trivial (by simp [clsC_len]) (by rw [hfl]; exact hone) (by simp) ⟨by simp; omega, by simp; omega⟩ fun b' hb' hk' => ?_
          have nb8 : b' ≠ b8 := by rintro rfl; rw [q8] at hb'; cases hb'
          have nbb : b' ≠ rb := by rintro rfl; rw [ho] at hb'; cases hb'
          simp only [runs, e_onS, AH.set_same, AH.set_set, List.map_cons, List.map_nil, List.length_cons, List.length_nil, List.drop_zero, List.drop_succ_cons, List.take_succ_cons, List.take_zero, List.take_nil, List.nil_append, List.cons_append, List.append_nil, List.all_cons, List.all_nil, Nat.zero_add, Nat.add_zero, ite_true, ite_false, if_true, if_false, ne_eq, not_false_eq_true, not_true_eq_false, and_true, true_and, and_self, Bool.and_true, Bool.true_and, Bool.not_true, Bool.not_false, List.getElem?_cons_zero, List.getElem?_cons_succ, Option.isSome_some, beq_self_eq_true, implies_true, forall_const, Nat.le_refl, Option.some.injEq, Option.getD_some, Option.getD_none, List.getElem?_nil, e_Lpn, e_Lpe, e_Lpr, decide_true, decide_false, Int.natCast_nonneg, Int.toNat_natCast, Int.toNat_zero, lt_irr, imp_self, false_implies, big_eq, pevA, takeA, putA, fillA, chunkA, zerosL, binA, binI, binS, isNilA, lookA, bndA, depA, depV, depM, depS, cellAt, elemAt, initA, Nat.reduceAdd, Nat.reduceLeDiff, Nat.reduceEqDiff, reduceIte, reduceCtorEq, Nat.reduceLT, Nat.reduceMul, Nat.reduceSub, Int.reduceAdd, Int.reduceSub, Int.reduceMul, Int.reduceLT, Int.reduceLE, Int.reduceEq, Int.reduceNe, Int.reduceNeg, Int.reduceToNat, g9, w]
          refine ⟨(r ++ [(nm, S, s)], p'), by show 8 - (r ++ [(nm, S, s)]).length < 8 - r.length; rw [hrl]; omega, g1, g5, g6, g8, by rw [hrl]; rfl, by rw [hrl]; exact hlt, hI2, hp', by rw [hrl]; simpa using hp'2, ?_, .inr ⟨hrn, b', by rw [hrl]; rfl, ?_, nb8, hk', keep_none hk3 hb'⟩, fun m o ho2 => ?_, ht3⟩
          · rw [AH.set_ne _ _ nb8.symm, AH.del_objs, if_neg hrb8.symm]; exact q8
          · rw [AH.set_same, hrc, hfl]
          · rw [AH.set_ne _ _ (by rintro rfl; rw [keep_none hk3 hb'] at ho2; cases ho2), AH.del_objs, if_neg (by rintro rfl; rw [hhb] at ho2; cases ho2)]; exact hk3 m o ho2
    · have hie : r.length = 8 := by omega
      have c1 : decide ((r.length : Int) < 8) = false := decide_eq_false (by omega)
      simp only [u_C l3_2.eq_1, runs, e_onS, AH.set_same, AH.set_set, List.map_cons, List.map_nil, List.length_cons, List.length_nil, List.drop_zero, List.drop_succ_cons, List.take_succ_cons, List.take_zero, List.take_nil, List.nil_append, List.cons_append, List.append_nil, List.all_cons, List.all_nil, Nat.zero_add, Nat.add_zero, ite_true, ite_false, if_true, if_false, ne_eq, not_false_eq_true, not_true_eq_false, and_true, true_and, and_self, Bool.and_true, Bool.true_and, Bool.not_true, Bool.not_false, List.getElem?_cons_zero, List.getElem?_cons_succ, Option.isSome_some, beq_self_eq_true, implies_true, forall_const, Nat.le_refl, Option.some.injEq, Option.getD_some, Option.getD_none, List.getElem?_nil, e_Lpn, e_Lpe, e_Lpr, decide_true, decide_false, Int.natCast_nonneg, Int.toNat_natCast, Int.toNat_zero, lt_irr, imp_self, false_implies, big_eq, pevA, takeA, putA, fillA, chunkA, zerosL, binA, binI, binS, isNilA, lookA, bndA, depA, depV, depM, depS, cellAt, elemAt, initA, Nat.reduceAdd, Nat.reduceLeDiff, Nat.reduceEqDiff, reduceIte, reduceCtorEq, Nat.reduceLT, Nat.reduceMul, Nat.reduceSub, Int.reduceAdd, Int.reduceSub, Int.reduceMul, Int.reduceLT, Int.reduceLE, Int.reduceEq, Int.reduceNe, Int.reduceNeg, Int.reduceToNat, f6, f9, c1]
      rcases hrow with ⟨rfl, _⟩ | ⟨_, rb, f7, ho, hrb, hkb, hhb⟩
      · simp at hie
      · exact hR _ h2 r rb hie hI f1 f5 f6 (by rw [← hie]; exact f7) ho hkb hhb ⟨hk, ht⟩
end Go.Proofs.YtfagmflapdgcmaaDoor.p

namespace Go.Proofs.YtfagmflapdgcmaaDoor.p
open Go.Proofs Go Go.Cn code
set_option linter.unusedSimpArgs false
set_option linter.unusedVariables false

theorem eight {α : Type} {r : List α} (h : r.length = 8) : ∃ a b c d e f g i, r = [a, b, c, d, e, f, g, i] := by
  match r, h with
  | [a, b, c, d, e, f, g, i], _ => exact ⟨a, b, c, d, e, f, g, i, rfl⟩
theorem n8_lt : ∀ i, i < 9 → ∀ j, j < 8 → ∀ x, N8[j]? = some x → x ∈ N8.take i → j < i := by
  intro i hi j hj x hx hm
  have key : ∀ i, i < 9 → ∀ j, j < 8 → (N8.getD j []) ∈ N8.take i → j < i := by decide
  have e : N8.getD j [] = x := by rw [List.getD_eq_getElem?_getD, hx]; rfl
  exact key i hi j hj (by rw [e]; exact hm)
theorem n8_nd : N8.Nodup := by decide

/-- names and what is right above: as they have to be -/
structure Rk (r : Rw) : Prop where
  len : r.length = 8
  nm : (clR r).map (·.1) = N8
  sup : ∀ p ∈ r, SupV p.2.1 p.2.2 ∧ p.2.1.Nodup ∧ ∀ x ∈ p.2.1, x ∈ N8
theorem Rk.of {r : Rw} (h8 : r.length = 8) (h : RwI r) : Rk r where
  len := h8
  nm := by
    refine List.ext_getElem? fun j => ?_
    rw [List.getElem?_map, clR, List.getElem?_map]
    cases e : r[j]? with
    | none =>
      have : 8 ≤ j := by rw [← h8]; exact List.getElem?_eq_none_iff.1 e
      rw [List.getElem?_eq_none (by show 8 ≤ j; exact this)]; rfl
    | some p => exact (h j p e).1.symm
  sup := fun p hp => by
    obtain ⟨j, hj⟩ := List.getElem?_of_mem hp
    obtain ⟨_, h2, h3⟩ := h j p hj
    exact ⟨h3, (n8_nd.sublist (List.take_sublist j N8)).sublist h2, fun x hx => List.mem_of_mem_take (h2.subset hx)⟩
theorem lk_in {c : Cl} {x : Nm} : ∀ (i : Nat), x ∈ c.map (·.1) → lkN i c x ≠ none := by
  induction c with
  | nil => intro i h; cases h
  | cons p c ih =>
    intro i h
    simp only [lkN]
    split
    · simp
    · rename_i e
      simp only [List.map_cons, List.mem_cons] at h
      rcases h with h | h
      · exact absurd h e
      · exact ih (i + 1) h
theorem gr_in {r : Rw} {x s : Nm} (h : s ∈ gr (clR r) x) : ∃ (j : Nat) (p : Nm × List Nm × AV), r[j]? = some p ∧ p.1 = x ∧ s ∈ p.2.1 := by
  unfold gr at h
  cases e : lkN 0 (clR r) x with
  | none => rw [e] at h; cases h
  | some y =>
    obtain ⟨j, S⟩ := y
    rw [e] at h
    obtain ⟨_, hj⟩ := lkN_get x 0 (clR r) j S e
    rw [Nat.sub_zero, clR, List.getElem?_map, Option.map_eq_some_iff] at hj
    obtain ⟨p, hp, he⟩ := hj
    cases he
    exact ⟨j, p, hp, rfl, h⟩
theorem Rk.U {r : Rw} (h : Rk r) : ∀ n, ∀ s ∈ gr (clR r) n, s ∈ N8 := fun n s hs => by
  obtain ⟨j, p, hp, _, hm⟩ := gr_in hs
  exact (h.sup p (List.mem_of_getElem? hp)).2.2 s hm
theorem Rk.len2 {r : Rw} (h : Rk r) : ∀ p ∈ r, p.2.1.length ≤ 1000 := fun p hp => by
  obtain ⟨_, h2, h3⟩ := h.sup p hp
  exact Nat.le_trans (nodup_len h2 h3) (by decide)
theorem Rk.add {r : Rw} (h : Rk r) : ∀ p ∈ r, SupV p.2.1 p.2.2 ∧ p.2.1.Nodup ∧ p.2.1.length ≤ 1000 ∧ ∀ x ∈ p.2.1, lkN 0 (clR r) x ≠ none := fun p hp => by
  obtain ⟨h1, h2, h3⟩ := h.sup p hp
  exact ⟨h1, h2, h.len2 p hp, fun x hx => lk_in 0 (by rw [h.nm]; exact h3 x hx)⟩
theorem gr_at {r : Rw} (h : Rk r) {j : Nat} {p : Nm × List Nm × AV} (hp : r[j]? = some p) : gr (clR r) p.1 = p.2.1 := by
  have hc : (clR r)[j]? = some (p.1, p.2.1) := by rw [clR, List.getElem?_map, hp]; rfl
  have key : ∀ (c : Cl) (i j : Nat), (c.map (·.1)).Nodup → c[j]? = some (p.1, p.2.1) → lkN i c p.1 = some (i + j, p.2.1) := by
    intro c
    induction c with
    | nil => intro i j _ h; simp at h
    | cons q c ih =>
      intro i j hn h
      simp only [List.map_cons, List.nodup_cons] at hn
      cases j with
      | zero => simp at h; subst h; simp [lkN]
      | succ j =>
        simp at h
        have hne : p.1 ≠ q.1 := by
          intro e
          exact hn.1 (List.mem_map.2 ⟨_, List.mem_of_getElem? h, e⟩)
        simp only [lkN, hne, if_false]
        rw [ih (i + 1) j hn.2 h]
        congr 2; omega
  unfold gr
  rw [key _ 0 j (by rw [h.nm]; exact n8_nd) hc]
/-- nothing is above itself -/
theorem RwI.below {r : Rw} (h8 : r.length = 8) (h : RwI r) {i : Nat} {nm : Nm} (hi : N8[i]? = some nm) : ∀ x ∈ ab (clR r) N8 nm, x ∈ N8.take i := by
  have hi8 : i < 8 := (List.getElem?_eq_some_iff.1 hi).1
  have key : ∀ x s, s ∈ gr (clR r) x → ∃ j, j < 8 ∧ N8[j]? = some x ∧ s ∈ N8.take j := by
    intro x s hs
    obtain ⟨j, p, hp, rfl, hm⟩ := gr_in hs
    obtain ⟨h1, h2, _⟩ := h j p hp
    exact ⟨j, by rw [← h8]; exact (List.getElem?_eq_some_iff.1 hp).1, h1, h2.subset hm⟩
  refine ab_min (X := fun x => x ∈ N8.take i) (fun x hx s hs => ?_) nm fun s hs => ?_
  · obtain ⟨j, hj, hjx, hsj⟩ := key x s hs
    have := n8_lt i (by omega) j hj x hjx hx
    have hsub : N8.take j = (N8.take i).take j := by rw [List.take_take, Nat.min_eq_left (by omega)]
    rw [hsub] at hsj
    exact List.mem_of_mem_take hsj
  · obtain ⟨j, hj, hjx, hsj⟩ := key nm s hs
    have hji : j = i := by
      have k1 : ∀ i, i < 8 → ∀ j, j < 8 → N8.getD i [] = N8.getD j [] → i = j := by decide
      refine k1 j hj i hi8 ?_
      rw [List.getD_eq_getElem?_getD, List.getD_eq_getElem?_getD, hi, hjx]
    subst hji
    exact hsj
theorem RwI.notself {r : Rw} (h8 : r.length = 8) (h : RwI r) {i : Nat} {nm : Nm} (hi : N8[i]? = some nm) : nm ∉ ab (clR r) N8 nm := fun hm => by
  have hi8 : i < 8 := (List.getElem?_eq_some_iff.1 hi).1
  have := n8_lt i (by omega) i hi8 nm hi (h.below h8 hi nm hm)
  omega
end Go.Proofs.YtfagmflapdgcmaaDoor.p

namespace Go.Proofs.YtfagmflapdgcmaaDoor.p
open Go.Proofs Go Go.Cn code
set_option linter.unusedSimpArgs false
set_option linter.unusedVariables false

/-- a list's beginning -/
theorem take_strC (l : List Nm) (k : Nat) : (strC l).take k = strC (l.take k) := by simp [strC, List.map_take]

/-- what is above one that is above -/
theorem more_ok (up more : List Nm) (hm : ∀ y ∈ more, y ∈ up) (hml : more.length ≤ 1000) (K : Nat → Prop) (h : AH) (fr0 : AFr) (R : CExit → AQ) (v4 v5 v6 v7 v13 v14 v16 : AV) (f4 : fr0 4 = v4) (f5 : fr0 5 = v5) (f6 : fr0 6 = v6) (f7 : fr0 7 = v7) (f13 : fr0 13 = v13) (f14 : fr0 14 = v14) (f16 : fr0 16 = v16)
    (f15 : fr0 15 = .lst 9 (strC up) .no) (f17 : fr0 17 = .lst 9 (strC more) .no) (f18 : fr0 18 = .int .i64 0)
    (hR : ∀ fr : AFr, fr 5 = v5 → fr 6 = v6 → fr 7 = v7 → fr 13 = v13 → fr 14 = v14 → fr 16 = v16 → fr 15 = .lst 9 (strC up) .no → R (.exit 8) fr h) : W T K (.loop l3_4.toC) fr0 h R := by
  refine aloop (α := Nat) (fun j fr h1 => fr 5 = v5 ∧ fr 6 = v6 ∧ fr 7 = v7 ∧ fr 13 = v13 ∧ fr 14 = v14 ∧ fr 16 = v16 ∧ fr 15 = .lst 9 (strC up) .no ∧ fr 17 = .lst 9 (strC more) .no ∧ fr 18 = .int .i64 j ∧ j ≤ more.length ∧ h1 = h) (fun j => more.length - j) 0 ?_ ?_
  · exact ⟨f5, f6, f7, f13, f14, f16, f15, f17, f18, Nat.zero_le _, rfl⟩
  · clear f4 f5 f6 f7 f13 f14 f16 f15 f17 f18
    rintro j fr h ⟨f5, f6, f7, f13, f14, f16, f15, f17, f18, hj, rfl⟩
    by_cases hlt : j < more.length
    · have c1 : decide ((j : Int) < (more.length : Int)) = true := decide_eq_true (by omega)
      obtain ⟨a, ha⟩ : ∃ a, more[j]? = some a := ⟨more[j], by simp [hlt]⟩
      have hget : (strC more)[j]? = some [.str a] := by rw [strC_get, ha]; rfl
      have w : IntKind.i64.wrap ((j : Int) + 1) = ((j + 1 : Nat) : Int) := by rw [wrap64 ⟨by omega, by omega⟩]; rfl
      simp only [u_C l3_4.eq_1, runs, e_onS, AH.set_same, AH.set_set, List.map_cons, List.map_nil, List.length_cons, List.length_nil, List.drop_zero, List.drop_succ_cons, List.take_succ_cons, List.take_zero, List.take_nil, List.nil_append, List.cons_append, List.append_nil, List.all_cons, List.all_nil, Nat.zero_add, Nat.add_zero, ite_true, ite_false, if_true, if_false, ne_eq, not_false_eq_true, not_true_eq_false, and_true, true_and, and_self, Bool.and_true, Bool.true_and, Bool.not_true, Bool.not_false, List.getElem?_cons_zero, List.getElem?_cons_succ, Option.isSome_some, beq_self_eq_true, implies_true, forall_const, Nat.le_refl, Option.some.injEq, Option.getD_some, Option.getD_none, List.getElem?_nil, e_Lpn, e_Lpe, e_Lpr, decide_true, decide_false, Int.natCast_nonneg, Int.toNat_natCast, Int.toNat_zero, lt_irr, imp_self, false_implies, big_eq, pevA, takeA, putA, fillA, chunkA, zerosL, binA, binI, binS, isNilA, lookA, bndA, depA, depV, depM, depS, cellAt, elemAt, initA, Nat.reduceAdd, Nat.reduceLeDiff, Nat.reduceEqDiff, reduceIte, reduceCtorEq, Nat.reduceLT, Nat.reduceMul, Nat.reduceSub, Int.reduceAdd, Int.reduceSub, Int.reduceMul, Int.reduceLT, Int.reduceLE, Int.reduceEq, Int.reduceNe, Int.reduceNeg, Int.reduceToNat, f15, f17, f18, strC_len, c1, hget]
      refine (has_ok 9 up .no a).use ?_
      have hau := hm a (List.mem_of_getElem? ha)
      simp only [runs, e_onS, AH.set_same, AH.set_set, List.map_cons, List.map_nil, List.length_cons, List.length_nil, List.drop_zero, List.drop_succ_cons, List.take_succ_cons, List.take_zero, List.take_nil, List.nil_append, List.cons_append, List.append_nil, List.all_cons, List.all_nil, Nat.zero_add, Nat.add_zero, ite_true, ite_false, if_true, if_false, ne_eq, not_false_eq_true, not_true_eq_false, and_true, true_and, and_self, Bool.and_true, Bool.true_and, Bool.not_true, Bool.not_false, List.getElem?_cons_zero, List.getElem?_cons_succ, Option.isSome_some, beq_self_eq_true, implies_true, forall_const, Nat.le_refl, Option.some.injEq, Option.getD_some, Option.getD_none, List.getElem?_nil, e_Lpn, e_Lpe, e_Lpr, decide_true, decide_false, Int.natCast_nonneg, Int.toNat_natCast, Int.toNat_zero, lt_irr, imp_self, false_implies, big_eq, pevA, takeA, putA, fillA, chunkA, zerosL, binA, binI, binS, isNilA, lookA, bndA, depA, depV, depM, depS, cellAt, elemAt, initA, Nat.reduceAdd, Nat.reduceLeDiff, Nat.reduceEqDiff, reduceIte, reduceCtorEq, Nat.reduceLT, Nat.reduceMul, Nat.reduceSub, Int.reduceAdd, Int.reduceSub, Int.reduceMul, Int.reduceLT, Int.reduceLE, Int.reduceEq, Int.reduceNe, Int.reduceNeg, Int.reduceToNat, hau, f18, w]
      exact ⟨j + 1, by show more.length - (j + 1) < more.length - j; omega, f5, f6, f7, f13, f14, f16, f15, f17, rfl, hlt, rfl⟩
    · have hje : j = more.length := by omega
      subst hje
      have c1 : decide ((more.length : Int) < (more.length : Int)) = false := by simp
      simp only [u_C l3_4.eq_1, runs, e_onS, AH.set_same, AH.set_set, List.map_cons, List.map_nil, List.length_cons, List.length_nil, List.drop_zero, List.drop_succ_cons, List.take_succ_cons, List.take_zero, List.take_nil, List.nil_append, List.cons_append, List.append_nil, List.all_cons, List.all_nil, Nat.zero_add, Nat.add_zero, ite_true, ite_false, if_true, if_false, ne_eq, not_false_eq_true, not_true_eq_false, and_true, true_and, and_self, Bool.and_true, Bool.true_and, Bool.not_true, Bool.not_false, List.getElem?_cons_zero, List.getElem?_cons_succ, Option.isSome_some, beq_self_eq_true, implies_true, forall_const, Nat.le_refl, Option.some.injEq, Option.getD_some, Option.getD_none, List.getElem?_nil, e_Lpn, e_Lpe, e_Lpr, decide_true, decide_false, Int.natCast_nonneg, Int.toNat_natCast, Int.toNat_zero, lt_irr, imp_self, false_implies, big_eq, pevA, takeA, putA, fillA, chunkA, zerosL, binA, binI, binS, isNilA, lookA, bndA, depA, depV, depM, depS, cellAt, elemAt, initA, Nat.reduceAdd, Nat.reduceLeDiff, Nat.reduceEqDiff, reduceIte, reduceCtorEq, Nat.reduceLT, Nat.reduceMul, Nat.reduceSub, Int.reduceAdd, Int.reduceSub, Int.reduceMul, Int.reduceLT, Int.reduceLE, Int.reduceEq, Int.reduceNe, Int.reduceNeg, Int.reduceToNat, f15, f17, f18, strC_len, c1]
      exact hR _ f5 f6 f7 f13 f14 f16 f15

/-- each that is above one -/
theorem each_ok (r : Rw) (h8 : r.length = 8) (hI : RwI r) (b13 : Nat) (mv m2v : AV) (E : TypeId) (tg : Tag) (i : Nat) (nm : Nm) (hi : N8[i]? = some nm) (K : Nat → Prop) (h : AH) (he : EnvA h b13 mv m2v E tg (clR r)) (fr0 : AFr) (R : CExit → AQ) (v7 : AV)
    (f5 : fr0 5 = .bool true) (f6 : fr0 6 = .lst 9 (strC N8) .no) (f7 : fr0 7 = v7) (f13 : fr0 13 = .ptr b13 0) (f14 : fr0 14 = .int .i64 i) (f15 : fr0 15 = .lst 9 (strC (ab (clR r) N8 nm)) .no) (f16 : fr0 16 = .int .i64 0)
    (hR : ∀ fr : AFr, fr 5 = .bool true → fr 6 = .lst 9 (strC N8) .no → fr 7 = v7 → fr 13 = .ptr b13 0 → fr 14 = .int .i64 i → fr 15 = .lst 9 (strC (ab (clR r) N8 nm)) .no → R (.exit 6) fr h) : W T K (.loop l3_5.toC) fr0 h R := by
  have hk := Rk.of h8 hI
  have hnd := ab_nd hk.U nm
  have hns := hI.notself h8 hi
  have hul : (ab (clR r) N8 nm).length ≤ 1000 := Nat.le_trans (nodup_len hnd (ab_sub hk.U nm)) (by decide)
  have hl : ∀ p ∈ clR r, p.2.length ≤ 1000 := fun p hp => by obtain ⟨q, hq, rfl⟩ := List.mem_map.1 hp; exact hk.len2 q hq
  have htr := ab_trans hk.U nm
  have hi8 : i < 8 := (List.getElem?_eq_some_iff.1 hi).1
  have hgi : (strC N8)[i]? = some [.str nm] := by rw [strC_get, hi]; rfl
  generalize ab (clR r) N8 nm = up at hnd hns hul htr f15 hR ⊢
  refine aloop (α := Nat) (fun k fr h1 => fr 5 = .bool true ∧ fr 6 = .lst 9 (strC N8) .no ∧ fr 7 = v7 ∧ fr 13 = .ptr b13 0 ∧ fr 14 = .int .i64 i ∧ fr 15 = .lst 9 (strC up) .no ∧ fr 16 = .int .i64 k ∧ k ≤ up.length ∧ h1 = h) (fun k => up.length - k) 0 ?_ ?_
  · exact ⟨f5, f6, f7, f13, f14, f15, f16, Nat.zero_le _, rfl⟩
  · clear f5 f6 f7 f13 f14 f15 f16
    rintro k fr h ⟨f5, f6, f7, f13, f14, f15, f16, hk', rfl⟩
    by_cases hlt : k < up.length
    · have c1 : decide ((k : Int) < (up.length : Int)) = true := decide_eq_true (by omega)
      obtain ⟨a, ha⟩ : ∃ a, up[k]? = some a := ⟨up[k], by simp [hlt]⟩
      have ham := List.mem_of_getElem? ha
      have hget : (strC up)[k]? = some [.str a] := by rw [strC_get, ha]; rfl
      have w : IntKind.i64.wrap ((k : Int) + 1) = ((k + 1 : Nat) : Int) := by rw [wrap64 ⟨by omega, by omega⟩]; rfl
      have hane : a ≠ nm := by rintro rfl; exact hns ham
      have hni := take_nd hnd ha
      obtain ⟨x, u, hxu⟩ := List.exists_cons_of_ne_nil (show up ≠ [] by rintro rfl; simp at hlt)
      have hc : strC up = [AV.str x] :: strC u := by rw [hxu]; rfl
      have hle : (k : Int) ≤ (up.length : Int) := by omega
      have hlen1 : ∀ y ∈ [AV.str x] :: strC u, y.length = 1 := by rw [← hc]; exact len_strC up
      have htk : List.take k ([AV.str x] :: strC u) = strC (up.take k) := by rw [← hc, take_strC]
      have hget' : ([AV.str x] :: strC u)[k]? = some [.str a] := by rw [← hc]; exact hget
      have hk0 : (0 : Int) ≤ (k : Int) := by omega
      have f15' := f15
      rw [hc] at f15
      have hll : (strC u).length + 1 = up.length := by
        have := strC_len up
        rw [hc] at this
        simpa using this
      simp only [u_C l3_5.eq_1, e_dregion d3_3, u_L s3_3.eq_1, u_T g3_3.eq_1, runs, e_onS, AH.set_same, AH.set_set, List.map_cons, List.map_nil, List.length_cons, List.length_nil, List.drop_zero, List.drop_succ_cons, List.take_succ_cons, List.take_zero, List.take_nil, List.nil_append, List.cons_append, List.append_nil, List.all_cons, List.all_nil, Nat.zero_add, Nat.add_zero, ite_true, ite_false, if_true, if_false, ne_eq, not_false_eq_true, not_true_eq_false, and_true, true_and, and_self, Bool.and_true, Bool.true_and, Bool.not_true, Bool.not_false, List.getElem?_cons_zero, List.getElem?_cons_succ, Option.isSome_some, beq_self_eq_true, implies_true, forall_const, Nat.le_refl, Option.some.injEq, Option.getD_some, Option.getD_none, List.getElem?_nil, e_Lpn, e_Lpe, e_Lpr, decide_true, decide_false, Int.natCast_nonneg, Int.toNat_natCast, Int.toNat_zero, lt_irr, imp_self, false_implies, big_eq, pevA, takeA, putA, fillA, chunkA, zerosL, binA, binI, binS, isNilA, lookA, bndA, depA, depV, depM, depS, cellAt, elemAt, initA, Nat.reduceAdd, Nat.reduceLeDiff, Nat.reduceEqDiff, reduceIte, reduceCtorEq, Nat.reduceLT, Nat.reduceMul, Nat.reduceSub, Int.reduceAdd, Int.reduceSub, Int.reduceMul, Int.reduceLT, Int.reduceLE, Int.reduceEq, Int.reduceNe, Int.reduceNeg, Int.reduceToNat, f6, f14, f15, f16, hll, c1, hget', hgi, hane, hle, hk0, Int.toNat_natCast, Nat.zero_le, List.drop_zero, Nat.sub_zero, Option.map_some, Option.map_none]
      rw [if_pos hlen1, htk]
      simp only [e_dregion d3_3, u_L s3_3.eq_1, u_T g3_3.eq_1, runs, e_onS, AH.set_same, AH.set_set, List.map_cons, List.map_nil, List.length_cons, List.length_nil, List.drop_zero, List.drop_succ_cons, List.take_succ_cons, List.take_zero, List.take_nil, List.nil_append, List.cons_append, List.append_nil, List.all_cons, List.all_nil, Nat.zero_add, Nat.add_zero, ite_true, ite_false, if_true, if_false, ne_eq, not_false_eq_true, not_true_eq_false, and_true, true_and, and_self, Bool.and_true, Bool.true_and, Bool.not_true, Bool.not_false, List.getElem?_cons_zero, List.getElem?_cons_succ, Option.isSome_some, beq_self_eq_true, implies_true, forall_const, Nat.le_refl, Option.some.injEq, Option.getD_some, Option.getD_none, List.getElem?_nil, e_Lpn, e_Lpe, e_Lpr, decide_true, decide_false, Int.natCast_nonneg, Int.toNat_natCast, Int.toNat_zero, lt_irr, imp_self, false_implies, big_eq, pevA, takeA, putA, fillA, chunkA, zerosL, binA, binI, binS, isNilA, lookA, bndA, depA, depV, depM, depS, cellAt, elemAt, initA, Nat.reduceAdd, Nat.reduceLeDiff, Nat.reduceEqDiff, reduceIte, reduceCtorEq, Nat.reduceLT, Nat.reduceMul, Nat.reduceSub, Int.reduceAdd, Int.reduceSub, Int.reduceMul, Int.reduceLT, Int.reduceLE, Int.reduceEq, Int.reduceNe, Int.reduceNeg, Int.reduceToNat, f15, f16, hget']
      refine (has_ok _ _ _ _).use ?_
      simp only [e_dregion d3_3, u_L s3_3.eq_1, u_T g3_3.eq_1, runs, e_onS, AH.set_same, AH.set_set, List.map_cons, List.map_nil, List.length_cons, List.length_nil, List.drop_zero, List.drop_succ_cons, List.take_succ_cons, List.take_zero, List.take_nil, List.nil_append, List.cons_append, List.append_nil, List.all_cons, List.all_nil, Nat.zero_add, Nat.add_zero, ite_true, ite_false, if_true, if_false, ne_eq, not_false_eq_true, not_true_eq_false, and_true, true_and, and_self, Bool.and_true, Bool.true_and, Bool.not_true, Bool.not_false, List.getElem?_cons_zero, List.getElem?_cons_succ, Option.isSome_some, beq_self_eq_true, implies_true, forall_const, Nat.le_refl, Option.some.injEq, Option.getD_some, Option.getD_none, List.getElem?_nil, e_Lpn, e_Lpe, e_Lpr, decide_true, decide_false, Int.natCast_nonneg, Int.toNat_natCast, Int.toNat_zero, lt_irr, imp_self, false_implies, big_eq, pevA, takeA, putA, fillA, chunkA, zerosL, binA, binI, binS, isNilA, lookA, bndA, depA, depV, depM, depS, cellAt, elemAt, initA, Nat.reduceAdd, Nat.reduceLeDiff, Nat.reduceEqDiff, reduceIte, reduceCtorEq, Nat.reduceLT, Nat.reduceMul, Nat.reduceSub, Int.reduceAdd, Int.reduceSub, Int.reduceMul, Int.reduceLT, Int.reduceLE, Int.reduceEq, Int.reduceNe, Int.reduceNeg, Int.reduceToNat, f15, f16, f13, hget', hni]
      refine (Above_ok (clR r) N8 (by decide) hk.U hl he a K).mono ?_
      rintro _ _ ⟨rfl, rfl⟩
      simp only [runs, e_onS, AH.set_same, AH.set_set, List.map_cons, List.map_nil, List.length_cons, List.length_nil, List.drop_zero, List.drop_succ_cons, List.take_succ_cons, List.take_zero, List.take_nil, List.nil_append, List.cons_append, List.append_nil, List.all_cons, List.all_nil, Nat.zero_add, Nat.add_zero, ite_true, ite_false, if_true, if_false, ne_eq, not_false_eq_true, not_true_eq_false, and_true, true_and, and_self, Bool.and_true, Bool.true_and, Bool.not_true, Bool.not_false, List.getElem?_cons_zero, List.getElem?_cons_succ, Option.isSome_some, beq_self_eq_true, implies_true, forall_const, Nat.le_refl, Option.some.injEq, Option.getD_some, Option.getD_none, List.getElem?_nil, e_Lpn, e_Lpe, e_Lpr, decide_true, decide_false, Int.natCast_nonneg, Int.toNat_natCast, Int.toNat_zero, lt_irr, imp_self, false_implies, big_eq, pevA, takeA, putA, fillA, chunkA, zerosL, binA, binI, binS, isNilA, lookA, bndA, depA, depV, depM, depS, cellAt, elemAt, initA, Nat.reduceAdd, Nat.reduceLeDiff, Nat.reduceEqDiff, reduceIte, reduceCtorEq, Nat.reduceLT, Nat.reduceMul, Nat.reduceSub, Int.reduceAdd, Int.reduceSub, Int.reduceMul, Int.reduceLT, Int.reduceLE, Int.reduceEq, Int.reduceNe, Int.reduceNeg, Int.reduceToNat]
      refine more_ok up _ (htr a ham) (Nat.le_trans (nodup_len (ab_nd hk.U a) (ab_sub hk.U a)) (by decide)) K _ _ _ _ (.bool true) (.lst 9 (strC N8) .no) v7 (.ptr b13 0) (.int .i64 i) (.int .i64 k) rfl f5 f6 f7 f13 f14 f16 f15' rfl rfl fun fr g5 g6 g7 g13 g14 g16 g15 => ?_
      simp only [runs, e_onS, AH.set_same, AH.set_set, List.map_cons, List.map_nil, List.length_cons, List.length_nil, List.drop_zero, List.drop_succ_cons, List.take_succ_cons, List.take_zero, List.take_nil, List.nil_append, List.cons_append, List.append_nil, List.all_cons, List.all_nil, Nat.zero_add, Nat.add_zero, ite_true, ite_false, if_true, if_false, ne_eq, not_false_eq_true, not_true_eq_false, and_true, true_and, and_self, Bool.and_true, Bool.true_and, Bool.not_true, Bool.not_false, List.getElem?_cons_zero, List.getElem?_cons_succ, Option.isSome_some, beq_self_eq_true, implies_true, forall_const, Nat.le_refl, Option.some.injEq, Option.getD_some, Option.getD_none, List.getElem?_nil, e_Lpn, e_Lpe, e_Lpr, decide_true, decide_false, Int.natCast_nonneg, Int.toNat_natCast, Int.toNat_zero, lt_irr, imp_self, false_implies, big_eq, pevA, takeA, putA, fillA, chunkA, zerosL, binA, binI, binS, isNilA, lookA, bndA, depA, depV, depM, depS, cellAt, elemAt, initA, Nat.reduceAdd, Nat.reduceLeDiff, Nat.reduceEqDiff, reduceIte, reduceCtorEq, Nat.reduceLT, Nat.reduceMul, Nat.reduceSub, Int.reduceAdd, Int.reduceSub, Int.reduceMul, Int.reduceLT, Int.reduceLE, Int.reduceEq, Int.reduceNe, Int.reduceNeg, Int.reduceToNat, g16, w]
      exact ⟨k + 1, by show up.length - (k + 1) < up.length - k; omega, g5, g6, g7, g13, g14, g15, rfl, hlt, rfl⟩
    · have hke : k = up.length := by omega
      subst hke
      have c1 : decide ((up.length : Int) < (up.length : Int)) = false := by simp
      simp only [u_C l3_5.eq_1, runs, e_onS, AH.set_same, AH.set_set, List.map_cons, List.map_nil, List.length_cons, List.length_nil, List.drop_zero, List.drop_succ_cons, List.take_succ_cons, List.take_zero, List.take_nil, List.nil_append, List.cons_append, List.append_nil, List.all_cons, List.all_nil, Nat.zero_add, Nat.add_zero, ite_true, ite_false, if_true, if_false, ne_eq, not_false_eq_true, not_true_eq_false, and_true, true_and, and_self, Bool.and_true, Bool.true_and, Bool.not_true, Bool.not_false, List.getElem?_cons_zero, List.getElem?_cons_succ, Option.isSome_some, beq_self_eq_true, implies_true, forall_const, Nat.le_refl, Option.some.injEq, Option.getD_some, Option.getD_none, List.getElem?_nil, e_Lpn, e_Lpe, e_Lpr, decide_true, decide_false, Int.natCast_nonneg, Int.toNat_natCast, Int.toNat_zero, lt_irr, imp_self, false_implies, big_eq, pevA, takeA, putA, fillA, chunkA, zerosL, binA, binI, binS, isNilA, lookA, bndA, depA, depV, depM, depS, cellAt, elemAt, initA, Nat.reduceAdd, Nat.reduceLeDiff, Nat.reduceEqDiff, reduceIte, reduceCtorEq, Nat.reduceLT, Nat.reduceMul, Nat.reduceSub, Int.reduceAdd, Int.reduceSub, Int.reduceMul, Int.reduceLT, Int.reduceLE, Int.reduceEq, Int.reduceNe, Int.reduceNeg, Int.reduceToNat, f15, f16, strC_len, c1]
      exact hR _ f5 f6 f7 f13 f14 f15
end Go.Proofs.YtfagmflapdgcmaaDoor.p
