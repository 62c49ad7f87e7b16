/- needs -/
import Derived.Test.YtplnafebmpldgaaSbLaw1
import Derived.Test.YtplnafebmpldgaaSbCode
namespace Go.Proofs.Ytplnafebmpldgaa.p
open Go.Proofs Go Go.Cn code grp
set_option linter.unusedSimpArgs false
set_option linter.unusedVariables false

def lC (l : List Int) : List (List AV) := l.map fun n => [.int .i64 n]
theorem lC_len (l : List Int) : (lC l).length = l.length := by rw [lC, List.length_map]
theorem lC_get (l : List Int) (i : Nat) : (lC l)[i]? = (l[i]?).map fun n => [AV.int .i64 n] := by rw [lC, List.getElem?_map]
theorem lC_app (l m : List Int) : lC (l ++ m) = lC l ++ lC m := by rw [lC, List.map_append]; rfl
def rowsC (x : List (List Int)) : List (List AV) := x.map fun r => [.lst 3 (lC r) .no]
theorem rowsC_len (l : List (List Int)) : (rowsC l).length = l.length := by rw [rowsC, List.length_map]
theorem rowsC_get (l : List (List Int)) (i : Nat) : (rowsC l)[i]? = (l[i]?).map fun n => [AV.lst 3 (lC n) .no] := by rw [rowsC, List.getElem?_map]

/-- rows that are being made -/
abbrev Sr := List (TypeId × List Int × Tag)
def srC (S : Sr) : List AV := S.map fun s => .lst s.1 (lC s.2.1) s.2.2
def srT (S : Sr) : List (Tag × TypeId × Nat × Nat) := S.map fun s => (s.2.2, 3, 1, 0)
def srX (S : Sr) : List (List Int) := S.map fun s => s.2.1
theorem srC_len (S : Sr) : (srC S).length = S.length := by rw [srC, List.length_map]
theorem srC_get (S : Sr) (i : Nat) : (srC S)[i]? = (S[i]?).map fun s => AV.lst s.1 (lC s.2.1) s.2.2 := by rw [srC, List.getElem?_map]
theorem srT_get (S : Sr) (i : Nat) : (srT S)[i]? = (S[i]?).map fun s => (s.2.2, 3, 1, 0) := by rw [srT, List.getElem?_map]
theorem map_set' {α β : Type} (f : α → β) : ∀ (l : List α) (k : Nat) (a : α), (l.set k a).map f = (l.map f).set k (f a)
  | [], k, a => rfl
  | b :: l, 0, a => rfl
  | b :: l, k + 1, a => by show f b :: (l.set k a).map f = _; rw [map_set' f l k a]; rfl
theorem set_put {α : Type} : ∀ (l : List α) (k : Nat) (a : α), k < l.length → l.set k a = l.take k ++ [a] ++ l.drop (k + 1)
  | b :: l, 0, a, h => rfl
  | b :: l, k + 1, a, h => by
    show b :: l.set k a = _
    rw [set_put l k a (by simp at h; omega)]
    rfl
theorem srC_set (S : Sr) (k : Nat) (s : TypeId × List Int × Tag) (hk : k < S.length) : (srC S).take k ++ [AV.lst s.1 (lC s.2.1) s.2.2] ++ (srC S).drop (k + 1) = srC (S.set k s) := by
  rw [← set_put _ _ _ (by rw [srC_len]; exact hk), srC, srC, map_set']
theorem single_flat : ∀ cs : List AV, (cs.map fun a => [a]).flatten = cs
  | [] => rfl
  | a :: cs => by show [a] ++ (cs.map fun a => [a]).flatten = _; rw [single_flat cs]; rfl
/-- a row that was made is never written again -/
theorem Frz.slice {n b : Nat} {cs : List AV} {E : TypeId} {h h0 : AH} {c : AV} (ho : h.objs b = some (.cells cs E)) (hn : cs.length = n) (hp : 0 < n) (hB : n ≤ big) (hw : Wk (.lst E (cs.map fun a => [a]) .no) c) (hl : h0.le (h.del b)) : Frz (.slice b 0 n n) h c h0 := by
  have hne : cs ≠ [] := fun e => by rw [e] at hn; simp at hn; omega
  refine .cells (b := .lst E (cs.map fun a => [a]) .no) ho hne (fun F σ v hF ⟨x, hx, hr⟩ hv => ?_) (.weak hw (.drop hl (.refl _ _)))
  cases hv
  have hlen : x.length = n := by rw [← hr.1, hn]
  have := Rp.lst (F := F) (σ := σ) (E := E) (es := cs.map fun a => [a]) (t := .no) (b := b) (off := 0) (cap := n) (sz := 1) hx (by simpa using hne) (by omega) (fun e he => by obtain ⟨x, _, rfl⟩ := List.mem_map.1 he; rfl)
    (by rw [List.length_map, hF]; omega) (by rw [List.length_map, hlen, hn]; omega) (by rw [List.length_map, hn]; exact Nat.le_refl _) (by rw [List.length_map, hn]; exact hB) (.inl rfl) (fun i y z hy hz => by
      rw [single_flat] at hy
      rw [Nat.zero_add] at hz
      exact hr.2 i y z hy hz)
  rw [List.length_map, hn] at this
  exact this
theorem single_wk {E : TypeId} {cs ds : List AV} (hl : cs.length = ds.length) (h : ∀ (i : Nat) (x y : AV), cs[i]? = some x → ds[i]? = some y → Wk x y) : Wk (.lst E (cs.map fun a => [a]) .no) (.lst E (ds.map fun a => [a]) .no) :=
  .lst (by simp [hl]) (fun i x y hx hy => by
    rw [List.getElem?_map, Option.map_eq_some_iff] at hx hy
    obtain ⟨a, _, rfl⟩ := hx
    obtain ⟨b, _, rfl⟩ := hy
    rfl) (fun i x y hx hy => by rw [single_flat] at hx hy; exact h i x y hx hy)
theorem zerosL_one (v : Value) : ∀ n, zerosL [v] n = List.replicate n v
  | 0 => rfl
  | n + 1 => by show [v] ++ zerosL [v] n = _; rw [zerosL_one v n]; rfl
theorem toks_rep (t : Nat → Option Tok) (E sz : Nat) : ∀ n, Toks t t (List.replicate n (.nil, E, sz, 0))
  | 0 => Toks.init t
  | n + 1 => (toks_rep t E sz n).cons E sz
/-- one number is a need -/
def qF (n : Nat) (v : Int) : Int := IntKind.i64.wrap (v.tdiv n)
def kF (n : Nat) (v : Int) : Int := (v.tmod n + n).tmod n
def stepF (n : Nat) (x : List (List Int)) (v : Int) : List (List Int) := x.set (kF n v).toNat (x.getD (kF n v).toNat [] ++ [kF n (qF n v)])
def needsF (n : Nat) (l : List Int) : List (List Int) := l.foldl (stepF n) (List.replicate n [])
theorem kF_in {n : Nat} (hn : 0 < n) (v : Int) : 0 ≤ kF n v ∧ kF n v < n := by
  unfold kF
  have h1 := Int.emod_nonneg v (show (n : Int) ≠ 0 by omega)
  have h3 : -(n : Int) < v.tmod n := by
    have := Int.lt_tmod_of_pos v (show (0 : Int) < n by omega)
    omega
  have h4 : v.tmod n < n := Int.tmod_lt_of_pos v (by omega)
  rw [Int.tmod_eq_emod_of_nonneg (by omega)]
  exact ⟨Int.emod_nonneg _ (by omega), Int.emod_lt_of_pos _ (by omega)⟩
theorem wrapK {n : Nat} (hn : 0 < n) (hn2 : n ≤ 15) (v : Int) : IntKind.i64.wrap (v.tmod n + n) = v.tmod n + n := by
  have h3 : -(n : Int) < v.tmod n := by
    have := Int.lt_tmod_of_pos v (show (0 : Int) < n by omega)
    omega
  have h4 : v.tmod n < n := Int.tmod_lt_of_pos v (by omega)
  exact wrap64 ⟨by omega, by omega⟩
theorem stepF_in {n : Nat} (hn : 0 < n) {x : List (List Int)} (h : InR n x) (v : Int) : InR n (stepF n x v) := by
  refine ⟨by unfold stepF; rw [List.length_set]; exact h.1, fun row hr w hw => ?_⟩
  unfold stepF at hr
  rcases List.mem_or_eq_of_mem_set hr with hr | rfl
  · exact h.2 row hr w hw
  · rcases List.mem_append.1 hw with hw | hw
    · have hk : (kF n v).toNat < x.length := by have := kF_in hn v; rw [h.1]; omega
      rw [List.getD, List.getElem?_eq_getElem hk] at hw
      exact h.2 _ (List.getElem_mem hk) w hw
    · rw [List.mem_singleton.1 hw]; exact kF_in hn _
theorem needsF_in {n : Nat} (hn : 0 < n) (l : List Int) : InR n (needsF n l) := by
  unfold needsF
  have : ∀ (l : List Int) x, InR n x → InR n (l.foldl (stepF n) x) := by
    intro l
    induction l with
    | nil => exact fun x h => h
    | cons a l ih => exact fun x h => ih _ (stepF_in hn h a)
  exact this l _ ⟨by simp, by simp⟩

theorem needs_core (E : TypeId) (l : List Int) (n : Nat) (hn : 0 < n) (hn2 : n ≤ 15) (hl : l.length ≤ 40) (K : Nat → Prop) (h : AH) (Q : AV → AH → Prop)
    (hq : ∀ b S tk, KOk K h → h.objs b = none → ¬ K b → S.length = n → srX S = needsF n l → (∀ s ∈ S, s.2.1 ≠ [] → s.1 = 3) → Toks h.toks tk (srT S) → ∃ a h'', Frz (.slice b 0 n n) ((h.set b (.cells (srC S) 22)).tk tk) a h'' ∧ KOk K h'' ∧ Q a h'') : ACall T K (.func 6) [.lst E (lC l) .no, .int .i64 n] h Q := by
  refine ACall.retQ t6 fun hK => ?_
  simp only [u_C c6.eq_1, runs, e_onS, AH.set_same, AH.set_set, List.map_cons, List.map_nil, List.length_cons, List.length_nil, List.drop_zero, List.drop_succ_cons, List.take_succ_cons, List.take_zero, List.take_nil, List.nil_append, List.cons_append, List.append_nil, List.all_cons, List.all_nil, Nat.zero_add, Nat.add_zero, ite_true, ite_false, if_true, if_false, ne_eq, not_false_eq_true, not_true_eq_false, and_true, true_and, and_self, Bool.and_true, Bool.true_and, Bool.not_true, Bool.not_false, List.getElem?_cons_zero, List.getElem?_cons_succ, Option.isSome_some, beq_self_eq_true, implies_true, forall_const, Nat.le_refl, Option.some.injEq, Option.getD_some, Option.getD_none, List.getElem?_nil, e_Lpn, e_Lpe, e_Lpr, decide_true, decide_false, Int.natCast_nonneg, Int.toNat_natCast, Int.toNat_zero, lt_irr, imp_self, false_implies, big_eq, pevA, takeA, putA, fillA, chunkA, zerosL, binA, binI, binS, isNilA, lookA, bndA, depA, depV, depM, depS, cellAt, elemAt, initA, Nat.reduceAdd, Nat.reduceLeDiff, Nat.reduceEqDiff, reduceIte, reduceCtorEq, Nat.reduceLT, Nat.reduceMul, Nat.reduceSub, Int.reduceAdd, Int.reduceSub, Int.reduceMul, Int.reduceLT, Int.reduceLE, Int.reduceEq, Int.reduceNe, Int.reduceNeg, Int.reduceToNat]
  refine WO.mksl (j := .i64) (k := .i64) (m := n) (n := n) rfl rfl (Nat.le_refl _) (by omega) (by omega) fun b hb hk => ?_
  simp only [runs, e_onS, AH.set_same, AH.set_set, List.map_cons, List.map_nil, List.length_cons, List.length_nil, List.drop_zero, List.drop_succ_cons, List.take_succ_cons, List.take_zero, List.take_nil, List.nil_append, List.cons_append, List.append_nil, List.all_cons, List.all_nil, Nat.zero_add, Nat.add_zero, ite_true, ite_false, if_true, if_false, ne_eq, not_false_eq_true, not_true_eq_false, and_true, true_and, and_self, Bool.and_true, Bool.true_and, Bool.not_true, Bool.not_false, List.getElem?_cons_zero, List.getElem?_cons_succ, Option.isSome_some, beq_self_eq_true, implies_true, forall_const, Nat.le_refl, Option.some.injEq, Option.getD_some, Option.getD_none, List.getElem?_nil, e_Lpn, e_Lpe, e_Lpr, decide_true, decide_false, Int.natCast_nonneg, Int.toNat_natCast, Int.toNat_zero, lt_irr, imp_self, false_implies, big_eq, pevA, takeA, putA, fillA, chunkA, zerosL, binA, binI, binS, isNilA, lookA, bndA, depA, depV, depM, depS, cellAt, elemAt, initA, Nat.reduceAdd, Nat.reduceLeDiff, Nat.reduceEqDiff, reduceIte, reduceCtorEq, Nat.reduceLT, Nat.reduceMul, Nat.reduceSub, Int.reduceAdd, Int.reduceSub, Int.reduceMul, Int.reduceLT, Int.reduceLE, Int.reduceEq, Int.reduceNe, Int.reduceNeg, Int.reduceToNat]
  have hc0 : (zerosL [Value.slice none 0 0] n).map ofC1 = srC (List.replicate n (0, [], .nil)) := by
    rw [zerosL_one, srC, List.map_replicate, List.map_replicate]; rfl
  rw [hc0]
  refine aloop (α := Nat × Sr) (fun x fr h1 => fr 0 = .lst E (lC l) .no ∧ fr 1 = .int .i64 n ∧ fr 5 = .slice b 0 n n ∧ fr 6 = .int .i64 x.1 ∧ x.1 ≤ l.length ∧ x.2.length = n ∧
      srX x.2 = (l.take x.1).foldl (stepF n) (List.replicate n []) ∧ (∀ s ∈ x.2, (s.2.1 ≠ [] → s.1 = 3) ∧ s.2.1.length ≤ x.1) ∧
      ∃ tk, Toks h.toks tk (srT x.2) ∧ h1 = (h.set b (.cells (srC x.2) 22)).tk tk) (fun x => l.length - x.1) (0, List.replicate n (0, [], .nil)) ?_ ?_
  · refine ⟨rfl, rfl, rfl, rfl, Nat.zero_le _, by simp, ?_, ?_, h.toks, ?_, rfl⟩
    · simp [srX]
    · intro s hs
      rw [List.eq_of_mem_replicate hs]
      exact ⟨fun h => absurd rfl h, Nat.zero_le _⟩
    · rw [srT, List.map_replicate]; exact toks_rep _ _ _ _
  · rintro ⟨i, S⟩ fr h1 ⟨f0, f1, f5, f6, hi, hS, hX, hg, tk, hT, rfl⟩
    simp only at f6 hi hS hX hg hT
    by_cases hlt : i < l.length
    · have k1 : decide ((i : Int) < (l.length : Nat)) = true := by simp; omega
      have k2 : decide ((0 : Int) < (n : Nat)) = true := by simp; omega
      obtain ⟨v, hv⟩ : ∃ v, l[i]? = some v := ⟨_, List.getElem?_eq_getElem hlt⟩
      have hn0 : ¬ ((n : Int) = 0) := by omega
      have w1 := wrapK hn hn2 v
      have w2 := wrapK hn hn2 (qF n v)
      have hk1 := kF_in hn v
      obtain ⟨kk, hkk⟩ : ∃ kk : Nat, kF n v = kk := ⟨(kF n v).toNat, by omega⟩
      have hkl : kk < n := by omega
      have e1 : (v.tmod n + n).tmod n = (kk : Int) := hkk
      have c1 : (kk : Int) < (n : Int) := by omega
      have eq : IntKind.i64.wrap (v.tdiv n) = qF n v := rfl
      obtain ⟨s, hs⟩ : ∃ s, S[kk]? = some s := ⟨_, List.getElem?_eq_getElem (by omega)⟩
      obtain ⟨Es, r, ts⟩ := s
      have hgs := hg _ (List.mem_of_getElem? hs)
      simp only at hgs
      simp only [u_C l6_0.eq_1, runs, e_onS, AH.set_same, AH.set_set, List.map_cons, List.map_nil, List.length_cons, List.length_nil, List.drop_zero, List.drop_succ_cons, List.take_succ_cons, List.take_zero, List.take_nil, List.nil_append, List.cons_append, List.append_nil, List.all_cons, List.all_nil, Nat.zero_add, Nat.add_zero, ite_true, ite_false, if_true, if_false, ne_eq, not_false_eq_true, not_true_eq_false, and_true, true_and, and_self, Bool.and_true, Bool.true_and, Bool.not_true, Bool.not_false, List.getElem?_cons_zero, List.getElem?_cons_succ, Option.isSome_some, beq_self_eq_true, implies_true, forall_const, Nat.le_refl, Option.some.injEq, Option.getD_some, Option.getD_none, List.getElem?_nil, e_Lpn, e_Lpe, e_Lpr, decide_true, decide_false, Int.natCast_nonneg, Int.toNat_natCast, Int.toNat_zero, lt_irr, imp_self, false_implies, big_eq, pevA, takeA, putA, fillA, chunkA, zerosL, binA, binI, binS, isNilA, lookA, bndA, depA, depV, depM, depS, cellAt, elemAt, initA, Nat.reduceAdd, Nat.reduceLeDiff, Nat.reduceEqDiff, reduceIte, reduceCtorEq, Nat.reduceLT, Nat.reduceMul, Nat.reduceSub, Int.reduceAdd, Int.reduceSub, Int.reduceMul, Int.reduceLT, Int.reduceLE, Int.reduceEq, Int.reduceNe, Int.reduceNeg, Int.reduceToNat, f0, f1, f5, f6, lC_len, lC_get, k1, k2, hv, Option.map_some, hn0, w1, e1, c1, eq, w2, Int.toNat_natCast, Nat.mul_one, srC_get, hs, if_true]
      refine WO.append (i := kk) hT (by rw [srT_get, hs]; rfl) rfl rfl trivial (by decide) ?_ ?_ ?_ ?_ ?_ fun tag' t' hT' => ?_
      · simp
      · simp [oneA]
      · simp
      · intro _; simp [capOk, lC_len]; omega
      · simp [big_eq, lC_len]; omega
      have hi1 : IntKind.i64.wrap ((i : Int) + 1) = (i : Int) + 1 := wrap64 ⟨by omega, by omega⟩
      have em : ((qF n v).tmod n + n).tmod n = kF n (qF n v) := rfl
      have hkS : kk < S.length := by omega
      have hp : kk + 1 ≤ (srC S).length := by rw [srC_len]; omega
      have hput : (srC S).take kk ++ [AV.lst 3 (lC r ++ [[AV.int .i64 (kF n (qF n v))]]) tag'] ++ (srC S).drop (kk + 1) = srC (S.set kk (3, r ++ [kF n (qF n v)], tag')) := by
        rw [← srC_set S kk _ hkS]
        show _ = (srC S).take kk ++ [AV.lst 3 (lC (r ++ [kF n (qF n v)])) tag'] ++ _
        rw [lC_app]; rfl
      simp only [hi1, runs, e_onS, AH.set_same, AH.set_set, List.map_cons, List.map_nil, List.length_cons, List.length_nil, List.drop_zero, List.drop_succ_cons, List.take_succ_cons, List.take_zero, List.take_nil, List.nil_append, List.cons_append, List.append_nil, List.all_cons, List.all_nil, Nat.zero_add, Nat.add_zero, ite_true, ite_false, if_true, if_false, ne_eq, not_false_eq_true, not_true_eq_false, and_true, true_and, and_self, Bool.and_true, Bool.true_and, Bool.not_true, Bool.not_false, List.getElem?_cons_zero, List.getElem?_cons_succ, Option.isSome_some, beq_self_eq_true, implies_true, forall_const, Nat.le_refl, Option.some.injEq, Option.getD_some, Option.getD_none, List.getElem?_nil, e_Lpn, e_Lpe, e_Lpr, decide_true, decide_false, Int.natCast_nonneg, Int.toNat_natCast, Int.toNat_zero, lt_irr, imp_self, false_implies, big_eq, pevA, takeA, putA, fillA, chunkA, zerosL, binA, binI, binS, isNilA, lookA, bndA, depA, depV, depM, depS, cellAt, elemAt, initA, Nat.reduceAdd, Nat.reduceLeDiff, Nat.reduceEqDiff, reduceIte, reduceCtorEq, Nat.reduceLT, Nat.reduceMul, Nat.reduceSub, Int.reduceAdd, Int.reduceSub, Int.reduceMul, Int.reduceLT, Int.reduceLE, Int.reduceEq, Int.reduceNe, Int.reduceNeg, Int.reduceToNat, f0, f1, f5, f6, c1, Int.toNat_natCast, Nat.mul_one, srC_get, hs, if_true, em, hp, hput]
      refine ⟨hk, (i + 1, S.set kk (3, r ++ [kF n (qF n v)], tag')), by show l.length - (i + 1) < l.length - i; omega, f0, f1, f5, by simp [upd], hlt, by rw [List.length_set]; exact hS, ?_, ?_, t', ?_, ?_⟩
      · show srX (S.set kk (3, r ++ [kF n (qF n v)], tag')) = _
        rw [srX, map_set', List.take_add_one, hv, Option.toList_some, List.foldl_append, ← hX]
        show _ = stepF n (srX S) v
        have hr : (srX S).getD kk [] = r := by rw [srX, List.getD, List.getElem?_map, hs]; rfl
        unfold stepF
        rw [hkk, Int.toNat_natCast, hr]; rfl
      · intro s hs'
        rcases List.mem_or_eq_of_mem_set hs' with h1 | rfl
        · exact ⟨(hg s h1).1, Nat.le_succ_of_le (hg s h1).2⟩
        · exact ⟨fun _ => rfl, by show (r ++ [_]).length ≤ i + 1; simp; omega⟩
      · show Toks h.toks t' (srT (S.set kk (3, r ++ [kF n (qF n v)], tag')))
        rw [srT, map_set']
        exact hT'
      · rfl
    · have k1 : decide ((i : Int) < (l.length : Nat)) = false := by simp; omega
      have hil : i = l.length := by omega
      simp only [u_C l6_0.eq_1, runs, e_onS, AH.set_same, AH.set_set, List.map_cons, List.map_nil, List.length_cons, List.length_nil, List.drop_zero, List.drop_succ_cons, List.take_succ_cons, List.take_zero, List.take_nil, List.nil_append, List.cons_append, List.append_nil, List.all_cons, List.all_nil, Nat.zero_add, Nat.add_zero, ite_true, ite_false, if_true, if_false, ne_eq, not_false_eq_true, not_true_eq_false, and_true, true_and, and_self, Bool.and_true, Bool.true_and, Bool.not_true, Bool.not_false, List.getElem?_cons_zero, List.getElem?_cons_succ, Option.isSome_some, beq_self_eq_true, implies_true, forall_const, Nat.le_refl, Option.some.injEq, Option.getD_some, Option.getD_none, List.getElem?_nil, e_Lpn, e_Lpe, e_Lpr, decide_true, decide_false, Int.natCast_nonneg, Int.toNat_natCast, Int.toNat_zero, lt_irr, imp_self, false_implies, big_eq, pevA, takeA, putA, fillA, chunkA, zerosL, binA, binI, binS, isNilA, lookA, bndA, depA, depV, depM, depS, cellAt, elemAt, initA, Nat.reduceAdd, Nat.reduceLeDiff, Nat.reduceEqDiff, reduceIte, reduceCtorEq, Nat.reduceLT, Nat.reduceMul, Nat.reduceSub, Int.reduceAdd, Int.reduceSub, Int.reduceMul, Int.reduceLT, Int.reduceLE, Int.reduceEq, Int.reduceNe, Int.reduceNeg, Int.reduceToNat, f0, f1, f5, f6, lC_len, lC_get, k1]
      exact hq b S tk hK hb hk hS (by rw [hX, hil, List.take_length]; rfl) (fun s hs => (hg s hs).1) hT
theorem sr_wk {S : Sr} {x : List (List Int)} (hX : srX S = x) (hg : ∀ s ∈ S, s.2.1 ≠ [] → s.1 = 3) : Wk (.lst 22 ((srC S).map fun a => [a]) .no) (.lst 22 (rowsC x) .no) := by
  have e : rowsC x = (x.map fun r => AV.lst 3 (lC r) .no).map fun a => [a] := by rw [rowsC, List.map_map]; rfl
  rw [e, ← hX]
  refine single_wk (by rw [srC_len, List.length_map, srX, List.length_map]) fun i x y hx hy => ?_
  rw [srC_get, Option.map_eq_some_iff] at hx
  obtain ⟨s, hs, rfl⟩ := hx
  rw [srX, List.map_map, List.getElem?_map, hs] at hy
  cases hy
  refine .lstE fun hne => (hg s (List.mem_of_getElem? hs)) fun e => hne ?_
  rw [e]; rfl
theorem needs_ok (E : TypeId) (l : List Int) (n : Nat) (hn : 0 < n) (hn2 : n ≤ 15) (hl : l.length ≤ 40) : Pure T 6 [.lst E (lC l) .no, .int .i64 n] (.lst 22 (rowsC (needsF n l)) .no) := by
  intro K h
  refine needs_core E l n hn hn2 hl K h _ fun b S tk hK hb hk hS hX hg hT => ?_
  refine ⟨_, h, Frz.slice (cs := srC S) (E := 22) (by rw [tk_objs, AH.set_same]) (by rw [srC_len, hS]) hn (by rw [big_eq]; omega) (c := .lst 22 (rowsC (needsF n l)) .no) (sr_wk hX hg) ?_, hK, rfl, rfl⟩
  rw [tk_del, AH.set_del _ _ hb]
  exact le_tk (AH.le_refl _) hT.le
def NeedsQ (n : Nat) (l : List Int) (K : Nat → Prop) (h : AH) (v : AV) (h' : AH) : Prop := ∃ b S tk, KOk K h ∧ h.objs b = none ∧ ¬ K b ∧ S.length = n ∧ srX S = needsF n l ∧ (∀ s ∈ S, s.2.1 ≠ [] → s.1 = 3) ∧ Toks h.toks tk (srT S) ∧ v = .slice b 0 n n ∧ h' = (h.set b (.cells (srC S) 22)).tk tk
/-- .. as they may still be written -/
theorem needs_mut (E : TypeId) (l : List Int) (n : Nat) (hn : 0 < n) (hn2 : n ≤ 15) (hl : l.length ≤ 40) (K : Nat → Prop) (h : AH) : ACall T K (.func 6) [.lst E (lC l) .no, .int .i64 n] h (NeedsQ n l K h) :=
  needs_core E l n hn hn2 hl K h _ fun b S tk hK hb hk hS hX hg hT => ⟨_, _, .refl _ _, hK.set _ _, b, S, tk, hK, hb, hk, hS, hX, hg, hT, rfl, rfl⟩
end Go.Proofs.Ytplnafebmpldgaa.p

namespace Go.Proofs.Ytplnafebmpldgaa.p
open Go.Proofs Go Go.Cn code grp
set_option linter.unusedSimpArgs false
set_option linter.unusedVariables false

def bC (d : List Bool) : List AV := d.map fun b => .bool b
theorem bC_len (d : List Bool) : (bC d).length = d.length := by rw [bC, List.length_map]
theorem bC_get (d : List Bool) (i : Nat) : (bC d)[i]? = (d[i]?).map fun b => AV.bool b := by rw [bC, List.getElem?_map]
theorem bC_set (d : List Bool) (k : Nat) (b : Bool) (hk : k < d.length) : (bC d).take k ++ [AV.bool b] ++ (bC d).drop (k + 1) = bC (d.set k b) := by
  rw [← set_put _ _ _ (by rw [bC_len]; exact hk), bC, bC, map_set']
def bL (d : List Bool) : List (List AV) := d.map fun b => [.bool b]
theorem bL_len (d : List Bool) : (bL d).length = d.length := by rw [bL, List.length_map]
theorem bL_get (d : List Bool) (i : Nat) : (bL d)[i]? = (d[i]?).map fun b => [AV.bool b] := by rw [bL, List.getElem?_map]
theorem bL_of (d : List Bool) : bL d = (bC d).map fun a => [a] := by rw [bL, bC, List.map_map]; rfl
def nC (l : List Nat) : List (List AV) := l.map fun (y : Nat) => [.int .i64 (y : Int)]
theorem nC_len (l : List Nat) : (nC l).length = l.length := by rw [nC, List.length_map]
theorem nC_get (l : List Nat) (i : Nat) : (nC l)[i]? = (l[i]?).map fun (n : Nat) => [AV.int .i64 (n : Int)] := by rw [nC, List.getElem?_map]
theorem nC_app (l m : List Nat) : nC (l ++ m) = nC l ++ nC m := by rw [nC, List.map_append]; rfl
theorem nC_cons (k : Nat) (l : List Nat) : nC (k :: l) = [.int .i64 k] :: nC l := rfl

/-- rows, as they lie: not written any more, or still -/
def Rows (x : List (List Int)) (n : Nat) (h : AH) (nv : AV) : Prop := nv = .lst 22 (rowsC x) .no ∨ ∃ nb S, nv = .slice nb 0 n n ∧ h.objs nb = some (.cells (srC S) 22) ∧ srX S = x ∧ S.length = n
theorem reach_gen (x : List (List Int)) (n a : Nat) (ha : a < n) (hn2 : n ≤ 15) (hx : InR n x) (hrl : ∀ row ∈ x, row.length ≤ 1000) (nv : AV) (K : Nat → Prop) (h : AH) (hnv : Rows x n h nv) : ACall T K (.func 11) [.int .i64 n, nv, .int .i64 a] h (fun v h' => v = .lst 4 (bL (rowF n x a)) .no ∧ h' = h) := by
  refine ACall.retQ t11 fun hK => ?_
  simp only [u_C c11.eq_1, runs, e_onS, AH.set_same, AH.set_set, List.map_cons, List.map_nil, List.length_cons, List.length_nil, List.drop_zero, List.drop_succ_cons, List.take_succ_cons, List.take_zero, List.take_nil, List.nil_append, List.cons_append, List.append_nil, List.all_cons, List.all_nil, Nat.zero_add, Nat.add_zero, ite_true, ite_false, if_true, if_false, ne_eq, not_false_eq_true, not_true_eq_false, and_true, true_and, and_self, Bool.and_true, Bool.true_and, Bool.not_true, Bool.not_false, List.getElem?_cons_zero, List.getElem?_cons_succ, Option.isSome_some, beq_self_eq_true, implies_true, forall_const, Nat.le_refl, Option.some.injEq, Option.getD_some, Option.getD_none, List.getElem?_nil, e_Lpn, e_Lpe, e_Lpr, decide_true, decide_false, Int.natCast_nonneg, Int.toNat_natCast, Int.toNat_zero, lt_irr, imp_self, false_implies, big_eq, pevA, takeA, putA, fillA, chunkA, zerosL, binA, binI, binS, isNilA, lookA, bndA, depA, depV, depM, depS, cellAt, elemAt, initA, Nat.reduceAdd, Nat.reduceLeDiff, Nat.reduceEqDiff, reduceIte, reduceCtorEq, Nat.reduceLT, Nat.reduceMul, Nat.reduceSub, Int.reduceAdd, Int.reduceSub, Int.reduceMul, Int.reduceLT, Int.reduceLE, Int.reduceEq, Int.reduceNe, Int.reduceNeg, Int.reduceToNat]
  refine WO.mksl (j := .i64) (k := .i64) (m := n) (n := n) rfl rfl (Nat.le_refl _) (by omega) (by omega) fun b hb hk => ?_
  have hc0 : (zerosL [Value.bool false] n).map ofC1 = bC (List.replicate n false) := by
    rw [zerosL_one, bC, List.map_replicate, List.map_replicate]; rfl
  simp only [runs, e_onS, AH.set_same, AH.set_set, List.map_cons, List.map_nil, List.length_cons, List.length_nil, List.drop_zero, List.drop_succ_cons, List.take_succ_cons, List.take_zero, List.take_nil, List.nil_append, List.cons_append, List.append_nil, List.all_cons, List.all_nil, Nat.zero_add, Nat.add_zero, ite_true, ite_false, if_true, if_false, ne_eq, not_false_eq_true, not_true_eq_false, and_true, true_and, and_self, Bool.and_true, Bool.true_and, Bool.not_true, Bool.not_false, List.getElem?_cons_zero, List.getElem?_cons_succ, Option.isSome_some, beq_self_eq_true, implies_true, forall_const, Nat.le_refl, Option.some.injEq, Option.getD_some, Option.getD_none, List.getElem?_nil, e_Lpn, e_Lpe, e_Lpr, decide_true, decide_false, Int.natCast_nonneg, Int.toNat_natCast, Int.toNat_zero, lt_irr, imp_self, false_implies, big_eq, pevA, takeA, putA, fillA, chunkA, zerosL, binA, binI, binS, isNilA, lookA, bndA, depA, depV, depM, depS, cellAt, elemAt, initA, Nat.reduceAdd, Nat.reduceLeDiff, Nat.reduceEqDiff, reduceIte, reduceCtorEq, Nat.reduceLT, Nat.reduceMul, Nat.reduceSub, Int.reduceAdd, Int.reduceSub, Int.reduceMul, Int.reduceLT, Int.reduceLE, Int.reduceEq, Int.reduceNe, Int.reduceNeg, Int.reduceToNat, hc0]
  refine WO.bslT (n := 1) rfl (by decide) (by decide) (by decide) fun c hc1 hc2 => ?_
  simp only [runs, e_onS, AH.set_same, AH.set_set, List.map_cons, List.map_nil, List.length_cons, List.length_nil, List.drop_zero, List.drop_succ_cons, List.take_succ_cons, List.take_zero, List.take_nil, List.nil_append, List.cons_append, List.append_nil, List.all_cons, List.all_nil, Nat.zero_add, Nat.add_zero, ite_true, ite_false, if_true, if_false, ne_eq, not_false_eq_true, not_true_eq_false, and_true, true_and, and_self, Bool.and_true, Bool.true_and, Bool.not_true, Bool.not_false, List.getElem?_cons_zero, List.getElem?_cons_succ, Option.isSome_some, beq_self_eq_true, implies_true, forall_const, Nat.le_refl, Option.some.injEq, Option.getD_some, Option.getD_none, List.getElem?_nil, e_Lpn, e_Lpe, e_Lpr, decide_true, decide_false, Int.natCast_nonneg, Int.toNat_natCast, Int.toNat_zero, lt_irr, imp_self, false_implies, big_eq, pevA, takeA, putA, fillA, chunkA, zerosL, binA, binI, binS, isNilA, lookA, bndA, depA, depV, depM, depS, cellAt, elemAt, initA, Nat.reduceAdd, Nat.reduceLeDiff, Nat.reduceEqDiff, reduceIte, reduceCtorEq, Nat.reduceLT, Nat.reduceMul, Nat.reduceSub, Int.reduceAdd, Int.reduceSub, Int.reduceMul, Int.reduceLT, Int.reduceLE, Int.reduceEq, Int.reduceNe, Int.reduceNeg, Int.reduceToNat]
  have hxl := hx.1
  refine aloop (α := List Bool × List Nat) (fun s fr h1 => fr 0 = .int .i64 n ∧ fr 1 = nv ∧ fr 7 = .slice b 0 n n ∧ RInv n x a (fun _ => False) s.1 s.2 ∧ 2 * cnt s.1 + s.2.length ≤ 31 ∧
      ∃ tag tk, fr 8 = .lst 3 (nC s.2) tag ∧ Toks h.toks tk [(tag, 3, 1, 0)] ∧ h1 = (h.set b (.cells (bC s.1) 4)).tk tk) (fun s => 2 * cnt s.1 + s.2.length) (List.replicate n false, [a]) ?_ ?_
  · refine ⟨rfl, rfl, rfl, RInv.start ha, ?_, _, _, rfl, ?_, rfl⟩
    · have := cnt_le (List.replicate n false)
      rw [List.length_replicate] at this; show 2 * cnt (List.replicate n false) + 1 ≤ 31; omega
    · exact (Toks.one h.toks 3 1).set (i := 0) (x := ⟨c, 0, 1, 1, 1, 3⟩) rfl (.inr ⟨rfl, hc1⟩) rfl ⟨rfl, by simp [Go.Cn.upd], rfl⟩
  · rintro ⟨is, q⟩ fr h1 ⟨f0, f1, f7, hI, hM, tag, tk, f8, hT, rfl⟩
    simp only at hI hM f8
    cases q with
    | nil =>
      have k0 : decide ((0 : Int) < ((0 : Nat) : Int)) = false := rfl
      simp only [u_C l11_1.eq_1, runs, e_onS, AH.set_same, AH.set_set, List.map_cons, List.map_nil, List.length_cons, List.length_nil, List.drop_zero, List.drop_succ_cons, List.take_succ_cons, List.take_zero, List.take_nil, List.nil_append, List.cons_append, List.append_nil, List.all_cons, List.all_nil, Nat.zero_add, Nat.add_zero, ite_true, ite_false, if_true, if_false, ne_eq, not_false_eq_true, not_true_eq_false, and_true, true_and, and_self, Bool.and_true, Bool.true_and, Bool.not_true, Bool.not_false, List.getElem?_cons_zero, List.getElem?_cons_succ, Option.isSome_some, beq_self_eq_true, implies_true, forall_const, Nat.le_refl, Option.some.injEq, Option.getD_some, Option.getD_none, List.getElem?_nil, e_Lpn, e_Lpe, e_Lpr, decide_true, decide_false, Int.natCast_nonneg, Int.toNat_natCast, Int.toNat_zero, lt_irr, imp_self, false_implies, big_eq, pevA, takeA, putA, fillA, chunkA, zerosL, binA, binI, binS, isNilA, lookA, bndA, depA, depV, depM, depS, cellAt, elemAt, initA, Nat.reduceAdd, Nat.reduceLeDiff, Nat.reduceEqDiff, reduceIte, reduceCtorEq, Nat.reduceLT, Nat.reduceMul, Nat.reduceSub, Int.reduceAdd, Int.reduceSub, Int.reduceMul, Int.reduceLT, Int.reduceLE, Int.reduceEq, Int.reduceNe, Int.reduceNeg, Int.reduceToNat, f0, f1, f7, f8, nC_len, k0]
      have hr := hI.done hx
      refine ⟨_, h, Frz.slice (cs := bC is) (E := 4) (by rw [tk_objs, AH.set_same]) (by rw [bC_len, hI.len]) (by omega) (by rw [big_eq]; omega) (c := .lst 4 (bL (rowF n x a)) .no) ?_ ?_, hK, rfl, rfl⟩
      · rw [← bL_of, ← hr.eq]; exact .refl _
      · rw [tk_del, AH.set_del _ _ hb]
        exact le_tk (AH.le_refl _) hT.le
    | cons k q =>
      have k0 : decide ((0 : Int) < ((q.length + 1 : Nat) : Int)) = true := decide_eq_true (by omega)
      obtain ⟨hkn, hka⟩ := hI.que k List.mem_cons_self
      have k1 : decide ((x.length : Int) ≤ (k : Int)) = false := by simp; omega
      obtain ⟨row, hrow⟩ : ∃ row, x[k]? = some row := ⟨_, List.getElem?_eq_getElem (by omega)⟩
      have hone : ∀ y ∈ [AV.int .i64 (k : Int)] :: nC q, y.length = 1 := fun y hy => by
        rw [← nC_cons] at hy
        obtain ⟨z, _, rfl⟩ := List.mem_map.1 hy; rfl
      have hl1 : (1 : Int) ≤ ((q.length + 1 : Nat) : Int) := by omega
      have htk : (nC q).take q.length = nC q := List.take_of_length_le (by rw [nC_len]; omega)
      simp only [u_C l11_1.eq_1, runs, e_onS, AH.set_same, AH.set_set, List.map_cons, List.map_nil, List.length_cons, List.length_nil, List.drop_zero, List.drop_succ_cons, List.take_succ_cons, List.take_zero, List.take_nil, List.nil_append, List.cons_append, List.append_nil, List.all_cons, List.all_nil, Nat.zero_add, Nat.add_zero, ite_true, ite_false, if_true, if_false, ne_eq, not_false_eq_true, not_true_eq_false, and_true, true_and, and_self, Bool.and_true, Bool.true_and, Bool.not_true, Bool.not_false, List.getElem?_cons_zero, List.getElem?_cons_succ, Option.isSome_some, beq_self_eq_true, implies_true, forall_const, Nat.le_refl, Option.some.injEq, Option.getD_some, Option.getD_none, List.getElem?_nil, e_Lpn, e_Lpe, e_Lpr, decide_true, decide_false, Int.natCast_nonneg, Int.toNat_natCast, Int.toNat_zero, lt_irr, imp_self, false_implies, big_eq, pevA, takeA, putA, fillA, chunkA, zerosL, binA, binI, binS, isNilA, lookA, bndA, depA, depV, depM, depS, cellAt, elemAt, initA, Nat.reduceAdd, Nat.reduceLeDiff, Nat.reduceEqDiff, reduceIte, reduceCtorEq, Nat.reduceLT, Nat.reduceMul, Nat.reduceSub, Int.reduceAdd, Int.reduceSub, Int.reduceMul, Int.reduceLT, Int.reduceLE, Int.reduceEq, Int.reduceNe, Int.reduceNeg, Int.reduceToNat, f0, f1, f7, f8, nC_len, k0, nC_cons, List.length_cons, k1, Option.map_some, Option.map_none, hl1, true_and, if_true, List.drop_one, Nat.add_sub_cancel]
      rw [if_pos hone, htk]
      have hI1 := hI.pop
      have hrowl := hrl row (List.mem_of_getElem? hrow)
      have inner : ∀ (R : CExit → AQ) (fr : AFr) (Er : TypeId) (tr : Tag), fr 0 = .int .i64 n → fr 1 = nv → fr 7 = .slice b 0 n n → fr 31 = .lst Er (lC row) tr → fr 32 = .int .i64 row.length → fr 33 = .int .i64 0 → fr 8 = .lst 3 (nC q) tag →
          (∀ (fr : AFr) is1 q1 tag tk, fr 0 = .int .i64 n → fr 1 = nv → fr 7 = .slice b 0 n n → RInv n x a (fun _ => False) is1 q1 → 2 * cnt is1 + q1.length ≤ 2 * cnt is + q.length → fr 8 = .lst 3 (nC q1) tag → Toks h.toks tk [(tag, 3, 1, 0)] → R (.exit 2) fr ((h.set b (.cells (bC is1) 4)).tk tk)) →
          W T K (.loop l11_0.toC) fr ((h.set b (.cells (bC is) 4)).tk tk) R := by
        intro R fr Er tr f0 f1 f7 f31 f32 f33 f8 hR
        refine aloop (α := Nat × List Bool × List Nat) (fun s fr h1 => fr 0 = .int .i64 n ∧ fr 1 = nv ∧ fr 7 = .slice b 0 n n ∧ fr 31 = .lst Er (lC row) tr ∧ fr 32 = .int .i64 row.length ∧ fr 33 = .int .i64 s.1 ∧ s.1 ≤ row.length ∧
            RInv n x a (fun y => y = k) s.2.1 s.2.2 ∧ 2 * cnt s.2.1 + s.2.2.length ≤ 2 * cnt is + q.length ∧ (∀ v ∈ row.take s.1, s.2.1.getD v.toNat false = true) ∧
            ∃ tag tk, fr 8 = .lst 3 (nC s.2.2) tag ∧ Toks h.toks tk [(tag, 3, 1, 0)] ∧ h1 = (h.set b (.cells (bC s.2.1) 4)).tk tk) (fun s => row.length - s.1) (0, is, q) ?_ ?_
        · exact ⟨f0, f1, f7, f31, f32, f33, Nat.zero_le _, hI1, Nat.le_refl _, by simp, tag, tk, f8, hT, rfl⟩
        · clear f0 f1 f7 f8 f31 f32 f33 hT hI
          rintro ⟨j, is1, q1⟩ fr h1 ⟨f0, f1, f7, f31, f32, f33, hj, hI, hM1, hall, tag, tk, f8, hT, rfl⟩
          simp only at f33 hj hI hM1 hall f8
          by_cases hlt : j < row.length
          · have k1 : decide ((j : Int) < (row.length : Nat)) = true := by simp; omega
            obtain ⟨v, hv⟩ : ∃ v, row[j]? = some v := ⟨_, List.getElem?_eq_getElem hlt⟩
            obtain ⟨hv0, hvn⟩ := hx.2 row (List.mem_of_getElem? hrow) v (List.mem_of_getElem? hv)
            obtain ⟨y, rfl⟩ : ∃ y : Nat, v = y := ⟨v.toNat, by omega⟩
            have d1 : decide ((y : Int) < 0) = false := by simp
            have d2 : decide ((n : Int) ≤ (y : Int)) = false := by simp; omega
            have c1 : (y : Int) < (n : Int) := hvn
            have hw : IntKind.i64.wrap ((j : Int) + 1) = ((j + 1 : Nat) : Int) := wrap64 ⟨by omega, by omega⟩
            have hgy : is1[y]? = some (is1.getD y false) := by
              have : y < is1.length := by rw [hI.len]; omega
              simp [List.getD, this]
            simp only [u_C l11_0.eq_1, runs, e_onS, AH.set_same, AH.set_set, List.map_cons, List.map_nil, List.length_cons, List.length_nil, List.drop_zero, List.drop_succ_cons, List.take_succ_cons, List.take_zero, List.take_nil, List.nil_append, List.cons_append, List.append_nil, List.all_cons, List.all_nil, Nat.zero_add, Nat.add_zero, ite_true, ite_false, if_true, if_false, ne_eq, not_false_eq_true, not_true_eq_false, and_true, true_and, and_self, Bool.and_true, Bool.true_and, Bool.not_true, Bool.not_false, List.getElem?_cons_zero, List.getElem?_cons_succ, Option.isSome_some, beq_self_eq_true, implies_true, forall_const, Nat.le_refl, Option.some.injEq, Option.getD_some, Option.getD_none, List.getElem?_nil, e_Lpn, e_Lpe, e_Lpr, decide_true, decide_false, Int.natCast_nonneg, Int.toNat_natCast, Int.toNat_zero, lt_irr, imp_self, false_implies, big_eq, pevA, takeA, putA, fillA, chunkA, zerosL, binA, binI, binS, isNilA, lookA, bndA, depA, depV, depM, depS, cellAt, elemAt, initA, Nat.reduceAdd, Nat.reduceLeDiff, Nat.reduceEqDiff, reduceIte, reduceCtorEq, Nat.reduceLT, Nat.reduceMul, Nat.reduceSub, Int.reduceAdd, Int.reduceSub, Int.reduceMul, Int.reduceLT, Int.reduceLE, Int.reduceEq, Int.reduceNe, Int.reduceNeg, Int.reduceToNat, f0, f1, f7, f8, f31, f32, f33, lC_get, hv, Option.map_some, k1, d1, d2, c1, if_true, Int.toNat_natCast, Nat.mul_one, bC_get, hgy]
            have hylt : y < is1.length := by rw [hI.len]; omega
            have hall' : ∀ is2 : List Bool, (∀ z, is1.getD z false = true → is2.getD z false = true) → is2.getD y false = true → ∀ v ∈ row.take (j + 1), is2.getD v.toNat false = true := by
              intro is2 h1 h2 v hv'
              rw [List.take_add_one, hv, Option.toList_some] at hv'
              rcases List.mem_append.1 hv' with hv' | hv'
              · exact h1 _ (hall v hv')
              · rw [List.mem_singleton.1 hv']; exact h2
            cases hd : is1.getD y false with
            | true =>
              simp only [runs, e_onS, AH.set_same, AH.set_set, List.map_cons, List.map_nil, List.length_cons, List.length_nil, List.drop_zero, List.drop_succ_cons, List.take_succ_cons, List.take_zero, List.take_nil, List.nil_append, List.cons_append, List.append_nil, List.all_cons, List.all_nil, Nat.zero_add, Nat.add_zero, ite_true, ite_false, if_true, if_false, ne_eq, not_false_eq_true, not_true_eq_false, and_true, true_and, and_self, Bool.and_true, Bool.true_and, Bool.not_true, Bool.not_false, List.getElem?_cons_zero, List.getElem?_cons_succ, Option.isSome_some, beq_self_eq_true, implies_true, forall_const, Nat.le_refl, Option.some.injEq, Option.getD_some, Option.getD_none, List.getElem?_nil, e_Lpn, e_Lpe, e_Lpr, decide_true, decide_false, Int.natCast_nonneg, Int.toNat_natCast, Int.toNat_zero, lt_irr, imp_self, false_implies, big_eq, pevA, takeA, putA, fillA, chunkA, zerosL, binA, binI, binS, isNilA, lookA, bndA, depA, depV, depM, depS, cellAt, elemAt, initA, Nat.reduceAdd, Nat.reduceLeDiff, Nat.reduceEqDiff, reduceIte, reduceCtorEq, Nat.reduceLT, Nat.reduceMul, Nat.reduceSub, Int.reduceAdd, Int.reduceSub, Int.reduceMul, Int.reduceLT, Int.reduceLE, Int.reduceEq, Int.reduceNe, Int.reduceNeg, Int.reduceToNat, f33, hw]
              exact ⟨(j + 1, is1, q1), by show row.length - (j + 1) < row.length - j; omega, f0, f1, f7, f31, f32, by simp [upd], hlt, hI, hM1, hall' is1 (fun _ h => h) hd, tag, tk, f8, hT, rfl⟩
            | false =>
              have hp : y + 1 ≤ (bC is1).length := by rw [bC_len]; omega
              have hput := bC_set is1 y true hylt
              simp only [runs, e_onS, AH.set_same, AH.set_set, List.map_cons, List.map_nil, List.length_cons, List.length_nil, List.drop_zero, List.drop_succ_cons, List.take_succ_cons, List.take_zero, List.take_nil, List.nil_append, List.cons_append, List.append_nil, List.all_cons, List.all_nil, Nat.zero_add, Nat.add_zero, ite_true, ite_false, if_true, if_false, ne_eq, not_false_eq_true, not_true_eq_false, and_true, true_and, and_self, Bool.and_true, Bool.true_and, Bool.not_true, Bool.not_false, List.getElem?_cons_zero, List.getElem?_cons_succ, Option.isSome_some, beq_self_eq_true, implies_true, forall_const, Nat.le_refl, Option.some.injEq, Option.getD_some, Option.getD_none, List.getElem?_nil, e_Lpn, e_Lpe, e_Lpr, decide_true, decide_false, Int.natCast_nonneg, Int.toNat_natCast, Int.toNat_zero, lt_irr, imp_self, false_implies, big_eq, pevA, takeA, putA, fillA, chunkA, zerosL, binA, binI, binS, isNilA, lookA, bndA, depA, depV, depM, depS, cellAt, elemAt, initA, Nat.reduceAdd, Nat.reduceLeDiff, Nat.reduceEqDiff, reduceIte, reduceCtorEq, Nat.reduceLT, Nat.reduceMul, Nat.reduceSub, Int.reduceAdd, Int.reduceSub, Int.reduceMul, Int.reduceLT, Int.reduceLE, Int.reduceEq, Int.reduceNe, Int.reduceNeg, Int.reduceToNat, f0, f1, f7, f8, f33, c1, if_true, Int.toNat_natCast, Nat.mul_one, hp, hput]
              refine ⟨hk, ?_⟩
              have hcs := cnt_set hylt hd
              refine WO.append (i := 0) hT rfl rfl rfl trivial (by decide) ?_ ?_ ?_ ?_ ?_ fun tag' t' hT' => ?_
              · simp
              · simp [oneA]
              · simp
              · intro _; simp only [capOk, nC_len, List.length_singleton]; simp at hM; omega
              · simp only [big_eq, nC_len, List.length_singleton]; simp at hM; omega
              simp only [runs, e_onS, AH.set_same, AH.set_set, List.map_cons, List.map_nil, List.length_cons, List.length_nil, List.drop_zero, List.drop_succ_cons, List.take_succ_cons, List.take_zero, List.take_nil, List.nil_append, List.cons_append, List.append_nil, List.all_cons, List.all_nil, Nat.zero_add, Nat.add_zero, ite_true, ite_false, if_true, if_false, ne_eq, not_false_eq_true, not_true_eq_false, and_true, true_and, and_self, Bool.and_true, Bool.true_and, Bool.not_true, Bool.not_false, List.getElem?_cons_zero, List.getElem?_cons_succ, Option.isSome_some, beq_self_eq_true, implies_true, forall_const, Nat.le_refl, Option.some.injEq, Option.getD_some, Option.getD_none, List.getElem?_nil, e_Lpn, e_Lpe, e_Lpr, decide_true, decide_false, Int.natCast_nonneg, Int.toNat_natCast, Int.toNat_zero, lt_irr, imp_self, false_implies, big_eq, pevA, takeA, putA, fillA, chunkA, zerosL, binA, binI, binS, isNilA, lookA, bndA, depA, depV, depM, depS, cellAt, elemAt, initA, Nat.reduceAdd, Nat.reduceLeDiff, Nat.reduceEqDiff, reduceIte, reduceCtorEq, Nat.reduceLT, Nat.reduceMul, Nat.reduceSub, Int.reduceAdd, Int.reduceSub, Int.reduceMul, Int.reduceLT, Int.reduceLE, Int.reduceEq, Int.reduceNe, Int.reduceNeg, Int.reduceToNat, f33, hw]
              refine ⟨(j + 1, is1.set y true, q1 ++ [y]), by show row.length - (j + 1) < row.length - j; omega, f0, f1, f7, f31, f32, by simp [upd], hlt, ?_, ?_, ?_, tag', t', ?_, hT', rfl⟩
              · refine hI.push (by omega) ?_
                have he : Ed x k y := ⟨row, hrow, List.mem_of_getElem? hv⟩
                rcases hka with rfl | hka
                · exact .one he
                · exact .snoc hka he
              · show 2 * cnt (is1.set y true) + (q1 ++ [y]).length ≤ _
                rw [List.length_append, List.length_singleton]; omega
              · exact hall' _ (fun z hz => getD_set.2 (.inl hz)) (getD_set.2 (.inr ⟨rfl, hylt⟩))
              · simp only [e_upd, reduceIte, Nat.reduceEqDiff, nC_app]; rfl
          · have k1 : decide ((j : Int) < (row.length : Nat)) = false := by simp; omega
            simp only [u_C l11_0.eq_1, runs, e_onS, AH.set_same, AH.set_set, List.map_cons, List.map_nil, List.length_cons, List.length_nil, List.drop_zero, List.drop_succ_cons, List.take_succ_cons, List.take_zero, List.take_nil, List.nil_append, List.cons_append, List.append_nil, List.all_cons, List.all_nil, Nat.zero_add, Nat.add_zero, ite_true, ite_false, if_true, if_false, ne_eq, not_false_eq_true, not_true_eq_false, and_true, true_and, and_self, Bool.and_true, Bool.true_and, Bool.not_true, Bool.not_false, List.getElem?_cons_zero, List.getElem?_cons_succ, Option.isSome_some, beq_self_eq_true, implies_true, forall_const, Nat.le_refl, Option.some.injEq, Option.getD_some, Option.getD_none, List.getElem?_nil, e_Lpn, e_Lpe, e_Lpr, decide_true, decide_false, Int.natCast_nonneg, Int.toNat_natCast, Int.toNat_zero, lt_irr, imp_self, false_implies, big_eq, pevA, takeA, putA, fillA, chunkA, zerosL, binA, binI, binS, isNilA, lookA, bndA, depA, depV, depM, depS, cellAt, elemAt, initA, Nat.reduceAdd, Nat.reduceLeDiff, Nat.reduceEqDiff, reduceIte, reduceCtorEq, Nat.reduceLT, Nat.reduceMul, Nat.reduceSub, Int.reduceAdd, Int.reduceSub, Int.reduceMul, Int.reduceLT, Int.reduceLE, Int.reduceEq, Int.reduceNe, Int.reduceNeg, Int.reduceToNat, f0, f1, f7, f8, f31, f32, f33, k1]
            refine hR _ is1 q1 tag tk f0 f1 f7 (hI.over fun y hy => ?_) hM1 f8 hT
            obtain ⟨row', h1, h2⟩ := hy
            rw [hrow] at h1
            cases h1
            have := hall y (by rw [List.take_of_length_le (by omega)]; exact h2)
            simpa using this
      have hend : ∀ (fr : AFr) is1 q1 tag tk, fr 0 = .int .i64 n → fr 1 = nv → fr 7 = .slice b 0 n n → RInv n x a (fun _ => False) is1 q1 → 2 * cnt is1 + q1.length ≤ 2 * cnt is + q.length → fr 8 = .lst 3 (nC q1) tag → Toks h.toks tk [(tag, 3, 1, 0)] →
          Nxt (fun (s : List Bool × List Nat) fr h1 => fr 0 = .int .i64 n ∧ fr 1 = nv ∧ fr 7 = .slice b 0 n n ∧ RInv n x a (fun _ => False) s.1 s.2 ∧ 2 * cnt s.1 + s.2.length ≤ 31 ∧ ∃ tag tk, fr 8 = .lst 3 (nC s.2) tag ∧ Toks h.toks tk [(tag, 3, 1, 0)] ∧ h1 = (h.set b (.cells (bC s.1) 4)).tk tk) (fun s => 2 * cnt s.1 + s.2.length) (is, k :: q) fr ((h.set b (.cells (bC is1) 4)).tk tk) :=
        fun fr is1 q1 tag tk f0 f1 f7 hI hM1 f8 hT => ⟨(is1, q1), by show 2 * cnt is1 + q1.length < 2 * cnt is + (k :: q).length; rw [List.length_cons]; omega, f0, f1, f7, hI, by simp at hM; show 2 * cnt is1 + q1.length ≤ 31; omega, tag, tk, f8, hT, rfl⟩
      rcases hnv with rfl | ⟨nb, S, rfl, hnb, hSx, hSl⟩
      · simp only [runs, e_onS, AH.set_same, AH.set_set, List.map_cons, List.map_nil, List.length_cons, List.length_nil, List.drop_zero, List.drop_succ_cons, List.take_succ_cons, List.take_zero, List.take_nil, List.nil_append, List.cons_append, List.append_nil, List.all_cons, List.all_nil, Nat.zero_add, Nat.add_zero, ite_true, ite_false, if_true, if_false, ne_eq, not_false_eq_true, not_true_eq_false, and_true, true_and, and_self, Bool.and_true, Bool.true_and, Bool.not_true, Bool.not_false, List.getElem?_cons_zero, List.getElem?_cons_succ, Option.isSome_some, beq_self_eq_true, implies_true, forall_const, Nat.le_refl, Option.some.injEq, Option.getD_some, Option.getD_none, List.getElem?_nil, e_Lpn, e_Lpe, e_Lpr, decide_true, decide_false, Int.natCast_nonneg, Int.toNat_natCast, Int.toNat_zero, lt_irr, imp_self, false_implies, big_eq, pevA, takeA, putA, fillA, chunkA, zerosL, binA, binI, binS, isNilA, lookA, bndA, depA, depV, depM, depS, cellAt, elemAt, initA, Nat.reduceAdd, Nat.reduceLeDiff, Nat.reduceEqDiff, reduceIte, reduceCtorEq, Nat.reduceLT, Nat.reduceMul, Nat.reduceSub, Int.reduceAdd, Int.reduceSub, Int.reduceMul, Int.reduceLT, Int.reduceLE, Int.reduceEq, Int.reduceNe, Int.reduceNeg, Int.reduceToNat, f0, f1, f7, f8, nC_len, rowsC_len, k1, rowsC_get, hrow, Option.map_some, lC_len]
        refine inner _ _ 3 .no f0 f1 f7 rfl rfl rfl rfl fun fr is1 q1 tag tk f0 f1 f7 hI hM1 f8 hT => ?_
        simp only [runs, e_onS, AH.set_same, AH.set_set, List.map_cons, List.map_nil, List.length_cons, List.length_nil, List.drop_zero, List.drop_succ_cons, List.take_succ_cons, List.take_zero, List.take_nil, List.nil_append, List.cons_append, List.append_nil, List.all_cons, List.all_nil, Nat.zero_add, Nat.add_zero, ite_true, ite_false, if_true, if_false, ne_eq, not_false_eq_true, not_true_eq_false, and_true, true_and, and_self, Bool.and_true, Bool.true_and, Bool.not_true, Bool.not_false, List.getElem?_cons_zero, List.getElem?_cons_succ, Option.isSome_some, beq_self_eq_true, implies_true, forall_const, Nat.le_refl, Option.some.injEq, Option.getD_some, Option.getD_none, List.getElem?_nil, e_Lpn, e_Lpe, e_Lpr, decide_true, decide_false, Int.natCast_nonneg, Int.toNat_natCast, Int.toNat_zero, lt_irr, imp_self, false_implies, big_eq, pevA, takeA, putA, fillA, chunkA, zerosL, binA, binI, binS, isNilA, lookA, bndA, depA, depV, depM, depS, cellAt, elemAt, initA, Nat.reduceAdd, Nat.reduceLeDiff, Nat.reduceEqDiff, reduceIte, reduceCtorEq, Nat.reduceLT, Nat.reduceMul, Nat.reduceSub, Int.reduceAdd, Int.reduceSub, Int.reduceMul, Int.reduceLT, Int.reduceLE, Int.reduceEq, Int.reduceNe, Int.reduceNeg, Int.reduceToNat]
        exact hend fr is1 q1 tag tk f0 f1 f7 hI hM1 f8 hT
      · have hne : nb ≠ b := fun e => by rw [e, hb] at hnb; cases hnb
        have k1' : decide ((n : Int) ≤ (k : Int)) = false := by simp; omega
        have ck : (k : Int) < (n : Int) := by omega
        obtain ⟨s, hs⟩ : ∃ s, S[k]? = some s := ⟨_, List.getElem?_eq_getElem (by omega)⟩
        have hsr : s.2.1 = row := by
          have : (srX S)[k]? = some s.2.1 := by rw [srX, List.getElem?_map, hs]; rfl
          rw [hSx, hrow] at this
          cases this; rfl
        simp only [runs, e_onS, AH.set_same, AH.set_set, List.map_cons, List.map_nil, List.length_cons, List.length_nil, List.drop_zero, List.drop_succ_cons, List.take_succ_cons, List.take_zero, List.take_nil, List.nil_append, List.cons_append, List.append_nil, List.all_cons, List.all_nil, Nat.zero_add, Nat.add_zero, ite_true, ite_false, if_true, if_false, ne_eq, not_false_eq_true, not_true_eq_false, and_true, true_and, and_self, Bool.and_true, Bool.true_and, Bool.not_true, Bool.not_false, List.getElem?_cons_zero, List.getElem?_cons_succ, Option.isSome_some, beq_self_eq_true, implies_true, forall_const, Nat.le_refl, Option.some.injEq, Option.getD_some, Option.getD_none, List.getElem?_nil, e_Lpn, e_Lpe, e_Lpr, decide_true, decide_false, Int.natCast_nonneg, Int.toNat_natCast, Int.toNat_zero, lt_irr, imp_self, false_implies, big_eq, pevA, takeA, putA, fillA, chunkA, zerosL, binA, binI, binS, isNilA, lookA, bndA, depA, depV, depM, depS, cellAt, elemAt, initA, Nat.reduceAdd, Nat.reduceLeDiff, Nat.reduceEqDiff, reduceIte, reduceCtorEq, Nat.reduceLT, Nat.reduceMul, Nat.reduceSub, Int.reduceAdd, Int.reduceSub, Int.reduceMul, Int.reduceLT, Int.reduceLE, Int.reduceEq, Int.reduceNe, Int.reduceNeg, Int.reduceToNat, f0, f1, f7, f8, nC_len, k1', ck, if_true, Int.toNat_natCast, Nat.mul_one, s_objs hne, hnb, srC_get, hs, hsr, Option.map_some, lC_len]
        refine inner _ _ s.1 s.2.2 f0 f1 f7 rfl rfl rfl rfl fun fr is1 q1 tag tk f0 f1 f7 hI hM1 f8 hT => ?_
        simp only [runs, e_onS, AH.set_same, AH.set_set, List.map_cons, List.map_nil, List.length_cons, List.length_nil, List.drop_zero, List.drop_succ_cons, List.take_succ_cons, List.take_zero, List.take_nil, List.nil_append, List.cons_append, List.append_nil, List.all_cons, List.all_nil, Nat.zero_add, Nat.add_zero, ite_true, ite_false, if_true, if_false, ne_eq, not_false_eq_true, not_true_eq_false, and_true, true_and, and_self, Bool.and_true, Bool.true_and, Bool.not_true, Bool.not_false, List.getElem?_cons_zero, List.getElem?_cons_succ, Option.isSome_some, beq_self_eq_true, implies_true, forall_const, Nat.le_refl, Option.some.injEq, Option.getD_some, Option.getD_none, List.getElem?_nil, e_Lpn, e_Lpe, e_Lpr, decide_true, decide_false, Int.natCast_nonneg, Int.toNat_natCast, Int.toNat_zero, lt_irr, imp_self, false_implies, big_eq, pevA, takeA, putA, fillA, chunkA, zerosL, binA, binI, binS, isNilA, lookA, bndA, depA, depV, depM, depS, cellAt, elemAt, initA, Nat.reduceAdd, Nat.reduceLeDiff, Nat.reduceEqDiff, reduceIte, reduceCtorEq, Nat.reduceLT, Nat.reduceMul, Nat.reduceSub, Int.reduceAdd, Int.reduceSub, Int.reduceMul, Int.reduceLT, Int.reduceLE, Int.reduceEq, Int.reduceNe, Int.reduceNeg, Int.reduceToNat]
        exact hend fr is1 q1 tag tk f0 f1 f7 hI hM1 f8 hT
theorem reach_ok (x : List (List Int)) (n a : Nat) (ha : a < n) (hn2 : n ≤ 15) (hx : InR n x) (hrl : ∀ row ∈ x, row.length ≤ 1000) : Pure T 11 [.int .i64 n, .lst 22 (rowsC x) .no, .int .i64 a] (.lst 4 (bL (rowF n x a)) .no) :=
  fun K h => reach_gen x n a ha hn2 hx hrl _ K h (.inl rfl)
end Go.Proofs.Ytplnafebmpldgaa.p
