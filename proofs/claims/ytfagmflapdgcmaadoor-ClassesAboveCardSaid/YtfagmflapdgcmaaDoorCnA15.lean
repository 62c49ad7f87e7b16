/- Maps' entries, one by one, in whatever order. -/
import Derived.Test.YtfagmflapdgcmaaDoorCnA14
namespace Go.Cn
set_option linter.unusedVariables false
set_option linter.unusedSimpArgs false

/-- keys that are told apart -/
def keysA (es : List (AV × AV)) : Prop := (∀ e ∈ es, keyEqA e.1 e.1 = some true) ∧ es.Pairwise fun a b => keyEqA a.1 b.1 = some false

section
variable {F : Nat → Nat} {σ : CW}

theorem keyV_rp {a : AV} {u : Value} (h : keyV a = some u) : Rp F σ a u := by
  cases a <;> simp only [keyV, Option.some.injEq, reduceCtorEq] at h <;> subst h
  · exact .int _ _
  · exact .str _
theorem keyEq_V {a b : AV} {u v : Value} {r : Bool} (ha : keyV a = some u) (hb : keyV b = some v) (h : keyEqA a b = some r) : keyEq u v = some r :=
  keyEq_rp (F := fun _ => 0) (σ := ⟨fun _ => none, 0, 0, 0, fun _ => none⟩) h (keyV_rp ha) hb

theorem KeysIt.of {es : List (AV × AV)} {es' : List (Value × Value)} (hE : EntR F σ es es') (hk : keysA es) : KeysIt es' := by
  have hlen := hE.1
  have hk2 : ∀ i (p : AV × AV) (q : Value × Value), es[i]? = some p → es'[i]? = some q → keyV p.1 = some q.1 := fun i p q hp hq => (hE.2 i p q hp hq).1
  clear hE
  obtain ⟨h1, h2⟩ := hk
  refine ⟨fun e he => ?_, ?_⟩
  · obtain ⟨i, hi⟩ := List.getElem?_of_mem he
    have hil : i < es.length := by rw [hlen]; exact (List.getElem?_eq_some_iff.1 hi).1
    have hv := hk2 i es[i] e (by simp [hil]) hi
    exact keyEq_V hv hv (h1 _ (List.getElem_mem hil))
  · rw [List.pairwise_iff_getElem] at h2 ⊢
    intro i j hi hj hij
    have hi' : i < es.length := by omega
    have hj' : j < es.length := by omega
    exact keyEq_V (hk2 i es[i] es'[i] (by simp [hi']) (by simp [hi])) (hk2 j es[j] es'[j] (by simp [hj']) (by simp [hj])) (h2 i j hi' hj' hij)

theorem leftL_nil (es : List (Value × Value)) : leftL [] es = es := by simp [leftL]
theorem leftL_sub {seen : List Value} {es : List (Value × Value)} : (leftL seen es).Sublist es := List.filter_sublist
theorem keyEq_symm {u v : Value} {r : Bool} (h : keyEq u v = some r) : keyEq v u = some r := by
  unfold keyEq at h ⊢
  split at h
  · rename_i a b
    cases h
    simp only [Option.some.injEq]
    rw [Bool.eq_iff_iff]
    simp only [beq_iff_eq]
    exact ⟨fun h => h.symm, fun h => h.symm⟩
  · rename_i j a k b
    split at h
    · rename_i e
      cases h
      have e' : j = k := by simpa using e
      subst e'
      simp only [beq_self_eq_true, if_true, Option.some.injEq]
      rw [Bool.eq_iff_iff]
      simp only [beq_iff_eq]
      exact ⟨fun h => h.symm, fun h => h.symm⟩
    · cases h
  · cases h

theorem leftL_cons {seen : List Value} {es pre post : List (Value × Value)} {k x : Value} (hk : KeysIt es) (h : leftL seen es = pre ++ (k, x) :: post) : leftL (k :: seen) es = pre ++ post := by
  have h1 : leftL (k :: seen) es = (leftL seen es).filter fun e => !(keyEq k e.1 == some true) := by
    unfold leftL
    rw [List.filter_filter]
    apply List.filter_congr
    intro e _
    rw [List.all_cons]
  have hp : (leftL seen es).Pairwise fun a b => keyEq a.1 b.1 = some false := hk.2.sublist leftL_sub
  rw [h1, h]
  rw [h] at hp
  have hself : keyEq k k = some true := hk.1 (k, x) (leftL_sub.subset (by rw [h]; simp))
  obtain ⟨p1, p2, p3⟩ := List.pairwise_append.1 hp
  obtain ⟨p4, p5⟩ := List.pairwise_cons.1 p2
  have f1 : pre.filter (fun e => !(keyEq k e.1 == some true)) = pre := List.filter_eq_self.2 fun e he => by
    have := keyEq_symm (p3 e he (k, x) (by simp))
    simp only at this
    rw [this]; rfl
  have f2 : post.filter (fun e => !(keyEq k e.1 == some true)) = post := List.filter_eq_self.2 fun e he => by
    have := p4 e he
    simp only at this
    rw [this]; rfl
  rw [List.filter_append, List.filter_cons, f1, f2]
  simp [hself]

theorem look_first : ∀ {es : List (Value × Value)} {k x : Value}, KeysIt es → (k, x) ∈ es → look k es = some (some x)
  | [], k, x, _, h => by cases h
  | (k', x') :: l, k, x, hk, h => by
    obtain ⟨h1, h2⟩ := hk
    obtain ⟨h3, h4⟩ := List.pairwise_cons.1 h2
    rcases List.mem_cons.1 h with e | h
    · cases e
      have := h1 (k', x') (by simp)
      simp only at this
      simp only [look, this]
    · have := keyEq_symm (h3 _ h)
      simp only at this
      simp only [look, this]
      exact look_first ⟨fun e he => h1 e (by simp [he]), h4⟩ h

end

section
variable {T : Nat → Option CFun} {K : Nat → Prop} {fr : AFr} {h : AH}

/-- The entries of a map that is written no more: a range over them begins. -/
theorem WO.range {x : Operand} {es : List (AV × AV)} {Q : AV → AH → Prop} (hx : evA fr x = .fmap es ∨ evA fr x = .nilm ∧ es = []) (hk : keysA es) (hq : ∀ b, h.objs b = none → ¬ K b → Q (.ptr b 0) (h.set b (.iter es none))) : WO T K (.e (.range x)) fr h Q := by
  intro F σ ρ hA hK hρ
  have hlt : ∀ b, K b → b < σ.next := fun b hb => let ⟨o, ho⟩ := hK b hb; hA.lt ho
  have hv := hρ x
  have fin : ∀ obj, FreshO σ obj → (∀ F', F' σ.next = 0 → Ext K F σ F' (σ.add obj) → AOk F' (σ.add obj) σ.next (.iter es none)) → ∃ F' a h', Ext K F σ F' (σ.add obj) ∧ AR F' h' (σ.add obj) ∧ KOk K h' ∧ Rp F' (σ.add obj) a (.pointer (some ⟨σ.next, 0, none⟩)) ∧ Q a h' := by
    intro obj hf ho
    have hx := Ext.add hA (o := obj) 0 hlt
    have hA1 : AR (upd F σ.next 0) h (σ.add obj) := hA.add hf fun h => absurd h (by omega)
    refine ⟨upd F σ.next 0, .ptr σ.next 0, h.set σ.next (.iter es none), hx, hA1.learn' hA.inv hf (ho _ (upd_same _ _ _) hx) hA.onext hA.tnext, fun b hb => ?_, .ptr _ _, hq _ hA.onext fun hk => absurd (hlt _ hk) (by omega)⟩
    obtain ⟨o', ho'⟩ := hK b hb
    exact ⟨o', by rw [AH.set_ne _ _ (by have := hA.lt ho'; omega)]; exact ho'⟩
  have none_case : ρ x = .map none → es = [] → OpW (CallA T) (.e (.range x)) ρ σ fun v σ' => ∃ F' a h', Ext K F σ F' σ' ∧ AR F' h' σ' ∧ KOk K h' ∧ Rp F' σ' a v ∧ Q a h' := by
    intro e e2
    subst e2
    exact ⟨_, σ.add (.iter none 0 []), by simp only [eev, e], fin (.iter none 0 []) trivial fun F' hF hx => ⟨hF, hA.inv.rol, .inl ⟨0, [], by rw [add_heap, if_pos rfl], rfl, rfl⟩⟩⟩
  rcases hx with hx | ⟨hx, he⟩
  · rw [hx] at hv
    generalize hv' : ρ x = v at hv
    cases hv with
    | fmap0 => exact none_case hv' rfl
    | @fmap _ es' m ver hb hF hl hkv hvv =>
      have hE : EntR F σ es es' := ⟨hl, fun i p q hp hq => ⟨hkv i p q hp hq, hvv i p q hp hq⟩⟩
      refine ⟨_, σ.add (.iter (some m) ver []), by simp only [eev, hv', hb], fin (.iter (some m) ver []) trivial fun F' hF' hx => ⟨hF', hA.inv.rol, .inr ⟨m, ver, [], es', by rw [add_heap, if_pos rfl], ?_, ?_, KeysIt.of hE hk, by rw [leftL_nil]; exact hE.ext hx, fun k x e => by cases e⟩⟩⟩
      · exact hx.map m _ _ hF hb
      · exact Nat.lt_of_lt_of_le hF (hx.up m)
  · rw [hx] at hv
    generalize hv' : ρ x = v at hv
    cases hv with
    | nilm => exact none_case hv' he

/-- The next entry, whichever it is. -/
theorem WO.next {x : Operand} {b : Nat} {todo : List (AV × AV)} {cur : Option (AV × AV)} {Q : AV → AH → Prop} (hx : evA fr x = .ptr b 0) (hb : h.objs b = some (.iter todo cur)) (hkb : ¬ K b)
    (hq0 : todo = [] → Q (.tuple [.bool false]) h) (hq1 : ∀ pre k v post, todo = pre ++ (k, v) :: post → Q (.tuple [.bool true, k, v]) (h.set b (.iter (pre ++ post) (some (k, v))))) : WO T K (.e (.next x)) fr h Q := by
  intro F σ ρ hA hK hρ
  have hv := hρ x
  rw [hx] at hv
  generalize hv' : ρ x = w at hv
  cases hv
  simp only [OpW]
  rw [hv']
  obtain ⟨hF, hro, hor⟩ := hA.obj b _ hb
  have tup : ∀ {F' : Nat → Nat} {σ' : CW} {l : List AV} {l' : List Value}, RpL F' σ' l l' → Rp F' σ' (.tuple l) (.tuple l'.toArray) := fun hl => .tuple (by simpa using hl.1) fun i x y hx hy => hl.2 i x y hx (by simpa using hy)
  rcases hor with ⟨ver, seen, h1, h2, h3⟩ | ⟨m, ver, seen, es', h1, h2, h3, h4, h5, h6⟩
  · simp only [nextW, h1]
    exact ⟨F, _, h, .refl, hA, hK, tup (l' := [.bool false]) (.cons (.bool _) .nil), hq0 h2⟩
  · simp only [nextW, h1, h2]
    refine ⟨trivial, hro, h4.1, fun hn => ?_, fun k x hkx => ?_⟩
    · have : todo = [] := List.length_eq_zero_iff.1 (by rw [h5.1, hn]; rfl)
      exact ⟨F, _, h, .refl, hA, hK, tup (l' := [.bool false]) (.cons (.bool _) .nil), hq0 this⟩
    · obtain ⟨pre', post', hs⟩ := List.append_of_mem hkx
      have hlen : todo.length = pre'.length + (post'.length + 1) := by rw [h5.1, hs]; simp
      have hil : pre'.length < todo.length := by omega
      have hget : (leftL seen es')[pre'.length]? = some (k, x) := by rw [hs]; simp
      obtain ⟨g1, g2⟩ := h5.2 pre'.length todo[pre'.length] (k, x) (by simp [hil]) hget
      have hsplit : todo = todo.take pre'.length ++ todo[pre'.length] :: todo.drop (pre'.length + 1) := by
        rw [List.getElem_cons_drop, List.take_append_drop]
      have hE : EntR F σ (todo.take pre'.length ++ todo.drop (pre'.length + 1)) (pre' ++ post') := by
        refine ⟨by simp; omega, fun i p q hp hq => ?_⟩
        by_cases hi : i < pre'.length
        · rw [List.getElem?_append_left (by simp; omega), List.getElem?_take, if_pos hi] at hp
          rw [List.getElem?_append_left hi] at hq
          exact h5.2 i p q hp (by rw [hs, List.getElem?_append_left hi]; exact hq)
        · have hml : min pre'.length todo.length = pre'.length := by omega
          rw [List.getElem?_append_right (by simp; omega), List.getElem?_drop, List.length_take, hml] at hp
          rw [List.getElem?_append_right (by omega)] at hq
          refine h5.2 (i + 1) p q ?_ ?_
          · rw [← hp]; congr 1; omega
          · rw [hs, List.getElem?_append_right (by omega), show i + 1 - pre'.length = (i - pre'.length) + 1 by omega, List.getElem?_cons_succ]; exact hq
      have hmem : (k, x) ∈ es' := leftL_sub.subset hkx
      have hset : ∀ hx : Ext (fun _ => False) F σ F (σ.set b (.iter (some m) ver (k :: seen))), AOk F (σ.set b (.iter (some m) ver (k :: seen))) b (.iter (todo.take pre'.length ++ todo.drop (pre'.length + 1)) (some todo[pre'.length])) := by
        intro hx
        have hmb : m ≠ b := by rintro rfl; rw [h1] at h2; cases h2
        refine ⟨hF, hro, .inr ⟨m, ver, k :: seen, es', by rw [set_heap, if_pos rfl], by rw [set_heap, if_neg hmb]; exact h2, h3, h4, ?_, ?_⟩⟩
        · rw [leftL_cons h4 hs]; exact hE.ext hx
        · intro ka xa e
          injection e with e
          rw [e] at g1 g2
          exact ⟨k, seen, x, rfl, g1, look_first h4 hmem, g2.ext hx⟩
      obtain ⟨u1, u2⟩ := hA.setO (K := K) (o2 := .iter (some m) ver (k :: seen)) hb hF h1 rfl rfl hkb hset
      exact ⟨F, _, _, u2, u1, hK.set _ _, tup (l' := [.bool true, k, x]) (.cons (.bool _) (.cons (keyV_rp g1) (.cons (g2.ext u2) .nil))), hq1 _ _ _ _ hsplit⟩
end
end Go.Cn
