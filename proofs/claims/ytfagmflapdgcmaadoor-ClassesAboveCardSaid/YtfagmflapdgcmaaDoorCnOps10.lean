/- Ranges over maps; the capacity of what is nil. -/
import Derived.Test.YtfagmflapdgcmaaDoorCnOps9
import Derived.Maps.RangeRun
namespace Go.Cn
set_option linter.unusedVariables false
set_option linter.unusedSimpArgs false
open Go.ChangeMaps (setBlock)

theorem keyEq_true_eq {a b : Value} (h : keyEq a b = some true) : a = b := by
  unfold keyEq at h
  split at h
  · rename_i x y
    simp only [Option.some.injEq, beq_iff_eq] at h
    obtain ⟨⟨x⟩⟩ := x
    obtain ⟨⟨y⟩⟩ := y
    simp only at h
    rw [h]
  · split at h
    · rename_i e
      simp only [Option.some.injEq, beq_iff_eq] at h e
      rw [e, h]
    · cases h
  · cases h

theorem keysOk_uni : ∀ {es : List (Value × Value)}, KeysOk es → ∀ {x y : Value × Value}, x ∈ es → y ∈ es → x.1 = y.1 → keyEq x.1 x.1 = some true → x = y
  | [], _, _, _, h, _, _, _ => by cases h
  | z :: es, hk, x, y, hx, hy, e, hs => by
    obtain ⟨h1, h2⟩ := List.pairwise_cons.1 hk
    rcases List.mem_cons.1 hx with rfl | hx'
    · rcases List.mem_cons.1 hy with rfl | hy'
      · rfl
      · have := h1 y hy'; rw [← e, hs] at this; cases this
    · rcases List.mem_cons.1 hy with rfl | hy'
      · have := h1 x hx'; rw [← e, hs] at this; cases this
      · exact keysOk_uni h2 hx' hy' e hs

theorem ERel.mem_l {P : Program} {β : Ren} {es : List (Value × Value)} {l : List MapEntry} (h : ERel P β es l) {x : Value × Value} (hx : x ∈ es) : ∃ e ∈ l, e.key = x.1 ∧ VRel P β x.2 e.val := by
  induction h with
  | nil => cases hx
  | cons hk hv t ih =>
    rcases List.mem_cons.1 hx with rfl | hx
    · exact ⟨_, by simp, hk, hv⟩
    · obtain ⟨e, h1, h2⟩ := ih hx; exact ⟨e, by simp [h1], h2⟩

theorem MapRel.mem {P : Program} {β : Ren} {es : List (Value × Value)} {es' : Array MapEntry} (h : MapRel P β es es') {e : MapEntry} (he : e ∈ es'.toList) : ∃ v, (e.key, v) ∈ es ∧ VRel P β v e.val :=
  let ⟨_, l, hp, hr⟩ := h
  hr.mem (hp.mem_iff.1 he)
theorem MapRel.mem_l {P : Program} {β : Ren} {es : List (Value × Value)} {es' : Array MapEntry} (h : MapRel P β es es') {x : Value × Value} (hx : x ∈ es) : ∃ e ∈ es'.toList, e.key = x.1 ∧ VRel P β x.2 e.val :=
  let ⟨_, l, hp, hr⟩ := h
  let ⟨e, h1, h2⟩ := hr.mem_l hx
  ⟨e, hp.mem_iff.2 h1, h2⟩

theorem nodup_map_inj {α γ : Type} {f : α → γ} : ∀ {l : List α}, (l.map f).Nodup → ∀ {x y : α}, x ∈ l → y ∈ l → f x = f y → x = y
  | [], _, _, _, h, _, _ => by cases h
  | z :: l, hn, x, y, hx, hy, e => by
    rw [List.map_cons, List.nodup_cons] at hn
    rcases List.mem_cons.1 hx with rfl | hx'
    · rcases List.mem_cons.1 hy with rfl | hy'
      · rfl
      · exact absurd (List.mem_map.2 ⟨y, hy', e.symm⟩) hn.1
    · rcases List.mem_cons.1 hy with rfl | hy'
      · exact absurd (List.mem_map.2 ⟨x, hx', e⟩) hn.1
      · exact nodup_map_inj hn.2 hx' hy' e

section ops
variable {P : Program} {β : Ren} {σ σ' : CW} {w : World} {ev' ρ : Operand → Value} {o : Oper} {v : Value}

theorem p_cap {c : Call} {t : TypeId} {e : TypeId} {x : Operand} (ho : o.op = .call c) (hc : c.callee = .builtin .cap) (ht : c.argTypes = #[t]) (ha : c.args = #[x]) (hu : P.underlying t = some (.slice e))
    (hx : VRel P β (ev' x) (ρ x)) (hp : pev (.capV x) ev' σ = some v) : Gives P ρ o w β v := by
  simp only [pev, nilCap] at hp
  split at hp
  · rename_i a n cap e
    split at hp
    · rename_i hn
      cases hp
      cases a with
      | some a => cases hn
      | none =>
        obtain ⟨rfl, rfl, q⟩ := (e ▸ hx).nilSlice_inv
        exact ⟨.int .i64 0, by simp [execOp, ho, resolve, hc, ha, ht, invoke, builtin, Builtin.cap_, r_und hu, q, goInt], .int _ _⟩
    · cases hp
  · cases hp

theorem iter_inv {β : Ren} {i : BI} {m : Option Nat} {ver : Nat} {seen : List Value} {o' : Option Obj} (h : ObjRel P β i (.iter m ver seen) o') : ∃ m' s n l, o' = some (.mapIter m' s n l) ∧ i.sh = 0 ∧ m.isSome = m'.isSome := by
  cases o' with
  | none => exact h.elim
  | some o' =>
    cases o' <;> first | exact h.elim | skip
    exact ⟨_, _, _, _, rfl, h.1, h.2⟩

/-- 'range m' -/
theorem e_range {t k e : TypeId} {x : Operand} (h : Rel P β σ w) (ho : o.op = .range t x) (ht : P.underlying t = some (.map k e)) (hx : VRel P β (ev' x) (ρ x)) (hp : eev (.range x) ev' σ = some (v, σ')) : Does P ρ o β σ w v σ' := by
  simp only [eev] at hp
  have hptr : VRel P (upd β σ.next (some ⟨w.heap.size, 0, 0, 0, true⟩)) (.pointer (some ⟨σ.next, 0, none⟩)) (.pointer (some ⟨w.heap.size, 0, none⟩)) := by
    have := VRel.ptr (P := P) (β := upd β σ.next (some ⟨w.heap.size, 0, 0, 0, true⟩)) (off := 0) (upd_same β σ.next (some ⟨w.heap.size, 0, 0, 0, true⟩))
    simpa using this
  split at hp
  · rename_i ex
    simp only [Option.some.injEq, Prod.mk.injEq] at hp
    obtain ⟨rfl, rfl⟩ := hp
    have q := (ex ▸ hx).nilMap_inv
    refine ⟨_, w.alloc (.mapIter none 0 #[] 0), _, ?_, .inl ⟨_, rfl, hptr⟩, h.allocI (i := ⟨w.heap.size, 0, 0, 0, true⟩) rfl rfl rfl rfl rfl trivial ⟨rfl, rfl⟩ fun m ver seen e => by cases e⟩
    simp only [execOp, ho, q, run_range_nilMap w t k e ht, Sem.run_bind, Result.andThen]
    rfl
  · rename_i m ex
    split at hp
    · rename_i es ver hm
      simp only [Option.some.injEq, Prod.mk.injEq] at hp
      obtain ⟨rfl, rfl⟩ := hp
      obtain ⟨i, hi, q⟩ := (ex ▸ hx).map_inv
      obtain ⟨es', clock, hB, hmr, hbo⟩ := h.mapB hm hi
      refine ⟨_, w.alloc (.mapIter (some i.B) clock #[] clock), _, ?_, .inl ⟨_, rfl, hptr⟩, h.allocI (i := ⟨w.heap.size, 0, 0, 0, true⟩) rfl rfl rfl rfl rfl trivial ⟨rfl, rfl⟩ fun m' ver' seen' e => ?_⟩
      · simp only [execOp, ho, q, run_range_map w t k e i.B es' clock ht hB, Sem.run_bind, Result.andThen]
        rfl
      · cases e
        have hlt := (h.lt m i hi)
        refine ⟨i, clock, #[], clock, h.le_upd _ _ _ hi, heap_alloc_new w _, Nat.le_refl _, Nat.lt_succ_of_lt hlt.1, fun es0 v0 hm0 => ?_⟩
        rw [add_heap, if_neg (Nat.ne_of_lt hlt.1), hm] at hm0
        cases hm0
        exact ⟨Nat.le_refl _, fun _ => ⟨es', clock, by rw [push_get (o' := .mapIter (some i.B) clock #[] clock) rfl hlt.2]; exact hB, rfl, hbo.1, [], by simp, rfl, rfl⟩⟩
    · cases hp
  · cases hp

theorem updB_set {B : Nat} {o1 o2 : Obj} {w1 : World} (h : w.heap[B]? = some o1) (hal : w1 = w ∨ w1 = w.drew) : UpdB w (setBlock w1 B o2) B o2 := by
  have hlt := lt_of_get h
  have key : ∀ j, (w.heap.setIfInBounds B o2)[j]? = if j = B then some o2 else w.heap[j]? := by
    intro j
    by_cases hj : j = B
    · subst hj; simp [hlt]
    · rw [if_neg hj]; simp [Array.getElem?_setIfInBounds_ne (Ne.symm hj)]
  rcases hal with rfl | rfl <;> exact ⟨Array.size_setIfInBounds, key, rfl, rfl, rfl⟩

/-- 'next': whichever entry comes. -/
theorem q_next {x : Operand} (h : Rel P β σ w) (ho : o.op = .next x false) (hx : VRel P β (ev' x) (ρ x)) {Q : Value → CW → Prop} (hq : nextW σ Q (ev' x)) :
    ∃ v σ' v' w', Q v σ' ∧ (execOp ρ o).run P w = .ok (.value v') w' ∧ VRel P β v v' ∧ Stp P β σ w β σ' w' := by
  unfold nextW at hq
  split at hq
  case h_2 => exact hq.elim
  rename_i r ex
  rw [ex] at hx
  obtain ⟨_, i, hi, q⟩ := hx.ptr_inv
  have hfalse : VRel P β (.tuple #[.bool false]) (.tuple #[.bool false]) := VRel.tuple_iff.2 (.cons (.bool _) .nil)
  split at hq
  · rename_i hr
    have ho' := h.obj r i _ hi hr
    obtain ⟨m', s, n, l, e1, e2, e3⟩ := iter_inv ho'
    cases m' with
    | some m' => cases e3
    | none =>
      refine ⟨_, σ, .tuple #[.bool false], w, hq, ?_, hfalse, .refl h⟩
      simp only [e2, Nat.add_zero] at q
      simp [execOp, ho, q, Instr.next, getObj, Sem.run, e1]
  · rename_i m ver seen hr
    split at hq
    case h_2 => exact hq.elim
    rename_i es v0 hm
    obtain ⟨rfl, hro, hself, hq1, hq2⟩ := hq
    obtain ⟨_, _, _, _, _, e2, _⟩ := iter_inv (h.obj r i _ hi hr)
    obtain ⟨im, since, seen', last, a1, a2, a3, a4, a5⟩ := h.iters r i m v0 seen hi hr
    obtain ⟨es', clock, b1, rfl, b2, L, b3, b4, b5⟩ := (a5 es v0 hm).2 rfl
    obtain ⟨es'', clock', c1, hmr, hbo⟩ := h.mapB hm a1
    rw [b1] at c1; cases c1
    simp only [e2, Nat.add_zero] at q
    have hex : ∀ y w', (Instr.next (.pointer (some ⟨i.B, 0, none⟩)) false o.type).run P w = .ok y w' → (execOp ρ o).run P w = .ok (.value y) w' := by
      intro y w' hw
      simp [execOp, ho, q, hw]
    have hsb : ∀ e, e ∈ es'.toList → (seen'.contains e.born = true ↔ e ∈ L) := by
      intro e he
      have : seen'.contains e.born = true ↔ e.born ∈ L.map (·.born) := by
        rw [b5, List.mem_reverse]
        simp
      rw [this]
      constructor
      · intro hmem
        obtain ⟨e1, g1, g2⟩ := List.mem_map.1 hmem
        have := nodup_map_inj hbo.2 (b3 e1 g1) he g2
        rw [← this]; exact g1
      · intro hmem; exact List.mem_map.2 ⟨e, hmem, rfl⟩
    rcases run_next_at (P := P) w o.type i.B im.B since last seen' es' last a2 b1 b2 a3 with ⟨k0, k1⟩ | ⟨e, k0, w1, k1, k2⟩
    · refine ⟨_, σ, _, w, hq1 ?_, hex _ _ k1, hfalse, .refl h⟩
      rw [leftL, List.filter_eq_nil_iff]
      intro y hy
      obtain ⟨e, g1, g2, _⟩ := hmr.mem_l hy
      have hin : seen'.contains e.born = true := by
        cases hc : seen'.contains e.born with
        | true => rfl
        | false =>
          have : e ∈ (leftOf es' seen').toList := by unfold leftOf; simp at g1 hc ⊢; exact ⟨g1, hc⟩
          have h0 : (leftOf es' seen').toList = [] := by
            have := Array.length_toList (xs := leftOf es' seen')
            rw [k0] at this
            exact List.length_eq_zero_iff.1 this
          rw [h0] at this; cases this
      have hL := (hsb e g1).1 hin
      have : y.1 ∈ seen := by rw [← b4, ← g2]; exact List.mem_map.2 ⟨e, hL, rfl⟩
      intro hall
      have := List.all_eq_true.1 hall y.1 this
      rw [hself y hy] at this; simp at this
    · have g1 : e ∈ es'.toList ∧ seen'.contains e.born = false := by unfold leftOf at k0; simp at k0 ⊢; exact k0
      obtain ⟨g1, g2⟩ := g1
      obtain ⟨u, g3, g4⟩ := hmr.mem g1
      have hleft : (e.key, u) ∈ leftL seen es := by
        unfold leftL
        rw [List.mem_filter]
        refine ⟨g3, ?_⟩
        simp only [List.all_eq_true]
        intro k hk
        cases hkk : keyEq k e.key == some true with
        | false => rfl
        | true =>
          exfalso
          have hke := keyEq_true_eq (by simpa using hkk)
          rw [← b4] at hk
          obtain ⟨e1, d1, d2⟩ := List.mem_map.1 hk
          obtain ⟨u1, d3, d4⟩ := hmr.mem (b3 e1 d1)
          have d5 : e1 ∉ L ∨ e1 ≠ e := by
            by_cases hee : e1 = e
            · left; intro hmem; rw [hee] at hmem
              have := (hsb e g1).2 hmem; rw [g2] at this; cases this
            · exact .inr hee
          rcases d5 with d5 | d5
          · exact d5 d1
          · -- two entries of one key
            obtain ⟨hkeys, l, hp, hrel⟩ := hmr
            have : ∀ (es : List (Value × Value)) (l : List MapEntry), ERel P β es l → KeysOk es → (∀ z ∈ es, keyEq z.1 z.1 = some true) → ∀ x y, x ∈ l → y ∈ l → x.key = y.key → x = y := by
              intro es l hr
              induction hr with
              | nil => intro _ _ x y hx; cases hx
              | @cons kk vv e0 es0 l0 hk0 hv0 ht0 ih =>
                intro hok hs x y hx hy hxy
                obtain ⟨p1, p2⟩ := List.pairwise_cons.1 hok
                have hno : ∀ z ∈ l0, z.key ≠ e0.key := by
                  intro z hz hzk
                  obtain ⟨uz, f1, _⟩ := ht0.mem hz
                  have := p1 _ f1
                  rw [hzk, hk0, hs (kk, vv) (by simp)] at this; cases this
                rcases List.mem_cons.1 hx with rfl | hx'
                · rcases List.mem_cons.1 hy with rfl | hy'
                  · rfl
                  · exact absurd hxy.symm (hno y hy')
                · rcases List.mem_cons.1 hy with rfl | hy'
                  · exact absurd hxy (hno x hx')
                  · exact ih p2 (fun z hz => hs z (by simp [hz])) x y hx' hy' hxy
            exact d5 (this es l hrel hkeys hself e1 e (hp.mem_iff.1 (b3 e1 d1)) (hp.mem_iff.1 g1) (d2.trans hke))
      have hu := updB_set (o2 := .mapIter (some im.B) since (seen'.push e.born) last) a2 k1
      refine ⟨_, _, _, _, hq2 e.key u hleft, hex _ _ k2, VRel.tuple_iff.2 (.cons (.bool _) (.cons ?_ (.cons g4 .nil))), ?_⟩
      · -- a key is what it is
        have hk := hself _ g3
        revert hk
        cases e.key <;> intro hk <;> first | exact .string _ | exact .int _ _ | (exfalso; revert hk; simp [keyEq]; done)
      · have other := h.other hr rfl hi
        refine h.setO hr rfl rfl hro hi hu ⟨e2, rfl⟩ ?_
        intro n ir m2 v2 seen2 hn ho2
        have ho2' : upd σ.heap r (some (.iter (some m) v0 (e.key :: seen))) n = some (.iter (some m2) v2 seen2) := ho2
        have hmne : ∀ (n : Nat) es v, σ.heap n = some (.map es v) → n ≠ r := by intro n es v hn hnr; rw [hnr, hr] at hn; cases hn
        by_cases hnr : n = r
        · subst hnr
          rw [upd_same] at ho2'
          cases ho2'
          rw [hi] at hn; cases hn
          refine ⟨im, since, seen'.push e.born, last, a1, by rw [hu.get, if_pos rfl], a3, a4, fun es0 v1 hm0 => ?_⟩
          have hm0' : upd σ.heap n (some (.iter (some m) v0 (e.key :: seen))) m = some (.map es0 v1) := hm0
          have hmr2 := hmne m _ _ hm
          rw [upd_ne _ _ hmr2, hm] at hm0'
          cases hm0'
          refine ⟨Nat.le_refl _, fun _ => ⟨es', last, ?_, rfl, b2, e :: L, ?_, ?_, ?_⟩⟩
          · rw [hu.get, if_neg]
            · exact b1
            · intro eB; have := other m im hmr2 a1 eB; rw [hm] at this; cases this
          · intro y hy
            rcases List.mem_cons.1 hy with rfl | hy
            · exact g1
            · exact b3 y hy
          · simp [b4]
          · simp [b5]
        · rw [upd_ne _ _ hnr] at ho2'
          obtain ⟨im2, since2, seen2', last2, f1, f2, f3, f4, f5⟩ := h.iters n ir m2 v2 seen2 hn ho2'
          refine ⟨im2, since2, seen2', last2, f1, ?_, f3, f4, fun es0 v1 hm0 => ?_⟩
          · rw [hu.get, if_neg]
            · exact f2
            · intro eB; have := other n ir hnr hn eB; rw [ho2'] at this; cases this
          · have hm0' : upd σ.heap r (some (.iter (some m) v0 (e.key :: seen))) m2 = some (.map es0 v1) := hm0
            have hmr2 : m2 ≠ r := by intro e3; subst e3; rw [upd_same] at hm0'; cases hm0'
            rw [upd_ne _ _ hmr2] at hm0'
            obtain ⟨p1, p2⟩ := f5 es0 v1 hm0'
            refine ⟨p1, fun e3 => ?_⟩
            obtain ⟨es3, clock3, p3, p4⟩ := p2 e3
            refine ⟨es3, clock3, ?_, p4⟩
            rw [hu.get, if_neg]
            · exact p3
            · intro eB; have := other m2 im2 hmr2 f1 eB; rw [hm0'] at this; cases this
  · exact hq.elim

theorem p_entry {x : Operand} (h : Rel P β σ w) (ho : o.op = .entry x) (hx : VRel P β (ev' x) (ρ x)) (hp : pev (.entry x) ev' σ = some v) : Gives P ρ o w β v := by
  simp only [pev] at hp
  unfold CW.entry at hp
  split at hp
  case h_2 => cases hp
  rename_i r ex
  rw [ex] at hx
  obtain ⟨_, i, hi, q⟩ := hx.ptr_inv
  split at hp
  case h_2 => cases hp
  rename_i m ver k seen hr
  split at hp
  case h_2 => cases hp
  rename_i es v0 hm
  split at hp
  case isFalse => cases hp
  rename_i hver
  subst hver
  split at hp
  case h_2 => cases hp
  rename_i u hlook
  cases hp
  obtain ⟨_, _, _, _, _, e2, _⟩ := iter_inv (h.obj r i _ hi hr)
  obtain ⟨im, since, seen', last, a1, a2, a3, a4, a5⟩ := h.iters r i m v0 (k :: seen) hi hr
  obtain ⟨es', clock, b1, rfl, b2, L, b3, b4, b5⟩ := (a5 es v0 hm).2 rfl
  obtain ⟨es'', clock', c1, hmr, hbo⟩ := h.mapB hm a1
  rw [b1] at c1; cases c1
  simp only [e2, Nat.add_zero] at q
  cases L with
  | nil => cases b4
  | cons e L =>
    simp only [List.map_cons, List.cons.injEq] at b4 b5
    obtain ⟨hek, b4⟩ := b4
    have he := b3 e (by simp)
    obtain ⟨y, g1, g2⟩ := hmr.mem he
    have hseen : ∃ s0 : Array Nat, seen' = s0.push e.born := by
      have h1 : seen'.toList = (L.map (·.born)).reverse ++ [e.born] := by
        have := congrArg List.reverse b5
        simp only [List.reverse_cons, List.reverse_reverse] at this
        exact this.symm
      refine ⟨((L.map (·.born)).reverse).toArray, ?_⟩
      apply Array.ext'
      rw [h1]; simp
    obtain ⟨s0, rfl⟩ := hseen
    have hkk : ∃ z, (z, u) ∈ es ∧ keyEq k z = some true := by
      clear hmr g1 g2 a5 hm b1
      induction es with
      | nil => cases hlook
      | cons z es ih =>
        obtain ⟨z1, z2⟩ := z
        simp only [look] at hlook
        split at hlook
        · rename_i hz; cases hlook; exact ⟨z1, by simp, hz⟩
        · obtain ⟨z', k1, k2⟩ := ih hlook; exact ⟨z', by simp [k1], k2⟩
        · cases hlook
    obtain ⟨z, k1, k2⟩ := hkk
    have hzk := keyEq_true_eq k2
    subst hzk
    rw [hek] at g1
    have := keysOk_uni hmr.1 k1 g1 rfl k2
    cases this
    refine ⟨.tuple #[e.key, e.val], ?_, VRel.tuple_iff.2 (.cons ?_ (.cons g2 .nil))⟩
    · have := run_entry_at (P := P) w i.B im.B since s0 es' last e a2 b1 he hbo.2
      simp [execOp, ho, q, this]
    · rw [hek]
      revert k2
      cases k <;> intro hk <;> first | exact .string _ | exact .int _ _ | (exfalso; revert hk; simp [keyEq]; done)

end ops
end Go.Cn
