/- Regions that draw their order: the model's own steps. -/
import Derived.Test.YtdepohnidjndjaaCnDraw2
namespace Go.Cn
set_option linter.unusedVariables false
set_option linter.unusedSimpArgs false

section
variable {P : Program} {C : CallQ} {n : Nat} {r : Option Nat} {ds : List Deferred} {ops : Array Oper} {l : List Item}
variable {β0 β : Ren} {σ0 σ σ' : CW} {w0 w : World} {done : List Item} {D : Nat → Prop} {pos : Nat → Nat} {fr fr' : Fr} {a : Act} {K : Act → World → Prop} {Q : Exit → Act → World → Prop}

/-- what an operation that can be made looks at is there -/
theorem Inv.here (h : Inv P n ds l β0 σ0 w0 done D pos β fr σ a w) (hp : done.Pairwise OkP) {x : Item} (hx : (x ∈ done ∧ OkO x ∧ x.eff = false) ∨ ∀ y ∈ done, OkP y x) (hanc : ∀ j, bit x.anc j = true → D j) :
    ∀ t ∈ tmpsOf x.s x.o, VRel P β (fr t) (a.tmps.getD t undef) := by
  intro t ht
  rcases h.rel t with h1 | ⟨y, h1, h2, h3⟩
  · exact h1
  · exfalso
    rcases hx with ⟨hx, ho, he⟩ | hx
    · -- both stand in the row
      have : y = x ∨ OkP y x ∨ OkP x y := by
        clear h3 h2 h
        induction hp with
        | nil => cases hx
        | @cons z l hz _ ih =>
          rcases List.mem_cons.1 hx with hx1 | hx1
          · rcases List.mem_cons.1 h1 with h11 | h11
            · exact .inl (h11.trans hx1.symm)
            · rw [hx1]; exact .inr (.inr (hz y h11))
          · rcases List.mem_cons.1 h1 with h11 | h11
            · rw [h11]; exact .inr (.inl (hz x hx1))
            · exact ih h11 hx1
      rcases this with rfl | h4 | h4
      · have := ho.self he t ht; rw [h3] at this; cases this
      · exact h2 (hanc _ (h4.back t ht h3))
      · exact h2 (h.eff y h1 (h4.fore t ht h3).1)
    · exact h2 (hanc _ ((hx y h1).back t ht h3))

theorem tmps_ops {s : CStep} {o : Oper} {t : Tmp} (h : Operand.tmp t ∈ o.op.operands) : t ∈ tmpsOf s o := by
  simp only [tmpsOf, List.mem_append, List.mem_filterMap]
  exact .inl ⟨.tmp t, by simpa using h, rfl⟩
theorem tmps_guard {s : CStep} {o : Oper} {t : Tmp} {b : Bool} (h : s.guard = some (t, b)) : t ∈ tmpsOf s o := by simp [tmpsOf, h]

/-- What holds when the model has made an operation that the canonical machine made. -/
theorem Inv.made (hI : ItemsOk P n ops l) (h : Inv P n ds l β0 σ0 w0 done D pos β fr σ a w) {x : Item} (hx : x ∈ done) (hd : ¬ D x.i) (hanc : ∀ j, bit x.anc j = true → D j) (hlt : ∀ t, x.s.dst = some t → t < n)
    {β' : Ren} {w' : World} {v' : Value} (hle : Le β β') (hst : Stp P β0 σ0 w0 β' σ w') (hv : ∀ t, x.s.dst = some t → VRel P β' (fr t) v')
    (hn : ∀ y ∈ done, ¬ D y.i → y.i ≠ x.i → isA y.s.op = true → wants fr y.s.guard = true → β (pos y.i) = none → pos y.i < σ.next → β' (pos y.i) = none) :
    Inv P n ds l β0 σ0 w0 done (fun j => D j ∨ j = x.i) pos β' fr σ (a.put x.s.dst v') w' where
  stp := hst
  size := by cases x.s.dst <;> simp [Act.put, h.size]
  defers := by cases x.s.dst <;> exact h.defers
  mem := h.mem
  down := by
    intro y hy hyd j hj
    rcases hyd with hyd | hyd
    · exact .inl (h.down y hy hyd j hj)
    · have := hI.uni y hy x (h.mem x hx) hyd
      subst this
      exact .inl (hanc j hj)
  sub := by
    intro y hy hyd
    rcases hyd with hyd | hyd
    · exact h.sub y hy hyd
    · have := hI.uni y hy x (h.mem x hx) hyd
      subst this; exact hx
  eff := fun y hy he => .inl (h.eff y hy he)
  rel := by
    intro t
    rw [getD_put (fun t ht => Nat.lt_of_lt_of_le (hlt t ht) h.size)]
    by_cases e : x.s.dst = some t
    · rw [if_pos e]; exact .inl (hv t e)
    · rw [if_neg e]
      rcases h.rel t with h1 | ⟨y, h1, h2, h3⟩
      · exact .inl (h1.mono hle)
      · refine .inr ⟨y, h1, fun h4 => ?_, h3⟩
        rcases h4 with h4 | h4
        · exact h2 h4
        · have := hI.uni y (h.mem y h1) x (h.mem x hx) h4
          subst this
          exact e (hasDst_iff.1 h3)
  pend := by
    intro y hy hyd
    have hyd1 : ¬ D y.i := fun h => hyd (.inl h)
    have hyd2 : y.i ≠ x.i := fun h => hyd (.inr h)
    rcases h.pend y hy hyd1 with g | ⟨g1, ρ, v, g2, g3, g4⟩
    · exact .inl g
    · refine .inr ⟨g1, ρ, v, g2, g3, ?_⟩
      rcases g4 with g4 | ⟨q, obj, k1, k2, k3, k4, k5, k6⟩
      · exact .inl g4
      · exact .inr ⟨q, obj, k1, k2, hn y hy hyd1 hyd2 (by rw [k1]; rfl) g1 k3 k5, k4, k5, k6⟩
  inj := fun y hy z hz dy dz => h.inj y hy z hz (fun h => dy (.inl h)) (fun h => dz (.inl h))

theorem Stp.none {w' : World} {β' : Ren} (h : Stp P β σ w β' σ' w') {b : Nat} (hb : β b = none) (hlt : b < σ.next) : β' b = none := by
  cases e : β' b with
  | none => rfl
  | some i =>
    rcases h.new b i e with h1 | ⟨h1, _⟩
    · rw [hb] at h1; cases h1
    · omega

/-- The model makes what the canonical machine made. -/
theorem Inv.pendStep (hP : ProgOk P) (hC : SimC P C) (hG : GOk P β0) (hr0 : Rel P β0 σ0 w0) (hI : ItemsOk P n ops l) (h : Inv P n ds l β0 σ0 w0 done D pos β fr σ a w) (hp : done.Pairwise OkP) {x : Item} (hx : x ∈ done) (ho : OkO x) (hd : ¬ D x.i)
    (hanc : ∀ j, bit x.anc j = true → D j) (hK : ∀ β' a' w', Inv P n ds l β0 σ0 w0 done (fun j => D j ∨ j = x.i) pos β' fr σ a' w' → K a' w') : wpOpIn (WR r) 0 P ops Q x.i K a w := by
  have hit := hI.ok x (h.mem x hx)
  have hxe : x.eff = false := by
    cases e : x.eff with
    | false => rfl
    | true => exact absurd (h.eff x hx e) hd
  have hhere := h.here hp (.inl ⟨hx, ho, hxe⟩) hanc
  obtain ⟨q, hq, hsq, hsd, hconst, hdst, hgd⟩ := stepOf_some hit.st
  have hlt : ∀ t, x.s.dst = some t → t < n := fun t ht => hdst t (by rw [← hsd]; exact ht)
  have hw := wants_rel (a := a) (fr := fr) (β := β) hit.st (fun t b hg => hhere t (tmps_guard hg))
  have hop : ∀ z ∈ x.o.op.operands, VRel P β (ev fr z) (a.eval z) := fun z hz => ev_rel (hG.mono h.stp.le) (hconst z hz) fun t e => hhere t (tmps_ops (e ▸ hz))
  simp only [wpOpIn, hit.op, hw]
  rcases h.pend x hx hd with ⟨g1, g2⟩ | ⟨g1, ρ, v, g2, g3, g4⟩
  · rw [if_neg (by rw [g1]; simp), ← hsd]
    refine ⟨fun _ _ => trivial, ?_⟩
    exact hK β _ w (h.made hI hx hd hanc hlt (.refl _) h.stp (fun t ht => by rw [g2 t ht]; exact .undef) fun y _ _ _ _ _ g _ => g)
  · rw [if_pos g1]
    have hop' : ∀ z ∈ x.o.op.operands, VRel P β (ρ z) (a.eval z) := fun z hz => by rw [g2 z hz]; exact hop z hz
    rcases g4 with ⟨qp, k1, k2⟩ | ⟨qa, obj, k1, k2, k3, k4, k5, k6⟩
    · refine sim_step (C := C) hP hC (hG.mono h.stp.le) h.stp.rel hq hop' (Qc := fun v' σ' => v' = v ∧ σ' = σ) ?_ fun v1 σ1 β' v' w' hQ hst hv => ?_
      · rw [← hsq, k1]; exact ⟨v, k2, rfl, rfl⟩
      · obtain ⟨rfl, rfl⟩ := hQ
        rw [← hsd]
        exact hK β' _ w' (h.made hI hx hd hanc hlt hst.le (h.stp.trans hst hr0) (fun t ht => by rw [g3 t ht]; exact hv) fun y _ _ _ _ _ g g' => hst.none g g')
    · rw [hsq] at k1
      subst k1
      obtain ⟨v', w', i, o', m1, m2, m3, m4, m5, m6, m7⟩ := sim_makes hq hop' k2 (w := w)
      obtain ⟨m8, m9⟩ := m7 (upd β (pos x.i) (some i)) (le_upd_none k3 i) (upd_same _ _ _)
      unfold Oper.wpIn
      refine ⟨fun _ _ => trivial, ?_⟩
      rw [Oper.semAt_eq _ _ _ (op_noDefer hq), m1]
      simp only [Oper.uponIn]
      rw [← hsd]
      refine hK (upd β (pos x.i) (some i)) _ w' (h.made hI hx hd hanc hlt (le_upd_none k3 i) (h.stp.late k3 k4 k5 m6.1 m2 m3 m4 m5 ?_ m6.2) (fun t ht => by rw [g3 t ht]; exact m8) fun y hy hyd hne ya yw g g' => ?_)
      · rcases k6 with k6 | k6
        · exact ⟨obj, k6, aev_noIter k2, m9⟩
        · exact ⟨.dead, k6, rfl, trivial⟩
      · rw [upd_ne]
        · exact g
        · intro e
          exact hne (h.inj y hy x hx hyd hd ya (by rw [hsq]; rfl) yw g1 e)

/-- What holds behind an effect. -/
theorem Inv.eff' (hr0 : Rel P β0 σ0 w0) (hI : ItemsOk P n ops l) (h : Inv P n ds l β0 σ0 w0 done D pos β fr σ a w) (hone : ∀ y ∈ done, OkO y) {x : Item} (hx : x ∈ l) (hpx : ∀ y ∈ done, OkP y x)
    (hanc : ∀ j, bit x.anc j = true → D j) (hlt : ∀ t, x.s.dst = some t → t < n) (hfr : ∀ t, hasDst t x.s = false → fr' t = fr t) (hag : ∀ g ∈ done.filterMap (againOf x.anc), AgainR fr' σ' g)
    {β' : Ren} {w' : World} {v' : Value} (hst : Stp P β σ w β' σ' w') (hv : ∀ t, x.s.dst = some t → VRel P β' (fr' t) v') :
    Inv P n ds l β0 σ0 w0 (done ++ [x]) (fun j => D j ∨ j = x.i) pos β' fr' σ' (a.put x.s.dst v') w' := by
  -- those that wait do not see it
  have hy1 : ∀ y ∈ done, ¬ D y.i → ∀ t ∈ tmpsOf y.s y.o, fr' t = fr t := by
    intro y hy hyd t ht
    refine hfr t ?_
    cases e : hasDst t x.s with
    | false => rfl
    | true => exact absurd (hanc _ ((hpx y hy).fore t ht e).2) hyd
  have hy2 : ∀ y ∈ done, ∀ t, y.s.dst = some t → fr' t = fr t := fun y hy t ht => hfr t ((hpx y hy).dst t ht)
  refine ⟨h.stp.trans hst hr0, ?_, ?_, ?_, ?_, ?_, ?_, ?_, ?_, ?_⟩
  · cases x.s.dst <;> simp [Act.put, h.size]
  · cases x.s.dst <;> exact h.defers
  · intro y hy
    rcases List.mem_append.1 hy with hy | hy
    · exact h.mem y hy
    · simp at hy; subst hy; exact hx
  · intro y hy hyd j hj
    rcases hyd with hyd | hyd
    · exact .inl (h.down y hy hyd j hj)
    · have := hI.uni y hy x hx hyd
      subst this; exact .inl (hanc j hj)
  · intro y hy hyd
    rcases hyd with hyd | hyd
    · exact List.mem_append.2 (.inl (h.sub y hy hyd))
    · have := hI.uni y hy x hx hyd
      subst this; simp
  · intro y hy hye
    rcases List.mem_append.1 hy with hy | hy
    · exact .inl (h.eff y hy hye)
    · simp at hy; subst hy; exact .inr rfl
  · intro t
    rw [getD_put (fun t ht => Nat.lt_of_lt_of_le (hlt t ht) h.size)]
    by_cases e : x.s.dst = some t
    · rw [if_pos e]; exact .inl (hv t e)
    · rw [if_neg e]
      have e' : hasDst t x.s = false := by
        cases e2 : hasDst t x.s with
        | false => rfl
        | true => exact absurd (hasDst_iff.1 e2) e
      rw [hfr t e']
      rcases h.rel t with h1 | ⟨y, h1, h2, h3⟩
      · exact .inl (h1.mono hst.le)
      · exact .inr ⟨y, by simp [h1], fun h4 => h4.elim h2 (hpx y h1).ne, h3⟩
  · intro y hy hyd
    have hyd1 : ¬ D y.i := fun h => hyd (.inl h)
    rcases List.mem_append.1 hy with hy | hy
    · have w1 := wants_agree (hy1 y hy hyd1)
      have e1 := ev_agree (hy1 y hy hyd1)
      rcases h.pend y hy hyd1 with ⟨g1, g2⟩ | ⟨g1, ρ, v, g2, g3, g4⟩
      · exact .inl ⟨w1.trans g1, fun t ht => (hy2 y hy t ht).trans (g2 t ht)⟩
      · refine .inr ⟨w1.trans g1, ?_⟩
        rcases g4 with ⟨qp, k1, k2⟩ | ⟨qa, obj, k1, k2, k3, k4, k5, k6⟩
        · cases er : reads qp with
          | false => exact ⟨ρ, v, fun z hz => (g2 z hz).trans (e1 z hz).symm, fun t ht => (hy2 y hy t ht).trans (g3 t ht), .inl ⟨qp, k1, by rw [pev_still er ρ σ' σ]; exact k2⟩⟩
          | true =>
            cases ed : y.s.dst with
            | none => have := (hone y hy).dst qp k1 ed; rw [er] at this; cases this
            | some t =>
              have hmem : (⟨t, y.s.guard, qp⟩ : Again) ∈ done.filterMap (againOf x.anc) := by
                refine List.mem_filterMap.2 ⟨y, hy, ?_⟩
                unfold againOf
                rw [k1, ed]
                have hb : bit x.anc y.i = false := by
                  cases e : bit x.anc y.i with
                  | false => rfl
                  | true => exact absurd (hanc _ e) hyd1
                simp [er, hb]
              have := hag _ hmem (w1.trans g1)
              refine ⟨ev fr', fr' t, fun z _ => rfl, fun t' ht' => by cases ht'; rfl, .inl ⟨qp, k1, this⟩⟩
        · refine ⟨ρ, v, fun z hz => (g2 z hz).trans (e1 z hz).symm, fun t ht => (hy2 y hy t ht).trans (g3 t ht), .inr ⟨qa, obj, k1, k2, hst.none k3 k5, k4, Nat.lt_of_lt_of_le k5 hst.next, ?_⟩⟩
          rcases hst.cfr _ k5 k3 with g | g
          · rw [g]; exact k6
          · exact .inr g
    · simp at hy; subst hy; exact absurd (.inr rfl) hyd
  · intro y hy z hz dy dz ay az wy wz
    rcases List.mem_append.1 hy with hy | hy
    · rcases List.mem_append.1 hz with hz | hz
      · refine h.inj y hy z hz (fun h => dy (.inl h)) (fun h => dz (.inl h)) ay az ?_ ?_
        · rw [← wants_agree (hy1 y hy fun h => dy (.inl h))]; exact wy
        · rw [← wants_agree (hy1 z hz fun h => dz (.inl h))]; exact wz
      · simp at hz; subst hz; exact absurd (.inr rfl) dz
    · simp at hy; subst hy; exact absurd (.inr rfl) dy

/-- Both make the next effect. -/
theorem Inv.effStep (hP : ProgOk P) (hC : SimC P C) (hG : GOk P β0) (hr0 : Rel P β0 σ0 w0) (hI : ItemsOk P n ops l) (h : Inv P n ds l β0 σ0 w0 done D pos β fr σ a w) (hp : done.Pairwise OkP) (hone : ∀ y ∈ done, OkO y) {x : Item} (hx : x ∈ l) (hpx : ∀ y ∈ done, OkP y x)
    (he : x.eff = true) (hanc : ∀ j, bit x.anc j = true → D j) {Kc : Fr → CW → Prop} (hr : StepW C x.s fr σ Kc) (hag : ∀ fr' σ', Kc fr' σ' → ∀ g ∈ done.filterMap (againOf x.anc), AgainR fr' σ' g)
    (hK : ∀ fr' σ' β' a' w', Kc fr' σ' → Inv P n ds l β0 σ0 w0 (done ++ [x]) (fun j => D j ∨ j = x.i) pos β' fr' σ' a' w' → K a' w') : wpOpIn (WR r) 0 P ops Q x.i K a w := by
  have hit := hI.ok x hx
  have hhere := h.here hp (.inr hpx) hanc
  obtain ⟨q, hq, hsq, hsd, hconst, hdst, hgd⟩ := stepOf_some hit.st
  have hlt : ∀ t, x.s.dst = some t → t < n := fun t ht => hdst t (by rw [← hsd]; exact ht)
  have hw := wants_rel (a := a) (fr := fr) (β := β) hit.st (fun t b hg => hhere t (tmps_guard hg))
  have hop : ∀ z ∈ x.o.op.operands, VRel P β (ev fr z) (a.eval z) := fun z hz => ev_rel (hG.mono h.stp.le) (hconst z hz) fun t e => hhere t (tmps_ops (e ▸ hz))
  simp only [wpOpIn, hit.op, hw]
  rcases hr with ⟨h1, h2⟩ | ⟨h1, h2⟩
  · rw [if_pos h1]
    refine sim_step hP hC (hG.mono h.stp.le) h.stp.rel hq hop (hsq ▸ h2) fun v σ1 β' v' w' hQ hst hv => ?_
    rw [← hsd]
    refine hK _ _ β' _ w' hQ (h.eff' hr0 hI hone hx hpx hanc hlt (fun t ht => putT_ne ht) (hag _ _ hQ) hst fun t ht => ?_)
    rw [ht]; show VRel P β' (upd fr t v t) v'; rw [upd_same]; exact hv
  · rw [if_neg (by rw [h1]; simp), ← hsd]
    refine ⟨fun _ _ => trivial, hK _ _ β _ w h2 (h.eff' hr0 hI hone hx hpx hanc hlt (fun t ht => putT_ne ht) (hag _ _ h2) (.refl h.stp.rel) fun t ht => ?_)⟩
    rw [ht]; show VRel P β (upd fr t cundef t) undef; rw [upd_same]; exact .undef
end
end Go.Cn
