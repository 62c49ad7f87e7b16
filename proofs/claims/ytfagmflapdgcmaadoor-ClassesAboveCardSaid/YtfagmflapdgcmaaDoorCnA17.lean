/- A row that is appended to and still written: an object, in the place of its class' last row. -/
import Derived.Test.YtfagmflapdgcmaaDoorCnA16
namespace Go.Cn
set_option linter.unusedVariables false
set_option linter.unusedSimpArgs false

section
variable {K : Nat → Prop} {F : Nat → Nat} {h : AH} {σ : CW}

/-- Behind an append that copies a row that is known: its class goes on in a new row, that is known in its place. -/
theorem AR.vecCopy (hA : AR F h σ) (hKK : KOk K h) {b : Nat} {cs : List AV} {E : TypeId} (hb : h.objs b = some (.cells cs E)) (hKb : ¬ K b) {c : List Value} {cl rel p : Nat} (hc : σ.heap b = some (.cells c E cl rel)) {vs : List AV} {vs' : List Value} (hv : RpL F σ vs vs') :
    AR F ((h.del b).set σ.next (.cells (cs ++ vs) E)) (grown σ cl p (c ++ vs') E rel) ∧ Ext K F σ F (grown σ cl p (c ++ vs') E rel) := by
  obtain ⟨hF, hro, c0, cl0, rel0, h1, hl, e0, l0, hm0, hm⟩ := hA.obj b _ hb
  rw [hc] at h1; cases h1
  have hbn : b ≠ σ.next := Nat.ne_of_lt (hA.lt hb)
  have hother : ∀ n, n ≠ σ.next → n ≠ b → (0 < F n ∨ (∃ o, h.objs n = some o) ∨ ∃ c' k', h.toks c' = some k' ∧ k'.cur = n) → (grown σ cl p (c ++ vs') E rel).heap n = σ.heap n := by
    intro n hn hnb hkn
    rw [grown_heap, if_neg hn]
    exact hA.aloneK hb hc hnb hkn
  have hx : ∀ K : Nat → Prop, ¬ K b → KOk K h → Ext K F σ F (grown σ cl p (c ++ vs') E rel) := fun K hKb hKK => by
    refine ⟨rfl, rfl, Nat.le_succ _, fun _ => Nat.le_refl _, fun n x E' cl' rel' hn hx => ?_, fun n es v hn hx => ?_, fun n hn => ?_⟩
    · exact ⟨x, (hother n (Nat.ne_of_lt (hA.flt hn)) (by rintro rfl; omega) (.inl hn)).trans hx, rfl, fun _ _ => rfl⟩
    · exact (hother n (Nat.ne_of_lt (hA.flt hn)) (by rintro rfl; omega) (.inl hn)).trans hx
    · obtain ⟨o, ho⟩ := hKK n hn
      exact hother n (Nat.ne_of_lt (hA.lt ho)) (by rintro rfl; exact hKb hn) (.inr (.inl ⟨o, ho⟩))
  have hx0 := hx (fun _ => False) (fun h => h) (fun _ h => h.elim)
  have hcls : ∀ cl', cl' ≠ cl → (grown σ cl p (c ++ vs') E rel).cls cl' = σ.cls cl' := fun cl' hcl => by simp [CW.grow, CW.touch, CW.add, upd_ne _ _ hcl]
  have hs : (grown σ cl p (c ++ vs') E rel).cls cl = some ((σ.next, rel + (c ++ vs').length) :: keepL σ.next p (σ.members cl)) := by simp [CW.grow, CW.touch, CW.add]
  refine ⟨⟨hA.inv.grow hc hro, hA.mem.grow hA.inv hc, fun n hn => ?_, fun n o hn => ?_, fun cl' k hk => ?_, fun n o hn => ?_, fun n ds E1 hn x E2 cl' rel' hxx => ?_⟩, hx K hKb hKK⟩
  · obtain ⟨o, g1, g2⟩ := hA.fro n hn
    exact ⟨o, (hother n (Nat.ne_of_lt (hA.flt hn)) (by rintro rfl; omega) (.inl hn)).trans g1, g2⟩
  · rw [AH.set_objs] at hn
    split at hn
    · rename_i e; subst e; cases hn
      refine ⟨hA.fnext, hA.inv.rol, c ++ vs', cl, rel, by rw [grown_heap, if_pos rfl], (hl.append hv).ext hx0, _, _, members_some hs, fun m hmm => ?_⟩
      unfold keepL at hmm
      rw [List.mem_filter] at hmm
      obtain ⟨g1, _⟩ := hmm
      rw [hm0] at g1
      rcases List.mem_cons.1 g1 with g1 | g1
      · rw [g1]; exact hF
      · exact hm m g1
    · rename_i e
      rw [AH.del_objs] at hn
      split at hn
      · cases hn
      · rename_i e2
        refine (hA.obj n o hn).keep hx0 (hother n e e2 (.inr (.inl ⟨o, hn⟩))) rfl fun ds E1 x E2 cl' rel' ho hxx => ?_
        subst ho
        have hcl : cl' ≠ cl := fun ec => e2 (hA.two hb hn hc (ec ▸ hxx))
        exact ⟨members_eq hA.inv hxx (hcls cl' hcl) (hother n e e2 (.inr (.inl ⟨_, hn⟩))), fun _ _ => rfl⟩
  · replace hk : h.toks cl' = some k := hk
    have hne : k.cur ≠ b := by
      intro e
      obtain ⟨cc, g1, _⟩ := (hA.tok cl' k hk).row
      rw [e, hc] at g1
      injection g1 with g1
      injection g1 with _ _ g1 _
      rw [← g1, hA.own _ _ _ hb _ _ _ _ hc] at hk; cases hk
    have hne2 : k.cur ≠ σ.next := Nat.ne_of_lt (hA.tlt hk).2
    refine (hA.tok cl' k hk).keep hx0 (hother _ hne2 hne (.inr (.inr ⟨cl', k, hk, rfl⟩))) rfl fun n cc E' rel hn hp hcc => ?_
    rw [hother n (Nat.ne_of_lt (hA.flt hp)) (by rintro rfl; omega) (.inl hp)] at hcc
    exact ⟨cc, E', hp, hcc, rfl⟩
  · rw [AH.set_objs] at hn
    split at hn
    · rename_i e; subst e; exact hA.tnext
    · rw [AH.del_objs] at hn
      split at hn
      · cases hn
      · exact hA.sep n o hn
  · rw [AH.set_objs] at hn
    split at hn
    · rename_i e; subst e
      rw [grown_heap, if_pos rfl] at hxx
      cases hxx
      exact hA.own _ _ _ hb _ _ _ _ hc
    · rename_i e
      rw [AH.del_objs] at hn
      split at hn
      · cases hn
      · rename_i e2
        rw [hother n e e2 (.inr (.inl ⟨_, hn⟩))] at hxx
        exact hA.own _ _ _ hn _ _ _ _ hxx

/-- An append to a full row that is known. -/
theorem WO.vec {T : Nat → Option CFun} {fr : AFr} {s x : Operand} {E sz bytes b n : Nat} {cs : List AV} {ns : List (List AV)} {Q : AV → AH → Prop} (hs : evA fr s = .slice b 0 n n) (hb : h.objs b = some (.cells cs E)) (hn : cs.length = n * sz) (hKb : ¬ K b)
    (hx : newEls (evA fr x) = some ns) (hxo : newOk sz (evA fr x)) (hns : ∀ e ∈ ns, e.length = sz) (hone : ns.flatten.all oneA = true) (h0 : 0 < ns.length) (hcap : capOk (n + ns.length) bytes)
    (hq : ∀ b', h.objs b' = none → ¬ K b' → Q (.slice b' 0 (n + ns.length) (n + ns.length)) ((h.del b).set b' (.cells (cs ++ ns.flatten) E))) : WO T K (.e (.append E sz bytes s x)) fr h Q := by
  intro F σ ρ hA hK hρ
  have hs' := hρ s
  rw [hs] at hs'
  obtain ⟨h1, new, h2, h3⟩ := newEls_rp (hρ x) hx hxo hns
  obtain ⟨hF, hro, c, cl, rel, hc, hl, _⟩ := hA.obj b _ hb
  have hlt : ∀ b, K b → b < σ.next := fun b hb => let ⟨o, ho⟩ := hK b hb; hA.lt ho
  have hcl : c.length = n * sz := by rw [← hl.1, hn]
  obtain ⟨g1, g2⟩ := hA.vecCopy (K := K) (p := rel + n * sz) hK hb hKb hc h3
  generalize hv : ρ s = v at hs'
  cases hs'
  have htake : takeAt c 0 (n * sz) = some c := by
    unfold takeAt
    rw [if_pos (by omega), List.drop_zero, List.take_of_length_le (by omega)]
  refine ⟨.slice (some ⟨σ.next, 0, none⟩) (n + ns.length) (n + ns.length), _, ?_, F, _, _, g2, g1, fun m hm => ?_, .slice (Nat.le_refl _), hq σ.next hA.onext fun hk => absurd (hlt _ hk) (by omega)⟩
  · show doAppend E sz bytes σ (ρ s) (ρ x) = _
    rw [hv]
    simp only [doAppend, h1, h2]
    rw [if_neg (by omega), if_pos ⟨hcap, h3.all_one hone⟩]
    rw [if_pos ⟨trivial, hro⟩]
    simp only [hc, if_true, htake, Nat.add_zero]
  · obtain ⟨o, ho⟩ := hK m hm
    have := hA.lt ho
    exact ⟨o, by rw [AH.set_ne _ _ (by omega), AH.del_objs, if_neg (by rintro rfl; exact hKb hm)]; exact ho⟩

/-- .. to nothing: a new row that is known -/
theorem WO.vec0 {T : Nat → Option CFun} {fr : AFr} {s x : Operand} {E E' sz bytes : Nat} {ns : List (List AV)} {Q : AV → AH → Prop} (hs : evA fr s = .lst E' [] .nil)
    (hx : newEls (evA fr x) = some ns) (hxo : newOk sz (evA fr x)) (hns : ∀ e ∈ ns, e.length = sz) (hone : ns.flatten.all oneA = true) (h0 : 0 < ns.length) (hcap : capOk ns.length bytes)
    (hq : ∀ b', h.objs b' = none → ¬ K b' → Q (.slice b' 0 ns.length ns.length) (h.set b' (.cells ns.flatten E))) : WO T K (.e (.append E sz bytes s x)) fr h Q := by
  intro F σ ρ hA hK hρ
  have hs' := hρ s
  rw [hs] at hs'
  obtain ⟨h1, new, h2, h3⟩ := newEls_rp (hρ x) hx hxo hns
  have hlt : ∀ b, K b → b < σ.next := fun b hb => let ⟨o, ho⟩ := hK b hb; hA.lt ho
  generalize hv : ρ s = v at hs'
  cases hs' with
  | lst _ h0 _ _ _ _ _ _ _ _ => exact absurd rfl h0
  | lst0 =>
    have hx := Ext.add hA (o := .cells new E σ.next 0) 0 hlt
    have hA1 : AR (upd F σ.next 0) h (σ.add (.cells new E σ.next 0)) := hA.add ⟨rfl, rfl⟩ fun h => absurd h (by omega)
    have hobj : AOk (upd F σ.next 0) (σ.add (.cells new E σ.next 0)) σ.next (.cells ns.flatten E) :=
      ⟨upd_same _ _ _, hA.inv.rol, new, _, _, by rw [add_heap, if_pos rfl], h3.ext hx, members_new hA.inv⟩
    refine ⟨.slice (some ⟨σ.next, 0, none⟩) ns.length ns.length, _, ?_, _, _, _, hx, hA1.learn' hA.inv ⟨rfl, rfl⟩ hobj hA.onext hA.tnext, fun m hm => ?_, .slice (Nat.le_refl _), hq σ.next hA.onext fun hk => absurd (hlt _ hk) (by omega)⟩
    · show doAppend E sz bytes σ (ρ s) (ρ x) = _
      rw [hv]
      simp only [doAppend, h1, h2, Nat.zero_add]
      rw [if_neg (by omega), if_pos ⟨hcap, h3.all_one hone⟩]
    · obtain ⟨o, ho⟩ := hK m hm
      have := hA.lt ho
      exact ⟨o, by rw [AH.set_ne _ _ (by omega)]; exact ho⟩
end

theorem single_flat : ∀ (cs : List AV), (cs.map fun a => [a]).flatten = cs
  | [] => rfl
  | a :: cs => by show [a] ++ (cs.map fun a => [a]).flatten = _; rw [single_flat cs]; rfl
/-- a row that was made is never written again -/
theorem Frz.slice1 {n b : Nat} {cs : List AV} {E : TypeId} {h h0 : AH} {c : AV} (ho : h.objs b = some (.cells cs E)) (hn : cs.length = n) (hp : 0 < n) (hB : n ≤ big) (hw : Wk (.lst E (cs.map fun a => [a]) .no) c) (hl : h0.le (h.del b)) : Frz (.slice b 0 n n) h c h0 := by
  have hne : cs ≠ [] := fun e => by rw [e] at hn; simp at hn; omega
  refine .cells (b := .lst E (cs.map fun a => [a]) .no) ho hne (fun F σ v hF ⟨x, cl, rel, hx, hr⟩ hv => ?_) (.weak hw (.drop hl (.refl _ _)))
  cases hv
  have hlen : x.length = n := by rw [← hr.1, hn]
  have := Rp.lst (F := F) (σ := σ) (E := E) (es := cs.map fun a => [a]) (t := .no) (b := b) (off := 0) (cap := n) (sz := 1) hx (by simpa using hne) (by omega) (fun e he => by obtain ⟨x, _, rfl⟩ := List.mem_map.1 he; rfl)
    (by rw [List.length_map, hF]; omega) (by rw [List.length_map, hlen, hn]; omega) (by rw [List.length_map, hn]; exact Nat.le_refl _) (by rw [List.length_map, hn]; exact hB) (.inl rfl) (fun i y z hy hz => by
      rw [single_flat] at hy
      rw [Nat.zero_add] at hz
      exact hr.2 i y z hy hz)
  rw [List.length_map, hn] at this
  exact this
end Go.Cn
