/- Range over a function: the loop, and a call of its yield. -/
import Derived.Test.YtfagmflapdgcmaaDoorCnA15
namespace Go.Cn
set_option linter.unusedSimpArgs false
set_option linter.unusedVariables false
section
variable {T : Nat → Option CFun} {K : Nat → Prop} {fr : AFr} {h : AH}

/-- the loop's function is called with a yield of its own; the frame is as it was behind it -/
theorem W.rfun {f : Operand} {ps : List Tmp} {as body : CCode} {g : Nat} {a b : List AV} {Q : CExit → AFr → AH → Prop} (hf : evA fr f = .func g a b)
    (hc : ∀ (c : Nat) (frC : Fr), h.objs c = none → h.toks c = none → ¬ K c → ACall T K (.func g) (a ++ [.yield c] ++ b) (h.set c (.loop .ready fr frC ps as body none)) fun _ h2 =>
      ∃ st pend, h2.objs c = some (.loop st fr frC ps as body pend) ∧ st ≠ .busy ∧ pend ≠ some .normal ∧ Q (pend.getD .normal) fr (h2.del c)) : W T K (.rfun f ps as body) fr h Q := by
  intro F σ frC hA hK hfr
  have hv := evA_rp hfr f
  rw [hf] at hv
  generalize hev : ev frC f = v at hv
  cases hv with
  | @func _ _ _ a' b' ha hb hga hgb =>
    have hlt : ∀ n, K n → n < σ.next := fun n hn => let ⟨o, ho⟩ := hK n hn; hA.lt ho
    have hnK : ¬ K σ.next := fun hk => absurd (hlt _ hk) (by omega)
    have hx := Ext.add hA (o := .loop .ready frC ps as body none) 0 hlt
    have hA1 : AR (upd F σ.next 0) h (σ.add (.loop .ready frC ps as body none)) := hA.add (by trivial) fun h => absurd h (by omega)
    have hl : AOk (upd F σ.next 0) (σ.add (.loop .ready frC ps as body none)) σ.next (.loop .ready fr frC ps as body none) :=
      ⟨upd_same _ _ _, hA.inv.rol, upd_same _ _ _, fun t => (hfr t).ext hx⟩
    have hA2 := hA1.learn' hA.inv (o := .loop .ready frC ps as body none) (by trivial) hl hA.onext hA.tnext
    have hK2 : KOk K (h.set σ.next (.loop .ready fr frC ps as body none)) := hK.set _ _
    have hargs : RpL (upd F σ.next 0) (σ.add (.loop .ready frC ps as body none)) (a ++ [.yield σ.next] ++ b) (a'.toList ++ [.func (.yield σ.next) #[] #[]] ++ b'.toList) :=
      RpL.append (RpL.append ⟨by simpa using ha, fun i x y hi hy => (hga i x y hi (by simpa using hy)).ext hx⟩ (.cons (.yield _) .nil)) ⟨by simpa using hb, fun i x y hi hy => (hgb i x y hi (by simpa using hy)).ext hx⟩
    refine .rfun g a' b' hev (CallA.mono _ _ _ _ _ (hc σ.next frC hA.onext hA.tnext hnK _ _ _ hA2 hK2 hargs) fun v σ2 ⟨F2, av, h2, x1, x2, x3, x4, st, pend, y1, y2, y3, y4⟩ => ?_)
    obtain ⟨o1, o2, o3, o4⟩ := x2.obj _ _ y1
    obtain ⟨k1, k2⟩ := x2.kill (K := K) y1 o1 o3 rfl hnK
    refine ⟨st, pend, o3, y2, y3, F2, fr, h2.del σ.next, hx.trans (x1.trans k2), k1, fun n hn => ?_, fun t => (hfr t).ext (hx.trans (x1.trans k2)), y4⟩
    obtain ⟨o, ho⟩ := x3 n hn
    exact ⟨o, by rw [AH.del_objs, if_neg (by rintro rfl; exact hnK hn)]; exact ho⟩

def setPsA (fr : AFr) : List Tmp → List AV → AFr
  | t :: ts, v :: vs => setPsA (upd fr t v) ts vs
  | _, _ => fr
theorem setPsA_rp {F : Nat → Nat} {σ : CW} : ∀ {ps : List Tmp} {args : List AV} {argsC : List Value} {fr : AFr} {frC : Fr}, (∀ t, Rp F σ (fr t) (frC t)) → RpL F σ args argsC → ∀ t, Rp F σ (setPsA fr ps args t) (setPs frC ps argsC t)
  | [], args, argsC, fr, frC, hf, ha, t => by cases args <;> cases argsC <;> exact hf t
  | p :: ps, [], [], fr, frC, hf, ha, t => hf t
  | p :: ps, [], v :: vs, fr, frC, hf, ha, t => by have := ha.1; simp at this
  | p :: ps, a :: args, [], fr, frC, hf, ha, t => by have := ha.1; simp at this
  | p :: ps, a :: args, v :: vs, fr, frC, hf, ha, t => by
    refine setPsA_rp (ps := ps) (fun u => ?_) ⟨by simpa using ha.1, fun i x y hi hy => ha.2 (i + 1) x y hi hy⟩ t
    by_cases e : u = p
    · subst e; rw [upd_same, upd_same]; exact ha.2 0 a v rfl rfl
    · simp only [upd, e, if_false]; exact hf u

/-- one call of the yield: the parameters, the body, and whether to go on -/
theorem ACall.yield {c : Nat} {frA : AFr} {frC : Fr} {ps : List Tmp} {as body : CCode} {args : List AV} {Q : AV → AH → Prop} (ho : h.objs c = some (.loop .ready frA frC ps as body none)) (hKc : ¬ K c) (hl : args.length = ps.length)
    (hw : W T K as (setPsA frA ps args) h fun e fr1 h1 => e = .normal ∧ h1.objs c = some (.loop .ready frA frC ps as body none) ∧
      W T K body fr1 (h1.set c (.loop .busy frA frC ps as body none)) fun e _ h2 => h2.objs c = some (.loop .busy frA frC ps as body none) ∧
        Q (.bool e.nm) (h2.set c (.loop (if e.nm then .ready else .done) frA frC ps as body (if e.nm then none else some e)))) : ACall T K (.yield c) args h Q := by
  intro F σ argsC hA hK ha
  obtain ⟨o1, o2, o3, o4⟩ := hA.obj _ _ ho
  refine CallA.yield o3 o2 (by rw [← ha.1]; exact hl) ((hw F σ _ hA hK (setPsA_rp o4 ha)).mono CallA.mono fun e fr1 σ1 ⟨F1, fa1, h1, x1, x2, x3, x4, hn, y1, y2⟩ => ?_)
  obtain ⟨p1, p2, p3, p4⟩ := x2.obj _ _ y1
  refine ⟨hn, p3, ?_⟩
  obtain ⟨q1, q2⟩ := x2.setO (K := K) (o2 := .loop .busy frC ps as body none) (a2 := .loop .busy frA frC ps as body none) y1 p1 p3 rfl rfl hKc fun hx => ⟨p1, p2, upd_same _ _ _, fun t => (p4 t).ext hx⟩
  refine (y2 F1 _ fr1 q1 (x3.set _ _) (fun t => (x4 t).ext q2)).mono CallA.mono fun e fr2 σ2 ⟨F2, fa2, h2, u1, u2, u3, u4, w1, w2⟩ => ?_
  obtain ⟨s1, s2, s3, s4⟩ := u2.obj _ _ w1
  refine ⟨s3, ?_⟩
  obtain ⟨r1, r2⟩ := u2.setO (K := K) (o2 := .loop (if e.nm then .ready else .done) frC ps as body (if e.nm then none else some e)) (a2 := .loop (if e.nm then .ready else .done) frA frC ps as body (if e.nm then none else some e)) w1 s1 s3 rfl rfl hKc fun hx => ⟨s1, s2, upd_same _ _ _, fun t => (s4 t).ext hx⟩
  exact ⟨F2, _, _, x1.trans (q2.trans (u1.trans r2)), r1, u3.set _ _, .bool _, w2⟩
end
end Go.Cn
