/- Calls: by induction on how deep they stand within each other. -/
import Derived.Test.YtfagmflapdgcmaaDoorCnSimRun
namespace Go.Cn
set_option linter.unusedVariables false
set_option linter.unusedSimpArgs false

structure OkT (P : Program) (T : Nat → Option CFun) : Prop where
  fn : ∀ f cf, T f = some cf → ∃ fn c, P.funcs[f]? = some fn ∧ fn.body = some c ∧ compFun P fn = some cf ∧ (fn.name == "runtime.NumGoroutine") = false

/-- a result, as it is read -/
def resSem (tmps : Array Value) : ResultVar → Sem Value
  | .tmp t => pure (tmps.getD t undef)
  | .cell b t => do loadVar t (← asAddr (tmps.getD b undef))
theorem results_eq (fn : Func) (tmps : Array Value) : results fn tmps = (do
    let vs ← fn.results.mapM (resSem tmps)
    pure (if h : vs.size = 1 then vs[0] else .tuple vs)) := rfl

section
variable {P : Program} {C : CallQ} {n lo : Nat}

theorem sim_res1 {r : ResultVar} {cr : CRes} (hr : compRes P r = some cr) {β : Ren} {σ : CW} {w : World} {fr : Fr} {a : Act} (h : Rel P β σ w) (hf : FRel P β n lo fr a w) {v : Value} (hv : res1 fr σ cr = some v) :
    ∃ v', (resSem a.tmps r).run P w = .ok v' w ∧ VRel P β v v' := by
  cases r with
  | tmp t =>
    cases hr
    cases hv
    exact ⟨_, by simp [resSem], hf.rel t⟩
  | cell b t =>
    simp only [compRes] at hr
    have hb := hf.rel b
    split at hr
    · rename_i m ht hn
      cases hr
      simp only [res1, pev, ev] at hv
      split at hv
      · rename_i ad e
        split at hv
        · rename_i l hl
          cases hv
          obtain ⟨hs, c, hr, hk⟩ := cells_some hl
          obtain ⟨_, i, hi, q⟩ := (e ▸ hb).ptr_inv
          obtain ⟨r', h1, _, h2⟩ := h.loads hr hk hi
          exact ⟨.agg r'.toArray, by simp [resSem, q, asAddr, r_loadN ht hn (h2 w rfl)], VRel.agg_iff.2 (by simpa using h1)⟩
        · cases hv
      · cases hv
    · rename_i m ht hn
      cases hr
      simp only [res1, pev, ev] at hv
      split at hv
      · rename_i ad e
        obtain ⟨hs, c, hr, hk⟩ := cell_some hv
        obtain ⟨_, i, hi, q⟩ := (e ▸ hb).ptr_inv
        obtain ⟨v', h1, h2⟩ := h.cellAt hr hk hi
        exact ⟨v', by simp [resSem, q, asAddr, r_load1 ht h1], h2⟩
      · cases hv
    · cases hr

theorem sim_resL {β : Ren} {σ : CW} {w : World} {fr : Fr} {a : Act} (h : Rel P β σ w) (hf : FRel P β n lo fr a w) : ∀ {rs : List ResultVar} {crs : List CRes}, rs.mapM (compRes P) = some crs → ∀ {vs : List Value}, resL fr σ crs = some vs →
    ∃ vs', (rs.mapM (resSem a.tmps)).run P w = .ok vs' w ∧ LRel P β vs vs'
  | [], crs, hc, vs, hv => by
    cases hc
    cases hv
    exact ⟨[], by simp, .nil⟩
  | r :: rs, crs, hc, vs, hv => by
    rw [List.mapM_cons] at hc
    cases e1 : compRes P r with
    | none => rw [e1] at hc; cases hc
    | some cr =>
      rw [e1] at hc
      cases e2 : rs.mapM (compRes P) with
      | none => rw [e2] at hc; cases hc
      | some crs' =>
        rw [e2] at hc
        cases hc
        simp only [resL] at hv
        split at hv
        · rename_i v hv1
          split at hv
          · rename_i vs1 hv2
            cases hv
            obtain ⟨v', q1, q2⟩ := sim_res1 e1 h hf hv1
            obtain ⟨vs', q3, q4⟩ := sim_resL h hf e2 hv2
            refine ⟨v' :: vs', ?_, .cons q2 q4⟩
            rw [List.mapM_cons]
            simp only [Sem.run_bind, q1, q3, Result.andThen, Sem.run_pure]
          · cases hv
        · cases hv

theorem resV_rel {β : Ren} {l l' : List Value} (h : LRel P β l l') : VRel P β (resV l) (if h : l'.toArray.size = 1 then l'.toArray[0] else .tuple l'.toArray) := by
  match l, l', h with
  | [], [], h => simp only [resV]; exact VRel.tuple_iff.2 (by simpa using h)
  | [v], [v'], h => simpa [resV] using h.of_cons.1
  | a :: b :: l, a' :: b' :: l', h =>
    simp only [resV]
    rw [dif_neg (by simp)]
    exact VRel.tuple_iff.2 (by simpa using h)
  | [], _ :: _, h => have := h.1; simp at this
  | [_], [], h => have := h.1; simp at this
  | [_], _ :: _ :: _, h => have := h.1; simp at this
  | _ :: _ :: _, [], h => have := h.1; simp at this
  | _ :: _ :: _, [_], h => have := h.1; simp at this

theorem sim_results {fn : Func} {crs : List CRes} (hc : fn.results.toList.mapM (compRes P) = some crs) {β : Ren} {σ : CW} {w : World} {fr : Fr} {a : Act} (h : Rel P β σ w) (hf : FRel P β n lo fr a w) {vs : List Value} (hv : resL fr σ crs = some vs) :
    ∃ v', (results fn a.tmps).run P w = .ok v' w ∧ VRel P β (resV vs) v' := by
  obtain ⟨vs', q1, q2⟩ := sim_resL h hf hc hv
  refine ⟨_, ?_, resV_rel q2⟩
  simp only [results_eq, Array.mapM_eq_mapM_toList]
  simp only [Sem.run_bind, Sem.run_map, q1, Result.andThen, Sem.run_pure]

theorem init_frel {β : Ren} {args args' : List Value} (h : LRel P β args args') (m : Nat) (w : World) : FRel P β m w.heap.size (initFr args) { tmps := args'.toArray ++ Array.replicate (m - args'.toArray.size) undef, defers := [] } w := by
  refine ⟨Nat.le_refl _, by simp; omega, ⟨List.nodup_nil, fun d hd => by cases hd⟩, fun t => ?_⟩
  simp only [initFr]
  cases e : args[t]? with
  | some v =>
    obtain ⟨v', h1, h2⟩ := h.left e
    have ht : t < args'.length := (List.getElem?_eq_some_iff.1 h1).1
    have : (args'.toArray ++ Array.replicate (m - args'.toArray.size) undef).getD t undef = v' := by
      rw [Array.getD_eq_getD_getElem?, Array.getElem?_append_left (by simpa using ht)]
      simp [h1]
    show VRel P β v _
    rw [this]; exact h2
  | none =>
    have ht : args'.length ≤ t := by have := h.1; rw [← this]; exact List.getElem?_eq_none_iff.1 e
    have : (args'.toArray ++ Array.replicate (m - args'.toArray.size) undef).getD t undef = undef := by
      rw [Array.getD_eq_getD_getElem?, Array.getElem?_append_right (by simpa using ht)]
      rw [Array.getElem?_replicate]
      split <;> rfl
    show VRel P β cundef _
    rw [this]; exact .undef

/-- blocks of marks turn, nothing else -/
structure Shut (lo : Nat) (β : Ren) (w w' : World) : Prop where
  size : w'.heap.size = w.heap.size
  os : w'.os = w.os
  out : w'.output = w.output
  tape : w'.tape = w.tape
  old : ∀ B, B < lo → w'.heap[B]? = w.heap[B]?
  map : ∀ b i, β b = some i → w'.heap[i.B]? = w.heap[i.B]?

theorem Shut.refl {β : Ren} {w : World} : Shut lo β w w := ⟨rfl, rfl, rfl, rfl, fun _ _ => rfl, fun _ _ _ => rfl⟩

theorem Shut.stp {β0 β : Ren} {σ0 σ : CW} {w0 w w' : World} (h : Shut w0.heap.size β w w') (hst : Stp P β0 σ0 w0 β σ w) : Stp P β0 σ0 w0 β σ w' where
  le := hst.le
  new := hst.new
  next := hst.next
  ro := hst.ro
  inj := hst.inj
  cfr := hst.cfr
  size := by rw [h.size]; exact hst.size
  afr := fun B hB hn => by rw [h.old B hB]; exact hst.afr B hB hn
  os := h.os.trans hst.os
  out := h.out.trans hst.out
  tape := h.tape.trans hst.tape
  rel :=
  { inv := hst.rel.inv
    wr := hst.rel.wr
    lt := fun b i hb => by rw [h.size]; exact hst.rel.lt b i hb
    obj := fun b i o hb ho => by rw [h.map b i hb]; exact hst.rel.obj b i o hb ho
    alias := hst.rel.alias
    here := hst.rel.here
    iters := hst.rel.iters.keep (.refl _) (Nat.le_refl _) (fun _ _ h => .inl h) (fun _ _ _ _ h _ => h) fun b i o hb ho _ => by rw [h.map b i hb]; exact ho }

theorem leaves_marks {fn : Func} {tmps : Array Value} {R : Ending → World → Prop} {β : Ren} : ∀ (ds : List Deferred) (w : World), Marks lo β w ds →
    (∀ w', Shut lo β w w' → ∃ v, (results fn tmps).run P w' = .ok v w' ∧ R (.returned v) w') → LeavesInM Fence.wide 0 P fn tmps R ds .returning w
  | [], w, _, h => h w .refl
  | d :: ds, w, hm, h => by
    obtain ⟨D, rfl, hlo, hD, hun⟩ := hm.2 d (by simp)
    refine ⟨by simp, .inl ⟨D, _, rfl, run_takeDeferred hD, ?_⟩⟩
    have hget : ∀ B, B ≠ D → (w.putObj D (.deferred none)).heap[B]? = w.heap[B]? := fun B hB => World.putObj_heap_other hB
    have hs : Shut lo β w (w.putObj D (.deferred none)) := ⟨by simp [World.putObj], rfl, rfl, rfl, fun B hB => hget B (by omega), fun b i hb => hget _ (hun b i hb)⟩
    refine leaves_marks (β := β) ds _ ⟨(List.nodup_cons.1 hm.1).2, fun d' hd' => ?_⟩ fun w' hs' => h w' ?_
    · obtain ⟨D', e, h1, h2, h3⟩ := hm.2 d' (by simp [hd'])
      refine ⟨D', e, h1, ?_, h3⟩
      rw [hget]
      · exact h2
      · intro e'
        subst e'
        exact (List.nodup_cons.1 hm.1).1 (e ▸ hd')
    · exact ⟨hs'.size.trans hs.size, hs'.os.trans hs.os, hs'.out.trans hs.out, hs'.tape.trans hs.tape, fun B hB => (hs'.old B hB).trans (hs.old B hB), fun b i hb => (hs'.map b i hb).trans (hs.map b i hb)⟩

theorem setPs_rel {β : Ren} : ∀ (ps : List Tmp) (args args' : List Value) (fr : Fr) (tmps : Array Value), LRel P β args args' → (∀ t, VRel P β (fr t) (tmps.getD t undef)) → (∀ p ∈ ps, p < tmps.size) →
    (∀ t, VRel P β (setPs fr ps args t) (((ps.zip args').foldl (fun t (p, v) => t.setIfInBounds p v) tmps).getD t undef)) ∧ ((ps.zip args').foldl (fun t (p, v) => t.setIfInBounds p v) tmps).size = tmps.size
  | [], args, args', fr, tmps, _, h, _ => ⟨by simpa [setPs] using h, by simp⟩
  | p :: ps, [], args', fr, tmps, hl, h, _ => by
    have : args' = [] := by have := hl.1; cases args' with
      | nil => rfl
      | cons _ _ => simp at this
    subst this
    exact ⟨by simpa [setPs] using h, by simp⟩
  | p :: ps, v :: args, [], fr, tmps, hl, h, _ => by have := hl.1; simp at this
  | p :: ps, v :: args, v' :: args', fr, tmps, hl, h, hp => by
    obtain ⟨h1, h2⟩ := hl.of_cons
    have hlt := hp p (by simp)
    obtain ⟨g1, g2⟩ := setPs_rel ps args args' (upd fr p v) (tmps.setIfInBounds p v') h2 (fun t => by
      by_cases e : t = p
      · subst e
        rw [upd_same, Array.getD_eq_getD_getElem?]
        simpa [hlt] using h1
      · rw [upd_ne _ _ e, Array.getD_eq_getD_getElem?, Array.getElem?_setIfInBounds_ne (Ne.symm e), ← Array.getD_eq_getD_getElem?]
        exact h t) (fun q hq => by simpa using hp q (by simp [hq]))
    exact ⟨g1, by simpa using g2⟩

theorem LoopRel.turn {β : Ren} {st st' : LoopState} {fr : Fr} {ps : List Tmp} {as body : CCode} {pend pend' : Option CExit} {L : Loop} (h : LoopRel P β st fr ps as body pend L) : LoopRel P β st' fr ps as body pend' { L with state := st', pending := pend'.map outCode } :=
  ⟨rfl, h.params, h.rel, h.code, rfl⟩

theorem sim_calls (hP : ProgOk P) {T : Nat → Option CFun} (hT : OkT P T) (hD : ∀ d n, SimC P (CallW T d) → DrawOk P (CallW T d) n) : ∀ d, SimC P (CallW T d)
  | .zero => ⟨fun h => h.elim, fun h => h.elim, fun h => h.elim⟩
  | .lim g => ⟨fun ⟨i, h⟩ => (sim_calls hP hT hD (g i)).func h, fun ⟨i, h⟩ => (sim_calls hP hT hD (g i)).yield h, fun ⟨i, h⟩ => (sim_calls hP hT hD (g i)).other h⟩
  | .succ d => by
    have ih := sim_calls hP hT hD d
    refine ⟨?_, ?_, ?_⟩
    · intro f args σ Q β w args' h hr hG hargs
      obtain ⟨cf, h1, h2⟩ := h
      obtain ⟨fn, c, hf, hb, hcf, hname⟩ := hT.fn f cf h1
      refine ⟨⟨fn, hf, by simp [hb], hname⟩, ?_⟩
      unfold compFun at hcf
      split at hcf
      · rename_i c' rs hb' hrs
        rw [hb] at hb'
        cases hb'
        cases hcf
        refine callsIn_of_wp_marks hf hb trivial ?_
        refine wpIn_mono ((sim_code hP ih (fun n => hD d n ih) h2 fn.ntmps none).1 c rfl (.inl rfl) (bodyPostM Fence.wide 0 P fn fun e w' => ∃ v v' β' σ', Q v σ' ∧ e = .returned v' ∧ VRel P β' v v' ∧ Stp P β σ w β' σ' w') hG hr (init_frel hargs fn.ntmps w) ?_) ?_
        case refine_2 => intro e a w he; cases e <;> first | exact he | exact False.elim he
        intro e fr1 σ1 β1 a1 w1 hk hst hf1
        obtain ⟨h3, vs, h4, hQ⟩ := hk
        have fin : LeavesInM Fence.wide 0 P fn a1.tmps (fun e w' => ∃ v v' β' σ', Q v σ' ∧ e = .returned v' ∧ VRel P β' v v' ∧ Stp P β σ w β' σ' w') a1.defers .returning w1 := by
          refine leaves_marks a1.defers w1 hf1.defers fun w2 hs => ?_
          have hst2 := hs.stp hst
          have hf2 : FRel P β1 fn.ntmps 0 fr1 { a1 with defers := [] } w2 := ⟨Nat.zero_le _, hf1.size, ⟨List.nodup_nil, fun d hd => by cases hd⟩, hf1.rel⟩
          obtain ⟨v', q1, q2⟩ := sim_results hrs hst2.rel hf2 h4
          exact ⟨v', q1, _, v', β1, σ1, hQ, rfl, q2, hst2⟩
        rcases h3 with rfl | rfl <;> exact fin
      · cases hcf
    · intro c args σ Q β w args' i h hr hG hargs hi
      obtain ⟨fr, ps, as, body, h1, hro, hlen, h2⟩ := h
      obtain ⟨L, m1, m2⟩ := loop_inv (hr.obj _ _ _ hi h1)
      have hy := run_yield (P := P) (args := args'.toArray) m1 (by
        have e1 := hargs.1
        have e2 := congrArg List.length m2.params
        simp at e2 ⊢
        omega)
      refine ⟨_, _, _, _, hy, roundIn_of_wpIn trivial ?_⟩
      obtain ⟨n, c1, c2, c3, c4, c5, c6⟩ := m2.code
      obtain ⟨g1, g2⟩ := setPs_rel (P := P) ps args args' fr L.tmps hargs m2.rel fun p hp => Nat.lt_of_lt_of_le (c6 p hp) c1
      have etmps : (L.params.zip args'.toArray).foldl (fun tmps (t, a) => tmps.setIfInBounds t a) L.tmps = (ps.zip args').foldl (fun t (p, v) => t.setIfInBounds p v) L.tmps := by
        rw [← m2.params, ← Array.foldl_toList]
        simp
      have hf0 : FRel P β n w.heap.size (setPs fr ps args) { tmps := (L.params.zip args'.toArray).foldl (fun tmps (t, a) => tmps.setIfInBounds t a) L.tmps, defers := [] } w := by
        rw [etmps]
        exact ⟨Nat.le_refl _, by rw [g2]; exact c1, ⟨List.nodup_nil, fun d hd => by cases hd⟩, g1⟩
      refine wpIn_mono ((sim_code hP ih (fun n => hD d n ih) h2 n (some i.B)).1 L.assign c2 (.inr c4) (Exit.then _ (fun _ _ _ => False)) hG hr hf0 ?_) (fun e a w he => by cases e <;> first | exact he | exact he.elim)
      intro e fr1 σ1 β1 a1 w1 hk hst hf1
      obtain ⟨rfl, k1, k2⟩ := hk
      have hi1 := hst.le _ _ hi
      obtain ⟨L1, n1, n2⟩ := loop_inv (hst.rel.obj _ _ _ hi1 k1)
      have hu1 := updB_put (o := .loop { L1 with state := .busy }) n1
      have hLB : LoopRel P β1 .busy fr ps as body none { L1 with state := .busy } := ⟨rfl, n2.params, n2.rel, n2.code, n2.pend⟩
      have hst1 := hst.rel.setO (o2 := .loop .busy fr ps as body none) k1 rfl rfl (by rw [hst.ro]; exact hro) hi1 hu1 hLB (iters_loop hst.rel k1 rfl rfl rfl rfl hi1 hu1)
      have hst01 := hst.trans hst1 hr
      refine ⟨_, run_beginRound n1 n2.state, ?_⟩
      obtain ⟨n', d1, d2, d3, d4, d5, d6⟩ := n2.code
      have hfm : FRel P β1 n w.heap.size fr1 a1 (w1.putObj i.B (.loop { L1 with state := .busy })) := hf1.step hst1
      -- the body is the record's
      have key : ∀ (bc : Code), compCode P n bc = body → flat bc = true → bc.wpIn (Fence.wide.inRound i.B) 0 P (roundPost P i.B fun e w' => ∃ v v' β' σ', Q v σ' ∧ e = .returned v' ∧ VRel P β' v v' ∧ Stp P β σ w β' σ' w') a1 (w1.putObj i.B (.loop { L1 with state := .busy })) := by
        intro bc hbc hfl
        refine wpIn_mono ((sim_code hP ih (fun n => hD d n ih) k2 n (some i.B)).1 bc hbc (.inr hfl) (roundPost P i.B fun e w' => ∃ v v' β' σ', Q v σ' ∧ e = .returned v' ∧ VRel P β' v v' ∧ Stp P β σ w β' σ' w') (hG.mono hst.le) hst1.rel hfm ?_) (fun e a w he => by cases e <;> first | exact he | exact he.elim)
        intro e fr2 σ2 β2 a2 w2 hk hst2 hf2
        obtain ⟨q1, q2⟩ := hk
        have hi2 := hst2.le _ _ hi1
        obtain ⟨L2, o1, o2⟩ := loop_inv (hst2.rel.obj _ _ _ hi2 q1)
        have fin : ∀ (jump : Option Code) (st : LoopState) (pend : Option CExit), jump = pend.map outCode → st = (if jump.isNone then .ready else .done) → Q (.bool jump.isNone) (σ2.set c (.loop st fr ps as body pend)) →
            ∃ v w', (Instr.endRound i.B jump).run P w2 = .ok v w' ∧ ∃ v0 v' β' σ', Q v0 σ' ∧ Ending.returned v = .returned v' ∧ VRel P β' v0 v' ∧ Stp P β σ w β' σ' w' := by
          intro jump st pend hj hst' hQ
          have hrun := run_endRound (P := P) jump o1
          refine ⟨_, _, hrun, _, _, β2, _, hQ, rfl, .bool _, ?_⟩
          have hu2 := updB_put (o := .loop { L2 with state := if jump.isNone then .ready else .done, pending := jump }) o1
          have hro2 : σ2.ro ≤ c := by
            have e1 := hst2.ro
            have e2 : (σ1.set c (CObj.loop .busy fr ps as body none)).ro = σ1.ro := rfl
            rw [e1, e2, hst.ro]; exact hro
          have hLF : LoopRel P β2 st fr ps as body pend { L2 with state := if jump.isNone then .ready else .done, pending := jump } := ⟨hst'.symm, o2.params, o2.rel, o2.code, hj⟩
          have hst3 := hst2.rel.setO (o2 := .loop st fr ps as body pend) q1 rfl rfl hro2 hi2 hu2 hLF (iters_loop hst2.rel q1 rfl rfl rfl rfl hi2 hu2)
          exact hst01.trans (hst2.trans hst3 hst1.rel) hr
        cases e with
        | normal => exact fin none .ready none rfl rfl q2
        | ret => exact fin (some .ret) .done (some .ret) rfl rfl q2
        | exit id => exact fin (some (.exit id)) .done (some (.exit id)) rfl rfl q2
      exact key L.body c3 c5
    · intro f args σ Q h
      cases f with
      | func f => exact .inl ⟨f, rfl⟩
      | yield c => exact .inr ⟨c, rfl⟩
      | method _ => exact h.elim
      | methodOf _ _ => exact h.elim
      | via _ _ _ _ => exact h.elim
end
end Go.Cn
