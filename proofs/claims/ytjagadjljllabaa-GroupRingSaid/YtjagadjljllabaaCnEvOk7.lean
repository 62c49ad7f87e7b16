/- The evaluator is right: steps, code, calls. -/
import Derived.Test.YtjagadjljllabaaCnEvOk6
import Derived.Test.YtjagadjljllabaaCnMono
namespace Go.Cn.Ev
set_option linter.unusedVariables false
set_option linter.unusedSimpArgs false

section
variable {fr fr' : FV} {h h' : HS} {v : Value} {C : CF} {R : CallQ} {E : LE} {L : Bool}

theorem natF_eq (n : Nat) (k : Nat → SR) : natF n k = k n := by cases n <;> rfl
theorem intF_eq (j : IntKind) (n : Int) (k : Value → SR) : intF j n k = k (.int j n) := by
  cases n with
  | ofNat m => exact natF_eq m (fun m => k (.int j (.ofNat m)))
  | negSucc m => exact natF_eq m (fun m => k (.int j (.negSucc m)))
theorem adF_eq (a : Addr) (k : Addr → SR) : adF a k = k a := by
  obtain ⟨b, o, s⟩ := a
  exact (natF_eq b (fun b => natF o (fun o => k ⟨b, o, s⟩))).trans (natF_eq o (fun o => k ⟨b, o, s⟩))
theorem slcF_eq (a : Option Addr) (n c : Nat) (k : Value → SR) : slcF a n c k = k (.slice a n c) := by
  unfold slcF
  rw [natF_eq, natF_eq]
  cases a with
  | none => rfl
  | some a => exact adF_eq a (fun a => k (.slice (some a) n c))
theorem frcV_eq (v : Value) (k : Value → SR) : frcV v k = k v := by
  cases v
  case bool b => cases b <;> rfl
  case int j n => exact intF_eq j n k
  case pointer a =>
    cases a with
    | none => rfl
    | some a => exact adF_eq a (fun a => k (.pointer (some a)))
  case slice a n c => exact slcF_eq a n c k
  case map r =>
    cases r with
    | none => rfl
    | some r => exact natF_eq r (fun r => k (.map (some r)))
  all_goals rfl
theorem frcL_eq (L : Bool) (v : Value) (k : Value → SR) : frcL L v k = k v := by
  cases L
  · exact frcV_eq v k
  · rfl
theorem goC_ok (hC : CallOk C R) {o : COp} {d : Option Tmp} (hh : goC L o d C E fr h = .ok fr' h') {K : Fr → CW → Prop} (hK : K (frD fr') (den E h')) : OpW R o (ev (frD fr)) (den E h) fun v σ' => K (putT (frD fr) d v) σ' := by
  cases o with
  | p o =>
    have hh : goP L d o fr h = .ok fr' h' := hh
    unfold goP at hh
    cases e : pevE o fr h with
    | none => rw [e] at hh; cases hh
    | some v =>
      rw [e] at hh
      have hh : frcL L v (fun v => .ok (setD d v fr) h) = .ok fr' h' := hh
      rw [frcL_eq] at hh; cases hh; rw [setD_eq] at hK; exact ⟨v, pevE_ok e, hK⟩
  | a o =>
    have hh : goA L d o fr h = .ok fr' h' := hh
    unfold goA at hh
    rw [natF_eq] at hh
    cases e : aevE o fr h.next with
    | bad => rw [e] at hh; cases hh
    | ok obj v =>
      rw [e] at hh
      have hh : frcL L v (fun v => .ok (setD d v fr) (addH h obj)) = .ok fr' h' := hh
      rw [frcL_eq] at hh; cases hh; rw [setD_eq, den_add] at hK; exact ⟨_, v, aevE_ok e _, hK⟩
  | e o =>
    have hh : goE L d o C E fr h = .ok fr' h' := hh
    unfold goE at hh
    cases e : eevE o C E fr h with
    | bad => rw [e] at hh; cases hh
    | ok v h1 =>
      rw [e] at hh
      have hh : frcL L v (fun v => .ok (setD d v fr) h1) = .ok fr' h' := hh
      rw [frcL_eq] at hh; cases hh; rw [setD_eq] at hK; exact eevE_ok hC e hK
  | no => cases hh

theorem wantsE_eq (fr : FV) (g : Tmp × Bool) : wantsE fr g = wants (frD fr) (some g) := by
  unfold wantsE
  have e : getV (path g.1) fr = frD fr g.1 := getV_eq _ _
  rw [e]
  show _ = match frD fr g.1 with | .bool c => c == g.2 | _ => false
  cases frD fr g.1 <;> first | rfl | exact eqB_eq _ _

theorem stepE_ok (hC : CallOk C R) {s : CStep} (hh : stepE L C E s fr h = .ok fr' h') {K : Fr → CW → Prop} (hK : K (frD fr') (den E h')) : StepW R s (frD fr) (den E h) K := by
  unfold stepE at hh
  cases e : s.guard with
  | none =>
    rw [e] at hh
    exact .inl ⟨by rw [e]; rfl, goC_ok hC hh hK⟩
  | some g =>
    rw [e] at hh
    dsimp only at hh
    cases e2 : wantsE fr g with
    | true =>
      rw [e2] at hh
      exact .inl ⟨by rw [e, ← wantsE_eq]; exact e2, goC_ok hC hh hK⟩
    | false =>
      rw [e2] at hh
      cases hh
      rw [setD_eq] at hK
      exact .inr ⟨by rw [e, ← wantsE_eq]; exact e2, hK⟩

theorem stepsE_ok (hC : CallOk C R) : ∀ {l : List CStep} {fr fr' : FV} {h h' : HS}, stepsE L C E l fr h = .ok fr' h' → ∀ {K : Fr → CW → Prop}, K (frD fr') (den E h') → StepsW R l (frD fr) (den E h) K
  | [], fr, fr', h, h', hh, K, hK => by cases hh; exact hK
  | s :: l, fr, fr', h, h', hh, K, hK => by
    have hh : (@SR.rec (fun _ => SR) .bad (stepsE L C E l) (stepE L C E s fr h)) = .ok fr' h' := hh
    cases e : stepE L C E s fr h with
    | bad => rw [e] at hh; cases hh
    | ok f1 h1 => rw [e] at hh; exact stepE_ok hC e (stepsE_ok hC hh hK)

-- equal values
theorem listEq_ok {f : Value → Value → Bool} (hf : ∀ a b, f a b = true → a = b) : ∀ {l m : List Value}, listEq f l m = true → l = m
  | [], [], _ => rfl
  | [], _ :: _, h => by cases h
  | _ :: _, [], h => by cases h
  | a :: l, b :: m, h => by
    have h : (@Bool.rec (fun _ => Bool) false (listEq f l m) (f a b)) = true := h
    cases e : f a b with
    | false => rw [e] at h; cases h
    | true => rw [e] at h; rw [hf a b e, listEq_ok hf h]

theorem addrEq_ok {a b : Addr} (h : addrEq a b = true) : a = b := by
  unfold addrEq at h
  rcases noSpot_cases a with ⟨n1, n2⟩ | n1
  · rw [n1] at h
    dsimp only at h
    rcases noSpot_cases b with ⟨m1, m2⟩ | m1
    · rw [m1] at h
      dsimp only at h
      cases e : Nat.beq a.block b.block with
      | false => rw [e] at h; cases h
      | true =>
        rw [e] at h
        have e1 := Nat.beq_eq.mp e
        have e2 : a.off = b.off := Nat.beq_eq.mp h
        cases a; cases b
        simp only at n2 m2 e1 e2
        rw [n2, m2, e1, e2]
    · rw [m1] at h; cases h
  · rw [n1] at h; cases h

theorem optAddr_ok {a a' : Option Addr} (h : (@Option.rec Addr (fun _ => Bool) (isNone' a) (fun b => @Option.rec Addr (fun _ => Bool) false (fun a => addrEq b a) a) a') = true) : a' = a := by
  cases a' with
  | none => cases a with
    | none => rfl
    | some _ => cases h
  | some b => cases a with
    | none => cases h
    | some a => rw [addrEq_ok h]

theorem veq_ok : ∀ (n : Nat) {a b : Value}, veq n a b = true → a = b
  | 0, _, _, h => by cases h
  | n + 1, x, b, h => by
    have ih := fun a b => veq_ok n (a := a) (b := b)
    cases b
    case bool b =>
      have h : veB x b = true := h
      unfold veB at h
      cases e : asB x with
      | no => rw [e] at h; cases h
      | yes c => rw [e] at h; dsimp only at h; rw [eqB_eq] at h; rw [asB_yes e, eq_of_beq h]
    case int k n =>
      have h : veI x k n = true := h
      unfold veI at h
      cases e : asI x with
      | no => rw [e] at h; cases h
      | yes j m =>
        rw [e] at h
        dsimp only at h
        cases e2 : Nat.beq (ikNum j) (ikNum k) with
        | false => rw [e2] at h; cases h
        | true => rw [e2] at h; rw [asI_yes e, ik_eq e2, (eqI_iff _ _).1 h]
    case float => cases h
    case complex => cases h
    case string s =>
      have h : veS x s = true := h
      unfold veS at h
      cases e : asS x with
      | no => rw [e] at h; cases h
      | yes t =>
        rw [e] at h
        have e2 := (eqU_iff _ _).1 h
        have e3 : t.data = s.data := Array.toList_inj.1 e2
        have e4 : t = s := by cases t; cases s; cases e3; rfl
        rw [asS_yes e, e4]
    case pointer a =>
      have h : veP x a = true := h
      unfold veP at h
      cases e : asP x with
      | no => rw [e] at h; cases h
      | null =>
        rw [e] at h
        cases a with
        | none => exact asP_null e
        | some _ => cases h
      | yes b =>
        rw [e] at h
        cases a with
        | none => cases h
        | some a => rw [asP_yes e, addrEq_ok h]
    case slice a m c =>
      have h : veL x a m c = true := h
      unfold veL at h
      cases e : asL x with
      | no => rw [e] at h; cases h
      | yes a' m' c' =>
        rw [e] at h
        dsimp only at h
        cases e2 : Nat.beq c' c with
        | false => rw [e2] at h; cases h
        | true =>
          rw [e2] at h
          dsimp only at h
          cases e3 : Nat.beq m' m with
          | false => rw [e3] at h; cases h
          | true => rw [e3] at h; rw [asL_yes e, optAddr_ok h, Nat.beq_eq.mp e3, Nat.beq_eq.mp e2]
    case map r =>
      have h : veM x r = true := h
      unfold veM at h
      cases e : asM x with
      | no => rw [e] at h; cases h
      | yes r' =>
        rw [e] at h
        cases r' with
        | none => cases r with
          | none => exact asM_yes e
          | some _ => cases h
        | some b => cases r with
          | none => cases h
          | some a => rw [asM_yes e, Nat.beq_eq.mp h]
    case chan => cases h
    case func => cases h
    case nilFunc =>
      have h : veF x = true := h
      unfold veF at h
      cases e : asF x with
      | no => rw [e] at h; cases h
      | null => exact asF_null e
      | yes _ _ _ => rw [e] at h; cases h
    case iface t w =>
      have h : veX (veq n) x t w = true := h
      unfold veX at h
      cases e : asX x with
      | no => rw [e] at h; cases h
      | null => rw [e] at h; cases h
      | yes u y =>
        rw [e] at h
        dsimp only at h
        cases e2 : Nat.beq u t with
        | false => rw [e2] at h; cases h
        | true => rw [e2] at h; rw [asX_yes e, Nat.beq_eq.mp e2, ih _ _ h]
    case nilIface =>
      have h : veX0 x = true := h
      unfold veX0 at h
      cases e : asX x with
      | no => rw [e] at h; cases h
      | null => exact asX_null e
      | yes _ _ => rw [e] at h; cases h
    case agg a =>
      have h : veA (veq n) x a = true := h
      unfold veA at h
      cases e : asA x with
      | no => rw [e] at h; cases h
      | yes b => rw [e] at h; rw [asA_yes e, Array.toList_inj.1 (listEq_ok ih h)]
    case tuple a =>
      have h : veT (veq n) x a = true := h
      unfold veT at h
      cases e : asT x with
      | no => rw [e] at h; cases h
      | yes b => rw [e] at h; rw [asT_yes e, Array.toList_inj.1 (listEq_ok ih h)]

theorem againV_ok {a : Again} (hh : againV fr h a = true) : pev a.o (ev (frD fr)) (den E h) = some (frD fr a.t) := by
  unfold againV at hh
  cases e : pevE a.o fr h with
  | none => rw [e] at hh; cases hh
  | some v =>
    rw [e] at hh
    have e2 : getV (path a.t) fr = frD fr a.t := getV_eq _ _
    dsimp only at hh
    rw [e2] at hh
    rw [pevE_ok e, veq_ok 20 hh]
theorem again1_ok {a : Again} (hh : again1 fr h a = true) : AgainR (frD fr) (den E h) a := by
  intro hw
  unfold again1 at hh
  cases e : a.g with
  | none => rw [e] at hh; exact againV_ok hh
  | some g =>
    rw [e] at hh hw
    dsimp only at hh
    rw [← wantsE_eq] at hw
    rw [hw] at hh
    exact againV_ok hh
theorem againE_ok : ∀ {l : List Again}, againE fr h l = true → ∀ x ∈ l, AgainR (frD fr) (den E h) x
  | [], _, x, hx => by cases hx
  | a :: l, hh, x, hx => by
    have hh : (@Bool.rec (fun _ => Bool) false (againE fr h l) (again1 fr h a)) = true := hh
    cases e : again1 fr h a with
    | false => rw [e] at hh; cases hh
    | true =>
      rw [e] at hh
      rcases List.mem_cons.1 hx with hx1 | hx1
      · rw [hx1]; exact again1_ok e
      · exact againE_ok hh x hx1

theorem stagesE_ok (hC : CallOk C R) : ∀ {l : List Stage} {fr fr' : FV} {h h' : HS}, stagesE L C E l fr h = .ok fr' h' → ∀ {K : Fr → CW → Prop}, K (frD fr') (den E h') → StagesW R l (frD fr) (den E h) K
  | [], fr, fr', h, h', hh, K, hK => by cases hh; exact hK
  | s :: l, fr, fr', h, h', hh, K, hK => by
    have hh : (@SR.rec (fun _ => SR) .bad (fun fr h => @Bool.rec (fun _ => SR) .bad (@SR.rec (fun _ => SR) .bad (stagesE L C E l) (stepsE L C E s.seg fr h)) (againE fr h s.ag)) (stepE L C E s.e fr h)) = .ok fr' h' := hh
    cases e : stepE L C E s.e fr h with
    | bad => rw [e] at hh; cases hh
    | ok f1 h1 =>
      rw [e] at hh
      dsimp only at hh
      cases e2 : againE f1 h1 s.ag with
      | false => rw [e2] at hh; cases hh
      | true =>
        rw [e2] at hh
        dsimp only at hh
        cases e3 : stepsE L C E s.seg f1 h1 with
        | bad => rw [e3] at hh; cases hh
        | ok f2 h2 => rw [e3] at hh; exact stepE_ok hC e ⟨againE_ok e2, stepsE_ok hC e3 (stagesE_ok hC hh hK)⟩

theorem rcOf_ok {r : SR} {e : CExit} (hh : rcOf r = .ok e fr' h') : r = .ok fr' h' ∧ e = .normal := by
  cases r with
  | bad => cases hh
  | ok f x => cases hh; exact ⟨rfl, rfl⟩

theorem seqK_ok {b : FV → HS → RC} {r : RC} {e : CExit} (hh : seqK b r = .ok e fr' h') : (∃ f1 h1, r = .ok .normal f1 h1 ∧ b f1 h1 = .ok e fr' h') ∨ (r = .ok e fr' h' ∧ e ≠ .normal) := by
  cases r with
  | bad => cases hh
  | ok e1 f1 h1 =>
    cases e1 with
    | normal => exact .inl ⟨f1, h1, rfl, hh⟩
    | exit id => cases hh; exact .inr ⟨rfl, fun h => by cases h⟩
    | ret => cases hh; exact .inr ⟨rfl, fun h => by cases h⟩

/-- the code does what the evaluator says -/
def CodeOk (R : CallQ) (E : LE) (f : FV → HS → RC) (c : CCode) : Prop := ∀ ⦃fr fr' : FV⦄ ⦃h h' : HS⦄ ⦃e : CExit⦄, f fr h = .ok e fr' h' → ∀ ⦃Q : CExit → Fr → CW → Prop⦄, Q e (frD fr') (den E h') → CodeW R c (frD fr) (den E h) Q

/-- one way out alone -/
def Just (E : LE) (e : CExit) (fr : FV) (h : HS) : CExit → Fr → CW → Prop := fun e' fr' σ' => e' = e ∧ fr' = frD fr ∧ σ' = den E h

theorem loopK_ok {c : CCode} {body : FV → HS → RC} (hb : CodeOk R E body c) : ∀ (n : Nat), CodeOk R E (loopK body n) (.loop c)
  | 0 => by intro fr fr' h h' e hh; cases hh
  | n + 1 => by
    intro fr fr' h h' e hh Q hQ
    have hh : seqK (loopK body n) (body fr h) = .ok e fr' h' := hh
    rcases seqK_ok hh with ⟨f1, h1, g1, g2⟩ | ⟨g1, g2⟩
    · refine .loop (hb g1 (Q := Just E .normal f1 h1) ⟨rfl, rfl, rfl⟩) ?_ ?_
      · rintro _ _ ⟨_, rfl, rfl⟩; exact loopK_ok hb n g2 hQ
      · rintro _ _ _ hne ⟨rfl, _, _⟩; exact absurd rfl hne
    · refine .loop (hb g1 (Q := Just E e fr' h') ⟨rfl, rfl, rfl⟩) ?_ ?_
      · rintro _ _ ⟨he, _, _⟩; exact absurd he.symm g2
      · rintro _ _ _ _ ⟨rfl, rfl, rfl⟩; exact hQ

theorem withLD_same (E : LE) (c : Nat) (d : LD) : withLD E c d c = some d := by
  unfold withLD; rw [show Nat.beq c c = true from Nat.beq_refl c]
theorem withLD_ne (E : LE) {c n : Nat} (d : LD) (hn : n ≠ c) : withLD E c d n = E n := by
  unfold withLD; rw [beq_false.2 hn]
theorem den_with (E : LE) (c : Nat) (d : LD) (h : HS) : den E (setH h c .dead) = (den (withLD E c d) h).set c .dead := by
  rw [den_set]
  show CW.mk (upd (fun n => (getP (path n) h.t).map (denO (E n))) c (some .dead)) h.next h.ro h.inj _ = CW.mk (upd (fun n => (getP (path n) h.t).map (denO (withLD E c d n))) c (some .dead)) h.next h.ro h.inj _
  congr 1
  funext n
  unfold upd
  by_cases hn : n = c
  · simp [hn]
  · simp only [hn, if_false, withLD_ne E d hn]
theorem rfEnd_ok {c : Nat} {o : Option EObj} {e : CExit} (hh : rfEnd fr c h o = .ok e fr' h') : ∃ st pend, o = some (.loop st pend) ∧ st ≠ .busy ∧ pend ≠ some .normal ∧ e = pend.getD .normal ∧ fr' = fr ∧ h' = setH h c .dead := by
  cases o with
  | none => cases hh
  | some o =>
    cases o with
    | loop st pend =>
      have hh : (@Bool.rec (fun _ => RC) (@Option.rec CExit (fun _ => RC) (.ok .normal fr (setH h c .dead)) (fun e => @Bool.rec (fun _ => RC) (.ok e fr (setH h c .dead)) .bad (isNormE e)) pend) .bad (isBusy st)) = .ok e fr' h' := hh
      cases e1 : isBusy st with
      | true => rw [e1] at hh; cases hh
      | false =>
        rw [e1] at hh
        have hst : st ≠ .busy := fun h => by rw [h] at e1; cases e1
        cases pend with
        | none => cases hh; exact ⟨st, none, rfl, hst, (fun h => by cases h), rfl, rfl, rfl⟩
        | some p =>
          have hh : (@Bool.rec (fun _ => RC) (.ok p fr (setH h c .dead)) .bad (isNormE p)) = .ok e fr' h' := hh
          cases e2 : isNormE p with
          | true => rw [e2] at hh; cases hh
          | false => rw [e2] at hh; cases hh; exact ⟨st, some _, rfl, hst, (fun h => by cases h; cases e2), rfl, rfl, rfl⟩
    | _ => cases hh

theorem rfunE_ok (hC : CallOk C R) {f : Operand} {ps : List Tmp} {as body : CCode} : CodeOk R E (rfunE C E f ps as body) (.rfun f ps as body) := by
  intro fr fr' h h' e hh Q hQ
  unfold rfunE at hh
  rw [evE_eq] at hh
  cases e1 : asF (ev (frD fr) f) with
  | no => rw [e1] at hh; cases hh
  | null => rw [e1] at hh; cases hh
  | yes g a b =>
    rw [e1] at hh
    have hh : rfun1 C E ps as body fr h g a b = .ok e fr' h' := hh
    cases g with
    | func g =>
      have hh : rfRet fr h.next (C (withLD E h.next ⟨fr, ps, as, body⟩) (.func g) (catE a.toList (catE [.func (.yield h.next) ⟨[]⟩ ⟨[]⟩] b.toList)) (addH h (.loop .ready none))) = .ok e fr' h' := hh
      rw [catE_eq, catE_eq, ← List.append_assoc] at hh
      cases e2 : C (withLD E h.next ⟨fr, ps, as, body⟩) (.func g) (a.toList ++ [.func (.yield h.next) ⟨[]⟩ ⟨[]⟩] ++ b.toList) (addH h (.loop .ready none)) with
      | bad => rw [e2] at hh; cases hh
      | ok v h2 =>
        rw [e2] at hh
        obtain ⟨st, pend, g1, g2, g3, rfl, rfl, rfl⟩ := rfEnd_ok (show rfEnd fr h.next h2 (getP (path h.next) h2.t) = .ok e fr' h' from hh)
        have e3 : den (withLD E h.next ⟨fr', ps, as, body⟩) (addH h (.loop .ready none)) = (den E h).add (.loop .ready (frD fr') ps as body none) := by
          rw [den_add, withLD_same]
          unfold CW.add
          show CW.mk (upd (fun n => (getP (path n) h.t).map (denO (withLD E h.next _ n))) h.next _) _ _ _ _ = CW.mk (upd (fun n => (getP (path n) h.t).map (denO (E n))) h.next _) _ _ _ _
          congr 1
          funext n
          unfold upd
          by_cases hn : n = h.next
          · simp [hn]; rfl
          · simp only [hn, if_false, withLD_ne E _ hn]
        refine .rfun g a b (asF_yes e1) ?_
        have := hC _ _ _ _ _ _ e2 (fun _ σ2 => ∃ st pend, σ2.heap h.next = some (.loop st (frD fr') ps as body pend) ∧ st ≠ .busy ∧ pend ≠ some .normal ∧ Q (pend.getD .normal) (frD fr') (σ2.set h.next .dead)) ?_
        · rw [e3] at this; exact this
        · refine ⟨st, pend, ?_, g2, g3, ?_⟩
          · rw [den_get g1, withLD_same]; rfl
          · rw [← den_with]; exact hQ
    | _ => cases hh

theorem codeE_ok (hC : CallOk C R) : ∀ (c : CCode), CodeOk R E (codeE L C E c) c
  | .skip => by intro fr fr' h h' e hh Q hQ; cases hh; exact .skip hQ
  | .region ops => by
    intro fr fr' h h' e hh Q hQ
    have hh : rcOf (stepsE L C E ops fr h) = .ok e fr' h' := hh
    obtain ⟨g1, rfl⟩ := rcOf_ok hh
    exact .region (stepsE_ok hC g1 hQ)
  | .dregion seg st => by
    intro fr fr' h h' e hh Q hQ
    have hh : rcOf (@SR.rec (fun _ => SR) .bad (stagesE L C E st) (stepsE L C E seg fr h)) = .ok e fr' h' := hh
    obtain ⟨g1, rfl⟩ := rcOf_ok hh
    cases e2 : stepsE L C E seg fr h with
    | bad => rw [e2] at g1; cases g1
    | ok f1 h1 => rw [e2] at g1; exact .dregion (stepsE_ok hC e2 (stagesE_ok hC g1 hQ))
  | .seq a b => by
    intro fr fr' h h' e hh Q hQ
    have hh : seqK (codeE L C E b) (codeE L C E a fr h) = .ok e fr' h' := hh
    rcases seqK_ok hh with ⟨f1, h1, g1, g2⟩ | ⟨g1, g2⟩
    · refine .seq (codeE_ok hC a g1 (Q := Just E .normal f1 h1) ⟨rfl, rfl, rfl⟩) ?_ ?_
      · rintro _ _ ⟨_, rfl, rfl⟩; exact codeE_ok hC b g2 hQ
      · rintro _ _ _ hne ⟨rfl, _, _⟩; exact absurd rfl hne
    · refine .seq (codeE_ok hC a g1 (Q := Just E e fr' h') ⟨rfl, rfl, rfl⟩) ?_ ?_
      · rintro _ _ ⟨he, _, _⟩; exact absurd he.symm g2
      · rintro _ _ _ _ ⟨rfl, rfl, rfl⟩; exact hQ
  | .cond c a b => by
    intro fr fr' h h' e hh Q hQ
    have hh : (@VB.rec (fun _ => RC) .bad (fun t => @Bool.rec (fun _ => RC) (codeE L C E b fr h) (codeE L C E a fr h) t) (asB (evE c fr))) = .ok e fr' h' := hh
    rw [evE_eq] at hh
    cases e2 : asB (ev (frD fr) c) with
    | no => rw [e2] at hh; cases hh
    | yes t =>
      rw [e2] at hh
      cases t with
      | true => exact .yes (asB_yes e2) (codeE_ok hC a hh hQ)
      | false => exact .no (asB_yes e2) (codeE_ok hC b hh hQ)
  | .block id c => by
    intro fr fr' h h' e hh Q hQ
    have hh : blockK id (codeE L C E c fr h) = .ok e fr' h' := hh
    cases e2 : codeE L C E c fr h with
    | bad => rw [e2] at hh; cases hh
    | ok e1 f1 h1 =>
      rw [e2] at hh
      refine .block (codeE_ok hC c e2 (Q := Just E e1 f1 h1) ⟨rfl, rfl, rfl⟩) ?_
      rintro _ _ _ ⟨he, rfl, rfl⟩
      rw [he]
      cases e1 with
      | normal => cases hh; rw [if_neg (fun h => by cases h)]; exact hQ
      | ret => cases hh; rw [if_neg (fun h => by cases h)]; exact hQ
      | exit id' =>
        have hh : (@Bool.rec (fun _ => RC) (.ok (.exit id') f1 h1) (.ok .normal f1 h1) (Nat.beq id' id)) = .ok e fr' h' := hh
        cases e3 : Nat.beq id' id with
        | true =>
          have := Nat.beq_eq.mp e3
          subst this
          rw [e3] at hh; cases hh
          rw [if_pos rfl]; exact hQ
        | false =>
          rw [e3] at hh; cases hh
          rw [if_neg (fun h => by cases h; simp at e3)]; exact hQ
  | .loop c => by
    intro fr fr' h h' e hh Q hQ
    have hh : loopK (codeE L C E c) 100000 fr h = .ok e fr' h' := hh
    exact loopK_ok (codeE_ok hC c) _ hh hQ
  | .exit id => by intro fr fr' h h' e hh Q hQ; cases hh; exact .exit hQ
  | .ret => by intro fr fr' h h' e hh Q hQ; cases hh; exact .ret hQ
  | .no => by intro fr fr' h h' e hh; cases hh
  | .rfun f ps as body => by
    intro fr fr' h h' e hh Q hQ
    exact rfunE_ok hC (show rfunE C E f ps as body fr h = .ok e fr' h' from hh) hQ

theorem argsF_eq (l : List Value) : ∀ (k : Nat), frD (argsF l k) = fun t => if k ≤ t then (l[t - k]?).getD cundef else cundef := by
  induction l with
  | nil =>
    intro k; funext t
    show ((getP (path t) (.nil : FV)).getD cundef) = _
    rw [get_nil]; simp
  | cons a l ih =>
    intro k
    show frD (setP a (path k) (argsF l (k + 1))) = _
    rw [frD_set, ih (k + 1)]
    funext t
    unfold upd
    by_cases h1 : t = k
    · subst h1; simp
    · rw [if_neg h1]
      show (if k + 1 ≤ t then (l[t - (k + 1)]?).getD cundef else cundef) = _
      by_cases h2 : k + 1 ≤ t
      · have e : t - k = (t - (k + 1)) + 1 := by omega
        rw [if_pos h2, if_pos (by omega), e]; simp
      · rw [if_neg h2, if_neg (by omega)]
theorem argsF_init (l : List Value) : frD (argsF l 0) = initFr l := by
  rw [argsF_eq]; funext t; simp [initFr]

theorem resE1_ok {r : CRes} (hh : resE1 fr h r = some v) : res1 (frD fr) (den E h) r = some v := by
  cases r with
  | tmp t => have hh : some (getV (path t) fr) = some v := hh; rw [getV_eq] at hh; exact hh
  | ld1 t => exact pLd1_ok hh
  | ldN n t => exact pLdN_ok hh
theorem resLE_ok : ∀ {rs : List CRes} {vs : List Value}, resLE fr h rs = some vs → resL (frD fr) (den E h) rs = some vs
  | [], vs, hh => hh
  | r :: rs, vs, hh => by
    have hh : (@Option.rec Value (fun _ => Option (List Value)) none (fun v => @Option.rec (List Value) (fun _ => Option (List Value)) none (fun vs => some (v :: vs)) (resLE fr h rs)) (resE1 fr h r)) = some vs := hh
    cases e : resE1 fr h r with
    | none => rw [e] at hh; cases hh
    | some v =>
      rw [e] at hh
      dsimp only at hh
      cases e2 : resLE fr h rs with
      | none => rw [e2] at hh; cases hh
      | some vs' => rw [e2] at hh; simp only [resL, resE1_ok e, resLE_ok e2]; exact hh
theorem resVE_eq (l : List Value) : resVE l = resV l := by
  match l with
  | [] => rfl
  | [_] => rfl
  | _ :: _ :: _ => rfl

theorem setPsE_ok : ∀ {ps : List Tmp} {vs : List Value} {fr fr' : FV}, setPsE ps vs fr = some fr' → setPs (frD fr) ps vs = frD fr' ∧ vs.length = ps.length
  | [], vs, fr, fr', hh => by
    cases vs with
    | nil => cases hh; exact ⟨rfl, rfl⟩
    | cons _ _ => cases hh
  | t :: ps, vs, fr, fr', hh => by
    cases vs with
    | nil => cases hh
    | cons v vs =>
      have hh : setPsE ps vs (setP v (path t) fr) = some fr' := hh
      obtain ⟨h1, h2⟩ := setPsE_ok hh
      rw [frD_set] at h1
      exact ⟨h1, by simp [h2]⟩
theorem isLoop_ok {st : LoopState → Bool} {o : Option EObj} (hh : isLoop st o = true) : ∃ s, o = some (.loop s none) ∧ st s = true := by
  cases o with
  | none => cases hh
  | some o =>
    cases o with
    | loop s p =>
      have hh : (@Bool.rec (fun _ => Bool) false (@Option.rec CExit (fun _ => Bool) true (fun _ => false) p) (st s)) = true := hh
      cases e : st s with
      | false => rw [e] at hh; cases hh
      | true =>
        cases p with
        | some _ => rw [e] at hh; cases hh
        | none => exact ⟨s, rfl, e⟩
    | _ => cases hh
theorem isReady_ok {s : LoopState} (h : isReady s = true) : s = .ready := by cases s <;> first | rfl | cases h
theorem isBusy_ok {s : LoopState} (h : isBusy s = true) : s = .busy := by cases s <;> first | rfl | cases h
theorem isNormE_eq (e : CExit) : isNormE e = e.nm := by cases e <;> rfl
theorem isNormE_ok {e : CExit} (h : isNormE e = true) : e = .normal := by cases e <;> first | rfl | cases h
theorem den_setC (E : LE) (h : HS) (b : Nat) (o : EObj) : den E (setH h b o) = (den E h).set b (denO (E b) o) := den_set E h b o

theorem yieldE_ok {T : Nat → Option CFun} (hC : CallOk C (CallA T)) {c : Nat} {args : List Value} (hh : yieldE C E c args h = .ok v h') {Q : Value → CW → Prop} (hQ : Q v (den E h')) : CallA T (.yield c) args (den E h) Q := by
  unfold yieldE at hh
  cases e1 : Nat.ble h.ro c with
  | false => rw [e1] at hh; cases hh
  | true =>
    rw [e1] at hh
    dsimp only at hh
    cases e2 : isLoop isReady (getP (path c) h.t) with
    | false => rw [e2] at hh; cases hh
    | true =>
      rw [e2] at hh
      dsimp only at hh
      cases e3 : E c with
      | none => rw [e3] at hh; cases hh
      | some d =>
        rw [e3] at hh
        have hh : yLD C E c args h d = .ok v h' := hh
        unfold yLD at hh
        cases e4 : setPsE d.ps args d.fr with
        | none => rw [e4] at hh; cases hh
        | some f0 =>
          rw [e4] at hh
          have hh : yAs (codeE false C E d.body) c (codeE false C E d.as f0 h) = .ok v h' := hh
          obtain ⟨s, q1, q2⟩ := isLoop_ok e2
          have q2 := isReady_ok q2
          subst q2
          obtain ⟨p1, p2⟩ := setPsE_ok e4
          have r1 : (den E h).heap c = some (.loop .ready (frD d.fr) d.ps d.as d.body none) := by rw [den_get q1, e3]; rfl
          refine CallA.yield r1 (Nat.ble_eq.mp e1) p2 ?_
          rw [p1]
          cases e5 : codeE false C E d.as f0 h with
          | bad => rw [e5] at hh; cases hh
          | ok x1 f1 h1 =>
            rw [e5] at hh
            have hh : (@Bool.rec (fun _ => ER) .bad (@Bool.rec (fun _ => ER) .bad (yBody c (codeE false C E d.body f1 (setH h1 c (.loop .busy none)))) (isLoop isReady (getP (path c) h1.t))) (isNormE x1)) = .ok v h' := hh
            cases e6 : isNormE x1 with
            | false => rw [e6] at hh; cases hh
            | true =>
              rw [e6] at hh
              dsimp only at hh
              cases e7 : isLoop isReady (getP (path c) h1.t) with
              | false => rw [e7] at hh; cases hh
              | true =>
                rw [e7] at hh
                dsimp only at hh
                obtain ⟨s, q3, q4⟩ := isLoop_ok e7
                have q4 := isReady_ok q4
                subst q4
                refine codeE_ok hC d.as e5 ⟨isNormE_ok e6, by rw [den_get q3, e3]; rfl, ?_⟩
                have r2 : (den E h1).set c (.loop .busy (frD d.fr) d.ps d.as d.body none) = den E (setH h1 c (.loop .busy none)) := by rw [den_setC, e3]; rfl
                rw [r2]
                cases e8 : codeE false C E d.body f1 (setH h1 c (.loop .busy none)) with
                | bad => rw [e8] at hh; cases hh
                | ok x2 f2 h2 =>
                  rw [e8] at hh
                  have hh : (@Bool.rec (fun _ => ER) .bad (@Bool.rec (fun _ => ER) (.ok (.bool false) (setH h2 c (.loop .done (some x2)))) (.ok (.bool true) (setH h2 c (.loop .ready none))) (isNormE x2)) (isLoop isBusy (getP (path c) h2.t))) = .ok v h' := hh
                  cases e9 : isLoop isBusy (getP (path c) h2.t) with
                  | false => rw [e9] at hh; cases hh
                  | true =>
                    rw [e9] at hh
                    dsimp only at hh
                    obtain ⟨s, q5, q6⟩ := isLoop_ok e9
                    have q6 := isBusy_ok q6
                    subst q6
                    refine codeE_ok hC d.body e8 ⟨by rw [den_get q5, e3]; rfl, ?_⟩
                    rw [isNormE_eq] at hh
                    cases e10 : x2.nm with
                    | true =>
                      rw [e10] at hh
                      cases hh
                      rw [den_setC, e3] at hQ
                      exact hQ
                    | false =>
                      rw [e10] at hh
                      cases hh
                      rw [den_setC, e3] at hQ
                      exact hQ

theorem retK_ok {rs : List CRes} {f1 : FV} {h1 : HS} {v : Value} {h' : HS} (hh : retK rs f1 h1 = .ok v h') : ∃ vs, resL (frD f1) (den E h1) rs = some vs ∧ v = resV vs ∧ h' = h1 := by
  unfold retK at hh
  cases e3 : resLE f1 h1 rs with
  | none => rw [e3] at hh; cases hh
  | some vs => rw [e3] at hh; cases hh; exact ⟨vs, resLE_ok e3, resVE_eq vs, rfl⟩
theorem finK_ok {rs : List CRes} {ex : CExit} {f1 : FV} {h1 : HS} {v : Value} {h' : HS} (hh : finK rs (.ok ex f1 h1) = .ok v h') {Q : Value → CW → Prop} (hQ : Q v (den E h')) :
    (ex = .normal ∨ ex = .ret) ∧ ∃ vs, resL (frD f1) (den E h1) rs = some vs ∧ Q (resV vs) (den E h1) := by
  cases ex with
  | exit id => cases hh
  | normal =>
    obtain ⟨vs, g1, rfl, rfl⟩ := retK_ok (E := E) hh
    exact ⟨.inl rfl, vs, g1, hQ⟩
  | ret =>
    obtain ⟨vs, g1, rfl, rfl⟩ := retK_ok (E := E) hh
    exact ⟨.inr rfl, vs, g1, hQ⟩

theorem callE_ok {T : Nat → Option CFun} : ∀ d, CallOk (callE T d) (CallA T)
  | 0 => fun E f args h v h' hh => by cases hh
  | d + 1 => fun E f args h v h' hh Q hQ => by
    cases f with
    | func f =>
      have hh : (@Option.rec CFun (fun _ => ER) .bad (fun cf => finK cf.res (codeE false (callE T d) E cf.body (argsF args 0) h)) (T f)) = .ok v h' := hh
      cases e : T f with
      | none => rw [e] at hh; cases hh
      | some cf =>
        rw [e] at hh
        dsimp only at hh
        cases e2 : codeE false (callE T d) E cf.body (argsF args 0) h with
        | bad => rw [e2] at hh; cases hh
        | ok ex f1 h1 =>
          rw [e2] at hh
          refine CallA.func e ?_
          rw [← argsF_init]
          exact codeE_ok (callE_ok d) cf.body e2 (finK_ok hh hQ)
    | yield c => exact yieldE_ok (callE_ok d) (show yieldE (callE T d) E c args h = .ok v h' from hh) hQ
    | _ => cases hh

theorem isTrue_ok {r : ER} (hh : isTrue r = true) : ∃ h, r = .ok (.bool true) h := by
  cases r with
  | bad => cases hh
  | ok v h =>
    have hh : (@VB.rec (fun _ => Bool) false (fun b => b) (asB v)) = true := hh
    cases e : asB v with
    | no => rw [e] at hh; cases hh
    | yes b => rw [e] at hh; have hh : b = true := hh; rw [asB_yes e, hh]; exact ⟨h, rfl⟩

end
end Go.Cn.Ev
