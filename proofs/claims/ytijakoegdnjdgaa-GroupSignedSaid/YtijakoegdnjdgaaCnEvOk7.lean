/- The evaluator is right: steps, code, calls. -/
import Derived.Test.YtijakoegdnjdgaaCnEvOk6
namespace Go.Cn
set_option linter.unusedVariables false
set_option linter.unusedSimpArgs false

section
variable {fr fr' : FV} {h h' : HS} {v : Value} {C : CF} {R : CallR}

theorem goC_ok (hC : CallOk C R) {o : COp} {d : Option Tmp} (hh : goC o d C fr h = .ok fr' h') : ∃ v, OpR R o (ev (frD fr)) (den h) v (den h') ∧ frD fr' = putT (frD fr) d v := by
  cases o with
  | p o =>
    have hh : goP d o fr h = .ok fr' h' := hh
    unfold goP at hh
    cases e : pevE o fr h with
    | none => rw [e] at hh; cases hh
    | some v => rw [e] at hh; cases hh; exact ⟨v, ⟨pevE_ok e, rfl⟩, setD_eq d v fr⟩
  | a o =>
    have hh : goA d o fr h = .ok fr' h' := hh
    unfold goA at hh
    cases e : aevE o fr h.next with
    | bad => rw [e] at hh; cases hh
    | ok obj v => rw [e] at hh; cases hh; exact ⟨v, ⟨obj, aevE_ok e, den_add h obj⟩, setD_eq d v fr⟩
  | e o =>
    have hh : goE d o C fr h = .ok fr' h' := hh
    unfold goE at hh
    cases e : eevE o C fr h with
    | bad => rw [e] at hh; cases hh
    | ok v h1 => rw [e] at hh; cases hh; exact ⟨v, eevE_ok hC e, setD_eq d v fr⟩
  | no => cases hh

theorem wantsE_eq (fr : FV) (g : Tmp × Bool) : wantsE fr g = wants (frD fr) (some g) := by
  unfold wantsE
  have e : getV (path g.1) fr = frD fr g.1 := getV_eq _ _
  rw [e]
  show _ = match frD fr g.1 with | .bool c => c == g.2 | _ => false
  cases frD fr g.1 <;> first | rfl | exact eqB_eq _ _

theorem stepE_ok (hC : CallOk C R) {s : CStep} (hh : stepE C s fr h = .ok fr' h') : StepR R s (frD fr) (den h) (frD fr') (den h') := by
  unfold stepE at hh
  cases e : s.guard with
  | none =>
    rw [e] at hh
    obtain ⟨v, h1, h2⟩ := goC_ok hC hh
    exact .inl ⟨by rw [e]; rfl, v, h1, h2⟩
  | some g =>
    rw [e] at hh
    dsimp only at hh
    cases e2 : wantsE fr g with
    | true =>
      rw [e2] at hh
      obtain ⟨v, h1, h2⟩ := goC_ok hC hh
      exact .inl ⟨by rw [e, ← wantsE_eq]; exact e2, v, h1, h2⟩
    | false =>
      rw [e2] at hh
      cases hh
      exact .inr ⟨by rw [e, ← wantsE_eq]; exact e2, setD_eq _ _ _, rfl⟩

theorem stepsE_ok (hC : CallOk C R) : ∀ {l : List CStep} {fr fr' : FV} {h h' : HS}, stepsE C l fr h = .ok fr' h' → StepsR R l (frD fr) (den h) (frD fr') (den h')
  | [], fr, fr', h, h', hh => by cases hh; exact .nil _ _
  | s :: l, fr, fr', h, h', hh => by
    have hh : (@SR.rec (fun _ => SR) .bad (stepsE C l) (stepE C s fr h)) = .ok fr' h' := hh
    cases e : stepE C s fr h with
    | bad => rw [e] at hh; cases hh
    | ok f1 h1 => rw [e] at hh; exact .cons (stepE_ok hC e) (stepsE_ok hC hh)

-- equal values
theorem listEq_ok {f : Value → Value → Bool} (hf : ∀ a b, f a b = true → a = b) : ∀ {l m : List Value}, listEq f l m = true → l = m
  | [], [], _ => rfl
  | [], _ :: _, h => by cases h
  | _ :: _, [], h => by cases h
  | a :: l, b :: m, h => by
    have h : (@Bool.rec (fun _ => Bool) false (listEq f l m) (f a b)) = true := h
    cases e : f a b with
    | false => rw [e] at h; cases h
    | true => rw [e] at h; rw [hf a b e, listEq_ok hf h]

theorem addrEq_ok {a b : Addr} (h : addrEq a b = true) : a = b := by
  unfold addrEq at h
  rcases noSpot_cases a with ⟨n1, n2⟩ | n1
  · rw [n1] at h
    dsimp only at h
    rcases noSpot_cases b with ⟨m1, m2⟩ | m1
    · rw [m1] at h
      dsimp only at h
      cases e : Nat.beq a.block b.block with
      | false => rw [e] at h; cases h
      | true =>
        rw [e] at h
        have e1 := Nat.beq_eq.mp e
        have e2 : a.off = b.off := Nat.beq_eq.mp h
        cases a; cases b
        simp only at n2 m2 e1 e2
        rw [n2, m2, e1, e2]
    · rw [m1] at h; cases h
  · rw [n1] at h; cases h

theorem optAddr_ok {a a' : Option Addr} (h : (@Option.rec Addr (fun _ => Bool) (isNone' a) (fun b => @Option.rec Addr (fun _ => Bool) false (fun a => addrEq b a) a) a') = true) : a' = a := by
  cases a' with
  | none => cases a with
    | none => rfl
    | some _ => cases h
  | some b => cases a with
    | none => cases h
    | some a => rw [addrEq_ok h]

theorem veq_ok : ∀ (n : Nat) {a b : Value}, veq n a b = true → a = b
  | 0, _, _, h => by cases h
  | n + 1, x, b, h => by
    have ih := fun a b => veq_ok n (a := a) (b := b)
    cases b
    case bool b =>
      have h : veB x b = true := h
      unfold veB at h
      cases e : asB x with
      | no => rw [e] at h; cases h
      | yes c => rw [e] at h; dsimp only at h; rw [eqB_eq] at h; rw [asB_yes e, eq_of_beq h]
    case int k n =>
      have h : veI x k n = true := h
      unfold veI at h
      cases e : asI x with
      | no => rw [e] at h; cases h
      | yes j m =>
        rw [e] at h
        dsimp only at h
        cases e2 : Nat.beq (ikNum j) (ikNum k) with
        | false => rw [e2] at h; cases h
        | true => rw [e2] at h; rw [asI_yes e, ik_eq e2, (eqI_iff _ _).1 h]
    case float => cases h
    case complex => cases h
    case string s =>
      have h : veS x s = true := h
      unfold veS at h
      cases e : asS x with
      | no => rw [e] at h; cases h
      | yes t =>
        rw [e] at h
        have e2 := (eqU_iff _ _).1 h
        have e3 : t.data = s.data := Array.toList_inj.1 e2
        have e4 : t = s := by cases t; cases s; cases e3; rfl
        rw [asS_yes e, e4]
    case pointer a =>
      have h : veP x a = true := h
      unfold veP at h
      cases e : asP x with
      | no => rw [e] at h; cases h
      | null =>
        rw [e] at h
        cases a with
        | none => exact asP_null e
        | some _ => cases h
      | yes b =>
        rw [e] at h
        cases a with
        | none => cases h
        | some a => rw [asP_yes e, addrEq_ok h]
    case slice a m c =>
      have h : veL x a m c = true := h
      unfold veL at h
      cases e : asL x with
      | no => rw [e] at h; cases h
      | yes a' m' c' =>
        rw [e] at h
        dsimp only at h
        cases e2 : Nat.beq c' c with
        | false => rw [e2] at h; cases h
        | true =>
          rw [e2] at h
          dsimp only at h
          cases e3 : Nat.beq m' m with
          | false => rw [e3] at h; cases h
          | true => rw [e3] at h; rw [asL_yes e, optAddr_ok h, Nat.beq_eq.mp e3, Nat.beq_eq.mp e2]
    case map r =>
      have h : veM x r = true := h
      unfold veM at h
      cases e : asM x with
      | no => rw [e] at h; cases h
      | yes r' =>
        rw [e] at h
        cases r' with
        | none => cases r with
          | none => exact asM_yes e
          | some _ => cases h
        | some b => cases r with
          | none => cases h
          | some a => rw [asM_yes e, Nat.beq_eq.mp h]
    case chan => cases h
    case func => cases h
    case nilFunc =>
      have h : veF x = true := h
      unfold veF at h
      cases e : asF x with
      | no => rw [e] at h; cases h
      | null => exact asF_null e
      | yes _ _ _ => rw [e] at h; cases h
    case iface t w =>
      have h : veX (veq n) x t w = true := h
      unfold veX at h
      cases e : asX x with
      | no => rw [e] at h; cases h
      | null => rw [e] at h; cases h
      | yes u y =>
        rw [e] at h
        dsimp only at h
        cases e2 : Nat.beq u t with
        | false => rw [e2] at h; cases h
        | true => rw [e2] at h; rw [asX_yes e, Nat.beq_eq.mp e2, ih _ _ h]
    case nilIface =>
      have h : veX0 x = true := h
      unfold veX0 at h
      cases e : asX x with
      | no => rw [e] at h; cases h
      | null => exact asX_null e
      | yes _ _ => rw [e] at h; cases h
    case agg a =>
      have h : veA (veq n) x a = true := h
      unfold veA at h
      cases e : asA x with
      | no => rw [e] at h; cases h
      | yes b => rw [e] at h; rw [asA_yes e, Array.toList_inj.1 (listEq_ok ih h)]
    case tuple a =>
      have h : veT (veq n) x a = true := h
      unfold veT at h
      cases e : asT x with
      | no => rw [e] at h; cases h
      | yes b => rw [e] at h; rw [asT_yes e, Array.toList_inj.1 (listEq_ok ih h)]

theorem againV_ok {a : Again} (hh : againV fr h a = true) : pev a.o (ev (frD fr)) (den h) = some (frD fr a.t) := by
  unfold againV at hh
  cases e : pevE a.o fr h with
  | none => rw [e] at hh; cases hh
  | some v =>
    rw [e] at hh
    have e2 : getV (path a.t) fr = frD fr a.t := getV_eq _ _
    dsimp only at hh
    rw [e2] at hh
    rw [pevE_ok e, veq_ok 20 hh]
theorem again1_ok {a : Again} (hh : again1 fr h a = true) : AgainR (frD fr) (den h) a := by
  intro hw
  unfold again1 at hh
  cases e : a.g with
  | none => rw [e] at hh; exact againV_ok hh
  | some g =>
    rw [e] at hh hw
    dsimp only at hh
    rw [← wantsE_eq] at hw
    rw [hw] at hh
    exact againV_ok hh
theorem againE_ok : ∀ {l : List Again}, againE fr h l = true → ∀ x ∈ l, AgainR (frD fr) (den h) x
  | [], _, x, hx => by cases hx
  | a :: l, hh, x, hx => by
    have hh : (@Bool.rec (fun _ => Bool) false (againE fr h l) (again1 fr h a)) = true := hh
    cases e : again1 fr h a with
    | false => rw [e] at hh; cases hh
    | true =>
      rw [e] at hh
      rcases List.mem_cons.1 hx with hx1 | hx1
      · rw [hx1]; exact again1_ok e
      · exact againE_ok hh x hx1

theorem stagesE_ok (hC : CallOk C R) : ∀ {l : List Stage} {fr fr' : FV} {h h' : HS}, stagesE C l fr h = .ok fr' h' → StagesR R l (frD fr) (den h) (frD fr') (den h')
  | [], fr, fr', h, h', hh => by cases hh; exact .nil _ _
  | s :: l, fr, fr', h, h', hh => by
    have hh : (@SR.rec (fun _ => SR) .bad (fun fr h => @Bool.rec (fun _ => SR) .bad (@SR.rec (fun _ => SR) .bad (stagesE C l) (stepsE C s.seg fr h)) (againE fr h s.ag)) (stepE C s.e fr h)) = .ok fr' h' := hh
    cases e : stepE C s.e fr h with
    | bad => rw [e] at hh; cases hh
    | ok f1 h1 =>
      rw [e] at hh
      dsimp only at hh
      cases e2 : againE f1 h1 s.ag with
      | false => rw [e2] at hh; cases hh
      | true =>
        rw [e2] at hh
        dsimp only at hh
        cases e3 : stepsE C s.seg f1 h1 with
        | bad => rw [e3] at hh; cases hh
        | ok f2 h2 => rw [e3] at hh; exact .cons (stepE_ok hC e) (againE_ok e2) (stepsE_ok hC e3) (stagesE_ok hC hh)

theorem rcOf_ok {r : SR} {e : CExit} (hh : rcOf r = .ok e fr' h') : r = .ok fr' h' ∧ e = .normal := by
  cases r with
  | bad => cases hh
  | ok f x => cases hh; exact ⟨rfl, rfl⟩

theorem seqK_ok {b : FV → HS → RC} {r : RC} {e : CExit} (hh : seqK b r = .ok e fr' h') : (∃ f1 h1, r = .ok .normal f1 h1 ∧ b f1 h1 = .ok e fr' h') ∨ (r = .ok e fr' h' ∧ e ≠ .normal) := by
  cases r with
  | bad => cases hh
  | ok e1 f1 h1 =>
    cases e1 with
    | normal => exact .inl ⟨f1, h1, rfl, hh⟩
    | exit id => cases hh; exact .inr ⟨rfl, fun h => by cases h⟩
    | ret => cases hh; exact .inr ⟨rfl, fun h => by cases h⟩

theorem loopK_ok {c : CCode} {body : FV → HS → RC} (hb : ∀ {fr fr' : FV} {h h' : HS} {e : CExit}, body fr h = .ok e fr' h' → CodeR R c (frD fr) (den h) e (frD fr') (den h')) :
    ∀ (n : Nat) {fr fr' : FV} {h h' : HS} {e : CExit}, loopK body n fr h = .ok e fr' h' → CodeR R (.loop c) (frD fr) (den h) e (frD fr') (den h')
  | 0, fr, fr', h, h', e, hh => by cases hh
  | n + 1, fr, fr', h, h', e, hh => by
    have hh : seqK (loopK body n) (body fr h) = .ok e fr' h' := hh
    rcases seqK_ok hh with ⟨f1, h1, g1, g2⟩ | ⟨g1, g2⟩
    · exact .loop (hb g1) (loopK_ok hb n g2)
    · exact .loopOut (hb g1) g2

theorem codeE_ok (hC : CallOk C R) : ∀ (c : CCode) {fr fr' : FV} {h h' : HS} {e : CExit}, codeE C c fr h = .ok e fr' h' → CodeR R c (frD fr) (den h) e (frD fr') (den h')
  | .skip, fr, fr', h, h', e, hh => by cases hh; exact .skip _ _
  | .region ops, fr, fr', h, h', e, hh => by
    have hh : rcOf (stepsE C ops fr h) = .ok e fr' h' := hh
    obtain ⟨g1, rfl⟩ := rcOf_ok hh
    exact .region (stepsE_ok hC g1)
  | .dregion seg st, fr, fr', h, h', e, hh => by
    have hh : rcOf (@SR.rec (fun _ => SR) .bad (stagesE C st) (stepsE C seg fr h)) = .ok e fr' h' := hh
    obtain ⟨g1, rfl⟩ := rcOf_ok hh
    cases e2 : stepsE C seg fr h with
    | bad => rw [e2] at g1; cases g1
    | ok f1 h1 => rw [e2] at g1; exact .dregion (stepsE_ok hC e2) (stagesE_ok hC g1)
  | .seq a b, fr, fr', h, h', e, hh => by
    have hh : seqK (codeE C b) (codeE C a fr h) = .ok e fr' h' := hh
    rcases seqK_ok hh with ⟨f1, h1, g1, g2⟩ | ⟨g1, g2⟩
    · exact .seq (codeE_ok hC a g1) (codeE_ok hC b g2)
    · exact .seqOut (codeE_ok hC a g1) g2
  | .cond c a b, fr, fr', h, h', e, hh => by
    have hh : (@VB.rec (fun _ => RC) .bad (fun t => @Bool.rec (fun _ => RC) (codeE C b fr h) (codeE C a fr h) t) (asB (evE c fr))) = .ok e fr' h' := hh
    rw [evE_eq] at hh
    cases e2 : asB (ev (frD fr) c) with
    | no => rw [e2] at hh; cases hh
    | yes t =>
      rw [e2] at hh
      cases t with
      | true => exact .yes (asB_yes e2) (codeE_ok hC a hh)
      | false => exact .no (asB_yes e2) (codeE_ok hC b hh)
  | .block id c, fr, fr', h, h', e, hh => by
    have hh : blockK id (codeE C c fr h) = .ok e fr' h' := hh
    cases e2 : codeE C c fr h with
    | bad => rw [e2] at hh; cases hh
    | ok e1 f1 h1 =>
      rw [e2] at hh
      have ih := codeE_ok hC c e2
      cases e1 with
      | normal => cases hh; exact .block ih (fun h => by cases h)
      | ret => cases hh; exact .block ih (fun h => by cases h)
      | exit id' =>
        have hh : (@Bool.rec (fun _ => RC) (.ok (.exit id') f1 h1) (.ok .normal f1 h1) (Nat.beq id' id)) = .ok e fr' h' := hh
        cases e3 : Nat.beq id' id with
        | true =>
          have := Nat.beq_eq.mp e3
          subst this
          rw [e3] at hh; cases hh
          exact .blockOut ih
        | false =>
          rw [e3] at hh; cases hh
          exact .block ih (fun h => by cases h; simp at e3)
  | .loop c, fr, fr', h, h', e, hh => by
    have hh : loopK (codeE C c) 100000 fr h = .ok e fr' h' := hh
    exact loopK_ok (codeE_ok hC c) _ hh
  | .exit id, fr, fr', h, h', e, hh => by cases hh; exact .exit _ _ _
  | .ret, fr, fr', h, h', e, hh => by cases hh; exact .ret _ _
  | .no, fr, fr', h, h', e, hh => by cases hh

theorem argsF_eq (l : List Value) : ∀ (k : Nat), frD (argsF l k) = fun t => if k ≤ t then (l[t - k]?).getD cundef else cundef := by
  induction l with
  | nil =>
    intro k; funext t
    show ((getP (path t) (.nil : FV)).getD cundef) = _
    rw [get_nil]; simp
  | cons a l ih =>
    intro k
    show frD (setP a (path k) (argsF l (k + 1))) = _
    rw [frD_set, ih (k + 1)]
    funext t
    unfold upd
    by_cases h1 : t = k
    · subst h1; simp
    · rw [if_neg h1]
      show (if k + 1 ≤ t then (l[t - (k + 1)]?).getD cundef else cundef) = _
      by_cases h2 : k + 1 ≤ t
      · have e : t - k = (t - (k + 1)) + 1 := by omega
        rw [if_pos h2, if_pos (by omega), e]; simp
      · rw [if_neg h2, if_neg (by omega)]
theorem argsF_init (l : List Value) : frD (argsF l 0) = initFr l := by
  rw [argsF_eq]; funext t; simp [initFr]

theorem resE1_ok {r : CRes} (hh : resE1 fr h r = some v) : res1 (frD fr) (den h) r = some v := by
  cases r with
  | tmp t => have hh : some (getV (path t) fr) = some v := hh; rw [getV_eq] at hh; exact hh
  | ld1 t => exact pLd1_ok hh
  | ldN n t => exact pLdN_ok hh
theorem resLE_ok : ∀ {rs : List CRes} {vs : List Value}, resLE fr h rs = some vs → resL (frD fr) (den h) rs = some vs
  | [], vs, hh => hh
  | r :: rs, vs, hh => by
    have hh : (@Option.rec Value (fun _ => Option (List Value)) none (fun v => @Option.rec (List Value) (fun _ => Option (List Value)) none (fun vs => some (v :: vs)) (resLE fr h rs)) (resE1 fr h r)) = some vs := hh
    cases e : resE1 fr h r with
    | none => rw [e] at hh; cases hh
    | some v =>
      rw [e] at hh
      dsimp only at hh
      cases e2 : resLE fr h rs with
      | none => rw [e2] at hh; cases hh
      | some vs' => rw [e2] at hh; simp only [resL, resE1_ok e, resLE_ok e2]; exact hh
theorem resVE_eq (l : List Value) : resVE l = resV l := by
  match l with
  | [] => rfl
  | [_] => rfl
  | _ :: _ :: _ => rfl

theorem callE_ok {T : Nat → Option CFun} : ∀ d, CallOk (callE T d) (CallN T d)
  | 0 => fun f args h v h' hh => by cases hh
  | d + 1 => fun f args h v h' hh => by
    have hh : (@Option.rec CFun (fun _ => ER) .bad (fun cf => finK cf.res (codeE (callE T d) cf.body (argsF args 0) h)) (T f)) = .ok v h' := hh
    cases e : T f with
    | none => rw [e] at hh; cases hh
    | some cf =>
      rw [e] at hh
      dsimp only at hh
      cases e2 : codeE (callE T d) cf.body (argsF args 0) h with
      | bad => rw [e2] at hh; cases hh
      | ok ex f1 h1 =>
        rw [e2] at hh
        have hcode := codeE_ok (callE_ok d) cf.body e2
        rw [argsF_init] at hcode
        have hret : ∀ {v h'}, retK cf.res f1 h1 = .ok v h' → ∃ vs, resL (frD f1) (den h1) cf.res = some vs ∧ v = resV vs ∧ h' = h1 := by
          intro v h' hh
          unfold retK at hh
          cases e3 : resLE f1 h1 cf.res with
          | none => rw [e3] at hh; cases hh
          | some vs => rw [e3] at hh; cases hh; exact ⟨vs, resLE_ok e3, resVE_eq vs, rfl⟩
        cases ex with
        | exit id => cases hh
        | normal =>
          obtain ⟨vs, g1, g2, rfl⟩ := hret hh
          exact ⟨cf, _, _, vs, e, hcode, .inl rfl, g1, g2⟩
        | ret =>
          obtain ⟨vs, g1, g2, rfl⟩ := hret hh
          exact ⟨cf, _, _, vs, e, hcode, .inr rfl, g1, g2⟩

theorem isTrue_ok {r : ER} (hh : isTrue r = true) : ∃ h, r = .ok (.bool true) h := by
  cases r with
  | bad => cases hh
  | ok v h =>
    have hh : (@VB.rec (fun _ => Bool) false (fun b => b) (asB v)) = true := hh
    cases e : asB v with
    | no => rw [e] at hh; cases hh
    | yes b => rw [e] at hh; have hh : b = true := hh; rw [asB_yes e, hh]; exact ⟨h, rfl⟩

end
end Go.Cn
