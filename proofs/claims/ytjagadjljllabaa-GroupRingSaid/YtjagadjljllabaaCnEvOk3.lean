/- The evaluator is right: operations that only read. -/
import Derived.Test.YtjagadjljllabaaCnEvOk2
namespace Go.Cn.Ev
set_option linter.unusedVariables false
set_option linter.unusedSimpArgs false

section
variable {fr : FV} {h : HS} {v : Value} {E : LE}

theorem noSpot_cases (a : Addr) : (noSpot a = true ∧ a.spot = none) ∨ noSpot a = false := by
  cases e : noSpot a with
  | true => exact .inl ⟨rfl, noSpot_iff.1 e⟩
  | false => exact .inr rfl

theorem mapE_eq (l : List Operand) (fr : FV) : mapE l fr = l.map (ev (frD fr)) := by
  induction l with
  | nil => rfl
  | cons x l ih => show evE x fr :: mapE l fr = _; rw [ih, evE_eq]; rfl

theorem isNone'_eq {α : Type} (a : Option α) : isNone' a = a.isNone := by cases a <;> rfl
theorem negIf_eq (n b : Bool) : negIf n b = if n then !b else b := by cases n <;> cases b <;> rfl

theorem nilE_ok {c x : Value} {neg : Bool} (hh : nilE c neg x = some v) : ∃ b, isNilAs c x = some b ∧ v = .bool (if neg then !b else b) := by
  cases c
  case pointer a =>
    cases a with
    | some a => cases hh
    | none =>
      have hh : nilOfP neg x = some v := hh
      unfold nilOfP at hh
      cases e : asP x with
      | no => rw [e] at hh; cases hh
      | null => rw [e] at hh; cases hh; rw [asP_null e]; exact ⟨true, rfl, by rw [negIf_eq]⟩
      | yes a => rw [e] at hh; cases hh; rw [asP_yes e]; exact ⟨false, rfl, by rw [negIf_eq]⟩
  case slice a n m =>
    cases a with
    | some a => cases hh
    | none =>
      have hh : nilOfL neg x = some v := hh
      unfold nilOfL at hh
      cases e : asL x with
      | no => rw [e] at hh; cases hh
      | yes a n m => rw [e] at hh; cases hh; rw [asL_yes e]; exact ⟨_, rfl, by rw [negIf_eq, isNone'_eq]⟩
  case map a =>
    cases a with
    | some a => cases hh
    | none =>
      have hh : nilOfM neg x = some v := hh
      unfold nilOfM at hh
      cases e : asM x with
      | no => rw [e] at hh; cases hh
      | yes a => rw [e] at hh; cases hh; rw [asM_yes e]; exact ⟨_, rfl, by rw [negIf_eq, isNone'_eq]⟩
  case nilFunc =>
    have hh : nilOfF neg x = some v := hh
    unfold nilOfF at hh
    cases e : asF x with
    | no => rw [e] at hh; cases hh
    | null => rw [e] at hh; cases hh; rw [asF_null e]; exact ⟨true, rfl, by rw [negIf_eq]⟩
    | yes f a b => rw [e] at hh; cases hh; rw [asF_yes e]; exact ⟨false, rfl, by rw [negIf_eq]⟩
  case nilIface =>
    have hh : nilOfX neg x = some v := hh
    unfold nilOfX at hh
    cases e : asX x with
    | no => rw [e] at hh; cases hh
    | null => rw [e] at hh; cases hh; rw [asX_null e]; exact ⟨true, rfl, by rw [negIf_eq]⟩
    | yes f a => rw [e] at hh; cases hh; rw [asX_yes e]; exact ⟨false, rfl, by rw [negIf_eq]⟩
  all_goals cases hh

theorem unE_ok {op : UnOp} {x : Value} (hh : unE op x = some v) : (∃ k n, x = .int k n ∧ pureOf (Op.unary op (.int k n)) = some v) ∨ ∃ b, x = .bool b ∧ pureOf (Op.unary op (.bool b)) = some v := by
  have hN : ∀ op, unN op x = some v → (∃ k n, x = .int k n ∧ pureOf (Op.unary op (.int k n)) = some v) := by
    intro op hh
    unfold unN at hh
    cases e : asI x with
    | no => rw [e] at hh; cases hh
    | yes k n => rw [e] at hh; exact ⟨k, n, asI_yes e, hh⟩
  cases op
  case not =>
    right
    have hh : notV x = some v := hh
    unfold notV at hh
    cases e : asB x with
    | no => rw [e] at hh; cases hh
    | yes b => rw [e] at hh; cases hh; exact ⟨b, asB_yes e, by rw [notB_eq]; rfl⟩
  all_goals exact .inl (hN _ hh)

theorem ik4 {k : IntKind} (h : Nat.beq (ikNum k) 4 = true) : k = .u8 := by cases k <;> first | rfl | cases h

theorem bytesE_eq : ∀ {l : List Value} {r : List UInt8}, bytesE l = some r → bytesOfCells l = some r
  | [], r, hh => hh
  | x :: l, r, hh => by
    have hh : (@VI.rec (fun _ => Option (List UInt8)) none (fun k n => @Bool.rec (fun _ => Option (List UInt8)) none (@Option.rec (List UInt8) (fun _ => Option (List UInt8)) none (fun r => some (UInt8.ofNat n.toNat :: r)) (bytesE l)) (Nat.beq (ikNum k) 4)) (asI x)) = some r := hh
    cases e : asI x with
    | no => rw [e] at hh; cases hh
    | yes k n =>
      rw [e] at hh
      dsimp only at hh
      cases e2 : Nat.beq (ikNum k) 4 with
      | false => rw [e2] at hh; cases hh
      | true =>
        rw [e2] at hh
        dsimp only at hh
        cases e3 : bytesE l with
        | none => rw [e3] at hh; cases hh
        | some r' =>
          rw [e3] at hh
          cases hh
          rw [asI_yes e, ik4 e2]
          simp only [bytesOfCells, bytesE_eq e3]

theorem bndE_ok {d y m : Nat} {o : Option Operand} (hh : bndE d y o fr = some m) : bnd d y (o.map (ev (frD fr))) = some m := by
  cases o with
  | none => exact hh
  | some x =>
    have hh : (@VI.rec (fun _ => Option Nat) none (fun _ n => bndN y n) (asI (evE x fr))) = some m := hh
    rw [evE_eq] at hh
    cases e : asI (ev (frD fr) x) with
    | no => rw [e] at hh; cases hh
    | yes k n =>
      rw [e] at hh
      have e2 := asI_yes e
      simp only [Option.map_some, e2, bnd]
      cases n with
      | negSucc n => cases hh
      | ofNat n =>
        have hh : (@Bool.rec (fun _ => Option Nat) none (some n) (Nat.ble n y)) = some m := hh
        cases e3 : Nat.ble n y with
        | false => rw [e3] at hh; cases hh
        | true =>
          rw [e3] at hh
          cases hh
          rw [Nat.ble_eq] at e3
          have h1 : (0 : Int) ≤ Int.ofNat m ∧ Int.ofNat m ≤ (y : Int) := ⟨Int.natCast_nonneg _, Int.ofNat_le.2 e3⟩
          rw [if_pos h1]; rfl

theorem thenN_some {f : Nat → OV} {o : Option Nat} (hh : thenN f o = some v) : ∃ n, o = some n ∧ f n = some v := by
  cases o with
  | none => cases hh
  | some n => exact ⟨n, rfl, hh⟩

theorem sub_extract (s : ByteArray) (l h : Nat) : (⟨⟨subU s.data.toList l h⟩⟩ : ByteArray) = s.extract l h := by
  apply ByteArray.ext
  rw [ByteArray.data_extract]
  apply Array.ext'
  simp only [subU, Array.toList_extract, List.extract_eq_take_drop]
  rfl

theorem elemE_eq (E : LE) (h : HS) (b : Nat) (t : TypeId) : elemO (getP (path b) h.t) t = (den E h).elemIs b t := by
  unfold CW.elemIs
  cases e : getP (path b) h.t with
  | none => rw [den_none e]; rfl
  | some o =>
    rw [den_get e]
    cases o with
    | loop st p => rcases denL_not st p (E b) with ⟨d, q⟩ | q <;> (simp only [denO, q]; rfl)
    | _ => rfl

theorem entV_ok {o : Option EObj} {es : Ents} {ver : Nat} (hh : entV o = .yes es ver) : o = some (.map es ver) := by
  cases o with
  | none => cases hh
  | some o => cases o <;> cases hh; rfl
theorem entO_some {o : Option EObj} {es : Ents} (hh : entO o = some es) : ∃ ver, o = some (.map es ver) := by
  unfold entO at hh
  cases e : entV o with
  | no => rw [e] at hh; cases hh
  | yes es' ver => rw [e] at hh; cases hh; exact ⟨ver, entV_ok e⟩
theorem entE_ok {m : Value} {es : Ents} (hh : entE h m = some es) : (den E h).entries m = some es := by
  unfold entE at hh
  cases e : asM m with
  | no => rw [e] at hh; cases hh
  | yes r =>
    rw [e] at hh
    rw [asM_yes e]
    cases r with
    | none => exact hh
    | some r =>
      obtain ⟨ver, e2⟩ := entO_some (show entO (getP (path r) h.t) = some es from hh)
      simp only [CW.entries, den_get e2, denO]

theorem isKeyE_eq (str : Bool) (x : Value) : isKeyE str x = isKey str x := by cases x <;> cases str <;> rfl

theorem keyE_ok (a b : Value) : match keyE a b with | .bad => True | .same => keyEq a b = some true | .apart => keyEq a b = some false := by
  unfold keyE
  cases e1 : asI a with
  | no =>
    cases e2 : asS a with
    | no => trivial
    | yes s =>
      cases e3 : asS b with
      | no => trivial
      | yes t =>
        dsimp only
        rw [asS_yes e2, asS_yes e3]
        simp only [keyEq, eqU_eq]
        cases (s.data.toList == t.data.toList) <;> simp [keB]
  | yes j m =>
    cases e2 : asI b with
    | no => trivial
    | yes k n =>
      dsimp only
      cases e3 : Nat.beq (ikNum j) (ikNum k) with
      | false => trivial
      | true =>
        have := ik_eq e3
        subst this
        dsimp only
        rw [asI_yes e1, asI_yes e2]
        simp only [keyEq, eqI_eq, beq_self_eq_true, if_true]
        cases (m == n) <;> simp [keB]

theorem lookE_ok (k : Value) : ∀ es : Ents, match lookE k es with | .bad => True | .no => look k es = some none | .yes u => look k es = some (some u)
  | [] => rfl
  | (k', u) :: es => by
    have ih := lookE_ok k es
    show match (@KE.rec (fun _ => LK) .bad (.yes u) (lookE k es) (keyE k k')) with | .bad => True | .no => look k ((k', u) :: es) = some none | .yes u' => look k ((k', u) :: es) = some (some u')
    have hk := keyE_ok k k'
    cases e : keyE k k' with
    | bad => trivial
    | same => rw [e] at hk; simp only [look, hk]
    | apart => rw [e] at hk; simp only [look, hk]; exact ih

theorem fillE_ok : ∀ {ps : List (Nat × Nat × Operand)} {l r : List Value}, fillE fr ps l = some r → fillL l (ps.map fun (o, s, x) => (o, s, ev (frD fr) x)) = some r
  | [], l, r, hh => hh
  | (o, s, x) :: ps, l, r, hh => by
    have hh : (@Bool.rec (fun _ => Option (List Value)) none (@Option.rec (List Value) (fun _ => Option (List Value)) none (fillE fr ps) (putE (cellsV (evE x fr)) l o)) (Nat.beq (lenE (cellsV (evE x fr))) s)) = some r := hh
    rw [evE_eq, cellsV_eq, lenE_eq, putE_eq] at hh
    cases e : Nat.beq (cellsOf (ev (frD fr) x)).length s with
    | false => rw [e] at hh; cases hh
    | true =>
      rw [e] at hh
      have e' := Nat.beq_eq.mp e
      simp only [List.map_cons, fillL, if_pos e']
      cases e2 : putAt l o (cellsOf (ev (frD fr) x)) with
      | none => rw [e2] at hh; cases hh
      | some l' => rw [e2] at hh; exact fillE_ok hh

theorem int_wrap (n : Nat) : (.int .i64 (.ofNat n) : Value) = .int .i64 (n : Int) := rfl

theorem aggO_some {o : Option (List Value)} (hh : aggO o = some v) : ∃ l, o = some l ∧ v = .agg ⟨l⟩ := by
  cases o with
  | none => cases hh
  | some l => cases hh; exact ⟨l, rfl, rfl⟩

end
end Go.Cn.Ev
