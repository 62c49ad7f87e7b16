/- The evaluator is right: effects. -/
import Derived.Test.YtjagadjljllabaaCnEvOk5
namespace Go.Cn.Ev
set_option linter.unusedVariables false
set_option linter.unusedSimpArgs false

section
variable {fr : FV} {h h' : HS} {v : Value} {C : CF} {E : LE}

theorem erOf_ok {u : Value} {o : OH} (hh : erOf u o = .ok v h') : o = some h' ∧ v = u := by
  cases o with
  | none => cases hh
  | some x => cases hh; exact ⟨rfl, rfl⟩

theorem eSt1_ok {a x : Operand} (hh : eSt1 a x fr h = .ok v h') : eev (.st1 a x) (ev (frD fr)) (den E h) = some (v, den E h') := by
  unfold eSt1 at hh
  simp only [evE_eq, cellsV_eq] at hh
  cases e : asP (ev (frD fr) a) with
  | no => rw [e] at hh; cases hh
  | null => rw [e] at hh; cases hh
  | yes ad =>
    rw [e] at hh
    dsimp only at hh
    simp only [eev, asP_yes e]
    cases e2 : cellsOf (ev (frD fr) x) with
    | nil => rw [e2] at hh; cases hh
    | cons u r =>
      rw [e2] at hh
      cases r with
      | cons u' r => cases hh
      | nil =>
        obtain ⟨g1, rfl⟩ := erOf_ok hh
        simp only [putH_ok g1]

theorem eStN_ok {n : Nat} {a x : Operand} (hh : eStN n a x fr h = .ok v h') : eev (.stN n a x) (ev (frD fr)) (den E h) = some (v, den E h') := by
  unfold eStN at hh
  simp only [evE_eq, cellsV_eq, lenE_eq] at hh
  cases e : asP (ev (frD fr) a) with
  | no => rw [e] at hh; cases hh
  | null => rw [e] at hh; cases hh
  | yes ad =>
    rw [e] at hh
    dsimp only at hh
    simp only [eev, asP_yes e]
    cases e2 : Nat.beq (cellsOf (ev (frD fr) x)).length n with
    | false => rw [e2] at hh; cases hh
    | true =>
      rw [e2] at hh
      obtain ⟨g1, rfl⟩ := erOf_ok hh
      rw [if_pos (Nat.beq_eq.mp e2)]
      simp only [putH_ok g1]

theorem mputE_ok (k u : Value) : ∀ {es r : Ents}, mputE k u es = some r → mput k u es = some r
  | [], r, hh => hh
  | (k', u') :: es, r, hh => by
    have hh : (@KE.rec (fun _ => Option Ents) none (some ((k, u) :: es)) (@Option.rec Ents (fun _ => Option Ents) none (fun r => some ((k', u') :: r)) (mputE k u es)) (keyE k k')) = some r := hh
    have hk := keyE_ok k k'
    cases e : keyE k k' with
    | bad => rw [e] at hh; cases hh
    | same => rw [e] at hh hk; simp only [mput, hk]; exact hh
    | apart =>
      rw [e] at hh hk
      simp only [mput, hk]
      dsimp only at hh
      cases e2 : mputE k u es with
      | none => rw [e2] at hh; cases hh
      | some r' => rw [e2] at hh; simp only [mputE_ok k u e2]; exact hh
theorem mdelE_ok (k : Value) : ∀ {es r : Ents}, mdelE k es = some r → mdel k es = some r
  | [], r, hh => hh
  | (k', u') :: es, r, hh => by
    have hh : (@KE.rec (fun _ => Option Ents) none (some es) (@Option.rec Ents (fun _ => Option Ents) none (fun r => some ((k', u') :: r)) (mdelE k es)) (keyE k k')) = some r := hh
    have hk := keyE_ok k k'
    cases e : keyE k k' with
    | bad => rw [e] at hh; cases hh
    | same => rw [e] at hh hk; simp only [mdel, hk]; exact hh
    | apart =>
      rw [e] at hh hk
      simp only [mdel, hk]
      dsimp only at hh
      cases e2 : mdelE k es with
      | none => rw [e2] at hh; cases hh
      | some r' => rw [e2] at hh; simp only [mdelE_ok k e2]; exact hh

theorem mapSet_ok {r ver : Nat} {o : Option Ents} (hh : mapSet h r ver o = some h') : ∃ es, o = some es ∧ den E h' = { den E h with heap := upd (den E h).heap r (some (.map es (ver + 1))) } := by
  cases o with
  | none => cases hh
  | some es => cases hh; exact ⟨es, rfl, den_set _ _ _ _⟩

theorem eMapupd_ok {str : Bool} {m k x : Operand} (hh : eMapupd str m k x fr h = .ok v h') : eev (.mapupd str m k x) (ev (frD fr)) (den E h) = some (v, den E h') := by
  unfold eMapupd at hh
  simp only [evE_eq, isKeyE_eq] at hh
  cases e : asM (ev (frD fr) m) with
  | no => rw [e] at hh; cases hh
  | yes r =>
    rw [e] at hh
    cases r with
    | none => cases hh
    | some r =>
      dsimp only at hh
      cases e2 : entV (getP (path r) h.t) with
      | no => rw [e2] at hh; cases hh
      | yes es ver =>
        rw [e2] at hh
        dsimp only at hh
        cases e3 : isKey str (ev (frD fr) k) with
        | false => rw [e3] at hh; cases hh
        | true =>
          rw [e3] at hh
          dsimp only at hh
          cases e4 : Nat.ble h.ro r with
          | false => rw [e4] at hh; cases hh
          | true =>
            rw [e4] at hh
            obtain ⟨g1, rfl⟩ := erOf_ok hh
            obtain ⟨es', g2, g3⟩ := mapSet_ok (E := E) g1
            have e5 : (den E h).heap r = some (.map es ver) := den_get (entV_ok e2)
            have e6 : isKey str (ev (frD fr) k) = true ∧ (den E h).ro ≤ r := ⟨e3, Nat.ble_eq.mp e4⟩
            simp only [eev, asM_yes e, e5, if_pos e6, mputE_ok _ _ g2, g3]

theorem eDelete_ok {str : Bool} {m k : Operand} (hh : eDelete str m k fr h = .ok v h') : eev (.delete str m k) (ev (frD fr)) (den E h) = some (v, den E h') := by
  unfold eDelete at hh
  simp only [evE_eq, isKeyE_eq] at hh
  cases e : asM (ev (frD fr) m) with
  | no => rw [e] at hh; cases hh
  | yes r =>
    rw [e] at hh
    cases r with
    | none =>
      dsimp only at hh
      cases e3 : isKey str (ev (frD fr) k) with
      | false => rw [e3] at hh; cases hh
      | true => rw [e3] at hh; cases hh; simp only [eev, asM_yes e]; rw [e3]; rfl
    | some r =>
      dsimp only at hh
      cases e2 : entV (getP (path r) h.t) with
      | no => rw [e2] at hh; cases hh
      | yes es ver =>
        rw [e2] at hh
        dsimp only at hh
        cases e3 : isKey str (ev (frD fr) k) with
        | false => rw [e3] at hh; cases hh
        | true =>
          rw [e3] at hh
          dsimp only at hh
          cases e4 : Nat.ble h.ro r with
          | false => rw [e4] at hh; cases hh
          | true =>
            rw [e4] at hh
            obtain ⟨g1, rfl⟩ := erOf_ok hh
            obtain ⟨es', g2, g3⟩ := mapSet_ok (E := E) g1
            have e5 : (den E h).heap r = some (.map es ver) := den_get (entV_ok e2)
            have e6 : isKey str (ev (frD fr) k) = true ∧ (den E h).ro ≤ r := ⟨e3, Nat.ble_eq.mp e4⟩
            simp only [eev, asM_yes e, e5, if_pos e6, mdelE_ok _ g2, g3]

theorem takeU_eq : ∀ (l : List UInt8) (n : Nat), takeU l n = (l.take n).map fun b => .int .u8 (b.toNat : Int)
  | [], n => by cases n <;> rfl
  | a :: l, n => by
    show (@Bool.rec (fun _ => List Value) (.int .u8 (.ofNat a.toNat) :: takeU l (Nat.sub n 1)) [] (Nat.beq n 0)) = _
    cases n with
    | zero => rfl
    | succ n => show .int .u8 (.ofNat a.toNat) :: takeU l n = _; rw [takeU_eq l n]; rfl

theorem firstH_ok {sz n : Nat} {x : Value} {l : List Value} (hh : firstH h sz n x = some l) : (den E h).first sz n x = some l := by
  unfold firstH at hh
  cases e : asL x with
  | yes a k c =>
    rw [e] at hh
    rw [asL_yes e]
    cases a with
    | none => exact hh
    | some a =>
      have hh : (@Bool.rec (fun _ => Option (List Value)) (cellsE h a (Nat.mul n sz)) (some []) (Nat.beq n 0)) = some l := hh
      show (if n = 0 then some [] else (den E h).cells a (n * sz)) = some l
      cases e0 : Nat.beq n 0 with
      | true => rw [e0] at hh; rw [if_pos (Nat.beq_eq.mp e0)]; exact hh
      | false => rw [e0, cellsE_eq E] at hh; rw [if_neg (beq_false.1 e0)]; exact hh
  | no =>
    rw [e] at hh
    dsimp only at hh
    cases e2 : asS x with
    | no => rw [e2] at hh; cases hh
    | yes s =>
      rw [e2] at hh
      rw [asS_yes e2]
      dsimp only at hh
      cases e3 : Nat.beq sz 1 with
      | false => rw [e3] at hh; cases hh
      | true =>
        rw [e3] at hh
        have := Nat.beq_eq.mp e3
        subst this
        cases hh
        rw [takeU_eq]; rfl

theorem lenVE_ok {x : Value} {n : Nat} (hh : lenVE x = some n) : lenV x = some n := by
  unfold lenVE at hh
  cases e : asL x with
  | yes a k c => rw [e] at hh; rw [asL_yes e]; exact hh
  | no =>
    rw [e] at hh
    dsimp only at hh
    cases e2 : asS x with
    | no => rw [e2] at hh; cases hh
    | yes s => rw [e2] at hh; rw [asS_yes e2]; dsimp only at hh; rw [lenE_eq] at hh; exact hh

theorem capOkE_ok {a b : Nat} (hh : capOkE a b = true) : capOk a b := by
  unfold capOkE at hh
  cases e : Nat.ble (Nat.mul (Nat.add (Nat.mul 2 a) 2000) b) 1099511627776 with
  | false => rw [e] at hh; cases hh
  | true => rw [e] at hh; exact ⟨Nat.ble_eq.mp e, Nat.ble_eq.mp hh⟩

theorem den_grow (E0 : LE) (h : HS) (cl p : Nat) (cs : List Value) (E rel : Nat) : den E0 (growE h cl p cs E rel) = (den E0 h).grow cl p cs E rel := by
  unfold growE CW.grow
  rw [den_add, lenE_eq]
  exact congrArg (fun f => CW.add f _) (den_touch E0 h cl h.next p (rel + cs.length))

theorem apNew_ok {elem sz n : Nat} {base : Option Addr} {sLen : Nat} {new : List Value} (hh : apNew elem sz n h base sLen new = .ok v h') :
    (match (generalizing := false) base with
      | none => some (.slice (some ⟨(den E h).next, 0, none⟩) (sLen + n) (sLen + n), (den E h).add (.cells new elem (den E h).next 0))
      | some a => if a.spot = none ∧ (den E h).ro ≤ a.block then match (den E h).heap a.block with
          | some (.cells c elem' cls rel) => if elem' = elem then match takeAt c a.off (sLen * sz) with
            | some old => some (.slice (some ⟨(den E h).next, 0, none⟩) (sLen + n) (sLen + n), (den E h).grow cls (rel + a.off + sLen * sz) (old ++ new) elem (rel + a.off))
            | none => none
            else none
          | _ => none
        else none : Option (Value × CW)) = some (v, den E h') := by
  cases base with
  | none => cases hh; dsimp only; rw [den_add]; rfl
  | some a =>
    have hh : (@Bool.rec (fun _ => ER) .bad (@Bool.rec (fun _ => ER) .bad (apO elem sz n h a sLen new (getP (path a.block) h.t)) (Nat.ble h.ro a.block)) (noSpot a)) = .ok v h' := hh
    rcases noSpot_cases a with ⟨n1, n2⟩ | n1
    · rw [n1] at hh
      dsimp only at hh
      cases e1 : Nat.ble h.ro a.block with
      | false => rw [e1] at hh; cases hh
      | true =>
        rw [e1] at hh
        have hc : a.spot = none ∧ (den E h).ro ≤ a.block := ⟨n2, Nat.ble_eq.mp e1⟩
        dsimp only
        rw [if_pos hc]
        have hh : apO elem sz n h a sLen new (getP (path a.block) h.t) = .ok v h' := hh
        cases e2 : getP (path a.block) h.t with
        | none => rw [e2] at hh; cases hh
        | some o =>
          rw [e2] at hh
          cases o with
          | dead => cases hh
          | map es _ => cases hh
          | iter _ _ _ => cases hh
          | loop _ _ => cases hh
          | cells c elem' cls rel =>
            rw [den_get e2]
            simp only [denO]
            have hh : (@Bool.rec (fun _ => ER) .bad (@Option.rec (List Value) (fun _ => ER) .bad (fun old => .ok (bsl h.next (Nat.add sLen n) (Nat.add sLen n)) (growE h cls (Nat.add (Nat.add rel a.off) (Nat.mul sLen sz)) (catE old new) elem (Nat.add rel a.off))) (takeE c a.off (Nat.mul sLen sz))) (Nat.beq elem' elem)) = .ok v h' := hh
            cases e3 : Nat.beq elem' elem with
            | false => rw [e3] at hh; cases hh
            | true =>
              rw [e3, takeE_eq] at hh
              dsimp only at hh ⊢
              rw [if_pos (Nat.beq_eq.mp e3)]
              cases e4 : takeAt c a.off (sLen * sz) with
              | none =>
                have e4' : takeAt c a.off (Nat.mul sLen sz) = none := e4
                rw [e4'] at hh; cases hh
              | some old =>
                have e4' : takeAt c a.off (Nat.mul sLen sz) = some old := e4
                rw [e4'] at hh
                cases hh
                dsimp only
                rw [den_grow, catE_eq]; rfl
    · rw [n1] at hh; cases hh

theorem apIn_ok {sz n : Nat} {base : Option Addr} {sLen sCap : Nat} {new : List Value} (hh : apIn sz n h base sLen sCap new = .ok v h') :
    (match (generalizing := false) base with
      | none => some (.slice none (sLen + n) sCap, den E h)
      | some a => if n = 0 then some (.slice base (sLen + n) sCap, den E h) else match (den E h).put ⟨a.block, a.off + sLen * sz, a.spot⟩ new with
          | some σ' => some (.slice base (sLen + n) sCap, σ')
          | none => none : Option (Value × CW)) = some (v, den E h') := by
  cases base with
  | none => cases hh; rfl
  | some a =>
    have hh : (@Bool.rec (fun _ => ER) (erOf (.slice (some a) (Nat.add sLen n) sCap) (putH h ⟨a.block, Nat.add a.off (Nat.mul sLen sz), a.spot⟩ new)) (.ok (.slice (some a) (Nat.add sLen n) sCap) h) (Nat.beq n 0)) = .ok v h' := hh
    cases e : Nat.beq n 0 with
    | true =>
      rw [e] at hh
      have := Nat.beq_eq.mp e
      dsimp only
      rw [if_pos this]
      cases hh; rfl
    | false =>
      rw [e] at hh
      obtain ⟨g1, rfl⟩ := erOf_ok hh
      dsimp only
      rw [if_neg (beq_false.1 e)]
      have := putH_ok (E := E) g1
      have e2 : (den E h).put ⟨a.block, a.off + sLen * sz, a.spot⟩ new = some (den E h') := this
      rw [e2]; rfl

theorem eAppend_ok {elem : TypeId} {sz bytes : Nat} {s x : Operand} (hh : eAppend elem sz bytes s x fr h = .ok v h') : eev (.append elem sz bytes s x) (ev (frD fr)) (den E h) = some (v, den E h') := by
  unfold eAppend at hh
  simp only [evE_eq] at hh
  cases e : asL (ev (frD fr) s) with
  | no => rw [e] at hh; cases hh
  | yes base sLen sCap =>
    rw [e] at hh
    dsimp only at hh
    cases e2 : lenVE (ev (frD fr) x) with
    | none => rw [e2] at hh; cases hh
    | some n =>
      rw [e2] at hh
      dsimp only at hh
      cases e3 : firstH h sz n (ev (frD fr) x) with
      | none => rw [e3] at hh; cases hh
      | some new =>
        rw [e3] at hh
        have hh : (@Bool.rec (fun _ => ER) (@Bool.rec (fun _ => ER) .bad (@Bool.rec (fun _ => ER) .bad (apNew elem sz n h base sLen new) (onesE new)) (capOkE (Nat.add sLen n) bytes)) (apIn sz n h base sLen sCap new) (Nat.ble (Nat.add sLen n) sCap)) = .ok v h' := hh
        simp only [eev, doAppend, asL_yes e, lenVE_ok e2, firstH_ok e3]
        cases e4 : Nat.ble (Nat.add sLen n) sCap with
        | true =>
          rw [e4] at hh
          have e4' : sLen + n ≤ sCap := Nat.ble_eq.mp e4
          rw [if_pos e4']
          exact apIn_ok hh
        | false =>
          rw [e4] at hh
          have e4' : ¬ sLen + n ≤ sCap := by have := ble_false.1 e4; exact Nat.not_le.2 this
          rw [if_neg e4']
          dsimp only at hh
          cases e5 : capOkE (Nat.add sLen n) bytes with
          | false => rw [e5] at hh; cases hh
          | true =>
            rw [e5] at hh
            dsimp only at hh
            cases e6 : onesE new with
            | false => rw [e6] at hh; cases hh
            | true =>
              rw [e6] at hh
              rw [onesE_eq] at e6
              rw [if_pos ⟨capOkE_ok e5, e6⟩]
              exact apNew_ok hh

theorem minE_eq (a b : Nat) : minE a b = Nat.min a b := by
  unfold minE
  cases e : Nat.ble a b with
  | true => have := Nat.ble_eq.mp e; show a = _; exact (Nat.min_eq_left this).symm
  | false => have := ble_false.1 e; show b = _; exact (Nat.min_eq_right (Nat.le_of_lt this)).symm

theorem isNil'_iff (l : List Value) : isNil' l = true ↔ l = [] := by
  cases l with
  | nil => exact ⟨fun _ => rfl, fun _ => rfl⟩
  | cons a l => exact ⟨fun h => (by cases h), fun h => (by cases h)⟩

theorem eCopy_ok {sz : Nat} {d s : Operand} (hh : eCopy sz d s fr h = .ok v h') : eev (.copy sz d s) (ev (frD fr)) (den E h) = some (v, den E h') := by
  unfold eCopy at hh
  simp only [evE_eq, minE_eq] at hh
  cases e : asL (ev (frD fr) d) with
  | no => rw [e] at hh; cases hh
  | yes base dLen c =>
    rw [e] at hh
    dsimp only at hh
    cases e2 : lenVE (ev (frD fr) s) with
    | none => rw [e2] at hh; cases hh
    | some m =>
      rw [e2] at hh
      dsimp only at hh
      cases e3 : firstH h sz (Nat.min m dLen) (ev (frD fr) s) with
      | none => rw [e3] at hh; cases hh
      | some vs =>
        rw [e3] at hh
        simp only [eev, asL_yes e, lenVE_ok e2, firstH_ok e3]
        cases base with
        | none => cases hh; rfl
        | some a =>
          have hh : (@Bool.rec (fun _ => ER) (erOf (intV (Nat.min m dLen)) (putH h a vs)) (.ok (intV (Nat.min m dLen)) h) (isNil' vs)) = .ok v h' := hh
          dsimp only
          cases e4 : isNil' vs with
          | true => rw [e4] at hh; rw [if_pos ((isNil'_iff vs).1 e4)]; cases hh; rfl
          | false =>
            rw [e4] at hh
            obtain ⟨g1, rfl⟩ := erOf_ok hh
            rw [if_neg fun h => by rw [(isNil'_iff vs).2 h] at e4; cases e4]
            rw [putH_ok g1]; rfl

theorem eClear_ok {zero : List Value} {s : Operand} (hh : eClear zero s fr h = .ok v h') : eev (.clearV zero s) (ev (frD fr)) (den E h) = some (v, den E h') := by
  unfold eClear at hh
  simp only [evE_eq, zerosE_eq] at hh
  cases e : asL (ev (frD fr) s) with
  | no => rw [e] at hh; cases hh
  | yes a n c =>
    rw [e] at hh
    simp only [eev, asL_yes e]
    cases a with
    | none => cases hh; rfl
    | some a =>
      dsimp only at hh ⊢
      cases e2 : Nat.beq n 0 with
      | true => rw [e2] at hh; rw [if_pos (Nat.beq_eq.mp e2)]; cases hh; rfl
      | false =>
        rw [e2] at hh
        obtain ⟨g1, rfl⟩ := erOf_ok hh
        rw [if_neg (beq_false.1 e2), putH_ok g1]

theorem eStrish_ok {elem : TypeId} {x : Operand} (hh : eStrish elem x fr h = .ok v h') : eev (.strish elem x) (ev (frD fr)) (den E h) = some (v, den E h') := by
  unfold eStrish at hh
  simp only [evE_eq] at hh
  cases e : asL (ev (frD fr) x) with
  | no => rw [e] at hh; cases hh
  | yes a n c =>
    rw [e] at hh
    simp only [eev, asL_yes e]
    cases a with
    | none => cases hh
    | some a =>
      dsimp only at hh ⊢
      rcases noSpot_cases a with ⟨n1, n2⟩ | n1
      · rw [n1] at hh
        dsimp only at hh
        cases e1 : Nat.ble h.ro a.block with
        | false => rw [e1] at hh; cases hh
        | true =>
          rw [e1] at hh
          dsimp only at hh
          cases e2 : Nat.blt 0 c with
          | false => rw [e2] at hh; cases hh
          | true =>
            rw [e2] at hh
            dsimp only at hh
            rw [elemE_eq E] at hh
            cases e3 : (den E h).elemIs a.block elem with
            | false => rw [e3] at hh; cases hh
            | true =>
              rw [e3] at hh
              cases hh
              have hr : ∃ r, (den E h).row a.block = some r := by
                unfold CW.elemIs at e3
                unfold CW.row
                split at e3
                · exact ⟨_, rfl⟩
                · cases e3
              obtain ⟨r, hr⟩ := hr
              rw [hr]
              dsimp only
              rw [if_pos ⟨n2, Nat.ble_eq.mp e1, blt_iff.1 e2, rfl⟩]
      · rw [n1] at hh; cases hh

theorem eRange_ok {x : Operand} (hh : eRange x fr h = .ok v h') : eev (.range x) (ev (frD fr)) (den E h) = some (v, den E h') := by
  unfold eRange at hh
  simp only [evE_eq] at hh
  cases e : asM (ev (frD fr) x) with
  | no => rw [e] at hh; cases hh
  | yes r =>
    rw [e] at hh
    cases r with
    | none => cases hh; simp only [eev, asM_yes e]; rw [den_add]; rfl
    | some r =>
      dsimp only at hh
      cases e2 : entV (getP (path r) h.t) with
      | no => rw [e2] at hh; cases hh
      | yes es ver =>
        rw [e2] at hh
        cases hh
        simp only [eev, asM_yes e, den_get (entV_ok e2), denO]
        rw [den_add]; rfl

theorem isSame_ok {a b : Value} (h : isSame (keyE a b) = true) : keyEq a b = some true := by
  have hk := keyE_ok a b
  cases e : keyE a b with
  | bad => rw [e] at h; cases h
  | same => rw [e] at hk; exact hk
  | apart => rw [e] at h; cases h
theorem keysOk_ok : ∀ {es : Ents}, keysOk es = true → ∀ e ∈ es, keyEq e.1 e.1 = some true
  | [], _, e, he => by cases he
  | p :: es, h, e, he => by
    have h : (@Bool.rec (fun _ => Bool) false (keysOk es) (isSame (keyE p.1 p.1))) = true := h
    cases e1 : isSame (keyE p.1 p.1) with
    | false => rw [e1] at h; cases h
    | true =>
      rw [e1] at h
      rcases List.mem_cons.1 he with he | he
      · subst he; exact isSame_ok e1
      · exact keysOk_ok h e he
theorem notIn_ok (k : Value) : ∀ (l : List Value), notIn k l = true → l.all (fun a => !(keyEq a k == some true)) = true
  | [], _ => rfl
  | a :: l, h => by
    have h : (@KE.rec (fun _ => Bool) false false (notIn k l) (keyE a k)) = true := h
    have hk := keyE_ok a k
    cases e : keyE a k with
    | bad => rw [e] at h; cases h
    | same => rw [e] at h; cases h
    | apart => rw [e] at h hk; simp only [List.all_cons, hk, notIn_ok k l h]; rfl
theorem notIn_no (k : Value) : ∀ (l : List Value), notIn k l = false → (∃ a ∈ l, keyE a k = .bad) ∨ l.all (fun a => !(keyEq a k == some true)) = false
  | [], h => by cases h
  | a :: l, h => by
    have h : (@KE.rec (fun _ => Bool) false false (notIn k l) (keyE a k)) = false := h
    have hk := keyE_ok a k
    cases e : keyE a k with
    | bad => exact .inl ⟨a, by simp, e⟩
    | same => rw [e] at hk; right; simp [hk]
    | apart =>
      rw [e] at h hk
      rcases notIn_no k l h with ⟨b, h1, h2⟩ | h1
      · exact .inl ⟨b, by simp [h1], h2⟩
      · right; simp only [List.all_cons, h1, Bool.and_false]
theorem noBad_ok (k : Value) : ∀ (l : List Value), noBad k l = true → ∀ a ∈ l, keyE a k ≠ .bad
  | [], _, a, ha => by cases ha
  | b :: l, h, a, ha => by
    have h : (@KE.rec (fun _ => Bool) false (noBad k l) (noBad k l) (keyE b k)) = true := h
    rcases List.mem_cons.1 ha with rfl | ha
    · intro e; rw [e] at h; cases h
    · cases e : keyE b k with
      | bad => rw [e] at h; cases h
      | same => rw [e] at h; exact noBad_ok k l h a ha
      | apart => rw [e] at h; exact noBad_ok k l h a ha
theorem okAll_ok (seen : List Value) : ∀ (es : Ents), okAll seen es = true → ∀ e ∈ es, ∀ a ∈ seen, keyE a e.1 ≠ .bad
  | [], _, e, he => by cases he
  | p :: es, h, e, he => by
    have h : (@Bool.rec (fun _ => Bool) false (okAll seen es) (noBad p.1 seen)) = true := h
    cases e1 : noBad p.1 seen with
    | false => rw [e1] at h; cases h
    | true =>
      rw [e1] at h
      rcases List.mem_cons.1 he with rfl | he
      · exact noBad_ok _ _ e1
      · exact okAll_ok seen es h e he
theorem leftE_eq (seen : List Value) : ∀ (es : Ents), (∀ e ∈ es, ∀ a ∈ seen, keyE a e.1 ≠ .bad) → leftE seen es = leftL seen es
  | [], _ => rfl
  | p :: es, h => by
    have ih := leftE_eq seen es fun e he => h e (by simp [he])
    show (@Bool.rec (fun _ => Ents) (leftE seen es) (p :: leftE seen es) (notIn p.1 seen)) = leftL seen (p :: es)
    unfold leftL at ih ⊢
    cases e1 : notIn p.1 seen with
    | true => rw [List.filter_cons_of_pos (by exact notIn_ok _ _ e1), ih]
    | false =>
      rcases notIn_no _ _ e1 with ⟨a, h1, h2⟩ | h1
      · exact absurd h2 (h p (by simp) a h1)
      · rw [List.filter_cons_of_neg (by rw [h1]; simp), ih]
theorem eNext_ok {x : Operand} (hh : eNext x fr h = .ok v h') {Q : Value → CW → Prop} (hQ : Q v (den E h')) : nextW (den E h) Q (ev (frD fr) x) := by
  unfold eNext at hh
  simp only [evE_eq] at hh
  cases e : asP (ev (frD fr) x) with
  | no => rw [e] at hh; cases hh
  | null => rw [e] at hh; cases hh
  | yes a =>
    rw [e] at hh
    dsimp only at hh
    rcases noSpot_cases a with ⟨n1, n2⟩ | n1
    · rw [n1] at hh
      dsimp only at hh
      cases e2 : Nat.beq a.off 0 with
      | false => rw [e2] at hh; cases hh
      | true =>
        rw [e2] at hh
        have hh : nxIt h a.block (getP (path a.block) h.t) = .ok v h' := hh
        rw [asP_yes e, ptr0 n2 (Nat.beq_eq.mp e2)]
        cases e3 : getP (path a.block) h.t with
        | none => rw [e3] at hh; cases hh
        | some o =>
          rw [e3] at hh
          cases o with
          | iter m ver seen =>
            cases m with
            | none =>
              cases hh
              simp only [nextW, den_get e3, denO]
              exact hQ
            | some m =>
              have hh : nxMap h a.block m ver seen (entV (getP (path m) h.t)) = .ok v h' := hh
              cases e4 : entV (getP (path m) h.t) with
              | no => rw [e4] at hh; cases hh
              | yes es w =>
                rw [e4] at hh
                have hh : (@Bool.rec (fun _ => ER) .bad (@Bool.rec (fun _ => ER) .bad (@Bool.rec (fun _ => ER) .bad (@Bool.rec (fun _ => ER) .bad (nxLeft h a.block m ver seen (leftE seen es)) (okAll seen es)) (keysOk es)) (Nat.ble h.ro a.block)) (Nat.beq w ver)) = .ok v h' := hh
                cases e5 : Nat.beq w ver with
                | false => rw [e5] at hh; cases hh
                | true =>
                  rw [e5] at hh
                  dsimp only at hh
                  cases e6 : Nat.ble h.ro a.block with
                  | false => rw [e6] at hh; cases hh
                  | true =>
                    rw [e6] at hh
                    dsimp only at hh
                    cases e7 : keysOk es with
                    | false => rw [e7] at hh; cases hh
                    | true =>
                      rw [e7] at hh
                      dsimp only at hh
                      cases e8 : okAll seen es with
                      | false => rw [e8] at hh; cases hh
                      | true =>
                        rw [e8] at hh
                        dsimp only at hh
                        rw [leftE_eq _ _ (okAll_ok _ _ e8)] at hh
                        simp only [nextW, den_get e3, den_get (entV_ok e4), denO]
                        refine ⟨Nat.beq_eq.mp e5, Nat.ble_eq.mp e6, keysOk_ok e7, fun e9 => ?_, fun k x hkx => ?_⟩
                        · rw [e9] at hh; cases hh; exact hQ
                        · cases e9 : leftL seen es with
                          | nil => rw [e9] at hkx; cases hkx
                          | cons p l =>
                            rw [e9] at hh hkx
                            cases l with
                            | cons _ _ => cases hh
                            | nil =>
                              rw [List.mem_singleton] at hkx
                              subst hkx
                              cases hh
                              rw [den_set] at hQ
                              exact hQ
          | _ => cases hh
    · rw [n1] at hh; cases hh

/-- what is asked of the evaluator's calls -/
def CallOk (C : CF) (R : CallQ) : Prop := ∀ E f args h v h', C E f args h = .ok v h' → ∀ Q : Value → CW → Prop, Q v (den E h') → R f args (den E h) Q

theorem eevE_ok {R : CallQ} (hC : CallOk C R) {o : EOp} (hh : eevE o C E fr h = .ok v h') {Q : Value → CW → Prop} (hQ : Q v (den E h')) : OpW R (.e o) (ev (frD fr)) (den E h) Q := by
  cases o
  case st1 a x => exact ⟨_, _, eSt1_ok hh, hQ⟩
  case stN n a x => exact ⟨_, _, eStN_ok hh, hQ⟩
  case mapupd s m k x => exact ⟨_, _, eMapupd_ok hh, hQ⟩
  case delete s m k => exact ⟨_, _, eDelete_ok hh, hQ⟩
  case append e sz b s x => exact ⟨_, _, eAppend_ok hh, hQ⟩
  case copy sz d s => exact ⟨_, _, eCopy_ok hh, hQ⟩
  case clearV z s => exact ⟨_, _, eClear_ok hh, hQ⟩
  case strish e x => exact ⟨_, _, eStrish_ok hh, hQ⟩
  case range x => exact ⟨_, _, eRange_ok hh, hQ⟩
  case next x => exact eNext_ok hh hQ
  case call f args =>
    have hh : C E (.func f) (mapE args fr) h = .ok v h' := hh
    rw [mapE_eq] at hh
    exact hC _ _ _ _ _ _ hh _ hQ
  case callv x args =>
    have hh : (@VF.rec (fun _ => ER) .bad .bad (fun f a b => C E f (catE a.toList (catE (mapE args fr) b.toList)) h) (asF (evE x fr))) = .ok v h' := hh
    rw [evE_eq] at hh
    cases e : asF (ev (frD fr) x) with
    | no => rw [e] at hh; cases hh
    | null => rw [e] at hh; cases hh
    | yes f a b =>
      rw [e] at hh
      dsimp only at hh
      rw [catE_eq, catE_eq, mapE_eq, ← List.append_assoc] at hh
      exact ⟨f, a, b, asF_yes e, hC _ _ _ _ _ _ hh _ hQ⟩
end
end Go.Cn.Ev
