/- The evaluator is right: operations that only read, all. -/
import Derived.Test.YtjagadjljllabaaCnEvOk3
namespace Go.Cn.Ev
set_option linter.unusedVariables false
set_option linter.unusedSimpArgs false

section
variable {fr : FV} {h : HS} {v : Value} {E : LE}

theorem pPick_ok {c a b : Operand} (hh : pPick c a b fr h = some v) : pev (.pick c a b) (ev (frD fr)) (den E h) = some v := by
  unfold pPick at hh
  simp only [evE_eq] at hh
  cases e : asB (ev (frD fr) c) with
  | no => rw [e] at hh; cases hh
  | yes t => rw [e] at hh; simp only [pev, asB_yes e]; cases t <;> exact hh

theorem pNilck_ok {x : Operand} (hh : pNilck x fr h = some v) : pev (.nilck x) (ev (frD fr)) (den E h) = some v := by
  unfold pNilck at hh
  simp only [evE_eq] at hh
  cases e : asP (ev (frD fr) x) with
  | null => rw [e] at hh; cases hh
  | yes a => rw [e] at hh; simp only [pev, asP_yes e]; exact hh
  | no =>
    rw [e] at hh
    dsimp only at hh
    cases e2 : asF (ev (frD fr) x) with
    | null => rw [e2] at hh; cases hh
    | yes f a b =>
      rw [e2] at hh
      have hh : isFn f (some (.func f a b)) = some v := hh
      cases f with
      | func f => simp only [pev, asF_yes e2]; exact hh
      | _ => cases hh
    | no =>
      rw [e2] at hh
      dsimp only at hh
      cases e3 : asX (ev (frD fr) x) with
      | no => rw [e3] at hh; cases hh
      | null => rw [e3] at hh; cases hh
      | yes t u => rw [e3] at hh; simp only [pev, asX_yes e3]; exact hh

theorem pBeq_ok {neg : Bool} {x y : Operand} (hh : pBeq neg x y fr h = some v) : pev (.beq neg x y) (ev (frD fr)) (den E h) = some v := by
  unfold pBeq at hh
  simp only [evE_eq] at hh
  cases e : asB (ev (frD fr) x) with
  | no => rw [e] at hh; cases hh
  | yes a =>
    rw [e] at hh
    dsimp only at hh
    cases e2 : asB (ev (frD fr) y) with
    | no => rw [e2] at hh; cases hh
    | yes b => rw [e2] at hh; simp only [pev, asB_yes e, asB_yes e2]; cases hh; rw [negIf_eq, eqB_eq]

theorem pI2i_ok {k : IntKind} {x : Operand} (hh : pI2i k x fr h = some v) : pev (.i2i k x) (ev (frD fr)) (den E h) = some v := by
  unfold pI2i at hh
  simp only [evE_eq] at hh
  cases e : asI (ev (frD fr) x) with
  | no => rw [e] at hh; cases hh
  | yes j n => rw [e] at hh; simp only [pev, asI_yes e]; cases hh; rw [wrapE_eq]

theorem pI2s_ok {x : Operand} (hh : pI2s x fr h = some v) : pev (.i2s x) (ev (frD fr)) (den E h) = some v := by
  unfold pI2s at hh
  simp only [evE_eq] at hh
  cases e : asI (ev (frD fr) x) with
  | no => rw [e] at hh; cases hh
  | yes j n => rw [e] at hh; simp only [pev, asI_yes e]; exact hh

theorem pS2s_ok {x : Operand} (hh : pS2s x fr h = some v) : pev (.s2s x) (ev (frD fr)) (den E h) = some v := by
  unfold pS2s at hh
  simp only [evE_eq] at hh
  cases e : asS (ev (frD fr) x) with
  | no => rw [e] at hh; cases hh
  | yes s => rw [e] at hh; simp only [pev, asS_yes e]; exact hh

theorem pB2s_ok {x : Operand} (hh : pB2s x fr h = some v) : pev (.b2s x) (ev (frD fr)) (den E h) = some v := by
  unfold pB2s at hh
  simp only [evE_eq, cellsE_eq E] at hh
  cases e : asL (ev (frD fr) x) with
  | no => rw [e] at hh; cases hh
  | yes a n c =>
    rw [e] at hh
    simp only [pev, asL_yes e]
    cases a with
    | none => exact hh
    | some a =>
      have hh : strOfCells ((den E h).cells a n) = some v := hh
      cases e2 : (den E h).cells a n with
      | none => rw [e2] at hh; cases hh
      | some c =>
        rw [e2] at hh
        have hh : strOfBytes (bytesE c) = some v := hh
        cases e3 : bytesE c with
        | none => rw [e3] at hh; cases hh
        | some l => rw [e3] at hh; simp only [e2, bytesE_eq e3]; exact hh

theorem pSlS_ok {x : Operand} {lo hi : Option Operand} (hh : pSlS x lo hi fr h = some v) : pev (.slS x lo hi) (ev (frD fr)) (den E h) = some v := by
  unfold pSlS at hh
  simp only [evE_eq] at hh
  cases e : asS (ev (frD fr) x) with
  | no => rw [e] at hh; cases hh
  | yes s =>
    rw [e] at hh
    simp only [pev, asS_yes e]
    have hh : slSt s.data.toList lo hi fr (lenE s.data.toList) = some v := hh
    rw [lenE_eq, show s.data.toList.length = s.size from rfl] at hh
    obtain ⟨h', g1, hh⟩ := thenN_some hh
    obtain ⟨l', g2, hh⟩ := thenN_some hh
    simp only [bndE_ok g1, bndE_ok g2]
    cases hh
    rw [sub_extract]

theorem pSlV_ok {elem : TypeId} {sz : Nat} {x : Operand} {lo hi mx : Option Operand} (hh : pSlV elem sz x lo hi mx fr h = some v) : pev (.slV elem sz x lo hi mx) (ev (frD fr)) (den E h) = some v := by
  unfold pSlV at hh
  simp only [evE_eq] at hh
  cases e : asL (ev (frD fr) x) with
  | no => rw [e] at hh; cases hh
  | yes a n c =>
    rw [e] at hh
    simp only [pev, asL_yes e]
    obtain ⟨m', g1, hh⟩ := thenN_some hh
    obtain ⟨h', g2, hh⟩ := thenN_some hh
    obtain ⟨l', g3, hh⟩ := thenN_some hh
    simp only [bndE_ok g1, bndE_ok g2, bndE_ok g3]
    cases a with
    | none => exact hh
    | some a =>
      have hh : (@Bool.rec (fun _ => OV) none (@Bool.rec (fun _ => OV) none (some (.slice (some ⟨a.block, Nat.add a.off (Nat.mul l' sz), none⟩) (Nat.sub h' l') (Nat.sub m' l'))) (elemO (getP (path a.block) h.t) elem)) (noSpot a)) = some v := hh
      rcases noSpot_cases a with ⟨n1, n2⟩ | n1
      · rw [n1, elemE_eq E] at hh
        dsimp only at hh
        cases e2 : (den E h).elemIs a.block elem with
        | false => rw [e2] at hh; cases hh
        | true => rw [e2] at hh; simp only [n2, e2, true_and, if_true]; exact hh
      · rw [n1] at hh; cases hh

theorem pFa_ok {off : Nat} {x : Operand} (hh : pFa off x fr h = some v) : pev (.fa off x) (ev (frD fr)) (den E h) = some v := by
  unfold pFa at hh
  simp only [evE_eq] at hh
  cases e : asP (ev (frD fr) x) with
  | no => rw [e] at hh; cases hh
  | null => rw [e] at hh; cases hh
  | yes a =>
    rw [e] at hh
    simp only [pev, asP_yes e]
    dsimp only at hh
    rcases noSpot_cases a with ⟨n1, n2⟩ | n1
    · rw [n1] at hh; rw [if_pos n2]; exact hh
    · rw [n1] at hh; cases hh

theorem pFld_ok {off n : Nat} {agg : Bool} {x : Operand} (hh : pFld off n agg x fr h = some v) : pev (.fld off n agg x) (ev (frD fr)) (den E h) = some v := by
  unfold pFld at hh
  simp only [evE_eq, takeE_eq, nthE_eq] at hh
  cases e : asA (ev (frD fr) x) with
  | no => rw [e] at hh; cases hh
  | yes cs =>
    rw [e] at hh
    simp only [pev, asA_yes e]
    cases agg with
    | false => exact hh
    | true =>
      obtain ⟨l, g1, rfl⟩ := aggO_some hh
      simp only [if_true, g1]

theorem pIa_ok {sz : Nat} {x i : Operand} (hh : pIa sz x i fr h = some v) : pev (.ia sz x i) (ev (frD fr)) (den E h) = some v := by
  unfold pIa at hh
  simp only [evE_eq] at hh
  cases e : asL (ev (frD fr) x) with
  | no => rw [e] at hh; cases hh
  | yes a n c =>
    rw [e] at hh
    cases a with
    | none => cases hh
    | some a =>
      dsimp only at hh
      cases e2 : asI (ev (frD fr) i) with
      | no => rw [e2] at hh; cases hh
      | yes k m =>
        rw [e2] at hh
        simp only [pev, asL_yes e, asI_yes e2]
        cases m with
        | negSucc m => cases hh
        | ofNat m =>
          have hh : (@Bool.rec (fun _ => OV) none (@Bool.rec (fun _ => OV) none (some (.pointer (some ⟨a.block, Nat.add a.off (Nat.mul m sz), none⟩))) (Nat.blt m n)) (noSpot a)) = some v := hh
          rcases noSpot_cases a with ⟨n1, n2⟩ | n1
          · rw [n1] at hh
            dsimp only at hh
            cases e3 : Nat.blt m n with
            | false => rw [e3] at hh; cases hh
            | true =>
              rw [e3] at hh
              have hc : a.spot = none ∧ (0 : Int) ≤ Int.ofNat m ∧ Int.ofNat m < (n : Int) := ⟨n2, Int.natCast_nonneg m, Int.ofNat_lt.2 (blt_iff.1 e3)⟩
              rw [if_pos hc]; exact hh
          · rw [n1] at hh; cases hh

theorem nthU_eq : ∀ (l : List UInt8) (n : Nat), nthU l n = (l[n]?).map fun b => .int .u8 (b.toNat : Int)
  | [], n => rfl
  | a :: l, n => by
    show (@Bool.rec (fun _ => OV) (nthU l (Nat.sub n 1)) (some (.int .u8 (.ofNat a.toNat))) (Nat.beq n 0)) = _
    cases n with
    | zero => rfl
    | succ n => exact nthU_eq l n

theorem ba_get (s : ByteArray) (n : Nat) : s[n]? = s.data.toList[n]? := by
  rw [Array.getElem?_toList]
  by_cases hn : n < s.size
  · rw [getElem?_pos s n hn, getElem?_pos s.data n hn]; rfl
  · rw [getElem?_neg s n hn, getElem?_neg s.data n hn]

theorem pIxS_ok {x i : Operand} (hh : pIxS x i fr h = some v) : pev (.ixS x i) (ev (frD fr)) (den E h) = some v := by
  unfold pIxS at hh
  simp only [evE_eq] at hh
  cases e : asS (ev (frD fr) x) with
  | no => rw [e] at hh; cases hh
  | yes s =>
    rw [e] at hh
    dsimp only at hh
    cases e2 : asI (ev (frD fr) i) with
    | no => rw [e2] at hh; cases hh
    | yes k m =>
      rw [e2] at hh
      simp only [pev, asS_yes e, asI_yes e2]
      cases m with
      | negSucc m => cases hh
      | ofNat m =>
        have hh : nthU s.data.toList m = some v := hh
        rw [nthU_eq] at hh
        rw [if_pos (show (0 : Int) ≤ Int.ofNat m from Int.natCast_nonneg m)]
        have e3 : (Int.ofNat m).toNat = m := rfl
        rw [e3, ba_get]
        cases e4 : s.data.toList[m]? with
        | none => rw [e4] at hh; cases hh
        | some b => rw [e4] at hh; exact hh

theorem pLookup_ok {str : Bool} {zero : Value} {ok : Bool} {m k : Operand} (hh : pLookup str zero ok m k fr h = some v) : pev (.lookup str zero ok m k) (ev (frD fr)) (den E h) = some v := by
  unfold pLookup at hh
  simp only [evE_eq, isKeyE_eq] at hh
  cases e : entE h (ev (frD fr) m) with
  | none => rw [e] at hh; cases hh
  | some es =>
    rw [e] at hh
    simp only [pev, entE_ok e]
    dsimp only at hh
    cases e2 : isKey str (ev (frD fr) k) with
    | false => rw [e2] at hh; cases hh
    | true =>
      rw [e2] at hh
      simp only [if_true]
      have hl := lookE_ok (ev (frD fr) k) es
      dsimp only at hh
      cases e3 : lookE (ev (frD fr) k) es with
      | bad => rw [e3] at hh; cases hh
      | no => rw [e3] at hh hl; simp only [hl]; cases ok <;> exact hh
      | yes u => rw [e3] at hh hl; simp only [hl]; cases ok <;> exact hh

theorem pTa_ok {t : TypeId} {zero : Value} {ok : Bool} {x : Operand} (hh : pTa t zero ok x fr h = some v) : pev (.ta t zero ok x) (ev (frD fr)) (den E h) = some v := by
  unfold pTa at hh
  simp only [evE_eq] at hh
  cases e : asX (ev (frD fr) x) with
  | no => rw [e] at hh; cases hh
  | null => rw [e] at hh; simp only [pev, asX_null e]; cases ok <;> exact hh
  | yes u w =>
    rw [e] at hh
    simp only [pev, asX_yes e]
    dsimp only at hh
    cases e2 : Nat.beq u t with
    | true =>
      have := Nat.beq_eq.mp e2
      subst this
      rw [e2] at hh
      rw [if_pos rfl]
      cases ok <;> exact hh
    | false =>
      have hne : u ≠ t := fun h => by subst h; simp at e2
      rw [e2] at hh
      rw [if_neg hne]
      cases ok <;> exact hh

theorem pExt_ok {x : Operand} {i : Nat} (hh : pExt x i fr h = some v) : pev (.ext x i) (ev (frD fr)) (den E h) = some v := by
  unfold pExt at hh
  simp only [evE_eq, nthE_eq] at hh
  cases e : asT (ev (frD fr) x) with
  | no => rw [e] at hh; cases hh
  | yes vs => rw [e] at hh; simp only [pev, asT_yes e]; exact hh

theorem pLenS_ok {x : Operand} (hh : pLenS x fr h = some v) : pev (.lenS x) (ev (frD fr)) (den E h) = some v := by
  unfold pLenS at hh
  simp only [evE_eq] at hh
  cases e : asS (ev (frD fr) x) with
  | no => rw [e] at hh; cases hh
  | yes s => rw [e] at hh; simp only [pev, asS_yes e]; cases hh; rw [lenE_eq]; rfl
theorem pLenV_ok {x : Operand} (hh : pLenV x fr h = some v) : pev (.lenV x) (ev (frD fr)) (den E h) = some v := by
  unfold pLenV at hh
  simp only [evE_eq] at hh
  cases e : asL (ev (frD fr) x) with
  | no => rw [e] at hh; cases hh
  | yes a n c => rw [e] at hh; simp only [pev, asL_yes e]; exact hh
theorem pLenM_ok {x : Operand} (hh : pLenM x fr h = some v) : pev (.lenM x) (ev (frD fr)) (den E h) = some v := by
  unfold pLenM at hh
  simp only [evE_eq] at hh
  cases e : entE h (ev (frD fr) x) with
  | none => rw [e] at hh; cases hh
  | some es => rw [e] at hh; simp only [pev, entE_ok e]; cases hh; rw [lenE_eq]; rfl
theorem pLd1_ok {x : Operand} (hh : pLd1 x fr h = some v) : pev (.ld1 x) (ev (frD fr)) (den E h) = some v := by
  unfold pLd1 at hh
  simp only [evE_eq, cellE_eq E] at hh
  cases e : asP (ev (frD fr) x) with
  | no => rw [e] at hh; cases hh
  | null => rw [e] at hh; cases hh
  | yes a => rw [e] at hh; simp only [pev, asP_yes e]; exact hh
theorem pLdN_ok {n : Nat} {x : Operand} (hh : pLdN n x fr h = some v) : pev (.ldN n x) (ev (frD fr)) (den E h) = some v := by
  unfold pLdN at hh
  simp only [evE_eq, cellsE_eq E] at hh
  cases e : asP (ev (frD fr) x) with
  | no => rw [e] at hh; cases hh
  | null => rw [e] at hh; cases hh
  | yes a =>
    rw [e] at hh
    obtain ⟨l, g1, rfl⟩ := aggO_some hh
    simp only [pev, asP_yes e, g1]

theorem apart_eq (E E' : LE) (h : HS) (u8 : List TypeId) (a b : Nat) : (den E h).apart u8 a b = (den E' h).apart u8 a b := by
  have key : ∀ (E : LE) (b : Nat), (∃ c t cl r, ∀ E' : LE, (den E' h).heap b = some (.cells c t cl r)) ∨ ∀ E' : LE, ∀ c t cl r, (den E' h).heap b ≠ some (.cells c t cl r) := by
    intro E b
    cases e : getP (path b) h.t with
    | none => right; intro E' c t cl r; rw [den_none e]; intro x; cases x
    | some o =>
      cases o with
      | cells c t cl r => left; exact ⟨c, t, cl, r, fun E' => den_get e⟩
      | loop st p => right; intro E' c t cl r; rw [den_get e]; rcases denL_not st p (E' b) with ⟨d, q⟩ | q <;> (simp only [denO, q]; intro x; cases x)
      | _ => right; intro E' c t cl r; rw [den_get e]; intro x; cases x
  unfold CW.apart
  rcases key E a with ⟨c, t, cl, r, h1⟩ | h1
  · rw [h1 E, h1 E']
    rcases key E b with ⟨c', t', cl', r', h2⟩ | h2
    · rw [h2 E, h2 E']; rfl
    · have no : ∀ E'' : LE, (match some (CObj.cells c t cl r), (den E'' h).heap b with
        | some (.cells _ E c _), some (.cells _ E' d _) => (decide (a < (den E'' h).inj) || !u8.contains E) && (decide (b < (den E'' h).inj) || !u8.contains E') && decide (((den E'' h).ro ≤ a ∨ a < (den E'' h).inj) ∧ ((den E'' h).ro ≤ b ∨ b < (den E'' h).inj)) && (if a < (den E'' h).ro ∧ b < (den E'' h).ro then decide (a < (den E'' h).inj ∨ b < (den E'' h).inj) else decide (c ≠ d))
        | _, _ => false) = false := by
        intro E''
        have := h2 E''
        split
        · rename_i e1 e2; exact absurd e2 (this _ _ _ _)
        · rfl
      exact (no E).trans (no E').symm
  · have no : ∀ E'' : LE, (match (den E'' h).heap a, (den E'' h).heap b with
        | some (.cells _ E c _), some (.cells _ E' d _) => (decide (a < (den E'' h).inj) || !u8.contains E) && (decide (b < (den E'' h).inj) || !u8.contains E') && decide (((den E'' h).ro ≤ a ∨ a < (den E'' h).inj) ∧ ((den E'' h).ro ≤ b ∨ b < (den E'' h).inj)) && (if a < (den E'' h).ro ∧ b < (den E'' h).ro then decide (a < (den E'' h).inj ∨ b < (den E'' h).inj) else decide (c ≠ d))
        | _, _ => false) = false := by
        intro E''
        have := h1 E''
        split
        · rename_i e1 e2; exact absurd e1 (this _ _ _ _)
        · rfl
    exact (no E).trans (no E').symm
theorem pCapV_ok {x : Operand} (hh : pCapV x fr h = some v) : pev (.capV x) (ev (frD fr)) (den E h) = some v := by
  unfold pCapV at hh
  simp only [evE_eq] at hh
  cases e : asL (ev (frD fr) x) with
  | no => rw [e] at hh; cases hh
  | yes a n c =>
    rw [e] at hh
    simp only [pev, asL_yes e]
    cases a with
    | none => exact hh
    | some a => cases hh
theorem ptr0 {a : Addr} (h1 : a.spot = none) (h2 : a.off = 0) : a = ⟨a.block, 0, none⟩ := by cases a; simp only at h1 h2; subst h1 h2; rfl
theorem pEntry_ok {x : Operand} (hh : pEntry x fr h = some v) : pev (.entry x) (ev (frD fr)) (den E h) = some v := by
  unfold pEntry at hh
  simp only [evE_eq] at hh
  cases e : asP (ev (frD fr) x) with
  | no => rw [e] at hh; cases hh
  | null => rw [e] at hh; cases hh
  | yes a =>
    rw [e] at hh
    dsimp only at hh
    rcases noSpot_cases a with ⟨n1, n2⟩ | n1
    · rw [n1] at hh
      dsimp only at hh
      cases e2 : Nat.beq a.off 0 with
      | false => rw [e2] at hh; cases hh
      | true =>
        rw [e2] at hh
        have hh : enIt h (getP (path a.block) h.t) = some v := hh
        simp only [pev, asP_yes e]
        rw [ptr0 n2 (Nat.beq_eq.mp e2)]
        cases e3 : getP (path a.block) h.t with
        | none => rw [e3] at hh; cases hh
        | some o =>
          rw [e3] at hh
          cases o with
          | iter m ver seen =>
            cases m with
            | none => cases hh
            | some m =>
              have hh : enSeen h m ver seen = some v := hh
              cases seen with
              | nil => cases hh
              | cons k seen =>
                have hh : enMap ver k (entV (getP (path m) h.t)) = some v := hh
                cases e4 : entV (getP (path m) h.t) with
                | no => rw [e4] at hh; cases hh
                | yes es w =>
                  rw [e4] at hh
                  have hh : (@Bool.rec (fun _ => OV) none (enLk k (lookE k es)) (Nat.beq w ver)) = some v := hh
                  cases e5 : Nat.beq w ver with
                  | false => rw [e5] at hh; cases hh
                  | true =>
                    rw [e5] at hh
                    have hh : enLk k (lookE k es) = some v := hh
                    have hl := lookE_ok k es
                    cases e6 : lookE k es with
                    | bad => rw [e6] at hh; cases hh
                    | no => rw [e6] at hh; cases hh
                    | yes u =>
                      rw [e6] at hh hl
                      simp only [CW.entry, den_get e3, den_get (entV_ok e4), denO, if_pos (Nat.beq_eq.mp e5), hl]
                      exact hh
          | _ => cases hh
    · rw [n1] at hh; cases hh

theorem pevE_ok {o : POp} (hh : pevE o fr h = some v) : pev o (ev (frD fr)) (den E h) = some v := by
  cases o
  case mov x => have hh : some (evE x fr) = some v := hh; rw [evE_eq] at hh; exact hh
  case pick c a b => exact pPick_ok hh
  case nilck x => exact pNilck_ok hh
  case bin op x y => have hh : binE op (evE x fr) (evE y fr) = some v := hh; rw [evE_eq, evE_eq] at hh; exact binE_ok hh
  case beq neg x y => exact pBeq_ok hh
  case isnil neg c x =>
    have hh : nilE c neg (evE x fr) = some v := hh
    rw [evE_eq] at hh
    obtain ⟨b, g1, rfl⟩ := nilE_ok hh
    simp only [pev, g1]
  case un op x =>
    have hh : unE op (evE x fr) = some v := hh
    rw [evE_eq] at hh
    rcases unE_ok hh with ⟨k, n, g1, g2⟩ | ⟨b, g1, g2⟩
    · simp only [pev, g1]; exact g2
    · simp only [pev, g1]; exact g2
  case i2i k x => exact pI2i_ok hh
  case i2s x => exact pI2s_ok hh
  case s2s x => exact pS2s_ok hh
  case b2s x => exact pB2s_ok hh
  case mkif t x => have hh : some (.iface t (evE x fr)) = some v := hh; rw [evE_eq] at hh; exact hh
  case mkfn f a b =>
    have hh : some (.func (.func f) ⟨mapE a fr⟩ ⟨mapE b fr⟩) = some v := hh
    rw [mapE_eq, mapE_eq] at hh
    exact hh
  case slS x lo hi => exact pSlS_ok hh
  case slV e s x lo hi mx => exact pSlV_ok hh
  case fa off x => exact pFa_ok hh
  case fld off n agg x => exact pFld_ok hh
  case ia sz x i => exact pIa_ok hh
  case ixS x i => exact pIxS_ok hh
  case lookup s z ok m k => exact pLookup_ok hh
  case ta t z ok x => exact pTa_ok hh
  case ext x i => exact pExt_ok hh
  case lenS x => exact pLenS_ok hh
  case lenV x => exact pLenV_ok hh
  case lenM x => exact pLenM_ok hh
  case ld1 x => exact pLd1_ok hh
  case ldN n x => exact pLdN_ok hh
  case build zero parts =>
    obtain ⟨l, g1, rfl⟩ := aggO_some (show aggO (fillE fr parts zero) = some v from hh)
    simp only [pev, fillE_ok g1]
  case mm m x y =>
    have hh : pev (.mm m x y) (fun x => evE x fr) (den (fun _ => none) h) = some v := hh
    simp only [evE_eq] at hh; exact hh
  case cmp x y =>
    have hh : pev (.cmp x y) (fun x => evE x fr) (den (fun _ => none) h) = some v := hh
    simp only [evE_eq] at hh; exact hh
  case eqI n a b x y =>
    have hh : pev (.eqI n a b x y) (fun x => evE x fr) (den (fun _ => none) h) = some v := hh
    simp only [evE_eq] at hh
    have e : ∀ x y, eqIface (den (fun _ => none) h) a b x y = eqIface (den E h) a b x y := by
      intro x y
      unfold eqIface
      have ht : ∀ a b, (den (fun _ => none) h).told a b = (den E h).told a b := fun _ _ => rfl
      simp only [apart_eq (fun _ => none) E, ht]
    simp only [pev, e] at hh ⊢; exact hh
  case capV x => exact pCapV_ok hh
  case entry x => exact pEntry_ok hh
end
end Go.Cn.Ev
