/- Operations that only read: what is said of them is true. -/
import Derived.Test.YtfagmflapdgcmaaDoorCnA2
namespace Go.Cn
set_option linter.unusedVariables false
set_option linter.unusedSimpArgs false

section
variable {F : Nat → Nat} {h : AH} {σ : CW}

theorem Rp.int_inv {k : IntKind} {n : Int} {v : Value} (h : Rp F σ (.int k n) v) : v = .int k n := by cases h; rfl
theorem Rp.bool_inv {b : Bool} {v : Value} (h : Rp F σ (.bool b) v) : v = .bool b := by cases h; rfl
theorem Rp.str_inv {s : List UInt8} {v : Value} (h : Rp F σ (.str s) v) : v = .string ⟨⟨s⟩⟩ := by cases h; rfl

theorem key_rp {a : AV} {v k : Value} (h : keyV a = some k) (hr : Rp F σ a v) : v = k := by
  cases hr <;> simp [keyV] at h <;> exact h

theorem binA_rp {op : BinOp} {a b r : AV} {x y : Value} (h : binA op a b = some r) (ha : Rp F σ a x) (hb : Rp F σ b y) : ∃ v, cbin op x y = some v ∧ Rp F σ r v := by
  unfold binA at h
  split at h
  · rename_i j m k n
    cases ha.int_inv
    cases hb.int_inv
    split at h
    · rename_i e
      subst e
      unfold binI at h
      split at h <;> (try (cases h; done))
      case h_4 =>
        split at h
        · cases h
        · rename_i hn
          cases h
          exact ⟨_, by simp [cbin, binOp, Op.intDiv, hn, pureOf]; rfl, .int _ _⟩
      case h_5 =>
        split at h
        · cases h
        · rename_i hn
          cases h
          exact ⟨_, by simp [cbin, binOp, Op.intDiv, hn, pureOf]; rfl, .int _ _⟩
      all_goals cases h
      all_goals first
        | exact ⟨_, by simp [cbin, binOp, Op.intArith, pureOf]; rfl, .int _ _⟩
        | refine ⟨.bool _, ?_, .bool _⟩
      all_goals simp only [cbin, binOp, Op.intCmp, ne_eq, not_true_eq_false, if_false]
      all_goals first | rfl | (show some (Value.bool _) = some (Value.bool _); congr 2; first | rfl | (rw [Bool.eq_iff_iff]; simp [bne]))
    · cases h
  · rename_i s t
    cases ha.str_inv
    cases hb.str_inv
    have el : ∀ l : List UInt8, (⟨⟨l⟩⟩ : ByteArray).toList = l := fun l => by simp
    have hbeq : ∀ s t : List UInt8, (s == t) = decide (s = t) := fun s t => by rw [Bool.eq_iff_iff]; simp
    unfold binS at h
    split at h <;> (try (cases h; done))
    case h_1 =>
      split at h
      · rename_i hlt
        cases h
        refine ⟨.string ⟨⟨s ++ t⟩⟩, ?_, .str _⟩
        have hsz : ∀ l : List UInt8, (⟨⟨l⟩⟩ : ByteArray).size = l.length := fun l => rfl
        have hn : ¬ (((⟨⟨s⟩⟩ : ByteArray).size + (⟨⟨t⟩⟩ : ByteArray).size : Nat) : Int) > IntKind.i64.max := by
          rw [hsz, hsz]
          have : IntKind.i64.max = 9223372036854775807 := by decide
          rw [this]
          have : (2 : Nat) ^ 62 = 4611686018427387904 := by decide
          omega
        simp only [cbin, binOp, Op.stringOp]
        rw [if_neg hn]
        show some _ = some _
        congr 2
      · cases h
    all_goals cases h
    all_goals refine ⟨.bool _, ?_, .bool _⟩
    all_goals simp only [cbin, binOp, Op.stringOp, el, hbeq, ltS]
    all_goals rfl
  · cases h

theorem isNil_rp {c v : Value} {a : AV} {b : Bool} (h : isNilA c a = some b) (hr : Rp F σ a v) : isNilAs c v = some b := by
  unfold isNilA at h
  split at h <;> (try (cases h; done))
  all_goals (split at h <;> (try (cases h; done)))
  all_goals (cases h; cases hr <;> first | rfl | (exfalso; simp_all; done))

theorem byte_rp {a : AV} {v : Value} {b : UInt8} (h : byteA a = some b) (hr : Rp F σ a v) : ∃ n, v = .int .u8 n ∧ b = UInt8.ofNat n.toNat := by
  unfold byteA at h
  split at h
  · rename_i n; cases h; exact ⟨n, hr.int_inv, rfl⟩
  · cases h
theorem bytes_rp : ∀ {l : List AV} {l' : List Value} {r : List UInt8}, bytesA l = some r → RpL F σ l l' → bytesOfCells l' = some r
  | [], l', r, h, hr => by
    cases h
    have := hr.1
    cases l' with
    | nil => rfl
    | cons _ _ => simp at this
  | a :: l, l', r, h, hr => by
    cases l' with
    | nil => have := hr.1; simp at this
    | cons v l' =>
      obtain ⟨h1, h2⟩ := hr.of_cons
      unfold bytesA at h
      split at h
      · rename_i b r' e1 e2
        cases h
        obtain ⟨n, rfl, rfl⟩ := byte_rp e1 h1
        simp only [bytesOfCells, bytes_rp e2 h2]
      · cases h

theorem bnd_rp {d y n : Nat} {ρA : Operand → AV} {ρ : Operand → Value} (hρ : ∀ x, Rp F σ (ρA x) (ρ x)) {x : Option Operand} (h : bndA d y (x.map ρA) = some n) : bnd d y (x.map ρ) = some n := by
  cases x with
  | none => exact h
  | some x =>
    simp only [Option.map_some] at h ⊢
    cases e : ρA x <;> rw [e] at h <;> simp only [bndA] at h <;> (try (cases h; done))
    rename_i k i
    have := hρ x
    rw [e] at this
    rw [this.int_inv]
    exact h

theorem keyEq_rp {k k' : AV} {v v' : Value} {r : Bool} (h : keyEqA k k' = some r) (hk : Rp F σ k v) (hk' : keyV k' = some v') : keyEq v v' = some r := by
  unfold keyEqA at h
  split at h
  · rename_i a b
    cases h
    cases hk.str_inv
    simp only [keyV, Option.some.injEq] at hk'
    subst hk'
    show some (a == b) = some (decide (a = b))
    congr 1
    rw [Bool.eq_iff_iff]; simp
  · rename_i j a k b
    cases hk.int_inv
    simp only [keyV, Option.some.injEq] at hk'
    subst hk'
    split at h
    · rename_i e
      subst e
      cases h
      simp only [keyEq, beq_self_eq_true, if_true]
      congr 1
    · cases h
  · cases h

theorem EntR.of_cons {p : AV × AV} {es : List (AV × AV)} {es' : List (Value × Value)} (h : EntR F σ (p :: es) es') : ∃ q l, es' = q :: l ∧ keyV p.1 = some q.1 ∧ Rp F σ p.2 q.2 ∧ EntR F σ es l := by
  cases es' with
  | nil => have := h.1; simp at this
  | cons q l =>
    obtain ⟨h1, h2⟩ := h.2 0 p q rfl rfl
    exact ⟨q, l, rfl, h1, h2, by simpa using h.1, fun i p' q' hp hq => h.2 (i + 1) p' q' (by simpa using hp) (by simpa using hq)⟩
theorem EntR.nil : EntR F σ [] [] := ⟨rfl, fun i p q h => by simp at h⟩
theorem EntR.cons {p : AV × AV} {q : Value × Value} {es : List (AV × AV)} {es' : List (Value × Value)} (h1 : keyV p.1 = some q.1) (h2 : Rp F σ p.2 q.2) (h : EntR F σ es es') : EntR F σ (p :: es) (q :: es') := by
  refine ⟨by simp [h.1], fun i p' q' hp hq => ?_⟩
  cases i with
  | zero => simp at hp hq; subst hp hq; exact ⟨h1, h2⟩
  | succ i => simp at hp hq; exact h.2 i p' q' hp hq
theorem EntR.nil_inv {es' : List (Value × Value)} (h : EntR F σ [] es') : es' = [] := by
  cases es' with
  | nil => rfl
  | cons _ _ => have := h.1; simp at this

theorem look_rp {k : AV} {v : Value} (hk : Rp F σ k v) : ∀ {es : List (AV × AV)} {es' : List (Value × Value)} {r : Option AV}, lookA k es = some r → EntR F σ es es' →
    (r = none ∧ look v es' = some none) ∨ ∃ a x, r = some a ∧ look v es' = some (some x) ∧ Rp F σ a x
  | [], es', r, h, he => by
    cases h
    rw [he.nil_inv]; exact .inl ⟨rfl, rfl⟩
  | (k', a) :: es, es', r, h, he => by
    obtain ⟨⟨q1, q2⟩, l, rfl, h1, h2, h3⟩ := he.of_cons
    unfold lookA at h
    split at h
    · rename_i e; cases h
      exact .inr ⟨a, q2, rfl, by simp only [look, keyEq_rp e hk h1], h2⟩
    · rename_i e
      have := keyEq_rp e hk h1
      rcases look_rp hk h h3 with ⟨g1, g2⟩ | ⟨a', x, g1, g2, g3⟩
      · exact .inl ⟨g1, by simp only [look, this]; exact g2⟩
      · exact .inr ⟨a', x, g1, by simp only [look, this]; exact g2, g3⟩
    · cases h

theorem ent_rp (hA : AR F h σ) {a : AV} {v : Value} {es : List (AV × AV)} (he : entA h a = some es) (hr : Rp F σ a v) : ∃ es', σ.entries v = some es' ∧ EntR F σ es es' := by
  unfold entA at he
  split at he
  · cases he; cases hr; exact ⟨[], rfl, .nil⟩
  · cases he
    cases hr with
    | fmap0 => exact ⟨[], rfl, .nil⟩
    | @fmap _ es' b ver hb hF hl hk hv => exact ⟨es', by simp [CW.entries, hb], hl, fun i p q hp hq => ⟨hk i p q hp hq, hv i p q hp hq⟩⟩
  · rename_i b
    split at he
    · rename_i es0 ho
      cases he
      cases hr
      obtain ⟨_, _, es', ver, h1, h2⟩ := hA.obj b _ ho
      exact ⟨es', by simp [CW.entries, h1], h2⟩
    · cases he
  · cases he

theorem cellAt_rp (hA : AR F h σ) {b : Nat} {cs : List AV} (hc : cellAt h b = some cs) : ∃ c, σ.row b = some c ∧ RpL F σ cs c := by
  unfold cellAt at hc
  split at hc
  · rename_i ds E ho
    cases hc
    obtain ⟨_, _, c, _, _, h1, h2, _⟩ := hA.obj b _ ho
    exact ⟨c, by simp [CW.row, h1], h2⟩
  · rename_i ds E ho
    cases hc
    obtain ⟨_, _, c, cl, rel, h1, _, _, h2⟩ := hA.obj b _ ho
    exact ⟨c, by simp [CW.row, h1], h2⟩
  · cases hc

theorem elemAt_rp (hA : AR F h σ) {b : Nat} {E : TypeId} (hc : elemAt h b = some E) : ∃ c cl rel, σ.heap b = some (.cells c E cl rel) := by
  unfold elemAt at hc
  split at hc
  · rename_i ds E ho
    cases hc
    obtain ⟨_, _, c, _, _, h1, h2, _⟩ := hA.obj b _ ho
    exact ⟨c, _, _, h1⟩
  · rename_i ds E ho
    cases hc
    obtain ⟨_, _, c, cl, rel, h1, _⟩ := hA.obj b _ ho
    exact ⟨c, cl, rel, h1⟩
  · cases hc

theorem takeA_rp {l r : List AV} {l' : List Value} {i n : Nat} (h : takeA l i n = some r) (hl : RpL F σ l l') : ∃ r', takeAt l' i n = some r' ∧ RpL F σ r r' := by
  unfold takeA at h
  split at h
  · rename_i hle
    cases h
    exact ⟨_, by unfold takeAt; rw [if_pos (by rw [← hl.1]; exact hle)], (hl.drop i).take n⟩
  · cases h
theorem putA_rp {l r vs : List AV} {l' vs' : List Value} {i : Nat} (h : putA l i vs = some r) (hl : RpL F σ l l') (hv : RpL F σ vs vs') : ∃ r', putAt l' i vs' = some r' ∧ RpL F σ r r' := by
  unfold putA at h
  split at h
  · rename_i hle
    cases h
    refine ⟨_, by unfold putAt; rw [if_pos (by rw [← hl.1, ← hv.1]; exact hle)], ?_⟩
    rw [hv.1]
    exact ((hl.take i).append hv).append (hl.drop _)
  · cases h

theorem rp_any {a : AV} (h : isAny a = false) : a ≠ .any := by rintro rfl; cases h

theorem fillA_rp {ρA : Operand → AV} {ρ : Operand → Value} (hρ : ∀ x, Rp F σ (ρA x) (ρ x)) : ∀ {ps : List (Nat × Nat × Operand)} {l r : List AV} {l' : List Value}, fillA l (ps.map fun (o, s, x) => (o, s, ρA x)) = some r → RpL F σ l l' →
    ∃ r', fillL l' (ps.map fun (o, s, x) => (o, s, ρ x)) = some r' ∧ RpL F σ r r'
  | [], l, r, l', h, hl => by cases h; exact ⟨l', rfl, hl⟩
  | (o, s, x) :: ps, l, r, l', h, hl => by
    simp only [List.map_cons, fillA] at h
    split at h
    · rename_i hc
      split at h
      · rename_i l1 h1
        have hcells := (hρ x).cells (rp_any hc.1)
        obtain ⟨r1, g1, g2⟩ := putA_rp h1 hl hcells
        obtain ⟨r2, g3, g4⟩ := fillA_rp hρ h g2
        refine ⟨r2, ?_, g4⟩
        simp only [List.map_cons, fillL]
        rw [if_pos (by rw [← hcells.1]; exact hc.2), g1]; exact g3
      · cases h
    · cases h

theorem ofC1L_rp (l : List Value) : RpL F σ (l.map ofC1) l := by
  refine ⟨by simp, fun i x y hx hy => ?_⟩
  simp only [List.getElem?_map, hy, Option.map_some, Option.some.injEq] at hx
  subst hx; exact ofC1_rp F σ y

theorem eqI_rp (hA : AR F h σ) {ok u8 : List TypeId} {a b : AV} {v w : Value} {r : Bool} (he : eqIA h ok u8 a b = some r) (ha : Rp F σ a v) (hb : Rp F σ b w) : eqIface σ ok u8 v w = some r := by
  unfold eqIA at he
  split at he
  · cases he; cases ha; cases hb; rfl
  · cases he; cases ha; cases hb; rfl
  · rename_i t x u y
    cases ha with
    | iface ha =>
      cases hb with
      | iface hb =>
        split at he
        · rename_i e
          subst e
          split at he
          · rename_i a1 o1 a2 o2
            cases ha
            cases hb
            split at he
            · rename_i hok
              simp only [eqIface, if_true, hok, true_and, and_self]
              split at he
              · rename_i e; cases he; rw [if_pos e]
              · rename_i hne
                rw [if_neg hne]
                split at he
                · rename_i hu
                  obtain ⟨hu, hu0⟩ := hu
                  cases he
                  have hap : σ.apart u8 a1 a2 = true := by
                    unfold apartA at hu
                    unfold CW.apart
                    split at hu
                    · rename_i q1 q2
                      obtain ⟨_, k1, _, cl1, _, k2, _, _, _, k5, _⟩ := hA.obj a1 _ q1
                      obtain ⟨_, k3, _, cl2, _, k4, _, _, _, k6, _⟩ := hA.obj a2 _ q2
                      have hcl : cl1 ≠ cl2 := by
                        rintro rfl
                        rw [k5] at k6
                        injection k6 with k6 _
                        injection k6 with k6 _
                        exact hne k6
                      rw [k2, k4]
                      obtain ⟨hE1, hE2⟩ := (by simpa only [Bool.and_eq_true, Bool.not_eq_true'] using hu)
                      simp only [hE1, hE2, Bool.not_false, Bool.or_true, Bool.true_and, show ((σ.ro ≤ a1 ∨ a1 < σ.inj) ∧ (σ.ro ≤ a2 ∨ a2 < σ.inj)) from ⟨.inl k1, .inl k3⟩, decide_true]
                      rw [if_neg (by omega)]
                      simpa using hcl
                    · rename_i q1 q2
                      obtain ⟨k1, k2, _, _, _, k5, _⟩ := hA.obj a1 _ q1
                      obtain ⟨k3, k4, _, _, _, k6, _⟩ := hA.obj a2 _ q2
                      rw [k5, k6]
                      simp only [decide_eq_true k2, decide_eq_true k4, Bool.true_or, Bool.true_and, show ((σ.ro ≤ a1 ∨ a1 < σ.inj) ∧ (σ.ro ≤ a2 ∨ a2 < σ.inj)) from ⟨.inr k2, .inr k4⟩, decide_true]
                      rw [if_pos ⟨k1, k3⟩]
                      simp [k2]
                    · cases hu
                  rw [if_pos ⟨hap, by unfold CW.told; rw [decide_eq_true_eq]; exact .inr (.inr ⟨hu0.1, hu0.2⟩)⟩]
                · cases he
            · cases he
          · cases he
        · rename_i e
          split at he
          · rename_i hp
            cases he
            simp only [Bool.and_eq_true] at hp
            have key : ∀ (a : AV) (v : Value), isPtrA a = true → Rp F σ a v → ∃ ad, v = .pointer (some ad) := by
              intro a v h1 h2
              cases h2 <;> first | exact ⟨_, rfl⟩ | cases h1
            obtain ⟨a1, rfl⟩ := key _ _ hp.1 ha
            obtain ⟨a2, rfl⟩ := key _ _ hp.2 hb
            simp only [eqIface, if_neg e]
          · cases he
  · cases he

end
end Go.Cn
