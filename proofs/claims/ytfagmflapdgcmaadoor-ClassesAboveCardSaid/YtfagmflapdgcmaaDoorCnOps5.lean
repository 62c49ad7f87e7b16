/- Interface values compared. -/
import Derived.Test.YtfagmflapdgcmaaDoorCnOps4
namespace Go.Cn
set_option linter.unusedVariables false
set_option linter.unusedSimpArgs false

section ops
variable {P : Program} {β : Ren} {σ : CW} {w : World} {ev' ρ : Operand → Value} {o : Oper} {v : Value}

theorem ptrOk_some {t : TypeId} (h : ptrOk P t = true) : ∃ i e n, P.info? t = some i ∧ i.comparable = true ∧ P.underlying t = some (.pointer e) ∧ szOf P e = some n ∧ n ≠ 0 := by
  unfold ptrOk at h
  split at h
  · rename_i i e h1 h2
    rw [Bool.and_eq_true] at h
    obtain ⟨h3, h4⟩ := h
    split at h4
    · rename_i n hn
      refine ⟨i, e, n, h1, h3, h2, hn, ?_⟩
      intro h0; subst h0; simp at h4
    · cases h4
  · cases h

theorem r_same_block {a b : Addr} (h : a.block = b.block) : (sameAddr a b).run P w = .ok (a == b) w := by
  unfold sameAddr
  have : (a.block == b.block) = true := by simp [h]
  rw [if_pos this]; rfl

theorem r_other_block {a b : Addr} (h : a.block ≠ b.block) {c d : Array Value} {E E' : TypeId} (ha : w.heap[a.block]? = some (.cells c E (0, 0))) (hb : w.heap[b.block]? = some (.cells d E' (0, 0))) :
    (sameAddr a b).run P w = .ok false w := by
  have hn : (a.block == b.block) = false := by simp [h]
  have sa : w.shape? a.block = some (E, c.size) := by simp [World.shape?, ha]
  have sb : w.shape? b.block = some (E', d.size) := by simp [World.shape?, hb]
  have fa : ∀ k s, w.frozen? ⟨a.block, k, s⟩ = false := by intro k s; simp [World.frozen?, ha]
  have fb : ∀ k s, w.frozen? ⟨b.block, k, s⟩ = false := by intro k s; simp [World.frozen?, hb]
  have fa' : w.frozen? a = false := fa a.off a.spot
  have fb' : w.frozen? b = false := fb b.off b.spot
  have va : (viewAt a.block).run P w = .ok none w := by simp [viewAt, sa]
  have vb : (viewAt b.block).run P w = .ok none w := by simp [viewAt, sb]
  have na : (noView a).run P w = .ok () w := by simp [noView, va]
  have nb : (noView b).run P w = .ok () w := by simp [noView, vb]
  have ta : (stringish a).run P w = .ok false w := by simp [stringish, fa', sa, fa]
  have tb : (stringish b).run P w = .ok false w := by simp [stringish, fb', sb, fb]
  have m : (mayBeOne a b).run P w = .ok false w := by simp [mayBeOne, ta, tb, sa, sb]
  unfold sameAddr
  rw [if_neg (by simp [hn])]
  simp [fa', fb', na, nb, m]

theorem apart_some {u8 : List TypeId} {a b : Nat} (h : σ.apart u8 a b = true) : ∃ c E cl r d E' cl' r', σ.heap a = some (.cells c E cl r) ∧ σ.heap b = some (.cells d E' cl' r') ∧ (a < σ.inj ∨ u8.contains E = false) ∧ (b < σ.inj ∨ u8.contains E' = false) ∧ (σ.ro ≤ a ∨ a < σ.inj) ∧ (σ.ro ≤ b ∨ b < σ.inj) ∧
    ((a < σ.ro ∧ b < σ.ro ∧ (a < σ.inj ∨ b < σ.inj)) ∨ (¬ (a < σ.ro ∧ b < σ.ro) ∧ cl ≠ cl')) := by
  unfold CW.apart at h
  split at h
  · rename_i c E cl r d E' cl' r' h1 h2
    simp only [Bool.and_eq_true, Bool.or_eq_true, Bool.not_eq_true', decide_eq_true_eq] at h
    obtain ⟨⟨⟨h3, h4⟩, h7, h8⟩, h5⟩ := h
    refine ⟨c, E, cl, r, d, E', cl', r', h1, h2, h3, h4, h7, h8, ?_⟩
    split at h5
    · rename_i h6; simp only [decide_eq_true_eq] at h5; exact .inl ⟨h6.1, h6.2, h5⟩
    · rename_i h6; simp only [decide_eq_true_eq] at h5; exact .inr ⟨h6, h5⟩
  · cases h

theorem u8_mem {t : TypeId} (hl : t < P.types.size) (h : P.underlying t = some (.int .u8)) : (u8Types P).contains t = true := by
  unfold u8Types
  rw [List.contains_iff_mem, List.mem_filter]
  exact ⟨List.mem_range.2 hl, by simp [isU8, h]⟩

/-- a row's marks, where it is none of bytes -/
theorem Rel.unfrozen {b : Nat} {i : BI} {c : List Value} {E : TypeId} {cl rel : Nat} (h : Rel P β σ w) (hb : β b = some i) (hc : σ.heap b = some (.cells c E cl rel)) (hu : b < σ.inj ∨ (u8Types P).contains E = false) (hwr : σ.ro ≤ b ∨ b < σ.inj)
    (hty : ∀ t, P.underlying t = some (.int .u8) → t < P.types.size) : ∃ c', w.heap[i.B]? = some (.cells c' i.E (0, 0)) := by
  obtain ⟨c', fr, hB, hE, _, _, hs, _⟩ := (h.obj b i _ hb hc).cells_inv
  rcases hs (h.wr.2 b i hb hwr) with h0 | ⟨_, h0⟩
  · exact ⟨c', by rw [hB, h0]⟩
  · rcases hu with hu | hu
    · obtain ⟨i', q1, q2⟩ := h.wr.1 b hu
      rw [hb] at q1; cases q1
      exact absurd h0 q2
    rw [hE] at hu
    have := u8_mem (hty _ h0) h0
    rw [this] at hu; cases hu

theorem p_eqI {neg : Bool} {t t' : TypeId} {x y : Operand} {ms : Array (String × TypeId)} (h : Rel P β σ w) (ho : o.op = .binOp (if neg then .neq else .eql) t x y t') (ht : P.underlying t = some (.interface ms))
    (hty : ∀ t, P.underlying t = some (.int .u8) → t < P.types.size)
    (hx : VRel P β (ev' x) (ρ x)) (hy : VRel P β (ev' y) (ρ y)) (hp : pev (.eqI neg (okTypes P) (u8Types P) x y) ev' σ = some v) : Gives P ρ o w β v := by
  simp only [pev] at hp
  split at hp
  case h_2 => cases hp
  rename_i b hb
  cases hp
  -- what the model's equality gives
  have key : ∃ vx vy, ρ x = vx ∧ ρ y = vy ∧ (Op.equal t vx vy).run P w = .ok b w ∧ (eqGuard (if neg then .neq else .eql) t x y vx vy).run P w = .ok () w ∧
      (∀ n : Bool, binOp (if n then .neq else .eql) t vx vy = (Op.equal t vx vy >>= fun r => pure (.bool (if n then !r else r)))) := by
    unfold eqIface at hb
    split at hb
    · rename_i u z e1 e2
      cases hb
      obtain ⟨z', q2, _⟩ := (e2 ▸ hy).iface_inv
      refine ⟨_, _, (e1 ▸ hx).nilIface_inv, q2, ?_, by cases neg <;> rfl, fun n => by cases n <;> rfl⟩
      show (Op.equalIn (9999 + 1) t _ _).run P w = _
      rw [Op.equalIn, Sem.run_bind, r_und ht]; rfl
    · rename_i u z e1 e2
      cases hb
      obtain ⟨z', q1, _⟩ := (e1 ▸ hx).iface_inv
      refine ⟨_, _, q1, (e2 ▸ hy).nilIface_inv, ?_, by cases neg <;> rfl, fun n => by cases n <;> rfl⟩
      show (Op.equalIn (9999 + 1) t _ _).run P w = _
      rw [Op.equalIn, Sem.run_bind, r_und ht]; rfl
    · rename_i tx a ty b' e1 e2
      obtain ⟨x', q1, hx'⟩ := (e1 ▸ hx).iface_inv
      obtain ⟨y', q2, hy'⟩ := (e2 ▸ hy).iface_inv
      obtain ⟨_, i, hi, r1⟩ := hx'.ptr_inv
      obtain ⟨_, j, hj, r2⟩ := hy'.ptr_inv
      subst r1 r2
      refine ⟨_, _, q1, q2, ?_, by cases neg <;> rfl, fun n => by cases n <;> rfl⟩
      have e9 : Op.equal t (.iface tx (.pointer (some ⟨i.B, a.off + i.sh, none⟩))) (.iface ty (.pointer (some ⟨j.B, b'.off + j.sh, none⟩))) = Op.equalIn (9998 + 1 + 1) t (.iface tx (.pointer (some ⟨i.B, a.off + i.sh, none⟩))) (.iface ty (.pointer (some ⟨j.B, b'.off + j.sh, none⟩))) := rfl
      rw [e9]
      generalize 9998 = N
      rw [Op.equalIn, Sem.run_bind, r_und ht, Result.andThen_ok]
      split at hb
      · rename_i htt
        subst htt
        split at hb
        case isFalse => cases hb
        rename_i hok
        have hok' : ptrOk P tx = true := by
          have := hok.1
          unfold okTypes at this
          rw [List.contains_iff_mem, List.mem_filter] at this
          exact this.2
        obtain ⟨inf, e, n, h1, h2, h3, h4, h5⟩ := ptrOk_some hok'
        simp only [ne_eq, not_true_eq_false, if_false, Sem.run_bind, r_info h1, Result.andThen, h2, Bool.not_true, Bool.false_eq_true]
        rw [Op.equalIn, Sem.run_bind, r_und h3, Result.andThen_ok]
        simp only [Sem.run_bind, r_size h4, Result.andThen, ne_eq, h5, not_false_eq_true, if_true]
        split at hb
        · rename_i hbl
          cases hb
          rw [hbl, hj] at hi; cases hi
          refine (r_same_block (a := ⟨i.B, a.off + i.sh, none⟩) (b := ⟨i.B, b'.off + i.sh, none⟩) rfl).trans ?_
          congr 1
          rw [Bool.eq_iff_iff]
          simp only [beq_iff_eq, decide_eq_true_eq, Addr.mk.injEq, true_and, and_true]
          omega
        · rename_i hbl
          split at hb
          case isFalse => cases hb
          rename_i hap
          cases hb
          obtain ⟨c, E, cl, r, d, E', cl', r', g1, g2, g3, g4, g6, g7, g5⟩ := apart_some hap.1
          obtain ⟨c1, k1⟩ := h.unfrozen hi g1 g3 g6 hty
          obtain ⟨c2, k2⟩ := h.unfrozen hj g2 g4 g7 hty
          by_cases hBB : i.B = j.B
          · obtain ⟨a1, a2⟩ := h.alias a.block b'.block i j hbl hi hj hBB
            rw [g1, g2] at a2
            simp only at a2
            have hsh : a.off + i.sh ≠ b'.off + j.sh := by
              have ht := hap.2
              unfold CW.told at ht
              simp only [decide_eq_true_eq] at ht
              rcases g5 with ⟨m1, m2, m3⟩ | ⟨m1, m2⟩
              · rcases a2 with ⟨_, n1⟩ | ⟨n1, _⟩ <;> omega
              · rcases a2 with ⟨n0, _⟩ | ⟨_, n1, _⟩
                · exact absurd ⟨n0, a1.1 n0⟩ m1
                · exact absurd n1 m2
            rw [hBB]
            refine (r_same_block (a := ⟨j.B, a.off + i.sh, none⟩) (b := ⟨j.B, b'.off + j.sh, none⟩) rfl).trans ?_
            congr 1
            rw [Bool.eq_iff_iff]
            simp only [beq_iff_eq, Addr.mk.injEq, true_and, and_true, Bool.false_eq_true, iff_false]
            exact hsh
          · exact r_other_block hBB k1 k2
      · rename_i htt
        cases hb
        simp only [ne_eq, htt, not_false_eq_true, if_true]; rfl
    · cases hb
  obtain ⟨vx, vy, q1, q2, h1, h2, h3⟩ := key
  refine ⟨_, ?_, .bool _⟩
  simp only [execOp, ho, q1, q2, Sem.run_bind, h2, Result.andThen, h3, h1]
  rfl

end ops
end Go.Cn
