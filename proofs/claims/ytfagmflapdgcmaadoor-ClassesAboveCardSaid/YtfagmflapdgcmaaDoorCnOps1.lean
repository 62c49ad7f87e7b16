/- Operations that only read: the canonical machine's answer is the model's. -/
import Derived.Test.YtfagmflapdgcmaaDoorCnComp
import Derived.Test.YtfagmflapdgcmaaDoorCnMem
import Derived.Laws.Small
namespace Go.Cn
set_option linter.unusedVariables false
set_option linter.unusedSimpArgs false

section runs
variable {P : Program} {w : World} {t : TypeId}
theorem r_und {d : TypeDesc} (h : P.underlying t = some d) : (underlying t).run P w = .ok d w := by simp [underlying, h]
theorem r_info {i : TypeInfo} (h : P.info? t = some i) : (typeInfo t).run P w = .ok i w := by simp [typeInfo, h]
theorem szOf_some {n : Nat} (h : szOf P t = some n) : ∃ i, P.info? t = some i ∧ i.size = n := by
  unfold szOf at h; cases e : P.info? t with
  | none => rw [e] at h; cases h
  | some i => rw [e] at h; simp at h; exact ⟨i, rfl, h⟩
theorem bytesOf_some {n : Nat} (h : bytesOf P t = some n) : ∃ i, P.info? t = some i ∧ i.bytes = n := by
  unfold bytesOf at h; cases e : P.info? t with
  | none => rw [e] at h; cases h
  | some i => rw [e] at h; simp at h; exact ⟨i, rfl, h⟩
theorem r_size {n : Nat} (h : szOf P t = some n) : (sizeOf t).run P w = .ok n w := by
  obtain ⟨i, h1, h2⟩ := szOf_some h
  simp [sizeOf, r_info h1, h2]
theorem r_zero {z : Value} (h : zeroOf P t = some z) : (zeroValue t).run P w = .ok z w := by
  unfold zeroOf at h
  cases e : P.info? t with
  | none => rw [e] at h; cases h
  | some i => rw [e] at h; simp at h; simp [zeroValue, r_info e, h]
theorem r_agg {b : Bool} (h : aggOf P t = some b) : (isAgg t).run P w = .ok b w := by
  unfold aggOf at h
  unfold isAgg
  cases e : P.underlying t with
  | none => rw [e] at h; cases h
  | some d => rw [e] at h; simp only [Sem.run_bind, r_und e, Result.andThen]; cases d <;> simp at h <;> subst h <;> rfl
theorem zeroP_some {z : Value} (h : zeroP P t = some z) : zeroOf P t = some z ∧ plain 8 z = true := by
  unfold zeroP at h
  split at h
  · split at h
    · rename_i z' e hp; cases h; exact ⟨e, hp⟩
    · cases h
  · cases h
end runs

theorem plain_rel {P : Program} {β : Ren} : ∀ (n : Nat) (v : Value), plain n v = true → VRel P β v v
  | 0, v, h => by simp [plain] at h
  | n + 1, v, h => by
    cases v with
    | bool b => exact .bool b
    | int k m => exact .int k m
    | float k m => exact .float k m
    | complex k a b => exact .complex k a b
    | string s => exact .string s
    | pointer a => cases a with
      | none => exact .nilPtr
      | some a => simp [plain] at h
    | slice a l c => cases a with
      | none => simp only [plain, Bool.and_eq_true, Nat.beq_eq] at h; obtain ⟨rfl, rfl⟩ := h; exact .nilSlice
      | some a => simp [plain] at h
    | map r => cases r with
      | none => exact .nilMap
      | some r => simp [plain] at h
    | chan r => cases r with
      | none => exact .nilChan
      | some r => simp [plain] at h
    | func f a b => simp [plain] at h
    | nilFunc => exact .nilFunc
    | iface t v => simp [plain] at h
    | nilIface => exact .nilIface
    | agg cs =>
      simp only [plain, List.all_eq_true] at h
      refine VRel.agg_iff.2 ⟨rfl, fun j x y hx hy => ?_⟩
      rw [hx] at hy; cases hy
      exact plain_rel n x (h x (List.mem_of_getElem? hx))
    | tuple cs =>
      simp only [plain, List.all_eq_true] at h
      refine VRel.tuple_iff.2 ⟨rfl, fun j x y hx hy => ?_⟩
      rw [hx] at hy; cases hy
      exact plain_rel n x (h x (List.mem_of_getElem? hx))

theorem plain_cells {P : Program} {β : Ren} {z : Value} (h : plain 8 z = true) : LRel P β (cellsOf z) z.cells.toList := (plain_rel 8 z h).cells

/-- what an operation comes to, the world left as it is -/
def Gives (P : Program) (ρ : Operand → Value) (o : Oper) (w : World) (β : Ren) (v : Value) : Prop :=
  ∃ v', (execOp ρ o).run P w = .ok (.value v') w ∧ VRel P β v v'

section ops
variable {P : Program} {β : Ren} {σ : CW} {w : World} {ev' ρ : Operand → Value} {o : Oper} {v : Value}

theorem p_mov {x : Operand} (ho : o.op = .move x ∨ o.op = .assign x) (hx : VRel P β (ev' x) (ρ x)) (hp : pev (.mov x) ev' σ = some v) : Gives P ρ o w β v := by
  simp only [pev] at hp; cases hp
  refine ⟨ρ x, ?_, hx⟩
  rcases ho with ho | ho <;> simp [execOp, ho]

theorem p_pick {c a b : Operand} (ho : o.op = .pick c a b) (hc : VRel P β (ev' c) (ρ c)) (ha : VRel P β (ev' a) (ρ a)) (hb : VRel P β (ev' b) (ρ b))
    (hp : pev (.pick c a b) ev' σ = some v) : Gives P ρ o w β v := by
  simp only [pev] at hp
  split at hp
  · rename_i e; rw [e] at hc
    generalize hρ : ρ c = c' at hc
    cases hc; cases hp
    exact ⟨ρ a, by simp [execOp, ho, hρ, asBool], ha⟩
  · rename_i e; rw [e] at hc
    generalize hρ : ρ c = c' at hc
    cases hc; cases hp
    exact ⟨ρ b, by simp [execOp, ho, hρ, asBool], hb⟩
  · cases hp

theorem p_nilck {x : Operand} (ho : o.op = .nilCheck x) (hx : VRel P β (ev' x) (ρ x)) (hp : pev (.nilck x) ev' σ = some v) : Gives P ρ o w β v := by
  simp only [pev] at hp
  generalize hρ : ρ x = x' at hx
  split at hp
  · cases hp
  · rename_i a e; rw [e] at hx; cases hp
    cases hx with
    | ptr h => exact ⟨_, by simp [execOp, ho, hρ], .ptr h⟩
  · rename_i f a b e; rw [e] at hx; cases hp
    cases hx with
    | func ha hb h g => exact ⟨_, by simp [execOp, ho, hρ], .func ha hb h g⟩
  · rename_i t u e; rw [e] at hx; cases hp
    cases hx with
    | iface h => exact ⟨_, by simp [execOp, ho, hρ], .iface h⟩
  · cases hp

theorem pureOf_some {α : Type} {s : Sem α} {a : α} (h : pureOf s = some a) : s = .pure a := by
  unfold pureOf at h
  split at h
  · cases h; rfl
  · cases h

theorem cbin_some {op : BinOp} {a b r : Value} (h : cbin op a b = some r) : (∃ j m k n, a = .int j m ∧ b = .int k n ∧ ∀ t, binOp op t a b = .pure r) ∨ (∃ s u, a = .string s ∧ b = .string u ∧ ∀ t, binOp op t a b = .pure r) := by
  unfold cbin at h
  split at h
  · refine .inl ⟨_, _, _, _, rfl, rfl, fun t => ?_⟩
    rw [← pureOf_some h]; cases op <;> rfl
  · refine .inr ⟨_, _, rfl, rfl, fun t => ?_⟩
    rw [← pureOf_some h]; cases op <;> rfl
  · cases h

/-- a value that a pure computation on numbers and texts gives leads nowhere -/
theorem bin_rel {op : BinOp} {t : TypeId} {a b r : Value} (ha : (∃ j m k n, a = .int j m ∧ b = .int k n) ∨ (∃ s u, a = .string s ∧ b = .string u)) (h : binOp op t a b = .pure r) : VRel P β r r := by
  have lit : ∀ x : Value, ((∃ k n, x = .int k n) ∨ (∃ s, x = .string s) ∨ ∃ b, x = .bool b) → VRel P β x x := by
    rintro x (⟨k, n, rfl⟩ | ⟨s, rfl⟩ | ⟨b, rfl⟩)
    · exact .int k n
    · exact .string s
    · exact .bool b
  apply lit
  rcases ha with ⟨j, m, k, n, rfl, rfl⟩ | ⟨s, u, rfl, rfl⟩
  · cases op <;> simp only [binOp, Op.shift, Op.intArith, Op.intDiv, Op.intBits, Op.intCmp, stuck, runtimePanic, goPanic, program] at h <;> (repeat' split at h) <;>
      first
        | (cases h; first | exact .inl ⟨_, _, rfl⟩ | exact .inr (.inr ⟨_, rfl⟩))
        | (exfalso; revert h; simp [Bind.bind, Sem.bind, Pure.pure])
        | skip
  · cases op <;> simp only [binOp, Op.stringOp, stuck, unsupported] at h <;> (repeat' split at h) <;>
      first
        | (cases h; first | exact .inr (.inl ⟨_, rfl⟩) | exact .inr (.inr ⟨_, rfl⟩))
        | (exfalso; revert h; simp [Bind.bind, Sem.bind, Pure.pure])
        | skip

theorem eqGuard_int {op : BinOp} {t : TypeId} {x y : Operand} {a b : Value} (ha : (∃ j m k n, a = .int j m ∧ b = .int k n) ∨ (∃ s u, a = .string s ∧ b = .string u) ∨ (∃ c d, a = .bool c ∧ b = .bool d)) :
    (eqGuard op t x y a b).run P w = .ok () w := by
  unfold eqGuard
  rcases ha with ⟨j, m, k, n, rfl, rfl⟩ | ⟨s, u, rfl, rfl⟩ | ⟨c, d, rfl, rfl⟩ <;> cases op <;> rfl

theorem p_bin {op : BinOp} {t t' : TypeId} {x y : Operand} (ho : o.op = .binOp op t x y t') (hx : VRel P β (ev' x) (ρ x)) (hy : VRel P β (ev' y) (ρ y))
    (hp : pev (.bin op x y) ev' σ = some v) : Gives P ρ o w β v := by
  simp only [pev] at hp
  rcases cbin_some hp with ⟨j, m, k, n, e1, e2, h⟩ | ⟨s, u, e1, e2, h⟩
  · have q1 : ρ x = .int j m := (e1 ▸ hx).int_inv
    have q2 : ρ y = .int k n := (e2 ▸ hy).int_inv
    rw [e1, e2] at h
    refine ⟨v, ?_, bin_rel (.inl ⟨j, m, k, n, rfl, rfl⟩) (h t)⟩
    simp only [execOp, ho, q1, q2, Sem.run_bind, eqGuard_int (P := P) (w := w) (op := op) (t := t) (x := x) (y := y) (.inl ⟨j, m, k, n, rfl, rfl⟩), Result.andThen, h t]
    rfl
  · have q1 : ρ x = .string s := (e1 ▸ hx).string_inv
    have q2 : ρ y = .string u := (e2 ▸ hy).string_inv
    rw [e1, e2] at h
    refine ⟨v, ?_, bin_rel (.inr ⟨s, u, rfl, rfl⟩) (h t)⟩
    simp only [execOp, ho, q1, q2, Sem.run_bind, eqGuard_int (P := P) (w := w) (op := op) (t := t) (x := x) (y := y) (.inr (.inl ⟨s, u, rfl, rfl⟩)), Result.andThen, h t]
    rfl

theorem p_beq {neg : Bool} {t t' : TypeId} {x y : Operand} (ho : o.op = .binOp (if neg then .neq else .eql) t x y t') (ht : P.underlying t = some .bool) (hx : VRel P β (ev' x) (ρ x)) (hy : VRel P β (ev' y) (ρ y))
    (hp : pev (.beq neg x y) ev' σ = some v) : Gives P ρ o w β v := by
  simp only [pev] at hp
  split at hp
  · rename_i a b e1 e2
    have q1 : ρ x = .bool a := (e1 ▸ hx).bool_inv
    have q2 : ρ y = .bool b := (e2 ▸ hy).bool_inv
    cases hp
    refine ⟨_, ?_, .bool _⟩
    cases neg <;> simp only [if_true, if_false, Bool.false_eq_true] at ho ⊢ <;>
      (simp only [execOp, ho, q1, q2, Sem.run_bind, eqGuard_int (P := P) (w := w) (t := t) (x := x) (y := y) (.inr (.inr ⟨a, b, rfl, rfl⟩)), Result.andThen, binOp, run_equal_bool w t a b ht]
       rfl)
  · cases hp

end ops
end Go.Cn
