/- Operations that only read, continued. -/
import Derived.Test.YtfagmflapdgcmaaDoorCnOps1
namespace Go.Cn
set_option linter.unusedVariables false
set_option linter.unusedSimpArgs false

theorem isNilAs_rel {P : Program} {β : Ren} {c v v' : Value} {b : Bool} (h : isNilAs c v = some b) (hv : VRel P β v v') : isNilAs c v' = some b := by
  unfold isNilAs at h
  split at h <;> cases h
  · rename_i a
    cases a with
    | none => rw [hv.nilPtr_inv]; rfl
    | some a => obtain ⟨_, i, _, rfl⟩ := hv.ptr_inv; rfl
  · rename_i a l n
    cases a with
    | none => obtain ⟨_, _, rfl⟩ := hv.nilSlice_inv; rfl
    | some a => obtain ⟨_, _, a', c', rfl, _⟩ := hv.slice_inv; rfl
  · rename_i a
    cases a with
    | none => rw [hv.nilMap_inv]; rfl
    | some a => obtain ⟨i, _, rfl⟩ := hv.map_inv; rfl
  · rcases hv.fn_inv with ⟨f, a', b', rfl, rfl, _⟩ | ⟨c, i, rfl, rfl, rfl, _, rfl⟩ <;> rfl
  · rw [hv.nilFunc_inv]; rfl
  · obtain ⟨u, rfl, _⟩ := hv.iface_inv; rfl
  · rw [hv.nilIface_inv]; rfl

theorem nilOk_inv {d : TypeDesc} {c : Value} (h : nilOk d c = true) :
    ((∃ e, d = .pointer e) ∧ c = .pointer none) ∨ ((∃ e, d = .slice e) ∧ c = .slice none 0 0) ∨ ((∃ k e, d = .map k e) ∧ c = .map none) ∨
    ((∃ a b v, d = .func a b v) ∧ c = .nilFunc) ∨ ((∃ ms, d = .interface ms) ∧ c = .nilIface) := by
  unfold nilOk at h
  split at h <;> simp_all

theorem r_nil {P : Program} {w : World} {t : TypeId} {d : TypeDesc} (ht : P.underlying t = some d) {c v : Value} {b : Bool} (hk : nilOk d c = true) (hv : isNilAs c v = some b) (n : Nat) :
    (Op.equalIn (n + 1) t v c).run P w = .ok b w ∧ (Op.equalIn (n + 1) t c v).run P w = .ok b w := by
  rcases nilOk_inv hk with ⟨⟨e, rfl⟩, rfl⟩ | ⟨⟨e, rfl⟩, rfl⟩ | ⟨⟨k, e, rfl⟩, rfl⟩ | ⟨⟨a, b, u, rfl⟩, rfl⟩ | ⟨⟨ms, rfl⟩, rfl⟩
  · cases v <;> try (simp [isNilAs] at hv; done)
    rename_i a
    cases a <;> (simp only [isNilAs, Option.some.injEq] at hv; subst hv) <;> constructor <;> (rw [Op.equalIn, Sem.run_bind, r_und ht]; rfl)
  · cases v <;> try (simp [isNilAs] at hv; done)
    rename_i a _ _
    cases a <;> (simp only [isNilAs, Option.some.injEq] at hv; subst hv) <;> constructor <;> (rw [Op.equalIn, Sem.run_bind, r_und ht]; rfl)
  · cases v <;> try (simp [isNilAs] at hv; done)
    rename_i a
    cases a <;> (simp only [isNilAs, Option.some.injEq] at hv; subst hv) <;> constructor <;> (rw [Op.equalIn, Sem.run_bind, r_und ht]; rfl)
  · cases v <;> try (simp [isNilAs] at hv; done)
    all_goals (simp only [isNilAs, Option.some.injEq] at hv; subst hv) <;> constructor <;> (rw [Op.equalIn, Sem.run_bind, r_und ht]; rfl)
  · cases v <;> try (simp [isNilAs] at hv; done)
    all_goals (simp only [isNilAs, Option.some.injEq] at hv; subst hv) <;> constructor <;> (rw [Op.equalIn, Sem.run_bind, r_und ht]; rfl)

theorem nilOf_some {d : TypeDesc} {x : Operand} {c : Value} (h : nilOf d x = some c) : x = .const c ∧ nilOk d c = true := by
  unfold nilOf at h
  split at h
  · split at h
    · rename_i v hk; cases h; exact ⟨rfl, hk⟩
    · cases h
  · cases h

section ops
variable {P : Program} {β : Ren} {σ : CW} {w : World} {ev' ρ : Operand → Value} {o : Oper} {v : Value}

theorem eqGuard_nil {op : BinOp} {t : TypeId} {x y : Operand} {a b : Value} (hc : (∃ u, x = .const u) ∨ (∃ u, y = .const u)) (hn : (∀ cs, a ≠ .agg cs) ∨ (∀ cs, b ≠ .agg cs)) :
    (eqGuard op t x y a b).run P w = .ok () w := by
  unfold eqGuard
  cases op <;> try rfl
  all_goals
    simp only [Sem.run_bind]
    have : ((if (!(match (BinOp.eql) with | .eql | .neq => true | _ => false)) = true then pure () else pure ()) : Sem Unit) = pure () := by simp
    cases a <;> cases b <;> first
      | rfl
      | (rcases hc with ⟨u, rfl⟩ | ⟨u, rfl⟩ <;> simp <;> rfl)
      | (rcases hn with hn | hn <;> exact absurd rfl (hn _))

theorem binOp_nil {neg : Bool} {t : TypeId} {d : TypeDesc} (ht : P.underlying t = some d) {c v : Value} {b : Bool} (hk : nilOk d c = true) (hv : isNilAs c v = some b) :
    (binOp (if neg then .neq else .eql) t v c).run P w = .ok (.bool (if neg then !b else b)) w ∧ (binOp (if neg then .neq else .eql) t c v).run P w = .ok (.bool (if neg then !b else b)) w := by
  obtain ⟨h1, h2⟩ := r_nil (w := w) ht hk hv 9999
  have e1 : Op.equal t v c = Op.equalIn (9999 + 1) t v c := rfl
  have e2 : Op.equal t c v = Op.equalIn (9999 + 1) t c v := rfl
  have g1 : ∀ n : Bool, binOp (if n then .neq else .eql) t v c = (Op.equal t v c >>= fun r => pure (.bool (if n then !r else r))) := by
    intro n
    rcases nilOk_inv hk with ⟨_, rfl⟩ | ⟨_, rfl⟩ | ⟨_, rfl⟩ | ⟨_, rfl⟩ | ⟨_, rfl⟩ <;> cases v <;> first | (simp [isNilAs] at hv; done) | (cases n <;> rfl)
  have g2 : ∀ n : Bool, binOp (if n then .neq else .eql) t c v = (Op.equal t c v >>= fun r => pure (.bool (if n then !r else r))) := by
    intro n
    rcases nilOk_inv hk with ⟨_, rfl⟩ | ⟨_, rfl⟩ | ⟨_, rfl⟩ | ⟨_, rfl⟩ | ⟨_, rfl⟩ <;> cases v <;> first | (simp [isNilAs] at hv; done) | (cases n <;> rfl)
  rw [g1, g2, e1, e2]
  constructor
  · cases neg <;> simp [h1]
  · cases neg <;> simp [h2]

theorem nilAs_notAgg {c v : Value} {b : Bool} (h : isNilAs c v = some b) : ∀ cs, v ≠ .agg cs := by
  rintro cs rfl
  unfold isNilAs at h
  split at h <;> simp_all

theorem p_isnil {neg : Bool} {t t' : TypeId} {x y z : Operand} {c : Value} {d : TypeDesc} (ht : P.underlying t = some d)
    (ho : (o.op = .binOp (if neg then .neq else .eql) t x y t' ∧ nilOf d y = some c ∧ z = x) ∨ (o.op = .binOp (if neg then .neq else .eql) t x y t' ∧ nilOf d x = some c ∧ z = y))
    (hρ : ∀ u, ρ (.const u) = u) (hz : VRel P β (ev' z) (ρ z)) (hp : pev (.isnil neg c z) ev' σ = some v) : Gives P ρ o w β v := by
  simp only [pev] at hp
  split at hp
  · rename_i b hb
    cases hp
    have hb' := isNilAs_rel hb hz
    refine ⟨_, ?_, .bool _⟩
    rcases ho with ⟨ho, hc, rfl⟩ | ⟨ho, hc, rfl⟩
    · obtain ⟨rfl, hk⟩ := nilOf_some hc
      simp only [execOp, ho, hρ, Sem.run_bind, eqGuard_nil (P := P) (w := w) (.inr ⟨c, rfl⟩) (.inl (nilAs_notAgg hb')), Result.andThen, (binOp_nil (w := w) ht hk hb').1]
      rfl
    · obtain ⟨rfl, hk⟩ := nilOf_some hc
      simp only [execOp, ho, hρ, Sem.run_bind, eqGuard_nil (P := P) (w := w) (.inl ⟨c, rfl⟩) (.inr (nilAs_notAgg hb')), Result.andThen, (binOp_nil (w := w) ht hk hb').2]
      rfl
  · cases hp

theorem p_un {op : UnOp} {t : TypeId} {x : Operand} (ho : o.op = .unOp op t x) (hx : VRel P β (ev' x) (ρ x)) (hp : pev (.un op x) ev' σ = some v) : Gives P ρ o w β v := by
  simp only [pev] at hp
  split at hp
  · rename_i k n e
    have q : ρ x = .int k n := (e ▸ hx).int_inv
    have h := pureOf_some hp
    refine ⟨v, by simp only [execOp, ho, q, h]; rfl, ?_⟩
    cases op <;> simp only [Op.unary, Op.intArith, Op.intBits, stuck] at h <;> cases h <;> constructor
  · rename_i b e
    have q : ρ x = .bool b := (e ▸ hx).bool_inv
    have h := pureOf_some hp
    refine ⟨v, by simp only [execOp, ho, q, h]; rfl, ?_⟩
    cases op <;> simp only [Op.unary, Op.intArith, Op.intBits, stuck] at h <;> cases h <;> constructor
  · cases hp

theorem p_i2i {k : IntKind} {src dst : TypeId} {x : Operand} {ks : IntKind} (ho : o.op = .convert src dst x) (hs : P.underlying src = some (.int ks)) (hd : P.underlying dst = some (.int k))
    (hx : VRel P β (ev' x) (ρ x)) (hp : pev (.i2i k x) ev' σ = some v) : Gives P ρ o w β v := by
  simp only [pev] at hp
  split at hp
  · rename_i k' n e
    cases hp
    have q : ρ x = .int k' n := (e ▸ hx).int_inv
    refine ⟨_, ?_, .int _ _⟩
    simp only [execOp, ho, q, convert, Sem.run_bind, r_und hs, r_und hd, Result.andThen, Conv.intToInt]; rfl
  · cases hp

theorem p_i2s {src dst : TypeId} {x : Operand} {ks : IntKind} (ho : o.op = .convert src dst x) (hs : P.underlying src = some (.int ks)) (hd : P.underlying dst = some .string)
    (hx : VRel P β (ev' x) (ρ x)) (hp : pev (.i2s x) ev' σ = some v) : Gives P ρ o w β v := by
  simp only [pev] at hp
  split at hp
  · rename_i k' n e
    cases hp
    have q : ρ x = .int k' n := (e ▸ hx).int_inv
    refine ⟨_, ?_, .string _⟩
    simp only [execOp, ho, q, convert, Sem.run_bind, r_und hs, r_und hd, Result.andThen, Conv.intToString]; rfl
  · cases hp

theorem p_s2s {src dst : TypeId} {x : Operand} (ho : o.op = .convert src dst x) (hs : P.underlying src = some .string) (hd : P.underlying dst = some .string)
    (hx : VRel P β (ev' x) (ρ x)) (hp : pev (.s2s x) ev' σ = some v) : Gives P ρ o w β v := by
  simp only [pev] at hp
  split at hp
  · rename_i s e
    cases hp
    have q : ρ x = .string s := (e ▸ hx).string_inv
    refine ⟨_, ?_, .string _⟩
    simp only [execOp, ho, q, convert, Sem.run_bind, r_und hs, r_und hd, Result.andThen]; rfl
  · cases hp

theorem p_mkif {t : TypeId} {x : Operand} {d : TypeDesc} (ho : o.op = .makeInterface t x) (ht : P.underlying t = some d) (hd : ∀ ms, d ≠ .interface ms)
    (hx : VRel P β (ev' x) (ρ x)) (hp : pev (.mkif t x) ev' σ = some v) : Gives P ρ o w β v := by
  simp only [pev] at hp
  cases hp
  refine ⟨_, ?_, .iface hx⟩
  simp only [execOp, ho, Instr.makeInterface, Sem.run_bind, r_und ht, Result.andThen]
  cases d <;> first | rfl | exact absurd rfl (hd _)

theorem p_mkfn {f : FuncId} {first captured : Array Operand} (ho : o.op = .makeFunc (.func f) first captured) (hx : ∀ x ∈ first ++ captured, VRel P β (ev' x) (ρ x))
    (hp : pev (.mkfn f first.toList captured.toList) ev' σ = some v) : Gives P ρ o w β v := by
  simp only [pev] at hp
  cases hp
  refine ⟨.func (.func f) (first.map ρ) (captured.map ρ), by simp [execOp, ho, Instr.makeFunc], ?_⟩
  have key : ∀ l : Array Operand, (∀ x ∈ l, VRel P β (ev' x) (ρ x)) → (List.map ev' l.toList).toArray.size = (l.map ρ).size ∧
      ∀ (j : Nat) (x y : Value), (List.map ev' l.toList).toArray[j]? = some x → (l.map ρ)[j]? = some y → VRel P β x y := by
    intro l hl
    refine ⟨by simp, fun j x y h1 h2 => ?_⟩
    simp only [List.getElem?_toArray, List.getElem?_map, Array.getElem?_toList, Array.getElem?_map] at h1 h2
    cases e : l[j]? with
    | none => rw [e] at h1; cases h1
    | some u => rw [e] at h1 h2; cases h1; cases h2; exact hl u (Array.mem_of_getElem? e)
  obtain ⟨a1, a2⟩ := key first fun x hx' => hx x (by simp [hx'])
  obtain ⟨b1, b2⟩ := key captured fun x hx' => hx x (by simp [hx'])
  exact .func a1 b1 a2 b2

theorem p_fa {t : TypeId} {x : Operand} {f : Nat} {fs : Array Field} {fd : Field} {n : Nat} (ho : o.op = .fieldAddr t x f) (ht : P.underlying t = some (.struct fs)) (hf : fs[f]? = some fd) (hn : szOf P fd.type = some n) (h0 : n ≠ 0)
    (hx : VRel P β (ev' x) (ρ x)) (hp : pev (.fa fd.offset x) ev' σ = some v) : Gives P ρ o w β v := by
  simp only [pev] at hp
  split at hp
  · rename_i a e
    split at hp
    · cases hp
      obtain ⟨hs, i, hi, q⟩ := (e ▸ hx).ptr_inv
      refine ⟨.pointer (some ⟨i.B, a.off + fd.offset + i.sh, none⟩), ?_, .ptr hi⟩
      simp only [execOp, ho, q, Instr.fieldAt, Sem.run_bind, r_und ht, Result.andThen, hf, Instr.sureAddr, fieldPlace, Sem.run_pure, r_size hn, if_neg h0, Addr.add_none]
      congr 4; congr 1; omega
    · cases hp
  · cases hp

theorem p_ext {x : Operand} {i : Nat} (ho : o.op = .extract x i) (hx : VRel P β (ev' x) (ρ x)) (hp : pev (.ext x i) ev' σ = some v) : Gives P ρ o w β v := by
  simp only [pev, nth] at hp
  split at hp
  · rename_i vs e
    obtain ⟨vs', q, hr⟩ := (e ▸ hx).tuple_inv
    obtain ⟨v', h1, h2⟩ := hr.left hp
    refine ⟨v', ?_, h2⟩
    simp only [Array.getElem?_toList] at h1
    simp [execOp, ho, q, Instr.extract, h1]
  · cases hp

theorem p_lenS {c : Call} {t u : TypeId} {x : Operand} (ho : o.op = .call c) (hc : c.callee = .builtin .len) (ht : c.argTypes = #[t]) (ha : c.args = #[x]) (hu : P.underlying t = some .string)
    (hx : VRel P β (ev' x) (ρ x)) (hp : pev (.lenS x) ev' σ = some v) : Gives P ρ o w β v := by
  simp only [pev] at hp
  split at hp
  · rename_i s e
    cases hp
    have q : ρ x = .string s := (e ▸ hx).string_inv
    refine ⟨_, ?_, .int _ _⟩
    simp [execOp, ho, resolve, hc, ha, ht, invoke, builtin, Builtin.len_, r_und hu, q, goInt]
  · cases hp

theorem p_lenV {c : Call} {t u : TypeId} {e : TypeId} {x : Operand} (ho : o.op = .call c) (hc : c.callee = .builtin .len) (ht : c.argTypes = #[t]) (ha : c.args = #[x]) (hu : P.underlying t = some (.slice e))
    (hx : VRel P β (ev' x) (ρ x)) (hp : pev (.lenV x) ev' σ = some v) : Gives P ρ o w β v := by
  simp only [pev] at hp
  split at hp
  · rename_i a n cap e
    cases hp
    refine ⟨_, ?_, .int _ _⟩
    cases a with
    | none => obtain ⟨rfl, _, q⟩ := (e ▸ hx).nilSlice_inv; simp [execOp, ho, resolve, hc, ha, ht, invoke, builtin, Builtin.len_, r_und hu, q, goInt]
    | some a => obtain ⟨_, _, a', c', q, _⟩ := (e ▸ hx).slice_inv; simp [execOp, ho, resolve, hc, ha, ht, invoke, builtin, Builtin.len_, r_und hu, q, goInt]
  · cases hp

theorem p_ixS {t : TypeId} {x i : Operand} (ho : o.op = .index t x i) (ht : P.underlying t = some .string) (hx : VRel P β (ev' x) (ρ x)) (hi : VRel P β (ev' i) (ρ i))
    (hp : pev (.ixS x i) ev' σ = some v) : Gives P ρ o w β v := by
  simp only [pev] at hp
  split at hp
  · rename_i s k n e1 e2
    have q1 : ρ x = .string s := (e1 ▸ hx).string_inv
    have q2 : ρ i = .int k n := (e2 ▸ hi).int_inv
    split at hp
    · rename_i h0
      split at hp
      · rename_i b hb
        cases hp
        refine ⟨_, ?_, .int _ _⟩
        simp only [execOp, ho, q1, q2, Instr.index, asIntOf, Sem.run_bind, Sem.run_pure, r_und ht, Result.andThen, if_pos h0, hb]
      · cases hp
    · cases hp
  · cases hp

theorem p_ia {t : TypeId} {x i : Operand} {e : TypeId} {n : Nat} (ho : o.op = .indexAddr t x i) (ht : P.underlying t = some (.slice e)) (hn : szOf P e = some n) (hx : VRel P β (ev' x) (ρ x)) (hi : VRel P β (ev' i) (ρ i))
    (hp : pev (.ia n x i) ev' σ = some v) : Gives P ρ o w β v := by
  simp only [pev] at hp
  split at hp
  · rename_i a len cap k m e1 e2
    split at hp
    · rename_i hcond
      cases hp
      obtain ⟨hs, h0, hlt⟩ := hcond
      have q2 : ρ i = .int k m := (e2 ▸ hi).int_inv
      obtain ⟨_, hl, a', c', q1, hcc, hor⟩ := (e1 ▸ hx).slice_inv
      rcases hor with hz | ⟨j, hj, ha', _⟩
      · omega
      · subst ha'
        refine ⟨.pointer (some ⟨j.B, a.off + m.toNat * n + j.sh, none⟩), ?_, .ptr hj⟩
        simp only [execOp, ho, q1, q2, Instr.indexAt, asIntOf, Sem.run_bind, Sem.run_pure, r_und ht, Result.andThen, if_pos (show 0 ≤ m ∧ m < len from ⟨h0, hlt⟩), r_size hn, Addr.add_none]
        congr 4; congr 1; omega
    · cases hp
  · cases hp

theorem r_bound {y : Nat} {k : IntKind} {n : Int} {code : BoundsCode} (h0 : 0 ≤ n) (h1 : n ≤ y) : (Instr.sliceBound (.int k n) y code).run P w = .ok n.toNat w := by
  simp only [Instr.sliceBound, asIntOf, Sem.run_bind, Sem.run_pure, Result.andThen, if_pos (And.intro h0 h1)]

theorem bnd_some {d y r : Nat} {u : Option Value} (h : bnd d y u = some r) : (u = none ∧ r = d) ∨ (∃ k n, u = some (.int k n) ∧ 0 ≤ n ∧ n ≤ y ∧ r = n.toNat) := by
  unfold bnd at h
  split at h
  · cases h; exact .inl ⟨rfl, rfl⟩
  · split at h
    · rename_i k n hc; cases h; exact .inr ⟨k, n, rfl, hc.1, hc.2, rfl⟩
    · cases h
  · cases h

theorem bnd_op {d y r : Nat} {x : Option Operand} (hx : ∀ z ∈ x, VRel P β (ev' z) (ρ z)) (h : bnd d y (x.map ev') = some r) :
    (x = none ∧ r = d) ∨ (∃ z k n, x = some z ∧ ρ z = .int k n ∧ 0 ≤ n ∧ n ≤ (y : Int) ∧ r = n.toNat) := by
  rcases bnd_some h with ⟨e, rfl⟩ | ⟨k, n, e, h0, h1, rfl⟩
  · cases x with
    | none => exact .inl ⟨rfl, rfl⟩
    | some z => cases e
  · cases x with
    | none => cases e
    | some z => simp only [Option.map_some, Option.some.injEq] at e; exact .inr ⟨z, k, n, rfl, (e ▸ hx z rfl).int_inv, h0, h1, rfl⟩

/-- the bounds of a slice expression -/
theorem r_bounds {isS : Bool} {len cap cap' m h l : Nat} {lo hi mx : Option Operand} (hlo : ∀ y ∈ lo, VRel P β (ev' y) (ρ y)) (hhi : ∀ y ∈ hi, VRel P β (ev' y) (ρ y)) (hmx : ∀ y ∈ mx, VRel P β (ev' y) (ρ y))
    (hcc : cap ≤ cap') (hm : bnd cap cap (mx.map ev') = some m) (hh : bnd len m (hi.map ev') = some h) (hl : bnd 0 h (lo.map ev') = some l) (hmh : mx.isSome → hi.isSome) :
    (Instr.sliceBounds isS len cap' (lo.map ρ) (hi.map ρ) (mx.map ρ)).run P w = .ok (l, h, if mx.isSome then m else cap') w := by
  unfold Instr.sliceBounds
  rcases bnd_op hmx hm with ⟨rfl, rfl⟩ | ⟨zm, km, nm, rfl, qm, hm0, hm1, rfl⟩
  · rcases bnd_op hhi hh with ⟨rfl, rfl⟩ | ⟨z, k, n, rfl, q, h0, h1, rfl⟩
    · rcases bnd_op hlo hl with ⟨rfl, rfl⟩ | ⟨zl, kl, nl, rfl, ql, hl0, hl1, rfl⟩
      · rfl
      · simp only [Option.map_none, Option.map_some, ql, Sem.run_bind, Sem.run_pure, Result.andThen, r_bound hl0 hl1]; rfl
    · have hb : n ≤ (cap' : Int) := by omega
      rcases bnd_op hlo hl with ⟨rfl, rfl⟩ | ⟨zl, kl, nl, rfl, ql, hl0, hl1, rfl⟩
      · simp only [Option.map_none, Option.map_some, q, Sem.run_bind, Sem.run_pure, Result.andThen, r_bound h0 hb]; rfl
      · simp only [Option.map_none, Option.map_some, q, ql, Sem.run_bind, Sem.run_pure, Result.andThen, r_bound h0 hb, r_bound hl0 hl1]; rfl
  · have hb : nm ≤ (cap' : Int) := by omega
    rcases bnd_op hhi hh with ⟨rfl, rfl⟩ | ⟨z, k, n, rfl, q, h0, h1, rfl⟩
    · exact absurd (hmh rfl) (by simp)
    · rcases bnd_op hlo hl with ⟨rfl, rfl⟩ | ⟨zl, kl, nl, rfl, ql, hl0, hl1, rfl⟩
      · simp only [Option.map_none, Option.map_some, q, qm, Sem.run_bind, Sem.run_pure, Result.andThen, r_bound h0 h1, r_bound hm0 hb]; rfl
      · simp only [Option.map_none, Option.map_some, q, ql, qm, Sem.run_bind, Sem.run_pure, Result.andThen, r_bound h0 h1, r_bound hm0 hb, r_bound hl0 hl1]; rfl

theorem p_slS {t : TypeId} {x : Operand} {lo hi : Option Operand} (ho : o.op = .slice t x lo hi none) (ht : P.underlying t = some .string) (hx : VRel P β (ev' x) (ρ x))
    (hlo : ∀ y ∈ lo, VRel P β (ev' y) (ρ y)) (hhi : ∀ y ∈ hi, VRel P β (ev' y) (ρ y)) (hp : pev (.slS x lo hi) ev' σ = some v) : Gives P ρ o w β v := by
  simp only [pev] at hp
  split at hp
  · rename_i s e
    have q : ρ x = .string s := (e ▸ hx).string_inv
    split at hp
    · rename_i h hh
      split at hp
      · rename_i l hl
        cases hp
        refine ⟨_, ?_, .string _⟩
        have := r_bounds (P := P) (β := β) (w := w) (isS := false) (cap := s.size) (cap' := s.size) (m := s.size) (mx := none) hlo hhi (by simp) (Nat.le_refl _) rfl hh hl (by simp)
        simp only [execOp, ho, q, Instr.sliceAt, Instr.slice, Sem.run_bind, r_und ht, Result.andThen, Option.map_none] at this ⊢
        simp only [Option.isSome_none, Bool.false_eq_true, if_false, Sem.run_bind, Sem.run_pure, Result.andThen, this]
      · cases hp
    · cases hp
  · cases hp

theorem p_slV {t : TypeId} {x : Operand} {lo hi mx : Option Operand} {e : TypeId} {sz : Nat} (h : Rel P β σ w) (ho : o.op = .slice t x lo hi mx) (ht : P.underlying t = some (.slice e)) (hsz : szOf P e = some sz) (hx : VRel P β (ev' x) (ρ x))
    (hlo : ∀ y ∈ lo, VRel P β (ev' y) (ρ y)) (hhi : ∀ y ∈ hi, VRel P β (ev' y) (ρ y)) (hmx : ∀ y ∈ mx, VRel P β (ev' y) (ρ y)) (hmh : mx.isSome → hi.isSome) (hp : pev (.slV e sz x lo hi mx) ev' σ = some v) : Gives P ρ o w β v := by
  simp only [pev] at hp
  split at hp
  · rename_i a len cap ea
    split at hp
    · rename_i m hm
      split at hp
      · rename_i hh' hh
        split at hp
        · rename_i l hl
          have hle : l ≤ hh' := by
            rcases bnd_some hl with ⟨_, rfl⟩ | ⟨k, n, _, _, _, rfl⟩ <;> omega
          split at hp
          · cases hp
            obtain ⟨rfl, rfl, q⟩ := (ea ▸ hx).nilSlice_inv
            have hb := r_bounds (P := P) (β := β) (w := w) (isS := true) (cap' := 0) hlo hhi hmx (Nat.le_refl _) hm hh hl hmh
            have hm0 : m = 0 := by rcases bnd_some hm with ⟨_, rfl⟩ | ⟨k, n, _, _, _, rfl⟩ <;> omega
            have hh0 : hh' = 0 := by rcases bnd_some hh with ⟨_, rfl⟩ | ⟨k, n, _, _, _, rfl⟩ <;> omega
            have hl0 : l = 0 := by omega
            subst hm0 hh0 hl0
            refine ⟨.slice none 0 0, ?_, .nilSlice⟩
            simp only [execOp, ho, q, Instr.sliceAt, Instr.slice, Sem.run_bind, r_und ht, Result.andThen, hb, r_size hsz, Sem.run_pure]
            simp
          · rename_i a
            split at hp
            · rename_i hsp
              cases hp
              obtain ⟨hs, hel⟩ := hsp
              obtain ⟨_, hlc, a', c', q, hcc, hor⟩ := (ea ▸ hx).slice_inv
              have hb := r_bounds (P := P) (β := β) (w := w) (isS := true) hlo hhi hmx hcc hm hh hl hmh
              have hmc : m ≤ cap := by rcases bnd_some hm with ⟨_, rfl⟩ | ⟨k, n, _, _, _, rfl⟩ <;> omega
              have hhm : hh' ≤ m := by
                rcases bnd_some hh with ⟨e1, rfl⟩ | ⟨k, n, _, _, _, rfl⟩
                · rcases bnd_some hm with ⟨_, rfl⟩ | ⟨k, n, e2, _, _, rfl⟩
                  · exact hlc
                  · cases mx with
                    | none => cases e2
                    | some y => cases hi with
                      | none => exact absurd (hmh rfl) (by simp)
                      | some z => cases e1
                · omega
              generalize hM : (if mx.isSome then m else c') = M at hb
              have hMm : m ≤ M ∧ (M = m ∨ M = c') := by
                rw [← hM]; split
                · exact ⟨Nat.le_refl _, .inl rfl⟩
                · exact ⟨by omega, .inr rfl⟩
              have hMc : M ≤ c' := by rcases hMm.2 with r | r <;> omega
              refine ⟨.slice (some (if M = l then a' else a'.add (l * sz))) (hh' - l) (M - l), ?_, ?_⟩
              · simp only [execOp, ho, q, Instr.sliceAt, Instr.slice, Sem.run_bind, r_und ht, Result.andThen, hb, r_size hsz, Sem.run_pure]
                split <;> simp
              · refine .slice (by omega) (by omega) ?_
                by_cases hMl : M = l
                · exact .inl (by omega)
                · rw [if_neg hMl]
                  refine .inr ?_
                  rcases hor with hz | ⟨j, hj, ha', hspan⟩
                  · omega
                  · subst ha'
                    refine ⟨j, hj, ?_, ?_⟩
                    · rw [Addr.add_none]; congr 1; omega
                    · have hjE : j.E = e := by
                        unfold CW.elemIs at hel
                        split at hel
                        · rename_i c0 e0 cl0 rel0 hc0
                          obtain ⟨_, _, _, hE, _⟩ := (h.obj _ j _ hj hc0).cells_inv
                          rw [← hE]; exact Nat.eq_of_beq_eq_true hel
                        · cases hel
                      have hex : mx.isSome = true → M = m := by intro hs; rw [← hM, if_pos hs]
                      rcases hspan with hx1 | ⟨sz', hs1, hs2⟩
                      · left
                        rcases hMm.2 with r | r
                        · omega
                        · -- the capacity is told exactly
                          cases hmxe : mx.isSome with
                          | true => have := hex hmxe; omega
                          | false =>
                            have : m = cap := by
                              rcases bnd_some hm with ⟨_, rfl⟩ | ⟨k, n, e2, _⟩
                              · rfl
                              · cases mx with
                                | none => cases e2
                                | some y => cases hmxe
                            omega
                      · rcases hMm.2 with r | r
                        · left; omega
                        · right
                          refine ⟨sz', hs1, ?_⟩
                          rw [hjE, hsz] at hs1
                          cases hs1
                          have e1 : c' * sz = (c' - l) * sz + l * sz := by rw [← Nat.add_mul]; congr 1; omega
                          subst r
                          omega
            · cases hp
        · cases hp
      · cases hp
    · cases hp
  · cases hp

end ops
end Go.Cn
