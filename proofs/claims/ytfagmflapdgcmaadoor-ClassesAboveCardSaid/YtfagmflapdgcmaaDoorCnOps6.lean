/- Operations that make an object. -/
import Derived.Test.YtfagmflapdgcmaaDoorCnOps5
import Derived.Laws.Alloc2
namespace Go.Cn
set_option linter.unusedVariables false
set_option linter.unusedSimpArgs false

/-- what an operation comes to -/
def Does (P : Program) (ρ : Operand → Value) (o : Oper) (β : Ren) (σ : CW) (w : World) (v : Value) (σ' : CW) : Prop :=
  ∃ nx w' β', (execOp ρ o).run P w = .ok nx w' ∧ ((∃ v', nx = .value v' ∧ VRel P β' v v') ∨ (nx = .skip ∧ v = cundef)) ∧ Stp P β σ w β' σ' w'

/-- it makes an object; which number of a canonical block it has is open -/
def Makes (P : Program) (ρ : Operand → Value) (o : Oper) (β : Ren) (w : World) (b : Nat) (obj : CObj) (v : Value) : Prop :=
  ∃ v' w' i o', (execOp ρ o).run P w = .ok (.value v') w' ∧ w'.heap = w.heap.push o' ∧ w'.os = w.os ∧ w'.output = w.output ∧ w'.tape = w.tape ∧ (i.B = w.heap.size ∧ i.wr = true) ∧
    ∀ β', Le β β' → β' b = some i → VRel P β' v v' ∧ ObjRel P β' i obj (some o')

section ops
variable {P : Program} {β : Ren} {σ : CW} {w : World} {ev' ρ : Operand → Value} {o : Oper} {v : Value} {bi : Nat}

theorem Makes.does (h : Rel P β σ w) {obj : CObj} (hf : FreshO σ obj) (hit : isIter obj = false) (hm : Makes P ρ o β w σ.next obj v) : Does P ρ o β σ w v (σ.add obj) := by
  obtain ⟨v', w', i, o', h1, h2, h3, h4, h5, ⟨h6, hwr⟩, h7⟩ := hm
  obtain ⟨h8, h9⟩ := h7 (upd β σ.next (some i)) (h.le_upd i) (upd_same _ _ _)
  exact ⟨_, w', _, h1, .inl ⟨v', rfl, h8⟩, h.alloc h6 h2 h3 h4 h5 hf h9 hit hwr⟩

theorem aev_fresh {q : AOp} {obj : CObj} (h : aev q ev' bi = some (obj, v)) : (∃ c E, obj = .cells c E bi 0) ∨ ∃ es ver, obj = .map es ver := by
  unfold aev at h
  repeat' split at h
  all_goals first | (cases h; done) | (cases h; exact .inl ⟨_, _, rfl⟩) | (cases h; exact .inr ⟨_, _, rfl⟩)
theorem aev_freshO {q : AOp} {obj : CObj} (h : aev q ev' σ.next = some (obj, v)) : FreshO σ obj := by
  rcases aev_fresh h with ⟨c, E, rfl⟩ | ⟨es, ver, rfl⟩
  · exact ⟨rfl, rfl⟩
  · trivial
theorem aev_noIter {q : AOp} {obj : CObj} (h : aev q ev' bi = some (obj, v)) : isIter obj = false := by
  rcases aev_fresh h with ⟨c, E, rfl⟩ | ⟨es, ver, rfl⟩ <;> rfl

theorem row_rel {c : List Value} {c' : Array Value} {E : TypeId} {fr : Nat × Nat} {B cl : Nat} (hc : c.length ≤ c'.size)
    (hl : ∀ (k : Nat) (x : Value), c[k]? = some x → ∃ y, c'[k]? = some y ∧ VRel P β x y) (hs : Soft P E c'.size fr) {β' : Ren} (hle : Le β β') :
    ObjRel P β' ⟨B, 0, c'.size, E, true⟩ (.cells c E cl 0) (some (.cells c' E fr)) := by
  refine ⟨rfl, rfl, rfl, by simpa using hc, fun _ => hs, fun k x hk => ?_⟩
  obtain ⟨y, h1, h2⟩ := hl k x hk
  exact ⟨y, by simpa using h1, h2.mono hle⟩

theorem Rel.newRow (h : Rel P β σ w) {c : List Value} {c' : Array Value} {E : TypeId} {fr : Nat × Nat} {w' : World} (hc : c.length ≤ c'.size)
    (hl : ∀ (k : Nat) (x : Value), c[k]? = some x → ∃ y, c'[k]? = some y ∧ VRel P β x y) (hs : Soft P E c'.size fr) (hw : w'.heap = w.heap.push (.cells c' E fr))
    (hos : w'.os = w.os) (hout : w'.output = w.output) (htape : w'.tape = w.tape) :
    Stp P β σ w (upd β σ.next (some ⟨w.heap.size, 0, c'.size, E, true⟩)) (σ.add (.cells c E σ.next 0)) w' := by
  refine h.alloc (i := ⟨w.heap.size, 0, c'.size, E, true⟩) rfl hw hos hout htape ⟨rfl, rfl⟩ ⟨rfl, rfl, rfl, by simpa using hc, fun _ => hs, fun k x hk => ?_⟩
  obtain ⟨y, h1, h2⟩ := hl k x hk
  exact ⟨y, by simpa using h1, h2.mono (h.le_upd _)⟩

theorem lrel_get {c : List Value} {c' : Array Value} (h : LRel P β c c'.toList) : ∀ (k : Nat) (x : Value), c[k]? = some x → ∃ y, c'[k]? = some y ∧ VRel P β x y := by
  intro k x hk
  obtain ⟨y, h1, h2⟩ := h.left hk
  exact ⟨y, by simpa using h1, h2⟩
theorem lrel_size {c : List Value} {c' : Array Value} (h : LRel P β c c'.toList) : c.length = c'.size := by have := h.1; simpa using this

theorem m_alloc {t : TypeId} {z : Value} (ho : o.op = .alloc t) (hz : zeroP P t = some z) {obj : CObj} (hp : aev (.alloc t (cellsOf z)) ev' bi = some (obj, v)) :
    Makes P ρ o β w bi obj v := by
  obtain ⟨hz1, hz2⟩ := zeroP_some hz
  simp only [aev, Option.some.injEq, Prod.mk.injEq] at hp
  obtain ⟨rfl, rfl⟩ := hp
  have hc := plain_cells (P := P) (β := β) hz2
  refine ⟨.pointer (some ⟨w.heap.size, 0, none⟩), w.alloc (.cells z.cells t), ⟨w.heap.size, 0, z.cells.size, t, true⟩, _, ?_, rfl, rfl, rfl, rfl, ⟨rfl, rfl⟩, fun β' hle hi => ⟨?_, row_rel (fr := (0, 0)) (Nat.le_of_eq (lrel_size hc)) (lrel_get hc) (.inl rfl) hle⟩⟩
  · simp [execOp, ho, Instr.alloc, newVar, Go.newRow, r_zero hz1]
  · exact .ptr hi

theorem m_box {t : TypeId} {x : Operand} (ho : o.op = .box t x) (hx : VRel P β (ev' x) (ρ x)) {obj : CObj} (hp : aev (.box t x) ev' bi = some (obj, v)) :
    Makes P ρ o β w bi obj v := by
  simp only [aev, Option.some.injEq, Prod.mk.injEq] at hp
  obtain ⟨rfl, rfl⟩ := hp
  have hc := hx.cells
  refine ⟨.pointer (some ⟨w.heap.size, 0, none⟩), w.alloc (.cells (ρ x).cells t), ⟨w.heap.size, 0, (ρ x).cells.size, t, true⟩, _, ?_, rfl, rfl, rfl, rfl, ⟨rfl, rfl⟩, fun β' hle hi => ⟨?_, row_rel (fr := (0, 0)) (Nat.le_of_eq (lrel_size hc)) (lrel_get hc) (.inl rfl) hle⟩⟩
  · simp [execOp, ho, Instr.box, newVar, Go.newRow]
  · exact .ptr hi

theorem m_mkmap {t : TypeId} (ho : o.op = .makeMap t none) {obj : CObj} (hp : aev .mkmap ev' bi = some (obj, v)) : Makes P ρ o β w bi obj v := by
  simp only [aev, Option.some.injEq, Prod.mk.injEq] at hp
  obtain ⟨rfl, rfl⟩ := hp
  refine ⟨.map (some w.heap.size), w.alloc (.map #[] 0), ⟨w.heap.size, 0, 0, 0, true⟩, _, ?_, rfl, rfl, rfl, rfl, ⟨rfl, rfl⟩, fun β' hle hi => ⟨?_, ⟨⟨List.Pairwise.nil, [], List.Perm.refl _, .nil⟩, by simp, by simp⟩⟩⟩
  · simp [execOp, ho, Instr.makeMap]
  · exact .map hi

theorem slice_new {β' : Ren} {n c c' sz N : Nat} {E : TypeId} {B : Nat} (hi : β' bi = some ⟨B, 0, N, E, true⟩) (hn : n ≤ c) (hc : c ≤ c') (h : c' = c ∨ (szOf P E = some sz ∧ c' * sz ≤ N)) :
    VRel P β' (.slice (some ⟨bi, 0, none⟩) n c) (.slice (some ⟨B, 0, none⟩) n c') := by
  refine .slice hn hc (.inr ⟨_, hi, rfl, ?_⟩)
  rcases h with h | ⟨h1, h2⟩
  · exact .inl h
  · exact .inr ⟨sz, h1, by simpa using h2⟩

theorem m_bsl {t e : TypeId} {n len : Nat} {z : Value} {parts : Array (Nat × Operand)} (ho : o.op = .buildSlice t len parts) (ht : P.underlying t = some (.slice e)) (hn : szOf P e = some n) (hz : zeroP P e = some z)
    (hle : len * n ≤ 16777216) (hlen : (cellsOf z).length = n) (h0 : n ≠ 0) (hx : ∀ x ∈ parts.toList, VRel P β (ev' x.2) (ρ x.2)) {obj : CObj}
    (hp : aev (.bsl e (cellsOf z) len (parts.toList.map fun (i, x) => (i * n, n, x))) ev' bi = some (obj, v)) : Makes P ρ o β w bi obj v := by
  obtain ⟨hz1, hz2⟩ := zeroP_some hz
  simp only [aev] at hp
  split at hp
  case h_2 => cases hp
  rename_i l hl
  simp only [Option.some.injEq, Prod.mk.injEq] at hp
  obtain ⟨rfl, rfl⟩ := hp
  have hparts : PartsR (fun i => some (i * n, n)) parts.toList (parts.toList.map fun (i, x) => (i * n, n, x)) := by
    generalize parts.toList = ps
    induction ps with
    | nil => exact .nil
    | cons p ps ih => exact .cons rfl ih
  have hzr := zeros_rel (P := P) (β := β) hz2 hlen h0 (len := len)
  obtain ⟨r', h1, h2⟩ := fill_rel hparts hx hzr hl
  refine ⟨.slice (some ⟨w.heap.size, 0, none⟩) len len, w.alloc (.cells r' e), ⟨w.heap.size, 0, r'.size, e, true⟩, _, ?_, rfl, rfl, rfl, rfl, ⟨rfl, rfl⟩, fun β' hle hi => ⟨?_, row_rel (fr := (0, 0)) (Nat.le_of_eq (lrel_size h2)) (lrel_get h2) (.inl rfl) hle⟩⟩
  · have e1 : (Array.map (fun (x : Nat × Operand) => (x.1, ρ x.2)) parts).toList = parts.toList.map fun (i, x) => (i, ρ x) := by simp
    have hg : ¬ (len * n > 2 ^ 24) := by have : (2 : Nat) ^ 24 = 16777216 := by decide
                                         omega
    by_cases hl0 : len * n = 0
    · have e2 : (Array.range (len * n)).map (fun i => (#[] : Array Value)[i % (#[] : Array Value).size]!) = (Array.range (len * n)).map (z.cells[· % z.cells.size]!) := by rw [hl0]; simp
      simp only [execOp, ho, Instr.buildSlice, Sem.run_bind, r_und ht, Result.andThen, r_size hn, if_neg hg, if_pos hl0, Sem.run_pure]
      rw [e2, e1, h1]
      simp [Go.newRow]
    · simp only [execOp, ho, Instr.buildSlice, Sem.run_bind, r_und ht, Result.andThen, r_size hn, if_neg hg, if_neg hl0, Sem.run_pure, r_zero hz1]
      rw [e1, h1]
      simp [Go.newRow]
  · exact slice_new (sz := 0) hi (Nat.le_refl _) (Nat.le_refl _) (.inl rfl)

theorem m_mksl {t e : TypeId} {n b : Nat} {z : Value} {len cap : Operand} (ho : o.op = .makeSlice t len cap) (ht : P.underlying t = some (.slice e)) (hb : bytesOf P e = some b) (hz : zeroP P e = some z) (hn : szOf P e = some n)
    (hlen : (cellsOf z).length = n) (h0 : n ≠ 0) (hx : VRel P β (ev' len) (ρ len)) (hy : VRel P β (ev' cap) (ρ cap)) {obj : CObj} (hp : aev (.mksl e b (cellsOf z) len cap) ev' bi = some (obj, v)) : Makes P ρ o β w bi obj v := by
  obtain ⟨hz1, hz2⟩ := zeroP_some hz
  obtain ⟨inf, hi1, hi2⟩ := bytesOf_some hb
  simp only [aev] at hp
  split at hp
  case h_2 => cases hp
  rename_i k l k' c e1 e2
  split at hp
  case isFalse => cases hp
  rename_i hcond
  obtain ⟨hl0, hlc, hbc, hcc⟩ := hcond
  simp only [Option.some.injEq, Prod.mk.injEq] at hp
  obtain ⟨rfl, rfl⟩ := hp
  have q1 := (e1 ▸ hx).int_inv
  have q2 := (e2 ▸ hy).int_inv
  have hzr := zeros_rel (P := P) (β := β) hz2 hlen h0 (len := c.toNat)
  have wl : IntKind.i64.wrap l = l := by
    have : IntKind.i64.wrap l = (if l % 18446744073709551616 ≥ 9223372036854775808 then l % 18446744073709551616 - 18446744073709551616 else l % 18446744073709551616) := by
      simp [IntKind.wrap, IntKind.bits, IntKind.signed]
    rw [this]; omega
  have wc : IntKind.i64.wrap c = c := by
    have : IntKind.i64.wrap c = (if c % 18446744073709551616 ≥ 9223372036854775808 then c % 18446744073709551616 - 18446744073709551616 else c % 18446744073709551616) := by
      simp [IntKind.wrap, IntKind.bits, IntKind.signed]
    rw [this]; omega
  refine ⟨.slice (some ⟨w.heap.size, 0, none⟩) l.toNat c.toNat, w.alloc (.cells ((Array.range (c.toNat * n)).map (z.cells[· % z.cells.size]!)) e), ⟨w.heap.size, 0, _, e, true⟩, _, ?_, rfl, rfl, rfl, rfl, ⟨rfl, rfl⟩,
    fun β' hle hi => ⟨?_, row_rel (fr := (0, 0)) (Nat.le_of_eq (lrel_size hzr)) (lrel_get hzr) (.inl rfl) hle⟩⟩
  · have g1 : ¬ ((decide (c < 0) || decide ((inf.bytes : Int) * c > 2 ^ 48)) = true) := by
      have : (2 : Int) ^ 48 = 281474976710656 := by decide
      simp only [Bool.or_eq_true, decide_eq_true_eq, not_or, hi2]
      omega
    have g2 : ¬ (((decide (c < 0) || decide ((inf.bytes : Int) * c > 2 ^ 48)) || decide (l < 0) || decide (l > c)) = true) := by
      simp only [Bool.or_eq_true, decide_eq_true_eq] at g1 ⊢
      omega
    have e3 : c.toNat * inf.bytes = c.toNat * b := by rw [hi2]
    simp only [execOp, ho, Instr.makeSlice, Sem.run_bind, r_und ht, Result.andThen, q1, q2, asInt, asIntOf, Sem.run_pure, r_info hi1, wl, wc, if_neg g2, run_askRoom, r_size hn]
    by_cases hc0 : c.toNat * n = 0
    · have e4 : (Array.range (c.toNat * n)).map (fun i => (#[] : Array Value)[i % (#[] : Array Value).size]!) = (Array.range (c.toNat * n)).map (z.cells[· % z.cells.size]!) := by rw [hc0]; simp
      simp only [if_pos hc0, Sem.run_pure, Sem.run_bind, Result.andThen]
      rw [e4]
      simp [Go.newRow]
    · simp only [if_neg hc0, Sem.run_bind, r_zero hz1, Result.andThen, Sem.run_pure]
      simp [Go.newRow]
  · refine slice_new (sz := 0) hi ?_ (Nat.le_refl _) (.inl rfl)
    omega

theorem freeze_push {w : World} {c : Array Value} {E : TypeId} {n : Nat} : ((w.alloc (.cells c E)).freeze ⟨w.heap.size, n, none⟩ 1).heap = w.heap.push (.cells c E (n, n + 1)) := by
  apply Array.ext_getElem?
  intro j
  simp only [World.freeze, World.alloc]
  rw [if_neg (by decide)]
  simp only [Array.getElem?_modify, Array.getElem?_push]
  by_cases hj : w.heap.size = j
  · subst hj; simp
  · simp [hj, Ne.symm hj]

theorem m_s2b {src dst e : TypeId} {x : Operand} (ho : o.op = .convert src dst x) (hs : P.underlying src = some .string) (hd : P.underlying dst = some (.slice e)) (he : P.underlying e = some (.int .u8)) (hsz : szOf P e = some 1)
    (hx : VRel P β (ev' x) (ρ x)) {obj : CObj} (hp : aev (.s2b e x) ev' bi = some (obj, v)) : Makes P ρ o β w bi obj v := by
  simp only [aev] at hp
  split at hp
  case h_2 => cases hp
  rename_i s es
  simp only [Option.some.injEq, Prod.mk.injEq] at hp
  obtain ⟨rfl, rfl⟩ := hp
  have q := (es ▸ hx).string_inv
  generalize hcap : (Question.appendCap s.size 0 e).cut (w.tape w.drawn (.appendCap s.size 0 e)) = cap
  have hle : s.size ≤ cap := by rw [← hcap]; simp only [Question.cut]; omega
  let c' : Array Value := (s.data.map fun b => Value.int .u8 b.toNat) ++ Array.replicate (cap - s.size) (.int .u8 0)
  have hdsz : s.data.size = s.size := rfl
  have hc'sz : c'.size = cap := by simp only [c', Array.size_append, Array.size_map, Array.size_replicate, hdsz]; omega
  have hlen : (s.data.toList.map fun c => Value.int .u8 c.toNat).length = s.size := by simp [hdsz]
  have hget : ∀ (k : Nat) (y : Value), (s.data.toList.map fun c => Value.int .u8 c.toNat)[k]? = some y → ∃ y', c'[k]? = some y' ∧ VRel P β y y' := by
    intro k y hk
    have hkl : k < s.data.size := by
      have := (List.getElem?_eq_some_iff.1 hk).1
      rw [hlen] at this; exact this
    refine ⟨y, ?_, ?_⟩
    · show ((s.data.map fun b => Value.int .u8 b.toNat) ++ Array.replicate (cap - s.size) (.int .u8 0))[k]? = some y
      rw [Array.getElem?_append_left (by simpa using hkl)]
      simpa using hk
    · simp only [List.getElem?_map, Option.map_eq_some_iff] at hk
      obtain ⟨b, _, rfl⟩ := hk
      exact .int _ _
  refine ⟨.slice (some ⟨w.heap.size, 0, none⟩) s.size cap, (w.drew.alloc (.cells c' e)).freeze ⟨w.heap.size, cap, none⟩ 1, ⟨w.heap.size, 0, c'.size, e, true⟩, .cells c' e (cap, cap + 1), ?_, freeze_push (w := w.drew), ?_, ?_, ?_, ⟨rfl, rfl⟩,
    fun β' hle' hi => ⟨?_, row_rel (c' := c') (E := e) (fr := (cap, cap + 1)) (by rw [hlen, hc'sz]; exact hle) hget (.inr ⟨by rw [hc'sz]; exact Nat.le_refl _, he⟩) hle'⟩⟩
  · have hforced : (Question.appendCap s.size 0 e).forced = false := rfl
    have hshape : (w.drew.alloc (.cells c' e)).shape? w.heap.size = some (e, c'.size) := by
      have hh : (w.drew.alloc (.cells c' e)).heap[w.heap.size]? = some (.cells c' e) := by show (w.heap.push _)[w.heap.size]? = _; simp
      unfold World.shape?; rw [hh]
    simp only [execOp, ho, q, convert, Sem.run_bind, r_und hs, r_und hd, r_und he, Result.andThen, Conv.stringToBytes, run_choose, hforced, Bool.false_eq_true, if_false, hcap, Go.newRow, run_newObj, Sem.run_pure,
      World.drew_eq, World.alloc_eq, World.size_drew, markStringish, run_shape]
    show _ = _
    simp only [c'] at hshape
    rw [hshape]
    simp only [run_freeze, Sem.run_bind, Result.andThen, Sem.run_pure]
    simp only [c'] at hc'sz
    rw [hc'sz]
  case refine_5 => exact slice_new (sz := 1) hi (Nat.le_refl _) hle (.inr ⟨hsz, by rw [hc'sz]; omega⟩)
  all_goals (unfold World.freeze; rw [if_neg (by decide)]; rfl)

end ops
end Go.Cn
