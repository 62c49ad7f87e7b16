/- Operations that read memory; parts put together. -/
import Derived.Test.YtfagmflapdgcmaaDoorCnOps2
import Derived.Test.YtfagmflapdgcmaaDoorCnMaps
import Derived.Laws.BytesString
import Derived.Lib.Bytealg
namespace Go.Cn
set_option linter.unusedVariables false
set_option linter.unusedSimpArgs false

section ops
variable {P : Program} {β : Ren} {σ : CW} {w : World} {ev' ρ : Operand → Value} {o : Oper} {v : Value}

theorem cell_some {σ : CW} {a : Addr} {v : Value} (h : σ.cell a = some v) : a.spot = none ∧ ∃ c, σ.row a.block = some c ∧ c[a.off]? = some v := by
  unfold CW.cell at h
  split at h
  · cases h
  · rename_i hs
    split at h
    · rename_i c hc; exact ⟨hs, c, hc, h⟩
    · cases h
theorem cells_some {σ : CW} {a : Addr} {n : Nat} {l : List Value} (h : σ.cells a n = some l) : a.spot = none ∧ ∃ c, σ.row a.block = some c ∧ takeAt c a.off n = some l := by
  unfold CW.cells at h
  split at h
  · cases h
  · rename_i hs
    split at h
    · rename_i c hc; exact ⟨hs, c, hc, h⟩
    · cases h

theorem r_load1 {t : TypeId} {a : Addr} {v : Value} (ht : aggOf P t = some false) (hc : w.cell? a = some v) : (loadVar t a).run P w = .ok v w := by
  simp [loadVar, r_agg ht, hc]

theorem p_ld1 {t : TypeId} {x : Operand} (h : Rel P β σ w) (ho : o.op = .load t x) (ht : aggOf P t = some false) (hx : VRel P β (ev' x) (ρ x)) (hp : pev (.ld1 x) ev' σ = some v) : Gives P ρ o w β v := by
  simp only [pev] at hp
  split at hp
  · rename_i a e
    obtain ⟨hs, c, hr, hk⟩ := cell_some hp
    obtain ⟨_, i, hi, q⟩ := (e ▸ hx).ptr_inv
    obtain ⟨v', h1, h2⟩ := h.cellAt hr hk hi
    exact ⟨v', by simp [execOp, ho, q, Instr.loadAt, Instr.sureAddr, r_load1 ht h1], h2⟩
  · cases hp

theorem r_loadN {t : TypeId} {a : Addr} {n : Nat} {l : List Value} (ht : aggOf P t = some true) (hn : szOf P t = some n) (hc : (loadCells a n).run P w = .ok l.toArray w) : (loadVar t a).run P w = .ok (.agg l.toArray) w := by
  simp [loadVar, r_agg ht, r_size hn, hc]

theorem p_ldN {t : TypeId} {x : Operand} {n : Nat} (h : Rel P β σ w) (ho : o.op = .load t x) (ht : aggOf P t = some true) (hn : szOf P t = some n) (hx : VRel P β (ev' x) (ρ x)) (hp : pev (.ldN n x) ev' σ = some v) : Gives P ρ o w β v := by
  simp only [pev] at hp
  split at hp
  · rename_i a e
    split at hp
    · rename_i l hl
      cases hp
      obtain ⟨hs, c, hr, hk⟩ := cells_some hl
      obtain ⟨_, i, hi, q⟩ := (e ▸ hx).ptr_inv
      obtain ⟨r', h1, _, h2⟩ := h.loads hr hk hi
      exact ⟨.agg r'.toArray, by simp [execOp, ho, q, Instr.loadAt, Instr.sureAddr, r_loadN ht hn (h2 w rfl)], VRel.agg_iff.2 (by simpa using h1)⟩
    · cases hp
  · cases hp

theorem bytes_some : ∀ {l : List Value} {r : List UInt8}, bytesOfCells l = some r → ∃ ns : List Int, l = ns.map (Value.int .u8) ∧ r = ns.map fun n => UInt8.ofNat n.toNat
  | [], r, h => by cases h; exact ⟨[], rfl, rfl⟩
  | v :: l, r, h => by
    unfold bytesOfCells at h
    split at h
    · rename_i e; cases e
    · rename_i n l' e
      cases e
      split at h
      · rename_i r' hr
        cases h
        obtain ⟨ns, rfl, rfl⟩ := bytes_some hr
        exact ⟨n :: ns, rfl, rfl⟩
      · cases h
    · cases h

theorem lrel_ints {l : List Int} {l' : List Value} (h : LRel P β (l.map (Value.int .u8)) l') : l' = l.map (Value.int .u8) := by
  induction l generalizing l' with
  | nil => cases l' with
    | nil => rfl
    | cons a b => have := h.1; simp at this
  | cons n l ih => cases l' with
    | nil => have := h.1; simp at this
    | cons a b =>
      obtain ⟨h1, h2⟩ := LRel.of_cons h
      rw [h1.int_inv, ih h2]; rfl

theorem foldl_push (ns : List Int) : ∀ s : ByteArray, ns.foldl (fun r n => r.push (UInt8.ofNat n.toNat)) s = ⟨s.data ++ (ns.map fun n => UInt8.ofNat n.toNat).toArray⟩ := by
  induction ns with
  | nil => intro s; simp
  | cons n ns ih =>
    intro s
    simp only [List.foldl_cons, ih, List.map_cons]
    congr 1
    show s.data.push (UInt8.ofNat n.toNat) ++ _ = _
    simp

theorem p_b2s {src dst : TypeId} {e : TypeId} {x : Operand} (h : Rel P β σ w) (ho : o.op = .convert src dst x) (hs : P.underlying src = some (.slice e)) (he : P.underlying e = some (.int .u8)) (hd : P.underlying dst = some .string)
    (hx : VRel P β (ev' x) (ρ x)) (hp : pev (.b2s x) ev' σ = some v) : Gives P ρ o w β v := by
  simp only [pev] at hp
  split at hp
  · rename_i l c ea
    cases hp
    obtain ⟨_, _, q⟩ := (ea ▸ hx).nilSlice_inv
    refine ⟨_, ?_, .string _⟩
    simp only [execOp, ho, q, Sem.run_bind, run_convert_bytes_string w src dst e _ _ _ hs he hd]
    rfl
  · rename_i a n c ea
    split at hp
    · rename_i cs hcs
      split at hp
      · rename_i l hl
        cases hp
        obtain ⟨_, row, hr, hk⟩ := cells_some hcs
        obtain ⟨_, hle, a', c', q, hcc, hor⟩ := (ea ▸ hx).slice_inv
        obtain ⟨ns, rfl, rfl⟩ := bytes_some hl
        have hload : (loadCells a' n).run P w = .ok (ns.map (Value.int .u8)).toArray w := by
          rcases hor with hz | ⟨i, hi, rfl, _⟩
          · have hn : n = 0 := by omega
            subst hn
            obtain ⟨_, hnil⟩ := takeAt_some hk
            have : ns.map (Value.int .u8) = [] := by rw [hnil]; simp
            rw [this]; rfl
          · obtain ⟨r', h1, _, h2⟩ := h.loads hr hk hi
            rw [lrel_ints h1] at h2; exact h2 w rfl
        refine ⟨_, ?_, .string _⟩
        simp only [execOp, ho, q, Sem.run_bind, run_convert_bytes_string w src dst e _ _ _ hs he hd, run_bytesToString w a' n c' ns hload, Result.andThen, foldl_push]
        simp
      · cases hp
    · cases hp
  · cases hp

theorem entries_some {σ : CW} {m : Value} {es : List (Value × Value)} (h : σ.entries m = some es) : (m = .map none ∧ es = []) ∨ (∃ r ver : Nat, m = .map (some r) ∧ σ.heap r = some (.map es ver)) := by
  unfold CW.entries at h
  split at h
  · cases h; exact .inl ⟨rfl, rfl⟩
  · split at h
    · rename_i r _ es' ver hh; cases h; exact .inr ⟨r, ver, rfl, hh⟩
    · cases h
  · cases h

theorem Rel.mapB {r ver : Nat} {es : List (Value × Value)} {i : BI} (h : Rel P β σ w) (hr : σ.heap r = some (.map es ver)) (hi : β r = some i) : ∃ es' clock, w.heap[i.B]? = some (.map es' clock) ∧ MapRel P β es es' ∧ Born es' clock := by
  have ho := h.obj r i _ hi hr
  unfold ObjRel at ho
  cases e : w.heap[i.B]? with
  | none => rw [e] at ho; exact ho.elim
  | some o' =>
    rw [e] at ho
    cases o' <;> first | exact ho.elim | exact ⟨_, _, rfl, ho⟩

theorem Rel.map {r ver : Nat} {es : List (Value × Value)} {i : BI} (h : Rel P β σ w) (hr : σ.heap r = some (.map es ver)) (hi : β r = some i) : ∃ es' clock, w.heap[i.B]? = some (.map es' clock) ∧ MapRel P β es es' :=
  let ⟨es', clock, h1, h2, _⟩ := h.mapB hr hi
  ⟨es', clock, h1, h2⟩

theorem r_getMap {B : Nat} {es' : Array MapEntry} {clock : Nat} (h : w.heap[B]? = some (.map es' clock)) : (getObj B).run P w = .ok (.map es' clock) w := by
  simp [getObj, Sem.run, h]

theorem isKey_rel {str : Bool} {a b : Value} (h : isKey str a = true) (hr : VRel P β a b) : b = a := by
  unfold isKey at h
  split at h
  · exact hr.string_inv
  · exact hr.int_inv
  · cases h

theorem p_lookup {t kt e : TypeId} {d : TypeDesc} {str ok : Bool} {z : Value} {m k : Operand} (h : Rel P β σ w) (ho : o.op = .lookup t m k ok) (ht : P.underlying t = some (.map kt e)) (hkt : P.underlying kt = some d) (hd : KeyKind d str)
    (hz : zeroP P e = some z) (hm : VRel P β (ev' m) (ρ m)) (hk : VRel P β (ev' k) (ρ k)) (hp : pev (.lookup str z ok m k) ev' σ = some v) : Gives P ρ o w β v := by
  obtain ⟨hz1, hz2⟩ := zeroP_some hz
  simp only [pev] at hp
  split at hp
  case h_2 => cases hp
  rename_i es hes
  split at hp
  case isFalse => cases hp
  rename_i hkey
  have qk := isKey_rel hkey hk
  have hent : ∃ es' : Array MapEntry, MapRel P β es es' ∧ ((ρ m = .map none ∧ es' = #[]) ∨ ∃ B clock, ρ m = .map (some B) ∧ w.heap[B]? = some (.map es' clock)) := by
    rcases entries_some hes with ⟨e1, rfl⟩ | ⟨r, ver, e1, hr⟩
    · rw [e1] at hm
      exact ⟨#[], ⟨List.Pairwise.nil, [], List.Perm.refl _, .nil⟩, .inl ⟨hm.nilMap_inv, rfl⟩⟩
    · rw [e1] at hm
      obtain ⟨i, hi, q⟩ := hm.map_inv
      obtain ⟨es', clock, h1, h2⟩ := h.map hr hi
      exact ⟨es', h2, .inr ⟨i.B, clock, q, h1⟩⟩
  obtain ⟨es', hmr, hes'⟩ := hent
  have hck : ∀ b, (Instr.checkKey b 10000 kt (ρ k)).run P w = .ok () w := fun b => run_checkKey (n := 9999) hkt hd
  have fin1 : ∀ (j : Nat) (u : Value), Instr.findNow d (ρ k) es'.toList 0 = some (some (j, u)) → (execOp ρ o).run P w = .ok (.value (if ok then .tuple #[u, .bool true] else u)) w := by
    intro j u h1
    have hfk := run_findKey (P := P) (w := w) hkt h1
    rcases hes' with ⟨q, rfl⟩ | ⟨B, clock, q, hB⟩
    · simp only [execOp, ho, Instr.lookup, Sem.run_bind, r_und ht, Result.andThen, q, Sem.run_pure, hck, hfk]
    · simp only [execOp, ho, Instr.lookup, Sem.run_bind, r_und ht, Result.andThen, q, Sem.run_pure, hck, hfk, r_getMap hB]
  have fin2 : Instr.findNow d (ρ k) es'.toList 0 = some none → (execOp ρ o).run P w = .ok (.value (if ok then .tuple #[z, .bool false] else z)) w := by
    intro h1
    have hfk := run_findKey (P := P) (w := w) hkt h1
    rcases hes' with ⟨q, rfl⟩ | ⟨B, clock, q, hB⟩
    · simp only [execOp, ho, Instr.lookup, Sem.run_bind, r_und ht, Result.andThen, q, Sem.run_pure, hck, hfk, r_zero hz1]
    · simp only [execOp, ho, Instr.lookup, Sem.run_bind, r_und ht, Result.andThen, q, Sem.run_pure, hck, hfk, r_getMap hB, r_zero hz1]
  split at hp
  · rename_i u hlook
    cases hp
    rcases hmr.look hd hkey hlook with ⟨e1, _⟩ | ⟨v1, pre, post, j, en, e1, _, _, _, hv, hf, _⟩
    · cases e1
    · cases e1
      refine ⟨_, fin1 j en.val (by rw [qk]; exact hf), ?_⟩
      cases ok
      · exact hv
      · exact VRel.tuple_iff.2 (.cons hv (.cons (.bool true) .nil))
  · rename_i hlook
    cases hp
    rcases hmr.look hd hkey hlook with ⟨_, hf, _⟩ | ⟨v1, pre, post, j, en, e1, _⟩
    · refine ⟨_, fin2 (by rw [qk]; exact hf), ?_⟩
      cases ok
      · exact plain_rel 8 z hz2
      · exact VRel.tuple_iff.2 (.cons (plain_rel 8 z hz2) (.cons (.bool false) .nil))
    · cases e1
  · cases hp

theorem p_lenM {c : Call} {t kt e : TypeId} {x : Operand} (h : Rel P β σ w) (ho : o.op = .call c) (hc : c.callee = .builtin .len) (ht : c.argTypes = #[t]) (ha : c.args = #[x]) (hu : P.underlying t = some (.map kt e))
    (hx : VRel P β (ev' x) (ρ x)) (hp : pev (.lenM x) ev' σ = some v) : Gives P ρ o w β v := by
  simp only [pev] at hp
  split at hp
  · rename_i es hes
    cases hp
    refine ⟨_, ?_, .int _ _⟩
    rcases entries_some hes with ⟨e1, rfl⟩ | ⟨r, ver, e1, hr⟩
    · rw [e1] at hx
      simp [execOp, ho, resolve, hc, ha, ht, invoke, builtin, Builtin.len_, r_und hu, hx.nilMap_inv, goInt]
    · rw [e1] at hx
      obtain ⟨i, hi, q⟩ := hx.map_inv
      obtain ⟨es', clock, h1, h2⟩ := h.map hr hi
      simp [execOp, ho, resolve, hc, ha, ht, invoke, builtin, Builtin.len_, r_und hu, q, goInt, r_getMap h1, h2.size]
  · cases hp

theorem p_ta {t xt : TypeId} {d : TypeDesc} {z : Value} {ok : Bool} {x : Operand} (ho : o.op = .typeAssert x xt t ok) (ht : P.underlying t = some d) (hd : ∀ ms, d ≠ .interface ms) (hz : zeroP P t = some z)
    (hx : VRel P β (ev' x) (ρ x)) (hp : pev (.ta t z ok x) ev' σ = some v) : Gives P ρ o w β v := by
  obtain ⟨hz1, hz2⟩ := zeroP_some hz
  have hrz : VRel P β z z := plain_rel 8 z hz2
  simp only [pev] at hp
  split at hp
  · rename_i u y e
    obtain ⟨y', q, hy⟩ := (e ▸ hx).iface_inv
    split at hp
    · rename_i hut
      cases hp
      refine ⟨if ok then .tuple #[y', .bool true] else y', ?_, ?_⟩
      · simp only [execOp, ho, q, Instr.typeAssert, Sem.run_bind, r_und ht, Result.andThen]
        cases d <;> first | exact absurd rfl (hd _) | (simp only [if_pos hut]; rfl)
      · cases ok
        · exact hy
        · exact VRel.tuple_iff.2 (.cons hy (.cons (.bool true) .nil))
    · rename_i hut
      split at hp
      · rename_i hok
        cases hp
        refine ⟨.tuple #[z, .bool false], ?_, VRel.tuple_iff.2 (.cons hrz (.cons (.bool false) .nil))⟩
        simp only [execOp, ho, q, Instr.typeAssert, Sem.run_bind, r_und ht, Result.andThen]
        cases d <;> first | exact absurd rfl (hd _) | (simp only [if_neg hut, hok, if_true, Sem.run_bind, r_zero hz1, Result.andThen]; rfl)
      · cases hp
  · rename_i e
    have q := (e ▸ hx).nilIface_inv
    split at hp
    · rename_i hok
      cases hp
      refine ⟨.tuple #[z, .bool false], ?_, VRel.tuple_iff.2 (.cons hrz (.cons (.bool false) .nil))⟩
      simp only [execOp, ho, q, Instr.typeAssert, Sem.run_bind, r_und ht, Result.andThen]
      cases d <;> first | exact absurd rfl (hd _) | (simp only [hok, if_true, Sem.run_bind, r_zero hz1, Result.andThen]; rfl)
    · cases hp
  · cases hp

theorem p_fld {t : TypeId} {x : Operand} {f n : Nat} {fs : Array Field} {fd : Field} {agg : Bool} (ho : o.op = .field t x f) (ht : P.underlying t = some (.struct fs)) (hf : fs[f]? = some fd) (hn : szOf P fd.type = some n) (hg : aggOf P fd.type = some agg)
    (hx : VRel P β (ev' x) (ρ x)) (hp : pev (.fld fd.offset n agg x) ev' σ = some v) : Gives P ρ o w β v := by
  simp only [pev] at hp
  split at hp
  · rename_i cs e
    obtain ⟨cs', q, hr⟩ := (e ▸ hx).agg_inv
    split at hp
    · rename_i hagg
      split at hp
      · rename_i l hl
        cases hp
        obtain ⟨_, rfl⟩ := takeAt_some hl
        subst hagg
        refine ⟨.agg (cs'.extract fd.offset (fd.offset + n)), ?_, VRel.agg_iff.2 ?_⟩
        · simp [execOp, ho, q, Instr.field, r_und ht, hf, asAgg, part, r_agg hg, r_size hn]
        · have := (hr.drop fd.offset).take n
          simpa [Array.toList_extract, List.extract_eq_take_drop] using this
      · cases hp
    · rename_i hagg
      have hagg' : agg = false := by simpa using hagg
      subst hagg'
      obtain ⟨v', h1, h2⟩ := hr.left hp
      simp only [Array.getElem?_toList] at h1
      exact ⟨v', by simp [execOp, ho, q, Instr.field, r_und ht, hf, asAgg, part, r_agg hg, h1], h2⟩
  · cases hp

theorem p_mm {c : Call} {b : Bool} {x y : Operand} (ho : o.op = .call c) (hc : c.callee = .builtin (if b then .max else .min)) (ha : c.args = #[x, y])
    (hx : VRel P β (ev' x) (ρ x)) (hy : VRel P β (ev' y) (ρ y)) (hp : pev (.mm b x y) ev' σ = some v) : Gives P ρ o w β v := by
  simp only [pev] at hp
  split at hp
  · rename_i k m k' n e1 e2
    cases hp
    have q1 := (e1 ▸ hx).int_inv
    have q2 := (e2 ▸ hy).int_inv
    refine ⟨_, ?_, .int _ _⟩
    cases b
    · simp [execOp, ho, resolve, hc, ha, invoke, builtin, q1, q2, run_min_int2]
    · simp [execOp, ho, resolve, hc, ha, invoke, builtin, q1, q2, run_max_int2]
  · cases hp

end ops
end Go.Cn
