/- Structs and arrays put together; texts compared; interface values compared. -/
import Derived.Test.YtfagmflapdgcmaaDoorCnOps3
namespace Go.Cn
set_option linter.unusedVariables false
set_option linter.unusedSimpArgs false

theorem foldl_set (off : Nat) : ∀ (vs : List Value) (i : Nat) (cs : Array Value), off + i + vs.length ≤ cs.size →
    ((vs.zipIdx i).foldl (fun cs (x : Value × Nat) => cs.setIfInBounds (off + x.2) x.1) cs).size = cs.size ∧
    ∀ (k : Nat), ((vs.zipIdx i).foldl (fun cs (x : Value × Nat) => cs.setIfInBounds (off + x.2) x.1) cs)[k]? = if off + i ≤ k ∧ k < off + i + vs.length then vs[k - (off + i)]? else cs[k]?
  | [], i, cs, _ => by
    refine ⟨rfl, fun k => ?_⟩
    rw [if_neg (by simp only [List.length_nil]; omega)]; rfl
  | v :: vs, i, cs, h => by
    simp only [List.length_cons] at h
    obtain ⟨h1, h2⟩ := foldl_set off vs (i + 1) (cs.setIfInBounds (off + i) v) (by simp only [Array.size_setIfInBounds]; omega)
    simp only [List.zipIdx_cons, List.foldl_cons]
    refine ⟨by rw [h1]; simp, fun k => ?_⟩
    rw [h2 k]
    simp only [List.length_cons]
    by_cases hk : k = off + i
    · subst hk
      rw [if_neg (by omega), if_pos (by omega)]
      have : off + i < cs.size := by omega
      simp [this]
    · by_cases hin : off + (i + 1) ≤ k ∧ k < off + (i + 1) + vs.length
      · rw [if_pos hin, if_pos (by omega)]
        have : k - (off + i) = (k - (off + (i + 1))) + 1 := by omega
        rw [this]; simp
      · rw [if_neg hin, if_neg (by omega), Array.getElem?_setIfInBounds_ne (by omega)]

section
variable {P : Program} {β : Ren}

theorem lrel_put {c r vs : List Value} {c' r' vs' : List Value} {off : Nat} (hc : LRel P β c c') (hv : LRel P β vs vs') (hr : r.length = c.length) (hr' : r'.length = c'.length)
    (h : ∀ (k : Nat), r[k]? = if off ≤ k ∧ k < off + vs.length then vs[k - off]? else c[k]?) (h' : ∀ (k : Nat), r'[k]? = if off ≤ k ∧ k < off + vs'.length then vs'[k - off]? else c'[k]?) : LRel P β r r' := by
  refine ⟨by rw [hr, hr', hc.1], fun k x y hx hy => ?_⟩
  rw [h] at hx
  rw [h', ← hv.1] at hy
  split at hx
  · rename_i hin; rw [if_pos hin] at hy; exact hv.2 _ x y hx hy
  · rename_i hin; rw [if_neg hin] at hy; exact hc.2 _ x y hx hy

/-- the parts as they are placed -/
inductive PartsR (place : Nat → Option (Nat × Nat)) : List (Nat × Operand) → List (Nat × Nat × Operand) → Prop where
  | nil : PartsR place [] []
  | cons {i off n : Nat} {x : Operand} {l : List (Nat × Operand)} {m : List (Nat × Nat × Operand)} (h : place i = some (off, n)) (t : PartsR place l m) : PartsR place ((i, x) :: l) ((off, n, x) :: m)

theorem fill_rel {place : Nat → Option (Nat × Nat)} {ev' ρ : Operand → Value} : ∀ {parts : List (Nat × Operand)} {ps : List (Nat × Nat × Operand)}, PartsR place parts ps → (∀ x ∈ parts, VRel P β (ev' x.2) (ρ x.2)) →
    ∀ {cells r : List Value} {cells' : Array Value}, LRel P β cells cells'.toList → fillL cells (ps.map fun (o, s, x) => (o, s, ev' x)) = some r →
    ∃ r', Instr.fill place cells' (parts.map fun (i, x) => (i, ρ x)) = some r' ∧ LRel P β r r'.toList := by
  intro parts ps hps
  induction hps with
  | nil => intro _ cells r cells' hc hf; simp only [List.map_nil, fillL, Option.some.injEq] at hf; subst hf; exact ⟨cells', rfl, hc⟩
  | @cons i off n x l m hpl t ih =>
    intro hops cells r cells' hc hf
    simp only [List.map_cons, fillL] at hf
    split at hf
    case isFalse => cases hf
    rename_i hlen
    split at hf
    case h_2 => cases hf
    rename_i c1 hput
    obtain ⟨hfit, hl1, hg1⟩ := putAt_some hput
    have hx := (hops (i, x) (by simp)).cells
    have hsz : (ρ x).cells.size = n := by have := hx.1; simp only [Array.length_toList] at this; omega
    have hszc : cells'.size = cells.length := by have := hc.1; simp only [Array.length_toList] at this; omega
    obtain ⟨g1, g2⟩ := foldl_set off (ρ x).cells.toList 0 cells' (by simp only [Array.length_toList]; omega)
    have hc1 : LRel P β c1 (((ρ x).cells.toList.zipIdx 0).foldl (fun cs (x : Value × Nat) => cs.setIfInBounds (off + x.2) x.1) cells').toList := by
      refine lrel_put (off := off) hc hx hl1 (by simpa using g1) hg1 (fun k => ?_)
      have := g2 k
      simp only [Nat.add_zero] at this
      simpa using this
    obtain ⟨r', q1, q2⟩ := ih (fun y hy => hops y (by simp [hy])) hc1 hf
    refine ⟨r', ?_, q2⟩
    simp only [List.map_cons, Instr.fill, hpl]
    rw [if_neg (by simp; omega)]
    rw [← q1]
    congr 1
    rw [← Array.foldl_toList, Array.toList_zipIdx]

theorem zerosL_len (z : List Value) : ∀ n, (zerosL z n).length = n * z.length
  | 0 => by simp [zerosL]
  | n + 1 => by simp [zerosL, zerosL_len z n, Nat.succ_mul, Nat.add_comm]

theorem zerosL_get (z : List Value) (hz : z.length ≠ 0) : ∀ (n k : Nat), k < n * z.length → (zerosL z n)[k]? = z[k % z.length]?
  | 0, k, h => by simp at h
  | n + 1, k, h => by
    simp only [zerosL]
    by_cases hk : k < z.length
    · rw [List.getElem?_append_left hk, Nat.mod_eq_of_lt hk]
    · rw [List.getElem?_append_right (by omega), zerosL_get z hz n (k - z.length) (by rw [Nat.add_mul, Nat.one_mul] at h; omega)]
      congr 1
      exact (Nat.mod_eq_sub_mod (by omega)).symm

theorem zeros_rel {z : Value} (hz : plain 8 z = true) {n len : Nat} (hn : (cellsOf z).length = n) (h0 : n ≠ 0) :
    LRel P β (zerosL (cellsOf z) len) ((Array.range (len * n)).map (z.cells[· % z.cells.size]!)).toList := by
  have hc := plain_cells (P := P) (β := β) hz
  have hs : z.cells.size = n := by have := hc.1; simp only [Array.length_toList] at this; omega
  refine ⟨by rw [zerosL_len, hn]; simp, fun k x y hx hy => ?_⟩
  have hk : k < len * n := by
    have := (List.getElem?_eq_some_iff.1 hx).1
    rw [zerosL_len, hn] at this; exact this
  rw [zerosL_get _ (by omega) len k (by rw [hn]; exact hk), hn] at hx
  simp only [Array.getElem?_toList, Array.getElem?_map, Array.getElem?_range, if_pos hk, Option.map_some, Option.some.injEq, hs] at hy
  have hm : k % n < z.cells.size := by rw [hs]; exact Nat.mod_lt _ (by omega)
  rw [getElem!_pos z.cells (k % n) hm] at hy
  exact hc.2 (k % n) x y hx (by simp [hm, hy])

theorem r_places {w : World} : ∀ (l : List Field) (ps : List (Nat × Nat)), l.mapM (fun f => (szOf P f.type).map fun n => (f.offset, n)) = some ps →
    (l.mapM (fun f => do pure (f.offset, ← sizeOf f.type)) : Sem (List (Nat × Nat))).run P w = .ok ps w
  | [], ps, h => by cases h; rfl
  | f :: l, ps, h => by
    simp only [List.mapM_cons] at h ⊢
    cases e : szOf P f.type with
    | none => rw [e] at h; cases h
    | some n =>
      rw [e] at h
      cases e2 : l.mapM (fun f => (szOf P f.type).map fun n => (f.offset, n)) with
      | none => rw [e2] at h; cases h
      | some qs =>
        rw [e2] at h
        simp at h
        subst h
        simp only [Sem.run_bind, r_size e, Result.andThen, Sem.run_pure, r_places l qs e2]

end

section ops
variable {P : Program} {β : Ren} {σ : CW} {w : World} {ev' ρ : Operand → Value} {o : Oper} {v : Value}

/-- what the compiler knows of a struct's or an array's parts -/
inductive BuildOk (P : Program) (t : TypeId) (parts : List (Nat × Operand)) (ps : List (Nat × Nat × Operand)) : Prop where
  | struct {fs : Array Field} {pl : List (Nat × Nat)} (ht : P.underlying t = some (.struct fs)) (hpl : fs.toList.mapM (fun f => (szOf P f.type).map fun n => (f.offset, n)) = some pl) (hp : PartsR (fun (x : Nat) => pl[x]?) parts ps)
  | array {len : Nat} {e : TypeId} {n : Nat} (ht : P.underlying t = some (.array len e)) (hn : szOf P e = some n) (hp : PartsR (fun i => some (i * n, n)) parts ps)

theorem p_build {t : TypeId} {z : Value} {parts : Array (Nat × Operand)} {ps : List (Nat × Nat × Operand)} (ho : o.op = .build t parts) (hz : zeroP P t = some z) (hb : BuildOk P t parts.toList ps)
    (hx : ∀ x ∈ parts.toList, VRel P β (ev' x.2) (ρ x.2)) (hp : pev (.build (cellsOf z) ps) ev' σ = some v) : Gives P ρ o w β v := by
  obtain ⟨hz1, hz2⟩ := zeroP_some hz
  have hc := plain_cells (P := P) (β := β) hz2
  simp only [pev] at hp
  split at hp
  · rename_i l hl
    cases hp
    cases hb with
    | @struct fs pl ht hpl hps =>
      obtain ⟨r', h1, h2⟩ := fill_rel hps hx hc hl
      refine ⟨.agg r', ?_, VRel.agg_iff.2 (by simpa using h2)⟩
      have hplaces : (fs.mapM (fun f => do pure (f.offset, ← sizeOf f.type)) : Sem (Array (Nat × Nat))).run P w = .ok pl.toArray w := by
        rw [Array.mapM_eq_mapM_toList, Sem.run_map, r_places fs.toList pl hpl]; rfl
      simp only [execOp, ho, Instr.build, Sem.run_bind, r_zero hz1, r_und ht, Result.andThen, hplaces]
      have e1 : (Array.map (fun (x : Nat × Operand) => (x.1, ρ x.2)) parts).toList = parts.toList.map fun (i, x) => (i, ρ x) := by simp
      have e2 : (fun (x : Nat) => pl.toArray[x]?) = (fun (x : Nat) => pl[x]?) := by funext x; simp
      rw [e2, e1, h1]; rfl
    | @array len e n ht hn hps =>
      obtain ⟨r', h1, h2⟩ := fill_rel hps hx hc hl
      refine ⟨.agg r', ?_, VRel.agg_iff.2 (by simpa using h2)⟩
      simp only [execOp, ho, Instr.build, Sem.run_bind, r_zero hz1, r_und ht, Result.andThen, r_size hn]
      have e1 : (Array.map (fun (x : Nat × Operand) => (x.1, ρ x.2)) parts).toList = parts.toList.map fun (i, x) => (i, ρ x) := by simp
      rw [e1, h1]; rfl
  · cases hp

/-- the runtime's comparison of texts, where it has no body -/
def CmpOk (P : Program) (f : FuncId) : Prop := ∃ fn, P.funcs[f]? = some fn ∧ fn.body = none ∧ (fn.name == "runtime.NumGoroutine") = false ∧ Extern.findNext fn = none ∧ Extern.find fn = some Extern.BytealgCompare.compare

theorem p_cmp {c : Call} {f : FuncId} {x y : Operand} (ho : o.op = .call c) (hc : c.callee = .value (.func f)) (ha : c.args = #[x, y]) (hρ : ρ (.func f) = .func (.func f) #[] #[]) (hf : CmpOk P f)
    (hx : VRel P β (ev' x) (ρ x)) (hy : VRel P β (ev' y) (ρ y)) (hp : pev (.cmp x y) ev' σ = some v) : Gives P ρ o w β v := by
  simp only [pev] at hp
  split at hp
  · rename_i a b e1 e2
    cases hp
    have q1 := (e1 ▸ hx).string_inv
    have q2 := (e2 ▸ hy).string_inv
    obtain ⟨fn, h1, h2, h3, h4, h5⟩ := hf
    refine ⟨_, ?_, .int _ _⟩
    have hcmp : (Extern.BytealgCompare.compare #[.string a, .string b]).run P w = .ok (goInt (Extern.BytealgCompare.cmp a b)) w := rfl
    simp only [execOp, ho, resolve, hc, ha, hρ, Deferred.ofValue, Sem.run_bind, Sem.run_pure, Result.andThen, invoke, callFunc, run_program, h1, h2, h3, h4, h5, Bool.false_eq_true, if_false, Option.isNone_none, if_true, run_mark]
    simp [q1, q2, hcmp, goInt]
  · cases hp

end ops
end Go.Cn
