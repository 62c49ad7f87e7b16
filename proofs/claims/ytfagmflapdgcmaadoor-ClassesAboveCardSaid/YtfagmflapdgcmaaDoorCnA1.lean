/- Values without memory: what a value of the canonical machine stands for, as long as nothing that it leads to is written. -/
import Derived.Test.YtfagmflapdgcmaaDoorCnMono
namespace Go.Cn
set_option linter.unusedSimpArgs false
set_option linter.unusedVariables false

/-- May a list be appended to? no: it may not; nil: it is nil; own: it ends where its class ends: class, row, where the row begins, end, end of the row's cells, cells of an element. -/
inductive Tag where
  | no
  | nil
  | own (c cur rel p cap sz : Nat)

inductive AV where
  | any
  | bool (b : Bool)
  | int (k : IntKind) (n : Int)
  | str (s : List UInt8)
  | nilp
  | nilm
  | nilf
  | nili
  | lst (E : TypeId) (es : List (List AV)) (t : Tag)
  | agg (cs : List AV)
  | rptr (cs : List AV)
  | ptr (b off : Nat)
  | slice (b off len cap : Nat)
  | map (b : Nat)
  | fmap (es : List (AV × AV))
  | func (f : Nat) (a b : List AV)
  | yield (c : Nat)
  | iface (t : TypeId) (v : AV)
  | tuple (l : List AV)

/-- How long a list may be. -/
def big : Nat := 2 ^ 47

def keyV : AV → Option Value
  | .str s => some (.string ⟨⟨s⟩⟩)
  | .int k n => some (.int k n)
  | _ => none

/-- A value stands for one of the canonical machine; 'F': up to where a row is never written again. -/
inductive Rp (F : Nat → Nat) (σ : CW) : AV → Value → Prop where
  | any (v : Value) : Rp F σ .any v
  | bool (b : Bool) : Rp F σ (.bool b) (.bool b)
  | int (k : IntKind) (n : Int) : Rp F σ (.int k n) (.int k n)
  | str (s : List UInt8) : Rp F σ (.str s) (.string ⟨⟨s⟩⟩)
  | nilp : Rp F σ .nilp (.pointer none)
  | nilm : Rp F σ .nilm (.map none)
  | nilf : Rp F σ .nilf .nilFunc
  | nili : Rp F σ .nili .nilIface
  | lst0 (E : TypeId) : Rp F σ (.lst E [] .nil) (.slice none 0 0)
  | lstN (E : TypeId) : Rp F σ (.lst E [] .no) (.slice none 0 0)
  | lstE (E : TypeId) (b off cap : Nat) : Rp F σ (.lst E [] .no) (.slice (some ⟨b, off, none⟩) 0 cap)
  | lstO (E : TypeId) {c b rel p cp sz off cap : Nat} (hp : rel + off = p) (hc : p + cap * sz = cp) : Rp F σ (.lst E [] (.own c b rel p cp sz)) (.slice (some ⟨b, off, none⟩) 0 cap)
  | lst {E : TypeId} {es : List (List AV)} {t : Tag} {b off cap sz : Nat} {c : List Value} {cl rel : Nat} (hb : σ.heap b = some (.cells c E cl rel)) (h0 : es ≠ []) (hz : 0 < sz) (hs : ∀ e ∈ es, e.length = sz)
      (hF : off + es.length * sz ≤ F b) (hc : off + es.length * sz ≤ c.length) (hl : es.length ≤ cap) (hB : es.length ≤ big) (ht : t = .no ∨ t = .own cl b rel (rel + off + es.length * sz) (rel + off + cap * sz) sz)
      (hv : ∀ (i : Nat) (x : AV) (y : Value), es.flatten[i]? = some x → c[off + i]? = some y → Rp F σ x y) : Rp F σ (.lst E es t) (.slice (some ⟨b, off, none⟩) es.length cap)
  | agg {cs : List AV} {a : Array Value} (hl : cs.length = a.size) (h : ∀ (i : Nat) (x : AV) (y : Value), cs[i]? = some x → a[i]? = some y → Rp F σ x y) : Rp F σ (.agg cs) (.agg a)
  | rptr {cs : List AV} {b off : Nat} {c : List Value} {E : TypeId} {cl rel : Nat} (hb : σ.heap b = some (.cells c E cl rel)) (h0 : cs ≠ []) (hF : off + cs.length ≤ F b) (hc : off + cs.length ≤ c.length)
      (hv : ∀ (i : Nat) (x : AV) (y : Value), cs[i]? = some x → c[off + i]? = some y → Rp F σ x y) : Rp F σ (.rptr cs) (.pointer (some ⟨b, off, none⟩))
  | ptr (b off : Nat) : Rp F σ (.ptr b off) (.pointer (some ⟨b, off, none⟩))
  | slice {b off len cap : Nat} (hl : len ≤ cap) : Rp F σ (.slice b off len cap) (.slice (some ⟨b, off, none⟩) len cap)
  | map (b : Nat) : Rp F σ (.map b) (.map (some b))
  | fmap0 : Rp F σ (.fmap []) (.map none)
  | fmap {es : List (AV × AV)} {es' : List (Value × Value)} {b ver : Nat} (hb : σ.heap b = some (.map es' ver)) (hF : 0 < F b) (hl : es.length = es'.length)
      (hk : ∀ (i : Nat) (p : AV × AV) (q : Value × Value), es[i]? = some p → es'[i]? = some q → keyV p.1 = some q.1) (hv : ∀ (i : Nat) (p : AV × AV) (q : Value × Value), es[i]? = some p → es'[i]? = some q → Rp F σ p.2 q.2) : Rp F σ (.fmap es) (.map (some b))
  | func {f : Nat} {a b : List AV} {a' b' : Array Value} (ha : a.length = a'.size) (hb : b.length = b'.size) (h : ∀ (i : Nat) (x : AV) (y : Value), a[i]? = some x → a'[i]? = some y → Rp F σ x y)
      (g : ∀ (i : Nat) (x : AV) (y : Value), b[i]? = some x → b'[i]? = some y → Rp F σ x y) : Rp F σ (.func f a b) (.func (.func f) a' b')
  | yield (c : Nat) : Rp F σ (.yield c) (.func (.yield c) #[] #[])
  | iface {t : TypeId} {v : AV} {v' : Value} (h : Rp F σ v v') : Rp F σ (.iface t v) (.iface t v')
  | tuple {l : List AV} {a : Array Value} (hl : l.length = a.size) (h : ∀ (i : Nat) (x : AV) (y : Value), l[i]? = some x → a[i]? = some y → Rp F σ x y) : Rp F σ (.tuple l) (.tuple a)

/-- What a part of a run keeps: what is never written again, and what is named. -/
structure Ext (K : Nat → Prop) (F : Nat → Nat) (σ : CW) (F' : Nat → Nat) (σ' : CW) : Prop where
  ro : σ'.ro = σ.ro
  inj : σ'.inj = σ.inj
  next : σ.next ≤ σ'.next
  up : ∀ b, F b ≤ F' b
  row : ∀ b c E cl rel, 0 < F b → σ.heap b = some (.cells c E cl rel) → ∃ c', σ'.heap b = some (.cells c' E cl rel) ∧ c'.length = c.length ∧ ∀ i : Nat, i < F b → c'[i]? = c[i]?
  map : ∀ b es v, 0 < F b → σ.heap b = some (.map es v) → σ'.heap b = some (.map es v)
  keep : ∀ b, K b → σ'.heap b = σ.heap b

theorem Ext.refl {K : Nat → Prop} {F : Nat → Nat} {σ : CW} : Ext K F σ F σ where
  ro := rfl
  inj := rfl
  next := Nat.le_refl _
  up := fun _ => Nat.le_refl _
  row := fun b c E cl rel _ h => ⟨c, h, rfl, fun _ _ => rfl⟩
  map := fun _ _ _ _ h => h
  keep := fun _ _ => rfl

theorem Ext.trans {K : Nat → Prop} {F F1 F2 : Nat → Nat} {σ σ1 σ2 : CW} (h : Ext K F σ F1 σ1) (g : Ext K F1 σ1 F2 σ2) : Ext K F σ F2 σ2 where
  ro := g.ro.trans h.ro
  inj := g.inj.trans h.inj
  next := Nat.le_trans h.next g.next
  up := fun b => Nat.le_trans (h.up b) (g.up b)
  row := by
    intro b c E cl rel hb hc
    obtain ⟨c1, h1, h2, h3⟩ := h.row b c E cl rel hb hc
    obtain ⟨c2, g1, g2, g3⟩ := g.row b c1 E cl rel (Nat.lt_of_lt_of_le hb (h.up b)) h1
    exact ⟨c2, g1, g2.trans h2, fun i hi => (g3 i (Nat.lt_of_lt_of_le hi (h.up b))).trans (h3 i hi)⟩
  map := fun b es v hb hc => g.map b es v (Nat.lt_of_lt_of_le hb (h.up b)) (h.map b es v hb hc)
  keep := fun b hb => (g.keep b hb).trans (h.keep b hb)

theorem Ext.less {K K' : Nat → Prop} {F F' : Nat → Nat} {σ σ' : CW} (h : Ext K F σ F' σ') (hK : ∀ b, K' b → K b) : Ext K' F σ F' σ' :=
  ⟨h.ro, h.inj, h.next, h.up, h.row, h.map, fun b hb => h.keep b (hK b hb)⟩

theorem flatten_length {α : Type} : ∀ {es : List (List α)} {sz : Nat}, (∀ e ∈ es, e.length = sz) → es.flatten.length = es.length * sz
  | [], sz, _ => by simp
  | e :: es, sz, h => by
    have := flatten_length (es := es) (sz := sz) fun x hx => h x (by simp [hx])
    simp only [List.flatten_cons, List.length_append, List.length_cons, this, h e (by simp)]
    rw [Nat.add_mul]; omega

theorem Rp.ext {K : Nat → Prop} {F F' : Nat → Nat} {σ σ' : CW} (hx : Ext K F σ F' σ') {a : AV} {v : Value} (h : Rp F σ a v) : Rp F' σ' a v := by
  induction h with
  | any v => exact .any v
  | bool b => exact .bool b
  | int k n => exact .int k n
  | str s => exact .str s
  | nilp => exact .nilp
  | nilm => exact .nilm
  | nilf => exact .nilf
  | nili => exact .nili
  | lst0 E => exact .lst0 E
  | lstN E => exact .lstN E
  | lstE E b off cap => exact .lstE E b off cap
  | lstO E hp hc => exact .lstO E hp hc
  | @lst E es t b off cap sz c cl rel hb h0 hz hs hF hc hl hB ht hv ih =>
    have hpos : 0 < es.length * sz := Nat.mul_pos (List.length_pos_iff.2 h0) hz
    obtain ⟨c', h1, h2, h3⟩ := hx.row b c E cl rel (by omega) hb
    refine .lst h1 h0 hz hs (Nat.le_trans hF (hx.up b)) (by omega) hl hB ht fun i x y hi hy => ?_
    have hil : i < es.length * sz := by rw [← flatten_length hs]; exact (List.getElem?_eq_some_iff.1 hi).1
    rw [h3 _ (by omega)] at hy
    exact ih i x y hi hy
  | agg hl _ ih => exact .agg hl ih
  | @rptr cs b off c E cl rel hb h0 hF hc hv ih =>
    have hpos : 0 < cs.length := List.length_pos_iff.2 h0
    obtain ⟨c', h1, h2, h3⟩ := hx.row b c E cl rel (by omega) hb
    refine .rptr h1 h0 (Nat.le_trans hF (hx.up b)) (by omega) fun i x y hi hy => ?_
    have hil : i < cs.length := (List.getElem?_eq_some_iff.1 hi).1
    rw [h3 _ (by omega)] at hy
    exact ih i x y hi hy
  | ptr b off => exact .ptr b off
  | slice hl => exact .slice hl
  | map b => exact .map b
  | fmap0 => exact .fmap0
  | fmap hb hF hl hk hv ih => exact .fmap (hx.map _ _ _ hF hb) (Nat.lt_of_lt_of_le hF (hx.up _)) hl hk ih
  | func ha hb _ _ ih1 ih2 => exact .func ha hb ih1 ih2
  | yield c => exact .yield c
  | iface _ ih => exact .iface ih
  | tuple hl _ ih => exact .tuple hl ih

/-- lists of values, one by one -/
def RpL (F : Nat → Nat) (σ : CW) (l : List AV) (l' : List Value) : Prop := l.length = l'.length ∧ ∀ (i : Nat) (x : AV) (y : Value), l[i]? = some x → l'[i]? = some y → Rp F σ x y

section
variable {F F' : Nat → Nat} {σ σ' : CW} {K : Nat → Prop}

theorem RpL.ext (hx : Ext K F σ F' σ') {l : List AV} {l' : List Value} (h : RpL F σ l l') : RpL F' σ' l l' := ⟨h.1, fun i x y hi hy => (h.2 i x y hi hy).ext hx⟩
theorem RpL.nil : RpL F σ [] [] := ⟨rfl, fun i x y h => by simp at h⟩
theorem RpL.cons {a : AV} {v : Value} {l : List AV} {l' : List Value} (h : Rp F σ a v) (t : RpL F σ l l') : RpL F σ (a :: l) (v :: l') := by
  refine ⟨by simp [t.1], fun i x y hi hy => ?_⟩
  cases i with
  | zero => simp at hi hy; subst hi hy; exact h
  | succ i => simp at hi hy; exact t.2 i x y hi hy
theorem RpL.of_cons {a : AV} {v : Value} {l : List AV} {l' : List Value} (h : RpL F σ (a :: l) (v :: l')) : Rp F σ a v ∧ RpL F σ l l' :=
  ⟨h.2 0 a v rfl rfl, by simpa using h.1, fun i x y hi hy => h.2 (i + 1) x y (by simpa using hi) (by simpa using hy)⟩
theorem RpL.left {l : List AV} {l' : List Value} (h : RpL F σ l l') {i : Nat} {x : AV} (hi : l[i]? = some x) : ∃ y, l'[i]? = some y ∧ Rp F σ x y := by
  have hj : i < l'.length := by rw [← h.1]; exact (List.getElem?_eq_some_iff.1 hi).1
  exact ⟨l'[i], by simp [hj], h.2 i x _ hi (by simp [hj])⟩
theorem RpL.append {a b : List AV} {a' b' : List Value} (h : RpL F σ a a') (g : RpL F σ b b') : RpL F σ (a ++ b) (a' ++ b') := by
  refine ⟨by simp [h.1, g.1], fun i x y hi hy => ?_⟩
  by_cases hj : i < a.length
  · rw [List.getElem?_append_left hj] at hi
    rw [List.getElem?_append_left (h.1 ▸ hj)] at hy
    exact h.2 i x y hi hy
  · rw [List.getElem?_append_right (by omega)] at hi
    rw [List.getElem?_append_right (by have := h.1; omega), ← h.1] at hy
    exact g.2 _ x y hi hy
theorem RpL.take {a : List AV} {a' : List Value} (h : RpL F σ a a') (n : Nat) : RpL F σ (a.take n) (a'.take n) := by
  refine ⟨by simp [h.1], fun i x y hi hy => ?_⟩
  rw [List.getElem?_take] at hi hy
  split at hi
  · rename_i hj; rw [if_pos hj] at hy; exact h.2 i x y hi hy
  · simp at hi
theorem RpL.drop {a : List AV} {a' : List Value} (h : RpL F σ a a') (n : Nat) : RpL F σ (a.drop n) (a'.drop n) := by
  refine ⟨by simp [h.1], fun i x y hi hy => ?_⟩
  rw [List.getElem?_drop] at hi hy
  exact h.2 _ x y hi hy
theorem RpL.map {α : Type} (f : α → AV) (g : α → Value) (l : List α) (h : ∀ a ∈ l, Rp F σ (f a) (g a)) : RpL F σ (l.map f) (l.map g) := by
  induction l with
  | nil => exact .nil
  | cons a l ih => exact .cons (h a (by simp)) (ih fun b hb => h b (by simp [hb]))

/-- the cells of a value -/
def cellsA : AV → List AV
  | .agg cs => cs
  | v => [v]
/-- Is it the value of one cell? -/
def oneA : AV → Bool
  | .agg _ => false
  | .tuple _ => false
  | .any => false
  | _ => true

theorem Rp.one {a : AV} {v : Value} (h : Rp F σ a v) (ho : oneA a = true) : oneCell v = true := by
  cases h <;> first | rfl | cases ho
theorem Rp.cells {a : AV} {v : Value} (h : Rp F σ a v) (hn : a ≠ .any) : RpL F σ (cellsA a) (cellsOf v) := by
  cases h
  case agg hl h => exact ⟨by simpa [cellsA, cellsOf, Value.cells] using hl, fun i x y hi hy => h i x y hi (by simpa [cellsOf, Value.cells] using hy)⟩
  case any => exact absurd rfl hn
  all_goals (refine .cons ?_ .nil; constructor <;> assumption)

/-- less is known of a value -/
inductive Wk : AV → AV → Prop where
  | refl (a : AV) : Wk a a
  | any (a : AV) : Wk a .any
  | tag (E : TypeId) (es : List (List AV)) (t : Tag) : Wk (.lst E es t) (.lst E es .no)
  | agg {cs ds : List AV} (hl : cs.length = ds.length) (h : ∀ (i : Nat) (x y : AV), cs[i]? = some x → ds[i]? = some y → Wk x y) : Wk (.agg cs) (.agg ds)
  | tuple {cs ds : List AV} (hl : cs.length = ds.length) (h : ∀ (i : Nat) (x y : AV), cs[i]? = some x → ds[i]? = some y → Wk x y) : Wk (.tuple cs) (.tuple ds)
  | iface {t : TypeId} {a b : AV} (h : Wk a b) : Wk (.iface t a) (.iface t b)
  | rptr {cs ds : List AV} (hl : cs.length = ds.length) (h : ∀ (i : Nat) (x y : AV), cs[i]? = some x → ds[i]? = some y → Wk x y) : Wk (.rptr cs) (.rptr ds)
  | lst {E : TypeId} {es ds : List (List AV)} {t : Tag} (hl : es.length = ds.length) (hs : ∀ (i : Nat) (x y : List AV), es[i]? = some x → ds[i]? = some y → x.length = y.length)
      (h : ∀ (i : Nat) (x y : AV), es.flatten[i]? = some x → ds.flatten[i]? = some y → Wk x y) : Wk (.lst E es t) (.lst E ds t)
  | nilE (E E' : TypeId) : Wk (.lst E [] .nil) (.lst E' [] .nil)
  | noE (E E' : TypeId) : Wk (.lst E [] .no) (.lst E' [] .no)
  | trans {a b c : AV} (h : Wk a b) (g : Wk b c) : Wk a c

theorem Rp.tag {E : TypeId} {es : List (List AV)} {t : Tag} {v : Value} (h : Rp F σ (.lst E es t) v) : Rp F σ (.lst E es .no) v := by
  cases h with
  | lst0 => exact .lstN E
  | lstN => exact .lstN E
  | lstE => exact .lstE E _ _ _
  | lstO => exact .lstE E _ _ _
  | lst hb h0 hz hs hF hc hl hB ht hv => exact .lst hb h0 hz hs hF hc hl hB (.inl rfl) hv

theorem Rp.weak {a b : AV} (hw : Wk a b) : ∀ {v : Value}, Rp F σ a v → Rp F σ b v := by
  induction hw with
  | refl a => exact fun h => h
  | any a => exact fun h => .any _
  | tag E es t => exact fun h => h.tag
  | @agg cs ds hl _ ih =>
    intro v h
    cases h with
    | agg h1 h2 =>
      refine .agg (by omega) fun i x y hi hy => ?_
      have : i < cs.length := by rw [hl]; exact (List.getElem?_eq_some_iff.1 hi).1
      exact ih i cs[i] x (by simp [this]) hi (h2 i _ y (by simp [this]) hy)
  | @tuple cs ds hl _ ih =>
    intro v h
    cases h with
    | tuple h1 h2 =>
      refine .tuple (by omega) fun i x y hi hy => ?_
      have : i < cs.length := by rw [hl]; exact (List.getElem?_eq_some_iff.1 hi).1
      exact ih i cs[i] x (by simp [this]) hi (h2 i _ y (by simp [this]) hy)
  | iface _ ih =>
    intro v h
    cases h with
    | iface h => exact .iface (ih h)
  | @rptr cs ds hl _ ih =>
    intro v h
    cases h with
    | rptr hb h0 hF hc hv =>
      refine .rptr hb (by intro e; subst e; rw [List.length_nil] at hl; exact h0 (List.length_eq_zero_iff.1 hl)) (by omega) (by omega) fun i x y hi hy => ?_
      have : i < cs.length := by rw [hl]; exact (List.getElem?_eq_some_iff.1 hi).1
      exact ih i cs[i] x (by simp [this]) hi (hv i _ y (by simp [this]) hy)
  | @lst E es ds t hl hs' _ ih =>
    intro v h
    have hnil : ds = [] → es = [] := fun e => by subst e; exact List.length_eq_zero_iff.1 hl
    have hnil' : es = [] → ds = [] := fun e => by subst e; exact List.length_eq_zero_iff.1 hl.symm
    cases h with
    | lst0 => rw [hnil' rfl]; exact .lst0 E
    | lstN => rw [hnil' rfl]; exact .lstN E
    | lstE => rw [hnil' rfl]; exact .lstE E _ _ _
    | lstO _ hp hc => rw [hnil' rfl]; exact .lstO E hp hc
    | @lst _ _ _ b off cap sz c cl rel hb h0 hz hs hF hc hl' hB ht hv =>
      rw [hl] at hF hc hl' hB ht ⊢
      have hsd : ∀ e ∈ ds, e.length = sz := by
        intro e he
        obtain ⟨i, hi⟩ := List.getElem?_of_mem he
        have hil : i < es.length := by rw [hl]; exact (List.getElem?_eq_some_iff.1 hi).1
        rw [← hs' i es[i] e (by simp [hil]) hi]
        exact hs _ (List.getElem_mem hil)
      refine .lst hb (fun e => h0 (hnil e)) hz hsd hF hc hl' hB ht fun i x y hi hy => ?_
      have e1 := flatten_length hs
      have e2 := flatten_length hsd
      have : i < es.flatten.length := by rw [e1, hl, ← e2]; exact (List.getElem?_eq_some_iff.1 hi).1
      exact ih i es.flatten[i] x (by simp [this]) hi (hv i _ y (by simp [this]) hy)
  | nilE E E' =>
    intro v h
    cases h with
    | lst0 => exact .lst0 _
    | lst _ h0 _ _ _ _ _ _ _ _ => exact absurd rfl h0
  | noE E E' =>
    intro v h
    cases h with
    | lstN => exact .lstN _
    | lstE => exact .lstE _ _ _ _
    | lst _ h0 _ _ _ _ _ _ _ _ => exact absurd rfl h0
  | trans _ _ ih1 ih2 => exact fun h => ih2 (ih1 h)

end
end Go.Cn
