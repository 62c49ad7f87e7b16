/- How a canonical heap stands to a heap of the model. -/
import Derived.Test.YtfagmflapdgcmaaDoorCnComp
import Derived.Laws.Sem
import Derived.Laws.World
namespace Go.Cn
set_option linter.unusedSimpArgs false
set_option linter.unusedVariables false

/-- Where a canonical row lies: in which block, how far in, how many cells and of what the block has. -/
structure BI where
  B : Nat
  sh : Nat
  N : Nat
  E : TypeId
  /-- may it be written? -/
  wr : Bool

abbrev Ren := Nat → Option BI

inductive VRel (P : Program) (β : Ren) : Value → Value → Prop where
  | bool (b : Bool) : VRel P β (.bool b) (.bool b)
  | int (k : IntKind) (n : Int) : VRel P β (.int k n) (.int k n)
  | float (k : FloatKind) (n : Nat) : VRel P β (.float k n) (.float k n)
  | complex (k : FloatKind) (n m : Nat) : VRel P β (.complex k n m) (.complex k n m)
  | string (s : ByteArray) : VRel P β (.string s) (.string s)
  | nilPtr : VRel P β (.pointer none) (.pointer none)
  | nilSlice : VRel P β (.slice none 0 0) (.slice none 0 0)
  | nilMap : VRel P β (.map none) (.map none)
  | nilChan : VRel P β (.chan none) (.chan none)
  | nilFunc : VRel P β .nilFunc .nilFunc
  | nilIface : VRel P β .nilIface .nilIface
  | ptr {b off : Nat} {i : BI} (h : β b = some i) : VRel P β (.pointer (some ⟨b, off, none⟩)) (.pointer (some ⟨i.B, off + i.sh, none⟩))
  | slice {b off len c c' : Nat} {a' : Addr} (hl : len ≤ c) (hc : c ≤ c')
      (h : c' = 0 ∨ ∃ i, β b = some i ∧ a' = ⟨i.B, off + i.sh, none⟩ ∧ (c' = c ∨ ∃ sz, szOf P i.E = some sz ∧ off + i.sh + c' * sz ≤ i.N)) :
      VRel P β (.slice (some ⟨b, off, none⟩) len c) (.slice (some a') len c')
  | map {r : Nat} {i : BI} (h : β r = some i) : VRel P β (.map (some r)) (.map (some i.B))
  | func {f : FuncId} {a b a' b' : Array Value} (ha : a.size = a'.size) (hb : b.size = b'.size)
      (h : ∀ (j : Nat) (x y : Value), a[j]? = some x → a'[j]? = some y → VRel P β x y) (g : ∀ (j : Nat) (x y : Value), b[j]? = some x → b'[j]? = some y → VRel P β x y) :
      VRel P β (.func (.func f) a b) (.func (.func f) a' b')
  | yield {c : Nat} {i : BI} (h : β c = some i) : VRel P β (.func (.yield c) #[] #[]) (.func (.yield i.B) #[] #[])
  | iface {t : TypeId} {v v' : Value} (h : VRel P β v v') : VRel P β (.iface t v) (.iface t v')
  | agg {a a' : Array Value} (ha : a.size = a'.size) (h : ∀ (j : Nat) (x y : Value), a[j]? = some x → a'[j]? = some y → VRel P β x y) : VRel P β (.agg a) (.agg a')
  | tuple {a a' : Array Value} (ha : a.size = a'.size) (h : ∀ (j : Nat) (x y : Value), a[j]? = some x → a'[j]? = some y → VRel P β x y) : VRel P β (.tuple a) (.tuple a')

def Le (β β' : Ren) : Prop := ∀ b i, β b = some i → β' b = some i

theorem Le.refl (β : Ren) : Le β β := fun _ _ h => h
theorem Le.trans {a b c : Ren} (h : Le a b) (g : Le b c) : Le a c := fun x i e => g x i (h x i e)

theorem VRel.mono {P : Program} {β β' : Ren} (hl : Le β β') {v v' : Value} (h : VRel P β v v') : VRel P β' v v' := by
  induction h with
  | bool b => exact .bool b
  | int k n => exact .int k n
  | float k n => exact .float k n
  | complex k n m => exact .complex k n m
  | string s => exact .string s
  | nilPtr => exact .nilPtr
  | nilSlice => exact .nilSlice
  | nilMap => exact .nilMap
  | nilChan => exact .nilChan
  | nilFunc => exact .nilFunc
  | nilIface => exact .nilIface
  | ptr h => exact .ptr (hl _ _ h)
  | slice hl' hc h =>
    refine .slice hl' hc ?_
    rcases h with h | ⟨i, hi, ha, hs⟩
    · exact .inl h
    · exact .inr ⟨i, hl _ _ hi, ha, hs⟩
  | map h => exact .map (hl _ _ h)
  | func ha hb _ _ ih1 ih2 => exact .func ha hb ih1 ih2
  | yield h => exact .yield (hl _ _ h)
  | iface _ ih => exact .iface ih
  | agg ha _ ih => exact .agg ha ih
  | tuple ha _ ih => exact .tuple ha ih

/-- Lists of values, one by one. -/
def LRel (P : Program) (β : Ren) (l l' : List Value) : Prop := l.length = l'.length ∧ ∀ (j : Nat) (x y : Value), l[j]? = some x → l'[j]? = some y → VRel P β x y

theorem LRel.mono {P : Program} {β β' : Ren} (hl : Le β β') {l l' : List Value} (h : LRel P β l l') : LRel P β' l l' :=
  ⟨h.1, fun j x y a b => (h.2 j x y a b).mono hl⟩
theorem LRel.nil {P : Program} {β : Ren} : LRel P β [] [] := ⟨rfl, fun j x y h => by simp at h⟩
theorem LRel.cons {P : Program} {β : Ren} {v v' : Value} {l l' : List Value} (h : VRel P β v v') (t : LRel P β l l') : LRel P β (v :: l) (v' :: l') := by
  refine ⟨by simp [t.1], fun j x y hx hy => ?_⟩
  cases j with
  | zero => simp at hx hy; subst hx hy; exact h
  | succ j => simp at hx hy; exact t.2 j x y hx hy
theorem LRel.of_cons {P : Program} {β : Ren} {v v' : Value} {l l' : List Value} (h : LRel P β (v :: l) (v' :: l')) : VRel P β v v' ∧ LRel P β l l' :=
  ⟨h.2 0 v v' rfl rfl, by simpa using h.1, fun j x y hx hy => h.2 (j + 1) x y (by simpa using hx) (by simpa using hy)⟩
theorem LRel.left {P : Program} {β : Ren} {l l' : List Value} (h : LRel P β l l') {j : Nat} {x : Value} (hx : l[j]? = some x) : ∃ y, l'[j]? = some y ∧ VRel P β x y := by
  have hj : j < l'.length := by rw [← h.1]; exact (List.getElem?_eq_some_iff.1 hx).1
  exact ⟨l'[j], by simp [hj], h.2 j x _ hx (by simp [hj])⟩
theorem LRel.append {P : Program} {β : Ren} {a a' b b' : List Value} (h : LRel P β a a') (g : LRel P β b b') : LRel P β (a ++ b) (a' ++ b') := by
  refine ⟨by simp [h.1, g.1], fun j x y hx hy => ?_⟩
  by_cases hj : j < a.length
  · rw [List.getElem?_append_left hj] at hx
    rw [List.getElem?_append_left (h.1 ▸ hj)] at hy
    exact h.2 j x y hx hy
  · rw [List.getElem?_append_right (by omega)] at hx
    rw [List.getElem?_append_right (by have := h.1; omega), ← h.1] at hy
    exact g.2 _ x y hx hy
theorem LRel.take {P : Program} {β : Ren} {a a' : List Value} (h : LRel P β a a') (n : Nat) : LRel P β (a.take n) (a'.take n) := by
  refine ⟨by simp [h.1], fun j x y hx hy => ?_⟩
  rw [List.getElem?_take] at hx hy
  split at hx
  · rename_i hj; rw [if_pos hj] at hy; exact h.2 j x y hx hy
  · simp at hx
theorem LRel.drop {P : Program} {β : Ren} {a a' : List Value} (h : LRel P β a a') (n : Nat) : LRel P β (a.drop n) (a'.drop n) := by
  refine ⟨by simp [h.1], fun j x y hx hy => ?_⟩
  rw [List.getElem?_drop] at hx hy
  exact h.2 _ x y hx hy
/-- of two lists that are one by one the same, values without anything that leads anywhere -/
theorem LRel.map {P : Program} {β : Ren} {α : Type} (f g : α → Value) (l : List α) (h : ∀ a ∈ l, VRel P β (f a) (g a)) : LRel P β (l.map f) (l.map g) := by
  induction l with
  | nil => exact .nil
  | cons a l ih => exact .cons (h a (by simp)) (ih fun b hb => h b (by simp [hb]))

theorem VRel.agg_iff {P : Program} {β : Ren} {a a' : Array Value} : VRel P β (.agg a) (.agg a') ↔ LRel P β a.toList a'.toList := by
  constructor
  · intro h
    cases h with
    | agg ha h => exact ⟨by simpa using ha, fun j x y hx hy => h j x y (by simpa using hx) (by simpa using hy)⟩
  · intro h; exact .agg (by simpa using h.1) fun j x y hx hy => h.2 j x y (by simpa using hx) (by simpa using hy)
theorem VRel.tuple_iff {P : Program} {β : Ren} {a a' : Array Value} : VRel P β (.tuple a) (.tuple a') ↔ LRel P β a.toList a'.toList := by
  constructor
  · intro h
    cases h with
    | tuple ha h => exact ⟨by simpa using ha, fun j x y hx hy => h j x y (by simpa using hx) (by simpa using hy)⟩
  · intro h; exact .tuple (by simpa using h.1) fun j x y hx hy => h.2 j x y (by simpa using hx) (by simpa using hy)

theorem VRel.cells {P : Program} {β : Ren} {v v' : Value} (h : VRel P β v v') : LRel P β (cellsOf v) v'.cells.toList := by
  by_cases ha : ∃ a, v = .agg a
  · obtain ⟨a, rfl⟩ := ha
    cases h with
    | agg ha h => exact VRel.agg_iff.1 (.agg ha h)
  · have e : cellsOf v = [v] := by cases v <;> first | rfl | exact absurd ⟨_, rfl⟩ ha
    have e' : v'.cells.toList = [v'] := by cases h <;> first | rfl | exact absurd ⟨_, rfl⟩ ha
    rw [e, e']
    exact .cons h .nil

theorem VRel.oneCell {P : Program} {β : Ren} {v v' : Value} (h : VRel P β v v') (ho : oneCell v = true) : v'.oneCell' = true := by
  cases h <;> first | rfl | cases ho

section inv
variable {P : Program} {β : Ren} {x : Value}
theorem VRel.int_inv {k : IntKind} {n : Int} (h : VRel P β (.int k n) x) : x = .int k n := by cases h; rfl
theorem VRel.bool_inv {b : Bool} (h : VRel P β (.bool b) x) : x = .bool b := by cases h; rfl
theorem VRel.string_inv {s : ByteArray} (h : VRel P β (.string s) x) : x = .string s := by cases h; rfl
theorem VRel.nilPtr_inv (h : VRel P β (.pointer none) x) : x = .pointer none := by cases h; rfl
theorem VRel.nilMap_inv (h : VRel P β (.map none) x) : x = .map none := by cases h; rfl
theorem VRel.nilFunc_inv (h : VRel P β .nilFunc x) : x = .nilFunc := by cases h; rfl
theorem VRel.nilIface_inv (h : VRel P β .nilIface x) : x = .nilIface := by cases h; rfl
theorem VRel.ptr_inv {a : Addr} (h : VRel P β (.pointer (some a)) x) : a.spot = none ∧ ∃ i, β a.block = some i ∧ x = .pointer (some ⟨i.B, a.off + i.sh, none⟩) := by
  cases h with
  | ptr h => exact ⟨rfl, _, h, rfl⟩
theorem VRel.nilSlice_inv {l c : Nat} (h : VRel P β (.slice none l c) x) : l = 0 ∧ c = 0 ∧ x = .slice none 0 0 := by cases h; exact ⟨rfl, rfl, rfl⟩
theorem VRel.slice_inv {a : Addr} {l c : Nat} (h : VRel P β (.slice (some a) l c) x) : a.spot = none ∧ l ≤ c ∧ ∃ a' c', x = .slice (some a') l c' ∧ c ≤ c' ∧
    (c' = 0 ∨ ∃ i, β a.block = some i ∧ a' = ⟨i.B, a.off + i.sh, none⟩ ∧ (c' = c ∨ ∃ sz, szOf P i.E = some sz ∧ a.off + i.sh + c' * sz ≤ i.N)) := by
  cases h with
  | slice hl hc h => exact ⟨rfl, hl, _, _, rfl, hc, h⟩
theorem VRel.map_inv {r : Nat} (h : VRel P β (.map (some r)) x) : ∃ i, β r = some i ∧ x = .map (some i.B) := by
  cases h with
  | map h => exact ⟨_, h, rfl⟩
theorem VRel.func_inv {f : Nat} {a b : Array Value} (h : VRel P β (.func (.func f) a b) x) : ∃ a' b', x = .func (.func f) a' b' ∧ LRel P β a.toList a'.toList ∧ LRel P β b.toList b'.toList := by
  cases h with
  | func ha hb h g => exact ⟨_, _, rfl, VRel.agg_iff.1 (.agg ha h), VRel.agg_iff.1 (.agg hb g)⟩
theorem VRel.fn_inv {fn : Fn} {a b : Array Value} (h : VRel P β (.func fn a b) x) : (∃ f a' b', fn = .func f ∧ x = .func (.func f) a' b' ∧ LRel P β a.toList a'.toList ∧ LRel P β b.toList b'.toList) ∨
    ∃ c i, fn = .yield c ∧ a = #[] ∧ b = #[] ∧ β c = some i ∧ x = .func (.yield i.B) #[] #[] := by
  cases h with
  | func ha hb h g => exact .inl ⟨_, _, _, rfl, rfl, VRel.agg_iff.1 (.agg ha h), VRel.agg_iff.1 (.agg hb g)⟩
  | yield h => exact .inr ⟨_, _, rfl, rfl, rfl, h, rfl⟩
theorem VRel.iface_inv {t : TypeId} {v : Value} (h : VRel P β (.iface t v) x) : ∃ v', x = .iface t v' ∧ VRel P β v v' := by
  cases h with
  | iface h => exact ⟨_, rfl, h⟩
theorem VRel.agg_inv {a : Array Value} (h : VRel P β (.agg a) x) : ∃ a', x = .agg a' ∧ LRel P β a.toList a'.toList := by
  cases h with
  | agg ha h => exact ⟨_, rfl, VRel.agg_iff.1 (.agg ha h)⟩
theorem VRel.tuple_inv {a : Array Value} (h : VRel P β (.tuple a) x) : ∃ a', x = .tuple a' ∧ LRel P β a.toList a'.toList := by
  cases h with
  | tuple ha h => exact ⟨_, rfl, VRel.tuple_iff.1 (.tuple ha h)⟩
end inv

theorem VRel.undef {P : Program} {β : Ren} : VRel P β cundef (.tuple #[]) := .tuple rfl fun j x y h => by simp at h

/-- no cell of the row is frozen; and a row of which anything is, is one of bytes -/
def Soft (P : Program) (E : TypeId) (n : Nat) (fr : Nat × Nat) : Prop := fr = (0, 0) ∨ (n ≤ fr.1 ∧ P.underlying E = some (.int .u8))
theorem Soft.cells {P : Program} {E : TypeId} {n : Nat} {fr : Nat × Nat} (h : Soft P E n fr) : ∀ k, k < n → (fr.1 ≤ k && k < fr.2) = false := by
  intro k hk
  rcases h with rfl | ⟨h, _⟩
  · simp
  · have : ¬ fr.1 ≤ k := by omega
    simp [this]

inductive ERel (P : Program) (β : Ren) : List (Value × Value) → List MapEntry → Prop where
  | nil : ERel P β [] []
  | cons {k v : Value} {e : MapEntry} {l : List (Value × Value)} {l' : List MapEntry} (hk : e.key = k) (hv : VRel P β v e.val) (t : ERel P β l l') : ERel P β ((k, v) :: l) (e :: l')

theorem ERel.mono {P : Program} {β β' : Ren} (hl : Le β β') {l : List (Value × Value)} {l' : List MapEntry} (h : ERel P β l l') : ERel P β' l l' := by
  induction h with
  | nil => exact .nil
  | cons hk hv _ ih => exact .cons hk (hv.mono hl) ih

def KeysOk (es : List (Value × Value)) : Prop := es.Pairwise fun x y => keyEq x.1 y.1 = some false

/-- entries as they were laid in: each at another time -/
def Born (es' : Array MapEntry) (clock : Nat) : Prop := (∀ e ∈ es'.toList, e.born < clock) ∧ (es'.toList.map (·.born)).Nodup

def MapRel (P : Program) (β : Ren) (es : List (Value × Value)) (es' : Array MapEntry) : Prop := KeysOk es ∧ ∃ l, es'.toList.Perm l ∧ ERel P β es l

/-- the way out that is wanted, as code -/
def outCode : CExit → Code
  | .normal => .skip
  | .exit id => .exit id
  | .ret => .ret

structure LoopRel (P : Program) (β : Ren) (st : LoopState) (fr : Fr) (ps : List Tmp) (as body : CCode) (pend : Option CExit) (L : Loop) : Prop where
  state : L.state = st
  params : L.params.toList = ps
  rel : ∀ t, VRel P β (fr t) (L.tmps.getD t undef)
  code : ∃ n, n ≤ L.tmps.size ∧ compCode P n L.assign = as ∧ compCode P n L.body = body ∧ flat L.assign = true ∧ flat L.body = true ∧ ∀ p ∈ ps, p < n
  pend : L.pending = pend.map outCode

def ObjRel (P : Program) (β : Ren) (i : BI) : CObj → Option Obj → Prop
  | .dead, _ => True
  | .cells c E _ _, some (.cells c' E' fr) => E = i.E ∧ E' = i.E ∧ c'.size = i.N ∧ c.length + i.sh ≤ i.N ∧ (i.wr = true → Soft P i.E i.N fr) ∧
      ∀ k v, c[k]? = some v → ∃ v', c'[k + i.sh]? = some v' ∧ VRel P β v v'
  | .map es _, some (.map es' clock) => MapRel P β es es' ∧ Born es' clock
  | .iter m _ _, some (.mapIter m' _ _ _) => i.sh = 0 ∧ m.isSome = m'.isSome
  | .loop st fr ps as body pend, some (.loop L) => LoopRel P β st fr ps as body pend L
  | _, _ => False

theorem LoopRel.mono {P : Program} {β β' : Ren} (hl : Le β β') {st : LoopState} {fr : Fr} {ps : List Tmp} {as body : CCode} {pend : Option CExit} {L : Loop} (h : LoopRel P β st fr ps as body pend L) : LoopRel P β' st fr ps as body pend L :=
  ⟨h.state, h.params, fun t => (h.rel t).mono hl, h.code, h.pend⟩

theorem ObjRel.mono {P : Program} {β β' : Ren} (hl : Le β β') {i : BI} {o : CObj} {o' : Option Obj} (h : ObjRel P β i o o') : ObjRel P β' i o o' := by
  cases o with
  | dead => trivial
  | cells c E cl rel =>
    cases o' with
    | none => exact h.elim
    | some o' =>
      cases o' <;> first | exact h.elim | skip
      obtain ⟨a, b, c, d, e, f⟩ := h
      exact ⟨a, b, c, d, e, fun k v hk => let ⟨v', x, y⟩ := f k v hk; ⟨v', x, y.mono hl⟩⟩
  | map es ver =>
    cases o' with
    | none => exact h.elim
    | some o' =>
      cases o' <;> first | exact h.elim | skip
      obtain ⟨⟨a, l, b, c⟩, d⟩ := h
      exact ⟨⟨a, l, b, c.mono hl⟩, d⟩
  | iter m ver seen =>
    cases o' with
    | none => exact h.elim
    | some o' => cases o' <;> first | exact h.elim | exact h
  | loop st fr ps as body pend =>
    cases o' with
    | none => exact h.elim
    | some o' =>
      cases o' <;> first | exact h.elim | skip
      exact LoopRel.mono hl h

/-- an iterator's keys, and what the model keeps of them -/
def IterMap (seen : List Value) (seen' : Array Nat) (es' : Array MapEntry) (since : Nat) : Prop :=
  (∀ e ∈ es'.toList, e.born < since) ∧ ∃ L : List MapEntry, (∀ e ∈ L, e ∈ es'.toList) ∧ L.map (·.key) = seen ∧ L.map (·.born) = seen'.toList.reverse

def IterOk (β : Ren) (σ : CW) (w : World) (ir : BI) (m ver : Nat) (seen : List Value) : Prop :=
  ∃ im since seen' last, β m = some im ∧ w.heap[ir.B]? = some (.mapIter (some im.B) since seen' last) ∧ since ≤ last ∧ m < σ.next ∧
    ∀ es v0, σ.heap m = some (.map es v0) → ver ≤ v0 ∧ (v0 = ver → ∃ es' clock, w.heap[im.B]? = some (.map es' clock) ∧ last = clock ∧ IterMap seen seen' es' since)

/-- every iterator is right -/
def Iters (β : Ren) (σ : CW) (w : World) : Prop := ∀ r ir m ver seen, β r = some ir → σ.heap r = some (.iter (some m) ver seen) → IterOk β σ w ir m ver seen

def isMI : CObj → Bool
  | .map _ _ => true
  | .iter _ _ _ => true
  | _ => false
def isIter : CObj → Bool
  | .iter _ _ _ => true
  | _ => false
def isMIo : Obj → Bool
  | .map _ _ => true
  | .mapIter _ _ _ _ => true
  | _ => false

theorem Iters.keep {β β' : Ren} {σ σ' : CW} {w w' : World} (h : Iters β σ w) (hl : Le β β') (hn : σ.next ≤ σ'.next) (hβ : ∀ b i, β' b = some i → β b = some i ∨ ∀ o, σ'.heap b = some o → isIter o = false)
    (hσ : ∀ b i o, β b = some i → σ'.heap b = some o → isMI o = true → σ.heap b = some o) (hw : ∀ b i o, β b = some i → w.heap[i.B]? = some o → isMIo o = true → w'.heap[i.B]? = some o) : Iters β' σ' w' := by
  intro r ir m ver seen hr ho
  rcases hβ r ir hr with h1 | h1
  · obtain ⟨im, since, seen', last, a1, a2, a3, a4, a5⟩ := h r ir m ver seen h1 (hσ r ir _ h1 ho rfl)
    refine ⟨im, since, seen', last, hl _ _ a1, hw r ir _ h1 a2 rfl, a3, Nat.lt_of_lt_of_le a4 hn, fun es v0 hm => ?_⟩
    obtain ⟨b1, b2⟩ := a5 es v0 (hσ m im _ a1 hm rfl)
    refine ⟨b1, fun e => ?_⟩
    obtain ⟨es', clock, c1, c2⟩ := b2 e
    exact ⟨es', clock, hw m im _ a1 c1 rfl, c2⟩
  · have := h1 _ ho; cases this

/-- Two canonical rows that lie in one block. -/
def AliasOk (σ : CW) (b1 b2 : Nat) (i1 i2 : BI) : Prop :=
  (b1 < σ.ro ↔ b2 < σ.ro) ∧
  match σ.heap b1, σ.heap b2 with
  | some .dead, _ => True
  | _, some .dead => True
  | some (.cells _ _ c1 r1), some (.cells _ _ c2 r2) => (b1 < σ.ro ∧ ((σ.inj ≤ b1 ∧ σ.inj ≤ b2) ∨ i1.sh ≠ i2.sh)) ∨ (σ.ro ≤ b1 ∧ c1 = c2 ∧ i1.sh + r2 = i2.sh + r1)
  | _, _ => False

structure CInv (σ : CW) : Prop where
  fresh : ∀ b, σ.next ≤ b → σ.heap b = none
  mem : ∀ b c E cl rel, σ.heap b = some (.cells c E cl rel) → (b, rel + c.length) ∈ σ.members cl ∧ cl < σ.next
  cls : ∀ c l, σ.cls c = some l → c < σ.next ∧ ∀ m ∈ l, σ.ro ≤ m.1 ∧ m.1 < σ.next
  rol : σ.ro ≤ σ.next

structure Rel (P : Program) (β : Ren) (σ : CW) (w : World) : Prop where
  inv : CInv σ
  lt : ∀ b i, β b = some i → b < σ.next ∧ i.B < w.heap.size
  obj : ∀ b i o, β b = some i → σ.heap b = some o → ObjRel P β i o w.heap[i.B]?
  alias : ∀ b1 b2 i1 i2, b1 ≠ b2 → β b1 = some i1 → β b2 = some i2 → i1.B = i2.B → AliasOk σ b1 b2 i1 i2
  here : ∀ b i, β b = some i → ∃ o, σ.heap b = some o
  iters : Iters β σ w
  wr : (∀ b, b < σ.inj → ∃ i, β b = some i ∧ P.underlying i.E ≠ some (.int .u8)) ∧ ∀ b i, β b = some i → (σ.ro ≤ b ∨ b < σ.inj) → i.wr = true

/-- What a part of a run leaves. -/
structure Stp (P : Program) (β : Ren) (σ : CW) (w : World) (β' : Ren) (σ' : CW) (w' : World) : Prop where
  le : Le β β'
  new : ∀ b i, β' b = some i → β b = some i ∨ (σ.next ≤ b ∧ ((∃ b0 i0, β b0 = some i0 ∧ σ.ro ≤ b0 ∧ i0.B = i.B) ∨ w.heap.size ≤ i.B))
  next : σ.next ≤ σ'.next
  ro : σ'.ro = σ.ro
  inj : σ'.inj = σ.inj
  cfr : ∀ b, b < σ.next → β b = none → σ'.heap b = σ.heap b ∨ σ'.heap b = some .dead
  size : w.heap.size ≤ w'.heap.size
  afr : ∀ B, B < w.heap.size → (∀ b i, β b = some i → σ.ro ≤ b → i.B ≠ B) → w'.heap[B]? = w.heap[B]?
  os : w'.os = w.os
  out : w'.output = w.output
  tape : w'.tape = w.tape
  rel : Rel P β' σ' w'

theorem Stp.trans {P : Program} {β β1 β2 : Ren} {σ σ1 σ2 : CW} {w w1 w2 : World} (h : Stp P β σ w β1 σ1 w1) (g : Stp P β1 σ1 w1 β2 σ2 w2) (hr : Rel P β σ w) : Stp P β σ w β2 σ2 w2 where
  le := h.le.trans g.le
  new := by
    intro b i hb
    rcases g.new b i hb with h1 | ⟨hn, h1⟩
    · exact h.new b i h1
    · refine .inr ⟨Nat.le_trans h.next hn, ?_⟩
      rcases h1 with ⟨b0, i0, hb0, hro, hB⟩ | h1
      · rcases h.new b0 i0 hb0 with h2 | ⟨_, h2⟩
        · exact .inl ⟨b0, i0, h2, h.ro ▸ hro, hB⟩
        · rcases h2 with ⟨b3, i3, hb3, hro3, hB3⟩ | h2
          · exact .inl ⟨b3, i3, hb3, hro3, hB3.trans hB⟩
          · exact .inr (hB ▸ h2)
      · exact .inr (Nat.le_trans h.size h1)
  next := Nat.le_trans h.next g.next
  ro := g.ro.trans h.ro
  inj := g.inj.trans h.inj
  cfr := by
    intro b hb hn
    have hn1 : β1 b = none := by
      cases e : β1 b with
      | none => rfl
      | some i =>
        rcases h.new b i e with h1 | ⟨h1, _⟩
        · rw [hn] at h1; cases h1
        · omega
    rcases g.cfr b (Nat.lt_of_lt_of_le hb h.next) hn1 with h1 | h1
    · rw [h1]; exact h.cfr b hb hn
    · exact .inr h1
  size := Nat.le_trans h.size g.size
  afr := by
    intro B hB hne
    rw [g.afr B (Nat.lt_of_lt_of_le hB h.size) ?_]
    · exact h.afr B hB hne
    · intro b i hb hro
      rw [h.ro] at hro
      rcases h.new b i hb with h1 | ⟨_, h1⟩
      · exact hne b i h1 hro
      · rcases h1 with ⟨b0, i0, hb0, hro0, hB0⟩ | h1
        · rw [← hB0]; exact hne b0 i0 hb0 hro0
        · omega
  os := g.os.trans h.os
  out := g.out.trans h.out
  tape := g.tape.trans h.tape
  rel := g.rel

/-- A world in which nothing has turned but the draws. -/
theorem Rel.heap {P : Program} {β : Ren} {σ : CW} {w w' : World} (h : Rel P β σ w) (e : w'.heap = w.heap) : Rel P β σ w' :=
  ⟨h.inv, by rw [e]; exact h.lt, by rw [e]; exact h.obj, h.alias, h.here, h.iters.keep (.refl _) (Nat.le_refl _) (fun _ _ h => .inl h) (fun _ _ _ _ h _ => h) (fun _ _ _ _ h _ => by rw [e]; exact h), h.wr⟩

theorem Stp.same {P : Program} {β : Ren} {σ : CW} {w w' : World} (h : Rel P β σ w) (e : w'.heap = w.heap) (ho : w'.os = w.os) (hu : w'.output = w.output) (ht : w'.tape = w.tape) : Stp P β σ w β σ w' where
  le := .refl _
  new := fun _ _ h => .inl h
  next := Nat.le_refl _
  ro := rfl
  inj := rfl
  cfr := fun _ _ _ => .inl rfl
  size := by rw [e]; exact Nat.le_refl _
  afr := fun _ _ _ => by rw [e]
  os := ho
  out := hu
  tape := ht
  rel := h.heap e

theorem Stp.refl {P : Program} {β : Ren} {σ : CW} {w : World} (h : Rel P β σ w) : Stp P β σ w β σ w := .same h rfl rfl rfl rfl

end Go.Cn
