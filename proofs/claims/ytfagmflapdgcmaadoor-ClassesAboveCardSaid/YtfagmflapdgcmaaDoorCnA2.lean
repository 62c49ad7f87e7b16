/- What is known of memory; operations that only read. -/
import Derived.Test.YtfagmflapdgcmaaDoorCnA1
namespace Go.Cn
set_option linter.unusedVariables false
set_option linter.unusedSimpArgs false

abbrev AFr := Nat → AV

/-- What is known of a block: cells that are written by what is known alone; a program's own; a map; an iterator: what it has not handed out, what it handed out last; a range over a function under way. -/
inductive AO where
  | cells (cs : List AV) (E : TypeId)
  | stat (cs : List AV) (E : TypeId)
  | map (es : List (AV × AV))
  | iter (todo : List (AV × AV)) (cur : Option (AV × AV))
  | loop (st : LoopState) (fr : AFr) (frC : Fr) (ps : List Tmp) (as body : CCode) (pend : Option CExit)

/-- The end of a class: its row, where the row begins, the end, the end of the row's cells, cells of an element, its type. -/
structure Tok where
  cur : Nat
  rel : Nat
  p : Nat
  cp : Nat
  sz : Nat
  E : TypeId

structure AH where
  objs : Nat → Option AO
  toks : Nat → Option Tok

def AH.set (h : AH) (b : Nat) (o : AO) : AH := { h with objs := upd h.objs b (some o) }
def AH.del (h : AH) (b : Nat) : AH := { h with objs := upd h.objs b none }
def AH.setT (h : AH) (c : Nat) (k : Tok) : AH := { h with toks := upd h.toks c (some k) }

@[simp] theorem AH.set_toks (h : AH) (b : Nat) (o : AO) : (h.set b o).toks = h.toks := rfl
@[simp] theorem AH.del_toks (h : AH) (b : Nat) : (h.del b).toks = h.toks := rfl
@[simp] theorem AH.setT_objs (h : AH) (c : Nat) (k : Tok) : (h.setT c k).objs = h.objs := rfl
theorem AH.set_objs (h : AH) (b : Nat) (o : AO) (n : Nat) : (h.set b o).objs n = if n = b then some o else h.objs n := rfl
theorem AH.del_objs (h : AH) (b n : Nat) : (h.del b).objs n = if n = b then none else h.objs n := rfl
theorem AH.setT_toks (h : AH) (c : Nat) (k : Tok) (n : Nat) : (h.setT c k).toks n = if n = c then some k else h.toks n := rfl
@[simp] theorem AH.set_same (h : AH) (b : Nat) (o : AO) : (h.set b o).objs b = some o := by simp [AH.set_objs]
theorem AH.set_ne (h : AH) {b n : Nat} (o : AO) (hn : n ≠ b) : (h.set b o).objs n = h.objs n := by rw [AH.set_objs, if_neg hn]
@[simp] theorem AH.set_set (h : AH) (b : Nat) (o o' : AO) : (h.set b o).set b o' = h.set b o' := by
  unfold AH.set
  congr 1
  funext n; simp only [upd]; split <;> rfl
theorem AH.set_del (h : AH) {b : Nat} (o : AO) (hb : h.objs b = none) : (h.set b o).del b = h := by
  obtain ⟨objs, toks⟩ := h
  unfold AH.set AH.del
  congr 1
  funext n; simp only [upd]
  split
  · rename_i e; rw [e]; exact hb.symm
  · rfl

def EntR (F : Nat → Nat) (σ : CW) (es : List (AV × AV)) (es' : List (Value × Value)) : Prop :=
  es.length = es'.length ∧ ∀ (i : Nat) (p : AV × AV) (q : Value × Value), es[i]? = some p → es'[i]? = some q → keyV p.1 = some q.1 ∧ Rp F σ p.2 q.2

theorem EntR.ext {K : Nat → Prop} {F F' : Nat → Nat} {σ σ' : CW} (hx : Ext K F σ F' σ') {es : List (AV × AV)} {es' : List (Value × Value)} (h : EntR F σ es es') : EntR F' σ' es es' :=
  ⟨h.1, fun i p q hp hq => ⟨(h.2 i p q hp hq).1, (h.2 i p q hp hq).2.ext hx⟩⟩

/-- a map's keys: each is like itself, and like no other -/
def KeysIt (es : List (Value × Value)) : Prop := (∀ e ∈ es, keyEq e.1 e.1 = some true) ∧ es.Pairwise fun a b => keyEq a.1 b.1 = some false

def AOk (F : Nat → Nat) (σ : CW) (b : Nat) : AO → Prop
  | .cells cs E => F b = 0 ∧ σ.ro ≤ b ∧ ∃ c cl rel, σ.heap b = some (.cells c E cl rel) ∧ RpL F σ cs c ∧ ∃ e l, σ.members cl = (b, e) :: l ∧ ∀ m ∈ l, F m.1 = 0
  | .stat cs E => b < σ.ro ∧ b < σ.inj ∧ ∃ c cl rel, σ.heap b = some (.cells c E cl rel) ∧ F b = c.length ∧ 0 < c.length ∧ RpL F σ cs c
  | .map es => F b = 0 ∧ σ.ro ≤ b ∧ ∃ es' ver, σ.heap b = some (.map es' ver) ∧ EntR F σ es es'
  | .iter todo cur => F b = 0 ∧ σ.ro ≤ b ∧ ((∃ ver seen, σ.heap b = some (.iter none ver seen) ∧ todo = [] ∧ cur = none) ∨
      ∃ m ver seen es', σ.heap b = some (.iter (some m) ver seen) ∧ σ.heap m = some (.map es' ver) ∧ 0 < F m ∧ KeysIt es' ∧ EntR F σ todo (leftL seen es') ∧
        ∀ k x, cur = some (k, x) → ∃ k' l x', seen = k' :: l ∧ keyV k = some k' ∧ look k' es' = some (some x') ∧ Rp F σ x x')
  | .loop st fr frC ps as body pend => F b = 0 ∧ σ.ro ≤ b ∧ σ.heap b = some (.loop st frC ps as body pend) ∧ ∀ t, Rp F σ (fr t) (frC t)

/-- the class 'c' may be appended to at its end -/
structure TokOk (F : Nat → Nat) (σ : CW) (c : Nat) (k : Tok) : Prop where
  ro : σ.ro ≤ k.cur
  row : ∃ cc, σ.heap k.cur = some (.cells cc k.E c k.rel) ∧ k.rel + cc.length = k.cp
  fro : k.rel + F k.cur ≤ k.p
  le : k.p ≤ k.cp
  others : ∀ b cc E rel, b ≠ k.cur → 0 < F b → σ.heap b = some (.cells cc E c rel) → rel + cc.length ≤ k.p

/-- what stands in a class' list are its rows -/
def MInv (σ : CW) : Prop := ∀ cl m, m ∈ σ.members cl → (∃ c E rel, σ.heap m.1 = some (.cells c E cl rel) ∧ m.2 = rel + c.length) ∨ σ.heap m.1 = some .dead ∨
  (σ.cls cl = none ∧ m.1 = cl ∧ ∃ c E cl' rel, σ.heap cl = some (.cells c E cl' rel) ∧ cl' ≠ cl)

structure AR (F : Nat → Nat) (h : AH) (σ : CW) : Prop where
  inv : CInv σ
  mem : MInv σ
  fro : ∀ b, 0 < F b → ∃ o, σ.heap b = some o ∧ ((∃ c E cl rel, o = .cells c E cl rel ∧ F b ≤ c.length) ∨ ∃ es v, o = .map es v)
  obj : ∀ b o, h.objs b = some o → AOk F σ b o
  tok : ∀ c k, h.toks c = some k → TokOk F σ c k
  sep : ∀ b o, h.objs b = some o → h.toks b = none
  own : ∀ b cs E, h.objs b = some (.cells cs E) → ∀ c E' cl rel, σ.heap b = some (.cells c E' cl rel) → h.toks cl = none

def isAStat : AO → Bool
  | .stat _ _ => true
  | _ => false

theorem AOk.heap {F : Nat → Nat} {σ : CW} {b : Nat} {o : AO} (h : AOk F σ b o) : ∃ x, σ.heap b = some x := by
  cases o with
  | cells cs E => obtain ⟨_, _, c, _, _, h, _⟩ := h; exact ⟨_, h⟩
  | stat cs E => obtain ⟨_, _, c, cl, rel, h, _⟩ := h; exact ⟨_, h⟩
  | map es => obtain ⟨_, _, es', v, h, _⟩ := h; exact ⟨_, h⟩
  | iter todo cur => obtain ⟨_, _, ⟨_, _, h, _⟩ | ⟨_, _, _, _, h, _⟩⟩ := h <;> exact ⟨_, h⟩
  | loop st fr frC ps as body pend => obtain ⟨_, _, h, _⟩ := h; exact ⟨_, h⟩
theorem heap_next {σ : CW} (hi : CInv σ) {b : Nat} {o : CObj} (h : σ.heap b = some o) : b < σ.next := by
  rcases Nat.lt_or_ge b σ.next with h1 | h1
  · exact h1
  · rw [hi.fresh b h1] at h; cases h
theorem AR.lt {F : Nat → Nat} {h : AH} {σ : CW} (hA : AR F h σ) {b : Nat} {o : AO} (hb : h.objs b = some o) : b < σ.next := by
  obtain ⟨x, hx⟩ := (hA.obj b o hb).heap
  exact heap_next hA.inv hx
theorem AR.flt {F : Nat → Nat} {h : AH} {σ : CW} (hA : AR F h σ) {b : Nat} (hb : 0 < F b) : b < σ.next := by
  obtain ⟨x, hx, _⟩ := hA.fro b hb
  exact heap_next hA.inv hx
theorem AR.fnext {F : Nat → Nat} {h : AH} {σ : CW} (hA : AR F h σ) : F σ.next = 0 := by
  rcases Nat.eq_zero_or_pos (F σ.next) with h1 | h1
  · exact h1
  · have := hA.flt h1; omega
theorem AR.onext {F : Nat → Nat} {h : AH} {σ : CW} (hA : AR F h σ) : h.objs σ.next = none := by
  cases e : h.objs σ.next with
  | none => rfl
  | some o => have := hA.lt e; omega
theorem AR.tlt {F : Nat → Nat} {h : AH} {σ : CW} (hA : AR F h σ) {c : Nat} {k : Tok} (hc : h.toks c = some k) : c < σ.next ∧ k.cur < σ.next := by
  obtain ⟨cc, h1, _⟩ := (hA.tok c k hc).row
  exact ⟨(hA.inv.mem _ _ _ _ _ h1).2, heap_next hA.inv h1⟩
theorem AR.tnext {F : Nat → Nat} {h : AH} {σ : CW} (hA : AR F h σ) : h.toks σ.next = none := by
  cases e : h.toks σ.next with
  | none => rfl
  | some o => have := (hA.tlt e).1; omega

/-- less is known -/
def AH.le (h0 h : AH) : Prop := (∀ b o, h0.objs b = some o → h.objs b = some o) ∧ ∀ c k, h0.toks c = some k → h.toks c = some k
theorem AH.le_refl (h : AH) : h.le h := ⟨fun _ _ h => h, fun _ _ h => h⟩
theorem AH.le_trans {a b c : AH} (h : a.le b) (g : b.le c) : a.le c := ⟨fun n o e => g.1 n o (h.1 n o e), fun n o e => g.2 n o (h.2 n o e)⟩
theorem AR.drop {F : Nat → Nat} {h0 h : AH} {σ : CW} (hA : AR F h σ) (hl : h0.le h) : AR F h0 σ := by
  have key : ∀ n, h.toks n = none → h0.toks n = none := by
    intro n hn
    cases e : h0.toks n with
    | none => rfl
    | some k => rw [hl.2 n k e] at hn; cases hn
  exact ⟨hA.inv, hA.mem, hA.fro, fun b o hb => hA.obj b o (hl.1 b o hb), fun c k hc => hA.tok c k (hl.2 c k hc), fun b o hb => key _ (hA.sep b o (hl.1 b o hb)), fun b cs E hb c E' cl rel hc => key _ (hA.own b cs E (hl.1 b _ hb) c E' cl rel hc)⟩

-- values out of constants ---------------------------------------------------------------------------
def ofC1 : Value → AV
  | .bool b => .bool b
  | .int k n => .int k n
  | .string s => .str s.data.toList
  | .pointer none => .nilp
  | .slice none 0 0 => .lst 0 [] .nil
  | .map none => .nilm
  | .nilFunc => .nilf
  | .nilIface => .nili
  | _ => .any
def ofC : Value → AV
  | .agg cs => .agg (cs.toList.map ofC1)
  | .tuple cs => .tuple (cs.toList.map ofC1)
  | v => ofC1 v

theorem ofC1_rp (F : Nat → Nat) (σ : CW) (v : Value) : Rp F σ (ofC1 v) v := by
  unfold ofC1
  split <;> constructor
theorem ofC_rp (F : Nat → Nat) (σ : CW) (v : Value) : Rp F σ (ofC v) v := by
  unfold ofC
  split
  · refine .agg (by simp) fun i x y hx hy => ?_
    simp only [List.getElem?_map, Array.getElem?_toList, hy, Option.map_some, Option.some.injEq] at hx
    subst hx; exact ofC1_rp F σ y
  · refine .tuple (by simp) fun i x y hx hy => ?_
    simp only [List.getElem?_map, Array.getElem?_toList, hy, Option.map_some, Option.some.injEq] at hx
    subst hx; exact ofC1_rp F σ y
  · exact ofC1_rp F σ v

def evA (fr : AFr) : Operand → AV
  | .tmp t => fr t
  | .const v => ofC v
  | .global g => .ptr g 0
  | .func f => .func f [] []

theorem evA_rp {F : Nat → Nat} {σ : CW} {fr : AFr} {frC : Fr} (h : ∀ t, Rp F σ (fr t) (frC t)) (x : Operand) : Rp F σ (evA fr x) (ev frC x) := by
  cases x with
  | tmp t => exact h t
  | const v => exact ofC_rp F σ v
  | global g => exact .ptr g 0
  | func f => exact .func rfl rfl (fun i x y h => by simp at h) (fun i x y h => by simp at h)

-- operations ----------------------------------------------------------------------------------------
def binI (op : BinOp) (k : IntKind) (a b : Int) : Option AV :=
  match op with
  | .add => some (.int k (k.wrap (a + b)))
  | .sub => some (.int k (k.wrap (a - b)))
  | .mul => some (.int k (k.wrap (a * b)))
  | .quo => if b = 0 then none else some (.int k (k.wrap (a.tdiv b)))
  | .rem => if b = 0 then none else some (.int k (a.tmod b))
  | .eql => some (.bool (decide (a = b)))
  | .neq => some (.bool (!decide (a = b)))
  | .lss => some (.bool (decide (a < b)))
  | .leq => some (.bool (decide (a ≤ b)))
  | .gtr => some (.bool (decide (b < a)))
  | .geq => some (.bool (decide (b ≤ a)))
  | _ => none
/-- which of two texts stands ahead -/
def ltS : List UInt8 → List UInt8 → Bool := Op.bytesLess
def binS (op : BinOp) (a b : List UInt8) : Option AV :=
  match op with
  | .add => if a.length + b.length < 2 ^ 62 then some (.str (a ++ b)) else none
  | .eql => some (.bool (decide (a = b)))
  | .neq => some (.bool (!decide (a = b)))
  | .lss => some (.bool (ltS a b))
  | .leq => some (.bool (ltS a b || decide (a = b)))
  | .gtr => some (.bool (!(ltS a b || decide (a = b))))
  | .geq => some (.bool (!ltS a b))
  | _ => none
def binA (op : BinOp) : AV → AV → Option AV
  | .int j a, .int k b => if j = k then binI op j a b else none
  | .str a, .str b => binS op a b
  | _, _ => none

def isNilA (c : Value) : AV → Option Bool
  | .nilp => match c with | .pointer none => some true | _ => none
  | .ptr _ _ => match c with | .pointer none => some false | _ => none
  | .rptr _ => match c with | .pointer none => some false | _ => none
  | .lst _ [] .nil => match c with | .slice none _ _ => some true | _ => none
  | .lst _ [] (.own _ _ _ _ _ _) => match c with | .slice none _ _ => some false | _ => none
  | .lst _ (_ :: _) _ => match c with | .slice none _ _ => some false | _ => none
  | .slice _ _ _ _ => match c with | .slice none _ _ => some false | _ => none
  | .nilm => match c with | .map none => some true | _ => none
  | .map _ => match c with | .map none => some false | _ => none
  | .fmap (_ :: _) => match c with | .map none => some false | _ => none
  | .nilf => match c with | .nilFunc => some true | _ => none
  | .func _ _ _ => match c with | .nilFunc => some false | _ => none
  | .yield _ => match c with | .nilFunc => some false | _ => none
  | .nili => match c with | .nilIface => some true | _ => none
  | .iface _ _ => match c with | .nilIface => some false | _ => none
  | _ => none

def byteA : AV → Option UInt8
  | .int .u8 n => some (UInt8.ofNat n.toNat)
  | _ => none
def bytesA : List AV → Option (List UInt8)
  | [] => some []
  | a :: l => match byteA a, bytesA l with
    | some b, some r => some (b :: r)
    | _, _ => none

def bndA (d y : Nat) : Option AV → Option Nat
  | none => some d
  | some (.int _ i) => if 0 ≤ i ∧ i ≤ y then some i.toNat else none
  | some _ => none

def keyEqA : AV → AV → Option Bool
  | .str a, .str b => some (decide (a = b))
  | .int j a, .int k b => if j = k then some (decide (a = b)) else none
  | _, _ => none
def lookA (k : AV) : List (AV × AV) → Option (Option AV)
  | [] => some none
  | (k', v) :: l => match keyEqA k k' with
    | some true => some (some v)
    | some false => lookA k l
    | none => none
def isKeyA (str : Bool) : AV → Bool
  | .str _ => str
  | .int _ _ => !str
  | _ => false
def entA (h : AH) : AV → Option (List (AV × AV))
  | .nilm => some []
  | .fmap es => some es
  | .map b => match h.objs b with
    | some (.map es) => some es
    | _ => none
  | _ => none

def cellAt (h : AH) (b : Nat) : Option (List AV) :=
  match h.objs b with
  | some (.cells cs _) => some cs
  | some (.stat cs _) => some cs
  | _ => none
def elemAt (h : AH) (b : Nat) : Option TypeId :=
  match h.objs b with
  | some (.cells _ E) => some E
  | some (.stat _ E) => some E
  | _ => none
def takeA (l : List AV) (i n : Nat) : Option (List AV) := if i + n ≤ l.length then some ((l.drop i).take n) else none
def putA (l : List AV) (i : Nat) (vs : List AV) : Option (List AV) := if i + vs.length ≤ l.length then some (l.take i ++ vs ++ l.drop (i + vs.length)) else none
def isAny : AV → Bool
  | .any => true
  | _ => false
def fillA (cells : List AV) : List (Nat × Nat × AV) → Option (List AV)
  | [] => some cells
  | (off, size, v) :: rest => if isAny v = false ∧ (cellsA v).length = size then match putA cells off (cellsA v) with
      | some cells' => fillA cells' rest
      | none => none
    else none

/-- two blocks that are told apart -/
def apartA (h : AH) (u8 : List TypeId) (a b : Nat) : Bool :=
  match h.objs a, h.objs b with
  | some (.cells _ E), some (.cells _ E') => !u8.contains E && !u8.contains E'
  | some (.stat _ _), some (.stat _ _) => true
  | _, _ => false
def isPtrA : AV → Bool
  | .ptr _ _ => true
  | .rptr _ => true
  | _ => false
def eqIA (h : AH) (ok u8 : List TypeId) : AV → AV → Option Bool
  | .nili, .iface _ _ => some false
  | .iface _ _, .nili => some false
  | .iface t v, .iface u w => if t = u then match v, w with
      | .ptr a x, .ptr b y => if ok.contains t = true then (if a = b then some (decide (x = y)) else if apartA h u8 a b = true ∧ x = 0 ∧ y = 0 then some false else none) else none
      | _, _ => none
    else if isPtrA v && isPtrA w then some false else none
  | _, _ => none

def pevA (o : POp) (ρ : Operand → AV) (h : AH) : Option AV :=
  match o with
  | .mov x => some (ρ x)
  | .pick c a b => match ρ c with
    | .bool t => some (if t then ρ a else ρ b)
    | _ => none
  | .nilck x => match ρ x with
    | .rptr cs => some (.rptr cs)
    | .ptr b o => some (.ptr b o)
    | .func f a b => some (.func f a b)
    | .iface t v => some (.iface t v)
    | _ => none
  | .bin op x y => binA op (ρ x) (ρ y)
  | .beq neg x y => match ρ x, ρ y with
    | .bool a, .bool b => some (.bool (if neg then !(a == b) else a == b))
    | _, _ => none
  | .isnil neg c x => match isNilA c (ρ x) with
    | some b => some (.bool (if neg then !b else b))
    | none => none
  | .un op x => match op, ρ x with
    | .not, .bool b => some (.bool !b)
    | .neg, .int k n => some (.int k (k.wrap (0 - n)))
    | _, _ => none
  | .i2i k x => match ρ x with
    | .int _ n => some (.int k (k.wrap n))
    | _ => none
  | .i2s x => match ρ x with
    | .int _ n => some (.str (Utf8.encode n).data.toList)
    | _ => none
  | .s2s x => match ρ x with
    | .str s => some (.str s)
    | _ => none
  | .b2s x => match ρ x with
    | .lst _ [] .nil => some (.str [])
    | .lst _ (e :: es) _ => match bytesA (e :: es).flatten with
      | some l => if (e :: es).flatten.length = es.length + 1 then some (.str l) else none
      | none => none
    | .slice b off n _ => match cellAt h b with
      | some cs => match takeA cs off n with
        | some l => match bytesA l with
          | some r => some (.str r)
          | none => none
        | none => none
      | none => none
    | _ => none
  | .mkif t x => some (.iface t (ρ x))
  | .mkfn f first captured => some (.func f (first.map ρ) (captured.map ρ))
  | .slS x lo hi => match ρ x with
    | .str s => match bndA s.length s.length (hi.map ρ) with
      | some h => match bndA 0 h (lo.map ρ) with
        | some l => some (.str ((s.drop l).take (h - l)))
        | none => none
      | none => none
    | _ => none
  | .slV elem sz x lo hi mx => match mx with
    | some _ => none
    | none => match ρ x with
      | .lst E [] .nil => match bndA 0 0 (hi.map ρ) with
        | some hh => match bndA 0 hh (lo.map ρ) with
          | some l => some (.lst E [] .nil)
          | none => none
        | none => none
      | .lst E (e :: es) t => if E = elem ∧ (∀ x ∈ e :: es, x.length = sz) then match bndA (es.length + 1) (es.length + 1) (hi.map ρ) with
          | some hh => match bndA 0 hh (lo.map ρ) with
            | some l => some (.lst E (((e :: es).drop l).take (hh - l)) (if hh = es.length + 1 then t else .no))
            | none => none
          | none => none
        else none
      | .slice b off len cap => if elemAt h b = some elem then match bndA len cap (hi.map ρ) with
          | some hh => match bndA 0 hh (lo.map ρ) with
            | some l => some (.slice b (off + l * sz) (hh - l) (cap - l))
            | none => none
          | none => none
        else none
      | _ => none
  | .fa off x => match ρ x with
    | .rptr cs => if off < cs.length then some (.rptr (cs.drop off)) else none
    | .ptr b o => some (.ptr b (o + off))
    | _ => none
  | .fld off n agg x => match ρ x with
    | .agg cs => if agg then match takeA cs off n with
        | some l => some (.agg l)
        | none => none
      else cs[off]?
    | _ => none
  | .ia sz x i => match ρ x, ρ i with
    | .lst _ es _, .int _ n => if 0 ≤ n then match es[n.toNat]? with
        | some e => if e.length = sz ∧ e ≠ [] then some (.rptr e) else none
        | none => none
      else none
    | .slice b off len _, .int _ n => if 0 ≤ n ∧ n < len then some (.ptr b (off + n.toNat * sz)) else none
    | _, _ => none
  | .ixS x i => match ρ x, ρ i with
    | .str s, .int _ n => if 0 ≤ n then match s[n.toNat]? with
      | some b => some (.int .u8 b.toNat)
      | none => none
      else none
    | _, _ => none
  | .lookup str zero ok m k => match entA h (ρ m) with
    | some es => if isKeyA str (ρ k) then match lookA (ρ k) es with
        | some (some v) => some (if ok then .tuple [v, .bool true] else v)
        | some none => some (if ok then .tuple [ofC zero, .bool false] else ofC zero)
        | none => none
      else none
    | none => none
  | .ta t zero ok x => match ρ x with
    | .iface u v => if u = t then some (if ok then .tuple [v, .bool true] else v)
      else if ok then some (.tuple [ofC zero, .bool false]) else none
    | .nili => if ok then some (.tuple [ofC zero, .bool false]) else none
    | _ => none
  | .ext x i => match ρ x with
    | .tuple vs => vs[i]?
    | _ => none
  | .lenS x => match ρ x with
    | .str s => some (.int .i64 s.length)
    | _ => none
  | .lenV x => match ρ x with
    | .lst _ es _ => some (.int .i64 es.length)
    | .slice _ _ n _ => some (.int .i64 n)
    | _ => none
  | .lenM x => match entA h (ρ x) with
    | some es => some (.int .i64 es.length)
    | none => none
  | .ld1 x => match ρ x with
    | .rptr cs => cs[0]?
    | .ptr b o => match cellAt h b with
      | some cs => cs[o]?
      | none => none
    | _ => none
  | .ldN n x => match ρ x with
    | .rptr cs => match takeA cs 0 n with
      | some l => some (.agg l)
      | none => none
    | .ptr b o => match cellAt h b with
      | some cs => match takeA cs o n with
        | some l => some (.agg l)
        | none => none
      | none => none
    | _ => none
  | .build zero parts => match fillA (zero.map ofC1) (parts.map fun (o, s, x) => (o, s, ρ x)) with
    | some l => some (.agg l)
    | none => none
  | .mm max x y => match ρ x, ρ y with
    | .int k a, .int _ b => some (.int k (if max then (if b > a then b else a) else (if b < a then b else a)))
    | _, _ => none
  | .cmp x y => match ρ x, ρ y with
    | .str a, .str b => some (.int .i64 (Extern.BytealgCompare.cmp ⟨⟨a⟩⟩ ⟨⟨b⟩⟩))
    | _, _ => none
  | .eqI neg ok u8 x y => match eqIA h ok u8 (ρ x) (ρ y) with
    | some b => some (.bool (if neg then !b else b))
    | none => none
  | .capV x => match ρ x with
    | .lst _ [] .nil => some (.int .i64 0)
    | _ => none
  | .entry x => match ρ x with
    | .ptr b 0 => match h.objs b with
      | some (.iter _ (some (k, v))) => some (.tuple [k, v])
      | _ => none
    | _ => none

end Go.Cn
