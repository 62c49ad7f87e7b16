/- The canonical machine: compiled code, and what it does, as a relation. Its heap has no draws: a row that is appended to is always copied; rows that may share memory form a class. -/
import GoSem.Step
namespace Go.Cn
set_option linter.unusedVariables false
set_option linter.unusedSimpArgs false

def upd {α : Type} (f : Nat → α) (n : Nat) (a : α) : Nat → α := fun m => if m = n then a else f m
@[simp] theorem upd_same {α : Type} (f : Nat → α) (n : Nat) (a : α) : upd f n a n = a := by simp [upd]
theorem upd_ne {α : Type} (f : Nat → α) {n m : Nat} (a : α) (h : m ≠ n) : upd f n a m = f m := by simp [upd, h]

def nth (l : List Value) (n : Nat) : Option Value := l[n]?
/-- 'n' values from 'i' on; none: there are not so many -/
def takeAt (l : List Value) (i n : Nat) : Option (List Value) := if i + n ≤ l.length then some ((l.drop i).take n) else none
/-- values put in from 'i' on; none: there is no room -/
def putAt (l : List Value) (i : Nat) (vs : List Value) : Option (List Value) :=
  if i + vs.length ≤ l.length then some (l.take i ++ vs ++ l.drop (i + vs.length)) else none

/-- Operations that only read. -/
inductive POp where
  | mov (x : Operand)
  | pick (c a b : Operand)
  | nilck (x : Operand)
  | bin (op : BinOp) (x y : Operand)
  | beq (neg : Bool) (x y : Operand)
  | isnil (neg : Bool) (c : Value) (x : Operand)
  | un (op : UnOp) (x : Operand)
  | i2i (k : IntKind) (x : Operand)
  | i2s (x : Operand)
  | s2s (x : Operand)
  | b2s (x : Operand)
  | mkif (t : TypeId) (x : Operand)
  | mkfn (f : FuncId) (first captured : List Operand)
  | slS (x : Operand) (lo hi : Option Operand)
  | slV (elem : TypeId) (sz : Nat) (x : Operand) (lo hi mx : Option Operand)
  | fa (off : Nat) (x : Operand)
  | fld (off n : Nat) (agg : Bool) (x : Operand)
  | ia (sz : Nat) (x i : Operand)
  | ixS (x i : Operand)
  | lookup (str : Bool) (zero : Value) (ok : Bool) (m k : Operand)
  | ta (t : TypeId) (zero : Value) (ok : Bool) (x : Operand)
  | ext (x : Operand) (i : Nat)
  | lenS (x : Operand)
  | lenV (x : Operand)
  | lenM (x : Operand)
  | ld1 (x : Operand)
  | ldN (n : Nat) (x : Operand)
  | build (zero : List Value) (parts : List (Nat × Nat × Operand))
  | mm (max : Bool) (x y : Operand)
  | cmp (x y : Operand)
  | eqI (neg : Bool) (ok u8 : List TypeId) (x y : Operand)
  | capV (x : Operand)
  | entry (x : Operand)

/-- Operations that make one object. -/
inductive AOp where
  | alloc (elem : TypeId) (zs : List Value)
  | box (elem : TypeId) (x : Operand)
  | bsl (elem : TypeId) (zero : List Value) (len : Nat) (parts : List (Nat × Nat × Operand))
  | mkmap
  | mksl (elem : TypeId) (bytes : Nat) (zero : List Value) (len cap : Operand)
  | s2b (elem : TypeId) (x : Operand)

/-- Operations that change what is there, or call. -/
inductive EOp where
  | st1 (a x : Operand)
  | stN (n : Nat) (a x : Operand)
  | mapupd (str : Bool) (m k x : Operand)
  | delete (str : Bool) (m k : Operand)
  | append (elem : TypeId) (sz bytes : Nat) (s x : Operand)
  | copy (sz : Nat) (d s : Operand)
  | clearV (zero : List Value) (s : Operand)
  | call (f : FuncId) (args : List Operand)
  | callv (x : Operand) (args : List Operand)
  | strish (elem : TypeId) (x : Operand)
  | range (x : Operand)
  | next (x : Operand)

inductive COp where
  | p (o : POp)
  | a (o : AOp)
  | e (o : EOp)
  | no

structure CStep where
  dst : Option Tmp
  guard : Option (Tmp × Bool)
  op : COp

/-- A reading that may stand behind an effect as well as ahead of it. -/
structure Again where
  t : Tmp
  g : Option (Tmp × Bool)
  o : POp

/-- An effect, the readings that may be made behind it, what can be made behind it alone. -/
structure Stage where
  e : CStep
  ag : List Again
  seg : List CStep

inductive CCode where
  | skip
  | region (ops : List CStep)
  | dregion (seg : List CStep) (stages : List Stage)
  | seq (a b : CCode)
  | cond (c : Operand) (thn els : CCode)
  | block (id : Nat) (body : CCode)
  | loop (body : CCode)
  | exit (id : Nat)
  | ret
  | no
  | rfun (f : Operand) (ps : List Tmp) (assign body : CCode)

inductive CRes where
  | tmp (t : Tmp)
  | ld1 (t : Tmp)
  | ldN (n : Nat) (t : Tmp)

structure CFun where
  body : CCode
  res : List CRes


abbrev Fr := Nat → Value

inductive CExit where
  | normal
  | exit (id : Nat)
  | ret
  deriving DecidableEq

def CExit.nm : CExit → Bool
  | .normal => true
  | _ => false

/-- What lies in a block of the canonical heap. 'cls', 'rel': the class of rows that may share memory, and where in it this row begins. 'ver': how often the map was written. An iterator: its map, the map's number when it began, the keys that were handed out, the last one first. A range over a function under way: where it stands, its frame, the frame's temporaries that a round fills, what a round does, the way out that is wanted. -/
inductive CObj where
  | cells (c : List Value) (elem : TypeId) (cls rel : Nat)
  | dead
  | map (es : List (Value × Value)) (ver : Nat)
  | iter (m : Option Nat) (ver : Nat) (seen : List Value)
  | loop (st : LoopState) (fr : Fr) (ps : List Tmp) (assign body : CCode) (pend : Option CExit)

structure CW where
  heap : Nat → Option CObj
  next : Nat
  /-- blocks below are never written -/
  ro : Nat
  /-- blocks below are all different -/
  inj : Nat
  /-- of a class: its rows, each with the end of its cells -/
  cls : Nat → Option (List (Nat × Nat))

def cundef : Value := .tuple #[]

def ev (fr : Fr) : Operand → Value
  | .tmp t => fr t
  | .const v => v
  | .global g => .pointer (some ⟨g, 0, none⟩)
  | .func f => .func (.func f) #[] #[]

/-- what a computation without effects comes to -/
def pureOf {α : Type} : Sem α → Option α
  | .pure a => some a
  | _ => none

def cellsOf (v : Value) : List Value := v.cells.toList

/-- the live cells of a block -/
def CW.row (σ : CW) (b : Nat) : Option (List Value) :=
  match σ.heap b with
  | some (.cells c _ _ _) => some c
  | _ => none

def CW.elemIs (σ : CW) (b : Nat) (t : TypeId) : Bool :=
  match σ.heap b with
  | some (.cells _ e _ _) => Nat.beq e t
  | _ => false

def CW.cell (σ : CW) (a : Addr) : Option Value :=
  match a.spot with
  | some _ => none
  | none => match σ.row a.block with
    | some c => nth c a.off
    | none => none

def CW.cells (σ : CW) (a : Addr) (n : Nat) : Option (List Value) :=
  match a.spot with
  | some _ => none
  | none => match σ.row a.block with
    | some c => takeAt c a.off n
    | none => none

/-- Is it a key, a text or else a number? -/
def isKey (str : Bool) : Value → Bool
  | .string _ => str
  | .int _ _ => !str
  | _ => false
/-- Are two keys the same? none: they are not of one kind. -/
def keyEq : Value → Value → Option Bool
  | .string a, .string b => some (a.data.toList == b.data.toList)
  | .int j a, .int k b => if j == k then some (a == b) else none
  | _, _ => none

def look (k : Value) : List (Value × Value) → Option (Option Value)
  | [] => some none
  | (k', v) :: l => match keyEq k k' with
    | some true => some (some v)
    | some false => look k l
    | none => none
def mput (k v : Value) : List (Value × Value) → Option (List (Value × Value))
  | [] => some [(k, v)]
  | (k', v') :: l => match keyEq k k' with
    | some true => some ((k, v) :: l)
    | some false => match mput k v l with
      | some r => some ((k', v') :: r)
      | none => none
    | none => none
def mdel (k : Value) : List (Value × Value) → Option (List (Value × Value))
  | [] => some []
  | (k', v') :: l => match keyEq k k' with
    | some true => some l
    | some false => match mdel k l with
      | some r => some ((k', v') :: r)
      | none => none
    | none => none

def CW.entries (σ : CW) : Value → Option (List (Value × Value))
  | .map none => some []
  | .map (some r) => match σ.heap r with
    | some (.map es _) => some es
    | _ => none
  | _ => none

/-- the entry that an iterator handed out last -/
def CW.entry (σ : CW) : Value → Option Value
  | .pointer (some ⟨r, 0, none⟩) => match σ.heap r with
    | some (.iter (some m) ver (k :: _)) => match σ.heap m with
      | some (.map es v) => if v = ver then match look k es with
          | some (some x) => some (.tuple #[k, x])
          | _ => none
        else none
      | _ => none
    | _ => none
  | _ => none

def fillL (cells : List Value) : List (Nat × Nat × Value) → Option (List Value)
  | [] => some cells
  | (off, size, v) :: rest =>
    let vs := cellsOf v
    if vs.length = size then match putAt cells off vs with
      | some cells' => fillL cells' rest
      | none => none
    else none

def cbin (op : BinOp) : Value → Value → Option Value
  | .int j a, .int k b => pureOf (binOp op 0 (.int j a) (.int k b))
  | .string a, .string b => pureOf (binOp op 0 (.string a) (.string b))
  | _, _ => none

/-- Is a value nil, as this one is? -/
def isNilAs (c v : Value) : Option Bool :=
  match c, v with
  | .pointer none, .pointer a => some a.isNone
  | .slice none _ _, .slice a _ _ => some a.isNone
  | .map none, .map a => some a.isNone
  | .nilFunc, .func _ _ _ => some false
  | .nilFunc, .nilFunc => some true
  | .nilIface, .iface _ _ => some false
  | .nilIface, .nilIface => some true
  | _, _ => none

def bytesOfCells : List Value → Option (List UInt8)
  | [] => some []
  | .int .u8 n :: l => match bytesOfCells l with
    | some r => some (UInt8.ofNat n.toNat :: r)
    | none => none
  | _ => none

/-- a bound of a slice expression -/
def bnd (d : Nat) (y : Nat) : Option Value → Option Nat
  | none => some d
  | some (.int _ i) => if 0 ≤ i ∧ i ≤ y then some i.toNat else none
  | some _ => none

/-- may two addresses be told apart? (rows of bytes: no) -/
def CW.apart (σ : CW) (u8 : List TypeId) (a b : Nat) : Bool :=
  match σ.heap a, σ.heap b with
  | some (.cells _ E c _), some (.cells _ E' d _) =>
    (decide (a < σ.inj) || !u8.contains E) && (decide (b < σ.inj) || !u8.contains E') && decide ((σ.ro ≤ a ∨ a < σ.inj) ∧ (σ.ro ≤ b ∨ b < σ.inj)) && (if a < σ.ro ∧ b < σ.ro then decide (a < σ.inj ∨ b < σ.inj) else decide (c ≠ d))
  | _, _ => false
/-- .. of rows that were there from the start, the first cells alone -/
def CW.told (σ : CW) (a b : Addr) : Bool := decide (σ.ro ≤ a.block ∨ σ.ro ≤ b.block ∨ (a.off = 0 ∧ b.off = 0))
def eqIface (σ : CW) (ok u8 : List TypeId) (x y : Value) : Option Bool :=
  match x, y with
  | .nilIface, .iface _ _ => some false
  | .iface _ _, .nilIface => some false
  | .iface t (.pointer (some a)), .iface u (.pointer (some b)) =>
    if t = u then
      if ok.contains t = true ∧ a.spot = none ∧ b.spot = none then
        if a.block = b.block then some (decide (a.off = b.off)) else if σ.apart u8 a.block b.block = true ∧ σ.told a b = true then some false else none
      else none
    else some false
  | _, _ => none

/-- the capacity of a slice that is nil -/
def nilCap : Value → Option Value
  | .slice a _ _ => if a.isNone then some (.int .i64 0) else none
  | _ => none

def pev (o : POp) (ρ : Operand → Value) (σ : CW) : Option Value :=
  match o with
  | .mov x => some (ρ x)
  | .pick c a b => match ρ c with
    | .bool true => some (ρ a)
    | .bool false => some (ρ b)
    | _ => none
  | .nilck x => match ρ x with
    | .pointer none => none
    | .pointer (some a) => some (.pointer (some a))
    | .func (.func f) a b => some (.func (.func f) a b)
    | .iface t v => some (.iface t v)
    | _ => none
  | .bin op x y => cbin op (ρ x) (ρ y)
  | .beq neg x y => match ρ x, ρ y with
    | .bool a, .bool b => some (.bool (if neg then !(a == b) else a == b))
    | _, _ => none
  | .isnil neg c x => match isNilAs c (ρ x) with
    | some b => some (.bool (if neg then !b else b))
    | none => none
  | .un op x => match ρ x with
    | .int k n => pureOf (Op.unary op (.int k n))
    | .bool b => pureOf (Op.unary op (.bool b))
    | _ => none
  | .i2i k x => match ρ x with
    | .int _ n => some (.int k (k.wrap n))
    | _ => none
  | .i2s x => match ρ x with
    | .int _ n => some (.string (Utf8.encode n))
    | _ => none
  | .s2s x => match ρ x with
    | .string s => some (.string s)
    | _ => none
  | .b2s x => match ρ x with
    | .slice none _ _ => some (.string .empty)
    | .slice (some a) n _ => match σ.cells a n with
      | some c => match bytesOfCells c with
        | some l => some (.string ⟨l.toArray⟩)
        | none => none
      | none => none
    | _ => none
  | .mkif t x => some (.iface t (ρ x))
  | .mkfn f first captured => some (.func (.func f) (first.map ρ).toArray (captured.map ρ).toArray)
  | .slS x lo hi => match ρ x with
    | .string s => match bnd s.size s.size (hi.map ρ) with
      | some h => match bnd 0 h (lo.map ρ) with
        | some l => some (.string (s.extract l h))
        | none => none
      | none => none
    | _ => none
  | .slV elem sz x lo hi mx => match ρ x with
    | .slice a len cap => match bnd cap cap (mx.map ρ) with
      | some m => match bnd len m (hi.map ρ) with
        | some h => match bnd 0 h (lo.map ρ) with
          | some l => match a with
            | none => some (.slice none 0 0)
            | some a => if a.spot = none ∧ σ.elemIs a.block elem = true then some (.slice (some ⟨a.block, a.off + l * sz, none⟩) (h - l) (m - l)) else none
          | none => none
        | none => none
      | none => none
    | _ => none
  | .fa off x => match ρ x with
    | .pointer (some a) => if a.spot = none then some (.pointer (some ⟨a.block, a.off + off, none⟩)) else none
    | _ => none
  | .fld off n agg x => match ρ x with
    | .agg cs => if agg then match takeAt cs.toList off n with
        | some l => some (.agg l.toArray)
        | none => none
      else nth cs.toList off
    | _ => none
  | .ia sz x i => match ρ x, ρ i with
    | .slice (some a) len _, .int _ n =>
      if a.spot = none ∧ 0 ≤ n ∧ n < len then some (.pointer (some ⟨a.block, a.off + n.toNat * sz, none⟩)) else none
    | _, _ => none
  | .ixS x i => match ρ x, ρ i with
    | .string s, .int _ n => if 0 ≤ n then match s[n.toNat]? with
      | some b => some (.int .u8 b.toNat)
      | none => none
      else none
    | _, _ => none
  | .lookup str zero ok m k => match σ.entries (ρ m) with
    | some es => if isKey str (ρ k) then match look (ρ k) es with
        | some (some v) => some (if ok then .tuple #[v, .bool true] else v)
        | some none => some (if ok then .tuple #[zero, .bool false] else zero)
        | none => none
      else none
    | none => none
  | .ta t zero ok x => match ρ x with
    | .iface u v => if u = t then some (if ok then .tuple #[v, .bool true] else v)
      else if ok then some (.tuple #[zero, .bool false]) else none
    | .nilIface => if ok then some (.tuple #[zero, .bool false]) else none
    | _ => none
  | .ext x i => match ρ x with
    | .tuple vs => nth vs.toList i
    | _ => none
  | .lenS x => match ρ x with
    | .string s => some (.int .i64 s.size)
    | _ => none
  | .lenV x => match ρ x with
    | .slice _ n _ => some (.int .i64 n)
    | _ => none
  | .lenM x => match σ.entries (ρ x) with
    | some es => some (.int .i64 es.length)
    | none => none
  | .ld1 x => match ρ x with
    | .pointer (some a) => σ.cell a
    | _ => none
  | .ldN n x => match ρ x with
    | .pointer (some a) => match σ.cells a n with
      | some l => some (.agg l.toArray)
      | none => none
    | _ => none
  | .build zero parts => match fillL zero (parts.map fun (o, s, x) => (o, s, ρ x)) with
    | some l => some (.agg l.toArray)
    | none => none
  | .mm max x y => match ρ x, ρ y with
    | .int k a, .int _ b => some (.int k (if max then (if b > a then b else a) else (if b < a then b else a)))
    | _, _ => none
  | .cmp x y => match ρ x, ρ y with
    | .string a, .string b => some (goInt (Extern.BytealgCompare.cmp a b))
    | _, _ => none
  | .eqI neg ok u8 x y => match eqIface σ ok u8 (ρ x) (ρ y) with
    | some b => some (.bool (if neg then !b else b))
    | none => none
  | .capV x => nilCap (ρ x)
  | .entry x => σ.entry (ρ x)

/-- the cells of zeros of 'n' elements -/
def zerosL (zero : List Value) : Nat → List Value
  | 0 => []
  | n + 1 => zero ++ zerosL zero n

/-- a new object, and the value that leads to it -/
def aev (o : AOp) (ρ : Operand → Value) (b : Nat) : Option (CObj × Value) :=
  match o with
  | .alloc elem zs => some (.cells zs elem b 0, .pointer (some ⟨b, 0, none⟩))
  | .box elem x => some (.cells (cellsOf (ρ x)) elem b 0, .pointer (some ⟨b, 0, none⟩))
  | .bsl elem zero len parts => match fillL (zerosL zero len) (parts.map fun (o, s, x) => (o, s, ρ x)) with
    | some l => some (.cells l elem b 0, .slice (some ⟨b, 0, none⟩) len len)
    | none => none
  | .mkmap => some (.map [] 0, .map (some b))
  | .mksl elem bytes zero len cap => match ρ len, ρ cap with
    | .int _ l, .int _ c =>
      if 0 ≤ l ∧ l ≤ c ∧ bytes * c ≤ 1099511627776 ∧ c ≤ 1099511627776 then
        some (.cells (zerosL zero c.toNat) elem b 0, .slice (some ⟨b, 0, none⟩) l.toNat c.toNat) else none
    | _, _ => none
  | .s2b elem x => match ρ x with
    | .string s => some (.cells (s.data.toList.map fun c => .int .u8 c.toNat) elem b 0, .slice (some ⟨b, 0, none⟩) s.size s.size)
    | _ => none

/-- the rows of a class, each with its end -/
def CW.members (σ : CW) (c : Nat) : List (Nat × Nat) :=
  match σ.cls c with
  | some l => l
  | none => match σ.heap c with
    | some (.cells l _ _ _) => [(c, l.length)]
    | _ => []

/-- the rows that end behind 'p', but for row 'b', are seen no more -/
def killL (b p : Nat) (l : List (Nat × Nat)) (h : Nat → Option CObj) : Nat → Option CObj :=
  fun n => if n ≠ b ∧ ∃ m ∈ l, m.1 = n ∧ p < m.2 then some .dead else h n
def keepL (b p : Nat) (l : List (Nat × Nat)) : List (Nat × Nat) := l.filter fun m => m.1 ≠ b ∧ m.2 ≤ p

/-- row 'b', which ends at 'e', is written at 'p' in its class 'c' -/
def CW.touch (σ : CW) (c b p e : Nat) : CW :=
  { σ with heap := killL b p (σ.members c) σ.heap, cls := upd σ.cls c (some ((b, e) :: keepL b p (σ.members c))) }

/-- Is it the value of one cell? -/
def oneCell : Value → Bool
  | .agg _ => false
  | .tuple _ => false
  | _ => true

/-- values stored at an address -/
def CW.put (σ : CW) (a : Addr) (vs : List Value) : Option CW :=
  match a.spot with
  | some _ => none
  | none => match σ.heap a.block with
    | some (.cells c elem cls rel) => if σ.ro ≤ a.block ∧ vs.all oneCell = true then match putAt c a.off vs with
        | some c' => some { σ.touch cls a.block (rel + a.off) (rel + c.length) with
            heap := upd (σ.touch cls a.block (rel + a.off) (rel + c.length)).heap a.block (some (.cells c' elem cls rel)) }
        | none => none
      else none
    | _ => none

def CW.add (σ : CW) (o : CObj) : CW := { σ with heap := upd σ.heap σ.next (some o), next := σ.next + 1 }

/-- a copied row of a class, which is written from 'p' on -/
def CW.grow (σ : CW) (cl p : Nat) (cs : List Value) (E : TypeId) (rel : Nat) : CW :=
  (σ.touch cl σ.next p (rel + cs.length)).add (.cells cs E cl rel)

/-- the cells of the first 'n' elements of a slice, or bytes of a string -/
def CW.first (σ : CW) (sz n : Nat) : Value → Option (List Value)
  | .slice (some a) _ _ => if n = 0 then some [] else σ.cells a (n * sz)
  | .slice none _ _ => some []
  | .string s => if sz = 1 then some ((s.data.toList.take n).map fun b => .int .u8 b.toNat) else none
  | _ => none

def lenV : Value → Option Nat
  | .slice _ n _ => some n
  | .string s => some s.size
  | _ => none

def capOk (need bytes : Nat) : Prop := (2 * need + 2000) * bytes ≤ 1099511627776 ∧ need ≤ 1099511627776
instance (need bytes : Nat) : Decidable (capOk need bytes) := by unfold capOk; infer_instance

def doAppend (elem : TypeId) (sz bytes : Nat) (σ : CW) (s x : Value) : Option (Value × CW) :=
  match s, lenV x with
  | .slice base sLen sCap, some n =>
    match σ.first sz n x with
    | some new =>
      if sLen + n ≤ sCap then match base with
        | none => some (.slice none (sLen + n) sCap, σ)
        | some a => if n = 0 then some (.slice base (sLen + n) sCap, σ) else match σ.put ⟨a.block, a.off + sLen * sz, a.spot⟩ new with
            | some σ' => some (.slice base (sLen + n) sCap, σ')
            | none => none
      else if capOk (sLen + n) bytes ∧ new.all oneCell = true then match base with
          | none => some (.slice (some ⟨σ.next, 0, none⟩) (sLen + n) (sLen + n), σ.add (.cells new elem σ.next 0))
          | some a => if a.spot = none ∧ σ.ro ≤ a.block then match σ.heap a.block with
              | some (.cells c elem' cls rel) => if elem' = elem then match takeAt c a.off (sLen * sz) with
                | some old => some (.slice (some ⟨σ.next, 0, none⟩) (sLen + n) (sLen + n), σ.grow cls (rel + a.off + sLen * sz) (old ++ new) elem (rel + a.off))
                | none => none
                else none
              | _ => none
            else none
        else none
    | none => none
  | _, _ => none

/-- effects other than calls -/
def eev (o : EOp) (ρ : Operand → Value) (σ : CW) : Option (Value × CW) :=
  match o with
  | .st1 a x => match ρ a with
    | .pointer (some a) => match cellsOf (ρ x) with
      | [v] => match σ.put a [v] with
        | some σ' => some (cundef, σ')
        | none => none
      | _ => none
    | _ => none
  | .stN n a x => match ρ a with
    | .pointer (some a) => if (cellsOf (ρ x)).length = n then match σ.put a (cellsOf (ρ x)) with
        | some σ' => some (cundef, σ')
        | none => none
      else none
    | _ => none
  | .mapupd str m k x => match ρ m with
    | .map (some r) => match σ.heap r with
      | some (.map es ver) => if isKey str (ρ k) ∧ σ.ro ≤ r then match mput (ρ k) (ρ x) es with
        | some es' => some (cundef, { σ with heap := upd σ.heap r (some (.map es' (ver + 1))) })
        | none => none
        else none
      | _ => none
    | _ => none
  | .delete str m k => match ρ m with
    | .map (some r) => match σ.heap r with
      | some (.map es ver) => if isKey str (ρ k) ∧ σ.ro ≤ r then match mdel (ρ k) es with
        | some es' => some (cundef, { σ with heap := upd σ.heap r (some (.map es' (ver + 1))) })
        | none => none
        else none
      | _ => none
    | .map none => if isKey str (ρ k) then some (cundef, σ) else none
    | _ => none
  | .append elem sz bytes s x => doAppend elem sz bytes σ (ρ s) (ρ x)
  | .copy sz d s => match ρ d, lenV (ρ s) with
    | .slice base dLen _, some m =>
      match σ.first sz (Nat.min m dLen) (ρ s) with
      | some vs => match base with
        | none => some (.int .i64 (Nat.min m dLen), σ)
        | some a => if vs = [] then some (.int .i64 (Nat.min m dLen), σ) else match σ.put a vs with
            | some σ' => some (.int .i64 (Nat.min m dLen), σ')
            | none => none
      | none => none
    | _, _ => none
  | .clearV zero s => match ρ s with
    | .slice none _ _ => some (cundef, σ)
    | .slice (some a) n _ => if n = 0 then some (cundef, σ) else match σ.put a (zerosL zero n) with
        | some σ' => some (cundef, σ')
        | none => none
    | _ => none
  | .strish elem x => match ρ x with
    | .slice (some a) n c => match σ.row a.block with
      | some _ => if a.spot = none ∧ σ.ro ≤ a.block ∧ 0 < c ∧ σ.elemIs a.block elem = true then some (.slice (some a) n c, σ) else none
      | none => none
    | _ => none
  | .range x => match ρ x with
    | .map none => some (.pointer (some ⟨σ.next, 0, none⟩), σ.add (.iter none 0 []))
    | .map (some m) => match σ.heap m with
      | some (.map _ ver) => some (.pointer (some ⟨σ.next, 0, none⟩), σ.add (.iter (some m) ver []))
      | _ => none
    | _ => none
  | .next _ => none
  | .call _ _ => none
  | .callv _ _ => none

def wants (fr : Fr) : Option (Tmp × Bool) → Bool
  | none => true
  | some (t, b) => match fr t with
    | .bool c => c == b
    | _ => false

def putT (fr : Fr) : Option Tmp → Value → Fr
  | none, _ => fr
  | some t, v => upd fr t v

/-- what a call of a function with arguments comes to -/
abbrev CallR := FuncId → List Value → CW → Value → CW → Prop

def OpR (C : CallR) (o : COp) (ρ : Operand → Value) (σ : CW) (v : Value) (σ' : CW) : Prop :=
  match o with
  | .p o => pev o ρ σ = some v ∧ σ' = σ
  | .a o => ∃ obj, aev o ρ σ.next = some (obj, v) ∧ σ' = σ.add obj
  | .e (.call f args) => C f (args.map ρ) σ v σ'
  | .e (.callv x args) => ∃ f a b, ρ x = .func (.func f) a b ∧ C f (a.toList ++ args.map ρ ++ b.toList) σ v σ'
  | .e o => eev o ρ σ = some (v, σ')
  | .no => False

def StepR (C : CallR) (s : CStep) (fr : Fr) (σ : CW) (fr' : Fr) (σ' : CW) : Prop :=
  (wants fr s.guard = true ∧ ∃ v, OpR C s.op (ev fr) σ v σ' ∧ fr' = putT fr s.dst v) ∨
  (wants fr s.guard = false ∧ fr' = putT fr s.dst cundef ∧ σ' = σ)

inductive StepsR (C : CallR) : List CStep → Fr → CW → Fr → CW → Prop where
  | nil (fr : Fr) (σ : CW) : StepsR C [] fr σ fr σ
  | cons {s : CStep} {l : List CStep} {fr fr1 fr2 : Fr} {σ σ1 σ2 : CW} (h : StepR C s fr σ fr1 σ1) (t : StepsR C l fr1 σ1 fr2 σ2) : StepsR C (s :: l) fr σ fr2 σ2

/-- a reading gives what it gave -/
def AgainR (fr : Fr) (σ : CW) (a : Again) : Prop := wants fr a.g = true → pev a.o (ev fr) σ = some (fr a.t)

inductive StagesR (C : CallR) : List Stage → Fr → CW → Fr → CW → Prop where
  | nil (fr : Fr) (σ : CW) : StagesR C [] fr σ fr σ
  | cons {s : Stage} {l : List Stage} {fr fr1 fr2 fr3 : Fr} {σ σ1 σ2 σ3 : CW} (h : StepR C s.e fr σ fr1 σ1) (a : ∀ x ∈ s.ag, AgainR fr1 σ1 x)
      (g : StepsR C s.seg fr1 σ1 fr2 σ2) (t : StagesR C l fr2 σ2 fr3 σ3) : StagesR C (s :: l) fr σ fr3 σ3

inductive CodeR (C : CallR) : CCode → Fr → CW → CExit → Fr → CW → Prop where
  | skip (fr : Fr) (σ : CW) : CodeR C .skip fr σ .normal fr σ
  | region {ops : List CStep} {fr fr' : Fr} {σ σ' : CW} (h : StepsR C ops fr σ fr' σ') : CodeR C (.region ops) fr σ .normal fr' σ'
  | dregion {seg : List CStep} {l : List Stage} {fr fr1 fr2 : Fr} {σ σ1 σ2 : CW} (h : StepsR C seg fr σ fr1 σ1) (g : StagesR C l fr1 σ1 fr2 σ2) :
      CodeR C (.dregion seg l) fr σ .normal fr2 σ2
  | seq {a b : CCode} {e : CExit} {fr fr1 fr2 : Fr} {σ σ1 σ2 : CW} (h : CodeR C a fr σ .normal fr1 σ1) (t : CodeR C b fr1 σ1 e fr2 σ2) : CodeR C (.seq a b) fr σ e fr2 σ2
  | seqOut {a b : CCode} {e : CExit} {fr fr1 : Fr} {σ σ1 : CW} (h : CodeR C a fr σ e fr1 σ1) (he : e ≠ .normal) : CodeR C (.seq a b) fr σ e fr1 σ1
  | yes {c : Operand} {a b : CCode} {e : CExit} {fr fr' : Fr} {σ σ' : CW} (hc : ev fr c = .bool true) (h : CodeR C a fr σ e fr' σ') : CodeR C (.cond c a b) fr σ e fr' σ'
  | no {c : Operand} {a b : CCode} {e : CExit} {fr fr' : Fr} {σ σ' : CW} (hc : ev fr c = .bool false) (h : CodeR C b fr σ e fr' σ') : CodeR C (.cond c a b) fr σ e fr' σ'
  | block {id : Nat} {c : CCode} {e : CExit} {fr fr' : Fr} {σ σ' : CW} (h : CodeR C c fr σ e fr' σ') (he : e ≠ .exit id) : CodeR C (.block id c) fr σ e fr' σ'
  | blockOut {id : Nat} {c : CCode} {fr fr' : Fr} {σ σ' : CW} (h : CodeR C c fr σ (.exit id) fr' σ') : CodeR C (.block id c) fr σ .normal fr' σ'
  | loop {c : CCode} {e : CExit} {fr fr1 fr2 : Fr} {σ σ1 σ2 : CW} (h : CodeR C c fr σ .normal fr1 σ1) (t : CodeR C (.loop c) fr1 σ1 e fr2 σ2) : CodeR C (.loop c) fr σ e fr2 σ2
  | loopOut {c : CCode} {e : CExit} {fr fr' : Fr} {σ σ' : CW} (h : CodeR C c fr σ e fr' σ') (he : e ≠ .normal) : CodeR C (.loop c) fr σ e fr' σ'
  | exit (id : Nat) (fr : Fr) (σ : CW) : CodeR C (.exit id) fr σ (.exit id) fr σ
  | ret (fr : Fr) (σ : CW) : CodeR C .ret fr σ .ret fr σ

def res1 (fr : Fr) (σ : CW) : CRes → Option Value
  | .tmp t => some (fr t)
  | .ld1 t => pev (.ld1 (.tmp t)) (ev fr) σ
  | .ldN n t => pev (.ldN n (.tmp t)) (ev fr) σ
def resL (fr : Fr) (σ : CW) : List CRes → Option (List Value)
  | [] => some []
  | r :: l => match res1 fr σ r with
    | some v => match resL fr σ l with
      | some vs => some (v :: vs)
      | none => none
    | none => none
def resV : List Value → Value
  | [v] => v
  | l => .tuple l.toArray

def initFr (args : List Value) : Fr := fun t => (args[t]?).getD cundef

/-- calls of at most so many functions within each other -/
def CallN (T : Nat → Option CFun) : Nat → CallR
  | 0, _, _, _, _, _ => False
  | d + 1, f, args, σ, v, σ' => ∃ cf e fr vs, T f = some cf ∧ CodeR (CallN T d) cf.body (initFr args) σ e fr σ' ∧ (e = .normal ∨ e = .ret) ∧ resL fr σ' cf.res = some vs ∧ v = resV vs

-- what is true of every way that a run may go --------------------------------------------------------
/-- what is asked of the ends of a call of a function, or of a round, with arguments -/
abbrev CallQ := Fn → List Value → CW → (Value → CW → Prop) → Prop

def CW.set (σ : CW) (b : Nat) (o : CObj) : CW := { σ with heap := upd σ.heap b (some o) }

/-- the entries that an iterator has not handed out -/
def leftL (seen : List Value) (es : List (Value × Value)) : List (Value × Value) := es.filter fun e => seen.all fun k => !(keyEq k e.1 == some true)

def nextW (σ : CW) (Q : Value → CW → Prop) : Value → Prop
  | .pointer (some ⟨r, 0, none⟩) => match σ.heap r with
    | some (.iter none _ _) => Q (.tuple #[.bool false]) σ
    | some (.iter (some m) ver seen) => match σ.heap m with
      | some (.map es v) => v = ver ∧ σ.ro ≤ r ∧ (∀ e ∈ es, keyEq e.1 e.1 = some true) ∧ (leftL seen es = [] → Q (.tuple #[.bool false]) σ) ∧ ∀ k x, (k, x) ∈ leftL seen es → Q (.tuple #[.bool true, k, x]) (σ.set r (.iter (some m) ver (k :: seen)))
      | _ => False
    | _ => False
  | _ => False

def OpW (C : CallQ) (o : COp) (ρ : Operand → Value) (σ : CW) (Q : Value → CW → Prop) : Prop :=
  match o with
  | .p o => ∃ v, pev o ρ σ = some v ∧ Q v σ
  | .a o => ∃ obj v, aev o ρ σ.next = some (obj, v) ∧ Q v (σ.add obj)
  | .e (.call f args) => C (.func f) (args.map ρ) σ Q
  | .e (.callv x args) => ∃ f a b, ρ x = .func f a b ∧ C f (a.toList ++ args.map ρ ++ b.toList) σ Q
  | .e (.next x) => nextW σ Q (ρ x)
  | .e o => ∃ v σ', eev o ρ σ = some (v, σ') ∧ Q v σ'
  | .no => False

def StepW (C : CallQ) (s : CStep) (fr : Fr) (σ : CW) (K : Fr → CW → Prop) : Prop :=
  (wants fr s.guard = true ∧ OpW C s.op (ev fr) σ fun v σ' => K (putT fr s.dst v) σ') ∨ (wants fr s.guard = false ∧ K (putT fr s.dst cundef) σ)

def StepsW (C : CallQ) : List CStep → Fr → CW → (Fr → CW → Prop) → Prop
  | [], fr, σ, K => K fr σ
  | s :: l, fr, σ, K => StepW C s fr σ fun fr σ => StepsW C l fr σ K

def StagesW (C : CallQ) : List Stage → Fr → CW → (Fr → CW → Prop) → Prop
  | [], fr, σ, K => K fr σ
  | s :: l, fr, σ, K => StepW C s.e fr σ fun fr1 σ1 => (∀ x ∈ s.ag, AgainR fr1 σ1 x) ∧ StepsW C s.seg fr1 σ1 fun fr2 σ2 => StagesW C l fr2 σ2 K

def setPs (fr : Fr) : List Tmp → List Value → Fr
  | t :: ts, v :: vs => setPs (upd fr t v) ts vs
  | _, _ => fr

inductive CodeW (C : CallQ) : CCode → Fr → CW → (CExit → Fr → CW → Prop) → Prop where
  | skip {fr : Fr} {σ : CW} {Q : CExit → Fr → CW → Prop} (h : Q .normal fr σ) : CodeW C .skip fr σ Q
  | region {ops : List CStep} {fr : Fr} {σ : CW} {Q : CExit → Fr → CW → Prop} (h : StepsW C ops fr σ (Q .normal)) : CodeW C (.region ops) fr σ Q
  | dregion {seg : List CStep} {l : List Stage} {fr : Fr} {σ : CW} {Q : CExit → Fr → CW → Prop} (h : StepsW C seg fr σ fun fr1 σ1 => StagesW C l fr1 σ1 (Q .normal)) : CodeW C (.dregion seg l) fr σ Q
  | seq {a b : CCode} {fr : Fr} {σ : CW} {R Q : CExit → Fr → CW → Prop} (h : CodeW C a fr σ R) (t : ∀ fr1 σ1, R .normal fr1 σ1 → CodeW C b fr1 σ1 Q) (o : ∀ e fr1 σ1, e ≠ .normal → R e fr1 σ1 → Q e fr1 σ1) : CodeW C (.seq a b) fr σ Q
  | yes {c : Operand} {a b : CCode} {fr : Fr} {σ : CW} {Q : CExit → Fr → CW → Prop} (hc : ev fr c = .bool true) (h : CodeW C a fr σ Q) : CodeW C (.cond c a b) fr σ Q
  | no {c : Operand} {a b : CCode} {fr : Fr} {σ : CW} {Q : CExit → Fr → CW → Prop} (hc : ev fr c = .bool false) (h : CodeW C b fr σ Q) : CodeW C (.cond c a b) fr σ Q
  | block {id : Nat} {c : CCode} {fr : Fr} {σ : CW} {R Q : CExit → Fr → CW → Prop} (h : CodeW C c fr σ R) (o : ∀ e fr1 σ1, R e fr1 σ1 → Q (if e = .exit id then .normal else e) fr1 σ1) : CodeW C (.block id c) fr σ Q
  | loop {c : CCode} {fr : Fr} {σ : CW} {R Q : CExit → Fr → CW → Prop} (h : CodeW C c fr σ R) (t : ∀ fr1 σ1, R .normal fr1 σ1 → CodeW C (.loop c) fr1 σ1 Q) (o : ∀ e fr1 σ1, e ≠ .normal → R e fr1 σ1 → Q e fr1 σ1) : CodeW C (.loop c) fr σ Q
  | exit {id : Nat} {fr : Fr} {σ : CW} {Q : CExit → Fr → CW → Prop} (h : Q (.exit id) fr σ) : CodeW C (.exit id) fr σ Q
  | ret {fr : Fr} {σ : CW} {Q : CExit → Fr → CW → Prop} (h : Q .ret fr σ) : CodeW C .ret fr σ Q
  | rfun {f : Operand} {ps : List Tmp} {as body : CCode} {fr : Fr} {σ : CW} {Q : CExit → Fr → CW → Prop} (g : Nat) (a b : Array Value) (hf : ev fr f = .func (.func g) a b)
      (h : C (.func g) (a.toList ++ [.func (.yield σ.next) #[] #[]] ++ b.toList) (σ.add (.loop .ready fr ps as body none)) fun _ σ2 =>
        ∃ st pend, σ2.heap σ.next = some (.loop st fr ps as body pend) ∧ st ≠ .busy ∧ pend ≠ some .normal ∧ Q (pend.getD .normal) fr (σ2.set σ.next .dead)) : CodeW C (.rfun f ps as body) fr σ Q

/-- How deep calls stand within each other: a bound that may hang on everything. -/
inductive Deep where
  | zero
  | succ (d : Deep)
  | lim (f : Fn × List Value × CW × (Value → CW → Prop) → Deep)

/-- What is true of every call, calls within each other no deeper than so. -/
def CallW (T : Nat → Option CFun) : Deep → CallQ
  | .zero, _, _, _, _ => False
  | .lim g, f, args, σ, Q => ∃ i, CallW T (g i) f args σ Q
  | .succ d, .func f, args, σ, Q => ∃ cf, T f = some cf ∧ CodeW (CallW T d) cf.body (initFr args) σ fun e fr σ' => (e = .normal ∨ e = .ret) ∧ ∃ vs, resL fr σ' cf.res = some vs ∧ Q (resV vs) σ'
  | .succ d, .yield c, args, σ, Q => ∃ fr ps as body, σ.heap c = some (.loop .ready fr ps as body none) ∧ σ.ro ≤ c ∧ args.length = ps.length ∧
      CodeW (CallW T d) as (setPs fr ps args) σ fun e fr1 σ1 => e = .normal ∧ σ1.heap c = some (.loop .ready fr ps as body none) ∧
        CodeW (CallW T d) body fr1 (σ1.set c (.loop .busy fr ps as body none)) fun e _ σ2 => σ2.heap c = some (.loop .busy fr ps as body none) ∧
          Q (.bool e.nm) (σ2.set c (.loop (if e.nm then .ready else .done) fr ps as body (if e.nm then none else some e)))
  | .succ _, _, _, _, _ => False

end Go.Cn
