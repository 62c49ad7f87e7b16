/- An evaluator of the canonical machine, for the kernel: small functions, closed branches, memory in tries. -/
import Derived.Test.YtjagadjljllabaaCnComp
namespace Go.Cn.Ev
set_option linter.unusedSimpArgs false
set_option linter.unusedVariables false

-- tries ------------------------------------------------------------------------------------------
inductive FT (α : Type) where
  | nil
  | node (v : Option α) (l r : FT α)

/-- where a number's place is -/
noncomputable def pathF : Nat → Nat → List Bool :=
  @Nat.rec (fun _ => Nat → List Bool) (fun _ => [])
    (fun _ ih m => @Bool.rec (fun _ => List Bool) (List.cons (Nat.beq (Nat.mod m 2) 0) (ih (Nat.div (Nat.sub m 1) 2))) [] (Nat.beq m 0))
noncomputable def path (n : Nat) : List Bool := pathF n n

noncomputable def getP {α : Type} : List Bool → FT α → Option α :=
  @List.rec Bool (fun _ => FT α → Option α) (fun t => @FT.rec α (fun _ => Option α) none (fun v _ _ _ _ => v) t)
    (fun b _ ih t => @FT.rec α (fun _ => Option α) none (fun _ l r _ _ => ih (@Bool.rec (fun _ => FT α) l r b)) t)
noncomputable def setP {α : Type} (x : α) : List Bool → FT α → FT α :=
  @List.rec Bool (fun _ => FT α → FT α) (fun t => @FT.rec α (fun _ => FT α) (.node (some x) .nil .nil) (fun _ l r _ _ => .node (some x) l r) t)
    (fun b _ ih t => @FT.rec α (fun _ => FT α) (@Bool.rec (fun _ => FT α) (.node none (ih .nil) .nil) (.node none .nil (ih .nil)) b)
      (fun v l r _ _ => @Bool.rec (fun _ => FT α) (.node v (ih l) r) (.node v l (ih r)) b) t)

-- frames, of values
noncomputable def getV : List Bool → FT Value → Value :=
  @List.rec Bool (fun _ => FT Value → Value) (fun t => @FT.rec Value (fun _ => Value) cundef (fun v _ _ _ _ => @Option.rec Value (fun _ => Value) cundef (fun x => x) v) t)
    (fun b _ ih t => @FT.rec Value (fun _ => Value) cundef (fun _ l r _ _ => ih (@Bool.rec (fun _ => FT Value) l r b)) t)

def gptr (g : Nat) : Value := .pointer (some ⟨g, 0, none⟩)
def fval (f : Nat) : Value := .func (.func f) #[] #[]
noncomputable def evE : Operand → FT Value → Value :=
  @Operand.rec (fun _ => FT Value → Value) (fun t fr => getV (path t) fr) (fun v _ => v) (fun g _ => gptr g) (fun f _ => fval f)

/-- What lies in a block: of a range over a function under way only where it stands. -/
inductive EObj where
  | cells (c : List Value) (elem : TypeId) (cls rel : Nat)
  | dead
  | map (es : List (Value × Value)) (ver : Nat)
  | iter (m : Option Nat) (ver : Nat) (seen : List Value)
  | loop (st : LoopState) (pend : Option CExit)

structure HS where
  t : FT EObj
  next : Nat
  ro : Nat
  inj : Nat
  cls : FT (List (Nat × Nat))

/-- the ranges over functions that are under way: the frame, what a round fills, what it does -/
structure LD where
  fr : FT Value
  ps : List Tmp
  as : CCode
  body : CCode
abbrev LE := Nat → Option LD
/-- the frame that a trie is -/
noncomputable def frD (t : FT Value) : Fr := fun n => (getP (path n) t).getD cundef
noncomputable def denL (st : LoopState) (pend : Option CExit) : Option LD → CObj
  | some d => .loop st (frD d.fr) d.ps d.as d.body pend
  | none => .dead
noncomputable def denO (e : Option LD) : EObj → CObj
  | .cells c E cl r => .cells c E cl r
  | .dead => .dead
  | .map es v => .map es v
  | .iter m v l => .iter m v l
  | .loop st pend => denL st pend e
noncomputable def den (E : LE) (h : HS) : CW := ⟨fun n => (getP (path n) h.t).map (denO (E n)), h.next, h.ro, h.inj, fun n => getP (path n) h.cls⟩

-- views ------------------------------------------------------------------------------------------
inductive VI where
  | no
  | yes (k : IntKind) (n : Int)
inductive VP where
  | no
  | null
  | yes (a : Addr)
inductive VL where
  | no
  | yes (a : Option Addr) (n c : Nat)
inductive VB where
  | no
  | yes (b : Bool)
inductive VS where
  | no
  | yes (s : ByteArray)
inductive VM where
  | no
  | yes (r : Option Nat)
inductive VF where
  | no
  | null
  | yes (f : Fn) (a b : Array Value)
inductive VX where
  | no
  | null
  | yes (t : TypeId) (v : Value)
inductive VA where
  | no
  | yes (a : Array Value)

def asI (v : Value) : VI := @Value.casesOn (fun _ => VI) v (fun _ => .no) (fun k n => .yes k n) (fun _ _ => .no) (fun _ _ _ => .no) (fun _ => .no) (fun _ => .no) (fun _ _ _ => .no) (fun _ => .no) (fun _ => .no) (fun _ _ _ => .no) .no (fun _ _ => .no) .no (fun _ => .no) (fun _ => .no)
def asB (v : Value) : VB := @Value.casesOn (fun _ => VB) v (fun b => .yes b) (fun _ _ => .no) (fun _ _ => .no) (fun _ _ _ => .no) (fun _ => .no) (fun _ => .no) (fun _ _ _ => .no) (fun _ => .no) (fun _ => .no) (fun _ _ _ => .no) .no (fun _ _ => .no) .no (fun _ => .no) (fun _ => .no)
def asS (v : Value) : VS := @Value.casesOn (fun _ => VS) v (fun _ => .no) (fun _ _ => .no) (fun _ _ => .no) (fun _ _ _ => .no) (fun s => .yes s) (fun _ => .no) (fun _ _ _ => .no) (fun _ => .no) (fun _ => .no) (fun _ _ _ => .no) .no (fun _ _ => .no) .no (fun _ => .no) (fun _ => .no)
noncomputable def asP (v : Value) : VP := @Value.casesOn (fun _ => VP) v (fun _ => .no) (fun _ _ => .no) (fun _ _ => .no) (fun _ _ _ => .no) (fun _ => .no) (fun a => @Option.rec Addr (fun _ => VP) .null (fun a => .yes a) a) (fun _ _ _ => .no) (fun _ => .no) (fun _ => .no) (fun _ _ _ => .no) .no (fun _ _ => .no) .no (fun _ => .no) (fun _ => .no)
def asL (v : Value) : VL := @Value.casesOn (fun _ => VL) v (fun _ => .no) (fun _ _ => .no) (fun _ _ => .no) (fun _ _ _ => .no) (fun _ => .no) (fun _ => .no) (fun a n c => .yes a n c) (fun _ => .no) (fun _ => .no) (fun _ _ _ => .no) .no (fun _ _ => .no) .no (fun _ => .no) (fun _ => .no)
def asM (v : Value) : VM := @Value.casesOn (fun _ => VM) v (fun _ => .no) (fun _ _ => .no) (fun _ _ => .no) (fun _ _ _ => .no) (fun _ => .no) (fun _ => .no) (fun _ _ _ => .no) (fun r => .yes r) (fun _ => .no) (fun _ _ _ => .no) .no (fun _ _ => .no) .no (fun _ => .no) (fun _ => .no)
def fnView (f : Fn) (a b : Array Value) : VF := .yes f a b
def asF (v : Value) : VF := @Value.casesOn (fun _ => VF) v (fun _ => .no) (fun _ _ => .no) (fun _ _ => .no) (fun _ _ _ => .no) (fun _ => .no) (fun _ => .no) (fun _ _ _ => .no) (fun _ => .no) (fun _ => .no) (fun f a b => fnView f a b) .null (fun _ _ => .no) .no (fun _ => .no) (fun _ => .no)
def asX (v : Value) : VX := @Value.casesOn (fun _ => VX) v (fun _ => .no) (fun _ _ => .no) (fun _ _ => .no) (fun _ _ _ => .no) (fun _ => .no) (fun _ => .no) (fun _ _ _ => .no) (fun _ => .no) (fun _ => .no) (fun _ _ _ => .no) .no (fun t v => .yes t v) .null (fun _ => .no) (fun _ => .no)
def asA (v : Value) : VA := @Value.casesOn (fun _ => VA) v (fun _ => .no) (fun _ _ => .no) (fun _ _ => .no) (fun _ _ _ => .no) (fun _ => .no) (fun _ => .no) (fun _ _ _ => .no) (fun _ => .no) (fun _ => .no) (fun _ _ _ => .no) .no (fun _ _ => .no) .no (fun a => .yes a) (fun _ => .no)
def asT (v : Value) : VA := @Value.casesOn (fun _ => VA) v (fun _ => .no) (fun _ _ => .no) (fun _ _ => .no) (fun _ _ _ => .no) (fun _ => .no) (fun _ => .no) (fun _ _ _ => .no) (fun _ => .no) (fun _ => .no) (fun _ _ _ => .no) .no (fun _ _ => .no) .no (fun _ => .no) (fun a => .yes a)


-- numbers, texts -----------------------------------------------------------------------------------
def ikNum (k : IntKind) : Nat := @IntKind.casesOn (fun _ => Nat) k 0 1 2 3 4 5 6 7
def hiOf (k : IntKind) : Nat := @IntKind.casesOn (fun _ => Nat) k 128 32768 2147483648 9223372036854775808 256 65536 4294967296 18446744073709551616
def loOf (k : IntKind) : Nat := @IntKind.casesOn (fun _ => Nat) k 128 32768 2147483648 9223372036854775808 0 0 0 0
noncomputable def wrapE (k : IntKind) (r : Int) : Int :=
  @Int.rec (fun _ => Int) (fun m => @Bool.rec (fun _ => Int) (k.wrap (.ofNat m)) (.ofNat m) (Nat.blt m (hiOf k))) (fun m => @Bool.rec (fun _ => Int) (k.wrap (.negSucc m)) (.negSucc m) (Nat.blt m (loOf k))) r
noncomputable def addI (a b : Int) : Int := @Int.rec (fun _ => Int) (fun m => @Int.rec (fun _ => Int) (fun n => .ofNat (Nat.add m n)) (fun n => Int.add (.ofNat m) (.negSucc n)) b) (fun m => Int.add (.negSucc m) b) a
noncomputable def subI (a b : Int) : Int := @Int.rec (fun _ => Int) (fun m => @Int.rec (fun _ => Int) (fun n => @Bool.rec (fun _ => Int) (Int.sub (.ofNat m) (.ofNat n)) (.ofNat (Nat.sub m n)) (Nat.ble n m)) (fun n => Int.sub (.ofNat m) (.negSucc n)) b) (fun m => Int.sub (.negSucc m) b) a
noncomputable def ltI (a b : Int) : Bool := @Int.rec (fun _ => Bool) (fun m => @Int.rec (fun _ => Bool) (fun n => Nat.blt m n) (fun n => false) b) (fun m => @Int.rec (fun _ => Bool) (fun n => true) (fun n => Nat.blt n m) b) a
noncomputable def eqI (a b : Int) : Bool := @Int.rec (fun _ => Bool) (fun m => @Int.rec (fun _ => Bool) (fun n => Nat.beq m n) (fun n => false) b) (fun m => @Int.rec (fun _ => Bool) (fun n => false) (fun n => Nat.beq m n) b) a
noncomputable def notB (a : Bool) : Bool := @Bool.rec (fun _ => Bool) true false a
noncomputable def eqB (a b : Bool) : Bool := @Bool.rec (fun _ => Bool) (notB b) b a

noncomputable def eqU : List UInt8 → List UInt8 → Bool :=
  @List.rec UInt8 (fun _ => List UInt8 → Bool) (fun m => @List.rec UInt8 (fun _ => Bool) true (fun _ _ _ => false) m)
    (fun a _ ih m => @List.rec UInt8 (fun _ => Bool) false (fun b m _ => @Bool.rec (fun _ => Bool) false (ih m) (Nat.beq a.toNat b.toNat)) m)
noncomputable def ltU : List UInt8 → List UInt8 → Bool :=
  @List.rec UInt8 (fun _ => List UInt8 → Bool) (fun m => @List.rec UInt8 (fun _ => Bool) false (fun _ _ _ => true) m)
    (fun a _ ih m => @List.rec UInt8 (fun _ => Bool) false (fun b m _ => @Bool.rec (fun _ => Bool) (@Bool.rec (fun _ => Bool) false (ih m) (Nat.beq a.toNat b.toNat)) true (Nat.blt a.toNat b.toNat)) m)

noncomputable def ii (g : IntKind → Int → Int → Value) (d : Option Value) (x y : Value) : Option Value :=
  @VI.rec (fun _ => Option Value) d (fun j a => @VI.rec (fun _ => Option Value) none (fun k b => @Bool.rec (fun _ => Option Value) none (some (g j a b)) (Nat.beq (ikNum j) (ikNum k))) (asI y)) (asI x)
noncomputable def ss (g : List UInt8 → List UInt8 → Option Value) (x y : Value) : Option Value :=
  @VS.rec (fun _ => Option Value) none (fun s => @VS.rec (fun _ => Option Value) none (fun t => g s.data.toList t.data.toList) (asS y)) (asS x)
noncomputable def lenU : List UInt8 → Nat := @List.rec UInt8 (fun _ => Nat) 0 (fun _ _ ih => Nat.succ ih)
noncomputable def lenE {α : Type} : List α → Nat := @List.rec α (fun _ => Nat) 0 (fun _ _ ih => Nat.add ih 1)
noncomputable def catE {α : Type} (l m : List α) : List α := @List.rec α (fun _ => List α) m (fun a _ ih => a :: ih) l

noncomputable def gAdd (j : IntKind) (a b : Int) : Value := .int j (wrapE j (addI a b))
noncomputable def gSub (j : IntKind) (a b : Int) : Value := .int j (wrapE j (subI a b))
noncomputable def gEql (_ : IntKind) (a b : Int) : Value := .bool (eqI a b)
noncomputable def gNeq (_ : IntKind) (a b : Int) : Value := .bool (notB (eqI a b))
noncomputable def gLss (_ : IntKind) (a b : Int) : Value := .bool (ltI a b)
noncomputable def gLeq (_ : IntKind) (a b : Int) : Value := .bool (notB (ltI b a))
noncomputable def gGtr (_ : IntKind) (a b : Int) : Value := .bool (ltI b a)
noncomputable def gGeq (_ : IntKind) (a b : Int) : Value := .bool (notB (ltI a b))
noncomputable def sAdd (a b : List UInt8) : Option Value := @Bool.rec (fun _ => Option Value) none (some (.string ⟨⟨catE a b⟩⟩)) (Nat.blt (Nat.add (lenE a) (lenE b)) 1099511627776)
noncomputable def sEql (a b : List UInt8) : Option Value := some (.bool (eqU a b))
noncomputable def sNeq (a b : List UInt8) : Option Value := some (.bool (notB (eqU a b)))
noncomputable def sLss (a b : List UInt8) : Option Value := some (.bool (ltU a b))

noncomputable def bAdd (x y : Value) : Option Value := ii gAdd (ss sAdd x y) x y
noncomputable def bSub (x y : Value) : Option Value := ii gSub none x y
noncomputable def bEql (x y : Value) : Option Value := ii gEql (ss sEql x y) x y
noncomputable def bNeq (x y : Value) : Option Value := ii gNeq (ss sNeq x y) x y
noncomputable def bLss (x y : Value) : Option Value := ii gLss (ss sLss x y) x y
noncomputable def bLeq (x y : Value) : Option Value := ii gLeq none x y
noncomputable def bGtr (x y : Value) : Option Value := ii gGtr none x y
noncomputable def bGeq (x y : Value) : Option Value := ii gGeq none x y
def bOth (op : BinOp) (x y : Value) : Option Value := cbin op x y
noncomputable def binE : BinOp → Value → Value → Option Value :=
  @BinOp.rec (fun _ => Value → Value → Option Value) bAdd bSub (bOth .mul) (bOth .quo) (bOth .rem) (bOth .and) (bOth .or) (bOth .xor) (bOth .shl) (bOth .shr) (bOth .andNot) bEql bNeq bLss bLeq bGtr bGeq

-- lists of cells -----------------------------------------------------------------------------------
noncomputable def nthE : List Value → Nat → Option Value :=
  @List.rec Value (fun _ => Nat → Option Value) (fun _ => none) (fun a _ ih n => @Bool.rec (fun _ => Option Value) (ih (Nat.sub n 1)) (some a) (Nat.beq n 0))
noncomputable def dropE : List Value → Nat → Option (List Value) :=
  @List.rec Value (fun _ => Nat → Option (List Value)) (fun n => @Bool.rec (fun _ => Option (List Value)) none (some []) (Nat.beq n 0)) (fun a l ih n => @Bool.rec (fun _ => Option (List Value)) (ih (Nat.sub n 1)) (some (a :: l)) (Nat.beq n 0))
/-- the first 'n' -/
noncomputable def firstE : List Value → Nat → Option (List Value) :=
  @List.rec Value (fun _ => Nat → Option (List Value)) (fun n => @Bool.rec (fun _ => Option (List Value)) none (some []) (Nat.beq n 0))
    (fun a _ ih n => @Bool.rec (fun _ => Option (List Value)) (@Option.rec (List Value) (fun _ => Option (List Value)) none (fun r => some (a :: r)) (ih (Nat.sub n 1))) (some []) (Nat.beq n 0))
noncomputable def takeE (l : List Value) (i n : Nat) : Option (List Value) := @Option.rec (List Value) (fun _ => Option (List Value)) none (fun r => firstE r n) (dropE l i)
/-- values put over the first ones -/
noncomputable def overE : List Value → List Value → Option (List Value) :=
  @List.rec Value (fun _ => List Value → Option (List Value)) (fun l => some l)
    (fun v _ ih l => @List.rec Value (fun _ => Option (List Value)) none (fun _ l _ => @Option.rec (List Value) (fun _ => Option (List Value)) none (fun r => some (v :: r)) (ih l)) l)
noncomputable def putE (vs : List Value) : List Value → Nat → Option (List Value) :=
  @List.rec Value (fun _ => Nat → Option (List Value)) (fun n => @Bool.rec (fun _ => Option (List Value)) none (overE vs []) (Nat.beq n 0))
    (fun a l ih n => @Bool.rec (fun _ => Option (List Value)) (@Option.rec (List Value) (fun _ => Option (List Value)) none (fun r => some (a :: r)) (ih (Nat.sub n 1))) (overE vs (a :: l)) (Nat.beq n 0))

noncomputable def rowO (o : Option EObj) : Option (List Value) := @Option.rec EObj (fun _ => Option (List Value)) none (fun o => @EObj.rec (fun _ => Option (List Value)) (fun c _ _ _ => some c) none (fun _ _ => none) (fun _ _ _ => none) (fun _ _ => none) o) o
noncomputable def rowE (h : HS) (b : Nat) : Option (List Value) := rowO (getP (path b) h.t)
noncomputable def noSpot (a : Addr) : Bool := a.spot.isNone
noncomputable def cellE (h : HS) (a : Addr) : Option Value :=
  @Bool.rec (fun _ => Option Value) none (@Option.rec (List Value) (fun _ => Option Value) none (fun c => nthE c a.off) (rowE h a.block)) (noSpot a)
noncomputable def cellsE (h : HS) (a : Addr) (n : Nat) : Option (List Value) :=
  @Bool.rec (fun _ => Option (List Value)) none (@Option.rec (List Value) (fun _ => Option (List Value)) none (fun c => takeE c a.off n) (rowE h a.block)) (noSpot a)


-- operations that only read ------------------------------------------------------------------------
abbrev FV := FT Value
abbrev OV := Option Value
noncomputable def oB (b : Bool) : OV := some (.bool b)
/-- of an optional value, more -/
noncomputable def thenV (f : Value → OV) (o : OV) : OV := @Option.rec Value (fun _ => OV) none f o

noncomputable def pMov (x : Operand) (fr : FV) (_ : HS) : OV := some (evE x fr)
noncomputable def pPick (c a b : Operand) (fr : FV) (_ : HS) : OV := @VB.rec (fun _ => OV) none (fun t => some (@Bool.rec (fun _ => Value) (evE b fr) (evE a fr) t)) (asB (evE c fr))
/-- a function, none that is a round -/
def isFn (f : Fn) (o : OV) : OV := @Fn.casesOn (fun _ => OV) f (fun _ => o) (fun _ => none) (fun _ _ => none) (fun _ _ _ _ => none) (fun _ => none)
noncomputable def pNilck (x : Operand) (fr : FV) (_ : HS) : OV :=
  @VP.rec (fun _ => OV) (@VF.rec (fun _ => OV) (@VX.rec (fun _ => OV) none none (fun t v => some (.iface t v)) (asX (evE x fr))) none (fun f a b => isFn f (some (.func f a b))) (asF (evE x fr))) none (fun a => some (.pointer (some a))) (asP (evE x fr))
noncomputable def pBin (op : BinOp) (x y : Operand) (fr : FV) (_ : HS) : OV := binE op (evE x fr) (evE y fr)
noncomputable def negIf (neg b : Bool) : Bool := @Bool.rec (fun _ => Bool) b (notB b) neg
noncomputable def pBeq (neg : Bool) (x y : Operand) (fr : FV) (_ : HS) : OV := @VB.rec (fun _ => OV) none (fun a => @VB.rec (fun _ => OV) none (fun b => oB (negIf neg (eqB a b))) (asB (evE y fr))) (asB (evE x fr))
noncomputable def isNone' {α : Type} (a : Option α) : Bool := @Option.rec α (fun _ => Bool) true (fun _ => false) a
noncomputable def nilOfL (neg : Bool) (v : Value) : OV := @VL.rec (fun _ => OV) none (fun a _ _ => oB (negIf neg (isNone' a))) (asL v)
noncomputable def nilOfP (neg : Bool) (v : Value) : OV := @VP.rec (fun _ => OV) none (oB (negIf neg true)) (fun _ => oB (negIf neg false)) (asP v)
noncomputable def nilOfM (neg : Bool) (v : Value) : OV := @VM.rec (fun _ => OV) none (fun a => oB (negIf neg (isNone' a))) (asM v)
noncomputable def nilOfF (neg : Bool) (v : Value) : OV := @VF.rec (fun _ => OV) none (oB (negIf neg true)) (fun _ _ _ => oB (negIf neg false)) (asF v)
noncomputable def nilOfX (neg : Bool) (v : Value) : OV := @VX.rec (fun _ => OV) none (oB (negIf neg true)) (fun _ _ => oB (negIf neg false)) (asX v)
noncomputable def nilE (c : Value) : Bool → Value → OV :=
  @Value.casesOn (fun _ => Bool → Value → OV) c (fun _ _ _ => none) (fun _ _ _ _ => none) (fun _ _ _ _ => none) (fun _ _ _ _ _ => none) (fun _ _ _ => none)
    (fun a => @Option.rec Addr (fun _ => Bool → Value → OV) nilOfP (fun _ _ _ => none) a) (fun a _ _ => @Option.rec Addr (fun _ => Bool → Value → OV) nilOfL (fun _ _ _ => none) a) (fun a => @Option.rec Nat (fun _ => Bool → Value → OV) nilOfM (fun _ _ _ => none) a)
    (fun _ _ _ => none) (fun _ _ _ _ _ => none) nilOfF (fun _ _ _ _ => none) nilOfX (fun _ _ _ => none) (fun _ _ _ => none)
noncomputable def pIsnil (neg : Bool) (c : Value) (x : Operand) (fr : FV) (_ : HS) : OV := nilE c neg (evE x fr)
noncomputable def unN (op : UnOp) (v : Value) : OV := @VI.rec (fun _ => OV) none (fun k n => pureOf (Op.unary op (.int k n))) (asI v)
noncomputable def notV (v : Value) : OV := @VB.rec (fun _ => OV) none (fun b => oB (notB b)) (asB v)
noncomputable def unE : UnOp → Value → OV := @UnOp.rec (fun _ => Value → OV) (unN .neg) (unN .xor) notV (unN .plus)
noncomputable def pUn (op : UnOp) (x : Operand) (fr : FV) (_ : HS) : OV := unE op (evE x fr)
noncomputable def pI2i (k : IntKind) (x : Operand) (fr : FV) (_ : HS) : OV := @VI.rec (fun _ => OV) none (fun _ n => some (.int k (wrapE k n))) (asI (evE x fr))
noncomputable def pI2s (x : Operand) (fr : FV) (_ : HS) : OV := @VI.rec (fun _ => OV) none (fun _ n => some (.string (Utf8.encode n))) (asI (evE x fr))
noncomputable def pS2s (x : Operand) (fr : FV) (_ : HS) : OV := @VS.rec (fun _ => OV) none (fun s => some (.string s)) (asS (evE x fr))
noncomputable def bytesE : List Value → Option (List UInt8) :=
  @List.rec Value (fun _ => Option (List UInt8)) (some []) (fun v _ ih => @VI.rec (fun _ => Option (List UInt8)) none (fun k n => @Bool.rec (fun _ => Option (List UInt8)) none (@Option.rec (List UInt8) (fun _ => Option (List UInt8)) none (fun r => some (UInt8.ofNat n.toNat :: r)) ih) (Nat.beq (ikNum k) 4)) (asI v))
noncomputable def strOfBytes (o : Option (List UInt8)) : OV := @Option.rec (List UInt8) (fun _ => OV) none (fun l => some (.string ⟨⟨l⟩⟩)) o
noncomputable def strOfCells (o : Option (List Value)) : OV := @Option.rec (List Value) (fun _ => OV) none (fun c => strOfBytes (bytesE c)) o
noncomputable def pB2s (x : Operand) (fr : FV) (h : HS) : OV := @VL.rec (fun _ => OV) none (fun a n _ => @Option.rec Addr (fun _ => OV) (some (.string ⟨⟨[]⟩⟩)) (fun a => strOfCells (cellsE h a n)) a) (asL (evE x fr))
noncomputable def pMkif (t : TypeId) (x : Operand) (fr : FV) (_ : HS) : OV := some (.iface t (evE x fr))
noncomputable def mapE : List Operand → FV → List Value := @List.rec Operand (fun _ => FV → List Value) (fun _ => []) (fun x _ ih fr => evE x fr :: ih fr)
noncomputable def pMkfn (f : FuncId) (a b : List Operand) (fr : FV) (_ : HS) : OV := some (.func (.func f) ⟨mapE a fr⟩ ⟨mapE b fr⟩)
/-- a bound of a slice expression -/
noncomputable def bndN (y : Nat) (n : Int) : Option Nat := @Int.rec (fun _ => Option Nat) (fun i => @Bool.rec (fun _ => Option Nat) none (some i) (Nat.ble i y)) (fun _ => none) n
noncomputable def bndE (d y : Nat) (o : Option Operand) (fr : FV) : Option Nat :=
  @Option.rec Operand (fun _ => Option Nat) (some d) (fun x => @VI.rec (fun _ => Option Nat) none (fun _ n => bndN y n) (asI (evE x fr))) o
noncomputable def thenN (f : Nat → OV) (o : Option Nat) : OV := @Option.rec Nat (fun _ => OV) none f o
noncomputable def subU (l : List UInt8) (lo hi : Nat) : List UInt8 := (l.drop lo).take (Nat.sub hi lo)
noncomputable def slSt (s : List UInt8) (lo hi : Option Operand) (fr : FV) (n : Nat) : OV :=
  thenN (fun h => thenN (fun l => some (.string ⟨⟨subU s l h⟩⟩)) (bndE 0 h lo fr)) (bndE n n hi fr)
noncomputable def pSlS (x : Operand) (lo hi : Option Operand) (fr : FV) (_ : HS) : OV := @VS.rec (fun _ => OV) none (fun s => slSt s.data.toList lo hi fr (lenE s.data.toList)) (asS (evE x fr))
noncomputable def elemO (o : Option EObj) (t : TypeId) : Bool := @Option.rec EObj (fun _ => Bool) false (fun o => @EObj.rec (fun _ => Bool) (fun _ e _ _ => Nat.beq e t) false (fun _ _ => false) (fun _ _ _ => false) (fun _ _ => false) o) o
noncomputable def slAt (elem : TypeId) (sz : Nat) (a : Option Addr) (l h m : Nat) (hs : HS) : OV :=
  @Option.rec Addr (fun _ => OV) (some (.slice none 0 0)) (fun a => @Bool.rec (fun _ => OV) none (@Bool.rec (fun _ => OV) none (some (.slice (some ⟨a.block, Nat.add a.off (Nat.mul l sz), none⟩) (Nat.sub h l) (Nat.sub m l))) (elemO (getP (path a.block) hs.t) elem)) (noSpot a)) a
noncomputable def slVt (elem : TypeId) (sz : Nat) (lo hi mx : Option Operand) (fr : FV) (hs : HS) (a : Option Addr) (len cap : Nat) : OV :=
  thenN (fun m => thenN (fun h => thenN (fun l => slAt elem sz a l h m hs) (bndE 0 h lo fr)) (bndE len m hi fr)) (bndE cap cap mx fr)
noncomputable def pSlV (elem : TypeId) (sz : Nat) (x : Operand) (lo hi mx : Option Operand) (fr : FV) (h : HS) : OV := @VL.rec (fun _ => OV) none (fun a n c => slVt elem sz lo hi mx fr h a n c) (asL (evE x fr))
noncomputable def pFa (off : Nat) (x : Operand) (fr : FV) (_ : HS) : OV := @VP.rec (fun _ => OV) none none (fun a => @Bool.rec (fun _ => OV) none (some (.pointer (some ⟨a.block, Nat.add a.off off, none⟩))) (noSpot a)) (asP (evE x fr))
noncomputable def aggO (o : Option (List Value)) : OV := @Option.rec (List Value) (fun _ => OV) none (fun l => some (.agg ⟨l⟩)) o
noncomputable def pFld (off n : Nat) (agg : Bool) (x : Operand) (fr : FV) (_ : HS) : OV := @VA.rec (fun _ => OV) none (fun cs => @Bool.rec (fun _ => OV) (nthE cs.toList off) (aggO (takeE cs.toList off n)) agg) (asA (evE x fr))
noncomputable def iaAt (sz : Nat) (a : Addr) (len i : Nat) : OV := @Bool.rec (fun _ => OV) none (@Bool.rec (fun _ => OV) none (some (.pointer (some ⟨a.block, Nat.add a.off (Nat.mul i sz), none⟩))) (Nat.blt i len)) (noSpot a)
noncomputable def iaN (sz : Nat) (a : Addr) (len : Nat) (n : Int) : OV := @Int.rec (fun _ => OV) (fun i => iaAt sz a len i) (fun _ => none) n
noncomputable def pIa (sz : Nat) (x i : Operand) (fr : FV) (_ : HS) : OV := @VL.rec (fun _ => OV) none (fun a len _ => @Option.rec Addr (fun _ => OV) none (fun a => @VI.rec (fun _ => OV) none (fun _ n => iaN sz a len n) (asI (evE i fr))) a) (asL (evE x fr))
noncomputable def nthU : List UInt8 → Nat → OV := @List.rec UInt8 (fun _ => Nat → OV) (fun _ => none) (fun b _ ih n => @Bool.rec (fun _ => OV) (ih (Nat.sub n 1)) (some (.int .u8 (.ofNat b.toNat))) (Nat.beq n 0))
noncomputable def ixN (s : List UInt8) (n : Int) : OV := @Int.rec (fun _ => OV) (fun i => nthU s i) (fun _ => none) n
noncomputable def pIxS (x i : Operand) (fr : FV) (_ : HS) : OV := @VS.rec (fun _ => OV) none (fun s => @VI.rec (fun _ => OV) none (fun _ n => ixN s.data.toList n) (asI (evE i fr))) (asS (evE x fr))

abbrev Ents := List (Value × Value)
inductive EntR where
  | no
  | yes (es : Ents) (ver : Nat)
noncomputable def entV (o : Option EObj) : EntR := @Option.rec EObj (fun _ => EntR) .no (fun o => @EObj.rec (fun _ => EntR) (fun _ _ _ _ => .no) .no (fun es ver => .yes es ver) (fun _ _ _ => .no) (fun _ _ => .no) o) o
noncomputable def entO (o : Option EObj) : Option Ents := @EntR.rec (fun _ => Option Ents) none (fun es _ => some es) (entV o)
noncomputable def entE (h : HS) (v : Value) : Option Ents := @VM.rec (fun _ => Option Ents) none (fun r => @Option.rec Nat (fun _ => Option Ents) (some []) (fun r => entO (getP (path r) h.t)) r) (asM v)
noncomputable def isKeyE (str : Bool) (v : Value) : Bool := @VI.rec (fun _ => Bool) (@VS.rec (fun _ => Bool) false (fun _ => str) (asS v)) (fun _ _ => notB str) (asI v)
inductive KE where
  | bad
  | same
  | apart
noncomputable def keB (b : Bool) : KE := @Bool.rec (fun _ => KE) .apart .same b
noncomputable def keyE (a b : Value) : KE :=
  @VI.rec (fun _ => KE) (@VS.rec (fun _ => KE) .bad (fun s => @VS.rec (fun _ => KE) .bad (fun t => keB (eqU s.data.toList t.data.toList)) (asS b)) (asS a))
    (fun j m => @VI.rec (fun _ => KE) .bad (fun k n => @Bool.rec (fun _ => KE) .bad (keB (eqI m n)) (Nat.beq (ikNum j) (ikNum k))) (asI b)) (asI a)
inductive LK where
  | bad
  | no
  | yes (v : Value)
noncomputable def lookE (k : Value) : Ents → LK := @List.rec (Value × Value) (fun _ => LK) .no (fun p _ ih => @KE.rec (fun _ => LK) .bad (.yes p.2) ih (keyE k p.1))
noncomputable def lkV (zero : Value) (ok : Bool) (l : LK) : OV :=
  @LK.rec (fun _ => OV) none (some (@Bool.rec (fun _ => Value) zero (.tuple ⟨[zero, .bool false]⟩) ok)) (fun v => some (@Bool.rec (fun _ => Value) v (.tuple ⟨[v, .bool true]⟩) ok)) l
noncomputable def pLookup (str : Bool) (zero : Value) (ok : Bool) (m k : Operand) (fr : FV) (h : HS) : OV :=
  @Option.rec Ents (fun _ => OV) none (fun es => @Bool.rec (fun _ => OV) none (lkV zero ok (lookE (evE k fr) es)) (isKeyE str (evE k fr))) (entE h (evE m fr))
noncomputable def pTa (t : TypeId) (zero : Value) (ok : Bool) (x : Operand) (fr : FV) (_ : HS) : OV :=
  @VX.rec (fun _ => OV) none (@Bool.rec (fun _ => OV) none (some (.tuple ⟨[zero, .bool false]⟩)) ok)
    (fun u v => @Bool.rec (fun _ => OV) (@Bool.rec (fun _ => OV) none (some (.tuple ⟨[zero, .bool false]⟩)) ok) (some (@Bool.rec (fun _ => Value) v (.tuple ⟨[v, .bool true]⟩) ok)) (Nat.beq u t)) (asX (evE x fr))
noncomputable def pExt (x : Operand) (i : Nat) (fr : FV) (_ : HS) : OV := @VA.rec (fun _ => OV) none (fun vs => nthE vs.toList i) (asT (evE x fr))
noncomputable def intV (n : Nat) : Value := .int .i64 (.ofNat n)
noncomputable def pLenS (x : Operand) (fr : FV) (_ : HS) : OV := @VS.rec (fun _ => OV) none (fun s => some (intV (lenE s.data.toList))) (asS (evE x fr))
noncomputable def pLenV (x : Operand) (fr : FV) (_ : HS) : OV := @VL.rec (fun _ => OV) none (fun _ n _ => some (intV n)) (asL (evE x fr))
noncomputable def pLenM (x : Operand) (fr : FV) (h : HS) : OV := @Option.rec Ents (fun _ => OV) none (fun es => some (intV (lenE es))) (entE h (evE x fr))
noncomputable def pLd1 (x : Operand) (fr : FV) (h : HS) : OV := @VP.rec (fun _ => OV) none none (fun a => cellE h a) (asP (evE x fr))
noncomputable def pLdN (n : Nat) (x : Operand) (fr : FV) (h : HS) : OV := @VP.rec (fun _ => OV) none none (fun a => aggO (cellsE h a n)) (asP (evE x fr))
noncomputable def cellsV (v : Value) : List Value := @VA.rec (fun _ => List Value) [v] (fun a => a.toList) (asA v)
noncomputable def fillE (fr : FV) : List (Nat × Nat × Operand) → List Value → Option (List Value) :=
  @List.rec (Nat × Nat × Operand) (fun _ => List Value → Option (List Value)) (fun l => some l)
    (fun p _ ih l => @Bool.rec (fun _ => Option (List Value)) none (@Option.rec (List Value) (fun _ => Option (List Value)) none ih (putE (cellsV (evE p.2.2 fr)) l p.1)) (Nat.beq (lenE (cellsV (evE p.2.2 fr))) p.2.1))
noncomputable def pBuild (zero : List Value) (parts : List (Nat × Nat × Operand)) (fr : FV) (_ : HS) : OV := aggO (fillE fr parts zero)
noncomputable def pCapV (x : Operand) (fr : FV) (_ : HS) : OV := @VL.rec (fun _ => OV) none (fun a _ _ => @Option.rec Addr (fun _ => OV) (some (.int .i64 (.ofNat 0))) (fun _ => none) a) (asL (evE x fr))
noncomputable def enLk (k : Value) (l : LK) : OV := @LK.rec (fun _ => OV) none none (fun v => some (.tuple ⟨[k, v]⟩)) l
noncomputable def enMap (ver : Nat) (k : Value) (e : EntR) : OV := @EntR.rec (fun _ => OV) none (fun es v => @Bool.rec (fun _ => OV) none (enLk k (lookE k es)) (Nat.beq v ver)) e
noncomputable def enSeen (h : HS) (m ver : Nat) (seen : List Value) : OV := @List.rec Value (fun _ => OV) none (fun k _ _ => enMap ver k (entV (getP (path m) h.t))) seen
noncomputable def enIt (h : HS) (o : Option EObj) : OV :=
  @Option.rec EObj (fun _ => OV) none (fun o => @EObj.rec (fun _ => OV) (fun _ _ _ _ => none) none (fun _ _ => none) (fun m ver seen => @Option.rec Nat (fun _ => OV) none (fun m => enSeen h m ver seen) m) (fun _ _ => none) o) o
noncomputable def pEntry (x : Operand) (fr : FV) (h : HS) : OV :=
  @VP.rec (fun _ => OV) none none (fun a => @Bool.rec (fun _ => OV) none (@Bool.rec (fun _ => OV) none (enIt h (getP (path a.block) h.t)) (Nat.beq a.off 0)) (noSpot a)) (asP (evE x fr))
noncomputable def pSlowE (o : POp) (fr : FV) (E : LE) (h : HS) : OV := pev o (fun x => evE x fr) (den E h)
noncomputable def pMm (max : Bool) (x y : Operand) (fr : FV) (h : HS) : OV := pSlowE (.mm max x y) fr (fun _ => none) h
noncomputable def pCmp (x y : Operand) (fr : FV) (h : HS) : OV := pSlowE (.cmp x y) fr (fun _ => none) h
noncomputable def pEqI (neg : Bool) (ok u8 : List TypeId) (x y : Operand) (fr : FV) (h : HS) : OV := pSlowE (.eqI neg ok u8 x y) fr (fun _ => none) h

noncomputable def pevE : POp → FV → HS → OV :=
  @POp.rec (fun _ => FV → HS → OV) pMov pPick pNilck pBin pBeq pIsnil pUn pI2i pI2s pS2s pB2s pMkif pMkfn pSlS pSlV pFa pFld pIa pIxS pLookup pTa pExt pLenS pLenV pLenM pLd1 pLdN pBuild pMm pCmp pEqI pCapV pEntry



-- objects ------------------------------------------------------------------------------------------
inductive AR where
  | bad
  | ok (o : EObj) (v : Value)
noncomputable def bptr (b : Nat) : Value := .pointer (some ⟨b, 0, none⟩)
noncomputable def bsl (b n c : Nat) : Value := .slice (some ⟨b, 0, none⟩) n c
noncomputable def zerosE (zero : List Value) : Nat → List Value := @Nat.rec (fun _ => List Value) [] (fun _ ih => catE zero ih)
noncomputable def aAlloc (elem : TypeId) (zs : List Value) (_ : FV) (b : Nat) : AR := .ok (.cells zs elem b 0) (bptr b)
noncomputable def aBox (elem : TypeId) (x : Operand) (fr : FV) (b : Nat) : AR := .ok (.cells (cellsV (evE x fr)) elem b 0) (bptr b)
noncomputable def aBsl (elem : TypeId) (zero : List Value) (len : Nat) (parts : List (Nat × Nat × Operand)) (fr : FV) (b : Nat) : AR :=
  @Option.rec (List Value) (fun _ => AR) .bad (fun l => .ok (.cells l elem b 0) (bsl b len len)) (fillE fr parts (zerosE zero len))
noncomputable def aMkmap (_ : FV) (b : Nat) : AR := .ok (.map [] 0) (.map (some b))
noncomputable def mkslN (elem : TypeId) (bytes : Nat) (zero : List Value) (b l c : Nat) : AR :=
  @Bool.rec (fun _ => AR) .bad (@Bool.rec (fun _ => AR) .bad (.ok (.cells (zerosE zero c) elem b 0) (bsl b l c)) (Nat.ble (Nat.mul (Nat.add bytes 1) c) 1099511627776)) (Nat.ble l c)
noncomputable def natOf (v : Value) : Option Nat := @VI.rec (fun _ => Option Nat) none (fun _ n => @Int.rec (fun _ => Option Nat) (fun m => some m) (fun _ => none) n) (asI v)
noncomputable def aMksl (elem : TypeId) (bytes : Nat) (zero : List Value) (len cap : Operand) (fr : FV) (b : Nat) : AR :=
  @Option.rec Nat (fun _ => AR) .bad (fun l => @Option.rec Nat (fun _ => AR) .bad (fun c => mkslN elem bytes zero b l c) (natOf (evE cap fr))) (natOf (evE len fr))
noncomputable def cellsU : List UInt8 → List Value := @List.rec UInt8 (fun _ => List Value) [] (fun c _ ih => .int .u8 (.ofNat c.toNat) :: ih)
noncomputable def aS2b (elem : TypeId) (x : Operand) (fr : FV) (b : Nat) : AR :=
  @VS.rec (fun _ => AR) .bad (fun s => .ok (.cells (cellsU s.data.toList) elem b 0) (bsl b (lenE s.data.toList) (lenE s.data.toList))) (asS (evE x fr))
noncomputable def aevE : AOp → FV → Nat → AR := @AOp.rec (fun _ => FV → Nat → AR) aAlloc aBox aBsl aMkmap aMksl aS2b

-- effects ------------------------------------------------------------------------------------------
noncomputable def addAt (o : EObj) (n : Nat) (t : FT EObj) (ro inj : Nat) (cls : FT (List (Nat × Nat))) : HS := ⟨setP o (path n) t, Nat.add n 1, ro, inj, cls⟩
noncomputable def addH (h : HS) (o : EObj) : HS :=
  @HS.rec (fun _ => HS) (fun t next ro inj cls => @Nat.rec (fun _ => HS) (addAt o 0 t ro inj cls) (fun m _ => addAt o (Nat.succ m) t ro inj cls) next) h
abbrev Mem := List (Nat × Nat)
noncomputable def lenO (c : Nat) (o : Option EObj) : Mem := @Option.rec EObj (fun _ => Mem) [] (fun o => @EObj.rec (fun _ => Mem) (fun l _ _ _ => [(c, lenE l)]) [] (fun _ _ => []) (fun _ _ _ => []) (fun _ _ => []) o) o
noncomputable def membersE (h : HS) (c : Nat) : Mem := @Option.rec Mem (fun _ => Mem) (lenO c (getP (path c) h.t)) (fun l => l) (getP (path c) h.cls)
noncomputable def killE (b p : Nat) : Mem → FT EObj → FT EObj :=
  @List.rec (Nat × Nat) (fun _ => FT EObj → FT EObj) (fun t => t)
    (fun m _ ih t => @Bool.rec (fun _ => FT EObj) (@Bool.rec (fun _ => FT EObj) (ih t) (setP .dead (path m.1) (ih t)) (Nat.blt p m.2)) (ih t) (Nat.beq m.1 b))
noncomputable def keepE (b p : Nat) : Mem → Mem :=
  @List.rec (Nat × Nat) (fun _ => Mem) [] (fun m _ ih => @Bool.rec (fun _ => Mem) (@Bool.rec (fun _ => Mem) ih (m :: ih) (Nat.ble m.2 p)) ih (Nat.beq m.1 b))
noncomputable def touchE (h : HS) (c b p e : Nat) (l : Mem) : HS := @HS.rec (fun _ => HS) (fun t next ro inj cls => ⟨killE b p l t, next, ro, inj, setP ((b, e) :: keepE b p l) (path c) cls⟩) h
noncomputable def oneE (v : Value) : Bool := @VA.rec (fun _ => Bool) (@VA.rec (fun _ => Bool) true (fun _ => false) (asT v)) (fun _ => false) (asA v)
noncomputable def onesE : List Value → Bool := @List.rec Value (fun _ => Bool) true (fun v _ ih => @Bool.rec (fun _ => Bool) false ih (oneE v))
abbrev OH := Option HS
noncomputable def setH (h : HS) (b : Nat) (o : EObj) : HS := @HS.rec (fun _ => HS) (fun t next ro inj cls => ⟨setP o (path b) t, next, ro, inj, cls⟩) h
noncomputable def putRow (h : HS) (a : Addr) (vs c : List Value) (elem cls rel : Nat) : OH :=
  @Option.rec (List Value) (fun _ => OH) none (fun c' => some (setH (touchE h cls a.block (Nat.add rel a.off) (Nat.add rel (lenE c)) (membersE h cls)) a.block (.cells c' elem cls rel))) (putE vs c a.off)
noncomputable def putO (h : HS) (a : Addr) (vs : List Value) (o : Option EObj) : OH :=
  @Option.rec EObj (fun _ => OH) none (fun o => @EObj.rec (fun _ => OH) (fun c elem cls rel => putRow h a vs c elem cls rel) none (fun _ _ => none) (fun _ _ _ => none) (fun _ _ => none) o) o
noncomputable def putH (h : HS) (a : Addr) (vs : List Value) : OH :=
  @Bool.rec (fun _ => OH) none (@Bool.rec (fun _ => OH) none (@Bool.rec (fun _ => OH) none (putO h a vs (getP (path a.block) h.t)) (onesE vs)) (Nat.ble h.ro a.block)) (noSpot a)

inductive ER where
  | bad
  | ok (v : Value) (h : HS)
noncomputable def erOf (v : Value) (o : OH) : ER := @Option.rec HS (fun _ => ER) .bad (fun h => .ok v h) o
noncomputable def eSt1 (a x : Operand) (fr : FV) (h : HS) : ER :=
  @VP.rec (fun _ => ER) .bad .bad (fun a => @List.rec Value (fun _ => ER) .bad (fun v r _ => @List.rec Value (fun _ => ER) (erOf cundef (putH h a [v])) (fun _ _ _ => .bad) r) (cellsV (evE x fr))) (asP (evE a fr))
noncomputable def eStN (n : Nat) (a x : Operand) (fr : FV) (h : HS) : ER :=
  @VP.rec (fun _ => ER) .bad .bad (fun a => @Bool.rec (fun _ => ER) .bad (erOf cundef (putH h a (cellsV (evE x fr)))) (Nat.beq (lenE (cellsV (evE x fr))) n)) (asP (evE a fr))
noncomputable def mputE (k v : Value) : Ents → Option Ents :=
  @List.rec (Value × Value) (fun _ => Option Ents) (some [(k, v)]) (fun p l ih => @KE.rec (fun _ => Option Ents) none (some ((k, v) :: l)) (@Option.rec Ents (fun _ => Option Ents) none (fun r => some (p :: r)) ih) (keyE k p.1))
noncomputable def mdelE (k : Value) : Ents → Option Ents :=
  @List.rec (Value × Value) (fun _ => Option Ents) (some []) (fun p l ih => @KE.rec (fun _ => Option Ents) none (some l) (@Option.rec Ents (fun _ => Option Ents) none (fun r => some (p :: r)) ih) (keyE k p.1))
noncomputable def mapSet (h : HS) (r ver : Nat) (o : Option Ents) : OH := @Option.rec Ents (fun _ => OH) none (fun es => some (setH h r (.map es (Nat.add ver 1)))) o
noncomputable def eMapupd (str : Bool) (m k x : Operand) (fr : FV) (h : HS) : ER :=
  @VM.rec (fun _ => ER) .bad (fun r => @Option.rec Nat (fun _ => ER) .bad (fun r => @EntR.rec (fun _ => ER) .bad (fun es ver => @Bool.rec (fun _ => ER) .bad (@Bool.rec (fun _ => ER) .bad (erOf cundef (mapSet h r ver (mputE (evE k fr) (evE x fr) es))) (Nat.ble h.ro r)) (isKeyE str (evE k fr))) (entV (getP (path r) h.t))) r) (asM (evE m fr))
noncomputable def eDelete (str : Bool) (m k : Operand) (fr : FV) (h : HS) : ER :=
  @VM.rec (fun _ => ER) .bad (fun r => @Option.rec Nat (fun _ => ER) (@Bool.rec (fun _ => ER) .bad (.ok cundef h) (isKeyE str (evE k fr))) (fun r => @EntR.rec (fun _ => ER) .bad (fun es ver => @Bool.rec (fun _ => ER) .bad (@Bool.rec (fun _ => ER) .bad (erOf cundef (mapSet h r ver (mdelE (evE k fr) es))) (Nat.ble h.ro r)) (isKeyE str (evE k fr))) (entV (getP (path r) h.t))) r) (asM (evE m fr))
/-- an iterator; the entries that it has not handed out: none, or one alone -/
noncomputable def eRange (x : Operand) (fr : FV) (h : HS) : ER :=
  @VM.rec (fun _ => ER) .bad (fun r => @Option.rec Nat (fun _ => ER) (.ok (bptr h.next) (addH h (.iter none 0 []))) (fun r => @EntR.rec (fun _ => ER) .bad (fun _ ver => .ok (bptr h.next) (addH h (.iter (some r) ver []))) (entV (getP (path r) h.t))) r) (asM (evE x fr))
noncomputable def isSame (k : KE) : Bool := @KE.rec (fun _ => Bool) false true false k
/-- is a key not among these? -/
noncomputable def notIn (k : Value) : List Value → Bool := @List.rec Value (fun _ => Bool) true (fun a _ ih => @KE.rec (fun _ => Bool) false false ih (keyE a k))
noncomputable def leftE (seen : List Value) : Ents → Ents := @List.rec (Value × Value) (fun _ => Ents) [] (fun p _ ih => @Bool.rec (fun _ => Ents) ih (p :: ih) (notIn p.1 seen))
noncomputable def keysOk : Ents → Bool := @List.rec (Value × Value) (fun _ => Bool) true (fun p _ ih => @Bool.rec (fun _ => Bool) false ih (isSame (keyE p.1 p.1)))
/-- keys that can be told apart -/
noncomputable def noBad (k : Value) : List Value → Bool := @List.rec Value (fun _ => Bool) true (fun a _ ih => @KE.rec (fun _ => Bool) false ih ih (keyE a k))
noncomputable def okAll (seen : List Value) : Ents → Bool := @List.rec (Value × Value) (fun _ => Bool) true (fun p _ ih => @Bool.rec (fun _ => Bool) false ih (noBad p.1 seen))
noncomputable def nxOne (h : HS) (r m ver : Nat) (seen : List Value) (p : Value × Value) (l : Ents) : ER := @List.rec (Value × Value) (fun _ => ER) (.ok (.tuple ⟨[.bool true, p.1, p.2]⟩) (setH h r (.iter (some m) ver (p.1 :: seen)))) (fun _ _ _ => .bad) l
noncomputable def nxLeft (h : HS) (r m ver : Nat) (seen : List Value) (l : Ents) : ER := @List.rec (Value × Value) (fun _ => ER) (.ok (.tuple ⟨[.bool false]⟩) h) (fun p l _ => nxOne h r m ver seen p l) l
noncomputable def nxMap (h : HS) (r m ver : Nat) (seen : List Value) (e : EntR) : ER :=
  @EntR.rec (fun _ => ER) .bad (fun es v => @Bool.rec (fun _ => ER) .bad (@Bool.rec (fun _ => ER) .bad (@Bool.rec (fun _ => ER) .bad (@Bool.rec (fun _ => ER) .bad (nxLeft h r m ver seen (leftE seen es)) (okAll seen es)) (keysOk es)) (Nat.ble h.ro r)) (Nat.beq v ver)) e
noncomputable def nxIt (h : HS) (r : Nat) (o : Option EObj) : ER :=
  @Option.rec EObj (fun _ => ER) .bad (fun o => @EObj.rec (fun _ => ER) (fun _ _ _ _ => .bad) .bad (fun _ _ => .bad) (fun m ver seen => @Option.rec Nat (fun _ => ER) (.ok (.tuple ⟨[.bool false]⟩) h) (fun m => nxMap h r m ver seen (entV (getP (path m) h.t))) m) (fun _ _ => .bad) o) o
noncomputable def eNext (x : Operand) (fr : FV) (h : HS) : ER :=
  @VP.rec (fun _ => ER) .bad .bad (fun a => @Bool.rec (fun _ => ER) .bad (@Bool.rec (fun _ => ER) .bad (nxIt h a.block (getP (path a.block) h.t)) (Nat.beq a.off 0)) (noSpot a)) (asP (evE x fr))
noncomputable def takeU : List UInt8 → Nat → List Value := @List.rec UInt8 (fun _ => Nat → List Value) (fun _ => []) (fun c _ ih n => @Bool.rec (fun _ => List Value) (.int .u8 (.ofNat c.toNat) :: ih (Nat.sub n 1)) [] (Nat.beq n 0))
noncomputable def firstH (h : HS) (sz n : Nat) (v : Value) : Option (List Value) :=
  @VL.rec (fun _ => Option (List Value)) (@VS.rec (fun _ => Option (List Value)) none (fun s => @Bool.rec (fun _ => Option (List Value)) none (some (takeU s.data.toList n)) (Nat.beq sz 1)) (asS v))
    (fun a _ _ => @Option.rec Addr (fun _ => Option (List Value)) (some []) (fun a => @Bool.rec (fun _ => Option (List Value)) (cellsE h a (Nat.mul n sz)) (some []) (Nat.beq n 0)) a) (asL v)
noncomputable def lenVE (v : Value) : Option Nat := @VL.rec (fun _ => Option Nat) (@VS.rec (fun _ => Option Nat) none (fun s => some (lenE s.data.toList)) (asS v)) (fun _ n _ => some n) (asL v)
noncomputable def capOkE (need bytes : Nat) : Bool := @Bool.rec (fun _ => Bool) false (Nat.ble need 1099511627776) (Nat.ble (Nat.mul (Nat.add (Nat.mul 2 need) 2000) bytes) 1099511627776)
noncomputable def growE (h : HS) (cl p : Nat) (cs : List Value) (E rel : Nat) : HS := addH (touchE h cl h.next p (Nat.add rel (lenE cs)) (membersE h cl)) (.cells cs E cl rel)
noncomputable def apRow (elem sz n : Nat) (h : HS) (a : Addr) (sLen : Nat) (new c : List Value) (elem' cls rel : Nat) : ER :=
  @Bool.rec (fun _ => ER) .bad (@Option.rec (List Value) (fun _ => ER) .bad (fun old => .ok (bsl h.next (Nat.add sLen n) (Nat.add sLen n)) (growE h cls (Nat.add (Nat.add rel a.off) (Nat.mul sLen sz)) (catE old new) elem (Nat.add rel a.off))) (takeE c a.off (Nat.mul sLen sz))) (Nat.beq elem' elem)
noncomputable def apO (elem sz n : Nat) (h : HS) (a : Addr) (sLen : Nat) (new : List Value) (o : Option EObj) : ER :=
  @Option.rec EObj (fun _ => ER) .bad (fun o => @EObj.rec (fun _ => ER) (fun c elem' cls rel => apRow elem sz n h a sLen new c elem' cls rel) .bad (fun _ _ => .bad) (fun _ _ _ => .bad) (fun _ _ => .bad) o) o
noncomputable def apNew (elem sz n : Nat) (h : HS) (base : Option Addr) (sLen : Nat) (new : List Value) : ER :=
  @Option.rec Addr (fun _ => ER) (.ok (bsl h.next (Nat.add sLen n) (Nat.add sLen n)) (addH h (.cells new elem h.next 0)))
    (fun a => @Bool.rec (fun _ => ER) .bad (@Bool.rec (fun _ => ER) .bad (apO elem sz n h a sLen new (getP (path a.block) h.t)) (Nat.ble h.ro a.block)) (noSpot a)) base
noncomputable def apIn (sz n : Nat) (h : HS) (base : Option Addr) (sLen sCap : Nat) (new : List Value) : ER :=
  @Option.rec Addr (fun _ => ER) (.ok (.slice none (Nat.add sLen n) sCap) h)
    (fun a => @Bool.rec (fun _ => ER) (erOf (.slice base (Nat.add sLen n) sCap) (putH h ⟨a.block, Nat.add a.off (Nat.mul sLen sz), a.spot⟩ new)) (.ok (.slice base (Nat.add sLen n) sCap) h) (Nat.beq n 0)) base
noncomputable def apWith (elem sz bytes : Nat) (h : HS) (base : Option Addr) (sLen sCap n : Nat) (new : List Value) : ER :=
  @Bool.rec (fun _ => ER) (@Bool.rec (fun _ => ER) .bad (@Bool.rec (fun _ => ER) .bad (apNew elem sz n h base sLen new) (onesE new)) (capOkE (Nat.add sLen n) bytes)) (apIn sz n h base sLen sCap new) (Nat.ble (Nat.add sLen n) sCap)
noncomputable def eAppend (elem : TypeId) (sz bytes : Nat) (s x : Operand) (fr : FV) (h : HS) : ER :=
  @VL.rec (fun _ => ER) .bad (fun base sLen sCap => @Option.rec Nat (fun _ => ER) .bad (fun n => @Option.rec (List Value) (fun _ => ER) .bad (fun new => apWith elem sz bytes h base sLen sCap n new) (firstH h sz n (evE x fr))) (lenVE (evE x fr))) (asL (evE s fr))
noncomputable def minE (a b : Nat) : Nat := @Bool.rec (fun _ => Nat) b a (Nat.ble a b)
noncomputable def isNil' (l : List Value) : Bool := @List.rec Value (fun _ => Bool) true (fun _ _ _ => false) l
noncomputable def cpTo (h : HS) (base : Option Addr) (n : Nat) (vs : List Value) : ER :=
  @Option.rec Addr (fun _ => ER) (.ok (intV n) h) (fun a => @Bool.rec (fun _ => ER) (erOf (intV n) (putH h a vs)) (.ok (intV n) h) (isNil' vs)) base
noncomputable def eCopy (sz : Nat) (d s : Operand) (fr : FV) (h : HS) : ER :=
  @VL.rec (fun _ => ER) .bad (fun base dLen _ => @Option.rec Nat (fun _ => ER) .bad (fun m => @Option.rec (List Value) (fun _ => ER) .bad (fun vs => cpTo h base (minE m dLen) vs) (firstH h sz (minE m dLen) (evE s fr))) (lenVE (evE s fr))) (asL (evE d fr))
noncomputable def eClear (zero : List Value) (s : Operand) (fr : FV) (h : HS) : ER :=
  @VL.rec (fun _ => ER) .bad (fun a n _ => @Option.rec Addr (fun _ => ER) (.ok cundef h) (fun a => @Bool.rec (fun _ => ER) (erOf cundef (putH h a (zerosE zero n))) (.ok cundef h) (Nat.beq n 0)) a) (asL (evE s fr))
noncomputable def eStrish (elem : TypeId) (x : Operand) (fr : FV) (h : HS) : ER :=
  @VL.rec (fun _ => ER) .bad (fun a n c => @Option.rec Addr (fun _ => ER) .bad (fun a => @Bool.rec (fun _ => ER) .bad (@Bool.rec (fun _ => ER) .bad (@Bool.rec (fun _ => ER) .bad (@Bool.rec (fun _ => ER) .bad (.ok (.slice (some a) n c) h) (elemO (getP (path a.block) h.t) elem)) (Nat.blt 0 c)) (Nat.ble h.ro a.block)) (noSpot a)) a) (asL (evE x fr))

abbrev CF := LE → Fn → List Value → HS → ER
noncomputable def eCall (f : FuncId) (args : List Operand) (C : CF) (E : LE) (fr : FV) (h : HS) : ER := C E (.func f) (mapE args fr) h
noncomputable def eCallv (x : Operand) (args : List Operand) (C : CF) (E : LE) (fr : FV) (h : HS) : ER := @VF.rec (fun _ => ER) .bad .bad (fun f a b => C E f (catE a.toList (catE (mapE args fr) b.toList)) h) (asF (evE x fr))
noncomputable def noC (g : FV → HS → ER) (_ : CF) (_ : LE) : FV → HS → ER := g
noncomputable def eevE : EOp → CF → LE → FV → HS → ER :=
  @EOp.rec (fun _ => CF → LE → FV → HS → ER) (fun a x => noC (eSt1 a x)) (fun n a x => noC (eStN n a x)) (fun s m k x => noC (eMapupd s m k x)) (fun s m k => noC (eDelete s m k)) (fun e sz b s x => noC (eAppend e sz b s x))
    (fun sz d s => noC (eCopy sz d s)) (fun z s => noC (eClear z s)) eCall eCallv (fun e x => noC (eStrish e x)) (fun x => noC (eRange x)) (fun x => noC (eNext x))

-- steps, code --------------------------------------------------------------------------------------
inductive SR where
  | bad
  | ok (fr : FV) (h : HS)
noncomputable def setD (d : Option Tmp) (v : Value) (fr : FV) : FV := @Option.rec Tmp (fun _ => FV) fr (fun t => setP v (path t) fr) d
/-- a number, a value, as far as it is needed to go on -/
noncomputable def natF (n : Nat) (k : Nat → SR) : SR := @Nat.rec (fun _ => SR) (k 0) (fun m _ => k (Nat.succ m)) n
noncomputable def intF (j : IntKind) (n : Int) (k : Value → SR) : SR := @Int.rec (fun _ => SR) (fun m => natF m (fun m => k (.int j (.ofNat m)))) (fun m => natF m (fun m => k (.int j (.negSucc m)))) n
noncomputable def boolF (b : Bool) (k : Value → SR) : SR := @Bool.rec (fun _ => SR) (k (.bool false)) (k (.bool true)) b
noncomputable def adF (a : Addr) (k : Addr → SR) : SR := @Addr.rec (fun _ => SR) (fun b o s => natF b (fun b => natF o (fun o => k ⟨b, o, s⟩))) a
noncomputable def ptrF (a : Option Addr) (k : Value → SR) : SR := @Option.rec Addr (fun _ => SR) (k (.pointer none)) (fun a => adF a (fun a => k (.pointer (some a)))) a
noncomputable def slcF (a : Option Addr) (n c : Nat) (k : Value → SR) : SR := natF n (fun n => natF c (fun c => @Option.rec Addr (fun _ => SR) (k (.slice none n c)) (fun a => adF a (fun a => k (.slice (some a) n c))) a))
noncomputable def mapF (r : Option Nat) (k : Value → SR) : SR := @Option.rec Nat (fun _ => SR) (k (.map none)) (fun r => natF r (fun r => k (.map (some r)))) r
noncomputable def frcV (v : Value) (k : Value → SR) : SR :=
  @Value.rec (fun _ => SR) (fun _ => Unit) (fun _ => Unit) (fun b => boolF b k) (fun j n => intF j n k) (fun f b => k (.float f b)) (fun f a b => k (.complex f a b)) (fun s => k (.string s)) (fun a => ptrF a k) (fun a n c => slcF a n c k) (fun r => mapF r k) (fun r => k (.chan r))
    (fun f a b _ _ => k (.func f a b)) (k .nilFunc) (fun t v _ => k (.iface t v)) (k .nilIface) (fun a _ => k (.agg a)) (fun a _ => k (.tuple a)) (fun _ _ => ()) () (fun _ _ _ _ => ()) v
/-- .. if it is asked for -/
noncomputable def frcL (L : Bool) (v : Value) (k : Value → SR) : SR := @Bool.rec (fun _ => SR) (frcV v k) (k v) L
noncomputable def goP (L : Bool) (d : Option Tmp) (o : POp) (fr : FV) (h : HS) : SR := @Option.rec Value (fun _ => SR) .bad (fun v => frcL L v (fun v => .ok (setD d v fr) h)) (pevE o fr h)
noncomputable def goA (L : Bool) (d : Option Tmp) (o : AOp) (fr : FV) (h : HS) : SR := natF h.next (fun b => @AR.rec (fun _ => SR) .bad (fun obj v => frcL L v (fun v => .ok (setD d v fr) (addH h obj))) (aevE o fr b))
noncomputable def goE (L : Bool) (d : Option Tmp) (o : EOp) (C : CF) (E : LE) (fr : FV) (h : HS) : SR := @ER.rec (fun _ => SR) .bad (fun v h => frcL L v (fun v => .ok (setD d v fr) h)) (eevE o C E fr h)
noncomputable def goC (L : Bool) : COp → Option Tmp → CF → LE → FV → HS → SR :=
  @COp.rec (fun _ => Option Tmp → CF → LE → FV → HS → SR) (fun o d _ _ fr h => goP L d o fr h) (fun o d _ _ fr h => goA L d o fr h) (fun o d C E fr h => goE L d o C E fr h) (fun _ _ _ _ _ => .bad)
noncomputable def wantsE (fr : FV) (g : Tmp × Bool) : Bool := @VB.rec (fun _ => Bool) false (fun c => eqB c g.2) (asB (getV (path g.1) fr))
noncomputable def stepE (L : Bool) (C : CF) (E : LE) (s : CStep) (fr : FV) (h : HS) : SR :=
  @Option.rec (Tmp × Bool) (fun _ => SR) (goC L s.op s.dst C E fr h) (fun g => @Bool.rec (fun _ => SR) (.ok (setD s.dst cundef fr) h) (goC L s.op s.dst C E fr h) (wantsE fr g)) s.guard
noncomputable def stepsE (L : Bool) (C : CF) (E : LE) : List CStep → FV → HS → SR :=
  @List.rec CStep (fun _ => FV → HS → SR) (fun fr h => .ok fr h) (fun s _ ih fr h => @SR.rec (fun _ => SR) .bad ih (stepE L C E s fr h))

noncomputable def listEq (f : Value → Value → Bool) : List Value → List Value → Bool :=
  @List.rec Value (fun _ => List Value → Bool) (fun m => @List.rec Value (fun _ => Bool) true (fun _ _ _ => false) m)
    (fun a _ ih m => @List.rec Value (fun _ => Bool) false (fun b m _ => @Bool.rec (fun _ => Bool) false (ih m) (f a b)) m)
noncomputable def addrEq (a b : Addr) : Bool := @Bool.rec (fun _ => Bool) false (@Bool.rec (fun _ => Bool) false (@Bool.rec (fun _ => Bool) false (Nat.beq a.off b.off) (Nat.beq a.block b.block)) (noSpot b)) (noSpot a)
noncomputable def veI (v : Value) (k : IntKind) (n : Int) : Bool := @VI.rec (fun _ => Bool) false (fun j m => @Bool.rec (fun _ => Bool) false (eqI m n) (Nat.beq (ikNum j) (ikNum k))) (asI v)
noncomputable def veB (v : Value) (b : Bool) : Bool := @VB.rec (fun _ => Bool) false (fun c => eqB c b) (asB v)
noncomputable def veS (v : Value) (s : ByteArray) : Bool := @VS.rec (fun _ => Bool) false (fun t => eqU t.data.toList s.data.toList) (asS v)
noncomputable def veP (v : Value) (a : Option Addr) : Bool := @VP.rec (fun _ => Bool) false (isNone' a) (fun b => @Option.rec Addr (fun _ => Bool) false (fun a => addrEq b a) a) (asP v)
noncomputable def veL (v : Value) (a : Option Addr) (n c : Nat) : Bool :=
  @VL.rec (fun _ => Bool) false (fun a' n' c' => @Bool.rec (fun _ => Bool) false (@Bool.rec (fun _ => Bool) false (@Option.rec Addr (fun _ => Bool) (isNone' a) (fun b => @Option.rec Addr (fun _ => Bool) false (fun a => addrEq b a) a) a') (Nat.beq n' n)) (Nat.beq c' c)) (asL v)
noncomputable def veM (v : Value) (r : Option Nat) : Bool := @VM.rec (fun _ => Bool) false (fun r' => @Option.rec Nat (fun _ => Bool) (isNone' r) (fun b => @Option.rec Nat (fun _ => Bool) false (fun a => Nat.beq b a) r) r') (asM v)
noncomputable def veF (v : Value) : Bool := @VF.rec (fun _ => Bool) false true (fun _ _ _ => false) (asF v)
noncomputable def veX0 (v : Value) : Bool := @VX.rec (fun _ => Bool) false true (fun _ _ => false) (asX v)
noncomputable def veX (f : Value → Value → Bool) (v : Value) (t : TypeId) (w : Value) : Bool := @VX.rec (fun _ => Bool) false false (fun u v => @Bool.rec (fun _ => Bool) false (f v w) (Nat.beq u t)) (asX v)
noncomputable def veA (f : Value → Value → Bool) (v : Value) (a : Array Value) : Bool := @VA.rec (fun _ => Bool) false (fun b => listEq f b.toList a.toList) (asA v)
noncomputable def veT (f : Value → Value → Bool) (v : Value) (a : Array Value) : Bool := @VA.rec (fun _ => Bool) false (fun b => listEq f b.toList a.toList) (asT v)
noncomputable def veq : Nat → Value → Value → Bool :=
  @Nat.rec (fun _ => Value → Value → Bool) (fun _ _ => false) (fun _ ih v w =>
    @Value.casesOn (fun _ => Bool) w (fun b => veB v b) (fun k n => veI v k n) (fun _ _ => false) (fun _ _ _ => false) (fun s => veS v s) (fun a => veP v a) (fun a n c => veL v a n c) (fun r => veM v r) (fun _ => false) (fun _ _ _ => false) (veF v)
      (fun t w => veX ih v t w) (veX0 v) (fun a => veA ih v a) (fun a => veT ih v a))
noncomputable def againV (fr : FV) (h : HS) (a : Again) : Bool := @Option.rec Value (fun _ => Bool) false (fun v => veq 20 v (getV (path a.t) fr)) (pevE a.o fr h)
noncomputable def again1 (fr : FV) (h : HS) (a : Again) : Bool := @Option.rec (Tmp × Bool) (fun _ => Bool) (againV fr h a) (fun g => @Bool.rec (fun _ => Bool) true (againV fr h a) (wantsE fr g)) a.g
noncomputable def againE (fr : FV) (h : HS) : List Again → Bool := @List.rec Again (fun _ => Bool) true (fun a _ ih => @Bool.rec (fun _ => Bool) false ih (again1 fr h a))
noncomputable def stagesE (L : Bool) (C : CF) (E : LE) : List Stage → FV → HS → SR :=
  @List.rec Stage (fun _ => FV → HS → SR) (fun fr h => .ok fr h)
    (fun s _ ih fr h => @SR.rec (fun _ => SR) .bad (fun fr h => @Bool.rec (fun _ => SR) .bad (@SR.rec (fun _ => SR) .bad ih (stepsE L C E s.seg fr h)) (againE fr h s.ag)) (stepE L C E s.e fr h))

inductive RC where
  | bad
  | ok (e : CExit) (fr : FV) (h : HS)
noncomputable def rcOf (r : SR) : RC := @SR.rec (fun _ => RC) .bad (fun fr h => .ok .normal fr h) r
noncomputable def seqK (b : FV → HS → RC) (r : RC) : RC := @RC.rec (fun _ => RC) .bad (fun e fr h => @CExit.rec (fun _ => RC) (b fr h) (fun id => .ok (.exit id) fr h) (.ok .ret fr h) e) r
noncomputable def blockK (id : Nat) (r : RC) : RC := @RC.rec (fun _ => RC) .bad (fun e fr h => @CExit.rec (fun _ => RC) (.ok .normal fr h) (fun id' => @Bool.rec (fun _ => RC) (.ok (.exit id') fr h) (.ok .normal fr h) (Nat.beq id' id)) (.ok .ret fr h) e) r
noncomputable def loopK (body : FV → HS → RC) : Nat → FV → HS → RC := @Nat.rec (fun _ => FV → HS → RC) (fun _ _ => .bad) (fun _ ih fr h => seqK ih (body fr h))
noncomputable def isReady (st : LoopState) : Bool := @LoopState.rec (fun _ => Bool) true false false false st
noncomputable def isBusy (st : LoopState) : Bool := @LoopState.rec (fun _ => Bool) false true false false st
noncomputable def isNormE (e : CExit) : Bool := @CExit.rec (fun _ => Bool) true (fun _ => false) false e
noncomputable def withLD (E : LE) (c : Nat) (d : LD) : LE := fun n => @Bool.rec (fun _ => Option LD) (E n) (some d) (Nat.beq n c)
/-- the end of a range over a function -/
noncomputable def rfEnd (fr : FV) (c : Nat) (h : HS) (o : Option EObj) : RC :=
  @Option.rec EObj (fun _ => RC) .bad (fun o => @EObj.rec (fun _ => RC) (fun _ _ _ _ => .bad) .bad (fun _ _ => .bad) (fun _ _ _ => .bad)
    (fun st pend => @Bool.rec (fun _ => RC) (@Option.rec CExit (fun _ => RC) (.ok .normal fr (setH h c .dead)) (fun e => @Bool.rec (fun _ => RC) (.ok e fr (setH h c .dead)) .bad (isNormE e)) pend) .bad (isBusy st)) o) o
noncomputable def rfRet (fr : FV) (c : Nat) (r : ER) : RC := @ER.rec (fun _ => RC) .bad (fun _ h => rfEnd fr c h (getP (path c) h.t)) r
noncomputable def rfun1 (C : CF) (E : LE) (ps : List Tmp) (as body : CCode) (fr : FV) (h : HS) (f : Fn) (a b : Array Value) : RC :=
  @Fn.casesOn (fun _ => RC) f (fun g => rfRet fr h.next (C (withLD E h.next ⟨fr, ps, as, body⟩) (.func g) (catE a.toList (catE [.func (.yield h.next) ⟨[]⟩ ⟨[]⟩] b.toList)) (addH h (.loop .ready none)))) (fun _ => .bad) (fun _ _ => .bad) (fun _ _ _ _ => .bad) (fun _ => .bad)
noncomputable def rfunE (C : CF) (E : LE) (f : Operand) (ps : List Tmp) (as body : CCode) (fr : FV) (h : HS) : RC :=
  @VF.rec (fun _ => RC) .bad .bad (fun f a b => rfun1 C E ps as body fr h f a b) (asF (evE f fr))
noncomputable def codeE (L : Bool) (C : CF) (E : LE) : CCode → FV → HS → RC :=
  @CCode.rec (fun _ => FV → HS → RC) (fun fr h => .ok .normal fr h) (fun ops fr h => rcOf (stepsE L C E ops fr h)) (fun seg st fr h => rcOf (@SR.rec (fun _ => SR) .bad (stagesE L C E st) (stepsE L C E seg fr h)))
    (fun _ _ ia ib fr h => seqK ib (ia fr h)) (fun c _ _ ia ib fr h => @VB.rec (fun _ => RC) .bad (fun b => @Bool.rec (fun _ => RC) (ib fr h) (ia fr h) b) (asB (evE c fr)))
    (fun id _ ib fr h => blockK id (ib fr h)) (fun _ ib fr h => loopK ib 100000 fr h) (fun id fr h => .ok (.exit id) fr h) (fun fr h => .ok .ret fr h) (fun _ _ => .bad) (fun f ps as body _ _ fr h => rfunE C E f ps as body fr h)

noncomputable def argsF : List Value → Nat → FV := @List.rec Value (fun _ => Nat → FV) (fun _ => .nil) (fun v _ ih n => setP v (path n) (ih (Nat.add n 1)))
noncomputable def resE1 (fr : FV) (h : HS) (r : CRes) : OV := @CRes.rec (fun _ => OV) (fun t => some (getV (path t) fr)) (fun t => pLd1 (.tmp t) fr h) (fun n t => pLdN n (.tmp t) fr h) r
noncomputable def resLE (fr : FV) (h : HS) : List CRes → Option (List Value) := @List.rec CRes (fun _ => Option (List Value)) (some []) (fun r _ ih => @Option.rec Value (fun _ => Option (List Value)) none (fun v => @Option.rec (List Value) (fun _ => Option (List Value)) none (fun vs => some (v :: vs)) ih) (resE1 fr h r))
noncomputable def resVE (l : List Value) : Value := @List.rec Value (fun _ => Value) (.tuple ⟨[]⟩) (fun v r _ => @List.rec Value (fun _ => Value) v (fun _ _ _ => .tuple ⟨v :: r⟩) r) l
noncomputable def retK (rs : List CRes) (fr : FV) (h : HS) : ER := @Option.rec (List Value) (fun _ => ER) .bad (fun vs => .ok (resVE vs) h) (resLE fr h rs)
noncomputable def finK (rs : List CRes) (r : RC) : ER := @RC.rec (fun _ => ER) .bad (fun e fr h => @CExit.rec (fun _ => ER) (retK rs fr h) (fun _ => .bad) (retK rs fr h) e) r
noncomputable def setPsE : List Tmp → List Value → FV → Option FV :=
  @List.rec Tmp (fun _ => List Value → FV → Option FV) (fun vs fr => @List.rec Value (fun _ => Option FV) (some fr) (fun _ _ _ => none) vs)
    (fun t _ ih vs fr => @List.rec Value (fun _ => Option FV) none (fun v vs _ => ih vs (setP v (path t) fr)) vs)
noncomputable def isLoop (st : LoopState → Bool) (o : Option EObj) : Bool :=
  @Option.rec EObj (fun _ => Bool) false (fun o => @EObj.rec (fun _ => Bool) (fun _ _ _ _ => false) false (fun _ _ => false) (fun _ _ _ => false) (fun s pend => @Bool.rec (fun _ => Bool) false (@Option.rec CExit (fun _ => Bool) true (fun _ => false) pend) (st s)) o) o
noncomputable def yEnd (c : Nat) (e : CExit) (h : HS) : ER :=
  @Bool.rec (fun _ => ER) .bad (@Bool.rec (fun _ => ER) (.ok (.bool false) (setH h c (.loop .done (some e)))) (.ok (.bool true) (setH h c (.loop .ready none))) (isNormE e)) (isLoop isBusy (getP (path c) h.t))
noncomputable def yBody (c : Nat) (r : RC) : ER := @RC.rec (fun _ => ER) .bad (fun e _ h => yEnd c e h) r
noncomputable def yAs (B : FV → HS → RC) (c : Nat) (r : RC) : ER :=
  @RC.rec (fun _ => ER) .bad (fun e fr h => @Bool.rec (fun _ => ER) .bad (@Bool.rec (fun _ => ER) .bad (yBody c (B fr (setH h c (.loop .busy none)))) (isLoop isReady (getP (path c) h.t))) (isNormE e)) r
noncomputable def yLD (C : CF) (E : LE) (c : Nat) (args : List Value) (h : HS) (d : LD) : ER :=
  @Option.rec FV (fun _ => ER) .bad (fun fr => yAs (codeE false C E d.body) c (codeE false C E d.as fr h)) (setPsE d.ps args d.fr)
noncomputable def yieldE (C : CF) (E : LE) (c : Nat) (args : List Value) (h : HS) : ER :=
  @Bool.rec (fun _ => ER) .bad (@Bool.rec (fun _ => ER) .bad (@Option.rec LD (fun _ => ER) .bad (fun d => yLD C E c args h d) (E c)) (isLoop isReady (getP (path c) h.t))) (Nat.ble h.ro c)
noncomputable def funcE (T : Nat → Option CFun) (C : CF) (E : LE) (f : Nat) (args : List Value) (h : HS) : ER := @Option.rec CFun (fun _ => ER) .bad (fun cf => finK cf.res (codeE false C E cf.body (argsF args 0) h)) (T f)
noncomputable def callE (T : Nat → Option CFun) : Nat → CF :=
  @Nat.rec (fun _ => CF) (fun _ _ _ _ => .bad) (fun _ ih E f args h => @Fn.casesOn (fun _ => ER) f (fun g => funcE T ih E g args h) (fun _ => .bad) (fun _ _ => .bad) (fun _ _ _ _ => .bad) (fun c => yieldE ih E c args h))
noncomputable def isTrue (r : ER) : Bool := @ER.rec (fun _ => Bool) false (fun v _ => @VB.rec (fun _ => Bool) false (fun b => b) (asB v)) r

end Go.Cn.Ev
