/- The canonical machine: compiled code, and what it does, as a relation. Its heap has no draws: a row that is appended to is always copied; rows that may share memory form a class. -/

import GoSem.Step
import Derived.Laws.Sem
import Derived.Laws.World
import Derived.Laws.Cells
import Derived.Laws.Small
import Derived.Laws.BytesString
import Derived.Lib.Bytealg
import Derived.Laws.Alloc2
import Derived.Maps.RangeRun
import Derived.RangeFuncLeaves
import Derived.RangeFuncRecord
import Derived.OrdersIn
import Derived.Scope
namespace Go.Cn
set_option linter.unusedSimpArgs false
set_option linter.unusedVariables false
def upd {α:Type}(f:Nat->α)(n:Nat)(a:α):Nat->α:=fun m=>if m=n then a else f m
@[simp] theorem upd_same {α:Type}(f:Nat->α)(n:Nat)(a:α):upd f n a n=a:=by simp[upd]
theorem upd_ne {α:Type}(f:Nat->α){n m:Nat}(a:α)(h:m≠n):upd f n a m=f m:=by simp[upd,h]
def nth (l:List Value)(n:Nat):Option Value:=l[n]?
def takeAt (l:List Value)(i n:Nat):Option (List Value):=if i+n<=l.length then some ((l.drop i).take n) else none
def putAt (l:List Value)(i:Nat)(vs:List Value):Option (List Value):=
 if i+vs.length<=l.length then some (l.take i++vs++l.drop (i+vs.length)) else none
inductive POp where
 |mov (x:Operand)
 |pick (c a b:Operand)
 |nilck (x:Operand)
 |bin (op:BinOp)(x y:Operand)
 |beq (neg:Bool)(x y:Operand)
 |isnil (neg:Bool)(c:Value)(x:Operand)
 |un (op:UnOp)(x:Operand)
 |i2i (k:IntKind)(x:Operand)
 |i2s (x:Operand)
 |s2s (x:Operand)
 |b2s (x:Operand)
 |mkif (t:TypeId)(x:Operand)
 |mkfn (f:FuncId)(first captured:List Operand)
 |slS (x:Operand)(lo hi:Option Operand)
 |slV (elem:TypeId)(sz:Nat)(x:Operand)(lo hi mx:Option Operand)
 |fa (off:Nat)(x:Operand)
 |fld (off n:Nat)(agg:Bool)(x:Operand)
 |ia (sz:Nat)(x i:Operand)
 |ixS (x i:Operand)
 |lookup (str:Bool)(zero:Value)(ok:Bool)(m k:Operand)
 |ta (t:TypeId)(zero:Value)(ok:Bool)(x:Operand)
 |ext (x:Operand)(i:Nat)
 |lenS (x:Operand)
 |lenV (x:Operand)
 |lenM (x:Operand)
 |ld1 (x:Operand)
 |ldN (n:Nat)(x:Operand)
 |build (zero:List Value)(parts:List (Nat×Nat×Operand))
 |mm (max:Bool)(x y:Operand)
 |cmp (x y:Operand)
 |eqI (neg:Bool)(ok u8:List TypeId)(x y:Operand)
 |capV (x:Operand)
 |entry (x:Operand)
inductive AOp where
 |alloc (elem:TypeId)(zs:List Value)
 |box (elem:TypeId)(x:Operand)
 |bsl (elem:TypeId)(zero:List Value)(len:Nat)(parts:List (Nat×Nat×Operand))
 |mkmap
 |mksl (elem:TypeId)(bytes:Nat)(zero:List Value)(len cap:Operand)
 |s2b (elem:TypeId)(x:Operand)
inductive EOp where
 |st1 (a x:Operand)
 |stN (n:Nat)(a x:Operand)
 |mapupd (str:Bool)(m k x:Operand)
 |delete (str:Bool)(m k:Operand)
 |append (elem:TypeId)(sz bytes:Nat)(s x:Operand)
 |copy (sz:Nat)(d s:Operand)
 |clearV (zero:List Value)(s:Operand)
 |call (f:FuncId)(args:List Operand)
 |callv (x:Operand)(args:List Operand)
 |strish (elem:TypeId)(x:Operand)
 |range (x:Operand)
 |next (x:Operand)
inductive COp where
 |p (o:POp)
 |a (o:AOp)
 |e (o:EOp)
 |no
structure CStep where
 dst:Option Tmp
 guard:Option (Tmp×Bool)
 op:COp
structure Again where
 t:Tmp
 g:Option (Tmp×Bool)
 o:POp
structure Stage where
 e:CStep
 ag:List Again
 seg:List CStep
inductive CCode where
 |skip
 |region (ops:List CStep)
 |dregion (seg:List CStep)(stages:List Stage)
 |seq (a b:CCode)
 |cond (c:Operand)(thn els:CCode)
 |block (id:Nat)(body:CCode)
 |loop (body:CCode)
 |exit (id:Nat)
 |ret
 |no
 |rfun (f:Operand)(ps:List Tmp)(assign body:CCode)
inductive CRes where
 |tmp (t:Tmp)
 |ld1 (t:Tmp)
 |ldN (n:Nat)(t:Tmp)
structure CFun where
 body:CCode
 res:List CRes
abbrev Fr:=Nat->Value
inductive CExit where
 |normal
 |exit (id:Nat)
 |ret
 deriving DecidableEq
def CExit.nm:CExit->Bool
 |.normal=>true
 |_=>false
inductive CObj where
 |cells (c:List Value)(elem:TypeId)(cls rel:Nat)
 |dead
 |map (es:List (Value×Value))(ver:Nat)
 |iter (m:Option Nat)(ver:Nat)(seen:List Value)
 |loop (st:LoopState)(fr:Fr)(ps:List Tmp)(assign body:CCode)(pend:Option CExit)
structure CW where
 heap:Nat->Option CObj
 next:Nat
 ro:Nat
 inj:Nat
 cls:Nat->Option (List (Nat×Nat))
def cundef:Value:=.tuple #[]
def ev (fr:Fr):Operand->Value
 |.tmp t=>fr t
 |.const v=>v
 |.global g=>.pointer (some ⟨g,0,none⟩)
 |.func f=>.func (.func f) #[] #[]
def pureOf {α:Type}:Sem α->Option α
 |.pure a=>some a
 |_=>none
def cellsOf (v:Value):List Value:=v.cells.toList
def CW.row (σ:CW)(b:Nat):Option (List Value):=
 match σ.heap b with
 |some (.cells c _ _ _)=>some c
 |_=>none
def CW.elemIs (σ:CW)(b:Nat)(t:TypeId):Bool:=
 match σ.heap b with
 |some (.cells _ e _ _)=>Nat.beq e t
 |_=>false
def CW.cell (σ:CW)(a:Addr):Option Value:=
 match a.spot with
 |some _=>none
 |none=>match σ.row a.block with
  |some c=>nth c a.off
  |none=>none
def CW.cells (σ:CW)(a:Addr)(n:Nat):Option (List Value):=
 match a.spot with
 |some _=>none
 |none=>match σ.row a.block with
  |some c=>takeAt c a.off n
  |none=>none
def isKey (str:Bool):Value->Bool
 |.string _=>str
 |.int _ _=> !str
 |_=>false
def keyEq:Value->Value->Option Bool
 |.string a,.string b=>some (a.data.toList==b.data.toList)
 |.int j a,.int k b=>if j==k then some (a==b) else none
 |_,_=>none
def look (k:Value):List (Value×Value)->Option (Option Value)
 |[]=>some none
 |(k',v)::l=>match keyEq k k' with
  |some true=>some (some v)
  |some false=>look k l
  |none=>none
def mput (k v:Value):List (Value×Value)->Option (List (Value×Value))
 |[]=>some [(k,v)]
 |(k',v')::l=>match keyEq k k' with
  |some true=>some ((k,v)::l)
  |some false=>match mput k v l with
   |some r=>some ((k',v')::r)
   |none=>none
  |none=>none
def mdel (k:Value):List (Value×Value)->Option (List (Value×Value))
 |[]=>some []
 |(k',v')::l=>match keyEq k k' with
  |some true=>some l
  |some false=>match mdel k l with
   |some r=>some ((k',v')::r)
   |none=>none
  |none=>none
def CW.entries (σ:CW):Value->Option (List (Value×Value))
 |.map none=>some []
 |.map (some r)=>match σ.heap r with
  |some (.map es _)=>some es
  |_=>none
 |_=>none
def CW.entry (σ:CW):Value->Option Value
 |.pointer (some ⟨r,0,none⟩)=>match σ.heap r with
  |some (.iter (some m) ver (k::_))=>match σ.heap m with
   |some (.map es v)=>if v=ver then match look k es with
     |some (some x)=>some (.tuple #[k,x])
     |_=>none
    else none
   |_=>none
  |_=>none
 |_=>none
def fillL (cells:List Value):List (Nat×Nat×Value)->Option (List Value)
 |[]=>some cells
 |(off,size,v)::rest=>
  let vs:=cellsOf v
  if vs.length=size then match putAt cells off vs with
   |some cells'=>fillL cells' rest
   |none=>none
  else none
def cbin (op:BinOp):Value->Value->Option Value
 |.int j a,.int k b=>pureOf (binOp op 0 (.int j a) (.int k b))
 |.string a,.string b=>pureOf (binOp op 0 (.string a) (.string b))
 |_,_=>none
def isNilAs (c v:Value):Option Bool:=
 match c,v with
 |.pointer none,.pointer a=>some a.isNone
 |.slice none _ _,.slice a _ _=>some a.isNone
 |.map none,.map a=>some a.isNone
 |.nilFunc,.func _ _ _=>some false
 |.nilFunc,.nilFunc=>some true
 |.nilIface,.iface _ _=>some false
 |.nilIface,.nilIface=>some true
 |_,_=>none
def bytesOfCells:List Value->Option (List UInt8)
 |[]=>some []
 |.int .u8 n::l=>match bytesOfCells l with
  |some r=>some (UInt8.ofNat n.toNat::r)
  |none=>none
 |_=>none
def bnd (d:Nat)(y:Nat):Option Value->Option Nat
 |none=>some d
 |some (.int _ i)=>if 0<=i/\i<=y then some i.toNat else none
 |some _=>none
def CW.apart (σ:CW)(u8:List TypeId)(a b:Nat):Bool:=
 match σ.heap a,σ.heap b with
 |some (.cells _ E c _),some (.cells _ E' d _)=>
  (decide (a<σ.inj) || !u8.contains E)&&(decide (b<σ.inj) || !u8.contains E')&&decide ((σ.ro<=a\/a<σ.inj)/\(σ.ro<=b\/b<σ.inj))&&(if a<σ.ro/\b<σ.ro then decide (a<σ.inj\/b<σ.inj) else decide (c≠d))
 |_,_=>false
def CW.told (σ:CW)(a b:Addr):Bool:=decide (σ.ro<=a.block\/σ.ro<=b.block\/(a.off=0/\b.off=0))
def eqIface (σ:CW)(ok u8:List TypeId)(x y:Value):Option Bool:=
 match x,y with
 |.nilIface,.iface _ _=>some false
 |.iface _ _,.nilIface=>some false
 |.iface t (.pointer (some a)),.iface u (.pointer (some b))=>
  if t=u then
   if ok.contains t=true/\a.spot=none/\b.spot=none then
    if a.block=b.block then some (decide (a.off=b.off)) else if σ.apart u8 a.block b.block=true/\σ.told a b=true then some false else none
   else none
  else some false
 |_,_=>none
def nilCap:Value->Option Value
 |.slice a _ _=>if a.isNone then some (.int .i64 0) else none
 |_=>none
def pev (o:POp)(ρ:Operand->Value)(σ:CW):Option Value:=
 match o with
 |.mov x=>some (ρ x)
 |.pick c a b=>match ρ c with
  |.bool true=>some (ρ a)
  |.bool false=>some (ρ b)
  |_=>none
 |.nilck x=>match ρ x with
  |.pointer none=>none
  |.pointer (some a)=>some (.pointer (some a))
  |.func (.func f) a b=>some (.func (.func f) a b)
  |.iface t v=>some (.iface t v)
  |_=>none
 |.bin op x y=>cbin op (ρ x) (ρ y)
 |.beq neg x y=>match ρ x,ρ y with
  |.bool a,.bool b=>some (.bool (if neg then !(a==b) else a==b))
  |_,_=>none
 |.isnil neg c x=>match isNilAs c (ρ x) with
  |some b=>some (.bool (if neg then !b else b))
  |none=>none
 |.un op x=>match ρ x with
  |.int k n=>pureOf (Op.unary op (.int k n))
  |.bool b=>pureOf (Op.unary op (.bool b))
  |_=>none
 |.i2i k x=>match ρ x with
  |.int _ n=>some (.int k (k.wrap n))
  |_=>none
 |.i2s x=>match ρ x with
  |.int _ n=>some (.string (Utf8.encode n))
  |_=>none
 |.s2s x=>match ρ x with
  |.string s=>some (.string s)
  |_=>none
 |.b2s x=>match ρ x with
  |.slice none _ _=>some (.string .empty)
  |.slice (some a) n _=>match σ.cells a n with
   |some c=>match bytesOfCells c with
    |some l=>some (.string ⟨l.toArray⟩)
    |none=>none
   |none=>none
  |_=>none
 |.mkif t x=>some (.iface t (ρ x))
 |.mkfn f first captured=>some (.func (.func f) (first.map ρ).toArray (captured.map ρ).toArray)
 |.slS x lo hi=>match ρ x with
  |.string s=>match bnd s.size s.size (hi.map ρ) with
   |some h=>match bnd 0 h (lo.map ρ) with
    |some l=>some (.string (s.extract l h))
    |none=>none
   |none=>none
  |_=>none
 |.slV elem sz x lo hi mx=>match ρ x with
  |.slice a len cap=>match bnd cap cap (mx.map ρ) with
   |some m=>match bnd len m (hi.map ρ) with
    |some h=>match bnd 0 h (lo.map ρ) with
     |some l=>match a with
      |none=>some (.slice none 0 0)
      |some a=>if a.spot=none/\σ.elemIs a.block elem=true then some (.slice (some ⟨a.block,a.off+l*sz,none⟩) (h-l) (m-l)) else none
     |none=>none
    |none=>none
   |none=>none
  |_=>none
 |.fa off x=>match ρ x with
  |.pointer (some a)=>if a.spot=none then some (.pointer (some ⟨a.block,a.off+off,none⟩)) else none
  |_=>none
 |.fld off n agg x=>match ρ x with
  |.agg cs=>if agg then match takeAt cs.toList off n with
    |some l=>some (.agg l.toArray)
    |none=>none
   else nth cs.toList off
  |_=>none
 |.ia sz x i=>match ρ x,ρ i with
  |.slice (some a) len _,.int _ n=>
   if a.spot=none/\0<=n/\n<len then some (.pointer (some ⟨a.block,a.off+n.toNat*sz,none⟩)) else none
  |_,_=>none
 |.ixS x i=>match ρ x,ρ i with
  |.string s,.int _ n=>if 0<=n then match s[n.toNat]? with
   |some b=>some (.int .u8 b.toNat)
   |none=>none
   else none
  |_,_=>none
 |.lookup str zero ok m k=>match σ.entries (ρ m) with
  |some es=>if isKey str (ρ k) then match look (ρ k) es with
    |some (some v)=>some (if ok then .tuple #[v,.bool true] else v)
    |some none=>some (if ok then .tuple #[zero,.bool false] else zero)
    |none=>none
   else none
  |none=>none
 |.ta t zero ok x=>match ρ x with
  |.iface u v=>if u=t then some (if ok then .tuple #[v,.bool true] else v)
   else if ok then some (.tuple #[zero,.bool false]) else none
  |.nilIface=>if ok then some (.tuple #[zero,.bool false]) else none
  |_=>none
 |.ext x i=>match ρ x with
  |.tuple vs=>nth vs.toList i
  |_=>none
 |.lenS x=>match ρ x with
  |.string s=>some (.int .i64 s.size)
  |_=>none
 |.lenV x=>match ρ x with
  |.slice _ n _=>some (.int .i64 n)
  |_=>none
 |.lenM x=>match σ.entries (ρ x) with
  |some es=>some (.int .i64 es.length)
  |none=>none
 |.ld1 x=>match ρ x with
  |.pointer (some a)=>σ.cell a
  |_=>none
 |.ldN n x=>match ρ x with
  |.pointer (some a)=>match σ.cells a n with
   |some l=>some (.agg l.toArray)
   |none=>none
  |_=>none
 |.build zero parts=>match fillL zero (parts.map fun (o,s,x)=>(o,s,ρ x)) with
  |some l=>some (.agg l.toArray)
  |none=>none
 |.mm max x y=>match ρ x,ρ y with
  |.int k a,.int _ b=>some (.int k (if max then (if b > a then b else a) else (if b<a then b else a)))
  |_,_=>none
 |.cmp x y=>match ρ x,ρ y with
  |.string a,.string b=>some (goInt (Extern.BytealgCompare.cmp a b))
  |_,_=>none
 |.eqI neg ok u8 x y=>match eqIface σ ok u8 (ρ x) (ρ y) with
  |some b=>some (.bool (if neg then !b else b))
  |none=>none
 |.capV x=>nilCap (ρ x)
 |.entry x=>σ.entry (ρ x)
def zerosL (zero:List Value):Nat->List Value
 |0=>[]
 |n+1=>zero++zerosL zero n
def aev (o:AOp)(ρ:Operand->Value)(b:Nat):Option (CObj×Value):=
 match o with
 |.alloc elem zs=>some (.cells zs elem b 0,.pointer (some ⟨b,0,none⟩))
 |.box elem x=>some (.cells (cellsOf (ρ x)) elem b 0,.pointer (some ⟨b,0,none⟩))
 |.bsl elem zero len parts=>match fillL (zerosL zero len) (parts.map fun (o,s,x)=>(o,s,ρ x)) with
  |some l=>some (.cells l elem b 0,.slice (some ⟨b,0,none⟩) len len)
  |none=>none
 |.mkmap=>some (.map [] 0,.map (some b))
 |.mksl elem bytes zero len cap=>match ρ len,ρ cap with
  |.int _ l,.int _ c=>
   if 0<=l/\l<=c/\bytes*c<=1099511627776/\c<=1099511627776 then
    some (.cells (zerosL zero c.toNat) elem b 0,.slice (some ⟨b,0,none⟩) l.toNat c.toNat) else none
  |_,_=>none
 |.s2b elem x=>match ρ x with
  |.string s=>some (.cells (s.data.toList.map fun c=>.int .u8 c.toNat) elem b 0,.slice (some ⟨b,0,none⟩) s.size s.size)
  |_=>none
def CW.members (σ:CW)(c:Nat):List (Nat×Nat):=
 match σ.cls c with
 |some l=>l
 |none=>match σ.heap c with
  |some (.cells l _ _ _)=>[(c,l.length)]
  |_=>[]
def killL (b p:Nat)(l:List (Nat×Nat))(h:Nat->Option CObj):Nat->Option CObj:=
 fun n=>if n≠b/\∃m∈l,m.1=n/\p<m.2 then some .dead else h n
def keepL (b p:Nat)(l:List (Nat×Nat)):List (Nat×Nat):=l.filter fun m=>m.1≠b/\m.2<=p
def CW.touch (σ:CW)(c b p e:Nat):CW:=
 {σ with heap:=killL b p (σ.members c) σ.heap,cls:=upd σ.cls c (some ((b,e)::keepL b p (σ.members c)))}
def oneCell:Value->Bool
 |.agg _=>false
 |.tuple _=>false
 |_=>true
def CW.put (σ:CW)(a:Addr)(vs:List Value):Option CW:=
 match a.spot with
 |some _=>none
 |none=>match σ.heap a.block with
  |some (.cells c elem cls rel)=>if σ.ro<=a.block/\vs.all oneCell=true then match putAt c a.off vs with
    |some c'=>some {σ.touch cls a.block (rel+a.off) (rel+c.length) with
      heap:=upd (σ.touch cls a.block (rel+a.off) (rel+c.length)).heap a.block (some (.cells c' elem cls rel))}
    |none=>none
   else none
  |_=>none
def CW.add (σ:CW)(o:CObj):CW:={σ with heap:=upd σ.heap σ.next (some o),next:=σ.next+1}
def CW.grow (σ:CW)(cl p:Nat)(cs:List Value)(E:TypeId)(rel:Nat):CW:=
 (σ.touch cl σ.next p (rel+cs.length)).add (.cells cs E cl rel)
def CW.first (σ:CW)(sz n:Nat):Value->Option (List Value)
 |.slice (some a) _ _=>if n=0 then some [] else σ.cells a (n*sz)
 |.slice none _ _=>some []
 |.string s=>if sz=1 then some ((s.data.toList.take n).map fun b=>.int .u8 b.toNat) else none
 |_=>none
def lenV:Value->Option Nat
 |.slice _ n _=>some n
 |.string s=>some s.size
 |_=>none
def capOk (need bytes:Nat):Prop:=(2*need+2000)*bytes<=1099511627776/\need<=1099511627776
instance (need bytes:Nat):Decidable (capOk need bytes):=by unfold capOk;infer_instance
def doAppend (elem:TypeId)(sz bytes:Nat)(σ:CW)(s x:Value):Option (Value×CW):=
 match s,lenV x with
 |.slice base sLen sCap,some n=>
  match σ.first sz n x with
  |some new=>
   if sLen+n<=sCap then match base with
    |none=>some (.slice none (sLen+n) sCap,σ)
    |some a=>if n=0 then some (.slice base (sLen+n) sCap,σ) else match σ.put ⟨a.block,a.off+sLen*sz,a.spot⟩ new with
      |some σ'=>some (.slice base (sLen+n) sCap,σ')
      |none=>none
   else if capOk (sLen+n) bytes/\new.all oneCell=true then match base with
     |none=>some (.slice (some ⟨σ.next,0,none⟩) (sLen+n) (sLen+n),σ.add (.cells new elem σ.next 0))
     |some a=>if a.spot=none/\σ.ro<=a.block then match σ.heap a.block with
       |some (.cells c elem' cls rel)=>if elem'=elem then match takeAt c a.off (sLen*sz) with
        |some old=>some (.slice (some ⟨σ.next,0,none⟩) (sLen+n) (sLen+n),σ.grow cls (rel+a.off+sLen*sz) (old++new) elem (rel+a.off))
        |none=>none
        else none
       |_=>none
      else none
    else none
  |none=>none
 |_,_=>none
def eev (o:EOp)(ρ:Operand->Value)(σ:CW):Option (Value×CW):=
 match o with
 |.st1 a x=>match ρ a with
  |.pointer (some a)=>match cellsOf (ρ x) with
   |[v]=>match σ.put a [v] with
    |some σ'=>some (cundef,σ')
    |none=>none
   |_=>none
  |_=>none
 |.stN n a x=>match ρ a with
  |.pointer (some a)=>if (cellsOf (ρ x)).length=n then match σ.put a (cellsOf (ρ x)) with
    |some σ'=>some (cundef,σ')
    |none=>none
   else none
  |_=>none
 |.mapupd str m k x=>match ρ m with
  |.map (some r)=>match σ.heap r with
   |some (.map es ver)=>if isKey str (ρ k)/\σ.ro<=r then match mput (ρ k) (ρ x) es with
    |some es'=>some (cundef,{σ with heap:=upd σ.heap r (some (.map es' (ver+1)))})
    |none=>none
    else none
   |_=>none
  |_=>none
 |.delete str m k=>match ρ m with
  |.map (some r)=>match σ.heap r with
   |some (.map es ver)=>if isKey str (ρ k)/\σ.ro<=r then match mdel (ρ k) es with
    |some es'=>some (cundef,{σ with heap:=upd σ.heap r (some (.map es' (ver+1)))})
    |none=>none
    else none
   |_=>none
  |.map none=>if isKey str (ρ k) then some (cundef,σ) else none
  |_=>none
 |.append elem sz bytes s x=>doAppend elem sz bytes σ (ρ s) (ρ x)
 |.copy sz d s=>match ρ d,lenV (ρ s) with
  |.slice base dLen _,some m=>
   match σ.first sz (Nat.min m dLen) (ρ s) with
   |some vs=>match base with
    |none=>some (.int .i64 (Nat.min m dLen),σ)
    |some a=>if vs=[] then some (.int .i64 (Nat.min m dLen),σ) else match σ.put a vs with
      |some σ'=>some (.int .i64 (Nat.min m dLen),σ')
      |none=>none
   |none=>none
  |_,_=>none
 |.clearV zero s=>match ρ s with
  |.slice none _ _=>some (cundef,σ)
  |.slice (some a) n _=>if n=0 then some (cundef,σ) else match σ.put a (zerosL zero n) with
    |some σ'=>some (cundef,σ')
    |none=>none
  |_=>none
 |.strish elem x=>match ρ x with
  |.slice (some a) n c=>match σ.row a.block with
   |some _=>if a.spot=none/\σ.ro<=a.block/\0<c/\σ.elemIs a.block elem=true then some (.slice (some a) n c,σ) else none
   |none=>none
  |_=>none
 |.range x=>match ρ x with
  |.map none=>some (.pointer (some ⟨σ.next,0,none⟩),σ.add (.iter none 0 []))
  |.map (some m)=>match σ.heap m with
   |some (.map _ ver)=>some (.pointer (some ⟨σ.next,0,none⟩),σ.add (.iter (some m) ver []))
   |_=>none
  |_=>none
 |.next _=>none
 |.call _ _=>none
 |.callv _ _=>none
def wants (fr:Fr):Option (Tmp×Bool)->Bool
 |none=>true
 |some (t,b)=>match fr t with
  |.bool c=>c==b
  |_=>false
def putT (fr:Fr):Option Tmp->Value->Fr
 |none,_=>fr
 |some t,v=>upd fr t v
abbrev CallR:=FuncId->List Value->CW->Value->CW->Prop
def OpR (C:CallR)(o:COp)(ρ:Operand->Value)(σ:CW)(v:Value)(σ':CW):Prop:=
 match o with
 |.p o=>pev o ρ σ=some v/\σ'=σ
 |.a o=>∃obj,aev o ρ σ.next=some (obj,v)/\σ'=σ.add obj
 |.e (.call f args)=>C f (args.map ρ) σ v σ'
 |.e (.callv x args)=>∃f a b,ρ x=.func (.func f) a b/\C f (a.toList++args.map ρ++b.toList) σ v σ'
 |.e o=>eev o ρ σ=some (v,σ')
 |.no=>False
def StepR (C:CallR)(s:CStep)(fr:Fr)(σ:CW)(fr':Fr)(σ':CW):Prop:=
 (wants fr s.guard=true/\∃v,OpR C s.op (ev fr) σ v σ'/\fr'=putT fr s.dst v)\/
 (wants fr s.guard=false/\fr'=putT fr s.dst cundef/\σ'=σ)
inductive StepsR (C:CallR):List CStep->Fr->CW->Fr->CW->Prop where
 |nil (fr:Fr)(σ:CW):StepsR C [] fr σ fr σ
 |cons {s:CStep}{l:List CStep}{fr fr1 fr2:Fr}{σ σ1 σ2:CW}(h:StepR C s fr σ fr1 σ1)(t:StepsR C l fr1 σ1 fr2 σ2):StepsR C (s::l) fr σ fr2 σ2
def AgainR (fr:Fr)(σ:CW)(a:Again):Prop:=wants fr a.g=true->pev a.o (ev fr) σ=some (fr a.t)
inductive StagesR (C:CallR):List Stage->Fr->CW->Fr->CW->Prop where
 |nil (fr:Fr)(σ:CW):StagesR C [] fr σ fr σ
 |cons {s:Stage}{l:List Stage}{fr fr1 fr2 fr3:Fr}{σ σ1 σ2 σ3:CW}(h:StepR C s.e fr σ fr1 σ1)(a:∀x∈s.ag,AgainR fr1 σ1 x)
   (g:StepsR C s.seg fr1 σ1 fr2 σ2)(t:StagesR C l fr2 σ2 fr3 σ3):StagesR C (s::l) fr σ fr3 σ3
inductive CodeR (C:CallR):CCode->Fr->CW->CExit->Fr->CW->Prop where
 |skip (fr:Fr)(σ:CW):CodeR C .skip fr σ .normal fr σ
 |region {ops:List CStep}{fr fr':Fr}{σ σ':CW}(h:StepsR C ops fr σ fr' σ'):CodeR C (.region ops) fr σ .normal fr' σ'
 |dregion {seg:List CStep}{l:List Stage}{fr fr1 fr2:Fr}{σ σ1 σ2:CW}(h:StepsR C seg fr σ fr1 σ1)(g:StagesR C l fr1 σ1 fr2 σ2) :
   CodeR C (.dregion seg l) fr σ .normal fr2 σ2
 |seq {a b:CCode}{e:CExit}{fr fr1 fr2:Fr}{σ σ1 σ2:CW}(h:CodeR C a fr σ .normal fr1 σ1)(t:CodeR C b fr1 σ1 e fr2 σ2):CodeR C (.seq a b) fr σ e fr2 σ2
 |seqOut {a b:CCode}{e:CExit}{fr fr1:Fr}{σ σ1:CW}(h:CodeR C a fr σ e fr1 σ1)(he:e≠.normal):CodeR C (.seq a b) fr σ e fr1 σ1
 |yes {c:Operand}{a b:CCode}{e:CExit}{fr fr':Fr}{σ σ':CW}(hc:ev fr c=.bool true)(h:CodeR C a fr σ e fr' σ'):CodeR C (.cond c a b) fr σ e fr' σ'
 |no {c:Operand}{a b:CCode}{e:CExit}{fr fr':Fr}{σ σ':CW}(hc:ev fr c=.bool false)(h:CodeR C b fr σ e fr' σ'):CodeR C (.cond c a b) fr σ e fr' σ'
 |block {id:Nat}{c:CCode}{e:CExit}{fr fr':Fr}{σ σ':CW}(h:CodeR C c fr σ e fr' σ')(he:e≠.exit id):CodeR C (.block id c) fr σ e fr' σ'
 |blockOut {id:Nat}{c:CCode}{fr fr':Fr}{σ σ':CW}(h:CodeR C c fr σ (.exit id) fr' σ'):CodeR C (.block id c) fr σ .normal fr' σ'
 |loop {c:CCode}{e:CExit}{fr fr1 fr2:Fr}{σ σ1 σ2:CW}(h:CodeR C c fr σ .normal fr1 σ1)(t:CodeR C (.loop c) fr1 σ1 e fr2 σ2):CodeR C (.loop c) fr σ e fr2 σ2
 |loopOut {c:CCode}{e:CExit}{fr fr':Fr}{σ σ':CW}(h:CodeR C c fr σ e fr' σ')(he:e≠.normal):CodeR C (.loop c) fr σ e fr' σ'
 |exit (id:Nat)(fr:Fr)(σ:CW):CodeR C (.exit id) fr σ (.exit id) fr σ
 |ret (fr:Fr)(σ:CW):CodeR C .ret fr σ .ret fr σ
def res1 (fr:Fr)(σ:CW):CRes->Option Value
 |.tmp t=>some (fr t)
 |.ld1 t=>pev (.ld1 (.tmp t)) (ev fr) σ
 |.ldN n t=>pev (.ldN n (.tmp t)) (ev fr) σ
def resL (fr:Fr)(σ:CW):List CRes->Option (List Value)
 |[]=>some []
 |r::l=>match res1 fr σ r with
  |some v=>match resL fr σ l with
   |some vs=>some (v::vs)
   |none=>none
  |none=>none
def resV:List Value->Value
 |[v]=>v
 |l=>.tuple l.toArray
def initFr (args:List Value):Fr:=fun t=>(args[t]?).getD cundef
abbrev CallQ:=Fn->List Value->CW->(Value->CW->Prop)->Prop
def CW.set (σ:CW)(b:Nat)(o:CObj):CW:={σ with heap:=upd σ.heap b (some o)}
def leftL (seen:List Value)(es:List (Value×Value)):List (Value×Value):=es.filter fun e=>seen.all fun k=> !(keyEq k e.1==some true)
def nextW (σ:CW)(Q:Value->CW->Prop):Value->Prop
 |.pointer (some ⟨r,0,none⟩)=>match σ.heap r with
  |some (.iter none _ _)=>Q (.tuple #[.bool false]) σ
  |some (.iter (some m) ver seen)=>match σ.heap m with
   |some (.map es v)=>v=ver/\σ.ro<=r/\(∀e∈es,keyEq e.1 e.1=some true)/\(leftL seen es=[]->Q (.tuple #[.bool false]) σ)/\∀k x,(k,x)∈leftL seen es->Q (.tuple #[.bool true,k,x]) (σ.set r (.iter (some m) ver (k::seen)))
   |_=>False
  |_=>False
 |_=>False
def OpW (C:CallQ)(o:COp)(ρ:Operand->Value)(σ:CW)(Q:Value->CW->Prop):Prop:=
 match o with
 |.p o=>∃v,pev o ρ σ=some v/\Q v σ
 |.a o=>∃obj v,aev o ρ σ.next=some (obj,v)/\Q v (σ.add obj)
 |.e (.call f args)=>C (.func f) (args.map ρ) σ Q
 |.e (.callv x args)=>∃f a b,ρ x=.func f a b/\C f (a.toList++args.map ρ++b.toList) σ Q
 |.e (.next x)=>nextW σ Q (ρ x)
 |.e o=>∃v σ',eev o ρ σ=some (v,σ')/\Q v σ'
 |.no=>False
def StepW (C:CallQ)(s:CStep)(fr:Fr)(σ:CW)(K:Fr->CW->Prop):Prop:=
 (wants fr s.guard=true/\OpW C s.op (ev fr) σ fun v σ'=>K (putT fr s.dst v) σ')\/(wants fr s.guard=false/\K (putT fr s.dst cundef) σ)
def StepsW (C:CallQ):List CStep->Fr->CW->(Fr->CW->Prop)->Prop
 |[],fr,σ,K=>K fr σ
 |s::l,fr,σ,K=>StepW C s fr σ fun fr σ=>StepsW C l fr σ K
def StagesW (C:CallQ):List Stage->Fr->CW->(Fr->CW->Prop)->Prop
 |[],fr,σ,K=>K fr σ
 |s::l,fr,σ,K=>StepW C s.e fr σ fun fr1 σ1=>(∀x∈s.ag,AgainR fr1 σ1 x)/\StepsW C s.seg fr1 σ1 fun fr2 σ2=>StagesW C l fr2 σ2 K
def setPs (fr:Fr):List Tmp->List Value->Fr
 |t::ts,v::vs=>setPs (upd fr t v) ts vs
 |_,_=>fr
inductive CodeW (C:CallQ):CCode->Fr->CW->(CExit->Fr->CW->Prop)->Prop where
 |skip {fr:Fr}{σ:CW}{Q:CExit->Fr->CW->Prop}(h:Q .normal fr σ):CodeW C .skip fr σ Q
 |region {ops:List CStep}{fr:Fr}{σ:CW}{Q:CExit->Fr->CW->Prop}(h:StepsW C ops fr σ (Q .normal)):CodeW C (.region ops) fr σ Q
 |dregion {seg:List CStep}{l:List Stage}{fr:Fr}{σ:CW}{Q:CExit->Fr->CW->Prop}(h:StepsW C seg fr σ fun fr1 σ1=>StagesW C l fr1 σ1 (Q .normal)):CodeW C (.dregion seg l) fr σ Q
 |seq {a b:CCode}{fr:Fr}{σ:CW}{R Q:CExit->Fr->CW->Prop}(h:CodeW C a fr σ R)(t:∀fr1 σ1,R .normal fr1 σ1->CodeW C b fr1 σ1 Q)(o:∀e fr1 σ1,e≠.normal->R e fr1 σ1->Q e fr1 σ1):CodeW C (.seq a b) fr σ Q
 |yes {c:Operand}{a b:CCode}{fr:Fr}{σ:CW}{Q:CExit->Fr->CW->Prop}(hc:ev fr c=.bool true)(h:CodeW C a fr σ Q):CodeW C (.cond c a b) fr σ Q
 |no {c:Operand}{a b:CCode}{fr:Fr}{σ:CW}{Q:CExit->Fr->CW->Prop}(hc:ev fr c=.bool false)(h:CodeW C b fr σ Q):CodeW C (.cond c a b) fr σ Q
 |block {id:Nat}{c:CCode}{fr:Fr}{σ:CW}{R Q:CExit->Fr->CW->Prop}(h:CodeW C c fr σ R)(o:∀e fr1 σ1,R e fr1 σ1->Q (if e=.exit id then .normal else e) fr1 σ1):CodeW C (.block id c) fr σ Q
 |loop {c:CCode}{fr:Fr}{σ:CW}{R Q:CExit->Fr->CW->Prop}(h:CodeW C c fr σ R)(t:∀fr1 σ1,R .normal fr1 σ1->CodeW C (.loop c) fr1 σ1 Q)(o:∀e fr1 σ1,e≠.normal->R e fr1 σ1->Q e fr1 σ1):CodeW C (.loop c) fr σ Q
 |exit {id:Nat}{fr:Fr}{σ:CW}{Q:CExit->Fr->CW->Prop}(h:Q (.exit id) fr σ):CodeW C (.exit id) fr σ Q
 |ret {fr:Fr}{σ:CW}{Q:CExit->Fr->CW->Prop}(h:Q .ret fr σ):CodeW C .ret fr σ Q
 |rfun {f:Operand}{ps:List Tmp}{as body:CCode}{fr:Fr}{σ:CW}{Q:CExit->Fr->CW->Prop}(g:Nat)(a b:Array Value)(hf:ev fr f=.func (.func g) a b)
   (h:C (.func g) (a.toList++[.func (.yield σ.next) #[] #[]]++b.toList) (σ.add (.loop .ready fr ps as body none)) fun _ σ2=>
    ∃st pend,σ2.heap σ.next=some (.loop st fr ps as body pend)/\st≠.busy/\pend≠some .normal/\Q (pend.getD .normal) fr (σ2.set σ.next .dead)):CodeW C (.rfun f ps as body) fr σ Q
inductive Deep where
 |zero
 |succ (d:Deep)
 |lim (f:Fn×List Value×CW×(Value->CW->Prop)->Deep)
def CallW (T:Nat->Option CFun):Deep->CallQ
 |.zero,_,_,_,_=>False
 |.lim g,f,args,σ,Q=>∃i,CallW T (g i) f args σ Q
 |.succ d,.func f,args,σ,Q=>∃cf,T f=some cf/\CodeW (CallW T d) cf.body (initFr args) σ fun e fr σ'=>(e=.normal\/e=.ret)/\∃vs,resL fr σ' cf.res=some vs/\Q (resV vs) σ'
 |.succ d,.yield c,args,σ,Q=>∃fr ps as body,σ.heap c=some (.loop .ready fr ps as body none)/\σ.ro<=c/\args.length=ps.length/\
   CodeW (CallW T d) as (setPs fr ps args) σ fun e fr1 σ1=>e=.normal/\σ1.heap c=some (.loop .ready fr ps as body none)/\
    CodeW (CallW T d) body fr1 (σ1.set c (.loop .busy fr ps as body none)) fun e _ σ2=>σ2.heap c=some (.loop .busy fr ps as body none)/\
     Q (.bool e.nm) (σ2.set c (.loop (if e.nm then .ready else .done) fr ps as body (if e.nm then none else some e)))
 |.succ _,_,_,_,_=>False
def szOf (P:Program)(t:TypeId):Option Nat:=(P.info? t).map (·.size)
def bytesOf (P:Program)(t:TypeId):Option Nat:=(P.info? t).map (·.bytes)
def zeroOf (P:Program)(t:TypeId):Option Value:=(P.info? t).bind (·.zero)
def aggOf (P:Program)(t:TypeId):Option Bool:=
 match P.underlying t with
 |some (.struct _)=>some true
 |some (.array _ _)=>some true
 |some _=>some false
 |none=>none
def plain:Nat->Value->Bool
 |0,_=>false
 |n+1,v=>
  match v with
  |.bool _=>true
  |.int _ _=>true
  |.float _ _=>true
  |.complex _ _ _=>true
  |.string _=>true
  |.pointer none=>true
  |.slice none l c=>Nat.beq l 0&&Nat.beq c 0
  |.map none=>true
  |.chan none=>true
  |.nilFunc=>true
  |.nilIface=>true
  |.agg cs=>cs.toList.all (plain n)
  |.tuple cs=>cs.toList.all (plain n)
  |_=>false
def zeroP (P:Program)(t:TypeId):Option Value:=
 match zeroOf P t with
 |some z=>if plain 8 z then some z else none
 |none=>none
def constOk (P:Program):Operand->Bool
 |.const v=>plain 8 v
 |.global g=>Nat.blt g P.globals.size
 |_=>true
def placesOf (P:Program)(fs:List Field):Option (List (Nat×Nat)):=fs.mapM fun f=>(szOf P f.type).map fun n=>(f.offset,n)
def placeAll (pl:List (Nat×Nat)):List (Nat×Operand)->Option (List (Nat×Nat×Operand))
 |[]=>some []
 |(i,x)::l=>match pl[i]?,placeAll pl l with
  |some (o,n),some r=>some ((o,n,x)::r)
  |_,_=>none
def partsOf (P:Program)(t:TypeId)(parts:List (Nat×Operand)):Option (List (Nat×Nat×Operand)):=
 match P.underlying t with
 |some (.struct fs)=>match placesOf P fs.toList with
  |some pl=>placeAll pl parts
  |none=>none
 |some (.array _ e)=>match szOf P e with
  |some n=>some (parts.map fun (i,x)=>(i*n,n,x))
  |none=>none
 |_=>none
def nilOk (d:TypeDesc)(v:Value):Bool:=
 match d,v with
 |.pointer _,.pointer none=>true
 |.slice _,.slice none 0 0=>true
 |.map _ _,.map none=>true
 |.func _ _ _,.nilFunc=>true
 |.interface _,.nilIface=>true
 |_,_=>false
def nilOf (d:TypeDesc):Operand->Option Value
 |.const v=>if nilOk d v then some v else none
 |_=>none
def ptrOk (P:Program)(t:TypeId):Bool:=
 match P.info? t,P.underlying t with
 |some i,some (.pointer e)=>i.comparable&&(match szOf P e with|some n=> !Nat.beq n 0|none=>false)
 |_,_=>false
def okTypes (P:Program):List TypeId:=(List.range P.types.size).filter (ptrOk P)
def isU8 (P:Program)(t:TypeId):Bool:=match P.underlying t with|some (.int .u8)=>true|_=>false
def u8Types (P:Program):List TypeId:=(List.range P.types.size).filter (isU8 P)
def compEq (P:Program)(neg:Bool)(t:TypeId)(x y:Operand):Option POp:=
 match P.underlying t with
 |some .bool=>some (.beq neg x y)
 |some (.int _)=>some (.bin (if neg then .neq else .eql) x y)
 |some .string=>some (.bin (if neg then .neq else .eql) x y)
 |some d=>match nilOf d y with
  |some c=>some (.isnil neg c x)
  |none=>match nilOf d x with
   |some c=>some (.isnil neg c y)
   |none=>match d with
    |.interface _=>some (.eqI neg (okTypes P) (u8Types P) x y)
    |_=>none
 |none=>none
def isIntT (P:Program)(t:TypeId):Bool:=match P.underlying t with|some (.int _)=>true|_=>false
def isStrT (P:Program)(t:TypeId):Bool:=match P.underlying t with|some .string=>true|_=>false
def compConv (P:Program)(src dst:TypeId)(x:Operand):Option COp:=
 match P.underlying src,P.underlying dst with
 |some (.int _),some (.int k)=>some (.p (.i2i k x))
 |some (.int _),some .string=>some (.p (.i2s x))
 |some .string,some .string=>some (.p (.s2s x))
 |some .string,some (.slice e)=>match P.underlying e,szOf P e with
  |some (.int .u8),some 1=>some (.a (.s2b e x))
  |_,_=>none
 |some (.slice e),some .string=>match P.underlying e with
  |some (.int .u8)=>some (.p (.b2s x))
  |_=>none
 |some (.slice _),some (.slice e)=>if src==dst then match P.underlying e with
  |some (.int .u8)=>some (.e (.strish e x))
  |_=>none
  else none
 |_,_=>none
def isIntD:TypeDesc->Bool
 |.int _=>true
 |_=>false
def compCall (P:Program)(c:Call):Option COp:=
 match c.callee with
 |.value (.func f)=>match P.funcs[f]? with
  |some fn=>
   if fn.body.isSome then (if fn.name == "runtime.NumGoroutine" then none else some (.e (.call f c.args.toList)))
   else if fn.name == "internal/bytealg.abigen_runtime_cmpstring" then
    match c.args.toList with
    |[x,y]=>some (.p (.cmp x y))
    |_=>none
   else none
  |none=>none
 |.value (.tmp t)=>some (.e (.callv (.tmp t) c.args.toList))
 |.builtin .len=>match c.argTypes.toList,c.args.toList with
  |[t],[x]=>match P.underlying t with
   |some .string=>some (.p (.lenS x))
   |some (.slice _)=>some (.p (.lenV x))
   |some (.map _ _)=>some (.p (.lenM x))
   |_=>none
  |_,_=>none
 |.builtin .cap=>match c.argTypes.toList,c.args.toList with
  |[t],[x]=>match P.underlying t with
   |some (.slice _)=>some (.p (.capV x))
   |_=>none
  |_,_=>none
 |.builtin .append=>match c.argTypes.toList,c.args.toList with
  |[t,u],[s,x]=>match P.underlying t,P.underlying u with
   |some (.slice e),some d=>match szOf P e,bytesOf P e,zeroP P e with
    |some sz,some b,some z=>
     if Nat.beq sz 0 || Nat.beq b 0 || !Nat.beq (cellsOf z).length sz || isIntD d then none else some (.e (.append e sz b s x))
    |_,_,_=>none
   |_,_=>none
  |_,_=>none
 |.builtin .copy=>match c.argTypes.toList,c.args.toList with
  |[t,_],[d,s]=>match P.underlying t with
   |some (.slice e)=>match szOf P e with
    |some sz=>some (.e (.copy sz d s))
    |none=>none
   |_=>none
  |_,_=>none
 |.builtin .delete=>match c.argTypes.toList,c.args.toList with
  |[t,_],[m,k]=>match P.underlying t with
   |some (.map kt _)=>if isStrT P kt then some (.e (.delete true m k)) else if isIntT P kt then some (.e (.delete false m k)) else none
   |_=>none
  |_,_=>none
 |.builtin .clear=>match c.argTypes.toList,c.args.toList with
  |[t],[x]=>match P.underlying t with
   |some (.slice e)=>match zeroP P e with
    |some z=>if Nat.beq (cellsOf z).length 0 then none else some (.e (.clearV (cellsOf z) x))
    |none=>none
   |_=>none
  |_,_=>none
 |.builtin .max=>match c.args.toList with
  |[x,y]=>some (.p (.mm true x y))
  |_=>none
 |.builtin .min=>match c.args.toList with
  |[x,y]=>some (.p (.mm false x y))
  |_=>none
 |_=>none
def compOp (P:Program)(op:Op):Option COp:=
 match op with
 |.move x=>some (.p (.mov x))
 |.assign x=>some (.p (.mov x))
 |.pick c a b=>some (.p (.pick c a b))
 |.alloc t=>match zeroP P t with
  |some z=>some (.a (.alloc t (cellsOf z)))
  |none=>none
 |.box t x=>some (.a (.box t x))
 |.build t parts=>match zeroP P t,partsOf P t parts.toList with
  |some z,some ps=>some (.p (.build (cellsOf z) ps))
  |_,_=>none
 |.buildSlice t len parts=>match P.underlying t with
  |some (.slice e)=>match szOf P e,zeroP P e with
   |some n,some z=>if Nat.ble (len*n) 16777216&&Nat.beq (cellsOf z).length n&& !Nat.beq n 0 then some (.a (.bsl e (cellsOf z) len (parts.toList.map fun (i,x)=>(i*n,n,x)))) else none
   |_,_=>none
  |_=>none
 |.load t x=>match aggOf P t,szOf P t with
  |some true,some n=>some (.p (.ldN n x))
  |some false,some _=>some (.p (.ld1 x))
  |_,_=>none
 |.store t a x=>match szOf P t,aggOf P t with
  |some n,some true=>some (.e (.stN n a x))
  |some n,some false=>if Nat.beq n 1 then some (.e (.st1 a x)) else none
  |_,_=>none
 |.nilCheck x=>some (.p (.nilck x))
 |.binOp op t x y _=>
  match op with
  |.eql=>(compEq P false t x y).map .p
  |.neq=>(compEq P true t x y).map .p
  |_=>some (.p (.bin op x y))
 |.unOp op _ x=>some (.p (.un op x))
 |.convert src dst x=>compConv P src dst x
 |.makeInterface t x=>match P.underlying t with
  |some (.interface _)=>none
  |some _=>some (.p (.mkif t x))
  |none=>none
 |.makeFunc (.func f) first captured=>some (.p (.mkfn f first.toList captured.toList))
 |.makeMap _ none=>some (.a .mkmap)
 |.makeSlice t l c=>match P.underlying t with
  |some (.slice e)=>match bytesOf P e,zeroP P e,szOf P e with
   |some b,some z,some n=>if Nat.beq (cellsOf z).length n&& !Nat.beq n 0 then some (.a (.mksl e b (cellsOf z) l c)) else none
   |_,_,_=>none
  |_=>none
 |.slice t x lo hi mx=>match P.underlying t with
  |some .string=>if mx.isNone then some (.p (.slS x lo hi)) else none
  |some (.slice e)=>match szOf P e with
   |some n=>if mx.isSome&&hi.isNone then none else some (.p (.slV e n x lo hi mx))
   |none=>none
  |_=>none
 |.fieldAddr t x f=>match P.underlying t with
  |some (.struct fs)=>match fs[f]? with
   |some fd=>match szOf P fd.type with
    |some n=>if Nat.beq n 0 then none else some (.p (.fa fd.offset x))
    |none=>none
   |none=>none
  |_=>none
 |.field t x f=>match P.underlying t with
  |some (.struct fs)=>match fs[f]? with
   |some fd=>match szOf P fd.type,aggOf P fd.type with
    |some n,some b=>some (.p (.fld fd.offset n b x))
    |_,_=>none
   |none=>none
  |_=>none
 |.indexAddr t x i=>match P.underlying t with
  |some (.slice e)=>match szOf P e with
   |some n=>some (.p (.ia n x i))
   |none=>none
  |_=>none
 |.index t x i=>match P.underlying t with
  |some .string=>some (.p (.ixS x i))
  |_=>none
 |.lookup t m k ok=>match P.underlying t with
  |some (.map kt e)=>match zeroP P e with
   |some z=>if isStrT P kt then some (.p (.lookup true z ok m k)) else if isIntT P kt then some (.p (.lookup false z ok m k)) else none
   |none=>none
  |_=>none
 |.mapUpdate t m k x=>match P.underlying t with
  |some (.map kt _)=>if isStrT P kt then some (.e (.mapupd true m k x)) else if isIntT P kt then some (.e (.mapupd false m k x)) else none
  |_=>none
 |.insert t m k x=>match P.underlying t with
  |some (.map kt _)=>if isStrT P kt then some (.e (.mapupd true m k x)) else if isIntT P kt then some (.e (.mapupd false m k x)) else none
  |_=>none
 |.typeAssert x _ t ok=>match P.underlying t with
  |some (.interface _)=>none
  |some _=>match zeroP P t with
   |some z=>some (.p (.ta t z ok x))
   |none=>none
  |none=>none
 |.extract x i=>some (.p (.ext x i))
 |.range t x=>match P.underlying t with
  |some (.map _ _)=>some (.e (.range x))
  |_=>none
 |.next x false=>some (.e (.next x))
 |.entry x=>some (.p (.entry x))
 |.call c=>compCall P c
 |_=>none
def dstLt (n:Nat):Option Tmp->Bool
 |some d=>Nat.blt d n
 |none=>true
def guardOf (ops:Array Oper):Option (Nat×Bool)->Option (Option (Tmp×Bool))
 |none=>some none
 |some (g,b)=>match (ops[g]?).bind (·.dst) with
  |some t=>some (some (t,b))
  |none=>none
def stepOf (P:Program)(ntmps:Nat)(ops:Array Oper)(o:Oper):Option CStep:=
 match compOp P o.op with
 |none=>none
 |some c=>
  if !(o.op.operands.toList.all (constOk P)) then none else
  if !dstLt ntmps o.dst then none else
  match guardOf ops o.guard with
  |some g=>some ⟨o.dst,g,c⟩
  |none=>none
def reads:POp->Bool
 |.b2s _=>true
 |.lookup _ _ _ _ _=>true
 |.eqI _ _ _ _ _=>true
 |.slV _ _ _ _ _ _=>true
 |.lenM _=>true
 |.ld1 _=>true
 |.ldN _ _=>true
 |.entry _=>true
 |_=>false
def bit (n i:Nat):Bool:=Nat.beq (Nat.mod (Nat.shiftRight n i) 2) 1
def ancs:List Oper->Nat->List Nat->Option (List Nat)
 |[],_,acc=>some acc
 |o::l,i,acc=>
  let es:=(o.after.toList.filter (Region.binds .any)).map (·.on)
  if es.all (Nat.blt · i) then ancs l (i+1) (acc++[es.foldl (fun m e=>Nat.lor m (Nat.lor (acc.getD e 0) (Nat.shiftLeft 1 e))) 0]) else none
def tmpsOf (s:CStep)(o:Oper):List Tmp:=
 (o.op.operands.toList.filterMap fun|.tmp t=>some t|_=>none)++(match s.guard with|some (t,_)=>[t]|none=>[])
def isEC:COp->Bool
 |.e _=>true
 |.no=>true
 |_=>false
def isE (s:CStep)(o:Oper):Bool:=isEC s.op || (match o.op with|.assign _=>true|_=>false)
def hasDst (t:Tmp)(r:CStep):Bool:=
 match r.dst with
 |some d=>Nat.beq d t
 |none=>false
structure DPlan where
 seg:List CStep
 stages:List Stage
structure Item where
 i:Nat
 anc:Nat
 eff:Bool
 s:CStep
 o:Oper
def itemsOf:List Oper->List CStep->List Nat->Nat->List Item
 |o::os,s::ss,a::as,i=>⟨i,a,isE s o,s,o⟩::itemsOf os ss as (i+1)
 |_,_,_,_=>[]
def countB (effs:List Nat)(a:Nat):Nat:=(effs.filter (bit a)).length
def againOf (anc:Nat)(x:Item):Option Again:=
 match x.s.op,x.s.dst with
 |.p o,some t=>if reads o&& !bit anc x.i then some ⟨t,x.s.guard,o⟩ else none
 |_,_=>none
def segOf (l:List Item)(effs:List Nat)(k:Nat):List Item:=l.filter fun x=> !x.eff&&Nat.beq (countB effs x.anc) k
def pairsOf (l:List Item)(effs:List Nat):List Item->Nat->List (Item×List Item)
 |[],_=>[]
 |e::es,k=>(e,segOf l effs (k+1))::pairsOf l effs es (k+1)
def stagesOf:List Item->List (Item×List Item)->List Stage
 |_,[]=>[]
 |done,(e,seg)::r=>⟨e.s,done.filterMap (againOf e.anc),seg.map (·.s)⟩::stagesOf (done++e::seg) r
def ordOf:List (Item×List Item)->List Item
 |[]=>[]
 |(e,seg)::r=>e::(seg++ordOf r)
def okPair (x y:Item):Bool:=
 !Nat.beq x.i y.i&&(match x.s.dst with|some d=> !hasDst d y.s|none=>true)&&(!x.eff || bit y.anc x.i)&&
 (tmpsOf x.s x.o).all (fun t=> !hasDst t y.s || (y.eff&&bit y.anc x.i))&&(tmpsOf y.s y.o).all (fun t=> !hasDst t x.s || bit y.anc x.i)
def okOne (x:Item):Bool:=
 (x.eff || (tmpsOf x.s x.o).all fun t=> !hasDst t x.s)&&(match x.s.op,x.s.dst with|.p o,none=> !reads o|_,_=>true)
def okOrd:List Item->Bool
 |[]=>true
 |x::l=>okOne x&&l.all (okPair x)&&okOrd l
def planOf (P:Program)(ntmps:Nat)(ops:Array Oper):Option DPlan:=
 match ancs ops.toList 0 [],ops.toList.mapM (stepOf P ntmps ops) with
 |some anc,some ss=>
  let l:=itemsOf ops.toList ss anc 0
  let es:=l.filter (·.eff)
  let effs:=es.map (·.i)
  let s0:=segOf l effs 0
  let r:=pairsOf l effs es 0
  let ord:=s0++ordOf r
  if okOrd ord&&l.all (fun x=>ord.any fun y=>Nat.beq y.i x.i) then some ⟨s0.map (·.s),stagesOf s0 r⟩ else none
 |_,_=>none
def flat:Code->Bool
 |.seq a b=>flat a&&flat b
 |.cond _ a b=>flat a&&flat b
 |.block _ c=>flat c
 |.loop c=>flat c
 |.scope c=>flat c
 |.rangeFunc _ _ _ _=>false
 |_=>true
def compCode (P:Program)(ntmps:Nat):Code->CCode
 |.skip=>.skip
 |.region _ ops false=>match ops.toList.mapM (stepOf P ntmps ops) with
  |some l=>.region l
  |none=>.no
 |.region _ ops true=>match planOf P ntmps ops with
  |some p=>.dregion p.seg p.stages
  |none=>.no
 |.seq a b=>.seq (compCode P ntmps a) (compCode P ntmps b)
 |.cond c a b=>if constOk P c then .cond c (compCode P ntmps a) (compCode P ntmps b) else .no
 |.block id c=>.block id (compCode P ntmps c)
 |.loop c=>.loop (compCode P ntmps c)
 |.exit id=>.exit id
 |.scope c=>compCode P ntmps c
 |.label _=>.skip
 |.ret=>.ret
 |.rangeFunc f ps a b=>if constOk P f&&ps.toList.all (Nat.blt · ntmps)&&flat a&&flat b then .rfun f ps.toList (compCode P ntmps a) (compCode P ntmps b) else .no
 |_=>.no
def compRes (P:Program):ResultVar->Option CRes
 |.tmp t=>some (.tmp t)
 |.cell a t=>match aggOf P t,szOf P t with
  |some true,some n=>some (.ldN n a)
  |some false,some _=>some (.ld1 a)
  |_,_=>none
def compFun (P:Program)(fn:Func):Option CFun:=
 match fn.body,fn.results.toList.mapM (compRes P) with
 |some c,some rs=>some ⟨compCode P fn.ntmps c,rs⟩
 |_,_=>none
end Go.Cn
namespace Go.Cn
set_option linter.unusedSimpArgs false
set_option linter.unusedVariables false
structure BI where
 B:Nat
 sh:Nat
 N:Nat
 E:TypeId
 wr:Bool
abbrev Ren:=Nat->Option BI
inductive VRel (P:Program)(β:Ren):Value->Value->Prop where
 |bool (b:Bool):VRel P β (.bool b) (.bool b)
 |int (k:IntKind)(n:Int):VRel P β (.int k n) (.int k n)
 |float (k:FloatKind)(n:Nat):VRel P β (.float k n) (.float k n)
 |complex (k:FloatKind)(n m:Nat):VRel P β (.complex k n m) (.complex k n m)
 |string (s:ByteArray):VRel P β (.string s) (.string s)
 |nilPtr:VRel P β (.pointer none) (.pointer none)
 |nilSlice:VRel P β (.slice none 0 0) (.slice none 0 0)
 |nilMap:VRel P β (.map none) (.map none)
 |nilChan:VRel P β (.chan none) (.chan none)
 |nilFunc:VRel P β .nilFunc .nilFunc
 |nilIface:VRel P β .nilIface .nilIface
 |ptr {b off:Nat}{i:BI}(h:β b=some i):VRel P β (.pointer (some ⟨b,off,none⟩)) (.pointer (some ⟨i.B,off+i.sh,none⟩))
 |slice {b off len c c':Nat}{a':Addr}(hl:len<=c)(hc:c<=c')
   (h:c'=0\/∃i,β b=some i/\a'=⟨i.B,off+i.sh,none⟩/\(c'=c\/∃sz,szOf P i.E=some sz/\off+i.sh+c'*sz<=i.N)) :
   VRel P β (.slice (some ⟨b,off,none⟩) len c) (.slice (some a') len c')
 |map {r:Nat}{i:BI}(h:β r=some i):VRel P β (.map (some r)) (.map (some i.B))
 |func {f:FuncId}{a b a' b':Array Value}(ha:a.size=a'.size)(hb:b.size=b'.size)
   (h:∀(j:Nat)(x y:Value),a[j]?=some x->a'[j]?=some y->VRel P β x y)(g:∀(j:Nat)(x y:Value),b[j]?=some x->b'[j]?=some y->VRel P β x y) :
   VRel P β (.func (.func f) a b) (.func (.func f) a' b')
 |yield {c:Nat}{i:BI}(h:β c=some i):VRel P β (.func (.yield c) #[] #[]) (.func (.yield i.B) #[] #[])
 |iface {t:TypeId}{v v':Value}(h:VRel P β v v'):VRel P β (.iface t v) (.iface t v')
 |agg {a a':Array Value}(ha:a.size=a'.size)(h:∀(j:Nat)(x y:Value),a[j]?=some x->a'[j]?=some y->VRel P β x y):VRel P β (.agg a) (.agg a')
 |tuple {a a':Array Value}(ha:a.size=a'.size)(h:∀(j:Nat)(x y:Value),a[j]?=some x->a'[j]?=some y->VRel P β x y):VRel P β (.tuple a) (.tuple a')
def Le (β β':Ren):Prop:=∀b i,β b=some i->β' b=some i
theorem Le.refl (β:Ren):Le β β:=fun _ _ h=>h
theorem Le.trans {a b c:Ren}(h:Le a b)(g:Le b c):Le a c:=fun x i e=>g x i (h x i e)
theorem VRel.mono {P:Program}{β β':Ren}(hl:Le β β'){v v':Value}(h:VRel P β v v'):VRel P β' v v':=by
 induction h with
 |bool b=>exact .bool b
 |int k n=>exact .int k n
 |float k n=>exact .float k n
 |complex k n m=>exact .complex k n m
 |string s=>exact .string s
 |nilPtr=>exact .nilPtr
 |nilSlice=>exact .nilSlice
 |nilMap=>exact .nilMap
 |nilChan=>exact .nilChan
 |nilFunc=>exact .nilFunc
 |nilIface=>exact .nilIface
 |ptr h=>exact .ptr (hl _ _ h)
 |slice hl' hc h=>
  refine .slice hl' hc ?_
  rcases h with h|⟨i,hi,ha,hs⟩
  ·exact .inl h
  ·exact .inr ⟨i,hl _ _ hi,ha,hs⟩
 |map h=>exact .map (hl _ _ h)
 |func ha hb _ _ ih1 ih2=>exact .func ha hb ih1 ih2
 |yield h=>exact .yield (hl _ _ h)
 |iface _ ih=>exact .iface ih
 |agg ha _ ih=>exact .agg ha ih
 |tuple ha _ ih=>exact .tuple ha ih
def LRel (P:Program)(β:Ren)(l l':List Value):Prop:=l.length=l'.length/\∀(j:Nat)(x y:Value),l[j]?=some x->l'[j]?=some y->VRel P β x y
theorem LRel.mono {P:Program}{β β':Ren}(hl:Le β β'){l l':List Value}(h:LRel P β l l'):LRel P β' l l':=
 ⟨h.1,fun j x y a b=>(h.2 j x y a b).mono hl⟩
theorem LRel.nil {P:Program}{β:Ren}:LRel P β [] []:=⟨rfl,fun j x y h=>by simp at h⟩
theorem LRel.cons {P:Program}{β:Ren}{v v':Value}{l l':List Value}(h:VRel P β v v')(t:LRel P β l l'):LRel P β (v::l) (v'::l'):=by
 refine⟨by simp[t.1],fun j x y hx hy=>?_⟩
 cases j with
 |zero=>simp at hx hy;subst hx hy;exact h
 |succ j=>simp at hx hy;exact t.2 j x y hx hy
theorem LRel.of_cons {P:Program}{β:Ren}{v v':Value}{l l':List Value}(h:LRel P β (v::l) (v'::l')):VRel P β v v'/\LRel P β l l':=
 ⟨h.2 0 v v' rfl rfl,by simpa using h.1,fun j x y hx hy=>h.2 (j+1) x y (by simpa using hx) (by simpa using hy)⟩
theorem LRel.left {P:Program}{β:Ren}{l l':List Value}(h:LRel P β l l'){j:Nat}{x:Value}(hx:l[j]?=some x):∃y,l'[j]?=some y/\VRel P β x y:=by
 have hj:j<l'.length:=by rw[<-h.1];exact (List.getElem?_eq_some_iff.1 hx).1
 exact⟨l'[j],by simp[hj],h.2 j x _ hx (by simp[hj])⟩
theorem LRel.append {P:Program}{β:Ren}{a a' b b':List Value}(h:LRel P β a a')(g:LRel P β b b'):LRel P β (a++b) (a'++b'):=by
 refine⟨by simp[h.1,g.1],fun j x y hx hy=>?_⟩
 by_cases hj:j<a.length
 ·rw[List.getElem?_append_left hj] at hx
  rw[List.getElem?_append_left (h.1▸hj)] at hy
  exact h.2 j x y hx hy
 ·rw[List.getElem?_append_right (by omega)] at hx
  rw[List.getElem?_append_right (by have:=h.1;omega), <-h.1] at hy
  exact g.2 _ x y hx hy
theorem LRel.take {P:Program}{β:Ren}{a a':List Value}(h:LRel P β a a')(n:Nat):LRel P β (a.take n) (a'.take n):=by
 refine⟨by simp[h.1],fun j x y hx hy=>?_⟩
 rw[List.getElem?_take] at hx hy
 split at hx
 ·rename_i hj;rw[if_pos hj] at hy;exact h.2 j x y hx hy
 ·simp at hx
theorem LRel.drop {P:Program}{β:Ren}{a a':List Value}(h:LRel P β a a')(n:Nat):LRel P β (a.drop n) (a'.drop n):=by
 refine⟨by simp[h.1],fun j x y hx hy=>?_⟩
 rw[List.getElem?_drop] at hx hy
 exact h.2 _ x y hx hy
theorem LRel.map {P:Program}{β:Ren}{α:Type}(f g:α->Value)(l:List α)(h:∀a∈l,VRel P β (f a) (g a)):LRel P β (l.map f) (l.map g):=by
 induction l with
 |nil=>exact .nil
 |cons a l ih=>exact .cons (h a (by simp)) (ih fun b hb=>h b (by simp[hb]))
theorem VRel.agg_iff {P:Program}{β:Ren}{a a':Array Value}:VRel P β (.agg a) (.agg a')↔LRel P β a.toList a'.toList:=by
 constructor
 ·intro h
  cases h with
  |agg ha h=>exact⟨by simpa using ha,fun j x y hx hy=>h j x y (by simpa using hx) (by simpa using hy)⟩
 ·intro h;exact .agg (by simpa using h.1) fun j x y hx hy=>h.2 j x y (by simpa using hx) (by simpa using hy)
theorem VRel.tuple_iff {P:Program}{β:Ren}{a a':Array Value}:VRel P β (.tuple a) (.tuple a')↔LRel P β a.toList a'.toList:=by
 constructor
 ·intro h
  cases h with
  |tuple ha h=>exact⟨by simpa using ha,fun j x y hx hy=>h j x y (by simpa using hx) (by simpa using hy)⟩
 ·intro h;exact .tuple (by simpa using h.1) fun j x y hx hy=>h.2 j x y (by simpa using hx) (by simpa using hy)
theorem VRel.cells {P:Program}{β:Ren}{v v':Value}(h:VRel P β v v'):LRel P β (cellsOf v) v'.cells.toList:=by
 by_cases ha:∃a,v=.agg a
 ·obtain⟨a,rfl⟩:=ha
  cases h with
  |agg ha h=>exact VRel.agg_iff.1 (.agg ha h)
 ·have e:cellsOf v=[v]:=by cases v<;>first|rfl|exact absurd ⟨_,rfl⟩ ha
  have e':v'.cells.toList=[v']:=by cases h<;>first|rfl|exact absurd ⟨_,rfl⟩ ha
  rw[e,e']
  exact .cons h .nil
theorem VRel.oneCell {P:Program}{β:Ren}{v v':Value}(h:VRel P β v v')(ho:oneCell v=true):v'.oneCell'=true:=by
 cases h<;>first|rfl|cases ho
section inv
variable {P:Program}{β:Ren}{x:Value}
theorem VRel.int_inv {k:IntKind}{n:Int}(h:VRel P β (.int k n) x):x=.int k n:=by cases h;rfl
theorem VRel.bool_inv {b:Bool}(h:VRel P β (.bool b) x):x=.bool b:=by cases h;rfl
theorem VRel.string_inv {s:ByteArray}(h:VRel P β (.string s) x):x=.string s:=by cases h;rfl
theorem VRel.nilPtr_inv (h:VRel P β (.pointer none) x):x=.pointer none:=by cases h;rfl
theorem VRel.nilMap_inv (h:VRel P β (.map none) x):x=.map none:=by cases h;rfl
theorem VRel.nilFunc_inv (h:VRel P β .nilFunc x):x=.nilFunc:=by cases h;rfl
theorem VRel.nilIface_inv (h:VRel P β .nilIface x):x=.nilIface:=by cases h;rfl
theorem VRel.ptr_inv {a:Addr}(h:VRel P β (.pointer (some a)) x):a.spot=none/\∃i,β a.block=some i/\x=.pointer (some ⟨i.B,a.off+i.sh,none⟩):=by
 cases h with
 |ptr h=>exact⟨rfl,_,h,rfl⟩
theorem VRel.nilSlice_inv {l c:Nat}(h:VRel P β (.slice none l c) x):l=0/\c=0/\x=.slice none 0 0:=by cases h;exact⟨rfl,rfl,rfl⟩
theorem VRel.slice_inv {a:Addr}{l c:Nat}(h:VRel P β (.slice (some a) l c) x):a.spot=none/\l<=c/\∃a' c',x=.slice (some a') l c'/\c<=c'/\
  (c'=0\/∃i,β a.block=some i/\a'=⟨i.B,a.off+i.sh,none⟩/\(c'=c\/∃sz,szOf P i.E=some sz/\a.off+i.sh+c'*sz<=i.N)):=by
 cases h with
 |slice hl hc h=>exact⟨rfl,hl,_,_,rfl,hc,h⟩
theorem VRel.map_inv {r:Nat}(h:VRel P β (.map (some r)) x):∃i,β r=some i/\x=.map (some i.B):=by
 cases h with
 |map h=>exact⟨_,h,rfl⟩
theorem VRel.func_inv {f:Nat}{a b:Array Value}(h:VRel P β (.func (.func f) a b) x):∃a' b',x=.func (.func f) a' b'/\LRel P β a.toList a'.toList/\LRel P β b.toList b'.toList:=by
 cases h with
 |func ha hb h g=>exact⟨_,_,rfl,VRel.agg_iff.1 (.agg ha h),VRel.agg_iff.1 (.agg hb g)⟩
theorem VRel.fn_inv {fn:Fn}{a b:Array Value}(h:VRel P β (.func fn a b) x):(∃f a' b',fn=.func f/\x=.func (.func f) a' b'/\LRel P β a.toList a'.toList/\LRel P β b.toList b'.toList)\/
  ∃c i,fn=.yield c/\a= #[]/\b= #[]/\β c=some i/\x=.func (.yield i.B) #[] #[]:=by
 cases h with
 |func ha hb h g=>exact .inl ⟨_,_,_,rfl,rfl,VRel.agg_iff.1 (.agg ha h),VRel.agg_iff.1 (.agg hb g)⟩
 |yield h=>exact .inr ⟨_,_,rfl,rfl,rfl,h,rfl⟩
theorem VRel.iface_inv {t:TypeId}{v:Value}(h:VRel P β (.iface t v) x):∃v',x=.iface t v'/\VRel P β v v':=by
 cases h with
 |iface h=>exact⟨_,rfl,h⟩
theorem VRel.agg_inv {a:Array Value}(h:VRel P β (.agg a) x):∃a',x=.agg a'/\LRel P β a.toList a'.toList:=by
 cases h with
 |agg ha h=>exact⟨_,rfl,VRel.agg_iff.1 (.agg ha h)⟩
theorem VRel.tuple_inv {a:Array Value}(h:VRel P β (.tuple a) x):∃a',x=.tuple a'/\LRel P β a.toList a'.toList:=by
 cases h with
 |tuple ha h=>exact⟨_,rfl,VRel.tuple_iff.1 (.tuple ha h)⟩
end inv
theorem VRel.undef {P:Program}{β:Ren}:VRel P β cundef (.tuple #[]):=.tuple rfl fun j x y h=>by simp at h
def Soft (P:Program)(E:TypeId)(n:Nat)(fr:Nat×Nat):Prop:=fr=(0,0)\/(n<=fr.1/\P.underlying E=some (.int .u8))
theorem Soft.cells {P:Program}{E:TypeId}{n:Nat}{fr:Nat×Nat}(h:Soft P E n fr):∀k,k<n->(fr.1<=k&&k<fr.2)=false:=by
 intro k hk
 rcases h with rfl|⟨h,_⟩
 ·simp
 ·have:¬fr.1<=k:=by omega
  simp[this]
inductive ERel (P:Program)(β:Ren):List (Value×Value)->List MapEntry->Prop where
 |nil:ERel P β [] []
 |cons {k v:Value}{e:MapEntry}{l:List (Value×Value)}{l':List MapEntry}(hk:e.key=k)(hv:VRel P β v e.val)(t:ERel P β l l'):ERel P β ((k,v)::l) (e::l')
theorem ERel.mono {P:Program}{β β':Ren}(hl:Le β β'){l:List (Value×Value)}{l':List MapEntry}(h:ERel P β l l'):ERel P β' l l':=by
 induction h with
 |nil=>exact .nil
 |cons hk hv _ ih=>exact .cons hk (hv.mono hl) ih
def KeysOk (es:List (Value×Value)):Prop:=es.Pairwise fun x y=>keyEq x.1 y.1=some false
def Born (es':Array MapEntry)(clock:Nat):Prop:=(∀e∈es'.toList,e.born<clock)/\(es'.toList.map (·.born)).Nodup
def MapRel (P:Program)(β:Ren)(es:List (Value×Value))(es':Array MapEntry):Prop:=KeysOk es/\∃l,es'.toList.Perm l/\ERel P β es l
def outCode:CExit->Code
 |.normal=>.skip
 |.exit id=>.exit id
 |.ret=>.ret
structure LoopRel (P:Program)(β:Ren)(st:LoopState)(fr:Fr)(ps:List Tmp)(as body:CCode)(pend:Option CExit)(L:Loop):Prop where
 state:L.state=st
 params:L.params.toList=ps
 rel:∀t,VRel P β (fr t) (L.tmps.getD t undef)
 code:∃n,n<=L.tmps.size/\compCode P n L.assign=as/\compCode P n L.body=body/\flat L.assign=true/\flat L.body=true/\∀p∈ps,p<n
 pend:L.pending=pend.map outCode
def ObjRel (P:Program)(β:Ren)(i:BI):CObj->Option Obj->Prop
 |.dead,_=>True
 |.cells c E _ _,some (.cells c' E' fr)=>E=i.E/\E'=i.E/\c'.size=i.N/\c.length+i.sh<=i.N/\(i.wr=true->Soft P i.E i.N fr)/\
   ∀k v,c[k]?=some v->∃v',c'[k+i.sh]?=some v'/\VRel P β v v'
 |.map es _,some (.map es' clock)=>MapRel P β es es'/\Born es' clock
 |.iter m _ _,some (.mapIter m' _ _ _)=>i.sh=0/\m.isSome=m'.isSome
 |.loop st fr ps as body pend,some (.loop L)=>LoopRel P β st fr ps as body pend L
 |_,_=>False
theorem LoopRel.mono {P:Program}{β β':Ren}(hl:Le β β'){st:LoopState}{fr:Fr}{ps:List Tmp}{as body:CCode}{pend:Option CExit}{L:Loop}(h:LoopRel P β st fr ps as body pend L):LoopRel P β' st fr ps as body pend L:=
 ⟨h.state,h.params,fun t=>(h.rel t).mono hl,h.code,h.pend⟩
theorem ObjRel.mono {P:Program}{β β':Ren}(hl:Le β β'){i:BI}{o:CObj}{o':Option Obj}(h:ObjRel P β i o o'):ObjRel P β' i o o':=by
 cases o with
 |dead=>trivial
 |cells c E cl rel=>
  cases o' with
  |none=>exact h.elim
  |some o'=>
   cases o'<;>first|exact h.elim|skip
   obtain⟨a,b,c,d,e,f⟩:=h
   exact⟨a,b,c,d,e,fun k v hk=>let ⟨v',x,y⟩:=f k v hk;⟨v',x,y.mono hl⟩⟩
 |map es ver=>
  cases o' with
  |none=>exact h.elim
  |some o'=>
   cases o'<;>first|exact h.elim|skip
   obtain⟨⟨a,l,b,c⟩,d⟩:=h
   exact⟨⟨a,l,b,c.mono hl⟩,d⟩
 |iter m ver seen=>
  cases o' with
  |none=>exact h.elim
  |some o'=>cases o'<;>first|exact h.elim|exact h
 |loop st fr ps as body pend=>
  cases o' with
  |none=>exact h.elim
  |some o'=>
   cases o'<;>first|exact h.elim|skip
   exact LoopRel.mono hl h
def IterMap (seen:List Value)(seen':Array Nat)(es':Array MapEntry)(since:Nat):Prop:=
 (∀e∈es'.toList,e.born<since)/\∃L:List MapEntry,(∀e∈L,e∈es'.toList)/\L.map (·.key)=seen/\L.map (·.born)=seen'.toList.reverse
def IterOk (β:Ren)(σ:CW)(w:World)(ir:BI)(m ver:Nat)(seen:List Value):Prop:=
 ∃im since seen' last,β m=some im/\w.heap[ir.B]?=some (.mapIter (some im.B) since seen' last)/\since<=last/\m<σ.next/\
  ∀es v0,σ.heap m=some (.map es v0)->ver<=v0/\(v0=ver->∃es' clock,w.heap[im.B]?=some (.map es' clock)/\last=clock/\IterMap seen seen' es' since)
def Iters (β:Ren)(σ:CW)(w:World):Prop:=∀r ir m ver seen,β r=some ir->σ.heap r=some (.iter (some m) ver seen)->IterOk β σ w ir m ver seen
def isMI:CObj->Bool
 |.map _ _=>true
 |.iter _ _ _=>true
 |_=>false
def isIter:CObj->Bool
 |.iter _ _ _=>true
 |_=>false
def isMIo:Obj->Bool
 |.map _ _=>true
 |.mapIter _ _ _ _=>true
 |_=>false
theorem Iters.keep {β β':Ren}{σ σ':CW}{w w':World}(h:Iters β σ w)(hl:Le β β')(hn:σ.next<=σ'.next)(hβ:∀b i,β' b=some i->β b=some i\/∀o,σ'.heap b=some o->isIter o=false)
  (hσ:∀b i o,β b=some i->σ'.heap b=some o->isMI o=true->σ.heap b=some o)(hw:∀b i o,β b=some i->w.heap[i.B]?=some o->isMIo o=true->w'.heap[i.B]?=some o):Iters β' σ' w':=by
 intro r ir m ver seen hr ho
 rcases hβ r ir hr with h1|h1
 ·obtain⟨im,since,seen',last,a1,a2,a3,a4,a5⟩:=h r ir m ver seen h1 (hσ r ir _ h1 ho rfl)
  refine⟨im,since,seen',last,hl _ _ a1,hw r ir _ h1 a2 rfl,a3,Nat.lt_of_lt_of_le a4 hn,fun es v0 hm=>?_⟩
  obtain⟨b1,b2⟩:=a5 es v0 (hσ m im _ a1 hm rfl)
  refine⟨b1,fun e=>?_⟩
  obtain⟨es',clock,c1,c2⟩:=b2 e
  exact⟨es',clock,hw m im _ a1 c1 rfl,c2⟩
 ·have:=h1 _ ho;cases this
def AliasOk (σ:CW)(b1 b2:Nat)(i1 i2:BI):Prop:=
 (b1<σ.ro↔b2<σ.ro)/\
 match σ.heap b1,σ.heap b2 with
 |some .dead,_=>True
 |_,some .dead=>True
 |some (.cells _ _ c1 r1),some (.cells _ _ c2 r2)=>(b1<σ.ro/\((σ.inj<=b1/\σ.inj<=b2)\/i1.sh≠i2.sh))\/(σ.ro<=b1/\c1=c2/\i1.sh+r2=i2.sh+r1)
 |_,_=>False
structure CInv (σ:CW):Prop where
 fresh:∀b,σ.next<=b->σ.heap b=none
 mem:∀b c E cl rel,σ.heap b=some (.cells c E cl rel)->(b,rel+c.length)∈σ.members cl/\cl<σ.next
 cls:∀c l,σ.cls c=some l->c<σ.next/\∀m∈l,σ.ro<=m.1/\m.1<σ.next
 rol:σ.ro<=σ.next
structure Rel (P:Program)(β:Ren)(σ:CW)(w:World):Prop where
 inv:CInv σ
 lt:∀b i,β b=some i->b<σ.next/\i.B<w.heap.size
 obj:∀b i o,β b=some i->σ.heap b=some o->ObjRel P β i o w.heap[i.B]?
 alias:∀b1 b2 i1 i2,b1≠b2->β b1=some i1->β b2=some i2->i1.B=i2.B->AliasOk σ b1 b2 i1 i2
 here:∀b i,β b=some i->∃o,σ.heap b=some o
 iters:Iters β σ w
 wr:(∀b,b<σ.inj->∃i,β b=some i/\P.underlying i.E≠some (.int .u8))/\∀b i,β b=some i->(σ.ro<=b\/b<σ.inj)->i.wr=true
structure Stp (P:Program)(β:Ren)(σ:CW)(w:World)(β':Ren)(σ':CW)(w':World):Prop where
 le:Le β β'
 new:∀b i,β' b=some i->β b=some i\/(σ.next<=b/\((∃b0 i0,β b0=some i0/\σ.ro<=b0/\i0.B=i.B)\/w.heap.size<=i.B))
 next:σ.next<=σ'.next
 ro:σ'.ro=σ.ro
 inj:σ'.inj=σ.inj
 cfr:∀b,b<σ.next->β b=none->σ'.heap b=σ.heap b\/σ'.heap b=some .dead
 size:w.heap.size<=w'.heap.size
 afr:∀B,B<w.heap.size->(∀b i,β b=some i->σ.ro<=b->i.B≠B)->w'.heap[B]?=w.heap[B]?
 os:w'.os=w.os
 out:w'.output=w.output
 tape:w'.tape=w.tape
 rel:Rel P β' σ' w'
theorem Stp.trans {P:Program}{β β1 β2:Ren}{σ σ1 σ2:CW}{w w1 w2:World}(h:Stp P β σ w β1 σ1 w1)(g:Stp P β1 σ1 w1 β2 σ2 w2)(hr:Rel P β σ w):Stp P β σ w β2 σ2 w2 where
 le:=h.le.trans g.le
 new:=by
  intro b i hb
  rcases g.new b i hb with h1|⟨hn,h1⟩
  ·exact h.new b i h1
  ·refine .inr ⟨Nat.le_trans h.next hn,?_⟩
   rcases h1 with⟨b0,i0,hb0,hro,hB⟩|h1
   ·rcases h.new b0 i0 hb0 with h2|⟨_,h2⟩
    ·exact .inl ⟨b0,i0,h2,h.ro▸hro,hB⟩
    ·rcases h2 with⟨b3,i3,hb3,hro3,hB3⟩|h2
     ·exact .inl ⟨b3,i3,hb3,hro3,hB3.trans hB⟩
     ·exact .inr (hB▸h2)
   ·exact .inr (Nat.le_trans h.size h1)
 next:=Nat.le_trans h.next g.next
 ro:=g.ro.trans h.ro
 inj:=g.inj.trans h.inj
 cfr:=by
  intro b hb hn
  have hn1:β1 b=none:=by
   cases e:β1 b with
   |none=>rfl
   |some i=>
    rcases h.new b i e with h1|⟨h1,_⟩
    ·rw[hn] at h1;cases h1
    ·omega
  rcases g.cfr b (Nat.lt_of_lt_of_le hb h.next) hn1 with h1|h1
  ·rw[h1];exact h.cfr b hb hn
  ·exact .inr h1
 size:=Nat.le_trans h.size g.size
 afr:=by
  intro B hB hne
  rw[g.afr B (Nat.lt_of_lt_of_le hB h.size) ?_]
  ·exact h.afr B hB hne
  ·intro b i hb hro
   rw[h.ro] at hro
   rcases h.new b i hb with h1|⟨_,h1⟩
   ·exact hne b i h1 hro
   ·rcases h1 with⟨b0,i0,hb0,hro0,hB0⟩|h1
    ·rw[<-hB0];exact hne b0 i0 hb0 hro0
    ·omega
 os:=g.os.trans h.os
 out:=g.out.trans h.out
 tape:=g.tape.trans h.tape
 rel:=g.rel
theorem Rel.heap {P:Program}{β:Ren}{σ:CW}{w w':World}(h:Rel P β σ w)(e:w'.heap=w.heap):Rel P β σ w':=
 ⟨h.inv,by rw[e];exact h.lt,by rw[e];exact h.obj,h.alias,h.here,h.iters.keep (.refl _) (Nat.le_refl _) (fun _ _ h=>.inl h) (fun _ _ _ _ h _=>h) (fun _ _ _ _ h _=>by rw[e];exact h),h.wr⟩
theorem Stp.same {P:Program}{β:Ren}{σ:CW}{w w':World}(h:Rel P β σ w)(e:w'.heap=w.heap)(ho:w'.os=w.os)(hu:w'.output=w.output)(ht:w'.tape=w.tape):Stp P β σ w β σ w' where
 le:=.refl _
 new:=fun _ _ h=>.inl h
 next:=Nat.le_refl _
 ro:=rfl
 inj:=rfl
 cfr:=fun _ _ _=>.inl rfl
 size:=by rw[e];exact Nat.le_refl _
 afr:=fun _ _ _=>by rw[e]
 os:=ho
 out:=hu
 tape:=ht
 rel:=h.heap e
theorem Stp.refl {P:Program}{β:Ren}{σ:CW}{w:World}(h:Rel P β σ w):Stp P β σ w β σ w:=.same h rfl rfl rfl rfl
end Go.Cn
namespace Go.Cn
set_option linter.unusedVariables false
set_option linter.unusedSimpArgs false
theorem Addr.add_none (B off n:Nat):(⟨B,off,none⟩ : Addr).add n=⟨B,off+n,none⟩:=by
 unfold Addr.add;split
 ·rename_i h;subst h;rfl
 ·rfl
theorem row_some {σ:CW}{b:Nat}{c:List Value}(h:σ.row b=some c):∃E cl rel,σ.heap b=some (.cells c E cl rel):=by
 unfold CW.row at h
 split at h
 ·rename_i c' E cl rel e;cases h;exact⟨E,cl,rel,e⟩
 ·cases h
theorem ObjRel.cells_inv {P:Program}{β:Ren}{i:BI}{c:List Value}{E:TypeId}{cl rel:Nat}{o':Option Obj}(h:ObjRel P β i (.cells c E cl rel) o') :
  ∃c' fr,o'=some (.cells c' i.E fr)/\E=i.E/\c'.size=i.N/\c.length+i.sh<=i.N/\(i.wr=true->Soft P i.E i.N fr)/\
   ∀k v,c[k]?=some v->∃v',c'[k+i.sh]?=some v'/\VRel P β v v':=by
 cases o' with
 |none=>exact h.elim
 |some o'=>
  cases o'<;>first|exact h.elim|skip
  rename_i c' E' fr
  obtain⟨h1,h2,h3,h4,h5,h6⟩:=h
  subst h2
  exact⟨c',fr,rfl,h1,h3,h4,h5,h6⟩
theorem Rel.cellAt {P:Program}{β:Ren}{σ:CW}{w:World}(h:Rel P β σ w){b k:Nat}{i:BI}{c:List Value}{v:Value}(hr:σ.row b=some c)(hk:c[k]?=some v)
  (hb:β b=some i):∃v',w.cell? ⟨i.B,k+i.sh,none⟩=some v'/\VRel P β v v':=by
 obtain⟨E,cl,rel,e⟩:=row_some hr
 obtain⟨c',fr,hB,_,_,_,_,hcs⟩:=(h.obj b i _ hb e).cells_inv
 obtain⟨v',h1,h2⟩:=hcs k v hk
 exact⟨v',by simp[World.cell?,hB,h1],h2⟩
theorem takeAt_some {l r:List Value}{i n:Nat}(h:takeAt l i n=some r):i+n<=l.length/\r=(l.drop i).take n:=by
 unfold takeAt at h
 split at h
 ·rename_i hl;cases h;exact⟨hl,rfl⟩
 ·cases h
theorem Rel.loads {P:Program}{β:Ren}{σ:CW}{w:World}(h:Rel P β σ w){b off n:Nat}{i:BI}{c r:List Value}(hr:σ.row b=some c)(ht:takeAt c off n=some r)(hb:β b=some i) :
  ∃r',LRel P β r r'/\r.length=n/\∀w1:World,w1.heap=w.heap->(loadCells ⟨i.B,off+i.sh,none⟩ n).run P w1=.ok r'.toArray w1:=by
 obtain⟨hl,rfl⟩:=takeAt_some ht
 have hlen:((c.drop off).take n).length=n:=by simp;omega
 have key:∀j,j<n->∃v',w.cell? ⟨i.B,off+j+i.sh,none⟩=some v'/\∀x,((c.drop off).take n)[j]?=some x->VRel P β x v':=by
  intro j hj
  have hx:c[off+j]?=some c[off+j]:=by simp
  obtain⟨v',h1,h2⟩:=h.cellAt hr hx hb
  refine⟨v',h1,fun x hx'=>?_⟩
  rw[List.getElem?_take,if_pos hj,List.getElem?_drop,hx] at hx'
  cases hx';exact h2
 let f:Nat->Value:=fun j=>(w.cell? ⟨i.B,off+j+i.sh,none⟩).getD undef
 refine⟨(List.range n).map f,⟨by simp;omega,fun j x y hx hy=>?_⟩,hlen,?_⟩
 ·have hj:j<n:=by
   have:=(List.getElem?_eq_some_iff.1 hx).1
   rw[hlen] at this;exact this
  obtain⟨v',h1,h2⟩:=key j hj
  simp only[List.getElem?_map,List.getElem?_range hj,Option.map_some,Option.some.injEq] at hy
  have:y=v':=by rw[<-hy];simp[f,h1]
  rw[this];exact h2 x hx
 ·intro w1 hw1
  refine run_loadCells w1 _ n f fun j hj=>?_
  obtain⟨v',h1,_⟩:=key j hj
  rw[Addr.add_none]
  have hcell:∀y:Addr,w1.cell? y=w.cell? y:=fun y=>by simp only[World.cell?,hw1]
  rw[hcell]
  have:off+i.sh+j=off+j+i.sh:=by omega
  rw[this,h1];simp[f,h1]
structure UpdB (w w':World)(B:Nat)(o:Obj):Prop where
 size:w'.heap.size=w.heap.size
 get:∀j,w'.heap[j]?=if j=B then some o else w.heap[j]?
 os:w'.os=w.os
 out:w'.output=w.output
 tape:w'.tape=w.tape
theorem lt_of_get {w:World}{B:Nat}{o:Obj}(h:w.heap[B]?=some o):B<w.heap.size:=by
 rcases Nat.lt_or_ge B w.heap.size with h'|h'
 ·exact h'
 ·simp[Array.getElem?_eq_none h'] at h
theorem UpdB.setCell {w:World}{B off:Nat}{c:Array Value}{E:TypeId}{fr:Nat×Nat}(h:w.heap[B]?=some (.cells c E fr))(v:Value) :
  UpdB w (w.setCell ⟨B,off,none⟩ v) B (.cells (c.setIfInBounds off v) E fr) where
 size:=by simp
 get:=by
  intro j
  simp only[World.setCell,Array.getElem?_modify]
  by_cases hj:B=j
  ·subst hj;simp[h]
  ·simp[hj,Ne.symm hj]
 os:=rfl
 out:=rfl
 tape:=rfl
theorem UpdB.trans {w w1 w2:World}{B:Nat}{o o':Obj}(h:UpdB w w1 B o)(g:UpdB w1 w2 B o'):UpdB w w2 B o' where
 size:=g.size.trans h.size
 get:=by intro j;rw[g.get];split
         ·rfl
         ·rename_i hj;rw[h.get,if_neg hj]
 os:=g.os.trans h.os
 out:=g.out.trans h.out
 tape:=g.tape.trans h.tape
theorem run_storeCells {P:Program}{B off:Nat}{E:TypeId}{fr:Nat×Nat}:∀(vs:List Value)(i:Nat)(w:World)(c:Array Value),w.heap[B]?=some (.cells c E fr)->
  (∀v∈vs,v.oneCell'=true)->off+i+vs.length<=c.size->(∀k,k<c.size->(fr.1<=k&&k<fr.2)=false)->
  ∃w' c2,(storeCells ⟨B,off,none⟩ vs i).run P w=.ok () w'/\UpdB w w' B (.cells c2 E fr)/\c2.size=c.size/\
   ∀k,c2[k]?=if off+i<=k/\k<off+i+vs.length then vs[k-(off+i)]? else c[k]?
 |[],i,w,c,hB,_,_,_=>by
  refine⟨w,c,rfl,⟨rfl,fun j=>?_,rfl,rfl,rfl⟩,rfl,fun k=>?_⟩
  ·split
   ·rename_i hj;rw[hj];exact hB
   ·rfl
  ·rw[if_neg];simp only[List.length_nil];omega
 |v::vs,i,w,c,hB,hone,hfit,hs=>by
  simp only[List.length_cons] at hfit
  have hlt:off+i<c.size:=by omega
  have hu:=UpdB.setCell (off:=off+i) hB v
  have hcell:w.cell? ⟨B,off+i,none⟩=some (c[off+i]'hlt):=by simp[World.cell?,hB,hlt]
  have hfz:w.frozen? ⟨B,off+i,none⟩=false:=by simp only[World.frozen?,hB];exact hs (off+i) hlt
  obtain⟨w',c2,hr,hu2,hsz,hc2⟩:=run_storeCells (P:=P) (off:=off) (B:=B) (E:=E) (fr:=fr) vs (i+1) (w.setCell ⟨B,off+i,none⟩ v) (c.setIfInBounds (off+i) v)
   (by rw[hu.get,if_pos rfl]) (fun x hx=>hone x (by simp[hx])) (by simp only[Array.size_setIfInBounds];omega) (by simpa using hs)
  refine⟨w',c2,?_,hu.trans hu2,by simpa using hsz,fun k=>?_⟩
  ·simp only[storeCells,Sem.run_bind,Addr.add_none]
   rw[run_store P w _ v _ (hone v (by simp))]
   simp only[hcell,hfz]
   exact hr
  ·rw[hc2 k]
   simp only[List.length_cons]
   by_cases hk:k=off+i
   ·subst hk
    have h1:¬(off+(i+1)<=off+i/\off+i<off+(i+1)+vs.length):=by omega
    have h2:off+i<=off+i/\off+i<off+i+(vs.length+1):=by omega
    have h3:off+i<c.size:=by omega
    rw[if_neg h1,if_pos h2]
    simp[h3]
   ·by_cases hin:off+(i+1)<=k/\k<off+(i+1)+vs.length
    ·have h2:off+i<=k/\k<off+i+(vs.length+1):=by omega
     rw[if_pos hin,if_pos h2]
     have:k-(off+i)=(k-(off+(i+1)))+1:=by omega
     rw[this];simp
    ·have h2:¬(off+i<=k/\k<off+i+(vs.length+1)):=by omega
     rw[if_neg hin,if_neg h2]
     rw[Array.getElem?_setIfInBounds_ne (by omega)]
theorem putAt_some {l r:List Value}{i:Nat}{vs:List Value}(h:putAt l i vs=some r):i+vs.length<=l.length/\r.length=l.length/\
  ∀k,r[k]?=if i<=k/\k<i+vs.length then vs[k-i]? else l[k]?:=by
 unfold putAt at h
 split at h
 ·rename_i hl
  cases h
  refine⟨hl,by simp;omega,fun k=>?_⟩
  have hlen:(l.take i).length=i:=by simp;omega
  by_cases h1:k<i
  ·rw[if_neg (by omega),List.append_assoc,List.getElem?_append_left (by omega),List.getElem?_take,if_pos h1]
  ·by_cases h2:k<i+vs.length
   ·rw[if_pos (by omega),List.append_assoc,List.getElem?_append_right (by omega),hlen,List.getElem?_append_left (by omega)]
   ·rw[if_neg (by omega),List.getElem?_append_right (by simp;omega),List.getElem?_drop]
    congr 1;simp;omega
 ·cases h
theorem members_ro {σ:CW}(hi:CInv σ){b:Nat}{c:List Value}{E:TypeId}{cl rel:Nat}(hb:σ.heap b=some (.cells c E cl rel))(hro:σ.ro<=b) :
  ∀m∈σ.members cl,σ.ro<=m.1/\m.1<σ.next:=by
 intro m hm
 have hmem:=(hi.mem b c E cl rel hb).1
 unfold CW.members at hm hmem
 cases hc:σ.cls cl with
 |some l=>rw[hc] at hm;exact (hi.cls cl l hc).2 m hm
 |none=>
  rw[hc] at hm hmem
  simp only at hm hmem
  split at hm
  ·rename_i l E' c' r' hh
   simp only[hh] at hmem
   simp only[List.mem_singleton] at hm hmem
   subst hm
   have:b=cl:=congrArg Prod.fst hmem
   subst this
   refine⟨hro,?_⟩
   rcases Nat.lt_or_ge b σ.next with h|h
   ·exact h
   ·rw[hi.fresh b h] at hh;cases hh
  ·simp at hm
theorem heap_lt {σ:CW}(hi:CInv σ){b:Nat}{o:CObj}(h:σ.heap b=some o):b<σ.next:=by
 rcases Nat.lt_or_ge b σ.next with h'|h'
 ·exact h'
 ·rw[hi.fresh b h'] at h;cases h
theorem kill_live {b p:Nat}{l:List (Nat×Nat)}{h:Nat->Option CObj}{n:Nat}{o:CObj}(hk:killL b p l h n=some o)(hd:o≠.dead) :
  h n=some o/\(n≠b->∀m∈l,m.1=n->m.2<=p):=by
 unfold killL at hk
 split at hk
 ·cases hk;exact absurd rfl hd
 ·rename_i hn
  refine⟨hk,fun hb m hm he=>?_⟩
  rcases Nat.lt_or_ge p m.2 with h1|h1
  ·exact absurd ⟨hb,m,hm,he,h1⟩ hn
  ·exact h1
theorem kill_or {b p:Nat}{l:List (Nat×Nat)}{h:Nat->Option CObj}(n:Nat):killL b p l h n=h n\/(killL b p l h n=some .dead/\n≠b/\∃m∈l,m.1=n):=by
 unfold killL
 split
 ·rename_i hn;exact .inr ⟨rfl,hn.1,let ⟨m,hm,he,_⟩:=hn.2;⟨m,hm,he⟩⟩
 ·exact .inl rfl
theorem members_upd_other {σ:CW}{c cl:Nat}{l:List (Nat×Nat)}{h:Nat->Option CObj}{nx:Nat}{ro inj:Nat}(hc:c≠cl)
  (hh:∀cs E cl' rel,h c=some (.cells cs E cl' rel)->∃cs' E' cl'' rel',σ.heap c=some (.cells cs' E' cl'' rel')/\cs'.length=cs.length)
  {m:Nat×Nat}(hm:m∈σ.members c)(hlive:∀cs' E' cl' rel',σ.cls c=none->σ.heap c=some (.cells cs' E' cl' rel')->∃cs E cl'' rel,h c=some (.cells cs E cl'' rel)/\cs.length=cs'.length) :
  m∈CW.members ⟨h,nx,ro,inj,upd σ.cls cl (some l)⟩ c:=by
 unfold CW.members at hm ⊢
 simp only[upd_ne _ _ hc]
 cases e:σ.cls c with
 |some l'=>rw[e] at hm;exact hm
 |none=>
  rw[e] at hm
  simp only at hm ⊢
  split at hm
  ·rename_i cs' E' cl' rel' hc'
   obtain⟨cs,E,cl'',rel,h1,h2⟩:=hlive _ _ _ _ e hc'
   simp only[h1,h2];exact hm
  ·simp at hm
theorem mem_singleton_root {σ:CW}{c b n:Nat}(hn:σ.cls c=none)(hm:(b,n)∈σ.members c):b=c:=by
 unfold CW.members at hm
 rw[hn] at hm
 simp only at hm
 split at hm
 ·simp only[List.mem_singleton] at hm;exact congrArg Prod.fst hm
 ·simp at hm
def afterPut (σ:CW)(b p:Nat)(c c':List Value)(E:TypeId)(cl rel:Nat):CW:=
 {σ.touch cl b p (rel+c.length) with heap:=upd (σ.touch cl b p (rel+c.length)).heap b (some (.cells c' E cl rel))}
theorem afterPut_heap {σ:CW}{b p:Nat}{c c':List Value}{E:TypeId}{cl rel n:Nat} :
  (afterPut σ b p c c' E cl rel).heap n=if n=b then some (.cells c' E cl rel) else killL b p (σ.members cl) σ.heap n:=rfl
theorem CInv.put {σ:CW}(hi:CInv σ){b p:Nat}{c c':List Value}{E:TypeId}{cl rel:Nat}(hb:σ.heap b=some (.cells c E cl rel))(hro:σ.ro<=b)
  (hl:c'.length=c.length):CInv (afterPut σ b p c c' E cl rel) where
 fresh:=by
  intro n hn
  have hn':σ.next<=n:=hn
  have hbl:=heap_lt hi hb
  rw[afterPut_heap,if_neg (by omega)]
  rcases kill_or (b:=b) (p:=p) (l:=σ.members cl) (h:=σ.heap) n with h|⟨_,_,m,hm,he⟩
  ·rw[h];exact hi.fresh n hn'
  ·have:=(members_ro hi hb hro m hm).2;omega
 mem:=by
  intro n cs E' cl' rel' hn
  rw[afterPut_heap] at hn
  by_cases hnb:n=b
  ·rw[if_pos hnb] at hn
   cases hn
   subst hnb
   refine⟨?_,(hi.mem _ _ _ _ _ hb).2⟩
   unfold CW.members
   simp[afterPut,CW.touch,hl]
  ·rw[if_neg hnb] at hn
   obtain⟨h1,h2⟩:=kill_live hn (by simp)
   have hm:=hi.mem n cs E' cl' rel' h1
   refine⟨?_,hm.2⟩
   by_cases hcl:cl'=cl
   ·subst hcl
    unfold CW.members
    simp only[afterPut,CW.touch,upd_same]
    refine List.mem_cons_of_mem _ ?_
    unfold keepL
    rw[List.mem_filter]
    refine⟨hm.1,?_⟩
    simp only[decide_eq_true_eq]
    exact⟨hnb,h2 hnb _ hm.1 rfl⟩
   ·refine members_upd_other (σ:=σ) (nx:=σ.next) (ro:=σ.ro) (inj:=σ.inj) hcl ?_ hm.1 ?_
    ·intro cs1 E1 cl1 rel1 hh
     have hh':(if cl'=b then some (.cells c' E cl rel) else killL b p (σ.members cl) σ.heap cl')=some (.cells cs1 E1 cl1 rel1):=hh
     split at hh'
     ·cases hh';rename_i e;subst e;exact⟨_,_,_,_,hb,hl.symm⟩
     ·exact⟨_,_,_,_,(kill_live hh' (by simp)).1,rfl⟩
    ·intro cs1 E1 cl1 rel1 hnone hh
     have hroot:=mem_singleton_root hnone hm.1
     subst hroot
     refine⟨cs,E',n,rel',?_,?_⟩
     ·show (if n=b then some (.cells c' E cl rel) else killL b p (σ.members cl) σ.heap n)=_
      rw[if_neg hnb,hn]
     ·rw[h1] at hh;cases hh;rfl
 cls:=by
  intro n l hn
  have hn':upd σ.cls cl (some ((b,rel+c.length)::keepL b p (σ.members cl))) n=some l:=hn
  by_cases hc:n=cl
  ·subst hc
   rw[upd_same] at hn'
   cases hn'
   refine⟨(hi.mem _ _ _ _ _ hb).2,fun m hm=>?_⟩
   rcases List.mem_cons.1 hm with h|h
   ·subst h;exact⟨hro,heap_lt hi hb⟩
   ·unfold keepL at h
    exact members_ro hi hb hro m (List.mem_filter.1 h).1
  ·rw[upd_ne _ _ hc] at hn'
   exact hi.cls n l hn'
 rol:=hi.rol
theorem alias_end {P:Program}{β:Ren}{σ:CW}{w:World}(h:Rel P β σ w){b n:Nat}{i j:BI}{c cs:List Value}{E E':TypeId}{cl rel cl' rel' p:Nat}
  (hb:β b=some i)(hbc:σ.heap b=some (.cells c E cl rel))(hro:σ.ro<=b)(hn:β n=some j)(hnb:n≠b)(hB:j.B=i.B)(hnc:σ.heap n=some (.cells cs E' cl' rel'))
  (hk:∀m∈σ.members cl,m.1=n->m.2<=p):σ.ro<=n/\cl'=cl/\j.sh+rel=i.sh+rel'/\rel'+cs.length<=p:=by
 obtain⟨hr,ha⟩:=h.alias n b j i hnb hn hb hB
 rw[hnc,hbc] at ha
 simp only at ha
 have hnro:σ.ro<=n:=by
  rcases Nat.lt_or_ge n σ.ro with h1|h1
  ·have:=hr.1 h1;omega
  ·exact h1
 rcases ha with⟨h1,_⟩|⟨_,h2,h3⟩
 ·omega
 ·subst h2
  exact⟨hnro,rfl,h3,hk _ (h.inv.mem n cs E' _ rel' hnc).1 rfl⟩
def isRow:CObj->Bool
 |.cells _ _ _ _=>true
 |.dead=>true
 |_=>false
theorem cells_map_alias {P:Program}{β:Ren}{σ:CW}{w:World}(h:Rel P β σ w){b n:Nat}{i j:BI}{c:List Value}{E:TypeId}{cl rel:Nat}{o:CObj}
  (hb:β b=some i)(hbc:σ.heap b=some (.cells c E cl rel))(hn:β n=some j)(hnb:n≠b)(hB:j.B=i.B)(hnc:σ.heap n=some o)(hno:isRow o=false):False:=by
 obtain⟨hr,ha⟩:=h.alias n b j i hnb hn hb hB
 rw[hnc,hbc] at ha
 cases o with
 |cells _ _ _ _=>cases hno
 |dead=>cases hno
 |map _ _=>exact ha
 |iter _ _ _=>exact ha
 |loop _ _ _ _ _ _=>exact ha
theorem Rel.put {P:Program}{β:Ren}{σ:CW}{w:World}(h:Rel P β σ w){b off:Nat}{i:BI}{vs vs':List Value}{σ':CW}(hb:β b=some i)
  (hp:σ.put ⟨b,off,none⟩ vs=some σ')(hv:LRel P β vs vs') :
  ∃w',(storeCells ⟨i.B,off+i.sh,none⟩ vs').run P w=.ok () w'/\Stp P β σ w β σ' w':=by
 unfold CW.put at hp
 simp only at hp
 split at hp
 case h_2=>cases hp
 rename_i c E cl rel hbc
 split at hp
 case isFalse=>cases hp
 rename_i hcond
 obtain⟨hro,hone⟩:=hcond
 split at hp
 case h_2=>cases hp
 rename_i c' hput
 obtain⟨hfit,hlen,hget⟩:=putAt_some hput
 have hσ':σ'=afterPut σ b (rel+off) c c' E cl rel:=by cases hp;rfl
 clear hp
 obtain⟨c1,fr,hB,hE,hN,hcN,hsoft,hcs⟩:=(h.obj b i _ hb hbc).cells_inv
 have hone':∀v∈vs',v.oneCell'=true:=by
  intro v hvm
  obtain⟨j,hj,rfl⟩:=List.getElem_of_mem hvm
  have hj':j<vs.length:=by rw[hv.1];exact hj
  have hr:=hv.2 j vs[j] vs'[j] (by simp) (by simp)
  exact hr.oneCell ((List.all_eq_true.1 hone) _ (by simp))
 obtain⟨w',c2,hrun,hu,hsz,hc2⟩:=run_storeCells (P:=P) (off:=off+i.sh) (B:=i.B) (E:=i.E) (fr:=fr) vs' 0 w c1 hB hone'
  (by rw[hN, <-hv.1];omega) (by rw[hN];exact (hsoft (h.wr.2 b i hb (.inl hro))).cells)
 simp only[Nat.add_zero] at hc2
 have hobjb:ObjRel P β i (.cells c' E cl rel) (some (.cells c2 i.E fr)):=by
  refine⟨hE,rfl,hsz.trans hN,by rw[hlen];exact hcN,hsoft,fun k v hk=>?_⟩
  rw[hget] at hk
  rw[hc2]
  split at hk
  ·rename_i hin
   obtain⟨v',h1,h2⟩:=hv.left hk
   refine⟨v',?_,h2⟩
   rw[if_pos (by rw[<-hv.1];omega), <-h1]
   congr 1;omega
  ·rename_i hin
   obtain⟨v',h1,h2⟩:=hcs k v hk
   refine⟨v',?_,h2⟩
   rw[if_neg (by rw[<-hv.1];omega)];exact h1
 refine⟨w',hrun,?_⟩
 subst hσ'
 have hobj:∀n j o,β n=some j->(afterPut σ b (rel+off) c c' E cl rel).heap n=some o->ObjRel P β j o w'.heap[j.B]?:=by
  intro n j o hn ho
  rw[afterPut_heap] at ho
  by_cases hnb:n=b
  ·subst hnb
   rw[if_pos rfl] at ho
   cases ho
   rw[hb] at hn;cases hn
   rw[hu.get,if_pos rfl]
   exact hobjb
  ·rw[if_neg hnb] at ho
   by_cases hd:o=.dead
   ·subst hd;trivial
   ·obtain⟨h1,h2⟩:=kill_live ho hd
    have hold:=h.obj n j o hn h1
    by_cases hjB:j.B=i.B
    ·rw[hu.get,if_pos hjB]
     cases o with
     |dead=>exact absurd rfl hd
     |map es _=>exact (cells_map_alias h hb hbc hn hnb hjB h1 rfl).elim
     |iter _ _ _=>exact (cells_map_alias h hb hbc hn hnb hjB h1 rfl).elim
     |loop _ _ _ _ _ _=>exact (cells_map_alias h hb hbc hn hnb hjB h1 rfl).elim
     |cells cs E' cl' rel'=>
      obtain⟨_,_,h3,h4⟩:=alias_end h hb hbc hro hn hnb hjB h1 (h2 hnb)
      obtain⟨c3,fr3,e3,g1,g2,g3,g4,g5⟩:=hold.cells_inv
      rw[hjB,hB] at e3
      injection e3 with e3
      injection e3 with e3 e4 e5
      subst e3 e5
      refine⟨g1,e4,hsz.trans g2,g3,g4,fun k v hk=>?_⟩
      obtain⟨v',q1,q2⟩:=g5 k v hk
      have hkl:k<cs.length:=(List.getElem?_eq_some_iff.1 hk).1
      refine⟨v',?_,q2⟩
      rw[hc2,if_neg (by rw[<-hv.1];omega)];exact q1
    ·rw[hu.get,if_neg hjB];exact hold
 exact
 {le:=.refl _
  new:=fun _ _ h=>.inl h
  next:=Nat.le_refl _
  ro:=rfl
  inj:=rfl
  cfr:=by
   intro n hn hnone
   rw[afterPut_heap,if_neg (fun e=>by rw[e,hb] at hnone;cases hnone)]
   rcases kill_or (b:=b) (p:=rel+off) (l:=σ.members cl) (h:=σ.heap) n with h|⟨h,_⟩
   ·exact .inl h
   ·exact .inr h
  size:=by rw[hu.size];exact Nat.le_refl _
  afr:=by intro B hB' hne;rw[hu.get,if_neg (fun e=>hne b i hb hro e.symm)]
  os:=hu.os
  out:=hu.out
  tape:=hu.tape
  rel:=
  {inv:=h.inv.put hbc hro hlen
   wr:=h.wr
   lt:=fun n j hn=>⟨(h.lt n j hn).1,by rw[hu.size];exact (h.lt n j hn).2⟩
   obj:=hobj
   alias:=by
    intro b1 b2 i1 i2 hne h1 h2 hB12
    obtain⟨ha,hm⟩:=h.alias b1 b2 i1 i2 hne h1 h2 hB12
    refine⟨ha,?_⟩
    simp only[afterPut_heap]
    have hcase:∀n,β n≠none->(∃o,(if n=b then some (CObj.cells c' E cl rel) else killL b (rel+off) (σ.members cl) σ.heap n)=some o/\
      (o=.dead/\σ.ro<=n\/(∃cs,o=.cells cs E cl rel/\σ.heap n=some (.cells c E cl rel))\/σ.heap n=some o)):=by
     intro n hn
     by_cases hnb:n=b
     ·subst hnb;rw[if_pos rfl];exact⟨_,rfl,.inr (.inl ⟨c',rfl,hbc⟩)⟩
     ·rw[if_neg hnb]
      rcases kill_or (b:=b) (p:=rel+off) (l:=σ.members cl) (h:=σ.heap) n with hk|⟨hk,_,m,hm,he⟩
      ·cases e:β n with
       |none=>exact absurd e hn
       |some j=>obtain⟨o,ho⟩:=h.here n j e;rw[hk,ho];exact⟨o,rfl,.inr (.inr rfl)⟩
      ·rw[hk];exact⟨_,rfl,.inl ⟨rfl,he▸(members_ro h.inv hbc hro m hm).1⟩⟩
    obtain⟨o1,e1,q1⟩:=hcase b1 (by rw[h1];simp)
    obtain⟨o2,e2,q2⟩:=hcase b2 (by rw[h2];simp)
    rw[e1,e2]
    rcases q1 with⟨rfl,q1⟩|⟨cs1,rfl,q1⟩|q1
    ·exact trivial
    ·rcases q2 with⟨rfl,q2⟩|⟨cs2,rfl,q2⟩|q2
     ·exact trivial
     ·rw[q1,q2] at hm;exact hm
     ·rw[q1,q2] at hm;cases o2<;>exact hm
    ·rcases q2 with⟨rfl,q2⟩|⟨cs2,rfl,q2⟩|q2
     ·cases o1<;>exact trivial
     ·rw[q1,q2] at hm;cases o1<;>exact hm
     ·rw[q1,q2] at hm;exact hm
   here:=by
    intro n j hn
    rw[afterPut_heap]
    by_cases hnb:n=b
    ·rw[if_pos hnb];exact⟨_,rfl⟩
    ·rw[if_neg hnb]
     rcases kill_or (b:=b) (p:=rel+off) (l:=σ.members cl) (h:=σ.heap) n with hk|⟨hk,_⟩
     ·rw[hk];exact h.here n j hn
     ·exact⟨_,hk⟩
   iters:=by
    refine h.iters.keep (.refl _) (Nat.le_refl _) (fun _ _ h=>.inl h) (fun n j o hn ho hmi=>?_) (fun n j o hn ho hmi=>?_)
    ·rw[afterPut_heap] at ho
     by_cases hnb:n=b
     ·rw[if_pos hnb] at ho;cases ho;cases hmi
     ·rw[if_neg hnb] at ho
      exact (kill_live ho (by intro e;rw[e] at hmi;cases hmi)).1
    ·by_cases hjB:j.B=i.B
     ·rw[hjB,hB] at ho;cases ho;cases hmi
     ·rw[hu.get,if_neg hjB];exact ho}}
def FreshO (σ:CW):CObj->Prop
 |.cells _ _ cl rel=>cl=σ.next/\rel=0
 |.map _ _=>True
 |.iter _ _ _=>True
 |.loop _ _ _ _ _ _=>True
 |.dead=>False
theorem add_heap {σ:CW}{o:CObj}{n:Nat}:(σ.add o).heap n=if n=σ.next then some o else σ.heap n:=rfl
theorem cls_next {σ:CW}(hi:CInv σ):σ.cls σ.next=none:=by
 cases e:σ.cls σ.next with
 |none=>rfl
 |some l=>have:=(hi.cls _ _ e).1;omega
theorem members_add {σ:CW}{o:CObj}{c:Nat}(hc:c<σ.next):(σ.add o).members c=σ.members c:=by
 unfold CW.members
 show (match σ.cls c with|some l=>l|none=>_)=_
 cases σ.cls c with
 |some l=>rfl
 |none=>simp only[add_heap,if_neg (Nat.ne_of_lt hc)]
theorem CInv.add {σ:CW}(hi:CInv σ){o:CObj}(ho:FreshO σ o):CInv (σ.add o) where
 fresh:=by
  intro n hn
  have hn':σ.next+1<=n:=hn
  rw[add_heap,if_neg (by omega)];exact hi.fresh n (by omega)
 mem:=by
  intro n cs E cl rel hn
  rw[add_heap] at hn
  split at hn
  ·rename_i e
   cases hn
   obtain⟨h1,h2⟩:=ho
   subst h1 h2 e
   refine⟨?_,Nat.lt_succ_self _⟩
   unfold CW.members
   have:(σ.add (.cells cs E σ.next 0)).cls σ.next=none:=cls_next hi
   rw[this]
   simp[add_heap]
  ·have hm:=hi.mem n cs E cl rel hn
   rw[members_add hm.2]
   exact⟨hm.1,Nat.lt_succ_of_lt hm.2⟩
 cls:=by
  intro n l hn
  have:=hi.cls n l hn
  exact⟨Nat.lt_succ_of_lt this.1,fun m hm=>⟨(this.2 m hm).1,Nat.lt_succ_of_lt (this.2 m hm).2⟩⟩
 rol:=Nat.le_succ_of_le hi.rol
theorem Rel.le_upd {P:Program}{β:Ren}{σ:CW}{w:World}(h:Rel P β σ w)(i:BI):Le β (upd β σ.next (some i)):=by
 intro b j hb
 rw[upd_ne _ _ (by have:=(h.lt b j hb).1;omega)];exact hb
theorem Rel.wr_upd {P:Program}{β:Ren}{σ:CW}{w:World}(h:Rel P β σ w){i:BI}(hi:i.wr=true)(n:Nat)(hn:β n=none) :
  (∀b,b<σ.inj->∃j,upd β n (some i) b=some j/\P.underlying j.E≠some (.int .u8))/\∀b j,upd β n (some i) b=some j->(σ.ro<=b\/b<σ.inj)->j.wr=true:=by
 refine⟨fun b hb=>?_,fun b j hb hr=>?_⟩
 ·obtain⟨j,h1,h2⟩:=h.wr.1 b hb
  exact⟨j,by rw[upd_ne _ _ (by intro e;subst e;rw[hn] at h1;cases h1)];exact h1,h2⟩
 ·by_cases e:b=n
  ·subst e;rw[upd_same] at hb;cases hb;exact hi
  ·rw[upd_ne _ _ e] at hb;exact h.wr.2 b j hb hr
theorem Rel.next_none {P:Program}{β:Ren}{σ:CW}{w:World}(h:Rel P β σ w):β σ.next=none:=by
 cases e:β σ.next with
 |none=>rfl
 |some i=>have:=(h.lt _ i e).1;omega
theorem push_get {w w':World}{o':Obj}(hw:w'.heap=w.heap.push o'){B:Nat}(hB:B<w.heap.size):w'.heap[B]?=w.heap[B]?:=by
 rw[hw,Array.getElem?_push,if_neg (by omega)]
theorem push_new {w w':World}{o':Obj}(hw:w'.heap=w.heap.push o'):w'.heap[w.heap.size]?=some o':=by
 rw[hw];simp
theorem Rel.allocI {P:Program}{β:Ren}{σ:CW}{w w':World}(h:Rel P β σ w){o:CObj}{o':Obj}{i:BI}(hB:i.B=w.heap.size)(hw:w'.heap=w.heap.push o')
  (hos:w'.os=w.os)(hout:w'.output=w.output)(htape:w'.tape=w.tape)(hf:FreshO σ o)(ho:ObjRel P (upd β σ.next (some i)) i o (some o'))
  (hit:∀m ver seen,o=.iter (some m) ver seen->IterOk (upd β σ.next (some i)) (σ.add o) w' i m ver seen)(hwr:i.wr=true:=by rfl) :
  Stp P β σ w (upd β σ.next (some i)) (σ.add o) w' where
 le:=h.le_upd i
 new:=by
  intro b j hb
  by_cases e:b=σ.next
  ·subst e;rw[upd_same] at hb;cases hb;exact .inr ⟨Nat.le_refl _,.inr (by omega)⟩
  ·rw[upd_ne _ _ e] at hb;exact .inl hb
 next:=Nat.le_succ _
 ro:=rfl
 inj:=rfl
 cfr:=by intro b hb _;rw[add_heap,if_neg (by omega)];exact .inl rfl
 size:=by rw[hw];simp
 afr:=fun B hB' _=>push_get hw hB'
 os:=hos
 out:=hout
 tape:=htape
 rel:=
 {inv:=h.inv.add hf
  wr:=h.wr_upd hwr σ.next h.next_none
  lt:=by
   intro b j hb
   by_cases e:b=σ.next
   ·subst e;rw[upd_same] at hb;cases hb;exact⟨Nat.lt_succ_self _,by rw[hw,hB];simp⟩
   ·rw[upd_ne _ _ e] at hb
    exact⟨Nat.lt_succ_of_lt (h.lt b j hb).1,by rw[hw];simp;exact Nat.lt_succ_of_lt (h.lt b j hb).2⟩
  obj:=by
   intro b j x hb hx
   rw[add_heap] at hx
   by_cases e:b=σ.next
   ·subst e
    rw[upd_same] at hb;cases hb
    rw[if_pos rfl] at hx;cases hx
    rw[hB,push_new hw];exact ho
   ·rw[upd_ne _ _ e] at hb
    rw[if_neg e] at hx
    rw[push_get hw (h.lt b j hb).2]
    exact (h.obj b j x hb hx).mono (h.le_upd i)
  alias:=by
   intro b1 b2 i1 i2 hne h1 h2 hBB
   by_cases e1:b1=σ.next
   ·subst e1
    rw[upd_same] at h1;cases h1
    rw[upd_ne _ _ (Ne.symm hne)] at h2
    have:=(h.lt b2 i2 h2).2;omega
   ·rw[upd_ne _ _ e1] at h1
    by_cases e2:b2=σ.next
    ·subst e2
     rw[upd_same] at h2;cases h2
     have:=(h.lt b1 i1 h1).2;omega
    ·rw[upd_ne _ _ e2] at h2
     have ha:=h.alias b1 b2 i1 i2 hne h1 h2 hBB
     unfold AliasOk at ha ⊢
     simp only[add_heap,if_neg e1,if_neg e2]
     exact ha
  here:=by
   intro b j hb
   rw[add_heap]
   by_cases e:b=σ.next
   ·rw[if_pos e];exact⟨_,rfl⟩
   ·rw[if_neg e];rw[upd_ne _ _ e] at hb;exact h.here b j hb
  iters:=by
   intro r ir m ver seen hr hro
   rw[add_heap] at hro
   by_cases e:r=σ.next
   ·subst e
    rw[upd_same] at hr;cases hr
    rw[if_pos rfl] at hro;cases hro
    exact hit m ver seen rfl
   ·rw[upd_ne _ _ e] at hr
    rw[if_neg e] at hro
    obtain⟨im,since,seen',last,a1,a2,a3,a4,a5⟩:=h.iters r ir m ver seen hr hro
    refine⟨im,since,seen',last,h.le_upd i _ _ a1,by rw[push_get hw (h.lt r ir hr).2];exact a2,a3,Nat.lt_succ_of_lt a4,fun es v0 hm=>?_⟩
    rw[add_heap,if_neg (by omega)] at hm
    rw[push_get hw (h.lt m im a1).2]
    exact a5 es v0 hm}
theorem Rel.alloc {P:Program}{β:Ren}{σ:CW}{w w':World}(h:Rel P β σ w){o:CObj}{o':Obj}{i:BI}(hB:i.B=w.heap.size)(hw:w'.heap=w.heap.push o')
  (hos:w'.os=w.os)(hout:w'.output=w.output)(htape:w'.tape=w.tape)(hf:FreshO σ o)(ho:ObjRel P (upd β σ.next (some i)) i o (some o'))(hit:isIter o=false:=by rfl)(hwr:i.wr=true:=by rfl) :
  Stp P β σ w (upd β σ.next (some i)) (σ.add o) w':=
 h.allocI hB hw hos hout htape hf ho (fun m ver seen e=>by rw[e] at hit;cases hit) hwr
abbrev grown:=CW.grow
theorem grown_heap {σ:CW}{cl p:Nat}{cs:List Value}{E:TypeId}{rel n:Nat} :
  (grown σ cl p cs E rel).heap n=if n=σ.next then some (.cells cs E cl rel) else killL σ.next p (σ.members cl) σ.heap n:=rfl
theorem CInv.grow {σ:CW}(hi:CInv σ){b p:Nat}{c cs:List Value}{E E':TypeId}{cl rel rel':Nat}(hb:σ.heap b=some (.cells c E cl rel))(hro:σ.ro<=b) :
  CInv (grown σ cl p cs E' rel') where
 fresh:=by
  intro n hn
  have hn':σ.next+1<=n:=hn
  rw[grown_heap,if_neg (by omega)]
  rcases kill_or (b:=σ.next) (p:=p) (l:=σ.members cl) (h:=σ.heap) n with h|⟨_,_,m,hm,he⟩
  ·rw[h];exact hi.fresh n (by omega)
  ·have:=(members_ro hi hb hro m hm).2;omega
 mem:=by
  intro n cs1 E1 cl1 rel1 hn
  rw[grown_heap] at hn
  by_cases hnb:n=σ.next
  ·rw[if_pos hnb] at hn
   cases hn
   subst hnb
   refine⟨?_,Nat.lt_succ_of_lt (hi.mem _ _ _ _ _ hb).2⟩
   unfold CW.members
   simp[CW.grow,CW.touch,CW.add]
  ·rw[if_neg hnb] at hn
   obtain⟨h1,h2⟩:=kill_live hn (by simp)
   have hm:=hi.mem n cs1 E1 cl1 rel1 h1
   refine⟨?_,Nat.lt_succ_of_lt hm.2⟩
   by_cases hcl:cl1=cl
   ·subst hcl
    unfold CW.members
    simp only[CW.grow,CW.touch,CW.add,upd_same]
    refine List.mem_cons_of_mem _ ?_
    unfold keepL
    rw[List.mem_filter]
    refine⟨hm.1,?_⟩
    simp only[decide_eq_true_eq]
    exact⟨hnb,h2 hnb _ hm.1 rfl⟩
   ·refine members_upd_other (σ:=σ) (nx:=σ.next+1) (ro:=σ.ro) (inj:=σ.inj) hcl ?_ hm.1 ?_
    ·intro cs2 E2 cl2 rel2 hh
     have hh':(if cl1=σ.next then some (.cells cs E' cl rel') else killL σ.next p (σ.members cl) σ.heap cl1)=some (.cells cs2 E2 cl2 rel2):=hh
     rw[if_neg (by have:=hm.2;omega)] at hh'
     exact⟨_,_,_,_,(kill_live hh' (by simp)).1,rfl⟩
    ·intro cs2 E2 cl2 rel2 hnone hh
     have hroot:=mem_singleton_root hnone hm.1
     subst hroot
     refine⟨cs1,E1,n,rel1,?_,?_⟩
     ·show (if n=σ.next then some (.cells cs E' cl rel') else killL σ.next p (σ.members cl) σ.heap n)=_
      rw[if_neg hnb,hn]
     ·rw[h1] at hh;cases hh;rfl
 cls:=by
  intro n l hn
  have hn':upd σ.cls cl (some ((σ.next,rel'+cs.length)::keepL σ.next p (σ.members cl))) n=some l:=hn
  by_cases hc:n=cl
  ·subst hc
   rw[upd_same] at hn'
   cases hn'
   refine⟨Nat.lt_succ_of_lt (hi.mem _ _ _ _ _ hb).2,fun m hm=>?_⟩
   rcases List.mem_cons.1 hm with h|h
   ·subst h;exact⟨hi.rol,Nat.lt_succ_self _⟩
   ·unfold keepL at h
    have:=members_ro hi hb hro m (List.mem_filter.1 h).1
    exact⟨this.1,Nat.lt_succ_of_lt this.2⟩
  ·rw[upd_ne _ _ hc] at hn'
   have:=hi.cls n l hn'
   exact⟨Nat.lt_succ_of_lt this.1,fun m hm=>⟨(this.2 m hm).1,Nat.lt_succ_of_lt (this.2 m hm).2⟩⟩
 rol:=Nat.le_succ_of_le hi.rol
theorem alias_kill {P:Program}{β:Ren}{σ:CW}{w:World}(h:Rel P β σ w){b p:Nat}{c:List Value}{E:TypeId}{cl rel:Nat}(hbc:σ.heap b=some (.cells c E cl rel))(hro:σ.ro<=b)
  {b1 b2:Nat}{i1 i2:BI}(hne:b1≠b2)(h1:β b1=some i1)(h2:β b2=some i2)(hBB:i1.B=i2.B)(nw:Nat){σ':CW}(hro':σ'.ro=σ.ro)(hinj:σ'.inj=σ.inj)
  (e1:σ'.heap b1=killL nw p (σ.members cl) σ.heap b1)(e2:σ'.heap b2=killL nw p (σ.members cl) σ.heap b2):AliasOk σ' b1 b2 i1 i2:=by
 obtain⟨ha,hm⟩:=h.alias b1 b2 i1 i2 hne h1 h2 hBB
 refine⟨by rw[hro'];exact ha,?_⟩
 rw[e1,e2,hro',hinj]
 have hro2:∀n,(∃m∈σ.members cl,m.1=n)->σ.ro<=n:=fun n ⟨m,hm,he⟩=>he▸(members_ro h.inv hbc hro m hm).1
 rcases kill_or (b:=nw) (p:=p) (l:=σ.members cl) (h:=σ.heap) b1 with q1|⟨q1,_,q1'⟩
 ·rcases kill_or (b:=nw) (p:=p) (l:=σ.members cl) (h:=σ.heap) b2 with q2|⟨q2,_,q2'⟩
  ·rw[q1,q2];exact hm
  ·rw[q2]
   have h3:σ.ro<=b1:=by
    have:=hro2 _ q2'
    rcases Nat.lt_or_ge b1 σ.ro with h3|h3
    ·have:=ha.1 h3;omega
    ·exact h3
   split<;>first|trivial|simp_all
 ·rw[q1];trivial
theorem Rel.growNew {P:Program}{β:Ren}{σ:CW}{w w':World}(h:Rel P β σ w){b p:Nat}{c cs:List Value}{E E':TypeId}{cl rel rel':Nat}{o':Obj}{i:BI}
  (hbc:σ.heap b=some (.cells c E cl rel))(hro:σ.ro<=b)(hB:i.B=w.heap.size)(hw:w'.heap=w.heap.push o')(hos:w'.os=w.os)(hout:w'.output=w.output)(htape:w'.tape=w.tape)
  (ho:ObjRel P (upd β σ.next (some i)) i (.cells cs E' cl rel') (some o'))(hwr:i.wr=true:=by rfl):Stp P β σ w (upd β σ.next (some i)) (grown σ cl p cs E' rel') w' where
 le:=h.le_upd i
 new:=by
  intro b j hb
  by_cases e:b=σ.next
  ·subst e;rw[upd_same] at hb;cases hb;exact .inr ⟨Nat.le_refl _,.inr (by omega)⟩
  ·rw[upd_ne _ _ e] at hb;exact .inl hb
 next:=Nat.le_succ _
 ro:=rfl
 inj:=rfl
 cfr:=by
  intro n hn _
  rw[grown_heap,if_neg (by omega)]
  rcases kill_or (b:=σ.next) (p:=p) (l:=σ.members cl) (h:=σ.heap) n with h|⟨h,_⟩
  ·exact .inl h
  ·exact .inr h
 size:=by rw[hw];simp
 afr:=fun B hB' _=>push_get hw hB'
 os:=hos
 out:=hout
 tape:=htape
 rel:=
 {inv:=h.inv.grow hbc hro
  wr:=h.wr_upd hwr σ.next h.next_none
  lt:=by
   intro n j hb
   by_cases e:n=σ.next
   ·subst e;rw[upd_same] at hb;cases hb;exact⟨Nat.lt_succ_self _,by rw[hw,hB];simp⟩
   ·rw[upd_ne _ _ e] at hb
    exact⟨Nat.lt_succ_of_lt (h.lt n j hb).1,by rw[hw];simp;exact Nat.lt_succ_of_lt (h.lt n j hb).2⟩
  obj:=by
   intro n j x hb hx
   rw[grown_heap] at hx
   by_cases e:n=σ.next
   ·subst e
    rw[upd_same] at hb;cases hb
    rw[if_pos rfl] at hx;cases hx
    rw[hB,push_new hw];exact ho
   ·rw[upd_ne _ _ e] at hb
    rw[if_neg e] at hx
    by_cases hd:x=.dead
    ·subst hd;trivial
    ·obtain⟨g1,_⟩:=kill_live hx hd
     rw[push_get hw (h.lt n j hb).2]
     exact (h.obj n j x hb g1).mono (h.le_upd i)
  alias:=by
   intro b1 b2 i1 i2 hne h1 h2 hBB
   by_cases e1:b1=σ.next
   ·subst e1
    rw[upd_same] at h1;cases h1
    rw[upd_ne _ _ (Ne.symm hne)] at h2
    have:=(h.lt b2 i2 h2).2;omega
   ·rw[upd_ne _ _ e1] at h1
    by_cases e2:b2=σ.next
    ·subst e2
     rw[upd_same] at h2;cases h2
     have:=(h.lt b1 i1 h1).2;omega
    ·rw[upd_ne _ _ e2] at h2
     exact alias_kill h hbc hro hne h1 h2 hBB σ.next rfl rfl (by rw[grown_heap,if_neg e1]) (by rw[grown_heap,if_neg e2])
  here:=by
   intro n j hb
   rw[grown_heap]
   by_cases e:n=σ.next
   ·rw[if_pos e];exact⟨_,rfl⟩
   ·rw[if_neg e];rw[upd_ne _ _ e] at hb
    rcases kill_or (b:=σ.next) (p:=p) (l:=σ.members cl) (h:=σ.heap) n with hk|⟨hk,_⟩
    ·rw[hk];exact h.here n j hb
    ·exact⟨_,hk⟩
  iters:=by
   refine h.iters.keep (h.le_upd i) (Nat.le_succ _) (fun n j hn=>?_) (fun n j o hn ho hmi=>?_) (fun n j o hn ho _=>by rw[push_get hw (h.lt n j hn).2];exact ho)
   ·by_cases e:n=σ.next
    ·refine .inr fun o ho=>?_
     rw[grown_heap,if_pos e] at ho;cases ho;rfl
    ·rw[upd_ne _ _ e] at hn;exact .inl hn
   ·rw[grown_heap,if_neg (Nat.ne_of_lt (h.lt n j hn).1)] at ho
    exact (kill_live ho (by intro e;rw[e] at hmi;cases hmi)).1}
theorem Rel.growIn {P:Program}{β:Ren}{σ:CW}{w w':World}(h:Rel P β σ w){b off q:Nat}{c old new new':List Value}{E:TypeId}{cl rel:Nat}{i:BI}{c1 c2:Array Value}{fr:Nat×Nat}
  (hb:β b=some i)(hbc:σ.heap b=some (.cells c E cl rel))(hro:σ.ro<=b)(htake:takeAt c off q=some old)(hnew:LRel P β new new')
  (hB:w.heap[i.B]?=some (.cells c1 i.E fr))(hu:UpdB w w' i.B (.cells c2 i.E fr))(hsz:c2.size=c1.size)(hfit:off+i.sh+q+new.length<=i.N)
  (hc2:∀(k:Nat),c2[k]?=if off+i.sh+q<=k/\k<off+i.sh+q+new'.length then new'[k-(off+i.sh+q)]? else c1[k]?) :
  Stp P β σ w (upd β σ.next (some ⟨i.B,off+i.sh,i.N,i.E,true⟩)) (grown σ cl (rel+off+q) (old++new) E (rel+off)) w':=by
 obtain⟨c1',fr',hB',hE,hN,hcN,hsoft,hcs⟩:=(h.obj b i _ hb hbc).cells_inv
 rw[hB] at hB'
 injection hB' with e1
 injection e1 with e1 _ e2
 subst e1 e2
 obtain⟨hql,hold⟩:=takeAt_some htake
 have hq:old.length=q:=by subst hold;simp;omega
 have hle:=h.le_upd ⟨i.B,off+i.sh,i.N,i.E,true⟩
 have hnewlen:=hnew.1
 have holds:∀n j x,β n=some j->killL σ.next (rel+off+q) (σ.members cl) σ.heap n=some x->ObjRel P β j x w'.heap[j.B]?:=by
  intro n j x hn hx
  by_cases hd:x=.dead
  ·subst hd;trivial
  ·obtain⟨g1,g2⟩:=kill_live hx hd
   have hnn:n≠σ.next:=by have:=(h.lt n j hn).1;omega
   have holdo:=h.obj n j x hn g1
   by_cases hjB:j.B=i.B
   ·rw[hu.get,if_pos hjB]
    cases x with
    |dead=>exact absurd rfl hd
    |map es _=>
     by_cases hnb:n=b
     ·subst hnb;rw[hbc] at g1;cases g1
     ·exact (cells_map_alias h hb hbc hn hnb hjB g1 rfl).elim
    |iter _ _ _=>
     by_cases hnb:n=b
     ·subst hnb;rw[hbc] at g1;cases g1
     ·exact (cells_map_alias h hb hbc hn hnb hjB g1 rfl).elim
    |loop _ _ _ _ _ _=>
     by_cases hnb:n=b
     ·subst hnb;rw[hbc] at g1;cases g1
     ·exact (cells_map_alias h hb hbc hn hnb hjB g1 rfl).elim
    |cells ds E' cl' rel'=>
     have hend:rel'+ds.length<=rel+off+q/\j.sh+rel=i.sh+rel':=by
      by_cases hnb:n=b
      ·subst hnb
       rw[hbc] at g1;cases g1
       rw[hb] at hn;cases hn
       exact⟨g2 hnn _ (h.inv.mem n c E cl rel hbc).1 rfl,rfl⟩
      ·obtain⟨_,_,h3,h4⟩:=alias_end h hb hbc hro hn hnb hjB g1 (g2 hnn)
       exact⟨h4,h3⟩
     obtain⟨c3,fr3,e3,k1,k2,k3,k4,k5⟩:=holdo.cells_inv
     rw[hjB,hB] at e3
     injection e3 with e3
     injection e3 with e3 e4 e5
     subst e3 e5
     refine⟨k1,e4,hsz.trans k2,k3,k4,fun k v hk=>?_⟩
     obtain⟨v',q1,q2⟩:=k5 k v hk
     have hkl:k<ds.length:=(List.getElem?_eq_some_iff.1 hk).1
     refine⟨v',?_,q2⟩
     rw[hc2,if_neg (by omega)];exact q1
   ·rw[hu.get,if_neg hjB];exact holdo
 have hnewo:ObjRel P (upd β σ.next (some ⟨i.B,off+i.sh,i.N,i.E,true⟩)) ⟨i.B,off+i.sh,i.N,i.E,true⟩ (.cells (old++new) E cl (rel+off)) (some (.cells c2 i.E fr)):=by
  refine⟨hE,rfl,hsz.trans hN,by simp only[List.length_append];omega,fun _=>hsoft (h.wr.2 b i hb (.inl hro)),fun k v hk=>?_⟩
  show ∃v',c2[k+(off+i.sh)]?=some v'/\_
  by_cases hkq:k<q
  ·rw[List.getElem?_append_left (by omega)] at hk
   subst hold
   rw[List.getElem?_take,if_pos hkq,List.getElem?_drop] at hk
   obtain⟨v',r1,r2⟩:=hcs (off+k) v hk
   refine⟨v',?_,r2.mono hle⟩
   rw[hc2,if_neg (by omega)]
   rw[<-r1];congr 1;omega
  ·rw[List.getElem?_append_right (by omega),hq] at hk
   obtain⟨v',r1,r2⟩:=hnew.left hk
   have:k-q<new.length:=(List.getElem?_eq_some_iff.1 hk).1
   refine⟨v',?_,r2.mono hle⟩
   rw[hc2,if_pos (by omega), <-r1];congr 1;omega
 exact
 {le:=hle
  new:=by
   intro n j hn
   by_cases e:n=σ.next
   ·subst e;rw[upd_same] at hn;cases hn;exact .inr ⟨Nat.le_refl _,.inl ⟨b,i,hb,hro,rfl⟩⟩
   ·rw[upd_ne _ _ e] at hn;exact .inl hn
  next:=Nat.le_succ _
  ro:=rfl
  inj:=rfl
  cfr:=by
   intro n hn _
   rw[grown_heap,if_neg (by omega)]
   rcases kill_or (b:=σ.next) (p:=rel+off+q) (l:=σ.members cl) (h:=σ.heap) n with h|⟨h,_⟩
   ·exact .inl h
   ·exact .inr h
  size:=by rw[hu.size];exact Nat.le_refl _
  afr:=by intro B hB' hne;rw[hu.get,if_neg (fun e=>hne b i hb hro e.symm)]
  os:=hu.os
  out:=hu.out
  tape:=hu.tape
  rel:=
  {inv:=h.inv.grow hbc hro
   wr:=h.wr_upd rfl σ.next h.next_none
   lt:=by
    intro n j hn
    by_cases e:n=σ.next
    ·subst e;rw[upd_same] at hn;cases hn;exact⟨Nat.lt_succ_self _,by rw[hu.size];exact (h.lt b i hb).2⟩
    ·rw[upd_ne _ _ e] at hn
     exact⟨Nat.lt_succ_of_lt (h.lt n j hn).1,by rw[hu.size];exact (h.lt n j hn).2⟩
   obj:=by
    intro n j x hn hx
    rw[grown_heap] at hx
    by_cases e:n=σ.next
    ·subst e
     rw[upd_same] at hn;cases hn
     rw[if_pos rfl] at hx;cases hx
     show ObjRel P _ _ _ w'.heap[i.B]?
     rw[hu.get,if_pos rfl];exact hnewo
    ·rw[upd_ne _ _ e] at hn
     rw[if_neg e] at hx
     exact (holds n j x hn hx).mono hle
   alias:=by
    intro b1 b2 i1 i2 hne h1 h2 hBB
    have hone:∀n j,n≠σ.next->β n=some j->j.B=i.B->∀x,killL σ.next (rel+off+q) (σ.members cl) σ.heap n=some x->
      σ.ro<=n/\(x=.dead\/∃ds E' rel',x=.cells ds E' cl rel'/\j.sh+rel=i.sh+rel'):=by
     intro n j hnn hn hjB x hx
     have hron:σ.ro<=n:=by
      by_cases hnb:n=b
      ·subst hnb;exact hro
      ·obtain⟨hr,_⟩:=h.alias n b j i hnb hn hb hjB
       rcases Nat.lt_or_ge n σ.ro with h3|h3
       ·have:=hr.1 h3;omega
       ·exact h3
     refine⟨hron,?_⟩
     by_cases hd:x=.dead
     ·exact .inl hd
     ·obtain⟨g1,g2⟩:=kill_live hx hd
      cases x with
      |dead=>exact absurd rfl hd
      |map es _=>
       by_cases hnb:n=b
       ·subst hnb;rw[hbc] at g1;cases g1
       ·exact (cells_map_alias h hb hbc hn hnb hjB g1 rfl).elim
      |iter _ _ _=>
       by_cases hnb:n=b
       ·subst hnb;rw[hbc] at g1;cases g1
       ·exact (cells_map_alias h hb hbc hn hnb hjB g1 rfl).elim
      |loop _ _ _ _ _ _=>
       by_cases hnb:n=b
       ·subst hnb;rw[hbc] at g1;cases g1
       ·exact (cells_map_alias h hb hbc hn hnb hjB g1 rfl).elim
      |cells ds E' cl' rel'=>
       by_cases hnb:n=b
       ·subst hnb
        rw[hbc] at g1;cases g1
        rw[hb] at hn;cases hn
        exact .inr ⟨_,_,_,rfl,rfl⟩
       ·obtain⟨_,h3,h4,_⟩:=alias_end h hb hbc hro hn hnb hjB g1 (g2 hnn)
        subst h3
        exact .inr ⟨_,_,_,rfl,h4⟩
    by_cases e1:b1=σ.next
    ·subst e1
     rw[upd_same] at h1;cases h1
     rw[upd_ne _ _ (Ne.symm hne)] at h2
     have hx2:∃x,killL σ.next (rel+off+q) (σ.members cl) σ.heap b2=some x:=by
      rcases kill_or (b:=σ.next) (p:=rel+off+q) (l:=σ.members cl) (h:=σ.heap) b2 with hk|⟨hk,_⟩
      ·rw[hk];exact h.here b2 i2 h2
      ·exact⟨_,hk⟩
     obtain⟨x,hx⟩:=hx2
     obtain⟨r1,r2⟩:=hone b2 i2 (Ne.symm hne) h2 hBB.symm x hx
     have hron:σ.ro<=σ.next:=h.inv.rol
     refine⟨⟨fun h3=>absurd h3 (Nat.not_lt.2 hron),fun h3=>absurd h3 (Nat.not_lt.2 r1)⟩,?_⟩
     rw[grown_heap,grown_heap,if_pos rfl,if_neg (Ne.symm hne),hx]
     rcases r2 with rfl|⟨ds,E',rel',rfl,r2⟩
     ·exact trivial
     ·refine .inr ⟨hron,rfl,?_⟩
      show off+i.sh+rel'=i2.sh+(rel+off)
      omega
    ·rw[upd_ne _ _ e1] at h1
     by_cases e2:b2=σ.next
     ·subst e2
      rw[upd_same] at h2;cases h2
      have hx1:∃x,killL σ.next (rel+off+q) (σ.members cl) σ.heap b1=some x:=by
       rcases kill_or (b:=σ.next) (p:=rel+off+q) (l:=σ.members cl) (h:=σ.heap) b1 with hk|⟨hk,_⟩
       ·rw[hk];exact h.here b1 i1 h1
       ·exact⟨_,hk⟩
      obtain⟨x,hx⟩:=hx1
      obtain⟨r1,r2⟩:=hone b1 i1 hne h1 hBB x hx
      have hron:σ.ro<=σ.next:=h.inv.rol
      refine⟨⟨fun h3=>absurd h3 (Nat.not_lt.2 r1),fun h3=>absurd h3 (Nat.not_lt.2 hron)⟩,?_⟩
      rw[grown_heap,grown_heap,if_pos rfl,if_neg hne,hx]
      rcases r2 with rfl|⟨ds,E',rel',rfl,r2⟩
      ·exact trivial
      ·refine .inr ⟨r1,rfl,?_⟩
       show i1.sh+(rel+off)=off+i.sh+rel'
       omega
     ·rw[upd_ne _ _ e2] at h2
      exact alias_kill h hbc hro hne h1 h2 hBB σ.next rfl rfl (by rw[grown_heap,if_neg e1]) (by rw[grown_heap,if_neg e2])
   here:=by
    intro n j hn
    rw[grown_heap]
    by_cases e:n=σ.next
    ·rw[if_pos e];exact⟨_,rfl⟩
    ·rw[if_neg e];rw[upd_ne _ _ e] at hn
     rcases kill_or (b:=σ.next) (p:=rel+off+q) (l:=σ.members cl) (h:=σ.heap) n with hk|⟨hk,_⟩
     ·rw[hk];exact h.here n j hn
     ·exact⟨_,hk⟩
   iters:=by
    refine h.iters.keep hle (Nat.le_succ _) (fun n j hn=>?_) (fun n j o hn ho hmi=>?_) (fun n j o hn ho hmi=>?_)
    ·by_cases e:n=σ.next
     ·refine .inr fun o ho=>?_
      rw[grown_heap,if_pos e] at ho;cases ho;rfl
     ·rw[upd_ne _ _ e] at hn;exact .inl hn
    ·rw[grown_heap,if_neg (Nat.ne_of_lt (h.lt n j hn).1)] at ho
     exact (kill_live ho (by intro e;rw[e] at hmi;cases hmi)).1
    ·by_cases hjB:j.B=i.B
     ·rw[hjB,hB] at ho;cases ho;cases hmi
     ·rw[hu.get,if_neg hjB];exact ho}}
theorem ba_beq (a b:ByteArray):(a==b)=true↔a=b:=by
 constructor
 ·intro h
  have h':(a.data==b.data)=true:=h
  have h'':a.data=b.data:=eq_of_beq h'
  cases a;cases b;cases h'';rfl
 ·rintro rfl
  show (a.data==a.data)=true
  exact beq_self_eq_true _
theorem ba_list (a b:ByteArray):(a.data.toList==b.data.toList)=(a==b):=by
 rw[Bool.eq_iff_iff,ba_beq]
 constructor
 ·intro h
  have h':a.data.toList=b.data.toList:=eq_of_beq h
  have h'':a.data=b.data:=Array.toList_inj.1 h'
  cases a;cases b;cases h'';rfl
 ·rintro rfl;exact beq_self_eq_true _
theorem keyEq_true {a b:Value}(h:keyEq a b=some true):a=b:=by
 unfold keyEq at h
 split at h
 ·rename_i s u
  rw[ba_list] at h
  simp only[Option.some.injEq,ba_beq] at h
  rw[h]
 ·split at h
  ·rename_i j m k n hk
   simp only[Option.some.injEq,beq_iff_eq] at h hk
   rw[h,hk]
  ·cases h
 ·cases h
theorem keyEq_self {str:Bool}{a:Value}(h:isKey str a=true):keyEq a a=some true:=by
 unfold isKey at h
 split at h<;>simp_all [keyEq]
theorem keyEq_false_ne {a b:Value}(h:keyEq a b=some false):a≠b:=by
 rintro rfl
 unfold keyEq at h
 split at h
 ·simp at h
 ·simp at h
 ·cases h
theorem keyEq_symm_false {a b:Value}(h:keyEq a b=some false):keyEq b a=some false:=by
 unfold keyEq at h ⊢
 split at h
 ·simp only[Option.some.injEq,beq_eq_false_iff_ne] at h ⊢
  exact fun e=>h e.symm
 ·rename_i j m k n
  split at h
  ·rename_i hk
   simp only[beq_iff_eq] at hk
   subst hk
   simp only[beq_self_eq_true,if_true,Option.some.injEq,beq_eq_false_iff_ne] at h ⊢
   exact fun e=>h e.symm
  ·cases h
 ·cases h
def KeyKind (d:TypeDesc)(str:Bool):Prop:=(str=true/\d=.string)\/(str=false/\∃k,d=.int k)
theorem sameNow_eq {d:TypeDesc}{str:Bool}(hd:KeyKind d str){a b:Value}{r:Bool}(ha:isKey str a=true)(h:keyEq a b=some r):Instr.sameNow d a b=some r:=by
 unfold keyEq at h
 split at h
 ·rcases hd with⟨_,rfl⟩|⟨rfl,_⟩
  ·rw[ba_list] at h;exact h
  ·cases ha
 ·rename_i j m k n
  split at h
  ·rename_i hk
   simp only[beq_iff_eq] at hk
   rcases hd with⟨rfl,_⟩|⟨_,k0,rfl⟩
   ·cases ha
   ·simp only[Instr.sameNow,hk,if_true];exact h
  ·cases h
 ·cases h
theorem findNow_spec {d:TypeDesc}{str:Bool}(hd:KeyKind d str){k:Value}(hk:isKey str k=true):∀(L:List MapEntry)(i:Nat),(∀e∈L,∃b,keyEq k e.key=some b)->
  (Instr.findNow d k L i=some none/\∀e∈L,keyEq k e.key=some false)\/
  (∃j e,L[j]?=some e/\keyEq k e.key=some true/\(∀j',j'<j->∀e',L[j']?=some e'->keyEq k e'.key=some false)/\Instr.findNow d k L i=some (some (i+j,e.val)))
 |[],i,_=>.inl ⟨rfl,by simp⟩
 |e::L,i,h=>by
  obtain⟨b,hb⟩:=h e (by simp)
  have hs:=sameNow_eq hd hk hb
  cases b with
  |true=>exact .inr ⟨0,e,rfl,hb,fun j' hj=>absurd hj (Nat.not_lt_zero _),by simp[Instr.findNow,hs]⟩
  |false=>
   rcases findNow_spec hd hk L (i+1) (fun e' he=>h e' (by simp[he])) with⟨h1,h2⟩|⟨j,e',h1,h2,h4,h3⟩
   ·refine .inl ⟨by simp[Instr.findNow,hs,h1],?_⟩
    intro e' he'
    rcases List.mem_cons.1 he' with rfl|h'
    ·exact hb
    ·exact h2 e' h'
   ·refine .inr ⟨j+1,e',by simpa using h1,h2,?_,?_⟩
    ·intro j' hj e'' he''
     cases j' with
     |zero=>simp at he'';subst he'';exact hb
     |succ j'=>exact h4 j' (by omega) e'' (by simpa using he'')
    ·simp only[Instr.findNow,hs,h3];congr 3;omega
theorem look_spec {k:Value}:∀{es:List (Value×Value)}{r:Option Value},look k es=some r->
  (r=none/\∀x∈es,keyEq k x.1=some false)\/(∃v pre post k',r=some v/\es=pre++(k',v)::post/\keyEq k k'=some true/\∀x∈pre,keyEq k x.1=some false)
 |[],r,h=>by cases h;exact .inl ⟨rfl,by simp⟩
 |(k',v)::es,r,h=>by
  unfold look at h
  split at h
  ·rename_i e;cases h;exact .inr ⟨v,[],es,k',rfl,rfl,e,by simp⟩
  ·rename_i e
   rcases look_spec h with⟨rfl,h2⟩|⟨u,pre,post,k2,rfl,rfl,h3,h4⟩
   ·refine .inl ⟨rfl,?_⟩
    intro x hx
    rcases List.mem_cons.1 hx with rfl|hx
    ·exact e
    ·exact h2 x hx
   ·refine .inr ⟨u,(k',v)::pre,post,k2,rfl,rfl,h3,?_⟩
    intro x hx
    rcases List.mem_cons.1 hx with rfl|hx
    ·exact e
    ·exact h4 x hx
  ·cases h
theorem keys_other {pre post:List (Value×Value)}{k k' v:Value}(h:KeysOk (pre++(k',v)::post))(hk:k=k'):(∀x∈pre,keyEq k x.1=some false)/\∀x∈post,keyEq k x.1=some false:=by
 subst hk
 unfold KeysOk at h
 rw[List.pairwise_append] at h
 obtain⟨_,h2,h3⟩:=h
 rw[List.pairwise_cons] at h2
 exact⟨fun x hx=>keyEq_symm_false (h3 x hx (k,v) (List.mem_cons_self ..)),fun x hx=>h2.1 x hx⟩
theorem ERel.mem {P:Program}{β:Ren}{es:List (Value×Value)}{l:List MapEntry}(h:ERel P β es l){e:MapEntry}(he:e∈l):∃v,(e.key,v)∈es/\VRel P β v e.val:=by
 induction h with
 |nil=>cases he
 |cons hk hv t ih=>
  rcases List.mem_cons.1 he with rfl|he
  ·exact⟨_,by rw[hk];simp,hv⟩
  ·obtain⟨v,h1,h2⟩:=ih he;exact⟨v,by simp[h1],h2⟩
theorem ERel.len {P:Program}{β:Ren}{es:List (Value×Value)}{l:List MapEntry}(h:ERel P β es l):l.length=es.length:=by
 induction h with
 |nil=>rfl
 |cons _ _ _ ih=>simp[ih]
theorem ERel.split {P:Program}{β:Ren}:∀{pre:List (Value×Value)}{x:Value×Value}{post:List (Value×Value)}{l:List MapEntry},ERel P β (pre++x::post) l->
  ∃p e q,l=p++e::q/\ERel P β pre p/\e.key=x.1/\VRel P β x.2 e.val/\ERel P β post q
 |[],x,post,l,h=>by
  cases h with
  |cons hk hv t=>exact⟨[],_,_,rfl,.nil,hk,hv,t⟩
 |y::pre,x,post,l,h=>by
  cases h with
  |cons hk hv t=>
   obtain⟨p,e,q,rfl,h1,h2,h3,h4⟩:=ERel.split t
   exact⟨_::p,e,q,rfl,.cons hk hv h1,h2,h3,h4⟩
theorem ERel.append {P:Program}{β:Ren}{a b:List (Value×Value)}{c d:List MapEntry}(h:ERel P β a c)(g:ERel P β b d):ERel P β (a++b) (c++d):=by
 induction h with
 |nil=>exact g
 |cons hk hv _ ih=>exact .cons hk hv ih
theorem MapRel.size {P:Program}{β:Ren}{es:List (Value×Value)}{es':Array MapEntry}(h:MapRel P β es es'):es'.size=es.length:=by
 obtain⟨_,l,hp,hr⟩:=h
 rw[<-hr.len, <-hp.length_eq];simp
theorem MapRel.look {P:Program}{β:Ren}{es:List (Value×Value)}{es':Array MapEntry}(h:MapRel P β es es'){d:TypeDesc}{str:Bool}(hd:KeyKind d str){k:Value}(hk:isKey str k=true)
  {r:Option Value}(hl:look k es=some r) :
  (r=none/\Instr.findNow d k es'.toList 0=some none/\∀x∈es,keyEq k x.1=some false)\/
  (∃v pre post j e,r=some v/\es=pre++(k,v)::post/\es'[j]?=some e/\e.key=k/\VRel P β v e.val/\Instr.findNow d k es'.toList 0=some (some (j,e.val))/\
   (∀x∈pre++post,keyEq k x.1=some false)):=by
 obtain⟨hkeys,l,hp,hr⟩:=h
 rcases look_spec hl with⟨rfl,hno⟩|⟨v,pre,post,k',rfl,rfl,hkk,hpre⟩
 ·refine .inl ⟨rfl,?_,hno⟩
  have hall:∀e∈es'.toList,keyEq k e.key=some false:=by
   intro e he
   obtain⟨v,h1,_⟩:=hr.mem (hp.mem_iff.1 he)
   exact hno _ h1
  rcases findNow_spec hd hk es'.toList 0 (fun e he=>⟨false,hall e he⟩) with⟨h1,_⟩|⟨j,e,h1,h2,_⟩
  ·exact h1
  ·rw[hall e (List.mem_of_getElem? h1)] at h2;cases h2
 ·have hkk':=keyEq_true hkk
  subst hkk'
  obtain⟨ho1,ho2⟩:=keys_other hkeys rfl
  have hall:∀e∈es'.toList,∃b,keyEq k e.key=some b/\(b=true->VRel P β v e.val):=by
   intro e he
   obtain⟨u,h1,h2⟩:=hr.mem (hp.mem_iff.1 he)
   rcases List.mem_append.1 h1 with h1|h1
   ·exact⟨false,ho1 _ h1,by simp⟩
   ·rcases List.mem_cons.1 h1 with h1|h1
    ·injection h1 with e1 e2;rw[e1];exact⟨true,hkk,fun _=>e2▸h2⟩
    ·exact⟨false,ho2 _ h1,by simp⟩
  rcases findNow_spec hd hk es'.toList 0 (fun e he=>let ⟨b,hb,_⟩:=hall e he;⟨b,hb⟩) with⟨_,h2⟩|⟨j,e,h1,h2,_,h3⟩
  ·obtain⟨p,e,q,rfl,_,he,_,_⟩:=ERel.split hr
   have:=h2 e (hp.mem_iff.2 (by simp))
   rw[he] at this
   rw[hkk] at this;cases this
  ·refine .inr ⟨v,pre,post,j,e,rfl,rfl,by simpa using h1,(keyEq_true h2).symm,?_,by simpa using h3,?_⟩
   ·obtain⟨b,hb,hv⟩:=hall e (List.mem_of_getElem? h1)
    rw[h2] at hb;cases hb;exact hv rfl
   ·intro x hx
    rcases List.mem_append.1 hx with hx|hx
    ·exact ho1 x hx
    ·exact ho2 x hx
theorem run_checkKey {P:Program}{w:World}{t:TypeId}{d:TypeDesc}{str:Bool}(ht:P.underlying t=some d)(hd:KeyKind d str){b:Bool}{n:Nat}{k:Value} :
  (Instr.checkKey b (n+1) t k).run P w=.ok () w:=by
 rw[Instr.checkKey,Sem.run_bind]
 have:(underlying t).run P w=.ok d w:=by simp[underlying,ht]
 rw[this]
 rcases hd with⟨_,rfl⟩|⟨_,k0,rfl⟩<;>rfl
theorem run_findKey {P:Program}{w:World}{t:TypeId}{d:TypeDesc}(ht:P.underlying t=some d){k:Value}{L:List MapEntry}{r:Option (Nat×Value)}(h:Instr.findNow d k L 0=some r) :
  (Instr.findKey t k L).run P w=.ok r w:=by
 rw[Instr.findKey,Sem.run_bind]
 have:(underlying t).run P w=.ok d w:=by simp[underlying,ht]
 rw[this,Result.andThen_ok,h];rfl
end Go.Cn
namespace Go.Cn
set_option linter.unusedVariables false
set_option linter.unusedSimpArgs false
section runs
variable {P:Program}{w:World}{t:TypeId}
theorem r_und {d:TypeDesc}(h:P.underlying t=some d):(underlying t).run P w=.ok d w:=by simp[underlying,h]
theorem r_info {i:TypeInfo}(h:P.info? t=some i):(typeInfo t).run P w=.ok i w:=by simp[typeInfo,h]
theorem szOf_some {n:Nat}(h:szOf P t=some n):∃i,P.info? t=some i/\i.size=n:=by
 unfold szOf at h;cases e:P.info? t with
 |none=>rw[e] at h;cases h
 |some i=>rw[e] at h;simp at h;exact⟨i,rfl,h⟩
theorem bytesOf_some {n:Nat}(h:bytesOf P t=some n):∃i,P.info? t=some i/\i.bytes=n:=by
 unfold bytesOf at h;cases e:P.info? t with
 |none=>rw[e] at h;cases h
 |some i=>rw[e] at h;simp at h;exact⟨i,rfl,h⟩
theorem r_size {n:Nat}(h:szOf P t=some n):(sizeOf t).run P w=.ok n w:=by
 obtain⟨i,h1,h2⟩:=szOf_some h
 simp[sizeOf,r_info h1,h2]
theorem r_zero {z:Value}(h:zeroOf P t=some z):(zeroValue t).run P w=.ok z w:=by
 unfold zeroOf at h
 cases e:P.info? t with
 |none=>rw[e] at h;cases h
 |some i=>rw[e] at h;simp at h;simp[zeroValue,r_info e,h]
theorem r_agg {b:Bool}(h:aggOf P t=some b):(isAgg t).run P w=.ok b w:=by
 unfold aggOf at h
 unfold isAgg
 cases e:P.underlying t with
 |none=>rw[e] at h;cases h
 |some d=>rw[e] at h;simp only[Sem.run_bind,r_und e,Result.andThen];cases d<;>simp at h<;>subst h<;>rfl
theorem zeroP_some {z:Value}(h:zeroP P t=some z):zeroOf P t=some z/\plain 8 z=true:=by
 unfold zeroP at h
 split at h
 ·split at h
  ·rename_i z' e hp;cases h;exact⟨e,hp⟩
  ·cases h
 ·cases h
end runs
theorem plain_rel {P:Program}{β:Ren}:∀(n:Nat)(v:Value),plain n v=true->VRel P β v v
 |0,v,h=>by simp[plain] at h
 |n+1,v,h=>by
  cases v with
  |bool b=>exact .bool b
  |int k m=>exact .int k m
  |float k m=>exact .float k m
  |complex k a b=>exact .complex k a b
  |string s=>exact .string s
  |pointer a=>cases a with
   |none=>exact .nilPtr
   |some a=>simp[plain] at h
  |slice a l c=>cases a with
   |none=>simp only[plain,Bool.and_eq_true,Nat.beq_eq] at h;obtain⟨rfl,rfl⟩:=h;exact .nilSlice
   |some a=>simp[plain] at h
  |map r=>cases r with
   |none=>exact .nilMap
   |some r=>simp[plain] at h
  |chan r=>cases r with
   |none=>exact .nilChan
   |some r=>simp[plain] at h
  |func f a b=>simp[plain] at h
  |nilFunc=>exact .nilFunc
  |iface t v=>simp[plain] at h
  |nilIface=>exact .nilIface
  |agg cs=>
   simp only[plain,List.all_eq_true] at h
   refine VRel.agg_iff.2 ⟨rfl,fun j x y hx hy=>?_⟩
   rw[hx] at hy;cases hy
   exact plain_rel n x (h x (List.mem_of_getElem? hx))
  |tuple cs=>
   simp only[plain,List.all_eq_true] at h
   refine VRel.tuple_iff.2 ⟨rfl,fun j x y hx hy=>?_⟩
   rw[hx] at hy;cases hy
   exact plain_rel n x (h x (List.mem_of_getElem? hx))
theorem plain_cells {P:Program}{β:Ren}{z:Value}(h:plain 8 z=true):LRel P β (cellsOf z) z.cells.toList:=(plain_rel 8 z h).cells
def Gives (P:Program)(ρ:Operand->Value)(o:Oper)(w:World)(β:Ren)(v:Value):Prop:=
 ∃v',(execOp ρ o).run P w=.ok (.value v') w/\VRel P β v v'
section ops
variable {P:Program}{β:Ren}{σ:CW}{w:World}{ev' ρ:Operand->Value}{o:Oper}{v:Value}
theorem p_mov {x:Operand}(ho:o.op=.move x\/o.op=.assign x)(hx:VRel P β (ev' x) (ρ x))(hp:pev (.mov x) ev' σ=some v):Gives P ρ o w β v:=by
 simp only[pev] at hp;cases hp
 refine⟨ρ x,?_,hx⟩
 rcases ho with ho|ho<;>simp[execOp,ho]
theorem p_pick {c a b:Operand}(ho:o.op=.pick c a b)(hc:VRel P β (ev' c) (ρ c))(ha:VRel P β (ev' a) (ρ a))(hb:VRel P β (ev' b) (ρ b))
  (hp:pev (.pick c a b) ev' σ=some v):Gives P ρ o w β v:=by
 simp only[pev] at hp
 split at hp
 ·rename_i e;rw[e] at hc
  generalize hρ:ρ c=c' at hc
  cases hc;cases hp
  exact⟨ρ a,by simp[execOp,ho,hρ,asBool],ha⟩
 ·rename_i e;rw[e] at hc
  generalize hρ:ρ c=c' at hc
  cases hc;cases hp
  exact⟨ρ b,by simp[execOp,ho,hρ,asBool],hb⟩
 ·cases hp
theorem p_nilck {x:Operand}(ho:o.op=.nilCheck x)(hx:VRel P β (ev' x) (ρ x))(hp:pev (.nilck x) ev' σ=some v):Gives P ρ o w β v:=by
 simp only[pev] at hp
 generalize hρ:ρ x=x' at hx
 split at hp
 ·cases hp
 ·rename_i a e;rw[e] at hx;cases hp
  cases hx with
  |ptr h=>exact⟨_,by simp[execOp,ho,hρ],.ptr h⟩
 ·rename_i f a b e;rw[e] at hx;cases hp
  cases hx with
  |func ha hb h g=>exact⟨_,by simp[execOp,ho,hρ],.func ha hb h g⟩
 ·rename_i t u e;rw[e] at hx;cases hp
  cases hx with
  |iface h=>exact⟨_,by simp[execOp,ho,hρ],.iface h⟩
 ·cases hp
theorem pureOf_some {α:Type}{s:Sem α}{a:α}(h:pureOf s=some a):s=.pure a:=by
 unfold pureOf at h
 split at h
 ·cases h;rfl
 ·cases h
theorem cbin_some {op:BinOp}{a b r:Value}(h:cbin op a b=some r):(∃j m k n,a=.int j m/\b=.int k n/\∀t,binOp op t a b=.pure r)\/(∃s u,a=.string s/\b=.string u/\∀t,binOp op t a b=.pure r):=by
 unfold cbin at h
 split at h
 ·refine .inl ⟨_,_,_,_,rfl,rfl,fun t=>?_⟩
  rw[<-pureOf_some h];cases op<;>rfl
 ·refine .inr ⟨_,_,rfl,rfl,fun t=>?_⟩
  rw[<-pureOf_some h];cases op<;>rfl
 ·cases h
theorem bin_rel {op:BinOp}{t:TypeId}{a b r:Value}(ha:(∃j m k n,a=.int j m/\b=.int k n)\/(∃s u,a=.string s/\b=.string u))(h:binOp op t a b=.pure r):VRel P β r r:=by
 have lit:∀x:Value,((∃k n,x=.int k n)\/(∃s,x=.string s)\/∃b,x=.bool b)->VRel P β x x:=by
  rintro x (⟨k,n,rfl⟩|⟨s,rfl⟩|⟨b,rfl⟩)
  ·exact .int k n
  ·exact .string s
  ·exact .bool b
 apply lit
 rcases ha with⟨j,m,k,n,rfl,rfl⟩|⟨s,u,rfl,rfl⟩
 ·cases op<;>simp only[binOp,Op.shift,Op.intArith,Op.intDiv,Op.intBits,Op.intCmp,stuck,runtimePanic,goPanic,program] at h<;>(repeat' split at h)<;>
   first
    |(cases h;first|exact .inl ⟨_,_,rfl⟩|exact .inr (.inr ⟨_,rfl⟩))
    |(exfalso;revert h;simp[Bind.bind,Sem.bind,Pure.pure])
    |skip
 ·cases op<;>simp only[binOp,Op.stringOp,stuck,unsupported] at h<;>(repeat' split at h)<;>
   first
    |(cases h;first|exact .inr (.inl ⟨_,rfl⟩)|exact .inr (.inr ⟨_,rfl⟩))
    |(exfalso;revert h;simp[Bind.bind,Sem.bind,Pure.pure])
    |skip
theorem eqGuard_int {op:BinOp}{t:TypeId}{x y:Operand}{a b:Value}(ha:(∃j m k n,a=.int j m/\b=.int k n)\/(∃s u,a=.string s/\b=.string u)\/(∃c d,a=.bool c/\b=.bool d)) :
  (eqGuard op t x y a b).run P w=.ok () w:=by
 unfold eqGuard
 rcases ha with⟨j,m,k,n,rfl,rfl⟩|⟨s,u,rfl,rfl⟩|⟨c,d,rfl,rfl⟩<;>cases op<;>rfl
theorem p_bin {op:BinOp}{t t':TypeId}{x y:Operand}(ho:o.op=.binOp op t x y t')(hx:VRel P β (ev' x) (ρ x))(hy:VRel P β (ev' y) (ρ y))
  (hp:pev (.bin op x y) ev' σ=some v):Gives P ρ o w β v:=by
 simp only[pev] at hp
 rcases cbin_some hp with⟨j,m,k,n,e1,e2,h⟩|⟨s,u,e1,e2,h⟩
 ·have q1:ρ x=.int j m:=(e1▸hx).int_inv
  have q2:ρ y=.int k n:=(e2▸hy).int_inv
  rw[e1,e2] at h
  refine⟨v,?_,bin_rel (.inl ⟨j,m,k,n,rfl,rfl⟩) (h t)⟩
  simp only[execOp,ho,q1,q2,Sem.run_bind,eqGuard_int (P:=P) (w:=w) (op:=op) (t:=t) (x:=x) (y:=y) (.inl ⟨j,m,k,n,rfl,rfl⟩),Result.andThen,h t]
  rfl
 ·have q1:ρ x=.string s:=(e1▸hx).string_inv
  have q2:ρ y=.string u:=(e2▸hy).string_inv
  rw[e1,e2] at h
  refine⟨v,?_,bin_rel (.inr ⟨s,u,rfl,rfl⟩) (h t)⟩
  simp only[execOp,ho,q1,q2,Sem.run_bind,eqGuard_int (P:=P) (w:=w) (op:=op) (t:=t) (x:=x) (y:=y) (.inr (.inl ⟨s,u,rfl,rfl⟩)),Result.andThen,h t]
  rfl
theorem p_beq {neg:Bool}{t t':TypeId}{x y:Operand}(ho:o.op=.binOp (if neg then .neq else .eql) t x y t')(ht:P.underlying t=some .bool)(hx:VRel P β (ev' x) (ρ x))(hy:VRel P β (ev' y) (ρ y))
  (hp:pev (.beq neg x y) ev' σ=some v):Gives P ρ o w β v:=by
 simp only[pev] at hp
 split at hp
 ·rename_i a b e1 e2
  have q1:ρ x=.bool a:=(e1▸hx).bool_inv
  have q2:ρ y=.bool b:=(e2▸hy).bool_inv
  cases hp
  refine⟨_,?_,.bool _⟩
  cases neg<;>simp only[if_true,if_false,Bool.false_eq_true] at ho ⊢ <;>
   (simp only[execOp,ho,q1,q2,Sem.run_bind,eqGuard_int (P:=P) (w:=w) (t:=t) (x:=x) (y:=y) (.inr (.inr ⟨a,b,rfl,rfl⟩)),Result.andThen,binOp,run_equal_bool w t a b ht]
    rfl)
 ·cases hp
end ops
end Go.Cn
namespace Go.Cn
set_option linter.unusedVariables false
set_option linter.unusedSimpArgs false
theorem isNilAs_rel {P:Program}{β:Ren}{c v v':Value}{b:Bool}(h:isNilAs c v=some b)(hv:VRel P β v v'):isNilAs c v'=some b:=by
 unfold isNilAs at h
 split at h<;>cases h
 ·rename_i a
  cases a with
  |none=>rw[hv.nilPtr_inv];rfl
  |some a=>obtain⟨_,i,_,rfl⟩:=hv.ptr_inv;rfl
 ·rename_i a l n
  cases a with
  |none=>obtain⟨_,_,rfl⟩:=hv.nilSlice_inv;rfl
  |some a=>obtain⟨_,_,a',c',rfl,_⟩:=hv.slice_inv;rfl
 ·rename_i a
  cases a with
  |none=>rw[hv.nilMap_inv];rfl
  |some a=>obtain⟨i,_,rfl⟩:=hv.map_inv;rfl
 ·rcases hv.fn_inv with⟨f,a',b',rfl,rfl,_⟩|⟨c,i,rfl,rfl,rfl,_,rfl⟩<;>rfl
 ·rw[hv.nilFunc_inv];rfl
 ·obtain⟨u,rfl,_⟩:=hv.iface_inv;rfl
 ·rw[hv.nilIface_inv];rfl
theorem nilOk_inv {d:TypeDesc}{c:Value}(h:nilOk d c=true) :
  ((∃e,d=.pointer e)/\c=.pointer none)\/((∃e,d=.slice e)/\c=.slice none 0 0)\/((∃k e,d=.map k e)/\c=.map none)\/
  ((∃a b v,d=.func a b v)/\c=.nilFunc)\/((∃ms,d=.interface ms)/\c=.nilIface):=by
 unfold nilOk at h
 split at h<;>simp_all
theorem r_nil {P:Program}{w:World}{t:TypeId}{d:TypeDesc}(ht:P.underlying t=some d){c v:Value}{b:Bool}(hk:nilOk d c=true)(hv:isNilAs c v=some b)(n:Nat) :
  (Op.equalIn (n+1) t v c).run P w=.ok b w/\(Op.equalIn (n+1) t c v).run P w=.ok b w:=by
 rcases nilOk_inv hk with⟨⟨e,rfl⟩,rfl⟩|⟨⟨e,rfl⟩,rfl⟩|⟨⟨k,e,rfl⟩,rfl⟩|⟨⟨a,b,u,rfl⟩,rfl⟩|⟨⟨ms,rfl⟩,rfl⟩
 ·cases v<;>try (simp[isNilAs] at hv;done)
  rename_i a
  cases a<;>(simp only[isNilAs,Option.some.injEq] at hv;subst hv)<;>constructor<;>(rw[Op.equalIn,Sem.run_bind,r_und ht];rfl)
 ·cases v<;>try (simp[isNilAs] at hv;done)
  rename_i a _ _
  cases a<;>(simp only[isNilAs,Option.some.injEq] at hv;subst hv)<;>constructor<;>(rw[Op.equalIn,Sem.run_bind,r_und ht];rfl)
 ·cases v<;>try (simp[isNilAs] at hv;done)
  rename_i a
  cases a<;>(simp only[isNilAs,Option.some.injEq] at hv;subst hv)<;>constructor<;>(rw[Op.equalIn,Sem.run_bind,r_und ht];rfl)
 ·cases v<;>try (simp[isNilAs] at hv;done)
  all_goals (simp only[isNilAs,Option.some.injEq] at hv;subst hv)<;>constructor<;>(rw[Op.equalIn,Sem.run_bind,r_und ht];rfl)
 ·cases v<;>try (simp[isNilAs] at hv;done)
  all_goals (simp only[isNilAs,Option.some.injEq] at hv;subst hv)<;>constructor<;>(rw[Op.equalIn,Sem.run_bind,r_und ht];rfl)
theorem nilOf_some {d:TypeDesc}{x:Operand}{c:Value}(h:nilOf d x=some c):x=.const c/\nilOk d c=true:=by
 unfold nilOf at h
 split at h
 ·split at h
  ·rename_i v hk;cases h;exact⟨rfl,hk⟩
  ·cases h
 ·cases h
section ops
variable {P:Program}{β:Ren}{σ:CW}{w:World}{ev' ρ:Operand->Value}{o:Oper}{v:Value}
theorem eqGuard_nil {op:BinOp}{t:TypeId}{x y:Operand}{a b:Value}(hc:(∃u,x=.const u)\/(∃u,y=.const u))(hn:(∀cs,a≠.agg cs)\/(∀cs,b≠.agg cs)) :
  (eqGuard op t x y a b).run P w=.ok () w:=by
 unfold eqGuard
 cases op<;>try rfl
 all_goals
  simp only[Sem.run_bind]
  have:((if (!(match (BinOp.eql) with|.eql|.neq=>true|_=>false))=true then pure () else pure ()):Sem Unit)=pure ():=by simp
  cases a<;>cases b<;>first
   |rfl
   |(rcases hc with⟨u,rfl⟩|⟨u,rfl⟩<;>simp<;>rfl)
   |(rcases hn with hn|hn<;>exact absurd rfl (hn _))
theorem binOp_nil {neg:Bool}{t:TypeId}{d:TypeDesc}(ht:P.underlying t=some d){c v:Value}{b:Bool}(hk:nilOk d c=true)(hv:isNilAs c v=some b) :
  (binOp (if neg then .neq else .eql) t v c).run P w=.ok (.bool (if neg then !b else b)) w/\(binOp (if neg then .neq else .eql) t c v).run P w=.ok (.bool (if neg then !b else b)) w:=by
 obtain⟨h1,h2⟩:=r_nil (w:=w) ht hk hv 9999
 have e1:Op.equal t v c=Op.equalIn (9999+1) t v c:=rfl
 have e2:Op.equal t c v=Op.equalIn (9999+1) t c v:=rfl
 have g1:∀n:Bool,binOp (if n then .neq else .eql) t v c=(Op.equal t v c >>= fun r=>pure (.bool (if n then !r else r))):=by
  intro n
  rcases nilOk_inv hk with⟨_,rfl⟩|⟨_,rfl⟩|⟨_,rfl⟩|⟨_,rfl⟩|⟨_,rfl⟩<;>cases v<;>first|(simp[isNilAs] at hv;done)|(cases n<;>rfl)
 have g2:∀n:Bool,binOp (if n then .neq else .eql) t c v=(Op.equal t c v >>= fun r=>pure (.bool (if n then !r else r))):=by
  intro n
  rcases nilOk_inv hk with⟨_,rfl⟩|⟨_,rfl⟩|⟨_,rfl⟩|⟨_,rfl⟩|⟨_,rfl⟩<;>cases v<;>first|(simp[isNilAs] at hv;done)|(cases n<;>rfl)
 rw[g1,g2,e1,e2]
 constructor
 ·cases neg<;>simp[h1]
 ·cases neg<;>simp[h2]
theorem nilAs_notAgg {c v:Value}{b:Bool}(h:isNilAs c v=some b):∀cs,v≠.agg cs:=by
 rintro cs rfl
 unfold isNilAs at h
 split at h<;>simp_all
theorem p_isnil {neg:Bool}{t t':TypeId}{x y z:Operand}{c:Value}{d:TypeDesc}(ht:P.underlying t=some d)
  (ho:(o.op=.binOp (if neg then .neq else .eql) t x y t'/\nilOf d y=some c/\z=x)\/(o.op=.binOp (if neg then .neq else .eql) t x y t'/\nilOf d x=some c/\z=y))
  (hρ:∀u,ρ (.const u)=u)(hz:VRel P β (ev' z) (ρ z))(hp:pev (.isnil neg c z) ev' σ=some v):Gives P ρ o w β v:=by
 simp only[pev] at hp
 split at hp
 ·rename_i b hb
  cases hp
  have hb':=isNilAs_rel hb hz
  refine⟨_,?_,.bool _⟩
  rcases ho with⟨ho,hc,rfl⟩|⟨ho,hc,rfl⟩
  ·obtain⟨rfl,hk⟩:=nilOf_some hc
   simp only[execOp,ho,hρ,Sem.run_bind,eqGuard_nil (P:=P) (w:=w) (.inr ⟨c,rfl⟩) (.inl (nilAs_notAgg hb')),Result.andThen,(binOp_nil (w:=w) ht hk hb').1]
   rfl
  ·obtain⟨rfl,hk⟩:=nilOf_some hc
   simp only[execOp,ho,hρ,Sem.run_bind,eqGuard_nil (P:=P) (w:=w) (.inl ⟨c,rfl⟩) (.inr (nilAs_notAgg hb')),Result.andThen,(binOp_nil (w:=w) ht hk hb').2]
   rfl
 ·cases hp
theorem p_un {op:UnOp}{t:TypeId}{x:Operand}(ho:o.op=.unOp op t x)(hx:VRel P β (ev' x) (ρ x))(hp:pev (.un op x) ev' σ=some v):Gives P ρ o w β v:=by
 simp only[pev] at hp
 split at hp
 ·rename_i k n e
  have q:ρ x=.int k n:=(e▸hx).int_inv
  have h:=pureOf_some hp
  refine⟨v,by simp only[execOp,ho,q,h];rfl,?_⟩
  cases op<;>simp only[Op.unary,Op.intArith,Op.intBits,stuck] at h<;>cases h<;>constructor
 ·rename_i b e
  have q:ρ x=.bool b:=(e▸hx).bool_inv
  have h:=pureOf_some hp
  refine⟨v,by simp only[execOp,ho,q,h];rfl,?_⟩
  cases op<;>simp only[Op.unary,Op.intArith,Op.intBits,stuck] at h<;>cases h<;>constructor
 ·cases hp
theorem p_i2i {k:IntKind}{src dst:TypeId}{x:Operand}{ks:IntKind}(ho:o.op=.convert src dst x)(hs:P.underlying src=some (.int ks))(hd:P.underlying dst=some (.int k))
  (hx:VRel P β (ev' x) (ρ x))(hp:pev (.i2i k x) ev' σ=some v):Gives P ρ o w β v:=by
 simp only[pev] at hp
 split at hp
 ·rename_i k' n e
  cases hp
  have q:ρ x=.int k' n:=(e▸hx).int_inv
  refine⟨_,?_,.int _ _⟩
  simp only[execOp,ho,q,convert,Sem.run_bind,r_und hs,r_und hd,Result.andThen,Conv.intToInt];rfl
 ·cases hp
theorem p_i2s {src dst:TypeId}{x:Operand}{ks:IntKind}(ho:o.op=.convert src dst x)(hs:P.underlying src=some (.int ks))(hd:P.underlying dst=some .string)
  (hx:VRel P β (ev' x) (ρ x))(hp:pev (.i2s x) ev' σ=some v):Gives P ρ o w β v:=by
 simp only[pev] at hp
 split at hp
 ·rename_i k' n e
  cases hp
  have q:ρ x=.int k' n:=(e▸hx).int_inv
  refine⟨_,?_,.string _⟩
  simp only[execOp,ho,q,convert,Sem.run_bind,r_und hs,r_und hd,Result.andThen,Conv.intToString];rfl
 ·cases hp
theorem p_s2s {src dst:TypeId}{x:Operand}(ho:o.op=.convert src dst x)(hs:P.underlying src=some .string)(hd:P.underlying dst=some .string)
  (hx:VRel P β (ev' x) (ρ x))(hp:pev (.s2s x) ev' σ=some v):Gives P ρ o w β v:=by
 simp only[pev] at hp
 split at hp
 ·rename_i s e
  cases hp
  have q:ρ x=.string s:=(e▸hx).string_inv
  refine⟨_,?_,.string _⟩
  simp only[execOp,ho,q,convert,Sem.run_bind,r_und hs,r_und hd,Result.andThen];rfl
 ·cases hp
theorem p_mkif {t:TypeId}{x:Operand}{d:TypeDesc}(ho:o.op=.makeInterface t x)(ht:P.underlying t=some d)(hd:∀ms,d≠.interface ms)
  (hx:VRel P β (ev' x) (ρ x))(hp:pev (.mkif t x) ev' σ=some v):Gives P ρ o w β v:=by
 simp only[pev] at hp
 cases hp
 refine⟨_,?_,.iface hx⟩
 simp only[execOp,ho,Instr.makeInterface,Sem.run_bind,r_und ht,Result.andThen]
 cases d<;>first|rfl|exact absurd rfl (hd _)
theorem p_mkfn {f:FuncId}{first captured:Array Operand}(ho:o.op=.makeFunc (.func f) first captured)(hx:∀x∈first++captured,VRel P β (ev' x) (ρ x))
  (hp:pev (.mkfn f first.toList captured.toList) ev' σ=some v):Gives P ρ o w β v:=by
 simp only[pev] at hp
 cases hp
 refine⟨.func (.func f) (first.map ρ) (captured.map ρ),by simp[execOp,ho,Instr.makeFunc],?_⟩
 have key:∀l:Array Operand,(∀x∈l,VRel P β (ev' x) (ρ x))->(List.map ev' l.toList).toArray.size=(l.map ρ).size/\
   ∀(j:Nat)(x y:Value),(List.map ev' l.toList).toArray[j]?=some x->(l.map ρ)[j]?=some y->VRel P β x y:=by
  intro l hl
  refine⟨by simp,fun j x y h1 h2=>?_⟩
  simp only[List.getElem?_toArray,List.getElem?_map,Array.getElem?_toList,Array.getElem?_map] at h1 h2
  cases e:l[j]? with
  |none=>rw[e] at h1;cases h1
  |some u=>rw[e] at h1 h2;cases h1;cases h2;exact hl u (Array.mem_of_getElem? e)
 obtain⟨a1,a2⟩:=key first fun x hx'=>hx x (by simp[hx'])
 obtain⟨b1,b2⟩:=key captured fun x hx'=>hx x (by simp[hx'])
 exact .func a1 b1 a2 b2
theorem p_fa {t:TypeId}{x:Operand}{f:Nat}{fs:Array Field}{fd:Field}{n:Nat}(ho:o.op=.fieldAddr t x f)(ht:P.underlying t=some (.struct fs))(hf:fs[f]?=some fd)(hn:szOf P fd.type=some n)(h0:n≠0)
  (hx:VRel P β (ev' x) (ρ x))(hp:pev (.fa fd.offset x) ev' σ=some v):Gives P ρ o w β v:=by
 simp only[pev] at hp
 split at hp
 ·rename_i a e
  split at hp
  ·cases hp
   obtain⟨hs,i,hi,q⟩:=(e▸hx).ptr_inv
   refine⟨.pointer (some ⟨i.B,a.off+fd.offset+i.sh,none⟩),?_,.ptr hi⟩
   simp only[execOp,ho,q,Instr.fieldAt,Sem.run_bind,r_und ht,Result.andThen,hf,Instr.sureAddr,fieldPlace,Sem.run_pure,r_size hn,if_neg h0,Addr.add_none]
   congr 4;congr 1;omega
  ·cases hp
 ·cases hp
theorem p_ext {x:Operand}{i:Nat}(ho:o.op=.extract x i)(hx:VRel P β (ev' x) (ρ x))(hp:pev (.ext x i) ev' σ=some v):Gives P ρ o w β v:=by
 simp only[pev,nth] at hp
 split at hp
 ·rename_i vs e
  obtain⟨vs',q,hr⟩:=(e▸hx).tuple_inv
  obtain⟨v',h1,h2⟩:=hr.left hp
  refine⟨v',?_,h2⟩
  simp only[Array.getElem?_toList] at h1
  simp[execOp,ho,q,Instr.extract,h1]
 ·cases hp
theorem p_lenS {c:Call}{t u:TypeId}{x:Operand}(ho:o.op=.call c)(hc:c.callee=.builtin .len)(ht:c.argTypes= #[t])(ha:c.args= #[x])(hu:P.underlying t=some .string)
  (hx:VRel P β (ev' x) (ρ x))(hp:pev (.lenS x) ev' σ=some v):Gives P ρ o w β v:=by
 simp only[pev] at hp
 split at hp
 ·rename_i s e
  cases hp
  have q:ρ x=.string s:=(e▸hx).string_inv
  refine⟨_,?_,.int _ _⟩
  simp[execOp,ho,resolve,hc,ha,ht,invoke,builtin,Builtin.len_,r_und hu,q,goInt]
 ·cases hp
theorem p_lenV {c:Call}{t u:TypeId}{e:TypeId}{x:Operand}(ho:o.op=.call c)(hc:c.callee=.builtin .len)(ht:c.argTypes= #[t])(ha:c.args= #[x])(hu:P.underlying t=some (.slice e))
  (hx:VRel P β (ev' x) (ρ x))(hp:pev (.lenV x) ev' σ=some v):Gives P ρ o w β v:=by
 simp only[pev] at hp
 split at hp
 ·rename_i a n cap e
  cases hp
  refine⟨_,?_,.int _ _⟩
  cases a with
  |none=>obtain⟨rfl,_,q⟩:=(e▸hx).nilSlice_inv;simp[execOp,ho,resolve,hc,ha,ht,invoke,builtin,Builtin.len_,r_und hu,q,goInt]
  |some a=>obtain⟨_,_,a',c',q,_⟩:=(e▸hx).slice_inv;simp[execOp,ho,resolve,hc,ha,ht,invoke,builtin,Builtin.len_,r_und hu,q,goInt]
 ·cases hp
theorem p_ixS {t:TypeId}{x i:Operand}(ho:o.op=.index t x i)(ht:P.underlying t=some .string)(hx:VRel P β (ev' x) (ρ x))(hi:VRel P β (ev' i) (ρ i))
  (hp:pev (.ixS x i) ev' σ=some v):Gives P ρ o w β v:=by
 simp only[pev] at hp
 split at hp
 ·rename_i s k n e1 e2
  have q1:ρ x=.string s:=(e1▸hx).string_inv
  have q2:ρ i=.int k n:=(e2▸hi).int_inv
  split at hp
  ·rename_i h0
   split at hp
   ·rename_i b hb
    cases hp
    refine⟨_,?_,.int _ _⟩
    simp only[execOp,ho,q1,q2,Instr.index,asIntOf,Sem.run_bind,Sem.run_pure,r_und ht,Result.andThen,if_pos h0,hb]
   ·cases hp
  ·cases hp
 ·cases hp
theorem p_ia {t:TypeId}{x i:Operand}{e:TypeId}{n:Nat}(ho:o.op=.indexAddr t x i)(ht:P.underlying t=some (.slice e))(hn:szOf P e=some n)(hx:VRel P β (ev' x) (ρ x))(hi:VRel P β (ev' i) (ρ i))
  (hp:pev (.ia n x i) ev' σ=some v):Gives P ρ o w β v:=by
 simp only[pev] at hp
 split at hp
 ·rename_i a len cap k m e1 e2
  split at hp
  ·rename_i hcond
   cases hp
   obtain⟨hs,h0,hlt⟩:=hcond
   have q2:ρ i=.int k m:=(e2▸hi).int_inv
   obtain⟨_,hl,a',c',q1,hcc,hor⟩:=(e1▸hx).slice_inv
   rcases hor with hz|⟨j,hj,ha',_⟩
   ·omega
   ·subst ha'
    refine⟨.pointer (some ⟨j.B,a.off+m.toNat*n+j.sh,none⟩),?_,.ptr hj⟩
    simp only[execOp,ho,q1,q2,Instr.indexAt,asIntOf,Sem.run_bind,Sem.run_pure,r_und ht,Result.andThen,if_pos (show 0<=m/\m<len from⟨h0,hlt⟩),r_size hn,Addr.add_none]
    congr 4;congr 1;omega
  ·cases hp
 ·cases hp
theorem r_bound {y:Nat}{k:IntKind}{n:Int}{code:BoundsCode}(h0:0<=n)(h1:n<=y):(Instr.sliceBound (.int k n) y code).run P w=.ok n.toNat w:=by
 simp only[Instr.sliceBound,asIntOf,Sem.run_bind,Sem.run_pure,Result.andThen,if_pos (And.intro h0 h1)]
theorem bnd_some {d y r:Nat}{u:Option Value}(h:bnd d y u=some r):(u=none/\r=d)\/(∃k n,u=some (.int k n)/\0<=n/\n<=y/\r=n.toNat):=by
 unfold bnd at h
 split at h
 ·cases h;exact .inl ⟨rfl,rfl⟩
 ·split at h
  ·rename_i k n hc;cases h;exact .inr ⟨k,n,rfl,hc.1,hc.2,rfl⟩
  ·cases h
 ·cases h
theorem bnd_op {d y r:Nat}{x:Option Operand}(hx:∀z∈x,VRel P β (ev' z) (ρ z))(h:bnd d y (x.map ev')=some r) :
  (x=none/\r=d)\/(∃z k n,x=some z/\ρ z=.int k n/\0<=n/\n<=(y:Int)/\r=n.toNat):=by
 rcases bnd_some h with⟨e,rfl⟩|⟨k,n,e,h0,h1,rfl⟩
 ·cases x with
  |none=>exact .inl ⟨rfl,rfl⟩
  |some z=>cases e
 ·cases x with
  |none=>cases e
  |some z=>simp only[Option.map_some,Option.some.injEq] at e;exact .inr ⟨z,k,n,rfl,(e▸hx z rfl).int_inv,h0,h1,rfl⟩
theorem r_bounds {isS:Bool}{len cap cap' m h l:Nat}{lo hi mx:Option Operand}(hlo:∀y∈lo,VRel P β (ev' y) (ρ y))(hhi:∀y∈hi,VRel P β (ev' y) (ρ y))(hmx:∀y∈mx,VRel P β (ev' y) (ρ y))
  (hcc:cap<=cap')(hm:bnd cap cap (mx.map ev')=some m)(hh:bnd len m (hi.map ev')=some h)(hl:bnd 0 h (lo.map ev')=some l)(hmh:mx.isSome->hi.isSome) :
  (Instr.sliceBounds isS len cap' (lo.map ρ) (hi.map ρ) (mx.map ρ)).run P w=.ok (l,h,if mx.isSome then m else cap') w:=by
 unfold Instr.sliceBounds
 rcases bnd_op hmx hm with⟨rfl,rfl⟩|⟨zm,km,nm,rfl,qm,hm0,hm1,rfl⟩
 ·rcases bnd_op hhi hh with⟨rfl,rfl⟩|⟨z,k,n,rfl,q,h0,h1,rfl⟩
  ·rcases bnd_op hlo hl with⟨rfl,rfl⟩|⟨zl,kl,nl,rfl,ql,hl0,hl1,rfl⟩
   ·rfl
   ·simp only[Option.map_none,Option.map_some,ql,Sem.run_bind,Sem.run_pure,Result.andThen,r_bound hl0 hl1];rfl
  ·have hb:n<=(cap':Int):=by omega
   rcases bnd_op hlo hl with⟨rfl,rfl⟩|⟨zl,kl,nl,rfl,ql,hl0,hl1,rfl⟩
   ·simp only[Option.map_none,Option.map_some,q,Sem.run_bind,Sem.run_pure,Result.andThen,r_bound h0 hb];rfl
   ·simp only[Option.map_none,Option.map_some,q,ql,Sem.run_bind,Sem.run_pure,Result.andThen,r_bound h0 hb,r_bound hl0 hl1];rfl
 ·have hb:nm<=(cap':Int):=by omega
  rcases bnd_op hhi hh with⟨rfl,rfl⟩|⟨z,k,n,rfl,q,h0,h1,rfl⟩
  ·exact absurd (hmh rfl) (by simp)
  ·rcases bnd_op hlo hl with⟨rfl,rfl⟩|⟨zl,kl,nl,rfl,ql,hl0,hl1,rfl⟩
   ·simp only[Option.map_none,Option.map_some,q,qm,Sem.run_bind,Sem.run_pure,Result.andThen,r_bound h0 h1,r_bound hm0 hb];rfl
   ·simp only[Option.map_none,Option.map_some,q,ql,qm,Sem.run_bind,Sem.run_pure,Result.andThen,r_bound h0 h1,r_bound hm0 hb,r_bound hl0 hl1];rfl
theorem p_slS {t:TypeId}{x:Operand}{lo hi:Option Operand}(ho:o.op=.slice t x lo hi none)(ht:P.underlying t=some .string)(hx:VRel P β (ev' x) (ρ x))
  (hlo:∀y∈lo,VRel P β (ev' y) (ρ y))(hhi:∀y∈hi,VRel P β (ev' y) (ρ y))(hp:pev (.slS x lo hi) ev' σ=some v):Gives P ρ o w β v:=by
 simp only[pev] at hp
 split at hp
 ·rename_i s e
  have q:ρ x=.string s:=(e▸hx).string_inv
  split at hp
  ·rename_i h hh
   split at hp
   ·rename_i l hl
    cases hp
    refine⟨_,?_,.string _⟩
    have:=r_bounds (P:=P) (β:=β) (w:=w) (isS:=false) (cap:=s.size) (cap':=s.size) (m:=s.size) (mx:=none) hlo hhi (by simp) (Nat.le_refl _) rfl hh hl (by simp)
    simp only[execOp,ho,q,Instr.sliceAt,Instr.slice,Sem.run_bind,r_und ht,Result.andThen,Option.map_none] at this ⊢
    simp only[Option.isSome_none,Bool.false_eq_true,if_false,Sem.run_bind,Sem.run_pure,Result.andThen,this]
   ·cases hp
  ·cases hp
 ·cases hp
theorem p_slV {t:TypeId}{x:Operand}{lo hi mx:Option Operand}{e:TypeId}{sz:Nat}(h:Rel P β σ w)(ho:o.op=.slice t x lo hi mx)(ht:P.underlying t=some (.slice e))(hsz:szOf P e=some sz)(hx:VRel P β (ev' x) (ρ x))
  (hlo:∀y∈lo,VRel P β (ev' y) (ρ y))(hhi:∀y∈hi,VRel P β (ev' y) (ρ y))(hmx:∀y∈mx,VRel P β (ev' y) (ρ y))(hmh:mx.isSome->hi.isSome)(hp:pev (.slV e sz x lo hi mx) ev' σ=some v):Gives P ρ o w β v:=by
 simp only[pev] at hp
 split at hp
 ·rename_i a len cap ea
  split at hp
  ·rename_i m hm
   split at hp
   ·rename_i hh' hh
    split at hp
    ·rename_i l hl
     have hle:l<=hh':=by
      rcases bnd_some hl with⟨_,rfl⟩|⟨k,n,_,_,_,rfl⟩<;>omega
     split at hp
     ·cases hp
      obtain⟨rfl,rfl,q⟩:=(ea▸hx).nilSlice_inv
      have hb:=r_bounds (P:=P) (β:=β) (w:=w) (isS:=true) (cap':=0) hlo hhi hmx (Nat.le_refl _) hm hh hl hmh
      have hm0:m=0:=by rcases bnd_some hm with⟨_,rfl⟩|⟨k,n,_,_,_,rfl⟩<;>omega
      have hh0:hh'=0:=by rcases bnd_some hh with⟨_,rfl⟩|⟨k,n,_,_,_,rfl⟩<;>omega
      have hl0:l=0:=by omega
      subst hm0 hh0 hl0
      refine⟨.slice none 0 0,?_,.nilSlice⟩
      simp only[execOp,ho,q,Instr.sliceAt,Instr.slice,Sem.run_bind,r_und ht,Result.andThen,hb,r_size hsz,Sem.run_pure]
      simp
     ·rename_i a
      split at hp
      ·rename_i hsp
       cases hp
       obtain⟨hs,hel⟩:=hsp
       obtain⟨_,hlc,a',c',q,hcc,hor⟩:=(ea▸hx).slice_inv
       have hb:=r_bounds (P:=P) (β:=β) (w:=w) (isS:=true) hlo hhi hmx hcc hm hh hl hmh
       have hmc:m<=cap:=by rcases bnd_some hm with⟨_,rfl⟩|⟨k,n,_,_,_,rfl⟩<;>omega
       have hhm:hh'<=m:=by
        rcases bnd_some hh with⟨e1,rfl⟩|⟨k,n,_,_,_,rfl⟩
        ·rcases bnd_some hm with⟨_,rfl⟩|⟨k,n,e2,_,_,rfl⟩
         ·exact hlc
         ·cases mx with
          |none=>cases e2
          |some y=>cases hi with
           |none=>exact absurd (hmh rfl) (by simp)
           |some z=>cases e1
        ·omega
       generalize hM:(if mx.isSome then m else c')=M at hb
       have hMm:m<=M/\(M=m\/M=c'):=by
        rw[<-hM];split
        ·exact⟨Nat.le_refl _,.inl rfl⟩
        ·exact⟨by omega,.inr rfl⟩
       have hMc:M<=c':=by rcases hMm.2 with r|r<;>omega
       refine⟨.slice (some (if M=l then a' else a'.add (l*sz))) (hh'-l) (M-l),?_,?_⟩
       ·simp only[execOp,ho,q,Instr.sliceAt,Instr.slice,Sem.run_bind,r_und ht,Result.andThen,hb,r_size hsz,Sem.run_pure]
        split<;>simp
       ·refine .slice (by omega) (by omega) ?_
        by_cases hMl:M=l
        ·exact .inl (by omega)
        ·rw[if_neg hMl]
         refine .inr ?_
         rcases hor with hz|⟨j,hj,ha',hspan⟩
         ·omega
         ·subst ha'
          refine⟨j,hj,?_,?_⟩
          ·rw[Addr.add_none];congr 1;omega
          ·have hjE:j.E=e:=by
            unfold CW.elemIs at hel
            split at hel
            ·rename_i c0 e0 cl0 rel0 hc0
             obtain⟨_,_,_,hE,_⟩:=(h.obj _ j _ hj hc0).cells_inv
             rw[<-hE];exact Nat.eq_of_beq_eq_true hel
            ·cases hel
           have hex:mx.isSome=true->M=m:=by intro hs;rw[<-hM,if_pos hs]
           rcases hspan with hx1|⟨sz',hs1,hs2⟩
           ·left
            rcases hMm.2 with r|r
            ·omega
            ·
             cases hmxe:mx.isSome with
             |true=>have:=hex hmxe;omega
             |false=>
              have:m=cap:=by
               rcases bnd_some hm with⟨_,rfl⟩|⟨k,n,e2,_⟩
               ·rfl
               ·cases mx with
                |none=>cases e2
                |some y=>cases hmxe
              omega
           ·rcases hMm.2 with r|r
            ·left;omega
            ·right
             refine⟨sz',hs1,?_⟩
             rw[hjE,hsz] at hs1
             cases hs1
             have e1:c'*sz=(c'-l)*sz+l*sz:=by rw[<-Nat.add_mul];congr 1;omega
             subst r
             omega
      ·cases hp
    ·cases hp
   ·cases hp
  ·cases hp
 ·cases hp
end ops
end Go.Cn
namespace Go.Cn
set_option linter.unusedVariables false
set_option linter.unusedSimpArgs false
section ops
variable {P:Program}{β:Ren}{σ:CW}{w:World}{ev' ρ:Operand->Value}{o:Oper}{v:Value}
theorem cell_some {σ:CW}{a:Addr}{v:Value}(h:σ.cell a=some v):a.spot=none/\∃c,σ.row a.block=some c/\c[a.off]?=some v:=by
 unfold CW.cell at h
 split at h
 ·cases h
 ·rename_i hs
  split at h
  ·rename_i c hc;exact⟨hs,c,hc,h⟩
  ·cases h
theorem cells_some {σ:CW}{a:Addr}{n:Nat}{l:List Value}(h:σ.cells a n=some l):a.spot=none/\∃c,σ.row a.block=some c/\takeAt c a.off n=some l:=by
 unfold CW.cells at h
 split at h
 ·cases h
 ·rename_i hs
  split at h
  ·rename_i c hc;exact⟨hs,c,hc,h⟩
  ·cases h
theorem r_load1 {t:TypeId}{a:Addr}{v:Value}(ht:aggOf P t=some false)(hc:w.cell? a=some v):(loadVar t a).run P w=.ok v w:=by
 simp[loadVar,r_agg ht,hc]
theorem p_ld1 {t:TypeId}{x:Operand}(h:Rel P β σ w)(ho:o.op=.load t x)(ht:aggOf P t=some false)(hx:VRel P β (ev' x) (ρ x))(hp:pev (.ld1 x) ev' σ=some v):Gives P ρ o w β v:=by
 simp only[pev] at hp
 split at hp
 ·rename_i a e
  obtain⟨hs,c,hr,hk⟩:=cell_some hp
  obtain⟨_,i,hi,q⟩:=(e▸hx).ptr_inv
  obtain⟨v',h1,h2⟩:=h.cellAt hr hk hi
  exact⟨v',by simp[execOp,ho,q,Instr.loadAt,Instr.sureAddr,r_load1 ht h1],h2⟩
 ·cases hp
theorem r_loadN {t:TypeId}{a:Addr}{n:Nat}{l:List Value}(ht:aggOf P t=some true)(hn:szOf P t=some n)(hc:(loadCells a n).run P w=.ok l.toArray w):(loadVar t a).run P w=.ok (.agg l.toArray) w:=by
 simp[loadVar,r_agg ht,r_size hn,hc]
theorem p_ldN {t:TypeId}{x:Operand}{n:Nat}(h:Rel P β σ w)(ho:o.op=.load t x)(ht:aggOf P t=some true)(hn:szOf P t=some n)(hx:VRel P β (ev' x) (ρ x))(hp:pev (.ldN n x) ev' σ=some v):Gives P ρ o w β v:=by
 simp only[pev] at hp
 split at hp
 ·rename_i a e
  split at hp
  ·rename_i l hl
   cases hp
   obtain⟨hs,c,hr,hk⟩:=cells_some hl
   obtain⟨_,i,hi,q⟩:=(e▸hx).ptr_inv
   obtain⟨r',h1,_,h2⟩:=h.loads hr hk hi
   exact⟨.agg r'.toArray,by simp[execOp,ho,q,Instr.loadAt,Instr.sureAddr,r_loadN ht hn (h2 w rfl)],VRel.agg_iff.2 (by simpa using h1)⟩
  ·cases hp
 ·cases hp
theorem bytes_some:∀{l:List Value}{r:List UInt8},bytesOfCells l=some r->∃ns:List Int,l=ns.map (Value.int .u8)/\r=ns.map fun n=>UInt8.ofNat n.toNat
 |[],r,h=>by cases h;exact⟨[],rfl,rfl⟩
 |v::l,r,h=>by
  unfold bytesOfCells at h
  split at h
  ·rename_i e;cases e
  ·rename_i n l' e
   cases e
   split at h
   ·rename_i r' hr
    cases h
    obtain⟨ns,rfl,rfl⟩:=bytes_some hr
    exact⟨n::ns,rfl,rfl⟩
   ·cases h
  ·cases h
theorem lrel_ints {l:List Int}{l':List Value}(h:LRel P β (l.map (Value.int .u8)) l'):l'=l.map (Value.int .u8):=by
 induction l generalizing l' with
 |nil=>cases l' with
  |nil=>rfl
  |cons a b=>have:=h.1;simp at this
 |cons n l ih=>cases l' with
  |nil=>have:=h.1;simp at this
  |cons a b=>
   obtain⟨h1,h2⟩:=LRel.of_cons h
   rw[h1.int_inv,ih h2];rfl
theorem foldl_push (ns:List Int):∀s:ByteArray,ns.foldl (fun r n=>r.push (UInt8.ofNat n.toNat)) s=⟨s.data++(ns.map fun n=>UInt8.ofNat n.toNat).toArray⟩:=by
 induction ns with
 |nil=>intro s;simp
 |cons n ns ih=>
  intro s
  simp only[List.foldl_cons,ih,List.map_cons]
  congr 1
  show s.data.push (UInt8.ofNat n.toNat)++_=_
  simp
theorem p_b2s {src dst:TypeId}{e:TypeId}{x:Operand}(h:Rel P β σ w)(ho:o.op=.convert src dst x)(hs:P.underlying src=some (.slice e))(he:P.underlying e=some (.int .u8))(hd:P.underlying dst=some .string)
  (hx:VRel P β (ev' x) (ρ x))(hp:pev (.b2s x) ev' σ=some v):Gives P ρ o w β v:=by
 simp only[pev] at hp
 split at hp
 ·rename_i l c ea
  cases hp
  obtain⟨_,_,q⟩:=(ea▸hx).nilSlice_inv
  refine⟨_,?_,.string _⟩
  simp only[execOp,ho,q,Sem.run_bind,run_convert_bytes_string w src dst e _ _ _ hs he hd]
  rfl
 ·rename_i a n c ea
  split at hp
  ·rename_i cs hcs
   split at hp
   ·rename_i l hl
    cases hp
    obtain⟨_,row,hr,hk⟩:=cells_some hcs
    obtain⟨_,hle,a',c',q,hcc,hor⟩:=(ea▸hx).slice_inv
    obtain⟨ns,rfl,rfl⟩:=bytes_some hl
    have hload:(loadCells a' n).run P w=.ok (ns.map (Value.int .u8)).toArray w:=by
     rcases hor with hz|⟨i,hi,rfl,_⟩
     ·have hn:n=0:=by omega
      subst hn
      obtain⟨_,hnil⟩:=takeAt_some hk
      have:ns.map (Value.int .u8)=[]:=by rw[hnil];simp
      rw[this];rfl
     ·obtain⟨r',h1,_,h2⟩:=h.loads hr hk hi
      rw[lrel_ints h1] at h2;exact h2 w rfl
    refine⟨_,?_,.string _⟩
    simp only[execOp,ho,q,Sem.run_bind,run_convert_bytes_string w src dst e _ _ _ hs he hd,run_bytesToString w a' n c' ns hload,Result.andThen,foldl_push]
    simp
   ·cases hp
  ·cases hp
 ·cases hp
theorem entries_some {σ:CW}{m:Value}{es:List (Value×Value)}(h:σ.entries m=some es):(m=.map none/\es=[])\/(∃r ver:Nat,m=.map (some r)/\σ.heap r=some (.map es ver)):=by
 unfold CW.entries at h
 split at h
 ·cases h;exact .inl ⟨rfl,rfl⟩
 ·split at h
  ·rename_i r _ es' ver hh;cases h;exact .inr ⟨r,ver,rfl,hh⟩
  ·cases h
 ·cases h
theorem Rel.mapB {r ver:Nat}{es:List (Value×Value)}{i:BI}(h:Rel P β σ w)(hr:σ.heap r=some (.map es ver))(hi:β r=some i):∃es' clock,w.heap[i.B]?=some (.map es' clock)/\MapRel P β es es'/\Born es' clock:=by
 have ho:=h.obj r i _ hi hr
 unfold ObjRel at ho
 cases e:w.heap[i.B]? with
 |none=>rw[e] at ho;exact ho.elim
 |some o'=>
  rw[e] at ho
  cases o'<;>first|exact ho.elim|exact⟨_,_,rfl,ho⟩
theorem Rel.map {r ver:Nat}{es:List (Value×Value)}{i:BI}(h:Rel P β σ w)(hr:σ.heap r=some (.map es ver))(hi:β r=some i):∃es' clock,w.heap[i.B]?=some (.map es' clock)/\MapRel P β es es':=
 let ⟨es',clock,h1,h2,_⟩:=h.mapB hr hi
 ⟨es',clock,h1,h2⟩
theorem r_getMap {B:Nat}{es':Array MapEntry}{clock:Nat}(h:w.heap[B]?=some (.map es' clock)):(getObj B).run P w=.ok (.map es' clock) w:=by
 simp[getObj,Sem.run,h]
theorem isKey_rel {str:Bool}{a b:Value}(h:isKey str a=true)(hr:VRel P β a b):b=a:=by
 unfold isKey at h
 split at h
 ·exact hr.string_inv
 ·exact hr.int_inv
 ·cases h
theorem p_lookup {t kt e:TypeId}{d:TypeDesc}{str ok:Bool}{z:Value}{m k:Operand}(h:Rel P β σ w)(ho:o.op=.lookup t m k ok)(ht:P.underlying t=some (.map kt e))(hkt:P.underlying kt=some d)(hd:KeyKind d str)
  (hz:zeroP P e=some z)(hm:VRel P β (ev' m) (ρ m))(hk:VRel P β (ev' k) (ρ k))(hp:pev (.lookup str z ok m k) ev' σ=some v):Gives P ρ o w β v:=by
 obtain⟨hz1,hz2⟩:=zeroP_some hz
 simp only[pev] at hp
 split at hp
 case h_2=>cases hp
 rename_i es hes
 split at hp
 case isFalse=>cases hp
 rename_i hkey
 have qk:=isKey_rel hkey hk
 have hent:∃es':Array MapEntry,MapRel P β es es'/\((ρ m=.map none/\es'= #[])\/∃B clock,ρ m=.map (some B)/\w.heap[B]?=some (.map es' clock)):=by
  rcases entries_some hes with⟨e1,rfl⟩|⟨r,ver,e1,hr⟩
  ·rw[e1] at hm
   exact⟨#[],⟨List.Pairwise.nil,[],List.Perm.refl _,.nil⟩,.inl ⟨hm.nilMap_inv,rfl⟩⟩
  ·rw[e1] at hm
   obtain⟨i,hi,q⟩:=hm.map_inv
   obtain⟨es',clock,h1,h2⟩:=h.map hr hi
   exact⟨es',h2,.inr ⟨i.B,clock,q,h1⟩⟩
 obtain⟨es',hmr,hes'⟩:=hent
 have hck:∀b,(Instr.checkKey b 10000 kt (ρ k)).run P w=.ok () w:=fun b=>run_checkKey (n:=9999) hkt hd
 have fin1:∀(j:Nat)(u:Value),Instr.findNow d (ρ k) es'.toList 0=some (some (j,u))->(execOp ρ o).run P w=.ok (.value (if ok then .tuple #[u,.bool true] else u)) w:=by
  intro j u h1
  have hfk:=run_findKey (P:=P) (w:=w) hkt h1
  rcases hes' with⟨q,rfl⟩|⟨B,clock,q,hB⟩
  ·simp only[execOp,ho,Instr.lookup,Sem.run_bind,r_und ht,Result.andThen,q,Sem.run_pure,hck,hfk]
  ·simp only[execOp,ho,Instr.lookup,Sem.run_bind,r_und ht,Result.andThen,q,Sem.run_pure,hck,hfk,r_getMap hB]
 have fin2:Instr.findNow d (ρ k) es'.toList 0=some none->(execOp ρ o).run P w=.ok (.value (if ok then .tuple #[z,.bool false] else z)) w:=by
  intro h1
  have hfk:=run_findKey (P:=P) (w:=w) hkt h1
  rcases hes' with⟨q,rfl⟩|⟨B,clock,q,hB⟩
  ·simp only[execOp,ho,Instr.lookup,Sem.run_bind,r_und ht,Result.andThen,q,Sem.run_pure,hck,hfk,r_zero hz1]
  ·simp only[execOp,ho,Instr.lookup,Sem.run_bind,r_und ht,Result.andThen,q,Sem.run_pure,hck,hfk,r_getMap hB,r_zero hz1]
 split at hp
 ·rename_i u hlook
  cases hp
  rcases hmr.look hd hkey hlook with⟨e1,_⟩|⟨v1,pre,post,j,en,e1,_,_,_,hv,hf,_⟩
  ·cases e1
  ·cases e1
   refine⟨_,fin1 j en.val (by rw[qk];exact hf),?_⟩
   cases ok
   ·exact hv
   ·exact VRel.tuple_iff.2 (.cons hv (.cons (.bool true) .nil))
 ·rename_i hlook
  cases hp
  rcases hmr.look hd hkey hlook with⟨_,hf,_⟩|⟨v1,pre,post,j,en,e1,_⟩
  ·refine⟨_,fin2 (by rw[qk];exact hf),?_⟩
   cases ok
   ·exact plain_rel 8 z hz2
   ·exact VRel.tuple_iff.2 (.cons (plain_rel 8 z hz2) (.cons (.bool false) .nil))
  ·cases e1
 ·cases hp
theorem p_lenM {c:Call}{t kt e:TypeId}{x:Operand}(h:Rel P β σ w)(ho:o.op=.call c)(hc:c.callee=.builtin .len)(ht:c.argTypes= #[t])(ha:c.args= #[x])(hu:P.underlying t=some (.map kt e))
  (hx:VRel P β (ev' x) (ρ x))(hp:pev (.lenM x) ev' σ=some v):Gives P ρ o w β v:=by
 simp only[pev] at hp
 split at hp
 ·rename_i es hes
  cases hp
  refine⟨_,?_,.int _ _⟩
  rcases entries_some hes with⟨e1,rfl⟩|⟨r,ver,e1,hr⟩
  ·rw[e1] at hx
   simp[execOp,ho,resolve,hc,ha,ht,invoke,builtin,Builtin.len_,r_und hu,hx.nilMap_inv,goInt]
  ·rw[e1] at hx
   obtain⟨i,hi,q⟩:=hx.map_inv
   obtain⟨es',clock,h1,h2⟩:=h.map hr hi
   simp[execOp,ho,resolve,hc,ha,ht,invoke,builtin,Builtin.len_,r_und hu,q,goInt,r_getMap h1,h2.size]
 ·cases hp
theorem p_ta {t xt:TypeId}{d:TypeDesc}{z:Value}{ok:Bool}{x:Operand}(ho:o.op=.typeAssert x xt t ok)(ht:P.underlying t=some d)(hd:∀ms,d≠.interface ms)(hz:zeroP P t=some z)
  (hx:VRel P β (ev' x) (ρ x))(hp:pev (.ta t z ok x) ev' σ=some v):Gives P ρ o w β v:=by
 obtain⟨hz1,hz2⟩:=zeroP_some hz
 have hrz:VRel P β z z:=plain_rel 8 z hz2
 simp only[pev] at hp
 split at hp
 ·rename_i u y e
  obtain⟨y',q,hy⟩:=(e▸hx).iface_inv
  split at hp
  ·rename_i hut
   cases hp
   refine⟨if ok then .tuple #[y',.bool true] else y',?_,?_⟩
   ·simp only[execOp,ho,q,Instr.typeAssert,Sem.run_bind,r_und ht,Result.andThen]
    cases d<;>first|exact absurd rfl (hd _)|(simp only[if_pos hut];rfl)
   ·cases ok
    ·exact hy
    ·exact VRel.tuple_iff.2 (.cons hy (.cons (.bool true) .nil))
  ·rename_i hut
   split at hp
   ·rename_i hok
    cases hp
    refine⟨.tuple #[z,.bool false],?_,VRel.tuple_iff.2 (.cons hrz (.cons (.bool false) .nil))⟩
    simp only[execOp,ho,q,Instr.typeAssert,Sem.run_bind,r_und ht,Result.andThen]
    cases d<;>first|exact absurd rfl (hd _)|(simp only[if_neg hut,hok,if_true,Sem.run_bind,r_zero hz1,Result.andThen];rfl)
   ·cases hp
 ·rename_i e
  have q:=(e▸hx).nilIface_inv
  split at hp
  ·rename_i hok
   cases hp
   refine⟨.tuple #[z,.bool false],?_,VRel.tuple_iff.2 (.cons hrz (.cons (.bool false) .nil))⟩
   simp only[execOp,ho,q,Instr.typeAssert,Sem.run_bind,r_und ht,Result.andThen]
   cases d<;>first|exact absurd rfl (hd _)|(simp only[hok,if_true,Sem.run_bind,r_zero hz1,Result.andThen];rfl)
  ·cases hp
 ·cases hp
theorem p_fld {t:TypeId}{x:Operand}{f n:Nat}{fs:Array Field}{fd:Field}{agg:Bool}(ho:o.op=.field t x f)(ht:P.underlying t=some (.struct fs))(hf:fs[f]?=some fd)(hn:szOf P fd.type=some n)(hg:aggOf P fd.type=some agg)
  (hx:VRel P β (ev' x) (ρ x))(hp:pev (.fld fd.offset n agg x) ev' σ=some v):Gives P ρ o w β v:=by
 simp only[pev] at hp
 split at hp
 ·rename_i cs e
  obtain⟨cs',q,hr⟩:=(e▸hx).agg_inv
  split at hp
  ·rename_i hagg
   split at hp
   ·rename_i l hl
    cases hp
    obtain⟨_,rfl⟩:=takeAt_some hl
    subst hagg
    refine⟨.agg (cs'.extract fd.offset (fd.offset+n)),?_,VRel.agg_iff.2 ?_⟩
    ·simp[execOp,ho,q,Instr.field,r_und ht,hf,asAgg,part,r_agg hg,r_size hn]
    ·have:=(hr.drop fd.offset).take n
     simpa[Array.toList_extract,List.extract_eq_take_drop] using this
   ·cases hp
  ·rename_i hagg
   have hagg':agg=false:=by simpa using hagg
   subst hagg'
   obtain⟨v',h1,h2⟩:=hr.left hp
   simp only[Array.getElem?_toList] at h1
   exact⟨v',by simp[execOp,ho,q,Instr.field,r_und ht,hf,asAgg,part,r_agg hg,h1],h2⟩
 ·cases hp
theorem p_mm {c:Call}{b:Bool}{x y:Operand}(ho:o.op=.call c)(hc:c.callee=.builtin (if b then .max else .min))(ha:c.args= #[x,y])
  (hx:VRel P β (ev' x) (ρ x))(hy:VRel P β (ev' y) (ρ y))(hp:pev (.mm b x y) ev' σ=some v):Gives P ρ o w β v:=by
 simp only[pev] at hp
 split at hp
 ·rename_i k m k' n e1 e2
  cases hp
  have q1:=(e1▸hx).int_inv
  have q2:=(e2▸hy).int_inv
  refine⟨_,?_,.int _ _⟩
  cases b
  ·simp[execOp,ho,resolve,hc,ha,invoke,builtin,q1,q2,run_min_int2]
  ·simp[execOp,ho,resolve,hc,ha,invoke,builtin,q1,q2,run_max_int2]
 ·cases hp
end ops
end Go.Cn
namespace Go.Cn
set_option linter.unusedVariables false
set_option linter.unusedSimpArgs false
theorem foldl_set (off:Nat):∀(vs:List Value)(i:Nat)(cs:Array Value),off+i+vs.length<=cs.size->
  ((vs.zipIdx i).foldl (fun cs (x:Value×Nat)=>cs.setIfInBounds (off+x.2) x.1) cs).size=cs.size/\
  ∀(k:Nat),((vs.zipIdx i).foldl (fun cs (x:Value×Nat)=>cs.setIfInBounds (off+x.2) x.1) cs)[k]?=if off+i<=k/\k<off+i+vs.length then vs[k-(off+i)]? else cs[k]?
 |[],i,cs,_=>by
  refine⟨rfl,fun k=>?_⟩
  rw[if_neg (by simp only[List.length_nil];omega)];rfl
 |v::vs,i,cs,h=>by
  simp only[List.length_cons] at h
  obtain⟨h1,h2⟩:=foldl_set off vs (i+1) (cs.setIfInBounds (off+i) v) (by simp only[Array.size_setIfInBounds];omega)
  simp only[List.zipIdx_cons,List.foldl_cons]
  refine⟨by rw[h1];simp,fun k=>?_⟩
  rw[h2 k]
  simp only[List.length_cons]
  by_cases hk:k=off+i
  ·subst hk
   rw[if_neg (by omega),if_pos (by omega)]
   have:off+i<cs.size:=by omega
   simp[this]
  ·by_cases hin:off+(i+1)<=k/\k<off+(i+1)+vs.length
   ·rw[if_pos hin,if_pos (by omega)]
    have:k-(off+i)=(k-(off+(i+1)))+1:=by omega
    rw[this];simp
   ·rw[if_neg hin,if_neg (by omega),Array.getElem?_setIfInBounds_ne (by omega)]
section
variable {P:Program}{β:Ren}
theorem lrel_put {c r vs:List Value}{c' r' vs':List Value}{off:Nat}(hc:LRel P β c c')(hv:LRel P β vs vs')(hr:r.length=c.length)(hr':r'.length=c'.length)
  (h:∀(k:Nat),r[k]?=if off<=k/\k<off+vs.length then vs[k-off]? else c[k]?)(h':∀(k:Nat),r'[k]?=if off<=k/\k<off+vs'.length then vs'[k-off]? else c'[k]?):LRel P β r r':=by
 refine⟨by rw[hr,hr',hc.1],fun k x y hx hy=>?_⟩
 rw[h] at hx
 rw[h', <-hv.1] at hy
 split at hx
 ·rename_i hin;rw[if_pos hin] at hy;exact hv.2 _ x y hx hy
 ·rename_i hin;rw[if_neg hin] at hy;exact hc.2 _ x y hx hy
inductive PartsR (place:Nat->Option (Nat×Nat)):List (Nat×Operand)->List (Nat×Nat×Operand)->Prop where
 |nil:PartsR place [] []
 |cons {i off n:Nat}{x:Operand}{l:List (Nat×Operand)}{m:List (Nat×Nat×Operand)}(h:place i=some (off,n))(t:PartsR place l m):PartsR place ((i,x)::l) ((off,n,x)::m)
theorem fill_rel {place:Nat->Option (Nat×Nat)}{ev' ρ:Operand->Value}:∀{parts:List (Nat×Operand)}{ps:List (Nat×Nat×Operand)},PartsR place parts ps->(∀x∈parts,VRel P β (ev' x.2) (ρ x.2))->
  ∀{cells r:List Value}{cells':Array Value},LRel P β cells cells'.toList->fillL cells (ps.map fun (o,s,x)=>(o,s,ev' x))=some r->
  ∃r',Instr.fill place cells' (parts.map fun (i,x)=>(i,ρ x))=some r'/\LRel P β r r'.toList:=by
 intro parts ps hps
 induction hps with
 |nil=>intro _ cells r cells' hc hf;simp only[List.map_nil,fillL,Option.some.injEq] at hf;subst hf;exact⟨cells',rfl,hc⟩
 |@cons i off n x l m hpl t ih=>
  intro hops cells r cells' hc hf
  simp only[List.map_cons,fillL] at hf
  split at hf
  case isFalse=>cases hf
  rename_i hlen
  split at hf
  case h_2=>cases hf
  rename_i c1 hput
  obtain⟨hfit,hl1,hg1⟩:=putAt_some hput
  have hx:=(hops (i,x) (by simp)).cells
  have hsz:(ρ x).cells.size=n:=by have:=hx.1;simp only[Array.length_toList] at this;omega
  have hszc:cells'.size=cells.length:=by have:=hc.1;simp only[Array.length_toList] at this;omega
  obtain⟨g1,g2⟩:=foldl_set off (ρ x).cells.toList 0 cells' (by simp only[Array.length_toList];omega)
  have hc1:LRel P β c1 (((ρ x).cells.toList.zipIdx 0).foldl (fun cs (x:Value×Nat)=>cs.setIfInBounds (off+x.2) x.1) cells').toList:=by
   refine lrel_put (off:=off) hc hx hl1 (by simpa using g1) hg1 (fun k=>?_)
   have:=g2 k
   simp only[Nat.add_zero] at this
   simpa using this
  obtain⟨r',q1,q2⟩:=ih (fun y hy=>hops y (by simp[hy])) hc1 hf
  refine⟨r',?_,q2⟩
  simp only[List.map_cons,Instr.fill,hpl]
  rw[if_neg (by simp;omega)]
  rw[<-q1]
  congr 1
  rw[<-Array.foldl_toList,Array.toList_zipIdx]
theorem zerosL_len (z:List Value):∀n,(zerosL z n).length=n*z.length
 |0=>by simp[zerosL]
 |n+1=>by simp[zerosL,zerosL_len z n,Nat.succ_mul,Nat.add_comm]
theorem zerosL_get (z:List Value)(hz:z.length≠0):∀(n k:Nat),k<n*z.length->(zerosL z n)[k]?=z[k % z.length]?
 |0,k,h=>by simp at h
 |n+1,k,h=>by
  simp only[zerosL]
  by_cases hk:k<z.length
  ·rw[List.getElem?_append_left hk,Nat.mod_eq_of_lt hk]
  ·rw[List.getElem?_append_right (by omega),zerosL_get z hz n (k-z.length) (by rw[Nat.add_mul,Nat.one_mul] at h;omega)]
   congr 1
   exact (Nat.mod_eq_sub_mod (by omega)).symm
theorem zeros_rel {z:Value}(hz:plain 8 z=true){n len:Nat}(hn:(cellsOf z).length=n)(h0:n≠0) :
  LRel P β (zerosL (cellsOf z) len) ((Array.range (len*n)).map (z.cells[· % z.cells.size]!)).toList:=by
 have hc:=plain_cells (P:=P) (β:=β) hz
 have hs:z.cells.size=n:=by have:=hc.1;simp only[Array.length_toList] at this;omega
 refine⟨by rw[zerosL_len,hn];simp,fun k x y hx hy=>?_⟩
 have hk:k<len*n:=by
  have:=(List.getElem?_eq_some_iff.1 hx).1
  rw[zerosL_len,hn] at this;exact this
 rw[zerosL_get _ (by omega) len k (by rw[hn];exact hk),hn] at hx
 simp only[Array.getElem?_toList,Array.getElem?_map,Array.getElem?_range,if_pos hk,Option.map_some,Option.some.injEq,hs] at hy
 have hm:k % n<z.cells.size:=by rw[hs];exact Nat.mod_lt _ (by omega)
 rw[getElem!_pos z.cells (k % n) hm] at hy
 exact hc.2 (k % n) x y hx (by simp[hm,hy])
theorem r_places {w:World}:∀(l:List Field)(ps:List (Nat×Nat)),l.mapM (fun f=>(szOf P f.type).map fun n=>(f.offset,n))=some ps->
  (l.mapM (fun f=>do pure (f.offset, <-sizeOf f.type)):Sem (List (Nat×Nat))).run P w=.ok ps w
 |[],ps,h=>by cases h;rfl
 |f::l,ps,h=>by
  simp only[List.mapM_cons] at h ⊢
  cases e:szOf P f.type with
  |none=>rw[e] at h;cases h
  |some n=>
   rw[e] at h
   cases e2:l.mapM (fun f=>(szOf P f.type).map fun n=>(f.offset,n)) with
   |none=>rw[e2] at h;cases h
   |some qs=>
    rw[e2] at h
    simp at h
    subst h
    simp only[Sem.run_bind,r_size e,Result.andThen,Sem.run_pure,r_places l qs e2]
end
section ops
variable {P:Program}{β:Ren}{σ:CW}{w:World}{ev' ρ:Operand->Value}{o:Oper}{v:Value}
inductive BuildOk (P:Program)(t:TypeId)(parts:List (Nat×Operand))(ps:List (Nat×Nat×Operand)):Prop where
 |struct {fs:Array Field}{pl:List (Nat×Nat)}(ht:P.underlying t=some (.struct fs))(hpl:fs.toList.mapM (fun f=>(szOf P f.type).map fun n=>(f.offset,n))=some pl)(hp:PartsR (fun (x:Nat)=>pl[x]?) parts ps)
 |array {len:Nat}{e:TypeId}{n:Nat}(ht:P.underlying t=some (.array len e))(hn:szOf P e=some n)(hp:PartsR (fun i=>some (i*n,n)) parts ps)
theorem p_build {t:TypeId}{z:Value}{parts:Array (Nat×Operand)}{ps:List (Nat×Nat×Operand)}(ho:o.op=.build t parts)(hz:zeroP P t=some z)(hb:BuildOk P t parts.toList ps)
  (hx:∀x∈parts.toList,VRel P β (ev' x.2) (ρ x.2))(hp:pev (.build (cellsOf z) ps) ev' σ=some v):Gives P ρ o w β v:=by
 obtain⟨hz1,hz2⟩:=zeroP_some hz
 have hc:=plain_cells (P:=P) (β:=β) hz2
 simp only[pev] at hp
 split at hp
 ·rename_i l hl
  cases hp
  cases hb with
  |@struct fs pl ht hpl hps=>
   obtain⟨r',h1,h2⟩:=fill_rel hps hx hc hl
   refine⟨.agg r',?_,VRel.agg_iff.2 (by simpa using h2)⟩
   have hplaces:(fs.mapM (fun f=>do pure (f.offset, <-sizeOf f.type)):Sem (Array (Nat×Nat))).run P w=.ok pl.toArray w:=by
    rw[Array.mapM_eq_mapM_toList,Sem.run_map,r_places fs.toList pl hpl];rfl
   simp only[execOp,ho,Instr.build,Sem.run_bind,r_zero hz1,r_und ht,Result.andThen,hplaces]
   have e1:(Array.map (fun (x:Nat×Operand)=>(x.1,ρ x.2)) parts).toList=parts.toList.map fun (i,x)=>(i,ρ x):=by simp
   have e2:(fun (x:Nat)=>pl.toArray[x]?)=(fun (x:Nat)=>pl[x]?):=by funext x;simp
   rw[e2,e1,h1];rfl
  |@array len e n ht hn hps=>
   obtain⟨r',h1,h2⟩:=fill_rel hps hx hc hl
   refine⟨.agg r',?_,VRel.agg_iff.2 (by simpa using h2)⟩
   simp only[execOp,ho,Instr.build,Sem.run_bind,r_zero hz1,r_und ht,Result.andThen,r_size hn]
   have e1:(Array.map (fun (x:Nat×Operand)=>(x.1,ρ x.2)) parts).toList=parts.toList.map fun (i,x)=>(i,ρ x):=by simp
   rw[e1,h1];rfl
 ·cases hp
def CmpOk (P : Program) (f : FuncId) : Prop := ∃ fn, P.funcs[f]? = some fn ∧ fn.body = none ∧ (fn.name == "runtime.NumGoroutine") = false ∧ Extern.findNext fn = none ∧ Extern.find fn = some Extern.BytealgCompare.compare
theorem p_cmp {c:Call}{f:FuncId}{x y:Operand}(ho:o.op=.call c)(hc:c.callee=.value (.func f))(ha:c.args= #[x,y])(hρ:ρ (.func f)=.func (.func f) #[] #[])(hf:CmpOk P f)
  (hx:VRel P β (ev' x) (ρ x))(hy:VRel P β (ev' y) (ρ y))(hp:pev (.cmp x y) ev' σ=some v):Gives P ρ o w β v:=by
 simp only[pev] at hp
 split at hp
 ·rename_i a b e1 e2
  cases hp
  have q1:=(e1▸hx).string_inv
  have q2:=(e2▸hy).string_inv
  obtain⟨fn,h1,h2,h3,h4,h5⟩:=hf
  refine⟨_,?_,.int _ _⟩
  have hcmp:(Extern.BytealgCompare.compare #[.string a,.string b]).run P w=.ok (goInt (Extern.BytealgCompare.cmp a b)) w:=rfl
  simp only[execOp,ho,resolve,hc,ha,hρ,Deferred.ofValue,Sem.run_bind,Sem.run_pure,Result.andThen,invoke,callFunc,run_program,h1,h2,h3,h4,h5,Bool.false_eq_true,if_false,Option.isNone_none,if_true,run_mark]
  simp[q1,q2,hcmp,goInt]
 ·cases hp
end ops
end Go.Cn
namespace Go.Cn
set_option linter.unusedVariables false
set_option linter.unusedSimpArgs false
section ops
variable {P:Program}{β:Ren}{σ:CW}{w:World}{ev' ρ:Operand->Value}{o:Oper}{v:Value}
theorem ptrOk_some {t:TypeId}(h:ptrOk P t=true):∃i e n,P.info? t=some i/\i.comparable=true/\P.underlying t=some (.pointer e)/\szOf P e=some n/\n≠0:=by
 unfold ptrOk at h
 split at h
 ·rename_i i e h1 h2
  rw[Bool.and_eq_true] at h
  obtain⟨h3,h4⟩:=h
  split at h4
  ·rename_i n hn
   refine⟨i,e,n,h1,h3,h2,hn,?_⟩
   intro h0;subst h0;simp at h4
  ·cases h4
 ·cases h
theorem r_same_block {a b:Addr}(h:a.block=b.block):(sameAddr a b).run P w=.ok (a==b) w:=by
 unfold sameAddr
 have:(a.block==b.block)=true:=by simp[h]
 rw[if_pos this];rfl
theorem r_other_block {a b:Addr}(h:a.block≠b.block){c d:Array Value}{E E':TypeId}(ha:w.heap[a.block]?=some (.cells c E (0,0)))(hb:w.heap[b.block]?=some (.cells d E' (0,0))) :
  (sameAddr a b).run P w=.ok false w:=by
 have hn:(a.block==b.block)=false:=by simp[h]
 have sa:w.shape? a.block=some (E,c.size):=by simp[World.shape?,ha]
 have sb:w.shape? b.block=some (E',d.size):=by simp[World.shape?,hb]
 have fa:∀k s,w.frozen? ⟨a.block,k,s⟩=false:=by intro k s;simp[World.frozen?,ha]
 have fb:∀k s,w.frozen? ⟨b.block,k,s⟩=false:=by intro k s;simp[World.frozen?,hb]
 have fa':w.frozen? a=false:=fa a.off a.spot
 have fb':w.frozen? b=false:=fb b.off b.spot
 have va:(viewAt a.block).run P w=.ok none w:=by simp[viewAt,sa]
 have vb:(viewAt b.block).run P w=.ok none w:=by simp[viewAt,sb]
 have na:(noView a).run P w=.ok () w:=by simp[noView,va]
 have nb:(noView b).run P w=.ok () w:=by simp[noView,vb]
 have ta:(stringish a).run P w=.ok false w:=by simp[stringish,fa',sa,fa]
 have tb:(stringish b).run P w=.ok false w:=by simp[stringish,fb',sb,fb]
 have m:(mayBeOne a b).run P w=.ok false w:=by simp[mayBeOne,ta,tb,sa,sb]
 unfold sameAddr
 rw[if_neg (by simp[hn])]
 simp[fa',fb',na,nb,m]
theorem apart_some {u8:List TypeId}{a b:Nat}(h:σ.apart u8 a b=true):∃c E cl r d E' cl' r',σ.heap a=some (.cells c E cl r)/\σ.heap b=some (.cells d E' cl' r')/\(a<σ.inj\/u8.contains E=false)/\(b<σ.inj\/u8.contains E'=false)/\(σ.ro<=a\/a<σ.inj)/\(σ.ro<=b\/b<σ.inj)/\
  ((a<σ.ro/\b<σ.ro/\(a<σ.inj\/b<σ.inj))\/(¬(a<σ.ro/\b<σ.ro)/\cl≠cl')):=by
 unfold CW.apart at h
 split at h
 ·rename_i c E cl r d E' cl' r' h1 h2
  simp only[Bool.and_eq_true,Bool.or_eq_true,Bool.not_eq_true',decide_eq_true_eq] at h
  obtain⟨⟨⟨h3,h4⟩,h7,h8⟩,h5⟩:=h
  refine⟨c,E,cl,r,d,E',cl',r',h1,h2,h3,h4,h7,h8,?_⟩
  split at h5
  ·rename_i h6;simp only[decide_eq_true_eq] at h5;exact .inl ⟨h6.1,h6.2,h5⟩
  ·rename_i h6;simp only[decide_eq_true_eq] at h5;exact .inr ⟨h6,h5⟩
 ·cases h
theorem u8_mem {t:TypeId}(hl:t<P.types.size)(h:P.underlying t=some (.int .u8)):(u8Types P).contains t=true:=by
 unfold u8Types
 rw[List.contains_iff_mem,List.mem_filter]
 exact⟨List.mem_range.2 hl,by simp[isU8,h]⟩
theorem Rel.unfrozen {b:Nat}{i:BI}{c:List Value}{E:TypeId}{cl rel:Nat}(h:Rel P β σ w)(hb:β b=some i)(hc:σ.heap b=some (.cells c E cl rel))(hu:b<σ.inj\/(u8Types P).contains E=false)(hwr:σ.ro<=b\/b<σ.inj)
  (hty:∀t,P.underlying t=some (.int .u8)->t<P.types.size):∃c',w.heap[i.B]?=some (.cells c' i.E (0,0)):=by
 obtain⟨c',fr,hB,hE,_,_,hs,_⟩:=(h.obj b i _ hb hc).cells_inv
 rcases hs (h.wr.2 b i hb hwr) with h0|⟨_,h0⟩
 ·exact⟨c',by rw[hB,h0]⟩
 ·rcases hu with hu|hu
  ·obtain⟨i',q1,q2⟩:=h.wr.1 b hu
   rw[hb] at q1;cases q1
   exact absurd h0 q2
  rw[hE] at hu
  have:=u8_mem (hty _ h0) h0
  rw[this] at hu;cases hu
theorem p_eqI {neg:Bool}{t t':TypeId}{x y:Operand}{ms:Array (String×TypeId)}(h:Rel P β σ w)(ho:o.op=.binOp (if neg then .neq else .eql) t x y t')(ht:P.underlying t=some (.interface ms))
  (hty:∀t,P.underlying t=some (.int .u8)->t<P.types.size)
  (hx:VRel P β (ev' x) (ρ x))(hy:VRel P β (ev' y) (ρ y))(hp:pev (.eqI neg (okTypes P) (u8Types P) x y) ev' σ=some v):Gives P ρ o w β v:=by
 simp only[pev] at hp
 split at hp
 case h_2=>cases hp
 rename_i b hb
 cases hp
 have key:∃vx vy,ρ x=vx/\ρ y=vy/\(Op.equal t vx vy).run P w=.ok b w/\(eqGuard (if neg then .neq else .eql) t x y vx vy).run P w=.ok () w/\
   (∀n:Bool,binOp (if n then .neq else .eql) t vx vy=(Op.equal t vx vy >>= fun r=>pure (.bool (if n then !r else r)))):=by
  unfold eqIface at hb
  split at hb
  ·rename_i u z e1 e2
   cases hb
   obtain⟨z',q2,_⟩:=(e2▸hy).iface_inv
   refine⟨_,_,(e1▸hx).nilIface_inv,q2,?_,by cases neg<;>rfl,fun n=>by cases n<;>rfl⟩
   show (Op.equalIn (9999+1) t _ _).run P w=_
   rw[Op.equalIn,Sem.run_bind,r_und ht];rfl
  ·rename_i u z e1 e2
   cases hb
   obtain⟨z',q1,_⟩:=(e1▸hx).iface_inv
   refine⟨_,_,q1,(e2▸hy).nilIface_inv,?_,by cases neg<;>rfl,fun n=>by cases n<;>rfl⟩
   show (Op.equalIn (9999+1) t _ _).run P w=_
   rw[Op.equalIn,Sem.run_bind,r_und ht];rfl
  ·rename_i tx a ty b' e1 e2
   obtain⟨x',q1,hx'⟩:=(e1▸hx).iface_inv
   obtain⟨y',q2,hy'⟩:=(e2▸hy).iface_inv
   obtain⟨_,i,hi,r1⟩:=hx'.ptr_inv
   obtain⟨_,j,hj,r2⟩:=hy'.ptr_inv
   subst r1 r2
   refine⟨_,_,q1,q2,?_,by cases neg<;>rfl,fun n=>by cases n<;>rfl⟩
   have e9:Op.equal t (.iface tx (.pointer (some ⟨i.B,a.off+i.sh,none⟩))) (.iface ty (.pointer (some ⟨j.B,b'.off+j.sh,none⟩)))=Op.equalIn (9998+1+1) t (.iface tx (.pointer (some ⟨i.B,a.off+i.sh,none⟩))) (.iface ty (.pointer (some ⟨j.B,b'.off+j.sh,none⟩))):=rfl
   rw[e9]
   generalize 9998=N
   rw[Op.equalIn,Sem.run_bind,r_und ht,Result.andThen_ok]
   split at hb
   ·rename_i htt
    subst htt
    split at hb
    case isFalse=>cases hb
    rename_i hok
    have hok':ptrOk P tx=true:=by
     have:=hok.1
     unfold okTypes at this
     rw[List.contains_iff_mem,List.mem_filter] at this
     exact this.2
    obtain⟨inf,e,n,h1,h2,h3,h4,h5⟩:=ptrOk_some hok'
    simp only[ne_eq,not_true_eq_false,if_false,Sem.run_bind,r_info h1,Result.andThen,h2,Bool.not_true,Bool.false_eq_true]
    rw[Op.equalIn,Sem.run_bind,r_und h3,Result.andThen_ok]
    simp only[Sem.run_bind,r_size h4,Result.andThen,ne_eq,h5,not_false_eq_true,if_true]
    split at hb
    ·rename_i hbl
     cases hb
     rw[hbl,hj] at hi;cases hi
     refine (r_same_block (a:=⟨i.B,a.off+i.sh,none⟩) (b:=⟨i.B,b'.off+i.sh,none⟩) rfl).trans ?_
     congr 1
     rw[Bool.eq_iff_iff]
     simp only[beq_iff_eq,decide_eq_true_eq,Addr.mk.injEq,true_and,and_true]
     omega
    ·rename_i hbl
     split at hb
     case isFalse=>cases hb
     rename_i hap
     cases hb
     obtain⟨c,E,cl,r,d,E',cl',r',g1,g2,g3,g4,g6,g7,g5⟩:=apart_some hap.1
     obtain⟨c1,k1⟩:=h.unfrozen hi g1 g3 g6 hty
     obtain⟨c2,k2⟩:=h.unfrozen hj g2 g4 g7 hty
     by_cases hBB:i.B=j.B
     ·obtain⟨a1,a2⟩:=h.alias a.block b'.block i j hbl hi hj hBB
      rw[g1,g2] at a2
      simp only at a2
      have hsh:a.off+i.sh≠b'.off+j.sh:=by
       have ht:=hap.2
       unfold CW.told at ht
       simp only[decide_eq_true_eq] at ht
       rcases g5 with⟨m1,m2,m3⟩|⟨m1,m2⟩
       ·rcases a2 with⟨_,n1⟩|⟨n1,_⟩<;>omega
       ·rcases a2 with⟨n0,_⟩|⟨_,n1,_⟩
        ·exact absurd ⟨n0,a1.1 n0⟩ m1
        ·exact absurd n1 m2
      rw[hBB]
      refine (r_same_block (a:=⟨j.B,a.off+i.sh,none⟩) (b:=⟨j.B,b'.off+j.sh,none⟩) rfl).trans ?_
      congr 1
      rw[Bool.eq_iff_iff]
      simp only[beq_iff_eq,Addr.mk.injEq,true_and,and_true,Bool.false_eq_true,iff_false]
      exact hsh
     ·exact r_other_block hBB k1 k2
   ·rename_i htt
    cases hb
    simp only[ne_eq,htt,not_false_eq_true,if_true];rfl
  ·cases hb
 obtain⟨vx,vy,q1,q2,h1,h2,h3⟩:=key
 refine⟨_,?_,.bool _⟩
 simp only[execOp,ho,q1,q2,Sem.run_bind,h2,Result.andThen,h3,h1]
 rfl
end ops
end Go.Cn
namespace Go.Cn
set_option linter.unusedVariables false
set_option linter.unusedSimpArgs false
def Does (P:Program)(ρ:Operand->Value)(o:Oper)(β:Ren)(σ:CW)(w:World)(v:Value)(σ':CW):Prop:=
 ∃nx w' β',(execOp ρ o).run P w=.ok nx w'/\((∃v',nx=.value v'/\VRel P β' v v')\/(nx=.skip/\v=cundef))/\Stp P β σ w β' σ' w'
def Makes (P:Program)(ρ:Operand->Value)(o:Oper)(β:Ren)(w:World)(b:Nat)(obj:CObj)(v:Value):Prop:=
 ∃v' w' i o',(execOp ρ o).run P w=.ok (.value v') w'/\w'.heap=w.heap.push o'/\w'.os=w.os/\w'.output=w.output/\w'.tape=w.tape/\(i.B=w.heap.size/\i.wr=true)/\
  ∀β',Le β β'->β' b=some i->VRel P β' v v'/\ObjRel P β' i obj (some o')
section ops
variable {P:Program}{β:Ren}{σ:CW}{w:World}{ev' ρ:Operand->Value}{o:Oper}{v:Value}{bi:Nat}
theorem Makes.does (h:Rel P β σ w){obj:CObj}(hf:FreshO σ obj)(hit:isIter obj=false)(hm:Makes P ρ o β w σ.next obj v):Does P ρ o β σ w v (σ.add obj):=by
 obtain⟨v',w',i,o',h1,h2,h3,h4,h5,⟨h6,hwr⟩,h7⟩:=hm
 obtain⟨h8,h9⟩:=h7 (upd β σ.next (some i)) (h.le_upd i) (upd_same _ _ _)
 exact⟨_,w',_,h1,.inl ⟨v',rfl,h8⟩,h.alloc h6 h2 h3 h4 h5 hf h9 hit hwr⟩
theorem aev_fresh {q:AOp}{obj:CObj}(h:aev q ev' bi=some (obj,v)):(∃c E,obj=.cells c E bi 0)\/∃es ver,obj=.map es ver:=by
 unfold aev at h
 repeat' split at h
 all_goals first|(cases h;done)|(cases h;exact .inl ⟨_,_,rfl⟩)|(cases h;exact .inr ⟨_,_,rfl⟩)
theorem aev_freshO {q:AOp}{obj:CObj}(h:aev q ev' σ.next=some (obj,v)):FreshO σ obj:=by
 rcases aev_fresh h with⟨c,E,rfl⟩|⟨es,ver,rfl⟩
 ·exact⟨rfl,rfl⟩
 ·trivial
theorem aev_noIter {q:AOp}{obj:CObj}(h:aev q ev' bi=some (obj,v)):isIter obj=false:=by
 rcases aev_fresh h with⟨c,E,rfl⟩|⟨es,ver,rfl⟩<;>rfl
theorem row_rel {c:List Value}{c':Array Value}{E:TypeId}{fr:Nat×Nat}{B cl:Nat}(hc:c.length<=c'.size)
  (hl:∀(k:Nat)(x:Value),c[k]?=some x->∃y,c'[k]?=some y/\VRel P β x y)(hs:Soft P E c'.size fr){β':Ren}(hle:Le β β') :
  ObjRel P β' ⟨B,0,c'.size,E,true⟩ (.cells c E cl 0) (some (.cells c' E fr)):=by
 refine⟨rfl,rfl,rfl,by simpa using hc,fun _=>hs,fun k x hk=>?_⟩
 obtain⟨y,h1,h2⟩:=hl k x hk
 exact⟨y,by simpa using h1,h2.mono hle⟩
theorem Rel.newRow (h:Rel P β σ w){c:List Value}{c':Array Value}{E:TypeId}{fr:Nat×Nat}{w':World}(hc:c.length<=c'.size)
  (hl:∀(k:Nat)(x:Value),c[k]?=some x->∃y,c'[k]?=some y/\VRel P β x y)(hs:Soft P E c'.size fr)(hw:w'.heap=w.heap.push (.cells c' E fr))
  (hos:w'.os=w.os)(hout:w'.output=w.output)(htape:w'.tape=w.tape) :
  Stp P β σ w (upd β σ.next (some ⟨w.heap.size,0,c'.size,E,true⟩)) (σ.add (.cells c E σ.next 0)) w':=by
 refine h.alloc (i:=⟨w.heap.size,0,c'.size,E,true⟩) rfl hw hos hout htape ⟨rfl,rfl⟩ ⟨rfl,rfl,rfl,by simpa using hc,fun _=>hs,fun k x hk=>?_⟩
 obtain⟨y,h1,h2⟩:=hl k x hk
 exact⟨y,by simpa using h1,h2.mono (h.le_upd _)⟩
theorem lrel_get {c:List Value}{c':Array Value}(h:LRel P β c c'.toList):∀(k:Nat)(x:Value),c[k]?=some x->∃y,c'[k]?=some y/\VRel P β x y:=by
 intro k x hk
 obtain⟨y,h1,h2⟩:=h.left hk
 exact⟨y,by simpa using h1,h2⟩
theorem lrel_size {c:List Value}{c':Array Value}(h:LRel P β c c'.toList):c.length=c'.size:=by have:=h.1;simpa using this
theorem m_alloc {t:TypeId}{z:Value}(ho:o.op=.alloc t)(hz:zeroP P t=some z){obj:CObj}(hp:aev (.alloc t (cellsOf z)) ev' bi=some (obj,v)) :
  Makes P ρ o β w bi obj v:=by
 obtain⟨hz1,hz2⟩:=zeroP_some hz
 simp only[aev,Option.some.injEq,Prod.mk.injEq] at hp
 obtain⟨rfl,rfl⟩:=hp
 have hc:=plain_cells (P:=P) (β:=β) hz2
 refine⟨.pointer (some ⟨w.heap.size,0,none⟩),w.alloc (.cells z.cells t),⟨w.heap.size,0,z.cells.size,t,true⟩,_,?_,rfl,rfl,rfl,rfl,⟨rfl,rfl⟩,fun β' hle hi=>⟨?_,row_rel (fr:=(0,0)) (Nat.le_of_eq (lrel_size hc)) (lrel_get hc) (.inl rfl) hle⟩⟩
 ·simp[execOp,ho,Instr.alloc,newVar,Go.newRow,r_zero hz1]
 ·exact .ptr hi
theorem m_box {t:TypeId}{x:Operand}(ho:o.op=.box t x)(hx:VRel P β (ev' x) (ρ x)){obj:CObj}(hp:aev (.box t x) ev' bi=some (obj,v)) :
  Makes P ρ o β w bi obj v:=by
 simp only[aev,Option.some.injEq,Prod.mk.injEq] at hp
 obtain⟨rfl,rfl⟩:=hp
 have hc:=hx.cells
 refine⟨.pointer (some ⟨w.heap.size,0,none⟩),w.alloc (.cells (ρ x).cells t),⟨w.heap.size,0,(ρ x).cells.size,t,true⟩,_,?_,rfl,rfl,rfl,rfl,⟨rfl,rfl⟩,fun β' hle hi=>⟨?_,row_rel (fr:=(0,0)) (Nat.le_of_eq (lrel_size hc)) (lrel_get hc) (.inl rfl) hle⟩⟩
 ·simp[execOp,ho,Instr.box,newVar,Go.newRow]
 ·exact .ptr hi
theorem m_mkmap {t:TypeId}(ho:o.op=.makeMap t none){obj:CObj}(hp:aev .mkmap ev' bi=some (obj,v)):Makes P ρ o β w bi obj v:=by
 simp only[aev,Option.some.injEq,Prod.mk.injEq] at hp
 obtain⟨rfl,rfl⟩:=hp
 refine⟨.map (some w.heap.size),w.alloc (.map #[] 0),⟨w.heap.size,0,0,0,true⟩,_,?_,rfl,rfl,rfl,rfl,⟨rfl,rfl⟩,fun β' hle hi=>⟨?_,⟨⟨List.Pairwise.nil,[],List.Perm.refl _,.nil⟩,by simp,by simp⟩⟩⟩
 ·simp[execOp,ho,Instr.makeMap]
 ·exact .map hi
theorem slice_new {β':Ren}{n c c' sz N:Nat}{E:TypeId}{B:Nat}(hi:β' bi=some ⟨B,0,N,E,true⟩)(hn:n<=c)(hc:c<=c')(h:c'=c\/(szOf P E=some sz/\c'*sz<=N)) :
  VRel P β' (.slice (some ⟨bi,0,none⟩) n c) (.slice (some ⟨B,0,none⟩) n c'):=by
 refine .slice hn hc (.inr ⟨_,hi,rfl,?_⟩)
 rcases h with h|⟨h1,h2⟩
 ·exact .inl h
 ·exact .inr ⟨sz,h1,by simpa using h2⟩
theorem m_bsl {t e:TypeId}{n len:Nat}{z:Value}{parts:Array (Nat×Operand)}(ho:o.op=.buildSlice t len parts)(ht:P.underlying t=some (.slice e))(hn:szOf P e=some n)(hz:zeroP P e=some z)
  (hle:len*n<=16777216)(hlen:(cellsOf z).length=n)(h0:n≠0)(hx:∀x∈parts.toList,VRel P β (ev' x.2) (ρ x.2)){obj:CObj}
  (hp:aev (.bsl e (cellsOf z) len (parts.toList.map fun (i,x)=>(i*n,n,x))) ev' bi=some (obj,v)):Makes P ρ o β w bi obj v:=by
 obtain⟨hz1,hz2⟩:=zeroP_some hz
 simp only[aev] at hp
 split at hp
 case h_2=>cases hp
 rename_i l hl
 simp only[Option.some.injEq,Prod.mk.injEq] at hp
 obtain⟨rfl,rfl⟩:=hp
 have hparts:PartsR (fun i=>some (i*n,n)) parts.toList (parts.toList.map fun (i,x)=>(i*n,n,x)):=by
  generalize parts.toList=ps
  induction ps with
  |nil=>exact .nil
  |cons p ps ih=>exact .cons rfl ih
 have hzr:=zeros_rel (P:=P) (β:=β) hz2 hlen h0 (len:=len)
 obtain⟨r',h1,h2⟩:=fill_rel hparts hx hzr hl
 refine⟨.slice (some ⟨w.heap.size,0,none⟩) len len,w.alloc (.cells r' e),⟨w.heap.size,0,r'.size,e,true⟩,_,?_,rfl,rfl,rfl,rfl,⟨rfl,rfl⟩,fun β' hle hi=>⟨?_,row_rel (fr:=(0,0)) (Nat.le_of_eq (lrel_size h2)) (lrel_get h2) (.inl rfl) hle⟩⟩
 ·have e1:(Array.map (fun (x:Nat×Operand)=>(x.1,ρ x.2)) parts).toList=parts.toList.map fun (i,x)=>(i,ρ x):=by simp
  have hg:¬(len*n > 2 ^ 24):=by have:(2:Nat) ^ 24=16777216:=by decide
                                omega
  by_cases hl0:len*n=0
  ·have e2:(Array.range (len*n)).map (fun i=>(#[]:Array Value)[i % (#[]:Array Value).size]!)=(Array.range (len*n)).map (z.cells[· % z.cells.size]!):=by rw[hl0];simp
   simp only[execOp,ho,Instr.buildSlice,Sem.run_bind,r_und ht,Result.andThen,r_size hn,if_neg hg,if_pos hl0,Sem.run_pure]
   rw[e2,e1,h1]
   simp[Go.newRow]
  ·simp only[execOp,ho,Instr.buildSlice,Sem.run_bind,r_und ht,Result.andThen,r_size hn,if_neg hg,if_neg hl0,Sem.run_pure,r_zero hz1]
   rw[e1,h1]
   simp[Go.newRow]
 ·exact slice_new (sz:=0) hi (Nat.le_refl _) (Nat.le_refl _) (.inl rfl)
theorem m_mksl {t e:TypeId}{n b:Nat}{z:Value}{len cap:Operand}(ho:o.op=.makeSlice t len cap)(ht:P.underlying t=some (.slice e))(hb:bytesOf P e=some b)(hz:zeroP P e=some z)(hn:szOf P e=some n)
  (hlen:(cellsOf z).length=n)(h0:n≠0)(hx:VRel P β (ev' len) (ρ len))(hy:VRel P β (ev' cap) (ρ cap)){obj:CObj}(hp:aev (.mksl e b (cellsOf z) len cap) ev' bi=some (obj,v)):Makes P ρ o β w bi obj v:=by
 obtain⟨hz1,hz2⟩:=zeroP_some hz
 obtain⟨inf,hi1,hi2⟩:=bytesOf_some hb
 simp only[aev] at hp
 split at hp
 case h_2=>cases hp
 rename_i k l k' c e1 e2
 split at hp
 case isFalse=>cases hp
 rename_i hcond
 obtain⟨hl0,hlc,hbc,hcc⟩:=hcond
 simp only[Option.some.injEq,Prod.mk.injEq] at hp
 obtain⟨rfl,rfl⟩:=hp
 have q1:=(e1▸hx).int_inv
 have q2:=(e2▸hy).int_inv
 have hzr:=zeros_rel (P:=P) (β:=β) hz2 hlen h0 (len:=c.toNat)
 have wl:IntKind.i64.wrap l=l:=by
  have:IntKind.i64.wrap l=(if l % 18446744073709551616≥9223372036854775808 then l % 18446744073709551616-18446744073709551616 else l % 18446744073709551616):=by
   simp[IntKind.wrap,IntKind.bits,IntKind.signed]
  rw[this];omega
 have wc:IntKind.i64.wrap c=c:=by
  have:IntKind.i64.wrap c=(if c % 18446744073709551616≥9223372036854775808 then c % 18446744073709551616-18446744073709551616 else c % 18446744073709551616):=by
   simp[IntKind.wrap,IntKind.bits,IntKind.signed]
  rw[this];omega
 refine⟨.slice (some ⟨w.heap.size,0,none⟩) l.toNat c.toNat,w.alloc (.cells ((Array.range (c.toNat*n)).map (z.cells[· % z.cells.size]!)) e),⟨w.heap.size,0,_,e,true⟩,_,?_,rfl,rfl,rfl,rfl,⟨rfl,rfl⟩,
  fun β' hle hi=>⟨?_,row_rel (fr:=(0,0)) (Nat.le_of_eq (lrel_size hzr)) (lrel_get hzr) (.inl rfl) hle⟩⟩
 ·have g1:¬((decide (c<0) || decide ((inf.bytes:Int)*c > 2 ^ 48))=true):=by
   have:(2:Int) ^ 48=281474976710656:=by decide
   simp only[Bool.or_eq_true,decide_eq_true_eq,not_or,hi2]
   omega
  have g2:¬(((decide (c<0) || decide ((inf.bytes:Int)*c > 2 ^ 48)) || decide (l<0) || decide (l > c))=true):=by
   simp only[Bool.or_eq_true,decide_eq_true_eq] at g1 ⊢
   omega
  have e3:c.toNat*inf.bytes=c.toNat*b:=by rw[hi2]
  simp only[execOp,ho,Instr.makeSlice,Sem.run_bind,r_und ht,Result.andThen,q1,q2,asInt,asIntOf,Sem.run_pure,r_info hi1,wl,wc,if_neg g2,run_askRoom,r_size hn]
  by_cases hc0:c.toNat*n=0
  ·have e4:(Array.range (c.toNat*n)).map (fun i=>(#[]:Array Value)[i % (#[]:Array Value).size]!)=(Array.range (c.toNat*n)).map (z.cells[· % z.cells.size]!):=by rw[hc0];simp
   simp only[if_pos hc0,Sem.run_pure,Sem.run_bind,Result.andThen]
   rw[e4]
   simp[Go.newRow]
  ·simp only[if_neg hc0,Sem.run_bind,r_zero hz1,Result.andThen,Sem.run_pure]
   simp[Go.newRow]
 ·refine slice_new (sz:=0) hi ?_ (Nat.le_refl _) (.inl rfl)
  omega
theorem freeze_push {w:World}{c:Array Value}{E:TypeId}{n:Nat}:((w.alloc (.cells c E)).freeze ⟨w.heap.size,n,none⟩ 1).heap=w.heap.push (.cells c E (n,n+1)):=by
 apply Array.ext_getElem?
 intro j
 simp only[World.freeze,World.alloc]
 rw[if_neg (by decide)]
 simp only[Array.getElem?_modify,Array.getElem?_push]
 by_cases hj:w.heap.size=j
 ·subst hj;simp
 ·simp[hj,Ne.symm hj]
theorem m_s2b {src dst e:TypeId}{x:Operand}(ho:o.op=.convert src dst x)(hs:P.underlying src=some .string)(hd:P.underlying dst=some (.slice e))(he:P.underlying e=some (.int .u8))(hsz:szOf P e=some 1)
  (hx:VRel P β (ev' x) (ρ x)){obj:CObj}(hp:aev (.s2b e x) ev' bi=some (obj,v)):Makes P ρ o β w bi obj v:=by
 simp only[aev] at hp
 split at hp
 case h_2=>cases hp
 rename_i s es
 simp only[Option.some.injEq,Prod.mk.injEq] at hp
 obtain⟨rfl,rfl⟩:=hp
 have q:=(es▸hx).string_inv
 generalize hcap:(Question.appendCap s.size 0 e).cut (w.tape w.drawn (.appendCap s.size 0 e))=cap
 have hle:s.size<=cap:=by rw[<-hcap];simp only[Question.cut];omega
 let c':Array Value:=(s.data.map fun b=>Value.int .u8 b.toNat)++Array.replicate (cap-s.size) (.int .u8 0)
 have hdsz:s.data.size=s.size:=rfl
 have hc'sz:c'.size=cap:=by simp only[c',Array.size_append,Array.size_map,Array.size_replicate,hdsz];omega
 have hlen:(s.data.toList.map fun c=>Value.int .u8 c.toNat).length=s.size:=by simp[hdsz]
 have hget:∀(k:Nat)(y:Value),(s.data.toList.map fun c=>Value.int .u8 c.toNat)[k]?=some y->∃y',c'[k]?=some y'/\VRel P β y y':=by
  intro k y hk
  have hkl:k<s.data.size:=by
   have:=(List.getElem?_eq_some_iff.1 hk).1
   rw[hlen] at this;exact this
  refine⟨y,?_,?_⟩
  ·show ((s.data.map fun b=>Value.int .u8 b.toNat)++Array.replicate (cap-s.size) (.int .u8 0))[k]?=some y
   rw[Array.getElem?_append_left (by simpa using hkl)]
   simpa using hk
  ·simp only[List.getElem?_map,Option.map_eq_some_iff] at hk
   obtain⟨b,_,rfl⟩:=hk
   exact .int _ _
 refine⟨.slice (some ⟨w.heap.size,0,none⟩) s.size cap,(w.drew.alloc (.cells c' e)).freeze ⟨w.heap.size,cap,none⟩ 1,⟨w.heap.size,0,c'.size,e,true⟩,.cells c' e (cap,cap+1),?_,freeze_push (w:=w.drew),?_,?_,?_,⟨rfl,rfl⟩,
  fun β' hle' hi=>⟨?_,row_rel (c':=c') (E:=e) (fr:=(cap,cap+1)) (by rw[hlen,hc'sz];exact hle) hget (.inr ⟨by rw[hc'sz];exact Nat.le_refl _,he⟩) hle'⟩⟩
 ·have hforced:(Question.appendCap s.size 0 e).forced=false:=rfl
  have hshape:(w.drew.alloc (.cells c' e)).shape? w.heap.size=some (e,c'.size):=by
   have hh:(w.drew.alloc (.cells c' e)).heap[w.heap.size]?=some (.cells c' e):=by show (w.heap.push _)[w.heap.size]?=_;simp
   unfold World.shape?;rw[hh]
  simp only[execOp,ho,q,convert,Sem.run_bind,r_und hs,r_und hd,r_und he,Result.andThen,Conv.stringToBytes,run_choose,hforced,Bool.false_eq_true,if_false,hcap,Go.newRow,run_newObj,Sem.run_pure,
   World.drew_eq,World.alloc_eq,World.size_drew,markStringish,run_shape]
  show _=_
  simp only[c'] at hshape
  rw[hshape]
  simp only[run_freeze,Sem.run_bind,Result.andThen,Sem.run_pure]
  simp only[c'] at hc'sz
  rw[hc'sz]
 case refine_5=>exact slice_new (sz:=1) hi (Nat.le_refl _) hle (.inr ⟨hsz,by rw[hc'sz];omega⟩)
 all_goals (unfold World.freeze;rw[if_neg (by decide)];rfl)
end ops
end Go.Cn
namespace Go.Cn
set_option linter.unusedVariables false
set_option linter.unusedSimpArgs false
section ops
variable {P:Program}{β:Ren}{σ:CW}{w:World}{ev' ρ:Operand->Value}{o:Oper}{v:Value}{σ':CW}
theorem put_row {σ:CW}{a:Addr}{vs:List Value}{σ':CW}(h:σ.put a vs=some σ'):a.spot=none/\a=⟨a.block,a.off,none⟩:=by
 unfold CW.put at h
 split at h
 ·cases h
 ·rename_i hs;exact⟨hs,by cases a;simp_all⟩
theorem r_storeVar {t:TypeId}{a:Addr}{x:Value}{n:Nat}(hn:szOf P t=some n)(hx:x.cells.size=n){w':World}(h:(storeCells a x.cells.toList).run P w=.ok () w'):(storeVar t a x).run P w=.ok () w':=by
 simp[storeVar,r_size hn,hx,h]
theorem e_store {t:TypeId}{a x:Operand}{n:Nat}(h:Rel P β σ w)(ho:o.op=.store t a x)(hn:szOf P t=some n)(ha:VRel P β (ev' a) (ρ a))(hx:VRel P β (ev' x) (ρ x))
  {ad:Addr}(had:ev' a=.pointer (some ad))(hl:(cellsOf (ev' x)).length=n)(hp:σ.put ad (cellsOf (ev' x))=some σ'):Does P ρ o β σ w cundef σ':=by
 obtain⟨hs,hae⟩:=put_row hp
 obtain⟨_,i,hi,q⟩:=(had▸ha).ptr_inv
 have hc:=hx.cells
 rw[hae] at hp
 obtain⟨w',h1,h2⟩:=h.put hi hp hc
 refine⟨.skip,w',β,?_,.inr ⟨rfl,rfl⟩,h2⟩
 have hsz:(ρ x).cells.size=n:=by rw[<-hl];exact (lrel_size hc).symm
 simp[execOp,ho,q,Instr.storeAt,Instr.sureAddr,r_storeVar hn hsz h1]
theorem e_st1 {t:TypeId}{a x:Operand}(h:Rel P β σ w)(ho:o.op=.store t a x)(hn:szOf P t=some 1)(ha:VRel P β (ev' a) (ρ a))(hx:VRel P β (ev' x) (ρ x))
  (hp:eev (.st1 a x) ev' σ=some (v,σ')):Does P ρ o β σ w v σ':=by
 simp only[eev] at hp
 split at hp
 case h_2=>cases hp
 rename_i ad had
 split at hp
 case h_2=>cases hp
 rename_i u hu
 split at hp
 case h_2=>cases hp
 rename_i σ1 hput
 simp only[Option.some.injEq,Prod.mk.injEq] at hp
 obtain⟨rfl,rfl⟩:=hp
 exact e_store h ho hn ha hx had (by rw[hu];rfl) (by rw[hu];exact hput)
theorem e_stN {t:TypeId}{a x:Operand}{n:Nat}(h:Rel P β σ w)(ho:o.op=.store t a x)(hn:szOf P t=some n)(ha:VRel P β (ev' a) (ρ a))(hx:VRel P β (ev' x) (ρ x))
  (hp:eev (.stN n a x) ev' σ=some (v,σ')):Does P ρ o β σ w v σ':=by
 simp only[eev] at hp
 split at hp
 case h_2=>cases hp
 rename_i ad had
 split at hp
 case isFalse=>cases hp
 rename_i hl
 split at hp
 case h_2=>cases hp
 rename_i σ1 hput
 simp only[Option.some.injEq,Prod.mk.injEq] at hp
 obtain⟨rfl,rfl⟩:=hp
 exact e_store h ho hn ha hx had hl hput
theorem Rel.other {r:Nat}{o1:CObj}{i:BI}(h:Rel P β σ w)(hr:σ.heap r=some o1)(h1:isRow o1=false)(hi:β r=some i):∀n j,n≠r->β n=some j->j.B=i.B->σ.heap n=some .dead:=by
 intro n j hn hj hB
 obtain⟨_,ha⟩:=h.alias n r j i hn hj hi hB
 rw[hr] at ha
 obtain⟨o,ho⟩:=h.here n j hj
 rw[ho] at ha ⊢
 cases o with
 |dead=>rfl
 |cells _ _ _ _=>cases o1<;>first|cases h1;done|exact ha.elim
 |map _ _=>cases o1<;>first|cases h1;done|exact ha.elim
 |iter _ _ _=>cases o1<;>first|cases h1;done|exact ha.elim
 |loop _ _ _ _ _ _=>cases o1<;>first|cases h1;done|exact ha.elim
def isCells:CObj->Bool
 |.cells _ _ _ _=>true
 |_=>false
theorem Rel.setO {r:Nat}{o1 o2:CObj}{i:BI}{o2':Obj}{w':World}(h:Rel P β σ w)(hr:σ.heap r=some o1)(h1:isRow o1=false)(h2:isCells o2=false)(hro:σ.ro<=r)(hi:β r=some i)
  (hu:UpdB w w' i.B o2')(hm:ObjRel P β i o2 (some o2'))(hit:Iters β (σ.set r o2) w'):Stp P β σ w β (σ.set r o2) w':=by
 have other:=h.other hr h1 hi
 have hinv:=h.inv
 exact
 {le:=.refl _
  new:=fun _ _ h=>.inl h
  next:=Nat.le_refl _
  ro:=rfl
  inj:=rfl
  cfr:=by
   intro b hb hn
   show upd σ.heap r _ b=_\/_
   rw[upd_ne _ _ (fun e=>by rw[e,hi] at hn;cases hn)]
   exact .inl rfl
  size:=by rw[hu.size];exact Nat.le_refl _
  afr:=by intro B hB hne;rw[hu.get,if_neg (fun e=>hne r i hi hro e.symm)]
  os:=hu.os
  out:=hu.out
  tape:=hu.tape
  rel:=
  {wr:=h.wr
   inv:=
   {fresh:=by
     intro b hb
     show upd σ.heap r _ b=none
     have hb2:σ.next<=b:=hb
     rw[upd_ne _ _ (fun e=>by subst e;have:=heap_lt hinv hr;omega)]
     exact hinv.fresh b hb2
    mem:=by
     intro b c E cl rel hb
     have hb':upd σ.heap r (some o2) b=some (.cells c E cl rel):=hb
     by_cases hbr:b=r
     ·subst hbr;rw[upd_same] at hb';cases hb';cases h2
     ·rw[upd_ne _ _ hbr] at hb'
      have hm:=hinv.mem b c E cl rel hb'
      refine⟨?_,hm.2⟩
      unfold CW.members at hm ⊢
      show _∈(match σ.cls cl with|some l=>l|none=>(match upd σ.heap r (some o2) cl with|some (.cells l _ _ _)=>[(cl,l.length)]|_=>[]))
      cases hc:σ.cls cl with
      |some l=>rw[hc] at hm;exact hm.1
      |none=>
       rw[hc] at hm
       by_cases hcr:cl=r
       ·subst hcr;rw[hr] at hm;refine absurd hm.1 ?_;cases o1<;>first|cases h1;done|exact List.not_mem_nil
       ·simp only[upd_ne _ _ hcr];exact hm.1
    cls:=hinv.cls
    rol:=hinv.rol}
   lt:=fun n j hn=>⟨(h.lt n j hn).1,by rw[hu.size];exact (h.lt n j hn).2⟩
   obj:=by
    intro n j o hn ho
    have ho':upd σ.heap r (some o2) n=some o:=ho
    by_cases hnr:n=r
    ·subst hnr
     rw[upd_same] at ho';cases ho'
     rw[hi] at hn;cases hn
     rw[hu.get,if_pos rfl];exact hm
    ·rw[upd_ne _ _ hnr] at ho'
     by_cases hB:j.B=i.B
     ·rw[other n j hnr hn hB] at ho';cases ho';trivial
     ·rw[hu.get,if_neg hB];exact h.obj n j o hn ho'
   alias:=by
    intro b1 b2 i1 i2 hne h1 h2 hBB
    have ha:=h.alias b1 b2 i1 i2 hne h1 h2 hBB
    unfold AliasOk at ha ⊢
    refine⟨ha.1,?_⟩
    show match upd σ.heap r (some o2) b1,upd σ.heap r (some o2) b2 with|some .dead,_=>True|_,some .dead=>True|some (.cells _ _ c1 r1),some (.cells _ _ c2 r2)=>(b1<σ.ro/\((σ.inj<=b1/\σ.inj<=b2)\/i1.sh≠i2.sh))\/(σ.ro<=b1/\c1=c2/\i1.sh+r2=i2.sh+r1)|_,_=>False
    by_cases e1:b1=r
    ·subst e1
     rw[hi] at h1;cases h1
     have hd:=other b2 i2 (Ne.symm hne) h2 hBB.symm
     rw[upd_same,upd_ne _ _ (Ne.symm hne),hd]
     cases o2<;>trivial
    ·by_cases e2:b2=r
     ·subst e2
      rw[hi] at h2;cases h2
      have hd:=other b1 i1 hne h1 hBB
      rw[upd_same,upd_ne _ _ e1,hd]
      trivial
     ·rw[upd_ne _ _ e1,upd_ne _ _ e2];exact ha.2
   here:=by
    intro n j hn
    show ∃o,upd σ.heap r (some o2) n=some o
    by_cases hnr:n=r
    ·subst hnr;rw[upd_same];exact⟨_,rfl⟩
    ·rw[upd_ne _ _ hnr];exact h.here n j hn
   iters:=hit}}
theorem Rel.setMap {r ver:Nat}{es es2:List (Value×Value)}{i:BI}{es2':Array MapEntry}{clock:Nat}{w':World}(h:Rel P β σ w)(hr:σ.heap r=some (.map es ver))(hro:σ.ro<=r)(hi:β r=some i)
  (hu:UpdB w w' i.B (.map es2' clock))(hm:MapRel P β es2 es2')(hb:Born es2' clock):Stp P β σ w β {σ with heap:=upd σ.heap r (some (.map es2 (ver+1)))} w':=by
 have other:=h.other hr rfl hi
 refine h.setO hr rfl rfl hro hi hu ⟨hm,hb⟩ ?_
 intro n ir m v seen hn ho
 have ho':upd σ.heap r (some (.map es2 (ver+1))) n=some (.iter (some m) v seen):=ho
 have hnr:n≠r:=by intro e;subst e;rw[upd_same] at ho';cases ho'
 rw[upd_ne _ _ hnr] at ho'
 obtain⟨im,since,seen',last,a1,a2,a3,a4,a5⟩:=h.iters n ir m v seen hn ho'
 refine⟨im,since,seen',last,a1,?_,a3,a4,fun es0 v0 hm0=>?_⟩
 ·rw[hu.get,if_neg]
  ·exact a2
  ·intro e;rw[other n ir hnr hn e] at ho';cases ho'
 ·have hm0':upd σ.heap r (some (.map es2 (ver+1))) m=some (.map es0 v0):=hm0
  by_cases hmr:m=r
  ·subst hmr
   rw[upd_same] at hm0';cases hm0'
   obtain⟨b1,_⟩:=a5 es ver hr
   exact⟨by omega,fun e=>by omega⟩
  ·rw[upd_ne _ _ hmr] at hm0'
   obtain⟨b1,b2⟩:=a5 es0 v0 hm0'
   refine⟨b1,fun e=>?_⟩
   obtain⟨es',clock',c1,c2⟩:=b2 e
   refine⟨es',clock',?_,c2⟩
   rw[hu.get,if_neg]
   ·exact c1
   ·intro e;rw[other m im hmr a1 e] at hm0';cases hm0'
theorem Born.push {es':Array MapEntry}{clock:Nat}(h:Born es' clock){e:MapEntry}(he:e.born=clock):Born (es'.push e) (clock+1):=by
 refine⟨fun x hx=>?_,?_⟩
 ·simp only[Array.toList_push,List.mem_append,List.mem_singleton] at hx
  rcases hx with hx|rfl
  ·have:=h.1 x hx;omega
  ·omega
 ·simp only[Array.toList_push,List.map_append,List.map_cons,List.map_nil]
  rw[List.nodup_append]
  refine⟨h.2,by simp,fun a ha b hb=>?_⟩
  rw[List.mem_singleton] at hb
  obtain⟨x,hx,rfl⟩:=List.mem_map.1 ha
  have:=h.1 x hx
  omega
theorem Born.sub {es' es2:Array MapEntry}{clock:Nat}(h:Born es' clock)(hs:(es2.toList.map (·.born)).Sublist (es'.toList.map (·.born))):Born es2 clock:=by
 refine⟨fun x hx=>?_,h.2.sublist hs⟩
 have:x.born∈es'.toList.map (·.born):=hs.subset (List.mem_map.2 ⟨x,hx,rfl⟩)
 obtain⟨y,hy,e⟩:=List.mem_map.1 this
 rw[<-e];exact h.1 y hy
theorem r_setMap {B:Nat}{es' es2':Array MapEntry}{clock clock2:Nat}(h:w.heap[B]?=some (.map es' clock)) :
  ∃w',(setObj B (.map es2' clock2)).run P w=.ok () w'/\UpdB w w' B (.map es2' clock2):=by
 refine⟨{w with heap:=w.heap.setIfInBounds B (.map es2' clock2)},by simp[setObj,Sem.run,h],⟨by simp,fun j=>?_,rfl,rfl,rfl⟩⟩
 have hlt:=lt_of_get h
 by_cases hj:j=B
 ·subst hj;simp[hlt]
 ·rw[if_neg hj];simp[Array.getElem?_setIfInBounds_ne (Ne.symm hj)]
theorem mput_none {k v:Value}:∀{es es2:List (Value×Value)},mput k v es=some es2->(∀x∈es,keyEq k x.1=some false)->es2=es++[(k,v)]
 |[],es2,h,_=>by cases h;rfl
 |(k',v')::es,es2,h,hn=>by
  have:=hn (k',v') (by simp)
  simp only[mput,this] at h
  split at h
  ·rename_i r hr;cases h;rw[mput_none hr fun x hx=>hn x (by simp[hx])];rfl
  ·cases h
theorem mput_some {k v v0:Value}:∀{pre post es2:List (Value×Value)},mput k v (pre++(k,v0)::post)=some es2->(∀x∈pre,keyEq k x.1=some false)->keyEq k k=some true->es2=pre++(k,v)::post
 |[],post,es2,h,_,hk=>by simp only[List.nil_append,mput,hk] at h;cases h;rfl
 |(k',v')::pre,post,es2,h,hn,hk=>by
  have:=hn (k',v') (by simp)
  simp only[List.cons_append,mput,this] at h
  split at h
  ·rename_i r hr;cases h;rw[mput_some hr (fun x hx=>hn x (by simp[hx])) hk];rfl
  ·cases h
theorem mput_look {k v:Value}:∀{es es2:List (Value×Value)},mput k v es=some es2->∃r,look k es=some r
 |[],es2,h=>⟨none,rfl⟩
 |(k',v')::es,es2,h=>by
  unfold mput at h
  split at h
  ·rename_i e;simp only[look,e];exact⟨_,rfl⟩
  ·rename_i e
   simp only[look,e]
   split at h
   ·rename_i r hr;exact mput_look hr
   ·cases h
  ·cases h
theorem mdel_look {k:Value}:∀{es es2:List (Value×Value)},mdel k es=some es2->∃r,look k es=some r
 |[],es2,h=>⟨none,rfl⟩
 |(k',v')::es,es2,h=>by
  unfold mdel at h
  split at h
  ·rename_i e;simp only[look,e];exact⟨_,rfl⟩
  ·rename_i e
   simp only[look,e]
   split at h
   ·rename_i r hr;exact mdel_look hr
   ·cases h
  ·cases h
theorem mdel_none {k:Value}:∀{es es2:List (Value×Value)},mdel k es=some es2->(∀x∈es,keyEq k x.1=some false)->es2=es
 |[],es2,h,_=>by cases h;rfl
 |(k',v')::es,es2,h,hn=>by
  have:=hn (k',v') (by simp)
  simp only[mdel,this] at h
  split at h
  ·rename_i r hr;cases h;rw[mdel_none hr fun x hx=>hn x (by simp[hx])]
  ·cases h
theorem mdel_some {k v0:Value}:∀{pre post es2:List (Value×Value)},mdel k (pre++(k,v0)::post)=some es2->(∀x∈pre,keyEq k x.1=some false)->keyEq k k=some true->es2=pre++post
 |[],post,es2,h,_,hk=>by simp only[List.nil_append,mdel,hk] at h;cases h;rfl
 |(k',v')::pre,post,es2,h,hn,hk=>by
  have:=hn (k',v') (by simp)
  simp only[List.cons_append,mdel,this] at h
  split at h
  ·rename_i r hr;cases h;rw[mdel_some hr (fun x hx=>hn x (by simp[hx])) hk];rfl
  ·cases h
theorem perm_split {pre post:List (Value×Value)}{k v0:Value}{es':Array MapEntry}{j:Nat}{e:MapEntry}(hm:MapRel P β (pre++(k,v0)::post) es')(hj:es'[j]?=some e)(hk:e.key=k)
  (ho:∀x∈pre++post,keyEq k x.1=some false):∃p q,ERel P β pre p/\ERel P β post q/\(es'.toList.take j++es'.toList.drop (j+1)).Perm (p++q):=by
 obtain⟨hkeys,l,hp,hr⟩:=hm
 obtain⟨p,e1,q,rfl,h1,h2,h3,h4⟩:=ERel.split hr
 refine⟨p,q,h1,h4,?_⟩
 have hjl:j<es'.toList.length:=by have:=(Array.getElem?_eq_some_iff.1 hj).1;simpa using this
 have hje:es'.toList[j]=e:=by have:=(Array.getElem?_eq_some_iff.1 hj).2;simpa using this
 have hsp:es'.toList=es'.toList.take j++e::es'.toList.drop (j+1):=by
  rw[<-hje, <-List.drop_eq_getElem_cons hjl,List.take_append_drop]
 have hmem:e∈p++e1::q:=hp.mem_iff.1 (by rw[hsp];simp)
 have hee:e=e1:=by
  have hno:∀x∈p++q,x.key≠k:=by
   intro x hx he
   have:∃u,(x.key,u)∈pre++post/\VRel P β u x.val:=by
    rcases List.mem_append.1 hx with hx|hx
    ·obtain⟨u,g1,g2⟩:=h1.mem hx;exact⟨u,List.mem_append_left _ g1,g2⟩
    ·obtain⟨u,g1,g2⟩:=h4.mem hx;exact⟨u,List.mem_append_right _ g1,g2⟩
   obtain⟨u,g1,_⟩:=this
   exact keyEq_false_ne (ho _ g1) he.symm
  rcases List.mem_append.1 hmem with hx|hx
  ·exact absurd hk (hno e (List.mem_append_left _ hx))
  ·rcases List.mem_cons.1 hx with hx|hx
   ·exact hx
   ·exact absurd hk (hno e (List.mem_append_right _ hx))
 subst hee
 have h5:(e::(es'.toList.take j++es'.toList.drop (j+1))).Perm (e::(p++q)):=by
  refine List.Perm.trans ?_ (hp.trans (List.perm_middle))
  conv=>rhs;rw[hsp]
  exact List.perm_middle.symm
 exact h5.cons_inv
theorem keysOk_mid {pre post:List (Value×Value)}{k v0 v:Value}(h:KeysOk (pre++(k,v0)::post)):KeysOk (pre++(k,v)::post):=by
 unfold KeysOk at h ⊢
 rw[List.pairwise_append] at h ⊢
 obtain⟨h1,h2,h3⟩:=h
 rw[List.pairwise_cons] at h2 ⊢
 refine⟨h1,⟨h2.1,h2.2⟩,fun x hx y hy=>?_⟩
 rcases List.mem_cons.1 hy with rfl|hy
 ·exact h3 x hx (k,v0) (by simp)
 ·exact h3 x hx y (by simp[hy])
theorem keysOk_rm {pre post:List (Value×Value)}{x:Value×Value}(h:KeysOk (pre++x::post)):KeysOk (pre++post):=by
 unfold KeysOk at h ⊢
 exact h.sublist (List.Sublist.append (List.Sublist.refl _) (List.sublist_cons_self x post))
theorem keysOk_snoc {es:List (Value×Value)}{k v:Value}(h:KeysOk es)(hn:∀x∈es,keyEq k x.1=some false):KeysOk (es++[(k,v)]):=by
 unfold KeysOk at h ⊢
 rw[List.pairwise_append]
 refine⟨h,List.pairwise_singleton _ _,fun x hx y hy=>?_⟩
 rw[List.mem_singleton] at hy
 subst hy
 exact keyEq_symm_false (hn x hx)
theorem run_keyStays {k:Value}{str:Bool}(h:isKey str k=true):(Instr.keyThatStays k k).run P w=.ok k w:=by
 have:Instr.sameBits 10000 k k=true:=by
  unfold isKey at h
  split at h
  ·rw[Instr.sameBits];rw[ba_beq]
  ·rw[Instr.sameBits];simp
  ·cases h
 unfold Instr.keyThatStays
 rw[if_pos this];rfl
theorem e_mapupd {t kt e:TypeId}{d:TypeDesc}{str:Bool}{m k x:Operand}(h:Rel P β σ w)(ho:o.op=.mapUpdate t m k x\/o.op=.insert t m k x)(ht:P.underlying t=some (.map kt e))(hkt:P.underlying kt=some d)(hd:KeyKind d str)
  (hm:VRel P β (ev' m) (ρ m))(hk:VRel P β (ev' k) (ρ k))(hx:VRel P β (ev' x) (ρ x))(hp:eev (.mapupd str m k x) ev' σ=some (v,σ')):Does P ρ o β σ w v σ':=by
 simp only[eev] at hp
 split at hp
 case h_2=>cases hp
 rename_i r em
 split at hp
 case h_2=>cases hp
 rename_i es ver hr
 split at hp
 case isFalse=>cases hp
 rename_i hcond
 obtain⟨hkey,hro⟩:=hcond
 split at hp
 case h_2=>cases hp
 rename_i es2 hput
 simp only[Option.some.injEq,Prod.mk.injEq] at hp
 obtain⟨rfl,rfl⟩:=hp
 obtain⟨i,hi,q⟩:=(em▸hm).map_inv
 obtain⟨es',clock,hB,hmr,hbo⟩:=h.mapB hr hi
 have qk:=isKey_rel hkey hk
 obtain⟨lr,hlook⟩:=mput_look hput
 have hck:∀b,(Instr.checkKey b 10000 kt (ρ k)).run P w=.ok () w:=fun b=>run_checkKey (n:=9999) hkt hd
 have hex:∀w',(Instr.mapUpdate t (.map (some i.B)) (ρ k) (ρ x)).run P w=.ok () w'->(execOp ρ o).run P w=.ok .skip w':=by
  intro w' hw'
  rcases ho with ho|ho<;>simp only[execOp,ho,q,Sem.run_bind,hw',Result.andThen]<;>rfl
 rcases hmr.look hd hkey hlook with⟨rfl,hf,hno⟩|⟨v0,pre,post,j,en,rfl,rfl,hj,hek,_,hf,hoth⟩
 ·have hes2:=mput_none hput hno
  subst hes2
  have hfk:=run_findKey (P:=P) (w:=w) hkt (qk▸hf)
  obtain⟨w',hw',hu⟩:=r_setMap (P:=P) (es2':=es'.push {key:=ρ k,val:=ρ x,born:=clock}) (clock2:=clock+1) hB
  refine⟨.skip,w',β,hex w' ?_,.inr ⟨rfl,rfl⟩,h.setMap hr hro hi hu ?_ (hbo.push rfl)⟩
  ·simp only[Instr.mapUpdate,Sem.run_bind,r_und ht,Result.andThen,r_getMap hB,hck,hfk,hw']
  ·obtain⟨hkeys,l,hpm,hrel⟩:=hmr
   refine⟨keysOk_snoc hkeys hno,l++[{key:=ρ k,val:=ρ x,born:=clock}],?_,hrel.append (.cons qk hx .nil)⟩
   simp only[Array.toList_push]
   exact hpm.append_right _
 ·have hes2:=mput_some hput (fun y hy=>hoth y (by simp[hy])) (keyEq_self hkey)
  subst hes2
  have hfk:=run_findKey (P:=P) (w:=w) hkt (qk▸hf)
  obtain⟨w',hw',hu⟩:=r_setMap (P:=P) (es2':=es'.modify j fun e=>{e with key:=ρ k,val:=ρ x}) (clock2:=clock) hB
  have hbo2:Born (es'.modify j fun e=>{e with key:=ρ k,val:=ρ x}) clock:=by
   refine hbo.sub ?_
   have:(es'.modify j fun e=>{e with key:=ρ k,val:=ρ x}).toList.map (·.born)=es'.toList.map (·.born):=by
    apply List.ext_getElem?
    intro n
    simp only[List.getElem?_map,Array.getElem?_toList,Array.getElem?_modify]
    split
    ·cases es'[n]?<;>rfl
    ·rfl
   rw[this];exact List.Sublist.refl _
  refine⟨.skip,w',β,hex w' ?_,.inr ⟨rfl,rfl⟩,h.setMap hr hro hi hu ?_ hbo2⟩
  ·have hks:(Instr.keyThatStays (((es'[j]?).map (·.key)).getD (ρ k)) (ρ k)).run P w=.ok (ρ k) w:=by
    rw[hj]
    simp only[Option.map_some,Option.getD_some,hek]
    rw[qk];exact run_keyStays hkey
   simp only[Instr.mapUpdate,Sem.run_bind,r_und ht,Result.andThen,r_getMap hB,hck,hfk,hks,hw']
  ·obtain⟨p,q',h1,h2,h3⟩:=perm_split hmr hj hek hoth
   refine⟨keysOk_mid hmr.1,p++{en with key:=ρ k,val:=ρ x}::q',?_,h1.append (.cons qk hx h2)⟩
   have hjl:j<es'.size:=(Array.getElem?_eq_some_iff.1 hj).1
   have hmod:(es'.modify j fun e=>{e with key:=ρ k,val:=ρ x}).toList=es'.toList.take j++{en with key:=ρ k,val:=ρ x}::es'.toList.drop (j+1):=by
    apply List.ext_getElem?
    intro n
    simp only[Array.getElem?_toList,Array.getElem?_modify]
    have hjl':j<=es'.toList.length:=by simp;omega
    by_cases hn:j=n
    ·subst hn
     rw[if_pos rfl,hj,List.getElem?_append_right (by simp;omega)]
     simp[Nat.min_eq_left (Nat.le_of_lt hjl)]
    ·rw[if_neg hn]
     by_cases hlt:n<j
     ·rw[List.getElem?_append_left (by simp;omega),List.getElem?_take,if_pos hlt];simp
     ·rw[List.getElem?_append_right (by simp;omega)]
      have:n-(es'.toList.take j).length=(n-(j+1))+1:=by simp;omega
      rw[this,List.getElem?_cons_succ,List.getElem?_drop]
      have:j+1+(n-(j+1))=n:=by omega
      rw[this];simp
   rw[hmod]
   refine List.perm_middle.trans (List.Perm.trans ?_ List.perm_middle.symm)
   exact h3.cons _
theorem e_delete {c:Call}{t u kt e:TypeId}{d:TypeDesc}{str:Bool}{m k:Operand}(h:Rel P β σ w)(ho:o.op=.call c)(hc:c.callee=.builtin .delete)(hat:c.argTypes= #[t,u])(ha:c.args= #[m,k])(ht:P.underlying t=some (.map kt e))
  (hkt:P.underlying kt=some d)(hd:KeyKind d str)(hm:VRel P β (ev' m) (ρ m))(hk:VRel P β (ev' k) (ρ k))(hp:eev (.delete str m k) ev' σ=some (v,σ')):Does P ρ o β σ w v σ':=by
 have hck:∀b,(Instr.checkKey b 10000 kt (ρ k)).run P w=.ok () w:=fun b=>run_checkKey (n:=9999) hkt hd
 have hex:∀w' y,(Builtin.delete_ #[t,u] o.type #[ρ m,ρ k]).run P w=.ok y w'->(execOp ρ o).run P w=.ok (.value y) w':=by
  intro w' y hw'
  simp[execOp,ho,resolve,hc,ha,hat,invoke,builtin,hw']
 simp only[eev] at hp
 split at hp
 ·rename_i r em
  split at hp
  case h_2=>cases hp
  rename_i es ver hr
  split at hp
  case isFalse=>cases hp
  rename_i hcond
  obtain⟨hkey,hro⟩:=hcond
  split at hp
  case h_2=>cases hp
  rename_i es2 hdel
  simp only[Option.some.injEq,Prod.mk.injEq] at hp
  obtain⟨rfl,rfl⟩:=hp
  obtain⟨i,hi,q⟩:=(em▸hm).map_inv
  obtain⟨es',clock,hB,hmr,hbo⟩:=h.mapB hr hi
  have qk:=isKey_rel hkey hk
  obtain⟨lr,hlook⟩:=mdel_look hdel
  rcases hmr.look hd hkey hlook with⟨rfl,hf,hno⟩|⟨v0,pre,post,j,en,rfl,rfl,hj,hek,_,hf,hoth⟩
  ·have hes2:=mdel_none hdel hno
   subst hes2
   have hfk:=run_findKey (P:=P) (w:=w) hkt (qk▸hf)
   obtain⟨w',hw',hu⟩:=r_setMap (P:=P) (es2':=es') (clock2:=clock) hB
   refine⟨.value (.tuple #[]),w',β,hex w' _ ?_,.inl ⟨_,rfl,.undef⟩,h.setMap hr hro hi hu hmr hbo⟩
   simp[Builtin.delete_,r_und ht,q,r_getMap hB,hck,hfk,hw']
  ·have hes2:=mdel_some hdel (fun y hy=>hoth y (by simp[hy])) (keyEq_self hkey)
   subst hes2
   have hfk:=run_findKey (P:=P) (w:=w) hkt (qk▸hf)
   obtain⟨w',hw',hu⟩:=r_setMap (P:=P) (es2':=es'.eraseIdxIfInBounds j) (clock2:=clock) hB
   have hbo2:Born (es'.eraseIdxIfInBounds j) clock:=by
    refine hbo.sub (List.Sublist.map _ ?_)
    have hjl:j<es'.size:=(Array.getElem?_eq_some_iff.1 hj).1
    rw[Array.eraseIdxIfInBounds,dif_pos hjl]
    simp only[Array.toList_eraseIdx]
    exact List.eraseIdx_sublist _ _
   refine⟨.value (.tuple #[]),w',β,hex w' _ ?_,.inl ⟨_,rfl,.undef⟩,h.setMap hr hro hi hu ?_ hbo2⟩
   ·simp[Builtin.delete_,r_und ht,q,r_getMap hB,hck,hfk,hw']
   ·obtain⟨p,q',h1,h2,h3⟩:=perm_split hmr hj hek hoth
    refine⟨keysOk_rm hmr.1,p++q',?_,h1.append h2⟩
    have hjl:j<es'.size:=(Array.getElem?_eq_some_iff.1 hj).1
    have:(es'.eraseIdxIfInBounds j).toList=es'.toList.take j++es'.toList.drop (j+1):=by
     rw[Array.eraseIdxIfInBounds,dif_pos hjl]
     simp[List.eraseIdx_eq_take_drop_succ]
    rw[this];exact h3
 ·rename_i em
  split at hp
  case isFalse=>cases hp
  simp only[Option.some.injEq,Prod.mk.injEq] at hp
  obtain⟨rfl,rfl⟩:=hp
  refine⟨.value (.tuple #[]),w,β,hex w _ ?_,.inl ⟨_,rfl,.undef⟩,.refl h⟩
  simp[Builtin.delete_,r_und ht,(em▸hm).nilMap_inv,hck]
 ·cases hp
end ops
end Go.Cn
namespace Go.Cn
set_option linter.unusedVariables false
set_option linter.unusedSimpArgs false
section ops
variable {P:Program}{β:Ren}{σ:CW}{w:World}{ev' ρ:Operand->Value}{o:Oper}{v:Value}{σ':CW}
theorem lenV_rel {x x':Value}{n:Nat}(h:lenV x=some n)(hx:VRel P β x x'):(Builtin.lenOf x').run P w=.ok n w:=by
 unfold lenV at h
 split at h
 ·rename_i a m c
  cases h
  cases a with
  |none=>obtain⟨rfl,_,rfl⟩:=hx.nilSlice_inv;rfl
  |some a=>obtain⟨_,_,a',c',rfl,_⟩:=hx.slice_inv;rfl
 ·cases h;rw[hx.string_inv];rfl
 ·cases h
theorem r_first {sz n m:Nat}{x x':Value}{l:List Value}(h:Rel P β σ w)(hx:VRel P β x x')(hm:lenV x=some m)(hn:n<=m)(hf:σ.first sz n x=some l) :
  ∃l',LRel P β l l'/\l.length=n*sz/\∀w1:World,w1.heap=w.heap->(Builtin.firstCells sz n x').run P w1=.ok l'.toArray w1:=by
 unfold CW.first at hf
 split at hf
 ·rename_i a len cap
  cases hm
  obtain⟨_,hlc,a',c',rfl,hcc,hor⟩:=hx.slice_inv
  split at hf
  ·rename_i hn0
   subst hn0
   cases hf
   refine⟨[],.nil,by simp,fun w1 _=>?_⟩
   simp[Builtin.firstCells,loadCells,loadCellsFrom]
  obtain⟨_,c,hr,hk⟩:=cells_some hf
  rcases hor with hz|⟨i,hi,rfl,_⟩
  ·have hn0:n=0:=by omega
   subst hn0
   obtain⟨_,rfl⟩:=takeAt_some hk
   refine⟨[],by simp;exact .nil,by simp,fun w1 _=>?_⟩
   simp[Builtin.firstCells,loadCells,loadCellsFrom]
  ·obtain⟨r',h1,h2,h3⟩:=h.loads hr hk hi
   exact⟨r',h1,h2,fun w1 hw=>by simp only[Builtin.firstCells];exact h3 w1 hw⟩
 ·rename_i len cap
  cases hm
  obtain⟨rfl,_,rfl⟩:=hx.nilSlice_inv
  cases hf
  have:n=0:=by omega
  subst this
  exact⟨[],.nil,by simp,fun _ _=>rfl⟩
 ·rename_i s
  split at hf
  ·rename_i hs1
   cases hf
   cases hm
   rw[hx.string_inv]
   subst hs1
   have hsz:s.data.size=s.size:=rfl
   refine⟨(s.data.toList.take n).map fun b=>.int .u8 b.toNat,LRel.map _ _ _ fun b _=>.int _ _,by simp[hsz];omega,fun w1 _=>?_⟩
   simp only[Builtin.firstCells,Sem.run_pure]
   congr 1
   apply Array.ext'
   simp[ByteArray.extract,ByteArray.copySlice]
  ·cases hf
 ·cases hf
theorem nextslicecap_le {need old:Nat}(h:old<need):Builtin.nextslicecap need old<=2*need+1000:=by
 unfold Builtin.nextslicecap
 split
 ·omega
 ·split
  ·omega
  ·have step:∀(r c:Nat),c<=2*need+1000->Builtin.growBy need r c<=2*need+1000:=by
    intro r
    induction r with
    |zero=>intro c hc;exact hc
    |succ r ih=>
     intro c hc
     unfold Builtin.growBy
     split
     ·exact hc
     ·exact ih _ (by omega)
   exact step 4 old (by omega)
theorem zeroCells_size {z:Array Value}{n:Nat}:(Builtin.zeroCells z n).size=n*z.size:=by simp[Builtin.zeroCells]
theorem r_append_in {t u e:TypeId}{d:TypeDesc}{sz n sLen sCap:Nat}{base:Option Addr}{x:Value}{new:List Value}{rt:TypeId}{w':World}(ht:P.underlying t=some (.slice e))(hu:P.underlying u=some d)(hd:∀k,d≠.int k)
  (hsz:szOf P e=some sz)(hn:(Builtin.lenOf x).run P w=.ok n w)(hf:(Builtin.firstCells sz n x).run P w=.ok new.toArray w)(hle:sLen+n<=sCap)
  (hs:∀a∈base,(storeCells (a.add (sLen*sz)) new).run P w=.ok () w')(hb:base=none->w'=w) :
  (Builtin.append_ #[t,u] rt #[.slice base sLen sCap,x]).run P w=.ok (.slice base (sLen+n) sCap) w':=by
 simp only[Builtin.append_,Sem.run_bind,List.getElem?_toArray,List.getElem?_cons_zero,List.getElem?_cons_succ,r_und ht,r_und hu,Result.andThen,r_size hsz,Sem.run_pure]
 cases d<;>first
  |exact absurd rfl (hd _)
  |(simp only[Bool.false_eq_true,if_false,Sem.run_bind,hn,Result.andThen,if_pos hle,Bool.not_false,if_true,hf]
    cases base with
    |none=>rw[hb rfl];rfl
    |some a=>simp only[Sem.run_bind,hs a rfl,Result.andThen,Sem.run_pure])
theorem r_append_new {t u e:TypeId}{d:TypeDesc}{sz b n sLen sCap:Nat}{z:Value}{base:Option Addr}{x:Value}{new old:List Value}{rt:TypeId}(ht:P.underlying t=some (.slice e))(hu:P.underlying u=some d)(hd:∀k,d≠.int k)
  (hsz:szOf P e=some sz)(hby:bytesOf P e=some b)(hb0:b≠0)(hz:zeroOf P e=some z)(hn:(Builtin.lenOf x).run P w=.ok n w)(hf:∀w1:World,w1.heap=w.heap->(Builtin.firstCells sz n x).run P w1=.ok new.toArray w1)
  (hold:∀w1:World,w1.heap=w.heap->(Builtin.firstCells sz sLen (.slice base sLen sCap)).run P w1=.ok old.toArray w1)(hgt:¬sLen+n<=sCap)(hcap:capOk (sLen+n) b) :
  ∃newCap,sLen+n<=newCap/\(Builtin.append_ #[t,u] rt #[.slice base sLen sCap,x]).run P w=
   .ok (.slice (some ⟨w.heap.size,0,none⟩) (sLen+n) newCap) (w.drew.alloc (.cells (old.toArray++new.toArray++Builtin.zeroCells z.cells (newCap-(sLen+n))) e)):=by
 obtain⟨inf,hi1,hi2⟩:=bytesOf_some hby
 refine⟨(Question.appendCap (sLen+n) sCap e).cut (w.tape w.drawn (.appendCap (sLen+n) sCap e)),by simp only[Question.cut];omega,?_⟩
 have g1:¬(((sLen+n:Nat):Int) > IntKind.i64.max/\(False\/inf.bytes=0)):=by
  rintro⟨_,h⟩
  rcases h with h|h
  ·exact h
  ·omega
 have g2:¬(Builtin.nextslicecap (sLen+n) sCap*inf.bytes > 2 ^ 48):=by
  have h1:=nextslicecap_le (need:=sLen+n) (old:=sCap) (by omega)
  have h2:=hcap.1
  rw[hi2]
  have h3:Builtin.nextslicecap (sLen+n) sCap*b<=(2*(sLen+n)+2000)*b:=Nat.mul_le_mul_right b (by omega)
  have:(2:Nat) ^ 48=281474976710656:=by decide
  omega
 have hforced:(Question.appendCap (sLen+n) sCap e).forced=false:=rfl
 simp only[Builtin.append_,Sem.run_bind,List.getElem?_toArray,List.getElem?_cons_zero,List.getElem?_cons_succ,r_und ht,r_und hu,Result.andThen,r_size hsz,Sem.run_pure]
 cases d<;>first
  |exact absurd rfl (hd _)
  |(simp only[Bool.false_eq_true,if_false,Sem.run_bind,hn,Result.andThen,if_neg hgt,r_info hi1,Result.andThen,if_neg g1,if_neg g2,run_choose,hforced,run_askRoom,World.drew_eq,hold w.drew rfl,hf w.drew rfl,Bool.not_false,if_true,r_zero hz,Go.newRow,run_newObj,Sem.run_pure,World.alloc_eq,World.size_drew])
theorem e_append {c:Call}{t u e:TypeId}{d:TypeDesc}{sz b:Nat}{z:Value}{s x:Operand}(h:Rel P β σ w)(ho:o.op=.call c)(hc:c.callee=.builtin .append)(hat:c.argTypes= #[t,u])(ha:c.args= #[s,x])
  (ht:P.underlying t=some (.slice e))(hu:P.underlying u=some d)(hd:∀k,d≠.int k)(hsz:szOf P e=some sz)(hby:bytesOf P e=some b)(hb0:b≠0)(hz:zeroP P e=some z)(hzl:(cellsOf z).length=sz)
  (hs:VRel P β (ev' s) (ρ s))(hx:VRel P β (ev' x) (ρ x))(hp:doAppend e sz b σ (ev' s) (ev' x)=some (v,σ')):Does P ρ o β σ w v σ':=by
 obtain⟨hz1,hz2⟩:=zeroP_some hz
 have hzsz:z.cells.size=sz:=by rw[<-hzl];exact (lrel_size (plain_cells (P:=P) (β:=β) hz2)).symm
 have hex:∀w' y,(Builtin.append_ #[t,u] o.type #[ρ s,ρ x]).run P w=.ok y w'->(execOp ρ o).run P w=.ok (.value y) w':=by
  intro w' y hw'
  simp[execOp,ho,resolve,hc,ha,hat,invoke,builtin,hw']
 unfold doAppend at hp
 split at hp
 case h_2=>cases hp
 rename_i base sLen sCap n es hln
 split at hp
 case h_2=>cases hp
 rename_i new hnew
 have hlen:=lenV_rel (P:=P) (w:=w) hln hx
 obtain⟨new',hn1,hn2,hn3'⟩:=r_first h hx hln (Nat.le_refl _) hnew
 have hn3:=hn3' w rfl
 split at hp
 ·
  rename_i hle
  split at hp
  ·simp only[Option.some.injEq,Prod.mk.injEq] at hp
   obtain⟨rfl,rfl⟩:=hp
   obtain⟨rfl,rfl,q⟩:=(es▸hs).nilSlice_inv
   have hn0:n=0:=by omega
   subst hn0
   refine⟨_,w,β,hex w _ ?_,.inl ⟨_,rfl,.nilSlice⟩,.refl h⟩
   rw[q]
   exact r_append_in ht hu hd hsz hlen hn3 (Nat.le_refl _) (by simp) (fun _=>rfl)
  ·rename_i a
   obtain⟨_,hlc,a',c',q,hcc,hor⟩:=(es▸hs).slice_inv
   split at hp
   ·rename_i hn0
    subst hn0
    simp only[Option.some.injEq,Prod.mk.injEq] at hp
    obtain⟨rfl,rfl⟩:=hp
    have hnil:new'=[]:=by
     have:new.length=0:=by rw[hn2];simp
     have:=hn1.1
     exact List.length_eq_zero_iff.1 (by omega)
    subst hnil
    refine⟨_,w,β,hex w (.slice (some a') (sLen+0) c') ?_,.inl ⟨_,rfl,?_⟩,.refl h⟩
    ·rw[q]
     exact r_append_in ht hu hd hsz hlen hn3 (by omega) (fun _ _=>rfl) (fun h=>by cases h)
    ·rw[es] at hs
     rw[q] at hs;exact hs
   ·rename_i hn0
    split at hp
    case h_2=>cases hp
    rename_i σ1 hput
    simp only[Option.some.injEq,Prod.mk.injEq] at hp
    obtain⟨rfl,rfl⟩:=hp
    rcases hor with hz0|⟨i,hi,rfl,hspan⟩
    ·omega
    ·obtain⟨hs1,hs2⟩:=put_row hput
     simp only at hs1
     rw[hs1] at hput
     obtain⟨w',k1,k2⟩:=h.put hi hput hn1
     refine⟨_,w',β,hex w' (.slice (some ⟨i.B,a.off+i.sh,none⟩) (sLen+n) c') ?_,.inl ⟨_,rfl,?_⟩,k2⟩
     ·rw[q]
      refine r_append_in ht hu hd hsz hlen hn3 (by omega) (fun y hy=>?_) (fun h=>by cases h)
      cases hy
      rw[Addr.add_none]
      rw[show a.off+i.sh+sLen*sz=a.off+sLen*sz+i.sh by omega];exact k1
     ·have ha:a=⟨a.block,a.off,none⟩:=by cases a;simp_all
      rw[ha]
      exact .slice hle hcc (.inr ⟨i,hi,rfl,hspan⟩)
 ·rename_i hgt
  split at hp
  case isFalse=>cases hp
  rename_i hcond
  obtain⟨hcapok,hone⟩:=hcond
  split at hp
  ·
   simp only[Option.some.injEq,Prod.mk.injEq] at hp
   obtain⟨rfl,rfl⟩:=hp
   obtain⟨rfl,rfl,q⟩:=(es▸hs).nilSlice_inv
   obtain⟨newCap,g1,g2⟩:=r_append_new (base:=none) (old:=[]) (rt:=o.type) ht hu hd hsz hby hb0 hz1 hlen hn3' (fun _ _=>rfl) hgt hcapok
   have hrow:(([]:List Value).toArray++new'.toArray++Builtin.zeroCells z.cells (newCap-(0+n))).size=newCap*sz:=by
    have:=hn1.1
    simp only[Array.size_append,List.size_toArray,zeroCells_size,hzsz,List.length_nil]
    have e1:newCap*sz=(newCap-(0+n))*sz+n*sz:=by rw[<-Nat.add_mul];congr 1;omega
    omega
   refine⟨_,w.drew.alloc (.cells (([]:List Value).toArray++new'.toArray++Builtin.zeroCells z.cells (newCap-(0+n))) e),_,hex _ _ (by rw[q];exact g2),.inl ⟨_,rfl,?_⟩,h.newRow (w':=w.drew.alloc (.cells (([]:List Value).toArray++new'.toArray++Builtin.zeroCells z.cells (newCap-(0+n))) e)) (fr:=(0,0)) (E:=e) (c':=([]:List Value).toArray++new'.toArray++Builtin.zeroCells z.cells (newCap-(0+n))) ?_ ?_ (.inl rfl) rfl rfl rfl rfl⟩
   ·exact slice_new (sz:=sz) (upd_same _ _ _) (Nat.le_refl _) g1 (.inr ⟨hsz,by rw[hrow];exact Nat.le_refl _⟩)
   ·rw[hrow,hn2];exact Nat.mul_le_mul_right sz (by omega)
   ·intro k y hk
    obtain⟨y',r1,r2⟩:=hn1.left hk
    refine⟨y',?_,r2⟩
    have hkl:k<new'.length:=(List.getElem?_eq_some_iff.1 r1).1
    rw[Array.getElem?_append_left (by simpa using hkl)]
    simpa using r1
  ·rename_i a
   split at hp
   case isFalse=>cases hp
   rename_i hc2
   obtain⟨hsp,hro⟩:=hc2
   split at hp
   case h_2=>cases hp
   rename_i row elem' cl rel hrow
   split at hp
   case isFalse=>cases hp
   rename_i hel
   subst hel
   split at hp
   case h_2=>cases hp
   rename_i old hold
   simp only[Option.some.injEq,Prod.mk.injEq] at hp
   obtain⟨rfl,rfl⟩:=hp
   obtain⟨_,hlc,a',c',q,hcc,hor⟩:=(es▸hs).slice_inv
   have hoL:old.length=sLen*sz:=by obtain⟨h1,rfl⟩:=takeAt_some hold;simp;omega
   have hrow':σ.row a.block=some row:=by unfold CW.row;rw[hrow]
   by_cases hle':sLen+n<=c'
   ·
    rcases hor with hz0|⟨i,hi,rfl,hspan⟩
    ·omega
    ·obtain⟨c1,fr,hB,hE,hN,hcN,hsoft,hcs⟩:=(h.obj _ i _ hi hrow).cells_inv
     have hspan':a.off+i.sh+c'*sz<=i.N:=by
      rcases hspan with hx1|⟨sz',hs1,hs2⟩
      ·omega
      ·rw[<-hE,hsz] at hs1;cases hs1;exact hs2
     have hfit:a.off+i.sh+sLen*sz+new.length<=i.N:=by
      rw[hn2]
      have e1:(sLen+n)*sz<=c'*sz:=Nat.mul_le_mul_right sz hle'
      have e2:(sLen+n)*sz=sLen*sz+n*sz:=Nat.add_mul _ _ _
      omega
     have hone':∀y∈new',y.oneCell'=true:=by
      intro y hy
      obtain⟨j,hj,rfl⟩:=List.getElem_of_mem hy
      have hj':j<new.length:=by rw[hn1.1];exact hj
      exact (hn1.2 j new[j] new'[j] (by simp) (by simp)).oneCell ((List.all_eq_true.1 hone) _ (by simp))
     obtain⟨w',c2,k1,k2,k3,k4⟩:=run_storeCells (P:=P) (off:=a.off+i.sh+sLen*sz) (B:=i.B) (E:=i.E) (fr:=fr) new' 0 w c1 hB hone'
      (by rw[hN, <-hn1.1];omega) (by rw[hN];exact (hsoft (h.wr.2 _ i hi (.inl hro))).cells)
     simp only[Nat.add_zero] at k4
     have hstp:=h.growIn (w':=w') (q:=sLen*sz) hi hrow hro hold hn1 hB k2 k3 (by omega) k4
     refine⟨_,w',_,hex w' (.slice (some ⟨i.B,a.off+i.sh,none⟩) (sLen+n) c') ?_,.inl ⟨_,rfl,?_⟩,hstp⟩
     ·rw[q]
      refine r_append_in ht hu hd hsz hlen hn3 hle' (fun y hy=>?_) (fun h=>by cases h)
      cases hy
      rw[Addr.add_none];exact k1
     ·refine .slice (Nat.le_refl _) hle' (.inr ⟨_,upd_same _ _ _,?_,.inr ⟨sz,by rw[<-hE];exact hsz,?_⟩⟩)
      ·simp
      ·simpa using hspan'
   ·
    have hold':∃old',LRel P β old old'/\∀w1:World,w1.heap=w.heap->(Builtin.firstCells sz sLen (.slice (some a') sLen c')).run P w1=.ok old'.toArray w1:=by
     rcases hor with hz0|⟨i,hi,rfl,_⟩
     ·have hs0:sLen=0:=by omega
      subst hs0
      have:old=[]:=List.length_eq_zero_iff.1 (by rw[hoL];simp)
      subst this
      refine⟨[],.nil,fun w1 _=>?_⟩
      simp[Builtin.firstCells,loadCells,loadCellsFrom]
     ·obtain⟨r',m1,_,m3⟩:=h.loads hrow' hold hi
      exact⟨r',m1,fun w1 hw1=>by simp only[Builtin.firstCells];exact m3 w1 hw1⟩
    obtain⟨old',m1,m2⟩:=hold'
    obtain⟨newCap,g1,g2⟩:=r_append_new (base:=some a') (rt:=o.type) ht hu hd hsz hby hb0 hz1 hlen hn3' m2 hle' hcapok
    have hrowsz:(old'.toArray++new'.toArray++Builtin.zeroCells z.cells (newCap-(sLen+n))).size=newCap*sz:=by
     have e0:=hn1.1
     have e2:=m1.1
     simp only[Array.size_append,List.size_toArray,zeroCells_size,hzsz]
     have e1:newCap*sz=(newCap-(sLen+n))*sz+(sLen+n)*sz:=by rw[<-Nat.add_mul];congr 1;omega
     have e3:(sLen+n)*sz=sLen*sz+n*sz:=Nat.add_mul _ _ _
     omega
    have hboth:=m1.append hn1
    have hnewo:ObjRel P (upd β σ.next (some ⟨w.heap.size,0,newCap*sz,elem',true⟩)) ⟨w.heap.size,0,newCap*sz,elem',true⟩ (.cells (old++new) elem' cl (rel+a.off))
      (some (.cells (old'.toArray++new'.toArray++Builtin.zeroCells z.cells (newCap-(sLen+n))) elem')):=by
     refine⟨rfl,rfl,hrowsz,?_,fun _=>.inl rfl,fun k y hk=>?_⟩
     ·show (old++new).length+0<=newCap*sz
      rw[List.length_append,hoL,hn2, <-Nat.add_mul]
      exact Nat.mul_le_mul_right sz g1
     ·obtain⟨y',r1,r2⟩:=hboth.left hk
      refine⟨y',?_,r2.mono (h.le_upd _)⟩
      have hkl:k<(old'++new').length:=(List.getElem?_eq_some_iff.1 r1).1
      show (old'.toArray++new'.toArray++Builtin.zeroCells z.cells (newCap-(sLen+n)))[k+0]?=some y'
      rw[Nat.add_zero,Array.getElem?_append_left (by simpa using hkl)]
      simpa using r1
    have hstp:=h.growNew (p:=rel+a.off+sLen*sz) (i:=⟨w.heap.size,0,newCap*sz,elem',true⟩) (w':=w.drew.alloc (.cells (old'.toArray++new'.toArray++Builtin.zeroCells z.cells (newCap-(sLen+n))) elem')) hrow hro rfl rfl rfl rfl rfl hnewo
    refine⟨_,_,_,hex _ _ (by rw[q];exact g2),.inl ⟨_,rfl,?_⟩,hstp⟩
    exact slice_new (sz:=sz) (upd_same _ _ _) (Nat.le_refl _) g1 (.inr ⟨hsz,Nat.le_refl _⟩)
end ops
end Go.Cn
namespace Go.Cn
set_option linter.unusedVariables false
set_option linter.unusedSimpArgs false
section ops
variable {P:Program}{β:Ren}{σ:CW}{w:World}{ev' ρ:Operand->Value}{o:Oper}{v:Value}{σ':CW}
theorem e_copy {c:Call}{t u e:TypeId}{sz:Nat}{d s:Operand}(h:Rel P β σ w)(ho:o.op=.call c)(hc:c.callee=.builtin .copy)(hat:c.argTypes= #[t,u])(ha:c.args= #[d,s])
  (ht:P.underlying t=some (.slice e))(hsz:szOf P e=some sz)(hd:VRel P β (ev' d) (ρ d))(hs:VRel P β (ev' s) (ρ s))(hp:eev (.copy sz d s) ev' σ=some (v,σ')):Does P ρ o β σ w v σ':=by
 have hex:∀w' y,(Builtin.copy_ #[t,u] o.type #[ρ d,ρ s]).run P w=.ok y w'->(execOp ρ o).run P w=.ok (.value y) w':=by
  intro w' y hw'
  simp[execOp,ho,resolve,hc,ha,hat,invoke,builtin,hw']
 simp only[eev] at hp
 split at hp
 case h_2=>cases hp
 rename_i base dLen dCap m ed hln
 split at hp
 case h_2=>cases hp
 rename_i vs hvs
 have hlen:=lenV_rel (P:=P) (w:=w) hln hs
 obtain⟨vs',h1,h2,h3⟩:=r_first h hs hln (Nat.min_le_left m dLen) hvs
 have hcopy:∀(base':Option Addr)(cap':Nat)(w':World),(∀a∈base',(storeCells a vs').run P w=.ok () w')->(base'=none->w'=w)->
   (Builtin.copy_ #[t,u] o.type #[.slice base' dLen cap',ρ s]).run P w=.ok (goInt (Nat.min m dLen)) w':=by
  intro base' cap' w' k1 k2
  simp only[Builtin.copy_,Sem.run_bind,List.getElem?_toArray,List.getElem?_cons_zero,List.getElem?_cons_succ,r_und ht,Result.andThen,hlen,r_size hsz,h3 w rfl,Sem.run_pure]
  cases base' with
  |none=>rw[k2 rfl];rfl
  |some a=>simp only[Sem.run_bind,k1 a rfl,Result.andThen,Sem.run_pure]
 split at hp
 ·simp only[Option.some.injEq,Prod.mk.injEq] at hp
  obtain⟨rfl,rfl⟩:=hp
  obtain⟨rfl,rfl,q⟩:=(ed▸hd).nilSlice_inv
  refine⟨_,w,β,hex w _ (by rw[q];exact hcopy none 0 w (by simp) (fun _=>rfl)),.inl ⟨_,rfl,.int _ _⟩,.refl h⟩
 ·rename_i a
  obtain⟨_,hlc,a',c',q,hcc,hor⟩:=(ed▸hd).slice_inv
  split at hp
  ·rename_i hnil
   simp only[Option.some.injEq,Prod.mk.injEq] at hp
   obtain⟨rfl,rfl⟩:=hp
   have:vs'=[]:=by have:=h1.1;rw[hnil] at this;exact List.length_eq_zero_iff.1 this.symm
   subst this
   refine⟨_,w,β,hex w _ (by rw[q];exact hcopy (some a') c' w (fun _ _=>rfl) (fun h=>by cases h)),.inl ⟨_,rfl,.int _ _⟩,.refl h⟩
  ·rename_i hnil
   split at hp
   case h_2=>cases hp
   rename_i σ1 hput
   simp only[Option.some.injEq,Prod.mk.injEq] at hp
   obtain⟨rfl,rfl⟩:=hp
   obtain⟨hs1,hs2⟩:=put_row hput
   have hpos:0<dLen:=by
    rcases Nat.eq_zero_or_pos dLen with h0|h0
    ·exfalso;apply hnil;apply List.length_eq_zero_iff.1;rw[h2,h0];simp
    ·exact h0
   rcases hor with hz0|⟨i,hi,rfl,hspan⟩
   ·omega
   ·rw[hs2] at hput
    obtain⟨w',k1,k2⟩:=h.put hi hput h1
    exact⟨_,w',β,hex w' _ (by rw[q];exact hcopy (some _) c' w' (fun y hy=>by cases hy;exact k1) (fun h=>by cases h)),.inl ⟨_,rfl,.int _ _⟩,k2⟩
theorem e_clearV {c:Call}{t e:TypeId}{z:Value}{s:Operand}(h:Rel P β σ w)(ho:o.op=.call c)(hc:c.callee=.builtin .clear)(hat:c.argTypes= #[t])(ha:c.args= #[s])
  (ht:P.underlying t=some (.slice e))(hz:zeroP P e=some z)(hz0:(cellsOf z).length≠0)(hs:VRel P β (ev' s) (ρ s))(hp:eev (.clearV (cellsOf z) s) ev' σ=some (v,σ')):Does P ρ o β σ w v σ':=by
 obtain⟨hz1,hz2⟩:=zeroP_some hz
 have hex:∀w' y,(Builtin.clear_ #[t] o.type #[ρ s]).run P w=.ok y w'->(execOp ρ o).run P w=.ok (.value y) w':=by
  intro w' y hw'
  simp[execOp,ho,resolve,hc,ha,hat,invoke,builtin,hw']
 simp only[eev] at hp
 split at hp
 ·rename_i l cp es
  simp only[Option.some.injEq,Prod.mk.injEq] at hp
  obtain⟨rfl,rfl⟩:=hp
  obtain⟨_,_,q⟩:=(es▸hs).nilSlice_inv
  refine⟨_,w,β,hex w (.tuple #[]) ?_,.inl ⟨_,rfl,.undef⟩,.refl h⟩
  simp[Builtin.clear_,r_und ht,q]
 ·rename_i a n cp es
  obtain⟨_,hlc,a',c',q,hcc,hor⟩:=(es▸hs).slice_inv
  split at hp
  ·rename_i hn0
   subst hn0
   simp only[Option.some.injEq,Prod.mk.injEq] at hp
   obtain⟨rfl,rfl⟩:=hp
   refine⟨_,w,β,hex w (.tuple #[]) ?_,.inl ⟨_,rfl,.undef⟩,.refl h⟩
   simp[Builtin.clear_,r_und ht,q]
  ·rename_i hn0
   split at hp
   case h_2=>cases hp
   rename_i σ1 hput
   simp only[Option.some.injEq,Prod.mk.injEq] at hp
   obtain⟨rfl,rfl⟩:=hp
   obtain⟨hs1,hs2⟩:=put_row hput
   rcases hor with hz0|⟨i,hi,rfl,hspan⟩
   ·omega
   ·rw[hs2] at hput
    have hzr:=zeros_rel (P:=P) (β:=β) hz2 rfl hz0 (len:=n)
    have hzc:(Builtin.zeroCells z.cells n).toList=((Array.range (n*(cellsOf z).length)).map (z.cells[· % z.cells.size]!)).toList:=by
     unfold Builtin.zeroCells
     rw[show z.cells.size=(cellsOf z).length from (lrel_size (plain_cells (P:=P) (β:=β) hz2)).symm]
    obtain⟨w',k1,k2⟩:=h.put hi hput hzr
    refine⟨_,w',β,hex w' (.tuple #[]) ?_,.inl ⟨_,rfl,.undef⟩,k2⟩
    obtain⟨m,rfl⟩ : ∃m,n=m+1:=⟨n-1,by omega⟩
    rw[<-hzc] at k1
    simp[Builtin.clear_,r_und ht,q,r_zero hz1,k1]
 ·cases hp
theorem Rel.mark {b:Nat}{i:BI}{c:List Value}{E:TypeId}{cl rel:Nat}{c1:Array Value}{fr:Nat×Nat}{w':World}(h:Rel P β σ w)(hb:β b=some i)(hro:σ.ro<=b)(hB:w.heap[i.B]?=some (.cells c1 i.E fr))
  {fr':Nat×Nat}(hs:Soft P i.E i.N fr')(hsz:c1.size=i.N)(hu:UpdB w w' i.B (.cells c1 i.E fr')):Stp P β σ w β σ w' where
 le:=.refl _
 new:=fun _ _ h=>.inl h
 next:=Nat.le_refl _
 ro:=rfl
 inj:=rfl
 cfr:=fun _ _ _=>.inl rfl
 size:=by rw[hu.size];exact Nat.le_refl _
 afr:=by intro B hB' hne;rw[hu.get,if_neg (fun e=>hne b i hb hro e.symm)]
 os:=hu.os
 out:=hu.out
 tape:=hu.tape
 rel:=
 {inv:=h.inv
  wr:=h.wr
  lt:=fun n j hn=>⟨(h.lt n j hn).1,by rw[hu.size];exact (h.lt n j hn).2⟩
  obj:=by
   intro n j o hn ho
   have hold:=h.obj n j o hn ho
   by_cases hjB:j.B=i.B
   ·rw[hu.get,if_pos hjB]
    cases o with
    |dead=>trivial
    |map es _=>rw[hjB,hB] at hold;exact hold.elim
    |iter _ _ _=>rw[hjB,hB] at hold;exact hold.elim
    |loop _ _ _ _ _ _=>rw[hjB,hB] at hold;exact hold.elim
    |cells cs E' cl' rel'=>
     rw[hjB,hB] at hold
     obtain⟨h1,h2,h3,h4,h5,h6⟩:=hold
     exact⟨h1,h2,h3,h4,fun _=>by rw[<-h2, <-h3,hsz];exact hs,h6⟩
   ·rw[hu.get,if_neg hjB];exact hold
  alias:=h.alias
  here:=h.here
  iters:=h.iters.keep (.refl _) (Nat.le_refl _) (fun _ _ h=>.inl h) (fun _ _ _ _ h _=>h) fun n j o hn ho hmi=>by
   by_cases hjB:j.B=i.B
   ·rw[hjB,hB] at ho;cases ho;cases hmi
   ·rw[hu.get,if_neg hjB];exact ho}
theorem freeze_upd {B n:Nat}{c:Array Value}{E:TypeId}{fr:Nat×Nat}(h:w.heap[B]?=some (.cells c E fr)) :
  UpdB w (w.freeze ⟨B,n,none⟩ 1) B (.cells c E (if fr.1==fr.2 then (n,n+1) else (min fr.1 n,max fr.2 (n+1)))) where
 size:=by simp[World.freeze]
 get:=by
  intro j
  simp only[World.freeze]
  rw[if_neg (by decide)]
  simp only[Array.getElem?_modify]
  by_cases hj:B=j
  ·subst hj;simp[h]
  ·simp[hj,Ne.symm hj]
 os:=by unfold World.freeze;rw[if_neg (by decide)]
 out:=by unfold World.freeze;rw[if_neg (by decide)]
 tape:=by unfold World.freeze;rw[if_neg (by decide)]
theorem e_strish {t e:TypeId}{x:Operand}(h:Rel P β σ w)(ho:o.op=.convert t t x)(ht:P.underlying t=some (.slice e))(he:P.underlying e=some (.int .u8))(hx:VRel P β (ev' x) (ρ x))
  (hp:eev (.strish e x) ev' σ=some (v,σ')):Does P ρ o β σ w v σ':=by
 simp only[eev] at hp
 split at hp
 case h_2=>cases hp
 rename_i a n c ex
 split at hp
 case h_2=>cases hp
 rename_i row hrow
 split at hp
 case isFalse=>cases hp
 rename_i hcond
 obtain⟨hsp,hro,hc0,hel⟩:=hcond
 simp only[Option.some.injEq,Prod.mk.injEq] at hp
 obtain⟨rfl,rfl⟩:=hp
 have hx':=hx
 rw[ex] at hx'
 obtain⟨_,hlc,a',c',q,hcc,hor⟩:=hx'.slice_inv
 rcases hor with hz0|⟨i,hi,rfl,hspan⟩
 ·omega
 ·obtain⟨E,cl,rel,hr⟩:=row_some hrow
  obtain⟨c1,fr,hB,hE,hN,hcN,hsoft',hcs⟩:=(h.obj _ i _ hi hr).cells_inv
  have hsoft:=hsoft' (h.wr.2 _ i hi (.inl hro))
  have hEe:i.E=e:=by
   unfold CW.elemIs at hel
   rw[hr] at hel
   rw[<-hE];exact Nat.eq_of_beq_eq_true hel
  have hu:=freeze_upd (n:=c1.size) hB
  refine⟨.value (ρ x),w.freeze ⟨i.B,c1.size,none⟩ 1,β,?_,.inl ⟨_,rfl,by rw[<-ex];exact hx⟩,h.mark (c:=row) (cl:=cl) (rel:=rel) (E:=E) hi hro hB ?_ hN hu⟩
  ·have hsh:w.shape? i.B=some (i.E,c1.size):=by simp[World.shape?,hB]
   simp only[execOp,ho,q,convert,Sem.run_bind,r_und ht,r_und he,Result.andThen,beq_self_eq_true,markStringish,run_shape,hsh,run_freeze,Sem.run_pure]
  ·refine .inr ⟨?_,by rw[hEe];exact he⟩
   rw[hN]
   rcases hsoft with rfl|⟨h1,_⟩
   ·simp
   ·split
    ·exact Nat.le_refl _
    ·show i.N<=min fr.1 i.N;omega
end ops
end Go.Cn
namespace Go.Cn
set_option linter.unusedVariables false
set_option linter.unusedSimpArgs false
open Go.ChangeMaps (setBlock)
theorem keyEq_true_eq {a b:Value}(h:keyEq a b=some true):a=b:=by
 unfold keyEq at h
 split at h
 ·rename_i x y
  simp only[Option.some.injEq,beq_iff_eq] at h
  obtain⟨⟨x⟩⟩:=x
  obtain⟨⟨y⟩⟩:=y
  simp only at h
  rw[h]
 ·split at h
  ·rename_i e
   simp only[Option.some.injEq,beq_iff_eq] at h e
   rw[e,h]
  ·cases h
 ·cases h
theorem keysOk_uni:∀{es:List (Value×Value)},KeysOk es->∀{x y:Value×Value},x∈es->y∈es->x.1=y.1->keyEq x.1 x.1=some true->x=y
 |[],_,_,_,h,_,_,_=>by cases h
 |z::es,hk,x,y,hx,hy,e,hs=>by
  obtain⟨h1,h2⟩:=List.pairwise_cons.1 hk
  rcases List.mem_cons.1 hx with rfl|hx'
  ·rcases List.mem_cons.1 hy with rfl|hy'
   ·rfl
   ·have:=h1 y hy';rw[<-e,hs] at this;cases this
  ·rcases List.mem_cons.1 hy with rfl|hy'
   ·have:=h1 x hx';rw[<-e,hs] at this;cases this
   ·exact keysOk_uni h2 hx' hy' e hs
theorem ERel.mem_l {P:Program}{β:Ren}{es:List (Value×Value)}{l:List MapEntry}(h:ERel P β es l){x:Value×Value}(hx:x∈es):∃e∈l,e.key=x.1/\VRel P β x.2 e.val:=by
 induction h with
 |nil=>cases hx
 |cons hk hv t ih=>
  rcases List.mem_cons.1 hx with rfl|hx
  ·exact⟨_,by simp,hk,hv⟩
  ·obtain⟨e,h1,h2⟩:=ih hx;exact⟨e,by simp[h1],h2⟩
theorem MapRel.mem {P:Program}{β:Ren}{es:List (Value×Value)}{es':Array MapEntry}(h:MapRel P β es es'){e:MapEntry}(he:e∈es'.toList):∃v,(e.key,v)∈es/\VRel P β v e.val:=
 let ⟨_,l,hp,hr⟩:=h
 hr.mem (hp.mem_iff.1 he)
theorem MapRel.mem_l {P:Program}{β:Ren}{es:List (Value×Value)}{es':Array MapEntry}(h:MapRel P β es es'){x:Value×Value}(hx:x∈es):∃e∈es'.toList,e.key=x.1/\VRel P β x.2 e.val:=
 let ⟨_,l,hp,hr⟩:=h
 let ⟨e,h1,h2⟩:=hr.mem_l hx
 ⟨e,hp.mem_iff.2 h1,h2⟩
theorem nodup_map_inj {α γ:Type}{f:α->γ}:∀{l:List α},(l.map f).Nodup->∀{x y:α},x∈l->y∈l->f x=f y->x=y
 |[],_,_,_,h,_,_=>by cases h
 |z::l,hn,x,y,hx,hy,e=>by
  rw[List.map_cons,List.nodup_cons] at hn
  rcases List.mem_cons.1 hx with rfl|hx'
  ·rcases List.mem_cons.1 hy with rfl|hy'
   ·rfl
   ·exact absurd (List.mem_map.2 ⟨y,hy',e.symm⟩) hn.1
  ·rcases List.mem_cons.1 hy with rfl|hy'
   ·exact absurd (List.mem_map.2 ⟨x,hx',e⟩) hn.1
   ·exact nodup_map_inj hn.2 hx' hy' e
section ops
variable {P:Program}{β:Ren}{σ σ':CW}{w:World}{ev' ρ:Operand->Value}{o:Oper}{v:Value}
theorem p_cap {c:Call}{t:TypeId}{e:TypeId}{x:Operand}(ho:o.op=.call c)(hc:c.callee=.builtin .cap)(ht:c.argTypes= #[t])(ha:c.args= #[x])(hu:P.underlying t=some (.slice e))
  (hx:VRel P β (ev' x) (ρ x))(hp:pev (.capV x) ev' σ=some v):Gives P ρ o w β v:=by
 simp only[pev,nilCap] at hp
 split at hp
 ·rename_i a n cap e
  split at hp
  ·rename_i hn
   cases hp
   cases a with
   |some a=>cases hn
   |none=>
    obtain⟨rfl,rfl,q⟩:=(e▸hx).nilSlice_inv
    exact⟨.int .i64 0,by simp[execOp,ho,resolve,hc,ha,ht,invoke,builtin,Builtin.cap_,r_und hu,q,goInt],.int _ _⟩
  ·cases hp
 ·cases hp
theorem iter_inv {β:Ren}{i:BI}{m:Option Nat}{ver:Nat}{seen:List Value}{o':Option Obj}(h:ObjRel P β i (.iter m ver seen) o'):∃m' s n l,o'=some (.mapIter m' s n l)/\i.sh=0/\m.isSome=m'.isSome:=by
 cases o' with
 |none=>exact h.elim
 |some o'=>
  cases o'<;>first|exact h.elim|skip
  exact⟨_,_,_,_,rfl,h.1,h.2⟩
theorem e_range {t k e:TypeId}{x:Operand}(h:Rel P β σ w)(ho:o.op=.range t x)(ht:P.underlying t=some (.map k e))(hx:VRel P β (ev' x) (ρ x))(hp:eev (.range x) ev' σ=some (v,σ')):Does P ρ o β σ w v σ':=by
 simp only[eev] at hp
 have hptr:VRel P (upd β σ.next (some ⟨w.heap.size,0,0,0,true⟩)) (.pointer (some ⟨σ.next,0,none⟩)) (.pointer (some ⟨w.heap.size,0,none⟩)):=by
  have:=VRel.ptr (P:=P) (β:=upd β σ.next (some ⟨w.heap.size,0,0,0,true⟩)) (off:=0) (upd_same β σ.next (some ⟨w.heap.size,0,0,0,true⟩))
  simpa using this
 split at hp
 ·rename_i ex
  simp only[Option.some.injEq,Prod.mk.injEq] at hp
  obtain⟨rfl,rfl⟩:=hp
  have q:=(ex▸hx).nilMap_inv
  refine⟨_,w.alloc (.mapIter none 0 #[] 0),_,?_,.inl ⟨_,rfl,hptr⟩,h.allocI (i:=⟨w.heap.size,0,0,0,true⟩) rfl rfl rfl rfl rfl trivial ⟨rfl,rfl⟩ fun m ver seen e=>by cases e⟩
  simp only[execOp,ho,q,run_range_nilMap w t k e ht,Sem.run_bind,Result.andThen]
  rfl
 ·rename_i m ex
  split at hp
  ·rename_i es ver hm
   simp only[Option.some.injEq,Prod.mk.injEq] at hp
   obtain⟨rfl,rfl⟩:=hp
   obtain⟨i,hi,q⟩:=(ex▸hx).map_inv
   obtain⟨es',clock,hB,hmr,hbo⟩:=h.mapB hm hi
   refine⟨_,w.alloc (.mapIter (some i.B) clock #[] clock),_,?_,.inl ⟨_,rfl,hptr⟩,h.allocI (i:=⟨w.heap.size,0,0,0,true⟩) rfl rfl rfl rfl rfl trivial ⟨rfl,rfl⟩ fun m' ver' seen' e=>?_⟩
   ·simp only[execOp,ho,q,run_range_map w t k e i.B es' clock ht hB,Sem.run_bind,Result.andThen]
    rfl
   ·cases e
    have hlt:=(h.lt m i hi)
    refine⟨i,clock, #[],clock,h.le_upd _ _ _ hi,heap_alloc_new w _,Nat.le_refl _,Nat.lt_succ_of_lt hlt.1,fun es0 v0 hm0=>?_⟩
    rw[add_heap,if_neg (Nat.ne_of_lt hlt.1),hm] at hm0
    cases hm0
    exact⟨Nat.le_refl _,fun _=>⟨es',clock,by rw[push_get (o':=.mapIter (some i.B) clock #[] clock) rfl hlt.2];exact hB,rfl,hbo.1,[],by simp,rfl,rfl⟩⟩
  ·cases hp
 ·cases hp
theorem updB_set {B:Nat}{o1 o2:Obj}{w1:World}(h:w.heap[B]?=some o1)(hal:w1=w\/w1=w.drew):UpdB w (setBlock w1 B o2) B o2:=by
 have hlt:=lt_of_get h
 have key:∀j,(w.heap.setIfInBounds B o2)[j]?=if j=B then some o2 else w.heap[j]?:=by
  intro j
  by_cases hj:j=B
  ·subst hj;simp[hlt]
  ·rw[if_neg hj];simp[Array.getElem?_setIfInBounds_ne (Ne.symm hj)]
 rcases hal with rfl|rfl<;>exact⟨Array.size_setIfInBounds,key,rfl,rfl,rfl⟩
theorem q_next {x:Operand}(h:Rel P β σ w)(ho:o.op=.next x false)(hx:VRel P β (ev' x) (ρ x)){Q:Value->CW->Prop}(hq:nextW σ Q (ev' x)) :
  ∃v σ' v' w',Q v σ'/\(execOp ρ o).run P w=.ok (.value v') w'/\VRel P β v v'/\Stp P β σ w β σ' w':=by
 unfold nextW at hq
 split at hq
 case h_2=>exact hq.elim
 rename_i r ex
 rw[ex] at hx
 obtain⟨_,i,hi,q⟩:=hx.ptr_inv
 have hfalse:VRel P β (.tuple #[.bool false]) (.tuple #[.bool false]):=VRel.tuple_iff.2 (.cons (.bool _) .nil)
 split at hq
 ·rename_i hr
  have ho':=h.obj r i _ hi hr
  obtain⟨m',s,n,l,e1,e2,e3⟩:=iter_inv ho'
  cases m' with
  |some m'=>cases e3
  |none=>
   refine⟨_,σ,.tuple #[.bool false],w,hq,?_,hfalse,.refl h⟩
   simp only[e2,Nat.add_zero] at q
   simp[execOp,ho,q,Instr.next,getObj,Sem.run,e1]
 ·rename_i m ver seen hr
  split at hq
  case h_2=>exact hq.elim
  rename_i es v0 hm
  obtain⟨rfl,hro,hself,hq1,hq2⟩:=hq
  obtain⟨_,_,_,_,_,e2,_⟩:=iter_inv (h.obj r i _ hi hr)
  obtain⟨im,since,seen',last,a1,a2,a3,a4,a5⟩:=h.iters r i m v0 seen hi hr
  obtain⟨es',clock,b1,rfl,b2,L,b3,b4,b5⟩:=(a5 es v0 hm).2 rfl
  obtain⟨es'',clock',c1,hmr,hbo⟩:=h.mapB hm a1
  rw[b1] at c1;cases c1
  simp only[e2,Nat.add_zero] at q
  have hex:∀y w',(Instr.next (.pointer (some ⟨i.B,0,none⟩)) false o.type).run P w=.ok y w'->(execOp ρ o).run P w=.ok (.value y) w':=by
   intro y w' hw
   simp[execOp,ho,q,hw]
  have hsb:∀e,e∈es'.toList->(seen'.contains e.born=true↔e∈L):=by
   intro e he
   have:seen'.contains e.born=true↔e.born∈L.map (·.born):=by
    rw[b5,List.mem_reverse]
    simp
   rw[this]
   constructor
   ·intro hmem
    obtain⟨e1,g1,g2⟩:=List.mem_map.1 hmem
    have:=nodup_map_inj hbo.2 (b3 e1 g1) he g2
    rw[<-this];exact g1
   ·intro hmem;exact List.mem_map.2 ⟨e,hmem,rfl⟩
  rcases run_next_at (P:=P) w o.type i.B im.B since last seen' es' last a2 b1 b2 a3 with⟨k0,k1⟩|⟨e,k0,w1,k1,k2⟩
  ·refine⟨_,σ,_,w,hq1 ?_,hex _ _ k1,hfalse,.refl h⟩
   rw[leftL,List.filter_eq_nil_iff]
   intro y hy
   obtain⟨e,g1,g2,_⟩:=hmr.mem_l hy
   have hin:seen'.contains e.born=true:=by
    cases hc:seen'.contains e.born with
    |true=>rfl
    |false=>
     have:e∈(leftOf es' seen').toList:=by unfold leftOf;simp at g1 hc ⊢;exact⟨g1,hc⟩
     have h0:(leftOf es' seen').toList=[]:=by
      have:=Array.length_toList (xs:=leftOf es' seen')
      rw[k0] at this
      exact List.length_eq_zero_iff.1 this
     rw[h0] at this;cases this
   have hL:=(hsb e g1).1 hin
   have:y.1∈seen:=by rw[<-b4, <-g2];exact List.mem_map.2 ⟨e,hL,rfl⟩
   intro hall
   have:=List.all_eq_true.1 hall y.1 this
   rw[hself y hy] at this;simp at this
  ·have g1:e∈es'.toList/\seen'.contains e.born=false:=by unfold leftOf at k0;simp at k0 ⊢;exact k0
   obtain⟨g1,g2⟩:=g1
   obtain⟨u,g3,g4⟩:=hmr.mem g1
   have hleft:(e.key,u)∈leftL seen es:=by
    unfold leftL
    rw[List.mem_filter]
    refine⟨g3,?_⟩
    simp only[List.all_eq_true]
    intro k hk
    cases hkk:keyEq k e.key==some true with
    |false=>rfl
    |true=>
     exfalso
     have hke:=keyEq_true_eq (by simpa using hkk)
     rw[<-b4] at hk
     obtain⟨e1,d1,d2⟩:=List.mem_map.1 hk
     obtain⟨u1,d3,d4⟩:=hmr.mem (b3 e1 d1)
     have d5:e1∉L\/e1≠e:=by
      by_cases hee:e1=e
      ·left;intro hmem;rw[hee] at hmem
       have:=(hsb e g1).2 hmem;rw[g2] at this;cases this
      ·exact .inr hee
     rcases d5 with d5|d5
     ·exact d5 d1
     ·
      obtain⟨hkeys,l,hp,hrel⟩:=hmr
      have:∀(es:List (Value×Value))(l:List MapEntry),ERel P β es l->KeysOk es->(∀z∈es,keyEq z.1 z.1=some true)->∀x y,x∈l->y∈l->x.key=y.key->x=y:=by
       intro es l hr
       induction hr with
       |nil=>intro _ _ x y hx;cases hx
       |@cons kk vv e0 es0 l0 hk0 hv0 ht0 ih=>
        intro hok hs x y hx hy hxy
        obtain⟨p1,p2⟩:=List.pairwise_cons.1 hok
        have hno:∀z∈l0,z.key≠e0.key:=by
         intro z hz hzk
         obtain⟨uz,f1,_⟩:=ht0.mem hz
         have:=p1 _ f1
         rw[hzk,hk0,hs (kk,vv) (by simp)] at this;cases this
        rcases List.mem_cons.1 hx with rfl|hx'
        ·rcases List.mem_cons.1 hy with rfl|hy'
         ·rfl
         ·exact absurd hxy.symm (hno y hy')
        ·rcases List.mem_cons.1 hy with rfl|hy'
         ·exact absurd hxy (hno x hx')
         ·exact ih p2 (fun z hz=>hs z (by simp[hz])) x y hx' hy' hxy
      exact d5 (this es l hrel hkeys hself e1 e (hp.mem_iff.1 (b3 e1 d1)) (hp.mem_iff.1 g1) (d2.trans hke))
   have hu:=updB_set (o2:=.mapIter (some im.B) since (seen'.push e.born) last) a2 k1
   refine⟨_,_,_,_,hq2 e.key u hleft,hex _ _ k2,VRel.tuple_iff.2 (.cons (.bool _) (.cons ?_ (.cons g4 .nil))),?_⟩
   ·
    have hk:=hself _ g3
    revert hk
    cases e.key<;>intro hk<;>first|exact .string _|exact .int _ _|(exfalso;revert hk;simp[keyEq];done)
   ·have other:=h.other hr rfl hi
    refine h.setO hr rfl rfl hro hi hu ⟨e2,rfl⟩ ?_
    intro n ir m2 v2 seen2 hn ho2
    have ho2':upd σ.heap r (some (.iter (some m) v0 (e.key::seen))) n=some (.iter (some m2) v2 seen2):=ho2
    have hmne:∀(n:Nat) es v,σ.heap n=some (.map es v)->n≠r:=by intro n es v hn hnr;rw[hnr,hr] at hn;cases hn
    by_cases hnr:n=r
    ·subst hnr
     rw[upd_same] at ho2'
     cases ho2'
     rw[hi] at hn;cases hn
     refine⟨im,since,seen'.push e.born,last,a1,by rw[hu.get,if_pos rfl],a3,a4,fun es0 v1 hm0=>?_⟩
     have hm0':upd σ.heap n (some (.iter (some m) v0 (e.key::seen))) m=some (.map es0 v1):=hm0
     have hmr2:=hmne m _ _ hm
     rw[upd_ne _ _ hmr2,hm] at hm0'
     cases hm0'
     refine⟨Nat.le_refl _,fun _=>⟨es',last,?_,rfl,b2,e::L,?_,?_,?_⟩⟩
     ·rw[hu.get,if_neg]
      ·exact b1
      ·intro eB;have:=other m im hmr2 a1 eB;rw[hm] at this;cases this
     ·intro y hy
      rcases List.mem_cons.1 hy with rfl|hy
      ·exact g1
      ·exact b3 y hy
     ·simp[b4]
     ·simp[b5]
    ·rw[upd_ne _ _ hnr] at ho2'
     obtain⟨im2,since2,seen2',last2,f1,f2,f3,f4,f5⟩:=h.iters n ir m2 v2 seen2 hn ho2'
     refine⟨im2,since2,seen2',last2,f1,?_,f3,f4,fun es0 v1 hm0=>?_⟩
     ·rw[hu.get,if_neg]
      ·exact f2
      ·intro eB;have:=other n ir hnr hn eB;rw[ho2'] at this;cases this
     ·have hm0':upd σ.heap r (some (.iter (some m) v0 (e.key::seen))) m2=some (.map es0 v1):=hm0
      have hmr2:m2≠r:=by intro e3;subst e3;rw[upd_same] at hm0';cases hm0'
      rw[upd_ne _ _ hmr2] at hm0'
      obtain⟨p1,p2⟩:=f5 es0 v1 hm0'
      refine⟨p1,fun e3=>?_⟩
      obtain⟨es3,clock3,p3,p4⟩:=p2 e3
      refine⟨es3,clock3,?_,p4⟩
      rw[hu.get,if_neg]
      ·exact p3
      ·intro eB;have:=other m2 im2 hmr2 f1 eB;rw[hm0'] at this;cases this
 ·exact hq.elim
theorem p_entry {x:Operand}(h:Rel P β σ w)(ho:o.op=.entry x)(hx:VRel P β (ev' x) (ρ x))(hp:pev (.entry x) ev' σ=some v):Gives P ρ o w β v:=by
 simp only[pev] at hp
 unfold CW.entry at hp
 split at hp
 case h_2=>cases hp
 rename_i r ex
 rw[ex] at hx
 obtain⟨_,i,hi,q⟩:=hx.ptr_inv
 split at hp
 case h_2=>cases hp
 rename_i m ver k seen hr
 split at hp
 case h_2=>cases hp
 rename_i es v0 hm
 split at hp
 case isFalse=>cases hp
 rename_i hver
 subst hver
 split at hp
 case h_2=>cases hp
 rename_i u hlook
 cases hp
 obtain⟨_,_,_,_,_,e2,_⟩:=iter_inv (h.obj r i _ hi hr)
 obtain⟨im,since,seen',last,a1,a2,a3,a4,a5⟩:=h.iters r i m v0 (k::seen) hi hr
 obtain⟨es',clock,b1,rfl,b2,L,b3,b4,b5⟩:=(a5 es v0 hm).2 rfl
 obtain⟨es'',clock',c1,hmr,hbo⟩:=h.mapB hm a1
 rw[b1] at c1;cases c1
 simp only[e2,Nat.add_zero] at q
 cases L with
 |nil=>cases b4
 |cons e L=>
  simp only[List.map_cons,List.cons.injEq] at b4 b5
  obtain⟨hek,b4⟩:=b4
  have he:=b3 e (by simp)
  obtain⟨y,g1,g2⟩:=hmr.mem he
  have hseen:∃s0:Array Nat,seen'=s0.push e.born:=by
   have h1:seen'.toList=(L.map (·.born)).reverse++[e.born]:=by
    have:=congrArg List.reverse b5
    simp only[List.reverse_cons,List.reverse_reverse] at this
    exact this.symm
   refine⟨((L.map (·.born)).reverse).toArray,?_⟩
   apply Array.ext'
   rw[h1];simp
  obtain⟨s0,rfl⟩:=hseen
  have hkk:∃z,(z,u)∈es/\keyEq k z=some true:=by
   clear hmr g1 g2 a5 hm b1
   induction es with
   |nil=>cases hlook
   |cons z es ih=>
    obtain⟨z1,z2⟩:=z
    simp only[look] at hlook
    split at hlook
    ·rename_i hz;cases hlook;exact⟨z1,by simp,hz⟩
    ·obtain⟨z',k1,k2⟩:=ih hlook;exact⟨z',by simp[k1],k2⟩
    ·cases hlook
  obtain⟨z,k1,k2⟩:=hkk
  have hzk:=keyEq_true_eq k2
  subst hzk
  rw[hek] at g1
  have:=keysOk_uni hmr.1 k1 g1 rfl k2
  cases this
  refine⟨.tuple #[e.key,e.val],?_,VRel.tuple_iff.2 (.cons ?_ (.cons g2 .nil))⟩
  ·have:=run_entry_at (P:=P) w i.B im.B since s0 es' last e a2 b1 he hbo.2
   simp[execOp,ho,q,this]
  ·rw[hek]
   revert k2
   cases k<;>intro hk<;>first|exact .string _|exact .int _ _|(exfalso;revert hk;simp[keyEq];done)
end ops
end Go.Cn
namespace Go.Cn
set_option linter.unusedVariables false
set_option linter.unusedSimpArgs false
def isCall:COp->Bool
 |.e (.call _ _)=>true
 |.e (.callv _ _)=>true
 |_=>false
structure ProgOk (P:Program):Prop where
 u8:∀t,P.underlying t=some (.int .u8)->t<P.types.size
 cmp : ∀ f fn, P.funcs[f]? = some fn → fn.body = none → fn.name = "internal/bytealg.abigen_runtime_cmpstring" → CmpOk P f
 mixed:P.follows .mixedOrders=true
theorem placeAll_rel {pl:List (Nat×Nat)}:∀{l:List (Nat×Operand)}{ps:List (Nat×Nat×Operand)},placeAll pl l=some ps->PartsR (fun (x:Nat)=>pl[x]?) l ps
 |[],ps,h=>by cases h;exact .nil
 |(i,x)::l,ps,h=>by
  unfold placeAll at h
  split at h
  ·rename_i o n r h1 h2;cases h;exact .cons h1 (placeAll_rel h2)
  ·cases h
theorem partsOf_ok {P:Program}{t:TypeId}{parts:List (Nat×Operand)}{ps:List (Nat×Nat×Operand)}(h:partsOf P t parts=some ps):BuildOk P t parts ps:=by
 unfold partsOf at h
 split at h
 ·rename_i fs ht
  split at h
  ·rename_i pl hpl;exact .struct ht hpl (placeAll_rel h)
  ·cases h
 ·rename_i len e ht
  split at h
  ·rename_i n hn
   cases h
   refine .array ht hn ?_
   generalize parts=l
   induction l with
   |nil=>exact .nil
   |cons p l ih=>exact .cons rfl ih
  ·cases h
 ·cases h
section
variable {P:Program}{β:Ren}{σ:CW}{w:World}{ev' ρ:Operand->Value}{o:Oper}{v:Value}{σ':CW}
theorem Gives.does (h:Rel P β σ w)(hg:Gives P ρ o w β v):Does P ρ o β σ w v σ:=
 let ⟨v',h1,h2⟩:=hg
 ⟨_,w,β,h1,.inl ⟨v',rfl,h2⟩,.refl h⟩
theorem str_kind {kt:TypeId}(h:isStrT P kt=true):∃d,P.underlying kt=some d/\KeyKind d true:=by
 unfold isStrT at h
 split at h
 ·rename_i e;exact⟨_,e,.inl ⟨rfl,rfl⟩⟩
 ·cases h
theorem int_kind {kt:TypeId}(h:isIntT P kt=true):∃d,P.underlying kt=some d/\KeyKind d false:=by
 unfold isIntT at h
 split at h
 ·rename_i k e;exact⟨_,e,.inr ⟨rfl,k,rfl⟩⟩
 ·cases h
theorem map_eq_p {x:Option POp}{c:COp}(h:x.map COp.p=some c):∃q,x=some q/\c=.p q:=by
 cases x with
 |none=>cases h
 |some q=>cases h;exact⟨q,rfl,rfl⟩
theorem sim_eq (hP:ProgOk P)(h:Rel P β σ w){neg:Bool}{t t':TypeId}{x y:Operand}(ho:o.op=.binOp (if neg then .neq else .eql) t x y t'){q:POp}(hc:compEq P neg t x y=some q)
  (hx:VRel P β (ev' x) (ρ x))(hy:VRel P β (ev' y) (ρ y))(hρ:∀u,ρ (.const u)=u)(hp:pev q ev' σ=some v):Gives P ρ o w β v:=by
 unfold compEq at hc
 split at hc
 ·rename_i ht;cases hc;exact p_beq ho ht hx hy hp
 ·rename_i ht;cases hc;exact p_bin ho hx hy hp
 ·rename_i ht;cases hc;exact p_bin ho hx hy hp
 ·rename_i d _ _ _ ht
  split at hc
  ·rename_i c hn;cases hc;exact p_isnil ht (.inl ⟨ho,hn,rfl⟩) hρ hx hp
  ·split at hc
   ·rename_i c hn;cases hc;exact p_isnil ht (.inr ⟨ho,hn,rfl⟩) hρ hy hp
   ·split at hc
    ·cases hc;exact p_eqI h ho ht hP.u8 hx hy hp
    ·cases hc
 ·cases hc
theorem list2 {α:Type}{a:Array α}{x y:α}(h:a.toList=[x,y]):a= #[x,y]:=by apply Array.ext';simpa using h
theorem list1 {α:Type}{a:Array α}{x:α}(h:a.toList=[x]):a= #[x]:=by apply Array.ext';simpa using h
theorem sim_call (hP:ProgOk P)(h:Rel P β σ w){c:Call}(ho:o.op=.call c){q:COp}(hc:compCall P c=some q)(hop:∀x∈c.operands,VRel P β (ev' x) (ρ x))(hρf:∀f,ρ (.func f)=.func (.func f) #[] #[])
  {C:CallR}(hp:OpR C q ev' σ v σ')(hnc:isCall q=false):Does P ρ o β σ w v σ':=by
 have harg:∀x∈c.args.toList,VRel P β (ev' x) (ρ x):=fun x hx=>hop x (by simp[Call.operands];exact .inr (by simpa using hx))
 unfold compCall at hc
 split at hc
 ·rename_i f hcal
  split at hc
  ·rename_i fn hfn
   split at hc
   ·split at hc
    ·cases hc
    ·cases hc;cases hnc
   ·rename_i hbody
    split at hc
    ·rename_i hname
     split at hc
     ·rename_i x y hargs
      cases hc
      obtain⟨h1,rfl⟩:=hp
      rw[hargs] at harg
      have hb:fn.body=none:=by cases e:fn.body with
       |none=>rfl
       |some b=>rw[e] at hbody;exact absurd rfl hbody
      exact (p_cmp ho hcal (list2 hargs) (hρf f) (hP.cmp f fn hfn hb (by simpa using hname)) (harg x (by simp)) (harg y (by simp)) h1).does h
     ·cases hc
    ·cases hc
  ·cases hc
 ·cases hc;cases hnc
 ·rename_i hcal
  split at hc
  ·rename_i t x ht hargs
   rw[hargs] at harg
   split at hc
   ·rename_i hu;cases hc;obtain⟨h1,rfl⟩:=hp;exact (p_lenS (u:=t) ho hcal (list1 ht) (list1 hargs) hu (harg x (by simp)) h1).does h
   ·rename_i e hu;cases hc;obtain⟨h1,rfl⟩:=hp;exact (p_lenV (u:=t) ho hcal (list1 ht) (list1 hargs) hu (harg x (by simp)) h1).does h
   ·rename_i k e hu;cases hc;obtain⟨h1,rfl⟩:=hp;exact (p_lenM h ho hcal (list1 ht) (list1 hargs) hu (harg x (by simp)) h1).does h
   ·cases hc
  ·cases hc
 ·rename_i hcal
  split at hc
  ·rename_i t x ht hargs
   rw[hargs] at harg
   split at hc
   ·rename_i e hu;cases hc;obtain⟨h1,rfl⟩:=hp;exact (p_cap ho hcal (list1 ht) (list1 hargs) hu (harg x (by simp)) h1).does h
   ·cases hc
  ·cases hc
 ·rename_i hcal
  split at hc
  ·rename_i t u s x ht hargs
   rw[hargs] at harg
   split at hc
   ·rename_i e d hut huu
    split at hc
    ·rename_i sz b z hsz hb hz
     split at hc
     ·cases hc
     ·rename_i hcond
      cases hc
      simp only[Bool.or_eq_true,not_or,Bool.not_eq_true] at hcond
      obtain⟨⟨⟨h1,h2⟩,h3⟩,h4⟩:=hcond
      have h2':b≠0:=by intro e;subst e;simp at h2
      have h3':(cellsOf z).length=sz:=by simpa using h3
      have h4':∀k,d≠.int k:=by rintro k rfl;simp[isIntD] at h4
      exact e_append h ho hcal (list2 ht) (list2 hargs) hut huu h4' hsz hb h2' hz h3' (harg s (by simp)) (harg x (by simp)) hp
    ·cases hc
   ·cases hc
  ·cases hc
 ·rename_i hcal
  split at hc
  ·rename_i t u d s ht hargs
   rw[hargs] at harg
   split at hc
   ·rename_i e hut
    split at hc
    ·rename_i sz hsz
     cases hc
     exact e_copy h ho hcal (list2 ht) (list2 hargs) hut hsz (harg d (by simp)) (harg s (by simp)) hp
    ·cases hc
   ·cases hc
  ·cases hc
 ·rename_i hcal
  split at hc
  ·rename_i t u m k ht hargs
   rw[hargs] at harg
   split at hc
   ·rename_i kt e hut
    split at hc
    ·rename_i hk
     cases hc
     obtain⟨d,hd1,hd2⟩:=str_kind hk
     exact e_delete h ho hcal (list2 ht) (list2 hargs) hut hd1 hd2 (harg m (by simp)) (harg k (by simp)) hp
    ·split at hc
     ·rename_i hk
      cases hc
      obtain⟨d,hd1,hd2⟩:=int_kind hk
      exact e_delete h ho hcal (list2 ht) (list2 hargs) hut hd1 hd2 (harg m (by simp)) (harg k (by simp)) hp
     ·cases hc
   ·cases hc
  ·cases hc
 ·rename_i hcal
  split at hc
  ·rename_i t x ht hargs
   rw[hargs] at harg
   split at hc
   ·rename_i e hut
    split at hc
    ·rename_i z hz
     split at hc
     ·cases hc
     ·rename_i h0
      cases hc
      exact e_clearV h ho hcal (list1 ht) (list1 hargs) hut hz (by intro e0;rw[e0] at h0;simp at h0) (harg x (by simp)) hp
    ·cases hc
   ·cases hc
  ·cases hc
 ·rename_i hcal
  split at hc
  ·rename_i x y hargs
   rw[hargs] at harg
   cases hc
   obtain⟨h1,rfl⟩:=hp
   exact (p_mm (b:=true) ho hcal (list2 hargs) (harg x (by simp)) (harg y (by simp)) h1).does h
  ·cases hc
 ·rename_i hcal
  split at hc
  ·rename_i x y hargs
   rw[hargs] at harg
   cases hc
   obtain⟨h1,rfl⟩:=hp
   exact (p_mm (b:=false) ho hcal (list2 hargs) (harg x (by simp)) (harg y (by simp)) h1).does h
  ·cases hc
 ·cases hc
theorem sim_conv (h:Rel P β σ w){src dst:TypeId}{x:Operand}(ho:o.op=.convert src dst x){q:COp}(hc:compConv P src dst x=some q)(hx:VRel P β (ev' x) (ρ x))
  {C:CallR}(hp:OpR C q ev' σ v σ'):Does P ρ o β σ w v σ':=by
 unfold compConv at hc
 split at hc
 ·rename_i ks k h1 h2;cases hc;obtain⟨g1,rfl⟩:=hp;exact (p_i2i ho h1 h2 hx g1).does h
 ·rename_i ks h1 h2;cases hc;obtain⟨g1,rfl⟩:=hp;exact (p_i2s ho h1 h2 hx g1).does h
 ·rename_i h1 h2;cases hc;obtain⟨g1,rfl⟩:=hp;exact (p_s2s ho h1 h2 hx g1).does h
 ·rename_i e h1 h2
  split at hc
  ·rename_i he hsz;cases hc;obtain⟨obj,g1,rfl⟩:=hp;exact (m_s2b ho h1 h2 he hsz hx g1).does h (aev_freshO g1) (aev_noIter g1)
  ·cases hc
 ·rename_i e h1 h2
  split at hc
  ·rename_i he;cases hc;obtain⟨g1,rfl⟩:=hp;exact (p_b2s h ho h1 he h2 hx g1).does h
  ·cases hc
 ·rename_i e0 e h1 h2
  split at hc
  ·rename_i heq
   split at hc
   ·rename_i he
    cases hc
    simp only[beq_iff_eq] at heq
    subst heq
    exact e_strish h ho h2 he hx hp
   ·cases hc
  ·cases hc
 ·cases hc
theorem sim_op (hP:ProgOk P)(h:Rel P β σ w){q:COp}(hc:compOp P o.op=some q)(hop:∀x∈o.op.operands,VRel P β (ev' x) (ρ x))(hρ:∀u,ρ (.const u)=u)(hρf:∀f,ρ (.func f)=.func (.func f) #[] #[])
  {C:CallR}(hp:OpR C q ev' σ v σ')(hnc:isCall q=false):Does P ρ o β σ w v σ':=by
 cases ho:o.op<;>rw[ho] at hc hop<;>simp only[compOp,Op.operands] at hc hop
 all_goals try (cases hc;done)
 case move x=>cases hc;obtain⟨g,rfl⟩:=hp;exact (p_mov (.inl ho) (hop x (by simp)) g).does h
 case assign x=>cases hc;obtain⟨g,rfl⟩:=hp;exact (p_mov (.inr ho) (hop x (by simp)) g).does h
 case pick c a b=>cases hc;obtain⟨g,rfl⟩:=hp;exact (p_pick ho (hop c (by simp)) (hop a (by simp)) (hop b (by simp)) g).does h
 case alloc t=>
  split at hc
  ·rename_i z hz;cases hc;obtain⟨obj,g,rfl⟩:=hp;exact (m_alloc ho hz g).does h (aev_freshO g) (aev_noIter g)
  ·cases hc
 case box t x=>cases hc;obtain⟨obj,g,rfl⟩:=hp;exact (m_box ho (hop x (by simp)) g).does h (aev_freshO g) (aev_noIter g)
 case build t parts=>
  split at hc
  ·rename_i z ps hz hps
   cases hc;obtain⟨g,rfl⟩:=hp
   exact (p_build ho hz (partsOf_ok hps) (fun x hx=>hop x.2 (by simp;exact⟨x.1,by simpa using hx⟩)) g).does h
  ·cases hc
 case buildSlice t len parts=>
  split at hc
  ·rename_i e ht
   split at hc
   ·rename_i n z hn hz
    split at hc
    ·rename_i hcond
     cases hc
     simp only[Bool.and_eq_true,Nat.ble_eq,Nat.beq_eq,Bool.not_eq_true'] at hcond
     obtain⟨⟨h1,h2⟩,h3⟩:=hcond
     obtain⟨obj,g,rfl⟩:=hp
     exact (m_bsl ho ht hn hz h1 h2 (by intro e0;subst e0;simp at h3) (fun x hx=>hop x.2 (by simp;exact⟨x.1,by simpa using hx⟩)) g).does h (aev_freshO g) (aev_noIter g)
    ·cases hc
   ·cases hc
  ·cases hc
 case load t x=>
  split at hc
  ·rename_i n hg hn;cases hc;obtain⟨g,rfl⟩:=hp;exact (p_ldN h ho hg hn (hop x (by simp)) g).does h
  ·rename_i n hg hn;cases hc;obtain⟨g,rfl⟩:=hp;exact (p_ld1 h ho hg (hop x (by simp)) g).does h
  ·cases hc
 case store t a x=>
  split at hc
  ·rename_i n hn hg;cases hc;exact e_stN h ho hn (hop a (by simp)) (hop x (by simp)) hp
  ·rename_i n hn hg
   split at hc
   ·rename_i h1;cases hc;simp only[Nat.beq_eq] at h1;subst h1;exact e_st1 h ho hn (hop a (by simp)) (hop x (by simp)) hp
   ·cases hc
  ·cases hc
 case nilCheck x=>cases hc;obtain⟨g,rfl⟩:=hp;exact (p_nilck ho (hop x (by simp)) g).does h
 case binOp op t x y t'=>
  split at hc
  ·obtain⟨q',e1,rfl⟩:=map_eq_p hc
   obtain⟨g,rfl⟩:=hp
   exact (sim_eq (neg:=false) hP h ho e1 (hop x (by simp)) (hop y (by simp)) hρ g).does h
  ·obtain⟨q',e1,rfl⟩:=map_eq_p hc
   obtain⟨g,rfl⟩:=hp
   exact (sim_eq (neg:=true) hP h ho e1 (hop x (by simp)) (hop y (by simp)) hρ g).does h
  ·cases hc;obtain⟨g,rfl⟩:=hp;exact (p_bin ho (hop x (by simp)) (hop y (by simp)) g).does h
 case unOp op t x=>cases hc;obtain⟨g,rfl⟩:=hp;exact (p_un ho (hop x (by simp)) g).does h
 case convert src dst x=>exact sim_conv h ho hc (hop x (by simp)) hp
 case makeInterface t x=>
  split at hc
  ·cases hc
  ·rename_i d hd ht;cases hc;obtain⟨g,rfl⟩:=hp;exact (p_mkif ho ht (fun ms e=>hd ms e) (hop x (by simp)) g).does h
  ·cases hc
 case makeFunc fn first captured=>
  cases fn<;>simp only at hc<;>try (cases hc;done)
  cases hc;obtain⟨g,rfl⟩:=hp;exact (p_mkfn ho hop g).does h
 case makeMap t r=>
  cases r<;>simp only at hc<;>try (cases hc;done)
  cases hc;obtain⟨obj,g,rfl⟩:=hp;exact (m_mkmap ho g).does h (aev_freshO g) (aev_noIter g)
 case makeSlice t l c=>
  split at hc
  ·rename_i e ht
   split at hc
   ·rename_i b z n hb hz hn
    split at hc
    ·rename_i hcond
     cases hc
     simp only[Bool.and_eq_true,Nat.beq_eq,Bool.not_eq_true'] at hcond
     obtain⟨obj,g,rfl⟩:=hp
     exact (m_mksl ho ht hb hz hn hcond.1 (by intro e0;have:=hcond.2;subst e0;simp at this) (hop l (by simp)) (hop c (by simp)) g).does h (aev_freshO g) (aev_noIter g)
    ·cases hc
   ·cases hc
  ·cases hc
 case slice t x lo hi mx=>
  have hlo:∀y∈lo,VRel P β (ev' y) (ρ y):=fun y hy=>hop y (by simp;simp at hy;simp[hy])
  have hhi:∀y∈hi,VRel P β (ev' y) (ρ y):=fun y hy=>hop y (by simp;simp at hy;simp[hy])
  have hmx:∀y∈mx,VRel P β (ev' y) (ρ y):=fun y hy=>hop y (by simp;simp at hy;simp[hy])
  split at hc
  ·rename_i ht
   split at hc
   ·rename_i hm
    cases hc;obtain⟨g,rfl⟩:=hp
    have:mx=none:=by simpa using hm
    subst this
    exact (p_slS ho ht (hop x (by simp)) hlo hhi g).does h
   ·cases hc
  ·rename_i e ht
   split at hc
   ·rename_i n hn
    split at hc
    ·cases hc
    ·rename_i hm
     cases hc;obtain⟨g,rfl⟩:=hp
     refine (p_slV h ho ht hn (hop x (by simp)) hlo hhi hmx ?_ g).does h
     intro hms
     simp only[Bool.and_eq_true,not_and] at hm
     have:=hm hms
     cases hi with
     |none=>exact absurd rfl this
     |some _=>rfl
   ·cases hc
  ·cases hc
 case fieldAddr t x f=>
  split at hc
  ·rename_i fs ht
   split at hc
   ·rename_i fd hf
    split at hc
    ·rename_i n hn
     split at hc
     ·cases hc
     ·rename_i h0
      cases hc;obtain⟨g,rfl⟩:=hp
      exact (p_fa ho ht hf hn (by intro e0;subst e0;simp at h0) (hop x (by simp)) g).does h
    ·cases hc
   ·cases hc
  ·cases hc
 case field t x f=>
  split at hc
  ·rename_i fs ht
   split at hc
   ·rename_i fd hf
    split at hc
    ·rename_i n b hn hb;cases hc;obtain⟨g,rfl⟩:=hp;exact (p_fld ho ht hf hn hb (hop x (by simp)) g).does h
    ·cases hc
   ·cases hc
  ·cases hc
 case indexAddr t x i=>
  split at hc
  ·rename_i e ht
   split at hc
   ·rename_i n hn;cases hc;obtain⟨g,rfl⟩:=hp;exact (p_ia ho ht hn (hop x (by simp)) (hop i (by simp)) g).does h
   ·cases hc
  ·cases hc
 case index t x i=>
  split at hc
  ·rename_i ht;cases hc;obtain⟨g,rfl⟩:=hp;exact (p_ixS ho ht (hop x (by simp)) (hop i (by simp)) g).does h
  ·cases hc
 case lookup t m k ok=>
  split at hc
  ·rename_i kt e ht
   split at hc
   ·rename_i z hz
    split at hc
    ·rename_i hk
     cases hc;obtain⟨g,rfl⟩:=hp
     obtain⟨d,hd1,hd2⟩:=str_kind hk
     exact (p_lookup h ho ht hd1 hd2 hz (hop m (by simp)) (hop k (by simp)) g).does h
    ·split at hc
     ·rename_i hk
      cases hc;obtain⟨g,rfl⟩:=hp
      obtain⟨d,hd1,hd2⟩:=int_kind hk
      exact (p_lookup h ho ht hd1 hd2 hz (hop m (by simp)) (hop k (by simp)) g).does h
     ·cases hc
   ·cases hc
  ·cases hc
 case mapUpdate t m k x=>
  split at hc
  ·rename_i kt e ht
   split at hc
   ·rename_i hk
    cases hc
    obtain⟨d,hd1,hd2⟩:=str_kind hk
    exact e_mapupd h (.inl ho) ht hd1 hd2 (hop m (by simp)) (hop k (by simp)) (hop x (by simp)) hp
   ·split at hc
    ·rename_i hk
     cases hc
     obtain⟨d,hd1,hd2⟩:=int_kind hk
     exact e_mapupd h (.inl ho) ht hd1 hd2 (hop m (by simp)) (hop k (by simp)) (hop x (by simp)) hp
    ·cases hc
  ·cases hc
 case insert t m k x=>
  split at hc
  ·rename_i kt e ht
   split at hc
   ·rename_i hk
    cases hc
    obtain⟨d,hd1,hd2⟩:=str_kind hk
    exact e_mapupd h (.inr ho) ht hd1 hd2 (hop m (by simp)) (hop k (by simp)) (hop x (by simp)) hp
   ·split at hc
    ·rename_i hk
     cases hc
     obtain⟨d,hd1,hd2⟩:=int_kind hk
     exact e_mapupd h (.inr ho) ht hd1 hd2 (hop m (by simp)) (hop k (by simp)) (hop x (by simp)) hp
    ·cases hc
  ·cases hc
 case typeAssert x xt t ok=>
  split at hc
  ·cases hc
  ·rename_i d hd ht
   split at hc
   ·rename_i z hz;cases hc;obtain⟨g,rfl⟩:=hp;exact (p_ta ho ht (fun ms e=>hd ms e) hz (hop x (by simp)) g).does h
   ·cases hc
  ·cases hc
 case extract x i=>cases hc;obtain⟨g,rfl⟩:=hp;exact (p_ext ho (hop x (by simp)) g).does h
 case range t x=>
  split at hc
  ·rename_i k e ht;cases hc;exact e_range h ho ht (hop x (by simp)) hp
  ·cases hc
 case next x s=>
  cases s
  ·cases hc;cases hp
  ·cases hc
 case entry x=>cases hc;obtain⟨g,rfl⟩:=hp;exact (p_entry h ho (hop x (by simp)) g).does h
 case call c=>exact sim_call hP h ho hc hop hρf hp hnc
theorem conv_makes {src dst:TypeId}{x:Operand}(ho:o.op=.convert src dst x){q:AOp}(hc:compConv P src dst x=some (.a q))(hx:VRel P β (ev' x) (ρ x)){b:Nat}{obj:CObj}
  (g:aev q ev' b=some (obj,v)):Makes P ρ o β w b obj v:=by
 unfold compConv at hc
 split at hc<;>try (cases hc;done)
 ·rename_i e h1 h2
  split at hc
  ·rename_i he hsz;cases hc;exact m_s2b ho h1 h2 he hsz hx g
  ·cases hc
 ·split at hc<;>cases hc
 ·split at hc
  ·split at hc<;>cases hc
  ·cases hc
theorem call_no_a {c:Call}{q:AOp}(hc:compCall P c=some (.a q)):False:=by
 unfold compCall at hc
 repeat' (first|(cases hc;done)|split at hc)
theorem map_no_a {f:Option POp}{q:AOp}(h:f.map COp.p=some (.a q)):False:=by
 cases f<;>cases h
theorem sim_makes {q:AOp}(hc:compOp P o.op=some (.a q))(hop:∀x∈o.op.operands,VRel P β (ev' x) (ρ x)){b:Nat}{obj:CObj}(g:aev q ev' b=some (obj,v)):Makes P ρ o β w b obj v:=by
 cases ho:o.op<;>rw[ho] at hc hop<;>simp only[compOp,Op.operands] at hc hop
 all_goals try (cases hc;done)
 case alloc t=>
  split at hc
  ·rename_i z hz;cases hc;exact m_alloc ho hz g
  ·cases hc
 case box t x=>cases hc;exact m_box ho (hop x (by simp)) g
 case buildSlice t len parts=>
  split at hc
  ·rename_i e ht
   split at hc
   ·rename_i n z hn hz
    split at hc
    ·rename_i hcond
     cases hc
     simp only[Bool.and_eq_true,Nat.ble_eq,Nat.beq_eq,Bool.not_eq_true'] at hcond
     obtain⟨⟨h1,h2⟩,h3⟩:=hcond
     exact m_bsl ho ht hn hz h1 h2 (by intro e0;subst e0;simp at h3) (fun x hx=>hop x.2 (by simp;exact⟨x.1,by simpa using hx⟩)) g
    ·cases hc
   ·cases hc
  ·cases hc
 case convert src dst x=>exact conv_makes ho hc (hop x (by simp)) g
 case makeMap t r=>
  cases r<;>simp only at hc<;>try (cases hc;done)
  cases hc;exact m_mkmap ho g
 case makeSlice t l c=>
  split at hc
  ·rename_i e ht
   split at hc
   ·rename_i b z n hb hz hn
    split at hc
    ·rename_i hcond
     cases hc
     simp only[Bool.and_eq_true,Nat.beq_eq,Bool.not_eq_true'] at hcond
     exact m_mksl ho ht hb hz hn hcond.1 (by intro e0;have:=hcond.2;subst e0;simp at this) (hop l (by simp)) (hop c (by simp)) g
    ·cases hc
   ·cases hc
  ·cases hc
 case binOp op t x y t'=>
  exfalso
  split at hc
  ·exact map_no_a hc
  ·exact map_no_a hc
  ·cases hc
 case call c=>exact (call_no_a hc).elim
 case makeFunc fn first captured=>
  exfalso
  cases fn<;>simp only at hc<;>cases hc
 case next x s=>
  exfalso
  cases s<;>simp only at hc<;>cases hc
 all_goals
  exfalso
  repeat' (first|(cases hc;done)|split at hc)
end
end Go.Cn
namespace Go.Cn
set_option linter.unusedVariables false
set_option linter.unusedSimpArgs false
def GOk (P:Program)(β:Ren):Prop:=∀g,g<P.globals.size->∃i,β g=some i/\i.B=g/\i.sh=0
theorem GOk.mono {P:Program}{β β':Ren}(h:GOk P β)(hl:Le β β'):GOk P β':=fun g hg=>let ⟨i,h1,h2⟩:=h g hg;⟨i,hl g i h1,h2⟩
def WR (r:Option Nat):Fence:={Fence.wide with round:=r}
def Marks (lo:Nat)(β:Ren)(w:World)(ds:List Deferred):Prop:=
 ds.Nodup/\∀d∈ds,∃D,d={target:=.collected D,args:= #[]}/\lo<=D/\w.heap[D]?=some (.deferred (some []))/\∀b i,β b=some i->i.B≠D
theorem Marks.step {P:Program}{lo:Nat}{β β':Ren}{σ σ':CW}{w w':World}{ds:List Deferred}(h:Marks lo β w ds)(hst:Stp P β σ w β' σ' w'):Marks lo β' w' ds:=by
 refine⟨h.1,fun d hd=>?_⟩
 obtain⟨D,h1,h0,h2,h3⟩:=h.2 d hd
 have hlt:=lt_of_get h2
 refine⟨D,h1,h0,?_,fun b i hb=>?_⟩
 ·rw[hst.afr D hlt fun b i hb _=>h3 b i hb];exact h2
 ·rcases hst.new b i hb with g|⟨_,g⟩
  ·exact h3 b i g
  ·rcases g with⟨b0,i0,g1,_,g2⟩|g
   ·rw[<-g2];exact h3 b0 i0 g1
   ·omega
structure FRel (P:Program)(β:Ren)(n lo:Nat)(fr:Fr)(a:Act)(w:World):Prop where
 lob:lo<=w.heap.size
 size:n<=a.tmps.size
 defers:Marks lo β w a.defers
 rel:∀t,VRel P β (fr t) (a.tmps.getD t undef)
theorem FRel.step {P:Program}{β β':Ren}{σ σ':CW}{w w':World}{n lo:Nat}{fr:Fr}{a:Act}(h:FRel P β n lo fr a w)(hst:Stp P β σ w β' σ' w'):FRel P β' n lo fr a w':=
 ⟨Nat.le_trans h.lob hst.size,h.size,h.defers.step hst,fun t=>(h.rel t).mono hst.le⟩
theorem getD_put {a:Act}{d:Option Tmp}{v:Value}(hd:∀t,d=some t->t<a.tmps.size)(t:Nat):(a.put d v).tmps.getD t undef=if d=some t then v else a.tmps.getD t undef:=by
 cases d with
 |none=>simp[Act.put]
 |some d=>
  have:=hd d rfl
  simp only[Act.put,Array.getD_eq_getD_getElem?,Option.some.injEq]
  by_cases h:d=t
  ·subst h;simp[this]
  ·rw[if_neg h,Array.getElem?_setIfInBounds_ne h]
theorem FRel.put {P:Program}{β:Ren}{n lo:Nat}{fr:Fr}{a:Act}{w:World}(h:FRel P β n lo fr a w){d:Option Tmp}{v v':Value}(hd:∀t,d=some t->t<n)(hv:VRel P β v v'):FRel P β n lo (putT fr d v) (a.put d v') w:=by
 refine⟨h.lob,?_,?_,fun t=>?_⟩
 ·cases d<;>simp[Act.put,h.size]
 ·cases d<;>exact h.defers
 ·rw[getD_put (fun t ht=>Nat.lt_of_lt_of_le (hd t ht) h.size)]
  cases d with
  |none=>simpa[putT] using h.rel t
  |some d=>
   simp only[putT,Option.some.injEq]
   by_cases hdt:d=t
   ·subst hdt;simp only[upd_same,if_true];exact hv
   ·rw[upd_ne _ _ (Ne.symm hdt),if_neg hdt];exact h.rel t
theorem ev_rel {P:Program}{β:Ren}{fr:Fr}{a:Act}(hG:GOk P β){x:Operand}(hc:constOk P x=true)(h:∀t,x=.tmp t->VRel P β (fr t) (a.tmps.getD t undef)):VRel P β (ev fr x) (a.eval x):=by
 cases x with
 |tmp t=>exact h t rfl
 |const v=>exact plain_rel 8 v hc
 |global g=>
  obtain⟨i,h1,h2,h3⟩:=hG g (by simp[constOk,Nat.blt] at hc;omega)
  have:VRel P β (.pointer (some ⟨g,0,none⟩)) (.pointer (some ⟨i.B,0+i.sh,none⟩)):=.ptr h1
  rw[h2,h3] at this
  exact this
 |func f=>exact .func rfl rfl (fun j x y h=>by simp at h) (fun j x y h=>by simp at h)
structure SimC (P:Program)(C:CallQ):Prop where
 func:∀{f:Nat}{args:List Value}{σ:CW}{Q:Value->CW->Prop}{β:Ren}{w:World}{args':List Value},C (.func f) args σ Q->Rel P β σ w->GOk P β->LRel P β args args'->
  (∃ fn, P.funcs[f]? = some fn ∧ fn.body.isSome ∧ (fn.name == "runtime.NumGoroutine") = false) ∧
  CallsIn Fence.wide 0 P f args'.toArray w fun e w'=>∃v v' β' σ',Q v σ'/\e=.returned v'/\VRel P β' v v'/\Stp P β σ w β' σ' w'
 yield:∀{c:Nat}{args:List Value}{σ:CW}{Q:Value->CW->Prop}{β:Ren}{w:World}{args':List Value}{i:BI},C (.yield c) args σ Q->Rel P β σ w->GOk P β->LRel P β args args'->β c=some i->
  ∃f tmps assign body,(Instr.yield i.B args'.toArray).run P w=.ok (.round i.B f tmps assign body) w/\
   RoundIn Fence.wide 0 P i.B f tmps assign body w fun e w'=>∃v v' β' σ',Q v σ'/\e=.returned v'/\VRel P β' v v'/\Stp P β σ w β' σ' w'
 other:∀{f:Fn}{args:List Value}{σ:CW}{Q:Value->CW->Prop},C f args σ Q->(∃g,f=.func g)\/∃c,f=.yield c
section
variable {P:Program}{C:CallQ}{r:Option Nat}{β:Ren}{σ σ':CW}{w:World}{fr fr':Fr}{a:Act}{n:Nat}{ops:Array Oper}{o:Oper}{s:CStep}{Q:Exit->Act->World->Prop}
theorem stepOf_some (h:stepOf P n ops o=some s):∃q,compOp P o.op=some q/\s.op=q/\s.dst=o.dst/\(∀x∈o.op.operands,constOk P x=true)/\(∀t,o.dst=some t->t<n)/\
  ((o.guard=none/\s.guard=none)\/∃g b t,o.guard=some (g,b)/\s.guard=some (t,b)/\(ops[g]?).bind (·.dst)=some t):=by
 unfold stepOf at h
 split at h
 ·cases h
 ·rename_i q hq
  split at h
  ·cases h
  ·rename_i hc
   split at h
   ·cases h
   ·rename_i hd
    have hc':∀x∈o.op.operands,constOk P x=true:=by
     simp only[Bool.not_eq_true,Bool.not_eq_false'] at hc
     have hc2:=List.all_eq_true.1 hc
     intro x hx;exact hc2 x (by simpa using hx)
    have hd':∀t,o.dst=some t->t<n:=by
     intro t ht
     simp only[Bool.not_eq_true,Bool.not_eq_false'] at hd
     rw[ht] at hd
     simp[dstLt,Nat.blt] at hd;exact Nat.lt_of_lt_of_le (Nat.lt_succ_self t) hd
    split at h
    ·rename_i gd hg
     cases h
     refine⟨q,hq,rfl,rfl,hc',hd',?_⟩
     unfold guardOf at hg
     split at hg
     ·rename_i e;cases hg;exact .inl ⟨e,rfl⟩
     ·rename_i g b e
      split at hg
      ·rename_i t ht;cases hg;exact .inr ⟨g,b,t,e,rfl,ht⟩
      ·cases hg
    ·cases h
theorem bool_rel {v v':Value}(h:VRel P β v v')(b:Bool):v=.bool b↔v'=.bool b:=by
 constructor
 ·rintro rfl;exact h.bool_inv
 ·rintro rfl;cases h;rfl
theorem wants_rel (hs:stepOf P n ops o=some s)(hg:∀t b,s.guard=some (t,b)->VRel P β (fr t) (a.tmps.getD t undef)):Region.wanted o (yielded ops a.tmps)=wants fr s.guard:=by
 obtain⟨q,_,_,_,_,_,hgd⟩:=stepOf_some hs
 rcases hgd with⟨h1,h2⟩|⟨g,b,t,h1,h2,h3⟩
 ·simp[Region.wanted,wants,h1,h2]
 ·have hr:=hg t b h2
  have hy:yielded ops a.tmps g=match a.tmps[t]? with|some (.bool c)=>some c|_=>none:=by
   unfold yielded;rw[h3];rfl
  simp only[Region.wanted,wants,h1,h2,hy]
  rw[Array.getD_eq_getD_getElem?] at hr
  by_cases hb:∃c,fr t=.bool c
  ·obtain⟨c,hc⟩:=hb
   rw[hc] at hr
   have:=hr.bool_inv
   cases ht:a.tmps[t]? with
   |none=>rw[ht] at this;cases this
   |some u=>rw[ht] at this;simp at this;subst this;simp[hc]
  ·have hno:∀c,a.tmps[t]?≠some (.bool c):=by
    intro c hc
    rw[hc] at hr
    exact hb ⟨c,(bool_rel hr c).2 rfl⟩
   have e1:(match fr t with|.bool c=>c==b|_=>false)=false:=by
    cases hf:fr t<;>first|rfl|exact absurd ⟨_,hf⟩ hb
   have e2:(match a.tmps[t]? with|some (.bool c)=>some c|_=>none:Option Bool)=none:=by
    cases ht:a.tmps[t]? with
    |none=>rfl
    |some u=>cases u<;>first|rfl|exact absurd ht (hno _)
   refine Eq.trans ?_ e1.symm
   refine Eq.trans (congrArg (fun z=>z==some b) e2) ?_
   rfl
theorem lrel_map {l:List Operand}{ev' ρ:Operand->Value}(h:∀x∈l,VRel P β (ev' x) (ρ x)):LRel P β (l.map ev') (l.map ρ):=by
 induction l with
 |nil=>exact .nil
 |cons x l ih=>exact .cons (h x (by simp)) (ih fun y hy=>h y (by simp[hy]))
theorem compOp_call {op:Op}{q:COp}(h:compOp P op=some q)(hc:isCall q=true) :
  ∃c,op=.call c/\((∃f,c.callee=.value (.func f)/\q=.e (.call f c.args.toList))\/(∃t,c.callee=.value (.tmp t)/\q=.e (.callv (.tmp t) c.args.toList))):=by
 cases op
 case call c=>
  refine⟨c,rfl,?_⟩
  simp only[compOp] at h
  unfold compCall at h
  split at h
  ·rename_i f hcal
   split at h
   ·split at h
    ·split at h
     ·cases h
     ·cases h;exact .inl ⟨f,hcal,rfl⟩
    ·split at h
     ·split at h
      ·cases h;cases hc
      ·cases h
     ·cases h
   ·cases h
  ·rename_i t hcal;cases h;exact .inr ⟨t,hcal,rfl⟩
  all_goals (exfalso;repeat' (first|(cases h;done)|(cases h;cases hc;done)|split at h))
 case binOp op t x y t'=>
  exfalso
  simp only[compOp] at h
  split at h
  ·obtain⟨q',_,rfl⟩:=map_eq_p h;cases hc
  ·obtain⟨q',_,rfl⟩:=map_eq_p h;cases hc
  ·cases h;cases hc
 case convert src dst x=>
  exfalso
  simp only[compOp] at h
  unfold compConv at h
  repeat' (first|(cases h;done)|(cases h;cases hc;done)|split at h)
 case makeFunc fn first captured=>
  exfalso
  cases fn<;>simp only[compOp] at h<;>first|(cases h;done)|(cases h;cases hc;done)
 case makeMap t r=>
  exfalso
  cases r<;>simp only[compOp] at h<;>first|(cases h;done)|(cases h;cases hc;done)
 case next x s=>
  exfalso
  cases s<;>simp only[compOp] at h<;>first|(cases h;done)|(cases h;cases hc;done)
 all_goals
  exfalso
  simp only[compOp] at h
  repeat' (first|(cases h;done)|(cases h;cases hc;done)|split at h)
theorem r_callFunc {f : FuncId} {fn : Func} {args : Array Value} (h1 : P.funcs[f]? = some fn) (h2 : fn.body.isSome) (h3 : (fn.name == "runtime.NumGoroutine") = false) : (callFunc f args).run P w = .ok (.enter f args) w := by
 have hb:fn.body.isNone=false:=by cases e:fn.body with
  |none=>rw[e] at h2;cases h2
  |some _=>rfl
 simp only[callFunc,Sem.run_bind,run_program,Result.andThen,h1,h3,hb,Bool.false_eq_true,if_false,Sem.run_pure]
theorem op_noDefer {op:Op}{q:COp}(h:compOp P op=some q):∀c,op≠.defer c:=by
 rintro c rfl
 cases h
theorem sim_step (hP:ProgOk P)(hC:SimC P C)(hG:GOk P β)(h:Rel P β σ w){ev':Operand->Value}{q:COp}(hq:compOp P o.op=some q)(hop:∀x∈o.op.operands,VRel P β (ev' x) (a.eval x)){Qc:Value->CW->Prop}(hp:OpW C q ev' σ Qc)
  {K:Act->World->Prop}(hK:∀v σ' β' v' w',Qc v σ'->Stp P β σ w β' σ' w'->VRel P β' v v'->K (a.put o.dst v') w'):o.wpIn (WR r) 0 P a w K Q:=by
 have hρ:∀u,a.eval (.const u)=u:=fun _=>rfl
 have hρf:∀f,a.eval (.func f)=.func (.func f) #[] #[]:=fun _=>rfl
 unfold Oper.wpIn
 refine⟨fun _ _=>trivial,?_⟩
 rw[Oper.semAt_eq _ _ _ (op_noDefer hq)]
 have plain:∀v σ',OpR (fun _ _ _ _ _=>False) q ev' σ v σ'->isCall q=false->Qc v σ'->o.uponIn (WR r) 0 P a K Q ((execOp a.eval o).run P w):=by
  intro v σ' hp hnc hQ
  obtain⟨nx,w',β',h1,h2,h3⟩:=sim_op hP h hq hop hρ hρf hp hnc
  rw[h1]
  rcases h2 with⟨v',rfl,hv⟩|⟨rfl,rfl⟩
  ·exact hK v σ' β' v' w' hQ h3 hv
  ·exact hK _ σ' β' undef w' hQ h3 .undef
 have call:∀f (args args':List Value),C (.func f) args σ Qc->LRel P β args args'->(execOp a.eval o).run P w=(callFunc f args'.toArray).run P w->o.uponIn (WR r) 0 P a K Q ((execOp a.eval o).run P w):=by
  intro f args args' hc hl hrun
  obtain⟨⟨fn',hf1,hf2,hf3⟩,hcalls⟩:=hC.func hc h hG hl
  rw[hrun,r_callFunc hf1 hf2 hf3]
  refine⟨fun hd=>absurd hd (by simp[WR,Fence.wide]),CallsIn.mono hcalls fun e w' he=>?_⟩
  obtain⟨v,v',β',σ',hQ,rfl,hv,hst⟩:=he
  exact hK v σ' β' v' w' hQ hst hv
 cases q with
 |p q=>
  obtain⟨v,h1,h2⟩:=hp
  exact plain v σ ⟨h1,rfl⟩ rfl h2
 |a q=>
  obtain⟨obj,v,h1,h2⟩:=hp
  exact plain v _ ⟨obj,h1,rfl⟩ rfl h2
 |no=>exact hp.elim
 |e q=>
  by_cases hcall:isCall (.e q)=true
  ·obtain⟨c,hoo,hcase⟩:=compOp_call hq hcall
   rw[hoo] at hop
   have harg:∀x∈c.args.toList,VRel P β (ev' x) (a.eval x):=fun x hx=>hop x (by show x∈c.operands;unfold Call.operands;exact Array.mem_append.2 (.inr (by simpa using hx)))
   rcases hcase with⟨f,hcal,hqq⟩|⟨t,hcal,hqq⟩
   ·cases hqq
    refine call f _ _ hp (lrel_map harg) ?_
    have e1:(c.args.toList.map a.eval).toArray=c.args.map a.eval:=by apply Array.ext';simp only[Array.toList_map]
    rw[e1]
    simp only[execOp,hoo,resolve,hcal,hρf,Deferred.ofValue,Sem.run_bind,Sem.run_pure,Result.andThen,invoke]
    simp
   ·cases hqq
    obtain⟨f,x1,x2,hx,hp⟩:=hp
    have hfun:=hop (.tmp t) (by simp[Op.operands,Call.operands,hcal])
    rw[hx] at hfun
    rcases hfun.fn_inv with⟨f',b1,b2,e1,e2,hr1,hr2⟩|⟨c',i,e1,e2,e3,hi,e4⟩
    ·subst e1
     have hl:LRel P β (x1.toList++c.args.toList.map (ev')++x2.toList) (b1.toList++c.args.toList.map a.eval++b2.toList):=(hr1.append (lrel_map harg)).append hr2
     refine call f' _ _ hp hl ?_
     simp only[execOp,hoo,resolve,hcal,e2,Deferred.ofValue,Sem.run_bind,Sem.run_pure,Result.andThen,invoke]
     have e1:(b1.toList++c.args.toList.map a.eval++b2.toList).toArray=b1++c.args.map a.eval++b2:=by apply Array.ext';simp only[Array.toList_append,Array.toList_map]
     rw[e1]
    ·subst e1 e2 e3
     simp only[List.nil_append,List.append_nil] at hp
     obtain⟨fn,tmps,assign,body,g1,g2⟩:=hC.yield hp h hG (lrel_map harg) hi
     have e1:(c.args.toList.map a.eval).toArray=c.args.map a.eval:=by apply Array.ext';simp only[Array.toList_map]
     rw[e1] at g1
     have hrun:(execOp a.eval o).run P w=.ok (.round i.B fn tmps assign body) w:=by
      simp only[execOp,hoo,resolve,hcal,e4,Deferred.ofValue,Sem.run_bind,Sem.run_pure,Result.andThen,invoke]
      simpa using g1
     rw[hrun]
     refine⟨fun hd=>absurd hd (by simp[WR,Fence.wide]),RoundIn.mono g2 fun e w' he=>?_⟩
     obtain⟨v,v',β',σ',hQ,rfl,hv,hst⟩:=he
     exact hK v σ' β' v' w' hQ hst hv
  ·have hnc:isCall (.e q)=false:=by cases e:isCall (.e q)<;>first|rfl|exact absurd e hcall
   by_cases hnx:∃x,q=.next x
   ·obtain⟨x,rfl⟩:=hnx
    have ho:o.op=.next x false:=by
     cases ho:o.op<;>rw[ho] at hq<;>simp only[compOp] at hq
     case next y s=>
      cases s<;>simp only[compOp] at hq
      ·cases hq;rfl
      ·cases hq
     case binOp op t x' y t'=>
      exfalso
      split at hq
      ·obtain⟨q',_,h⟩:=map_eq_p hq;cases h
      ·obtain⟨q',_,h⟩:=map_eq_p hq;cases h
      ·cases hq
     case convert src dst x'=>
      exfalso
      unfold compConv at hq
      repeat' (first|(cases hq;done)|split at hq)
     case makeFunc fn first captured=>exfalso;cases fn<;>simp only at hq<;>cases hq
     case makeMap t r=>exfalso;cases r<;>simp only at hq<;>cases hq
     case call c=>
      exfalso
      unfold compCall at hq
      repeat' (first|(cases hq;done)|split at hq)
     all_goals
      exfalso
      repeat' (first|(cases hq;done)|split at hq)
    obtain⟨v,σ',v',w',h1,h2,h3,h4⟩:=q_next h ho (hop x (by simp[ho,Op.operands])) hp
    rw[h2]
    exact hK v σ' β v' w' h1 h4 h3
   ·have hp':∃v σ',eev q ev' σ=some (v,σ')/\Qc v σ':=by
     cases q<;>first|exact hp|(cases hnc;done)|exact absurd ⟨_,rfl⟩ hnx
    obtain⟨v,σ',h1,h2⟩:=hp'
    refine plain v σ' ?_ hnc h2
    cases q<;>first|exact h1|(cases hnc;done)
end
end Go.Cn
