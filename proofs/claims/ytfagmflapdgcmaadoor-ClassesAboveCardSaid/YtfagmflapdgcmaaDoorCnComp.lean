/- From the model's code to the canonical machine's. -/
import Derived.Test.YtfagmflapdgcmaaDoorCnComp0
namespace Go.Cn
set_option linter.unusedVariables false
set_option linter.unusedSimpArgs false

/-- nothing in it leads anywhere -/
def plain : Nat → Value → Bool
  | 0, _ => false
  | n + 1, v =>
    match v with
    | .bool _ => true
    | .int _ _ => true
    | .float _ _ => true
    | .complex _ _ _ => true
    | .string _ => true
    | .pointer none => true
    | .slice none l c => Nat.beq l 0 && Nat.beq c 0
    | .map none => true
    | .chan none => true
    | .nilFunc => true
    | .nilIface => true
    | .agg cs => cs.toList.all (plain n)
    | .tuple cs => cs.toList.all (plain n)
    | _ => false

def zeroP (P : Program) (t : TypeId) : Option Value :=
  match zeroOf P t with
  | some z => if plain 8 z then some z else none
  | none => none

def constOk (P : Program) : Operand → Bool
  | .const v => plain 8 v
  | .global g => Nat.blt g P.globals.size
  | _ => true

def placesOf (P : Program) (fs : List Field) : Option (List (Nat × Nat)) := fs.mapM fun f => (szOf P f.type).map fun n => (f.offset, n)
def placeAll (pl : List (Nat × Nat)) : List (Nat × Operand) → Option (List (Nat × Nat × Operand))
  | [] => some []
  | (i, x) :: l => match pl[i]?, placeAll pl l with
    | some (o, n), some r => some ((o, n, x) :: r)
    | _, _ => none
/-- the parts of a struct or an array, as they are placed -/
def partsOf (P : Program) (t : TypeId) (parts : List (Nat × Operand)) : Option (List (Nat × Nat × Operand)) :=
  match P.underlying t with
  | some (.struct fs) => match placesOf P fs.toList with
    | some pl => placeAll pl parts
    | none => none
  | some (.array _ e) => match szOf P e with
    | some n => some (parts.map fun (i, x) => (i * n, n, x))
    | none => none
  | _ => none

/-- the nil of a type -/
def nilOk (d : TypeDesc) (v : Value) : Bool :=
  match d, v with
  | .pointer _, .pointer none => true
  | .slice _, .slice none 0 0 => true
  | .map _ _, .map none => true
  | .func _ _ _, .nilFunc => true
  | .interface _, .nilIface => true
  | _, _ => false

def nilOf (d : TypeDesc) : Operand → Option Value
  | .const v => if nilOk d v then some v else none
  | _ => none

/-- Is it a pointer to something that has a size, that can be compared? -/
def ptrOk (P : Program) (t : TypeId) : Bool :=
  match P.info? t, P.underlying t with
  | some i, some (.pointer e) => i.comparable && (match szOf P e with | some n => !Nat.beq n 0 | none => false)
  | _, _ => false
def okTypes (P : Program) : List TypeId := (List.range P.types.size).filter (ptrOk P)
def isU8 (P : Program) (t : TypeId) : Bool := match P.underlying t with | some (.int .u8) => true | _ => false
def u8Types (P : Program) : List TypeId := (List.range P.types.size).filter (isU8 P)

def compEq (P : Program) (neg : Bool) (t : TypeId) (x y : Operand) : Option POp :=
  match P.underlying t with
  | some .bool => some (.beq neg x y)
  | some (.int _) => some (.bin (if neg then .neq else .eql) x y)
  | some .string => some (.bin (if neg then .neq else .eql) x y)
  | some d => match nilOf d y with
    | some c => some (.isnil neg c x)
    | none => match nilOf d x with
      | some c => some (.isnil neg c y)
      | none => match d with
        | .interface _ => some (.eqI neg (okTypes P) (u8Types P) x y)
        | _ => none
  | none => none

def isIntT (P : Program) (t : TypeId) : Bool := match P.underlying t with | some (.int _) => true | _ => false
def isStrT (P : Program) (t : TypeId) : Bool := match P.underlying t with | some .string => true | _ => false

/-- the length and the size of the elements of what is indexed or sliced -/
def compConv (P : Program) (src dst : TypeId) (x : Operand) : Option COp :=
  match P.underlying src, P.underlying dst with
  | some (.int _), some (.int k) => some (.p (.i2i k x))
  | some (.int _), some .string => some (.p (.i2s x))
  | some .string, some .string => some (.p (.s2s x))
  | some .string, some (.slice e) => match P.underlying e, szOf P e with
    | some (.int .u8), some 1 => some (.a (.s2b e x))
    | _, _ => none
  | some (.slice e), some .string => match P.underlying e with
    | some (.int .u8) => some (.p (.b2s x))
    | _ => none
  | some (.slice _), some (.slice e) => if src == dst then match P.underlying e with
    | some (.int .u8) => some (.e (.strish e x))
    | _ => none
    else none
  | _, _ => none

def isIntD : TypeDesc → Bool
  | .int _ => true
  | _ => false

def compCall (P : Program) (c : Call) : Option COp :=
  match c.callee with
  | .value (.func f) => match P.funcs[f]? with
    | some fn =>
      if fn.body.isSome then (if fn.name == "runtime.NumGoroutine" then none else some (.e (.call f c.args.toList)))
      else if fn.name == "internal/bytealg.abigen_runtime_cmpstring" then
        match c.args.toList with
        | [x, y] => some (.p (.cmp x y))
        | _ => none
      else none
    | none => none
  | .value (.tmp t) => some (.e (.callv (.tmp t) c.args.toList))
  | .builtin .len => match c.argTypes.toList, c.args.toList with
    | [t], [x] => match P.underlying t with
      | some .string => some (.p (.lenS x))
      | some (.slice _) => some (.p (.lenV x))
      | some (.map _ _) => some (.p (.lenM x))
      | _ => none
    | _, _ => none
  | .builtin .cap => match c.argTypes.toList, c.args.toList with
    | [t], [x] => match P.underlying t with
      | some (.slice _) => some (.p (.capV x))
      | _ => none
    | _, _ => none
  | .builtin .append => match c.argTypes.toList, c.args.toList with
    | [t, u], [s, x] => match P.underlying t, P.underlying u with
      | some (.slice e), some d => match szOf P e, bytesOf P e, zeroP P e with
        | some sz, some b, some z =>
          if Nat.beq sz 0 || Nat.beq b 0 || !Nat.beq (cellsOf z).length sz || isIntD d then none else some (.e (.append e sz b s x))
        | _, _, _ => none
      | _, _ => none
    | _, _ => none
  | .builtin .copy => match c.argTypes.toList, c.args.toList with
    | [t, _], [d, s] => match P.underlying t with
      | some (.slice e) => match szOf P e with
        | some sz => some (.e (.copy sz d s))
        | none => none
      | _ => none
    | _, _ => none
  | .builtin .delete => match c.argTypes.toList, c.args.toList with
    | [t, _], [m, k] => match P.underlying t with
      | some (.map kt _) => if isStrT P kt then some (.e (.delete true m k)) else if isIntT P kt then some (.e (.delete false m k)) else none
      | _ => none
    | _, _ => none
  | .builtin .clear => match c.argTypes.toList, c.args.toList with
    | [t], [x] => match P.underlying t with
      | some (.slice e) => match zeroP P e with
        | some z => if Nat.beq (cellsOf z).length 0 then none else some (.e (.clearV (cellsOf z) x))
        | none => none
      | _ => none
    | _, _ => none
  | .builtin .max => match c.args.toList with
    | [x, y] => some (.p (.mm true x y))
    | _ => none
  | .builtin .min => match c.args.toList with
    | [x, y] => some (.p (.mm false x y))
    | _ => none
  | _ => none

def compOp (P : Program) (op : Op) : Option COp :=
  match op with
  | .move x => some (.p (.mov x))
  | .assign x => some (.p (.mov x))
  | .pick c a b => some (.p (.pick c a b))
  | .alloc t => match zeroP P t with
    | some z => some (.a (.alloc t (cellsOf z)))
    | none => none
  | .box t x => some (.a (.box t x))
  | .build t parts => match zeroP P t, partsOf P t parts.toList with
    | some z, some ps => some (.p (.build (cellsOf z) ps))
    | _, _ => none
  | .buildSlice t len parts => match P.underlying t with
    | some (.slice e) => match szOf P e, zeroP P e with
      | some n, some z => if Nat.ble (len * n) 16777216 && Nat.beq (cellsOf z).length n && !Nat.beq n 0 then some (.a (.bsl e (cellsOf z) len (parts.toList.map fun (i, x) => (i * n, n, x)))) else none
      | _, _ => none
    | _ => none
  | .load t x => match aggOf P t, szOf P t with
    | some true, some n => some (.p (.ldN n x))
    | some false, some _ => some (.p (.ld1 x))
    | _, _ => none
  | .store t a x => match szOf P t, aggOf P t with
    | some n, some true => some (.e (.stN n a x))
    | some n, some false => if Nat.beq n 1 then some (.e (.st1 a x)) else none
    | _, _ => none
  | .nilCheck x => some (.p (.nilck x))
  | .binOp op t x y _ =>
    match op with
    | .eql => (compEq P false t x y).map .p
    | .neq => (compEq P true t x y).map .p
    | _ => some (.p (.bin op x y))
  | .unOp op _ x => some (.p (.un op x))
  | .convert src dst x => compConv P src dst x
  | .makeInterface t x => match P.underlying t with
    | some (.interface _) => none
    | some _ => some (.p (.mkif t x))
    | none => none
  | .makeFunc (.func f) first captured => some (.p (.mkfn f first.toList captured.toList))
  | .makeMap _ none => some (.a .mkmap)
  | .makeSlice t l c => match P.underlying t with
    | some (.slice e) => match bytesOf P e, zeroP P e, szOf P e with
      | some b, some z, some n => if Nat.beq (cellsOf z).length n && !Nat.beq n 0 then some (.a (.mksl e b (cellsOf z) l c)) else none
      | _, _, _ => none
    | _ => none
  | .slice t x lo hi mx => match P.underlying t with
    | some .string => if mx.isNone then some (.p (.slS x lo hi)) else none
    | some (.slice e) => match szOf P e with
      | some n => if mx.isSome && hi.isNone then none else some (.p (.slV e n x lo hi mx))
      | none => none
    | _ => none
  | .fieldAddr t x f => match P.underlying t with
    | some (.struct fs) => match fs[f]? with
      | some fd => match szOf P fd.type with
        | some n => if Nat.beq n 0 then none else some (.p (.fa fd.offset x))
        | none => none
      | none => none
    | _ => none
  | .field t x f => match P.underlying t with
    | some (.struct fs) => match fs[f]? with
      | some fd => match szOf P fd.type, aggOf P fd.type with
        | some n, some b => some (.p (.fld fd.offset n b x))
        | _, _ => none
      | none => none
    | _ => none
  | .indexAddr t x i => match P.underlying t with
    | some (.slice e) => match szOf P e with
      | some n => some (.p (.ia n x i))
      | none => none
    | _ => none
  | .index t x i => match P.underlying t with
    | some .string => some (.p (.ixS x i))
    | _ => none
  | .lookup t m k ok => match P.underlying t with
    | some (.map kt e) => match zeroP P e with
      | some z => if isStrT P kt then some (.p (.lookup true z ok m k)) else if isIntT P kt then some (.p (.lookup false z ok m k)) else none
      | none => none
    | _ => none
  | .mapUpdate t m k x => match P.underlying t with
    | some (.map kt _) => if isStrT P kt then some (.e (.mapupd true m k x)) else if isIntT P kt then some (.e (.mapupd false m k x)) else none
    | _ => none
  | .insert t m k x => match P.underlying t with
    | some (.map kt _) => if isStrT P kt then some (.e (.mapupd true m k x)) else if isIntT P kt then some (.e (.mapupd false m k x)) else none
    | _ => none
  | .typeAssert x _ t ok => match P.underlying t with
    | some (.interface _) => none
    | some _ => match zeroP P t with
      | some z => some (.p (.ta t z ok x))
      | none => none
    | none => none
  | .extract x i => some (.p (.ext x i))
  | .range t x => match P.underlying t with
    | some (.map _ _) => some (.e (.range x))
    | _ => none
  | .next x false => some (.e (.next x))
  | .entry x => some (.p (.entry x))
  | .call c => compCall P c
  | _ => none

def dstLt (n : Nat) : Option Tmp → Bool
  | some d => Nat.blt d n
  | none => true

/-- the temporary that a guard looks at -/
def guardOf (ops : Array Oper) : Option (Nat × Bool) → Option (Option (Tmp × Bool))
  | none => some none
  | some (g, b) => match (ops[g]?).bind (·.dst) with
    | some t => some (some (t, b))
    | none => none

def stepOf (P : Program) (ntmps : Nat) (ops : Array Oper) (o : Oper) : Option CStep :=
  match compOp P o.op with
  | none => none
  | some c =>
    if !(o.op.operands.toList.all (constOk P)) then none else
    if !dstLt ntmps o.dst then none else
    match guardOf ops o.guard with
    | some g => some ⟨o.dst, g, c⟩
    | none => none

/-- Does it read memory? -/
def reads : POp → Bool
  | .b2s _ => true
  | .lookup _ _ _ _ _ => true
  | .eqI _ _ _ _ _ => true
  | .slV _ _ _ _ _ _ => true
  | .lenM _ => true
  | .ld1 _ => true
  | .ldN _ _ => true
  | .entry _ => true
  | _ => false

def bit (n i : Nat) : Bool := Nat.beq (Nat.mod (Nat.shiftRight n i) 2) 1
/-- who must stand ahead of each, as bits -/
def ancs : List Oper → Nat → List Nat → Option (List Nat)
  | [], _, acc => some acc
  | o :: l, i, acc =>
    let es := (o.after.toList.filter (Region.binds .any)).map (·.on)
    if es.all (Nat.blt · i) then ancs l (i + 1) (acc ++ [es.foldl (fun m e => Nat.lor m (Nat.lor (acc.getD e 0) (Nat.shiftLeft 1 e))) 0]) else none

/-- the temporaries that an operation looks at -/
def tmpsOf (s : CStep) (o : Oper) : List Tmp :=
  (o.op.operands.toList.filterMap fun | .tmp t => some t | _ => none) ++ (match s.guard with | some (t, _) => [t] | none => [])

def isEC : COp → Bool
  | .e _ => true
  | .no => true
  | _ => false
/-- Is it an effect, or an assignment to a variable? -/
def isE (s : CStep) (o : Oper) : Bool := isEC s.op || (match o.op with | .assign _ => true | _ => false)

def hasDst (t : Tmp) (r : CStep) : Bool :=
  match r.dst with
  | some d => Nat.beq d t
  | none => false
structure DPlan where
  seg : List CStep
  stages : List Stage

/-- An operation of a region: its place, who must stand ahead (as bits), its compiled step. -/
structure Item where
  i : Nat
  anc : Nat
  eff : Bool
  s : CStep
  o : Oper

def itemsOf : List Oper → List CStep → List Nat → Nat → List Item
  | o :: os, s :: ss, a :: as, i => ⟨i, a, isE s o, s, o⟩ :: itemsOf os ss as (i + 1)
  | _, _, _, _ => []

/-- how many of these stand ahead -/
def countB (effs : List Nat) (a : Nat) : Nat := (effs.filter (bit a)).length

/-- a reading that may stand behind the effect ahead of which 'anc' stand -/
def againOf (anc : Nat) (x : Item) : Option Again :=
  match x.s.op, x.s.dst with
  | .p o, some t => if reads o && !bit anc x.i then some ⟨t, x.s.guard, o⟩ else none
  | _, _ => none

/-- what can be made when 'k' effects are made, and not ahead -/
def segOf (l : List Item) (effs : List Nat) (k : Nat) : List Item := l.filter fun x => !x.eff && Nat.beq (countB effs x.anc) k
/-- each effect, and what can be made behind it alone -/
def pairsOf (l : List Item) (effs : List Nat) : List Item → Nat → List (Item × List Item)
  | [], _ => []
  | e :: es, k => (e, segOf l effs (k + 1)) :: pairsOf l effs es (k + 1)
def stagesOf : List Item → List (Item × List Item) → List Stage
  | _, [] => []
  | done, (e, seg) :: r => ⟨e.s, done.filterMap (againOf e.anc), seg.map (·.s)⟩ :: stagesOf (done ++ e :: seg) r
def ordOf : List (Item × List Item) → List Item
  | [] => []
  | (e, seg) :: r => e :: (seg ++ ordOf r)

/-- what is asked of two operations, of which the second stands behind the first -/
def okPair (x y : Item) : Bool :=
  !Nat.beq x.i y.i && (match x.s.dst with | some d => !hasDst d y.s | none => true) && (!x.eff || bit y.anc x.i) &&
  (tmpsOf x.s x.o).all (fun t => !hasDst t y.s || (y.eff && bit y.anc x.i)) && (tmpsOf y.s y.o).all (fun t => !hasDst t x.s || bit y.anc x.i)
/-- what is asked of one -/
def okOne (x : Item) : Bool :=
  (x.eff || (tmpsOf x.s x.o).all fun t => !hasDst t x.s) && (match x.s.op, x.s.dst with | .p o, none => !reads o | _, _ => true)
def okOrd : List Item → Bool
  | [] => true
  | x :: l => okOne x && l.all (okPair x) && okOrd l

def planOf (P : Program) (ntmps : Nat) (ops : Array Oper) : Option DPlan :=
  match ancs ops.toList 0 [], ops.toList.mapM (stepOf P ntmps ops) with
  | some anc, some ss =>
    let l := itemsOf ops.toList ss anc 0
    let es := l.filter (·.eff)
    let effs := es.map (·.i)
    let s0 := segOf l effs 0
    let r := pairsOf l effs es 0
    let ord := s0 ++ ordOf r
    if okOrd ord && l.all (fun x => ord.any fun y => Nat.beq y.i x.i) then some ⟨s0.map (·.s), stagesOf s0 r⟩ else none
  | _, _ => none

/-- no range over a function stands in it -/
def flat : Code → Bool
  | .seq a b => flat a && flat b
  | .cond _ a b => flat a && flat b
  | .block _ c => flat c
  | .loop c => flat c
  | .scope c => flat c
  | .rangeFunc _ _ _ _ => false
  | _ => true

def compCode (P : Program) (ntmps : Nat) : Code → CCode
  | .skip => .skip
  | .region _ ops false => match ops.toList.mapM (stepOf P ntmps ops) with
    | some l => .region l
    | none => .no
  | .region _ ops true => match planOf P ntmps ops with
    | some p => .dregion p.seg p.stages
    | none => .no
  | .seq a b => .seq (compCode P ntmps a) (compCode P ntmps b)
  | .cond c a b => if constOk P c then .cond c (compCode P ntmps a) (compCode P ntmps b) else .no
  | .block id c => .block id (compCode P ntmps c)
  | .loop c => .loop (compCode P ntmps c)
  | .exit id => .exit id
  | .scope c => compCode P ntmps c
  | .label _ => .skip
  | .ret => .ret
  | .rangeFunc f ps a b => if constOk P f && ps.toList.all (Nat.blt · ntmps) && flat a && flat b then .rfun f ps.toList (compCode P ntmps a) (compCode P ntmps b) else .no
  | _ => .no

def compRes (P : Program) : ResultVar → Option CRes
  | .tmp t => some (.tmp t)
  | .cell a t => match aggOf P t, szOf P t with
    | some true, some n => some (.ldN n a)
    | some false, some _ => some (.ld1 a)
    | _, _ => none

def compFun (P : Program) (fn : Func) : Option CFun :=
  match fn.body, fn.results.toList.mapM (compRes P) with
  | some c, some rs => some ⟨compCode P fn.ntmps c, rs⟩
  | _, _ => none

end Go.Cn
