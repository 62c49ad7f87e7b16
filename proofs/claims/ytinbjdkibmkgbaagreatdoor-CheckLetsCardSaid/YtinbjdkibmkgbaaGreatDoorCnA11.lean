/- Code step by step: the equations. -/

import Derived.Test.YtinbjdkibmkgbaaGreatDoorCnSimRun
import Derived.ChangeMade
import Derived.ChangeSame
import Derived.LaidLaws
import Derived.Stop.LaidErr
import Derived.LaidHandle
import Derived.ProofKit
import Derived.Lay
namespace Go.Cn
set_option linter.unusedVariables false
set_option linter.unusedSimpArgs false
section
variable {T:Nat->Option CFun}{K:Nat->Prop}{fr:AFr}{h:AH}{Q:AQ}{R:CExit->AQ}
theorem e_skip:wpC T K .skip fr h R=R .normal fr h:=rfl
theorem e_region {l:List MStep}:wpC T K (.region l) fr h R=wpL T K l fr h (R .normal):=rfl
theorem e_dregion {l:List MStep}{g:List MStage}(ho:okD l g):wpC T K (.dregion l g) fr h R=wpL T K l fr h (kT T K g (R .normal)):=by
 show (_/\_)=_
 exact propext ⟨fun h=>h.2,fun h=>⟨ho,h⟩⟩
theorem e_seq {a b:MCode}:wpC T K (.seq a b) fr h R=wpC T K a fr h (kC T K b R):=by
 show wpC T K a fr h _=_
 congr 1
 funext e fr h
 cases e<;>rfl
theorem e_cond {c:Operand}{a b:MCode}:wpC T K (.cond c a b) fr h R=wpI T K a b fr h R (evA fr c):=rfl
theorem e_block {id:Nat}{b:MCode}:wpC T K (.block id b) fr h R=wpC T K b fr h (kB id R):=rfl
theorem e_loop {b:MCode}:wpC T K (.loop b) fr h R=W T K (.loop b.toC) fr h R:=rfl
theorem e_exit {id:Nat}:wpC T K (.exit id) fr h R=R (.exit id) fr h:=rfl
theorem e_ret:wpC T K .ret fr h R=R .ret fr h:=rfl
theorem e_rfun {f:Operand}{ps:List Tmp}{a b:MCode}:wpC T K (.rfun f ps a b) fr h R=W T K (.rfun f ps a.toC b.toC) fr h R:=rfl
theorem e_kCn {b:MCode}:kC T K b R .normal fr h=wpC T K b fr h R:=rfl
theorem e_kCe {b:MCode}{i:Nat}:kC T K b R (.exit i) fr h=R (.exit i) fr h:=rfl
theorem e_kCr {b:MCode}:kC T K b R .ret fr h=R .ret fr h:=rfl
theorem e_kBn {i:Nat}:kB i R .normal fr h=R .normal fr h:=rfl
theorem e_kBr {i:Nat}:kB i R .ret fr h=R .ret fr h:=rfl
theorem e_kBe {i j:Nat}:kB i R (.exit j) fr h=if j=i then R .normal fr h else R (.exit j) fr h:=by
 unfold kB
 by_cases e:j=i
 ·subst e;simp
 ·simp[e]
theorem e_It {a b:MCode}:wpI T K a b fr h R (.bool true)=wpC T K a fr h R:=propext ⟨fun⟨t,h1,h2⟩=>by cases h1;exact h2,fun h=>⟨true,rfl,h⟩⟩
theorem e_If {a b:MCode}:wpI T K a b fr h R (.bool false)=wpC T K b fr h R:=propext ⟨fun⟨t,h1,h2⟩=>by cases h1;exact h2,fun h=>⟨false,rfl,h⟩⟩
theorem e_Ln:wpL T K [] fr h Q=Q fr h:=rfl
theorem e_Lc {s:MStep}{l:List MStep}:wpL T K (s::l) fr h Q=wpS T K s fr h (kL T K l Q):=rfl
theorem e_kL {l:List MStep}:kL T K l Q fr h=wpL T K l fr h Q:=rfl
theorem e_kTn:kT T K [] Q fr h=Q fr h:=rfl
theorem e_kTc {e:MStep}{ag:List Again}{seg:List MStep}{l:List MStage}:kT T K (⟨e,ag,seg⟩::l) Q fr h=onS (depL fr ag) (kE T K ⟨e,ag,seg⟩ l Q fr h):=rfl
theorem e_kE0 {e:MStep}{ag:List Again}{seg:List MStep}{l:List MStage}:kE T K ⟨e,ag,seg⟩ l Q fr h []=wpS T K e fr h (kG T K seg l Q):=by
 show ((∀b∈[],_)/\wpS T (KU K []) e fr h (kG T K seg l Q))=_
 rw[KU_nil];simp
theorem e_kE1 {e:MStep}{ag:List Again}{seg:List MStep}{l:List MStage}{b:Nat}{ds:List Nat}:kE T K ⟨e,ag,seg⟩ l Q fr h (b::ds)=((h.objs b≠none/\∀b∈ds,h.objs b≠none)/\wpS T (KU K (b::ds)) e fr h (kG T K seg l Q)):=by
 show ((∀b'∈b::ds,_)/\_)=_
 simp
theorem e_kG {seg:List MStep}{l:List MStage}:kG T K seg l Q fr h=wpL T K seg fr h (kT T K l Q):=rfl
theorem e_depn:depL fr []=some []:=rfl
theorem e_depc {a:Again}{l:List Again}:depL fr (a::l)=match depG fr a,depL fr l with
  |some x,some y=>some (x++y)
  |_,_=>none:=rfl
theorem e_dGn {t:Tmp}{o:POp}:depG fr ⟨t,none,o⟩=depA o (evA fr):=rfl
theorem e_Sn {d:Option Tmp}{op:MOp}:wpS T K ⟨d,none,op⟩ fr h Q=wpO T K d op fr h Q:=rfl
theorem e_Sg {d:Option Tmp}{op:MOp}{t:Tmp}{b:Bool}:wpS T K ⟨d,some (t,b),op⟩ fr h Q=wpG T K d op fr h Q b (fr t):=rfl
theorem e_Gtt {d:Option Tmp}{op:MOp}:wpG T K d op fr h Q true (.bool true)=(isIni op=false/\wpO T K d op fr h Q):=propext ⟨fun⟨h0,h⟩=>by rcases h with⟨t,h1,h2⟩|⟨h1,_⟩<;>cases h1;exact⟨h0,h2⟩,fun h=>⟨h.1,.inl ⟨true,rfl,h.2⟩⟩⟩
theorem e_Gff {d:Option Tmp}{op:MOp}:wpG T K d op fr h Q false (.bool false)=(isIni op=false/\wpO T K d op fr h Q):=propext ⟨fun⟨h0,h⟩=>by rcases h with⟨t,h1,h2⟩|⟨h1,_⟩<;>cases h1;exact⟨h0,h2⟩,fun h=>⟨h.1,.inl ⟨false,rfl,h.2⟩⟩⟩
theorem e_Gtf {d:Option Tmp}{op:MOp}:wpG T K d op fr h Q true (.bool false)=(isIni op=false/\Q (setA fr d (.tuple [])) h):=propext ⟨fun⟨h0,h⟩=>by rcases h with⟨t,h1,h2⟩|⟨h1,_⟩<;>cases h1;exact⟨h0,h2⟩,fun h=>⟨h.1,.inl ⟨false,rfl,h.2⟩⟩⟩
theorem e_Gft {d:Option Tmp}{op:MOp}:wpG T K d op fr h Q false (.bool true)=(isIni op=false/\Q (setA fr d (.tuple [])) h):=propext ⟨fun⟨h0,h⟩=>by rcases h with⟨t,h1,h2⟩|⟨h1,_⟩<;>cases h1;exact⟨h0,h2⟩,fun h=>⟨h.1,.inl ⟨true,rfl,h.2⟩⟩⟩
theorem e_Gu {d:Option Tmp}{op:MOp}{b:Bool}:wpG T K d op fr h Q b (.tuple [])=(isIni op=false/\Q (setA fr d (.tuple [])) h):=propext ⟨fun⟨h0,h⟩=>h.elim (fun⟨t,h1,h2⟩=>by cases h1) fun⟨_,h2⟩=>⟨h0,h2⟩,fun h=>⟨h.1,.inr ⟨rfl,h.2⟩⟩⟩
theorem i_p {o:POp}:isIni (.p o)=false:=rfl
theorem i_alloc {E:TypeId}{zs:List Value}:isIni (.alloc E zs)=false:=rfl
theorem i_zer {E:TypeId}{zs:List Value}:isIni (.zer E zs)=false:=rfl
theorem i_box {b:Bool}{E:TypeId}{x:Operand}:isIni (.box b E x)=false:=rfl
theorem i_bsl {E:TypeId}{zs:List Value}{n:Nat}{ps:List (Nat×Nat×Operand)}:isIni (.bsl E zs n ps)=false:=rfl
theorem i_mkmap:isIni .mkmap=false:=rfl
theorem i_st1 {a x:Operand}:isIni (.st1 a x)=false:=rfl
theorem i_stN {n:Nat}{a x:Operand}:isIni (.stN n a x)=false:=rfl
theorem i_fz1 {t:Tmp}{x:Operand}:isIni (.fz1 t x)=false:=rfl
theorem i_fzN {n:Nat}{t:Tmp}{x:Operand}:isIni (.fzN n t x)=false:=rfl
theorem i_mu {s:Bool}{m k x:Operand}:isIni (.mapupd s m k x)=false:=rfl
theorem i_md {s:Bool}{m k:Operand}:isIni (.delete s m k)=false:=rfl
theorem i_call {f:FuncId}{a:List Operand}:isIni (.call f a)=false:=rfl
theorem i_callv {x:Operand}{a:List Operand}:isIni (.callv x a)=false:=rfl
theorem i_oth {o:COp}:isIni (.oth o)=false:=rfl
variable {d:Option Tmp}
theorem o_p {o:POp}:wpO T K d (.p o) fr h Q=onS (pevA o (evA fr) h) (kP Q fr d h):=rfl
theorem o_alloc {E:TypeId}{zs:List Value}:wpO T K d (.alloc E zs) fr h Q=AllNew K h (kNew Q fr d h (fun b=>.ptr b 0) (.cells (zs.map ofC1) E)):=rfl
theorem o_ini {one:Bool}{E:TypeId}{zs:List Value}{x:Operand}:wpO T K d (.ini one E zs x) fr h Q=(((one=true->zs.length=1)/\d.isSome=true/\notT d x=true/\isAny (evA fr x)=false/\(cellsA (evA fr x)).length=zs.length/\zs≠[]/\(cellsA (evA fr x)).all oneA=true)/\kP Q fr d h (.rptr (cellsA (evA fr x)))):=rfl
theorem o_zer {E:TypeId}{zs:List Value}:wpO T K d (.zer E zs) fr h Q=(zs≠[]/\kP Q fr d h (.rptr (zs.map ofC1))):=rfl
theorem o_boxT {E:TypeId}{x:Operand}:wpO T K d (.box true E x) fr h Q=((isAny (evA fr x)=false/\cellsA (evA fr x)≠[])/\kP Q fr d h (.rptr (cellsA (evA fr x)))):=rfl
theorem o_boxF {E:TypeId}{x:Operand}:wpO T K d (.box false E x) fr h Q=((isAny (evA fr x)=false/\cellsA (evA fr x)≠[])/\AllNew K h (kNew Q fr d h (fun b=>.ptr b 0) (.cells (cellsA (evA fr x)) E))):=rfl
theorem o_bsl {E:TypeId}{z0:List Value}{n:Nat}{ps:List (Nat×Nat×Operand)}:wpO T K d (.bsl E z0 n ps) fr h Q=((0<n/\0<z0.length/\n<=big)/\onS (fillA ((zerosL z0 n).map ofC1) (ps.map fun (o,s,x)=>(o,s,evA fr x))) (kBsl Q fr d h E z0.length n)):=rfl
theorem o_mkmap:wpO T K d .mkmap fr h Q=AllNew K h (kNew Q fr d h (fun b=>.map b) (.map [])):=rfl
theorem o_st1 {a x:Operand}:wpO T K d (.st1 a x) fr h Q=stP K h (evA fr x) 1 (kPut Q fr d h) (evA fr a):=rfl
theorem o_stN {n:Nat}{a x:Operand}:wpO T K d (.stN n a x) fr h Q=stP K h (evA fr x) n (kPut Q fr d h) (evA fr a):=rfl
theorem o_fz1 {t:Tmp}{x:Operand}:wpO T K none (.fz1 t x) fr h Q=fzP K h (evA fr x) 1 (kFz Q fr none h t) (fr t):=by
 show (_/\_)=_
 simp
theorem o_fzN {n:Nat}{t:Tmp}{x:Operand}:wpO T K none (.fzN n t x) fr h Q=fzP K h (evA fr x) n (kFz Q fr none h t) (fr t):=by
 show (_/\_)=_
 simp
theorem o_mu {s:Bool}{m k x:Operand}:wpO T K d (.mapupd s m k x) fr h Q=muP K h s (evA fr k) (evA fr x) (kMap Q fr d h) (evA fr m):=rfl
theorem o_md {s:Bool}{m k:Operand}:wpO T K d (.delete s m k) fr h Q=mdP K h s (evA fr k) (kMap Q fr d h) (evA fr m):=rfl
theorem o_call {f:FuncId}{a:List Operand}:wpO T K d (.call f a) fr h Q=ACall T K (.func f) (a.map (evA fr)) h (kV Q fr d):=rfl
theorem o_callv {x:Operand}{a:List Operand}:wpO T K d (.callv x a) fr h Q=cvP T K h (a.map (evA fr)) (kV Q fr d) (evA fr x):=rfl
theorem o_oth {o:COp}:wpO T K d (.oth o) fr h Q=WO T K o fr h (kV Q fr d):=rfl
theorem e_onS {α:Type}{a:α}{Q:α->Prop}:onS (some a) Q=Q a:=propext ⟨fun⟨b,h1,h2⟩=>by cases h1;exact h2,fun h=>⟨a,rfl,h⟩⟩
theorem e_kV {a:AV}:kV Q fr d a h=Q (setA fr d a) h:=rfl
theorem e_kP {a:AV}:kP Q fr d h a=Q (setA fr d a) h:=rfl
theorem e_kNew {mk:Nat->AV}{o:AO}{b:Nat}:kNew Q fr d h mk o b=Q (setA fr d (mk b)) (h.set b o):=rfl
theorem e_kBsl {E:TypeId}{sz n:Nat}{cs:List AV}:kBsl Q fr d h E sz n cs=Q (setA fr d (.lst E (chunkA sz n cs) .no)) h:=rfl
theorem e_kPut {b:Nat}{E:TypeId}{cs:List AV}:kPut Q fr d h b E cs=Q (setA fr d .any) (h.set b (.cells cs E)):=rfl
theorem e_kFz {t:Tmp}{b:Nat}{E:TypeId}{cs:List AV}:kFz Q fr d h t b E cs=(cs≠[]/\Q (upd (setA fr d .any) t (.rptr cs)) (h.del b)):=rfl
theorem e_kMap {b:Nat}{es:List (AV×AV)}:kMap Q fr d h b es=Q (setA fr d .any) (h.set b (.map es)):=rfl
theorem e_setn {a:AV}:setA fr none a=fr:=rfl
theorem e_sets {t:Tmp}{a:AV}:setA fr (some t) a=upd fr t a:=rfl
theorem e_upd {t u:Tmp}{a:AV}:upd fr t a u=if u=t then a else fr u:=rfl
theorem e_evt {t:Tmp}:evA fr (.tmp t)=fr t:=rfl
theorem e_evc {v:Value}:evA fr (.const v)=ofC v:=rfl
theorem e_evg {g:Nat}:evA fr (.global g)=.ptr g 0:=rfl
theorem e_evf {f:Nat}:evA fr (.func f)=.func f [] []:=rfl
theorem e_st {v:AV}{n b off:Nat}{k:Nat->TypeId->List AV->Prop}:stP K h v n k (.ptr b off)=onS (h.objs b) (stO K b off v n (k b)):=propext ⟨fun⟨b',o',h1,h2⟩=>by cases h1;exact h2,fun h=>⟨b,off,rfl,h⟩⟩
theorem e_stO {v:AV}{n b off:Nat}{E:TypeId}{cs:List AV}{k:TypeId->List AV->Prop}:stO K b off v n k (.cells cs E)=((¬K b/\isAny v=false/\(cellsA v).length=n/\(cellsA v).all oneA=true)/\onS (putA cs off (cellsA v)) (k E)):=propext ⟨fun⟨c',E',h1,h2⟩=>by cases h1;exact h2,fun h=>⟨cs,E,rfl,h⟩⟩
theorem e_fz {v:AV}{n b:Nat}{k:Nat->TypeId->List AV->Prop}:fzP K h v n k (.ptr b 0)=onS (h.objs b) (stO K b 0 v n (k b)):=propext ⟨fun⟨b',h1,h2⟩=>by cases h1;exact h2,fun h=>⟨b,rfl,h⟩⟩
theorem e_mu {s:Bool}{kk v:AV}{b:Nat}{k:Nat->List (AV×AV)->Prop}:muP K h s kk v k (.map b)=onS (h.objs b) (muO K b s kk v (k b)):=propext ⟨fun⟨b',h1,h2⟩=>by cases h1;exact h2,fun h=>⟨b,rfl,h⟩⟩
theorem e_muO {s:Bool}{kk v:AV}{b:Nat}{es:List (AV×AV)}{k:List (AV×AV)->Prop}:muO K b s kk v k (.map es)=((¬K b/\isKeyA s kk=true)/\onS (mputA kk v es) k):=propext ⟨fun⟨b',h1,h2⟩=>by cases h1;exact h2,fun h=>⟨es,rfl,h⟩⟩
theorem e_md {s:Bool}{kk:AV}{b:Nat}{k:Nat->List (AV×AV)->Prop}:mdP K h s kk k (.map b)=onS (h.objs b) (mdO K b s kk (k b)):=propext ⟨fun⟨b',h1,h2⟩=>by cases h1;exact h2,fun h=>⟨b,rfl,h⟩⟩
theorem e_mdO {s:Bool}{kk:AV}{b:Nat}{es:List (AV×AV)}{k:List (AV×AV)->Prop}:mdO K b s kk k (.map es)=((¬K b/\isKeyA s kk=true)/\onS (mdelA kk es) k):=propext ⟨fun⟨b',h1,h2⟩=>by cases h1;exact h2,fun h=>⟨es,rfl,h⟩⟩
theorem e_cv {f:Nat}{a b args:List AV}{Q:AV->AH->Prop}:cvP T K h args Q (.func f a b)=ACall T K (.func f) (a++args++b) h Q:=by
 refine propext ⟨fun h=>?_,fun h=>.inl ⟨f,a,b,rfl,h⟩⟩
 rcases h with⟨f',a',b',h1,h2⟩|⟨c,h1,_⟩
 ·cases h1;exact h2
 ·cases h1
theorem e_cy {c:Nat}{args:List AV}{Q:AV->AH->Prop}:cvP T K h args Q (.yield c)=ACall T K (.yield c) args h Q:=by
 refine propext ⟨fun h=>?_,fun h=>.inr ⟨c,rfl,h⟩⟩
 rcases h with⟨f',a',b',h1,h2⟩|⟨c,h1,h2⟩
 ·cases h1
 ·cases h1;exact h2
theorem c_agg {cs:List AV}:cellsA (.agg cs)=cs:=rfl
theorem c_bool {b:Bool}:cellsA (.bool b)=[.bool b]:=rfl
theorem c_int {k:IntKind}{n:Int}:cellsA (.int k n)=[.int k n]:=rfl
theorem c_str {s:List UInt8}:cellsA (.str s)=[.str s]:=rfl
theorem c_lst {E:TypeId}{es:List (List AV)}{t:Tag}:cellsA (.lst E es t)=[.lst E es t]:=rfl
theorem c_rptr {cs:List AV}:cellsA (.rptr cs)=[.rptr cs]:=rfl
theorem c_ptr {b o:Nat}:cellsA (.ptr b o)=[.ptr b o]:=rfl
theorem c_map {b:Nat}:cellsA (.map b)=[.map b]:=rfl
theorem c_fmap {es:List (AV×AV)}:cellsA (.fmap es)=[.fmap es]:=rfl
theorem c_nilp:cellsA .nilp=[.nilp]:=rfl
theorem c_nilm:cellsA .nilm=[.nilm]:=rfl
theorem c_nilf:cellsA .nilf=[.nilf]:=rfl
theorem c_nili:cellsA .nili=[.nili]:=rfl
theorem c_iface {t:TypeId}{v:AV}:cellsA (.iface t v)=[.iface t v]:=rfl
theorem c_func {f:Nat}{a b:List AV}:cellsA (.func f a b)=[.func f a b]:=rfl
theorem c_slice {b o l c:Nat}:cellsA (.slice b o l c)=[.slice b o l c]:=rfl
theorem a_agg {cs:List AV}:isAny (.agg cs)=false:=rfl
theorem a_bool {b:Bool}:isAny (.bool b)=false:=rfl
theorem a_int {k:IntKind}{n:Int}:isAny (.int k n)=false:=rfl
theorem a_str {s:List UInt8}:isAny (.str s)=false:=rfl
theorem a_lst {E:TypeId}{es:List (List AV)}{t:Tag}:isAny (.lst E es t)=false:=rfl
theorem a_rptr {cs:List AV}:isAny (.rptr cs)=false:=rfl
theorem a_ptr {b o:Nat}:isAny (.ptr b o)=false:=rfl
theorem a_map {b:Nat}:isAny (.map b)=false:=rfl
theorem a_fmap {es:List (AV×AV)}:isAny (.fmap es)=false:=rfl
theorem a_nilp:isAny .nilp=false:=rfl
theorem a_nilm:isAny .nilm=false:=rfl
theorem a_nilf:isAny .nilf=false:=rfl
theorem a_nili:isAny .nili=false:=rfl
theorem a_iface {t:TypeId}{v:AV}:isAny (.iface t v)=false:=rfl
theorem a_func {f:Nat}{a b:List AV}:isAny (.func f a b)=false:=rfl
theorem a_slice {b o l c:Nat}:isAny (.slice b o l c)=false:=rfl
theorem n_bool {b:Bool}:oneA (.bool b)=true:=rfl
theorem n_int {k:IntKind}{n:Int}:oneA (.int k n)=true:=rfl
theorem n_str {s:List UInt8}:oneA (.str s)=true:=rfl
theorem n_lst {E:TypeId}{es:List (List AV)}{t:Tag}:oneA (.lst E es t)=true:=rfl
theorem n_rptr {cs:List AV}:oneA (.rptr cs)=true:=rfl
theorem n_ptr {b o:Nat}:oneA (.ptr b o)=true:=rfl
theorem n_map {b:Nat}:oneA (.map b)=true:=rfl
theorem n_fmap {es:List (AV×AV)}:oneA (.fmap es)=true:=rfl
theorem n_nilp:oneA .nilp=true:=rfl
theorem n_nilm:oneA .nilm=true:=rfl
theorem n_nilf:oneA .nilf=true:=rfl
theorem n_nili:oneA .nili=true:=rfl
theorem n_iface {t:TypeId}{v:AV}:oneA (.iface t v)=true:=rfl
theorem n_func {f:Nat}{a b:List AV}:oneA (.func f a b)=true:=rfl
theorem n_slice {b o l c:Nat}:oneA (.slice b o l c)=true:=rfl
theorem v_bool {b:Bool}:ofC (.bool b)=.bool b:=rfl
theorem v_int {k:IntKind}{n:Int}:ofC (.int k n)=.int k n:=rfl
theorem v_str {s:List UInt8}:ofC (.string ⟨⟨s⟩⟩)=.str s:=rfl
theorem v_nilp:ofC (.pointer none)=.nilp:=rfl
theorem v_nilm:ofC (.map none)=.nilm:=rfl
theorem v_nilf:ofC .nilFunc=.nilf:=rfl
theorem v_nili:ofC .nilIface=.nili:=rfl
theorem v_nils:ofC (.slice none 0 0)=.lst 0 [] .nil:=rfl
theorem v_agg {l:List Value}:ofC (.agg ⟨l⟩)=.agg (l.map ofC1):=rfl
theorem w_bool {b:Bool}:ofC1 (.bool b)=.bool b:=rfl
theorem w_int {k:IntKind}{n:Int}:ofC1 (.int k n)=.int k n:=rfl
theorem w_str {s:List UInt8}:ofC1 (.string ⟨⟨s⟩⟩)=.str s:=rfl
theorem w_nilp:ofC1 (.pointer none)=.nilp:=rfl
theorem w_nilm:ofC1 (.map none)=.nilm:=rfl
theorem w_nilf:ofC1 .nilFunc=.nilf:=rfl
theorem w_nili:ofC1 .nilIface=.nili:=rfl
theorem w_nils:ofC1 (.slice none 0 0)=.lst 0 [] .nil:=rfl
theorem s_objs {b n:Nat}{o:AO}(hn:n≠b):(h.set b o).objs n=h.objs n:=AH.set_ne _ _ hn
theorem s_delset {b:Nat}{o:AO}:(h.set b o).del b=h.del b:=by
 unfold AH.set AH.del;congr 1;funext n;simp only[upd];split<;>rfl
theorem s_del {b:Nat}(hb:h.objs b=none):h.del b=h:=by
 obtain⟨o,t⟩:=h
 unfold AH.del;congr 1;funext n;simp only[upd];split
 ·rename_i e;rw[e];exact hb.symm
 ·rfl
end
end Go.Cn
namespace Go.Cn
set_option linter.unusedVariables false
set_option linter.unusedSimpArgs false
def ownOk (t:Nat->Option Tok)(E:TypeId)(sz k:Nat):Tag->Prop
 |.nil=>k=0
 |.own c cur rel p cp sz'=>sz'=sz/\t c=some ⟨cur,rel,p,cp,sz,E⟩/\cp=p+k*sz
 |.no=>False
def clsOf:Tag->Option Nat
 |.own c _ _ _ _ _=>some c
 |_=>none
structure Toks (t0 t:Nat->Option Tok)(L:List (Tag×TypeId×Nat×Nat)):Prop where
 le:∀c k,t0 c=some k->t c=some k
 own:∀(i:Nat)(tag:Tag)(E sz k:Nat),L[i]?=some (tag,E,sz,k)->ownOk t E sz k tag
 out:∀(i:Nat)(tag:Tag)(E sz k c:Nat),L[i]?=some (tag,E,sz,k)->clsOf tag=some c->t0 c=none
 sep:∀(i j:Nat)(a b:Tag×TypeId×Nat×Nat)(c:Nat),i≠j->L[i]?=some a->L[j]?=some b->clsOf a.1=some c->clsOf b.1≠some c
theorem ownOk.cls {t:Nat->Option Tok}{E sz k c:Nat}{tag:Tag}(h:ownOk t E sz k tag)(hc:clsOf tag=some c):∃x,t c=some x:=by
 cases tag<;>simp only[clsOf,reduceCtorEq,Option.some.injEq] at hc
 subst hc
 exact⟨_,h.2.1⟩
theorem ownOk.upd {t:Nat->Option Tok}{E sz k c:Nat}{tag:Tag}{x:Option Tok}(h:ownOk t E sz k tag)(hc:clsOf tag≠some c):ownOk (upd t c x) E sz k tag:=by
 cases tag with
 |no=>exact h
 |nil=>exact h
 |own c' cur rel p cp sz'=>
  refine⟨h.1,?_,h.2.2⟩
  rw[upd_ne _ _ (by intro e;subst e;exact hc rfl)]
  exact h.2.1
theorem Toks.one (t:Nat->Option Tok)(E sz:Nat):Toks t t [(.nil,E,sz,0)] where
 le:=fun _ _ h=>h
 own:=by
  intro i tag E' sz' k h
  match i,h with
  |0,h=>cases h;rfl
 out:=by
  intro i tag E' sz' k c h hc
  match i,h with
  |0,h=>cases h;cases hc
 sep:=by
  intro i j a b c hij ha hb hc
  match i,ha with
  |0,ha=>cases ha;cases hc
theorem Toks.cons {t0 t:Nat->Option Tok}{L:List (Tag×TypeId×Nat×Nat)}(h:Toks t0 t L)(E sz:Nat):Toks t0 t ((.nil,E,sz,0)::L) where
 le:=h.le
 own:=by
  intro i tag E' sz' k hi
  match i,hi with
  |0,hi=>cases hi;rfl
  |i+1,hi=>exact h.own i _ _ _ _ hi
 out:=by
  intro i tag E' sz' k c hi hc
  match i,hi with
  |0,hi=>cases hi;cases hc
  |i+1,hi=>exact h.out i _ _ _ _ _ hi hc
 sep:=by
  intro i j a b c hij ha hb hc
  match i,j,ha,hb with
  |0,_,ha,_=>cases ha;cases hc
  |i+1,0,ha,hb=>cases hb;simp[clsOf]
  |i+1,j+1,ha,hb=>exact h.sep i j a b c (by omega) ha hb hc
theorem Toks.set {t0 t:Nat->Option Tok}{L:List (Tag×TypeId×Nat×Nat)}(h:Toks t0 t L){i:Nat}{tag tag':Tag}{E sz k k' c:Nat}{x:Tok}(hi:L[i]?=some (tag,E,sz,k))(hc:clsOf tag=some c\/clsOf tag=none/\t c=none)(hc':clsOf tag'=some c)
  (ho:ownOk (Go.Cn.upd t c (some x)) E sz k' tag'):Toks t0 (Go.Cn.upd t c (some x)) (L.set i (tag',E,sz,k')):=by
 have h0:t0 c=none:=by
  rcases hc with hc|⟨_,hc⟩
  ·exact h.out i _ _ _ _ _ hi hc
  ·cases e:t0 c with
   |none=>rfl
   |some y=>rw[h.le c y e] at hc;cases hc
 have hil:i<L.length:=(List.getElem?_eq_some_iff.1 hi).1
 have other:∀j tg E sz k,j≠i->L[j]?=some (tg,E,sz,k)->clsOf tg≠some c:=by
  intro j tg E' sz' k' hj hl e
  rcases hc with hc|⟨_,hc⟩
  ·exact h.sep j i _ _ c hj hl hi e hc
  ·obtain⟨y,hy⟩:=(h.own j _ _ _ _ hl).cls e
   rw[hy] at hc;cases hc
 refine⟨fun c' k hk=>?_,fun j tg E' sz' k2 hj=>?_,fun j tg E' sz' k2 c2 hj hc2=>?_,fun j1 j2 a b c2 hjj ha hb hca=>?_⟩
 ·rw[upd_ne _ _ (by intro e;subst e;rw[h0] at hk;cases hk)];exact h.le _ _ hk
 ·rw[List.getElem?_set] at hj
  split at hj
  ·simp only[hil,if_true,Option.some.injEq,Prod.mk.injEq] at hj
   obtain⟨rfl,rfl,rfl,rfl⟩:=hj
   exact ho
  ·rename_i hne
   exact (h.own j _ _ _ _ hj).upd (other j _ _ _ _ (by omega) hj)
 ·rw[List.getElem?_set] at hj
  split at hj
  ·simp only[hil,if_true,Option.some.injEq,Prod.mk.injEq] at hj
   obtain⟨rfl,rfl,rfl,rfl⟩:=hj
   rw[hc'] at hc2;cases hc2;exact h0
  ·exact h.out j _ _ _ _ _ hj hc2
 ·rw[List.getElem?_set] at ha hb
  split at ha
  ·rename_i e1
   split at hb
   ·omega
   ·rename_i e2
    simp only[hil,if_true,Option.some.injEq] at ha
    subst ha
    obtain⟨b1,b2,b3,b4⟩:=b
    have hcc:some c=some c2:=hc'.symm.trans hca
    cases hcc
    exact other j2 _ _ _ _ (by omega) hb
  ·rename_i e1
   split at hb
   ·simp only[hil,if_true,Option.some.injEq] at hb
    subst hb
    intro hb'
    have hcc:some c=some c2:=hc'.symm.trans hb'
    cases hcc
    obtain⟨a1,a2,a3,a4⟩:=a
    exact other j1 _ _ _ _ (by omega) ha hca
   ·exact h.sep j1 j2 a b c2 hjj ha hb hca
section
variable {K:Nat->Prop}{F:Nat->Nat}{h:AH}{σ:CW}
theorem own_view {E E' c b rel p cp sz:Nat}{es:List (List AV)}{v:Value}(hT:TokOk F σ c ⟨b,rel,p,cp,sz,E⟩)(hr:Rp F σ (.lst E' es (.own c b rel p cp sz)) v)(hz:0<sz) :
  ∃off cap cc,v=.slice (some ⟨b,off,none⟩) es.length cap/\p=rel+off+es.length*sz/\cp=rel+off+cap*sz/\σ.heap b=some (.cells cc E c rel)/\rel+cc.length=cp/\(∀e∈es,e.length=sz)/\
   (∀(i:Nat)(x:AV)(y:Value),es.flatten[i]?=some x->cc[off+i]?=some y->Rp F σ x y)/\(es≠[]->E'=E):=by
 obtain⟨cc,h1,h2⟩:=hT.row
 cases hr with
 |@lstO _ _ _ _ _ _ _ off cap hp hc=>exact⟨off,cap,cc,rfl,by simp;omega,by omega,h1,h2,by simp,fun i x y hi=>by simp at hi,fun e=>absurd rfl e⟩
 |@lst _ _ _ b' off cap sz' c' cl' rel' hb h0 hz' hs hF hc hl hB ht hv=>
  rcases ht with ht|ht
  ·cases ht
  ·cases ht
   rw[hb] at h1
   cases h1
   exact⟨off,cap,_,rfl,rfl,rfl,hb,h2,hs,hv,fun _=>rfl⟩
theorem first_take {b off n cap sz m:Nat}{c cs:List Value}{E:TypeId}{cl rel:Nat}(hb:σ.heap b=some (.cells c E cl rel))(h:takeAt c off (n*sz)=some cs):(h0:n≠0)->σ.first sz n (.slice (some ⟨b,off,none⟩) m cap)=some cs:=by
 intro h0
 simp only[CW.first,CW.cells,CW.row,hb,h,if_neg h0]
theorem AR.append (hA:AR F h σ)(hK:KOk K h){t0:Nat->Option Tok}{L:List (Tag×TypeId×Nat×Nat)}(hT:Toks t0 h.toks L){i:Nat}{tag:Tag}{E E' sz k bytes:Nat}{es ns:List (List AV)}{sv xv:Value}{new:List Value}
  (hi:L[i]?=some (tag,E,sz,k))(hs:Rp F σ (.lst E' es tag) sv)(hx:lenV xv=some ns.length)(hf:σ.first sz ns.length xv=some new)(hnew:RpL F σ ns.flatten new)(hz:0<sz)(hns:∀e∈ns,e.length=sz)(hone:ns.flatten.all oneA=true)
  (hk:ns.length<=k\/k=0)(hcap:k<ns.length->capOk (es.length+ns.length) bytes)(hB:es.length+ns.length<=big) :
  ∃v σ' F' tag' t',doAppend E sz bytes σ sv xv=some (v,σ')/\Ext K F σ F' σ'/\AR F' ⟨h.objs,t'⟩ σ'/\Rp F' σ' (.lst E (es++ns) tag') v/\Toks t0 t' (L.set i (tag',E,sz,k-ns.length)):=by
 have hlen:ns.flatten.length=ns.length*sz:=flatten_length hns
 have hnl:new.length=ns.length*sz:=by rw[<-hnew.1,hlen]
 have hsame:L.set i (tag,E,sz,k)=L:=by
  apply List.ext_getElem?
  intro j
  rw[List.getElem?_set]
  split
  ·rename_i e;subst e
   obtain⟨this,e2⟩:=List.getElem?_eq_some_iff.1 hi
   rw[if_pos this,hi]
  ·rfl
 have hown:=hT.own i _ _ _ _ hi
 cases tag with
 |no=>exact hown.elim
 |nil=>
  have hk0:k=0:=hown
  subst hk0
  have hes:es=[]/\sv=.slice none 0 0:=by
   cases hs with
   |lst0=>exact⟨rfl,rfl⟩
   |lst _ _ _ _ _ _ _ _ ht _=>rcases ht with ht|ht<;>cases ht
  obtain⟨rfl,rfl⟩:=hes
  by_cases h0:ns=[]
  ·subst h0
   refine⟨.slice none 0 0,σ,F,.nil,h.toks,?_,.refl,hA,.lst0 E,?_⟩
   ·have hf':σ.first sz 0 xv=some new:=hf
    simp only[doAppend,hx,hf',List.length_nil,Nat.add_zero,Nat.le_refl,if_true]
   ·simpa only[List.length_nil,Nat.sub_zero,hsame] using hT
  ·have hpos:0<ns.length:=List.length_pos_iff.2 h0
   obtain⟨g1,g2⟩:=hA.newOwn (K:=K) (c:=new) (E:=E) (p:=ns.length*sz) (sz:=sz) (by omega) hK
   refine⟨.slice (some ⟨σ.next,0,none⟩) ns.length ns.length,_,_,.own σ.next σ.next 0 (ns.length*sz) (ns.length*sz) sz,upd h.toks σ.next (some ⟨σ.next,0,ns.length*sz,ns.length*sz,sz,E⟩),?_,g2,?_,?_,?_⟩
   ·simp only[doAppend,hx,hf,Nat.zero_add]
    rw[if_neg (by omega),if_pos ⟨by have:=hcap hpos;simpa using this,hnew.all_one hone⟩]
   ·rw[hnl] at g1;exact g1
   ·have:=Rp.lst (F:=upd F σ.next (ns.length*sz)) (σ:=σ.add (.cells new E σ.next 0)) (E:=E) (es:=ns) (t:=.own σ.next σ.next 0 (0+0+ns.length*sz) (0+0+ns.length*sz) sz) (b:=σ.next) (off:=0) (cap:=ns.length) (sz:=sz) (by rw[add_heap,if_pos rfl])
     h0 hz hns (by rw[upd_same];omega) (by omega) (Nat.le_refl _) (by simpa using hB) (.inr rfl) (fun i x y hi hy=>(hnew.2 i x y hi (by simpa using hy)).ext g2)
    simpa only[Nat.zero_add,List.nil_append] using this
   ·exact hT.set (c:=σ.next) hi (.inr ⟨rfl,hA.tnext⟩) rfl ⟨rfl,by rw[upd_same],by simp⟩
 |own c b rel p cp sz'=>
  obtain⟨rfl,htok,hroom⟩:=hown
  have hTk:=hA.tok c _ htok
  obtain⟨off,cap,cc,rfl,q1,q2,q3,q4,q5,q6,q7⟩:=own_view hTk hs hz
  have hcapk:cap=es.length+k:=by
   have:cap*sz'=(es.length+k)*sz':=by rw[Nat.add_mul];omega
   exact Nat.eq_of_mul_eq_mul_right hz this
  by_cases h0:ns=[]
  ·subst h0
   refine⟨.slice (some ⟨b,off,none⟩) es.length cap,σ,F,.own c b rel p cp sz',h.toks,?_,.refl,hA,?_,?_⟩
   ·have hf':σ.first sz' 0 xv=some new:=hf
    simp only[doAppend,hx,hf',List.length_nil,Nat.add_zero]
    rw[if_pos (by omega)]
    simp
   ·by_cases he:es=[]
    ·subst he
     have e1:rel+off=p:=by simpa using q1.symm
     exact .lstO E e1 (by omega)
    ·rw[List.append_nil, <-q7 he];exact hs
   ·simpa only[List.length_nil,Nat.sub_zero,hsame] using hT
  ·have hpos:0<ns.length:=List.length_pos_iff.2 h0
   have hposz:0<ns.length*sz':=Nat.mul_pos hpos hz
   have hflat:ns.flatten≠[]:=by intro e;rw[e] at hlen;simp at hlen;omega
   have hall:∀e∈es++ns,e.length=sz':=by
    intro e he
    rcases List.mem_append.1 he with he|he
    ·exact q5 e he
    ·exact hns e he
   have hel:es.flatten.length=es.length*sz':=flatten_length q5
   have hAdd:(es++ns).length*sz'=es.length*sz'+ns.length*sz':=by rw[List.length_append,Nat.add_mul]
   by_cases hfit:ns.length<=k
   ·have hfz:ns.length*sz'<=k*sz':=Nat.mul_le_mul_right _ hfit
    obtain⟨σ',g1,g2,g3,cc0,cc',g4,g5,g6,g7,g8,g9⟩:=hA.appIn (K:=K) htok hnew hone (by show p+_<=cp;omega) hflat hK
    simp only at g1 g2 g3 g4 g5 g6 g7 g8 g9
    rw[q3] at g4;cases g4
    have e1:p-rel=off+es.length*sz':=by omega
    refine⟨.slice (some ⟨b,off,none⟩) (es.length+ns.length) cap,σ',_,.own c b rel (p+ns.flatten.length) cp sz',upd h.toks c (some ⟨b,rel,p+ns.flatten.length,cp,sz',E⟩),?_,g3,g2,?_,?_⟩
    ·simp only[doAppend,hx,hf]
     rw[if_pos (by omega),if_neg (by omega)]
     rw[e1] at g1
     simp only[g1]
    ·have:=Rp.lst (F:=upd F b (p+ns.flatten.length-rel)) (σ:=σ') (E:=E) (es:=es++ns) (t:=.own c b rel (rel+off+(es++ns).length*sz') (rel+off+cap*sz') sz') (b:=b) (off:=off) (cap:=cap) (sz:=sz') g5
      (by simp[h0]) hz hall (by rw[upd_same,hAdd,hlen];omega) (by rw[hAdd,g6];omega) (by rw[List.length_append];omega) (by rw[List.length_append];exact hB) (.inr rfl) (fun j x y hj hy=>by
       rw[List.flatten_append] at hj
       by_cases hjl:j<es.flatten.length
       ·rw[List.getElem?_append_left hjl] at hj
        rw[g8 (off+j) (by omega)] at hy
        exact (q6 j x y hj hy).ext g3
       ·rw[List.getElem?_append_right (by omega)] at hj
        have hjn:j-es.flatten.length<ns.flatten.length:=(List.getElem?_eq_some_iff.1 hj).1
        have:=g9 (j-es.flatten.length) hjn
        rw[show p-rel+(j-es.flatten.length)=off+j by omega] at this
        rw[this] at hy
        exact (hnew.2 _ x y hj hy).ext g3)
     rw[List.length_append] at this
     rwa [show rel+off+(es.length+ns.length)*sz'=p+ns.flatten.length by rw[Nat.add_mul,hlen];omega, <-q2] at this
    ·refine hT.set (c:=c) hi (.inl rfl) rfl ⟨rfl,by rw[upd_same],?_⟩
     rw[hlen,Nat.sub_mul];omega
   ·have hk0:k=0:=by rcases hk with hk|hk<;>omega
    subst hk0
    have hend:p=cp:=by omega
    have htake:takeAt cc off (es.length*sz')=some ((cc.drop off).take (es.length*sz')):=by unfold takeAt;rw[if_pos (by omega)]
    have hold:((cc.drop off).take (es.length*sz')).length=es.length*sz':=by simp;omega
    have hcl:((cc.drop off).take (es.length*sz')++new).length=es.length*sz'+ns.length*sz':=by rw[List.length_append,hold,hnl]
    obtain⟨g1,g2⟩:=hA.appCopy (K:=K) htok (show p=cp from hend) (cs:=(cc.drop off).take (es.length*sz')++new) (r0:=rel+off) (n:=ns.length*sz') (by rw[List.length_append,hold,hnl];show _=p+_;omega) hK
    simp only at g1 g2
    refine⟨.slice (some ⟨σ.next,0,none⟩) (es.length+ns.length) (es.length+ns.length),_,_,.own c σ.next (rel+off) (p+ns.length*sz') (p+ns.length*sz') sz',upd h.toks c (some ⟨σ.next,rel+off,p+ns.length*sz',p+ns.length*sz',sz',E⟩),?_,g2,g1,?_,?_⟩
    ·simp only[doAppend,hx,hf]
     rw[if_neg (by omega),if_pos ⟨hcap hpos,hnew.all_one hone⟩]
     rw[if_pos ⟨trivial,hTk.ro⟩]
     simp only[q3,if_true,htake]
     rw[show rel+off+es.length*sz'=p by omega]
    ·have:=Rp.lst (F:=upd F σ.next ((cc.drop off).take (es.length*sz')++new).length) (σ:=grown σ c p ((cc.drop off).take (es.length*sz')++new) E (rel+off)) (E:=E) (es:=es++ns) (t:=.own c σ.next (rel+off) (rel+off+0+(es++ns).length*sz') (rel+off+0+(es.length+ns.length)*sz') sz') (b:=σ.next) (off:=0) (cap:=es.length+ns.length) (sz:=sz') (by rw[grown_heap,if_pos rfl])
      (by simp[h0]) hz hall (by rw[upd_same,hcl,hAdd];omega) (by rw[hcl,hAdd];omega) (by rw[List.length_append];omega) (by rw[List.length_append];exact hB) (.inr rfl) (fun j x y hj hy=>by
       rw[List.flatten_append] at hj
       rw[Nat.zero_add] at hy
       by_cases hjl:j<es.flatten.length
       ·rw[List.getElem?_append_left hjl] at hj
        rw[List.getElem?_append_left (by omega),List.getElem?_take,if_pos (by omega),List.getElem?_drop] at hy
        exact (q6 j x y hj hy).ext g2
       ·rw[List.getElem?_append_right (by omega)] at hj
        rw[List.getElem?_append_right (by omega),hold, <-hel] at hy
        exact (hnew.2 _ x y hj hy).ext g2)
     rw[show (es++ns).length=es.length+ns.length from List.length_append] at this
     rwa [show rel+off+0+(es.length+ns.length)*sz'=p+ns.length*sz' by rw[Nat.add_mul];omega] at this
    ·exact hT.set (c:=c) hi (.inl rfl) rfl ⟨rfl,by rw[upd_same],by simp⟩
end
def newEls:AV->Option (List (List AV))
 |.lst _ ns _=>some ns
 |.str s=>some (s.map fun c=>[.int .u8 c.toNat])
 |_=>none
def newOk (sz:Nat):AV->Prop
 |.str _=>sz=1
 |_=>True
theorem newEls_rp {F:Nat->Nat}{σ:CW}{a:AV}{v:Value}{ns:List (List AV)}{sz:Nat}(hr:Rp F σ a v)(hn:newEls a=some ns)(ho:newOk sz a)(hs:∀e∈ns,e.length=sz) :
  lenV v=some ns.length/\∃new,σ.first sz ns.length v=some new/\RpL F σ ns.flatten new:=by
 cases hr<;>simp only[newEls,reduceCtorEq,Option.some.injEq] at hn
 case str s=>
  subst hn
  have h1:sz=1:=ho
  subst h1
  refine⟨by simp[lenV];rfl,?_⟩
  refine⟨_,by simp only[CW.first,if_true];rfl,?_⟩
  rw[flat_one,List.length_map]
  have:List.take s.length s=s:=List.take_length
  show RpL F σ _ (List.map _ (List.take s.length s))
  rw[this]
  exact RpL.map _ _ _ fun c _=>.int _ _
 case lst0=>subst hn;exact⟨rfl,[],rfl,.nil⟩
 case lstN=>subst hn;exact⟨rfl,[],rfl,.nil⟩
 case lstE=>subst hn;exact⟨rfl,[],by simp[CW.first],.nil⟩
 case lstO=>subst hn;exact⟨rfl,[],by simp[CW.first],.nil⟩
 case lst E es t b off cap sz' c cl rel hb h0 hz' hs' hF hc hl hB ht hv=>
  subst hn
  obtain⟨e0,he0⟩:=List.exists_mem_of_ne_nil _ h0
  have hsz:sz'=sz:=(hs' e0 he0).symm.trans (hs e0 he0)
  subst hsz
  have htake:takeAt c off (es.length*sz')=some ((c.drop off).take (es.length*sz')):=by unfold takeAt;rw[if_pos hc]
  refine⟨rfl,_,first_take hb htake (by have:=List.length_pos_iff.2 h0;omega),?_⟩
  refine⟨by rw[flatten_length hs'];simp;omega,fun i x y hi hy=>?_⟩
  have hil:i<es.flatten.length:=(List.getElem?_eq_some_iff.1 hi).1
  rw[flatten_length hs'] at hil
  rw[List.getElem?_take,if_pos hil,List.getElem?_drop] at hy
  exact hv i x y hi hy
def AH.tk (h:AH)(t:Nat->Option Tok):AH:=⟨h.objs,t⟩
theorem tk_objs {h:AH}{t:Nat->Option Tok}:(h.tk t).objs=h.objs:=rfl
theorem tk_toks {h:AH}{t:Nat->Option Tok}:(h.tk t).toks=t:=rfl
theorem tk_tk {h:AH}{t t':Nat->Option Tok}:(h.tk t).tk t'=h.tk t':=rfl
theorem tk_set {h:AH}{t:Nat->Option Tok}{b:Nat}{o:AO}:(h.tk t).set b o=(h.set b o).tk t:=rfl
theorem tk_del {h:AH}{t:Nat->Option Tok}{b:Nat}:(h.tk t).del b=(h.del b).tk t:=rfl
theorem tk_le {h h':AH}{t:Nat->Option Tok}(hl:h.le h')(ht:∀c k,h'.toks c=some k->t c=some k):h.le (h'.tk t):=⟨hl.1,fun c k hk=>ht c k (hl.2 c k hk)⟩
theorem WO.append {T:Nat->Option CFun}{K:Nat->Prop}{fr:AFr}{h:AH}{s x:Operand}{E E' sz k bytes i:Nat}{es ns:List (List AV)}{tag:Tag}{t0:Nat->Option Tok}{L:List (Tag×TypeId×Nat×Nat)}{Q:AV->AH->Prop}
  (hT:Toks t0 h.toks L)(hi:L[i]?=some (tag,E,sz,k))(hs:evA fr s=.lst E' es tag)(hx:newEls (evA fr x)=some ns)(hxo:newOk sz (evA fr x))(hz:0<sz)(hns:∀e∈ns,e.length=sz)(hone:ns.flatten.all oneA=true)
  (hk:ns.length<=k\/k=0)(hcap:k<ns.length->capOk (es.length+ns.length) bytes)(hB:es.length+ns.length<=big)
  (hq:∀tag' t',Toks t0 t' (L.set i (tag',E,sz,k-ns.length))->Q (.lst E (es++ns) tag') (h.tk t')):WO T K (.e (.append E sz bytes s x)) fr h Q:=by
 intro F σ ρ hA hK hρ
 have hs':=hρ s
 rw[hs] at hs'
 obtain⟨h1,new,h2,h3⟩:=newEls_rp (hρ x) hx hxo hns
 obtain⟨v,σ',F',tag',t',g1,g2,g3,g4,g5⟩:=hA.append hK hT hi hs' h1 h2 h3 hz hns hone hk hcap hB
 exact⟨v,σ',g1,F',_,_,g2,g3,fun b hb=>hK b hb,g4,hq _ _ g5⟩
end Go.Cn
namespace Go.Cn
set_option linter.unusedVariables false
set_option linter.unusedSimpArgs false
theorem wrap64 {n:Int}(h : -9223372036854775808<=n/\n<=9223372036854775807):IntKind.i64.wrap n=n:=by
 have w:IntKind.i64.wrap n=if (true&&decide (n % (2 ^ 64:Int)≥(2 ^ 63:Int)))=true then n % (2 ^ 64:Int)-(2 ^ 64:Int) else n % (2 ^ 64:Int):=rfl
 rw[w]
 have e1:(2:Int) ^ 64=18446744073709551616:=by decide
 have e2:(2:Int) ^ 63=9223372036854775808:=by decide
 rw[e1,e2]
 simp only[Bool.true_and,decide_eq_true_eq]
 split<;>omega
theorem nt_t {t u:Tmp}:(notT (some t) (.tmp u)=true)=(u≠t):=by
 simp only[notT,Bool.not_eq_true',beq_eq_false_iff_ne,ne_eq,Option.some.injEq,eq_iff_iff]
 exact⟨fun h e=>h e.symm,fun h e=>h e.symm⟩
theorem nt_c {d:Option Tmp}{v:Value}:notT d (.const v)=true:=rfl
theorem nt_g {d:Option Tmp}{v:Nat}:notT d (.global v)=true:=rfl
theorem nt_f {d:Option Tmp}{v:Nat}:notT d (.func v)=true:=rfl
theorem lt_irr {n:Int}:decide (n<n)=false:=by simp
theorem big_eq:big=140737488355328:=rfl
theorem wrapS {n m:Nat}(h:n<m)(hB:m<=big):IntKind.i64.wrap ((n:Int)+1)=((n+1:Nat):Int):=by
 rw[big_eq] at hB
 rw[wrap64 ⟨by omega,by omega⟩];rfl
section
variable {T:Nat->Option CFun}{K:Nat->Prop}{fr:AFr}{h h0:AH}{Q:AQ}{R:CExit->AQ}
theorem u_L {l l':List MStep}(e:l=l'):wpL T K l fr h Q=wpL T K l' fr h Q:=by rw[e]
theorem u_T {l l':List MStage}(e:l=l'):kT T K l Q fr h=kT T K l' Q fr h:=by rw[e]
theorem u_C {c c':MCode}(e:c=c'):wpC T K c fr h R=wpC T K c' fr h R:=by rw[e]
def kRet (a:AV)(h0 h':AH)(as:List AV):Prop:=Wk (resVA as) a/\h0.le h'
def Ret (res:List CRes)(a:AV)(h0:AH)(e:CExit)(fr:AFr)(h':AH):Prop:=(e=.normal\/e=.ret)/\onS (resA fr h' res) (kRet a h0 h')
def kRetQ (K:Nat->Prop)(Q:AV->AH->Prop)(h':AH)(as:List AV):Prop:=∃a h'',Frz (resVA as) h' a h''/\KOk K h''/\Q a h''
def RetQ (K:Nat->Prop)(res:List CRes)(Q:AV->AH->Prop)(e:CExit)(fr:AFr)(h':AH):Prop:=(e=.normal\/e=.ret)/\onS (resA fr h' res) (kRetQ K Q h')
theorem ACall.ret {f:Nat}{c:MCode}{res:List CRes}{args:List AV}{a:AV}(hf:T f=some ⟨c.toC,res⟩)(hw:KOk K h->wpC T K c (initA args) h (Ret res a h)):ACall T K (.func f) args h fun v h'=>v=a/\h'=h:=
 ACall.func hf fun hK=>(wpC_ok (hw hK)).mono fun e fr h' ⟨h1,as,h2,h3,h4⟩=>⟨h1,as,h2,a,h,.weak h3 (.drop h4 (.refl _ _)),hK,rfl,rfl⟩
theorem ACall.retQ {f:Nat}{c:MCode}{res:List CRes}{args:List AV}{Q:AV->AH->Prop}(hf:T f=some ⟨c.toC,res⟩)(hw:KOk K h->wpC T K c (initA args) h (RetQ K res Q)):ACall T K (.func f) args h Q:=
 ACall.func hf fun hK=>(wpC_ok (hw hK)).mono fun e fr h' ⟨h1,as,h2,a,h'',h3,h4,h5⟩=>⟨h1,as,h2,a,h'',h3,h4,h5⟩
def Pure (T:Nat->Option CFun)(f:Nat)(args:List AV)(a:AV):Prop:=∀K h,ACall T K (.func f) args h fun v h'=>v=a/\h'=h
theorem Pure.use {f:Nat}{args:List AV}{a:AV}{Q:AV->AH->Prop}(hp:Pure T f args a)(hq:Q a h):ACall T K (.func f) args h Q:=
 (hp K h).mono fun v h' ⟨h1,h2⟩=>by subst h1 h2;exact hq
theorem Pure.weak {f:Nat}{args args':List AV}{a:AV}(hp:Pure T f args' a)(hl:args.length=args'.length)(hw:∀(i:Nat)(x y:AV),args[i]?=some x->args'[i]?=some y->Wk x y):Pure T f args a:=
 fun K h=>(hp K h).weak hl hw
theorem e_Retr {res:List CRes}{a:AV}{h':AH}:Ret res a h0 .ret fr h'=onS (resA fr h' res) (kRet a h0 h'):=by simp[Ret]
theorem e_Retn {res:List CRes}{a:AV}{h':AH}:Ret res a h0 .normal fr h'=onS (resA fr h' res) (kRet a h0 h'):=by simp[Ret]
theorem e_kRet {as:List AV}{a:AV}{h':AH}:kRet a h0 h' as=(Wk (resVA as) a/\h0.le h'):=rfl
theorem e_RetQr {res:List CRes}{Q:AV->AH->Prop}{h':AH}:RetQ K res Q .ret fr h'=onS (resA fr h' res) (kRetQ K Q h'):=by simp[RetQ]
theorem e_RetQn {res:List CRes}{Q:AV->AH->Prop}{h':AH}:RetQ K res Q .normal fr h'=onS (resA fr h' res) (kRetQ K Q h'):=by simp[RetQ]
theorem e_kRetQ {as:List AV}{Q:AV->AH->Prop}{h':AH}:kRetQ K Q h' as=∃a h'',Frz (resVA as) h' a h''/\KOk K h''/\Q a h'':=rfl
theorem r_n:resA fr h []=some []:=rfl
theorem r_t {t:Tmp}{l:List CRes}:resA fr h (.tmp t::l)=match some (fr t),resA fr h l with
  |some a,some as=>some (a::as)
  |_,_=>none:=rfl
theorem r_1 {t:Tmp}{l:List CRes}:resA fr h (.ld1 t::l)=match pevA (.ld1 (.tmp t)) (evA fr) h,resA fr h l with
  |some a,some as=>some (a::as)
  |_,_=>none:=rfl
theorem r_N {n:Nat}{t:Tmp}{l:List CRes}:resA fr h (.ldN n t::l)=match pevA (.ldN n (.tmp t)) (evA fr) h,resA fr h l with
  |some a,some as=>some (a::as)
  |_,_=>none:=rfl
theorem rv_1 {a:AV}:resVA [a]=a:=rfl
theorem rv_0:resVA []=.tuple []:=rfl
theorem rv_2 {a b:AV}{l:List AV}:resVA (a::b::l)=.tuple (a::b::l):=rfl
def kLp {α:Type}(I:α->AQ)(μ:α->Nat)(x:α)(R:CExit->AQ):CExit->AQ
 |.normal,fr,h=>∃y,μ y<μ x/\I y fr h
 |e,fr,h=>R e fr h
theorem aloop {α:Type}{b:MCode}(I:α->AQ)(μ:α->Nat)(x:α)(hi:I x fr h)(hr:∀x fr h,I x fr h->wpC T K b fr h (kLp I μ x R)):W T K (.loop b.toC) fr h R:=
 W.rounds I μ (fun x fr h hi=>(wpC_ok (hr x fr h hi)).mono fun e fr h hq=>by cases e<;>exact hq) x fr h hi
def Nxt {α:Type}(I:α->AQ)(μ:α->Nat)(x:α)(fr:AFr)(h:AH):Prop:=∃y,μ y<μ x/\I y fr h
theorem e_Lpn {α:Type}{I:α->AQ}{μ:α->Nat}{x:α}:kLp I μ x R .normal fr h=Nxt I μ x fr h:=rfl
theorem e_Lpe {α:Type}{I:α->AQ}{μ:α->Nat}{x:α}{i:Nat}:kLp I μ x R (.exit i) fr h=R (.exit i) fr h:=rfl
theorem e_Lpr {α:Type}{I:α->AQ}{μ:α->Nat}{x:α}:kLp I μ x R .ret fr h=R .ret fr h:=rfl
theorem AH.le_set {b:Nat}{o:AO}(hb:h.objs b=none):h.le (h.set b o):=
 ⟨fun n x hn=>by rw[AH.set_ne _ _ (by intro e;subst e;rw[hb] at hn;cases hn)];exact hn,fun _ _ h=>h⟩
def depB (a:AV)(b:Bool)(x:Option (List Nat)):Option (List Nat):=match a with
 |.bool c=>bif c==b then x else some []
 |.tuple []=>some []
 |_=>x
theorem e_dGh {t g:Tmp}{b:Bool}{o:POp}:depG fr ⟨t,some (g,b),o⟩=depB (fr g) b (depA o (evA fr)):=rfl
theorem e_dBtt {x:Option (List Nat)}:depB (.bool true) true x=x:=rfl
theorem e_dBff {x:Option (List Nat)}:depB (.bool false) false x=x:=rfl
theorem e_dBtf {x:Option (List Nat)}:depB (.bool true) false x=some []:=rfl
theorem e_dBu {b:Bool}{x:Option (List Nat)}:depB (.tuple []) b x=some []:=rfl
theorem e_dBft {x:Option (List Nat)}:depB (.bool false) true x=some []:=rfl
theorem en_n:entA h .nilm=some []:=rfl
theorem en_f {es:List (AV×AV)}:entA h (.fmap es)=some es:=rfl
theorem en_m {b:Nat}:entA h (.map b)=match h.objs b with
  |some (.map es)=>some es
  |_=>none:=rfl
theorem k_s {s:Bool}{l:List UInt8}:isKeyA s (.str l)=s:=rfl
theorem k_i {s:Bool}{k:IntKind}{n:Int}:isKeyA s (.int k n)= !s:=rfl
theorem set_comm {b c:Nat}{o o':AO}(hn:b≠c):(h.set b o).set c o'=(h.set c o').set b o:=by
 unfold AH.set
 congr 1
 funext n
 simp only[upd]
 by_cases h1:n=b<;>by_cases h2:n=c<;>simp_all
theorem fa_n {P:Nat->Prop}:(∀b:Nat,b∈([]:List Nat)->P b)=True:=by simp
theorem fa_c {P:Nat->Prop}{a:Nat}{l:List Nat}:(∀b:Nat,b∈a::l->P b)=(P a/\∀b:Nat,b∈l->P b):=by simp
theorem le_tk {h':AH}{t:Nat->Option Tok}(hl:h.le h')(ht:∀c k,h'.toks c=some k->t c=some k):h.le (h'.tk t):=⟨hl.1,fun c k hk=>ht c k (hl.2 c k hk)⟩
theorem le_set {h':AH}{b:Nat}{o:AO}(hl:h.le h')(hb:h.objs b=none):h.le (h'.set b o):=
 ⟨fun n x hn=>by rw[AH.set_ne _ _ (by intro e;subst e;rw[hb] at hn;cases hn)];exact hl.1 n x hn,hl.2⟩
theorem le_del {h':AH}{b:Nat}(hl:h.le h')(hb:h.objs b=none):h.le (h'.del b):=
 ⟨fun n x hn=>by rw[AH.del_objs,if_neg (by intro e;subst e;rw[hb] at hn;cases hn)];exact hl.1 n x hn,hl.2⟩
theorem Wk.lstE {E E':TypeId}{es:List (List AV)}{t:Tag}(h:es≠[]->E'=E):Wk (.lst E' es t) (.lst E es .no):=by
 by_cases he:es=[]
 ·subst he;exact .trans (.tag _ _ _) (.noE _ _)
 ·rw[h he];exact .tag _ _ _
theorem AH.set_none {b n:Nat}{o:AO}:(h.set b o).objs n=none↔n≠b/\h.objs n=none:=by
 rw[AH.set_objs]
 by_cases e:n=b
 ·simp[e]
 ·simp[e]
theorem fz_rp {F:Nat->Nat}{σ:CW}{n:Nat}{es:List (AV×AV)}{v:Value}(hF:F n=1)(he:∃es' ver,σ.heap n=some (.map es' ver)/\EntR F σ es es')(hr:Rp F σ (.map n) v):Rp F σ (.fmap es) v:=by
 obtain⟨es',ver,hh,hE⟩:=he
 cases hr
 exact .fmap hh (by omega) hE.1 (fun i p q hp hq=>(hE.2 i p q hp hq).1) fun i p q hp hq=>(hE.2 i p q hp hq).2
theorem Wk.list {E:TypeId}{es ds:List (List AV)}{t:Tag}(hl:es.length=ds.length)(hs:∀(i:Nat)(x y:List AV),es[i]?=some x->ds[i]?=some y->x.length=y.length/\∀(j:Nat)(a b:AV),x[j]?=some a->y[j]?=some b->Wk a b):Wk (.lst E es t) (.lst E ds t):=by
 refine .lst hl (fun i x y hx hy=>(hs i x y hx hy).1) ?_
 clear t
 induction es generalizing ds with
 |nil=>
  intro i x y hx
  simp at hx
 |cons e es ih=>
  cases ds with
  |nil=>cases hl
  |cons d ds=>
   have h0:=hs 0 e d rfl rfl
   intro i x y hx hy
   simp only[List.flatten_cons] at hx hy
   by_cases hi:i<e.length
   ·rw[List.getElem?_append_left hi] at hx
    rw[List.getElem?_append_left (by omega)] at hy
    exact h0.2 i x y hx hy
   ·rw[List.getElem?_append_right (by omega)] at hx
    rw[List.getElem?_append_right (by omega), <-h0.1] at hy
    exact ih (by simpa using hl) (fun i x y hx hy=>hs (i+1) x y hx hy) _ x y hx hy
def WkL:List AV->List AV->Prop
 |[],[]=>True
 |a::l,b::m=>Wk a b/\WkL l m
 |_,_=>False
theorem WkL.len:∀{l m:List AV},WkL l m->l.length=m.length
 |[],[],_=>rfl
 |a::l,b::m,h=>by simp[h.2.len]
theorem WkL.get:∀{l m:List AV},WkL l m->∀(i:Nat)(x y:AV),l[i]?=some x->m[i]?=some y->Wk x y
 |[],[],_,i,x,y,hx,_=>by simp at hx
 |a::l,b::m,h,0,x,y,hx,hy=>by simp at hx hy;subst hx hy;exact h.1
 |a::l,b::m,h,i+1,x,y,hx,hy=>h.2.get i x y (by simpa using hx) (by simpa using hy)
theorem WkL.refl:∀(l:List AV),WkL l l
 |[]=>trivial
 |a::l=>⟨.refl a,WkL.refl l⟩
theorem Wk.aggL {cs ds:List AV}(h:WkL cs ds):Wk (.agg cs) (.agg ds):=.agg h.len h.get
theorem Wk.tupL {cs ds:List AV}(h:WkL cs ds):Wk (.tuple cs) (.tuple ds):=.tuple h.len h.get
def WkLL:List (List AV)->List (List AV)->Prop
 |[],[]=>True
 |a::l,b::m=>WkL a b/\WkLL l m
 |_,_=>False
theorem WkLL.get:∀{l m:List (List AV)},WkLL l m->l.length=m.length/\∀(i:Nat)(x y:List AV),l[i]?=some x->m[i]?=some y->WkL x y
 |[],[],_=>⟨rfl,fun i x y hx _=>by simp at hx⟩
 |a::l,b::m,h=>⟨by simp[h.2.get.1],fun i x y hx hy=>by
  match i,hx,hy with
  |0,hx,hy=>simp at hx hy;subst hx hy;exact h.1
  |i+1,hx,hy=>exact h.2.get.2 i x y (by simpa using hx) (by simpa using hy)⟩
theorem Wk.lstL {E:TypeId}{t:Tag}{es ds:List (List AV)}(h:WkLL es ds):Wk (.lst E es t) (.lst E ds t):=
 .list h.get.1 fun i x y hx hy=>⟨(h.get.2 i x y hx hy).len,fun j a b ha hb=>(h.get.2 i x y hx hy).get j a b ha hb⟩
theorem Pure.weakL {T:Nat->Option CFun}{f:Nat}{args args':List AV}{a:AV}(hp:Pure T f args' a)(hw:WkL args args'):Pure T f args a:=hp.weak hw.len hw.get
theorem Wk.no (E:TypeId)(es:List (List AV))(t:Tag):Wk (.lst E es t) (.lst E es .no):=.tag E es t
end
end Go.Cn
namespace Go.Cn
set_option linter.defProp false
set_option linter.unusedSimpArgs false
set_option linter.unusedVariables false
noncomputable def runs:=(And.intro (And.intro (And.intro (And.intro (And.intro (And.intro (And.intro @e_skip @e_region) (And.intro @e_seq (And.intro @e_cond @e_block))) (And.intro (And.intro @e_loop (And.intro @e_rfun @e_exit)) (And.intro @e_ret (And.intro @e_kCn @e_kCe)))) (And.intro (And.intro (And.intro @e_kCr (And.intro @e_kBn @e_kBr)) (And.intro @e_kBe (And.intro @e_It @e_If))) (And.intro (And.intro @e_Ln (And.intro @e_Lc @e_kL)) (And.intro @e_kTn (And.intro @e_kTc @e_kE0))))) (And.intro (And.intro (And.intro (And.intro @e_kE1 (And.intro @e_kG @e_depn)) (And.intro @e_depc (And.intro @e_dGn @e_Sn))) (And.intro (And.intro @e_Sg (And.intro @e_Gtt @e_Gff)) (And.intro @e_Gtf (And.intro @e_Gu @e_Gft)))) (And.intro (And.intro (And.intro @i_p (And.intro @i_alloc @i_zer)) (And.intro @i_box (And.intro @i_bsl @i_mkmap))) (And.intro (And.intro @i_st1 (And.intro @i_stN @i_fz1)) (And.intro @i_fzN (And.intro @i_mu @i_md)))))) (And.intro (And.intro (And.intro (And.intro (And.intro @i_call (And.intro @i_callv @i_oth)) (And.intro @o_p (And.intro @o_alloc @o_ini))) (And.intro (And.intro @o_zer (And.intro @o_boxT @o_boxF)) (And.intro @o_bsl (And.intro @o_mkmap @o_st1)))) (And.intro (And.intro (And.intro @o_stN (And.intro @o_fz1 @o_fzN)) (And.intro @o_mu (And.intro @o_md @o_call))) (And.intro (And.intro @o_callv (And.intro @o_oth @e_kV)) (And.intro @e_kP (And.intro @e_kNew @e_kBsl))))) (And.intro (And.intro (And.intro (And.intro @e_kPut (And.intro @e_kFz @e_kMap)) (And.intro @e_setn (And.intro @e_sets @e_upd))) (And.intro (And.intro @e_evt (And.intro @e_evc @e_evg)) (And.intro @e_evf (And.intro @e_st @e_stO)))) (And.intro (And.intro (And.intro @e_fz (And.intro @e_mu @e_muO)) (And.intro @e_md (And.intro @e_mdO @e_cv))) (And.intro (And.intro @e_cy (And.intro @c_agg @c_bool)) (And.intro @c_int (And.intro @c_str @c_lst))))))) (And.intro (And.intro (And.intro (And.intro (And.intro (And.intro @c_rptr @c_ptr) (And.intro @c_map (And.intro @c_fmap @c_nilp))) (And.intro (And.intro @c_nilm (And.intro @c_nilf @c_nili)) (And.intro @c_iface (And.intro @c_func @c_slice)))) (And.intro (And.intro (And.intro @a_agg (And.intro @a_bool @a_int)) (And.intro @a_str (And.intro @a_lst @a_rptr))) (And.intro (And.intro @a_ptr (And.intro @a_map @a_fmap)) (And.intro @a_nilp (And.intro @a_nilm @a_nilf))))) (And.intro (And.intro (And.intro (And.intro @a_nili (And.intro @a_iface @a_func)) (And.intro @a_slice (And.intro @n_bool @n_int))) (And.intro (And.intro @n_str (And.intro @n_lst @n_rptr)) (And.intro @n_ptr (And.intro @n_map @n_fmap)))) (And.intro (And.intro (And.intro @n_nilp (And.intro @n_nilm @n_nilf)) (And.intro @n_nili (And.intro @n_iface @n_func))) (And.intro (And.intro @n_slice (And.intro @v_bool @v_int)) (And.intro @v_str (And.intro @v_nilp @v_nilm)))))) (And.intro (And.intro (And.intro (And.intro (And.intro @v_nilf (And.intro @v_nili @v_nils)) (And.intro @v_agg (And.intro @w_bool @w_int))) (And.intro (And.intro @w_str (And.intro @w_nilp @w_nilm)) (And.intro @w_nilf (And.intro @w_nili @w_nils)))) (And.intro (And.intro (And.intro @s_delset (And.intro @e_Retr @e_Retn)) (And.intro @e_kRet (And.intro @e_RetQr @e_RetQn))) (And.intro (And.intro @e_kRetQ (And.intro @r_n @r_t)) (And.intro @r_1 (And.intro @r_N @rv_0))))) (And.intro (And.intro (And.intro (And.intro @rv_1 (And.intro @rv_2 @tk_objs)) (And.intro @tk_toks (And.intro @tk_tk @tk_set))) (And.intro (And.intro @tk_del (And.intro @nt_t @nt_c)) (And.intro @nt_g (And.intro @nt_f @en_n)))) (And.intro (And.intro (And.intro @en_f (And.intro @en_m @k_s)) (And.intro @k_i (And.intro @fa_n @fa_c))) (And.intro (And.intro @e_dGh (And.intro @e_dBtt @e_dBff)) (And.intro @e_dBtf (And.intro @e_dBu @e_dBft))))))))
end Go.Cn
namespace Go.Cn
set_option linter.unusedVariables false
set_option linter.unusedSimpArgs false
def keysA (es:List (AV×AV)):Prop:=(∀e∈es,keyEqA e.1 e.1=some true)/\es.Pairwise fun a b=>keyEqA a.1 b.1=some false
section
variable {F:Nat->Nat}{σ:CW}
theorem keyV_rp {a:AV}{u:Value}(h:keyV a=some u):Rp F σ a u:=by
 cases a<;>simp only[keyV,Option.some.injEq,reduceCtorEq] at h<;>subst h
 ·exact .int _ _
 ·exact .str _
theorem keyEq_V {a b:AV}{u v:Value}{r:Bool}(ha:keyV a=some u)(hb:keyV b=some v)(h:keyEqA a b=some r):keyEq u v=some r:=
 keyEq_rp (F:=fun _=>0) (σ:=⟨fun _=>none,0,0,0,fun _=>none⟩) h (keyV_rp ha) hb
theorem KeysIt.of {es:List (AV×AV)}{es':List (Value×Value)}(hE:EntR F σ es es')(hk:keysA es):KeysIt es':=by
 have hlen:=hE.1
 have hk2:∀i (p:AV×AV)(q:Value×Value),es[i]?=some p->es'[i]?=some q->keyV p.1=some q.1:=fun i p q hp hq=>(hE.2 i p q hp hq).1
 clear hE
 obtain⟨h1,h2⟩:=hk
 refine⟨fun e he=>?_,?_⟩
 ·obtain⟨i,hi⟩:=List.getElem?_of_mem he
  have hil:i<es.length:=by rw[hlen];exact (List.getElem?_eq_some_iff.1 hi).1
  have hv:=hk2 i es[i] e (by simp[hil]) hi
  exact keyEq_V hv hv (h1 _ (List.getElem_mem hil))
 ·rw[List.pairwise_iff_getElem] at h2 ⊢
  intro i j hi hj hij
  have hi':i<es.length:=by omega
  have hj':j<es.length:=by omega
  exact keyEq_V (hk2 i es[i] es'[i] (by simp[hi']) (by simp[hi])) (hk2 j es[j] es'[j] (by simp[hj']) (by simp[hj])) (h2 i j hi' hj' hij)
theorem leftL_nil (es:List (Value×Value)):leftL [] es=es:=by simp[leftL]
theorem leftL_sub {seen:List Value}{es:List (Value×Value)}:(leftL seen es).Sublist es:=List.filter_sublist
theorem keyEq_symm {u v:Value}{r:Bool}(h:keyEq u v=some r):keyEq v u=some r:=by
 unfold keyEq at h ⊢
 split at h
 ·rename_i a b
  cases h
  simp only[Option.some.injEq]
  rw[Bool.eq_iff_iff]
  simp only[beq_iff_eq]
  exact⟨fun h=>h.symm,fun h=>h.symm⟩
 ·rename_i j a k b
  split at h
  ·rename_i e
   cases h
   have e':j=k:=by simpa using e
   subst e'
   simp only[beq_self_eq_true,if_true,Option.some.injEq]
   rw[Bool.eq_iff_iff]
   simp only[beq_iff_eq]
   exact⟨fun h=>h.symm,fun h=>h.symm⟩
  ·cases h
 ·cases h
theorem leftL_cons {seen:List Value}{es pre post:List (Value×Value)}{k x:Value}(hk:KeysIt es)(h:leftL seen es=pre++(k,x)::post):leftL (k::seen) es=pre++post:=by
 have h1:leftL (k::seen) es=(leftL seen es).filter fun e=> !(keyEq k e.1==some true):=by
  unfold leftL
  rw[List.filter_filter]
  apply List.filter_congr
  intro e _
  rw[List.all_cons]
 have hp:(leftL seen es).Pairwise fun a b=>keyEq a.1 b.1=some false:=hk.2.sublist leftL_sub
 rw[h1,h]
 rw[h] at hp
 have hself:keyEq k k=some true:=hk.1 (k,x) (leftL_sub.subset (by rw[h];simp))
 obtain⟨p1,p2,p3⟩:=List.pairwise_append.1 hp
 obtain⟨p4,p5⟩:=List.pairwise_cons.1 p2
 have f1:pre.filter (fun e=> !(keyEq k e.1==some true))=pre:=List.filter_eq_self.2 fun e he=>by
  have:=keyEq_symm (p3 e he (k,x) (by simp))
  simp only at this
  rw[this];rfl
 have f2:post.filter (fun e=> !(keyEq k e.1==some true))=post:=List.filter_eq_self.2 fun e he=>by
  have:=p4 e he
  simp only at this
  rw[this];rfl
 rw[List.filter_append,List.filter_cons,f1,f2]
 simp[hself]
theorem look_first:∀{es:List (Value×Value)}{k x:Value},KeysIt es->(k,x)∈es->look k es=some (some x)
 |[],k,x,_,h=>by cases h
 |(k',x')::l,k,x,hk,h=>by
  obtain⟨h1,h2⟩:=hk
  obtain⟨h3,h4⟩:=List.pairwise_cons.1 h2
  rcases List.mem_cons.1 h with e|h
  ·cases e
   have:=h1 (k',x') (by simp)
   simp only at this
   simp only[look,this]
  ·have:=keyEq_symm (h3 _ h)
   simp only at this
   simp only[look,this]
   exact look_first ⟨fun e he=>h1 e (by simp[he]),h4⟩ h
end
section
variable {T:Nat->Option CFun}{K:Nat->Prop}{fr:AFr}{h:AH}
theorem WO.range {x:Operand}{es:List (AV×AV)}{Q:AV->AH->Prop}(hx:evA fr x=.fmap es\/evA fr x=.nilm/\es=[])(hk:keysA es)(hq:∀b,h.objs b=none->¬K b->Q (.ptr b 0) (h.set b (.iter es none))):WO T K (.e (.range x)) fr h Q:=by
 intro F σ ρ hA hK hρ
 have hlt:∀b,K b->b<σ.next:=fun b hb=>let ⟨o,ho⟩:=hK b hb;hA.lt ho
 have hv:=hρ x
 have fin:∀obj,FreshO σ obj->(∀F',F' σ.next=0->Ext K F σ F' (σ.add obj)->AOk F' (σ.add obj) σ.next (.iter es none))->∃F' a h',Ext K F σ F' (σ.add obj)/\AR F' h' (σ.add obj)/\KOk K h'/\Rp F' (σ.add obj) a (.pointer (some ⟨σ.next,0,none⟩))/\Q a h':=by
  intro obj hf ho
  have hx:=Ext.add hA (o:=obj) 0 hlt
  have hA1:AR (upd F σ.next 0) h (σ.add obj):=hA.add hf fun h=>absurd h (by omega)
  refine⟨upd F σ.next 0,.ptr σ.next 0,h.set σ.next (.iter es none),hx,hA1.learn' hA.inv hf (ho _ (upd_same _ _ _) hx) hA.onext hA.tnext,fun b hb=>?_,.ptr _ _,hq _ hA.onext fun hk=>absurd (hlt _ hk) (by omega)⟩
  obtain⟨o',ho'⟩:=hK b hb
  exact⟨o',by rw[AH.set_ne _ _ (by have:=hA.lt ho';omega)];exact ho'⟩
 have none_case:ρ x=.map none->es=[]->OpW (CallA T) (.e (.range x)) ρ σ fun v σ'=>∃F' a h',Ext K F σ F' σ'/\AR F' h' σ'/\KOk K h'/\Rp F' σ' a v/\Q a h':=by
  intro e e2
  subst e2
  exact⟨_,σ.add (.iter none 0 []),by simp only[eev,e],fin (.iter none 0 []) trivial fun F' hF hx=>⟨hF,hA.inv.rol,.inl ⟨0,[],by rw[add_heap,if_pos rfl],rfl,rfl⟩⟩⟩
 rcases hx with hx|⟨hx,he⟩
 ·rw[hx] at hv
  generalize hv':ρ x=v at hv
  cases hv with
  |fmap0=>exact none_case hv' rfl
  |@fmap _ es' m ver hb hF hl hkv hvv=>
   have hE:EntR F σ es es':=⟨hl,fun i p q hp hq=>⟨hkv i p q hp hq,hvv i p q hp hq⟩⟩
   refine⟨_,σ.add (.iter (some m) ver []),by simp only[eev,hv',hb],fin (.iter (some m) ver []) trivial fun F' hF' hx=>⟨hF',hA.inv.rol,.inr ⟨m,ver,[],es',by rw[add_heap,if_pos rfl],?_,?_,KeysIt.of hE hk,by rw[leftL_nil];exact hE.ext hx,fun k x e=>by cases e⟩⟩⟩
   ·exact hx.map m _ _ hF hb
   ·exact Nat.lt_of_lt_of_le hF (hx.up m)
 ·rw[hx] at hv
  generalize hv':ρ x=v at hv
  cases hv with
  |nilm=>exact none_case hv' he
theorem WO.next {x:Operand}{b:Nat}{todo:List (AV×AV)}{cur:Option (AV×AV)}{Q:AV->AH->Prop}(hx:evA fr x=.ptr b 0)(hb:h.objs b=some (.iter todo cur))(hkb:¬K b)
  (hq0:todo=[]->Q (.tuple [.bool false]) h)(hq1:∀pre k v post,todo=pre++(k,v)::post->Q (.tuple [.bool true,k,v]) (h.set b (.iter (pre++post) (some (k,v))))):WO T K (.e (.next x)) fr h Q:=by
 intro F σ ρ hA hK hρ
 have hv:=hρ x
 rw[hx] at hv
 generalize hv':ρ x=w at hv
 cases hv
 simp only[OpW]
 rw[hv']
 obtain⟨hF,hro,hor⟩:=hA.obj b _ hb
 have tup:∀{F':Nat->Nat}{σ':CW}{l:List AV}{l':List Value},RpL F' σ' l l'->Rp F' σ' (.tuple l) (.tuple l'.toArray):=fun hl=>.tuple (by simpa using hl.1) fun i x y hx hy=>hl.2 i x y hx (by simpa using hy)
 rcases hor with⟨ver,seen,h1,h2,h3⟩|⟨m,ver,seen,es',h1,h2,h3,h4,h5,h6⟩
 ·simp only[nextW,h1]
  exact⟨F,_,h,.refl,hA,hK,tup (l':=[.bool false]) (.cons (.bool _) .nil),hq0 h2⟩
 ·simp only[nextW,h1,h2]
  refine⟨trivial,hro,h4.1,fun hn=>?_,fun k x hkx=>?_⟩
  ·have:todo=[]:=List.length_eq_zero_iff.1 (by rw[h5.1,hn];rfl)
   exact⟨F,_,h,.refl,hA,hK,tup (l':=[.bool false]) (.cons (.bool _) .nil),hq0 this⟩
  ·obtain⟨pre',post',hs⟩:=List.append_of_mem hkx
   have hlen:todo.length=pre'.length+(post'.length+1):=by rw[h5.1,hs];simp
   have hil:pre'.length<todo.length:=by omega
   have hget:(leftL seen es')[pre'.length]?=some (k,x):=by rw[hs];simp
   obtain⟨g1,g2⟩:=h5.2 pre'.length todo[pre'.length] (k,x) (by simp[hil]) hget
   have hsplit:todo=todo.take pre'.length++todo[pre'.length]::todo.drop (pre'.length+1):=by
    rw[List.getElem_cons_drop,List.take_append_drop]
   have hE:EntR F σ (todo.take pre'.length++todo.drop (pre'.length+1)) (pre'++post'):=by
    refine⟨by simp;omega,fun i p q hp hq=>?_⟩
    by_cases hi:i<pre'.length
    ·rw[List.getElem?_append_left (by simp;omega),List.getElem?_take,if_pos hi] at hp
     rw[List.getElem?_append_left hi] at hq
     exact h5.2 i p q hp (by rw[hs,List.getElem?_append_left hi];exact hq)
    ·have hml:min pre'.length todo.length=pre'.length:=by omega
     rw[List.getElem?_append_right (by simp;omega),List.getElem?_drop,List.length_take,hml] at hp
     rw[List.getElem?_append_right (by omega)] at hq
     refine h5.2 (i+1) p q ?_ ?_
     ·rw[<-hp];congr 1;omega
     ·rw[hs,List.getElem?_append_right (by omega),show i+1-pre'.length=(i-pre'.length)+1 by omega,List.getElem?_cons_succ];exact hq
   have hmem:(k,x)∈es':=leftL_sub.subset hkx
   have hset:∀hx:Ext (fun _=>False) F σ F (σ.set b (.iter (some m) ver (k::seen))),AOk F (σ.set b (.iter (some m) ver (k::seen))) b (.iter (todo.take pre'.length++todo.drop (pre'.length+1)) (some todo[pre'.length])):=by
    intro hx
    have hmb:m≠b:=by rintro rfl;rw[h1] at h2;cases h2
    refine⟨hF,hro,.inr ⟨m,ver,k::seen,es',by rw[set_heap,if_pos rfl],by rw[set_heap,if_neg hmb];exact h2,h3,h4,?_,?_⟩⟩
    ·rw[leftL_cons h4 hs];exact hE.ext hx
    ·intro ka xa e
     injection e with e
     rw[e] at g1 g2
     exact⟨k,seen,x,rfl,g1,look_first h4 hmem,g2.ext hx⟩
   obtain⟨u1,u2⟩:=hA.setO (K:=K) (o2:=.iter (some m) ver (k::seen)) hb hF h1 rfl rfl hkb hset
   exact⟨F,_,_,u2,u1,hK.set _ _,tup (l':=[.bool true,k,x]) (.cons (.bool _) (.cons (keyV_rp g1) (.cons (g2.ext u2) .nil))),hq1 _ _ _ _ hsplit⟩
end
end Go.Cn
namespace Go.Cn
set_option linter.unusedSimpArgs false
set_option linter.unusedVariables false
section
variable {T:Nat->Option CFun}{K:Nat->Prop}{fr:AFr}{h:AH}
end
end Go.Cn
namespace Go.Cn
set_option linter.unusedVariables false
set_option linter.unusedSimpArgs false
section
variable {K:Nat->Prop}{F:Nat->Nat}{h:AH}{σ:CW}
theorem AR.vecCopy (hA:AR F h σ)(hKK:KOk K h){b:Nat}{cs:List AV}{E:TypeId}(hb:h.objs b=some (.cells cs E))(hKb:¬K b){c:List Value}{cl rel p:Nat}(hc:σ.heap b=some (.cells c E cl rel)){vs:List AV}{vs':List Value}(hv:RpL F σ vs vs') :
  AR F ((h.del b).set σ.next (.cells (cs++vs) E)) (grown σ cl p (c++vs') E rel)/\Ext K F σ F (grown σ cl p (c++vs') E rel):=by
 obtain⟨hF,hro,c0,cl0,rel0,h1,hl,e0,l0,hm0,hm⟩:=hA.obj b _ hb
 rw[hc] at h1;cases h1
 have hbn:b≠σ.next:=Nat.ne_of_lt (hA.lt hb)
 have hother:∀n,n≠σ.next->n≠b->(0<F n\/(∃o,h.objs n=some o)\/∃c' k',h.toks c'=some k'/\k'.cur=n)->(grown σ cl p (c++vs') E rel).heap n=σ.heap n:=by
  intro n hn hnb hkn
  rw[grown_heap,if_neg hn]
  exact hA.aloneK hb hc hnb hkn
 have hx:∀K:Nat->Prop,¬K b->KOk K h->Ext K F σ F (grown σ cl p (c++vs') E rel):=fun K hKb hKK=>by
  refine⟨rfl,rfl,Nat.le_succ _,fun _=>Nat.le_refl _,fun n x E' cl' rel' hn hx=>?_,fun n es v hn hx=>?_,fun n hn=>?_⟩
  ·exact⟨x,(hother n (Nat.ne_of_lt (hA.flt hn)) (by rintro rfl;omega) (.inl hn)).trans hx,rfl,fun _ _=>rfl⟩
  ·exact (hother n (Nat.ne_of_lt (hA.flt hn)) (by rintro rfl;omega) (.inl hn)).trans hx
  ·obtain⟨o,ho⟩:=hKK n hn
   exact hother n (Nat.ne_of_lt (hA.lt ho)) (by rintro rfl;exact hKb hn) (.inr (.inl ⟨o,ho⟩))
 have hx0:=hx (fun _=>False) (fun h=>h) (fun _ h=>h.elim)
 have hcls:∀cl',cl'≠cl->(grown σ cl p (c++vs') E rel).cls cl'=σ.cls cl':=fun cl' hcl=>by simp[CW.grow,CW.touch,CW.add,upd_ne _ _ hcl]
 have hs:(grown σ cl p (c++vs') E rel).cls cl=some ((σ.next,rel+(c++vs').length)::keepL σ.next p (σ.members cl)):=by simp[CW.grow,CW.touch,CW.add]
 refine⟨⟨hA.inv.grow hc hro,hA.mem.grow hA.inv hc,fun n hn=>?_,fun n o hn=>?_,fun cl' k hk=>?_,fun n o hn=>?_,fun n ds E1 hn x E2 cl' rel' hxx=>?_⟩,hx K hKb hKK⟩
 ·obtain⟨o,g1,g2⟩:=hA.fro n hn
  exact⟨o,(hother n (Nat.ne_of_lt (hA.flt hn)) (by rintro rfl;omega) (.inl hn)).trans g1,g2⟩
 ·rw[AH.set_objs] at hn
  split at hn
  ·rename_i e;subst e;cases hn
   refine⟨hA.fnext,hA.inv.rol,c++vs',cl,rel,by rw[grown_heap,if_pos rfl],(hl.append hv).ext hx0,_,_,members_some hs,fun m hmm=>?_⟩
   unfold keepL at hmm
   rw[List.mem_filter] at hmm
   obtain⟨g1,_⟩:=hmm
   rw[hm0] at g1
   rcases List.mem_cons.1 g1 with g1|g1
   ·rw[g1];exact hF
   ·exact hm m g1
  ·rename_i e
   rw[AH.del_objs] at hn
   split at hn
   ·cases hn
   ·rename_i e2
    refine (hA.obj n o hn).keep hx0 (hother n e e2 (.inr (.inl ⟨o,hn⟩))) rfl fun ds E1 x E2 cl' rel' ho hxx=>?_
    subst ho
    have hcl:cl'≠cl:=fun ec=>e2 (hA.two hb hn hc (ec▸hxx))
    exact⟨members_eq hA.inv hxx (hcls cl' hcl) (hother n e e2 (.inr (.inl ⟨_,hn⟩))),fun _ _=>rfl⟩
 ·replace hk:h.toks cl'=some k:=hk
  have hne:k.cur≠b:=by
   intro e
   obtain⟨cc,g1,_⟩:=(hA.tok cl' k hk).row
   rw[e,hc] at g1
   injection g1 with g1
   injection g1 with _ _ g1 _
   rw[<-g1,hA.own _ _ _ hb _ _ _ _ hc] at hk;cases hk
  have hne2:k.cur≠σ.next:=Nat.ne_of_lt (hA.tlt hk).2
  refine (hA.tok cl' k hk).keep hx0 (hother _ hne2 hne (.inr (.inr ⟨cl',k,hk,rfl⟩))) rfl fun n cc E' rel hn hp hcc=>?_
  rw[hother n (Nat.ne_of_lt (hA.flt hp)) (by rintro rfl;omega) (.inl hp)] at hcc
  exact⟨cc,E',hp,hcc,rfl⟩
 ·rw[AH.set_objs] at hn
  split at hn
  ·rename_i e;subst e;exact hA.tnext
  ·rw[AH.del_objs] at hn
   split at hn
   ·cases hn
   ·exact hA.sep n o hn
 ·rw[AH.set_objs] at hn
  split at hn
  ·rename_i e;subst e
   rw[grown_heap,if_pos rfl] at hxx
   cases hxx
   exact hA.own _ _ _ hb _ _ _ _ hc
  ·rename_i e
   rw[AH.del_objs] at hn
   split at hn
   ·cases hn
   ·rename_i e2
    rw[hother n e e2 (.inr (.inl ⟨_,hn⟩))] at hxx
    exact hA.own _ _ _ hn _ _ _ _ hxx
theorem WO.vec {T:Nat->Option CFun}{fr:AFr}{s x:Operand}{E sz bytes b n:Nat}{cs:List AV}{ns:List (List AV)}{Q:AV->AH->Prop}(hs:evA fr s=.slice b 0 n n)(hb:h.objs b=some (.cells cs E))(hn:cs.length=n*sz)(hKb:¬K b)
  (hx:newEls (evA fr x)=some ns)(hxo:newOk sz (evA fr x))(hns:∀e∈ns,e.length=sz)(hone:ns.flatten.all oneA=true)(h0:0<ns.length)(hcap:capOk (n+ns.length) bytes)
  (hq:∀b',h.objs b'=none->¬K b'->Q (.slice b' 0 (n+ns.length) (n+ns.length)) ((h.del b).set b' (.cells (cs++ns.flatten) E))):WO T K (.e (.append E sz bytes s x)) fr h Q:=by
 intro F σ ρ hA hK hρ
 have hs':=hρ s
 rw[hs] at hs'
 obtain⟨h1,new,h2,h3⟩:=newEls_rp (hρ x) hx hxo hns
 obtain⟨hF,hro,c,cl,rel,hc,hl,_⟩:=hA.obj b _ hb
 have hlt:∀b,K b->b<σ.next:=fun b hb=>let ⟨o,ho⟩:=hK b hb;hA.lt ho
 have hcl:c.length=n*sz:=by rw[<-hl.1,hn]
 obtain⟨g1,g2⟩:=hA.vecCopy (K:=K) (p:=rel+n*sz) hK hb hKb hc h3
 generalize hv:ρ s=v at hs'
 cases hs'
 have htake:takeAt c 0 (n*sz)=some c:=by
  unfold takeAt
  rw[if_pos (by omega),List.drop_zero,List.take_of_length_le (by omega)]
 refine⟨.slice (some ⟨σ.next,0,none⟩) (n+ns.length) (n+ns.length),_,?_,F,_,_,g2,g1,fun m hm=>?_,.slice (Nat.le_refl _),hq σ.next hA.onext fun hk=>absurd (hlt _ hk) (by omega)⟩
 ·show doAppend E sz bytes σ (ρ s) (ρ x)=_
  rw[hv]
  simp only[doAppend,h1,h2]
  rw[if_neg (by omega),if_pos ⟨hcap,h3.all_one hone⟩]
  rw[if_pos ⟨trivial,hro⟩]
  simp only[hc,if_true,htake,Nat.add_zero]
 ·obtain⟨o,ho⟩:=hK m hm
  have:=hA.lt ho
  exact⟨o,by rw[AH.set_ne _ _ (by omega),AH.del_objs,if_neg (by rintro rfl;exact hKb hm)];exact ho⟩
end
theorem single_flat:∀(cs:List AV),(cs.map fun a=>[a]).flatten=cs
 |[]=>rfl
 |a::cs=>by show[a]++(cs.map fun a=>[a]).flatten=_;rw[single_flat cs];rfl
end Go.Cn
namespace Go.Cn
set_option linter.defProp false
open And renaming intro->A
set_option linter.unusedSimpArgs false
set_option linter.unusedVariables false
noncomputable def rn:=(A (A (A (A (A (A (A @runs @e_onS) (A @AH.set_same @AH.set_set)) (A (A @List.map_cons.{0,0} @List.map_nil.{0,0}) (A @List.length_cons.{0} (A @List.length_nil.{0} @List.drop_zero.{0})))) (A (A (A @List.drop_succ_cons.{0} @List.take_succ_cons.{0}) (A @List.take_zero.{0} @List.take_nil.{0})) (A (A @List.nil_append.{0} @List.cons_append.{0}) (A @List.append_nil.{0} (A @List.all_cons.{0} @List.all_nil.{0}))))) (A (A (A (A @Nat.zero_add @Nat.add_zero) (A @ite_true.{0} @ite_true.{1})) (A (A @ite_false.{0} @ite_false.{1}) (A @if_true.{0} (A @if_true.{1} @if_false.{0})))) (A (A (A @if_false.{1} @ne_eq.{1}) (A @not_false_eq_true (A @not_true_eq_false @and_true))) (A (A @true_and @and_self) (A @Bool.and_true (A @Bool.true_and @Bool.not_true)))))) (A (A (A (A (A @Bool.not_false @List.getElem?_cons_zero.{0}) (A @List.getElem?_cons_succ.{0} @Option.isSome_some.{0})) (A (A @beq_self_eq_true.{0} @implies_true.{0}) (A @implies_true.{1} (A @forall_const.{0} @forall_const.{1})))) (A (A (A @Nat.le_refl @Option.some.injEq.{0}) (A @Option.getD_some.{0} (A @Option.getD_none.{0} @List.getElem?_nil.{0}))) (A (A @e_Lpn @e_Lpe) (A @e_Lpr (A @decide_true @decide_false))))) (A (A (A (A @Int.natCast_nonneg @Int.toNat_natCast) (A @Int.toNat_zero @lt_irr)) (A (A @imp_self @false_implies) (A @big_eq (A @takeA.eq_1 @putA.eq_1)))) (A (A (A @fillA.eq_1 @fillA.eq_2) (A @chunkA.eq_1 (A @chunkA.eq_2 @zerosL.eq_1))) (A (A @zerosL.eq_2 @binA.eq_1) (A @binA.eq_2 (A @binA.eq_3 @binI.eq_1))))))) (A (A (A (A (A (A @binI.eq_2 @binI.eq_3) (A @binI.eq_4 @binI.eq_5)) (A (A @binI.eq_6 @binI.eq_7) (A @binI.eq_8 (A @binI.eq_9 @binI.eq_10)))) (A (A (A @binI.eq_11 @binI.eq_12) (A @binS.eq_1 (A @binS.eq_2 @binS.eq_3))) (A (A @binS.eq_4 @binS.eq_5) (A @binS.eq_6 (A @binS.eq_7 @binS.eq_8))))) (A (A (A (A @isNilA.eq_1 @isNilA.eq_2) (A @isNilA.eq_3 @isNilA.eq_4)) (A (A @isNilA.eq_5 @isNilA.eq_6) (A @isNilA.eq_7 (A @isNilA.eq_8 @isNilA.eq_9)))) (A (A (A @isNilA.eq_10 @isNilA.eq_11) (A @isNilA.eq_12 (A @isNilA.eq_13 @isNilA.eq_14))) (A (A @isNilA.eq_15 @isNilA.eq_16) (A @isNilA.eq_17 (A @isNilA.eq_18 @isNilA.eq_19)))))) (A (A (A (A (A @isNilA.eq_20 @isNilA.eq_21) (A @isNilA.eq_22 @isNilA.eq_23)) (A (A @isNilA.eq_24 @isNilA.eq_25) (A @isNilA.eq_26 (A @isNilA.eq_27 @isNilA.eq_28)))) (A (A (A @isNilA.eq_29 @isNilA.eq_30) (A @isNilA.eq_31 (A @lookA.eq_1 @lookA.eq_2))) (A (A @bndA.eq_1 @bndA.eq_2) (A @bndA.eq_3 (A @depA.eq_1 @depA.eq_2))))) (A (A (A (A @depA.eq_3 @depA.eq_4) (A @depA.eq_5 @depA.eq_6)) (A (A @depA.eq_7 @depV.eq_1) (A @depV.eq_2 (A @depV.eq_3 @depM.eq_1)))) (A (A (A @depM.eq_2 @depM.eq_3) (A @depM.eq_4 (A @depS.eq_1 @depS.eq_2))) (A (A @depS.eq_3 @depS.eq_4) (A @cellAt.eq_1 (A @elemAt.eq_1 @initA.eq_1))))))))
end Go.Cn
namespace Go.Cn
set_option linter.unusedVariables false
set_option linter.unusedSimpArgs false
def tab (P:Program)(f:Nat):Option CFun:=
 match P.funcs[f]? with
 | some fn => if fn.name == "runtime.NumGoroutine" then none else compFun P fn
 |none=>none
theorem tab_ok (P:Program):OkT P (tab P) where
 fn:=by
  intro f cf h
  unfold tab at h
  split at h
  ·rename_i fn hf
   split at h
   ·cases h
   ·rename_i hn
    have hb:∃c,fn.body=some c:=by
     unfold compFun at h
     split at h
     ·rename_i c rs e1 e2;exact⟨c,e1⟩
     ·cases h
    obtain⟨c,hb⟩:=hb
    exact⟨fn,c,hf,hb,h,by simpa using hn⟩
  ·cases h
def noCmp (P : Program) : Bool := P.funcs.toList.all fun fn => fn.body.isSome || !(fn.name == "internal/bytealg.abigen_runtime_cmpstring")
theorem u8_lt {P:Program}{t:TypeId}(h:P.underlying t=some (.int .u8)):t<P.types.size:=by
 by_cases ht:t<P.types.size
 ·exact ht
 ·exfalso
  unfold Program.underlying at h
  cases e:P.info? t with
  |none=>rw[e] at h;cases h
  |some i=>
   have hb:=Tables.info?_beyond ht e
   rw[e] at h
   obtain⟨d,a,b,c,z⟩:=i
   cases d<;>simp[TypeDesc.tableOnly] at hb<;>simp at h
theorem progOk_of {P:Program}(h1:noCmp P=true)(h2:P.follows .mixedOrders=true):ProgOk P where
 u8:=fun t h=>u8_lt h
 cmp:=by
  intro f fn hf hb hn
  have:=List.all_eq_true.1 h1 fn (by
   have:=Array.mem_of_getElem? hf
   simpa using this)
  rw[hb,hn] at this
  simp at this
 mixed:=h2
end Go.Cn
namespace Go.Cn
set_option linter.unusedVariables false
open Go.ChangeShapes Go.WideShapes
set_option linter.unusedSimpArgs false
def Kept (w w':World):Prop:=(∀B,B<w.heap.size->w'.heap[B]?=w.heap[B]?)/\w.heap.size<=w'.heap.size/\w'.os=w.os/\w'.output=w.output
theorem Kept.but {w w':World}(h:Kept w w')(may:MemPlace->Prop):w.keptBut w' may:=by
 refine⟨h.2.2.1,h.2.2.2,fun i hi=>?_⟩
 rw[h.1 i hi]
 cases w.heap[i]? with
 |none=>rfl
 |some o=>
  cases o with
  |cells c t fr=>exact⟨rfl,rfl,rfl,fun _ _=>rfl⟩
  |map es clock=>exact .inr ⟨rfl,rfl⟩
  |_=>rfl
theorem Kept.frozen {w w':World}(h:Kept w w')(a:Addr)(ha:a.block<w.heap.size):w'.frozen? a=w.frozen? a:=by
 unfold World.frozen?
 rw[h.1 _ ha]
theorem Kept.cell {w w':World}(h:Kept w w'){a:Addr}{v:Value}(hc:w.cell? a=some v):w'.cell? a=some v:=by
 unfold World.cell? at hc ⊢
 rw[h.1]
 ·exact hc
 ·rcases Nat.lt_or_ge a.block w.heap.size with h1|h1
  ·exact h1
  ·have:w.heap[a.block]?=none:=Array.getElem?_eq_none h1
   rw[this] at hc
   simp at hc
theorem post_of_kept {H:Type}{enc:TypeId×Value->H}{P:Program}{f:Func}{s:ChangeSpec}{apart fresh handsOn again:Bool}{W W':World}{args:Array Value}{v:Value}{ds gs:List (DataW H)}{before pa pv:List MemPlace}
  (hW:DataW.Whole enc P f.params.toList s.vars apart W args.toList ds gs before)
  (hres:∀(b:Nat)(sp:Nat->Bool)(hd:Bool),DataW.TrodAll enc P W' b sp hd f.resultTypes.toList (v.resultList f.resultTypes.size) (s.fn H (ds++gs)).results [])
  (hargs:∀sp:Nat->Bool,(∀p∈before,sp p.block=true)->DataW.TrodAll enc P W' 0 sp true f.params.toList args.toList (s.fn H (ds++gs)).args pa)
  (hvars:∀sp:Nat->Bool,(∀p∈before,sp p.block=true)->DataW.TrodVars enc P W' sp s.vars (s.fn H (ds++gs)).vars pv)
  (hps:before=pa++pv)(hk:Kept W W')
  (hok:∀(j:Nat)(t:TypeId)(r:Value),f.resultTypes[j]?=some t->(v.resultList f.resultTypes.size)[j]?=some r->Value.okWide P W' .any 0 t r) :
  s.post enc P f apart fresh handsOn again W args v W':=by
 have hlt:=hW.lt
 have hold:∀p∈before,(fun b=>decide (b<W.heap.size)) p.block=true:=fun p hp=>by simpa using hlt p hp
 have hbp:∀p∈before,p∈pa\/p∈pv:=fun p hp=>by rw[hps] at hp;exact List.mem_append.1 hp
 refine⟨ds,gs,before,[],pa,pv,hW,hres _ _ _,hargs _ hold,hvars _ hold,hk.but _,fun _=>?_⟩
 obtain⟨_,_,_,_,_,hz,hn⟩:=hW
 refine⟨hok,_,_,([]++pa)++pv,⟨[]++pa,pv,trodAll_append (hargs _ (fun _ _=>rfl)) (hres _ _ _),hvars _ (fun _ _=>rfl),rfl,?_,?_⟩,?_⟩
 ·intro b off hp
  have hp':MemPlace.cell b off∈before:=by rw[hps];simpa using hp
  rw[hk.frozen _ (hlt _ hp')]
  exact hz b off hp'
 ·intro ha
  have:=hn ha
  rw[hps] at this
  simpa using this
 ·intro p hp _
  rw[hps]
  simpa using hp
structure Row0 where
 B:Nat
 off:Nat
 N:Nat
 E:TypeId
 l:List Value
def Row0.ok (P:Program)(W:World)(r:Row0):Prop:=
 ∃c' fr,W.heap[r.B]?=some (.cells c' r.E fr)/\c'.size=r.N/\r.off+r.l.length<=r.N/\∀k v,r.l[k]?=some v->c'[r.off+k]?=some v/\∀β,VRel P β v v
def fr0 (rs:List Row0):Nat->Nat:=fun b=>match rs[b]? with
 |some r=>r.l.length
 |none=>0
end Go.Cn
namespace Go.Cn.Dr
set_option linter.unusedVariables false
set_option linter.unusedSimpArgs false
abbrev Sen:=Nat×List UInt8
section
variable (G:Nat)(tp:TypeId)(gs:List Sen)(E:Nat->TypeId)
def senAt (b:Nat):List Sen->Nat->Option Nat
 |[],_=>none
 |s::l,i=>if s.1=b then some i else senAt b l (i+1)
def gRow (b:Nat):CObj:=match senAt b gs 0 with
 |some i=>.cells [.iface tp (.pointer (some ⟨G+i,0,none⟩))] (E b) b 0
 |none=>.dead
def rowD (b:Nat):Option CObj:=if b<G then some (gRow G tp gs E b) else (gs[b-G]?).map fun s=>.cells [.string ⟨⟨s.2⟩⟩] (E b) b 0
def dC:CW where
 heap:=rowD G tp gs E
 next:=G+gs.length
 ro:=G+gs.length
 inj:=G+gs.length
 cls:=fun _=>none
end
theorem senAt_some {b:Nat}:∀{l:List Sen}{k i:Nat},senAt b l k=some i->∃s,k<=i/\l[i-k]?=some s/\s.1=b
 |[],k,i,h=>by cases h
 |s::l,k,i,h=>by
  simp only[senAt] at h
  split at h
  ·rename_i e;cases h;exact⟨s,Nat.le_refl _,by simp,e⟩
  ·obtain⟨t,h1,h2,h3⟩:=senAt_some h
   refine⟨t,by omega,?_,h3⟩
   rw[show i-k=(i-(k+1))+1 by omega];simpa using h2
structure DoorW (P:Program)(W:World)(G:Nat)(tp:TypeId)(gs:List Sen)(E:Nat->TypeId)(A:Nat->Addr)(N:Nat->Nat):Prop where
 gsize:P.globals.size=G
 size:G<=W.heap.size
 glob:∀(i:Nat)(s:Sen),gs[i]?=some s->s.1<G/\W.heap[s.1]?=some (Obj.cells #[.iface tp (.pointer (some (A i)))] (E s.1) (0,0))/\P.underlying (E s.1)≠some (.int .u8)
 ptr:∀(i:Nat)(s:Sen),gs[i]?=some s->(A i).spot=none/\∃c,W.heap[(A i).block]?=some (Obj.cells c (E (G+i)) (0,0))/\c.size=N i/\c[(A i).off]?=some (Value.string ⟨⟨s.2⟩⟩)/\P.underlying (E (G+i))≠some (.int .u8)
 dis:∀(i j:Nat)(s t:Sen),i≠j->gs[i]?=some s->gs[j]?=some t->s.2≠t.2
 utp:P.underlying tp≠some (.int .u8)
def bD (G:Nat)(tp:TypeId)(gs:List Sen)(E:Nat->TypeId)(A:Nat->Addr)(N:Nat->Nat):Ren:=fun b=>
 if b<G then match senAt b gs 0 with
  |some i=>some ⟨b,0,1,E b,true⟩
  |none=>some ⟨b,0,0,tp,true⟩
 else match gs[b-G]? with
  |some s=>some ⟨(A (b-G)).block,(A (b-G)).off,N (b-G),E b,true⟩
  |none=>none
section
variable {P:Program}{W:World}{G:Nat}{tp:TypeId}{gs:List Sen}{E:Nat->TypeId}{A:Nat->Addr}{N:Nat->Nat}
inductive RowK (W:World)(G:Nat)(tp:TypeId)(gs:List Sen)(E:Nat->TypeId)(A:Nat->Addr)(N:Nat->Nat)(b:Nat)(i:BI):CObj->Prop where
 |free (hb:b<G)(hi:i=⟨b,0,0,tp,true⟩):RowK W G tp gs E A N b i .dead
 |glob (k:Nat)(s:Sen)(hb:b<G)(hk:gs[k]?=some s)(hs:s.1=b)(hi:i=⟨b,0,1,E b,true⟩):RowK W G tp gs E A N b i (.cells [.iface tp (.pointer (some ⟨G+k,0,none⟩))] (E b) b 0)
 |sen (k:Nat)(s:Sen)(hb:b=G+k)(hk:gs[k]?=some s)(hi:i=⟨(A k).block,(A k).off,N k,E b,true⟩):RowK W G tp gs E A N b i (.cells [.string ⟨⟨s.2⟩⟩] (E b) b 0)
theorem bD_row {b:Nat}{i:BI}(h:bD G tp gs E A N b=some i):∃o,rowD G tp gs E b=some o/\RowK W G tp gs E A N b i o:=by
 unfold rowD
 unfold bD at h
 by_cases hb:b<G
 ·rw[if_pos hb] at h ⊢
  refine⟨_,rfl,?_⟩
  unfold gRow
  cases e:senAt b gs 0 with
  |none=>rw[e] at h;cases h;exact .free hb rfl
  |some k=>
   rw[e] at h;cases h
   obtain⟨s,_,h2,h3⟩:=senAt_some e
   exact .glob k s hb (by simpa using h2) h3 rfl
 ·rw[if_neg hb] at h ⊢
  cases e:gs[b-G]? with
  |none=>rw[e] at h;cases h
  |some s=>
   rw[e] at h;cases h
   exact⟨_,rfl,.sen (b-G) s (by omega) e rfl⟩
theorem bD_glob {s:Sen}{k:Nat}(h:gs[k]?=some s)(A:Nat->Addr)(N:Nat->Nat):bD G tp gs E A N (G+k)=some ⟨(A k).block,(A k).off,N k,E (G+k),true⟩:=by
 unfold bD
 rw[if_neg (by omega),show G+k-G=k by omega,h]
theorem addr_eq {a:Addr}(h:a.spot=none):a=⟨a.block,a.off,none⟩:=by cases a;simp only at h;rw[h]
theorem rowD_none {b:Nat}(hb:G+gs.length<=b):rowD G tp gs E b=none:=by
 unfold rowD
 rw[if_neg (by omega),List.getElem?_eq_none (by omega)];rfl
theorem rowD_lt {b:Nat}{o:CObj}(h:rowD G tp gs E b=some o):b<G+gs.length:=by
 rcases Nat.lt_or_ge b (G+gs.length) with h1|h1
 ·exact h1
 ·rw[rowD_none h1] at h;cases h
theorem rowD_cells {b:Nat}{c:List Value}{E':TypeId}{cl rel:Nat}(h:rowD G tp gs E b=some (.cells c E' cl rel)):cl=b/\rel=0:=by
 unfold rowD at h
 split at h
 ·unfold gRow at h
  split at h
  ·simp only[Option.some.injEq,CObj.cells.injEq] at h;exact⟨h.2.2.1.symm,h.2.2.2.symm⟩
  ·cases h
 ·cases e:gs[b-G]? with
  |none=>rw[e] at h;cases h
  |some s=>rw[e] at h;simp only[Option.map_some,Option.some.injEq,CObj.cells.injEq] at h;exact⟨h.2.2.1.symm,h.2.2.2.symm⟩
theorem rel_D (hW:DoorW P W G tp gs E A N):Rel P (bD G tp gs E A N) (dC G tp gs E) W/\GOk P (bD G tp gs E A N):=by
 have hro:(dC G tp gs E).ro=G+gs.length:=rfl
 have hinj:(dC G tp gs E).inj=G+gs.length:=rfl
 have hnext:(dC G tp gs E).next=G+gs.length:=rfl
 have hcls:∀c,(dC G tp gs E).cls c=none:=fun c=>rfl
 have hD_heap:∀b,(dC G tp gs E).heap b=rowD G tp gs E b:=fun b=>rfl
 have hbl:∀b i,bD G tp gs E A N b=some i->b<G+gs.length:=by
  intro b i hb
  obtain⟨o,h1,_⟩:=bD_row (W:=W) hb
  exact rowD_lt h1
 refine⟨⟨⟨fun b hb=>?_,fun b c E' cl rel h=>?_,fun c l h=>?_,?_⟩,fun b i hb=>?_,fun b i o hb ho=>?_,fun b1 b2 i1 i2 hne h1 h2 hB=>?_,fun b i hb=>?_,fun r ir m ver seen hr ho=>?_,?_⟩,fun g hg=>?_⟩
 ·rw[hD_heap];exact rowD_none hb
 ·rw[hD_heap] at h
  have hb:b<G+gs.length:=rowD_lt h
  have key:rel=0/\cl=b:=⟨(rowD_cells h).2,(rowD_cells h).1⟩
  obtain⟨rfl,rfl⟩:=key
  refine⟨?_,by rw[hnext];exact hb⟩
  unfold CW.members
  rw[hcls,hD_heap,h]
  simp
 ·rw[hcls] at h;cases h
 ·rw[hro,hnext];exact Nat.le_refl _
 ·refine⟨by rw[hnext];exact hbl b i hb,?_⟩
  obtain⟨o,_,hk⟩:=bD_row (W:=W) hb
  cases hk with
  |free hb hi=>subst hi;have:=hW.size;show b<_;omega
  |glob k s hb hk hs hi=>subst hi;have:=hW.size;show b<_;omega
  |sen k s hb hk hi=>
   subst hi
   obtain⟨_,c,h1,_⟩:=hW.ptr k s hk
   show (A k).block<_
   rcases Nat.lt_or_ge (A k).block W.heap.size with h2|h2
   ·exact h2
   ·rw[Array.getElem?_eq_none h2] at h1;cases h1
 ·obtain⟨o',h1,hk⟩:=bD_row (W:=W) hb
  rw[hD_heap,h1] at ho
  simp only[Option.some.injEq] at ho
  subst ho
  cases hk with
  |free hb hi=>trivial
  |glob k s hb hk hs hi=>
   subst hi hs
   obtain⟨_,g1,_⟩:=hW.glob k s hk
   show ObjRel P _ _ _ W.heap[s.1]?
   rw[g1]
   refine⟨rfl,rfl,rfl,Nat.le_refl _,fun _=>.inl rfl,fun j v hj=>?_⟩
   match j,hj with
   |0,hj=>
    simp only[List.getElem?_cons_zero,Option.some.injEq] at hj
    subst hj
    refine⟨_,rfl,.iface ?_⟩
    have:=VRel.ptr (P:=P) (off:=0) (bD_glob (G:=G) (tp:=tp) (E:=E) hk A N)
    rw[addr_eq (hW.ptr k s hk).1]
    simpa using this
  |sen k s hbb hk hi=>
   subst hi hbb
   obtain⟨_,c,g1,g2,g3,_⟩:=hW.ptr k s hk
   show ObjRel P _ _ _ W.heap[(A k).block]?
   rw[g1]
   have hoff:(A k).off<c.size:=(Array.getElem?_eq_some_iff.1 g3).1
   refine⟨rfl,rfl,g2,by show 1+(A k).off<=N k;omega,fun _=>.inl rfl,fun j v hj=>?_⟩
   match j,hj with
   |0,hj=>
    simp only[List.getElem?_cons_zero,Option.some.injEq] at hj
    subst hj
    exact⟨_,by show c[0+(A k).off]?=_;rw[Nat.zero_add];exact g3,.string _⟩
 ·refine⟨⟨fun _=>by rw[hro];exact hbl b2 i2 h2,fun _=>by rw[hro];exact hbl b1 i1 h1⟩,?_⟩
  have hb1:=hbl b1 i1 h1
  obtain⟨o1,q1,k1⟩:=bD_row (W:=W) h1
  obtain⟨o2,q2,k2⟩:=bD_row (W:=W) h2
  rw[hD_heap,hD_heap,q1,q2]
  have gs_no:∀{k:Nat}{s:Sen}{j:Nat}{t:Sen},gs[k]?=some s->gs[j]?=some t->s.1=(A j).block->False:=by
   intro k s j t hk hj he
   obtain⟨_,g1,_⟩:=hW.glob k s hk
   obtain⟨_,c,g3,_,g4,_⟩:=hW.ptr j t hj
   rw[<-he,g1] at g3
   simp only[Option.some.injEq,Obj.cells.injEq] at g3
   obtain⟨g3,_⟩:=g3
   subst g3
   match hoff:(A j).off,g4 with
   |0,g4=>simp at g4
   |n+1,g4=>simp at g4
  cases k1 with
  |free hb hi=>trivial
  |glob k s hb hk hs hi=>
   cases k2 with
   |free hb hi=>trivial
   |glob j t hb' hj ht hi'=>subst hi hi';exact absurd hB hne
   |sen j t hb' hj hi'=>subst hi hi' hs;exact (gs_no hk hj hB).elim
  |sen k s hb hk hi=>
   cases k2 with
   |free hb hi=>trivial
   |glob j t hb' hj ht hi'=>subst hi hi' ht;exact (gs_no hj hk hB.symm).elim
   |sen j t hb' hj hi'=>
    subst hi hi' hb hb'
    refine .inl ⟨by rw[hro];exact hb1,.inr ?_⟩
    intro hsh
    simp only at hB hsh
    obtain⟨_,c,g1,_,g2,_⟩:=hW.ptr k s hk
    obtain⟨_,c',g3,_,g4,_⟩:=hW.ptr j t hj
    rw[hB,g3] at g1
    simp only[Option.some.injEq,Obj.cells.injEq] at g1
    obtain⟨g1,_⟩:=g1
    subst g1
    rw[hsh,g4] at g2
    simp only[Option.some.injEq,Value.string.injEq,ByteArray.mk.injEq,Array.mk.injEq] at g2
    exact hW.dis j k t s (by intro e;subst e;exact hne rfl) hj hk g2
 ·obtain⟨o,q,_⟩:=bD_row (W:=W) hb
  exact⟨_,by rw[hD_heap,q]⟩
 ·obtain⟨o,q,k⟩:=bD_row (W:=W) hr
  rw[hD_heap,q] at ho
  cases k<;>cases ho
 ·refine⟨fun b hb=>?_,fun b i hb _=>?_⟩
  ·rw[hinj] at hb
   unfold bD
   by_cases h1:b<G
   ·rw[if_pos h1]
    cases e:senAt b gs 0 with
    |none=>exact⟨_,rfl,hW.utp⟩
    |some k=>
     obtain⟨s,_,h2,h3⟩:=senAt_some e
     subst h3
     exact⟨_,rfl,(hW.glob k s (by simpa using h2)).2.2⟩
   ·rw[if_neg h1]
    have hlt:b-G<gs.length:=by omega
    rw[List.getElem?_eq_getElem hlt]
    refine⟨_,rfl,?_⟩
    obtain⟨_,c,_,_,_,h2⟩:=hW.ptr (b-G) _ (List.getElem?_eq_getElem hlt)
    rw[show G+(b-G)=b by omega] at h2
    exact h2
  ·obtain⟨o,_,k⟩:=bD_row (W:=W) hb
   cases k with
   |free _ hi=>subst hi;rfl
   |glob _ _ _ _ _ hi=>subst hi;rfl
   |sen _ _ _ _ hi=>subst hi;rfl
 ·rw[hW.gsize] at hg
  unfold bD
  rw[if_pos hg]
  cases e:senAt g gs 0 with
  |none=>exact⟨_,rfl,rfl,rfl⟩
  |some k=>exact⟨_,rfl,rfl,rfl⟩
end
end Go.Cn.Dr
namespace Go.Cn.Dr
open Go.ChangeShapes Go.WideShapes
set_option linter.unusedVariables false
set_option linter.unusedSimpArgs false
def noU8 (P:Program)(te:TypeId):Bool:=(List.range P.types.size).all fun t=> !(isU8 P t&&sameLayout P P.depth t te)
theorem liesAt_u8 {P:Program}{te row:TypeId}{fs:Array Field}(hn:noU8 P te=true)(he:P.underlying te=some (.struct fs))(hu:P.underlying row=some (.int .u8))(d count off n:Nat):liesAt P d row count off te n=false:=by
 have hs:sameLayout P P.depth row te=false:=by
  unfold noU8 at hn
  have:=List.all_eq_true.1 hn row (List.mem_range.2 (u8_lt hu))
  have h8:isU8 P row=true:=by simp[isU8,hu]
  simpa[h8] using this
 have hr:∀(d c o:Nat),rowAt P (sameLayout P P.depth · te) d row c o n=false:=by
  intro d c o
  cases d with
  |zero=>rfl
  |succ d=>
   unfold rowAt
   simp only[hs,hu,Bool.and_false,Bool.or_false,ite_self]
 cases d with
 |zero=>rfl
 |succ d=>
  unfold liesAt
  rw[hr,he];rfl
theorem sen_of_laid {P:Program}{n nm:String}{text:List UInt8}{r:List (String×DataW Unit)}{W:World}{g:Nat}{ti tp te ts:TypeId}{ms:Array (String×TypeId)}{f:Field}
  (h:laidMet P ((n,.iface nm (.ptr (.agg [.lit (.string text)])))::r) W)
  (hg:P.globalNamed n=some g)(ht:(P.globals[g]?).map (·.type)=some ti)(hi:P.underlying ti=some (.interface ms))(hrow:∀u,P.typeName? 3 u=some nm->u=tp)
  (hp:P.underlying tp=some (.pointer te))(he:P.underlying te=some (.struct #[f]))(hft:f.type=ts)(hfo:f.offset=0)(hs:P.underlying ts=some .string)(hc:P.cellsOf te=1)(hcs:P.cellsOf ts=1)(hnu:noU8 P te=true) :
  ∃(a:Addr)(t:TypeId)(c:Array Value),(∃fr,W.heap[g]?=some (.cells #[.iface tp (.pointer (some a))] t fr))/\a.spot=none/\∃u,W.heap[a.block]?=some (.cells c u (0,0))/\c[a.off]?=some (.string ⟨⟨text⟩⟩)/\P.underlying u≠some (.int .u8):=by
 obtain⟨ps,⟨g0,t0,cs0,f0,p0,q0,hg0,ht0,hv0,hd0,_,e0⟩,_,hrows⟩:=h
 obtain rfl:=Option.some.inj (hg.symm.trans hg0)
 obtain rfl:=Option.some.inj (ht.symm.trans ht0)
 subst e0
 obtain⟨l0⟩:=cs0
 have ok0:∀u v,l0=[.iface u v]->Value.okWide P W .any 0 u v:=fun u v e=>by
  subst e
  exact (hrows g 0 (by simp[MemPlace.row])).2 u v (by simpa using World.var?_cell hg0 hv0 0)
 obtain⟨a0,s0,rfl,hc0,hs0,hz0,hp0⟩:=errorString_of_trod hi hrow hp he hft hfo hs hc hcs hd0 ok0
 have hok:=ok0 _ _ rfl
 have hhas:W.has P .any 0 a0 te 1:=by
  unfold Value.okWide at hok
  simp only[hp] at hok
  unfold Cell.okWide at hok
  simpa[hp,Cell.ok] using hok
 obtain⟨_,hsp,row,cells,hsh,hlie⟩:=hhas
 have hmem:MemPlace.cell a0.block a0.off∈MemPlace.row ⟨g,0,none⟩ (#[Value.iface tp (.pointer (some a0))]:Array Value).size++(p0++q0):=by
  subst hp0
  refine List.mem_append_right _ (List.mem_append_left _ (MemPlace.mem_row.2 ⟨0,by omega,by simp⟩))
 obtain⟨⟨c,u,hh⟩,_⟩:=hrows a0.block a0.off (by simpa using hmem)
 refine⟨a0,?_⟩
 have hvar:∃t fr,W.heap[g]?=some (.cells #[.iface tp (.pointer (some a0))] t fr):=by
  unfold World.var? at hv0
  rw[hg0] at hv0
  simp only[Option.bind_some] at hv0
  split at hv0
  ·rename_i cs t fr hq
   cases hv0
   exact⟨t,fr,hq⟩
  ·cases hv0
 obtain⟨t,fr,hvar⟩:=hvar
 refine⟨t,c,⟨fr,hvar⟩,hsp,u,hh,?_,?_⟩
 ·have e:a0=⟨a0.block,a0.off,none⟩:=addr_eq hsp
  rw[e] at hc0
  unfold World.cell? at hc0
  simp only[hh] at hc0
  have es:s0=⟨⟨text⟩⟩:=by
   subst hs0
   cases s0 with
   |mk d=>cases d;rfl
  rw[<-es];simpa using hc0
 ·intro hu
  unfold World.shape? at hsh
  rw[hh] at hsh
  simp only[Option.some.injEq,Prod.mk.injEq] at hsh
  obtain⟨rfl,_⟩:=hsh
  rw[liesAt_u8 hnu he hu] at hlie
  cases hlie
abbrev SenN:=String×Nat×List UInt8
def laidS {H:Type}(nm:String)(x:SenN):String×DataW H:=(x.1,.iface nm (.ptr (.agg [.lit (.string x.2.2)])))
def okN (P:Program)(ti:TypeId)(l:List SenN):Bool:=l.all fun x=>P.globalNamed x.1==some x.2.1&&(P.globals[x.2.1]?).map (·.type)==some ti&&decide (x.2.1<P.globals.size)
noncomputable def okS (P:Program)(l:List SenN):Bool:=(l.all fun x=>match (((begin P (fun _ _=>0) default).world).heap[x.2.1]?).bind Obj.row? with|some (_,t)=> !isU8 P t|none=>false)&&
 match (((begin P (fun _ _=>0) default).world).heap[P.globals.size-1]?).bind Obj.row? with|some _=>true|none=>false
def okD':List SenN->Bool
 |[]=>true
 |x::l=>l.all (fun y=>x.2.2 !=y.2.2)&&okD' l
def typeAt (W:World)(b:Nat):TypeId:=match W.heap[b]? with|some (.cells _ t _)=>t|_=>0
def sizeAt (W:World)(b:Nat):Nat:=match W.heap[b]? with|some (.cells c _ _)=>c.size|_=>0
theorem sens_of_laid {P:Program}{nm:String}{W:World}{ti tp te ts:TypeId}{ms:Array (String×TypeId)}{f:Field}
  (hi:P.underlying ti=some (.interface ms))(hrow:∀u,P.typeName? 3 u=some nm->u=tp)
  (hp:P.underlying tp=some (.pointer te))(he:P.underlying te=some (.struct #[f]))(hft:f.type=ts)(hfo:f.offset=0)(hs:P.underlying ts=some .string)(hc:P.cellsOf te=1)(hcs:P.cellsOf ts=1)(hnu:noU8 P te=true) :
  ∀{l:List SenN},okN P ti l=true->laidMet P (l.map (laidS nm)) W->∀(i:Nat)(x:SenN),l[i]?=some x->
   ∃(a:Addr)(t:TypeId)(c:Array Value),(∃fr,W.heap[x.2.1]?=some (.cells #[.iface tp (.pointer (some a))] t fr))/\a.spot=none/\∃u,W.heap[a.block]?=some (.cells c u (0,0))/\c[a.off]?=some (.string ⟨⟨x.2.2⟩⟩)/\P.underlying u≠some (.int .u8)
 |[],_,_,i,x,hx=>by simp at hx
 |y::l,hn,hL,i,x,hx=>by
  simp only[okN,List.all_cons,Bool.and_eq_true,beq_iff_eq,decide_eq_true_eq] at hn
  match i,hx with
  |0,hx=>
   simp only[List.getElem?_cons_zero,Option.some.injEq] at hx
   subst hx
   exact sen_of_laid hL hn.1.1.1 hn.1.1.2 hi hrow hp he hft hfo hs hc hcs hnu
  |i+1,hx=>exact sens_of_laid hi hrow hp he hft hfo hs hc hcs hnu (l:=l) hn.2 (laidMet.tail hL) i x (by simpa using hx)
theorem okD_ok:∀{l:List SenN},okD' l=true->∀(i j:Nat)(x y:SenN),i<j->l[i]?=some x->l[j]?=some y->x.2.2≠y.2.2
 |[],_,i,j,x,y,_,hx,_=>by simp at hx
 |z::l,h,i,j,x,y,hij,hx,hy=>by
  simp only[okD',Bool.and_eq_true,List.all_eq_true,bne_iff_ne,ne_eq] at h
  match i,j,hij,hx,hy with
  |0,j+1,_,hx,hy=>
   simp only[List.getElem?_cons_zero,Option.some.injEq] at hx
   subst hx
   exact h.1 y (List.mem_of_getElem? (by simpa using hy))
  |i+1,j+1,hij,hx,hy=>exact okD_ok h.2 i j x y (by omega) (by simpa using hx) (by simpa using hy)
theorem doorW_of {P:Program}{nm:String}{W:World}{ti tp te ts:TypeId}{ms:Array (String×TypeId)}{f:Field}{G:Nat}{l:List SenN}
  (hG:P.globals.size=G)(hi:P.underlying ti=some (.interface ms))(hrow:∀u,P.typeName? 3 u=some nm->u=tp)
  (hp:P.underlying tp=some (.pointer te))(he:P.underlying te=some (.struct #[f]))(hft:f.type=ts)(hfo:f.offset=0)(hs:P.underlying ts=some .string)(hc:P.cellsOf te=1)(hcs:P.cellsOf ts=1)(hnu:noU8 P te=true)
  (hn:okN P ti l=true)(hS:okS P l=true)(hD:okD' l=true)(hopen:W.ShapedOpen P)(hL:laidMet P (l.map (laidS nm)) W) :
  ∃E A N,DoorW P W G tp (l.map (·.2)) E A N:=by
 classical
 have hall:=sens_of_laid hi hrow hp he hft hfo hs hc hcs hnu hn hL
 have hall':∀k:Nat,∃a:Addr,∀x:SenN,l[k]?=some x->∃(t:TypeId)(c:Array Value),(∃fr,W.heap[x.2.1]?=some (.cells #[.iface tp (.pointer (some a))] t fr))/\a.spot=none/\∃u,W.heap[a.block]?=some (.cells c u (0,0))/\c[a.off]?=some (.string ⟨⟨x.2.2⟩⟩)/\P.underlying u≠some (.int .u8):=by
  intro k
  cases e:l[k]? with
  |none=>exact⟨⟨0,0,none⟩,fun x hx=>by cases hx⟩
  |some x=>
   obtain⟨a,h⟩:=hall k x e
   exact⟨a,fun y hy=>by cases hy;exact h⟩
 obtain⟨A,hA⟩:=Classical.axiomOfChoice hall'
 simp only[okS,Bool.and_eq_true,List.all_eq_true] at hS
 obtain⟨hS1,hS2⟩:=hS
 have hsize:P.globals.size<=W.heap.size:=by
  rcases Nat.eq_zero_or_pos P.globals.size with h0|h0
  ·omega
  ·cases e:((begin P (fun _ _=>0) default).world.heap[P.globals.size-1]?).bind Obj.row? with
   |none=>rw[e] at hS2;cases hS2
   |some zt=>
    obtain⟨z,t⟩:=zt
    obtain⟨cs,h1,_⟩:=hopen.1 (P.globals.size-1) z t (by omega) e
    rcases Nat.lt_or_ge (P.globals.size-1) W.heap.size with h2|h2
    ·omega
    ·rw[Array.getElem?_eq_none h2] at h1;cases h1
 have hnl:∀x∈l,x.2.1<P.globals.size:=fun x hx=>by
  have:=List.all_eq_true.1 hn x hx
  simp only[Bool.and_eq_true,decide_eq_true_eq] at this
  exact this.2
 refine⟨fun b=>if b<G then typeAt W b else typeAt W (A (b-G)).block,A,fun k=>sizeAt W (A k).block,hG,by rw[<-hG];exact hsize,fun i s hs=>?_,fun i s hs=>?_,fun i j s t hij hs ht=>?_,fun hu=>by rw[hp] at hu;cases hu⟩
 ·simp only[List.getElem?_map,Option.map_eq_some_iff] at hs
  obtain⟨x,hx,rfl⟩:=hs
  have hm:=List.mem_of_getElem? hx
  have hlt:x.2.1<G:=by rw[<-hG];exact hnl x hm
  obtain⟨t,c,⟨fr,h1⟩,_⟩:=hA i x hx
  have h2:=hS1 x hm
  cases e:((begin P (fun _ _=>0) default).world.heap[x.2.1]?).bind Obj.row? with
  |none=>rw[e] at h2;cases h2
  |some zt=>
   obtain⟨z,u⟩:=zt
   rw[e] at h2
   simp only[Bool.not_eq_true'] at h2
   obtain⟨cs,h3,_⟩:=hopen.1 x.2.1 z u (hnl x hm) e
   have hty:typeAt W x.2.1=t:=by unfold typeAt;rw[h1]
   rw[h1] at h3
   simp only[Option.some.injEq,Obj.cells.injEq] at h3
   obtain⟨h4,h5,h6⟩:=h3
   refine⟨hlt,?_,?_⟩
   ·rw[if_pos hlt,hty,h1,h6]
   ·rw[if_pos hlt,hty,h5]
    intro hu
    simp[isU8,hu] at h2
 ·simp only[List.getElem?_map,Option.map_eq_some_iff] at hs
  obtain⟨x,hx,rfl⟩:=hs
  obtain⟨t,c,_,h2,u,h3,h4,h5⟩:=hA i x hx
  have e1:typeAt W (A i).block=u:=by unfold typeAt;rw[h3]
  have e2:sizeAt W (A i).block=c.size:=by unfold sizeAt;rw[h3]
  refine⟨h2,c,?_,e2.symm,h4,?_⟩
  ·rw[if_neg (by omega),show G+i-G=i by omega,e1];exact h3
  ·rw[if_neg (by omega),show G+i-G=i by omega,e1];exact h5
 ·simp only[List.getElem?_map,Option.map_eq_some_iff] at hs ht
  obtain⟨x,hx,rfl⟩:=hs
  obtain⟨y,hy,rfl⟩:=ht
  rcases Nat.lt_or_gt_of_ne hij with h|h
  ·exact okD_ok hD i j x y h hx hy
  ·exact fun e=>okD_ok hD j i y x h hy hx e.symm
theorem laidH_plain {P:Program}{laid:List (String×DataW Unit)}{w:World}(h:(laid.all fun x=>x.2.handleName?.isNone)=true):laidMetH P laid w=laidMet P laid w:=by
 have e:(laid.filter fun x=>x.2.handleName?.isSome)=[]:=by
  rw[List.filter_eq_nil_iff]
  intro x hx hs
  have:=List.all_eq_true.1 h x hx
  cases hn:x.2.handleName? with
  |none=>rw[hn] at hs;cases hs
  |some s=>rw[hn] at this;cases this
 unfold laidMetH
 rw[e]
theorem returnsInHanded_of_door {H:Type}{enc:TypeId×Value->H}{a:Assume}{C:Checked}{os:Os}{f:FuncId}{fn:Func}{s:ChangeSpec}{conds:List PathCond}{apart fresh handsOn again:Bool}{X:World->Array Value->Prop}
  (hX:∀(w w':World)(args:Array Value),w.heap=w'.heap->X w args->X w' args)
  (own:ownKnob C.prog.godebug=none)(started:os.Started)(noInit:C.prog.inits.idxOf? f=none)(hfn:C.prog.funcs[f]?=some fn)
  (witness:∃(w:World)(tape:Tape)(i:Input),w.os=os/\(w.forCall tape i).Shaped C.prog/\i.vars=[]/\Input.okWide C.prog (w.forCall tape i) .any w.heap.size f i/\
   ((s.pre enc C.prog fn conds apart (w.forCall tape i).memory i.args/\X (w.forCall tape i).memory i.args)/\sizedMet enc C.prog fn (OpenSpec.ofChange s) apart (w.forCall tape i).memory i.args)/\a.holds C.prog (lone (Frame.enter C.prog f i.args .normal) [] (w.forCall tape i)))
  (contract:∀(W:World)(base:Nat)(args:Array Value)(ds gs:List (DataW H))(before:List MemPlace),W.ShapedOpen C.prog->
   (∀(j:Nat) t v,fn.params[j]?=some t->args[j]?=some v->Value.okWide C.prog W .any base t v)->
   DataW.Whole enc C.prog fn.params.toList s.vars apart W args.toList ds gs before->X W args->
   Calls C.prog f args W fun e W'=>∃v,e=.returned v/\s.post enc C.prog fn apart fresh handsOn again W args v W') :
  ReturnsInHanded a C os f .any (fun w args=>(s.pre enc C.prog fn conds apart w args/\X w args)/\sizedMet enc C.prog fn (OpenSpec.ofChange s) apart w args) (s.post enc C.prog fn apart fresh handsOn again):=by
 refine returnsInHanded_of_calls own started noInit witness ?_
 intro w tape i _ hopen _ hok hpre hholds
 obtain⟨_,_,_,fn',hfn',_,_,_,_,hval⟩:=hok
 have e:fn'=fn:=Option.some.inj (hfn'.symm.trans hfn)
 subst e
 obtain⟨⟨⟨ds,gs,before,hw,hc⟩,hx⟩,hz⟩:=hpre
 have hw':=DataW.Whole.of_heap (w':=w.forCall tape i) (by rfl) hw
 refine (contract (w.forCall tape i) w.heap.size i.args ds gs before hopen hval hw' (hX _ _ _ (by rfl) hx)).mono fun e W' ⟨v,he,hp⟩=>?_
 subst he
 exact ChangeSpec.post_blind hp
end Go.Cn.Dr
namespace Go.Cn
set_option linter.unusedVariables false
set_option linter.unusedSimpArgs false
open Go.ChangeShapes Go.WideShapes Go.Cn.Dr
def Row0.num (W:World)(r:Row0):Prop:=∃c fr k n,W.heap[r.B]?=some (Obj.cells c r.E fr)/\c[r.off]?=some (Value.int k n)
section
variable {P:Program}{W:World}{G:Nat}{tp:TypeId}{gs:List Sen}{E:Nat->TypeId}{A:Nat->Addr}{N:Nat->Nat}
noncomputable def sg (G:Nat)(tp:TypeId)(gs:List Sen)(E:Nat->TypeId)(rs:List Row0):CW where
 heap:=fun b=>if b<G+gs.length then rowD G tp gs E b else (rs[b-(G+gs.length)]?).map fun r=>.cells r.l r.E b 0
 next:=G+gs.length+rs.length
 ro:=G+gs.length+rs.length
 inj:=G+gs.length
 cls:=fun _=>none
def bg (G:Nat)(tp:TypeId)(gs:List Sen)(E:Nat->TypeId)(A:Nat->Addr)(N:Nat->Nat)(rs:List Row0):Ren:=fun b=>
 if b<G+gs.length then bD G tp gs E A N b else (rs[b-(G+gs.length)]?).map fun r=>⟨r.B,r.off,r.N,r.E,false⟩
theorem bD_lt {b:Nat}{i:BI}(h:bD G tp gs E A N b=some i):b<G+gs.length:=by
 obtain⟨o,h1,_⟩:=bD_row (W:=default) h
 exact rowD_lt h1
theorem bD_le (rs:List Row0):Le (bD G tp gs E A N) (bg G tp gs E A N rs):=fun b i h=>by
 unfold bg;rw[if_pos (bD_lt h)];exact h
theorem sg_door {rs:List Row0}{b:Nat}(h:b<G+gs.length):(sg G tp gs E rs).heap b=(dC G tp gs E).heap b:=by
 show (if _ then _ else _)=_
 rw[if_pos h];rfl
theorem sg_row {rs:List Row0}{b:Nat}{o:CObj}(hb:¬b<G+gs.length)(h:(sg G tp gs E rs).heap b=some o):∃r,rs[b-(G+gs.length)]?=some r/\o=.cells r.l r.E b 0:=by
 have h':(if b<G+gs.length then rowD G tp gs E b else (rs[b-(G+gs.length)]?).map fun r=>CObj.cells r.l r.E b 0)=some o:=h
 rw[if_neg hb,Option.map_eq_some_iff] at h'
 obtain⟨r,h1,h2⟩:=h'
 exact⟨r,h1,h2.symm⟩
theorem bg_row {rs:List Row0}{b:Nat}{i:BI}(hb:¬b<G+gs.length)(h:bg G tp gs E A N rs b=some i):∃r,rs[b-(G+gs.length)]?=some r/\i=⟨r.B,r.off,r.N,r.E,false⟩:=by
 unfold bg at h
 rw[if_neg hb,Option.map_eq_some_iff] at h
 obtain⟨r,h1,h2⟩:=h
 exact⟨r,h1,h2.symm⟩
theorem bg_door {rs:List Row0}{b:Nat}(hb:b<G+gs.length):bg G tp gs E A N rs b=bD G tp gs E A N b:=by unfold bg;rw[if_pos hb]
theorem door_cells {b:Nat}{c:List Value}{E':TypeId}{cl rel:Nat}(h:(dC G tp gs E).heap b=some (.cells c E' cl rel)):cl=b/\rel=0/\b<G+gs.length:=by
 exact⟨(rowD_cells h).1,(rowD_cells h).2,rowD_lt h⟩
theorem sg_inv (rs:List Row0):CInv (sg G tp gs E rs) where
 fresh:=fun b hb=>by
  have hb':G+gs.length+rs.length<=b:=hb
  show (if _ then _ else _)=_
  rw[if_neg (by omega),List.getElem?_eq_none (by omega)];rfl
 mem:=fun b c E' cl rel h=>by
  have key:cl=b/\rel=0/\b<G+gs.length+rs.length:=by
   by_cases hb:b<G+gs.length
   ·rw[sg_door hb] at h
    obtain⟨h1,h2,_⟩:=door_cells h
    exact⟨h1,h2,by omega⟩
   ·obtain⟨r,h1,h2⟩:=sg_row hb h
    cases h2
    have:=(List.getElem?_eq_some_iff.1 h1).1
    exact⟨rfl,rfl,by omega⟩
  obtain⟨rfl,rfl,hlt⟩:=key
  refine⟨?_,hlt⟩
  unfold CW.members
  show _∈(match (sg G tp gs E rs).heap cl with|some (.cells l _ _ _)=>[(cl,l.length)]|_=>[])
  rw[h];simp
 cls:=fun c l h=>by cases h
 rol:=Nat.le_refl _
theorem sg_rel (hW:DoorW P W G tp gs E A N){rs:List Row0}(h:∀r∈rs,r.ok P W)(hn:∀r∈rs,r.num W):Rel P (bg G tp gs E A N rs) (sg G tp gs E rs) W/\GOk P (bg G tp gs E A N rs):=by
 obtain⟨hR,hG⟩:=rel_D hW
 have hin:(dC G tp gs E).inj=G+gs.length:=rfl
 have hro:(dC G tp gs E).ro=G+gs.length:=rfl
 have hD_heap:∀b,(dC G tp gs E).heap b=rowD G tp gs E b:=fun b=>rfl
 refine⟨⟨sg_inv rs,fun b i hb=>?_,fun b i o hb ho=>?_,fun b1 b2 i1 i2 hne h1 h2 hB=>?_,fun b i hb=>?_,fun r ir m ver seen hr ho=>?_,fun b hb=>?_,fun b i hb hr=>?_⟩,hG.mono (bD_le rs)⟩
 ·show b<G+gs.length+rs.length/\_
  by_cases hlt:b<G+gs.length
  ·rw[bg_door hlt] at hb
   exact⟨by omega,(hR.lt b i hb).2⟩
  ·obtain⟨r,q1,rfl⟩:=bg_row hlt hb
   have:=(List.getElem?_eq_some_iff.1 q1).1
   refine⟨by omega,?_⟩
   obtain⟨c',fr,q2,_⟩:=h r (List.mem_of_getElem? q1)
   show r.B<_
   rcases Nat.lt_or_ge r.B W.heap.size with h3|h3
   ·exact h3
   ·rw[Array.getElem?_eq_none h3] at q2;cases q2
 ·by_cases hlt:b<G+gs.length
  ·rw[bg_door hlt] at hb
   rw[sg_door hlt] at ho
   exact (hR.obj b i o hb ho).mono (bD_le rs)
  ·obtain⟨r,q1,rfl⟩:=bg_row hlt hb
   obtain⟨r',q2,rfl⟩:=sg_row hlt ho
   rw[q1] at q2;cases q2
   obtain⟨c',fr,h3,h4,h5,h6⟩:=h r (List.mem_of_getElem? q1)
   show ObjRel P _ _ _ W.heap[r.B]?
   rw[h3]
   exact⟨rfl,rfl,h4,by show r.l.length+r.off<=r.N;omega,fun e=>(by cases e),fun k v hk=>⟨v,by show c'[k+r.off]?=some v;rw[Nat.add_comm];exact (h6 k v hk).1,(h6 k v hk).2 _⟩⟩
 ·have hlt:∀b i,bg G tp gs E A N rs b=some i->b<G+gs.length+rs.length:=by
   intro b i hb
   by_cases hlt:b<G+gs.length
   ·omega
   ·obtain⟨r,q1,_⟩:=bg_row hlt hb
    have:=(List.getElem?_eq_some_iff.1 q1).1
    omega
  have l1:=hlt b1 i1 h1
  have l2:=hlt b2 i2 h2
  have mix:∀{b1 b2:Nat}{i1 i2:BI},b1<G+gs.length->¬b2<G+gs.length->bg G tp gs E A N rs b1=some i1->bg G tp gs E A N rs b2=some i2->i1.B=i2.B->∀c Ec cl rel,(sg G tp gs E rs).heap b1=some (.cells c Ec cl rel)->i1.sh≠i2.sh:=by
   intro b1 b2 i1 i2 x1 x2 q1 q2 hB c Ec cl rel hc hsh
   rw[bg_door x1] at q1
   obtain⟨r,q3,rfl⟩:=bg_row x2 q2
   obtain⟨c',fr,k,n,q4,q5⟩:=hn r (List.mem_of_getElem? q3)
   obtain⟨o,q6,q7⟩:=bD_row (W:=W) q1
   rw[sg_door x1,hD_heap,q6] at hc
   simp only at hB hsh
   cases q7 with
   |free hb hi=>cases hc
   |glob k' s hb hk hs hi=>
    subst hi hs
    obtain⟨_,g1,_⟩:=hW.glob k' s hk
    simp only at hB hsh
    rw[<-hB,g1] at q4
    simp only[Option.some.injEq,Obj.cells.injEq] at q4
    obtain⟨q4,_⟩:=q4
    subst q4
    rw[<-hsh] at q5
    simp at q5
   |sen k' s hbb hk hi=>
    subst hi
    obtain⟨_,cc,g1,_,g3,_⟩:=hW.ptr k' s hk
    simp only at hB hsh
    rw[<-hB,g1] at q4
    simp only[Option.some.injEq,Obj.cells.injEq] at q4
    obtain⟨q4,_⟩:=q4
    subst q4
    rw[<-hsh,g3] at q5
    cases q5
  refine⟨⟨fun _=>l2,fun _=>l1⟩,?_⟩
  by_cases x1:b1<G+gs.length
  ·by_cases x2:b2<G+gs.length
   ·have y1:=h1
    have y2:=h2
    rw[bg_door x1] at y1
    rw[bg_door x2] at y2
    obtain⟨_,hal⟩:=hR.alias b1 b2 i1 i2 hne y1 y2 hB
    obtain⟨o1,w1,k1⟩:=bD_row (W:=W) y1
    obtain⟨o2,w2,k2⟩:=bD_row (W:=W) y2
    rw[hD_heap,hD_heap,w1,w2] at hal
    rw[sg_door x1,sg_door x2,hD_heap,hD_heap,w1,w2]
    have fin:∀{X:Prop},(b1<(dC G tp gs E).ro/\((dC G tp gs E).inj<=b1/\(dC G tp gs E).inj<=b2\/i1.sh≠i2.sh)\/(dC G tp gs E).ro<=b1/\X)->i1.sh≠i2.sh:=by
     rintro X (⟨_,g2|g2⟩|⟨g1,_⟩)
     ·rw[hin] at g2;omega
     ·exact g2
     ·rw[hro] at g1;omega
    cases k1 with
    |free _ _=>trivial
    |glob _ _ _ _ _ _=>
     cases k2 with
     |free _ _=>trivial
     |glob _ _ _ _ _ _=>exact .inl ⟨l1,.inr (fin hal)⟩
     |sen _ _ _ _ _=>exact .inl ⟨l1,.inr (fin hal)⟩
    |sen _ _ _ _ _=>
     cases k2 with
     |free _ _=>trivial
     |glob _ _ _ _ _ _=>exact .inl ⟨l1,.inr (fin hal)⟩
     |sen _ _ _ _ _=>exact .inl ⟨l1,.inr (fin hal)⟩
   ·obtain⟨r2,q2,rfl⟩:=bg_row x2 h2
    have e2:(sg G tp gs E rs).heap b2=some (.cells r2.l r2.E b2 0):=by
     show (if _ then _ else _)=_
     rw[if_neg x2,q2];rfl
    rw[e2]
    cases e1:(sg G tp gs E rs).heap b1 with
    |none=>
     rw[bg_door x1] at h1
     obtain⟨o,w⟩:=hR.here b1 i1 h1
     rw[sg_door x1,w] at e1;cases e1
    |some o1=>
     cases o1 with
     |dead=>trivial
     |cells c Ec cl rel=>exact .inl ⟨l1,.inr (mix x1 x2 h1 h2 hB c Ec cl rel e1)⟩
     |map _ _=>
      rw[sg_door x1] at e1
      rw[bg_door x1] at h1
      obtain⟨o,w,k⟩:=bD_row (W:=W) h1
      rw[hD_heap,w] at e1
      cases k<;>cases e1
     |iter _ _ _=>
      rw[sg_door x1] at e1
      rw[bg_door x1] at h1
      obtain⟨o,w,k⟩:=bD_row (W:=W) h1
      rw[hD_heap,w] at e1
      cases k<;>cases e1
     |loop _ _ _ _ _ _=>
      rw[sg_door x1] at e1
      rw[bg_door x1] at h1
      obtain⟨o,w,k⟩:=bD_row (W:=W) h1
      rw[hD_heap,w] at e1
      cases k<;>cases e1
  ·obtain⟨r1,q1,rfl⟩:=bg_row x1 h1
   have e1:(sg G tp gs E rs).heap b1=some (.cells r1.l r1.E b1 0):=by
    show (if _ then _ else _)=_
    rw[if_neg x1,q1];rfl
   rw[e1]
   by_cases x2:b2<G+gs.length
   ·cases e2:(sg G tp gs E rs).heap b2 with
    |none=>
     rw[bg_door x2] at h2
     obtain⟨o,w⟩:=hR.here b2 i2 h2
     rw[sg_door x2,w] at e2;cases e2
    |some o2=>
     cases o2 with
     |dead=>trivial
     |cells c Ec cl rel=>exact .inl ⟨l1,.inr fun e=>mix x2 x1 h2 h1 hB.symm c Ec cl rel e2 e.symm⟩
     |map _ _=>
      rw[sg_door x2] at e2
      rw[bg_door x2] at h2
      obtain⟨o,w,k⟩:=bD_row (W:=W) h2
      rw[hD_heap,w] at e2
      cases k<;>cases e2
     |iter _ _ _=>
      rw[sg_door x2] at e2
      rw[bg_door x2] at h2
      obtain⟨o,w,k⟩:=bD_row (W:=W) h2
      rw[hD_heap,w] at e2
      cases k<;>cases e2
     |loop _ _ _ _ _ _=>
      rw[sg_door x2] at e2
      rw[bg_door x2] at h2
      obtain⟨o,w,k⟩:=bD_row (W:=W) h2
      rw[hD_heap,w] at e2
      cases k<;>cases e2
   ·obtain⟨r2,q2,rfl⟩:=bg_row x2 h2
    have e2:(sg G tp gs E rs).heap b2=some (.cells r2.l r2.E b2 0):=by
     show (if _ then _ else _)=_
     rw[if_neg x2,q2];rfl
    rw[e2]
    exact .inl ⟨l1,.inl ⟨Nat.not_lt.1 x1,Nat.not_lt.1 x2⟩⟩
 ·by_cases hlt:b<G+gs.length
  ·rw[bg_door hlt] at hb
   rw[sg_door hlt]
   exact hR.here b i hb
  ·obtain⟨r,q1,_⟩:=bg_row hlt hb
   exact⟨_,by show (if _ then _ else _)=_;rw[if_neg hlt,q1];rfl⟩
 ·by_cases hlt:r<G+gs.length
  ·rw[bg_door hlt] at hr
   rw[sg_door hlt] at ho
   obtain⟨o,w,k⟩:=bD_row (W:=W) hr
   rw[hD_heap,w] at ho
   cases k<;>cases ho
  ·obtain⟨_,_,h⟩:=sg_row hlt ho;cases h
 ·have hb':b<G+gs.length:=hb
  obtain⟨i,q1,q2⟩:=hR.wr.1 b (by rw[hin];exact hb')
  exact⟨i,bD_le rs b i q1,q2⟩
 ·have hr':G+gs.length+rs.length<=b\/b<G+gs.length:=hr
  by_cases hlt:b<G+gs.length
  ·rw[bg_door hlt] at hb
   exact hR.wr.2 b i hb (.inr (by rw[hin];exact hlt))
  ·obtain⟨r,q1,_⟩:=bg_row hlt hb
   have:=(List.getElem?_eq_some_iff.1 q1).1
   omega
end
end Go.Cn
namespace Go.Cn
set_option linter.unusedVariables false
set_option linter.unusedSimpArgs false
open Go.ChangeShapes Go.WideShapes Go.Cn.Dr
section
variable {P:Program}{W:World}{G:Nat}{tp:TypeId}{gs:List Sen}{E:Nat->TypeId}{A:Nat->Addr}{N:Nat->Nat}
def gO (G:Nat)(tp:TypeId)(gs:List Sen)(E:Nat->TypeId)(b:Nat):Option AO:=
 if b<G then match senAt b gs 0 with
  |some i=>some (.stat [.iface tp (.ptr (G+i) 0)] (E b))
  |none=>none
 else (gs[b-G]?).map fun s=>.stat [.str s.2] (E b)
def gA (G:Nat)(tp:TypeId)(gs:List Sen)(E:Nat->TypeId):AH:=⟨gO G tp gs E,fun _=>none⟩
def gF (G:Nat)(gs:List Sen)(rs:List Row0)(b:Nat):Nat:=
 if b<G then (match senAt b gs 0 with|some _=>1|none=>0) else if b<G+gs.length then 1 else fr0 rs (b-(G+gs.length))
theorem sg_heap_lo {rs:List Row0}{b:Nat}(hb:b<G):(sg G tp gs E rs).heap b=some (gRow G tp gs E b):=by
 show (if _ then _ else _)=_
 rw[if_pos (by omega)];unfold rowD;rw[if_pos hb]
theorem sg_heap_mid {rs:List Row0}{b:Nat}(hb:¬b<G)(hb2:b<G+gs.length):∃s,gs[b-G]?=some s/\(sg G tp gs E rs).heap b=some (.cells [.string ⟨⟨s.2⟩⟩] (E b) b 0):=by
 have hlt:b-G<gs.length:=by omega
 refine⟨gs[b-G],by simp[hlt],?_⟩
 show (if _ then _ else _)=_
 rw[if_pos hb2];unfold rowD;rw[if_neg hb,List.getElem?_eq_getElem hlt];rfl
theorem sg_heap_hi {rs:List Row0}{b:Nat}(hb:¬b<G+gs.length):(sg G tp gs E rs).heap b=(rs[b-(G+gs.length)]?).map fun r=>.cells r.l r.E b 0:=by
 show (if _ then _ else _)=_
 rw[if_neg hb]
theorem sg_ar (rs:List Row0):AR (gF G gs rs) (gA G tp gs E) (sg G tp gs E rs) where
 inv:=sg_inv rs
 mem:=fun cl m hm=>by
  have hn:(sg G tp gs E rs).cls cl=none:=rfl
  obtain⟨x,E',cl',rel,h1,rfl⟩:=members_none hn hm
  have h2:=(sg_inv rs).mem _ _ _ _ _ h1
  by_cases hb:cl<G+gs.length
  ·have h3:=h1
   rw[sg_door hb] at h3
   obtain⟨rfl,rfl,_⟩:=door_cells h3
   exact .inl ⟨x,E',0,h1,by simp⟩
  ·obtain⟨r,_,e⟩:=sg_row hb h1
   cases e
   exact .inl ⟨_,_,0,h1,by simp⟩
 fro:=fun b hb=>by
  unfold gF at hb ⊢
  by_cases h1:b<G
  ·rw[if_pos h1] at hb ⊢
   rw[sg_heap_lo h1]
   unfold gRow
   cases e:senAt b gs 0 with
   |none=>rw[e] at hb;simp at hb
   |some i=>exact⟨_,rfl,.inl ⟨_,_,_,_,rfl,by simp⟩⟩
  ·rw[if_neg h1] at hb ⊢
   by_cases h2:b<G+gs.length
   ·rw[if_pos h2] at hb ⊢
    obtain⟨s,_,e⟩:=sg_heap_mid (tp:=tp) (E:=E) (rs:=rs) h1 h2
    exact⟨_,e,.inl ⟨_,_,_,_,rfl,by simp⟩⟩
   ·rw[if_neg h2] at hb ⊢
    rw[sg_heap_hi h2]
    unfold fr0 at hb ⊢
    cases e:rs[b-(G+gs.length)]? with
    |none=>rw[e] at hb;simp at hb
    |some r=>exact⟨_,rfl,.inl ⟨_,_,_,_,rfl,Nat.le_refl _⟩⟩
 obj:=fun b o h=>by
  have h':gO G tp gs E b=some o:=h
  unfold gO at h'
  by_cases h1:b<G
  ·rw[if_pos h1] at h'
   cases e:senAt b gs 0 with
   |none=>rw[e] at h';cases h'
   |some i=>
    rw[e] at h'
    simp only[Option.some.injEq] at h'
    subst h'
    refine⟨by show b<G+gs.length+rs.length;omega,by show b<G+gs.length;omega,[.iface tp (.pointer (some ⟨G+i,0,none⟩))],b,0,?_,?_,by simp,.cons (.iface (.ptr _ _)) .nil⟩
    ·rw[sg_heap_lo h1];unfold gRow;rw[e]
    ·unfold gF;rw[if_pos h1,e];rfl
  ·rw[if_neg h1] at h'
   cases e:gs[b-G]? with
   |none=>rw[e] at h';cases h'
   |some s=>
    rw[e] at h'
    simp only[Option.map_some,Option.some.injEq] at h'
    subst h'
    have hlt:=(List.getElem?_eq_some_iff.1 e).1
    have h2:b<G+gs.length:=by omega
    obtain⟨s',e',eh⟩:=sg_heap_mid (tp:=tp) (E:=E) (rs:=rs) h1 h2
    rw[e] at e';cases e'
    refine⟨by show b<G+gs.length+rs.length;omega,h2,_,_,_,eh,?_,by simp,.cons (.str _) .nil⟩
    unfold gF;rw[if_neg h1,if_pos h2];rfl
 tok:=fun c k h=>by cases h
 sep:=fun b o h=>rfl
 own:=fun b cs E h=>fun _ _ _ _ _=>rfl
theorem run_G (hW:DoorW P W G tp gs E A N)(hP:ProgOk P){T:Nat->Option CFun}(hT:OkT P T){f:Nat}{args:List AV}{argsC argsM:List Value}{rs:List Row0}(hc:ACall T (fun _=>False) (.func f) args (gA G tp gs E) fun v _=>v=.bool true)
  (hr:∀r∈rs,r.ok P W)(hn:∀r∈rs,r.num W)(ha:RpL (gF G gs rs) (sg G tp gs E rs) args argsC)(hm:LRel P (bg G tp gs E A N rs) argsC argsM):Calls P f argsM.toArray W fun e W'=>e=.returned (.bool true)/\Kept W W':=by
 obtain⟨hR,hG⟩:=sg_rel hW hr hn
 have h1:=hc (gF G gs rs) (sg G tp gs E rs) argsC (sg_ar rs) (fun b hb=>hb.elim) ha
 have h2:=((CallA.sim hP hT).func h1 hR hG hm).2
 refine (callsIn_wide.1 h2).mono fun e W' ⟨v,v',β',σ',⟨F',a,h',_,_,_,hv,hq⟩,he,hvr,hs⟩=>⟨?_,?_⟩
 ·subst hq
  have:=hv.bool_inv
  subst this
  rw[he,hvr.bool_inv]
 ·refine⟨fun B hB=>hs.afr B hB fun b i hb hr=>?_,hs.size,hs.os,hs.out⟩
  have hro:G+gs.length+rs.length<=b:=hr
  by_cases hlt:b<G+gs.length
  ·omega
  ·obtain⟨r,q1,_⟩:=bg_row hlt hb
   have:=(List.getElem?_eq_some_iff.1 q1).1
   omega
theorem runG_ints (hW:DoorW P W G tp gs E A N)(hP:ProgOk P){T:Nat->Option CFun}(hT:OkT P T){f:Nat}{k:IntKind}{M:Nat}(hM:M<=big){x:AV}{xv:Value}(hx:∀F σ,Rp F σ x xv)(hxm:∀β,VRel P β xv xv)
  (hs:∀(E':TypeId)(zs:List Int),zs.length<=M->ACall T (fun _=>False) (.func f) [.lst E' (zs.map fun n=>[.int k n]) .no,x] (gA G tp gs E) fun v _=>v=.bool true)
  (hL:∀b o n c,M<n->ACall T (fun _=>False) (.func f) [.slice b o n c,x] (gA G tp gs E) fun v _=>v=.bool true){a:Addr}{len cap:Nat}{zs:List Int}(hle:len<=cap)(hz:zs.length=cap)(hcell:∀i,i<zs.length->W.cell? (a.add i)=some (.int k (zs.getD i 0))) :
  Calls P f #[.slice (some a) len cap,xv] W fun e W'=>e=.returned (.bool true)/\Kept W W':=by
 have two:∀{β:Ren}{x' y':Value},VRel P β x' y'->LRel P β [x',xv] [y',xv]:=fun h=>⟨rfl,fun i x y hx hy=>by
  match i,hx,hy with
  |0,hx,hy=>simp at hx hy;subst hx hy;exact h
  |1,hx,hy=>simp at hx hy;subst hx hy;exact hxm _⟩
 by_cases h0:cap=0
 ·subst h0
  have hl0:len=0:=by omega
  subst hl0
  exact run_G hW hP hT (rs:=[]) (argsC:=[.slice (some ⟨0,0,none⟩) 0 0,xv]) (argsM:=[.slice (some a) 0 0,xv]) (hs 0 [] (Nat.zero_le _)) (by simp) (by simp) (.cons (.lstE _ _ _ _) (.cons (hx _ _) .nil)) (two (.slice (Nat.le_refl _) (Nat.le_refl _) (.inl rfl)))
 ·have hpos:0<zs.length:=by omega
  have hc0:=hcell 0 hpos
  obtain⟨b,off,spot⟩:=a
  simp only[Addr.add,if_true] at hc0
  unfold World.cell? at hc0
  split at hc0
  case h_2=>cases hc0
  rename_i c' E' fr hB
  cases spot with
  |some x=>simp at hc0
  |none=>
   have hB':W.heap[b]?=some (.cells c' E' fr):=hB
   have hall:∀i,i<zs.length->c'[off+i]?=some (.int k (zs.getD i 0)):=by
    intro i hi
    have h1:=hcell i hi
    have e:(Addr.add ⟨b,off,none⟩ i)=⟨b,off+i,none⟩:=by
     unfold Addr.add
     split
     ·rename_i e;subst e;rfl
     ·rfl
    rw[e] at h1
    unfold World.cell? at h1
    simp only[hB'] at h1
    simpa using h1
   have hoff:off+len<=c'.size:=by
    by_cases hl0:len=0
    ·subst hl0
     have:=(Array.getElem?_eq_some_iff.1 (hall 0 hpos)).1
     omega
    ·have:=(Array.getElem?_eq_some_iff.1 (hall (len-1) (by omega))).1
     omega
   have hlen:(zs.take len).length=len:=by simp;omega
   generalize hrr:(⟨b,off,c'.size,E',(zs.take len).map fun n=>.int k n⟩ : Row0)=r0
   have hrow:∀r∈[r0],r.ok P W:=by
    intro r hr
    simp only[List.mem_singleton] at hr
    subst hr hrr
    refine⟨c',fr,hB',rfl,by show off+((zs.take len).map _).length<=c'.size;rw[List.length_map,hlen];exact hoff,fun i v hv=>?_⟩
    simp only[List.getElem?_map,Option.map_eq_some_iff] at hv
    obtain⟨n,hn,rfl⟩:=hv
    have hil:i<len:=by rw[<-hlen];exact (List.getElem?_eq_some_iff.1 hn).1
    refine⟨?_,fun β=>.int _ _⟩
    show c'[off+i]?=_
    rw[hall i (by omega)]
    rw[List.getElem?_take,if_pos hil] at hn
    simp[List.getD,hn]
   have hnum:∀r∈[r0],r.num W:=by
    intro r hr
    simp only[List.mem_singleton] at hr
    subst hr hrr
    exact⟨c',fr,k,zs.getD 0 0,hB',by simpa using hall 0 hpos⟩
   have hlo:¬(G+gs.length)<G+gs.length:=by omega
   have hbg:bg G tp gs E A N [r0] (G+gs.length)=some ⟨b,off,c'.size,E',false⟩:=by
    unfold bg;rw[if_neg hlo,Nat.sub_self, <-hrr];rfl
   have hm:VRel P (bg G tp gs E A N [r0]) (.slice (some ⟨G+gs.length,0,none⟩) len cap) (.slice (some ⟨b,off,none⟩) len cap):=
    .slice hle (Nat.le_refl _) (.inr ⟨_,hbg,by simp,.inl rfl⟩)
   by_cases hl:len<=M
   ·have hrp:Rp (gF G gs [r0]) (sg G tp gs E [r0]) (.lst E' ((zs.take len).map fun n=>[.int k n]) .no) (.slice (some ⟨G+gs.length,0,none⟩) len cap):=by
     by_cases h1:zs.take len=[]
     ·have:len=0:=by rw[<-hlen,h1];rfl
      subst this
      rw[h1];exact .lstE _ _ _ _
     ·have e1:(sg G tp gs E [r0]).heap (G+gs.length)=some (.cells ((zs.take len).map fun n=>.int k n) E' (G+gs.length) 0):=by
       rw[sg_heap_hi hlo,Nat.sub_self, <-hrr];rfl
      have hF:gF G gs [r0] (G+gs.length)=len:=by
       unfold gF
       rw[if_neg (by omega),if_neg hlo,Nat.sub_self, <-hrr]
       show ((zs.take len).map _).length=len
       rw[List.length_map,hlen]
      have:=Rp.lst (F:=gF G gs [r0]) (σ:=sg G tp gs E [r0]) (E:=E') (es:=(zs.take len).map fun n=>[AV.int k n]) (t:=.no) (b:=G+gs.length) (off:=0) (cap:=cap) (sz:=1) e1 (by simpa using h1) (by omega) (fun e he=>by obtain⟨x,_,rfl⟩:=List.mem_map.1 he;rfl) (by rw[List.length_map,hF,hlen];omega) (by rw[List.length_map,List.length_map,hlen];omega) (by rw[List.length_map,hlen];exact hle) (by rw[List.length_map,hlen];omega) (.inl rfl) (fun i x y hi hy=>?_)
      ·simpa only[List.length_map,hlen] using this
      ·have e2:((zs.take len).map fun x=>[AV.int k x]).flatten=(zs.take len).map fun n=>AV.int k n:=by
        generalize zs.take len=l
        induction l with
        |nil=>rfl
        |cons a l ih=>simp only[List.map_cons,List.flatten_cons,ih];rfl
       rw[e2] at hi
       rw[Nat.zero_add,List.getElem?_map] at hy
       rw[List.getElem?_map] at hi
       cases hz:(zs.take len)[i]?<;>rw[hz] at hi hy<;>simp at hi hy
       subst hi hy;exact .int _ _
    exact run_G hW hP hT (hs E' (zs.take len) (by omega)) hrow hnum (.cons hrp (.cons (hx _ _) .nil)) (two hm)
   ·exact run_G hW hP hT (hL _ 0 len cap (by omega)) hrow hnum (.cons (.slice hle) (.cons (hx _ _) .nil)) (two hm)
theorem runG_nil (hW:DoorW P W G tp gs E A N)(hP:ProgOk P){T:Nat->Option CFun}(hT:OkT P T){f:Nat}{x:AV}{xv:Value}(hx:∀F σ,Rp F σ x xv)(hxm:∀β,VRel P β xv xv)(hs:ACall T (fun _=>False) (.func f) [.lst 0 [] .no,x] (gA G tp gs E) fun v _=>v=.bool true) :
  Calls P f #[.slice none 0 0,xv] W fun e W'=>e=.returned (.bool true)/\Kept W W':=
 run_G hW hP hT (rs:=[]) (argsC:=[.slice none 0 0,xv]) (argsM:=[.slice none 0 0,xv]) hs (by simp) (by simp) (.cons (.lstN _) (.cons (hx _ _) .nil)) ⟨rfl,fun i x y hx hy=>by
  match i,hx,hy with
  |0,hx,hy=>simp at hx hy;subst hx hy;exact .nilSlice
  |1,hx,hy=>simp at hx hy;subst hx hy;exact hxm _⟩
end
end Go.Cn
