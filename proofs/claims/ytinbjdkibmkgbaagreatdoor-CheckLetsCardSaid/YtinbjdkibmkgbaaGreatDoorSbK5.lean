/- CheckLets: for every row of numbers and every truth value the statement's function returns true, changes nothing that was there, and never panics. The variables hold what is listed (the card ties that to the program's text). -/

import Derived.Test.YtinbjdkibmkgbaaGreatDoorSbP23
import Derived.Test.YtinbjdkibmkgbaaGreatDoorCnA11
import Derived.Test.YtinbjdkibmkgbaaGreatDoorRows
import Derived.Test.YtinbjdkibmkgbaaGreatDoorCards
import Derived.Test.YtinbjdkibmkgbaaGreatDoorTie
import Derived.WalkKit
import Derived.ProofKit
import Derived.OpenShut
import Derived.JoinedCond
import Derived.ChangeSlices
import Derived.SevenTiedAt
namespace Go.Proofs.YtinbjdkibmkgbaaGreatDoor.p
open Go.Proofs Go Go.Cn code
set_option linter.unusedSimpArgs false
set_option linter.unusedVariables false
def TO (gl G:GV)(t:Tm)(ty:Ty):Prop:=∀(mv:AV)(l:List (Nm×Ty)),RepG mv G l->∀(be:Nat)(h:AH),EnC h be gl->∀K:Nat->Prop,ACall T K (.func 20) [.agg [.ptr be 0,mv],.agg (tmR t)] h fun v h'=>v=.tuple [.agg (tyR ty),.nili]/\h'=h
theorem fun_ok (a b:Ty):Pure T 49 [.lst 30 [tyR a,tyR b] .no] (.agg (tyR (fnT a b))):=by
 intro K h
 refine ACall.ret t49 fun hK=>?_
 have hr:tyR (fnT a b)=[.int .i64 3,.str [],.lst 30 [tyR a,tyR b] .no]:=by simp[fnT,tyR,tysR]
 have w0:IntKind.i64.wrap 0=0:=rfl
 have w1:IntKind.i64.wrap 1=1:=rfl
 simp only[u_C c49.eq_1,rn,pevA,seval]
 intro b2 hb2 hk2
 have p1:(0:Int)<=1:=by decide
 have n1:(1:Int).toNat=1:=rfl
 have p0:(0:Int)<=0:=by decide
 have n0:(0:Int).toNat=0:=rfl
 simp only[rn,pevA,seval,tyR_len,tyR_ne,tyR_one,tyR_take,tyR_drop,w1,p1,n1]
 intro b3 hb3 hk3
 obtain⟨n3,hb3⟩:=AH.set_none.1 hb3
 simp only[rn,pevA,seval,tyR_len,tyR_ne,tyR_one,tyR_take,tyR_drop,hk3,kN,kG,w0]
 refine aloop (α:=Bool) (fun x fr h1=>fr 0=.lst 30 [tyR a,tyR b] .no/\fr 2=.ptr b2 0/\fr 3=.ptr b3 0/\fr 4=.int .i64 (if x then -1 else 0)/\h1=(h.set b2 (.cells [.int .i64 0,.str [],.lst 0 [] .nil] 30)).set b3 (.cells (tyR (if x then fnT a b else b)) 30)) (fun x=>if x then 0 else 1) false ⟨rfl,rfl,rfl,rfl,rfl⟩ ?_
 rintro x fr h1 ⟨f0,f2,f3,f4,rfl⟩
 cases x with
 |false=>
  simp only[Bool.false_eq_true,if_false] at f4 ⊢
  have c1:decide ((0:Int)<=0)=true:=rfl
  have wm:IntKind.i64.wrap (0-1)= -1:=rfl
  have wm2:IntKind.i64.wrap (-1)= -1:=rfl
  simp only[u_C l49_1.eq_1,e_dregion d49_0,u_L s49_0.eq_1,u_T g49_0.eq_1,rn,pevA,seval,f0,f2,f3,f4,c1,p0,n0,tyR_len,tyR_ne,tyR_one,tyR_take,tyR_drop,tyR_ta,tyR_da,tyR_d6,List.length_append,kN,kG,hk3,n3,wm,wm2]
  exact⟨true,by decide,f0,f2,f3,rfl,by rw[if_pos rfl,hr]⟩
 |true=>
  simp only[if_true] at f4 ⊢
  have c1:decide ((0:Int)<= -1)=false:=rfl
  simp only[u_C l49_1.eq_1,rn,pevA,seval,f0,f2,f3,f4,c1,tyR_len,tyR_ne,tyR_one,tyR_take,tyR_drop,kN,kG,hk2,hk3,n3,n3.symm]
  exact⟨.refl _,le_del (le_set (le_set (AH.le_refl _) hb2) hb3) hb2⟩
theorem app_ok {gl G:GV}{nm:Nm}{n:Int}{ty:Ty}{f x:Tm}{tl:List Tm}{a:List Ta}{b:List Tb}{fn:Nm}{s t:Ty}(hf:TO gl G f (.mk 3 fn [s,t]))(hx:TO gl G x s)(hs:TyN s)
  {mv:AV}{l:List (Nm×Ty)}(hr:RepG mv G l){be:Nat}{h:AH}(he:EnC h be gl)(K:Nat->Prop) :
  ACall T K (.func 34) [.agg [.ptr be 0,mv],.agg (tmR (.mk 5 nm n ty (f::x::tl) a b))] h fun v h'=>v=.tuple [.agg (tyR t),.nili]/\h'=h:=by
 refine ACall.ret t34 fun hK=>?_
 have h1:=hr.one
 have h2:=hr.any
 have h3:=hr.cells
 have hs0:=sub_ok 5 nm n ty (f::x::tl) a b 0 f rfl
 have hs1:=sub_ok 5 nm n ty (f::x::tl) a b 1 x rfl
 have hl:=tmR_len (.mk 5 nm n ty (f::x::tl) a b)
 have hne:=tmR_ne (.mk 5 nm n ty (f::x::tl) a b)
 have hone:=tmR_one (.mk 5 nm n ty (f::x::tl) a b)
 have htk:=tmR_take (.mk 5 nm n ty (f::x::tl) a b)
 generalize tmR (.mk 5 nm n ty (f::x::tl) a b)=tm at hs0 hs1 hl hne hone htk
 simp only[u_C c34.eq_1,rn,pevA,seval,h1,h2,h3,hl,hne,hone,htk]
 intro b4 hb4 hk4
 simp only[e_dregion d34_0,u_L s34_0.eq_1,u_T g34_0.eq_1,rn,pevA,seval,h1,h2,h3,hl,hne,hone,htk]
 intro b6 hb6 hk6
 obtain⟨n6,hb6⟩:=AH.set_none.1 hb6
 simp only[e_dregion d34_0,u_L s34_0.eq_1,u_T g34_0.eq_1,rn,pevA,seval,h1,h2,h3,hl,hne,hone,htk]
 refine hs0.use ?_
 simp only[e_dregion d34_0,u_L s34_0.eq_1,u_T g34_0.eq_1,rn,pevA,seval,h1,h2,h3,hl,hne,hone,htk]
 refine (hf mv l hr be _ ((he.set hb4).set (AH.set_none.2 ⟨n6,hb6⟩)) K).mono ?_
 rintro _ _ ⟨rfl,rfl⟩
 have hb6':(h.set b4 (.cells [.int .i64 0,.str [],.lst 0 [] .nil] 30)).objs b6=none:=AH.set_none.2 ⟨n6,hb6⟩
 have he4:=he.set (o:=.cells [.int .i64 0,.str [],.lst 0 [] .nil] 30) hb4
 simp only[e_dregion d34_0,u_L s34_0.eq_1,u_T g34_0.eq_1,rn,pevA,seval,kN,kG,n6,n6.symm,hk6,tyR,tysR,List.length_cons,s_del hb6']
 simp only[e_dregion d34_1,u_L s34_1.eq_1,u_T g34_1.eq_1,rn,pevA,seval,h1,h2,h3,hl,hne,hone,htk]
 intro b8 hb8 hk8
 simp only[e_dregion d34_1,u_L s34_1.eq_1,u_T g34_1.eq_1,rn,pevA,seval,h1,h2,h3,hl,hne,hone,htk]
 refine hs1.use ?_
 simp only[e_dregion d34_1,u_L s34_1.eq_1,u_T g34_1.eq_1,rn,pevA,seval,h1,h2,h3,hl,hne,hone,htk]
 refine (hx mv l hr be _ (he4.set hb8) K).mono ?_
 rintro _ _ ⟨rfl,rfl⟩
 obtain⟨n8,hb8⟩:=AH.set_none.1 hb8
 have hb8':(h.set b4 (.cells [.int .i64 0,.str [],.lst 0 [] .nil] 30)).objs b8=none:=AH.set_none.2 ⟨n8,hb8⟩
 have hsl:=tyR_len s
 have hsn:=tyR_ne s
 have hso:=tyR_one s
 have hst:=tyR_take s
 have hsd:=tyR_drop s
 have htl:=tyR_len t
 have htn:=tyR_ne t
 have hto:=tyR_one t
 have htt:=tyR_take t
 have htd:=tyR_drop t
 have hsame:=tSame_ok s hs
 have d3:decide ((3:Int)=3)=true:=rfl
 have d2:decide ((2:Int)=2)=true:=rfl
 have p0:(0:Int)<=0:=by decide
 have p1:(0:Int)<=1:=by decide
 have n0:(0:Int).toNat=0:=rfl
 have n1:(1:Int).toNat=1:=rfl
 simp only[e_dregion d34_1,u_L s34_1.eq_1,u_T g34_1.eq_1,rn,pevA,seval,kN,kG,n8,n8.symm,hk8,hsl,hsn,hso,hst,hsd,s_del hb8']
 simp only[e_dregion d34_2,u_L s34_2.eq_1,u_T g34_2.eq_1,rn,pevA,seval,hsl,hsn,hso,hst,hsd,htl,htn,hto,htt,htd,d3,d2,p0,n0]
 refine hsame.use ?_
 simp only[e_dregion d34_2,u_L s34_2.eq_1,u_T g34_2.eq_1,rn,pevA,seval,hsl,hsn,hso,hst,hsd,htl,htn,hto,htt,htd,d3,d2,p1,n1,hk4,kN,kG]
 exact⟨.refl _,le_del (AH.le_refl _) hb4⟩
theorem lam_ok {gl G:GV}{nm:Nm}{n:Int}{ty:Ty}{x:Tm}{tl:List Tm}{a:List Ta}{b:List Tb}{t:Ty}(hx:TO gl (extG G [(nm,ty)]) x t)
  {mv:AV}{l:List (Nm×Ty)}(hr:RepG mv G l){be:Nat}{h:AH}(he:EnC h be gl)(K:Nat->Prop) :
  ACall T K (.func 35) [.agg [.ptr be 0,mv],.agg (tmR (.mk 6 nm n ty (x::tl) a b))] h fun v h'=>v=.tuple [.agg (tyR (fnT ty t)),.nili]/\h'=h:=by
 refine ACall.ret t35 fun hK=>?_
 have h1:=hr.one
 have h2:=hr.any
 have h3:=hr.cells
 have hs0:=sub_ok 6 nm n ty (x::tl) a b 0 x rfl
 have hl:=tmR_len (.mk 6 nm n ty (x::tl) a b)
 have hne:=tmR_ne (.mk 6 nm n ty (x::tl) a b)
 have hone:=tmR_one (.mk 6 nm n ty (x::tl) a b)
 have htk:=tmR_take (.mk 6 nm n ty (x::tl) a b)
 have hw:=fun K h=>with_ok mv G l hr be [(nm,ty)] (by simp) 9 30 .no .no K h
 have hf:=fun_ok ty t
 obtain⟨tk,tn,tys⟩:=ty
 simp only[tmR,tyR,List.cons_append,List.nil_append,List.map_cons,List.map_nil,strC,tysR] at hs0 hl hne hone htk hw hf ⊢
 simp only[u_C c35.eq_1,rn,pevA,seval,h1,h2,h3]
 intro b4 hb4 hk4
 simp only[e_dregion d35_0,u_L s35_0.eq_1,u_T g35_0.eq_1,rn,pevA,seval,h1,h2,h3]
 intro b6 hb6 hk6
 obtain⟨n6,hb6⟩:=AH.set_none.1 hb6
 simp only[e_dregion d35_0,u_L s35_0.eq_1,u_T g35_0.eq_1,rn,pevA,seval,h1,h2,h3]
 refine (hw K _).mono ?_
 rintro _ _ ⟨l',rfl,hr',rfl⟩
 simp only[e_dregion d35_0,u_L s35_0.eq_1,u_T g35_0.eq_1,rn,pevA,seval,h1,h2,h3]
 refine hs0.use ?_
 simp only[e_dregion d35_0,u_L s35_0.eq_1,u_T g35_0.eq_1,rn,pevA,seval,h1,h2,h3]
 refine (hx _ l' hr' be _ ((he.set hb4).set (AH.set_none.2 ⟨n6,hb6⟩)) K).mono ?_
 rintro _ _ ⟨rfl,rfl⟩
 have htl:=tyR_len t
 have htn:=tyR_ne t
 have hto:=tyR_one t
 have htt:=tyR_take t
 have htd:=tyR_drop t
 simp only[e_dregion d35_0,u_L s35_0.eq_1,u_T g35_0.eq_1,rn,pevA,seval,kN,kG,n6,n6.symm,hk6,htl,htn,hto,htt,htd]
 refine hf.use ?_
 have hql:=tyR_len (fnT (.mk tk tn tys) t)
 have hqn:=tyR_ne (fnT (.mk tk tn tys) t)
 have hqo:=tyR_one (fnT (.mk tk tn tys) t)
 have hqt:=tyR_take (fnT (.mk tk tn tys) t)
 have hqd:=tyR_drop (fnT (.mk tk tn tys) t)
 have o4:∀X:AO,((h.set b4 X).del b6).objs b4=some X:=fun X=>by rw[AH.del_objs,if_neg n6.symm,AH.set_same]
 simp only[rn,pevA,seval,kN,kG,hk4,o4,hql,hqn,hqo,hqt,hqd]
 exact⟨.refl _,le_del (le_del (le_set (AH.le_refl _) hb4) hb6) hb4⟩
theorem index2_nd {l:List Nm}{i:Nat}{a:Nm}(hn:l.Nodup)(ha:l[i]?=some a):a∉l.take i:=fun hm=>nd_not ha hm hn
def snm (bs:List Tb):List Nm:=bs.map (·.1)
def sty (bs:List Tb):List Ty:=bs.map (·.2.1)
theorem sigs_nm (bs:List Tb):(sigs bs).map (·.1)=snm bs:=by rw[sigs,List.map_map];rfl
theorem sigs_ty (bs:List Tb):(sigs bs).map (·.2)=sty bs:=by rw[sigs,List.map_map];rfl
theorem binds_one (bs:List Tb)(hl:bs.length<=1000)(hn:(snm bs).Nodup)(M:AH)(K:Nat->Prop)(R:CExit->AQ)(v2 v4:AV)
  (hR:∀(fr:AFr)(E6 E7:TypeId)(tag6 tag7:Tag)(t:Nat->Option Cn.Tok),fr 1=.lst 43 (tbsR bs) .no->fr 2=v2->fr 4=v4->fr 6=.lst E6 (strC (snm bs)) tag6->fr 7=.lst E7 (tysR (sty bs)) tag7->(∀c k,M.toks c=some k->t c=some k)->R (.exit 0) fr (M.tk t))
  (fr:AFr)(f1:fr 1=.lst 43 (tbsR bs) .no)(f2:fr 2=v2)(f4:fr 4=v4)(f6:fr 6=.lst 0 [] .nil)(f7:fr 7=.lst 0 [] .nil)(f15:fr 15=.lst 43 (tbsR bs) .no)(f16:fr 16=.int .i64 (bs.length:Nat))(f17:fr 17=.int .i64 0) :
  W T K (.loop l22_2.toC) fr M R:=by
 refine aloop (α:=Nat) (fun i fr h1=>fr 1=.lst 43 (tbsR bs) .no/\fr 2=v2/\fr 4=v4/\fr 15=.lst 43 (tbsR bs) .no/\fr 16=.int .i64 (bs.length:Nat)/\fr 17=.int .i64 i/\i<=bs.length/\
  ∃E6 E7 tag6 tag7 t,fr 6=.lst E6 (strC (snm (bs.take i))) tag6/\fr 7=.lst E7 (tysR (sty (bs.take i))) tag7/\Toks M.toks t [(tag6,9,1,0),(tag7,30,3,0)]/\h1=M.tk t) (fun i=>bs.length-i) 0 ⟨f1,f2,f4,f15,f16,f17,Nat.zero_le _,0,0,.nil,.nil,M.toks,f6,by rw[f7];simp[sty,tysR],(Toks.one _ _ _).cons _ _,rfl⟩ ?_
 clear f1 f2 f4 f6 f7 f15 f16 f17
 rintro i fr h1 ⟨f1,f2,f4,f15,f16,f17,hi,E6,E7,tag6,tag7,t,f6,f7,hT,rfl⟩
 by_cases hlt:i<bs.length
 ·have c1:decide ((i:Int)<(bs.length:Int))=true:=decide_eq_true (by omega)
  have hw:IntKind.i64.wrap ((i:Int)+1)=((i+1:Nat):Int):=by rw[wrap64 ⟨by omega,by omega⟩];rfl
  obtain⟨x,hx⟩ : ∃x,bs[i]?=some x:=⟨bs[i],by simp[hlt]⟩
  have hget:(tbsR bs)[i]?=some (tbR x):=by rw[tbsR_get,hx];rfl
  have hni:x.1∉snm (bs.take i):=by
   have:=index2_nd hn (i:=i) (a:=x.1) (by rw[snm,List.getElem?_map,hx];rfl)
   rwa [snm, <-List.map_take] at this
  have hs6:strC (snm (bs.take i))++[[.str x.1]]=strC (snm (bs.take (i+1))):=by rw[List.take_add_one,hx,strC_app];simp[snm]
  have hs7:tysR (sty (bs.take i))++[tyR x.2.1]=tysR (sty (bs.take (i+1))):=by rw[List.take_add_one,hx,tysR_app];simp[sty]
  have l6:(snm (bs.take i)).length=i:=by rw[snm,List.length_map,List.length_take];omega
  have l7:(sty (bs.take i)).length=i:=by rw[sty,List.length_map,List.length_take];omega
  obtain⟨xn,⟨tk,tn,tys⟩,⟨k,nm,n,⟨tk2,tn2,tys2⟩,tl,a,b⟩⟩:=x
  simp only[tbR,tmR,tyR,List.cons_append,List.nil_append] at hget hni hs6 hs7
  simp only[u_C l22_2.eq_1,rn,pevA,seval,f1,f2,f4,f6,f7,f15,f16,f17,c1,hget]
  refine (contains_ok _ _ _ _).use ?_
  simp only[e_dregion d22_1,u_L s22_1.eq_1,u_T g22_1.eq_1,rn,pevA,seval,f1,f2,f4,f6,f7,f15,f16,f17,hni]
  refine WO.append (i:=0) hT rfl rfl rfl trivial (by decide) (by simp) rfl (.inr rfl) (fun _=>?_) ?_ fun tag8 t8 hT8=>?_
  ·simp[capOk,strC_len];omega
  ·simp[big_eq,strC_len];omega
  rw[hs6]
  simp only[e_dregion d22_1,u_L s22_1.eq_1,u_T g22_1.eq_1,rn,pevA,seval,f1,f2,f4,f6,f7,f15,f16,f17,hni]
  refine WO.append (i:=1) hT8 rfl rfl rfl trivial (by decide) (by simp) rfl (.inr rfl) (fun _=>?_) ?_ fun tag9 t9 hT9=>?_
  ·simp[capOk,tysR_len];omega
  ·simp[big_eq,tysR_len];omega
  rw[hs7]
  simp only[e_dregion d22_1,u_L s22_1.eq_1,u_T g22_1.eq_1,rn,pevA,seval,f1,f2,f4,f6,f7,f15,f16,f17,hw]
  exact⟨i+1,by show bs.length-(i+1)<bs.length-i;omega,f1,f2,f4,f15,f16,rfl,hlt,9,30,tag8,tag9,t9,rfl,rfl,hT9,rfl⟩
 ·obtain rfl:i=bs.length:=by omega
  have c1:decide ((bs.length:Int)<(bs.length:Int))=false:=by simp
  rw[List.take_length] at f6 f7
  simp only[u_C l22_2.eq_1,rn,pevA,seval,f15,f16,f17,c1]
  exact hR _ E6 E7 tag6 tag7 t f1 f2 f4 f6 f7 hT.le
theorem binds_two {gl G:GV}{bs:List Tb}(hl:bs.length<=1000)(ht:∀p∈bs,TyN p.2.1)(ih:∀p∈bs,TO gl G p.2.2 p.2.1){mv:AV}{l:List (Nm×Ty)}(hr:RepG mv G l){be:Nat}{h:AH}(he:EnC h be gl)(K:Nat->Prop)(R:CExit->AQ)(v4:AV)
  (hR:∀fr:AFr,fr 4=v4->fr 10=.rptr [.ptr be 0,mv]->R (.exit 2) fr h)
  (fr:AFr)(f4:fr 4=v4)(f10:fr 10=.rptr [.ptr be 0,mv])(f42:fr 42=.lst 43 (tbsR bs) .no)(f43:fr 43=.int .i64 (bs.length:Nat))(f44:fr 44=.int .i64 0) :
  W T K (.loop l22_4.toC) fr h R:=by
 refine aloop (α:=Nat) (fun i fr h1=>fr 4=v4/\fr 10=.rptr [.ptr be 0,mv]/\fr 42=.lst 43 (tbsR bs) .no/\fr 43=.int .i64 (bs.length:Nat)/\fr 44=.int .i64 i/\i<=bs.length/\h1=h) (fun i=>bs.length-i) 0 ⟨f4,f10,f42,f43,f44,Nat.zero_le _,rfl⟩ ?_
 clear f4 f10 f42 f43 f44
 rintro i fr h1 ⟨f4,f10,f42,f43,f44,hi,rfl⟩
 have h1':=hr.one
 have h2:=hr.any
 have h3:=hr.cells
 by_cases hlt:i<bs.length
 ·have c1:decide ((i:Int)<(bs.length:Int))=true:=decide_eq_true (by omega)
  have hw:IntKind.i64.wrap ((i:Int)+1)=((i+1:Nat):Int):=by rw[wrap64 ⟨by omega,by omega⟩];rfl
  obtain⟨x,hx⟩ : ∃x,bs[i]?=some x:=⟨bs[i],by simp[hlt]⟩
  have hxm:=List.mem_of_getElem? hx
  have hget:(tbsR bs)[i]?=some (tbR x):=by rw[tbsR_get,hx];rfl
  have hto:=ih x hxm mv l hr be h1 he K
  have hsame:=tSame_ok x.2.1 (ht x hxm)
  have htl:=tyR_len x.2.1
  have htn:=tyR_ne x.2.1
  have hto1:=tyR_one x.2.1
  have htt:=tyR_take x.2.1
  have htd:=tyR_drop x.2.1
  obtain⟨xn,⟨tk,tn,tys⟩,⟨k,nm,n,⟨tk2,tn2,tys2⟩,tl,a,b⟩⟩:=x
  simp only[tbR,tmR,tyR,List.cons_append,List.nil_append] at hget hto hsame
  simp only[u_C l22_4.eq_1,rn,pevA,seval,f4,f10,f42,f43,f44,c1,hget,h1',h2,h3]
  refine hto.mono ?_
  rintro _ _ ⟨rfl,rfl⟩
  simp only[rn,pevA,seval,f4,f10,f42,f43,f44]
  refine hsame.use ?_
  simp only[rn,pevA,seval,f4,f10,f42,f43,f44,hw]
  exact⟨i+1,by show bs.length-(i+1)<bs.length-i;omega,f4,f10,f42,f43,rfl,hlt,rfl⟩
 ·obtain rfl:i=bs.length:=by omega
  have c1:decide ((bs.length:Int)<(bs.length:Int))=false:=by simp
  simp only[u_C l22_4.eq_1,rn,pevA,seval,f42,f43,f44,c1]
  exact hR _ f4 f10
theorem binds_ok {gl G:GV}{bs:List Tb}(hl:bs.length<=1000)(hn:(bs.map (·.1)).Nodup)(ht:∀p∈bs,TyN p.2.1)(ih:∀p∈bs,TO gl (extG G (sigs bs)) p.2.2 p.2.1){mv:AV}{l:List (Nm×Ty)}(hr:RepG mv G l){be:Nat}{h:AH}(he:EnC h be gl)(K:Nat->Prop) :
  ACall T K (.func 22) [.agg [.ptr be 0,mv],.lst 43 (tbsR bs) .no] h fun v h'=>∃l',v=.tuple [.agg [.ptr be 0,.fmap (kvC (gvL l'))],.nili]/\RepG (.fmap (kvC (gvL l'))) (extG G (sigs bs)) l'/\h'=h:=by
 refine ACall.retQ t22 fun hK=>?_
 have h1:=hr.one
 have h2:=hr.any
 have h3:=hr.cells
 simp only[u_C c22.eq_1,rn,pevA,seval,h1,h2,h3]
 intro b4 hb4 hk4
 simp only[rn,pevA,seval,h1,h2,h3,tbsR_len]
 refine binds_one bs hl hn _ K _ (.rptr [.ptr be 0,mv]) (.ptr b4 0) (fun fr E6 E7 tag6 tag7 t g1 g2 g4 g6 g7 ht'=>?_) _ rfl rfl rfl rfl rfl rfl rfl rfl
 simp only[rn,pevA,seval,g1,g2,g4,g6,g7,h1,h2,h3]
 have hw:=with_ok mv G l hr be (sigs bs) (by rw[sigs,List.length_map];omega) E6 E7 tag6 tag7 K ((h.set b4 (.cells [.nilp,.nilm] 71)).tk t)
 rw[sigs_nm,sigs_ty] at hw
 refine hw.mono ?_
 rintro _ _ ⟨l',rfl,hr',rfl⟩
 simp only[rn,pevA,seval,g1,g2,g4,tbsR_len]
 have he4:EnC ((h.set b4 (.cells [.nilp,.nilm] 71)).tk t) be gl:=(he.set hb4).keep fun _ _ h=>h
 refine binds_two hl ht ih hr' he4 K _ (.ptr b4 0) (fun fr2 k4 k10=>?_) _ ?_ ?_ ?_ ?_ ?_
 ·simp only[rn,pevA,seval,k4,k10,kN,kG,hk4]
  exact⟨_,h,.drop (tk_le (le_del (AH.le_refl _) hb4) ht') (.refl _ _),hK,l',rfl,hr',rfl⟩
 ·exact g4
 ·rfl
 ·rfl
 ·rfl
 ·rfl
theorem tcon0_ok (n:Nm):Pure T 28 [.str n,.lst 0 [] .nil] (.agg (tyR (.mk 2 n []))):=by
 intro K h
 refine ACall.ret t28 fun hK=>?_
 have hc:Pure T 47 [.lst 0 [] .nil] (.lst 0 [] .nil):=by
  intro K h
  refine ACall.ret t47 fun hK=>?_
  simp only[u_C c47.eq_1,rn,pevA,seval]
  exact⟨.refl _,AH.le_refl _⟩
 simp only[u_C c28.eq_1,rn,pevA,seval]
 intro b4 hb4 hk4
 simp only[rn,pevA,seval]
 refine hc.use ?_
 simp only[rn,pevA,seval,kN,kG,hk4,tyR,tysR]
 exact⟨.aggL ⟨.refl _,.refl _,.nil _ _ _,trivial⟩,by rw[s_del hb4];exact AH.le_refl _⟩
theorem typeOf_ok (gl:GV):∀{G:GV}{t:Tm}{ty:Ty},HasT gl G t ty->TO gl G t ty:=by
 intro G t ty ht
 induction ht with
 |@var G nm n ty l a b t h=>
  intro mv L hr be h0 he K
  refine ACall.ret t20 fun hK=>?_
  have h1:=hr.one
  have h2:=hr.any
  have h3:=hr.cells
  obtain⟨tk,tn,tys⟩:=ty
  have htl:=tyR_len t
  have htn:=tyR_ne t
  have hto:=tyR_one t
  have htt:=tyR_take t
  have htd:=tyR_drop t
  simp only[u_C c20.eq_1,tmR,tyR,List.cons_append,List.nil_append,rn,pevA,seval,h1,h2,h3]
  intro b4 hb4 hk4
  have e1:decide ((1:Int)=1)=true:=rfl
  simp only[rn,pevA,seval,h1,h2,h3,e1]
  refine (variable_ok hr (he.set hb4) h K).mono ?_
  rintro _ _ ⟨rfl,rfl⟩
  simp only[rn,pevA,seval,kN,kG,hk4,htl,htn,hto,htt,htd]
  exact⟨.refl _,le_del (AH.le_refl _) hb4⟩
 |@int G nm n ty l a b=>
  intro mv L hr be h0 he K
  refine ACall.ret t20 fun hK=>?_
  have h1:=hr.one
  have h2:=hr.any
  have h3:=hr.cells
  have e1:decide ((3:Int)=1)=false:=rfl
  have e2:decide ((3:Int)=2)=false:=rfl
  have e3:decide ((3:Int)=3)=true:=rfl
  obtain⟨tk,tn,tys⟩:=ty
  simp only[u_C c20.eq_1,tmR,tyR,List.cons_append,List.nil_append,rn,pevA,seval,h1,h2,h3]
  intro b4 hb4 hk4
  simp only[rn,pevA,seval,h1,h2,h3,e1,e2,e3]
  have hc:=tcon0_ok [73,110,116]
  simp only[tyR,tysR] at hc
  refine hc.use ?_
  simp only[rn,pevA,seval,kN,kG,hk4,tyR,tysR]
  exact⟨.refl _,by rw[s_del hb4];exact AH.le_refl _⟩
 |@app G nm n ty f x l a b fn s t hf hx hs ihf ihx=>
  intro mv L hr be h0 he K
  refine ACall.ret t20 fun hK=>?_
  have h1:=hr.one
  have h2:=hr.any
  have h3:=hr.cells
  have e1:decide ((5:Int)=1)=false:=rfl
  have e2:decide ((5:Int)=2)=false:=rfl
  have e3:decide ((5:Int)=3)=false:=rfl
  have e4:decide ((5:Int)=4)=false:=rfl
  have e11:decide ((5:Int)=11)=false:=rfl
  have e5:decide ((5:Int)=5)=true:=rfl
  have ha:=fun (h:AH)(he:EnC h be gl)=>app_ok (nm:=nm) (n:=n) (ty:=ty) (tl:=l) (a:=a) (b:=b) ihf ihx hs hr he K
  have htl:=tyR_len t
  have htn:=tyR_ne t
  have hto:=tyR_one t
  have htt:=tyR_take t
  have htd:=tyR_drop t
  obtain⟨tk,tn,tys⟩:=ty
  simp only[tmR,tyR,List.cons_append,List.nil_append] at ha ⊢
  simp only[u_C c20.eq_1,rn,pevA,seval,h1,h2,h3]
  intro b4 hb4 hk4
  simp only[rn,pevA,seval,h1,h2,h3,e1,e2,e3,e4,e11,e5]
  refine (ha _ (he.set hb4)).mono ?_
  rintro _ _ ⟨rfl,rfl⟩
  simp only[rn,pevA,seval,kN,kG,hk4,htl,htn,hto,htt,htd]
  exact⟨.refl _,le_del (AH.le_refl _) hb4⟩
 |@lam G nm n ty x l a b t hx ih=>
  intro mv L hr be h0 he K
  refine ACall.ret t20 fun hK=>?_
  have h1:=hr.one
  have h2:=hr.any
  have h3:=hr.cells
  have e1:decide ((6:Int)=1)=false:=rfl
  have e2:decide ((6:Int)=2)=false:=rfl
  have e3:decide ((6:Int)=3)=false:=rfl
  have e4:decide ((6:Int)=4)=false:=rfl
  have e11:decide ((6:Int)=11)=false:=rfl
  have e5:decide ((6:Int)=5)=false:=rfl
  have e6:decide ((6:Int)=6)=true:=rfl
  have ha:=fun (h:AH)(he:EnC h be gl)=>lam_ok (nm:=nm) (n:=n) (tl:=l) (a:=a) (b:=b) ih hr he K
  have htl:=tyR_len (fnT ty t)
  have htn:=tyR_ne (fnT ty t)
  have hto:=tyR_one (fnT ty t)
  have htt:=tyR_take (fnT ty t)
  have htd:=tyR_drop (fnT ty t)
  obtain⟨tk,tn,tys⟩:=ty
  simp only[tmR,tyR,List.cons_append,List.nil_append] at ha ⊢
  simp only[u_C c20.eq_1,rn,pevA,seval,h1,h2,h3]
  intro b4 hb4 hk4
  simp only[rn,pevA,seval,h1,h2,h3,e1,e2,e3,e4,e11,e5,e6]
  refine (ha _ (he.set hb4)).mono ?_
  rintro _ _ ⟨rfl,rfl⟩
  simp only[rn,pevA,seval,kN,kG,hk4,htl,htn,hto,htt,htd]
  exact⟨.refl _,le_del (AH.le_refl _) hb4⟩
 |@lets G nm n ty x l a b t hl hn ht hb hx ihb ihx=>
  intro mv L hr be h0 he K
  refine ACall.ret t20 fun hK=>?_
  have h1:=hr.one
  have h2:=hr.any
  have h3:=hr.cells
  have e1:decide ((9:Int)=1)=false:=rfl
  have e2:decide ((9:Int)=2)=false:=rfl
  have e3:decide ((9:Int)=3)=false:=rfl
  have e4:decide ((9:Int)=4)=false:=rfl
  have e11:decide ((9:Int)=11)=false:=rfl
  have e5:decide ((9:Int)=5)=false:=rfl
  have e6:decide ((9:Int)=6)=false:=rfl
  have e7:decide ((9:Int)=7)=false:=rfl
  have e8:decide ((9:Int)=8)=false:=rfl
  have e9:decide ((9:Int)=9)=true:=rfl
  have ha:=fun (h:AH)(he:EnC h be gl)=>binds_ok hl hn ht ihb hr he K
  have hs0:=sub_ok 9 nm n ty (x::l) a b 0 x rfl
  have htl:=tyR_len t
  have htn:=tyR_ne t
  have hto:=tyR_one t
  have htt:=tyR_take t
  have htd:=tyR_drop t
  obtain⟨tk,tn,tys⟩:=ty
  simp only[tmR,tyR,List.cons_append,List.nil_append] at hs0 ⊢
  simp only[u_C c20.eq_1,rn,pevA,seval,h1,h2,h3]
  intro b4 hb4 hk4
  simp only[rn,pevA,seval,h1,h2,h3,e1,e2,e3,e4,e11,e5,e6,e7,e8,e9]
  refine (ha _ (he.set hb4)).mono ?_
  rintro _ _ ⟨l',rfl,hr',rfl⟩
  simp only[e_dregion d20_1,u_L s20_1.eq_1,u_T g20_1.eq_1,rn,pevA,seval]
  refine hs0.use ?_
  simp only[e_dregion d20_1,u_L s20_1.eq_1,u_T g20_1.eq_1,rn,pevA,seval]
  refine (ihx _ l' hr' be _ (he.set hb4) K).mono ?_
  rintro _ _ ⟨rfl,rfl⟩
  simp only[e_dregion d20_1,u_L s20_1.eq_1,u_T g20_1.eq_1,rn,pevA,seval,kN,kG,hk4,htl,htn,hto,htt,htd]
  exact⟨.refl _,le_del (AH.le_refl _) hb4⟩
theorem rvar_ok (n:List UInt8):Pure T 16 [.str n] (.agg (tyR (.mk 1 n []))):=by
 intro K h
 refine ACall.ret t16 fun hK=>?_
 simp only[u_C c16.eq_1,tyR,rn,pevA,seval]
 intro b hb hk
 simp only[rn,pevA,seval,hb,hk]
 exact⟨.aggL ⟨.refl _,.refl _,.lstE (by simp),trivial⟩,le_del (AH.le_refl _) hb⟩
theorem tvar_ok (n:List UInt8):Pure T 26 [.str n] (.agg (tyR (.mk 1 n []))):=by
 intro K h
 refine ACall.ret t26 fun hK=>?_
 simp only[u_C c26.eq_1,tyR,rn,pevA,seval]
 intro b hb hk
 simp only[rn,pevA,seval,hb,hk]
 exact⟨.aggL ⟨.refl _,.refl _,.lstE (by simp),trivial⟩,le_del (AH.le_refl _) hb⟩
theorem rcon_ok (n:List UInt8)(E:TypeId)(l:List Ty)(t:Tag)(hE:tysR l≠[]->E=30):Pure T 7 [.str n,.lst E (tysR l) t] (.agg (tyR (.mk 2 n l))):=by
 intro K h
 refine ACall.ret t7 fun hK=>?_
 simp only[u_C c7.eq_1,tyR,rn,pevA,seval]
 intro b hb hk
 simp only[rn,pevA,seval,hb,hk]
 exact⟨.aggL ⟨.refl _,.refl _,.lstE hE,trivial⟩,le_del (AH.le_refl _) hb⟩
theorem fun2_ok (a c:Ty):Pure T 8 [.agg (tyR a),.agg (tyR c)] (.agg (tyR (.mk 3 [] [a,c]))):=by
 intro K h
 refine ACall.ret t8 fun hK=>?_
 obtain⟨ka,na,la⟩:=a
 obtain⟨kc,nc,lc⟩:=c
 simp only[u_C c8.eq_1,tyR,tysR,rn,pevA,seval]
 intro b hb hk
 simp only[rn,pevA,seval,hb,hk]
 exact⟨.refl _,le_del (AH.le_refl _) hb⟩
theorem number_ok (n m:Int)(h0:0<m)(h1:m<=1000000)(K:Nat->Prop)(h:AH):ACall T K (.func 30) [.int .i64 n,.int .i64 m] h fun v h'=>(∃r,v=.int .i64 r/\0<=r/\r<m)/\h'=h:=by
 have h2 : - m<Int.tmod n m:=Int.lt_tmod_of_pos n h0
 have h3:Int.tmod n m<m:=Int.tmod_lt_of_pos n h0
 have hm:¬m=0:=by omega
 refine ACall.retQ t30 fun hK=>?_
 simp only[u_C c30.eq_1,rn,pevA,seval,hm]
 by_cases hr:Int.tmod n m<0
 ·simp only[hr,rn,pevA,seval]
  rw[wrap64 ⟨by omega,by omega⟩]
  exact⟨_,_,.refl _ _,hK,⟨_,rfl,by omega,by omega⟩,rfl⟩
 ·simp only[hr,rn,pevA,seval]
  exact⟨_,_,.refl _ _,hK,⟨_,rfl,by omega,by omega⟩,rfl⟩
def seqO (E:TypeId)(l:List Int)(p:Int):AO:=.cells [.lst E (l.map fun n=>[.int .i64 n]) .no,.int .i64 p] 34
theorem next_ok (E:TypeId)(l:List Int)(p m:Int)(hp:0<=p)(hp2:p<=1000000000)(h0:0<m)(h1:m<=1000000)(K:Nat->Prop)(h:AH)(b:Nat)(hb:h.objs b=some (seqO E l p))(hk:¬K b) :
  ACall T K (.func 19) [.ptr b 0,.int .i64 m] h fun v h'=>(∃r,v=.int .i64 r/\0<=r/\r<m)/\h'=h.set b (seqO E l (p+1)):=by
 refine ACall.retQ t19 fun hK=>?_
 unfold seqO at *
 simp only[u_C c19.eq_1,e_dregion d19_0,u_L s19_0.eq_1,u_T g19_0.eq_1,rn,pevA,seval,hb,List.length_map]
 have hw:IntKind.i64.wrap (p+1)=p+1:=wrap64 ⟨by omega,by omega⟩
 by_cases hlt:p<(l.length:Int)
 ·have hi:(l.map fun n=>[AV.int .i64 n])[p.toNat]?=some [.int .i64 (l[p.toNat]'(by omega))]:=by simp
  simp only[hlt,e_dregion d19_1,u_L s19_1.eq_1,u_T g19_1.eq_1,rn,pevA,seval,hb,hp,hi,hw,hk]
  refine (number_ok _ m h0 h1 K _).mono ?_
  rintro _ _ ⟨⟨r,rfl,hr⟩,rfl⟩
  simp only[rn,pevA,seval]
  exact⟨_,_,.refl _ _,hK.set _ _,⟨r,rfl,hr⟩,rfl⟩
 ·simp only[hlt,e_dregion d19_1,u_L s19_1.eq_1,u_T g19_1.eq_1,rn,pevA,seval,hb,hp,hw,hk]
  refine (number_ok _ m h0 h1 K _).mono ?_
  rintro _ _ ⟨⟨r,rfl,hr⟩,rfl⟩
  simp only[rn,pevA,seval]
  exact⟨_,_,.refl _ _,hK.set _ _,⟨r,rfl,hr⟩,rfl⟩
inductive GT:Ty->Prop where
 |v {n:List UInt8}(h:n=[97]\/n=[98]\/n=[99]):GT (.mk 1 n [])
 |c {k:Int}{n:List UInt8}{args:List Ty}(hk:k≠1/\k≠4)(hl:args.length<=2)(h:∀a∈args,GT a):GT (.mk k n args)
theorem GT.ok:∀t,GT t->TyN t:=by
 refine Ty.ind fun k n args ih h=>?_
 cases h with
 |v _=>exact⟨by decide,by simp,by simp⟩
 |c hk hl ha=>exact⟨hk.2,by omega,fun a h=>ih a h (ha a h)⟩
theorem g0 {k:Int}(hk:k≠1/\k≠4)(n:List UInt8):GT (.mk k n []):=.c hk (by simp) (by simp)
theorem g1 {k:Int}(hk:k≠1/\k≠4){n:List UInt8}{a:Ty}(h:GT a):GT (.mk k n [a]):=.c hk (by simp) (by simpa using h)
theorem g2 {k:Int}(hk:k≠1/\k≠4){n:List UInt8}{a b:Ty}(h:GT a)(g:GT b):GT (.mk k n [a,b]):=.c hk (by simp) (by simp[h,g])
def TypeQ (E:TypeId)(l:List Int)(b:Nat)(h:AH)(p q:Int)(v:AV)(h':AH):Prop:=∃t p',v=.agg (tyR t)/\GT t/\p<=p'/\p'<=q/\h'=h.set b (seqO E l p')
theorem type_ok (E:TypeId)(l:List Int)(b:Nat):∀(d:Nat),d<=20->∀(p:Int),0<=p->p+2 ^ (d+1)<=100000000->∀(K:Nat->Prop)(h:AH),h.objs b=some (seqO E l p)->¬K b->
  ACall T K (.func 6) [.ptr b 0,.int .i64 d] h (TypeQ E l b h p (p+(2 ^ (d+1)-1))):=by
 intro d
 induction d with
 |zero=>
  intro hd p hp hp2 K h hb hk
  refine ACall.retQ t6 fun hK=>?_
  simp only[u_C c6.eq_1,rn,pevA,seval]
  intro b4 hb4 hk4
  have hne:b≠b4:=by rintro rfl;rw[hb] at hb4;cases hb4
  have hbn:∀q,(h.set b (seqO E l q)).objs b4=none:=fun q=>by rw[s_objs hne.symm];exact hb4
  simp only[rn,pevA,seval]
  refine (next_ok E l p 9 hp (by omega) (by omega) (by omega) K _ b (by rw[s_objs hne];exact hb) hk).mono ?_
  rintro _ _ ⟨⟨r,rfl,hr0,hr1⟩,rfl⟩
  rw[set_comm hne.symm]
  have e0:(decide (((0:Nat):Int)<1))=true:=rfl
  simp only[rn,pevA,seval,e0]
  have hm:Int.tmod r 5=0\/Int.tmod r 5=1\/Int.tmod r 5=2\/Int.tmod r 5=3\/Int.tmod r 5=4:=by
   have h1:Int.tmod r 5<5:=Int.tmod_lt_of_pos r (by omega)
   have h2:0<=Int.tmod r 5:=Int.tmod_nonneg 5 hr0
   omega
  have fin:∀t,GT t->KOk K (h.set b (seqO E l (p+1)))/\TypeQ E l b h p (p+(2 ^ (0+1)-1)) (.agg (tyR t)) (h.set b (seqO E l (p+1))):=fun t ht=>
   ⟨hK.set _ _,t,p+1,rfl,ht,by omega,by omega,rfl⟩
  rcases hm with hm|hm|hm|hm|hm<;>simp only[hm,rn,pevA,seval]
  ·refine (rvar_ok _).use ?_
   simp only[rn,pevA,seval,tyR,hk4,s_del (hbn _)]
   exact⟨_,_,.refl _ _,fin _ (.v (by simp))⟩
  ·refine (rvar_ok _).use ?_
   simp only[rn,pevA,seval,tyR,hk4,s_del (hbn _)]
   exact⟨_,_,.refl _ _,fin _ (.v (by simp))⟩
  ·refine (rvar_ok _).use ?_
   simp only[rn,pevA,seval,tyR,hk4,s_del (hbn _)]
   exact⟨_,_,.refl _ _,fin _ (.v (by simp))⟩
  ·refine (rcon_ok _ _ [] _ (by simp[tysR])).use ?_
   simp only[rn,pevA,seval,tyR,hk4,s_del (hbn _)]
   exact⟨_,_,.refl _ _,fin _ (g0 (by decide) _)⟩
  ·refine (rcon_ok _ _ [] _ (by simp[tysR])).use ?_
   simp only[rn,pevA,seval,tyR,hk4,s_del (hbn _)]
   exact⟨_,_,.refl _ _,fin _ (g0 (by decide) _)⟩
 |succ d ih=>
  intro hd p hp hp2 K h hb hk
  have hpow:(2:Int) ^ (d+1+1)=2*2 ^ (d+1):=by rw[Int.pow_succ];omega
  have hpos:(0:Int)<2 ^ (d+1):=Int.pow_pos (by omega)
  refine ACall.retQ t6 fun hK=>?_
  simp only[u_C c6.eq_1,rn,pevA,seval]
  intro b4 hb4 hk4
  have hne:b≠b4:=by rintro rfl;rw[hb] at hb4;cases hb4
  have hbn:∀q,(h.set b (seqO E l q)).objs b4=none:=fun q=>by rw[s_objs hne.symm];exact hb4
  simp only[rn,pevA,seval]
  refine (next_ok E l p 9 hp (by omega) (by omega) (by omega) K _ b (by rw[s_objs hne];exact hb) hk).mono ?_
  rintro _ _ ⟨⟨r,rfl,hr0,hr1⟩,rfl⟩
  rw[set_comm hne.symm]
  have e0:(decide (((d+1:Nat):Int)<1))=false:=by simp;omega
  have ew:IntKind.i64.wrap (((d+1:Nat):Int)-1)=(d:Int):=by rw[wrap64 ⟨by omega,by omega⟩];omega
  simp only[rn,pevA,seval,e0]
  have hm:r=0\/r=1\/r=2\/r=3\/r=4\/r=5\/r=6\/r=7\/r=8:=by omega
  have fin:∀t q,GT t->p<=q->q<=p+(2 ^ (d+1+1)-1)->KOk K (h.set b (seqO E l q))/\TypeQ E l b h p (p+(2 ^ (d+1+1)-1)) (.agg (tyR t)) (h.set b (seqO E l q)):=fun t q ht h1 h2=>
   ⟨hK.set _ _,t,q,rfl,ht,h1,h2,rfl⟩
  rcases hm with rfl|rfl|rfl|rfl|rfl|rfl|rfl|rfl|rfl<;>simp only[ew,rn,pevA,seval]
  ·refine (rvar_ok _).use ?_
   simp only[rn,pevA,seval,tyR,hk4,s_del (hbn _)]
   exact⟨_,_,.refl _ _,fin _ _ (.v (by simp)) (by omega) (by omega)⟩
  ·refine (rvar_ok _).use ?_
   simp only[rn,pevA,seval,tyR,hk4,s_del (hbn _)]
   exact⟨_,_,.refl _ _,fin _ _ (.v (by simp)) (by omega) (by omega)⟩
  ·refine (rvar_ok _).use ?_
   simp only[rn,pevA,seval,tyR,hk4,s_del (hbn _)]
   exact⟨_,_,.refl _ _,fin _ _ (.v (by simp)) (by omega) (by omega)⟩
  ·refine (rcon_ok _ _ [] _ (by simp[tysR])).use ?_
   simp only[rn,pevA,seval,tyR,hk4,s_del (hbn _)]
   exact⟨_,_,.refl _ _,fin _ _ (g0 (by decide) _) (by omega) (by omega)⟩
  ·refine (rcon_ok _ _ [] _ (by simp[tysR])).use ?_
   simp only[rn,pevA,seval,tyR,hk4,s_del (hbn _)]
   exact⟨_,_,.refl _ _,fin _ _ (g0 (by decide) _) (by omega) (by omega)⟩
  ·refine (ih (by omega) (p+1) (by omega) (by omega) K _ (by rw[s_objs hne,AH.set_same]) hk).mono ?_
   rintro _ _ ⟨a,q,rfl,ha,hq1,hq2,rfl⟩
   simp only[rn,pevA,seval,tyR_len,tyR_ne,tyR_one,tyR_take,tyR_drop]
   rw[set_comm hne.symm,AH.set_set]
   refine (rcon_ok _ 30 [a] .no (fun _=>rfl)).use ?_
   simp only[rn,pevA,seval,tyR,hk4,s_del (hbn _)]
   exact⟨_,_,.refl _ _,fin (.mk 2 _ [a]) _ (g1 (by decide) ha) (by omega) (by omega)⟩
  ·refine (ih (by omega) (p+1) (by omega) (by omega) K _ (by rw[s_objs hne,AH.set_same]) hk).mono ?_
   rintro _ _ ⟨a,q,rfl,ha,hq1,hq2,rfl⟩
   rw[set_comm hne.symm,AH.set_set]
   simp only[e_dregion d6_0,u_L s6_0.eq_1,u_T g6_0.eq_1,ew,rn,pevA,seval,tyR_len,tyR_ne,tyR_one,tyR_take,tyR_drop,tyR_ta,tyR_da,tyR_d6]
   refine (ih (by omega) q (by omega) (by omega) K _ (by rw[s_objs hne,AH.set_same]) hk).mono ?_
   rintro _ _ ⟨c,q',rfl,hc,hq3,hq4,rfl⟩
   rw[set_comm hne.symm,AH.set_set]
   simp only[rn,pevA,seval,tyR_len,tyR_ne,tyR_one,tyR_take,tyR_drop,tyR_ta,tyR_da,tyR_d6,List.length_append]
   refine (rcon_ok _ 30 [a,c] .no (fun _=>rfl)).use ?_
   simp only[rn,pevA,seval,tyR,hk4,s_del (hbn _)]
   exact⟨_,_,.refl _ _,fin (.mk 2 _ [a,c]) _ (g2 (by decide) ha hc) (by omega) (by omega)⟩
  all_goals
   refine (ih (by omega) (p+1) (by omega) (by omega) K _ (by rw[s_objs hne,AH.set_same]) hk).mono ?_
   rintro _ _ ⟨a,q,rfl,ha,hq1,hq2,rfl⟩
   rw[set_comm hne.symm,AH.set_set]
   simp only[e_dregion d6_1,u_L s6_1.eq_1,u_T g6_1.eq_1,ew,rn,pevA,seval,tyR_len,tyR_ne,tyR_one,tyR_take,tyR_drop,tyR_ta,tyR_da,tyR_d6]
   refine (ih (by omega) q (by omega) (by omega) K _ (by rw[s_objs hne,AH.set_same]) hk).mono ?_
   rintro _ _ ⟨c,q',rfl,hc,hq3,hq4,rfl⟩
   rw[set_comm hne.symm,AH.set_set]
   simp only[rn,pevA,seval,tyR_len,tyR_ne,tyR_one,tyR_take,tyR_drop,tyR_ta,tyR_da,tyR_d6,List.length_append]
   refine (fun2_ok a c).use ?_
   simp only[rn,pevA,seval,tyR,hk4,s_del (hbn _)]
   exact⟨_,_,.refl _ _,fin (.mk 3 _ [a,c]) _ (g2 (by decide) ha hc) (by omega) (by omega)⟩
theorem kv_putE (n:Nm)(v:AV):∀l,∃l',mputA (.str n) v (kvC l)=some (kvC l')
 |[]=>⟨[(n,v)],rfl⟩
 |p::l=>by
  by_cases e:n=p.1
  ·refine⟨(p.1,v)::l,?_⟩
   show (match keyEqA (.str n) (.str p.1) with|some true=>_|some false=>_|none=>_)=_
   simp[keyEqA,e,kvC]
  ·obtain⟨l',hl⟩:=kv_putE n v l
   refine⟨p::l',?_⟩
   show (match keyEqA (.str n) (.str p.1) with|some true=>_|some false=>_|none=>_)=_
   simp only[kvC] at hl
   simp[keyEqA,e,hl,kvC]
structure CS (K:Nat->Prop)(g h:AH)(be:Nat)(mv2:AV):Prop where
 o:h.objs be=some (.cells [.nilm,mv2] 54)\/∃m1 l1,h.objs be=some (.cells [.map m1,mv2] 54)/\h.objs m1=some (.map (kvC l1))/\g.objs m1=none/\m1≠be/\¬K m1
 le:(g.del be).le h
theorem le_none {g h:AH}(hl:g.le h){b:Nat}(hb:h.objs b=none):g.objs b=none:=by
 cases e:g.objs b with
 |none=>rfl
 |some o=>rw[hl.1 _ _ e] at hb;cases hb
theorem cargs_ok (M:AH)(b6:Nat)(K:Nat->Prop)(hk6:¬K b6)(nm:Nm)(vars:List Nm)(Tv:Tag)(rk:Int)(rnm:Nm)(Er:TypeId)(rl:List (List AV))(rt:Tag)(l:List Ty)(hl:l.length<=1000000000/\∀t∈l,TyB t)(R:CExit->AQ)(v0 v5 v18 v19 v20:AV)
  (hR:∀(fr:AFr)(E:TypeId)(tag:Tag)(t:Nat->Option Cn.Tok),fr 0=v0->fr 5=v5->fr 6=.ptr b6 0->fr 18=v18->fr 19=v19->fr 20=v20->(∀c k,M.toks c=some k->t c=some k)->R (.exit 2) fr ((M.set b6 (.cells [.str nm,.lst 9 (strC vars) Tv,.lst E (tysR l) tag,.int .i64 rk,.str rnm,.lst Er rl rt] 92)).tk t))
  (fr:AFr)(f0:fr 0=v0)(f5:fr 5=v5)(f6:fr 6=.ptr b6 0)(f18:fr 18=v18)(f19:fr 19=v19)(f20:fr 20=v20)(f34:fr 34=.lst 30 (tysR l) .no)(f35:fr 35=.int .i64 (l.length:Nat))(f36:fr 36=.int .i64 0) :
  W T K (.loop l27_2.toC) fr (M.set b6 (.cells [.str nm,.lst 9 (strC vars) Tv,.lst 0 [] .nil,.int .i64 rk,.str rnm,.lst Er rl rt] 92)) R:=by
 refine aloop (α:=Nat) (fun i fr h1=>fr 0=v0/\fr 5=v5/\fr 6=.ptr b6 0/\fr 18=v18/\fr 19=v19/\fr 20=v20/\fr 34=.lst 30 (tysR l) .no/\fr 35=.int .i64 (l.length:Nat)/\fr 36=.int .i64 i/\i<=l.length/\
  ∃E tag t,(tysR (l.take i)≠[]->E=30)/\Toks M.toks t [(tag,30,3,0)]/\h1=(M.set b6 (.cells [.str nm,.lst 9 (strC vars) Tv,.lst E (tysR (l.take i)) tag,.int .i64 rk,.str rnm,.lst Er rl rt] 92)).tk t) (fun i=>l.length-i) 0 ⟨f0,f5,f6,f18,f19,f20,f34,f35,f36,Nat.zero_le _,0,.nil,M.toks,fun h=>absurd (by simp[tysR]) h,.one _ _ _,by simp[tysR];rfl⟩ ?_
 clear f0 f5 f6 f18 f19 f20 f34 f35 f36
 rintro i fr h1 ⟨f0,f5,f6,f18,f19,f20,f34,f35,f36,hi,E,tag,t,hE,hT,rfl⟩
 by_cases hlt:i<l.length
 ·have c1:decide ((i:Int)<(l.length:Int))=true:=decide_eq_true (by omega)
  have hw:IntKind.i64.wrap ((i:Int)+1)=((i+1:Nat):Int):=by rw[wrap64 ⟨by omega,by omega⟩];rfl
  obtain⟨x,hx⟩ : ∃x,l[i]?=some x:=⟨l[i],by simp[hlt]⟩
  have hget:(tysR l)[i]?=some (tyR x):=by rw[tysR_get,hx];rfl
  simp only[u_C l27_2.eq_1,e_dregion d27_1,u_L s27_1.eq_1,u_T g27_1.eq_1,rn,pevA,seval,f6,f34,f35,f36,c1,hget,tyR_len,tyR_ne,tyR_one,tyR_take,kN,kG,hk6]
  refine (tclone_ok x (hl.2 x (List.mem_of_getElem? hx))).use ?_
  simp only[e_dregion d27_1,u_L s27_1.eq_1,u_T g27_1.eq_1,rn,pevA,seval,f6,tyR_len,tyR_ne,tyR_one,tyR_take,tyR_drop,kN,kG,hk6]
  refine WO.append (i:=0) hT rfl rfl rfl trivial (by decide) (by simp[tyR_len]) (by simp[tyR_one]) (.inr rfl) (fun _=>?_) ?_ fun tag2 t2 hT2=>?_
  ·simp[capOk,tysR_len];omega
  ·simp[big_eq,tysR_len];omega
  have hrow:tysR (l.take i)++[tyR x]=tysR (l.take (i+1)):=by rw[List.take_add_one,hx,tysR_app];rfl
  rw[hrow]
  simp only[e_dregion d27_1,u_L s27_1.eq_1,u_T g27_1.eq_1,rn,pevA,seval,f0,f5,f6,f18,f19,f20,f34,f35,f36,hw,kN,kG,hk6]
  exact⟨i+1,by show l.length-(i+1)<l.length-i;omega,f0,f5,f6,f18,f19,f20,f34,f35,rfl,hlt,30,tag2,t2,fun _=>rfl,hT2,rfl⟩
 ·obtain rfl:i=l.length:=by omega
  have c1:decide ((l.length:Int)<(l.length:Int))=false:=by simp
  rw[List.take_length] at hE ⊢
  simp only[u_C l27_2.eq_1,rn,pevA,seval,f34,f35,f36,c1]
  exact hR _ E tag t f0 f5 f6 f18 f19 f20 hT.le
theorem ccon_ok {g h:AH}{be:Nat}{mv2:AV}(K:Nat->Prop)(hkb:¬K be)(hC:CS K g h be mv2)(nm:Nm)(vars:List Nm)(hv:vars.length<=1000000000)(l:List Ty)(hl:l.length<=1000000000/\∀t∈l,TyB t)(r:Ty)(hr:TyB r)(h2:oneA mv2=true)(h3:isAny mv2=false) :
  ACall T K (.func 27) [.ptr be 0,.lst 92 [.str nm::.lst 9 (strC vars) .no::.lst 30 (tysR l) .no::tyR r] .no] h fun _ h'=>CS K g h' be mv2:=by
 refine ACall.retQ t27 fun hK=>?_
 have hcl:=tclone_ok r hr
 obtain⟨rk,rnm,rl⟩:=r
 simp only[tyR] at hcl ⊢
 have key:∀(m1:Nat)(l1:List (Nm×AV))(M:AH)(fr:AFr),M.objs be=some (.cells [.map m1,mv2] 54)->M.objs m1=some (.map (kvC l1))->g.objs m1=none->m1≠be->¬K m1->KOk K M->(g.del be).le M->
   fr 0=.ptr be 0->fr 18=.lst 92 [[.str nm,.lst 9 (strC vars) .no,.lst 30 (tysR l) .no,.int .i64 rk,.str rnm,.lst 30 (tysR rl) .no]] .no->fr 19=.int .i64 1->fr 20=.int .i64 0->
   W T K (.loop l27_4.toC) fr M (kB 0 (RetQ K [] fun _ h'=>CS K g h' be mv2)):=by
  intro m1 l1 M fr ho hm gm nmb hkm hKM hle f0 f18 f19 f20
  refine aloop (α:=Bool) (fun x fr h1=>fr 0=.ptr be 0/\fr 18=.lst 92 [[.str nm,.lst 9 (strC vars) .no,.lst 30 (tysR l) .no,.int .i64 rk,.str rnm,.lst 30 (tysR rl) .no]] .no/\fr 19=.int .i64 1/\fr 20=.int .i64 (if x then 1 else 0)/\KOk K h1/\(g.del be).le h1/\∃l2,h1.objs be=some (.cells [.map m1,mv2] 54)/\h1.objs m1=some (.map (kvC l2))) (fun x=>if x then 0 else 1) false ⟨f0,f18,f19,f20,hKM,hle,l1,ho,hm⟩ ?_
  clear f0 f18 f19 f20 ho hm hKM hle
  rintro x fr h1 ⟨f0,f18,f19,f20,hK1,hle,l2,ho,hm⟩
  cases x with
  |false=>
   simp only[Bool.false_eq_true,if_false] at f20
   have c1:decide ((0:Int)<1)=true:=rfl
   have p0:(0:Int)<=0:=by decide
   have z0:(0:Int).toNat=0:=rfl
   have w1:IntKind.i64.wrap (0+1)=1:=rfl
   have w2:IntKind.i64.wrap 1=1:=rfl
   simp only[u_C l27_4.eq_1,rn,pevA,seval,f0,f18,f19,f20,c1,p0,z0]
   simp only[e_dregion d27_0,u_L s27_0.eq_1,u_T g27_0.eq_1,rn,pevA,seval]
   intro b6 hb6 hk6
   simp only[e_dregion d27_0,u_L s27_0.eq_1,u_T g27_0.eq_1,rn,pevA,seval]
   refine (cloneS_ok vars hv).use ?_
   simp only[e_dregion d27_0,u_L s27_0.eq_1,u_T g27_0.eq_1,rn,pevA,seval]
   refine hcl.use ?_
   simp only[e_dregion d27_0,u_L s27_0.eq_1,u_T g27_0.eq_1,rn,pevA,seval,kN,kG,hk6,tysR_len]
   refine cargs_ok h1 b6 K hk6 nm vars .no rk rnm 30 (tysR rl) .no l hl _ _ _ _ _ _ (fun fr2 E tag t g0 g5 g6 g18 g19 g20 ht=>?_) _ f0 rfl rfl f18 f19 f20 rfl rfl rfl
   have nb6:be≠b6:=by rintro rfl;rw[ho] at hb6;cases hb6
   have nm6:m1≠b6:=by rintro rfl;rw[hm] at hb6;cases hb6
   obtain⟨l3,hput⟩:=kv_putE nm (.agg [.str nm,.lst 9 (strC vars) .no,.lst E (tysR l) tag,.int .i64 rk,.str rnm,.lst 30 (tysR rl) .no]) l2
   simp only[e_dregion d27_3,u_L s27_3.eq_1,u_T g27_3.eq_1,rn,pevA,seval,g0,g5,g6,g18,g19,g20,kN,kG,nb6,nb6.symm,nm6,nm6.symm,ho,hm,hput,hkm,w1,w2]
   have gm':(g.del be).objs m1=none:=by rw[AH.del_objs,if_neg nmb];exact gm
   exact⟨true,by decide,g0,g18,g19,rfl,(hK1.set _ _).set _ _,⟨(le_set (le_set hle (le_none hle hb6)) gm').1,fun c k hk=>ht c k (hle.2 c k hk)⟩,l3,by rw[tk_objs,AH.set_ne _ _ nmb.symm,AH.set_ne _ _ nb6];exact ho,AH.set_same _ _ _⟩
  |true=>
   simp only[if_true] at f20
   have c1:decide ((1:Int)<1)=false:=rfl
   simp only[u_C l27_4.eq_1,rn,pevA,seval,f0,f18,f19,f20,c1]
   exact⟨_,h1,.refl _ _,hK1,.inr ⟨m1,l2,ho,hm,gm,nmb,hkm⟩,hle⟩
 rcases hC.o with ho|⟨m1,l1,ho,hm,gm,nmb,hkm⟩
 ·simp only[u_C c27.eq_1,rn,pevA,seval,ho]
  intro m1 hm1 hk1
  have nmb:m1≠be:=by rintro rfl;rw[ho] at hm1;cases hm1
  have gm:g.objs m1=none:=by have:=le_none hC.le hm1;rwa [AH.del_objs,if_neg nmb] at this
  simp only[rn,pevA,seval,kN,kG,nmb,nmb.symm,ho,hkb]
  refine key m1 [] _ _ (AH.set_same _ _ _) (by rw[AH.set_ne _ _ nmb,AH.set_same];rfl) gm nmb hk1 ((hK.set _ _).set _ _) (le_set (le_set hC.le (le_none hC.le hm1)) (by rw[AH.del_objs,if_pos rfl])) ?_ ?_ ?_ ?_
  ·rfl
  ·rfl
  ·rfl
  ·rfl
 ·simp only[u_C c27.eq_1,rn,pevA,seval,ho]
  exact key m1 l1 h _ ho hm gm nmb hkm hK hC.le rfl rfl rfl rfl
theorem tysR_each (l:List Ty):∀e∈tysR l,e.length=3:=fun e he=>by rw[tysR_eq] at he;obtain⟨z,_,rfl⟩:=List.mem_map.1 he;exact tyR_len z
theorem tysR_flat1 (l:List Ty):(tysR l).flatten.all oneA=true:=by
 rw[List.all_flatten,List.all_eq_true]
 intro e he
 rw[tysR_eq] at he
 obtain⟨z,_,rfl⟩:=List.mem_map.1 he
 exact tyR_one z
theorem cloneT_ok (l:List Ty)(hl:l.length<=1000000000)(h0:l≠[])(tag:Tag):Pure T 47 [.lst 30 (tysR l) tag] (.lst 30 (tysR l) .no):=by
 intro K h
 refine ACall.ret t47 fun hK=>?_
 obtain⟨a,m,rfl⟩:=List.exists_cons_of_ne_nil h0
 have hc:tysR (a::m)=tyR a::tysR m:=by rw[tysR]
 have h1:=tysR_len (a::m)
 rw[hc] at h1 ⊢
 simp only[u_C c47.eq_1,rn,pevA,seval]
 refine WO.bslT0 fun c hc1 hc2=>?_
 simp only[rn,pevA,seval,setT_tk]
 refine WO.append (i:=0) (.row (t:=h.toks) 30 3 0 hc1) rfl rfl rfl trivial (by decide) (by rw[<-hc];exact tysR_each _) (by rw[<-hc];exact tysR_flat1 _) (.inr rfl) (fun _=>?_) ?_ fun tag2 t2 hT2=>?_
 ·simp only[List.length_cons] at h1 hl;simp[capOk];omega
 ·simp only[List.length_cons] at h1 hl;simp[big_eq];omega
 simp only[rn,pevA,seval]
 exact⟨.tag _ _ _,le_tk (AH.le_refl _) hT2.le⟩
theorem tconL_ok (n:Nm)(l:List Ty)(hl:l.length<=1000000000)(E:TypeId)(tag:Tag)(hE:l≠[]->E=30)(h0:l=[]->E=0/\tag=.nil):Pure T 28 [.str n,.lst E (tysR l) tag] (.agg (tyR (.mk 2 n l))):=by
 by_cases e:l=[]
 ·subst e
  obtain⟨rfl,rfl⟩:=h0 rfl
  have:=tcon0_ok n
  simp only[tysR]
  exact this
 ·obtain rfl:=hE e
  intro K h
  refine ACall.ret t28 fun hK=>?_
  simp only[u_C c28.eq_1,rn,pevA,seval]
  intro b4 hb4 hk4
  simp only[rn,pevA,seval]
  refine (cloneT_ok l hl e tag).use ?_
  simp only[rn,pevA,seval,kN,kG,hk4,tyR]
  exact⟨.refl _,by rw[s_del hb4];exact AH.le_refl _⟩
def vrs (l:List Nm):List Ty:=l.map fun v=>.mk 1 v []
theorem vrs_b (l:List Nm):∀t∈vrs l,TyB t:=fun t ht=>by obtain⟨v,_,rfl⟩:=List.mem_map.1 ht;exact⟨by simp,by simp⟩
theorem tyvars_loop (l:List Nm)(hl:l.length<=1000000)(M:AH)(K:Nat->Prop)(R:CExit->AQ)(v0 v5 v11 v12 v13:AV)
  (hR:∀(fr:AFr)(E:TypeId)(tag:Tag)(t:Nat->Option Cn.Tok),fr 0=v0->fr 5=v5->fr 11=v11->fr 12=v12->fr 13=v13->fr 6=.lst E (tysR (vrs l)) tag->(l≠[]->E=30)->(l=[]->E=0/\tag=.nil)->(∀c k,M.toks c=some k->t c=some k)->R (.exit 2) fr (M.tk t))
  (fr:AFr)(f0:fr 0=v0)(f5:fr 5=v5)(f11:fr 11=v11)(f12:fr 12=v12)(f13:fr 13=v13)(f6:fr 6=.lst 0 [] .nil)(f18:fr 18=.lst 9 (strC l) .no)(f19:fr 19=.int .i64 (l.length:Nat))(f20:fr 20=.int .i64 0) :
  W T K (.loop l14_0.toC) fr M R:=by
 refine aloop (α:=Nat) (fun i fr h1=>fr 0=v0/\fr 5=v5/\fr 11=v11/\fr 12=v12/\fr 13=v13/\fr 18=.lst 9 (strC l) .no/\fr 19=.int .i64 (l.length:Nat)/\fr 20=.int .i64 i/\i<=l.length/\
  ∃E tag t,fr 6=.lst E (tysR (vrs (l.take i))) tag/\(0<i->E=30)/\(i=0->E=0/\tag=.nil)/\Toks M.toks t [(tag,30,3,0)]/\h1=M.tk t) (fun i=>l.length-i) 0 ⟨f0,f5,f11,f12,f13,f18,f19,f20,Nat.zero_le _,0,.nil,M.toks,by rw[f6];simp[vrs,tysR],fun h=>absurd h (by decide),fun _=>⟨rfl,rfl⟩,.one _ _ _,rfl⟩ ?_
 clear f0 f5 f11 f12 f13 f6 f18 f19 f20
 rintro i fr h1 ⟨f0,f5,f11,f12,f13,f18,f19,f20,hi,E,tag,t,f6,hE,hZ,hT,rfl⟩
 by_cases hlt:i<l.length
 ·have c1:decide ((i:Int)<(l.length:Int))=true:=decide_eq_true (by omega)
  have hw:IntKind.i64.wrap ((i:Int)+1)=((i+1:Nat):Int):=by rw[wrap64 ⟨by omega,by omega⟩];rfl
  obtain⟨x,hx⟩ : ∃x,l[i]?=some x:=⟨l[i],by simp[hlt]⟩
  have hget:(strC l)[i]?=some [.str x]:=by rw[strC_get,hx];rfl
  have hrow:tysR (vrs (l.take i))++[tyR (.mk 1 x [])]=tysR (vrs (l.take (i+1))):=by rw[List.take_add_one,hx,tysR_app];simp[vrs]
  have hv:=tvar_ok x
  have ln:(vrs (l.take i)).length=i:=by rw[vrs,List.length_map,List.length_take];omega
  simp only[tyR,tysR] at hv hrow
  simp only[u_C l14_0.eq_1,rn,pevA,seval,f0,f5,f6,f11,f12,f13,f18,f19,f20,c1,hget]
  refine hv.use ?_
  simp only[rn,pevA,seval,f0,f5,f6,f11,f12,f13,f18,f19,f20]
  refine WO.append (i:=0) hT rfl rfl rfl trivial (by decide) (by simp) rfl (.inr rfl) (fun _=>?_) ?_ fun tag2 t2 hT2=>?_
  ·simp[capOk,tysR_len];omega
  ·simp[big_eq,tysR_len];omega
  rw[hrow]
  simp only[rn,pevA,seval,f0,f5,f11,f12,f13,f18,f19,f20,hw]
  exact⟨i+1,by show l.length-(i+1)<l.length-i;omega,f0,f5,f11,f12,f13,f18,f19,rfl,hlt,30,tag2,t2,rfl,fun _=>rfl,fun h=>absurd h (by omega),hT2,rfl⟩
 ·obtain rfl:i=l.length:=by omega
  have c1:decide ((l.length:Int)<(l.length:Int))=false:=by simp
  rw[List.take_length] at f6
  simp only[u_C l14_0.eq_1,rn,pevA,seval,f18,f19,f20,c1]
  exact hR _ E tag t f0 f5 f11 f12 f13 f6 (fun h=>hE (List.length_pos_iff.2 h)) (fun h=>hZ (by rw[h];rfl)) hT.le
theorem _root_.Go.Cn.ACall.kn {T:Nat->Option CFun}{K:Nat->Prop}{f:Fn}{args:List AV}{h:AH}{Q:AV->AH->Prop}(hc:ACall T K f args h fun v h'=>KOk K h'->Q v h'):ACall T K f args h Q:=
 fun F σ argsC hA hK hl=>CallA.mono _ _ _ _ _ (hc F σ argsC hA hK hl) fun v σ' ⟨F',a,h',h1,h2,h3,h4,h5⟩=>⟨F',a,h',h1,h2,h3,h4,h5 h3⟩
theorem cdsR_get (l:List Cd)(i:Nat):(cdsR l)[i]?=(l[i]?).map cdR:=by rw[cdsR,List.getElem?_map]
theorem dtsR_get (l:List Dt)(i:Nat):(dtsR l)[i]?=(l[i]?).map dtR:=by rw[dtsR,List.getElem?_map]
def CdB (c:Cd):Prop:=c.2.length<=1000000000/\∀t∈c.2,TyB t
def DtB (d:Dt):Prop:=d.vars.length<=1000000/\d.cons.length<=1000000000/\∀c∈d.cons,CdB c
theorem data_cons (g:AH)(be:Nat)(mv2:AV)(h2:oneA mv2=true)(h3:isAny mv2=false)(K:Nat->Prop)(hkb:¬K be)(d:Dt)(hd:DtB d)(E:TypeId)(tag:Tag)(hE:d.vars≠[]->E=30)(hZ:d.vars=[]->E=0/\tag=.nil)(R:CExit->AQ)(v11 v12 v13:AV)
  (hR:∀(fr:AFr)(h:AH),fr 0=.ptr be 0->fr 11=v11->fr 12=v12->fr 13=v13->CS K g h be mv2->KOk K h->R (.exit 4) fr h)
  (fr:AFr)(h:AH)(hC:CS K g h be mv2)(hK:KOk K h)(f0:fr 0=.ptr be 0)(f5:fr 5=.rptr [.str d.name,.lst 9 (strC d.vars) .no,.lst 88 (cdsR d.cons) .no,.lst 9 (strC d.der) .no,.int .i64 d.pos])(f6:fr 6=.lst E (tysR (vrs d.vars)) tag)(f11:fr 11=v11)(f12:fr 12=v12)(f13:fr 13=v13)(f31:fr 31=.lst 88 (cdsR d.cons) .no)(f32:fr 32=.int .i64 (d.cons.length:Nat))(f33:fr 33=.int .i64 0) :
  W T K (.loop l14_2.toC) fr h R:=by
 obtain⟨hv,hcl,hcs⟩:=hd
 refine aloop (α:=Nat) (fun i fr h1=>fr 0=.ptr be 0/\fr 5=.rptr [.str d.name,.lst 9 (strC d.vars) .no,.lst 88 (cdsR d.cons) .no,.lst 9 (strC d.der) .no,.int .i64 d.pos]/\fr 6=.lst E (tysR (vrs d.vars)) tag/\fr 11=v11/\fr 12=v12/\fr 13=v13/\fr 31=.lst 88 (cdsR d.cons) .no/\fr 32=.int .i64 (d.cons.length:Nat)/\fr 33=.int .i64 i/\i<=d.cons.length/\CS K g h1 be mv2/\KOk K h1) (fun i=>d.cons.length-i) 0 ⟨f0,f5,f6,f11,f12,f13,f31,f32,f33,Nat.zero_le _,hC,hK⟩ ?_
 clear f0 f5 f6 f11 f12 f13 f31 f32 f33 hC hK
 rintro i fr h1 ⟨f0,f5,f6,f11,f12,f13,f31,f32,f33,hi,hC,hK⟩
 by_cases hlt:i<d.cons.length
 ·have c1:decide ((i:Int)<(d.cons.length:Int))=true:=decide_eq_true (by omega)
  have hw:IntKind.i64.wrap ((i:Int)+1)=((i+1:Nat):Int):=by rw[wrap64 ⟨by omega,by omega⟩];rfl
  obtain⟨x,hx⟩ : ∃x,d.cons[i]?=some x:=⟨d.cons[i],by simp[hlt]⟩
  have hget:(cdsR d.cons)[i]?=some (cdR x):=by rw[cdsR_get,hx];rfl
  have hxb:=hcs x (List.mem_of_getElem? hx)
  have hlv:(vrs d.vars).length<=1000000000:=by rw[vrs,List.length_map];omega
  have ht:=tconL_ok d.name (vrs d.vars) hlv E tag (fun h=>hE fun e=>h (by rw[e];rfl)) (fun h=>hZ (by simpa[vrs] using h))
  have hcon:=ccon_ok K hkb hC x.1 d.vars (by omega) x.2 hxb (.mk 2 d.name (vrs d.vars)) ⟨by rw[vrs,List.length_map];omega,vrs_b _⟩ h2 h3
  simp only[cdR] at hget
  simp only[tyR] at ht hcon
  simp only[u_C l14_2.eq_1,rn,pevA,seval,f0,f5,f6,f11,f12,f13,f31,f32,f33,c1,hget]
  simp only[e_dregion d14_1,u_L s14_1.eq_1,u_T g14_1.eq_1,rn,pevA,seval,f0,f5,f6,f11,f12,f13,f31,f32,f33]
  refine ht.use ?_
  simp only[e_dregion d14_1,u_L s14_1.eq_1,u_T g14_1.eq_1,rn,pevA,seval,f0,f5,f6,f11,f12,f13,f31,f32,f33]
  refine ACall.kn (hcon.mono ?_)
  intro _ h4 hC4 hK4
  simp only[e_dregion d14_1,u_L s14_1.eq_1,u_T g14_1.eq_1,rn,pevA,seval,f0,f5,f6,f11,f12,f13,f31,f32,f33,hw]
  exact⟨i+1,by show d.cons.length-(i+1)<d.cons.length-i;omega,f0,f5,f6,f11,f12,f13,f31,f32,rfl,hlt,hC4,hK4⟩
 ·obtain rfl:i=d.cons.length:=by omega
  have c1:decide ((d.cons.length:Int)<(d.cons.length:Int))=false:=by simp
  simp only[u_C l14_2.eq_1,rn,pevA,seval,f31,f32,f33,c1]
  exact hR _ _ f0 f11 f12 f13 hC hK
theorem CS.tk {K:Nat->Prop}{g h:AH}{be:Nat}{mv2:AV}(hC:CS K g h be mv2){t:Nat->Option Cn.Tok}(ht:∀c k,h.toks c=some k->t c=some k):CS K g (h.tk t) be mv2:=⟨hC.o,⟨hC.le.1,fun c k hk=>ht c k (hC.le.2 c k hk)⟩⟩
theorem edata_ok (g:AH)(be:Nat)(mv2:AV)(h2:oneA mv2=true)(h3:isAny mv2=false)(ho:g.objs be=some (.cells [.nilm,mv2] 54))(K:Nat->Prop)(hkb:¬K be)(ds:List Dt)(hl:ds.length<=1000000)(hd:∀d∈ds,DtB d) :
  ACall T K (.func 14) [.ptr be 0,.lst 66 (dtsR ds) .no] g fun _ h'=>CS K g h' be mv2:=by
 refine ACall.retQ t14 fun hK=>?_
 simp only[u_C c14.eq_1,rn,pevA,seval,dtsR_len]
 refine aloop (α:=Nat) (fun i fr h1=>fr 0=.ptr be 0/\fr 11=.lst 66 (dtsR ds) .no/\fr 12=.int .i64 (ds.length:Nat)/\fr 13=.int .i64 i/\i<=ds.length/\CS K g h1 be mv2/\KOk K h1) (fun i=>ds.length-i) 0 ⟨rfl,rfl,rfl,rfl,Nat.zero_le _,⟨.inl ho,⟨fun n o hn=>by rw[AH.del_objs] at hn;split at hn;cases hn;exact hn,fun _ _ h=>h⟩⟩,hK⟩ ?_
 rintro i fr h1 ⟨f0,f11,f12,f13,hi,hC,hK1⟩
 by_cases hlt:i<ds.length
 ·have c1:decide ((i:Int)<(ds.length:Int))=true:=decide_eq_true (by omega)
  have hw:IntKind.i64.wrap ((i:Int)+1)=((i+1:Nat):Int):=by rw[wrap64 ⟨by omega,by omega⟩];rfl
  obtain⟨x,hx⟩ : ∃x,ds[i]?=some x:=⟨ds[i],by simp[hlt]⟩
  have hget:(dtsR ds)[i]?=some (dtR x):=by rw[dtsR_get,hx];rfl
  have hxb:=hd x (List.mem_of_getElem? hx)
  simp only[dtR] at hget
  simp only[u_C l14_3.eq_1,rn,pevA,seval,f0,f11,f12,f13,c1,hget,strC_len]
  refine tyvars_loop x.vars hxb.1 h1 K _ (.ptr be 0) (.rptr [.str x.name,.lst 9 (strC x.vars) .no,.lst 88 (cdsR x.cons) .no,.lst 9 (strC x.der) .no,.int .i64 x.pos]) (.lst 66 (dtsR ds) .no) (.int .i64 (ds.length:Nat)) (.int .i64 (i:Nat)) (fun fr2 E tag t g0 g5 g11 g12 g13 g6 hE hZ ht=>?_) _ ?_ ?_ ?_ ?_ ?_ ?_ ?_ ?_ ?_
  ·simp only[rn,pevA,seval,g0,g5,g6,g11,g12,g13,cdsR_len]
   refine data_cons g be mv2 h2 h3 K hkb x hxb E tag hE hZ _ (.lst 66 (dtsR ds) .no) (.int .i64 (ds.length:Nat)) (.int .i64 (i:Nat)) (fun fr3 h4 k0 k11 k12 k13 hC4 hK4=>?_) _ _ (hC.tk ht) (fun n hn=>hK1 n hn) ?_ ?_ ?_ ?_ ?_ ?_ ?_ ?_ ?_
   ·simp only[rn,pevA,seval,k0,k11,k12,k13,hw]
    exact⟨i+1,by show ds.length-(i+1)<ds.length-i;omega,k0,k11,k12,rfl,hlt,hC4,hK4⟩
   ·exact g0
   ·exact g5
   ·exact g6
   ·exact g11
   ·exact g12
   ·exact g13
   ·rfl
   ·rfl
   ·rfl
  ·exact f0
  ·rfl
  ·exact f11
  ·exact f12
  ·exact f13
  ·rfl
  ·rfl
  ·rfl
  ·rfl
 ·obtain rfl:i=ds.length:=by omega
  have c1:decide ((ds.length:Int)<(ds.length:Int))=false:=by simp
  simp only[u_C l14_3.eq_1,rn,pevA,seval,f0,f11,f12,f13,c1]
  exact⟨_,h1,.refl _ _,hK1,hC⟩
def RwS (sz n:Nat)(v:AV):Prop:=∃E rows tag,v=.lst E rows tag/\rows.length<=n/\(∀e∈rows,e.length=sz)/\rows.flatten.all oneA=true
theorem RwS.add {sz n:Nat}{E:TypeId}{rows:List (List AV)}{tag:Tag}(h1:rows.length<=n)(h2:∀e∈rows,e.length=sz)(h3:rows.flatten.all oneA=true){r:List AV}(hr:r.length=sz)(ho:r.all oneA=true):RwS sz (n+1) (.lst E (rows++[r]) tag):=
 ⟨E,_,tag,rfl,by simp;omega,fun e he=>by rcases List.mem_append.1 he with h|h;exact h2 e h;simp at h;rw[h];exact hr,by simp only[List.flatten_append,List.flatten_cons,List.flatten_nil,List.append_nil,List.all_append,h3,ho,Bool.and_self]⟩
structure XS (g h:AH)(bx n:Nat):Prop where
 o:∃a b,h.objs bx=some (.cells [a,b] 58)/\RwS 6 n a/\RwS 4 n b
 le:(g.del bx).le h
theorem RwS.mono {sz n m:Nat}{v:AV}(h:RwS sz n v)(hm:n<=m):RwS sz m v:=let ⟨E,r,t,h1,h2,h3⟩:=h;⟨E,r,t,h1,by omega,h3⟩
theorem xcon_ok {g h:AH}{bx n:Nat}(K:Nat->Prop)(hkx:¬K bx)(hX:XS g h bx n)(hn:n<=1000000)(a b:Nm)(c0 c1 c2 c5:AV)(o1:oneA c1=true)(o2:oneA c2=true)(o5:oneA c5=true)(k:Int) :
  ACall T K (.func 29) [.ptr bx 0,.agg [.str a,c1,c2,.int .i64 k,.str b,c5]] h fun _ h'=>XS g h' bx (n+1):=by
 refine ACall.retQ t29 fun hK=>?_
 obtain⟨_,vb,ho,⟨E,rows,tag,rfl,r1,r2,r3⟩,hb⟩:=hX.o
 simp only[u_C c29.eq_1,rn,pevA,seval,o1,o2,o5]
 simp only[e_dregion d29_0,u_L s29_0.eq_1,u_T g29_0.eq_1,rn,pevA,seval,o1,o2,o5,ho]
 refine WO.bslT0 fun c hc1 hc2=>?_
 simp only[e_dregion d29_0,u_L s29_0.eq_1,u_T g29_0.eq_1,rn,pevA,seval,o1,o2,o5,ho,setT_tk,AH.setT_objs]
 refine WO.append (i:=0) (.row (t:=h.toks) 94 6 0 hc1) rfl rfl rfl trivial (by decide) r2 r3 (.inr rfl) (fun _=>?_) ?_ fun tag2 t2 hT2=>?_
 ·simp[capOk];omega
 ·simp[big_eq];omega
 simp only[Nat.zero_sub] at hT2
 simp only[e_dregion d29_0,u_L s29_0.eq_1,u_T g29_0.eq_1,rn,pevA,seval,o1,o2,o5,ho,setT_tk,AH.setT_objs,List.nil_append]
 have h1':[[AV.str a,c1,c2,.int .i64 k,.str b,c5]].flatten.all oneA=true:=by simp only[List.flatten_cons,List.flatten_nil,List.append_nil,List.all_cons,List.all_nil,o1,o2,o5];rfl
 refine WO.append (i:=0) hT2 rfl rfl rfl trivial (by decide) (by simp) h1' (.inr rfl) (fun _=>?_) ?_ fun tag3 t3 hT3=>?_
 ·simp[capOk];omega
 ·simp[big_eq];omega
 simp only[e_dregion d29_0,u_L s29_0.eq_1,u_T g29_0.eq_1,rn,pevA,seval,o1,o2,o5,ho,setT_tk,AH.setT_objs,List.nil_append,hkx]
 have hno:(g.del bx).objs bx=none:=by rw[AH.del_objs,if_pos rfl]
 have hr1:([AV.str a,c1,c2,.int .i64 k,.str b,c5]:List AV).all oneA=true:=by simp only[List.all_cons,List.all_nil,o1,o2,o5];rfl
 exact⟨_,_,.refl _ _,hK.set _ _,⟨⟨_,vb,AH.set_same _ _ _,RwS.add r1 r2 r3 rfl hr1,hb.mono (by omega)⟩,⟨(le_set hX.le hno).1,fun c k hk=>hT3.le c k (hX.le.2 c k hk)⟩⟩⟩
theorem xvar_ok {g h:AH}{bx n:Nat}(K:Nat->Prop)(hkx:¬K bx)(hX:XS g h bx n)(hn:n<=1000000)(a:Nm)(t:Ty) :
  ACall T K (.func 18) [.ptr bx 0,.str a,.agg (tyR t)] h fun _ h'=>XS g h' bx (n+1):=by
 refine ACall.retQ t18 fun hK=>?_
 obtain⟨va,_,ho,hb,⟨E,rows,tag,rfl,r1,r2,r3⟩⟩:=hX.o
 obtain⟨tk,tn,tl⟩:=t
 simp only[tyR]
 simp only[u_C c18.eq_1,rn,pevA,seval]
 simp only[e_dregion d18_0,u_L s18_0.eq_1,u_T g18_0.eq_1,rn,pevA,seval,ho]
 refine WO.bslT0 fun c hc1 hc2=>?_
 simp only[e_dregion d18_0,u_L s18_0.eq_1,u_T g18_0.eq_1,rn,pevA,seval,ho,setT_tk,AH.setT_objs]
 refine WO.append (i:=0) (.row (t:=h.toks) 96 4 0 hc1) rfl rfl rfl trivial (by decide) r2 r3 (.inr rfl) (fun _=>?_) ?_ fun tag2 t2 hT2=>?_
 ·simp[capOk];omega
 ·simp[big_eq];omega
 simp only[Nat.zero_sub] at hT2
 simp only[e_dregion d18_0,u_L s18_0.eq_1,u_T g18_0.eq_1,rn,pevA,seval,ho,setT_tk,AH.setT_objs,List.nil_append]
 refine WO.append (i:=0) hT2 rfl rfl rfl trivial (by decide) (by simp) rfl (.inr rfl) (fun _=>?_) ?_ fun tag3 t3 hT3=>?_
 ·simp[capOk];omega
 ·simp[big_eq];omega
 simp only[e_dregion d18_0,u_L s18_0.eq_1,u_T g18_0.eq_1,rn,pevA,seval,ho,setT_tk,AH.setT_objs,List.nil_append,hkx]
 have hno:(g.del bx).objs bx=none:=by rw[AH.del_objs,if_pos rfl]
 exact⟨_,_,.refl _ _,hK.set _ _,⟨⟨va,_,AH.set_same _ _ _,hb.mono (by omega),RwS.add r1 r2 r3 rfl rfl⟩,⟨(le_set hX.le hno).1,fun c k hk=>hT3.le c k (hX.le.2 c k hk)⟩⟩⟩
theorem xvars_loop (d:Dt)(hl:d.vars.length<=1000000)(M:AH)(K:Nat->Prop)(R:CExit->AQ)(v0 v4:AV)
  (hR:∀(fr:AFr)(E:TypeId)(tag:Tag)(t:Nat->Option Cn.Tok),fr 0=v0->fr 4=v4->fr 3=.rptr [.str d.name,.lst 9 (strC d.vars) .no,.lst 88 (cdsR d.cons) .no,.lst 9 (strC d.der) .no,.int .i64 d.pos]->fr 5=.lst E (tysR (vrs d.vars)) tag->(tysR (vrs d.vars)≠[]->E=30)->(∀c k,M.toks c=some k->t c=some k)->R (.exit 2) fr (M.tk t))
  (fr:AFr)(f0:fr 0=v0)(f4:fr 4=v4)(f3:fr 3=.rptr [.str d.name,.lst 9 (strC d.vars) .no,.lst 88 (cdsR d.cons) .no,.lst 9 (strC d.der) .no,.int .i64 d.pos])(f5:fr 5=.lst 0 [] .nil)(f6:fr 6=.int .i64 0) :
  W T K (.loop l15_0.toC) fr M R:=by
 refine aloop (α:=Nat) (fun i fr h1=>fr 0=v0/\fr 4=v4/\fr 3=.rptr [.str d.name,.lst 9 (strC d.vars) .no,.lst 88 (cdsR d.cons) .no,.lst 9 (strC d.der) .no,.int .i64 d.pos]/\fr 6=.int .i64 i/\i<=d.vars.length/\
  ∃E tag t,fr 5=.lst E (tysR (vrs (d.vars.take i))) tag/\(tysR (vrs (d.vars.take i))≠[]->E=30)/\Toks M.toks t [(tag,30,3,0)]/\h1=M.tk t) (fun i=>d.vars.length-i) 0 ⟨f0,f4,f3,f6,Nat.zero_le _,0,.nil,M.toks,by rw[f5];simp[vrs,tysR],fun h=>absurd (by simp[vrs,tysR]) h,.one _ _ _,rfl⟩ ?_
 clear f0 f4 f3 f5 f6
 rintro i fr h1 ⟨f0,f4,f3,f6,hi,E,tag,t,f5,hE,hT,rfl⟩
 by_cases hlt:i<d.vars.length
 ·have c1:decide ((i:Int)<(d.vars.length:Int))=true:=decide_eq_true (by omega)
  have hw:IntKind.i64.wrap ((i:Int)+1)=((i+1:Nat):Int):=by rw[wrap64 ⟨by omega,by omega⟩];rfl
  obtain⟨x,hx⟩ : ∃x,d.vars[i]?=some x:=⟨d.vars[i],by simp[hlt]⟩
  have hget:(strC d.vars)[i]?=some [.str x]:=by rw[strC_get,hx];rfl
  have hrow:tysR (vrs (d.vars.take i))++[tyR (.mk 1 x [])]=tysR (vrs (d.vars.take (i+1))):=by rw[List.take_add_one,hx,tysR_app];simp[vrs]
  have hv:=rvar_ok x
  have ln:(vrs (d.vars.take i)).length=i:=by rw[vrs,List.length_map,List.length_take];omega
  simp only[tyR,tysR] at hv hrow
  simp only[u_C l15_0.eq_1,rn,pevA,seval,f0,f3,f4,f5,f6,strC_len,c1,hget]
  refine hv.use ?_
  simp only[rn,pevA,seval,f0,f3,f4,f5,f6]
  refine WO.append (i:=0) hT rfl rfl rfl trivial (by decide) (by simp) rfl (.inr rfl) (fun _=>?_) ?_ fun tag2 t2 hT2=>?_
  ·simp[capOk,tysR_len];omega
  ·simp[big_eq,tysR_len];omega
  rw[hrow]
  simp only[rn,pevA,seval,f0,f3,f4,f6,hw]
  exact⟨i+1,by show d.vars.length-(i+1)<d.vars.length-i;omega,f0,f4,f3,rfl,hlt,30,tag2,t2,rfl,fun _=>rfl,hT2,rfl⟩
 ·obtain rfl:i=d.vars.length:=by omega
  have c1:decide ((d.vars.length:Int)<(d.vars.length:Int))=false:=by simp
  rw[List.take_length] at f5 hE
  simp only[u_C l15_0.eq_1,rn,pevA,seval,f3,f6,strC_len,c1]
  exact hR _ E tag t f0 f4 f3 f5 hE hT.le
theorem XS.tk {g h:AH}{bx n:Nat}(hX:XS g h bx n){t:Nat->Option Cn.Tok}(ht:∀c k,h.toks c=some k->t c=some k):XS g (h.tk t) bx n:=⟨hX.o,⟨hX.le.1,fun c k hk=>ht c k (hX.le.2 c k hk)⟩⟩
theorem xdata_ok {g h:AH}{bx n:Nat}(K:Nat->Prop)(hkx:¬K bx)(hX:XS g h bx n)(d:Dt)(hd:DtB d)(hn:n+d.cons.length<=1000000) :
  ACall T K (.func 15) [.ptr bx 0,.agg (dtR d)] h fun _ h'=>XS g h' bx (n+d.cons.length):=by
 refine ACall.retQ t15 fun hK=>?_
 simp only[u_C c15.eq_1,dtR,rn,pevA,seval]
 refine aloop (α:=Nat) (fun i fr h1=>fr 0=.ptr bx 0/\fr 4=.int .i64 i/\fr 3=.rptr [.str d.name,.lst 9 (strC d.vars) .no,.lst 88 (cdsR d.cons) .no,.lst 9 (strC d.der) .no,.int .i64 d.pos]/\i<=d.cons.length/\XS g h1 bx (n+i)/\KOk K h1) (fun i=>d.cons.length-i) 0 ⟨rfl,rfl,rfl,Nat.zero_le _,hX,hK⟩ ?_
 rintro i fr h1 ⟨f0,f4,f3,hi,hX1,hK1⟩
 by_cases hlt:i<d.cons.length
 ·have c1:decide ((i:Int)<(d.cons.length:Int))=true:=decide_eq_true (by omega)
  have hw:IntKind.i64.wrap ((i:Int)+1)=((i+1:Nat):Int):=by rw[wrap64 ⟨by omega,by omega⟩];rfl
  obtain⟨x,hx⟩ : ∃x,d.cons[i]?=some x:=⟨d.cons[i],by simp[hlt]⟩
  have hget:(cdsR d.cons)[i]?=some (cdR x):=by rw[cdsR_get,hx];rfl
  simp only[cdR] at hget
  simp only[u_C l15_2.eq_1,rn,pevA,seval,f0,f3,f4,cdsR_len,c1]
  refine xvars_loop d hd.1 h1 K _ (.ptr bx 0) (.int .i64 (i:Nat)) (fun fr2 E tag t g0 g4 g3 g5 hE ht=>?_) _ ?_ ?_ ?_ ?_ ?_
  ·have hc:=rcon_ok d.name E (vrs d.vars) tag hE
   have hcon:=xcon_ok K hkx (hX1.tk ht) (by omega) x.1 d.name .nili (.lst 9 (strC d.vars) .no) (.lst 30 (tysR x.2) .no) (.lst 30 (tysR (vrs d.vars)) .no) rfl rfl rfl 2
   simp only[tyR] at hc
   simp only[e_dregion d15_1,u_L s15_1.eq_1,u_T g15_1.eq_1,rn,pevA,seval,g0,g3,g4,g5,hget]
   refine hc.use ?_
   simp only[e_dregion d15_1,u_L s15_1.eq_1,u_T g15_1.eq_1,rn,pevA,seval,g0,g3,g4,g5,hget]
   refine ACall.kn (hcon.mono ?_)
   intro _ h4 hX4 hK4
   simp only[e_dregion d15_1,u_L s15_1.eq_1,u_T g15_1.eq_1,rn,pevA,seval,g0,g3,g4,g5,hw]
   exact⟨i+1,by show d.cons.length-(i+1)<d.cons.length-i;omega,g0,rfl,g3,hlt,hX4,hK4⟩
  ·exact f0
  ·exact f4
  ·exact f3
  ·rfl
  ·rfl
 ·obtain rfl:i=d.cons.length:=by omega
  have c1:decide ((d.cons.length:Int)<(d.cons.length:Int))=false:=by simp
  simp only[u_C l15_2.eq_1,rn,pevA,seval,f0,f3,f4,cdsR_len,c1]
  exact⟨_,h1,.refl _ _,hK1,hX1⟩
end Go.Proofs.YtinbjdkibmkgbaaGreatDoor.p
namespace Go.Cn
set_option linter.unusedVariables false
variable {T:Nat->Option CFun}{K:Nat->Prop}{fr:AFr}{h:AH}
theorem WO.strish {x:Operand}{E:TypeId}{b n:Nat}{cs:List AV}{Q:AV->AH->Prop}(hx:evA fr x=.slice b 0 n n)(hb:h.objs b=some (.cells cs E))(hKb:¬K b)(hn:cs.length=n)(hp:0<n)(hB:n<=big)
  (hq:Q (.lst E (cs.map fun a=>[a]) .no) (h.del b)):WO T K (.e (.strish E x)) fr h Q:=by
 subst hn
 intro F σ ρ hA hK hρ
 have hv:=hρ x
 rw[hx] at hv
 obtain⟨o1,o2,c,cl,rel,g1,g2,_⟩:=hA.obj b _ hb
 obtain⟨h1,h2⟩:=hA.freeze (K:=K) hb (.inl ⟨cs,E,rfl,rfl,by omega⟩) hKb
 cases hv':ρ x<;>rw[hv'] at hv<;>cases hv
 have hlen:c.length=cs.length:=g2.1.symm
 have hne:cs≠[]:=fun e=>by rw[e] at hp;simp at hp
 refine⟨.slice (some ⟨b,0,none⟩) cs.length cs.length,σ,?_,_,_,_,h2,h1,hK.del hKb,?_,hq⟩
 ·show (match ρ x with|.slice (some a) n c=>_|_=>_)=_
  rw[hv']
  simp only[CW.row,CW.elemIs,g1]
  rw[if_pos (by simp[o2];omega)]
 ·have hr:RpL (upd F b cs.length) σ cs c:=g2.ext h2
  have:=Rp.lst (F:=upd F b cs.length) (σ:=σ) (E:=E) (es:=cs.map fun a=>[a]) (t:=.no) (b:=b) (off:=0) (cap:=cs.length) (sz:=1) g1 (by simpa using hne) (by omega) (fun e he=>by obtain⟨x,_,rfl⟩:=List.mem_map.1 he;rfl)
   (by rw[List.length_map,upd_same];omega) (by rw[List.length_map,hlen];omega) (by rw[List.length_map];exact Nat.le_refl _) (by rw[List.length_map];exact hB) (.inl rfl) (fun i y z hy hz=>by
    rw[single_flat] at hy
    rw[Nat.zero_add] at hz
    exact hr.2 i y z hy hz)
  rw[List.length_map] at this
  exact this
end Go.Cn
namespace Go.Proofs.YtinbjdkibmkgbaaGreatDoor.p
open Go.Proofs Go Go.Cn code
set_option linter.unusedSimpArgs false
set_option linter.unusedVariables false
def txtB:List UInt8:=[100,97,116,97,32,66,111,111,108,32,61,32,70,97,108,115,101,32,124,32,84,114,117,101,59,32,100,97,116,97,32,76,105,115,116,32,97,32,61,32,78,105,108,32,124,32,67,111,110,115,32,97,32,40,76,105,115,116,32,97,41,59,32,100,97,116,97,32,80,97,105,114,32,97,32,98,32,61,32,80,97,105,114,32,97,32,98]
def basics:List Dt:=(parseV txtB).1.datas
set_option maxRecDepth 100000 in
theorem basics_ok:Pure T 13 [] (.lst 66 (dtsR basics) .no):=by
 intro K h
 refine ACall.ret t13 fun hK=>?_
 simp only[u_C c13.eq_1,rn,pevA,seval]
 refine WO.bslW (cs:=txtB.map fun c=>.int .u8 c.toNat) ?_ fun b hb hk=>?_
 ·rfl
 simp only[rn,pevA,seval]
 refine WO.strish (n:=87) rfl (AH.set_same _ _ _) hk rfl (by decide) (by decide) ?_
 have hr:((txtB.map fun c=>AV.int .u8 c.toNat).map fun a=>[a])=byR txtB:=by rw[byR,List.map_map];rfl
 rw[hr,s_delset,s_del hb]
 have hp:=Program_ok txtB (by decide)
 simp only[pgR] at hp
 simp only[rn,pevA,seval]
 refine hp.use ?_
 simp only[rn,pevA,seval]
 intro b1 hb1 hk1
 simp only[rn,pevA,seval,kN,kG,hk1]
 intro b2 hb2 hk2
 obtain⟨n2,hb2⟩:=AH.set_none.1 hb2
 have o2:∀X Y:AO,(((h.set b1 X).set b2 Y).del b1).objs b2=some Y:=fun X Y=>by rw[AH.del_objs,if_neg n2,AH.set_same]
 simp only[rn,pevA,seval,kN,kG,n2,n2.symm,hk1,hk2,o2]
 exact⟨.refl _,le_del (le_del (le_set (le_set (AH.le_refl _) hb1) hb2) hb1) hb2⟩
def bas0:List Dt:=[⟨[66,111,111,108],[],[([70,97,108,115,101],[]),([84,114,117,101],[])],[],0⟩,⟨[76,105,115,116],[[97]],[([78,105,108],[]),([67,111,110,115],[.mk 1 [97] [],.mk 2 [76,105,115,116] [.mk 1 [97] []]])],[],26⟩,⟨[80,97,105,114],[[97],[98]],[([80,97,105,114],[.mk 1 [97] [],.mk 1 [98] []])],[],63⟩]
theorem basics_eq:basics=bas0:=by show (parseV txtB).1.datas=bas0;kernel_rfl
theorem ty_v (n:Nm):TyB (.mk 1 n []):=⟨by simp,by simp⟩
theorem bas_b:∀d∈bas0,DtB d:=fun d hd=>by
 simp only[bas0,List.mem_cons,List.not_mem_nil,or_false] at hd
 rcases hd with rfl|rfl|rfl
 ·exact⟨by decide,by decide,fun c hc=>by simp only[List.mem_cons,List.not_mem_nil,or_false] at hc;rcases hc with rfl|rfl<;>exact⟨by decide,by simp⟩⟩
 ·refine⟨by decide,by decide,fun c hc=>?_⟩
  simp only[List.mem_cons,List.not_mem_nil,or_false] at hc
  rcases hc with rfl|rfl
  ·exact⟨by decide,by simp⟩
  ·exact⟨by decide,fun t ht=>by
    simp only[List.mem_cons,List.not_mem_nil,or_false] at ht
    rcases ht with rfl|rfl
    ·exact ty_v _
    ·exact⟨by decide,fun a ha=>by simp at ha;subst ha;exact ty_v _⟩⟩
 ·refine⟨by decide,by decide,fun c hc=>?_⟩
  simp only[List.mem_cons,List.not_mem_nil,or_false] at hc
  subst hc
  exact⟨by decide,fun t ht=>by
   simp only[List.mem_cons,List.not_mem_nil,or_false] at ht
   rcases ht with rfl|rfl<;>exact ty_v _⟩
theorem bas_c:∀d∈bas0,d.cons.length<=10:=by decide
end Go.Proofs.YtinbjdkibmkgbaaGreatDoor.p
namespace Go.Proofs.YtinbjdkibmkgbaaGreatDoor.p
open Go.Proofs Go Go.Cn code
set_option linter.unusedSimpArgs false
set_option linter.unusedVariables false
theorem del_le {h:AH}{b:Nat}:(h.del b).le h:=⟨fun n o hn=>by
 rw[AH.del_objs] at hn
 split at hn
 ·cases hn
 ·exact hn,fun _ _ h=>h⟩
theorem le_but {h h1 h2:AH}{b:Nat}(hn:h.objs b=none)(a:h.le h1)(c:(h1.del b).le h2):h.le h2:=AH.le_trans (le_del a hn) c
theorem dk {h h':AH}{b n:Nat}{o:AO}(hl:(h.del b).le h')(hn:n≠b)(ho:h.objs n=some o):h'.objs n=some o:=hl.1 n o (by rw[AH.del_objs,if_neg hn];exact ho)
theorem evar1_ok {h:AH}{be:Nat}{mv1:AV}(ho:h.objs be=some (.cells [mv1,.nilm] 54))(K:Nat->Prop)(hkb:¬K be)(n:Nm)(t:Ty)(ht:TyB t) :
  ACall T K (.func 17) [.ptr be 0,.str n,.agg (tyR t)] h fun _ h'=>∃m2,h.objs m2=none/\m2≠be/\¬K m2/\h'.objs be=some (.cells [mv1,.map m2] 54)/\h'.objs m2=some (.map (kvC (gvL (putG n t []))))/\(h.del be).le h'/\KOk K h':=by
 refine ACall.retQ t17 fun hK=>?_
 have hc:=tclone_ok t ht
 have hput:=putG_put n t []
 have e0:kvC (gvL [])=[]:=rfl
 rw[e0] at hput
 obtain⟨tk,tn,tl⟩:=t
 simp only[tyR] at hc hput ⊢
 simp only[u_C c17.eq_1,rn,pevA,seval,ho]
 intro m2 hm2 hk2
 have nmb:m2≠be:=by rintro rfl;rw[ho] at hm2;cases hm2
 simp only[rn,pevA,seval,kN,kG,nmb,nmb.symm,ho,hkb]
 simp only[e_dregion d17_0,u_L s17_0.eq_1,u_T g17_0.eq_1,rn,pevA,seval,kN,kG,nmb,nmb.symm,ho,hkb]
 refine hc.use ?_
 simp only[e_dregion d17_0,u_L s17_0.eq_1,u_T g17_0.eq_1,rn,pevA,seval,kN,kG,nmb,nmb.symm,ho,hkb,hk2,hput]
 exact⟨_,_,.refl _ _,(hK.set _ _).set _ _,m2,hm2,nmb,hk2,AH.set_same _ _ _,by rw[AH.set_ne _ _ nmb,AH.set_same],le_set (le_set del_le (by rw[AH.del_objs,if_neg nmb];exact hm2)) (by rw[AH.del_objs,if_pos rfl]),(hK.set _ _).set _ _⟩
theorem evar2_ok {h:AH}{be m2:Nat}{mv1:AV}{L:List (Nm×Ty)}(ho:h.objs be=some (.cells [mv1,.map m2] 54))(hm:h.objs m2=some (.map (kvC (gvL L))))(K:Nat->Prop)(hk2:¬K m2)(n:Nm)(t:Ty)(ht:TyB t) :
  ACall T K (.func 17) [.ptr be 0,.str n,.agg (tyR t)] h fun _ h'=>h'=h.set m2 (.map (kvC (gvL (putG n t L)))):=by
 refine ACall.retQ t17 fun hK=>?_
 have hc:=tclone_ok t ht
 have hput:=putG_put n t L
 obtain⟨tk,tn,tl⟩:=t
 simp only[tyR] at hc hput ⊢
 simp only[u_C c17.eq_1,rn,pevA,seval,ho]
 simp only[e_dregion d17_0,u_L s17_0.eq_1,u_T g17_0.eq_1,rn,pevA,seval,ho,hm]
 refine hc.use ?_
 simp only[e_dregion d17_0,u_L s17_0.eq_1,u_T g17_0.eq_1,rn,pevA,seval,ho,hm,hput,hk2]
 exact⟨_,_,.refl _ _,hK.set _ _,rfl⟩
def tInt:Ty:=.mk 2 [73,110,116] []
def tY:Ty:=.mk 4 [97] [fnT (.mk 1 [97] []) (.mk 1 [97] [])]
def glC:GV:=fun n=>lkG n (putG [121] tY (putG [120] tInt []))
theorem tInt_b:TyB tInt:=⟨by decide,by simp⟩
theorem tY_b:TyB tY:=⟨by decide,fun a ha=>by simp at ha;subst ha;exact⟨by decide,fun b hb=>by simp at hb;subst hb;exact ty_v _⟩⟩
theorem made_ok (K:Nat->Prop)(h:AH):ACall T K (.func 5) [] h fun v h'=>∃be bx,v=.tuple [.ptr be 0,.ptr bx 0]/\EnC h' be glC/\h.le h'/\KOk K h':=by
 refine ACall.retQ t5 fun hK=>?_
 simp only[u_C c5.eq_1,rn,pevA,seval]
 intro be hbe hkb
 simp only[rn,pevA,seval]
 intro bx hbx hkx
 obtain⟨nxe,hbx⟩:=AH.set_none.1 hbx
 simp only[rn,pevA,seval]
 refine basics_ok.use ?_
 rw[basics_eq]
 simp only[rn,pevA,seval]
 have l0:h.le ((h.set be (.cells [.nilm,.nilm] 54)).set bx (.cells [.lst 0 [] .nil,.lst 0 [] .nil] 58)):=le_set (le_set (AH.le_refl _) hbe) hbx
 have oe:((h.set be (.cells [.nilm,.nilm] 54)).set bx (.cells [.lst 0 [] .nil,.lst 0 [] .nil] 58)).objs be=some (.cells [.nilm,.nilm] 54):=by rw[AH.set_ne _ _ nxe.symm,AH.set_same]
 have ox:((h.set be (.cells [.nilm,.nilm] 54)).set bx (.cells [.lst 0 [] .nil,.lst 0 [] .nil] 58)).objs bx=some (.cells [.lst 0 [] .nil,.lst 0 [] .nil] 58):=AH.set_same _ _ _
 generalize (h.set be (.cells [.nilm,.nilm] 54)).set bx (.cells [.lst 0 [] .nil,.lst 0 [] .nil] 58)=g at l0 oe ox ⊢
 refine ACall.kn ((edata_ok g be .nilm rfl rfl oe K hkb bas0 (by decide) bas_b).mono ?_)
 intro _ h1 hC hK1
 have ox1:h1.objs bx=some (.cells [.lst 0 [] .nil,.lst 0 [] .nil] 58):=dk hC.le nxe ox
 have l1:h.le h1:=le_but hbe l0 hC.le
 have hr0:∀sz,RwS sz 0 (.lst 0 [] .nil):=fun sz=>⟨0,[],.nil,rfl,Nat.le_refl _,by simp,rfl⟩
 simp only[rn,pevA,seval]
 refine aloop (α:=Nat) (fun i fr h2=>fr 2=.ptr be 0/\fr 3=.ptr bx 0/\fr 4=.lst 66 (dtsR bas0) .no/\fr 5=.int .i64 i/\i<=3/\XS h1 h2 bx (10*i)/\KOk K h2) (fun i=>3-i) 0 ⟨rfl,rfl,rfl,rfl,Nat.zero_le _,⟨⟨_,_,ox1,hr0 6,hr0 4⟩,del_le⟩,hK1⟩ ?_
 rintro i fr h2 ⟨f2,f3,f4,f5,hi,hX,hK2⟩
 have hl3:(dtsR bas0).length=3:=rfl
 by_cases hlt:i<3
 ·have c1:decide ((i:Int)<((3:Nat):Int))=true:=decide_eq_true (by omega)
  have c1':decide ((i:Int)<(3:Int))=true:=decide_eq_true (by omega)
  have hw:IntKind.i64.wrap ((i:Int)+1)=((i+1:Nat):Int):=by rw[wrap64 ⟨by omega,by omega⟩];rfl
  obtain⟨x,hx⟩ : ∃x,bas0[i]?=some x:=⟨bas0[i]'(by show i<3;exact hlt),by rw[List.getElem?_eq_getElem]⟩
  have hxm:=List.mem_of_getElem? hx
  have hget:(dtsR bas0)[i]?=some (dtR x):=by rw[dtsR_get,hx];rfl
  have hc10:=bas_c x hxm
  have hd:=xdata_ok K hkx hX x (bas_b x hxm) (by omega)
  simp only[dtR] at hget hd
  simp only[u_C l5_0.eq_1,rn,pevA,seval,f2,f3,f4,f5,hl3,c1,c1',hget]
  refine ACall.kn (hd.mono ?_)
  intro _ h4 hX4 hK4
  simp only[rn,pevA,seval,f2,f3,f4,f5,hw]
  obtain⟨a,b,o4,ra,rb⟩:=hX4.o
  exact⟨i+1,by show 3-(i+1)<3-i;omega,f2,f3,f4,rfl,hlt,⟨⟨a,b,o4,ra.mono (by omega),rb.mono (by omega)⟩,hX4.le⟩,hK4⟩
 ·obtain rfl:i=3:=by omega
  have c1:decide (((3:Nat):Int)<((3:Nat):Int))=false:=rfl
  have c1':decide ((3:Int)<((3:Nat):Int))=false:=rfl
  have l2:h.le h2:=le_but hbx l1 hX.le
  have hci:=rcon_ok [73,110,116] 0 [] .nil (by simp[tysR])
  have hva:=rvar_ok [97]
  have hf2:=fun2_ok (.mk 1 [97] []) (.mk 1 [97] [])
  simp only[tyR,tysR] at hci hva hf2
  simp only[u_C l5_0.eq_1,rn,pevA,seval,f2,f3,f4,f5,hl3,c1,c1']
  refine hci.use ?_
  simp only[rn,pevA,seval,f2,f3]
  refine hva.use ?_
  simp only[rn,pevA,seval,f2,f3]
  refine hf2.use ?_
  simp only[rn,pevA,seval,f2,f3]
  obtain⟨mv1,oe2⟩ : ∃mv1,h2.objs be=some (.cells [mv1,.nilm] 54):=by
   rcases hC.o with ho|⟨m1,l1',ho,_⟩
   ·exact⟨_,dk hX.le nxe.symm ho⟩
   ·exact⟨_,dk hX.le nxe.symm ho⟩
  have hv1:=evar1_ok oe2 K hkb [120] tInt tInt_b
  simp only[tInt,tyR,tysR] at hv1
  refine hv1.mono ?_
  rintro _ h3 ⟨m2,hm2,nmb,hkm,oe3,om3,le3,hK3⟩
  have l3:=le_but hbe l2 le3
  obtain⟨xa,xb,ox2,ra,rb⟩:=hX.o
  have ox3:=dk le3 nxe ox2
  have nmx:m2≠bx:=by rintro rfl;rw[ox2] at hm2;cases hm2
  have hxv1:=xvar_ok K hkx (⟨⟨xa,xb,ox3,ra,rb⟩,del_le⟩ : XS h3 h3 bx (10*3)) (by omega) [120] tInt
  simp only[tInt,tyR,tysR] at hxv1
  simp only[rn,pevA,seval,f2,f3]
  refine ACall.kn (hxv1.mono ?_)
  intro _ h4 hX4 hK4
  have l4:=le_but hbx l3 hX4.le
  have oe4:=dk hX4.le nxe.symm oe3
  have om4:=dk hX4.le nmx om3
  have hv2:=evar2_ok oe4 om4 K hkm [121] tY tY_b
  simp only[tY,fnT,tyR,tysR] at hv2
  simp only[rn,pevA,seval,f2,f3]
  refine hv2.mono ?_
  rintro _ _ rfl
  have h2m:=le_none l2 hm2
  have l5:=le_set (o:=.map (kvC (gvL (putG [121] tY (putG [120] tInt []))))) l4 h2m
  obtain⟨xa4,xb4,ox4,ra4,rb4⟩:=hX4.o
  have ox5:(h4.set m2 (.map (kvC (gvL (putG [121] tY (putG [120] tInt [])))))).objs bx=some (.cells [xa4,xb4] 58):=by rw[AH.set_ne _ _ nmx.symm];exact ox4
  have hxv2:=xvar_ok K hkx (⟨⟨xa4,xb4,ox5,ra4,rb4⟩,del_le⟩ : XS (h4.set m2 (.map (kvC (gvL (putG [121] tY (putG [120] tInt [])))))) (h4.set m2 (.map (kvC (gvL (putG [121] tY (putG [120] tInt [])))))) bx (10*3+1)) (by omega) [121] tY
  have oe5:(h4.set m2 (.map (kvC (gvL (putG [121] tY (putG [120] tInt [])))))).objs be=some (.cells [mv1,.map m2] 54):=by rw[AH.set_ne _ _ nmb.symm];exact oe4
  have om5:(h4.set m2 (.map (kvC (gvL (putG [121] tY (putG [120] tInt [])))))).objs m2=some (.map (kvC (gvL (putG [121] tY (putG [120] tInt []))))):=AH.set_same _ _ _
  simp only[tY,fnT,tyR,tysR] at hxv2
  simp only[rn,pevA,seval,f2,f3]
  refine ACall.kn (hxv2.mono ?_)
  intro _ h6 hX6 hK6
  have l6:=le_but hbx l5 hX6.le
  simp only[rn,pevA,seval,f2,f3]
  exact⟨_,h6,.refl _ _,hK6,be,bx,rfl,⟨mv1,_,_,dk hX6.le nxe.symm oe5,by rw[en_m,dk hX6.le nmx om5],fun n=>rfl⟩,l6,hK6⟩
theorem ACall.weakL {K:Nat->Prop}{h:AH}{f:Fn}{args args':List AV}{Q:AV->AH->Prop}(hc:ACall T K f args' h Q)(hw:WkL args args'):ACall T K f args h Q:=hc.weak hw.len hw.get
abbrev noG:GV:=fun _=>none
theorem rep0:RepG .nilm noG []:=⟨.inr ⟨rfl,rfl⟩,by simp,fun _=>rfl⟩
theorem TypeOf_ok {gl:GV}{t:Tm}{ty:Ty}(ht:HasT gl noG t ty)(hb:TyB ty){h:AH}{be:Nat}(he:EnC h be gl)(K:Nat->Prop):ACall T K (.func 9) [.ptr be 0,.agg (tmR t)] h fun v h'=>v=.tuple [.agg (tyR ty),.nili]/\h'=h:=by
 refine ACall.ret t9 fun hK=>?_
 have htl:=tyR_len ty
 have htn:=tyR_ne ty
 have hto:=tyR_one ty
 have htt:=tyR_take ty
 have htd:=tyR_drop ty
 simp only[u_C c9.eq_1,rn,pevA,seval,tmR_len,tmR_ne,tmR_one,tmR_take]
 intro b4 hb4 hk4
 simp only[rn,pevA,seval,tmR_len,tmR_ne,tmR_one,tmR_take]
 refine (typeOf_ok gl ht .nilm [] rep0 be _ (he.set hb4) K).mono ?_
 rintro _ _ ⟨rfl,rfl⟩
 simp only[rn,pevA,seval,htl,htn,hto,htt,htd]
 refine (tclone_ok ty hb).use ?_
 simp only[rn,pevA,seval,htl,htn,hto,htt,htd,kN,kG,hk4]
 exact⟨.refl _,le_del (AH.le_refl _) hb4⟩
theorem Binds_ok {gl:GV}{bs:List Tb}(hl:bs.length<=1000)(hn:(bs.map (·.1)).Nodup)(ht:∀p∈bs,TyN p.2.1)(hb:∀p∈bs,HasT gl (extG noG (sigs bs)) p.2.2 p.2.1){h:AH}{be:Nat}(he:EnC h be gl)(K:Nat->Prop) :
  ACall T K (.func 10) [.ptr be 0,.lst 43 (tbsR bs) .no] h fun v h'=>v=.nili/\h'=h:=by
 refine ACall.ret t10 fun hK=>?_
 simp only[u_C c10.eq_1,rn,pevA,seval]
 refine (binds_ok hl hn ht (fun p hp=>typeOf_ok gl (hb p hp)) rep0 he K).mono ?_
 rintro _ _ ⟨l',rfl,hr',rfl⟩
 simp only[rn,pevA,seval]
 exact⟨.refl _,AH.le_refl _⟩
theorem variable_none {gl:GV}(n:Nm)(hg:gl n=none){h:AH}{be:Nat}(he:EnC h be gl){g:AV}{Eg:TypeId}(h0:h.objs 0=some (.stat [g] Eg))(K:Nat->Prop) :
  ACall T K (.func 31) [.agg [.ptr be 0,.nilm],.str n] h fun v h'=>v=.tuple [.agg (tyR (.mk 0 [] [])),g]/\h'=h:=by
 refine ACall.ret t31 fun hK=>?_
 simp only[u_C c31.eq_1,rn,pevA,seval]
 intro b4 hb4 hk4
 obtain⟨mv1,mv2,L,ho,hm,hgl⟩:=(he.set (o:=.cells [.int .i64 0,.str [],.lst 0 [] .nil] 30) hb4).r
 have hg2:=hgl n
 have h04:=set_keep (o:=.cells [.int .i64 0,.str [],.lst 0 [] .nil] 30) hb4 _ _ h0
 simp only[rn,pevA,seval,ho,hm,kv_look,lkG_look,hg2,hg,Option.map_none]
 simp only[e_dregion d31_0,u_L s31_0.eq_1,u_T g31_0.eq_1,rn,pevA,seval,h04,kN,kG,hk4,tyR,tysR]
 have hnk:¬KU K [0] b4:=by
  intro hh
  rcases hh with hh|hh
  ·exact hk4 hh
  ·simp at hh
   subst hh
   rw[h0] at hb4
   cases hb4
 exact⟨hnk,.tupL ⟨.aggL ⟨.refl _,.refl _,.nil _ _ _,trivial⟩,.refl _,trivial⟩,le_del (AH.le_refl _) hb4⟩
theorem TypeOf_none {gl:GV}(nm:Nm)(n:Int)(ty:Ty)(l:List Tm)(a:List Ta)(b:List Tb)(hg:gl nm=none){h:AH}{be:Nat}(he:EnC h be gl){g:AV}(hg1:∃t v,g=.iface t v){Eg:TypeId}(h0:h.objs 0=some (.stat [g] Eg))(K:Nat->Prop) :
  ACall T K (.func 9) [.ptr be 0,.agg (tmR (.mk 1 nm n ty l a b))] h fun v h'=>v=.tuple [.agg (tyR (.mk 0 [] [])),g]/\h'=h:=by
 have hto:∀(h:AH)(he:EnC h be gl)(h0:h.objs 0=some (.stat [g] Eg)),ACall T K (.func 20) [.agg [.ptr be 0,.nilm],.agg (tmR (.mk 1 nm n ty l a b))] h fun v h'=>v=.tuple [.agg (tyR (.mk 0 [] [])),g]/\h'=h:=by
  intro h he h0
  refine ACall.ret t20 fun hK=>?_
  obtain⟨tk,tn,tys⟩:=ty
  simp only[u_C c20.eq_1,tmR,tyR,List.cons_append,List.nil_append,rn,pevA,seval]
  intro b4 hb4 hk4
  have e1:decide ((1:Int)=1)=true:=rfl
  have hv:=variable_none nm hg (he.set hb4) (set_keep (o:=.cells [.int .i64 0,.str [],.lst 0 [] .nil] 30) hb4 _ _ h0) K
  simp only[tyR,tysR] at hv
  simp only[rn,pevA,seval,e1]
  refine hv.mono ?_
  rintro _ _ ⟨rfl,rfl⟩
  simp only[rn,pevA,seval,kN,kG,hk4,tysR]
  exact⟨.refl _,le_del (AH.le_refl _) hb4⟩
 obtain⟨gt,gv,rfl⟩:=hg1
 refine ACall.ret t9 fun hK=>?_
 simp only[u_C c9.eq_1,rn,pevA,seval,tmR_len,tmR_ne,tmR_one,tmR_take]
 intro b4 hb4 hk4
 simp only[rn,pevA,seval,tmR_len,tmR_ne,tmR_one,tmR_take]
 have h1:=hto _ (he.set (o:=.cells [.int .i64 0,.str [],.lst 0 [] .nil] 30) hb4) (set_keep hb4 _ _ h0)
 simp only[tyR,tysR] at h1
 refine h1.mono ?_
 rintro _ _ ⟨rfl,rfl⟩
 simp only[rn,pevA,seval,kN,kG,hk4,tyR,tysR]
 exact⟨.tupL ⟨.aggL ⟨.refl _,.refl _,.nil _ _ _,trivial⟩,.refl _,trivial⟩,le_del (AH.le_refl _) hb4⟩
theorem sameTypes0:Pure T 23 [.lst 30 [] .no,.lst 30 [] .no] (.bool true):=by
 intro K h
 refine ACall.ret t23 fun hK=>?_
 have c1:decide (((0:Nat):Int)<((0:Nat):Int))=false:=rfl
 have d0:decide (((0:Nat):Int)=((0:Nat):Int))=true:=rfl
 simp only[u_C c23.eq_1,rn,pevA,seval,d0]
 refine aloop (α:=Unit) (fun _ fr h1=>fr 0=.lst 30 [] .no/\fr 5=.int .i64 (0:Nat)/\h1=h) (fun _=>0) () ⟨rfl,rfl,rfl⟩ ?_
 rintro _ fr h1 ⟨f0,f5,rfl⟩
 simp only[u_C l23_1.eq_1,rn,pevA,seval,f0,f5,c1]
 exact⟨.refl _,AH.le_refl _⟩
theorem sameInt:Pure T 11 [.agg (tyR tInt),.agg (tyR tInt)] (.bool true):=by
 intro K h
 refine ACall.ret t11 fun hK=>?_
 simp only[u_C c11.eq_1,tInt,tyR,tysR,rn,pevA,seval]
 refine sameTypes0.use ?_
 simp only[rn,pevA,seval]
 exact⟨.refl _,AH.le_refl _⟩
theorem cfirst_ok (K:Nat->Prop)(h:AH):ACall T K (.func 4) [] h fun v h'=>v=.bool true/\h'=h:=by
 refine ACall.ret t4 fun hK=>?_
 simp only[u_C c4.eq_1,rn,pevA,seval]
 refine (made_ok K h).mono ?_
 rintro _ h1 ⟨be,bx,rfl,he,hle,hK1⟩
 have ht:=TypeOf_ok (t:=.mk 3 [] 0 (.mk 0 [] []) [] [] []) (ty:=tInt) .int tInt_b he K
 simp only[tmR,tyR,tysR,tmsR,tasR,tbsR,List.cons_append,List.nil_append,tInt] at ht
 simp only[rn,pevA,seval]
 refine ACall.weakL (ht.mono ?_) ⟨.refl _,.aggL ⟨.refl _,.refl _,.refl _,.refl _,.refl _,.nil _ _ _,.nil _ _ _,.nil _ _ _,.nil _ _ _,trivial⟩,trivial⟩
 rintro _ _ ⟨rfl,rfl⟩
 simp only[rn,pevA,seval]
 exact⟨.refl _,hle⟩
abbrev nil0:AV:=.lst 0 [] .nil
abbrev z0:Ty:=.mk 0 [] []
def vT (n:Nm):Tm:=.mk 1 n 0 z0 [] [] []
abbrev vN (n:Nm):List AV:=[.int .i64 1,.str n,.int .i64 0,.int .i64 0,.str [],nil0,nil0,nil0,nil0]
theorem wv (n:Nm):WkL (vN n) (tmR (vT n)):=⟨.refl _,.refl _,.refl _,.refl _,.refl _,.nil _ _ _,.nil _ _ _,.nil _ _ _,.nil _ _ _,trivial⟩
def apT:Tm:=.mk 5 [] 0 z0 [vT [113],vT [120]] [] []
abbrev apN:List AV:=[.int .i64 5,.str [],.int .i64 0,.int .i64 0,.str [],nil0,.lst 40 [vN [113],vN [120]] .no,nil0,nil0]
theorem wap:WkL apN (tmR apT):=⟨.refl _,.refl _,.refl _,.refl _,.refl _,.nil _ _ _,.lstL ⟨wv _,wv _,trivial⟩,.nil _ _ _,.nil _ _ _,trivial⟩
def laT (t:Ty):Tm:=.mk 6 [120] 0 t [apT] [] []
abbrev aN (tk:Int)(tn:Nm)(tl:List Ty):List AV:=[.str [112],.int .i64 3,.str [],.lst 30 [[.int .i64 tk,.str tn,.lst 30 (tysR tl) .no],[.int .i64 2,.str [73,110,116],.lst 30 [] .no]] .no,.int .i64 6,.str [120],.int .i64 0,.int .i64 tk,.str tn,.lst 30 (tysR tl) .no,.lst 40 [apN] .no,nil0,nil0]
abbrev bN (tk:Int)(tn:Nm)(tl:List Ty):List AV:=[.str [113],.int .i64 3,.str [],.lst 30 [[.int .i64 tk,.str tn,.lst 30 (tysR tl) .no],[.int .i64 2,.str [73,110,116],.lst 30 [] .no]] .no,.int .i64 1,.str [112],.int .i64 0,.int .i64 0,.str [],nil0,nil0,nil0,nil0]
def aT (t:Ty):Tb:=([112],fnT t tInt,laT t)
def bT (t:Ty):Tb:=([113],fnT t tInt,vT [112])
theorem wa (tk:Int)(tn:Nm)(tl:List Ty):WkL (aN tk tn tl) (tbR (aT (.mk tk tn tl))):=⟨.refl _,.refl _,.refl _,.refl _,.refl _,.refl _,.refl _,.refl _,.refl _,.refl _,.lstL ⟨wap,trivial⟩,.nil _ _ _,.nil _ _ _,trivial⟩
theorem wb (tk:Int)(tn:Nm)(tl:List Ty):WkL (bN tk tn tl) (tbR (bT (.mk tk tn tl))):=⟨.refl _,.refl _,.refl _,.refl _,.refl _,.refl _,.refl _,.refl _,.refl _,.nil _ _ _,.nil _ _ _,.nil _ _ _,.nil _ _ _,trivial⟩
def two (t:Ty)(turn:Bool):List Tb:=if turn then [bT t,aT t] else [aT t,bT t]
def twoN (tk:Int)(tn:Nm)(tl:List Ty)(turn:Bool):List (List AV):=if turn then [bN tk tn tl,aN tk tn tl] else [aN tk tn tl,bN tk tn tl]
theorem wtwo (tk:Int)(tn:Nm)(tl:List Ty):∀turn,Wk (.lst 43 (twoN tk tn tl turn) .no) (.lst 43 (tbsR (two (.mk tk tn tl) turn)) .no)
 |true=>.lstL ⟨wb _ _ _,wa _ _ _,trivial⟩
 |false=>.lstL ⟨wa _ _ _,wb _ _ _,trivial⟩
def leT (t:Ty)(turn:Bool)(n:Nm):Tm:=.mk 9 [] 0 z0 [vT n] [] (two t turn)
abbrev leN (tk:Int)(tn:Nm)(tl:List Ty)(turn:Bool)(n:Nm):List AV:=[.int .i64 9,.str [],.int .i64 0,.int .i64 0,.str [],nil0,.lst 40 [vN n] .no,nil0,.lst 43 (twoN tk tn tl turn) .no]
theorem wle (tk:Int)(tn:Nm)(tl:List Ty)(turn:Bool)(n:Nm):WkL (leN tk tn tl turn n) (tmR (leT (.mk tk tn tl) turn n)):=⟨.refl _,.refl _,.refl _,.refl _,.refl _,.nil _ _ _,.lstL ⟨wv _,trivial⟩,.nil _ _ _,wtwo _ _ _ _,trivial⟩
theorem sig_p (t:Ty):∀turn,extG noG (sigs (two t turn)) [112]=some (fnT t tInt)
 |true=>rfl
 |false=>rfl
theorem sig_q (t:Ty):∀turn,extG noG (sigs (two t turn)) [113]=some (fnT t tInt)
 |true=>rfl
 |false=>rfl
theorem sig_x (t:Ty):∀turn,extG noG (sigs (two t turn)) [120]=none
 |true=>rfl
 |false=>rfl
theorem tInt_n:TyN tInt:=⟨by decide,by simp,by simp⟩
theorem fn_n {t:Ty}(h:TyN t):TyN (fnT t tInt):=⟨by decide,by simp,fun a ha=>by
 simp at ha
 rcases ha with rfl|rfl
 ·exact h
 ·exact tInt_n⟩
theorem two_len (t:Ty):∀turn,(two t turn).length<=1000
 |true=>by show 2<=1000;omega
 |false=>by show 2<=1000;omega
theorem two_nd (t:Ty):∀turn,((two t turn).map (·.1)).Nodup
 |true=>by show[[113],[112]].Nodup;decide
 |false=>by show[[112],[113]].Nodup;decide
theorem two_mem (t:Ty)(p:Tb):∀turn,p∈two t turn->p=aT t\/p=bT t
 |true,h=>by simp[two] at h;exact h.symm
 |false,h=>by simp[two] at h;exact h
theorem two_n {t:Ty}(h:TyN t)(turn:Bool):∀p∈two t turn,TyN p.2.1:=fun p hp=>by
 rcases two_mem t p turn hp with rfl|rfl<;>exact fn_n h
theorem two_t {t:Ty}(h:TyN t)(turn:Bool):∀p∈two t turn,HasT glC (extG noG (sigs (two t turn))) p.2.2 p.2.1:=fun p hp=>by
 rcases two_mem t p turn hp with rfl|rfl
 ·refine .lam ?_
  exact .app (s:=t) (fn:=[]) (.var (.inl (sig_q t turn))) (.var (.inl rfl)) h
 ·exact .var (.inl (sig_p t turn))
theorem le_x {t:Ty}(h:TyN t)(turn:Bool):HasT glC noG (leT t turn [120]) tInt:=.lets (two_len t turn) (two_nd t turn) (two_n h turn) (two_t h turn) (.var (.inr ⟨sig_x t turn,rfl⟩))
theorem le_p {t:Ty}(h:TyN t)(turn:Bool):HasT glC noG (leT t turn [112]) (fnT t tInt):=.lets (two_len t turn) (two_nd t turn) (two_n h turn) (two_t h turn) (.var (.inl (sig_p t turn)))
theorem cmain_ok (E:TypeId)(l:List Int)(hl:l.length<=60)(turn:Bool){h:AH}{g:AV}(hg1:∃t v,g=.iface t v){Eg:TypeId}(h0:h.objs 0=some (.stat [g] Eg))(K:Nat->Prop) :
  ACall T K (.func 3) [.lst E (l.map fun n=>[.int .i64 n]) .no,.bool turn] h fun v h'=>v=.bool true/\h'=h:=by
 refine ACall.ret t3 fun hK=>?_
 have c1:decide ((60:Int)<(l.length:Int))=false:=decide_eq_false (by omega)
 have c2:decide (((60:Nat):Int)<(l.length:Int))=false:=decide_eq_false (by omega)
 simp only[u_C c3.eq_1,rn,pevA,seval]
 refine (cfirst_ok K h).mono ?_
 rintro _ h' ⟨rfl,rfl⟩
 simp only[rn,pevA,seval,c1,c2,List.length_map]
 refine (made_ok K h').mono ?_
 rintro _ h1 ⟨be,bx,rfl,he,hle,hK1⟩
 simp only[rn,pevA,seval]
 intro bs hbs hks
 simp only[rn,pevA,seval]
 refine (type_ok E l bs 2 (by omega) 0 (by omega) (by decide) K _ (AH.set_same _ _ _) hks).mono ?_
 rintro _ _ ⟨t,p',rfl,ht,_,_,rfl⟩
 simp only[rn,pevA,seval,tyR_len,tyR_ne,tyR_one,tyR_take,tyR_drop]
 obtain⟨tk,tn,tl⟩:=t
 have hci:=rcon_ok [73,110,116] 0 [] .nil (by simp[tysR])
 have hf2:=fun2_ok (.mk tk tn tl) tInt
 simp only[tyR,tysR,tInt] at hci hf2
 refine hci.use ?_
 simp only[rn,pevA,seval,tyR,tysR]
 simp only[e_dregion d3_0,u_L s3_0.eq_1,u_T g3_0.eq_1,rn,pevA,seval,tyR,tysR]
 intro ba hba hka
 simp only[e_dregion d3_0,u_L s3_0.eq_1,u_T g3_0.eq_1,rn,pevA,seval,tyR,tysR]
 refine hf2.use ?_
 simp only[e_dregion d3_0,u_L s3_0.eq_1,u_T g3_0.eq_1,rn,pevA,seval,tyR,tysR,hka,s_del hba]
 simp only[e_dregion d3_1,u_L s3_1.eq_1,u_T g3_1.eq_1,rn,pevA,seval,tyR,tysR]
 intro bb hbb hkb
 simp only[e_dregion d3_1,u_L s3_1.eq_1,u_T g3_1.eq_1,rn,pevA,seval,tyR,tysR]
 refine hf2.use ?_
 simp only[e_dregion d3_1,u_L s3_1.eq_1,u_T g3_1.eq_1,rn,pevA,seval,tyR,tysR,hkb,s_del hbb]
 have hn:TyN (.mk tk tn tl):=GT.ok _ ht
 have heC:EnC (h1.set bs (seqO E l p')) be glC:=he.set hbs
 have h0C:(h1.set bs (seqO E l p')).objs 0=some (.stat [g] Eg):=set_keep hbs _ _ (hle.1 _ _ h0)
 have hleC:h'.le (h1.set bs (seqO E l p')):=le_set hle (le_none hle hbs)
 generalize h1.set bs (seqO E l p')=H at heC h0C hleC ⊢
 have hsm:=tSame_ok (fnT (.mk tk tn tl) tInt) (fn_n hn)
 have hsi:=sameInt
 simp only[tyR,tysR,tInt,fnT] at hsm hsi
 obtain⟨gt,gv,rfl⟩:=hg1
 cases turn
 ·simp only[rn,pevA,seval]
  refine ACall.weakL ((TypeOf_ok (le_x hn false) tInt_b heC K).mono ?_) ⟨.refl _,.aggL (wle tk tn tl false [120]),trivial⟩
  rintro _ _ ⟨rfl,rfl⟩
  simp only[rn,pevA,seval,tInt,fnT,tyR,tysR]
  refine ACall.weakL ((TypeOf_ok (le_p hn false) (TyN.b _ (fn_n hn)) heC K).mono ?_) ⟨.refl _,.aggL (wle tk tn tl false [112]),trivial⟩
  rintro _ _ ⟨rfl,rfl⟩
  simp only[rn,pevA,seval,tInt,fnT,tyR,tysR]
  refine ACall.weakL ((Binds_ok (two_len (.mk tk tn tl) false) (two_nd _ false) (two_n hn false) (two_t hn false) heC K).mono ?_) ⟨.refl _,wtwo tk tn tl false,trivial⟩
  rintro _ _ ⟨rfl,rfl⟩
  simp only[rn,pevA,seval]
  refine ACall.weakL ((TypeOf_none [112] 0 z0 [] [] [] rfl heC ⟨gt,gv,rfl⟩ h0C K).mono ?_) ⟨.refl _,.aggL (wv [112]),trivial⟩
  rintro _ _ ⟨rfl,rfl⟩
  simp only[rn,pevA,seval,tyR,tysR]
  simp only[e_dregion d3_2,u_L s3_2.eq_1,u_T g3_2.eq_1,rn,pevA,seval,tyR,tysR]
  refine hsi.use ?_
  simp only[e_dregion d3_2,u_L s3_2.eq_1,u_T g3_2.eq_1,rn,pevA,seval,tyR,tysR]
  refine hf2.use ?_
  simp only[e_dregion d3_2,u_L s3_2.eq_1,u_T g3_2.eq_1,rn,pevA,seval,tyR,tysR]
  refine hsm.use ?_
  simp only[e_dregion d3_2,u_L s3_2.eq_1,u_T g3_2.eq_1,rn,pevA,seval,tyR,tysR]
  exact⟨.refl _,hleC⟩
 ·simp only[rn,pevA,seval]
  refine ACall.weakL ((TypeOf_ok (le_x hn true) tInt_b heC K).mono ?_) ⟨.refl _,.aggL (wle tk tn tl true [120]),trivial⟩
  rintro _ _ ⟨rfl,rfl⟩
  simp only[rn,pevA,seval,tInt,fnT,tyR,tysR]
  refine ACall.weakL ((TypeOf_ok (le_p hn true) (TyN.b _ (fn_n hn)) heC K).mono ?_) ⟨.refl _,.aggL (wle tk tn tl true [112]),trivial⟩
  rintro _ _ ⟨rfl,rfl⟩
  simp only[rn,pevA,seval,tInt,fnT,tyR,tysR]
  refine ACall.weakL ((Binds_ok (two_len (.mk tk tn tl) true) (two_nd _ true) (two_n hn true) (two_t hn true) heC K).mono ?_) ⟨.refl _,wtwo tk tn tl true,trivial⟩
  rintro _ _ ⟨rfl,rfl⟩
  simp only[rn,pevA,seval]
  refine ACall.weakL ((TypeOf_none [112] 0 z0 [] [] [] rfl heC ⟨gt,gv,rfl⟩ h0C K).mono ?_) ⟨.refl _,.aggL (wv [112]),trivial⟩
  rintro _ _ ⟨rfl,rfl⟩
  simp only[rn,pevA,seval,tyR,tysR]
  simp only[e_dregion d3_2,u_L s3_2.eq_1,u_T g3_2.eq_1,rn,pevA,seval,tyR,tysR]
  refine hsi.use ?_
  simp only[e_dregion d3_2,u_L s3_2.eq_1,u_T g3_2.eq_1,rn,pevA,seval,tyR,tysR]
  refine hf2.use ?_
  simp only[e_dregion d3_2,u_L s3_2.eq_1,u_T g3_2.eq_1,rn,pevA,seval,tyR,tysR]
  refine hsm.use ?_
  simp only[e_dregion d3_2,u_L s3_2.eq_1,u_T g3_2.eq_1,rn,pevA,seval,tyR,tysR]
  exact⟨.refl _,hleC⟩
theorem cmain_long (b o n c:Nat)(hn:60<n)(turn:Bool)(K:Nat->Prop)(h:AH) :
  ACall T K (.func 3) [.slice b o n c,.bool turn] h fun v h'=>v=.bool true/\h'=h:=by
 refine ACall.ret t3 fun hK=>?_
 have c1:decide ((60:Int)<(n:Int))=true:=decide_eq_true (by omega)
 have c2:decide (((60:Nat):Int)<(n:Int))=true:=decide_eq_true (by omega)
 simp only[u_C c3.eq_1,rn,pevA,seval]
 refine (cfirst_ok K h).mono ?_
 rintro _ h' ⟨rfl,rfl⟩
 simp only[rn,pevA,seval,c1,c2]
 exact⟨.refl _,AH.le_refl _⟩
end Go.Proofs.YtinbjdkibmkgbaaGreatDoor.p
namespace Go.Proofs.YtinbjdkibmkgbaaGreatDoor.checkLets
open Go.ChangeShapes Go.WideShapes Go.ChangeAt Go.RowKit Go.Cn Go.Cn.Dr
set_option linter.unusedVariables false
set_option linter.unusedSimpArgs false
def gsN : List SenN := [("paideia/api.ErrScope", 0, [97, 32, 110, 97, 109, 101, 32, 116, 104, 97, 116, 32, 105, 115, 32, 110, 111, 98, 111, 100, 121, 39, 115]), ("paideia/api.ErrTwice", 1, [97, 32, 110, 97, 109, 101, 32, 116, 119, 105, 99, 101]), ("paideia/api.ErrType", 2, [116, 121, 112, 101, 115, 32, 116, 104, 97, 116, 32, 97, 114, 101, 32, 110, 111, 116, 32, 111, 110, 101])]
def gs:List Sen:=[(0,[97,32,110,97,109,101,32,116,104,97,116,32,105,115,32,110,111,98,111,100,121,39,115]),(1,[97,32,110,97,109,101,32,116,119,105,99,101]),(2,[116,121,112,101,115,32,116,104,97,116,32,97,114,101,32,110,111,116,32,111,110,101])]
theorem known (E:Nat->TypeId):(gA 6 207 gs E).objs 0=some (.stat [.iface 207 (.ptr 6 0)] (E 0)):=rfl
theorem ok1:ProgOk Tryz.prog:=progOk_of (by kernel_rfl) (by kernel_rfl)
theorem own:ownKnob Tryz.prog.godebug=none:=by kernel_rfl
theorem gsize:Tryz.prog.globals.size=6:=by kernel_rfl
theorem und45:∃ms,Tryz.prog.underlying 45=some (.interface ms):=⟨_,Tryz.underlying45⟩
theorem star : "*" ++ "errors.errorString" = "*errors.errorString" := by decide
theorem rowTp (u : TypeId) (h : Tryz.prog.typeName? 3 u = some "*errors.errorString") : u = 207 :=
 typeName_ptr_named (nm := "errors.errorString") (by rw [star]; kernel_rfl) (by kernel_rfl) (by decide) u (by rw [star]; exact h)
theorem noByte:noU8 Tryz.prog 224=true:=by kernel_rfl
theorem named:okN Tryz.prog 45 gsN=true:=by kernel_rfl
theorem typed:okS Tryz.prog gsN=true:=by kernel_rfl
theorem apart:okD' gsN=true:=by kernel_rfl
theorem cellsTe:Tryz.prog.cellsOf 224=1:=by kernel_rfl
theorem cellsTs:Tryz.prog.cellsOf 9=1:=by kernel_rfl
theorem cellsTi:Tryz.prog.cellsOf 3=1:=by kernel_rfl
theorem door (W:World)(hopen:W.ShapedOpen Tryz.prog)(hL:laidMet Tryz.prog Rows.checkLetsRow.laid W):∃E A N,DoorW Tryz.prog W 6 207 gs E A N:=by
 obtain⟨ms,hms⟩:=und45
 exact doorW_of (l := gsN) (nm := "*errors.errorString") gsize hms rowTp Tryz.underlying207 Tryz.underlying224 rfl rfl Tryz.underlying9 cellsTe cellsTs noByte named typed apart hopen hL.tail.tail.tail
set_option maxRecDepth 100000 in
theorem contract (H:Type)(enc:TypeId×Value->H)(W:World)(base:Nat)(args:Array Value)(ds gs':List (DataW H))(before:List MemPlace)(hopen:W.ShapedOpen Tryz.prog)(hL:laidMet Tryz.prog Rows.checkLetsRow.laid W)
  (hval:∀(j:Nat) t v,Tryz.f3.params[j]?=some t->args[j]?=some v->Value.okWide Tryz.prog W .any base t v)
  (hW:DataW.Whole enc Tryz.prog Tryz.f3.params.toList Rows.checkLetsSpec.vars false W args.toList ds gs' before) :
  Calls Tryz.prog 3 args W fun e W'=>∃v,e=.returned v/\Rows.checkLetsSpec.post enc Tryz.prog Tryz.f3 false true false false W args v W':=by
 obtain⟨Ed,Ad,Nd,hdoor⟩:=door W hopen hL
 have hW':=hW
 obtain⟨p',q,hA0,hV,rfl,hfz,hnd⟩:=hW
 have hA:DataW.TrodAll enc Tryz.prog W 0 (fun _=>true) true Tryz.f3.params.toList args.toList ds p':=hA0
 rw[Tryz.params3] at hA hval
 obtain⟨v0,vs0,d0,ds0,p0,q0,hargs,rfl,rfl,h0,r0⟩:=trodAll_cons hA
 obtain⟨v1,vs1,d1,ds1,p1,q1,rfl,rfl,rfl,h1,r1⟩:=trodAll_cons r0
 obtain⟨rfl,rfl,rfl⟩:=trodAll_nil r1
 obtain rfl:args= #[v0,v1]:=by cases args;simp_all
 obtain⟨rfl,rfl⟩:=trodVars_none hV
 obtain⟨ring,rfl,rfl,rfl⟩:=open_bool Tryz.underlying4 (hval 1 4 v1 rfl rfl) h1
 obtain⟨a0,len,cap,rfl⟩:=okWide_slice Tryz.underlying22 (hval 0 22 v0 rfl rfl)
 obtain⟨fuel,hf⟩:=h0
 clear hA0
 simp only[List.append_nil] at hW'
 rcases open_ints Tryz.underlying22 Tryz.underlying3 cellsTi hf with⟨hcs,hx⟩|⟨a,len',cap',zs,hcs,_,hl,hm,hz,hx,hcell,hwz⟩
 ·simp[Value.cells] at hcs
  obtain⟨rfl,rfl,rfl⟩:=hcs
  simp only[Prod.mk.injEq] at hx
  obtain⟨rfl,rfl⟩:=hx
  refine (runG_nil hdoor ok1 (tab_ok Tryz.prog) (x:=.bool ring) (xv:=.bool ring) (fun F σ=>.bool ring) (fun β=>.bool ring) ((p.cmain_ok 0 [] (by decide) ring ⟨_,_,rfl⟩ (known Ed) _).mono fun v h' hv=>hv.1)).mono fun e W' ⟨he,hg⟩=>?_
  subst he
  exact⟨_,rfl,post_of_kept (pa:=[]) (pv:=[]) hW' (fun _ _ _=>(trodAll_cons_mk (shut_bool Tryz.underlying4 _) trodAll_mk0)) (fun sp _=>(trodAll_cons_mk (shut_slice_nil Tryz.underlying22) (trodAll_cons_mk (shut_bool Tryz.underlying4 _) trodAll_mk0))) (fun _ _=>rfl) (by simp)
   hg (ok_one (by kernel_rfl) rfl (okWide_bool_mk Tryz.underlying4 _))⟩
 ·simp[Value.cells] at hcs
  obtain⟨rfl,rfl,rfl⟩:=hcs
  simp only[Prod.mk.injEq] at hx
  obtain⟨rfl,rfl⟩:=hx
  simp only[if_true] at hz
  refine (runG_ints hdoor ok1 (tab_ok Tryz.prog) (k:=.i64) (M:=60) (by decide) (x:=.bool ring) (xv:=.bool ring) (fun F σ=>.bool ring) (fun β=>.bool ring) (fun E' zs hz=>(p.cmain_ok E' zs hz ring ⟨_,_,rfl⟩ (known Ed) _).mono fun v h' hv=>hv.1) (fun b o n c h=>(p.cmain_long b o n c h ring _ _).mono fun v h' hv=>hv.1) hl hz hcell).mono fun e W' ⟨he,hg⟩=>?_
  subst he
  refine⟨_,rfl,post_of_kept (pa:=MemPlace.row a zs.length) (pv:=[]) hW' (fun _ _ _=>(trodAll_cons_mk (shut_bool Tryz.underlying4 _) trodAll_mk0)) (fun sp hsp=>?_) (fun _ _=>rfl) (by simp)
   hg (ok_one (by kernel_rfl) rfl (okWide_bool_mk Tryz.underlying4 _))⟩
  have hz':zs.length=(if sp a.block then cap else len):=by
   by_cases h0:zs.length=0
   ·rw[h0] at hz;split<;>omega
   ·have hmem:MemPlace.cell a.block a.off∈MemPlace.row a zs.length:=MemPlace.mem_row.2 ⟨0,by omega,by simp⟩
    have:sp (MemPlace.cell a.block a.off).block=true:=hsp (MemPlace.cell a.block a.off) (by simpa using hmem)
    have:sp a.block=true:=this
    rw[this];simpa using hz
  have t0:=shut_ints (enc:=enc) (w:=W') (base:=0) (spare:=sp) (held:=true) 0 Tryz.underlying22 Tryz.underlying3 cellsTi (Nat.zero_le _) hl hm hz' (fun i hi=>hg.cell (hcell i hi)) hwz
  have t1:=trodAll_cons_mk (⟨2,by simpa[Value.cells] using t0⟩ : DataW.Trod enc Tryz.prog W' 0 sp true 22 (.slice (some a) len cap) _ _) (trodAll_cons_mk (shut_bool Tryz.underlying4 ring) trodAll_mk0)
  simp only[List.append_nil] at t1
  exact t1
set_option maxRecDepth 100000 in
theorem lifted (os:Os)(started:os.Started)(H:Type)(enc:TypeId×Value->H) :
  ReturnsInHanded {} Tryz.checked os 3 .any (fun w args=>(Rows.checkLetsSpec.pre enc Tryz.prog Tryz.f3 Rows.checkLetsRow.domain false w args/\laidMetH Tryz.prog Rows.checkLetsRow.laid w)/\sizedMet enc Tryz.prog Tryz.f3 (OpenSpec.ofChange Rows.checkLetsSpec) false w args)
   (Rows.checkLetsSpec.post enc Tryz.prog Tryz.f3 false true false false):=by
 refine returnsInHanded_of_door (C:=Tryz.checked) (X:=fun w _=>laidMetH Tryz.prog Rows.checkLetsRow.laid w) (fun _ _ _ hh h=>h.of_heap hh) own started (by kernel_rfl) Tryz.func3
  (ChangeSpec.witness_shaped (enc:=enc) (C:=Tryz.checked) (os:=os) (X:=fun w _=>laidMetH Tryz.prog Rows.checkLetsRow.laid w) false (World.laidAll Tryz.prog os Rows.checkLetsRow.laid) #[.slice none 0 0,.bool false] 8 (World.laidAll_os _ _ _)
   (World.shaped_of_ZipB (by kernel_rfl) (by kernel_rfl)) (by kernel_rfl) (by kernel_rfl) (by kernel_rfl)
   (by rw[laidH_plain (by kernel_rfl)];exact laidMet_laidAll _ (by kernel_rfl) (by kernel_rfl))) ?_
 intro W base args ds gs' before hopen hval hW hL0
 have hL:laidMet Tryz.prog Rows.checkLetsRow.laid W:=by rw[<-laidH_plain (by kernel_rfl)];exact hL0
 exact contract H enc W base args ds gs' before hopen hL hval hW
theorem row:Rows.CheckLetsSaid:=
 OpenClaim.holds_of_wide 3 Tryz.f3 rfl rfl rfl rfl rfl rfl rfl ⟨rfl,rfl,rfl,rfl,rfl⟩ rfl rfl rfl rfl rfl (by kernel_rfl) Tryz.func3 (by kernel_rfl)
  (of_decide_eq_true (by kernel_rfl)) (by unfold Func.isWrapper;first|(rw[if_pos (by decide +kernel)];kernel_rfl)|(rw[if_neg (by decide +kernel)];exact⟨rfl,rfl⟩))
  (fun os started H enc _=>lifted os started H enc)
theorem proved:Rows.CheckLetsCardSaid:=
 Claim7.holds_tied_plain_at .later [] [.data, .data, .data, .sentinel, .sentinel, .sentinel] true (true, "4d66cb3ee4341ab78239d4954191e6815f72d00bd84f1bdfe7449e1de77976d9") false
  row (fun _ h=>by cases h) (by kernel_rfl) (fun _ h=>by cases h) checkLets_row_tie rfl ⟨rfl,rfl⟩ (by kernel_rfl) rfl
  (fun f fn hf hfn=>by
   obtain rfl : f = 3 := Option.some.inj ((show Tryz.prog.funcNamed "paideia/paideialaw18.CheckLets" = some 3 by kernel_rfl).symm.trans hf) |>.symm
   obtain rfl:fn=Tryz.f3:=(Option.some.inj (Tryz.func3.symm.trans hfn)).symm
   exact⟨by kernel_rfl,fun j t ht=>by
    rw[Tryz.params3] at ht
    have h3:t=22\/t=4:=by
     rcases j with _|_|j
     ·exact .inl (by simpa using ht.symm)
     ·exact .inr (by simpa using ht.symm)
     ·simp at ht
    rcases h3 with rfl|rfl
    ·exact (show Tryz.prog.wantsStandIn 22=false by kernel_rfl)
    ·exact (show Tryz.prog.wantsStandIn 4=false by kernel_rfl)⟩)
  (by kernel_rfl)
#print axioms proved
end Go.Proofs.YtinbjdkibmkgbaaGreatDoor.checkLets
