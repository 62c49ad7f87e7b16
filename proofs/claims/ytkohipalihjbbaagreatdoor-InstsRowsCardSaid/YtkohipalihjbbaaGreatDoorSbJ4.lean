/- InstsRows: for every row of numbers and every number the statement's function returns true, changes nothing that was there, and never panics. The variables hold what is listed (the card ties that to the program's text). -/

import Derived.Test.YtkohipalihjbbaaGreatDoorSbP21
import Derived.Test.YtkohipalihjbbaaGreatDoorCnA11
import Derived.Test.YtkohipalihjbbaaGreatDoorRows
import Derived.Test.YtkohipalihjbbaaGreatDoorCards
import Derived.Test.YtkohipalihjbbaaGreatDoorTie
import Derived.WalkKit
import Derived.ProofKit
import Derived.OpenShut
import Derived.JoinedCond
import Derived.ChangeSlices
import Derived.SevenTiedAt
namespace Go.Proofs.YtkohipalihjbbaaGreatDoor.p
open Go.Proofs Go Go.Cn code
set_option linter.unusedSimpArgs false
set_option linter.unusedVariables false
theorem dtsR_get (l:List Dt)(i:Nat):(dtsR l)[i]?=(l[i]?).map dtR:=by rw[dtsR,List.getElem?_map]
def cosD (i:Nat):Nat->List Cd->List (Nm×AV)
 |_,[]=>[]
 |k,c::l=>(c.1,.agg [.int .i64 (i:Nat),.int .i64 (k:Nat)])::cosD i (k+1) l
def cosA:Nat->List Dt->List (Nm×AV)
 |_,[]=>[]
 |i,d::l=>cosD i 0 d.cons++cosA (i+1) l
theorem cosD_snoc (i:Nat)(c:Cd):∀(k:Nat)(l:List Cd),cosD i k (l++[c])=cosD i k l++[(c.1,.agg [.int .i64 (i:Nat),.int .i64 (k+l.length:Nat)])]
 |k,[]=>by simp[cosD]
 |k,q::l=>by
  simp only[List.cons_append,cosD,cosD_snoc i c (k+1) l,List.length_cons]
  rw[show k+1+l.length=k+(l.length+1) by omega]
theorem cosA_snoc (d:Dt):∀(i:Nat)(l:List Dt),cosA i (l++[d])=cosA i l++cosD (i+l.length) 0 d.cons
 |i,[]=>by simp[cosA]
 |i,q::l=>by
  simp only[List.cons_append,cosA,cosA_snoc d (i+1) l,List.length_cons,List.append_assoc]
  rw[show i+1+l.length=i+(l.length+1) by omega]
theorem cosD_keys (i:Nat):∀(k:Nat)(l:List Cd),(cosD i k l).map (·.1)=l.map (·.1)
 |_,[]=>rfl
 |k,c::l=>by simp only[cosD,List.map_cons,cosD_keys]
structure CnR (h:AH)(b:Nat)(ds:List Dt):Prop where
 r:∃E tag mv m2v,h.objs b=some (.cells [.lst E (dtsR ds) tag,mv,m2v] 29)/\entA h mv=some (kvC (ixs Dt.name 0 ds))/\entA h m2v=some (kvC (cosA 0 ds))
def arO (ds:List Dt)(n:Nm):Option Nat:=if n=[73,110,116] then some 0 else if n=[67,104,97,114] then some 0 else (lkI Dt.name n 0 ds).map fun x=>x.2.vars.length
def arT:Option Nat->AV
 |some k=>.tuple [.int .i64 (k:Nat),.bool true]
 |none=>.tuple [.int .i64 0,.bool false]
theorem arity_ok {h:AH}{b:Nat}{ds:List Dt}(he:CnR h b ds)(n:Nm)(K:Nat->Prop):ACall T K (.func 17) [.ptr b 0,.str n] h fun v h'=>v=arT (arO ds n)/\h'=h:=by
 refine ACall.ret t17 fun hK=>?_
 obtain⟨E,tag,mv,m2v,ho,hm,_⟩:=he.r
 unfold arO
 by_cases e1:n=[73,110,116]
 ·simp only[u_C c17.eq_1,rn,pevA,seval,e1,if_true,arT]
  exact⟨.refl _,AH.le_refl _⟩
 ·have d1:decide (n=[73,110,116])=false:=decide_eq_false e1
  rw[if_neg e1]
  by_cases e2:n=[67,104,97,114]
  ·have d2:decide (n=[67,104,97,114])=true:=decide_eq_true e2
   simp only[u_C c17.eq_1,rn,pevA,seval,d1,d2,if_pos e2,arT]
   exact⟨.refl _,AH.le_refl _⟩
  ·have d2:decide (n=[67,104,97,114])=false:=decide_eq_false e2
   rw[if_neg e2]
   cases hl:lkI Dt.name n 0 ds with
   |none=>
    simp only[u_C c17.eq_1,rn,pevA,seval,d1,d2,ho,hm,kv_look,ixs_look,hl,Option.map_none,arT]
    exact⟨.refl _,AH.le_refl _⟩
   |some x=>
    obtain⟨j,d⟩:=x
    obtain⟨_,hj,_⟩:=lkI_get hl
    rw[Nat.sub_zero] at hj
    have hget:(dtsR ds)[j]?=some (dtR d):=by rw[dtsR_get,hj];rfl
    simp only[dtR] at hget
    simp only[u_C c17.eq_1,rn,pevA,seval,d1,d2,ho,hm,kv_look,ixs_look,hl,Option.map_some,hget,arT,strC_len]
    exact⟨.refl _,AH.le_refl _⟩
theorem place_none {h:AH}{b:Nat}{ds:List Dt}(he:CnR h b ds)(n:Nm)(hn:kvL n (cosA 0 ds)=none)(K:Nat->Prop):ACall T K (.func 18) [.ptr b 0,.str n] h fun v h'=>v=.tuple [.str [],.int .i64 0,.bool false]/\h'=h:=by
 refine ACall.ret t18 fun hK=>?_
 obtain⟨E,tag,mv,m2v,ho,_,hm⟩:=he.r
 simp only[u_C c18.eq_1,rn,pevA,seval,ho,hm,kv_look,hn,Option.map_none]
 exact⟨.refl _,AH.le_refl _⟩
structure CnE (h:AH)(b m1 m2:Nat)(E:TypeId)(tag:Tag)(ds:List Dt):Prop where
 o:h.objs b=some (.cells [.lst E (dtsR ds) tag,.map m1,.map m2] 29)
 m:h.objs m1=some (.map (kvC (ixs Dt.name 0 ds)))
 c:h.objs m2=some (.map (kvC (cosA 0 ds)))
theorem CnE.r {h:AH}{b m1 m2:Nat}{E:TypeId}{tag:Tag}{ds:List Dt}(he:CnE h b m1 m2 E tag ds):CnR h b ds:=⟨E,tag,_,_,he.o,by rw[en_m,he.m],by rw[en_m,he.c]⟩
theorem cputs_loop (K:Nat->Prop)(M:AH)(b m1 m2:Nat)(n1:m1≠m2)(n2:b≠m2)(hk2:¬K m2)(E:TypeId)(tag:Tag)(ds:List Dt)(hds:ds.length<=1000000)(ho:M.objs b=some (.cells [.lst E (dtsR ds) tag,.map m1,.map m2] 29))(d:Dt)(hcl:d.cons.length<=1000000000)(hnd:(d.cons.map (·.1)).Nodup)(hnew:∀c∈d.cons,c.1∉(cosA 0 ds).map (·.1))(R:CExit->AQ)
  (hR:∀fr:AFr,fr 0=.ptr b 0->fr 3=.rptr (dtR d)->R (.exit 0) fr (M.set m2 (.map (kvC (cosA 0 ds++cosD ds.length 0 d.cons)))))
  (fr:AFr)(f0:fr 0=.ptr b 0)(f3:fr 3=.rptr (dtR d))(f31:fr 31=.lst 78 (cdsR d.cons) .no)(f32:fr 32=.int .i64 (d.cons.length:Nat))(f33:fr 33=.int .i64 0) :
  W T K (.loop l19_2.toC) fr (M.set m2 (.map (kvC (cosA 0 ds)))) R:=by
 refine aloop (α:=Nat) (fun i fr h1=>fr 0=.ptr b 0/\fr 3=.rptr (dtR d)/\fr 31=.lst 78 (cdsR d.cons) .no/\fr 32=.int .i64 (d.cons.length:Nat)/\fr 33=.int .i64 i/\i<=d.cons.length/\
  h1=M.set m2 (.map (kvC (cosA 0 ds++cosD ds.length 0 (d.cons.take i))))) (fun i=>d.cons.length-i) 0 ⟨f0,f3,f31,f32,f33,Nat.zero_le _,by simp[cosD]⟩ ?_
 clear f0 f3 f31 f32 f33
 rintro i fr h1 ⟨f0,f3,f31,f32,f33,hi,rfl⟩
 by_cases hlt:i<d.cons.length
 ·have c1:decide ((i:Int)<(d.cons.length:Int))=true:=decide_eq_true (by omega)
  have hw:IntKind.i64.wrap ((i:Int)+1)=((i+1:Nat):Int):=by rw[wrap64 ⟨by omega,by omega⟩];rfl
  obtain⟨x,hx⟩ : ∃x,d.cons[i]?=some x:=⟨d.cons[i],by simp[hlt]⟩
  have hget:(cdsR d.cons)[i]?=some (cdR x):=by rw[cdsR_get,hx];rfl
  have hxm:=hnew x (List.mem_of_getElem? hx)
  have hnt:x.1∉((d.cons.take i).map (·.1)):=by
   have:=nd_not (l:=d.cons.map (·.1)) (i:=i) (a:=x.1) (by rw[List.getElem?_map,hx];rfl)
   rw[<-List.map_take] at this
   exact fun hm=>this hm hnd
  have hput:mputA (.str x.1) (.agg [.int .i64 (ds.length:Nat),.int .i64 (i:Nat)]) (kvC (cosA 0 ds++cosD ds.length 0 (d.cons.take i)))=some (kvC (cosA 0 ds++cosD ds.length 0 (d.cons.take (i+1)))):=by
   rw[kv_put _ _ _ (kvL_none.2 (by rw[List.map_append,cosD_keys,List.mem_append];exact fun hh=>hh.elim hxm hnt))]
   rw[List.take_add_one,hx]
   show _=some (kvC (_++cosD ds.length 0 (d.cons.take i++[x])))
   rw[cosD_snoc,List.append_assoc,Nat.zero_add,List.length_take,Nat.min_eq_left hi]
  obtain⟨xn,xl⟩:=x
  simp only[cdR] at hget
  simp only at hput
  simp only[u_C l19_2.eq_1,e_dregion d19_1,u_L s19_1.eq_1,u_T g19_1.eq_1,rn,pevA,seval,f0,f3,f31,f32,f33,c1,hget,kN,kG,n1,n1.symm,n2,n2.symm,ho,dtsR_len,hput,hk2,hw]
  intro b5 hb5 hk5
  have hb5':=hb5
  obtain⟨n52,hb5⟩:=AH.set_none.1 hb5
  have n5b:b≠b5:=by rintro rfl;rw[ho] at hb5;cases hb5
  simp only[e_dregion d19_1,u_L s19_1.eq_1,u_T g19_1.eq_1,rn,pevA,seval,f0,f3,f31,f32,f33,c1,kN,kG,n1,n1.symm,n2,n2.symm,s_del hb5',ho,dtsR_len,hput,hk2,hk5,hw]
  exact⟨i+1,by show d.cons.length-(i+1)<d.cons.length-i;omega,f0,f3,f31,f32,rfl,hlt,rfl⟩
 ·obtain rfl:i=d.cons.length:=by omega
  have c1:decide ((d.cons.length:Int)<(d.cons.length:Int))=false:=by simp
  rw[List.take_length]
  simp only[u_C l19_2.eq_1,rn,pevA,seval,f0,f3,f31,f32,f33,c1]
  exact hR _ f0 f3
theorem cputs_ok {h:AH}{b m1 m2:Nat}{E:TypeId}{tag:Tag}{ds:List Dt}(he:CnE h b m1 m2 E tag ds)(n1:m1≠m2)(nb1:b≠m1)(nb2:b≠m2)(hds:ds.length<=1000000)(d:Dt)(hcl:d.cons.length<=1000000000)(hnm:d.name∉ds.map Dt.name)(hnd:(d.cons.map (·.1)).Nodup)(hnew:∀c∈d.cons,c.1∉(cosA 0 ds).map (·.1))
  (K:Nat->Prop)(hkb:¬K b)(hk1:¬K m1)(hk2:¬K m2)(t0:Nat->Option Cn.Tok)(hT:Toks t0 h.toks [(tag,69,5,0)])(hE:dtsR ds≠[]->E=69) :
  ACall T K (.func 19) [.ptr b 0,.agg (dtR d)] h fun _ h'=>∃tag' t',Toks t0 t' [(tag',69,5,0)]/\
   h'=(((h.set m1 (.map (kvC (ixs Dt.name 0 (ds++[d]))))).set m2 (.map (kvC (cosA 0 (ds++[d]))))).set b (.cells [.lst 69 (dtsR (ds++[d])) tag',.map m1,.map m2] 29)).tk t':=by
 refine ACall.retQ t19 fun hK=>?_
 have hput:mputA (.str d.name) (.int .i64 (ds.length:Nat)) (kvC (ixs Dt.name 0 ds))=some (kvC (ixs Dt.name 0 (ds++[d]))):=by
  rw[kv_put _ _ _ (kvL_none.2 (by rw[ixs_keys];exact hnm)),ixs_app,Nat.zero_add]
 have hco:cosA 0 ds++cosD ds.length 0 d.cons=cosA 0 (ds++[d]):=by rw[cosA_snoc,Nat.zero_add]
 have ho:=he.o
 have hm:=he.m
 have hc:=he.c
 have hdl:(dtR d).length=5:=rfl
 have hrow:dtsR ds++[[.str d.name,.lst 9 (strC d.vars) .no,.lst 78 (cdsR d.cons) .no,.lst 9 (strC d.der) .no,.int .i64 d.pos]]=dtsR (ds++[d]):=by simp[dtsR,dtR]
 simp only[u_C c19.eq_1,e_dregion d19_0,u_L s19_0.eq_1,u_T g19_0.eq_1,dtR,rn,pevA,seval,ho,hm,dtsR_len,hput,hk1,cdsR_len]
 have h1c:(h.set m1 (.map (kvC (ixs Dt.name 0 (ds++[d]))))).objs m2=some (.map (kvC (cosA 0 ds))):=by rw[AH.set_ne _ _ n1.symm];exact hc
 have h1o:(h.set m1 (.map (kvC (ixs Dt.name 0 (ds++[d]))))).objs b=some (.cells [.lst E (dtsR ds) tag,.map m1,.map m2] 29):=by rw[AH.set_ne _ _ nb1];exact ho
 rw[<-AH.set_eq h1c]
 refine cputs_loop K _ b m1 m2 n1 nb2 hk2 E tag ds hds h1o d hcl hnd hnew _ (fun fr g0 g3=>?_) _ rfl rfl rfl rfl rfl
 rw[hco]
 simp only[dtR] at g3
 have h2o:((h.set m1 (.map (kvC (ixs Dt.name 0 (ds++[d]))))).set m2 (.map (kvC (cosA 0 (ds++[d]))))).objs b=some (.cells [.lst E (dtsR ds) tag,.map m1,.map m2] 29):=by rw[AH.set_ne _ _ nb2];exact h1o
 simp only[e_dregion d19_3,u_L s19_3.eq_1,u_T g19_3.eq_1,rn,pevA,seval,g0,g3,h2o]
 refine WO.append (i:=0) hT rfl rfl rfl trivial (by decide) (by simp) rfl (.inr rfl) (fun _=>?_) ?_ fun tag2 t2 hT2=>?_
 ·simp[capOk,dtsR_len];omega
 ·simp[big_eq,dtsR_len];omega
 rw[hrow]
 simp only[e_dregion d19_3,u_L s19_3.eq_1,u_T g19_3.eq_1,rn,pevA,seval,g0,g3,h2o,hkb]
 exact⟨_,_,.refl _ _,((hK.set _ _).set _ _).set _ _,tag2,t2,hT2,rfl⟩
theorem _root_.Go.Cn.ACall.kn {T:Nat->Option CFun}{K:Nat->Prop}{f:Fn}{args:List AV}{h:AH}{Q:AV->AH->Prop}(hc:ACall T K f args h fun v h'=>KOk K h'->Q v h'):ACall T K f args h Q:=
 fun F σ argsC hA hK hl=>CallA.mono _ _ _ _ _ (hc F σ argsC hA hK hl) fun v σ' ⟨F',a,h',h1,h2,h3,h4,h5⟩=>⟨F',a,h',h1,h2,h3,h4,h5 h3⟩
inductive TyA (P:Ty->Prop):Ty->Prop where
 |mk {k:Int}{n:Nm}{l:List Ty}(h:P (.mk k n l))(ha:∀a∈l,TyA P a):TyA P (.mk k n l)
theorem walk_ok (P:Ty->Prop)(c:Nat)(K:Nat->Prop)(I:AH->Prop)(hy:∀u,P u->∀h1,I h1->KOk K h1->ACall T K (.yield c) [.agg (tyR u)] h1 fun v h2=>v=.bool true/\I h2) :
  ∀t,TyB t->TyA P t->∀h,I h->ACall T K (.func 68) [.agg (tyR t),.yield c] h fun v h'=>v=.bool true/\I h':=by
 refine Ty.ind fun k n l ih hb hp h h0=>?_
 refine ACall.retQ t68 fun hK=>?_
 have hb':=hb
 cases hb with
 |mk hbl hba=>
 cases hp with
 |mk hpt hpa=>
 simp only[u_C c68.eq_1,tyR,rn,pevA,seval]
 have hc:=tclone_ok _ hb'
 simp only[tyR] at hc
 refine hc.use ?_
 simp only[rn,pevA,seval]
 have hyt:=hy _ hpt h h0 hK
 simp only[tyR] at hyt
 refine ACall.kn (hyt.mono ?_)
 rintro _ h2 ⟨rfl,hI2⟩ hK2
 simp only[rn,pevA,seval,tysR_len]
 refine aloop (α:=Nat) (fun i fr h1=>fr 1=.yield c/\fr 13=.lst 111 (tysR l) .no/\fr 14=.int .i64 (l.length:Nat)/\fr 15=.int .i64 i/\i<=l.length/\I h1/\KOk K h1) (fun i=>l.length-i) 0 ⟨rfl,rfl,rfl,rfl,Nat.zero_le _,hI2,hK2⟩ ?_
 rintro i fr h1 ⟨f1,f13,f14,f15,hi,hI,hK1⟩
 by_cases hlt:i<l.length
 ·have c1:decide ((i:Int)<(l.length:Int))=true:=decide_eq_true (by omega)
  have hw:IntKind.i64.wrap ((i:Int)+1)=((i+1:Nat):Int):=by rw[wrap64 ⟨by omega,by omega⟩];rfl
  obtain⟨x,hx⟩ : ∃x,l[i]?=some x:=⟨l[i],by simp[hlt]⟩
  have hget:(tysR l)[i]?=some (tyR x):=by rw[tysR_get,hx];rfl
  have hxm:=List.mem_of_getElem? hx
  simp only[u_C l68_0.eq_1,rn,pevA,seval,f1,f13,f14,f15,c1,hget,tyR_len,tyR_ne,tyR_one,tyR_take]
  refine ACall.kn ((ih x hxm (hba x hxm) (hpa x hxm) h1 hI).mono ?_)
  rintro _ h3 ⟨rfl,hI3⟩ hK3
  simp only[rn,pevA,seval,f1,f13,f14,f15,hw]
  exact⟨i+1,by show l.length-(i+1)<l.length-i;omega,f1,f13,f14,rfl,hlt,hI3,hK3⟩
 ·obtain rfl:i=l.length:=by omega
  have c1:decide ((l.length:Int)<(l.length:Int))=false:=by simp
  simp only[u_C l68_0.eq_1,rn,pevA,seval,f1,f13,f14,f15,c1]
  exact⟨_,h1,.refl _ _,hK1,rfl,hI⟩
theorem all_ok (t:Ty):Pure T 42 [.agg (tyR t)] (.func 67 [] [.rptr (tyR t)]):=by
 intro K h
 refine ACall.ret t42 fun hK=>?_
 simp only[u_C c42.eq_1,rn,pevA,seval,tyR_one,tyR_ne]
 exact⟨.refl _,AH.le_refl _⟩
theorem all1_ok (P:Ty->Prop)(c:Nat)(K:Nat->Prop)(I:AH->Prop)(hy:∀u,P u->∀h1,I h1->KOk K h1->ACall T K (.yield c) [.agg (tyR u)] h1 fun v h2=>v=.bool true/\I h2)
  (t:Ty)(hb:TyB t)(hp:TyA P t)(h:AH)(h0:I h):ACall T K (.func 67) [.yield c,.rptr (tyR t)] h fun _ h'=>I h':=by
 refine ACall.retQ t67 fun hK=>?_
 simp only[u_C c67.eq_1,rn,pevA,seval,tyR_one,tyR_ne,tyR_take,tyR_len]
 refine ACall.kn ((walk_ok P c K I hy t hb hp h h0).mono ?_)
 rintro _ h2 ⟨rfl,hI2⟩ hK2
 simp only[rn,pevA,seval]
 exact⟨_,h2,.refl _ _,hK2,hI2⟩
def partP (ds:List Dt):Ty->Prop
 |.mk k n l=>k=2->arO ds n=some l.length
theorem part_ok {h:AH}{b:Nat}{ds:List Dt}(he:CnR h b ds)(t:Ty)(ht:partP ds t)(K:Nat->Prop):ACall T K (.func 44) [.ptr b 0,.agg (tyR t)] h fun v h'=>v=.nili/\h'=h:=by
 refine ACall.ret t44 fun hK=>?_
 obtain⟨k,n,l⟩:=t
 by_cases e:k=2
 ·have ha:=ht e
  have d0:decide (k=2)=true:=decide_eq_true e
  simp only[u_C c44.eq_1,tyR,rn,pevA,seval,d0]
  refine (arity_ok he n K).mono ?_
  rintro _ _ ⟨rfl,rfl⟩
  have d1:decide ((l.length:Int)=(l.length:Int))=true:=by simp
  rw[ha]
  simp only[rn,pevA,seval,arT,tysR_len,d1]
  exact⟨.refl _,AH.le_refl _⟩
 ·have d0:decide (k=2)=false:=decide_eq_false e
  simp only[u_C c44.eq_1,tyR,rn,pevA,seval,d0]
  exact⟨.refl _,AH.le_refl _⟩
theorem ent_keep {h h':AH}(hk:∀n o,h.objs n=some o->h'.objs n=some o){mv:AV}{es:List (AV×AV)}(hm:entA h mv=some es):entA h' mv=some es:=by
 cases mv with
 |map m=>
  rw[en_m] at hm ⊢
  cases e:h.objs m with
  |none=>rw[e] at hm;cases hm
  |some o=>rw[hk m o e];rw[e] at hm;exact hm
 |nilm=>exact hm
 |fmap es=>exact hm
 |_=>cases hm
theorem CnR.keep {h h':AH}{b:Nat}{ds:List Dt}(he:CnR h b ds)(hk:∀n o,h.objs n=some o->h'.objs n=some o):CnR h' b ds:=
 let ⟨E,tag,mv,m2v,h1,h2,h3⟩:=he.r
 ⟨E,tag,mv,m2v,hk _ _ h1,ent_keep hk h2,ent_keep hk h3⟩
def argP (ds:List Dt)(vars:List Nm):Ty->Prop
 |.mk k n l=>(k=1->n∈vars)/\(k=2->arO ds n=some l.length)
noncomputable def lpG (fr:AFr)(frC:Fr)(st:LoopState)(pend:Option CExit):AO:=.loop st fr frC [27] a21_0.toC b21_0.toC pend
theorem args_yield (ds:List Dt)(d:Dt)(b b4 c:Nat)(M:AH)(he:CnR M b ds)(frA:AFr)(frC:Fr)(f2:frA 2=.rptr [.ptr b 0])(f3:frA 3=.rptr (dtR d))(hc:M.objs c=none)(K:Nat->Prop)(hkc:¬K c)(u:Ty)(hu:argP ds d.vars u)(h1:AH)(hI:(M.set c (lpG frA frC .ready none)).le h1) :
  ACall T K (.yield c) [.agg (tyR u)] h1 fun v h2=>v=.bool true/\(M.set c (lpG frA frC .ready none)).le h2:=by
 have oc:h1.objs c=some (lpG frA frC .ready none):=hI.1 _ _ (AH.set_same _ _ _)
 refine ACall.yield (frA:=frA) (frC:=frC) oc hkc rfl (wpC_ok ?_)
 simp only[u_C a21_0.eq_1,rn,pevA,seval,setPsA]
 intro b9 hb9 hk9
 have n9c:b9≠c:=by rintro rfl;rw[oc] at hb9;cases hb9
 simp only[rn,pevA,seval,kN,kG,hk9,tyR_len,tyR_ne,tyR_one,tyR_take]
 refine⟨by rw[AH.set_ne _ _ n9c.symm];exact oc,wpC_ok ?_⟩
 obtain⟨k,n,l⟩:=u
 obtain⟨hu1,hu2⟩:=hu
 have fin:∀h3:AH,(h1.set b9 (.cells (tyR (.mk k n l)) 111)).set c (lpG frA frC .busy none)=h3->h3.objs c=some (lpG frA frC .busy none)/\(M.set c (lpG frA frC .ready none)).le (h3.set c (lpG frA frC .ready none)):=by
  rintro _ rfl
  refine⟨AH.set_same _ _ _,?_⟩
  rw[AH.set_set]
  refine⟨fun m o ho=>?_,hI.2⟩
  by_cases e:m=c
  ·subst e;rw[AH.set_same] at ho ⊢;exact ho
  ·rw[AH.set_ne _ _ e] at ho ⊢
   have ho1:=hI.1 m o (by rw[AH.set_ne _ _ e];exact ho)
   rw[AH.set_ne _ _ (by rintro rfl;rw[hb9] at ho1;cases ho1)]
   exact ho1
 have he3:CnR ((h1.set b9 (.cells (tyR (.mk k n l)) 111)).set c (lpG frA frC .busy none)) b ds:=he.keep fun m o ho=>by
  have e:m≠c:=by rintro rfl;rw[hc] at ho;cases ho
  have ho1:=hI.1 m o (by rw[AH.set_ne _ _ e];exact ho)
  rw[AH.set_ne _ _ e,AH.set_ne _ _ (by rintro rfl;rw[hb9] at ho1;cases ho1)]
  exact ho1
 have hp:=part_ok he3 (.mk k n l) hu2 K
 have o9:((h1.set b9 (.cells (tyR (.mk k n l)) 111)).set c (lpG frA frC .busy none)).objs b9=some (.cells (tyR (.mk k n l)) 111):=by rw[AH.set_ne _ _ n9c,AH.set_same]
 show wpC T K b21_0 _ ((h1.set b9 (.cells (tyR (.mk k n l)) 111)).set c (lpG frA frC .busy none)) _
 have fin:=fin _ rfl
 generalize (h1.set b9 (.cells (tyR (.mk k n l)) 111)).set c (lpG frA frC .busy none)=h3 at he3 hp o9 fin ⊢
 simp only[tyR] at hp o9
 by_cases e:k=1
 ·have d0:decide (k=1)=true:=decide_eq_true e
  simp only[u_C b21_0.eq_1,rn,pevA,seval,f2,f3,o9,d0,dtR]
  refine (contains_ok _ _ _ _).use ?_
  have hm:=hu1 e
  simp only[rn,pevA,seval,f2,f3,o9,hm]
  refine hp.mono ?_
  rintro _ _ ⟨rfl,rfl⟩
  simp only[rn,pevA,seval]
  exact⟨fin.1,rfl,fin.2⟩
 ·have d0:decide (k=1)=false:=decide_eq_false e
  simp only[u_C b21_0.eq_1,rn,pevA,seval,f2,f3,o9,d0,dtR]
  refine hp.mono ?_
  rintro _ _ ⟨rfl,rfl⟩
  simp only[rn,pevA,seval]
  exact⟨fin.1,rfl,fin.2⟩
def CdP (ds:List Dt)(vars:List Nm)(c:Cd):Prop:=∀t∈c.2,TyA (argP ds vars) t
theorem args_rfun (ds:List Dt)(d:Dt)(b:Nat)(M:AH)(he:CnR M b ds)(K:Nat->Prop)(x:Ty)(hb:TyB x)(hp:TyA (argP ds d.vars) x)(R:CExit->AQ)(fr:AFr)(f2:fr 2=.rptr [.ptr b 0])(f3:fr 3=.rptr (dtR d))(f26:fr 26=.func 67 [] [.rptr (tyR x)])
  (hR:∀h',M.le h'->R .normal fr h'):W T K (.rfun (.tmp 26) [27] a21_0.toC b21_0.toC) fr M R:=by
 refine W.rfun f26 fun c frC hc htc hkc=>?_
 refine (all1_ok (argP ds d.vars) c K (fun h2=>(M.set c (lpG fr frC .ready none)).le h2) (fun u hu h2 hI _=>args_yield ds d b 0 c M he fr frC f2 f3 hc K hkc u hu h2 hI) x hb hp _ (AH.le_refl _)).mono ?_
 intro _ h2 hI2
 refine⟨.ready,none,hI2.1 _ _ (AH.set_same _ _ _),by simp,by simp,hR _ ⟨fun m o ho=>?_,hI2.2⟩⟩
 have e:m≠c:=by rintro rfl;rw[hc] at ho;cases ho
 rw[AH.del_objs,if_neg e]
 exact hI2.1 m o (by rw[AH.set_ne _ _ e];exact ho)
theorem args_in (ds:List Dt)(d:Dt)(b b4:Nat)(M:AH)(he:CnR M b ds)(cn:Nm)(l:List Ty)(hl:CdB (cn,l))(hp:CdP ds d.vars (cn,l))(K:Nat->Prop)(hK:KOk K M)(R:CExit->AQ)(v4 v12 v13 v14:AV)
  (hR:∀fr:AFr,fr 2=.rptr [.ptr b 0]->fr 3=.rptr (dtR d)->fr 4=v4->fr 12=v12->fr 13=v13->fr 14=v14->R (.exit 2) fr M)
  (fr:AFr)(f2:fr 2=.rptr [.ptr b 0])(f3:fr 3=.rptr (dtR d))(f4:fr 4=v4)(f12:fr 12=v12)(f13:fr 13=v13)(f14:fr 14=v14)(f19:fr 19=.lst 111 (tysR l) .no)(f20:fr 20=.int .i64 (l.length:Nat))(f21:fr 21=.int .i64 0) :
  W T K (.loop l21_1.toC) fr M R:=by
 refine aloopD (α:=Nat) (fun i fr h1=>fr 2=.rptr [.ptr b 0]/\fr 3=.rptr (dtR d)/\fr 4=v4/\fr 12=v12/\fr 13=v13/\fr 14=v14/\fr 19=.lst 111 (tysR l) .no/\fr 20=.int .i64 (l.length:Nat)/\fr 21=.int .i64 i/\i<=l.length/\h1=M) (fun i=>l.length-i) 0 ⟨f2,f3,f4,f12,f13,f14,f19,f20,f21,Nat.zero_le _,rfl⟩ ?_
 clear f2 f3 f4 f12 f13 f14 f19 f20 f21
 rintro i fr h1 ⟨f2,f3,f4,f12,f13,f14,f19,f20,f21,hi,rfl⟩
 obtain⟨hll,hlb⟩:=hl
 simp only at hll hlb
 by_cases hlt:i<l.length
 ·have c1:decide ((i:Int)<(l.length:Int))=true:=decide_eq_true (by omega)
  have hw:IntKind.i64.wrap ((i:Int)+1)=((i+1:Nat):Int):=by rw[wrap64 ⟨by omega,by omega⟩];rfl
  obtain⟨x,hx⟩ : ∃x,l[i]?=some x:=⟨l[i],by simp[hlt]⟩
  have hxm:=List.mem_of_getElem? hx
  have hget:(tysR l)[i]?=some (tyR x):=by rw[tysR_get,hx];rfl
  simp only[u_C l21_1.eq_1,rn,pevA,seval,f2,f3,f4,f12,f13,f14,f19,f20,f21,c1,hget,tyR_len,tyR_ne,tyR_one,tyR_take]
  refine (all_ok x).use ?_
  simp only[rn,pevA,seval]
  refine args_rfun ds d b h1 he K x (hlb x hxm) (hp x hxm) _ _ f2 f3 rfl fun h' hle=>?_
  simp only[rn,pevA,seval,f2,f3,f4,f12,f13,f14,f19,f20,f21,hw]
  exact⟨i+1,by show l.length-(i+1)<l.length-i;omega,h1,hle,fun _=>hK,f2,f3,f4,f12,f13,f14,f19,f20,rfl,hlt,rfl⟩
 ·obtain rfl:i=l.length:=by omega
  have c1:decide ((l.length:Int)<(l.length:Int))=false:=by simp
  simp only[u_C l21_1.eq_1,rn,pevA,seval,f19,f20,f21,c1]
  exact hR _ f2 f3 f4 f12 f13 f14
def DtP (ds:List Dt)(d:Dt):Prop:=∀c∈d.cons,CdP ds d.vars c
theorem args_ok {h:AH}{b:Nat}{ds:List Dt}(he:CnR h b ds)(d:Dt)(hd:DtB d)(hp:DtP ds d)(K:Nat->Prop):ACall T K (.func 21) [.ptr b 0,.agg (dtR d)] h fun v h'=>v=.nili/\h'=h:=by
 refine ACall.ret t21 fun hK=>?_
 obtain⟨_,_,hcl,hcs⟩:=hd
 simp only[u_C c21.eq_1,dtR,rn,pevA,seval]
 intro b4 hb4 hk4
 have he4:CnR (h.set b4 (.cells [.nili] 40)) b ds:=he.keep fun m o ho=>by rw[AH.set_ne _ _ (by rintro rfl;rw[hb4] at ho;cases ho)];exact ho
 simp only[rn,pevA,seval,hk4,cdsR_len]
 refine aloop (α:=Nat) (fun i fr h1=>fr 2=.rptr [.ptr b 0]/\fr 3=.rptr (dtR d)/\fr 4=.ptr b4 0/\fr 12=.lst 78 (cdsR d.cons) .no/\fr 13=.int .i64 (d.cons.length:Nat)/\fr 14=.int .i64 i/\i<=d.cons.length/\h1=h.set b4 (.cells [.nili] 40)) (fun i=>d.cons.length-i) 0 ⟨rfl,rfl,rfl,rfl,rfl,rfl,Nat.zero_le _,rfl⟩ ?_
 rintro i fr h1 ⟨f2,f3,f4,f12,f13,f14,hi,rfl⟩
 by_cases hlt:i<d.cons.length
 ·have c1:decide ((i:Int)<(d.cons.length:Int))=true:=decide_eq_true (by omega)
  have hw:IntKind.i64.wrap ((i:Int)+1)=((i+1:Nat):Int):=by rw[wrap64 ⟨by omega,by omega⟩];rfl
  obtain⟨x,hx⟩ : ∃x,d.cons[i]?=some x:=⟨d.cons[i],by simp[hlt]⟩
  have hxm:=List.mem_of_getElem? hx
  have hget:(cdsR d.cons)[i]?=some (cdR x):=by rw[cdsR_get,hx];rfl
  obtain⟨xn,xl⟩:=x
  simp only[cdR] at hget
  simp only[u_C l21_2.eq_1,rn,pevA,seval,f2,f3,f4,f12,f13,f14,c1,hget]
  refine args_in ds d b b4 _ he4 xn xl (hcs _ hxm) (hp _ hxm) K (hK.set _ _) _ _ _ _ _ (fun fr2 g2 g3 g4 g12 g13 g14=>?_) _ f2 f3 f4 f12 f13 f14 rfl (by simp only[rn,pevA,seval,tysR_len]) rfl
  simp only[rn,pevA,seval,g2,g3,g4,g12,g13,g14,hw]
  exact⟨i+1,by show d.cons.length-(i+1)<d.cons.length-i;omega,g2,g3,g4,g12,g13,rfl,hlt,rfl⟩
 ·obtain rfl:i=d.cons.length:=by omega
  have c1:decide ((d.cons.length:Int)<(d.cons.length:Int))=false:=by simp
  simp only[u_C l21_2.eq_1,rn,pevA,seval,f2,f3,f4,f12,f13,f14,c1,hk4,kN,kG]
  exact⟨.refl _,le_set (AH.le_refl _) hb4⟩
theorem ccopy_ok {h:AH}{be:Nat}{mv m2v:AV}{E:TypeId}{tg:Tag}(he:h.objs be=some (.cells [.lst E [] tg,mv,m2v] 29))(K:Nat->Prop) :
  ACall T K (.func 16) [.ptr be 0] h fun v h'=>∃m1 m2 bn,v=.ptr bn 0/\h.objs m1=none/\h.objs m2=none/\h.objs bn=none/\¬K m1/\¬K m2/\¬K bn/\m1≠m2/\bn≠m1/\bn≠m2/\h'=((h.set m1 (.map [])).set m2 (.map [])).set bn (.cells [.lst 0 [] .nil,.map m1,.map m2] 29):=by
 refine ACall.retQ t16 fun hK=>?_
 simp only[u_C c16.eq_1,rn,pevA,seval]
 intro m1 hm1 hk1
 simp only[rn,pevA,seval]
 intro m2 hm2 hk2
 obtain⟨n21,hm2⟩:=AH.set_none.1 hm2
 simp only[rn,pevA,seval]
 intro bn hbn hkn
 obtain⟨nn2,hbn⟩:=AH.set_none.1 hbn
 obtain⟨nn1,hbn⟩:=AH.set_none.1 hbn
 have he':(((h.set m1 (.map [])).set m2 (.map [])).set bn (.cells [.lst 0 [] .nil,.map m1,.map m2] 29)).objs be=some (.cells [.lst E [] tg,mv,m2v] 29):=by
  rw[AH.set_ne _ _ (by rintro rfl;rw[he] at hbn;cases hbn),AH.set_ne _ _ (by rintro rfl;rw[he] at hm2;cases hm2),AH.set_ne _ _ (by rintro rfl;rw[he] at hm1;cases hm1)]
  exact he
 simp only[rn,pevA,seval,he']
 refine aloop (α:=Unit) (fun _ fr h1=>fr 3=.ptr bn 0/\fr 14=.int .i64 0/\fr 15=.int .i64 0/\h1=((h.set m1 (.map [])).set m2 (.map [])).set bn (.cells [.lst 0 [] .nil,.map m1,.map m2] 29)) (fun _=>0) () ⟨rfl,rfl,rfl,rfl⟩ ?_
 rintro _ fr h1 ⟨f3,f14,f15,rfl⟩
 simp only[u_C l16_0.eq_1,rn,pevA,seval,f3,f14,f15]
 exact⟨_,_,.refl _ _,((hK.set _ _).set _ _).set _ _,m1,m2,bn,rfl,hm1,hm2,hbn,hk1,hk2,hkn,n21.symm,nn1,nn2,rfl⟩
def ownC (l:List Cd):List (Nm×AV):=l.map fun c=>(c.1,.bool true)
theorem ownC_keys (l:List Cd):(ownC l).map (·.1)=l.map (·.1):=by simp[ownC]
theorem cadd_own (bn:Nat)(ds:List Dt)(M:AH)(he:CnR M bn ds)(bo:Nat)(ho:M.objs bo=none)(d:Dt)(hcl:d.cons.length<=1000000000)(hnd:(d.cons.map (·.1)).Nodup)(hnew:∀c∈d.cons,c.1∉(cosA 0 ds).map (·.1))(K:Nat->Prop)(hko:¬K bo)(R:CExit->AQ)(v0 v1 v7 v21 v22 v23:AV)
  (hR:∀fr:AFr,fr 0=v0->fr 1=v1->fr 5=.ptr bn 0->fr 7=v7->fr 21=v21->fr 22=v22->fr 23=v23->R (.exit 2) fr (M.set bo (.map (kvC (ownC d.cons)))))
  (fr:AFr)(f0:fr 0=v0)(f1:fr 1=v1)(f5:fr 5=.ptr bn 0)(f7:fr 7=v7)(f21:fr 21=v21)(f22:fr 22=v22)(f23:fr 23=v23)(f10:fr 10=.map bo)(f43:fr 43=.lst 78 (cdsR d.cons) .no)(f44:fr 44=.int .i64 (d.cons.length:Nat))(f45:fr 45=.int .i64 0) :
  W T K (.loop l5_0.toC) fr (M.set bo (.map [])) R:=by
 refine aloop (α:=Nat) (fun i fr h1=>fr 0=v0/\fr 1=v1/\fr 5=.ptr bn 0/\fr 7=v7/\fr 21=v21/\fr 22=v22/\fr 23=v23/\fr 10=.map bo/\fr 43=.lst 78 (cdsR d.cons) .no/\fr 44=.int .i64 (d.cons.length:Nat)/\fr 45=.int .i64 i/\i<=d.cons.length/\
  h1=M.set bo (.map (kvC (ownC (d.cons.take i))))) (fun i=>d.cons.length-i) 0 ⟨f0,f1,f5,f7,f21,f22,f23,f10,f43,f44,f45,Nat.zero_le _,rfl⟩ ?_
 clear f0 f1 f5 f7 f21 f22 f23 f10 f43 f44 f45
 rintro i fr h1 ⟨f0,f1,f5,f7,f21,f22,f23,f10,f43,f44,f45,hi,rfl⟩
 by_cases hlt:i<d.cons.length
 ·have c1:decide ((i:Int)<(d.cons.length:Int))=true:=decide_eq_true (by omega)
  have hw:IntKind.i64.wrap ((i:Int)+1)=((i+1:Nat):Int):=by rw[wrap64 ⟨by omega,by omega⟩];rfl
  obtain⟨x,hx⟩ : ∃x,d.cons[i]?=some x:=⟨d.cons[i],by simp[hlt]⟩
  have hxm:=List.mem_of_getElem? hx
  have hget:(cdsR d.cons)[i]?=some (cdR x):=by rw[cdsR_get,hx];rfl
  have hn:=kvL_none.2 (hnew x hxm)
  have hnt:kvL x.1 (ownC (d.cons.take i))=none:=by
   rw[kvL_none,ownC_keys]
   have:=nd_not (l:=d.cons.map (·.1)) (i:=i) (a:=x.1) (by rw[List.getElem?_map,hx];rfl)
   rw[<-List.map_take] at this
   exact fun hm=>this hm hnd
  have hput:mputA (.str x.1) (.bool true) (kvC (ownC (d.cons.take i)))=some (kvC (ownC (d.cons.take (i+1)))):=by
   rw[kv_put _ _ _ hnt,List.take_add_one,hx];simp[ownC]
  obtain⟨xn,xl⟩:=x
  simp only[cdR] at hget
  simp only at hput hn hnt
  have hek:∀o,CnR (M.set bo o) bn ds:=fun o=>he.keep fun m o' hm=>by rw[AH.set_ne _ _ (by rintro rfl;rw[ho] at hm;cases hm)];exact hm
  simp only[u_C l5_0.eq_1,rn,pevA,seval,f0,f1,f5,f7,f10,f21,f22,f23,f43,f44,f45,c1,hget]
  refine (place_none (hek _) xn hn K).mono ?_
  rintro _ _ ⟨rfl,rfl⟩
  simp only[rn,pevA,seval,f0,f1,f5,f7,f10,f21,f22,f23,f43,f44,f45,kN,kG,kv_look,hnt,Option.map_none,hput,hko,hw]
  exact⟨i+1,by show d.cons.length-(i+1)<d.cons.length-i;omega,f0,f1,f5,f7,f21,f22,f23,f10,f43,f44,rfl,hlt,rfl⟩
 ·obtain rfl:i=d.cons.length:=by omega
  have c1:decide ((d.cons.length:Int)<(d.cons.length:Int))=false:=by simp
  rw[List.take_length]
  simp only[u_C l5_0.eq_1,rn,pevA,seval,f43,f44,f45,c1]
  exact hR _ f0 f1 f5 f7 f21 f22 f23
structure DsOk (ds:List Dt):Prop where
 len:ds.length<=1000
 b:∀d∈ds,DtB d
 name:∀(i:Nat)(d:Dt),ds[i]?=some d->arO (ds.take i) d.name=none
 con:∀(i:Nat)(d:Dt),ds[i]?=some d->(d.cons.map (·.1)).Nodup/\∀c∈d.cons,c.1∉(cosA 0 (ds.take i)).map (·.1)
 p:∀d∈ds,DtP ds d
theorem arO_none {ds:List Dt}{n:Nm}(h:arO ds n=none):n∉ds.map Dt.name:=by
 unfold arO at h
 split at h
 ·cases h
 split at h
 ·cases h
 rw[Option.map_eq_none_iff] at h
 exact lkI_none.1 h
structure CnI (g h:AH)(b m1 m2:Nat)(E:TypeId)(tag:Tag)(ds:List Dt):Prop where
 e:CnE h b m1 m2 E tag ds
 le:g.le h
 T:Toks g.toks h.toks [(tag,69,5,0)]
 hE:dtsR ds≠[]->E=69
theorem le_none {g h:AH}(hl:g.le h){b:Nat}(hb:h.objs b=none):g.objs b=none:=by
 cases e:g.objs b with
 |none=>rfl
 |some o=>rw[hl.1 _ _ e] at hb;cases hb
theorem CnE.keep {h h':AH}{b m1 m2:Nat}{E:TypeId}{tag:Tag}{ds:List Dt}(he:CnE h b m1 m2 E tag ds)(hk:∀n o,h.objs n=some o->h'.objs n=some o):CnE h' b m1 m2 E tag ds:=⟨hk _ _ he.o,hk _ _ he.m,hk _ _ he.c⟩
theorem set_keep {h:AH}{b:Nat}{o:AO}(hb:h.objs b=none):∀n x,h.objs n=some x->(h.set b o).objs n=some x:=fun n x hn=>by rw[AH.set_ne _ _ (by rintro rfl;rw[hb] at hn;cases hn)];exact hn
theorem CnI.set {g h:AH}{b m1 m2:Nat}{E:TypeId}{tag:Tag}{ds:List Dt}(hi:CnI g h b m1 m2 E tag ds){n:Nat}{o:AO}(hn:h.objs n=none):CnI g (h.set n o) b m1 m2 E tag ds:=
 ⟨hi.e.keep (set_keep hn),le_set hi.le (le_none hi.le hn),hi.T,hi.hE⟩
theorem cadd1 (g:AH)(be bn m1 m2:Nat)(n1:m1≠m2)(nb1:bn≠m1)(nb2:bn≠m2)(hgn:g.objs bn=none)(hg1:g.objs m1=none)(hg2:g.objs m2=none)(K:Nat->Prop)(hkn:¬K bn)(hk1:¬K m1)(hk2:¬K m2)(ds:List Dt)(hd:DsOk ds)(R:CExit->AQ)(v0:AV)
  (hR:∀(fr:AFr)(h:AH)(E:TypeId)(tag:Tag),fr 0=v0->fr 1=.lst 69 (dtsR ds) .no->fr 5=.ptr bn 0->CnI g h bn m1 m2 E tag ds->KOk K h->R (.exit 0) fr h)
  (fr:AFr)(h:AH)(tag:Tag)(hI:CnI g h bn m1 m2 0 tag [])(hK:KOk K h)(f0:fr 0=v0)(f1:fr 1=.lst 69 (dtsR ds) .no)(f5:fr 5=.ptr bn 0)(f21:fr 21=.lst 69 (dtsR ds) .no)(f22:fr 22=.int .i64 (ds.length:Nat))(f23:fr 23=.int .i64 0) :
  W T K (.loop l5_1.toC) fr h R:=by
 refine aloop (α:=Nat) (fun i fr h1=>fr 0=v0/\fr 1=.lst 69 (dtsR ds) .no/\fr 5=.ptr bn 0/\fr 21=.lst 69 (dtsR ds) .no/\fr 22=.int .i64 (ds.length:Nat)/\fr 23=.int .i64 i/\i<=ds.length/\KOk K h1/\∃E tag,CnI g h1 bn m1 m2 E tag (ds.take i)) (fun i=>ds.length-i) 0 ⟨f0,f1,f5,f21,f22,f23,Nat.zero_le _,hK,0,tag,hI⟩ ?_
 clear f0 f1 f5 f21 f22 f23 hI hK
 rintro i fr h1 ⟨f0,f1,f5,f21,f22,f23,hi,hK,E,tag,hI⟩
 have hlen:=hd.len
 by_cases hlt:i<ds.length
 ·have c1:decide ((i:Int)<(ds.length:Int))=true:=decide_eq_true (by omega)
  have hw:IntKind.i64.wrap ((i:Int)+1)=((i+1:Nat):Int):=by rw[wrap64 ⟨by omega,by omega⟩];rfl
  obtain⟨x,hx⟩ : ∃x,ds[i]?=some x:=⟨ds[i],by simp[hlt]⟩
  have hxm:=List.mem_of_getElem? hx
  have hget:(dtsR ds)[i]?=some (dtR x):=by rw[dtsR_get,hx];rfl
  have har:=hd.name i x hx
  obtain⟨hnd,hnew⟩:=hd.con i x hx
  have hb:=hd.b x hxm
  have hcl:=hb.2.2.1
  simp only[u_C l5_1.eq_1,rn,pevA,seval,f0,f1,f5,f21,f22,f23,c1,hget,dtR]
  refine (arity_ok hI.e.r x.name K).mono ?_
  rintro _ _ ⟨rfl,rfl⟩
  rw[har]
  simp only[rn,pevA,seval,arT]
  intro bo hbo hko
  simp only[rn,pevA,seval,cdsR_len]
  refine cadd_own bn (ds.take i) _ hI.e.r bo hbo x hcl hnd hnew K hko _ v0 (.lst 69 (dtsR ds) .no) (.rptr (dtR x)) (.lst 69 (dtsR ds) .no) (.int .i64 (ds.length:Nat)) (.int .i64 (i:Nat)) (fun fr2 g0 g1 g5 g7 g21 g22 g23=>?_) _ f0 f1 f5 rfl f21 f22 f23 rfl rfl rfl rfl
  simp only[dtR] at g7
  simp only[rn,pevA,seval,g0,g1,g5,g7,g21,g22,g23]
  refine (dclone_ok x hb).use ?_
  simp only[rn,pevA,seval,g0,g1,g5,g7,g21,g22,g23]
  have hI2:=hI.set (o:=.map (kvC (ownC x.cons))) hbo
  refine (cputs_ok hI2.e n1 nb1 nb2 (by rw[List.length_take];omega) x hcl (arO_none har) hnd hnew K hkn hk1 hk2 g.toks hI2.T hI2.hE).mono ?_
  rintro _ _ ⟨tag2,t2,hT2,rfl⟩
  have htk:ds.take i++[x]=ds.take (i+1):=by rw[List.take_add_one,hx];rfl
  rw[htk]
  simp only[rn,pevA,seval,g0,g1,g5,g7,g21,g22,g23,hw]
  exact⟨i+1,by show ds.length-(i+1)<ds.length-i;omega,g0,g1,g5,g21,g22,rfl,hlt,((((hK.set _ _).set _ _).set _ _).set _ _),69,tag2,
   ⟨AH.set_same _ _ _,by rw[tk_objs,AH.set_ne _ _ nb1.symm,AH.set_ne _ _ n1,AH.set_same],by rw[tk_objs,AH.set_ne _ _ nb2.symm,AH.set_same]⟩,⟨(le_set (le_set (le_set hI2.le hg1) hg2) hgn).1,hT2.le⟩,hT2,fun _=>rfl⟩
 ·obtain rfl:i=ds.length:=by omega
  have c1:decide ((ds.length:Int)<(ds.length:Int))=false:=by simp
  rw[List.take_length] at hI
  simp only[u_C l5_1.eq_1,rn,pevA,seval,f21,f22,f23,c1]
  exact hR _ _ E tag f0 f1 f5 hI hK
theorem cadd2 (bn:Nat)(ds:List Dt)(hd:DsOk ds)(h:AH)(he:CnR h bn ds)(K:Nat->Prop)(R:CExit->AQ)(v0:AV)
  (hR:∀fr:AFr,fr 0=v0->fr 5=.ptr bn 0->R (.exit 4) fr h)
  (fr:AFr)(f0:fr 0=v0)(f5:fr 5=.ptr bn 0)(f79:fr 79=.lst 69 (dtsR ds) .no)(f80:fr 80=.int .i64 (ds.length:Nat))(f81:fr 81=.int .i64 0) :
  W T K (.loop l5_2.toC) fr h R:=by
 refine aloop (α:=Nat) (fun i fr h1=>fr 0=v0/\fr 5=.ptr bn 0/\fr 79=.lst 69 (dtsR ds) .no/\fr 80=.int .i64 (ds.length:Nat)/\fr 81=.int .i64 i/\i<=ds.length/\h1=h) (fun i=>ds.length-i) 0 ⟨f0,f5,f79,f80,f81,Nat.zero_le _,rfl⟩ ?_
 clear f0 f5 f79 f80 f81
 rintro i fr h1 ⟨f0,f5,f79,f80,f81,hi,rfl⟩
 have hlen:=hd.len
 by_cases hlt:i<ds.length
 ·have c1:decide ((i:Int)<(ds.length:Int))=true:=decide_eq_true (by omega)
  have hw:IntKind.i64.wrap ((i:Int)+1)=((i+1:Nat):Int):=by rw[wrap64 ⟨by omega,by omega⟩];rfl
  obtain⟨x,hx⟩ : ∃x,ds[i]?=some x:=⟨ds[i],by simp[hlt]⟩
  have hxm:=List.mem_of_getElem? hx
  have hget:(dtsR ds)[i]?=some (dtR x):=by rw[dtsR_get,hx];rfl
  have ha:=args_ok he x (hd.b x hxm) (hd.p x hxm) K
  simp only[dtR] at ha
  simp only[u_C l5_2.eq_1,rn,pevA,seval,f0,f5,f79,f80,f81,c1,hget,dtR]
  refine ha.mono ?_
  rintro _ _ ⟨rfl,rfl⟩
  simp only[rn,pevA,seval,f0,f5,f79,f80,f81,hw]
  exact⟨i+1,by show ds.length-(i+1)<ds.length-i;omega,f0,f5,f79,f80,rfl,hlt,rfl⟩
 ·obtain rfl:i=ds.length:=by omega
  have c1:decide ((ds.length:Int)<(ds.length:Int))=false:=by simp
  simp only[u_C l5_2.eq_1,rn,pevA,seval,f79,f80,f81,c1]
  exact hR _ f0 f5
theorem cadd_ok {h:AH}{be:Nat}{mv m2v:AV}{E:TypeId}{tg:Tag}(he:h.objs be=some (.cells [.lst E [] tg,mv,m2v] 29))(K:Nat->Prop)(hkb:¬K be)(ds:List Dt)(hd:DsOk ds) :
  ACall T K (.func 5) [.ptr be 0,.lst 69 (dtsR ds) .no] h fun v h'=>v=.nili/\CnR h' be ds/\(h.del be).le h':=by
 refine ACall.retQ t5 fun hK=>?_
 simp only[u_C c5.eq_1,rn,pevA,seval]
 refine (ccopy_ok he K).mono ?_
 rintro _ _ ⟨m1,m2,bn,rfl,hm1,hm2,hbn,hk1,hk2,hkn,n1,nb1,nb2,rfl⟩
 have e1:be≠m1:=by rintro rfl;rw[he] at hm1;cases hm1
 have e2:be≠m2:=by rintro rfl;rw[he] at hm2;cases hm2
 have e3:be≠bn:=by rintro rfl;rw[he] at hbn;cases hbn
 simp only[rn,pevA,seval,dtsR_len]
 refine cadd1 h be bn m1 m2 n1 nb1 nb2 hbn hm1 hm2 K hkn hk1 hk2 ds hd _ (.ptr be 0) (fun fr h1 E1 tag1 g0 g1 g5 hI hK1=>?_) _ _ .nil
  ⟨⟨AH.set_same _ _ _,by rw[AH.set_ne _ _ nb1.symm,AH.set_ne _ _ n1,AH.set_same];rfl,by rw[AH.set_ne _ _ nb2.symm,AH.set_same];rfl⟩,le_set (le_set (le_set (AH.le_refl _) hm1) hm2) hbn,.one _ _ _,fun h=>absurd rfl h⟩ (((hK.set _ _).set _ _).set _ _) rfl rfl rfl rfl rfl rfl
 simp only[rn,pevA,seval,g0,g1,g5,dtsR_len]
 refine cadd2 bn ds hd h1 hI.e.r K _ (.ptr be 0) (fun fr2 k0 k5=>?_) _ g0 g5 rfl rfl rfl
 have o1:=hI.e.o
 have ob:∃cs E,h1.objs be=some (.cells cs E)/\cs.length=3/\E=29:=⟨_,_,hI.le.1 _ _ he,rfl,rfl⟩
 have ob:=hI.le.1 _ _ he
 simp only[rn,pevA,seval,k0,k5,o1,ob,hkb]
 refine⟨_,_,.refl _ _,hK1.set _ _,rfl,⟨_,_,_,_,AH.set_same _ _ _,by rw[en_m,AH.set_ne _ _ e1.symm,hI.e.m],by rw[en_m,AH.set_ne _ _ e2.symm,hI.e.c]⟩,⟨fun n o hn=>?_,hI.T.le⟩⟩
 by_cases e:n=be
 ·subst e;rw[AH.del_objs,if_pos rfl] at hn;cases hn
 ·rw[AH.del_objs,if_neg e] at hn
  rw[AH.set_ne _ _ e]
  exact hI.le.1 _ _ hn
theorem mnames0_ok:Pure T 48 [.lst 128 [] .no] (.lst 9 (strC []) .no):=by
 intro K h
 refine ACall.ret t48 fun hK=>?_
 simp only[u_C c48.eq_1,rn,pevA,seval]
 refine aloop (α:=Unit) (fun _ fr h1=>fr 3=.lst 0 [] .nil/\fr 7=.int .i64 (0:Nat)/\fr 8=.int .i64 (0:Nat)/\h1=h) (fun _=>0) () ⟨rfl,rfl,rfl,rfl⟩ ?_
 rintro _ fr h1 ⟨f3,f7,f8,rfl⟩
 have c1:decide (((0:Nat):Int)<((0:Nat):Int))=false:=rfl
 simp only[u_C l48_0.eq_1,rn,pevA,seval,f3,f7,f8,c1]
 exact⟨.nil _ _ _,AH.le_refl _⟩
theorem sfunc0_ok (v:AV):Pure T 50 [.lst 9 (strC []) .no,v] (.bool false):=by
 intro K h
 refine ACall.ret t50 fun hK=>?_
 simp only[u_C c50.eq_1,rn,pevA,seval]
 have hi:Pure T 80 [.lst 9 (strC []) .no,v] (.int .i64 (-1)):=by
  intro K h
  refine ACall.ret t80 fun hK=>?_
  simp only[u_C c80.eq_1,rn,pevA,seval,strC_len]
  refine aloop (α:=Unit) (fun _ fr h1=>fr 7=.int .i64 (0:Nat)/\fr 8=.int .i64 (0:Nat)/\h1=h) (fun _=>0) () ⟨rfl,rfl,rfl⟩ ?_
  rintro _ fr h1 ⟨f7,f8,rfl⟩
  have c1:decide (((0:Nat):Int)<((0:Nat):Int))=false:=rfl
  simp only[u_C l80_0.eq_1,rn,pevA,seval,f7,f8,c1]
  exact⟨.refl _,AH.le_refl _⟩
 refine hi.use ?_
 simp only[rn,pevA,seval]
 exact⟨.refl _,AH.le_refl _⟩
theorem binds0_ok:Pure T 52 [.lst 139 [] .no] (.lst 139 [] .no):=by
 intro K h
 refine ACall.ret t52 fun hK=>?_
 simp only[u_C c52.eq_1,rn,pevA,seval]
 refine aloop (α:=Unit) (fun _ fr h1=>fr 3=.lst 0 [] .nil/\fr 7=.int .i64 (0:Nat)/\fr 8=.int .i64 (0:Nat)/\h1=h) (fun _=>0) () ⟨rfl,rfl,rfl,rfl⟩ ?_
 rintro _ fr h1 ⟨f3,f7,f8,rfl⟩
 have c1:decide (((0:Nat):Int)<((0:Nat):Int))=false:=rfl
 simp only[u_C l52_1.eq_1,rn,pevA,seval,f3,f7,f8,c1]
 exact⟨.nil _ _ _,AH.le_refl _⟩
theorem preds0_ok:Pure T 62 [.lst 149 [] .no] (.lst 149 [] .no):=by
 intro K h
 refine ACall.ret t62 fun hK=>?_
 simp only[u_C c62.eq_1,rn,pevA,seval]
 refine aloop (α:=Unit) (fun _ fr h1=>fr 3=.lst 0 [] .nil/\fr 7=.int .i64 (0:Nat)/\fr 8=.int .i64 (0:Nat)/\h1=h) (fun _=>0) () ⟨rfl,rfl,rfl,rfl⟩ ?_
 rintro _ fr h1 ⟨f3,f7,f8,rfl⟩
 have c1:decide (((0:Nat):Int)<((0:Nat):Int))=false:=rfl
 simp only[u_C l62_1.eq_1,rn,pevA,seval,f3,f7,f8,c1]
 exact⟨.nil _ _ _,AH.le_refl _⟩
def plC (n v:Nm):Cs:=⟨n,v,[],[],[],0⟩
theorem plC_R (n v:Nm):csR (plC n v)=[.str n,.str v,.lst 9 (strC []) .no,.lst 128 [] .no,.lst 139 [] .no,.int .i64 0]:=rfl
theorem kclone0_ok (n v:Nm):Pure T 26 [.agg (csR (plC n v))] (.agg (csR (plC n v))):=by
 intro K h
 refine ACall.ret t26 fun hK=>?_
 rw[plC_R]
 simp only[u_C c26.eq_1,rn,pevA,seval]
 intro b1 hb1 hk1
 simp only[rn,pevA,seval]
 intro b2 hb2 hk2
 obtain⟨n21,hb2⟩:=AH.set_none.1 hb2
 simp only[rn,pevA,seval,s_objs n21,s_objs n21.symm]
 refine (cloneS_ok [] (by simp)).use ?_
 simp only[rn,pevA,seval,s_objs n21,s_objs n21.symm,hk1]
 refine aloop (α:=Unit) (fun _ fr h1=>fr 1=.ptr b1 0/\fr 2=.ptr b2 0/\fr 14=.int .i64 (0:Nat)/\fr 15=.int .i64 (0:Nat)/\h1.objs b1=some (.cells [.str n,.str v,.lst 9 (strC []) .no,.lst 0 [] .nil,.lst 139 [] .no,.int .i64 0] 48)/\h1.objs b2=some (.cells [.str [],.str [],.lst 0 [] .nil,.lst 0 [] .nil,.lst 0 [] .nil,.int .i64 0] 48)/\h.le (h1.del b2)) (fun _=>0) () ?_ ?_
 ·refine⟨rfl,rfl,rfl,rfl,AH.set_same _ _ _,?_,?_⟩
  ·rw[AH.set_ne _ _ n21,AH.set_same]
  ·exact le_del (le_set (le_set (le_set (AH.le_refl _) hb1) hb2) hb1) hb2
 ·rintro _ fr h1 ⟨f1,f2,f14,f15,o1,o2,hle⟩
  have c1:decide (((0:Nat):Int)<((0:Nat):Int))=false:=rfl
  simp only[u_C l26_1.eq_1,rn,pevA,seval,f1,f14,f15,f2,o1,o2,c1]
  refine binds0_ok.use ?_
  simp only[rn,pevA,seval,f1,f14,f15,f2,o1,o2,hk1,hk2,s_objs n21,s_objs n21.symm]
  refine⟨.aggL ⟨.refl _,.refl _,.refl _,.nil _ _ _,.refl _,.refl _,trivial⟩,?_⟩
  rw[del_set n21.symm]
  exact le_set hle hb1
theorem cssR_get (l:List Cs)(i:Nat):(cssR l)[i]?=(l[i]?).map csR:=by rw[cssR,List.getElem?_map]
structure KnR (h:AH)(b:Nat)(cs:List Cs):Prop where
 r:∃E tag mv m2v,h.objs b=some (.cells [.lst E (cssR cs) tag,mv,m2v] 34)/\entA h mv=some (kvC (ixs Cs.name 0 cs))
theorem KnR.keep {h h':AH}{b:Nat}{cs:List Cs}(he:KnR h b cs)(hk:∀n o,h.objs n=some o->h'.objs n=some o):KnR h' b cs:=
 let ⟨E,tag,mv,m2v,h1,h2⟩:=he.r
 ⟨E,tag,mv,m2v,hk _ _ h1,ent_keep hk h2⟩
theorem is_cls {h:AH}{b:Nat}{cs:List Cs}(he:KnR h b cs)(n:Nm)(K:Nat->Prop):ACall T K (.func 58) [.ptr b 0,.str n] h fun v h'=>v=.bool (decide (n∈cs.map Cs.name))/\h'=h:=by
 refine ACall.ret t58 fun hK=>?_
 obtain⟨E,tag,mv,m2v,ho,hm⟩:=he.r
 cases hl:lkI Cs.name n 0 cs with
 |none=>
  have hn:=lkI_none.1 hl
  simp only[u_C c58.eq_1,rn,pevA,seval,ho,hm,kv_look,ixs_look,hl,Option.map_none,hn]
  exact⟨.refl _,AH.le_refl _⟩
 |some x=>
  have hn:n∈cs.map Cs.name:=by
   rcases Classical.em (n∈cs.map Cs.name) with h|h
   ·exact h
   ·rw[lkI_none.2 h] at hl;cases hl
  simp only[u_C c58.eq_1,rn,pevA,seval,ho,hm,kv_look,ixs_look,hl,Option.map_some,hn]
  exact⟨.refl _,AH.le_refl _⟩
def suV (cs:List Cs)(n:Nm):List Nm:=match lkI Cs.name n 0 cs with|some x=>x.2.supers|none=>[]
theorem supers_ok {h:AH}{b:Nat}{cs:List Cs}(he:KnR h b cs)(hl:∀c∈cs,c.supers.length<=1000000000)(n:Nm)(K:Nat->Prop):ACall T K (.func 107) [.ptr b 0,.str n] h fun v h'=>v=.lst 9 (strC (suV cs n)) .no/\h'=h:=by
 refine ACall.ret t107 fun hK=>?_
 obtain⟨E,tag,mv,m2v,ho,hm⟩:=he.r
 unfold suV
 cases e:lkI Cs.name n 0 cs with
 |none=>
  simp only[u_C c107.eq_1,rn,pevA,seval,ho,hm,kv_look,ixs_look,e,Option.map_none]
  exact⟨.nil _ _ _,AH.le_refl _⟩
 |some x=>
  obtain⟨j,c⟩:=x
  obtain⟨_,hj,_⟩:=lkI_get e
  rw[Nat.sub_zero] at hj
  have hget:(cssR cs)[j]?=some (csR c):=by rw[cssR_get,hj];rfl
  simp only[csR] at hget
  simp only[u_C c107.eq_1,rn,pevA,seval,ho,hm,kv_look,ixs_look,e,Option.map_some,hget]
  refine (cloneS_ok _ (hl c (List.mem_of_getElem? hj))).use ?_
  simp only[rn,pevA,seval]
  exact⟨.refl _,AH.le_refl _⟩
theorem above0_ok {h:AH}{b:Nat}{cs:List Cs}(he:KnR h b cs)(hl:∀c∈cs,c.supers=[])(n:Nm)(K:Nat->Prop):ACall T K (.func 53) [.ptr b 0,.str n] h fun v h'=>v=.lst 9 (strC []) .no/\h'=h:=by
 have h0:suV cs n=[]:=by
  unfold suV
  cases e:lkI Cs.name n 0 cs with
  |none=>rfl
  |some x=>exact hl _ (List.mem_of_getElem? (lkI_get e).2.1)
 have ha:ACall T K (.func 82) [.ptr b 0,.str n,.lst 0 [] .nil] h fun v h'=>v=.lst 9 (strC []) .no/\h'=h:=by
  refine ACall.ret t82 fun hK=>?_
  simp only[u_C c82.eq_1,rn,pevA,seval]
  refine (supers_ok he (fun c hc=>by rw[hl c hc];simp) n K).mono ?_
  rintro _ h ⟨rfl,rfl⟩
  rw[h0]
  simp only[rn,pevA,seval,strC_len]
  refine aloop (α:=Unit) (fun _ fr h1=>fr 2=.lst 0 [] .nil/\fr 12=.int .i64 (0:Nat)/\fr 13=.int .i64 (0:Nat)/\h1=h) (fun _=>0) () ⟨rfl,rfl,rfl,rfl⟩ ?_
  rintro _ fr h1 ⟨f2,f12,f13,rfl⟩
  have c1:decide (((0:Nat):Int)<((0:Nat):Int))=false:=rfl
  simp only[u_C l82_0.eq_1,rn,pevA,seval,f2,f12,f13,c1]
  exact⟨.nil _ _ _,AH.le_refl _⟩
 refine ACall.ret t53 fun hK=>?_
 simp only[u_C c53.eq_1,rn,pevA,seval]
 refine ha.mono ?_
 rintro _ _ ⟨rfl,rfl⟩
 simp only[rn,pevA,seval]
 exact⟨.refl _,AH.le_refl _⟩
structure KnE (h:AH)(b m1 m2:Nat)(E:TypeId)(tag:Tag)(cs:List Cs):Prop where
 o:h.objs b=some (.cells [.lst E (cssR cs) tag,.map m1,.map m2] 34)
 m:h.objs m1=some (.map (kvC (ixs Cs.name 0 cs)))
theorem KnE.r {h:AH}{b m1 m2:Nat}{E:TypeId}{tag:Tag}{cs:List Cs}(he:KnE h b m1 m2 E tag cs):KnR h b cs:=⟨E,tag,_,_,he.o,by rw[en_m,he.m]⟩
theorem KnE.keep {h h':AH}{b m1 m2:Nat}{E:TypeId}{tag:Tag}{cs:List Cs}(he:KnE h b m1 m2 E tag cs)(hk:∀n o,h.objs n=some o->h'.objs n=some o):KnE h' b m1 m2 E tag cs:=⟨hk _ _ he.o,hk _ _ he.m⟩
theorem knames0_ok {h:AH}{b:Nat}{cs:List Cs}(he:KnR h b cs)(n v:Nm)(hn:n∉cs.map Cs.name)(K:Nat->Prop):ACall T K (.func 24) [.ptr b 0,.agg (csR (plC n v))] h fun w h'=>w=.nili/\h'=h:=by
 refine ACall.ret t24 fun hK=>?_
 rw[plC_R]
 simp only[u_C c24.eq_1,rn,pevA,seval]
 intro b2 hb2 hk2
 obtain⟨E,tag,mv,m2v,ho,hm⟩:=(he.keep (set_keep (o:=.cells [.ptr b 0] 30) hb2)).r
 have hl:=lkI_none (i:=0).2 hn
 simp only[e_dregion d24_0,u_L s24_0.eq_1,u_T g24_0.eq_1,rn,pevA,seval,ho,hm,kv_look,ixs_look,hl,Option.map_none]
 refine mnames0_ok.use ?_
 simp only[rn,pevA,seval]
 refine (twiceC_ok [] .no).use ?_
 simp only[rn,pevA,seval,List.nodup_nil,not_true_eq_false]
 refine (twiceC_ok [] .no).use ?_
 simp only[rn,pevA,seval,List.nodup_nil,not_true_eq_false]
 refine (sfunc0_ok _).use ?_
 simp only[rn,pevA,seval]
 exact⟨.refl _,le_set (AH.le_refl _) hb2⟩
theorem kputs0_ok {h:AH}{b m1 m2:Nat}{E:TypeId}{tag:Tag}{cs:List Cs}(he:KnE h b m1 m2 E tag cs)(nb1:b≠m1)(hcs:cs.length<=1000000)(n v:Nm)(hn:n∉cs.map Cs.name)
  (K:Nat->Prop)(hkb:¬K b)(hk1:¬K m1)(t0:Nat->Option Cn.Tok)(hT:Toks t0 h.toks [(tag,48,6,0)])(hE:cssR cs≠[]->E=48) :
  ACall T K (.func 25) [.ptr b 0,.agg (csR (plC n v))] h fun _ h'=>∃tag' t',Toks t0 t' [(tag',48,6,0)]/\
   h'=((h.set m1 (.map (kvC (ixs Cs.name 0 (cs++[plC n v]))))).set b (.cells [.lst 48 (cssR (cs++[plC n v])) tag',.map m1,.map m2] 34)).tk t':=by
 refine ACall.retQ t25 fun hK=>?_
 have hput:mputA (.str n) (.int .i64 (cs.length:Nat)) (kvC (ixs Cs.name 0 cs))=some (kvC (ixs Cs.name 0 (cs++[plC n v]))):=by
  rw[kv_put _ _ _ (kvL_none.2 (by rw[ixs_keys];exact hn)),ixs_app,Nat.zero_add];rfl
 have ho:=he.o
 have hm:=he.m
 have hrow:cssR cs++[[.str n,.str v,.lst 9 (strC []) .no,.lst 128 [] .no,.lst 139 [] .no,.int .i64 0]]=cssR (cs++[plC n v]):=by rw[<-plC_R,cssR_snoc]
 rw[plC_R]
 simp only[u_C c25.eq_1,e_dregion d25_0,u_L s25_0.eq_1,u_T g25_0.eq_1,rn,pevA,seval,ho,hm,cssR_len,hput,hk1]
 have h1o:(h.set m1 (.map (kvC (ixs Cs.name 0 (cs++[plC n v]))))).objs b=some (.cells [.lst E (cssR cs) tag,.map m1,.map m2] 34):=by rw[AH.set_ne _ _ nb1];exact ho
 refine aloop (α:=Unit) (fun _ fr h1=>fr 0=.ptr b 0/\fr 3=.rptr [.str n,.str v,.lst 9 (strC []) .no,.lst 128 [] .no,.lst 139 [] .no,.int .i64 0]/\fr 19=.int .i64 (0:Nat)/\fr 20=.int .i64 (0:Nat)/\h1=h.set m1 (.map (kvC (ixs Cs.name 0 (cs++[plC n v]))))) (fun _=>0) () ⟨rfl,rfl,rfl,rfl,rfl⟩ ?_
 rintro _ fr h1 ⟨f0,f3,f19,f20,rfl⟩
 have c1:decide (((0:Nat):Int)<((0:Nat):Int))=false:=rfl
 simp only[u_C l25_2.eq_1,e_dregion d25_3,u_L s25_3.eq_1,u_T g25_3.eq_1,rn,pevA,seval,f0,f3,f19,f20,c1,h1o]
 refine WO.append (i:=0) hT rfl rfl rfl trivial (by decide) (by simp) rfl (.inr rfl) (fun _=>?_) ?_ fun tag2 t2 hT2=>?_
 ·simp[capOk,cssR_len];omega
 ·simp[big_eq,cssR_len];omega
 rw[hrow]
 simp only[e_dregion d25_3,u_L s25_3.eq_1,u_T g25_3.eq_1,rn,pevA,seval,f0,f3,h1o,hkb]
 exact⟨_,_,.refl _ _,(hK.set _ _).set _ _,tag2,t2,hT2,rfl⟩
theorem kright0_ok {h:AH}{b:Nat}{cs:List Cs}(he:KnR h b cs)(hl:∀c∈cs,c.supers=[])(kv:AV)(n v:Nm)(K:Nat->Prop):ACall T K (.func 27) [.ptr b 0,kv,.agg (csR (plC n v))] h fun w h'=>w=.nili/\h'=h:=by
 refine ACall.ret t27 fun hK=>?_
 rw[plC_R]
 have c1:decide (((0:Nat):Int)<((0:Nat):Int))=false:=rfl
 simp only[u_C c27.eq_1,rn,pevA,seval,strC_len]
 refine aloop (α:=Unit) (fun _ fr h1=>fr 0=.ptr b 0/\fr 5=.rptr [.str n,.str v,.lst 9 (strC []) .no,.lst 128 [] .no,.lst 139 [] .no,.int .i64 0]/\fr 19=.int .i64 (0:Nat)/\fr 20=.int .i64 (0:Nat)/\h1=h) (fun _=>0) () ⟨rfl,rfl,rfl,rfl,rfl⟩ ?_
 rintro _ fr h1 ⟨f0,f5,f19,f20,rfl⟩
 simp only[u_C l27_0.eq_1,e_dregion d27_1,u_L s27_1.eq_1,u_T g27_1.eq_1,rn,pevA,seval,f0,f5,f19,f20,c1]
 refine (above0_ok he hl n K).mono ?_
 rintro _ h1 ⟨rfl,rfl⟩
 simp only[e_dregion d27_1,u_L s27_1.eq_1,u_T g27_1.eq_1,rn,pevA,seval,f0,f5]
 refine (contains_ok _ _ _ _).use ?_
 simp only[e_dregion d27_1,u_L s27_1.eq_1,u_T g27_1.eq_1,rn,pevA,seval,f0,f5,List.not_mem_nil]
 refine aloop (α:=Unit) (fun _ fr h2=>fr 5=.rptr [.str n,.str v,.lst 9 (strC []) .no,.lst 128 [] .no,.lst 139 [] .no,.int .i64 0]/\fr 47=.int .i64 (0:Nat)/\fr 48=.int .i64 (0:Nat)/\h2=h1) (fun _=>0) () ⟨f5,rfl,rfl,rfl⟩ ?_
 rintro _ fr h2 ⟨f5,f47,f48,rfl⟩
 simp only[u_C l27_2.eq_1,rn,pevA,seval,f5,f47,f48,c1]
 refine mnames0_ok.use ?_
 simp only[rn,pevA,seval,f5]
 refine aloop (α:=Unit) (fun _ fr h1=>fr 72=.int .i64 (0:Nat)/\fr 73=.int .i64 (0:Nat)/\h1=h2) (fun _=>0) () ⟨rfl,rfl,rfl⟩ ?_
 rintro _ fr h1 ⟨f72,f73,rfl⟩
 simp only[u_C l27_3.eq_1,rn,pevA,seval,f72,f73,c1]
 exact⟨.refl _,AH.le_refl _⟩
theorem kcopy0_ok {h:AH}{be:Nat}{mv m2v:AV}{E:TypeId}{tg:Tag}(he:h.objs be=some (.cells [.lst E [] tg,mv,m2v] 34))(K:Nat->Prop) :
  ACall T K (.func 23) [.ptr be 0] h fun v h'=>∃m1 m2 bn,v=.ptr bn 0/\h.objs m1=none/\h.objs m2=none/\h.objs bn=none/\¬K m1/\¬K m2/\¬K bn/\m1≠m2/\bn≠m1/\bn≠m2/\h'=((h.set m1 (.map [])).set m2 (.map [])).set bn (.cells [.lst 0 [] .nil,.map m1,.map m2] 34):=by
 refine ACall.retQ t23 fun hK=>?_
 simp only[u_C c23.eq_1,rn,pevA,seval]
 intro m1 hm1 hk1
 simp only[rn,pevA,seval]
 intro m2 hm2 hk2
 obtain⟨n21,hm2⟩:=AH.set_none.1 hm2
 simp only[rn,pevA,seval]
 intro bn hbn hkn
 obtain⟨nn2,hbn⟩:=AH.set_none.1 hbn
 obtain⟨nn1,hbn⟩:=AH.set_none.1 hbn
 have he':(((h.set m1 (.map [])).set m2 (.map [])).set bn (.cells [.lst 0 [] .nil,.map m1,.map m2] 34)).objs be=some (.cells [.lst E [] tg,mv,m2v] 34):=by
  rw[AH.set_ne _ _ (by rintro rfl;rw[he] at hbn;cases hbn),AH.set_ne _ _ (by rintro rfl;rw[he] at hm2;cases hm2),AH.set_ne _ _ (by rintro rfl;rw[he] at hm1;cases hm1)]
  exact he
 simp only[rn,pevA,seval,he']
 refine aloop (α:=Unit) (fun _ fr h1=>fr 3=.ptr bn 0/\fr 14=.int .i64 0/\fr 15=.int .i64 0/\h1=((h.set m1 (.map [])).set m2 (.map [])).set bn (.cells [.lst 0 [] .nil,.map m1,.map m2] 34)) (fun _=>0) () ⟨rfl,rfl,rfl,rfl⟩ ?_
 rintro _ fr h1 ⟨f3,f14,f15,rfl⟩
 simp only[u_C l23_0.eq_1,rn,pevA,seval,f3,f14,f15]
 exact⟨_,_,.refl _ _,((hK.set _ _).set _ _).set _ _,m1,m2,bn,rfl,hm1,hm2,hbn,hk1,hk2,hkn,n21.symm,nn1,nn2,rfl⟩
structure KnI (g h:AH)(b m1 m2:Nat)(E:TypeId)(tag:Tag)(cs:List Cs):Prop where
 e:KnE h b m1 m2 E tag cs
 le:g.le h
 T:Toks g.toks h.toks [(tag,48,6,0)]
 hE:cssR cs≠[]->E=48
def plL (l:List (Nm×Nm)):List Cs:=l.map fun p=>plC p.1 p.2
theorem plL_sup (l:List (Nm×Nm)):∀c∈plL l,c.supers=[]:=fun c hc=>by obtain⟨p,_,rfl⟩:=List.mem_map.1 hc;rfl
theorem plL_name (l:List (Nm×Nm)):(plL l).map Cs.name=l.map (·.1):=by rw[plL,List.map_map];rfl
theorem nd_lt {l:List Nm}(hn:l.Nodup){i:Nat}{a:Nm}(ha:l[i]?=some a):a∉l.take i:=fun hm=>nd_not ha hm hn
theorem kadd1 (g:AH)(bn m1 m2:Nat)(nb1:bn≠m1)(hgn:g.objs bn=none)(hg1:g.objs m1=none)(K:Nat->Prop)(hkn:¬K bn)(hk1:¬K m1)(l:List (Nm×Nm))(hl:l.length<=1000)(hnd:(l.map (·.1)).Nodup)(R:CExit->AQ)(v0 v1:AV)
  (hR:∀(fr:AFr)(h:AH)(E:TypeId)(tag:Tag),fr 0=v0->fr 1=v1->fr 2=.lst 48 (cssR (plL l)) .no->fr 7=.ptr bn 0->KnI g h bn m1 m2 E tag (plL l)->KOk K h->R (.exit 0) fr h)
  (fr:AFr)(h:AH)(tag:Tag)(hI:KnI g h bn m1 m2 0 tag [])(hK:KOk K h)(f0:fr 0=v0)(f1:fr 1=v1)(f2:fr 2=.lst 48 (cssR (plL l)) .no)(f7:fr 7=.ptr bn 0)(f16:fr 16=.lst 48 (cssR (plL l)) .no)(f17:fr 17=.int .i64 (l.length:Nat))(f18:fr 18=.int .i64 0) :
  W T K (.loop l7_0.toC) fr h R:=by
 refine aloop (α:=Nat) (fun i fr h1=>fr 0=v0/\fr 1=v1/\fr 2=.lst 48 (cssR (plL l)) .no/\fr 7=.ptr bn 0/\fr 16=.lst 48 (cssR (plL l)) .no/\fr 17=.int .i64 (l.length:Nat)/\fr 18=.int .i64 i/\i<=l.length/\KOk K h1/\∃E tag,KnI g h1 bn m1 m2 E tag (plL (l.take i))) (fun i=>l.length-i) 0 ⟨f0,f1,f2,f7,f16,f17,f18,Nat.zero_le _,hK,0,tag,hI⟩ ?_
 clear f0 f1 f2 f7 f16 f17 f18 hI hK
 rintro i fr h1 ⟨f0,f1,f2,f7,f16,f17,f18,hi,hK,E,tag,hI⟩
 by_cases hlt:i<l.length
 ·have c1:decide ((i:Int)<(l.length:Int))=true:=decide_eq_true (by omega)
  have hw:IntKind.i64.wrap ((i:Int)+1)=((i+1:Nat):Int):=by rw[wrap64 ⟨by omega,by omega⟩];rfl
  obtain⟨x,hx⟩ : ∃x,l[i]?=some x:=⟨l[i],by simp[hlt]⟩
  have hget:(cssR (plL l))[i]?=some (csR (plC x.1 x.2)):=by rw[cssR_get,plL,List.getElem?_map,hx];rfl
  have hn:x.1∉(plL (l.take i)).map Cs.name:=by
   rw[plL_name,List.map_take]
   exact nd_lt hnd (by rw[List.getElem?_map,hx];rfl)
  have h1n:=knames0_ok hI.e.r x.1 x.2 hn K
  have h2n:=kclone0_ok x.1 x.2
  have h3n:=kputs0_ok hI.e nb1 (by rw[plL,List.length_map,List.length_take];omega) x.1 x.2 hn K hkn hk1 g.toks hI.T hI.hE
  have htk:plL (l.take i)++[plC x.1 x.2]=plL (l.take (i+1)):=by rw[List.take_add_one,hx];simp[plL]
  rw[htk] at h3n
  rw[plC_R] at hget h1n h2n h3n
  simp only[u_C l7_0.eq_1,rn,pevA,seval,f0,f1,f2,f7,f16,f17,f18,c1,hget]
  refine h1n.mono ?_
  rintro _ _ ⟨rfl,rfl⟩
  simp only[rn,pevA,seval,f0,f1,f2,f7]
  refine h2n.use ?_
  simp only[rn,pevA,seval,f0,f1,f2,f7]
  refine h3n.mono ?_
  rintro _ _ ⟨tag2,t2,hT2,rfl⟩
  simp only[rn,pevA,seval,f0,f1,f2,f7,f16,f17,f18,hw]
  exact⟨i+1,by show l.length-(i+1)<l.length-i;omega,f0,f1,f2,f7,f16,f17,rfl,hlt,(hK.set _ _).set _ _,48,tag2,
   ⟨AH.set_same _ _ _,by rw[tk_objs,AH.set_ne _ _ nb1.symm,AH.set_same]⟩,⟨(le_set (le_set hI.le hg1) hgn).1,hT2.le⟩,hT2,fun _=>rfl⟩
 ·obtain rfl:i=l.length:=by omega
  have c1:decide ((l.length:Int)<(l.length:Int))=false:=by simp
  rw[List.take_length] at hI
  simp only[u_C l7_0.eq_1,rn,pevA,seval,f16,f17,f18,c1]
  exact hR _ _ E tag f0 f1 f2 f7 hI hK
theorem kadd0_ok {h:AH}{be:Nat}{mv m2v:AV}{E:TypeId}{tg:Tag}(he:h.objs be=some (.cells [.lst E [] tg,mv,m2v] 34))(K:Nat->Prop)(hkb:¬K be)(kv:AV)(l:List (Nm×Nm))(hl:l.length<=1000)(hnd:(l.map (·.1)).Nodup) :
  ACall T K (.func 7) [.ptr be 0,kv,.lst 48 (cssR (plL l)) .no] h fun v h'=>v=.nili/\KnR h' be (plL l)/\(h.del be).le h':=by
 refine ACall.retQ t7 fun hK=>?_
 simp only[u_C c7.eq_1,rn,pevA,seval]
 refine (kcopy0_ok he K).mono ?_
 rintro _ _ ⟨m1,m2,bn,rfl,hm1,hm2,hbn,hk1,hk2,hkn,n1,nb1,nb2,rfl⟩
 have e1:be≠m1:=by rintro rfl;rw[he] at hm1;cases hm1
 have e3:be≠bn:=by rintro rfl;rw[he] at hbn;cases hbn
 have hll:(cssR (plL l)).length=l.length:=by rw[cssR_len,plL,List.length_map]
 simp only[rn,pevA,seval,hll]
 refine kadd1 h bn m1 m2 nb1 hbn hm1 K hkn hk1 l hl hnd _ (.ptr be 0) kv (fun fr h1 E1 tag1 g0 g1 g2 g7 hI hK1=>?_) _ _ .nil
  ⟨⟨AH.set_same _ _ _,by rw[AH.set_ne _ _ nb1.symm,AH.set_ne _ _ n1,AH.set_same];rfl⟩,le_set (le_set (le_set (AH.le_refl _) hm1) hm2) hbn,.one _ _ _,fun h=>absurd rfl h⟩ (((hK.set _ _).set _ _).set _ _) rfl rfl rfl rfl rfl rfl rfl
 simp only[rn,pevA,seval,g0,g1,g2,g7,hll]
 refine aloop (α:=Nat) (fun i fr h2=>fr 0=.ptr be 0/\fr 1=kv/\fr 7=.ptr bn 0/\fr 38=.lst 48 (cssR (plL l)) .no/\fr 39=.int .i64 (l.length:Nat)/\fr 40=.int .i64 i/\i<=l.length/\h2=h1) (fun i=>l.length-i) 0 ⟨g0,g1,g7,rfl,rfl,rfl,Nat.zero_le _,rfl⟩ ?_
 clear g0 g1 g2 g7
 rintro i fr h2 ⟨f0,f1,f7,f38,f39,f40,hi,rfl⟩
 by_cases hlt:i<l.length
 ·have c1:decide ((i:Int)<(l.length:Int))=true:=decide_eq_true (by omega)
  have hw:IntKind.i64.wrap ((i:Int)+1)=((i+1:Nat):Int):=by rw[wrap64 ⟨by omega,by omega⟩];rfl
  obtain⟨x,hx⟩ : ∃x,l[i]?=some x:=⟨l[i],by simp[hlt]⟩
  have hget:(cssR (plL l))[i]?=some (csR (plC x.1 x.2)):=by rw[cssR_get,plL,List.getElem?_map,hx];rfl
  have hr:=kright0_ok hI.e.r (plL_sup l) kv x.1 x.2 K
  rw[plC_R] at hget hr
  simp only[u_C l7_1.eq_1,rn,pevA,seval,f0,f1,f7,f38,f39,f40,c1,hget]
  refine hr.mono ?_
  rintro _ _ ⟨rfl,rfl⟩
  simp only[rn,pevA,seval,f0,f1,f7,f38,f39,f40,hw]
  exact⟨i+1,by show l.length-(i+1)<l.length-i;omega,f0,f1,f7,f38,f39,rfl,hlt,rfl⟩
 ·obtain rfl:i=l.length:=by omega
  have c1:decide ((l.length:Int)<(l.length:Int))=false:=by simp
  have o1:=hI.e.o
  have ob:=hI.le.1 _ _ he
  simp only[u_C l7_1.eq_1,rn,pevA,seval,f0,f1,f7,f38,f39,f40,c1,o1,ob,hkb]
  refine⟨_,_,.refl _ _,hK1.set _ _,rfl,⟨_,_,_,_,AH.set_same _ _ _,by rw[en_m,AH.set_ne _ _ e1.symm,hI.e.m]⟩,⟨fun n o hn=>?_,hI.T.le⟩⟩
  by_cases e:n=be
  ·subst e;rw[AH.del_objs,if_pos rfl] at hn;cases hn
  ·rw[AH.del_objs,if_neg e] at hn
   rw[AH.set_ne _ _ e]
   exact hI.le.1 _ _ hn
theorem onS_if {α:Type}{c:Prop} [Decidable c] {x:α}{Q:α->Prop}(hc:c)(hq:Q x):onS (if c then some x else none) Q:=by rw[if_pos hc];exact⟨x,rfl,hq⟩
def keyV (a c:Nm):Nm:=a++[58]++c
theorem key_ok (a c:Nm)(ha:a.length<=1000000)(hc:c.length<=1000000):Pure T 8 [.str a,.str c] (.str (keyV a c)):=by
 intro K h
 refine ACall.ret t8 fun hK=>?_
 simp only[u_C c8.eq_1,rn,pevA,seval]
 refine onS_if (by (try simp);omega) ?_
 simp only[rn,pevA,seval]
 refine onS_if (by (try simp);omega) ?_
 simp only[rn,pevA,seval]
 exact⟨.refl _,AH.le_refl _⟩
def plI (cls con:Nm)(vars:List Nm)(pos:Int):In:=⟨cls,con,vars,[],[],pos⟩
theorem plI_R (cls con:Nm)(vars:List Nm)(pos:Int):inR (plI cls con vars pos)=[.str cls,.str con,.lst 9 (strC vars) .no,.lst 149 [] .no,.lst 139 [] .no,.int .i64 pos]:=rfl
theorem iclone_ok (cls con:Nm)(vars:List Nm)(hv:vars.length<=1000000000)(pos:Int):Pure T 32 [.agg (inR (plI cls con vars pos))] (.agg (inR (plI cls con vars pos))):=by
 intro K h
 refine ACall.ret t32 fun hK=>?_
 rw[plI_R]
 simp only[u_C c32.eq_1,rn,pevA,seval]
 intro b1 hb1 hk1
 simp only[rn,pevA,seval]
 intro b2 hb2 hk2
 obtain⟨n21,hb2⟩:=AH.set_none.1 hb2
 simp only[e_dregion d32_0,u_L s32_0.eq_1,u_T g32_0.eq_1,rn,pevA,seval,s_objs n21,s_objs n21.symm,kN,kG,n21,n21.symm]
 refine (cloneS_ok vars hv).use ?_
 simp only[e_dregion d32_0,u_L s32_0.eq_1,u_T g32_0.eq_1,rn,pevA,seval,s_objs n21,s_objs n21.symm,kN,kG,n21,n21.symm]
 refine preds0_ok.use ?_
 simp only[e_dregion d32_0,u_L s32_0.eq_1,u_T g32_0.eq_1,rn,pevA,seval,s_objs n21,s_objs n21.symm,kN,kG,n21,n21.symm]
 refine binds0_ok.use ?_
 simp only[e_dregion d32_0,u_L s32_0.eq_1,u_T g32_0.eq_1,rn,pevA,seval,s_objs n21,s_objs n21.symm,kN,kG,n21,n21.symm,hk1,hk2]
 exact⟨.refl _,le_del (le_set (AH.le_refl _) hb1) hb2⟩
theorem insR_get (l:List In)(i:Nat):(insR l)[i]?=(l[i]?).map inR:=by rw[insR,List.getElem?_map]
def keyI (x:In):Nm:=keyV x.cls x.con
structure InP (x:In):Prop where
 ctx:x.ctx=[]
 binds:x.binds=[]
 vars:x.vars.length<=1000000000
 cls:x.cls.length<=1000000
 con:x.con.length<=1000000
theorem InP.eq {x:In}(h:InP x):x=plI x.cls x.con x.vars x.pos:=by
 obtain⟨a,b,c,d,e,f⟩:=x
 have h1:=h.ctx
 have h2:=h.binds
 simp only at h1 h2
 rw[h1,h2];rfl
theorem InP.R {x:In}(h:InP x):inR x=[.str x.cls,.str x.con,.lst 9 (strC x.vars) .no,.lst 149 [] .no,.lst 139 [] .no,.int .i64 x.pos]:=by rw[h.eq];rfl
theorem InP.clone {x:In}(h:InP x):Pure T 32 [.agg (inR x)] (.agg (inR x)):=by
 have:=iclone_ok x.cls x.con x.vars h.vars x.pos
 rwa [<-h.eq] at this
structure InR (h:AH)(b m:Nat)(E:TypeId)(tag:Tag)(l:List In):Prop where
 o:h.objs b=some (.cells [.lst E (insR l) tag,.map m] 38)
 m:h.objs m=some (.map (kvC (ixs keyI 0 l)))
theorem InR.keep {h h':AH}{b m:Nat}{E:TypeId}{tag:Tag}{l:List In}(he:InR h b m E tag l)(hk:∀n o,h.objs n=some o->h'.objs n=some o):InR h' b m E tag l:=⟨hk _ _ he.o,hk _ _ he.m⟩
theorem iputs_ok {h:AH}{b m:Nat}{E:TypeId}{tag:Tag}{l:List In}(he:InR h b m E tag l)(nb:b≠m)(hl:l.length<=1000000){x:In}(hx:InP x)(hn:keyI x∉l.map keyI)
  (K:Nat->Prop)(hkb:¬K b)(hk1:¬K m)(t0:Nat->Option Cn.Tok)(hT:Toks t0 h.toks [(tag,51,6,0)])(hE:insR l≠[]->E=51) :
  ACall T K (.func 31) [.ptr b 0,.agg (inR x)] h fun _ h'=>∃tag' t',Toks t0 t' [(tag',51,6,0)]/\
   h'=((h.set m (.map (kvC (ixs keyI 0 (l++[x]))))).set b (.cells [.lst 51 (insR (l++[x])) tag',.map m] 38)).tk t':=by
 refine ACall.retQ t31 fun hK=>?_
 have hput:mputA (.str (keyV x.cls x.con)) (.int .i64 (l.length:Nat)) (kvC (ixs keyI 0 l))=some (kvC (ixs keyI 0 (l++[x]))):=by
  rw[kv_put _ _ _ (kvL_none.2 (by rw[ixs_keys];exact hn)),ixs_app,Nat.zero_add];rfl
 have ho:=he.o
 have hm:=he.m
 have hrow:insR l++[[.str x.cls,.str x.con,.lst 9 (strC x.vars) .no,.lst 149 [] .no,.lst 139 [] .no,.int .i64 x.pos]]=insR (l++[x]):=by rw[<-hx.R,insR_snoc]
 rw[hx.R]
 simp only[u_C c31.eq_1,e_dregion d31_0,u_L s31_0.eq_1,u_T g31_0.eq_1,rn,pevA,seval,ho,hm,insR_len]
 refine (key_ok _ _ hx.cls hx.con).use ?_
 simp only[e_dregion d31_0,u_L s31_0.eq_1,u_T g31_0.eq_1,rn,pevA,seval,ho,hm,insR_len,hput,hk1]
 have h1o:(h.set m (.map (kvC (ixs keyI 0 (l++[x]))))).objs b=some (.cells [.lst E (insR l) tag,.map m] 38):=by rw[AH.set_ne _ _ nb];exact ho
 simp only[e_dregion d31_1,u_L s31_1.eq_1,u_T g31_1.eq_1,rn,pevA,seval,h1o]
 refine WO.append (i:=0) hT rfl rfl rfl trivial (by decide) (by simp) rfl (.inr rfl) (fun _=>?_) ?_ fun tag2 t2 hT2=>?_
 ·simp[capOk,insR_len];omega
 ·simp[big_eq,insR_len];omega
 rw[hrow]
 simp only[e_dregion d31_1,u_L s31_1.eq_1,u_T g31_1.eq_1,rn,pevA,seval,h1o,hkb]
 exact⟨_,_,.refl _ _,(hK.set _ _).set _ _,tag2,t2,hT2,rfl⟩
structure InI (g h:AH)(b m:Nat)(E:TypeId)(tag:Tag)(l:List In):Prop where
 e:InR h b m E tag l
 le:g.le h
 T:Toks g.toks h.toks [(tag,51,6,0)]
 hE:insR l≠[]->E=51
theorem InI.put {g h:AH}{b m:Nat}{E:TypeId}{tag:Tag}{l:List In}(hi:InI g h b m E tag l)(nb:b≠m)(gb:g.objs b=none)(gm:g.objs m=none){x:In}{tag2:Tag}{t2:Nat->Option Cn.Tok}(hT:Toks g.toks t2 [(tag2,51,6,0)]) :
  InI g (((h.set m (.map (kvC (ixs keyI 0 (l++[x]))))).set b (.cells [.lst 51 (insR (l++[x])) tag2,.map m] 38)).tk t2) b m 51 tag2 (l++[x]):=
 ⟨⟨AH.set_same _ _ _,by rw[tk_objs,AH.set_ne _ _ nb.symm,AH.set_same]⟩,⟨(le_set (le_set hi.le gm) gb).1,hT.le⟩,hT,fun _=>rfl⟩
theorem icopy_ok {h:AH}{be:Nat}{mv:AV}{E:TypeId}{tg:Tag}{l:List In}(he:h.objs be=some (.cells [.lst E (insR l) tg,mv] 38))(hl:l.length<=1000000)(hp:∀x∈l,InP x)(hnd:(l.map keyI).Nodup)(K:Nat->Prop) :
  ACall T K (.func 29) [.ptr be 0] h fun v h'=>∃m bn E' tag',v=.ptr bn 0/\h.objs m=none/\h.objs bn=none/\¬K m/\¬K bn/\bn≠m/\KOk K h'/\InI h h' bn m E' tag' l:=by
 refine ACall.retQ t29 fun hK=>?_
 simp only[u_C c29.eq_1,rn,pevA,seval]
 intro m hm hk
 simp only[rn,pevA,seval]
 intro bn hbn hkn
 obtain⟨nb,hbn⟩:=AH.set_none.1 hbn
 have he':((h.set m (.map [])).set bn (.cells [.lst 0 [] .nil,.map m] 38)).objs be=some (.cells [.lst E (insR l) tg,mv] 38):=by
  rw[AH.set_ne _ _ (by rintro rfl;rw[he] at hbn;cases hbn),AH.set_ne _ _ (by rintro rfl;rw[he] at hm;cases hm)]
  exact he
 simp only[rn,pevA,seval,he',insR_len]
 refine aloop (α:=Nat) (fun i fr h1=>fr 3=.ptr bn 0/\fr 12=.lst E (insR l) tg/\fr 13=.int .i64 (l.length:Nat)/\fr 14=.int .i64 i/\i<=l.length/\KOk K h1/\∃E' tag',InI h h1 bn m E' tag' (l.take i)) (fun i=>l.length-i) 0
  ⟨rfl,rfl,rfl,rfl,Nat.zero_le _,(hK.set _ _).set _ _,0,.nil,⟨AH.set_same _ _ _,by rw[AH.set_ne _ _ nb.symm,AH.set_same];rfl⟩,le_set (le_set (AH.le_refl _) hm) hbn,.one _ _ _,fun h=>absurd rfl h⟩ ?_
 rintro i fr h1 ⟨f3,f12,f13,f14,hi,hK1,E',tag',hI⟩
 by_cases hlt:i<l.length
 ·have c1:decide ((i:Int)<(l.length:Int))=true:=decide_eq_true (by omega)
  have hw:IntKind.i64.wrap ((i:Int)+1)=((i+1:Nat):Int):=by rw[wrap64 ⟨by omega,by omega⟩];rfl
  obtain⟨x,hx⟩ : ∃x,l[i]?=some x:=⟨l[i],by simp[hlt]⟩
  have hxp:=hp x (List.mem_of_getElem? hx)
  have hget:(insR l)[i]?=some (inR x):=by rw[insR_get,hx];rfl
  have hn:keyI x∉(l.take i).map keyI:=by rw[List.map_take];exact nd_lt hnd (by rw[List.getElem?_map,hx];rfl)
  have hc:=hxp.clone
  have hput:=iputs_ok hI.e nb (by rw[List.length_take];omega) hxp hn K hkn hk h.toks hI.T hI.hE
  have htk:l.take i++[x]=l.take (i+1):=by rw[List.take_add_one,hx];rfl
  rw[hxp.R] at hget hc hput
  simp only[u_C l29_0.eq_1,rn,pevA,seval,f3,f12,f13,f14,c1,hget]
  refine hc.use ?_
  simp only[rn,pevA,seval,f3,f12,f13,f14]
  refine hput.mono ?_
  rintro _ _ ⟨tag2,t2,hT2,rfl⟩
  simp only[rn,pevA,seval,f3,f12,f13,f14,hw]
  refine⟨i+1,by show l.length-(i+1)<l.length-i;omega,f3,f12,f13,rfl,hlt,(hK1.set _ _).set _ _,51,tag2,?_⟩
  rw[<-htk]
  exact hI.put nb hbn hm hT2
 ·obtain rfl:i=l.length:=by omega
  have c1:decide ((l.length:Int)<(l.length:Int))=false:=by simp
  rw[List.take_length] at hI
  simp only[u_C l29_0.eq_1,rn,pevA,seval,f3,f12,f13,f14,c1]
  exact⟨_,h1,.refl _ _,hK1,m,bn,E',tag',rfl,hm,hbn,hk,hkn,nb,hK1,hI⟩
theorem ACall.weakL {K:Nat->Prop}{h:AH}{f:Fn}{args args':List AV}{Q:AV->AH->Prop}(hc:ACall T K f args' h Q)(hw:WkL args args'):ACall T K f args h Q:=hc.weak hw.len hw.get
theorem icontext_ok (kv:AV){x:In}(hx:InP x):Pure T 60 [kv,.agg (inR x)] .nili:=by
 intro K h
 refine ACall.ret t60 fun hK=>?_
 rw[hx.R]
 have c1:decide (((0:Nat):Int)<((0:Nat):Int))=false:=rfl
 simp only[u_C c60.eq_1,rn,pevA,seval]
 refine aloop (α:=Unit) (fun _ fr h1=>fr 3=.rptr [.str x.cls,.str x.con,.lst 9 (strC x.vars) .no,.lst 149 [] .no,.lst 139 [] .no,.int .i64 x.pos]/\fr 11=.int .i64 (0:Nat)/\fr 12=.int .i64 (0:Nat)/\h1=h) (fun _=>0) () ⟨rfl,rfl,rfl,rfl⟩ ?_
 rintro _ fr h1 ⟨f3,f11,f12,rfl⟩
 simp only[u_C l60_0.eq_1,rn,pevA,seval,f3,f11,f12,c1]
 refine aloop (α:=Unit) (fun _ fr h2=>fr 25=.int .i64 (0:Nat)/\fr 26=.int .i64 (0:Nat)/\h2=h1) (fun _=>0) () ⟨rfl,rfl,rfl⟩ ?_
 rintro _ fr h2 ⟨f25,f26,rfl⟩
 simp only[u_C l60_1.eq_1,rn,pevA,seval,f25,f26,c1]
 exact⟨.refl _,AH.le_refl _⟩
theorem ibinds_ok (kv:AV){x:In}(hx:InP x):Pure T 61 [kv,.agg (inR x)] .nili:=by
 intro K h
 refine ACall.ret t61 fun hK=>?_
 rw[hx.R]
 have c1:decide (((0:Nat):Int)<((0:Nat):Int))=false:=rfl
 simp only[u_C c61.eq_1,rn,pevA,seval]
 refine aloop (α:=Unit) (fun _ fr h1=>fr 5=.lst 0 [] .nil/\fr 13=.int .i64 (0:Nat)/\fr 14=.int .i64 (0:Nat)/\h1=h) (fun _=>0) () ⟨rfl,rfl,rfl,rfl⟩ ?_
 rintro _ fr h1 ⟨f5,f13,f14,rfl⟩
 simp only[u_C l61_0.eq_1,rn,pevA,seval,f5,f13,f14,c1]
 refine ACall.weakL (args':=[.lst 9 (strC []) .no]) ((twiceI_ok [] .no).use ?_) ⟨.nil _ _ _,trivial⟩
 simp only[rn,pevA,seval,List.nodup_nil,not_true_eq_false]
 exact⟨.refl _,AH.le_refl _⟩
structure InG (cs:List Cs)(ds:List Dt)(x:In):Prop where
 p:InP x
 cls:x.cls∈cs.map Cs.name
 con:arO ds x.con=some x.vars.length
 vars:x.vars.Nodup
theorem iright_ok {h:AH}{b m bk bc:Nat}{E:TypeId}{tag:Tag}{l:List In}{cs:List Cs}{ds:List Dt}(he:InR h b m E tag l)(hk:KnR h bk cs)(hc:CnR h bc ds){x:In}(hx:InG cs ds x)(gl:AV)(hg:keyI x∈l.map keyI->∃Eg,h.objs 0=some (.stat [gl] Eg))(K:Nat->Prop) :
  ACall T K (.func 30) [.ptr b 0,.ptr bc 0,.ptr bk 0,.agg (inR x)] h fun v h'=>v=(if keyI x∈l.map keyI then gl else .nili)/\h'=h:=by
 refine ACall.ret t30 fun hK=>?_
 have hcx:=icontext_ok (.ptr bk 0) hx.p
 have hbx:=ibinds_ok (.ptr bk 0) hx.p
 have hcls:=hx.cls
 rw[hx.p.R] at hcx hbx ⊢
 have ho:=he.o
 have hm:=he.m
 simp only[u_C c30.eq_1,rn,pevA,seval]
 refine (is_cls hk x.cls K).mono ?_
 rintro _ h ⟨rfl,rfl⟩
 simp only[rn,pevA,seval,hcls]
 refine (arity_ok hc x.con K).mono ?_
 rintro _ h ⟨rfl,rfl⟩
 rw[hx.con]
 have d1:decide ((x.vars.length:Int)=(x.vars.length:Int))=true:=by simp
 simp only[rn,pevA,seval,arT,strC_len,d1]
 simp only[e_dregion d30_0,u_L s30_0.eq_1,u_T g30_0.eq_1,rn,pevA,seval,ho,hm]
 refine (key_ok _ _ hx.p.cls hx.p.con).use ?_
 have hkk:keyV x.cls x.con=keyI x:=rfl
 rw[hkk]
 cases hl:lkI keyI (keyI x) 0 l with
 |none=>
  have hn:=lkI_none.1 hl
  rw[if_neg hn]
  simp only[e_dregion d30_0,u_L s30_0.eq_1,u_T g30_0.eq_1,rn,pevA,seval,ho,hm,kv_look,ixs_look,hl,Option.map_none]
  refine (twiceI_ok _ _).use ?_
  have hnd:=hx.vars
  simp only[rn,pevA,seval,hnd,not_true_eq_false]
  refine hcx.use ?_
  simp only[rn,pevA,seval]
  refine hbx.use ?_
  simp only[rn,pevA,seval]
  exact⟨.refl _,AH.le_refl _⟩
 |some y=>
  have hn:keyI x∈l.map keyI:=by
   rcases Classical.em (keyI x∈l.map keyI) with h|h
   ·exact h
   ·rw[lkI_none.2 h] at hl;cases hl
  rw[if_pos hn]
  obtain⟨Eg,hgo⟩:=hg hn
  simp only[e_dregion d30_0,u_L s30_0.eq_1,u_T g30_0.eq_1,rn,pevA,seval,ho,hm,kv_look,ixs_look,hl,Option.map_some,hgo]
  exact⟨.refl _,AH.le_refl _⟩
def adI:List In->List In->Option In
 |_,[]=>none
 |l,x::r=>if keyI x∈l.map keyI then some x else adI (l++[x]) r
theorem adI_nd:∀{l r:List In},(l.map keyI).Nodup->adI l r=none->((l++r).map keyI).Nodup
 |l,[],h,_=>by rw[List.append_nil];exact h
 |l,x::r,h,e=>by
  simp only[adI] at e
  split at e
  ·cases e
  ·rename_i hn
   have:=adI_nd (l:=l++[x]) (r:=r) (by rw[List.map_append];exact List.nodup_append.2 ⟨h,by simp,fun a ha b hb=>by simp at hb;subst hb;rintro rfl;exact hn ha⟩) e
   rwa [List.append_assoc] at this
def errV (g0:Nat)(pos:Int):AV:=.iface 72 (.rptr [.int .i64 pos,.iface 212 (.ptr g0 0)])
theorem iadd_ok {h:AH}{be bk bc:Nat}{mv:AV}{E:TypeId}{tg:Tag}{l:List In}{cs:List Cs}{ds:List Dt}(he:h.objs be=some (.cells [.lst E (insR l) tg,mv] 38))(hk:KnR h bk cs)(hc:CnR h bc ds)(hl:l.length<=1000)(hp:∀x∈l,InP x)(hnd:(l.map keyI).Nodup)
  (r:List In)(hr:r.length<=1000)(hrp:∀x∈r,InG cs ds x)(g0:Nat)(Eg:TypeId)(hg:h.objs 0=some (.stat [.iface 212 (.ptr g0 0)] Eg))(K:Nat->Prop)(hkb:¬K be) :
  ACall T K (.func 10) [.ptr be 0,.ptr bc 0,.ptr bk 0,.lst 51 (insR r) .no] h fun v h'=>
   (adI l r=none/\v=.nili/\∃m E' tag',InR h' be m E' tag' (l++r)/\(h.del be).le h')\/
   (∃x,adI l r=some x/\v=errV g0 x.pos/\h'=h):=by
 refine ACall.retQ t10 fun hK=>?_
 simp only[u_C c10.eq_1,rn,pevA,seval]
 refine (icopy_ok he (by omega) hp hnd K).mono ?_
 rintro _ h1 ⟨m,bn,E0,tag0,rfl,hm,hbn,hkm,hkn,nb,hK1,hI⟩
 have eb:be≠bn:=by rintro rfl;rw[he] at hbn;cases hbn
 have em:be≠m:=by rintro rfl;rw[he] at hm;cases hm
 simp only[rn,pevA,seval,insR_len]
 refine aloop (α:=Nat) (fun i fr h1=>fr 0=.ptr be 0/\fr 1=.ptr bc 0/\fr 2=.ptr bk 0/\fr 9=.ptr bn 0/\fr 15=.lst 51 (insR r) .no/\fr 16=.int .i64 (r.length:Nat)/\fr 17=.int .i64 i/\i<=r.length/\KOk K h1/\((l++r.take i).map keyI).Nodup/\adI l r=adI (l++r.take i) (r.drop i)/\∃E' tag',InI h h1 bn m E' tag' (l++r.take i)) (fun i=>r.length-i) 0
  ⟨rfl,rfl,rfl,rfl,rfl,rfl,rfl,Nat.zero_le _,hK1,by simpa using hnd,by simp,E0,tag0,by simpa using hI⟩ ?_
 clear hI hK1
 rintro i fr h1 ⟨f0,f1,f2,f9,f15,f16,f17,hi,hK1,hnd1,had,E',tag',hI⟩
 by_cases hlt:i<r.length
 ·have c1:decide ((i:Int)<(r.length:Int))=true:=decide_eq_true (by omega)
  have hw:IntKind.i64.wrap ((i:Int)+1)=((i+1:Nat):Int):=by rw[wrap64 ⟨by omega,by omega⟩];rfl
  obtain⟨x,hx⟩ : ∃x,r[i]?=some x:=⟨r[i],by simp[hlt]⟩
  have hdr:r.drop i=x::r.drop (i+1):=by
   obtain⟨_,hx'⟩:=List.getElem?_eq_some_iff.1 hx
   rw[List.drop_eq_getElem_cons hlt,hx']
  rw[hdr,adI] at had
  have hxg:=hrp x (List.mem_of_getElem? hx)
  have hget:(insR r)[i]?=some (inR x):=by rw[insR_get,hx];rfl
  have hright:=iright_ok hI.e (hk.keep hI.le.1) (hc.keep hI.le.1) hxg (.iface 212 (.ptr g0 0)) (fun _=>⟨Eg,hI.le.1 _ _ hg⟩) K
  have hcl:=hxg.p.clone
  have htk:l++r.take i++[x]=l++r.take (i+1):=by rw[List.take_add_one,hx,List.append_assoc];rfl
  simp only[u_C l10_0.eq_1,rn,pevA,seval,f0,f1,f2,f9,f15,f16,f17,c1,hget]
  rw[hxg.p.R] at hright hcl ⊢
  simp only[rn,pevA,seval,f0,f1,f2,f9]
  refine hright.mono ?_
  rintro _ _ ⟨rfl,rfl⟩
  by_cases hn:keyI x∈(l++r.take i).map keyI
  ·rw[if_pos hn] at had ⊢
   simp only[rn,pevA,seval,f0,f1,f2,f9]
   exact⟨_,h,.drop hI.le (.refl _ _),hK,.inr ⟨x,had,rfl,rfl⟩⟩
  ·rw[if_neg hn] at had ⊢
   have hput:=iputs_ok hI.e nb (by rw[List.length_append,List.length_take];omega) hxg.p hn K hkn hkm h.toks hI.T hI.hE
   rw[hxg.p.R] at hput
   simp only[rn,pevA,seval,f0,f1,f2,f9]
   refine hcl.use ?_
   simp only[rn,pevA,seval,f0,f1,f2,f9]
   refine hput.mono ?_
   rintro _ _ ⟨tag2,t2,hT2,rfl⟩
   simp only[rn,pevA,seval,f0,f1,f2,f9,f15,f16,f17,hw]
   refine⟨i+1,by show r.length-(i+1)<r.length-i;omega,f0,f1,f2,f9,f15,f16,rfl,hlt,(hK1.set _ _).set _ _,?_,?_,51,tag2,?_⟩
   ·rw[<-htk,List.map_append]
    exact List.nodup_append.2 ⟨hnd1,by simp,fun a ha b hb=>by simp at hb;subst hb;rintro rfl;exact hn ha⟩
   ·rw[<-htk];exact had
   ·rw[<-htk];exact hI.put nb hbn hm hT2
 ·obtain rfl:i=r.length:=by omega
  have c1:decide ((r.length:Int)<(r.length:Int))=false:=by simp
  rw[List.take_length] at hI hnd1 had
  rw[List.drop_length,adI] at had
  have o1:=hI.e.o
  have ob:=hI.le.1 _ _ he
  simp only[u_C l10_0.eq_1,rn,pevA,seval,f0,f1,f2,f9,f15,f16,f17,c1,o1,ob,hkb]
  refine⟨_,_,.refl _ _,hK1.set _ _,.inl ⟨had,rfl,m,E',tag',⟨AH.set_same _ _ _,by rw[AH.set_ne _ _ em.symm];exact hI.e.m⟩,⟨fun n o hn=>?_,hI.T.le⟩⟩⟩
  by_cases e:n=be
  ·subst e;rw[AH.del_objs,if_pos rfl] at hn;cases hn
  ·rw[AH.del_objs,if_neg e] at hn
   rw[AH.set_ne _ _ e]
   exact hI.le.1 _ _ hn
theorem sameTexts_refl (E E':TypeId)(l:List Nm)(t t':Tag):Pure T 37 [.lst E (strC l) t,.lst E' (strC l) t'] (.bool true):=by
 intro K h
 refine ACall.ret t37 fun hK=>?_
 have d0:decide ((l.length:Int)=(l.length:Int))=true:=by simp
 simp only[u_C c37.eq_1,rn,pevA,seval,strC_len,d0]
 refine W.bound (t:=0) rfl fun hB=>?_
 rw[strC_len] at hB
 refine aloop (α:=Nat) (fun k fr h1=>fr 0=.lst E (strC l) t/\fr 1=.lst E' (strC l) t'/\fr 5=.int .i64 k/\k<=l.length/\h1=h) (fun k=>l.length-k) 0 ⟨rfl,rfl,rfl,Nat.zero_le _,rfl⟩ ?_
 rintro k fr h1 ⟨f0,f1,f5,hk,rfl⟩
 by_cases hlt:k<l.length
 ·have c1:decide ((k:Int)<(l.length:Int))=true:=decide_eq_true (by omega)
  obtain⟨a,ha⟩ : ∃a,l[k]?=some a:=⟨l[k],by simp[hlt]⟩
  have hget:(strC l)[k]?=some [.str a]:=by rw[strC_get,ha];rfl
  have d1:decide (a=a)=true:=by simp
  simp only[u_C l37_1.eq_1,e_dregion d37_0,u_L s37_0.eq_1,u_T g37_0.eq_1,rn,pevA,seval,f0,f1,f5,strC_len,c1,hget,d1,wrapS hlt hB]
  exact⟨k+1,by show l.length-(k+1)<l.length-k;omega,f0,f1,rfl,hlt,rfl⟩
 ·obtain rfl:k=l.length:=by omega
  have c1:decide ((l.length:Int)<(l.length:Int))=false:=by simp
  simp only[u_C l37_1.eq_1,rn,pevA,seval,f0,f1,f5,strC_len,c1]
  exact⟨.refl _,AH.le_refl _⟩
theorem samePreds0:Pure T 38 [.lst 149 [] .no,.lst 149 [] .no] (.bool true):=by
 intro K h
 refine ACall.ret t38 fun hK=>?_
 have c1:decide (((0:Nat):Int)<((0:Nat):Int))=false:=rfl
 have d0:decide (((0:Nat):Int)=((0:Nat):Int))=true:=rfl
 simp only[u_C c38.eq_1,rn,pevA,seval,d0]
 refine aloop (α:=Unit) (fun _ fr h1=>fr 0=.lst 149 [] .no/\fr 5=.int .i64 (0:Nat)/\h1=h) (fun _=>0) () ⟨rfl,rfl,rfl⟩ ?_
 rintro _ fr h1 ⟨f0,f5,rfl⟩
 simp only[u_C l38_1.eq_1,rn,pevA,seval,f0,f5,c1]
 exact⟨.refl _,AH.le_refl _⟩
theorem sameBinds0 (b:Bool):Pure T 39 [.lst 139 [] .no,.lst 139 [] .no,.bool b] (.bool true):=by
 intro K h
 refine ACall.ret t39 fun hK=>?_
 have c1:decide (((0:Nat):Int)<((0:Nat):Int))=false:=rfl
 have d0:decide (((0:Nat):Int)=((0:Nat):Int))=true:=rfl
 simp only[u_C c39.eq_1,rn,pevA,seval,d0]
 refine aloop (α:=Unit) (fun _ fr h1=>fr 0=.lst 139 [] .no/\fr 7=.int .i64 (0:Nat)/\h1=h) (fun _=>0) () ⟨rfl,rfl,rfl⟩ ?_
 rintro _ fr h1 ⟨f0,f7,rfl⟩
 simp only[u_C l39_1.eq_1,rn,pevA,seval,f0,f7,c1]
 exact⟨.refl _,AH.le_refl _⟩
theorem sameInst_ok {x:In}(hx:InP x):Pure T 14 [.agg (inR x),.agg (inR x),.bool true] (.bool true):=by
 intro K h
 refine ACall.ret t14 fun hK=>?_
 rw[hx.R]
 have d1:decide (x.cls=x.cls)=true:=by simp
 have d2:decide (x.con=x.con)=true:=by simp
 have d3:decide (x.pos=x.pos)=true:=by simp
 simp only[u_C c14.eq_1,rn,pevA,seval,d1,d2,d3]
 refine (sameTexts_refl _ _ _ _ _).use ?_
 simp only[rn,pevA,seval]
 refine samePreds0.use ?_
 simp only[rn,pevA,seval]
 refine (sameBinds0 true).use ?_
 simp only[rn,pevA,seval,d3]
 exact⟨.refl _,AH.le_refl _⟩
theorem nd_inj {l:List Nm}(hn:l.Nodup){i j:Nat}{a:Nm}(hi:l[i]?=some a)(hj:l[j]?=some a):i=j:=by
 have key:∀{i j:Nat},l[i]?=some a->l[j]?=some a->¬i<j:=fun {i j} hi hj hlt=>
  nd_lt hn hj (List.mem_of_getElem? (i:=i) (by rw[List.getElem?_take,if_pos hlt];exact hi))
 rcases Nat.lt_trichotomy i j with h|h|h
 ·exact absurd h (key hi hj)
 ·exact h
 ·exact absurd h (key hj hi)
theorem ifind_ok {h:AH}{b m:Nat}{E:TypeId}{tag:Tag}{l:List In}(he:InR h b m E tag l)(hp:∀x∈l,InP x){x:In}(hx:x∈l)(hnd:(l.map keyI).Nodup)(K:Nat->Prop) :
  ACall T K (.func 15) [.ptr b 0,.str x.cls,.str x.con] h fun v h'=>v=.tuple [.agg (inR x),.bool true]/\h'=h:=by
 refine ACall.ret t15 fun hK=>?_
 have hxp:=hp x hx
 have ho:=he.o
 have hm:=he.m
 obtain⟨⟨j,y⟩,hl⟩ : ∃z,lkI keyI (keyI x) 0 l=some z:=by
  cases e:lkI keyI (keyI x) 0 l with
  |some z=>exact⟨z,rfl⟩
  |none=>exact absurd (List.mem_map.2 ⟨x,hx,rfl⟩) (lkI_none.1 e)
 obtain⟨_,hj,hkey⟩:=lkI_get hl
 rw[Nat.sub_zero] at hj
 have hyx:y=x:=by
  obtain⟨i,hi⟩:=List.getElem?_of_mem hx
  have h1:(l.map keyI)[j]?=some (keyI x):=by rw[List.getElem?_map,hj];simp[hkey]
  have h2:(l.map keyI)[i]?=some (keyI x):=by rw[List.getElem?_map,hi];rfl
  have hij:i=j:=nd_inj hnd h2 h1
  subst hij
  rw[hi] at hj
  exact (Option.some.inj hj).symm
 subst hyx
 have hget:(insR l)[j]?=some (inR y):=by rw[insR_get,hj];rfl
 have hc:=hxp.clone
 have hkk:keyV y.cls y.con=keyI y:=rfl
 rw[hxp.R] at hget hc ⊢
 simp only[u_C c15.eq_1,e_dregion d15_0,u_L s15_0.eq_1,u_T g15_0.eq_1,rn,pevA,seval]
 intro b6 hb6 hk6
 have he6:=he.keep (set_keep (o:=.cells [.str [],.str [],.lst 0 [] .nil,.lst 0 [] .nil,.lst 0 [] .nil,.int .i64 0] 51) hb6)
 have ho:=he6.o
 have hm:=he6.m
 simp only[e_dregion d15_0,u_L s15_0.eq_1,u_T g15_0.eq_1,rn,pevA,seval,ho,hm]
 refine (key_ok _ _ hxp.cls hxp.con).use ?_
 simp only[e_dregion d15_0,u_L s15_0.eq_1,u_T g15_0.eq_1,rn,pevA,seval,ho,hm,hkk,kv_look,ixs_look,hl,Option.map_some,hget]
 refine hc.use ?_
 simp only[rn,pevA,seval,hk6,kN,kG]
 exact⟨.refl _,le_del (AH.le_refl _) hb6⟩
theorem iall_ok (b:Nat):Pure T 13 [.ptr b 0] (.func 36 [] [.rptr [.ptr b 0]]):=by
 intro K h
 refine ACall.ret t13 fun hK=>?_
 simp only[u_C c13.eq_1,rn,pevA,seval]
 exact⟨.refl _,AH.le_refl _⟩
theorem iall1_ok (c:Nat)(K:Nat->Prop)(I:Nat->AH->Prop)(D:AH->Prop)(l:List In)(hl:l.length<=1000000)(hp:∀x∈l,InP x)(b m:Nat)(E:TypeId)(tag:Tag)
  (hy:∀i x,l[i]?=some x->∀h1,I i h1->KOk K h1->ACall T K (.yield c) [.agg (inR x)] h1 fun v h2=>(v=.bool true/\I (i+1) h2)\/(v=.bool false/\D h2))(h:AH)(he:InR h b m E tag l)(h0:I 0 h) :
  ACall T K (.func 36) [.yield c,.rptr [.ptr b 0]] h fun _ h'=>I l.length h'\/D h':=by
 refine ACall.retQ t36 fun hK=>?_
 have ho:=he.o
 simp only[u_C c36.eq_1,rn,pevA,seval,ho,insR_len]
 refine aloop (α:=Nat) (fun i fr h1=>fr 0=.yield c/\fr 8=.lst E (insR l) tag/\fr 9=.int .i64 (l.length:Nat)/\fr 10=.int .i64 i/\i<=l.length/\I i h1/\KOk K h1) (fun i=>l.length-i) 0 ⟨rfl,rfl,rfl,rfl,Nat.zero_le _,h0,hK⟩ ?_
 rintro i fr h1 ⟨f0,f8,f9,f10,hi,hI,hK1⟩
 by_cases hlt:i<l.length
 ·have c1:decide ((i:Int)<(l.length:Int))=true:=decide_eq_true (by omega)
  have hw:IntKind.i64.wrap ((i:Int)+1)=((i+1:Nat):Int):=by rw[wrap64 ⟨by omega,by omega⟩];rfl
  obtain⟨x,hx⟩ : ∃x,l[i]?=some x:=⟨l[i],by simp[hlt]⟩
  have hxp:=hp x (List.mem_of_getElem? hx)
  have hget:(insR l)[i]?=some (inR x):=by rw[insR_get,hx];rfl
  have hc:=hxp.clone
  have hyy:=hy i x hx h1 hI hK1
  rw[hxp.R] at hget hc hyy
  simp only[u_C l36_0.eq_1,rn,pevA,seval,f0,f8,f9,f10,c1,hget]
  refine hc.use ?_
  simp only[rn,pevA,seval,f0,f8,f9,f10]
  refine ACall.kn (hyy.mono ?_)
  rintro _ h2 (⟨rfl,hI2⟩|⟨rfl,hD⟩) hK2
  ·simp only[rn,pevA,seval,f0,f8,f9,f10,hw]
   exact⟨i+1,by show l.length-(i+1)<l.length-i;omega,f0,f8,f9,rfl,hlt,hI2,hK2⟩
  ·simp only[rn,pevA,seval,f0,f8,f9,f10]
   exact⟨_,h2,.refl _ _,hK2,.inr hD⟩
 ·obtain rfl:i=l.length:=by omega
  have c1:decide ((l.length:Int)<(l.length:Int))=false:=by simp
  simp only[u_C l36_0.eq_1,rn,pevA,seval,f0,f8,f9,f10,c1]
  exact⟨_,h1,.refl _ _,hK1,.inl hI⟩
structure GA (h:AH)(ga:Nat->Nat)(Eg:Nat->TypeId):Prop where
 g:∀g,g<15->h.objs g=some (.stat [.iface 212 (.ptr (ga g) 0)] (Eg g))
 s:∀g,g<15->∃cs E,h.objs (ga g)=some (.stat cs E)
 inj:∀g g',g<15->g'<15->ga g=ga g'->g=g'
theorem GA.mono {h h':AH}{ga:Nat->Nat}{Eg:Nat->TypeId}(hg:GA h ga Eg)(hk:∀b o,h.objs b=some o->h'.objs b=some o):GA h' ga Eg:=
 ⟨fun g hl=>hk _ _ (hg.g g hl),fun g hl=>let ⟨cs,E,e⟩:=hg.s g hl;⟨cs,E,hk _ _ e⟩,hg.inj⟩
theorem GA.set {h:AH}{ga:Nat->Nat}{Eg:Nat->TypeId}(hg:GA h ga Eg){b:Nat}{o:AO}(hb:h.objs b=none):GA (h.set b o) ga Eg:=hg.mono (set_keep hb)
def sens (ga:Nat->Nat):List (List AV):=[4,5,1,0,2,6,7,3,8,9,10,11,12,13,14].map fun g=>[.iface 212 (.ptr (ga g) 0)]
theorem sentinels_ok {h:AH}{ga:Nat->Nat}{Eg:Nat->TypeId}(hg:GA h ga Eg)(K:Nat->Prop):ACall T K (.func 87) [] h fun v h'=>v=.lst 40 (sens ga) .no/\h'=h:=by
 refine ACall.ret t87 fun hK=>?_
 simp only[u_C c87.eq_1,rn,pevA,seval,hg.g 0 (by decide),hg.g 1 (by decide),hg.g 2 (by decide),hg.g 3 (by decide),hg.g 4 (by decide),hg.g 5 (by decide),hg.g 6 (by decide),hg.g 7 (by decide),hg.g 8 (by decide),hg.g 9 (by decide),hg.g 10 (by decide),hg.g 11 (by decide),hg.g 12 (by decide),hg.g 13 (by decide),hg.g 14 (by decide)]
 exact⟨.refl _,AH.le_refl _⟩
theorem alike_ok {h:AH}{ga:Nat->Nat}{Eg:Nat->TypeId}(hg:GA h ga Eg)(x y:Nat)(hx:x<15)(hy:y<15)(K:Nat->Prop):ACall T K (.func 88) [.iface 212 (.ptr (ga x) 0),.iface 212 (.ptr (ga y) 0)] h fun v h'=>v=.bool (decide (x=y))/\h'=h:=by
 refine ACall.ret t88 fun hK=>?_
 have he:∀A B:List TypeId,A.contains 212=true->eqIA h A B (.iface 212 (.ptr (ga x) 0)) (.iface 212 (.ptr (ga y) 0))=some (decide (x=y)):=by
  intro A B hok
  simp only[eqIA,if_true,hok]
  by_cases e:x=y
  ·subst e;simp
  ·have hne:ga x≠ga y:=fun h=>e (hg.inj x y hx hy h)
   obtain⟨c1,E1,e1⟩:=hg.s x hx
   obtain⟨c2,E2,e2⟩:=hg.s y hy
   simp[hne,e,apartA,e1,e2]
 have he:=he [15,17,24,30,35,72,117,212,223] [5,6,220,221] (by decide)
 simp only[u_C c88.eq_1,rn,pevA,seval,he]
 exact⟨.refl _,AH.le_refl _⟩
theorem sentinel_ok {h:AH}{ga:Nat->Nat}{Eg:Nat->TypeId}(hg:GA h ga Eg)(K:Nat->Prop):ACall T K (.func 64) [.iface 212 (.ptr (ga 0) 0)] h fun v h'=>v=.int .i64 104/\h'=h:=by
 refine ACall.ret t64 fun hK=>?_
 simp only[u_C c64.eq_1,rn,pevA,seval]
 refine (sentinels_ok hg K).mono ?_
 rintro _ h ⟨rfl,rfl⟩
 simp only[rn,pevA,seval]
 refine aloop (α:=Nat) (fun i fr h1=>fr 0=.iface 212 (.ptr (ga 0) 0)/\fr 3=.lst 40 (sens ga) .no/\fr 4=.int .i64 i/\i<=3/\h1=h) (fun i=>4-i) 0 ⟨rfl,rfl,rfl,Nat.zero_le _,rfl⟩ ?_
 rintro i fr h ⟨f0,f3,f4,hi,rfl⟩
 have c1:decide ((i:Int)<((sens ga).length:Nat))=true:=by
  have:(sens ga).length=15:=rfl
  rw[this];exact decide_eq_true (by omega)
 have h5:i=0\/i=1\/i=2\/i=3:=by omega
 have w:IntKind.i64.wrap ((i:Int)+1)=((i+1:Nat):Int):=by rw[wrap64 ⟨by omega,by omega⟩];rfl
 have step:∀(y:Nat)(R:CExit->AQ),(sens ga)[i]?=some [.iface 212 (.ptr (ga y) 0)]->y<15->y≠0->(∀fr':AFr,fr' 0=.iface 212 (.ptr (ga 0) 0)->fr' 3=.lst 40 (sens ga) .no->fr' 4=.int .i64 ((i+1:Nat):Int)->R .normal fr' h)->wpC T K l64_0 fr h R:=by
  intro y R hget hy15 hy hR
  simp only[u_C l64_0.eq_1,rn,pevA,seval,f0,f3,f4,c1,hget]
  refine (alike_ok hg 0 y (by decide) hy15 K).mono ?_
  rintro _ _ ⟨rfl,rfl⟩
  have e:decide (0=y)=false:=decide_eq_false fun e=>hy e.symm
  simp only[rn,pevA,seval,e,f4,w]
  exact hR _ f0 f3 rfl
 rcases h5 with rfl|rfl|rfl|rfl
 ·refine step 4 _ rfl (by decide) (by decide) fun fr' g0 g3 g4=>?_
  exact⟨1,by decide,g0,g3,g4,by decide,rfl⟩
 ·refine step 5 _ rfl (by decide) (by decide) fun fr' g0 g3 g4=>?_
  exact⟨2,by decide,g0,g3,g4,by decide,rfl⟩
 ·refine step 1 _ rfl (by decide) (by decide) fun fr' g0 g3 g4=>?_
  exact⟨3,by decide,g0,g3,g4,by decide,rfl⟩
 ·have hget:(sens ga)[3]?=some [.iface 212 (.ptr (ga 0) 0)]:=rfl
  have w2:IntKind.i64.wrap (101+3)=104:=rfl
  have c2:decide ((3:Int)<((sens ga).length:Nat))=true:=c1
  simp only[u_C l64_0.eq_1,rn,pevA,seval,f0,f3,f4,c2,hget]
  refine (alike_ok hg 0 0 (by decide) (by decide) K).mono ?_
  rintro _ _ ⟨rfl,rfl⟩
  simp only[rn,pevA,seval,f4,w2]
  exact⟨.refl _,AH.le_refl _⟩
theorem fault_ok {h:AH}{ga:Nat->Nat}{Eg:Nat->TypeId}(hg:GA h ga Eg)(pos:Int)(K:Nat->Prop):ACall T K (.func 34) [errV (ga 0) pos] h fun v h'=>v=.agg [.int .i64 104,.bool true,.int .i64 pos]/\h'=h:=by
 refine ACall.ret t34 fun hK=>?_
 unfold errV
 simp only[u_C c34.eq_1,rn,pevA,seval]
 intro b hb hk
 simp only[e_dregion d34_0,u_L s34_0.eq_1,u_T g34_0.eq_1,rn,pevA,seval]
 refine (sentinel_ok (hg.set hb) K).mono ?_
 rintro _ _ ⟨rfl,rfl⟩
 simp only[e_dregion d34_0,u_L s34_0.eq_1,u_T g34_0.eq_1,rn,pevA,seval]
 refine (placed_ok 104 pos (by decide)).use ?_
 simp only[e_dregion d34_0,u_L s34_0.eq_1,u_T g34_0.eq_1,rn,pevA,seval,hk]
 exact⟨.refl _,by rw[s_del hb];exact AH.le_refl _⟩
theorem sameFault_ok (c p:Int)(b:Bool):Pure T 33 [.agg [.int .i64 c,.bool b,.int .i64 p],.agg [.int .i64 c,.bool b,.int .i64 p]] (.bool true):=by
 intro K h
 refine ACall.ret t33 fun hK=>?_
 have d1:decide (c=c)=true:=by simp
 have d2:decide (b=b)=true:=by simp
 have d3:decide (p=p)=true:=by simp
 simp only[u_C c33.eq_1,rn,pevA,seval,d1,d2,d3]
 exact⟨.refl _,AH.le_refl _⟩
theorem same_ok {h:AH}{ga:Nat->Nat}{Eg:Nat->TypeId}(hg:GA h ga Eg)(pos:Int)(K:Nat->Prop):ACall T K (.func 11) [errV (ga 0) pos,.agg [.int .i64 104,.bool true,.int .i64 pos]] h fun v h'=>v=.bool true/\h'=h:=by
 refine ACall.ret t11 fun hK=>?_
 simp only[u_C c11.eq_1,e_dregion d11_0,u_L s11_0.eq_1,u_T g11_0.eq_1,rn,pevA,seval]
 refine (fault_ok hg pos K).mono ?_
 rintro _ _ ⟨rfl,rfl⟩
 simp only[e_dregion d11_0,u_L s11_0.eq_1,u_T g11_0.eq_1,rn,pevA,seval]
 refine (sameFault_ok 104 pos true).use ?_
 simp only[e_dregion d11_0,u_L s11_0.eq_1,u_T g11_0.eq_1,rn,pevA,seval]
 exact⟨.refl _,AH.le_refl _⟩
theorem adI_snoc (x:In):∀(l r:List In),adI l (r++[x])=match adI l r with|some y=>some y|none=>if keyI x∈(l++r).map keyI then some x else none
 |l,[]=>by simp[adI]
 |l,y::r=>by
  simp only[List.cons_append,adI]
  by_cases h:keyI y∈l.map keyI
  ·simp only[h,if_true]
  ·simp only[h,if_false]
   rw[adI_snoc x (l++[y]) r,List.append_assoc];rfl
def badP (xs:List In):Int:=match adI [] xs with|some x=>x.pos|none=> -1
def PosI (xs:List In):Prop:=∀(j:Nat)(x:In),xs[j]?=some x->x.pos=j
theorem adI_mem:∀{l r:List In}{x:In},adI l r=some x->x∈r
 |l,[],x,h=>by cases h
 |l,y::r,x,h=>by
  simp only[adI] at h
  split at h
  ·cases h;simp
  ·exact List.mem_cons_of_mem _ (adI_mem h)
theorem badP_neg {xs:List In}(hp:PosI xs):badP xs<0↔adI [] xs=none:=by
 unfold badP
 cases e:adI [] xs with
 |none=>simp
 |some x=>
  obtain⟨j,hj⟩:=List.getElem?_of_mem (adI_mem e)
  have:=hp j x hj
  simp only[reduceCtorEq,iff_false]
  omega
theorem badP_snoc {xs:List In}(hp:PosI xs)(x:In):badP (xs++[x])=if badP xs<0/\keyI x∈xs.map keyI then x.pos else badP xs:=by
 have h1:=badP_neg hp
 unfold badP at *
 rw[adI_snoc,List.nil_append]
 cases e:adI [] xs with
 |none=>
  by_cases hm:keyI x∈xs.map keyI
  ·rw[if_pos hm,if_pos ⟨by decide,hm⟩]
  ·rw[if_neg hm,if_neg (fun h=>hm h.2)]
 |some y=>
  rw[e] at h1
  simp only[reduceCtorEq,iff_false] at h1
  simp only
  rw[if_neg (fun h=>h1 h.1)]
structure FI (fr0 fr:AFr):Prop where
 f0:fr 0=fr0 0
 f3:fr 3=fr0 3
 f4:fr 4=fr0 4
 f5:fr 5=fr0 5
 f6:fr 6=fr0 6
 f7:fr 7=fr0 7
 f8:fr 8=fr0 8
 f9:fr 9=fr0 9
 f10:fr 10=fr0 10
 f11:fr 11=fr0 11
 f12:fr 12=fr0 12
def rawR (x:In):List AV:=[.str x.cls,.str x.con,.lst 9 (strC x.vars) .no,.lst 0 [] .nil,.lst 0 [] .nil,.int .i64 x.pos]
def rawsR (l:List In):List (List AV):=l.map rawR
theorem rawsR_len (l:List In):(rawsR l).length=l.length:=by rw[rawsR,List.length_map]
theorem rawsR_get (l:List In)(i:Nat):(rawsR l)[i]?=(l[i]?).map rawR:=by rw[rawsR,List.getElem?_map]
theorem rawR_wk {x:In}(hx:InP x):WkL (rawR x) (inR x):=by rw[hx.R];exact⟨.refl _,.refl _,.refl _,.nil _ _ _,.nil _ _ _,.refl _,trivial⟩
theorem rawsR_wk:∀{l:List In},(∀x∈l,InP x)->WkLL (rawsR l) (insR l)
 |[],_=>trivial
 |a::l,h=>⟨rawR_wk (h a (by simp)),rawsR_wk fun x hx=>h x (by simp[hx])⟩
structure BI (G h:AH)(b12:Nat)(E2:TypeId)(rows:List (List AV))(tag2 tk:Tag)(xs:List In):Prop where
 o:h.objs b12=some (.cells [.lst E2 rows tag2] 36)
 le:(G.del b12).le h
 T:Toks G.toks h.toks [(tk,9,1,0),(tag2,51,6,0)]
 w:rows=rawsR xs
 hE:rows≠[]->E2=51
theorem BI.new {G h:AH}{b12:Nat}{E2:TypeId}{rows:List (List AV)}{tag2 tk:Tag}{xs:List In}(hb:BI G h b12 E2 rows tag2 tk xs){n:Nat}{o:AO}(hn:h.objs n=none):BI G (h.set n o) b12 E2 rows tag2 tk xs:=
 ⟨set_keep hn _ _ hb.o,le_set hb.le (le_none hb.le hn),hb.T,hb.w,hb.hE⟩
def keysC (xs:List In):List Nm:=xs.map keyI
theorem tl1_ok (G:AH)(b12:Nat)(K:Nat->Prop)(hk12:¬K b12)(h:AH)(hK:KOk K h)(E2:TypeId)(rows:List (List AV))(tag2 tk:Tag)(xs:List In)(hB:BI G h b12 E2 rows tag2 tk xs)(hlen:xs.length<=1000)(hp:PosI xs)(x:In)(hx:InP x)(hxp:x.pos=xs.length)(hv:x.vars.length<=1000)
  (fr0 fr:AFr)(hF:FI fr0 fr)(f12:fr0 12=.ptr b12 0)(f17:fr 17=.rptr [.str x.cls,.str x.con,.lst 9 (strC x.vars) .no,.lst 0 [] .nil,.lst 0 [] .nil,.int .i64 x.pos])(Ek:TypeId)(hEk:strC (keysC xs)≠[]->Ek=9)(f13:fr 13=.lst Ek (strC (keysC xs)) tk)(f14:fr 14=.int .i64 (badP xs))(f15:fr 15=.int .i64 (xs.length:Nat))(R:CExit->AQ)
  (hR:∀(fr':AFr)(h':AH)(E3:TypeId)(rows':List (List AV))(tag3 tk3:Tag),FI fr0 fr'->KOk K h'->BI G h' b12 E3 rows' tag3 tk3 (xs++[x])->fr' 13=.lst 9 (strC (keysC (xs++[x]))) tk3->fr' 14=.int .i64 (badP (xs++[x]))->fr' 15=.int .i64 (xs.length:Nat)->R .normal fr' h'):wpC T K tl3_1 fr h R:=by
 have hkk:keyV x.cls x.con=keyI x:=rfl
 have o12:=hB.o
 have g12:=hF.f12.trans f12
 have hwl:rows.length=xs.length:=by rw[hB.w,rawsR_len]
 simp only[u_C tl3_1.eq_1,rn,pevA,seval,f17]
 refine (key_ok _ _ hx.cls hx.con).use ?_
 rw[hkk]
 have hks:strC (keysC xs)++[[.str (keyI x)]]=strC (keysC (xs++[x])):=by simp[strC,keysC]
 have hw2:rows++[[AV.str x.cls,.str x.con,.lst 9 (strC x.vars) .no,.lst 0 [] .nil,.lst 0 [] .nil,.int .i64 x.pos]]=rawsR (xs++[x]):=by rw[hB.w];simp[rawsR,rawR]
 have hno:(G.del b12).objs b12=none:=by rw[AH.del_objs,if_pos rfl]
 by_cases hb:badP xs<0
 ·simp only[rn,pevA,seval,f13,f14,f15,hb]
  refine (has_ok _ _ _ _).use ?_
  by_cases hm:keyI x∈keysC xs
  ·have hbs:badP (xs++[x])=(xs.length:Nat):=by rw[badP_snoc hp,if_pos ⟨hb,hm⟩,hxp]
   simp only[rn,pevA,seval,f13,f14,f15,hm]
   refine WO.append (i:=0) hB.T rfl rfl rfl trivial (by decide) (by simp) rfl (.inr rfl) (fun _=>?_) ?_ fun tag4 t4 hT4=>?_
   ·simp[capOk,strC_len,keysC];omega
   ·simp[big_eq,strC_len,keysC];omega
   rw[hks]
   simp only[rn,pevA,seval,f13,f14,f15,f17,g12,o12]
   refine WO.append (i:=1) hT4 rfl rfl rfl trivial (by decide) (by simp) rfl (.inr rfl) (fun _=>?_) ?_ fun tag5 t5 hT5=>?_
   ·simp[capOk];omega
   ·simp[big_eq];omega
   simp only[rn,pevA,seval,f13,f14,f15,f17,g12,o12,hk12]
   exact hR _ _ 51 _ tag5 tag4 ⟨hF.f0,hF.f3,hF.f4,hF.f5,hF.f6,hF.f7,hF.f8,hF.f9,hF.f10,hF.f11,hF.f12⟩ (hK.set _ _) ⟨AH.set_same _ _ _,⟨(le_set hB.le hno).1,hT5.le⟩,hT5,hw2,fun _=>rfl⟩ rfl (by rw[hbs];rfl) f15
  ·have hbs:badP (xs++[x])=badP xs:=by rw[badP_snoc hp,if_neg (fun h=>hm h.2)]
   simp only[rn,pevA,seval,f13,f14,f15,hm]
   refine WO.append (i:=0) hB.T rfl rfl rfl trivial (by decide) (by simp) rfl (.inr rfl) (fun _=>?_) ?_ fun tag4 t4 hT4=>?_
   ·simp[capOk,strC_len,keysC];omega
   ·simp[big_eq,strC_len,keysC];omega
   rw[hks]
   simp only[rn,pevA,seval,f13,f14,f15,f17,g12,o12]
   refine WO.append (i:=1) hT4 rfl rfl rfl trivial (by decide) (by simp) rfl (.inr rfl) (fun _=>?_) ?_ fun tag5 t5 hT5=>?_
   ·simp[capOk];omega
   ·simp[big_eq];omega
   simp only[rn,pevA,seval,f13,f14,f15,f17,g12,o12,hk12]
   exact hR _ _ 51 _ tag5 tag4 ⟨hF.f0,hF.f3,hF.f4,hF.f5,hF.f6,hF.f7,hF.f8,hF.f9,hF.f10,hF.f11,hF.f12⟩ (hK.set _ _) ⟨AH.set_same _ _ _,⟨(le_set hB.le hno).1,hT5.le⟩,hT5,hw2,fun _=>rfl⟩ rfl (by rw[hbs];exact f14) f15
 ·have hbs:badP (xs++[x])=badP xs:=by rw[badP_snoc hp,if_neg (fun h=>hb h.1)]
  simp only[rn,pevA,seval,f13,f14,f15,hb]
  refine WO.append (i:=0) hB.T rfl rfl rfl trivial (by decide) (by simp) rfl (.inr rfl) (fun _=>?_) ?_ fun tag4 t4 hT4=>?_
  ·simp[capOk,strC_len,keysC];omega
  ·simp[big_eq,strC_len,keysC];omega
  rw[hks]
  simp only[rn,pevA,seval,f13,f14,f15,f17,g12,o12]
  refine WO.append (i:=1) hT4 rfl rfl rfl trivial (by decide) (by simp) rfl (.inr rfl) (fun _=>?_) ?_ fun tag5 t5 hT5=>?_
  ·simp[capOk];omega
  ·simp[big_eq];omega
  simp only[rn,pevA,seval,f13,f14,f15,f17,g12,o12,hk12]
  exact hR _ _ 51 _ tag5 tag4 ⟨hF.f0,hF.f3,hF.f4,hF.f5,hF.f6,hF.f7,hF.f8,hF.f9,hF.f10,hF.f11,hF.f12⟩ (hK.set _ _) ⟨AH.set_same _ _ _,⟨(le_set hB.le hno).1,hT5.le⟩,hT5,hw2,fun _=>rfl⟩ rfl (by rw[hbs];exact f14) f15
def itC (l:List Int):List (List AV):=l.map fun n=>[.int .i64 n]
theorem itC_len (l:List Int):(itC l).length=l.length:=by rw[itC,List.length_map]
def csCD:List Cs:=plL [([67],[97]),([68],[97])]
def conL:List Nm:=[[73,110,116],[67,104,97,114],[66,111,111,108],[76,105,115,116],[80,97,105,114]]
structure DsB (ds:List Dt):Prop where
 i:arO ds [73,110,116]=some 0
 c:arO ds [67,104,97,114]=some 0
 b:arO ds [66,111,111,108]=some 0
 l:arO ds [76,105,115,116]=some 1
 p:arO ds [80,97,105,114]=some 2
structure RwP (ds:List Dt)(xs:List In):Prop where
 pos:PosI xs
 g:∀x∈xs,InG csCD ds x
theorem mod10 (v:Int):∃r:Int,0<=r/\r<10/\Int.tmod (IntKind.i64.wrap (Int.tmod v 10+10)) 10=r:=by
 have h1 : -10<Int.tmod v 10:=Int.lt_tmod_of_pos v (by decide)
 have h2:Int.tmod v 10<10:=Int.tmod_lt_of_pos v (by decide)
 rw[wrap64 ⟨by omega,by omega⟩]
 exact⟨_,Int.tmod_nonneg _ (by omega),Int.tmod_lt_of_pos _ (by decide),rfl⟩
theorem inG (ds:List Dt)(cls con:Nm)(vars:List Nm)(pos:Int)(h1:cls=[67]\/cls=[68])(h2:arO ds con=some vars.length)(h3:vars.Nodup)(h4:con.length<=10)(h5:vars.length<=2):InG csCD ds (plI cls con vars pos):=
 ⟨⟨rfl,rfl,by show vars.length<=_;omega,by show cls.length<=_;rcases h1 with rfl|rfl<;>decide,by show con.length<=_;omega⟩,by show cls∈_;rcases h1 with rfl|rfl<;>simp[csCD,plL,plC],h2,h3⟩
theorem RwP.snoc {ds:List Dt}{xs:List In}(h:RwP ds xs){x:In}(hx:InG csCD ds x)(hp:x.pos=xs.length):RwP ds (xs++[x]):=by
 refine⟨fun j y hj=>?_,fun y hy=>?_⟩
 ·rcases Nat.lt_or_ge j xs.length with hlt|hge
  ·rw[List.getElem?_append_left hlt] at hj;exact h.pos j y hj
  ·rw[List.getElem?_append_right hge] at hj
   cases e:j-xs.length with
   |zero=>rw[e] at hj;simp at hj;subst hj;rw[hp];omega
   |succ k=>rw[e] at hj;simp at hj
 ·rcases List.mem_append.1 hy with hy|hy
  ·exact h.g y hy
  ·simp at hy;subst hy;exact hx
theorem rows_body (ds:List Dt)(hd:DsB ds)(E:TypeId)(l:List Int)(G:AH)(b12:Nat)(K:Nat->Prop)(hk12:¬K b12)(fr0:AFr)(e0:fr0 0=.lst E (itC l) .no)(e10:fr0 10=.lst 9 (strC conL) .no)(e11:fr0 11=.lst 3 (itC [0,0,0,1,2]) .no)(e12:fr0 12=.ptr b12 0)(hl:l.length<=6)
  (h:AH)(hK:KOk K h)(E2:TypeId)(rows:List (List AV))(tag2 tk:Tag)(xs:List In)(hB:BI G h b12 E2 rows tag2 tk xs)(hx:RwP ds xs)(fr:AFr)(hF:FI fr0 fr)(hlt:xs.length<l.length)(Ek:TypeId)(hEk:strC (keysC xs)≠[]->Ek=9)(f13:fr 13=.lst Ek (strC (keysC xs)) tk)(f14:fr 14=.int .i64 (badP xs))(f15:fr 15=.int .i64 (xs.length:Nat))(R:CExit->AQ)
  (hR:∀(fr':AFr)(h':AH)(E3:TypeId)(rows':List (List AV))(tag3 tk3:Tag)(xs':List In),xs'.length=xs.length+1->RwP ds xs'->FI fr0 fr'->KOk K h'->BI G h' b12 E3 rows' tag3 tk3 xs'->fr' 13=.lst 9 (strC (keysC xs')) tk3->fr' 14=.int .i64 (badP xs')->fr' 15=.int .i64 (xs'.length:Nat)->R .normal fr' h') :
  wpC T K l3_1 fr h R:=by
 obtain⟨v,hv⟩ : ∃v,l[xs.length]?=some v:=⟨l[xs.length],by simp[hlt]⟩
 have hget:(itC l)[xs.length]?=some [.int .i64 v]:=by rw[itC,List.getElem?_map,hv];rfl
 obtain⟨r,hr0,hr1,hr⟩:=mod10 v
 have g0:=hF.f0.trans e0
 have g10:=hF.f10.trans e10
 have g11:=hF.f11.trans e11
 have c1:decide ((xs.length:Int)<(l.length:Int))=true:=decide_eq_true (by omega)
 have h10:r=0\/r=1\/r=2\/r=3\/r=4\/r=5\/r=6\/r=7\/r=8\/r=9:=by omega
 simp only[u_C l3_1.eq_1,rn,pevA,seval,g0,f15,itC_len,c1,hget,hr]
 have gc:strC conL=[[.str [73,110,116]],[.str [67,104,97,114]],[.str [66,111,111,108]],[.str [76,105,115,116]],[.str [80,97,105,114]]]:=rfl
 have gi:itC [0,0,0,1,2]=[[.int .i64 0],[.int .i64 0],[.int .i64 0],[.int .i64 1],[.int .i64 2]]:=rfl
 rw[gc] at g10
 rw[gi] at g11
 have w0:IntKind.i64.wrap 0=0:=rfl
 have w1:IntKind.i64.wrap 1=1:=rfl
 have w2:IntKind.i64.wrap 2=2:=rfl
 have w3:IntKind.i64.wrap 3=3:=rfl
 have w4:IntKind.i64.wrap 4=4:=rfl
 have p0:(0:Int)<=0:=by decide
 have p1:(0:Int)<=1:=by decide
 have p2:(0:Int)<=2:=by decide
 have p3:(0:Int)<=3:=by decide
 have p4:(0:Int)<=4:=by decide
 have n0:(0:Int).toNat=0:=rfl
 have n1:(1:Int).toNat=1:=rfl
 have n2:(2:Int).toNat=2:=rfl
 have n3:(3:Int).toNat=3:=rfl
 have n4:(4:Int).toNat=4:=rfl
 have hab:(∀x:List AV,x∈[[AV.str [97]],[AV.str [98]]]->x.length=1)=True:=eq_true (by simp)
 have q0:(0:Int)<=((2:Nat):Int):=by decide
 have q1:(1:Int)<=((2:Nat):Int):=by decide
 have q2:(2:Int)<=((2:Nat):Int):=by decide
 have u1:(1:Nat)<=2:=by decide
 have hw:IntKind.i64.wrap ((xs.length:Int)+1)=((xs.length+1:Nat):Int):=by rw[wrap64 ⟨by omega,by omega⟩];rfl
 have hll:∀x:In,(xs++[x]).length=xs.length+1:=fun x=>by simp
 rcases h10 with rfl|rfl|rfl|rfl|rfl|rfl|rfl|rfl|rfl|rfl
 all_goals (simp only[e_dregion d3_0,u_L s3_0.eq_1,u_T g3_0.eq_1,rn,pevA,seval,g10,g11,f15,w0,w1,w2,w3,w4,p0,p1,p2,p3,p4,n0,n1,n2,n3,n4,hab,if_true,Option.map_some,Option.map_none,Nat.zero_le,List.drop_zero,Nat.sub_zero,q0,q1,q2,Nat.le_refl,u1])
 all_goals intro b17 hb17 hk17
 all_goals simp only[e_dregion d3_0,u_L s3_0.eq_1,u_T g3_0.eq_1,rn,pevA,seval,hk17,s_del hb17]
 ·refine tl1_ok G b12 K hk12 _ hK E2 rows tag2 tk xs hB (by omega) hx.pos (plI [67] [73,110,116] [] xs.length) (inG ds _ _ _ _ (.inl rfl) hd.i (by decide) (by decide) (by decide)).p rfl (by simp[plI]) fr0 _ ?_ e12 ?_ Ek hEk ?_ ?_ ?_ _ fun fr' h' E3 rows' tag3 tk3 hF' hK' hB' k13 k14 k15=>?_
  ·exact⟨hF.f0,hF.f3,hF.f4,hF.f5,hF.f6,hF.f7,hF.f8,hF.f9,hF.f10,hF.f11,hF.f12⟩
  ·rfl
  ·exact f13
  ·exact f14
  ·exact f15
  simp only[rn,pevA,seval,k15,hw]
  exact hR _ _ _ _ _ _ _ (hll _) (hx.snoc (inG ds _ _ _ _ (.inl rfl) hd.i (by decide) (by decide) (by decide)) rfl) ⟨hF'.f0,hF'.f3,hF'.f4,hF'.f5,hF'.f6,hF'.f7,hF'.f8,hF'.f9,hF'.f10,hF'.f11,hF'.f12⟩ hK' hB' k13 k14 (by rw[hll];rfl)
 ·refine tl1_ok G b12 K hk12 _ hK E2 rows tag2 tk xs hB (by omega) hx.pos (plI [67] [67,104,97,114] [] xs.length) (inG ds _ _ _ _ (.inl rfl) hd.c (by decide) (by decide) (by decide)).p rfl (by simp[plI]) fr0 _ ?_ e12 ?_ Ek hEk ?_ ?_ ?_ _ fun fr' h' E3 rows' tag3 tk3 hF' hK' hB' k13 k14 k15=>?_
  ·exact⟨hF.f0,hF.f3,hF.f4,hF.f5,hF.f6,hF.f7,hF.f8,hF.f9,hF.f10,hF.f11,hF.f12⟩
  ·rfl
  ·exact f13
  ·exact f14
  ·exact f15
  simp only[rn,pevA,seval,k15,hw]
  exact hR _ _ _ _ _ _ _ (hll _) (hx.snoc (inG ds _ _ _ _ (.inl rfl) hd.c (by decide) (by decide) (by decide)) rfl) ⟨hF'.f0,hF'.f3,hF'.f4,hF'.f5,hF'.f6,hF'.f7,hF'.f8,hF'.f9,hF'.f10,hF'.f11,hF'.f12⟩ hK' hB' k13 k14 (by rw[hll];rfl)
 ·refine tl1_ok G b12 K hk12 _ hK E2 rows tag2 tk xs hB (by omega) hx.pos (plI [67] [66,111,111,108] [] xs.length) (inG ds _ _ _ _ (.inl rfl) hd.b (by decide) (by decide) (by decide)).p rfl (by simp[plI]) fr0 _ ?_ e12 ?_ Ek hEk ?_ ?_ ?_ _ fun fr' h' E3 rows' tag3 tk3 hF' hK' hB' k13 k14 k15=>?_
  ·exact⟨hF.f0,hF.f3,hF.f4,hF.f5,hF.f6,hF.f7,hF.f8,hF.f9,hF.f10,hF.f11,hF.f12⟩
  ·rfl
  ·exact f13
  ·exact f14
  ·exact f15
  simp only[rn,pevA,seval,k15,hw]
  exact hR _ _ _ _ _ _ _ (hll _) (hx.snoc (inG ds _ _ _ _ (.inl rfl) hd.b (by decide) (by decide) (by decide)) rfl) ⟨hF'.f0,hF'.f3,hF'.f4,hF'.f5,hF'.f6,hF'.f7,hF'.f8,hF'.f9,hF'.f10,hF'.f11,hF'.f12⟩ hK' hB' k13 k14 (by rw[hll];rfl)
 ·refine tl1_ok G b12 K hk12 _ hK E2 rows tag2 tk xs hB (by omega) hx.pos (plI [67] [76,105,115,116] [[97]] xs.length) (inG ds _ _ _ _ (.inl rfl) hd.l (by decide) (by decide) (by decide)).p rfl (by simp[plI]) fr0 _ ?_ e12 ?_ Ek hEk ?_ ?_ ?_ _ fun fr' h' E3 rows' tag3 tk3 hF' hK' hB' k13 k14 k15=>?_
  ·exact⟨hF.f0,hF.f3,hF.f4,hF.f5,hF.f6,hF.f7,hF.f8,hF.f9,hF.f10,hF.f11,hF.f12⟩
  ·rfl
  ·exact f13
  ·exact f14
  ·exact f15
  simp only[rn,pevA,seval,k15,hw]
  exact hR _ _ _ _ _ _ _ (hll _) (hx.snoc (inG ds _ _ _ _ (.inl rfl) hd.l (by decide) (by decide) (by decide)) rfl) ⟨hF'.f0,hF'.f3,hF'.f4,hF'.f5,hF'.f6,hF'.f7,hF'.f8,hF'.f9,hF'.f10,hF'.f11,hF'.f12⟩ hK' hB' k13 k14 (by rw[hll];rfl)
 ·refine tl1_ok G b12 K hk12 _ hK E2 rows tag2 tk xs hB (by omega) hx.pos (plI [67] [80,97,105,114] [[97],[98]] xs.length) (inG ds _ _ _ _ (.inl rfl) hd.p (by decide) (by decide) (by decide)).p rfl (by simp[plI]) fr0 _ ?_ e12 ?_ Ek hEk ?_ ?_ ?_ _ fun fr' h' E3 rows' tag3 tk3 hF' hK' hB' k13 k14 k15=>?_
  ·exact⟨hF.f0,hF.f3,hF.f4,hF.f5,hF.f6,hF.f7,hF.f8,hF.f9,hF.f10,hF.f11,hF.f12⟩
  ·rfl
  ·exact f13
  ·exact f14
  ·exact f15
  simp only[rn,pevA,seval,k15,hw]
  exact hR _ _ _ _ _ _ _ (hll _) (hx.snoc (inG ds _ _ _ _ (.inl rfl) hd.p (by decide) (by decide) (by decide)) rfl) ⟨hF'.f0,hF'.f3,hF'.f4,hF'.f5,hF'.f6,hF'.f7,hF'.f8,hF'.f9,hF'.f10,hF'.f11,hF'.f12⟩ hK' hB' k13 k14 (by rw[hll];rfl)
 ·refine tl1_ok G b12 K hk12 _ hK E2 rows tag2 tk xs hB (by omega) hx.pos (plI [68] [73,110,116] [] xs.length) (inG ds _ _ _ _ (.inr rfl) hd.i (by decide) (by decide) (by decide)).p rfl (by simp[plI]) fr0 _ ?_ e12 ?_ Ek hEk ?_ ?_ ?_ _ fun fr' h' E3 rows' tag3 tk3 hF' hK' hB' k13 k14 k15=>?_
  ·exact⟨hF.f0,hF.f3,hF.f4,hF.f5,hF.f6,hF.f7,hF.f8,hF.f9,hF.f10,hF.f11,hF.f12⟩
  ·rfl
  ·exact f13
  ·exact f14
  ·exact f15
  simp only[rn,pevA,seval,k15,hw]
  exact hR _ _ _ _ _ _ _ (hll _) (hx.snoc (inG ds _ _ _ _ (.inr rfl) hd.i (by decide) (by decide) (by decide)) rfl) ⟨hF'.f0,hF'.f3,hF'.f4,hF'.f5,hF'.f6,hF'.f7,hF'.f8,hF'.f9,hF'.f10,hF'.f11,hF'.f12⟩ hK' hB' k13 k14 (by rw[hll];rfl)
 ·refine tl1_ok G b12 K hk12 _ hK E2 rows tag2 tk xs hB (by omega) hx.pos (plI [68] [67,104,97,114] [] xs.length) (inG ds _ _ _ _ (.inr rfl) hd.c (by decide) (by decide) (by decide)).p rfl (by simp[plI]) fr0 _ ?_ e12 ?_ Ek hEk ?_ ?_ ?_ _ fun fr' h' E3 rows' tag3 tk3 hF' hK' hB' k13 k14 k15=>?_
  ·exact⟨hF.f0,hF.f3,hF.f4,hF.f5,hF.f6,hF.f7,hF.f8,hF.f9,hF.f10,hF.f11,hF.f12⟩
  ·rfl
  ·exact f13
  ·exact f14
  ·exact f15
  simp only[rn,pevA,seval,k15,hw]
  exact hR _ _ _ _ _ _ _ (hll _) (hx.snoc (inG ds _ _ _ _ (.inr rfl) hd.c (by decide) (by decide) (by decide)) rfl) ⟨hF'.f0,hF'.f3,hF'.f4,hF'.f5,hF'.f6,hF'.f7,hF'.f8,hF'.f9,hF'.f10,hF'.f11,hF'.f12⟩ hK' hB' k13 k14 (by rw[hll];rfl)
 ·refine tl1_ok G b12 K hk12 _ hK E2 rows tag2 tk xs hB (by omega) hx.pos (plI [68] [66,111,111,108] [] xs.length) (inG ds _ _ _ _ (.inr rfl) hd.b (by decide) (by decide) (by decide)).p rfl (by simp[plI]) fr0 _ ?_ e12 ?_ Ek hEk ?_ ?_ ?_ _ fun fr' h' E3 rows' tag3 tk3 hF' hK' hB' k13 k14 k15=>?_
  ·exact⟨hF.f0,hF.f3,hF.f4,hF.f5,hF.f6,hF.f7,hF.f8,hF.f9,hF.f10,hF.f11,hF.f12⟩
  ·rfl
  ·exact f13
  ·exact f14
  ·exact f15
  simp only[rn,pevA,seval,k15,hw]
  exact hR _ _ _ _ _ _ _ (hll _) (hx.snoc (inG ds _ _ _ _ (.inr rfl) hd.b (by decide) (by decide) (by decide)) rfl) ⟨hF'.f0,hF'.f3,hF'.f4,hF'.f5,hF'.f6,hF'.f7,hF'.f8,hF'.f9,hF'.f10,hF'.f11,hF'.f12⟩ hK' hB' k13 k14 (by rw[hll];rfl)
 ·refine tl1_ok G b12 K hk12 _ hK E2 rows tag2 tk xs hB (by omega) hx.pos (plI [68] [76,105,115,116] [[97]] xs.length) (inG ds _ _ _ _ (.inr rfl) hd.l (by decide) (by decide) (by decide)).p rfl (by simp[plI]) fr0 _ ?_ e12 ?_ Ek hEk ?_ ?_ ?_ _ fun fr' h' E3 rows' tag3 tk3 hF' hK' hB' k13 k14 k15=>?_
  ·exact⟨hF.f0,hF.f3,hF.f4,hF.f5,hF.f6,hF.f7,hF.f8,hF.f9,hF.f10,hF.f11,hF.f12⟩
  ·rfl
  ·exact f13
  ·exact f14
  ·exact f15
  simp only[rn,pevA,seval,k15,hw]
  exact hR _ _ _ _ _ _ _ (hll _) (hx.snoc (inG ds _ _ _ _ (.inr rfl) hd.l (by decide) (by decide) (by decide)) rfl) ⟨hF'.f0,hF'.f3,hF'.f4,hF'.f5,hF'.f6,hF'.f7,hF'.f8,hF'.f9,hF'.f10,hF'.f11,hF'.f12⟩ hK' hB' k13 k14 (by rw[hll];rfl)
 ·refine tl1_ok G b12 K hk12 _ hK E2 rows tag2 tk xs hB (by omega) hx.pos (plI [68] [80,97,105,114] [[97],[98]] xs.length) (inG ds _ _ _ _ (.inr rfl) hd.p (by decide) (by decide) (by decide)).p rfl (by simp[plI]) fr0 _ ?_ e12 ?_ Ek hEk ?_ ?_ ?_ _ fun fr' h' E3 rows' tag3 tk3 hF' hK' hB' k13 k14 k15=>?_
  ·exact⟨hF.f0,hF.f3,hF.f4,hF.f5,hF.f6,hF.f7,hF.f8,hF.f9,hF.f10,hF.f11,hF.f12⟩
  ·rfl
  ·exact f13
  ·exact f14
  ·exact f15
  simp only[rn,pevA,seval,k15,hw]
  exact hR _ _ _ _ _ _ _ (hll _) (hx.snoc (inG ds _ _ _ _ (.inr rfl) hd.p (by decide) (by decide) (by decide)) rfl) ⟨hF'.f0,hF'.f3,hF'.f4,hF'.f5,hF'.f6,hF'.f7,hF'.f8,hF'.f9,hF'.f10,hF'.f11,hF'.f12⟩ hK' hB' k13 k14 (by rw[hll];rfl)
theorem del_le {h:AH}{b:Nat}:(h.del b).le h:=⟨fun n o hn=>by
 rw[AH.del_objs] at hn
 split at hn
 ·cases hn
 ·exact hn,fun _ _ h=>h⟩
theorem rows_loop (ds:List Dt)(hd:DsB ds)(E:TypeId)(l:List Int)(G:AH)(b12:Nat)(K:Nat->Prop)(hk12:¬K b12)(hK:KOk K G)(ho:G.objs b12=some (.cells [.lst 0 [] .nil] 36))(fr0:AFr)(e0:fr0 0=.lst E (itC l) .no)(e10:fr0 10=.lst 9 (strC conL) .no)(e11:fr0 11=.lst 3 (itC [0,0,0,1,2]) .no)(e12:fr0 12=.ptr b12 0)(e13:fr0 13=.lst 0 [] .nil)(e14:fr0 14=.int .i64 (-1))(e15:fr0 15=.int .i64 0)(hl:l.length<=6)(R:CExit->AQ)
  (hR:∀(fr':AFr)(h':AH)(E3:TypeId)(rows':List (List AV))(tag3 tk3:Tag)(xs:List In),xs.length=l.length->RwP ds xs->FI fr0 fr'->KOk K h'->BI G h' b12 E3 rows' tag3 tk3 xs->fr' 14=.int .i64 (badP xs)->R (.exit 0) fr' h') :
  W T K (.loop l3_1.toC) fr0 G R:=by
 refine aloop (α:=Nat) (fun i fr h1=>FI fr0 fr/\KOk K h1/\i<=l.length/\fr 15=.int .i64 (i:Nat)/\∃E2 rows tag2 tk xs Ek,xs.length=i/\RwP ds xs/\BI G h1 b12 E2 rows tag2 tk xs/\(strC (keysC xs)≠[]->Ek=9)/\fr 13=.lst Ek (strC (keysC xs)) tk/\fr 14=.int .i64 (badP xs)) (fun i=>l.length-i) 0
  ⟨⟨rfl,rfl,rfl,rfl,rfl,rfl,rfl,rfl,rfl,rfl,rfl⟩,hK,Nat.zero_le _,e15,0,[],.nil,.nil,[],0,rfl,⟨fun j x hj=>by simp at hj,fun x hx=>by simp at hx⟩,⟨ho,del_le,(Toks.one _ _ _).cons _ _,rfl,fun h=>absurd rfl h⟩,fun h=>absurd rfl h,e13,e14⟩ ?_
 rintro i fr h1 ⟨hF,hK1,hi,f15,E2,rows,tag2,tk,xs,Ek,rfl,hx,hB,hEk,f13,f14⟩
 by_cases hlt:xs.length<l.length
 ·refine rows_body ds hd E l G b12 K hk12 fr0 e0 e10 e11 e12 hl h1 hK1 E2 rows tag2 tk xs hB hx fr hF hlt Ek hEk f13 f14 f15 _ fun fr' h' E3 rows' tag3 tk3 xs' hxl hx' hF' hK' hB' k13 k14 k15=>?_
  exact⟨xs'.length,by show l.length-xs'.length<l.length-xs.length;omega,hF',hK',by omega,k15,E3,rows',tag3,tk3,xs',9,rfl,hx',hB',fun _=>rfl,k13,k14⟩
 ·have hxl:xs.length=l.length:=by omega
  have c1:decide ((xs.length:Int)<(l.length:Int))=false:=by rw[hxl];simp
  have g0:=hF.f0.trans e0
  simp only[u_C l3_1.eq_1,rn,pevA,seval,g0,f15,itC_len,c1]
  exact hR _ _ E2 rows tag2 tk xs hxl hx ⟨hF.f0,hF.f3,hF.f4,hF.f5,hF.f6,hF.f7,hF.f8,hF.f9,hF.f10,hF.f11,hF.f12⟩ hK1 hB f14
theorem le_but {h h1 h2:AH}{b:Nat}(hn:h.objs b=none)(a:h.le h1)(c:(h1.del b).le h2):h.le h2:=AH.le_trans (le_del a hn) c
def BSt (h:AH)(b:Nat)(l:List In):Prop:=(l=[]/\h.objs b=some (.cells [.lst 0 [] .nil,.nilm] 38))\/∃m E tag,InR h b m E tag l
theorem BSt.o {h:AH}{b:Nat}{l:List In}(hs:BSt h b l):∃E tg mv,h.objs b=some (.cells [.lst E (insR l) tg,mv] 38):=by
 rcases hs with⟨rfl,ho⟩|⟨m,E,tag,hi⟩
 ·exact⟨0,.nil,.nilm,ho⟩
 ·exact⟨E,tag,_,hi.o⟩
theorem adI_one {l:List In}{x:In}(h:keyI x∉l.map keyI):adI l [x]=none:=by
 simp only[adI,h,if_false]
theorem nd_of {xs:List In}(h:adI [] xs=none):(xs.map keyI).Nodup:=by
 have:=adI_nd (l:=[]) (r:=xs) (by simp) h
 rwa [List.nil_append] at this
theorem bone_loop (ds:List Dt)(M:AH)(bb bc bk b12:Nat)(E2:TypeId)(tag2:Tag)(xs:List In)(hxl:xs.length<=6)(hx:RwP ds xs)(hnd:(xs.map keyI).Nodup)(hb:M.objs bb=some (.cells [.lst 0 [] .nil,.nilm] 38))(hk:KnR (M.del bb) bk csCD)(hc:CnR (M.del bb) bc ds)(g0:Nat)(Eg:TypeId)(hg:(M.del bb).objs 0=some (.stat [.iface 212 (.ptr g0 0)] Eg))(ho:(M.del bb).objs b12=some (.cells [.lst E2 (rawsR xs) tag2] 36))
  (K:Nat->Prop)(hkb:¬K bb)(hK:KOk K M)(fr0:AFr)(e6:fr0 6=.ptr bc 0)(e7:fr0 7=.ptr bk 0)(e9:fr0 9=.rptr [.ptr bb 0])(e12:fr0 12=.ptr b12 0)(e20:fr0 20=.int .i64 0)(hE2:rawsR xs≠[]->E2=51)(R:CExit->AQ)
  (hR:∀(fr:AFr)(h:AH),FI fr0 fr->fr 19=fr0 19->(M.del bb).le h->KOk K h->BSt h bb xs->R (.exit 2) fr h) :
  W T K (.loop l3_3.toC) fr0 M R:=by
 refine aloop (α:=Nat) (fun i fr h1=>FI fr0 fr/\fr 19=fr0 19/\fr 20=.int .i64 (i:Nat)/\i<=xs.length/\(M.del bb).le h1/\KOk K h1/\BSt h1 bb (xs.take i)) (fun i=>xs.length-i) 0
  ⟨⟨rfl,rfl,rfl,rfl,rfl,rfl,rfl,rfl,rfl,rfl,rfl⟩,rfl,e20,Nat.zero_le _,del_le,hK,.inl ⟨rfl,hb⟩⟩ ?_
 rintro i fr h1 ⟨hF,f19,f20,hi,hle,hK1,hS⟩
 have g12:=hF.f12.trans e12
 have g6:=hF.f6.trans e6
 have g7:=hF.f7.trans e7
 have g9:=hF.f9.trans e9
 have o12:=hle.1 _ _ ho
 by_cases hlt:i<xs.length
 ·have c1:decide ((i:Int)<(xs.length:Int))=true:=decide_eq_true (by omega)
  have hw:IntKind.i64.wrap ((i:Int)+1)=((i+1:Nat):Int):=by rw[wrap64 ⟨by omega,by omega⟩];rfl
  obtain⟨x,hxi⟩ : ∃x,xs[i]?=some x:=⟨xs[i],by simp[hlt]⟩
  have hget:(rawsR xs)[i]?=some (rawR x):=by rw[rawsR_get,hxi];rfl
  have hxg:=hx.g x (List.mem_of_getElem? hxi)
  simp only[rawR] at hget
  obtain⟨E,tg,mv,hob⟩:=hS.o
  have hn:keyI x∉(xs.take i).map keyI:=by rw[List.map_take];exact nd_lt hnd (by rw[List.getElem?_map,hxi];rfl)
  have hadd:=iadd_ok hob (hk.keep hle.1) (hc.keep hle.1) (by rw[List.length_take];omega) (fun y hy=>(hx.g y (List.mem_of_mem_take hy)).p) (by rw[List.map_take];exact (hnd.sublist (List.take_sublist _ _))) [x] (by simp) (fun y hy=>by simp at hy;subst hy;exact hxg) g0 Eg (hle.1 _ _ hg) K hkb
  simp only[u_C l3_3.eq_1,e_dregion d3_2,u_L s3_2.eq_1,u_T g3_2.eq_1,rn,pevA,seval,g6,g7,g9,g12,f20,o12,rawsR_len,c1,hget]
  refine ACall.weakL (args':=[.ptr bb 0,.ptr bc 0,.ptr bk 0,.lst 51 (insR [x]) .no]) (ACall.kn (hadd.mono ?_)) ⟨.refl _,.refl _,.refl _,.lstL (es:=[rawR x]) ⟨rawR_wk hxg.p,trivial⟩,trivial⟩
  rintro _ h2 (⟨_,rfl,m,E',tag',hI,hle2⟩|⟨y,hy,_⟩) hK2
  ·simp only[e_dregion d3_2,u_L s3_2.eq_1,u_T g3_2.eq_1,rn,pevA,seval,f20,hw]
   have htk:xs.take i++[x]=xs.take (i+1):=by rw[List.take_add_one,hxi];rfl
   rw[htk] at hI
   exact⟨i+1,by show xs.length-(i+1)<xs.length-i;omega,⟨hF.f0,hF.f3,hF.f4,hF.f5,hF.f6,hF.f7,hF.f8,hF.f9,hF.f10,hF.f11,hF.f12⟩,f19,rfl,hlt,le_but (by rw[AH.del_objs,if_pos rfl]) hle hle2,hK2,.inr ⟨m,E',tag',hI⟩⟩
  ·rw[adI_one hn] at hy;cases hy
 ·obtain rfl:i=xs.length:=by omega
  have c1:decide ((xs.length:Int)<(xs.length:Int))=false:=by simp
  rw[List.take_length] at hS
  simp only[u_C l3_3.eq_1,rn,pevA,seval,f20,g12,o12,rawsR_len,c1]
  exact hR _ _ ⟨hF.f0,hF.f3,hF.f4,hF.f5,hF.f6,hF.f7,hF.f8,hF.f9,hF.f10,hF.f11,hF.f12⟩ f19 hle hK1 hS
noncomputable def lpI (fr:AFr)(frC:Fr)(st:LoopState)(pend:Option CExit):AO:=.loop st fr frC [140] a3_5.toC b3_5.toC pend
structure YI (M h:AH)(c b21:Nat)(lp:AO)(n:Int):Prop where
 c:h.objs c=some lp
 n:h.objs b21=some (.cells [.int .i64 n] 3)
 le:(M.del b21).le h
theorem all_yield (ds:List Dt)(M:AH)(bb b12 b21 c:Nat)(E2:TypeId)(tag2:Tag)(xs:List In)(hxl:xs.length<=6)(hx:RwP ds xs)(hnd:(xs.map keyI).Nodup)(cut:Int)(hb:BSt (M.del b21) bb xs)(ho:(M.del b21).objs b12=some (.cells [.lst E2 (rawsR xs) tag2] 36))(hE2:rawsR xs≠[]->E2=51)
  (frA:AFr)(frC:Fr)(f3:frA 3=.rptr [.int .i64 cut])(f9:frA 9=.rptr [.ptr bb 0])(f12:frA 12=.ptr b12 0)(f21:frA 21=.ptr b21 0)(hc:M.objs c=none)(ncb:c≠b21)(K:Nat->Prop)(hkc:¬K c)(hk21:¬K b21)(i:Nat)(x:In)(hxi:xs[i]?=some x)(h1:AH)(hI:YI M h1 c b21 (lpI frA frC .ready none) i) :
  ACall T K (.yield c) [.agg (inR x)] h1 fun v h2=>(v=.bool true/\YI M h2 c b21 (lpI frA frC .ready none) (i+1:Nat))\/(v=.bool false/\YI M h2 c b21 (lpI frA frC .done (some (.exit 4))) cut):=by
 have hxg:=hx.g x (List.mem_of_getElem? hxi)
 have hxR:=hxg.p.R
 refine ACall.yield (frA:=frA) (frC:=frC) hI.c hkc rfl (wpC_ok ?_)
 rw[hxR]
 simp only[u_C a3_5.eq_1,rn,pevA,seval,setPsA]
 intro b22 hb22 hk22
 have n22c:b22≠c:=by rintro rfl;rw[hI.c] at hb22;cases hb22
 have n2221:b22≠b21:=by rintro rfl;rw[hI.n] at hb22;cases hb22
 simp only[rn,pevA,seval,kN,kG,hk22]
 refine⟨by rw[AH.set_ne _ _ n22c.symm];exact hI.c,wpC_ok ?_⟩
 show wpC T K b3_5 _ ((h1.set b22 (.cells [.str x.cls,.str x.con,.lst 9 (strC x.vars) .no,.lst 149 [] .no,.lst 139 [] .no,.int .i64 x.pos] 51)).set c (lpI frA frC .busy none)) _
 have hY:YI M ((h1.set b22 (.cells [.str x.cls,.str x.con,.lst 9 (strC x.vars) .no,.lst 149 [] .no,.lst 139 [] .no,.int .i64 x.pos] 51)).set c (lpI frA frC .busy none)) c b21 (lpI frA frC .busy none) i:=by
  refine⟨AH.set_same _ _ _,by rw[AH.set_ne _ _ ncb.symm,AH.set_ne _ _ n2221.symm];exact hI.n,⟨fun m o hm=>?_,hI.le.2⟩⟩
  have hm1:=hI.le.1 m o hm
  have e1:m≠c:=by rintro rfl;rw[AH.del_objs,if_neg ncb,hc] at hm;cases hm
  rw[AH.set_ne _ _ e1,AH.set_ne _ _ (by rintro rfl;rw[hb22] at hm1;cases hm1)]
  exact hm1
 have o22:((h1.set b22 (.cells [.str x.cls,.str x.con,.lst 9 (strC x.vars) .no,.lst 149 [] .no,.lst 139 [] .no,.int .i64 x.pos] 51)).set c (lpI frA frC .busy none)).objs b22=some (.cells [.str x.cls,.str x.con,.lst 9 (strC x.vars) .no,.lst 149 [] .no,.lst 139 [] .no,.int .i64 x.pos] 51):=by rw[AH.set_ne _ _ n22c,AH.set_same]
 generalize (h1.set b22 (.cells [.str x.cls,.str x.con,.lst 9 (strC x.vars) .no,.lst 149 [] .no,.lst 139 [] .no,.int .i64 x.pos] 51)).set c (lpI frA frC .busy none)=h3 at hY o22 ⊢
 clear hI hb22 n22c h1
 have o21:=hY.n
 have o12:=hY.le.1 _ _ ho
 have hlt:i<xs.length:=(List.getElem?_eq_some_iff.1 hxi).1
 have d0:decide ((xs.length:Int)<=(i:Int))=false:=decide_eq_false (by omega)
 have hget:(rawsR xs)[i]?=some (rawR x):=by rw[rawsR_get,hxi];rfl
 simp only[rawR] at hget
 have hsame:=sameInst_ok hxg.p
 rw[hxR] at hsame
 simp only[u_C b3_5.eq_1,e_dregion d3_4,u_L s3_4.eq_1,u_T g3_4.eq_1,rn,pevA,seval,f3,f9,f12,f21,o21,o12,o22,rawsR_len,d0,hget]
 refine ACall.weakL (hsame.use ?_) ⟨.refl _,.aggL ⟨.refl _,.refl _,.refl _,.nil _ _ _,.nil _ _ _,.refl _,trivial⟩,.refl _,trivial⟩
 simp only[e_dregion d3_4,u_L s3_4.eq_1,u_T g3_4.eq_1,rn,pevA,seval,f3,f9,f12,f21,o21,o12,o22]
 obtain⟨m,Eb,tagb,hbi⟩ : ∃m E tag,InR (M.del b21) bb m E tag xs:=by
  rcases hb with⟨rfl,_⟩|h
  ·simp at hlt
  ·exact h
 have hfind:=ifind_ok (hbi.keep hY.le.1) (fun y hy=>(hx.g y hy).p) (List.mem_of_getElem? hxi) hnd K
 rw[hxR] at hfind
 refine hfind.mono ?_
 rintro _ h3 ⟨rfl,rfl⟩
 simp only[rn,pevA,seval]
 intro b23 hb23 hk23
 have n2321:b21≠b23:=by rintro rfl;rw[o21] at hb23;cases hb23
 have n2322:b22≠b23:=by rintro rfl;rw[o22] at hb23;cases hb23
 have n23c:c≠b23:=by rintro rfl;rw[hY.c] at hb23;cases hb23
 have hw:IntKind.i64.wrap ((i:Int)+1)=((i+1:Nat):Int):=by rw[wrap64 ⟨by omega,by omega⟩];rfl
 simp only[rn,pevA,seval,kN,kG,hk23,n2321,n2322,n2322.symm,o22]
 refine hsame.use ?_
 simp only[rn,pevA,seval,kN,kG,f3,f21,hk23,n2321,n2321.symm,o21,hw,hk21]
 have fin:∀lp,YI M ((((h3.set b23 (.cells [.str x.cls,.str x.con,.lst 9 (strC x.vars) .no,.lst 149 [] .no,.lst 139 [] .no,.int .i64 x.pos] 51)).set b21 (.cells [.int .i64 ((i+1:Nat):Int)] 3)).set c lp)) c b21 lp (i+1:Nat):=fun lp=>by
  refine⟨AH.set_same _ _ _,by rw[AH.set_ne _ _ ncb.symm,AH.set_same],⟨fun q o hq=>?_,hY.le.2⟩⟩
  have hq1:=hY.le.1 q o hq
  have e1:q≠c:=by rintro rfl;rw[AH.del_objs,if_neg ncb,hc] at hq;cases hq
  have e2:q≠b21:=by rintro rfl;rw[AH.del_objs,if_pos rfl] at hq;cases hq
  rw[AH.set_ne _ _ e1,AH.set_ne _ _ e2,AH.set_ne _ _ (by rintro rfl;rw[hb23] at hq1;cases hq1)]
  exact hq1
 have o3:((h3.set b23 (.cells [.str x.cls,.str x.con,.lst 9 (strC x.vars) .no,.lst 149 [] .no,.lst 139 [] .no,.int .i64 x.pos] 51)).set b21 (.cells [.int .i64 ((i+1:Nat):Int)] 3)).objs c=some (lpI frA frC .busy none):=by rw[AH.set_ne _ _ ncb,AH.set_ne _ _ n23c];exact hY.c
 cases hcut:decide (((i+1:Nat):Int)=cut) with
 |true=>
  have:=of_decide_eq_true hcut
  simp only[rn,pevA,seval]
  refine⟨o3,.inr ⟨rfl,?_⟩⟩
  rw[<-this]
  exact fin _
 |false=>
  simp only[rn,pevA,seval]
  exact⟨o3,.inl ⟨rfl,fin _⟩⟩
theorem del_mono {h h':AH}(hl:h.le h')(n:Nat):(h.del n).le (h'.del n):=⟨fun m o hm=>by
 rw[AH.del_objs] at hm ⊢
 split at hm
 ·cases hm
 ·rename_i e;rw[if_neg e];exact hl.1 m o hm,hl.2⟩
theorem del_none {h:AH}{n:Nat}:(h.del n).objs n=none:=by rw[AH.del_objs,if_pos rfl]
theorem InR.le {h h':AH}{b m bb:Nat}{E:TypeId}{tag:Tag}{l:List In}(he:InR h b m E tag l)(hl:(h.del bb).le h')(n1:b≠bb)(n2:m≠bb):InR h' b m E tag l:=⟨del_keep' hl n1 he.o,del_keep' hl n2 he.m⟩
 where del_keep' {h h':AH}{bb n:Nat}{o:AO}(hl:(h.del bb).le h')(hn:n≠bb)(ho:h.objs n=some o):h'.objs n=some o:=hl.1 n o (by rw[AH.del_objs,if_neg hn];exact ho)
theorem all_rfun (ds:List Dt)(M:AH)(ba ma bb b12 b21:Nat)(Ea:TypeId)(taga:Tag)(E2:TypeId)(tag2:Tag)(xs:List In)(hxl:xs.length<=6)(hx:RwP ds xs)(hnd:(xs.map keyI).Nodup)(cut:Int)(ha:InR M ba ma Ea taga xs)(hb:BSt (M.del b21) bb xs)(ho:(M.del b21).objs b12=some (.cells [.lst E2 (rawsR xs) tag2] 36))(hE2:rawsR xs≠[]->E2=51)(h21:M.objs b21=some (.cells [.int .i64 0] 3))
  (fr:AFr)(f3:fr 3=.rptr [.int .i64 cut])(f9:fr 9=.rptr [.ptr bb 0])(f12:fr 12=.ptr b12 0)(f21:fr 21=.ptr b21 0)(f139:fr 139=.func 36 [] [.rptr [.ptr ba 0]])(K:Nat->Prop)(hk21:¬K b21)(R:CExit->AQ)
  (hR:∀(e:CExit)(h':AH)(n:Int),(e=.normal\/e=.exit 4)->(n=xs.length\/n=cut)->h'.objs b21=some (.cells [.int .i64 n] 3)->(M.del b21).le h'->KOk K h'->R e fr h') :
  W T K (.rfun (.tmp 139) [140] a3_5.toC b3_5.toC) fr M R:=by
 refine W.rfun f139 fun c frC hc htc hkc=>?_
 have ncb:c≠b21:=by rintro rfl;rw[h21] at hc;cases hc
 have hl0:(M.del b21).le (M.set c (lpI fr frC .ready none)):=AH.le_trans del_le (AH.le_set hc)
 refine ACall.kn ((iall1_ok c K (fun i h=>YI M h c b21 (lpI fr frC .ready none) i) (fun h=>YI M h c b21 (lpI fr frC .done (some (.exit 4))) cut) xs (by omega) (fun x hx'=>(hx.g x hx').p) ba ma Ea taga (fun i x hxi h1 hI _=>all_yield ds M bb b12 b21 c E2 tag2 xs hxl hx hnd cut hb ho hE2 fr frC f3 f9 f12 f21 hc ncb K hkc hk21 i x hxi h1 hI) _ (ha.keep (set_keep hc)) ⟨AH.set_same _ _ _,by rw[AH.set_ne _ _ ncb.symm];exact h21,hl0⟩).mono ?_)
 have fin:∀h2:AH,(M.del b21).le h2->(M.del b21).le (h2.del c):=fun h2 hl=>le_del hl (by rw[AH.del_objs,if_neg ncb];exact hc)
 rintro _ h2 (hI|hI) hK2
 ·exact⟨.ready,none,hI.c,by simp,by simp,hR _ _ xs.length (.inl rfl) (.inl rfl) (by rw[AH.del_objs,if_neg ncb.symm];exact hI.n) (fin _ hI.le) (hK2.del hkc)⟩
 ·exact⟨.done,some (.exit 4),hI.c,by simp,by simp,hR _ _ cut (.inr rfl) (.inr rfl) (by rw[AH.del_objs,if_neg ncb.symm];exact hI.n) (fin _ hI.le) (hK2.del hkc)⟩
theorem tl2_ok (ds:List Dt)(h:AH)(ba bb bc bk b4 b12:Nat)(E2:TypeId)(tag2:Tag)(xs:List In)(hxl:xs.length<=6)(hx:RwP ds xs)(cut:Int)(nab:ba≠bb)(n4a:b4≠ba)(n4b:b4≠bb)(n124:b12≠b4)(ga:Nat->Nat)(Eg:Nat->TypeId)
  (ha:h.objs ba=some (.cells [.lst 0 [] .nil,.nilm] 38))(hb:h.objs bb=some (.cells [.lst 0 [] .nil,.nilm] 38))(hk:KnR ((h.del ba).del bb) bk csCD)(hc:CnR ((h.del ba).del bb) bc ds)(ho:((h.del ba).del bb).objs b12=some (.cells [.lst E2 (rawsR xs) tag2] 36))(hE2:rawsR xs≠[]->E2=51)(hg:GA ((h.del ba).del bb) ga Eg)(h4:h.objs b4=some (.cells [.bool false] 4))
  (K:Nat->Prop)(hK:KOk K h)(hka:¬K ba)(hkb:¬K bb)(hk4:¬K b4)(fr:AFr)(f3:fr 3=.rptr [.int .i64 cut])(f4:fr 4=.ptr b4 0)(f5:fr 5=.bool true)(f6:fr 6=.ptr bc 0)(f7:fr 7=.ptr bk 0)(f8:fr 8=.ptr ba 0)(f9:fr 9=.rptr [.ptr bb 0])(f12:fr 12=.ptr b12 0)(f14:fr 14=.int .i64 (badP xs))(R:CExit->AQ)
  (hR:∀(fr':AFr)(h':AH),fr' 4=.ptr b4 0->h'.objs b4=some (.cells [.bool true] 4)->(((h.del ba).del bb).del b4).le h'->KOk K h'->R .ret fr' h'):wpC T K tl3_2 fr h R:=by
 have hX:((h.del ba).del bb).le h:=AH.le_trans del_le del_le
 have o12:=hX.1 _ _ ho
 have hwk:Wk (.lst E2 (rawsR xs) tag2) (.lst 51 (insR xs) .no):=(rawsR_wk fun x hx'=>(hx.g x hx').p).rows hE2
 have hadd:=iadd_ok (l:=[]) ha (hk.keep hX.1) (hc.keep hX.1) (by simp) (fun x hx'=>by simp at hx') (by simp) xs (by omega) hx.g (ga 0) (Eg 0) (hX.1 _ _ (hg.g 0 (by decide))) K hka
 simp only[u_C tl3_2.eq_1,rn,pevA,seval,f6,f7,f8,f12,o12]
 refine ACall.weakL (ACall.kn (hadd.mono ?_)) ⟨.refl _,.refl _,.refl _,hwk,trivial⟩
 rintro _ h2 (⟨hn,rfl,ma,Ea,taga,hI,hle⟩|⟨x,hxs,rfl,rfl⟩) hK2
 ·
  have hnd:=nd_of hn
  rw[List.nil_append] at hI
  have hbad:badP xs= -1:=by unfold badP;rw[hn]
  rw[hbad] at f14
  have hX2:((h.del ba).del bb).le (h2.del bb):=del_mono hle bb
  have ob2:h2.objs bb=some (.cells [.lst 0 [] .nil,.nilm] 38):=hle.1 _ _ (by rw[AH.del_objs,if_neg nab.symm];exact hb)
  simp only[rn,pevA,seval,f14]
  refine bone_loop ds h2 bb bc bk b12 E2 tag2 xs hxl hx hnd ob2 (hk.keep hX2.1) (hc.keep hX2.1) (ga 0) (Eg 0) (hX2.1 _ _ (hg.g 0 (by decide))) (hX2.1 _ _ ho) K hkb hK2 _ ?_ ?_ ?_ ?_ ?_ hE2 _ fun fr2 h3 hF g19 hle3 hK3 hS=>?_
  ·exact f6
  ·exact f7
  ·exact f9
  ·exact f12
  ·rfl
  have k3:=hF.f3.trans f3
  have k4:=hF.f4.trans f4
  have k5:=hF.f5.trans f5
  have k8:=hF.f8.trans f8
  have k9:=hF.f9.trans f9
  have k12:=hF.f12.trans f12
  have k19:fr2 19=.nili:=g19
  have hX3:((h.del ba).del bb).le h3:=AH.le_trans hX2 hle3
  have nmb:ma≠bb:=by rintro rfl;rw[hI.m] at ob2;cases ob2
  have hIa:InR h3 ba ma Ea taga xs:=hI.le hle3 nab nmb
  simp only[rn,pevA,seval]
  intro b21 hb21 hk21
  have hb21':=le_none hX3 hb21
  simp only[rn,pevA,seval,kN,kG,k8,hk21]
  refine (iall_ok ba).use ?_
  simp only[rn,pevA,seval]
  have hs3:((h3.set b21 (.cells [.int .i64 0] 3)).del b21)=h3:=by rw[s_delset,s_del hb21]
  refine all_rfun ds _ ba ma bb b12 b21 Ea taga E2 tag2 xs hxl hx hnd cut (hIa.keep (set_keep hb21)) (by rw[hs3];exact hS) (by rw[hs3];exact hX3.1 _ _ ho) hE2 (AH.set_same _ _ _) _ ?_ ?_ ?_ ?_ ?_ K hk21 _ fun e h5 n he hn' o21 hle5 hK5=>?_
  ·exact k3
  ·exact k9
  ·exact k12
  ·rfl
  ·rfl
  rw[hs3] at hle5
  have o12':=hle5.1 _ _ (hX3.1 _ _ ho)
  have o4':h5.objs b4=some (.cells [.bool false] 4):=hle5.1 _ _ (hle3.1 _ _ (by rw[AH.del_objs,if_neg n4b];exact hle.1 _ _ (by rw[AH.del_objs,if_neg n4a];exact h4)))
  have hle6:(((h.del ba).del bb).del b4).le (h5.set b4 (.cells [.bool true] 4)):=by
   have:=AH.le_trans (del_le (b:=b4)) (AH.le_trans hX3 hle5)
   exact le_set this del_none
  have d1:decide (((xs.length:Nat):Int)=(xs.length:Int))=true:=by simp
  have d2:decide (cut=cut)=true:=by simp
  rcases he with rfl|rfl
  ·rcases hn' with rfl|rfl
   ·simp only[rn,pevA,seval,k3,k4,k5,k12,k19,o21,o12',o4',rawsR_len,d1,hk4]
    exact hR _ _ k4 (AH.set_same _ _ _) hle6 (hK5.set _ _)
   ·cases hc1:decide (n=(xs.length:Int)) with
    |true=>
     simp only[rn,pevA,seval,k3,k4,k5,k12,k19,o21,o12',o4',rawsR_len,hc1,hk4]
     exact hR _ _ k4 (AH.set_same _ _ _) hle6 (hK5.set _ _)
    |false=>
     simp only[rn,pevA,seval,k3,k4,k5,k12,k19,o21,o12',o4',rawsR_len,hc1,d2,hk4]
     exact hR _ _ k4 (AH.set_same _ _ _) hle6 (hK5.set _ _)
  ·rcases hn' with rfl|rfl
   ·simp only[rn,pevA,seval,k3,k4,k5,k12,k19,o21,o12',o4',rawsR_len,d1,hk4]
    exact hR _ _ k4 (AH.set_same _ _ _) hle6 (hK5.set _ _)
   ·cases hc1:decide (n=(xs.length:Int)) with
    |true=>
     simp only[rn,pevA,seval,k3,k4,k5,k12,k19,o21,o12',o4',rawsR_len,hc1,hk4]
     exact hR _ _ k4 (AH.set_same _ _ _) hle6 (hK5.set _ _)
    |false=>
     simp only[rn,pevA,seval,k3,k4,k5,k12,k19,o21,o12',o4',rawsR_len,hc1,d2,hk4]
     exact hR _ _ k4 (AH.set_same _ _ _) hle6 (hK5.set _ _)
 ·
  have hbad:badP xs=x.pos:=by unfold badP;rw[hxs]
  obtain⟨j,hj⟩:=List.getElem?_of_mem (adI_mem hxs)
  have hpos:=hx.pos j x hj
  have c1:decide ((0:Int)<=x.pos)=true:=decide_eq_true (by omega)
  rw[hbad] at f14
  simp only[rn,pevA,seval,f4,f5,f14,c1]
  refine (placed_ok 104 x.pos (by decide)).use ?_
  simp only[rn,pevA,seval]
  refine (same_ok (hg.mono hX.1) x.pos K).mono ?_
  rintro _ _ ⟨rfl,rfl⟩
  simp only[rn,pevA,seval,f4,h4,hk4]
  exact hR _ _ f4 (AH.set_same _ _ _) (le_set (AH.le_trans del_le hX) del_none) (hK2.set _ _)
end Go.Proofs.YtkohipalihjbbaaGreatDoor.p
namespace Go.Cn
set_option linter.unusedVariables false
variable {T:Nat->Option CFun}{K:Nat->Prop}{fr:AFr}{h:AH}
theorem WO.strish {x:Operand}{E:TypeId}{b n:Nat}{cs:List AV}{Q:AV->AH->Prop}(hx:evA fr x=.slice b 0 n n)(hb:h.objs b=some (.cells cs E))(hKb:¬K b)(hn:cs.length=n)(hp:0<n)(hB:n<=big)
  (hq:Q (.lst E (cs.map fun a=>[a]) .no) (h.del b)):WO T K (.e (.strish E x)) fr h Q:=by
 subst hn
 intro F σ ρ hA hK hρ
 have hv:=hρ x
 rw[hx] at hv
 obtain⟨o1,o2,c,cl,rel,g1,g2,_⟩:=hA.obj b _ hb
 obtain⟨h1,h2⟩:=hA.freeze (K:=K) hb (.inl ⟨cs,E,rfl,rfl,by omega⟩) hKb
 cases hv':ρ x<;>rw[hv'] at hv<;>cases hv
 have hlen:c.length=cs.length:=g2.1.symm
 have hne:cs≠[]:=fun e=>by rw[e] at hp;simp at hp
 refine⟨.slice (some ⟨b,0,none⟩) cs.length cs.length,σ,?_,_,_,_,h2,h1,hK.del hKb,?_,hq⟩
 ·show (match ρ x with|.slice (some a) n c=>_|_=>_)=_
  rw[hv']
  simp only[CW.row,CW.elemIs,g1]
  rw[if_pos (by simp[o2];omega)]
 ·have hr:RpL (upd F b cs.length) σ cs c:=g2.ext h2
  have:=Rp.lst (F:=upd F b cs.length) (σ:=σ) (E:=E) (es:=cs.map fun a=>[a]) (t:=.no) (b:=b) (off:=0) (cap:=cs.length) (sz:=1) g1 (by simpa using hne) (by omega) (fun e he=>by obtain⟨x,_,rfl⟩:=List.mem_map.1 he;rfl)
   (by rw[List.length_map,upd_same];omega) (by rw[List.length_map,hlen];omega) (by rw[List.length_map];exact Nat.le_refl _) (by rw[List.length_map];exact hB) (.inl rfl) (fun i y z hy hz=>by
    rw[single_flat] at hy
    rw[Nat.zero_add] at hz
    exact hr.2 i y z hy hz)
  rw[List.length_map] at this
  exact this
end Go.Cn
namespace Go.Proofs.YtkohipalihjbbaaGreatDoor.p
open Go.Proofs Go Go.Cn code
set_option linter.unusedSimpArgs false
set_option linter.unusedVariables false
def txtB:List UInt8:=[100,97,116,97,32,66,111,111,108,32,61,32,70,97,108,115,101,32,124,32,84,114,117,101,59,32,100,97,116,97,32,76,105,115,116,32,97,32,61,32,78,105,108,32,124,32,67,111,110,115,32,97,32,40,76,105,115,116,32,97,41,59,32,100,97,116,97,32,80,97,105,114,32,97,32,98,32,61,32,80,97,105,114,32,97,32,98]
def basics:List Dt:=(parseV txtB).1.datas
set_option maxRecDepth 100000 in
theorem basics_ok:Pure T 6 [] (.lst 69 (dtsR basics) .no):=by
 intro K h
 refine ACall.ret t6 fun hK=>?_
 simp only[u_C c6.eq_1,rn,pevA,seval]
 refine WO.bslW (cs:=txtB.map fun c=>.int .u8 c.toNat) ?_ fun b hb hk=>?_
 ·rfl
 simp only[rn,pevA,seval]
 refine WO.strish (n:=87) rfl (AH.set_same _ _ _) hk rfl (by decide) (by decide) ?_
 have hr:((txtB.map fun c=>AV.int .u8 c.toNat).map fun a=>[a])=byR txtB:=by rw[byR,List.map_map];rfl
 rw[hr,s_delset,s_del hb]
 have hp:=Program_ok txtB (by decide)
 simp only[pgR] at hp
 simp only[rn,pevA,seval]
 refine hp.use ?_
 simp only[rn,pevA,seval]
 intro b1 hb1 hk1
 simp only[rn,pevA,seval,kN,kG,hk1]
 intro b2 hb2 hk2
 obtain⟨n2,hb2⟩:=AH.set_none.1 hb2
 have o2:∀X Y:AO,(((h.set b1 X).set b2 Y).del b1).objs b2=some Y:=fun X Y=>by rw[AH.del_objs,if_neg n2,AH.set_same]
 simp only[rn,pevA,seval,kN,kG,n2,n2.symm,hk1,hk2,o2]
 exact⟨.refl _,le_del (le_del (le_set (le_set (AH.le_refl _) hb1) hb2) hb1) hb2⟩
def bas0:List Dt:=[⟨[66,111,111,108],[],[([70,97,108,115,101],[]),([84,114,117,101],[])],[],0⟩,⟨[76,105,115,116],[[97]],[([78,105,108],[]),([67,111,110,115],[.mk 1 [97] [],.mk 2 [76,105,115,116] [.mk 1 [97] []]])],[],26⟩,⟨[80,97,105,114],[[97],[98]],[([80,97,105,114],[.mk 1 [97] [],.mk 1 [98] []])],[],63⟩]
theorem basics_eq:basics=bas0:=by show (parseV txtB).1.datas=bas0;kernel_rfl
theorem ty_v (n:Nm):TyB (.mk 1 n []):=⟨by simp,by simp⟩
theorem dsb:DsB bas0:=⟨by decide,by decide,by decide,by decide,by decide⟩
theorem dsok:DsOk bas0 where
 len:=by decide
 b:=fun d hd=>by
  simp only[bas0,List.mem_cons,List.not_mem_nil,or_false] at hd
  rcases hd with rfl|rfl|rfl
  ·exact⟨by decide,by decide,by decide,fun c hc=>by simp only[List.mem_cons,List.not_mem_nil,or_false] at hc;rcases hc with rfl|rfl<;>exact⟨by decide,by simp⟩⟩
  ·refine⟨by decide,by decide,by decide,fun c hc=>?_⟩
   simp only[List.mem_cons,List.not_mem_nil,or_false] at hc
   rcases hc with rfl|rfl
   ·exact⟨by decide,by simp⟩
   ·exact⟨by decide,fun t ht=>by
     simp only[List.mem_cons,List.not_mem_nil,or_false] at ht
     rcases ht with rfl|rfl
     ·exact ty_v _
     ·exact⟨by decide,fun a ha=>by simp at ha;subst ha;exact ty_v _⟩⟩
  ·refine⟨by decide,by decide,by decide,fun c hc=>?_⟩
   simp only[List.mem_cons,List.not_mem_nil,or_false] at hc
   subst hc
   exact⟨by decide,fun t ht=>by
    simp only[List.mem_cons,List.not_mem_nil,or_false] at ht
    rcases ht with rfl|rfl<;>exact ty_v _⟩
 name:=fun i d h=>by
  match i,h with
  |0,h=>cases h;decide
  |1,h=>cases h;decide
  |2,h=>cases h;decide
  |i+3,h=>simp[bas0] at h
 con:=fun i d h=>by
  match i,h with
  |0,h=>cases h;decide
  |1,h=>cases h;decide
  |2,h=>cases h;decide
  |i+3,h=>simp[bas0] at h
 p:=fun d hd=>by
  simp only[bas0,List.mem_cons,List.not_mem_nil,or_false] at hd
  rcases hd with rfl|rfl|rfl
  ·intro c hc t ht
   simp only[List.mem_cons,List.not_mem_nil,or_false] at hc
   rcases hc with rfl|rfl<;>simp at ht
  ·intro c hc t ht
   simp only[List.mem_cons,List.not_mem_nil,or_false] at hc
   rcases hc with rfl|rfl
   ·simp at ht
   ·simp only[List.mem_cons,List.not_mem_nil,or_false] at ht
    rcases ht with rfl|rfl
    ·exact⟨⟨by decide,by decide⟩,by simp⟩
    ·exact⟨⟨by decide,by decide⟩,fun a ha=>by simp at ha;subst ha;exact⟨⟨by decide,by decide⟩,by simp⟩⟩
  ·intro c hc t ht
   simp only[List.mem_cons,List.not_mem_nil,or_false] at hc
   subst hc
   simp only[List.mem_cons,List.not_mem_nil,or_false] at ht
   rcases ht with rfl|rfl<;>exact⟨⟨by decide,by decide⟩,by simp⟩
theorem ifirst_ok:Pure T 4 [] (.bool true):=by
 intro K h
 refine ACall.ret t4 fun hK=>?_
 have kt:keyV [67] [84]=[67,58,84]:=rfl
 simp only[u_C c4.eq_1,rn,pevA,seval]
 intro b1 hb1 hk1
 have hf:ACall T K (.func 15) [.ptr b1 0,.str [67],.str [84]] (h.set b1 (.cells [.lst 0 [] .nil,.nilm] 38)) fun v h'=>v=.tuple [.agg [.str [],.str [],.lst 0 [] .nil,.lst 0 [] .nil,.lst 0 [] .nil,.int .i64 0],.bool false]/\h'=h.set b1 (.cells [.lst 0 [] .nil,.nilm] 38):=by
  have ho:(h.set b1 (.cells [.lst 0 [] .nil,.nilm] 38)).objs b1=some (.cells [.lst 0 [] .nil,.nilm] 38):=AH.set_same _ _ _
  generalize h.set b1 (.cells [.lst 0 [] .nil,.nilm] 38)=h at ho ⊢
  refine ACall.ret t15 fun hK=>?_
  simp only[u_C c15.eq_1,e_dregion d15_0,u_L s15_0.eq_1,u_T g15_0.eq_1,rn,pevA,seval]
  intro b6 hb6 hk6
  have ho6:=set_keep (o:=.cells [.str [],.str [],.lst 0 [] .nil,.lst 0 [] .nil,.lst 0 [] .nil,.int .i64 0] 51) hb6 _ _ ho
  simp only[e_dregion d15_0,u_L s15_0.eq_1,u_T g15_0.eq_1,rn,pevA,seval,ho6]
  refine (key_ok _ _ (by decide) (by decide)).use ?_
  simp only[e_dregion d15_0,u_L s15_0.eq_1,u_T g15_0.eq_1,rn,pevA,seval,ho6,hk6,kN,kG]
  exact⟨.refl _,le_del (AH.le_refl _) hb6⟩
 simp only[rn,pevA,seval]
 refine hf.mono ?_
 rintro _ _ ⟨rfl,rfl⟩
 simp only[rn,pevA,seval]
 refine (key_ok _ _ (by decide) (by decide)).use ?_
 have d0:decide ([67,58,84]=([67,58,84]:List UInt8))=true:=by decide
 simp only[rn,pevA,seval,kt]
 exact⟨.refl _,le_set (AH.le_refl _) hb1⟩
end Go.Proofs.YtkohipalihjbbaaGreatDoor.p
namespace Go.Proofs.YtkohipalihjbbaaGreatDoor.p
open Go.Proofs Go Go.Cn code
set_option linter.unusedSimpArgs false
set_option linter.unusedVariables false
theorem ent_del {h:AH}{bb:Nat}{cs:List AV}{E:TypeId}(hb:h.objs bb=some (.cells cs E)){mv:AV}{es:List (AV×AV)}(hm:entA h mv=some es):entA (h.del bb) mv=some es:=by
 cases mv with
 |map m=>
  rw[en_m] at hm ⊢
  rw[AH.del_objs,if_neg (by rintro rfl;rw[hb] at hm;cases hm)]
  exact hm
 |nilm=>exact hm
 |fmap es=>exact hm
 |_=>cases hm
theorem CnR.del {h:AH}{b bb:Nat}{ds:List Dt}(he:CnR h b ds)(hn:b≠bb){cs:List AV}{E:TypeId}(hb:h.objs bb=some (.cells cs E)):CnR (h.del bb) b ds:=
 let ⟨E,tag,mv,m2v,h1,h2,h3⟩:=he.r
 ⟨E,tag,mv,m2v,by rw[AH.del_objs,if_neg hn];exact h1,ent_del hb h2,ent_del hb h3⟩
theorem KnR.del {h:AH}{b bb:Nat}{ks:List Cs}(he:KnR h b ks)(hn:b≠bb){cs:List AV}{E:TypeId}(hb:h.objs bb=some (.cells cs E)):KnR (h.del bb) b ks:=
 let ⟨E,tag,mv,m2v,h1,h2⟩:=he.r
 ⟨E,tag,mv,m2v,by rw[AH.del_objs,if_neg hn];exact h1,ent_del hb h2⟩
theorem GA.del {h:AH}{ga:Nat->Nat}{Eg:Nat->TypeId}(hg:GA h ga Eg){bb:Nat}{cs:List AV}{E:TypeId}(hb:h.objs bb=some (.cells cs E)):GA (h.del bb) ga Eg:=
 ⟨fun g hl=>by rw[AH.del_objs,if_neg (by rintro rfl;have:=hg.g _ hl;rw[hb] at this;cases this)];exact hg.g g hl,
  fun g hl=>by obtain⟨c,E',e⟩:=hg.s g hl;exact⟨c,E',by rw[AH.del_objs,if_neg (by rintro rfl;rw[hb] at e;cases e)];exact e⟩,hg.inj⟩
theorem dk {h h':AH}{b n:Nat}{o:AO}(hl:(h.del b).le h')(hn:n≠b)(ho:h.objs n=some o):h'.objs n=some o:=hl.1 n o (by rw[AH.del_objs,if_neg hn];exact ho)
theorem dn {h:AH}{b n:Nat}{o:AO}(hn:n≠b)(ho:h.objs n=some o):(h.del b).objs n=some o:=by rw[AH.del_objs,if_neg hn];exact ho
theorem imain_ok (E:TypeId)(l:List Int)(hl:l.length<=6)(cut:Int){h:AH}{ga:Nat->Nat}{Eg:Nat->TypeId}(hg:GA h ga Eg)(K:Nat->Prop):ACall T K (.func 3) [.lst E (itC l) .no,.int .i64 cut] h fun v h'=>v=.bool true/\h'=h:=by
 refine ACall.ret t3 fun hK=>?_
 have hln:¬(6:Int)<(l.length:Int):=by omega
 simp only[u_C c3.eq_1,rn,pevA,seval]
 intro b4 hb4 hk4
 simp only[rn,pevA,seval]
 refine ifirst_ok.use ?_
 simp only[rn,pevA,seval,itC_len,hln]
 intro bc hbc hkc
 simp only[rn,pevA,seval]
 intro bk hbk hkk
 simp only[rn,pevA,seval]
 intro ba hba hka
 simp only[rn,pevA,seval]
 intro bb hbb hkb
 simp only[rn,pevA,seval]
 refine basics_ok.use ?_
 rw[basics_eq]
 simp only[rn,pevA,seval]
 obtain⟨nc4,hbc'⟩:=AH.set_none.1 hbc
 obtain⟨nkc,hbk'⟩:=AH.set_none.1 hbk
 obtain⟨nk4,hbk'⟩:=AH.set_none.1 hbk'
 obtain⟨nak,hba'⟩:=AH.set_none.1 hba
 obtain⟨nac,hba'⟩:=AH.set_none.1 hba'
 obtain⟨na4,hba'⟩:=AH.set_none.1 hba'
 obtain⟨nba,hbb'⟩:=AH.set_none.1 hbb
 obtain⟨nbk,hbb'⟩:=AH.set_none.1 hbb'
 obtain⟨nbc,hbb'⟩:=AH.set_none.1 hbb'
 obtain⟨nb4,hbb'⟩:=AH.set_none.1 hbb'
 have l1:h.le (((((h.set b4 (.cells [.bool false] 4)).set bc (.cells [.lst 0 [] .nil,.nilm,.nilm] 29)).set bk (.cells [.lst 0 [] .nil,.nilm,.nilm] 34)).set ba (.cells [.lst 0 [] .nil,.nilm] 38)).set bb (.cells [.lst 0 [] .nil,.nilm] 38)):=le_set (le_set (le_set (le_set (le_set (AH.le_refl _) hb4) hbc') hbk') hba') hbb'
 have o4:(((((h.set b4 (.cells [.bool false] 4)).set bc (.cells [.lst 0 [] .nil,.nilm,.nilm] 29)).set bk (.cells [.lst 0 [] .nil,.nilm,.nilm] 34)).set ba (.cells [.lst 0 [] .nil,.nilm] 38)).set bb (.cells [.lst 0 [] .nil,.nilm] 38)).objs b4=some (.cells [.bool false] 4):=by
  rw[AH.set_ne _ _ nb4.symm,AH.set_ne _ _ na4.symm,AH.set_ne _ _ nk4.symm,AH.set_ne _ _ nc4.symm,AH.set_same]
 have oc:(((((h.set b4 (.cells [.bool false] 4)).set bc (.cells [.lst 0 [] .nil,.nilm,.nilm] 29)).set bk (.cells [.lst 0 [] .nil,.nilm,.nilm] 34)).set ba (.cells [.lst 0 [] .nil,.nilm] 38)).set bb (.cells [.lst 0 [] .nil,.nilm] 38)).objs bc=some (.cells [.lst 0 [] .nil,.nilm,.nilm] 29):=by
  rw[AH.set_ne _ _ nbc.symm,AH.set_ne _ _ nac.symm,AH.set_ne _ _ nkc.symm,AH.set_same]
 have ok:(((((h.set b4 (.cells [.bool false] 4)).set bc (.cells [.lst 0 [] .nil,.nilm,.nilm] 29)).set bk (.cells [.lst 0 [] .nil,.nilm,.nilm] 34)).set ba (.cells [.lst 0 [] .nil,.nilm] 38)).set bb (.cells [.lst 0 [] .nil,.nilm] 38)).objs bk=some (.cells [.lst 0 [] .nil,.nilm,.nilm] 34):=by
  rw[AH.set_ne _ _ nbk.symm,AH.set_ne _ _ nak.symm,AH.set_same]
 have oa:(((((h.set b4 (.cells [.bool false] 4)).set bc (.cells [.lst 0 [] .nil,.nilm,.nilm] 29)).set bk (.cells [.lst 0 [] .nil,.nilm,.nilm] 34)).set ba (.cells [.lst 0 [] .nil,.nilm] 38)).set bb (.cells [.lst 0 [] .nil,.nilm] 38)).objs ba=some (.cells [.lst 0 [] .nil,.nilm] 38):=by
  rw[AH.set_ne _ _ nba.symm,AH.set_same]
 have ob:(((((h.set b4 (.cells [.bool false] 4)).set bc (.cells [.lst 0 [] .nil,.nilm,.nilm] 29)).set bk (.cells [.lst 0 [] .nil,.nilm,.nilm] 34)).set ba (.cells [.lst 0 [] .nil,.nilm] 38)).set bb (.cells [.lst 0 [] .nil,.nilm] 38)).objs bb=some (.cells [.lst 0 [] .nil,.nilm] 38):=AH.set_same _ _ _
 generalize (((((h.set b4 (.cells [.bool false] 4)).set bc (.cells [.lst 0 [] .nil,.nilm,.nilm] 29)).set bk (.cells [.lst 0 [] .nil,.nilm,.nilm] 34)).set ba (.cells [.lst 0 [] .nil,.nilm] 38)).set bb (.cells [.lst 0 [] .nil,.nilm] 38))=H1 at l1 o4 oc ok oa ob ⊢
 refine (cadd_ok oc K hkc bas0 dsok).mono ?_
 rintro _ H2 ⟨rfl,hc2,hle2⟩
 have g4:=dk hle2 nc4.symm o4
 have gk:=dk hle2 nkc ok
 have ga':=dk hle2 nac oa
 have gb:=dk hle2 nbc ob
 have l2:=le_but hbc' l1 hle2
 simp only[rn,pevA,seval]
 refine ACall.weakL (args':=[.ptr bk 0,.ptr bc 0,.lst 48 (cssR csCD) .no]) (ACall.kn ((kadd0_ok gk K hkk (.ptr bc 0) [([67],[97]),([68],[97])] (by decide) (by decide)).mono ?_)) ⟨.refl _,.refl _,.lstL ⟨⟨.refl _,.refl _,.nil _ _ _,.nil _ _ _,.nil _ _ _,.refl _,trivial⟩,⟨.refl _,.refl _,.nil _ _ _,.nil _ _ _,.nil _ _ _,.refl _,trivial⟩,trivial⟩,trivial⟩
 rintro _ H3 ⟨rfl,hk3,hle3⟩ hK3
 have hc3:CnR H3 bc bas0:=(hc2.del nkc.symm gk).keep hle3.1
 have g4:=dk hle3 nk4.symm g4
 have ga':=dk hle3 nak ga'
 have gb:=dk hle3 nbk gb
 have l3:=le_but hbk' l2 hle3
 have hk3:KnR H3 bk csCD:=hk3
 simp only[rn,pevA,seval]
 intro b12 hb12 hk12
 have m4:b4≠b12:=by rintro rfl;rw[g4] at hb12;cases hb12
 have ma:ba≠b12:=by rintro rfl;rw[ga'] at hb12;cases hb12
 have mb:bb≠b12:=by rintro rfl;rw[gb] at hb12;cases hb12
 have h12:=le_none l3 hb12
 simp only[rn,pevA,seval]
 refine rows_loop bas0 dsb E l _ b12 K hk12 (hK3.set _ _) (AH.set_same _ _ _) _ ?_ ?_ ?_ ?_ ?_ ?_ ?_ hl _ fun fr' h' E3 rows' tag3 tk3 xs hxl hx hF hK' hB f14=>?_
 ·rfl
 ·rfl
 ·rfl
 ·rfl
 ·rfl
 ·rfl
 ·rfl
 have hG:((H3.set b12 (.cells [.lst 0 [] .nil] 36)).del b12)=H3:=by rw[s_delset,s_del hb12]
 have hle:=hB.le
 rw[hG] at hle
 have o12:=hB.o
 rw[hB.w] at o12
 have k4:=hle.1 _ _ g4
 have ka:=hle.1 _ _ ga'
 have kb:=hle.1 _ _ gb
 have hgx:GA h' ga Eg:=hg.mono (AH.le_trans l3 hle).1
 have kb':=dn (h:=h') nba kb
 simp only[rn,pevA,seval]
 refine tl2_ok bas0 h' ba bb bc bk b4 b12 E3 tag3 xs (by omega) hx cut nba.symm na4.symm nb4.symm m4.symm ga Eg ka kb (((hk3.keep hle.1).del nak.symm ka).del nbk.symm kb') (((hc3.keep hle.1).del nac.symm ka).del nbc.symm kb') (dn mb.symm (dn ma.symm o12)) (fun h=>hB.hE (by rw[hB.w];exact h)) ((hgx.del ka).del kb') k4 K hK' hka hkb hk4 fr' ?_ ?_ ?_ ?_ ?_ ?_ ?_ ?_ f14 _ fun fr2 h2 e4 q4 hle4 hK4=>?_
 ·exact hF.f3
 ·exact hF.f4
 ·exact hF.f5
 ·exact hF.f6
 ·exact hF.f7
 ·exact hF.f8
 ·exact hF.f9
 ·exact hF.f12
 simp only[rn,pevA,seval,e4,q4]
 have hf:=le_but hb4 (le_del (le_del (AH.le_trans l3 hle) hba') hbb') hle4
 exact⟨.refl _,hf⟩
theorem imain_long (b o n c:Nat)(hn:6<n)(cut:Int)(K:Nat->Prop)(h:AH):ACall T K (.func 3) [.slice b o n c,.int .i64 cut] h fun v h'=>v=.bool true/\h'=h:=by
 refine ACall.ret t3 fun hK=>?_
 have hl:(6:Int)<(n:Int):=by omega
 simp only[u_C c3.eq_1,rn,pevA,seval]
 intro b4 hb4 hk4
 simp only[rn,pevA,seval]
 refine ifirst_ok.use ?_
 simp only[rn,pevA,seval,hl,kN,kG,hk4]
 exact⟨.refl _,le_set (AH.le_refl _) hb4⟩
end Go.Proofs.YtkohipalihjbbaaGreatDoor.p
namespace Go.Proofs.YtkohipalihjbbaaGreatDoor.instsRows
open Go.ChangeShapes Go.WideShapes Go.ChangeAt Go.RowKit Go.Cn Go.Cn.Dr
set_option linter.unusedVariables false
set_option linter.unusedSimpArgs false
def gsN : List SenN := [("paideia/api.ErrLex", 4, [110, 111, 116, 32, 97, 32, 119, 111, 114, 100]), ("paideia/api.ErrParse", 5, [110, 111, 116, 32, 97, 32, 112, 114, 111, 103, 114, 97, 109]), ("paideia/api.ErrScope", 1, [97, 32, 110, 97, 109, 101, 32, 116, 104, 97, 116, 32, 105, 115, 32, 110, 111, 98, 111, 100, 121, 39, 115]), ("paideia/api.ErrTwice", 0, [97, 32, 110, 97, 109, 101, 32, 116, 119, 105, 99, 101]), ("paideia/api.ErrClass", 2, [110, 111, 116, 32, 97, 32, 99, 108, 97, 115, 115, 44, 32, 111, 114, 32, 110, 111, 116, 32, 97, 110, 32, 105, 110, 115, 116, 97, 110, 99, 101]), ("paideia/api.ErrType", 6, [116, 121, 112, 101, 115, 32, 116, 104, 97, 116, 32, 97, 114, 101, 32, 110, 111, 116, 32, 111, 110, 101]), ("paideia/api.ErrOccur", 7, [97, 32, 116, 121, 112, 101, 32, 119, 105, 116, 104, 105, 110, 32, 105, 116, 115, 101, 108, 102]), ("paideia/api.ErrKind", 3, [97, 32, 116, 121, 112, 101, 32, 119, 105, 116, 104, 32, 111, 116, 104, 101, 114, 32, 97, 114, 103, 117, 109, 101, 110, 116, 115]), ("paideia/api.ErrAmbig", 8, [97, 32, 116, 121, 112, 101, 32, 116, 104, 97, 116, 32, 105, 115, 32, 110, 111, 116, 32, 116, 111, 108, 100]), ("paideia/api.ErrNone", 9, [110, 111, 32, 105, 110, 115, 116, 97, 110, 99, 101]), ("paideia/api.ErrLimit", 10, [109, 111, 114, 101, 32, 116, 104, 97, 110, 32, 109, 97, 121, 32, 98, 101]), ("paideia/api.ErrFuel", 11, [116, 104, 101, 32, 102, 117, 101, 108, 32, 105, 115, 32, 117, 115, 101, 100, 32, 117, 112]), ("paideia/api.ErrHeap", 12, [116, 104, 101, 32, 104, 101, 97, 112, 32, 105, 115, 32, 102, 117, 108, 108]), ("paideia/api.ErrBlack", 13, [97, 32, 118, 97, 108, 117, 101, 32, 116, 104, 97, 116, 32, 110, 101, 101, 100, 115, 32, 105, 116, 115, 101, 108, 102]), ("paideia/api.ErrMatch", 14, [110, 111, 32, 97, 108, 116, 101, 114, 110, 97, 116, 105, 118, 101, 32, 102, 105, 116, 115])]
def gs:List Sen:=[(4,[110,111,116,32,97,32,119,111,114,100]),(5,[110,111,116,32,97,32,112,114,111,103,114,97,109]),(1,[97,32,110,97,109,101,32,116,104,97,116,32,105,115,32,110,111,98,111,100,121,39,115]),(0,[97,32,110,97,109,101,32,116,119,105,99,101]),(2,[110,111,116,32,97,32,99,108,97,115,115,44,32,111,114,32,110,111,116,32,97,110,32,105,110,115,116,97,110,99,101]),(6,[116,121,112,101,115,32,116,104,97,116,32,97,114,101,32,110,111,116,32,111,110,101]),(7,[97,32,116,121,112,101,32,119,105,116,104,105,110,32,105,116,115,101,108,102]),(3,[97,32,116,121,112,101,32,119,105,116,104,32,111,116,104,101,114,32,97,114,103,117,109,101,110,116,115]),(8,[97,32,116,121,112,101,32,116,104,97,116,32,105,115,32,110,111,116,32,116,111,108,100]),(9,[110,111,32,105,110,115,116,97,110,99,101]),(10,[109,111,114,101,32,116,104,97,110,32,109,97,121,32,98,101]),(11,[116,104,101,32,102,117,101,108,32,105,115,32,117,115,101,100,32,117,112]),(12,[116,104,101,32,104,101,97,112,32,105,115,32,102,117,108,108]),(13,[97,32,118,97,108,117,101,32,116,104,97,116,32,110,101,101,100,115,32,105,116,115,101,108,102]),(14,[110,111,32,97,108,116,101,114,110,97,116,105,118,101,32,102,105,116,115])]
def ga (g:Nat):Nat:=match senAt g gs 0 with|some i=>15+i|none=>0
theorem known (E:Nat->TypeId):p.GA (gA 15 212 gs E) ga E where
 g:=fun g hg=>by
  have h:g=0\/g=1\/g=2\/g=3\/g=4\/g=5\/g=6\/g=7\/g=8\/g=9\/g=10\/g=11\/g=12\/g=13\/g=14:=by omega
  rcases h with rfl|rfl|rfl|rfl|rfl|rfl|rfl|rfl|rfl|rfl|rfl|rfl|rfl|rfl|rfl<;>rfl
 s:=fun g hg=>by
  have h:g=0\/g=1\/g=2\/g=3\/g=4\/g=5\/g=6\/g=7\/g=8\/g=9\/g=10\/g=11\/g=12\/g=13\/g=14:=by omega
  rcases h with rfl|rfl|rfl|rfl|rfl|rfl|rfl|rfl|rfl|rfl|rfl|rfl|rfl|rfl|rfl<;>exact⟨_,_,rfl⟩
 inj:=by
  have h:∀g,g<15->∀g',g'<15->ga g=ga g'->g=g':=by decide
  exact fun g g' h1 h2 h3=>h g h1 g' h2 h3
theorem ok1:ProgOk Tryz.prog:=progOk_of (by kernel_rfl) (by kernel_rfl)
theorem own:ownKnob Tryz.prog.godebug=none:=by kernel_rfl
theorem gsize:Tryz.prog.globals.size=15:=by kernel_rfl
theorem und40:∃ms,Tryz.prog.underlying 40=some (.interface ms):=⟨_,Tryz.underlying40⟩
theorem star : "*" ++ "errors.errorString" = "*errors.errorString" := by decide
theorem rowTp (u : TypeId) (h : Tryz.prog.typeName? 3 u = some "*errors.errorString") : u = 212 :=
 typeName_ptr_named (nm := "errors.errorString") (by rw [star]; kernel_rfl) (by kernel_rfl) (by decide) u (by rw [star]; exact h)
theorem noByte:noU8 Tryz.prog 229=true:=by kernel_rfl
theorem named:okN Tryz.prog 40 gsN=true:=by kernel_rfl
theorem typed:okS Tryz.prog gsN=true:=by kernel_rfl
theorem apart:okD' gsN=true:=by kernel_rfl
theorem cellsTe:Tryz.prog.cellsOf 229=1:=by kernel_rfl
theorem cellsTs:Tryz.prog.cellsOf 9=1:=by kernel_rfl
theorem cellsTi:Tryz.prog.cellsOf 3=1:=by kernel_rfl
theorem door (W:World)(hopen:W.ShapedOpen Tryz.prog)(hL:laidMet Tryz.prog Rows.instsRowsRow.laid W):∃E A N,DoorW Tryz.prog W 15 212 gs E A N:=by
 obtain⟨ms,hms⟩:=und40
 exact doorW_of (l := gsN) (nm := "*errors.errorString") gsize hms rowTp Tryz.underlying212 Tryz.underlying229 rfl rfl Tryz.underlying9 cellsTe cellsTs noByte named typed apart hopen hL
set_option maxRecDepth 100000 in
theorem contract (H:Type)(enc:TypeId×Value->H)(W:World)(base:Nat)(args:Array Value)(ds gs':List (DataW H))(before:List MemPlace)(hopen:W.ShapedOpen Tryz.prog)(hL:laidMet Tryz.prog Rows.instsRowsRow.laid W)
  (hval:∀(j:Nat) t v,Tryz.f3.params[j]?=some t->args[j]?=some v->Value.okWide Tryz.prog W .any base t v)
  (hW:DataW.Whole enc Tryz.prog Tryz.f3.params.toList Rows.instsRowsSpec.vars false W args.toList ds gs' before) :
  Calls Tryz.prog 3 args W fun e W'=>∃v,e=.returned v/\Rows.instsRowsSpec.post enc Tryz.prog Tryz.f3 false true false false W args v W':=by
 obtain⟨Ed,Ad,Nd,hdoor⟩:=door W hopen hL
 have hW':=hW
 obtain⟨p',q,hA0,hV,rfl,hfz,hnd⟩:=hW
 have hA:DataW.TrodAll enc Tryz.prog W 0 (fun _=>true) true Tryz.f3.params.toList args.toList ds p':=hA0
 rw[Tryz.params3] at hA hval
 obtain⟨v0,vs0,d0,ds0,p0,q0,hargs,rfl,rfl,h0,r0⟩:=trodAll_cons hA
 obtain⟨v1,vs1,d1,ds1,p1,q1,rfl,rfl,rfl,h1,r1⟩:=trodAll_cons r0
 obtain⟨rfl,rfl,rfl⟩:=trodAll_nil r1
 obtain rfl:args= #[v0,v1]:=by cases args;simp_all
 obtain⟨rfl,rfl⟩:=trodVars_none hV
 obtain⟨cut,rfl,rfl,rfl,w1⟩:=open_int Tryz.underlying3 (hval 1 3 v1 rfl rfl) h1
 obtain⟨a0,len,cap,rfl⟩:=okWide_slice Tryz.underlying22 (hval 0 22 v0 rfl rfl)
 obtain⟨fuel,hf⟩:=h0
 clear hA0
 simp only[List.append_nil] at hW'
 rcases open_ints Tryz.underlying22 Tryz.underlying3 cellsTi hf with⟨hcs,hx⟩|⟨a,len',cap',zs,hcs,_,hl,hm,hz,hx,hcell,hwz⟩
 ·simp[Value.cells] at hcs
  obtain⟨rfl,rfl,rfl⟩:=hcs
  simp only[Prod.mk.injEq] at hx
  obtain⟨rfl,rfl⟩:=hx
  refine (runG_nil hdoor ok1 (tab_ok Tryz.prog) (x:=.int .i64 cut) (xv:=.int .i64 cut) (fun F σ=>.int _ _) (fun β=>.int _ _) ((p.imain_ok 0 [] (by decide) cut (known Ed) _).mono fun v h' hv=>hv.1)).mono fun e W' ⟨he,hg⟩=>?_
  subst he
  exact⟨_,rfl,post_of_kept (pa:=[]) (pv:=[]) hW' (fun _ _ _=>(trodAll_cons_mk (shut_bool Tryz.underlying4 _) trodAll_mk0)) (fun sp _=>(trodAll_cons_mk (shut_slice_nil Tryz.underlying22) (trodAll_cons_mk (shut_int Tryz.underlying3 w1) trodAll_mk0))) (fun _ _=>rfl) (by simp)
   hg (ok_one (by kernel_rfl) rfl (okWide_bool_mk Tryz.underlying4 _))⟩
 ·simp[Value.cells] at hcs
  obtain⟨rfl,rfl,rfl⟩:=hcs
  simp only[Prod.mk.injEq] at hx
  obtain⟨rfl,rfl⟩:=hx
  simp only[if_true] at hz
  refine (runG_ints hdoor ok1 (tab_ok Tryz.prog) (k:=.i64) (M:=6) (by decide) (x:=.int .i64 cut) (xv:=.int .i64 cut) (fun F σ=>.int _ _) (fun β=>.int _ _) (fun E' zs hz=>(p.imain_ok E' zs hz cut (known Ed) _).mono fun v h' hv=>hv.1) (fun b o n c h=>(p.imain_long b o n c h cut _ _).mono fun v h' hv=>hv.1) hl hz hcell).mono fun e W' ⟨he,hg⟩=>?_
  subst he
  refine⟨_,rfl,post_of_kept (pa:=MemPlace.row a zs.length) (pv:=[]) hW' (fun _ _ _=>(trodAll_cons_mk (shut_bool Tryz.underlying4 _) trodAll_mk0)) (fun sp hsp=>?_) (fun _ _=>rfl) (by simp)
   hg (ok_one (by kernel_rfl) rfl (okWide_bool_mk Tryz.underlying4 _))⟩
  have hz':zs.length=(if sp a.block then cap else len):=by
   by_cases h0:zs.length=0
   ·rw[h0] at hz;split<;>omega
   ·have hmem:MemPlace.cell a.block a.off∈MemPlace.row a zs.length:=MemPlace.mem_row.2 ⟨0,by omega,by simp⟩
    have:sp (MemPlace.cell a.block a.off).block=true:=hsp (MemPlace.cell a.block a.off) (by simpa using hmem)
    have:sp a.block=true:=this
    rw[this];simpa using hz
  have t0:=shut_ints (enc:=enc) (w:=W') (base:=0) (spare:=sp) (held:=true) 0 Tryz.underlying22 Tryz.underlying3 cellsTi (Nat.zero_le _) hl hm hz' (fun i hi=>hg.cell (hcell i hi)) hwz
  have t1:=trodAll_cons_mk (⟨2,by simpa[Value.cells] using t0⟩ : DataW.Trod enc Tryz.prog W' 0 sp true 22 (.slice (some a) len cap) _ _) (trodAll_cons_mk (shut_int Tryz.underlying3 w1) trodAll_mk0)
  simp only[List.append_nil] at t1
  exact t1
set_option maxRecDepth 100000 in
theorem lifted (os:Os)(started:os.Started)(H:Type)(enc:TypeId×Value->H) :
  ReturnsInHanded {} Tryz.checked os 3 .any (fun w args=>(Rows.instsRowsSpec.pre enc Tryz.prog Tryz.f3 Rows.instsRowsRow.domain false w args/\laidMetH Tryz.prog Rows.instsRowsRow.laid w)/\sizedMet enc Tryz.prog Tryz.f3 (OpenSpec.ofChange Rows.instsRowsSpec) false w args)
   (Rows.instsRowsSpec.post enc Tryz.prog Tryz.f3 false true false false):=by
 refine returnsInHanded_of_door (C:=Tryz.checked) (X:=fun w _=>laidMetH Tryz.prog Rows.instsRowsRow.laid w) (fun _ _ _ hh h=>h.of_heap hh) own started (by kernel_rfl) Tryz.func3
  (ChangeSpec.witness_shaped (enc:=enc) (C:=Tryz.checked) (os:=os) (X:=fun w _=>laidMetH Tryz.prog Rows.instsRowsRow.laid w) false (World.laidAll Tryz.prog os Rows.instsRowsRow.laid) #[.slice none 0 0,.int .i64 0] 8 (World.laidAll_os _ _ _)
   (World.shaped_of_ZipB (by kernel_rfl) (by kernel_rfl)) (by kernel_rfl) (by kernel_rfl) (by kernel_rfl)
   (by rw[laidH_plain (by kernel_rfl)];exact laidMet_laidAll _ (by kernel_rfl) (by kernel_rfl))) ?_
 intro W base args ds gs' before hopen hval hW hL0
 have hL:laidMet Tryz.prog Rows.instsRowsRow.laid W:=by rw[<-laidH_plain (by kernel_rfl)];exact hL0
 exact contract H enc W base args ds gs' before hopen hL hval hW
theorem row:Rows.InstsRowsSaid:=
 OpenClaim.holds_of_wide 3 Tryz.f3 rfl rfl rfl rfl rfl rfl rfl ⟨rfl,rfl,rfl,rfl,rfl⟩ rfl rfl rfl rfl rfl (by kernel_rfl) Tryz.func3 (by kernel_rfl)
  (of_decide_eq_true (by kernel_rfl)) (by unfold Func.isWrapper;first|(rw[if_pos (by decide +kernel)];kernel_rfl)|(rw[if_neg (by decide +kernel)];exact⟨rfl,rfl⟩))
  (fun os started H enc _=>lifted os started H enc)
theorem proved:Rows.InstsRowsCardSaid:=
 Claim7.holds_tied_plain_at .later [] [.sentinel, .sentinel, .sentinel, .sentinel, .sentinel, .sentinel, .sentinel, .sentinel, .sentinel, .sentinel, .sentinel, .sentinel, .sentinel, .sentinel, .sentinel] true (true, "fc92d296de37ad4f1f89962c18e22e067594cff3f890603ac08d156aaa8395ab") true
  row (fun _ h=>by cases h) (by kernel_rfl) (fun _ h=>by cases h) instsRows_row_tie rfl ⟨rfl,rfl⟩ (by kernel_rfl) rfl
  (fun f fn hf hfn=>by
   obtain rfl : f = 3 := Option.some.inj ((show Tryz.prog.funcNamed "paideia/paideialaw13.InstsRows" = some 3 by kernel_rfl).symm.trans hf) |>.symm
   obtain rfl:fn=Tryz.f3:=(Option.some.inj (Tryz.func3.symm.trans hfn)).symm
   exact⟨by kernel_rfl,fun j t ht=>by
    rw[Tryz.params3] at ht
    have h3:t=22\/t=3:=by
     rcases j with _|_|j
     ·exact .inl (by simpa using ht.symm)
     ·exact .inr (by simpa using ht.symm)
     ·simp at ht
    rcases h3 with rfl|rfl
    ·exact (show Tryz.prog.wantsStandIn 22=false by kernel_rfl)
    ·exact (show Tryz.prog.wantsStandIn 3=false by kernel_rfl)⟩)
  (by kernel_rfl)
#print axioms proved
end Go.Proofs.YtkohipalihjbbaaGreatDoor.instsRows
