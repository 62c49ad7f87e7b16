/- Alternatives: the whole, in full. -/

import Derived.Test.YtinbjdkibmkgbaaGreatDoorSbCode
namespace Go.Proofs.YtinbjdkibmkgbaaGreatDoor.p
open Go.Proofs Go Go.Cn code
set_option linter.unusedSimpArgs false
set_option linter.unusedVariables false
section
variable {ts:List Tk}{e:Int}(hts:ts.length<=1000000)
theorem le_new {m:AH}{b:Nat}{X:AO}{t:Nat->Option Tok}(hb:m.objs b=none):(m.tk t).le ((m.set b X).tk t):=le_set (h:=m.tk t) (h':=m.tk t) (AH.le_refl _) hb
include hts in
set_option maxRecDepth 2000 in
theorem alts_step {n:Nat}(hn:n<=most)(hE:∀m,m<n->ExOK ts e m):AltsOK ts e n:=by
 intro s l s' hs hr
 refine PC.intro t102 fun K h b hk hK=>?_
 simp only[u_C c102.eq_1,rn,pevA,seval]
 refine aloopD (α:=Nat×List Al×St) (fun x fr h1=>fr 0=.ptr b 0/\x.2.2.i<=ts.length/\x.1<=n/\x.2.1.length+x.1<=most/\altsS ts e x.1 x.2.1 x.2.2=some (l,s')/\
  ∃E rows tag t',fr 3=.lst E rows tag/\WkLL rows (alsR x.2.1)/\(rows≠[]->E=186)/\Toks h.toks t' [(tag,186,10,0)]/\h1=(h.set b (parO ts e x.2.2)).tk t') (fun x=>x.1) (n,[],s)
  ⟨rfl,hs,Nat.le_refl _,by simpa using hn,hr,_,[],.nil,h.toks,rfl,trivial,fun h=>absurd rfl h,.one _ _ _,rfl⟩ ?_
 clear hr hs
 rintro⟨m,acc,s0⟩ fr h1 ⟨f0,hi,hm,hB,hr,E,rows,tag,t',f3,hw,hE1,hT,rfl⟩
 simp only at hi hm hB hr hw
 have hend:∀(l:List Al)(s':St),l=acc->Wk (.lst E rows tag) (.lst 186 (alsR l) .no):=fun l s' hl=>by rw[hl];exact hw.rows hE1
 cases m with
 |zero=>rw[altsS] at hr;cases hr
 |succ m=>
  rw[altsS] at hr
  have mv:=ex_mv hts (e:=e) m (by omega)
  simp only[u_C l102_3.eq_1,rn,pevA,seval,f0,f3]
  refine (fine_ok s0).use (AH.set_same _ _ _) hk ?_
  cases c1:fineS s0 with
  |false=>
   rw[c1,if_neg (by decide)] at hr
   cases hr
   simp only[rn,pevA,seval,f0,f3]
   exact PC.fin (hw.rows hE1) (by repeat (first|exact AH.le_refl _|refine le_tk ?_ hT.le)) (hK _)
  |true=>
   rw[c1,if_pos rfl] at hr
   cases hsm:semisS ts m s0 with
   |none=>rw[hsm] at hr;cases hr
   |some s1=>
    rw[hsm] at hr
    simp only at hr
    have hi1:=(semis_mv _ _ _ hsm).1.le hi
    simp only[rn,pevA,seval,f0,f3]
    refine semi_loop hts K h b hk t' s1 _ _ (fun fr2 hf=>?_) s0 hsm (by simp only[upd,setA];repeat rw[if_neg (by decide)];exact f0)
    have g0:fr2 0=.ptr b 0:=by rw[hf 0 (by decide)];exact f0
    have g3:fr2 3=.lst E rows tag:=by rw[hf 3 (by decide)];exact f3
    simp only[rn,pevA,seval,g0,g3]
    refine (is_ok [125] s1).use (AH.set_same _ _ _) hk ?_
    cases c2:isS ts [125] s1 with
    |true=>
     rw[c2,if_pos rfl] at hr
     cases hr
     simp only[rn,pevA,seval,g0,g3]
     exact PC.fin (hw.rows hE1) (by repeat (first|exact AH.le_refl _|refine le_tk ?_ hT.le)) (hK _)
    |false=>
     rw[c2,if_neg (by decide)] at hr
     simp only[rn,pevA,seval,g0,g3]
     refine (pos_ok s1).use (AH.set_same _ _ _) hk ?_
     simp only[rn,pevA,seval,g0,g3]
     intro b2 hb2 hk2
     obtain⟨n2,hb2⟩:=AH.set_none.1 hb2
     simp only[rn,pevA,seval,g0,g3,kN,n2,n2.symm,hk2]
     refine (kind_ok 2 s1).use (by simp only[kG,kN,n2,n2.symm]<;>rfl) hk ?_
     cases hp:patS ts e m s1 with
     |none=>rw[hp] at hr;cases hr
     |some q=>
      obtain⟨c,vs,s2⟩:=q
      rw[hp] at hr
      simp only at hr
      have hi2:=(pat_mv hp).m.le hi1
      cases hx:exprS ts e m (takeS ts e [45,62] s2) with
      |none=>rw[hx] at hr;cases hr
      |some q=>
       obtain⟨x,s3⟩:=q
       rw[hx] at hr
       simp only at hr
       have hi3:=(Mv.altEnd (e:=e) s3).le ((mv.expr _ _ _ hx).m.le (takeS_i (e:=e) hi2 [45,62]))
       unfold patS at hp
       cases c3:kindS ts 2 s1 with
       |true=>
        rw[c3,if_pos rfl] at hp
        cases hu:undersS ts m [] (wordS ts e 2 s1).2 with
        |none=>rw[hu] at hp;cases hp
        |some q=>
         obtain⟨ul,s4⟩:=q
         rw[hu] at hp
         cases hp
         simp only[rn,pevA,seval,g0,g3,kN,n2,n2.symm]
         refine (word_ok hts 2 s1).use (by simp only[kG,kN,n2,n2.symm]<;>rfl) hk ?_
         simp only[rn,pevA,seval,g0,g3,kN,n2,n2.symm,hk2]
         have hwi:=wordS_i (e:=e) hi1 2
         generalize (wordS ts e 2 s1).1=nm at hr ⊢
         generalize (wordS ts e 2 s1).2=sw at hu hwi ⊢
         refine unders_loop hts K h b b2 n2 hk hk2 h.toks t' nm (posS ts e s1) vs s2 (.lst E rows tag) tag (by omega) _ (fun fr E' tag' t2 g0 g3 g4 hE' hT=>?_) sw hu _ g0 g3 rfl hT
         simp only[rn,pevA,seval,g0,g3,g4,kN,n2,n2.symm]
         refine alts_tail hts (by omega) (hE m (by omega)) K h b b2 n2 hk hk2 h.toks t2 s2 s3 nm vs (.lst E' (strC vs) tag') (posS ts e s1) x acc rows E tag hi2 hx (.lstE fun h=>hE' (strC_ne h)) rfl hw (by omega) hT _ g0 g3 g4 _ fun fr3 rows' tag'' t3 X q0 q3 hw' hT'=>?_
         simp only[rn,pevA,seval,q0,q3]
         exact⟨(m,acc++[(nm,vs,x,posS ts e s1)],altEnd ts e s3),Nat.lt_succ_self m,_,le_new (AH.set_none.2 ⟨n2,hb2⟩),fun _=>hK _,q0,hi3,by show m<=n;omega,by show (acc++[_]).length+m<=most;simp;omega,hr,_,rows',tag'',t3,q3,hw',fun _=>rfl,hT',rfl⟩
       |false=>
        rw[c3,if_neg (by decide)] at hp
        simp only[rn,pevA,seval,g0,g3,kN,n2,n2.symm]
        refine (is_ok [95] s1).use (by simp only[kG,kN,n2,n2.symm]<;>rfl) hk ?_
        cases c4:isS ts [95] s1 with
        |true=>
         rw[c4,if_pos rfl] at hp
         cases hp
         have hlt:=isS_lt c4
         simp only[rn,pevA,seval,g0,g3,kN,n2,n2.symm,parO,w1 (Nat.lt_of_lt_of_le hlt hts),hk]
         refine alts_tail hts (by omega) (hE m (by omega)) K h b b2 n2 hk hk2 h.toks t' (nextS s1) s3 [] [] (.lst 0 [] .nil) (posS ts e s1) x acc rows E tag hi2 hx (.nil _ _ _) rfl hw (by omega) hT _ (by exact g0) (by exact g3) (by rfl) _ fun fr3 rows' tag'' t3 X q0 q3 hw' hT'=>?_
         simp only[rn,pevA,seval,q0,q3]
         exact⟨(m,acc++[([],[],x,posS ts e s1)],altEnd ts e s3),Nat.lt_succ_self m,_,le_new (AH.set_none.2 ⟨n2,hb2⟩),fun _=>hK _,q0,hi3,by show m<=n;omega,by show (acc++[_]).length+m<=most;simp;omega,hr,_,rows',tag'',t3,q3,hw',fun _=>rfl,hT',rfl⟩
        |false=>
         rw[c4,if_neg (by decide)] at hp
         cases hp
         simp only[rn,pevA,seval,g0,g3,kN,n2,n2.symm]
         refine (word_ok hts 1 s1).use (by simp only[kG,kN,n2,n2.symm]<;>rfl) hk ?_
         simp only[rn,pevA,seval,g0,g3,kN,n2,n2.symm,hk2]
         refine alts_tail hts (by omega) (hE m (by omega)) K h b b2 n2 hk hk2 h.toks t' _ s3 [] [(wordS ts e 1 s1).1] (.lst 9 [[.str (wordS ts e 1 s1).1]] .no) (posS ts e s1) x acc rows E tag hi2 hx (.refl _) rfl hw (by omega) hT _ (by exact g0) (by exact g3) (by rfl) _ fun fr3 rows' tag'' t3 X q0 q3 hw' hT'=>?_
         simp only[rn,pevA,seval,q0,q3]
         exact⟨(m,acc++[([],[(wordS ts e 1 s1).1],x,posS ts e s1)],altEnd ts e s3),Nat.lt_succ_self m,_,le_new (AH.set_none.2 ⟨n2,hb2⟩),fun _=>hK _,q0,hi3,by show m<=n;omega,by show (acc++[_]).length+m<=most;simp;omega,hr,_,rows',tag'',t3,q3,hw',fun _=>rfl,hT',rfl⟩
end
end Go.Proofs.YtinbjdkibmkgbaaGreatDoor.p
namespace Go.Proofs.YtinbjdkibmkgbaaGreatDoor.p
open Go.Proofs Go Go.Cn code
set_option linter.unusedSimpArgs false
set_option linter.unusedVariables false
theorem flat_one {l:List (List AV)}(h:∀e∈l,e.all oneA=true):l.flatten.all oneA=true:=by
 rw[List.all_flatten]
 exact List.all_eq_true.2 fun e he=>h e he
theorem sgR_len (g:Sg):(sgR g).length=7:=by obtain⟨n,p,⟨v,c,⟨k,m,l⟩⟩⟩:=g;rfl
theorem sgR_one (g:Sg):(sgR g).all oneA=true:=by obtain⟨n,p,⟨v,c,⟨k,m,l⟩⟩⟩:=g;rfl
theorem biR_len (b:Bi):(biR b).length=15:=by obtain⟨n,p,⟨v,c,⟨k,m,l⟩⟩,⟨xk,xp,xn,xv,xl,xa,xb⟩,q⟩:=b;rfl
theorem biR_one (b:Bi):(biR b).all oneA=true:=by obtain⟨n,p,⟨v,c,⟨k,m,l⟩⟩,⟨xk,xp,xn,xv,xl,xa,xb⟩,q⟩:=b;rfl
theorem sgsR_each (l:List Sg):∀e∈sgsR l,e.length=7:=fun e he=>by obtain⟨g,_,rfl⟩:=List.mem_map.1 he;exact sgR_len g
theorem bisR_each (l:List Bi):∀e∈bisR l,e.length=15:=fun e he=>by rw[bisR_eq] at he;obtain⟨g,_,rfl⟩:=List.mem_map.1 he;exact biR_len g
theorem sgsR_one (l:List Sg):(sgsR l).flatten.all oneA=true:=flat_one fun e he=>by obtain⟨g,_,rfl⟩:=List.mem_map.1 he;exact sgR_one g
theorem bisR_one (l:List Bi):(bisR l).flatten.all oneA=true:=flat_one fun e he=>by rw[bisR_eq] at he;obtain⟨g,_,rfl⟩:=List.mem_map.1 he;exact biR_one g
theorem bisR_snoc (l:List Bi)(a:Bi):bisR l++[biR a]=bisR (l++[a]):=by simp only[bisR_eq,List.map_append,List.map_cons,List.map_nil]
theorem sgsR_snoc (l:List Sg)(a:Sg):sgsR l++[sgR a]=sgsR (l++[a]):=by simp only[sgsR,List.map_append,List.map_cons,List.map_nil]
theorem setT_tk {h:AH}{c:Nat}{k:Tok}:h.setT c k=h.tk (upd h.toks c (some k)):=rfl
section
variable (ts:List Tk)(e:Int)
def DefOK (n:Nat):Prop:=∀g bs s g' bs' s',s.i<=ts.length->g.length<most->bs.length<most->defS ts e n g bs s=some (g',bs',s')->
 PC ts e 60 [.lst 161 (sgsR g) .no,.lst 175 (bisR bs) .no] (.tuple [.lst 161 (sgsR g') .no,.lst 175 (bisR bs') .no]) s s'
end
section
variable {ts:List Tk}{e:Int}(hts:ts.length<=1000000)
include hts in
theorem def_loop {n:Nat}(hn:n<=most)(K:Nat->Prop)(h:AH)(b:Nat)(hk:¬K b)(t0 t1:Nat->Option Tok)(l:List Nm)(s':St)(fr0:AFr)(R:CExit->AQ)
  (hR:∀(fr:AFr)(E:TypeId)(tag:Tag)(t':Nat->Option Tok),(∀t,t<38->t≠10->fr t=fr0 t)->fr 10=.lst E (strC l) tag->(l≠[]->E=9)->(∀c k,t0 c=some k->t' c=some k)->R (.exit 0) fr ((h.set b (parO ts e s')).tk t'))
  (s:St)(hq:lowsS ts e n [] s=some (l,s'))(f0:fr0 0=.ptr b 0)(f10:fr0 10=.lst 0 [] .nil)(ht:∀c k,t0 c=some k->t1 c=some k) :
  W T K (.loop l60_0.toC) fr0 ((h.set b (parO ts e s)).tk t1) R:=by
 refine aloop (α:=Nat×List Nm×St) (fun x fr h1=>(∀t,t<38->t≠10->fr t=fr0 t)/\x.2.1.length+x.1<=most/\lowsS ts e x.1 x.2.1 x.2.2=some (l,s')/\
  ∃E tag t',fr 10=.lst E (strC x.2.1) tag/\(x.2.1≠[]->E=9)/\Toks t1 t' [(tag,9,1,0)]/\h1=(h.set b (parO ts e x.2.2)).tk t') (fun x=>x.1) (n,[],s) ⟨fun _ _ _=>rfl,by simpa using hn,hq,_,.nil,t1,f10,fun h=>absurd rfl h,.one _ _ _,rfl⟩ ?_
 clear hq f10
 rintro⟨m,acc,s2⟩ fr h1 ⟨hf,hB,hq,E,tag,t',g10,hE,hT,rfl⟩
 simp only at hB hq g10 hE
 have g0:fr 0=.ptr b 0:=by rw[hf 0 (by decide) (by decide),f0]
 cases m with
 |zero=>rw[lowsS] at hq;cases hq
 |succ m=>
  rw[lowsS] at hq
  simp only[u_C l60_0.eq_1,rn,pevA,seval,g0,g10]
  refine (kind_ok 1 s2).use (AH.set_same _ _ _) hk ?_
  cases c2:kindS ts 1 s2 with
  |true=>
   rw[c2,if_pos rfl] at hq
   simp only[rn,pevA,seval,g0,g10]
   refine (word_ok hts 1 s2).use (AH.set_same _ _ _) hk ?_
   simp only[rn,pevA,seval,g0,g10]
   refine WO.append (i:=0) hT rfl rfl rfl trivial (by decide) (by simp) rfl (.inr rfl) (fun _=>?_) ?_ fun tag2 t2 hT2=>?_
   ·simp[capOk,strC_len];unfold most at hB;omega
   ·simp[big_eq,strC_len];unfold most at hB;omega
   rw[strC_app]
   simp only[rn,pevA,seval]
   refine⟨(m,_,_),Nat.lt_succ_self m,fun t ht ht2=>?_,by show (acc++[_]).length+m<=most;simp;omega,hq,9,tag2,t2,rfl,fun _=>rfl,hT2,rfl⟩
   rw[<-hf t ht ht2]
   simp only[upd,setA]
   repeat rw[if_neg (by omega)]
  |false=>
   rw[c2,if_neg (by decide)] at hq
   cases hq
   simp only[rn,pevA,seval,g0]
   refine hR _ E tag t' (fun t ht ht2=>?_) ?_ hE (fun c k hc=>hT.le c k (ht c k hc))
   ·rw[<-hf t ht ht2]
    simp only[upd,setA]
    repeat rw[if_neg (by omega)]
   ·simp only[upd,setA]
    repeat rw[if_neg (by decide)]
    exact g10
include hts in
theorem def_step {n:Nat}(hn:n+1<=most)(hE:ExOK ts e n):DefOK ts e (n+1):=by
 intro g bs s g' bs' s' hs hg hbs hr
 rw[defS] at hr
 have hgl:=sgsR_len g
 have hbl:=bisR_len bs
 refine PC.intro t60 fun K h b hk hK=>?_
 simp only[u_C c60.eq_1,rn,pevA,seval]
 refine (named_ok hts s).use (AH.set_same _ _ _) hk ?_
 have hi1:=named_i (ts:=ts) (e:=e) hs
 generalize (namedS ts e s).2.2=s1 at hr hi1 ⊢
 generalize (namedS ts e s).1=nm at hr ⊢
 generalize (namedS ts e s).2.1=po at hr ⊢
 simp only[rn,pevA,seval]
 refine (is_ok [58,58] s1).use (AH.set_same _ _ _) hk ?_
 cases c1:isS ts [58,58] s1 with
 |true=>
  rw[c1,if_pos rfl] at hr
  have hlt:=isS_lt c1
  cases hq:schemeS ts e n (nextS s1) with
  |none=>rw[hq] at hr;cases hr
  |some q=>
   obtain⟨⟨sv,sc,⟨tk,tn,tl⟩⟩,s2⟩:=q
   rw[hq] at hr
   cases hr
   simp only[rn,pevA,seval,parO,w1 (Nat.lt_of_lt_of_le hlt hts),hk]
   refine WO.bslT0 fun c hc1 hc2=>?_
   simp only[rn,pevA,seval,setT_tk]
   refine WO.append (i:=0) (.row (t:=h.toks) 161 7 0 hc1) rfl rfl rfl trivial (by decide) (sgsR_each g) (sgsR_one g) (.inr rfl) (fun _=>?_) ?_ fun tag2 t2 hT2=>?_
   ·simp[capOk,hgl];unfold most at hg;omega
   ·simp[big_eq,hgl];unfold most at hg;omega
   simp only[rn,pevA,seval]
   refine (scheme_ok hts hn (nextS s1) s' ⟨sv,sc,⟨tk,tn,tl⟩⟩ hlt hq).1.use (AH.set_same _ _ _) hk ?_
   simp only[rn,pevA,seval,schR,tyR]
   refine WO.append (i:=0) hT2 rfl rfl rfl trivial (by decide) (by simp) rfl (.inr (by simp)) (fun _=>?_) ?_ fun tag3 t3 hT=>?_
   ·simp[capOk,hgl];unfold most at hg;omega
   ·simp[big_eq,hgl];unfold most at hg;omega
   simp only[rn,pevA,seval]
   refine PC.fin (.tupL ⟨.trans (.no _ _ _) (.lstL ?_),.refl _,trivial⟩) (by repeat (first|exact AH.le_refl _|refine le_tk ?_ hT.le)) (hK _)
   rw[<-sgsR_snoc]
   exact WkLL.snoc (.refl _) (.refl _)
 |false=>
  rw[c1,if_neg (by decide)] at hr
  cases hq:lowsS ts e n [] s1 with
  |none=>rw[hq] at hr;cases hr
  |some q=>
   obtain⟨l,s2⟩:=q
   rw[hq] at hr
   simp only at hr
   cases hp:exprS ts e n (takeS ts e [61] s2) with
   |none=>rw[hp] at hr;cases hr
   |some q=>
    obtain⟨x,s3⟩:=q
    rw[hp] at hr
    cases hr
    have hi2:=(lows_mv _ _ _ _ _ hq).le hi1
    have hll:=lows_len _ _ _ _ _ hq
    have hlam:∀E tag,Pure T 83 [.lst E (strC l) tag,.agg (exR x),.int .i64 po] (.agg (exR (lambdasS l x po))):=fun E tag=>lambdas_ok _ _ _ _ _ (by simp at hll;omega)
    generalize lambdasS l x po=z at hlam ⊢
    obtain⟨zk,zp,zn,zv,zl,za,zb⟩:=z
    obtain⟨xk,xp,xn,xv,xl,xa,xb⟩:=x
    simp only[rn,pevA,seval]
    refine def_loop hts (by omega) K h b hk h.toks h.toks l s2 _ _ (fun fr E tag t' hf g10 hE1 ht=>?_) s1 hq rfl rfl (fun _ _ h=>h)
    have g0:fr 0=.ptr b 0:=hf 0 (by decide) (by decide)
    have g1:fr 1=.lst 161 (sgsR g) .no:=hf 1 (by decide) (by decide)
    have g2:fr 2=.lst 175 (bisR bs) .no:=hf 2 (by decide) (by decide)
    have g8:fr 8=.str nm:=hf 8 (by decide) (by decide)
    have g9:fr 9=.int .i64 po:=hf 9 (by decide) (by decide)
    simp only[rn,pevA,seval,g0,g1,g2,g8,g9,g10]
    refine (take_ok hts [61] s2).use (AH.set_same _ _ _) hk ?_
    simp only[rn,pevA,seval,g0,g1,g2,g8,g9,g10]
    refine (hE _ _ _ (takeS_i (e:=e) hi2 [61]) hp).use (AH.set_same _ _ _) hk ?_
    simp only[e_dregion d60_1,u_L s60_1.eq_1,u_T g60_1.eq_1,rn,pevA,seval,g0,g1,g2,g8,g9,g10,exR]
    refine WO.bslT0 fun c hc1 hc2=>?_
    simp only[e_dregion d60_1,u_L s60_1.eq_1,u_T g60_1.eq_1,rn,pevA,seval,setT_tk,g0,g1,g2,g8,g9,g10]
    refine WO.append (i:=0) (.row (t:=t') 175 15 0 hc1) rfl rfl rfl trivial (by decide) (bisR_each bs) (bisR_one bs) (.inr rfl) (fun _=>?_) ?_ fun tag2 t2 hT2=>?_
    ·simp[capOk,hbl];unfold most at hbs;omega
    ·simp[big_eq,hbl];unfold most at hbs;omega
    simp only[e_dregion d60_1,u_L s60_1.eq_1,u_T g60_1.eq_1,rn,pevA,seval,g0,g1,g2,g8,g9,g10]
    refine (hlam E tag).use ?_
    simp only[e_dregion d60_1,u_L s60_1.eq_1,u_T g60_1.eq_1,rn,pevA,seval,g0,g1,g2,g8,g9,g10,exR]
    refine WO.append (i:=0) hT2 rfl rfl rfl trivial (by decide) (by simp) rfl (.inr (by simp)) (fun _=>?_) ?_ fun tag3 t3 hT3=>?_
    ·simp[capOk,hbl];unfold most at hbs;omega
    ·simp[big_eq,hbl];unfold most at hbs;omega
    simp only[e_dregion d60_1,u_L s60_1.eq_1,u_T g60_1.eq_1,rn,pevA,seval,g0,g1,g2,g8,g9,g10]
    refine PC.fin (.tupL ⟨.refl _,.trans (.no _ _ _) (.lstL ?_),trivial⟩) (le_tk (AH.le_refl _) fun c k hc=>hT3.le c k (ht c k hc)) (hK _)
    rw[<-bisR_snoc]
    exact WkLL.snoc (.refl _) ⟨.refl _,.refl _,.nil _ _ _,.nil _ _ _,.refl _,.refl _,.nil _ _ _,.refl _,.refl _,.refl _,.refl _,.refl _,.refl _,.refl _,.refl _,trivial⟩
end
end Go.Proofs.YtinbjdkibmkgbaaGreatDoor.p
namespace Go.Cn
set_option linter.unusedVariables false
theorem flat_get {rows:List (List AV)}{sz:Nat}:∀{i j:Nat}{r:List AV},(∀e∈rows,e.length=sz)->rows[i]?=some r->j<sz->rows.flatten[i*sz+j]?=r[j]?:=by
 induction rows with
 |nil=>intro i j r _ h;simp at h
 |cons a rows ih=>
  intro i j r hs hi hj
  have ha:=hs a (by simp)
  cases i with
  |zero=>
   simp at hi;subst hi
   rw[List.flatten_cons,List.getElem?_append_left (by omega)]
   simp
  |succ i=>
   rw[List.flatten_cons,List.getElem?_append_right (by rw[ha,Nat.succ_mul];omega),ha]
   rw[show (i+1)*sz+j-sz=i*sz+j by rw[Nat.succ_mul];omega]
   exact ih (fun e he=>hs e (by simp[he])) (by simpa using hi) hj
theorem flat_put {rows:List (List AV)}{sz:Nat}:∀{i j:Nat}{r new:List AV},(∀e∈rows,e.length=sz)->rows[i]?=some r->j+new.length<=sz->
  rows.flatten.take (i*sz+j)++new++rows.flatten.drop (i*sz+j+new.length)=(rows.set i (r.take j++new++r.drop (j+new.length))).flatten:=by
 induction rows with
 |nil=>intro i j r new _ h;simp at h
 |cons a rows ih=>
  intro i j r new hs hi hj
  have ha:=hs a (by simp)
  cases i with
  |zero=>
   simp at hi;subst hi
   rw[List.flatten_cons,List.set_cons_zero,List.flatten_cons]
   simp only[Nat.zero_mul,Nat.zero_add]
   rw[List.take_append_of_le_length (by omega),List.drop_append_of_le_length (by omega)]
   simp only[List.append_assoc]
  |succ i=>
   rw[List.flatten_cons,List.set_cons_succ,List.flatten_cons]
   rw[show (i+1)*sz+j=a.length+(i*sz+j) by rw[ha,Nat.succ_mul];omega]
   rw[List.take_append,List.take_of_length_le (by omega),Nat.add_sub_cancel_left,Nat.add_assoc,List.drop_append,List.drop_eq_nil_of_le (by omega),List.nil_append,Nat.add_sub_cancel_left]
   rw[<-ih (fun e he=>hs e (by simp[he])) (by simpa using hi) hj]
   simp only[List.append_assoc,Nat.add_assoc]
theorem WO.bslW {T:Nat->Option CFun}{K:Nat->Prop}{fr:AFr}{h:AH}{E:TypeId}{zero:List Value}{n:Nat}{parts:List (Nat×Nat×Operand)}{cs:List AV}{Q:AV->AH->Prop}
  (hf:fillA ((zerosL zero n).map ofC1) (parts.map fun (o,s,x)=>(o,s,evA fr x))=some cs)(hq:∀b,h.objs b=none->¬K b->Q (.slice b 0 n n) (h.set b (.cells cs E))):WO T K (.a (.bsl E zero n parts)) fr h Q:=by
 refine WO.newO (mk:=fun b=>.slice b 0 n n) (ob:=.cells cs E) (fun F σ ρ hA hρ=>?_) hq
 obtain⟨r,h1,h2⟩:=fillA_rp hρ hf (consts_rp (zerosL zero n))
 refine⟨.cells r E σ.next 0,.slice (some ⟨σ.next,0,none⟩) n n,by simp only[aev,h1],⟨rfl,rfl⟩,fun F' hF' hA' hx=>⟨⟨?_,hA.inv.rol,r,_,_,by rw[add_heap,if_pos rfl],h2.ext hx,members_new hA.inv⟩,.slice (Nat.le_refl _)⟩⟩
 rcases hF' σ.next with e|⟨_,e⟩
 ·rw[e];exact hA.fnext
 ·exact e
theorem Frz.sliceN {n b sz:Nat}{rows:List (List AV)}{E:TypeId}{h h0:AH}{c:AV}(ho:h.objs b=some (.cells rows.flatten E))(hs:∀e∈rows,e.length=sz)(hz:0<sz)(hn:rows.length=n)(hp:0<n)(hB:n<=big)(hw:Wk (.lst E rows .no) c)(hl:h0.le (h.del b)):Frz (.slice b 0 n n) h c h0:=by
 have hfl:rows.flatten.length=n*sz:=by rw[flatten_length hs,hn]
 have hpos:0<n*sz:=Nat.mul_pos hp hz
 have hne:rows.flatten≠[]:=fun e=>by rw[e] at hfl;simp at hfl;omega
 have hne2:rows≠[]:=fun e=>by rw[e] at hn;simp at hn;omega
 refine .cells (b:=.lst E rows .no) ho hne (fun F σ v hF ⟨x,cl,rel,hx,hr⟩ hv=>?_) (.weak hw (.drop hl (.refl _ _)))
 cases hv
 have hlen:x.length=n*sz:=by rw[<-hr.1,hfl]
 have:=Rp.lst (F:=F) (σ:=σ) (E:=E) (es:=rows) (t:=.no) (b:=b) (off:=0) (cap:=n) (sz:=sz) hx hne2 hz hs (by rw[hF,hfl,hn];omega) (by rw[hlen,hn];omega) (by rw[hn];exact Nat.le_refl _) (by rw[hn];exact hB) (.inl rfl) (fun i y z hy hz=>by
   rw[Nat.zero_add] at hz
   exact hr.2 i y z hy hz)
 rw[hn] at this
 exact this
end Go.Cn
namespace Go.Proofs.YtinbjdkibmkgbaaGreatDoor.p
open Go.Proofs Go Go.Cn code
set_option linter.unusedSimpArgs false
set_option linter.unusedVariables false
theorem findB_lt {nm:Nm}:∀{l:List Bi}{k j:Nat},findB nm k l=some j->k<=j/\j<k+l.length
 |[],k,j,h=>by rw[findB] at h;cases h
 |b::l,k,j,h=>by
  rw[findB] at h
  split at h
  ·cases h;exact⟨Nat.le_refl _,by simp⟩
  ·have:=findB_lt h
   exact⟨by omega,by simp;omega⟩
theorem signB_len (s:Sch):∀(k:Nat)(l:List Bi),(signB s k l).length=l.length
 |_,[]=>by cases ‹Nat› <;>rfl
 |0,b::l=>rfl
 |k+1,b::l=>by rw[signB,List.length_cons,List.length_cons,signB_len]
theorem signB_row (s:Sch):∀(k:Nat)(l:List Bi)(b:Bi),l[k]?=some b->bisR (signB s k l)=(bisR l).set k (biR (b.1,true,s,b.2.2.2))
 |_,[],b,h=>by simp at h
 |0,a::l,b,h=>by simp at h;subst h;rfl
 |k+1,a::l,b,h=>by
  rw[signB,bisR_eq,List.map_cons, <-bisR_eq,signB_row s k l b (by simpa using h),bisR_eq,bisR_eq];rfl
end Go.Proofs.YtinbjdkibmkgbaaGreatDoor.p
namespace Go.Proofs.YtinbjdkibmkgbaaGreatDoor.p
open Go.Proofs Go Go.Cn code
set_option linter.unusedSimpArgs false
set_option linter.unusedVariables false
theorem sgsR_get {gs:List Sg}{i:Nat}{g:Sg}(h:gs[i]?=some g):(sgsR gs)[i]?=some (sgR g):=by rw[sgsR,List.getElem?_map,h];rfl
theorem bisR_get {l:List Bi}{i:Nat}{b:Bi}(h:l[i]?=some b):(bisR l)[i]?=some (biR b):=by rw[bisR_eq,List.getElem?_map,h];rfl
def atV:Option Nat->Int
 |some j=>(j:Nat)
 |none=> -1
section
variable {ts:List Tk}{e:Int}
theorem find_loop (K:Nat->Prop)(h:AH)(b2:Nat)(E:TypeId)(l:List Bi)(hl:l.length<=most)(gs:List Sg)(i:Nat)(g:Sg)(hg:gs[i]?=some g)(hb2:h.objs b2=some (.cells (bisR l).flatten E))(fr0:AFr)(R:CExit->AQ)
  (f1:fr0 1=.lst 161 (sgsR gs) .no)(f7:fr0 7=.slice b2 0 l.length l.length)(f8:fr0 8=.int .i64 (i:Nat))(f9:fr0 9=.int .i64 (-1))(f10:fr0 10=.int .i64 0)
  (hR:∀fr:AFr,(∀t,t<25->t≠9->t≠10->fr t=fr0 t)->fr 9=.int .i64 (atV (findB g.name 0 l))->R (.exit 2) fr h):W T K (.loop l62_1.toC) fr0 h R:=by
 unfold most at hl
 have hgi:=sgsR_get hg
 obtain⟨gn,gp,⟨gv,gc,⟨gk,gm,gl⟩⟩⟩:=g
 simp only[sgR,schR,tyR] at hgi
 refine aloop (α:=Nat×Option Nat) (fun x fr h1=>(∀t,t<25->t≠9->t≠10->fr t=fr0 t)/\fr 9=.int .i64 (atV x.2)/\fr 10=.int .i64 (x.1:Nat)/\x.1<=l.length/\(x.2=none->findB gn x.1 (l.drop x.1)=findB gn 0 l)/\(∀j,x.2=some j->findB gn 0 l=some j)/\h1=h) (fun x=>l.length-x.1) (0,none)
  ⟨fun _ _ _ _=>rfl,f9,f10,Nat.zero_le _,fun _=>rfl,fun j hj=>(by cases hj),rfl⟩ ?_
 rintro⟨k,o⟩ fr h1 ⟨hf,g9,g10,hk,ho,hs,rfl⟩
 simp only at g9 g10 hk ho hs
 have g1:fr 1=.lst 161 (sgsR gs) .no:=by rw[hf 1 (by decide) (by decide) (by decide),f1]
 have g7:fr 7=.slice b2 0 l.length l.length:=by rw[hf 7 (by decide) (by decide) (by decide),f7]
 have g8:fr 8=.int .i64 (i:Nat):=by rw[hf 8 (by decide) (by decide) (by decide),f8]
 have keep:∀(fr':AFr),(∀t,t<25->t≠9->t≠10->fr' t=fr t)->∀t,t<25->t≠9->t≠10->fr' t=fr0 t:=fun fr' hh t h1 h2 h3=>by rw[hh t h1 h2 h3,hf t h1 h2 h3]
 by_cases hlt:k<l.length
 ·have c1:decide ((k:Int)<(l.length:Int))=true:=decide_eq_true (by omega)
  have w:IntKind.i64.wrap ((k:Int)+1)=((k+1:Nat):Int):=by rw[wrap64 ⟨by omega,by omega⟩];rfl
  have hltI:(k:Int)<(l.length:Int):=by omega
  cases o with
  |some j=>
   have c2:decide ((j:Int)<0)=false:=decide_eq_false (by omega)
   have e2:=hs j rfl
   simp only[u_C l62_1.eq_1,rn,pevA,seval,g1,g7,g8,g9,g10,c1,c2,atV]
   refine hR _ (keep _ fun t h1 h2 h3=>?_) ?_
   ·simp only[upd,setA];repeat rw[if_neg (by omega)]
   ·simp only[upd,setA];repeat rw[if_neg (by decide)]
    rw[e2];exact g9
  |none=>
   obtain⟨a,ha⟩ : ∃a,l[k]?=some a:=⟨l[k],by simp[hlt]⟩
   have hrow:=bisR_get ha
   have e0:=flat_get (bisR_each l) hrow (j:=0) (by decide)
   have e1:=flat_get (bisR_each l) hrow (j:=1) (by decide)
   have hd:l.drop k=a::l.drop (k+1):=by
    obtain⟨h1,h2⟩:=List.getElem?_eq_some_iff.1 ha
    rw[List.drop_eq_getElem_cons h1,h2]
   have hfk:=ho rfl
   rw[hd,findB] at hfk
   obtain⟨an,asg,asc,ae,ap⟩:=a
   have e0':(bisR l).flatten[k*15]?=some (.str an):=e0
   have e1':(bisR l).flatten[k*15+1]?=some (.bool asg):=e1
   by_cases c3:an=gn
   ·cases asg with
    |true=>
     rw[if_neg (by simp)] at hfk
     simp only[u_C l62_1.eq_1,e_dregion d62_0,u_L s62_0.eq_1,u_T g62_0.eq_1,rn,pevA,seval,g1,g7,g8,g9,g10,hltI,atV,hb2,e0',e1',hgi,c3,w]
     refine⟨(k+1,none),by show l.length-(k+1)<l.length-k;omega,keep _ fun t h1 h2 h3=>?_,?_,rfl,hlt,fun _=>hfk,fun j hj=>(by cases hj),rfl⟩
     ·simp only[upd,setA];repeat rw[if_neg (by omega)]
     ·simp only[upd,setA];repeat rw[if_neg (by decide)]
      exact g9
    |false=>
     rw[if_pos ⟨c3,rfl⟩] at hfk
     simp only[u_C l62_1.eq_1,e_dregion d62_0,u_L s62_0.eq_1,u_T g62_0.eq_1,rn,pevA,seval,g1,g7,g8,g9,g10,hltI,atV,hb2,e0',e1',hgi,c3,w]
     refine⟨(k+1,some k),by show l.length-(k+1)<l.length-k;omega,keep _ fun t h1 h2 h3=>?_,rfl,rfl,hlt,fun hh=>(by cases hh),fun j hj=>(by cases hj;exact hfk.symm),rfl⟩
     simp only[upd,setA];repeat rw[if_neg (by omega)]
   ·rw[if_neg fun hh=>c3 hh.1] at hfk
    have d3:decide (an=gn)=false:=decide_eq_false c3
    simp only[u_C l62_1.eq_1,e_dregion d62_0,u_L s62_0.eq_1,u_T g62_0.eq_1,rn,pevA,seval,g1,g7,g8,g9,g10,hltI,atV,hb2,e0',e1',hgi,d3,w]
    refine⟨(k+1,none),by show l.length-(k+1)<l.length-k;omega,keep _ fun t h1 h2 h3=>?_,?_,rfl,hlt,fun _=>hfk,fun j hj=>(by cases hj),rfl⟩
    ·simp only[upd,setA];repeat rw[if_neg (by omega)]
    ·simp only[upd,setA];repeat rw[if_neg (by decide)]
     exact g9
 ·have hke:k=l.length:=by omega
  subst hke
  have c1:decide ((l.length:Int)<(l.length:Int))=false:=by simp
  have e2:findB gn 0 l=o:=by
   cases o with
   |none=>have:=ho rfl;rw[List.drop_length,findB] at this;exact this.symm
   |some j=>exact hs j rfl
  simp only[u_C l62_1.eq_1,rn,pevA,seval,g1,g7,g8,g9,g10,c1]
  refine hR _ (keep _ fun t h1 h2 h3=>?_) ?_
  ·simp only[upd,setA];repeat rw[if_neg (by omega)]
  ·simp only[upd,setA];repeat rw[if_neg (by decide)]
   rw[e2];exact g9
end
end Go.Proofs.YtinbjdkibmkgbaaGreatDoor.p
namespace Go.Proofs.YtinbjdkibmkgbaaGreatDoor.p
open Go.Proofs Go Go.Cn code
set_option linter.unusedSimpArgs false
set_option linter.unusedVariables false
theorem any_take {α:Type}{p:α->Bool}{l:List α}{k:Nat}{a:α}(h:l[k]?=some a):(l.take (k+1)).any p=((l.take k).any p || p a):=by
 rw[take_succ h,List.any_append];simp
def dupV (b:Bool)(v:Int):Int:=if b then -1 else v
section
variable {ts:List Tk}{e:Int}
theorem dup_loop (K:Nat->Prop)(h:AH)(gs:List Sg)(hgl:gs.length<=most)(i:Nat)(g:Sg)(hg:gs[i]?=some g)(at0:Int)(fr0:AFr)(R:CExit->AQ)
  (f1:fr0 1=.lst 161 (sgsR gs) .no)(f8:fr0 8=.int .i64 (i:Nat))(f9:fr0 9=.int .i64 at0)(f11:fr0 11=.int .i64 0)
  (hR:∀fr:AFr,(∀t,t<25->t≠9->t≠11->fr t=fr0 t)->fr 9=.int .i64 (dupV ((gs.take i).any fun x=>decide (x.name=g.name)) at0)->R (.exit 4) fr h):W T K (.loop l62_3.toC) fr0 h R:=by
 unfold most at hgl
 have hgi:=sgsR_get hg
 have hil:=(List.getElem?_eq_some_iff.1 hg).1
 obtain⟨gn,gp,⟨gv,gc,⟨gk,gm,gl⟩⟩⟩:=g
 simp only[sgR,schR,tyR] at hgi
 refine aloop (α:=Nat) (fun x fr h1=>(∀t,t<25->t≠9->t≠11->fr t=fr0 t)/\fr 9=.int .i64 (dupV ((gs.take x).any fun y=>decide (y.name=gn)) at0)/\fr 11=.int .i64 (x:Nat)/\x<=i/\h1=h) (fun x=>i-x) 0
  ⟨fun _ _ _ _=>rfl,by rw[f9];rfl,f11,Nat.zero_le _,rfl⟩ ?_
 rintro k fr h1 ⟨hf,g9,g11,hk,rfl⟩
 have g1:fr 1=.lst 161 (sgsR gs) .no:=by rw[hf 1 (by decide) (by decide) (by decide),f1]
 have g8:fr 8=.int .i64 (i:Nat):=by rw[hf 8 (by decide) (by decide) (by decide),f8]
 have keep:∀(fr':AFr),(∀t,t<25->t≠9->t≠11->fr' t=fr t)->∀t,t<25->t≠9->t≠11->fr' t=fr0 t:=fun fr' hh t h1 h2 h3=>by rw[hh t h1 h2 h3,hf t h1 h2 h3]
 by_cases hlt:k<i
 ·have c1:decide ((k:Int)<(i:Int))=true:=decide_eq_true (by omega)
  have w:IntKind.i64.wrap ((k:Int)+1)=((k+1:Nat):Int):=by rw[wrap64 ⟨by omega,by omega⟩];rfl
  obtain⟨a,ha⟩ : ∃a,gs[k]?=some a:=⟨gs[k],List.getElem?_eq_getElem (by omega)⟩
  have hak:=sgsR_get ha
  have hany:=any_take (p:=fun y:Sg=>decide (y.name=gn)) ha
  obtain⟨an,ap,⟨av,ac,⟨ak,am,al⟩⟩⟩:=a
  simp only[sgR,schR,tyR] at hak
  simp only at hany
  by_cases c3:an=gn
  ·simp only[u_C l62_3.eq_1,e_dregion d62_2,u_L s62_2.eq_1,u_T g62_2.eq_1,rn,pevA,seval,g1,g8,g9,g11,c1,hak,hgi,c3,w]
   refine⟨k+1,by show i-(k+1)<i-k;omega,keep _ fun t h1 h2 h3=>?_,?_,rfl,hlt,rfl⟩
   ·simp only[upd,setA];repeat rw[if_neg (by omega)]
   ·rw[hany,decide_eq_true c3,Bool.or_true];rfl
  ·have d3:decide (an=gn)=false:=decide_eq_false c3
   simp only[u_C l62_3.eq_1,e_dregion d62_2,u_L s62_2.eq_1,u_T g62_2.eq_1,rn,pevA,seval,g1,g8,g9,g11,c1,hak,hgi,d3,w]
   refine⟨k+1,by show i-(k+1)<i-k;omega,keep _ fun t h1 h2 h3=>?_,?_,rfl,hlt,rfl⟩
   ·simp only[upd,setA];repeat rw[if_neg (by omega)]
   ·rw[hany,d3,Bool.or_false]
    simp only[upd,setA];repeat rw[if_neg (by decide)]
    exact g9
 ·have hke:k=i:=by omega
  subst hke
  have c1:decide ((k:Int)<(k:Int))=false:=by simp
  simp only[u_C l62_3.eq_1,rn,pevA,seval,g1,g8,g9,g11,c1]
  refine hR _ (keep _ fun t h1 h2 h3=>?_) ?_
  ·simp only[upd,setA];repeat rw[if_neg (by omega)]
  ·simp only[upd,setA];repeat rw[if_neg (by decide)]
   exact g9
end
end Go.Proofs.YtinbjdkibmkgbaaGreatDoor.p
namespace Go.Proofs.YtinbjdkibmkgbaaGreatDoor.p
open Go.Proofs Go Go.Cn code
set_option linter.unusedSimpArgs false
set_option linter.unusedVariables false
section
variable {ts:List Tk}{e:Int}
theorem join_loop (K:Nat->Prop)(h:AH)(b b2:Nat)(n2:b2≠b)(hb2:h.objs b2=none)(hk:¬K b)(hk2:¬K b2)(hK:∀o,KOk K (h.set b o))(gs:List Sg)(hgl:gs.length<=most)(bs:List Bi)(hbl:bs.length<=most)(hpos:0<bs.length)(s:St)(fr0:AFr)
  (R:CExit->AQ)(f0:fr0 0=.ptr b 0)(f1:fr0 1=.lst 161 (sgsR gs) .no)(f7:fr0 7=.slice b2 0 bs.length bs.length)(f8:fr0 8=.int .i64 0)
  (hR:∀(fr:AFr)(lf:List Bi)(sf:St),lf.length=bs.length->joinL [] gs bs s=(lf,sf)->fr 7=.slice b2 0 bs.length bs.length->R (.exit 0) fr ((h.set b (parO ts e sf)).set b2 (.cells (bisR lf).flatten 175)))
  (hS:∀(fr:AFr)(lf:List Bi)(sf:St),lf.length=bs.length->joinL [] gs bs s=(lf,sf)->fr 6=.slice b2 0 bs.length bs.length->R .ret fr ((h.set b (parO ts e sf)).set b2 (.cells (bisR lf).flatten 175))) :
  W T K (.loop l62_4.toC) fr0 ((h.set b (parO ts e s)).set b2 (.cells (bisR bs).flatten 175)) R:=by
 unfold most at hgl
 refine aloop (α:=Nat×List Bi×St) (fun x fr h1=>fr 0=.ptr b 0/\fr 1=.lst 161 (sgsR gs) .no/\fr 7=.slice b2 0 bs.length bs.length/\fr 8=.int .i64 (x.1:Nat)/\x.1<=gs.length/\x.2.1.length=bs.length/\
  joinL (gs.take x.1) (gs.drop x.1) x.2.1 x.2.2=joinL [] gs bs s/\h1=(h.set b (parO ts e x.2.2)).set b2 (.cells (bisR x.2.1).flatten 175)) (fun x=>gs.length-x.1) (0,bs,s) ⟨f0,f1,f7,f8,Nat.zero_le _,rfl,rfl,rfl⟩ ?_
 rintro⟨i,l,s2⟩ fr h1 ⟨g0,g1,g7,g8,hi,hll,hj,rfl⟩
 simp only at g8 hi hll hj
 have hfl:(bisR l).flatten.length=l.length*15:=by rw[flatten_length (bisR_each l),bisR_len]
 by_cases hlt:i<gs.length
 ·have c1:decide ((i:Int)<(gs.length:Int))=true:=decide_eq_true (by omega)
  have w:IntKind.i64.wrap ((i:Int)+1)=((i+1:Nat):Int):=by rw[wrap64 ⟨by omega,by omega⟩];rfl
  obtain⟨g,hg⟩ : ∃g,gs[i]?=some g:=⟨gs[i],List.getElem?_eq_getElem hlt⟩
  have hgi:=sgsR_get hg
  have hd:gs.drop i=g::gs.drop (i+1):=by
   obtain⟨h1,h2⟩:=List.getElem?_eq_some_iff.1 hg
   rw[List.drop_eq_getElem_cons h1,h2]
  rw[hd,joinL] at hj
  simp only[u_C l62_4.eq_1,rn,pevA,seval,g0,g1,g7,g8,sgsR_len,c1]
  refine (fine_ok s2).use (by simp only[kG,kN,n2,n2.symm]<;>rfl) hk ?_
  cases c2:fineS s2 with
  |false=>
   rw[c2,if_neg (by decide)] at hj
   simp only[rn,pevA,seval,kN,n2,n2.symm,g0,g1,g7,g8]
   exact hR _ _ _ hll hj.symm (by exact g7)
  |true=>
   rw[c2,if_pos rfl] at hj
   simp only[rn,pevA,seval,kN,n2,n2.symm,g0,g1,g7,g8]
   refine find_loop K _ b2 175 l (by rw[hll];exact hbl) gs i g hg (AH.set_same _ _ _) _ _ (by exact g1) (by rw[hll];exact g7) (by exact g8) (by rfl) (by rfl) fun fr2 hf2 v9=>?_
   have q0:fr2 0=.ptr b 0:=by rw[hf2 0 (by decide) (by decide) (by decide)];exact g0
   have q1:fr2 1=.lst 161 (sgsR gs) .no:=by rw[hf2 1 (by decide) (by decide) (by decide)];exact g1
   have q7:fr2 7=.slice b2 0 bs.length bs.length:=by rw[hf2 7 (by decide) (by decide) (by decide)];exact g7
   have q8:fr2 8=.int .i64 (i:Nat):=by rw[hf2 8 (by decide) (by decide) (by decide)];exact g8
   simp only[rn,pevA,seval,q0,q1,q7,q8]
   refine dup_loop K _ gs hgl i g hg (atV (findB g.name 0 l)) _ _ (by exact q1) (by exact q8) (by exact v9) (by rfl) fun fr3 hf3 u9=>?_
   have r0:fr3 0=.ptr b 0:=by rw[hf3 0 (by decide) (by decide) (by decide)];exact q0
   have r1:fr3 1=.lst 161 (sgsR gs) .no:=by rw[hf3 1 (by decide) (by decide) (by decide)];exact q1
   have r7:fr3 7=.slice b2 0 bs.length bs.length:=by rw[hf3 7 (by decide) (by decide) (by decide)];exact q7
   have r8:fr3 8=.int .i64 (i:Nat):=by rw[hf3 8 (by decide) (by decide) (by decide)];exact q8
   clear hf2 hf3 v9 q0 q1 q7 q8
   obtain⟨gn,gp,⟨gv,gc,⟨gk,gm,gl⟩⟩⟩:=g
   simp only[sgR,schR,tyR] at hgi
   simp only at hj u9
   cases hfb:findB gn 0 l with
   |none=>
    rw[hfb] at hj u9
    have u9':fr3 9=.int .i64 (-1):=by rw[u9];unfold dupV atV;split<;>rfl
    simp only[rn,pevA,seval,r0,r1,r7,r8,u9',hgi]
    refine (amiss_ok 102 gp (by decide) s2).use (by simp only[kG,kN,n2,n2.symm]<;>rfl) hk ?_
    simp only[rn,pevA,seval,kN,n2,n2.symm,r0,r1,r7,r8]
    exact hS _ _ _ hll hj.symm rfl
   |some j=>
    rw[hfb] at hj u9
    simp only at hj
    cases hdup:(gs.take i).any fun x=>decide (x.name=gn) with
    |true=>
     rw[hdup] at hj u9
     rw[if_pos rfl] at hj
     have u9':fr3 9=.int .i64 (-1):=u9
     simp only[rn,pevA,seval,r0,r1,r7,r8,u9',hgi]
     refine (amiss_ok 102 gp (by decide) s2).use (by simp only[kG,kN,n2,n2.symm]<;>rfl) hk ?_
     simp only[rn,pevA,seval,kN,n2,n2.symm,r0,r1,r7,r8]
     exact hS _ _ _ hll hj.symm rfl
    |false=>
     rw[hdup] at hj u9
     rw[if_neg (by decide)] at hj
     have u9':fr3 9=.int .i64 (j:Nat):=u9
     have hjl:=(findB_lt hfb).2
     rw[Nat.zero_add] at hjl
     have hjI:(j:Int)<(bs.length:Int):=by omega
     have cj:decide ((j:Int)<0)=false:=decide_eq_false (by omega)
     obtain⟨a,ha⟩ : ∃a,l[j]?=some a:=⟨l[j],List.getElem?_eq_getElem hjl⟩
     have hsg:=signB_row ⟨gv,gc,⟨gk,gm,gl⟩⟩ j l a ha
     have hrow:=bisR_get ha
     have hjR:j<(bisR l).length:=by rw[bisR_len];exact hjl
     obtain⟨an,asg,⟨av,ac,⟨ak,am,al⟩⟩,⟨xk,xp,xn,xv,xl,xa,xb⟩,ap⟩:=a
     have p1:(bisR l).flatten.take (j*15+1)++[AV.bool true]++(bisR l).flatten.drop (j*15+1+1)=((bisR l).set j (biR (an,true,⟨av,ac,⟨ak,am,al⟩⟩,⟨xk,xp,xn,xv,xl,xa,xb⟩,ap))).flatten:=flat_put (sz:=15) (j:=1) (new:=[AV.bool true]) (bisR_each l) hrow (by decide)
     have he2:∀r∈(bisR l).set j (biR (an,true,⟨av,ac,⟨ak,am,al⟩⟩,⟨xk,xp,xn,xv,xl,xa,xb⟩,ap)),r.length=15:=fun r hr=>by
      rcases List.mem_or_eq_of_mem_set hr with hr|rfl
      ·exact bisR_each l r hr
      ·rfl
     have p2:((bisR l).set j (biR (an,true,⟨av,ac,⟨ak,am,al⟩⟩,⟨xk,xp,xn,xv,xl,xa,xb⟩,ap))).flatten.take (j*15+2)++[.lst 9 (strC gv) .no,.lst 156 (pdsR gc) .no,.int .i64 gk,.str gm,.lst 30 (tysR gl) .no]++((bisR l).set j (biR (an,true,⟨av,ac,⟨ak,am,al⟩⟩,⟨xk,xp,xn,xv,xl,xa,xb⟩,ap))).flatten.drop (j*15+2+5)=(bisR (signB ⟨gv,gc,⟨gk,gm,gl⟩⟩ j l)).flatten:=by
      rw[hsg]
      have:=flat_put (sz:=15) (j:=2) (new:=[.lst 9 (strC gv) .no,.lst 156 (pdsR gc) .no,.int .i64 gk,.str gm,.lst 30 (tysR gl) .no]) he2 (by rw[List.getElem?_set_self hjR]) (by simp)
      rw[List.set_set] at this
      exact this
     have l2:((bisR l).set j (biR (an,true,⟨av,ac,⟨ak,am,al⟩⟩,⟨xk,xp,xn,xv,xl,xa,xb⟩,ap))).flatten.length=l.length*15:=by rw[flatten_length he2,List.length_set,bisR_len]
     have b1:j*15+1+1<=(bisR l).flatten.length:=by rw[hfl];omega
     have b2':j*15+2+5<=l.length*15:=by omega
     simp only[rn,pevA,seval,r0,r1,r7,r8,u9',hgi,cj,hjI,b1,hk2]
     rw[p1,p2,l2,if_pos b2']
     simp only[rn,pevA,seval,kN,n2,n2.symm,r0,r1,r7,r8,w,hk2]
     exact⟨(i+1,signB ⟨gv,gc,⟨gk,gm,gl⟩⟩ j l,s2),by show gs.length-(i+1)<gs.length-i;omega,r0,r1,r7,rfl,hlt,by show (signB _ _ _).length=_;rw[signB_len];exact hll,by rw[take_succ hg];exact hj,rfl⟩
 ·have hie:i=gs.length:=by omega
  subst hie
  have c1:decide ((gs.length:Int)<(gs.length:Int))=false:=by simp
  rw[List.drop_length,joinL] at hj
  simp only[u_C l62_4.eq_1,rn,pevA,seval,g0,g1,g7,g8,sgsR_len,c1]
  exact hR _ _ _ hll hj.symm (by exact g7)
end
end Go.Proofs.YtinbjdkibmkgbaaGreatDoor.p
namespace Go.Proofs.YtinbjdkibmkgbaaGreatDoor.p
open Go.Proofs Go Go.Cn code
set_option linter.unusedSimpArgs false
set_option linter.unusedVariables false
section
variable {ts:List Tk}{e:Int}
theorem joinL_nil (gs:List Sg)(s:St):(joinL [] gs [] s).1=[]/\(gs=[]\/fineS s=false/\joinL [] gs [] s=([],s)\/fineS s=true/\∃g r,gs=g::r/\joinL [] gs [] s=([],amissS 102 g.pos s)):=by
 cases gs with
 |nil=>exact⟨rfl,.inl rfl⟩
 |cons g r=>
  rw[joinL]
  cases h:fineS s with
  |false=>exact⟨rfl,.inr (.inl ⟨rfl,rfl⟩)⟩
  |true=>exact⟨rfl,.inr (.inr ⟨rfl,g,r,rfl,rfl⟩)⟩
theorem join_ok (gs:List Sg)(hgl:gs.length<=most)(bs:List Bi)(hbl:bs.length<=most)(s:St):PC ts e 62 [.lst 161 (sgsR gs) .no,.lst 175 (bisR bs) .no] (.lst 175 (bisR (joinL [] gs bs s).1) .no) s (joinL [] gs bs s).2:=by
 refine PC.intro t62 fun K h b hk hK=>?_
 by_cases hpos:0<bs.length
 ·have hbl':=hbl
  unfold most at hbl'
  simp only[u_C c62.eq_1,rn,pevA,seval]
  refine WO.bslW (cs:=[]) rfl fun c hc hkc=>?_
  simp only[rn,pevA,seval]
  refine WO.vec (b:=c) (n:=0) (sz:=15) rfl (AH.set_same _ _ _) rfl hkc rfl trivial (bisR_each bs) (bisR_one bs) (by rw[bisR_len];exact hpos) (by simp[capOk,bisR_len];omega) fun b2 hb2 hk2=>?_
  rw[s_delset,s_del hc]
  obtain⟨_,n2,hb2⟩:=new3.1 hb2
  simp only[rn,pevA,seval,bisR_len]
  refine join_loop K h b b2 n2 hb2 hk hk2 hK gs hgl bs hbl hpos s _ _ rfl rfl rfl rfl (fun fr lf sf hll hj f7=>?_) (fun fr lf sf hll hj f6=>?_)
  ·simp only[rn,pevA,seval,f7]
   rw[hj]
   exact⟨_,_,.sliceN (rows:=bisR lf) (sz:=15) (AH.set_same _ _ _) (bisR_each lf) (by decide) (by rw[bisR_len,hll]) hpos (by rw[big_eq];omega) (.refl _) (by rw[s_delset];exact le_del (AH.le_refl _) (AH.set_none.2 ⟨n2,hb2⟩)),hK _,rfl,rfl⟩
  ·simp only[rn,pevA,seval,f6]
   rw[hj]
   exact⟨_,_,.sliceN (rows:=bisR lf) (sz:=15) (AH.set_same _ _ _) (bisR_each lf) (by decide) (by rw[bisR_len,hll]) hpos (by rw[big_eq];omega) (.refl _) (by rw[s_delset];exact le_del (AH.le_refl _) (AH.set_none.2 ⟨n2,hb2⟩)),hK _,rfl,rfl⟩
 ·obtain rfl:bs=[]:=List.eq_nil_of_length_eq_zero (by omega)
  obtain⟨hn1,hn⟩:=joinL_nil gs s
  unfold most at hgl
  simp only[u_C c62.eq_1,rn,pevA,seval]
  refine WO.bslT0 fun c hc1 hc2=>?_
  simp only[rn,pevA,seval,setT_tk]
  refine WO.append (i:=0) (.row (t:=h.toks) 175 15 0 hc1) rfl rfl rfl trivial (by decide) (bisR_each []) rfl (.inr rfl) (fun h=>by simp[bisR] at h) (by simp[big_eq,bisR]) fun tag2 t2 hT2=>?_
  simp only[rn,pevA,seval]
  have hle:(h.set b (parO ts e s)).le ((h.set b (parO ts e s)).tk t2):=le_tk (AH.le_refl _) hT2.le
  refine aloop (α:=Unit) (fun _ fr h1=>fr 0=.ptr b 0/\fr 1=.lst 161 (sgsR gs) .no/\fr 7=.lst 175 [] tag2/\fr 8=.int .i64 0/\h1=(h.set b (parO ts e s)).tk t2) (fun _=>0) () ⟨rfl,rfl,rfl,rfl,rfl⟩ ?_
  rintro _ fr h1 ⟨f0,f1,f7,f8,rfl⟩
  have hT:=hT2
  rcases hn with rfl|⟨hfn,hj⟩|⟨hfn,g,r,rfl,hj⟩
  ·have c0:decide ((0:Int)<((0:Nat):Int))=false:=rfl
   simp only[u_C l62_4.eq_1,rn,pevA,seval,f0,f1,f7,f8,sgsR,joinL,c0]
   exact PC.fin (.no _ _ _) hle (hK _)
  ·rw[hj]
   by_cases hg0:0<gs.length
   ·have c1:decide ((0:Int)<(gs.length:Int))=true:=decide_eq_true (by omega)
    simp only[u_C l62_4.eq_1,rn,pevA,seval,f0,f1,f7,f8,sgsR_len,c1]
    refine (fine_ok s).use (AH.set_same _ _ _) hk ?_
    simp only[rn,pevA,seval,f0,f1,f7,f8,hfn]
    exact PC.fin (.no _ _ _) hle (hK _)
   ·have c1:decide ((0:Int)<(gs.length:Int))=false:=decide_eq_false (by omega)
    simp only[u_C l62_4.eq_1,rn,pevA,seval,f0,f1,f7,f8,sgsR_len,c1]
    exact PC.fin (.no _ _ _) hle (hK _)
  ·rw[hj]
   have c1:decide ((0:Int)<((r.length+1:Nat):Int))=true:=decide_eq_true (by omega)
   have hgi:(sgsR (g::r))[0]?=some (sgR g):=rfl
   obtain⟨gn,gp,⟨gv,gc,⟨gk,gm,gl⟩⟩⟩:=g
   simp only[sgR,schR,tyR] at hgi
   simp only[u_C l62_4.eq_1,rn,pevA,seval,f0,f1,f7,f8,sgsR_len,c1]
   refine (fine_ok s).use (AH.set_same _ _ _) hk ?_
   simp only[rn,pevA,seval,f0,f1,f7,f8,hfn]
   have c0:decide ((0:Int)<((0:Nat):Int))=false:=rfl
   refine aloop (α:=Unit) (fun _ fr h1=>fr 0=.ptr b 0/\fr 1=.lst 161 (sgsR (⟨gn,gp,⟨gv,gc,⟨gk,gm,gl⟩⟩⟩::r)) .no/\fr 7=.lst 175 [] tag2/\fr 8=.int .i64 0/\fr 9=.int .i64 (-1)/\fr 10=.int .i64 0/\h1=(h.set b (parO ts e s)).tk t2) (fun _=>0) () ⟨f0,f1,f7,f8,rfl,rfl,rfl⟩ ?_
   clear f0 f1 f7 f8
   rintro _ fr h1 ⟨f0,f1,f7,f8,f9,f10,rfl⟩
   simp only[u_C l62_1.eq_1,rn,pevA,seval,f0,f1,f7,f8,f9,f10,c0]
   refine aloop (α:=Unit) (fun _ fr h1=>fr 0=.ptr b 0/\fr 1=.lst 161 (sgsR (⟨gn,gp,⟨gv,gc,⟨gk,gm,gl⟩⟩⟩::r)) .no/\fr 7=.lst 175 [] tag2/\fr 8=.int .i64 0/\fr 9=.int .i64 (-1)/\fr 11=.int .i64 0/\h1=(h.set b (parO ts e s)).tk t2) (fun _=>0) () ⟨f0,f1,f7,f8,f9,rfl,rfl⟩ ?_
   clear f0 f1 f7 f8 f9 f10
   rintro _ fr h1 ⟨f0,f1,f7,f8,f9,f11,rfl⟩
   have hgi':(sgsR (⟨gn,gp,⟨gv,gc,⟨gk,gm,gl⟩⟩⟩::r))[(0:Int).toNat]?=some [.str gn,.int .i64 gp,.lst 9 (strC gv) .no,.lst 156 (pdsR gc) .no,.int .i64 gk,.str gm,.lst 30 (tysR gl) .no]:=rfl
   simp only[u_C l62_3.eq_1,rn,pevA,seval,f0,f1,f7,f8,f9,f11,hgi]
   refine (amiss_ok 102 gp (by decide) s).use (AH.set_same _ _ _) hk ?_
   simp only[rn,pevA,seval,f0,f1,f7,f8,f9,f11]
   exact PC.fin (.no _ _ _) (le_tk (AH.le_refl _) hT2.le) (hK _)
end
end Go.Proofs.YtinbjdkibmkgbaaGreatDoor.p
namespace Go.Proofs.YtinbjdkibmkgbaaGreatDoor.p
open Go.Proofs Go Go.Cn code
set_option linter.unusedSimpArgs false
set_option linter.unusedVariables false
section
variable {ts:List Tk}{e:Int}
theorem PC.useW {f:Nat}{args args':List AV}{v:AV}{s s':St}(hp:PC ts e f args' v s s')(hw:WkL args args'){K:Nat->Prop}{h:AH}{b:Nat}{Q:AV->AH->Prop}(hb:h.objs b=some (parO ts e s))(hk:¬K b)(hq:Q v (h.set b (parO ts e s'))):ACall T K (.func f) (.ptr b 0::args) h Q:=by
 have hw2:WkL (.ptr b 0::args) (.ptr b 0::args'):=⟨.refl _,hw⟩
 exact (hp.use hb hk hq).weak hw2.len hw2.get
theorem def_len:∀{n:Nat}{g:List Sg}{bs:List Bi}{s:St}{g':List Sg}{bs':List Bi}{s':St},defS ts e n g bs s=some (g',bs',s')->g'.length<=g.length+1/\bs'.length<=bs.length+1
 |0,g,bs,s,g',bs',s',h=>by rw[defS] at h;cases h
 |n+1,g,bs,s,g',bs',s',h=>by
  rw[defS] at h
  split at h
  ·split at h
   ·cases h;simp
   ·cases h
  ·split at h
   ·split at h
    ·cases h;simp
    ·cases h
   ·cases h
theorem defs_len:∀{n:Nat}{g:List Sg}{bs:List Bi}{s:St}{g':List Sg}{bs':List Bi}{s':St},defsL ts e n g bs s=some (g',bs',s')->g'.length<=g.length+n/\bs'.length<=bs.length+n
 |0,g,bs,s,g',bs',s',h=>by rw[defsL] at h;cases h
 |n+1,g,bs,s,g',bs',s',h=>by
  rw[defsL] at h
  split at h
  ·split at h
   ·split at h
    ·cases h;exact⟨by omega,by omega⟩
    ·split at h
     ·rename_i h2
      have h3:=def_len h2
      have h4:=defs_len h
      exact⟨by omega,by omega⟩
     ·cases h
   ·cases h
  ·cases h;exact⟨by omega,by omega⟩
variable (hts:ts.length<=1000000)
include hts in
theorem defs_step {n:Nat}(hn:n<=most)(hD:∀m,m<n->DefOK ts e m):DefsOK ts e n:=by
 intro s g' bs' s' hs hr
 have hlen:=defs_len hr
 have hj:=join_ok (ts:=ts) (e:=e) g' (by simp at hlen;omega) bs' (by simp at hlen;omega) s'
 refine PC.intro t101 fun K h b hk hK=>?_
 simp only[u_C c101.eq_1,rn,pevA,seval]
 refine aloop (α:=Nat×List Sg×List Bi×St) (fun x fr h1=>fr 0=.ptr b 0/\x.2.2.2.i<=ts.length/\x.1<=n/\x.2.1.length+x.1<=most/\x.2.2.1.length+x.1<=most/\defsL ts e x.1 x.2.1 x.2.2.1 x.2.2.2=some (g',bs',s')/\
  Wk (fr 3) (.lst 161 (sgsR x.2.1) .no)/\Wk (fr 4) (.lst 175 (bisR x.2.2.1) .no)/\h1=h.set b (parO ts e x.2.2.2)) (fun x=>x.1) (n,[],[],s)
  ⟨rfl,hs,Nat.le_refl _,by simpa using hn,by simpa using hn,hr,.nil _ _ _,.nil _ _ _,rfl⟩ ?_
 clear hr hs hlen
 rintro⟨m,g,bs,s0⟩ fr h1 ⟨f0,hi,hm,hB1,hB2,hr,w3,w4,rfl⟩
 simp only at hi hm hB1 hB2 hr w3 w4
 generalize f3:fr 3=v3 at w3
 generalize f4:fr 4=v4 at w4
 cases m with
 |zero=>rw[defsL] at hr;cases hr
 |succ m=>
  rw[defsL] at hr
  have mv:=ex_mv hts (e:=e) m (by omega)
  simp only[u_C l101_1.eq_1,rn,pevA,seval,f0,f3,f4]
  refine (fine_ok s0).use (AH.set_same _ _ _) hk ?_
  cases c1:fineS s0 with
  |false=>
   rw[c1,if_neg (by decide)] at hr
   cases hr
   simp only[rn,pevA,seval,f0,f3,f4]
   refine hj.useW (by exact⟨w3,w4,trivial⟩) (AH.set_same _ _ _) hk ?_
   simp only[rn,pevA,seval]
   exact PC.fin (.refl _) (AH.le_refl _) (hK _)
  |true=>
   rw[c1,if_pos rfl] at hr
   cases hsm:semisS ts m s0 with
   |none=>rw[hsm] at hr;cases hr
   |some s1=>
    rw[hsm] at hr
    simp only at hr
    have hi1:=(semis_mv _ _ _ hsm).1.le hi
    simp only[rn,pevA,seval,f0,f3,f4]
    refine semi_loop hts K h b hk h.toks s1 _ _ (fun fr2 hf=>?_) s0 hsm (by simp only[upd,setA];repeat rw[if_neg (by decide)];exact f0)
    have g0:fr2 0=.ptr b 0:=by rw[hf 0 (by decide)];exact f0
    have g3:fr2 3=v3:=by rw[hf 3 (by decide)];exact f3
    have g4:fr2 4=v4:=by rw[hf 4 (by decide)];exact f4
    have e1:(h.set b (parO ts e s1)).tk h.toks=h.set b (parO ts e s1):=rfl
    rw[e1]
    simp only[rn,pevA,seval,g0,g3,g4]
    refine (is_ok [125] s1).use (AH.set_same _ _ _) hk ?_
    cases c2:isS ts [125] s1 with
    |true=>
     rw[c2,if_pos rfl] at hr
     cases hr
     simp only[rn,pevA,seval,g0,g3,g4]
     refine hj.useW (by exact⟨w3,w4,trivial⟩) (AH.set_same _ _ _) hk ?_
     simp only[rn,pevA,seval]
     exact PC.fin (.refl _) (AH.le_refl _) (hK _)
    |false=>
     rw[c2,if_neg (by decide)] at hr
     cases hd:defS ts e m g bs s1 with
     |none=>rw[hd] at hr;cases hr
     |some q=>
      obtain⟨g2,bs2,s2⟩:=q
      rw[hd] at hr
      simp only at hr
      have hl:=def_len hd
      have hi2:=(mv.df _ _ _ _ _ _ hd).m.le hi1
      simp only[rn,pevA,seval,g0,g3,g4]
      refine (hD m (by omega) g bs s1 g2 bs2 s2 hi1 (by omega) (by omega) hd).useW (by exact⟨w3,w4,trivial⟩) (AH.set_same _ _ _) hk ?_
      simp only[rn,pevA,seval,g0,g3,g4]
      refine (ends_ok true s2).use (AH.set_same _ _ _) hk ?_
      simp only[rn,pevA,seval,g0,g3,g4]
      exact⟨(m,g2,bs2,endsS ts e true s2),Nat.lt_succ_self m,g0,ends_i true hi2,by show m<=n;omega,by show g2.length+m<=most;omega,by show bs2.length+m<=most;omega,hr,.refl _,.refl _,rfl⟩
structure ExAll (ts:List Tk)(e:Int)(n:Nat):Prop where
 expr:ExOK ts e n
 two:TwoOK ts e n
 sum:SumOK ts e n
 product:ProductOK ts e n
 app:AppOK ts e n
 one:OneOK ts e n
 df:DefOK ts e n
include hts in
theorem ex_all:∀n:Nat,n<=most->∀m,m<=n->ExAll ts e m
 |0,_,m,hm=>by
  obtain rfl:m=0:=by omega
  exact⟨fun s x s' _ h=>by (rw[exprS] at h;cases h),fun a w s x s' _ h=>by (rw[twoS] at h;cases h),fun s x s' _ h=>by (rw[sumS] at h;cases h),fun s x s' _ h=>by (rw[productS] at h;cases h),
   fun s x s' _ h=>by (rw[appS] at h;cases h),fun s x s' _ h=>by (rw[oneS] at h;cases h),fun g bs s g' bs' s' _ _ _ h=>by (rw[defS] at h;cases h)⟩
 |n+1,hn,m,hm=>by
  have ih:=ex_all n (by omega)
  by_cases h:m<=n
  ·exact ih m h
  ·obtain rfl:m=n+1:=by omega
   have hi:=ih n (Nat.le_refl _)
   exact⟨expr_step hts hn hi.expr hi.sum hi.two (alts_step hts (by omega) fun m hm=>(ih m (by omega)).expr) (defs_step hts (by omega) fun m hm=>(ih m (by omega)).df),
    two_step hts hn hi.sum hi.product hi.app,sum_step hts hn hi.product fun m hm=>(ih m hm).two,product_step hts hn hi.app fun m hm=>(ih m hm).two,app_step hts hn fun m hm=>(ih m hm).one,one_step hts hn hi.expr,def_step hts hn hi.expr⟩
include hts in
include hts in
theorem def_ok {n:Nat}(hn:n<=most):DefOK ts e n:=(ex_all hts n hn n (Nat.le_refl _)).df
end
end Go.Proofs.YtinbjdkibmkgbaaGreatDoor.p
namespace Go.Proofs.YtinbjdkibmkgbaaGreatDoor.p
open Go.Proofs Go Go.Cn code
set_option linter.unusedSimpArgs false
set_option linter.unusedVariables false
abbrev Cd:=Nm×List Ty
def cdR (c:Cd):List AV:=[.str c.1,.lst 30 (tysR c.2) .no]
def cdsR (l:List Cd):List (List AV):=l.map cdR
theorem cdsR_len (l:List Cd):(cdsR l).length=l.length:=by rw[cdsR,List.length_map]
structure Dt where
 name:Nm
 vars:List Nm
 cons:List Cd
 der:List Nm
 pos:Int
def dtR (d:Dt):List AV:=[.str d.name,.lst 9 (strC d.vars) .no,.lst 88 (cdsR d.cons) .no,.lst 9 (strC d.der) .no,.int .i64 d.pos]
def dtsR (l:List Dt):List (List AV):=l.map dtR
abbrev Md:=Nm×Ty
def mdR (m:Md):List AV:=.str m.1::tyR m.2
def mdsR (l:List Md):List (List AV):=l.map mdR
theorem mdsR_len (l:List Md):(mdsR l).length=l.length:=by rw[mdsR,List.length_map]
structure Cs where
 name:Nm
 var:Nm
 supers:List Nm
 methods:List Md
 defaults:List Bi
 pos:Int
def csR (c:Cs):List AV:=[.str c.name,.str c.var,.lst 9 (strC c.supers) .no,.lst 163 (mdsR c.methods) .no,.lst 175 (bisR c.defaults) .no,.int .i64 c.pos]
def cssR (l:List Cs):List (List AV):=l.map csR
structure In where
 cls:Nm
 con:Nm
 vars:List Nm
 ctx:List Pd
 binds:List Bi
 pos:Int
def inR (x:In):List AV:=[.str x.cls,.str x.con,.lst 9 (strC x.vars) .no,.lst 156 (pdsR x.ctx) .no,.lst 175 (bisR x.binds) .no,.int .i64 x.pos]
def insR (l:List In):List (List AV):=l.map inR
structure Pg where
 datas:List Dt
 classes:List Cs
 insts:List In
 binds:List Bi
def pgR (p:Pg):List AV:=[.lst 66 (dtsR p.datas) .no,.lst 130 (cssR p.classes) .no,.lst 134 (insR p.insts) .no,.lst 175 (bisR p.binds) .no]
def Ty.name:Ty->Nm
 |.mk _ n _=>n
section
variable (ts:List Tk)(e:Int)
def plainL:Nat->List Bi->St->Option (List Bi×St)
 |0,_,_=>none
 |n+1,acc,s=>if fineS s then match semisS ts n s with
   |some s1=>if isS ts [125] s1 then some (acc,s1) else
    if fineS (if isS ts [58,58] (namedS ts e s1).2.2 then wrongS ts e (namedS ts e s1).2.2 else (namedS ts e s1).2.2) then
     match defS ts e n [] acc {(namedS ts e s1).2.2 with i:=s1.i} with
     |some (_,bs,s2)=>plainL n bs (endsS ts e true s2)
     |none=>none
    else plainL n acc (endsS ts e true (if isS ts [58,58] (namedS ts e s1).2.2 then wrongS ts e (namedS ts e s1).2.2 else (namedS ts e s1).2.2))
   |none=>none
  else some (acc,s)
def consS:Nat->List Cd->St->Option (List Cd×St)
 |0,_,_=>none
 |n+1,acc,s=>if fineS s then match argsS ts e n [] (wordS ts e 2 s).2 with
   |some (l,s2)=>if isS ts [124] s2 then consS n (acc++[((wordS ts e 2 s).1,l)]) (nextS s2) else some (acc++[((wordS ts e 2 s).1,l)],s2)
   |none=>none
  else some (acc,s)
def dersS:Nat->List Nm->St->Option (List Nm×St)
 |0,_,_=>none
 |n+1,acc,s=>if isS ts [44] s then dersS n (acc++[(wordS ts e 2 (nextS s)).1]) (wordS ts e 2 (nextS s)).2 else some (acc,s)
def derS (n:Nat)(s:St):Option (List Nm×St):=
 if isS ts [100,101,114,105,118,105,110,103] s then
  if isS ts [40] (nextS s) then
   if isS ts [41] (nextS (nextS s)) then some ([],nextS (nextS (nextS s)))
   else match dersS ts e n [(wordS ts e 2 (nextS (nextS s))).1] (wordS ts e 2 (nextS (nextS s))).2 with
    |some (l,s2)=>some (l,takeS ts e [41] s2)
    |none=>none
  else some ([(wordS ts e 2 (nextS s)).1],(wordS ts e 2 (nextS s)).2)
 else some ([],s)
def dataS (n:Nat)(s:St):Option (Dt×St):=
 match lowsS ts e n [] (wordS ts e 2 (takeS ts e [100,97,116,97] s)).2 with
 |some (vs,s3)=>match consS ts e n [] (takeS ts e [61] s3) with
  |some (cs,s5)=>match derS ts e n s5 with
   |some (ds,s6)=>some (⟨(wordS ts e 2 (takeS ts e [100,97,116,97] s)).1,vs,cs,ds,posS ts e s⟩,s6)
   |none=>none
  |none=>none
 |none=>none
def varsOk (v:Nm)(pos:Int)(l:List Pd)(s:St):St:=l.foldl (fun s p=>if p.2.name=v then s else amissS 102 pos s) s
def bodyL:Nat->List Md->List Bi->St->Option (List Md×List Bi×St)
 |0,_,_,_=>none
 |n+1,ms,ds,s=>if fineS s then match semisS ts n s with
   |some s1=>if isS ts [125] s1 then some (ms,ds,s1) else match defS ts e n [] [] s1 with
    |some ([],b,s2)=>bodyL n ms (ds++b) (endsS ts e true s2)
    |some (g::_,b,s2)=>bodyL n (ms++[(g.name,g.s.ty)]) (ds++b) (endsS ts e true (if 0<g.s.ctx.length then amissS 102 g.pos s2 else s2))
    |none=>none
   |none=>none
  else some (ms,ds,s)
def classS (n:Nat)(s:St):Option (Cs×St):=
 match predsS ts e true n (takeS ts e [99,108,97,115,115] s) with
 |some (l,s2)=>
  match bodyL ts e n [] [] (takeS ts e [123] (takeS ts e [119,104,101,114,101] (varsOk (wordS ts e 1 (wordS ts e 2 s2).2).1 (posS ts e (wordS ts e 2 s2).2) l (wordS ts e 1 (wordS ts e 2 s2).2).2))) with
  |some (ms,ds,s7)=>some (⟨(wordS ts e 2 s2).1,(wordS ts e 1 (wordS ts e 2 s2).2).1,l.map (·.1),ms,ds,posS ts e s⟩,takeS ts e [125] s7)
  |none=>none
 |none=>none
def headS (n:Nat)(s:St):Option (Nm×List Nm×St):=
 if isS ts [40] s then match lowsS ts e n [] (wordS ts e 2 (nextS s)).2 with
  |some (vs,s2)=>some ((wordS ts e 2 (nextS s)).1,vs,takeS ts e [41] s2)
  |none=>none
 else some ((wordS ts e 2 s).1,[],(wordS ts e 2 s).2)
def instS (n:Nat)(s:St):Option (In×St):=
 match predsS ts e true n (takeS ts e [105,110,115,116,97,110,99,101] s) with
 |some (l,s2)=>match headS ts e n (wordS ts e 2 s2).2 with
  |some (con,vs,s6)=>match plainL ts e n [] (takeS ts e [123] (takeS ts e [119,104,101,114,101] s6)) with
   |some (bs,s8)=>some (⟨(wordS ts e 2 s2).1,con,vs,l,bs,posS ts e s⟩,takeS ts e [125] s8)
   |none=>none
  |none=>none
 |none=>none
def progL:Nat->List Sg->Pg->St->Option (List Sg×Pg×St)
 |0,_,_,_=>none
 |n+1,g,q,s=>if fineS s then match semisS ts n s with
   |some s1=>if ts.length<=s1.i then some (g,q,s1)
    else if isS ts [100,97,116,97] s1 then match dataS ts e n s1 with
     |some (d,s2)=>progL n g {q with datas:=q.datas++[d]} (endsS ts e false s2)
     |none=>none
    else if isS ts [99,108,97,115,115] s1 then match classS ts e n s1 with
     |some (d,s2)=>progL n g {q with classes:=q.classes++[d]} (endsS ts e false s2)
     |none=>none
    else if isS ts [105,110,115,116,97,110,99,101] s1 then match instS ts e n s1 with
     |some (d,s2)=>progL n g {q with insts:=q.insts++[d]} (endsS ts e false s2)
     |none=>none
    else match defS ts e n g q.binds s1 with
     |some (g2,bs,s2)=>progL n g2 {q with binds:=bs} (endsS ts e false s2)
     |none=>none
   |none=>none
  else some (g,q,s)
def programS (n:Nat)(s:St):Option (Pg×St):=
 match progL ts e n [] ⟨[],[],[],[]⟩ s with
 |some (g,q,s1)=>some ({q with binds:=(joinL [] g q.binds s1).1},(joinL [] g q.binds s1).2)
 |none=>none
end
end Go.Proofs.YtinbjdkibmkgbaaGreatDoor.p
namespace Go.Proofs.YtinbjdkibmkgbaaGreatDoor.p
open Go.Proofs Go Go.Cn code
set_option linter.unusedSimpArgs false
set_option linter.unusedVariables false
section
variable {ts:List Tk}{e:Int}(hts:ts.length<=1000000)
include hts in
theorem args_mv {n:Nat}(hn:n<=most){acc l:List Ty}{s s':St}(h:argsS ts e n acc s=some (l,s')):Mv ts s s':=by
 obtain⟨c,h1,h2,h3⟩:=(types_prog n).2.1 _ _ _ _ h
 exact⟨h2.i,fun x=>(h2.f x).1,fun hs=>args_i n (fun m hm=>arg_ok hts (by omega)) _ _ _ _ hs h⟩
include hts in
theorem plain_mv:∀(n:Nat),n<=most->∀(acc:List Bi)(s:St)(l:List Bi)(s':St),plainL ts e n acc s=some (l,s')->Mv ts s s'
 |0,_,acc,s,l,s',h=>by rw[plainL] at h;cases h
 |n+1,hn,acc,s,l,s',h=>by
  rw[plainL] at h
  split at h
  ·split at h
   ·rename_i s1 h1
    have g1:=(semis_mv _ _ _ h1).1
    split at h
    ·cases h;exact g1
    ·have nm:=(Mvs.named (ts:=ts) (e:=e) s1).m
     split at h
     ·rw[if_neg (by rw[wrong_bad];decide)] at h
      exact g1.trans (nm.trans ((Mv.wrong _).trans ((Mv.ends _ _).trans (plain_mv n (by omega) _ _ _ _ h))))
     ·split at h
      ·split at h
       ·rename_i g2 bs s2 h2
        have m2:=(ex_mv hts (e:=e) n (by omega)).df _ _ _ _ _ _ h2
        have m1:Mv ts s1 {(namedS ts e s1).2.2 with i:=s1.i}:=⟨Nat.le_refl _,fun x=>nm.f x,fun x=>x⟩
        exact g1.trans (m1.trans (m2.m.trans ((Mv.ends _ _).trans (plain_mv n (by omega) _ _ _ _ h))))
       ·cases h
      ·exact g1.trans (nm.trans ((Mv.ends _ _).trans (plain_mv n (by omega) _ _ _ _ h)))
   ·cases h
  ·cases h;exact .refl _
include hts in
theorem cons_mv:∀(n:Nat),n<=most->∀(acc:List Cd)(s:St)(l:List Cd)(s':St),consS ts e n acc s=some (l,s')->Mv ts s s'
 |0,_,acc,s,l,s',h=>by rw[consS] at h;cases h
 |n+1,hn,acc,s,l,s',h=>by
  rw[consS] at h
  split at h
  ·split at h
   ·rename_i tl s2 h1
    have g1:=(Mvs.word (ts:=ts) (e:=e) 2 s).m.trans (args_mv hts (by omega) h1)
    split at h
    ·rename_i c
     exact g1.trans ((Mvs.is c).m.trans (cons_mv n (by omega) _ _ _ _ h))
    ·cases h;exact g1
   ·cases h
  ·cases h;exact .refl _
theorem ders_mv:∀(n:Nat)(acc:List Nm)(s:St)(l:List Nm)(s':St),dersS ts e n acc s=some (l,s')->Mv ts s s'
 |0,acc,s,l,s',h=>by rw[dersS] at h;cases h
 |n+1,acc,s,l,s',h=>by
  rw[dersS] at h
  split at h
  ·rename_i c
   exact (Mvs.is c).m.trans ((Mvs.word 2 _).m.trans (ders_mv n _ _ _ _ h))
  ·cases h;exact .refl _
theorem der_mv {n:Nat}{s s':St}{l:List Nm}(h:derS ts e n s=some (l,s')):Mv ts s s':=by
 unfold derS at h
 split at h
 ·rename_i c1
  split at h
  ·rename_i c2
   split at h
   ·rename_i c3
    cases h
    exact (Mvs.is c1).m.trans ((Mvs.is c2).m.trans (Mvs.is c3).m)
   ·split at h
    ·rename_i l1 s2 h1
     cases h
     exact (Mvs.is c1).m.trans ((Mvs.is c2).m.trans ((Mvs.word 2 _).m.trans ((ders_mv _ _ _ _ _ h1).trans (Mvs.take _ _).m)))
    ·cases h
  ·cases h
   exact (Mvs.is c1).m.trans (Mvs.word 2 _).m
 ·cases h;exact .refl _
include hts in
theorem data_mv {n:Nat}(hn:n<=most){s s':St}{d:Dt}(h:dataS ts e n s=some (d,s')):Mvs ts s s':=by
 unfold dataS at h
 split at h
 ·rename_i vs s3 h1
  split at h
  ·rename_i cs s5 h2
   split at h
   ·rename_i ds s6 h3
    cases h
    exact (Mvs.take _ _).fst ((Mvs.word 2 _).m.trans ((lows_mv _ _ _ _ _ h1).trans ((Mvs.take _ _).m.trans ((cons_mv hts n hn _ _ _ _ h2).trans (der_mv h3)))))
   ·cases h
  ·cases h
 ·cases h
theorem varsOk_mv (v:Nm)(pos:Int):∀(l:List Pd)(s:St),Mv ts s (varsOk v pos l s)
 |[],s=>.refl s
 |p::l,s=>by
  show Mv ts s (varsOk v pos l (if p.2.name=v then s else amissS 102 pos s))
  refine Mv.trans ?_ (varsOk_mv v pos l _)
  split
  ·exact .refl _
  ·exact .amiss _ _ (by decide) _
include hts in
theorem body_mv:∀(n:Nat),n<=most->∀(ms:List Md)(ds:List Bi)(s:St)(ms':List Md)(ds':List Bi)(s':St),bodyL ts e n ms ds s=some (ms',ds',s')->Mv ts s s'
 |0,_,ms,ds,s,ms',ds',s',h=>by rw[bodyL] at h;cases h
 |n+1,hn,ms,ds,s,ms',ds',s',h=>by
  rw[bodyL] at h
  split at h
  ·split at h
   ·rename_i s1 h1
    have g1:=(semis_mv _ _ _ h1).1
    split at h
    ·cases h;exact g1
    ·split at h
     ·rename_i b s2 h2
      exact g1.trans (((ex_mv hts (e:=e) n (by omega)).df _ _ _ _ _ _ h2).m.trans ((Mv.ends _ _).trans (body_mv n (by omega) _ _ _ _ _ _ h)))
     ·rename_i g gr b s2 h2
      refine g1.trans (((ex_mv hts (e:=e) n (by omega)).df _ _ _ _ _ _ h2).m.trans (Mv.trans ?_ ((Mv.ends _ _).trans (body_mv n (by omega) _ _ _ _ _ _ h))))
      split
      ·exact .amiss _ _ (by decide) _
      ·exact .refl _
     ·cases h
   ·cases h
  ·cases h;exact .refl _
end
end Go.Proofs.YtinbjdkibmkgbaaGreatDoor.p
namespace Go.Proofs.YtinbjdkibmkgbaaGreatDoor.p
open Go.Proofs Go Go.Cn code
set_option linter.unusedSimpArgs false
set_option linter.unusedVariables false
section
variable {ts:List Tk}{e:Int}(hts:ts.length<=1000000)
include hts in
theorem dvars_loop {n:Nat}(hn:n<=most)(K:Nat->Prop)(h:AH)(b b2 b3:Nat)(n2:b2≠b)(n32:b3≠b2)(n3:b3≠b)(hk:¬K b)(hk3:¬K b3)(Z:AO)(E3:TypeId)(t0:Nat->Option Tok)(nm:Nm)(v2 v3 v4:AV)(vs:List Nm)(s':St)(R:CExit->AQ)
  (hR:∀(fr:AFr)(E:TypeId)(tag:Tag)(t':Nat->Option Tok),fr 0=.ptr b 0->fr 2=.ptr b2 0->fr 3=.ptr b3 0->(vs≠[]->E=9)->(∀c k,t0 c=some k->t' c=some k)->
   R (.exit 0) fr ((((h.set b (parO ts e s')).set b2 Z).set b3 (.cells [.str nm,.lst E (strC vs) tag,v2,v3,v4] E3)).tk t'))
  (s:St)(hq:lowsS ts e n [] s=some (vs,s'))(fr:AFr)(f0:fr 0=.ptr b 0)(f2:fr 2=.ptr b2 0)(f3:fr 3=.ptr b3 0) :
  W T K (.loop l57_1.toC) fr ((((h.set b (parO ts e s)).set b2 Z).set b3 (.cells [.str nm,.lst 0 [] .nil,v2,v3,v4] E3)).tk t0) R:=by
 refine aloop (α:=Nat×List Nm×St) (fun x fr h1=>fr 0=.ptr b 0/\fr 2=.ptr b2 0/\fr 3=.ptr b3 0/\x.2.1.length+x.1<=most/\lowsS ts e x.1 x.2.1 x.2.2=some (vs,s')/\
  ∃E tag t',(x.2.1≠[]->E=9)/\Toks t0 t' [(tag,9,1,0)]/\h1=(((h.set b (parO ts e x.2.2)).set b2 Z).set b3 (.cells [.str nm,.lst E (strC x.2.1) tag,v2,v3,v4] E3)).tk t') (fun x=>x.1) (n,[],s)
  ⟨f0,f2,f3,by simpa using hn,hq,_,.nil,t0,fun h=>absurd rfl h,.one _ _ _,rfl⟩ ?_
 clear hq f0 f2 f3
 rintro⟨m,acc,s2⟩ fr h1 ⟨f0,f2,f3,hB,hq,E,tag,t',hE,hT,rfl⟩
 simp only at hB hq hE
 cases m with
 |zero=>rw[lowsS] at hq;cases hq
 |succ m=>
  rw[lowsS] at hq
  simp only[u_C l57_1.eq_1,rn,pevA,seval,f0,f2,f3,kN,n2,n2.symm,n3,n3.symm,n32,n32.symm]
  refine (kind_ok 1 s2).use (by simp only[kG,kN,n2,n2.symm,n3,n3.symm,n32,n32.symm]<;>rfl) hk ?_
  cases c2:kindS ts 1 s2 with
  |true=>
   rw[c2,if_pos rfl] at hq
   simp only[e_dregion d57_0,u_L s57_0.eq_1,u_T g57_0.eq_1,rn,pevA,seval,f0,f2,f3,kN,n2,n2.symm,n3,n3.symm,n32,n32.symm]
   refine (word_ok hts 1 s2).use (by simp only[kG,kN,n2,n2.symm,n3,n3.symm,n32,n32.symm]<;>rfl) (fun x=>x.elim hk (by simp[n3.symm])) ?_
   simp only[e_dregion d57_0,u_L s57_0.eq_1,u_T g57_0.eq_1,rn,pevA,seval,f0,f2,f3,kN,n2,n2.symm,n3,n3.symm,n32,n32.symm]
   refine WO.append (i:=0) hT rfl rfl rfl trivial (by decide) (by simp) rfl (.inr rfl) (fun _=>?_) ?_ fun tag2 t2 hT2=>?_
   ·simp[capOk,strC_len];unfold most at hB;omega
   ·simp[big_eq,strC_len];unfold most at hB;omega
   rw[strC_app]
   simp only[e_dregion d57_0,u_L s57_0.eq_1,u_T g57_0.eq_1,rn,pevA,seval,f0,f2,f3,kN,n2,n2.symm,n3,n3.symm,n32,n32.symm,hk3]
   exact⟨(m,_,_),Nat.lt_succ_self m,f0,f2,f3,by show (acc++[_]).length+m<=most;simp;omega,hq,9,tag2,t2,fun _=>rfl,hT2,rfl⟩
  |false=>
   rw[c2,if_neg (by decide)] at hq
   cases hq
   simp only[rn,pevA,seval,f0,f2,f3,kN,n2,n2.symm,n3,n3.symm,n32,n32.symm]
   exact hR _ _ _ _ f0 f2 f3 hE hT.le
include hts in
theorem cargs_loop {n:Nat}(hn:n<=most)(K:Nat->Prop)(h:AH)(b b2 b3 b4:Nat)(n2:b2≠b)(n32:b3≠b2)(n3:b3≠b)(n4:b4≠b)(n42:b4≠b2)(n43:b4≠b3)(hk:¬K b)(hk4:¬K b4)(Z D:AO)(E4:TypeId)(t0 t1:Nat->Option Tok)(tag0:Tag)(nm:Nm)(l:List Ty)(s':St)(R:CExit->AQ)
  (hR:∀(fr:AFr)(E:TypeId)(tag:Tag)(t':Nat->Option Tok),fr 0=.ptr b 0->fr 2=.ptr b2 0->fr 3=.ptr b3 0->fr 4=.ptr b4 0->(l≠[]->E=30)->Toks t0 t' [(tag0,88,2,0)]->
   R (.exit 4) fr (((((h.set b (parO ts e s')).set b2 Z).set b3 D).set b4 (.cells [.str nm,.lst E (tysR l) tag] E4)).tk t'))
  (s:St)(hs:s.i<=ts.length)(hq:argsS ts e n [] s=some (l,s'))(fr:AFr)(f0:fr 0=.ptr b 0)(f2:fr 2=.ptr b2 0)(f3:fr 3=.ptr b3 0)(f4:fr 4=.ptr b4 0)(hT:Toks t0 t1 [(tag0,88,2,0)]) :
  W T K (.loop l57_3.toC) fr (((((h.set b (parO ts e s)).set b2 Z).set b3 D).set b4 (.cells [.str nm,.lst 0 [] .nil] E4)).tk t1) R:=by
 refine aloop (α:=Nat×List Ty×St) (fun x fr h1=>fr 0=.ptr b 0/\fr 2=.ptr b2 0/\fr 3=.ptr b3 0/\fr 4=.ptr b4 0/\x.2.2.i<=ts.length/\x.2.1.length+x.1<=most/\argsS ts e x.1 x.2.1 x.2.2=some (l,s')/\
  ∃E tag t',(x.2.1≠[]->E=30)/\Toks t0 t' [(tag,30,3,0),(tag0,88,2,0)]/\h1=((((h.set b (parO ts e x.2.2)).set b2 Z).set b3 D).set b4 (.cells [.str nm,.lst E (tysR x.2.1) tag] E4)).tk t') (fun x=>x.1) (n,[],s)
  ⟨f0,f2,f3,f4,hs,by simpa using hn,hq,_,.nil,t1,fun h=>absurd rfl h,hT.cons 30 3,rfl⟩ ?_
 clear hq f0 f2 f3 f4 hT hs
 rintro⟨m,acc,s2⟩ fr h1 ⟨f0,f2,f3,f4,hi,hB,hq,E,tag,t',hE,hT,rfl⟩
 simp only at hi hB hq hE
 cases m with
 |zero=>rw[argsS] at hq;cases hq
 |succ m=>
  rw[argsS] at hq
  simp only[u_C l57_3.eq_1,rn,pevA,seval,f0,f2,f3,f4,kN,n2,n2.symm,n3,n3.symm,n32,n32.symm,n4,n4.symm,n42,n42.symm,n43,n43.symm]
  refine (argument_ok s2).use (by simp only[kG,kN,n2,n2.symm,n3,n3.symm,n32,n32.symm,n4,n4.symm,n42,n42.symm,n43,n43.symm]<;>rfl) hk ?_
  cases c2:argumentS ts s2 with
  |true=>
   rw[c2,if_pos rfl] at hq
   cases hp:argS ts e m s2 with
   |none=>rw[hp] at hq;cases hq
   |some p=>
    obtain⟨⟨k,nm',tl⟩,s3⟩:=p
    rw[hp] at hq
    obtain⟨hc,hi3⟩:=arg_ok hts (by omega) _ _ _ hi hp
    simp only[e_dregion d57_2,u_L s57_2.eq_1,u_T g57_2.eq_1,rn,pevA,seval,f0,f2,f3,f4,kN,n2,n2.symm,n3,n3.symm,n32,n32.symm,n4,n4.symm,n42,n42.symm,n43,n43.symm]
    refine hc.use (by simp only[kG,kN,n2,n2.symm,n3,n3.symm,n32,n32.symm,n4,n4.symm,n42,n42.symm,n43,n43.symm]<;>rfl) (fun x=>x.elim hk (by simp[n4.symm])) ?_
    simp only[e_dregion d57_2,u_L s57_2.eq_1,u_T g57_2.eq_1,rn,pevA,seval,f0,f2,f3,f4,kN,n2,n2.symm,n3,n3.symm,n32,n32.symm,n4,n4.symm,n42,n42.symm,n43,n43.symm,tyR]
    refine WO.append (i:=0) hT rfl rfl rfl trivial (by decide) (by simp) rfl (.inr rfl) (fun _=>?_) ?_ fun tag2 t2 hT2=>?_
    ·simp[capOk,tysR_len];unfold most at hB;omega
    ·simp[big_eq,tysR_len];unfold most at hB;omega
    have ha:tysR acc++[[AV.int .i64 k,.str nm',.lst 30 (tysR tl) .no]]=tysR (acc++[.mk k nm' tl]):=tysR_app acc (.mk k nm' tl)
    rw[ha]
    simp only[e_dregion d57_2,u_L s57_2.eq_1,u_T g57_2.eq_1,rn,pevA,seval,f0,f2,f3,f4,kN,n2,n2.symm,n3,n3.symm,n32,n32.symm,n4,n4.symm,n42,n42.symm,n43,n43.symm,hk4]
    exact⟨(m,_,s3),Nat.lt_succ_self m,f0,f2,f3,f4,hi3,by show (acc++[_]).length+m<=most;simp;omega,hq,30,tag2,t2,fun _=>rfl,hT2,rfl⟩
  |false=>
   rw[c2,if_neg (by decide)] at hq
   cases hq
   simp only[rn,pevA,seval,f0,f2,f3,f4,kN,n2,n2.symm,n3,n3.symm,n32,n32.symm,n4,n4.symm,n42,n42.symm,n43,n43.symm]
   exact hR _ _ _ _ f0 f2 f3 f4 hE (toks_tail hT)
end
end Go.Proofs.YtinbjdkibmkgbaaGreatDoor.p
namespace Go.Proofs.YtinbjdkibmkgbaaGreatDoor.p
open Go.Proofs Go Go.Cn code
set_option linter.unusedSimpArgs false
set_option linter.unusedVariables false
theorem le_tr {h1 h2 h3:AH}(a:h1.le h2)(b:h2.le h3):h1.le h3:=⟨fun n x hn=>b.1 n x (a.1 n x hn),fun c k hc=>b.2 c k (a.2 c k hc)⟩
theorem cdsR_snoc (l:List Cd)(a:Cd):cdsR l++[cdR a]=cdsR (l++[a]):=by simp[cdsR]
theorem set_out3 {h:AH}{b b2 b3 b4:Nat}{x y z w:AO}(n4:b4≠b)(n42:b4≠b2)(n43:b4≠b3):(((h.set b x).set b2 y).set b3 z).set b4 w=(((h.set b4 w).set b x).set b2 y).set b3 z:=by
 rw[set_comm n43.symm,set_comm n42.symm,set_comm n4.symm]
theorem le_base {h:AH}{b b4:Nat}{w:AO}(n4:b4≠b)(hb4:h.objs b4=none)(o:AO):(h.set b o).le ((h.set b4 w).set b o):=by
 rw[set_comm n4]
 exact le_set (AH.le_refl _) (AH.set_none.2 ⟨n4,hb4⟩)
section
variable {ts:List Tk}{e:Int}(hts:ts.length<=1000000)
include hts in
theorem cons_loop {n:Nat}(hn:n<=most)(K:Nat->Prop)(h:AH)(b b2 b3:Nat)(n2:b2≠b)(n32:b3≠b2)(n3:b3≠b)(hb2:h.objs b2=none)(hb3:h.objs b3=none)(hk:¬K b)(hk2:¬K b2)(hk3:¬K b3)(hK:∀o,KOk K (h.set b o))(Z:AO)(E3:TypeId)(t0:Nat->Option Tok)(nm:Nm)(fv v3 v4:AV)(cs:List Cd)(s':St)(R:CExit->AQ)
  (hR:∀(fr:AFr)(G:AH)(rows:List (List AV))(E:TypeId)(tag:Tag)(t':Nat->Option Tok),fr 0=.ptr b 0->fr 2=.ptr b2 0->fr 3=.ptr b3 0->(∀o,(h.set b o).le (G.set b o))->G.objs b2=none->G.objs b3=none->WkLL rows (cdsR cs)->(rows≠[]->E=88)->(∀c k,t0 c=some k->t' c=some k)->
   R (.exit 2) fr ((((G.set b (parO ts e s')).set b2 Z).set b3 (.cells [.str nm,fv,.lst E rows tag,v3,v4] E3)).tk t'))
  (s:St)(hs:s.i<=ts.length)(hq:consS ts e n [] s=some (cs,s'))(fr:AFr)(f0:fr 0=.ptr b 0)(f2:fr 2=.ptr b2 0)(f3:fr 3=.ptr b3 0) :
  W T K (.loop l57_4.toC) fr ((((h.set b (parO ts e s)).set b2 Z).set b3 (.cells [.str nm,fv,.lst 0 [] .nil,v3,v4] E3)).tk t0) R:=by
 refine aloopD (α:=Nat×List Cd×St) (fun x fr h1=>fr 0=.ptr b 0/\fr 2=.ptr b2 0/\fr 3=.ptr b3 0/\x.2.2.i<=ts.length/\x.2.1.length+x.1<=most/\consS ts e x.1 x.2.1 x.2.2=some (cs,s')/\
  ∃E rows tag t',WkLL rows (cdsR x.2.1)/\(rows≠[]->E=88)/\Toks t0 t' [(tag,88,2,0)]/\h1=(((h.set b (parO ts e x.2.2)).set b2 Z).set b3 (.cells [.str nm,fv,.lst E rows tag,v3,v4] E3)).tk t') (fun x=>x.1) (n,[],s)
  ⟨f0,f2,f3,hs,by simpa using hn,hq,_,[],.nil,t0,trivial,fun h=>absurd rfl h,.one _ _ _,rfl⟩ ?_
 clear hq f0 f2 f3 hs
 rintro⟨m,acc,s0⟩ fr h1 ⟨f0,f2,f3,hi,hB,hq,E,rows,tag,t',hw,hE,hT,rfl⟩
 simp only at hi hB hq hw
 cases m with
 |zero=>rw[consS] at hq;cases hq
 |succ m=>
  rw[consS] at hq
  simp only[u_C l57_4.eq_1,rn,pevA,seval,f0,f2,f3,kN,n2,n2.symm,n3,n3.symm,n32,n32.symm]
  refine (fine_ok s0).use (by simp only[kG,kN,n2,n2.symm,n3,n3.symm,n32,n32.symm]<;>rfl) hk ?_
  cases c1:fineS s0 with
  |false=>
   rw[c1,if_neg (by decide)] at hq
   cases hq
   simp only[rn,pevA,seval,f0,f2,f3,kN,n2,n2.symm,n3,n3.symm,n32,n32.symm]
   exact hR _ h rows E tag t' f0 f2 f3 (fun _=>AH.le_refl _) hb2 hb3 hw hE hT.le
  |true=>
   rw[c1,if_pos rfl] at hq
   cases hl:argsS ts e m [] (wordS ts e 2 s0).2 with
   |none=>rw[hl] at hq;cases hq
   |some q=>
    obtain⟨l,s2⟩:=q
    rw[hl] at hq
    simp only at hq
    have hi1:=wordS_i (e:=e) hi 2
    have hi2:=(args_mv hts (by omega) hl).le hi1
    simp only[rn,pevA,seval,f0,f2,f3,kN,n2,n2.symm,n3,n3.symm,n32,n32.symm]
    refine (word_ok hts 2 s0).use (by simp only[kG,kN,n2,n2.symm,n3,n3.symm,n32,n32.symm]<;>rfl) hk ?_
    simp only[rn,pevA,seval,f0,f2,f3,kN,n2,n2.symm,n3,n3.symm,n32,n32.symm]
    intro b4 hb4 hk4
    obtain⟨n43,n42,n4,hb4⟩:=new4.1 hb4
    simp only[rn,pevA,seval,f0,f2,f3,kN,n2,n2.symm,n3,n3.symm,n32,n32.symm,n4,n4.symm,n42,n42.symm,n43,n43.symm,hk4]
    refine cargs_loop hts (by omega) K h b b2 b3 b4 n2 n32 n3 n4 n42 n43 hk hk4 Z _ 88 t0 t' tag (wordS ts e 2 s0).1 l s2 _ (fun fr2 E2 tag2 t2 g0 g2 g3 g4 hE2 hT2=>?_) _ hi1 hl _ f0 f2 f3 rfl hT
    have hwl:=hw.get.1
    rw[cdsR_len] at hwl
    simp only[rn,pevA,seval,g0,g2,g3,g4,kN,n2,n2.symm,n3,n3.symm,n32,n32.symm,n4,n4.symm,n42,n42.symm,n43,n43.symm]
    refine WO.append (i:=0) hT2 rfl rfl rfl trivial (by decide) (by simp) rfl (.inr rfl) (fun _=>?_) ?_ fun tag3 t3 hT3=>?_
    ·simp[capOk];unfold most at hB;omega
    ·simp[big_eq];unfold most at hB;omega
    have hw2:WkLL (rows++[[AV.str (wordS ts e 2 s0).1,.lst E2 (tysR l) tag2]]) (cdsR (acc++[((wordS ts e 2 s0).1,l)])):=by
     rw[<-cdsR_snoc]
     exact hw.snoc ⟨.refl _,.lstE fun h=>hE2 (tysR_ne h),trivial⟩
    simp only[rn,pevA,seval,g0,g2,g3,g4,kN,n2,n2.symm,n3,n3.symm,n32,n32.symm,n4,n4.symm,n42,n42.symm,n43,n43.symm,hk3]
    refine (is_ok [124] s2).use (by simp only[kG,kN,n2,n2.symm,n3,n3.symm,n32,n32.symm,n4,n4.symm,n42,n42.symm,n43,n43.symm]<;>rfl) hk ?_
    cases c2:isS ts [124] s2 with
    |true=>
     rw[c2,if_pos rfl] at hq
     have hlt:=isS_lt c2
     simp only[rn,pevA,seval,g0,g2,g3,g4,kN,n2,n2.symm,n3,n3.symm,n32,n32.symm,n4,n4.symm,n42,n42.symm,n43,n43.symm,parO,w1 (Nat.lt_of_lt_of_le hlt hts),hk]
     exact⟨(m,_,nextS s2),Nat.lt_succ_self m,(((h.set b (parO ts e (nextS s2))).set b2 Z).set b3 (.cells [.str nm,fv,.lst 88 (rows++[[AV.str (wordS ts e 2 s0).1,.lst E2 (tysR l) tag2]]) tag3,v3,v4] E3)).tk t3,le_new (new4.2 ⟨n43,n42,n4,hb4⟩),fun _=>((hK (parO ts e (nextS s2))).set b2 Z).set b3 _,g0,g2,g3,hlt,by show (acc++[_]).length+m<=most;simp;omega,hq,88,_,tag3,t3,hw2,fun _=>rfl,hT3,rfl⟩
    |false=>
     rw[c2,if_neg (by decide)] at hq
     cases hq
     simp only[rn,pevA,seval,g0,g2,g3,g4,kN,n2,n2.symm,n3,n3.symm,n32,n32.symm,n4,n4.symm,n42,n42.symm,n43,n43.symm]
     rw[set_out3 n4 n42 n43]
     exact hR _ (h.set b4 _) _ 88 tag3 t3 g0 g2 g3 (fun o=>le_base n4 hb4 o) (AH.set_none.2 ⟨n42.symm,hb2⟩) (AH.set_none.2 ⟨n43.symm,hb3⟩) hw2 (fun _=>rfl) hT3.le
end
end Go.Proofs.YtinbjdkibmkgbaaGreatDoor.p
namespace Go.Proofs.YtinbjdkibmkgbaaGreatDoor.p
open Go.Proofs Go Go.Cn code
set_option linter.unusedSimpArgs false
set_option linter.unusedVariables false
theorem le_tkB {a m:AH}{t:Nat->Option Tok}(hl:a.le m)(ht:∀c k,a.toks c=some k->t c=some k):a.le (m.tk t):=⟨hl.1,ht⟩
section
variable {ts:List Tk}{e:Int}(hts:ts.length<=1000000)
include hts in
theorem ders_loop {n:Nat}(K:Nat->Prop)(h:AH)(b b2 b3:Nat)(n2:b2≠b)(n32:b3≠b2)(n3:b3≠b)(hk:¬K b)(hk3:¬K b3)(Z:AO)(E3:TypeId)(t0:Nat->Option Tok)(nm:Nm)(v1 v2 v4:AV)(vs:List Nm)(s':St)(R:CExit->AQ)
  (hR:∀(fr:AFr)(E:TypeId)(tag:Tag)(t':Nat->Option Tok),fr 0=.ptr b 0->fr 2=.ptr b2 0->fr 3=.ptr b3 0->(vs≠[]->E=9)->(∀c k,t0 c=some k->t' c=some k)->
   R (.exit 6) fr ((((h.set b (parO ts e s')).set b2 Z).set b3 (.cells [.str nm,v1,v2,.lst E (strC vs) tag,v4] E3)).tk t'))
  (s:St)(acc0:List Nm)(hn:acc0.length+n<=most)(hq:dersS ts e n acc0 s=some (vs,s'))(fr:AFr)(f0:fr 0=.ptr b 0)(f2:fr 2=.ptr b2 0)(f3:fr 3=.ptr b3 0)(tag1:Tag)(t1:Nat->Option Tok)(hT:Toks t0 t1 [(tag1,9,1,0)]) :
  W T K (.loop l57_7.toC) fr ((((h.set b (parO ts e s)).set b2 Z).set b3 (.cells [.str nm,v1,v2,.lst 9 (strC acc0) tag1,v4] E3)).tk t1) R:=by
 refine aloop (α:=Nat×List Nm×St) (fun x fr h1=>fr 0=.ptr b 0/\fr 2=.ptr b2 0/\fr 3=.ptr b3 0/\x.2.1.length+x.1<=most/\dersS ts e x.1 x.2.1 x.2.2=some (vs,s')/\
  ∃tag t',Toks t0 t' [(tag,9,1,0)]/\h1=(((h.set b (parO ts e x.2.2)).set b2 Z).set b3 (.cells [.str nm,v1,v2,.lst 9 (strC x.2.1) tag,v4] E3)).tk t') (fun x=>x.1) (n,acc0,s)
  ⟨f0,f2,f3,hn,hq,tag1,t1,hT,rfl⟩ ?_
 clear hq f0 f2 f3 hT
 rintro⟨m,acc,s2⟩ fr h1 ⟨f0,f2,f3,hB,hq,tag,t',hT,rfl⟩
 simp only at hB hq
 cases m with
 |zero=>rw[dersS] at hq;cases hq
 |succ m=>
  rw[dersS] at hq
  simp only[u_C l57_7.eq_1,rn,pevA,seval,f0,f2,f3,kN,n2,n2.symm,n3,n3.symm,n32,n32.symm]
  refine (is_ok [44] s2).use (by simp only[kG,kN,n2,n2.symm,n3,n3.symm,n32,n32.symm]<;>rfl) hk ?_
  cases c2:isS ts [44] s2 with
  |true=>
   rw[c2,if_pos rfl] at hq
   have hlt:=isS_lt c2
   simp only[e_dregion d57_6,u_L s57_6.eq_1,u_T g57_6.eq_1,rn,pevA,seval,f0,f2,f3,kN,n2,n2.symm,n3,n3.symm,n32,n32.symm,parO,w1 (Nat.lt_of_lt_of_le hlt hts),hk]
   refine (word_ok hts 2 (nextS s2)).use (by simp only[kG,kN,n2,n2.symm,n3,n3.symm,n32,n32.symm]<;>rfl) (fun x=>x.elim hk (by simp[n3.symm])) ?_
   simp only[e_dregion d57_6,u_L s57_6.eq_1,u_T g57_6.eq_1,rn,pevA,seval,f0,f2,f3,kN,n2,n2.symm,n3,n3.symm,n32,n32.symm]
   refine WO.append (i:=0) hT rfl rfl rfl trivial (by decide) (by simp) rfl (.inr rfl) (fun _=>?_) ?_ fun tag2 t2 hT2=>?_
   ·simp[capOk,strC_len];unfold most at hB;omega
   ·simp[big_eq,strC_len];unfold most at hB;omega
   rw[strC_app]
   simp only[e_dregion d57_6,u_L s57_6.eq_1,u_T g57_6.eq_1,rn,pevA,seval,f0,f2,f3,kN,n2,n2.symm,n3,n3.symm,n32,n32.symm,hk3]
   exact⟨(m,_,_),Nat.lt_succ_self m,f0,f2,f3,by show (acc++[_]).length+m<=most;simp;omega,hq,tag2,t2,hT2,rfl⟩
  |false=>
   rw[c2,if_neg (by decide)] at hq
   cases hq
   simp only[rn,pevA,seval,f0,f2,f3,kN,n2,n2.symm,n3,n3.symm,n32,n32.symm]
   exact hR _ _ _ _ f0 f2 f3 (fun _=>rfl) hT.le
include hts in
theorem data_ok {n:Nat}(hn:n+1<=most)(s s':St)(d:Dt)(hs:s.i<=ts.length)(hr:dataS ts e n s=some (d,s')):PC ts e 57 [] (.agg (dtR d)) s s':=by
 unfold dataS at hr
 have hi1:=wordS_i (e:=e) (takeS_i (e:=e) hs [100,97,116,97]) 2
 generalize hgw:(wordS ts e 2 (takeS ts e [100,97,116,97] s)).1=nm at hr
 generalize hgs:(wordS ts e 2 (takeS ts e [100,97,116,97] s)).2=sw at hr hi1
 have hword:=word_ok (e:=e) hts 2 (takeS ts e [100,97,116,97] s)
 rw[hgw,hgs] at hword
 cases h1:lowsS ts e n [] sw with
 |none=>rw[h1] at hr;cases hr
 |some q=>
  obtain⟨vs,s3⟩:=q
  rw[h1] at hr
  simp only at hr
  have hi3:=takeS_i (e:=e) ((lows_mv _ _ _ _ _ h1).le hi1) [61]
  cases h2:consS ts e n [] (takeS ts e [61] s3) with
  |none=>rw[h2] at hr;cases hr
  |some q=>
   obtain⟨cs,s5⟩:=q
   rw[h2] at hr
   simp only at hr
   have hi5:=(cons_mv hts n (by omega) _ _ _ _ h2).le hi3
   cases h3:derS ts e n s5 with
   |none=>rw[h3] at hr;cases hr
   |some q=>
    obtain⟨ds,s6⟩:=q
    rw[h3] at hr
    cases hr
    refine PC.intro t57 fun K h b hk hK=>?_
    simp only[u_C c57.eq_1,rn,pevA,seval]
    intro b2 hb2 hk2
    obtain⟨n2,hb2⟩:=AH.set_none.1 hb2
    simp only[rn,pevA,seval]
    refine (pos_ok s).use (by simp only[kG,kN,n2,n2.symm]<;>rfl) hk ?_
    simp only[rn,pevA,seval,kN,n2,n2.symm]
    intro b3 hb3 hk3
    obtain⟨n32,n3,hb3⟩:=new3.1 hb3
    simp only[rn,pevA,seval,kN,n2,n2.symm,n3,n3.symm,n32,n32.symm,hk3]
    refine (take_ok hts [100,97,116,97] s).use (by simp only[kG,kN,n2,n2.symm,n3,n3.symm,n32,n32.symm]<;>rfl) hk ?_
    simp only[rn,pevA,seval,kN,n2,n2.symm,n3,n3.symm,n32,n32.symm]
    refine hword.use (by simp only[kG,kN,n2,n2.symm,n3,n3.symm,n32,n32.symm]<;>rfl) hk ?_
    simp only[rn,pevA,seval,kN,n2,n2.symm,n3,n3.symm,n32,n32.symm,hk3]
    refine dvars_loop hts (by omega) K h b b2 b3 n2 n32 n3 hk hk3 _ _ h.toks nm (.lst 0 [] .nil) (.lst 0 [] .nil) (.int .i64 (posS ts e s)) vs s3 _ (fun fr E tag t1 f0 f2 f3 hE ht1=>?_) sw h1 _ rfl rfl rfl
    simp only[rn,pevA,seval,kN,n2,n2.symm,n3,n3.symm,n32,n32.symm,f0,f2,f3]
    refine (take_ok hts [61] s3).use (by simp only[kG,kN,n2,n2.symm,n3,n3.symm,n32,n32.symm]<;>rfl) hk ?_
    simp only[rn,pevA,seval,kN,n2,n2.symm,n3,n3.symm,n32,n32.symm,f0,f2,f3]
    refine cons_loop hts (by omega) K h b b2 b3 n2 n32 n3 hb2 hb3 hk hk2 hk3 hK _ _ t1 nm (.lst E (strC vs) tag) (.lst 0 [] .nil) (.int .i64 (posS ts e s)) cs s5 _ (fun fr G rows E2 tag2 t2 f0 f2 f3 hG hb2 hb3 hw hE2 ht2=>?_) _ hi3 h2 _ f0 f2 f3
    have htt:∀c k,h.toks c=some k->t2 c=some k:=fun c k hc=>ht2 c k (ht1 c k hc)
    simp only[rn,pevA,seval,kN,n2,n2.symm,n3,n3.symm,n32,n32.symm,f0,f2,f3]
    refine (is_ok [100,101,114,105,118,105,110,103] s5).use (by simp only[kG,kN,n2,n2.symm,n3,n3.symm,n32,n32.symm]<;>rfl) hk ?_
    unfold derS at h3
    cases c1:isS ts [100,101,114,105,118,105,110,103] s5 with
    |false=>
     rw[c1,if_neg (by decide)] at h3
     cases h3
     simp only[rn,pevA,seval,kN,n2,n2.symm,n3,n3.symm,n32,n32.symm,f0,f2,f3,hk2]
     exact PC.fin (o:=parO ts e s') (.aggL ⟨.refl _,.lstE fun h=>hE (strC_ne h),hw.rows hE2,.nil _ _ _,.refl _,trivial⟩) (le_tkB (le_tr (hG _) (by repeat (first|exact AH.le_refl _|refine le_set ?_ (AH.set_none.2 ⟨n2,hb2⟩)|refine le_del ?_ (AH.set_none.2 ⟨n2,hb2⟩)|refine le_set ?_ (AH.set_none.2 ⟨n3,hb3⟩)|refine le_del ?_ (AH.set_none.2 ⟨n3,hb3⟩)))) htt) (hK _)
    |true=>
     rw[c1,if_pos rfl] at h3
     have hl1:=isS_lt c1
     simp only[rn,pevA,seval,kN,n2,n2.symm,n3,n3.symm,n32,n32.symm,f0,f2,f3,parO,w1 (Nat.lt_of_lt_of_le hl1 hts),hk]
     refine (is_ok [40] (nextS s5)).use (by simp only[kG,kN,n2,n2.symm,n3,n3.symm,n32,n32.symm]<;>rfl) hk ?_
     cases c2:isS ts [40] (nextS s5) with
     |false=>
      rw[c2,if_neg (by decide)] at h3
      cases h3
      simp only[rn,pevA,seval,kN,n2,n2.symm,n3,n3.symm,n32,n32.symm,f0,f2,f3]
      refine (word_ok hts 2 (nextS s5)).use (by simp only[kG,kN,n2,n2.symm,n3,n3.symm,n32,n32.symm]<;>rfl) hk ?_
      simp only[rn,pevA,seval,kN,n2,n2.symm,n3,n3.symm,n32,n32.symm,f0,f2,f3,hk2,hk3]
      exact PC.fin (o:=parO ts e (wordS ts e 2 (nextS s5)).2) (.aggL ⟨.refl _,.lstE fun h=>hE (strC_ne h),hw.rows hE2,.refl _,.refl _,trivial⟩) (le_tkB (le_tr (hG _) (by repeat (first|exact AH.le_refl _|refine le_set ?_ (AH.set_none.2 ⟨n2,hb2⟩)|refine le_del ?_ (AH.set_none.2 ⟨n2,hb2⟩)|refine le_set ?_ (AH.set_none.2 ⟨n3,hb3⟩)|refine le_del ?_ (AH.set_none.2 ⟨n3,hb3⟩)))) htt) (hK _)
     |true=>
      rw[c2,if_pos rfl] at h3
      have hl2:s5.i+1<ts.length:=isS_lt c2
      simp only[rn,pevA,seval,kN,n2,n2.symm,n3,n3.symm,n32,n32.symm,f0,f2,f3,parO,w1 (Nat.lt_of_lt_of_le hl2 hts),hk,nextS]
      refine (is_ok [41] (nextS (nextS s5))).use (by simp only[kG,kN,n2,n2.symm,n3,n3.symm,n32,n32.symm]<;>rfl) hk ?_
      cases c3:isS ts [41] (nextS (nextS s5)) with
      |true=>
       rw[c3,if_pos rfl] at h3
       cases h3
       have hl3:s5.i+1+1<ts.length:=isS_lt c3
       simp only[rn,pevA,seval,kN,n2,n2.symm,n3,n3.symm,n32,n32.symm,f0,f2,f3,parO,w1 (Nat.lt_of_lt_of_le hl3 hts),hk,hk2,nextS]
       refine PC.fin (o:=parO ts e (nextS (nextS (nextS s5)))) (.aggL ⟨.refl _,.lstE fun h=>hE (strC_ne h),hw.rows hE2,.nil _ _ _,.refl _,trivial⟩) (le_tkB (le_tr (hG _) (by repeat (first|exact AH.le_refl _|refine le_set ?_ (AH.set_none.2 ⟨n2,hb2⟩)|refine le_del ?_ (AH.set_none.2 ⟨n2,hb2⟩)|refine le_set ?_ (AH.set_none.2 ⟨n3,hb3⟩)|refine le_del ?_ (AH.set_none.2 ⟨n3,hb3⟩)))) htt) (hK _)
      |false=>
       rw[c3,if_neg (by decide)] at h3
       cases h4:dersS ts e n [(wordS ts e 2 (nextS (nextS s5))).1] (wordS ts e 2 (nextS (nextS s5))).2 with
       |none=>rw[h4] at h3;cases h3
       |some q=>
        obtain⟨dl,s8⟩:=q
        rw[h4] at h3
        cases h3
        simp only[e_dregion d57_5,u_L s57_5.eq_1,u_T g57_5.eq_1,rn,pevA,seval,kN,n2,n2.symm,n3,n3.symm,n32,n32.symm,f0,f2,f3]
        refine (word_ok hts 2 (nextS (nextS s5))).use (by simp only[kG,kN,n2,n2.symm,n3,n3.symm,n32,n32.symm]<;>rfl) (fun x=>x.elim hk (by simp[n3.symm])) ?_
        simp only[e_dregion d57_5,u_L s57_5.eq_1,u_T g57_5.eq_1,rn,pevA,seval,kN,n2,n2.symm,n3,n3.symm,n32,n32.symm,f0,f2,f3]
        refine WO.append (i:=0) (.one t2 9 1) rfl rfl rfl trivial (by decide) (by simp) rfl (.inr rfl) (fun _=>by simp[capOk]) (by simp[big_eq]) fun tag3 t3 hT3=>?_
        simp only[e_dregion d57_5,u_L s57_5.eq_1,u_T g57_5.eq_1,rn,pevA,seval,kN,n2,n2.symm,n3,n3.symm,n32,n32.symm,f0,f2,f3,hk3]
        refine ders_loop hts K G b b2 b3 n2 n32 n3 hk hk3 _ _ t2 nm (.lst E (strC vs) tag) (.lst E2 rows tag2) (.int .i64 (posS ts e s)) ds s8 _ (fun fr E5 tag5 t5 f0 f2 f3 hE5 ht5=>?_) _ [(wordS ts e 2 (nextS (nextS s5))).1] (by simp;omega) h4 _ (by exact f0) (by exact f2) (by exact f3) tag3 t3 hT3
        have htt5:∀c k,h.toks c=some k->t5 c=some k:=fun c k hc=>ht5 c k (htt c k hc)
        simp only[rn,pevA,seval,kN,n2,n2.symm,n3,n3.symm,n32,n32.symm,f0,f2,f3]
        refine (take_ok hts [41] s8).use (by simp only[kG,kN,n2,n2.symm,n3,n3.symm,n32,n32.symm]<;>rfl) hk ?_
        simp only[rn,pevA,seval,kN,n2,n2.symm,n3,n3.symm,n32,n32.symm,f0,f2,f3,hk2]
        refine PC.fin (o:=parO ts e (takeS ts e [41] s8)) (.aggL ⟨.refl _,.lstE fun h=>hE (strC_ne h),hw.rows hE2,.lstE fun h=>hE5 (strC_ne h),.refl _,trivial⟩) (le_tkB (le_tr (hG _) (by repeat (first|exact AH.le_refl _|refine le_set ?_ (AH.set_none.2 ⟨n2,hb2⟩)|refine le_del ?_ (AH.set_none.2 ⟨n2,hb2⟩)|refine le_set ?_ (AH.set_none.2 ⟨n3,hb3⟩)|refine le_del ?_ (AH.set_none.2 ⟨n3,hb3⟩)))) htt5) (hK _)
end
end Go.Proofs.YtinbjdkibmkgbaaGreatDoor.p
namespace Go.Proofs.YtinbjdkibmkgbaaGreatDoor.p
open Go.Proofs Go Go.Cn code
set_option linter.unusedSimpArgs false
set_option linter.unusedVariables false
section
variable {ts:List Tk}{e:Int}(hts:ts.length<=1000000)
include hts in
theorem plain_ok {n:Nat}(hn:n<=most)(s s':St)(l:List Bi)(hs:s.i<=ts.length)(hr:plainL ts e n [] s=some (l,s')):PC ts e 79 [] (.lst 175 (bisR l) .no) s s':=by
 refine PC.intro t79 fun K h b hk hK=>?_
 simp only[u_C c79.eq_1,rn,pevA,seval]
 refine aloop (α:=Nat×List Bi×St) (fun x fr h1=>fr 0=.ptr b 0/\x.2.2.i<=ts.length/\x.1<=n/\x.2.1.length+x.1<=most/\plainL ts e x.1 x.2.1 x.2.2=some (l,s')/\
  Wk (fr 3) (.lst 175 (bisR x.2.1) .no)/\h1=h.set b (parO ts e x.2.2)) (fun x=>x.1) (n,[],s)
  ⟨rfl,hs,Nat.le_refl _,by simpa using hn,hr,.nil _ _ _,rfl⟩ ?_
 clear hr hs
 rintro⟨m,bs,s0⟩ fr h1 ⟨f0,hi,hm,hB,hr,w3,rfl⟩
 simp only at hi hm hB hr w3
 generalize f3:fr 3=v3 at w3
 cases m with
 |zero=>rw[plainL] at hr;cases hr
 |succ m=>
  rw[plainL] at hr
  have mv:=ex_mv hts (e:=e) m (by omega)
  simp only[u_C l79_1.eq_1,rn,pevA,seval,f0,f3]
  refine (fine_ok s0).use (AH.set_same _ _ _) hk ?_
  cases c1:fineS s0 with
  |false=>
   rw[c1,if_neg (by decide)] at hr
   cases hr
   simp only[rn,pevA,seval,f0,f3]
   exact PC.fin w3 (AH.le_refl _) (hK _)
  |true=>
   rw[c1,if_pos rfl] at hr
   cases hsm:semisS ts m s0 with
   |none=>rw[hsm] at hr;cases hr
   |some s1=>
    rw[hsm] at hr
    simp only at hr
    have hi1:=(semis_mv _ _ _ hsm).1.le hi
    simp only[rn,pevA,seval,f0,f3]
    refine semi_loop hts K h b hk h.toks s1 _ _ (fun fr2 hf=>?_) s0 hsm (by simp only[upd,setA];repeat rw[if_neg (by decide)];exact f0)
    have g0:fr2 0=.ptr b 0:=by rw[hf 0 (by decide)];exact f0
    have g3:fr2 3=v3:=by rw[hf 3 (by decide)];exact f3
    have w3':Wk (fr2 3) (.lst 175 (bisR bs) .no):=by rw[g3];exact w3
    have e1:(h.set b (parO ts e s1)).tk h.toks=h.set b (parO ts e s1):=rfl
    rw[e1]
    simp only[rn,pevA,seval,g0,g3]
    refine (is_ok [125] s1).use (AH.set_same _ _ _) hk ?_
    cases c2:isS ts [125] s1 with
    |true=>
     rw[c2,if_pos rfl] at hr
     cases hr
     simp only[rn,pevA,seval,g0,g3]
     exact PC.fin w3 (AH.le_refl _) (hK _)
    |false=>
     rw[c2,if_neg (by decide)] at hr
     have hin:=named_i (e:=e) hi1
     generalize hns:(namedS ts e s1).2.2=ns at hr hin
     have hnm:=named_ok (e:=e) hts s1
     rw[hns] at hnm
     simp only[rn,pevA,seval,g0,g3,parO]
     refine hnm.use (AH.set_same _ _ _) hk ?_
     simp only[rn,pevA,seval,g0,g3]
     refine (is_ok [58,58] ns).use (AH.set_same _ _ _) hk ?_
     cases c3:isS ts [58,58] ns with
     |true=>
      rw[c3,if_pos rfl,if_neg (by rw[wrong_bad];decide)] at hr
      simp only[rn,pevA,seval,g0,g3]
      refine (wrong_ok ns).use (AH.set_same _ _ _) hk ?_
      simp only[rn,pevA,seval,g0,g3]
      refine (fine_ok _).use (AH.set_same _ _ _) hk ?_
      rw[wrong_bad]
      simp only[rn,pevA,seval,g0,g3]
      refine (ends_ok true _).use (AH.set_same _ _ _) hk ?_
      simp only[rn,pevA,seval,g0,g3]
      exact⟨(m,bs,endsS ts e true (wrongS ts e ns)),Nat.lt_succ_self m,g0,ends_i true (by rw[wrongS_i];exact hin),by show m<=n;omega,by show bs.length+m<=most;omega,hr,w3',rfl⟩
     |false=>
      rw[c3] at hr
      rw[if_neg (by decide:¬(false=true))] at hr
      simp only[rn,pevA,seval,g0,g3]
      refine (fine_ok _).use (AH.set_same _ _ _) hk ?_
      cases c4:fineS ns with
      |false=>
       rw[c4,if_neg (by decide)] at hr
       simp only[rn,pevA,seval,g0,g3]
       refine (ends_ok true _).use (AH.set_same _ _ _) hk ?_
       simp only[rn,pevA,seval,g0,g3]
       exact⟨(m,bs,endsS ts e true ns),Nat.lt_succ_self m,g0,ends_i true hin,by show m<=n;omega,by show bs.length+m<=most;omega,hr,w3',rfl⟩
      |true=>
       rw[c4,if_pos rfl] at hr
       cases hd:defS ts e m [] bs {ns with i:=s1.i} with
       |none=>rw[hd] at hr;cases hr
       |some q=>
        obtain⟨g2,bs2,s2⟩:=q
        rw[hd] at hr
        simp only at hr
        have hl:=def_len hd
        have hi2:=(mv.df _ _ _ _ _ _ hd).m.le hi1
        simp only[rn,pevA,seval,g0,g3,parO,hk]
        refine (def_ok hts (n:=m) (by omega) [] bs {ns with i:=s1.i} g2 bs2 s2 hi1 (by unfold most;simp) (by omega) hd).useW (by exact⟨.nil _ _ _,w3,trivial⟩) (AH.set_same _ _ _) hk ?_
        simp only[rn,pevA,seval,g0,g3]
        refine (ends_ok true s2).use (AH.set_same _ _ _) hk ?_
        simp only[rn,pevA,seval,g0,g3]
        exact⟨(m,bs2,endsS ts e true s2),Nat.lt_succ_self m,g0,ends_i true hi2,by show m<=n;omega,by show bs2.length+m<=most;omega,hr,.refl _,rfl⟩
end
end Go.Proofs.YtinbjdkibmkgbaaGreatDoor.p
namespace Go.Proofs.YtinbjdkibmkgbaaGreatDoor.p
open Go.Proofs Go Go.Cn code
set_option linter.unusedSimpArgs false
set_option linter.unusedVariables false
theorem varsOk_snoc (v:Nm)(pos:Int)(l:List Pd)(p:Pd)(s:St):varsOk v pos (l++[p]) s=if p.2.name=v then varsOk v pos l s else amissS 102 pos (varsOk v pos l s):=by
 unfold varsOk
 rw[List.foldl_append];rfl
section
variable {ts:List Tk}{e:Int}(hts:ts.length<=1000000)
include hts in
theorem semiC_loop {n:Nat}(K:Nat->Prop)(h:AH)(b:Nat)(hk:¬K b)(o:St->AH)(ho:∀s,(o s).objs b=some (parO ts e s))(hs:∀s s',(o s).set b (parO ts e s')=o s')(s':St)(fr0:AFr)(R:CExit->AQ)
  (hR:∀fr:AFr,(∀t,t<58->fr t=fr0 t)->R (.exit 4) fr (o s'))(s:St)(hq:semisS ts n s=some s')(f0:fr0 0=.ptr b 0) :
  W T K (.loop l58_3.toC) fr0 (o s) R:=by
 refine aloop (α:=Nat×St) (fun x fr h1=>(∀t,t<58->fr t=fr0 t)/\semisS ts x.1 x.2=some s'/\h1=o x.2) (fun x=>x.1) (n,s) ⟨fun _ _=>rfl,hq,rfl⟩ ?_
 clear hq
 rintro⟨m,s2⟩ fr h1 ⟨hf,hq,rfl⟩
 simp only at hq
 have g0:fr 0=.ptr b 0:=by rw[hf 0 (by decide),f0]
 cases m with
 |zero=>rw[semisS] at hq;cases hq
 |succ m=>
  rw[semisS] at hq
  simp only[u_C l58_3.eq_1,rn,pevA,seval,g0]
  refine (is_ok [59] s2).use (ho s2) hk ?_
  rw[hs]
  cases c2:isS ts [59] s2 with
  |true=>
   rw[c2,if_pos rfl] at hq
   have hlt:=isS_lt c2
   have ho2:=ho s2
   unfold parO at ho2
   simp only[rn,pevA,seval,g0,ho2,w1 (Nat.lt_of_lt_of_le hlt hts),hk]
   refine⟨(m,nextS s2),Nat.lt_succ_self m,fun t ht=>?_,hq,hs s2 (nextS s2)⟩
   rw[<-hf t ht]
   simp only[upd,setA]
   repeat rw[if_neg (by omega)]
  |false=>
   rw[c2,if_neg (by decide)] at hq
   cases hq
   simp only[rn,pevA,seval,g0]
   refine hR _ fun t ht=>?_
   rw[<-hf t ht]
   simp only[upd,setA]
   repeat rw[if_neg (by omega)]
theorem supers_loop (K:Nat->Prop)(h:AH)(b b2 b3:Nat)(n2:b2≠b)(n32:b3≠b2)(n3:b3≠b)(hk:¬K b)(hk3:¬K b3)(Z:AO)(E3:TypeId)(t0:Nat->Option Tok)(nm v:Nm)(v3 v4 v5:AV)(l:List Pd)(hl:l.length<=1000002)(pos:Int)(s:St)(R:CExit->AQ)
  (hR:∀(fr:AFr)(E:TypeId)(tag:Tag)(t':Nat->Option Tok),fr 0=.ptr b 0->fr 2=.ptr b2 0->fr 3=.ptr b3 0->(l.map (·.1)≠[]->E=9)->(∀c k,t0 c=some k->t' c=some k)->
   R (.exit 0) fr ((((h.set b (parO ts e (varsOk v pos l s))).set b2 Z).set b3 (.cells [.str nm,.str v,.lst E (strC (l.map (·.1))) tag,v3,v4,v5] E3)).tk t'))
  (fr:AFr)(f0:fr 0=.ptr b 0)(f2:fr 2=.ptr b2 0)(f3:fr 3=.ptr b3 0)(f4:fr 4=.lst 156 (pdsR l) .no)(f5:fr 5=.int .i64 pos)(f6:fr 6=.int .i64 0) :
  W T K (.loop l58_2.toC) fr ((((h.set b (parO ts e s)).set b2 Z).set b3 (.cells [.str nm,.str v,.lst 0 [] .nil,v3,v4,v5] E3)).tk t0) R:=by
 refine aloop (α:=Nat) (fun i fr h1=>fr 0=.ptr b 0/\fr 2=.ptr b2 0/\fr 3=.ptr b3 0/\fr 4=.lst 156 (pdsR l) .no/\fr 5=.int .i64 pos/\fr 6=.int .i64 i/\i<=l.length/\
  ∃E tag t',((l.take i).map (·.1)≠[]->E=9)/\Toks t0 t' [(tag,9,1,0)]/\h1=(((h.set b (parO ts e (varsOk v pos (l.take i) s))).set b2 Z).set b3 (.cells [.str nm,.str v,.lst E (strC ((l.take i).map (·.1))) tag,v3,v4,v5] E3)).tk t') (fun i=>l.length-i) 0
  ⟨f0,f2,f3,f4,f5,f6,Nat.zero_le _,0,.nil,t0,fun h=>absurd rfl h,.one _ _ _,rfl⟩ ?_
 clear f0 f2 f3 f4 f5 f6
 rintro i fr h1 ⟨f0,f2,f3,f4,f5,f6,hi,E,tag,t',hE,hT,rfl⟩
 by_cases hlt:i<l.length
 ·have c1:decide ((i:Int)<(l.length:Int))=true:=decide_eq_true (by omega)
  have w:IntKind.i64.wrap ((i:Int)+1)=((i+1:Nat):Int):=by rw[wrap64 ⟨by omega,by omega⟩];rfl
  obtain⟨p,hp⟩ : ∃p,l[i]?=some p:=⟨l[i],by simp[hlt]⟩
  have hv:=varsOk_snoc v pos (l.take i) p s
  rw[<-take_succ hp] at hv
  have hm:(l.take (i+1)).map (·.1)=(l.take i).map (·.1)++[p.1]:=by rw[take_succ hp,List.map_append];rfl
  have hlen:((l.take i).map (·.1)).length=i:=by simp;omega
  obtain⟨pn,⟨pk,pt,pl⟩⟩:=p
  have hv:varsOk v pos (l.take (i+1)) s=if pt=v then varsOk v pos (l.take i) s else amissS 102 pos (varsOk v pos (l.take i) s):=hv
  have hget:(pdsR l)[i]?=some [.str pn,.int .i64 pk,.str pt,.lst 30 (tysR pl) .no]:=by rw[pdsR_get,hp];rfl
  generalize (l.take i).map (·.1)=acc at hE hm hlen ⊢
  by_cases hne:pt=v
  ·have c2:decide (pt=v)=true:=decide_eq_true hne
   rw[if_pos hne] at hv
   simp only[u_C l58_2.eq_1,e_dregion d58_0,u_L s58_0.eq_1,u_T g58_0.eq_1,e_dregion d58_1,u_L s58_1.eq_1,u_T g58_1.eq_1,rn,pevA,seval,f0,f2,f3,f4,f5,f6,kN,n2,n2.symm,n3,n3.symm,n32,n32.symm,pdsR_len,c1,hget,c2]
   refine WO.append (i:=0) hT rfl rfl rfl trivial (by decide) (by simp) rfl (.inr rfl) (fun _=>?_) ?_ fun tag2 t2 hT2=>?_
   ·simp[capOk,strC_len,hlen];omega
   ·simp[big_eq,strC_len,hlen];omega
   rw[strC_app]
   simp only[e_dregion d58_1,u_L s58_1.eq_1,u_T g58_1.eq_1,rn,pevA,seval,f0,f2,f3,f4,f5,f6,kN,n2,n2.symm,n3,n3.symm,n32,n32.symm,hk3,w]
   refine⟨i+1,by show l.length-(i+1)<l.length-i;omega,f0,f2,f3,f4,f5,rfl,hlt,9,tag2,t2,fun _=>rfl,hT2,?_⟩
   rw[hm,hv]
  ·have c2:decide (pt=v)=false:=decide_eq_false hne
   rw[if_neg hne] at hv
   simp only[u_C l58_2.eq_1,e_dregion d58_0,u_L s58_0.eq_1,u_T g58_0.eq_1,e_dregion d58_1,u_L s58_1.eq_1,u_T g58_1.eq_1,rn,pevA,seval,f0,f2,f3,f4,f5,f6,kN,n2,n2.symm,n3,n3.symm,n32,n32.symm,pdsR_len,c1,hget,c2]
   refine (amiss_ok 102 pos (by decide) _).use (by simp only[kG,kN,n2,n2.symm,n3,n3.symm,n32,n32.symm]<;>rfl) hk ?_
   simp only[e_dregion d58_1,u_L s58_1.eq_1,u_T g58_1.eq_1,rn,pevA,seval,f0,f2,f3,f4,f5,f6,kN,n2,n2.symm,n3,n3.symm,n32,n32.symm,pdsR_len,hget]
   refine WO.append (i:=0) hT rfl rfl rfl trivial (by decide) (by simp) rfl (.inr rfl) (fun _=>?_) ?_ fun tag2 t2 hT2=>?_
   ·simp[capOk,strC_len,hlen];omega
   ·simp[big_eq,strC_len,hlen];omega
   rw[strC_app]
   simp only[e_dregion d58_1,u_L s58_1.eq_1,u_T g58_1.eq_1,rn,pevA,seval,f0,f2,f3,f4,f5,f6,kN,n2,n2.symm,n3,n3.symm,n32,n32.symm,hk3,w]
   refine⟨i+1,by show l.length-(i+1)<l.length-i;omega,f0,f2,f3,f4,f5,rfl,hlt,9,tag2,t2,fun _=>rfl,hT2,?_⟩
   rw[hm,hv]
 ·have hie:i=l.length:=by omega
  subst hie
  have c1:decide ((l.length:Int)<(l.length:Int))=false:=by simp
  simp only[u_C l58_2.eq_1,rn,pevA,seval,f0,f2,f3,f4,f5,f6,kN,n2,n2.symm,n3,n3.symm,n32,n32.symm,pdsR_len,c1]
  rw[List.take_length] at hE ⊢
  exact hR _ E tag t' f0 f2 f3 hE hT.le
end
end Go.Proofs.YtinbjdkibmkgbaaGreatDoor.p
namespace Go.Proofs.YtinbjdkibmkgbaaGreatDoor.p
open Go.Proofs Go Go.Cn code
set_option linter.unusedSimpArgs false
set_option linter.unusedVariables false
theorem mdsR_snoc (l:List Md)(a:Md):mdsR l++[mdR a]=mdsR (l++[a]):=by simp[mdsR]
theorem bisR_app (l m:List Bi):bisR l++bisR m=bisR (l++m):=by simp[bisR_eq]
theorem bisR_ne {l:List Bi}(h:bisR l≠[]):l≠[]:=by rintro rfl;exact h (by rw[bisR_eq];rfl)
theorem mdsR_ne {l:List Md}(h:mdsR l≠[]):l≠[]:=by rintro rfl;exact h rfl
section
variable {ts:List Tk}{e:Int}(hts:ts.length<=1000000)
def clsM (ts:List Tk)(e:Int)(h:AH)(b b2 b3:Nat)(Z:AO)(E3:TypeId)(c0 c1 c2 c5:AV)(t':Nat->Option Tok)(E1 E2:TypeId)(tM tD:Tag)(ms:List Md)(ds:List Bi)(s:St):AH:=
 (((h.set b (parO ts e s)).set b2 Z).set b3 (.cells [c0,c1,c2,.lst E1 (mdsR ms) tM,.lst E2 (bisR ds) tD,c5] E3)).tk t'
include hts in
theorem body_loop {n:Nat}(hn:n<=most)(K:Nat->Prop)(h:AH)(b b2 b3:Nat)(n2:b2≠b)(n32:b3≠b2)(n3:b3≠b)(hk:¬K b)(hk3:¬K b3)(Z:AO)(E3:TypeId)(t0:Nat->Option Tok)(c0 c1 c2 c5:AV)(ms:List Md)(ds:List Bi)(s':St)(R:CExit->AQ)
  (hR:∀(fr:AFr)(E1 E2:TypeId)(tM tD:Tag)(t':Nat->Option Tok),fr 0=.ptr b 0->fr 2=.ptr b2 0->fr 3=.ptr b3 0->(ms≠[]->E1=163)->(ds≠[]->E2=175)->(∀c k,t0 c=some k->t' c=some k)->
   R (.exit 2) fr (clsM ts e h b b2 b3 Z E3 c0 c1 c2 c5 t' E1 E2 tM tD ms ds s'))
  (s:St)(hs:s.i<=ts.length)(hq:bodyL ts e n [] [] s=some (ms,ds,s'))(fr:AFr)(f0:fr 0=.ptr b 0)(f2:fr 2=.ptr b2 0)(f3:fr 3=.ptr b3 0) :
  W T K (.loop l58_5.toC) fr ((((h.set b (parO ts e s)).set b2 Z).set b3 (.cells [c0,c1,c2,.lst 0 [] .nil,.lst 0 [] .nil,c5] E3)).tk t0) R:=by
 refine aloop (α:=Nat×List Md×List Bi×St) (fun x fr h1=>fr 0=.ptr b 0/\fr 2=.ptr b2 0/\fr 3=.ptr b3 0/\x.2.2.2.i<=ts.length/\x.1<=n/\x.2.1.length+x.1<=most/\x.2.2.1.length+x.1<=most/\bodyL ts e x.1 x.2.1 x.2.2.1 x.2.2.2=some (ms,ds,s')/\
  ∃E1 E2 tM tD t',(x.2.1≠[]->E1=163)/\(x.2.2.1≠[]->E2=175)/\Toks t0 t' [(tM,163,4,0),(tD,175,15,0)]/\h1=clsM ts e h b b2 b3 Z E3 c0 c1 c2 c5 t' E1 E2 tM tD x.2.1 x.2.2.1 x.2.2.2) (fun x=>x.1) (n,[],[],s)
  ⟨f0,f2,f3,hs,Nat.le_refl _,by simpa using hn,by simpa using hn,hq,0,0,.nil,.nil,t0,fun h=>absurd rfl h,fun h=>absurd rfl h,.cons (.one _ _ _) _ _,rfl⟩ ?_
 clear hq f0 f2 f3 hs
 rintro⟨m,am,ad,s0⟩ fr h1 ⟨f0,f2,f3,hi,hm,hB1,hB2,hq,E1,E2,tM,tD,t',hE1,hE2,hT,rfl⟩
 simp only at hi hm hB1 hB2 hq hE1 hE2
 have hob:∀s:St,(clsM ts e h b b2 b3 Z E3 c0 c1 c2 c5 t' E1 E2 tM tD am ad s).objs b=some (parO ts e s):=fun s=>by unfold clsM;simp only[tk_objs,AH.set_same,ne_eq,not_false_eq_true,kN,n2,n2.symm,n3,n3.symm,n32,n32.symm]
 have hset:∀s s':St,(clsM ts e h b b2 b3 Z E3 c0 c1 c2 c5 t' E1 E2 tM tD am ad s).set b (parO ts e s')=clsM ts e h b b2 b3 Z E3 c0 c1 c2 c5 t' E1 E2 tM tD am ad s':=fun s s'=>by unfold clsM;simp only[rn,pevA,seval,kN,n2,n2.symm,n3,n3.symm,n32,n32.symm]
 cases m with
 |zero=>rw[bodyL] at hq;cases hq
 |succ m=>
  rw[bodyL] at hq
  have mv:=ex_mv hts (e:=e) m (by omega)
  simp only[u_C l58_5.eq_1,rn,pevA,seval,f0,f2,f3]
  refine (fine_ok s0).use (hob s0) hk ?_
  rw[hset]
  cases c1':fineS s0 with
  |false=>
   rw[c1',if_neg (by decide)] at hq
   cases hq
   simp only[rn,pevA,seval,f0,f2,f3]
   exact hR _ E1 E2 tM tD t' f0 f2 f3 hE1 hE2 hT.le
  |true=>
   rw[c1',if_pos rfl] at hq
   cases hsm:semisS ts m s0 with
   |none=>rw[hsm] at hq;cases hq
   |some s1=>
    rw[hsm] at hq
    simp only at hq
    have hi1:=(semis_mv _ _ _ hsm).1.le hi
    simp only[rn,pevA,seval,f0,f2,f3]
    refine semiC_loop hts K h b hk (fun s=>clsM ts e h b b2 b3 Z E3 c0 c1 c2 c5 t' E1 E2 tM tD am ad s) hob hset s1 _ _ (fun fr2 hf=>?_) s0 hsm (by simp only[upd,setA];repeat rw[if_neg (by decide)];exact f0)
    have g0:fr2 0=.ptr b 0:=by rw[hf 0 (by decide)];exact f0
    have g2:fr2 2=.ptr b2 0:=by rw[hf 2 (by decide)];exact f2
    have g3:fr2 3=.ptr b3 0:=by rw[hf 3 (by decide)];exact f3
    simp only[rn,pevA,seval,g0,g2,g3]
    refine (is_ok [125] s1).use (hob s1) hk ?_
    rw[hset]
    cases c2':isS ts [125] s1 with
    |true=>
     rw[c2',if_pos rfl] at hq
     cases hq
     simp only[rn,pevA,seval,g0,g2,g3]
     exact hR _ E1 E2 tM tD t' g0 g2 g3 hE1 hE2 hT.le
    |false=>
     rw[c2',if_neg (by decide)] at hq
     cases hd:defS ts e m [] [] s1 with
     |none=>rw[hd] at hq;cases hq
     |some q=>
      obtain⟨gl,bs,s2⟩:=q
      rw[hd] at hq
      have hl:=def_len hd
      have hi2:=(mv.df _ _ _ _ _ _ hd).m.le hi1
      simp only[rn,pevA,seval,g0,g2,g3]
      refine (def_ok hts (n:=m) (by omega) [] [] s1 gl bs s2 hi1 (by unfold most;simp) (by unfold most;simp) hd).useW (by exact⟨.nil _ _ _,.nil _ _ _,trivial⟩) (hob s1) hk ?_
      rw[hset]
      cases gl with
      |nil=>
       simp only at hq
       have z1:sgsR []=[]:=rfl
       have z2:decide ((0:Int)<((0:Nat):Int))=false:=by decide
       simp only[clsM,rn,pevA,seval,g0,g2,g3,kN,n2,n2.symm,n3,n3.symm,n32,n32.symm,z1,z2]
       refine WO.append (i:=1) hT rfl rfl rfl trivial (by decide) (bisR_each bs) (bisR_one bs) (.inr rfl) (fun _=>?_) ?_ fun tag2 t2 hT2=>?_
       ·have:=hl.2;simp at this;simp[capOk,bisR_len];unfold most at hB2;omega
       ·have:=hl.2;simp at this;simp[big_eq,bisR_len];unfold most at hB2;omega
       rw[bisR_app]
       simp only[rn,pevA,seval,g0,g2,g3,kN,n2,n2.symm,n3,n3.symm,n32,n32.symm,hk3]
       refine (ends_ok true s2).use (by simp only[kG,kN,n2,n2.symm,n3,n3.symm,n32,n32.symm]<;>rfl) hk ?_
       simp only[rn,pevA,seval,g0,g2,g3,kN,n2,n2.symm,n3,n3.symm,n32,n32.symm]
       exact⟨(m,am,ad++bs,endsS ts e true s2),Nat.lt_succ_self m,g0,g2,g3,ends_i true hi2,by show m<=n;omega,by show am.length+m<=most;omega,by show (ad++bs).length+m<=most;simp at hl ⊢;omega,hq,E1,175,tM,tag2,t2,hE1,fun _=>rfl,by rw[Nat.zero_sub] at hT2;exact hT2,rfl⟩
      |cons g gr=>
       simp only at hq
       obtain⟨gn,gp,⟨gv,gc,⟨gk,gm,gl⟩⟩⟩:=g
       have z2:decide ((0:Int)<((gr.length+1:Nat):Int))=true:=decide_eq_true (by omega)
       have hget:(sgsR (⟨gn,gp,⟨gv,gc,.mk gk gm gl⟩⟩::gr))[0]?=some [.str gn,.int .i64 gp,.lst 9 (strC gv) .no,.lst 156 (pdsR gc) .no,.int .i64 gk,.str gm,.lst 30 (tysR gl) .no]:=rfl
       have hrow:mdsR am++[[.str gn,.int .i64 gk,.str gm,.lst 30 (tysR gl) .no]]=mdsR (am++[(gn,.mk gk gm gl)]):=mdsR_snoc am (gn,.mk gk gm gl)
       by_cases hc:0<gc.length
       ·have z3:decide ((0:Int)<((gc.length:Nat):Int))=true:=decide_eq_true (by omega)
        rw[if_pos hc] at hq
        simp only[clsM,e_dregion d58_4,u_L s58_4.eq_1,u_T g58_4.eq_1,rn,pevA,seval,g0,g2,g3,kN,n2,n2.symm,n3,n3.symm,n32,n32.symm,sgsR_len,pdsR_len,hget,z2,z3]
        refine (amiss_ok 102 gp (by decide) s2).use (by simp only[kG,kN,n2,n2.symm,n3,n3.symm,n32,n32.symm]<;>rfl) hk ?_
        simp only[e_dregion d58_4,u_L s58_4.eq_1,u_T g58_4.eq_1,rn,pevA,seval,g0,g2,g3,kN,n2,n2.symm,n3,n3.symm,n32,n32.symm,hget]
        refine WO.append (i:=0) hT rfl rfl rfl trivial (by decide) (by simp) rfl (.inr rfl) (fun _=>?_) ?_ fun tag2 t2 hT2=>?_
        ·simp[capOk,mdsR_len];unfold most at hB1;omega
        ·simp[big_eq,mdsR_len];unfold most at hB1;omega
        rw[hrow]
        simp only[e_dregion d58_4,u_L s58_4.eq_1,u_T g58_4.eq_1,rn,pevA,seval,g0,g2,g3,kN,n2,n2.symm,n3,n3.symm,n32,n32.symm,hk3]
        refine WO.append (i:=1) hT2 rfl rfl rfl trivial (by decide) (bisR_each bs) (bisR_one bs) (.inr rfl) (fun _=>?_) ?_ fun tag3 t3 hT3=>?_
        ·have:=hl.2;simp at this;simp[capOk,bisR_len];unfold most at hB2;omega
        ·have:=hl.2;simp at this;simp[big_eq,bisR_len];unfold most at hB2;omega
        rw[bisR_app]
        simp only[rn,pevA,seval,g0,g2,g3,kN,n2,n2.symm,n3,n3.symm,n32,n32.symm,hk3]
        refine (ends_ok true _).use (by simp only[kG,kN,n2,n2.symm,n3,n3.symm,n32,n32.symm]<;>rfl) hk ?_
        simp only[rn,pevA,seval,g0,g2,g3,kN,n2,n2.symm,n3,n3.symm,n32,n32.symm]
        exact⟨(m,am++[(gn,.mk gk gm gl)],ad++bs,endsS ts e true (amissS 102 gp s2)),Nat.lt_succ_self m,g0,g2,g3,ends_i true (by first|exact hi2|(rw[amissS_i];exact hi2)),by show m<=n;omega,by show (am++[_]).length+m<=most;simp at hl ⊢;omega,by show (ad++bs).length+m<=most;simp at hl ⊢;omega,hq,163,175,tag2,tag3,t3,fun _=>rfl,fun _=>rfl,by simp only[Nat.zero_sub] at hT3;exact hT3,rfl⟩
       ·have z3:decide ((0:Int)<((gc.length:Nat):Int))=false:=decide_eq_false (by omega)
        rw[if_neg hc] at hq
        simp only[clsM,e_dregion d58_4,u_L s58_4.eq_1,u_T g58_4.eq_1,rn,pevA,seval,g0,g2,g3,kN,n2,n2.symm,n3,n3.symm,n32,n32.symm,sgsR_len,pdsR_len,hget,z2,z3]
        refine WO.append (i:=0) hT rfl rfl rfl trivial (by decide) (by simp) rfl (.inr rfl) (fun _=>?_) ?_ fun tag2 t2 hT2=>?_
        ·simp[capOk,mdsR_len];unfold most at hB1;omega
        ·simp[big_eq,mdsR_len];unfold most at hB1;omega
        rw[hrow]
        simp only[e_dregion d58_4,u_L s58_4.eq_1,u_T g58_4.eq_1,rn,pevA,seval,g0,g2,g3,kN,n2,n2.symm,n3,n3.symm,n32,n32.symm,hk3]
        refine WO.append (i:=1) hT2 rfl rfl rfl trivial (by decide) (bisR_each bs) (bisR_one bs) (.inr rfl) (fun _=>?_) ?_ fun tag3 t3 hT3=>?_
        ·have:=hl.2;simp at this;simp[capOk,bisR_len];unfold most at hB2;omega
        ·have:=hl.2;simp at this;simp[big_eq,bisR_len];unfold most at hB2;omega
        rw[bisR_app]
        simp only[rn,pevA,seval,g0,g2,g3,kN,n2,n2.symm,n3,n3.symm,n32,n32.symm,hk3]
        refine (ends_ok true _).use (by simp only[kG,kN,n2,n2.symm,n3,n3.symm,n32,n32.symm]<;>rfl) hk ?_
        simp only[rn,pevA,seval,g0,g2,g3,kN,n2,n2.symm,n3,n3.symm,n32,n32.symm]
        exact⟨(m,am++[(gn,.mk gk gm gl)],ad++bs,endsS ts e true s2),Nat.lt_succ_self m,g0,g2,g3,ends_i true (by first|exact hi2|(rw[amissS_i];exact hi2)),by show m<=n;omega,by show (am++[_]).length+m<=most;simp at hl ⊢;omega,by show (ad++bs).length+m<=most;simp at hl ⊢;omega,hq,163,175,tag2,tag3,t3,fun _=>rfl,fun _=>rfl,by simp only[Nat.zero_sub] at hT3;exact hT3,rfl⟩
end
end Go.Proofs.YtinbjdkibmkgbaaGreatDoor.p
namespace Go.Proofs.YtinbjdkibmkgbaaGreatDoor.p
open Go.Proofs Go Go.Cn code
set_option linter.unusedSimpArgs false
set_option linter.unusedVariables false
section
variable {ts:List Tk}{e:Int}(hts:ts.length<=1000000)
include hts in
theorem class_ok {n:Nat}(hn:n+1<=most)(s s':St)(c:Cs)(hs:s.i<=ts.length)(hr:classS ts e n s=some (c,s')):PC ts e 58 [] (.agg (csR c)) s s':=by
 unfold classS at hr
 have hi1:=takeS_i (e:=e) hs [99,108,97,115,115]
 cases h1:predsS ts e true n (takeS ts e [99,108,97,115,115] s) with
 |none=>rw[h1] at hr;cases hr
 |some q=>
  obtain⟨l,s2⟩:=q
  rw[h1] at hr
  simp only at hr
  obtain⟨hpreds,hi2⟩:=preds_ok hts hn true _ _ _ hi1 h1
  have hll:l.length<=1000002:=by
   have g:=preds_prog h1
   have:=g.i;have:=g.b;have:=cntP_len l;omega
  have hw1:=word_ok (e:=e) hts 2 s2
  have hi3:=wordS_i (e:=e) hi2 2
  generalize (wordS ts e 2 s2).1=nm at hr hw1
  generalize (wordS ts e 2 s2).2=s3 at hr hw1 hi3
  have hw2:=word_ok (e:=e) hts 1 s3
  have hi4:=wordS_i (e:=e) hi3 1
  generalize (wordS ts e 1 s3).1=vn at hr hw2
  generalize (wordS ts e 1 s3).2=s4 at hr hw2 hi4
  have hi5:=(varsOk_mv (ts:=ts) vn (posS ts e s3) l s4).le hi4
  cases h2:bodyL ts e n [] [] (takeS ts e [123] (takeS ts e [119,104,101,114,101] (varsOk vn (posS ts e s3) l s4))) with
  |none=>rw[h2] at hr;cases hr
  |some q=>
   obtain⟨ms,ds,s7⟩:=q
   rw[h2] at hr
   cases hr
   refine PC.intro t58 fun K h b hk hK=>?_
   simp only[u_C c58.eq_1,rn,pevA,seval]
   intro b2 hb2 hk2
   obtain⟨n2,hb2⟩:=AH.set_none.1 hb2
   simp only[rn,pevA,seval]
   refine (pos_ok s).use (by simp only[kG,kN,n2,n2.symm]<;>rfl) hk ?_
   simp only[rn,pevA,seval,kN,n2,n2.symm]
   intro b3 hb3 hk3
   obtain⟨n32,n3,hb3⟩:=new3.1 hb3
   simp only[rn,pevA,seval,kN,n2,n2.symm,n3,n3.symm,n32,n32.symm,hk3]
   refine (take_ok hts [99,108,97,115,115] s).use (by simp only[kG,kN,n2,n2.symm,n3,n3.symm,n32,n32.symm]<;>rfl) hk ?_
   simp only[rn,pevA,seval,kN,n2,n2.symm,n3,n3.symm,n32,n32.symm]
   refine hpreds.use (by simp only[kG,kN,n2,n2.symm,n3,n3.symm,n32,n32.symm]<;>rfl) hk ?_
   simp only[rn,pevA,seval,kN,n2,n2.symm,n3,n3.symm,n32,n32.symm]
   refine hw1.use (by simp only[kG,kN,n2,n2.symm,n3,n3.symm,n32,n32.symm]<;>rfl) hk ?_
   simp only[rn,pevA,seval,kN,n2,n2.symm,n3,n3.symm,n32,n32.symm,hk3]
   refine (pos_ok s3).use (by simp only[kG,kN,n2,n2.symm,n3,n3.symm,n32,n32.symm]<;>rfl) hk ?_
   simp only[rn,pevA,seval,kN,n2,n2.symm,n3,n3.symm,n32,n32.symm]
   refine hw2.use (by simp only[kG,kN,n2,n2.symm,n3,n3.symm,n32,n32.symm]<;>rfl) hk ?_
   simp only[rn,pevA,seval,kN,n2,n2.symm,n3,n3.symm,n32,n32.symm,hk3]
   refine supers_loop K h b b2 b3 n2 n32 n3 hk hk3 _ _ h.toks nm vn (.lst 0 [] .nil) (.lst 0 [] .nil) (.int .i64 (posS ts e s)) l hll (posS ts e s3) s4 _ (fun fr E tag t1 f0 f2 f3 hE ht1=>?_) _ rfl rfl rfl rfl rfl rfl
   simp only[rn,pevA,seval,kN,n2,n2.symm,n3,n3.symm,n32,n32.symm,f0,f2,f3]
   refine (take_ok hts [119,104,101,114,101] _).use (by simp only[kG,kN,n2,n2.symm,n3,n3.symm,n32,n32.symm]<;>rfl) hk ?_
   simp only[rn,pevA,seval,kN,n2,n2.symm,n3,n3.symm,n32,n32.symm,f0,f2,f3]
   refine (take_ok hts [123] _).use (by simp only[kG,kN,n2,n2.symm,n3,n3.symm,n32,n32.symm]<;>rfl) hk ?_
   simp only[rn,pevA,seval,kN,n2,n2.symm,n3,n3.symm,n32,n32.symm,f0,f2,f3]
   refine body_loop hts (by omega) K h b b2 b3 n2 n32 n3 hk hk3 _ _ t1 (.str nm) (.str vn) (.lst E (strC (l.map (·.1))) tag) (.int .i64 (posS ts e s)) ms ds s7 _ (fun fr E1 E2 tM tD t2 f0 f2 f3 hE1 hE2 ht2=>?hR) _ (takeS_i (takeS_i hi5 _) _) h2 _ ?a0 ?a2 ?a3
   case a0=>exact f0
   case a2=>exact f2
   case a3=>exact f3
   have htt:∀c k,h.toks c=some k->t2 c=some k:=fun c k hc=>ht2 c k (ht1 c k hc)
   simp only[clsM,rn,pevA,seval,kN,n2,n2.symm,n3,n3.symm,n32,n32.symm,f0,f2,f3]
   refine (take_ok hts [125] s7).use (by simp only[kG,kN,n2,n2.symm,n3,n3.symm,n32,n32.symm]<;>rfl) hk ?_
   simp only[rn,pevA,seval,kN,n2,n2.symm,n3,n3.symm,n32,n32.symm,f0,f2,f3,hk2]
   exact PC.fin (o:=parO ts e (takeS ts e [125] s7)) (.aggL ⟨.refl _,.refl _,.lstE fun h=>hE (strC_ne h),.lstE fun h=>hE1 (mdsR_ne h),.lstE fun h=>hE2 (bisR_ne h),.refl _,trivial⟩) (le_tkB (by repeat (first|exact AH.le_refl _|refine le_set ?_ (AH.set_none.2 ⟨n2,hb2⟩)|refine le_del ?_ (AH.set_none.2 ⟨n2,hb2⟩)|refine le_set ?_ (AH.set_none.2 ⟨n3,hb3⟩)|refine le_del ?_ (AH.set_none.2 ⟨n3,hb3⟩))) htt) (hK _)
end
end Go.Proofs.YtinbjdkibmkgbaaGreatDoor.p
namespace Go.Proofs.YtinbjdkibmkgbaaGreatDoor.p
open Go.Proofs Go Go.Cn code
set_option linter.unusedSimpArgs false
set_option linter.unusedVariables false
section
variable {ts:List Tk}{e:Int}(hts:ts.length<=1000000)
include hts in
theorem ivars_loop {n:Nat}(hn:n<=most)(K:Nat->Prop)(h:AH)(b b2 b3:Nat)(n2:b2≠b)(n32:b3≠b2)(n3:b3≠b)(hk:¬K b)(hk3:¬K b3)(Z:AO)(E3:TypeId)(t0:Nat->Option Tok)(w0 w1 v2 v3 v4:AV)(vs:List Nm)(s':St)(R:CExit->AQ)
  (hR:∀(fr:AFr)(E:TypeId)(tag:Tag)(t':Nat->Option Tok),fr 0=.ptr b 0->fr 2=.ptr b2 0->fr 3=.ptr b3 0->(vs≠[]->E=9)->(∀c k,t0 c=some k->t' c=some k)->
   R (.exit 0) fr ((((h.set b (parO ts e s')).set b2 Z).set b3 (.cells [w0,w1,.lst E (strC vs) tag,v2,v3,v4] E3)).tk t'))
  (s:St)(hq:lowsS ts e n [] s=some (vs,s'))(fr:AFr)(f0:fr 0=.ptr b 0)(f2:fr 2=.ptr b2 0)(f3:fr 3=.ptr b3 0) :
  W T K (.loop l59_1.toC) fr ((((h.set b (parO ts e s)).set b2 Z).set b3 (.cells [w0,w1,.lst 0 [] .nil,v2,v3,v4] E3)).tk t0) R:=by
 refine aloop (α:=Nat×List Nm×St) (fun x fr h1=>fr 0=.ptr b 0/\fr 2=.ptr b2 0/\fr 3=.ptr b3 0/\x.2.1.length+x.1<=most/\lowsS ts e x.1 x.2.1 x.2.2=some (vs,s')/\
  ∃E tag t',(x.2.1≠[]->E=9)/\Toks t0 t' [(tag,9,1,0)]/\h1=(((h.set b (parO ts e x.2.2)).set b2 Z).set b3 (.cells [w0,w1,.lst E (strC x.2.1) tag,v2,v3,v4] E3)).tk t') (fun x=>x.1) (n,[],s)
  ⟨f0,f2,f3,by simpa using hn,hq,_,.nil,t0,fun h=>absurd rfl h,.one _ _ _,rfl⟩ ?_
 clear hq f0 f2 f3
 rintro⟨m,acc,s2⟩ fr h1 ⟨f0,f2,f3,hB,hq,E,tag,t',hE,hT,rfl⟩
 simp only at hB hq hE
 cases m with
 |zero=>rw[lowsS] at hq;cases hq
 |succ m=>
  rw[lowsS] at hq
  simp only[u_C l59_1.eq_1,rn,pevA,seval,f0,f2,f3,kN,n2,n2.symm,n3,n3.symm,n32,n32.symm]
  refine (kind_ok 1 s2).use (by simp only[kG,kN,n2,n2.symm,n3,n3.symm,n32,n32.symm]<;>rfl) hk ?_
  cases c2:kindS ts 1 s2 with
  |true=>
   rw[c2,if_pos rfl] at hq
   simp only[e_dregion d59_0,u_L s59_0.eq_1,u_T g59_0.eq_1,rn,pevA,seval,f0,f2,f3,kN,n2,n2.symm,n3,n3.symm,n32,n32.symm]
   refine (word_ok hts 1 s2).use (by simp only[kG,kN,n2,n2.symm,n3,n3.symm,n32,n32.symm]<;>rfl) (fun x=>x.elim hk (by simp[n3.symm])) ?_
   simp only[e_dregion d59_0,u_L s59_0.eq_1,u_T g59_0.eq_1,rn,pevA,seval,f0,f2,f3,kN,n2,n2.symm,n3,n3.symm,n32,n32.symm]
   refine WO.append (i:=0) hT rfl rfl rfl trivial (by decide) (by simp) rfl (.inr rfl) (fun _=>?_) ?_ fun tag2 t2 hT2=>?_
   ·simp[capOk,strC_len];unfold most at hB;omega
   ·simp[big_eq,strC_len];unfold most at hB;omega
   rw[strC_app]
   simp only[e_dregion d59_0,u_L s59_0.eq_1,u_T g59_0.eq_1,rn,pevA,seval,f0,f2,f3,kN,n2,n2.symm,n3,n3.symm,n32,n32.symm,hk3]
   exact⟨(m,_,_),Nat.lt_succ_self m,f0,f2,f3,by show (acc++[_]).length+m<=most;simp;omega,hq,9,tag2,t2,fun _=>rfl,hT2,rfl⟩
  |false=>
   rw[c2,if_neg (by decide)] at hq
   cases hq
   simp only[rn,pevA,seval,f0,f2,f3,kN,n2,n2.symm,n3,n3.symm,n32,n32.symm]
   exact hR _ _ _ _ f0 f2 f3 hE hT.le
theorem head_i {n:Nat}{s s':St}{con:Nm}{vs:List Nm}(hs:s.i<=ts.length)(h:headS ts e n s=some (con,vs,s')):s'.i<=ts.length:=by
 unfold headS at h
 split at h
 ·rename_i c
  split at h
  ·rename_i vs s2 h1
   cases h
   exact takeS_i ((lows_mv _ _ _ _ _ h1).le (wordS_i (show (nextS s).i<=_ from isS_lt c) 2)) _
  ·cases h
 ·cases h
  exact wordS_i hs 2
include hts in
theorem inst_ok {n:Nat}(hn:n+1<=most)(s s':St)(x:In)(hs:s.i<=ts.length)(hr:instS ts e n s=some (x,s')):PC ts e 59 [] (.agg (inR x)) s s':=by
 unfold instS at hr
 have hi1:=takeS_i (e:=e) hs [105,110,115,116,97,110,99,101]
 cases h1:predsS ts e true n (takeS ts e [105,110,115,116,97,110,99,101] s) with
 |none=>rw[h1] at hr;cases hr
 |some q=>
  obtain⟨l,s2⟩:=q
  rw[h1] at hr
  simp only at hr
  obtain⟨hpreds,hi2⟩:=preds_ok hts hn true _ _ _ hi1 h1
  have hw1:=word_ok (e:=e) hts 2 s2
  have hi3:=wordS_i (e:=e) hi2 2
  generalize (wordS ts e 2 s2).1=nm at hr hw1
  generalize (wordS ts e 2 s2).2=s3 at hr hw1 hi3
  cases h2:headS ts e n s3 with
  |none=>rw[h2] at hr;cases hr
  |some q=>
   obtain⟨con,vs,s6⟩:=q
   rw[h2] at hr
   simp only at hr
   have hi6:=head_i hi3 h2
   cases h3:plainL ts e n [] (takeS ts e [123] (takeS ts e [119,104,101,114,101] s6)) with
   |none=>rw[h3] at hr;cases hr
   |some q=>
   obtain⟨bs,s8⟩:=q
   rw[h3] at hr
   cases hr
   have hpl:=plain_ok hts (by omega) _ s8 bs (takeS_i (takeS_i hi6 _) _) h3
   refine PC.intro t59 fun K h b hk hK=>?_
   simp only[u_C c59.eq_1,rn,pevA,seval]
   intro b2 hb2 hk2
   obtain⟨n2,hb2⟩:=AH.set_none.1 hb2
   simp only[rn,pevA,seval]
   refine (pos_ok s).use (by simp only[kG,kN,n2,n2.symm]<;>rfl) hk ?_
   simp only[rn,pevA,seval,kN,n2,n2.symm]
   intro b3 hb3 hk3
   obtain⟨n32,n3,hb3⟩:=new3.1 hb3
   simp only[rn,pevA,seval,kN,n2,n2.symm,n3,n3.symm,n32,n32.symm,hk3]
   refine (take_ok hts [105,110,115,116,97,110,99,101] s).use (by simp only[kG,kN,n2,n2.symm,n3,n3.symm,n32,n32.symm]<;>rfl) hk ?_
   simp only[rn,pevA,seval,kN,n2,n2.symm,n3,n3.symm,n32,n32.symm]
   refine hpreds.use (by simp only[kG,kN,n2,n2.symm,n3,n3.symm,n32,n32.symm]<;>rfl) hk ?_
   simp only[rn,pevA,seval,kN,n2,n2.symm,n3,n3.symm,n32,n32.symm,hk3]
   refine hw1.use (by simp only[kG,kN,n2,n2.symm,n3,n3.symm,n32,n32.symm]<;>rfl) hk ?_
   simp only[rn,pevA,seval,kN,n2,n2.symm,n3,n3.symm,n32,n32.symm,hk3]
   refine (is_ok [40] s3).use (by simp only[kG,kN,n2,n2.symm,n3,n3.symm,n32,n32.symm]<;>rfl) hk ?_
   unfold headS at h2
   cases c1:isS ts [40] s3 with
   |false=>
    rw[c1,if_neg (by decide)] at h2
    cases h2
    simp only[rn,pevA,seval,kN,n2,n2.symm,n3,n3.symm,n32,n32.symm]
    refine (word_ok hts 2 s3).use (by simp only[kG,kN,n2,n2.symm,n3,n3.symm,n32,n32.symm]<;>rfl) hk ?_
    simp only[rn,pevA,seval,kN,n2,n2.symm,n3,n3.symm,n32,n32.symm,hk3]
    refine (take_ok hts [119,104,101,114,101] _).use (by simp only[kG,kN,n2,n2.symm,n3,n3.symm,n32,n32.symm]<;>rfl) hk ?_
    simp only[rn,pevA,seval,kN,n2,n2.symm,n3,n3.symm,n32,n32.symm]
    refine (take_ok hts [123] _).use (by simp only[kG,kN,n2,n2.symm,n3,n3.symm,n32,n32.symm]<;>rfl) hk ?_
    simp only[rn,pevA,seval,kN,n2,n2.symm,n3,n3.symm,n32,n32.symm]
    refine hpl.use (by simp only[kG,kN,n2,n2.symm,n3,n3.symm,n32,n32.symm]<;>rfl) hk ?_
    simp only[rn,pevA,seval,kN,n2,n2.symm,n3,n3.symm,n32,n32.symm,hk3]
    refine (take_ok hts [125] s8).use (by simp only[kG,kN,n2,n2.symm,n3,n3.symm,n32,n32.symm]<;>rfl) hk ?_
    simp only[rn,pevA,seval,kN,n2,n2.symm,n3,n3.symm,n32,n32.symm,hk2]
    exact PC.fin (o:=parO ts e (takeS ts e [125] s8)) (.aggL ⟨.refl _,.refl _,.nil _ _ _,.refl _,.refl _,.refl _,trivial⟩) (by repeat (first|exact AH.le_refl _|refine le_set ?_ (AH.set_none.2 ⟨n2,hb2⟩)|refine le_del ?_ (AH.set_none.2 ⟨n2,hb2⟩)|refine le_set ?_ (AH.set_none.2 ⟨n3,hb3⟩)|refine le_del ?_ (AH.set_none.2 ⟨n3,hb3⟩))) (hK _)
   |true=>
    rw[c1,if_pos rfl] at h2
    have hl1:=isS_lt c1
    cases h4:lowsS ts e n [] (wordS ts e 2 (nextS s3)).2 with
    |none=>rw[h4] at h2;cases h2
    |some q=>
    obtain⟨vl,s5⟩:=q
    rw[h4] at h2
    cases h2
    simp only[rn,pevA,seval,kN,n2,n2.symm,n3,n3.symm,n32,n32.symm,parO,w1 (Nat.lt_of_lt_of_le hl1 hts),hk]
    refine (word_ok hts 2 (nextS s3)).use (by simp only[kG,kN,n2,n2.symm,n3,n3.symm,n32,n32.symm]<;>rfl) hk ?_
    simp only[rn,pevA,seval,kN,n2,n2.symm,n3,n3.symm,n32,n32.symm,hk3]
    refine ivars_loop hts (by omega) K h b b2 b3 n2 n32 n3 hk hk3 _ _ h.toks (.str nm) (.str (wordS ts e 2 (nextS s3)).1) (.lst 156 (pdsR l) .no) (.lst 0 [] .nil) (.int .i64 (posS ts e s)) vs s5 _ (fun fr E tag t1 f0 f2 f3 hE ht1=>?hR) _ h4 _ ?a0 ?a2 ?a3
    case a0=>rfl
    case a2=>rfl
    case a3=>rfl
    simp only[rn,pevA,seval,kN,n2,n2.symm,n3,n3.symm,n32,n32.symm,f0,f2,f3]
    refine (take_ok hts [41] s5).use (by simp only[kG,kN,n2,n2.symm,n3,n3.symm,n32,n32.symm]<;>rfl) hk ?_
    simp only[rn,pevA,seval,kN,n2,n2.symm,n3,n3.symm,n32,n32.symm,f0,f2,f3]
    refine (take_ok hts [119,104,101,114,101] _).use (by simp only[kG,kN,n2,n2.symm,n3,n3.symm,n32,n32.symm]<;>rfl) hk ?_
    simp only[rn,pevA,seval,kN,n2,n2.symm,n3,n3.symm,n32,n32.symm,f0,f2,f3]
    refine (take_ok hts [123] _).use (by simp only[kG,kN,n2,n2.symm,n3,n3.symm,n32,n32.symm]<;>rfl) hk ?_
    simp only[rn,pevA,seval,kN,n2,n2.symm,n3,n3.symm,n32,n32.symm,f0,f2,f3]
    refine hpl.use (by simp only[kG,kN,n2,n2.symm,n3,n3.symm,n32,n32.symm]<;>rfl) hk ?_
    simp only[rn,pevA,seval,kN,n2,n2.symm,n3,n3.symm,n32,n32.symm,f0,f2,f3,hk3]
    refine (take_ok hts [125] s8).use (by simp only[kG,kN,n2,n2.symm,n3,n3.symm,n32,n32.symm]<;>rfl) hk ?_
    simp only[rn,pevA,seval,kN,n2,n2.symm,n3,n3.symm,n32,n32.symm,f0,f2,f3,hk2]
    exact PC.fin (o:=parO ts e (takeS ts e [125] s8)) (.aggL ⟨.refl _,.refl _,.lstE fun h=>hE (strC_ne h),.refl _,.refl _,.refl _,trivial⟩) (le_tkB (by repeat (first|exact AH.le_refl _|refine le_set ?_ (AH.set_none.2 ⟨n2,hb2⟩)|refine le_del ?_ (AH.set_none.2 ⟨n2,hb2⟩)|refine le_set ?_ (AH.set_none.2 ⟨n3,hb3⟩)|refine le_del ?_ (AH.set_none.2 ⟨n3,hb3⟩))) ht1) (hK _)
end
end Go.Proofs.YtinbjdkibmkgbaaGreatDoor.p
namespace Go.Proofs.YtinbjdkibmkgbaaGreatDoor.p
open Go.Proofs Go Go.Cn code
set_option linter.unusedSimpArgs false
set_option linter.unusedVariables false
theorem dtsR_len (l:List Dt):(dtsR l).length=l.length:=by rw[dtsR,List.length_map]
theorem cssR_len (l:List Cs):(cssR l).length=l.length:=by rw[cssR,List.length_map]
theorem insR_len (l:List In):(insR l).length=l.length:=by rw[insR,List.length_map]
theorem dtsR_snoc (l:List Dt)(a:Dt):dtsR l++[dtR a]=dtsR (l++[a]):=by simp[dtsR]
theorem cssR_snoc (l:List Cs)(a:Cs):cssR l++[csR a]=cssR (l++[a]):=by simp[cssR]
theorem insR_snoc (l:List In)(a:In):insR l++[inR a]=insR (l++[a]):=by simp[insR]
theorem dtsR_ne {l:List Dt}(h:dtsR l≠[]):l≠[]:=by rintro rfl;exact h rfl
theorem cssR_ne {l:List Cs}(h:cssR l≠[]):l≠[]:=by rintro rfl;exact h rfl
theorem insR_ne {l:List In}(h:insR l≠[]):l≠[]:=by rintro rfl;exact h rfl
section
variable {ts:List Tk}{e:Int}(hts:ts.length<=1000000)
include hts in
theorem inst_mv {n:Nat}(hn:n+1<=most){s s':St}{d:In}(hs:s.i<=ts.length)(h:instS ts e n s=some (d,s')):s'.i<=ts.length:=by
 unfold instS at h
 split at h
 ·rename_i l s2 h1
  have i2:=(preds_ok hts hn true _ _ _ (takeS_i hs _) h1).2
  split at h
  ·rename_i con vs s6 h2
   have i6:=head_i (wordS_i i2 2) h2
   split at h
   ·rename_i bs s8 h3
    cases h
    exact takeS_i ((plain_mv hts _ (by omega) _ _ _ _ h3).le (takeS_i (takeS_i i6 _) _)) _
   ·cases h
  ·cases h
 ·cases h
include hts in
theorem class_mv {n:Nat}(hn:n+1<=most){s s':St}{d:Cs}(hs:s.i<=ts.length)(h:classS ts e n s=some (d,s')):s'.i<=ts.length:=by
 unfold classS at h
 split at h
 ·rename_i l s2 h1
  have i2:=(preds_ok hts hn true _ _ _ (takeS_i hs _) h1).2
  split at h
  ·rename_i ms ds s7 h2
   cases h
   exact takeS_i ((body_mv hts _ (by omega) _ _ _ _ _ _ h2).le (takeS_i (takeS_i ((varsOk_mv _ _ l _).le (wordS_i (wordS_i i2 2) 1)) _) _)) _
  ·cases h
 ·cases h
include hts in
theorem semiP_loop {n:Nat}(K:Nat->Prop)(h:AH)(b:Nat)(hk:¬K b)(o:St->AH)(ho:∀s,(o s).objs b=some (parO ts e s))(hs:∀s s',(o s).set b (parO ts e s')=o s')(s':St)(fr0:AFr)(R:CExit->AQ)
  (hR:∀fr:AFr,(∀t,t<7->fr t=fr0 t)->R (.exit 2) fr (o s'))(s:St)(hq:semisS ts n s=some s')(f0:fr0 0=.ptr b 0) :
  W T K (.loop l45_0.toC) fr0 (o s) R:=by
 refine aloop (α:=Nat×St) (fun x fr h1=>(∀t,t<7->fr t=fr0 t)/\semisS ts x.1 x.2=some s'/\h1=o x.2) (fun x=>x.1) (n,s) ⟨fun _ _=>rfl,hq,rfl⟩ ?_
 clear hq
 rintro⟨m,s2⟩ fr h1 ⟨hf,hq,rfl⟩
 simp only at hq
 have g0:fr 0=.ptr b 0:=by rw[hf 0 (by decide),f0]
 cases m with
 |zero=>rw[semisS] at hq;cases hq
 |succ m=>
  rw[semisS] at hq
  simp only[u_C l45_0.eq_1,rn,pevA,seval,g0]
  refine (is_ok [59] s2).use (ho s2) hk ?_
  rw[hs]
  cases c2:isS ts [59] s2 with
  |true=>
   rw[c2,if_pos rfl] at hq
   have hlt:=isS_lt c2
   have ho2:=ho s2
   unfold parO at ho2
   simp only[rn,pevA,seval,g0,ho2,w1 (Nat.lt_of_lt_of_le hlt hts),hk]
   refine⟨(m,nextS s2),Nat.lt_succ_self m,fun t ht=>?_,hq,hs s2 (nextS s2)⟩
   rw[<-hf t ht]
   simp only[upd,setA]
   repeat rw[if_neg (by omega)]
  |false=>
   rw[c2,if_neg (by decide)] at hq
   cases hq
   simp only[rn,pevA,seval,g0]
   refine hR _ fun t ht=>?_
   rw[<-hf t ht]
   simp only[upd,setA]
   repeat rw[if_neg (by omega)]
def prgM (ts:List Tk)(e:Int)(h:AH)(b b2 b3:Nat)(Z:AO)(E3:TypeId)(t':Nat->Option Tok)(eD eC eI:TypeId)(tD tC tI:Tag)(q:Pg)(v:AV)(s:St):AH:=
 (((h.set b (parO ts e s)).set b2 Z).set b3 (.cells [.lst eD (dtsR q.datas) tD,.lst eC (cssR q.classes) tC,.lst eI (insR q.insts) tI,v] E3)).tk t'
include hts in
theorem prog_loop {n:Nat}(hn:n<=most)(K:Nat->Prop)(h:AH)(b b2 b3:Nat)(n2:b2≠b)(n32:b3≠b2)(n3:b3≠b)(hk:¬K b)(hk3:¬K b3)(Z:AO)(E3:TypeId)(t0:Nat->Option Tok)(gs:List Sg)(pg:Pg)(s':St)(R:CExit->AQ)
  (hR:∀(fr:AFr)(eD eC eI:TypeId)(tD tC tI:Tag)(v:AV)(t':Nat->Option Tok),fr 0=.ptr b 0->fr 2=.ptr b2 0->fr 3=.ptr b3 0->Wk (fr 4) (.lst 161 (sgsR gs) .no)->Wk v (.lst 175 (bisR pg.binds) .no)->
   (pg.datas≠[]->eD=66)->(pg.classes≠[]->eC=130)->(pg.insts≠[]->eI=134)->(∀c k,t0 c=some k->t' c=some k)->gs.length<=most->pg.binds.length<=most->
   R (.exit 0) fr (prgM ts e h b b2 b3 Z E3 t' eD eC eI tD tC tI pg v s'))
  (s:St)(hs:s.i<=ts.length)(hq:progL ts e n [] ⟨[],[],[],[]⟩ s=some (gs,pg,s'))(fr:AFr)(f0:fr 0=.ptr b 0)(f2:fr 2=.ptr b2 0)(f3:fr 3=.ptr b3 0)(f4:Wk (fr 4) (.lst 161 [] .no)) :
  W T K (.loop l45_5.toC) fr ((((h.set b (parO ts e s)).set b2 Z).set b3 (.cells [.lst 0 [] .nil,.lst 0 [] .nil,.lst 0 [] .nil,.lst 0 [] .nil] E3)).tk t0) R:=by
 refine aloop (α:=Nat×List Sg×Pg×St) (fun x fr h1=>fr 0=.ptr b 0/\fr 2=.ptr b2 0/\fr 3=.ptr b3 0/\Wk (fr 4) (.lst 161 (sgsR x.2.1) .no)/\x.2.2.2.i<=ts.length/\x.1<=n/\x.2.1.length+x.1<=most/\
   x.2.2.1.binds.length+x.1<=most/\x.2.2.1.datas.length+x.1<=most/\x.2.2.1.classes.length+x.1<=most/\x.2.2.1.insts.length+x.1<=most/\progL ts e x.1 x.2.1 x.2.2.1 x.2.2.2=some (gs,pg,s')/\
  ∃eD eC eI tD tC tI v t',(x.2.2.1.datas≠[]->eD=66)/\(x.2.2.1.classes≠[]->eC=130)/\(x.2.2.1.insts≠[]->eI=134)/\Wk v (.lst 175 (bisR x.2.2.1.binds) .no)/\Toks t0 t' [(tD,66,5,0),(tC,130,6,0),(tI,134,6,0)]/\
   h1=prgM ts e h b b2 b3 Z E3 t' eD eC eI tD tC tI x.2.2.1 v x.2.2.2) (fun x=>x.1) (n,[],⟨[],[],[],[]⟩,s)
  ⟨f0,f2,f3,f4,hs,Nat.le_refl _,by simpa using hn,by simpa using hn,by simpa using hn,by simpa using hn,by simpa using hn,hq,0,0,0,.nil,.nil,.nil,_,t0,fun h=>absurd rfl h,fun h=>absurd rfl h,fun h=>absurd rfl h,.nil _ _ _,.cons (.cons (.one _ _ _) _ _) _ _,rfl⟩ ?_
 clear hq f0 f2 f3 f4 hs
 rintro⟨m,g,q,s0⟩ fr h1 ⟨f0,f2,f3,w4,hi,hm,hB0,hB1,hB2,hB3,hB4,hq,eD,eC,eI,tD,tC,tI,v,t',hD,hC,hI,wv,hT,rfl⟩
 simp only at hi hm hB0 hB1 hB2 hB3 hB4 hq hD hC hI wv w4
 have hob:∀s:St,(prgM ts e h b b2 b3 Z E3 t' eD eC eI tD tC tI q v s).objs b=some (parO ts e s):=fun s=>by unfold prgM;simp only[tk_objs,AH.set_same,ne_eq,not_false_eq_true,kN,n2,n2.symm,n3,n3.symm,n32,n32.symm]
 have hset:∀s s':St,(prgM ts e h b b2 b3 Z E3 t' eD eC eI tD tC tI q v s).set b (parO ts e s')=prgM ts e h b b2 b3 Z E3 t' eD eC eI tD tC tI q v s':=fun s s'=>by unfold prgM;simp only[rn,pevA,seval,kN,n2,n2.symm,n3,n3.symm,n32,n32.symm]
 generalize f4:fr 4=v4 at w4
 cases m with
 |zero=>rw[progL] at hq;cases hq
 |succ m=>
  rw[progL] at hq
  have mv:=ex_mv hts (e:=e) m (by omega)
  simp only[u_C l45_5.eq_1,rn,pevA,seval,f0,f2,f3,f4]
  refine (fine_ok s0).use (hob s0) hk ?_
  rw[hset]
  cases c1':fineS s0 with
  |false=>
   rw[c1',if_neg (by decide)] at hq
   cases hq
   simp only[rn,pevA,seval,f0,f2,f3,f4]
   exact hR _ eD eC eI tD tC tI v t' f0 f2 f3 (by show Wk (fr 4) _;rw[f4];exact w4) wv hD hC hI hT.le (by omega) (by omega)
  |true=>
   rw[c1',if_pos rfl] at hq
   cases hsm:semisS ts m s0 with
   |none=>rw[hsm] at hq;cases hq
   |some s1=>
    rw[hsm] at hq
    simp only at hq
    have hi1:=(semis_mv _ _ _ hsm).1.le hi
    simp only[rn,pevA,seval,f0,f2,f3,f4]
    refine semiP_loop hts K h b hk (fun s=>prgM ts e h b b2 b3 Z E3 t' eD eC eI tD tC tI q v s) hob hset s1 _ _ (fun fr2 hf=>?_) s0 hsm (by simp only[upd,setA];repeat rw[if_neg (by decide)];exact f0)
    have g0:fr2 0=.ptr b 0:=by rw[hf 0 (by decide)];exact f0
    have g2:fr2 2=.ptr b2 0:=by rw[hf 2 (by decide)];exact f2
    have g3:fr2 3=.ptr b3 0:=by rw[hf 3 (by decide)];exact f3
    have g4:fr2 4=v4:=by rw[hf 4 (by decide)];exact f4
    by_cases hge:ts.length<=s1.i
    ·have c3:decide ((ts.length:Int)<=(s1.i:Int))=true:=decide_eq_true (by omega)
     rw[if_pos hge] at hq
     cases hq
     simp only[prgM,e_dregion d45_1,u_L s45_1.eq_1,u_T g45_1.eq_1,rn,pevA,seval,g0,g2,g3,g4,kN,n2,n2.symm,n3,n3.symm,n32,n32.symm,parO,tkC_len,c3]
     exact hR _ eD eC eI tD tC tI v t' g0 g2 g3 (by show Wk (fr2 4) _;rw[g4];exact w4) wv hD hC hI hT.le (by omega) (by omega)
    ·have c3:decide ((ts.length:Int)<=(s1.i:Int))=false:=decide_eq_false (by omega)
     rw[if_neg hge] at hq
     simp only[prgM,e_dregion d45_1,u_L s45_1.eq_1,u_T g45_1.eq_1,rn,pevA,seval,g0,g2,g3,g4,kN,n2,n2.symm,n3,n3.symm,n32,n32.symm,parO,tkC_len,c3]
     refine (is_ok [100,97,116,97] s1).use (by simp only[kG,kN,n2,n2.symm,n3,n3.symm,n32,n32.symm]<;>rfl) hk ?_
     cases c:isS ts [100,97,116,97] s1 with
     |true=>
      rw[c,if_pos rfl] at hq
      cases hd:dataS ts e m s1 with
      |none=>rw[hd] at hq;cases hq
      |some r=>
      obtain⟨d,s2⟩:=r
      rw[hd] at hq
      simp only at hq
      have hi2:=(data_mv hts (by omega) hd).m.le hi1
      simp only[e_dregion d45_2,u_L s45_2.eq_1,u_T g45_2.eq_1,rn,pevA,seval,g0,g2,g3,g4,kN,n2,n2.symm,n3,n3.symm,n32,n32.symm]
      refine (data_ok hts (by omega) s1 s2 d hi1 hd).use (by simp only[kG,kN,n2,n2.symm,n3,n3.symm,n32,n32.symm]<;>rfl) (fun x=>x.elim hk (by simp[n3.symm])) ?_
      simp only[e_dregion d45_2,u_L s45_2.eq_1,u_T g45_2.eq_1,rn,pevA,seval,g0,g2,g3,g4,kN,n2,n2.symm,n3,n3.symm,n32,n32.symm,dtR]
      refine WO.append (i:=0) hT rfl rfl rfl trivial (by decide) (by simp) rfl (.inr rfl) (fun _=>?_) ?_ fun tag2 t2 hT2=>?_
      ·simp[capOk,dtsR_len];unfold most at hB2;omega
      ·simp[big_eq,dtsR_len];unfold most at hB2;omega
      have hrow:=dtsR_snoc q.datas d
      unfold dtR at hrow
      rw[hrow]
      simp only[e_dregion d45_2,u_L s45_2.eq_1,u_T g45_2.eq_1,rn,pevA,seval,g0,g2,g3,g4,kN,n2,n2.symm,n3,n3.symm,n32,n32.symm,hk3]
      refine (ends_ok false s2).use (by simp only[kG,kN,n2,n2.symm,n3,n3.symm,n32,n32.symm]<;>rfl) hk ?_
      simp only[rn,pevA,seval,g0,g2,g3,g4,kN,n2,n2.symm,n3,n3.symm,n32,n32.symm]
      exact⟨(m,g,{q with datas:=q.datas++[d]},endsS ts e false s2),Nat.lt_succ_self m,g0,g2,g3,by show Wk (fr2 4) _;rw[g4];exact w4,ends_i false hi2,by show m<=n;omega,by show g.length+m<=most;omega,by show q.binds.length+m<=most;omega,by show (q.datas++[d]).length+m<=most;simp;omega,by (dsimp only;omega),by (dsimp only;omega),hq,66,eC,eI,tag2,tC,tI,v,t2,fun _=>rfl,hC,hI,wv,hT2,rfl⟩
     |false=>
      rw[c,if_neg (by decide)] at hq
      clear c
      simp only[rn,pevA,seval,g0,g2,g3,g4,kN,n2,n2.symm,n3,n3.symm,n32,n32.symm]
      refine (is_ok [99,108,97,115,115] s1).use (by simp only[kG,kN,n2,n2.symm,n3,n3.symm,n32,n32.symm]<;>rfl) hk ?_
      cases c:isS ts [99,108,97,115,115] s1 with
      |true=>
       rw[c,if_pos rfl] at hq
       cases hd:classS ts e m s1 with
       |none=>rw[hd] at hq;cases hq
       |some r=>
       obtain⟨d,s2⟩:=r
       rw[hd] at hq
       simp only at hq
       have hi2:=class_mv hts (by omega) hi1 hd
       simp only[e_dregion d45_3,u_L s45_3.eq_1,u_T g45_3.eq_1,rn,pevA,seval,g0,g2,g3,g4,kN,n2,n2.symm,n3,n3.symm,n32,n32.symm]
       refine (class_ok hts (by omega) s1 s2 d hi1 hd).use (by simp only[kG,kN,n2,n2.symm,n3,n3.symm,n32,n32.symm]<;>rfl) (fun x=>x.elim hk (by simp[n3.symm])) ?_
       simp only[e_dregion d45_3,u_L s45_3.eq_1,u_T g45_3.eq_1,rn,pevA,seval,g0,g2,g3,g4,kN,n2,n2.symm,n3,n3.symm,n32,n32.symm,csR]
       refine WO.append (i:=1) hT rfl rfl rfl trivial (by decide) (by simp) rfl (.inr rfl) (fun _=>?_) ?_ fun tag2 t2 hT2=>?_
       ·simp[capOk,cssR_len];unfold most at hB3;omega
       ·simp[big_eq,cssR_len];unfold most at hB3;omega
       have hrow:=cssR_snoc q.classes d
       unfold csR at hrow
       rw[hrow]
       simp only[e_dregion d45_3,u_L s45_3.eq_1,u_T g45_3.eq_1,rn,pevA,seval,g0,g2,g3,g4,kN,n2,n2.symm,n3,n3.symm,n32,n32.symm,hk3]
       refine (ends_ok false s2).use (by simp only[kG,kN,n2,n2.symm,n3,n3.symm,n32,n32.symm]<;>rfl) hk ?_
       simp only[rn,pevA,seval,g0,g2,g3,g4,kN,n2,n2.symm,n3,n3.symm,n32,n32.symm]
       exact⟨(m,g,{q with classes:=q.classes++[d]},endsS ts e false s2),Nat.lt_succ_self m,g0,g2,g3,by show Wk (fr2 4) _;rw[g4];exact w4,ends_i false hi2,by show m<=n;omega,by show g.length+m<=most;omega,by show q.binds.length+m<=most;omega,by (dsimp only;omega),by show (q.classes++[d]).length+m<=most;simp;omega,by (dsimp only;omega),hq,eD,130,eI,tD,tag2,tI,v,t2,hD,fun _=>rfl,hI,wv,hT2,rfl⟩
      |false=>
       rw[c,if_neg (by decide)] at hq
       clear c
       simp only[rn,pevA,seval,g0,g2,g3,g4,kN,n2,n2.symm,n3,n3.symm,n32,n32.symm]
       refine (is_ok [105,110,115,116,97,110,99,101] s1).use (by simp only[kG,kN,n2,n2.symm,n3,n3.symm,n32,n32.symm]<;>rfl) hk ?_
       cases c:isS ts [105,110,115,116,97,110,99,101] s1 with
       |true=>
        rw[c,if_pos rfl] at hq
        cases hd:instS ts e m s1 with
        |none=>rw[hd] at hq;cases hq
        |some r=>
        obtain⟨d,s2⟩:=r
        rw[hd] at hq
        simp only at hq
        have hi2:=inst_mv hts (by omega) hi1 hd
        simp only[e_dregion d45_4,u_L s45_4.eq_1,u_T g45_4.eq_1,rn,pevA,seval,g0,g2,g3,g4,kN,n2,n2.symm,n3,n3.symm,n32,n32.symm]
        refine (inst_ok hts (by omega) s1 s2 d hi1 hd).use (by simp only[kG,kN,n2,n2.symm,n3,n3.symm,n32,n32.symm]<;>rfl) (fun x=>x.elim hk (by simp[n3.symm])) ?_
        simp only[e_dregion d45_4,u_L s45_4.eq_1,u_T g45_4.eq_1,rn,pevA,seval,g0,g2,g3,g4,kN,n2,n2.symm,n3,n3.symm,n32,n32.symm,inR]
        refine WO.append (i:=2) hT rfl rfl rfl trivial (by decide) (by simp) rfl (.inr rfl) (fun _=>?_) ?_ fun tag2 t2 hT2=>?_
        ·simp[capOk,insR_len];unfold most at hB4;omega
        ·simp[big_eq,insR_len];unfold most at hB4;omega
        have hrow:=insR_snoc q.insts d
        unfold inR at hrow
        rw[hrow]
        simp only[e_dregion d45_4,u_L s45_4.eq_1,u_T g45_4.eq_1,rn,pevA,seval,g0,g2,g3,g4,kN,n2,n2.symm,n3,n3.symm,n32,n32.symm,hk3]
        refine (ends_ok false s2).use (by simp only[kG,kN,n2,n2.symm,n3,n3.symm,n32,n32.symm]<;>rfl) hk ?_
        simp only[rn,pevA,seval,g0,g2,g3,g4,kN,n2,n2.symm,n3,n3.symm,n32,n32.symm]
        exact⟨(m,g,{q with insts:=q.insts++[d]},endsS ts e false s2),Nat.lt_succ_self m,g0,g2,g3,by show Wk (fr2 4) _;rw[g4];exact w4,ends_i false hi2,by show m<=n;omega,by show g.length+m<=most;omega,by show q.binds.length+m<=most;omega,by (dsimp only;omega),by (dsimp only;omega),by show (q.insts++[d]).length+m<=most;simp;omega,hq,eD,eC,134,tD,tC,tag2,v,t2,hD,hC,fun _=>rfl,wv,hT2,rfl⟩
       |false=>
        rw[c,if_neg (by decide)] at hq
        cases hd:defS ts e m g q.binds s1 with
        |none=>rw[hd] at hq;cases hq
        |some r=>
        obtain⟨g2',bs2,s2⟩:=r
        rw[hd] at hq
        simp only at hq
        have hl:=def_len hd
        have hi2:=(mv.df _ _ _ _ _ _ hd).m.le hi1
        simp only[rn,pevA,seval,g0,g2,g3,g4,kN,n2,n2.symm,n3,n3.symm,n32,n32.symm]
        refine (def_ok hts (n:=m) (by omega) g q.binds s1 g2' bs2 s2 hi1 (by omega) (by omega) hd).useW (by exact⟨w4,wv,trivial⟩) (by simp only[kG,kN,n2,n2.symm,n3,n3.symm,n32,n32.symm]<;>rfl) hk ?_
        simp only[rn,pevA,seval,g0,g2,g3,g4,kN,n2,n2.symm,n3,n3.symm,n32,n32.symm,hk3]
        refine (ends_ok false s2).use (by simp only[kG,kN,n2,n2.symm,n3,n3.symm,n32,n32.symm]<;>rfl) hk ?_
        simp only[rn,pevA,seval,g0,g2,g3,g4,kN,n2,n2.symm,n3,n3.symm,n32,n32.symm]
        exact⟨(m,g2',{q with binds:=bs2},endsS ts e false s2),Nat.lt_succ_self m,g0,g2,g3,.refl _,ends_i false hi2,by show m<=n;omega,by show g2'.length+m<=most;omega,by show bs2.length+m<=most;omega,by (dsimp only;omega),by (dsimp only;omega),by (dsimp only;omega),hq,eD,eC,eI,tD,tC,tI,_,t',hD,hC,hI,.refl _,hT,rfl⟩
end
end Go.Proofs.YtinbjdkibmkgbaaGreatDoor.p
namespace Go.Proofs.YtinbjdkibmkgbaaGreatDoor.p
open Go.Proofs Go Go.Cn code
set_option linter.unusedSimpArgs false
set_option linter.unusedVariables false
section
variable {ts:List Tk}{e:Int}(hts:ts.length<=1000000)
include hts in
theorem program_ok {n:Nat}(hn:n<=most)(s s':St)(pg:Pg)(hs:s.i<=ts.length)(hr:programS ts e n s=some (pg,s')):PC ts e 45 [] (.agg (pgR pg)) s s':=by
 unfold programS at hr
 cases h1:progL ts e n [] ⟨[],[],[],[]⟩ s with
 |none=>rw[h1] at hr;cases hr
 |some q=>
  obtain⟨gs,q,s1⟩:=q
  rw[h1] at hr
  cases hr
  refine PC.intro t45 fun K h b hk hK=>?_
  simp only[u_C c45.eq_1,rn,pevA,seval]
  intro b2 hb2 hk2
  obtain⟨n2,hb2⟩:=AH.set_none.1 hb2
  simp only[rn,pevA,seval]
  intro b3 hb3 hk3
  obtain⟨n32,n3,hb3⟩:=new3.1 hb3
  simp only[rn,pevA,seval,kN,n2,n2.symm,n3,n3.symm,n32,n32.symm]
  refine prog_loop hts hn K h b b2 b3 n2 n32 n3 hk hk3 _ _ h.toks gs q s1 _ (fun fr eD eC eI tD tC tI v t' f0 f2 f3 w4 wv hD hC hI hle hB1 hB2=>?hR) s hs h1 _ ?a0 ?a2 ?a3 ?a4
  case a0=>rfl
  case a2=>rfl
  case a3=>rfl
  case a4=>exact .nil _ _ _
  generalize f4:fr 4=v4 at w4
  simp only[prgM,rn,pevA,seval,kN,n2,n2.symm,n3,n3.symm,n32,n32.symm,f0,f2,f3,f4]
  refine (join_ok (ts:=ts) (e:=e) gs hB1 q.binds hB2 s1).useW (by exact⟨w4,wv,trivial⟩) (by simp only[kG,kN,n2,n2.symm,n3,n3.symm,n32,n32.symm]<;>rfl) hk ?_
  simp only[rn,pevA,seval,kN,n2,n2.symm,n3,n3.symm,n32,n32.symm,f0,f2,f3,f4,hk2,hk3]
  exact PC.fin (o:=parO ts e (joinL [] gs q.binds s1).2) (.aggL ⟨.lstE fun h=>hD (dtsR_ne h),.lstE fun h=>hC (cssR_ne h),.lstE fun h=>hI (insR_ne h),.refl _,trivial⟩) (le_tkB (by repeat (first|exact AH.le_refl _|refine le_set ?_ (AH.set_none.2 ⟨n2,hb2⟩)|refine le_del ?_ (AH.set_none.2 ⟨n2,hb2⟩)|refine le_set ?_ (AH.set_none.2 ⟨n3,hb3⟩)|refine le_del ?_ (AH.set_none.2 ⟨n3,hb3⟩))) hle) (hK _)
def doneS (ts:List Tk)(e:Int)(s:St):St:=if fineS s&&decide (s.i<ts.length) then wrongS ts e s else s
theorem done_ok (s:St):PC ts e 46 [] (.agg [.int .i64 (doneS ts e s).code,.bool (doneS ts e s).pl,.int .i64 (doneS ts e s).bp]) s (doneS ts e s):=by
 refine PC.intro t46 fun K h b hk hK=>?_
 simp only[u_C c46.eq_1,e_dregion d46_0,u_L s46_0.eq_1,u_T g46_0.eq_1,rn,pevA,seval]
 intro b2 hb2 hk2
 obtain⟨n2,hb2⟩:=AH.set_none.1 hb2
 simp only[e_dregion d46_0,u_L s46_0.eq_1,u_T g46_0.eq_1,rn,pevA,seval]
 refine (fine_ok s).use (by simp only[kG,kN,n2,n2.symm]<;>rfl) hk ?_
 unfold doneS
 cases c1:fineS s with
 |false=>
  simp only[e_dregion d46_0,u_L s46_0.eq_1,u_T g46_0.eq_1,rn,pevA,seval,kN,n2,n2.symm,Bool.false_and,parO,hk2]
  exact PC.fin (o:=parO ts e s) (.refl _) (by repeat (first|exact AH.le_refl _|refine le_set ?_ (AH.set_none.2 ⟨n2,hb2⟩)|refine le_del ?_ (AH.set_none.2 ⟨n2,hb2⟩))) (hK _)
 |true=>
  by_cases hlt:s.i<ts.length
  ·have c2:decide ((s.i:Int)<(ts.length:Int))=true:=decide_eq_true (by omega)
   have c3:decide (s.i<ts.length)=true:=decide_eq_true hlt
   simp only[e_dregion d46_0,u_L s46_0.eq_1,u_T g46_0.eq_1,rn,pevA,seval,kN,n2,n2.symm,parO,tkC_len,c2,c3,Bool.and_true]
   refine (wrong_ok s).use (by simp only[kG,kN,n2,n2.symm]<;>rfl) hk ?_
   simp only[e_dregion d46_0,u_L s46_0.eq_1,u_T g46_0.eq_1,rn,pevA,seval,kN,n2,n2.symm,parO,hk2]
   exact PC.fin (o:=parO ts e (wrongS ts e s)) (.refl _) (by repeat (first|exact AH.le_refl _|refine le_set ?_ (AH.set_none.2 ⟨n2,hb2⟩)|refine le_del ?_ (AH.set_none.2 ⟨n2,hb2⟩))) (hK _)
  ·have c2:decide ((s.i:Int)<(ts.length:Int))=false:=decide_eq_false (by omega)
   have c3:decide (s.i<ts.length)=false:=decide_eq_false hlt
   simp only[e_dregion d46_0,u_L s46_0.eq_1,u_T g46_0.eq_1,rn,pevA,seval,kN,n2,n2.symm,parO,tkC_len,c2,c3,Bool.and_false,hk2]
   exact PC.fin (o:=parO ts e s) (.refl _) (by repeat (first|exact AH.le_refl _|refine le_set ?_ (AH.set_none.2 ⟨n2,hb2⟩)|refine le_del ?_ (AH.set_none.2 ⟨n2,hb2⟩))) (hK _)
end
end Go.Proofs.YtinbjdkibmkgbaaGreatDoor.p
namespace Go.Proofs.YtinbjdkibmkgbaaGreatDoor.p
open Go.Proofs Go Go.Cn code
set_option linter.unusedSimpArgs false
set_option linter.unusedVariables false
def byR (l:List UInt8):List (List AV):=l.map fun c=>[.int .u8 c.toNat]
theorem byR_len (l:List UInt8):(byR l).length=l.length:=by rw[byR,List.length_map]
theorem byR_get {l:List UInt8}{i:Nat}(h:i<l.length):(byR l)[i]?=some [.int .u8 (l[i]).toNat]:=by rw[byR,List.getElem?_map,List.getElem?_eq_getElem h];rfl
def smallB (c:UInt8):Bool:=(decide ((97:Int)<=(c.toNat:Int))&&decide ((c.toNat:Int)<=122)) || decide ((c.toNat:Int)=95)
def greatB (c:UInt8):Bool:=decide ((65:Int)<=(c.toNat:Int))&&decide ((c.toNat:Int)<=90)
def digitB (c:UInt8):Bool:=decide ((48:Int)<=(c.toNat:Int))&&decide ((c.toNat:Int)<=57)
def innerB (c:UInt8):Bool:=smallB c || greatB c || digitB c || decide ((c.toNat:Int)=39)
def reservedL:List Nm:=[[100,97,116,97],[99,108,97,115,115],[105,110,115,116,97,110,99,101],[119,104,101,114,101],[108,101,116],[105,110],[99,97,115,101],[111,102],[105,102],[116,104,101,110],[101,108,115,101],[100,101,114,105,118,105,110,103]]
def operatorsL:List Nm:=[[61,61],[47,61],[60,61],[62,61],[60],[62],[43],[45],[42]]
theorem small_ok (c:UInt8):Pure T 88 [.int .u8 c.toNat] (.bool (smallB c)):=by
 intro K h
 refine ACall.ret t88 fun hK=>?_
 unfold smallB
 cases h1:decide ((97:Int)<=(c.toNat:Int)) with
 |false=>
  simp only[u_C c88.eq_1,rn,pevA,seval,h1]
  exact⟨.refl _,AH.le_refl _⟩
 |true=>
  cases h2:decide ((c.toNat:Int)<=122) with
  |false=>
   simp only[u_C c88.eq_1,rn,pevA,seval,h1,h2]
   exact⟨.refl _,AH.le_refl _⟩
  |true=>
   simp only[u_C c88.eq_1,rn,pevA,seval,h1,h2]
   exact⟨.refl _,AH.le_refl _⟩
theorem great_ok (c:UInt8):Pure T 89 [.int .u8 c.toNat] (.bool (greatB c)):=by
 intro K h
 refine ACall.ret t89 fun hK=>?_
 unfold greatB
 cases h1:decide ((65:Int)<=(c.toNat:Int))<;>
 ·simp only[u_C c89.eq_1,rn,pevA,seval,h1]
  exact⟨.refl _,AH.le_refl _⟩
theorem digit_ok (c:UInt8):Pure T 92 [.int .u8 c.toNat] (.bool (digitB c)):=by
 intro K h
 refine ACall.ret t92 fun hK=>?_
 unfold digitB
 cases h1:decide ((48:Int)<=(c.toNat:Int))<;>
 ·simp only[u_C c92.eq_1,rn,pevA,seval,h1]
  exact⟨.refl _,AH.le_refl _⟩
theorem inner_ok (c:UInt8):Pure T 90 [.int .u8 c.toNat] (.bool (innerB c)):=by
 intro K h
 refine ACall.ret t90 fun hK=>?_
 unfold innerB
 simp only[u_C c90.eq_1,rn,pevA,seval]
 refine (small_ok c).use ?_
 cases h1:smallB c with
 |true=>
  simp only[rn,pevA,seval]
  exact⟨.refl _,AH.le_refl _⟩
 |false=>
  simp only[rn,pevA,seval]
  refine (great_ok c).use ?_
  cases h2:greatB c with
  |true=>
   simp only[rn,pevA,seval]
   exact⟨.refl _,AH.le_refl _⟩
  |false=>
   simp only[rn,pevA,seval]
   refine (digit_ok c).use ?_
   cases h3:digitB c with
   |true=>
    simp only[rn,pevA,seval]
    exact⟨.refl _,AH.le_refl _⟩
   |false=>
    simp only[rn,pevA,seval]
    exact⟨.refl _,AH.le_refl _⟩
theorem reserved_ok:Pure T 109 [] (.lst 9 (strC reservedL) .no):=by
 intro K h
 refine ACall.ret t109 fun hK=>?_
 simp only[u_C c109.eq_1,rn,pevA,seval]
 exact⟨.refl _,AH.le_refl _⟩
theorem operators_ok:Pure T 94 [] (.lst 9 (strC operatorsL) .no):=by
 intro K h
 refine ACall.ret t94 fun hK=>?_
 simp only[u_C c94.eq_1,rn,pevA,seval]
 exact⟨.refl _,AH.le_refl _⟩
theorem isReserved_ok (s:Nm):Pure T 91 [.str s] (.bool (decide (s∈reservedL))):=by
 intro K h
 refine ACall.ret t91 fun hK=>?_
 simp only[u_C c91.eq_1,rn,pevA,seval]
 refine reserved_ok.use ?_
 simp only[rn,pevA,seval]
 refine (has_ok 9 reservedL .no s).use ?_
 simp only[rn,pevA,seval]
 exact⟨.refl _,AH.le_refl _⟩
def shortS (b c:UInt8):Int×Int:=if (decide ((32:Int)<=(b.toNat:Int))&&decide ((b.toNat:Int)<=126)&& !decide ((b.toNat:Int)=39)&& !decide ((b.toNat:Int)=92)&&decide ((c.toNat:Int)=39))=true then (3,b.toNat) else (0,0)
def longS (b c d:UInt8):Int×Int:=if (decide ((b.toNat:Int)=92)&&decide ((d.toNat:Int)=39))=true then (if decide ((c.toNat:Int)=110)=true then (4,10) else if decide ((c.toNat:Int)=39)=true then (4,c.toNat) else if decide ((c.toNat:Int)=92)=true then (4,c.toNat) else (0,0)) else shortS b c
def letterS:List UInt8->Int×Int
 |_::b::c::d::_=>longS b c d
 |[_,b,c]=>shortS b c
 |_=>(0,0)
theorem wrB (c:UInt8):IntKind.i64.wrap (c.toNat:Int)=(c.toNat:Int):=by
 have:=c.toNat_lt
 rw[wrap64 ⟨by omega,by omega⟩]
theorem byR_cons (c:UInt8)(l:List UInt8):byR (c::l)=[.int .u8 c.toNat]::byR l:=rfl
set_option maxRecDepth 4000 in
theorem letter_3 (K:Nat->Prop)(h:AH)(E:TypeId)(t:Tag)(l:List UInt8)(b c:UInt8)(k3:decide ((3:Int)<=(l.length:Int))=true)(g1:(byR l)[1]?=some [.int .u8 b.toNat])(g2:(byR l)[2]?=some [.int .u8 c.toNat])(hl:letterS l=shortS b c)(k4:decide ((4:Int)<=(l.length:Int))=false):ACall T K (.func 93) [.lst E (byR l) t] h fun v h'=>v=.tuple [.int .i64 (letterS l).1,.int .i64 (letterS l).2]/\h'=h:=by
 refine ACall.ret t93 fun hK=>?_
 cases s0:decide ((32:Int)<=(b.toNat:Int)) with
 |false=>
  have hv:letterS l=(0,0):=by rw[hl];unfold shortS;rw[s0];rfl
  simp only[u_C c93.eq_1,e_dregion d93_0,u_L s93_0.eq_1,u_T g93_0.eq_1,e_dregion d93_1,u_L s93_1.eq_1,u_T g93_1.eq_1,rn,pevA,seval,byR_len,wrB,k3,k4,g1,g2,s0,hv]
  exact⟨.refl _,AH.le_refl _⟩
 |true=>
 cases s1:decide ((b.toNat:Int)<=126) with
 |false=>
  have hv:letterS l=(0,0):=by rw[hl];unfold shortS;rw[s0,s1];rfl
  simp only[u_C c93.eq_1,e_dregion d93_0,u_L s93_0.eq_1,u_T g93_0.eq_1,e_dregion d93_1,u_L s93_1.eq_1,u_T g93_1.eq_1,rn,pevA,seval,byR_len,wrB,k3,k4,g1,g2,s0,s1,hv]
  exact⟨.refl _,AH.le_refl _⟩
 |true=>
 cases s2:decide ((b.toNat:Int)=39) with
 |true=>
  have hv:letterS l=(0,0):=by rw[hl];unfold shortS;rw[s0,s1,s2];rfl
  simp only[u_C c93.eq_1,e_dregion d93_0,u_L s93_0.eq_1,u_T g93_0.eq_1,e_dregion d93_1,u_L s93_1.eq_1,u_T g93_1.eq_1,rn,pevA,seval,byR_len,wrB,k3,k4,g1,g2,s0,s1,s2,hv]
  exact⟨.refl _,AH.le_refl _⟩
 |false=>
 cases s3:decide ((b.toNat:Int)=92) with
 |true=>
  have hv:letterS l=(0,0):=by rw[hl];unfold shortS;rw[s0,s1,s2,s3];rfl
  simp only[u_C c93.eq_1,e_dregion d93_0,u_L s93_0.eq_1,u_T g93_0.eq_1,e_dregion d93_1,u_L s93_1.eq_1,u_T g93_1.eq_1,rn,pevA,seval,byR_len,wrB,k3,k4,g1,g2,s0,s1,s2,s3,hv]
  exact⟨.refl _,AH.le_refl _⟩
 |false=>
 cases s4:decide ((c.toNat:Int)=39) with
 |false=>
  have hv:letterS l=(0,0):=by rw[hl];unfold shortS;rw[s0,s1,s2,s3,s4];rfl
  simp only[u_C c93.eq_1,e_dregion d93_0,u_L s93_0.eq_1,u_T g93_0.eq_1,e_dregion d93_1,u_L s93_1.eq_1,u_T g93_1.eq_1,rn,pevA,seval,byR_len,wrB,k3,k4,g1,g2,s0,s1,s2,s3,s4,hv]
  exact⟨.refl _,AH.le_refl _⟩
 |true=>
 have hv:letterS l=((3,(b.toNat:Int)):Int×Int):=by rw[hl];unfold shortS;rw[s0,s1,s2,s3,s4];rfl
 simp only[u_C c93.eq_1,e_dregion d93_0,u_L s93_0.eq_1,u_T g93_0.eq_1,e_dregion d93_1,u_L s93_1.eq_1,u_T g93_1.eq_1,rn,pevA,seval,byR_len,wrB,k3,k4,g1,g2,s0,s1,s2,s3,s4,hv]
 exact⟨.refl _,AH.le_refl _⟩
set_option maxRecDepth 4000 in
theorem letter_4 (K:Nat->Prop)(h:AH)(E:TypeId)(t:Tag)(l:List UInt8)(b c:UInt8)(k3:decide ((3:Int)<=(l.length:Int))=true)(g1:(byR l)[1]?=some [.int .u8 b.toNat])(g2:(byR l)[2]?=some [.int .u8 c.toNat])(hl:letterS l=shortS b c)(k4:decide ((4:Int)<=(l.length:Int))=true)(z1:decide ((b.toNat:Int)=92)=false):ACall T K (.func 93) [.lst E (byR l) t] h fun v h'=>v=.tuple [.int .i64 (letterS l).1,.int .i64 (letterS l).2]/\h'=h:=by
 refine ACall.ret t93 fun hK=>?_
 cases s0:decide ((32:Int)<=(b.toNat:Int)) with
 |false=>
  have hv:letterS l=(0,0):=by rw[hl];unfold shortS;rw[s0];rfl
  simp only[u_C c93.eq_1,e_dregion d93_0,u_L s93_0.eq_1,u_T g93_0.eq_1,e_dregion d93_1,u_L s93_1.eq_1,u_T g93_1.eq_1,rn,pevA,seval,byR_len,wrB,k3,k4,g1,g2,z1,s0,hv]
  exact⟨.refl _,AH.le_refl _⟩
 |true=>
 cases s1:decide ((b.toNat:Int)<=126) with
 |false=>
  have hv:letterS l=(0,0):=by rw[hl];unfold shortS;rw[s0,s1];rfl
  simp only[u_C c93.eq_1,e_dregion d93_0,u_L s93_0.eq_1,u_T g93_0.eq_1,e_dregion d93_1,u_L s93_1.eq_1,u_T g93_1.eq_1,rn,pevA,seval,byR_len,wrB,k3,k4,g1,g2,z1,s0,s1,hv]
  exact⟨.refl _,AH.le_refl _⟩
 |true=>
 cases s2:decide ((b.toNat:Int)=39) with
 |true=>
  have hv:letterS l=(0,0):=by rw[hl];unfold shortS;rw[s0,s1,s2];rfl
  simp only[u_C c93.eq_1,e_dregion d93_0,u_L s93_0.eq_1,u_T g93_0.eq_1,e_dregion d93_1,u_L s93_1.eq_1,u_T g93_1.eq_1,rn,pevA,seval,byR_len,wrB,k3,k4,g1,g2,z1,s0,s1,s2,hv]
  exact⟨.refl _,AH.le_refl _⟩
 |false=>
 cases s4:decide ((c.toNat:Int)=39) with
 |false=>
  have hv:letterS l=(0,0):=by rw[hl];unfold shortS;rw[s0,s1,s2,z1,s4];rfl
  simp only[u_C c93.eq_1,e_dregion d93_0,u_L s93_0.eq_1,u_T g93_0.eq_1,e_dregion d93_1,u_L s93_1.eq_1,u_T g93_1.eq_1,rn,pevA,seval,byR_len,wrB,k3,k4,g1,g2,z1,s0,s1,s2,z1,s4,hv]
  exact⟨.refl _,AH.le_refl _⟩
 |true=>
 have hv:letterS l=((3,(b.toNat:Int)):Int×Int):=by rw[hl];unfold shortS;rw[s0,s1,s2,z1,s4];rfl
 simp only[u_C c93.eq_1,e_dregion d93_0,u_L s93_0.eq_1,u_T g93_0.eq_1,e_dregion d93_1,u_L s93_1.eq_1,u_T g93_1.eq_1,rn,pevA,seval,byR_len,wrB,k3,k4,g1,g2,z1,s0,s1,s2,z1,s4,hv]
 exact⟨.refl _,AH.le_refl _⟩
set_option maxRecDepth 4000 in
theorem letter_5 (K:Nat->Prop)(h:AH)(E:TypeId)(t:Tag)(l:List UInt8)(b c:UInt8)(k3:decide ((3:Int)<=(l.length:Int))=true)(g1:(byR l)[1]?=some [.int .u8 b.toNat])(g2:(byR l)[2]?=some [.int .u8 c.toNat])(hl:letterS l=shortS b c)(d:UInt8)(k4:decide ((4:Int)<=(l.length:Int))=true)(g3:(byR l)[3]?=some [.int .u8 d.toNat])(z1:decide ((b.toNat:Int)=92)=true)(z2:decide ((d.toNat:Int)=39)=false):ACall T K (.func 93) [.lst E (byR l) t] h fun v h'=>v=.tuple [.int .i64 (letterS l).1,.int .i64 (letterS l).2]/\h'=h:=by
 refine ACall.ret t93 fun hK=>?_
 cases s0:decide ((32:Int)<=(b.toNat:Int)) with
 |false=>
  have hv:letterS l=(0,0):=by rw[hl];unfold shortS;rw[s0];rfl
  simp only[u_C c93.eq_1,e_dregion d93_0,u_L s93_0.eq_1,u_T g93_0.eq_1,e_dregion d93_1,u_L s93_1.eq_1,u_T g93_1.eq_1,rn,pevA,seval,byR_len,wrB,k3,k4,g1,g2,g3,z1,z2,s0,hv]
  exact⟨.refl _,AH.le_refl _⟩
 |true=>
 cases s1:decide ((b.toNat:Int)<=126) with
 |false=>
  have hv:letterS l=(0,0):=by rw[hl];unfold shortS;rw[s0,s1];rfl
  simp only[u_C c93.eq_1,e_dregion d93_0,u_L s93_0.eq_1,u_T g93_0.eq_1,e_dregion d93_1,u_L s93_1.eq_1,u_T g93_1.eq_1,rn,pevA,seval,byR_len,wrB,k3,k4,g1,g2,g3,z1,z2,s0,s1,hv]
  exact⟨.refl _,AH.le_refl _⟩
 |true=>
 cases s2:decide ((b.toNat:Int)=39) with
 |true=>
  have hv:letterS l=(0,0):=by rw[hl];unfold shortS;rw[s0,s1,s2];rfl
  simp only[u_C c93.eq_1,e_dregion d93_0,u_L s93_0.eq_1,u_T g93_0.eq_1,e_dregion d93_1,u_L s93_1.eq_1,u_T g93_1.eq_1,rn,pevA,seval,byR_len,wrB,k3,k4,g1,g2,g3,z1,z2,s0,s1,s2,hv]
  exact⟨.refl _,AH.le_refl _⟩
 |false=>
 have hv:letterS l=(0,0):=by rw[hl];unfold shortS;rw[s0,s1,s2,z1];rfl
 simp only[u_C c93.eq_1,e_dregion d93_0,u_L s93_0.eq_1,u_T g93_0.eq_1,e_dregion d93_1,u_L s93_1.eq_1,u_T g93_1.eq_1,rn,pevA,seval,byR_len,wrB,k3,k4,g1,g2,g3,z1,z2,s0,s1,s2,z1,hv]
 exact⟨.refl _,AH.le_refl _⟩
set_option maxRecDepth 4000 in
theorem letter_ok (E:TypeId)(t:Tag)(l:List UInt8):Pure T 93 [.lst E (byR l) t] (.tuple [.int .i64 (letterS l).1,.int .i64 (letterS l).2]):=by
 intro K h
 have no:∀l:List UInt8,l.length<3->letterS l=(0,0)->ACall T K (.func 93) [.lst E (byR l) t] h fun v h'=>v=.tuple [.int .i64 (letterS l).1,.int .i64 (letterS l).2]/\h'=h:=by
  intro l h3 hv
  have k4:decide ((4:Int)<=(l.length:Int))=false:=decide_eq_false (by omega)
  have k3:decide ((3:Int)<=(l.length:Int))=false:=decide_eq_false (by omega)
  refine ACall.ret t93 fun hK=>?_
  simp only[u_C c93.eq_1,e_dregion d93_0,u_L s93_0.eq_1,u_T g93_0.eq_1,e_dregion d93_1,u_L s93_1.eq_1,u_T g93_1.eq_1,rn,pevA,seval,byR_len,wrB,k3,k4,hv]
  exact⟨.refl _,AH.le_refl _⟩
 match l with
 |[]=>exact no [] (by decide) rfl
 |[a]=>exact no [a] (by simp) rfl
 |[a,b]=>exact no [a,b] (by simp) rfl
 |[a,b,c]=>exact letter_3 K h E t [a,b,c] b c (decide_eq_true (by simp)) rfl rfl rfl (decide_eq_false (by simp))
 |a::b::c::d::r=>
  have k4:decide ((4:Int)<=((a::b::c::d::r).length:Int))=true:=decide_eq_true (by simp;omega)
  have k3:decide ((3:Int)<=((a::b::c::d::r).length:Int))=true:=decide_eq_true (by simp;omega)
  have g1:(byR (a::b::c::d::r))[1]?=some [.int .u8 b.toNat]:=rfl
  have g2:(byR (a::b::c::d::r))[2]?=some [.int .u8 c.toNat]:=rfl
  have g3:(byR (a::b::c::d::r))[3]?=some [.int .u8 d.toNat]:=rfl
  have hv:letterS (a::b::c::d::r)=longS b c d:=rfl
  generalize a::b::c::d::r=l at k4 k3 g1 g2 g3 hv ⊢
  cases z1:decide ((b.toNat:Int)=92) with
  |false=>exact letter_4 K h E t l b c k3 g1 g2 (by rw[hv];unfold longS;rw[z1];rfl) k4 z1
  |true=>
   cases z2:decide ((d.toNat:Int)=39) with
   |false=>exact letter_5 K h E t l b c k3 g1 g2 (by rw[hv];unfold longS;rw[z1,z2];rfl) d k4 g3 z1 z2
   |true=>
    refine ACall.ret t93 fun hK=>?_
    cases z3:decide ((c.toNat:Int)=110) with
    |true=>
     have hv:letterS l=(4,10):=by rw[hv];unfold longS;rw[z1,z2,z3];rfl
     simp only[u_C c93.eq_1,e_dregion d93_0,u_L s93_0.eq_1,u_T g93_0.eq_1,e_dregion d93_1,u_L s93_1.eq_1,u_T g93_1.eq_1,rn,pevA,seval,byR_len,wrB,k3,k4,g1,g2,g3,z1,z2,z3,hv]
     exact⟨.refl _,AH.le_refl _⟩
    |false=>
     cases z4:decide ((c.toNat:Int)=39) with
     |true=>
      have hv:letterS l=((4,(c.toNat:Int)):Int×Int):=by rw[hv];unfold longS;rw[z1,z2,z3,z4];rfl
      simp only[u_C c93.eq_1,e_dregion d93_0,u_L s93_0.eq_1,u_T g93_0.eq_1,e_dregion d93_1,u_L s93_1.eq_1,u_T g93_1.eq_1,rn,pevA,seval,byR_len,wrB,k3,k4,g1,g2,g3,z1,z2,z3,z4,hv]
      exact⟨.refl _,AH.le_refl _⟩
     |false=>
      cases z5:decide ((c.toNat:Int)=92) with
      |true=>
       have hv:letterS l=((4,(c.toNat:Int)):Int×Int):=by rw[hv];unfold longS;rw[z1,z2,z3,z4,z5];rfl
       simp only[u_C c93.eq_1,e_dregion d93_0,u_L s93_0.eq_1,u_T g93_0.eq_1,e_dregion d93_1,u_L s93_1.eq_1,u_T g93_1.eq_1,rn,pevA,seval,byR_len,wrB,k3,k4,g1,g2,g3,z1,z2,z3,z4,z5,hv]
       exact⟨.refl _,AH.le_refl _⟩
      |false=>
       have hv:letterS l=(0,0):=by rw[hv];unfold longS;rw[z1,z2,z3,z4,z5];rfl
       simp only[u_C c93.eq_1,e_dregion d93_0,u_L s93_0.eq_1,u_T g93_0.eq_1,e_dregion d93_1,u_L s93_1.eq_1,u_T g93_1.eq_1,rn,pevA,seval,byR_len,wrB,k3,k4,g1,g2,g3,z1,z2,z3,z4,z5,hv]
       exact⟨.refl _,AH.le_refl _⟩
def spanB (p:UInt8->Bool)(l:List UInt8)(n:Nat):Nat:=n+((l.drop n).takeWhile p).length
theorem spanB_step {p:UInt8->Bool}{l:List UInt8}{n:Nat}(h:n<l.length)(hp:p l[n]=true):spanB p l (n+1)=spanB p l n:=by
 unfold spanB
 rw[List.drop_eq_getElem_cons h,List.takeWhile_cons,if_pos hp,List.length_cons];omega
theorem spanB_stop {p:UInt8->Bool}{l:List UInt8}{n:Nat}(h:n<l.length)(hp:p l[n]=false):spanB p l n=n:=by
 unfold spanB
 rw[List.drop_eq_getElem_cons h,List.takeWhile_cons,if_neg (by rw[hp];decide)];rfl
theorem spanB_end {p:UInt8->Bool}{l:List UInt8}:spanB p l l.length=l.length:=by
 unfold spanB
 rw[List.drop_length];rfl
theorem spanB_le {p:UInt8->Bool}{l:List UInt8}{n:Nat}(h:n<=l.length):spanB p l n<=l.length:=by
 unfold spanB
 have:=(List.takeWhile_prefix p (l:=l.drop n)).length_le
 rw[List.length_drop] at this;omega
theorem spanB_ge (p:UInt8->Bool)(l:List UInt8)(n:Nat):n<=spanB p l n:=Nat.le_add_right _ _
theorem name_loop (K:Nat->Prop)(h:AH)(E:TypeId)(tg:Tag)(l:List UInt8)(hl:l.length<=1000000)(h1:1<=l.length)(fr0:AFr)(R:CExit->AQ)
  (hR:∀fr:AFr,(∀t,t<27->t≠5->fr t=fr0 t)->fr 5=.int .i64 (spanB innerB l 1:Nat)->R (.exit 1) fr h)(f0:fr0 0=.lst E (byR l) tg)(f5:fr0 5=.int .i64 1) :
  W T K (.loop l68_0.toC) fr0 h R:=by
 refine aloop (α:=Nat) (fun n fr h1=>(∀t,t<27->t≠5->fr t=fr0 t)/\fr 5=.int .i64 n/\n<=l.length/\spanB innerB l n=spanB innerB l 1/\h1=h) (fun n=>l.length-n) 1 ⟨fun _ _ _=>rfl,f5,h1,rfl,rfl⟩ ?_
 clear f5
 rintro n fr h1 ⟨hf,f5,hn,hs,rfl⟩
 have g0:fr 0=.lst E (byR l) tg:=by rw[hf 0 (by decide) (by decide)];exact f0
 have hw:IntKind.i64.wrap ((n:Int)+1)=((n+1:Nat):Int):=by rw[wrap64 ⟨by omega,by omega⟩];rfl
 by_cases hlt:n<l.length
 ·have c1:decide ((n:Int)<(l.length:Int))=true:=decide_eq_true (by omega)
  have hget:=byR_get hlt
  simp only[u_C l68_0.eq_1,rn,pevA,seval,g0,f5,byR_len,c1,hget]
  refine (inner_ok l[n]).use ?_
  cases hp:innerB l[n] with
  |true=>
   simp only[rn,pevA,seval,g0,f5,hw]
   refine⟨n+1,by show l.length-(n+1)<l.length-n;omega,fun t ht h5=>?_,rfl,hlt,by rw[spanB_step hlt hp];exact hs,rfl⟩
   rw[<-hf t ht h5]
   simp only[upd,setA]
   repeat rw[if_neg (by omega)]
  |false=>
   simp only[rn,pevA,seval,g0,f5]
   refine hR _ (fun t ht h5=>?_) ?_
   ·rw[<-hf t ht h5]
    simp only[upd,setA]
    repeat rw[if_neg (by omega)]
   ·rw[<-hs,spanB_stop hlt hp];exact f5
 ·obtain rfl:n=l.length:=by omega
  have c1:decide ((l.length:Int)<(l.length:Int))=false:=by simp
  simp only[u_C l68_0.eq_1,rn,pevA,seval,g0,f5,byR_len,c1]
  refine hR _ (fun t ht h5=>?_) ?_
  ·rw[<-hf t ht h5]
   simp only[upd,setA]
   repeat rw[if_neg (by omega)]
  ·rw[<-hs,spanB_end];exact f5
theorem digit_loop (K:Nat->Prop)(h:AH)(E:TypeId)(tg:Tag)(l:List UInt8)(hl:l.length<=1000000)(h1:1<=l.length)(fr0:AFr)(R:CExit->AQ)
  (hR:∀fr:AFr,(∀t,t<62->t≠5->fr t=fr0 t)->fr 5=.int .i64 (spanB digitB l 1:Nat)->R (.exit 3) fr h)(f0:fr0 0=.lst E (byR l) tg)(f5:fr0 5=.int .i64 1) :
  W T K (.loop l68_1.toC) fr0 h R:=by
 refine aloop (α:=Nat) (fun n fr h1=>(∀t,t<62->t≠5->fr t=fr0 t)/\fr 5=.int .i64 n/\n<=l.length/\spanB digitB l n=spanB digitB l 1/\h1=h) (fun n=>l.length-n) 1 ⟨fun _ _ _=>rfl,f5,h1,rfl,rfl⟩ ?_
 clear f5
 rintro n fr h1 ⟨hf,f5,hn,hs,rfl⟩
 have g0:fr 0=.lst E (byR l) tg:=by rw[hf 0 (by decide) (by decide)];exact f0
 have hw:IntKind.i64.wrap ((n:Int)+1)=((n+1:Nat):Int):=by rw[wrap64 ⟨by omega,by omega⟩];rfl
 by_cases hlt:n<l.length
 ·have c1:decide ((n:Int)<(l.length:Int))=true:=decide_eq_true (by omega)
  have hget:=byR_get hlt
  simp only[u_C l68_1.eq_1,rn,pevA,seval,g0,f5,byR_len,c1,hget]
  refine (digit_ok l[n]).use ?_
  cases hp:digitB l[n] with
  |true=>
   simp only[rn,pevA,seval,g0,f5,hw]
   refine⟨n+1,by show l.length-(n+1)<l.length-n;omega,fun t ht h5=>?_,rfl,hlt,by rw[spanB_step hlt hp];exact hs,rfl⟩
   rw[<-hf t ht h5]
   simp only[upd,setA]
   repeat rw[if_neg (by omega)]
  |false=>
   simp only[rn,pevA,seval,g0,f5]
   refine hR _ (fun t ht h5=>?_) ?_
   ·rw[<-hf t ht h5]
    simp only[upd,setA]
    repeat rw[if_neg (by omega)]
   ·rw[<-hs,spanB_stop hlt hp];exact f5
 ·obtain rfl:n=l.length:=by omega
  have c1:decide ((l.length:Int)<(l.length:Int))=false:=by simp
  simp only[u_C l68_1.eq_1,rn,pevA,seval,g0,f5,byR_len,c1]
  refine hR _ (fun t ht h5=>?_) ?_
  ·rw[<-hf t ht h5]
   simp only[upd,setA]
   repeat rw[if_neg (by omega)]
  ·rw[<-hs,spanB_end];exact f5
def numV (l:List UInt8):Int:=l.foldl (fun v c=>IntKind.i64.wrap (IntKind.i64.wrap (10*v)+IntKind.i64.wrap (IntKind.u8.wrap ((c.toNat:Int)-48)))) 0
theorem numV_snoc (l:List UInt8)(c:UInt8):numV (l++[c])=IntKind.i64.wrap (IntKind.i64.wrap (10*numV l)+IntKind.i64.wrap (IntKind.u8.wrap ((c.toNat:Int)-48))):=by
 unfold numV;rw[List.foldl_append];rfl
theorem num_loop (K:Nat->Prop)(h:AH)(E:TypeId)(tg:Tag)(l:List UInt8)(hl:l.length<=1000000)(N:Nat)(hN:N<=l.length)(fr0:AFr)(R:CExit->AQ)
  (hR:∀fr:AFr,(∀t,t<78->t≠8->t≠9->fr t=fr0 t)->fr 8=.int .i64 (numV (l.take N))->R (.exit 5) fr h)(f0:fr0 0=.lst E (byR l) tg)(f5:fr0 5=.int .i64 (N:Nat))(f8:fr0 8=.int .i64 0)(f9:fr0 9=.int .i64 0) :
  W T K (.loop l68_2.toC) fr0 h R:=by
 refine aloop (α:=Nat) (fun n fr h1=>(∀t,t<78->t≠8->t≠9->fr t=fr0 t)/\fr 8=.int .i64 (numV (l.take n))/\fr 9=.int .i64 n/\n<=N/\h1=h) (fun n=>N-n) 0 ⟨fun _ _ _ _=>rfl,f8,f9,Nat.zero_le _,rfl⟩ ?_
 clear f8 f9
 rintro n fr h1 ⟨hf,f8,f9,hn,rfl⟩
 have g0:fr 0=.lst E (byR l) tg:=by rw[hf 0 (by decide) (by decide) (by decide)];exact f0
 have g5:fr 5=.int .i64 (N:Nat):=by rw[hf 5 (by decide) (by decide) (by decide)];exact f5
 have hw:IntKind.i64.wrap ((n:Int)+1)=((n+1:Nat):Int):=by rw[wrap64 ⟨by omega,by omega⟩];rfl
 by_cases hlt:n<N
 ·have c1:decide ((n:Int)<(N:Int))=true:=decide_eq_true (by omega)
  have hll:n<l.length:=by omega
  have hget:=byR_get hll
  simp only[u_C l68_2.eq_1,rn,pevA,seval,g0,g5,f8,f9,byR_len,c1,hget,hw]
  refine⟨n+1,by show N-(n+1)<N-n;omega,fun t ht h8 h9=>?_,?_,rfl,hlt,rfl⟩
  ·rw[<-hf t ht h8 h9]
   simp only[upd,setA]
   repeat rw[if_neg (by omega)]
  ·rw[List.take_add_one,List.getElem?_eq_getElem hll]
   show _=AV.int .i64 (numV (l.take n++[l[n]]))
   rw[numV_snoc];rfl
 ·obtain rfl:n=N:=by omega
  have c1:decide ((n:Int)<(n:Int))=false:=by simp
  simp only[u_C l68_2.eq_1,rn,pevA,seval,g0,g5,f8,f9,byR_len,c1]
  refine hR _ (fun t ht h8 h9=>?_) ?_
  ·rw[<-hf t ht h8 h9]
   simp only[upd,setA]
   repeat rw[if_neg (by omega)]
  ·exact f8
def findO (two one:Nm):List Nm->Option Nm
 |[]=>none
 |o::l=>if two=o then some o else if one=o then some o else findO two one l
abbrev zeroT:List AV:=[.int .i64 0,.int .i64 0,.str [],.int .i64 0]
theorem ops_loop (K:Nat->Prop)(h:AH)(b2:Nat)(hk2:¬K b2)(E2:TypeId)(two one:Nm)(c:UInt8)(he:(Utf8.encode (c.toNat:Int)).data.toList=one)(ol:List Nm)(hol:ol.length<=1000)(fr0:AFr)(R:CExit->AQ)
  (hR0:findO two one ol=none->∀fr:AFr,(∀t,t<136->t≠14->fr t=fr0 t)->R (.exit 7) fr (h.set b2 (.cells zeroT E2)))
  (hR1:∀o,findO two one ol=some o->∀fr:AFr,fr 2=.rptr [.int .i64 5,.int .i64 0,.str o,.int .i64 0]->fr 3=.int .i64 (o.length:Nat)->R .ret fr (h.del b2))
  (f2:fr0 2=.ptr b2 0)(f4:fr0 4=.int .u8 c.toNat)(f12:fr0 12=.str two)(f13:fr0 13=.lst 9 (strC ol) .no)(f14:fr0 14=.int .i64 0) :
  W T K (.loop l68_4.toC) fr0 (h.set b2 (.cells zeroT E2)) R:=by
 refine aloop (α:=Nat) (fun n fr h1=>(∀t,t<136->t≠14->fr t=fr0 t)/\fr 14=.int .i64 n/\n<=ol.length/\findO two one (ol.drop n)=findO two one ol/\h1=h.set b2 (.cells zeroT E2)) (fun n=>ol.length-n) 0 ⟨fun _ _ _=>rfl,f14,Nat.zero_le _,rfl,rfl⟩ ?_
 clear f14
 rintro n fr h1 ⟨hf,f14,hn,hs,rfl⟩
 have g2:fr 2=.ptr b2 0:=by rw[hf 2 (by decide) (by decide)];exact f2
 have g4:fr 4=.int .u8 c.toNat:=by rw[hf 4 (by decide) (by decide)];exact f4
 have g12:fr 12=.str two:=by rw[hf 12 (by decide) (by decide)];exact f12
 have g13:fr 13=.lst 9 (strC ol) .no:=by rw[hf 13 (by decide) (by decide)];exact f13
 have hw:IntKind.i64.wrap ((n:Int)+1)=((n+1:Nat):Int):=by rw[wrap64 ⟨by omega,by omega⟩];rfl
 by_cases hlt:n<ol.length
 ·have c1:decide ((n:Int)<(ol.length:Int))=true:=decide_eq_true (by omega)
  have hget:(strC ol)[n]?=some [.str ol[n]]:=by rw[strC,List.getElem?_map,List.getElem?_eq_getElem hlt];rfl
  have hsp:findO two one (ol.drop n)=if two=ol[n] then some ol[n] else if one=ol[n] then some ol[n] else findO two one (ol.drop (n+1)):=by rw[List.drop_eq_getElem_cons hlt,findO]
  rw[hsp] at hs
  generalize ol[n]=o at hget hs
  cases c2:decide (two=o) with
  |true=>
   rw[if_pos (of_decide_eq_true c2)] at hs
   simp only[u_C l68_4.eq_1,e_dregion d68_3,u_L s68_3.eq_1,u_T g68_3.eq_1,rn,pevA,seval,g2,g4,g12,g13,f14,strC_len,c1,hget,c2]
   exact⟨hk2,hR1 o hs.symm _ rfl rfl⟩
  |false=>
   rw[if_neg (of_decide_eq_false c2)] at hs
   cases c3:decide (one=o) with
   |true=>
    rw[if_pos (of_decide_eq_true c3)] at hs
    simp only[u_C l68_4.eq_1,e_dregion d68_3,u_L s68_3.eq_1,u_T g68_3.eq_1,rn,pevA,seval,g2,g4,g12,g13,f14,strC_len,c1,hget,c2,c3,he]
    exact⟨hk2,hR1 o hs.symm _ rfl rfl⟩
   |false=>
    rw[if_neg (of_decide_eq_false c3)] at hs
    simp only[u_C l68_4.eq_1,e_dregion d68_3,u_L s68_3.eq_1,u_T g68_3.eq_1,rn,pevA,seval,g2,g4,g12,g13,f14,strC_len,c1,hget,c2,c3,he,hw]
    refine⟨n+1,by show ol.length-(n+1)<ol.length-n;omega,fun t ht h5=>?_,rfl,hlt,hs,rfl⟩
    rw[<-hf t ht h5]
    simp only[upd,setA]
    repeat rw[if_neg (by omega)]
 ·obtain rfl:n=ol.length:=by omega
  have c1:decide ((ol.length:Int)<(ol.length:Int))=false:=by simp
  simp only[u_C l68_4.eq_1,rn,pevA,seval,g2,g4,g12,g13,f14,strC_len,c1]
  refine hR0 (by rw[<-hs,List.drop_length];rfl) _ (fun t ht h5=>?_)
  rw[<-hf t ht h5]
  simp only[upd,setA]
  repeat rw[if_neg (by omega)]
def marksL:Nm:=[40,41,123,125,44,59,61,92,124]
theorem marks_loop (K:Nat->Prop)(h:AH)(b2:Nat)(hk2:¬K b2)(E2:TypeId)(one:Nm)(c:UInt8)(he:(Utf8.encode (c.toNat:Int)).data.toList=one)(ml:Nm)(hml:ml.length<=1000)(fr0:AFr)(R:CExit->AQ)
  (hR0:c∉ml->∀fr:AFr,fr 2=.ptr b2 0->R (.exit 9) fr (h.set b2 (.cells zeroT E2)))
  (hR1:c∈ml->∀fr:AFr,fr 2=.rptr [.int .i64 6,.int .i64 0,.str one,.int .i64 0]->fr 3=.int .i64 1->R .ret fr (h.del b2))
  (f2:fr0 2=.ptr b2 0)(f4:fr0 4=.int .u8 c.toNat)(f15:fr0 15=.str ml)(f16:fr0 16=.int .i64 0) :
  W T K (.loop l68_5.toC) fr0 (h.set b2 (.cells zeroT E2)) R:=by
 refine aloop (α:=Nat) (fun n fr h1=>fr 2=.ptr b2 0/\fr 4=.int .u8 c.toNat/\fr 15=.str ml/\fr 16=.int .i64 n/\n<=ml.length/\c∉ml.take n/\h1=h.set b2 (.cells zeroT E2)) (fun n=>ml.length-n) 0 ⟨f2,f4,f15,f16,Nat.zero_le _,by simp,rfl⟩ ?_
 clear f2 f4 f15 f16
 rintro n fr h1 ⟨g2,g4,g15,g16,hn,hs,rfl⟩
 have hw:IntKind.i64.wrap ((n:Int)+1)=((n+1:Nat):Int):=by rw[wrap64 ⟨by omega,by omega⟩];rfl
 by_cases hlt:n<ml.length
 ·have c1:decide ((n:Int)<(ml.length:Int))=true:=decide_eq_true (by omega)
  have hget:ml[n]?=some ml[n]:=List.getElem?_eq_getElem hlt
  have hmem:ml[n]∈ml:=List.getElem_mem hlt
  have htk:ml.take (n+1)=ml.take n++[ml[n]]:=by rw[List.take_add_one,hget];rfl
  generalize ml[n]=d at hget hmem htk
  cases c2:decide ((c.toNat:Int)=(d.toNat:Int)) with
  |true=>
   have hcd:c=d:=by
    have:=of_decide_eq_true c2
    exact UInt8.toNat_inj.1 (by omega)
   simp only[u_C l68_5.eq_1,rn,pevA,seval,g2,g4,g15,g16,c1,hget,c2,he]
   exact⟨hk2,hR1 (hcd▸hmem) _ rfl rfl⟩
  |false=>
   have hcd:c≠d:=fun e=>of_decide_eq_false c2 (by rw[e])
   simp only[u_C l68_5.eq_1,rn,pevA,seval,g2,g4,g15,g16,c1,hget,c2,hw]
   exact⟨n+1,by show ml.length-(n+1)<ml.length-n;omega,g2,g4,g15,rfl,hlt,by rw[htk];simp[hs,hcd],rfl⟩
 ·obtain rfl:n=ml.length:=by omega
  have c1:decide ((ml.length:Int)<(ml.length:Int))=false:=by simp
  simp only[u_C l68_5.eq_1,rn,pevA,seval,g2,g4,g15,g16,c1]
  exact hR0 (by rw[List.take_length] at hs;exact hs) _ g2
theorem onS_of {α:Type}{x:Option α}{a:α}{Q:α->Prop}(h:x=some a)(hQ:Q a):onS x Q:=⟨a,h,hQ⟩
theorem byR_flat:∀l:List UInt8,(byR l).flatten=l.map fun c=>.int .u8 c.toNat
 |[]=>rfl
 |c::l=>by rw[byR_cons,List.flatten_cons,byR_flat l];rfl
theorem byR_bytes:∀l:List UInt8,bytesA (l.map fun c=>.int .u8 (c.toNat:Int))=some l
 |[]=>rfl
 |c::l=>by
  rw[List.map_cons,bytesA,byR_bytes l]
  show some (UInt8.ofNat ((c.toNat:Int)).toNat::l)=_
  rw[Int.toNat_natCast,UInt8.ofNat_toNat]
theorem byR_take (l:List UInt8)(n:Nat):(byR l).take n=byR (l.take n):=by rw[byR,byR,List.map_take]
theorem byR_drop (l:List UInt8)(n:Nat):(byR l).drop n=byR (l.drop n):=by rw[byR,byR,List.map_drop]
theorem byR_each (l:List UInt8):∀x∈byR l,x.length=1:=fun x hx=>by obtain⟨c,_,rfl⟩:=List.mem_map.1 hx;rfl
theorem slHi {h:AH}{ρ:Operand->AV}{x y:Operand}{tg:Tag}{l:List UInt8}{n:Nat}(hx:ρ x=.lst 5 (byR l) tg)(hy:ρ y=.int .i64 n)(h0:0<l.length)(hn:n<=l.length) :
  pevA (.slV 5 1 x none (some y) none) ρ h=some (.lst 5 (byR (l.take n)) (if n=l.length then tg else .no)):=by
 obtain⟨c,r,rfl⟩ : ∃c r,l=c::r:=by cases l with|nil=>simp at h0|cons c r=>exact⟨c,r,rfl⟩
 have e1:(byR r).length+1=(c::r).length:=by rw[byR_len];rfl
 have c1:0<=(n:Int)/\(n:Int)<=(((c::r).length:Nat):Int):=⟨by omega,by omega⟩
 have c3:0<=(0:Int)/\(0:Int)<=((n:Nat):Int):=⟨by omega,by omega⟩
 have:=byR_each (c::r)
 simp only[pevA,hx,byR_cons,hy,Option.map,bndA]
 rw[if_pos ⟨trivial,this⟩,e1,if_pos c1,Int.toNat_natCast]
 simp only[List.drop_zero,Nat.sub_zero]
 rw[<-byR_cons,byR_take]
theorem b2sBy {h:AH}{ρ:Operand->AV}{x:Operand}{E:TypeId}{tg:Tag}{l:List UInt8}(hx:ρ x=.lst E (byR l) tg)(h0:0<l.length):pevA (.b2s x) ρ h=some (.str l):=by
 obtain⟨c,r,rfl⟩ : ∃c r,l=c::r:=by cases l with|nil=>simp at h0|cons c r=>exact⟨c,r,rfl⟩
 have e1:(byR (c::r)).flatten.length=(byR r).length+1:=by rw[byR_flat,List.length_map,byR_len];rfl
 simp only[pevA,hx,byR_cons]
 rw[<-byR_cons,byR_flat,byR_bytes]
 simp only
 rw[<-byR_flat,if_pos e1]
def zeroK:Tk:=⟨0,0,[],0⟩
def nameV (l:List UInt8)(c:UInt8):Tk×Nat:=
 if 40<spanB innerB l 1 then (zeroK,0)
 else (⟨if greatB c then 2 else if l.take (spanB innerB l 1)=[95] then 6 else if l.take (spanB innerB l 1)∈reservedL then 6 else 1,0,l.take (spanB innerB l 1),0⟩,spanB innerB l 1)
def digitsV (l:List UInt8):Tk×Nat:=
 if 15<spanB digitB l 1 then (zeroK,0) else (⟨3,0,l.take (spanB digitB l 1),numV (l.take (spanB digitB l 1))⟩,spanB digitB l 1)
def charV (l:List UInt8):Tk×Nat:=
 if (letterS l).1=0 then (zeroK,0) else (⟨4,0,l.take (letterS l).1.toNat,(letterS l).2⟩,(letterS l).1.toNat)
def twoOf (l:List UInt8):Nm:=if 1<l.length then l.take 2 else []
def oneOf (c:UInt8):Nm:=(Utf8.encode (c.toNat:Int)).data.toList
def signV (l:List UInt8)(c:UInt8):Tk×Nat:=
 if twoOf l=[45,62] then (⟨6,0,twoOf l,0⟩,2) else if twoOf l=[61,62] then (⟨6,0,twoOf l,0⟩,2) else if twoOf l=[58,58] then (⟨6,0,twoOf l,0⟩,2)
 else match findO (twoOf l) (oneOf c) operatorsL with
  |some o=>(⟨5,0,o,0⟩,o.length)
  |none=>if c∈marksL then (⟨6,0,oneOf c,0⟩,1) else (zeroK,0)
def wordV (l:List UInt8)(c:UInt8):Tk×Nat:=
 if smallB c || greatB c then nameV l c else if digitB c then digitsV l else if decide ((c.toNat:Int)=39) then charV l else signV l c
def wordR (x:Tk×Nat):AV:=.tuple [.agg (tkR x.1),.int .i64 (x.2:Nat)]
theorem word_name (K:Nat->Prop)(h:AH)(tg:Tag)(c:UInt8)(r:List UInt8)(hl:(c::r).length<=1000000)(hc:(smallB c || greatB c)=true) :
  ACall T K (.func 68) [.lst 5 (byR (c::r)) tg] h fun v h'=>v=wordR (nameV (c::r) c)/\h'=h:=by
 refine ACall.ret t68 fun hK=>?_
 simp only[u_C c68.eq_1,rn,pevA,seval]
 intro b2 hb2 hk2
 simp only[rn,pevA,seval,byR_cons]
 refine (small_ok c).use ?_
 have h1:0<(c::r).length:=by simp
 have hN:=spanB_le (p:=innerB) (l:=c::r) (n:=1) (by simp)
 have hN1:=spanB_ge innerB (c::r) 1
 cases hs:smallB c with
 |true=>
  simp only[rn,pevA,seval]
  refine name_loop K _ 5 tg (c::r) hl h1 _ _ (fun fr hf f5=>?_) rfl rfl
  have g0:fr 0=.lst 5 (byR (c::r)) tg:=by rw[hf 0 (by decide) (by decide)];rfl
  have g2:fr 2=.ptr b2 0:=by rw[hf 2 (by decide) (by decide)];rfl
  have g4:fr 4=.int .u8 c.toNat:=by rw[hf 4 (by decide) (by decide)];rfl
  clear hf
  unfold nameV
  generalize spanB innerB (c::r) 1=N at hN hN1 f5 ⊢
  have hlt:0<((c::r).take N).length:=by rw[List.length_take];omega
  simp only[rn,pevA,seval,g0,g2,g4,f5]
  refine onS_of (slHi (h:=h.set b2 (.cells zeroT 145)) (ρ:=evA (upd (upd fr 40 (.lst 5 (byR (c::r)) tg)) 41 (.int .i64 (N:Nat)))) (x:=.tmp 40) (y:=.tmp 41) (n:=N) rfl rfl h1 hN) ?_
  generalize (if N=(c::r).length then tg else .no)=tg2
  generalize (c::r).take N=sn at hlt ⊢
  simp only[rn,pevA,seval,g0,g2,g4,f5]
  refine onS_of (b2sBy (h:=h.set b2 (.cells zeroT 145)) (ρ:=evA (upd (upd (upd fr 40 (.lst 5 (byR (c::r)) tg)) 41 (.int .i64 (N:Nat))) 42 (.lst 5 (byR sn) tg2))) (x:=.tmp 42) rfl hlt) ?_
  simp only[rn,pevA,seval,g0,g2,g4,f5]
  refine (great_ok c).use ?_
  cases hg:greatB c with
  |true=>
   by_cases h40:40<N
   ·have c40:decide ((40:Int)<(N:Int))=true:=decide_eq_true (by omega)
    rw[if_pos h40]
    simp only[rn,pevA,seval,g0,g2,g4,f5,c40]
    exact⟨hk2,.refl _,by rw[s_del hb2];exact AH.le_refl _⟩
   ·have c40:decide ((40:Int)<(N:Int))=false:=decide_eq_false (by omega)
    rw[if_neg h40]
    simp only[rn,pevA,seval,g0,g2,g4,f5,c40]
    exact⟨hk2,.refl _,by rw[s_del hb2];exact AH.le_refl _⟩
  |false=>
   rw[if_neg (by decide:¬(false=true))]
   cases hu:decide (sn=[95]) with
   |true=>
    rw[if_pos (of_decide_eq_true hu)]
    simp only[rn,pevA,seval,g0,g2,g4,f5,hu]
    by_cases h40:40<N
    ·have c40:decide ((40:Int)<(N:Int))=true:=decide_eq_true (by omega)
     rw[if_pos h40]
     simp only[rn,pevA,seval,g0,g2,g4,f5,c40]
     exact⟨hk2,.refl _,by rw[s_del hb2];exact AH.le_refl _⟩
    ·have c40:decide ((40:Int)<(N:Int))=false:=decide_eq_false (by omega)
     rw[if_neg h40]
     simp only[rn,pevA,seval,g0,g2,g4,f5,c40]
     exact⟨hk2,.refl _,by rw[s_del hb2];exact AH.le_refl _⟩
   |false=>
    rw[if_neg (of_decide_eq_false hu)]
    simp only[rn,pevA,seval,g0,g2,g4,f5,hu]
    refine (isReserved_ok sn).use ?_
    cases hr:decide (sn∈reservedL) with
    |true=>
     rw[if_pos (of_decide_eq_true hr)]
     simp only[rn,pevA,seval,g0,g2,g4,f5]
     by_cases h40:40<N
     ·have c40:decide ((40:Int)<(N:Int))=true:=decide_eq_true (by omega)
      rw[if_pos h40]
      simp only[rn,pevA,seval,g0,g2,g4,f5,c40]
      exact⟨hk2,.refl _,by rw[s_del hb2];exact AH.le_refl _⟩
     ·have c40:decide ((40:Int)<(N:Int))=false:=decide_eq_false (by omega)
      rw[if_neg h40]
      simp only[rn,pevA,seval,g0,g2,g4,f5,c40]
      exact⟨hk2,.refl _,by rw[s_del hb2];exact AH.le_refl _⟩
    |false=>
     rw[if_neg (of_decide_eq_false hr)]
     simp only[rn,pevA,seval,g0,g2,g4,f5]
     by_cases h40:40<N
     ·have c40:decide ((40:Int)<(N:Int))=true:=decide_eq_true (by omega)
      rw[if_pos h40]
      simp only[rn,pevA,seval,g0,g2,g4,f5,c40]
      exact⟨hk2,.refl _,by rw[s_del hb2];exact AH.le_refl _⟩
     ·have c40:decide ((40:Int)<(N:Int))=false:=decide_eq_false (by omega)
      rw[if_neg h40]
      simp only[rn,pevA,seval,g0,g2,g4,f5,c40]
      exact⟨hk2,.refl _,by rw[s_del hb2];exact AH.le_refl _⟩
 |false=>
  rw[hs,Bool.false_or] at hc
  simp only[rn,pevA,seval]
  refine (great_ok c).use ?_
  simp only[rn,pevA,seval,hc]
  refine name_loop K _ 5 tg (c::r) hl h1 _ _ (fun fr hf f5=>?_) rfl rfl
  have g0:fr 0=.lst 5 (byR (c::r)) tg:=by rw[hf 0 (by decide) (by decide)];rfl
  have g2:fr 2=.ptr b2 0:=by rw[hf 2 (by decide) (by decide)];rfl
  have g4:fr 4=.int .u8 c.toNat:=by rw[hf 4 (by decide) (by decide)];rfl
  clear hf
  unfold nameV
  generalize spanB innerB (c::r) 1=N at hN hN1 f5 ⊢
  have hlt:0<((c::r).take N).length:=by rw[List.length_take];omega
  simp only[rn,pevA,seval,g0,g2,g4,f5]
  refine onS_of (slHi (h:=h.set b2 (.cells zeroT 145)) (ρ:=evA (upd (upd fr 40 (.lst 5 (byR (c::r)) tg)) 41 (.int .i64 (N:Nat)))) (x:=.tmp 40) (y:=.tmp 41) (n:=N) rfl rfl h1 hN) ?_
  generalize (if N=(c::r).length then tg else .no)=tg2
  generalize (c::r).take N=sn at hlt ⊢
  simp only[rn,pevA,seval,g0,g2,g4,f5]
  refine onS_of (b2sBy (h:=h.set b2 (.cells zeroT 145)) (ρ:=evA (upd (upd (upd fr 40 (.lst 5 (byR (c::r)) tg)) 41 (.int .i64 (N:Nat))) 42 (.lst 5 (byR sn) tg2))) (x:=.tmp 42) rfl hlt) ?_
  simp only[rn,pevA,seval,g0,g2,g4,f5]
  refine (great_ok c).use ?_
  rw[hc]
  by_cases h40:40<N
  ·have c40:decide ((40:Int)<(N:Int))=true:=decide_eq_true (by omega)
   rw[if_pos h40]
   simp only[rn,pevA,seval,g0,g2,g4,f5,c40]
   exact⟨hk2,.refl _,by rw[s_del hb2];exact AH.le_refl _⟩
  ·have c40:decide ((40:Int)<(N:Int))=false:=decide_eq_false (by omega)
   rw[if_neg h40]
   simp only[rn,pevA,seval,g0,g2,g4,f5,c40]
   exact⟨hk2,.refl _,by rw[s_del hb2];exact AH.le_refl _⟩
theorem word_digit (K:Nat->Prop)(h:AH)(tg:Tag)(c:UInt8)(r:List UInt8)(hl:(c::r).length<=1000000)(hs:smallB c=false)(hg:greatB c=false)(hd:digitB c=true) :
  ACall T K (.func 68) [.lst 5 (byR (c::r)) tg] h fun v h'=>v=wordR (digitsV (c::r))/\h'=h:=by
 refine ACall.ret t68 fun hK=>?_
 simp only[u_C c68.eq_1,rn,pevA,seval]
 intro b2 hb2 hk2
 simp only[rn,pevA,seval,byR_cons]
 have h1:0<(c::r).length:=by simp
 refine (small_ok c).use ?_
 simp only[rn,pevA,seval,hs]
 refine (great_ok c).use ?_
 simp only[rn,pevA,seval,hg]
 refine (digit_ok c).use ?_
 simp only[rn,pevA,seval,hd]
 have hN:=spanB_le (p:=digitB) (l:=c::r) (n:=1) (by simp)
 have hN1:=spanB_ge digitB (c::r) 1
 refine digit_loop K _ 5 tg (c::r) hl h1 _ _ (fun fr hf f5=>?_) rfl rfl
 have g0:fr 0=.lst 5 (byR (c::r)) tg:=by rw[hf 0 (by decide) (by decide)];rfl
 have g2:fr 2=.ptr b2 0:=by rw[hf 2 (by decide) (by decide)];rfl
 clear hf
 unfold digitsV
 generalize spanB digitB (c::r) 1=N at hN hN1 f5 ⊢
 have hlt:0<((c::r).take N).length:=by rw[List.length_take];omega
 by_cases h15:15<N
 ·have c15:decide ((15:Int)<(N:Int))=true:=decide_eq_true (by omega)
  rw[if_pos h15]
  simp only[rn,pevA,seval,g0,g2,f5,c15]
  exact⟨hk2,.refl _,by rw[s_del hb2];exact AH.le_refl _⟩
 ·have c15:decide ((15:Int)<(N:Int))=false:=decide_eq_false (by omega)
  rw[if_neg h15]
  simp only[rn,pevA,seval,g0,g2,f5,c15]
  refine num_loop K _ 5 tg (c::r) hl N hN _ _ (fun fr2 hf f8=>?_) (by exact g0) (by exact f5) rfl rfl
  have e0:fr2 0=.lst 5 (byR (c::r)) tg:=by rw[hf 0 (by decide) (by decide) (by decide)];exact g0
  have e2:fr2 2=.ptr b2 0:=by rw[hf 2 (by decide) (by decide) (by decide)];exact g2
  have e5:fr2 5=.int .i64 (N:Nat):=by rw[hf 5 (by decide) (by decide) (by decide)];exact f5
  clear hf g0 g2 f5
  simp only[rn,pevA,seval,e0,e2,e5,f8]
  refine onS_of (slHi (h:=h.set b2 (.cells zeroT 145)) (ρ:=evA (upd (upd fr2 92 (.lst 5 (byR (c::r)) tg)) 93 (.int .i64 (N:Nat)))) (x:=.tmp 92) (y:=.tmp 93) (n:=N) rfl rfl h1 hN) ?_
  generalize (if N=(c::r).length then tg else .no)=tg2
  generalize (c::r).take N=sn at hlt f8 ⊢
  simp only[rn,pevA,seval,e0,e2,e5,f8]
  refine onS_of (b2sBy (h:=h.set b2 (.cells zeroT 145)) (ρ:=evA (upd (upd (upd fr2 92 (.lst 5 (byR (c::r)) tg)) 93 (.int .i64 (N:Nat))) 94 (.lst 5 (byR sn) tg2))) (x:=.tmp 94) rfl hlt) ?_
  simp only[rn,pevA,seval,e0,e2,e5,f8]
  exact⟨hk2,.refl _,by rw[s_del hb2];exact AH.le_refl _⟩
theorem letter_le (l:List UInt8):(letterS l).1=0\/(∃n:Nat,(letterS l).1=n/\0<n/\n<=l.length):=by
 have sh:∀b c:UInt8,(shortS b c).1=0\/(shortS b c).1=3:=fun b c=>by unfold shortS;split<;>simp
 match l with
 |[]=>exact .inl rfl
 |[a]=>exact .inl rfl
 |[a,b]=>exact .inl rfl
 |[a,b,c]=>
  rcases sh b c with h|h
  ·exact .inl h
  ·exact .inr ⟨3,h,by decide,by simp⟩
 |a::b::c::d::r=>
  have lo:(longS b c d).1=0\/(longS b c d).1=3\/(longS b c d).1=4:=by
   unfold longS
   split
   ·split
    ·simp
    ·split
     ·simp
     ·split<;>simp
   ·rcases sh b c with h|h
    ·exact .inl h
    ·exact .inr (.inl h)
  rcases lo with h|h|h
  ·exact .inl h
  ·exact .inr ⟨3,h,by decide,by simp⟩
  ·exact .inr ⟨4,h,by decide,by simp⟩
theorem word_char (K:Nat->Prop)(h:AH)(tg:Tag)(c:UInt8)(r:List UInt8)(hl:(c::r).length<=1000000)(hs:smallB c=false)(hg:greatB c=false)(hd:digitB c=false)(hc:decide ((c.toNat:Int)=39)=true) :
  ACall T K (.func 68) [.lst 5 (byR (c::r)) tg] h fun v h'=>v=wordR (charV (c::r))/\h'=h:=by
 refine ACall.ret t68 fun hK=>?_
 simp only[u_C c68.eq_1,rn,pevA,seval]
 intro b2 hb2 hk2
 simp only[rn,pevA,seval,byR_cons]
 have h1:0<(c::r).length:=by simp
 refine (small_ok c).use ?_
 simp only[rn,pevA,seval,hs]
 refine (great_ok c).use ?_
 simp only[rn,pevA,seval,hg]
 refine (digit_ok c).use ?_
 simp only[rn,pevA,seval,hd,hc]
 have hll:=letter_le (c::r)
 have hlo:=letter_ok 5 tg (c::r)
 rw[byR_cons] at hlo
 refine hlo.use ?_
 unfold charV
 generalize (letterS (c::r)).1=k at hll ⊢
 generalize (letterS (c::r)).2=v
 rcases hll with rfl|⟨N,rfl,hN1,hN⟩
 ·rw[if_pos rfl]
  simp only[rn,pevA,seval,(by decide:decide ((0:Int)=0)=true)]
  exact⟨hk2,.refl _,by rw[s_del hb2];exact AH.le_refl _⟩
 ·have c0:decide ((N:Int)=0)=false:=decide_eq_false (by omega)
  rw[if_neg (by omega)]
  have hlt:0<((c::r).take N).length:=by rw[List.length_take];omega
  simp only[rn,pevA,seval,c0]
  have hE:(∀x:List AV,x∈byR (c::r)->x.length=1)=True:=eq_true (byR_each (c::r))
  have a1:(0<=(N:Int))=True:=eq_true (by omega)
  have a2:((N:Int)<=((r.length+1:Nat):Int))=True:=eq_true (by have:(c::r).length=r.length+1:=rfl;omega)
  rw[byR_cons] at hE
  simp only[rn,pevA,seval,hE,a1,a2,byR_len,Option.map,and_self,if_true,Int.toNat_natCast,Nat.sub_zero,Int.le_refl,Int.toNat_zero]
  rw[<-byR_cons,byR_take]
  generalize (if N=r.length+1 then tg else .no)=tg2
  generalize (c::r).take N=sn at hlt ⊢
  obtain⟨d,sd,rfl⟩ : ∃d sd,sn=d::sd:=by cases sn with|nil=>simp at hlt|cons c r=>exact⟨c,r,rfl⟩
  have hF:bytesA (([AV.int .u8 (d.toNat:Int)]:List AV)::byR sd).flatten=some (d::sd):=by rw[<-byR_cons,byR_flat,byR_bytes]
  have hG:((([AV.int .u8 (d.toNat:Int)]:List AV)::byR sd).flatten.length=sd.length+1)=True:=eq_true (by rw[<-byR_cons,byR_flat,List.length_map];rfl)
  rw[byR_cons]
  simp only[rn,pevA,seval,hF,hG,byR_len,if_true]
  exact⟨hk2,.refl _,by rw[s_del hb2];exact AH.le_refl _⟩
set_option maxRecDepth 3000 in
theorem word_sign (K:Nat->Prop)(h:AH)(tg:Tag)(c:UInt8)(r:List UInt8)(hl:(c::r).length<=1000000)(hs:smallB c=false)(hg:greatB c=false)(hd:digitB c=false)(hc:decide ((c.toNat:Int)=39)=false) :
  ACall T K (.func 68) [.lst 5 (byR (c::r)) tg] h fun v h'=>v=wordR (signV (c::r) c)/\h'=h:=by
 refine ACall.ret t68 fun hK=>?_
 simp only[u_C c68.eq_1,rn,pevA,seval]
 intro b2 hb2 hk2
 simp only[rn,pevA,seval,byR_cons]
 have h1:0<(c::r).length:=by simp
 refine (small_ok c).use ?_
 simp only[rn,pevA,seval,hs]
 refine (great_ok c).use ?_
 simp only[rn,pevA,seval,hg]
 refine (digit_ok c).use ?_
 by_cases hlen:1<r.length+1
 ·have c1:decide ((1:Int)<((r.length+1:Nat):Int))=true:=decide_eq_true (by omega)
  have h2:twoOf (c::r)=(c::r).take 2:=by unfold twoOf;rw[if_pos (by simpa using hlen)]
  have hlt:0<((c::r).take 2).length:=by simp
  have hE:(∀x:List AV,x∈byR (c::r)->x.length=1)=True:=eq_true (byR_each (c::r))
  have a1:(0<=(2:Int))=True:=eq_true (by omega)
  have a2:((2:Int)<=((r.length+1:Nat):Int))=True:=eq_true (by omega)
  have a3:((0:Int)<=((2:Nat):Int))=True:=eq_true (by omega)
  rw[byR_cons] at hE
  simp only[rn,pevA,seval,hd,hc,c1,hE,a1,a2,byR_len,Option.map,and_self,if_true,Int.toNat_natCast,Nat.sub_zero,Int.le_refl,Int.toNat_zero,(by decide:(2:Int).toNat=2)]
  have h3:(c::r).take 2=c::r.take 1:=rfl
  rw[h3] at h2
  have hF:bytesA (([AV.int .u8 (c.toNat:Int)]:List AV)::byR (r.take 1)).flatten=some (c::r.take 1):=by rw[<-byR_cons,byR_flat,byR_bytes]
  have hG:((([AV.int .u8 (c.toNat:Int)]:List AV)::byR (r.take 1)).flatten.length=(byR (r.take 1)).length+1)=True:=eq_true (by rw[<-byR_cons,byR_flat,List.length_map,byR_len];rfl)
  simp only[rn,pevA,seval,byR_take,hF,hG,if_true]
  generalize c::r.take 1=two at h2 ⊢
  unfold signV
  rw[h2]
  have he:=(oneOf.eq_1 c).symm
  generalize oneOf c=one at he ⊢
  cases t1:decide (two=[45,62]) with
  |true=>
   rw[if_pos (of_decide_eq_true t1)]
   simp only[rn,pevA,seval,t1]
   exact⟨hk2,.refl _,by rw[s_del hb2];exact AH.le_refl _⟩
  |false=>
   rw[if_neg (of_decide_eq_false t1)]
   cases t2:decide (two=[61,62]) with
   |true=>
    rw[if_pos (of_decide_eq_true t2)]
    simp only[rn,pevA,seval,t1,t2]
    exact⟨hk2,.refl _,by rw[s_del hb2];exact AH.le_refl _⟩
   |false=>
    rw[if_neg (of_decide_eq_false t2)]
    cases t3:decide (two=[58,58]) with
    |true=>
     rw[if_pos (of_decide_eq_true t3)]
     simp only[rn,pevA,seval,t1,t2,t3]
     exact⟨hk2,.refl _,by rw[s_del hb2];exact AH.le_refl _⟩
    |false=>
     rw[if_neg (of_decide_eq_false t3)]
     simp only[rn,pevA,seval,t1,t2,t3]
     refine operators_ok.use ?_
     simp only[rn,pevA,seval]
     refine ops_loop K h b2 hk2 145 two one c he operatorsL (by decide) _ _ (fun hf fr hfr=>?_) (fun o hf fr f2 f3=>?_) rfl rfl rfl rfl rfl
     ·rw[hf]
      dsimp only
      have g2:fr 2=.ptr b2 0:=by rw[hfr 2 (by decide) (by decide)];rfl
      have g4:fr 4=.int .u8 c.toNat:=by rw[hfr 4 (by decide) (by decide)];rfl
      clear hfr
      simp only[rn,pevA,seval,g2,g4]
      refine marks_loop K h b2 hk2 145 one c he marksL (by decide) _ _ (fun hm fr g2=>?_) (fun hm fr f2 f3=>?_) (by exact g2) (by exact g4) rfl rfl
      ·rw[if_neg hm]
       simp only[rn,pevA,seval,g2]
       exact⟨hk2,.refl _,by rw[s_del hb2];exact AH.le_refl _⟩
      ·rw[if_pos hm]
       simp only[rn,pevA,seval,f2,f3]
       exact⟨.refl _,by rw[s_del hb2];exact AH.le_refl _⟩
     ·rw[hf]
      dsimp only
      simp only[rn,pevA,seval,f2,f3]
      exact⟨.refl _,by rw[s_del hb2];exact AH.le_refl _⟩
 ·have c1:decide ((1:Int)<((r.length+1:Nat):Int))=false:=decide_eq_false (by omega)
  have h2:twoOf (c::r)=[]:=by unfold twoOf;rw[if_neg (by simpa using hlen)]
  simp only[rn,pevA,seval,hd,hc,c1,byR_len]
  unfold signV
  have he:=(oneOf.eq_1 c).symm
  generalize oneOf c=one at he ⊢
  rw[h2,if_neg (by simp),if_neg (by simp),if_neg (by simp)]
  refine operators_ok.use ?_
  simp only[rn,pevA,seval]
  refine ops_loop K h b2 hk2 145 [] one c he operatorsL (by decide) _ _ (fun hf fr hfr=>?_) (fun o hf fr f2 f3=>?_) rfl rfl rfl rfl rfl
  ·rw[hf]
   dsimp only
   have g2:fr 2=.ptr b2 0:=by rw[hfr 2 (by decide) (by decide)];rfl
   have g4:fr 4=.int .u8 c.toNat:=by rw[hfr 4 (by decide) (by decide)];rfl
   clear hfr
   simp only[rn,pevA,seval,g2,g4]
   refine marks_loop K h b2 hk2 145 one c he marksL (by decide) _ _ (fun hm fr g2=>?_) (fun hm fr f2 f3=>?_) (by exact g2) (by exact g4) rfl rfl
   ·rw[if_neg hm]
    simp only[rn,pevA,seval,g2]
    refine And.intro hk2 (And.intro ?_ ?_)
    ·exact .refl _
    ·rw[s_del hb2];exact AH.le_refl _
   ·rw[if_pos hm]
    simp only[rn,pevA,seval,f2,f3]
    exact⟨.refl _,by rw[s_del hb2];exact AH.le_refl _⟩
  ·rw[hf]
   dsimp only
   simp only[rn,pevA,seval,f2,f3]
   exact⟨.refl _,by rw[s_del hb2];exact AH.le_refl _⟩
theorem wordOf_ok (tg:Tag)(c:UInt8)(r:List UInt8)(hl:(c::r).length<=1000000):Pure T 68 [.lst 5 (byR (c::r)) tg] (wordR (wordV (c::r) c)):=by
 intro K h
 unfold wordV
 cases h1:smallB c || greatB c with
 |true=>
  rw[if_pos rfl]
  exact word_name K h tg c r hl h1
 |false=>
  rw[if_neg (by decide)]
  rw[Bool.or_eq_false_iff] at h1
  cases h2:digitB c with
  |true=>
   rw[if_pos rfl]
   exact word_digit K h tg c r hl h1.1 h1.2 h2
  |false=>
   rw[if_neg (by decide)]
   cases h3:decide ((c.toNat:Int)=39) with
   |true=>
    rw[if_pos rfl]
    exact word_char K h tg c r hl h1.1 h1.2 h2 h3
   |false=>
    rw[if_neg (by decide)]
    exact word_sign K h tg c r hl h1.1 h1.2 h2 h3
theorem findO_mem {two one o:Nm}:∀{l:List Nm},findO two one l=some o->o∈l/\(two=o\/one=o)
 |[],h=>by rw[findO] at h;cases h
 |a::l,h=>by
  rw[findO] at h
  split at h
  ·rename_i e;cases h;exact⟨by simp,.inl e⟩
  ·split at h
   ·rename_i e;cases h;exact⟨by simp,.inr e⟩
   ·have:=findO_mem h
    exact⟨List.mem_cons_of_mem _ this.1,this.2⟩
def lineB (c:UInt8):Bool:= !decide ((c.toNat:Int)=10)
theorem line_loop (K:Nat->Prop)(h:AH)(E:TypeId)(tg:Tag)(l:List UInt8)(hl:l.length<=1000000)(i:Nat)(hi:i<=l.length)(fr0:AFr)(R:CExit->AQ)
  (hR:∀fr:AFr,(∀t,t<86->t≠5->fr t=fr0 t)->fr 5=.int .i64 (spanB lineB l i:Nat)->R (.exit 3) fr h)(f0:fr0 0=.lst E (byR l) tg)(f5:fr0 5=.int .i64 i) :
  W T K (.loop l54_0.toC) fr0 h R:=by
 refine aloop (α:=Nat) (fun n fr h1=>(∀t,t<86->t≠5->fr t=fr0 t)/\fr 5=.int .i64 n/\n<=l.length/\spanB lineB l n=spanB lineB l i/\h1=h) (fun n=>l.length-n) i ⟨fun _ _ _=>rfl,f5,hi,rfl,rfl⟩ ?_
 clear f5
 rintro n fr h1 ⟨hf,f5,hn,hs,rfl⟩
 have g0:fr 0=.lst E (byR l) tg:=by rw[hf 0 (by decide) (by decide)];exact f0
 have hw:IntKind.i64.wrap ((n:Int)+1)=((n+1:Nat):Int):=by rw[wrap64 ⟨by omega,by omega⟩];rfl
 by_cases hlt:n<l.length
 ·have c1:decide ((n:Int)<(l.length:Int))=true:=decide_eq_true (by omega)
  have hget:=byR_get hlt
  cases hp:decide (((l[n]).toNat:Int)=10) with
  |false=>
   have hp2:lineB l[n]=true:=by unfold lineB;rw[hp];rfl
   simp only[u_C l54_0.eq_1,rn,pevA,seval,g0,f5,byR_len,c1,hget,hp,hw]
   refine⟨n+1,by show l.length-(n+1)<l.length-n;omega,fun t ht h5=>?_,rfl,hlt,by rw[spanB_step hlt hp2];exact hs,rfl⟩
   rw[<-hf t ht h5]
   simp only[upd,setA]
   repeat rw[if_neg (by omega)]
  |true=>
   have hp2:lineB l[n]=false:=by unfold lineB;rw[hp];rfl
   simp only[u_C l54_0.eq_1,rn,pevA,seval,g0,f5,byR_len,c1,hget,hp]
   refine hR _ (fun t ht h5=>?_) ?_
   ·rw[<-hf t ht h5]
    simp only[upd,setA]
    repeat rw[if_neg (by omega)]
   ·rw[<-hs,spanB_stop hlt hp2];exact f5
 ·obtain rfl:n=l.length:=by omega
  have c1:decide ((l.length:Int)<(l.length:Int))=false:=by simp
  simp only[u_C l54_0.eq_1,rn,pevA,seval,g0,f5,byR_len,c1]
  refine hR _ (fun t ht h5=>?_) ?_
  ·rw[<-hf t ht h5]
   simp only[upd,setA]
   repeat rw[if_neg (by omega)]
  ·rw[<-hs,spanB_end];exact f5
def blankB (c:UInt8):Bool:=decide ((c.toNat:Int)=32) || decide ((c.toNat:Int)=9) || decide ((c.toNat:Int)=10) || decide ((c.toNat:Int)=13)
def remarkB:List UInt8->Bool
 |a::b::_=>decide ((a.toNat:Int)=45)&&decide ((b.toNat:Int)=45)
 |_=>false
def splitS:Nat->List UInt8->Nat->List Tk->Option (List Tk×Option Nat)
 |0,_,_,_=>none
 |_+1,[],_,acc=>some (acc,none)
 |n+1,c::r,i,acc=>
  if blankB c then splitS n r (i+1) acc
  else if remarkB (c::r) then splitS n ((c::r).drop (spanB lineB (c::r) 0)) (i+spanB lineB (c::r) 0) acc
  else if (wordV (c::r) c).2=0 then some ([],some i)
  else splitS n ((c::r).drop (wordV (c::r) c).2) (i+(wordV (c::r) c).2) (acc++[{(wordV (c::r) c).1 with pos:=i}])
theorem valid_lt {n:Nat}(h:n<256):Utf8.valid (n:Int)=true:=by
 unfold Utf8.valid
 rw[Bool.or_eq_true]
 left
 rw[Bool.and_eq_true]
 exact⟨decide_eq_true (by omega),decide_eq_true (by omega)⟩
theorem enc_lt {n:Nat}(h:n<128):Utf8.encode (n:Int)=⟨#[UInt8.ofNat n]⟩:=by
 have h1:=valid_lt (n:=n) (by omega)
 rw[Utf8.encode,h1]
 simp only[if_true,Int.toNat_natCast]
 rw[if_pos (show n<0x80 by omega)]
theorem enc_ge {n:Nat}(h:128<=n)(h2:n<256):Utf8.encode (n:Int)=⟨#[UInt8.ofNat (0xC0+n / 64),UInt8.ofNat (0x80+n % 64)]⟩:=by
 have h1:=valid_lt (n:=n) (by omega)
 rw[Utf8.encode,h1]
 simp only[if_true,Int.toNat_natCast]
 rw[if_neg (show ¬n<0x80 by omega),if_pos (show n<0x800 by omega)]
theorem oneOf_lt {c:UInt8}(h:c.toNat<128):oneOf c=[c]:=by
 rw[oneOf,enc_lt h]
 simp
theorem oneOf_ge {c:UInt8}(h:128<=c.toNat):∃x:UInt8,oneOf c=[UInt8.ofNat (0xC0+c.toNat / 64),x]:=by
 refine⟨UInt8.ofNat (0x80+c.toNat % 64),?_⟩
 rw[oneOf,enc_ge h c.toNat_lt]
theorem oneOf_op {c:UInt8}{o:Nm}(h:oneOf c=o)(ho:o∈operatorsL):o.length=1:=by
 by_cases hc:c.toNat<128
 ·rw[<-h,oneOf_lt hc];rfl
 ·have h2:=c.toNat_lt
  obtain⟨x,hx⟩:=oneOf_ge (c:=c) (by omega)
  have e:(UInt8.ofNat (0xC0+c.toNat / 64)).toNat=0xC0+c.toNat / 64:=by rw[UInt8.toNat_ofNat'];omega
  rw[hx] at h
  subst h
  exfalso
  have key:∀y:UInt8,194<=y.toNat->[y,x]∉operatorsL:=by
   intro y hy hm
   simp only[operatorsL,List.mem_cons,List.cons.injEq,List.not_mem_nil,or_false,reduceCtorEq,and_false,false_or] at hm
   rcases hm with h|h|h|h<;>(have:=h.1;subst this;revert hy;decide)
  exact key _ (by omega) ho
theorem wordV_le (l:List UInt8)(c:UInt8)(hl:0<l.length):(wordV l c).2<=l.length:=by
 have sl:(signV l c).2<=l.length:=by
  unfold signV
  have h2:∀x y:UInt8,twoOf l=[x,y]->2<=l.length:=fun x y h=>by
   unfold twoOf at h
   split at h
   ·omega
   ·cases h
  split
  ·rename_i e;exact h2 _ _ e
  ·split
   ·rename_i e;exact h2 _ _ e
   ·split
    ·rename_i e;exact h2 _ _ e
    ·split
     ·rename_i o ho
      obtain⟨hm,h|h⟩:=findO_mem ho
      ·show o.length<=_
       rw[<-h];unfold twoOf;split
       ·rw[List.length_take];omega
       ·exact Nat.zero_le _
      ·show o.length<=_
       rw[oneOf_op h hm];omega
     ·split
      ·exact hl
      ·exact Nat.zero_le _
 unfold wordV
 split
 ·unfold nameV
  split
  ·exact Nat.zero_le _
  ·exact spanB_le hl
 ·split
  ·unfold digitsV
   split
   ·exact Nat.zero_le _
   ·exact spanB_le hl
  ·split
   ·unfold charV
    split
    ·exact Nat.zero_le _
    ·rcases letter_le l with h|⟨n,h,_,hn⟩
     ·rw[h];exact Nat.zero_le _
     ·rw[h];exact hn
   ·exact sl
abbrev zeroF:List AV:=[.int .i64 0,.bool false,.int .i64 0]
theorem drop_cons {B r:List UInt8}{c:UInt8}{i:Nat}(h:B.drop i=c::r):i<B.length/\(byR B)[i]?=some [.int .u8 c.toNat]/\B.drop (i+1)=r:=by
 have hl:i<B.length:=by
  have:=congrArg List.length h
  rw[List.length_drop,List.length_cons] at this;omega
 have h2:=List.drop_eq_getElem_cons hl
 rw[h] at h2
 have h3:c=B[i]:=(List.cons.inj h2).1
 exact⟨hl,by rw[byR_get hl,h3],(List.cons.inj h2).2.symm⟩
theorem spanB_drop {p:UInt8->Bool}{B:List UInt8}{i:Nat}:spanB p B i=i+spanB p (B.drop i) 0:=by
 unfold spanB;rw[List.drop_zero,Nat.zero_add]
theorem drop_add (B:List UInt8)(i k:Nat):(B.drop i).drop k=B.drop (i+k):=by rw[List.drop_drop]
def splI (h:AH)(b:Nat)(B:List UInt8)(E3:TypeId)(t0:Nat->Option Tok)(ts:List Tk)(er:Option Nat)(x:Nat×Nat×List Tk)(fr:AFr)(h1:AH):Prop:=
 fr 0=.lst 5 (byR B) .no/\fr 3=.ptr b 0/\fr 5=.int .i64 (x.2.1:Nat)/\x.2.1<=B.length/\x.2.2.length<=x.2.1/\splitS x.1 (B.drop x.2.1) x.2.1 x.2.2=some (ts,er)/\fr 2=.lst 0 [] .nil/\
  ∃E tag t',fr 4=.lst E (tkC x.2.2) tag/\(tkC x.2.2≠[]->E=145)/\Toks t0 t' [(tag,145,4,0)]/\h1=(h.set b (.cells zeroF E3)).tk t'
def splK (K:Nat->Prop)(h:AH)(b:Nat)(B:List UInt8)(E3:TypeId)(t0:Nat->Option Tok)(ts:List Tk)(er:Option Nat)(y:Nat×Nat×List Tk)(fr:AFr)(h':AH):Prop:=∃h0:AH,h0.le h'/\(KOk K h'->KOk K h0)/\splI h b B E3 t0 ts er y fr h0
set_option maxRecDepth 4000 in
theorem split_b32 (K:Nat->Prop)(h:AH)(hK:KOk K h)(b:Nat)(hb:h.objs b=none)(hk:¬K b)(B:List UInt8)(hB:B.length<=20000)(E3:TypeId)(t0:Nat->Option Tok)(ts:List Tk)(er:Option Nat)(R:CExit->AQ)
  (hR1:∀i:Nat,er=some i->∀(fr:AFr)(m:AH),fr 2=.lst 0 [] .nil->fr 3=.rptr [.int .i64 101,.bool true,.int .i64 i]->(h.tk t0).le m->R .ret fr m)
  (m i:Nat)(acc:List Tk)(fr:AFr)(f0:fr 0=.lst 5 (byR B) .no)(f3:fr 3=.ptr b 0)(f5:fr 5=.int .i64 (i:Nat))(hacc:acc.length<=i)(f2:fr 2=.lst 0 [] .nil)(E:TypeId)(tag:Tag)(t':Nat->Option Tok)(f4:fr 4=.lst E (tkC acc) tag)(hE:tkC acc≠[]->E=145)(hT:Toks t0 t' [(tag,145,4,0)])
  (c:UInt8)(r:List UInt8)(hd:B.drop i=c::r)(b32:decide ((c.toNat:Int)=32)=true)(hq:splitS m r (i+1) acc=some (ts,er)) :
  wpC T K l54_1 fr ((h.set b (.cells zeroF E3)).tk t') (kLp (splK K h b B E3 t0 ts er) (fun x=>x.1) (m+1,i,acc) R):=by
 obtain⟨hlt,hget,hd1⟩:=drop_cons hd
 have c1:decide ((i:Int)<(B.length:Int))=true:=decide_eq_true (by omega)
 have hw1:IntKind.i64.wrap ((i:Int)+1)=((i+1:Nat):Int):=by rw[wrap64 ⟨by omega,by omega⟩];rfl
 simp only[u_C l54_1.eq_1,rn,pevA,seval,f0,f3,f4,f5,byR_len,c1,hget,b32,hw1]
 exact⟨(m,i+1,acc),Nat.lt_succ_self m,_,AH.le_refl _,id,f0,f3,rfl,hlt,by show acc.length<=i+1;omega,by rw[hd1];exact hq,f2,E,tag,t',f4,hE,hT,rfl⟩
set_option maxRecDepth 4000 in
theorem split_b9 (K:Nat->Prop)(h:AH)(hK:KOk K h)(b:Nat)(hb:h.objs b=none)(hk:¬K b)(B:List UInt8)(hB:B.length<=20000)(E3:TypeId)(t0:Nat->Option Tok)(ts:List Tk)(er:Option Nat)(R:CExit->AQ)
  (hR1:∀i:Nat,er=some i->∀(fr:AFr)(m:AH),fr 2=.lst 0 [] .nil->fr 3=.rptr [.int .i64 101,.bool true,.int .i64 i]->(h.tk t0).le m->R .ret fr m)
  (m i:Nat)(acc:List Tk)(fr:AFr)(f0:fr 0=.lst 5 (byR B) .no)(f3:fr 3=.ptr b 0)(f5:fr 5=.int .i64 (i:Nat))(hacc:acc.length<=i)(f2:fr 2=.lst 0 [] .nil)(E:TypeId)(tag:Tag)(t':Nat->Option Tok)(f4:fr 4=.lst E (tkC acc) tag)(hE:tkC acc≠[]->E=145)(hT:Toks t0 t' [(tag,145,4,0)])
  (c:UInt8)(r:List UInt8)(hd:B.drop i=c::r)(b32:decide ((c.toNat:Int)=32)=false)(b9:decide ((c.toNat:Int)=9)=true)(hq:splitS m r (i+1) acc=some (ts,er)) :
  wpC T K l54_1 fr ((h.set b (.cells zeroF E3)).tk t') (kLp (splK K h b B E3 t0 ts er) (fun x=>x.1) (m+1,i,acc) R):=by
 obtain⟨hlt,hget,hd1⟩:=drop_cons hd
 have c1:decide ((i:Int)<(B.length:Int))=true:=decide_eq_true (by omega)
 have hw1:IntKind.i64.wrap ((i:Int)+1)=((i+1:Nat):Int):=by rw[wrap64 ⟨by omega,by omega⟩];rfl
 simp only[u_C l54_1.eq_1,rn,pevA,seval,f0,f3,f4,f5,byR_len,c1,hget,b32,b9,hw1]
 exact⟨(m,i+1,acc),Nat.lt_succ_self m,_,AH.le_refl _,id,f0,f3,rfl,hlt,by show acc.length<=i+1;omega,by rw[hd1];exact hq,f2,E,tag,t',f4,hE,hT,rfl⟩
set_option maxRecDepth 4000 in
theorem split_b10 (K:Nat->Prop)(h:AH)(hK:KOk K h)(b:Nat)(hb:h.objs b=none)(hk:¬K b)(B:List UInt8)(hB:B.length<=20000)(E3:TypeId)(t0:Nat->Option Tok)(ts:List Tk)(er:Option Nat)(R:CExit->AQ)
  (hR1:∀i:Nat,er=some i->∀(fr:AFr)(m:AH),fr 2=.lst 0 [] .nil->fr 3=.rptr [.int .i64 101,.bool true,.int .i64 i]->(h.tk t0).le m->R .ret fr m)
  (m i:Nat)(acc:List Tk)(fr:AFr)(f0:fr 0=.lst 5 (byR B) .no)(f3:fr 3=.ptr b 0)(f5:fr 5=.int .i64 (i:Nat))(hacc:acc.length<=i)(f2:fr 2=.lst 0 [] .nil)(E:TypeId)(tag:Tag)(t':Nat->Option Tok)(f4:fr 4=.lst E (tkC acc) tag)(hE:tkC acc≠[]->E=145)(hT:Toks t0 t' [(tag,145,4,0)])
  (c:UInt8)(r:List UInt8)(hd:B.drop i=c::r)(b32:decide ((c.toNat:Int)=32)=false)(b9:decide ((c.toNat:Int)=9)=false)(b10:decide ((c.toNat:Int)=10)=true)(hq:splitS m r (i+1) acc=some (ts,er)) :
  wpC T K l54_1 fr ((h.set b (.cells zeroF E3)).tk t') (kLp (splK K h b B E3 t0 ts er) (fun x=>x.1) (m+1,i,acc) R):=by
 obtain⟨hlt,hget,hd1⟩:=drop_cons hd
 have c1:decide ((i:Int)<(B.length:Int))=true:=decide_eq_true (by omega)
 have hw1:IntKind.i64.wrap ((i:Int)+1)=((i+1:Nat):Int):=by rw[wrap64 ⟨by omega,by omega⟩];rfl
 simp only[u_C l54_1.eq_1,rn,pevA,seval,f0,f3,f4,f5,byR_len,c1,hget,b32,b9,b10,hw1]
 exact⟨(m,i+1,acc),Nat.lt_succ_self m,_,AH.le_refl _,id,f0,f3,rfl,hlt,by show acc.length<=i+1;omega,by rw[hd1];exact hq,f2,E,tag,t',f4,hE,hT,rfl⟩
set_option maxRecDepth 4000 in
theorem split_b13 (K:Nat->Prop)(h:AH)(hK:KOk K h)(b:Nat)(hb:h.objs b=none)(hk:¬K b)(B:List UInt8)(hB:B.length<=20000)(E3:TypeId)(t0:Nat->Option Tok)(ts:List Tk)(er:Option Nat)(R:CExit->AQ)
  (hR1:∀i:Nat,er=some i->∀(fr:AFr)(m:AH),fr 2=.lst 0 [] .nil->fr 3=.rptr [.int .i64 101,.bool true,.int .i64 i]->(h.tk t0).le m->R .ret fr m)
  (m i:Nat)(acc:List Tk)(fr:AFr)(f0:fr 0=.lst 5 (byR B) .no)(f3:fr 3=.ptr b 0)(f5:fr 5=.int .i64 (i:Nat))(hacc:acc.length<=i)(f2:fr 2=.lst 0 [] .nil)(E:TypeId)(tag:Tag)(t':Nat->Option Tok)(f4:fr 4=.lst E (tkC acc) tag)(hE:tkC acc≠[]->E=145)(hT:Toks t0 t' [(tag,145,4,0)])
  (c:UInt8)(r:List UInt8)(hd:B.drop i=c::r)(b32:decide ((c.toNat:Int)=32)=false)(b9:decide ((c.toNat:Int)=9)=false)(b10:decide ((c.toNat:Int)=10)=false)(b13:decide ((c.toNat:Int)=13)=true)(hq:splitS m r (i+1) acc=some (ts,er)) :
  wpC T K l54_1 fr ((h.set b (.cells zeroF E3)).tk t') (kLp (splK K h b B E3 t0 ts er) (fun x=>x.1) (m+1,i,acc) R):=by
 obtain⟨hlt,hget,hd1⟩:=drop_cons hd
 have c1:decide ((i:Int)<(B.length:Int))=true:=decide_eq_true (by omega)
 have hw1:IntKind.i64.wrap ((i:Int)+1)=((i+1:Nat):Int):=by rw[wrap64 ⟨by omega,by omega⟩];rfl
 simp only[u_C l54_1.eq_1,rn,pevA,seval,f0,f3,f4,f5,byR_len,c1,hget,b32,b9,b10,b13,hw1]
 exact⟨(m,i+1,acc),Nat.lt_succ_self m,_,AH.le_refl _,id,f0,f3,rfl,hlt,by show acc.length<=i+1;omega,by rw[hd1];exact hq,f2,E,tag,t',f4,hE,hT,rfl⟩
set_option maxRecDepth 4000 in
theorem split_w1 (K:Nat->Prop)(h:AH)(hK:KOk K h)(b:Nat)(hb:h.objs b=none)(hk:¬K b)(B:List UInt8)(hB:B.length<=20000)(E3:TypeId)(t0:Nat->Option Tok)(ts:List Tk)(er:Option Nat)(R:CExit->AQ)
  (hR1:∀i:Nat,er=some i->∀(fr:AFr)(m:AH),fr 2=.lst 0 [] .nil->fr 3=.rptr [.int .i64 101,.bool true,.int .i64 i]->(h.tk t0).le m->R .ret fr m)
  (m i:Nat)(acc:List Tk)(fr:AFr)(f0:fr 0=.lst 5 (byR B) .no)(f3:fr 3=.ptr b 0)(f5:fr 5=.int .i64 (i:Nat))(hacc:acc.length<=i)(f2:fr 2=.lst 0 [] .nil)(E:TypeId)(tag:Tag)(t':Nat->Option Tok)(f4:fr 4=.lst E (tkC acc) tag)(hE:tkC acc≠[]->E=145)(hT:Toks t0 t' [(tag,145,4,0)])
  (c:UInt8)(r:List UInt8)(hd:B.drop i=c::r)(b32:decide ((c.toNat:Int)=32)=false)(b9:decide ((c.toNat:Int)=9)=false)(b10:decide ((c.toNat:Int)=10)=false)(b13:decide ((c.toNat:Int)=13)=false)(h45:decide ((c.toNat:Int)=45)=false)(hq:(if (wordV (c::r) c).2=0 then some ([],some i) else splitS m ((c::r).drop (wordV (c::r) c).2) (i+(wordV (c::r) c).2) (acc++[{(wordV (c::r) c).1 with pos:=i}]))=some (ts,er)) :
  wpC T K l54_1 fr ((h.set b (.cells zeroF E3)).tk t') (kLp (splK K h b B E3 t0 ts er) (fun x=>x.1) (m+1,i,acc) R):=by
 obtain⟨hlt,hget,hd1⟩:=drop_cons hd
 have c1:decide ((i:Int)<(B.length:Int))=true:=decide_eq_true (by omega)
 have hw1:IntKind.i64.wrap ((i:Int)+1)=((i+1:Nat):Int):=by rw[wrap64 ⟨by omega,by omega⟩];rfl
 obtain⟨d0,B',hB0⟩ : ∃d0 B',B=d0::B':=by cases B with|nil=>simp at hlt|cons d0 B'=>exact⟨d0,B',rfl⟩
 have hBc:byR B=[.int .u8 d0.toNat]::byR B':=by rw[hB0,byR_cons]
 have hEa:(∀x:List AV,x∈[AV.int .u8 (d0.toNat:Int)]::byR B'->x.length=1)=True:=eq_true (by rw[<-hBc];exact byR_each B)
 have a1:(0<=(i:Int))=True:=eq_true (by omega)
 have a2:((i:Int)<=((B'.length+1:Nat):Int))=True:=eq_true (by have:=congrArg List.length hB0;rw[List.length_cons] at this;omega)
 have hi:i<=B.length:=by omega
 have hlr:(c::r).length=B.length-i:=by rw[<-hd,List.length_drop]
 have hlen:(c::r).length<=1000000:=by omega
 simp only[u_C l54_1.eq_1,rn,pevA,seval,f0,f3,f4,f5,byR_len,c1,hget,b32,b9,b10,b13,h45]
 rw[hBc]
 simp only[rn,pevA,seval,hEa,a1,a2,byR_len,Option.map,and_self,if_true,Int.toNat_natCast,Nat.sub_zero,Int.le_refl]
 rw[<-hBc,byR_drop,hd,List.take_of_length_le (by rw[byR_len,hlr,hB0];exact Nat.le_refl _)]
 refine (wordOf_ok .no c r hlen).use ?_
 have hwl:=wordV_le (c::r) c (by simp)
 rw[hlr] at hwl
 generalize wordV (c::r) c=w at hq hwl ⊢
 obtain⟨⟨wk,wp,wt,wn⟩,N⟩:=w
 simp only[wordR,tkR,rn,pevA,seval,f0,f3,f4,f5]
 intro b2 hb2 hk2
 obtain⟨n2,hb2⟩:=AH.set_none.1 hb2
 simp only[rn,pevA,seval,f0,f3,f4,f5,kN,n2,n2.symm,hk2]
 by_cases hN:N=0
 ·subst hN
  rw[if_pos rfl] at hq
  cases hq
  simp only[rn,pevA,seval,f0,f3,f4,f5,kN,n2,n2.symm,(by decide:decide (((0:Nat):Int)=0)=true)]
  refine (placed_ok 101 i (by decide)).use ?_
  simp only[rn,pevA,seval,f0,f3,f4,f5,kN,n2,n2.symm,hk]
  exact hR1 i rfl _ _ rfl rfl ⟨(le_del (le_set (le_set (AH.le_refl h) hb) hb2) hb).1,hT.le⟩
 ·have cN:decide (((N:Nat):Int)=0)=false:=decide_eq_false (by omega)
  rw[if_neg hN] at hq
  have hwN:IntKind.i64.wrap ((i:Int)+(N:Int))=((i+N:Nat):Int):=by rw[wrap64 ⟨by omega,by omega⟩];rfl
  simp only[rn,pevA,seval,f0,f3,f4,f5,kN,n2,n2.symm,hk2,cN]
  refine WO.append (i:=0) hT rfl rfl rfl trivial (by decide) (by simp) rfl (.inr rfl) (fun _=>?_) ?_ fun tag2 t2 hT2=>?_
  ·simp[capOk,tkC_len];omega
  ·simp[big_eq,tkC_len];omega
  have hrow:tkC acc++[[.int .i64 wk,.int .i64 (i:Nat),.str wt,.int .i64 wn]]=tkC (acc++[⟨wk,i,wt,wn⟩]):=by simp[tkC,tkR]
  rw[hrow]
  simp only[rn,pevA,seval,f0,f3,f4,f5,kN,n2,n2.symm,hwN]
  exact⟨(m,i+N,acc++[⟨wk,i,wt,wn⟩]),Nat.lt_succ_self m,(h.set b (.cells zeroF E3)).tk t2,le_new (AH.set_none.2 ⟨n2,hb2⟩),fun _=>hK.set b _,f0,f3,rfl,by show i+N<=B.length;omega,by show (acc++[_]).length<=i+N;simp;omega,by rw[<-drop_add,hd];exact hq,f2,145,tag2,t2,rfl,fun _=>rfl,hT2,rfl⟩
set_option maxRecDepth 4000 in
theorem split_w2 (K:Nat->Prop)(h:AH)(hK:KOk K h)(b:Nat)(hb:h.objs b=none)(hk:¬K b)(B:List UInt8)(hB:B.length<=20000)(E3:TypeId)(t0:Nat->Option Tok)(ts:List Tk)(er:Option Nat)(R:CExit->AQ)
  (hR1:∀i:Nat,er=some i->∀(fr:AFr)(m:AH),fr 2=.lst 0 [] .nil->fr 3=.rptr [.int .i64 101,.bool true,.int .i64 i]->(h.tk t0).le m->R .ret fr m)
  (m i:Nat)(acc:List Tk)(fr:AFr)(f0:fr 0=.lst 5 (byR B) .no)(f3:fr 3=.ptr b 0)(f5:fr 5=.int .i64 (i:Nat))(hacc:acc.length<=i)(f2:fr 2=.lst 0 [] .nil)(E:TypeId)(tag:Tag)(t':Nat->Option Tok)(f4:fr 4=.lst E (tkC acc) tag)(hE:tkC acc≠[]->E=145)(hT:Toks t0 t' [(tag,145,4,0)])
  (c:UInt8)(r:List UInt8)(hd:B.drop i=c::r)(b32:decide ((c.toNat:Int)=32)=false)(b9:decide ((c.toNat:Int)=9)=false)(b10:decide ((c.toNat:Int)=10)=false)(b13:decide ((c.toNat:Int)=13)=false)(h45:decide ((c.toNat:Int)=45)=true)(c2:decide (((i+1:Nat):Int)<(B.length:Int))=false)(hq:(if (wordV (c::r) c).2=0 then some ([],some i) else splitS m ((c::r).drop (wordV (c::r) c).2) (i+(wordV (c::r) c).2) (acc++[{(wordV (c::r) c).1 with pos:=i}]))=some (ts,er)) :
  wpC T K l54_1 fr ((h.set b (.cells zeroF E3)).tk t') (kLp (splK K h b B E3 t0 ts er) (fun x=>x.1) (m+1,i,acc) R):=by
 obtain⟨hlt,hget,hd1⟩:=drop_cons hd
 have c1:decide ((i:Int)<(B.length:Int))=true:=decide_eq_true (by omega)
 have hw1:IntKind.i64.wrap ((i:Int)+1)=((i+1:Nat):Int):=by rw[wrap64 ⟨by omega,by omega⟩];rfl
 obtain⟨d0,B',hB0⟩ : ∃d0 B',B=d0::B':=by cases B with|nil=>simp at hlt|cons d0 B'=>exact⟨d0,B',rfl⟩
 have hBc:byR B=[.int .u8 d0.toNat]::byR B':=by rw[hB0,byR_cons]
 have hEa:(∀x:List AV,x∈[AV.int .u8 (d0.toNat:Int)]::byR B'->x.length=1)=True:=eq_true (by rw[<-hBc];exact byR_each B)
 have a1:(0<=(i:Int))=True:=eq_true (by omega)
 have a2:((i:Int)<=((B'.length+1:Nat):Int))=True:=eq_true (by have:=congrArg List.length hB0;rw[List.length_cons] at this;omega)
 have hi:i<=B.length:=by omega
 have hlr:(c::r).length=B.length-i:=by rw[<-hd,List.length_drop]
 have hlen:(c::r).length<=1000000:=by omega
 simp only[u_C l54_1.eq_1,rn,pevA,seval,f0,f3,f4,f5,byR_len,c1,hget,b32,b9,b10,b13,h45,hw1,c2]
 rw[hBc]
 simp only[rn,pevA,seval,hEa,a1,a2,byR_len,Option.map,and_self,if_true,Int.toNat_natCast,Nat.sub_zero,Int.le_refl]
 rw[<-hBc,byR_drop,hd,List.take_of_length_le (by rw[byR_len,hlr,hB0];exact Nat.le_refl _)]
 refine (wordOf_ok .no c r hlen).use ?_
 have hwl:=wordV_le (c::r) c (by simp)
 rw[hlr] at hwl
 generalize wordV (c::r) c=w at hq hwl ⊢
 obtain⟨⟨wk,wp,wt,wn⟩,N⟩:=w
 simp only[wordR,tkR,rn,pevA,seval,f0,f3,f4,f5]
 intro b2 hb2 hk2
 obtain⟨n2,hb2⟩:=AH.set_none.1 hb2
 simp only[rn,pevA,seval,f0,f3,f4,f5,kN,n2,n2.symm,hk2]
 by_cases hN:N=0
 ·subst hN
  rw[if_pos rfl] at hq
  cases hq
  simp only[rn,pevA,seval,f0,f3,f4,f5,kN,n2,n2.symm,(by decide:decide (((0:Nat):Int)=0)=true)]
  refine (placed_ok 101 i (by decide)).use ?_
  simp only[rn,pevA,seval,f0,f3,f4,f5,kN,n2,n2.symm,hk]
  exact hR1 i rfl _ _ rfl rfl ⟨(le_del (le_set (le_set (AH.le_refl h) hb) hb2) hb).1,hT.le⟩
 ·have cN:decide (((N:Nat):Int)=0)=false:=decide_eq_false (by omega)
  rw[if_neg hN] at hq
  have hwN:IntKind.i64.wrap ((i:Int)+(N:Int))=((i+N:Nat):Int):=by rw[wrap64 ⟨by omega,by omega⟩];rfl
  simp only[rn,pevA,seval,f0,f3,f4,f5,kN,n2,n2.symm,hk2,cN]
  refine WO.append (i:=0) hT rfl rfl rfl trivial (by decide) (by simp) rfl (.inr rfl) (fun _=>?_) ?_ fun tag2 t2 hT2=>?_
  ·simp[capOk,tkC_len];omega
  ·simp[big_eq,tkC_len];omega
  have hrow:tkC acc++[[.int .i64 wk,.int .i64 (i:Nat),.str wt,.int .i64 wn]]=tkC (acc++[⟨wk,i,wt,wn⟩]):=by simp[tkC,tkR]
  rw[hrow]
  simp only[rn,pevA,seval,f0,f3,f4,f5,kN,n2,n2.symm,hwN]
  exact⟨(m,i+N,acc++[⟨wk,i,wt,wn⟩]),Nat.lt_succ_self m,(h.set b (.cells zeroF E3)).tk t2,le_new (AH.set_none.2 ⟨n2,hb2⟩),fun _=>hK.set b _,f0,f3,rfl,by show i+N<=B.length;omega,by show (acc++[_]).length<=i+N;simp;omega,by rw[<-drop_add,hd];exact hq,f2,145,tag2,t2,rfl,fun _=>rfl,hT2,rfl⟩
set_option maxRecDepth 4000 in
theorem split_w3 (K:Nat->Prop)(h:AH)(hK:KOk K h)(b:Nat)(hb:h.objs b=none)(hk:¬K b)(B:List UInt8)(hB:B.length<=20000)(E3:TypeId)(t0:Nat->Option Tok)(ts:List Tk)(er:Option Nat)(R:CExit->AQ)
  (hR1:∀i:Nat,er=some i->∀(fr:AFr)(m:AH),fr 2=.lst 0 [] .nil->fr 3=.rptr [.int .i64 101,.bool true,.int .i64 i]->(h.tk t0).le m->R .ret fr m)
  (m i:Nat)(acc:List Tk)(fr:AFr)(f0:fr 0=.lst 5 (byR B) .no)(f3:fr 3=.ptr b 0)(f5:fr 5=.int .i64 (i:Nat))(hacc:acc.length<=i)(f2:fr 2=.lst 0 [] .nil)(E:TypeId)(tag:Tag)(t':Nat->Option Tok)(f4:fr 4=.lst E (tkC acc) tag)(hE:tkC acc≠[]->E=145)(hT:Toks t0 t' [(tag,145,4,0)])
  (c:UInt8)(r:List UInt8)(hd:B.drop i=c::r)(b32:decide ((c.toNat:Int)=32)=false)(b9:decide ((c.toNat:Int)=9)=false)(b10:decide ((c.toNat:Int)=10)=false)(b13:decide ((c.toNat:Int)=13)=false)(h45:decide ((c.toNat:Int)=45)=true)(c2:decide (((i+1:Nat):Int)<(B.length:Int))=true)(d:UInt8)(hget2:(byR B)[i+1]?=some [.int .u8 d.toNat])(d45:decide ((d.toNat:Int)=45)=false)(hq:(if (wordV (c::r) c).2=0 then some ([],some i) else splitS m ((c::r).drop (wordV (c::r) c).2) (i+(wordV (c::r) c).2) (acc++[{(wordV (c::r) c).1 with pos:=i}]))=some (ts,er)) :
  wpC T K l54_1 fr ((h.set b (.cells zeroF E3)).tk t') (kLp (splK K h b B E3 t0 ts er) (fun x=>x.1) (m+1,i,acc) R):=by
 obtain⟨hlt,hget,hd1⟩:=drop_cons hd
 have c1:decide ((i:Int)<(B.length:Int))=true:=decide_eq_true (by omega)
 have hw1:IntKind.i64.wrap ((i:Int)+1)=((i+1:Nat):Int):=by rw[wrap64 ⟨by omega,by omega⟩];rfl
 obtain⟨d0,B',hB0⟩ : ∃d0 B',B=d0::B':=by cases B with|nil=>simp at hlt|cons d0 B'=>exact⟨d0,B',rfl⟩
 have hBc:byR B=[.int .u8 d0.toNat]::byR B':=by rw[hB0,byR_cons]
 have hEa:(∀x:List AV,x∈[AV.int .u8 (d0.toNat:Int)]::byR B'->x.length=1)=True:=eq_true (by rw[<-hBc];exact byR_each B)
 have a1:(0<=(i:Int))=True:=eq_true (by omega)
 have a2:((i:Int)<=((B'.length+1:Nat):Int))=True:=eq_true (by have:=congrArg List.length hB0;rw[List.length_cons] at this;omega)
 have hi:i<=B.length:=by omega
 have hlr:(c::r).length=B.length-i:=by rw[<-hd,List.length_drop]
 have hlen:(c::r).length<=1000000:=by omega
 simp only[u_C l54_1.eq_1,rn,pevA,seval,f0,f3,f4,f5,byR_len,c1,hget,b32,b9,b10,b13,h45,hw1,c2,hget2,d45]
 rw[hBc]
 simp only[rn,pevA,seval,hEa,a1,a2,byR_len,Option.map,and_self,if_true,Int.toNat_natCast,Nat.sub_zero,Int.le_refl]
 rw[<-hBc,byR_drop,hd,List.take_of_length_le (by rw[byR_len,hlr,hB0];exact Nat.le_refl _)]
 refine (wordOf_ok .no c r hlen).use ?_
 have hwl:=wordV_le (c::r) c (by simp)
 rw[hlr] at hwl
 generalize wordV (c::r) c=w at hq hwl ⊢
 obtain⟨⟨wk,wp,wt,wn⟩,N⟩:=w
 simp only[wordR,tkR,rn,pevA,seval,f0,f3,f4,f5]
 intro b2 hb2 hk2
 obtain⟨n2,hb2⟩:=AH.set_none.1 hb2
 simp only[rn,pevA,seval,f0,f3,f4,f5,kN,n2,n2.symm,hk2]
 by_cases hN:N=0
 ·subst hN
  rw[if_pos rfl] at hq
  cases hq
  simp only[rn,pevA,seval,f0,f3,f4,f5,kN,n2,n2.symm,(by decide:decide (((0:Nat):Int)=0)=true)]
  refine (placed_ok 101 i (by decide)).use ?_
  simp only[rn,pevA,seval,f0,f3,f4,f5,kN,n2,n2.symm,hk]
  exact hR1 i rfl _ _ rfl rfl ⟨(le_del (le_set (le_set (AH.le_refl h) hb) hb2) hb).1,hT.le⟩
 ·have cN:decide (((N:Nat):Int)=0)=false:=decide_eq_false (by omega)
  rw[if_neg hN] at hq
  have hwN:IntKind.i64.wrap ((i:Int)+(N:Int))=((i+N:Nat):Int):=by rw[wrap64 ⟨by omega,by omega⟩];rfl
  simp only[rn,pevA,seval,f0,f3,f4,f5,kN,n2,n2.symm,hk2,cN]
  refine WO.append (i:=0) hT rfl rfl rfl trivial (by decide) (by simp) rfl (.inr rfl) (fun _=>?_) ?_ fun tag2 t2 hT2=>?_
  ·simp[capOk,tkC_len];omega
  ·simp[big_eq,tkC_len];omega
  have hrow:tkC acc++[[.int .i64 wk,.int .i64 (i:Nat),.str wt,.int .i64 wn]]=tkC (acc++[⟨wk,i,wt,wn⟩]):=by simp[tkC,tkR]
  rw[hrow]
  simp only[rn,pevA,seval,f0,f3,f4,f5,kN,n2,n2.symm,hwN]
  exact⟨(m,i+N,acc++[⟨wk,i,wt,wn⟩]),Nat.lt_succ_self m,(h.set b (.cells zeroF E3)).tk t2,le_new (AH.set_none.2 ⟨n2,hb2⟩),fun _=>hK.set b _,f0,f3,rfl,by show i+N<=B.length;omega,by show (acc++[_]).length<=i+N;simp;omega,by rw[<-drop_add,hd];exact hq,f2,145,tag2,t2,rfl,fun _=>rfl,hT2,rfl⟩
set_option maxRecDepth 4000 in
theorem split_r (K:Nat->Prop)(h:AH)(hK:KOk K h)(b:Nat)(hb:h.objs b=none)(hk:¬K b)(B:List UInt8)(hB:B.length<=20000)(E3:TypeId)(t0:Nat->Option Tok)(ts:List Tk)(er:Option Nat)(R:CExit->AQ)
  (hR1:∀i:Nat,er=some i->∀(fr:AFr)(m:AH),fr 2=.lst 0 [] .nil->fr 3=.rptr [.int .i64 101,.bool true,.int .i64 i]->(h.tk t0).le m->R .ret fr m)
  (m i:Nat)(acc:List Tk)(fr:AFr)(f0:fr 0=.lst 5 (byR B) .no)(f3:fr 3=.ptr b 0)(f5:fr 5=.int .i64 (i:Nat))(hacc:acc.length<=i)(f2:fr 2=.lst 0 [] .nil)(E:TypeId)(tag:Tag)(t':Nat->Option Tok)(f4:fr 4=.lst E (tkC acc) tag)(hE:tkC acc≠[]->E=145)(hT:Toks t0 t' [(tag,145,4,0)])
  (c:UInt8)(r:List UInt8)(hd:B.drop i=c::r)(b32:decide ((c.toNat:Int)=32)=false)(b9:decide ((c.toNat:Int)=9)=false)(b10:decide ((c.toNat:Int)=10)=false)(b13:decide ((c.toNat:Int)=13)=false)(h45:decide ((c.toNat:Int)=45)=true)(c2:decide (((i+1:Nat):Int)<(B.length:Int))=true)(d:UInt8)(hget2:(byR B)[i+1]?=some [.int .u8 d.toNat])(d45:decide ((d.toNat:Int)=45)=true)(hq:splitS m ((c::r).drop (spanB lineB (c::r) 0)) (i+spanB lineB (c::r) 0) acc=some (ts,er)) :
  wpC T K l54_1 fr ((h.set b (.cells zeroF E3)).tk t') (kLp (splK K h b B E3 t0 ts er) (fun x=>x.1) (m+1,i,acc) R):=by
 obtain⟨hlt,hget,hd1⟩:=drop_cons hd
 have c1:decide ((i:Int)<(B.length:Int))=true:=decide_eq_true (by omega)
 have hw1:IntKind.i64.wrap ((i:Int)+1)=((i+1:Nat):Int):=by rw[wrap64 ⟨by omega,by omega⟩];rfl
 simp only[u_C l54_1.eq_1,rn,pevA,seval,f0,f3,f4,f5,byR_len,c1,hget,b32,b9,b10,b13,h45,hw1,c2,hget2,d45]
 have hs:spanB lineB B i=i+spanB lineB (c::r) 0:=by rw[spanB_drop,hd]
 have hsl:=spanB_le (p:=lineB) (l:=B) (n:=i) (by omega)
 refine line_loop K _ 5 .no B (by omega) i (by omega) _ _ (fun fr2 hf g5=>?_) (by exact f0) (by exact f5)
 have g0:fr2 0=.lst 5 (byR B) .no:=by rw[hf 0 (by decide) (by decide)];exact f0
 have g2:fr2 2=.lst 0 [] .nil:=by rw[hf 2 (by decide) (by decide)];exact f2
 have g3:fr2 3=.ptr b 0:=by rw[hf 3 (by decide) (by decide)];exact f3
 have g4:fr2 4=.lst E (tkC acc) tag:=by rw[hf 4 (by decide) (by decide)];exact f4
 simp only[rn,pevA,seval]
 exact⟨(m,i+spanB lineB (c::r) 0,acc),Nat.lt_succ_self m,_,AH.le_refl _,id,g0,g3,by rw[g5,hs],by show i+spanB lineB (c::r) 0<=B.length;omega,by show acc.length<=i+spanB lineB (c::r) 0;omega,by rw[<-drop_add,hd];exact hq,g2,E,tag,t',g4,hE,hT,rfl⟩
theorem split_loop (K:Nat->Prop)(h:AH)(hK:KOk K h)(b:Nat)(hb:h.objs b=none)(hk:¬K b)(B:List UInt8)(hB:B.length<=20000)(E3:TypeId)(t0:Nat->Option Tok)(ts:List Tk)(er:Option Nat)(R:CExit->AQ)
  (hR0:er=none->ts.length<=20000->∀(fr:AFr)(E:TypeId)(tag:Tag)(t':Nat->Option Tok),fr 3=.ptr b 0->fr 4=.lst E (tkC ts) tag->(tkC ts≠[]->E=145)->(∀c k,t0 c=some k->t' c=some k)->R (.exit 0) fr ((h.set b (.cells zeroF E3)).tk t'))
  (hR1:∀i:Nat,er=some i->∀(fr:AFr)(m:AH),fr 2=.lst 0 [] .nil->fr 3=.rptr [.int .i64 101,.bool true,.int .i64 i]->(h.tk t0).le m->R .ret fr m)
  (n:Nat)(hq:splitS n B 0 []=some (ts,er))(fr:AFr)(f0:fr 0=.lst 5 (byR B) .no)(f2:fr 2=.lst 0 [] .nil)(f3:fr 3=.ptr b 0)(f4:fr 4=.lst 0 [] .nil)(f5:fr 5=.int .i64 0) :
  W T K (.loop l54_1.toC) fr ((h.set b (.cells zeroF E3)).tk t0) R:=by
 refine aloopD (α:=Nat×Nat×List Tk) (splI h b B E3 t0 ts er) (fun x=>x.1) (n,0,[])
  ⟨f0,f3,f5,Nat.zero_le _,Nat.le_refl _,by simpa using hq,f2,0,.nil,t0,f4,fun h=>absurd rfl h,.one _ _ _,rfl⟩ ?_
 clear hq f0 f3 f4 f5 f2
 rintro⟨m,i,acc⟩ fr h1 ⟨f0,f3,f5,hi,hacc,hq,f2,E,tag,t',f4,hE,hT,rfl⟩
 simp only at f5 hi hacc hq f4 hE
 cases m with
 |zero=>rw[splitS] at hq;cases hq
 |succ m=>
  cases hd:B.drop i with
  |nil=>
   have hle:B.length<=i:=by simpa using hd
   obtain rfl:i=B.length:=by omega
   rw[hd,splitS] at hq
   cases hq
   have c1:decide ((B.length:Int)<(B.length:Int))=false:=by simp
   simp only[u_C l54_1.eq_1,rn,pevA,seval,f0,f3,f4,f5,byR_len,c1]
   exact hR0 rfl (by omega) _ E tag t' f3 f4 hE hT.le
  |cons c r=>
   rw[hd,splitS] at hq
   show wpC T K l54_1 fr _ (kLp (splK K h b B E3 t0 ts er) (fun x=>x.1) (m+1,i,acc) R)
   have bl:blankB c=(decide ((c.toNat:Int)=32) || decide ((c.toNat:Int)=9) || decide ((c.toNat:Int)=10) || decide ((c.toNat:Int)=13)):=rfl
   cases b32:decide ((c.toNat:Int)=32) with
   |true=>
    rw[b32,Bool.true_or,Bool.true_or,Bool.true_or] at bl
    rw[if_pos bl] at hq
    exact split_b32 K h hK b hb hk B hB E3 t0 ts er R hR1 m i acc fr f0 f3 f5 hacc f2 E tag t' f4 hE hT c r hd b32 hq
   |false=>
   cases b9:decide ((c.toNat:Int)=9) with
   |true=>
    rw[b32,b9,Bool.false_or,Bool.true_or,Bool.true_or] at bl
    rw[if_pos bl] at hq
    exact split_b9 K h hK b hb hk B hB E3 t0 ts er R hR1 m i acc fr f0 f3 f5 hacc f2 E tag t' f4 hE hT c r hd b32 b9 hq
   |false=>
   cases b10:decide ((c.toNat:Int)=10) with
   |true=>
    rw[b32,b9,b10,Bool.false_or,Bool.false_or,Bool.true_or] at bl
    rw[if_pos bl] at hq
    exact split_b10 K h hK b hb hk B hB E3 t0 ts er R hR1 m i acc fr f0 f3 f5 hacc f2 E tag t' f4 hE hT c r hd b32 b9 b10 hq
   |false=>
   cases b13:decide ((c.toNat:Int)=13) with
   |true=>
    rw[b32,b9,b10,b13,Bool.false_or,Bool.false_or,Bool.false_or] at bl
    rw[if_pos bl] at hq
    exact split_b13 K h hK b hb hk B hB E3 t0 ts er R hR1 m i acc fr f0 f3 f5 hacc f2 E tag t' f4 hE hT c r hd b32 b9 b10 b13 hq
   |false=>
   rw[b32,b9,b10,b13,Bool.false_or,Bool.false_or,Bool.false_or] at bl
   rw[if_neg (by rw[bl];decide)] at hq
   have hlr:(c::r).length=B.length-i:=by rw[<-hd,List.length_drop]
   cases h45:decide ((c.toNat:Int)=45) with
   |false=>
    have hr:remarkB (c::r)=false:=by cases r<;>simp only[remarkB,h45,Bool.false_and]
    rw[if_neg (by rw[hr];decide)] at hq
    exact split_w1 K h hK b hb hk B hB E3 t0 ts er R hR1 m i acc fr f0 f3 f5 hacc f2 E tag t' f4 hE hT c r hd b32 b9 b10 b13 h45 hq
   |true=>
    cases r with
    |nil=>
     have c2:decide (((i+1:Nat):Int)<(B.length:Int))=false:=decide_eq_false (by rw[List.length_cons,List.length_nil] at hlr;omega)
     rw[if_neg (by show ¬(false=true);decide)] at hq
     exact split_w2 K h hK b hb hk B hB E3 t0 ts er R hR1 m i acc fr f0 f3 f5 hacc f2 E tag t' f4 hE hT c [] hd b32 b9 b10 b13 h45 c2 hq
    |cons d r=>
     have c2:decide (((i+1:Nat):Int)<(B.length:Int))=true:=decide_eq_true (by rw[List.length_cons,List.length_cons] at hlr;omega)
     obtain⟨_,hget2,_⟩:=drop_cons (drop_cons hd).2.2
     cases d45:decide ((d.toNat:Int)=45) with
     |false=>
      have hr:remarkB (c::d::r)=false:=by simp only[remarkB,h45,d45,Bool.and_false]
      rw[if_neg (by rw[hr];decide)] at hq
      exact split_w3 K h hK b hb hk B hB E3 t0 ts er R hR1 m i acc fr f0 f3 f5 hacc f2 E tag t' f4 hE hT c (d::r) hd b32 b9 b10 b13 h45 c2 d hget2 d45 hq
     |true=>
      have hr:remarkB (c::d::r)=true:=by simp only[remarkB,h45,d45,Bool.and_true]
      rw[if_pos hr] at hq
      exact split_r K h hK b hb hk B hB E3 t0 ts er R hR1 m i acc fr f0 f3 f5 hacc f2 E tag t' f4 hE hT c (d::r) hd b32 b9 b10 b13 h45 c2 d hget2 d45 hq
theorem splitS_some:∀(n:Nat)(l:List UInt8)(i:Nat)(acc:List Tk),l.length<n->∃x,splitS n l i acc=some x
 |0,l,i,acc,h=>by omega
 |n+1,[],i,acc,h=>⟨_,rfl⟩
 |n+1,c::r,i,acc,h=>by
  rw[splitS]
  rw[List.length_cons] at h
  split
  ·exact splitS_some n _ _ _ (by omega)
  ·split
   ·rename_i hr
    have:0<spanB lineB (c::r) 0:=by
     cases r with
     |nil=>cases hr
     |cons d r=>
      rw[remarkB,Bool.and_eq_true] at hr
      have hc:lineB c=true:=by
       have:=of_decide_eq_true hr.1
       unfold lineB;rw[this];rfl
      unfold spanB
      rw[List.drop_zero,List.takeWhile_cons,if_pos hc,List.length_cons];omega
    exact splitS_some n _ _ _ (by rw[List.length_drop,List.length_cons];omega)
   ·split
    ·exact⟨_,rfl⟩
    ·exact splitS_some n _ _ _ (by rw[List.length_drop,List.length_cons];omega)
def splitV (l:List UInt8):List Tk×Int×Bool×Int:=
 if 20000<l.length then ([],111,true,20000) else match splitS (l.length+1) l 0 [] with
  |some (ts,none)=>(ts,0,false,0)
  |some (_,some i)=>([],101,true,(i:Int))
  |none=>([],0,false,0)
theorem none_ok:Pure T 69 [] (.agg [.int .i64 0,.bool false,.int .i64 0]):=by
 intro K h
 refine ACall.ret t69 fun hK=>?_
 simp only[u_C c69.eq_1,rn,pevA,seval]
 intro b hb hk
 simp only[rn,pevA,seval]
 exact⟨hk,.refl _,by rw[s_del hb];exact AH.le_refl _⟩
theorem split_ok (l:List UInt8)(hl:l.length<=big):Pure T 54 [.lst 5 (byR l) .no] (.tuple [.lst 145 (tkC (splitV l).1) .no,.agg [.int .i64 (splitV l).2.1,.bool (splitV l).2.2.1,.int .i64 (splitV l).2.2.2]]):=by
 intro K h
 refine ACall.ret t54 fun hK=>?_
 by_cases hlen:20000<l.length
 ·have c1:decide ((20000:Int)<(l.length:Int))=true:=decide_eq_true (by omega)
  have hv:splitV l=([],111,true,20000):=by unfold splitV;rw[if_pos hlen]
  rw[hv]
  simp only[u_C c54.eq_1,rn,pevA,seval]
  intro b hb hk
  simp only[rn,pevA,seval,byR_len,c1]
  refine (placed_ok 111 20000 (by decide)).use ?_
  simp only[rn,pevA,seval]
  exact⟨hk,.tupL ⟨.nil _ _ _,.refl _,trivial⟩,by rw[s_del hb];exact AH.le_refl _⟩
 ·have c1:decide ((20000:Int)<(l.length:Int))=false:=decide_eq_false (by omega)
  obtain⟨⟨ts,er⟩,hq⟩:=splitS_some (l.length+1) l 0 [] (Nat.lt_succ_self _)
  have hv0:er=none->splitV l=(ts,0,false,0):=fun he=>by unfold splitV;rw[if_neg hlen,hq,he]
  have hv1:∀i:Nat,er=some i->splitV l=([],101,true,(i:Int)):=fun i he=>by unfold splitV;rw[if_neg hlen,hq,he]
  simp only[u_C c54.eq_1,rn,pevA,seval]
  intro b hb hk
  simp only[rn,pevA,seval,byR_len,c1]
  refine split_loop K h hK b hb hk l (by omega) _ h.toks ts er _ (fun he hts fr E tag t' f3 f4 hE ht=>?_) (fun i he fr m f2 f3 hle=>?_) _ hq _ rfl rfl rfl rfl rfl
  ·rw[hv0 he]
   simp only[rn,pevA,seval,f3,f4]
   refine none_ok.use ?_
   simp only[rn,pevA,seval,f3,f4]
   exact⟨hk,.tupL ⟨.lstE hE,.refl _,trivial⟩,⟨(by rw[s_del hb];exact (AH.le_refl h).1),ht⟩⟩
  ·rw[hv1 i he]
   simp only[rn,pevA,seval,f2,f3]
   exact⟨.tupL ⟨.nil _ _ _,.refl _,trivial⟩,hle⟩
theorem splitS_len:∀(n:Nat)(l:List UInt8)(i:Nat)(acc ts:List Tk)(er:Option Nat),splitS n l i acc=some (ts,er)->ts.length<=acc.length+l.length
 |0,l,i,acc,ts,er,h=>by rw[splitS] at h;cases h
 |n+1,[],i,acc,ts,er,h=>by rw[splitS] at h;cases h;exact Nat.le_add_right _ _
 |n+1,c::r,i,acc,ts,er,h=>by
  rw[splitS] at h
  split at h
  ·have:=splitS_len n _ _ _ _ _ h
   rw[List.length_cons];omega
  ·split at h
   ·have:=splitS_len n _ _ _ _ _ h
    rw[List.length_drop] at this;omega
   ·split at h
    ·cases h;exact Nat.zero_le _
    ·rename_i h0
     have:=splitS_len n _ _ _ _ _ h
     have h2:=wordV_le (c::r) c (by simp)
     rw[List.length_drop,List.length_append] at this
     simp only[List.length_cons,List.length_nil] at this h2 ⊢
     omega
theorem splitV_len (l:List UInt8):(splitV l).1.length<=20000:=by
 unfold splitV
 split
 ·exact Nat.zero_le _
 ·split
  ·rename_i ts h
   have:=splitS_len _ _ _ _ _ _ h
   simp at this
   show ts.length<=_
   omega
  ·exact Nat.zero_le _
  ·exact Nat.zero_le _
end Go.Proofs.YtinbjdkibmkgbaaGreatDoor.p
namespace Go.Proofs.YtinbjdkibmkgbaaGreatDoor.p
open Go.Proofs Go Go.Cn code
set_option linter.unusedSimpArgs false
set_option linter.unusedVariables false
def rem (ts:List Tk)(s:St):Nat:=if fineS s then ts.length+1-s.i else 0
section
variable {ts:List Tk}{e:Int}{s s':St}
theorem rem_mv (h:Mv ts s s'):rem ts s'<=rem ts s:=by
 unfold rem
 by_cases hf:fineS s'=true
 ·rw[if_pos hf,if_pos (h.f hf)];have:=h.i;omega
 ·rw[if_neg hf];exact Nat.zero_le _
theorem rem_mvs (h:Mvs ts s s')(hs:s.i<=ts.length)(hf:fineS s=true):rem ts s'<rem ts s:=by
 unfold rem
 rw[if_pos hf]
 by_cases hf':fineS s'=true
 ·rw[if_pos hf'];have:=h.lt hf';omega
 ·rw[if_neg hf'];omega
theorem lows_tot:∀(n:Nat)(acc:List Nm)(s:St),s.i<=ts.length->rem ts s+1<=n->∃r,lowsS ts e n acc s=some r
 |0,acc,s,hs,h=>by omega
 |n+1,acc,s,hs,h=>by
  rw[lowsS]
  split
  ·rename_i c
   have m:=Mvs.word (ts:=ts) (e:=e) 1 s
   have:=rem_mvs m hs (kindS_fine c)
   exact lows_tot n _ _ (m.m.le hs) (by omega)
  ·exact⟨_,rfl⟩
theorem unders_tot:∀(n:Nat)(acc:List Nm)(s:St),s.i<=ts.length->rem ts s+1<=n->∃r,undersS ts n acc s=some r
 |0,acc,s,hs,h=>by omega
 |n+1,acc,s,hs,h=>by
  rw[undersS]
  split
  ·rename_i c
   rw[Bool.or_eq_true] at c
   have m:Mvs ts s (nextS s):=by
    rcases c with c|c
    ·exact .kd c
    ·exact .is c
   have hf:fineS s=true:=by
    rcases c with c|c
    ·exact kindS_fine c
    ·exact isS_fine c
   have:=rem_mvs m hs hf
   exact unders_tot n _ _ (m.m.le hs) (by omega)
  ·exact⟨_,rfl⟩
theorem semis_tot:∀(n:Nat)(s:St),s.i<=ts.length->rem ts s+1<=n->∃r,semisS ts n s=some r
 |0,s,hs,h=>by omega
 |n+1,s,hs,h=>by
  rw[semisS]
  split
  ·rename_i c
   have m:=Mvs.is c
   have:=rem_mvs m hs (isS_fine c)
   exact semis_tot n _ (m.m.le hs) (by omega)
  ·exact⟨_,rfl⟩
theorem semis_fine:∀(n:Nat)(s s1:St),semisS ts n s=some s1->fineS s1=fineS s
 |0,s,s1,h=>by rw[semisS] at h;cases h
 |n+1,s,s1,h=>by
  rw[semisS] at h
  split at h
  ·exact semis_fine n (nextS s) s1 h
  ·cases h;rfl
theorem ders_tot:∀(n:Nat)(acc:List Nm)(s:St),s.i<=ts.length->rem ts s+1<=n->∃r,dersS ts e n acc s=some r
 |0,acc,s,hs,h=>by omega
 |n+1,acc,s,hs,h=>by
  rw[dersS]
  split
  ·rename_i c
   have m:=(Mvs.is c).fst (Mvs.word (ts:=ts) (e:=e) 2 (nextS s)).m
   have:=rem_mvs m hs (isS_fine c)
   exact ders_tot n _ _ (m.m.le hs) (by omega)
  ·exact⟨_,rfl⟩
variable (hts:ts.length<=1000000)
include hts in
theorem arg_mvs {n:Nat}(hn:n<=most){t:Ty}(hs:s.i<=ts.length)(h:argS ts e n s=some (t,s')):Mvs ts s s':=by
 have p:=(types_prog n).1 _ _ _ h
 exact⟨⟨p.i,fun x=>(p.f x).1,fun _=>(arg_ok hts hn _ _ _ hs h).2⟩,fun x=>by have:=(p.f x).2;have:=cnt_pos t;omega⟩
include hts in
theorem applied_mvs {n:Nat}(hn:n<=most){t:Ty}(hs:s.i<=ts.length)(h:appliedS ts e n s=some (t,s')):Mvs ts s s':=by
 have p:=(types_prog n).2.2.1 _ _ _ h
 exact⟨⟨p.i,fun x=>(p.f x).1,fun _=>((types_ok hts n hn n (Nat.le_refl _)).2.1 _ _ _ hs h).2⟩,fun x=>by have:=(p.f x).2;have:=cnt_pos t;omega⟩
include hts in
theorem types_tot:∀n:Nat,n<=most->(∀s:St,s.i<=ts.length->20*rem ts s+1<=n->∃r,argS ts e n s=some r)/\(∀(acc:List Ty)(s:St),s.i<=ts.length->20*rem ts s+2<=n->∃r,argsS ts e n acc s=some r)/\
  (∀s:St,s.i<=ts.length->20*rem ts s+3<=n->∃r,appliedS ts e n s=some r)/\(∀s:St,s.i<=ts.length->20*rem ts s+4<=n->∃r,typS ts e n s=some r)
 |0,_=>⟨fun s hs h=>by omega,fun acc s hs h=>by omega,fun s hs h=>by omega,fun s hs h=>by omega⟩
 |n+1,hn=>by
  obtain⟨iA,iL,iP,iT⟩:=types_tot n (by omega)
  refine⟨fun s hs h=>?_,fun acc s hs h=>?_,fun s hs h=>?_,fun s hs h=>?_⟩
  ·rw[argS]
   split
   ·exact⟨_,rfl⟩
   ·split
    ·exact⟨_,rfl⟩
    ·split
     ·rename_i c
      have m:=Mvs.opn (e:=e) (isS_fine c) (isS_lt c)
      have:=rem_mvs m hs (isS_fine c)
      obtain⟨⟨t,s1⟩,h1⟩:=iT _ (m.m.le hs) (by omega)
      rw[h1];exact⟨_,rfl⟩
     ·exact⟨_,rfl⟩
  ·rw[argsS]
   split
   ·rename_i c
    obtain⟨⟨t,s1⟩,h1⟩:=iA _ hs (by omega)
    rw[h1]
    have m:=arg_mvs hts (by omega) hs h1
    have:=rem_mvs m hs (argument_fine c)
    exact iL _ _ (m.m.le hs) (by omega)
   ·exact⟨_,rfl⟩
  ·rw[appliedS]
   split
   ·rename_i c
    have m:=Mvs.word (ts:=ts) (e:=e) 2 s
    have:=rem_mvs m hs (kindS_fine c)
    obtain⟨⟨t,s1⟩,h1⟩:=iL [] _ (m.m.le hs) (by omega)
    rw[h1];exact⟨_,rfl⟩
   ·exact iA _ hs (by omega)
  ·rw[typS]
   obtain⟨⟨t,s1⟩,h1⟩:=iP _ hs (by omega)
   rw[h1]
   have m:=applied_mvs hts (by omega) hs h1
   have r1:=rem_mv m.m
   simp only
   split
   ·rename_i c
    have m2:=Mvs.is c
    have:=rem_mvs m2 (m.m.le hs) (isS_fine c)
    obtain⟨⟨u,s2⟩,h2⟩:=iT _ (m2.m.le (m.m.le hs)) (by omega)
    rw[h2];exact⟨_,rfl⟩
   ·exact⟨_,rfl⟩
include hts in
theorem pred_tot (plain:Bool){n:Nat}(hn:n<=most)(hs:s.i<=ts.length)(h:20*rem ts s+1<=n):∃r,predS ts e plain n s=some r:=by
 unfold predS
 split
 ·exact⟨_,rfl⟩
 ·have m:=(Mvs.word (ts:=ts) (e:=e) 2 s).m
  have:=rem_mv m
  obtain⟨⟨t,s1⟩,h1⟩:=(types_tot hts (e:=e) n hn).1 _ (m.le hs) (by omega)
  rw[h1];exact⟨_,rfl⟩
include hts in
theorem pred_mvs {plain:Bool}{n:Nat}(hn:n<=most){p:Pd}(hs:s.i<=ts.length)(h:predS ts e plain n s=some (p,s')):Mvs ts s s':=by
 have q:=pred_prog h
 exact⟨⟨q.i,fun x=>(q.f x).1,fun _=>(pred_ok hts hn _ _ _ _ hs h).2⟩,fun x=>by have:=(q.f x).2;have:=cnt_pos p.2;omega⟩
include hts in
theorem predsL_tot (plain:Bool):∀(n:Nat),n<=most->∀(acc:List Pd)(s:St),s.i<=ts.length->20*rem ts s+2<=n->∃r,predsL ts e plain n acc s=some r
 |0,_,acc,s,hs,h=>by omega
 |n+1,hn,acc,s,hs,h=>by
  rw[predsL]
  split
  ·rename_i c
   have m:=Mvs.is c
   have r1:=rem_mvs m hs (isS_fine c)
   obtain⟨⟨p,s1⟩,h1⟩:=pred_tot hts (e:=e) plain (n:=n) (by omega) (m.m.le hs) (by omega)
   rw[h1]
   have m2:=pred_mvs hts (by omega) (m.m.le hs) h1
   have:=rem_mv m2.m
   exact predsL_tot plain n (by omega) _ _ (m2.m.le (m.m.le hs)) (by omega)
  ·exact⟨_,rfl⟩
include hts in
theorem preds_tot (plain:Bool){n:Nat}(hn:n<=most)(hs:s.i<=ts.length)(h:20*rem ts s+2<=n):∃r,predsS ts e plain n s=some r:=by
 unfold predsS
 split
 ·split
  ·rename_i c
   have m:=Mvs.is c
   have r1:=rem_mvs m hs (isS_fine c)
   obtain⟨⟨p,s1⟩,h1⟩:=pred_tot hts (e:=e) plain (n:=n) hn (m.m.le hs) (by omega)
   rw[h1]
   have m2:=pred_mvs hts hn (m.m.le hs) h1
   have:=rem_mv m2.m
   obtain⟨⟨l,s2⟩,h2⟩:=predsL_tot hts (e:=e) plain n hn [p] s1 (m2.m.le (m.m.le hs)) (by omega)
   simp only
   rw[h2];exact⟨_,rfl⟩
  ·obtain⟨⟨p,s1⟩,h1⟩:=pred_tot hts (e:=e) plain (n:=n) hn hs (by omega)
   rw[h1];exact⟨_,rfl⟩
 ·exact⟨_,rfl⟩
include hts in
theorem scheme_tot {n:Nat}(hn:n+1<=most)(hs:s.i<=ts.length)(h:20*rem ts s+4<=n):∃r,schemeS ts e n s=some r:=by
 unfold schemeS
 obtain⟨⟨l,s1⟩,h1⟩:=preds_tot hts (e:=e) false (n:=n) (by omega) hs (by omega)
 rw[h1]
 have m:=preds_mv hts hn h1 hs
 have:=rem_mv m
 obtain⟨⟨t,s2⟩,h2⟩:=(types_tot hts (e:=e) n (by omega)).2.2.2 s1 (m.le hs) (by omega)
 simp only
 rw[h2];exact⟨_,rfl⟩
end
end Go.Proofs.YtinbjdkibmkgbaaGreatDoor.p
namespace Go.Proofs.YtinbjdkibmkgbaaGreatDoor.p
open Go.Proofs Go Go.Cn code
set_option linter.unusedSimpArgs false
set_option linter.unusedVariables false
structure TotAll (ts:List Tk)(e:Int)(n:Nat):Prop where
 expr:∀s:St,s.i<=ts.length->20*rem ts s+7<=n->∃r,exprS ts e n s=some r
 two:∀(a:Ex)(w:Nat)(s:St),s.i<=ts.length->fineS s=true->20*rem ts s+1<=n->∃r,twoS ts e n a w s=some r
 sum:∀s:St,s.i<=ts.length->20*rem ts s+6<=n->∃r,sumS ts e n s=some r
 sums:∀(a:Ex)(s:St),s.i<=ts.length->20*rem ts s+2<=n->∃r,sumsS ts e n a s=some r
 product:∀s:St,s.i<=ts.length->20*rem ts s+5<=n->∃r,productS ts e n s=some r
 products:∀(a:Ex)(s:St),s.i<=ts.length->20*rem ts s+2<=n->∃r,productsS ts e n a s=some r
 app:∀s:St,s.i<=ts.length->20*rem ts s+4<=n->∃r,appS ts e n s=some r
 apps:∀(a:Ex)(s:St),s.i<=ts.length->20*rem ts s+2<=n->∃r,appsS ts e n a s=some r
 one:∀s:St,s.i<=ts.length->20*rem ts s+1<=n->∃r,oneS ts e n s=some r
 alts:∀(acc:List (Nm×List Nm×Ex×Int))(s:St),s.i<=ts.length->20*rem ts s+3<=n->∃r,altsS ts e n acc s=some r
 df:∀(g:List Sg)(bs:List Bi)(s:St),s.i<=ts.length->fineS s=true->20*rem ts s+1<=n->∃r,defS ts e n g bs s=some r
 defs:∀(g:List Sg)(bs:List Bi)(s:St),s.i<=ts.length->20*rem ts s+3<=n->∃r,defsL ts e n g bs s=some r
section
variable {ts:List Tk}{e:Int}{s s':St}
theorem sign_fine {l:List Nm}(h:signS ts l s=true):fineS s=true:=by
 unfold signS at h
 rw[Bool.and_eq_true] at h
 exact kindS_fine h.1
theorem pat_tot {n:Nat}(hs:s.i<=ts.length)(h:rem ts s+1<=n):∃r,patS ts e n s=some r:=by
 unfold patS
 split
 ·have m:=(Mvs.word (ts:=ts) (e:=e) 2 s).m
  have:=rem_mv m
  obtain⟨⟨l,s1⟩,h1⟩:=unders_tot n [] _ (m.le hs) (by omega)
  rw[h1];exact⟨_,rfl⟩
 ·split
  ·exact⟨_,rfl⟩
  ·exact⟨_,rfl⟩
variable (hts:ts.length<=1000000)
include hts in
theorem ex_tot:∀n:Nat,n+1<=most->TotAll ts e n
 |0,_=>⟨fun s hs h=>by omega,fun a w s hs _ h=>by omega,fun s hs h=>by omega,fun a s hs h=>by omega,fun s hs h=>by omega,fun a s hs h=>by omega,fun s hs h=>by omega,fun a s hs h=>by omega,fun s hs h=>by omega,
   fun acc s hs h=>by omega,fun g bs s hs _ h=>by omega,fun g bs s hs h=>by omega⟩
 |n+1,hn=>by
  have ih:=ex_tot n (by omega)
  have mv:=ex_mv hts (e:=e) n (by omega)
  refine⟨?_,?_,?_,?_,?_,?_,?_,?_,?_,?_,?_,?_⟩
  ·intro s hs h
   rw[exprS]
   split
   ·rename_i c
    have m:=(Mvs.opn (e:=e) (isS_fine c) (isS_lt c)).fst (Mvs.word (ts:=ts) (e:=e) 1 _).m
    have r1:=rem_mvs m hs (isS_fine c)
    obtain⟨⟨l,s3⟩,h1⟩:=lows_tot (e:=e) n [(wordS ts e 1 (openS ts e s)).1] _ (m.m.le hs) (by omega)
    rw[h1]
    have m2:=(lows_mv _ _ _ _ _ h1).trans (Mvs.take (ts:=ts) (e:=e) [45,62] s3).m
    have r2:=rem_mv m2
    obtain⟨⟨b,s5⟩,h2⟩:=ih.expr _ (m2.le (m.m.le hs)) (by omega)
    simp only
    rw[h2];exact⟨_,rfl⟩
   ·split
    ·rename_i c
     have m:=(Mvs.opn (e:=e) (isS_fine c) (isS_lt c)).fst (Mvs.take (ts:=ts) (e:=e) [123] _).m
     have r1:=rem_mvs m hs (isS_fine c)
     obtain⟨⟨g,bs,s2⟩,h1⟩:=ih.defs [] [] _ (m.m.le hs) (by omega)
     rw[h1]
     have m2:=(mv.defs _ _ _ _ _ _ h1).trans ((Mv.join (ts:=ts) g [] bs s2).trans ((Mvs.take (ts:=ts) (e:=e) [125] _).m.trans (Mvs.take (ts:=ts) (e:=e) [105,110] _).m))
     have r2:=rem_mv m2
     obtain⟨⟨b,s5⟩,h2⟩:=ih.expr _ (m2.le (m.m.le hs)) (by omega)
     simp only
     rw[h2];exact⟨_,rfl⟩
    ·split
     ·rename_i c
      have m:=Mvs.opn (e:=e) (isS_fine c) (isS_lt c)
      have r1:=rem_mvs m hs (isS_fine c)
      obtain⟨⟨x,s1⟩,h1⟩:=ih.expr _ (m.m.le hs) (by omega)
      rw[h1]
      have m2:=(mv.expr _ _ _ h1).m.trans ((Mvs.take (ts:=ts) (e:=e) [111,102] s1).m.trans (Mvs.take (ts:=ts) (e:=e) [123] _).m)
      have r2:=rem_mv m2
      obtain⟨⟨l,s2⟩,h2⟩:=ih.alts [] _ (m2.le (m.m.le hs)) (by omega)
      simp only
      rw[h2];exact⟨_,rfl⟩
     ·split
      ·rename_i c
       have m:=Mvs.opn (e:=e) (isS_fine c) (isS_lt c)
       have r1:=rem_mvs m hs (isS_fine c)
       obtain⟨⟨x,s1⟩,h1⟩:=ih.expr _ (m.m.le hs) (by omega)
       rw[h1]
       have m2:=(mv.expr _ _ _ h1).m.trans (Mvs.take (ts:=ts) (e:=e) [116,104,101,110] s1).m
       have r2:=rem_mv m2
       obtain⟨⟨a,s2⟩,h2⟩:=ih.expr _ (m2.le (m.m.le hs)) (by omega)
       simp only
       rw[h2]
       have m3:=(mv.expr _ _ _ h2).m.trans (Mvs.take (ts:=ts) (e:=e) [101,108,115,101] s2).m
       have r3:=rem_mv m3
       obtain⟨⟨b,s3⟩,h3⟩:=ih.expr _ (m3.le (m2.le (m.m.le hs))) (by omega)
       simp only
       rw[h3];exact⟨_,rfl⟩
      ·obtain⟨⟨a,s1⟩,h1⟩:=ih.sum _ hs (by omega)
       rw[h1]
       have m:=(mv.sum _ _ _ h1).m
       have r1:=rem_mv m
       simp only
       split
       ·rename_i c
        exact ih.two a 0 s1 (m.le hs) (sign_fine c) (by omega)
       ·exact⟨_,rfl⟩
  ·intro a w s hs hf h
   rw[twoS]
   have m:=Mvs.word (ts:=ts) (e:=e) 5 s
   have r1:=rem_mvs m hs hf
   have ex:∃r,(if w=0 then sumS ts e n (wordS ts e 5 s).2 else if w=1 then productS ts e n (wordS ts e 5 s).2 else appS ts e n (wordS ts e 5 s).2)=some r:=by
    split
    ·exact ih.sum _ (m.m.le hs) (by omega)
    ·split
     ·exact ih.product _ (m.m.le hs) (by omega)
     ·exact ih.app _ (m.m.le hs) (by omega)
   obtain⟨⟨b,s2⟩,h2⟩:=ex
   rw[h2];exact⟨_,rfl⟩
  ·intro s hs h
   rw[sumS]
   obtain⟨⟨a,s1⟩,h1⟩:=ih.product _ hs (by omega)
   rw[h1]
   have m:=(mv.product _ _ _ h1).m
   have r1:=rem_mv m
   exact ih.sums _ _ (m.le hs) (by omega)
  ·intro a s hs h
   rw[sumsS]
   split
   ·rename_i c
    obtain⟨⟨b,s1⟩,h1⟩:=ih.two a 1 s hs (sign_fine c) (by omega)
    rw[h1]
    have m:=mv.two _ _ _ _ _ h1
    have r1:=rem_mvs m hs (sign_fine c)
    exact ih.sums _ _ (m.m.le hs) (by omega)
   ·exact⟨_,rfl⟩
  ·intro s hs h
   rw[productS]
   obtain⟨⟨a,s1⟩,h1⟩:=ih.app _ hs (by omega)
   rw[h1]
   have m:=(mv.app _ _ _ h1).m
   have r1:=rem_mv m
   exact ih.products _ _ (m.le hs) (by omega)
  ·intro a s hs h
   rw[productsS]
   split
   ·rename_i c
    obtain⟨⟨b,s1⟩,h1⟩:=ih.two a 2 s hs (sign_fine c) (by omega)
    rw[h1]
    have m:=mv.two _ _ _ _ _ h1
    have r1:=rem_mvs m hs (sign_fine c)
    exact ih.products _ _ (m.m.le hs) (by omega)
   ·exact⟨_,rfl⟩
  ·intro s hs h
   rw[appS]
   obtain⟨⟨a,s1⟩,h1⟩:=ih.one _ hs (by omega)
   rw[h1]
   have m:=(mv.one _ _ _ h1).m
   have r1:=rem_mv m
   exact ih.apps _ _ (m.le hs) (by omega)
  ·intro a s hs h
   rw[appsS]
   split
   ·rename_i c
    obtain⟨⟨b,s1⟩,h1⟩:=ih.one s hs (by omega)
    rw[h1]
    have m:=mv.one _ _ _ h1
    have r1:=rem_mvs m hs (begins_fine c).1
    exact ih.apps _ _ (m.m.le hs) (by omega)
   ·exact⟨_,rfl⟩
  ·intro s hs h
   rw[oneS]
   split
   ·rename_i c
    obtain⟨hf,hlt⟩:=begins_fine c
    rw[get2 hlt]
    simp only
    split
    ·exact⟨_,rfl⟩
    ·split
     ·exact⟨_,rfl⟩
     ·split
      ·exact⟨_,rfl⟩
      ·split
       ·exact⟨_,rfl⟩
       ·split
        ·exact⟨_,rfl⟩
        ·have m:=Mvs.opn (e:=e) hf hlt
         have r1:=rem_mvs m hs hf
         obtain⟨⟨x,s1⟩,h1⟩:=ih.expr _ (m.m.le hs) (by omega)
         rw[h1];exact⟨_,rfl⟩
   ·exact⟨_,rfl⟩
  ·intro acc s hs h
   rw[altsS]
   split
   ·rename_i hf
    obtain⟨s1,h1⟩:=semis_tot n s hs (by omega)
    rw[h1]
    have m1:=(semis_mv _ _ _ h1).1
    have r1:=rem_mv m1
    have hf1:fineS s1=true:=by rw[semis_fine _ _ _ h1];exact hf
    simp only
    split
    ·exact⟨_,rfl⟩
    ·obtain⟨⟨c,vs,s2⟩,h2⟩:=pat_tot (e:=e) (n:=n) (m1.le hs) (by omega)
     rw[h2]
     have m2:=(pat_mv h2).fst (Mvs.take (ts:=ts) (e:=e) [45,62] s2).m
     have r2:=rem_mvs m2 (m1.le hs) hf1
     obtain⟨⟨b,s3⟩,h3⟩:=ih.expr _ (m2.m.le (m1.le hs)) (by omega)
     simp only
     rw[h3]
     have m3:=(mv.expr _ _ _ h3).m.trans (Mv.altEnd (ts:=ts) (e:=e) s3)
     have r3:=rem_mv m3
     exact ih.alts _ _ (m3.le (m2.m.le (m1.le hs))) (by omega)
   ·exact⟨_,rfl⟩
  ·intro g bs s hs hf h
   rw[defS]
   have m:=Mvs.named (ts:=ts) (e:=e) s
   have r1:=rem_mvs m hs hf
   split
   ·rename_i c
    have m2:=(Mvs.is c).m
    have r2:=rem_mv m2
    obtain⟨⟨sc,s2⟩,h2⟩:=scheme_tot hts (e:=e) (n:=n) (by omega) (m2.le (m.m.le hs)) (by omega)
    rw[h2];exact⟨_,rfl⟩
   ·obtain⟨⟨l,s2⟩,h2⟩:=lows_tot (e:=e) n [] _ (m.m.le hs) (by omega)
    rw[h2]
    have m2:=(lows_mv _ _ _ _ _ h2).trans (Mvs.take (ts:=ts) (e:=e) [61] s2).m
    have r2:=rem_mv m2
    obtain⟨⟨b,s3⟩,h3⟩:=ih.expr _ (m2.le (m.m.le hs)) (by omega)
    simp only
    rw[h3];exact⟨_,rfl⟩
  ·intro g bs s hs h
   rw[defsL]
   split
   ·rename_i hf
    obtain⟨s1,h1⟩:=semis_tot n s hs (by omega)
    rw[h1]
    have m1:=(semis_mv _ _ _ h1).1
    have r1:=rem_mv m1
    have hf1:fineS s1=true:=by rw[semis_fine _ _ _ h1];exact hf
    simp only
    split
    ·exact⟨_,rfl⟩
    ·obtain⟨⟨g2,bs2,s2⟩,h2⟩:=ih.df g bs s1 (m1.le hs) hf1 (by omega)
     rw[h2]
     have m2:=(mv.df _ _ _ _ _ _ h2).fst (Mv.ends (ts:=ts) (e:=e) true s2)
     have r2:=rem_mvs m2 (m1.le hs) hf1
     exact ih.defs _ _ _ (m2.m.le (m1.le hs)) (by omega)
   ·exact⟨_,rfl⟩
end
end Go.Proofs.YtinbjdkibmkgbaaGreatDoor.p
namespace Go.Proofs.YtinbjdkibmkgbaaGreatDoor.p
open Go.Proofs Go Go.Cn code
set_option linter.unusedSimpArgs false
set_option linter.unusedVariables false
section
variable {ts:List Tk}{e:Int}{s s':St}(hts:ts.length<=1000000)
include hts in
theorem plain_tot:∀n:Nat,n+1<=most->∀(acc:List Bi)(s:St),s.i<=ts.length->20*rem ts s+3<=n->∃r,plainL ts e n acc s=some r
 |0,_,acc,s,hs,h=>by omega
 |n+1,hn,acc,s,hs,h=>by
  have ih:=ex_tot hts (e:=e) n (by omega)
  have mv:=ex_mv hts (e:=e) n (by omega)
  rw[plainL]
  split
  ·rename_i hf
   obtain⟨s1,h1⟩:=semis_tot n s hs (by omega)
   rw[h1]
   have m1:=(semis_mv _ _ _ h1).1
   have r1:=rem_mv m1
   have hf1:fineS s1=true:=by rw[semis_fine _ _ _ h1];exact hf
   simp only
   split
   ·exact⟨_,rfl⟩
   ·have mn:=Mvs.named (ts:=ts) (e:=e) s1
    have key:∀s2:St,Mvs ts s1 s2->∃r,(if fineS s2=true then match defS ts e n [] acc {s2 with i:=s1.i} with
      |some (_,bs,s3)=>plainL ts e n bs (endsS ts e true s3)|none=>none
      else plainL ts e n acc (endsS ts e true s2))=some r:=by
     intro s2 mn
     split
     ·rename_i hf2
      have hf3:fineS {s2 with i:=s1.i}=true:=hf2
      have e3:rem ts {s2 with i:=s1.i}=rem ts s1:=by unfold rem;rw[if_pos hf3,if_pos hf1]
      obtain⟨⟨g2,bs2,s3⟩,h3⟩:=ih.df [] acc {s2 with i:=s1.i} (m1.le hs) hf3 (by omega)
      rw[h3]
      have m2:=(mv.df _ _ _ _ _ _ h3).fst (Mv.ends (ts:=ts) (e:=e) true s3)
      have r2:=rem_mvs m2 (m1.le hs) hf3
      exact plain_tot n (by omega) _ _ (m2.m.le (m1.le hs)) (by omega)
     ·have m2:=mn.fst (Mv.ends (ts:=ts) (e:=e) true s2)
      have r2:=rem_mvs m2 (m1.le hs) hf1
      exact plain_tot n (by omega) _ _ (m2.m.le (m1.le hs)) (by omega)
    split
    ·rw[if_neg (by rw[wrong_bad];decide)]
     have m2:=(mn.fst (Mv.wrong (ts:=ts) (e:=e) _)).fst (Mv.ends (ts:=ts) (e:=e) true _)
     have r2:=rem_mvs m2 (m1.le hs) hf1
     exact plain_tot n (by omega) _ _ (m2.m.le (m1.le hs)) (by omega)
    ·exact key _ mn
  ·exact⟨_,rfl⟩
include hts in
theorem cons_tot:∀n:Nat,n+1<=most->∀(acc:List Cd)(s:St),s.i<=ts.length->20*rem ts s+3<=n->∃r,consS ts e n acc s=some r
 |0,_,acc,s,hs,h=>by omega
 |n+1,hn,acc,s,hs,h=>by
  rw[consS]
  split
  ·rename_i hf
   have m:=Mvs.word (ts:=ts) (e:=e) 2 s
   have r1:=rem_mvs m hs hf
   obtain⟨⟨l,s2⟩,h2⟩:=(types_tot hts (e:=e) n (by omega)).2.1 [] _ (m.m.le hs) (by omega)
   rw[h2]
   have m2:=args_mv hts (by omega) h2
   have r2:=rem_mv m2
   simp only
   split
   ·rename_i c
    have m3:=(Mvs.is c).m
    have r3:=rem_mv m3
    exact cons_tot n (by omega) _ _ (m3.le (m2.le (m.m.le hs))) (by omega)
   ·exact⟨_,rfl⟩
  ·exact⟨_,rfl⟩
theorem der_tot {n:Nat}(hs:s.i<=ts.length)(h:rem ts s+1<=n):∃r,derS ts e n s=some r:=by
 unfold derS
 split
 ·rename_i c1
  split
  ·rename_i c2
   split
   ·exact⟨_,rfl⟩
   ·have m:=(Mvs.is c1).m.trans ((Mvs.is c2).m.trans (Mvs.word (ts:=ts) (e:=e) 2 _).m)
    have:=rem_mv m
    obtain⟨⟨l,s2⟩,h1⟩:=ders_tot (e:=e) n [(wordS ts e 2 (nextS (nextS s))).1] _ (m.le hs) (by omega)
    rw[h1];exact⟨_,rfl⟩
  ·exact⟨_,rfl⟩
 ·exact⟨_,rfl⟩
include hts in
theorem data_tot {n:Nat}(hn:n+1<=most)(hs:s.i<=ts.length)(h:20*rem ts s+3<=n):∃r,dataS ts e n s=some r:=by
 unfold dataS
 have m:=(Mvs.take (ts:=ts) (e:=e) [100,97,116,97] s).m.trans (Mvs.word (ts:=ts) (e:=e) 2 _).m
 have r1:=rem_mv m
 obtain⟨⟨vs,s3⟩,h1⟩:=lows_tot (e:=e) n [] _ (m.le hs) (by omega)
 rw[h1]
 have m2:=m.trans ((lows_mv _ _ _ _ _ h1).trans (Mvs.take (ts:=ts) (e:=e) [61] s3).m)
 have r2:=rem_mv m2
 obtain⟨⟨cs,s5⟩,h2⟩:=cons_tot hts (e:=e) n hn [] _ (m2.le hs) (by omega)
 simp only
 rw[h2]
 have m3:=m2.trans (cons_mv hts _ (by omega) _ _ _ _ h2)
 have r3:=rem_mv m3
 obtain⟨⟨ds,s6⟩,h3⟩:=der_tot (e:=e) (n:=n) (m3.le hs) (by omega)
 simp only
 rw[h3];exact⟨_,rfl⟩
include hts in
theorem body_tot:∀n:Nat,n+1<=most->∀(ms:List Md)(ds:List Bi)(s:St),s.i<=ts.length->20*rem ts s+3<=n->∃r,bodyL ts e n ms ds s=some r
 |0,_,ms,ds,s,hs,h=>by omega
 |n+1,hn,ms,ds,s,hs,h=>by
  have ih:=ex_tot hts (e:=e) n (by omega)
  have mv:=ex_mv hts (e:=e) n (by omega)
  rw[bodyL]
  split
  ·rename_i hf
   obtain⟨s1,h1⟩:=semis_tot n s hs (by omega)
   rw[h1]
   have m1:=(semis_mv _ _ _ h1).1
   have r1:=rem_mv m1
   have hf1:fineS s1=true:=by rw[semis_fine _ _ _ h1];exact hf
   simp only
   split
   ·exact⟨_,rfl⟩
   ·obtain⟨⟨g2,bs2,s2⟩,h2⟩:=ih.df [] [] s1 (m1.le hs) hf1 (by omega)
    rw[h2]
    have m2:=mv.df _ _ _ _ _ _ h2
    cases g2 with
    |nil=>
     have m3:=m2.fst (Mv.ends (ts:=ts) (e:=e) true s2)
     have r3:=rem_mvs m3 (m1.le hs) hf1
     exact body_tot n (by omega) _ _ _ (m3.m.le (m1.le hs)) (by omega)
    |cons g gr=>
     have ma:Mv ts s2 (if 0<g.s.ctx.length then amissS 102 g.pos s2 else s2):=by
      split
      ·exact .amiss _ _ (by decide) _
      ·exact .refl _
     have m3:=m2.fst (ma.trans (Mv.ends (ts:=ts) (e:=e) true _))
     have r3:=rem_mvs m3 (m1.le hs) hf1
     exact body_tot n (by omega) _ _ _ (m3.m.le (m1.le hs)) (by omega)
  ·exact⟨_,rfl⟩
include hts in
theorem class_tot {n:Nat}(hn:n+1<=most)(hs:s.i<=ts.length)(h:20*rem ts s+3<=n):∃r,classS ts e n s=some r:=by
 unfold classS
 have m:=(Mvs.take (ts:=ts) (e:=e) [99,108,97,115,115] s).m
 have r1:=rem_mv m
 obtain⟨⟨l,s2⟩,h1⟩:=preds_tot hts (e:=e) true (n:=n) (by omega) (m.le hs) (by omega)
 rw[h1]
 have m2:=m.trans ((preds_mv hts hn h1 (m.le hs)).trans ((Mvs.word (ts:=ts) (e:=e) 2 s2).m.trans ((Mvs.word (ts:=ts) (e:=e) 1 _).m.trans ((varsOk_mv (ts:=ts) (wordS ts e 1 (wordS ts e 2 s2).2).1 (posS ts e (wordS ts e 2 s2).2) l _).trans
  ((Mvs.take (ts:=ts) (e:=e) [119,104,101,114,101] _).m.trans (Mvs.take (ts:=ts) (e:=e) [123] _).m)))))
 have r2:=rem_mv m2
 obtain⟨⟨ms,ds,s7⟩,h2⟩:=body_tot hts (e:=e) n hn [] [] _ (m2.le hs) (by omega)
 simp only
 rw[h2];exact⟨_,rfl⟩
include hts in
theorem class_mvs {n:Nat}(hn:n+1<=most){d:Cs}(hs:s.i<=ts.length)(h:classS ts e n s=some (d,s')):Mvs ts s s':=by
 unfold classS at h
 split at h
 ·rename_i l s2 h1
  have m:=Mvs.take (ts:=ts) (e:=e) [99,108,97,115,115] s
  split at h
  ·rename_i ms ds s7 h2
   cases h
   exact m.fst ((preds_mv hts hn h1 (m.m.le hs)).trans ((Mvs.word (ts:=ts) (e:=e) 2 s2).m.trans ((Mvs.word (ts:=ts) (e:=e) 1 _).m.trans ((varsOk_mv (ts:=ts) (wordS ts e 1 (wordS ts e 2 s2).2).1 (posS ts e (wordS ts e 2 s2).2) l _).trans
    ((Mvs.take (ts:=ts) (e:=e) [119,104,101,114,101] _).m.trans ((Mvs.take (ts:=ts) (e:=e) [123] _).m.trans ((body_mv hts _ (by omega) _ _ _ _ _ _ h2).trans (Mvs.take (ts:=ts) (e:=e) [125] _).m)))))))
  ·cases h
 ·cases h
theorem head_tot {n:Nat}(hs:s.i<=ts.length)(h:rem ts s+1<=n):∃r,headS ts e n s=some r:=by
 unfold headS
 split
 ·rename_i c
  have m:=(Mvs.is c).m.trans (Mvs.word (ts:=ts) (e:=e) 2 _).m
  have:=rem_mv m
  obtain⟨⟨l,s2⟩,h1⟩:=lows_tot (e:=e) n [] _ (m.le hs) (by omega)
  rw[h1];exact⟨_,rfl⟩
 ·exact⟨_,rfl⟩
theorem head_mv {n:Nat}{con:Nm}{vs:List Nm}(h:headS ts e n s=some (con,vs,s')):Mv ts s s':=by
 unfold headS at h
 split at h
 ·rename_i c
  split at h
  ·rename_i vs s2 h1
   cases h
   exact (Mvs.is c).m.trans ((Mvs.word (ts:=ts) (e:=e) 2 _).m.trans ((lows_mv _ _ _ _ _ h1).trans (Mvs.take _ _).m))
  ·cases h
 ·cases h
  exact (Mvs.word (ts:=ts) (e:=e) 2 _).m
include hts in
theorem inst_tot {n:Nat}(hn:n+1<=most)(hs:s.i<=ts.length)(h:20*rem ts s+3<=n):∃r,instS ts e n s=some r:=by
 unfold instS
 have m:=(Mvs.take (ts:=ts) (e:=e) [105,110,115,116,97,110,99,101] s).m
 have r1:=rem_mv m
 obtain⟨⟨l,s2⟩,h1⟩:=preds_tot hts (e:=e) true (n:=n) (by omega) (m.le hs) (by omega)
 rw[h1]
 have m2:=m.trans ((preds_mv hts hn h1 (m.le hs)).trans (Mvs.word (ts:=ts) (e:=e) 2 s2).m)
 have r2:=rem_mv m2
 obtain⟨⟨con,vs,s6⟩,h2⟩:=head_tot (e:=e) (n:=n) (m2.le hs) (by omega)
 simp only
 rw[h2]
 have m3:=m2.trans ((head_mv h2).trans ((Mvs.take (ts:=ts) (e:=e) [119,104,101,114,101] _).m.trans (Mvs.take (ts:=ts) (e:=e) [123] _).m))
 have r3:=rem_mv m3
 obtain⟨⟨bs,s8⟩,h3⟩:=plain_tot hts (e:=e) n hn [] _ (m3.le hs) (by omega)
 simp only
 rw[h3];exact⟨_,rfl⟩
include hts in
theorem inst_mvs {n:Nat}(hn:n+1<=most){d:In}(hs:s.i<=ts.length)(h:instS ts e n s=some (d,s')):Mvs ts s s':=by
 unfold instS at h
 split at h
 ·rename_i l s2 h1
  have m:=Mvs.take (ts:=ts) (e:=e) [105,110,115,116,97,110,99,101] s
  split at h
  ·rename_i con vs s6 h2
   split at h
   ·rename_i bs s8 h3
    cases h
    exact m.fst ((preds_mv hts hn h1 (m.m.le hs)).trans ((Mvs.word (ts:=ts) (e:=e) 2 s2).m.trans ((head_mv h2).trans
     ((Mvs.take (ts:=ts) (e:=e) [119,104,101,114,101] _).m.trans ((Mvs.take (ts:=ts) (e:=e) [123] _).m.trans ((plain_mv hts _ (by omega) _ _ _ _ h3).trans (Mvs.take (ts:=ts) (e:=e) [125] _).m))))))
   ·cases h
  ·cases h
 ·cases h
include hts in
theorem prog_tot:∀n:Nat,n+1<=most->∀(g:List Sg)(q:Pg)(s:St),s.i<=ts.length->20*rem ts s+4<=n->∃r,progL ts e n g q s=some r
 |0,_,g,q,s,hs,h=>by omega
 |n+1,hn,g,q,s,hs,h=>by
  have ih:=ex_tot hts (e:=e) n (by omega)
  have mv:=ex_mv hts (e:=e) n (by omega)
  rw[progL]
  split
  ·rename_i hf
   obtain⟨s1,h1⟩:=semis_tot n s hs (by omega)
   rw[h1]
   have m1:=(semis_mv _ _ _ h1).1
   have r1:=rem_mv m1
   have hs1:=m1.le hs
   have hf1:fineS s1=true:=by rw[semis_fine _ _ _ h1];exact hf
   have fin:∀(s2:St)(g:List Sg)(q:Pg),Mvs ts s1 s2->∃r,progL ts e n g q (endsS ts e false s2)=some r:=by
    intro s2 g q m2
    have m3:=m2.fst (Mv.ends (ts:=ts) (e:=e) false s2)
    have r3:=rem_mvs m3 hs1 hf1
    exact prog_tot n (by omega) _ _ _ (m3.m.le hs1) (by omega)
   simp only
   split
   ·exact⟨_,rfl⟩
   ·split
    ·obtain⟨⟨d,s2⟩,h2⟩:=data_tot hts (e:=e) (n:=n) (by omega) hs1 (by omega)
     rw[h2]
     exact fin _ _ _ (data_mv hts (by omega) h2)
    ·split
     ·obtain⟨⟨d,s2⟩,h2⟩:=class_tot hts (e:=e) (n:=n) (by omega) hs1 (by omega)
      rw[h2]
      exact fin _ _ _ (class_mvs hts (by omega) hs1 h2)
     ·split
      ·obtain⟨⟨d,s2⟩,h2⟩:=inst_tot hts (e:=e) (n:=n) (by omega) hs1 (by omega)
       rw[h2]
       exact fin _ _ _ (inst_mvs hts (by omega) hs1 h2)
      ·obtain⟨⟨g2,bs2,s2⟩,h2⟩:=ih.df g q.binds s1 hs1 hf1 (by omega)
       rw[h2]
       exact fin _ _ _ (mv.df _ _ _ _ _ _ h2)
  ·exact⟨_,rfl⟩
include hts in
theorem program_tot {n:Nat}(hn:n+1<=most)(hs:s.i<=ts.length)(h:20*rem ts s+4<=n):∃r,programS ts e n s=some r:=by
 unfold programS
 obtain⟨⟨g,q,s1⟩,h1⟩:=prog_tot hts (e:=e) n hn [] ⟨[],[],[],[]⟩ s hs h
 rw[h1];exact⟨_,rfl⟩
end
end Go.Proofs.YtinbjdkibmkgbaaGreatDoor.p
namespace Go.Proofs.YtinbjdkibmkgbaaGreatDoor.p
open Go.Proofs Go Go.Cn code
set_option linter.unusedSimpArgs false
set_option linter.unusedVariables false
def fuel:Nat:=400100
def emptyPg:Pg:=⟨[],[],[],[]⟩
def startS (l:List UInt8):St:=⟨0,(splitV l).2.1,(splitV l).2.2.1,(splitV l).2.2.2,0⟩
def parseV (l:List UInt8):Pg×Int×Bool×Int:=
 match programS (splitV l).1 (l.length:Int) fuel (startS l) with
 |some (q,s1)=>(if (doneS (splitV l).1 (l.length:Int) s1).code=0 then q else emptyPg,(doneS (splitV l).1 (l.length:Int) s1).code,(doneS (splitV l).1 (l.length:Int) s1).pl,(doneS (splitV l).1 (l.length:Int) s1).bp)
 |none=>(emptyPg,0,false,0)
theorem start_ok (l:List UInt8)(hl:l.length<=big)(K:Nat->Prop)(h:AH):ACall T K (.func 44) [.lst 5 (byR l) .no] h fun v h'=>∃b,h.objs b=none/\¬K b/\v=.ptr b 0/\h'=h.set b (parO (splitV l).1 (l.length:Int) (startS l)):=by
 refine ACall.retQ t44 fun hK=>?_
 simp only[u_C c44.eq_1,rn,pevA,seval]
 refine (split_ok l hl).use ?_
 simp only[rn,pevA,seval]
 intro b hb hk
 simp only[rn,pevA,seval,byR_len,hk]
 intro b2 hb2 hk2
 rw[s_del hb] at hb2 ⊢
 simp only[rn,pevA,seval]
 exact⟨.ptr b2 0,_,.refl _ _,hK.set b2 _,b2,hb2,hk2,rfl,rfl⟩
theorem Program_ok (l:List UInt8)(hl:l.length<=big):Pure T 25 [.lst 5 (byR l) .no] (.tuple [.agg (pgR (parseV l).1),.agg [.int .i64 (parseV l).2.1,.bool (parseV l).2.2.1,.int .i64 (parseV l).2.2.2]]):=by
 intro K h
 refine ACall.ret t25 fun hK=>?_
 have hts:(splitV l).1.length<=1000000:=Nat.le_trans (splitV_len l) (by decide)
 have h20:=splitV_len l
 have hrem:rem (splitV l).1 (startS l)<=20001:=by
  unfold rem
  split
  ·omega
  ·exact Nat.zero_le _
 obtain⟨⟨q,s1⟩,hq⟩:=program_tot hts (e:=(l.length:Int)) (n:=fuel) (s:=startS l) (by decide) (Nat.zero_le _) (by unfold fuel;omega)
 have hp:=program_ok hts (e:=(l.length:Int)) (n:=fuel) (by decide) (startS l) s1 q (Nat.zero_le _) hq
 have hdn:=done_ok (ts:=(splitV l).1) (e:=(l.length:Int)) s1
 have hv:parseV l=(if (doneS (splitV l).1 (l.length:Int) s1).code=0 then q else emptyPg,(doneS (splitV l).1 (l.length:Int) s1).code,(doneS (splitV l).1 (l.length:Int) s1).pl,(doneS (splitV l).1 (l.length:Int) s1).bp):=by unfold parseV;rw[hq]
 rw[hv]
 generalize doneS (splitV l).1 (l.length:Int) s1=s2 at hdn ⊢
 simp only[u_C c25.eq_1,rn,pevA,seval]
 intro b hb hk
 simp only[rn,pevA,seval]
 intro b2 hb2 hk2
 obtain⟨n2,hb2⟩:=AH.set_none.1 hb2
 simp only[rn,pevA,seval]
 refine (start_ok l hl K _).mono ?_
 rintro _ _ ⟨b3,hb3,hk3,rfl,rfl⟩
 obtain⟨n32,n3,hb3⟩:=new3.1 hb3
 simp only[rn,pevA,seval,kN,n2,n2.symm,n3,n3.symm,n32,n32.symm]
 refine hp.use (AH.set_same _ _ _) hk3 ?_
 simp only[pgR,rn,pevA,seval,kN,n2,n2.symm,n3,n3.symm,n32,n32.symm]
 refine hdn.use (AH.set_same _ _ _) hk3 ?_
 cases hc:decide (s2.code=0) with
 |true=>
  rw[if_pos (of_decide_eq_true hc)]
  simp only[e_dregion d25_0,u_L s25_0.eq_1,u_T g25_0.eq_1,e_dregion d25_1,u_L s25_1.eq_1,u_T g25_1.eq_1,rn,pevA,seval,kN,n2,n2.symm,n3,n3.symm,n32,n32.symm,hc,hk,hk2]
  rw[AH.del_objs,if_neg n2]
  simp only[rn,pevA,seval,kN,n2,n2.symm,n3,n3.symm,n32,n32.symm,hk,hk2]
  exact⟨.refl _,le_del (le_del (le_set (le_set (le_set (AH.le_refl h) hb) hb2) hb3) hb) hb2⟩
 |false=>
  rw[if_neg (of_decide_eq_false hc)]
  simp only[e_dregion d25_0,u_L s25_0.eq_1,u_T g25_0.eq_1,e_dregion d25_1,u_L s25_1.eq_1,u_T g25_1.eq_1,rn,pevA,seval,kN,n2,n2.symm,n3,n3.symm,n32,n32.symm,hc,hk,hk2]
  rw[AH.del_objs,if_neg n2]
  simp only[rn,pevA,seval,kN,n2,n2.symm,n3,n3.symm,n32,n32.symm,hk,hk2]
  exact⟨.tupL ⟨.aggL ⟨.nil _ _ _,.nil _ _ _,.nil _ _ _,.nil _ _ _,trivial⟩,.refl _,trivial⟩,le_del (le_del (le_set (le_set (le_set (AH.le_refl h) hb) hb2) hb3) hb) hb2⟩
end Go.Proofs.YtinbjdkibmkgbaaGreatDoor.p
namespace Go.Proofs.YtinbjdkibmkgbaaGreatDoor.p
open Go.Proofs Go Go.Cn code
set_option linter.unusedSimpArgs false
set_option linter.unusedVariables false
section
variable {T:Nat->Option CFun}{K:Nat->Prop}{fr:AFr}{h:AH}
theorem _root_.Go.Cn.WO.isnilU {x:Operand}{E:TypeId}{Q:AV->AH->Prop}(hx:evA fr x=.lst E [] .no)(hq:∀b,Q (.bool b) h):WO T K (.p (.isnil false (.slice none 0 0) x)) fr h Q:=by
 intro F σ ρ hA hK hρ
 have hv:=hρ x
 rw[hx] at hv
 cases hv':ρ x with
 |slice p n c=>
  cases p with
  |none=>exact⟨.bool true,by show (match isNilAs (.slice none 0 0) (ρ x) with|some b=>_|none=>_)=_;rw[hv'];rfl,F,.bool true,h,.refl,hA,hK,.bool _,hq true⟩
  |some a=>exact⟨.bool false,by show (match isNilAs (.slice none 0 0) (ρ x) with|some b=>_|none=>_)=_;rw[hv'];rfl,F,.bool false,h,.refl,hA,hK,.bool _,hq false⟩
 |_=>rw[hv'] at hv;cases hv
end
theorem index2_ok (E:TypeId)(l:List Nm)(t:Tag)(v:Nm)(K:Nat->Prop)(h:AH):ACall T K (.func 53) [.lst E (strC l) t,.str v] h fun r h'=>(∃n:Int,r=.int .i64 n/\(0<=n↔v∈l))/\h'=h:=by
 refine ACall.retQ t53 fun hK=>?_
 simp only[u_C c53.eq_1,rn,pevA,seval,strC_len]
 refine W.bound (t:=0) rfl fun hB=>?_
 rw[strC_len] at hB
 refine aloop (α:=Nat) (fun k fr h1=>fr 0=.lst E (strC l) t/\fr 1=.str v/\fr 7=.int .i64 (l.length:Nat)/\fr 8=.int .i64 k/\k<=l.length/\v∉l.take k/\h1=h) (fun k=>l.length-k) 0 ⟨rfl,rfl,rfl,rfl,Nat.zero_le _,by simp,rfl⟩ ?_
 rintro k fr h1 ⟨f0,f1,f7,f8,hk,hv,rfl⟩
 by_cases hlt:k<l.length
 ·have c1:decide ((k:Int)<(l.length:Int))=true:=decide_eq_true (by omega)
  have hw:IntKind.i64.wrap ((k:Int)+1)=((k+1:Nat):Int):=by unfold big at hB;rw[wrap64 ⟨by omega,by omega⟩];rfl
  obtain⟨a,ha⟩ : ∃a,l[k]?=some a:=⟨l[k],by simp[hlt]⟩
  have hget:(strC l)[k]?=some [.str a]:=by rw[strC_get,ha];rfl
  cases he:decide (v=a) with
  |true=>
   have hm:v∈l:=by rw[of_decide_eq_true he];exact List.mem_of_getElem? ha
   simp only[u_C l53_0.eq_1,rn,pevA,seval,f0,f1,f7,f8,c1,hget,he]
   exact⟨_,h1,.refl _ _,hK,⟨k,rfl,fun _=>hm,fun _=>by omega⟩,rfl⟩
  |false=>
   simp only[u_C l53_0.eq_1,rn,pevA,seval,f0,f1,f7,f8,c1,hget,he,hw]
   exact⟨k+1,by show l.length-(k+1)<l.length-k;omega,f0,f1,f7,rfl,hlt,by rw[List.take_add_one,ha];simp only[Option.toList,List.mem_append,List.mem_singleton,not_or];exact⟨hv,of_decide_eq_false he⟩,rfl⟩
 ·obtain rfl:k=l.length:=by omega
  have c1:decide ((l.length:Int)<(l.length:Int))=false:=by simp
  simp only[u_C l53_0.eq_1,rn,pevA,seval,f0,f1,f7,f8,c1]
  rw[List.take_length] at hv
  exact⟨_,h1,.refl _ _,hK,⟨-1,rfl,fun h=>absurd h (by decide),fun h=>absurd h hv⟩,rfl⟩
theorem contains_ok (E:TypeId)(l:List Nm)(t:Tag)(v:Nm):Pure T 40 [.lst E (strC l) t,.str v] (.bool (decide (v∈l))):=by
 intro K h
 refine ACall.ret t40 fun hK=>?_
 simp only[u_C c40.eq_1,rn,pevA,seval]
 refine (index2_ok E l t v K h).mono ?_
 rintro _ _ ⟨⟨n,rfl,hn⟩,rfl⟩
 simp only[rn,pevA,seval,hn]
 exact⟨.refl _,AH.le_refl _⟩
theorem strC_each (l:List Nm):∀e∈strC l,e.length=1:=fun e he=>by obtain⟨z,_,rfl⟩:=List.mem_map.1 he;rfl
theorem strC_flat:∀vs:List Nm,(strC vs).flatten=vs.map .str
 |[]=>rfl
 |v::vs=>by
  show ([AV.str v]::strC vs).flatten=_
  rw[List.flatten_cons,strC_flat vs];rfl
theorem strC_one (l:List Nm):(strC l).flatten.all oneA=true:=by rw[strC_flat];simp[oneA]
theorem cloneS_ok (S:List Nm)(hl:S.length<=1000000000):Pure T 43 [.lst 9 (strC S) .no] (.lst 9 (strC S) .no):=by
 intro K h
 refine ACall.ret t43x fun hK=>?_
 simp only[u_C c43x.eq_1,rn,pevA,seval]
 cases S with
 |nil=>
  simp only[strC,List.map_nil]
  refine WO.isnilU rfl fun t=>?_
  cases t with
  |true=>
   simp only[rn,pevA,seval]
   exact⟨.nil _ _ _,AH.le_refl _⟩
  |false=>
   simp only[rn,pevA,seval]
   refine WO.bslT0 fun c hc1 hc2=>?_
   simp only[rn,pevA,seval,setT_tk]
   refine WO.append (i:=0) (.row (t:=h.toks) 9 1 0 hc1) rfl rfl rfl trivial (by decide) (by simp) rfl (.inr rfl) (fun hh=>by simp at hh) (by simp[big_eq]) fun tag2 t2 hT2=>?_
   simp only[rn,pevA,seval]
   exact⟨.lstE fun e=>absurd rfl e,le_tk (AH.le_refl _) hT2.le⟩
 |cons a l=>
  have hc:strC (a::l)=[AV.str a]::strC l:=rfl
  have h1:=strC_len (a::l)
  rw[hc]
  rw[hc] at h1
  refine WO.p (a:=.bool false) rfl ?_
  simp only[rn,pevA,seval]
  refine WO.bslT0 fun c hc1 hc2=>?_
  simp only[rn,pevA,seval,setT_tk]
  refine WO.append (i:=0) (.row (t:=h.toks) 9 1 0 hc1) rfl rfl rfl trivial (by decide) (by rw[<-hc];exact strC_each _) (by rw[<-hc];exact strC_one _) (.inr rfl) (fun _=>?_) ?_ fun tag2 t2 hT2=>?_
  ·simp only[List.length_cons] at h1 hl;simp[capOk];omega
  ·simp only[List.length_cons] at h1 hl;simp[big_eq];omega
  simp only[rn,pevA,seval]
  exact⟨.tag _ _ _,le_tk (AH.le_refl _) hT2.le⟩
theorem nd_not {l:List Nm}{i:Nat}{a:Nm}(ha:l[i]?=some a)(hm:a∈l.take i):¬l.Nodup:=by
 intro h
 have e:=List.take_append_drop i l
 obtain⟨hi,hai⟩:=List.getElem?_eq_some_iff.1 ha
 rw[List.drop_eq_getElem_cons hi,hai] at e
 rw[<-e] at h
 exact (List.nodup_append.1 h).2.2 a hm a (by simp) rfl
def kvC (l:List (Nm×AV)):List (AV×AV):=l.map fun p=>(.str p.1,p.2)
def kvL (n:Nm):List (Nm×AV)->Option AV
 |[]=>none
 |p::l=>if n=p.1 then some p.2 else kvL n l
theorem kv_look (n:Nm):∀l,lookA (.str n) (kvC l)=some (kvL n l)
 |[]=>rfl
 |p::l=>by
  show (match keyEqA (.str n) (.str p.1) with|some true=>_|some false=>_|none=>_)=_
  simp only[keyEqA,kvL]
  by_cases e:n=p.1
  ·simp[e]
  ·simp only[e,decide_false,if_false];exact kv_look n l
section
variable {α:Type}(key:α->Nm)
variable {key}
end
end Go.Proofs.YtinbjdkibmkgbaaGreatDoor.p
namespace Go.Proofs.YtinbjdkibmkgbaaGreatDoor.p
open Go.Proofs Go Go.Cn code
set_option linter.unusedSimpArgs false
set_option linter.unusedVariables false
inductive TyB:Ty->Prop where
 |mk {k:Int}{n:Nm}{args:List Ty}(hl:args.length<=1073741824)(ha:∀a∈args,TyB a):TyB (.mk k n args)
theorem tyR_len (t:Ty):(tyR t).length=3:=by cases t;simp[tyR]
theorem tyR_ne (t:Ty):tyR t≠[]:=by cases t;simp[tyR]
theorem tyR_one (t:Ty):(tyR t).all oneA=true:=by cases t;simp[tyR,oneA]
theorem tyR_take (t:Ty):(tyR t).take 3=tyR t:=by cases t;simp[tyR]
theorem tyR_drop (t:Ty):(tyR t).drop 3=[]:=by cases t;simp[tyR]
theorem tysR_at {l m:List Ty}{a:Ty}:(tysR (l++a::m))[l.length]?=some (tyR a):=by
 rw[tysR_eq,List.getElem?_map,List.getElem?_append_right (Nat.le_refl _),Nat.sub_self];rfl
theorem tclone_ok:∀t,TyB t->Pure T 21 [.agg (tyR t)] (.agg (tyR t)):=by
 refine Ty.ind fun k n args ih ho K h=>?_
 cases ho with
 |mk hl ha=>
 refine ACall.ret t21 fun hK=>?_
 simp only[u_C c21.eq_1,tyR,rn,pevA,seval]
 intro b2 hb2 hk2
 simp only[rn,pevA,seval,hb2,hk2]
 intro b3 hb3 hk3
 obtain⟨hb3,hb3'⟩:=AH.set_none.1 hb3
 simp only[rn,pevA,seval,hb2,hk2,hb3,hk3]
 refine W.bound (t:=12) rfl fun hB=>?_
 refine aloop (α:=List Ty×List Ty) (fun x fr h1=>args=x.1++x.2/\fr 12=.lst 30 (tysR args) .no/\fr 13=.int .i64 (tysR args).length/\fr 14=.int .i64 x.1.length/\fr 2=.ptr b2 0/\fr 3=.ptr b3 0/\
   ∃E' tag t,(tysR x.1≠[]->E'=30)/\Toks h.toks t [(tag,30,3,0)]/\h1=((h.set b2 (.cells [.int .i64 0,.str [],.lst 0 [] .nil] 30)).set b3 (.cells [.int .i64 k,.str n,.lst E' (tysR x.1) tag] 30)).tk t) (fun x=>x.2.length) ([],args) ?_ ?_
 ·exact⟨rfl,rfl,rfl,rfl,rfl,rfl,0,.nil,h.toks,fun h=>absurd (by simp[tysR]) h,.one _ _ _,by simp[tysR];rfl⟩
 ·rintro⟨done,rest⟩ fr h1 ⟨hargs,h12,h13,h14,h2,h3,E',tag,t,hE,hT,rfl⟩
  simp only at hargs h14 hE
  rw[tysR_len] at h13 hB
  subst hargs
  cases rest with
  |nil=>
   rw[List.append_nil] at *
   simp only[u_C l21_1.eq_1,rn,pevA,seval,h12,h13,h14,h2,h3,s_objs hb3,s_objs hb3.symm,hk2,hk3]
   exact⟨.aggL ⟨.refl _,.refl _,.lstE hE,trivial⟩,le_tk (le_del (le_set (le_set (AH.le_refl _) hb2) hb3') hb2) hT.le⟩
  |cons a rest=>
   have hlt:decide ((done.length:Int)<((done++a::rest).length:Nat))=true:=by simp;omega
   have hu:done.length<(done++a::rest).length:=by simp
   simp only[u_C l21_1.eq_1,e_dregion d21_0,u_L s21_0.eq_1,u_T g21_0.eq_1,rn,pevA,seval,h12,h13,h14,hlt,h2,h3,s_objs hb3,s_objs hb3.symm,hk2,hk3,tysR_at,tyR_len,tyR_ne,tyR_one,tyR_take]
   refine (ih a (by simp) (ha a (by simp))).use ?_
   simp only[rn,pevA,seval,s_objs hb3,s_objs hb3.symm,hk2,hk3,tyR_len,tyR_ne,tyR_one,tyR_take,tyR_drop]
   refine WO.append (i:=0) hT rfl rfl rfl trivial (by decide) ?_ ?_ ?_ ?_ ?_ fun tag' t' hT'=>?_
   ·simp[tyR_len]
   ·simp[tyR_one]
   ·simp
   ·intro _;simp[capOk,tysR_len];simp at hl;omega
   ·simp[big_eq,tysR_len];simp at hl;omega
   simp only[wrapS hu hB,rn,pevA,seval,h12,h13,h14,h2,h3,s_objs hb3,s_objs hb3.symm,hk2,hk3,tyR_len,tyR_ne,tyR_one,tyR_take,tyR_drop]
   refine⟨(done++[a],rest),by simp,by simp,h12,by rw[tysR_len];exact h13,by simp[upd],h2,h3,30,tag',t',fun _=>rfl,hT',?_⟩
   simp only[tysR_app]
end Go.Proofs.YtinbjdkibmkgbaaGreatDoor.p
namespace Go.Proofs.YtinbjdkibmkgbaaGreatDoor.p
open Go.Proofs Go Go.Cn code
set_option linter.unusedSimpArgs false
set_option linter.unusedVariables false
inductive Tm where
 |mk (k:Int)(nm:Nm)(n:Int)(ty:Ty)(l:List Tm)(a:List (Nm×List Nm×Tm))(b:List (Nm×Ty×Tm))
abbrev Ta:=Nm×List Nm×Tm
abbrev Tb:=Nm×Ty×Tm
mutual
def tmR:Tm->List AV
 |.mk k nm n ty l a b=>.int .i64 k::.str nm::.int .i64 n::(tyR ty++[.lst 40 (tmsR l) .no,.lst 119 (tasR a) .no,.lst 43 (tbsR b) .no])
def tmsR:List Tm->List (List AV)
 |[]=>[]
 |e::l=>tmR e::tmsR l
def tasR:List (Nm×List Nm×Tm)->List (List AV)
 |[]=>[]
 |(c,vs,e)::l=>(.str c::.lst 9 (strC vs) .no::tmR e)::tasR l
def tbsR:List (Nm×Ty×Tm)->List (List AV)
 |[]=>[]
 |(n,t,e)::l=>(.str n::(tyR t++tmR e))::tbsR l
end
def tbR (b:Tb):List AV:=.str b.1::(tyR b.2.1++tmR b.2.2)
theorem tmsR_eq (l:List Tm):tmsR l=l.map tmR:=by
 induction l with
 |nil=>simp[tmsR]
 |cons a l ih=>simp only[tmsR,List.map_cons,ih]
theorem tbsR_eq (l:List Tb):tbsR l=l.map tbR:=by
 induction l with
 |nil=>simp[tbsR]
 |cons a l ih=>obtain⟨n,t,e⟩:=a;simp only[tbsR,List.map_cons,ih,tbR]
theorem tmsR_len (l:List Tm):(tmsR l).length=l.length:=by rw[tmsR_eq,List.length_map]
theorem tbsR_len (l:List Tb):(tbsR l).length=l.length:=by rw[tbsR_eq,List.length_map]
theorem tbsR_get (l:List Tb)(i:Nat):(tbsR l)[i]?=(l[i]?).map tbR:=by rw[tbsR_eq,List.getElem?_map]
theorem tmR_len (t:Tm):(tmR t).length=9:=by obtain⟨k,nm,n,⟨tk,tn,tl⟩,l,a,b⟩:=t;simp[tmR,tyR]
theorem tmR_ne (t:Tm):tmR t≠[]:=by obtain⟨k,nm,n,ty,l,a,b⟩:=t;simp[tmR]
theorem tmR_one (t:Tm):(tmR t).all oneA=true:=by obtain⟨k,nm,n,⟨tk,tn,tl⟩,l,a,b⟩:=t;simp[tmR,tyR,oneA]
inductive TyN:Ty->Prop where
 |mk {k:Int}{n:Nm}{args:List Ty}(hk:k≠4)(hl:args.length<=1000000)(ha:∀a∈args,TyN a):TyN (.mk k n args)
theorem TyN.b:∀t,TyN t->TyB t:=by
 refine Ty.ind fun k n args ih h=>?_
 cases h with
 |mk hk hl ha=>exact⟨by omega,fun a h=>ih a h (ha a h)⟩
theorem tyR_ta (t:Ty)(l:List AV):(tyR t++l).take 3=tyR t:=by cases t;simp[tyR]
theorem tyR_da (t:Ty)(l:List AV):(tyR t++l).drop 3=l:=by cases t;simp[tyR]
theorem tyR_d6 (t:Ty)(l:List AV):(tyR t++l).drop 6=l.drop 3:=by cases t;simp[tyR]
abbrev GV:=Nm->Option Ty
def extG (G:GV):List (Nm×Ty)->GV
 |[]=>G
 |p::l=>extG (fun n=>if n=p.1 then some p.2 else G n) l
def fnT (a b:Ty):Ty:=.mk 3 [] [a,b]
def sigs (bs:List Tb):List (Nm×Ty):=bs.map fun b=>(b.1,b.2.1)
inductive HasT (gl:GV):GV->Tm->Ty->Prop where
 |var {G:GV}{nm:Nm}{n:Int}{ty:Ty}{l:List Tm}{a:List Ta}{b:List Tb}{t:Ty}(h:G nm=some t\/(G nm=none/\gl nm=some t)):HasT gl G (.mk 1 nm n ty l a b) t
 |int {G:GV}{nm:Nm}{n:Int}{ty:Ty}{l:List Tm}{a:List Ta}{b:List Tb}:HasT gl G (.mk 3 nm n ty l a b) (.mk 2 [73,110,116] [])
 |app {G:GV}{nm:Nm}{n:Int}{ty:Ty}{f x:Tm}{l:List Tm}{a:List Ta}{b:List Tb}{fn:Nm}{s t:Ty}(hf:HasT gl G f (.mk 3 fn [s,t]))(hx:HasT gl G x s)(hs:TyN s):HasT gl G (.mk 5 nm n ty (f::x::l) a b) t
 |lam {G:GV}{nm:Nm}{n:Int}{ty:Ty}{x:Tm}{l:List Tm}{a:List Ta}{b:List Tb}{t:Ty}(hx:HasT gl (extG G [(nm,ty)]) x t):HasT gl G (.mk 6 nm n ty (x::l) a b) (fnT ty t)
 |lets {G:GV}{nm:Nm}{n:Int}{ty:Ty}{x:Tm}{l:List Tm}{a:List Ta}{b:List Tb}{t:Ty}(hl:b.length<=1000)(hn:(b.map (·.1)).Nodup)(ht:∀p∈b,TyN p.2.1)(hb:∀p∈b,HasT gl (extG G (sigs b)) p.2.2 p.2.1)(hx:HasT gl (extG G (sigs b)) x t):HasT gl G (.mk 9 nm n ty (x::l) a b) t
def gvL (l:List (Nm×Ty)):List (Nm×AV):=l.map fun p=>(p.1,.agg (tyR p.2))
def lkG (n:Nm):List (Nm×Ty)->Option Ty
 |[]=>none
 |p::l=>if n=p.1 then some p.2 else lkG n l
theorem lkG_look (n:Nm):∀l,kvL n (gvL l)=(lkG n l).map fun t=>.agg (tyR t)
 |[]=>rfl
 |p::l=>by
  show (if n=p.1 then _ else kvL n (gvL l))=_
  simp only[lkG]
  split
  ·rfl
  ·exact lkG_look n l
def putG (n:Nm)(t:Ty):List (Nm×Ty)->List (Nm×Ty)
 |[]=>[(n,t)]
 |p::l=>if n=p.1 then (p.1,t)::l else p::putG n t l
theorem putG_put (n:Nm)(t:Ty):∀l,mputA (.str n) (.agg (tyR t)) (kvC (gvL l))=some (kvC (gvL (putG n t l)))
 |[]=>rfl
 |p::l=>by
  show (match keyEqA (.str n) (.str p.1) with|some true=>_|some false=>_|none=>_)=_
  simp only[keyEqA,putG]
  by_cases e:n=p.1
  ·simp[e,kvC,gvL]
  ·have:=putG_put n t l
   simp only[kvC,gvL] at this
   simp only[e,decide_false,if_false,this,kvC,gvL,List.map_cons]
theorem putG_lk (n m:Nm)(t:Ty):∀l,lkG m (putG n t l)=if m=n then some t else lkG m l
 |[]=>by simp[putG,lkG]
 |p::l=>by
  simp only[putG]
  by_cases e:n=p.1
  ·rw[if_pos e]
   simp only[lkG]
   by_cases e2:m=p.1
   ·rw[if_pos e2,if_pos (e2.trans e.symm)]
   ·rw[if_neg e2,if_neg (fun h=>e2 (h.trans e)),if_neg e2]
  ·rw[if_neg e]
   simp only[lkG,putG_lk n m t l]
   by_cases e2:m=p.1
   ·rw[if_pos e2,if_pos e2,if_neg (fun h=>e (h.symm.trans e2))]
   ·rw[if_neg e2,if_neg e2]
def RepG (mv:AV)(G:GV)(l:List (Nm×Ty)):Prop:=(mv=.fmap (kvC (gvL l))\/(mv=.nilm/\l=[]))/\(l.map (·.1)).Nodup/\∀n,lkG n l=G n
end Go.Proofs.YtinbjdkibmkgbaaGreatDoor.p
namespace Go.Proofs.YtinbjdkibmkgbaaGreatDoor.p
open Go.Proofs Go Go.Cn code
set_option linter.unusedSimpArgs false
set_option linter.unusedVariables false
def lastF (l:List Nm)(n:Nm):Nat->Int
 |0=> -1
 |k+1=>if l[k]?=some n then (k:Nat) else lastF l n k
theorem last_ok (E:TypeId)(l:List Nm)(t:Tag)(n:Nm):Pure T 42 [.lst E (strC l) t,.str n] (.int .i64 (lastF l n l.length)):=by
 intro K h
 refine ACall.ret t42 fun hK=>?_
 simp only[u_C c42.eq_1,rn,pevA,seval,strC_len]
 refine W.bound (t:=0) rfl fun hB=>?_
 rw[strC_len] at hB
 unfold big at hB
 have hw0:IntKind.i64.wrap ((l.length:Int)-1)=(l.length:Int)-1:=by rw[wrap64 ⟨by omega,by omega⟩]
 refine aloop (α:=Nat) (fun k fr h1=>fr 0=.lst E (strC l) t/\fr 1=.str n/\fr 5=.int .i64 ((k:Int)-1)/\k<=l.length/\lastF l n l.length=lastF l n k/\h1=h) (fun k=>k) l.length ⟨rfl,rfl,by show AV.int .i64 (IntKind.i64.wrap ((l.length:Int)-1))=_;rw[hw0],Nat.le_refl _,rfl,rfl⟩ ?_
 rintro k fr h1 ⟨f0,f1,f5,hk,he,rfl⟩
 cases k with
 |zero=>
  have c1:decide ((0:Int)<=((0:Nat):Int)-1)=false:=rfl
  rw[he]
  simp only[u_C l42_0.eq_1,rn,pevA,seval,f0,f1,f5,c1]
  exact⟨.refl _,AH.le_refl _⟩
 |succ k=>
  have e5:(((k+1:Nat):Int)-1)=(k:Int):=by omega
  rw[e5] at f5
  have c1:decide ((0:Int)<=(k:Int))=true:=decide_eq_true (by omega)
  have c2:(0:Int)<=(k:Int):=by omega
  have hw:IntKind.i64.wrap ((k:Int)-1)=(k:Int)-1:=by rw[wrap64 ⟨by omega,by omega⟩]
  obtain⟨a,ha⟩ : ∃a,l[k]?=some a:=⟨l[k]'(by omega),by rw[List.getElem?_eq_getElem]⟩
  have hget:(strC l)[k]?=some [.str a]:=by rw[strC_get,ha];rfl
  rw[lastF,ha] at he
  by_cases e:a=n
  ·subst e
   rw[if_pos rfl] at he
   rw[he]
   have d0:decide (a=a)=true:=by simp
   simp only[u_C l42_0.eq_1,rn,pevA,seval,f0,f1,f5,c1,c2,Int.toNat_natCast,hget,d0]
   exact⟨.refl _,AH.le_refl _⟩
  ·rw[if_neg (fun h=>e (Option.some.inj h))] at he
   simp only[u_C l42_0.eq_1,rn,pevA,seval,f0,f1,f5,c1,c2,Int.toNat_natCast,hget,e,hw]
   exact⟨k,Nat.lt_succ_self k,f0,f1,rfl,by omega,he,rfl⟩
theorem tsame_ok:∀t,TyN t->Pure T 24 [.agg (tyR t),.agg (tyR t),.lst 0 [] .nil,.lst 0 [] .nil] (.bool true):=by
 refine Ty.ind fun k n l ih hb K h=>?_
 refine ACall.ret t24 fun hK=>?_
 cases hb with
 |mk hk4 hbl hba=>
 have d1:decide (k=k)=true:=by simp
 have d2:decide ((l.length:Int)=(l.length:Int))=true:=by simp
 have dn:decide (n=n)=true:=by simp
 have d4:decide (k=4)=false:=decide_eq_false hk4
 have hl0:Pure T 42 [.lst 0 [] .nil,.str n] (.int .i64 (-1)):=last_ok 0 [] .nil n
 simp only[u_C c24.eq_1,tyR,rn,pevA,seval,d1,tysR_len,d2]
 by_cases e:k=1
 ·have d0:decide (k=1)=true:=decide_eq_true e
  simp only[e_dregion d24_0,u_L s24_0.eq_1,u_T g24_0.eq_1,rn,pevA,seval,d0]
  refine hl0.use ?_
  simp only[e_dregion d24_0,u_L s24_0.eq_1,u_T g24_0.eq_1,rn,pevA,seval]
  refine hl0.use ?_
  have d5:decide ((-1:Int)= -1)=true:=rfl
  have d6:decide ((0:Int)<= -1)=false:=rfl
  simp only[e_dregion d24_0,u_L s24_0.eq_1,u_T g24_0.eq_1,rn,pevA,seval,d5,d6,dn]
  exact⟨.refl _,AH.le_refl _⟩
 ·have d0:decide (k=1)=false:=decide_eq_false e
  simp only[rn,pevA,seval,d0,d4,dn,tysR_len]
  refine aloop (α:=Nat) (fun i fr h1=>fr 2=.lst 0 [] .nil/\fr 3=.lst 0 [] .nil/\fr 4=.rptr [.int .i64 k,.str n,.lst 30 (tysR l) .no]/\fr 5=.rptr [.int .i64 k,.str n,.lst 30 (tysR l) .no]/\fr 73=.int .i64 (l.length:Nat)/\fr 74=.int .i64 i/\i<=l.length/\h1=h) (fun i=>l.length-i) 0 ⟨rfl,rfl,rfl,rfl,rfl,rfl,Nat.zero_le _,rfl⟩ ?_
  rintro i fr h1 ⟨f2,f3,f4,f5,f73,f74,hi,rfl⟩
  by_cases hlt:i<l.length
  ·have c1:decide ((i:Int)<(l.length:Int))=true:=decide_eq_true (by omega)
   have hw:IntKind.i64.wrap ((i:Int)+1)=((i+1:Nat):Int):=by rw[wrap64 ⟨by omega,by omega⟩];rfl
   obtain⟨x,hx⟩ : ∃x,l[i]?=some x:=⟨l[i],by simp[hlt]⟩
   have hget:(tysR l)[i]?=some (tyR x):=by rw[tysR_get,hx];rfl
   have hxm:=List.mem_of_getElem? hx
   simp only[u_C l24_3.eq_1,e_dregion d24_2,u_L s24_2.eq_1,u_T g24_2.eq_1,rn,pevA,seval,f2,f3,f4,f5,f73,f74,c1,hget,tyR_len,tyR_ne,tyR_one,tyR_take]
   refine (ih x hxm (hba x hxm)).use ?_
   simp only[e_dregion d24_2,u_L s24_2.eq_1,u_T g24_2.eq_1,rn,pevA,seval,f2,f3,f4,f5,f73,f74,hw]
   exact⟨i+1,by show l.length-(i+1)<l.length-i;omega,f2,f3,f4,f5,f73,rfl,hlt,rfl⟩
  ·obtain rfl:i=l.length:=by omega
   have c1:decide ((l.length:Int)<(l.length:Int))=false:=by simp
   simp only[u_C l24_3.eq_1,rn,pevA,seval,f73,f74,c1]
   exact⟨.refl _,AH.le_refl _⟩
theorem tSame_ok (t:Ty)(ht:TyN t):Pure T 12 [.agg (tyR t),.agg (tyR t)] (.bool true):=by
 intro K h
 refine ACall.ret t12 fun hK=>?_
 simp only[u_C c12.eq_1,rn,pevA,seval,tyR_len,tyR_ne,tyR_one,tyR_take]
 refine (tsame_ok t ht).use ?_
 simp only[rn,pevA,seval]
 exact⟨.refl _,AH.le_refl _⟩
theorem tmR_take (t:Tm):(tmR t).take 9=tmR t:=List.take_of_length_le (by rw[tmR_len];exact Nat.le_refl _)
theorem tmR_drop (t:Tm):(tmR t).drop 9=[]:=List.drop_of_length_le (by rw[tmR_len];exact Nat.le_refl _)
theorem sub_ok (k:Int)(nm:Nm)(n:Int)(ty:Ty)(l:List Tm)(a:List Ta)(b:List Tb)(j:Nat)(x:Tm)(hx:l[j]?=some x):Pure T 38 [.agg (tmR (.mk k nm n ty l a b)),.int .i64 j] (.agg (tmR x)):=by
 intro K h
 refine ACall.ret t38 fun hK=>?_
 obtain⟨tk,tn,tl⟩:=ty
 have hlt:j<l.length:=(List.getElem?_eq_some_iff.1 hx).1
 have c1:decide ((j:Int)<(l.length:Int))=true:=decide_eq_true (by omega)
 have hget:(tmsR l)[j]?=some (tmR x):=by rw[tmsR_eq,List.getElem?_map,hx];rfl
 simp only[u_C c38.eq_1,tmR,tyR,List.cons_append,List.nil_append,rn,pevA,seval,tmsR_len,c1,hget]
 intro b4 hb4 hk4
 simp only[rn,pevA,seval,tmsR_len,c1,hget,tmR_len,tmR_ne,tmR_one,tmR_take,tmR_drop,hk4,kN,kG,s_del hb4]
 exact⟨.refl _,AH.le_refl _⟩
end Go.Proofs.YtinbjdkibmkgbaaGreatDoor.p
namespace Go.Cn
set_option linter.unusedVariables false
theorem Frz.map2 {n:Nat}{es:List (AV×AV)}{p:AV}{h h0:AH}(ho:h.objs n=some (.map es))(hl:h0.le (h.del n)):Frz (.agg [p,.map n]) h (.agg [p,.fmap es]) h0:=by
 refine .map ho (fun F σ v hF he hr=>?_) (.drop hl (.refl _ _))
 cases hr with
 |agg hl h=>
  refine .agg hl fun i x y hx hy=>?_
  match i,hx with
  |0,hx=>cases hx;exact h 0 _ y rfl hy
  |1,hx=>cases hx;exact fz_rp hF he (h 1 _ y rfl hy)
end Go.Cn
namespace Go.Proofs.YtinbjdkibmkgbaaGreatDoor.p
open Go.Proofs Go Go.Cn code
set_option linter.unusedSimpArgs false
set_option linter.unusedVariables false
theorem gv_split:∀{l:List (Nm×Ty)}{pre post:List (AV×AV)}{k w:AV},kvC (gvL l)=pre++(k,w)::post->∃a p z,l=a++p::z/\pre=kvC (gvL a)/\post=kvC (gvL z)/\k=.str p.1/\w=.agg (tyR p.2)
 |[],pre,post,k,w,h=>by cases pre<;>cases h
 |q::l,[],post,k,w,h=>by
  have h:(AV.str q.1,AV.agg (tyR q.2))::kvC (gvL l)=(k,w)::post:=h
  cases h
  exact⟨[],q,l,rfl,rfl,rfl,rfl,rfl⟩
 |q::l,e::pre,post,k,w,h=>by
  have h:(AV.str q.1,AV.agg (tyR q.2))::kvC (gvL l)=e::(pre++(k,w)::post):=h
  obtain⟨h1,h2⟩:=List.cons.inj h
  obtain⟨a,p,z,rfl,rfl,rfl,rfl,rfl⟩:=gv_split h2
  subst h1
  exact⟨q::a,p,z,rfl,rfl,rfl,rfl,rfl⟩
theorem gv_keys {l:List (Nm×Ty)}(hn:(l.map (·.1)).Nodup):keysA (kvC (gvL l)):=by
 refine⟨fun e he=>?_,?_⟩
 ·obtain⟨q,_,rfl⟩:=List.mem_map.1 he
  simp[keyEqA]
 ·rw[kvC,gvL,List.map_map,List.pairwise_map]
  have:=List.pairwise_map.1 hn
  refine this.imp fun {a b} h=>?_
  show keyEqA (.str a.1) (.str b.1)=some false
  simp only[keyEqA,h,decide_false]
theorem lkG_app (n:Nm):∀(a b:List (Nm×Ty)),lkG n (a++b)=match lkG n a with|some t=>some t|none=>lkG n b
 |[],b=>rfl
 |p::a,b=>by
  simp only[List.cons_append,lkG]
  split
  ·rfl
  ·exact lkG_app n a b
theorem lkG_none {n:Nm}:∀{l:List (Nm×Ty)},n∉l.map (·.1)->lkG n l=none
 |[],_=>rfl
 |p::l,h=>by
  simp only[List.map_cons,List.mem_cons,not_or] at h
  simp only[lkG,if_neg h.1]
  exact lkG_none h.2
theorem putG_keys (n:Nm)(t:Ty):∀l,(putG n t l).map (·.1)=if n∈l.map (·.1) then l.map (·.1) else l.map (·.1)++[n]
 |[]=>by simp[putG]
 |p::l=>by
  simp only[putG]
  by_cases e:n=p.1
  ·rw[if_pos e];simp[e]
  ·rw[if_neg e]
   simp only[List.map_cons,List.mem_cons,e,false_or,putG_keys n t l]
   split<;>simp
theorem putG_nd {n:Nm}{t:Ty}{l:List (Nm×Ty)}(h:(l.map (·.1)).Nodup):((putG n t l).map (·.1)).Nodup:=by
 rw[putG_keys]
 split
 ·exact h
 ·rename_i hn
  exact List.nodup_append.2 ⟨h,by simp,fun a ha b hb=>by simp at hb;subst hb;rintro rfl;exact hn ha⟩
theorem extG_snoc (n m:Nm)(t:Ty):∀(l:List (Nm×Ty))(G:GV),extG G (l++[(n,t)]) m=if m=n then some t else extG G l m
 |[],G=>rfl
 |p::l,G=>by simp only[List.cons_append,extG];exact extG_snoc n m t l _
theorem with_two (M:AH)(mo:Nat)(K:Nat->Prop)(hko:¬K mo)(nt:List (Nm×Ty))(hlen:nt.length<=1000000)(En Et:TypeId)(tn tt:Tag)(l1:List (Nm×Ty))(nl1:(l1.map (·.1)).Nodup)(be:Nat)(R:CExit->AQ)(v6:AV)
  (hR:∀(fr:AFr)(l2:List (Nm×Ty)),fr 6=v6->fr 7=.rptr [.ptr be 0,.map mo]->(l2.map (·.1)).Nodup->(∀n,lkG n l2=extG (fun m=>lkG m l1) nt n)->R (.exit 2) fr (M.set mo (.map (kvC (gvL l2)))))
  (fr:AFr)(f1:fr 1=.lst En (strC (nt.map (·.1))) tn)(f2:fr 2=.lst Et (tysR (nt.map (·.2))) tt)(f6:fr 6=v6)(f7:fr 7=.rptr [.ptr be 0,.map mo])(f28:fr 28=.lst En (strC (nt.map (·.1))) tn)(f29:fr 29=.int .i64 (nt.length:Nat))(f30:fr 30=.int .i64 0) :
  W T K (.loop l41_2.toC) fr (M.set mo (.map (kvC (gvL l1)))) R:=by
 refine aloop (α:=Nat) (fun i fr h1=>fr 1=.lst En (strC (nt.map (·.1))) tn/\fr 2=.lst Et (tysR (nt.map (·.2))) tt/\fr 6=v6/\fr 7=.rptr [.ptr be 0,.map mo]/\fr 28=.lst En (strC (nt.map (·.1))) tn/\fr 29=.int .i64 (nt.length:Nat)/\fr 30=.int .i64 i/\i<=nt.length/\
  ∃l2:List (Nm×Ty),(l2.map (·.1)).Nodup/\(∀n,lkG n l2=extG (fun m=>lkG m l1) (nt.take i) n)/\h1=M.set mo (.map (kvC (gvL l2)))) (fun i=>nt.length-i) 0 ⟨f1,f2,f6,f7,f28,f29,f30,Nat.zero_le _,l1,nl1,fun n=>rfl,rfl⟩ ?_
 clear f1 f2 f6 f7 f28 f29 f30
 rintro i fr h1 ⟨f1,f2,f6,f7,f28,f29,f30,hi,l2,nl2,hl2,rfl⟩
 by_cases hlt:i<nt.length
 ·have c1:decide ((i:Int)<(nt.length:Int))=true:=decide_eq_true (by omega)
  have hw:IntKind.i64.wrap ((i:Int)+1)=((i+1:Nat):Int):=by rw[wrap64 ⟨by omega,by omega⟩];rfl
  obtain⟨x,hx⟩ : ∃x,nt[i]?=some x:=⟨nt[i],by simp[hlt]⟩
  have hg1:(strC (nt.map (·.1)))[i]?=some [.str x.1]:=by rw[strC_get,List.getElem?_map,hx];rfl
  have hg2:(tysR (nt.map (·.2)))[i]?=some (tyR x.2):=by rw[tysR_get,List.getElem?_map,hx];rfl
  have hput:=putG_put x.1 x.2 l2
  simp only[u_C l41_2.eq_1,e_dregion d41_1,u_L s41_1.eq_1,u_T g41_1.eq_1,rn,pevA,seval,f1,f2,f6,f7,f28,f29,f30,c1,hg1,hg2,kN,kG,tyR_len,tyR_ne,tyR_one,tyR_take,tyR_drop,hput,hko,hw]
  refine⟨i+1,by show nt.length-(i+1)<nt.length-i;omega,f1,f2,f6,f7,f28,f29,rfl,hlt,putG x.1 x.2 l2,putG_nd nl2,fun n=>?_,rfl⟩
  rw[putG_lk,hl2 n,List.take_add_one,hx]
  exact (extG_snoc x.1 n x.2 _ _).symm
 ·obtain rfl:i=nt.length:=by omega
  have c1:decide ((nt.length:Int)<(nt.length:Int))=false:=by simp
  rw[List.take_length] at hl2
  simp only[u_C l41_2.eq_1,rn,pevA,seval,f28,f29,f30,c1]
  exact hR _ l2 f6 f7 nl2 hl2
theorem extG_congr (l:List (Nm×Ty)):∀(G H:GV),(∀n,G n=H n)->∀n,extG G l n=extG H l n:=by
 induction l with
 |nil=>intro G H h n;exact h n
 |cons p l ih=>intro G H h n;exact ih _ _ (fun m=>by show (if m=p.1 then _ else G m)=(if m=p.1 then _ else H m);rw[h m]) n
theorem with_ok (mv:AV)(G:GV)(l:List (Nm×Ty))(hr:RepG mv G l)(be:Nat)(nt:List (Nm×Ty))(hlen:nt.length<=1000000)(En Et:TypeId)(tn tt:Tag)(K:Nat->Prop)(h:AH) :
  ACall T K (.func 41) [.agg [.ptr be 0,mv],.lst En (strC (nt.map (·.1))) tn,.lst Et (tysR (nt.map (·.2))) tt] h fun v h'=>∃l',v=.agg [.ptr be 0,.fmap (kvC (gvL l'))]/\RepG (.fmap (kvC (gvL l'))) (extG G nt) l'/\h'=h:=by
 refine ACall.retQ t41 fun hK=>?_
 obtain⟨hmv,hnd,hG⟩:=hr
 have h1:oneA mv=true:=by rcases hmv with rfl|⟨rfl,_⟩<;>rfl
 have h2:isAny mv=false:=by rcases hmv with rfl|⟨rfl,_⟩<;>rfl
 have h3:cellsA mv=[mv]:=by rcases hmv with rfl|⟨rfl,_⟩<;>rfl
 simp only[u_C c41.eq_1,rn,pevA,seval,h1,h2,h3]
 intro b6 hb6 hk6
 simp only[rn,pevA,seval,h1,h2,h3]
 intro mo hmo hko
 obtain⟨no6,hmo⟩:=AH.set_none.1 hmo
 simp only[rn,pevA,seval,h1,h2,h3]
 refine WO.range (es:=kvC (gvL l)) (by rcases hmv with rfl|⟨rfl,rfl⟩;exact .inl rfl;exact .inr ⟨rfl,rfl⟩) (gv_keys hnd) fun bi hbi hki=>?_
 obtain⟨nio,hbi⟩:=AH.set_none.1 hbi
 obtain⟨ni6,hbi⟩:=AH.set_none.1 hbi
 simp only[rn,pevA,seval]
 refine aloop (α:=List (Nm×Ty)×List (Nm×Ty)) (fun x fr h1=>fr 1=.lst En (strC (nt.map (·.1))) tn/\fr 2=.lst Et (tysR (nt.map (·.2))) tt/\fr 6=.ptr b6 0/\fr 7=.rptr [.ptr be 0,.map mo]/\fr 18=.ptr bi 0/\(x.1.map (·.1)).Nodup/\(x.2.map (·.1)).Nodup/\(∀p∈x.1,lkG p.1 l=some p.2)/\(∀n,lkG n x.2=if n∈x.1.map (·.1) then none else lkG n l)/\
  ∃cur,h1=((h.set b6 (.cells [.nilp,.nilm] 71)).set mo (.map (kvC (gvL x.2)))).set bi (.iter (kvC (gvL x.1)) cur)) (fun x=>x.1.length) (l,[])
  ⟨rfl,rfl,rfl,rfl,rfl,hnd,by simp,fun p hp=>?_,fun n=>?_,none,rfl⟩ ?_
 ·obtain⟨a,b,rfl⟩:=List.append_of_mem hp
  have:p.1∉a.map (·.1):=by
   rw[List.map_append,List.map_cons] at hnd
   exact fun hm=>(List.nodup_append.1 hnd).2.2 p.1 hm p.1 (by simp) rfl
  rw[lkG_app,lkG_none this]
  simp[lkG]
 ·show none=_
  by_cases hm:n∈l.map (·.1)
  ·rw[if_pos hm]
  ·rw[if_neg hm,lkG_none hm]
 ·rintro⟨td,l1⟩ fr h1 ⟨f1,f2,f6,f7,f18,ntd,nl1,htd,hlk,cur,rfl⟩
  simp only at ntd nl1 htd hlk
  simp only[u_C l41_0.eq_1,rn,pevA,seval]
  refine WO.next f18 (AH.set_same _ _ _) hki (fun h0=>?_) fun pre k w post h0=>?_
  ·have e0:td=[]:=by simpa[kvC,gvL] using h0
   subst e0
   simp only[rn,pevA,seval,f1,f2,f6,f7]
   have hlk':∀n,lkG n l1=G n:=fun n=>by rw[<-hG n];have:=hlk n;simpa using this
   have hcm:((h.set b6 (.cells [.nilp,.nilm] 71)).set mo (.map (kvC (gvL l1)))).set bi (.iter (kvC (gvL [])) cur)=((h.set b6 (.cells [.nilp,.nilm] 71)).set bi (.iter (kvC (gvL [])) cur)).set mo (.map (kvC (gvL l1))):=(set_comm nio.symm)
   rw[hcm]
   refine with_two _ mo K hko nt hlen En Et tn tt l1 nl1 be _ (.ptr b6 0) (fun fr2 l2 g6 g7 nl2 hl2=>?_) _ ?_ ?_ ?_ ?_ ?_ ?_ ?_
   ·simp only[rn,pevA,seval,g6,g7,kN,kG,nio,nio.symm,no6,no6.symm,ni6,ni6.symm,hk6]
    exact⟨_,h,Frz.map2 (n:=mo) (es:=kvC (gvL l2)) (by rw[AH.del_objs,if_neg no6,AH.set_same]) (le_del (le_del (le_set (le_set (le_set (AH.le_refl _) hb6) hbi) hmo) hb6) hmo),hK,l2,rfl,⟨.inl rfl,nl2,fun n=>(hl2 n).trans (extG_congr nt _ _ hlk' n)⟩,rfl⟩
   ·exact f1
   ·exact f2
   ·exact f6
   ·exact f7
   ·rfl
   ·simp only[rn,pevA,seval,f1,strC_len,List.length_map]
   ·rfl
  ·obtain⟨a,p,z,rfl,rfl,rfl,rfl,rfl⟩:=gv_split h0
   rw[AH.set_set]
   simp only[rn,pevA,seval,f1,f2,f6,f7,f18,kN,kG]
   intro b9 hb9 hk9
   have hb9':=hb9
   obtain⟨n9i,hb9⟩:=AH.set_none.1 hb9
   obtain⟨n9o,hb9⟩:=AH.set_none.1 hb9
   have hput:=putG_put p.1 p.2 l1
   have hcat:kvC (gvL a)++kvC (gvL z)=kvC (gvL (a++z)):=by simp[kvC,gvL]
   simp only[rn,pevA,seval,f1,f2,f6,f7,f18,kN,kG,n9i,n9i.symm,n9o,n9o.symm,s_del hb9',tyR_len,tyR_ne,tyR_one,tyR_take,tyR_drop,hk9,nio,nio.symm,hput,hko]
   rw[List.map_append,List.map_cons] at ntd
   obtain⟨na,nz,naz⟩:=List.nodup_append.1 ntd
   obtain⟨npz,nz⟩:=List.nodup_cons.1 nz
   have npa:p.1∉a.map (·.1):=fun hm=>naz p.1 hm p.1 (by simp) rfl
   refine⟨(a++z,putG p.1 p.2 l1),by simp,f1,f2,f6,f7,f18,?_,putG_nd nl1,fun q hq=>htd q (by rcases List.mem_append.1 hq with h|h<;>simp[h]),fun n=>?_,some (.str p.1,.agg (tyR p.2)),by rw[<-hcat]⟩
   ·show ((a++z).map (·.1)).Nodup
    rw[List.map_append]
    exact List.nodup_append.2 ⟨na,nz,fun x hx y hy=>naz x hx y (List.mem_cons_of_mem _ hy)⟩
   ·show lkG n (putG p.1 p.2 l1)=if n∈(a++z).map (·.1) then none else lkG n l
    rw[putG_lk,hlk n]
    by_cases e:n=p.1
    ·rw[if_pos e,if_neg (by rw[List.map_append,List.mem_append,e];exact fun h=>h.elim npa npz),e]
     exact (htd p (by simp)).symm
    ·rw[if_neg e]
     have this:n∈(a++p::z).map (·.1)↔n∈(a++z).map (·.1):=by simp[e]
     by_cases hm:n∈(a++z).map (·.1)
     ·rw[if_pos hm];exact if_pos (this.2 hm)
     ·rw[if_neg hm];exact if_neg fun h=>hm (this.1 h)
end Go.Proofs.YtinbjdkibmkgbaaGreatDoor.p
namespace Go.Proofs.YtinbjdkibmkgbaaGreatDoor.p
open Go.Proofs Go Go.Cn code
set_option linter.unusedSimpArgs false
set_option linter.unusedVariables false
structure EnC (h:AH)(be:Nat)(gl:GV):Prop where
 r:∃mv1 mv2 L,h.objs be=some (.cells [mv1,mv2] 54)/\entA h mv2=some (kvC (gvL L))/\∀n,lkG n L=gl n
theorem ent_keep {h h':AH}(hk:∀n o,h.objs n=some o->h'.objs n=some o){mv:AV}{es:List (AV×AV)}(hm:entA h mv=some es):entA h' mv=some es:=by
 cases mv with
 |map m=>
  rw[en_m] at hm ⊢
  cases e:h.objs m with
  |none=>rw[e] at hm;cases hm
  |some o=>rw[hk m o e];rw[e] at hm;exact hm
 |nilm=>exact hm
 |fmap es=>exact hm
 |_=>cases hm
theorem EnC.keep {h h':AH}{be:Nat}{gl:GV}(he:EnC h be gl)(hk:∀n o,h.objs n=some o->h'.objs n=some o):EnC h' be gl:=
 let ⟨a,b,L,h1,h2,h3⟩:=he.r
 ⟨a,b,L,hk _ _ h1,ent_keep hk h2,h3⟩
theorem set_keep {h:AH}{b:Nat}{o:AO}(hb:h.objs b=none):∀n x,h.objs n=some x->(h.set b o).objs n=some x:=fun n x hn=>by rw[AH.set_ne _ _ (by rintro rfl;rw[hb] at hn;cases hn)];exact hn
theorem EnC.set {h:AH}{be:Nat}{gl:GV}(he:EnC h be gl){b:Nat}{o:AO}(hb:h.objs b=none):EnC (h.set b o) be gl:=he.keep (set_keep hb)
theorem RepG.one {mv:AV}{G:GV}{l:List (Nm×Ty)}(hr:RepG mv G l):oneA mv=true:=by rcases hr.1 with rfl|⟨rfl,_⟩<;>rfl
theorem RepG.any {mv:AV}{G:GV}{l:List (Nm×Ty)}(hr:RepG mv G l):isAny mv=false:=by rcases hr.1 with rfl|⟨rfl,_⟩<;>rfl
theorem RepG.cells {mv:AV}{G:GV}{l:List (Nm×Ty)}(hr:RepG mv G l):cellsA mv=[mv]:=by rcases hr.1 with rfl|⟨rfl,_⟩<;>rfl
theorem RepG.ent {mv:AV}{G:GV}{l:List (Nm×Ty)}(hr:RepG mv G l)(h:AH):entA h mv=some (kvC (gvL l)):=by rcases hr.1 with rfl|⟨rfl,rfl⟩<;>rfl
theorem variable_ok {gl G:GV}{mv:AV}{l:List (Nm×Ty)}(hr:RepG mv G l){h:AH}{be:Nat}(he:EnC h be gl){n:Nm}{t:Ty}(ht:G n=some t\/(G n=none/\gl n=some t))(K:Nat->Prop) :
  ACall T K (.func 31) [.agg [.ptr be 0,mv],.str n] h fun v h'=>v=.tuple [.agg (tyR t),.nili]/\h'=h:=by
 refine ACall.ret t31 fun hK=>?_
 have h1:=hr.one
 have h2:=hr.any
 have h3:=hr.cells
 have h4:=hr.ent
 have hG:=hr.2.2 n
 simp only[u_C c31.eq_1,rn,pevA,seval,h1,h2,h3]
 intro b4 hb4 hk4
 simp only[rn,pevA,seval,h1,h2,h3,h4,kv_look,lkG_look,hG]
 rcases ht with e|⟨e,e2⟩
 ·simp only[e,Option.map_some,rn,pevA,seval,tyR_len,tyR_ne,tyR_one,tyR_take,tyR_drop]
  exact⟨hk4,.refl _,le_del (AH.le_refl _) hb4⟩
 ·obtain⟨mv1,mv2,L,ho,hm,hgl⟩:=(he.set (o:=.cells [.int .i64 0,.str [],.lst 0 [] .nil] 30) hb4).r
  have hg2:=hgl n
  simp only[e,Option.map_none,rn,pevA,seval,tyR_len,tyR_ne,tyR_one,tyR_take,tyR_drop,ho,hm,kv_look,lkG_look,hg2,e2,Option.map_some]
  exact⟨hk4,.refl _,le_del (AH.le_refl _) hb4⟩
end Go.Proofs.YtinbjdkibmkgbaaGreatDoor.p
