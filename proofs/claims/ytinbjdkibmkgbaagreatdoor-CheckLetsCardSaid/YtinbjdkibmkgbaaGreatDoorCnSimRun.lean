/- Regions in order, control, calls. -/

import Derived.Test.YtinbjdkibmkgbaaGreatDoorCnSem
namespace Go.Cn
set_option linter.unusedVariables false
set_option linter.unusedSimpArgs false
section
variable {P:Program}{C:CallQ}{n lo:Nat}{r:Option Nat}{ops:Array Oper}
theorem sim_one (hP:ProgOk P)(hC:SimC P C){o:Oper}{s:CStep}(hs:stepOf P n ops o=some s){β:Ren}{σ:CW}{w:World}{fr:Fr}{a:Act}(hG:GOk P β)(h:Rel P β σ w)(hf:FRel P β n lo fr a w)
  {Kc:Fr->CW->Prop}(hr:StepW C s fr σ Kc){K:Act->World->Prop}{Q:Exit->Act->World->Prop}(hK:∀fr1 σ1 β1 a1 w1,Kc fr1 σ1->Stp P β σ w β1 σ1 w1->FRel P β1 n lo fr1 a1 w1->K a1 w1) :
  if Region.wanted o (yielded ops a.tmps) then o.wpIn (WR r) 0 P a w K Q else (∀f,o.about P w a.eval=some f->(WR r).fn f)/\K (a.put o.dst undef) w:=by
 obtain⟨q,hq,hsq,hsd,hconst,hdst,hgd⟩:=stepOf_some hs
 have hw:=wants_rel (a:=a) (fr:=fr) (β:=β) hs (fun t b _=>hf.rel t)
 rw[hw]
 rcases hr with⟨h1,h2⟩|⟨h1,h2⟩
 ·rw[if_pos h1]
  refine sim_step hP hC hG h hq (fun x hx=>ev_rel hG (hconst x hx) fun t _=>hf.rel t) (hsq▸h2) fun v σ' β' v' w' hQ hst hv=>?_
  refine hK _ _ β' _ w' hQ hst ?_
  rw[hsd]
  exact (hf.step hst).put hdst hv
 ·rw[if_neg (by rw[h1];simp)]
  refine⟨fun _ _=>trivial,hK _ _ β _ w h2 (.refl h) ?_⟩
  rw[hsd]
  exact hf.put hdst .undef
theorem sim_list (hP:ProgOk P)(hC:SimC P C){Q:Exit->Act->World->Prop}:∀(is:List Nat)(ss:List CStep),(∀(j:Nat)(s:CStep),ss[j]?=some s->∃(i:Nat)(o:Oper),is[j]?=some i/\ops[i]?=some o/\stepOf P n ops o=some s)->is.length=ss.length->
  ∀{fr:Fr}{σ:CW}{Kc:Fr->CW->Prop},StepsW C ss fr σ Kc->∀{β:Ren}{w:World}{a:Act},GOk P β->Rel P β σ w->FRel P β n lo fr a w->
   (∀fr1 σ1 β1 a1 w1,Kc fr1 σ1->Stp P β σ w β1 σ1 w1->FRel P β1 n lo fr1 a1 w1->Q .normal a1 w1)->wpOpsIn (WR r) 0 P ops Q is a w
 |[],ss,_,hl,fr,σ,Kc,hr,β,w,a,hG,h,hf,hK=>by
  cases ss with
  |nil=>exact hK fr σ β a w hr (.refl h) hf
  |cons s ss=>simp at hl
 |i::is,ss,hm,hl,fr,σ,Kc,hr,β,w,a,hG,h,hf,hK=>by
  cases ss with
  |nil=>simp at hl
  |cons s ss=>
   obtain⟨i',o,hi,ho,hs⟩:=hm 0 s rfl
   simp at hi
   subst hi
   simp only[wpOpsIn,ho]
   refine sim_one hP hC hs hG h hf hr ?_
   intro fr1 σ1 β1 a1 w1 hk hst hf1
   refine sim_list hP hC is ss (fun j s' hj=>?_) (by simpa using hl) hk (hG.mono hst.le) hst.rel hf1 ?_
   ·obtain⟨i',o',q1,q2,q3⟩:=hm (j+1) s' (by simpa using hj)
    exact⟨i',o',by simpa using q1,q2,q3⟩
   ·intro fr2 σ2 β2 a2 w2 hk2 hst2 hf2
    exact hK fr2 σ2 β2 a2 w2 hk2 (hst.trans hst2 h) hf2
theorem mapM_some {α γ:Type}{f:α->Option γ}:∀{l:List α}{r:List γ},l.mapM f=some r->l.length=r.length/\∀(j:Nat)(y:γ),r[j]?=some y->∃x,l[j]?=some x/\f x=some y
 |[],r,h=>by cases h;exact⟨rfl,by simp⟩
 |x::l,r,h=>by
  rw[List.mapM_cons] at h
  cases e:f x with
  |none=>rw[e] at h;cases h
  |some y=>
   rw[e] at h
   cases e2:l.mapM f with
   |none=>rw[e2] at h;cases h
   |some r'=>
    rw[e2] at h
    cases h
    obtain⟨h1,h2⟩:=mapM_some e2
    refine⟨by simp[h1],fun j z hz=>?_⟩
    cases j with
    |zero=>simp at hz;subst hz;exact⟨x,rfl,e⟩
    |succ j=>simp at hz;obtain⟨x',q1,q2⟩:=h2 j z hz;exact⟨x',by simpa using q1,q2⟩
def Ends' (P:Program)(n lo:Nat)(β:Ren)(σ:CW)(w:World)(Kc:Fr->CW->Prop)(K:Act->World->Prop):Prop:=
 ∀fr1 σ1 β1 a1 w1,Kc fr1 σ1->Stp P β σ w β1 σ1 w1->FRel P β1 n lo fr1 a1 w1->K a1 w1
theorem sim_region (hP:ProgOk P)(hC:SimC P C){id:Nat}{ss:List CStep}(hss:ops.toList.mapM (stepOf P n ops)=some ss){Q:Exit->Act->World->Prop}{fr:Fr}{σ:CW}{Kc:Fr->CW->Prop}(hr:StepsW C ss fr σ Kc){β:Ren}{w:World}{a:Act}
  (hG:GOk P β)(h:Rel P β σ w)(hf:FRel P β n lo fr a w)(hK:Ends' P n lo β σ w Kc (Q .normal)):(Code.region id ops false).wpIn (WR r) 0 P Q a w:=by
 obtain⟨h1,h2⟩:=mapM_some hss
 refine wpIn_region (sim_list hP hC _ ss (fun j s hj=>?_) (by simp[<-h1]) hr hG h hf hK)
 obtain⟨o,q1,q2⟩:=h2 j s hj
 have hj':j<ops.size:=by have:=(List.getElem?_eq_some_iff.1 q1).1;simpa using this
 exact⟨j,o,by simp[hj'],by simpa using q1,q2⟩
def DrawOk (P:Program)(C:CallQ)(n:Nat):Prop:=∀(r:Option Nat)(ops:Array Oper)(p:DPlan),planOf P n ops=some p->∀(id:Nat)(Q:Exit->Act->World->Prop){fr:Fr}{σ:CW}{Kc:Fr->CW->Prop},
 (StepsW C p.seg fr σ fun fr1 σ1=>StagesW C p.stages fr1 σ1 Kc)->∀{lo:Nat}{β:Ren}{w:World}{a:Act},GOk P β->Rel P β σ w->FRel P β n lo fr a w->Ends' P n lo β σ w Kc (Q .normal)->(Code.region id ops true).wpIn (WR r) 0 P Q a w
def toExit:CExit->Exit
 |.normal=>.normal
 |.exit id=>.exit id
 |.ret=>.ret
def strip:Code->Code
 |.scope c=>strip c
 |c=>c
theorem comp_strip (c:Code):compCode P n (strip c)=compCode P n c:=by
 induction c<;>simp_all [strip,compCode]
theorem flat_strip (c:Code):flat (strip c)=flat c:=by
 induction c<;>simp_all [strip,flat]
theorem noGoto_idem {Q:Exit->Act->World->Prop}{e:Exit}{a:Act}{w:World}(h:Exit.noGoto Q e a w):Exit.noGoto (Exit.noGoto Q) e a w:=by cases e<;>exact h
theorem wpIn_scope_straight {F:Fence}{m:Nat}{Q:Exit->Act->World->Prop}{c:Code}{a:Act}{w:World}(h:c.wpIn F m P (Exit.noGoto Q) a w):(Code.scope c).wpIn F m P Q a w:=by
 intro b k cs hro hb hr
 have h0:(lone (b.atR a (.code (.scope c)::k)) cs w).fenced P F:=fenced_calm hb hr rfl
 have hs:step P (lone (b.atR a (.code (.scope c)::k)) cs w)=.next (lone (b.atR a (.code c::.inScope c::k)) cs w):=step_lone_go (by simp[stepG,stepG.exec,Frame.atR])
 have hs':∀a w,step P (lone (b.atR a (.inScope c::k)) cs w)=.next (lone (b.atR a k) cs w):=fun a w=>step_lone_go (by simp[stepG,stepG.exec,Frame.atR])
 have hx:∀id,exitTo id (.inScope c::k)=exitTo id k:=fun id=>by simp[exitTo]
 obtain⟨e,a₁,w₁,hq,harr⟩:=h b (.inScope c::k) cs hro hb hr
 cases e with
 |normal=>exact⟨.normal,a₁,w₁,hq,.head h0 hs (StepsIn.trans harr (.one (fenced_calm hb hr rfl) (hs' _ _)))⟩
 |exit id=>
  refine⟨.exit id,a₁,w₁,hq,fun k' hk=>.head h0 hs (harr.1 k' (by rw[hx];exact hk)),fun hr' hk=>?_⟩
  obtain⟨k₁,h1,h2⟩:=harr.2 hr' (by rw[hx];exact hk)
  exact⟨k₁,h1,.head h0 hs h2⟩
 |goto l=>exact hq.elim
 |ret=>exact⟨_,a₁,w₁,hq,.of_steps (.one h0 hs) harr⟩
 |panic ch=>exact⟨_,a₁,w₁,hq,.of_steps (.one h0 hs) harr⟩
 |outgrown=>exact⟨_,a₁,w₁,hq,.of_steps (.one h0 hs) harr⟩
theorem wp_strip {F:Fence}{m:Nat}{Q:Exit->Act->World->Prop}{w:World}{a:Act}(c:Code)(h:(strip c).wpIn F m P (Exit.noGoto Q) a w):c.wpIn F m P (Exit.noGoto Q) a w:=by
 induction c with
 |scope c ih=>exact wpIn_scope_straight (wpIn_mono (ih h) fun _ _ _=>noGoto_idem)
 |_=>exact h
theorem strip_scope (c:Code):∀d,strip c≠.scope d:=by
 induction c<;>intro d h<;>simp_all [strip]
def LoopIn (F:Fence)(m:Nat)(P:Program)(c:Code)(Q:Exit->Act->World->Prop)(a:Act)(w:World):Prop:=
 ∀(b:Frame)(k:List Go.Item)(cs:List Frame),b.roundOf=F.round->F.fn b.fn->F.room (cs.length+1+m)->
  ∃e a' w',Q e a' w'/\ArrivesIn (Machine.fenced P F) P (lone (b.atR a (.code c::.inLoop c::k)) cs w) b k cs e a' w'
theorem LoopIn.loop {F:Fence}{m:Nat}{Q:Exit->Act->World->Prop}{c:Code}{a:Act}{w:World}(h:LoopIn F m P c Q a w):(Code.loop c).wpIn F m P Q a w:=by
 intro b k cs hro hb hr
 obtain⟨e,a',w',hq,harr⟩:=h b k cs hro hb hr
 exact⟨e,a',w',hq,.of_steps (.one (fenced_calm hb hr rfl) stepR_loop) harr⟩
theorem LoopIn.of_round {F:Fence}{m:Nat}{Q:Exit->Act->World->Prop}{c:Code}{a:Act}{w:World}(h:c.wpIn F m P (Exit.then (LoopIn F m P c Q) Q) a w):LoopIn F m P c Q a w:=by
 intro b k cs hro hb hr
 obtain⟨e,a₁,w₁,hq,harr⟩:=h b (.inLoop c::k) cs hro hb hr
 cases e with
 |normal=>
  obtain⟨e₂,a₂,w₂,hq₂,harr₂⟩:=hq b k cs hro hb hr
  exact⟨e₂,a₂,w₂,hq₂,.of_steps (StepsIn.trans harr (.one (fenced_calm hb hr rfl) stepR_inLoop)) harr₂⟩
 |exit id=>exact⟨_,a₁,w₁,hq,.pass (x:=.inLoop c) rfl (fun _ _=>.inl (by simp)) harr⟩
 |goto l=>exact⟨_,a₁,w₁,hq,.pass (x:=.inLoop c) rfl (fun _ _=>.inl (by simp)) harr⟩
 |ret=>exact⟨_,a₁,w₁,hq,.pass (x:=.inLoop c) rfl (fun _ _=>.inl (by simp)) harr⟩
 |panic ch=>exact⟨_,a₁,w₁,hq,.pass (x:=.inLoop c) rfl (fun _ _=>.inl (by simp)) harr⟩
 |outgrown=>exact⟨_,a₁,w₁,hq,.pass (x:=.inLoop c) rfl (fun _ _=>.inl (by simp)) harr⟩
def Outs (P:Program)(n lo:Nat)(β:Ren)(σ:CW)(w:World)(Kc:CExit->Fr->CW->Prop)(Q:Exit->Act->World->Prop):Prop:=
 ∀e fr1 σ1 β1 a1 w1,Kc e fr1 σ1->Stp P β σ w β1 σ1 w1->FRel P β1 n lo fr1 a1 w1->Q (toExit e) a1 w1
def CodeOk (P:Program)(n:Nat)(r:Option Nat)(c:Code)(fr:Fr)(σ:CW)(Kc:CExit->Fr->CW->Prop):Prop:=
 ∀(Q:Exit->Act->World->Prop){lo:Nat}{β:Ren}{w:World}{a:Act},GOk P β->Rel P β σ w->FRel P β n lo fr a w->Outs P n lo β σ w Kc Q->c.wpIn (WR r) 0 P (Exit.noGoto Q) a w
def LoopOk (P:Program)(n:Nat)(r:Option Nat)(c:Code)(fr:Fr)(σ:CW)(Kc:CExit->Fr->CW->Prop):Prop:=
 ∀(Q:Exit->Act->World->Prop){lo:Nat}{β:Ren}{w:World}{a:Act},GOk P β->Rel P β σ w->FRel P β n lo fr a w->Outs P n lo β σ w Kc Q->LoopIn (WR r) 0 P c (Exit.noGoto Q) a w
theorem CodeOk.of_strip {c:Code}{fr:Fr}{σ:CW}{Kc:CExit->Fr->CW->Prop}(h:CodeOk P n r (strip c) fr σ Kc):CodeOk P n r c fr σ Kc:=
 fun Q _ _ _ _ hG hr hf hK=>wp_strip c (h Q hG hr hf hK)
inductive CompR (P:Program)(n:Nat):Code->CCode->Prop where
 |skip:CompR P n .skip .skip
 |label (l:Nat):CompR P n (.label l) .skip
 |region (id:Nat){ops:Array Oper}{l:List CStep}(h:ops.toList.mapM (stepOf P n ops)=some l):CompR P n (.region id ops false) (.region l)
 |dregion (id:Nat){ops:Array Oper}{p:DPlan}(h:planOf P n ops=some p):CompR P n (.region id ops true) (.dregion p.seg p.stages)
 |seq (a b:Code):CompR P n (.seq a b) (.seq (compCode P n a) (compCode P n b))
 |cond {c:Operand}(hc:constOk P c=true)(a b:Code):CompR P n (.cond c a b) (.cond c (compCode P n a) (compCode P n b))
 |block (id:Nat)(c:Code):CompR P n (.block id c) (.block id (compCode P n c))
 |loop (c:Code):CompR P n (.loop c) (.loop (compCode P n c))
 |exit (id:Nat):CompR P n (.exit id) (.exit id)
 |ret:CompR P n .ret .ret
 |rfun {f:Operand}{ps:Array Tmp}{a b:Code}(hf:constOk P f=true)(hp:∀p∈ps.toList,p<n)(ha:flat a=true)(hb:flat b=true):CompR P n (.rangeFunc f ps a b) (.rfun f ps.toList (compCode P n a) (compCode P n b))
theorem comp_inv {c:Code}{cc:CCode}(hs:∀d,c≠.scope d)(h:compCode P n c=cc)(hn:cc≠.no):CompR P n c cc:=by
 cases c
 case skip=>subst h;exact .skip
 case label=>subst h;exact .label _
 case seq=>subst h;exact .seq _ _
 case block=>subst h;exact .block _ _
 case loop=>subst h;exact .loop _
 case exit=>subst h;exact .exit _
 case ret=>subst h;exact .ret
 case scope d=>exact absurd rfl (hs d)
 case cond c a b=>
  simp only[compCode] at h
  split at h
  ·rename_i hc;subst h;exact .cond hc _ _
  ·exact absurd h.symm hn
 case region id ops d=>
  cases d<;>simp only[compCode] at h
  ·split at h
   ·rename_i l hl;subst h;exact .region _ hl
   ·exact absurd h.symm hn
  ·split at h
   ·rename_i l hl;subst h;exact .dregion _ hl
   ·exact absurd h.symm hn
 case rangeFunc f ps a b=>
  simp only[compCode] at h
  split at h
  ·rename_i hc
   subst h
   simp only[Bool.and_eq_true] at hc
   obtain⟨⟨⟨h1,h2⟩,h3⟩,h4⟩:=hc
   refine .rfun h1 (fun p hp=>?_) h3 h4
   have:=List.all_eq_true.1 h2 p hp
   simpa[Nat.blt,Nat.succ_le_iff] using this
  ·exact absurd h.symm hn
 all_goals exact absurd h.symm hn
theorem CodeOk.of_comp {cc:CCode}{fr:Fr}{σ:CW}{Kc:CExit->Fr->CW->Prop}(hn:cc≠.no)(h:∀c,CompR P n c cc->(r=none\/flat c=true)->CodeOk P n r c fr σ Kc) :
  ∀c,compCode P n c=cc->(r=none\/flat c=true)->CodeOk P n r c fr σ Kc:=
 fun c hc hfl=>.of_strip (h _ (comp_inv (strip_scope c) (by rw[comp_strip];exact hc) hn) (by rw[flat_strip];exact hfl))
theorem LoopOk.code {c:Code}{fr:Fr}{σ:CW}{Kc:CExit->Fr->CW->Prop}(h:LoopOk P n r c fr σ Kc):CodeOk P n r (.loop c) fr σ Kc:=
 fun Q _ _ _ _ hG hr hf hK=>(h Q hG hr hf hK).loop
theorem Outs.trans {β β1:Ren}{σ σ1:CW}{w w1:World}{Kc:CExit->Fr->CW->Prop}{Q:Exit->Act->World->Prop}(h:Rel P β σ w)(hst:Stp P β σ w β1 σ1 w1)(hK:Outs P n lo β σ w Kc Q):Outs P n lo β1 σ1 w1 Kc Q:=
 fun e fr2 σ2 β2 a2 w2 hk hst2 hf2=>hK e fr2 σ2 β2 a2 w2 hk (hst.trans hst2 h) hf2
theorem Stp.push {β:Ren}{σ:CW}{w w':World}{o':Obj}(h:Rel P β σ w)(hw:w'.heap=w.heap.push o')(hos:w'.os=w.os)(hout:w'.output=w.output)(htape:w'.tape=w.tape):Stp P β σ w β σ w' where
 le:=.refl _
 new:=fun _ _ h=>.inl h
 next:=Nat.le_refl _
 ro:=rfl
 inj:=rfl
 cfr:=fun _ _ _=>.inl rfl
 size:=by rw[hw];simp
 afr:=fun B hB' _=>push_get hw hB'
 os:=hos
 out:=hout
 tape:=htape
 rel:=
 {inv:=h.inv
  wr:=h.wr
  lt:=fun b i hb=>⟨(h.lt b i hb).1,by rw[hw];simp;exact Nat.lt_succ_of_lt (h.lt b i hb).2⟩
  obj:=fun b i o hb ho=>by rw[push_get hw (h.lt b i hb).2];exact h.obj b i o hb ho
  alias:=h.alias
  here:=h.here
  iters:=h.iters.keep (.refl _) (Nat.le_refl _) (fun _ _ h=>.inl h) (fun _ _ _ _ h _=>h) fun b i o hb ho _=>by rw[push_get hw (h.lt b i hb).2];exact ho}
theorem updB_put {w:World}{B:Nat}{o o1:Obj}(h:w.heap[B]?=some o1):UpdB w (w.putObj B o) B o where
 size:=by simp[World.putObj]
 get:=by
  intro j
  by_cases hj:j=B
  ·subst hj;rw[if_pos rfl];exact World.putObj_heap_same (lt_of_get h)
  ·rw[if_neg hj];exact World.putObj_heap_other hj
 os:=rfl
 out:=rfl
 tape:=rfl
theorem iters_loop {β:Ren}{σ:CW}{w w':World}{c:Nat}{i:BI}{o1 o2:CObj}{o2':Obj}(h:Rel P β σ w)(hc:σ.heap c=some o1)(h1:isRow o1=false)(hm:isMI o1=false)(h2:isIter o2=false)(h3:isMI o2=false)(hi:β c=some i)(hu:UpdB w w' i.B o2'):Iters β (σ.set c o2) w':=by
 have other:=h.other hc h1 hi
 intro r ir m v seen hr ho
 have ho':upd σ.heap c (some o2) r=some (.iter (some m) v seen):=ho
 by_cases hrc:r=c
 ·subst hrc;rw[upd_same] at ho';cases ho';cases h2
 ·rw[upd_ne _ _ hrc] at ho'
  obtain⟨im,since,seen',last,f1,f2,f3,f4,f5⟩:=h.iters r ir m v seen hr ho'
  refine⟨im,since,seen',last,f1,?_,f3,f4,fun es0 v1 hm0=>?_⟩
  ·rw[hu.get,if_neg]
   ·exact f2
   ·intro eB;have:=other r ir hrc hr eB;rw[ho'] at this;cases this
  ·have hm0':upd σ.heap c (some o2) m=some (.map es0 v1):=hm0
   by_cases hmc:m=c
   ·subst hmc;rw[upd_same] at hm0';cases hm0';cases h3
   ·rw[upd_ne _ _ hmc] at hm0'
    obtain⟨p1,p2⟩:=f5 es0 v1 hm0'
    refine⟨p1,fun e3=>?_⟩
    obtain⟨es3,clock3,p3,p4⟩:=p2 e3
    refine⟨es3,clock3,?_,p4⟩
    rw[hu.get,if_neg]
    ·exact p3
    ·intro eB;have:=other m im hmc f1 eB;rw[hm0'] at this;cases this
theorem loop_inv {β:Ren}{i:BI}{st:LoopState}{fr:Fr}{ps:List Tmp}{as body:CCode}{pend:Option CExit}{o':Option Obj}(h:ObjRel P β i (.loop st fr ps as body pend) o'):∃L,o'=some (.loop L)/\LoopRel P β st fr ps as body pend L:=by
 cases o' with
 |none=>exact h.elim
 |some o'=>
  cases o'<;>first|exact h.elim|skip
  exact⟨_,rfl,h⟩
theorem sim_rfun (hP:ProgOk P)(hC:SimC P C){f:Operand}{ps:Array Tmp}{ac bc:Code}(hcf:constOk P f=true)(hps:∀p∈ps.toList,p<n)(ha:flat ac=true)(hb:flat bc=true){fr:Fr}{σ:CW}{Kc:CExit->Fr->CW->Prop}(g:Nat)(x1 x2:Array Value)(hf:ev fr f=.func (.func g) x1 x2)
  (h:C (.func g) (x1.toList++[.func (.yield σ.next) #[] #[]]++x2.toList) (σ.add (.loop .ready fr ps.toList (compCode P n ac) (compCode P n bc) none)) fun _ σ2=>
    ∃st pend,σ2.heap σ.next=some (.loop st fr ps.toList (compCode P n ac) (compCode P n bc) pend)/\st≠.busy/\pend≠some .normal/\Kc (pend.getD .normal) fr (σ2.set σ.next .dead)) :
  CodeOk P n none (.rangeFunc f ps ac bc) fr σ Kc:=by
 intro Q lo β w a hG hr hfr hK
 refine wpIn_rangeFunc fun fn _=>?_
 have hst1:=Stp.push (o':=.deferred (some [])) (w':=w.alloc (.deferred (some []))) hr rfl rfl rfl rfl
 obtain⟨W0,hW0⟩ : ∃W0,w.alloc (.deferred (some []))=W0:=⟨_,rfl⟩
 rw[hW0] at hst1
 have hsz:W0.heap.size=w.heap.size+1:=by rw[<-hW0];exact World.size_alloc _ _
 let L:Loop:={state:=.ready,pending:=none,fn:=fn,tmps:=a.tmps,params:=ps,assign:=ac,body:=bc,defers:=w.heap.size}
 let i:BI:=⟨w.heap.size+1,0,0,0,true⟩
 have hLR:∀β',Le β β'->LoopRel P β' .ready fr ps.toList (compCode P n ac) (compCode P n bc) none L:=fun β' hl=>⟨rfl,rfl,fun t=>(hfr.rel t).mono hl,⟨n,hfr.size,rfl,rfl,ha,hb,hps⟩,rfl⟩
 have hst2:=hst1.rel.alloc (o:=.loop .ready fr ps.toList (compCode P n ac) (compCode P n bc) none) (o':=.loop L) (i:=i) (w':=W0.alloc (.loop L)) hsz.symm rfl rfl rfl rfl trivial (hLR _ (hr.le_upd i))
 have hst12:=hst1.trans hst2 hr
 have hfun:=ev_rel (a:=a) hG hcf fun t _=>hfr.rel t
 rw[hf] at hfun
 obtain⟨y1,y2,hv,l1,l2⟩:=hfun.func_inv
 have hle:=hst12.le
 have hyield:VRel P (upd β σ.next (some i)) (.func (.yield σ.next) #[] #[]) (.func (.yield (w.heap.size+1)) #[] #[]):=VRel.yield (i:=i) (upd_same _ _ _)
 have hl:LRel P (upd β σ.next (some i)) (x1.toList++[.func (.yield σ.next) #[] #[]]++x2.toList) (y1.toList++[.func (.yield (w.heap.size+1)) #[] #[]]++y2.toList):=((l1.mono hle).append (.cons hyield .nil)).append (l2.mono hle)
 obtain⟨⟨fn',hf1,hf2,hf3⟩,hcalls⟩:=hC.func h hst12.rel (hG.mono hle) hl
 refine⟨w.heap.size+1,[{target:=.collected w.heap.size,args:= #[]}],W0.alloc (.loop L),{target:=.fn (.func g) y2,args:=y1++ #[.func (.yield (w.heap.size+1)) #[] #[]]},W0.alloc (.loop L),g,
  (y1.toList++[Value.func (.yield (w.heap.size+1)) #[] #[]]++y2.toList).toArray,W0.alloc (.loop L),?_,?_,fun _ _=>trivial,?_,fun hd=>absurd hd (by simp[WR,Fence.wide]),?_⟩
 ·rw[<-hW0];exact run_enterLoop_outer _ _ _ _ _
 ·simp only[resolve,hv]
  simp[go_sem]
 ·have e1:(y1.toList++[Value.func (.yield (w.heap.size+1)) #[] #[]]++y2.toList).toArray=y1++ #[Value.func (.yield (w.heap.size+1)) #[] #[]]++y2:=by apply Array.ext';simp
  simp only[invoke,e1]
  exact r_callFunc hf1 hf2 hf3
 ·refine CallsIn.mono hcalls fun e w2 he=>?_
  obtain⟨v,v',β2,σ2,⟨st,pend,k1,k2,k3,k4⟩,rfl,hv2,hst3⟩:=he
  have hi2:β2 σ.next=some i:=hst3.le _ _ (upd_same _ _ _)
  obtain⟨L2,m1,m2⟩:=loop_inv (hst3.rel.obj _ _ _ hi2 k1)
  have hrun:=run_endLoop (P:=P) m1 (by rw[m2.state];exact k2)
  have hu:=updB_put (o:=.loop {L2 with state:=.exhausted}) m1
  have hro:σ2.ro<=σ.next:=by
   have e1:=hst3.ro
   have e2:=hr.inv.rol
   have e3:(σ.add (CObj.loop .ready fr ps.toList (compCode P n ac) (compCode P n bc) none)).ro=σ.ro:=rfl
   rw[e1,e3];exact e2
  have hst4:=hst3.rel.setO (o2:=.dead) k1 rfl rfl hro hi2 hu trivial (iters_loop hst3.rel k1 rfl rfl rfl rfl hi2 hu)
  have hst:=hst12.trans (hst3.trans hst4 hst12.rel) hr
  have hfr2:FRel P (upd β σ.next (some i)) n lo fr {a with defers:={target:=.collected w.heap.size,args:= #[]}::a.defers} (W0.alloc (.loop L)):=by
   have hold:=hfr.step hst12
   refine⟨hold.lob,hold.size,⟨?_,fun d hd=>?_⟩,hold.rel⟩
   ·rw[List.nodup_cons]
    refine⟨fun hmem=>?_,hold.defers.1⟩
    obtain⟨D,e1,_,e2,_⟩:=hfr.defers.2 _ hmem
    have:=lt_of_get e2
    injection e1 with e1
    injection e1 with e1
    omega
   ·rcases List.mem_cons.1 hd with rfl|hd
    ·refine⟨w.heap.size,rfl,hfr.lob,?_,fun b j hb=>?_⟩
     ·rw[push_get (o':=.loop L) (w:=W0) rfl (by omega), <-hW0];exact heap_alloc_new w _
     ·by_cases e:b=σ.next
      ·subst e;rw[upd_same] at hb;cases hb
       show w.heap.size+1≠_
       omega
      ·rw[upd_ne _ _ e] at hb
       have:=(hr.lt b j hb).2;omega
    ·exact hold.defers.2 d hd
  have hfr3:=(hfr2.step hst3).step hst4
  have hend:=hK _ fr _ β2 _ _ k4 hst hfr3
  refine⟨L2.pending,w2.putObj i.B (.loop {L2 with state:=.exhausted}),hrun,?_⟩
  generalize w2.putObj i.B (.loop {L2 with state:=.exhausted})=w4 at hend ⊢
  rw[m2.pend]
  cases pend with
  |none=>exact hend
  |some e=>
   cases e with
   |normal=>exact absurd rfl k3
   |exit id=>exact wpIn_exit hend
   |ret=>exact wpIn_ret hend
theorem sim_code (hP:ProgOk P)(hC:SimC P C)(hD:∀n,DrawOk P C n){cc:CCode}{fr:Fr}{σ:CW}{Kc:CExit->Fr->CW->Prop}(hr:CodeW C cc fr σ Kc):∀(n:Nat)(r:Option Nat),
  (∀c,compCode P n c=cc->(r=none\/flat c=true)->CodeOk P n r c fr σ Kc)/\(∀body,cc=.loop (compCode P n body)->(r=none\/flat body=true)->LoopOk P n r body fr σ Kc):=by
 induction hr with
 |skip h=>
  intro n r
  refine⟨.of_comp (by simp) fun c hc _=>?_,fun body h=>by cases h⟩
  cases hc with
  |skip=>intro Q lo β w a hG hr hf hK;exact wpIn_skip (hK _ _ _ β a w h (.refl hr) hf)
  |label l=>intro Q lo β w a hG hr hf hK;exact wpIn_label (hK _ _ _ β a w h (.refl hr) hf)
 |region h=>
  intro n r
  refine⟨.of_comp (by simp) fun c hc _=>?_,fun body h=>by cases h⟩
  cases hc with
  |region id hl=>
   intro Q lo β w a hG hr hf hK
   exact sim_region hP hC hl h hG hr hf fun fr1 σ1 β' a' w' hk hst hf'=>hK _ fr1 σ1 β' a' w' hk hst hf'
 |dregion h=>
  intro n r
  refine⟨fun c hc=>?_,fun body h=>by cases h⟩
  refine CodeOk.of_comp (cc:=.dregion _ _) (by simp) (fun c hc hfl=>?_) c hc
  generalize hs:(CCode.dregion _ _)=cc at hc
  cases hc<;>cases hs
  rename_i id ops p hp
  intro Q lo β w a hG hr hf hK
  exact hD n r ops p hp id _ h hG hr hf fun fr1 σ1 β' a' w' hk hst hf'=>hK _ fr1 σ1 β' a' w' hk hst hf'
 |@seq ca cb fr σ R Qc h t o ih1 ih2=>
  intro n r
  refine⟨.of_comp (by simp) fun c hc hfl=>?_,fun body h=>by cases h⟩
  generalize hs:(CCode.seq ca cb)=cc at hc
  cases hc<;>cases hs
  rename_i a b
  have hfa:r=none\/flat a=true:=hfl.imp id fun h=>by simp only[flat,Bool.and_eq_true] at h;exact h.1
  have hfb:r=none\/flat b=true:=hfl.imp id fun h=>by simp only[flat,Bool.and_eq_true] at h;exact h.2
  intro Q lo β w a' hG hr hf hK
  refine wpIn_seq ?_
  refine wpIn_mono ((ih1 n r).1 _ rfl hfa (Exit.then (b.wpIn (WR r) 0 P (Exit.noGoto Q)) (Exit.noGoto Q)) hG hr hf ?_) fun e a w he=>by cases e<;>first|exact he|exact he.elim
  intro e fr1 σ1 β1 a1 w1 hk hst hf1
  cases e with
  |normal=>exact (ih2 fr1 σ1 hk n r).1 _ rfl hfb Q (hG.mono hst.le) hst.rel hf1 (hK.trans hr hst)
  |exit id=>exact hK _ fr1 σ1 β1 a1 w1 (o _ fr1 σ1 (by simp) hk) hst hf1
  |ret=>exact hK _ fr1 σ1 β1 a1 w1 (o _ fr1 σ1 (by simp) hk) hst hf1
 |@yes c ca cb fr σ Qc hc h ih=>
  intro n r
  refine⟨.of_comp (by simp) fun d hd hfl=>?_,fun body h=>by cases h⟩
  generalize hs:(CCode.cond _ ca cb)=cc at hd
  cases hd<;>cases hs
  rename_i a b hcc
  have hfa:r=none\/flat a=true:=hfl.imp id fun h=>by simp only[flat,Bool.and_eq_true] at h;exact h.1
  intro Q lo β w a' hG hr hf hK
  have hv:=ev_rel (a:=a') hG hcc fun t _=>hf.rel t
  rw[hc] at hv
  exact wpIn_cond_true hv.bool_inv ((ih n r).1 _ rfl hfa Q hG hr hf hK)
 |@no c ca cb fr σ Qc hc h ih=>
  intro n r
  refine⟨.of_comp (by simp) fun d hd hfl=>?_,fun body h=>by cases h⟩
  generalize hs:(CCode.cond _ ca cb)=cc at hd
  cases hd<;>cases hs
  rename_i a b hcc
  have hfb:r=none\/flat b=true:=hfl.imp id fun h=>by simp only[flat,Bool.and_eq_true] at h;exact h.2
  intro Q lo β w a' hG hr hf hK
  have hv:=ev_rel (a:=a') hG hcc fun t _=>hf.rel t
  rw[hc] at hv
  exact wpIn_cond_false hv.bool_inv ((ih n r).1 _ rfl hfb Q hG hr hf hK)
 |@block id ca fr σ R Qc h o ih=>
  intro n r
  refine⟨.of_comp (by simp) fun c hc hfl=>?_,fun body h=>by cases h⟩
  generalize hs:(CCode.block id ca)=cc at hc
  cases hc<;>cases hs
  rename_i a
  intro Q lo β w a' hG hr hf hK
  refine wpIn_block ?_
  refine wpIn_mono ((ih n r).1 _ rfl hfl (Exit.inBlock id (Exit.noGoto Q)) hG hr hf ?_) fun e a w he=>by cases e<;>first|exact he|exact he.elim
  intro e fr1 σ1 β1 a1 w1 hk hst hf1
  have:=hK _ fr1 σ1 β1 a1 w1 (o e fr1 σ1 hk) hst hf1
  cases e with
  |exit j=>
   by_cases hj:j=id
   ·subst hj;simp only[toExit,Exit.inBlock,if_true] at this ⊢;exact this
   ·rw[if_neg (by simpa using hj)] at this
    simp only[toExit,Exit.inBlock,if_neg hj];exact this
  |normal=>exact this
  |ret=>exact this
 |@loop ca fr σ R Qc h t o ih1 ih2=>
  intro n r
  have key:∀body,CCode.loop ca=.loop (compCode P n body)->(r=none\/flat body=true)->LoopOk P n r body fr σ Qc:=by
   intro body hb hfl
   have hb':compCode P n body=ca:=by cases hb;rfl
   intro Q lo β w a hG hr hf hK
   refine LoopIn.of_round ?_
   refine wpIn_mono ((ih1 n r).1 _ hb' hfl (Exit.then (LoopIn (WR r) 0 P body (Exit.noGoto Q)) (Exit.noGoto Q)) hG hr hf ?_) fun e a w he=>by cases e<;>first|exact he|exact he.elim
   intro e fr1 σ1 β1 a1 w1 hk hst hf1
   cases e with
   |normal=>exact (ih2 fr1 σ1 hk n r).2 body hb hfl Q (hG.mono hst.le) hst.rel hf1 (hK.trans hr hst)
   |exit id=>exact hK _ fr1 σ1 β1 a1 w1 (o _ fr1 σ1 (by simp) hk) hst hf1
   |ret=>exact hK _ fr1 σ1 β1 a1 w1 (o _ fr1 σ1 (by simp) hk) hst hf1
  refine⟨.of_comp (by simp) fun c hc hfl=>?_,key⟩
  generalize hs:(CCode.loop ca)=cc at hc
  cases hc<;>cases hs
  exact (key _ rfl hfl).code
 |exit h=>
  intro n r
  refine⟨.of_comp (by simp) fun c hc _=>?_,fun body h=>by cases h⟩
  cases hc
  intro Q lo β w a hG hr hf hK
  exact wpIn_exit (hK _ _ _ β a w h (.refl hr) hf)
 |ret h=>
  intro n r
  refine⟨.of_comp (by simp) fun c hc _=>?_,fun body h=>by cases h⟩
  cases hc
  intro Q lo β w a hG hr hf hK
  exact wpIn_ret (hK _ _ _ β a w h (.refl hr) hf)
 |@rfun f ps as body fr σ Qc g x1 x2 hf h=>
  intro n r
  refine⟨.of_comp (by simp) fun c hc hfl=>?_,fun body h=>by cases h⟩
  generalize hs:(CCode.rfun f ps as body)=cc at hc
  cases hc<;>cases hs
  rename_i ps ac bc hb2 hb3 hb4 hb1
  rcases hfl with rfl|hfl
  ·exact sim_rfun hP hC hb1 hb2 hb3 hb4 g x1 x2 hf h
  ·cases hfl
end
end Go.Cn
namespace Go.Cn
set_option linter.unusedVariables false
set_option linter.unusedSimpArgs false
structure OkT (P:Program)(T:Nat->Option CFun):Prop where
 fn : ∀ f cf, T f = some cf → ∃ fn c, P.funcs[f]? = some fn ∧ fn.body = some c ∧ compFun P fn = some cf ∧ (fn.name == "runtime.NumGoroutine") = false
def resSem (tmps:Array Value):ResultVar->Sem Value
 |.tmp t=>pure (tmps.getD t undef)
 |.cell b t=>do loadVar t (<-asAddr (tmps.getD b undef))
theorem results_eq (fn:Func)(tmps:Array Value):results fn tmps=(do
  let vs <-fn.results.mapM (resSem tmps)
  pure (if h:vs.size=1 then vs[0] else .tuple vs)):=rfl
section
variable {P:Program}{C:CallQ}{n lo:Nat}
theorem sim_res1 {r:ResultVar}{cr:CRes}(hr:compRes P r=some cr){β:Ren}{σ:CW}{w:World}{fr:Fr}{a:Act}(h:Rel P β σ w)(hf:FRel P β n lo fr a w){v:Value}(hv:res1 fr σ cr=some v) :
  ∃v',(resSem a.tmps r).run P w=.ok v' w/\VRel P β v v':=by
 cases r with
 |tmp t=>
  cases hr
  cases hv
  exact⟨_,by simp[resSem],hf.rel t⟩
 |cell b t=>
  simp only[compRes] at hr
  have hb:=hf.rel b
  split at hr
  ·rename_i m ht hn
   cases hr
   simp only[res1,pev,ev] at hv
   split at hv
   ·rename_i ad e
    split at hv
    ·rename_i l hl
     cases hv
     obtain⟨hs,c,hr,hk⟩:=cells_some hl
     obtain⟨_,i,hi,q⟩:=(e▸hb).ptr_inv
     obtain⟨r',h1,_,h2⟩:=h.loads hr hk hi
     exact⟨.agg r'.toArray,by simp[resSem,q,asAddr,r_loadN ht hn (h2 w rfl)],VRel.agg_iff.2 (by simpa using h1)⟩
    ·cases hv
   ·cases hv
  ·rename_i m ht hn
   cases hr
   simp only[res1,pev,ev] at hv
   split at hv
   ·rename_i ad e
    obtain⟨hs,c,hr,hk⟩:=cell_some hv
    obtain⟨_,i,hi,q⟩:=(e▸hb).ptr_inv
    obtain⟨v',h1,h2⟩:=h.cellAt hr hk hi
    exact⟨v',by simp[resSem,q,asAddr,r_load1 ht h1],h2⟩
   ·cases hv
  ·cases hr
theorem sim_resL {β:Ren}{σ:CW}{w:World}{fr:Fr}{a:Act}(h:Rel P β σ w)(hf:FRel P β n lo fr a w):∀{rs:List ResultVar}{crs:List CRes},rs.mapM (compRes P)=some crs->∀{vs:List Value},resL fr σ crs=some vs->
  ∃vs',(rs.mapM (resSem a.tmps)).run P w=.ok vs' w/\LRel P β vs vs'
 |[],crs,hc,vs,hv=>by
  cases hc
  cases hv
  exact⟨[],by simp,.nil⟩
 |r::rs,crs,hc,vs,hv=>by
  rw[List.mapM_cons] at hc
  cases e1:compRes P r with
  |none=>rw[e1] at hc;cases hc
  |some cr=>
   rw[e1] at hc
   cases e2:rs.mapM (compRes P) with
   |none=>rw[e2] at hc;cases hc
   |some crs'=>
    rw[e2] at hc
    cases hc
    simp only[resL] at hv
    split at hv
    ·rename_i v hv1
     split at hv
     ·rename_i vs1 hv2
      cases hv
      obtain⟨v',q1,q2⟩:=sim_res1 e1 h hf hv1
      obtain⟨vs',q3,q4⟩:=sim_resL h hf e2 hv2
      refine⟨v'::vs',?_,.cons q2 q4⟩
      rw[List.mapM_cons]
      simp only[Sem.run_bind,q1,q3,Result.andThen,Sem.run_pure]
     ·cases hv
    ·cases hv
theorem resV_rel {β:Ren}{l l':List Value}(h:LRel P β l l'):VRel P β (resV l) (if h:l'.toArray.size=1 then l'.toArray[0] else .tuple l'.toArray):=by
 match l,l',h with
 |[],[],h=>simp only[resV];exact VRel.tuple_iff.2 (by simpa using h)
 |[v],[v'],h=>simpa[resV] using h.of_cons.1
 |a::b::l,a'::b'::l',h=>
  simp only[resV]
  rw[dif_neg (by simp)]
  exact VRel.tuple_iff.2 (by simpa using h)
 |[],_::_,h=>have:=h.1;simp at this
 |[_],[],h=>have:=h.1;simp at this
 |[_],_::_::_,h=>have:=h.1;simp at this
 |_::_::_,[],h=>have:=h.1;simp at this
 |_::_::_,[_],h=>have:=h.1;simp at this
theorem sim_results {fn:Func}{crs:List CRes}(hc:fn.results.toList.mapM (compRes P)=some crs){β:Ren}{σ:CW}{w:World}{fr:Fr}{a:Act}(h:Rel P β σ w)(hf:FRel P β n lo fr a w){vs:List Value}(hv:resL fr σ crs=some vs) :
  ∃v',(results fn a.tmps).run P w=.ok v' w/\VRel P β (resV vs) v':=by
 obtain⟨vs',q1,q2⟩:=sim_resL h hf hc hv
 refine⟨_,?_,resV_rel q2⟩
 simp only[results_eq,Array.mapM_eq_mapM_toList]
 simp only[Sem.run_bind,Sem.run_map,q1,Result.andThen,Sem.run_pure]
theorem init_frel {β:Ren}{args args':List Value}(h:LRel P β args args')(m:Nat)(w:World):FRel P β m w.heap.size (initFr args) {tmps:=args'.toArray++Array.replicate (m-args'.toArray.size) undef,defers:=[]} w:=by
 refine⟨Nat.le_refl _,by simp;omega,⟨List.nodup_nil,fun d hd=>by cases hd⟩,fun t=>?_⟩
 simp only[initFr]
 cases e:args[t]? with
 |some v=>
  obtain⟨v',h1,h2⟩:=h.left e
  have ht:t<args'.length:=(List.getElem?_eq_some_iff.1 h1).1
  have:(args'.toArray++Array.replicate (m-args'.toArray.size) undef).getD t undef=v':=by
   rw[Array.getD_eq_getD_getElem?,Array.getElem?_append_left (by simpa using ht)]
   simp[h1]
  show VRel P β v _
  rw[this];exact h2
 |none=>
  have ht:args'.length<=t:=by have:=h.1;rw[<-this];exact List.getElem?_eq_none_iff.1 e
  have:(args'.toArray++Array.replicate (m-args'.toArray.size) undef).getD t undef=undef:=by
   rw[Array.getD_eq_getD_getElem?,Array.getElem?_append_right (by simpa using ht)]
   rw[Array.getElem?_replicate]
   split<;>rfl
  show VRel P β cundef _
  rw[this];exact .undef
structure Shut (lo:Nat)(β:Ren)(w w':World):Prop where
 size:w'.heap.size=w.heap.size
 os:w'.os=w.os
 out:w'.output=w.output
 tape:w'.tape=w.tape
 old:∀B,B<lo->w'.heap[B]?=w.heap[B]?
 map:∀b i,β b=some i->w'.heap[i.B]?=w.heap[i.B]?
theorem Shut.refl {β:Ren}{w:World}:Shut lo β w w:=⟨rfl,rfl,rfl,rfl,fun _ _=>rfl,fun _ _ _=>rfl⟩
theorem Shut.stp {β0 β:Ren}{σ0 σ:CW}{w0 w w':World}(h:Shut w0.heap.size β w w')(hst:Stp P β0 σ0 w0 β σ w):Stp P β0 σ0 w0 β σ w' where
 le:=hst.le
 new:=hst.new
 next:=hst.next
 ro:=hst.ro
 inj:=hst.inj
 cfr:=hst.cfr
 size:=by rw[h.size];exact hst.size
 afr:=fun B hB hn=>by rw[h.old B hB];exact hst.afr B hB hn
 os:=h.os.trans hst.os
 out:=h.out.trans hst.out
 tape:=h.tape.trans hst.tape
 rel:=
 {inv:=hst.rel.inv
  wr:=hst.rel.wr
  lt:=fun b i hb=>by rw[h.size];exact hst.rel.lt b i hb
  obj:=fun b i o hb ho=>by rw[h.map b i hb];exact hst.rel.obj b i o hb ho
  alias:=hst.rel.alias
  here:=hst.rel.here
  iters:=hst.rel.iters.keep (.refl _) (Nat.le_refl _) (fun _ _ h=>.inl h) (fun _ _ _ _ h _=>h) fun b i o hb ho _=>by rw[h.map b i hb];exact ho}
theorem leaves_marks {fn:Func}{tmps:Array Value}{R:Ending->World->Prop}{β:Ren}:∀(ds:List Deferred)(w:World),Marks lo β w ds->
  (∀w',Shut lo β w w'->∃v,(results fn tmps).run P w'=.ok v w'/\R (.returned v) w')->LeavesInM Fence.wide 0 P fn tmps R ds .returning w
 |[],w,_,h=>h w .refl
 |d::ds,w,hm,h=>by
  obtain⟨D,rfl,hlo,hD,hun⟩:=hm.2 d (by simp)
  refine⟨by simp,.inl ⟨D,_,rfl,run_takeDeferred hD,?_⟩⟩
  have hget:∀B,B≠D->(w.putObj D (.deferred none)).heap[B]?=w.heap[B]?:=fun B hB=>World.putObj_heap_other hB
  have hs:Shut lo β w (w.putObj D (.deferred none)):=⟨by simp[World.putObj],rfl,rfl,rfl,fun B hB=>hget B (by omega),fun b i hb=>hget _ (hun b i hb)⟩
  refine leaves_marks (β:=β) ds _ ⟨(List.nodup_cons.1 hm.1).2,fun d' hd'=>?_⟩ fun w' hs'=>h w' ?_
  ·obtain⟨D',e,h1,h2,h3⟩:=hm.2 d' (by simp[hd'])
   refine⟨D',e,h1,?_,h3⟩
   rw[hget]
   ·exact h2
   ·intro e'
    subst e'
    exact (List.nodup_cons.1 hm.1).1 (e▸hd')
  ·exact⟨hs'.size.trans hs.size,hs'.os.trans hs.os,hs'.out.trans hs.out,hs'.tape.trans hs.tape,fun B hB=>(hs'.old B hB).trans (hs.old B hB),fun b i hb=>(hs'.map b i hb).trans (hs.map b i hb)⟩
theorem setPs_rel {β:Ren}:∀(ps:List Tmp)(args args':List Value)(fr:Fr)(tmps:Array Value),LRel P β args args'->(∀t,VRel P β (fr t) (tmps.getD t undef))->(∀p∈ps,p<tmps.size)->
  (∀t,VRel P β (setPs fr ps args t) (((ps.zip args').foldl (fun t (p,v)=>t.setIfInBounds p v) tmps).getD t undef))/\((ps.zip args').foldl (fun t (p,v)=>t.setIfInBounds p v) tmps).size=tmps.size
 |[],args,args',fr,tmps,_,h,_=>⟨by simpa[setPs] using h,by simp⟩
 |p::ps,[],args',fr,tmps,hl,h,_=>by
  have:args'=[]:=by have:=hl.1;cases args' with
   |nil=>rfl
   |cons _ _=>simp at this
  subst this
  exact⟨by simpa[setPs] using h,by simp⟩
 |p::ps,v::args,[],fr,tmps,hl,h,_=>by have:=hl.1;simp at this
 |p::ps,v::args,v'::args',fr,tmps,hl,h,hp=>by
  obtain⟨h1,h2⟩:=hl.of_cons
  have hlt:=hp p (by simp)
  obtain⟨g1,g2⟩:=setPs_rel ps args args' (upd fr p v) (tmps.setIfInBounds p v') h2 (fun t=>by
   by_cases e:t=p
   ·subst e
    rw[upd_same,Array.getD_eq_getD_getElem?]
    simpa[hlt] using h1
   ·rw[upd_ne _ _ e,Array.getD_eq_getD_getElem?,Array.getElem?_setIfInBounds_ne (Ne.symm e), <-Array.getD_eq_getD_getElem?]
    exact h t) (fun q hq=>by simpa using hp q (by simp[hq]))
  exact⟨g1,by simpa using g2⟩
theorem sim_calls (hP:ProgOk P){T:Nat->Option CFun}(hT:OkT P T)(hD:∀d n,SimC P (CallW T d)->DrawOk P (CallW T d) n):∀d,SimC P (CallW T d)
 |.zero=>⟨fun h=>h.elim,fun h=>h.elim,fun h=>h.elim⟩
 |.lim g=>⟨fun⟨i,h⟩=>(sim_calls hP hT hD (g i)).func h,fun⟨i,h⟩=>(sim_calls hP hT hD (g i)).yield h,fun⟨i,h⟩=>(sim_calls hP hT hD (g i)).other h⟩
 |.succ d=>by
  have ih:=sim_calls hP hT hD d
  refine⟨?_,?_,?_⟩
  ·intro f args σ Q β w args' h hr hG hargs
   obtain⟨cf,h1,h2⟩:=h
   obtain⟨fn,c,hf,hb,hcf,hname⟩:=hT.fn f cf h1
   refine⟨⟨fn,hf,by simp[hb],hname⟩,?_⟩
   unfold compFun at hcf
   split at hcf
   ·rename_i c' rs hb' hrs
    rw[hb] at hb'
    cases hb'
    cases hcf
    refine callsIn_of_wp_marks hf hb trivial ?_
    refine wpIn_mono ((sim_code hP ih (fun n=>hD d n ih) h2 fn.ntmps none).1 c rfl (.inl rfl) (bodyPostM Fence.wide 0 P fn fun e w'=>∃v v' β' σ',Q v σ'/\e=.returned v'/\VRel P β' v v'/\Stp P β σ w β' σ' w') hG hr (init_frel hargs fn.ntmps w) ?_) ?_
    case refine_2=>intro e a w he;cases e<;>first|exact he|exact False.elim he
    intro e fr1 σ1 β1 a1 w1 hk hst hf1
    obtain⟨h3,vs,h4,hQ⟩:=hk
    have fin:LeavesInM Fence.wide 0 P fn a1.tmps (fun e w'=>∃v v' β' σ',Q v σ'/\e=.returned v'/\VRel P β' v v'/\Stp P β σ w β' σ' w') a1.defers .returning w1:=by
     refine leaves_marks a1.defers w1 hf1.defers fun w2 hs=>?_
     have hst2:=hs.stp hst
     have hf2:FRel P β1 fn.ntmps 0 fr1 {a1 with defers:=[]} w2:=⟨Nat.zero_le _,hf1.size,⟨List.nodup_nil,fun d hd=>by cases hd⟩,hf1.rel⟩
     obtain⟨v',q1,q2⟩:=sim_results hrs hst2.rel hf2 h4
     exact⟨v',q1,_,v',β1,σ1,hQ,rfl,q2,hst2⟩
    rcases h3 with rfl|rfl<;>exact fin
   ·cases hcf
  ·intro c args σ Q β w args' i h hr hG hargs hi
   obtain⟨fr,ps,as,body,h1,hro,hlen,h2⟩:=h
   obtain⟨L,m1,m2⟩:=loop_inv (hr.obj _ _ _ hi h1)
   have hy:=run_yield (P:=P) (args:=args'.toArray) m1 (by
    have e1:=hargs.1
    have e2:=congrArg List.length m2.params
    simp at e2 ⊢
    omega)
   refine⟨_,_,_,_,hy,roundIn_of_wpIn trivial ?_⟩
   obtain⟨n,c1,c2,c3,c4,c5,c6⟩:=m2.code
   obtain⟨g1,g2⟩:=setPs_rel (P:=P) ps args args' fr L.tmps hargs m2.rel fun p hp=>Nat.lt_of_lt_of_le (c6 p hp) c1
   have etmps:(L.params.zip args'.toArray).foldl (fun tmps (t,a)=>tmps.setIfInBounds t a) L.tmps=(ps.zip args').foldl (fun t (p,v)=>t.setIfInBounds p v) L.tmps:=by
    rw[<-m2.params, <-Array.foldl_toList]
    simp
   have hf0:FRel P β n w.heap.size (setPs fr ps args) {tmps:=(L.params.zip args'.toArray).foldl (fun tmps (t,a)=>tmps.setIfInBounds t a) L.tmps,defers:=[]} w:=by
    rw[etmps]
    exact⟨Nat.le_refl _,by rw[g2];exact c1,⟨List.nodup_nil,fun d hd=>by cases hd⟩,g1⟩
   refine wpIn_mono ((sim_code hP ih (fun n=>hD d n ih) h2 n (some i.B)).1 L.assign c2 (.inr c4) (Exit.then _ (fun _ _ _=>False)) hG hr hf0 ?_) (fun e a w he=>by cases e<;>first|exact he|exact he.elim)
   intro e fr1 σ1 β1 a1 w1 hk hst hf1
   obtain⟨rfl,k1,k2⟩:=hk
   have hi1:=hst.le _ _ hi
   obtain⟨L1,n1,n2⟩:=loop_inv (hst.rel.obj _ _ _ hi1 k1)
   have hu1:=updB_put (o:=.loop {L1 with state:=.busy}) n1
   have hLB:LoopRel P β1 .busy fr ps as body none {L1 with state:=.busy}:=⟨rfl,n2.params,n2.rel,n2.code,n2.pend⟩
   have hst1:=hst.rel.setO (o2:=.loop .busy fr ps as body none) k1 rfl rfl (by rw[hst.ro];exact hro) hi1 hu1 hLB (iters_loop hst.rel k1 rfl rfl rfl rfl hi1 hu1)
   have hst01:=hst.trans hst1 hr
   refine⟨_,run_beginRound n1 n2.state,?_⟩
   obtain⟨n',d1,d2,d3,d4,d5,d6⟩:=n2.code
   have hfm:FRel P β1 n w.heap.size fr1 a1 (w1.putObj i.B (.loop {L1 with state:=.busy})):=hf1.step hst1
   have key:∀(bc:Code),compCode P n bc=body->flat bc=true->bc.wpIn (Fence.wide.inRound i.B) 0 P (roundPost P i.B fun e w'=>∃v v' β' σ',Q v σ'/\e=.returned v'/\VRel P β' v v'/\Stp P β σ w β' σ' w') a1 (w1.putObj i.B (.loop {L1 with state:=.busy})):=by
    intro bc hbc hfl
    refine wpIn_mono ((sim_code hP ih (fun n=>hD d n ih) k2 n (some i.B)).1 bc hbc (.inr hfl) (roundPost P i.B fun e w'=>∃v v' β' σ',Q v σ'/\e=.returned v'/\VRel P β' v v'/\Stp P β σ w β' σ' w') (hG.mono hst.le) hst1.rel hfm ?_) (fun e a w he=>by cases e<;>first|exact he|exact he.elim)
    intro e fr2 σ2 β2 a2 w2 hk hst2 hf2
    obtain⟨q1,q2⟩:=hk
    have hi2:=hst2.le _ _ hi1
    obtain⟨L2,o1,o2⟩:=loop_inv (hst2.rel.obj _ _ _ hi2 q1)
    have fin:∀(jump:Option Code)(st:LoopState)(pend:Option CExit),jump=pend.map outCode->st=(if jump.isNone then .ready else .done)->Q (.bool jump.isNone) (σ2.set c (.loop st fr ps as body pend))->
      ∃v w',(Instr.endRound i.B jump).run P w2=.ok v w'/\∃v0 v' β' σ',Q v0 σ'/\Ending.returned v=.returned v'/\VRel P β' v0 v'/\Stp P β σ w β' σ' w':=by
     intro jump st pend hj hst' hQ
     have hrun:=run_endRound (P:=P) jump o1
     refine⟨_,_,hrun,_,_,β2,_,hQ,rfl,.bool _,?_⟩
     have hu2:=updB_put (o:=.loop {L2 with state:=if jump.isNone then .ready else .done,pending:=jump}) o1
     have hro2:σ2.ro<=c:=by
      have e1:=hst2.ro
      have e2:(σ1.set c (CObj.loop .busy fr ps as body none)).ro=σ1.ro:=rfl
      rw[e1,e2,hst.ro];exact hro
     have hLF:LoopRel P β2 st fr ps as body pend {L2 with state:=if jump.isNone then .ready else .done,pending:=jump}:=⟨hst'.symm,o2.params,o2.rel,o2.code,hj⟩
     have hst3:=hst2.rel.setO (o2:=.loop st fr ps as body pend) q1 rfl rfl hro2 hi2 hu2 hLF (iters_loop hst2.rel q1 rfl rfl rfl rfl hi2 hu2)
     exact hst01.trans (hst2.trans hst3 hst1.rel) hr
    cases e with
    |normal=>exact fin none .ready none rfl rfl q2
    |ret=>exact fin (some .ret) .done (some .ret) rfl rfl q2
    |exit id=>exact fin (some (.exit id)) .done (some (.exit id)) rfl rfl q2
   exact key L.body c3 c5
  ·intro f args σ Q h
   cases f with
   |func f=>exact .inl ⟨f,rfl⟩
   |yield c=>exact .inr ⟨c,rfl⟩
   |method _=>exact h.elim
   |methodOf _ _=>exact h.elim
   |via _ _ _ _=>exact h.elim
end
end Go.Cn
namespace Go.Cn
set_option linter.unusedVariables false
set_option linter.unusedSimpArgs false
section
variable {P:Program}{β β0:Ren}{σ σ0:CW}{w w0 w':World}
theorem add_old {σ:CW}(hi:CInv σ){o:CObj}{n:Nat}{x:CObj}(h:σ.heap n=some x):(σ.add o).heap n=some x:=by
 rw[add_heap,if_neg]
 ·exact h
 ·intro e;subst e;rw[hi.fresh _ (Nat.le_refl _)] at h;cases h
theorem Rel.add (h:Rel P β σ w){o:CObj}(hf:FreshO σ o)(hno:isIter o=false):Rel P β (σ.add o) w where
 inv:=h.inv.add hf
 wr:=h.wr
 lt:=fun b i hb=>⟨Nat.lt_succ_of_lt (h.lt b i hb).1,(h.lt b i hb).2⟩
 obj:=by
  intro b i x hb hx
  rw[add_heap,if_neg (Nat.ne_of_lt (h.lt b i hb).1)] at hx
  exact h.obj b i x hb hx
 alias:=by
  intro b1 b2 i1 i2 hne h1 h2 hB
  have:=h.alias b1 b2 i1 i2 hne h1 h2 hB
  unfold AliasOk at this ⊢
  rw[add_heap,add_heap,if_neg (Nat.ne_of_lt (h.lt b1 i1 h1).1),if_neg (Nat.ne_of_lt (h.lt b2 i2 h2).1)]
  exact this
 here:=by
  intro b i hb
  obtain⟨o',ho⟩:=h.here b i hb
  exact⟨o',add_old h.inv ho⟩
 iters:=h.iters.keep (.refl _) (Nat.le_succ _) (fun _ _ h=>.inl h) (fun b i o hb ho _=>by rw[add_heap,if_neg (Nat.ne_of_lt (h.lt b i hb).1)] at ho;exact ho) (fun _ _ _ _ h _=>h)
theorem Stp.ahead (h:Stp P β0 σ0 w0 β σ w){o:CObj}(hf:FreshO σ o)(hno:isIter o=false):Stp P β0 σ0 w0 β (σ.add o) w where
 le:=h.le
 new:=h.new
 next:=Nat.le_succ_of_le h.next
 ro:=h.ro
 inj:=h.inj
 cfr:=by
  intro b hb hn
  rw[add_heap,if_neg (Nat.ne_of_lt (Nat.lt_of_lt_of_le hb h.next))]
  exact h.cfr b hb hn
 size:=h.size
 afr:=h.afr
 os:=h.os
 out:=h.out
 tape:=h.tape
 rel:=h.rel.add hf hno
theorem le_upd_none {b:Nat}(hb:β b=none)(i:BI):Le β (upd β b (some i)):=by
 intro c j hc
 rw[upd_ne]
 ·exact hc
 ·intro e;subst e;rw[hb] at hc;cases hc
theorem Rel.late (h:Rel P β σ w){b:Nat}{o':Obj}{i:BI}(hb:β b=none)(hlt:b<σ.next)(hB:i.B=w.heap.size)(hw:w'.heap=w.heap.push o')
  (hh:∃o,σ.heap b=some o/\isIter o=false/\ObjRel P (upd β b (some i)) i o (some o'))(hwr:i.wr=true):Rel P (upd β b (some i)) σ w' where
 inv:=h.inv
 wr:=h.wr_upd hwr b hb
 lt:=by
  intro c j hc
  by_cases e:c=b
  ·subst e;rw[upd_same] at hc;cases hc;exact⟨hlt,by rw[hw,hB];simp⟩
  ·rw[upd_ne _ _ e] at hc
   exact⟨(h.lt c j hc).1,by rw[hw];simp;exact Nat.lt_succ_of_lt (h.lt c j hc).2⟩
 obj:=by
  intro c j x hc hx
  by_cases e:c=b
  ·subst e;rw[upd_same] at hc;cases hc
   obtain⟨o,h1,_,h2⟩:=hh
   rw[h1] at hx;cases hx
   rw[hB,push_new hw];exact h2
  ·rw[upd_ne _ _ e] at hc
   rw[push_get hw (h.lt c j hc).2]
   exact (h.obj c j x hc hx).mono (le_upd_none hb i)
 alias:=by
  intro b1 b2 i1 i2 hne h1 h2 hBB
  by_cases e1:b1=b
  ·subst e1
   rw[upd_same] at h1;cases h1
   rw[upd_ne _ _ (Ne.symm hne)] at h2
   have:=(h.lt b2 i2 h2).2
   omega
  ·rw[upd_ne _ _ e1] at h1
   by_cases e2:b2=b
   ·subst e2
    rw[upd_same] at h2;cases h2
    have:=(h.lt b1 i1 h1).2
    omega
   ·rw[upd_ne _ _ e2] at h2
    exact h.alias b1 b2 i1 i2 hne h1 h2 hBB
 here:=by
  intro c j hc
  by_cases e:c=b
  ·subst e;obtain⟨o,h1,_⟩:=hh;exact⟨o,h1⟩
  ·rw[upd_ne _ _ e] at hc;exact h.here c j hc
 iters:=by
  refine h.iters.keep (le_upd_none hb i) (Nat.le_refl _) (fun c j hc=>?_) (fun _ _ _ _ h _=>h) fun c j o hc ho _=>by rw[push_get hw (h.lt c j hc).2];exact ho
  by_cases e:c=b
  ·subst e
   obtain⟨o,h1,h2,_⟩:=hh
   exact .inr fun o' ho=>by rw[h1] at ho;cases ho;exact h2
  ·rw[upd_ne _ _ e] at hc;exact .inl hc
theorem Stp.late (h:Stp P β0 σ0 w0 β σ w){b:Nat}{o':Obj}{i:BI}(hb:β b=none)(hlo:σ0.next<=b)(hlt:b<σ.next)(hB:i.B=w.heap.size)(hw:w'.heap=w.heap.push o')
  (hos:w'.os=w.os)(hout:w'.output=w.output)(htape:w'.tape=w.tape)
  (hh:∃o,σ.heap b=some o/\isIter o=false/\ObjRel P (upd β b (some i)) i o (some o'))(hwr:i.wr=true):Stp P β0 σ0 w0 (upd β b (some i)) σ w' where
 le:=h.le.trans (le_upd_none hb i)
 new:=by
  intro c j hc
  by_cases e:c=b
  ·subst e;rw[upd_same] at hc;cases hc
   exact .inr ⟨hlo,.inr (by rw[hB];exact h.size)⟩
  ·rw[upd_ne _ _ e] at hc;exact h.new c j hc
 next:=h.next
 ro:=h.ro
 inj:=h.inj
 cfr:=h.cfr
 size:=by rw[hw];simp;exact Nat.le_succ_of_le h.size
 afr:=by
  intro B hB' hne
  rw[push_get hw (Nat.lt_of_lt_of_le hB' h.size)]
  exact h.afr B hB' hne
 os:=hos.trans h.os
 out:=hout.trans h.out
 tape:=htape.trans h.tape
 rel:=h.rel.late hb hlt hB hw hh hwr
theorem row_add {σ:CW}(hi:CInv σ){o:CObj}{b:Nat}{c:List Value}(h:σ.row b=some c):(σ.add o).row b=some c:=by
 unfold CW.row at h ⊢
 split at h
 ·rename_i c' e1 e2 e3 hc;rw[add_old hi hc];exact h
 ·cases h
theorem elemIs_add {σ:CW}(hi:CInv σ){o:CObj}{b:Nat}{t:TypeId}(h:σ.elemIs b t=true):(σ.add o).elemIs b t=true:=by
 unfold CW.elemIs at h ⊢
 split at h
 ·rename_i c' e1 e2 e3 hc;rw[add_old hi hc];exact h
 ·cases h
theorem cell_add {σ:CW}(hi:CInv σ){o:CObj}{a:Addr}{v:Value}(h:σ.cell a=some v):(σ.add o).cell a=some v:=by
 obtain⟨hs,c,h1,h2⟩:=cell_some h
 unfold CW.cell;rw[hs,row_add hi h1];exact h2
theorem cells_add {σ:CW}(hi:CInv σ){o:CObj}{a:Addr}{n:Nat}{l:List Value}(h:σ.cells a n=some l):(σ.add o).cells a n=some l:=by
 obtain⟨hs,c,h1,h2⟩:=cells_some h
 unfold CW.cells;rw[hs,row_add hi h1];exact h2
theorem entry_add {σ:CW}(hi:CInv σ){o:CObj}{v x:Value}(h:σ.entry v=some x):(σ.add o).entry v=some x:=by
 unfold CW.entry at h ⊢
 split at h
 ·split at h
  ·rename_i m ver k seen hr
   split at h
   ·rename_i es v0 hm
    simp only[add_old hi hr,add_old hi hm];exact h
   ·cases h
  ·cases h
 ·cases h
theorem entries_add {σ:CW}(hi:CInv σ){o:CObj}{v:Value}{l:List (Value×Value)}(h:σ.entries v=some l):(σ.add o).entries v=some l:=by
 unfold CW.entries at h ⊢
 split at h
 ·exact h
 ·split at h
  ·rename_i r es ver hc;simp only[add_old hi hc];exact h
  ·cases h
 ·cases h
theorem apart_add {σ:CW}(hi:CInv σ){o:CObj}{u8:List TypeId}{a b:Nat}(h:σ.apart u8 a b=true):(σ.add o).apart u8 a b=true:=by
 unfold CW.apart at h ⊢
 split at h
 ·rename_i q1 q2;rw[add_old hi q1,add_old hi q2];exact h
 ·cases h
theorem eqIface_add {σ:CW}(hi:CInv σ){o:CObj}{ok u8:List TypeId}{x y:Value}{r:Bool}(h:eqIface σ ok u8 x y=some r):eqIface (σ.add o) ok u8 x y=some r:=by
 unfold eqIface at h ⊢
 split at h
 ·exact h
 ·exact h
 ·split at h
  ·rename_i ht
   split at h
   ·rename_i hc
    split at h
    ·rename_i hb;rw[if_pos ht,if_pos hc,if_pos hb];exact h
    ·rename_i hb
     split at h
     ·rename_i ha;rw[if_pos ht,if_pos hc,if_neg hb,if_pos ⟨apart_add hi ha.1,ha.2⟩];exact h
     ·cases h
   ·cases h
  ·rename_i ht;rw[if_neg ht];exact h
 ·cases h
theorem pev_add {σ:CW}(hi:CInv σ){o:CObj}{q:POp}{ρ:Operand->Value}{v:Value}(h:pev q ρ σ=some v):pev q ρ (σ.add o)=some v:=by
 cases q
 case b2s x=>
  simp only[pev] at h ⊢
  split at h
  ·exact h
  ·split at h
   ·rename_i c hc;simp only[cells_add hi hc];exact h
   ·cases h
  ·cases h
 case slV elem sz x lo hi' mx=>
  simp only[pev] at h ⊢
  split at h<;>try (cases h;done)
  rename_i q0
  split at h<;>try (cases h;done)
  rename_i q1
  split at h<;>try (cases h;done)
  rename_i q2
  split at h<;>try (cases h;done)
  rename_i q3
  split at h
  ·exact h
  ·split at h
   ·rename_i hc;rw[if_pos ⟨hc.1,elemIs_add hi hc.2⟩];exact h
   ·cases h
 case lookup str zero ok m k=>
  simp only[pev] at h ⊢
  split at h
  ·rename_i es he;simp only[entries_add hi he];exact h
  ·cases h
 case lenM x=>
  simp only[pev] at h ⊢
  split at h
  ·rename_i es he;simp only[entries_add hi he];exact h
  ·cases h
 case ld1 x=>
  simp only[pev] at h ⊢
  split at h
  ·exact cell_add hi h
  ·cases h
 case ldN n x=>
  simp only[pev] at h ⊢
  split at h
  ·split at h
   ·rename_i l hl;simp only[cells_add hi hl];exact h
   ·cases h
  ·cases h
 case eqI neg ok u8 x y=>
  simp only[pev] at h ⊢
  split at h
  ·rename_i r hr;simp only[eqIface_add hi hr];exact h
  ·cases h
 case entry x=>simp only[pev] at h ⊢;exact entry_add hi h
 all_goals exact h
theorem pev_still {q:POp}(hr:reads q=false)(ρ:Operand->Value)(σ σ':CW):pev q ρ σ=pev q ρ σ':=by
 cases q<;>first|rfl|cases hr
end
end Go.Cn
namespace Go.Cn
set_option linter.unusedVariables false
set_option linter.unusedSimpArgs false
section
variable {P:Program}{C:CallR}{n:Nat}{ds:List Deferred}{ops:Array Oper}{l:List Item}
theorem hasDst_iff {t:Tmp}{s:CStep}:hasDst t s=true↔s.dst=some t:=by
 unfold hasDst
 cases s.dst with
 |none=>simp
 |some d=>
  show Nat.beq d t=true↔_
  rw[Nat.beq_eq]
  exact⟨fun h=>by rw[h],fun h=>by cases h;rfl⟩
structure OkP (x y:Item):Prop where
 ne:x.i≠y.i
 dst:∀t,x.s.dst=some t->hasDst t y.s=false
 eff:x.eff=true->bit y.anc x.i=true
 fore:∀t∈tmpsOf x.s x.o,hasDst t y.s=true->y.eff=true/\bit y.anc x.i=true
 back:∀t∈tmpsOf y.s y.o,hasDst t x.s=true->bit y.anc x.i=true
theorem okPair_ok {x y:Item}(h:okPair x y=true):OkP x y:=by
 simp only[okPair,Bool.and_eq_true,List.all_eq_true,Bool.or_eq_true,Bool.not_eq_true'] at h
 obtain⟨⟨⟨⟨h1,h2⟩,h3⟩,h4⟩,h5⟩:=h
 refine⟨fun e=>by rw[e] at h1;simp at h1,fun t ht=>?_,fun he=>?_,fun t ht hd=>?_,fun t ht hd=>?_⟩
 ·rw[ht] at h2;simpa using h2
 ·rcases h3 with h|h
  ·rw[he] at h;cases h
  ·exact h
 ·rcases h4 t ht with h|h
  ·rw[hd] at h;cases h
  ·exact h
 ·rcases h5 t ht with h|h
  ·rw[hd] at h;cases h
  ·exact h
structure OkO (x:Item):Prop where
 self:x.eff=false->∀t∈tmpsOf x.s x.o,hasDst t x.s=false
 dst:∀q,x.s.op=.p q->x.s.dst=none->reads q=false
theorem okOne_ok {x:Item}(h:okOne x=true):OkO x:=by
 simp only[okOne,Bool.and_eq_true,List.all_eq_true,Bool.or_eq_true,Bool.not_eq_true'] at h
 obtain⟨h1,h2⟩:=h
 refine⟨fun he t ht=>?_,fun q hq hd=>?_⟩
 ·rcases h1 with h|h
  ·rw[he] at h;cases h
  ·exact h t ht
 ·rw[hq,hd] at h2;simpa using h2
theorem okOrd_ok:∀{ord:List Item},okOrd ord=true->ord.Pairwise OkP/\∀x∈ord,OkO x
 |[],_=>⟨.nil,by simp⟩
 |x::ord,h=>by
  simp only[okOrd,Bool.and_eq_true,List.all_eq_true] at h
  obtain⟨⟨h1,h2⟩,h3⟩:=h
  obtain⟨h4,h5⟩:=okOrd_ok h3
  refine⟨.cons (fun y hy=>okPair_ok (h2 y hy)) h4,fun y hy=>?_⟩
  rcases List.mem_cons.1 hy with rfl|hy
  ·exact okOne_ok h1
  ·exact h5 y hy
structure ItemOk (P:Program)(n:Nat)(ops:Array Oper)(l:List Item)(x:Item):Prop where
 op:ops[x.i]?=some x.o
 st:stepOf P n ops x.o=some x.s
 eff:x.eff=false->isEC x.s.op=false
 lt:∀e∈x.o.after,Region.binds .any e=true->e.on<x.i
 anc:∀j,bit x.anc j=true->∃e∈x.o.after,Region.binds .any e=true/\(e.on=j\/∃y∈l,y.i=e.on/\bit y.anc j=true)
structure ItemsOk (P:Program)(n:Nat)(ops:Array Oper)(l:List Item):Prop where
 ok:∀x∈l,ItemOk P n ops l x
 all:∀i,i<ops.size->∃x∈l,x.i=i
 uni:∀x∈l,∀y∈l,x.i=y.i->x=y
def isA:COp->Bool
 |.a _=>true
 |_=>false
def PF (β:Ren)(σ:CW)(lo:Nat)(pos:Nat->Nat)(fr:Fr)(x:Item):Prop:=
 (wants fr x.s.guard=false/\∀t,x.s.dst=some t->fr t=cundef)\/
 (wants fr x.s.guard=true/\∃(ρ:Operand->Value)(v:Value),(∀z∈x.o.op.operands,ρ z=ev fr z)/\(∀t,x.s.dst=some t->fr t=v)/\
  ((∃q,x.s.op=.p q/\pev q ρ σ=some v)\/
   (∃q obj,x.s.op=.a q/\aev q ρ (pos x.i)=some (obj,v)/\β (pos x.i)=none/\lo<=pos x.i/\pos x.i<σ.next/\(σ.heap (pos x.i)=some obj\/σ.heap (pos x.i)=some .dead))))
structure Inv (P:Program)(n:Nat)(ds:List Deferred)(l:List Item)(β0:Ren)(σ0:CW)(w0:World)(done:List Item)(D:Nat->Prop)(pos:Nat->Nat)(β:Ren)(fr:Fr)(σ:CW)(a:Act)(w:World):Prop where
 stp:Stp P β0 σ0 w0 β σ w
 size:n<=a.tmps.size
 defers:a.defers=ds
 mem:∀x∈done,x∈l
 down:∀x∈l,D x.i->∀j,bit x.anc j=true->D j
 sub:∀x∈l,D x.i->x∈done
 eff:∀x∈done,x.eff=true->D x.i
 rel:∀t,VRel P β (fr t) (a.tmps.getD t undef)\/∃x∈done,¬D x.i/\hasDst t x.s=true
 pend:∀x∈done,¬D x.i->PF β σ σ0.next pos fr x
 inj:∀x∈done,∀y∈done,¬D x.i->¬D y.i->isA x.s.op=true->isA y.s.op=true->wants fr x.s.guard=true->wants fr y.s.guard=true->pos x.i=pos y.i->x.i=y.i
theorem putT_ne {fr:Fr}{s:CStep}{t:Tmp}{v:Value}(h:hasDst t s=false):putT fr s.dst v t=fr t:=by
 unfold hasDst at h
 cases e:s.dst with
 |none=>rfl
 |some d=>
  rw[e] at h
  refine upd_ne _ _ fun h'=>?_
  subst h'
  simp at h
theorem ev_agree {fr fr':Fr}{s:CStep}{o:Oper}(h:∀t∈tmpsOf s o,fr' t=fr t):∀z∈o.op.operands,ev fr' z=ev fr z:=by
 intro z hz
 cases z with
 |tmp t=>
  refine h t ?_
  simp only[tmpsOf,List.mem_append,List.mem_filterMap]
  exact .inl ⟨.tmp t,by simpa using hz,rfl⟩
 |_=>rfl
theorem wants_agree {fr fr':Fr}{s:CStep}{o:Oper}(h:∀t∈tmpsOf s o,fr' t=fr t):wants fr' s.guard=wants fr s.guard:=by
 cases e:s.guard with
 |none=>rfl
 |some g=>
  obtain⟨t,b⟩:=g
  have:fr' t=fr t:=h t (by simp[tmpsOf,e])
  simp[wants,this]
theorem step_fr {s:CStep}{fr fr':Fr}{σ σ':CW}(hr:StepR C s fr σ fr' σ'){t:Tmp}(h:hasDst t s=false):fr' t=fr t:=by
 rcases hr with⟨_,v,_,rfl⟩|⟨_,rfl,_⟩<;>exact putT_ne h
theorem PF.ahead {β:Ren}{σ σ':CW}{lo:Nat}{pos pos':Nat->Nat}{fr fr':Fr}{y:Item}(hi:CInv σ)(h:PF β σ lo pos fr y)(hfr:∀t∈tmpsOf y.s y.o,fr' t=fr t)(hd:∀t,y.s.dst=some t->fr' t=fr t)
  (hpos:pos' y.i=pos y.i)(hσ:σ'=σ\/∃o,σ'=σ.add o):PF β σ' lo pos' fr' y:=by
 rcases h with⟨h1,h2⟩|⟨h1,ρ,v,h2,h3,h4⟩
 ·exact .inl ⟨by rw[wants_agree hfr];exact h1,fun t ht=>by rw[hd t ht];exact h2 t ht⟩
 ·refine .inr ⟨by rw[wants_agree hfr];exact h1,ρ,v,fun z hz=>(h2 z hz).trans (ev_agree hfr z hz).symm,fun t ht=>by rw[hd t ht];exact h3 t ht,?_⟩
  rcases h4 with⟨q,g1,g2⟩|⟨q,obj,g1,g2,g3,g4,g5,g6⟩
  ·refine .inl ⟨q,g1,?_⟩
   rcases hσ with rfl|⟨o,rfl⟩
   ·exact g2
   ·exact pev_add hi g2
  ·refine .inr ⟨q,obj,g1,by rw[hpos];exact g2,by rw[hpos];exact g3,by rw[hpos];exact g4,?_,?_⟩
   ·rw[hpos]
    rcases hσ with rfl|⟨o,rfl⟩
    ·exact g5
    ·exact Nat.lt_succ_of_lt g5
   ·rw[hpos]
    rcases hσ with rfl|⟨o,rfl⟩
    ·exact g6
    ·rcases g6 with g6|g6
     ·exact .inl (add_old hi g6)
     ·exact .inr (add_old hi g6)
variable {β0 β:Ren}{σ0 σ σ':CW}{w0 w:World}{done:List Item}{D:Nat->Prop}{pos:Nat->Nat}{fr fr':Fr}{a:Act}
theorem Inv.ahead (hI:ItemsOk P n ops l)(h:Inv P n ds l β0 σ0 w0 done D pos β fr σ a w){x:Item}(hx:x∈l)(hp:∀y∈done,OkP y x)(ho:OkO x)(he:x.eff=false)(hr:StepR C x.s fr σ fr' σ') :
  ∃pos',Inv P n ds l β0 σ0 w0 (done++[x]) D pos' β fr' σ' a w:=by
 have hxD:¬D x.i:=fun hd=>(hp x (h.sub x hx hd)).ne rfl
 have hinv:=h.stp.rel.inv
 have hy1:∀y∈done,∀t∈tmpsOf y.s y.o,fr' t=fr t:=by
  intro y hy t ht
  refine step_fr hr ?_
  cases e:hasDst t x.s with
  |false=>rfl
  |true=>have:=((hp y hy).fore t ht e).1;rw[he] at this;cases this
 have hy2:∀y∈done,∀t,y.s.dst=some t->fr' t=fr t:=fun y hy t ht=>step_fr hr ((hp y hy).dst t ht)
 have hx1:∀t∈tmpsOf x.s x.o,fr' t=fr t:=fun t ht=>step_fr hr (ho.self he t ht)
 have key:∃pos',(∀y∈done,pos' y.i=pos y.i)/\PF β σ' σ0.next pos' fr' x/\(σ'=σ\/∃o,σ'=σ.add o)/\Stp P β0 σ0 w0 β σ' w/\(isA x.s.op=true->wants fr' x.s.guard=true->pos' x.i=σ.next):=by
  rcases hr with⟨h1,v,h2,h3⟩|⟨h1,h3,h4⟩
  ·have hec:=(hI.ok x hx).eff he
   have hw:wants fr' x.s.guard=true:=by rw[wants_agree hx1];exact h1
   have hdst:∀t,x.s.dst=some t->fr' t=v:=by
    intro t ht;rw[h3,ht];exact upd_same _ _ _
   cases eop:x.s.op with
   |p q=>
    rw[eop] at h2
    obtain⟨h2,rfl⟩:=h2
    exact⟨pos,fun _ _=>rfl,.inr ⟨hw,ev fr,v,fun z hz=>(ev_agree hx1 z hz).symm,hdst,.inl ⟨q,eop,h2⟩⟩,.inl rfl,h.stp,fun e=>by cases e⟩
   |a q=>
    rw[eop] at h2
    obtain⟨obj,h2,rfl⟩:=h2
    have hf:=aev_freshO h2
    refine⟨upd pos x.i σ.next,fun y hy=>upd_ne _ _ (hp y hy).ne,.inr ⟨hw,ev fr,v,fun z hz=>(ev_agree hx1 z hz).symm,hdst,.inr ⟨q,obj,eop,by rw[upd_same];exact h2,?_,?_,?_,?_⟩⟩,.inr ⟨obj,rfl⟩,h.stp.ahead hf (aev_noIter h2),fun _ _=>upd_same _ _ _⟩
    ·rw[upd_same]
     cases e:β σ.next with
     |none=>rfl
     |some i=>have:=(h.stp.rel.lt _ _ e).1;omega
    ·rw[upd_same];exact h.stp.next
    ·rw[upd_same];exact Nat.lt_succ_self _
    ·rw[upd_same];exact .inl (by rw[add_heap,if_pos rfl])
   |e q=>rw[eop] at hec;cases hec
   |no=>rw[eop] at hec;cases hec
  ·subst h4
   have hw:wants fr' x.s.guard=false:=by rw[wants_agree hx1];exact h1
   exact⟨pos,fun _ _=>rfl,.inl ⟨hw,fun t ht=>by rw[h3,ht];exact upd_same _ _ _⟩,.inl rfl,h.stp,fun _ e=>by rw[hw] at e;cases e⟩
 obtain⟨pos',k1,k2,k3,k4,k5⟩:=key
 refine⟨pos',⟨k4,h.size,h.defers,?_,h.down,?_,?_,?_,?_,?_⟩⟩
 ·intro y hy
  rcases List.mem_append.1 hy with hy|hy
  ·exact h.mem y hy
  ·simp at hy;subst hy;exact hx
 ·exact fun y hy hd=>List.mem_append.2 (.inl (h.sub y hy hd))
 ·intro y hy hye
  rcases List.mem_append.1 hy with hy|hy
  ·exact h.eff y hy hye
  ·simp at hy;subst hy;rw[he] at hye;cases hye
 ·intro t
  cases e:hasDst t x.s with
  |true=>exact .inr ⟨x,by simp,hxD,e⟩
  |false=>
   rw[step_fr hr e]
   rcases h.rel t with h1|⟨y,h1,h2,h3⟩
   ·exact .inl h1
   ·exact .inr ⟨y,by simp[h1],h2,h3⟩
 ·intro y hy hd
  rcases List.mem_append.1 hy with hy|hy
  ·exact (h.pend y hy hd).ahead hinv (hy1 y hy) (hy2 y hy) (k1 y hy) k3
  ·simp at hy;subst hy;exact k2
 ·intro y hy z hz dy dz ay az wy wz hpz
  have old:∀y∈done,¬D y.i->isA y.s.op=true->wants fr' y.s.guard=true->pos' y.i<σ.next:=by
   intro y hy dy ay wy
   rw[wants_agree (hy1 y hy)] at wy
   rcases h.pend y hy dy with⟨g,_⟩|⟨_,ρ,v,_,_,g⟩
   ·rw[g] at wy;cases wy
   ·rcases g with⟨q,g,_⟩|⟨q,obj,_,_,_,_,g,_⟩
    ·rw[g] at ay;cases ay
    ·rw[k1 y hy];exact g
  rcases List.mem_append.1 hy with hy1'|hy1'
  ·rcases List.mem_append.1 hz with hz1'|hz1'
   ·refine h.inj y hy1' z hz1' dy dz ay az ?_ ?_ ?_
    ·rw[wants_agree (hy1 y hy1')] at wy;exact wy
    ·rw[wants_agree (hy1 z hz1')] at wz;exact wz
    ·rw[k1 y hy1',k1 z hz1'] at hpz;exact hpz
   ·have ez:z=x:=by simpa using hz1'
    have:=old y hy1' dy ay wy
    rw[hpz,ez,k5 (ez▸az) (ez▸wz)] at this;omega
  ·have ey:y=x:=by simpa using hy1'
   rcases List.mem_append.1 hz with hz1'|hz1'
   ·have:=old z hz1' dz az wz
    rw[<-hpz,ey,k5 (ey▸ay) (ey▸wy)] at this;omega
   ·have ez:z=x:=by simpa using hz1'
    rw[ey,ez]
theorem Inv.aheads (hI:ItemsOk P n ops l):∀{xs done:List Item}{pos:Nat->Nat}{fr fr':Fr}{σ σ':CW},(∀x∈xs,x∈l/\x.eff=false/\OkO x)->(done++xs).Pairwise OkP->Inv P n ds l β0 σ0 w0 done D pos β fr σ a w->
  StepsR C (xs.map (·.s)) fr σ fr' σ'->∃pos',Inv P n ds l β0 σ0 w0 (done++xs) D pos' β fr' σ' a w
 |[],done,pos,fr,fr',σ,σ',hx,hp,h,hr=>by
  cases hr
  exact⟨pos,by simpa using h⟩
 |x::xs,done,pos,fr,fr',σ,σ',hx,hp,h,hr=>by
  cases hr with
  |cons h1 ht=>
   obtain⟨g1,g2,g3⟩:=hx x (by simp)
   obtain⟨pos1,k⟩:=h.ahead hI g1 (fun y hy=>(List.pairwise_append.1 hp).2.2 y hy x (by simp)) g3 g2 h1
   have e:done++x::xs=(done++[x])++xs:=by simp
   rw[e] at hp ⊢
   exact aheads hI (fun y hy=>hx y (by simp[hy])) hp k ht
end
end Go.Cn
namespace Go.Cn
set_option linter.unusedVariables false
set_option linter.unusedSimpArgs false
section
variable {P:Program}{C:CallQ}{n:Nat}{r:Option Nat}{ds:List Deferred}{ops:Array Oper}{l:List Item}
variable {β0 β:Ren}{σ0 σ σ':CW}{w0 w:World}{done:List Item}{D:Nat->Prop}{pos:Nat->Nat}{fr fr':Fr}{a:Act}{K:Act->World->Prop}{Q:Exit->Act->World->Prop}
theorem Inv.here (h:Inv P n ds l β0 σ0 w0 done D pos β fr σ a w)(hp:done.Pairwise OkP){x:Item}(hx:(x∈done/\OkO x/\x.eff=false)\/∀y∈done,OkP y x)(hanc:∀j,bit x.anc j=true->D j) :
  ∀t∈tmpsOf x.s x.o,VRel P β (fr t) (a.tmps.getD t undef):=by
 intro t ht
 rcases h.rel t with h1|⟨y,h1,h2,h3⟩
 ·exact h1
 ·exfalso
  rcases hx with⟨hx,ho,he⟩|hx
  ·
   have:y=x\/OkP y x\/OkP x y:=by
    clear h3 h2 h
    induction hp with
    |nil=>cases hx
    |@cons z l hz _ ih=>
     rcases List.mem_cons.1 hx with hx1|hx1
     ·rcases List.mem_cons.1 h1 with h11|h11
      ·exact .inl (h11.trans hx1.symm)
      ·rw[hx1];exact .inr (.inr (hz y h11))
     ·rcases List.mem_cons.1 h1 with h11|h11
      ·rw[h11];exact .inr (.inl (hz x hx1))
      ·exact ih h11 hx1
   rcases this with rfl|h4|h4
   ·have:=ho.self he t ht;rw[h3] at this;cases this
   ·exact h2 (hanc _ (h4.back t ht h3))
   ·exact h2 (h.eff y h1 (h4.fore t ht h3).1)
  ·exact h2 (hanc _ ((hx y h1).back t ht h3))
theorem tmps_ops {s:CStep}{o:Oper}{t:Tmp}(h:Operand.tmp t∈o.op.operands):t∈tmpsOf s o:=by
 simp only[tmpsOf,List.mem_append,List.mem_filterMap]
 exact .inl ⟨.tmp t,by simpa using h,rfl⟩
theorem tmps_guard {s:CStep}{o:Oper}{t:Tmp}{b:Bool}(h:s.guard=some (t,b)):t∈tmpsOf s o:=by simp[tmpsOf,h]
theorem Inv.made (hI:ItemsOk P n ops l)(h:Inv P n ds l β0 σ0 w0 done D pos β fr σ a w){x:Item}(hx:x∈done)(hd:¬D x.i)(hanc:∀j,bit x.anc j=true->D j)(hlt:∀t,x.s.dst=some t->t<n)
  {β':Ren}{w':World}{v':Value}(hle:Le β β')(hst:Stp P β0 σ0 w0 β' σ w')(hv:∀t,x.s.dst=some t->VRel P β' (fr t) v')
  (hn:∀y∈done,¬D y.i->y.i≠x.i->isA y.s.op=true->wants fr y.s.guard=true->β (pos y.i)=none->pos y.i<σ.next->β' (pos y.i)=none) :
  Inv P n ds l β0 σ0 w0 done (fun j=>D j\/j=x.i) pos β' fr σ (a.put x.s.dst v') w' where
 stp:=hst
 size:=by cases x.s.dst<;>simp[Act.put,h.size]
 defers:=by cases x.s.dst<;>exact h.defers
 mem:=h.mem
 down:=by
  intro y hy hyd j hj
  rcases hyd with hyd|hyd
  ·exact .inl (h.down y hy hyd j hj)
  ·have:=hI.uni y hy x (h.mem x hx) hyd
   subst this
   exact .inl (hanc j hj)
 sub:=by
  intro y hy hyd
  rcases hyd with hyd|hyd
  ·exact h.sub y hy hyd
  ·have:=hI.uni y hy x (h.mem x hx) hyd
   subst this;exact hx
 eff:=fun y hy he=>.inl (h.eff y hy he)
 rel:=by
  intro t
  rw[getD_put (fun t ht=>Nat.lt_of_lt_of_le (hlt t ht) h.size)]
  by_cases e:x.s.dst=some t
  ·rw[if_pos e];exact .inl (hv t e)
  ·rw[if_neg e]
   rcases h.rel t with h1|⟨y,h1,h2,h3⟩
   ·exact .inl (h1.mono hle)
   ·refine .inr ⟨y,h1,fun h4=>?_,h3⟩
    rcases h4 with h4|h4
    ·exact h2 h4
    ·have:=hI.uni y (h.mem y h1) x (h.mem x hx) h4
     subst this
     exact e (hasDst_iff.1 h3)
 pend:=by
  intro y hy hyd
  have hyd1:¬D y.i:=fun h=>hyd (.inl h)
  have hyd2:y.i≠x.i:=fun h=>hyd (.inr h)
  rcases h.pend y hy hyd1 with g|⟨g1,ρ,v,g2,g3,g4⟩
  ·exact .inl g
  ·refine .inr ⟨g1,ρ,v,g2,g3,?_⟩
   rcases g4 with g4|⟨q,obj,k1,k2,k3,k4,k5,k6⟩
   ·exact .inl g4
   ·exact .inr ⟨q,obj,k1,k2,hn y hy hyd1 hyd2 (by rw[k1];rfl) g1 k3 k5,k4,k5,k6⟩
 inj:=fun y hy z hz dy dz=>h.inj y hy z hz (fun h=>dy (.inl h)) (fun h=>dz (.inl h))
theorem Stp.none {w':World}{β':Ren}(h:Stp P β σ w β' σ' w'){b:Nat}(hb:β b=none)(hlt:b<σ.next):β' b=none:=by
 cases e:β' b with
 |none=>rfl
 |some i=>
  rcases h.new b i e with h1|⟨h1,_⟩
  ·rw[hb] at h1;cases h1
  ·omega
theorem Inv.pendStep (hP:ProgOk P)(hC:SimC P C)(hG:GOk P β0)(hr0:Rel P β0 σ0 w0)(hI:ItemsOk P n ops l)(h:Inv P n ds l β0 σ0 w0 done D pos β fr σ a w)(hp:done.Pairwise OkP){x:Item}(hx:x∈done)(ho:OkO x)(hd:¬D x.i)
  (hanc:∀j,bit x.anc j=true->D j)(hK:∀β' a' w',Inv P n ds l β0 σ0 w0 done (fun j=>D j\/j=x.i) pos β' fr σ a' w'->K a' w'):wpOpIn (WR r) 0 P ops Q x.i K a w:=by
 have hit:=hI.ok x (h.mem x hx)
 have hxe:x.eff=false:=by
  cases e:x.eff with
  |false=>rfl
  |true=>exact absurd (h.eff x hx e) hd
 have hhere:=h.here hp (.inl ⟨hx,ho,hxe⟩) hanc
 obtain⟨q,hq,hsq,hsd,hconst,hdst,hgd⟩:=stepOf_some hit.st
 have hlt:∀t,x.s.dst=some t->t<n:=fun t ht=>hdst t (by rw[<-hsd];exact ht)
 have hw:=wants_rel (a:=a) (fr:=fr) (β:=β) hit.st (fun t b hg=>hhere t (tmps_guard hg))
 have hop:∀z∈x.o.op.operands,VRel P β (ev fr z) (a.eval z):=fun z hz=>ev_rel (hG.mono h.stp.le) (hconst z hz) fun t e=>hhere t (tmps_ops (e▸hz))
 simp only[wpOpIn,hit.op,hw]
 rcases h.pend x hx hd with⟨g1,g2⟩|⟨g1,ρ,v,g2,g3,g4⟩
 ·rw[if_neg (by rw[g1];simp), <-hsd]
  refine⟨fun _ _=>trivial,?_⟩
  exact hK β _ w (h.made hI hx hd hanc hlt (.refl _) h.stp (fun t ht=>by rw[g2 t ht];exact .undef) fun y _ _ _ _ _ g _=>g)
 ·rw[if_pos g1]
  have hop':∀z∈x.o.op.operands,VRel P β (ρ z) (a.eval z):=fun z hz=>by rw[g2 z hz];exact hop z hz
  rcases g4 with⟨qp,k1,k2⟩|⟨qa,obj,k1,k2,k3,k4,k5,k6⟩
  ·refine sim_step (C:=C) hP hC (hG.mono h.stp.le) h.stp.rel hq hop' (Qc:=fun v' σ'=>v'=v/\σ'=σ) ?_ fun v1 σ1 β' v' w' hQ hst hv=>?_
   ·rw[<-hsq,k1];exact⟨v,k2,rfl,rfl⟩
   ·obtain⟨rfl,rfl⟩:=hQ
    rw[<-hsd]
    exact hK β' _ w' (h.made hI hx hd hanc hlt hst.le (h.stp.trans hst hr0) (fun t ht=>by rw[g3 t ht];exact hv) fun y _ _ _ _ _ g g'=>hst.none g g')
  ·rw[hsq] at k1
   subst k1
   obtain⟨v',w',i,o',m1,m2,m3,m4,m5,m6,m7⟩:=sim_makes hq hop' k2 (w:=w)
   obtain⟨m8,m9⟩:=m7 (upd β (pos x.i) (some i)) (le_upd_none k3 i) (upd_same _ _ _)
   unfold Oper.wpIn
   refine⟨fun _ _=>trivial,?_⟩
   rw[Oper.semAt_eq _ _ _ (op_noDefer hq),m1]
   simp only[Oper.uponIn]
   rw[<-hsd]
   refine hK (upd β (pos x.i) (some i)) _ w' (h.made hI hx hd hanc hlt (le_upd_none k3 i) (h.stp.late k3 k4 k5 m6.1 m2 m3 m4 m5 ?_ m6.2) (fun t ht=>by rw[g3 t ht];exact m8) fun y hy hyd hne ya yw g g'=>?_)
   ·rcases k6 with k6|k6
    ·exact⟨obj,k6,aev_noIter k2,m9⟩
    ·exact⟨.dead,k6,rfl,trivial⟩
   ·rw[upd_ne]
    ·exact g
    ·intro e
     exact hne (h.inj y hy x hx hyd hd ya (by rw[hsq];rfl) yw g1 e)
theorem Inv.eff' (hr0:Rel P β0 σ0 w0)(hI:ItemsOk P n ops l)(h:Inv P n ds l β0 σ0 w0 done D pos β fr σ a w)(hone:∀y∈done,OkO y){x:Item}(hx:x∈l)(hpx:∀y∈done,OkP y x)
  (hanc:∀j,bit x.anc j=true->D j)(hlt:∀t,x.s.dst=some t->t<n)(hfr:∀t,hasDst t x.s=false->fr' t=fr t)(hag:∀g∈done.filterMap (againOf x.anc),AgainR fr' σ' g)
  {β':Ren}{w':World}{v':Value}(hst:Stp P β σ w β' σ' w')(hv:∀t,x.s.dst=some t->VRel P β' (fr' t) v') :
  Inv P n ds l β0 σ0 w0 (done++[x]) (fun j=>D j\/j=x.i) pos β' fr' σ' (a.put x.s.dst v') w':=by
 have hy1:∀y∈done,¬D y.i->∀t∈tmpsOf y.s y.o,fr' t=fr t:=by
  intro y hy hyd t ht
  refine hfr t ?_
  cases e:hasDst t x.s with
  |false=>rfl
  |true=>exact absurd (hanc _ ((hpx y hy).fore t ht e).2) hyd
 have hy2:∀y∈done,∀t,y.s.dst=some t->fr' t=fr t:=fun y hy t ht=>hfr t ((hpx y hy).dst t ht)
 refine⟨h.stp.trans hst hr0,?_,?_,?_,?_,?_,?_,?_,?_,?_⟩
 ·cases x.s.dst<;>simp[Act.put,h.size]
 ·cases x.s.dst<;>exact h.defers
 ·intro y hy
  rcases List.mem_append.1 hy with hy|hy
  ·exact h.mem y hy
  ·simp at hy;subst hy;exact hx
 ·intro y hy hyd j hj
  rcases hyd with hyd|hyd
  ·exact .inl (h.down y hy hyd j hj)
  ·have:=hI.uni y hy x hx hyd
   subst this;exact .inl (hanc j hj)
 ·intro y hy hyd
  rcases hyd with hyd|hyd
  ·exact List.mem_append.2 (.inl (h.sub y hy hyd))
  ·have:=hI.uni y hy x hx hyd
   subst this;simp
 ·intro y hy hye
  rcases List.mem_append.1 hy with hy|hy
  ·exact .inl (h.eff y hy hye)
  ·simp at hy;subst hy;exact .inr rfl
 ·intro t
  rw[getD_put (fun t ht=>Nat.lt_of_lt_of_le (hlt t ht) h.size)]
  by_cases e:x.s.dst=some t
  ·rw[if_pos e];exact .inl (hv t e)
  ·rw[if_neg e]
   have e':hasDst t x.s=false:=by
    cases e2:hasDst t x.s with
    |false=>rfl
    |true=>exact absurd (hasDst_iff.1 e2) e
   rw[hfr t e']
   rcases h.rel t with h1|⟨y,h1,h2,h3⟩
   ·exact .inl (h1.mono hst.le)
   ·exact .inr ⟨y,by simp[h1],fun h4=>h4.elim h2 (hpx y h1).ne,h3⟩
 ·intro y hy hyd
  have hyd1:¬D y.i:=fun h=>hyd (.inl h)
  rcases List.mem_append.1 hy with hy|hy
  ·have w1:=wants_agree (hy1 y hy hyd1)
   have e1:=ev_agree (hy1 y hy hyd1)
   rcases h.pend y hy hyd1 with⟨g1,g2⟩|⟨g1,ρ,v,g2,g3,g4⟩
   ·exact .inl ⟨w1.trans g1,fun t ht=>(hy2 y hy t ht).trans (g2 t ht)⟩
   ·refine .inr ⟨w1.trans g1,?_⟩
    rcases g4 with⟨qp,k1,k2⟩|⟨qa,obj,k1,k2,k3,k4,k5,k6⟩
    ·cases er:reads qp with
     |false=>exact⟨ρ,v,fun z hz=>(g2 z hz).trans (e1 z hz).symm,fun t ht=>(hy2 y hy t ht).trans (g3 t ht),.inl ⟨qp,k1,by rw[pev_still er ρ σ' σ];exact k2⟩⟩
     |true=>
      cases ed:y.s.dst with
      |none=>have:=(hone y hy).dst qp k1 ed;rw[er] at this;cases this
      |some t=>
       have hmem:(⟨t,y.s.guard,qp⟩ : Again)∈done.filterMap (againOf x.anc):=by
        refine List.mem_filterMap.2 ⟨y,hy,?_⟩
        unfold againOf
        rw[k1,ed]
        have hb:bit x.anc y.i=false:=by
         cases e:bit x.anc y.i with
         |false=>rfl
         |true=>exact absurd (hanc _ e) hyd1
        simp[er,hb]
       have:=hag _ hmem (w1.trans g1)
       refine⟨ev fr',fr' t,fun z _=>rfl,fun t' ht'=>by cases ht';rfl,.inl ⟨qp,k1,this⟩⟩
    ·refine⟨ρ,v,fun z hz=>(g2 z hz).trans (e1 z hz).symm,fun t ht=>(hy2 y hy t ht).trans (g3 t ht),.inr ⟨qa,obj,k1,k2,hst.none k3 k5,k4,Nat.lt_of_lt_of_le k5 hst.next,?_⟩⟩
     rcases hst.cfr _ k5 k3 with g|g
     ·rw[g];exact k6
     ·exact .inr g
  ·simp at hy;subst hy;exact absurd (.inr rfl) hyd
 ·intro y hy z hz dy dz ay az wy wz
  rcases List.mem_append.1 hy with hy|hy
  ·rcases List.mem_append.1 hz with hz|hz
   ·refine h.inj y hy z hz (fun h=>dy (.inl h)) (fun h=>dz (.inl h)) ay az ?_ ?_
    ·rw[<-wants_agree (hy1 y hy fun h=>dy (.inl h))];exact wy
    ·rw[<-wants_agree (hy1 z hz fun h=>dz (.inl h))];exact wz
   ·simp at hz;subst hz;exact absurd (.inr rfl) dz
  ·simp at hy;subst hy;exact absurd (.inr rfl) dy
theorem Inv.effStep (hP:ProgOk P)(hC:SimC P C)(hG:GOk P β0)(hr0:Rel P β0 σ0 w0)(hI:ItemsOk P n ops l)(h:Inv P n ds l β0 σ0 w0 done D pos β fr σ a w)(hp:done.Pairwise OkP)(hone:∀y∈done,OkO y){x:Item}(hx:x∈l)(hpx:∀y∈done,OkP y x)
  (he:x.eff=true)(hanc:∀j,bit x.anc j=true->D j){Kc:Fr->CW->Prop}(hr:StepW C x.s fr σ Kc)(hag:∀fr' σ',Kc fr' σ'->∀g∈done.filterMap (againOf x.anc),AgainR fr' σ' g)
  (hK:∀fr' σ' β' a' w',Kc fr' σ'->Inv P n ds l β0 σ0 w0 (done++[x]) (fun j=>D j\/j=x.i) pos β' fr' σ' a' w'->K a' w'):wpOpIn (WR r) 0 P ops Q x.i K a w:=by
 have hit:=hI.ok x hx
 have hhere:=h.here hp (.inr hpx) hanc
 obtain⟨q,hq,hsq,hsd,hconst,hdst,hgd⟩:=stepOf_some hit.st
 have hlt:∀t,x.s.dst=some t->t<n:=fun t ht=>hdst t (by rw[<-hsd];exact ht)
 have hw:=wants_rel (a:=a) (fr:=fr) (β:=β) hit.st (fun t b hg=>hhere t (tmps_guard hg))
 have hop:∀z∈x.o.op.operands,VRel P β (ev fr z) (a.eval z):=fun z hz=>ev_rel (hG.mono h.stp.le) (hconst z hz) fun t e=>hhere t (tmps_ops (e▸hz))
 simp only[wpOpIn,hit.op,hw]
 rcases hr with⟨h1,h2⟩|⟨h1,h2⟩
 ·rw[if_pos h1]
  refine sim_step hP hC (hG.mono h.stp.le) h.stp.rel hq hop (hsq▸h2) fun v σ1 β' v' w' hQ hst hv=>?_
  rw[<-hsd]
  refine hK _ _ β' _ w' hQ (h.eff' hr0 hI hone hx hpx hanc hlt (fun t ht=>putT_ne ht) (hag _ _ hQ) hst fun t ht=>?_)
  rw[ht];show VRel P β' (upd fr t v t) v';rw[upd_same];exact hv
 ·rw[if_neg (by rw[h1];simp), <-hsd]
  refine⟨fun _ _=>trivial,hK _ _ β _ w h2 (h.eff' hr0 hI hone hx hpx hanc hlt (fun t ht=>putT_ne ht) (hag _ _ h2) (.refl h.stp.rel) fun t ht=>?_)⟩
  rw[ht];show VRel P β (upd fr t cundef t) undef;rw[upd_same];exact .undef
end
end Go.Cn
namespace Go.Cn
set_option linter.unusedVariables false
set_option linter.unusedSimpArgs false
theorem bit_test (m i:Nat):bit m i=m.testBit i:=by
 rw[Nat.testBit_eq_decide_div_mod_eq]
 have h1:Nat.shiftRight m i=m / 2 ^ i:=Nat.shiftRight_eq_div_pow m i
 unfold bit
 rw[h1]
 show Nat.beq (m / 2 ^ i % 2) 1=_
 by_cases h:m / 2 ^ i % 2=1
 ·rw[decide_eq_true h,Nat.beq_eq];exact h
 ·rw[decide_eq_false h]
  cases e:Nat.beq (m / 2 ^ i % 2) 1 with
  |false=>rfl
  |true=>exact absurd (Nat.beq_eq.symm▸e:m / 2 ^ i % 2=1) h
theorem bit_or (a b i:Nat):bit (Nat.lor a b) i=(bit a i || bit b i):=by
 simp only[bit_test];exact Nat.testBit_or a b i
theorem bit_one (e i:Nat):bit (Nat.shiftLeft 1 e) i=true->e=i:=by
 rw[bit_test]
 intro h
 have:(1 <<< e).testBit i=true:=h
 rw[Nat.testBit_shiftLeft] at this
 simp only[Bool.and_eq_true,decide_eq_true_eq] at this
 have h2:=Nat.testBit_one_eq_true_iff_self_eq_zero.1 this.2
 omega
theorem bit_zero (i:Nat):bit 0 i=false:=by simp[bit_test]
theorem bit_foldl (acc:List Nat)(j:Nat):∀(es:List Nat)(m:Nat),bit (es.foldl (fun m e=>Nat.lor m (Nat.lor (acc.getD e 0) (Nat.shiftLeft 1 e))) m) j=true->bit m j=true\/∃e∈es,e=j\/bit (acc.getD e 0) j=true
 |[],m,h=>.inl h
 |e::es,m,h=>by
  rcases bit_foldl acc j es _ h with h1|⟨e',h1,h2⟩
  ·rw[bit_or,bit_or] at h1
   simp only[Bool.or_eq_true] at h1
   rcases h1 with h1|h1|h1
   ·exact .inl h1
   ·exact .inr ⟨e,by simp,.inr h1⟩
   ·exact .inr ⟨e,by simp,.inl (bit_one _ _ h1)⟩
  ·exact .inr ⟨e',by simp[h1],h2⟩
theorem ancs_ok:∀(l:List Oper)(i:Nat)(acc r:List Nat),ancs l i acc=some r->acc.length=i->(∃s,r=acc++s/\s.length=l.length)/\
  ∀(k:Nat)(o:Oper),l[k]?=some o->(∀e∈o.after,Region.binds .any e=true->e.on<i+k)/\
   ∀j,bit (r.getD (i+k) 0) j=true->∃e∈o.after,Region.binds .any e=true/\(e.on=j\/bit (r.getD e.on 0) j=true)
 |[],i,acc,r,h,ha=>by
  cases h
  exact⟨⟨[],by simp,rfl⟩,by simp⟩
 |o::l,i,acc,r,h,ha=>by
  simp only[ancs] at h
  split at h
  ·rename_i hall
   obtain⟨⟨s,hs,hsl⟩,hk⟩:=ancs_ok l (i+1) _ r h (by simp[ha])
   have hlt:∀e∈o.after,Region.binds .any e=true->e.on<i:=by
    intro e he hb
    have:=List.all_eq_true.1 hall e.on (List.mem_map.2 ⟨e,List.mem_filter.2 ⟨by simpa using he,hb⟩,rfl⟩)
    simp[Nat.blt] at this;omega
   refine⟨⟨_::s,by rw[hs];simp;rfl,by simp[hsl]⟩,fun k o' ho=>?_⟩
   cases k with
   |zero=>
    simp only[List.getElem?_cons_zero,Option.some.injEq] at ho
    subst ho
    refine⟨hlt,fun j hj=>?_⟩
    have e1:∀m,m<i->r.getD m 0=acc.getD m 0:=by
     intro m hm
     rw[hs,List.getD_eq_getElem?_getD,List.getD_eq_getElem?_getD,List.append_assoc,List.getElem?_append_left (by omega)]
    have e2:r.getD (i+0) 0=((o.after.toList.filter (Region.binds .any)).map (·.on)).foldl (fun m e=>Nat.lor m (Nat.lor (acc.getD e 0) (Nat.shiftLeft 1 e))) 0:=by
     rw[hs,List.getD_eq_getElem?_getD,List.append_assoc,List.getElem?_append_right (by omega)]
     simp[ha]
    rw[e2] at hj
    rcases bit_foldl acc j _ _ hj with h1|⟨e,h1,h2⟩
    ·rw[bit_zero] at h1;cases h1
    ·obtain⟨e',g1,rfl⟩:=List.mem_map.1 h1
     obtain⟨g1,g2⟩:=List.mem_filter.1 g1
     have g1:e'∈o.after:=by simpa using g1
     exact⟨e',g1,g2,h2.imp id fun h=>by rw[e1 _ (hlt e' g1 g2)];exact h⟩
   |succ k=>
    obtain⟨h1,h2⟩:=hk k o' (by simpa using ho)
    have e:i+1+k=i+(k+1):=by omega
    rw[e] at h1 h2
    exact⟨h1,h2⟩
  ·cases h
theorem items_mem:∀{os:List Oper}{ss:List CStep}{as:List Nat}{i:Nat}{x:Item},x∈itemsOf os ss as i->
  ∃k,x.i=i+k/\os[k]?=some x.o/\ss[k]?=some x.s/\as[k]?=some x.anc/\x.eff=isE x.s x.o
 |o::os,s::ss,a::as,i,x,h=>by
  simp only[itemsOf,List.mem_cons] at h
  rcases h with rfl|h
  ·exact⟨0,rfl,rfl,rfl,rfl,rfl⟩
  ·obtain⟨k,h1,h2,h3,h4,h5⟩:=items_mem h
   exact⟨k+1,by omega,by simpa using h2,by simpa using h3,by simpa using h4,h5⟩
 |[],_,_,_,_,h=>by simp[itemsOf] at h
 |_::_,[],_,_,_,h=>by simp[itemsOf] at h
 |_::_,_::_,[],_,_,h=>by simp[itemsOf] at h
theorem items_all:∀{os:List Oper}{ss:List CStep}{as:List Nat}{i k:Nat},k<os.length->k<ss.length->k<as.length->∃x∈itemsOf os ss as i,x.i=i+k
 |o::os,s::ss,a::as,i,k,h1,h2,h3=>by
  cases k with
  |zero=>exact⟨_,by simp[itemsOf];exact .inl rfl,rfl⟩
  |succ k=>
   obtain⟨x,g1,g2⟩:=items_all (i:=i+1) (os:=os) (ss:=ss) (as:=as) (k:=k) (by simpa using h1) (by simpa using h2) (by simpa using h3)
   exact⟨x,by simp[itemsOf,g1],by omega⟩
 |[],_,_,_,_,h,_,_=>by simp at h
 |_::_,[],_,_,_,_,h,_=>by simp at h
 |_::_,_::_,[],_,_,_,_,h=>by simp at h
theorem items_ok {P:Program}{n:Nat}{ops:Array Oper}{anc:List Nat}{ss:List CStep}(h1:ancs ops.toList 0 []=some anc)(h2:ops.toList.mapM (stepOf P n ops)=some ss) :
  ItemsOk P n ops (itemsOf ops.toList ss anc 0):=by
 obtain⟨⟨s,hs,hl⟩,ha⟩:=ancs_ok _ _ _ _ h1 rfl
 obtain⟨hl2,hm⟩:=mapM_some h2
 simp at hs
 subst hs
 have hall:∀i,i<ops.size->∃x∈itemsOf ops.toList ss anc 0,x.i=i:=by
  intro i hi
  obtain⟨x,g1,g2⟩:=items_all (os:=ops.toList) (ss:=ss) (as:=anc) (i:=0) (k:=i) (by simpa using hi) (by rw[<-hl2];simpa using hi) (by rw[hl];simpa using hi)
  exact⟨x,g1,by omega⟩
 refine⟨fun x hx=>?_,hall,fun x hx y hy hxy=>?_⟩
 ·obtain⟨k,e1,e2,e3,e4,e5⟩:=items_mem hx
  have ek:x.i=k:=by omega
  obtain⟨a1,a2⟩:=ha k x.o e2
  obtain⟨o',b1,b2⟩:=hm k x.s e3
  rw[e2] at b1;cases b1
  refine⟨by rw[ek];simpa using e2,b2,?_,?_,?_⟩
  ·intro hf;rw[e5] at hf
   simp only[isE,Bool.or_eq_false_iff] at hf
   exact hf.1
  ·intro e he hb;have:=a1 e he hb;omega
  ·intro j hj
   have e6:anc.getD (0+k) 0=x.anc:=by rw[List.getD_eq_getElem?_getD,Nat.zero_add,e4];rfl
   obtain⟨e,g1,g2,g3⟩:=a2 j (by rw[e6];exact hj)
   refine⟨e,g1,g2,g3.imp id fun g3=>?_⟩
   have hlt:e.on<ops.size:=by
    have:=a1 e g1 g2
    have hk:k<ops.toList.length:=(List.getElem?_eq_some_iff.1 e2).1
    simp at hk;omega
   obtain⟨y,y1,y2⟩:=hall e.on hlt
   refine⟨y,y1,y2,?_⟩
   obtain⟨k',f1,f2,f3,f4,f5⟩:=items_mem y1
   have:anc.getD e.on 0=y.anc:=by
    rw[List.getD_eq_getElem?_getD,show e.on=k' by omega,f4];rfl
   rw[<-this];exact g3
 ·obtain⟨k,e1,e2,e3,e4,e5⟩:=items_mem hx
  obtain⟨k',f1,f2,f3,f4,f5⟩:=items_mem hy
  have:k=k':=by omega
  subst this
  rw[e2] at f2;rw[e3] at f3;rw[e4] at f4
  cases x;cases y
  simp_all
section
variable {P:Program}{C:CallQ}{n lo:Nat}{r:Option Nat}{ds:List Deferred}{ops:Array Oper}{l:List Item}{β0:Ren}{σ0:CW}{w0:World}{Q:Exit->Act->World->Prop}
theorem getD_set {listed:Array Bool}{i j:Nat}(hi:i<listed.size):(listed.setIfInBounds i true).getD j false=true↔(listed.getD j false=true\/j=i):=by
 rw[Array.getD_eq_getD_getElem?,Array.getD_eq_getD_getElem?]
 by_cases h:i=j
 ·subst h;simp[hi]
 ·rw[Array.getElem?_setIfInBounds_ne h]
  exact⟨.inl,fun h'=>h'.elim id fun h'=>absurd h'.symm h⟩
theorem ready_iff {listed:Array Bool}(hs:listed.size=ops.size){i:Nat}:i∈Region.ready .any ops listed↔∃o,ops[i]?=some o/\listed.getD i false=false/\∀e∈o.after,Region.binds .any e=true->listed.getD e.on false=true:=by
 simp only[Region.ready,List.mem_filter,List.mem_range,Bool.and_eq_true,Bool.not_eq_true']
 constructor
 ·rintro⟨h1,h2,h3⟩
  have ho:ops[i]?=some ops[i]:=by simp[h1]
  rw[ho] at h3
  simp only[Option.map_some,Option.getD_some] at h3
  refine⟨_,ho,?_,fun e he hb=>?_⟩
  ·rw[Array.getD_eq_getD_getElem?] at h2 ⊢
   rw[Array.getElem?_eq_getElem (by omega)] at h2 ⊢;exact h2
  ·have:=Array.all_eq_true'.1 h3 e he
   simpa[hb] using this
 ·rintro⟨o,h1,h2,h3⟩
  have hi:i<ops.size:=by
   rw[Array.getElem?_eq_some_iff] at h1;exact h1.1
  refine⟨hi,?_,?_⟩
  ·rw[Array.getD_eq_getD_getElem?] at h2 ⊢
   rw[Array.getElem?_eq_getElem (by omega)] at h2 ⊢;exact h2
  ·rw[h1]
   simp only[Option.map_some,Option.getD_some]
   refine Array.all_eq_true'.2 fun e he=>?_
   cases hb:Region.binds .any e with
   |false=>rfl
   |true=>simp[h3 e he hb]
theorem ord_mem {x:Item}:∀{r:List (Item×List Item)},x∈ordOf r->∃p∈r,x=p.1\/x∈p.2
 |[],h=>by simp[ordOf] at h
 |(e,seg)::r,h=>by
  simp only[ordOf,List.mem_cons,List.mem_append] at h
  rcases h with h|h|h
  ·exact⟨(e,seg),by simp,.inl h⟩
  ·exact⟨(e,seg),by simp,.inr h⟩
  ·obtain⟨p,h1,h2⟩:=ord_mem h
   exact⟨p,by simp[h1],h2⟩
theorem step_plain {s:CStep}(he:isEC s.op=false){fr:Fr}{σ:CW}{K:Fr->CW->Prop}(h:StepW C s fr σ K):∃fr' σ',StepR (fun _ _ _ _ _=>False) s fr σ fr' σ'/\K fr' σ':=by
 rcases h with⟨h1,h2⟩|⟨h1,h2⟩
 ·cases eo:s.op with
  |p q=>
   rw[eo] at h2
   obtain⟨v,h3,h4⟩:=h2
   exact⟨_,_,.inl ⟨h1,v,by rw[eo];exact⟨h3,rfl⟩,rfl⟩,h4⟩
  |a q=>
   rw[eo] at h2
   obtain⟨obj,v,h3,h4⟩:=h2
   exact⟨_,_,.inl ⟨h1,v,by rw[eo];exact⟨obj,h3,rfl⟩,rfl⟩,h4⟩
  |e q=>rw[eo] at he;cases he
  |no=>rw[eo] at he;cases he
 ·exact⟨_,_,.inr ⟨h1,rfl,rfl⟩,h2⟩
theorem steps_plain:∀{l:List CStep},(∀s∈l,isEC s.op=false)->∀{fr:Fr}{σ:CW}{K:Fr->CW->Prop},StepsW C l fr σ K->∃fr' σ',StepsR (fun _ _ _ _ _=>False) l fr σ fr' σ'/\K fr' σ'
 |[],_,fr,σ,K,h=>⟨fr,σ,.nil _ _,h⟩
 |s::l,hs,fr,σ,K,h=>by
  obtain⟨fr1,σ1,h1,h2⟩:=step_plain (hs s (by simp)) h
  obtain⟨fr2,σ2,h3,h4⟩:=steps_plain (fun s' h'=>hs s' (by simp[h'])) h2
  exact⟨fr2,σ2,.cons h1 h3,h4⟩
theorem draw_any (hP:ProgOk P)(hC:SimC P C)(hG:GOk P β0)(hr0:Rel P β0 σ0 w0)(hlo:lo<=w0.heap.size)(hds:Marks lo β0 w0 ds)(hI:ItemsOk P n ops l):∀(fuel:Nat)(U:List Nat)(listed:Array Bool)(todo:List (Item×List Item))(done:List Item)(pos:Nat->Nat){β:Ren}{fr:Fr}{σ:CW}{Kc:Fr->CW->Prop}{a:Act}{w:World},
  U.Nodup->listed.size=ops.size->(∀i,i∈U↔i<ops.size/\listed.getD i false=false)->U.length=fuel->(done++ordOf todo).Pairwise OkP->(∀x∈done++ordOf todo,OkO x)->(∀p∈todo,p.1∈l/\p.1.eff=true/\∀x∈p.2,x∈l/\x.eff=false)->
  (∀x∈l,x∈done++ordOf todo)->StagesW C (stagesOf done todo) fr σ Kc->Inv P n ds l β0 σ0 w0 done (fun j=>listed.getD j false=true) pos β fr σ a w->
  Ends' P n lo β0 σ0 w0 Kc (Q .normal)->wpAnyIn (WR r) 0 P .any ops Q fuel listed a w:=by
 have fin:∀(listed:Array Bool)(todo:List (Item×List Item))(done:List Item)(pos:Nat->Nat){β:Ren}{fr:Fr}{σ:CW}{Kc:Fr->CW->Prop}{a:Act}{w:World},listed.size=ops.size->(done++ordOf todo).Pairwise OkP->
   (∀p∈todo,p.1∈l/\p.1.eff=true/\∀x∈p.2,x∈l/\x.eff=false)->StagesW C (stagesOf done todo) fr σ Kc->Inv P n ds l β0 σ0 w0 done (fun j=>listed.getD j false=true) pos β fr σ a w->
   Ends' P n lo β0 σ0 w0 Kc (Q .normal)->Region.ready .any ops listed=[]->Q .normal a w:=by
  intro listed todo done pos β fr σ Kc a w hs hp ht hr h hK hnil
  have hall:∀i,i<ops.size->listed.getD i false=true:=by
   intro i
   induction i using Nat.strongRecOn with
   |_ i ih=>
    intro hi
    cases e:listed.getD i false with
    |true=>rfl
    |false=>
     exfalso
     obtain⟨x,hx,rfl⟩:=hI.all i hi
     have hit:=hI.ok x hx
     have:x.i∈Region.ready .any ops listed:=(ready_iff hs).2 ⟨x.o,hit.op,e,fun e he hb=>by
      have:=hit.lt e he hb
      exact ih e.on this (by omega)⟩
     rw[hnil] at this;cases this
  have hD:∀x∈l,listed.getD x.i false=true:=by
   intro x hx
   refine hall x.i ?_
   have:=(hI.ok x hx).op
   rw[Array.getElem?_eq_some_iff] at this;exact this.1
  cases todo with
  |cons p todo=>
   exfalso
   obtain⟨e,seg⟩:=p
   have he:=(ht (e,seg) (by simp)).1
   have hdone:=h.sub e he (hD e he)
   exact ((List.pairwise_append.1 hp).2.2 e hdone e (by simp[ordOf])).ne rfl
  |nil=>
   refine hK _ _ β a w hr h.stp ⟨Nat.le_trans hlo h.stp.size,h.size,by rw[h.defers];exact hds.step h.stp,fun t=>?_⟩
   rcases h.rel t with h1|⟨x,h1,h2,_⟩
   ·exact h1
   ·exact absurd (hD x (h.mem x h1)) h2
 intro fuel
 induction fuel with
 |zero=>
  intro U listed todo done pos β fr σ Kc a w hU hs hUi hl hp ho ht hc hr h hK
  have hnil:Region.ready .any ops listed=[]:=by
   apply List.eq_nil_iff_forall_not_mem.2
   intro i hi
   obtain⟨o,h1,h2,_⟩:=(ready_iff hs).1 hi
   have:i∈U:=(hUi i).2 ⟨by rw[Array.getElem?_eq_some_iff] at h1;exact h1.1,h2⟩
   rw[List.length_eq_zero_iff.1 hl] at this;cases this
  exact⟨hnil,fin listed todo done pos hs hp ht hr h hK hnil⟩
 |succ fuel ih=>
  intro U listed todo done pos β fr σ Kc a w hU hs hUi hl hp ho ht hc hr h hK
  refine⟨fin listed todo done pos hs hp ht hr h hK,fun i hi=>?_⟩
  obtain⟨o,h1,h2,h3⟩:=(ready_iff hs).1 hi
  have hisz:i<ops.size:=by rw[Array.getElem?_eq_some_iff] at h1;exact h1.1
  obtain⟨x,hx,rfl⟩:=hI.all i hisz
  have hit:=hI.ok x hx
  rw[hit.op] at h1;cases h1
  have hanc:∀j,bit x.anc j=true->listed.getD j false=true:=by
   intro j hj
   obtain⟨e,g1,g2,g3⟩:=hit.anc j hj
   have:=h3 e g1 g2
   rcases g3 with rfl|⟨y,g3,g4,g5⟩
   ·exact this
   ·exact h.down y g3 (by rw[g4];exact this) j g5
  have hd:¬listed.getD x.i false=true:=by rw[h2];simp
  have hU':(U.erase x.i).Nodup:=hU.erase _
  have hs':(listed.setIfInBounds x.i true).size=ops.size:=by simp[hs]
  have hD':(fun j=>(listed.setIfInBounds x.i true).getD j false=true)=fun j=>listed.getD j false=true\/j=x.i:=by
   funext j;exact propext (getD_set (by omega))
  have hUi':∀i,i∈U.erase x.i↔i<ops.size/\(listed.setIfInBounds x.i true).getD i false=false:=by
   intro i
   rw[hU.mem_erase_iff,hUi]
   have:=congrFun hD' i
   simp only[eq_iff_iff] at this
   rw[<-Bool.not_eq_true, <-Bool.not_eq_true (Array.getD _ _ _),this]
   constructor
   ·rintro⟨g1,g2,g3⟩;exact⟨g2,fun g=>g.elim g3 g1⟩
   ·rintro⟨g1,g2⟩;exact⟨fun g=>g2 (.inr g),g1,fun g=>g2 (.inl g)⟩
  have hl':(U.erase x.i).length=fuel:=by
   rw[List.length_erase_of_mem ((hUi x.i).2 ⟨hisz,h2⟩),hl];rfl
  have hpd:=(List.pairwise_append.1 hp).1
  by_cases hxd:x∈done
  ·refine h.pendStep hP hC hG hr0 hI hpd hxd (ho x (by simp[hxd])) hd hanc fun β' a' w' h'=>?_
   rw[<-hD'] at h'
   exact ih _ _ todo done pos hU' hs' hUi' hl' hp ho ht hc hr h' hK
  ·
   have hxo:x∈ordOf todo:=by
    rcases List.mem_append.1 (hc x hx) with g|g
    ·exact absurd g hxd
    ·exact g
   cases todo with
   |nil=>simp[ordOf] at hxo
   |cons p todo=>
    obtain⟨e,seg⟩:=p
    obtain⟨t1,t2,t3⟩:=ht (e,seg) (by simp)
    have hxe:x=e:=by
     simp only[ordOf,List.mem_cons] at hxo
     rcases hxo with g|g
     ·exact g
     ·exfalso
      have hpo:=(List.pairwise_append.1 hp).2.1
      simp only[ordOf] at hpo
      have:=((List.pairwise_cons.1 hpo).1 x g).eff t2
      have:=h.sub e t1 (hanc _ this)
      exact ((List.pairwise_append.1 hp).2.2 e this e (by simp[ordOf])).ne rfl
    subst hxe
    refine h.effStep hP hC hG hr0 hI hpd (fun y hy=>ho y (by simp[hy])) hx (fun y hy=>(List.pairwise_append.1 hp).2.2 y hy x (by simp[ordOf])) t2 hanc hr (fun fr' σ' hk=>hk.1) fun fr1 σ1 β' a' w' hk h'=>?_
    obtain⟨r2,r3⟩:=hk
    rw[<-hD'] at h'
    have e1:done++ordOf ((x,seg)::todo)=(done++[x])++(seg++ordOf todo):=by simp[ordOf]
    have e2:done++ordOf ((x,seg)::todo)=(done++[x]++seg)++ordOf todo:=by simp[ordOf]
    have hp1:((done++[x])++seg).Pairwise OkP:=by rw[e2] at hp;exact (List.pairwise_append.1 hp).1
    obtain⟨fr2,σ2,r3,r4⟩:=steps_plain (fun s hs=>by
     obtain⟨y,hy,rfl⟩:=List.mem_map.1 hs
     exact (hI.ok y (t3 y hy).1).eff (t3 y hy).2) r3
    obtain⟨pos',h''⟩:=h'.aheads hI (xs:=seg) (fun y hy=>⟨(t3 y hy).1,(t3 y hy).2,ho y (by rw[e1];simp[hy])⟩) hp1 r3
    refine ih _ _ todo (done++[x]++seg) pos' hU' hs' hUi' hl' (e2▸hp) (e2▸ho) (fun p hp=>ht p (by simp[hp])) (e2▸hc) ?_ h'' hK
    have e3:done++[x]++seg=done++x::seg:=by simp
    rw[e3];exact r4
theorem pairs_mem {effs:List Nat}{p:Item×List Item}:∀{es:List Item}{k:Nat},p∈pairsOf l effs es k->p.1∈es/\∃m,p.2=segOf l effs m
 |[],k,h=>by simp[pairsOf] at h
 |e::es,k,h=>by
  simp only[pairsOf,List.mem_cons] at h
  rcases h with rfl|h
  ·exact⟨by simp,_,rfl⟩
  ·obtain⟨h1,h2⟩:=pairs_mem h
   exact⟨by simp[h1],h2⟩
theorem seg_mem {effs:List Nat}{m:Nat}{x:Item}(h:x∈segOf l effs m):x∈l/\x.eff=false:=by
 simp only[segOf,List.mem_filter,Bool.and_eq_true,Bool.not_eq_true'] at h
 exact⟨h.1,h.2.1⟩
theorem draw_ok (hP:ProgOk P)(hC:SimC P C):DrawOk P C n:=by
 intro r ops p hpl id Q fr σ Kc hr lo β w a hG h hf hK
 unfold planOf at hpl
 split at hpl
 ·rename_i anc ss h1 h2
  have hI:=items_ok h1 h2
  simp only at hpl
  split at hpl
  ·rename_i hcond
   cases hpl
   simp only[Bool.and_eq_true] at hcond
   obtain⟨hord,hall⟩:=hcond
   generalize hle:itemsOf ops.toList ss anc 0=l at *
   generalize hes:l.filter (·.eff)=es at *
   generalize hef:es.map (·.i)=effs at *
   obtain⟨o1,o2⟩:=okOrd_ok hord
   refine wpIn_region_any hP.mixed ?_
   have hw':∀d,Rel P β σ {w with drawn:=d}:=fun d=>h.heap rfl
   have h0:Inv P n a.defers l β σ {w with drawn:=w.drawn+1} [] (fun j=>(Array.replicate ops.size false).getD j false=true) (fun _=>0) β fr σ a {w with drawn:=w.drawn+1}:=by
    have hno:∀j,¬(Array.replicate ops.size false).getD j false=true:=by
     intro j
     rw[Array.getD_eq_getD_getElem?,Array.getElem?_replicate]
     split<;>simp
    exact⟨.refl (hw' _),hf.size,rfl,by simp,fun x _ hd=>absurd hd (hno _),fun x _ hd=>absurd hd (hno _),by simp,fun t=>.inl (hf.rel t),by simp,by simp⟩
   obtain⟨fr1,σ1,hr1,hr2⟩:=steps_plain (fun s hs=>by
    obtain⟨y,hy,rfl⟩:=List.mem_map.1 hs
    exact (hI.ok y (seg_mem hy).1).eff (seg_mem hy).2) hr
   obtain⟨pos',h0'⟩:=h0.aheads hI (xs:=segOf l effs 0) (fun x hx=>⟨(seg_mem hx).1,(seg_mem hx).2,o2 x (by simp[hx])⟩) (by simpa using (List.pairwise_append.1 o1).1) hr1
   simp only[List.nil_append] at h0'
   refine draw_any (lo:=lo) (w0:={w with drawn:=w.drawn+1}) hP hC hG (hw' _) hf.lob hf.defers hI ops.size (List.range ops.size) _ (pairsOf l effs es 0) _ pos' List.nodup_range (by simp) ?_ (by simp) o1 o2 ?_ ?_ hr2 h0' ?_
   ·intro i
    rw[List.mem_range,Array.getD_eq_getD_getElem?,Array.getElem?_replicate]
    constructor
    ·intro hi;exact⟨hi,by simp[hi]⟩
    ·exact fun hi=>hi.1
   ·intro q hq
    obtain⟨g1,m,g2⟩:=pairs_mem hq
    rw[<-hes] at g1
    obtain⟨g3,g4⟩:=List.mem_filter.1 g1
    exact⟨g3,g4,fun x hx=>by rw[g2] at hx;exact seg_mem hx⟩
   ·intro x hx
    have:=List.all_eq_true.1 hall x hx
    obtain⟨y,hy,hyx⟩:=List.any_eq_true.1 this
    rw[Nat.beq_eq] at hyx
    have hyl:y∈l:=by
     rcases List.mem_append.1 hy with g|g
     ·exact (seg_mem g).1
     ·obtain⟨q,g1,g2⟩:=ord_mem g
      obtain⟨g3,m,g4⟩:=pairs_mem g1
      rcases g2 with g2|g2
      ·rw[<-hes] at g3;rw[g2];exact (List.mem_filter.1 g3).1
      ·rw[g4] at g2;exact (seg_mem g2).1
    rw[<-hI.uni y hyl x hx hyx];exact hy
   ·intro fr2 σ2 β2 a2 w2 hk hst hf2
    refine hK fr2 σ2 β2 a2 w2 hk ?_ hf2
    exact Stp.trans (.same (w':={w with drawn:=w.drawn+1}) h rfl rfl rfl rfl) hst h
  ·cases hpl
 ·cases hpl
theorem sim_calls_all (hP:ProgOk P){T:Nat->Option CFun}(hT:OkT P T)(d:Deep):SimC P (CallW T d):=sim_calls hP hT (fun d n ih=>draw_ok hP ih) d
end
end Go.Cn
namespace Go.Cn
set_option linter.unusedSimpArgs false
set_option linter.unusedVariables false
def LeC (C C':CallQ):Prop:=∀f args σ Q Q',C f args σ Q->(∀v σ',Q v σ'->Q' v σ')->C' f args σ Q'
theorem nextW_mono {σ:CW}{Q Q':Value->CW->Prop}(h:∀v σ',Q v σ'->Q' v σ'){x:Value}(hx:nextW σ Q x):nextW σ Q' x:=by
 unfold nextW at hx ⊢
 split at hx
 ·split at hx
  ·exact h _ _ hx
  ·split at hx
   ·exact⟨hx.1,hx.2.1,hx.2.2.1,fun e=>h _ _ (hx.2.2.2.1 e),fun k x hk=>h _ _ (hx.2.2.2.2 k x hk)⟩
   ·exact hx
  ·exact hx
 ·exact hx
section
variable {C C':CallQ}
theorem OpW.mono (hC:LeC C C'){o:COp}{ρ:Operand->Value}{σ:CW}{Q Q':Value->CW->Prop}(h:OpW C o ρ σ Q)(hQ:∀v σ',Q v σ'->Q' v σ'):OpW C' o ρ σ Q':=by
 cases o with
 |p o=>obtain⟨v,h1,h2⟩:=h;exact⟨v,h1,hQ _ _ h2⟩
 |a o=>obtain⟨obj,v,h1,h2⟩:=h;exact⟨obj,v,h1,hQ _ _ h2⟩
 |no=>exact h
 |e o=>
  cases o
  case call f args=>exact hC _ _ _ _ _ h hQ
  case callv x args=>obtain⟨f,a,b,h1,h2⟩:=h;exact⟨f,a,b,h1,hC _ _ _ _ _ h2 hQ⟩
  case next x=>exact nextW_mono hQ h
  all_goals (obtain⟨v,σ',h1,h2⟩:=h;exact⟨v,σ',h1,hQ _ _ h2⟩)
theorem StepW.mono (hC:LeC C C'){s:CStep}{fr:Fr}{σ:CW}{K K':Fr->CW->Prop}(h:StepW C s fr σ K)(hK:∀fr σ,K fr σ->K' fr σ):StepW C' s fr σ K':=by
 rcases h with⟨h1,h2⟩|⟨h1,h2⟩
 ·exact .inl ⟨h1,h2.mono hC fun v σ'=>hK _ _⟩
 ·exact .inr ⟨h1,hK _ _ h2⟩
theorem StepsW.mono (hC:LeC C C'):∀{l:List CStep}{fr:Fr}{σ:CW}{K K':Fr->CW->Prop},StepsW C l fr σ K->(∀fr σ,K fr σ->K' fr σ)->StepsW C' l fr σ K'
 |[],fr,σ,K,K',h,hK=>hK _ _ h
 |s::l,fr,σ,K,K',h,hK=>StepW.mono hC h fun fr σ h=>StepsW.mono hC h hK
theorem StagesW.mono (hC:LeC C C'):∀{l:List Stage}{fr:Fr}{σ:CW}{K K':Fr->CW->Prop},StagesW C l fr σ K->(∀fr σ,K fr σ->K' fr σ)->StagesW C' l fr σ K'
 |[],fr,σ,K,K',h,hK=>hK _ _ h
 |s::l,fr,σ,K,K',h,hK=>StepW.mono hC h fun fr σ h=>⟨h.1,StepsW.mono hC h.2 fun fr σ h=>StagesW.mono hC h hK⟩
theorem CodeW.mono (hC:LeC C C'){c:CCode}{fr:Fr}{σ:CW}{Q:CExit->Fr->CW->Prop}(h:CodeW C c fr σ Q):∀{Q':CExit->Fr->CW->Prop},(∀e fr σ,Q e fr σ->Q' e fr σ)->CodeW C' c fr σ Q':=by
 induction h with
 |skip h=>exact fun hQ=>.skip (hQ _ _ _ h)
 |region h=>exact fun hQ=>.region (StepsW.mono hC h fun _ _=>hQ _ _ _)
 |dregion h=>exact fun hQ=>.dregion (StepsW.mono hC h fun _ _ h=>StagesW.mono hC h fun _ _=>hQ _ _ _)
 |seq h t o ih1 ih2=>exact fun hQ=>.seq (ih1 fun _ _ _ h=>h) (fun fr σ h=>ih2 fr σ h hQ) fun e fr σ he h=>hQ _ _ _ (o e fr σ he h)
 |yes hc h ih=>exact fun hQ=>.yes hc (ih hQ)
 |no hc h ih=>exact fun hQ=>.no hc (ih hQ)
 |block h o ih=>exact fun hQ=>.block (ih fun _ _ _ h=>h) fun e fr σ h=>hQ _ _ _ (o e fr σ h)
 |loop h t o ih1 ih2=>exact fun hQ=>.loop (ih1 fun _ _ _ h=>h) (fun fr σ h=>ih2 fr σ h hQ) fun e fr σ he h=>hQ _ _ _ (o e fr σ he h)
 |exit h=>exact fun hQ=>.exit (hQ _ _ _ h)
 |ret h=>exact fun hQ=>.ret (hQ _ _ _ h)
 |rfun g a b hf h=>exact fun hQ=>.rfun g a b hf (hC _ _ _ _ _ h fun v σ ⟨st,pend,h1,h2,h3,h4⟩=>⟨st,pend,h1,h2,h3,hQ _ _ _ h4⟩)
end
theorem CallW.mono {T:Nat->Option CFun}:∀(d:Deep),LeC (CallW T d) (CallW T d)
 |.zero,f,args,σ,Q,Q',h,_=>h.elim
 |.lim g,f,args,σ,Q,Q',h,hQ=>let ⟨i,h⟩:=h;⟨i,CallW.mono (g i) f args σ Q Q' h hQ⟩
 |.succ d,f,args,σ,Q,Q',h,hQ=>by
  have ih:=CallW.mono (T:=T) d
  cases f with
  |func f=>
   obtain⟨cf,h1,h2⟩:=h
   exact⟨cf,h1,h2.mono ih fun e fr σ ⟨k1,vs,k2,k3⟩=>⟨k1,vs,k2,hQ _ _ k3⟩⟩
  |yield c=>
   obtain⟨fr,ps,as,body,h1,h2,h3,h4⟩:=h
   exact⟨fr,ps,as,body,h1,h2,h3,h4.mono ih fun e fr σ ⟨k1,k2,k3⟩=>⟨k1,k2,k3.mono ih fun e fr σ ⟨k4,k5⟩=>⟨k4,hQ _ _ k5⟩⟩⟩
  |method _=>exact h.elim
  |methodOf _ _=>exact h.elim
  |via _ _ _ _=>exact h.elim
def CallA (T:Nat->Option CFun):CallQ:=fun f args σ Q=>∃d,CallW T d f args σ Q
theorem CallA.mono {T:Nat->Option CFun}:LeC (CallA T) (CallA T):=fun f args σ Q Q' ⟨d,h⟩ hQ=>⟨d,CallW.mono d f args σ Q Q' h hQ⟩
theorem CallA.sup (T:Nat->Option CFun):∃d,LeC (CallA T) (CallW T d):=by
 classical
 refine⟨.lim fun i=>if h:CallA T i.1 i.2.1 i.2.2.1 i.2.2.2 then Classical.choose h else .zero,fun f args σ Q Q' h hQ=>⟨(f,args,σ,Q),?_⟩⟩
 show CallW T (if h:CallA T f args σ Q then Classical.choose h else .zero) f args σ Q'
 rw[dif_pos h]
 exact CallW.mono _ f args σ Q Q' (Classical.choose_spec h) hQ
theorem CallA.func {T:Nat->Option CFun}{f:Nat}{cf:CFun}{args:List Value}{σ:CW}{Q:Value->CW->Prop}(hf:T f=some cf)
  (h:CodeW (CallA T) cf.body (initFr args) σ fun e fr σ'=>(e=.normal\/e=.ret)/\∃vs,resL fr σ' cf.res=some vs/\Q (resV vs) σ'):CallA T (.func f) args σ Q:=by
 obtain⟨d,hd⟩:=CallA.sup T
 exact⟨.succ d,cf,hf,h.mono hd fun _ _ _ h=>h⟩
theorem CallA.sim {P:Program}(hP:ProgOk P){T:Nat->Option CFun}(hT:OkT P T):SimC P (CallA T) where
 func:=fun⟨d,h⟩=>(sim_calls_all hP hT d).func h
 yield:=fun⟨d,h⟩=>(sim_calls_all hP hT d).yield h
 other:=fun⟨d,h⟩=>(sim_calls_all hP hT d).other h
end Go.Cn
namespace Go.Cn
set_option linter.unusedSimpArgs false
set_option linter.unusedVariables false
inductive Tag where
 |no
 |nil
 |own (c cur rel p cap sz:Nat)
inductive AV where
 |any
 |bool (b:Bool)
 |int (k:IntKind)(n:Int)
 |str (s:List UInt8)
 |nilp
 |nilm
 |nilf
 |nili
 |lst (E:TypeId)(es:List (List AV))(t:Tag)
 |agg (cs:List AV)
 |rptr (cs:List AV)
 |ptr (b off:Nat)
 |slice (b off len cap:Nat)
 |map (b:Nat)
 |fmap (es:List (AV×AV))
 |func (f:Nat)(a b:List AV)
 |yield (c:Nat)
 |iface (t:TypeId)(v:AV)
 |tuple (l:List AV)
def big:Nat:=2 ^ 47
def keyV:AV->Option Value
 |.str s=>some (.string ⟨⟨s⟩⟩)
 |.int k n=>some (.int k n)
 |_=>none
inductive Rp (F:Nat->Nat)(σ:CW):AV->Value->Prop where
 |any (v:Value):Rp F σ .any v
 |bool (b:Bool):Rp F σ (.bool b) (.bool b)
 |int (k:IntKind)(n:Int):Rp F σ (.int k n) (.int k n)
 |str (s:List UInt8):Rp F σ (.str s) (.string ⟨⟨s⟩⟩)
 |nilp:Rp F σ .nilp (.pointer none)
 |nilm:Rp F σ .nilm (.map none)
 |nilf:Rp F σ .nilf .nilFunc
 |nili:Rp F σ .nili .nilIface
 |lst0 (E:TypeId):Rp F σ (.lst E [] .nil) (.slice none 0 0)
 |lstN (E:TypeId):Rp F σ (.lst E [] .no) (.slice none 0 0)
 |lstE (E:TypeId)(b off cap:Nat):Rp F σ (.lst E [] .no) (.slice (some ⟨b,off,none⟩) 0 cap)
 |lstO (E:TypeId){c b rel p cp sz off cap:Nat}(hp:rel+off=p)(hc:p+cap*sz=cp):Rp F σ (.lst E [] (.own c b rel p cp sz)) (.slice (some ⟨b,off,none⟩) 0 cap)
 |lst {E:TypeId}{es:List (List AV)}{t:Tag}{b off cap sz:Nat}{c:List Value}{cl rel:Nat}(hb:σ.heap b=some (.cells c E cl rel))(h0:es≠[])(hz:0<sz)(hs:∀e∈es,e.length=sz)
   (hF:off+es.length*sz<=F b)(hc:off+es.length*sz<=c.length)(hl:es.length<=cap)(hB:es.length<=big)(ht:t=.no\/t=.own cl b rel (rel+off+es.length*sz) (rel+off+cap*sz) sz)
   (hv:∀(i:Nat)(x:AV)(y:Value),es.flatten[i]?=some x->c[off+i]?=some y->Rp F σ x y):Rp F σ (.lst E es t) (.slice (some ⟨b,off,none⟩) es.length cap)
 |agg {cs:List AV}{a:Array Value}(hl:cs.length=a.size)(h:∀(i:Nat)(x:AV)(y:Value),cs[i]?=some x->a[i]?=some y->Rp F σ x y):Rp F σ (.agg cs) (.agg a)
 |rptr {cs:List AV}{b off:Nat}{c:List Value}{E:TypeId}{cl rel:Nat}(hb:σ.heap b=some (.cells c E cl rel))(h0:cs≠[])(hF:off+cs.length<=F b)(hc:off+cs.length<=c.length)
   (hv:∀(i:Nat)(x:AV)(y:Value),cs[i]?=some x->c[off+i]?=some y->Rp F σ x y):Rp F σ (.rptr cs) (.pointer (some ⟨b,off,none⟩))
 |ptr (b off:Nat):Rp F σ (.ptr b off) (.pointer (some ⟨b,off,none⟩))
 |slice {b off len cap:Nat}(hl:len<=cap):Rp F σ (.slice b off len cap) (.slice (some ⟨b,off,none⟩) len cap)
 |map (b:Nat):Rp F σ (.map b) (.map (some b))
 |fmap0:Rp F σ (.fmap []) (.map none)
 |fmap {es:List (AV×AV)}{es':List (Value×Value)}{b ver:Nat}(hb:σ.heap b=some (.map es' ver))(hF:0<F b)(hl:es.length=es'.length)
   (hk:∀(i:Nat)(p:AV×AV)(q:Value×Value),es[i]?=some p->es'[i]?=some q->keyV p.1=some q.1)(hv:∀(i:Nat)(p:AV×AV)(q:Value×Value),es[i]?=some p->es'[i]?=some q->Rp F σ p.2 q.2):Rp F σ (.fmap es) (.map (some b))
 |func {f:Nat}{a b:List AV}{a' b':Array Value}(ha:a.length=a'.size)(hb:b.length=b'.size)(h:∀(i:Nat)(x:AV)(y:Value),a[i]?=some x->a'[i]?=some y->Rp F σ x y)
   (g:∀(i:Nat)(x:AV)(y:Value),b[i]?=some x->b'[i]?=some y->Rp F σ x y):Rp F σ (.func f a b) (.func (.func f) a' b')
 |yield (c:Nat):Rp F σ (.yield c) (.func (.yield c) #[] #[])
 |iface {t:TypeId}{v:AV}{v':Value}(h:Rp F σ v v'):Rp F σ (.iface t v) (.iface t v')
 |tuple {l:List AV}{a:Array Value}(hl:l.length=a.size)(h:∀(i:Nat)(x:AV)(y:Value),l[i]?=some x->a[i]?=some y->Rp F σ x y):Rp F σ (.tuple l) (.tuple a)
structure Ext (K:Nat->Prop)(F:Nat->Nat)(σ:CW)(F':Nat->Nat)(σ':CW):Prop where
 ro:σ'.ro=σ.ro
 inj:σ'.inj=σ.inj
 next:σ.next<=σ'.next
 up:∀b,F b<=F' b
 row:∀b c E cl rel,0<F b->σ.heap b=some (.cells c E cl rel)->∃c',σ'.heap b=some (.cells c' E cl rel)/\c'.length=c.length/\∀i:Nat,i<F b->c'[i]?=c[i]?
 map:∀b es v,0<F b->σ.heap b=some (.map es v)->σ'.heap b=some (.map es v)
 keep:∀b,K b->σ'.heap b=σ.heap b
theorem Ext.refl {K:Nat->Prop}{F:Nat->Nat}{σ:CW}:Ext K F σ F σ where
 ro:=rfl
 inj:=rfl
 next:=Nat.le_refl _
 up:=fun _=>Nat.le_refl _
 row:=fun b c E cl rel _ h=>⟨c,h,rfl,fun _ _=>rfl⟩
 map:=fun _ _ _ _ h=>h
 keep:=fun _ _=>rfl
theorem Ext.trans {K:Nat->Prop}{F F1 F2:Nat->Nat}{σ σ1 σ2:CW}(h:Ext K F σ F1 σ1)(g:Ext K F1 σ1 F2 σ2):Ext K F σ F2 σ2 where
 ro:=g.ro.trans h.ro
 inj:=g.inj.trans h.inj
 next:=Nat.le_trans h.next g.next
 up:=fun b=>Nat.le_trans (h.up b) (g.up b)
 row:=by
  intro b c E cl rel hb hc
  obtain⟨c1,h1,h2,h3⟩:=h.row b c E cl rel hb hc
  obtain⟨c2,g1,g2,g3⟩:=g.row b c1 E cl rel (Nat.lt_of_lt_of_le hb (h.up b)) h1
  exact⟨c2,g1,g2.trans h2,fun i hi=>(g3 i (Nat.lt_of_lt_of_le hi (h.up b))).trans (h3 i hi)⟩
 map:=fun b es v hb hc=>g.map b es v (Nat.lt_of_lt_of_le hb (h.up b)) (h.map b es v hb hc)
 keep:=fun b hb=>(g.keep b hb).trans (h.keep b hb)
theorem Ext.less {K K':Nat->Prop}{F F':Nat->Nat}{σ σ':CW}(h:Ext K F σ F' σ')(hK:∀b,K' b->K b):Ext K' F σ F' σ':=
 ⟨h.ro,h.inj,h.next,h.up,h.row,h.map,fun b hb=>h.keep b (hK b hb)⟩
theorem flatten_length {α:Type}:∀{es:List (List α)}{sz:Nat},(∀e∈es,e.length=sz)->es.flatten.length=es.length*sz
 |[],sz,_=>by simp
 |e::es,sz,h=>by
  have:=flatten_length (es:=es) (sz:=sz) fun x hx=>h x (by simp[hx])
  simp only[List.flatten_cons,List.length_append,List.length_cons,this,h e (by simp)]
  rw[Nat.add_mul];omega
theorem Rp.ext {K:Nat->Prop}{F F':Nat->Nat}{σ σ':CW}(hx:Ext K F σ F' σ'){a:AV}{v:Value}(h:Rp F σ a v):Rp F' σ' a v:=by
 induction h with
 |any v=>exact .any v
 |bool b=>exact .bool b
 |int k n=>exact .int k n
 |str s=>exact .str s
 |nilp=>exact .nilp
 |nilm=>exact .nilm
 |nilf=>exact .nilf
 |nili=>exact .nili
 |lst0 E=>exact .lst0 E
 |lstN E=>exact .lstN E
 |lstE E b off cap=>exact .lstE E b off cap
 |lstO E hp hc=>exact .lstO E hp hc
 |@lst E es t b off cap sz c cl rel hb h0 hz hs hF hc hl hB ht hv ih=>
  have hpos:0<es.length*sz:=Nat.mul_pos (List.length_pos_iff.2 h0) hz
  obtain⟨c',h1,h2,h3⟩:=hx.row b c E cl rel (by omega) hb
  refine .lst h1 h0 hz hs (Nat.le_trans hF (hx.up b)) (by omega) hl hB ht fun i x y hi hy=>?_
  have hil:i<es.length*sz:=by rw[<-flatten_length hs];exact (List.getElem?_eq_some_iff.1 hi).1
  rw[h3 _ (by omega)] at hy
  exact ih i x y hi hy
 |agg hl _ ih=>exact .agg hl ih
 |@rptr cs b off c E cl rel hb h0 hF hc hv ih=>
  have hpos:0<cs.length:=List.length_pos_iff.2 h0
  obtain⟨c',h1,h2,h3⟩:=hx.row b c E cl rel (by omega) hb
  refine .rptr h1 h0 (Nat.le_trans hF (hx.up b)) (by omega) fun i x y hi hy=>?_
  have hil:i<cs.length:=(List.getElem?_eq_some_iff.1 hi).1
  rw[h3 _ (by omega)] at hy
  exact ih i x y hi hy
 |ptr b off=>exact .ptr b off
 |slice hl=>exact .slice hl
 |map b=>exact .map b
 |fmap0=>exact .fmap0
 |fmap hb hF hl hk hv ih=>exact .fmap (hx.map _ _ _ hF hb) (Nat.lt_of_lt_of_le hF (hx.up _)) hl hk ih
 |func ha hb _ _ ih1 ih2=>exact .func ha hb ih1 ih2
 |yield c=>exact .yield c
 |iface _ ih=>exact .iface ih
 |tuple hl _ ih=>exact .tuple hl ih
def RpL (F:Nat->Nat)(σ:CW)(l:List AV)(l':List Value):Prop:=l.length=l'.length/\∀(i:Nat)(x:AV)(y:Value),l[i]?=some x->l'[i]?=some y->Rp F σ x y
section
variable {F F':Nat->Nat}{σ σ':CW}{K:Nat->Prop}
theorem RpL.ext (hx:Ext K F σ F' σ'){l:List AV}{l':List Value}(h:RpL F σ l l'):RpL F' σ' l l':=⟨h.1,fun i x y hi hy=>(h.2 i x y hi hy).ext hx⟩
theorem RpL.nil:RpL F σ [] []:=⟨rfl,fun i x y h=>by simp at h⟩
theorem RpL.cons {a:AV}{v:Value}{l:List AV}{l':List Value}(h:Rp F σ a v)(t:RpL F σ l l'):RpL F σ (a::l) (v::l'):=by
 refine⟨by simp[t.1],fun i x y hi hy=>?_⟩
 cases i with
 |zero=>simp at hi hy;subst hi hy;exact h
 |succ i=>simp at hi hy;exact t.2 i x y hi hy
theorem RpL.of_cons {a:AV}{v:Value}{l:List AV}{l':List Value}(h:RpL F σ (a::l) (v::l')):Rp F σ a v/\RpL F σ l l':=
 ⟨h.2 0 a v rfl rfl,by simpa using h.1,fun i x y hi hy=>h.2 (i+1) x y (by simpa using hi) (by simpa using hy)⟩
theorem RpL.left {l:List AV}{l':List Value}(h:RpL F σ l l'){i:Nat}{x:AV}(hi:l[i]?=some x):∃y,l'[i]?=some y/\Rp F σ x y:=by
 have hj:i<l'.length:=by rw[<-h.1];exact (List.getElem?_eq_some_iff.1 hi).1
 exact⟨l'[i],by simp[hj],h.2 i x _ hi (by simp[hj])⟩
theorem RpL.append {a b:List AV}{a' b':List Value}(h:RpL F σ a a')(g:RpL F σ b b'):RpL F σ (a++b) (a'++b'):=by
 refine⟨by simp[h.1,g.1],fun i x y hi hy=>?_⟩
 by_cases hj:i<a.length
 ·rw[List.getElem?_append_left hj] at hi
  rw[List.getElem?_append_left (h.1▸hj)] at hy
  exact h.2 i x y hi hy
 ·rw[List.getElem?_append_right (by omega)] at hi
  rw[List.getElem?_append_right (by have:=h.1;omega), <-h.1] at hy
  exact g.2 _ x y hi hy
theorem RpL.take {a:List AV}{a':List Value}(h:RpL F σ a a')(n:Nat):RpL F σ (a.take n) (a'.take n):=by
 refine⟨by simp[h.1],fun i x y hi hy=>?_⟩
 rw[List.getElem?_take] at hi hy
 split at hi
 ·rename_i hj;rw[if_pos hj] at hy;exact h.2 i x y hi hy
 ·simp at hi
theorem RpL.drop {a:List AV}{a':List Value}(h:RpL F σ a a')(n:Nat):RpL F σ (a.drop n) (a'.drop n):=by
 refine⟨by simp[h.1],fun i x y hi hy=>?_⟩
 rw[List.getElem?_drop] at hi hy
 exact h.2 _ x y hi hy
theorem RpL.map {α:Type}(f:α->AV)(g:α->Value)(l:List α)(h:∀a∈l,Rp F σ (f a) (g a)):RpL F σ (l.map f) (l.map g):=by
 induction l with
 |nil=>exact .nil
 |cons a l ih=>exact .cons (h a (by simp)) (ih fun b hb=>h b (by simp[hb]))
def cellsA:AV->List AV
 |.agg cs=>cs
 |v=>[v]
def oneA:AV->Bool
 |.agg _=>false
 |.tuple _=>false
 |.any=>false
 |_=>true
theorem Rp.one {a:AV}{v:Value}(h:Rp F σ a v)(ho:oneA a=true):oneCell v=true:=by
 cases h<;>first|rfl|cases ho
theorem Rp.cells {a:AV}{v:Value}(h:Rp F σ a v)(hn:a≠.any):RpL F σ (cellsA a) (cellsOf v):=by
 cases h
 case agg hl h=>exact⟨by simpa[cellsA,cellsOf,Value.cells] using hl,fun i x y hi hy=>h i x y hi (by simpa[cellsOf,Value.cells] using hy)⟩
 case any=>exact absurd rfl hn
 all_goals (refine .cons ?_ .nil;constructor<;>assumption)
inductive Wk:AV->AV->Prop where
 |refl (a:AV):Wk a a
 |any (a:AV):Wk a .any
 |tag (E:TypeId)(es:List (List AV))(t:Tag):Wk (.lst E es t) (.lst E es .no)
 |agg {cs ds:List AV}(hl:cs.length=ds.length)(h:∀(i:Nat)(x y:AV),cs[i]?=some x->ds[i]?=some y->Wk x y):Wk (.agg cs) (.agg ds)
 |tuple {cs ds:List AV}(hl:cs.length=ds.length)(h:∀(i:Nat)(x y:AV),cs[i]?=some x->ds[i]?=some y->Wk x y):Wk (.tuple cs) (.tuple ds)
 |iface {t:TypeId}{a b:AV}(h:Wk a b):Wk (.iface t a) (.iface t b)
 |rptr {cs ds:List AV}(hl:cs.length=ds.length)(h:∀(i:Nat)(x y:AV),cs[i]?=some x->ds[i]?=some y->Wk x y):Wk (.rptr cs) (.rptr ds)
 |lst {E:TypeId}{es ds:List (List AV)}{t:Tag}(hl:es.length=ds.length)(hs:∀(i:Nat)(x y:List AV),es[i]?=some x->ds[i]?=some y->x.length=y.length)
   (h:∀(i:Nat)(x y:AV),es.flatten[i]?=some x->ds.flatten[i]?=some y->Wk x y):Wk (.lst E es t) (.lst E ds t)
 |nilE (E E':TypeId):Wk (.lst E [] .nil) (.lst E' [] .nil)
 |noE (E E':TypeId):Wk (.lst E [] .no) (.lst E' [] .no)
 |trans {a b c:AV}(h:Wk a b)(g:Wk b c):Wk a c
theorem Rp.tag {E:TypeId}{es:List (List AV)}{t:Tag}{v:Value}(h:Rp F σ (.lst E es t) v):Rp F σ (.lst E es .no) v:=by
 cases h with
 |lst0=>exact .lstN E
 |lstN=>exact .lstN E
 |lstE=>exact .lstE E _ _ _
 |lstO=>exact .lstE E _ _ _
 |lst hb h0 hz hs hF hc hl hB ht hv=>exact .lst hb h0 hz hs hF hc hl hB (.inl rfl) hv
theorem Rp.weak {a b:AV}(hw:Wk a b):∀{v:Value},Rp F σ a v->Rp F σ b v:=by
 induction hw with
 |refl a=>exact fun h=>h
 |any a=>exact fun h=>.any _
 |tag E es t=>exact fun h=>h.tag
 |@agg cs ds hl _ ih=>
  intro v h
  cases h with
  |agg h1 h2=>
   refine .agg (by omega) fun i x y hi hy=>?_
   have:i<cs.length:=by rw[hl];exact (List.getElem?_eq_some_iff.1 hi).1
   exact ih i cs[i] x (by simp[this]) hi (h2 i _ y (by simp[this]) hy)
 |@tuple cs ds hl _ ih=>
  intro v h
  cases h with
  |tuple h1 h2=>
   refine .tuple (by omega) fun i x y hi hy=>?_
   have:i<cs.length:=by rw[hl];exact (List.getElem?_eq_some_iff.1 hi).1
   exact ih i cs[i] x (by simp[this]) hi (h2 i _ y (by simp[this]) hy)
 |iface _ ih=>
  intro v h
  cases h with
  |iface h=>exact .iface (ih h)
 |@rptr cs ds hl _ ih=>
  intro v h
  cases h with
  |rptr hb h0 hF hc hv=>
   refine .rptr hb (by intro e;subst e;rw[List.length_nil] at hl;exact h0 (List.length_eq_zero_iff.1 hl)) (by omega) (by omega) fun i x y hi hy=>?_
   have:i<cs.length:=by rw[hl];exact (List.getElem?_eq_some_iff.1 hi).1
   exact ih i cs[i] x (by simp[this]) hi (hv i _ y (by simp[this]) hy)
 |@lst E es ds t hl hs' _ ih=>
  intro v h
  have hnil:ds=[]->es=[]:=fun e=>by subst e;exact List.length_eq_zero_iff.1 hl
  have hnil':es=[]->ds=[]:=fun e=>by subst e;exact List.length_eq_zero_iff.1 hl.symm
  cases h with
  |lst0=>rw[hnil' rfl];exact .lst0 E
  |lstN=>rw[hnil' rfl];exact .lstN E
  |lstE=>rw[hnil' rfl];exact .lstE E _ _ _
  |lstO _ hp hc=>rw[hnil' rfl];exact .lstO E hp hc
  |@lst _ _ _ b off cap sz c cl rel hb h0 hz hs hF hc hl' hB ht hv=>
   rw[hl] at hF hc hl' hB ht ⊢
   have hsd:∀e∈ds,e.length=sz:=by
    intro e he
    obtain⟨i,hi⟩:=List.getElem?_of_mem he
    have hil:i<es.length:=by rw[hl];exact (List.getElem?_eq_some_iff.1 hi).1
    rw[<-hs' i es[i] e (by simp[hil]) hi]
    exact hs _ (List.getElem_mem hil)
   refine .lst hb (fun e=>h0 (hnil e)) hz hsd hF hc hl' hB ht fun i x y hi hy=>?_
   have e1:=flatten_length hs
   have e2:=flatten_length hsd
   have:i<es.flatten.length:=by rw[e1,hl, <-e2];exact (List.getElem?_eq_some_iff.1 hi).1
   exact ih i es.flatten[i] x (by simp[this]) hi (hv i _ y (by simp[this]) hy)
 |nilE E E'=>
  intro v h
  cases h with
  |lst0=>exact .lst0 _
  |lst _ h0 _ _ _ _ _ _ _ _=>exact absurd rfl h0
 |noE E E'=>
  intro v h
  cases h with
  |lstN=>exact .lstN _
  |lstE=>exact .lstE _ _ _ _
  |lst _ h0 _ _ _ _ _ _ _ _=>exact absurd rfl h0
 |trans _ _ ih1 ih2=>exact fun h=>ih2 (ih1 h)
end
end Go.Cn
namespace Go.Cn
set_option linter.unusedVariables false
set_option linter.unusedSimpArgs false
abbrev AFr:=Nat->AV
inductive AO where
 |cells (cs:List AV)(E:TypeId)
 |stat (cs:List AV)(E:TypeId)
 |map (es:List (AV×AV))
 |iter (todo:List (AV×AV))(cur:Option (AV×AV))
 |loop (st:LoopState)(fr:AFr)(frC:Fr)(ps:List Tmp)(as body:CCode)(pend:Option CExit)
structure Tok where
 cur:Nat
 rel:Nat
 p:Nat
 cp:Nat
 sz:Nat
 E:TypeId
structure AH where
 objs:Nat->Option AO
 toks:Nat->Option Tok
def AH.set (h:AH)(b:Nat)(o:AO):AH:={h with objs:=upd h.objs b (some o)}
def AH.del (h:AH)(b:Nat):AH:={h with objs:=upd h.objs b none}
def AH.setT (h:AH)(c:Nat)(k:Tok):AH:={h with toks:=upd h.toks c (some k)}
@[simp] theorem AH.set_toks (h:AH)(b:Nat)(o:AO):(h.set b o).toks=h.toks:=rfl
@[simp] theorem AH.del_toks (h:AH)(b:Nat):(h.del b).toks=h.toks:=rfl
@[simp] theorem AH.setT_objs (h:AH)(c:Nat)(k:Tok):(h.setT c k).objs=h.objs:=rfl
theorem AH.set_objs (h:AH)(b:Nat)(o:AO)(n:Nat):(h.set b o).objs n=if n=b then some o else h.objs n:=rfl
theorem AH.del_objs (h:AH)(b n:Nat):(h.del b).objs n=if n=b then none else h.objs n:=rfl
theorem AH.setT_toks (h:AH)(c:Nat)(k:Tok)(n:Nat):(h.setT c k).toks n=if n=c then some k else h.toks n:=rfl
@[simp] theorem AH.set_same (h:AH)(b:Nat)(o:AO):(h.set b o).objs b=some o:=by simp[AH.set_objs]
theorem AH.set_ne (h:AH){b n:Nat}(o:AO)(hn:n≠b):(h.set b o).objs n=h.objs n:=by rw[AH.set_objs,if_neg hn]
@[simp] theorem AH.set_set (h:AH)(b:Nat)(o o':AO):(h.set b o).set b o'=h.set b o':=by
 unfold AH.set
 congr 1
 funext n;simp only[upd];split<;>rfl
theorem AH.set_del (h:AH){b:Nat}(o:AO)(hb:h.objs b=none):(h.set b o).del b=h:=by
 obtain⟨objs,toks⟩:=h
 unfold AH.set AH.del
 congr 1
 funext n;simp only[upd]
 split
 ·rename_i e;rw[e];exact hb.symm
 ·rfl
def EntR (F:Nat->Nat)(σ:CW)(es:List (AV×AV))(es':List (Value×Value)):Prop:=
 es.length=es'.length/\∀(i:Nat)(p:AV×AV)(q:Value×Value),es[i]?=some p->es'[i]?=some q->keyV p.1=some q.1/\Rp F σ p.2 q.2
theorem EntR.ext {K:Nat->Prop}{F F':Nat->Nat}{σ σ':CW}(hx:Ext K F σ F' σ'){es:List (AV×AV)}{es':List (Value×Value)}(h:EntR F σ es es'):EntR F' σ' es es':=
 ⟨h.1,fun i p q hp hq=>⟨(h.2 i p q hp hq).1,(h.2 i p q hp hq).2.ext hx⟩⟩
def KeysIt (es:List (Value×Value)):Prop:=(∀e∈es,keyEq e.1 e.1=some true)/\es.Pairwise fun a b=>keyEq a.1 b.1=some false
def AOk (F:Nat->Nat)(σ:CW)(b:Nat):AO->Prop
 |.cells cs E=>F b=0/\σ.ro<=b/\∃c cl rel,σ.heap b=some (.cells c E cl rel)/\RpL F σ cs c/\∃e l,σ.members cl=(b,e)::l/\∀m∈l,F m.1=0
 |.stat cs E=>b<σ.ro/\b<σ.inj/\∃c cl rel,σ.heap b=some (.cells c E cl rel)/\F b=c.length/\0<c.length/\RpL F σ cs c
 |.map es=>F b=0/\σ.ro<=b/\∃es' ver,σ.heap b=some (.map es' ver)/\EntR F σ es es'
 |.iter todo cur=>F b=0/\σ.ro<=b/\((∃ver seen,σ.heap b=some (.iter none ver seen)/\todo=[]/\cur=none)\/
   ∃m ver seen es',σ.heap b=some (.iter (some m) ver seen)/\σ.heap m=some (.map es' ver)/\0<F m/\KeysIt es'/\EntR F σ todo (leftL seen es')/\
    ∀k x,cur=some (k,x)->∃k' l x',seen=k'::l/\keyV k=some k'/\look k' es'=some (some x')/\Rp F σ x x')
 |.loop st fr frC ps as body pend=>F b=0/\σ.ro<=b/\σ.heap b=some (.loop st frC ps as body pend)/\∀t,Rp F σ (fr t) (frC t)
structure TokOk (F:Nat->Nat)(σ:CW)(c:Nat)(k:Tok):Prop where
 ro:σ.ro<=k.cur
 row:∃cc,σ.heap k.cur=some (.cells cc k.E c k.rel)/\k.rel+cc.length=k.cp
 fro:k.rel+F k.cur<=k.p
 le:k.p<=k.cp
 others:∀b cc E rel,b≠k.cur->0<F b->σ.heap b=some (.cells cc E c rel)->rel+cc.length<=k.p
def MInv (σ:CW):Prop:=∀cl m,m∈σ.members cl->(∃c E rel,σ.heap m.1=some (.cells c E cl rel)/\m.2=rel+c.length)\/σ.heap m.1=some .dead\/
 (σ.cls cl=none/\m.1=cl/\∃c E cl' rel,σ.heap cl=some (.cells c E cl' rel)/\cl'≠cl)
structure AR (F:Nat->Nat)(h:AH)(σ:CW):Prop where
 inv:CInv σ
 mem:MInv σ
 fro:∀b,0<F b->∃o,σ.heap b=some o/\((∃c E cl rel,o=.cells c E cl rel/\F b<=c.length)\/∃es v,o=.map es v)
 obj:∀b o,h.objs b=some o->AOk F σ b o
 tok:∀c k,h.toks c=some k->TokOk F σ c k
 sep:∀b o,h.objs b=some o->h.toks b=none
 own:∀b cs E,h.objs b=some (.cells cs E)->∀c E' cl rel,σ.heap b=some (.cells c E' cl rel)->h.toks cl=none
theorem AOk.heap {F:Nat->Nat}{σ:CW}{b:Nat}{o:AO}(h:AOk F σ b o):∃x,σ.heap b=some x:=by
 cases o with
 |cells cs E=>obtain⟨_,_,c,_,_,h,_⟩:=h;exact⟨_,h⟩
 |stat cs E=>obtain⟨_,_,c,cl,rel,h,_⟩:=h;exact⟨_,h⟩
 |map es=>obtain⟨_,_,es',v,h,_⟩:=h;exact⟨_,h⟩
 |iter todo cur=>obtain⟨_,_,⟨_,_,h,_⟩|⟨_,_,_,_,h,_⟩⟩:=h<;>exact⟨_,h⟩
 |loop st fr frC ps as body pend=>obtain⟨_,_,h,_⟩:=h;exact⟨_,h⟩
theorem heap_next {σ:CW}(hi:CInv σ){b:Nat}{o:CObj}(h:σ.heap b=some o):b<σ.next:=by
 rcases Nat.lt_or_ge b σ.next with h1|h1
 ·exact h1
 ·rw[hi.fresh b h1] at h;cases h
theorem AR.lt {F:Nat->Nat}{h:AH}{σ:CW}(hA:AR F h σ){b:Nat}{o:AO}(hb:h.objs b=some o):b<σ.next:=by
 obtain⟨x,hx⟩:=(hA.obj b o hb).heap
 exact heap_next hA.inv hx
theorem AR.flt {F:Nat->Nat}{h:AH}{σ:CW}(hA:AR F h σ){b:Nat}(hb:0<F b):b<σ.next:=by
 obtain⟨x,hx,_⟩:=hA.fro b hb
 exact heap_next hA.inv hx
theorem AR.fnext {F:Nat->Nat}{h:AH}{σ:CW}(hA:AR F h σ):F σ.next=0:=by
 rcases Nat.eq_zero_or_pos (F σ.next) with h1|h1
 ·exact h1
 ·have:=hA.flt h1;omega
theorem AR.onext {F:Nat->Nat}{h:AH}{σ:CW}(hA:AR F h σ):h.objs σ.next=none:=by
 cases e:h.objs σ.next with
 |none=>rfl
 |some o=>have:=hA.lt e;omega
theorem AR.tlt {F:Nat->Nat}{h:AH}{σ:CW}(hA:AR F h σ){c:Nat}{k:Tok}(hc:h.toks c=some k):c<σ.next/\k.cur<σ.next:=by
 obtain⟨cc,h1,_⟩:=(hA.tok c k hc).row
 exact⟨(hA.inv.mem _ _ _ _ _ h1).2,heap_next hA.inv h1⟩
theorem AR.tnext {F:Nat->Nat}{h:AH}{σ:CW}(hA:AR F h σ):h.toks σ.next=none:=by
 cases e:h.toks σ.next with
 |none=>rfl
 |some o=>have:=(hA.tlt e).1;omega
def AH.le (h0 h:AH):Prop:=(∀b o,h0.objs b=some o->h.objs b=some o)/\∀c k,h0.toks c=some k->h.toks c=some k
theorem AH.le_refl (h:AH):h.le h:=⟨fun _ _ h=>h,fun _ _ h=>h⟩
theorem AH.le_trans {a b c:AH}(h:a.le b)(g:b.le c):a.le c:=⟨fun n o e=>g.1 n o (h.1 n o e),fun n o e=>g.2 n o (h.2 n o e)⟩
theorem AR.drop {F:Nat->Nat}{h0 h:AH}{σ:CW}(hA:AR F h σ)(hl:h0.le h):AR F h0 σ:=by
 have key:∀n,h.toks n=none->h0.toks n=none:=by
  intro n hn
  cases e:h0.toks n with
  |none=>rfl
  |some k=>rw[hl.2 n k e] at hn;cases hn
 exact⟨hA.inv,hA.mem,hA.fro,fun b o hb=>hA.obj b o (hl.1 b o hb),fun c k hc=>hA.tok c k (hl.2 c k hc),fun b o hb=>key _ (hA.sep b o (hl.1 b o hb)),fun b cs E hb c E' cl rel hc=>key _ (hA.own b cs E (hl.1 b _ hb) c E' cl rel hc)⟩
def ofC1:Value->AV
 |.bool b=>.bool b
 |.int k n=>.int k n
 |.string s=>.str s.data.toList
 |.pointer none=>.nilp
 |.slice none 0 0=>.lst 0 [] .nil
 |.map none=>.nilm
 |.nilFunc=>.nilf
 |.nilIface=>.nili
 |_=>.any
def ofC:Value->AV
 |.agg cs=>.agg (cs.toList.map ofC1)
 |.tuple cs=>.tuple (cs.toList.map ofC1)
 |v=>ofC1 v
theorem ofC1_rp (F:Nat->Nat)(σ:CW)(v:Value):Rp F σ (ofC1 v) v:=by
 unfold ofC1
 split<;>constructor
theorem ofC_rp (F:Nat->Nat)(σ:CW)(v:Value):Rp F σ (ofC v) v:=by
 unfold ofC
 split
 ·refine .agg (by simp) fun i x y hx hy=>?_
  simp only[List.getElem?_map,Array.getElem?_toList,hy,Option.map_some,Option.some.injEq] at hx
  subst hx;exact ofC1_rp F σ y
 ·refine .tuple (by simp) fun i x y hx hy=>?_
  simp only[List.getElem?_map,Array.getElem?_toList,hy,Option.map_some,Option.some.injEq] at hx
  subst hx;exact ofC1_rp F σ y
 ·exact ofC1_rp F σ v
def evA (fr:AFr):Operand->AV
 |.tmp t=>fr t
 |.const v=>ofC v
 |.global g=>.ptr g 0
 |.func f=>.func f [] []
theorem evA_rp {F:Nat->Nat}{σ:CW}{fr:AFr}{frC:Fr}(h:∀t,Rp F σ (fr t) (frC t))(x:Operand):Rp F σ (evA fr x) (ev frC x):=by
 cases x with
 |tmp t=>exact h t
 |const v=>exact ofC_rp F σ v
 |global g=>exact .ptr g 0
 |func f=>exact .func rfl rfl (fun i x y h=>by simp at h) (fun i x y h=>by simp at h)
def binI (op:BinOp)(k:IntKind)(a b:Int):Option AV:=
 match op with
 |.add=>some (.int k (k.wrap (a+b)))
 |.sub=>some (.int k (k.wrap (a-b)))
 |.mul=>some (.int k (k.wrap (a*b)))
 |.quo=>if b=0 then none else some (.int k (k.wrap (a.tdiv b)))
 |.rem=>if b=0 then none else some (.int k (a.tmod b))
 |.eql=>some (.bool (decide (a=b)))
 |.neq=>some (.bool (!decide (a=b)))
 |.lss=>some (.bool (decide (a<b)))
 |.leq=>some (.bool (decide (a<=b)))
 |.gtr=>some (.bool (decide (b<a)))
 |.geq=>some (.bool (decide (b<=a)))
 |_=>none
def ltS:List UInt8->List UInt8->Bool:=Op.bytesLess
def binS (op:BinOp)(a b:List UInt8):Option AV:=
 match op with
 |.add=>if a.length+b.length<2 ^ 62 then some (.str (a++b)) else none
 |.eql=>some (.bool (decide (a=b)))
 |.neq=>some (.bool (!decide (a=b)))
 |.lss=>some (.bool (ltS a b))
 |.leq=>some (.bool (ltS a b || decide (a=b)))
 |.gtr=>some (.bool (!(ltS a b || decide (a=b))))
 |.geq=>some (.bool (!ltS a b))
 |_=>none
def binA (op:BinOp):AV->AV->Option AV
 |.int j a,.int k b=>if j=k then binI op j a b else none
 |.str a,.str b=>binS op a b
 |_,_=>none
def isNilA (c:Value):AV->Option Bool
 |.nilp=>match c with|.pointer none=>some true|_=>none
 |.ptr _ _=>match c with|.pointer none=>some false|_=>none
 |.rptr _=>match c with|.pointer none=>some false|_=>none
 |.lst _ [] .nil=>match c with|.slice none _ _=>some true|_=>none
 |.lst _ [] (.own _ _ _ _ _ _)=>match c with|.slice none _ _=>some false|_=>none
 |.lst _ (_::_) _=>match c with|.slice none _ _=>some false|_=>none
 |.slice _ _ _ _=>match c with|.slice none _ _=>some false|_=>none
 |.nilm=>match c with|.map none=>some true|_=>none
 |.map _=>match c with|.map none=>some false|_=>none
 |.fmap (_::_)=>match c with|.map none=>some false|_=>none
 |.nilf=>match c with|.nilFunc=>some true|_=>none
 |.func _ _ _=>match c with|.nilFunc=>some false|_=>none
 |.yield _=>match c with|.nilFunc=>some false|_=>none
 |.nili=>match c with|.nilIface=>some true|_=>none
 |.iface _ _=>match c with|.nilIface=>some false|_=>none
 |_=>none
def byteA:AV->Option UInt8
 |.int .u8 n=>some (UInt8.ofNat n.toNat)
 |_=>none
def bytesA:List AV->Option (List UInt8)
 |[]=>some []
 |a::l=>match byteA a,bytesA l with
  |some b,some r=>some (b::r)
  |_,_=>none
def bndA (d y:Nat):Option AV->Option Nat
 |none=>some d
 |some (.int _ i)=>if 0<=i/\i<=y then some i.toNat else none
 |some _=>none
def keyEqA:AV->AV->Option Bool
 |.str a,.str b=>some (decide (a=b))
 |.int j a,.int k b=>if j=k then some (decide (a=b)) else none
 |_,_=>none
def lookA (k:AV):List (AV×AV)->Option (Option AV)
 |[]=>some none
 |(k',v)::l=>match keyEqA k k' with
  |some true=>some (some v)
  |some false=>lookA k l
  |none=>none
def isKeyA (str:Bool):AV->Bool
 |.str _=>str
 |.int _ _=> !str
 |_=>false
def entA (h:AH):AV->Option (List (AV×AV))
 |.nilm=>some []
 |.fmap es=>some es
 |.map b=>match h.objs b with
  |some (.map es)=>some es
  |_=>none
 |_=>none
def cellAt (h:AH)(b:Nat):Option (List AV):=
 match h.objs b with
 |some (.cells cs _)=>some cs
 |some (.stat cs _)=>some cs
 |_=>none
def elemAt (h:AH)(b:Nat):Option TypeId:=
 match h.objs b with
 |some (.cells _ E)=>some E
 |some (.stat _ E)=>some E
 |_=>none
def takeA (l:List AV)(i n:Nat):Option (List AV):=if i+n<=l.length then some ((l.drop i).take n) else none
def putA (l:List AV)(i:Nat)(vs:List AV):Option (List AV):=if i+vs.length<=l.length then some (l.take i++vs++l.drop (i+vs.length)) else none
def isAny:AV->Bool
 |.any=>true
 |_=>false
def fillA (cells:List AV):List (Nat×Nat×AV)->Option (List AV)
 |[]=>some cells
 |(off,size,v)::rest=>if isAny v=false/\(cellsA v).length=size then match putA cells off (cellsA v) with
   |some cells'=>fillA cells' rest
   |none=>none
  else none
def apartA (h:AH)(u8:List TypeId)(a b:Nat):Bool:=
 match h.objs a,h.objs b with
 |some (.cells _ E),some (.cells _ E')=> !u8.contains E&& !u8.contains E'
 |some (.stat _ _),some (.stat _ _)=>true
 |_,_=>false
def isPtrA:AV->Bool
 |.ptr _ _=>true
 |.rptr _=>true
 |_=>false
def eqIA (h:AH)(ok u8:List TypeId):AV->AV->Option Bool
 |.nili,.iface _ _=>some false
 |.iface _ _,.nili=>some false
 |.iface t v,.iface u w=>if t=u then match v,w with
   |.ptr a x,.ptr b y=>if ok.contains t=true then (if a=b then some (decide (x=y)) else if apartA h u8 a b=true/\x=0/\y=0 then some false else none) else none
   |_,_=>none
  else if isPtrA v&&isPtrA w then some false else none
 |_,_=>none
def pevA (o:POp)(ρ:Operand->AV)(h:AH):Option AV:=
 match o with
 |.mov x=>some (ρ x)
 |.pick c a b=>match ρ c with
  |.bool t=>some (if t then ρ a else ρ b)
  |_=>none
 |.nilck x=>match ρ x with
  |.rptr cs=>some (.rptr cs)
  |.ptr b o=>some (.ptr b o)
  |.func f a b=>some (.func f a b)
  |.iface t v=>some (.iface t v)
  |_=>none
 |.bin op x y=>binA op (ρ x) (ρ y)
 |.beq neg x y=>match ρ x,ρ y with
  |.bool a,.bool b=>some (.bool (if neg then !(a==b) else a==b))
  |_,_=>none
 |.isnil neg c x=>match isNilA c (ρ x) with
  |some b=>some (.bool (if neg then !b else b))
  |none=>none
 |.un op x=>match op,ρ x with
  |.not,.bool b=>some (.bool !b)
  |.neg,.int k n=>some (.int k (k.wrap (0-n)))
  |_,_=>none
 |.i2i k x=>match ρ x with
  |.int _ n=>some (.int k (k.wrap n))
  |_=>none
 |.i2s x=>match ρ x with
  |.int _ n=>some (.str (Utf8.encode n).data.toList)
  |_=>none
 |.s2s x=>match ρ x with
  |.str s=>some (.str s)
  |_=>none
 |.b2s x=>match ρ x with
  |.lst _ [] .nil=>some (.str [])
  |.lst _ (e::es) _=>match bytesA (e::es).flatten with
   |some l=>if (e::es).flatten.length=es.length+1 then some (.str l) else none
   |none=>none
  |.slice b off n _=>match cellAt h b with
   |some cs=>match takeA cs off n with
    |some l=>match bytesA l with
     |some r=>some (.str r)
     |none=>none
    |none=>none
   |none=>none
  |_=>none
 |.mkif t x=>some (.iface t (ρ x))
 |.mkfn f first captured=>some (.func f (first.map ρ) (captured.map ρ))
 |.slS x lo hi=>match ρ x with
  |.str s=>match bndA s.length s.length (hi.map ρ) with
   |some h=>match bndA 0 h (lo.map ρ) with
    |some l=>some (.str ((s.drop l).take (h-l)))
    |none=>none
   |none=>none
  |_=>none
 |.slV elem sz x lo hi mx=>match mx with
  |some _=>none
  |none=>match ρ x with
   |.lst E [] .nil=>match bndA 0 0 (hi.map ρ) with
    |some hh=>match bndA 0 hh (lo.map ρ) with
     |some l=>some (.lst E [] .nil)
     |none=>none
    |none=>none
   |.lst E (e::es) t=>if E=elem/\(∀x∈e::es,x.length=sz) then match bndA (es.length+1) (es.length+1) (hi.map ρ) with
     |some hh=>match bndA 0 hh (lo.map ρ) with
      |some l=>some (.lst E (((e::es).drop l).take (hh-l)) (if hh=es.length+1 then t else .no))
      |none=>none
     |none=>none
    else none
   |.slice b off len cap=>if elemAt h b=some elem then match bndA len cap (hi.map ρ) with
     |some hh=>match bndA 0 hh (lo.map ρ) with
      |some l=>some (.slice b (off+l*sz) (hh-l) (cap-l))
      |none=>none
     |none=>none
    else none
   |_=>none
 |.fa off x=>match ρ x with
  |.rptr cs=>if off<cs.length then some (.rptr (cs.drop off)) else none
  |.ptr b o=>some (.ptr b (o+off))
  |_=>none
 |.fld off n agg x=>match ρ x with
  |.agg cs=>if agg then match takeA cs off n with
    |some l=>some (.agg l)
    |none=>none
   else cs[off]?
  |_=>none
 |.ia sz x i=>match ρ x,ρ i with
  |.lst _ es _,.int _ n=>if 0<=n then match es[n.toNat]? with
    |some e=>if e.length=sz/\e≠[] then some (.rptr e) else none
    |none=>none
   else none
  |.slice b off len _,.int _ n=>if 0<=n/\n<len then some (.ptr b (off+n.toNat*sz)) else none
  |_,_=>none
 |.ixS x i=>match ρ x,ρ i with
  |.str s,.int _ n=>if 0<=n then match s[n.toNat]? with
   |some b=>some (.int .u8 b.toNat)
   |none=>none
   else none
  |_,_=>none
 |.lookup str zero ok m k=>match entA h (ρ m) with
  |some es=>if isKeyA str (ρ k) then match lookA (ρ k) es with
    |some (some v)=>some (if ok then .tuple [v,.bool true] else v)
    |some none=>some (if ok then .tuple [ofC zero,.bool false] else ofC zero)
    |none=>none
   else none
  |none=>none
 |.ta t zero ok x=>match ρ x with
  |.iface u v=>if u=t then some (if ok then .tuple [v,.bool true] else v)
   else if ok then some (.tuple [ofC zero,.bool false]) else none
  |.nili=>if ok then some (.tuple [ofC zero,.bool false]) else none
  |_=>none
 |.ext x i=>match ρ x with
  |.tuple vs=>vs[i]?
  |_=>none
 |.lenS x=>match ρ x with
  |.str s=>some (.int .i64 s.length)
  |_=>none
 |.lenV x=>match ρ x with
  |.lst _ es _=>some (.int .i64 es.length)
  |.slice _ _ n _=>some (.int .i64 n)
  |_=>none
 |.lenM x=>match entA h (ρ x) with
  |some es=>some (.int .i64 es.length)
  |none=>none
 |.ld1 x=>match ρ x with
  |.rptr cs=>cs[0]?
  |.ptr b o=>match cellAt h b with
   |some cs=>cs[o]?
   |none=>none
  |_=>none
 |.ldN n x=>match ρ x with
  |.rptr cs=>match takeA cs 0 n with
   |some l=>some (.agg l)
   |none=>none
  |.ptr b o=>match cellAt h b with
   |some cs=>match takeA cs o n with
    |some l=>some (.agg l)
    |none=>none
   |none=>none
  |_=>none
 |.build zero parts=>match fillA (zero.map ofC1) (parts.map fun (o,s,x)=>(o,s,ρ x)) with
  |some l=>some (.agg l)
  |none=>none
 |.mm max x y=>match ρ x,ρ y with
  |.int k a,.int _ b=>some (.int k (if max then (if b > a then b else a) else (if b<a then b else a)))
  |_,_=>none
 |.cmp x y=>match ρ x,ρ y with
  |.str a,.str b=>some (.int .i64 (Extern.BytealgCompare.cmp ⟨⟨a⟩⟩ ⟨⟨b⟩⟩))
  |_,_=>none
 |.eqI neg ok u8 x y=>match eqIA h ok u8 (ρ x) (ρ y) with
  |some b=>some (.bool (if neg then !b else b))
  |none=>none
 |.capV x=>match ρ x with
  |.lst _ [] .nil=>some (.int .i64 0)
  |_=>none
 |.entry x=>match ρ x with
  |.ptr b 0=>match h.objs b with
   |some (.iter _ (some (k,v)))=>some (.tuple [k,v])
   |_=>none
  |_=>none
end Go.Cn
namespace Go.Cn
set_option linter.unusedVariables false
set_option linter.unusedSimpArgs false
section
variable {F:Nat->Nat}{h:AH}{σ:CW}
theorem Rp.int_inv {k:IntKind}{n:Int}{v:Value}(h:Rp F σ (.int k n) v):v=.int k n:=by cases h;rfl
theorem Rp.bool_inv {b:Bool}{v:Value}(h:Rp F σ (.bool b) v):v=.bool b:=by cases h;rfl
theorem Rp.str_inv {s:List UInt8}{v:Value}(h:Rp F σ (.str s) v):v=.string ⟨⟨s⟩⟩:=by cases h;rfl
theorem binA_rp {op:BinOp}{a b r:AV}{x y:Value}(h:binA op a b=some r)(ha:Rp F σ a x)(hb:Rp F σ b y):∃v,cbin op x y=some v/\Rp F σ r v:=by
 unfold binA at h
 split at h
 ·rename_i j m k n
  cases ha.int_inv
  cases hb.int_inv
  split at h
  ·rename_i e
   subst e
   unfold binI at h
   split at h<;>(try (cases h;done))
   case h_4=>
    split at h
    ·cases h
    ·rename_i hn
     cases h
     exact⟨_,by simp[cbin,binOp,Op.intDiv,hn,pureOf];rfl,.int _ _⟩
   case h_5=>
    split at h
    ·cases h
    ·rename_i hn
     cases h
     exact⟨_,by simp[cbin,binOp,Op.intDiv,hn,pureOf];rfl,.int _ _⟩
   all_goals cases h
   all_goals first
    |exact⟨_,by simp[cbin,binOp,Op.intArith,pureOf];rfl,.int _ _⟩
    |refine⟨.bool _,?_,.bool _⟩
   all_goals simp only[cbin,binOp,Op.intCmp,ne_eq,not_true_eq_false,if_false]
   all_goals first|rfl|(show some (Value.bool _)=some (Value.bool _);congr 2;first|rfl|(rw[Bool.eq_iff_iff];simp[bne]))
  ·cases h
 ·rename_i s t
  cases ha.str_inv
  cases hb.str_inv
  have el:∀l:List UInt8,(⟨⟨l⟩⟩ : ByteArray).toList=l:=fun l=>by simp
  have hbeq:∀s t:List UInt8,(s==t)=decide (s=t):=fun s t=>by rw[Bool.eq_iff_iff];simp
  unfold binS at h
  split at h<;>(try (cases h;done))
  case h_1=>
   split at h
   ·rename_i hlt
    cases h
    refine⟨.string ⟨⟨s++t⟩⟩,?_,.str _⟩
    have hsz:∀l:List UInt8,(⟨⟨l⟩⟩ : ByteArray).size=l.length:=fun l=>rfl
    have hn:¬(((⟨⟨s⟩⟩ : ByteArray).size+(⟨⟨t⟩⟩ : ByteArray).size:Nat):Int) > IntKind.i64.max:=by
     rw[hsz,hsz]
     have:IntKind.i64.max=9223372036854775807:=by decide
     rw[this]
     have:(2:Nat) ^ 62=4611686018427387904:=by decide
     omega
    simp only[cbin,binOp,Op.stringOp]
    rw[if_neg hn]
    show some _=some _
    congr 2
   ·cases h
  all_goals cases h
  all_goals refine⟨.bool _,?_,.bool _⟩
  all_goals simp only[cbin,binOp,Op.stringOp,el,hbeq,ltS]
  all_goals rfl
 ·cases h
theorem isNil_rp {c v:Value}{a:AV}{b:Bool}(h:isNilA c a=some b)(hr:Rp F σ a v):isNilAs c v=some b:=by
 unfold isNilA at h
 split at h<;>(try (cases h;done))
 all_goals (split at h<;>(try (cases h;done)))
 all_goals (cases h;cases hr<;>first|rfl|(exfalso;simp_all;done))
theorem byte_rp {a:AV}{v:Value}{b:UInt8}(h:byteA a=some b)(hr:Rp F σ a v):∃n,v=.int .u8 n/\b=UInt8.ofNat n.toNat:=by
 unfold byteA at h
 split at h
 ·rename_i n;cases h;exact⟨n,hr.int_inv,rfl⟩
 ·cases h
theorem bytes_rp:∀{l:List AV}{l':List Value}{r:List UInt8},bytesA l=some r->RpL F σ l l'->bytesOfCells l'=some r
 |[],l',r,h,hr=>by
  cases h
  have:=hr.1
  cases l' with
  |nil=>rfl
  |cons _ _=>simp at this
 |a::l,l',r,h,hr=>by
  cases l' with
  |nil=>have:=hr.1;simp at this
  |cons v l'=>
   obtain⟨h1,h2⟩:=hr.of_cons
   unfold bytesA at h
   split at h
   ·rename_i b r' e1 e2
    cases h
    obtain⟨n,rfl,rfl⟩:=byte_rp e1 h1
    simp only[bytesOfCells,bytes_rp e2 h2]
   ·cases h
theorem bnd_rp {d y n:Nat}{ρA:Operand->AV}{ρ:Operand->Value}(hρ:∀x,Rp F σ (ρA x) (ρ x)){x:Option Operand}(h:bndA d y (x.map ρA)=some n):bnd d y (x.map ρ)=some n:=by
 cases x with
 |none=>exact h
 |some x=>
  simp only[Option.map_some] at h ⊢
  cases e:ρA x<;>rw[e] at h<;>simp only[bndA] at h<;>(try (cases h;done))
  rename_i k i
  have:=hρ x
  rw[e] at this
  rw[this.int_inv]
  exact h
theorem keyEq_rp {k k':AV}{v v':Value}{r:Bool}(h:keyEqA k k'=some r)(hk:Rp F σ k v)(hk':keyV k'=some v'):keyEq v v'=some r:=by
 unfold keyEqA at h
 split at h
 ·rename_i a b
  cases h
  cases hk.str_inv
  simp only[keyV,Option.some.injEq] at hk'
  subst hk'
  show some (a==b)=some (decide (a=b))
  congr 1
  rw[Bool.eq_iff_iff];simp
 ·rename_i j a k b
  cases hk.int_inv
  simp only[keyV,Option.some.injEq] at hk'
  subst hk'
  split at h
  ·rename_i e
   subst e
   cases h
   simp only[keyEq,beq_self_eq_true,if_true]
   congr 1
  ·cases h
 ·cases h
theorem EntR.of_cons {p:AV×AV}{es:List (AV×AV)}{es':List (Value×Value)}(h:EntR F σ (p::es) es'):∃q l,es'=q::l/\keyV p.1=some q.1/\Rp F σ p.2 q.2/\EntR F σ es l:=by
 cases es' with
 |nil=>have:=h.1;simp at this
 |cons q l=>
  obtain⟨h1,h2⟩:=h.2 0 p q rfl rfl
  exact⟨q,l,rfl,h1,h2,by simpa using h.1,fun i p' q' hp hq=>h.2 (i+1) p' q' (by simpa using hp) (by simpa using hq)⟩
theorem EntR.nil:EntR F σ [] []:=⟨rfl,fun i p q h=>by simp at h⟩
theorem EntR.cons {p:AV×AV}{q:Value×Value}{es:List (AV×AV)}{es':List (Value×Value)}(h1:keyV p.1=some q.1)(h2:Rp F σ p.2 q.2)(h:EntR F σ es es'):EntR F σ (p::es) (q::es'):=by
 refine⟨by simp[h.1],fun i p' q' hp hq=>?_⟩
 cases i with
 |zero=>simp at hp hq;subst hp hq;exact⟨h1,h2⟩
 |succ i=>simp at hp hq;exact h.2 i p' q' hp hq
theorem EntR.nil_inv {es':List (Value×Value)}(h:EntR F σ [] es'):es'=[]:=by
 cases es' with
 |nil=>rfl
 |cons _ _=>have:=h.1;simp at this
theorem look_rp {k:AV}{v:Value}(hk:Rp F σ k v):∀{es:List (AV×AV)}{es':List (Value×Value)}{r:Option AV},lookA k es=some r->EntR F σ es es'->
  (r=none/\look v es'=some none)\/∃a x,r=some a/\look v es'=some (some x)/\Rp F σ a x
 |[],es',r,h,he=>by
  cases h
  rw[he.nil_inv];exact .inl ⟨rfl,rfl⟩
 |(k',a)::es,es',r,h,he=>by
  obtain⟨⟨q1,q2⟩,l,rfl,h1,h2,h3⟩:=he.of_cons
  unfold lookA at h
  split at h
  ·rename_i e;cases h
   exact .inr ⟨a,q2,rfl,by simp only[look,keyEq_rp e hk h1],h2⟩
  ·rename_i e
   have:=keyEq_rp e hk h1
   rcases look_rp hk h h3 with⟨g1,g2⟩|⟨a',x,g1,g2,g3⟩
   ·exact .inl ⟨g1,by simp only[look,this];exact g2⟩
   ·exact .inr ⟨a',x,g1,by simp only[look,this];exact g2,g3⟩
  ·cases h
theorem ent_rp (hA:AR F h σ){a:AV}{v:Value}{es:List (AV×AV)}(he:entA h a=some es)(hr:Rp F σ a v):∃es',σ.entries v=some es'/\EntR F σ es es':=by
 unfold entA at he
 split at he
 ·cases he;cases hr;exact⟨[],rfl,.nil⟩
 ·cases he
  cases hr with
  |fmap0=>exact⟨[],rfl,.nil⟩
  |@fmap _ es' b ver hb hF hl hk hv=>exact⟨es',by simp[CW.entries,hb],hl,fun i p q hp hq=>⟨hk i p q hp hq,hv i p q hp hq⟩⟩
 ·rename_i b
  split at he
  ·rename_i es0 ho
   cases he
   cases hr
   obtain⟨_,_,es',ver,h1,h2⟩:=hA.obj b _ ho
   exact⟨es',by simp[CW.entries,h1],h2⟩
  ·cases he
 ·cases he
theorem cellAt_rp (hA:AR F h σ){b:Nat}{cs:List AV}(hc:cellAt h b=some cs):∃c,σ.row b=some c/\RpL F σ cs c:=by
 unfold cellAt at hc
 split at hc
 ·rename_i ds E ho
  cases hc
  obtain⟨_,_,c,_,_,h1,h2,_⟩:=hA.obj b _ ho
  exact⟨c,by simp[CW.row,h1],h2⟩
 ·rename_i ds E ho
  cases hc
  obtain⟨_,_,c,cl,rel,h1,_,_,h2⟩:=hA.obj b _ ho
  exact⟨c,by simp[CW.row,h1],h2⟩
 ·cases hc
theorem elemAt_rp (hA:AR F h σ){b:Nat}{E:TypeId}(hc:elemAt h b=some E):∃c cl rel,σ.heap b=some (.cells c E cl rel):=by
 unfold elemAt at hc
 split at hc
 ·rename_i ds E ho
  cases hc
  obtain⟨_,_,c,_,_,h1,h2,_⟩:=hA.obj b _ ho
  exact⟨c,_,_,h1⟩
 ·rename_i ds E ho
  cases hc
  obtain⟨_,_,c,cl,rel,h1,_⟩:=hA.obj b _ ho
  exact⟨c,cl,rel,h1⟩
 ·cases hc
theorem takeA_rp {l r:List AV}{l':List Value}{i n:Nat}(h:takeA l i n=some r)(hl:RpL F σ l l'):∃r',takeAt l' i n=some r'/\RpL F σ r r':=by
 unfold takeA at h
 split at h
 ·rename_i hle
  cases h
  exact⟨_,by unfold takeAt;rw[if_pos (by rw[<-hl.1];exact hle)],(hl.drop i).take n⟩
 ·cases h
theorem putA_rp {l r vs:List AV}{l' vs':List Value}{i:Nat}(h:putA l i vs=some r)(hl:RpL F σ l l')(hv:RpL F σ vs vs'):∃r',putAt l' i vs'=some r'/\RpL F σ r r':=by
 unfold putA at h
 split at h
 ·rename_i hle
  cases h
  refine⟨_,by unfold putAt;rw[if_pos (by rw[<-hl.1, <-hv.1];exact hle)],?_⟩
  rw[hv.1]
  exact ((hl.take i).append hv).append (hl.drop _)
 ·cases h
theorem rp_any {a:AV}(h:isAny a=false):a≠.any:=by rintro rfl;cases h
theorem fillA_rp {ρA:Operand->AV}{ρ:Operand->Value}(hρ:∀x,Rp F σ (ρA x) (ρ x)):∀{ps:List (Nat×Nat×Operand)}{l r:List AV}{l':List Value},fillA l (ps.map fun (o,s,x)=>(o,s,ρA x))=some r->RpL F σ l l'->
  ∃r',fillL l' (ps.map fun (o,s,x)=>(o,s,ρ x))=some r'/\RpL F σ r r'
 |[],l,r,l',h,hl=>by cases h;exact⟨l',rfl,hl⟩
 |(o,s,x)::ps,l,r,l',h,hl=>by
  simp only[List.map_cons,fillA] at h
  split at h
  ·rename_i hc
   split at h
   ·rename_i l1 h1
    have hcells:=(hρ x).cells (rp_any hc.1)
    obtain⟨r1,g1,g2⟩:=putA_rp h1 hl hcells
    obtain⟨r2,g3,g4⟩:=fillA_rp hρ h g2
    refine⟨r2,?_,g4⟩
    simp only[List.map_cons,fillL]
    rw[if_pos (by rw[<-hcells.1];exact hc.2),g1];exact g3
   ·cases h
  ·cases h
theorem ofC1L_rp (l:List Value):RpL F σ (l.map ofC1) l:=by
 refine⟨by simp,fun i x y hx hy=>?_⟩
 simp only[List.getElem?_map,hy,Option.map_some,Option.some.injEq] at hx
 subst hx;exact ofC1_rp F σ y
theorem eqI_rp (hA:AR F h σ){ok u8:List TypeId}{a b:AV}{v w:Value}{r:Bool}(he:eqIA h ok u8 a b=some r)(ha:Rp F σ a v)(hb:Rp F σ b w):eqIface σ ok u8 v w=some r:=by
 unfold eqIA at he
 split at he
 ·cases he;cases ha;cases hb;rfl
 ·cases he;cases ha;cases hb;rfl
 ·rename_i t x u y
  cases ha with
  |iface ha=>
   cases hb with
   |iface hb=>
    split at he
    ·rename_i e
     subst e
     split at he
     ·rename_i a1 o1 a2 o2
      cases ha
      cases hb
      split at he
      ·rename_i hok
       simp only[eqIface,if_true,hok,true_and,and_self]
       split at he
       ·rename_i e;cases he;rw[if_pos e]
       ·rename_i hne
        rw[if_neg hne]
        split at he
        ·rename_i hu
         obtain⟨hu,hu0⟩:=hu
         cases he
         have hap:σ.apart u8 a1 a2=true:=by
          unfold apartA at hu
          unfold CW.apart
          split at hu
          ·rename_i q1 q2
           obtain⟨_,k1,_,cl1,_,k2,_,_,_,k5,_⟩:=hA.obj a1 _ q1
           obtain⟨_,k3,_,cl2,_,k4,_,_,_,k6,_⟩:=hA.obj a2 _ q2
           have hcl:cl1≠cl2:=by
            rintro rfl
            rw[k5] at k6
            injection k6 with k6 _
            injection k6 with k6 _
            exact hne k6
           rw[k2,k4]
           obtain⟨hE1,hE2⟩:=(by simpa only[Bool.and_eq_true,Bool.not_eq_true'] using hu)
           simp only[hE1,hE2,Bool.not_false,Bool.or_true,Bool.true_and,show ((σ.ro<=a1\/a1<σ.inj)/\(σ.ro<=a2\/a2<σ.inj)) from⟨.inl k1,.inl k3⟩,decide_true]
           rw[if_neg (by omega)]
           simpa using hcl
          ·rename_i q1 q2
           obtain⟨k1,k2,_,_,_,k5,_⟩:=hA.obj a1 _ q1
           obtain⟨k3,k4,_,_,_,k6,_⟩:=hA.obj a2 _ q2
           rw[k5,k6]
           simp only[decide_eq_true k2,decide_eq_true k4,Bool.true_or,Bool.true_and,show ((σ.ro<=a1\/a1<σ.inj)/\(σ.ro<=a2\/a2<σ.inj)) from⟨.inr k2,.inr k4⟩,decide_true]
           rw[if_pos ⟨k1,k3⟩]
           simp[k2]
          ·cases hu
         rw[if_pos ⟨hap,by unfold CW.told;rw[decide_eq_true_eq];exact .inr (.inr ⟨hu0.1,hu0.2⟩)⟩]
        ·cases he
      ·cases he
     ·cases he
    ·rename_i e
     split at he
     ·rename_i hp
      cases he
      simp only[Bool.and_eq_true] at hp
      have key:∀(a:AV)(v:Value),isPtrA a=true->Rp F σ a v->∃ad,v=.pointer (some ad):=by
       intro a v h1 h2
       cases h2<;>first|exact⟨_,rfl⟩|cases h1
      obtain⟨a1,rfl⟩:=key _ _ hp.1 ha
      obtain⟨a2,rfl⟩:=key _ _ hp.2 hb
      simp only[eqIface,if_neg e]
     ·cases he
 ·cases he
end
end Go.Cn
namespace Go.Cn
set_option linter.unusedVariables false
set_option linter.unusedSimpArgs false
section
variable {F:Nat->Nat}{h:AH}{σ:CW}
theorem flatten_get {α:Type}:∀{es:List (List α)}{sz i:Nat}{e:List α},(∀e∈es,e.length=sz)->es[i]?=some e->∀j,j<sz->es.flatten[i*sz+j]?=e[j]?
 |[],_,_,_,_,h,_,_=>by simp at h
 |e0::es,sz,i,e,hs,h,j,hj=>by
  have h0:=hs e0 (by simp)
  cases i with
  |zero=>
   simp at h;subst h
   rw[List.flatten_cons,List.getElem?_append_left (by omega)]
   simp
  |succ i=>
   simp at h
   have:=flatten_get (es:=es) (sz:=sz) (i:=i) (e:=e) (fun x hx=>hs x (by simp[hx])) h j hj
   rw[List.flatten_cons,List.getElem?_append_right (by rw[h0,Nat.succ_mul];omega), <-this]
   congr 1
   rw[h0,Nat.succ_mul];omega
theorem drop_flatten {α:Type}:∀{es:List (List α)}{sz:Nat}(l:Nat),(∀e∈es,e.length=sz)->es.flatten.drop (l*sz)=(es.drop l).flatten
 |[],_,l,_=>by simp
 |e::es,sz,0,_=>by simp
 |e::es,sz,l+1,hs=>by
  have h0:=hs e (by simp)
  rw[List.flatten_cons,List.drop_succ_cons, <-drop_flatten l (fun x hx=>hs x (by simp[hx]))]
  have:(l+1)*sz=e.length+l*sz:=by rw[h0,Nat.succ_mul];omega
  rw[this]
  rw[List.drop_append,List.drop_eq_nil_of_le (by omega)]
  simp
theorem take_flatten {α:Type}:∀{es:List (List α)}{sz:Nat}(l:Nat),(∀e∈es,e.length=sz)->es.flatten.take (l*sz)=(es.take l).flatten
 |[],_,l,_=>by simp
 |e::es,sz,0,_=>by simp
 |e::es,sz,l+1,hs=>by
  have h0:=hs e (by simp)
  rw[List.flatten_cons,List.take_succ_cons,List.flatten_cons, <-take_flatten l (fun x hx=>hs x (by simp[hx]))]
  have:(l+1)*sz=e.length+l*sz:=by rw[h0,Nat.succ_mul];omega
  rw[this,List.take_append]
  rw[List.take_of_length_le (by omega)]
  congr 1
  congr 1
  omega
theorem Rp.suffix {E:TypeId}{es:List (List AV)}{t:Tag}{b off cap sz:Nat}{l:Nat}(hs:∀e∈es,e.length=sz)(h1:l<=es.length)(hne:es≠[])(h:Rp F σ (.lst E es t) (.slice (some ⟨b,off,none⟩) es.length cap)) :
  Rp F σ (.lst E (es.drop l) t) (.slice (some ⟨b,off+l*sz,none⟩) (es.length-l) (cap-l)):=by
 generalize hn:es.length=n at h
 cases h with
 |lstE=>exact absurd rfl hne
 |lstO=>exact absurd rfl hne
 |@lst _ _ _ _ _ _ sz' c cl rel hb h0 hz hs' hF hc hl hB ht hv=>
  have hsz:sz'=sz:=by
   cases es with
   |nil=>exact absurd rfl hne
   |cons e es=>rw[<-hs' e (by simp),hs e (by simp)]
  subst hsz
  have hlen:(es.drop l).length=es.length-l:=by simp
  have hmul:l*sz'+(es.length-l)*sz'=es.length*sz':=by rw[<-Nat.add_mul];congr 1;omega
  have hmul2:l*sz'+(cap-l)*sz'=cap*sz':=by rw[<-Nat.add_mul];congr 1;omega
  by_cases he:es.length-l=0
  ·have hd:es.drop l=[]:=by rw[List.drop_eq_nil_iff];omega
   rw[hd,he]
   rcases ht with rfl|rfl
   ·exact .lstE E _ _ _
   ·refine .lstO E ?_ ?_
    ·rw[he] at hmul;omega
    ·rw[he] at hmul;omega
  ·rw[<-hlen]
   refine .lst (sz:=sz') hb (by intro e;rw[e] at hlen;simp at hlen;omega) hz (fun e he=>hs' e (List.mem_of_mem_drop he)) ?_ ?_ ?_ ?_ ?_ ?_
   ·rw[hlen];omega
   ·rw[hlen];omega
   ·rw[hlen];omega
   ·rw[hlen];omega
   ·rcases ht with ht|ht
    ·exact .inl ht
    ·right
     rw[ht,hlen]
     congr 1<;>omega
   ·intro i x y hx hy
    refine hv (l*sz'+i) x y ?_ (by rw[<-Nat.add_assoc];exact hy)
    rw[<-drop_flatten l hs',List.getElem?_drop] at hx
    exact hx
theorem Rp.sub {E:TypeId}{es:List (List AV)}{t:Tag}{b off len cap sz:Nat}{l hh:Nat}(hs:∀e∈es,e.length=sz)(h1:l<=hh)(h2:hh<=es.length)(h:Rp F σ (.lst E es t) (.slice (some ⟨b,off,none⟩) len cap)) :
  Rp F σ (.lst E ((es.drop l).take (hh-l)) .no) (.slice (some ⟨b,off+l*sz,none⟩) (hh-l) (cap-l)):=by
 by_cases he:hh-l=0
 ·rw[he,List.take_zero];exact .lstE E _ _ _
 ·have hne:es≠[]:=by rintro rfl;simp at h2;omega
  cases h with
  |lstE=>exact absurd rfl hne
  |lstO=>exact absurd rfl hne
  |@lst _ _ _ _ _ _ sz' c cl rel hb h0 hz hs' hF hc hl hB ht hv=>
   have hsz:sz'=sz:=by
    cases es with
    |nil=>exact absurd rfl hne
    |cons e es=>rw[<-hs' e (by simp),hs e (by simp)]
   subst hsz
   have hlen:((es.drop l).take (hh-l)).length=hh-l:=by simp;omega
   have hmul:l*sz'+(hh-l)*sz'=hh*sz':=by rw[<-Nat.add_mul];congr 1;omega
   have hmul2:hh*sz'<=es.length*sz':=Nat.mul_le_mul_right _ h2
   have key:Rp F σ (.lst E ((es.drop l).take (hh-l)) .no) (.slice (some ⟨b,off+l*sz',none⟩) ((es.drop l).take (hh-l)).length (cap-l)):=by
    refine .lst (sz:=sz') hb (by intro e;rw[e] at hlen;simp at hlen;omega) hz (fun e he=>hs' e (List.mem_of_mem_drop (List.mem_of_mem_take he))) ?_ ?_ ?_ ?_ (.inl rfl) ?_
    ·rw[hlen];omega
    ·rw[hlen];omega
    ·rw[hlen];omega
    ·rw[hlen];omega
    ·intro i x y hx hy
     refine hv (l*sz'+i) x y ?_ (by rw[<-Nat.add_assoc];exact hy)
     rw[<-take_flatten _ (fun e he=>hs' e (List.mem_of_mem_drop he)), <-drop_flatten l hs',List.getElem?_take] at hx
     split at hx
     ·rw[List.getElem?_drop] at hx;exact hx
     ·cases hx
   rw[hlen] at key
   exact key
theorem RpL.agg {l:List AV}{r:List Value}(h:RpL F σ l r):Rp F σ (.agg l) (.agg r.toArray):=.agg (by simpa using h.1) fun i x y hi hy=>h.2 i x y hi (by simpa using hy)
theorem ba_get (s:List UInt8)(n:Nat):(⟨⟨s⟩⟩ : ByteArray)[n]?=s[n]?:=by
 show (if h:n<(⟨⟨s⟩⟩ : ByteArray).size then some ((⟨⟨s⟩⟩ : ByteArray)[n]'h) else none)=_
 have hsz:(⟨⟨s⟩⟩ : ByteArray).size=s.length:=rfl
 by_cases h:n<s.length
 ·rw[dif_pos (by rw[hsz];exact h),List.getElem?_eq_getElem h];rfl
 ·rw[dif_neg (by rw[hsz];exact h),List.getElem?_eq_none (by omega)]
theorem ba_extract (s:List UInt8)(l h:Nat):(⟨⟨s⟩⟩ : ByteArray).extract l h=⟨⟨(s.drop l).take (h-l)⟩⟩:=by
 apply ByteArray.ext
 rw[ByteArray.data_extract]
 simp[List.extract_eq_take_drop]
theorem bnd_le {d y n:Nat}{o:Option Value}(h:bnd d y o=some n):n=d\/n<=y:=by
 unfold bnd at h
 split at h
 ·cases h;exact .inl rfl
 ·split at h
  ·rename_i hc;cases h;right;omega
  ·cases h
 ·cases h
theorem bnd_cap {d y y' n:Nat}{o:Option Value}(hy:y<=y')(h:bnd d y o=some n):bnd d y' o=some n:=by
 unfold bnd at h ⊢
 split at h
 ·exact h
 ·split at h
  ·rename_i hc
   rw[if_pos ⟨hc.1,by omega⟩];exact h
  ·cases h
 ·cases h
theorem rp_pev (hA:AR F h σ){o:POp}{ρA:Operand->AV}{ρ:Operand->Value}(hρ:∀x,Rp F σ (ρA x) (ρ x)){a:AV}(he:pevA o ρA h=some a):∃v,pev o ρ σ=some v/\Rp F σ a v:=by
 cases o<;>simp only[pevA] at he
 case mov x=>cases he;exact⟨_,rfl,hρ x⟩
 case pick c x y=>
  have hc:=hρ c
  split at he
  ·rename_i t e
   cases he
   rw[e] at hc
   have:=hc.bool_inv
   cases t
   ·exact⟨_,by simp[pev,this],hρ y⟩
   ·exact⟨_,by simp[pev,this],hρ x⟩
  ·cases he
 case nilck x=>
  have hx:=hρ x
  simp only[pev]
  generalize ρ x=v at hx ⊢
  generalize ρA x=a0 at hx he
  cases a0<;>simp only[] at he<;>cases he
  all_goals (have hx':=hx;cases hx;exact⟨_,rfl,hx'⟩)
 case bin op x y=>exact binA_rp he (hρ x) (hρ y)
 case beq neg x y=>
  have hx:=hρ x
  have hy:=hρ y
  split at he
  ·rename_i e1 e2
   cases he
   rw[e1] at hx;rw[e2] at hy
   exact⟨_,by simp only[pev,hx.bool_inv,hy.bool_inv],.bool _⟩
  ·cases he
 case isnil neg c x=>
  split at he
  ·rename_i b e
   cases he
   exact⟨_,by simp only[pev,isNil_rp e (hρ x)],.bool _⟩
  ·cases he
 case un op x=>
  have hx:=hρ x
  split at he
  ·rename_i b e;cases he;rw[e] at hx
   exact⟨.bool !b,by simp only[pev,hx.bool_inv,Op.unary];rfl,.bool _⟩
  ·rename_i k n e;cases he;rw[e] at hx
   exact⟨.int k (k.wrap (0-n)),by simp only[pev,hx.int_inv,Op.unary,Op.intArith];rfl,.int _ _⟩
  ·cases he
 case i2i k x=>
  have hx:=hρ x
  split at he
  ·rename_i k' n e;cases he;rw[e] at hx
   exact⟨_,by simp only[pev,hx.int_inv],.int _ _⟩
  ·cases he
 case i2s x=>
  have hx:=hρ x
  split at he
  ·rename_i k' n e;cases he;rw[e] at hx
   exact⟨.string (Utf8.encode n),by simp only[pev,hx.int_inv],.str _⟩
  ·cases he
 case s2s x=>
  have hx:=hρ x
  split at he
  ·rename_i n e;cases he;rw[e] at hx
   exact⟨.string ⟨⟨n⟩⟩,by simp only[pev,hx.str_inv],.str _⟩
  ·cases he
 case b2s x=>
  have hx:=hρ x
  simp only[pev]
  generalize ρ x=v at hx ⊢
  split at he
  ·rename_i E e
   rw[e] at hx
   cases he
   cases hx with
   |lst0=>exact⟨_,rfl,.str _⟩
   |lst _ h0 _ _ _ _ _ _ _ _=>exact absurd rfl h0
  ·rename_i E e0 es0 t e
   rw[e] at hx
   obtain⟨es,hes⟩ : ∃es,es=e0::es0:=⟨_,rfl⟩
   have hn:es.length=es0.length+1:=by rw[hes];rfl
   rw[<-hes] at hx he
   rw[<-hn] at he
   split at he
   ·rename_i l hl
    split at he
    ·rename_i hlen
     cases he
     cases hx with
     |lst0=>cases hes
     |lstN=>cases hes
     |lstE=>cases hes
     |lstO=>cases hes
     |@lst _ _ _ b off cap sz c cl rel hb h0 hz hs hF hc hl' hB ht hv=>
      have hsz:sz=1:=by
       have:=flatten_length hs
       rw[hlen] at this
       have hp:0<es.length:=List.length_pos_iff.2 h0
       have:es.length*sz=es.length*1:=by omega
       exact Nat.eq_of_mul_eq_mul_left hp this
      subst hsz
      have hrow:σ.row b=some c:=by simp[CW.row,hb]
      have hR:RpL F σ es.flatten ((c.drop off).take es.length):=by
       refine⟨by rw[hlen];simp;omega,fun i x y hi hy=>?_⟩
       rw[List.getElem?_take] at hy
       split at hy
       ·rw[List.getElem?_drop] at hy;exact hv i x y hi hy
       ·cases hy
      refine⟨.string ⟨⟨l⟩⟩,?_,.str _⟩
      have ht:takeAt c off es.length=some ((c.drop off).take es.length):=by unfold takeAt;rw[if_pos (by omega)]
      simp only[CW.cells,hrow,ht,bytes_rp hl hR]
    ·cases he
   ·cases he
  ·rename_i b off n cap e
   rw[e] at hx
   split at he
   ·rename_i cs hcs
    split at he
    ·rename_i l hl
     split at he
     ·rename_i r hr
      cases he
      cases hx
      obtain⟨c,h1,h2⟩:=cellAt_rp hA hcs
      obtain⟨l',h3,h4⟩:=takeA_rp hl h2
      refine⟨.string ⟨⟨r⟩⟩,?_,.str _⟩
      simp only[CW.cells,h1,h3,bytes_rp hr h4]
     ·cases he
    ·cases he
   ·cases he
  ·cases he
 case mkif t x=>cases he;exact⟨_,rfl,.iface (hρ x)⟩
 case mkfn f first captured=>
  cases he
  have hl:=RpL.map (F:=F) (σ:=σ) ρA ρ first fun x _=>hρ x
  have hl2:=RpL.map (F:=F) (σ:=σ) ρA ρ captured fun x _=>hρ x
  exact⟨_,rfl,.func (by simp) (by simp) (fun i x y hx hy=>hl.2 i x y hx (by simpa using hy)) fun i x y hx hy=>hl2.2 i x y hx (by simpa using hy)⟩
 case slS x lo hi=>
  have hx:=hρ x
  split at he
  ·rename_i s e
   rw[e] at hx
   split at he
   ·rename_i hh e1
    split at he
    ·rename_i l e2
     cases he
     refine⟨.string ⟨⟨(s.drop l).take (hh-l)⟩⟩,?_,.str _⟩
     have h1:=bnd_rp hρ e1
     have h2:=bnd_rp hρ e2
     have hsz:(⟨⟨s⟩⟩ : ByteArray).size=s.length:=rfl
     simp only[pev,hx.str_inv,hsz,h1,h2,ba_extract]
    ·cases he
   ·cases he
  ·cases he
 case slV elem sz x lo hi mx=>
  cases mx with
  |some _=>cases he
  |none=>
   have hx:=hρ x
   have hm:∀c,bnd c c none=some c:=fun _=>rfl
   simp only at he
   split at he
   ·rename_i E e
    rw[e] at hx
    split at he
    ·rename_i hh e1
     split at he
     ·rename_i l e2
      cases he
      have b1:=bnd_rp hρ e1
      have b2:=bnd_rp hρ e2
      simp only[pev]
      generalize ρ x=v at hx ⊢
      cases hx with
      |lst0=>exact⟨.slice none 0 0,by simp only[Option.map_none,hm,b1,b2],.lst0 _⟩
      |lst _ h0 _ _ _ _ _ _ _ _=>exact absurd rfl h0
     ·cases he
    ·cases he
   ·rename_i E e0 es0 t e
    rw[e] at hx
    obtain⟨es,hes⟩ : ∃es,es=e0::es0:=⟨_,rfl⟩
    have hn:es.length=es0.length+1:=by rw[hes];rfl
    have hne:es≠[]:=by rw[hes];simp
    rw[<-hes] at hx he
    rw[<-hn] at he
    split at he
    ·rename_i hc
     obtain⟨rfl,hs⟩:=hc
     split at he
     ·rename_i hh e1
      split at he
      ·rename_i l e2
       cases he
       have b1:=bnd_rp hρ e1
       have b2:=bnd_rp hρ e2
       have k1:=bnd_le b1
       have k2:=bnd_le b2
       have k3:hh<=es.length:=k1.elim (fun e=>by omega) id
       have k4:l<=hh:=k2.elim (fun e=>by omega) id
       simp only[pev]
       generalize ρ x=v at hx ⊢
       have hx':=hx
       cases hx with
       |lst0=>exact absurd rfl hne
       |lstN=>exact absurd rfl hne
       |lstE=>exact absurd rfl hne
       |lstO=>exact absurd rfl hne
       |@lst _ _ _ b off cap sz' c cl rel hb h0 hz hs' hF hcl hl hB ht hv=>
        refine⟨.slice (some ⟨b,off+l*sz,none⟩) (hh-l) (cap-l),?_,?_⟩
        ·have:=bnd_cap hl b1
         simp only[Option.map_none,hm,this,b2]
         rw[if_pos]
         simp[CW.elemIs,hb]
        ·split
         ·rename_i e
          rw[List.take_of_length_le (by simp;omega),e]
          exact Rp.suffix hs (by omega) hne hx'
         ·exact Rp.sub hs k4 k3 hx'
      ·cases he
     ·cases he
    ·cases he
   ·rename_i b off len cap e
    rw[e] at hx
    split at he
    ·rename_i hel
     split at he
     ·rename_i hh e1
      split at he
      ·rename_i l e2
       cases he
       have b1:=bnd_rp hρ e1
       have b2:=bnd_rp hρ e2
       simp only[pev]
       generalize ρ x=v at hx ⊢
       cases hx with
       |slice hl=>
        have k1:=bnd_le b1
        have k2:=bnd_le b2
        have k4:l<=hh:=k2.elim (fun e=>by omega) id
        have k3:hh<=cap:=k1.elim (fun e=>by omega) id
        obtain⟨c,cl,rel,hb⟩:=elemAt_rp hA hel
        refine⟨.slice (some ⟨b,off+l*sz,none⟩) (hh-l) (cap-l),?_,.slice (by omega)⟩
        simp only[Option.map_none,hm,b1,b2]
        rw[if_pos]
        simp[CW.elemIs,hb]
      ·cases he
     ·cases he
    ·cases he
   ·cases he
 case fa off x=>
  have hx:=hρ x
  split at he
  ·rename_i cs e
   rw[e] at hx
   split at he
   ·rename_i hlt
    cases he
    generalize hv0:ρ x=v at hx
    cases hx with
    |@rptr _ b o c E cl rel hb h0 hF hc hv=>
     refine⟨_,by simp only[pev,hv0];rfl,?_⟩
     refine .rptr (off:=o+off) hb (by intro e;rw[List.drop_eq_nil_iff] at e;omega) (by simp;omega) (by simp;omega) fun i x y hi hy=>?_
     rw[List.getElem?_drop] at hi
     exact hv _ x y hi (by rw[<-Nat.add_assoc];exact hy)
   ·cases he
  ·rename_i b o e
   rw[e] at hx
   cases he
   generalize hv0:ρ x=v at hx
   cases hx
   exact⟨_,by simp only[pev,hv0];rfl,.ptr _ _⟩
  ·cases he
 case fld off n agg x=>
  have hx:=hρ x
  split at he
  ·rename_i cs e
   rw[e] at hx
   generalize hv0:ρ x=v at hx
   cases hx with
   |@agg _ arr hl h=>
    have hL:RpL F σ cs arr.toList:=⟨by simpa using hl,fun i x y hi hy=>h i x y hi (by simpa using hy)⟩
    split at he
    ·rename_i hagg
     split at he
     ·rename_i l hl'
      cases he
      obtain⟨r,h1,h2⟩:=takeA_rp hl' hL
      exact⟨.agg r.toArray,by simp only[pev,hv0,hagg,if_true,h1],h2.agg⟩
     ·cases he
    ·rename_i hagg
     obtain⟨y,h1,h2⟩:=hL.left he
     exact⟨y,by simp only[pev,hv0,hagg,if_false,Bool.false_eq_true];exact h1,h2⟩
  ·cases he
 case ia sz x i=>
  have hx:=hρ x
  have hi:=hρ i
  split at he
  ·rename_i E es t k n e1 e2
   rw[e1] at hx
   rw[e2] at hi
   split at he
   ·rename_i hn
    split at he
    ·rename_i e hel
     split at he
     ·rename_i hc
      cases he
      generalize hv0:ρ x=v at hx
      have hmem:=List.mem_of_getElem? hel
      have hlt:n.toNat<es.length:=(List.getElem?_eq_some_iff.1 hel).1
      cases hx with
      |lst0=>simp at hel
      |lstN=>simp at hel
      |lstE=>simp at hel
      |lstO=>simp at hel
      |@lst _ _ _ b off cap sz' c cl rel hb h0 hz hs hF hcl hl hB ht hv=>
       have hsz:sz'=sz:=by rw[<-hc.1,hs e hmem]
       subst hsz
       refine⟨.pointer (some ⟨b,off+n.toNat*sz',none⟩),?_,?_⟩
       ·simp only[pev,hv0,hi.int_inv]
        rw[if_pos ⟨trivial,hn,by omega⟩]
       ·have hb2:n.toNat*sz'+sz'<=es.length*sz':=by rw[<-Nat.succ_mul];exact Nat.mul_le_mul_right _ hlt
        refine .rptr hb hc.2 (by rw[hc.1];omega) (by rw[hc.1];omega) fun j x y hx hy=>?_
        have hj:j<sz':=by rw[<-hc.1];exact (List.getElem?_eq_some_iff.1 hx).1
        refine hv (n.toNat*sz'+j) x y ?_ (by rw[<-Nat.add_assoc];exact hy)
        rw[flatten_get hs hel j hj];exact hx
     ·cases he
    ·cases he
   ·cases he
  ·rename_i b off len cap k n e1 e2
   rw[e1] at hx
   rw[e2] at hi
   split at he
   ·rename_i hc
    cases he
    generalize hv0:ρ x=v at hx
    cases hx
    refine⟨_,?_,.ptr _ _⟩
    simp only[pev,hv0,hi.int_inv]
    rw[if_pos ⟨trivial,hc.1,hc.2⟩]
   ·cases he
  ·cases he
 case ixS x i=>
  have hx:=hρ x
  have hi:=hρ i
  split at he
  ·rename_i s k n e1 e2
   rw[e1] at hx
   rw[e2] at hi
   split at he
   ·rename_i hn
    split at he
    ·rename_i b hb
     cases he
     refine⟨.int .u8 b.toNat,?_,.int _ _⟩
     simp only[pev,hx.str_inv,hi.int_inv]
     rw[if_pos hn]
     rw[ba_get,hb]
    ·cases he
   ·cases he
  ·cases he
 case lookup str zero ok m k=>
  split at he
  ·rename_i es hes
   obtain⟨es',h1,h2⟩:=ent_rp hA hes (hρ m)
   split at he
   ·rename_i hk
    have hkey:isKey str (ρ k)=true:=by
     have hk':=hρ k
     unfold isKeyA at hk
     split at hk
     ·rename_i e;rw[e] at hk';rw[hk'.str_inv];exact hk
     ·rename_i e;rw[e] at hk';rw[hk'.int_inv];exact hk
     ·cases hk
    split at he
    ·rename_i v hv
     cases he
     rcases look_rp (hρ k) hv h2 with⟨g1,_⟩|⟨a',x,g1,g2,g3⟩
     ·cases g1
     ·cases g1
      cases ok
      ·exact⟨x,by simp only[pev,h1,hkey,g2];rfl,g3⟩
      ·exact⟨.tuple #[x,.bool true],by simp only[pev,h1,hkey,g2];rfl,.tuple rfl fun i a b ha hb=>(RpL.cons g3 (.cons (.bool true) .nil)).2 i a b ha (by simpa using hb)⟩
    ·rename_i hv
     cases he
     rcases look_rp (hρ k) hv h2 with⟨_,g2⟩|⟨a',x,g1,_⟩
     ·cases ok
      ·exact⟨zero,by simp only[pev,h1,hkey,g2];rfl,ofC_rp F σ zero⟩
      ·exact⟨.tuple #[zero,.bool false],by simp only[pev,h1,hkey,g2];rfl,.tuple rfl fun i a b ha hb=>(RpL.cons (ofC_rp F σ zero) (.cons (.bool false) .nil)).2 i a b ha (by simpa using hb)⟩
     ·cases g1
    ·cases he
   ·cases he
  ·cases he
 case ta t zero ok x=>
  have hx:=hρ x
  have hzero:Rp F σ (.tuple [ofC zero,.bool false]) (.tuple #[zero,.bool false]):=.tuple rfl fun i a b ha hb=>(RpL.cons (ofC_rp F σ zero) (.cons (.bool false) .nil)).2 i a b ha (by simpa using hb)
  split at he
  ·rename_i u v e
   rw[e] at hx
   generalize hv0:ρ x=w at hx
   cases hx with
   |@iface _ _ v' hv=>
    split at he
    ·rename_i hu
     cases he
     cases ok
     ·exact⟨v',by simp only[pev,hv0];rw[if_pos hu];rfl,hv⟩
     ·exact⟨.tuple #[v',.bool true],by simp only[pev,hv0];rw[if_pos hu];rfl,.tuple rfl fun i a b ha hb=>(RpL.cons hv (.cons (.bool true) .nil)).2 i a b ha (by simpa using hb)⟩
    ·rename_i hu
     split at he
     ·rename_i hok
      cases he
      exact⟨_,by simp only[pev,hv0];rw[if_neg hu,if_pos hok],hzero⟩
     ·cases he
  ·rename_i e
   rw[e] at hx
   generalize hv0:ρ x=w at hx
   cases hx
   split at he
   ·rename_i hok
    cases he
    exact⟨_,by simp only[pev,hv0];rw[if_pos hok],hzero⟩
   ·cases he
  ·cases he
 case ext x i=>
  have hx:=hρ x
  split at he
  ·rename_i vs e
   rw[e] at hx
   generalize hv0:ρ x=w at hx
   cases hx with
   |@tuple _ arr hl hh=>
    have hL:RpL F σ vs arr.toList:=⟨by simpa using hl,fun i x y hi hy=>hh i x y hi (by simpa using hy)⟩
    obtain⟨y,h1,h2⟩:=hL.left he
    exact⟨y,by simp only[pev,hv0];exact h1,h2⟩
  ·cases he
 case lenS x=>
  have hx:=hρ x
  split at he
  ·rename_i s e;cases he;rw[e] at hx
   exact⟨_,by simp only[pev,hx.str_inv];rfl,.int _ _⟩
  ·cases he
 case lenV x=>
  have hx:=hρ x
  simp only[pev]
  generalize ρ x=v at hx ⊢
  split at he
  ·rename_i E es t e;cases he;rw[e] at hx
   cases hx<;>exact⟨_,rfl,.int _ _⟩
  ·rename_i b o n c e;cases he;rw[e] at hx
   cases hx;exact⟨_,rfl,.int _ _⟩
  ·cases he
 case lenM x=>
  split at he
  ·rename_i es hes
   cases he
   obtain⟨es',h1,h2⟩:=ent_rp hA hes (hρ x)
   exact⟨_,by simp only[pev,h1, <-h2.1],.int _ _⟩
  ·cases he
 case ld1 x=>
  have hx:=hρ x
  simp only[pev]
  generalize ρ x=v at hx ⊢
  split at he
  ·rename_i cs e;rw[e] at hx
   cases hx with
   |@rptr _ b off c E cl rel hb h0 hF hc hv=>
    have hlt:0<cs.length:=List.length_pos_iff.2 h0
    have hrow:σ.row b=some c:=by simp[CW.row,hb]
    have hg:c[off+0]?=some (c[off]'(by omega)):=by simp
    exact⟨c[off]'(by omega),by simp only[CW.cell,hrow,nth];exact hg,hv 0 a _ he hg⟩
  ·rename_i b o e;rw[e] at hx
   cases hx
   split at he
   ·rename_i cs hcs
    obtain⟨c,h1,h2⟩:=cellAt_rp hA hcs
    obtain⟨y,h3,h4⟩:=h2.left he
    exact⟨y,by simp only[CW.cell,h1];exact h3,h4⟩
   ·cases he
  ·cases he
 case ldN n x=>
  have hx:=hρ x
  simp only[pev]
  generalize ρ x=v at hx ⊢
  split at he
  ·rename_i cs e;rw[e] at hx
   split at he
   ·rename_i l hl
    cases he
    cases hx with
    |@rptr _ b off c E cl rel hb h0 hF hc hv=>
     have hrow:σ.row b=some c:=by simp[CW.row,hb]
     have hL:RpL F σ cs ((c.drop off).take cs.length):=by
      refine⟨by simp;omega,fun i x y hi hy=>?_⟩
      rw[List.getElem?_take] at hy
      split at hy
      ·rw[List.getElem?_drop] at hy;exact hv i x y hi hy
      ·cases hy
     unfold takeA at hl
     split at hl
     ·rename_i hle
      cases hl
      have hln:n<=cs.length:=by omega
      refine⟨.agg ((c.drop off).take n).toArray,?_,?_⟩
      ·have:takeAt c off n=some ((c.drop off).take n):=by unfold takeAt;rw[if_pos (by omega)]
       simp only[CW.cells,hrow,this]
      ·have:=hL.take n
       rw[List.take_take,Nat.min_eq_left hln] at this
       exact .agg (by simpa using this.1) fun i x y hi hy=>this.2 i x y (by simpa using hi) (by simpa using hy)
     ·cases hl
   ·cases he
  ·rename_i b o e;rw[e] at hx
   cases hx
   split at he
   ·rename_i cs hcs
    split at he
    ·rename_i l hl
     cases he
     obtain⟨c,h1,h2⟩:=cellAt_rp hA hcs
     obtain⟨l',h3,h4⟩:=takeA_rp hl h2
     exact⟨.agg l'.toArray,by simp only[CW.cells,h1,h3],h4.agg⟩
    ·cases he
   ·cases he
  ·cases he
 case build zero parts=>
  split at he
  ·rename_i l hl
   cases he
   obtain⟨r,h1,h2⟩:=fillA_rp hρ hl (ofC1L_rp zero)
   exact⟨.agg r.toArray,by simp only[pev,h1],h2.agg⟩
  ·cases he
 case mm max x y=>
  have hx:=hρ x
  have hy:=hρ y
  split at he
  ·rename_i e1 e2
   cases he
   rw[e1] at hx;rw[e2] at hy
   exact⟨_,by simp only[pev,hx.int_inv,hy.int_inv],.int _ _⟩
  ·cases he
 case cmp x y=>
  have hx:=hρ x
  have hy:=hρ y
  split at he
  ·rename_i e1 e2
   cases he
   rw[e1] at hx;rw[e2] at hy
   exact⟨_,by simp only[pev,hx.str_inv,hy.str_inv];rfl,.int _ _⟩
  ·cases he
 case eqI neg ok u8 x y=>
  split at he
  ·rename_i b hb
   cases he
   exact⟨_,by simp only[pev,eqI_rp hA hb (hρ x) (hρ y)],.bool _⟩
  ·cases he
 case capV x=>
  have hx:=hρ x
  simp only[pev]
  generalize ρ x=v at hx ⊢
  split at he
  ·rename_i e;cases he;rw[e] at hx
   cases hx with
   |lst0=>exact⟨_,rfl,.int _ _⟩
   |lst _ h0 _ _ _ _ _ _ _ _=>exact absurd rfl h0
  ·cases he
 case entry x=>
  have hx:=hρ x
  simp only[pev]
  generalize ρ x=v at hx ⊢
  split at he
  ·rename_i b e;rw[e] at hx
   cases hx
   split at he
   ·rename_i todo k x ho
    cases he
    obtain⟨_,_,hit⟩:=hA.obj b _ ho
    rcases hit with⟨_,_,_,_,hc⟩|⟨m,ver,seen,es',h1,h2,_,_,_,h3⟩
    ·cases hc
    ·obtain⟨k',l,x',rfl,g1,g2,g3⟩:=h3 k x rfl
     refine⟨.tuple #[k',x'],by simp only[CW.entry,h1,h2,if_true,g2],.tuple rfl fun i a b ha hb=>(RpL.cons ?_ (.cons g3 .nil)).2 i a b ha (by simpa using hb)⟩
     unfold keyV at g1
     split at g1<;>cases g1<;>constructor
   ·cases he
  ·cases he
end
end Go.Cn
namespace Go.Cn
set_option linter.unusedVariables false
set_option linter.unusedSimpArgs false
theorem members_none {σ:CW}{c:Nat}(h:σ.cls c=none){m:Nat×Nat}(hm:m∈σ.members c):∃x E cl rel,σ.heap c=some (.cells x E cl rel)/\m=(c,x.length):=by
 unfold CW.members at hm
 rw[h] at hm
 simp only at hm
 split at hm
 ·rename_i x E cl rel hc
  simp only[List.mem_singleton] at hm
  exact⟨x,E,cl,rel,hc,hm⟩
 ·cases hm
theorem members_some {σ:CW}{c:Nat}{l:List (Nat×Nat)}(h:σ.cls c=some l):σ.members c=l:=by
 unfold CW.members;rw[h]
theorem MInv.cases {σ:CW}(hm:MInv σ)(hi:CInv σ){b:Nat}{c:List Value}{E:TypeId}{cl rel:Nat}(hb:σ.heap b=some (.cells c E cl rel)){m:Nat×Nat}(h:m∈σ.members cl) :
  (∃c E rel,σ.heap m.1=some (.cells c E cl rel)/\m.2=rel+c.length)\/σ.heap m.1=some .dead:=by
 rcases hm cl m h with h1|h1|⟨h1,h2,c',E',cl',rel',h3,h4⟩
 ·exact .inl h1
 ·exact .inr h1
 ·exfalso
  have:=mem_singleton_root h1 (hi.mem _ _ _ _ _ hb).1
  subst this
  rw[hb] at h3;cases h3;exact h4 rfl
theorem MInv.add {σ:CW}(hi:CInv σ)(hm:MInv σ){o:CObj}(ho:FreshO σ o):MInv (σ.add o):=by
 intro cl m h
 have hne:∀n x,σ.heap n=some x->n≠σ.next:=fun n x hx e=>by subst e;rw[hi.fresh _ (Nat.le_refl _)] at hx;cases hx
 by_cases hc:cl=σ.next
 ·subst hc
  have hn:(σ.add o).cls σ.next=none:=cls_next hi
  obtain⟨x,E,cl,rel,h1,h2⟩:=members_none hn h
  rw[add_heap,if_pos rfl] at h1
  cases h1
  obtain⟨e1,e2⟩:=ho
  left
  refine⟨x,E,rel,by rw[h2,add_heap,if_pos rfl,e1],by rw[h2,e2];simp⟩
 ·have h0:m∈σ.members cl:=by
   unfold CW.members at h ⊢
   have:(σ.add o).cls cl=σ.cls cl:=rfl
   rw[this] at h
   rw[add_heap,if_neg hc] at h
   exact h
  rcases hm cl m h0 with⟨c,E,rel,h1,h2⟩|h1|⟨h1,h2,c',E',cl',rel',h3,h4⟩
  ·exact .inl ⟨c,E,rel,by rw[add_heap,if_neg (hne _ _ h1)];exact h1,h2⟩
  ·exact .inr (.inl (by rw[add_heap,if_neg (hne _ _ h1)];exact h1))
  ·exact .inr (.inr ⟨h1,h2,c',E',cl',rel',by rw[add_heap,if_neg hc];exact h3,h4⟩)
theorem MInv.put {σ:CW}(hi:CInv σ)(hm:MInv σ){b p:Nat}{c c':List Value}{E:TypeId}{cl rel:Nat}(hb:σ.heap b=some (.cells c E cl rel))(hl:c'.length=c.length):MInv (afterPut σ b p c c' E cl rel):=by
 have keep:∀n,n≠b->(afterPut σ b p c c' E cl rel).heap n=σ.heap n\/(afterPut σ b p c c' E cl rel).heap n=some .dead:=by
  intro n hn
  rw[afterPut_heap,if_neg hn]
  rcases kill_or (b:=b) (p:=p) (l:=σ.members cl) (h:=σ.heap) n with h|⟨h,_⟩
  ·exact .inl h
  ·exact .inr h
 intro c0 m h
 by_cases hc:c0=cl
 ·subst hc
  have hs:(afterPut σ b p c c' E c0 rel).cls c0=some ((b,rel+c.length)::keepL b p (σ.members c0)):=by simp[afterPut,CW.touch]
  rw[members_some hs] at h
  rcases List.mem_cons.1 h with rfl|h
  ·exact .inl ⟨c',E,rel,by rw[afterPut_heap,if_pos rfl],by rw[hl]⟩
  ·unfold keepL at h
   rw[List.mem_filter] at h
   simp only[decide_eq_true_eq] at h
   obtain⟨h1,h2,h3⟩:=h
   rcases keep m.1 h2 with hk|hk
   ·rcases hm.cases hi hb h1 with⟨x,E',rel',g1,g2⟩|g1
    ·exact .inl ⟨x,E',rel',by rw[hk];exact g1,g2⟩
    ·exact .inr (.inl (by rw[hk];exact g1))
   ·exact .inr (.inl hk)
 ·have hcls:(afterPut σ b p c c' E cl rel).cls c0=σ.cls c0:=by simp[afterPut,CW.touch,upd_ne _ _ hc]
  cases e:σ.cls c0 with
  |some l=>
   have h0:m∈σ.members c0:=by rw[members_some (hcls.trans e)] at h;rw[members_some e];exact h
   have hmb:m.1≠b:=by
    intro e2
    rcases hm c0 m h0 with⟨x,E',rel',g1,g2⟩|g1|⟨g1,_⟩
    ·rw[e2,hb] at g1;cases g1;exact hc rfl
    ·rw[e2,hb] at g1;cases g1
    ·rw[e] at g1;cases g1
   rcases keep m.1 hmb with hk|hk
   ·rcases hm c0 m h0 with⟨x,E',rel',g1,g2⟩|g1|⟨g1,_⟩
    ·exact .inl ⟨x,E',rel',by rw[hk];exact g1,g2⟩
    ·exact .inr (.inl (by rw[hk];exact g1))
    ·rw[e] at g1;cases g1
   ·exact .inr (.inl hk)
  |none=>
   obtain⟨x,E',cl',rel',h1,h2⟩:=members_none (hcls.trans e) h
   by_cases hcb:c0=b
   ·subst hcb
    rw[afterPut_heap,if_pos rfl] at h1
    cases h1
    exact .inr (.inr ⟨hcls.trans e,by rw[h2],c',E,cl,rel,by rw[afterPut_heap,if_pos rfl],fun e=>hc e.symm⟩)
   ·rw[afterPut_heap,if_neg hcb] at h1
    have h3:=(kill_live h1 (by simp)).1
    have h4:(afterPut σ b p c c' E cl rel).heap c0=σ.heap c0:=by rw[afterPut_heap,if_neg hcb,h1,h3]
    have h0:m∈σ.members c0:=by unfold CW.members;rw[e,h3,h2];simp
    rcases hm c0 m h0 with⟨y,E2,r2,g1,g2⟩|g1|⟨g1,g2,y,E2,cl2,r2,g3,g4⟩
    ·rw[h2] at g1 g2 ⊢
     exact .inl ⟨y,E2,r2,by rw[h4];exact g1,g2⟩
    ·rw[h2] at g1;rw[h3] at g1;cases g1
    ·exact .inr (.inr ⟨hcls.trans e,g2,y,E2,cl2,r2,by rw[h4];exact g3,g4⟩)
theorem MInv.grow {σ:CW}(hi:CInv σ)(hm:MInv σ){b p:Nat}{c cs:List Value}{E E':TypeId}{cl rel rel':Nat}(hb:σ.heap b=some (.cells c E cl rel)):MInv (grown σ cl p cs E' rel'):=by
 have hne:∀n x,σ.heap n=some x->n≠σ.next:=fun n x hx e=>by subst e;rw[hi.fresh _ (Nat.le_refl _)] at hx;cases hx
 have hcln:cl≠σ.next:=by have:=(hi.mem _ _ _ _ _ hb).2;omega
 have keep:∀n,n≠σ.next->(grown σ cl p cs E' rel').heap n=σ.heap n\/(grown σ cl p cs E' rel').heap n=some .dead:=by
  intro n hn
  rw[grown_heap,if_neg hn]
  rcases kill_or (b:=σ.next) (p:=p) (l:=σ.members cl) (h:=σ.heap) n with h|⟨h,_⟩
  ·exact .inl h
  ·exact .inr h
 intro c0 m h
 by_cases hc:c0=cl
 ·subst hc
  have hs:(grown σ c0 p cs E' rel').cls c0=some ((σ.next,rel'+cs.length)::keepL σ.next p (σ.members c0)):=by simp[CW.grow,CW.touch,CW.add]
  rw[members_some hs] at h
  rcases List.mem_cons.1 h with rfl|h
  ·exact .inl ⟨cs,E',rel',by rw[grown_heap,if_pos rfl],rfl⟩
  ·unfold keepL at h
   rw[List.mem_filter] at h
   simp only[decide_eq_true_eq] at h
   obtain⟨h1,h2,h3⟩:=h
   rcases keep m.1 h2 with hk|hk
   ·rcases hm.cases hi hb h1 with⟨x,E',rel',g1,g2⟩|g1
    ·exact .inl ⟨x,E',rel',by rw[hk];exact g1,g2⟩
    ·exact .inr (.inl (by rw[hk];exact g1))
   ·exact .inr (.inl hk)
 ·have hcls:(grown σ cl p cs E' rel').cls c0=σ.cls c0:=by simp[CW.grow,CW.touch,CW.add,upd_ne _ _ hc]
  cases e:σ.cls c0 with
  |some l=>
   have h0:m∈σ.members c0:=by rw[members_some (hcls.trans e)] at h;rw[members_some e];exact h
   rcases hm c0 m h0 with⟨x,E2,r2,g1,g2⟩|g1|⟨g1,_⟩
   ·rcases keep m.1 (hne _ _ g1) with hk|hk
    ·exact .inl ⟨x,E2,r2,by rw[hk];exact g1,g2⟩
    ·exact .inr (.inl hk)
   ·rcases keep m.1 (hne _ _ g1) with hk|hk
    ·exact .inr (.inl (by rw[hk];exact g1))
    ·exact .inr (.inl hk)
   ·rw[e] at g1;cases g1
  |none=>
   obtain⟨x,E2,cl2,r2,h1,h2⟩:=members_none (hcls.trans e) h
   by_cases hcb:c0=σ.next
   ·subst hcb
    rw[grown_heap,if_pos rfl] at h1
    cases h1
    exact .inr (.inr ⟨hcls.trans e,by rw[h2],cs,E',cl,rel',by rw[grown_heap,if_pos rfl],hcln⟩)
   ·rw[grown_heap,if_neg hcb] at h1
    have h3:=(kill_live h1 (by simp)).1
    have h4:(grown σ cl p cs E' rel').heap c0=σ.heap c0:=by rw[grown_heap,if_neg hcb,h1,h3]
    have h0:m∈σ.members c0:=by unfold CW.members;rw[e,h3,h2];simp
    rcases hm c0 m h0 with⟨y,E3,r3,g1,g2⟩|g1|⟨g1,g2,y,E3,cl3,r3,g3,g4⟩
    ·rw[h2] at g1 g2 ⊢
     exact .inl ⟨y,E3,r3,by rw[h4];exact g1,g2⟩
    ·rw[h2] at g1;rw[h3] at g1;cases g1
    ·exact .inr (.inr ⟨hcls.trans e,g2,y,E3,cl3,r3,by rw[h4];exact g3,g4⟩)
theorem set_heap {σ:CW}{b:Nat}{o:CObj}{n:Nat}:(σ.set b o).heap n=if n=b then some o else σ.heap n:=rfl
theorem set_members {σ:CW}{b:Nat}{o1 o2:CObj}(hb:σ.heap b=some o1)(h1:isCells o1=false)(h2:isCells o2=false)(c:Nat):(σ.set b o2).members c=σ.members c:=by
 unfold CW.members
 have:(σ.set b o2).cls c=σ.cls c:=rfl
 rw[this,set_heap]
 cases σ.cls c with
 |some l=>rfl
 |none=>
  by_cases e:c=b
  ·subst e
   rw[if_pos rfl,hb]
   cases o1<;>cases o2<;>first|(cases h2;done)|(cases h1;done)|rfl
  ·rw[if_neg e]
theorem CInv.set {σ:CW}(hi:CInv σ){b:Nat}{o1 o2:CObj}(hb:σ.heap b=some o1)(h1:isCells o1=false)(h2:isCells o2=false):CInv (σ.set b o2) where
 fresh:=by
  intro n hn
  have hn':σ.next<=n:=hn
  rw[set_heap,if_neg (by have:=heap_next hi hb;omega)];exact hi.fresh n hn'
 mem:=by
  intro n c E cl rel hn
  rw[set_heap] at hn
  split at hn
  ·cases hn;cases h2
  ·rw[set_members hb h1 h2];exact hi.mem n c E cl rel hn
 cls:=hi.cls
 rol:=hi.rol
theorem MInv.set {σ:CW}(hm:MInv σ){b:Nat}{o1 o2:CObj}(hb:σ.heap b=some o1)(h1:isRow o1=false)(h2:isCells o2=false):MInv (σ.set b o2):=by
 have h1':isCells o1=false:=by cases o1<;>first|rfl|cases h1
 intro cl m h
 rw[set_members hb h1' h2] at h
 have hne:∀n x,σ.heap n=some x->isRow x=true->n≠b:=fun n x hx hr e=>by subst e;rw[hb] at hx;cases hx;rw[h1] at hr;cases hr
 rcases hm cl m h with⟨c,E,rel,g1,g2⟩|g1|⟨g1,g2,c',E',cl',rel',g3,g4⟩
 ·exact .inl ⟨c,E,rel,by rw[set_heap,if_neg (hne _ _ g1 rfl)];exact g1,g2⟩
 ·exact .inr (.inl (by rw[set_heap,if_neg (hne _ _ g1 rfl)];exact g1))
 ·exact .inr (.inr ⟨g1,g2,c',E',cl',rel',by rw[set_heap,if_neg (hne _ _ g3 rfl)];exact g3,g4⟩)
section
variable {K:Nat->Prop}{F F':Nat->Nat}{h:AH}{σ σ':CW}
theorem AOk.keep (hx:Ext K F σ F' σ'){b:Nat}{o:AO}(hb:σ'.heap b=σ.heap b)(hF:F' b=F b)(hm:∀cs E c E' cl rel,o=.cells cs E->σ.heap b=some (.cells c E' cl rel)->σ'.members cl=σ.members cl/\∀m∈σ.members cl,F' m.1=F m.1)(h:AOk F σ b o):AOk F' σ' b o:=by
 cases o with
 |cells cs E=>
  obtain⟨h1,h2,c,cl,rel,h3,h4,e,l,h5,h6⟩:=h
  obtain⟨g1,g2⟩:=hm _ _ _ _ _ _ rfl h3
  exact⟨hF.trans h1,by rw[hx.ro];exact h2,c,cl,rel,hb.trans h3,h4.ext hx,e,l,g1.trans h5,fun m hmm=>(g2 m (by rw[h5];exact List.mem_cons_of_mem _ hmm)).trans (h6 m hmm)⟩
 |stat cs E=>
  obtain⟨h1,h2,c,cl,rel,h3,h4,h5,h6⟩:=h
  exact⟨by rw[hx.ro];exact h1,by rw[hx.inj];exact h2,c,cl,rel,hb.trans h3,hF.trans h4,h5,h6.ext hx⟩
 |map es=>
  obtain⟨h1,h2,es',ver,h3,h4⟩:=h
  exact⟨hF.trans h1,by rw[hx.ro];exact h2,es',ver,hb.trans h3,h4.ext hx⟩
 |iter todo cur=>
  obtain⟨h1,h2,h3⟩:=h
  refine⟨hF.trans h1,by rw[hx.ro];exact h2,?_⟩
  rcases h3 with⟨ver,seen,g1,g2⟩|⟨m,ver,seen,es',g1,g2,g3,g4,g5,g6⟩
  ·exact .inl ⟨ver,seen,hb.trans g1,g2⟩
  ·refine .inr ⟨m,ver,seen,es',hb.trans g1,hx.map _ _ _ g3 g2,Nat.lt_of_lt_of_le g3 (hx.up _),g4,g5.ext hx,fun k x hc=>?_⟩
   obtain⟨k',l,x',q1,q2,q3,q4⟩:=g6 k x hc
   exact⟨k',l,x',q1,q2,q3,q4.ext hx⟩
 |loop st fr frC ps as body pend=>
  obtain⟨h1,h2,h3,h4⟩:=h
  exact⟨hF.trans h1,by rw[hx.ro];exact h2,hb.trans h3,fun t=>(h4 t).ext hx⟩
theorem TokOk.keep (hx:Ext K F σ F' σ'){c:Nat}{k:Tok}(hb:σ'.heap k.cur=σ.heap k.cur)(hF:F' k.cur=F k.cur)
  (ho:∀b cc E rel,b≠k.cur->0<F' b->σ'.heap b=some (.cells cc E c rel)->∃cc' E',0<F b/\σ.heap b=some (.cells cc' E' c rel)/\cc'.length=cc.length)(h:TokOk F σ c k):TokOk F' σ' c k where
 ro:=by rw[hx.ro];exact h.ro
 row:=let ⟨cc,h1,h2⟩:=h.row;⟨cc,hb.trans h1,h2⟩
 fro:=by rw[hF];exact h.fro
 le:=h.le
 others:=by
  intro b cc E rel hne hp hc
  obtain⟨cc',E',g1,g2,g3⟩:=ho b cc E rel hne hp hc
  rw[<-g3];exact h.others b cc' E' rel hne g1 g2
theorem Ext.add (hA:AR F h σ){o:CObj}(n:Nat)(hK:∀b,K b->b<σ.next):Ext K F σ (upd F σ.next n) (σ.add o) where
 ro:=rfl
 inj:=rfl
 next:=Nat.le_succ _
 up:=by
  intro b
  by_cases e:b=σ.next
  ·subst e;rw[hA.fnext];exact Nat.zero_le _
  ·rw[upd_ne _ _ e];exact Nat.le_refl _
 row:=fun b c E cl rel hb hc=>⟨c,by rw[add_heap,if_neg (Nat.ne_of_lt (hA.flt hb))];exact hc,rfl,fun _ _=>rfl⟩
 map:=fun b es v hb hc=>by rw[add_heap,if_neg (Nat.ne_of_lt (hA.flt hb))];exact hc
 keep:=fun b hb=>by rw[add_heap,if_neg (Nat.ne_of_lt (hK b hb))]
theorem AR.add (hA:AR F h σ){o:CObj}{n:Nat}(ho:FreshO σ o)(hn:0<n->(∃c E cl rel,o=.cells c E cl rel/\n<=c.length)\/∃es v,o=.map es v):AR (upd F σ.next n) h (σ.add o):=by
 have hx:Ext (fun _=>False) F σ (upd F σ.next n) (σ.add o):=Ext.add hA n (fun _ h=>h.elim)
 refine⟨hA.inv.add ho,hA.mem.add hA.inv ho,fun b hb=>?_,fun b ob hb=>?_,fun c k hc=>?_,hA.sep,fun b cs E hb c E' cl rel hc=>?_⟩
 ·by_cases e:b=σ.next
  ·subst e
   rw[upd_same] at hb ⊢
   exact⟨o,by rw[add_heap,if_pos rfl],hn hb⟩
  ·rw[upd_ne _ _ e] at hb ⊢
   obtain⟨x,h1,h2⟩:=hA.fro b hb
   exact⟨x,by rw[add_heap,if_neg e];exact h1,h2⟩
 ·have hlt:=hA.lt hb
  refine (hA.obj b ob hb).keep hx (by rw[add_heap,if_neg (Nat.ne_of_lt hlt)]) (upd_ne _ _ (Nat.ne_of_lt hlt)) fun cs E c E' cl rel _ hc=>?_
  have hcl:=(hA.inv.mem _ _ _ _ _ hc).2
  refine⟨members_add hcl,fun m hm=>upd_ne _ _ ?_⟩
  intro e
  rcases hA.mem.cases hA.inv hc hm with⟨x,_,_,g,_⟩|g<;>(rw[e,hA.inv.fresh _ (Nat.le_refl _)] at g;cases g)
 ·have ht:=hA.tlt hc
  refine (hA.tok c k hc).keep hx (by rw[add_heap,if_neg (Nat.ne_of_lt ht.2)]) (upd_ne _ _ (Nat.ne_of_lt ht.2)) fun b cc E rel hne hp hcc=>?_
  by_cases e:b=σ.next
  ·subst e
   rw[add_heap,if_pos rfl] at hcc
   cases hcc
   have:=ho.1
   have:=ht.1
   omega
  ·rw[upd_ne _ _ e] at hp
   rw[add_heap,if_neg e] at hcc
   exact⟨cc,E,hp,hcc,rfl⟩
 ·have hlt:=hA.lt hb
  rw[add_heap,if_neg (Nat.ne_of_lt hlt)] at hc
  exact hA.own b cs E hb c E' cl rel hc
theorem AR.learn (hA:AR F h σ){b:Nat}{o:AO}(ho:AOk F σ b o)(hb:h.objs b=none)(ht:h.toks b=none)(hto:∀c E' cl rel,σ.heap b=some (.cells c E' cl rel)->h.toks cl=none):AR F (h.set b o) σ:=by
 refine⟨hA.inv,hA.mem,hA.fro,fun n x hn=>?_,hA.tok,fun n x hn=>?_,fun n cs E hn c E' cl rel hc=>?_⟩
 ·rw[AH.set_objs] at hn
  split at hn
  ·rename_i e;subst e;cases hn;exact ho
  ·exact hA.obj n x hn
 ·rw[AH.set_objs] at hn
  split at hn
  ·rename_i e;subst e;exact ht
  ·exact hA.sep n x hn
 ·rw[AH.set_objs] at hn
  split at hn
  ·rename_i e;subst e;exact hto c E' cl rel hc
  ·exact hA.own n cs E hn c E' cl rel hc
theorem AR.learn' {o:CObj}(hA:AR F h (σ.add o))(hi:CInv σ)(hf:FreshO σ o){a:AO}(ho:AOk F (σ.add o) σ.next a)(hb:h.objs σ.next=none)(ht:h.toks σ.next=none):AR F (h.set σ.next a) (σ.add o):=
 hA.learn ho hb ht fun c E' cl rel hc=>by
  rw[add_heap,if_pos rfl] at hc
  cases hc
  rw[hf.1];exact ht
theorem AR.learnT (hA:AR F h σ){c:Nat}{k:Tok}(hk:TokOk F σ c k)(hb:h.objs c=none)(hno:∀b cs E c0 E' rel,h.objs b=some (.cells cs E)->σ.heap b≠some (.cells c0 E' c rel)):AR F (h.setT c k) σ:=by
 refine⟨hA.inv,hA.mem,hA.fro,hA.obj,fun n x hn=>?_,fun n x hn=>?_,fun n cs E hn c0 E' cl rel hc=>?_⟩
 ·rw[AH.setT_toks] at hn
  split at hn
  ·rename_i e;subst e;cases hn;exact hk
  ·exact hA.tok n x hn
 ·rw[AH.setT_toks]
  split
  ·rename_i e;subst e;rw[AH.setT_objs,hb] at hn;cases hn
  ·exact hA.sep n x hn
 ·rw[AH.setT_toks]
  replace hn:h.objs n=some (.cells cs E):=hn
  split
  ·rename_i e;subst e;exact absurd hc (hno _ _ _ _ _ _ hn)
  ·exact hA.own n cs E hn c0 E' cl rel hc
end
end Go.Cn
namespace Go.Cn
set_option linter.unusedVariables false
set_option linter.unusedSimpArgs false
section
variable {K:Nat->Prop}{F F':Nat->Nat}{h:AH}{σ σ':CW}
theorem RpL.all_one {l:List AV}{l':List Value}(h:RpL F σ l l')(ho:l.all oneA=true):l'.all oneCell=true:=by
 rw[List.all_eq_true]
 intro y hy
 obtain⟨i,hi⟩:=List.getElem?_of_mem hy
 have hil:i<l.length:=by rw[h.1];exact (List.getElem?_eq_some_iff.1 hi).1
 exact (h.2 i l[i] y (by simp[hil]) hi).one (List.all_eq_true.1 ho _ (List.getElem_mem hil))
theorem putAt_len {l r vs:List Value}{i:Nat}(h:putAt l i vs=some r):r.length=l.length:=by
 unfold putAt at h
 split at h
 ·cases h;simp;omega
 ·cases h
theorem put_val {b off:Nat}{vs c c':List Value}{E:TypeId}{cl rel:Nat}(hb:σ.heap b=some (.cells c E cl rel))(hro:σ.ro<=b)(hone:vs.all oneCell=true)(hp:putAt c off vs=some c') :
  σ.put ⟨b,off,none⟩ vs=some (afterPut σ b (rel+off) c c' E cl rel):=by
 simp only[CW.put,hb,hp]
 rw[if_pos ⟨hro,hone⟩]
 rfl
theorem AOk.dead {b:Nat}{o:AO}(h:AOk F σ b o):σ.heap b≠some .dead:=by
 intro e
 cases o with
 |cells cs E=>obtain⟨_,_,c,_,_,g,_⟩:=h;rw[e] at g;cases g
 |stat cs E=>obtain⟨_,_,c,cl,rel,g,_⟩:=h;rw[e] at g;cases g
 |map es=>obtain⟨_,_,es',v,g,_⟩:=h;rw[e] at g;cases g
 |iter todo cur=>obtain⟨_,_,⟨_,_,g,_⟩|⟨_,_,_,_,g,_⟩⟩:=h<;>(rw[e] at g;cases g)
 |loop st fr frC ps as body pend=>obtain⟨_,_,g,_⟩:=h;rw[e] at g;cases g
theorem AOk.row {b:Nat}{o:AO}(h:AOk F σ b o){c:List Value}{E:TypeId}{cl rel:Nat}(hc:σ.heap b=some (.cells c E cl rel)):(∃cs E,o=.cells cs E)\/(0<F b/\b<σ.ro):=by
 cases o with
 |cells cs E=>exact .inl ⟨_,_,rfl⟩
 |stat cs E=>obtain⟨g1,_,_,_,_,_,g2,g3,_⟩:=h;exact .inr ⟨by omega,g1⟩
 |map es=>obtain⟨_,_,es',v,g,_⟩:=h;rw[hc] at g;cases g
 |iter todo cur=>obtain⟨_,_,⟨_,_,g,_⟩|⟨_,_,_,_,g,_⟩⟩:=h<;>(rw[hc] at g;cases g)
 |loop st fr frC ps as body pend=>obtain⟨_,_,g,_⟩:=h;rw[hc] at g;cases g
theorem AR.last (hA:AR F h σ){b:Nat}{cs:List AV}{E:TypeId}(hb:h.objs b=some (.cells cs E)){c:List Value}{E':TypeId}{cl rel:Nat}(hc:σ.heap b=some (.cells c E' cl rel)) :
  F b=0/\∃e l,σ.members cl=(b,e)::l/\∀m∈l,F m.1=0:=by
 obtain⟨hF,hro,c0,cl0,rel0,h1,h2,h3⟩:=hA.obj b _ hb
 rw[hc] at h1;cases h1
 exact⟨hF,h3⟩
theorem AR.two (hA:AR F h σ){b b':Nat}{cs cs':List AV}{E E':TypeId}(hb:h.objs b=some (.cells cs E))(hb':h.objs b'=some (.cells cs' E')){c c':List Value}{E1 E2:TypeId}{cl rel rel':Nat}
  (hc:σ.heap b=some (.cells c E1 cl rel))(hc':σ.heap b'=some (.cells c' E2 cl rel')):b'=b:=by
 obtain⟨_,e,l,h1,_⟩:=hA.last hb hc
 obtain⟨_,e',l',h2,_⟩:=hA.last hb' hc'
 rw[h1] at h2
 injection h2 with h2 _
 injection h2 with h2 _
 exact h2.symm
theorem AR.alone (hA:AR F h σ){b:Nat}{cs:List AV}{E:TypeId}(hb:h.objs b=some (.cells cs E)){c:List Value}{E':TypeId}{cl rel:Nat}(hc:σ.heap b=some (.cells c E' cl rel)){m:Nat×Nat}(hm:m∈σ.members cl)(hn:m.1≠b)
  (hkn:0<F m.1\/(∃o,h.objs m.1=some o)\/∃c' k',h.toks c'=some k'/\k'.cur=m.1):False:=by
 obtain⟨_,e,l,h3,h4⟩:=hA.last hb hc
 have hF0:F m.1=0:=by
  have hm':=hm
  rw[h3] at hm'
  rcases List.mem_cons.1 hm' with e|hm'
  ·rw[e] at hn;exact absurd rfl hn
  ·exact h4 m hm'
 have hcase:=hA.mem.cases hA.inv hc hm
 rcases hkn with hkn|⟨o,ho⟩|⟨c',k',hk',hkc⟩
 ·omega
 ·rcases hcase with⟨x,E2,rel2,g1,g2⟩|g1
  ·rcases (hA.obj _ _ ho).row g1 with⟨cs2,E3,rfl⟩|⟨g3,_⟩
   ·exact hn (hA.two hb ho hc g1)
   ·omega
  ·exact (hA.obj _ _ ho).dead g1
 ·obtain⟨y,g3,_⟩:=(hA.tok c' k' hk').row
  rw[hkc] at g3
  rcases hcase with⟨x,E2,rel2,g1,g2⟩|g1
  ·rw[g1] at g3
   injection g3 with g3
   injection g3 with _ _ g3 _
   have:=hA.own b cs E hb _ _ _ _ hc
   rw[g3,hk'] at this;cases this
  ·rw[g1] at g3;cases g3
theorem AR.aloneK (hA:AR F h σ){b:Nat}{cs:List AV}{E:TypeId}(hb:h.objs b=some (.cells cs E)){c:List Value}{E':TypeId}{cl rel b' p:Nat}(hc:σ.heap b=some (.cells c E' cl rel)){n:Nat}(hn:n≠b)
  (hkn:0<F n\/(∃o,h.objs n=some o)\/∃c' k',h.toks c'=some k'/\k'.cur=n):killL b' p (σ.members cl) σ.heap n=σ.heap n:=by
 rcases kill_or (b:=b') (p:=p) (l:=σ.members cl) (h:=σ.heap) n with g|⟨_,_,m,hm,rfl⟩
 ·exact g
 ·exact (hA.alone hb hc hm hn hkn).elim
theorem members_eq (hi:CInv σ){n:Nat}{c:List Value}{E:TypeId}{cl rel:Nat}(hc:σ.heap n=some (.cells c E cl rel))(hcls:σ'.cls cl=σ.cls cl)(hh:σ'.heap n=σ.heap n):σ'.members cl=σ.members cl:=by
 unfold CW.members
 rw[hcls]
 cases e:σ.cls cl with
 |some l=>rfl
 |none=>
  have:=mem_singleton_root e (hi.mem _ _ _ _ _ hc).1
  subst this
  simp only[hh]
def KOk (K:Nat->Prop)(h:AH):Prop:=∀b,K b->∃o,h.objs b=some o
theorem AR.put (hA:AR F h σ){b off:Nat}{cs cs' vs:List AV}{E:TypeId}{vs':List Value}(hb:h.objs b=some (.cells cs E))(hp:putA cs off vs=some cs')(ho:vs.all oneA=true)(hv:RpL F σ vs vs')(hK:¬K b)(hKK:KOk K h) :
  ∃σ',σ.put ⟨b,off,none⟩ vs'=some σ'/\AR F (h.set b (.cells cs' E)) σ'/\Ext K F σ F σ':=by
 obtain⟨hF,hro,c,cl,rel,hc,hl,e0,l0,hm0,hm⟩:=hA.obj b _ hb
 obtain⟨c',hp',hl'⟩:=putA_rp hp hl hv
 have hlen:=putAt_len hp'
 refine⟨_,put_val hc hro (hv.all_one ho) hp',?_,?_⟩
 all_goals
  have hother:∀n,n≠b->(0<F n\/(∃o,h.objs n=some o)\/∃c' k',h.toks c'=some k'/\k'.cur=n)->(afterPut σ b (rel+off) c c' E cl rel).heap n=σ.heap n:=by
   intro n hn hkn
   rw[afterPut_heap,if_neg hn]
   exact hA.aloneK hb hc hn hkn
  have hx:∀K:Nat->Prop,¬K b->KOk K h->Ext K F σ F (afterPut σ b (rel+off) c c' E cl rel):=fun K hK hKK=>by
   refine⟨rfl,rfl,Nat.le_refl _,fun _=>Nat.le_refl _,fun n x E' cl rel hn hx=>?_,fun n es v hn hx=>?_,fun n hn=>?_⟩
   ·have hnb:n≠b:=by rintro rfl;omega
    exact⟨x,(hother n hnb (.inl hn)).trans hx,rfl,fun _ _=>rfl⟩
   ·have hnb:n≠b:=by rintro rfl;omega
    exact (hother n hnb (.inl hn)).trans hx
   ·exact hother n (by rintro rfl;exact hK hn) (.inr (.inl (hKK n hn)))
 ·have hx0:=hx (fun _=>False) (fun h=>h) (fun _ h=>h.elim)
  have hcls:∀cl',cl'≠cl->(afterPut σ b (rel+off) c c' E cl rel).cls cl'=σ.cls cl':=fun cl' hcl=>by simp[afterPut,CW.touch,upd_ne _ _ hcl]
  refine⟨hA.inv.put hc hro hlen,hA.mem.put hA.inv hc hlen,fun n hn=>?_,fun n o hn=>?_,fun cl' k hk=>?_,fun n o hn=>?_,fun n ds E1 hn x E2 cl' rel' hx=>?_⟩
  ·obtain⟨o,h1,h2⟩:=hA.fro n hn
   exact⟨o,(hother n (by rintro rfl;omega) (.inl hn)).trans h1,h2⟩
  ·rw[AH.set_objs] at hn
   split at hn
   ·rename_i e;subst e;cases hn
    have hs:(afterPut σ n (rel+off) c c' E cl rel).cls cl=some ((n,rel+c.length)::keepL n (rel+off) (σ.members cl)):=by simp[afterPut,CW.touch]
    refine⟨hF,hro,c',cl,rel,by rw[afterPut_heap,if_pos rfl],hl'.ext hx0,_,_,members_some hs,fun m hmm=>?_⟩
    unfold keepL at hmm
    rw[List.mem_filter] at hmm
    simp only[decide_eq_true_eq] at hmm
    obtain⟨g1,g2,_⟩:=hmm
    rw[hm0] at g1
    rcases List.mem_cons.1 g1 with g1|g1
    ·rw[g1] at g2;exact absurd rfl g2
    ·exact hm m g1
   ·rename_i e
    refine (hA.obj n o hn).keep hx0 (hother n e (.inr (.inl ⟨o,hn⟩))) rfl fun ds E1 x E2 cl' rel' ho hxx=>?_
    subst ho
    have hcl:cl'≠cl:=fun ec=>e (hA.two hb hn hc (ec▸hxx))
    exact⟨members_eq hA.inv hxx (hcls cl' hcl) (hother n e (.inr (.inl ⟨_,hn⟩))),fun _ _=>rfl⟩
  ·replace hk:h.toks cl'=some k:=hk
   have hne:k.cur≠b:=by
    intro e
    obtain⟨cc,g1,_⟩:=(hA.tok cl' k hk).row
    rw[e,hc] at g1
    injection g1 with g1
    injection g1 with _ _ g1 _
    rw[<-g1,hA.own _ _ _ hb _ _ _ _ hc] at hk;cases hk
   refine (hA.tok cl' k hk).keep hx0 (hother _ hne (.inr (.inr ⟨cl',k,hk,rfl⟩))) rfl fun n cc E' rel hn hp hcc=>?_
   have hnb:n≠b:=by rintro rfl;omega
   rw[hother n hnb (.inl hp)] at hcc
   exact⟨cc,E',hp,hcc,rfl⟩
  ·rw[AH.set_objs] at hn
   split at hn
   ·rename_i e;subst e;exact hA.sep _ _ hb
   ·exact hA.sep n o hn
  ·rw[AH.set_objs] at hn
   split at hn
   ·rename_i e;subst e
    rw[afterPut_heap,if_pos rfl] at hx
    cases hx
    exact hA.own _ _ _ hb _ _ _ _ hc
   ·rename_i e
    rw[hother n e (.inr (.inl ⟨_,hn⟩))] at hx
    exact hA.own _ _ _ hn _ _ _ _ hx
 ·exact hx K hK hKK
theorem AR.setO (hA:AR F h σ){b:Nat}{o1 o2:CObj}{a1 a2:AO}(hb:h.objs b=some a1)(hF:F b=0)(hc:σ.heap b=some o1)(h1:isRow o1=false)(h2:isCells o2=false)(hK:¬K b)
  (ha:Ext (fun _=>False) F σ F (σ.set b o2)->AOk F (σ.set b o2) b a2):AR F (h.set b a2) (σ.set b o2)/\Ext K F σ F (σ.set b o2):=by
 have h1':isCells o1=false:=by cases o1<;>first|rfl|cases h1
 have hx:∀K:Nat->Prop,¬K b->Ext K F σ F (σ.set b o2):=fun K hK=>by
  refine⟨rfl,rfl,Nat.le_refl _,fun _=>Nat.le_refl _,fun n x E' cl rel hn hx=>?_,fun n es v hn hx=>?_,fun n hn=>?_⟩
  ·exact⟨x,by rw[set_heap,if_neg (by rintro rfl;omega)];exact hx,rfl,fun _ _=>rfl⟩
  ·rw[set_heap,if_neg (by rintro rfl;omega)];exact hx
  ·rw[set_heap,if_neg (by rintro rfl;exact hK hn)]
 have hx0:=hx (fun _=>False) (fun h=>h)
 refine⟨⟨hA.inv.set hc h1' h2,hA.mem.set hc h1 h2,fun n hn=>?_,fun n o hn=>?_,fun cl k hk=>?_,fun n o hn=>?_,fun n ds E1 hn x E2 cl' rel' hx=>?_⟩,hx K hK⟩
 ·obtain⟨o,g1,g2⟩:=hA.fro n hn
  exact⟨o,by rw[set_heap,if_neg (by rintro rfl;omega)];exact g1,g2⟩
 ·rw[AH.set_objs] at hn
  split at hn
  ·rename_i e;subst e;cases hn;exact ha hx0
  ·rename_i e
   exact (hA.obj n o hn).keep hx0 (by rw[set_heap,if_neg e]) rfl fun _ _ _ _ _ _ _ _=>⟨set_members hc h1' h2 _,fun _ _=>rfl⟩
 ·have hne:k.cur≠b:=by
   intro e
   obtain⟨cc,g1,_⟩:=(hA.tok cl k hk).row
   rw[e,hc] at g1;cases g1;cases h1
  refine (hA.tok cl k hk).keep hx0 (by rw[set_heap,if_neg hne]) rfl fun n cc E' rel hn hp hcc=>?_
  have hnb:n≠b:=by rintro rfl;omega
  rw[set_heap,if_neg hnb] at hcc
  exact⟨cc,E',hp,hcc,rfl⟩
 ·rw[AH.set_objs] at hn
  split at hn
  ·rename_i e;subst e;exact hA.sep _ _ hb
  ·exact hA.sep n o hn
 ·rw[AH.set_objs] at hn
  rw[set_heap] at hx
  split at hn
  ·rename_i e;rw[if_pos e] at hx;cases hx;cases h2
  ·rename_i e;rw[if_neg e] at hx;exact hA.own _ _ _ hn _ _ _ _ hx
def mputA (k v:AV):List (AV×AV)->Option (List (AV×AV))
 |[]=>some [(k,v)]
 |(k',v')::l=>match keyEqA k k' with
  |some true=>some ((k,v)::l)
  |some false=>match mputA k v l with
   |some r=>some ((k',v')::r)
   |none=>none
  |none=>none
def mdelA (k:AV):List (AV×AV)->Option (List (AV×AV))
 |[]=>some []
 |(k',v')::l=>match keyEqA k k' with
  |some true=>some l
  |some false=>match mdelA k l with
   |some r=>some ((k',v')::r)
   |none=>none
  |none=>none
theorem isKey_rp {str:Bool}{k:AV}{v:Value}(h:isKeyA str k=true)(hk:Rp F σ k v):isKey str v=true/\keyV k=some v:=by
 unfold isKeyA at h
 split at h
 ·rw[hk.str_inv];exact⟨h,rfl⟩
 ·rw[hk.int_inv];exact⟨h,rfl⟩
 ·cases h
theorem mput_rp {k v:AV}{k' v':Value}(hk:Rp F σ k k')(hkv:keyV k=some k')(hv:Rp F σ v v'):∀{es r:List (AV×AV)}{es':List (Value×Value)},mputA k v es=some r->EntR F σ es es'->∃r',mput k' v' es'=some r'/\EntR F σ r r'
 |[],r,es',h,he=>by
  cases h
  rw[he.nil_inv]
  exact⟨_,rfl,.cons hkv hv .nil⟩
 |(k0,a)::es,r,es',h,he=>by
  obtain⟨⟨q1,q2⟩,l,rfl,h1,h2,h3⟩:=he.of_cons
  unfold mputA at h
  split at h
  ·rename_i e;cases h
   exact⟨(k',v')::l,by simp only[mput,keyEq_rp e hk h1],.cons hkv hv h3⟩
  ·rename_i e
   split at h
   ·rename_i r0 e2
    cases h
    obtain⟨r',g1,g2⟩:=mput_rp hk hkv hv e2 h3
    exact⟨(q1,q2)::r',by simp only[mput,keyEq_rp e hk h1,g1],.cons h1 h2 g2⟩
   ·cases h
  ·cases h
theorem mdel_rp {k:AV}{k':Value}(hk:Rp F σ k k'):∀{es r:List (AV×AV)}{es':List (Value×Value)},mdelA k es=some r->EntR F σ es es'->∃r',mdel k' es'=some r'/\EntR F σ r r'
 |[],r,es',h,he=>by
  cases h
  rw[he.nil_inv]
  exact⟨_,rfl,.nil⟩
 |(k0,a)::es,r,es',h,he=>by
  obtain⟨⟨q1,q2⟩,l,rfl,h1,h2,h3⟩:=he.of_cons
  unfold mdelA at h
  split at h
  ·rename_i e;cases h
   exact⟨l,by simp only[mdel,keyEq_rp e hk h1],h3⟩
  ·rename_i e
   split at h
   ·rename_i r0 e2
    cases h
    obtain⟨r',g1,g2⟩:=mdel_rp hk e2 h3
    exact⟨(q1,q2)::r',by simp only[mdel,keyEq_rp e hk h1,g1],.cons h1 h2 g2⟩
   ·cases h
  ·cases h
theorem AR.safe (hA:AR F h σ){c:Nat}{k:Tok}(hk:h.toks c=some k){n:Nat}(hn:n≠k.cur)(hkn:0<F n\/(∃o,h.objs n=some o)\/∃c' k',h.toks c'=some k'/\k'.cur=n){b:Nat}:killL b k.p (σ.members c) σ.heap n=σ.heap n:=by
 have hT:=hA.tok c k hk
 obtain⟨cc,hrow,hcp⟩:=hT.row
 unfold killL
 rw[if_neg]
 rintro⟨_,m,hm,rfl,hlt⟩
 rcases hA.mem.cases hA.inv hrow hm with⟨x,E',rel',g1,g2⟩|g1
 ·rcases hkn with hkn|⟨o,hkn⟩|⟨c',k',hkn,hkc⟩
  ·have:=hT.others _ _ _ _ hn hkn g1;omega
  ·rcases (hA.obj _ _ hkn).row g1 with⟨cs2,E3,rfl⟩|⟨g3,_⟩
   ·rw[hA.own _ _ _ hkn _ _ _ _ g1] at hk;cases hk
   ·have:=hT.others _ _ _ _ hn g3 g1;omega
  ·obtain⟨y,g3,_⟩:=(hA.tok c' k' hkn).row
   rw[hkc,g1] at g3;cases g3
   rw[hkn] at hk;cases hk
   exact hn hkc.symm
 ·rcases hkn with hkn|⟨o,hkn⟩|⟨c',k',hkn,hkc⟩
  ·obtain⟨o,g2,g3⟩:=hA.fro _ hkn
   rw[g1] at g2;cases g2
   rcases g3 with⟨_,_,_,_,g3,_⟩|⟨_,_,g3⟩<;>cases g3
  ·exact (hA.obj _ _ hkn).dead g1
  ·obtain⟨y,g3,_⟩:=(hA.tok c' k' hkn).row
   rw[hkc,g1] at g3;cases g3
theorem AR.cur_free (hA:AR F h σ){c:Nat}{k:Tok}(hk:h.toks c=some k):h.objs k.cur=none:=by
 have hT:=hA.tok c k hk
 obtain⟨cc,hrow,hcp⟩:=hT.row
 cases e:h.objs k.cur with
 |none=>rfl
 |some o=>
  exfalso
  rcases (hA.obj _ _ e).row hrow with⟨cs2,E3,rfl⟩|⟨_,g1⟩
  ·rw[hA.own _ _ _ e _ _ _ _ hrow] at hk;cases hk
  ·have:=hT.ro;omega
theorem AR.obj_class (hA:AR F h σ){b c:Nat}{k:Tok}{o:AO}(hb:h.objs b=some o)(hk:h.toks c=some k):b≠c:=by
 rintro rfl
 rw[hA.sep _ _ hb] at hk;cases hk
theorem AR.appIn (hA:AR F h σ){c:Nat}{k:Tok}(hk:h.toks c=some k){vs:List AV}{vs':List Value}(hv:RpL F σ vs vs')(ho:vs.all oneA=true)(hfit:k.p+vs.length<=k.cp)(h0:vs≠[])(hK:KOk K h) :
  ∃σ',σ.put ⟨k.cur,k.p-k.rel,none⟩ vs'=some σ'/\AR (upd F k.cur (k.p+vs.length-k.rel)) (h.setT c {k with p:=k.p+vs.length}) σ'/\Ext K F σ (upd F k.cur (k.p+vs.length-k.rel)) σ'/\
   ∃cc cc',σ.heap k.cur=some (.cells cc k.E c k.rel)/\σ'.heap k.cur=some (.cells cc' k.E c k.rel)/\cc'.length=cc.length/\k.rel+cc.length=k.cp/\(∀i:Nat,i<k.p-k.rel->cc'[i]?=cc[i]?)/\∀i:Nat,i<vs.length->cc'[k.p-k.rel+i]?=vs'[i]?:=by
 have hT:=hA.tok c k hk
 obtain⟨cc,hrow,hcp⟩:=hT.row
 have hfro:=hT.fro
 have hle:=hT.le
 have hlen:vs.length=vs'.length:=hv.1
 have hpos:0<vs.length:=List.length_pos_iff.2 h0
 obtain⟨cc',hcc'⟩ : ∃cc',putAt cc (k.p-k.rel) vs'=some cc':=by unfold putAt;rw[if_pos (by omega)];exact⟨_,rfl⟩
 have hl':=putAt_len hcc'
 have hget:∀i:Nat,cc'[i]?=if i<k.p-k.rel then cc[i]? else if i<k.p-k.rel+vs.length then vs'[i-(k.p-k.rel)]? else cc[i]?:=by
  intro i
  unfold putAt at hcc'
  split at hcc'
  ·cases hcc'
   have e1:(cc.take (k.p-k.rel)).length=k.p-k.rel:=by simp;omega
   split
   ·rename_i hi
    rw[List.append_assoc,List.getElem?_append_left (by omega),List.getElem?_take,if_pos hi]
   ·rename_i hi
    rw[List.append_assoc,List.getElem?_append_right (by omega),e1]
    split
    ·rename_i hi2
     rw[List.getElem?_append_left (by omega)]
    ·rename_i hi2
     rw[List.getElem?_append_right (by omega),List.getElem?_drop]
     congr 1;omega
  ·cases hcc'
 have hp:k.rel+(k.p-k.rel)=k.p:=by omega
 have hother:∀n,n≠k.cur->(0<F n\/(∃o,h.objs n=some o)\/∃c' k',h.toks c'=some k'/\k'.cur=n)->(afterPut σ k.cur k.p cc cc' k.E c k.rel).heap n=σ.heap n:=by
  intro n hn hkn
  rw[afterPut_heap,if_neg hn]
  exact hA.safe hk hn hkn
 have hFu:∀n,n≠k.cur->upd F k.cur (k.p+vs.length-k.rel) n=F n:=fun n hn=>upd_ne _ _ hn
 have hx:∀K:Nat->Prop,KOk K h->Ext K F σ (upd F k.cur (k.p+vs.length-k.rel)) (afterPut σ k.cur k.p cc cc' k.E c k.rel):=fun K hK=>by
  refine⟨rfl,rfl,Nat.le_refl _,fun n=>?_,fun n x E' cl rel hn hx=>?_,fun n es v hn hx=>?_,fun n hn=>?_⟩
  ·by_cases e:n=k.cur
   ·subst e;rw[upd_same];omega
   ·rw[hFu n e];exact Nat.le_refl _
  ·by_cases e:n=k.cur
   ·subst e
    rw[hrow] at hx;cases hx
    exact⟨cc',by rw[afterPut_heap,if_pos rfl],hl',fun i hi=>by rw[hget,if_pos (by omega)]⟩
   ·exact⟨x,(hother n e (.inl hn)).trans hx,rfl,fun _ _=>rfl⟩
  ·have e:n≠k.cur:=by rintro rfl;rw[hrow] at hx;cases hx
   exact (hother n e (.inl hn)).trans hx
  ·obtain⟨o,ho⟩:=hK n hn
   have e:n≠k.cur:=by rintro rfl;rw[hA.cur_free hk] at ho;cases ho
   exact hother n e (.inr (.inl ⟨o,ho⟩))
 have hx0:=hx (fun _=>False) (fun _ h=>h.elim)
 refine⟨_,by have:=put_val hrow hT.ro (hv.all_one ho) hcc';rw[hp] at this;exact this,?_,hx K hK,cc,cc',hrow,by rw[afterPut_heap,if_pos rfl],hl',hcp,fun i hi=>by rw[hget,if_pos hi],fun i hi=>by
  rw[hget,if_neg (by omega),if_pos (by omega)];congr 1;omega⟩
 have hcls:∀cl,cl≠c->(afterPut σ k.cur k.p cc cc' k.E c k.rel).cls cl=σ.cls cl:=fun cl hcl=>by simp[afterPut,CW.touch,upd_ne _ _ hcl]
 refine⟨hA.inv.put hrow hT.ro hl',hA.mem.put hA.inv hrow hl',fun n hn=>?_,fun n o hn=>?_,fun cl k' hk'=>?_,fun n o hn=>?_,fun n ds E1 hn x E2 cl' rel' hxx=>?_⟩
 ·by_cases e:n=k.cur
  ·subst e
   exact⟨_,by rw[afterPut_heap,if_pos rfl],.inl ⟨cc',_,_,_,rfl,by rw[upd_same];omega⟩⟩
  ·rw[hFu n e] at hn ⊢
   obtain⟨o,g1,g2⟩:=hA.fro n hn
   exact⟨o,(hother n e (.inl hn)).trans g1,g2⟩
 ·have e:n≠k.cur:=by rintro rfl;rw[AH.setT_objs,hA.cur_free hk] at hn;cases hn
  refine (hA.obj n o hn).keep hx0 (hother n e (.inr (.inl ⟨o,hn⟩))) (hFu n e) fun ds E1 x E2 cl' rel' ho hxx=>?_
  subst ho
  have hcl:cl'≠c:=by rintro rfl;rw[hA.own _ _ _ hn _ _ _ _ hxx] at hk;cases hk
  refine⟨members_eq hA.inv hxx (hcls cl' hcl) (hother n e (.inr (.inl ⟨_,hn⟩))),fun m hm=>hFu _ ?_⟩
  intro e2
  rcases hA.mem.cases hA.inv hxx hm with⟨y,E3,r3,g1,_⟩|g1
  ·rw[e2,hrow] at g1;cases g1;exact hcl rfl
  ·rw[e2,hrow] at g1;cases g1
 ·rw[AH.setT_toks] at hk'
  split at hk'
  ·rename_i ec
   subst ec
   cases hk'
   refine⟨hT.ro,⟨cc',by rw[afterPut_heap,if_pos rfl],by show k.rel+cc'.length=k.cp;omega⟩,by show k.rel+upd F k.cur _ k.cur<=_;rw[upd_same];show k.rel+(k.p+vs.length-k.rel)<=k.p+vs.length;omega,hfit,fun b y E rel hb hFb hy=>?_⟩
   have hb':b≠k.cur:=hb
   rw[hFu b hb'] at hFb
   rw[hother b hb' (.inl hFb)] at hy
   have:=hT.others b y E rel hb' hFb hy
   show rel+y.length<=k.p+vs.length
   omega
  ·rename_i ec
   have hT':=hA.tok cl k' hk'
   have hne:k'.cur≠k.cur:=by
    intro e
    obtain⟨y,g,_⟩:=hT'.row
    rw[e,hrow] at g
    injection g with g
    injection g with _ _ g _
    exact ec g.symm
   refine hT'.keep hx0 (hother _ hne (.inr (.inr ⟨cl,k',hk',rfl⟩))) (hFu _ hne) fun b y E rel hb hFb hy=>?_
   have hb':b≠k.cur:=by
    rintro rfl
    rw[afterPut_heap,if_pos rfl] at hy;cases hy;exact ec rfl
   rw[hFu b hb'] at hFb
   rw[hother b hb' (.inl hFb)] at hy
   exact⟨y,E,hFb,hy,rfl⟩
 ·rw[AH.setT_toks]
  split
  ·rename_i ec;subst ec;exact absurd rfl (hA.obj_class hn hk)
  ·exact hA.sep n o hn
 ·have e:n≠k.cur:=by rintro rfl;rw[AH.setT_objs,hA.cur_free hk] at hn;cases hn
  replace hn:h.objs n=some (.cells ds E1):=hn
  rw[hother n e (.inr (.inl ⟨_,hn⟩))] at hxx
  have:=hA.own _ _ _ hn _ _ _ _ hxx
  rw[AH.setT_toks]
  split
  ·rename_i ec;subst ec;rw[this] at hk;cases hk
  ·exact this
theorem AR.appCopy (hA:AR F h σ){c:Nat}{k:Tok}(hk:h.toks c=some k)(hend:k.p=k.cp){cs:List Value}{r0 n:Nat}(hr:r0+cs.length=k.p+n)(hK:KOk K h) :
  AR (upd F σ.next cs.length) (h.setT c {k with cur:=σ.next,rel:=r0,p:=k.p+n,cp:=k.p+n}) (grown σ c k.p cs k.E r0)/\Ext K F σ (upd F σ.next cs.length) (grown σ c k.p cs k.E r0):=by
 have hT:=hA.tok c k hk
 obtain⟨cc,hrow,hcp⟩:=hT.row
 have hother:∀n,n≠σ.next->(0<F n\/(∃o,h.objs n=some o)\/∃c' k',h.toks c'=some k'/\k'.cur=n)->(grown σ c k.p cs k.E r0).heap n=σ.heap n:=by
  intro n hn hkn
  rw[grown_heap,if_neg hn]
  by_cases e:n=k.cur
  ·subst e
   unfold killL
   rw[if_neg]
   rintro⟨_,m,hm,he,hlt⟩
   rcases hA.mem.cases hA.inv hrow hm with⟨x,E',rel',g1,g2⟩|g1
   ·rw[he,hrow] at g1
    injection g1 with g1
    injection g1 with g3 _ _ g4
    rw[g3] at hcp
    omega
   ·rw[he,hrow] at g1;cases g1
  ·exact hA.safe hk e hkn
 have hFu:∀n,n≠σ.next->upd F σ.next cs.length n=F n:=fun n hn=>upd_ne _ _ hn
 have hx:∀K:Nat->Prop,KOk K h->Ext K F σ (upd F σ.next cs.length) (grown σ c k.p cs k.E r0):=fun K hK=>by
  refine⟨rfl,rfl,Nat.le_succ _,fun n=>?_,fun n x E' cl rel hn hx=>?_,fun n es v hn hx=>?_,fun n hn=>?_⟩
  ·by_cases e:n=σ.next
   ·subst e;rw[hA.fnext];exact Nat.zero_le _
   ·rw[hFu n e];exact Nat.le_refl _
  ·exact⟨x,(hother n (Nat.ne_of_lt (hA.flt hn)) (.inl hn)).trans hx,rfl,fun _ _=>rfl⟩
  ·exact (hother n (Nat.ne_of_lt (hA.flt hn)) (.inl hn)).trans hx
  ·obtain⟨o,ho⟩:=hK n hn
   exact hother n (Nat.ne_of_lt (hA.lt ho)) (.inr (.inl ⟨o,ho⟩))
 have hx0:=hx (fun _=>False) (fun _ h=>h.elim)
 refine⟨?_,hx K hK⟩
 have hcls:∀cl,cl≠c->(grown σ c k.p cs k.E r0).cls cl=σ.cls cl:=fun cl hcl=>by simp[CW.grow,CW.touch,CW.add,upd_ne _ _ hcl]
 refine⟨hA.inv.grow hrow hT.ro,hA.mem.grow hA.inv hrow,fun n hn=>?_,fun n o hn=>?_,fun cl k' hk'=>?_,fun n o hn=>?_,fun n ds E1 hn x E2 cl' rel' hxx=>?_⟩
 ·by_cases e:n=σ.next
  ·subst e
   exact⟨_,by rw[grown_heap,if_pos rfl],.inl ⟨cs,_,_,_,rfl,by rw[upd_same];exact Nat.le_refl _⟩⟩
  ·rw[hFu n e] at hn ⊢
   obtain⟨o,g1,g2⟩:=hA.fro n hn
   exact⟨o,(hother n e (.inl hn)).trans g1,g2⟩
 ·replace hn:h.objs n=some o:=hn
  have e:=Nat.ne_of_lt (hA.lt hn)
  refine (hA.obj n o hn).keep hx0 (hother n e (.inr (.inl ⟨o,hn⟩))) (hFu n e) fun ds E1 x E2 cl' rel' ho hxx=>?_
  subst ho
  have hcl:cl'≠c:=by rintro rfl;rw[hA.own _ _ _ hn _ _ _ _ hxx] at hk;cases hk
  refine⟨members_eq hA.inv hxx (hcls cl' hcl) (hother n e (.inr (.inl ⟨_,hn⟩))),fun m hm=>hFu _ ?_⟩
  intro e2
  rcases hA.mem.cases hA.inv hxx hm with⟨y,E3,r3,g1,_⟩|g1<;>(rw[e2,hA.inv.fresh _ (Nat.le_refl _)] at g1;cases g1)
 ·rw[AH.setT_toks] at hk'
  split at hk'
  ·rename_i ec
   subst ec
   cases hk'
   refine⟨Nat.le_trans hA.inv.rol (Nat.le_refl _),⟨cs,by rw[grown_heap,if_pos rfl],hr⟩,by show r0+upd F σ.next _ σ.next<=_;rw[upd_same];exact Nat.le_of_eq hr,Nat.le_refl _,fun b y E rel hb hFb hy=>?_⟩
   have hb':b≠σ.next:=hb
   rw[hFu b hb'] at hFb
   rw[hother b hb' (.inl hFb)] at hy
   show rel+y.length<=k.p+n
   by_cases ebc:b=k.cur
   ·subst ebc
    rw[hrow] at hy
    injection hy with hy
    injection hy with g3 _ _ g4
    rw[<-g3, <-g4];omega
   ·have:=hT.others b y E rel ebc hFb hy
    omega
  ·rename_i ec
   have hT':=hA.tok cl k' hk'
   have hne:k'.cur≠σ.next:=Nat.ne_of_lt (hA.tlt hk').2
   refine hT'.keep hx0 (hother _ hne (.inr (.inr ⟨cl,k',hk',rfl⟩))) (hFu _ hne) fun b y E rel hb hFb hy=>?_
   have hb':b≠σ.next:=by
    rintro rfl
    rw[grown_heap,if_pos rfl] at hy;cases hy;exact ec rfl
   rw[hFu b hb'] at hFb
   rw[hother b hb' (.inl hFb)] at hy
   exact⟨y,E,hFb,hy,rfl⟩
 ·rw[AH.setT_toks]
  replace hn:h.objs n=some o:=hn
  split
  ·rename_i ec;subst ec;exact absurd rfl (hA.obj_class hn hk)
  ·exact hA.sep n o hn
 ·replace hn:h.objs n=some (.cells ds E1):=hn
  rw[hother n (Nat.ne_of_lt (hA.lt hn)) (.inr (.inl ⟨_,hn⟩))] at hxx
  have:=hA.own _ _ _ hn _ _ _ _ hxx
  rw[AH.setT_toks]
  split
  ·rename_i ec;subst ec;rw[this] at hk;cases hk
  ·exact this
theorem AR.newOwn (hA:AR F h σ){c:List Value}{E:TypeId}{p sz:Nat}(hp:p<=c.length)(hK:KOk K h) :
  AR (upd F σ.next p) (h.setT σ.next ⟨σ.next,0,p,c.length,sz,E⟩) (σ.add (.cells c E σ.next 0))/\Ext K F σ (upd F σ.next p) (σ.add (.cells c E σ.next 0)):=by
 have h1:AR (upd F σ.next p) h (σ.add (.cells c E σ.next 0)):=hA.add ⟨rfl,rfl⟩ fun _=>.inl ⟨c,E,_,_,rfl,hp⟩
 refine⟨h1.learnT ⟨hA.inv.rol,⟨c,by rw[add_heap,if_pos rfl],Nat.zero_add _⟩,by show 0+upd F σ.next p σ.next<=p;rw[upd_same];omega,hp,fun b cc E' rel hb hFb hc=>?_⟩ hA.onext (fun b cs E2 c0 E3 rel hb hc=>by
  have hlt:=hA.lt hb
  rw[add_heap,if_neg (Nat.ne_of_lt hlt)] at hc
  have:=(hA.inv.mem _ _ _ _ _ hc).2
  omega),Ext.add hA p fun b hb=>let ⟨o,ho⟩:=hK b hb;hA.lt ho⟩
 have hb':b≠σ.next:=hb
 rw[add_heap,if_neg hb'] at hc
 have:=(hA.inv.mem _ _ _ _ _ hc).2
 omega
theorem AR.freeze (hA:AR F h σ){b:Nat}{o:AO}(hb:h.objs b=some o){n:Nat}(hn:(∃cs E,o=.cells cs E/\n=cs.length/\0<n)\/∃es,o=.map es/\n=1)(hK:¬K b) :
  AR (upd F b n) (h.del b) σ/\Ext K F σ (upd F b n) σ:=by
 have hF0:F b=0:=by
  have:=hA.obj b o hb
  rcases hn with⟨cs,E,rfl,_⟩|⟨es,rfl,_⟩<;>exact this.1
 have hx:∀K:Nat->Prop,Ext K F σ (upd F b n) σ:=fun K=>by
  refine⟨rfl,rfl,Nat.le_refl _,fun m=>?_,fun m x E' cl rel _ hx=>⟨x,hx,rfl,fun _ _=>rfl⟩,fun _ _ _ _ hx=>hx,fun _ _=>rfl⟩
  by_cases e:m=b
  ·subst e;rw[hF0];exact Nat.zero_le _
  ·rw[upd_ne _ _ e];exact Nat.le_refl _
 have hx0:=hx fun _=>False
 refine⟨⟨hA.inv,hA.mem,fun m hm=>?_,fun m x hm=>?_,fun c k hk=>?_,fun m x hm=>?_,fun m ds E1 hm x E2 cl' rel' hxx=>?_⟩,hx K⟩
 ·by_cases e:m=b
  ·subst e
   have hob:=hA.obj m o hb
   rw[upd_same]
   rcases hn with⟨cs,E,rfl,rfl,_⟩|⟨es,rfl,rfl⟩
   ·obtain⟨_,_,c,_,_,h1,h2,_⟩:=hob
    exact⟨_,h1,.inl ⟨c,_,_,_,rfl,by rw[h2.1];exact Nat.le_refl _⟩⟩
   ·obtain⟨_,_,es',v,h1,_⟩:=hob
    exact⟨_,h1,.inr ⟨_,_,rfl⟩⟩
  ·rw[upd_ne _ _ e] at hm ⊢;exact hA.fro m hm
 ·rw[AH.del_objs] at hm
  split at hm
  ·cases hm
  ·rename_i e
   refine (hA.obj m x hm).keep hx0 rfl (upd_ne _ _ e) fun ds E1 y E2 cl' rel' hox hxx=>⟨rfl,fun m2 hm2=>upd_ne _ _ fun e2=>?_⟩
   subst hox
   refine hA.alone hm hxx hm2 (fun e3=>e (e3.symm.trans e2)) (.inr (.inl ⟨o,by rw[e2];exact hb⟩))
 ·replace hk:h.toks c=some k:=hk
  have hT:=hA.tok c k hk
  have hne:k.cur≠b:=by rintro rfl;rw[hA.cur_free hk] at hb;cases hb
  refine hT.keep hx0 rfl (upd_ne _ _ hne) fun m y E rel hm hFm hy=>?_
  by_cases e:m=b
  ·subst e
   exfalso
   have hob:=hA.obj m o hb
   rcases hn with⟨cs,E,rfl,_⟩|⟨es,rfl,_⟩
   ·rw[hA.own _ _ _ hb _ _ _ _ hy] at hk;cases hk
   ·obtain⟨_,_,es',v,h1,_⟩:=hob
    rw[h1] at hy;cases hy
  ·rw[upd_ne _ _ e] at hFm
   exact⟨y,E,hFm,hy,rfl⟩
 ·rw[AH.del_objs] at hm
  split at hm
  ·cases hm
  ·exact hA.sep m x hm
 ·rw[AH.del_objs] at hm
  split at hm
  ·cases hm
  ·exact hA.own _ _ _ hm _ _ _ _ hxx
end
end Go.Cn
namespace Go.Cn
set_option linter.unusedVariables false
set_option linter.unusedSimpArgs false
def After (K:Nat->Prop)(F:Nat->Nat)(σ:CW)(fr:Fr)(σ':CW)(Q:AFr->AH->Prop):Prop:=
 ∃F' fr' h',Ext K F σ F' σ'/\AR F' h' σ'/\KOk K h'/\(∀t,Rp F' σ' (fr' t) (fr t))/\Q fr' h'
def W (T:Nat->Option CFun)(K:Nat->Prop)(c:CCode)(fr:AFr)(h:AH)(Q:CExit->AFr->AH->Prop):Prop:=
 ∀F σ (frC:Fr),AR F h σ->KOk K h->(∀t,Rp F σ (fr t) (frC t))->CodeW (CallA T) c frC σ fun e frC' σ'=>After K F σ frC' σ' (Q e)
def WS (T:Nat->Option CFun)(K:Nat->Prop)(l:List CStep)(fr:AFr)(h:AH)(Q:AFr->AH->Prop):Prop:=
 ∀F σ (frC:Fr),AR F h σ->KOk K h->(∀t,Rp F σ (fr t) (frC t))->StepsW (CallA T) l frC σ fun frC' σ'=>After K F σ frC' σ' Q
def ACall (T:Nat->Option CFun)(K:Nat->Prop)(f:Fn)(args:List AV)(h:AH)(Q:AV->AH->Prop):Prop:=
 ∀F σ argsC,AR F h σ->KOk K h->RpL F σ args argsC->CallA T f argsC σ fun v σ'=>∃F' a h',Ext K F σ F' σ'/\AR F' h' σ'/\KOk K h'/\Rp F' σ' a v/\Q a h'
def WO (T:Nat->Option CFun)(K:Nat->Prop)(o:COp)(fr:AFr)(h:AH)(Q:AV->AH->Prop):Prop:=
 ∀F σ (ρ:Operand->Value),AR F h σ->KOk K h->(∀x,Rp F σ (evA fr x) (ρ x))->OpW (CallA T) o ρ σ fun v σ'=>∃F' a h',Ext K F σ F' σ'/\AR F' h' σ'/\KOk K h'/\Rp F' σ' a v/\Q a h'
section
variable {T:Nat->Option CFun}{K:Nat->Prop}{fr:AFr}{h:AH}
theorem ACall.mono {f:Fn}{args:List AV}{Q Q':AV->AH->Prop}(hc:ACall T K f args h Q)(hQ:∀a h',Q a h'->Q' a h'):ACall T K f args h Q':=
 fun F σ argsC hA hK hl=>CallA.mono _ _ _ _ _ (hc F σ argsC hA hK hl) fun v σ' ⟨F',a,h',h1,h2,h3,h4,h5⟩=>⟨F',a,h',h1,h2,h3,h4,hQ _ _ h5⟩
theorem ACall.weak {f:Fn}{args args':List AV}{Q:AV->AH->Prop}(hc:ACall T K f args' h Q)(hl:args.length=args'.length)(hw:∀(i:Nat)(x y:AV),args[i]?=some x->args'[i]?=some y->Wk x y):ACall T K f args h Q:=
 fun F σ argsC hA hK hr=>hc F σ argsC hA hK ⟨hl▸hr.1,fun i x y hx hy=>by
  have hi:i<args.length:=by rw[hl];exact (List.getElem?_eq_some_iff.1 hx).1
  exact (hr.2 i args[i] y (by simp[hi]) hy).weak (hw i args[i] x (by simp[hi]) hx)⟩
theorem W.mono {c:CCode}{Q Q':CExit->AFr->AH->Prop}(hw:W T K c fr h Q)(hQ:∀e fr h,Q e fr h->Q' e fr h):W T K c fr h Q':=
 fun F σ frC hA hK hf=>(hw F σ frC hA hK hf).mono CallA.mono fun e frC' σ' ⟨F',fr',h',h1,h2,h3,h4,h5⟩=>⟨F',fr',h',h1,h2,h3,h4,hQ _ _ _ h5⟩
theorem After.trans {F F1:Nat->Nat}{σ σ1 σ2:CW}{frC:Fr}{Q:AFr->AH->Prop}(hx:Ext K F σ F1 σ1)(ha:After K F1 σ1 frC σ2 Q):After K F σ frC σ2 Q:=
 let ⟨F',fr',h',h1,h2⟩:=ha
 ⟨F',fr',h',hx.trans h1,h2⟩
theorem W.seq {a b:CCode}{R Q:CExit->AFr->AH->Prop}(h1:W T K a fr h R)(h2:∀fr h,R .normal fr h->W T K b fr h Q)(h3:∀e fr h,e≠.normal->R e fr h->Q e fr h):W T K (.seq a b) fr h Q:=by
 intro F σ frC hA hK hf
 refine .seq (h1 F σ frC hA hK hf) (fun frC1 σ1 ⟨F1,fr1,hh1,g1,g2,g3,g4,g5⟩=>?_) fun e frC1 σ1 he ⟨F1,fr1,hh1,g1,g2,g3,g4,g5⟩=>⟨F1,fr1,hh1,g1,g2,g3,g4,h3 e _ _ he g5⟩
 exact (h2 fr1 hh1 g5 F1 σ1 frC1 g2 g3 g4).mono CallA.mono fun e frC' σ' ha=>After.trans g1 ha
theorem W.cond {c:Operand}{a b:CCode}{t:Bool}{Q:CExit->AFr->AH->Prop}(hc:evA fr c=.bool t)(hw:W T K (if t then a else b) fr h Q):W T K (.cond c a b) fr h Q:=by
 intro F σ frC hA hK hf
 have hv:=evA_rp hf c
 rw[hc] at hv
 cases t with
 |true=>exact .yes hv.bool_inv (hw F σ frC hA hK hf)
 |false=>exact .no hv.bool_inv (hw F σ frC hA hK hf)
theorem W.block {id:Nat}{c:CCode}{R Q:CExit->AFr->AH->Prop}(h1:W T K c fr h R)(h2:∀e fr h,R e fr h->Q (if e=.exit id then .normal else e) fr h):W T K (.block id c) fr h Q:=
 fun F σ frC hA hK hf=>.block (h1 F σ frC hA hK hf) fun e frC1 σ1 ⟨F1,fr1,hh1,g1,g2,g3,g4,g5⟩=>⟨F1,fr1,hh1,g1,g2,g3,g4,h2 e _ _ g5⟩
theorem W.loop {c:CCode}{R Q:CExit->AFr->AH->Prop}(h1:W T K c fr h R)(h2:∀fr h,R .normal fr h->W T K (.loop c) fr h Q)(h3:∀e fr h,e≠.normal->R e fr h->Q e fr h):W T K (.loop c) fr h Q:=by
 intro F σ frC hA hK hf
 refine .loop (h1 F σ frC hA hK hf) (fun frC1 σ1 ⟨F1,fr1,hh1,g1,g2,g3,g4,g5⟩=>?_) fun e frC1 σ1 he ⟨F1,fr1,hh1,g1,g2,g3,g4,g5⟩=>⟨F1,fr1,hh1,g1,g2,g3,g4,h3 e _ _ he g5⟩
 exact (h2 fr1 hh1 g5 F1 σ1 frC1 g2 g3 g4).mono CallA.mono fun e frC' σ' ha=>After.trans g1 ha
theorem W.rounds {α:Type}{c:CCode}(I:α->AFr->AH->Prop)(μ:α->Nat){Q:CExit->AFr->AH->Prop}(hr:∀x fr h,I x fr h->W T K c fr h fun e fr h=>match e with|.normal=>∃y,μ y<μ x/\I y fr h|e=>Q e fr h) :
  ∀x fr h,I x fr h->W T K (.loop c) fr h Q:=by
 have key:∀n x fr h,μ x<n->I x fr h->W T K (.loop c) fr h Q:=by
  intro n
  induction n with
  |zero=>intro x fr h hlt;omega
  |succ n ih=>
   intro x fr h hlt hi
   refine .loop (hr x fr h hi) (fun fr h ⟨y,hy,hi'⟩=>ih y fr h (by omega) hi') fun e fr h he hq=>?_
   cases e with
   |normal=>exact absurd rfl he
   |exit id=>exact hq
   |ret=>exact hq
 exact fun x fr h hi=>key (μ x+1) x fr h (Nat.lt_succ_self _) hi
theorem W.drop {c:CCode}{h0:AH}{Q:CExit->AFr->AH->Prop}(hl:h0.le h)(hk:KOk K h->KOk K h0)(hc:W T K c fr h0 Q):W T K c fr h Q:=
 fun F σ frC hA hK hf=>hc F σ frC (hA.drop hl) (hk hK) hf
theorem Rp.lst_big {F:Nat->Nat}{σ:CW}{E:TypeId}{es:List (List AV)}{tag:Tag}{v:Value}(hr:Rp F σ (.lst E es tag) v):es.length<=big:=by
 generalize e:AV.lst E es tag=a at hr
 cases hr<;>injection e<;>subst_vars<;>first|exact Nat.zero_le _|assumption
theorem W.bound {c:CCode}{Q:CExit->AFr->AH->Prop}{t:Tmp}{E:TypeId}{es:List (List AV)}{tag:Tag}(ht:fr t=.lst E es tag)(hc:es.length<=big->W T K c fr h Q):W T K c fr h Q:=
 fun F σ frC hA hK hf=>hc (ht▸hf t:Rp F σ (.lst E es tag) (frC t)).lst_big F σ frC hA hK hf
end
def initA (args:List AV):AFr:=fun t=>(args[t]?).getD (.tuple [])
def resA1 (fr:AFr)(h:AH):CRes->Option AV
 |.tmp t=>some (fr t)
 |.ld1 t=>pevA (.ld1 (.tmp t)) (evA fr) h
 |.ldN n t=>pevA (.ldN n (.tmp t)) (evA fr) h
def resA (fr:AFr)(h:AH):List CRes->Option (List AV)
 |[]=>some []
 |r::l=>match resA1 fr h r,resA fr h l with
  |some a,some as=>some (a::as)
  |_,_=>none
def resVA:List AV->AV
 |[a]=>a
 |l=>.tuple l
theorem resA_rp {F:Nat->Nat}{h:AH}{σ:CW}{fr:AFr}{frC:Fr}(hA:AR F h σ)(hf:∀t,Rp F σ (fr t) (frC t)):∀{rs:List CRes}{as:List AV},resA fr h rs=some as->∃vs,resL frC σ rs=some vs/\RpL F σ as vs
 |[],as,he=>by cases he;exact⟨[],rfl,.nil⟩
 |r::rs,as,he=>by
  unfold resA at he
  split at he
  ·rename_i a as' e1 e2
   cases he
   obtain⟨vs,h1,h2⟩:=resA_rp hA hf e2
   have h3:∃v,res1 frC σ r=some v/\Rp F σ a v:=by
    cases r with
    |tmp t=>cases e1;exact⟨_,rfl,hf t⟩
    |ld1 t=>exact rp_pev hA (evA_rp hf) (show pevA (.ld1 (.tmp t)) (evA fr) h=some a from e1)
    |ldN n t=>exact rp_pev hA (evA_rp hf) (show pevA (.ldN n (.tmp t)) (evA fr) h=some a from e1)
   obtain⟨v,h3,h4⟩:=h3
   exact⟨v::vs,by simp only[resL,h3,h1],.cons h4 h2⟩
  ·cases he
theorem resV_rp {F:Nat->Nat}{σ:CW}{as:List AV}{vs:List Value}(h:RpL F σ as vs):Rp F σ (resVA as) (resV vs):=by
 have tup:Rp F σ (.tuple as) (.tuple vs.toArray):=.tuple (by simpa using h.1) fun i x y hi hy=>h.2 i x y hi (by simpa using hy)
 match as,vs,h with
 |[],[],h=>exact tup
 |[a],[v],h=>exact h.of_cons.1
 |_::_::_,_::_::_,h=>exact tup
 |[],_::_,h=>have:=h.1;simp at this
 |[_],[],h=>have:=h.1;simp at this
 |[_],_::_::_,h=>have:=h.1;simp at this
 |_::_::_,[],h=>have:=h.1;simp at this
 |_::_::_,[_],h=>have:=h.1;simp at this
theorem init_rp {F:Nat->Nat}{σ:CW}{args:List AV}{argsC:List Value}(h:RpL F σ args argsC)(t:Nat):Rp F σ (initA args t) (initFr argsC t):=by
 unfold initA initFr
 cases e:args[t]? with
 |some a=>
  obtain⟨v,h1,h2⟩:=h.left e
  rw[h1];exact h2
 |none=>
  have:argsC[t]?=none:=by rw[List.getElem?_eq_none_iff] at e ⊢;rw[<-h.1];exact e
  rw[this]
  exact .tuple rfl fun i x y h=>by simp at h
inductive Frz:AV->AH->AV->AH->Prop where
 |refl (a:AV)(h:AH):Frz a h a h
 |weak {a b c:AV}{h h':AH}(hw:Wk a b)(hf:Frz b h c h'):Frz a h c h'
 |drop {a c:AV}{h h0 h':AH}(hl:h0.le h)(hf:Frz a h0 c h'):Frz a h c h'
 |map {a b c:AV}{h h':AH}{n:Nat}{es:List (AV×AV)}(ho:h.objs n=some (.map es))(hc:∀F σ v,F n=1->(∃es' ver,σ.heap n=some (.map es' ver)/\EntR F σ es es')->Rp F σ a v->Rp F σ b v)(hf:Frz b (h.del n) c h'):Frz a h c h'
 |cells {a b c:AV}{h h':AH}{n:Nat}{cs:List AV}{E:TypeId}(ho:h.objs n=some (.cells cs E))(h0:cs≠[])
   (hc:∀F σ v,F n=cs.length->(∃x cl rel,σ.heap n=some (.cells x E cl rel)/\RpL F σ cs x)->Rp F σ a v->Rp F σ b v)(hf:Frz b (h.del n) c h'):Frz a h c h'
theorem Frz.gone {a c:AV}{h h':AH}(hz:Frz a h c h'):∀n,h.objs n=none->h'.objs n=none:=by
 induction hz with
 |refl=>exact fun n hn=>hn
 |weak _ _ ih=>exact ih
 |@drop a c h h0 h' hl _ ih=>
  intro n hn
  refine ih n ?_
  cases e:h0.objs n with
  |none=>rfl
  |some o=>rw[hl.1 n o e] at hn;cases hn
 |map _ _ _ ih=>exact fun n hn=>ih n (by rw[AH.del_objs];split<;>first|rfl|exact hn)
 |cells _ _ _ _ ih=>exact fun n hn=>ih n (by rw[AH.del_objs];split<;>first|rfl|exact hn)
theorem Frz.keep {K:Nat->Prop}{h h':AH}{n:Nat}{a c:AV}(hz:Frz a (h.del n) c h')(hK:KOk K h'):¬K n:=by
 intro hKn
 obtain⟨o,ho⟩:=hK n hKn
 rw[hz.gone n (by rw[AH.del_objs,if_pos rfl])] at ho
 cases ho
theorem Frz.ok {K:Nat->Prop}{a c:AV}{h h':AH}(hz:Frz a h c h'):KOk K h'->∀{F:Nat->Nat}{σ:CW}{v:Value},AR F h σ->Rp F σ a v->∃F',Ext K F σ F' σ/\AR F' h' σ/\Rp F' σ c v:=by
 induction hz with
 |refl a h=>exact fun hK _ _ _ hA hr=>⟨_,.refl,hA,hr⟩
 |weak hw _ ih=>exact fun hK _ _ _ hA hr=>ih hK hA (hr.weak hw)
 |drop hl _ ih=>exact fun hK _ _ _ hA hr=>ih hK (hA.drop hl) hr
 |@map a b c h h' n es ho hc hf ih=>
  intro hK F σ v hA hr
  obtain⟨h1,h2⟩:=hA.freeze (K:=K) ho (.inr ⟨es,rfl,rfl⟩) (hf.keep hK)
  obtain⟨_,_,es',ver,g1,g2⟩:=hA.obj n _ ho
  have hr':=hc _ σ v (upd_same F n 1) ⟨es',ver,g1,g2.ext h2⟩ (hr.ext h2)
  obtain⟨F',q1,q2,q3⟩:=ih hK h1 hr'
  exact⟨F',h2.trans q1,q2,q3⟩
 |@cells a b c h h' n cs E ho h0 hc hf ih=>
  intro hK F σ v hA hr
  obtain⟨h1,h2⟩:=hA.freeze (K:=K) ho (.inl ⟨cs,E,rfl,rfl,List.length_pos_iff.2 h0⟩) (hf.keep hK)
  obtain⟨_,_,x,cl,rel,g1,g2,_⟩:=hA.obj n _ ho
  have hr':=hc _ σ v (upd_same F n cs.length) ⟨x,cl,rel,g1,g2.ext h2⟩ (hr.ext h2)
  obtain⟨F',q1,q2,q3⟩:=ih hK h1 hr'
  exact⟨F',h2.trans q1,q2,q3⟩
theorem ACall.func {T:Nat->Option CFun}{K:Nat->Prop}{f:Nat}{cf:CFun}{args:List AV}{h:AH}{Q:AV->AH->Prop}(hf:T f=some cf)
  (hw:KOk K h->W T K cf.body (initA args) h fun e fr h'=>(e=.normal\/e=.ret)/\∃as,resA fr h' cf.res=some as/\∃a h'',Frz (resVA as) h' a h''/\KOk K h''/\Q a h''):ACall T K (.func f) args h Q:=by
 intro F σ argsC hA hK hl
 refine CallA.func hf ((hw hK F σ _ hA hK (init_rp hl)).mono CallA.mono fun e frC σ' ⟨F1,fr1,h1,g1,g2,g3,g4,g5,as,g6,a,h2,g7,g8,g9⟩=>⟨g5,?_⟩)
 obtain⟨vs,q1,q2⟩:=resA_rp g2 g4 g6
 obtain⟨F2,r1,r2,r3⟩:=g7.ok (K:=K) g8 g2 (resV_rp q2)
 exact⟨vs,q1,F2,a,h2,g1.trans r1,r2,g8,r3,g9⟩
end Go.Cn
namespace Go.Cn
set_option linter.unusedVariables false
set_option linter.unusedSimpArgs false
def setA (fr:AFr):Option Tmp->AV->AFr
 |none,_=>fr
 |some t,v=>upd fr t v
theorem setA_rp {F:Nat->Nat}{σ:CW}{fr:AFr}{frC:Fr}{a:AV}{v:Value}(hf:∀t,Rp F σ (fr t) (frC t))(hv:Rp F σ a v)(d:Option Tmp):∀t,Rp F σ (setA fr d a t) (putT frC d v t):=by
 cases d with
 |none=>exact hf
 |some d=>
  intro t
  by_cases e:t=d
  ·subst e;simp only[setA,putT,upd_same];exact hv
  ·simp only[setA,putT,upd_ne _ _ e];exact hf t
def notT (t:Option Tmp):Operand->Bool
 |.tmp u=> !(t==some u)
 |_=>true
theorem evA_setA {fr:AFr}{d:Option Tmp}{a:AV}{x:Operand}(hx:notT d x=true):evA (setA fr d a) x=evA fr x:=by
 cases x with
 |tmp u=>
  cases d with
  |none=>rfl
  |some t=>
   have:u≠t:=by intro e;subst e;simp[notT] at hx
   show upd fr t a u=fr u
   exact upd_ne _ _ this
 |const v=>rfl
 |global g=>rfl
 |func f=>rfl
theorem ev_putT {fr:Fr}{d:Option Tmp}{a:Value}{x:Operand}(hx:notT d x=true):ev (putT fr d a) x=ev fr x:=by
 cases x with
 |tmp u=>
  cases d with
  |none=>rfl
  |some t=>
   have:u≠t:=by intro e;subst e;simp[notT] at hx
   show upd fr t a u=fr u
   exact upd_ne _ _ this
 |const v=>rfl
 |global g=>rfl
 |func f=>rfl
theorem StepsW.app {C:CallQ}(hC:LeC C C):∀{l m:List CStep}{fr:Fr}{σ:CW}{K:Fr->CW->Prop},StepsW C l fr σ (fun fr σ=>StepsW C m fr σ K)->StepsW C (l++m) fr σ K
 |[],m,fr,σ,K,h=>h
 |s::l,m,fr,σ,K,h=>StepW.mono hC h fun fr σ h=>StepsW.app hC h
section
variable {T:Nat->Option CFun}{K:Nat->Prop}{fr:AFr}{h:AH}
theorem WS.nil {Q:AFr->AH->Prop}(hq:Q fr h):WS T K [] fr h Q:=fun F σ frC hA hK hf=>⟨F,fr,h,.refl,hA,hK,hf,hq⟩
theorem WS.app {l m:List CStep}{R Q:AFr->AH->Prop}(h1:WS T K l fr h R)(h2:∀fr h,R fr h->WS T K m fr h Q):WS T K (l++m) fr h Q:=
 fun F σ frC hA hK hf=>StepsW.app CallA.mono (StepsW.mono CallA.mono (h1 F σ frC hA hK hf) fun frC1 σ1 ⟨F1,fr1,hh1,g1,g2,g3,g4,g5⟩=>
  StepsW.mono CallA.mono (h2 fr1 hh1 g5 F1 σ1 frC1 g2 g3 g4) fun _ _ ha=>After.trans g1 ha)
theorem WS.one {d:Option Tmp}{o:COp}{Q:AFr->AH->Prop}(hw:WO T K o fr h fun a h=>Q (setA fr d a) h):WS T K [⟨d,none,o⟩] fr h Q:=
 fun F σ frC hA hK hf=>.inl ⟨rfl,OpW.mono CallA.mono (hw F σ _ hA hK (evA_rp hf)) fun v σ' ⟨F',a,h',h1,h2,h3,h4,h5⟩=>
  ⟨F',_,h',h1,h2,h3,setA_rp (fun t=>(hf t).ext h1) h4 d,h5⟩⟩
theorem WS.yes {d:Option Tmp}{o:COp}{t:Tmp}{b:Bool}{Q:AFr->AH->Prop}(hg:fr t=.bool b)(hw:WS T K [⟨d,none,o⟩] fr h Q):WS T K [⟨d,some (t,b),o⟩] fr h Q:=by
 intro F σ frC hA hK hf
 have hv:=hf t
 rw[hg] at hv
 rcases hw F σ frC hA hK hf with⟨_,h2⟩|⟨h1,_⟩
 ·exact .inl ⟨by simp only[wants,hv.bool_inv];cases b<;>rfl,h2⟩
 ·cases h1
theorem Rp.und (F:Nat->Nat)(σ:CW):Rp F σ (.tuple []) cundef:=.tuple rfl fun i x y h=>by simp at h
theorem Rp.und_inv {F:Nat->Nat}{σ:CW}{v:Value}(h:Rp F σ (.tuple []) v):v=cundef:=by
 cases h with
 |@tuple _ a hl _=>
  have:a= #[]:=Array.eq_empty_of_size_eq_zero hl.symm
  rw[this];rfl
theorem WS.skip {d:Option Tmp}{o:COp}{t:Tmp}{b c:Bool}{Q:AFr->AH->Prop}(hg:fr t=.bool c)(hn:(c==b)=false)(hw:Q (setA fr d (.tuple [])) h):WS T K [⟨d,some (t,b),o⟩] fr h Q:=by
 intro F σ frC hA hK hf
 have hv:=hf t
 rw[hg] at hv
 exact .inr ⟨by simp only[wants,hv.bool_inv];exact hn,F,_,h,.refl,hA,hK,setA_rp hf (.und _ _) d,hw⟩
theorem WS.skipU {d:Option Tmp}{o:COp}{t:Tmp}{b:Bool}{Q:AFr->AH->Prop}(hg:fr t=.tuple [])(hw:Q (setA fr d (.tuple [])) h):WS T K [⟨d,some (t,b),o⟩] fr h Q:=by
 intro F σ frC hA hK hf
 have hv:=hf t
 rw[hg] at hv
 exact .inr ⟨by simp only[wants,hv.und_inv];rfl,F,_,h,.refl,hA,hK,setA_rp hf (.und _ _) d,hw⟩
theorem WO.p {o:POp}{a:AV}{Q:AV->AH->Prop}(he:pevA o (evA fr) h=some a)(hq:Q a h):WO T K (.p o) fr h Q:=
 fun F σ ρ hA hK hρ=>let ⟨v,h1,h2⟩:=rp_pev hA hρ he;⟨v,h1,F,a,h,.refl,hA,hK,h2,hq⟩
theorem WO.newO {o:AOp}{mk:Nat->AV}{ob:AO}{Q:AV->AH->Prop}
  (he:∀F σ ρ,AR F h σ->(∀x,Rp F σ (evA fr x) (ρ x))->∃obj v,aev o ρ σ.next=some (obj,v)/\FreshO σ obj/\∀F',(∀b,F' b=F b\/b=σ.next/\F' b=0)->AR F' h (σ.add obj)->Ext K F σ F' (σ.add obj)->AOk F' (σ.add obj) σ.next ob/\Rp F' (σ.add obj) (mk σ.next) v)
  (hq:∀b,h.objs b=none->¬K b->Q (mk b) (h.set b ob)):WO T K (.a o) fr h Q:=by
 intro F σ ρ hA hK hρ
 obtain⟨obj,v,h1,h2,h3⟩:=he F σ ρ hA hρ
 have hlt:∀b,K b->b<σ.next:=fun b hb=>let ⟨o,ho⟩:=hK b hb;hA.lt ho
 have hx:=Ext.add hA (o:=obj) 0 hlt
 have hA1:AR (upd F σ.next 0) h (σ.add obj):=hA.add h2 fun h=>absurd h (by omega)
 obtain⟨h4,h5⟩:=h3 _ (fun b=>by by_cases e:b=σ.next<;>simp[upd,e]) hA1 hx
 refine⟨obj,v,h1,upd F σ.next 0,mk σ.next,h.set σ.next ob,hx,hA1.learn' hA.inv h2 h4 hA.onext hA.tnext,fun b hb=>?_,h5,hq _ hA.onext fun hk=>absurd (hlt _ hk) (by omega)⟩
 obtain⟨o',ho'⟩:=hK b hb
 exact⟨o',by rw[AH.set_ne _ _ (by have:=hA.lt ho';omega)];exact ho'⟩
theorem WO.newF {o:AOp}{a:AV}{Q:AV->AH->Prop}
  (he:∀F σ ρ,AR F h σ->(∀x,Rp F σ (evA fr x) (ρ x))->∃c E v n,aev o ρ σ.next=some (.cells c E σ.next 0,v)/\n<=c.length/\∀F',F' σ.next=n->Ext K F σ F' (σ.add (.cells c E σ.next 0))->Rp F' (σ.add (.cells c E σ.next 0)) a v)
  (hq:Q a h):WO T K (.a o) fr h Q:=by
 intro F σ ρ hA hK hρ
 obtain⟨c,E,v,n,h1,h2,h3⟩:=he F σ ρ hA hρ
 have hlt:∀b,K b->b<σ.next:=fun b hb=>let ⟨o,ho⟩:=hK b hb;hA.lt ho
 have hx:=Ext.add hA (o:=.cells c E σ.next 0) n hlt
 have hA1:AR (upd F σ.next n) h (σ.add (.cells c E σ.next 0)):=hA.add ⟨rfl,rfl⟩ fun _=>.inl ⟨c,E,_,_,rfl,h2⟩
 exact⟨_,v,h1,upd F σ.next n,a,h,hx,hA1,hK,h3 _ (upd_same _ _ _) hx,hq⟩
theorem consts_rp {F:Nat->Nat}{σ:CW}(zs:List Value):RpL F σ (zs.map ofC1) zs:=by
 have:=RpL.map (F:=F) (σ:=σ) ofC1 (fun v=>v) zs fun v _=>ofC1_rp F σ v
 rwa [List.map_id'] at this
theorem members_new {σ:CW}(hi:CInv σ){c:List Value}{E:TypeId}{F:Nat->Nat}:∃e l,(σ.add (.cells c E σ.next 0)).members σ.next=(σ.next,e)::l/\∀m∈l,F m.1=0:=by
 have hn:(σ.add (.cells c E σ.next 0)).cls σ.next=none:=cls_next hi
 refine⟨c.length,[],?_,fun m hm=>by cases hm⟩
 unfold CW.members
 rw[hn,add_heap,if_pos rfl]
theorem WO.alloc {E:TypeId}{zs:List Value}{Q:AV->AH->Prop}(hq:∀b,h.objs b=none->¬K b->Q (.ptr b 0) (h.set b (.cells (zs.map ofC1) E))):WO T K (.a (.alloc E zs)) fr h Q:=by
 refine WO.newO (mk:=fun b=>.ptr b 0) (ob:=.cells (zs.map ofC1) E) (fun F σ ρ hA hρ=>⟨_,_,rfl,⟨rfl,rfl⟩,fun F' hF' hA' hx=>⟨⟨?_,hA.inv.rol,zs,_,_,by rw[add_heap,if_pos rfl],consts_rp zs,members_new hA.inv⟩,.ptr _ _⟩⟩) hq
 rcases hF' σ.next with e|⟨_,e⟩
 ·rw[e];exact hA.fnext
 ·exact e
theorem WO.zero {E:TypeId}{zs:List Value}{Q:AV->AH->Prop}(h0:zs≠[])(hq:Q (.rptr (zs.map ofC1)) h):WO T K (.a (.alloc E zs)) fr h Q:=by
 refine WO.newF (fun F σ ρ hA hρ=>⟨zs,E,_,zs.length,rfl,Nat.le_refl _,fun F' hF hx=>?_⟩) hq
 have hv:=consts_rp (F:=F') (σ:=σ.add (.cells zs E σ.next 0)) zs
 refine .rptr (by rw[add_heap,if_pos rfl]) (by simp[h0]) (by simp[hF]) (by simp) fun i x y hi hy=>hv.2 i x y hi (by simpa using hy)
theorem WO.box {E:TypeId}{x:Operand}{Q:AV->AH->Prop}(ha:isAny (evA fr x)=false)(hq:∀b,h.objs b=none->¬K b->Q (.ptr b 0) (h.set b (.cells (cellsA (evA fr x)) E))):WO T K (.a (.box E x)) fr h Q:=by
 refine WO.newO (mk:=fun b=>.ptr b 0) (ob:=.cells (cellsA (evA fr x)) E) (fun F σ ρ hA hρ=>⟨_,_,rfl,⟨rfl,rfl⟩,fun F' hF' hA' hx=>⟨⟨?_,hA.inv.rol,_,_,_,by rw[add_heap,if_pos rfl],((hρ x).cells (by intro e;rw[e] at ha;cases ha)).ext hx,members_new hA.inv⟩,.ptr _ _⟩⟩) hq
 rcases hF' σ.next with e|⟨_,e⟩
 ·rw[e];exact hA.fnext
 ·exact e
theorem WO.boxF {E:TypeId}{x:Operand}{Q:AV->AH->Prop}(ha:isAny (evA fr x)=false)(h0:cellsA (evA fr x)≠[])(hq:Q (.rptr (cellsA (evA fr x))) h):WO T K (.a (.box E x)) fr h Q:=by
 refine WO.newF (fun F σ ρ hA hρ=>?_) hq
 have hv:=(hρ x).cells (by intro e;rw[e] at ha;cases ha)
 refine⟨cellsOf (ρ x),E,_,(cellsOf (ρ x)).length,rfl,Nat.le_refl _,fun F' hF hx=>?_⟩
 refine .rptr (by rw[add_heap,if_pos rfl]) h0 (by rw[hF,hv.1];omega) (by rw[hv.1];omega) fun i x y hi hy=>(hv.2 i x y hi (by simpa using hy)).ext hx
theorem WO.mkmap {Q:AV->AH->Prop}(hq:∀b,h.objs b=none->¬K b->Q (.map b) (h.set b (.map []))):WO T K (.a .mkmap) fr h Q:=by
 refine WO.newO (mk:=fun b=>.map b) (ob:=.map []) (fun F σ ρ hA hρ=>⟨_,_,rfl,trivial,fun F' hF' hA' hx=>⟨⟨?_,hA.inv.rol,[],0,by rw[add_heap,if_pos rfl],rfl,fun i p q hp=>by simp at hp⟩,.map _⟩⟩) hq
 rcases hF' σ.next with e|⟨_,e⟩
 ·rw[e];exact hA.fnext
 ·exact e
def chunkA (sz:Nat):Nat->List AV->List (List AV)
 |0,_=>[]
 |n+1,l=>l.take sz::chunkA sz n (l.drop sz)
theorem chunkA_len {sz:Nat}:∀{n:Nat}{l:List AV},(chunkA sz n l).length=n
 |0,l=>rfl
 |n+1,l=>by simp[chunkA,chunkA_len]
theorem chunkA_each {sz:Nat}:∀{n:Nat}{l:List AV},n*sz<=l.length->∀e∈chunkA sz n l,e.length=sz
 |0,l,_,e,he=>by cases he
 |n+1,l,hl,e,he=>by
  rw[Nat.add_mul] at hl
  rcases List.mem_cons.1 he with rfl|he
  ·simp;omega
  ·exact chunkA_each (by simp;omega) e he
theorem chunkA_flat {sz:Nat}:∀{n:Nat}{l:List AV},l.length=n*sz->(chunkA sz n l).flatten=l
 |0,l,h=>by
  have:l=[]:=List.length_eq_zero_iff.1 (by simpa using h)
  subst this;rfl
 |n+1,l,h=>by
  rw[Nat.add_mul] at h
  show (l.take sz)++(chunkA sz n (l.drop sz)).flatten=l
  rw[chunkA_flat (by simp;omega),List.take_append_drop]
theorem fillA_len:∀{ps:List (Nat×Nat×AV)}{l r:List AV},fillA l ps=some r->r.length=l.length
 |[],l,r,h=>by cases h;rfl
 |(o,s,x)::ps,l,r,h=>by
  simp only[fillA] at h
  split at h
  ·split at h
   ·rename_i l1 h1
    rw[fillA_len h]
    unfold putA at h1
    split at h1
    ·cases h1;simp;omega
    ·cases h1
   ·cases h
  ·cases h
theorem WO.bsl {E:TypeId}{zero:List Value}{n:Nat}{parts:List (Nat×Nat×Operand)}{cs:List AV}{Q:AV->AH->Prop}
  (hf:fillA ((zerosL zero n).map ofC1) (parts.map fun (o,s,x)=>(o,s,evA fr x))=some cs)(h0:0<n)(hz:0<zero.length)(hB:n<=big)(hq:Q (.lst E (chunkA zero.length n cs) .no) h):WO T K (.a (.bsl E zero n parts)) fr h Q:=by
 refine WO.newF (fun F σ ρ hA hρ=>?_) hq
 obtain⟨r,h1,h2⟩:=fillA_rp hρ hf (consts_rp (zerosL zero n))
 have hl:cs.length=n*zero.length:=by rw[fillA_len hf];simp[zerosL_len]
 refine⟨r,E,.slice (some ⟨σ.next,0,none⟩) n n,r.length,by simp only[aev,h1],Nat.le_refl _,fun F' hF hx=>?_⟩
 have:=Rp.lst (F:=F') (σ:=σ.add (.cells r E σ.next 0)) (E:=E) (es:=chunkA zero.length n cs) (t:=.no) (b:=σ.next) (off:=0) (cap:=n) (sz:=zero.length) (by rw[add_heap,if_pos rfl])
  (by intro e;have:=congrArg List.length e;rw[chunkA_len] at this;simp at this;omega) hz (chunkA_each (by omega)) (by rw[chunkA_len,hF, <-h2.1,hl];omega) (by rw[chunkA_len, <-h2.1,hl];omega) (by rw[chunkA_len];omega) (by rw[chunkA_len];exact hB) (.inl rfl)
  (fun i x y hi hy=>by rw[chunkA_flat hl] at hi;exact (h2.2 i x y hi (by simpa using hy)).ext hx)
 rwa [chunkA_len] at this
theorem WO.newT {o:AOp}{es:List (List AV)}{E:TypeId}{sz:Nat}{Q:AV->AH->Prop}(cp:Nat)
  (he:∀F σ ρ,AR F h σ->(∀x,Rp F σ (evA fr x) (ρ x))->∃c v,aev o ρ σ.next=some (.cells c E σ.next 0,v)/\c.length=cp/\es.length*sz<=cp/\∀F',F' σ.next=es.length*sz->Ext K F σ F' (σ.add (.cells c E σ.next 0))->Rp F' (σ.add (.cells c E σ.next 0)) (.lst E es (.own σ.next σ.next 0 (es.length*sz) cp sz)) v)
  (hq:∀b,h.toks b=none->h.objs b=none->Q (.lst E es (.own b b 0 (es.length*sz) cp sz)) (h.setT b ⟨b,0,es.length*sz,cp,sz,E⟩)):WO T K (.a o) fr h Q:=by
 intro F σ ρ hA hK hρ
 obtain⟨c,v,h1,h2,h3,h4⟩:=he F σ ρ hA hρ
 obtain⟨g1,g2⟩:=hA.newOwn (K:=K) (c:=c) (E:=E) (p:=es.length*sz) (sz:=sz) (by omega) hK
 rw[h2] at g1
 exact⟨_,v,h1,_,_,_,g2,g1,hK,h4 _ (upd_same _ _ _) g2,hq _ hA.tnext hA.onext⟩
theorem WO.bslT {E:TypeId}{zero:List Value}{n:Nat}{parts:List (Nat×Nat×Operand)}{cs:List AV}{Q:AV->AH->Prop}
  (hf:fillA ((zerosL zero n).map ofC1) (parts.map fun (o,s,x)=>(o,s,evA fr x))=some cs)(h0:0<n)(hz:0<zero.length)(hB:n<=big)
  (hq:∀b,h.toks b=none->h.objs b=none->Q (.lst E (chunkA zero.length n cs) (.own b b 0 (n*zero.length) (n*zero.length) zero.length)) (h.setT b ⟨b,0,n*zero.length,n*zero.length,zero.length,E⟩)):WO T K (.a (.bsl E zero n parts)) fr h Q:=by
 have hl:cs.length=n*zero.length:=by rw[fillA_len hf];simp[zerosL_len]
 refine WO.newT (es:=chunkA zero.length n cs) (E:=E) (sz:=zero.length) (n*zero.length) (fun F σ ρ hA hρ=>?_) (by simpa only[chunkA_len] using hq)
 obtain⟨r,h1,h2⟩:=fillA_rp hρ hf (consts_rp (zerosL zero n))
 refine⟨r,.slice (some ⟨σ.next,0,none⟩) n n,by simp only[aev,h1],by rw[<-h2.1,hl],by rw[chunkA_len];omega,fun F' hF hx=>?_⟩
 rw[chunkA_len] at hF
 have:=Rp.lst (F:=F') (σ:=σ.add (.cells r E σ.next 0)) (E:=E) (es:=chunkA zero.length n cs) (t:=.own σ.next σ.next 0 (0+0+(chunkA zero.length n cs).length*zero.length) (0+0+n*zero.length) zero.length) (b:=σ.next) (off:=0) (cap:=n) (sz:=zero.length) (by rw[add_heap,if_pos rfl])
  (by intro e;have:=congrArg List.length e;rw[chunkA_len] at this;simp at this;omega) hz (chunkA_each (by omega)) (by rw[chunkA_len,hF];omega) (by rw[chunkA_len, <-h2.1,hl];omega) (by rw[chunkA_len];omega) (by rw[chunkA_len];exact hB) (.inr rfl)
  (fun i x y hi hy=>by rw[chunkA_flat hl] at hi;exact (h2.2 i x y hi (by simpa using hy)).ext hx)
 simpa only[chunkA_len,Nat.zero_add] using this
theorem WO.bslT0 {E:TypeId}{zero:List Value}{Q:AV->AH->Prop}
  (hq:∀b,h.toks b=none->h.objs b=none->Q (.lst E [] (.own b b 0 0 0 zero.length)) (h.setT b ⟨b,0,0,0,zero.length,E⟩)):WO T K (.a (.bsl E zero 0 [])) fr h Q:=by
 refine WO.newT (es:=[]) (E:=E) (sz:=zero.length) 0 (fun F σ ρ hA hρ=>⟨[],_,rfl,rfl,by simp,fun F' hF hx=>?_⟩) (by simpa using hq)
 simp only[List.length_nil,Nat.zero_mul]
 exact .lstO E rfl (by simp)
theorem WO.mksl0 {E:TypeId}{bytes:Nat}{zero:List Value}{l c:Operand}{j k:IntKind}{n:Nat}{Q:AV->AH->Prop}(hl:evA fr l=.int j 0)(hc:evA fr c=.int k n)(hz:bytes*n<=1099511627776)(hn:n<=1099511627776)
  (hq:∀b,h.toks b=none->h.objs b=none->Q (.lst E [] (.own b b 0 0 (n*zero.length) zero.length)) (h.setT b ⟨b,0,0,n*zero.length,zero.length,E⟩)):WO T K (.a (.mksl E bytes zero l c)) fr h Q:=by
 refine WO.newT (es:=[]) (E:=E) (sz:=zero.length) (n*zero.length) (fun F σ ρ hA hρ=>?_) (by simpa using hq)
 have h1:=hρ l;rw[hl] at h1
 have h2:=hρ c;rw[hc] at h2
 refine⟨zerosL zero n,.slice (some ⟨σ.next,0,none⟩) 0 n,?_,zerosL_len _ _,by simp,fun F' hF hx=>?_⟩
 ·simp only[aev,h1.int_inv,h2.int_inv]
  rw[if_pos ⟨by omega,by omega,by rw[<-Int.natCast_mul];omega,by omega⟩]
  rfl
 ·simp only[List.length_nil,Nat.zero_mul]
  exact .lstO E rfl (by simp)
theorem WO.mksl {E:TypeId}{bytes:Nat}{zero:List Value}{l c:Operand}{j k:IntKind}{m n:Nat}{Q:AV->AH->Prop}(hl:evA fr l=.int j m)(hc:evA fr c=.int k n)(hmn:m<=n)(hz:bytes*n<=1099511627776)(hn:n<=1099511627776)
  (hq:∀b,h.objs b=none->¬K b->Q (.slice b 0 m n) (h.set b (.cells ((zerosL zero n).map ofC1) E))):WO T K (.a (.mksl E bytes zero l c)) fr h Q:=by
 refine WO.newO (mk:=fun b=>.slice b 0 m n) (ob:=.cells ((zerosL zero n).map ofC1) E) (fun F σ ρ hA hρ=>?_) hq
 have h1:=hρ l;rw[hl] at h1
 have h2:=hρ c;rw[hc] at h2
 refine⟨.cells (zerosL zero n) E σ.next 0,.slice (some ⟨σ.next,0,none⟩) m n,?_,⟨rfl,rfl⟩,fun F' hF' hA' hx=>⟨⟨?_,hA.inv.rol,zerosL zero n,_,_,by rw[add_heap,if_pos rfl],consts_rp _,members_new hA.inv⟩,.slice hmn⟩⟩
 ·simp only[aev,h1.int_inv,h2.int_inv]
  rw[if_pos ⟨by omega,by omega,by rw[<-Int.natCast_mul];omega,by omega⟩]
  rfl
 ·rcases hF' σ.next with e|⟨_,e⟩
  ·rw[e];exact hA.fnext
  ·exact e
theorem flat_one (s:List UInt8):(s.map fun c=>[AV.int .u8 c.toNat]).flatten=s.map fun c=>AV.int .u8 c.toNat:=by
 induction s with
 |nil=>rfl
 |cons a l ih=>simp only[List.map_cons,List.flatten_cons,ih];rfl
theorem WO.s2b {E:TypeId}{x:Operand}{s:List UInt8}{Q:AV->AH->Prop}(hx:evA fr x=.str s)(hB:s.length<=big)(hq:Q (.lst E (s.map fun c=>[.int .u8 c.toNat]) .no) h):WO T K (.a (.s2b E x)) fr h Q:=by
 refine WO.newF (fun F σ ρ hA hρ=>?_) hq
 have hv:=hρ x;rw[hx] at hv
 refine⟨s.map fun c=>.int .u8 c.toNat,E,.slice (some ⟨σ.next,0,none⟩) s.length s.length,s.length,?_,by simp,fun F' hF hx=>?_⟩
 ·simp only[aev,hv.str_inv];rfl
 ·by_cases h0:s=[]
  ·subst h0;exact .lstE E _ _ _
  ·have:=Rp.lst (F:=F') (σ:=σ.add (.cells (s.map fun c=>.int .u8 c.toNat) E σ.next 0)) (E:=E) (es:=s.map fun c=>[AV.int .u8 c.toNat]) (t:=.no) (b:=σ.next) (off:=0) (cap:=s.length) (sz:=1) (by rw[add_heap,if_pos rfl])
    (by simpa using h0) (by omega) (by simp) (by simp[hF]) (by simp) (by simp) (by simpa using hB) (.inl rfl) (fun i x y hi hy=>?_)
   ·simpa using this
   ·rw[flat_one] at hi
    simp only[Nat.zero_add,List.getElem?_map] at hi hy
    cases hs:s[i]?<;>rw[hs] at hi hy<;>simp at hi hy
    subst hi hy;exact .int _ _
theorem KOk.set {K:Nat->Prop}{h:AH}(hK:KOk K h)(b:Nat)(o:AO):KOk K (h.set b o):=fun n hn=>by
 rw[AH.set_objs];split
 ·exact⟨o,rfl⟩
 ·exact hK n hn
theorem KOk.del {K:Nat->Prop}{h:AH}(hK:KOk K h){b:Nat}(hb:¬K b):KOk K (h.del b):=fun n hn=>by
 rw[AH.del_objs,if_neg (by rintro rfl;exact hb hn)];exact hK n hn
theorem AR.store {F:Nat->Nat}{σ:CW}(hA:AR F h σ)(hK:KOk K h){b off:Nat}{cs cs':List AV}{E:TypeId}{x:AV}{v:Value}(hb:h.objs b=some (.cells cs E))(hKb:¬K b)(hx:isAny x=false)(ho:(cellsA x).all oneA=true)
  (hp:putA cs off (cellsA x)=some cs')(hv:Rp F σ x v):∃σ',σ.put ⟨b,off,none⟩ (cellsOf v)=some σ'/\(cellsOf v).length=(cellsA x).length/\AR F (h.set b (.cells cs' E)) σ'/\Ext K F σ F σ'/\KOk K (h.set b (.cells cs' E)):=by
 have hc:=hv.cells (by intro e;rw[e] at hx;cases hx)
 obtain⟨σ',h1,h2,h3⟩:=hA.put hb hp ho hc hKb hK
 exact⟨σ',h1,hc.1.symm,h2,h3,hK.set _ _⟩
theorem WO.stN {n:Nat}{a x:Operand}{b off:Nat}{cs cs':List AV}{E:TypeId}{Q:AV->AH->Prop}(ha:evA fr a=.ptr b off)(hb:h.objs b=some (.cells cs E))(hKb:¬K b)(hx:isAny (evA fr x)=false)(hl:(cellsA (evA fr x)).length=n)
  (ho:(cellsA (evA fr x)).all oneA=true)(hp:putA cs off (cellsA (evA fr x))=some cs')(hq:Q .any (h.set b (.cells cs' E))):WO T K (.e (.stN n a x)) fr h Q:=by
 intro F σ ρ hA hK hρ
 obtain⟨σ',h1,h2,h3,h4,h5⟩:=hA.store hK hb hKb hx ho hp (hρ x)
 have hv:=hρ a;rw[ha] at hv
 cases hv':ρ a<;>rw[hv'] at hv<;>cases hv
 exact⟨cundef,σ',by simp only[eev,hv',h2,hl,if_true,h1],F,.any,_,h4,h3,h5,.any _,hq⟩
theorem WO.st1 {a x:Operand}{b off:Nat}{cs cs':List AV}{E:TypeId}{Q:AV->AH->Prop}(ha:evA fr a=.ptr b off)(hb:h.objs b=some (.cells cs E))(hKb:¬K b)(hx:isAny (evA fr x)=false)(hl:(cellsA (evA fr x)).length=1)
  (ho:(cellsA (evA fr x)).all oneA=true)(hp:putA cs off (cellsA (evA fr x))=some cs')(hq:Q .any (h.set b (.cells cs' E))):WO T K (.e (.st1 a x)) fr h Q:=by
 intro F σ ρ hA hK hρ
 obtain⟨σ',h1,h2,h3,h4,h5⟩:=hA.store hK hb hKb hx ho hp (hρ x)
 have hv:=hρ a;rw[ha] at hv
 cases hv':ρ a<;>rw[hv'] at hv<;>cases hv
 rw[hl] at h2
 obtain⟨w,hw⟩ : ∃w,cellsOf (ρ x)=[w]:=by
  match cellsOf (ρ x),h2 with
  |[w],_=>exact⟨w,rfl⟩
 rw[hw] at h1
 exact⟨cundef,σ',by simp only[eev,hv',hw,h1],F,.any,_,h4,h3,h5,.any _,hq⟩
theorem WS.fz {l:List CStep}{t:Tmp}{b:Nat}{cs:List AV}{E:TypeId}{Q:AFr->AH->Prop}(hKb:¬K b)
  (hw:WS T K l fr h fun fr h=>fr t=.ptr b 0/\h.objs b=some (.cells cs E)/\cs≠[]/\Q (upd fr t (.rptr cs)) (h.del b)):WS T K l fr h Q:=by
 intro F σ frC hA hK hf
 refine StepsW.mono CallA.mono (hw F σ frC hA hK hf) fun frC' σ' ⟨F',fr',h',g1,g2,g3,g4,g5,g6,g7,g8⟩=>?_
 obtain⟨q1,q2⟩:=g2.freeze (K:=K) g6 (.inl ⟨cs,E,rfl,rfl,List.length_pos_iff.2 g7⟩) hKb
 refine⟨_,_,_,g1.trans q2,q1,g3.del hKb,fun u=>?_,g8⟩
 by_cases e:u=t
 ·subst e
  rw[upd_same]
  have hv:=g4 u;rw[g5] at hv
  obtain⟨_,_,c,_,_,e1,e2,e3⟩:=g2.obj b _ g6
  cases hv':frC' u<;>rw[hv'] at hv<;>cases hv
  exact .rptr e1 g7 (by rw[upd_same];omega) (by rw[e2.1];omega) fun i x y hi hy=>(e2.2 i x y hi (by simpa using hy)).ext q2
 ·rw[upd_ne _ _ e];exact (g4 u).ext q2
theorem WO.mapupd {str:Bool}{m k x:Operand}{b:Nat}{es r:List (AV×AV)}{Q:AV->AH->Prop}(hm:evA fr m=.map b)(hb:h.objs b=some (.map es))(hKb:¬K b)(hk:isKeyA str (evA fr k)=true)
  (hp:mputA (evA fr k) (evA fr x) es=some r)(hq:Q .any (h.set b (.map r))):WO T K (.e (.mapupd str m k x)) fr h Q:=by
 intro F σ ρ hA hK hρ
 obtain⟨hF,hro,es',ver,g1,g2⟩:=hA.obj b _ hb
 obtain⟨k1,k2⟩:=isKey_rp hk (hρ k)
 obtain⟨r',q1,q2⟩:=mput_rp (hρ k) k2 (hρ x) hp g2
 have hv:=hρ m;rw[hm] at hv
 cases hv':ρ m<;>rw[hv'] at hv<;>cases hv
 obtain⟨u1,u2⟩:=hA.setO (K:=K) (o2:=.map r' (ver+1)) (a2:=.map r) hb hF g1 rfl rfl hKb fun hx=>⟨hF,hro,r',ver+1,by rw[set_heap,if_pos rfl],q2.ext hx⟩
 exact⟨cundef,_,by simp only[eev,hv',g1];rw[if_pos ⟨k1,hro⟩,q1];rfl,F,.any,_,u2,u1,hK.set _ _,.any _,hq⟩
theorem WO.delete {str:Bool}{m k:Operand}{b:Nat}{es r:List (AV×AV)}{Q:AV->AH->Prop}(hm:evA fr m=.map b)(hb:h.objs b=some (.map es))(hKb:¬K b)(hk:isKeyA str (evA fr k)=true)
  (hp:mdelA (evA fr k) es=some r)(hq:Q .any (h.set b (.map r))):WO T K (.e (.delete str m k)) fr h Q:=by
 intro F σ ρ hA hK hρ
 obtain⟨hF,hro,es',ver,g1,g2⟩:=hA.obj b _ hb
 obtain⟨k1,k2⟩:=isKey_rp hk (hρ k)
 obtain⟨r',q1,q2⟩:=mdel_rp (hρ k) hp g2
 have hv:=hρ m;rw[hm] at hv
 cases hv':ρ m<;>rw[hv'] at hv<;>cases hv
 obtain⟨u1,u2⟩:=hA.setO (K:=K) (o2:=.map r' (ver+1)) (a2:=.map r) hb hF g1 rfl rfl hKb fun hx=>⟨hF,hro,r',ver+1,by rw[set_heap,if_pos rfl],q2.ext hx⟩
 exact⟨cundef,_,by simp only[eev,hv',g1];rw[if_pos ⟨k1,hro⟩,q1];rfl,F,.any,_,u2,u1,hK.set _ _,.any _,hq⟩
theorem args_rp {F:Nat->Nat}{σ:CW}{ρA:Operand->AV}{ρ:Operand->Value}(hρ:∀x,Rp F σ (ρA x) (ρ x))(args:List Operand):RpL F σ (args.map ρA) (args.map ρ):=.map _ _ _ fun x _=>hρ x
theorem WO.call {f:FuncId}{args:List Operand}{Q:AV->AH->Prop}(hc:ACall T K (.func f) (args.map (evA fr)) h Q):WO T K (.e (.call f args)) fr h Q:=
 fun F σ ρ hA hK hρ=>hc F σ _ hA hK (args_rp hρ args)
theorem WO.callv {x:Operand}{args:List Operand}{f:Nat}{a b:List AV}{Q:AV->AH->Prop}(hx:evA fr x=.func f a b)(hc:ACall T K (.func f) (a++args.map (evA fr)++b) h Q):WO T K (.e (.callv x args)) fr h Q:=by
 intro F σ ρ hA hK hρ
 have hv:=hρ x;rw[hx] at hv
 cases hv':ρ x<;>rw[hv'] at hv<;>cases hv
 rename_i ha h1 hb h2
 exact⟨_,_,_,hv',hc F σ _ hA hK (((show RpL F σ a _ from⟨by simpa using ha,fun i x y hi hy=>h1 i x y hi (by simpa using hy)⟩).append (args_rp hρ args)).append ⟨by simpa using hb,fun i x y hi hy=>h2 i x y hi (by simpa using hy)⟩)⟩
theorem WO.cally {x:Operand}{args:List Operand}{c:Nat}{Q:AV->AH->Prop}(hx:evA fr x=.yield c)(hc:ACall T K (.yield c) (args.map (evA fr)) h Q):WO T K (.e (.callv x args)) fr h Q:=by
 intro F σ ρ hA hK hρ
 have hv:=hρ x;rw[hx] at hv
 cases hv':ρ x<;>rw[hv'] at hv<;>cases hv
 exact⟨_,_,_,hv',by simpa using hc F σ _ hA hK (args_rp hρ args)⟩
end
end Go.Cn
namespace Go.Cn
set_option linter.unusedVariables false
set_option linter.unusedSimpArgs false
def rdOps:POp->Option (List Operand)
 |.ld1 x=>some [x]
 |.ldN _ x=>some [x]
 |.lookup _ _ _ m k=>some [m,k]
 |.lenM x=>some [x]
 |.b2s x=>some [x]
 |.slV _ _ x lo hi mx=>some (x::(lo.toList++hi.toList++mx.toList))
 |.entry x=>some [x]
 |_=>none
theorem pev_congr {o:POp}{l:List Operand}{ρ ρ':Operand->Value}{σ:CW}(hl:rdOps o=some l)(h:∀x∈l,ρ x=ρ' x):pev o ρ σ=pev o ρ' σ:=by
 cases o<;>simp only[rdOps,Option.some.injEq,reduceCtorEq] at hl<;>subst hl
 case lookup str zero ok m k=>simp only[pev,h m (by simp),h k (by simp)]
 case slV elem sz x lo hi mx=>
  have e1:lo.map ρ=lo.map ρ':=by cases lo with|none=>rfl|some a=>simp[h a (by simp)]
  have e2:hi.map ρ=hi.map ρ':=by cases hi with|none=>rfl|some a=>simp[h a (by simp)]
  have e3:mx.map ρ=mx.map ρ':=by cases mx with|none=>rfl|some a=>simp[h a (by simp)]
  simp only[pev,h x (by simp),e1,e2,e3]
 all_goals (rename_i x;simp only[pev,h x (by simp)])
def depV (n:Nat):AV->Option (List Nat)
 |.ptr b _=>some [b]
 |.rptr cs=>if n<=cs.length then some [] else none
 |_=>none
def depM:AV->Option (List Nat)
 |.nilm=>some []
 |.fmap _=>some []
 |.map b=>some [b]
 |_=>none
def depS:AV->Option (List Nat)
 |.lst _ [] .nil=>some []
 |.lst _ (_::_) _=>some []
 |.slice b _ _ _=>some [b]
 |_=>none
def depA (o:POp)(ρ:Operand->AV):Option (List Nat):=
 match o with
 |.ld1 x=>depV 1 (ρ x)
 |.ldN n x=>depV n (ρ x)
 |.lookup _ _ _ m _=>depM (ρ m)
 |.lenM x=>depM (ρ x)
 |.b2s x=>depS (ρ x)
 |.slV _ _ x _ _ _=>depS (ρ x)
 |_=>none
section
variable {K:Nat->Prop}{F F':Nat->Nat}{σ σ':CW}
theorem cells_keep (hx:Ext K F σ F' σ'){x:AV}{v:Value}{n:Nat}{ds:List Nat}(hv:Rp F σ x v)(hd:depV n x=some ds)(hn:0<n)(hK:∀b∈ds,K b):∃b off,v=.pointer (some ⟨b,off,none⟩)/\∀c E cl rel,σ.heap b=some (.cells c E cl rel)->∃c',σ'.heap b=some (.cells c' E cl rel)/\c'.length=c.length/\∀i,i<off+n->c'[i]?=c[i]?:=by
 cases hv<;>simp only[depV,reduceCtorEq] at hd
 case ptr b off=>
  cases hd
  exact⟨b,off,rfl,fun c E cl rel hc=>⟨c,by rw[hx.keep b (hK b (by simp))];exact hc,rfl,fun _ _=>rfl⟩⟩
 case rptr cs b off c E cl rel hb h0 hF hc hv=>
  split at hd
  ·rename_i hle
   refine⟨b,off,rfl,fun c2 E2 cl2 rel2 hc2=>?_⟩
   have hpos:0<F b:=by have:=List.length_pos_iff.2 h0;omega
   obtain⟨c',h1,h2,h3⟩:=hx.row b _ _ _ _ hpos hc2
   exact⟨c',h1,h2,fun i hi=>h3 i (by omega)⟩
  ·cases hd
theorem take_congr {c c':List Value}{i n:Nat}(hl:c'.length=c.length)(h:∀j,j<i+n->c'[j]?=c[j]?):takeAt c' i n=takeAt c i n:=by
 unfold takeAt
 rw[hl]
 split
 ·congr 1
  apply List.ext_getElem?
  intro j
  simp only[List.getElem?_take,List.getElem?_drop]
  split
  ·exact h _ (by omega)
  ·rfl
 ·rfl
theorem pev_keep (hx:Ext K F σ F' σ'){o:POp}{ρA:Operand->AV}{ρ:Operand->Value}(hρ:∀x,Rp F σ (ρA x) (ρ x)){ds:List Nat}(hd:depA o ρA=some ds)(hK:∀b∈ds,K b){v:Value}(hv:pev o ρ σ=some v):pev o ρ σ'=some v:=by
 have hM:∀x ds,depM (ρA x)=some ds->(∀b∈ds,K b)->∀es,σ.entries (ρ x)=some es->σ'.entries (ρ x)=some es:=by
  intro x ds hd hK es he
  have hr:=hρ x
  generalize ρA x=a at hr hd
  generalize ρ x=w at hr he
  cases hr<;>simp only[depM,reduceCtorEq] at hd
  case nilm=>exact he
  case map b=>cases hd;simp only[CW.entries] at he ⊢;rw[hx.keep b (hK b (by simp))];exact he
  case fmap0=>exact he
  case fmap hb hF _ _ _=>simp only[CW.entries] at he ⊢;rw[hx.map _ _ _ hF hb];rw[hb] at he;exact he
 have hS:∀x ds,depS (ρA x)=some ds->(∀b∈ds,K b)->(∃n c,ρ x=.slice none n c)\/∃b off len cap,ρ x=.slice (some ⟨b,off,none⟩) len cap/\∀c E cl rel,σ.heap b=some (.cells c E cl rel)->∃c',σ'.heap b=some (.cells c' E cl rel)/\c'.length=c.length/\∀i,i<off+len->c'[i]?=c[i]?:=by
  intro x ds hd hK
  have hr:=hρ x
  generalize ρA x=a at hr hd
  generalize ρ x=w at hr
  cases hr<;>simp only[depS,reduceCtorEq] at hd
  case lst0=>exact .inl ⟨_,_,rfl⟩
  case lst E es t b off cap sz c cl rel hb h0 hz hs hF hc hl hB ht hv=>
   refine .inr ⟨b,off,_,_,rfl,fun c2 E2 cl2 rel2 hc2=>?_⟩
   have hpos:0<es.length:=List.length_pos_iff.2 h0
   have hmul:es.length*1<=es.length*sz:=Nat.mul_le_mul_left _ hz
   obtain⟨c',h1,h2,h3⟩:=hx.row b _ _ _ _ (by omega) hc2
   exact⟨c',h1,h2,fun i hi=>h3 i (by omega)⟩
  case slice b off len cap hl=>
   cases hd
   exact .inr ⟨b,off,len,cap,rfl,fun c E cl rel hc=>⟨c,by rw[hx.keep b (hK b (by simp))];exact hc,rfl,fun _ _=>rfl⟩⟩
 cases o<;>simp only[depA,reduceCtorEq] at hd
 case ld1 x=>
  obtain⟨b,off,e,hk⟩:=cells_keep hx (hρ x) hd (by omega) hK
  simp only[pev,e,CW.cell,CW.row] at hv ⊢
  split at hv
  ·rename_i c hc
   split at hc
   ·rename_i c0 E cl rel hc0
    cases hc
    obtain⟨c',h1,h2,h3⟩:=hk _ _ _ _ hc0
    rw[h1]
    simp only[nth] at hv ⊢
    rw[h3 off (by omega)];exact hv
   ·cases hc
  ·cases hv
 case ldN n x=>
  by_cases hn:0<n
  ·obtain⟨b,off,e,hk⟩:=cells_keep hx (hρ x) hd hn hK
   simp only[pev,e,CW.cells,CW.row] at hv ⊢
   split at hv<;>try (cases hv;done)
   rename_i l hl
   split at hl<;>try (cases hl;done)
   rename_i c hc
   split at hc<;>try (cases hc;done)
   rename_i c0 E cl rel hc0
   cases hc
   obtain⟨c',h1,h2,h3⟩:=hk _ _ _ _ hc0
   rw[h1]
   simp only[show takeAt c' off n=some l from (take_congr h2 h3).trans hl];exact hv
  ·obtain⟨b,off,e,hk⟩:=cells_keep (n:=1) hx (hρ x) (ds:=ds) (by
    have:n=0:=by omega
    subst this
    have hr:=hρ x
    generalize ρA x=a at hr hd
    generalize ρ x=w at hr
    cases hr<;>simp only[depV,reduceCtorEq] at hd ⊢
    ·rename_i h0 _ _ _
     rw[if_pos (by have:=List.length_pos_iff.2 h0;omega)];simpa using hd
    ·exact hd) (by omega) hK
   simp only[pev,e,CW.cells,CW.row] at hv ⊢
   split at hv<;>try (cases hv;done)
   rename_i l hl
   split at hl<;>try (cases hl;done)
   rename_i c hc
   split at hc<;>try (cases hc;done)
   rename_i c0 E cl rel hc0
   cases hc
   obtain⟨c',h1,h2,h3⟩:=hk _ _ _ _ hc0
   rw[h1]
   simp only[show takeAt c' off n=some l from (take_congr h2 fun j hj=>h3 j (by omega)).trans hl];exact hv
 case lookup str zero ok m k=>
  simp only[pev] at hv ⊢
  split at hv
  ·rename_i es he;simp only[hM _ _ hd hK es he];exact hv
  ·cases hv
 case lenM x=>
  simp only[pev] at hv ⊢
  split at hv
  ·rename_i es he;simp only[hM _ _ hd hK es he];exact hv
  ·cases hv
 case b2s x=>
  rcases hS _ _ hd hK with⟨n,c,e⟩|⟨b,off,len,cap,e,hk⟩
  ·simp only[pev,e] at hv ⊢;exact hv
  ·simp only[pev,e,CW.cells,CW.row] at hv ⊢
   split at hv<;>try (cases hv;done)
   rename_i l hl
   split at hl<;>try (cases hl;done)
   rename_i c hc
   split at hc<;>try (cases hc;done)
   rename_i c0 E cl rel hc0
   cases hc
   obtain⟨c',h1,h2,h3⟩:=hk _ _ _ _ hc0
   rw[h1]
   simp only[show takeAt c' off len=some l from (take_congr h2 h3).trans hl];exact hv
 case slV elem sz x lo hi mx=>
  rcases hS _ _ hd hK with⟨n,c,e⟩|⟨b,off,len,cap,e,hk⟩
  ·simp only[pev,e] at hv ⊢;exact hv
  ·simp only[pev,e] at hv ⊢
   split at hv<;>try (cases hv;done)
   rename_i m hm
   split at hv<;>try (cases hv;done)
   rename_i u hu
   split at hv<;>try (cases hv;done)
   rename_i l hl
   split at hv<;>try (cases hv;done)
   rename_i hc
   rw[if_pos];exact hv
   refine⟨hc.1,?_⟩
   have:=hc.2
   simp only[CW.elemIs] at this ⊢
   split at this<;>try (cases this;done)
   rename_i c0 E cl rel hc0
   obtain⟨c',h1,h2,h3⟩:=hk _ _ _ _ hc0
   rw[h1];exact this
end
def readOf:CStep->Option Again
 |⟨some t,g,.p o⟩=>some ⟨t,g,o⟩
 |_=>none
def againAt:List CStep->Tmp->Option Again
 |[],_=>none
 |s::l,t=>match readOf s with
  |some a=>if a.t=t then some a else againAt l t
  |none=>againAt l t
theorem againAt_app {l m:List CStep}{t:Tmp}{a:Again}:againAt l t=some a->againAt (l++m) t=some a:=by
 induction l with
 |nil=>intro h;cases h
 |cons s l ih=>
  intro h
  simp only[List.cons_append]
  unfold againAt at h ⊢
  cases e:readOf s with
  |none=>rw[e] at h;exact ih h
  |some b=>
   rw[e] at h
   simp only at h ⊢
   split
   ·rename_i e2;rw[if_pos e2] at h;exact h
   ·rename_i e2;rw[if_neg e2] at h;exact ih h
theorem againAt_last {prev:List CStep}{s:CStep}{a:Again}(hs:readOf s=some a):againAt prev a.t=none->againAt (prev++[s]) a.t=some a:=by
 induction prev with
 |nil=>intro _;simp[againAt,hs]
 |cons s' l ih=>
  intro h
  simp only[List.cons_append]
  unfold againAt at h ⊢
  cases e:readOf s' with
  |none=>rw[e] at h;exact ih h
  |some b=>
   rw[e] at h
   simp only at h ⊢
   split
   ·rename_i e2;rw[if_pos e2] at h;cases h
   ·rename_i e2;rw[if_neg e2] at h;exact ih h
theorem readOf_some {s:CStep}{a:Again}(h:readOf s=some a):s=⟨some a.t,a.g,.p a.o⟩:=by
 obtain⟨d,g,op⟩:=s
 cases d with
 |none=>cases h
 |some t=>cases op<;>cases h;rfl
def indR (a:Again)(d:Option Tmp):Bool:=
 (match rdOps a.o with
 |some l=>l.all (notT d)
 |none=>false)&&notT d (.tmp a.t)&&(match a.g with
 |some (g,_)=>notT d (.tmp g)
 |none=>true)
def indT (prev:List CStep)(d:Option Tmp)(t:Tmp):Bool:=
 match againAt prev t with
 |some a=>indR a d
 |none=>false
theorem wants_put {fr:Fr}{d:Option Tmp}{v:Value}{g:Option (Tmp×Bool)}(h:(match g with
  |some (g,_)=>notT d (.tmp g)
  |none=>true)=true):wants (putT fr d v) g=wants fr g:=by
 cases g with
 |none=>rfl
 |some p=>
  obtain⟨t,b⟩:=p
  have:putT fr d v t=fr t:=ev_putT (x:=.tmp t) h
  simp only[wants,this]
theorem again_put {a:Again}{d:Option Tmp}{fr:Fr}{σ σ':CW}{v:Value}(hi:indR a d=true)(hp:∀u,wants fr a.g=true->pev a.o (ev fr) σ=some u->pev a.o (ev fr) σ'=some u)(h:AgainR fr σ a):AgainR (putT fr d v) σ' a:=by
 unfold indR at hi
 simp only[Bool.and_eq_true] at hi
 obtain⟨⟨h1,h2⟩,h3⟩:=hi
 intro hw
 rw[wants_put h3] at hw
 cases hl:rdOps a.o with
 |none=>rw[hl] at h1;cases h1
 |some l=>
  rw[hl] at h1
  have e1:putT fr d v a.t=fr a.t:=ev_putT (x:=.tmp a.t) h2
  rw[e1,pev_congr hl (ρ':=ev fr) fun x hx=>ev_putT (List.all_eq_true.1 h1 x hx)]
  exact hp _ hw (h hw)
def Facts (prev:List CStep)(av:List Tmp)(fr:Fr)(σ:CW):Prop:=∀t∈av,∃a,againAt prev t=some a/\AgainR fr σ a
def selfR (a:Again):Bool:=
 (match rdOps a.o with
 |some l=>l.all (notT (some a.t))
 |none=>false)&&(match a.g with
 |some (g,_)=>notT (some a.t) (.tmp g)
 |none=>true)
def runStep (prev:List CStep)(av:List Tmp)(s:CStep):List Tmp:=
 match readOf s with
 |some a=>if (againAt prev a.t).isNone&&selfR a then a.t::av.filter (indT prev s.dst) else av.filter (indT prev s.dst)
 |none=>av.filter (indT prev s.dst)
def runSeg:List CStep->List Tmp->List CStep->List Tmp
 |prev,av,[]=>av
 |prev,av,s::l=>runSeg (prev++[s]) (runStep prev av s) l
def isPA (s:CStep):Bool:=match s.op with
 |.p _=>true
 |.a _=>true
 |_=>false
theorem facts_filter {prev:List CStep}{av:List Tmp}{fr:Fr}{σ σ':CW}{s:CStep}{v:Value}(hf:Facts prev av fr σ)(hp:∀o u,pev o (ev fr) σ=some u->pev o (ev fr) σ'=some u):Facts (prev++[s]) (av.filter (indT prev s.dst)) (putT fr s.dst v) σ':=by
 intro t ht
 obtain⟨ht1,ht2⟩:=List.mem_filter.1 ht
 obtain⟨a,h1,h2⟩:=hf t ht1
 refine⟨a,againAt_app h1,again_put ?_ (fun u _=>hp _ u) h2⟩
 simpa only[indT,h1] using ht2
theorem runStep_eq (prev:List CStep)(av:List Tmp)(s:CStep):runStep prev av s=av.filter (indT prev s.dst)\/∃a,readOf s=some a/\runStep prev av s=a.t::av.filter (indT prev s.dst)/\againAt prev a.t=none/\(∃l,rdOps a.o=some l/\l.all (notT (some a.t))=true)/\(match a.g with
   |some (g,_)=>notT (some a.t) (.tmp g)
   |none=>true)=true:=by
 unfold runStep
 cases e:readOf s with
 |none=>exact .inl rfl
 |some a=>
  simp only
  split
  ·rename_i hc
   simp only[Bool.and_eq_true,selfR] at hc
   refine .inr ⟨a,rfl,rfl,by simpa using hc.1,?_,hc.2.2⟩
   have:=hc.2.1
   split at this
   ·rename_i l hl;exact⟨l,hl,this⟩
   ·cases this
  ·exact .inl rfl
theorem step_facts {C:CallQ}{s:CStep}{prev:List CStep}{av:List Tmp}{fr:Fr}{σ:CW}{Q:Fr->CW->Prop}(hs:isPA s=true)(hi:CInv σ)(h:StepW C s fr σ Q)(hf:Facts prev av fr σ) :
  StepW C s fr σ fun fr' σ'=>Q fr' σ'/\CInv σ'/\Facts (prev++[s]) (runStep prev av s) fr' σ':=by
 obtain⟨d,g,op⟩:=s
 rcases h with⟨h1,h2⟩|⟨h1,h2⟩
 ·refine .inl ⟨h1,?_⟩
  cases op with
  |p o=>
   obtain⟨v,g1,g2⟩:=h2
   refine⟨v,g1,g2,hi,?_⟩
   rcases runStep_eq prev av ⟨d,g,.p o⟩ with e|⟨a,e0,e,e1,⟨l,e2,e3⟩,e4⟩
   ·rw[e];exact facts_filter hf fun _ _ h=>h
   ·rw[e]
    intro u hu
    rcases List.mem_cons.1 hu with rfl|hu
    ·refine⟨_,againAt_last e0 e1,fun _=>?_⟩
     have e5:=readOf_some e0
     obtain⟨t,ga,oa⟩:=a
     cases e5
     show pev oa (ev (putT fr (some t) v)) σ=some (upd fr t v t)
     rw[upd_same,pev_congr e2 (ρ':=ev fr) fun x hx=>ev_putT (List.all_eq_true.1 e3 x hx)]
     exact g1
    ·exact facts_filter (s:=⟨d,g,.p o⟩) (v:=v) hf (fun _ _ h=>h) u hu
  |a o=>
   obtain⟨obj,v,g1,g2⟩:=h2
   have hi':CInv (σ.add obj):=hi.add (aev_freshO g1)
   refine⟨obj,v,g1,g2,hi',?_⟩
   rcases runStep_eq prev av ⟨d,g,.a o⟩ with e|⟨a,e0,_⟩
   ·rw[e];exact facts_filter hf fun _ _ h=>pev_add hi h
   ·cases readOf_some e0
  |e o=>cases hs
  |no=>cases hs
 ·refine .inr ⟨h1,h2,hi,?_⟩
  rcases runStep_eq prev av ⟨d,g,op⟩ with e|⟨a,e0,e,e1,⟨l,e2,e3⟩,e4⟩
  ·rw[e];exact facts_filter hf fun _ _ h=>h
  ·rw[e]
   intro u hu
   rcases List.mem_cons.1 hu with rfl|hu
   ·refine⟨_,againAt_last e0 e1,fun hw=>?_⟩
    have e5:=readOf_some e0
    obtain⟨t,ga,oa⟩:=a
    cases e5
    rw[wants_put (d:=some t) e4] at hw
    rw[hw] at h1;cases h1
   ·exact facts_filter (s:=⟨d,g,op⟩) (v:=cundef) hf (fun _ _ h=>h) u hu
theorem seg_facts {C:CallQ}(hC:LeC C C):∀{l:List CStep}{prev:List CStep}{av:List Tmp}{fr:Fr}{σ:CW}{Q:Fr->CW->Prop},l.all isPA=true->CInv σ->StepsW C l fr σ Q->Facts prev av fr σ->
  StepsW C l fr σ fun fr' σ'=>Q fr' σ'/\Facts (prev++l) (runSeg prev av l) fr' σ'
 |[],prev,av,fr,σ,Q,_,hi,h,hf=>⟨h,by simpa[runSeg] using hf⟩
 |s::l,prev,av,fr,σ,Q,hs,hi,h,hf=>by
  rw[List.all_cons,Bool.and_eq_true] at hs
  refine StepW.mono hC (step_facts hs.1 hi h hf) fun fr1 σ1 ⟨h1,h2,h3⟩=>?_
  refine StepsW.mono hC (seg_facts hC hs.2 h2 h1 h3) fun fr2 σ2 ⟨g1,g2⟩=>⟨g1,by simpa[runSeg] using g2⟩
end Go.Cn
namespace Go.Cn
set_option linter.unusedVariables false
set_option linter.unusedSimpArgs false
inductive MOp where
 |p (o:POp)
 |alloc (E:TypeId)(zs:List Value)
 |ini (one:Bool)(E:TypeId)(zs:List Value)(x:Operand)
 |zer (E:TypeId)(zs:List Value)
 |box (fz:Bool)(E:TypeId)(x:Operand)
 |bsl (E:TypeId)(z0:List Value)(n:Nat)(parts:List (Nat×Nat×Operand))
 |mkmap
 |st1 (a x:Operand)
 |stN (n:Nat)(a x:Operand)
 |fz1 (t:Tmp)(x:Operand)
 |fzN (n:Nat)(t:Tmp)(x:Operand)
 |mapupd (str:Bool)(m k x:Operand)
 |delete (str:Bool)(m k:Operand)
 |call (f:FuncId)(args:List Operand)
 |callv (x:Operand)(args:List Operand)
 |oth (o:COp)
structure MStep where
 dst:Option Tmp
 guard:Option (Tmp×Bool)
 op:MOp
def isIni:MOp->Bool
 |.ini _ _ _ _=>true
 |_=>false
def MOp.toC (d:Option Tmp)(g:Option (Tmp×Bool)):MOp->CStep
 |.p o=>⟨d,g,.p o⟩
 |.alloc E zs=>⟨d,g,.a (.alloc E zs)⟩
 |.ini _ E zs x=>⟨d,g,.a (.alloc E zs)⟩
 |.zer E zs=>⟨d,g,.a (.alloc E zs)⟩
 |.box _ E x=>⟨d,g,.a (.box E x)⟩
 |.bsl E z0 n parts=>⟨d,g,.a (.bsl E z0 n parts)⟩
 |.mkmap=>⟨d,g,.a .mkmap⟩
 |.st1 a x=>⟨d,g,.e (.st1 a x)⟩
 |.stN n a x=>⟨d,g,.e (.stN n a x)⟩
 |.fz1 t x=>⟨d,g,.e (.st1 (.tmp t) x)⟩
 |.fzN n t x=>⟨d,g,.e (.stN n (.tmp t) x)⟩
 |.mapupd str m k x=>⟨d,g,.e (.mapupd str m k x)⟩
 |.delete str m k=>⟨d,g,.e (.delete str m k)⟩
 |.call f args=>⟨d,g,.e (.call f args)⟩
 |.callv x args=>⟨d,g,.e (.callv x args)⟩
 |.oth o=>⟨d,g,o⟩
def MStep.toC1 (s:MStep):CStep:=s.op.toC s.dst s.guard
def iniSt (d:Option Tmp)(g:Option (Tmp×Bool)):MOp->List CStep
 |.ini one E zs x=>[⟨none,g,.e (bif one then .st1 (.tmp (d.getD 0)) x else .stN zs.length (.tmp (d.getD 0)) x)⟩]
 |_=>[]
def MStep.toC (s:MStep):List CStep:=s.toC1::iniSt s.dst s.guard s.op
def toL:List MStep->List CStep
 |[]=>[]
 |s::l=>s.toC++toL l
structure MStage where
 e:MStep
 ag:List Again
 seg:List MStep
inductive MCode where
 |skip
 |region (ops:List MStep)
 |dregion (seg:List MStep)(stages:List MStage)
 |seq (a b:MCode)
 |cond (c:Operand)(thn els:MCode)
 |block (id:Nat)(body:MCode)
 |loop (body:MCode)
 |exit (id:Nat)
 |ret
 |rfun (f:Operand)(ps:List Tmp)(as body:MCode)
 |raw (c:CCode)
def stgC:List MStage->List Stage
 |[]=>[]
 |s::l=>⟨s.e.toC1,s.ag,toL s.seg⟩::stgC l
def MCode.toC:MCode->CCode
 |.skip=>.skip
 |.region ops=>.region (toL ops)
 |.dregion seg stages=>.dregion (toL seg) (stgC stages)
 |.seq a b=>.seq a.toC b.toC
 |.cond c a b=>.cond c a.toC b.toC
 |.block id b=>.block id b.toC
 |.loop b=>.loop b.toC
 |.exit id=>.exit id
 |.ret=>.ret
 |.rfun f ps a b=>.rfun f ps a.toC b.toC
 |.raw c=>c
abbrev AQ:=AFr->AH->Prop
def onS {α:Type}(x:Option α)(Q:α->Prop):Prop:=∃a,x=some a/\Q a
def AllNew (K:Nat->Prop)(h:AH)(P:Nat->Prop):Prop:=∀b,h.objs b=none->¬K b->P b
def kV (Q:AQ)(fr:AFr)(d:Option Tmp)(a:AV)(h:AH):Prop:=Q (setA fr d a) h
def kP (Q:AQ)(fr:AFr)(d:Option Tmp)(h:AH)(a:AV):Prop:=Q (setA fr d a) h
def kNew (Q:AQ)(fr:AFr)(d:Option Tmp)(h:AH)(mk:Nat->AV)(o:AO)(b:Nat):Prop:=Q (setA fr d (mk b)) (h.set b o)
def kBsl (Q:AQ)(fr:AFr)(d:Option Tmp)(h:AH)(E:TypeId)(sz n:Nat)(cs:List AV):Prop:=Q (setA fr d (.lst E (chunkA sz n cs) .no)) h
def kPut (Q:AQ)(fr:AFr)(d:Option Tmp)(h:AH)(b:Nat)(E:TypeId)(cs:List AV):Prop:=Q (setA fr d .any) (h.set b (.cells cs E))
def kFz (Q:AQ)(fr:AFr)(d:Option Tmp)(h:AH)(t:Tmp)(b:Nat)(E:TypeId)(cs:List AV):Prop:=cs≠[]/\Q (upd (setA fr d .any) t (.rptr cs)) (h.del b)
def kMap (Q:AQ)(fr:AFr)(d:Option Tmp)(h:AH)(b:Nat)(es:List (AV×AV)):Prop:=Q (setA fr d .any) (h.set b (.map es))
def stO (K:Nat->Prop)(b off:Nat)(v:AV)(n:Nat)(k:TypeId->List AV->Prop)(o:AO):Prop:=
 ∃cs E,o=.cells cs E/\(¬K b/\isAny v=false/\(cellsA v).length=n/\(cellsA v).all oneA=true)/\onS (putA cs off (cellsA v)) (k E)
def stP (K:Nat->Prop)(h:AH)(v:AV)(n:Nat)(k:Nat->TypeId->List AV->Prop)(p:AV):Prop:=∃b off,p=.ptr b off/\onS (h.objs b) (stO K b off v n (k b))
def fzP (K:Nat->Prop)(h:AH)(v:AV)(n:Nat)(k:Nat->TypeId->List AV->Prop)(p:AV):Prop:=∃b,p=.ptr b 0/\onS (h.objs b) (stO K b 0 v n (k b))
def muO (K:Nat->Prop)(b:Nat)(str:Bool)(k v:AV)(kk:List (AV×AV)->Prop)(o:AO):Prop:=∃es,o=.map es/\(¬K b/\isKeyA str k=true)/\onS (mputA k v es) kk
def mdO (K:Nat->Prop)(b:Nat)(str:Bool)(k:AV)(kk:List (AV×AV)->Prop)(o:AO):Prop:=∃es,o=.map es/\(¬K b/\isKeyA str k=true)/\onS (mdelA k es) kk
def muP (K:Nat->Prop)(h:AH)(str:Bool)(k v:AV)(kk:Nat->List (AV×AV)->Prop)(m:AV):Prop:=∃b,m=.map b/\onS (h.objs b) (muO K b str k v (kk b))
def mdP (K:Nat->Prop)(h:AH)(str:Bool)(k:AV)(kk:Nat->List (AV×AV)->Prop)(m:AV):Prop:=∃b,m=.map b/\onS (h.objs b) (mdO K b str k (kk b))
def cvP (T:Nat->Option CFun)(K:Nat->Prop)(h:AH)(args:List AV)(Q:AV->AH->Prop)(x:AV):Prop:=
 (∃f a b,x=.func f a b/\ACall T K (.func f) (a++args++b) h Q)\/∃c,x=.yield c/\ACall T K (.yield c) args h Q
def wpO (T:Nat->Option CFun)(K:Nat->Prop)(d:Option Tmp)(op:MOp)(fr:AFr)(h:AH)(Q:AQ):Prop:=
 match op with
 |.p o=>onS (pevA o (evA fr) h) (kP Q fr d h)
 |.alloc E zs=>AllNew K h (kNew Q fr d h (fun b=>.ptr b 0) (.cells (zs.map ofC1) E))
 |.ini one E zs x=>((one=true->zs.length=1)/\d.isSome=true/\notT d x=true/\isAny (evA fr x)=false/\(cellsA (evA fr x)).length=zs.length/\zs≠[]/\(cellsA (evA fr x)).all oneA=true)/\kP Q fr d h (.rptr (cellsA (evA fr x)))
 |.zer E zs=>zs≠[]/\kP Q fr d h (.rptr (zs.map ofC1))
 |.box fz E x=>(isAny (evA fr x)=false/\cellsA (evA fr x)≠[])/\bif fz then kP Q fr d h (.rptr (cellsA (evA fr x))) else AllNew K h (kNew Q fr d h (fun b=>.ptr b 0) (.cells (cellsA (evA fr x)) E))
 |.bsl E z0 n parts=>(0<n/\0<z0.length/\n<=big)/\onS (fillA ((zerosL z0 n).map ofC1) (parts.map fun (o,s,x)=>(o,s,evA fr x))) (kBsl Q fr d h E z0.length n)
 |.mkmap=>AllNew K h (kNew Q fr d h (fun b=>.map b) (.map []))
 |.st1 a x=>stP K h (evA fr x) 1 (kPut Q fr d h) (evA fr a)
 |.stN n a x=>stP K h (evA fr x) n (kPut Q fr d h) (evA fr a)
 |.fz1 t x=>d=none/\fzP K h (evA fr x) 1 (kFz Q fr d h t) (fr t)
 |.fzN n t x=>d=none/\fzP K h (evA fr x) n (kFz Q fr d h t) (fr t)
 |.mapupd str m k x=>muP K h str (evA fr k) (evA fr x) (kMap Q fr d h) (evA fr m)
 |.delete str m k=>mdP K h str (evA fr k) (kMap Q fr d h) (evA fr m)
 |.call f args=>ACall T K (.func f) (args.map (evA fr)) h (kV Q fr d)
 |.callv x args=>cvP T K h (args.map (evA fr)) (kV Q fr d) (evA fr x)
 |.oth o=>WO T K o fr h (kV Q fr d)
def wpG (T:Nat->Option CFun)(K:Nat->Prop)(d:Option Tmp)(op:MOp)(fr:AFr)(h:AH)(Q:AQ)(b:Bool)(a:AV):Prop:=
 isIni op=false/\((∃c,a=.bool c/\bif c==b then wpO T K d op fr h Q else Q (setA fr d (.tuple [])) h)\/(a=.tuple []/\Q (setA fr d (.tuple [])) h))
def wpS (T:Nat->Option CFun)(K:Nat->Prop)(s:MStep)(fr:AFr)(h:AH)(Q:AQ):Prop:=
 match s.guard with
 |none=>wpO T K s.dst s.op fr h Q
 |some (t,b)=>wpG T K s.dst s.op fr h Q b (fr t)
def wpL (T:Nat->Option CFun)(K:Nat->Prop):List MStep->AFr->AH->AQ->Prop
 |[],fr,h,Q=>Q fr h
 |s::l,fr,h,Q=>wpS T K s fr h fun fr h=>wpL T K l fr h Q
def kL (T:Nat->Option CFun)(K:Nat->Prop)(l:List MStep)(Q:AQ)(fr:AFr)(h:AH):Prop:=wpL T K l fr h Q
def depG (fr:AFr)(a:Again):Option (List Nat):=
 match a.g with
 |none=>depA a.o (evA fr)
 |some (t,b)=>match fr t with
  |.bool c=>bif c==b then depA a.o (evA fr) else some []
  |.tuple []=>some []
  |_=>depA a.o (evA fr)
def depL (fr:AFr):List Again->Option (List Nat)
 |[]=>some []
 |a::l=>match depG fr a,depL fr l with
  |some x,some y=>some (x++y)
  |_,_=>none
def KU (K:Nat->Prop)(ds:List Nat)(b:Nat):Prop:=K b\/b∈ds
theorem KU_nil (K:Nat->Prop):KU K []=K:=by funext b;simp[KU]
def wpT (T:Nat->Option CFun)(K:Nat->Prop):List MStage->AFr->AH->AQ->Prop
 |[],fr,h,Q=>Q fr h
 |s::l,fr,h,Q=>onS (depL fr s.ag) fun ds=>(∀b∈ds,h.objs b≠none)/\
   wpS T (KU K ds) s.e fr h fun fr h=>wpL T K s.seg fr h fun fr h=>wpT T K l fr h Q
def kT (T:Nat->Option CFun)(K:Nat->Prop)(l:List MStage)(Q:AQ)(fr:AFr)(h:AH):Prop:=wpT T K l fr h Q
def kG (T:Nat->Option CFun)(K:Nat->Prop)(seg:List MStep)(l:List MStage)(Q:AQ)(fr:AFr)(h:AH):Prop:=wpL T K seg fr h (kT T K l Q)
def kE (T:Nat->Option CFun)(K:Nat->Prop)(s:MStage)(l:List MStage)(Q:AQ)(fr:AFr)(h:AH)(ds:List Nat):Prop:=(∀b∈ds,h.objs b≠none)/\wpS T (KU K ds) s.e fr h (kG T K s.seg l Q)
def okT (prev:List CStep)(av:List Tmp):List MStage->Bool
 |[]=>true
 |s::l=> !isIni s.e.op&&(s.ag.map (·.t)).all (fun t=>av.contains t&&indT prev s.e.dst t)&&(toL s.seg).all isPA&&okT (prev++toL s.seg) (runSeg prev (s.ag.map (·.t)) (toL s.seg)) l
def okR (prev:List CStep):List MStage->Prop
 |[]=>True
 |s::l=>s.ag.map (fun a=>againAt prev a.t)=s.ag.map some/\okR (prev++toL s.seg) l
def okD (seg:List MStep)(stages:List MStage):Prop:=((toL seg).all isPA&&okT (toL seg) (runSeg [] [] (toL seg)) stages)=true/\okR (toL seg) stages
def wpC (T:Nat->Option CFun)(K:Nat->Prop):MCode->AFr->AH->(CExit->AQ)->Prop
 |.skip,fr,h,Q=>Q .normal fr h
 |.region ops,fr,h,Q=>wpL T K ops fr h (Q .normal)
 |.dregion seg stages,fr,h,Q=>okD seg stages/\wpL T K seg fr h (kT T K stages (Q .normal))
 |.seq a b,fr,h,Q=>wpC T K a fr h fun e fr h=>match e with
  |.normal=>wpC T K b fr h Q
  |e=>Q e fr h
 |.cond c a b,fr,h,Q=>∃t,evA fr c=.bool t/\bif t then wpC T K a fr h Q else wpC T K b fr h Q
 |.block id b,fr,h,Q=>wpC T K b fr h fun e fr h=>Q (if e=.exit id then .normal else e) fr h
 |.loop b,fr,h,Q=>W T K (.loop b.toC) fr h Q
 |.exit id,fr,h,Q=>Q (.exit id) fr h
 |.ret,fr,h,Q=>Q .ret fr h
 |.rfun f ps a b,fr,h,Q=>W T K (.rfun f ps a.toC b.toC) fr h Q
 |.raw c,fr,h,Q=>W T K c fr h Q
def kC (T:Nat->Option CFun)(K:Nat->Prop)(b:MCode)(Q:CExit->AQ):CExit->AQ
 |.normal,fr,h=>wpC T K b fr h Q
 |e,fr,h=>Q e fr h
def kB (id:Nat)(Q:CExit->AQ)(e:CExit)(fr:AFr)(h:AH):Prop:=Q (if e=.exit id then .normal else e) fr h
def wpI (T:Nat->Option CFun)(K:Nat->Prop)(a b:MCode)(fr:AFr)(h:AH)(Q:CExit->AQ)(v:AV):Prop:=∃t,v=.bool t/\bif t then wpC T K a fr h Q else wpC T K b fr h Q
section
variable {T:Nat->Option CFun}{K:Nat->Prop}{fr:AFr}{h:AH}{Q:AQ}
theorem WS.cons {s:CStep}{l:List CStep}{R:AQ}(h1:WS T K [s] fr h R)(h2:∀fr h,R fr h->WS T K l fr h Q):WS T K (s::l) fr h Q:=WS.app (l:=[s]) h1 h2
theorem wpO_ok {d:Option Tmp}{op:MOp}(hw:wpO T K d op fr h Q):WS T K (MStep.toC ⟨d,none,op⟩) fr h Q:=by
 cases op<;>simp only[wpO] at hw<;>simp only[MStep.toC,MStep.toC1,MOp.toC,iniSt]
 case p o=>obtain⟨a,h1,h2⟩:=hw;exact .one (.p h1 h2)
 case alloc E zs=>exact .one (.alloc fun b hb hk=>hw b hb hk)
 case zer E zs=>exact .one (.zero hw.1 hw.2)
 case box fz E x=>
  cases fz with
  |true=>exact .one (.boxF hw.1.1 hw.1.2 hw.2)
  |false=>exact .one (.box hw.1.1 fun b hb hk=>hw.2 b hb hk)
 case bsl E z0 n parts=>obtain⟨⟨h1,h2,h3⟩,cs,h4,h5⟩:=hw;exact .one (.bsl h4 h1 h2 h3 h5)
 case mkmap=>exact .one (.mkmap fun b hb hk=>hw b hb hk)
 case st1 a x=>obtain⟨b,off,h1,o,h2,cs,E,rfl,⟨h3,h4,h5,h6⟩,cs',h7,h8⟩:=hw;exact .one (.st1 h1 h2 h3 h4 h5 h6 h7 h8)
 case stN n a x=>obtain⟨b,off,h1,o,h2,cs,E,rfl,⟨h3,h4,h5,h6⟩,cs',h7,h8⟩:=hw;exact .one (.stN h1 h2 h3 h4 h5 h6 h7 h8)
 case fz1 t x=>
  obtain⟨rfl,b,h1,o,h2,cs,E,rfl,⟨h3,h4,h5,h6⟩,cs',h7,h8,h9⟩:=hw
  exact .fz h3 (.one (.st1 (b:=b) (off:=0) h1 h2 h3 h4 h5 h6 h7 ⟨h1,AH.set_same _ _ _,h8,by
   have e:(h.set b (.cells cs' E)).del b=h.del b:=by
    unfold AH.set AH.del;congr 1;funext n;simp only[upd];split<;>rfl
   rw[e];exact h9⟩))
 case fzN n t x=>
  obtain⟨rfl,b,h1,o,h2,cs,E,rfl,⟨h3,h4,h5,h6⟩,cs',h7,h8,h9⟩:=hw
  exact .fz h3 (.one (.stN (b:=b) (off:=0) h1 h2 h3 h4 h5 h6 h7 ⟨h1,AH.set_same _ _ _,h8,by
   have e:(h.set b (.cells cs' E)).del b=h.del b:=by
    unfold AH.set AH.del;congr 1;funext n;simp only[upd];split<;>rfl
   rw[e];exact h9⟩))
 case mapupd str m k x=>obtain⟨b,h1,o,h2,es,rfl,⟨h3,h4⟩,r,h5,h6⟩:=hw;exact .one (.mapupd h1 h2 h3 h4 h5 h6)
 case delete str m k=>obtain⟨b,h1,o,h2,es,rfl,⟨h3,h4⟩,r,h5,h6⟩:=hw;exact .one (.delete h1 h2 h3 h4 h5 h6)
 case call f args=>exact .one (.call hw)
 case callv x args=>
  rcases hw with⟨f,a,b,h1,h2⟩|⟨c,h1,h2⟩
  ·exact .one (.callv h1 h2)
  ·exact .one (.cally h1 h2)
 case oth o=>exact .one hw
 case ini one E zs x=>
  obtain⟨⟨h0,h1,h2,h3,h4,h5,h6⟩,h7⟩:=hw
  obtain⟨t,rfl⟩:=Option.isSome_iff_exists.1 h1
  refine WS.cons (R:=fun fr' h'=>∃b,h.objs b=none/\¬K b/\fr'=upd fr t (.ptr b 0)/\h'=h.set b (.cells (zs.map ofC1) E)) (.one (.alloc fun b hb hk=>⟨b,hb,hk,rfl,rfl⟩)) ?_
  rintro fr' h' ⟨b,hb,hk,rfl,rfl⟩
  have e1:evA (upd fr t (.ptr b 0)) x=evA fr x:=evA_setA (d:=some t) h2
  have e2:(h.set b (.cells (cellsA (evA fr x)) E)).del b=h:=AH.set_del _ _ hb
  have e4:putA (zs.map ofC1) 0 (cellsA (evA (upd fr t (.ptr b 0)) x))=some (cellsA (evA fr x)):=by rw[e1];unfold putA;rw[if_pos (by simp[h4])];simp[h4]
  have e3:upd (upd fr t (.ptr b 0)) t (.rptr (cellsA (evA fr x)))=upd fr t (.rptr (cellsA (evA fr x))):=by funext n;simp only[upd];split<;>rfl
  have fin:(fun (fr':AFr)(h':AH)=>fr' t=.ptr b 0/\h'.objs b=some (.cells (cellsA (evA fr x)) E)/\cellsA (evA fr x)≠[]/\Q (upd fr' t (.rptr (cellsA (evA fr x)))) (h'.del b)) (setA (upd fr t (.ptr b 0)) none .any) ((h.set b (.cells (zs.map ofC1) E)).set b (.cells (cellsA (evA fr x)) E)):=by
   refine⟨upd_same _ _ _,by simp only[AH.set_set,AH.set_same],by intro e;rw[e] at h4;exact h5 (List.length_eq_zero_iff.1 h4.symm),?_⟩
   simp only[AH.set_set,setA,e2,e3]
   exact h7
  refine .fz (t:=t) (b:=b) (cs:=cellsA (evA fr x)) (E:=E) hk (.one ?_)
  cases one with
  |true=>exact .st1 (b:=b) (off:=0) (cs:=zs.map ofC1) (cs':=cellsA (evA fr x)) (upd_same _ _ _) (AH.set_same _ _ _) hk (by rw[e1];exact h3) (by rw[e1,h4];exact h0 rfl) (by rw[e1];exact h6) e4 fin
  |false=>exact .stN (b:=b) (off:=0) (cs:=zs.map ofC1) (cs':=cellsA (evA fr x)) (upd_same _ _ _) (AH.set_same _ _ _) hk (by rw[e1];exact h3) (by rw[e1];exact h4) (by rw[e1];exact h6) e4 fin
theorem iniSt_no {op:MOp}(hi:isIni op=false)(d:Option Tmp)(g:Option (Tmp×Bool)):iniSt d g op=[]:=by
 cases op<;>first|rfl|cases hi
theorem toC_guard {op:MOp}(d:Option Tmp)(g:Option (Tmp×Bool)):∃o,MOp.toC d g op=⟨d,g,o⟩/\MOp.toC d none op=⟨d,none,o⟩:=by
 cases op<;>exact⟨_,rfl,rfl⟩
theorem wpS_ok {s:MStep}(hw:wpS T K s fr h Q):WS T K s.toC fr h Q:=by
 obtain⟨d,g,op⟩:=s
 cases g with
 |none=>exact wpO_ok hw
 |some p=>
  obtain⟨t,b⟩:=p
  obtain⟨hi,hw⟩:=hw
  obtain⟨o,e1,e2⟩:=toC_guard (op:=op) d (some (t,b))
  simp only[MStep.toC,MStep.toC1,iniSt_no hi,e1]
  rcases hw with⟨c,h1,h2⟩|⟨h1,h2⟩
  case inr=>exact .skipU h1 h2
  cases hc:c==b with
  |true=>
   rw[hc] at h2
   have:=wpO_ok (show wpO T K d op fr h Q from h2)
   simp only[MStep.toC,MStep.toC1,iniSt_no hi,e2] at this
   have hcb:c=b:=by simpa using hc
   exact .yes (by rw[h1,hcb]) this
  |false=>rw[hc] at h2;exact .skip h1 hc h2
theorem wpL_ok:∀{l:List MStep}{fr:AFr}{h:AH}{Q:AQ},wpL T K l fr h Q->WS T K (toL l) fr h Q
 |[],fr,h,Q,hw=>.nil hw
 |s::l,fr,h,Q,hw=>.app (wpS_ok hw) fun fr h hw=>wpL_ok hw
theorem KOk.union {ds:List Nat}(hK:KOk K h)(hd:∀b∈ds,h.objs b≠none):KOk (KU K ds) h:=fun b hb=>by
 rcases hb with hb|hb
 ·exact hK b hb
 ·cases e:h.objs b with
  |none=>exact absurd e (hd b hb)
  |some o=>exact⟨o,rfl⟩
theorem KOk.less {K K':Nat->Prop}(hK:KOk K h)(hl:∀b,K' b->K b):KOk K' h:=fun b hb=>hK b (hl b hb)
theorem depL_each:∀{l:List Again}{ds:List Nat},depL fr l=some ds->∀a∈l,∃x,depG fr a=some x/\∀b∈x,b∈ds
 |[],ds,h,a,ha=>by cases ha
 |a'::l,ds,h,a,ha=>by
  unfold depL at h
  split at h
  ·rename_i x y e1 e2
   cases h
   rcases List.mem_cons.1 ha with rfl|ha
   ·exact⟨x,e1,fun b hb=>by simp[hb]⟩
   ·obtain⟨z,g1,g2⟩:=depL_each e2 a ha
    exact⟨z,g1,fun b hb=>by simp[g2 b hb]⟩
  ·cases h
theorem stage_facts {s:CStep}{prev:List CStep}{ag:List Tmp}{R:AQ}{ds:List Nat}{F:Nat->Nat}{σ:CW}{frC:Fr}(hA:AR F h σ)(hK:KOk K h)(hf:∀t,Rp F σ (fr t) (frC t))
  (hd:depL fr (ag.filterMap (againAt prev))=some ds)(hb:∀b∈ds,h.objs b≠none)(hi:∀t∈ag,indT prev s.dst t=true)(hw:WS T (KU K ds) [s] fr h R)(hfa:Facts prev ag frC σ) :
  StepW (CallA T) s frC σ fun frC' σ'=>After K F σ frC' σ' R/\Facts prev ag frC' σ':=by
 have key:∀σ' (v:Value),(∃F',Ext (KU K ds) F σ F' σ')->Facts prev ag (putT frC s.dst v) σ':=by
  intro σ' v ⟨F',hx⟩ t ht
  obtain⟨a,h1,h2⟩:=hfa t ht
  have hia:=hi t ht
  simp only[indT,h1] at hia
  refine⟨a,h1,again_put hia (fun u hwt hu=>?_) h2⟩
  obtain⟨x,g1,g2⟩:=depL_each hd a (List.mem_filterMap.2 ⟨t,ht,h1⟩)
  have hdep:depA a.o (evA fr)=some x\/wants frC a.g=false:=by
   unfold depG at g1
   split at g1
   ·exact .inl g1
   ·rename_i t' b hg
    split at g1
    ·rename_i c hc
     cases hcb:c==b with
     |true=>rw[hcb] at g1;exact .inl g1
     |false=>
      right
      have:=hf t'
      rw[hc] at this
      simp only[hg,wants,this.bool_inv,hcb]
    ·rename_i hc
     right
     have:=hf t'
     rw[hc] at this
     simp only[hg,wants,this.und_inv];rfl
    ·exact .inl g1
  rcases hdep with hdep|hdep
  ·exact pev_keep hx (evA_rp hf) hdep (fun b hb=>.inr (g2 b hb)) hu
  ·rw[hdep] at hwt;cases hwt
 rcases hw F σ frC hA (hK.union hb) hf with⟨h1,h2⟩|⟨h1,h2⟩
 ·refine .inl ⟨h1,OpW.mono CallA.mono h2 fun v σ' ⟨F',fr',h',g1,g2,g3,g4,g5⟩=>⟨⟨F',fr',h',g1.less fun _=>.inl,g2,g3.less fun _=>.inl,g4,g5⟩,key σ' v ⟨F',g1⟩⟩⟩
 ·obtain⟨F',fr',h',g1,g2,g3,g4,g5⟩:=h2
  exact .inr ⟨h1,⟨F',fr',h',g1.less fun _=>.inl,g2,g3.less fun _=>.inl,g4,g5⟩,key σ cundef ⟨F',g1⟩⟩
theorem again_all {prev:List CStep}:∀{ag:List Again},ag.map (fun a=>againAt prev a.t)=ag.map some->(ag.map (·.t)).filterMap (againAt prev)=ag/\∀a∈ag,againAt prev a.t=some a
 |[],_=>⟨rfl,fun a ha=>by cases ha⟩
 |a::l,h=>by
  simp only[List.map_cons,List.cons.injEq] at h
  obtain⟨h1,h2⟩:=again_all h.2
  refine⟨by simp only[List.map_cons,List.filterMap_cons,h.1,h1],fun x hx=>?_⟩
  rcases List.mem_cons.1 hx with rfl|hx
  ·exact h.1
  ·exact h2 x hx
theorem wpT_ok:∀{l:List MStage}{prev:List CStep}{av:List Tmp}{fr:AFr}{h:AH}{F:Nat->Nat}{σ:CW}{frC:Fr},okT prev av l=true->okR prev l->wpT T K l fr h Q->AR F h σ->KOk K h->(∀t,Rp F σ (fr t) (frC t))->Facts prev av frC σ->
  StagesW (CallA T) (stgC l) frC σ fun frC' σ'=>After K F σ frC' σ' Q
 |[],prev,av,fr,h,F,σ,frC,ho,hr,hw,hA,hK,hf,hfa=>⟨F,fr,h,.refl,hA,hK,hf,hw⟩
 |s::l,prev,av,fr,h,F,σ,frC,ho,hr,hw,hA,hK,hf,hfa=>by
  unfold okT at ho
  simp only[Bool.and_eq_true,Bool.not_eq_true'] at ho
  obtain⟨⟨⟨o1,o2⟩,o3⟩,o4⟩:=ho
  obtain⟨r1,r2⟩:=hr
  obtain⟨q1,q2⟩:=again_all r1
  obtain⟨ds,h1,h2,h3⟩:=hw
  have hs:=wpS_ok h3
  have e1:s.e.toC=[s.e.toC1]:=by simp only[MStep.toC,iniSt_no o1]
  rw[e1] at hs
  have o2':∀t∈s.ag.map (·.t),av.contains t=true/\indT prev s.e.dst t=true:=fun t ht=>by
   have:=List.all_eq_true.1 o2 t ht
   simpa only[Bool.and_eq_true] using this
  have hfa':Facts prev (s.ag.map (·.t)) frC σ:=fun t ht=>hfa t (by simpa using (o2' t ht).1)
  have edst:s.e.toC1.dst=s.e.dst:=by
   obtain⟨o,e,_⟩:=toC_guard (op:=s.e.op) s.e.dst s.e.guard
   simp only[MStep.toC1,e]
  refine StepW.mono CallA.mono (stage_facts hA hK hf (ag:=s.ag.map (·.t)) (by rw[q1];exact h1) h2 (fun t ht=>by rw[edst];exact (o2' t ht).2) hs hfa') ?_
  rintro frC1 σ1 ⟨⟨F1,fr1,hh1,g1,g2,g3,g4,g5⟩,g6⟩
  refine⟨fun a ha=>?_,?_⟩
  ·obtain⟨a',u1,u2⟩:=g6 a.t (List.mem_map.2 ⟨a,ha,rfl⟩)
   rw[q2 a ha] at u1;cases u1;exact u2
  ·refine StepsW.mono CallA.mono (seg_facts CallA.mono o3 g2.inv (wpL_ok g5 F1 σ1 frC1 g2 g3 g4) g6) ?_
   rintro frC2 σ2 ⟨⟨F2,fr2,hh2,k1,k2,k3,k4,k5⟩,k6⟩
   exact StagesW.mono CallA.mono (wpT_ok o4 r2 k5 k2 k3 k4 k6) fun _ _ ha=>After.trans g1 (After.trans k1 ha)
theorem wpD_ok {seg:List MStep}{l:List MStage}{Q:CExit->AQ}(ho:okD seg l)(hw:wpL T K seg fr h fun fr h=>wpT T K l fr h (Q .normal)):W T K (.dregion (toL seg) (stgC l)) fr h Q:=by
 intro F σ frC hA hK hf
 obtain⟨ho,hr⟩:=ho
 rw[Bool.and_eq_true] at ho
 refine .dregion (StepsW.mono CallA.mono (seg_facts CallA.mono (prev:=[]) (av:=[]) ho.1 hA.inv (wpL_ok hw F σ frC hA hK hf) fun t ht=>by cases ht) ?_)
 rintro frC1 σ1 ⟨⟨F1,fr1,hh1,g1,g2,g3,g4,g5⟩,g6⟩
 exact StagesW.mono CallA.mono (wpT_ok ho.2 hr g5 g2 g3 g4 g6) fun _ _ ha=>After.trans g1 ha
theorem wpC_ok:∀{c:MCode}{fr:AFr}{h:AH}{Q:CExit->AQ},wpC T K c fr h Q->W T K c.toC fr h Q:=by
 intro c
 induction c with
 |skip=>exact fun hw F σ frC hA hK hf=>.skip ⟨F,_,_,.refl,hA,hK,hf,hw⟩
 |region ops=>exact fun hw F σ frC hA hK hf=>.region (wpL_ok hw F σ frC hA hK hf)
 |dregion seg l=>exact fun hw=>wpD_ok hw.1 hw.2
 |seq a b iha ihb=>
  intro fr h Q hw
  refine W.seq (iha hw) (fun fr h hr=>ihb hr) fun e fr h he hr=>?_
  cases e with
  |normal=>exact absurd rfl he
  |exit id=>exact hr
  |ret=>exact hr
 |cond c a b iha ihb=>
  intro fr h Q ⟨t,h1,h2⟩
  refine W.cond h1 ?_
  cases t with
  |true=>exact iha h2
  |false=>exact ihb h2
 |block id b ih=>exact fun hw=>W.block (ih hw) fun e fr h hq=>hq
 |loop b ih=>exact fun hw=>hw
 |exit id=>exact fun hw F σ frC hA hK hf=>.exit ⟨F,_,_,.refl,hA,hK,hf,hw⟩
 |ret=>exact fun hw F σ frC hA hK hf=>.ret ⟨F,_,_,.refl,hA,hK,hf,hw⟩
 |rfun f ps a b _ _=>exact fun hw=>hw
 |raw c=>exact fun hw=>hw
end
end Go.Cn
