/- GroupSays: whatever the numbers, the statement's function returns true, changes nothing that was there, and never panics. No condition beyond the row's own. -/

import Derived.Test.YtkopkbhpompmnaaSbP59
import Derived.Test.YtkopkbhpompmnaaCnA11
import Derived.Test.YtkopkbhpompmnaaRows
import Derived.WalkKit
import Derived.ProofKit
import Derived.OpenShut
import Derived.JoinedCond
import Derived.ChangeSlices
namespace Go.Proofs.Ytkopkbhpompmnaa.q
open Go.Proofs Go Go.Cn code grp
set_option linter.unusedSimpArgs false
set_option linter.unusedVariables false
theorem needsF_0 (l:List Int):needsF 0 l=[]:=by
 unfold needsF
 have:∀l:List Int,l.foldl (stepF 0) []=[]:=by
  intro l
  induction l with
  |nil=>rfl
  |cons a l ih=>exact ih
 exact this l
theorem needs_in (n:Nat)(l:List Int):InR n (needsF n l):=by
 rcases Nat.eq_zero_or_pos n with rfl|h
 ·rw[needsF_0];exact⟨rfl,by simp⟩
 ·exact needsF_in h l
theorem needs_len (n:Nat)(l:List Int):∀row∈needsF n l,row.length<=l.length:=by
 unfold needsF
 have:∀(l:List Int)(x:List (List Int))(m:Nat),(∀row∈x,row.length<=m)->∀row∈l.foldl (stepF n) x,row.length<=m+l.length:=by
  intro l
  induction l with
  |nil=>exact fun x m h=>h
  |cons a l ih=>
   intro x m h row hr
   have:=ih (stepF n x a) (m+1) (fun row hr=>?_) row hr
   ·rw[List.length_cons];omega
   ·unfold stepF at hr
    rcases List.mem_or_eq_of_mem_set hr with hr|rfl
    ·have:=h row hr;omega
    ·rw[List.length_append,List.length_singleton]
     have:(x.getD (kF n a).toNat []).length<=m:=by
      cases e:x[(kF n a).toNat]? with
      |none=>simp[List.getD,e]
      |some r=>simp only[List.getD,e,Option.getD_some];exact h r (List.mem_of_getElem? e)
     omega
 intro row hr
 have:=this l (List.replicate n []) 0 (by simp) row hr
 omega
theorem needs0 (E:TypeId)(l:List Int):Pure T 5 [.lst E (lC l) .no,.int .i64 0] (.lst 22 [] .no):=by
 intro K h
 refine ACall.ret t5 fun hK=>?_
 simp only[u_C c5.eq_1,rn,pevA,seval]
 refine WO.mksl0 (j:=.i64) (k:=.i64) (n:=0) rfl rfl (by decide) (by decide) fun b hb1 hb2=>?_
 simp only[rn,pevA,seval]
 refine aloop (α:=Unit) (fun i fr h1=>fr 0=.lst E (lC l) .no/\fr 1=.int .i64 0/\fr 5=.lst 22 [] (.own b b 0 0 0 1)/\fr 6=.int .i64 0/\h1=h.setT b ⟨b,0,0,0,1,22⟩) (fun i=>0) () ?_ ?_
 ·exact⟨rfl,rfl,rfl,rfl,rfl⟩
 ·rintro _ fr h1 ⟨f0,f1,f5,f6,rfl⟩
  have k2:decide ((0:Int)<0)=false:=rfl
  by_cases hl:(0:Int)<(l.length:Int)
  ·simp only[u_C l5_0.eq_1,rn,pevA,seval,f0,f1,f5,f6,lC_len,hl,decide_true,k2]
   exact⟨.tag _ _ _,AH.le_setT hb1⟩
  ·simp only[u_C l5_0.eq_1,rn,pevA,seval,f0,f1,f5,f6,lC_len,hl,decide_false,k2]
   exact⟨.tag _ _ _,AH.le_setT hb1⟩
theorem needs_all (E:TypeId)(l:List Int)(n:Nat)(hn2:n<=15)(hl:l.length<=40):Pure T 5 [.lst E (lC l) .no,.int .i64 n] (.lst 22 (rowsC (needsF n l)) .no):=by
 rcases Nat.eq_zero_or_pos n with rfl|h
 ·rw[needsF_0];exact needs0 E l
 ·exact needs_ok E l n h hn2 hl
theorem mod15 (z:Int):IntKind.i64.wrap (z.tmod 15+15)=z.tmod 15+15/\∃n:Nat,n<=14/\(z.tmod 15+15).tmod 15=n:=by
 have h1:=kF_in (n:=15) (by decide) z
 have h2:=wrapK (n:=15) (by decide) (by decide) z
 refine⟨h2,(kF 15 z).toNat,by omega,?_⟩
 have:(z.tmod 15+15).tmod 15=kF 15 z:=rfl
 rw[this];omega
theorem says_long1 {a:AV}{k:Nat}(ha:Lng a k)(hk:40<k)(z:Int)(a2:AV):Pure T 3 [a,.int .i64 z,a2] (.bool true):=by
 intro K h
 refine ACall.ret t3 fun hK=>?_
 have hl:decide ((40:Int)<(k:Int))=true:=decide_eq_true (by omega)
 cases ha with
 |s b o n c=>
  simp only[u_C c3.eq_1,rn,pevA,seval]
  refine first_ok.use ?_
  simp only[hl,rn,pevA,seval]
  exact⟨.refl _,AH.le_refl _⟩
 |l E es t=>
  simp only[u_C c3.eq_1,rn,pevA,seval]
  refine first_ok.use ?_
  simp only[hl,rn,pevA,seval]
  exact⟨.refl _,AH.le_refl _⟩
theorem says_long2 (E:TypeId)(l:List Int)(hl:l.length<=40)(z:Int){a:AV}{k:Nat}(ha:Lng a k)(hk:300<k):Pure T 3 [.lst E (lC l) .no,.int .i64 z,a] (.bool true):=by
 intro K h
 refine ACall.ret t3 fun hK=>?_
 have h1:decide ((40:Int)<(l.length:Int))=false:=decide_eq_false (by omega)
 have h2:decide ((300:Int)<(k:Int))=true:=decide_eq_true (by omega)
 cases ha with
 |s b o n c=>
  simp only[u_C c3.eq_1,rn,pevA,seval]
  refine first_ok.use ?_
  simp only[lC_len,h1,h2,rn,pevA,seval]
  exact⟨.refl _,AH.le_refl _⟩
 |l E es t=>
  simp only[u_C c3.eq_1,rn,pevA,seval]
  refine first_ok.use ?_
  simp only[lC_len,h1,h2,rn,pevA,seval]
  exact⟨.refl _,AH.le_refl _⟩
end Go.Proofs.Ytkopkbhpompmnaa.q
namespace Go.Proofs.Ytkopkbhpompmnaa.q
open Go.Proofs Go Go.Cn code grp
open p (kN)
set_option linter.unusedSimpArgs false
set_option linter.unusedVariables false
theorem says_main (E:TypeId)(l:List Int)(hl:l.length<=40)(z:Int)(E2:TypeId)(m:List Int)(hm:m.length<=300):Pure T 3 [.lst E (lC l) .no,.int .i64 z,.lst E2 (lC m) .no] (.bool true):=by
 intro K h
 refine ACall.ret t3 fun hK=>?_
 have h1:decide ((40:Int)<(l.length:Int))=false:=decide_eq_false (by omega)
 have h2:decide ((300:Int)<(m.length:Int))=false:=decide_eq_false (by omega)
 obtain⟨hw15,n,hn,hn15⟩:=mod15 z
 simp only[u_C c3.eq_1,rn,pevA,seval]
 refine first_ok.use ?_
 simp only[lC_len,h1,h2,hw15,hn15,rn,pevA,seval]
 refine (needs_all E l n (by omega) hl).use ?_
 simp only[rn,pevA,seval]
 intro b hb hkb
 simp only[rn,pevA,seval]
 have hmk:=@p.make_ok ⟨E2⟩ m K h b hkb
 have e0:@p.seqO ⟨E2⟩ m 0=.cells [.lst E2 (lC m) .no,.int .i64 0] 40:=rfl
 rw[e0] at hmk
 refine hmk.mono ?_
 rintro _ _ ⟨s,rfl,hs,a2,rfl⟩
 simp only[rn,pevA,seval]
 refine WO.s2b rfl (by rw[big_eq];omega) ?_
 simp only[rn,pevA,seval]
 refine (p.Program_ok s (by rw[big_eq];omega)).use ?_
 have hwf:=p.parse_wf s
 have hno:=p.namesV_no s
 have hnl:=p.namesV_len s
 generalize p.namesV s=S at *
 generalize p.parseV s=r at *
 obtain⟨⟨ds,cs,is,bs⟩,r2⟩:=r
 simp only[p.pgR,rn,pevA,seval]
 intro b2 hb2 hk2
 obtain⟨n2,hb2⟩:=AH.set_none.1 hb2
 simp only[rn,pevA,seval]
 intro b3 hb3 hk3
 obtain⟨n32,n3,hb3⟩:=p.new3.1 hb3
 simp only[rn,pevA,seval,kN,n2,n2.symm,n3,n3.symm,n32,n32.symm,AH.del_objs,hk2,hk3]
 have hle:h.le ((((((h.set b (@p.seqO ⟨E2⟩ m a2)).set b2 (.cells [.lst 0 [] .nil,.lst 0 [] .nil,.lst 0 [] .nil,.lst 0 [] .nil] 31)).set b3 (.cells [.int .i64 0,.bool false,.int .i64 0] 33)).del b2)).del b3):=
  le_del (le_del (le_set (le_set (le_set (AH.le_refl _) hb) hb2) hb3) hb2) hb3
 generalize ((((((h.set b (@p.seqO ⟨E2⟩ m a2)).set b2 (.cells [.lst 0 [] .nil,.lst 0 [] .nil,.lst 0 [] .nil,.lst 0 [] .nil] 31)).set b3 (.cells [.int .i64 0,.bool false,.int .i64 0] 33)).del b2)).del b3)=H0 at hle ⊢
 have hbl:(p.bisR bs).length=bs.length:=p.bisR_len bs
 have hb5:bs.length<=1000000:=Nat.le_trans hwf.2 (by decide)
 have hwf1:=hwf.1
 generalize p.dp p.fuel=N at hwf1
 refine aloop (α:=Nat) (fun i fr h1=>fr 1=.int .i64 n/\fr 7=.bool true/\fr 8=.lst 22 (rowsC (needsF n l)) .no/\fr 9=.rptr [.lst 81 (p.dtsR ds) .no,.lst 85 (p.cssR cs) .no,.lst 88 (p.insR is) .no,.lst 67 (p.bisR bs) .no]/\fr 11=.int .i64 i/\i<=bs.length/\h1=H0) (fun i=>bs.length-i) 0
  ⟨rfl,rfl,rfl,rfl,rfl,Nat.zero_le _,rfl⟩ ?_
 rintro i fr h1 ⟨f1,f7,f8,f9,f11,hi,rfl⟩
 by_cases hlt:i<bs.length
 ·have k1:decide ((i:Int)<(bs.length:Int))=true:=decide_eq_true (by omega)
  obtain⟨x,hx⟩ : ∃x,bs[i]?=some x:=⟨_,List.getElem?_eq_getElem hlt⟩
  have hw:IntKind.i64.wrap ((i:Int)+1)=((i+1:Nat):Int):=wrap64 ⟨by omega,by omega⟩
  have hx1:=hwf1 x (List.mem_of_getElem? hx)
  simp only[u_C l3_1.eq_1,e_dregion d3_0,u_L s3_0.eq_1,u_T g3_0.eq_1,rn,pevA,seval,f1,f7,f8,f9,f11,hbl,k1]
  refine (p.needs_ok hno hnl bs hb5 i x hx hx1 (by decide)).use ?_
  simp only[rn,pevA,seval,f1,f7,f8,f9,f11]
  refine (p.refNeeds_ok hnl bs hb5 i x hx hx1 (by decide)).use ?_
  simp only[rn,pevA,seval,f1,f7,f8,f9,f11]
  refine (sameInts_ok (p.needsU (p.freeV N x.2.2.2.1) bs bs.length)).use ?_
  simp only[rn,pevA,seval,f1,f7,f8,f9,f11,hw]
  exact⟨i+1,by show bs.length-(i+1)<bs.length-i;omega,f1,f7,f8,f9,by simp[upd],hlt,rfl⟩
 ·have k1:decide ((i:Int)<(bs.length:Int))=false:=decide_eq_false (by omega)
  simp only[u_C l3_1.eq_1,e_dregion d3_2,u_L s3_2.eq_1,u_T g3_2.eq_1,rn,pevA,seval,f1,f7,f8,f9,f11,hbl,k1]
  have hin:=needs_in n l
  have hil:∀row∈needsF n l,row.length<=1000000:=fun row hr=>by have:=needs_len n l row hr;omega
  refine (order_any (needsF n l) n (by omega) hin hil _ _).mono ?_
  rintro _ _ ⟨o1,ho1,rfl,rfl⟩
  simp only[rn,pevA,seval,f1,f7,f8,f9,f11]
  refine (order4_ok (needsF n l) n (by omega) hin hil _ _).mono ?_
  rintro _ _ ⟨o2,ho2,rfl,rfl⟩
  obtain rfl:=ho1.uniq ho2
  simp only[rn,pevA,seval,f1,f7,f8,f9,f11]
  refine (sameRows_ok o1).use ?_
  simp only[rn,pevA,seval,f1,f7,f8,f9,f11]
  refine (groups_ok hno hnl bs hb5 (n:=N) hwf1 (by decide) _ _).mono ?_
  rintro _ _ ⟨o3,ho3,rfl,rfl⟩
  simp only[rn,pevA,seval,f1,f7,f8,f9,f11]
  refine (groups4_ok hnl bs hb5 (n:=N) hwf1 (by decide) _ _).mono ?_
  rintro _ _ ⟨o4,ho4,rfl,rfl⟩
  obtain rfl:=ho3.uniq ho4
  simp only[rn,pevA,seval,f1,f7,f8,f9,f11]
  refine (sameRows_ok o3).use ?_
  simp only[rn,pevA,seval,f1,f7,f8,f9,f11]
  exact⟨.refl _,hle⟩
end Go.Proofs.Ytkopkbhpompmnaa.q
namespace Go.Proofs.Ytkopkbhpompmnaa.groupSays
open Go.ChangeShapes Go.WideShapes Go.ChangeAt Go.RowKit Go.Cn
set_option linter.unusedVariables false
set_option linter.unusedSimpArgs false
theorem own:ownKnob Try.prog.godebug=none:=by kernel_rfl
theorem ok1:ProgOk Try.prog:=progOk_of (by kernel_rfl) (by kernel_rfl)
theorem glob:Try.prog.globals.size=0:=by kernel_rfl
theorem cells3:Try.prog.cellsOf 3=1:=by kernel_rfl
theorem walk (z:Int)(l:List AV)(h:∃a l1,l=a::l1/\Sl 40 (fun l=>l.map fun n=>[.int .i64 n]) a/\∃a' l2,l1=a'::l2/\a'=.int .i64 z/\∃a'' l3,l2=a''::l3/\Sl 300 (fun l=>l.map fun n=>[.int .i64 n]) a''/\l3=[]):Pure code.T 3 l (.bool true):=by
 obtain⟨a,l1,rfl,⟨n,h1,h2⟩,_,_,rfl,rfl,a2,_,rfl,⟨m,h3,h4⟩,rfl⟩:=h
 by_cases hc:40<n
 ·exact q.says_long1 h1 hc z a2
 ·obtain⟨E,xs,e,rfl⟩:=h2 (by omega)
  by_cases hd:300<m
  ·exact q.says_long2 E xs (by omega) z h3 hd
  ·obtain⟨E2,ys,e2,rfl⟩:=h4 (by omega)
   exact q.says_main E xs (by omega) z E2 ys (by omega)
set_option maxRecDepth 100000 in
theorem contract (H:Type)(enc:TypeId×Value->H)(W:World)(base:Nat)(args:Array Value)(ds gs:List (DataW H))(before:List MemPlace)
  (hval:∀(j:Nat) t v,Try.f3.params[j]?=some t->args[j]?=some v->Value.okWide Try.prog W .any base t v)
  (hW:DataW.Whole enc Try.prog Try.f3.params.toList Rows.groupSaysSpec.vars false W args.toList ds gs before) :
  Calls Try.prog 3 args W fun e W'=>∃v,e=.returned v/\Rows.groupSaysSpec.post enc Try.prog Try.f3 false true false false W args v W':=by
 have hW':=hW
 obtain⟨p,q,hA0,hV,rfl,hfz,hnd⟩:=hW
 have hA:DataW.TrodAll enc Try.prog W 0 (fun _=>true) true Try.f3.params.toList args.toList ds p:=hA0
 rw[Try.params3] at hA hval
 obtain⟨v0,vs0,d0,ds0,p0,q0,hargs,rfl,rfl,h0,r0⟩:=trodAll_cons hA
 obtain⟨v1,vs1,d1,ds1,p1,q1,rfl,rfl,rfl,h1,r1⟩:=trodAll_cons r0
 obtain⟨v2,vs2,d2,ds2,p2,q2,rfl,rfl,rfl,h2,r2⟩:=trodAll_cons r1
 obtain⟨rfl,rfl,rfl⟩:=trodAll_nil r2
 obtain rfl:args= #[v0,v1,v2]:=by cases args;simp_all
 obtain⟨rfl,rfl⟩:=trodVars_none hV
 obtain⟨z,rfl,rfl,rfl,w1⟩:=open_int Try.underlying3 (hval 1 3 v1 rfl rfl) h1
 have k0:=ints_pkg (N:=40) (by decide) Try.underlying22 Try.underlying3 cells3 (okWide_slice Try.underlying22 (hval 0 22 v0 rfl rfl)) h0
 have k2:=ints_pkg (N:=300) (by decide) Try.underlying22 Try.underlying3 cells3 (okWide_slice Try.underlying22 (hval 2 22 v2 rfl rfl)) h2
 have kk:=Pkgs.cons k0 (Pkgs.cons (int_pkg (enc:=enc) (W:=W) Try.underlying3 w1) (Pkgs.cons k2 Pkgs.nil))
 refine (runPk ok1 (tab_ok Try.prog) glob kk (walk z)).mono fun e W' ⟨he,hg⟩=>?_
 subst he
 exact⟨_,rfl,post_of_kept (pa:=p0++([]++(p2++[]))) (pv:=[]) hW' (fun _ _ _=>(trodAll_cons_mk (shut_bool Try.underlying4 _) trodAll_mk0)) (fun sp hsp=>kk.2 W' hg sp fun x hx=>hsp x (by simpa using hx)) (fun _ _=>rfl) (by simp)
  hg (ok_one (by kernel_rfl) rfl (okWide_bool_mk Try.underlying4 _))⟩
set_option maxRecDepth 100000 in
theorem lifted (os:Os)(started:os.Started)(H:Type)(enc:TypeId×Value->H) :
  ReturnsInHanded {} Try.checked os 3 .any (Rows.groupSaysSpec.pre6 enc Try.prog Try.f3 Rows.groupSaysRow.domain false) (Rows.groupSaysSpec.post enc Try.prog Try.f3 false true false false):=by
 refine returnsInHanded_of_change (C:=Try.checked) own started (by kernel_rfl) Try.func3
  (ChangeSpec.witness6 (enc:=enc) (C:=Try.checked) false ⟨#[], #[.slice none 0 0,.int .i64 0,.slice none 0 0],[]⟩ 8 (by kernel_rfl) (by kernel_rfl) (by kernel_rfl) (by kernel_rfl)) ?_
 intro W base args ds gs before hval hW _ _
 exact contract H enc W base args ds gs before hval hW
theorem proved:Rows.GroupSaysSaid:=
 OpenClaim.holds_of_wide 3 Try.f3 rfl rfl rfl rfl rfl rfl rfl ⟨rfl,rfl,rfl,rfl,rfl⟩ rfl rfl rfl rfl rfl (by kernel_rfl) Try.func3 (by kernel_rfl)
  (of_decide_eq_true (by kernel_rfl)) (by unfold Func.isWrapper;first|(rw[if_pos (by decide +kernel)];kernel_rfl)|(rw[if_neg (by decide +kernel)];exact⟨rfl,rfl⟩))
  (fun os started H enc _=>lifted os started H enc)
#print axioms proved
end Go.Proofs.Ytkopkbhpompmnaa.groupSays
