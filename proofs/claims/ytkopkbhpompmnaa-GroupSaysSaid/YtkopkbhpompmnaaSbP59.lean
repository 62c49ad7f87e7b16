/- Expressions' texts out of numbers: what has parts. -/

import Derived.Test.YtkopkbhpompmnaaSbP19
import Derived.Test.YtkopkbhpompmnaaSbLaw1
namespace Go.Proofs.Ytkopkbhpompmnaa.p
open Go.Proofs Go Go.Cn code
set_option linter.unusedSimpArgs false
set_option linter.unusedVariables false
variable [SeqE]
section
variable {V:Nat}
set_option maxRecDepth 4000 in
theorem expr_a (l:List Int)(K:Nat->Prop)(h:AH)(b:Nat)(hk:¬K b)(hK:∀o,KOk K (h.set b o))(E:TypeId)(t:Tag)(vars:List Nm)(hV:vars.length+2<=V)(hV2:V<=1000)(hW:∀w,w∈vars->w.length<=10)(a:Nat)(fr:AFr)
  (f0:fr 0=.ptr b 0)(f1:fr 1=.lst E (strC vars) t)(B C d L Z:Nat)(hL:10*B<=L)(hZ:a+9*C<=Z)(hB:100<=B)(hB2:B<=1000000000)(hC:1<=C)(hA:a+9*C<=1000000000)(hwd:IntKind.i64.wrap (((d+1:Nat):Int)-1)=(d:Int))(f2:fr 2=.int .i64 ((d+1:Nat):Int))
  (ih:∀(E:TypeId)(t:Tag)(vars:List Nm)(a:Nat),a+C<=1000000000->vars.length<=V->(∀w,w∈vars->w.length<=10)->MK l 21 [.lst E (strC vars) t,.int .i64 (d:Nat)] a fun v a2=>∃s,v=.str s/\s.length<=B/\a2<=a+C)(n:Int)(hn:n=8\/n=9)(f7:fr 7=.int .i64 n) :
  wpC T K tl21_0 fr (h.set b (seqO l a)) (RetQ K [.tmp 6] fun v h'=>∃a2,(∃s,v=.str s/\s.length<=L/\a2<=Z)/\h'=h.set b (seqO l a2)):=by
 rcases hn with rfl|rfl
 all_goals
  simp only[u_C tl21_0.eq_1,rn,pevA,seval,f0,f1,f2,f7,hwd]
  refine (ih E t (vars) (a) (by omega) (by omega) hW).use (by simp only[tk_objs,AH.set_same]) hk ?_
  rintro _ a1 ⟨s1,rfl,ls1,ha1⟩
  simp only[rn,pevA,seval,f0,f1,f2,f7,hwd]
  refine onS_if (by (try simp);omega) ?_
  simp only[rn,pevA,seval,f0,f1,f2,f7,hwd]
  refine onS_if (by (try simp);omega) ?_
  simp only[rn,pevA,seval,f0,f1,f2,f7,hwd]
  refine (ih E t (vars) (a1) (by omega) (by omega) hW).use (by simp only[tk_objs,AH.set_same]) hk ?_
  rintro _ a2 ⟨s2,rfl,ls2,ha2⟩
  simp only[rn,pevA,seval,f0,f1,f2,f7,hwd]
  refine onS_if (by (try simp);omega) ?_
  simp only[rn,pevA,seval,f0,f1,f2,f7,hwd]
  refine onS_if (by (try simp);omega) ?_
  simp only[rn,pevA,seval,f0,f1,f2,f7,hwd]
  exact⟨_,h.set b (seqO l (a2)),.weak (.refl _) (.drop (AH.le_refl _) (.refl _ _)),hK _,a2,⟨_,rfl,by simp;omega,by omega⟩,rfl⟩
set_option maxRecDepth 4000 in
theorem expr_a2 (l:List Int)(K:Nat->Prop)(h:AH)(b:Nat)(hk:¬K b)(hK:∀o,KOk K (h.set b o))(E:TypeId)(t:Tag)(vars:List Nm)(hV:vars.length+2<=V)(hV2:V<=1000)(hW:∀w,w∈vars->w.length<=10)(a:Nat)(fr:AFr)
  (f0:fr 0=.ptr b 0)(f1:fr 1=.lst E (strC vars) t)(B C d L Z:Nat)(hL:10*B<=L)(hZ:a+9*C<=Z)(hB:100<=B)(hB2:B<=1000000000)(hC:1<=C)(hA:a+9*C<=1000000000)(hwd:IntKind.i64.wrap (((d+1:Nat):Int)-1)=(d:Int))(f2:fr 2=.int .i64 ((d+1:Nat):Int))
  (ih:∀(E:TypeId)(t:Tag)(vars:List Nm)(a:Nat),a+C<=1000000000->vars.length<=V->(∀w,w∈vars->w.length<=10)->MK l 21 [.lst E (strC vars) t,.int .i64 (d:Nat)] a fun v a2=>∃s,v=.str s/\s.length<=B/\a2<=a+C)(n:Int)(hn:n=10\/n=11)(f7:fr 7=.int .i64 n) :
  wpC T K tl21_0 fr (h.set b (seqO l a)) (RetQ K [.tmp 6] fun v h'=>∃a2,(∃s,v=.str s/\s.length<=L/\a2<=Z)/\h'=h.set b (seqO l a2)):=by
 rcases hn with rfl|rfl
 all_goals
  simp only[u_C tl21_0.eq_1,rn,pevA,seval,f0,f1,f2,f7,hwd]
  refine (ih E t (vars) (a) (by omega) (by omega) hW).use (by simp only[tk_objs,AH.set_same]) hk ?_
  rintro _ a1 ⟨s1,rfl,ls1,ha1⟩
  simp only[rn,pevA,seval,f0,f1,f2,f7,hwd]
  refine onS_if (by (try simp);omega) ?_
  simp only[rn,pevA,seval,f0,f1,f2,f7,hwd]
  refine onS_if (by (try simp);omega) ?_
  simp only[rn,pevA,seval,f0,f1,f2,f7,hwd]
  refine (ih E t (vars) (a1) (by omega) (by omega) hW).use (by simp only[tk_objs,AH.set_same]) hk ?_
  rintro _ a2 ⟨s2,rfl,ls2,ha2⟩
  simp only[rn,pevA,seval,f0,f1,f2,f7,hwd]
  refine onS_if (by (try simp);omega) ?_
  simp only[rn,pevA,seval,f0,f1,f2,f7,hwd]
  refine onS_if (by (try simp);omega) ?_
  simp only[rn,pevA,seval,f0,f1,f2,f7,hwd]
  exact⟨_,h.set b (seqO l (a2)),.weak (.refl _) (.drop (AH.le_refl _) (.refl _ _)),hK _,a2,⟨_,rfl,by simp;omega,by omega⟩,rfl⟩
set_option maxRecDepth 4000 in
theorem expr_l (l:List Int)(K:Nat->Prop)(h:AH)(b:Nat)(hk:¬K b)(hK:∀o,KOk K (h.set b o))(E:TypeId)(t:Tag)(vars:List Nm)(hV:vars.length+2<=V)(hV2:V<=1000)(hW:∀w,w∈vars->w.length<=10)(a:Nat)(fr:AFr)
  (f0:fr 0=.ptr b 0)(f1:fr 1=.lst E (strC vars) t)(B C d L Z:Nat)(hL:10*B<=L)(hZ:a+9*C<=Z)(hB:100<=B)(hB2:B<=1000000000)(hC:1<=C)(hA:a+9*C<=1000000000)(hwd:IntKind.i64.wrap (((d+1:Nat):Int)-1)=(d:Int))(f2:fr 2=.int .i64 ((d+1:Nat):Int))
  (ih:∀(E:TypeId)(t:Tag)(vars:List Nm)(a:Nat),a+C<=1000000000->vars.length<=V->(∀w,w∈vars->w.length<=10)->MK l 21 [.lst E (strC vars) t,.int .i64 (d:Nat)] a fun v a2=>∃s,v=.str s/\s.length<=B/\a2<=a+C)(n:Int)(hn:n=12\/n=13)(f7:fr 7=.int .i64 n) :
  wpC T K tl21_0 fr (h.set b (seqO l a)) (RetQ K [.tmp 6] fun v h'=>∃a2,(∃s,v=.str s/\s.length<=L/\a2<=Z)/\h'=h.set b (seqO l a2)):=by
 rcases hn with rfl|rfl
 all_goals
  simp only[u_C tl21_0.eq_1,rn,pevA,seval,f0,f1,f2,f7,hwd]
  refine (pick_mk l (a) (by omega) 9 .no [[120],[121],[122],[102]] (by decide) (by decide)).use (by simp only[tk_objs,AH.set_same]) hk ?_
  rintro _ _ ⟨⟨w1,hw1,rfl⟩,rfl⟩
  have lw1:w1.length<=10:=(by decide:∀w∈([[120],[121],[122],[102]]:List Nm),w.length<=10) w1 hw1
  clear hw1
  simp only[rn,pevA,seval,f0,f1,f2,f7,hwd]
  refine onS_if (by (try simp);omega) ?_
  simp only[rn,pevA,seval,f0,f1,f2,f7,hwd]
  refine onS_if (by (try simp);omega) ?_
  simp only[rn,pevA,seval,f0,f1,f2,f7,hwd]
  refine (texts_ok E vars t (by unfold most;omega) K _).mono ?_
  rintro _ _ ⟨tg1,t1,rfl,hT1,rfl⟩
  simp only[rn,pevA,seval,f0,f1,f2,f7,hwd]
  refine WO.append (i:=0) hT1 rfl rfl rfl trivial (by decide) (by simp) rfl (.inr rfl) (fun _=>?_) ?_ fun tg2 t2 hT2=>?_
  ·simp[capOk,strC_len];omega
  ·simp[big_eq,strC_len];omega
  have hrow:strC vars++[[.str w1]]=strC (vars++[w1]):=by simp[strC]
  rw[hrow]
  simp only[rn,pevA,seval,f0,f1,f2,f7,hwd]
  have hX:∀w,w∈vars++[w1]->w.length<=10:=by intro w hw;rw[List.mem_append] at hw;rcases hw with hw|hw;exact hW w hw;simp only[List.mem_cons,List.not_mem_nil,or_false] at hw;subst hw;assumption
  refine (ih 9 tg2 (vars++[w1]) (a+1) (by omega) (by simp;omega) hX).use (by simp only[tk_objs,AH.set_same]) hk ?_
  rintro _ a2 ⟨s2,rfl,ls2,ha2⟩
  simp only[rn,pevA,seval,f0,f1,f2,f7,hwd]
  refine onS_if (by (try simp);omega) ?_
  simp only[rn,pevA,seval,f0,f1,f2,f7,hwd]
  refine onS_if (by (try simp);omega) ?_
  simp only[rn,pevA,seval,f0,f1,f2,f7,hwd]
  exact⟨_,h.set b (seqO l (a2)),.weak (.refl _) (.drop (le_tk (AH.le_refl _) hT2.le) (.refl _ _)),hK _,a2,⟨_,rfl,by simp;omega,by omega⟩,rfl⟩
end
end Go.Proofs.Ytkopkbhpompmnaa.p
namespace Go.Proofs.Ytkopkbhpompmnaa.p
open Go.Proofs Go Go.Cn code
set_option linter.unusedSimpArgs false
set_option linter.unusedVariables false
variable [SeqE]
section
variable {V:Nat}
set_option maxRecDepth 4000 in
theorem expr_o (l:List Int)(K:Nat->Prop)(h:AH)(b:Nat)(hk:¬K b)(hK:∀o,KOk K (h.set b o))(E:TypeId)(t:Tag)(vars:List Nm)(hV:vars.length+2<=V)(hV2:V<=1000)(hW:∀w,w∈vars->w.length<=10)(a:Nat)(fr:AFr)
  (f0:fr 0=.ptr b 0)(f1:fr 1=.lst E (strC vars) t)(B C d L Z:Nat)(hL:10*B<=L)(hZ:a+9*C<=Z)(hB:100<=B)(hB2:B<=1000000000)(hC:1<=C)(hA:a+9*C<=1000000000)(hwd:IntKind.i64.wrap (((d+1:Nat):Int)-1)=(d:Int))(f2:fr 2=.int .i64 ((d+1:Nat):Int))
  (ih:∀(E:TypeId)(t:Tag)(vars:List Nm)(a:Nat),a+C<=1000000000->vars.length<=V->(∀w,w∈vars->w.length<=10)->MK l 21 [.lst E (strC vars) t,.int .i64 (d:Nat)] a fun v a2=>∃s,v=.str s/\s.length<=B/\a2<=a+C)(n:Int)(hn:n=14\/n=15)(f7:fr 7=.int .i64 n) :
  wpC T K tl21_0 fr (h.set b (seqO l a)) (RetQ K [.tmp 6] fun v h'=>∃a2,(∃s,v=.str s/\s.length<=L/\a2<=Z)/\h'=h.set b (seqO l a2)):=by
 rcases hn with rfl|rfl
 all_goals
  simp only[u_C tl21_0.eq_1,rn,pevA,seval,f0,f1,f2,f7,hwd]
  refine (ih E t (vars) (a) (by omega) (by omega) hW).use (by simp only[tk_objs,AH.set_same]) hk ?_
  rintro _ a1 ⟨s1,rfl,ls1,ha1⟩
  simp only[rn,pevA,seval,f0,f1,f2,f7,hwd]
  refine onS_if (by (try simp);omega) ?_
  simp only[rn,pevA,seval,f0,f1,f2,f7,hwd]
  refine onS_if (by (try simp);omega) ?_
  simp only[rn,pevA,seval,f0,f1,f2,f7,hwd]
  refine (pick_mk l (a1) (by omega) 9 .no [[43],[45],[42],[61,61],[47,61],[60],[60,61],[62],[62,61]] (by decide) (by decide)).use (by simp only[tk_objs,AH.set_same]) hk ?_
  rintro _ _ ⟨⟨w2,hw2,rfl⟩,rfl⟩
  have lw2:w2.length<=10:=(by decide:∀w∈([[43],[45],[42],[61,61],[47,61],[60],[60,61],[62],[62,61]]:List Nm),w.length<=10) w2 hw2
  clear hw2
  simp only[rn,pevA,seval,f0,f1,f2,f7,hwd]
  refine onS_if (by (try simp);omega) ?_
  simp only[rn,pevA,seval,f0,f1,f2,f7,hwd]
  refine onS_if (by (try simp);omega) ?_
  simp only[rn,pevA,seval,f0,f1,f2,f7,hwd]
  refine (ih E t (vars) (a1+1) (by omega) (by omega) hW).use (by simp only[tk_objs,AH.set_same]) hk ?_
  rintro _ a3 ⟨s3,rfl,ls3,ha3⟩
  simp only[rn,pevA,seval,f0,f1,f2,f7,hwd]
  refine onS_if (by (try simp);omega) ?_
  simp only[rn,pevA,seval,f0,f1,f2,f7,hwd]
  refine onS_if (by (try simp);omega) ?_
  simp only[rn,pevA,seval,f0,f1,f2,f7,hwd]
  exact⟨_,h.set b (seqO l (a3)),.weak (.refl _) (.drop (AH.le_refl _) (.refl _ _)),hK _,a3,⟨_,rfl,by simp;omega,by omega⟩,rfl⟩
set_option maxRecDepth 4000 in
theorem expr_i (l:List Int)(K:Nat->Prop)(h:AH)(b:Nat)(hk:¬K b)(hK:∀o,KOk K (h.set b o))(E:TypeId)(t:Tag)(vars:List Nm)(hV:vars.length+2<=V)(hV2:V<=1000)(hW:∀w,w∈vars->w.length<=10)(a:Nat)(fr:AFr)
  (f0:fr 0=.ptr b 0)(f1:fr 1=.lst E (strC vars) t)(B C d L Z:Nat)(hL:10*B<=L)(hZ:a+9*C<=Z)(hB:100<=B)(hB2:B<=1000000000)(hC:1<=C)(hA:a+9*C<=1000000000)(hwd:IntKind.i64.wrap (((d+1:Nat):Int)-1)=(d:Int))(f2:fr 2=.int .i64 ((d+1:Nat):Int))
  (ih:∀(E:TypeId)(t:Tag)(vars:List Nm)(a:Nat),a+C<=1000000000->vars.length<=V->(∀w,w∈vars->w.length<=10)->MK l 21 [.lst E (strC vars) t,.int .i64 (d:Nat)] a fun v a2=>∃s,v=.str s/\s.length<=B/\a2<=a+C)(f7:fr 7=.int .i64 16) :
  wpC T K tl21_0 fr (h.set b (seqO l a)) (RetQ K [.tmp 6] fun v h'=>∃a2,(∃s,v=.str s/\s.length<=L/\a2<=Z)/\h'=h.set b (seqO l a2)):=by
 simp only[u_C tl21_0.eq_1,rn,pevA,seval,f0,f1,f2,f7,hwd]
 refine (ih E t (vars) (a) (by omega) (by omega) hW).use (by simp only[tk_objs,AH.set_same]) hk ?_
 rintro _ a1 ⟨s1,rfl,ls1,ha1⟩
 simp only[rn,pevA,seval,f0,f1,f2,f7,hwd]
 refine onS_if (by (try simp);omega) ?_
 simp only[rn,pevA,seval,f0,f1,f2,f7,hwd]
 refine onS_if (by (try simp);omega) ?_
 simp only[rn,pevA,seval,f0,f1,f2,f7,hwd]
 refine (ih E t (vars) (a1) (by omega) (by omega) hW).use (by simp only[tk_objs,AH.set_same]) hk ?_
 rintro _ a2 ⟨s2,rfl,ls2,ha2⟩
 simp only[rn,pevA,seval,f0,f1,f2,f7,hwd]
 refine onS_if (by (try simp);omega) ?_
 simp only[rn,pevA,seval,f0,f1,f2,f7,hwd]
 refine onS_if (by (try simp);omega) ?_
 simp only[rn,pevA,seval,f0,f1,f2,f7,hwd]
 refine (ih E t (vars) (a2) (by omega) (by omega) hW).use (by simp only[tk_objs,AH.set_same]) hk ?_
 rintro _ a3 ⟨s3,rfl,ls3,ha3⟩
 simp only[rn,pevA,seval,f0,f1,f2,f7,hwd]
 refine onS_if (by (try simp);omega) ?_
 simp only[rn,pevA,seval,f0,f1,f2,f7,hwd]
 refine onS_if (by (try simp);omega) ?_
 simp only[rn,pevA,seval,f0,f1,f2,f7,hwd]
 exact⟨_,h.set b (seqO l (a3)),.weak (.refl _) (.drop (AH.le_refl _) (.refl _ _)),hK _,a3,⟨_,rfl,by simp;omega,by omega⟩,rfl⟩
end
end Go.Proofs.Ytkopkbhpompmnaa.p
namespace Go.Proofs.Ytkopkbhpompmnaa.p
open Go.Proofs Go Go.Cn code
set_option linter.unusedSimpArgs false
set_option linter.unusedVariables false
variable [SeqE]
section
variable {V:Nat}
set_option maxRecDepth 4000 in
theorem expr_t (l:List Int)(K:Nat->Prop)(h:AH)(b:Nat)(hk:¬K b)(hK:∀o,KOk K (h.set b o))(E:TypeId)(t:Tag)(vars:List Nm)(hV:vars.length+2<=V)(hV2:V<=1000)(hW:∀w,w∈vars->w.length<=10)(a:Nat)(fr:AFr)
  (f0:fr 0=.ptr b 0)(f1:fr 1=.lst E (strC vars) t)(B C d L Z:Nat)(hL:10*B<=L)(hZ:a+9*C<=Z)(hB:100<=B)(hB2:B<=1000000000)(hC:1<=C)(hA:a+9*C<=1000000000)(hwd:IntKind.i64.wrap (((d+1:Nat):Int)-1)=(d:Int))(f2:fr 2=.int .i64 ((d+1:Nat):Int))
  (ih:∀(E:TypeId)(t:Tag)(vars:List Nm)(a:Nat),a+C<=1000000000->vars.length<=V->(∀w,w∈vars->w.length<=10)->MK l 21 [.lst E (strC vars) t,.int .i64 (d:Nat)] a fun v a2=>∃s,v=.str s/\s.length<=B/\a2<=a+C)(f7:fr 7=.int .i64 17) :
  wpC T K tl21_0 fr (h.set b (seqO l a)) (RetQ K [.tmp 6] fun v h'=>∃a2,(∃s,v=.str s/\s.length<=L/\a2<=Z)/\h'=h.set b (seqO l a2)):=by
 simp only[u_C tl21_0.eq_1,rn,pevA,seval,f0,f1,f2,f7,hwd]
 refine (pick_mk l (a) (by omega) 9 .no [[103],[104],[120]] (by decide) (by decide)).use (by simp only[tk_objs,AH.set_same]) hk ?_
 rintro _ _ ⟨⟨w1,hw1,rfl⟩,rfl⟩
 have lw1:w1.length<=10:=(by decide:∀w∈([[103],[104],[120]]:List Nm),w.length<=10) w1 hw1
 clear hw1
 simp only[rn,pevA,seval,f0,f1,f2,f7,hwd]
 refine (texts_ok E vars t (by unfold most;omega) K _).mono ?_
 rintro _ _ ⟨tg1,t1,rfl,hT1,rfl⟩
 simp only[rn,pevA,seval,f0,f1,f2,f7,hwd]
 refine WO.append (i:=0) hT1 rfl rfl rfl trivial (by decide) (by simp) rfl (.inr rfl) (fun _=>?_) ?_ fun tg2 t2 hT2=>?_
 ·simp[capOk,strC_len];omega
 ·simp[big_eq,strC_len];omega
 have hrow:strC vars++[[.str w1]]=strC (vars++[w1]):=by simp[strC]
 rw[hrow]
 simp only[rn,pevA,seval,f0,f1,f2,f7,hwd]
 have hX:∀w,w∈vars++[w1]->w.length<=10:=by intro w hw;rw[List.mem_append] at hw;rcases hw with hw|hw;exact hW w hw;simp only[List.mem_cons,List.not_mem_nil,or_false] at hw;subst hw;assumption
 refine onS_if (by (try simp);omega) ?_
 simp only[rn,pevA,seval,f0,f1,f2,f7,hwd]
 refine onS_if (by (try simp);omega) ?_
 simp only[rn,pevA,seval,f0,f1,f2,f7,hwd]
 refine (ih 9 tg2 (vars++[w1]) (a+1) (by omega) (by simp;omega) hX).use (by simp only[tk_objs,AH.set_same]) hk ?_
 rintro _ a2 ⟨s2,rfl,ls2,ha2⟩
 simp only[rn,pevA,seval,f0,f1,f2,f7,hwd]
 refine onS_if (by (try simp);omega) ?_
 simp only[rn,pevA,seval,f0,f1,f2,f7,hwd]
 refine onS_if (by (try simp);omega) ?_
 simp only[rn,pevA,seval,f0,f1,f2,f7,hwd]
 refine (ih 9 tg2 (vars++[w1]) (a2) (by omega) (by simp;omega) hX).use (by simp only[tk_objs,AH.set_same]) hk ?_
 rintro _ a3 ⟨s3,rfl,ls3,ha3⟩
 simp only[rn,pevA,seval,f0,f1,f2,f7,hwd]
 refine onS_if (by (try simp);omega) ?_
 simp only[rn,pevA,seval,f0,f1,f2,f7,hwd]
 refine onS_if (by (try simp);omega) ?_
 simp only[rn,pevA,seval,f0,f1,f2,f7,hwd]
 exact⟨_,h.set b (seqO l (a3)),.weak (.refl _) (.drop (le_tk (AH.le_refl _) hT2.le) (.refl _ _)),hK _,a3,⟨_,rfl,by simp;omega,by omega⟩,rfl⟩
set_option maxRecDepth 4000 in
theorem expr_c (l:List Int)(K:Nat->Prop)(h:AH)(b:Nat)(hk:¬K b)(hK:∀o,KOk K (h.set b o))(E:TypeId)(t:Tag)(vars:List Nm)(hV:vars.length+2<=V)(hV2:V<=1000)(hW:∀w,w∈vars->w.length<=10)(a:Nat)(fr:AFr)
  (f0:fr 0=.ptr b 0)(f1:fr 1=.lst E (strC vars) t)(B C d L Z:Nat)(hL:10*B<=L)(hZ:a+9*C<=Z)(hB:100<=B)(hB2:B<=1000000000)(hC:1<=C)(hA:a+9*C<=1000000000)(hwd:IntKind.i64.wrap (((d+1:Nat):Int)-1)=(d:Int))(f2:fr 2=.int .i64 ((d+1:Nat):Int))
  (ih:∀(E:TypeId)(t:Tag)(vars:List Nm)(a:Nat),a+C<=1000000000->vars.length<=V->(∀w,w∈vars->w.length<=10)->MK l 21 [.lst E (strC vars) t,.int .i64 (d:Nat)] a fun v a2=>∃s,v=.str s/\s.length<=B/\a2<=a+C)(f7:fr 7=.int .i64 18) :
  wpC T K tl21_0 fr (h.set b (seqO l a)) (RetQ K [.tmp 6] fun v h'=>∃a2,(∃s,v=.str s/\s.length<=L/\a2<=Z)/\h'=h.set b (seqO l a2)):=by
 simp only[u_C tl21_0.eq_1,rn,pevA,seval,f0,f1,f2,f7,hwd]
 refine (texts_ok E vars t (by unfold most;omega) K _).mono ?_
 rintro _ _ ⟨tg1,t1,rfl,hT1,rfl⟩
 simp only[rn,pevA,seval,f0,f1,f2,f7,hwd]
 refine WO.append (i:=0) hT1 rfl rfl rfl trivial (by decide) (by simp) rfl (.inr rfl) (fun _=>?_) ?_ fun tg2 t2 hT2=>?_
 ·simp[capOk,strC_len];omega
 ·simp[big_eq,strC_len];omega
 have hrow:strC vars++[[.str [104]],[.str [116]]]=strC (vars++[[104],[116]]):=by simp[strC]
 rw[hrow]
 simp only[rn,pevA,seval,f0,f1,f2,f7,hwd]
 have hX:∀w,w∈vars++[[104],[116]]->w.length<=10:=by intro w hw;rw[List.mem_append] at hw;rcases hw with hw|hw;exact hW w hw;simp only[List.mem_cons,List.not_mem_nil,or_false] at hw;rcases hw with hw|hw<;>(subst hw;decide)
 refine (ih E t (vars) (a) (by omega) (by omega) hW).use (by simp only[tk_objs,AH.set_same]) hk ?_
 rintro _ a1 ⟨s1,rfl,ls1,ha1⟩
 simp only[rn,pevA,seval,f0,f1,f2,f7,hwd]
 refine onS_if (by (try simp);omega) ?_
 simp only[rn,pevA,seval,f0,f1,f2,f7,hwd]
 refine onS_if (by (try simp);omega) ?_
 simp only[rn,pevA,seval,f0,f1,f2,f7,hwd]
 refine (ih E t (vars) (a1) (by omega) (by omega) hW).use (by simp only[tk_objs,AH.set_same]) hk ?_
 rintro _ a2 ⟨s2,rfl,ls2,ha2⟩
 simp only[rn,pevA,seval,f0,f1,f2,f7,hwd]
 refine onS_if (by (try simp);omega) ?_
 simp only[rn,pevA,seval,f0,f1,f2,f7,hwd]
 refine onS_if (by (try simp);omega) ?_
 simp only[rn,pevA,seval,f0,f1,f2,f7,hwd]
 refine (ih 9 tg2 (vars++[[104],[116]]) (a2) (by omega) (by simp;omega) hX).use (by simp only[tk_objs,AH.set_same]) hk ?_
 rintro _ a3 ⟨s3,rfl,ls3,ha3⟩
 simp only[rn,pevA,seval,f0,f1,f2,f7,hwd]
 refine onS_if (by (try simp);omega) ?_
 simp only[rn,pevA,seval,f0,f1,f2,f7,hwd]
 refine onS_if (by (try simp);omega) ?_
 simp only[rn,pevA,seval,f0,f1,f2,f7,hwd]
 exact⟨_,h.set b (seqO l (a3)),.weak (.refl _) (.drop (le_tk (AH.le_refl _) hT2.le) (.refl _ _)),hK _,a3,⟨_,rfl,by simp;omega,by omega⟩,rfl⟩
set_option maxRecDepth 4000 in
theorem expr_d (l:List Int)(K:Nat->Prop)(h:AH)(b:Nat)(hk:¬K b)(hK:∀o,KOk K (h.set b o))(E:TypeId)(t:Tag)(vars:List Nm)(hV:vars.length+2<=V)(hV2:V<=1000)(hW:∀w,w∈vars->w.length<=10)(a:Nat)(fr:AFr)
  (f0:fr 0=.ptr b 0)(f1:fr 1=.lst E (strC vars) t)(B C d L Z:Nat)(hL:10*B<=L)(hZ:a+9*C<=Z)(hB:100<=B)(hB2:B<=1000000000)(hC:1<=C)(hA:a+9*C<=1000000000)(hwd:IntKind.i64.wrap (((d+1:Nat):Int)-1)=(d:Int))(f2:fr 2=.int .i64 ((d+1:Nat):Int))
  (ih:∀(E:TypeId)(t:Tag)(vars:List Nm)(a:Nat),a+C<=1000000000->vars.length<=V->(∀w,w∈vars->w.length<=10)->MK l 21 [.lst E (strC vars) t,.int .i64 (d:Nat)] a fun v a2=>∃s,v=.str s/\s.length<=B/\a2<=a+C)(f7:fr 7=.int .i64 19) :
  wpC T K tl21_0 fr (h.set b (seqO l a)) (RetQ K [.tmp 6] fun v h'=>∃a2,(∃s,v=.str s/\s.length<=L/\a2<=Z)/\h'=h.set b (seqO l a2)):=by
 simp only[u_C tl21_0.eq_1,rn,pevA,seval,f0,f1,f2,f7,hwd]
 refine (ih E t (vars) (a) (by omega) (by omega) hW).use (by simp only[tk_objs,AH.set_same]) hk ?_
 rintro _ a1 ⟨s1,rfl,ls1,ha1⟩
 simp only[rn,pevA,seval,f0,f1,f2,f7,hwd]
 refine onS_if (by (try simp);omega) ?_
 simp only[rn,pevA,seval,f0,f1,f2,f7,hwd]
 refine onS_if (by (try simp);omega) ?_
 simp only[rn,pevA,seval,f0,f1,f2,f7,hwd]
 refine (ih E t (vars) (a1) (by omega) (by omega) hW).use (by simp only[tk_objs,AH.set_same]) hk ?_
 rintro _ a2 ⟨s2,rfl,ls2,ha2⟩
 simp only[rn,pevA,seval,f0,f1,f2,f7,hwd]
 refine onS_if (by (try simp);omega) ?_
 simp only[rn,pevA,seval,f0,f1,f2,f7,hwd]
 refine onS_if (by (try simp);omega) ?_
 simp only[rn,pevA,seval,f0,f1,f2,f7,hwd]
 refine (ih E t (vars) (a2) (by omega) (by omega) hW).use (by simp only[tk_objs,AH.set_same]) hk ?_
 rintro _ a3 ⟨s3,rfl,ls3,ha3⟩
 simp only[rn,pevA,seval,f0,f1,f2,f7,hwd]
 refine onS_if (by (try simp);omega) ?_
 simp only[rn,pevA,seval,f0,f1,f2,f7,hwd]
 refine onS_if (by (try simp);omega) ?_
 simp only[rn,pevA,seval,f0,f1,f2,f7,hwd]
 exact⟨_,h.set b (seqO l (a3)),.weak (.refl _) (.drop (AH.le_refl _) (.refl _ _)),hK _,a3,⟨_,rfl,by simp;omega,by omega⟩,rfl⟩
end
end Go.Proofs.Ytkopkbhpompmnaa.p
namespace Go.Proofs.Ytkopkbhpompmnaa.p
open Go.Proofs Go Go.Cn code
set_option linter.unusedSimpArgs false
set_option linter.unusedVariables false
variable [SeqE]
def ExprM (l:List Int)(d:Nat):Prop:=
 ∀(E:TypeId)(t:Tag)(vars:List Nm)(a:Nat),a+10 ^ (d+1)<=1000000000->vars.length<=998-2*d->(∀w,w∈vars->w.length<=10)->
  MK l 21 [.lst E (strC vars) t,.int .i64 (d:Nat)] a fun v a2=>∃s,v=.str s/\s.length<=10 ^ (d+2)/\a2<=a+10 ^ (d+1)
theorem exprM_0 (l:List Int):ExprM l 0:=by
 intro E t vars a hA hV hW K h b hk
 refine ACall.retQ t21 fun hK0=>?_
 have hK:∀o,KOk K (h.set b o):=fun o=>by have:=hK0.set b o;rwa [AH.set_set] at this
 simp only[u_C c21.eq_1,runs,e_onS,AH.set_same,AH.set_set,List.map_cons,List.map_nil,List.length_cons,List.length_nil,List.drop_zero,List.drop_succ_cons,List.take_succ_cons,List.take_zero,List.take_nil,List.nil_append,List.cons_append,List.append_nil,List.all_cons,List.all_nil,Nat.zero_add,Nat.add_zero,ite_true,ite_false,if_true,if_false,ne_eq,not_false_eq_true,not_true_eq_false,and_true,true_and,and_self,Bool.and_true,Bool.true_and,Bool.not_true,Bool.not_false,List.getElem?_cons_zero,List.getElem?_cons_succ,Option.isSome_some,beq_self_eq_true,implies_true,forall_const,Nat.le_refl,Option.some.injEq,Option.getD_some,Option.getD_none,List.getElem?_nil,e_Lpn,e_Lpe,e_Lpr,decide_true,decide_false,Int.natCast_nonneg,Int.toNat_natCast,Int.toNat_zero,lt_irr,imp_self,false_implies,big_eq,pevA,takeA,putA,fillA,chunkA,zerosL,binA,binI,binS,isNilA,lookA,bndA,depA,depV,depM,depS,cellAt,elemAt,initA,Nat.reduceAdd,Nat.reduceLeDiff,Nat.reduceEqDiff,reduceIte,reduceCtorEq,Nat.reduceLT,Nat.reduceMul,Nat.reduceSub,Int.reduceAdd,Int.reduceSub,Int.reduceMul,Int.reduceLT,Int.reduceLE,Int.reduceEq,Int.reduceNe,Int.reduceNeg,Int.reduceToNat]
 refine (next_mk l a (by omega) 20 (by decide) (by decide)).use (AH.set_same _ _ _) hk ?_
 rintro _ _ ⟨⟨k,hk20,rfl⟩,rfl⟩
 have h8:∃n:Nat,n<8/\((k:Int).tmod 8)=n:=⟨k % 8,Nat.mod_lt _ (by decide),by rw[Int.ofNat_tmod];rfl⟩
 obtain⟨n,hn,e⟩:=h8
 simp only[runs,e_onS,AH.set_same,AH.set_set,List.map_cons,List.map_nil,List.length_cons,List.length_nil,List.drop_zero,List.drop_succ_cons,List.take_succ_cons,List.take_zero,List.take_nil,List.nil_append,List.cons_append,List.append_nil,List.all_cons,List.all_nil,Nat.zero_add,Nat.add_zero,ite_true,ite_false,if_true,if_false,ne_eq,not_false_eq_true,not_true_eq_false,and_true,true_and,and_self,Bool.and_true,Bool.true_and,Bool.not_true,Bool.not_false,List.getElem?_cons_zero,List.getElem?_cons_succ,Option.isSome_some,beq_self_eq_true,implies_true,forall_const,Nat.le_refl,Option.some.injEq,Option.getD_some,Option.getD_none,List.getElem?_nil,e_Lpn,e_Lpe,e_Lpr,decide_true,decide_false,Int.natCast_nonneg,Int.toNat_natCast,Int.toNat_zero,lt_irr,imp_self,false_implies,big_eq,pevA,takeA,putA,fillA,chunkA,zerosL,binA,binI,binS,isNilA,lookA,bndA,depA,depV,depM,depS,cellAt,elemAt,initA,Nat.reduceAdd,Nat.reduceLeDiff,Nat.reduceEqDiff,reduceIte,reduceCtorEq,Nat.reduceLT,Nat.reduceMul,Nat.reduceSub,Int.reduceAdd,Int.reduceSub,Int.reduceMul,Int.reduceLT,Int.reduceLE,Int.reduceEq,Int.reduceNe,Int.reduceNeg,Int.reduceToNat,(by decide:decide (((0:Nat):Int)<1)=true),(by decide:((8:Int)=0)=False),if_false,e]
 have hV2:vars.length+2<=1000:=by omega
 have c:n=0\/n=1\/n=2\/n=3\/n=4\/n=5\/n=6\/n=7:=by omega
 rcases c with rfl|rfl|rfl|rfl|rfl|rfl|rfl|rfl
 ·exact expr_b0 l K h b hk hK E t vars hV2 (by decide) hW (a+1) _ (by rfl) (by rfl) (10 ^ 2) (a+10 ^ 1) (by decide) (by omega) (by omega) 0 (by decide) (by rfl)
 ·exact expr_b0 l K h b hk hK E t vars hV2 (by decide) hW (a+1) _ (by rfl) (by rfl) (10 ^ 2) (a+10 ^ 1) (by decide) (by omega) (by omega) 1 (by decide) (by rfl)
 ·exact expr_b0 l K h b hk hK E t vars hV2 (by decide) hW (a+1) _ (by rfl) (by rfl) (10 ^ 2) (a+10 ^ 1) (by decide) (by omega) (by omega) 2 (by decide) (by rfl)
 ·exact expr_b0 l K h b hk hK E t vars hV2 (by decide) hW (a+1) _ (by rfl) (by rfl) (10 ^ 2) (a+10 ^ 1) (by decide) (by omega) (by omega) 3 (by decide) (by rfl)
 ·exact expr_b4 l K h b hk hK E t vars hV2 (by decide) hW (a+1) _ (by rfl) (by rfl) (10 ^ 2) (a+10 ^ 1) (by decide) (by omega) (by omega) (by rfl)
 ·exact expr_b5 l K h b hk hK E t vars hV2 (by decide) hW (a+1) _ (by rfl) (by rfl) (10 ^ 2) (a+10 ^ 1) (by decide) (by omega) (by omega) (by rfl)
 ·exact expr_b6 l K h b hk hK E t vars hV2 (by decide) hW (a+1) _ (by rfl) (by rfl) (10 ^ 2) (a+10 ^ 1) (by decide) (by omega) (by omega) (by rfl)
 ·exact expr_b7 l K h b hk hK E t vars hV2 (by decide) hW (a+1) _ (by rfl) (by rfl) (10 ^ 2) (a+10 ^ 1) (by decide) (by omega) (by omega) (by rfl)
theorem exprM_succ (l:List Int)(d:Nat)(hd:d<=3)(ih:ExprM l d):ExprM l (d+1):=by
 intro E t vars a hA hV hW K h b hk
 refine ACall.retQ t21 fun hK0=>?_
 have hK:∀o,KOk K (h.set b o):=fun o=>by have:=hK0.set b o;rwa [AH.set_set] at this
 have hwd:IntKind.i64.wrap (((d+1:Nat):Int)-1)=(d:Int):=by rw[wrap64 ⟨by omega,by omega⟩];omega
 have c1:decide (((d+1:Nat):Int)<1)=false:=decide_eq_false (by omega)
 have hB2:10 ^ (d+2)<=1000000000:=by
  have:10 ^ (d+2)<=10 ^ 5:=Nat.pow_le_pow_right (by decide) (by omega)
  omega
 have hB:100<=10 ^ (d+2):=by
  have:10 ^ 2<=10 ^ (d+2):=Nat.pow_le_pow_right (by decide) (by omega)
  omega
 have hC:1<=10 ^ (d+1):=Nat.one_le_pow _ _ (by decide)
 have e2:10 ^ (d+1+1)=10*10 ^ (d+1):=by rw[Nat.pow_succ];omega
 have e3:10 ^ (d+1+2)=10*10 ^ (d+2):=by rw[show d+1+2=(d+2)+1 from rfl,Nat.pow_succ];omega
 rw[e2] at hA
 unfold ExprM at ih
 rw[e2,e3]
 generalize 10 ^ (d+1)=C at hA hC ih ⊢
 generalize 10 ^ (d+2)=B at hB hB2 ih ⊢
 simp only[u_C c21.eq_1,runs,e_onS,AH.set_same,AH.set_set,List.map_cons,List.map_nil,List.length_cons,List.length_nil,List.drop_zero,List.drop_succ_cons,List.take_succ_cons,List.take_zero,List.take_nil,List.nil_append,List.cons_append,List.append_nil,List.all_cons,List.all_nil,Nat.zero_add,Nat.add_zero,ite_true,ite_false,if_true,if_false,ne_eq,not_false_eq_true,not_true_eq_false,and_true,true_and,and_self,Bool.and_true,Bool.true_and,Bool.not_true,Bool.not_false,List.getElem?_cons_zero,List.getElem?_cons_succ,Option.isSome_some,beq_self_eq_true,implies_true,forall_const,Nat.le_refl,Option.some.injEq,Option.getD_some,Option.getD_none,List.getElem?_nil,e_Lpn,e_Lpe,e_Lpr,decide_true,decide_false,Int.natCast_nonneg,Int.toNat_natCast,Int.toNat_zero,lt_irr,imp_self,false_implies,big_eq,pevA,takeA,putA,fillA,chunkA,zerosL,binA,binI,binS,isNilA,lookA,bndA,depA,depV,depM,depS,cellAt,elemAt,initA,Nat.reduceAdd,Nat.reduceLeDiff,Nat.reduceEqDiff,reduceIte,reduceCtorEq,Nat.reduceLT,Nat.reduceMul,Nat.reduceSub,Int.reduceAdd,Int.reduceSub,Int.reduceMul,Int.reduceLT,Int.reduceLE,Int.reduceEq,Int.reduceNe,Int.reduceNeg,Int.reduceToNat]
 refine (next_mk l a (by omega) 20 (by decide) (by decide)).use (AH.set_same _ _ _) hk ?_
 rintro _ _ ⟨⟨n,hn,rfl⟩,rfl⟩
 simp only[runs,e_onS,AH.set_same,AH.set_set,List.map_cons,List.map_nil,List.length_cons,List.length_nil,List.drop_zero,List.drop_succ_cons,List.take_succ_cons,List.take_zero,List.take_nil,List.nil_append,List.cons_append,List.append_nil,List.all_cons,List.all_nil,Nat.zero_add,Nat.add_zero,ite_true,ite_false,if_true,if_false,ne_eq,not_false_eq_true,not_true_eq_false,and_true,true_and,and_self,Bool.and_true,Bool.true_and,Bool.not_true,Bool.not_false,List.getElem?_cons_zero,List.getElem?_cons_succ,Option.isSome_some,beq_self_eq_true,implies_true,forall_const,Nat.le_refl,Option.some.injEq,Option.getD_some,Option.getD_none,List.getElem?_nil,e_Lpn,e_Lpe,e_Lpr,decide_true,decide_false,Int.natCast_nonneg,Int.toNat_natCast,Int.toNat_zero,lt_irr,imp_self,false_implies,big_eq,pevA,takeA,putA,fillA,chunkA,zerosL,binA,binI,binS,isNilA,lookA,bndA,depA,depV,depM,depS,cellAt,elemAt,initA,Nat.reduceAdd,Nat.reduceLeDiff,Nat.reduceEqDiff,reduceIte,reduceCtorEq,Nat.reduceLT,Nat.reduceMul,Nat.reduceSub,Int.reduceAdd,Int.reduceSub,Int.reduceMul,Int.reduceLT,Int.reduceLE,Int.reduceEq,Int.reduceNe,Int.reduceNeg,Int.reduceToNat,c1]
 have hV2:vars.length+2<=998-2*d:=by omega
 have hVb:998-2*d<=1000:=by omega
 have hA2:a+1+9*C<=1000000000:=by omega
 have hZ:a+1+9*C<=a+10*C:=by omega
 have c:n=0\/n=1\/n=2\/n=3\/n=4\/n=5\/n=6\/n=7\/n=8\/n=9\/n=10\/n=11\/n=12\/n=13\/n=14\/n=15\/n=16\/n=17\/n=18\/n=19:=by omega
 rcases c with rfl|rfl|rfl|rfl|rfl|rfl|rfl|rfl|rfl|rfl|rfl|rfl|rfl|rfl|rfl|rfl|rfl|rfl|rfl|rfl
 ·exact expr_b0 l K h b hk hK E t vars hV2 hVb hW (a+1) _ (by rfl) (by rfl) (10*B) (a+10*C) (by omega) (by omega) (by omega) 0 (by decide) (by rfl)
 ·exact expr_b0 l K h b hk hK E t vars hV2 hVb hW (a+1) _ (by rfl) (by rfl) (10*B) (a+10*C) (by omega) (by omega) (by omega) 1 (by decide) (by rfl)
 ·exact expr_b0 l K h b hk hK E t vars hV2 hVb hW (a+1) _ (by rfl) (by rfl) (10*B) (a+10*C) (by omega) (by omega) (by omega) 2 (by decide) (by rfl)
 ·exact expr_b0 l K h b hk hK E t vars hV2 hVb hW (a+1) _ (by rfl) (by rfl) (10*B) (a+10*C) (by omega) (by omega) (by omega) 3 (by decide) (by rfl)
 ·exact expr_b4 l K h b hk hK E t vars hV2 hVb hW (a+1) _ (by rfl) (by rfl) (10*B) (a+10*C) (by omega) (by omega) (by omega) (by rfl)
 ·exact expr_b5 l K h b hk hK E t vars hV2 hVb hW (a+1) _ (by rfl) (by rfl) (10*B) (a+10*C) (by omega) (by omega) (by omega) (by rfl)
 ·exact expr_b6 l K h b hk hK E t vars hV2 hVb hW (a+1) _ (by rfl) (by rfl) (10*B) (a+10*C) (by omega) (by omega) (by omega) (by rfl)
 ·exact expr_b7 l K h b hk hK E t vars hV2 hVb hW (a+1) _ (by rfl) (by rfl) (10*B) (a+10*C) (by omega) (by omega) (by omega) (by rfl)
 ·exact expr_a l K h b hk hK E t vars hV2 hVb hW (a+1) _ (by rfl) (by rfl) B C d (10*B) (a+10*C) (Nat.le_refl _) hZ hB hB2 hC hA2 hwd (by rfl) ih 8 (by decide) (by rfl)
 ·exact expr_a l K h b hk hK E t vars hV2 hVb hW (a+1) _ (by rfl) (by rfl) B C d (10*B) (a+10*C) (Nat.le_refl _) hZ hB hB2 hC hA2 hwd (by rfl) ih 9 (by decide) (by rfl)
 ·exact expr_a2 l K h b hk hK E t vars hV2 hVb hW (a+1) _ (by rfl) (by rfl) B C d (10*B) (a+10*C) (Nat.le_refl _) hZ hB hB2 hC hA2 hwd (by rfl) ih 10 (by decide) (by rfl)
 ·exact expr_a2 l K h b hk hK E t vars hV2 hVb hW (a+1) _ (by rfl) (by rfl) B C d (10*B) (a+10*C) (Nat.le_refl _) hZ hB hB2 hC hA2 hwd (by rfl) ih 11 (by decide) (by rfl)
 ·exact expr_l l K h b hk hK E t vars hV2 hVb hW (a+1) _ (by rfl) (by rfl) B C d (10*B) (a+10*C) (Nat.le_refl _) hZ hB hB2 hC hA2 hwd (by rfl) ih 12 (by decide) (by rfl)
 ·exact expr_l l K h b hk hK E t vars hV2 hVb hW (a+1) _ (by rfl) (by rfl) B C d (10*B) (a+10*C) (Nat.le_refl _) hZ hB hB2 hC hA2 hwd (by rfl) ih 13 (by decide) (by rfl)
 ·exact expr_o l K h b hk hK E t vars hV2 hVb hW (a+1) _ (by rfl) (by rfl) B C d (10*B) (a+10*C) (Nat.le_refl _) hZ hB hB2 hC hA2 hwd (by rfl) ih 14 (by decide) (by rfl)
 ·exact expr_o l K h b hk hK E t vars hV2 hVb hW (a+1) _ (by rfl) (by rfl) B C d (10*B) (a+10*C) (Nat.le_refl _) hZ hB hB2 hC hA2 hwd (by rfl) ih 15 (by decide) (by rfl)
 ·exact expr_i l K h b hk hK E t vars hV2 hVb hW (a+1) _ (by rfl) (by rfl) B C d (10*B) (a+10*C) (Nat.le_refl _) hZ hB hB2 hC hA2 hwd (by rfl) ih (by rfl)
 ·exact expr_t l K h b hk hK E t vars hV2 hVb hW (a+1) _ (by rfl) (by rfl) B C d (10*B) (a+10*C) (Nat.le_refl _) hZ hB hB2 hC hA2 hwd (by rfl) ih (by rfl)
 ·exact expr_c l K h b hk hK E t vars hV2 hVb hW (a+1) _ (by rfl) (by rfl) B C d (10*B) (a+10*C) (Nat.le_refl _) hZ hB hB2 hC hA2 hwd (by rfl) ih (by rfl)
 ·exact expr_d l K h b hk hK E t vars hV2 hVb hW (a+1) _ (by rfl) (by rfl) B C d (10*B) (a+10*C) (Nat.le_refl _) hZ hB hB2 hC hA2 hwd (by rfl) ih (by rfl)
theorem exprM_3 (l:List Int):ExprM l 3:=exprM_succ l 2 (by decide) (exprM_succ l 1 (by decide) (exprM_succ l 0 (by decide) (exprM_0 l)))
end Go.Proofs.Ytkopkbhpompmnaa.p
namespace Go.Proofs.Ytkopkbhpompmnaa.p
open Go.Proofs Go Go.Cn code
set_option linter.unusedSimpArgs false
set_option linter.unusedVariables false
theorem four_get (r:Nat)(hr:r<4):∃x:Nm,([[AV.str [112]],[AV.str [113]],[AV.str [114]],[AV.str [107]]]:List (List AV))[r]?=some [.str x]/\x.length<=10:=by
 have c:r=0\/r=1\/r=2\/r=3:=by omega
 rcases c with rfl|rfl|rfl|rfl
 ·exact⟨_,rfl,by decide⟩
 ·exact⟨_,rfl,by decide⟩
 ·exact⟨_,rfl,by decide⟩
 ·exact⟨_,rfl,by decide⟩
variable [SeqE]
set_option maxRecDepth 4000 in
theorem defs_loop (l:List Int)(K:Nat->Prop)(h:AH)(b:Nat)(hk:¬K b)(t0:Nat->Option Tok)(R:CExit->AQ)
  (hR:∀(fr:AFr)(E:TypeId)(tag:Tag)(t':Nat->Option Tok)(vars:List Nm)(s:Nm)(a:Nat),fr 0=.ptr b 0->fr 3=.str s->fr 4=.lst E (strC vars) tag->(∀c k,t0 c=some k->t' c=some k)->vars.length<=20->(∀w,w∈vars->w.length<=10)->s.length<=1000000->a<=1000000->
   R (.exit 0) fr ((h.set b (seqO l a)).tk t'))
  (fr:AFr)(E:TypeId)(tag:Tag)(t1:Nat->Option Tok)(vars:List Nm)(s:Nm)(a:Nat)(k:Nat)(hk4:k<4)(f0:fr 0=.ptr b 0)(f3:fr 3=.str s)(f4:fr 4=.lst E (strC vars) tag)(f5:fr 5=.int .i64 (k:Nat))(hT:Toks t0 t1 [(tag,9,1,0)])(hV:vars.length<=10)(hW:∀w,w∈vars->w.length<=10)(hs:s.length<=10000)(ha:a<=100) :
  W T K (.loop l7_0.toC) fr ((h.set b (seqO l a)).tk t1) R:=by
 refine aloop (α:=Nat×List Nm×Nm×Nat) (fun x fr h1=>fr 0=.ptr b 0/\fr 3=.str x.2.2.1/\fr 5=.int .i64 ((x.1:Int)-1)/\x.1<=4/\x.2.1.length+x.1<=14/\(∀w,w∈x.2.1->w.length<=10)/\x.2.2.1.length+x.1*200000<=900000/\x.2.2.2+x.1*20000<=90000/\
  ∃E tag t',fr 4=.lst E (strC x.2.1) tag/\Toks t0 t' [(tag,9,1,0)]/\h1=(h.set b (seqO l x.2.2.2)).tk t') (fun x=>x.1) (k+1,vars,s,a)
  ⟨f0,f3,by rw[f5];congr 1;show (k:Int)=((k+1:Nat):Int)-1;omega,hk4,by dsimp only;omega,hW,by dsimp only;omega,by dsimp only;omega,E,tag,t1,f4,hT,rfl⟩ ?_
 clear f0 f3 f4 f5 hT hV hW hs ha
 rintro⟨r,vars,s,a⟩ fr h1 ⟨f0,f3,f5,hr4,hV,hW,hs,ha,E,tag,t',f4,hT,rfl⟩
 simp only at f3 f5 hr4 hV hW hs ha f4
 cases r with
 |zero=>
  have c1:decide ((0:Int)<=((0:Nat):Int)-1)=false:=by decide
  simp only[u_C l7_0.eq_1,rn,pevA,seval,f0,f3,f4,f5,c1]
  exact hR _ E tag t' vars s a f0 f3 f4 hT.le (by omega) hW (by omega) (by omega)
 |succ r=>
  have c1:decide ((0:Int)<=(r:Int))=true:=decide_eq_true (by omega)
  have e5:fr 5=.int .i64 (r:Nat):=by rw[f5];congr 1;omega
  have hw1:IntKind.i64.wrap ((r:Int)-1)=(r:Int)-1:=by rw[wrap64 ⟨by omega,by omega⟩]
  obtain⟨x,hx,lx⟩:=four_get r (by omega)
  clear f5
  simp only[u_C l7_0.eq_1,rn,pevA,seval,f0,f3,f4,e5,c1,hx]
  refine (next_mk l a (by omega) 3 (by decide) (by decide)).use (by simp only[tk_objs,AH.set_same]) hk ?_
  rintro _ _ ⟨⟨n,hn,rfl⟩,rfl⟩
  cases c2:decide ((n:Int)=0) with
  |true=>
   simp only[rn,pevA,seval,f0,f3,f4,e5,c2]
   refine onS_if (by (try simp);omega) ?_
   simp only[rn,pevA,seval,f0,f3,f4,e5]
   refine onS_if (by (try simp);omega) ?_
   simp only[rn,pevA,seval,f0,f3,f4,e5]
   refine (pick_mk l (a+1) (by omega) 9 .no [[97,32,45,62,32,97],[73,110,116],[69,113,32,97,32,61,62,32,97,32,45,62,32,97,32,45,62,32,66,111,111,108],[73,110,116,32,45,62,32,73,110,116],[40,83,104,111,119,32,97,44,32,78,117,109,32,97,41,32,61,62,32,97,32,45,62,32,76,105,115,116,32,67,104,97,114],[98,32,45,62,32,99],[78,117,109,32,97,32,61,62,32,97],[84,32,73,110,116],[76,105,115,116,32,73,110,116]] (by decide) (by decide)).use (by simp only[tk_objs,AH.set_same]) hk ?_
   rintro _ _ ⟨⟨w,hw,rfl⟩,rfl⟩
   have lw:w.length<=40:=(by decide:∀w∈([[97,32,45,62,32,97],[73,110,116],[69,113,32,97,32,61,62,32,97,32,45,62,32,97,32,45,62,32,66,111,111,108],[73,110,116,32,45,62,32,73,110,116],[40,83,104,111,119,32,97,44,32,78,117,109,32,97,41,32,61,62,32,97,32,45,62,32,76,105,115,116,32,67,104,97,114],[98,32,45,62,32,99],[78,117,109,32,97,32,61,62,32,97],[84,32,73,110,116],[76,105,115,116,32,73,110,116]]:List Nm),w.length<=40) w hw
   clear hw
   simp only[rn,pevA,seval,f0,f3,f4,e5]
   refine onS_if (by (try simp);omega) ?_
   simp only[rn,pevA,seval,f0,f3,f4,e5]
   refine onS_if (by (try simp);omega) ?_
   simp only[rn,pevA,seval,f0,f3,f4,e5]
   refine WO.append (i:=0) hT rfl rfl rfl trivial (by decide) (by simp) rfl (.inr rfl) (fun _=>?_) ?_ fun tg2 t2 hT2=>?_
   ·simp[capOk,strC_len];omega
   ·simp[big_eq,strC_len];omega
   rw[strC_app]
   simp only[rn,pevA,seval,f0,f3,f4,e5]
   refine onS_if (by (try simp);omega) ?_
   simp only[rn,pevA,seval,f0,f3,f4,e5]
   refine onS_if (by (try simp);omega) ?_
   simp only[rn,pevA,seval,f0,f3,f4,e5]
   have hX:∀w,w∈vars++[x]->w.length<=10:=by
    intro w hw
    rw[List.mem_append] at hw
    rcases hw with hw|hw
    ·exact hW w hw
    ·simp only[List.mem_cons,List.not_mem_nil,or_false] at hw;subst hw;exact lx
   refine (exprM_3 l 9 tg2 (vars++[x]) (a+1+1) (by omega) (by simp;omega) hX).use (by simp only[tk_objs,AH.set_same]) hk ?_
   rintro _ a2 ⟨s2,rfl,ls2,ha2⟩
   simp only[rn,pevA,seval,f0,f3,f4,e5]
   refine onS_if (by (try simp);omega) ?_
   simp only[rn,pevA,seval,f0,f3,f4,e5]
   refine onS_if (by (try simp);omega) ?_
   simp only[rn,pevA,seval,f0,f3,f4,e5,hw1]
   exact⟨(r,vars++[x],_,a2),Nat.lt_succ_self r,f0,rfl,rfl,by show r<=4;omega,by show (vars++[x]).length+r<=14;simp;omega,hX,by simp;omega,by show a2+r*20000<=90000;omega,9,tg2,t2,rfl,hT2,rfl⟩
  |false=>
   simp only[rn,pevA,seval,f0,f3,f4,e5,c2]
   refine WO.append (i:=0) hT rfl rfl rfl trivial (by decide) (by simp) rfl (.inr rfl) (fun _=>?_) ?_ fun tg2 t2 hT2=>?_
   ·simp[capOk,strC_len];omega
   ·simp[big_eq,strC_len];omega
   rw[strC_app]
   simp only[rn,pevA,seval,f0,f3,f4,e5]
   refine onS_if (by (try simp);omega) ?_
   simp only[rn,pevA,seval,f0,f3,f4,e5]
   refine onS_if (by (try simp);omega) ?_
   simp only[rn,pevA,seval,f0,f3,f4,e5]
   have hX:∀w,w∈vars++[x]->w.length<=10:=by
    intro w hw
    rw[List.mem_append] at hw
    rcases hw with hw|hw
    ·exact hW w hw
    ·simp only[List.mem_cons,List.not_mem_nil,or_false] at hw;subst hw;exact lx
   refine (exprM_3 l 9 tg2 (vars++[x]) (a+1) (by omega) (by simp;omega) hX).use (by simp only[tk_objs,AH.set_same]) hk ?_
   rintro _ a2 ⟨s2,rfl,ls2,ha2⟩
   simp only[rn,pevA,seval,f0,f3,f4,e5]
   refine onS_if (by (try simp);omega) ?_
   simp only[rn,pevA,seval,f0,f3,f4,e5]
   refine onS_if (by (try simp);omega) ?_
   simp only[rn,pevA,seval,f0,f3,f4,e5,hw1]
   exact⟨(r,vars++[x],_,a2),Nat.lt_succ_self r,f0,rfl,rfl,by show r<=4;omega,by show (vars++[x]).length+r<=14;simp;omega,hX,by simp;omega,by show a2+r*20000<=90000;omega,9,tg2,t2,rfl,hT2,rfl⟩
end Go.Proofs.Ytkopkbhpompmnaa.p
namespace Go.Proofs.Ytkopkbhpompmnaa.p
open Go.Proofs Go Go.Cn code
set_option linter.unusedSimpArgs false
set_option linter.unusedVariables false
variable [SeqE]
set_option maxRecDepth 4000 in
theorem make_tail (l:List Int)(K:Nat->Prop)(h:AH)(b:Nat)(hk:¬K b)(hK:∀o,KOk K (h.set b o))(fr:AFr)(E:TypeId)(tag:Tag)(t1:Nat->Option Tok)(vars:List Nm)(s:Nm)(a:Nat)(f0:fr 0=.ptr b 0)(f3:fr 3=.str s)(f4:fr 4=.lst E (strC vars) tag)(hT:Toks h.toks t1 [(tag,9,1,0)])(hV:vars.length<=10)(hW:∀w,w∈vars->w.length<=10)(hs:s.length<=10000)(ha:a<=90) :
  wpC T K tl7_0 fr ((h.set b (seqO l a)).tk t1) (RetQ K [.tmp 2] fun v h'=>∃s,v=.str s/\s.length<=2000000/\∃a2,h'=h.set b (seqO l a2)):=by
 simp only[u_C tl7_0.eq_1,rn,pevA,seval,f0,f3,f4]
 refine (next_mk l a (by omega) 4 (by decide) (by decide)).use (by simp only[tk_objs,AH.set_same]) hk ?_
 rintro _ _ ⟨⟨k,hk4,rfl⟩,rfl⟩
 simp only[rn,pevA,seval,f0,f3,f4]
 refine defs_loop l K h b hk h.toks _ (fun fr E tag t' vars s a f0 f3 f4 ht hV hW hs ha=>?hR) _ E tag t1 vars s (a+1) k hk4 ?a0 ?a3 ?a4 ?a5 hT hV hW hs (by omega)
 case a0=>exact f0
 case a3=>exact f3
 case a4=>exact f4
 case a5=>rfl
 simp only[rn,pevA,seval,f0,f3,f4]
 refine (next_mk l a (by omega) 2 (by decide) (by decide)).use (by simp only[tk_objs,AH.set_same]) hk ?_
 rintro _ _ ⟨⟨n,hn,rfl⟩,rfl⟩
 cases c2:decide ((n:Int)=0) with
 |true=>
  simp only[rn,pevA,seval,f0,f3,f4,c2]
  refine onS_if (by (try simp);omega) ?_
  simp only[rn,pevA,seval,f0,f3,f4]
  refine (exprM_3 l E tag vars (a+1) (by omega) (by omega) hW).use (by simp only[tk_objs,AH.set_same]) hk ?_
  rintro _ a2 ⟨s2,rfl,ls2,ha2⟩
  simp only[rn,pevA,seval,f0,f3,f4]
  refine onS_if (by (try simp);omega) ?_
  simp only[rn,pevA,seval,f0,f3,f4]
  refine onS_if (by (try simp);omega) ?_
  simp only[rn,pevA,seval,f0,f3,f4]
  exact⟨_,h.set b (seqO l a2),.weak (.refl _) (.drop (le_tk (AH.le_refl _) ht) (.refl _ _)),hK _,_,rfl,by simp;omega,a2,rfl⟩
 |false=>
  simp only[rn,pevA,seval,f0,f3,f4,c2]
  exact⟨_,h.set b (seqO l (a+1)),.weak (.refl _) (.drop (le_tk (AH.le_refl _) ht) (.refl _ _)),hK _,_,rfl,by omega,a+1,rfl⟩
set_option maxRecDepth 4000 in
theorem make_ok (l:List Int)(K:Nat->Prop)(h:AH)(b:Nat)(hk:¬K b):ACall T K (.func 7) [.ptr b 0] (h.set b (seqO l 0)) fun v h'=>∃s,v=.str s/\s.length<=2000000/\∃a2,h'=h.set b (seqO l a2):=by
 refine ACall.retQ t7x fun hK0=>?_
 have hK:∀o,KOk K (h.set b o):=fun o=>by have:=hK0.set b o;rwa [AH.set_set] at this
 simp only[u_C c7x.eq_1,rn,pevA,seval]
 refine (next_mk l 0 (by omega) 3 (by decide) (by decide)).use (by simp only[tk_objs,AH.set_same]) hk ?_
 rintro _ _ ⟨⟨n,hn,rfl⟩,rfl⟩
 cases c1:decide ((0:Int)<(n:Int)) with
 |false=>
  simp only[rn,pevA,seval,c1]
  exact make_tail l K h b hk hK _ 0 .nil h.toks [] [] (0+1) (by rfl) (by rfl) (by rfl) (.one _ _ _) (by simp) (by simp) (by simp) (by omega)
 |true=>
  simp only[rn,pevA,seval,c1]
  refine (pick_mk l (0+1) (by omega) 9 .no [[],[32,100,101,114,105,118,105,110,103,32,40,69,113,41],[32,100,101,114,105,118,105,110,103,32,40,69,113,44,32,79,114,100,41],[32,100,101,114,105,118,105,110,103,32,40,69,113,44,32,79,114,100,44,32,83,104,111,119,41],[32,100,101,114,105,118,105,110,103,32,83,104,111,119]] (by decide) (by decide)).use (by simp only[tk_objs,AH.set_same]) hk ?_
  rintro _ _ ⟨⟨w1,hw1,rfl⟩,rfl⟩
  have lw1:w1.length<=40:=(by decide:∀w∈([[],[32,100,101,114,105,118,105,110,103,32,40,69,113,41],[32,100,101,114,105,118,105,110,103,32,40,69,113,44,32,79,114,100,41],[32,100,101,114,105,118,105,110,103,32,40,69,113,44,32,79,114,100,44,32,83,104,111,119,41],[32,100,101,114,105,118,105,110,103,32,83,104,111,119]]:List Nm),w.length<=40) w1 hw1
  clear hw1
  simp only[rn,pevA,seval]
  refine onS_if (by (try simp);omega) ?_
  simp only[rn,pevA,seval]
  refine onS_if (by (try simp);omega) ?_
  simp only[rn,pevA,seval]
  refine WO.append (i:=0) (.one h.toks 9 1) rfl rfl rfl trivial (by decide) (by simp) rfl (.inr rfl) (fun _=>?_) ?_ fun tg2 t2 hT2=>?_
  ·simp[capOk]
  ·simp[big_eq]
  simp only[rn,pevA,seval]
  refine (next_mk l (0+1+1) (by omega) 2 (by decide) (by decide)).use (by simp only[tk_objs,AH.set_same]) hk ?_
  rintro _ _ ⟨⟨n2,hn2,rfl⟩,rfl⟩
  cases c2:decide ((n2:Int)=0) with
  |false=>
   simp only[rn,pevA,seval,c2]
   exact make_tail l K h b hk hK _ 9 tg2 t2 [[65],[66],[67]] _ (0+1+1+1) (by rfl) (by rfl) (by rfl) hT2 (by simp) (by intro w hw;simp only[List.mem_cons,List.not_mem_nil,or_false] at hw;rcases hw with rfl|rfl|rfl<;>decide) (by simp;omega) (by omega)
  |true=>
   simp only[rn,pevA,seval,c2]
   refine (pick_mk l (0+1+1+1) (by omega) 9 .no [[99,108,97,115,115,32,83,105,122,101,32,97,32,119,104,101,114,101,32,123,32,115,105,122,101,32,58,58,32,97,32,45,62,32,73,110,116,59,32,116,119,105,99,101,32,58,58,32,97,32,45,62,32,73,110,116,59,32,116,119,105,99,101,32,61,32,92,120,32,45,62,32,115,105,122,101,32,120,32,43,32,115,105,122,101,32,120,32,125,59,10],[99,108,97,115,115,32,69,113,32,97,32,61,62,32,83,105,122,101,32,97,32,119,104,101,114,101,32,123,32,115,105,122,101,32,58,58,32,97,32,45,62,32,73,110,116,32,125,59,10],[99,108,97,115,115,32,83,105,122,101,32,97,32,119,104,101,114,101,32,123,32,115,105,122,101,32,58,58,32,97,32,45,62,32,98,32,45,62,32,73,110,116,32,125,59,10]] (by decide) (by decide)).use (by simp only[tk_objs,AH.set_same]) hk ?_
   rintro _ _ ⟨⟨w2,hw2,rfl⟩,rfl⟩
   have lw2:w2.length<=120:=(by decide:∀w∈([[99,108,97,115,115,32,83,105,122,101,32,97,32,119,104,101,114,101,32,123,32,115,105,122,101,32,58,58,32,97,32,45,62,32,73,110,116,59,32,116,119,105,99,101,32,58,58,32,97,32,45,62,32,73,110,116,59,32,116,119,105,99,101,32,61,32,92,120,32,45,62,32,115,105,122,101,32,120,32,43,32,115,105,122,101,32,120,32,125,59,10],[99,108,97,115,115,32,69,113,32,97,32,61,62,32,83,105,122,101,32,97,32,119,104,101,114,101,32,123,32,115,105,122,101,32,58,58,32,97,32,45,62,32,73,110,116,32,125,59,10],[99,108,97,115,115,32,83,105,122,101,32,97,32,119,104,101,114,101,32,123,32,115,105,122,101,32,58,58,32,97,32,45,62,32,98,32,45,62,32,73,110,116,32,125,59,10]]:List Nm),w.length<=120) w2 hw2
   clear hw2
   simp only[rn,pevA,seval]
   refine onS_if (by (try simp);omega) ?_
   simp only[rn,pevA,seval]
   refine (pick_mk l (0+1+1+1+1) (by omega) 9 .no [[105,110,115,116,97,110,99,101,32,83,105,122,101,32,73,110,116,32,119,104,101,114,101,32,123,32,115,105,122,101,32,120,32,61,32,49,32,125,59,10],[105,110,115,116,97,110,99,101,32,83,105,122,101,32,73,110,116,32,119,104,101,114,101,32,123,32,115,105,122,101,32,61,32,92,120,32,45,62,32,120,32,125,59,10],[]] (by decide) (by decide)).use (by simp only[tk_objs,AH.set_same]) hk ?_
   rintro _ _ ⟨⟨w3,hw3,rfl⟩,rfl⟩
   have lw3:w3.length<=120:=(by decide:∀w∈([[105,110,115,116,97,110,99,101,32,83,105,122,101,32,73,110,116,32,119,104,101,114,101,32,123,32,115,105,122,101,32,120,32,61,32,49,32,125,59,10],[105,110,115,116,97,110,99,101,32,83,105,122,101,32,73,110,116,32,119,104,101,114,101,32,123,32,115,105,122,101,32,61,32,92,120,32,45,62,32,120,32,125,59,10],[]]:List Nm),w.length<=120) w3 hw3
   clear hw3
   simp only[rn,pevA,seval]
   refine onS_if (by (try simp);omega) ?_
   simp only[rn,pevA,seval]
   refine (pick_mk l (0+1+1+1+1+1) (by omega) 9 .no [[105,110,115,116,97,110,99,101,32,83,105,122,101,32,97,32,61,62,32,83,105,122,101,32,40,84,32,97,41,32,119,104,101,114,101,32,123,32,115,105,122,101,32,120,32,61,32,99,97,115,101,32,120,32,111,102,32,123,32,66,32,104,32,114,32,45,62,32,115,105,122,101,32,104,32,43,32,115,105,122,101,32,114,59,32,95,32,45,62,32,48,32,125,32,125,59,10],[105,110,115,116,97,110,99,101,32,83,105,122,101,32,40,84,32,97,41,32,119,104,101,114,101,32,123,32,115,105,122,101,32,120,32,61,32,50,32,125,59,10],[]] (by decide) (by decide)).use (by simp only[tk_objs,AH.set_same]) hk ?_
   rintro _ _ ⟨⟨w4,hw4,rfl⟩,rfl⟩
   have lw4:w4.length<=120:=(by decide:∀w∈([[105,110,115,116,97,110,99,101,32,83,105,122,101,32,97,32,61,62,32,83,105,122,101,32,40,84,32,97,41,32,119,104,101,114,101,32,123,32,115,105,122,101,32,120,32,61,32,99,97,115,101,32,120,32,111,102,32,123,32,66,32,104,32,114,32,45,62,32,115,105,122,101,32,104,32,43,32,115,105,122,101,32,114,59,32,95,32,45,62,32,48,32,125,32,125,59,10],[105,110,115,116,97,110,99,101,32,83,105,122,101,32,40,84,32,97,41,32,119,104,101,114,101,32,123,32,115,105,122,101,32,120,32,61,32,50,32,125,59,10],[]]:List Nm),w.length<=120) w4 hw4
   clear hw4
   simp only[rn,pevA,seval]
   refine onS_if (by (try simp);omega) ?_
   simp only[rn,pevA,seval]
   refine WO.append (i:=0) hT2 rfl rfl rfl trivial (by decide) (by simp) rfl (.inr (by simp)) (fun _=>?_) ?_ fun tg3 t3 hT3=>?_
   ·simp[capOk]
   ·simp[big_eq]
   simp only[rn,pevA,seval]
   exact make_tail l K h b hk hK _ 9 tg3 t3 [[65],[66],[67],[115,105,122,101]] _ (0+1+1+1+1+1+1) (by rfl) (by rfl) (by rfl) hT3 (by simp) (by intro w hw;simp only[List.mem_cons,List.not_mem_nil,or_false] at hw;rcases hw with rfl|rfl|rfl|rfl<;>decide) (by simp;omega) (by omega)
end Go.Proofs.Ytkopkbhpompmnaa.p
namespace Go.Proofs.Ytkopkbhpompmnaa.p
open Go.Proofs Go Go.Cn code
set_option linter.unusedSimpArgs false
set_option linter.unusedVariables false
variable {S:List Nm}
def lim:Nat:=400200
def WfX (S:List Nm):Nat->Nat->Ex->Prop
 |0,_,_=>False
 |n+1,B,.mk k p nm v l a b=>(k=1->nm∈S/\l=[]/\a=[])/\(k=6->a=[])/\(k=7->a=[])/\
   ∃C,C<=B/\(k=6->C+1<=B)/\(k=7->C+b.length<=B)/\(∀x,x∈l->WfX S n C x)/\(∀x,x∈a->C+x.2.1.length<=B/\WfX S n C x.2.2.1)/\(∀x,x∈b->WfX S n C x.2.2.2.1)
theorem WfX.up:∀{n m B D:Nat}{e:Ex},n<=m->B<=D->WfX S n B e->WfX S m D e
 |0,m,B,D,e,h,hB,w=>by rw[WfX] at w;exact w.elim
 |n+1,0,B,D,e,h,hB,w=>by omega
 |n+1,m+1,B,D,.mk k p nm v l a b,h,hB,w=>by
  rw[WfX] at w ⊢
  obtain⟨w1,w2,w3,C,c1,c2,c3,w4,w5,w6⟩:=w
  exact⟨w1,w2,w3,C,by omega,fun e=>by have:=c2 e;omega,fun e=>by have:=c3 e;omega,fun x hx=>(w4 x hx).up (by omega) (Nat.le_refl _),fun x hx=>⟨by have:=(w5 x hx).1;omega,(w5 x hx).2.up (by omega) (Nat.le_refl _)⟩,fun x hx=>(w6 x hx).up (by omega) (Nat.le_refl _)⟩
theorem WfX.leaf {n B:Nat}{k p:Int}{nm:Nm}{v:Int}(h:k=1->nm∈S)(h6:k≠6):WfX S (n+1) B (.mk k p nm v [] [] []):=by
 rw[WfX]
 exact⟨fun e=>⟨h e,rfl,rfl⟩,fun _=>rfl,fun _=>rfl,B,Nat.le_refl _,fun e=>absurd e h6,fun _=>Nat.le_refl _,fun x hx=>by simp at hx,fun x hx=>by simp at hx,fun x hx=>by simp at hx⟩
theorem WfX.app {n B:Nat}{f x:Ex}{p:Int}(hf:WfX S n B f)(hx:WfX S n B x):WfX S (n+1) B (applyS f x p):=by
 unfold applyS
 rw[WfX]
 refine⟨fun e=>by omega,fun _=>rfl,fun _=>rfl,B,Nat.le_refl _,fun e=>by omega,fun e=>by omega,fun y hy=>?_,fun x hx=>by simp at hx,fun x hx=>by simp at hx⟩
 simp only[List.mem_cons,List.not_mem_nil,or_false] at hy
 rcases hy with rfl|rfl
 ·exact hf
 ·exact hx
theorem WfX.lam {n B:Nat}{b:Ex}{p:Int}(hb:WfX S n B b):∀l:List Nm,WfX S (n+l.length) (B+l.length) (lambdasS l b p)
 |[]=>hb
 |x::l=>by
  show WfX S (n+l.length+1) (B+l.length+1) (.mk 6 p x 0 [lambdasS l b p] [] [])
  rw[WfX]
  refine⟨fun e=>by omega,fun _=>rfl,fun _=>rfl,B+l.length,by omega,fun _=>Nat.le_refl _,fun e=>by omega,fun y hy=>?_,fun x hx=>by simp at hx,fun x hx=>by simp at hx⟩
  simp only[List.mem_cons,List.not_mem_nil,or_false] at hy
  subst hy
  exact WfX.lam hb l
def TkOk (S:List Nm)(ts:List Tk):Prop:=[]∈S/\∀(i:Nat)(t:Tk),ts[i]?=some t->t.kind=1\/t.kind=5->t.text∈S
def dp (n:Nat):Nat:=2*(n*(n+1))+1
theorem dp_succ (n:Nat):dp n+4*n+4=dp (n+1):=by
 unfold dp
 rw[show (n+1)*(n+1+1)=n*(n+1)+(n+1)+(n+1) from by rw[Nat.mul_succ,Nat.succ_mul]];omega
theorem lows_tok {ts:List Tk}{e:Int}:∀(n:Nat)(acc:List Nm)(s:St)(l:List Nm)(s':St),lowsS ts e n acc s=some (l,s')->l.length+s.i<=acc.length+s'.i
 |0,acc,s,l,s',h=>by rw[lowsS] at h;cases h
 |n+1,acc,s,l,s',h=>by
  rw[lowsS] at h
  split at h
  ·rename_i c
   have:=lows_tok n _ _ _ _ h
   rcases word_cases (ts:=ts) (e:=e) 1 s with⟨_,h2⟩|⟨h1,_⟩
   ·rw[h2,List.length_append] at this
    have e2:(nextS s).i=s.i+1:=rfl
    simp at this;omega
   ·rw[c] at h1;cases h1
  ·cases h;omega
theorem unders_tok {ts:List Tk}:∀(n:Nat)(acc:List Nm)(s:St)(l:List Nm)(s':St),undersS ts n acc s=some (l,s')->l.length+s.i<=acc.length+s'.i
 |0,acc,s,l,s',h=>by rw[undersS] at h;cases h
 |n+1,acc,s,l,s',h=>by
  rw[undersS] at h
  split at h
  ·have:=unders_tok n _ _ _ _ h
   have e2:(nextS s).i=s.i+1:=rfl
   rw[List.length_append] at this
   simp at this;omega
  ·cases h;omega
def cS (s s':St):Nat:=if fineS s then s'.i-s.i+1 else 0
theorem cS_sub {ts:List Tk}{s s1 t t':St}(h:Mv ts s s1)(ht:t.i<=t'.i):cS s1 t<=cS s t':=by
 unfold cS
 by_cases hf:fineS s1=true
 ·rw[if_pos hf,if_pos (h.f hf)];have:=h.i;omega
 ·rw[if_neg hf];exact Nat.zero_le _
theorem cS_lt {ts:List Tk}{s s1 t t':St}(h:Mvs ts s s1)(hf:fineS s=true)(h1:s1.i<=t.i)(ht:t.i<=t'.i):cS s1 t+1<=cS s t':=by
 unfold cS
 rw[if_pos hf]
 by_cases hf1:fineS s1=true
 ·rw[if_pos hf1];have:=h.lt hf1;omega
 ·rw[if_neg hf1];omega
section
variable {ts:List Tk}{e:Int}(hts:TkOk S ts)
include hts in
theorem word_text (k:Int)(hk:k=1\/k=5)(s:St):(wordS ts e k s).1∈S:=by
 unfold wordS
 split
 ·rename_i c
  unfold kindS at c
  rw[Bool.and_eq_true] at c
  show textS ts s∈S
  unfold textS
  cases ht:ts[s.i]? with
  |none=>exact hts.1
  |some t=>
   have c2:=c.2
   rw[ht] at c2
   have:=of_decide_eq_true c2
   exact hts.2 _ t ht (by rw[this];exact hk)
 ·exact hts.1
end
theorem findB_ok {P:Ex->Prop}:∀(k:Nat)(l:List Bi)(s:Sch),(∀b,b∈l->P b.2.2.2.1)->∀b,b∈signB s k l->P b.2.2.2.1
 |_,[],s,h,b,hb=>by cases ‹Nat› <;>exact h b hb
 |0,c::l,s,h,b,hb=>by
  rw[signB,List.mem_cons] at hb
  rcases hb with rfl|hb
  ·exact h c (by simp)
  ·exact h b (by simp[hb])
 |k+1,c::l,s,h,b,hb=>by
  rw[signB,List.mem_cons] at hb
  rcases hb with rfl|hb
  ·exact h b (by simp)
  ·exact findB_ok k l s (fun b hb=>h b (by simp[hb])) b hb
theorem join_wf {P:Ex->Prop}:∀(gs pre:List Sg)(l:List Bi)(s:St),(∀b,b∈l->P b.2.2.2.1)->∀b,b∈(joinL pre gs l s).1->P b.2.2.2.1
 |[],pre,l,s,h,b,hb=>by rw[joinL] at hb;exact h b hb
 |g::gs,pre,l,s,h,b,hb=>by
  rw[joinL] at hb
  split at hb
  ·split at hb
   ·split at hb
    ·exact h b hb
    ·exact join_wf gs _ _ s (findB_ok _ l _ h) b hb
   ·exact h b hb
  ·exact h b hb
theorem join_len:∀(gs pre:List Sg)(l:List Bi)(s:St),(joinL pre gs l s).1.length=l.length
 |[],pre,l,s=>by rw[joinL]
 |g::gs,pre,l,s=>by
  rw[joinL]
  split
  ·split
   ·split
    ·rfl
    ·rw[join_len gs,signB_len]
   ·rfl
  ·rfl
end Go.Proofs.Ytkopkbhpompmnaa.p
namespace Go.Proofs.Ytkopkbhpompmnaa.p
open Go.Proofs Go Go.Cn code
set_option linter.unusedSimpArgs false
set_option linter.unusedVariables false
variable {S:List Nm}
structure WfAll (S:List Nm)(ts:List Tk)(e:Int)(n:Nat):Prop where
 expr:∀s x s',s.i<=ts.length->exprS ts e n s=some (x,s')->WfX S (dp n) (20002*cS s s') x
 two:∀k B a w s x s',s.i<=ts.length->dp n<=k->20002*cS s s'<=B->WfX S k B a->twoS ts e n a w s=some (x,s')->WfX S (k+2) B x
 sum:∀s x s',s.i<=ts.length->sumS ts e n s=some (x,s')->WfX S (dp n) (20002*cS s s') x
 sums:∀k B a s x s',s.i<=ts.length->dp n<=k->20002*cS s s'<=B->WfX S k B a->sumsS ts e n a s=some (x,s')->WfX S (k+2*n) B x
 product:∀s x s',s.i<=ts.length->productS ts e n s=some (x,s')->WfX S (dp n) (20002*cS s s') x
 products:∀k B a s x s',s.i<=ts.length->dp n<=k->20002*cS s s'<=B->WfX S k B a->productsS ts e n a s=some (x,s')->WfX S (k+2*n) B x
 app:∀s x s',s.i<=ts.length->appS ts e n s=some (x,s')->WfX S (dp n) (20002*cS s s') x
 apps:∀k B a s x s',s.i<=ts.length->dp n<=k->20002*cS s s'<=B->WfX S k B a->appsS ts e n a s=some (x,s')->WfX S (k+2*n) B x
 one:∀s x s',s.i<=ts.length->oneS ts e n s=some (x,s')->WfX S (dp n) (20002*cS s s') x
 alts:∀k B (acc:List Al) s (l:List Al) s',s.i<=ts.length->dp n<=k->20002*cS s s'<=B->(∀x,x∈acc->x.2.1.length<=20002/\WfX S k B x.2.2.1)->altsS ts e n acc s=some (l,s')->∀x,x∈l->x.2.1.length<=20002/\WfX S k B x.2.2.1
 df:∀k B g (bs:List Bi) s g' (bs':List Bi) s',s.i<=ts.length->fineS s=true->dp n<=k->20002*cS s s'<=B->(∀x,x∈bs->WfX S k B x.2.2.2.1)->defS ts e n g bs s=some (g',bs',s')->∀x,x∈bs'->WfX S k B x.2.2.2.1
 defs:∀k B g (bs:List Bi) s g' (bs':List Bi) s',s.i<=ts.length->dp n<=k->20002*cS s s'<=B->(∀x,x∈bs->WfX S k B x.2.2.2.1)->defsL ts e n g bs s=some (g',bs',s')->∀x,x∈bs'->WfX S k B x.2.2.2.1
theorem mulW {a b:Nat}(h:a<=b):20002*a<=20002*b:=Nat.mul_le_mul_left _ h
section
variable {ts:List Tk}{e:Int}(hts:TkOk S ts)(hlen:ts.length<=20000)
include hlen in
theorem pat_len {n:Nat}{s s':St}{c:Nm}{vs:List Nm}(hs:s.i<=ts.length)(h:patS ts e n s=some (c,vs,s')):vs.length<=20002:=by
 have m:=(pat_mv h).m.le hs
 unfold patS at h
 split at h
 ·split at h
  ·rename_i l s1 h1
   cases h
   have:=unders_tok _ _ _ _ _ h1
   simp at this;omega
  ·cases h
 ·split at h
  ·cases h;exact Nat.zero_le _
  ·cases h;show 1<=20002;decide
theorem defs_stop {n:Nat}{g:List Sg}{bs:List Bi}{s:St}{g':List Sg}{bs':List Bi}{s':St}(hf:fineS s=false)(h:defsL ts e n g bs s=some (g',bs',s')):bs'=bs/\s'=s:=by
 cases n with
 |zero=>rw[defsL] at h;cases h
 |succ n=>
  rw[defsL,if_neg (by rw[hf];decide)] at h
  cases h;exact⟨rfl,rfl⟩
include hlen in
theorem defs_tok:∀(n:Nat),n<=most->∀(g:List Sg)(bs:List Bi)(s:St)(g':List Sg)(bs':List Bi)(s':St),defsL ts e n g bs s=some (g',bs',s')->bs'.length+s.i<=bs.length+s'.i+1
 |0,_,g,bs,s,g',bs',s',h=>by rw[defsL] at h;cases h
 |n+1,hn,g,bs,s,g',bs',s',h=>by
  have mv:=ex_mv (show ts.length<=1000000 by omega) (e:=e) n (by omega)
  rw[defsL] at h
  split at h
  ·split at h
   ·rename_i s1 h1
    have m1:=(semis_mv _ _ _ h1).1.i
    split at h
    ·cases h;omega
    ·split at h
     ·rename_i g2 bs2 s2 h2
      have m2:=(mv.df _ _ _ _ _ _ h2).fst (Mv.ends (ts:=ts) (e:=e) true s2)
      have l2:=(def_len h2).2
      have m2i:=m2.m.i
      cases hf:fineS (endsS ts e true s2) with
      |true=>
       have:=m2.lt hf
       have:=defs_tok n (by omega) _ _ _ _ _ _ h
       omega
      |false=>
       obtain⟨rfl,rfl⟩:=defs_stop hf h
       omega
     ·cases h
   ·cases h
  ·cases h;omega
include hts hlen in
theorem wf_all:∀n:Nat,n<=most->WfAll S ts e n
 |0,_=>⟨fun s x s' _ h=>by (rw[exprS] at h;cases h),fun k B a w s x s' _ _ _ _ h=>by (rw[twoS] at h;cases h),fun s x s' _ h=>by (rw[sumS] at h;cases h),fun k B a s x s' _ _ _ _ h=>by (rw[sumsS] at h;cases h),
   fun s x s' _ h=>by (rw[productS] at h;cases h),fun k B a s x s' _ _ _ _ h=>by (rw[productsS] at h;cases h),fun s x s' _ h=>by (rw[appS] at h;cases h),fun k B a s x s' _ _ _ _ h=>by (rw[appsS] at h;cases h),
   fun s x s' _ h=>by (rw[oneS] at h;cases h),fun k B acc s l s' _ _ _ _ h=>by (rw[altsS] at h;cases h),fun k B g bs s g' bs' s' _ _ _ _ _ h=>by (rw[defS] at h;cases h),fun k B g bs s g' bs' s' _ _ _ _ h=>by (rw[defsL] at h;cases h)⟩
 |n+1,hn=>by
  have ih:=wf_all n (by omega)
  have mv:=ex_mv (show ts.length<=1000000 by omega) (e:=e) n (by omega)
  have hd:=dp_succ n
  have h1:1<=dp n:=by unfold dp;omega
  refine⟨?_,?_,?_,?_,?_,?_,?_,?_,?_,?_,?_,?_⟩
  ·intro s x s' hs h
   rw[exprS] at h
   split at h
   ·rename_i c
    have mo:=(Mvs.opn (e:=e) (isS_fine c) (isS_lt c)).fst (Mvs.word (ts:=ts) (e:=e) 1 _).m
    split at h
    ·rename_i l s3 hl
     have ml:=lows_mv _ _ _ _ _ hl
     have mt:=(Mvs.take (ts:=ts) (e:=e) [45,62] s3).m
     split at h
     ·rename_i b s5 hb
      cases h
      have ll:=lows_tok _ _ _ _ _ hl
      rw[List.length_singleton] at ll
      have ln:=lows_len _ _ _ _ _ hl
      rw[List.length_singleton] at ln
      have l3:=ml.le (mo.m.le hs)
      have hs4:=mt.le l3
      have c1:=cS_lt (t':=shutS s5) ((mo.fst ml).fst mt) (isS_fine c) (mv.expr _ _ _ hb).m.i (Nat.le_refl _)
      have c2:=mulW c1
      rw[Nat.mul_add] at c2
      exact ((ih.expr _ _ _ hs4 hb).lam l).up (by omega) (by omega)
     ·cases h
    ·cases h
   ·split at h
    ·rename_i c
     have mo:=(Mvs.opn (e:=e) (isS_fine c) (isS_lt c)).fst (Mvs.take (ts:=ts) (e:=e) [123] _).m
     split at h
     ·rename_i g bs s2 hg
      have mg:=mv.defs _ _ _ _ _ _ hg
      have mj:=(Mv.join (ts:=ts) g [] bs s2).trans ((Mvs.take (ts:=ts) (e:=e) [125] _).m.trans (Mvs.take (ts:=ts) (e:=e) [105,110] _).m)
      split at h
      ·rename_i b s4 hb
       cases h
       have mb:=(mv.expr _ _ _ hb).m
       have hs1:=mo.m.le hs
       have hs3:=mj.le (mg.le hs1)
       have i2:=mj.i
       have i3:=mb.i
       have c1:=cS_lt (t':=shutS s4) mo (isS_fine c) mg.i (show s2.i<=s4.i by omega)
       have c2:=cS_lt (t':=shutS s4) ((mo.fst mg).fst mj) (isS_fine c) mb.i (Nat.le_refl _)
       have d1:=mulW c1
       have d2:=mulW c2
       rw[Nat.mul_add] at d1 d2
       rw[<-hd,show dp n+4*n+4=(dp n+4*n+3)+1 from rfl,WfX]
       have w:=ih.defs (dp n) (20002*cS s (shutS s4)-20002) _ _ _ _ _ _ hs1 (Nat.le_refl _) (by omega) (fun x hx=>by simp at hx) hg
       have hl:=defs_tok hlen n (by omega) _ _ _ _ _ _ hg
       have hl2:=mg.le hs1
       rw[List.length_nil] at hl
       refine⟨fun e=>by omega,fun _=>rfl,fun _=>rfl,20002*cS s (shutS s4)-20002,by omega,fun e=>by omega,fun _=>by rw[join_len];omega,fun y hy=>?_,fun x hx=>by simp at hx,fun x hx=>(join_wf g [] bs s2 w x hx).up (by omega) (Nat.le_refl _)⟩
       simp only[List.mem_cons,List.not_mem_nil,or_false] at hy
       subst hy
       exact (ih.expr _ _ _ hs3 hb).up (by omega) (by omega)
      ·cases h
     ·cases h
    ·split at h
     ·rename_i c
      have mo:=Mvs.opn (e:=e) (isS_fine c) (isS_lt c)
      split at h
      ·rename_i y s1 hy
       have my:=(mv.expr _ _ _ hy).m
       have mt:=(Mvs.take (ts:=ts) (e:=e) [111,102] s1).m.trans (Mvs.take (ts:=ts) (e:=e) [123] _).m
       split at h
       ·rename_i l s2 hl
        cases h
        have ml:=mv.alts _ _ _ _ hl
        have me:=(Mvs.take (ts:=ts) (e:=e) [125] s2).m.i
        have hs1:=mo.m.le hs
        have hs3:=mt.le (my.le hs1)
        have i2:=mt.i
        have i3:=ml.i
        have c1:=cS_lt (t':=shutS (takeS ts e [125] s2)) mo (isS_fine c) my.i (show s1.i<=(takeS ts e [125] s2).i by omega)
        have c2:=cS_lt (t':=shutS (takeS ts e [125] s2)) ((mo.fst my).fst mt) (isS_fine c) ml.i me
        have d1:=mulW c1
        have d2:=mulW c2
        rw[Nat.mul_add] at d1 d2
        rw[<-hd,show dp n+4*n+4=(dp n+4*n+3)+1 from rfl,WfX]
        have w:=ih.alts (dp n) (20002*cS s (shutS (takeS ts e [125] s2))-20002) _ _ _ _ hs3 (Nat.le_refl _) (by omega) (fun x hx=>by simp at hx) hl
        refine⟨fun e=>by omega,fun e=>by omega,fun e=>by omega,20002*cS s (shutS (takeS ts e [125] s2))-20002,by omega,fun e=>by omega,fun e=>by omega,fun z hz=>?_,fun x hx=>⟨by have:=(w x hx).1;omega,(w x hx).2.up (by omega) (Nat.le_refl _)⟩,fun x hx=>by simp at hx⟩
        simp only[List.mem_cons,List.not_mem_nil,or_false] at hz
        subst hz
        exact (ih.expr _ _ _ hs1 hy).up (by omega) (by omega)
       ·cases h
      ·cases h
     ·split at h
      ·rename_i c
       have mo:=Mvs.opn (e:=e) (isS_fine c) (isS_lt c)
       split at h
       ·rename_i y s1 hy
        have my:=(mv.expr _ _ _ hy).m
        have mt:=(Mvs.take (ts:=ts) (e:=e) [116,104,101,110] s1).m
        split at h
        ·rename_i a s2 ha
         have ma:=(mv.expr _ _ _ ha).m
         have mu:=(Mvs.take (ts:=ts) (e:=e) [101,108,115,101] s2).m
         split at h
         ·rename_i b s3 hb
          cases h
          have mb:=(mv.expr _ _ _ hb).m
          have hs1:=mo.m.le hs
          have hs2:=mt.le (my.le hs1)
          have hs3:=mu.le (ma.le hs2)
          have i1:=mt.i
          have i2:=ma.i
          have i3:=mu.i
          have i4:=mb.i
          have c1:=cS_lt (t':=shutS s3) mo (isS_fine c) my.i (show s1.i<=s3.i by omega)
          have c2:=cS_lt (t':=shutS s3) ((mo.fst my).fst mt) (isS_fine c) ma.i (show s2.i<=s3.i by omega)
          have c3:=cS_lt (t':=shutS s3) ((((mo.fst my).fst mt).fst ma).fst mu) (isS_fine c) mb.i (Nat.le_refl _)
          have d1:=mulW c1
          have d2:=mulW c2
          have d3:=mulW c3
          rw[Nat.mul_add] at d1 d2 d3
          rw[<-hd,show dp n+4*n+4=(dp n+4*n+3)+1 from rfl,WfX]
          refine⟨fun e=>by omega,fun e=>by omega,fun e=>by omega,20002*cS s (shutS s3)-20002,by omega,fun e=>by omega,fun e=>by omega,fun z hz=>?_,fun z hz=>?_,fun x hx=>by simp at hx⟩
          ·simp only[List.mem_cons,List.not_mem_nil,or_false] at hz
           subst hz
           exact (ih.expr _ _ _ hs1 hy).up (by omega) (by omega)
          ·simp only[List.mem_cons,List.not_mem_nil,or_false] at hz
           rcases hz with rfl|rfl
           ·exact⟨by show _+0<=_;omega,(ih.expr _ _ _ hs2 ha).up (by omega) (by omega)⟩
           ·exact⟨by show _+0<=_;omega,(ih.expr _ _ _ hs3 hb).up (by omega) (by omega)⟩
         ·cases h
        ·cases h
       ·cases h
      ·split at h
       ·rename_i a s1 ha
        have wa:=ih.sum _ _ _ hs ha
        have m1:=(mv.sum _ _ _ ha).m
        split at h
        ·have m2:=(mv.two _ _ _ _ _ h).m
         have c1:=mulW (cS_sub (ts:=ts) (.refl s) m2.i:cS s s1<=cS s s')
         have c2:=mulW (cS_sub m1 (Nat.le_refl s'.i))
         exact (ih.two _ (20002*cS s s') _ _ _ _ _ (m1.le hs) (Nat.le_refl _) c2 (wa.up (Nat.le_refl _) c1) h).up (by omega) (Nat.le_refl _)
        ·cases h;exact wa.up (by omega) (Nat.le_refl _)
       ·cases h
  ·intro k B a w s x s' hs hk hB wa h
   rw[twoS] at h
   split at h
   ·rename_i b s2 hb
    cases h
    have m1:=(Mvs.word (ts:=ts) (e:=e) 5 s).m
    have c1:=mulW (cS_sub m1 (Nat.le_refl s'.i))
    have hs1:=m1.le hs
    have wb:WfX S (dp n) (20002*cS (wordS ts e 5 s).2 s') b:=by
     split at hb
     ·exact ih.sum _ _ _ hs1 hb
     ·split at hb
      ·exact ih.product _ _ _ hs1 hb
      ·exact ih.app _ _ _ hs1 hb
    have hk1:k=(k-1)+1:=by omega
    have wl:WfX S k B (.mk 1 (posS ts e s) (wordS ts e 5 s).1 0 [] [] []):=by
     rw[hk1]
     exact WfX.leaf (fun _=>word_text hts 5 (.inr rfl) s) (by decide)
    exact (wl.app wa).app (wb.up (by omega) (by omega))
   ·cases h
  ·intro s x s' hs h
   rw[sumS] at h
   split at h
   ·rename_i a s1 ha
    have m1:=(mv.product _ _ _ ha).m
    have m2:=mv.sums _ _ _ _ h
    have c1:=mulW (cS_sub (ts:=ts) (.refl s) m2.i:cS s s1<=cS s s')
    have c2:=mulW (cS_sub m1 (Nat.le_refl s'.i))
    exact (ih.sums _ (20002*cS s s') _ _ _ _ (m1.le hs) (Nat.le_refl _) c2 ((ih.product _ _ _ hs ha).up (Nat.le_refl _) c1) h).up (by omega) (Nat.le_refl _)
   ·cases h
  ·intro k B a s x s' hs hk hB wa h
   rw[sumsS] at h
   split at h
   ·split at h
    ·rename_i b s1 hb
     have m1:=(mv.two _ _ _ _ _ hb).m
     have m2:=mv.sums _ _ _ _ h
     have c1:=mulW (cS_sub (ts:=ts) (.refl s) m2.i:cS s s1<=cS s s')
     have c2:=mulW (cS_sub m1 (Nat.le_refl s'.i))
     have wb:=ih.two k B _ _ _ _ _ hs (by omega) (by omega) wa hb
     exact (ih.sums (k+2) B _ _ _ _ (m1.le hs) (by omega) (by omega) wb h).up (by omega) (Nat.le_refl _)
    ·cases h
   ·cases h;exact wa.up (by omega) (Nat.le_refl _)
  ·intro s x s' hs h
   rw[productS] at h
   split at h
   ·rename_i a s1 ha
    have m1:=(mv.app _ _ _ ha).m
    have m2:=mv.products _ _ _ _ h
    have c1:=mulW (cS_sub (ts:=ts) (.refl s) m2.i:cS s s1<=cS s s')
    have c2:=mulW (cS_sub m1 (Nat.le_refl s'.i))
    exact (ih.products _ (20002*cS s s') _ _ _ _ (m1.le hs) (Nat.le_refl _) c2 ((ih.app _ _ _ hs ha).up (Nat.le_refl _) c1) h).up (by omega) (Nat.le_refl _)
   ·cases h
  ·intro k B a s x s' hs hk hB wa h
   rw[productsS] at h
   split at h
   ·split at h
    ·rename_i b s1 hb
     have m1:=(mv.two _ _ _ _ _ hb).m
     have m2:=mv.products _ _ _ _ h
     have c1:=mulW (cS_sub (ts:=ts) (.refl s) m2.i:cS s s1<=cS s s')
     have c2:=mulW (cS_sub m1 (Nat.le_refl s'.i))
     have wb:=ih.two k B _ _ _ _ _ hs (by omega) (by omega) wa hb
     exact (ih.products (k+2) B _ _ _ _ (m1.le hs) (by omega) (by omega) wb h).up (by omega) (Nat.le_refl _)
    ·cases h
   ·cases h;exact wa.up (by omega) (Nat.le_refl _)
  ·intro s x s' hs h
   rw[appS] at h
   split at h
   ·rename_i a s1 ha
    have m1:=(mv.one _ _ _ ha).m
    have m2:=mv.apps _ _ _ _ h
    have c1:=mulW (cS_sub (ts:=ts) (.refl s) m2.i:cS s s1<=cS s s')
    have c2:=mulW (cS_sub m1 (Nat.le_refl s'.i))
    exact (ih.apps _ (20002*cS s s') _ _ _ _ (m1.le hs) (Nat.le_refl _) c2 ((ih.one _ _ _ hs ha).up (Nat.le_refl _) c1) h).up (by omega) (Nat.le_refl _)
   ·cases h
  ·intro k B a s x s' hs hk hB wa h
   rw[appsS] at h
   split at h
   ·split at h
    ·rename_i b s1 hb
     have m1:=(mv.one _ _ _ hb).m
     have m2:=mv.apps _ _ _ _ h
     have c1:=mulW (cS_sub (ts:=ts) (.refl s) m2.i:cS s s1<=cS s s')
     have c2:=mulW (cS_sub m1 (Nat.le_refl s'.i))
     have wb:=(ih.one _ _ _ hs hb).up (show dp n<=k by omega) (show _<=B by omega)
     exact (ih.apps (k+1) B _ _ _ _ (m1.le hs) (by omega) (by omega) (wa.app wb) h).up (by omega) (Nat.le_refl _)
    ·cases h
   ·cases h;exact wa.up (by omega) (Nat.le_refl _)
  ·intro s x s' hs h
   rw[oneS] at h
   rw[<-hd,show dp n+4*n+4=(dp n+4*n+3)+1 from rfl]
   split at h
   ·rename_i c
    obtain⟨hf,hlt⟩:=begins_fine c
    split at h
    ·rename_i t ht
     split at h
     ·rename_i hk
      cases h
      exact WfX.leaf (fun _=>hts.2 _ t ht (.inl hk)) (by decide)
     ·split at h
      ·cases h;exact WfX.leaf (fun e=>by omega) (by decide)
      ·split at h
       ·cases h;exact WfX.leaf (fun e=>by omega) (by decide)
       ·split at h
        ·cases h;exact WfX.leaf (fun e=>by omega) (by decide)
        ·split at h
         ·rename_i u hu
          cases h
          refine WfX.leaf (fun _=>?_) (by decide)
          split at hu
          ·rename_i v hv
           split at hu
           ·rename_i h5;cases hu;exact hts.2 _ _ hv (.inr h5)
           ·cases hu
          ·cases hu
         ·split at h
          ·rename_i y s1 hy
           cases h
           have mo:=Mvs.opn (e:=e) hf hlt
           have my:=(mv.expr _ _ _ hy).m
           have me:=(Mvs.take (ts:=ts) (e:=e) [41] s1).m.i
           have c1:=mulW (cS_sub (t':=shutS (takeS ts e [41] s1)) mo.m me)
           exact (ih.expr _ _ _ (mo.m.le hs) hy).up (by omega) c1
          ·cases h
    ·cases h
   ·cases h
    exact WfX.leaf (fun e=>by omega) (by decide)
  ·intro k B acc s l s' hs hk hB wa h
   rw[altsS] at h
   split at h
   ·split at h
    ·rename_i s1 hs1
     have m1:=(semis_mv _ _ _ hs1).1
     split at h
     ·cases h;exact wa
     ·split at h
      ·rename_i c vs s2 hp
       have m2:=(pat_mv hp).m.trans (Mvs.take (ts:=ts) (e:=e) [45,62] s2).m
       split at h
       ·rename_i b s3 hb
        have m3:=(mv.expr _ _ _ hb).m
        have m4:=Mv.altEnd (ts:=ts) (e:=e) s3
        have m5:=mv.alts _ _ _ _ h
        have i4:=m4.i
        have i5:=m5.i
        have c1:=mulW (cS_sub (t':=s') (m1.trans m2) (show s3.i<=s'.i by omega))
        have c2:=mulW (cS_sub (t':=s') (m1.trans (m2.trans (m3.trans m4))) (Nat.le_refl s'.i))
        refine ih.alts k B _ _ _ _ (m4.le (m3.le (m2.le (m1.le hs)))) (by omega) (by omega) (fun x hx=>?_) h
        rw[List.mem_append] at hx
        rcases hx with hx|hx
        ·exact wa x hx
        ·simp only[List.mem_cons,List.not_mem_nil,or_false] at hx
         subst hx
         exact⟨pat_len hlen (m1.le hs) hp,(ih.expr _ _ _ (m2.le (m1.le hs)) hb).up (by omega) (by omega)⟩
       ·cases h
      ·cases h
    ·cases h
   ·cases h;exact wa
  ·intro k B g bs s g' bs' s' hs hf hk hB wa h
   rw[defS] at h
   have mn:=Mvs.named (ts:=ts) (e:=e) s
   split at h
   ·split at h
    ·cases h;exact wa
    ·cases h
   ·split at h
    ·rename_i l s2 hl
     have ml:=lows_mv _ _ _ _ _ hl
     have mt:=(Mvs.take (ts:=ts) (e:=e) [61] s2).m
     split at h
     ·rename_i b s3 hb
      cases h
      intro x hx
      rw[List.mem_append] at hx
      rcases hx with hx|hx
      ·exact wa x hx
      ·simp only[List.mem_cons,List.not_mem_nil,or_false] at hx
       subst hx
       have ll:=lows_tok _ _ _ _ _ hl
       rw[List.length_nil] at ll
       have ln:=lows_len _ _ _ _ _ hl
       rw[List.length_nil] at ln
       have l2:=ml.le (mn.m.le hs)
       have hs3:=mt.le l2
       have c1:=cS_lt (t':=s') ((mn.fst ml).fst mt) hf (mv.expr _ _ _ hb).m.i (Nat.le_refl _)
       have c2:=mulW c1
       rw[Nat.mul_add] at c2
       exact ((ih.expr _ _ _ hs3 hb).lam l).up (by omega) (by omega)
     ·cases h
    ·cases h
  ·intro k B g bs s g' bs' s' hs hk hB wa h
   rw[defsL] at h
   split at h
   ·rename_i hf
    split at h
    ·rename_i s1 hs1
     have m1:=(semis_mv _ _ _ hs1).1
     have hf1:fineS s1=true:=by rw[semis_fine _ _ _ hs1];exact hf
     split at h
     ·cases h;exact wa
     ·split at h
      ·rename_i g2 bs2 s2 h2
       have m2:=(mv.df _ _ _ _ _ _ h2).m
       have m3:=Mv.ends (ts:=ts) (e:=e) true s2
       have m4:=mv.defs _ _ _ _ _ _ h
       have i3:=m3.i
       have i4:=m4.i
       have c1:=mulW (cS_sub (t':=s') m1 (show s2.i<=s'.i by omega))
       have c2:=mulW (cS_sub (t':=s') (m1.trans (m2.trans m3)) (Nat.le_refl s'.i))
       exact ih.defs k B _ _ _ _ _ _ (m3.le (m2.le (m1.le hs))) (by omega) (by omega) (ih.df k B _ _ _ _ _ _ (m1.le hs) hf1 (by omega) (by omega) wa h2) h
      ·cases h
    ·cases h
   ·cases h;exact wa
end
end Go.Proofs.Ytkopkbhpompmnaa.p
namespace Go.Proofs.Ytkopkbhpompmnaa.p
open Go.Proofs Go Go.Cn code
set_option linter.unusedSimpArgs false
set_option linter.unusedVariables false
variable {S:List Nm}
theorem wordV_tk (l:List UInt8)(c:UInt8):(wordV l c).1.kind=1\/(wordV l c).1.kind=5->(wordV l c).1.text≠[95]:=by
 have z:(zeroK.kind=1\/zeroK.kind=5)->zeroK.text≠[95]:=fun _=>by unfold zeroK;simp
 unfold wordV
 split
 ·unfold nameV
  split
  ·exact z
  ·dsimp only
   split
   ·intro h;omega
   ·split
    ·intro h;omega
    ·rename_i h1
     intro _
     exact h1
 ·split
  ·unfold digitsV
   split
   ·exact z
   ·intro h;dsimp only at h;omega
  ·split
   ·unfold charV
    split
    ·exact z
    ·intro h;dsimp only at h;omega
   ·unfold signV
    split
    ·intro h;dsimp only at h;omega
    ·split
     ·intro h;dsimp only at h;omega
     ·split
      ·intro h;dsimp only at h;omega
      ·split
       ·rename_i o ho
        intro _
        have:=(findO_mem ho).1
        intro e
        have e2:o=[95]:=e
        rw[e2] at this
        revert this
        decide
       ·split
        ·intro h;dsimp only at h;omega
        ·exact z
def TkNo (ts:List Tk):Prop:=∀(i:Nat)(t:Tk),ts[i]?=some t->t.kind=1\/t.kind=5->t.text≠[95]
theorem TkNo.snoc {ts:List Tk}{t:Tk}(h:TkNo ts)(ht:t.kind=1\/t.kind=5->t.text≠[95]):TkNo (ts++[t]):=by
 intro i u hu
 by_cases hi:i<ts.length
 ·rw[List.getElem?_append_left hi] at hu
  exact h i u hu
 ·rw[List.getElem?_append_right (by omega)] at hu
  have:i-ts.length=0:=by
   by_cases h0:i-ts.length=0
   ·exact h0
   ·rw[List.getElem?_eq_none (by simp;omega)] at hu;cases hu
  rw[this] at hu
  simp at hu
  subst hu
  exact ht
theorem splitS_tk:∀(n:Nat)(l:List UInt8)(i:Nat)(acc ts:List Tk)(er:Option Nat),TkNo acc->splitS n l i acc=some (ts,er)->TkNo ts
 |0,l,i,acc,ts,er,ha,h=>by rw[splitS] at h;cases h
 |n+1,[],i,acc,ts,er,ha,h=>by rw[splitS] at h;cases h;exact ha
 |n+1,c::r,i,acc,ts,er,ha,h=>by
  rw[splitS] at h
  split at h
  ·exact splitS_tk n _ _ _ _ _ ha h
  ·split at h
   ·exact splitS_tk n _ _ _ _ _ ha h
   ·split at h
    ·cases h;intro i t ht;simp at ht
    ·exact splitS_tk n _ _ _ _ _ (by exact ha.snoc (wordV_tk (c::r) c)) h
theorem splitV_tk (l:List UInt8):TkNo (splitV l).1:=by
 have z:TkNo []:=fun i t ht=>by simp at ht
 unfold splitV
 split
 ·exact z
 ·split
  ·rename_i ts h
   exact splitS_tk _ _ _ _ _ _ z h
  ·exact z
  ·exact z
section
variable {ts:List Tk}{e:Int}(hts:ts.length<=1000000)
include hts in
theorem prog_mv:∀n:Nat,n+1<=most->∀(g:List Sg)(q:Pg)(s:St)(g':List Sg)(q':Pg)(s':St),s.i<=ts.length->progL ts e n g q s=some (g',q',s')->Mv ts s s'
 |0,_,g,q,s,g',q',s',hs,h=>by rw[progL] at h;cases h
 |n+1,hn,g,q,s,g',q',s',hs,h=>by
  rw[progL] at h
  split at h
  ·split at h
   ·rename_i s1 hs1
    have m1:=(semis_mv _ _ _ hs1).1
    have hs2:=m1.le hs
    have fin:∀(s2:St)(g:List Sg)(q2:Pg),Mv ts s1 s2->progL ts e n g q2 (endsS ts e false s2)=some (g',q',s')->Mv ts s s':=by
     intro s2 g q2 m2 h
     have m3:=m2.trans (Mv.ends (ts:=ts) (e:=e) false s2)
     exact m1.trans (m3.trans (prog_mv n (by omega) _ _ _ _ _ _ (m3.le hs2) h))
    split at h
    ·cases h;exact m1
    ·split at h
     ·split at h
      ·rename_i d s2 h2
       exact fin _ _ _ (data_mv hts (by omega) h2).m h
      ·cases h
     ·split at h
      ·split at h
       ·rename_i d s2 h2
        exact fin _ _ _ (class_mvs hts (by omega) hs2 h2).m h
       ·cases h
      ·split at h
       ·split at h
        ·rename_i d s2 h2
         exact fin _ _ _ (inst_mvs hts (by omega) hs2 h2).m h
        ·cases h
       ·split at h
        ·rename_i g2 bs s2 h2
         exact fin _ _ _ ((ex_mv hts (e:=e) n (by omega)).df _ _ _ _ _ _ h2).m h
        ·cases h
   ·cases h
  ·cases h;exact .refl _
end
section
variable {ts:List Tk}{e:Int}(hts:TkOk S ts)(hlen:ts.length<=20000)
include hts hlen in
theorem progL_wf:∀n:Nat,n+1<=most->∀(k B:Nat)(g:List Sg)(q:Pg)(s:St)(g':List Sg)(q':Pg)(s':St),s.i<=ts.length->dp n<=k->20002*cS s s'<=B->(∀x,x∈q.binds->WfX S k B x.2.2.2.1)->progL ts e n g q s=some (g',q',s')->(∀x,x∈q'.binds->WfX S k B x.2.2.2.1)/\q'.binds.length<=q.binds.length+n/\Mv ts s s'
 |0,_,k,B,g,q,s,g',q',s',hs,hk,hB,hq,h=>by rw[progL] at h;cases h
 |n+1,hn,k,B,g,q,s,g',q',s',hs,hk,hB,hq,h=>by
  have hd:=dp_succ n
  have hl:ts.length<=1000000:=by omega
  rw[progL] at h
  split at h
  ·rename_i hf
   split at h
   ·rename_i s1 hs1
    have m1:=(semis_mv _ _ _ hs1).1
    have hs2:=m1.le hs
    have hf1:fineS s1=true:=by rw[semis_fine _ _ _ hs1];exact hf
    have fin:∀(s2:St)(g:List Sg)(q2:Pg),Mv ts s1 s2->q2.binds.length<=q.binds.length+1->((20002*cS s1 s2<=B->∀x,x∈q2.binds->WfX S k B x.2.2.2.1))->progL ts e n g q2 (endsS ts e false s2)=some (g',q',s')->(∀x,x∈q'.binds->WfX S k B x.2.2.2.1)/\q'.binds.length<=q.binds.length+(n+1)/\Mv ts s s':=by
     intro s2 g q2 m2 hl2 hw h
     have m3:=m2.trans (Mv.ends (ts:=ts) (e:=e) false s2)
     have mp:Mv ts (endsS ts e false s2) s':=by
      exact prog_mv hl n (by omega) _ _ _ _ _ _ (m3.le hs2) h
     have c1:=mulW (cS_sub (t':=s') m1 (show s2.i<=s'.i from Nat.le_trans (Mv.ends (ts:=ts) (e:=e) false s2).i mp.i))
     have c2:=mulW (cS_sub (t':=s') (m1.trans m3) (Nat.le_refl s'.i))
     have r:=progL_wf n (by omega) k B g q2 _ _ _ _ (m3.le hs2) (by omega) (by omega) (hw (by omega)) h
     exact⟨r.1,by have:=r.2.1;omega,m1.trans (m3.trans mp)⟩
    split at h
    ·cases h;exact⟨hq,by omega,m1⟩
    ·split at h
     ·split at h
      ·rename_i d s2 h2
       exact fin _ _ _ (data_mv hl (by omega) h2).m (by first|omega|(dsimp only;omega)) (by exact fun _=>hq) h
      ·cases h
     ·split at h
      ·split at h
       ·rename_i d s2 h2
        exact fin _ _ _ (class_mvs hl (by omega) hs2 h2).m (by first|omega|(dsimp only;omega)) (by exact fun _=>hq) h
       ·cases h
      ·split at h
       ·split at h
        ·rename_i d s2 h2
         exact fin _ _ _ (inst_mvs hl (by omega) hs2 h2).m (by first|omega|(dsimp only;omega)) (by exact fun _=>hq) h
        ·cases h
       ·split at h
        ·rename_i g2 bs s2 h2
         have l2:=(def_len h2).2
         exact fin _ _ _ ((ex_mv hl (e:=e) n (by omega)).df _ _ _ _ _ _ h2).m (by first|omega|(dsimp only;omega)) (fun hB2=>(wf_all hts hlen n (by omega)).df k B _ _ _ _ _ _ hs2 hf1 (by omega) hB2 hq h2) h
        ·cases h
   ·cases h
  ·cases h;exact⟨hq,by omega,.refl _⟩
include hts hlen in
theorem program_wf {n:Nat}(hn:n+1<=most){s s':St}{q:Pg}(hs:s.i<=ts.length)(h:programS ts e n s=some (q,s')):(∀x,x∈q.binds->WfX S (dp n) (20002*20002) x.2.2.2.1)/\q.binds.length<=n:=by
 unfold programS at h
 split at h
 ·rename_i g q1 s1 h1
  cases h
  have mp:=prog_mv (show ts.length<=1000000 by omega) n hn _ _ _ _ _ _ hs h1
  have hB:20002*cS s s1<=20002*20002:=by
   refine mulW ?_
   unfold cS
   split
   ·have:=mp.le hs;omega
   ·omega
  have:=progL_wf hts hlen n hn (dp n) (20002*20002) _ _ _ _ _ _ hs (Nat.le_refl _) hB (fun x hx=>by simp at hx) h1
  refine⟨join_wf g [] _ _ this.1,?_⟩
  show (joinL [] g q1.binds s1).1.length<=n
  rw[join_len]
  have:=this.2.1
  simp at this;exact this
 ·cases h
end
def namesV (l:List UInt8):List Nm:=[]::((splitV l).1.filter fun t=>decide (t.kind=1) || decide (t.kind=5)).map (·.text)
theorem namesV_ok (l:List UInt8):TkOk (namesV l) (splitV l).1:=by
 refine⟨by simp[namesV],fun i t ht hk=>?_⟩
 unfold namesV
 refine List.mem_cons_of_mem _ (List.mem_map.2 ⟨t,List.mem_filter.2 ⟨List.mem_of_getElem? ht,?_⟩,rfl⟩)
 rw[Bool.or_eq_true]
 rcases hk with h|h
 ·exact .inl (decide_eq_true h)
 ·exact .inr (decide_eq_true h)
theorem namesV_no (l:List UInt8):∀x,x∈namesV l->x≠[95]:=by
 intro x hx
 unfold namesV at hx
 rw[List.mem_cons] at hx
 rcases hx with rfl|hx
 ·simp
 ·obtain⟨t,ht,rfl⟩:=List.mem_map.1 hx
  obtain⟨h1,h2⟩:=List.mem_filter.1 ht
  obtain⟨i,hi⟩:=List.getElem?_of_mem h1
  rw[Bool.or_eq_true] at h2
  exact splitV_tk l i t hi (h2.imp of_decide_eq_true of_decide_eq_true)
theorem namesV_len (l:List UInt8):(namesV l).length<=20001:=by
 unfold namesV
 have:=splitV_len l
 have h2:=List.length_filter_le (fun t:Tk=>decide (t.kind=1) || decide (t.kind=5)) (splitV l).1
 rw[List.length_cons,List.length_map];omega
theorem parse_wf (l:List UInt8):(∀x,x∈(parseV l).1.binds->WfX (namesV l) (dp fuel) (20002*20002) x.2.2.2.1)/\(parseV l).1.binds.length<=fuel:=by
 unfold parseV
 split
 ·rename_i q s1 h
  have:=program_wf (namesV_ok l) (splitV_len l) (show fuel+1<=most by decide) (Nat.zero_le _) h
  dsimp only
  split
  ·exact this
  ·exact⟨fun x hx=>by unfold emptyPg at hx;simp at hx,Nat.zero_le _⟩
 ·exact⟨fun x hx=>by unfold emptyPg at hx;simp at hx,Nat.zero_le _⟩
end Go.Proofs.Ytkopkbhpompmnaa.p
namespace Go.Proofs.Ytkopkbhpompmnaa.p
open Go.Proofs Go Go.Cn code
set_option linter.unusedSimpArgs false
set_option linter.unusedVariables false
variable {S:List Nm}
def frX:Nat->Ex->(Nm->Bool)->List Nm->List Nm
 |0,_,_,out=>out
 |n+1,.mk k _ nm _ l a b,bd,out=>
  if k=1 then (if bd nm || decide (nm∈out) then out else out++[nm])
  else if k=6 then l.foldl (fun o x=>frX n x (fun y=>bd y || decide (y=nm)) o) out
  else if k=7 then l.foldl (fun o x=>frX n x (fun y=>bd y || decide (y∈b.map (·.1))) o) (b.foldl (fun o x=>frX n x.2.2.2.1 (fun y=>bd y || decide (y∈b.map (·.1))) o) out)
  else a.foldl (fun o x=>frX n x.2.2.1 (fun y=>bd y || decide (y∈x.2.1)) o) (l.foldl (fun o x=>frX n x bd o) out)
def OutOk (S:List Nm)(out:List Nm):Prop:=out.Nodup/\∀x,x∈out->x∈S
theorem nodup_len:∀{l m:List Nm},l.Nodup->(∀x,x∈l->x∈m)->l.length<=m.length
 |[],m,_,_=>Nat.zero_le _
 |a::l,m,h,hm=>by
  rw[List.nodup_cons] at h
  have ha:=hm a (by simp)
  have:=nodup_len (l:=l) (m:=m.erase a) h.2 (fun x hx=>(List.mem_erase_of_ne (fun e:x=a=>h.1 (by rw[<-e];exact hx))).2 (hm x (by simp[hx])))
  have h2:=List.length_erase_of_mem ha
  have h3:0<m.length:=List.length_pos_of_mem ha
  rw[List.length_cons];omega
theorem OutOk.len {out:List Nm}(h:OutOk S out):out.length<=S.length:=nodup_len h.1 h.2
theorem OutOk.nil:OutOk S []:=⟨by simp,fun x hx=>by simp at hx⟩
theorem OutOk.fold {α:Type}{f:List Nm->α->List Nm}:∀{l:List α}{out:List Nm},(∀x,x∈l->∀o,OutOk S o->OutOk S (f o x))->OutOk S out->OutOk S (l.foldl f out)
 |[],out,hf,h=>h
 |x::l,out,hf,h=>by
  rw[List.foldl_cons]
  exact OutOk.fold (fun y hy=>hf y (by simp[hy])) (hf x (by simp) out h)
theorem fold_congr {α β:Type}{f g:β->α->β}:∀{l:List α}{o:β},(∀x,x∈l->∀o,f o x=g o x)->l.foldl f o=l.foldl g o
 |[],o,h=>rfl
 |x::l,o,h=>by
  rw[List.foldl_cons,List.foldl_cons,h x (by simp)]
  exact fold_congr fun y hy=>h y (by simp[hy])
theorem frX_ok:∀{n B:Nat}{e:Ex}{bd:Nm->Bool}{out:List Nm},WfX S n B e->OutOk S out->OutOk S (frX n e bd out)
 |0,B,e,bd,out,w,h=>by rw[WfX] at w;exact w.elim
 |n+1,B,.mk k p nm v l a b,bd,out,w,h=>by
  rw[WfX] at w
  obtain⟨w1,w2,w3,C,c1,c2,c3,w4,w5,w6⟩:=w
  rw[frX]
  split
  ·rename_i hk
   split
   ·exact h
   ·rename_i hn
    rw[Bool.or_eq_true,not_or] at hn
    have hn2:nm∉out:=fun hm=>hn.2 (decide_eq_true hm)
    refine⟨?_,fun x hx=>?_⟩
    ·rw[List.nodup_append]
     exact⟨h.1,by simp,fun a ha b hb=>by simp at hb;subst hb;exact fun e=>hn2 (e▸ha)⟩
    ·rw[List.mem_append] at hx
     rcases hx with hx|hx
     ·exact h.2 x hx
     ·simp only[List.mem_cons,List.not_mem_nil,or_false] at hx
      subst hx;exact (w1 hk).1
  ·split
   ·exact .fold (fun x hx o ho=>frX_ok (w4 x hx) ho) h
   ·split
    ·exact .fold (fun x hx o ho=>frX_ok (w4 x hx) ho) (.fold (fun x hx o ho=>frX_ok (w6 x hx) ho) h)
    ·exact .fold (fun x hx o ho=>frX_ok (w5 x hx).2 ho) (.fold (fun x hx o ho=>frX_ok (w4 x hx) ho) h)
theorem frX_congr:∀{n B:Nat}{e:Ex}{bd bd':Nm->Bool}{out:List Nm},WfX S n B e->(∀y,y∈S->bd y=bd' y)->frX n e bd out=frX n e bd' out
 |0,B,e,bd,bd',out,w,h=>by rw[WfX] at w;exact w.elim
 |n+1,B,.mk k p nm v l a b,bd,bd',out,w,h=>by
  rw[WfX] at w
  obtain⟨w1,w2,w3,C,c1,c2,c3,w4,w5,w6⟩:=w
  rw[frX,frX]
  by_cases h1:k=1
  ·rw[if_pos h1,if_pos h1,h nm (w1 h1).1]
  ·rw[if_neg h1,if_neg h1]
   by_cases h6:k=6
   ·rw[if_pos h6,if_pos h6]
    exact fold_congr fun x hx o=>frX_congr (w4 x hx) fun y hy=>by rw[h y hy]
   ·rw[if_neg h6,if_neg h6]
    by_cases h7:k=7
    ·rw[if_pos h7,if_pos h7]
     have e1:b.foldl (fun o x=>frX n x.2.2.2.1 (fun y=>bd y || decide (y∈b.map (·.1))) o) out=b.foldl (fun o x=>frX n x.2.2.2.1 (fun y=>bd' y || decide (y∈b.map (·.1))) o) out:=
      fold_congr fun x hx o=>frX_congr (w6 x hx) fun y hy=>by rw[h y hy]
     rw[e1]
     exact fold_congr fun x hx o=>frX_congr (w4 x hx) fun y hy=>by rw[h y hy]
    ·rw[if_neg h7,if_neg h7]
     have e1:l.foldl (fun o x=>frX n x bd o) out=l.foldl (fun o x=>frX n x bd' o) out:=fold_congr fun x hx o=>frX_congr (w4 x hx) h
     rw[e1]
     exact fold_congr fun x hx o=>frX_congr (w5 x hx).2 fun y hy=>by rw[h y hy]
theorem exsR_get (l:List Ex)(i:Nat):(exsR l)[i]?=(l[i]?).map exR:=by rw[exsR_eq,List.getElem?_map]
theorem alsR_get (l:List Al)(i:Nat):(alsR l)[i]?=(l[i]?).map alR:=by rw[alsR_eq,List.getElem?_map]
theorem fold_take {α β:Type}{f:β->α->β}{l:List α}{i:Nat}{x:α}{o:β}(h:l[i]?=some x):(l.take (i+1)).foldl f o=f ((l.take i).foldl f o) x:=by
 rw[List.take_add_one,h]
 show (l.take i++[x]).foldl f o=_
 rw[List.foldl_append];rfl
end Go.Proofs.Ytkopkbhpompmnaa.p
namespace Go.Proofs.Ytkopkbhpompmnaa.p
open Go.Proofs Go Go.Cn code
set_option linter.unusedSimpArgs false
set_option linter.unusedVariables false
variable {S:List Nm}
theorem texts_big (E:TypeId)(l:List Nm)(t:Tag)(hl:l.length<=1000000000)(K:Nat->Prop)(h:AH):ACall T K (.func 39) [.lst E (strC l) t] h fun v h'=>∃tag t',v=.lst 9 (strC l) tag/\Toks h.toks t' [(tag,9,1,0)]/\h'=h.tk t':=by
 refine ACall.retQ t39 fun hK=>?_
 simp only[u_C c39.eq_1,rn,pevA,seval,strC_len]
 refine WO.mksl0 (j:=.i64) (k:=.i64) (n:=l.length) rfl rfl (by omega) (by omega) fun b hb1 hb2=>?_
 simp only[rn,pevA,seval]
 refine aloop (α:=Nat) (fun k fr h1=>fr 0=.lst E (strC l) t/\fr 4=.int .i64 k/\k<=l.length/\∃tag t',fr 3=.lst 9 (strC (l.take k)) tag/\Toks h.toks t' [(tag,9,1,l.length-k)]/\h1=h.tk t') (fun k=>l.length-k) 0 ?_ ?_
 ·exact⟨rfl,rfl,Nat.zero_le _,_,_,rfl,.made 9 1 l.length hb1,rfl⟩
 ·rintro k fr h1 ⟨f0,f4,hk,tag,t',f3,hT,rfl⟩
  by_cases hlt:k<l.length
  ·have c1:decide ((k:Int)<(l.length:Int))=true:=decide_eq_true (by omega)
   obtain⟨a,ha⟩ : ∃a,l[k]?=some a:=⟨l[k],by simp[hlt]⟩
   have hget:(strC l)[k]?=some [.str a]:=by rw[strC_get,ha];rfl
   simp only[u_C l39_0.eq_1,rn,pevA,seval,f0,f4,f3,c1,hget,strC_len]
   refine WO.append (i:=0) hT rfl rfl rfl trivial (by decide) (by simp) rfl (.inl (by simp;omega)) (fun h=>by simp at h;omega) ?_ fun tag2 t2 hT2=>?_
   ·simp[big_eq,strC_len];omega
   have w:IntKind.i64.wrap ((k:Int)+1)=((k+1:Nat):Int):=by rw[wrap64 ⟨by omega,by omega⟩];rfl
   rw[strC_app]
   simp only[rn,pevA,seval,f0,f4,w]
   refine⟨k+1,by show l.length-(k+1)<l.length-k;omega,f0,rfl,hlt,tag2,t2,?_,?_,rfl⟩
   ·show AV.lst _ _ _=_;rw[List.take_add_one,ha];rfl
   ·have:l.length-k-1=l.length-(k+1):=by omega
    rw[<-this];exact hT2
  ·have hke:k=l.length:=by omega
   subst hke
   have c1:decide ((l.length:Int)<(l.length:Int))=false:=by simp
   simp only[u_C l39_0.eq_1,rn,pevA,seval,f0,f4,f3,c1,strC_len]
   rw[List.take_length]
   rw[Nat.sub_self] at hT
   exact⟨_,_,.refl _ _,fun b hb=>hK b hb,tag,t',rfl,hT,rfl⟩
def FrOK (S:List Nm)(n:Nat):Prop:=∀(B:Nat)(e:Ex),WfX S n B e->∀(out:List Nm)(E:TypeId)(tag:Tag)(bd:List Nm)(Eb:TypeId)(tb:Tag),(out≠[]->E=9)->OutOk S out->(bd≠[]->Eb=9)->bd.length+B<=1000000000->
 Pure T 42 [.lst E (strC out) tag,.lst Eb (strC bd) tb,.agg (exR e)] (.lst 9 (strC (frX n e (fun y=>decide (y∈bd)) out)) .no)
section
variable {n:Nat}(ih:FrOK S n)
include ih in
theorem frl_loop (B:Nat)(l:List Ex)(hl:∀x,x∈l->WfX S n B x)(bd:List Nm)(Eb:TypeId)(tb:Tag)(hEb:bd≠[]->Eb=9)(hbd:bd.length+B<=1000000000)(c0 c1 c2 c3 c5 c6:AV)(out0:List Nm)(K:Nat->Prop)(h:AH)(fr0:AFr)(R:CExit->AQ)
  (hR:∀(fr:AFr)(E:TypeId)(tag:Tag),fr 0=.lst E (strC (l.foldl (fun o x=>frX n x (fun y=>decide (y∈bd)) o) out0)) tag->(l.foldl (fun o x=>frX n x (fun y=>decide (y∈bd)) o) out0≠[]->E=9)->fr 1=.lst Eb (strC bd) tb->fr 5=.rptr [c0,c1,c2,c3,.lst 65 (exsR l) .no,c5,c6]->R (.exit 5) fr h)
  (E0:TypeId)(tag0:Tag)(hE0:out0≠[]->E0=9)(ho:OutOk S out0)(f0:fr0 0=.lst E0 (strC out0) tag0)(f1:fr0 1=.lst Eb (strC bd) tb)(f5:fr0 5=.rptr [c0,c1,c2,c3,.lst 65 (exsR l) .no,c5,c6])(f9:fr0 9=.int .i64 0) :
  W T K (.loop l42_4.toC) fr0 h R:=by
 refine W.boundR (t:=5) 4 f5 rfl fun hbig=>?_
 rw[exsR_len] at hbig
 refine aloop (α:=Nat) (fun i fr h1=>(∃E tag,fr 0=.lst E (strC ((l.take i).foldl (fun o x=>frX n x (fun y=>decide (y∈bd)) o) out0)) tag/\((l.take i).foldl (fun o x=>frX n x (fun y=>decide (y∈bd)) o) out0≠[]->E=9))/\fr 1=.lst Eb (strC bd) tb/\fr 5=.rptr [c0,c1,c2,c3,.lst 65 (exsR l) .no,c5,c6]/\fr 9=.int .i64 i/\i<=l.length/\h1=h) (fun i=>l.length-i) 0
  ⟨⟨E0,tag0,f0,hE0⟩,f1,f5,f9,Nat.zero_le _,rfl⟩ ?_
 clear f0 f1 f5 f9
 rintro i fr h1 ⟨⟨E,tag,f0,hE⟩,f1,f5,f9,hi,rfl⟩
 by_cases hlt:i<l.length
 ·have c1':decide ((i:Int)<(l.length:Int))=true:=decide_eq_true (by omega)
  have hw:IntKind.i64.wrap ((i:Int)+1)=((i+1:Nat):Int):=by unfold big at hbig;rw[wrap64 ⟨by omega,by omega⟩];rfl
  obtain⟨x,hx⟩ : ∃x,l[i]?=some x:=⟨l[i],by simp[hlt]⟩
  have hxl:x∈l:=List.mem_of_getElem? hx
  have hft:=fold_take (f:=fun o x=>frX n x (fun y=>decide (y∈bd)) o) (o:=out0) hx
  have hoo:OutOk S ((l.take i).foldl (fun o x=>frX n x (fun y=>decide (y∈bd)) o) out0):=.fold (fun y hy o ho=>frX_ok (hl y (List.mem_of_mem_take hy)) ho) ho
  have wx:=hl x hxl
  have hget:(exsR l)[i]?=some (exR x):=by rw[exsR_get,hx];rfl
  obtain⟨k,p,nm,v,xl,xa,xb⟩:=x
  simp only[exR] at hget
  simp only[u_C l42_4.eq_1,rn,pevA,seval,f0,f1,f5,f9,exsR_len,c1',hget]
  refine (ih B _ wx _ E tag bd Eb tb hE hoo hEb hbd).use ?_
  simp only[rn,pevA,seval,f0,f1,f5,f9,hw]
  exact⟨i+1,by show l.length-(i+1)<l.length-i;omega,⟨9,.no,by rw[hft];rfl,fun _=>rfl⟩,f1,f5,rfl,hlt,rfl⟩
 ·obtain rfl:i=l.length:=by omega
  have c1':decide ((l.length:Int)<(l.length:Int))=false:=by simp
  simp only[u_C l42_4.eq_1,rn,pevA,seval,f0,f1,f5,f9,exsR_len,c1']
  rw[List.take_length] at f0 hE
  exact hR _ E tag f0 hE f1 f5
end
end Go.Proofs.Ytkopkbhpompmnaa.p
namespace Go.Proofs.Ytkopkbhpompmnaa.p
open Go.Proofs Go Go.Cn code
set_option linter.unusedSimpArgs false
set_option linter.unusedVariables false
variable {S:List Nm}
theorem dec_app (bd vs:List Nm):(fun y:Nm=>decide (y∈bd++vs))=fun y=>decide (y∈bd) || decide (y∈vs):=by
 funext y;simp[List.mem_append,Bool.decide_or]
abbrev faF (n:Nat)(bd:List Nm)(o:List Nm)(x:Al):List Nm:=frX n x.2.2.1 (fun y=>decide (y∈bd) || decide (y∈x.2.1)) o
abbrev fbF (n:Nat)(bd:List Nm)(o:List Nm)(x:Bi):List Nm:=frX n x.2.2.2.1 (fun y=>decide (y∈bd)) o
section
variable {n:Nat}(hS:S.length<=20001)(ih:FrOK S n)
include ih in
theorem fra_loop (B D:Nat)(a:List Al)(ha:∀x,x∈a->B+x.2.1.length<=D/\WfX S n B x.2.2.1)(bd:List Nm)(Eb:TypeId)(tb:Tag)(hEb:bd≠[]->Eb=9)(hbd:bd.length+D<=1000000000)(c0 c1 c2 c3 c4 c6:AV)(out0:List Nm)(K:Nat->Prop)(h:AH)(fr0:AFr)(R:CExit->AQ)
  (hR:∀(fr:AFr)(E:TypeId)(tag:Tag),fr 0=.lst E (strC (a.foldl (faF n bd) out0)) tag->(a.foldl (faF n bd) out0≠[]->E=9)->R (.exit 7) fr h)
  (E0:TypeId)(tag0:Tag)(hE0:out0≠[]->E0=9)(ho:OutOk S out0)(f0:fr0 0=.lst E0 (strC out0) tag0)(f1:fr0 1=.lst Eb (strC bd) tb)(f5:fr0 5=.rptr [c0,c1,c2,c3,c4,.lst 135 (alsR a) .no,c6])(f10:fr0 10=.int .i64 0) :
  W T K (.loop l42_6.toC) fr0 h R:=by
 refine W.boundR (t:=5) 5 f5 rfl fun hbig=>?_
 rw[alsR_len] at hbig
 refine aloopD (α:=Nat) (fun i fr h1=>(∃E tag,fr 0=.lst E (strC ((a.take i).foldl (faF n bd) out0)) tag/\((a.take i).foldl (faF n bd) out0≠[]->E=9))/\fr 1=.lst Eb (strC bd) tb/\fr 5=.rptr [c0,c1,c2,c3,c4,.lst 135 (alsR a) .no,c6]/\fr 10=.int .i64 i/\i<=a.length/\h1=h) (fun i=>a.length-i) 0
  ⟨⟨E0,tag0,f0,hE0⟩,f1,f5,f10,Nat.zero_le _,rfl⟩ ?_
 clear f0 f1 f5 f10
 rintro i fr h1 ⟨⟨E,tag,f0,hE⟩,f1,f5,f10,hi,rfl⟩
 by_cases hlt:i<a.length
 ·have c1':decide ((i:Int)<(a.length:Int))=true:=decide_eq_true (by omega)
  have hw:IntKind.i64.wrap ((i:Int)+1)=((i+1:Nat):Int):=by unfold big at hbig;rw[wrap64 ⟨by omega,by omega⟩];rfl
  obtain⟨x,hx⟩ : ∃x,a[i]?=some x:=⟨a[i],by simp[hlt]⟩
  have hxl:x∈a:=List.mem_of_getElem? hx
  have hft:=fold_take (f:=faF n bd) (o:=out0) hx
  have hoo:OutOk S ((a.take i).foldl (faF n bd) out0):=.fold (fun y hy o ho=>frX_ok (ha y (List.mem_of_mem_take hy)).2 ho) ho
  have wx:=ha x hxl
  have hget:(alsR a)[i]?=some (alR x):=by rw[alsR_get,hx];rfl
  obtain⟨cn,vs,⟨k,p,nm,v,xl,xa,xb⟩,q⟩:=x
  simp only[alR,exR,List.cons_append,List.nil_append] at hget
  dsimp only at wx
  simp only[u_C l42_6.eq_1,e_dregion d42_5,u_L s42_5.eq_1,u_T g42_5.eq_1,rn,pevA,seval,f0,f1,f5,f10,alsR_len,c1',hget]
  refine (texts_big Eb bd tb (by omega) _ _).mono ?_
  rintro _ _ ⟨tag1,t1,rfl,hT1,rfl⟩
  simp only[e_dregion d42_5,u_L s42_5.eq_1,u_T g42_5.eq_1,rn,pevA,seval,f0,f1,f5,f10,hget]
  refine WO.append (i:=0) hT1 rfl rfl rfl trivial (by decide) (fun e he=>by obtain⟨z,_,rfl⟩:=List.mem_map.1 he;rfl) (flat_one fun e he=>by obtain⟨z,_,rfl⟩:=List.mem_map.1 he;rfl) (.inr rfl) (fun _=>?_) ?_ fun tag2 t2 hT2=>?_
  ·simp only[capOk,strC_len];omega
  ·simp only[big_eq,strC_len];omega
  have hrow:strC bd++strC vs=strC (bd++vs):=by simp[strC]
  rw[hrow]
  simp only[e_dregion d42_5,u_L s42_5.eq_1,u_T g42_5.eq_1,rn,pevA,seval,f0,f1,f5,f10,hget]
  have call:=ih B _ wx.2 _ E tag (bd++vs) 9 tag2 hE hoo (fun _=>rfl) (by rw[List.length_append];omega)
  rw[dec_app] at call
  refine call.use ?_
  simp only[rn,pevA,seval,f0,f1,f5,f10,hw]
  exact⟨i+1,by show a.length-(i+1)<a.length-i;omega,_,le_tk (AH.le_refl _) hT2.le,fun hk=>hk,⟨9,.no,by rw[hft];rfl,fun _=>rfl⟩,f1,f5,rfl,hlt,rfl⟩
 ·obtain rfl:i=a.length:=by omega
  have c1':decide ((a.length:Int)<(a.length:Int))=false:=by simp
  simp only[u_C l42_6.eq_1,rn,pevA,seval,f0,f1,f5,f10,alsR_len,c1']
  rw[List.take_length] at f0 hE
  exact hR _ E tag f0 hE
include ih in
theorem frb_loop (B:Nat)(bs:List Bi)(hb:∀x,x∈bs->WfX S n B x.2.2.2.1)(bd:List Nm)(Eb:TypeId)(tb:Tag)(hEb:bd≠[]->Eb=9)(hbd:bd.length+B<=1000000000)(c0 c1 c2 c3 c4 c5:AV)(out0:List Nm)(K:Nat->Prop)(h:AH)(fr0:AFr)(R:CExit->AQ)
  (hR:∀(fr:AFr)(E:TypeId)(tag:Tag),fr 0=.lst E (strC (bs.foldl (fbF n bd) out0)) tag->(bs.foldl (fbF n bd) out0≠[]->E=9)->fr 1=.lst Eb (strC bd) tb->fr 5=.rptr [c0,c1,c2,c3,c4,c5,.lst 67 (bisR bs) .no]->R (.exit 3) fr h)
  (E0:TypeId)(tag0:Tag)(hE0:out0≠[]->E0=9)(ho:OutOk S out0)(f0:fr0 0=.lst E0 (strC out0) tag0)(f1:fr0 1=.lst Eb (strC bd) tb)(f5:fr0 5=.rptr [c0,c1,c2,c3,c4,c5,.lst 67 (bisR bs) .no])(f8:fr0 8=.int .i64 0) :
  W T K (.loop l42_3.toC) fr0 h R:=by
 refine W.boundR (t:=5) 6 f5 rfl fun hbig=>?_
 rw[bisR_len] at hbig
 refine aloop (α:=Nat) (fun i fr h1=>(∃E tag,fr 0=.lst E (strC ((bs.take i).foldl (fbF n bd) out0)) tag/\((bs.take i).foldl (fbF n bd) out0≠[]->E=9))/\fr 1=.lst Eb (strC bd) tb/\fr 5=.rptr [c0,c1,c2,c3,c4,c5,.lst 67 (bisR bs) .no]/\fr 8=.int .i64 i/\i<=bs.length/\h1=h) (fun i=>bs.length-i) 0
  ⟨⟨E0,tag0,f0,hE0⟩,f1,f5,f8,Nat.zero_le _,rfl⟩ ?_
 clear f0 f1 f5 f8
 rintro i fr h1 ⟨⟨E,tag,f0,hE⟩,f1,f5,f8,hi,rfl⟩
 by_cases hlt:i<bs.length
 ·have c1':decide ((i:Int)<(bs.length:Int))=true:=decide_eq_true (by omega)
  have hw:IntKind.i64.wrap ((i:Int)+1)=((i+1:Nat):Int):=by unfold big at hbig;rw[wrap64 ⟨by omega,by omega⟩];rfl
  obtain⟨x,hx⟩ : ∃x,bs[i]?=some x:=⟨bs[i],by simp[hlt]⟩
  have hxl:x∈bs:=List.mem_of_getElem? hx
  have hft:=fold_take (f:=fbF n bd) (o:=out0) hx
  have hoo:OutOk S ((bs.take i).foldl (fbF n bd) out0):=.fold (fun y hy o ho=>frX_ok (hb y (List.mem_of_mem_take hy)) ho) ho
  have wx:=hb x hxl
  have hget:=bisR_get hx
  obtain⟨bn,bg,⟨sv,sc,⟨tk,tn,tl⟩⟩,⟨k,p,nm,v,xl,xa,xb⟩,q⟩:=x
  simp only[biR,schR,tyR,exR,List.cons_append,List.nil_append] at hget
  dsimp only at wx
  simp only[u_C l42_3.eq_1,rn,pevA,seval,f0,f1,f5,f8,bisR_len,c1',hget]
  refine (ih B _ wx _ E tag bd Eb tb hE hoo hEb hbd).use ?_
  simp only[rn,pevA,seval,f0,f1,f5,f8,hw]
  exact⟨i+1,by show bs.length-(i+1)<bs.length-i;omega,⟨9,.no,by rw[hft];rfl,fun _=>rfl⟩,f1,f5,rfl,hlt,rfl⟩
 ·obtain rfl:i=bs.length:=by omega
  have c1':decide ((bs.length:Int)<(bs.length:Int))=false:=by simp
  simp only[u_C l42_3.eq_1,rn,pevA,seval,f0,f1,f5,f8,bisR_len,c1']
  rw[List.take_length] at f0 hE
  exact hR _ E tag f0 hE f1 f5
end
theorem frn_loop (bs:List Bi)(bd:List Nm)(hbd:bd.length+bs.length<=1000000000)(c0 c1 c2 c3 c4 c5 v0:AV)(K:Nat->Prop)(h:AH)(t0:Nat->Option Tok)(fr0:AFr)(R:CExit->AQ)
  (hR:∀(fr:AFr)(tag:Tag)(t':Nat->Option Tok),fr 0=v0->fr 1=.lst 9 (strC (bd++bs.map (·.1))) tag->fr 5=.rptr [c0,c1,c2,c3,c4,c5,.lst 67 (bisR bs) .no]->(∀c k,t0 c=some k->t' c=some k)->R (.exit 1) fr (h.tk t'))
  (tag0:Tag)(t1:Nat->Option Tok)(f0:fr0 0=v0)(f1:fr0 1=.lst 9 (strC bd) tag0)(hT:Toks t0 t1 [(tag0,9,1,0)])(f5:fr0 5=.rptr [c0,c1,c2,c3,c4,c5,.lst 67 (bisR bs) .no])(f7:fr0 7=.int .i64 0) :
  W T K (.loop l42_2.toC) fr0 (h.tk t1) R:=by
 refine aloop (α:=Nat) (fun i fr h1=>fr 0=v0/\fr 5=.rptr [c0,c1,c2,c3,c4,c5,.lst 67 (bisR bs) .no]/\fr 7=.int .i64 i/\i<=bs.length/\∃tag t',fr 1=.lst 9 (strC (bd++(bs.take i).map (·.1))) tag/\Toks t0 t' [(tag,9,1,0)]/\h1=h.tk t') (fun i=>bs.length-i) 0
  ⟨f0,f5,f7,Nat.zero_le _,tag0,t1,by rw[f1];simp,hT,rfl⟩ ?_
 clear f0 f1 f5 f7 hT
 rintro i fr h1 ⟨f0,f5,f7,hi,tag,t',f1,hT,rfl⟩
 by_cases hlt:i<bs.length
 ·have c1':decide ((i:Int)<(bs.length:Int))=true:=decide_eq_true (by omega)
  have hw:IntKind.i64.wrap ((i:Int)+1)=((i+1:Nat):Int):=by rw[wrap64 ⟨by omega,by omega⟩];rfl
  obtain⟨x,hx⟩ : ∃x,bs[i]?=some x:=⟨bs[i],by simp[hlt]⟩
  have hmap:(bs.take (i+1)).map (·.1)=(bs.take i).map (·.1)++[x.1]:=by rw[List.take_add_one,hx,List.map_append];rfl
  have hlen:((bs.take i).map (·.1)).length=i:=by simp;omega
  have hget:=bisR_get hx
  obtain⟨bn,bg,⟨sv,sc,⟨tk,tn,tl⟩⟩,⟨k,p,nm,v,xl,xa,xb⟩,q⟩:=x
  simp only[biR,schR,tyR,exR,List.cons_append,List.nil_append] at hget
  simp only[u_C l42_2.eq_1,rn,pevA,seval,f0,f1,f5,f7,bisR_len,c1',hget]
  refine WO.append (i:=0) hT rfl rfl rfl trivial (by decide) (by simp) rfl (.inr rfl) (fun _=>?_) ?_ fun tag2 t2 hT2=>?_
  ·simp only[capOk,strC_len,List.length_append,hlen,List.length_cons,List.length_nil];omega
  ·simp only[big_eq,strC_len,List.length_append,hlen,List.length_cons,List.length_nil];omega
  rw[strC_app]
  simp only[rn,pevA,seval,f0,f1,f5,f7,hw]
  exact⟨i+1,by show bs.length-(i+1)<bs.length-i;omega,f0,f5,rfl,hlt,tag2,t2,by rw[hmap, <-List.append_assoc];rfl,hT2,rfl⟩
 ·obtain rfl:i=bs.length:=by omega
  have c1':decide ((bs.length:Int)<(bs.length:Int))=false:=by simp
  simp only[u_C l42_2.eq_1,rn,pevA,seval,f0,f1,f5,f7,bisR_len,c1']
  rw[List.take_length] at f1
  exact hR _ tag t' f0 f1 f5 hT.le
end Go.Proofs.Ytkopkbhpompmnaa.p
namespace Go.Proofs.Ytkopkbhpompmnaa.p
open Go.Proofs Go Go.Cn code
set_option linter.unusedSimpArgs false
set_option linter.unusedVariables false
variable {S:List Nm}
abbrev flF (n:Nat)(bd:List Nm)(o:List Nm)(x:Ex):List Nm:=frX n x (fun y=>decide (y∈bd)) o
section
variable {n:Nat}(ih:FrOK S n)
include ih in
theorem fr_tail (B D:Nat)(hBD:B<=D)(l:List Ex)(a:List Al)(hl:∀x,x∈l->WfX S n B x)(ha:∀x,x∈a->B+x.2.1.length<=D/\WfX S n B x.2.2.1)(bd:List Nm)(Eb:TypeId)(tb:Tag)(hEb:bd≠[]->Eb=9)(hbl:bd.length+B<=1000000000)(hba:a≠[]->bd.length+D<=1000000000)(c0 c1 c2 c3 c6:AV)(out0:List Nm)(K:Nat->Prop)(h m:AH)(hle:h.le m)(fr:AFr)
  (E0:TypeId)(tag0:Tag)(hE0:out0≠[]->E0=9)(ho:OutOk S out0)(f0:fr 0=.lst E0 (strC out0) tag0)(f1:fr 1=.lst Eb (strC bd) tb)(f5:fr 5=.rptr [c0,c1,c2,c3,.lst 65 (exsR l) .no,.lst 135 (alsR a) .no,c6]) :
  wpC T K tl42_0 fr m (Ret [.tmp 6] (.lst 9 (strC (a.foldl (faF n bd) (l.foldl (flF n bd) out0))) .no) h):=by
 simp only[u_C tl42_0.eq_1,rn,pevA,seval,f0,f1,f5]
 refine frl_loop ih B l hl bd Eb tb hEb hbl c0 c1 c2 c3 (.lst 135 (alsR a) .no) c6 out0 K m _ _ (fun fr E tag f0 hE f1 f5=>?hR1) E0 tag0 hE0 ho ?a0_1 ?a1_1 ?a5_1 ?a9_1
 case a0_1=>exact f0
 case a1_1=>exact f1
 case a5_1=>exact f5
 case a9_1=>rfl
 have ho2:OutOk S (l.foldl (flF n bd) out0):=.fold (fun y hy o ho=>frX_ok (hl y hy) ho) ho
 by_cases hae:a=[]
 ·subst hae
  simp only[rn,pevA,seval,f0,f1,f5]
  refine fra_loop ih 0 0 [] (fun x hx=>by simp at hx) bd Eb tb hEb (by omega) c0 c1 c2 c3 (.lst 65 (exsR l) .no) c6 _ K m _ _ (fun fr E tag f0 hE=>?hR2) E tag hE ho2 ?a0_2 ?a1_2 ?a5_2 ?a9_2
  case a0_2=>exact f0
  case a1_2=>exact f1
  case a5_2=>exact f5
  case a9_2=>rfl
  simp only[rn,pevA,seval,f0]
  exact⟨.lstE fun h=>hE (strC_ne h),hle⟩
 ·simp only[rn,pevA,seval,f0,f1,f5]
  refine fra_loop ih B D a ha bd Eb tb hEb (hba hae) c0 c1 c2 c3 (.lst 65 (exsR l) .no) c6 _ K m _ _ (fun fr E tag f0 hE=>?hR3) E tag hE ho2 ?a0_3 ?a1_3 ?a5_3 ?a9_3
  case a0_3=>exact f0
  case a1_3=>exact f1
  case a5_3=>exact f5
  case a9_3=>rfl
  simp only[rn,pevA,seval,f0]
  exact⟨.lstE fun h=>hE (strC_ne h),hle⟩
end
theorem fr_all (hS:S.length<=20001):∀n:Nat,FrOK S n
 |0=>fun B e w=>by rw[WfX] at w;exact w.elim
 |n+1=>by
  have ih:=fr_all hS n
  rintro B ⟨k,p,nm,v,l,a,b⟩ w out E tag bd Eb tb hE ho hEb hB K h
  rw[WfX] at w
  obtain⟨w1,w2,w3,C,c1,c2,c3,w4,w5,w6⟩:=w
  have hol:=ho.len
  refine ACall.ret t42 fun hK=>?_
  simp only[u_C c42.eq_1,rn,pevA,seval,exR]
  rw[frX]
  by_cases h1:k=1
  ·obtain⟨wn,rfl,rfl⟩:=w1 h1
   have e1:decide (k=1)=true:=decide_eq_true h1
   rw[if_pos h1]
   simp only[rn,pevA,seval,e1]
   refine (has_ok Eb bd tb nm).use ?_
   cases hb:decide (nm∈bd) with
   |true=>
    rw[Bool.true_or,if_pos rfl]
    simp only[rn,pevA,seval]
    exact fr_tail ih 0 0 (Nat.le_refl _) [] [] (fun x hx=>by simp at hx) (fun x hx=>by simp at hx) bd Eb tb hEb (by omega) (fun _=>by omega) _ _ _ _ _ out K h h (AH.le_refl _) _ E tag hE ho (by rfl) (by rfl) (by rfl)
   |false=>
    rw[Bool.false_or]
    simp only[rn,pevA,seval]
    refine (has_ok E out tag nm).use ?_
    cases ho2:decide (nm∈out) with
    |true=>
     rw[if_pos rfl]
     simp only[rn,pevA,seval]
     exact fr_tail ih 0 0 (Nat.le_refl _) [] [] (fun x hx=>by simp at hx) (fun x hx=>by simp at hx) bd Eb tb hEb (by omega) (fun _=>by omega) _ _ _ _ _ out K h h (AH.le_refl _) _ E tag hE ho (by rfl) (by rfl) (by rfl)
    |false=>
     rw[if_neg (by decide)]
     have hn:=of_decide_eq_false ho2
     simp only[e_dregion d42_0,u_L s42_0.eq_1,u_T g42_0.eq_1,rn,pevA,seval]
     refine (texts_big E out tag (by omega) _ _).mono ?_
     rintro _ _ ⟨tag1,t1,rfl,hT1,rfl⟩
     simp only[e_dregion d42_0,u_L s42_0.eq_1,u_T g42_0.eq_1,rn,pevA,seval]
     refine WO.append (i:=0) hT1 rfl rfl rfl trivial (by decide) (by simp) rfl (.inr rfl) (fun _=>?_) ?_ fun tag2 t2 hT2=>?_
     ·simp only[capOk,strC_len,List.length_cons,List.length_nil];omega
     ·simp only[big_eq,strC_len,List.length_cons,List.length_nil];omega
     rw[strC_app]
     simp only[e_dregion d42_0,u_L s42_0.eq_1,u_T g42_0.eq_1,rn,pevA,seval]
     have hoo:OutOk S (out++[nm]):=by
      refine⟨?_,fun x hx=>?_⟩
      ·rw[List.nodup_append]
       exact⟨ho.1,by simp,fun a ha b hb=>by simp at hb;subst hb;exact fun e=>hn (e▸ha)⟩
      ·rw[List.mem_append] at hx
       rcases hx with hx|hx
       ·exact ho.2 x hx
       ·simp only[List.mem_cons,List.not_mem_nil,or_false] at hx
        subst hx;exact wn
     exact fr_tail ih 0 0 (Nat.le_refl _) [] [] (fun x hx=>by simp at hx) (fun x hx=>by simp at hx) bd Eb tb hEb (by omega) (fun _=>by omega) _ _ _ _ _ (out++[nm]) K h _ (le_tk (AH.le_refl _) hT2.le) _ 9 tag2 (fun _=>rfl) hoo (by rfl) (by rfl) (by rfl)
  ·have e1:decide (k=1)=false:=decide_eq_false h1
   rw[if_neg h1]
   by_cases h6:k=6
   ·have e6:decide (k=6)=true:=decide_eq_true h6
    obtain rfl:=w2 h6
    have c2:=c2 h6
    rw[if_pos h6]
    simp only[e_dregion d42_1,u_L s42_1.eq_1,u_T g42_1.eq_1,rn,pevA,seval,e1,e6]
    refine (texts_big Eb bd tb (by omega) _ _).mono ?_
    rintro _ _ ⟨tag1,t1,rfl,hT1,rfl⟩
    simp only[e_dregion d42_1,u_L s42_1.eq_1,u_T g42_1.eq_1,rn,pevA,seval]
    refine WO.append (i:=0) hT1 rfl rfl rfl trivial (by decide) (by simp) rfl (.inr rfl) (fun _=>?_) ?_ fun tag2 t2 hT2=>?_
    ·simp only[capOk,strC_len,List.length_cons,List.length_nil];omega
    ·simp only[big_eq,strC_len,List.length_cons,List.length_nil];omega
    rw[strC_app]
    simp only[e_dregion d42_1,u_L s42_1.eq_1,u_T g42_1.eq_1,rn,pevA,seval]
    have eb:(fun y:Nm=>decide (y∈bd) || decide (y=nm))=fun y=>decide (y∈bd++[nm]):=by rw[dec_app];funext y;simp
    rw[eb]
    exact fr_tail ih C C (Nat.le_refl _) l [] w4 (fun x hx=>by simp at hx) (bd++[nm]) 9 tag2 (fun _=>rfl) (by simp;omega) (fun e=>absurd rfl e) _ _ _ _ _ out K h _ (le_tk (AH.le_refl _) hT2.le) _ E tag hE ho (by rfl) (by rfl) (by rfl)
   ·have e6:decide (k=6)=false:=decide_eq_false h6
    rw[if_neg h6]
    by_cases h7:k=7
    ·have e7:decide (k=7)=true:=decide_eq_true h7
     obtain rfl:=w3 h7
     have c3:=c3 h7
     rw[if_pos h7]
     simp only[rn,pevA,seval,e1,e6,e7]
     refine (texts_big Eb bd tb (by omega) _ _).mono ?_
     rintro _ _ ⟨tag1,t1,rfl,hT1,rfl⟩
     simp only[rn,pevA,seval]
     refine frn_loop b bd (by omega) (.int .i64 k) (.int .i64 p) (.str nm) (.int .i64 v) (.lst 65 (exsR l) .no) (.lst 135 (alsR []) .no) (.lst E (strC out) tag) K h h.toks _ _ (fun fr tag2 t2 f0 f1 f5 ht2=>?hR4) tag1 t1 ?a0_4 ?a1_4 hT1 ?a5_4 ?a7_4
     case a0_4=>rfl
     case a1_4=>rfl
     case a5_4=>rfl
     case a7_4=>rfl
     have eb:(fun y:Nm=>decide (y∈bd) || decide (y∈b.map (·.1)))=fun y=>decide (y∈bd++b.map (·.1)):=by rw[dec_app]
     rw[eb]
     have hbl:(bd++b.map (·.1)).length+C<=1000000000:=by simp;omega
     generalize bd++b.map (·.1)=bd2 at f1 hbl ⊢
     simp only[rn,pevA,seval,f0,f1,f5]
     refine frb_loop ih C b w6 bd2 9 tag2 (fun _=>rfl) hbl (.int .i64 k) (.int .i64 p) (.str nm) (.int .i64 v) (.lst 65 (exsR l) .no) (.lst 135 (alsR []) .no) out K _ _ _ (fun fr E3 tag3 f0 hE3 f1 f5=>?hR5) E tag hE ho ?a0_5 ?a1_5 ?a5_5 ?a8_5
     case a0_5=>exact f0
     case a1_5=>exact f1
     case a5_5=>exact f5
     case a8_5=>rfl
     simp only[rn,pevA,seval,f0,f1,f5]
     exact fr_tail ih C C (Nat.le_refl _) l [] w4 (fun x hx=>by simp at hx) bd2 9 tag2 (fun _=>rfl) hbl (fun e=>absurd rfl e) _ _ _ _ _ _ K h _ (le_tk (AH.le_refl _) ht2) _ E3 tag3 hE3 (.fold (fun y hy o ho=>frX_ok (w6 y hy) ho) ho) (by exact f0) (by exact f1) (by exact f5)
    ·have e7:decide (k=7)=false:=decide_eq_false h7
     rw[if_neg h7]
     simp only[rn,pevA,seval,e1,e6,e7]
     exact fr_tail ih C B c1 l a w4 w5 bd Eb tb hEb (by omega) (fun _=>hB) _ _ _ _ _ out K h h (AH.le_refl _) _ E tag hE ho (by rfl) (by rfl) (by rfl)
end Go.Proofs.Ytkopkbhpompmnaa.p
namespace Go.Proofs.Ytkopkbhpompmnaa.p
open Go.Proofs Go Go.Cn code
set_option linter.unusedSimpArgs false
set_option linter.unusedVariables false
variable {S:List Nm}
abbrev freeV (n:Nat)(e:Ex):List Nm:=frX n e (fun _=>false) []
theorem FreeExpr_ok (hS:S.length<=20001){n B:Nat}{e:Ex}(w:WfX S n B e)(hB:B<=1000000000):Pure T 24 [.agg (exR e)] (.lst 9 (strC (freeV n e)) .no):=by
 intro K h
 refine ACall.ret t24 fun hK=>?_
 have c:=fr_all hS n B e w [] 0 .nil [] 0 .nil (fun h=>absurd rfl h) .nil (fun h=>absurd rfl h) (by simpa using hB)
 have eb:(fun y:Nm=>decide (y∈([]:List Nm)))=fun _=>false:=by funext y;simp
 rw[eb] at c
 obtain⟨k,p,nm,v,l,a,b⟩:=e
 simp only[u_C c24.eq_1,rn,pevA,seval,exR]
 refine c.use ?_
 simp only[rn,pevA,seval]
 exact⟨.refl _,AH.le_refl _⟩
def needsU (free:List Nm)(bs:List Bi):Nat->List Int
 |0=>[]
 |i+1=>needsU free bs i++(match bs[i]? with|some b=>if b.2.1=false/\b.1∈free then [(i:Int)] else []|none=>[])
theorem needsU_len (free:List Nm)(bs:List Bi):∀i,(needsU free bs i).length<=i
 |0=>Nat.le_refl _
 |i+1=>by
  have:=needsU_len free bs i
  rw[needsU,List.length_append]
  split
  ·split
   ·simp;omega
   ·simp;omega
  ·simp;omega
theorem itC_app (l:List Int)(n:Int):itC l++[[.int .i64 n]]=itC (l++[n]):=by simp[itC]
theorem refNeeds_ok (hS:S.length<=20001){n B:Nat}(bs:List Bi)(hbs:bs.length<=1000000)(i:Nat)(b:Bi)(hi:bs[i]?=some b)(w:WfX S n B b.2.2.2.1)(hB:B<=1000000000):Pure T 10 [.lst 67 (bisR bs) .no,.int .i64 (i:Nat)] (.lst 3 (itC (needsU (freeV n b.2.2.2.1) bs bs.length)) .no):=by
 intro K h
 refine ACall.ret t10 fun hK=>?_
 have hlt:i<bs.length:=by
  rcases Nat.lt_or_ge i bs.length with h|h
  ·exact h
  ·rw[List.getElem?_eq_none h] at hi;cases hi
 have hget:=bisR_get hi
 have call:=FreeExpr_ok hS w hB
 generalize freeV n b.2.2.2.1=free at call ⊢
 obtain⟨bn,bg,⟨sv,sc,⟨tk,tn,tl⟩⟩,⟨k,p,nm,v,xl,xa,xb⟩,q⟩:=b
 simp only[biR,schR,tyR,exR,List.cons_append,List.nil_append] at hget
 simp only[u_C c10.eq_1,rn,pevA,seval,hget]
 refine call.use ?_
 simp only[rn,pevA,seval]
 refine aloop (α:=Nat) (fun k fr h1=>fr 0=.lst 67 (bisR bs) .no/\fr 5=.lst 9 (strC free) .no/\fr 7=.int .i64 k/\k<=bs.length/\∃E tag t',fr 6=.lst E (itC (needsU free bs k)) tag/\(itC (needsU free bs k)≠[]->E=3)/\Toks h.toks t' [(tag,3,1,0)]/\h1=h.tk t') (fun k=>bs.length-k) 0
  ⟨rfl,rfl,rfl,Nat.zero_le _,0,.nil,h.toks,rfl,fun h=>absurd rfl h,.one _ _ _,rfl⟩ ?_
 clear hget
 rintro k fr h1 ⟨f0,f5,f7,hk,E,tag,t',f6,hE,hT,rfl⟩
 by_cases hkl:k<bs.length
 ·have c1:decide ((k:Int)<(bs.length:Int))=true:=decide_eq_true (by omega)
  have hw:IntKind.i64.wrap ((k:Int)+1)=((k+1:Nat):Int):=by rw[wrap64 ⟨by omega,by omega⟩];rfl
  obtain⟨x,hx⟩ : ∃x,bs[k]?=some x:=⟨bs[k],by simp[hkl]⟩
  have hn:needsU free bs (k+1)=needsU free bs k++(if x.2.1=false/\x.1∈free then [(k:Int)] else []):=by rw[needsU,hx]
  have hln:=needsU_len free bs k
  have hget:=bisR_get hx
  obtain⟨bn,bg,⟨sv,sc,⟨tk,tn,tl⟩⟩,⟨k2,p,nm,v,xl,xa,xb⟩,q⟩:=x
  simp only[biR,schR,tyR,exR,List.cons_append,List.nil_append] at hget
  dsimp only at hn
  cases hg:bg with
  |true=>
   subst hg
   rw[if_neg (by simp),List.append_nil] at hn
   simp only[u_C l10_0.eq_1,rn,pevA,seval,f0,f5,f6,f7,bisR_len,c1,hget,hw]
   exact⟨k+1,by show bs.length-(k+1)<bs.length-k;omega,f0,f5,rfl,hkl,E,tag,t',by rw[hn];exact f6,by rw[hn];exact hE,hT,rfl⟩
  |false=>
   subst hg
   simp only[u_C l10_0.eq_1,rn,pevA,seval,f0,f5,f6,f7,bisR_len,c1,hget]
   refine (has_ok 9 free .no bn).use ?_
   cases hm:decide (bn∈free) with
   |true=>
    rw[if_pos ⟨rfl,of_decide_eq_true hm⟩] at hn
    simp only[rn,pevA,seval,f0,f5,f6,f7]
    refine WO.append (i:=0) hT rfl rfl rfl trivial (by decide) (by simp) rfl (.inr rfl) (fun _=>?_) ?_ fun tag2 t2 hT2=>?_
    ·simp only[capOk,itC_len,List.length_cons,List.length_nil];omega
    ·simp only[big_eq,itC_len,List.length_cons,List.length_nil];omega
    rw[itC_app]
    simp only[rn,pevA,seval,f0,f5,f6,f7,hw]
    exact⟨k+1,by show bs.length-(k+1)<bs.length-k;omega,f0,f5,rfl,hkl,3,tag2,t2,by rw[hn];rfl,fun _=>rfl,hT2,rfl⟩
   |false=>
    rw[if_neg (fun h=>of_decide_eq_false hm h.2),List.append_nil] at hn
    simp only[rn,pevA,seval,f0,f5,f6,f7,hw]
    exact⟨k+1,by show bs.length-(k+1)<bs.length-k;omega,f0,f5,rfl,hkl,E,tag,t',by rw[hn];exact f6,by rw[hn];exact hE,hT,rfl⟩
 ·obtain rfl:k=bs.length:=by omega
  have c1:decide ((bs.length:Int)<(bs.length:Int))=false:=by simp
  simp only[u_C l10_0.eq_1,rn,pevA,seval,f0,f5,f6,f7,bisR_len,c1]
  exact⟨.lstE hE,le_tk (AH.le_refl _) hT.le⟩
end Go.Proofs.Ytkopkbhpompmnaa.p
namespace Go.Proofs.Ytkopkbhpompmnaa.p
open Go.Proofs Go Go.Cn code
set_option linter.unusedSimpArgs false
set_option linter.unusedVariables false
variable {S:List Nm}
def cmC (m:List (Nm×Int)):List (AV×AV):=m.map fun x=>(.str x.1,.int .i64 x.2)
def cmG:List (Nm×Int)->Nm->Int
 |[],_=>0
 |(k,v)::l,y=>if y=k then v else cmG l y
def cmP:List (Nm×Int)->Nm->Int->List (Nm×Int)
 |[],y,v=>[(y,v)]
 |(k,w)::l,y,v=>if y=k then (y,v)::l else (k,w)::cmP l y v
theorem cmG_P (y:Nm)(v:Int)(z:Nm):∀m:List (Nm×Int),cmG (cmP m y v) z=if z=y then v else cmG m z
 |[]=>rfl
 |(k,w)::l=>by
  rw[cmP]
  split
  ·rename_i e
   subst e
   rw[cmG,cmG]
   split<;>rfl
  ·rename_i e
   rw[cmG,cmG,cmG_P y v z l]
   by_cases h1:z=k
   ·rw[if_pos h1,if_pos h1,if_neg (fun h2=>e (by rw[<-h2,h1]))]
   ·rw[if_neg h1,if_neg h1]
theorem cm_look (y:Nm):∀m:List (Nm×Int),lookA (.str y) (cmC m)=some (some (.int .i64 (cmG m y)))\/lookA (.str y) (cmC m)=some none/\cmG m y=0
 |[]=>.inr ⟨rfl,rfl⟩
 |(k,v)::l=>by
  rw[cmG]
  show (match keyEqA (.str y) (.str k) with|some true=>_|some false=>_|none=>_)=_\/(match keyEqA (.str y) (.str k) with|some true=>_|some false=>_|none=>_)=_/\_
  simp only[keyEqA]
  by_cases e:y=k
  ·rw[if_pos e]
   simp only[e,decide_true]
   exact .inl trivial
  ·rw[if_neg e]
   simp only[e,decide_false]
   exact cm_look y l
theorem cm_put (y:Nm)(v:Int):∀m:List (Nm×Int),mputA (.str y) (.int .i64 v) (cmC m)=some (cmC (cmP m y v))
 |[]=>rfl
 |(k,w)::l=>by
  show (match keyEqA (.str y) (.str k) with|some true=>_|some false=>_|none=>_)=_
  rw[cmP]
  simp only[keyEqA]
  by_cases e:y=k
  ·rw[if_pos e]
   simp only[e,decide_true];rfl
  ·rw[if_neg e]
   simp only[e,decide_false]
   have:=cm_put y v l
   show (match mputA (.str y) (.int .i64 v) (cmC l) with|some r=>_|none=>_)=_
   rw[this];rfl
def seC (s:List Nm):List (AV×AV):=s.map fun n=>(.str n,.bool true)
theorem se_look (n:Nm):∀s,lookA (.str n) (seC s)=some (if n∈s then some (.bool true) else none)
 |[]=>rfl
 |k::l=>by
  show (match keyEqA (.str n) (.str k) with|some true=>_|some false=>_|none=>_)=_
  simp only[keyEqA]
  by_cases e:n=k
  ·simp[e]
  ·simp only[e,decide_false,List.mem_cons,false_or];exact se_look n l
theorem se_put (n:Nm):∀s,n∉s->mputA (.str n) (.bool true) (seC s)=some (seC (s++[n]))
 |[],_=>rfl
 |k::l,h=>by
  show (match keyEqA (.str n) (.str k) with|some true=>_|some false=>_|none=>_)=_
  simp only[List.mem_cons,not_or] at h
  simp only[keyEqA,h.1,decide_false]
  have:=se_put n l h.2
  show (match mputA (.str n) (.bool true) (seC l) with|some r=>_|none=>_)=_
  rw[this];rfl
structure FrM (h:AH)(b p q:Nat)(m:List (Nm×Int))(out:List Nm)(E:TypeId)(tag:Tag):Prop where
 o:h.objs b=some (.cells [.map p,.map q,.lst E (strC out) tag] 100)
 m:h.objs p=some (.map (cmC m))
 s:h.objs q=some (.map (seC out))
def Same (b p q:Nat)(h h':AH):Prop:=∀n,n≠b->n≠p->n≠q->h'.objs n=h.objs n
theorem Same.refl {b p q:Nat}(h:AH):Same b p q h h:=fun _ _ _ _=>rfl
theorem Same.trans {b p q:Nat}{h h1 h2:AH}(a:Same b p q h h1)(c:Same b p q h1 h2):Same b p q h h2:=fun n x y z=>(c n x y z).trans (a n x y z)
theorem Same.kok {K:Nat->Prop}{b p q:Nat}{h h':AH}(s:Same b p q h h')(hK:KOk K h)(h1:¬K b)(h2:¬K p)(h3:¬K q):KOk K h':=fun n hn=>by
 obtain⟨o,ho⟩:=hK n hn
 exact⟨o,by rw[s n (fun e=>h1 (e▸hn)) (fun e=>h2 (e▸hn)) (fun e=>h3 (e▸hn))];exact ho⟩
theorem FrM.setm {h:AH}{b p q:Nat}{m m':List (Nm×Int)}{out:List Nm}{E:TypeId}{tag:Tag}(f:FrM h b p q m out E tag)(h1:b≠p)(h2:q≠p):FrM (h.set p (.map (cmC m'))) b p q m' out E tag:=
 ⟨by rw[AH.set_ne _ _ h1];exact f.o,AH.set_same _ _ _,by rw[AH.set_ne _ _ h2];exact f.s⟩
theorem Same.setm {h h0:AH}{b p q:Nat}{o:AO}(s:Same b p q h0 h):Same b p q h0 (h.set p o):=fun n x y z=>by rw[AH.set_ne _ _ y];exact s n x y z
theorem count_take {ns:List Nm}{i:Nat}{x:Nm}(h:ns[i]?=some x)(y:Nm):(ns.take (i+1)).count y=(ns.take i).count y+if y=x then 1 else 0:=by
 rw[List.take_add_one,h]
 show (ns.take i++[x]).count y=_
 rw[List.count_append,List.count_singleton]
 by_cases e:y=x
 ·simp[e]
 ·have e2:¬x=y:=fun h=>e h.symm
  simp[e,e2]
theorem count_le_take (ns:List Nm)(i:Nat)(y:Nm):(ns.take i).count y<=ns.length:=Nat.le_trans List.count_le_length (by rw[List.length_take];omega)
theorem inc_loop (K:Nat->Prop)(h0:AH)(b p q:Nat)(n1:b≠p)(n2:q≠p)(hkp:¬K p)(ns:List Nm)(En:TypeId)(tn:Tag)(m:List (Nm×Int))(hns:ns.length<=1000000000)(hm:∀y,0<=cmG m y/\cmG m y<=1000000000)(out:List Nm)(E:TypeId)(tag:Tag)(hM:FrM h0 b p q m out E tag)(fr0:AFr)(R:CExit->AQ)
  (hR:∀(fr:AFr)(h1:AH)(m':List (Nm×Int)),fr 0=.ptr b 0->fr 1=fr0 1->fr 2=fr0 2->FrM h1 b p q m' out E tag->Same b p q h0 h1->h1.toks=h0.toks->(∀y,cmG m' y=cmG m y+ns.count y)->R (.exit 0) fr h1)
  (f0:fr0 0=.ptr b 0)(f10:fr0 10=.lst En (strC ns) tn)(f11:fr0 11=.int .i64 (ns.length:Nat))(f12:fr0 12=.int .i64 0) :
  W T K (.loop l61_0.toC) fr0 h0 R:=by
 refine aloop (α:=Nat) (fun i fr h1=>fr 0=.ptr b 0/\fr 1=fr0 1/\fr 2=fr0 2/\fr 10=.lst En (strC ns) tn/\fr 11=.int .i64 (ns.length:Nat)/\fr 12=.int .i64 i/\i<=ns.length/\∃m',FrM h1 b p q m' out E tag/\Same b p q h0 h1/\h1.toks=h0.toks/\∀y,cmG m' y=cmG m y+(ns.take i).count y) (fun i=>ns.length-i) 0
  ⟨f0,rfl,rfl,f10,f11,f12,Nat.zero_le _,m,hM,.refl _,rfl,fun y=>by simp⟩ ?_
 clear f10 f11 f12
 rintro i fr h1 ⟨f0,f1,f2,f10,f11,f12,hi,m',hM,hS,ht,hc⟩
 by_cases hlt:i<ns.length
 ·have c1:decide ((i:Int)<(ns.length:Int))=true:=decide_eq_true (by omega)
  have hw:IntKind.i64.wrap ((i:Int)+1)=((i+1:Nat):Int):=by rw[wrap64 ⟨by omega,by omega⟩];rfl
  obtain⟨x,hx⟩ : ∃x,ns[i]?=some x:=⟨ns[i],by simp[hlt]⟩
  have hget:(strC ns)[i]?=some [.str x]:=by rw[strC_get,hx];rfl
  have e1:=hM.o
  have e2:=hM.m
  have hcx:=hc x
  have hcl:=count_le_take ns i x
  have hmx:=hm x
  have hw2:IntKind.i64.wrap (cmG m' x+1)=cmG m' x+1:=by rw[wrap64 ⟨by omega,by omega⟩]
  have hput:=cm_put x (cmG m' x+1) m'
  have fin:∀y,cmG (cmP m' x (cmG m' x+1)) y=cmG m y+(ns.take (i+1)).count y:=by
   intro y
   rw[cmG_P,count_take hx,hc y]
   split
   ·rename_i e;subst e;rw[hcx];push_cast;omega
   ·simp
  rcases cm_look x m' with hl|⟨hl,h0x⟩
  ·simp only[u_C l61_0.eq_1,rn,pevA,seval,f0,f10,f11,f12,c1,hget,e1,e2,hl,hw2,hput,hkp,hw]
   exact⟨i+1,by show ns.length-(i+1)<ns.length-i;omega,f0,f1,f2,f10,f11,rfl,hlt,_,hM.setm n1 n2,hS.setm,ht,fin⟩
  ·have z:(0:Int)+1=1:=rfl
   rw[h0x,z] at hw2 hput fin
   simp only[u_C l61_0.eq_1,rn,pevA,seval,f0,f10,f11,f12,c1,hget,e1,e2,hl,hw2,hput,hkp,hw]
   exact⟨i+1,by show ns.length-(i+1)<ns.length-i;omega,f0,f1,f2,f10,f11,rfl,hlt,_,hM.setm n1 n2,hS.setm,ht,fin⟩
 ·obtain rfl:i=ns.length:=by omega
  have c1:decide ((ns.length:Int)<(ns.length:Int))=false:=by simp
  simp only[u_C l61_0.eq_1,rn,pevA,seval,f0,f10,f11,f12,c1]
  rw[List.take_length] at hc
  exact hR _ _ m' f0 f1 f2 hM hS ht hc
end Go.Proofs.Ytkopkbhpompmnaa.p
namespace Go.Proofs.Ytkopkbhpompmnaa.p
open Go.Proofs Go Go.Cn code
set_option linter.unusedSimpArgs false
set_option linter.unusedVariables false
variable {S:List Nm}
theorem dec_loop (K:Nat->Prop)(h0:AH)(b p q:Nat)(n1:b≠p)(n2:q≠p)(hkp:¬K p)(ns:List Nm)(En:TypeId)(tn:Tag)(m:List (Nm×Int))(hns:ns.length<=1000000000)(hm:∀y,0<=cmG m y/\cmG m y<=2000000000)(out:List Nm)(E:TypeId)(tag:Tag)(hM:FrM h0 b p q m out E tag)(fr0:AFr)(R:CExit->AQ)
  (hR:∀(fr:AFr)(h1:AH)(m':List (Nm×Int)),fr 0=.ptr b 0->fr 1=fr0 1->fr 2=fr0 2->FrM h1 b p q m' out E tag->Same b p q h0 h1->h1.toks=h0.toks->(∀y,cmG m' y=cmG m y-ns.count y)->R (.exit 2) fr h1)
  (f0:fr0 0=.ptr b 0)(f26:fr0 26=.lst En (strC ns) tn)(f27:fr0 27=.int .i64 (ns.length:Nat))(f28:fr0 28=.int .i64 0) :
  W T K (.loop l61_1.toC) fr0 h0 R:=by
 refine aloop (α:=Nat) (fun i fr h1=>fr 0=.ptr b 0/\fr 1=fr0 1/\fr 2=fr0 2/\fr 26=.lst En (strC ns) tn/\fr 27=.int .i64 (ns.length:Nat)/\fr 28=.int .i64 i/\i<=ns.length/\∃m',FrM h1 b p q m' out E tag/\Same b p q h0 h1/\h1.toks=h0.toks/\∀y,cmG m' y=cmG m y-(ns.take i).count y) (fun i=>ns.length-i) 0
  ⟨f0,rfl,rfl,f26,f27,f28,Nat.zero_le _,m,hM,.refl _,rfl,fun y=>by simp⟩ ?_
 clear f26 f27 f28
 rintro i fr h1 ⟨f0,f1,f2,f26,f27,f28,hi,m',hM,hS,ht,hc⟩
 by_cases hlt:i<ns.length
 ·have c1:decide ((i:Int)<(ns.length:Int))=true:=decide_eq_true (by omega)
  have hw:IntKind.i64.wrap ((i:Int)+1)=((i+1:Nat):Int):=by rw[wrap64 ⟨by omega,by omega⟩];rfl
  obtain⟨x,hx⟩ : ∃x,ns[i]?=some x:=⟨ns[i],by simp[hlt]⟩
  have hget:(strC ns)[i]?=some [.str x]:=by rw[strC_get,hx];rfl
  have e1:=hM.o
  have e2:=hM.m
  have hcx:=hc x
  have hcl:=count_le_take ns i x
  have hmx:=hm x
  have hw2:IntKind.i64.wrap (cmG m' x-1)=cmG m' x-1:=by rw[wrap64 ⟨by omega,by omega⟩]
  have hput:=cm_put x (cmG m' x-1) m'
  have fin:∀y,cmG (cmP m' x (cmG m' x-1)) y=cmG m y-(ns.take (i+1)).count y:=by
   intro y
   rw[cmG_P,count_take hx,hc y]
   split
   ·rename_i e;subst e;rw[hcx];push_cast;omega
   ·simp
  rcases cm_look x m' with hl|⟨hl,h0x⟩
  ·simp only[u_C l61_1.eq_1,rn,pevA,seval,f0,f26,f27,f28,c1,hget,e1,e2,hl,hw2,hput,hkp,hw]
   exact⟨i+1,by show ns.length-(i+1)<ns.length-i;omega,f0,f1,f2,f26,f27,rfl,hlt,_,hM.setm n1 n2,hS.setm,ht,fin⟩
  ·have z:(0:Int)-1= -1:=rfl
   rw[h0x,z] at hw2 hput fin
   simp only[u_C l61_1.eq_1,rn,pevA,seval,f0,f26,f27,f28,c1,hget,e1,e2,hl,hw2,hput,hkp,hw]
   exact⟨i+1,by show ns.length-(i+1)<ns.length-i;omega,f0,f1,f2,f26,f27,rfl,hlt,_,hM.setm n1 n2,hS.setm,ht,fin⟩
 ·obtain rfl:i=ns.length:=by omega
  have c1:decide ((ns.length:Int)<(ns.length:Int))=false:=by simp
  simp only[u_C l61_1.eq_1,rn,pevA,seval,f0,f26,f27,f28,c1]
  rw[List.take_length] at hc
  exact hR _ _ m' f0 f1 f2 hM hS ht hc
theorem with_ok (K:Nat->Prop)(h:AH)(b p q:Nat)(n1:b≠p)(n2:q≠p)(hkb:¬K b)(hkp:¬K p)(hkq:¬K q)(ns:List Nm)(En:TypeId)(tn:Tag)(m:List (Nm×Int))(hns:ns.length<=1000000000)(hm:∀y,0<=cmG m y/\cmG m y<=1000000000)(out:List Nm)(E:TypeId)(tag:Tag)(hM:FrM h b p q m out E tag)(g:Nat)(caps:List AV)(P:(Nat->Option Tok)->List Nm->TypeId->Tag->Prop)
  (inside:∀(h1:AH)(m1:List (Nm×Int)),FrM h1 b p q m1 out E tag->Same b p q h h1->h1.toks=h.toks->(∀y,cmG m1 y=cmG m y+ns.count y)->ACall T K (.func g) caps h1 fun v h'=>∃m3 out3 E3 tag3,FrM h' b p q m3 out3 E3 tag3/\Same b p q h1 h'/\(∀y,cmG m3 y=cmG m1 y)/\P h'.toks out3 E3 tag3) :
  ACall T K (.func 61) [.ptr b 0,.lst En (strC ns) tn,.func g [] caps] h fun v h'=>v=.tuple []/\∃m4 out4 E4 tag4,FrM h' b p q m4 out4 E4 tag4/\Same b p q h h'/\(∀y,cmG m4 y=cmG m y)/\P h'.toks out4 E4 tag4:=by
 refine ACall.retQ t61 fun hK=>?_
 simp only[u_C c61.eq_1,rn,pevA,seval,strC_len]
 refine inc_loop K h b p q n1 n2 hkp ns En tn m hns hm out E tag hM _ _ (fun fr h1 m1 f0 f1 f2 hM1 hS1 ht1 hc1=>?hR1) ?a0 ?a10 ?a11 ?a12
 case a0=>rfl
 case a10=>rfl
 case a11=>rfl
 case a12=>rfl
 have g1:fr 1=.lst En (strC ns) tn:=by rw[f1];rfl
 have g2:fr 2=.func g [] caps:=by rw[f2];rfl
 simp only[rn,pevA,seval,f0,g1,g2]
 refine (inside h1 m1 hM1 hS1 ht1 hc1).mono ?_
 rintro v h2 ⟨m3,out3,E3,tag3,hM3,hS3,hc3,hP⟩
 simp only[rn,pevA,seval,f0,g1,g2,strC_len]
 have hm3:∀y,0<=cmG m3 y/\cmG m3 y<=2000000000:=fun y=>by
  have:=hm y
  have:=hc1 y
  have:=hc3 y
  have:=List.count_le_length (a:=y) (l:=ns)
  omega
 refine dec_loop K h2 b p q n1 n2 hkp ns En tn m3 hns hm3 out3 E3 tag3 hM3 _ _ (fun fr h3 m4 f0 f1 f2 hM4 hS4 ht4 hc4=>?hR2) ?b0 ?b26 ?b27 ?b28
 case b0=>exact f0
 case b26=>rfl
 case b27=>rfl
 case b28=>rfl
 have hS:=(hS1.trans hS3).trans hS4
 simp only[rn,pevA,seval]
 refine⟨_,h3,.refl _ _,hS.kok hK hkb hkp hkq,rfl,m4,out3,E3,tag3,hM4,hS,fun y=>?_,by rw[ht4];exact hP⟩
 have:=hc1 y
 have:=hc3 y
 have:=hc4 y
 omega
end Go.Proofs.Ytkopkbhpompmnaa.p
namespace Go.Proofs.Ytkopkbhpompmnaa.p
open Go.Proofs Go Go.Cn code
set_option linter.unusedSimpArgs false
set_option linter.unusedVariables false
variable {S:List Nm}
def bdF (m:List (Nm×Int)):Nm->Bool:=fun y=>decide (0<cmG m y)
theorem bdF_eq {m m':List (Nm×Int)}(h:∀y,cmG m' y=cmG m y):bdF m'=bdF m:=by funext y;unfold bdF;rw[h y]
def FrP (t0:Nat->Option Tok)(b p q:Nat)(h:AH)(m:List (Nm×Int))(out:List Nm)(h':AH):Prop:=
 ∃m' E tag,FrM h' b p q m' out E tag/\Same b p q h h'/\(∀y,cmG m' y=cmG m y)/\(out≠[]->E=9)/\Toks t0 h'.toks [(tag,9,1,0)]
def ScOK (S:List Nm)(n:Nat):Prop:=∀(B:Nat)(e:Ex),WfX S n B e->∀(K:Nat->Prop)(h:AH)(b p q:Nat),b≠p->q≠p->b≠q->¬K b->¬K p->¬K q->∀(t0:Nat->Option Tok)(m:List (Nm×Int))(out:List Nm)(E:TypeId)(tag:Tag),
 (∀y,0<=cmG m y/\cmG m y+B<=1000000000)->FrM h b p q m out E tag->(out≠[]->E=9)->OutOk S out->Toks t0 h.toks [(tag,9,1,0)]->
 ACall T K (.func 40) [.ptr b 0,.agg (exR e)] h fun v h'=>v=.tuple []/\FrP t0 b p q h m (frX n e (bdF m) out) h'
section
variable {n:Nat}(ih:ScOK S n)
include ih in
theorem all_ok (B:Nat)(l:List Ex)(hl:∀x,x∈l->WfX S n B x)(K:Nat->Prop)(h:AH)(b p q:Nat)(n1:b≠p)(n2:q≠p)(n3:b≠q)(hkb:¬K b)(hkp:¬K p)(hkq:¬K q)(t0:Nat->Option Tok)(m:List (Nm×Int))(out:List Nm)(E:TypeId)(tag:Tag)
  (hm:∀y,0<=cmG m y/\cmG m y+B<=1000000000)(hM:FrM h b p q m out E tag)(hE:out≠[]->E=9)(ho:OutOk S out)(hT:Toks t0 h.toks [(tag,9,1,0)]) :
  ACall T K (.func 63) [.ptr b 0,.lst 65 (exsR l) .no] h fun v h'=>v=.tuple []/\FrP t0 b p q h m (l.foldl (fun o x=>frX n x (bdF m) o) out) h':=by
 refine ACall.retQ t63 fun hK=>?_
 simp only[u_C c63.eq_1,rn,pevA,seval,exsR_len]
 refine W.bound (t:=6) rfl fun hbig=>?_
 rw[exsR_len] at hbig
 refine aloop (α:=Nat) (fun i fr h1=>fr 0=.ptr b 0/\fr 6=.lst 65 (exsR l) .no/\fr 7=.int .i64 (l.length:Nat)/\fr 8=.int .i64 i/\i<=l.length/\FrP t0 b p q h m ((l.take i).foldl (fun o x=>frX n x (bdF m) o) out) h1) (fun i=>l.length-i) 0
  ⟨rfl,rfl,rfl,rfl,Nat.zero_le _,m,E,tag,hM,.refl _,fun _=>rfl,hE,hT⟩ ?_
 rintro i fr h1 ⟨f0,f6,f7,f8,hi,m1,E1,tag1,hM1,hS1,hc1,hE1,hT1⟩
 by_cases hlt:i<l.length
 ·have c1:decide ((i:Int)<(l.length:Int))=true:=decide_eq_true (by omega)
  have hw:IntKind.i64.wrap ((i:Int)+1)=((i+1:Nat):Int):=by unfold big at hbig;rw[wrap64 ⟨by omega,by omega⟩];rfl
  obtain⟨x,hx⟩ : ∃x,l[i]?=some x:=⟨l[i],by simp[hlt]⟩
  have hft:=fold_take (f:=fun o x=>frX n x (bdF m) o) (o:=out) hx
  have hoo:OutOk S ((l.take i).foldl (fun o x=>frX n x (bdF m) o) out):=.fold (fun y hy o ho=>frX_ok (hl y (List.mem_of_mem_take hy)) ho) ho
  have wx:=hl x (List.mem_of_getElem? hx)
  have hget:(exsR l)[i]?=some (exR x):=by rw[exsR_get,hx];rfl
  have call:=ih B x wx K h1 b p q n1 n2 n3 hkb hkp hkq t0 m1 _ E1 tag1 (fun y=>by rw[hc1 y];exact hm y) hM1 hE1 hoo hT1
  rw[bdF_eq hc1] at call
  obtain⟨k,pp,nm,v,xl,xa,xb⟩:=x
  simp only[exR] at hget call
  simp only[u_C l63_0.eq_1,rn,pevA,seval,f0,f6,f7,f8,c1,hget]
  refine call.mono ?_
  rintro _ h2 ⟨rfl,m2,E2,tag2,hM2,hS2,hc2,hE2,hT2⟩
  simp only[rn,pevA,seval,f0,f6,f7,f8,hw]
  exact⟨i+1,by show l.length-(i+1)<l.length-i;omega,f0,f6,f7,rfl,hlt,m2,E2,tag2,by rw[hft];exact hM2,hS1.trans hS2,fun y=>(hc2 y).trans (hc1 y),by rw[hft];exact hE2,hT2⟩
 ·obtain rfl:i=l.length:=by omega
  have c1:decide ((l.length:Int)<(l.length:Int))=false:=by simp
  simp only[u_C l63_0.eq_1,rn,pevA,seval,f0,f6,f7,f8,c1]
  rw[List.take_length] at hM1 hE1
  exact⟨_,h1,.refl _ _,hS1.kok hK hkb hkp hkq,rfl,m1,E1,tag1,hM1,hS1,hc1,hE1,hT1⟩
end
theorem bindNames_ok (bs:List Bi)(hbs:bs.length<=1000000000):Pure T 64 [.lst 67 (bisR bs) .no] (.lst 9 (strC (bs.map (·.1))) .no):=by
 intro K h
 refine ACall.ret t64 fun hK=>?_
 simp only[u_C c64.eq_1,rn,pevA,seval,bisR_len]
 refine aloop (α:=Nat) (fun i fr h1=>fr 6=.lst 67 (bisR bs) .no/\fr 7=.int .i64 (bs.length:Nat)/\fr 8=.int .i64 i/\i<=bs.length/\∃E tag t',fr 3=.lst E (strC ((bs.take i).map (·.1))) tag/\((bs.take i).map (·.1)≠[]->E=9)/\Toks h.toks t' [(tag,9,1,0)]/\h1=h.tk t') (fun i=>bs.length-i) 0
  ⟨rfl,rfl,rfl,Nat.zero_le _,0,.nil,h.toks,rfl,fun h=>absurd rfl h,.one _ _ _,rfl⟩ ?_
 rintro i fr h1 ⟨f6,f7,f8,hi,E,tag,t',f3,hE,hT,rfl⟩
 by_cases hlt:i<bs.length
 ·have c1':decide ((i:Int)<(bs.length:Int))=true:=decide_eq_true (by omega)
  have hw:IntKind.i64.wrap ((i:Int)+1)=((i+1:Nat):Int):=by rw[wrap64 ⟨by omega,by omega⟩];rfl
  obtain⟨x,hx⟩ : ∃x,bs[i]?=some x:=⟨bs[i],by simp[hlt]⟩
  have hmap:(bs.take (i+1)).map (·.1)=(bs.take i).map (·.1)++[x.1]:=by rw[List.take_add_one,hx,List.map_append];rfl
  have hlen:((bs.take i).map (·.1)).length=i:=by simp;omega
  have hget:=bisR_get hx
  obtain⟨bn,bg,⟨sv,sc,⟨tk,tn,tl⟩⟩,⟨k,pp,nm,v,xl,xa,xb⟩,qq⟩:=x
  simp only[biR,schR,tyR,exR,List.cons_append,List.nil_append] at hget
  simp only[u_C l64_0.eq_1,rn,pevA,seval,f3,f6,f7,f8,c1',hget]
  refine WO.append (i:=0) hT rfl rfl rfl trivial (by decide) (by simp) rfl (.inr rfl) (fun _=>?_) ?_ fun tag2 t2 hT2=>?_
  ·simp only[capOk,strC_len,hlen,List.length_cons,List.length_nil];omega
  ·simp only[big_eq,strC_len,hlen,List.length_cons,List.length_nil];omega
  rw[strC_app]
  simp only[rn,pevA,seval,f3,f6,f7,f8,hw]
  exact⟨i+1,by show bs.length-(i+1)<bs.length-i;omega,f6,f7,rfl,hlt,9,tag2,t2,by rw[hmap];rfl,fun _=>rfl,hT2,rfl⟩
 ·obtain rfl:i=bs.length:=by omega
  have c1':decide ((bs.length:Int)<(bs.length:Int))=false:=by simp
  simp only[u_C l64_0.eq_1,rn,pevA,seval,f3,f6,f7,f8,c1']
  rw[List.take_length] at hE ⊢
  exact⟨.lstE fun h=>hE (strC_ne h),le_tk (AH.le_refl _) hT.le⟩
end Go.Proofs.Ytkopkbhpompmnaa.p
namespace Go.Proofs.Ytkopkbhpompmnaa.p
open Go.Proofs Go Go.Cn code
set_option linter.unusedSimpArgs false
set_option linter.unusedVariables false
variable {S:List Nm}
theorem FrM.new {h:AH}{b p q c:Nat}{o:AO}{m:List (Nm×Int)}{out:List Nm}{E:TypeId}{tag:Tag}(f:FrM h b p q m out E tag)(hc:h.objs c=none):FrM (h.set c o) b p q m out E tag:=
 ⟨by rw[AH.set_ne _ _ (fun e=>by rw[<-e,f.o] at hc;cases hc)];exact f.o,by rw[AH.set_ne _ _ (fun e=>by rw[<-e,f.m] at hc;cases hc)];exact f.m,by rw[AH.set_ne _ _ (fun e=>by rw[<-e,f.s] at hc;cases hc)];exact f.s⟩
theorem FrM.ne {h:AH}{b p q c:Nat}{m:List (Nm×Int)}{out:List Nm}{E:TypeId}{tag:Tag}(f:FrM h b p q m out E tag)(hc:h.objs c=none):c≠b/\c≠p/\c≠q:=
 ⟨fun e=>by (rw[e,f.o] at hc;cases hc),fun e=>by (rw[e,f.m] at hc;cases hc),fun e=>by (rw[e,f.s] at hc;cases hc)⟩
theorem FrP.back {t0:Nat->Option Tok}{b p q:Nat}{h h2 h3:AH}{m:List (Nm×Int)}{out:List Nm}(n1:b≠p)(n2:q≠p)(n3:b≠q)(f:FrP t0 b p q h2 m out h3)(hb:∀n x,n≠b->n≠p->n≠q->h.objs n=some x->h2.objs n=some x){K:Nat->Prop}(hK:KOk K h)(hkb:¬K b)(hkp:¬K p)(hkq:¬K q) :
  ∃h',FrP t0 b p q h m out h'/\h'.le h3/\KOk K h':=by
 obtain⟨m',E,tag,fM,fS,fc,fE,fT⟩:=f
 have e1:((((h.set b (.cells [.map p,.map q,.lst E (strC out) tag] 100)).set p (.map (cmC m'))).set q (.map (seC out))).tk h3.toks).objs b=some (.cells [.map p,.map q,.lst E (strC out) tag] 100):=by
  rw[tk_objs,AH.set_ne _ _ n3,AH.set_ne _ _ n1,AH.set_same]
 have e2:((((h.set b (.cells [.map p,.map q,.lst E (strC out) tag] 100)).set p (.map (cmC m'))).set q (.map (seC out))).tk h3.toks).objs p=some (.map (cmC m')):=by
  rw[tk_objs,AH.set_ne _ _ n2.symm,AH.set_same]
 have e3:((((h.set b (.cells [.map p,.map q,.lst E (strC out) tag] 100)).set p (.map (cmC m'))).set q (.map (seC out))).tk h3.toks).objs q=some (.map (seC out)):=by
  rw[tk_objs,AH.set_same]
 have es:Same b p q h ((((h.set b (.cells [.map p,.map q,.lst E (strC out) tag] 100)).set p (.map (cmC m'))).set q (.map (seC out))).tk h3.toks):=fun n x y z=>by
  rw[tk_objs,AH.set_ne _ _ z,AH.set_ne _ _ y,AH.set_ne _ _ x]
 refine⟨_,⟨m',E,tag,⟨e1,e2,e3⟩,es,fc,fE,fT⟩,⟨fun n x hn=>?_,fun c k hc=>hc⟩,es.kok hK hkb hkp hkq⟩
 by_cases h1:n=b
 ·subst h1;rw[e1] at hn;rw[fM.o];exact hn
 ·by_cases h2:n=p
  ·subst h2;rw[e2] at hn;rw[fM.m];exact hn
  ·by_cases h3:n=q
   ·subst h3;rw[e3] at hn;rw[fM.s];exact hn
   ·rw[es n h1 h2 h3] at hn
    rw[fS n h1 h2 h3]
    exact hb n x h1 h2 h3 hn
section
variable {n:Nat}(ih:ScOK S n)
include ih in
theorem lam_ok (B D:Nat)(nm:Nm)(hBD:D+1<=B)(l:List Ex)(hl:∀x,x∈l->WfX S n D x)(K:Nat->Prop)(h:AH)(b p q:Nat)(n1:b≠p)(n2:q≠p)(n3:b≠q)(hkb:¬K b)(hkp:¬K p)(hkq:¬K q)(t0:Nat->Option Tok)(m:List (Nm×Int))(out:List Nm)(E:TypeId)(tag:Tag)
  (hm:∀y,0<=cmG m y/\cmG m y+B<=1000000000)(hM:FrM h b p q m out E tag)(hE:out≠[]->E=9)(ho:OutOk S out)(hT:Toks t0 h.toks [(tag,9,1,0)])(pp v:Int)(a:List Al)(bs:List Bi) :
  ACall T K (.func 40) [.ptr b 0,.agg (exR (.mk 6 pp nm v l a bs))] h fun w h'=>w=.tuple []/\FrP t0 b p q h m (l.foldl (fun o x=>frX n x (fun y=>bdF m y || decide (y=nm)) o) out) h':=by
 refine ACall.retQ t40 fun hK=>?_
 simp only[u_C c40.eq_1,rn,pevA,seval,exR]
 intro c2 hc2 hkc2
 simp only[rn,pevA,seval]
 intro c3 hc3 hkc3
 obtain⟨nc,hc3⟩:=AH.set_none.1 hc3
 simp only[rn,pevA,seval,(by decide:decide ((6:Int)=1)=false),(by decide:decide ((6:Int)=6)=true)]
 have hM2:=(hM.new (o:=.cells [.ptr b 0] 96) hc2).new (o:=.cells [.int .i64 6,.int .i64 pp,.str nm,.int .i64 v,.lst 65 (exsR l) .no,.lst 135 (alsR a) .no,.lst 67 (bisR bs) .no] 65) (AH.set_none.2 ⟨nc,hc3⟩)
 obtain⟨x1,x2,x3⟩:=hM.ne hc2
 obtain⟨y1,y2,y3⟩:=hM.ne hc3
 simp only[rn,pevA,seval,AH.set_ne,ne_eq,nc,nc.symm,not_false_eq_true]
 refine (with_ok K _ b p q n1 n2 hkb hkp hkq [nm] 9 .no m (by show 1<=1000000000;decide) (fun y=>by have:=hm y;omega) out E tag hM2 62 [.ptr c2 0,.ptr c3 0] (fun t o E3 tag3=>o=l.foldl (fun o x=>frX n x (fun y=>bdF m y || decide (y=nm)) o) out/\(o≠[]->E3=9)/\Toks t0 t [(tag3,9,1,0)]) (fun h1 m1 hM1 hS1 ht1 hcm=>?_)).mono ?_
 ·refine ACall.retQ t62 fun hK1=>?_
  have g2:h1.objs c2=some (.cells [.ptr b 0] 96):=by rw[hS1 c2 x1 x2 x3,AH.set_ne _ _ nc.symm,AH.set_same]
  have g3:h1.objs c3=some (.cells [.int .i64 6,.int .i64 pp,.str nm,.int .i64 v,.lst 65 (exsR l) .no,.lst 135 (alsR a) .no,.lst 67 (bisR bs) .no] 65):=by rw[hS1 c3 y1 y2 y3,AH.set_same]
  simp only[u_C c62.eq_1,rn,pevA,seval,g2,g3]
  have eb:bdF m1=fun y=>bdF m y || decide (y=nm):=by
   funext y
   unfold bdF
   have h0:=hm y
   rw[hcm y,List.count_singleton]
   by_cases e:y=nm
   ·simp[e];rw[<-e];omega
   ·have e2:¬nm=y:=fun h=>e h.symm
    simp[e,e2]
  refine (all_ok ih D l hl K h1 b p q n1 n2 n3 hkb hkp hkq t0 m1 out E tag (fun y=>?_) hM1 hE ho (by rw[ht1];exact hT)).mono ?_
  ·have h0:=hm y
   have:=List.count_le_length (a:=y) (l:=[nm])
   rw[hcm y]
   simp at this
   omega
  rintro w h3 ⟨_,m3,E3,tag3,hM3,hS3,hc3',hE3,hT3⟩
  rw[eb] at hM3 hE3
  simp only[rn,pevA,seval]
  exact⟨_,h3,.refl _ _,hS3.kok hK1 hkb hkp hkq,m3,_,E3,tag3,hM3,hS3,hc3',rfl,hE3,hT3⟩
 ·rintro w h3 ⟨rfl,m3,out3,E3,tag3,hM3,hS3,hcm3,rfl,hE3,hT3⟩
  simp only[rn,pevA,seval]
  obtain⟨h4,f4,le4,k4⟩:=FrP.back (h:=h) n1 n2 n3 ⟨m3,E3,tag3,hM3,hS3,hcm3,hE3,hT3⟩ (fun n x a1 a2 a3 hn=>by
   rw[AH.set_ne _ _ (fun e=>by rw[e,hc3] at hn;cases hn),AH.set_ne _ _ (fun e=>by rw[e,hc2] at hn;cases hn)];exact hn) hK hkb hkp hkq
  exact⟨_,h4,.weak (.refl _) (.drop le4 (.refl _ _)),k4,rfl,f4⟩
end
end Go.Proofs.Ytkopkbhpompmnaa.p
namespace Go.Proofs.Ytkopkbhpompmnaa.p
open Go.Proofs Go Go.Cn code
set_option linter.unusedSimpArgs false
set_option linter.unusedVariables false
variable {S:List Nm}
section
variable {n:Nat}(ih:ScOK S n)
theorem var_ok (hS:S.length<=20001)(nm:Nm)(hnm:nm∈S)(K:Nat->Prop)(h:AH)(b p q:Nat)(n1:b≠p)(n2:q≠p)(n3:b≠q)(hkb:¬K b)(hkp:¬K p)(hkq:¬K q)(t0:Nat->Option Tok)(m:List (Nm×Int))(out:List Nm)(E:TypeId)(tag:Tag)
  (hm:∀y,0<=cmG m y)(hM:FrM h b p q m out E tag)(hE:out≠[]->E=9)(ho:OutOk S out)(hT:Toks t0 h.toks [(tag,9,1,0)])(pp v:Int)(l:List Ex)(a:List Al)(bs:List Bi) :
  ACall T K (.func 40) [.ptr b 0,.agg (exR (.mk 1 pp nm v l a bs))] h fun w h'=>w=.tuple []/\FrP t0 b p q h m (if bdF m nm || decide (nm∈out) then out else out++[nm]) h':=by
 refine ACall.retQ t40 fun hK=>?_
 have hol:=ho.len
 simp only[u_C c40.eq_1,rn,pevA,seval,exR]
 intro c2 hc2 hkc2
 simp only[rn,pevA,seval]
 intro c3 hc3 hkc3
 obtain⟨nc,hc3⟩:=AH.set_none.1 hc3
 obtain⟨x1,x2,x3⟩:=hM.ne hc2
 obtain⟨y1,y2,y3⟩:=hM.ne hc3
 have hM2:=(hM.new (o:=.cells [.ptr b 0] 96) hc2).new (o:=.cells [.int .i64 1,.int .i64 pp,.str nm,.int .i64 v,.lst 65 (exsR l) .no,.lst 135 (alsR a) .no,.lst 67 (bisR bs) .no] 65) (AH.set_none.2 ⟨nc,hc3⟩)
 have back:∀(n:Nat)(x:AO),n≠b->n≠p->n≠q->h.objs n=some x->((h.set c2 (.cells [.ptr b 0] 96)).set c3 (.cells [.int .i64 1,.int .i64 pp,.str nm,.int .i64 v,.lst 65 (exsR l) .no,.lst 135 (alsR a) .no,.lst 67 (bisR bs) .no] 65)).objs n=some x:=fun n x a1 a2 a3 hn=>by
  rw[AH.set_ne _ _ (fun e=>by rw[e,hc3] at hn;cases hn),AH.set_ne _ _ (fun e=>by rw[e,hc2] at hn;cases hn)];exact hn
 have e1:=hM2.o
 have e2:=hM2.m
 have e3:=hM2.s
 have g2:((h.set c2 (.cells [.ptr b 0] 96)).set c3 (.cells [.int .i64 1,.int .i64 pp,.str nm,.int .i64 v,.lst 65 (exsR l) .no,.lst 135 (alsR a) .no,.lst 67 (bisR bs) .no] 65)).objs c2=some (.cells [.ptr b 0] 96):=by rw[AH.set_ne _ _ nc.symm,AH.set_same]
 have g3:((h.set c2 (.cells [.ptr b 0] 96)).set c3 (.cells [.int .i64 1,.int .i64 pp,.str nm,.int .i64 v,.lst 65 (exsR l) .no,.lst 135 (alsR a) .no,.lst 67 (bisR bs) .no] 65)).objs c3=some (.cells [.int .i64 1,.int .i64 pp,.str nm,.int .i64 v,.lst 65 (exsR l) .no,.lst 135 (alsR a) .no,.lst 67 (bisR bs) .no] 65):=AH.set_same _ _ _
 have ht2:((h.set c2 (.cells [.ptr b 0] 96)).set c3 (.cells [.int .i64 1,.int .i64 pp,.str nm,.int .i64 v,.lst 65 (exsR l) .no,.lst 135 (alsR a) .no,.lst 67 (bisR bs) .no] 65)).toks=h.toks:=rfl
 simp only[rn,pevA,seval]
 generalize ((h.set c2 (.cells [.ptr b 0] 96)).set c3 (.cells [.int .i64 1,.int .i64 pp,.str nm,.int .i64 v,.lst 65 (exsR l) .no,.lst 135 (alsR a) .no,.lst 67 (bisR bs) .no] 65))=h2 at hM2 back e1 e2 e3 g2 g3 ht2 ⊢
 have d1:decide ((1:Int)=1)=true:=by decide
 have stop:(bdF m nm || decide (nm∈out))=true->∃h',FrP t0 b p q h m (if bdF m nm || decide (nm∈out) then out else out++[nm]) h'/\h'.le h2/\KOk K h':=fun e=>by
  rw[if_pos e]
  exact FrP.back n1 n2 n3 ⟨m,E,tag,hM2,.refl _,fun _=>rfl,hE,by rw[ht2];exact hT⟩ back hK hkb hkp hkq
 have hb0:bdF m nm= !decide (cmG m nm=0):=by
  unfold bdF
  have:=hm nm
  by_cases e:cmG m nm=0
  ·simp[e]
  ·simp[e];omega
 cases hz:decide (cmG m nm=0) with
 |false=>
  rw[hz] at hb0
  obtain⟨h4,f4,le4,k4⟩:=stop (by rw[hb0];rfl)
  rcases cm_look nm m with hl|⟨hl,h0x⟩
  ·simp only[e_dregion d40_0,u_L s40_0.eq_1,u_T g40_0.eq_1,rn,pevA,seval,g2,g3,e1,e2,hl,hz,d1]
   exact⟨_,h4,.weak (.refl _) (.drop le4 (.refl _ _)),k4,rfl,f4⟩
  ·rw[h0x] at hz;cases hz
 |true=>
  rw[hz] at hb0
  have hz0:=of_decide_eq_true hz
  have hbf:bdF m nm=false:=by rw[hb0];rfl
  have hll:lookA (.str nm) (cmC m)=some (some (.int .i64 0))\/lookA (.str nm) (cmC m)=some none:=by
   rcases cm_look nm m with hl|⟨hl,_⟩
   ·rw[hz0] at hl;exact .inl hl
   ·exact .inr hl
  have d0:decide ((0:Int)=0)=true:=by decide
  by_cases hmem:nm∈out
  ·have hs:=se_look nm out
   rw[if_pos hmem] at hs
   obtain⟨h4,f4,le4,k4⟩:=stop (by rw[decide_eq_true hmem,Bool.or_true])
   rcases hll with hl|hl
   ·simp only[e_dregion d40_0,u_L s40_0.eq_1,u_T g40_0.eq_1,rn,pevA,seval,g2,g3,e1,e2,e3,hl,hs,d0,d1]
    exact⟨_,h4,.weak (.refl _) (.drop le4 (.refl _ _)),k4,rfl,f4⟩
   ·simp only[e_dregion d40_0,u_L s40_0.eq_1,u_T g40_0.eq_1,rn,pevA,seval,g2,g3,e1,e2,e3,hl,hs,d0,d1]
    exact⟨_,h4,.weak (.refl _) (.drop le4 (.refl _ _)),k4,rfl,f4⟩
  ·have hs:=se_look nm out
   rw[if_neg hmem] at hs
   have hp:=se_put nm out hmem
   have ev:(if bdF m nm || decide (nm∈out) then out else out++[nm])=out++[nm]:=by rw[hbf,decide_eq_false hmem];rfl
   have fin:∀(tag2:Tag)(t2:Nat->Option Tok),Toks t0 t2 [(tag2,9,1,0)]->∃h',FrP t0 b p q h m (if bdF m nm || decide (nm∈out) then out else out++[nm]) h'/\h'.le (((h2.set q (.map (seC (out++[nm])))).set b (.cells [.map p,.map q,.lst 9 (strC (out++[nm])) tag2] 100)).tk t2)/\KOk K h':=fun tag2 t2 hT2=>by
    rw[ev]
    refine FrP.back n1 n2 n3 ⟨m,9,tag2,⟨?_,?_,?_⟩,fun n x y z=>?_,fun _=>rfl,fun _=>rfl,hT2⟩ back hK hkb hkp hkq
    ·rw[tk_objs,AH.set_same]
    ·rw[tk_objs,AH.set_ne _ _ n1.symm,AH.set_ne _ _ n2.symm];exact e2
    ·rw[tk_objs,AH.set_ne _ _ n3.symm,AH.set_same]
    ·rw[tk_objs,AH.set_ne _ _ x,AH.set_ne _ _ z]
   have k2:(h2.set q (.map (seC (out++[nm])))).objs c2=some (.cells [.ptr b 0] 96):=by rw[AH.set_ne _ _ x3];exact g2
   have k3:(h2.set q (.map (seC (out++[nm])))).objs c3=some (.cells [.int .i64 1,.int .i64 pp,.str nm,.int .i64 v,.lst 65 (exsR l) .no,.lst 135 (alsR a) .no,.lst 67 (bisR bs) .no] 65):=by rw[AH.set_ne _ _ y3];exact g3
   have k1:(h2.set q (.map (seC (out++[nm])))).objs b=some (.cells [.map p,.map q,.lst E (strC out) tag] 100):=by rw[AH.set_ne _ _ n3];exact e1
   have hT':Toks t0 (h2.set q (.map (seC (out++[nm])))).toks [(tag,9,1,0)]:=by show Toks t0 h2.toks _;rw[ht2];exact hT
   rcases hll with hl|hl
   ·simp only[e_dregion d40_0,u_L s40_0.eq_1,u_T g40_0.eq_1,e_dregion d40_1,u_L s40_1.eq_1,u_T g40_1.eq_1,e_dregion d40_2,u_L s40_2.eq_1,u_T g40_2.eq_1,rn,pevA,seval,g2,g3,e1,e2,e3,hl,hs,hp,d0,d1,hkq,k1,k2,k3]
    refine WO.append (i:=0) hT' rfl rfl rfl trivial (by decide) (by simp) rfl (.inr rfl) (fun _=>?_) ?_ fun tag2 t2 hT2=>?_
    ·simp only[capOk,strC_len,List.length_cons,List.length_nil];omega
    ·simp only[big_eq,strC_len,List.length_cons,List.length_nil];omega
    rw[strC_app]
    simp only[e_dregion d40_2,u_L s40_2.eq_1,u_T g40_2.eq_1,rn,pevA,seval,k1,k2,k3,hkb]
    obtain⟨h4,f4,le4,k4⟩:=fin tag2 t2 hT2
    exact⟨_,h4,.weak (.refl _) (.drop le4 (.refl _ _)),k4,rfl,f4⟩
   ·simp only[e_dregion d40_0,u_L s40_0.eq_1,u_T g40_0.eq_1,e_dregion d40_1,u_L s40_1.eq_1,u_T g40_1.eq_1,e_dregion d40_2,u_L s40_2.eq_1,u_T g40_2.eq_1,rn,pevA,seval,g2,g3,e1,e2,e3,hl,hs,hp,d0,d1,hkq,k1,k2,k3]
    refine WO.append (i:=0) hT' rfl rfl rfl trivial (by decide) (by simp) rfl (.inr rfl) (fun _=>?_) ?_ fun tag2 t2 hT2=>?_
    ·simp only[capOk,strC_len,List.length_cons,List.length_nil];omega
    ·simp only[big_eq,strC_len,List.length_cons,List.length_nil];omega
    rw[strC_app]
    simp only[e_dregion d40_2,u_L s40_2.eq_1,u_T g40_2.eq_1,rn,pevA,seval,k1,k2,k3,hkb]
    obtain⟨h4,f4,le4,k4⟩:=fin tag2 t2 hT2
    exact⟨_,h4,.weak (.refl _) (.drop le4 (.refl _ _)),k4,rfl,f4⟩
end
end Go.Proofs.Ytkopkbhpompmnaa.p
namespace Go.Proofs.Ytkopkbhpompmnaa.p
open Go.Proofs Go Go.Cn code
set_option linter.unusedSimpArgs false
set_option linter.unusedVariables false
variable {S:List Nm}
section
variable {n:Nat}(ih:ScOK S n)
include ih in
theorem bodies_loop (B:Nat)(bs:List Bi)(hb:∀x,x∈bs->WfX S n B x.2.2.2.1)(hbl:bs.length<=1000000000)(K:Nat->Prop)(h:AH)(b p q c2:Nat)(n1:b≠p)(n2:q≠p)(n3:b≠q)(x1:c2≠b)(x2:c2≠p)(x3:c2≠q)(hkb:¬K b)(hkp:¬K p)(hkq:¬K q)(t0:Nat->Option Tok)(m:List (Nm×Int))(out:List Nm)(E:TypeId)(tag:Tag)
  (hm:∀y,0<=cmG m y/\cmG m y+B<=1000000000)(hM:FrM h b p q m out E tag)(hE:out≠[]->E=9)(ho:OutOk S out)(hT:Toks t0 h.toks [(tag,9,1,0)])(g2:h.objs c2=some (.cells [.ptr b 0] 96))(v0:AV)(fr0:AFr)(R:CExit->AQ)
  (hR:∀(fr:AFr)(h1:AH),fr 0=v0->fr 1=.ptr c2 0->FrP t0 b p q h m (bs.foldl (fun o x=>frX n x.2.2.2.1 (bdF m) o) out) h1->R (.exit 0) fr h1)
  (f0:fr0 0=v0)(f1:fr0 1=.ptr c2 0)(f5:fr0 5=.lst 67 (bisR bs) .no)(f6:fr0 6=.int .i64 (bs.length:Nat))(f7:fr0 7=.int .i64 0) :
  W T K (.loop l65_0.toC) fr0 h R:=by
 refine aloop (α:=Nat) (fun i fr h1=>fr 0=v0/\fr 1=.ptr c2 0/\fr 5=.lst 67 (bisR bs) .no/\fr 6=.int .i64 (bs.length:Nat)/\fr 7=.int .i64 i/\i<=bs.length/\FrP t0 b p q h m ((bs.take i).foldl (fun o x=>frX n x.2.2.2.1 (bdF m) o) out) h1) (fun i=>bs.length-i) 0
  ⟨f0,f1,f5,f6,f7,Nat.zero_le _,m,E,tag,hM,.refl _,fun _=>rfl,hE,hT⟩ ?_
 clear f0 f1 f5 f6 f7
 rintro i fr h1 ⟨f0,f1,f5,f6,f7,hi,m1,E1,tag1,hM1,hS1,hc1,hE1,hT1⟩
 by_cases hlt:i<bs.length
 ·have c1:decide ((i:Int)<(bs.length:Int))=true:=decide_eq_true (by omega)
  have hw:IntKind.i64.wrap ((i:Int)+1)=((i+1:Nat):Int):=by rw[wrap64 ⟨by omega,by omega⟩];rfl
  obtain⟨x,hx⟩ : ∃x,bs[i]?=some x:=⟨bs[i],by simp[hlt]⟩
  have hft:=fold_take (f:=fun o (x:Bi)=>frX n x.2.2.2.1 (bdF m) o) (o:=out) hx
  have hoo:OutOk S ((bs.take i).foldl (fun o x=>frX n x.2.2.2.1 (bdF m) o) out):=.fold (fun y hy o ho=>frX_ok (hb y (List.mem_of_mem_take hy)) ho) ho
  have wx:=hb x (List.mem_of_getElem? hx)
  have hget:=bisR_get hx
  have call:=ih B _ wx K h1 b p q n1 n2 n3 hkb hkp hkq t0 m1 _ E1 tag1 (fun y=>by rw[hc1 y];exact hm y) hM1 hE1 hoo hT1
  rw[bdF_eq hc1] at call
  have g2':h1.objs c2=some (.cells [.ptr b 0] 96):=by rw[hS1 c2 x1 x2 x3];exact g2
  obtain⟨bn,bg,⟨sv,sc,⟨tk,tn,tl⟩⟩,⟨k,pp,nm,v,xl,xa,xb⟩,qq⟩:=x
  simp only[biR,schR,tyR,exR,List.cons_append,List.nil_append] at hget
  simp only[exR] at call
  simp only[u_C l65_0.eq_1,rn,pevA,seval,f0,f1,f5,f6,f7,c1,hget,g2']
  refine call.mono ?_
  rintro _ h2 ⟨rfl,m2,E2,tag2,hM2,hS2,hc2,hE2,hT2⟩
  simp only[rn,pevA,seval,f0,f1,f5,f6,f7,hw]
  exact⟨i+1,by show bs.length-(i+1)<bs.length-i;omega,f0,f1,f5,f6,rfl,hlt,m2,E2,tag2,by rw[hft];exact hM2,hS1.trans hS2,fun y=>(hc2 y).trans (hc1 y),by rw[hft];exact hE2,hT2⟩
 ·obtain rfl:i=bs.length:=by omega
  have c1:decide ((bs.length:Int)<(bs.length:Int))=false:=by simp
  simp only[u_C l65_0.eq_1,rn,pevA,seval,f0,f1,f5,f6,f7,c1]
  rw[List.take_length] at hM1 hE1
  exact hR _ h1 f0 f1 ⟨m1,E1,tag1,hM1,hS1,hc1,hE1,hT1⟩
include ih in
theorem let_ok (B D:Nat)(bs:List Bi)(hBD:D+bs.length<=B)(l:List Ex)(hl:∀x,x∈l->WfX S n D x)(hb:∀x,x∈bs->WfX S n D x.2.2.2.1)(K:Nat->Prop)(h:AH)(b p q:Nat)(n1:b≠p)(n2:q≠p)(n3:b≠q)(hkb:¬K b)(hkp:¬K p)(hkq:¬K q)(t0:Nat->Option Tok)(m:List (Nm×Int))(out:List Nm)(E:TypeId)(tag:Tag)
  (hm:∀y,0<=cmG m y/\cmG m y+B<=1000000000)(hM:FrM h b p q m out E tag)(hE:out≠[]->E=9)(ho:OutOk S out)(hT:Toks t0 h.toks [(tag,9,1,0)])(pp v:Int)(nm:Nm)(a:List Al) :
  ACall T K (.func 40) [.ptr b 0,.agg (exR (.mk 7 pp nm v l a bs))] h fun w h'=>w=.tuple []/\FrP t0 b p q h m (l.foldl (fun o x=>frX n x (fun y=>bdF m y || decide (y∈bs.map (·.1))) o) (bs.foldl (fun o x=>frX n x.2.2.2.1 (fun y=>bdF m y || decide (y∈bs.map (·.1))) o) out)) h':=by
 have hbl:bs.length<=1000000000:=by have:=hm [];omega
 refine ACall.retQ t40 fun hK=>?_
 simp only[u_C c40.eq_1,rn,pevA,seval,exR]
 intro c2 hc2 hkc2
 simp only[rn,pevA,seval]
 intro c3 hc3 hkc3
 obtain⟨nc,hc3⟩:=AH.set_none.1 hc3
 have hM2:=(hM.new (o:=.cells [.ptr b 0] 96) hc2).new (o:=.cells [.int .i64 7,.int .i64 pp,.str nm,.int .i64 v,.lst 65 (exsR l) .no,.lst 135 (alsR a) .no,.lst 67 (bisR bs) .no] 65) (AH.set_none.2 ⟨nc,hc3⟩)
 obtain⟨x1,x2,x3⟩:=hM.ne hc2
 obtain⟨y1,y2,y3⟩:=hM.ne hc3
 simp only[rn,pevA,seval,(by decide:decide ((7:Int)=1)=false),(by decide:decide ((7:Int)=6)=false),(by decide:decide ((7:Int)=7)=true)]
 simp only[e_dregion d40_3,u_L s40_3.eq_1,u_T g40_3.eq_1,rn,pevA,seval,AH.set_ne,ne_eq,nc,nc.symm,not_false_eq_true]
 refine (bindNames_ok bs hbl).use ?_
 simp only[e_dregion d40_3,u_L s40_3.eq_1,u_T g40_3.eq_1,rn,pevA,seval,AH.set_ne,ne_eq,nc,nc.symm,not_false_eq_true]
 refine (with_ok K _ b p q n1 n2 hkb hkp hkq (bs.map (·.1)) 9 .no m (by rw[List.length_map];exact hbl) (fun y=>by have:=hm y;omega) out E tag hM2 65 [.ptr c3 0,.ptr c2 0] (fun t o E3 tag3=>o=l.foldl (fun o x=>frX n x (fun y=>bdF m y || decide (y∈bs.map (·.1))) o) (bs.foldl (fun o x=>frX n x.2.2.2.1 (fun y=>bdF m y || decide (y∈bs.map (·.1))) o) out)/\(o≠[]->E3=9)/\Toks t0 t [(tag3,9,1,0)]) (fun h1 m1 hM1 hS1 ht1 hcm=>?_)).mono ?_
 ·refine ACall.retQ t65 fun hK1=>?_
  have g2:h1.objs c2=some (.cells [.ptr b 0] 96):=by rw[hS1 c2 x1 x2 x3,AH.set_ne _ _ nc.symm,AH.set_same]
  have g3:h1.objs c3=some (.cells [.int .i64 7,.int .i64 pp,.str nm,.int .i64 v,.lst 65 (exsR l) .no,.lst 135 (alsR a) .no,.lst 67 (bisR bs) .no] 65):=by rw[hS1 c3 y1 y2 y3,AH.set_same]
  have eb:bdF m1=fun y=>bdF m y || decide (y∈bs.map (·.1)):=by
   funext y
   unfold bdF
   have h0:=hm y
   rw[hcm y]
   by_cases e:y∈bs.map (·.1)
   ·have:=List.count_pos_iff.2 e
    rw[decide_eq_true e,Bool.or_true]
    exact decide_eq_true (by omega)
   ·have:=List.count_eq_zero.2 e
    rw[decide_eq_false e,Bool.or_false,this]
    congr 1
    simp
  have hm1:∀y,0<=cmG m1 y/\cmG m1 y+D<=1000000000:=fun y=>by
   have h0:=hm y
   have:=List.count_le_length (a:=y) (l:=bs.map (·.1))
   rw[List.length_map] at this
   rw[hcm y]
   omega
  simp only[u_C c65.eq_1,rn,pevA,seval,g2,g3,bisR_len]
  refine bodies_loop ih D bs hb hbl K h1 b p q c2 n1 n2 n3 x1 x2 x3 hkb hkp hkq t0 m1 out E tag hm1 hM1 hE ho (by rw[ht1];exact hT) g2 (.ptr c3 0) _ _ (fun fr h2 f0 f1 hP=>?hR) ?a0 ?a1 ?a5 ?a6 ?a7
  case a0=>rfl
  case a1=>rfl
  case a5=>rfl
  case a6=>rfl
  case a7=>rfl
  obtain⟨m2,E2,tag2,hM2',hS2,hc2',hE2,hT2⟩:=hP
  have k2:h2.objs c2=some (.cells [.ptr b 0] 96):=by rw[hS2 c2 x1 x2 x3];exact g2
  have k3:h2.objs c3=some (.cells [.int .i64 7,.int .i64 pp,.str nm,.int .i64 v,.lst 65 (exsR l) .no,.lst 135 (alsR a) .no,.lst 67 (bisR bs) .no] 65):=by rw[hS2 c3 y1 y2 y3];exact g3
  simp only[rn,pevA,seval,f0,f1,k2,k3]
  have hoo:OutOk S (bs.foldl (fun o x=>frX n x.2.2.2.1 (bdF m1) o) out):=.fold (fun y hy o ho=>frX_ok (hb y hy) ho) ho
  refine (all_ok ih D l hl K h2 b p q n1 n2 n3 hkb hkp hkq t0 m2 _ E2 tag2 (fun y=>by rw[hc2' y];exact hm1 y) hM2' hE2 hoo hT2).mono ?_
  rintro w h3 ⟨_,m3,E3,tag3,hM3,hS3,hc3',hE3,hT3⟩
  rw[bdF_eq hc2',eb] at hM3 hE3
  simp only[rn,pevA,seval]
  exact⟨_,h3,.refl _ _,(hS2.trans hS3).kok hK1 hkb hkp hkq,m3,_,E3,tag3,hM3,hS2.trans hS3,fun y=>(hc3' y).trans (hc2' y),rfl,hE3,hT3⟩
 ·rintro w h3 ⟨rfl,m3,out3,E3,tag3,hM3,hS3,hcm3,rfl,hE3,hT3⟩
  simp only[e_dregion d40_3,u_L s40_3.eq_1,u_T g40_3.eq_1,rn,pevA,seval]
  obtain⟨h4,f4,le4,k4⟩:=FrP.back (h:=h) n1 n2 n3 ⟨m3,E3,tag3,hM3,hS3,hcm3,hE3,hT3⟩ (fun n x a1 a2 a3 hn=>by
   rw[AH.set_ne _ _ (fun e=>by rw[e,hc3] at hn;cases hn),AH.set_ne _ _ (fun e=>by rw[e,hc2] at hn;cases hn)];exact hn) hK hkb hkp hkq
  exact⟨_,h4,.weak (.refl _) (.drop le4 (.refl _ _)),k4,rfl,f4⟩
end
end Go.Proofs.Ytkopkbhpompmnaa.p
namespace Go.Proofs.Ytkopkbhpompmnaa.p
open Go.Proofs Go Go.Cn code
set_option linter.unusedSimpArgs false
set_option linter.unusedVariables false
variable {S:List Nm}
def boundV (vs:List Nm):List Nm:=vs.filter fun v=> !decide (v=[95])
def BdOK:Prop:=∀vs:List Nm,vs.length<=1000000000->Pure T 66 [.lst 9 (strC vs) .no] (.lst 9 (strC (boundV vs)) .no)
section
variable {n:Nat}(ih:ScOK S n)(hbd:BdOK)(hS0:∀y,y∈S->y≠[95])
include ih hbd hS0 in
theorem alts_loop (B D:Nat)(hBD:B<=D)(a:List Al)(ha:∀x,x∈a->B+x.2.1.length<=D/\WfX S n B x.2.2.1)(K:Nat->Prop)(h:AH)(b p q c2:Nat)(n1:b≠p)(n2:q≠p)(n3:b≠q)(x1:c2≠b)(x2:c2≠p)(x3:c2≠q)(hkb:¬K b)(hkp:¬K p)(hkq:¬K q)(t0:Nat->Option Tok)(m:List (Nm×Int))(out:List Nm)(E:TypeId)(tag:Tag)
  (hm:∀y,0<=cmG m y/\cmG m y+D<=1000000000)(hM:FrM h b p q m out E tag)(hE:out≠[]->E=9)(ho:OutOk S out)(hT:Toks t0 h.toks [(tag,9,1,0)])(g2:h.objs c2=some (.cells [.ptr b 0] 96))(fr0:AFr)(R:CExit->AQ)
  (hR:∀(fr:AFr)(h1:AH),FrP t0 b p q h m (a.foldl (fun o x=>frX n x.2.2.1 (fun y=>bdF m y || decide (y∈x.2.1)) o) out) h1->R (.exit 1) fr h1)
  (f2:fr0 2=.ptr c2 0)(f13:fr0 13=.lst 135 (alsR a) .no)(f14:fr0 14=.int .i64 (a.length:Nat))(f15:fr0 15=.int .i64 0) :
  W T K (.loop l40_5.toC) fr0 h R:=by
 refine W.bound (t:=13) f13 fun hal=>?_
 rw[alsR_len] at hal
 refine aloopD (α:=Nat) (fun i fr h1=>fr 2=.ptr c2 0/\fr 13=.lst 135 (alsR a) .no/\fr 14=.int .i64 (a.length:Nat)/\fr 15=.int .i64 i/\i<=a.length/\FrP t0 b p q h m ((a.take i).foldl (fun o x=>frX n x.2.2.1 (fun y=>bdF m y || decide (y∈x.2.1)) o) out) h1) (fun i=>a.length-i) 0
  ⟨f2,f13,f14,f15,Nat.zero_le _,m,E,tag,hM,.refl _,fun _=>rfl,hE,hT⟩ ?_
 clear f2 f13 f14 f15
 rintro i fr h1 ⟨f2,f13,f14,f15,hi,m1,E1,tag1,hM1,hS1,hc1,hE1,hT1⟩
 by_cases hlt:i<a.length
 ·have c1:decide ((i:Int)<(a.length:Int))=true:=decide_eq_true (by omega)
  have hw:IntKind.i64.wrap ((i:Int)+1)=((i+1:Nat):Int):=by unfold big at hal;rw[wrap64 ⟨by omega,by omega⟩];rfl
  obtain⟨x,hx⟩ : ∃x,a[i]?=some x:=⟨a[i],by simp[hlt]⟩
  have hft:=fold_take (f:=fun o (x:Al)=>frX n x.2.2.1 (fun y=>bdF m y || decide (y∈x.2.1)) o) (o:=out) hx
  have hoo:OutOk S ((a.take i).foldl (fun o x=>frX n x.2.2.1 (fun y=>bdF m y || decide (y∈x.2.1)) o) out):=.fold (fun y hy o ho=>frX_ok (ha y (List.mem_of_mem_take hy)).2 ho) ho
  have wx:=ha x (List.mem_of_getElem? hx)
  have hget:(alsR a)[i]?=some (alR x):=by rw[alsR_get,hx];rfl
  have g2':h1.objs c2=some (.cells [.ptr b 0] 96):=by rw[hS1 c2 x1 x2 x3];exact g2
  have hvl:x.2.1.length<=1000000000:=by have:=hm [];omega
  have hbl:(boundV x.2.1).length<=x.2.1.length:=List.length_filter_le _ _
  have call:=ih B _ wx.2
  generalize (a.take i).foldl (fun o x=>frX n x.2.2.1 (fun y=>bdF m y || decide (y∈x.2.1)) o) out=o1 at hM1 hE1 hoo hft
  obtain⟨cn,vs,⟨k,pp,nm,v,xl,xa,xb⟩,qq⟩:=x
  simp only[alR,exR,List.cons_append,List.nil_append] at hget
  simp only[exR] at call
  dsimp only at wx hvl hbl hft
  simp only[u_C l40_5.eq_1,rn,pevA,seval,f2,f13,f14,f15,c1,hget]
  intro c5 hc5 hkc5
  obtain⟨z1,z2,z3⟩:=hM1.ne hc5
  have z4:c2≠c5:=fun e=>by rw[<-e,g2'] at hc5;cases hc5
  have hM5:=hM1.new (o:=.cells [.str cn,.lst 9 (strC vs) .no,.int .i64 k,.int .i64 pp,.str nm,.int .i64 v,.lst 65 (exsR xl) .no,.lst 135 (alsR xa) .no,.lst 67 (bisR xb) .no,.int .i64 qq] 135) hc5
  simp only[e_dregion d40_4,u_L s40_4.eq_1,u_T g40_4.eq_1,rn,pevA,seval,f2,f13,f14,f15,hkc5,AH.set_ne,ne_eq,z4,z4.symm,not_false_eq_true,g2']
  refine (hbd vs hvl).use ?_
  simp only[e_dregion d40_4,u_L s40_4.eq_1,u_T g40_4.eq_1,rn,pevA,seval,f2,f13,f14,f15,hkc5,AH.set_ne,ne_eq,z4,z4.symm,not_false_eq_true,g2']
  refine (with_ok K _ b p q n1 n2 hkb hkp hkq (boundV vs) 9 .no m1 (by omega) (fun y=>by have:=hm y;have:=hc1 y;omega) o1 E1 tag1 hM5 67 [.ptr c2 0,.ptr c5 0] (fun t o E3 tag3=>o=frX n (.mk k pp nm v xl xa xb) (fun y=>bdF m y || decide (y∈vs)) o1/\(o≠[]->E3=9)/\Toks t0 t [(tag3,9,1,0)]) (fun h2 m2 hM2 hS2 ht2 hcm=>?_)).mono ?_
  ·refine ACall.retQ t67 fun hK1=>?_
   have k2:h2.objs c2=some (.cells [.ptr b 0] 96):=by rw[hS2 c2 x1 x2 x3,AH.set_ne _ _ z4];exact g2'
   have k5:h2.objs c5=some (.cells [.str cn,.lst 9 (strC vs) .no,.int .i64 k,.int .i64 pp,.str nm,.int .i64 v,.lst 65 (exsR xl) .no,.lst 135 (alsR xa) .no,.lst 67 (bisR xb) .no,.int .i64 qq] 135):=by rw[hS2 c5 z1 z2 z3,AH.set_same]
   have eb:frX n (.mk k pp nm v xl xa xb) (bdF m2) o1=frX n (.mk k pp nm v xl xa xb) (fun y=>bdF m y || decide (y∈vs)) o1:=by
    refine frX_congr wx.2 fun y hy=>?_
    unfold bdF
    have h0:=hm y
    have h1:=hc1 y
    rw[hcm y]
    by_cases e:y∈vs
    ·have e2:y∈boundV vs:=by
      unfold boundV
      rw[List.mem_filter]
      exact⟨e,by simp[hS0 y hy]⟩
     have:=List.count_pos_iff.2 e2
     rw[decide_eq_true e,Bool.or_true]
     exact decide_eq_true (by omega)
    ·have e2:y∉boundV vs:=fun hm=>e (List.mem_filter.1 hm).1
     have:=List.count_eq_zero.2 e2
     rw[decide_eq_false e,Bool.or_false,this,h1]
     congr 1
     simp
   have hm2:∀y,0<=cmG m2 y/\cmG m2 y+B<=1000000000:=fun y=>by
    have h0:=hm y
    have h1:=hc1 y
    have:=List.count_le_length (a:=y) (l:=boundV vs)
    rw[hcm y]
    omega
   simp only[u_C c67.eq_1,rn,pevA,seval,k2,k5]
   refine (call K h2 b p q n1 n2 n3 hkb hkp hkq t0 m2 o1 E1 tag1 hm2 hM2 hE1 hoo (by rw[ht2];exact hT1)).mono ?_
   rintro w h3 ⟨_,m3,E3,tag3,hM3,hS3,hc3',hE3,hT3⟩
   rw[eb] at hM3 hE3
   simp only[rn,pevA,seval]
   exact⟨_,h3,.refl _ _,hS3.kok hK1 hkb hkp hkq,m3,_,E3,tag3,hM3,hS3,hc3',rfl,hE3,hT3⟩
  ·rintro w h3 ⟨rfl,m3,out3,E3,tag3,hM3,hS3,hcm3,rfl,hE3,hT3⟩
   simp only[e_dregion d40_4,u_L s40_4.eq_1,u_T g40_4.eq_1,rn,pevA,seval,f2,f13,f14,f15,hw]
   rw[<-hft] at hM3 hE3
   have back:∀(n:Nat)(x:AO),n≠b->n≠p->n≠q->h1.objs n=some x->(h1.set c5 (.cells [.str cn,.lst 9 (strC vs) .no,.int .i64 k,.int .i64 pp,.str nm,.int .i64 v,.lst 65 (exsR xl) .no,.lst 135 (alsR xa) .no,.lst 67 (bisR xb) .no,.int .i64 qq] 135)).objs n=some x:=fun n x a1 a2 a3 hn=>by
    rw[AH.set_ne _ _ (fun e=>by rw[e,hc5] at hn;cases hn)];exact hn
   have hP:FrP t0 b p q (h1.set c5 (.cells [.str cn,.lst 9 (strC vs) .no,.int .i64 k,.int .i64 pp,.str nm,.int .i64 v,.lst 65 (exsR xl) .no,.lst 135 (alsR xa) .no,.lst 67 (bisR xb) .no,.int .i64 qq] 135)) m _ h3:=⟨m3,E3,tag3,hM3,hS3,fun y=>(hcm3 y).trans (hc1 y),hE3,hT3⟩
   have k0:KOk K h3->KOk K h1:=fun hk n hn=>by
    obtain⟨o,hoo⟩:=hk n hn
    have e5:n≠c5:=fun e=>hkc5 (by rw[<-e];exact hn)
    rw[hS3 n (fun e=>hkb (by rw[<-e];exact hn)) (fun e=>hkp (by rw[<-e];exact hn)) (fun e=>hkq (by rw[<-e];exact hn)),AH.set_ne _ _ e5] at hoo
    exact⟨o,hoo⟩
   obtain⟨h4,⟨m4,E4,tag4,hM4,hS4,hc4,hE4,hT4⟩,le4,_⟩:=FrP.back (h:=h1) (K:=fun _=>False) n1 n2 n3 hP back (fun _ hn=>hn.elim) id id id
   exact⟨i+1,by show a.length-(i+1)<a.length-i;omega,h4,le4,fun hk=>hS4.kok (k0 hk) hkb hkp hkq,f2,f13,f14,rfl,hlt,m4,E4,tag4,hM4,hS1.trans hS4,hc4,hE4,hT4⟩
 ·obtain rfl:i=a.length:=by omega
  have c1:decide ((a.length:Int)<(a.length:Int))=false:=by simp
  simp only[u_C l40_5.eq_1,rn,pevA,seval,f2,f13,f14,f15,c1]
  rw[List.take_length] at hM1 hE1
  exact hR _ h1 ⟨m1,E1,tag1,hM1,hS1,hc1,hE1,hT1⟩
end
end Go.Proofs.Ytkopkbhpompmnaa.p
namespace Go.Proofs.Ytkopkbhpompmnaa.p
open Go.Proofs Go Go.Cn code
set_option linter.unusedSimpArgs false
set_option linter.unusedVariables false
variable {S:List Nm}
section
variable (hbd:BdOK)(hS0:∀y,y∈S->y≠[95])(hS:S.length<=20001)
include hbd hS0 hS in
theorem sc_all:∀n:Nat,ScOK S n
 |0=>fun B e w=>by rw[WfX] at w;exact w.elim
 |n+1=>by
  have ih:=sc_all n
  rintro B ⟨k,pp,nm,v,l,a,bs⟩ w K h b p q n1 n2 n3 hkb hkp hkq t0 m out E tag hm hM hE ho hT
  rw[WfX] at w
  obtain⟨w1,w2,w3,C,c1,c2,c3,w4,w5,w6⟩:=w
  rw[frX]
  by_cases h1:k=1
  ·subst h1
   rw[if_pos rfl]
   exact var_ok hS nm (w1 rfl).1 K h b p q n1 n2 n3 hkb hkp hkq t0 m out E tag (fun y=>(hm y).1) hM hE ho hT pp v l a bs
  ·rw[if_neg h1]
   by_cases h6:k=6
   ·subst h6
    rw[if_pos rfl]
    exact lam_ok ih B C nm (c2 rfl) l w4 K h b p q n1 n2 n3 hkb hkp hkq t0 m out E tag hm hM hE ho hT pp v a bs
   ·rw[if_neg h6]
    by_cases h7:k=7
    ·subst h7
     rw[if_pos rfl]
     exact let_ok ih B C bs (c3 rfl) l w4 w6 K h b p q n1 n2 n3 hkb hkp hkq t0 m out E tag hm hM hE ho hT pp v nm a
    ·rw[if_neg h7]
     refine ACall.retQ t40 fun hK=>?_
     simp only[u_C c40.eq_1,rn,pevA,seval,exR]
     intro c2 hc2 hkc2
     simp only[rn,pevA,seval]
     intro c3 hc3 hkc3
     obtain⟨nc,hc3⟩:=AH.set_none.1 hc3
     have hM2:=(hM.new (o:=.cells [.ptr b 0] 96) hc2).new (o:=.cells [.int .i64 k,.int .i64 pp,.str nm,.int .i64 v,.lst 65 (exsR l) .no,.lst 135 (alsR a) .no,.lst 67 (bisR bs) .no] 65) (AH.set_none.2 ⟨nc,hc3⟩)
     obtain⟨x1,x2,x3⟩:=hM.ne hc2
     obtain⟨y1,y2,y3⟩:=hM.ne hc3
     have back:∀(n:Nat)(x:AO),n≠b->n≠p->n≠q->h.objs n=some x->((h.set c2 (.cells [.ptr b 0] 96)).set c3 (.cells [.int .i64 k,.int .i64 pp,.str nm,.int .i64 v,.lst 65 (exsR l) .no,.lst 135 (alsR a) .no,.lst 67 (bisR bs) .no] 65)).objs n=some x:=fun n x a1 a2 a3 hn=>by
      rw[AH.set_ne _ _ (fun e=>by rw[e,hc3] at hn;cases hn),AH.set_ne _ _ (fun e=>by rw[e,hc2] at hn;cases hn)];exact hn
     have g2:((h.set c2 (.cells [.ptr b 0] 96)).set c3 (.cells [.int .i64 k,.int .i64 pp,.str nm,.int .i64 v,.lst 65 (exsR l) .no,.lst 135 (alsR a) .no,.lst 67 (bisR bs) .no] 65)).objs c2=some (.cells [.ptr b 0] 96):=by rw[AH.set_ne _ _ nc.symm,AH.set_same]
     have g3:((h.set c2 (.cells [.ptr b 0] 96)).set c3 (.cells [.int .i64 k,.int .i64 pp,.str nm,.int .i64 v,.lst 65 (exsR l) .no,.lst 135 (alsR a) .no,.lst 67 (bisR bs) .no] 65)).objs c3=some (.cells [.int .i64 k,.int .i64 pp,.str nm,.int .i64 v,.lst 65 (exsR l) .no,.lst 135 (alsR a) .no,.lst 67 (bisR bs) .no] 65):=AH.set_same _ _ _
     have ht2:((h.set c2 (.cells [.ptr b 0] 96)).set c3 (.cells [.int .i64 k,.int .i64 pp,.str nm,.int .i64 v,.lst 65 (exsR l) .no,.lst 135 (alsR a) .no,.lst 67 (bisR bs) .no] 65)).toks=h.toks:=rfl
     have d1:decide (k=1)=false:=decide_eq_false h1
     have d6:decide (k=6)=false:=decide_eq_false h6
     have d7:decide (k=7)=false:=decide_eq_false h7
     simp only[rn,pevA,seval]
     generalize ((h.set c2 (.cells [.ptr b 0] 96)).set c3 (.cells [.int .i64 k,.int .i64 pp,.str nm,.int .i64 v,.lst 65 (exsR l) .no,.lst 135 (alsR a) .no,.lst 67 (bisR bs) .no] 65))=h2 at hM2 back g2 g3 ht2 ⊢
     simp only[rn,pevA,seval,g2,g3,d1,d6,d7]
     refine (all_ok ih C l w4 K h2 b p q n1 n2 n3 hkb hkp hkq t0 m out E tag (fun y=>by have:=hm y;omega) hM2 hE ho (by rw[ht2];exact hT)).mono ?_
     rintro _ h3 ⟨rfl,m3,E3,tag3,hM3,hS3,hc3',hE3,hT3⟩
     have k2:h3.objs c2=some (.cells [.ptr b 0] 96):=by rw[hS3 c2 x1 x2 x3];exact g2
     have k3:h3.objs c3=some (.cells [.int .i64 k,.int .i64 pp,.str nm,.int .i64 v,.lst 65 (exsR l) .no,.lst 135 (alsR a) .no,.lst 67 (bisR bs) .no] 65):=by rw[hS3 c3 y1 y2 y3];exact g3
     have hoo:OutOk S (l.foldl (fun o x=>frX n x (bdF m) o) out):=.fold (fun y hy o ho=>frX_ok (w4 y hy) ho) ho
     simp only[rn,pevA,seval,k2,k3,alsR_len]
     refine alts_loop ih hbd hS0 C B c1 a w5 K h3 b p q c2 n1 n2 n3 x1 x2 x3 hkb hkp hkq t0 m3 _ E3 tag3 (fun y=>by rw[hc3' y];exact hm y) hM3 hE3 hoo hT3 k2 _ _ (fun fr h4 hP=>?hR) ?a2 ?a13 ?a14 ?a15
     case a2=>rfl
     case a13=>rfl
     case a14=>rfl
     case a15=>rfl
     rw[bdF_eq hc3'] at hP
     obtain⟨m4,E4,tag4,hM4,hS4,hc4,hE4,hT4⟩:=hP
     obtain⟨h5,f5,le5,k5⟩:=FrP.back (h:=h) n1 n2 n3 ⟨m4,E4,tag4,hM4,hS3.trans hS4,fun y=>(hc4 y).trans (hc3' y),hE4,hT4⟩ back hK hkb hkp hkq
     simp only[rn,pevA,seval]
     exact⟨_,h5,.weak (.refl _) (.drop le5 (.refl _ _)),k5,rfl,f5⟩
include hbd hS0 hS in
theorem Free_ok {n B:Nat}{e:Ex}(w:WfX S n B e)(hB:B<=1000000000):Pure T 22 [.agg (exR e)] (.lst 9 (strC (freeV n e)) .no):=by
 intro K h
 refine ACall.ret t22 fun hK=>?_
 have call:=sc_all hbd hS0 hS n B e w
 obtain⟨k,pp,nm,v,l,a,bs⟩:=e
 simp only[exR] at call
 simp only[u_C c22.eq_1,rn,pevA,seval,exR]
 intro p hp hkp
 simp only[rn,pevA,seval]
 intro q hq hkq
 obtain⟨n2,hq⟩:=AH.set_none.1 hq
 simp only[rn,pevA,seval]
 intro b hb hkb
 obtain⟨n32,n3,hb⟩:=new3.1 hb
 simp only[rn,pevA,seval]
 have hM:FrM (((h.set p (.map [])).set q (.map [])).set b (.cells [.map p,.map q,.lst 0 [] .nil] 100)) b p q [] [] 0 .nil:=
  ⟨AH.set_same _ _ _,by rw[AH.set_ne _ _ n3.symm,AH.set_ne _ _ n2.symm,AH.set_same];rfl,by rw[AH.set_ne _ _ n32.symm,AH.set_same];rfl⟩
 refine (call K _ b p q n3 n2 n32 hkb hkp hkq h.toks [] [] 0 .nil (fun y=>⟨by rw[cmG];omega,by rw[cmG];omega⟩) hM (fun h=>absurd rfl h) .nil (.one _ _ _)).mono ?_
 rintro _ h2 ⟨rfl,m2,E2,tag2,hM2,hS2,hc2,hE2,hT2⟩
 have eb:bdF []=fun _=>false:=by funext y;rfl
 rw[eb] at hM2 hE2
 have e1:=hM2.o
 simp only[rn,pevA,seval,e1]
 refine⟨.lstE fun h=>hE2 (strC_ne h),⟨fun n x hn=>?_,hT2.le⟩⟩
 have a1:n≠p:=fun e=>by rw[e,hp] at hn;cases hn
 have a2:n≠q:=fun e=>by rw[e,hq] at hn;cases hn
 have a3:n≠b:=fun e=>by rw[e,hb] at hn;cases hn
 rw[hS2 n a3 a1 a2,AH.set_ne _ _ a3,AH.set_ne _ _ a2,AH.set_ne _ _ a1];exact hn
end
end Go.Proofs.Ytkopkbhpompmnaa.p
namespace Go.Cn
set_option linter.unusedVariables false
set_option linter.unusedSimpArgs false
variable {T:Nat->Option CFun}{K:Nat->Prop}{fr:AFr}{h:AH}
theorem WO.clear {zero:List Value}{x:Operand}{b off n cap:Nat}{cs cs':List AV}{E:TypeId}{Q:AV->AH->Prop}(ha:evA fr x=.slice b off n cap)(hb:h.objs b=some (.cells cs E))(hKb:¬K b)(hn:0<n)
  (ho:((zerosL zero n).map ofC1).all oneA=true)(hp:putA cs off ((zerosL zero n).map ofC1)=some cs')(hq:Q .any (h.set b (.cells cs' E))):WO T K (.e (.clearV zero x)) fr h Q:=by
 intro F σ ρ hA hK hρ
 have hr:Rp F σ (.agg ((zerosL zero n).map ofC1)) (.agg (zerosL zero n).toArray):=by
  obtain⟨g1,g2⟩:=consts_rp (F:=F) (σ:=σ) (zerosL zero n)
  exact .agg (by simp) fun i x y hx hy=>g2 i x y hx (by simpa using hy)
 obtain⟨σ',h1,h2,h3,h4,h5⟩:=hA.store (x:=.agg ((zerosL zero n).map ofC1)) hK hb hKb rfl ho hp hr
 have hv:=hρ x
 rw[ha] at hv
 cases hv':ρ x<;>rw[hv'] at hv<;>cases hv
 have h1':σ.put ⟨b,off,none⟩ (zerosL zero n)=some σ':=by rw[<-h1];rfl
 refine⟨cundef,σ',?_,F,.any,_,h4,h3,h5,.any _,hq⟩
 show (match ρ x with|.slice none _ _=>_|.slice (some a) n _=>_|_=>_)=_
 rw[hv']
 show (if n=0 then _ else _)=_
 rw[if_neg (by omega),h1']
theorem WO.isnilU {x:Operand}{E:TypeId}{Q:AV->AH->Prop}(hx:evA fr x=.lst E [] .no)(hq:∀b,Q (.bool b) h):WO T K (.p (.isnil false (.slice none 0 0) x)) fr h Q:=by
 intro F σ ρ hA hK hρ
 have hv:=hρ x
 rw[hx] at hv
 cases hv':ρ x with
 |slice p n c=>
  cases p with
  |none=>exact⟨.bool true,by show (match isNilAs (.slice none 0 0) (ρ x) with|some b=>_|none=>_)=_;rw[hv'];rfl,F,.bool true,h,.refl,hA,hK,.bool _,hq true⟩
  |some a=>exact⟨.bool false,by show (match isNilAs (.slice none 0 0) (ρ x) with|some b=>_|none=>_)=_;rw[hv'];rfl,F,.bool false,h,.refl,hA,hK,.bool _,hq false⟩
 |_=>rw[hv'] at hv;cases hv
theorem Frz.sliceP {n k b:Nat}{cs:List AV}{E:TypeId}{h h0:AH}{c:AV}(ho:h.objs b=some (.cells cs E))(hn:cs.length=n)(hk:k<=n)(hp:0<k)(hB:n<=big)(hw:Wk (.lst E ((cs.take k).map fun a=>[a]) .no) c)(hl:h0.le (h.del b)):Frz (.slice b 0 k n) h c h0:=by
 have hne:cs≠[]:=fun e=>by rw[e] at hn;simp at hn;omega
 have hlk:(cs.take k).length=k:=by rw[List.length_take];omega
 refine .cells (b:=.lst E ((cs.take k).map fun a=>[a]) .no) ho hne (fun F σ v hF ⟨x,cl,rel,hx,hr⟩ hv=>?_) (.weak hw (.drop hl (.refl _ _)))
 cases hv
 have hlen:x.length=n:=by rw[<-hr.1,hn]
 have:=Rp.lst (F:=F) (σ:=σ) (E:=E) (es:=(cs.take k).map fun a=>[a]) (t:=.no) (b:=b) (off:=0) (cap:=n) (sz:=1) hx (fun e=>by have:=congrArg List.length e;rw[List.length_map,hlk] at this;simp at this;omega) (by omega) (fun e he=>by obtain⟨x,_,rfl⟩:=List.mem_map.1 he;rfl)
  (by rw[List.length_map,hF,hlk];omega) (by rw[List.length_map,hlen,hlk];omega) (by rw[List.length_map,hlk];exact hk) (by rw[List.length_map,hlk];omega) (.inl rfl) (fun i y z hy hz=>by
   rw[single_flat] at hy
   rw[List.getElem?_take] at hy
   split at hy
   ·exact hr.2 i y z hy (by simpa using hz)
   ·cases hy)
 rw[List.length_map,hlk] at this
 exact this
theorem Frz.slice0 {n b:Nat}{cs:List AV}{E E2:TypeId}{h h0:AH}(ho:h.objs b=some (.cells cs E))(hne:cs≠[])(hl:h0.le (h.del b)):Frz (.slice b 0 0 n) h (.lst E2 [] .no) h0:=by
 refine .cells (b:=.lst E2 [] .no) ho hne (fun F σ v hF _ hv=>?_) (.drop hl (.refl _ _))
 cases hv
 exact .lstE E2 _ _ _
end Go.Cn
namespace Go.Proofs.Ytkopkbhpompmnaa.p
open Go.Proofs Go Go.Cn code
set_option linter.unusedSimpArgs false
set_option linter.unusedVariables false
theorem under_ok (v:Nm):Pure T 88 [.str v] (.bool (decide (v=[95]))):=by
 intro K h
 refine ACall.ret t88 fun hK=>?_
 simp only[u_C c88.eq_1,rn,pevA,seval]
 exact⟨.refl _,AH.le_refl _⟩
def firstU:List Nm->Nat
 |[]=>0
 |v::l=>if v=[95] then 0 else firstU l+1
theorem firstU_le:∀l,firstU l<=l.length
 |[]=>Nat.le_refl _
 |v::l=>by
  rw[firstU]
  split
  ·exact Nat.zero_le _
  ·have:=firstU_le l;rw[List.length_cons];omega
theorem firstU_at:∀(l:List Nm)(i:Nat)(v:Nm),l[i]?=some v->i<=firstU l->(v=[95]↔firstU l=i)
 |[],i,v,h,hi=>by simp at h
 |a::l,0,v,h,hi=>by
  simp at h;subst h
  rw[firstU]
  by_cases e:a=[95]
  ·rw[if_pos e];exact⟨fun _=>rfl,fun _=>e⟩
  ·rw[if_neg e];exact⟨fun h=>absurd h e,fun h=>by omega⟩
 |a::l,i+1,v,h,hi=>by
  rw[firstU] at hi ⊢
  by_cases e:a=[95]
  ·rw[if_pos e] at hi;omega
  ·rw[if_neg e] at hi ⊢
   have:=firstU_at l i v (by simpa using h) (by omega)
   rw[this];omega
theorem index_ok (vs:List Nm)(hl:vs.length<=1000000000)(K:Nat->Prop)(h:AH)(b:Nat)(hb:h.objs b=some (.cells (vs.map .str) 9)) :
  ACall T K (.func 95) [.slice b 0 vs.length vs.length,.func 88 [] []] h fun v h'=>v=.int .i64 (if firstU vs<vs.length then (firstU vs:Int) else -1)/\h'=h:=by
 refine ACall.ret t95 fun hK=>?_
 simp only[u_C c95.eq_1,rn,pevA,seval]
 refine aloop (α:=Nat) (fun i fr h1=>fr 0=.slice b 0 vs.length vs.length/\fr 1=.func 88 [] []/\fr 7=.int .i64 (vs.length:Nat)/\fr 8=.int .i64 i/\i<=firstU vs/\h1=h) (fun i=>vs.length-i) 0
  ⟨rfl,rfl,rfl,rfl,Nat.zero_le _,rfl⟩ ?_
 rintro i fr h1 ⟨f0,f1,f7,f8,hi,rfl⟩
 have hfl:=firstU_le vs
 by_cases hlt:i<vs.length
 ·have c1:decide ((i:Int)<(vs.length:Int))=true:=decide_eq_true (by omega)
  have hw:IntKind.i64.wrap ((i:Int)+1)=((i+1:Nat):Int):=by rw[wrap64 ⟨by omega,by omega⟩];rfl
  obtain⟨x,hx⟩ : ∃x,vs[i]?=some x:=⟨vs[i],by simp[hlt]⟩
  have hget:(vs.map AV.str)[i]?=some (.str x):=by rw[List.getElem?_map,hx];rfl
  have hat:=firstU_at vs i x hx hi
  have hi1:((i:Int)<(vs.length:Int))=True:=eq_true (by omega)
  simp only[u_C l95_0.eq_1,rn,pevA,seval,f0,f1,f7,f8,c1,hb,hget,hi1,Nat.mul_one,Nat.zero_add]
  refine (under_ok x).use ?_
  cases hu:decide (x=[95]) with
  |true=>
   have:=hat.1 (of_decide_eq_true hu)
   simp only[rn,pevA,seval]
   rw[if_pos (by omega),this]
   exact⟨.refl _,AH.le_refl _⟩
  |false=>
   have hne:firstU vs≠i:=fun e=>of_decide_eq_false hu (hat.2 e)
   simp only[rn,pevA,seval,f0,f1,f7,f8,hw]
   exact⟨i+1,by show vs.length-(i+1)<vs.length-i;omega,f0,f1,f7,rfl,by show i+1<=firstU vs;omega,rfl⟩
 ·have c1:decide ((i:Int)<(vs.length:Int))=false:=decide_eq_false (by omega)
  simp only[u_C l95_0.eq_1,rn,pevA,seval,f0,f1,f7,f8,c1]
  rw[if_neg (by omega)]
  exact⟨.refl _,AH.le_refl _⟩
theorem boundV_none:∀{vs:List Nm},¬firstU vs<vs.length->boundV vs=vs
 |[],_=>rfl
 |v::l,h=>by
  rw[firstU] at h
  by_cases e:v=[95]
  ·rw[if_pos e] at h;simp at h
  ·rw[if_neg e,List.length_cons] at h
   have:=boundV_none (vs:=l) (by omega)
   unfold boundV at this ⊢
   rw[List.filter_cons,if_pos (by simp[e]),this]
theorem boundV_first:∀{vs:List Nm},firstU vs<vs.length->boundV (vs.take (firstU vs+1))=vs.take (firstU vs)
 |[],h=>by simp[firstU] at h
 |v::l,h=>by
  rw[firstU] at h ⊢
  by_cases e:v=[95]
  ·rw[if_pos e]
   unfold boundV
   simp[e]
  ·rw[if_neg e] at h ⊢
   rw[List.length_cons] at h
   have:=boundV_first (vs:=l) (by omega)
   unfold boundV at this ⊢
   rw[List.take_succ_cons,List.take_succ_cons,List.filter_cons,if_pos (by simp[e]),this]
theorem boundV_take {vs:List Nm}{j:Nat}{x:Nm}(h:vs[j]?=some x):boundV (vs.take (j+1))=boundV (vs.take j)++(if x=[95] then [] else [x]):=by
 rw[List.take_add_one,h]
 unfold boundV
 show (vs.take j++[x]).filter _=_
 rw[List.filter_append]
 congr 1
 by_cases e:x=[95]
 ·simp[e]
 ·simp[e]
theorem strC_map (vs:List Nm):(vs.map AV.str).map (fun a=>[a])=strC vs:=by rw[strC,List.map_map];rfl
structure DelS (vs:List Nm)(j:Nat)(cs:List AV):Prop where
 len:cs.length=vs.length
 pre:cs.take (boundV (vs.take j)).length=(boundV (vs.take j)).map .str
 suf:cs.drop j=(vs.drop j).map .str
 lt:(boundV (vs.take j)).length<j
theorem DelS.keep {vs:List Nm}{j:Nat}{cs:List AV}{x:Nm}(s:DelS vs j cs)(hj:vs[j]?=some x)(hx:¬x=[95]):DelS vs (j+1) (cs.set (boundV (vs.take j)).length (.str x)):=by
 have hb:=boundV_take hj
 rw[if_neg hx] at hb
 have hjl:j<vs.length:=by
  rcases Nat.lt_or_ge j vs.length with h|h
  ·exact h
  ·rw[List.getElem?_eq_none h] at hj;cases hj
 have hl:=s.lt
 refine⟨by rw[List.length_set];exact s.len,?_,?_,?_⟩
 ·rw[hb,List.length_append,List.map_append,List.length_singleton,List.map_singleton, <-s.pre]
  rw[List.take_add_one,List.getElem?_set_self (by rw[s.len];omega),List.take_set_of_le (Nat.le_refl _)]
  rfl
 ·have:=congrArg (List.drop 1) s.suf
  rw[List.drop_drop, <-List.map_drop,List.drop_drop] at this
  rw[List.drop_set_of_lt (by omega)]
  exact this
 ·rw[hb,List.length_append,List.length_singleton];omega
theorem DelS.skip {vs:List Nm}{j:Nat}{cs:List AV}{x:Nm}(s:DelS vs j cs)(hj:vs[j]?=some x)(hx:x=[95]):DelS vs (j+1) cs:=by
 have hb:=boundV_take hj
 rw[if_pos hx,List.append_nil] at hb
 have hl:=s.lt
 refine⟨s.len,by rw[hb];exact s.pre,?_,by rw[hb];omega⟩
 have:=congrArg (List.drop 1) s.suf
 rw[List.drop_drop, <-List.map_drop,List.drop_drop] at this
 exact this
theorem DelS.get {vs:List Nm}{j:Nat}{cs:List AV}{x:Nm}(s:DelS vs j cs)(hj:vs[j]?=some x):cs[j]?=some (.str x):=by
 have:(cs.drop j)[0]?=((vs.drop j).map AV.str)[0]?:=by rw[s.suf]
 rw[List.getElem?_drop,List.getElem?_map,List.getElem?_drop,Nat.add_zero,hj] at this
 exact this
theorem zerosS (n:Nat):(zerosL [(.string ⟨⟨[]⟩⟩)] n).map ofC1=List.replicate n (.str []):=by
 induction n with
 |zero=>rfl
 |succ n ih=>rw[zerosL,List.map_append,ih];rfl
theorem all_rep (n:Nat):(List.replicate n (AV.str [])).all oneA=true:=by
 rw[List.all_eq_true];intro x hx;rw[(List.mem_replicate.1 hx).2];rfl
theorem delete_ok (vs:List Nm)(h0v:vs≠[])(hl:vs.length<=1000000000)(K:Nat->Prop)(h:AH)(b:Nat)(hb:h.objs b=none)(hk:¬K b) :
  ACall T K (.func 86) [.slice b 0 vs.length vs.length,.func 88 [] []] (h.set b (.cells (vs.map .str) 9)) fun v h'=>v=.lst 9 (strC (boundV vs)) .no/\h'=h:=by
 refine ACall.retQ t86 fun hK0=>?_
 have hpos:0<vs.length:=List.length_pos_iff.2 h0v
 have hK:KOk K h:=fun n hn=>by
  obtain⟨o,ho⟩:=hK0 n hn
  rw[AH.set_ne _ _ (fun e=>hk (by rw[<-e];exact hn))] at ho
  exact⟨o,ho⟩
 have hdel:∀o:AO,h.le ((h.set b o).del b):=fun o=>le_del (le_set (AH.le_refl h) hb) hb
 simp only[u_C c86.eq_1,rn,pevA,seval]
 refine (index_ok vs hl K _ b (AH.set_same _ _ _)).mono ?_
 rintro _ _ ⟨rfl,rfl⟩
 by_cases hf:firstU vs<vs.length
 ·rw[if_pos hf]
  have c1:decide ((firstU vs:Int)= -1)=false:=decide_eq_false (by omega)
  have hw0:IntKind.i64.wrap ((firstU vs:Int)+1)=((firstU vs+1:Nat):Int):=by rw[wrap64 ⟨by omega,by omega⟩];rfl
  simp only[rn,pevA,seval,c1,hw0]
  have hbf:=boundV_first hf
  have hbl:(vs.take (firstU vs)).length=firstU vs:=by rw[List.length_take];omega
  refine aloop (α:=Nat) (fun j fr h1=>fr 0=.slice b 0 vs.length vs.length/\fr 1=.func 88 [] []/\fr 5=.int .i64 ((boundV (vs.take j)).length:Nat)/\fr 6=.int .i64 j/\j<=vs.length/\∃cs,DelS vs j cs/\h1=h.set b (.cells cs 9)) (fun j=>vs.length-j) (firstU vs+1)
   ⟨rfl,rfl,by rw[hbf,hbl];rfl,rfl,hf,vs.map .str,⟨by simp,by rw[hbf,hbl,List.map_take],by rw[List.map_drop],by rw[hbf,hbl];omega⟩,rfl⟩ ?_
  rintro j fr h1 ⟨f0,f1,f5,f6,hj,cs,hD,rfl⟩
  have hDl:=hD.lt
  have hDn:=hD.len
  by_cases hlt:j<vs.length
  ·have c2:decide ((j:Int)<(vs.length:Int))=true:=decide_eq_true (by omega)
   have hi1:((j:Int)<(vs.length:Int))=True:=eq_true (by omega)
   have hw:IntKind.i64.wrap ((j:Int)+1)=((j+1:Nat):Int):=by rw[wrap64 ⟨by omega,by omega⟩];rfl
   obtain⟨x,hx⟩ : ∃x,vs[j]?=some x:=⟨vs[j],by simp[hlt]⟩
   have hget:=hD.get hx
   simp only[u_C l86_0.eq_1,rn,pevA,seval,f0,f1,f5,f6,c2,hi1,hget,Nat.mul_one,Nat.zero_add]
   refine (under_ok x).use ?_
   cases hu:decide (x=[95]) with
   |true=>
    have hbt:=boundV_take hx
    rw[if_pos (of_decide_eq_true hu),List.append_nil] at hbt
    simp only[rn,pevA,seval,f0,f1,f5,f6,hw]
    exact⟨j+1,by show vs.length-(j+1)<vs.length-j;omega,f0,f1,by rw[hbt];exact f5,rfl,hlt,cs,hD.skip hx (of_decide_eq_true hu),rfl⟩
   |false=>
    have hbt:=boundV_take hx
    rw[if_neg (of_decide_eq_false hu)] at hbt
    have hi2:(((boundV (vs.take j)).length:Int)<(vs.length:Int))=True:=eq_true (by omega)
    have hw2:IntKind.i64.wrap (((boundV (vs.take j)).length:Int)+1)=(((boundV (vs.take j)).length+1:Nat):Int):=by rw[wrap64 ⟨by omega,by omega⟩];rfl
    have hK2:=hD.keep hx (of_decide_eq_false hu)
    have hblt:(boundV (vs.take j)).length<cs.length:=by omega
    have hputE:cs.take (boundV (vs.take j)).length++[AV.str x]++cs.drop ((boundV (vs.take j)).length+1)=cs.set (boundV (vs.take j)).length (.str x):=by rw[List.set_eq_take_append_cons_drop,if_pos hblt];simp
    simp only[rn,pevA,seval,f0,f1,f5,f6,hi2,Nat.mul_one,Nat.zero_add,hk,hw,hw2]
    refine onS_if (by omega) ?_
    rw[hputE]
    simp only[rn,pevA,seval,f0,f1,f5,f6,hw,hw2]
    exact⟨j+1,by show vs.length-(j+1)<vs.length-j;omega,f0,f1,by rw[hbt,List.length_append];rfl,rfl,hlt,_,hK2,rfl⟩
  ·obtain rfl:j=vs.length:=by omega
   have c2:decide ((vs.length:Int)<(vs.length:Int))=false:=by simp
   rw[List.take_length] at f5 hDl
   simp only[u_C l86_0.eq_1,rn,pevA,seval,f0,f1,f5,f6,c2]
   have hpre:=hD.pre
   rw[List.take_length] at hpre
   generalize boundV vs=ws at f5 hDl hpre ⊢
   have a1:(0<=(ws.length:Int))=True:=eq_true (by omega)
   have a2:((ws.length:Int)<=(vs.length:Int))=True:=eq_true (by omega)
   simp only[rn,pevA,seval,f0,f1,f5,f6,a1,a2,Option.map,and_self,if_true,Int.toNat_natCast,Nat.sub_zero,Int.le_refl,Nat.mul_one,Nat.zero_add,Nat.zero_mul]
   have hput:putA cs ws.length ((zerosL [(.string ⟨⟨[]⟩⟩)] (vs.length-ws.length)).map ofC1)=some (cs.take ws.length++List.replicate (vs.length-ws.length) (.str [])):=by
    rw[zerosS]
    unfold putA
    rw[if_pos (by rw[List.length_replicate];omega),List.length_replicate,List.drop_eq_nil_of_le (by omega),List.append_nil]
   refine WO.clear (b:=b) (off:=ws.length) (n:=vs.length-ws.length) (cap:=vs.length-ws.length) rfl (AH.set_same _ _ _) hk (by omega) (by rw[zerosS];exact all_rep _) hput ?_
   simp only[rn,pevA,seval,f0,f1,f5,f6,a1,a2,Option.map,and_self,if_true,Int.toNat_natCast,Nat.sub_zero,Int.le_refl,Nat.mul_one,Nat.zero_add,Nat.zero_mul]
   have hcl:(cs.take ws.length++List.replicate (vs.length-ws.length) (AV.str [])).length=vs.length:=by rw[List.length_append,List.length_take,List.length_replicate];omega
   have htk:(cs.take ws.length++List.replicate (vs.length-ws.length) (AV.str [])).take ws.length=ws.map .str:=by
    rw[List.take_append_of_le_length (by rw[List.length_take];omega),List.take_of_length_le (by rw[List.length_take];omega),hpre]
   by_cases hw0:ws=[]
   ·subst hw0
    exact⟨_,h,Frz.slice0 (AH.set_same _ _ _) (fun e=>by rw[e] at hcl;simp at hcl;omega) (hdel _),hK,rfl,rfl⟩
   ·exact⟨_,h,Frz.sliceP (AH.set_same _ _ _) hcl (by omega) (List.length_pos_iff.2 hw0) (by show _<=2 ^ 47;omega) (by rw[htk,strC_map];exact .refl _) (hdel _),hK,rfl,rfl⟩
 ·rw[if_neg hf]
  rw[boundV_none hf]
  simp only[rn,pevA,seval,(by decide:decide ((-1:Int)= -1)=true)]
  exact⟨_,h,Frz.slice1 (AH.set_same _ _ _) (by simp) hpos (by show _<=2 ^ 47;omega) (by rw[strC_map];exact .refl _) (hdel _),hK,rfl,rfl⟩
theorem strC_flat:∀vs:List Nm,(strC vs).flatten=vs.map .str
 |[]=>rfl
 |v::vs=>by
  show ([AV.str v]::strC vs).flatten=_
  rw[List.flatten_cons,strC_flat vs];rfl
theorem clone_ok (vs:List Nm)(h0:vs≠[])(hl:vs.length<=1000000000)(K:Nat->Prop)(h:AH):ACall T K (.func 87) [.lst 9 (strC vs) .no] h fun v h'=>∃b,h.objs b=none/\¬K b/\v=.slice b 0 vs.length vs.length/\h'=h.set b (.cells (vs.map .str) 9):=by
 refine ACall.retQ t87x fun hK=>?_
 obtain⟨v0,vr,rfl⟩ : ∃v0 vr,vs=v0::vr:=by cases vs with|nil=>exact absurd rfl h0|cons a b=>exact⟨a,b,rfl⟩
 simp only[u_C c87x.eq_1,rn,pevA,seval]
 refine WO.p (a:=.bool false) rfl ?_
 simp only[rn,pevA,seval]
 refine WO.bslW (cs:=[]) rfl fun b hb hk=>?_
 simp only[rn,pevA,seval]
 refine WO.vec (n:=0) (b:=b) (cs:=[]) (ns:=strC (v0::vr)) rfl (AH.set_same _ _ _) rfl hk rfl trivial (fun e he=>by obtain⟨z,_,rfl⟩:=List.mem_map.1 he;rfl) (flat_one fun e he=>by obtain⟨z,_,rfl⟩:=List.mem_map.1 he;rfl) (by rw[strC_len];simp) (by rw[strC_len];unfold capOk;omega) fun b' hb' hk'=>?_
 rw[strC_flat,strC_len]
 have e:(h.set b (.cells [] 9)).del b=h:=by rw[s_delset,s_del hb]
 rw[e]
 have hn':h.objs b'=none:=(AH.set_none.1 hb').2
 simp only[rn,pevA,seval,Nat.zero_add]
 exact⟨_,_,.refl _ _,hK.set b' _,b',hn',hk',rfl,rfl⟩
theorem clone_nil (K:Nat->Prop)(h:AH):ACall T K (.func 87) [.lst 9 [] .no] h fun v h'=>v=.lst 9 [] .no/\h'=h:=by
 refine ACall.ret t87x fun hK=>?_
 simp only[u_C c87x.eq_1,rn,pevA,seval]
 refine WO.isnilU rfl fun t=>?_
 cases t with
 |true=>
  simp only[rn,pevA,seval]
  exact⟨.nil _ _ _,AH.le_refl _⟩
 |false=>
  simp only[rn,pevA,seval]
  refine WO.bslT0 fun c hc1 hc2=>?_
  simp only[rn,pevA,seval,setT_tk]
  refine WO.append (i:=0) (.row (t:=h.toks) 9 1 0 hc1) rfl rfl rfl trivial (by decide) (by simp) rfl (.inr rfl) (fun hh=>by simp at hh) (by simp[big_eq]) fun tag2 t2 hT2=>?_
  simp only[rn,pevA,seval]
  exact⟨.lstE fun e=>absurd rfl e,le_tk (AH.le_refl _) hT2.le⟩
theorem delete_nil (K:Nat->Prop)(h:AH):ACall T K (.func 86) [.lst 9 [] .no,.func 88 [] []] h fun v h'=>v=.lst 9 [] .no/\h'=h:=by
 have idx:ACall T K (.func 95) [.lst 9 [] .no,.func 88 [] []] h fun v h'=>v=.int .i64 (-1)/\h'=h:=by
  refine ACall.ret t95 fun hK=>?_
  simp only[u_C c95.eq_1,rn,pevA,seval]
  refine aloop (α:=Nat) (fun i fr h1=>fr 7=.int .i64 (0:Nat)/\fr 8=.int .i64 (0:Nat)/\h1=h) (fun i=>0) 0 ⟨rfl,rfl,rfl⟩ ?_
  rintro i fr h1 ⟨f7,f8,rfl⟩
  simp only[u_C l95_0.eq_1,rn,pevA,seval,f7,f8,(by decide:decide (((0:Nat):Int)<((0:Nat):Int))=false)]
  exact⟨.refl _,AH.le_refl _⟩
 refine ACall.ret t86 fun hK=>?_
 simp only[u_C c86.eq_1,rn,pevA,seval]
 refine idx.mono ?_
 rintro _ _ ⟨rfl,rfl⟩
 simp only[rn,pevA,seval,(by decide:decide ((-1:Int)= -1)=true)]
 exact⟨.refl _,AH.le_refl _⟩
theorem bound_ok:BdOK:=by
 intro vs hl K h
 refine ACall.retQ t66 fun hK=>?_
 simp only[u_C c66.eq_1,rn,pevA,seval]
 by_cases h0:vs=[]
 ·subst h0
  refine (clone_nil K h).mono ?_
  rintro _ _ ⟨rfl,rfl⟩
  simp only[rn,pevA,seval]
  refine (delete_nil K _).mono ?_
  rintro _ _ ⟨rfl,rfl⟩
  simp only[rn,pevA,seval]
  exact⟨_,_,.refl _ _,hK,rfl,rfl⟩
 ·refine (clone_ok vs h0 hl K h).mono ?_
  rintro _ _ ⟨b,hb,hk,rfl,rfl⟩
  simp only[rn,pevA,seval]
  refine (delete_ok vs h0 hl K h b hb hk).mono ?_
  rintro _ _ ⟨rfl,rfl⟩
  simp only[rn,pevA,seval]
  exact⟨_,_,.refl _ _,hK,rfl,rfl⟩
end Go.Proofs.Ytkopkbhpompmnaa.p
namespace Go.Proofs.Ytkopkbhpompmnaa.p
open Go.Proofs Go Go.Cn code
set_option linter.unusedSimpArgs false
set_option linter.unusedVariables false
variable {S:List Nm}
theorem index2_ok (E:TypeId)(l:List Nm)(t:Tag)(v:Nm)(K:Nat->Prop)(h:AH):ACall T K (.func 41) [.lst E (strC l) t,.str v] h fun r h'=>(∃n:Int,r=.int .i64 n/\(0<=n↔v∈l))/\h'=h:=by
 refine ACall.retQ t41 fun hK=>?_
 simp only[u_C c41.eq_1,rn,pevA,seval,strC_len]
 refine W.bound (t:=0) rfl fun hB=>?_
 rw[strC_len] at hB
 refine aloop (α:=Nat) (fun k fr h1=>fr 0=.lst E (strC l) t/\fr 1=.str v/\fr 7=.int .i64 (l.length:Nat)/\fr 8=.int .i64 k/\k<=l.length/\v∉l.take k/\h1=h) (fun k=>l.length-k) 0 ⟨rfl,rfl,rfl,rfl,Nat.zero_le _,by simp,rfl⟩ ?_
 rintro k fr h1 ⟨f0,f1,f7,f8,hk,hv,rfl⟩
 by_cases hlt:k<l.length
 ·have c1:decide ((k:Int)<(l.length:Int))=true:=decide_eq_true (by omega)
  have hw:IntKind.i64.wrap ((k:Int)+1)=((k+1:Nat):Int):=by unfold big at hB;rw[wrap64 ⟨by omega,by omega⟩];rfl
  obtain⟨a,ha⟩ : ∃a,l[k]?=some a:=⟨l[k],by simp[hlt]⟩
  have hget:(strC l)[k]?=some [.str a]:=by rw[strC_get,ha];rfl
  cases he:decide (v=a) with
  |true=>
   have hm:v∈l:=by rw[of_decide_eq_true he];exact List.mem_of_getElem? ha
   simp only[u_C l41_0.eq_1,rn,pevA,seval,f0,f1,f7,f8,c1,hget,he]
   exact⟨_,h1,.refl _ _,hK,⟨k,rfl,fun _=>hm,fun _=>by omega⟩,rfl⟩
  |false=>
   simp only[u_C l41_0.eq_1,rn,pevA,seval,f0,f1,f7,f8,c1,hget,he,hw]
   exact⟨k+1,by show l.length-(k+1)<l.length-k;omega,f0,f1,f7,rfl,hlt,by rw[List.take_add_one,ha];simp only[Option.toList,List.mem_append,List.mem_singleton,not_or];exact⟨hv,of_decide_eq_false he⟩,rfl⟩
 ·obtain rfl:k=l.length:=by omega
  have c1:decide ((l.length:Int)<(l.length:Int))=false:=by simp
  simp only[u_C l41_0.eq_1,rn,pevA,seval,f0,f1,f7,f8,c1]
  rw[List.take_length] at hv
  exact⟨_,h1,.refl _ _,hK,⟨-1,rfl,fun h=>absurd h (by decide),fun h=>absurd h hv⟩,rfl⟩
theorem contains_ok (E:TypeId)(l:List Nm)(t:Tag)(v:Nm):Pure T 23 [.lst E (strC l) t,.str v] (.bool (decide (v∈l))):=by
 intro K h
 refine ACall.ret t23 fun hK=>?_
 simp only[u_C c23.eq_1,rn,pevA,seval]
 refine (index2_ok E l t v K h).mono ?_
 rintro _ _ ⟨⟨n,rfl,hn⟩,rfl⟩
 simp only[rn,pevA,seval,hn]
 exact⟨.refl _,AH.le_refl _⟩
theorem needs_ok (hS0:∀y,y∈S->y≠[95])(hS:S.length<=20001){n B:Nat}(bs:List Bi)(hbs:bs.length<=1000000)(i:Nat)(b:Bi)(hi:bs[i]?=some b)(w:WfX S n B b.2.2.2.1)(hB:B<=1000000000):Pure T 9 [.lst 67 (bisR bs) .no,.int .i64 (i:Nat)] (.lst 3 (itC (needsU (freeV n b.2.2.2.1) bs bs.length)) .no):=by
 intro K h
 refine ACall.ret t9 fun hK=>?_
 have hlt:i<bs.length:=by
  rcases Nat.lt_or_ge i bs.length with h|h
  ·exact h
  ·rw[List.getElem?_eq_none h] at hi;cases hi
 have hget:=bisR_get hi
 have call:=Free_ok bound_ok hS0 hS w hB
 generalize freeV n b.2.2.2.1=free at call ⊢
 obtain⟨bn,bg,⟨sv,sc,⟨tk,tn,tl⟩⟩,⟨k,p,nm,v,xl,xa,xb⟩,q⟩:=b
 simp only[biR,schR,tyR,exR,List.cons_append,List.nil_append] at hget
 simp only[exR] at call
 have d1:decide ((i:Int)<0)=false:=decide_eq_false (by omega)
 have d2:decide ((bs.length:Int)<=(i:Int))=false:=decide_eq_false (by omega)
 simp only[u_C c9.eq_1,rn,pevA,seval,bisR_len,d1,d2,hget]
 refine call.use ?_
 simp only[rn,pevA,seval,bisR_len]
 refine aloop (α:=Nat) (fun k fr h1=>fr 23=.lst 67 (bisR bs) .no/\fr 24=.int .i64 (bs.length:Nat)/\fr 5=.lst 9 (strC free) .no/\fr 25=.int .i64 k/\k<=bs.length/\∃E tag t',fr 6=.lst E (itC (needsU free bs k)) tag/\(itC (needsU free bs k)≠[]->E=3)/\Toks h.toks t' [(tag,3,1,0)]/\h1=h.tk t') (fun k=>bs.length-k) 0
  ⟨rfl,rfl,rfl,rfl,Nat.zero_le _,0,.nil,h.toks,rfl,fun h=>absurd rfl h,.one _ _ _,rfl⟩ ?_
 clear hget
 rintro k fr h1 ⟨f23,f24,f5,f25,hk,E,tag,t',f6,hE,hT,rfl⟩
 by_cases hkl:k<bs.length
 ·have c1:decide ((k:Int)<(bs.length:Int))=true:=decide_eq_true (by omega)
  have hw:IntKind.i64.wrap ((k:Int)+1)=((k+1:Nat):Int):=by rw[wrap64 ⟨by omega,by omega⟩];rfl
  obtain⟨x,hx⟩ : ∃x,bs[k]?=some x:=⟨bs[k],by simp[hkl]⟩
  have hn:needsU free bs (k+1)=needsU free bs k++(if x.2.1=false/\x.1∈free then [(k:Int)] else []):=by rw[needsU,hx]
  have hln:=needsU_len free bs k
  have hget:=bisR_get hx
  obtain⟨bn,bg,⟨sv,sc,⟨tk,tn,tl⟩⟩,⟨k2,p,nm,v,xl,xa,xb⟩,q⟩:=x
  simp only[biR,schR,tyR,exR,List.cons_append,List.nil_append] at hget
  dsimp only at hn
  simp only[u_C l9_0.eq_1,rn,pevA,seval,f23,f24,f5,f6,f25,c1,hget]
  intro b8 hb8 hk8
  have e9:h.del b8=h:=s_del hb8
  cases hg:bg with
  |true=>
   subst hg
   rw[if_neg (by simp),List.append_nil] at hn
   simp only[rn,pevA,seval,f23,f24,f5,f6,f25,hk8,hw]
   rw[e9]
   exact⟨k+1,by show bs.length-(k+1)<bs.length-k;omega,f23,f24,f5,rfl,hkl,E,tag,t',by rw[hn];exact f6,by rw[hn];exact hE,hT,rfl⟩
  |false=>
   subst hg
   simp only[rn,pevA,seval,f23,f24,f5,f6,f25,hk8]
   rw[e9]
   refine (contains_ok 9 free .no bn).use ?_
   cases hm:decide (bn∈free) with
   |true=>
    rw[if_pos ⟨rfl,of_decide_eq_true hm⟩] at hn
    simp only[rn,pevA,seval,f23,f24,f5,f6,f25]
    refine WO.append (i:=0) hT rfl rfl rfl trivial (by decide) (by simp) rfl (.inr rfl) (fun _=>?_) ?_ fun tag2 t2 hT2=>?_
    ·simp only[capOk,itC_len,List.length_cons,List.length_nil];omega
    ·simp only[big_eq,itC_len,List.length_cons,List.length_nil];omega
    rw[itC_app]
    simp only[rn,pevA,seval,f23,f24,f5,f6,f25,hw]
    exact⟨k+1,by show bs.length-(k+1)<bs.length-k;omega,f23,f24,f5,rfl,hkl,3,tag2,t2,by rw[hn];rfl,fun _=>rfl,hT2,rfl⟩
   |false=>
    rw[if_neg (fun h=>of_decide_eq_false hm h.2),List.append_nil] at hn
    simp only[rn,pevA,seval,f23,f24,f5,f6,f25,hw]
    exact⟨k+1,by show bs.length-(k+1)<bs.length-k;omega,f23,f24,f5,rfl,hkl,E,tag,t',by rw[hn];exact f6,by rw[hn];exact hE,hT,rfl⟩
 ·obtain rfl:k=bs.length:=by omega
  have c1:decide ((bs.length:Int)<(bs.length:Int))=false:=by simp
  simp only[u_C l9_0.eq_1,rn,pevA,seval,f23,f24,f5,f6,f25,c1]
  exact⟨.lstE hE,le_tk (AH.le_refl _) hT.le⟩
end Go.Proofs.Ytkopkbhpompmnaa.p
namespace Go.Proofs.Ytkopkbhpompmnaa.q
open Go.Proofs Go Go.Cn code grp
set_option linter.unusedSimpArgs false
set_option linter.unusedVariables false
def lC (l:List Int):List (List AV):=l.map fun n=>[.int .i64 n]
theorem lC_len (l:List Int):(lC l).length=l.length:=by rw[lC,List.length_map]
theorem lC_get (l:List Int)(i:Nat):(lC l)[i]?=(l[i]?).map fun n=>[AV.int .i64 n]:=by rw[lC,List.getElem?_map]
theorem lC_app (l m:List Int):lC (l++m)=lC l++lC m:=by rw[lC,List.map_append];rfl
def rowsC (x:List (List Int)):List (List AV):=x.map fun r=>[.lst 3 (lC r) .no]
theorem rowsC_len (l:List (List Int)):(rowsC l).length=l.length:=by rw[rowsC,List.length_map]
theorem rowsC_get (l:List (List Int))(i:Nat):(rowsC l)[i]?=(l[i]?).map fun n=>[AV.lst 3 (lC n) .no]:=by rw[rowsC,List.getElem?_map]
abbrev Sr:=List (TypeId×List Int×Tag)
def srC (S:Sr):List AV:=S.map fun s=>.lst s.1 (lC s.2.1) s.2.2
def srT (S:Sr):List (Tag×TypeId×Nat×Nat):=S.map fun s=>(s.2.2,3,1,0)
def srX (S:Sr):List (List Int):=S.map fun s=>s.2.1
theorem srC_len (S:Sr):(srC S).length=S.length:=by rw[srC,List.length_map]
theorem srC_get (S:Sr)(i:Nat):(srC S)[i]?=(S[i]?).map fun s=>AV.lst s.1 (lC s.2.1) s.2.2:=by rw[srC,List.getElem?_map]
theorem srT_get (S:Sr)(i:Nat):(srT S)[i]?=(S[i]?).map fun s=>(s.2.2,3,1,0):=by rw[srT,List.getElem?_map]
theorem map_set' {α β:Type}(f:α->β):∀(l:List α)(k:Nat)(a:α),(l.set k a).map f=(l.map f).set k (f a)
 |[],k,a=>rfl
 |b::l,0,a=>rfl
 |b::l,k+1,a=>by show f b::(l.set k a).map f=_;rw[map_set' f l k a];rfl
theorem set_put {α:Type}:∀(l:List α)(k:Nat)(a:α),k<l.length->l.set k a=l.take k++[a]++l.drop (k+1)
 |b::l,0,a,h=>rfl
 |b::l,k+1,a,h=>by
  show b::l.set k a=_
  rw[set_put l k a (by simp at h;omega)]
  rfl
theorem srC_set (S:Sr)(k:Nat)(s:TypeId×List Int×Tag)(hk:k<S.length):(srC S).take k++[AV.lst s.1 (lC s.2.1) s.2.2]++(srC S).drop (k+1)=srC (S.set k s):=by
 rw[<-set_put _ _ _ (by rw[srC_len];exact hk),srC,srC,map_set']
theorem single_flat:∀cs:List AV,(cs.map fun a=>[a]).flatten=cs
 |[]=>rfl
 |a::cs=>by show[a]++(cs.map fun a=>[a]).flatten=_;rw[single_flat cs];rfl
theorem Frz.slice {n b:Nat}{cs:List AV}{E:TypeId}{h h0:AH}{c:AV}(ho:h.objs b=some (.cells cs E))(hn:cs.length=n)(hp:0<n)(hB:n<=big)(hw:Wk (.lst E (cs.map fun a=>[a]) .no) c)(hl:h0.le (h.del b)):Frz (.slice b 0 n n) h c h0:=by
 have hne:cs≠[]:=fun e=>by rw[e] at hn;simp at hn;omega
 refine .cells (b:=.lst E (cs.map fun a=>[a]) .no) ho hne (fun F σ v hF ⟨x,cl,rel,hx,hr⟩ hv=>?_) (.weak hw (.drop hl (.refl _ _)))
 cases hv
 have hlen:x.length=n:=by rw[<-hr.1,hn]
 have:=Rp.lst (F:=F) (σ:=σ) (E:=E) (es:=cs.map fun a=>[a]) (t:=.no) (b:=b) (off:=0) (cap:=n) (sz:=1) hx (by simpa using hne) (by omega) (fun e he=>by obtain⟨x,_,rfl⟩:=List.mem_map.1 he;rfl)
  (by rw[List.length_map,hF];omega) (by rw[List.length_map,hlen,hn];omega) (by rw[List.length_map,hn];exact Nat.le_refl _) (by rw[List.length_map,hn];exact hB) (.inl rfl) (fun i y z hy hz=>by
   rw[single_flat] at hy
   rw[Nat.zero_add] at hz
   exact hr.2 i y z hy hz)
 rw[List.length_map,hn] at this
 exact this
theorem single_wk {E:TypeId}{cs ds:List AV}(hl:cs.length=ds.length)(h:∀(i:Nat)(x y:AV),cs[i]?=some x->ds[i]?=some y->Wk x y):Wk (.lst E (cs.map fun a=>[a]) .no) (.lst E (ds.map fun a=>[a]) .no):=
 .lst (by simp[hl]) (fun i x y hx hy=>by
  rw[List.getElem?_map,Option.map_eq_some_iff] at hx hy
  obtain⟨a,_,rfl⟩:=hx
  obtain⟨b,_,rfl⟩:=hy
  rfl) (fun i x y hx hy=>by rw[single_flat] at hx hy;exact h i x y hx hy)
theorem zerosL_one (v:Value):∀n,zerosL [v] n=List.replicate n v
 |0=>rfl
 |n+1=>by show[v]++zerosL [v] n=_;rw[zerosL_one v n];rfl
theorem toks_rep (t:Nat->Option Tok)(E sz:Nat):∀n,Toks t t (List.replicate n (.nil,E,sz,0))
 |0=>Toks.init t
 |n+1=>(toks_rep t E sz n).cons E sz
def qF (n:Nat)(v:Int):Int:=IntKind.i64.wrap (v.tdiv n)
def kF (n:Nat)(v:Int):Int:=(v.tmod n+n).tmod n
def stepF (n:Nat)(x:List (List Int))(v:Int):List (List Int):=x.set (kF n v).toNat (x.getD (kF n v).toNat []++[kF n (qF n v)])
def needsF (n:Nat)(l:List Int):List (List Int):=l.foldl (stepF n) (List.replicate n [])
theorem kF_in {n:Nat}(hn:0<n)(v:Int):0<=kF n v/\kF n v<n:=by
 unfold kF
 have h1:=Int.emod_nonneg v (show (n:Int)≠0 by omega)
 have h3 : -(n:Int)<v.tmod n:=by
  have:=Int.lt_tmod_of_pos v (show (0:Int)<n by omega)
  omega
 have h4:v.tmod n<n:=Int.tmod_lt_of_pos v (by omega)
 rw[Int.tmod_eq_emod_of_nonneg (by omega)]
 exact⟨Int.emod_nonneg _ (by omega),Int.emod_lt_of_pos _ (by omega)⟩
theorem wrapK {n:Nat}(hn:0<n)(hn2:n<=15)(v:Int):IntKind.i64.wrap (v.tmod n+n)=v.tmod n+n:=by
 have h3 : -(n:Int)<v.tmod n:=by
  have:=Int.lt_tmod_of_pos v (show (0:Int)<n by omega)
  omega
 have h4:v.tmod n<n:=Int.tmod_lt_of_pos v (by omega)
 exact wrap64 ⟨by omega,by omega⟩
theorem stepF_in {n:Nat}(hn:0<n){x:List (List Int)}(h:InR n x)(v:Int):InR n (stepF n x v):=by
 refine⟨by unfold stepF;rw[List.length_set];exact h.1,fun row hr w hw=>?_⟩
 unfold stepF at hr
 rcases List.mem_or_eq_of_mem_set hr with hr|rfl
 ·exact h.2 row hr w hw
 ·rcases List.mem_append.1 hw with hw|hw
  ·have hk:(kF n v).toNat<x.length:=by have:=kF_in hn v;rw[h.1];omega
   rw[List.getD,List.getElem?_eq_getElem hk] at hw
   exact h.2 _ (List.getElem_mem hk) w hw
  ·rw[List.mem_singleton.1 hw];exact kF_in hn _
theorem needsF_in {n:Nat}(hn:0<n)(l:List Int):InR n (needsF n l):=by
 unfold needsF
 have:∀(l:List Int) x,InR n x->InR n (l.foldl (stepF n) x):=by
  intro l
  induction l with
  |nil=>exact fun x h=>h
  |cons a l ih=>exact fun x h=>ih _ (stepF_in hn h a)
 exact this l _ ⟨by simp,by simp⟩
theorem needs_core (E:TypeId)(l:List Int)(n:Nat)(hn:0<n)(hn2:n<=15)(hl:l.length<=40)(K:Nat->Prop)(h:AH)(Q:AV->AH->Prop)
  (hq:∀b S tk,KOk K h->h.objs b=none->¬K b->S.length=n->srX S=needsF n l->(∀s∈S,s.2.1≠[]->s.1=3)->Toks h.toks tk (srT S)->∃a h'',Frz (.slice b 0 n n) ((h.set b (.cells (srC S) 22)).tk tk) a h''/\KOk K h''/\Q a h''):ACall T K (.func 5) [.lst E (lC l) .no,.int .i64 n] h Q:=by
 refine ACall.retQ t5 fun hK=>?_
 simp only[u_C c5.eq_1,rn,pevA,seval]
 refine WO.mksl (j:=.i64) (k:=.i64) (m:=n) (n:=n) rfl rfl (Nat.le_refl _) (by omega) (by omega) fun b hb hk=>?_
 simp only[rn,pevA,seval]
 have hc0:(zerosL [Value.slice none 0 0] n).map ofC1=srC (List.replicate n (0,[],.nil)):=by
  rw[zerosL_one,srC,List.map_replicate,List.map_replicate];rfl
 rw[hc0]
 refine aloop (α:=Nat×Sr) (fun x fr h1=>fr 0=.lst E (lC l) .no/\fr 1=.int .i64 n/\fr 5=.slice b 0 n n/\fr 6=.int .i64 x.1/\x.1<=l.length/\x.2.length=n/\
   srX x.2=(l.take x.1).foldl (stepF n) (List.replicate n [])/\(∀s∈x.2,(s.2.1≠[]->s.1=3)/\s.2.1.length<=x.1)/\
   ∃tk,Toks h.toks tk (srT x.2)/\h1=(h.set b (.cells (srC x.2) 22)).tk tk) (fun x=>l.length-x.1) (0,List.replicate n (0,[],.nil)) ?_ ?_
 ·refine⟨rfl,rfl,rfl,rfl,Nat.zero_le _,by simp,?_,?_,h.toks,?_,rfl⟩
  ·simp[srX]
  ·intro s hs
   rw[List.eq_of_mem_replicate hs]
   exact⟨fun h=>absurd rfl h,Nat.zero_le _⟩
  ·rw[srT,List.map_replicate];exact toks_rep _ _ _ _
 ·rintro⟨i,S⟩ fr h1 ⟨f0,f1,f5,f6,hi,hS,hX,hg,tk,hT,rfl⟩
  simp only at f6 hi hS hX hg hT
  by_cases hlt:i<l.length
  ·have k1:decide ((i:Int)<(l.length:Nat))=true:=by simp;omega
   have k2:decide ((0:Int)<(n:Nat))=true:=by simp;omega
   obtain⟨v,hv⟩ : ∃v,l[i]?=some v:=⟨_,List.getElem?_eq_getElem hlt⟩
   have hn0:¬((n:Int)=0):=by omega
   have w1:=wrapK hn hn2 v
   have w2:=wrapK hn hn2 (qF n v)
   have hk1:=kF_in hn v
   obtain⟨kk,hkk⟩ : ∃kk:Nat,kF n v=kk:=⟨(kF n v).toNat,by omega⟩
   have hkl:kk<n:=by omega
   have e1:(v.tmod n+n).tmod n=(kk:Int):=hkk
   have c1:(kk:Int)<(n:Int):=by omega
   have eq:IntKind.i64.wrap (v.tdiv n)=qF n v:=rfl
   obtain⟨s,hs⟩ : ∃s,S[kk]?=some s:=⟨_,List.getElem?_eq_getElem (by omega)⟩
   obtain⟨Es,r,ts⟩:=s
   have hgs:=hg _ (List.mem_of_getElem? hs)
   simp only at hgs
   simp only[u_C l5_0.eq_1,rn,pevA,seval,f0,f1,f5,f6,lC_len,lC_get,k1,k2,hv,Option.map_some,hn0,w1,e1,c1,eq,w2,Int.toNat_natCast,Nat.mul_one,srC_get,hs,if_true]
   refine WO.append (i:=kk) hT (by rw[srT_get,hs];rfl) rfl rfl trivial (by decide) ?_ ?_ ?_ ?_ ?_ fun tag' t' hT'=>?_
   ·simp
   ·simp[oneA]
   ·simp
   ·intro _;simp[capOk,lC_len];omega
   ·simp[big_eq,lC_len];omega
   have hi1:IntKind.i64.wrap ((i:Int)+1)=(i:Int)+1:=wrap64 ⟨by omega,by omega⟩
   have em:((qF n v).tmod n+n).tmod n=kF n (qF n v):=rfl
   have hkS:kk<S.length:=by omega
   have hp:kk+1<=(srC S).length:=by rw[srC_len];omega
   have hput:(srC S).take kk++[AV.lst 3 (lC r++[[AV.int .i64 (kF n (qF n v))]]) tag']++(srC S).drop (kk+1)=srC (S.set kk (3,r++[kF n (qF n v)],tag')):=by
    rw[<-srC_set S kk _ hkS]
    show _=(srC S).take kk++[AV.lst 3 (lC (r++[kF n (qF n v)])) tag']++_
    rw[lC_app];rfl
   simp only[hi1,rn,pevA,seval,f0,f1,f5,f6,c1,Int.toNat_natCast,Nat.mul_one,srC_get,hs,if_true,em,hp,hput]
   refine⟨hk,(i+1,S.set kk (3,r++[kF n (qF n v)],tag')),by show l.length-(i+1)<l.length-i;omega,f0,f1,f5,by simp[upd],hlt,by rw[List.length_set];exact hS,?_,?_,t',?_,?_⟩
   ·show srX (S.set kk (3,r++[kF n (qF n v)],tag'))=_
    rw[srX,map_set',List.take_add_one,hv,Option.toList_some,List.foldl_append, <-hX]
    show _=stepF n (srX S) v
    have hr:(srX S).getD kk []=r:=by rw[srX,List.getD,List.getElem?_map,hs];rfl
    unfold stepF
    rw[hkk,Int.toNat_natCast,hr];rfl
   ·intro s hs'
    rcases List.mem_or_eq_of_mem_set hs' with h1|rfl
    ·exact⟨(hg s h1).1,Nat.le_succ_of_le (hg s h1).2⟩
    ·exact⟨fun _=>rfl,by show (r++[_]).length<=i+1;simp;omega⟩
   ·show Toks h.toks t' (srT (S.set kk (3,r++[kF n (qF n v)],tag')))
    rw[srT,map_set']
    exact hT'
   ·rfl
  ·have k1:decide ((i:Int)<(l.length:Nat))=false:=by simp;omega
   have hil:i=l.length:=by omega
   simp only[u_C l5_0.eq_1,rn,pevA,seval,f0,f1,f5,f6,lC_len,lC_get,k1]
   exact hq b S tk hK hb hk hS (by rw[hX,hil,List.take_length];rfl) (fun s hs=>(hg s hs).1) hT
theorem sr_wk {S:Sr}{x:List (List Int)}(hX:srX S=x)(hg:∀s∈S,s.2.1≠[]->s.1=3):Wk (.lst 22 ((srC S).map fun a=>[a]) .no) (.lst 22 (rowsC x) .no):=by
 have e:rowsC x=(x.map fun r=>AV.lst 3 (lC r) .no).map fun a=>[a]:=by rw[rowsC,List.map_map];rfl
 rw[e, <-hX]
 refine single_wk (by rw[srC_len,List.length_map,srX,List.length_map]) fun i x y hx hy=>?_
 rw[srC_get,Option.map_eq_some_iff] at hx
 obtain⟨s,hs,rfl⟩:=hx
 rw[srX,List.map_map,List.getElem?_map,hs] at hy
 cases hy
 refine .lstE fun hne=>(hg s (List.mem_of_getElem? hs)) fun e=>hne ?_
 rw[e];rfl
theorem needs_ok (E:TypeId)(l:List Int)(n:Nat)(hn:0<n)(hn2:n<=15)(hl:l.length<=40):Pure T 5 [.lst E (lC l) .no,.int .i64 n] (.lst 22 (rowsC (needsF n l)) .no):=by
 intro K h
 refine needs_core E l n hn hn2 hl K h _ fun b S tk hK hb hk hS hX hg hT=>?_
 refine⟨_,h,Frz.slice (cs:=srC S) (E:=22) (by rw[tk_objs,AH.set_same]) (by rw[srC_len,hS]) hn (by rw[big_eq];omega) (c:=.lst 22 (rowsC (needsF n l)) .no) (sr_wk hX hg) ?_,hK,rfl,rfl⟩
 rw[tk_del,AH.set_del _ _ hb]
 exact le_tk (AH.le_refl _) hT.le
def bC (d:List Bool):List AV:=d.map fun b=>.bool b
theorem bC_len (d:List Bool):(bC d).length=d.length:=by rw[bC,List.length_map]
theorem bC_get (d:List Bool)(i:Nat):(bC d)[i]?=(d[i]?).map fun b=>AV.bool b:=by rw[bC,List.getElem?_map]
theorem bC_set (d:List Bool)(k:Nat)(b:Bool)(hk:k<d.length):(bC d).take k++[AV.bool b]++(bC d).drop (k+1)=bC (d.set k b):=by
 rw[<-set_put _ _ _ (by rw[bC_len];exact hk),bC,bC,map_set']
def bL (d:List Bool):List (List AV):=d.map fun b=>[.bool b]
theorem bL_get (d:List Bool)(i:Nat):(bL d)[i]?=(d[i]?).map fun b=>[AV.bool b]:=by rw[bL,List.getElem?_map]
theorem bL_of (d:List Bool):bL d=(bC d).map fun a=>[a]:=by rw[bL,bC,List.map_map];rfl
def nC (l:List Nat):List (List AV):=l.map fun (y:Nat)=>[.int .i64 (y:Int)]
theorem nC_len (l:List Nat):(nC l).length=l.length:=by rw[nC,List.length_map]
theorem nC_get (l:List Nat)(i:Nat):(nC l)[i]?=(l[i]?).map fun (n:Nat)=>[AV.int .i64 (n:Int)]:=by rw[nC,List.getElem?_map]
theorem nC_app (l m:List Nat):nC (l++m)=nC l++nC m:=by rw[nC,List.map_append];rfl
theorem nC_cons (k:Nat)(l:List Nat):nC (k::l)=[.int .i64 k]::nC l:=rfl
def Rows (x:List (List Int))(n:Nat)(h:AH)(nv:AV):Prop:=nv=.lst 22 (rowsC x) .no\/∃nb S,nv=.slice nb 0 n n/\h.objs nb=some (.cells (srC S) 22)/\srX S=x/\S.length=n
theorem reach_gen (x:List (List Int))(n a:Nat)(ha:a<n)(hn2:n<=1000000)(hx:InR n x)(hrl:∀row∈x,row.length<=1000000)(nv:AV)(K:Nat->Prop)(h:AH)(hnv:Rows x n h nv):ACall T K (.func 26) [.int .i64 n,nv,.int .i64 a] h (fun v h'=>v=.lst 4 (bL (rowF n x a)) .no/\h'=h):=by
 refine ACall.retQ t26x fun hK=>?_
 simp only[u_C c26x.eq_1,rn,pevA,seval]
 refine WO.mksl (j:=.i64) (k:=.i64) (m:=n) (n:=n) rfl rfl (Nat.le_refl _) (by omega) (by omega) fun b hb hk=>?_
 have hc0:(zerosL [Value.bool false] n).map ofC1=bC (List.replicate n false):=by
  rw[zerosL_one,bC,List.map_replicate,List.map_replicate];rfl
 simp only[rn,pevA,seval,hc0]
 refine WO.bslT (n:=1) rfl (by decide) (by decide) (by decide) fun c hc1 hc2=>?_
 simp only[rn,pevA,seval]
 have hxl:=hx.1
 refine aloop (α:=List Bool×List Nat) (fun s fr h1=>fr 0=.int .i64 n/\fr 1=nv/\fr 7=.slice b 0 n n/\RInv n x a (fun _=>False) s.1 s.2/\2*cnt s.1+s.2.length<=2000001/\
   ∃tag tk,fr 8=.lst 3 (nC s.2) tag/\Toks h.toks tk [(tag,3,1,0)]/\h1=(h.set b (.cells (bC s.1) 4)).tk tk) (fun s=>2*cnt s.1+s.2.length) (List.replicate n false,[a]) ?_ ?_
 ·refine⟨rfl,rfl,rfl,RInv.start ha,?_,_,_,rfl,?_,rfl⟩
  ·have:=cnt_le (List.replicate n false)
   rw[List.length_replicate] at this;show 2*cnt (List.replicate n false)+1<=2000001;omega
  ·exact (Toks.one h.toks 3 1).set (i:=0) (x:=⟨c,0,1,1,1,3⟩) rfl (.inr ⟨rfl,hc1⟩) rfl ⟨rfl,by simp[Go.Cn.upd],rfl⟩
 ·rintro⟨is,q⟩ fr h1 ⟨f0,f1,f7,hI,hM,tag,tk,f8,hT,rfl⟩
  simp only at hI hM f8
  cases q with
  |nil=>
   have k0:decide ((0:Int)<((0:Nat):Int))=false:=rfl
   simp only[u_C l26_1.eq_1,rn,pevA,seval,f0,f1,f7,f8,nC_len,k0]
   have hr:=hI.done hx
   refine⟨_,h,Frz.slice (cs:=bC is) (E:=4) (by rw[tk_objs,AH.set_same]) (by rw[bC_len,hI.len]) (by omega) (by rw[big_eq];omega) (c:=.lst 4 (bL (rowF n x a)) .no) ?_ ?_,hK,rfl,rfl⟩
   ·rw[<-bL_of, <-hr.eq];exact .refl _
   ·rw[tk_del,AH.set_del _ _ hb]
    exact le_tk (AH.le_refl _) hT.le
  |cons k q=>
   have k0:decide ((0:Int)<((q.length+1:Nat):Int))=true:=decide_eq_true (by omega)
   obtain⟨hkn,hka⟩:=hI.que k List.mem_cons_self
   have k1:decide ((x.length:Int)<=(k:Int))=false:=by simp;omega
   obtain⟨row,hrow⟩ : ∃row,x[k]?=some row:=⟨_,List.getElem?_eq_getElem (by omega)⟩
   have hone:∀y∈[AV.int .i64 (k:Int)]::nC q,y.length=1:=fun y hy=>by
    rw[<-nC_cons] at hy
    obtain⟨z,_,rfl⟩:=List.mem_map.1 hy;rfl
   have hl1:(1:Int)<=((q.length+1:Nat):Int):=by omega
   have htk:(nC q).take q.length=nC q:=List.take_of_length_le (by rw[nC_len];omega)
   simp only[u_C l26_1.eq_1,rn,pevA,seval,f0,f1,f7,f8,nC_len,k0,nC_cons,List.length_cons,k1,Option.map_some,Option.map_none,hl1,true_and,if_true,List.drop_one,Nat.add_sub_cancel]
   rw[if_pos hone,htk]
   have hI1:=hI.pop
   have hrowl:=hrl row (List.mem_of_getElem? hrow)
   have inner:∀(R:CExit->AQ)(fr:AFr)(Er:TypeId)(tr:Tag),fr 0=.int .i64 n->fr 1=nv->fr 7=.slice b 0 n n->fr 31=.lst Er (lC row) tr->fr 32=.int .i64 row.length->fr 33=.int .i64 0->fr 8=.lst 3 (nC q) tag->
     (∀(fr:AFr) is1 q1 tag tk,fr 0=.int .i64 n->fr 1=nv->fr 7=.slice b 0 n n->RInv n x a (fun _=>False) is1 q1->2*cnt is1+q1.length<=2*cnt is+q.length->fr 8=.lst 3 (nC q1) tag->Toks h.toks tk [(tag,3,1,0)]->R (.exit 2) fr ((h.set b (.cells (bC is1) 4)).tk tk))->
     W T K (.loop l26_0.toC) fr ((h.set b (.cells (bC is) 4)).tk tk) R:=by
    intro R fr Er tr f0 f1 f7 f31 f32 f33 f8 hR
    refine aloop (α:=Nat×List Bool×List Nat) (fun s fr h1=>fr 0=.int .i64 n/\fr 1=nv/\fr 7=.slice b 0 n n/\fr 31=.lst Er (lC row) tr/\fr 32=.int .i64 row.length/\fr 33=.int .i64 s.1/\s.1<=row.length/\
      RInv n x a (fun y=>y=k) s.2.1 s.2.2/\2*cnt s.2.1+s.2.2.length<=2*cnt is+q.length/\(∀v∈row.take s.1,s.2.1.getD v.toNat false=true)/\
      ∃tag tk,fr 8=.lst 3 (nC s.2.2) tag/\Toks h.toks tk [(tag,3,1,0)]/\h1=(h.set b (.cells (bC s.2.1) 4)).tk tk) (fun s=>row.length-s.1) (0,is,q) ?_ ?_
    ·exact⟨f0,f1,f7,f31,f32,f33,Nat.zero_le _,hI1,Nat.le_refl _,by simp,tag,tk,f8,hT,rfl⟩
    ·clear f0 f1 f7 f8 f31 f32 f33 hT hI
     rintro⟨j,is1,q1⟩ fr h1 ⟨f0,f1,f7,f31,f32,f33,hj,hI,hM1,hall,tag,tk,f8,hT,rfl⟩
     simp only at f33 hj hI hM1 hall f8
     by_cases hlt:j<row.length
     ·have k1:decide ((j:Int)<(row.length:Nat))=true:=by simp;omega
      obtain⟨v,hv⟩ : ∃v,row[j]?=some v:=⟨_,List.getElem?_eq_getElem hlt⟩
      obtain⟨hv0,hvn⟩:=hx.2 row (List.mem_of_getElem? hrow) v (List.mem_of_getElem? hv)
      obtain⟨y,rfl⟩ : ∃y:Nat,v=y:=⟨v.toNat,by omega⟩
      have d1:decide ((y:Int)<0)=false:=by simp
      have d2:decide ((n:Int)<=(y:Int))=false:=by simp;omega
      have c1:(y:Int)<(n:Int):=hvn
      have hw:IntKind.i64.wrap ((j:Int)+1)=((j+1:Nat):Int):=wrap64 ⟨by omega,by omega⟩
      have hgy:is1[y]?=some (is1.getD y false):=by
       have:y<is1.length:=by rw[hI.len];omega
       simp[List.getD,this]
      simp only[u_C l26_0.eq_1,rn,pevA,seval,f0,f1,f7,f8,f31,f32,f33,lC_get,hv,Option.map_some,k1,d1,d2,c1,if_true,Int.toNat_natCast,Nat.mul_one,bC_get,hgy]
      have hylt:y<is1.length:=by rw[hI.len];omega
      have hall':∀is2:List Bool,(∀z,is1.getD z false=true->is2.getD z false=true)->is2.getD y false=true->∀v∈row.take (j+1),is2.getD v.toNat false=true:=by
       intro is2 h1 h2 v hv'
       rw[List.take_add_one,hv,Option.toList_some] at hv'
       rcases List.mem_append.1 hv' with hv'|hv'
       ·exact h1 _ (hall v hv')
       ·rw[List.mem_singleton.1 hv'];exact h2
      cases hd:is1.getD y false with
      |true=>
       simp only[rn,pevA,seval,f33,hw]
       exact⟨(j+1,is1,q1),by show row.length-(j+1)<row.length-j;omega,f0,f1,f7,f31,f32,by simp[upd],hlt,hI,hM1,hall' is1 (fun _ h=>h) hd,tag,tk,f8,hT,rfl⟩
      |false=>
       have hp:y+1<=(bC is1).length:=by rw[bC_len];omega
       have hput:=bC_set is1 y true hylt
       simp only[rn,pevA,seval,f0,f1,f7,f8,f33,c1,if_true,Int.toNat_natCast,Nat.mul_one,hp,hput]
       refine⟨hk,?_⟩
       have hcs:=cnt_set hylt hd
       refine WO.append (i:=0) hT rfl rfl rfl trivial (by decide) ?_ ?_ ?_ ?_ ?_ fun tag' t' hT'=>?_
       ·simp
       ·simp[oneA]
       ·simp
       ·intro _;simp only[capOk,nC_len,List.length_singleton];simp at hM;omega
       ·simp only[big_eq,nC_len,List.length_singleton];simp at hM;omega
       simp only[rn,pevA,seval,f33,hw]
       refine⟨(j+1,is1.set y true,q1++[y]),by show row.length-(j+1)<row.length-j;omega,f0,f1,f7,f31,f32,by simp[upd],hlt,?_,?_,?_,tag',t',?_,hT',rfl⟩
       ·refine hI.push (by omega) ?_
        have he:Ed x k y:=⟨row,hrow,List.mem_of_getElem? hv⟩
        rcases hka with rfl|hka
        ·exact .one he
        ·exact .snoc hka he
       ·show 2*cnt (is1.set y true)+(q1++[y]).length<=_
        rw[List.length_append,List.length_singleton];omega
       ·exact hall' _ (fun z hz=>getD_set.2 (.inl hz)) (getD_set.2 (.inr ⟨rfl,hylt⟩))
       ·simp only[e_upd,reduceIte,Nat.reduceEqDiff,nC_app];rfl
     ·have k1:decide ((j:Int)<(row.length:Nat))=false:=by simp;omega
      simp only[u_C l26_0.eq_1,rn,pevA,seval,f0,f1,f7,f8,f31,f32,f33,k1]
      refine hR _ is1 q1 tag tk f0 f1 f7 (hI.over fun y hy=>?_) hM1 f8 hT
      obtain⟨row',h1,h2⟩:=hy
      rw[hrow] at h1
      cases h1
      have:=hall y (by rw[List.take_of_length_le (by omega)];exact h2)
      simpa using this
   have hend:∀(fr:AFr) is1 q1 tag tk,fr 0=.int .i64 n->fr 1=nv->fr 7=.slice b 0 n n->RInv n x a (fun _=>False) is1 q1->2*cnt is1+q1.length<=2*cnt is+q.length->fr 8=.lst 3 (nC q1) tag->Toks h.toks tk [(tag,3,1,0)]->
     Nxt (fun (s:List Bool×List Nat) fr h1=>fr 0=.int .i64 n/\fr 1=nv/\fr 7=.slice b 0 n n/\RInv n x a (fun _=>False) s.1 s.2/\2*cnt s.1+s.2.length<=2000001/\∃tag tk,fr 8=.lst 3 (nC s.2) tag/\Toks h.toks tk [(tag,3,1,0)]/\h1=(h.set b (.cells (bC s.1) 4)).tk tk) (fun s=>2*cnt s.1+s.2.length) (is,k::q) fr ((h.set b (.cells (bC is1) 4)).tk tk):=
    fun fr is1 q1 tag tk f0 f1 f7 hI hM1 f8 hT=>⟨(is1,q1),by show 2*cnt is1+q1.length<2*cnt is+(k::q).length;rw[List.length_cons];omega,f0,f1,f7,hI,by simp at hM;show 2*cnt is1+q1.length<=2000001;omega,tag,tk,f8,hT,rfl⟩
   rcases hnv with rfl|⟨nb,S,rfl,hnb,hSx,hSl⟩
   ·simp only[rn,pevA,seval,f0,f1,f7,f8,nC_len,rowsC_len,k1,rowsC_get,hrow,Option.map_some,lC_len]
    refine inner _ _ 3 .no f0 f1 f7 rfl rfl rfl rfl fun fr is1 q1 tag tk f0 f1 f7 hI hM1 f8 hT=>?_
    simp only[rn,pevA,seval]
    exact hend fr is1 q1 tag tk f0 f1 f7 hI hM1 f8 hT
   ·have hne:nb≠b:=fun e=>by rw[e,hb] at hnb;cases hnb
    have k1':decide ((n:Int)<=(k:Int))=false:=by simp;omega
    have ck:(k:Int)<(n:Int):=by omega
    obtain⟨s,hs⟩ : ∃s,S[k]?=some s:=⟨_,List.getElem?_eq_getElem (by omega)⟩
    have hsr:s.2.1=row:=by
     have:(srX S)[k]?=some s.2.1:=by rw[srX,List.getElem?_map,hs];rfl
     rw[hSx,hrow] at this
     cases this;rfl
    simp only[rn,pevA,seval,f0,f1,f7,f8,nC_len,k1',ck,if_true,Int.toNat_natCast,Nat.mul_one,s_objs hne,hnb,srC_get,hs,hsr,Option.map_some,lC_len]
    refine inner _ _ s.1 s.2.2 f0 f1 f7 rfl rfl rfl rfl fun fr is1 q1 tag tk f0 f1 f7 hI hM1 f8 hT=>?_
    simp only[rn,pevA,seval]
    exact hend fr is1 q1 tag tk f0 f1 f7 hI hM1 f8 hT
theorem toks_tail {t0 t:Nat->Option Tok}{a:Tag×TypeId×Nat×Nat}{L:List (Tag×TypeId×Nat×Nat)}(h:Toks t0 t (a::L)):Toks t0 t L:=
 ⟨h.le,fun i tag E sz k hi=>h.own (i+1) tag E sz k hi,fun i tag E sz k c hi hc=>h.out (i+1) tag E sz k c hi hc,fun i j a b c hij ha hb hc=>h.sep (i+1) (j+1) a b c (by omega) ha hb hc⟩
def matC (A:List (List Bool)):List (List AV):=A.map fun r=>[.lst 4 (bL r) .no]
theorem matC_len (A:List (List Bool)):(matC A).length=A.length:=by rw[matC,List.length_map]
theorem matC_get (A:List (List Bool))(i:Nat):(matC A)[i]?=(A[i]?).map fun r=>[AV.lst 4 (bL r) .no]:=by rw[matC,List.getElem?_map]
theorem matC_app (A B:List (List Bool)):matC (A++B)=matC A++matC B:=by rw[matC,List.map_append];rfl
abbrev So:=List (List Nat×TypeId×Tag)
def soC (S:So):List (List AV):=S.map fun s=>[.lst s.2.1 (nC s.1) s.2.2]
theorem soC_len (S:So):(soC S).length=S.length:=by rw[soC,List.length_map]
theorem soC_app (A B:So):soC (A++B)=soC A++soC B:=by rw[soC,List.map_append];rfl
def oC (o:List (List Nat)):List (List AV):=o.map fun g=>[.lst 3 (nC g) .no]
theorem oC_len (S:List (List Nat)):(oC S).length=S.length:=by rw[oC,List.length_map]
theorem oC_get (A:List (List Nat))(i:Nat):(oC A)[i]?=(A[i]?).map fun r=>[AV.lst 3 (nC r) .no]:=by rw[oC,List.getElem?_map]
theorem max0 (n:Nat):max (n:Int) 0=n:=by omega
def inB (A:List (List Bool))(k y:Nat):Bool:=y==k || (at2 A k y&&at2 A y k)
def okB (A:List (List Bool))(done:List Bool)(k y:Nat):Bool:=inB A k y || !(at2 A k y&& !done.getD y false)
theorem at2_get {n:Nat}{x:List (List Int)}{A:List (List Bool)}(hA:IsM n x A){k y:Nat}(hk:k<n)(hy:y<n):∃r,A[k]?=some r/\r[y]?=some (at2 A k y):=by
 have h1:k<A.length:=by rw[hA.1];exact hk
 have e:=List.getElem?_eq_getElem h1
 have h2:y<(A[k]).length:=by rw[hA.2.1 _ (List.getElem_mem h1)];exact hy
 refine⟨_,e,?_⟩
 unfold at2
 rw[e]
 simp[List.getD,h2]
theorem scc_eq {n:Nat}{x:List (List Int)}{A:List (List Bool)}(hA:IsM n x A)(k:Nat):scc A k=(List.range n).filter (inB A k):=by rw[scc,hA.1];rfl
theorem rdy_eq {n:Nat}{x:List (List Int)}{A:List (List Bool)}(hA:IsM n x A)(done:List Bool)(k:Nat):rdy A done k=(List.range n).all (okB A done k):=by rw[rdy,hA.1];rfl
theorem fil_succ (p:Nat->Bool)(y:Nat):(List.range (y+1)).filter p=(List.range y).filter p++(if p y=true then [y] else []):=by
 rw[List.range_succ,List.filter_append]
 cases e:p y<;>simp[e]
theorem all_succ (p:Nat->Bool)(y:Nat):(List.range (y+1)).all p=((List.range y).all p&&p y):=by
 rw[List.range_succ,List.all_append];simp
theorem it_succ {A:List (List Bool)}{j k:Nat}(h:nxt A (it A j).1=some k):it A (j+1)=(grp.mark (it A j).1 (scc A k),(it A j).2++[scc A k]):=by
 show (match nxt A (it A j).1 with|some k=>_|none=>_)=_
 rw[h]
theorem mark_app (d:List Bool)(l:List Nat)(z:Nat):grp.mark d (l++[z])=(grp.mark d l).set z true:=by rw[grp.mark,List.foldl_append];rfl
theorem so_wk {S:So}{E:TypeId}{t:Tag}{out:List (List Nat)}(hE:soC S≠[]->E=22)(hS:S.map (fun g=>g.1)=out)(h3:∀g∈S,g.1≠[]->g.2.1=3):Wk (.lst E (soC S) t) (.lst 22 (oC out) .no):=by
 refine .trans (.lstE hE) ?_
 have e1:soC S=(S.map fun s=>AV.lst s.2.1 (nC s.1) s.2.2).map fun a=>[a]:=by rw[soC,List.map_map];rfl
 have e2:oC out=(S.map fun s=>AV.lst 3 (nC s.1) .no).map fun a=>[a]:=by rw[oC, <-hS,List.map_map,List.map_map];rfl
 rw[e1,e2]
 refine single_wk (by simp) fun i x y hx hy=>?_
 rw[List.getElem?_map] at hx hy
 cases e:S[i]? with
 |none=>rw[e] at hx;cases hx
 |some s=>
  rw[e] at hx hy
  cases hx;cases hy
  refine .lstE fun hne=>h3 s (List.mem_of_getElem? e) fun e=>hne ?_
  rw[e];rfl
theorem nxt_some {n:Nat}{x:List (List Int)}{A:List (List Bool)}(hA:IsM n x A){done:List Bool}{k:Nat}(hk:k<n)(h0:∀j,j<k->(!done.getD j false&&rdy A done j)=false)(h1:(!done.getD k false&&rdy A done k)=true):nxt A done=some k:=by
 unfold nxt
 rw[List.find?_range_eq_some]
 exact⟨h1,by rw[List.mem_range,hA.1];exact hk,fun j hj=>by rw[h0 j hj];rfl⟩
theorem nxt_none {n:Nat}{x:List (List Int)}{A:List (List Bool)}(hA:IsM n x A){done:List Bool}(h0:∀j,j<n->(!done.getD j false&&rdy A done j)=false):nxt A done=none:=by
 unfold nxt
 rw[List.find?_range_eq_none]
 intro j hj
 rw[h0 j (by rw[<-hA.1];exact hj)];rfl
def OrdQ (n:Nat)(x:List (List Int))(h:AH)(v:AV)(h':AH):Prop:=∃out,Ord (matF n x) out/\v=.lst 22 (oC out) .no/\h'=h
set_option maxRecDepth 8000 in
theorem order_gen (x:List (List Int))(n:Nat)(hn:0<n)(hn2:n<=1000000)(hx:InR n x)(hrl:∀row∈x,row.length<=1000000)(nv:AV)(K:Nat->Prop)(h:AH)(hnv:Rows x n h nv):ACall T K (.func 12) [.int .i64 n,nv] h (OrdQ n x h):=by
 refine ACall.retQ t12 fun hK=>?_
 simp only[u_C c12.eq_1,rn,pevA,seval,max0]
 refine aloop (α:=Nat) (fun i fr h1=>fr 0=.int .i64 n/\fr 1=nv/\fr 4=.lst 0 [] .nil/\fr 16=.int .i64 n/\fr 17=.int .i64 i/\i<=n/\
   ∃E5 tag tk,(matC ((List.range i).map (rowF n x))≠[]->E5=70)/\fr 5=.lst E5 (matC ((List.range i).map (rowF n x))) tag/\Toks h.toks tk [(tag,70,1,0)]/\h1=h.tk tk) (fun i=>n-i) 0 ?_ ?_
 ·exact⟨rfl,rfl,rfl,rfl,rfl,Nat.zero_le _,0,.nil,h.toks,fun h=>absurd rfl h,rfl,.one _ _ _,rfl⟩
 ·rintro i fr h1 ⟨f0,f1,f4,f16,f17,hi,E5,tag,tk,hE5,f5,hT,rfl⟩
  by_cases hlt:i<n
  ·have k1:decide ((i:Int)<(n:Int))=true:=by simp;omega
   simp only[u_C l12_0.eq_1,rn,pevA,seval,f0,f1,f5,f16,f17,k1]
   refine (reach_gen x n i hlt hn2 hx hrl nv K (h.tk tk) hnv).mono ?_
   rintro _ _ ⟨rfl,rfl⟩
   simp only[rn,pevA,seval,f0,f1,f5,f16,f17]
   refine WO.append (i:=0) hT rfl rfl rfl trivial (by decide) ?_ ?_ ?_ ?_ ?_ fun tag' t' hT'=>?_
   ·simp
   ·simp[oneA]
   ·simp
   ·intro _;simp only[capOk,matC_len,List.length_map,List.length_range,List.length_singleton];omega
   ·simp only[big_eq,matC_len,List.length_map,List.length_range,List.length_singleton];omega
   have hw:IntKind.i64.wrap ((i:Int)+1)=((i+1:Nat):Int):=wrap64 ⟨by omega,by omega⟩
   simp only[rn,pevA,seval,f17,hw]
   refine⟨i+1,by show n-(i+1)<n-i;omega,f0,f1,f4,f16,by simp[upd],hlt,70,tag',t',fun _=>rfl,?_,hT',rfl⟩
   simp only[e_upd,reduceIte,Nat.reduceEqDiff,List.range_succ,List.map_append,matC_app];rfl
  ·have k1:decide ((i:Int)<(n:Int))=false:=by simp;omega
   have hin:i=n:=by omega
   subst hin
   have hmat:(List.range i).map (rowF i x)=matF i x:=rfl
   rw[hmat] at f5 hE5
   have hA:=matF_is i x
   have hlen:=hA.1
   simp only[u_C l12_0.eq_1,rn,pevA,seval,f0,f1,f4,f5,f16,f17,k1,matC_len,hlen]
   refine WO.mksl (j:=.i64) (k:=.i64) (m:=i) (n:=i) rfl rfl (Nat.le_refl _) (by omega) (by omega) fun b hb hk=>?_
   have hc0:(zerosL [Value.bool false] i).map ofC1=bC (List.replicate i false):=by
    rw[zerosL_one,bC,List.map_replicate,List.map_replicate];rfl
   simp only[rn,pevA,seval,f0,f1,f4,f5,f16,f17,matC_len,hlen,hc0]
   have h0n:decide ((0:Int)<(i:Int))=true:=decide_eq_true (by omega)
   have hle0:=hT.le
   clear f0 f1 f4 f16 f17 hT hmat k1 hi hlt
   generalize hmA:matF i x=A at *
   generalize hn':i=n at *
   refine aloop (α:=Nat×So) (fun s fr h1=>fr 5=.lst E5 (matC A) tag/\fr 7=.slice b 0 n n/\s.2.map (fun g=>g.1)=(it A s.1).2/\(∀g∈s.2,g.1≠[]->g.2.1=3)/\s.2.length+cnt (it A s.1).1<=n/\
     ∃E8 tag8 tk',(soC s.2≠[]->E8=22)/\fr 8=.lst E8 (soC s.2) tag8/\Toks tk tk' [(tag8,22,1,0)]/\h1=(h.set b (.cells (bC (it A s.1).1) 4)).tk tk') (fun s=>cnt (it A s.1).1) (0,[]) ?_ ?_
   ·have h00:(it A 0).1=List.replicate n false:=by show List.replicate A.length false=_;rw[hlen]
    refine⟨f5,rfl,rfl,by simp,?_,0,.nil,tk,fun h=>absurd rfl h,rfl,.one _ _ _,by rw[h00]⟩
    have:=cnt_le (it A 0).1
    rw[h00,List.length_replicate] at this
    rw[h00];simpa using this
   ·clear f5
    rintro⟨j,S⟩ fr h1 ⟨f5,f7,hS,hS3,hSn,E8,tag8,tk1,hE8,f8,hT,rfl⟩
    simp only at hS hS3 hSn hE8 f8
    have hI:=Inv.it hx hA j
    simp only[u_C l12_4.eq_1,rn,pevA,seval,f5,f7,f8,matC_len,hlen,h0n]
    generalize hdn:(it A j).1=done at *
    have hdl:=hI.len
    refine aloop (α:=Nat) (fun k fr h1=>fr 5=.lst E5 (matC A) tag/\fr 7=.slice b 0 n n/\fr 8=.lst E8 (soC S) tag8/\fr 35=.int .i64 n/\fr 36=.int .i64 k/\k<=n/\(∀i,i<k->(!done.getD i false&&rdy A done i)=false)/\
      ∃tk',Toks tk tk' [(tag8,22,1,0)]/\h1=(h.set b (.cells (bC done) 4)).tk tk') (fun k=>n-k) 0 ?_ ?_
    ·exact⟨f5,f7,f8,rfl,rfl,Nat.zero_le _,fun i hi=>absurd hi (Nat.not_lt_zero _),tk1,hT,rfl⟩
    ·clear f5 f7 f8 hT
     rintro k fr h1 ⟨f5,f7,f8,f35,f36,hkn,hno,tk1,hT,rfl⟩
     by_cases hlt:k<n
     ·have k1:decide ((k:Int)<(n:Int))=true:=by simp;omega
      have c1:(k:Int)<(n:Int):=by omega
      have hgk:done[k]?=some (done.getD k false):=by
       have:k<done.length:=by omega
       simp[List.getD,this]
      have hw:IntKind.i64.wrap ((k:Int)+1)=((k+1:Nat):Int):=wrap64 ⟨by omega,by omega⟩
      have hnext:(!done.getD k false&&rdy A done k)=false->∀i,i<k+1->(!done.getD i false&&rdy A done i)=false:=fun h i hi=>by
       rcases Nat.lt_succ_iff_lt_or_eq.1 hi with hi|hi
       ·exact hno i hi
       ·rw[hi];exact h
      simp only[u_C l12_3.eq_1,rn,pevA,seval,f5,f7,f8,f35,f36,k1,c1,if_true,Int.toNat_natCast,Nat.mul_one,bC_get,hgk,Option.map_some]
      cases hd:done.getD k false with
      |true=>
       simp only[rn,pevA,seval,f36,hw]
       exact⟨k+1,by show n-(k+1)<n-k;omega,f5,f7,f8,f35,by simp[upd],hlt,hnext (by rw[hd];rfl),tk1,hT,rfl⟩
      |false=>
       simp only[rn,pevA,seval,f5,f7,f8,f35,f36,matC_len,hlen]
       refine aloop (α:=Nat) (fun y fr h1=>fr 5=.lst E5 (matC A) tag/\fr 7=.slice b 0 n n/\fr 8=.lst E8 (soC S) tag8/\fr 9=.int .i64 k/\fr 35=.int .i64 n/\fr 36=.int .i64 k/\fr 44=.int .i64 n/\fr 45=.int .i64 y/\y<=n/\
         fr 11=.bool ((List.range y).all (okB A done k))/\∃E10 tag10 tk',(nC ((List.range y).filter (inB A k))≠[]->E10=3)/\fr 10=.lst E10 (nC ((List.range y).filter (inB A k))) tag10/\Toks tk tk' [(tag10,3,1,0),(tag8,22,1,0)]/\h1=(h.set b (.cells (bC done) 4)).tk tk') (fun y=>n-y) 0 ?_ ?_
       ·exact⟨f5,f7,f8,rfl,f35,f36,rfl,rfl,Nat.zero_le _,rfl,0,.nil,tk1,fun h=>absurd rfl h,rfl,hT.cons _ _,rfl⟩
       ·clear f5 f7 f8 f35 f36 hT
        rintro y fr h1 ⟨f5,f7,f8,f9,f35,f36,f44,f45,hyn,f11,E10,tag10,tk1,hE10,f10,hT,rfl⟩
        by_cases hylt:y<n
        ·have k2:decide ((y:Int)<(n:Int))=true:=by simp;omega
         have c2:(y:Int)<(n:Int):=by omega
         have hw2:IntKind.i64.wrap ((y:Int)+1)=((y+1:Nat):Int):=wrap64 ⟨by omega,by omega⟩
         obtain⟨rk,hrk,hrky⟩:=at2_get hA hlt hylt
         obtain⟨ry,hry,hryk⟩:=at2_get hA hylt hlt
         have hgy:done[y]?=some (done.getD y false):=by
          have:y<done.length:=by omega
          simp[List.getD,this]
         have happ:inB A k y=true->∀fr tk1,fr 5=.lst E5 (matC A) tag->fr 7=.slice b 0 n n->fr 8=.lst E8 (soC S) tag8->fr 9=.int .i64 k->fr 35=.int .i64 n->fr 36=.int .i64 k->fr 44=.int .i64 n->fr 45=.int .i64 ((y+1:Nat):Int)->
           fr 11=.bool ((List.range y).all (okB A done k))->(∃E10 tag10,E10=3/\fr 10=.lst E10 (nC ((List.range y).filter (inB A k))++nC [y]) tag10/\Toks tk tk1 [(tag10,3,1,0),(tag8,22,1,0)])->
           Nxt (fun (y:Nat) fr h1=>fr 5=.lst E5 (matC A) tag/\fr 7=.slice b 0 n n/\fr 8=.lst E8 (soC S) tag8/\fr 9=.int .i64 k/\fr 35=.int .i64 n/\fr 36=.int .i64 k/\fr 44=.int .i64 n/\fr 45=.int .i64 y/\y<=n/\
         fr 11=.bool ((List.range y).all (okB A done k))/\∃E10 tag10 tk',(nC ((List.range y).filter (inB A k))≠[]->E10=3)/\fr 10=.lst E10 (nC ((List.range y).filter (inB A k))) tag10/\Toks tk tk' [(tag10,3,1,0),(tag8,22,1,0)]/\h1=(h.set b (.cells (bC done) 4)).tk tk') (fun y=>n-y) y fr ((h.set b (.cells (bC done) 4)).tk tk1):=by
          rintro hin fr tk1 f5 f7 f8 f9 f35 f36 f44 f45 f11 ⟨E10,tag10,h1,f10,hT⟩
          refine⟨y+1,by show n-(y+1)<n-y;omega,f5,f7,f8,f9,f35,f36,f44,f45,hylt,?_,E10,tag10,tk1,fun _=>h1,?_,hT,rfl⟩
          ·rw[all_succ,f11];simp only[okB,hin,Bool.true_or,Bool.and_true]
          ·rw[fil_succ,if_pos hin,nC_app,f10]
         have hskip:inB A k y=false->∀fr tk1,fr 5=.lst E5 (matC A) tag->fr 7=.slice b 0 n n->fr 8=.lst E8 (soC S) tag8->fr 9=.int .i64 k->fr 35=.int .i64 n->fr 36=.int .i64 k->fr 44=.int .i64 n->fr 45=.int .i64 ((y+1:Nat):Int)->
           fr 11=.bool ((List.range y).all (okB A done k)&&okB A done k y)->fr 10=.lst E10 (nC ((List.range y).filter (inB A k))) tag10->Toks tk tk1 [(tag10,3,1,0),(tag8,22,1,0)]->
           Nxt (fun (y:Nat) fr h1=>fr 5=.lst E5 (matC A) tag/\fr 7=.slice b 0 n n/\fr 8=.lst E8 (soC S) tag8/\fr 9=.int .i64 k/\fr 35=.int .i64 n/\fr 36=.int .i64 k/\fr 44=.int .i64 n/\fr 45=.int .i64 y/\y<=n/\
         fr 11=.bool ((List.range y).all (okB A done k))/\∃E10 tag10 tk',(nC ((List.range y).filter (inB A k))≠[]->E10=3)/\fr 10=.lst E10 (nC ((List.range y).filter (inB A k))) tag10/\Toks tk tk' [(tag10,3,1,0),(tag8,22,1,0)]/\h1=(h.set b (.cells (bC done) 4)).tk tk') (fun y=>n-y) y fr ((h.set b (.cells (bC done) 4)).tk tk1):=by
          intro hin fr tk1 f5 f7 f8 f9 f35 f36 f44 f45 f11 f10 hT
          have e:(List.range (y+1)).filter (inB A k)=(List.range y).filter (inB A k):=by rw[fil_succ,if_neg (by simp[hin]),List.append_nil]
          refine⟨y+1,by show n-(y+1)<n-y;omega,f5,f7,f8,f9,f35,f36,f44,f45,hylt,?_,E10,tag10,tk1,?_,?_,hT,rfl⟩
          ·rw[all_succ,f11]
          ·rw[e];exact hE10
          ·rw[e];exact f10
         have hfl:(List.filter (inB A k) (List.range y)).length<=y:=Nat.le_trans (List.length_filter_le _ _) (by simp)
         by_cases hyk:y=k
         ·subst hyk
          have hin:inB A y y=true:=by simp[inB]
          simp only[u_C l12_1.eq_1,rn,pevA,seval,f5,f7,f8,f9,f10,f11,f35,f36,f44,f45,k2,c1,c2,matC_get,hrk,hry,bL_get,hrky,hryk,Option.map_some,bC_get,hgy,if_true,Int.toNat_natCast,Nat.mul_one,decide_true]
          refine WO.append (i:=0) hT rfl rfl rfl trivial (by decide) ?_ ?_ ?_ ?_ ?_ fun tag' t' hT'=>?_
          ·simp
          ·simp[oneA]
          ·simp
          ·intro _;simp only[capOk,nC_len,List.length_singleton];omega
          ·simp only[big_eq,nC_len,List.length_singleton];omega
          simp only[rn,pevA,seval,f5,f7,f8,f9,f10,f11,f35,f36,f44,f45,k2,c1,c2,matC_get,hrk,hry,bL_get,hrky,hryk,Option.map_some,bC_get,hgy,if_true,Int.toNat_natCast,Nat.mul_one,hw2]
          exact happ hin _ t' f5 f7 f8 f9 f35 f36 f44 (by simp[upd]) f11 ⟨3,tag',rfl,rfl,hT'⟩
         ·have hyk':¬((y:Int)=(k:Int)):=by omega
          have hb:(y==k)=false:=by simpa using hyk
          cases a1:at2 A k y with
          |false=>
           rw[a1] at hrky
           have hin:inB A k y=false:=by simp[inB,hb,a1]
           simp only[u_C l12_1.eq_1,rn,pevA,seval,f5,f7,f8,f9,f10,f11,f35,f36,f44,f45,k2,c1,c2,matC_get,hrk,hry,bL_get,hrky,hryk,Option.map_some,bC_get,hgy,if_true,Int.toNat_natCast,Nat.mul_one,hyk',decide_false,hw2]
           exact hskip hin _ tk1 f5 f7 f8 f9 f35 f36 f44 (by simp[upd]) (by have hok:okB A done k y=true:=(by simp only[okB,hin,a1,Bool.false_and,Bool.not_false,Bool.false_or]);rw[hok,Bool.and_true];exact f11) f10 hT
          |true=>
           rw[a1] at hrky
           cases a2:at2 A y k with
           |true=>
            rw[a2] at hryk
            have hin:inB A k y=true:=by simp[inB,a1,a2]
            simp only[u_C l12_1.eq_1,rn,pevA,seval,f5,f7,f8,f9,f10,f11,f35,f36,f44,f45,k2,c1,c2,matC_get,hrk,hry,bL_get,hrky,hryk,Option.map_some,bC_get,hgy,if_true,Int.toNat_natCast,Nat.mul_one,hyk',decide_false]
            refine WO.append (i:=0) hT rfl rfl rfl trivial (by decide) ?_ ?_ ?_ ?_ ?_ fun tag' t' hT'=>?_
            ·simp
            ·simp[oneA]
            ·simp
            ·intro _;simp only[capOk,nC_len,List.length_singleton];omega
            ·simp only[big_eq,nC_len,List.length_singleton];omega
            simp only[rn,pevA,seval,f5,f7,f8,f9,f10,f11,f35,f36,f44,f45,k2,c1,c2,matC_get,hrk,hry,bL_get,hrky,hryk,Option.map_some,bC_get,hgy,if_true,Int.toNat_natCast,Nat.mul_one,hw2]
            exact happ hin _ t' f5 f7 f8 f9 f35 f36 f44 (by simp[upd]) f11 ⟨3,tag',rfl,rfl,hT'⟩
           |false=>
            rw[a2] at hryk
            have hin:inB A k y=false:=by simp[inB,hb,a2]
            cases d:done.getD y false with
            |true=>
             rw[d] at hgy
             simp only[u_C l12_1.eq_1,rn,pevA,seval,f5,f7,f8,f9,f10,f11,f35,f36,f44,f45,k2,c1,c2,matC_get,hrk,hry,bL_get,hrky,hryk,Option.map_some,bC_get,hgy,if_true,Int.toNat_natCast,Nat.mul_one,hyk',decide_false,hw2]
             exact hskip hin _ tk1 f5 f7 f8 f9 f35 f36 f44 (by simp[upd]) (by have hok:okB A done k y=true:=(by simp only[okB,hin,a1,d,Bool.true_and,Bool.not_true,Bool.not_false,Bool.false_or]);rw[hok,Bool.and_true];exact f11) f10 hT
            |false=>
             rw[d] at hgy
             simp only[u_C l12_1.eq_1,rn,pevA,seval,f5,f7,f8,f9,f10,f11,f35,f36,f44,f45,k2,c1,c2,matC_get,hrk,hry,bL_get,hrky,hryk,Option.map_some,bC_get,hgy,if_true,Int.toNat_natCast,Nat.mul_one,hyk',decide_false,hw2]
             exact hskip hin _ tk1 f5 f7 f8 f9 f35 f36 f44 (by simp[upd]) (by simp only[okB,hin,a1,d,Bool.not_false,Bool.and_self,Bool.not_true,Bool.or_self,Bool.and_false];simp[upd]) f10 hT
        ·have k2:decide ((y:Int)<(n:Int))=false:=by simp;omega
         have hyn':y=n:=by omega
         subst hyn'
         rw[<-scc_eq hA] at f10 hE10
         rw[<-rdy_eq hA] at f11
         have hscc:∀z∈scc A k,z<y:=fun z hz=>((scc_mem hA hlt).1 hz).1
         have hself:=scc_self hA hlt
         have hsl:(scc A k).length<=y:=by rw[scc_eq hA];exact Nat.le_trans (List.length_filter_le _ _) (by simp)
         cases hr:rdy A done k with
         |false=>
          rw[hr] at f11
          simp only[u_C l12_1.eq_1,rn,pevA,seval,f5,f7,f8,f9,f10,f11,f35,f36,f44,f45,k2,hw]
          exact⟨k+1,by show y-(k+1)<y-k;omega,f5,f7,f8,f35,by simp[upd],hlt,hnext (by rw[hr,Bool.and_false]),tk1,toks_tail hT,rfl⟩
         |true=>
          rw[hr] at f11
          simp only[u_C l12_1.eq_1,rn,pevA,seval,f5,f7,f8,f9,f10,f11,f35,f36,f44,f45,k2,nC_len]
          have hnx:nxt A (it A j).1=some k:=by rw[hdn];exact nxt_some hA hlt hno (by rw[hd,hr];rfl)
          have hit:=it_succ hnx
          rw[hdn] at hit
          have hcm:cnt (grp.mark done (scc A k))<cnt done:=cnt_mark (by omega) hself hd
          refine aloop (α:=Nat) (fun i fr h1=>fr 5=.lst E5 (matC A) tag/\fr 7=.slice b 0 y y/\fr 8=.lst E8 (soC S) tag8/\fr 10=.lst E10 (nC (scc A k)) tag10/\fr 92=.lst E10 (nC (scc A k)) tag10/\fr 93=.int .i64 (scc A k).length/\fr 94=.int .i64 i/\i<=(scc A k).length/\
            h1=(h.set b (.cells (bC (grp.mark done ((scc A k).take i))) 4)).tk tk1) (fun i=>(scc A k).length-i) 0 ?_ ?_
          ·exact⟨f5,f7,f8,f10,rfl,rfl,rfl,Nat.zero_le _,rfl⟩
          ·clear f5 f7 f8 f9 f10 f11 f35 f36 f44 f45
           rintro i fr h1 ⟨f5,f7,f8,f10,f92,f93,f94,hi,rfl⟩
           by_cases hil:i<(scc A k).length
           ·have k3:decide ((i:Int)<((scc A k).length:Nat))=true:=by simp;omega
            obtain⟨z,hz⟩ : ∃z,(scc A k)[i]?=some z:=⟨_,List.getElem?_eq_getElem hil⟩
            have hzy:=hscc z (List.mem_of_getElem? hz)
            have c3:(z:Int)<(y:Int):=by omega
            have hw3:IntKind.i64.wrap ((i:Int)+1)=((i+1:Nat):Int):=wrap64 ⟨by omega,by omega⟩
            have hml:z<(grp.mark done ((scc A k).take i)).length:=by rw[mark_len];omega
            have hp:z+1<=(bC (grp.mark done ((scc A k).take i))).length:=by rw[bC_len];omega
            have hput:=bC_set _ z true hml
            simp only[u_C l12_2.eq_1,rn,pevA,seval,f5,f7,f8,f10,f92,f93,f94,k3,nC_get,hz,Option.map_some,c3,if_true,Int.toNat_natCast,Nat.mul_one,hp,hput,hw3]
            refine⟨hk,i+1,by show (scc A k).length-(i+1)<(scc A k).length-i;omega,f5,f7,f8,f10,f92,f93,by simp[upd],hil,?_⟩
            rw[List.take_add_one,hz,Option.toList_some,mark_app]
           ·have k3:decide ((i:Int)<((scc A k).length:Nat))=false:=by simp;omega
            have hti:(scc A k).take i=scc A k:=List.take_of_length_le (by omega)
            rw[hti]
            simp only[u_C l12_2.eq_1,rn,pevA,seval,f5,f7,f8,f10,f92,f93,f94,k3]
            refine WO.append (i:=1) hT rfl rfl rfl trivial (by decide) ?_ ?_ ?_ ?_ ?_ fun tag' t' hT'=>?_
            ·simp
            ·simp[oneA]
            ·simp
            ·intro _;simp only[capOk,soC_len,List.length_singleton];omega
            ·simp only[big_eq,soC_len,List.length_singleton];omega
            simp only[rn,pevA,seval,f5,f7,f8,f10]
            refine⟨(j+1,S++[(scc A k,E10,tag10)]),?_,f5,f7,?_,?_,?_,22,tag',t',fun _=>rfl,?_,toks_tail hT',?_⟩
            ·show cnt (it A (j+1)).1<cnt (it A j).1
             rw[hit,hdn];exact hcm
            ·show (S++[(scc A k,E10,tag10)]).map (fun g=>g.1)=(it A (j+1)).2
             rw[hit,List.map_append,hS];rfl
            ·intro g hg
             rcases List.mem_append.1 hg with hg|hg
             ·exact hS3 g hg
             ·rw[List.mem_singleton.1 hg]
              intro hne
              refine hE10 fun e=>hne ?_
              have:=congrArg List.length e
              rw[nC_len] at this
              exact List.length_eq_zero_iff.1 this
            ·show (S++[(scc A k,E10,tag10)]).length+cnt (it A (j+1)).1<=y
             rw[hit,List.length_append,List.length_singleton]
             show S.length+1+cnt (grp.mark done (scc A k))<=y
             omega
            ·simp only[e_upd,reduceIte,Nat.reduceEqDiff,soC_app];rfl
            ·show _=(h.set b (.cells (bC (it A (j+1)).1) 4)).tk t'
             rw[hit]
     ·have k1:decide ((k:Int)<(n:Int))=false:=by simp;omega
      have hkn':k=n:=by omega
      subst hkn'
      simp only[u_C l12_3.eq_1,rn,pevA,seval,f5,f7,f8,f35,f36,k1]
      have hnx:nxt A (it A j).1=none:=by rw[hdn];exact nxt_none hA hno
      refine⟨_,h,.weak (so_wk hE8 hS hS3) (.drop ?_ (.refl _ _)),hK,(it A j).2,⟨j,?_,?_⟩,rfl,rfl⟩
      ·exact le_tk (le_set (AH.le_refl _) hb) fun c k hc=>hT.le c k (hle0 c k hc)
      ·rw[hmA];exact hnx
      ·rw[hmA]
theorem order_ok (x:List (List Int))(n:Nat)(hn:0<n)(hn2:n<=1000000)(hx:InR n x)(hrl:∀row∈x,row.length<=1000000)(K:Nat->Prop)(h:AH):ACall T K (.func 12) [.int .i64 n,.lst 22 (rowsC x) .no] h (OrdQ n x h):=
 order_gen x n hn hn2 hx hrl _ K h (.inl rfl)
theorem order0 (v:AV):Pure T 12 [.int .i64 0,v] (.lst 22 [] .no):=by
 intro K h
 refine ACall.ret t12 fun hK=>?_
 simp only[u_C c12.eq_1,rn,pevA,seval]
 refine aloop (α:=Unit) (fun i fr h1=>fr 4=.lst 0 [] .nil/\fr 5=.lst 0 [] .nil/\fr 16=.int .i64 0/\fr 17=.int .i64 0/\h1=h) (fun i=>0) () ?_ ?_
 ·exact⟨rfl,rfl,rfl,rfl,rfl⟩
 ·rintro _ fr h1 ⟨f4,f5,f16,f17,rfl⟩
  have k1:decide ((0:Int)<0)=false:=rfl
  simp only[u_C l12_0.eq_1,rn,pevA,seval,f4,f5,f16,f17,k1]
  refine WO.mksl (j:=.i64) (k:=.i64) (m:=0) (n:=0) rfl rfl (Nat.le_refl _) (by decide) (by decide) fun b hb hk=>?_
  simp only[rn,pevA,seval]
  refine aloop (α:=Unit) (fun i fr h2=>fr 5=.lst 0 [] .nil/\fr 8=.lst 0 [] .nil/\h1.le h2) (fun i=>0) () ?_ ?_
  ·exact⟨f5,rfl,AH.le_set hb⟩
  ·rintro _ fr h2 ⟨f5,f8,hle⟩
   have k1:decide ((0:Int)<((0:Nat):Int))=false:=rfl
   simp only[u_C l12_4.eq_1,rn,pevA,seval,f5,f8,k1]
   exact⟨.trans (.tag _ _ _) (.noE _ _),hle⟩
theorem groups0:Pure T 14 [.lst 0 [] .nil] (.lst 22 [] .no):=by
 intro K h
 refine ACall.ret t14 fun hK=>?_
 simp only[u_C c14.eq_1,rn,pevA,seval]
 refine aloop (α:=Unit) (fun i fr h1=>fr 0=.lst 0 [] .nil/\fr 3=.lst 0 [] .nil/\fr 6=.int .i64 ((0:Nat):Int)/\fr 7=.int .i64 0/\h1=h) (fun i=>0) () ?_ ?_
 ·exact⟨rfl,rfl,rfl,rfl,rfl⟩
 ·rintro _ fr h1 ⟨f0,f3,f6,f7,rfl⟩
  have k1:decide ((0:Int)<((0:Nat):Int))=false:=rfl
  simp only[u_C l14_0.eq_1,rn,pevA,seval,f0,f3,f6,f7,k1]
  refine (order0 _).use ?_
  simp only[rn,pevA,seval]
  exact⟨.refl _,AH.le_refl _⟩
theorem ACall.weakL {K:Nat->Prop}{h:AH}{f:Fn}{args args':List AV}{Q:AV->AH->Prop}(hc:ACall T K f args' h Q)(hw:WkL args args'):ACall T K f args h Q:=hc.weak hw.len hw.get
theorem first_ok:Pure T 4 [] (.bool true):=by
 intro K h
 refine ACall.ret t4 fun hK=>?_
 simp only[u_C c4.eq_1,rn,pevA,seval]
 refine (ACall.weakL (args:=[.int .i64 2,.lst 22 [[.lst 3 [[.int .i64 1]] .no],[.lst 0 [] .nil]] .no]) (args':=[.int .i64 ((2:Nat):Int),.lst 22 (rowsC [[1],[]]) .no]) (order_ok [[1],[]] 2 (by decide) (by decide) ex_in (by simp) K h) ⟨.refl _,.lstL ⟨⟨.refl _,trivial⟩,⟨.trans (.nilE _ 3) (.tag _ _ _),trivial⟩,trivial⟩,trivial⟩).mono ?_
 rintro _ _ ⟨out,ho,rfl,rfl⟩
 rw[ex_out ho]
 have k1:decide (((2:Nat):Int)=2)=true:=rfl
 have k2:decide (((1:Nat):Int)=1)=true:=rfl
 have k3:decide (((0:Nat):Int)=0)=true:=rfl
 simp only[oC,nC,List.map_cons,List.map_nil,rn,pevA,seval,k1,k2]
 refine groups0.use ?_
 simp only[rn,pevA,seval,k3]
 exact⟨.refl _,AH.le_refl _⟩
end Go.Proofs.Ytkopkbhpompmnaa.q
namespace Go.Proofs.grp
set_option linter.unusedVariables false
set_option linter.unusedSimpArgs false
def TT (x:List (List Int)):Nat->Nat->Nat->Prop
 |0,a,b=>Ed x a b
 |m+1,a,b=>TT x m a b\/(TT x m a m/\TT x m m b)
theorem TT.up {x:List (List Int)}{m a b:Nat}(h:TT x m a b):∀j,TT x (m+j) a b
 |0=>h
 |j+1=>.inl (TT.up h j)
theorem TT.via {x:List (List Int)}:∀(m:Nat){i j k:Nat},j<m->TT x m i j->TT x m j k->TT x m i k
 |m+1,i,j,k,hj,h1,h2=>by
  rcases Nat.lt_succ_iff_lt_or_eq.1 hj with hj|rfl
  ·rcases h1 with h1|⟨h1,h3⟩
   ·rcases h2 with h2|⟨h2,h4⟩
    ·exact .inl (TT.via m hj h1 h2)
    ·exact .inr ⟨TT.via m hj h1 h2,h4⟩
   ·rcases h2 with h2|⟨h2,h4⟩
    ·exact .inr ⟨h1,TT.via m hj h3 h2⟩
    ·exact .inr ⟨h1,h4⟩
  ·exact .inr ⟨h1.elim id (·.1),h2.elim id (·.2)⟩
theorem TT.of {x:List (List Int)}{n a b:Nat}(hx:InR n x)(h:Pl x a b):TT x n a b:=by
 have h0:∀a b,Ed x a b->TT x n a b:=fun a b e=>by have:=TT.up (m:=0) e n;rwa [Nat.zero_add] at this
 induction h with
 |one e=>exact h0 _ _ e
 |snoc _ e ih=>exact TT.via n (hx.ed e).1 ih (h0 _ _ e)
theorem at2_set2 {A:List (List Bool)}{i k:Nat}{r:List Bool}(hr:A[i]?=some r)(hk:k<r.length)(a b:Nat):at2 (A.set i (r.set k true)) a b=true↔at2 A a b=true\/(a=i/\b=k):=by
 have hi:=(List.getElem?_eq_some_iff.1 hr).1
 unfold at2
 by_cases e:a=i
 ·subst e
  rw[List.getElem?_set_self hi,hr]
  show (r.set k true).getD b false=true↔r.getD b false=true\/_
  rw[getD_set]
  constructor
  ·rintro (h|h)
   ·exact .inl h
   ·exact .inr ⟨rfl,h.1⟩
  ·rintro (h|h)
   ·exact .inl h
   ·exact .inr ⟨h.2,hk⟩
 ·rw[List.getElem?_set_ne (fun h=>e h.symm)]
  constructor
  ·exact .inl
  ·rintro (h|h)
   ·exact h
   ·exact absurd h.1 e
structure WR (n:Nat)(x:List (List Int))(m i k:Nat)(A:List (List Bool)):Prop where
 len:A.length=n
 row:∀r∈A,r.length=n
 sound:∀a b,at2 A a b=true->Pl x a b
 full:∀a b,a<n->b<n->TT x m a b->at2 A a b=true
 did:∀a b,a<n->b<n->(a<i\/a=i/\b<k)->TT x m a m->TT x m m b->at2 A a b=true
theorem WR.start {n:Nat}{x:List (List Int)}{A:List (List Bool)}(h1:A.length=n)(h2:∀r∈A,r.length=n)(h3:∀a b,at2 A a b=true->Ed x a b)(h4:∀a b,a<n->b<n->Ed x a b->at2 A a b=true):WR n x 0 0 0 A:=
 ⟨h1,h2,fun a b h=>.one (h3 a b h),h4,fun a b _ _ h=>by rcases h with h|h<;>exact absurd h (by simp)⟩
theorem WR.line {n:Nat}{x:List (List Int)}{m i:Nat}{A:List (List Bool)}(h:WR n x m i n A):WR n x m (i+1) 0 A:=
 ⟨h.len,h.row,h.sound,h.full,fun a b ha hb hc=>h.did a b ha hb (by omega)⟩
theorem WR.next {n:Nat}{x:List (List Int)}{m:Nat}{A:List (List Bool)}(h:WR n x m n 0 A):WR n x (m+1) 0 0 A:=
 ⟨h.len,h.row,h.sound,fun a b ha hb ht=>by
  rcases ht with ht|⟨h1,h2⟩
  ·exact h.full a b ha hb ht
  ·exact h.did a b ha hb (.inl ha) h1 h2,fun a b _ _ h=>by rcases h with h|h<;>exact absurd h (by simp)⟩
theorem WR.skip {n:Nat}{x:List (List Int)}{m i k:Nat}{A:List (List Bool)}(h:WR n x m i k A)(hm:m<n)(hi:i<n)(hk:k<n)(hs:(at2 A i m&&at2 A m k)=false):WR n x m i (k+1) A:=
 ⟨h.len,h.row,h.sound,h.full,fun a b ha hb hc h1 h2=>by
  by_cases e:a=i/\b=k
  ·obtain⟨rfl,rfl⟩:=e
   rw[h.full _ _ ha hm h1,h.full _ _ hm hb h2] at hs
   cases hs
  ·exact h.did a b ha hb (by omega) h1 h2⟩
theorem WR.hit {n:Nat}{x:List (List Int)}{m i k:Nat}{A:List (List Bool)}(h:WR n x m i k A){r:List Bool}(hr:A[i]?=some r)(hk:k<n)(h1:at2 A i m=true)(h2:at2 A m k=true):WR n x m i (k+1) (A.set i (r.set k true)):=by
 have hrl:=h.row r (List.mem_of_getElem? hr)
 have hs:=at2_set2 hr (k:=k) (by omega)
 refine⟨by rw[List.length_set];exact h.len,fun r' hr'=>?_,fun a b hab=>?_,fun a b ha hb ht=>(hs a b).2 (.inl (h.full a b ha hb ht)),fun a b ha hb hc h1 h2=>?_⟩
 ·rcases List.mem_or_eq_of_mem_set hr' with h1|rfl
  ·exact h.row _ h1
  ·rw[List.length_set];exact hrl
 ·rcases (hs a b).1 hab with h3|⟨rfl,rfl⟩
  ·exact h.sound a b h3
  ·exact (h.sound _ _ h1).trans (h.sound _ _ h2)
 ·by_cases e:a=i/\b=k
  ·exact (hs a b).2 (.inr e)
  ·exact (hs a b).2 (.inl (h.did a b ha hb (by omega) h1 h2))
theorem WR.done {n:Nat}{x:List (List Int)}{A:List (List Bool)}(hx:InR n x)(h:WR n x n 0 0 A):IsM n x A:=
 ⟨h.len,h.row,fun a b ha hb=>⟨h.sound a b,fun hp=>h.full a b ha hb (TT.of hx hp)⟩⟩
def okR (A:List (List Bool))(done:List Bool)(k y:Nat):Bool:= !(at2 A k y&& !at2 A y k&& !(y==k)&& !done.getD y false)
theorem rdyR (A:List (List Bool))(done:List Bool)(k:Nat):rdy A done k=(List.range A.length).all (okR A done k):=by
 unfold rdy
 congr 1
 funext y
 unfold okR
 cases at2 A k y<;>cases at2 A y k<;>cases (y==k)<;>cases done.getD y false<;>rfl
end Go.Proofs.grp
namespace Go.Proofs.Ytkopkbhpompmnaa.q
open Go.Proofs Go Go.Cn code grp
set_option linter.unusedSimpArgs false
set_option linter.unusedVariables false
def rC (n:Nat)(bs:List Nat):List AV:=(bs.map fun b=>.slice b 0 n n)++List.replicate (n-bs.length) (.lst 0 [] .nil)
theorem rC_len {n:Nat}{bs:List Nat}(h:bs.length<=n):(rC n bs).length=n:=by simp[rC];omega
theorem rC_get {n:Nat}{bs:List Nat}{i b:Nat}(h:bs[i]?=some b):(rC n bs)[i]?=some (.slice b 0 n n):=by
 rw[rC,List.getElem?_append_left (by rw[List.length_map];exact (List.getElem?_eq_some_iff.1 h).1),List.getElem?_map,h];rfl
theorem rC_put {n:Nat}{bs:List Nat}(b:Nat)(h:bs.length<n):(rC n bs).take bs.length++[AV.slice b 0 n n]++(rC n bs).drop (bs.length+1)=rC n (bs++[b]):=by
 have e:List.replicate (n-bs.length) (AV.lst 0 [] .nil)=.lst 0 [] .nil::List.replicate (n-(bs++[b]).length) (.lst 0 [] .nil):=by
  rw[<-List.replicate_succ];congr 1;simp;omega
 have e1:(rC n bs).take bs.length=bs.map fun b=>.slice b 0 n n:=by
  rw[rC,List.take_append_of_le_length (by simp),List.take_of_length_le (by simp)]
 have e2:(rC n bs).drop (bs.length+1)=List.replicate (n-(bs++[b]).length) (.lst 0 [] .nil):=by
  rw[rC,e,List.drop_append,List.length_map,List.drop_of_length_le (by simp)]
  rw[show bs.length+1-bs.length=1 by omega];rfl
 rw[e1,e2,rC,List.map_append];rfl
structure MxM (K:Nat->Prop)(h0 h:AH)(n rb:Nat)(bs:List Nat)(A:List (List Bool)):Prop where
 ro:h.objs rb=some (.cells (rC n bs) 70)
 len:A.length=bs.length
 row:∀r∈A,r.length=n
 ob:∀(j b:Nat)(r:List Bool),bs[j]?=some b->A[j]?=some r->h.objs b=some (.cells (bC r) 4)
 nd:∀(i j b:Nat),bs[i]?=some b->bs[j]?=some b->i=j
 nrb:∀b∈bs,rb≠b
 kr:¬K rb
 kb:∀b∈bs,¬K b
 fr:h0.objs rb=none
 fb:∀b∈bs,h0.objs b=none
 oth:∀c,c≠rb->c∉bs->h.objs c=h0.objs c
 tk:h.toks=h0.toks
theorem MxM.le {K:Nat->Prop}{h0 h:AH}{n rb:Nat}{bs:List Nat}{A:List (List Bool)}(m:MxM K h0 h n rb bs A):h0.le h:=
 ⟨fun c o ho=>by rw[m.oth c (fun e=>by rw[e,m.fr] at ho;cases ho) (fun e=>by rw[m.fb c e] at ho;cases ho)];exact ho,fun c k hc=>by rw[m.tk];exact hc⟩
theorem MxM.start {K:Nat->Prop}{h0:AH}{n rb:Nat}(hr:h0.objs rb=none)(hk:¬K rb):MxM K h0 (h0.set rb (.cells (rC n []) 70)) n rb [] [] where
 ro:=AH.set_same _ _ _
 len:=rfl
 row:=by simp
 ob:=by simp
 nd:=by simp
 nrb:=by simp
 kr:=hk
 kb:=by simp
 fr:=hr
 fb:=by simp
 oth:=fun c h1 _=>AH.set_ne _ _ h1
 tk:=rfl
theorem MxM.fresh {K:Nat->Prop}{h0 h:AH}{n rb b:Nat}{bs:List Nat}{A:List (List Bool)}(m:MxM K h0 h n rb bs A)(hb:h.objs b=none):rb≠b/\b∉bs/\h0.objs b=none:=by
 have h1:rb≠b:=fun e=>by rw[<-e,m.ro] at hb;cases hb
 have h2:b∉bs:=fun e=>by
  obtain⟨j,hj,e⟩:=List.getElem_of_mem e
  have h1:bs[j]?=some b:=by rw[List.getElem?_eq_getElem hj,e]
  rw[m.ob j b _ h1 (List.getElem?_eq_getElem (by rw[m.len];exact hj))] at hb
  cases hb
 exact⟨h1,h2,by rw[<-m.oth b (fun e=>h1 e.symm) h2];exact hb⟩
theorem MxM.push {K:Nat->Prop}{h0 h:AH}{n rb b:Nat}{bs:List Nat}{A:List (List Bool)}(m:MxM K h0 h n rb bs A)(hb:h.objs b=none)(hk:¬K b){r:List Bool}(hr:r.length=n):MxM K h0 ((h.set b (.cells (bC r) 4)).set rb (.cells (rC n (bs++[b])) 70)) n rb (bs++[b]) (A++[r]):=by
 obtain⟨h1,h2,h3⟩:=m.fresh hb
 refine⟨AH.set_same _ _ _,by simp[m.len],fun r' h=>?_,fun j c r' hc h=>?_,fun i j c hi hj=>?_,fun c hc=>?_,m.kr,fun c hc=>?_,m.fr,fun c hc=>?_,fun c h4 h5=>?_,m.tk⟩
 ·rcases List.mem_append.1 h with h|h
  ·exact m.row _ h
  ·rw[List.mem_singleton.1 h];exact hr
 ·by_cases hj:j<bs.length
  ·rw[List.getElem?_append_left hj] at hc
   rw[List.getElem?_append_left (by rw[m.len];exact hj)] at h
   have hm:=List.mem_of_getElem? hc
   rw[AH.set_ne _ _ (fun e=>m.nrb c hm e.symm),AH.set_ne _ _ (fun e=>h2 (by rw[<-e];exact hm))]
   exact m.ob j c r' hc h
  ·have hjl:=(List.getElem?_eq_some_iff.1 hc).1
   have e:j=bs.length:=by rw[List.length_append,List.length_singleton] at hjl;omega
   subst e
   rw[List.getElem?_append_right (Nat.le_refl _),Nat.sub_self] at hc
   rw[<-m.len,List.getElem?_append_right (Nat.le_refl _),Nat.sub_self] at h
   cases hc;cases h
   rw[AH.set_ne _ _ (fun e=>h1 e.symm)]
   exact AH.set_same _ _ _
 ·have key:∀i:Nat,(bs++[b])[i]?=some c->(bs[i]?=some c/\c≠b)\/(i=bs.length/\c=b):=fun i hi=>by
   by_cases hj:i<bs.length
   ·rw[List.getElem?_append_left hj] at hi
    exact .inl ⟨hi,fun e=>h2 (e▸List.mem_of_getElem? hi)⟩
   ·have hjl:=(List.getElem?_eq_some_iff.1 hi).1
    have e:i=bs.length:=by rw[List.length_append,List.length_singleton] at hjl;omega
    subst e
    rw[List.getElem?_append_right (Nat.le_refl _),Nat.sub_self] at hi
    cases hi
    exact .inr ⟨rfl,rfl⟩
  rcases key i hi with⟨a1,a2⟩|⟨a1,a2⟩<;>rcases key j hj with⟨a3,a4⟩|⟨a3,a4⟩
  ·exact m.nd i j c a1 a3
  ·exact absurd a4 a2
  ·exact absurd a2 a4
  ·omega
 ·rcases List.mem_append.1 hc with hc|hc
  ·exact m.nrb c hc
  ·rw[List.mem_singleton.1 hc];exact h1
 ·rcases List.mem_append.1 hc with hc|hc
  ·exact m.kb c hc
  ·rw[List.mem_singleton.1 hc];exact hk
 ·rcases List.mem_append.1 hc with hc|hc
  ·exact m.fb c hc
  ·rw[List.mem_singleton.1 hc];exact h3
 ·rw[AH.set_ne _ _ h4,AH.set_ne _ _ (fun e=>h5 (by rw[e];simp)),m.oth c h4 (fun e=>h5 (List.mem_append_left _ e))]
theorem MxM.put {K:Nat->Prop}{h0 h:AH}{n rb b i:Nat}{bs:List Nat}{A:List (List Bool)}(m:MxM K h0 h n rb bs A)(hb:bs[i]?=some b){r:List Bool}(hr:r.length=n):MxM K h0 (h.set b (.cells (bC r) 4)) n rb bs (A.set i r):=by
 have hm:=List.mem_of_getElem? hb
 have hil:i<A.length:=by rw[m.len];exact (List.getElem?_eq_some_iff.1 hb).1
 refine⟨by rw[AH.set_ne _ _ (m.nrb b hm)];exact m.ro,by rw[List.length_set];exact m.len,fun r' h=>?_,fun j c r' hc h=>?_,m.nd,m.nrb,m.kr,m.kb,m.fr,m.fb,fun c h4 h5=>?_,m.tk⟩
 ·rcases List.mem_or_eq_of_mem_set h with h|rfl
  ·exact m.row _ h
  ·exact hr
 ·by_cases e:i=j
  ·subst e
   rw[List.getElem?_set_self hil] at h
   rw[hb] at hc
   cases hc;cases h
   exact AH.set_same _ _ _
  ·rw[List.getElem?_set_ne e] at h
   rw[AH.set_ne _ _ (fun e2=>e (m.nd _ _ _ hb (by rw[<-e2];exact hc)))]
   exact m.ob j c r' hc h
 ·rw[AH.set_ne _ _ (fun e=>h5 (by rw[e];exact hm))]
  exact m.oth c h4 h5
def Sp (x:List (List Int))(A:List (List Bool)):Prop:=∀(a:Nat)(row:List Int)(r:List Bool),x[a]?=some row->A[a]?=some r->∀y:Nat,r.getD y false=true↔(y:Int)∈row
theorem set_last (A:List (List Bool))(r r':List Bool):(A++[r]).set A.length r'=A++[r']:=by simp[List.set_append]
theorem ph1 (x:List (List Int))(n:Nat)(hn2:n<=1000000)(hx:InR n x)(hrl:∀row∈x,row.length<=1000000)(K:Nat->Prop)(h0:AH)(rb:Nat)(hr:h0.objs rb=none)(hk:¬K rb)(R:CExit->AQ)
  (hR:∀(fr:AFr)(h1:AH)(bs:List Nat)(A:List (List Bool)),fr 0=.int .i64 n->fr 5=.slice rb 0 n n->MxM K h0 h1 n rb bs A->bs.length=n->Sp x A->R (.exit 0) fr h1)
  (fr0:AFr)(f0:fr0 0=.int .i64 n)(f1:fr0 1=.lst 22 (rowsC x) .no)(f5:fr0 5=.slice rb 0 n n)(f6:fr0 6=.int .i64 0) :
  W T K (.loop l13_2.toC) fr0 (h0.set rb (.cells (rC n []) 70)) R:=by
 refine aloop (α:=Nat×List Nat×List (List Bool)) (fun s fr h1=>fr 0=.int .i64 n/\fr 1=.lst 22 (rowsC x) .no/\fr 5=.slice rb 0 n n/\fr 6=.int .i64 s.1/\s.1<=n/\s.2.1.length=s.1/\MxM K h0 h1 n rb s.2.1 s.2.2/\Sp x s.2.2) (fun s=>n-s.1) (0,[],[])
  ⟨f0,f1,f5,f6,Nat.zero_le _,rfl,MxM.start hr hk,by intro a row r _ h;simp at h⟩ ?_
 clear f0 f1 f5 f6
 rintro⟨i,bs,A⟩ fr h1 ⟨f0,f1,f5,f6,hi,hbl,hM,hS⟩
 simp only at f6 hi hbl hM hS
 by_cases hlt:i<n
 ·have k1:decide ((i:Int)<(n:Int))=true:=decide_eq_true (by omega)
  have c1:(i:Int)<(n:Int):=by omega
  obtain⟨row,hrow⟩ : ∃row,x[i]?=some row:=⟨_,List.getElem?_eq_getElem (by rw[hx.1];exact hlt)⟩
  have hrowl:=hrl row (List.mem_of_getElem? hrow)
  simp only[u_C l13_2.eq_1,rn,pevA,seval,f0,f1,f5,f6,k1]
  refine WO.mksl (j:=.i64) (k:=.i64) (m:=n) (n:=n) rfl rfl (Nat.le_refl _) (by omega) (by omega) fun b hb hkb=>?_
  have hc0:(zerosL [Value.bool false] n).map ofC1=bC (List.replicate n false):=by
   rw[zerosL_one,bC,List.map_replicate,List.map_replicate];rfl
  have hne:=(hM.fresh hb).1
  have hp:i+1<=(rC n bs).length:=by rw[rC_len (by omega)];omega
  have hput:(rC n bs).take i++[AV.slice b 0 n n]++(rC n bs).drop (i+1)=rC n (bs++[b]):=by
   have:=rC_put b (n:=n) (bs:=bs) (by omega)
   rw[hbl] at this;exact this
  simp only[rn,pevA,seval,f0,f1,f5,f6,hc0,c1,Nat.mul_one,s_objs hne,hM.ro,hp,hput]
  refine⟨hk,?_⟩
  have hM0:=hM.push hb hkb (r:=List.replicate n false) (by simp)
  have hbi:(bs++[b])[i]?=some b:=by rw[<-hbl,List.getElem?_append_right (Nat.le_refl _),Nat.sub_self];rfl
  have hAi:i=A.length:=by rw[hM.len,hbl]
  refine aloop (α:=Nat×List Bool) (fun s fr h1=>fr 0=.int .i64 n/\fr 1=.lst 22 (rowsC x) .no/\fr 5=.slice rb 0 n n/\fr 6=.int .i64 i/\fr 7=.int .i64 s.1/\s.1<=row.length/\s.2.length=n/\(∀y:Nat,s.2.getD y false=true↔(y:Int)∈row.take s.1)/\MxM K h0 h1 n rb (bs++[b]) (A++[s.2])) (fun s=>row.length-s.1) (0,List.replicate n false)
   ⟨f0,f1,f5,f6,rfl,Nat.zero_le _,by simp,fun y=>by simp[List.getD,List.getElem?_replicate];split<;>simp,hM0⟩ ?_
  clear f0 f1 f5 f6 hM0 hput hp
  rintro⟨k,r⟩ fr h2 ⟨f0,f1,f5,f6,f7,hkl,hrn,hrk,hM2⟩
  simp only at f7 hkl hrn hrk hM2
  have k2:decide ((i:Int)<(x.length:Nat))=true:=by rw[hx.1];exact k1
  by_cases hlt2:k<row.length
  ·have k3:decide ((k:Int)<(row.length:Nat))=true:=decide_eq_true (by omega)
   obtain⟨v,hv⟩ : ∃v,row[k]?=some v:=⟨_,List.getElem?_eq_getElem hlt2⟩
   obtain⟨hv0,hvn⟩:=hx.2 row (List.mem_of_getElem? hrow) v (List.mem_of_getElem? hv)
   obtain⟨y,rfl⟩ : ∃y:Nat,v=y:=⟨v.toNat,by omega⟩
   have c2:(y:Int)<(n:Int):=hvn
   have hw:IntKind.i64.wrap ((k:Int)+1)=((k+1:Nat):Int):=wrap64 ⟨by omega,by omega⟩
   have hro:=hM2.ro
   have hob:=hM2.ob i b r hbi (by rw[hAi,List.getElem?_append_right (Nat.le_refl _),Nat.sub_self];rfl)
   have hp:y+1<=(bC r).length:=by rw[bC_len];omega
   have hput:=bC_set r y true (by omega)
   simp only[u_C l13_1.eq_1,e_dregion d13_0,u_L s13_0.eq_1,u_T g13_0.eq_1,rn,pevA,seval,f0,f1,f5,f6,f7,c1,c2,k2,k3,rowsC_len,rowsC_get,hrow,lC_len,lC_get,hv,Option.map_some,Nat.mul_one,hro,hob,rC_get hbi,hp,hput,hw]
   refine⟨hkb,(k+1,r.set y true),by show row.length-(k+1)<row.length-k;omega,f0,f1,f5,f6,by simp[upd],hlt2,by rw[List.length_set];exact hrn,fun z=>?_,?_⟩
   ·rw[List.take_add_one,hv,Option.toList_some,List.mem_append,grp.getD_set,hrk,List.mem_singleton]
    constructor
    ·rintro (h|h)
     ·exact .inl h
     ·exact .inr (by rw[h.1])
    ·rintro (h|h)
     ·exact .inl h
     ·exact .inr ⟨by omega,by omega⟩
   ·have:=hM2.put hbi (r:=r.set y true) (by rw[List.length_set];exact hrn)
    rw[hAi,set_last] at this
    exact this
  ·have k3:decide ((k:Int)<(row.length:Nat))=false:=decide_eq_false (by omega)
   have hw:IntKind.i64.wrap ((i:Int)+1)=((i+1:Nat):Int):=wrap64 ⟨by omega,by omega⟩
   simp only[u_C l13_1.eq_1,rn,pevA,seval,f0,f1,f5,f6,f7,c1,k2,k3,rowsC_len,rowsC_get,hrow,lC_len,Option.map_some,hw]
   refine⟨(i+1,bs++[b],A++[r]),by show n-(i+1)<n-i;omega,f0,f1,f5,by simp[upd],hlt,by simp[hbl],hM2,fun a row' r' h1 h2 y=>?_⟩
   by_cases e:a<A.length
   ·rw[List.getElem?_append_left e] at h2
    exact hS a row' r' h1 h2 y
   ·have hl:=(List.getElem?_eq_some_iff.1 h2).1
    have e2:a=A.length:=by rw[List.length_append,List.length_singleton] at hl;omega
    subst e2
    rw[List.getElem?_append_right (Nat.le_refl _),Nat.sub_self] at h2
    rw[<-hAi,hrow] at h1
    cases h1;cases h2
    rw[hrk,List.take_of_length_le (by omega)]
 ·have k1:decide ((i:Int)<(n:Int))=false:=decide_eq_false (by omega)
  simp only[u_C l13_2.eq_1,rn,pevA,seval,f0,f1,f5,f6,k1]
  exact hR _ h1 bs A f0 f5 hM (by omega) hS
theorem bC_at {n:Nat}{A:List (List Bool)}{i k:Nat}{r:List Bool}(hr:A[i]?=some r)(hl:r.length=n)(hk:k<n):(bC r)[k]?=some (.bool (at2 A i k)):=by
 rw[bC_get]
 have:k<r.length:=by omega
 unfold at2
 rw[hr]
 simp[List.getD,this]
theorem MxM.at_ {K:Nat->Prop}{h0 h:AH}{n rb:Nat}{bs:List Nat}{A:List (List Bool)}(m:MxM K h0 h n rb bs A)(hb:bs.length=n){i:Nat}(hi:i<n):∃b r,bs[i]?=some b/\A[i]?=some r/\r.length=n/\rb≠b/\¬K b/\h.objs b=some (.cells (bC r) 4)/\(rC n bs)[i]?=some (.slice b 0 n n):=by
 have h1:bs[i]?=some (bs[i]'(by omega)):=List.getElem?_eq_getElem (by omega)
 have h2:A[i]?=some (A[i]'(by rw[m.len];omega)):=List.getElem?_eq_getElem (by rw[m.len];omega)
 exact⟨_,_,h1,h2,m.row _ (List.getElem_mem _),m.nrb _ (List.getElem_mem _),m.kb _ (List.getElem_mem _),m.ob i _ _ h1 h2,rC_get h1⟩
theorem ph2 (x:List (List Int))(n:Nat)(hn2:n<=1000000)(hx:InR n x)(K:Nat->Prop)(h0 h:AH)(rb:Nat)(bs:List Nat)(A:List (List Bool))(hM:MxM K h0 h n rb bs A)(hbl:bs.length=n)(hW:WR n x 0 0 0 A)(R:CExit->AQ)
  (hR:∀(fr:AFr)(h1:AH)(A:List (List Bool)),fr 0=.int .i64 n->fr 5=.slice rb 0 n n->MxM K h0 h1 n rb bs A->IsM n x A->R (.exit 4) fr h1)
  (fr0:AFr)(f0:fr0 0=.int .i64 n)(f5:fr0 5=.slice rb 0 n n)(f8:fr0 8=.int .i64 0) :
  W T K (.loop l13_5.toC) fr0 h R:=by
 refine aloop (α:=Nat×List (List Bool)) (fun s fr h1=>fr 0=.int .i64 n/\fr 5=.slice rb 0 n n/\fr 8=.int .i64 s.1/\s.1<=n/\MxM K h0 h1 n rb bs s.2/\WR n x s.1 0 0 s.2) (fun s=>n-s.1) (0,A)
  ⟨f0,f5,f8,Nat.zero_le _,hM,hW⟩ ?_
 clear f0 f5 f8 hM hW
 rintro⟨m,A1⟩ fr h1 ⟨f0,f5,f8,hm,hM,hW⟩
 simp only at f8 hm hM hW
 by_cases hlt:m<n
 ·have k1:decide ((m:Int)<(n:Int))=true:=decide_eq_true (by omega)
  have c1:(m:Int)<(n:Int):=by omega
  simp only[u_C l13_5.eq_1,rn,pevA,seval,f0,f5,f8,k1]
  refine aloop (α:=Nat×List (List Bool)) (fun s fr h1=>fr 0=.int .i64 n/\fr 5=.slice rb 0 n n/\fr 8=.int .i64 m/\fr 9=.int .i64 s.1/\s.1<=n/\MxM K h0 h1 n rb bs s.2/\WR n x m s.1 0 s.2) (fun s=>n-s.1) (0,A1)
   ⟨f0,f5,f8,rfl,Nat.zero_le _,hM,hW⟩ ?_
  clear f0 f5 f8 hM hW
  rintro⟨i,A2⟩ fr h2 ⟨f0,f5,f8,f9,hi,hM,hW⟩
  simp only at f9 hi hM hW
  by_cases hlt2:i<n
  ·have k2:decide ((i:Int)<(n:Int))=true:=decide_eq_true (by omega)
   have c2:(i:Int)<(n:Int):=by omega
   simp only[u_C l13_4.eq_1,rn,pevA,seval,f0,f5,f8,f9,k2]
   refine aloop (α:=Nat×List (List Bool)) (fun s fr h1=>fr 0=.int .i64 n/\fr 5=.slice rb 0 n n/\fr 8=.int .i64 m/\fr 9=.int .i64 i/\fr 10=.int .i64 s.1/\s.1<=n/\MxM K h0 h1 n rb bs s.2/\WR n x m i s.1 s.2) (fun s=>n-s.1) (0,A2)
    ⟨f0,f5,f8,f9,rfl,Nat.zero_le _,hM,hW⟩ ?_
   clear f0 f5 f8 f9 hM hW
   rintro⟨k,A3⟩ fr h3 ⟨f0,f5,f8,f9,f10,hk,hM,hW⟩
   simp only at f10 hk hM hW
   by_cases hlt3:k<n
   ·have k3:decide ((k:Int)<(n:Int))=true:=decide_eq_true (by omega)
    have c3:(k:Int)<(n:Int):=by omega
    have hw:IntKind.i64.wrap ((k:Int)+1)=((k+1:Nat):Int):=wrap64 ⟨by omega,by omega⟩
    obtain⟨bi,ri,e1,e2,e3,e4,e5,e6,e7⟩:=hM.at_ hbl hlt2
    obtain⟨bm,rm,g1,g2,g3,g4,g5,g6,g7⟩:=hM.at_ hbl hlt
    have hro:=hM.ro
    have a1:=bC_at e2 e3 hlt
    have a2:=bC_at g2 g3 hlt3
    cases d1:at2 A3 i m with
    |false=>
     rw[d1] at a1
     simp only[u_C l13_3.eq_1,rn,pevA,seval,f0,f5,f8,f9,f10,c1,c2,c3,k3,Nat.mul_one,hro,e6,e7,g6,g7,a1,a2,hw]
     exact⟨(k+1,A3),by show n-(k+1)<n-k;omega,f0,f5,f8,f9,by simp[upd],hlt3,hM,hW.skip hlt hlt2 hlt3 (by rw[d1];rfl)⟩
    |true=>
     rw[d1] at a1
     cases d2:at2 A3 m k with
     |false=>
      rw[d2] at a2
      simp only[u_C l13_3.eq_1,rn,pevA,seval,f0,f5,f8,f9,f10,c1,c2,c3,k3,Nat.mul_one,hro,e6,e7,g6,g7,a1,a2,hw]
      exact⟨(k+1,A3),by show n-(k+1)<n-k;omega,f0,f5,f8,f9,by simp[upd],hlt3,hM,hW.skip hlt hlt2 hlt3 (by rw[d2,Bool.and_false])⟩
     |true=>
      rw[d2] at a2
      have hp:k+1<=(bC ri).length:=by rw[bC_len];omega
      have hput:=bC_set ri k true (by omega)
      simp only[u_C l13_3.eq_1,rn,pevA,seval,f0,f5,f8,f9,f10,c1,c2,c3,k3,Nat.mul_one,hro,e6,e7,g6,g7,a1,a2,hw,hp,hput]
      exact⟨e5,(k+1,A3.set i (ri.set k true)),by show n-(k+1)<n-k;omega,f0,f5,f8,f9,by simp[upd],hlt3,hM.put e1 (by rw[List.length_set];exact e3),hW.hit e2 hlt3 d1 d2⟩
   ·have k3:decide ((k:Int)<(n:Int))=false:=decide_eq_false (by omega)
    have hkn:k=n:=by omega
    subst hkn
    have hw:IntKind.i64.wrap ((i:Int)+1)=((i+1:Nat):Int):=wrap64 ⟨by omega,by omega⟩
    simp only[u_C l13_3.eq_1,rn,pevA,seval,f0,f5,f8,f9,f10,k3,hw]
    exact⟨(i+1,A3),by show k-(i+1)<k-i;omega,f0,f5,f8,by simp[upd],hlt2,hM,hW.line⟩
  ·have k2:decide ((i:Int)<(n:Int))=false:=decide_eq_false (by omega)
   have hin:i=n:=by omega
   subst hin
   have hw:IntKind.i64.wrap ((m:Int)+1)=((m+1:Nat):Int):=wrap64 ⟨by omega,by omega⟩
   simp only[u_C l13_4.eq_1,rn,pevA,seval,f0,f5,f8,f9,k2,hw]
   exact⟨(m+1,A2),by show i-(m+1)<i-m;omega,f0,f5,by simp[upd],hlt,hM,hW.next⟩
 ·have k1:decide ((m:Int)<(n:Int))=false:=decide_eq_false (by omega)
  have hmn:m=n:=by omega
  subst hmn
  simp only[u_C l13_5.eq_1,rn,pevA,seval,f0,f5,f8,k1]
  exact hR _ h1 A1 f0 f5 hM (hW.done hx)
theorem ph3 (x:List (List Int))(n:Nat)(hn2:n<=1000000)(K:Nat->Prop)(h0 hm:AH)(rb:Nat)(bs:List Nat)(A:List (List Bool))(hM:MxM K h0 hm n rb bs A)(hbl:bs.length=n)(hA:IsM n x A)(db:Nat)(hdb:hm.objs db=none)(done:List Bool)(hdl:done.length=n)(V:AV)(tk:Nat->Option Tok)(R:CExit->AQ)
  (hR:∀(fr:AFr)(o:Option Nat),fr 0=.int .i64 n->fr 5=.slice rb 0 n n->fr 11=.slice db 0 n n->fr 12=V->nxt A done=o->fr 13=.int .i64 (match o with|none=> -1|some k=>k)->(∀k,o=some k->k<n)->R (.exit 12) fr ((hm.set db (.cells (bC done) 4)).tk tk))
  (fr0:AFr)(f0:fr0 0=.int .i64 n)(f5:fr0 5=.slice rb 0 n n)(f11:fr0 11=.slice db 0 n n)(f12:fr0 12=V)(f13:fr0 13=.int .i64 (-1))(f14:fr0 14=.int .i64 0) :
  W T K (.loop l13_7.toC) fr0 ((hm.set db (.cells (bC done) 4)).tk tk) R:=by
 have hrd:=(hM.fresh hdb).1
 have hro:=hM.ro
 have hbd:∀b,b∈bs->b≠db:=fun b hb e=>(hM.fresh hdb).2.1 (e▸hb)
 have hlen:=hA.1
 refine aloop (α:=Nat×Option Nat) (fun s fr h1=>fr 0=.int .i64 n/\fr 5=.slice rb 0 n n/\fr 11=.slice db 0 n n/\fr 12=V/\fr 13=.int .i64 (match s.2 with|none=> -1|some k=>(k:Int))/\fr 14=.int .i64 s.1/\s.1<=n/\
   (s.2=none->∀i,i<s.1->(!done.getD i false&&rdy A done i)=false)/\(∀k,s.2=some k->k<n/\nxt A done=some k)/\h1=(hm.set db (.cells (bC done) 4)).tk tk) (fun s=>n-s.1) (0,none)
  ⟨f0,f5,f11,f12,f13,f14,Nat.zero_le _,fun _ i hi=>absurd hi (Nat.not_lt_zero _),fun k h=>(by cases h),rfl⟩ ?_
 clear f0 f5 f11 f12 f13 f14
 rintro⟨i,o⟩ fr h1 ⟨f0,f5,f11,f12,f13,f14,hi,hno,hok,rfl⟩
 simp only at f13 f14 hi hno hok
 cases o with
 |some k=>
  obtain⟨hk,hnx⟩:=hok k rfl
  have c0:decide ((k:Int)<0)=false:=decide_eq_false (by omega)
  simp only at f13
  by_cases hlt:i<n
  ·have k1:decide ((i:Int)<(n:Int))=true:=decide_eq_true (by omega)
   simp only[u_C l13_7.eq_1,rn,pevA,seval,f0,f5,f11,f12,f13,f14,k1,c0]
   exact hR _ (some k) f0 f5 f11 f12 hnx f13 fun k' e=>by cases e;exact hk
  ·have k1:decide ((i:Int)<(n:Int))=false:=decide_eq_false (by omega)
   simp only[u_C l13_7.eq_1,rn,pevA,seval,f0,f5,f11,f12,f13,f14,k1,c0]
   exact hR _ (some k) f0 f5 f11 f12 hnx f13 fun k' e=>by cases e;exact hk
 |none=>
  simp only at f13
  by_cases hlt:i<n
  ·have k1:decide ((i:Int)<(n:Int))=true:=decide_eq_true (by omega)
   have c1:(i:Int)<(n:Int):=by omega
   have hw:IntKind.i64.wrap ((i:Int)+1)=((i+1:Nat):Int):=wrap64 ⟨by omega,by omega⟩
   have hgi:done[i]?=some (done.getD i false):=by
    have:i<done.length:=by omega
    simp[List.getD,this]
   obtain⟨bi,ri,e1,e2,e3,e4,e5,e6,e7⟩:=hM.at_ hbl hlt
   have hbi:=hbd bi (List.mem_of_getElem? e1)
   simp only[u_C l13_7.eq_1,rn,pevA,seval,f0,f5,f11,f12,f13,f14,k1,c1,Nat.mul_one,bC_get,hgi,Option.map_some]
   refine aloop (α:=Nat) (fun k fr h1=>fr 0=.int .i64 n/\fr 5=.slice rb 0 n n/\fr 11=.slice db 0 n n/\fr 12=V/\fr 13=.int .i64 (-1)/\fr 14=.int .i64 i/\fr 15=.bool (!done.getD i false&&(List.range k).all (okR A done i))/\fr 16=.int .i64 k/\k<=n/\h1=(hm.set db (.cells (bC done) 4)).tk tk) (fun k=>n-k) 0
    ⟨f0,f5,f11,f12,f13,f14,by simp[upd],rfl,Nat.zero_le _,rfl⟩ ?_
   clear f0 f5 f11 f12 f13 f14
   rintro k fr h1 ⟨f0,f5,f11,f12,f13,f14,f15,f16,hk,rfl⟩
   by_cases hlt2:k<n
   ·have k2:decide ((k:Int)<(n:Int))=true:=decide_eq_true (by omega)
    have c2:(k:Int)<(n:Int):=by omega
    have hw2:IntKind.i64.wrap ((k:Int)+1)=((k+1:Nat):Int):=wrap64 ⟨by omega,by omega⟩
    obtain⟨bk,rk,g1,g2,g3,g4,g5,g6,g7⟩:=hM.at_ hbl hlt2
    have hbk:=hbd bk (List.mem_of_getElem? g1)
    have a1:=bC_at e2 e3 hlt2
    have a2:=bC_at g2 g3 hlt
    have hgk:(bC done)[k]?=some (.bool (done.getD k false)):=by
     have:k<done.length:=by omega
     rw[bC_get];simp[List.getD,this]
    have hgo:∀fr:AFr,fr 0=.int .i64 n->fr 5=.slice rb 0 n n->fr 11=.slice db 0 n n->fr 12=V->fr 13=.int .i64 (-1)->fr 14=.int .i64 i->fr 15=.bool (!done.getD i false&&((List.range k).all (okR A done i)&&okR A done i k))->fr 16=.int .i64 ((k+1:Nat):Int)->
      Nxt (fun (k:Nat)(fr:AFr) h1=>fr 0=.int .i64 n/\fr 5=.slice rb 0 n n/\fr 11=.slice db 0 n n/\fr 12=V/\fr 13=.int .i64 (-1)/\fr 14=.int .i64 i/\fr 15=.bool (!done.getD i false&&(List.range k).all (okR A done i))/\fr 16=.int .i64 k/\k<=n/\h1=(hm.set db (.cells (bC done) 4)).tk tk) (fun k=>n-k) k fr ((hm.set db (.cells (bC done) 4)).tk tk):=
     fun fr f0 f5 f11 f12 f13 f14 f15 f16=>⟨k+1,by show n-(k+1)<n-k;omega,f0,f5,f11,f12,f13,f14,by rw[all_succ];exact f15,f16,hlt2,rfl⟩
    have hskip:okR A done i k=true->∀fr:AFr,fr 0=.int .i64 n->fr 5=.slice rb 0 n n->fr 11=.slice db 0 n n->fr 12=V->fr 13=.int .i64 (-1)->fr 14=.int .i64 i->fr 15=.bool (!done.getD i false&&(List.range k).all (okR A done i))->fr 16=.int .i64 ((k+1:Nat):Int)->_:=
     fun h fr f0 f5 f11 f12 f13 f14 f15 f16=>hgo fr f0 f5 f11 f12 f13 f14 (by rw[h,Bool.and_true];exact f15) f16
    cases d1:at2 A i k with
    |false=>
     rw[d1] at a1
     simp only[u_C l13_6.eq_1,rn,pevA,seval,f0,f5,f11,f12,f13,f14,f15,f16,c1,c2,k2,Nat.mul_one,s_objs hrd,s_objs hbi,s_objs hbk,hro,e6,e7,g6,g7,a1,a2,hgk,hw2]
     exact hskip (by unfold grp.okR;rw[d1];rfl) _ f0 f5 f11 f12 f13 f14 f15 (by simp[upd])
    |true=>
     rw[d1] at a1
     cases d2:at2 A k i with
     |true=>
      rw[d2] at a2
      simp only[u_C l13_6.eq_1,rn,pevA,seval,f0,f5,f11,f12,f13,f14,f15,f16,c1,c2,k2,Nat.mul_one,s_objs hrd,s_objs hbi,s_objs hbk,hro,e6,e7,g6,g7,a1,a2,hgk,hw2]
      exact hskip (by unfold grp.okR;rw[d1,d2];rfl) _ f0 f5 f11 f12 f13 f14 f15 (by simp[upd])
     |false=>
      rw[d2] at a2
      have hki:¬k=i:=fun e=>by rw[e] at d1 d2;rw[d1] at d2;cases d2
      have hki2:¬(k:Int)=(i:Int):=by omega
      have hki3:(k==i)=false:=by simpa using hki
      cases d3:done.getD k false with
      |true=>
       rw[d3] at hgk
       simp only[u_C l13_6.eq_1,rn,pevA,seval,f0,f5,f11,f12,f13,f14,f15,f16,c1,c2,k2,Nat.mul_one,s_objs hrd,s_objs hbi,s_objs hbk,hro,e6,e7,g6,g7,a1,a2,hgk,hki2,hw2]
       exact hskip (by unfold grp.okR;rw[d1,d2,d3,hki3];rfl) _ f0 f5 f11 f12 f13 f14 f15 (by simp[upd])
      |false=>
       rw[d3] at hgk
       simp only[u_C l13_6.eq_1,rn,pevA,seval,f0,f5,f11,f12,f13,f14,f15,f16,c1,c2,k2,Nat.mul_one,s_objs hrd,s_objs hbi,s_objs hbk,hro,e6,e7,g6,g7,a1,a2,hgk,hki2,hw2]
       have hf:okR A done i k=false:=by unfold grp.okR;rw[d1,d2,d3,hki3];rfl
       exact hgo _ f0 f5 f11 f12 f13 f14 (by rw[hf,Bool.and_false,Bool.and_false];simp[upd]) (by simp[upd])
   ·have k2:decide ((k:Int)<(n:Int))=false:=decide_eq_false (by omega)
    have hkn:k=n:=by omega
    rw[hkn, <-hlen, <-rdyR] at f15
    cases hr:(!done.getD i false&&rdy A done i) with
    |false=>
     rw[hr] at f15
     simp only[u_C l13_6.eq_1,rn,pevA,seval,f0,f5,f11,f12,f13,f14,f15,f16,k2,hw]
     refine⟨(i+1,none),by show n-(i+1)<n-i;omega,f0,f5,f11,f12,f13,by simp[upd],hlt,fun _ j hj=>?_,fun k h=>(by cases h),rfl⟩
     rcases Nat.lt_succ_iff_lt_or_eq.1 hj with hj|rfl
     ·exact hno rfl j hj
     ·exact hr
    |true=>
     rw[hr] at f15
     simp only[u_C l13_6.eq_1,rn,pevA,seval,f0,f5,f11,f12,f13,f14,f15,f16,k2,hw]
     exact⟨(i+1,some i),by show n-(i+1)<n-i;omega,f0,f5,f11,f12,by simp[upd],by simp[upd],hlt,fun h=>(by cases h),fun k h=>(by cases h;exact⟨hlt,nxt_some hA hlt (hno rfl) hr⟩),rfl⟩
  ·have k1:decide ((i:Int)<(n:Int))=false:=decide_eq_false (by omega)
   simp only[u_C l13_7.eq_1,rn,pevA,seval,f0,f5,f11,f12,f13,f14,k1]
   exact hR _ none f0 f5 f11 f12 (nxt_none hA fun j hj=>hno rfl j (by omega)) f13 fun k e=>by cases e
theorem ph4 (x:List (List Int))(n:Nat)(hn2:n<=1000000)(K:Nat->Prop)(h0 hm:AH)(rb:Nat)(bs:List Nat)(A:List (List Bool))(hM:MxM K h0 hm n rb bs A)(hbl:bs.length=n)(hA:IsM n x A)(db:Nat)(hdb:hm.objs db=none)(hkd:¬K db)(done:List Bool)(hdl:done.length=n)(V:AV)(t0 tk:Nat->Option Tok)(L:List (Tag×TypeId×Nat×Nat))(hT0:Toks t0 tk L)(k:Nat)(hk:k<n)(R:CExit->AQ)
  (hR:∀(fr:AFr)(E:TypeId)(tag:Tag)(tk':Nat->Option Tok),fr 0=.int .i64 n->fr 5=.slice rb 0 n n->fr 11=.slice db 0 n n->fr 12=V->(nC (scc A k)≠[]->E=3)->fr 17=.lst E (nC (scc A k)) tag->Toks t0 tk' ((tag,3,1,0)::L)->R (.exit 16) fr ((hm.set db (.cells (bC (grp.mark done (scc A k))) 4)).tk tk'))
  (fr0:AFr)(f0:fr0 0=.int .i64 n)(f5:fr0 5=.slice rb 0 n n)(f11:fr0 11=.slice db 0 n n)(f12:fr0 12=V)(f13:fr0 13=.int .i64 k)(f17:fr0 17=.lst 0 [] .nil)(f18:fr0 18=.int .i64 0) :
  W T K (.loop l13_8.toC) fr0 ((hm.set db (.cells (bC done) 4)).tk tk) R:=by
 have hrd:=(hM.fresh hdb).1
 have hro:=hM.ro
 have hbd:∀b,b∈bs->b≠db:=fun b hb e=>(hM.fresh hdb).2.1 (e▸hb)
 refine aloop (α:=Nat) (fun y fr h1=>fr 0=.int .i64 n/\fr 5=.slice rb 0 n n/\fr 11=.slice db 0 n n/\fr 12=V/\fr 13=.int .i64 k/\fr 18=.int .i64 y/\y<=n/\∃E tag tk',(nC ((List.range y).filter (inB A k))≠[]->E=3)/\fr 17=.lst E (nC ((List.range y).filter (inB A k))) tag/\Toks t0 tk' ((tag,3,1,0)::L)/\
   h1=(hm.set db (.cells (bC (grp.mark done ((List.range y).filter (inB A k)))) 4)).tk tk') (fun y=>n-y) 0
  ⟨f0,f5,f11,f12,f13,f18,Nat.zero_le _,0,.nil,tk,fun h=>absurd rfl h,f17,hT0.cons _ _,rfl⟩ ?_
 clear f0 f5 f11 f12 f13 f17 f18
 rintro y fr h1 ⟨f0,f5,f11,f12,f13,f18,hyn,E,tag,tk1,hE,f17,hT,rfl⟩
 by_cases hlt:y<n
 ·have k1:decide ((y:Int)<(n:Int))=true:=decide_eq_true (by omega)
  have c1:(y:Int)<(n:Int):=by omega
  have c2:(k:Int)<(n:Int):=by omega
  have hw:IntKind.i64.wrap ((y:Int)+1)=((y+1:Nat):Int):=wrap64 ⟨by omega,by omega⟩
  obtain⟨bk,rk,e1,e2,e3,e4,e5,e6,e7⟩:=hM.at_ hbl hk
  obtain⟨bi,ri,g1,g2,g3,g4,g5,g6,g7⟩:=hM.at_ hbl hlt
  have hbk:=hbd bk (List.mem_of_getElem? e1)
  have hbi:=hbd bi (List.mem_of_getElem? g1)
  have a1:=bC_at e2 e3 hlt
  have a2:=bC_at g2 g3 hk
  have hfl:(List.filter (inB A k) (List.range y)).length<=y:=Nat.le_trans (List.length_filter_le _ _) (by simp)
  have hskip:inB A k y=false->∀fr:AFr,fr 0=.int .i64 n->fr 5=.slice rb 0 n n->fr 11=.slice db 0 n n->fr 12=V->fr 13=.int .i64 k->fr 18=.int .i64 ((y+1:Nat):Int)->fr 17=.lst E (nC ((List.range y).filter (inB A k))) tag->
    Nxt (fun (y:Nat)(fr:AFr) h1=>fr 0=.int .i64 n/\fr 5=.slice rb 0 n n/\fr 11=.slice db 0 n n/\fr 12=V/\fr 13=.int .i64 k/\fr 18=.int .i64 y/\y<=n/\∃E tag tk',(nC ((List.range y).filter (inB A k))≠[]->E=3)/\fr 17=.lst E (nC ((List.range y).filter (inB A k))) tag/\Toks t0 tk' ((tag,3,1,0)::L)/\
     h1=(hm.set db (.cells (bC (grp.mark done ((List.range y).filter (inB A k)))) 4)).tk tk') (fun y=>n-y) y fr ((hm.set db (.cells (bC (grp.mark done ((List.range y).filter (inB A k)))) 4)).tk tk1):=by
   intro h fr f0 f5 f11 f12 f13 f18 f17
   have e:(List.range (y+1)).filter (inB A k)=(List.range y).filter (inB A k):=by rw[fil_succ,if_neg (by simp[h]),List.append_nil]
   refine⟨y+1,by show n-(y+1)<n-y;omega,f0,f5,f11,f12,f13,f18,hlt,E,tag,tk1,?_,?_,hT,?_⟩
   ·rw[e];exact hE
   ·rw[e];exact f17
   ·rw[e]
  have hdy:∀l:List Nat,y<(grp.mark done l).length:=fun l=>by rw[mark_len];omega
  have hp:y+1<=(bC (grp.mark done ((List.range y).filter (inB A k)))).length:=by rw[bC_len];exact hdy _
  have hput:=bC_set (grp.mark done ((List.range y).filter (inB A k))) y true (hdy _)
  have hhit:inB A k y=true->∀(fr:AFr) tag' tk',fr 0=.int .i64 n->fr 5=.slice rb 0 n n->fr 11=.slice db 0 n n->fr 12=V->fr 13=.int .i64 k->fr 18=.int .i64 ((y+1:Nat):Int)->fr 17=.lst 3 (nC ((List.range y).filter (inB A k))++nC [y]) tag'->Toks t0 tk' ((tag',3,1,0)::L)->
    Nxt (fun (y:Nat)(fr:AFr) h1=>fr 0=.int .i64 n/\fr 5=.slice rb 0 n n/\fr 11=.slice db 0 n n/\fr 12=V/\fr 13=.int .i64 k/\fr 18=.int .i64 y/\y<=n/\∃E tag tk',(nC ((List.range y).filter (inB A k))≠[]->E=3)/\fr 17=.lst E (nC ((List.range y).filter (inB A k))) tag/\Toks t0 tk' ((tag,3,1,0)::L)/\
     h1=(hm.set db (.cells (bC (grp.mark done ((List.range y).filter (inB A k)))) 4)).tk tk') (fun y=>n-y) y fr ((hm.set db (.cells (bC ((grp.mark done ((List.range y).filter (inB A k))).set y true)) 4)).tk tk'):=by
   intro h fr tag' tk' f0 f5 f11 f12 f13 f18 f17 hT
   have e:(List.range (y+1)).filter (inB A k)=(List.range y).filter (inB A k)++[y]:=by rw[fil_succ,if_pos h]
   refine⟨y+1,by show n-(y+1)<n-y;omega,f0,f5,f11,f12,f13,f18,hlt,3,tag',tk',fun _=>rfl,?_,hT,?_⟩
   ·rw[e,nC_app];exact f17
   ·rw[e,mark_app]
  by_cases hyk:y=k
  ·subst hyk
   simp only[u_C l13_8.eq_1,rn,pevA,seval,f0,f5,f11,f12,f13,f17,f18,k1,c1,decide_true]
   refine WO.append (i:=0) hT rfl rfl rfl trivial (by decide) ?_ ?_ ?_ ?_ ?_ fun tag' t' hT'=>?_
   ·simp
   ·simp[oneA]
   ·simp
   ·intro _;simp only[capOk,nC_len,List.length_singleton];omega
   ·simp only[big_eq,nC_len,List.length_singleton];omega
   simp only[rn,pevA,seval,f0,f5,f11,f12,f13,f18,c1,Nat.mul_one,hp,hput,hw]
   exact⟨hkd,hhit (by simp[inB]) _ tag' t' f0 f5 f11 f12 f13 (by simp[upd]) rfl hT'⟩
  ·have hyk2:¬(y:Int)=(k:Int):=by omega
   have hyk3:(y==k)=false:=by simpa using hyk
   cases d1:at2 A k y with
   |false=>
    rw[d1] at a1
    simp only[u_C l13_8.eq_1,rn,pevA,seval,f0,f5,f11,f12,f13,f17,f18,k1,c1,c2,hyk2,Nat.mul_one,s_objs hrd,s_objs hbi,s_objs hbk,hro,e6,e7,g6,g7,a1,a2,hw]
    exact hskip (by simp[inB,d1,hyk3]) _ f0 f5 f11 f12 f13 (by simp[upd]) f17
   |true=>
    rw[d1] at a1
    cases d2:at2 A y k with
    |false=>
     rw[d2] at a2
     simp only[u_C l13_8.eq_1,rn,pevA,seval,f0,f5,f11,f12,f13,f17,f18,k1,c1,c2,hyk2,Nat.mul_one,s_objs hrd,s_objs hbi,s_objs hbk,hro,e6,e7,g6,g7,a1,a2,hw]
     exact hskip (by simp[inB,d2,hyk3]) _ f0 f5 f11 f12 f13 (by simp[upd]) f17
    |true=>
     rw[d2] at a2
     simp only[u_C l13_8.eq_1,rn,pevA,seval,f0,f5,f11,f12,f13,f17,f18,k1,c1,c2,hyk2,Nat.mul_one,s_objs hrd,s_objs hbi,s_objs hbk,hro,e6,e7,g6,g7,a1,a2]
     refine WO.append (i:=0) hT rfl rfl rfl trivial (by decide) ?_ ?_ ?_ ?_ ?_ fun tag' t' hT'=>?_
     ·simp
     ·simp[oneA]
     ·simp
     ·intro _;simp only[capOk,nC_len,List.length_singleton];omega
     ·simp only[big_eq,nC_len,List.length_singleton];omega
     simp only[rn,pevA,seval,f0,f5,f11,f12,f13,f18,c1,Nat.mul_one,hp,hput,hw]
     exact⟨hkd,hhit (by simp[inB,d1,d2]) _ tag' t' f0 f5 f11 f12 f13 (by simp[upd]) rfl hT'⟩
 ·have k1:decide ((y:Int)<(n:Int))=false:=decide_eq_false (by omega)
  have hyn':y=n:=by omega
  subst hyn'
  rw[<-scc_eq hA] at f17 hE
  simp only[u_C l13_8.eq_1,rn,pevA,seval,f0,f5,f11,f12,f13,f17,f18,k1, <-scc_eq hA]
  exact hR _ E tag tk1 f0 f5 f11 f12 hE f17 hT
theorem order4_ok (x:List (List Int))(n:Nat)(hn2:n<=1000000)(hx:InR n x)(hrl:∀row∈x,row.length<=1000000)(K:Nat->Prop)(h:AH):ACall T K (.func 13) [.int .i64 n,.lst 22 (rowsC x) .no] h (OrdQ n x h):=by
 refine ACall.retQ t13 fun hK=>?_
 simp only[u_C c13.eq_1,rn,pevA,seval]
 refine WO.mksl (j:=.i64) (k:=.i64) (m:=n) (n:=n) rfl rfl (Nat.le_refl _) (by omega) (by omega) fun rb hr hk=>?_
 have hc0:(zerosL [Value.slice none 0 0] n).map ofC1=rC n []:=by
  rw[zerosL_one,rC,List.map_replicate];rfl
 simp only[rn,pevA,seval,hc0]
 refine ph1 x n hn2 hx hrl K h rb hr hk _ ?_ _ rfl rfl rfl rfl
 intro fr hm bs A f0 f5 hM hbl hS
 simp only[rn,pevA,seval,f0,f5]
 refine ph2 x n hn2 hx K h hm rb bs A hM hbl (WR.start (by rw[hM.len,hbl]) hM.row (fun a b hab=>?_) fun a b ha hb e=>?_) _ ?_ _ f0 f5 rfl
 ·unfold at2 at hab
  cases e:A[a]? with
  |none=>rw[e] at hab;cases hab
  |some r=>
   rw[e] at hab
   have ha:=(List.getElem?_eq_some_iff.1 e).1
   have hrow:x[a]?=some (x[a]'(by rw[hx.1, <-hbl, <-hM.len];exact ha)):=List.getElem?_eq_getElem _
   exact⟨_,hrow,(hS a _ r hrow e b).1 hab⟩
 ·obtain⟨row,h1,h2⟩:=e
  have hA:A[a]?=some (A[a]'(by rw[hM.len,hbl];exact ha)):=List.getElem?_eq_getElem _
  unfold at2
  rw[hA]
  exact (hS a row _ h1 hA b).2 h2
 clear f0 f5 hM hS
 intro fr hm A f0 f5 hM hA
 simp only[rn,pevA,seval,f0,f5]
 refine WO.mksl (j:=.i64) (k:=.i64) (m:=n) (n:=n) rfl rfl (Nat.le_refl _) (by omega) (by omega) fun db hdb hkd=>?_
 have hc1:(zerosL [Value.bool false] n).map ofC1=bC (List.replicate n false):=by
  rw[zerosL_one,bC,List.map_replicate,List.map_replicate];rfl
 simp only[rn,pevA,seval,f0,f5,hc1]
 have hlen:=hA.1
 refine aloop (α:=Nat×So) (fun s fr h1=>fr 0=.int .i64 n/\fr 5=.slice rb 0 n n/\fr 11=.slice db 0 n n/\s.2.map (fun g=>g.1)=(it A s.1).2/\(∀g∈s.2,g.1≠[]->g.2.1=3)/\s.2.length+cnt (it A s.1).1<=n/\
   ∃E tag tk',(soC s.2≠[]->E=22)/\fr 12=.lst E (soC s.2) tag/\Toks hm.toks tk' [(tag,22,1,0)]/\h1=(hm.set db (.cells (bC (it A s.1).1) 4)).tk tk') (fun s=>cnt (it A s.1).1) (0,[]) ?_ ?_
 ·have h00:(it A 0).1=List.replicate n false:=by show List.replicate A.length false=_;rw[hlen]
  refine⟨f0,f5,rfl,rfl,by simp,?_,0,.nil,hm.toks,fun h=>absurd rfl h,rfl,.one _ _ _,by rw[h00];rfl⟩
  have:=cnt_le (it A 0).1
  rw[h00,List.length_replicate] at this
  rw[h00];simpa using this
 clear f0 f5
 rintro⟨j,S⟩ fr h1 ⟨f0,f5,f11,hS,hS3,hSn,E,tag,tk1,hE,f12,hT,rfl⟩
 simp only at hS hS3 hSn hE f12
 have hI:=Inv.it hx hA j
 simp only[u_C l13_9.eq_1,rn,pevA,seval,f0,f5,f11,f12]
 generalize hdn:(it A j).1=done at *
 have hdl:=hI.len
 refine ph3 x n hn2 K h hm rb bs A hM hbl hA db hdb done hdl (.lst E (soC S) tag) tk1 _ ?_ _ f0 f5 f11 f12 (by simp[upd]) rfl
 clear f0 f5 f11 f12
 intro fr o f0 f5 f11 f12 hnx f13 hok
 cases o with
 |none=>
  simp only at f13
  simp only[rn,pevA,seval,f0,f5,f11,f12,f13]
  refine⟨_,h,.weak (so_wk hE hS hS3) (.drop (le_tk (le_set hM.le (hM.fresh hdb).2.2) fun c k hc=>hT.le c k hc) (.refl _ _)),hK,(it A j).2,⟨j,?_,?_⟩,rfl,rfl⟩
  ·rw[<-hA.uniq (matF_is n x) fun _ _=>Iff.rfl,hdn];exact hnx
  ·rw[<-hA.uniq (matF_is n x) fun _ _=>Iff.rfl]
 |some k=>
  have hkn:=hok k rfl
  have c0:decide ((k:Int)<0)=false:=decide_eq_false (by omega)
  simp only at f13
  simp only[rn,pevA,seval,f0,f5,f11,f12,f13,c0]
  refine ph4 x n hn2 K h hm rb bs A hM hbl hA db hdb hkd done hdl (.lst E (soC S) tag) hm.toks tk1 _ hT k hkn _ ?_ _ f0 f5 f11 f12 f13 rfl rfl
  clear f0 f5 f11 f12 f13 hT
  intro fr E17 tag17 tk2 f0 f5 f11 f12 hE17 f17 hT
  have hd:done.getD k false=false/\rdy A done k=true:=by
   have:=List.find?_some hnx
   simp only[Bool.and_eq_true,Bool.not_eq_true'] at this
   exact this
  have hit:it A (j+1)=(grp.mark done (scc A k),(it A j).2++[scc A k]):=by
   rw[it_succ (by rw[hdn];exact hnx),hdn]
  have hcm:cnt (grp.mark done (scc A k))<cnt done:=cnt_mark (by omega) (scc_self hA hkn) hd.1
  simp only[rn,pevA,seval,f0,f5,f11,f12,f17]
  refine WO.append (i:=1) hT rfl rfl rfl trivial (by decide) ?_ ?_ ?_ ?_ ?_ fun tag' t' hT'=>?_
  ·simp
  ·simp[oneA]
  ·simp
  ·intro _;simp only[capOk,soC_len,List.length_singleton];omega
  ·simp only[big_eq,soC_len,List.length_singleton];omega
  simp only[rn,pevA,seval]
  refine⟨(j+1,S++[(scc A k,E17,tag17)]),?_,f0,f5,f11,?_,?_,?_,22,tag',t',fun _=>rfl,?_,toks_tail hT',?_⟩
  ·show cnt (it A (j+1)).1<cnt (it A j).1
   rw[hit,hdn];exact hcm
  ·show (S++[(scc A k,E17,tag17)]).map (fun g=>g.1)=(it A (j+1)).2
   rw[hit,List.map_append,hS];rfl
  ·intro g hg
   rcases List.mem_append.1 hg with hg|hg
   ·exact hS3 g hg
   ·rw[List.mem_singleton.1 hg]
    intro hne
    refine hE17 fun e=>hne ?_
    have:=congrArg List.length e
    rw[nC_len] at this
    exact List.length_eq_zero_iff.1 this
  ·show (S++[(scc A k,E17,tag17)]).length+cnt (it A (j+1)).1<=n
   rw[hit,List.length_append,List.length_singleton]
   show S.length+1+cnt (grp.mark done (scc A k))<=n
   omega
  ·simp only[e_upd,reduceIte,Nat.reduceEqDiff,soC_app];rfl
  ·show _=(hm.set db (.cells (bC (it A (j+1)).1) 4)).tk t'
   rw[hit]
end Go.Proofs.Ytkopkbhpompmnaa.q
namespace Go.Proofs.Ytkopkbhpompmnaa.q
open Go.Proofs Go Go.Cn code grp
set_option linter.unusedSimpArgs false
set_option linter.unusedVariables false
theorem nC_eq (g:List Nat):nC g=lC (g.map fun (y:Nat)=>(y:Int)):=by rw[nC,lC,List.map_map];rfl
theorem sameInts_ok (g:List Int):Pure T 8 [.lst 3 (lC g) .no,.lst 3 (lC g) .no] (.bool true):=by
 intro K h
 refine ACall.ret t8 fun hK=>?_
 have j1:(!decide ((g.length:Int)=(g.length:Int)))=false:=by simp
 simp only[u_C c8.eq_1,rn,pevA,seval,lC_len,j1]
 refine W.bound (t:=0) rfl fun hB=>?_
 rw[lC_len] at hB
 refine aloop (α:=Nat) (fun i fr h1=>fr 0=.lst 3 (lC g) .no/\fr 1=.lst 3 (lC g) .no/\fr 5=.int .i64 i/\i<=g.length/\h1=h) (fun i=>g.length-i) 0 ⟨rfl,rfl,rfl,Nat.zero_le _,rfl⟩ ?_
 rintro i fr h1 ⟨f0,f1,f5,hi,rfl⟩
 by_cases hlt:i<g.length
 ·have k1:decide ((i:Int)<(g.length:Int))=true:=decide_eq_true (by omega)
  obtain⟨v,hv⟩ : ∃v,g[i]?=some v:=⟨_,List.getElem?_eq_getElem hlt⟩
  have hw:IntKind.i64.wrap ((i:Int)+1)=((i+1:Nat):Int):=wrapS hlt hB
  simp only[u_C l8_1.eq_1,e_dregion d8_0,u_L s8_0.eq_1,u_T g8_0.eq_1,rn,pevA,seval,f0,f1,f5,lC_len,lC_get,hv,Option.map_some,k1,hw]
  exact⟨i+1,by show g.length-(i+1)<g.length-i;omega,f0,f1,by simp[upd],hlt,rfl⟩
 ·have k1:decide ((i:Int)<(g.length:Int))=false:=decide_eq_false (by omega)
  simp only[u_C l8_1.eq_1,rn,pevA,seval,f0,f1,f5,lC_len,k1]
  exact⟨.refl _,AH.le_refl _⟩
theorem sameRows_ok (o:List (List Nat)):Pure T 11 [.lst 22 (oC o) .no,.lst 22 (oC o) .no] (.bool true):=by
 intro K h
 refine ACall.ret t11 fun hK=>?_
 have j1:(!decide ((o.length:Int)=(o.length:Int)))=false:=by simp
 simp only[u_C c11.eq_1,rn,pevA,seval,oC_len,j1]
 refine W.bound (t:=0) rfl fun hB=>?_
 rw[oC_len] at hB
 refine aloop (α:=Nat) (fun i fr h1=>fr 0=.lst 22 (oC o) .no/\fr 1=.lst 22 (oC o) .no/\fr 5=.int .i64 i/\i<=o.length/\h1=h) (fun i=>o.length-i) 0 ⟨rfl,rfl,rfl,Nat.zero_le _,rfl⟩ ?_
 rintro i fr h1 ⟨f0,f1,f5,hi,rfl⟩
 by_cases hlt:i<o.length
 ·have k1:decide ((i:Int)<(o.length:Int))=true:=decide_eq_true (by omega)
  obtain⟨v,hv⟩ : ∃v,o[i]?=some v:=⟨_,List.getElem?_eq_getElem hlt⟩
  have hw:IntKind.i64.wrap ((i:Int)+1)=((i+1:Nat):Int):=wrapS hlt hB
  simp only[u_C l11_1.eq_1,e_dregion d11_0,u_L s11_0.eq_1,u_T g11_0.eq_1,rn,pevA,seval,f0,f1,f5,oC_len,oC_get,hv,Option.map_some,k1,nC_eq]
  refine (sameInts_ok _).use ?_
  simp only[rn,pevA,seval,f0,f1,f5,hw]
  exact⟨i+1,by show o.length-(i+1)<o.length-i;omega,f0,f1,by simp[upd],hlt,rfl⟩
 ·have k1:decide ((i:Int)<(o.length:Int))=false:=decide_eq_false (by omega)
  simp only[u_C l11_1.eq_1,rn,pevA,seval,f0,f1,f5,oC_len,k1]
  exact⟨.refl _,AH.le_refl _⟩
variable {S:List p.Nm}
def ndA (n:Nat)(bs:List p.Bi):List (List Int):=bs.map fun b=>p.needsU (p.freeV n b.2.2.2.1) bs bs.length
theorem ndA_get {n:Nat}{bs:List p.Bi}{i:Nat}{b:p.Bi}(h:bs[i]?=some b):(ndA n bs)[i]?=some (p.needsU (p.freeV n b.2.2.2.1) bs bs.length):=by rw[ndA,List.getElem?_map,h];rfl
theorem needsU_in (free:List p.Nm)(bs:List p.Bi):∀i,∀v∈p.needsU free bs i,0<=v/\v<i
 |0,v,h=>by cases h
 |i+1,v,h=>by
  rw[p.needsU] at h
  rcases List.mem_append.1 h with h|h
  ·have:=needsU_in free bs i v h
   omega
  ·split at h
   ·split at h
    ·rw[List.mem_singleton.1 h];omega
    ·cases h
   ·cases h
theorem ndA_in (n:Nat)(bs:List p.Bi):InR bs.length (ndA n bs):=by
 refine⟨by rw[ndA,List.length_map],fun row hr v hv=>?_⟩
 obtain⟨b,_,rfl⟩:=List.mem_map.1 hr
 exact needsU_in _ _ _ v hv
theorem ndA_len (n:Nat)(bs:List p.Bi)(hb:bs.length<=1000000):∀row∈ndA n bs,row.length<=1000000:=by
 intro row hr
 obtain⟨b,_,rfl⟩:=List.mem_map.1 hr
 exact Nat.le_trans (p.needsU_len _ _ _) hb
theorem rowsC_snoc (x:List (List Int))(r:List Int):rowsC (x++[r])=rowsC x++[[.lst 3 (lC r) .no]]:=by rw[rowsC,List.map_append];rfl
theorem ndA_take {n:Nat}{bs:List p.Bi}{i:Nat}{b:p.Bi}(h:bs[i]?=some b):(ndA n bs).take (i+1)=(ndA n bs).take i++[p.needsU (p.freeV n b.2.2.2.1) bs bs.length]:=by
 rw[List.take_add_one,ndA_get h];rfl
theorem order_any (x:List (List Int))(n:Nat)(hn2:n<=1000000)(hx:InR n x)(hrl:∀row∈x,row.length<=1000000)(K:Nat->Prop)(h:AH):ACall T K (.func 12) [.int .i64 n,.lst 22 (rowsC x) .no] h (OrdQ n x h):=by
 by_cases h0:n=0
 ·subst h0
  refine (order0 _ K h).mono ?_
  rintro _ _ ⟨rfl,rfl⟩
  exact⟨[],⟨0,rfl,rfl⟩,rfl,rfl⟩
 ·exact order_ok x n (by omega) hn2 hx hrl K h
end Go.Proofs.Ytkopkbhpompmnaa.q
namespace Go.Proofs.Ytkopkbhpompmnaa.q
open Go.Proofs Go Go.Cn code grp
set_option linter.unusedSimpArgs false
set_option linter.unusedVariables false
variable {S:List p.Nm}
theorem groups_ok (hS0:∀y,y∈S->y≠[95])(hS:S.length<=20001){n B:Nat}(bs:List p.Bi)(hbs:bs.length<=1000000)(w:∀b,b∈bs->p.WfX S n B b.2.2.2.1)(hB:B<=1000000000)(K:Nat->Prop)(h:AH):ACall T K (.func 14) [.lst 67 (p.bisR bs) .no] h (OrdQ bs.length (ndA n bs) h):=by
 refine ACall.retQ t14 fun hK=>?_
 have hbl:(p.bisR bs).length=bs.length:=p.bisR_len bs
 simp only[u_C c14.eq_1,rn,pevA,seval,hbl]
 refine aloop (α:=Nat) (fun i fr h1=>fr 0=.lst 67 (p.bisR bs) .no/\fr 6=.int .i64 (bs.length:Nat)/\fr 7=.int .i64 i/\i<=bs.length/\
   ∃E tag tk,(rowsC ((ndA n bs).take i)≠[]->E=22)/\fr 3=.lst E (rowsC ((ndA n bs).take i)) tag/\Toks h.toks tk [(tag,22,1,0)]/\h1=h.tk tk) (fun i=>bs.length-i) 0
  ⟨rfl,rfl,rfl,Nat.zero_le _,0,.nil,h.toks,fun h=>absurd rfl h,rfl,.one _ _ _,rfl⟩ ?_
 rintro i fr h1 ⟨f0,f6,f7,hi,E,tag,tk,hE,f3,hT,rfl⟩
 by_cases hlt:i<bs.length
 ·have k1:decide ((i:Int)<(bs.length:Int))=true:=decide_eq_true (by omega)
  obtain⟨b,hb⟩ : ∃b,bs[i]?=some b:=⟨_,List.getElem?_eq_getElem hlt⟩
  have hw:IntKind.i64.wrap ((i:Int)+1)=((i+1:Nat):Int):=wrap64 ⟨by omega,by omega⟩
  simp only[u_C l14_0.eq_1,rn,pevA,seval,f0,f3,f6,f7,k1]
  refine (p.needs_ok hS0 hS bs hbs i b hb (w b (List.mem_of_getElem? hb)) hB).use ?_
  simp only[rn,pevA,seval,f0,f3,f6,f7]
  refine WO.append (i:=0) hT rfl rfl rfl trivial (by decide) ?_ ?_ ?_ ?_ ?_ fun tag' t' hT'=>?_
  ·simp
  ·simp[oneA]
  ·simp
  ·intro _;simp only[capOk,rowsC_len,List.length_take,List.length_singleton];omega
  ·simp only[big_eq,rowsC_len,List.length_take,List.length_singleton];omega
  simp only[rn,pevA,seval,f0,f3,f6,f7,hw]
  refine⟨i+1,by show bs.length-(i+1)<bs.length-i;omega,f0,f6,by simp[upd],hlt,22,tag',t',fun _=>rfl,?_,hT',rfl⟩
  rw[ndA_take hb,rowsC_snoc];rfl
 ·have k1:decide ((i:Int)<(bs.length:Int))=false:=decide_eq_false (by omega)
  have hti:(ndA n bs).take i=ndA n bs:=List.take_of_length_le (by rw[(ndA_in n bs).1];omega)
  rw[hti] at f3 hE
  simp only[u_C l14_0.eq_1,rn,pevA,seval,f0,f3,f6,f7,k1,hbl]
  refine (ACall.weakL (args:=[.int .i64 (bs.length:Nat),.lst E (rowsC (ndA n bs)) tag]) (order_any (ndA n bs) bs.length hbs (ndA_in n bs) (ndA_len n bs hbs) K (h.tk tk)) ⟨.refl _,.lstE hE,trivial⟩).mono ?_
  rintro _ _ ⟨out,ho,rfl,rfl⟩
  simp only[rn,pevA,seval]
  exact⟨_,h,.drop (le_tk (AH.le_refl _) hT.le) (.refl _ _),hK,out,ho,rfl,rfl⟩
theorem groups4_ok (hS:S.length<=20001){n B:Nat}(bs:List p.Bi)(hbs:bs.length<=1000000)(w:∀b,b∈bs->p.WfX S n B b.2.2.2.1)(hB:B<=1000000000)(K:Nat->Prop)(h:AH):ACall T K (.func 15) [.lst 67 (p.bisR bs) .no] h (OrdQ bs.length (ndA n bs) h):=by
 refine ACall.retQ t15 fun hK=>?_
 have hbl:(p.bisR bs).length=bs.length:=p.bisR_len bs
 simp only[u_C c15.eq_1,rn,pevA,seval,hbl]
 refine aloop (α:=Nat) (fun i fr h1=>fr 0=.lst 67 (p.bisR bs) .no/\fr 4=.int .i64 i/\i<=bs.length/\
   ∃E tag tk,(rowsC ((ndA n bs).take i)≠[]->E=22)/\fr 3=.lst E (rowsC ((ndA n bs).take i)) tag/\Toks h.toks tk [(tag,22,1,0)]/\h1=h.tk tk) (fun i=>bs.length-i) 0
  ⟨rfl,rfl,Nat.zero_le _,0,.nil,h.toks,fun h=>absurd rfl h,rfl,.one _ _ _,rfl⟩ ?_
 rintro i fr h1 ⟨f0,f4,hi,E,tag,tk,hE,f3,hT,rfl⟩
 by_cases hlt:i<bs.length
 ·have k1:decide ((i:Int)<(bs.length:Int))=true:=decide_eq_true (by omega)
  obtain⟨b,hb⟩ : ∃b,bs[i]?=some b:=⟨_,List.getElem?_eq_getElem hlt⟩
  have hw:IntKind.i64.wrap ((i:Int)+1)=((i+1:Nat):Int):=wrap64 ⟨by omega,by omega⟩
  simp only[u_C l15_0.eq_1,rn,pevA,seval,f0,f3,f4,hbl,k1]
  refine (p.refNeeds_ok hS bs hbs i b hb (w b (List.mem_of_getElem? hb)) hB).use ?_
  simp only[rn,pevA,seval,f0,f3,f4]
  refine WO.append (i:=0) hT rfl rfl rfl trivial (by decide) ?_ ?_ ?_ ?_ ?_ fun tag' t' hT'=>?_
  ·simp
  ·simp[oneA]
  ·simp
  ·intro _;simp only[capOk,rowsC_len,List.length_take,List.length_singleton];omega
  ·simp only[big_eq,rowsC_len,List.length_take,List.length_singleton];omega
  simp only[rn,pevA,seval,f0,f3,f4,hw]
  refine⟨i+1,by show bs.length-(i+1)<bs.length-i;omega,f0,by simp[upd],hlt,22,tag',t',fun _=>rfl,?_,hT',rfl⟩
  rw[ndA_take hb,rowsC_snoc];rfl
 ·have k1:decide ((i:Int)<(bs.length:Int))=false:=decide_eq_false (by omega)
  have hti:(ndA n bs).take i=ndA n bs:=List.take_of_length_le (by rw[(ndA_in n bs).1];omega)
  rw[hti] at f3 hE
  simp only[u_C l15_0.eq_1,rn,pevA,seval,f0,f3,f4,hbl,k1]
  refine (ACall.weakL (args:=[.int .i64 (bs.length:Nat),.lst E (rowsC (ndA n bs)) tag]) (order4_ok (ndA n bs) bs.length hbs (ndA_in n bs) (ndA_len n bs hbs) K (h.tk tk)) ⟨.refl _,.lstE hE,trivial⟩).mono ?_
  rintro _ _ ⟨out,ho,rfl,rfl⟩
  simp only[rn,pevA,seval]
  exact⟨_,h,.drop (le_tk (AH.le_refl _) hT.le) (.refl _ _),hK,out,ho,rfl,rfl⟩
end Go.Proofs.Ytkopkbhpompmnaa.q
