/- Groups: the plain law -/

import Derived.Test.YtkopkbhpompmnaaCnA11
import Derived.Test.YtkopkbhpompmnaaProg
import Derived.KernelRfl
namespace Go.Proofs.grp
set_option linter.unusedVariables false
set_option linter.unusedSimpArgs false
def Ed (x:List (List Int))(k y:Nat):Prop:=∃row,x[k]?=some row/\(y:Int)∈row
inductive Pl (x:List (List Int)):Nat->Nat->Prop where
 |one {a b:Nat}(h:Ed x a b):Pl x a b
 |snoc {a b c:Nat}(h:Pl x a b)(g:Ed x b c):Pl x a c
theorem Pl.trans {x:List (List Int)}{a b c:Nat}(h:Pl x a b)(g:Pl x b c):Pl x a c:=by
 induction g with
 |one e=>exact .snoc h e
 |snoc _ e ih=>exact .snoc ih e
theorem Pl.closed {x:List (List Int)}{a:Nat}{S:Nat->Prop}(h1:∀b,Ed x a b->S b)(h2:∀b c,S b->Ed x b c->S c){b:Nat}(g:Pl x a b):S b:=by
 induction g with
 |one e=>exact h1 _ e
 |snoc _ e ih=>exact h2 _ _ ih e
def InR (n:Nat)(x:List (List Int)):Prop:=x.length=n/\∀row∈x,∀v∈row,0<=v/\v<n
theorem InR.ed {n:Nat}{x:List (List Int)}(h:InR n x){a b:Nat}(e:Ed x a b):a<n/\b<n:=by
 obtain⟨row,h1,h2⟩:=e
 have ha:=(List.getElem?_eq_some_iff.1 h1).1
 have:=h.2 row (List.mem_of_getElem? h1) b h2
 have:=h.1
 omega
theorem InR.pl {n:Nat}{x:List (List Int)}(h:InR n x){a b:Nat}(e:Pl x a b):a<n/\b<n:=by
 induction e with
 |one e=>exact h.ed e
 |snoc _ e ih=>exact⟨ih.1,(h.ed e).2⟩
def at2 (A:List (List Bool))(k y:Nat):Bool:=match A[k]? with
 |some r=>r.getD y false
 |none=>false
def IsM (n:Nat)(x:List (List Int))(A:List (List Bool)):Prop:=A.length=n/\(∀r∈A,r.length=n)/\∀k y,k<n->y<n->(at2 A k y=true↔Pl x k y)
def IsR (n:Nat)(x:List (List Int))(k:Nat)(r:List Bool):Prop:=r.length=n/\∀y,y<n->(r.getD y false=true↔Pl x k y)
theorem IsM.uniq {n:Nat}{x y:List (List Int)}{A B:List (List Bool)}(hA:IsM n x A)(hB:IsM n y B)(h:∀a b,Pl x a b↔Pl y a b):A=B:=by
 apply List.ext_getElem (by rw[hA.1,hB.1])
 intro i h1 h2
 have l1:=hA.2.1 _ (List.getElem_mem h1)
 have l2:=hB.2.1 _ (List.getElem_mem h2)
 apply List.ext_getElem (by rw[l1,l2])
 intro j h3 h4
 have e1:=hA.2.2 i j (hA.1▸h1) (l1▸h3)
 have e2:=hB.2.2 i j (hB.1▸h2) (l2▸h4)
 have:at2 A i j=at2 B i j:=by
  rw[Bool.eq_iff_iff,e1,e2,h]
 unfold at2 at this
 rw[List.getElem?_eq_getElem h1,List.getElem?_eq_getElem h2] at this
 simpa[List.getD,h3,h4] using this
def scc (A:List (List Bool))(k:Nat):List Nat:=(List.range A.length).filter fun y=>y==k || (at2 A k y&&at2 A y k)
def rdy (A:List (List Bool))(done:List Bool)(k:Nat):Bool:=(List.range A.length).all fun y=>(y==k || (at2 A k y&&at2 A y k)) || !(at2 A k y&& !done.getD y false)
def mark (done:List Bool)(l:List Nat):List Bool:=l.foldl (fun d y=>d.set y true) done
def nxt (A:List (List Bool))(done:List Bool):Option Nat:=(List.range A.length).find? fun k=> !done.getD k false&&rdy A done k
def it (A:List (List Bool)):Nat->List Bool×List (List Nat)
 |0=>(List.replicate A.length false,[])
 |j+1=>match nxt A (it A j).1 with
  |some k=>(mark (it A j).1 (scc A k),(it A j).2++[scc A k])
  |none=>it A j
def Ord (A:List (List Bool))(out:List (List Nat)):Prop:=∃j,nxt A (it A j).1=none/\out=(it A j).2
theorem it_stuck {A:List (List Bool)}{j:Nat}(h:nxt A (it A j).1=none):∀i,it A (j+i)=it A j
 |0=>rfl
 |i+1=>by
  have ih:=it_stuck h i
  show (match nxt A (it A (j+i)).1 with|some k=>_|none=>_)=_
  rw[ih,h]
  exact ih
theorem Ord.uniq {A:List (List Bool)}{o1 o2:List (List Nat)}(h1:Ord A o1)(h2:Ord A o2):o1=o2:=by
 obtain⟨i,hi,rfl⟩:=h1
 obtain⟨j,hj,rfl⟩:=h2
 rcases Nat.le_total i j with h|h
 ·have:=it_stuck hi (j-i)
  rw[show i+(j-i)=j by omega] at this
  rw[this]
 ·have:=it_stuck hj (i-j)
  rw[show j+(i-j)=i by omega] at this
  rw[this]
theorem mark_len (l:List Nat):∀d:List Bool,(mark d l).length=d.length:=by
 induction l with
 |nil=>intro d;rfl
 |cons a l ih=>intro d;show (mark (d.set a true) l).length=_;rw[ih,List.length_set]
theorem mark_get (l:List Nat):∀(d:List Bool)(y:Nat),y<d.length->((mark d l).getD y false=true↔d.getD y false=true\/y∈l):=by
 induction l with
 |nil=>intro d y _;simp[mark]
 |cons a l ih=>
  intro d y hy
  show (mark (d.set a true) l).getD y false=true↔_
  rw[ih _ y (by rw[List.length_set];exact hy)]
  by_cases h:y=a
  ·subst h;simp[List.getD,hy]
  ·have h':a≠y:=fun e=>h e.symm
   simp[List.getD,h,h']
structure Inv (n:Nat)(x:List (List Int))(A:List (List Bool))(done:List Bool)(out:List (List Nat)):Prop where
 len:done.length=n
 grp:∀g∈out,∃k,k<n/\g=scc A k
 mem:∀y,y<n->(done.getD y false=true↔∃g∈out,y∈g)
 apart:∀(i j y:Nat)(g g':List Nat),out[i]?=some g->out[j]?=some g'->y∈g->y∈g'->i=j
 up:∀(i k y:Nat)(g:List Nat),out[i]?=some g->k∈g->Pl x k y->∃(j:Nat)(g':List Nat),j<=i/\out[j]?=some g'/\y∈g'
theorem scc_mem {n:Nat}{x:List (List Int)}{A:List (List Bool)}(hA:IsM n x A){k y:Nat}(hk:k<n):y∈scc A k↔y<n/\(y=k\/(Pl x k y/\Pl x y k)):=by
 unfold scc
 rw[List.mem_filter,List.mem_range,hA.1]
 constructor
 ·rintro⟨h1,h2⟩
  refine⟨h1,?_⟩
  simp only[Bool.or_eq_true,beq_iff_eq,Bool.and_eq_true] at h2
  rcases h2 with h2|⟨h2,h3⟩
  ·exact .inl h2
  ·exact .inr ⟨(hA.2.2 k y hk h1).1 h2,(hA.2.2 y k h1 hk).1 h3⟩
 ·rintro⟨h1,h2⟩
  refine⟨h1,?_⟩
  simp only[Bool.or_eq_true,beq_iff_eq,Bool.and_eq_true]
  rcases h2 with h2|⟨h2,h3⟩
  ·exact .inl h2
  ·exact .inr ⟨(hA.2.2 k y hk h1).2 h2,(hA.2.2 y k h1 hk).2 h3⟩
theorem scc_self {n:Nat}{x:List (List Int)}{A:List (List Bool)}(hA:IsM n x A){k:Nat}(hk:k<n):k∈scc A k:=(scc_mem hA hk).2 ⟨hk,.inl rfl⟩
theorem rdy_iff {n:Nat}{x:List (List Int)}{A:List (List Bool)}(hA:IsM n x A){done:List Bool}{k:Nat}(hk:k<n):rdy A done k=true↔∀y,y<n->Pl x k y->y∈scc A k\/done.getD y false=true:=by
 unfold rdy
 rw[List.all_eq_true]
 constructor
 ·intro h y hy hp
  have:=h y (by rw[List.mem_range,hA.1];exact hy)
  simp only[Bool.or_eq_true,beq_iff_eq,Bool.and_eq_true,Bool.not_eq_true',Bool.and_eq_false_iff,Bool.not_eq_false'] at this
  rcases this with h1|h1
  ·left
   rw[scc_mem hA hk]
   refine⟨hy,?_⟩
   rcases h1 with h1|⟨h1,h2⟩
   ·exact .inl h1
   ·exact .inr ⟨hp,(hA.2.2 y k hy hk).1 h2⟩
  ·rcases h1 with h1|h1
   ·rw[(hA.2.2 k y hk hy).2 hp] at h1;cases h1
   ·exact .inr h1
 ·intro h y hy
  rw[List.mem_range,hA.1] at hy
  simp only[Bool.or_eq_true,beq_iff_eq,Bool.and_eq_true,Bool.not_eq_true',Bool.and_eq_false_iff,Bool.not_eq_false']
  cases e:at2 A k y with
  |false=>exact .inr (.inl rfl)
  |true=>
   have hp:=(hA.2.2 k y hk hy).1 e
   rcases h y hy hp with h1|h1
   ·left
    rw[scc_mem hA hk] at h1
    rcases h1.2 with h2|⟨_,h3⟩
    ·exact .inl h2
    ·exact .inr ⟨rfl,(hA.2.2 y k hy hk).2 h3⟩
   ·exact .inr (.inr h1)
theorem Inv.step {n:Nat}{x:List (List Int)}{A:List (List Bool)}{done:List Bool}{out:List (List Nat)}(hx:InR n x)(hA:IsM n x A)(h:Inv n x A done out){k:Nat}(hk:nxt A done=some k) :
  Inv n x A (mark done (scc A k)) (out++[scc A k]):=by
 have hk1:=List.find?_some hk
 have hk2:k<n:=by have:=List.mem_of_find?_eq_some hk;rw[List.mem_range,hA.1] at this;exact this
 simp only[Bool.and_eq_true,Bool.not_eq_true'] at hk1
 obtain⟨hd,hr⟩:=hk1
 rw[rdy_iff hA hk2] at hr
 have hfresh:∀y,y∈scc A k->∀g∈out,y∉g:=by
  intro y hy g hg hyg
  obtain⟨i,hi⟩:=List.getElem?_of_mem hg
  have hy':=(scc_mem hA hk2).1 hy
  have:∃g∈out,k∈g:=by
   rcases hy'.2 with e|⟨_,hp⟩
   ·exact⟨g,hg,e▸hyg⟩
   ·obtain⟨j,g',_,h1,h2⟩:=h.up i y k g hi hyg hp
    exact⟨g',List.mem_of_getElem? h1,h2⟩
  rw[<-h.mem k hk2] at this
  rw[this] at hd;cases hd
 refine⟨by rw[mark_len,h.len],?_,?_,?_,?_⟩
 ·intro g hg
  rcases List.mem_append.1 hg with hg|hg
  ·exact h.grp g hg
  ·rw[List.mem_singleton.1 hg];exact⟨k,hk2,rfl⟩
 ·intro y hy
  rw[mark_get _ _ _ (by rw[h.len];exact hy),h.mem y hy]
  constructor
  ·rintro (⟨g,hg,hyg⟩|hys)
   ·exact⟨g,List.mem_append_left _ hg,hyg⟩
   ·exact⟨_,List.mem_append_right _ (List.mem_singleton.2 rfl),hys⟩
  ·rintro⟨g,hg,hyg⟩
   rcases List.mem_append.1 hg with hg|hg
   ·exact .inl ⟨g,hg,hyg⟩
   ·rw[List.mem_singleton.1 hg] at hyg;exact .inr hyg
 ·intro i j y g g' hi hj hyg hyg'
  rw[List.getElem?_append] at hi hj
  split at hi<;>split at hj
  ·exact h.apart i j y g g' hi hj hyg hyg'
  ·have:=List.mem_of_getElem? hj;rw[List.mem_singleton.1 this] at hyg'
   exact absurd hyg (hfresh y hyg' g (List.mem_of_getElem? hi))
  ·have:=List.mem_of_getElem? hi;rw[List.mem_singleton.1 this] at hyg
   exact absurd hyg' (hfresh y hyg g' (List.mem_of_getElem? hj))
  ·have h1:=(List.getElem?_eq_some_iff.1 hi).1
   have h2:=(List.getElem?_eq_some_iff.1 hj).1
   simp at h1 h2
   omega
 ·intro i a y g hi ha hp
  rw[List.getElem?_append] at hi
  split at hi
  ·rename_i hlt
   obtain⟨j,g',h1,h2,h3⟩:=h.up i a y g hi ha hp
   exact⟨j,g',h1,by rw[List.getElem?_append_left ((List.getElem?_eq_some_iff.1 h2).1)];exact h2,h3⟩
  ·rename_i hge
   have hg:=List.mem_of_getElem? hi
   rw[List.mem_singleton.1 hg] at ha
   have hi':=(List.getElem?_eq_some_iff.1 hi).1
   simp at hi'
   have hio:i=out.length:=by omega
   have hpk:Pl x k y:=by
    rcases ((scc_mem hA hk2).1 ha).2 with e|⟨e,_⟩
    ·exact e▸hp
    ·exact e.trans hp
   have hy:=(hx.pl hp).2
   rcases hr y hy hpk with h1|h1
   ·exact⟨i,scc A k,Nat.le_refl _,by rw[hio,List.getElem?_append_right (Nat.le_refl _),Nat.sub_self];rfl,h1⟩
   ·obtain⟨g',h2,h3⟩:=(h.mem y hy).1 h1
    obtain⟨j,hj⟩:=List.getElem?_of_mem h2
    have hjl:=(List.getElem?_eq_some_iff.1 hj).1
    exact⟨j,g',by omega,by rw[List.getElem?_append_left hjl];exact hj,h3⟩
theorem Inv.zero {n:Nat}{x:List (List Int)}{A:List (List Bool)}(hA:IsM n x A):Inv n x A (List.replicate A.length false) []:=by
 refine⟨by rw[List.length_replicate,hA.1],by simp,fun y hy=>?_,by simp,by simp⟩
 simp[List.getD,hA.1,hy]
theorem Inv.it {n:Nat}{x:List (List Int)}{A:List (List Bool)}(hx:InR n x)(hA:IsM n x A):∀j,Inv n x A (grp.it A j).1 (grp.it A j).2
 |0=>Inv.zero hA
 |j+1=>by
  have ih:=Inv.it hx hA j
  show Inv n x A (match nxt A (grp.it A j).1 with|some k=>_|none=>_:List Bool×List (List Nat)).1 (match nxt A (grp.it A j).1 with|some k=>_|none=>_:List Bool×List (List Nat)).2
  cases e:nxt A (grp.it A j).1 with
  |none=>exact ih
  |some k=>exact ih.step hx hA e
theorem filter_lt {α:Type}{p q:α->Bool}{a:α}:∀{l:List α},(∀x,p x=true->q x=true)->a∈l->q a=true->p a=false->(l.filter p).length<(l.filter q).length
 |[],_,h,_,_=>by cases h
 |b::l,h,hm,hq,hp=>by
  have hle:∀l:List α,(l.filter p).length<=(l.filter q).length:=by
   intro l
   induction l with
   |nil=>exact Nat.le_refl _
   |cons c l ih=>
    cases e:p c with
    |true=>rw[List.filter_cons_of_pos e,List.filter_cons_of_pos (h c e)];simp;exact ih
    |false=>
     rw[List.filter_cons_of_neg (by simp[e])]
     cases e2:q c with
     |true=>rw[List.filter_cons_of_pos e2];simp;omega
     |false=>rw[List.filter_cons_of_neg (by simp[e2])];exact ih
  rcases List.mem_cons.1 hm with rfl|hm
  ·rw[List.filter_cons_of_neg (by simp[hp]),List.filter_cons_of_pos hq]
   have:=hle l
   simp;omega
  ·have ih:=filter_lt (l:=l) h hm hq hp
   cases e:p b with
   |true=>rw[List.filter_cons_of_pos e,List.filter_cons_of_pos (h b e)];simp;exact ih
   |false=>
    rw[List.filter_cons_of_neg (by simp[e])]
    cases e2:q b with
    |true=>rw[List.filter_cons_of_pos e2];simp;omega
    |false=>rw[List.filter_cons_of_neg (by simp[e2])];exact ih
def cnt (d:List Bool):Nat:=((List.range d.length).filter fun y=> !d.getD y false).length
theorem cnt_mark {d:List Bool}{l:List Nat}{k:Nat}(hk:k<d.length)(hl:k∈l)(hd:d.getD k false=false):cnt (mark d l)<cnt d:=by
 unfold cnt
 rw[mark_len]
 have e:(List.range d.length).filter (fun y=> !(mark d l).getD y false)=(List.range d.length).filter (fun y=> !(d.getD y false || decide (y∈l))):=by
  apply List.filter_congr
  intro y hy
  rw[List.mem_range] at hy
  have:=mark_get l d y hy
  have e2:(mark d l).getD y false=(d.getD y false || decide (y∈l)):=by
   rw[Bool.eq_iff_iff,this];simp
  rw[e2]
 rw[e]
 refine filter_lt (a:=k) (fun y h=>?_) (List.mem_range.2 hk) (by simp only[hd];rfl) (by simp[hl])
 simp only[Bool.not_eq_true',Bool.or_eq_false_iff] at h ⊢
 exact h.1
structure Out (n:Nat)(x:List (List Int))(A:List (List Bool))(out:List (List Nat)):Prop where
 grp:∀g∈out,∃k,k<n/\g=scc A k
 mem:∀y,y<n->∃g∈out,y∈g
 apart:∀(i j y:Nat)(g g':List Nat),out[i]?=some g->out[j]?=some g'->y∈g->y∈g'->i=j
 up:∀(i k y:Nat)(g:List Nat),out[i]?=some g->k∈g->Pl x k y->∃(j:Nat)(g':List Nat),j<=i/\out[j]?=some g'/\y∈g'
structure RInv (n:Nat)(x:List (List Int))(a:Nat)(P:Nat->Prop)(is:List Bool)(q:List Nat):Prop where
 len:is.length=n
 sound:∀y,y<n->is.getD y false=true->Pl x a y
 que:∀k∈q,k<n/\(k=a\/Pl x a k)
 all:∀k,(k=a\/(k<n/\is.getD k false=true))->k∈q\/P k\/∀y,Ed x k y->is.getD y false=true
theorem RInv.start {n:Nat}{x:List (List Int)}{a:Nat}(ha:a<n):RInv n x a (fun _=>False) (List.replicate n false) [a] where
 len:=by simp
 sound:=fun y hy h=>by simp[List.getD,hy] at h
 que:=fun k hk=>by rw[List.mem_singleton.1 hk];exact⟨ha,.inl rfl⟩
 all:=fun k hk=>by
  rcases hk with rfl|⟨h1,h2⟩
  ·exact .inl (List.mem_singleton.2 rfl)
  ·simp[List.getD,h1] at h2
theorem RInv.pop {n:Nat}{x:List (List Int)}{a k:Nat}{is:List Bool}{q:List Nat}(h:RInv n x a (fun _=>False) is (k::q)):RInv n x a (fun y=>y=k) is q where
 len:=h.len
 sound:=h.sound
 que:=fun j hj=>h.que j (List.mem_cons_of_mem _ hj)
 all:=fun j hj=>by
  rcases h.all j hj with h1|h1|h1
  ·rcases List.mem_cons.1 h1 with h1|h1
   ·exact .inr (.inl h1)
   ·exact .inl h1
  ·exact h1.elim
  ·exact .inr (.inr h1)
theorem getD_set {is:List Bool}{v y:Nat}:(is.set v true).getD y false=true↔(is.getD y false=true\/(y=v/\v<is.length)):=by
 by_cases hv:y=v
 ·subst hv
  by_cases hy:y<is.length
  ·simp[List.getD,hy]
  ·simp[List.getD,hy]
 ·have hv':v≠y:=fun e=>hv e.symm
  simp[List.getD,hv,hv']
theorem RInv.push {n:Nat}{x:List (List Int)}{a v:Nat}{P:Nat->Prop}{is:List Bool}{q:List Nat}(h:RInv n x a P is q)(hv:v<n)(hp:Pl x a v):RInv n x a P (is.set v true) (q++[v]) where
 len:=by rw[List.length_set];exact h.len
 sound:=fun y hy h1=>by
  rcases getD_set.1 h1 with h1|⟨rfl,_⟩
  ·exact h.sound y hy h1
  ·exact hp
 que:=fun j hj=>by
  rcases List.mem_append.1 hj with hj|hj
  ·exact h.que j hj
  ·rw[List.mem_singleton.1 hj];exact⟨hv,.inr hp⟩
 all:=fun j hj=>by
  have:(j=a\/(j<n/\is.getD j false=true))\/j=v:=by
   rcases hj with h1|⟨h1,h2⟩
   ·exact .inl (.inl h1)
   ·rcases getD_set.1 h2 with h2|⟨h2,_⟩
    ·exact .inl (.inr ⟨h1,h2⟩)
    ·exact .inr h2
  rcases this with h1|h1
  ·rcases h.all j h1 with h2|h2|h2
   ·exact .inl (List.mem_append_left _ h2)
   ·exact .inr (.inl h2)
   ·exact .inr (.inr fun y hy=>getD_set.2 (.inl (h2 y hy)))
  ·exact .inl (List.mem_append_right _ (List.mem_singleton.2 h1))
theorem RInv.over {n:Nat}{x:List (List Int)}{a k:Nat}{is:List Bool}{q:List Nat}(h:RInv n x a (fun y=>y=k) is q)(hk:∀y,Ed x k y->is.getD y false=true):RInv n x a (fun _=>False) is q where
 len:=h.len
 sound:=h.sound
 que:=h.que
 all:=fun j hj=>by
  rcases h.all j hj with h1|h1|h1
  ·exact .inl h1
  ·subst h1;exact .inr (.inr hk)
  ·exact .inr (.inr h1)
theorem RInv.done {n:Nat}{x:List (List Int)}{a:Nat}{is:List Bool}(hx:InR n x)(h:RInv n x a (fun _=>False) is []):IsR n x a is:=by
 refine⟨h.len,fun y hy=>⟨h.sound y hy,fun hp=>?_⟩⟩
 refine hp.closed (S:=fun y=>is.getD y false=true) (fun b e=>?_) (fun b c hb e=>?_)
 ·rcases h.all a (.inl rfl) with h1|h1|h1
  ·cases h1
  ·exact h1.elim
  ·exact h1 b e
 ·rcases h.all b (.inr ⟨(hx.ed e).1,hb⟩) with h1|h1|h1
  ·cases h1
  ·exact h1.elim
  ·exact h1 c e
theorem cnt_set {d:List Bool}{k:Nat}(hk:k<d.length)(hd:d.getD k false=false):cnt (d.set k true)<cnt d:=
 cnt_mark (l:=[k]) hk (List.mem_singleton.2 rfl) hd
theorem cnt_le (d:List Bool):cnt d<=d.length:=by
 unfold cnt
 exact Nat.le_trans (List.length_filter_le _ _) (by simp)
open Classical in
noncomputable def rowF (n:Nat)(x:List (List Int))(a:Nat):List Bool:=(List.range n).map fun y=>decide (Pl x a y)
noncomputable def matF (n:Nat)(x:List (List Int)):List (List Bool):=(List.range n).map (rowF n x)
theorem rowF_is (n:Nat)(x:List (List Int))(a:Nat):IsR n x a (rowF n x a):=by
 refine⟨by simp[rowF],fun y hy=>?_⟩
 simp[rowF,List.getD,hy]
theorem IsR.eq {n:Nat}{x:List (List Int)}{a:Nat}{r:List Bool}(h:IsR n x a r):r=rowF n x a:=by
 have g:=rowF_is n x a
 apply List.ext_getElem (by rw[h.1,g.1])
 intro i h1 h2
 have hi:i<n:=h.1▸h1
 have e1:=h.2 i hi
 have e2:=g.2 i hi
 have:r.getD i false=(rowF n x a).getD i false:=by rw[Bool.eq_iff_iff,e1,e2]
 simpa[List.getD,h1,h2] using this
theorem matF_is (n:Nat)(x:List (List Int)):IsM n x (matF n x):=by
 refine⟨by simp[matF],fun r hr=>?_,fun k y hk hy=>?_⟩
 ·obtain⟨a,_,rfl⟩:=List.mem_map.1 hr
  exact (rowF_is n x a).1
 ·have:at2 (matF n x) k y=(rowF n x k).getD y false:=by simp[at2,matF,hk]
  rw[this]
  exact (rowF_is n x k).2 y hy
theorem ex_ed {a b:Nat}(h:Ed [[1],[]] a b):a=0/\b=1:=by
 obtain⟨row,h1,h2⟩:=h
 match a,h1 with
 |0,h1=>cases h1;simp at h2;exact⟨rfl,by omega⟩
 |1,h1=>cases h1;simp at h2
 |a+2,h1=>simp at h1
theorem ex_pl {a b:Nat}(h:Pl [[1],[]] a b):a=0/\b=1:=by
 induction h with
 |one e=>exact ex_ed e
 |snoc _ e ih=>exact⟨ih.1,(ex_ed e).2⟩
theorem ex_in:InR 2 [[1],[]]:=by
 refine⟨rfl,fun row hr v hv=>?_⟩
 simp at hr
 rcases hr with rfl|rfl
 ·simp at hv;omega
 ·simp at hv
theorem ex_m:IsM 2 [[1],[]] [[false,true],[false,false]]:=by
 refine⟨rfl,by simp,fun k y hk hy=>?_⟩
 have e01:Pl [[1],[]] 0 1:=.one ⟨[1],rfl,by simp⟩
 have hk':k=0\/k=1:=by omega
 have hy':y=0\/y=1:=by omega
 rcases hk' with rfl|rfl<;>rcases hy' with rfl|rfl
 ·exact⟨fun h=>absurd h (by decide),fun h=>absurd (ex_pl h).2 (by decide)⟩
 ·exact⟨fun _=>e01,fun _=>rfl⟩
 ·exact⟨fun h=>absurd h (by decide),fun h=>absurd (ex_pl h).1 (by decide)⟩
 ·exact⟨fun h=>absurd h (by decide),fun h=>absurd (ex_pl h).1 (by decide)⟩
theorem ex_out {out:List (List Nat)}(h:Ord (matF 2 [[1],[]]) out):out=[[1],[0]]:=by
 rw[(matF_is 2 [[1],[]]).uniq ex_m (fun _ _=>Iff.rfl)] at h
 exact h.uniq ⟨2,by decide,by decide⟩
structure Pos (n:Nat)(x:List (List Int))(out:List (List Nat))(p:Nat->Nat):Prop where
 at_:∀y,y<n->∃g,out[p y]?=some g/\y∈g
 uniq:∀(i y:Nat)(g:List Nat),out[i]?=some g->y∈g->p y=i
 lt:∀(g:List Nat)(y:Nat),g∈out->y∈g->y<n
 sorted:∀g∈out,g.Pairwise (· < ·)
 len:∀g∈out,g.length<=n
 up:∀i v,Ed x i v->p v<=p i
 both:∀i k,i<n->k<n->i≠k->p i=p k->Pl x i k/\Pl x k i
end Go.Proofs.grp
namespace Go.Proofs.Ytkopkbhpompmnaa.code
open Go.Proofs Go Go.Cn
set_option linter.unusedSimpArgs false
set_option linter.unusedVariables false
abbrev za (a:Nat)(b:Nat):MStep:=⟨some a,none,(.p (.mov (.tmp b)))⟩
abbrev zb (a:Nat)(b:Nat)(c:Nat):MStep:=⟨some a,none,(.p (.fa b (.tmp c)))⟩
abbrev zc (a:Nat)(b:Nat):MStep:=⟨some a,none,(.p (.ld1 (.tmp b)))⟩
abbrev zd (a:Nat)(b:Nat)(c:Int):MStep:=⟨some a,none,(.p (.bin .add (.tmp b) (.const (.int .i64 c))))⟩
abbrev ze (a:Nat)(b:Nat)(c:Nat):MStep:=⟨some a,none,(.call b [(.tmp c)])⟩
abbrev zf (a:Nat)(b:Nat)(c:Nat):MStep:=⟨some a,(some (b,true)),(.p (.mov (.tmp c)))⟩
abbrev zg (a:Nat)(b:Int):MStep:=⟨some a,none,(.p (.mov (.const (.int .i64 b))))⟩
abbrev zh (a:Nat)(b:Nat)(c:Nat)(d:Nat):MStep:=⟨some a,none,(.p (.ia b (.tmp c) (.tmp d)))⟩
abbrev zi (a:Nat)(b:Nat):MStep:=⟨some a,none,(.p (.nilck (.tmp b)))⟩
abbrev zj (a:Nat)(b:Nat)(c:Nat)(d:Nat)(e:Nat)(f:Nat):MStep:=⟨some a,none,(.oth (.e (.append b c d (.tmp e) (.tmp f))))⟩
abbrev zk (a:Nat)(b:Nat)(c:Nat):MStep:=⟨some a,none,(.p (.pick (.tmp b) (.tmp c) (.const (.bool false))))⟩
abbrev zl (a:Nat)(b:Nat)(c:Nat):MStep:=⟨some a,none,(.p (.mov (.const (.slice none b c))))⟩
abbrev zm (a:Nat)(b:Nat)(c:Nat)(d:Int):MStep:=⟨some a,none,(.call b [(.tmp c),(.const (.int .i64 d))])⟩
abbrev zn (a:Nat)(b:Nat)(c:Nat):MStep:=⟨some a,(some (b,true)),(.p (.ld1 (.tmp c)))⟩
abbrev zo (a:Nat)(b:Nat)(c:Int):MStep:=⟨some a,none,(.p (.bin .eql (.tmp b) (.const (.int .i64 c))))⟩
abbrev zp (a:Nat)(b:Nat)(c:Nat):MStep:=⟨some a,none,(.p (.bin .lss (.tmp b) (.tmp c)))⟩
abbrev zq (a:Nat)(b:Nat)(c:Nat):MStep:=⟨some a,none,(.p (.ldN b (.tmp c)))⟩
abbrev zr (a:Nat)(b:Nat):MStep:=⟨none,none,(.st1 (.tmp a) (.tmp b))⟩
abbrev zs (a:Nat)(b:Nat):MStep:=⟨some a,none,(.p (.lenV (.tmp b)))⟩
abbrev zt (a:Nat)(b:Nat)(c:Nat)(d:Nat):MStep:=⟨some a,none,(.call b [(.tmp c),(.tmp d)])⟩
abbrev zu (a:Nat)(b:Nat)(c:Nat):MStep:=⟨some a,(some (b,false)),(.p (.mov (.tmp c)))⟩
abbrev zv (a:Nat)(b:Nat)(c:Nat):MStep:=⟨none,none,(.fzN a b (.tmp c))⟩
abbrev zw (a:Nat)(b:Nat)(c:Nat)(d:Nat)(e:Nat):MStep:=⟨some a,none,(.call b [(.tmp c),(.tmp d),(.tmp e)])⟩
abbrev zx (a:Nat)(b:Nat)(c:Nat):MStep:=⟨some a,none,(.p (.pick (.tmp b) (.const (.bool true)) (.tmp c)))⟩
abbrev zy (a:Nat)(b:Nat)(c:Nat):MStep:=⟨some a,none,(.p (.bin .add (.tmp b) (.tmp c)))⟩
abbrev zz (a:Nat)(b:Nat)(c:Nat)(d:Nat):MStep:=⟨some a,(some (b,true)),(.p (.fa c (.tmp d)))⟩
abbrev ya (a:Nat)(b:Nat)(c:Int):MStep:=⟨some a,none,(.p (.bin .sub (.tmp b) (.const (.int .i64 c))))⟩
abbrev yb (a:Nat):MStep:=⟨some a,none,(.p (.mov (.const (.bool false))))⟩
abbrev yc (a:Nat)(b:Nat)(c:Nat)(d:Nat)(e:Nat):MStep:=⟨some a,(some (b,true)),(.p (.ia c (.tmp d) (.tmp e)))⟩
abbrev yd (a:Nat)(b:Nat)(c:Nat):MStep:=⟨none,none,(.stN a (.tmp b) (.tmp c))⟩
abbrev ye (a:Nat)(b:Nat):MStep:=⟨some a,none,(.p (.un .not (.tmp b)))⟩
abbrev yf (a:Nat)(b:Nat)(c:Nat):MStep:=⟨some a,(some (b,true)),(.p (.nilck (.tmp c)))⟩
abbrev yg (a:Nat)(b:Nat)(c:Int):MStep:=⟨some a,none,(.p (.bin .gtr (.tmp b) (.const (.int .i64 c))))⟩
abbrev yh (a:Nat)(b:Nat)(c:Nat):MStep:=⟨some a,none,(.p (.ext (.tmp b) c))⟩
abbrev yi (a:Nat)(b:Nat)(c:Nat)(d:Nat)(e:Int):MStep:=⟨some a,(some (b,true)),(.p (.ia c (.tmp d) (.const (.int .i64 e))))⟩
abbrev yj (a:Nat)(b:Nat)(c:Nat)(d:Nat)(e:Nat):MStep:=⟨some a,(some (b,true)),(.call c [(.tmp d),(.tmp e)])⟩
abbrev yk (a:Nat)(b:Nat)(c:Nat)(d:Nat)(e:Nat):MStep:=⟨some a,(some (b,false)),(.p (.ia c (.tmp d) (.tmp e)))⟩
abbrev yl (a:Nat)(b:Nat)(c:Nat)(d:Int):MStep:=⟨some a,none,(.p (.ia b (.tmp c) (.const (.int .i64 d))))⟩
abbrev ym (a:Nat)(b:Nat)(c:Int)(d:Int):MStep:=⟨some a,none,(.alloc b [(.int .i64 c),(.bool false),(.int .i64 d)])⟩
abbrev yn (a:Nat)(b:Nat)(c:Nat):MStep:=⟨some a,none,(.p (.bin .eql (.tmp b) (.tmp c)))⟩
abbrev yo (a:Nat)(b:Nat)(c:Nat):MStep:=⟨some a,(some (b,false)),(.p (.ld1 (.tmp c)))⟩
abbrev yp (a:Nat)(b:Nat)(c:Int):MStep:=⟨some a,none,(.p (.bin .geq (.tmp b) (.const (.int .i64 c))))⟩
abbrev yq (a:Nat)(b:Nat)(c:Nat):MStep:=⟨some a,(some (b,true)),(.p (.un .not (.tmp c)))⟩
abbrev yr (a:Nat)(b:Nat)(c:Int)(d:Nat)(e:Nat)(f:Nat)(g:Nat):MStep:=⟨some a,none,(.bsl b [(.int .i64 c)] d [(e,f,(.tmp g))])⟩
abbrev ys (a:Nat)(b:Nat)(c:Nat)(d:Nat)(e:Int):MStep:=⟨some a,none,(.call b [(.tmp c),(.tmp d),(.const (.int .i64 e))])⟩
abbrev yt (a:Nat)(b:Nat)(c:Nat):MStep:=⟨some a,(some (b,true)),(.p (.lenV (.tmp c)))⟩
abbrev yu (a:Nat)(b:Nat)(c:Nat)(d:Nat)(e:Nat)(f:Nat)(g:Nat)(h:Nat)(i:Nat)(j:Nat):MStep:=⟨some a,none,(.alloc b [(.slice none c d),(.slice none e f),(.slice none g h),(.slice none i j)])⟩
abbrev yv (a:Nat)(b:Nat)(c:Int):MStep:=⟨some a,none,(.p (.bin .eql (.tmp b) (.const (.int .u8 c))))⟩
abbrev yw (a:Nat)(b:Nat)(c:Int):MStep:=⟨some a,none,(.p (.bin .lss (.tmp b) (.const (.int .i64 c))))⟩
abbrev yx (a:Nat)(b:Nat)(c:Nat)(d:Int):MStep:=⟨some a,(some (b,false)),(.p (.bin .eql (.tmp c) (.const (.int .u8 d))))⟩
abbrev yy (a:Nat)(b:Nat)(c:Nat)(d:Int):MStep:=⟨some a,(some (b,true)),(.p (.bin .eql (.tmp c) (.const (.int .i64 d))))⟩
abbrev yz (a:Nat)(b:Nat)(c:Nat)(d:Nat)(e:Nat):MStep:=⟨some a,none,(.oth (.a (.mksl b c [(.bool false)] (.tmp d) (.tmp e))))⟩
abbrev xa (a:Nat)(b:Nat)(c:Nat)(d:Int)(e:Nat):MStep:=⟨some a,none,(.call b [(.tmp c),(.const (.int .i64 d)),(.tmp e)])⟩
abbrev xb (a:Nat)(b:Nat)(c:Nat)(d:Nat)(e:Nat)(f:Nat)(g:Nat)(h:Nat):MStep:=⟨some a,none,(.bsl b [(.slice none c d)] e [(f,g,(.tmp h))])⟩
abbrev xc (a:Nat)(b:Nat)(c:Nat)(d:Nat):MStep:=⟨some a,(some (b,false)),(.p (.pick (.tmp c) (.tmp d) (.const (.bool false))))⟩
abbrev xd (a:Nat)(b:Nat)(c:Nat)(d:Nat):MStep:=⟨some a,(some (b,true)),(.p (.bin .lss (.tmp c) (.tmp d)))⟩
abbrev xe (a:Nat)(b:Int):MStep:=⟨some a,none,(.p (.mov (.const (.int .i64 (-b)))))⟩
abbrev xf (a:Nat)(b:Nat)(c:Nat):MStep:=⟨some a,none,(.call b [(.tmp c),(.const (.bool true))])⟩
abbrev xg (a:Nat)(b:Nat)(c:Nat)(d:Int):MStep:=⟨some a,(some (b,true)),(.p (.bin .add (.tmp c) (.const (.int .i64 d))))⟩
abbrev xh (a:Nat)(b:Nat)(c:Nat)(d:Int):MStep:=⟨some a,(some (b,true)),(.p (.bin .eql (.tmp c) (.const (.int .u8 d))))⟩
abbrev xi (a:Nat):MStep:=⟨none,none,(.st1 (.tmp a) (.const (.bool true)))⟩
abbrev xj (a:Nat)(b:Nat)(c:Nat)(d:Int):MStep:=⟨some a,(some (b,true)),(.p (.bin .leq (.tmp c) (.const (.int .u8 d))))⟩
abbrev xk (a:Nat)(b:Nat)(c:Nat)(d:Nat)(e:Int):MStep:=⟨some a,(some (b,false)),(.call c [(.tmp d),(.const (.int .i64 e))])⟩
abbrev xl (a:Nat)(b:Nat)(c:Nat):MStep:=⟨some a,none,(.box true b (.tmp c))⟩
abbrev xm (a:Nat)(b:Nat)(c:Nat)(d:Nat)(e:Nat):MStep:=⟨some a,none,(.p (.slV b c (.tmp d) none (some (.tmp e)) none))⟩
abbrev xn (a:Nat)(b:Nat)(c:Nat):MStep:=⟨some a,none,(.p (.bin .rem (.tmp b) (.tmp c)))⟩
abbrev xo (a:Nat)(b:Nat)(c:Nat)(d:Nat):MStep:=⟨some a,(some (b,true)),(.call c [(.tmp d)])⟩
abbrev xp (a:Nat)(b:Int):MStep:=⟨none,none,(.st1 (.tmp a) (.const (.int .i64 b)))⟩
abbrev xq (a:Nat)(b:Nat)(c:Nat):MStep:=⟨some a,none,(.box false b (.tmp c))⟩
abbrev g0 (a:List MStep)(b:MCode):MCode:=.seq (.region a) b
abbrev g1 (a b:Nat):MCode:=.cond (.tmp a) .skip (.exit b)
abbrev g2 (a:Nat)(b c:MCode):MCode:=.cond (.tmp a) b c
noncomputable abbrev T:=tab Try.prog
noncomputable def s3_0:List MStep:=[zb 47 3 9,zc 48 47,za 49 11,zb 51 3 9,zc 52 51,za 53 11]
noncomputable def g3_0:List MStage:=[⟨zt 50 9 48 49,[⟨52,none,(.ld1 (.tmp 51))⟩],[]⟩,⟨zt 54 10 52 53,[],[]⟩,⟨zt 55 8 50 54,[],[ye 56 55]⟩]
theorem d3_0:okD s3_0 g3_0:=⟨by kernel_rfl,by kernel_rfl,by kernel_rfl,by kernel_rfl,trivial⟩
noncomputable def l3_1:MCode:=.seq (g0 [za 40 11,zb 41 3 9,zc 42 41,zs 43 42,zp 44 40 43] (g1 44 0)) (.seq (.block 1 (.seq (.dregion s3_0 g3_0) (g2 56 (g0 [yb 6] (.ret)) (.skip)))) (.region [za 45 11,zd 46 45 1,za 11 46]))
noncomputable def s3_2:List MStep:=[za 57 7,za 58 57,zf 59 58 1,zf 60 58 8,zf 62 58 1,zf 63 58 8]
noncomputable def g3_2:List MStage:=[⟨yj 61 58 12 59 60,[],[]⟩,⟨yj 64 58 13 62 63,[],[]⟩,⟨yj 65 58 11 61 64,[],[zk 66 58 65,za 67 66,zz 68 67 3 9,zn 69 67 68,zz 71 67 3 9,zn 72 67 71]⟩,⟨xo 70 67 14 69,[⟨72,(some (67,true)),(.ld1 (.tmp 71))⟩],[]⟩,⟨xo 73 67 15 72,[],[]⟩,⟨yj 74 67 11 70 73,[],[zk 75 67 74]⟩,⟨za 6 75,[],[]⟩]
theorem d3_2:okD s3_2 g3_2:=⟨by kernel_rfl,by kernel_rfl,by kernel_rfl,by kernel_rfl,by kernel_rfl,by kernel_rfl,by kernel_rfl,by kernel_rfl,trivial⟩
noncomputable def c3:MCode:=g0 [yb 6] (g0 [⟨(some 12),none,(.call 4 [])⟩,za 7 12] (.seq (g0 [za 13 7,ye 14 13] (g2 14 (g0 [yb 6] (.ret)) (.skip))) (.seq (g0 [za 15 0,zs 16 15,yg 17 16 40,za 18 17,zu 19 18 2,⟨(some 20),(some (18,false)),(.p (.lenV (.tmp 19)))⟩,⟨(some 21),(some (18,false)),(.p (.bin .gtr (.tmp 20) (.const (.int .i64 300))))⟩,zx 22 18 21] (g2 22 (g0 [za 23 7,za 6 23] (.ret)) (.skip))) (g0 [za 24 1,⟨(some 25),none,(.p (.bin .rem (.tmp 24) (.const (.int .i64 15))))⟩,zd 26 25 15,⟨(some 27),none,(.p (.bin .rem (.tmp 26) (.const (.int .i64 15))))⟩,za 1 27] (g0 [za 28 0,za 29 1,zt 30 5 28 29,za 8 30] (g0 [za 32 2,⟨(some 33),none,(.p (.build [(.slice none 0 0),(.int .i64 0)] [(0,1,(.tmp 32))]))⟩,xq 34 40 33,ze 35 7 34,⟨(some 36),none,(.oth (.a (.s2b 5 (.tmp 35))))⟩,ze 37 6 36,za 31 37,yh 38 31 0,yh 39 31 1,yu 9 31 0 0 0 0 0 0 0 0,ym 10 33 0 0,zv 4 9 38,zv 3 10 39] (.seq (g0 [zg 11 0] (.block 0 (.loop l3_1))) (.seq (.dregion s3_2 g3_2) (.ret)))))))))
theorem t3:T 3=some ⟨c3.toC,[.tmp 6]⟩:=by kernel_rfl
noncomputable def c4:MCode:=g0 [yb 0] (g0 [⟨(some 2),none,(.bsl 3 [(.int .i64 0)] 1 [(0,1,(.const (.int .i64 1)))])⟩,⟨(some 3),none,(.bsl 22 [(.slice none 0 0)] 2 [(0,1,(.tmp 2)),(1,1,(.const (.slice none 0 0)))])⟩,⟨(some 4),none,(.call 12 [(.const (.int .i64 2)),(.tmp 3)])⟩,za 1 4] (g0 [za 5 1,zs 6 5,zo 7 6 2,za 8 7,zf 9 8 1,yi 10 8 1 9 0,zn 11 8 10,yt 12 8 11,yy 13 8 12 1,zk 14 8 13,za 15 14,zf 16 15 1,yi 17 15 1 16 0,zn 18 15 17,yi 19 15 1 18 0,zn 20 15 19,yy 21 15 20 1,zk 22 15 21,za 23 22,⟨(some 24),(some (23,true)),(.call 14 [(.const (.slice none 0 0))])⟩,yt 25 23 24,yy 26 23 25 0,zk 27 23 26,za 0 27] (.ret)))
theorem t4:T 4=some ⟨c4.toC,[.tmp 0]⟩:=by kernel_rfl
noncomputable def l5_0:MCode:=.seq (g0 [za 11 6,za 12 0,zs 13 12,zp 14 11 13,za 15 14,zf 16 15 1,⟨(some 17),(some (15,true)),(.p (.bin .gtr (.tmp 16) (.const (.int .i64 0))))⟩,zk 18 15 17] (g1 18 0)) (.seq (.block 1 (g0 [za 21 0,za 22 6,zh 23 1 21 22,zc 24 23,za 25 1,xn 26 24 25,za 27 1,zy 28 26 27,za 29 1,xn 30 28 29,za 7 30] (g0 [za 31 0,za 32 6,zh 33 1 31 32,zc 34 33,za 35 1,⟨(some 36),none,(.p (.bin .quo (.tmp 34) (.tmp 35)))⟩,za 37 1,xn 38 36 37,za 39 1,zy 40 38 39,za 41 1,xn 42 40 41,za 8 42] (.region [za 43 5,za 44 7,za 45 5,za 46 7,zh 47 1 45 46,zc 48 47,za 49 8,yr 50 3 0 1 0 1 49,zj 51 3 1 8 48 50,zh 52 1 43 44,zr 52 51])))) (.region [za 19 6,zd 20 19 1,za 6 20]))
noncomputable def c5:MCode:=g0 [zl 4 0 0] (g0 [za 9 1,⟨(some 10),none,(.oth (.a (.mksl 22 24 [(.slice none 0 0)] (.tmp 9) (.tmp 9))))⟩,za 5 10] (.seq (g0 [zg 6 0] (.block 0 (.loop l5_0))) (g0 [za 53 5,za 4 53] (.ret))))
theorem t5:T 5=some ⟨c5.toC,[.tmp 4]⟩:=by kernel_rfl
noncomputable def s6_0:List MStep:=[⟨(some 16),none,(.p (.build [(.slice none 0 0),(.slice none 0 0),(.slice none 0 0),(.slice none 0 0)] []))⟩,zq 17 3 6]
noncomputable def g6_0:List MStage:=[⟨zv 4 2 16,[⟨17,none,(.ldN 3 (.tmp 6))⟩],[]⟩,⟨zv 3 3 17,[],[]⟩]
theorem d6_0:okD s6_0 g6_0:=⟨by kernel_rfl,by kernel_rfl,by kernel_rfl,trivial⟩
noncomputable def s6_1:List MStep:=[zq 18 4 5,zq 19 3 6]
noncomputable def g6_1:List MStage:=[⟨zv 4 2 18,[⟨19,none,(.ldN 3 (.tmp 6))⟩],[]⟩,⟨zv 3 3 19,[],[]⟩]
theorem d6_1:okD s6_1 g6_1:=⟨by kernel_rfl,by kernel_rfl,by kernel_rfl,trivial⟩
noncomputable def c6:MCode:=g0 [yu 2 31 0 0 0 0 0 0 0 0,ym 3 33 0 0] (g0 [za 7 0,ze 8 16 7,za 4 8] (g0 [za 9 4,ze 10 17 9,⟨some 5,none,(.ini false 31 [(.slice none 0 0),(.slice none 0 0),(.slice none 0 0),(.slice none 0 0)] (.tmp 10))⟩] (g0 [za 11 4,ze 12 18 11,⟨some 6,none,(.ini false 33 [(.int .i64 0),(.bool false),(.int .i64 0)] (.tmp 12))⟩] (.seq (g0 [zb 13 0 6,zc 14 13,⟨(some 15),none,(.p (.bin .neq (.tmp 14) (.const (.int .i64 0))))⟩] (g2 15 (.seq (.dregion s6_0 g6_0) (.ret)) (.skip))) (.seq (.dregion s6_1 g6_1) (.ret))))))
theorem t6:T 6=some ⟨c6.toC,[.ldN 4 2,.ldN 3 3]⟩:=by kernel_rfl
noncomputable def l7_0:MCode:=.seq (g0 [za 43 5,yp 44 43 0] (g1 44 0)) (.seq (.block 1 (g0 [⟨(some 47),none,(.bsl 9 [(.string ⟨⟨[]⟩⟩)] 4 [(0,1,(.const (.string ⟨⟨[112]⟩⟩))),(1,1,(.const (.string ⟨⟨[113]⟩⟩))),(2,1,(.const (.string ⟨⟨[114]⟩⟩))),(3,1,(.const (.string ⟨⟨[107]⟩⟩)))])⟩,za 48 5,zh 49 1 47 48,zc 50 49,za 6 50] (.seq (g0 [za 51 0,zm 52 19 51 3,zo 53 52 0] (g2 53 (.region [za 54 3,za 55 6,zy 56 54 55,⟨(some 57),none,(.p (.bin .add (.tmp 56) (.const (.string ⟨⟨[32,58,58,32]⟩⟩))))⟩,za 58 0,⟨(some 59),none,(.bsl 9 [(.string ⟨⟨[]⟩⟩)] 9 [(0,1,(.const (.string ⟨⟨[97,32,45,62,32,97]⟩⟩))),(1,1,(.const (.string ⟨⟨[73,110,116]⟩⟩))),(2,1,(.const (.string ⟨⟨[69,113,32,97,32,61,62,32,97,32,45,62,32,97,32,45,62,32,66,111,111,108]⟩⟩))),(3,1,(.const (.string ⟨⟨[73,110,116,32,45,62,32,73,110,116]⟩⟩))),(4,1,(.const (.string ⟨⟨[40,83,104,111,119,32,97,44,32,78,117,109,32,97,41,32,61,62,32,97,32,45,62,32,76,105,115,116,32,67,104,97,114]⟩⟩))),(5,1,(.const (.string ⟨⟨[98,32,45,62,32,99]⟩⟩))),(6,1,(.const (.string ⟨⟨[78,117,109,32,97,32,61,62,32,97]⟩⟩))),(7,1,(.const (.string ⟨⟨[84,32,73,110,116]⟩⟩))),(8,1,(.const (.string ⟨⟨[76,105,115,116,32,73,110,116]⟩⟩)))])⟩,zt 60 20 58 59,zy 61 57 60,⟨(some 62),none,(.p (.bin .add (.tmp 61) (.const (.string ⟨⟨[59,10]⟩⟩))))⟩,za 3 62]) (.skip))) (g0 [za 63 4,za 64 6,⟨(some 65),none,(.bsl 9 [(.string ⟨⟨[]⟩⟩)] 1 [(0,1,(.tmp 64))])⟩,zj 66 9 1 16 63 65,za 4 66] (.region [za 67 3,za 68 6,zy 69 67 68,⟨(some 70),none,(.p (.bin .add (.tmp 69) (.const (.string ⟨⟨[32,61,32]⟩⟩))))⟩,za 71 0,za 72 4,ys 73 21 71 72 3,zy 74 70 73,⟨(some 75),none,(.p (.bin .add (.tmp 74) (.const (.string ⟨⟨[59,10]⟩⟩))))⟩,za 3 75]))))) (.region [za 45 5,ya 46 45 1,za 5 46]))
noncomputable def c7:MCode:=g0 [⟨(some 2),none,(.p (.mov (.const (.string ⟨⟨[]⟩⟩))))⟩] (g0 [⟨(some 3),none,(.p (.mov (.const (.string ⟨⟨[]⟩⟩))))⟩] (g0 [zl 4 0 0] (.seq (g0 [za 7 0,zm 8 19 7 3,yg 9 8 0] (g2 9 (g0 [za 10 3,⟨(some 11),none,(.p (.bin .add (.tmp 10) (.const (.string ⟨⟨[100,97,116,97,32,84,32,97,32,61,32,65,32,124,32,66,32,97,32,40,84,32,97,41,32,124,32,67,32,73,110,116]⟩⟩))))⟩,za 12 0,⟨(some 13),none,(.bsl 9 [(.string ⟨⟨[]⟩⟩)] 5 [(0,1,(.const (.string ⟨⟨[]⟩⟩))),(1,1,(.const (.string ⟨⟨[32,100,101,114,105,118,105,110,103,32,40,69,113,41]⟩⟩))),(2,1,(.const (.string ⟨⟨[32,100,101,114,105,118,105,110,103,32,40,69,113,44,32,79,114,100,41]⟩⟩))),(3,1,(.const (.string ⟨⟨[32,100,101,114,105,118,105,110,103,32,40,69,113,44,32,79,114,100,44,32,83,104,111,119,41]⟩⟩))),(4,1,(.const (.string ⟨⟨[32,100,101,114,105,118,105,110,103,32,83,104,111,119]⟩⟩)))])⟩,zt 14 20 12 13,zy 15 11 14,⟨(some 16),none,(.p (.bin .add (.tmp 15) (.const (.string ⟨⟨[59,10]⟩⟩))))⟩,za 3 16] (g0 [za 17 4,⟨(some 18),none,(.bsl 9 [(.string ⟨⟨[]⟩⟩)] 3 [(0,1,(.const (.string ⟨⟨[65]⟩⟩))),(1,1,(.const (.string ⟨⟨[66]⟩⟩))),(2,1,(.const (.string ⟨⟨[67]⟩⟩)))])⟩,zj 19 9 1 16 17 18,za 4 19] (g0 [za 20 0,zm 21 19 20 2,zo 22 21 0] (g2 22 (g0 [za 23 3,za 24 0,⟨(some 25),none,(.bsl 9 [(.string ⟨⟨[]⟩⟩)] 3 [(0,1,(.const (.string ⟨⟨[99,108,97,115,115,32,83,105,122,101,32,97,32,119,104,101,114,101,32,123,32,115,105,122,101,32,58,58,32,97,32,45,62,32,73,110,116,59,32,116,119,105,99,101,32,58,58,32,97,32,45,62,32,73,110,116,59,32,116,119,105,99,101,32,61,32,92,120,32,45,62,32,115,105,122,101,32,120,32,43,32,115,105,122,101,32,120,32,125,59,10]⟩⟩))),(1,1,(.const (.string ⟨⟨[99,108,97,115,115,32,69,113,32,97,32,61,62,32,83,105,122,101,32,97,32,119,104,101,114,101,32,123,32,115,105,122,101,32,58,58,32,97,32,45,62,32,73,110,116,32,125,59,10]⟩⟩))),(2,1,(.const (.string ⟨⟨[99,108,97,115,115,32,83,105,122,101,32,97,32,119,104,101,114,101,32,123,32,115,105,122,101,32,58,58,32,97,32,45,62,32,98,32,45,62,32,73,110,116,32,125,59,10]⟩⟩)))])⟩,zt 26 20 24 25,zy 27 23 26,za 3 27] (g0 [za 28 3,za 29 0,⟨(some 30),none,(.bsl 9 [(.string ⟨⟨[]⟩⟩)] 3 [(0,1,(.const (.string ⟨⟨[105,110,115,116,97,110,99,101,32,83,105,122,101,32,73,110,116,32,119,104,101,114,101,32,123,32,115,105,122,101,32,120,32,61,32,49,32,125,59,10]⟩⟩))),(1,1,(.const (.string ⟨⟨[105,110,115,116,97,110,99,101,32,83,105,122,101,32,73,110,116,32,119,104,101,114,101,32,123,32,115,105,122,101,32,61,32,92,120,32,45,62,32,120,32,125,59,10]⟩⟩))),(2,1,(.const (.string ⟨⟨[]⟩⟩)))])⟩,zt 31 20 29 30,zy 32 28 31,za 3 32] (g0 [za 33 3,za 34 0,⟨(some 35),none,(.bsl 9 [(.string ⟨⟨[]⟩⟩)] 3 [(0,1,(.const (.string ⟨⟨[105,110,115,116,97,110,99,101,32,83,105,122,101,32,97,32,61,62,32,83,105,122,101,32,40,84,32,97,41,32,119,104,101,114,101,32,123,32,115,105,122,101,32,120,32,61,32,99,97,115,101,32,120,32,111,102,32,123,32,66,32,104,32,114,32,45,62,32,115,105,122,101,32,104,32,43,32,115,105,122,101,32,114,59,32,95,32,45,62,32,48,32,125,32,125,59,10]⟩⟩))),(1,1,(.const (.string ⟨⟨[105,110,115,116,97,110,99,101,32,83,105,122,101,32,40,84,32,97,41,32,119,104,101,114,101,32,123,32,115,105,122,101,32,120,32,61,32,50,32,125,59,10]⟩⟩))),(2,1,(.const (.string ⟨⟨[]⟩⟩)))])⟩,zt 36 20 34 35,zy 37 33 36,za 3 37] (.region [za 38 4,⟨(some 39),none,(.bsl 9 [(.string ⟨⟨[]⟩⟩)] 1 [(0,1,(.const (.string ⟨⟨[115,105,122,101]⟩⟩)))])⟩,zj 40 9 1 16 38 39,za 4 40])))) (.skip))))) (.skip))) (.seq (g0 [za 41 0,zm 42 19 41 4,za 5 42] (.block 0 (.loop l7_0))) (.seq (g0 [za 76 0,zm 77 19 76 2,zo 78 77 0] (g2 78 (.region [za 79 3,⟨(some 80),none,(.p (.bin .add (.tmp 79) (.const (.string ⟨⟨[109,97,105,110,32,61,32]⟩⟩))))⟩,za 81 0,za 82 4,ys 83 21 81 82 3,zy 84 80 83,⟨(some 85),none,(.p (.bin .add (.tmp 84) (.const (.string ⟨⟨[10]⟩⟩))))⟩,za 3 85]) (.skip))) (g0 [za 86 3,za 2 86] (.ret)))))))
theorem t7:T 7=some ⟨c7.toC,[.tmp 2]⟩:=by kernel_rfl
noncomputable def s8_0:List MStep:=[za 18 0,za 19 5,zh 20 1 18 19,zc 21 20,za 22 1,za 23 5,zh 24 1 22 23,zc 25 24,yn 26 21 25]
noncomputable def g8_0:List MStage:=[⟨za 6 26,[],[]⟩]
theorem d8_0:okD s8_0 g8_0:=⟨by kernel_rfl,by kernel_rfl,trivial⟩
noncomputable def l8_1:MCode:=.seq (g0 [za 12 5,za 13 0,zs 14 13,zp 15 12 14] (g1 15 0)) (.seq (.block 1 (.seq (.dregion s8_0 g8_0) (g0 [za 27 6,ye 28 27] (g2 28 (g0 [yb 4] (.ret)) (.skip))))) (.region [za 16 5,zd 17 16 1,za 5 17]))
noncomputable def c8:MCode:=g0 [yb 4] (.seq (g0 [za 7 0,zs 8 7,za 9 1,zs 10 9,⟨(some 11),none,(.p (.bin .neq (.tmp 8) (.tmp 10)))⟩] (g2 11 (g0 [yb 4] (.ret)) (.skip))) (.seq (g0 [zg 5 0] (.block 0 (.loop l8_1))) (g0 [⟨(some 4),none,(.p (.mov (.const (.bool true))))⟩] (.ret))))
theorem t8:T 8=some ⟨c8.toC,[.tmp 4]⟩:=by kernel_rfl
noncomputable def l9_0:MCode:=g0 [zp 26 25 24] (.seq (g1 26 0) (.seq (.block 1 (g0 [za 27 25,zh 28 15 23 25,zq 29 15 28,⟨(some 8),none,(.alloc 67 [(.string ⟨⟨[]⟩⟩),(.bool false),(.slice none 0 0),(.slice none 0 0),(.int .i64 0),(.string ⟨⟨[]⟩⟩),(.slice none 0 0),(.int .i64 0),(.int .i64 0),(.string ⟨⟨[]⟩⟩),(.int .i64 0),(.slice none 0 0),(.slice none 0 0),(.slice none 0 0),(.int .i64 0)])⟩,za 7 27,zv 15 8 29] (g0 [zb 30 1 8,zc 31 30,ye 32 31,za 33 32,zf 34 33 5,zz 35 33 0 8,zn 36 33 35,yj 37 33 23 34 36,zk 38 33 37] (g2 38 (.region [za 39 6,za 40 7,yr 41 3 0 1 0 1 40,zj 42 3 1 8 39 41,za 6 42]) (.skip))))) (.region [zd 43 25 1,za 25 43])))
noncomputable def c9:MCode:=g0 [zl 4 0 0] (.seq (g0 [za 9 1,yw 10 9 0,za 11 10,zu 12 11 1,zu 13 11 0,⟨(some 14),(some (11,false)),(.p (.lenV (.tmp 13)))⟩,⟨(some 15),(some (11,false)),(.p (.bin .geq (.tmp 12) (.tmp 14)))⟩,zx 16 11 15] (g2 16 (g0 [zl 4 0 0] (.ret)) (.skip))) (g0 [za 17 0,za 18 1,zh 19 15 17 18,zb 20 7 19,zq 21 7 20,ze 22 22 21,za 5 22] (g0 [zl 6 0 0] (.seq (g0 [za 23 0,zs 24 23,zg 25 0] (.block 0 (.loop l9_0))) (g0 [za 44 6,za 4 44] (.ret))))))
theorem t9:T 9=some ⟨c9.toC,[.tmp 4]⟩:=by kernel_rfl
noncomputable def l10_0:MCode:=.seq (g0 [za 14 7,za 15 0,zs 16 15,zp 17 14 16] (g1 17 0)) (.seq (.block 1 (g0 [za 20 0,za 21 7,zh 22 15 20 21,zb 23 1 22,zc 24 23,ye 25 24,za 26 25,zf 27 26 5,zf 28 26 0,zf 29 26 7,yc 30 26 15 28 29,zz 31 26 0 30,zn 32 26 31,yj 33 26 25 27 32,zk 34 26 33] (g2 34 (.region [za 35 6,za 36 7,yr 37 3 0 1 0 1 36,zj 38 3 1 8 35 37,za 6 38]) (.skip)))) (.region [za 18 7,zd 19 18 1,za 7 19]))
noncomputable def c10:MCode:=g0 [zl 4 0 0] (g0 [za 8 0,za 9 1,zh 10 15 8 9,zb 11 7 10,zq 12 7 11,ze 13 24 12,za 5 13] (g0 [zl 6 0 0] (.seq (g0 [zg 7 0] (.block 0 (.loop l10_0))) (g0 [za 39 6,za 4 39] (.ret)))))
theorem t10:T 10=some ⟨c10.toC,[.tmp 4]⟩:=by kernel_rfl
noncomputable def s11_0:List MStep:=[za 18 0,za 19 5,zh 20 1 18 19,zc 21 20,za 22 1,za 23 5,zh 24 1 22 23,zc 25 24]
noncomputable def g11_0:List MStage:=[⟨zt 26 8 21 25,[],[]⟩,⟨za 6 26,[],[]⟩]
theorem d11_0:okD s11_0 g11_0:=⟨by kernel_rfl,by kernel_rfl,by kernel_rfl,trivial⟩
noncomputable def l11_1:MCode:=.seq (g0 [za 12 5,za 13 0,zs 14 13,zp 15 12 14] (g1 15 0)) (.seq (.block 1 (.seq (.dregion s11_0 g11_0) (g0 [za 27 6,ye 28 27] (g2 28 (g0 [yb 4] (.ret)) (.skip))))) (.region [za 16 5,zd 17 16 1,za 5 17]))
noncomputable def c11:MCode:=g0 [yb 4] (.seq (g0 [za 7 0,zs 8 7,za 9 1,zs 10 9,⟨(some 11),none,(.p (.bin .neq (.tmp 8) (.tmp 10)))⟩] (g2 11 (g0 [yb 4] (.ret)) (.skip))) (.seq (g0 [zg 5 0] (.block 0 (.loop l11_1))) (g0 [⟨(some 4),none,(.p (.mov (.const (.bool true))))⟩] (.ret))))
theorem t11:T 11=some ⟨c11.toC,[.tmp 4]⟩:=by kernel_rfl
noncomputable def l12_0:MCode:=g0 [zp 18 17 16] (.seq (g1 18 0) (.seq (.block 1 (g0 [za 19 17,za 6 19] (.region [za 20 5,za 21 0,za 22 1,za 23 6,zw 24 26 21 22 23,xb 25 70 0 0 1 0 1 24,zj 26 70 1 24 20 25,za 5 26]))) (.region [zd 27 17 1,za 17 27])))
noncomputable def l12_1:MCode:=g0 [zp 46 45 44] (.seq (g1 46 6) (.seq (.block 7 (g0 [za 47 45,za 12 47] (.block 8 (g0 [za 49 12,za 50 9,yn 51 49 50,za 52 51,zu 53 52 5,zu 54 52 9,yk 55 52 1 53 54,yo 56 52 55,zu 57 52 12,yk 58 52 1 56 57,yo 59 52 58,zu 60 52 59,zf 61 60 5,zf 62 60 12,yc 63 60 1 61 62,zn 64 60 63,zf 65 60 9,yc 66 60 1 64 65,zn 67 60 66,xc 68 52 60 67,zx 69 52 68,za 48 69] (g2 48 (.region [za 70 10,za 71 12,yr 72 3 0 1 0 1 71,zj 73 3 1 8 70 72,za 10 73]) (g0 [za 75 5,za 76 9,zh 77 1 75 76,zc 78 77,za 79 12,zh 80 1 78 79,zc 81 80,za 82 81,zf 83 82 7,zf 84 82 12,yc 85 82 1 83 84,zn 86 82 85,yq 87 82 86,zk 88 82 87,za 74 88] (g2 74 (.region [yb 11]) (.skip)))))))) (.region [zd 89 45 1,za 45 89])))
noncomputable def l12_2:MCode:=g0 [zp 95 94 93] (.seq (g1 95 9) (.seq (.block 10 (g0 [zh 96 1 92 94,zc 97 96,za 14 97] (.region [za 98 7,za 99 14,zh 100 1 98 99,xi 100]))) (.region [zd 101 94 1,za 94 101])))
noncomputable def l12_3:MCode:=g0 [zp 37 36 35] (.seq (g1 37 4) (.seq (.block 5 (g0 [za 38 36,za 9 38] (.seq (g0 [za 39 7,za 40 9,zh 41 1 39 40,zc 42 41] (g2 42 (.exit 5) (.skip))) (g0 [zl 10 0 0] (g0 [⟨(some 11),none,(.p (.mov (.const (.bool true))))⟩] (.seq (g0 [za 43 5,zs 44 43,zg 45 0] (.block 6 (.loop l12_1))) (.seq (g0 [za 90 11,ye 91 90] (g2 91 (.exit 5) (.skip))) (.seq (g0 [za 92 10,zs 93 92,zg 94 0] (.block 9 (.loop l12_2))) (g0 [za 102 8,za 103 10,xb 104 22 0 0 1 0 1 103,zj 105 22 1 24 102 104,za 8 105] (.exit 3)))))))))) (.region [zd 106 36 1,za 36 106])))
noncomputable def l12_4:MCode:=.seq (g0 [za 31 5,zs 32 31,yg 33 32 0] (g1 33 2)) (.block 3 (.seq (g0 [za 34 5,zs 35 34,zg 36 0] (.block 4 (.loop l12_3))) (.exit 2)))
noncomputable def c12:MCode:=g0 [zl 4 0 0] (g0 [zl 5 0 0] (.seq (g0 [za 15 0,⟨(some 16),none,(.p (.mm true (.tmp 15) (.const (.int .i64 0))))⟩,zg 17 0] (.block 0 (.loop l12_0))) (g0 [za 28 5,zs 29 28,yz 30 4 1 29 29,za 7 30] (g0 [zl 8 0 0] (.seq (.skip) (.seq (.block 2 (.loop l12_4)) (g0 [za 107 8,za 4 107] (.ret))))))))
theorem t12:T 12=some ⟨c12.toC,[.tmp 4]⟩:=by kernel_rfl
noncomputable def s13_0:List MStep:=[za 46 5,za 47 6,zh 48 1 46 47,zc 49 48,za 50 1,za 51 6,zh 52 1 50 51,zc 53 52,za 54 7,zh 55 1 53 54,zc 56 55,zh 57 1 49 56]
noncomputable def g13_0:List MStage:=[⟨xi 57,[],[]⟩]
theorem d13_0:okD s13_0 g13_0:=⟨by kernel_rfl,by kernel_rfl,trivial⟩
noncomputable def l13_1:MCode:=.seq (g0 [za 31 6,za 32 1,zs 33 32,zp 34 31 33,za 35 34,zf 36 35 7,zf 37 35 1,zf 38 35 6,yc 39 35 1 37 38,zn 40 35 39,yt 41 35 40,xd 42 35 36 41,zk 43 35 42] (g1 43 2)) (.seq (.block 3 (.dregion s13_0 g13_0)) (.region [za 44 7,zd 45 44 1,za 7 45]))
noncomputable def l13_2:MCode:=.seq (g0 [za 21 6,za 22 0,zp 23 21 22] (g1 23 0)) (.seq (.block 1 (g0 [za 26 5,za 27 6,za 28 0,yz 29 4 1 28 28,zh 30 1 26 27,zr 30 29] (g0 [zg 7 0] (.block 2 (.loop l13_1))))) (.region [za 24 6,zd 25 24 1,za 6 25]))
noncomputable def l13_3:MCode:=.seq (g0 [za 68 10,za 69 0,zp 70 68 69] (g1 70 8)) (.seq (.block 9 (g0 [za 73 5,za 74 9,zh 75 1 73 74,zc 76 75,za 77 8,zh 78 1 76 77,zc 79 78,za 80 79,zf 81 80 5,zf 82 80 8,yc 83 80 1 81 82,zn 84 80 83,zf 85 80 10,yc 86 80 1 84 85,zn 87 80 86,zk 88 80 87] (g2 88 (.region [za 89 5,za 90 9,zh 91 1 89 90,zc 92 91,za 93 10,zh 94 1 92 93,xi 94]) (.skip)))) (.region [za 71 10,zd 72 71 1,za 10 72]))
noncomputable def l13_4:MCode:=.seq (g0 [za 63 9,za 64 0,zp 65 63 64] (g1 65 6)) (.seq (.block 7 (g0 [zg 10 0] (.block 8 (.loop l13_3)))) (.region [za 66 9,zd 67 66 1,za 9 67]))
noncomputable def l13_5:MCode:=.seq (g0 [za 58 8,za 59 0,zp 60 58 59] (g1 60 4)) (.seq (.block 5 (g0 [zg 9 0] (.block 6 (.loop l13_4)))) (.region [za 61 8,zd 62 61 1,za 8 62]))
noncomputable def l13_6:MCode:=.seq (g0 [za 111 16,za 112 0,zp 113 111 112] (g1 113 14)) (.seq (.block 15 (g0 [za 116 5,za 117 14,zh 118 1 116 117,zc 119 118,za 120 16,zh 121 1 119 120,zc 122 121,za 123 122,zf 124 123 5,zf 125 123 16,yc 126 123 1 124 125,zn 127 123 126,zf 128 123 14,yc 129 123 1 127 128,zn 130 123 129,yq 131 123 130,zk 132 123 131,za 133 132,zf 134 133 16,zf 135 133 14,⟨(some 136),(some (133,true)),(.p (.bin .neq (.tmp 134) (.tmp 135)))⟩,zk 137 133 136,za 138 137,zf 139 138 11,zf 140 138 16,yc 141 138 1 139 140,zn 142 138 141,yq 143 138 142,zk 144 138 143] (g2 144 (.region [yb 15]) (.skip)))) (.region [za 114 16,zd 115 114 1,za 16 115]))
noncomputable def l13_7:MCode:=.seq (g0 [za 97 14,za 98 0,zp 99 97 98,za 100 99,zf 101 100 13,⟨(some 102),(some (100,true)),(.p (.bin .lss (.tmp 101) (.const (.int .i64 0))))⟩,zk 103 100 102] (g1 103 12)) (.seq (.block 13 (g0 [za 106 11,za 107 14,zh 108 1 106 107,zc 109 108,ye 110 109,za 15 110] (.seq (g0 [zg 16 0] (.block 14 (.loop l13_6))) (g0 [za 145 15] (g2 145 (.region [za 146 14,za 13 146]) (.skip)))))) (.region [za 104 14,zd 105 104 1,za 14 105]))
noncomputable def l13_8:MCode:=.seq (g0 [za 150 18,za 151 0,zp 152 150 151] (g1 152 16)) (.seq (.block 17 (g0 [za 155 18,za 156 13,yn 157 155 156,za 158 157,zu 159 158 5,zu 160 158 13,yk 161 158 1 159 160,yo 162 158 161,zu 163 158 18,yk 164 158 1 162 163,yo 165 158 164,zu 166 158 165,zf 167 166 5,zf 168 166 18,yc 169 166 1 167 168,zn 170 166 169,zf 171 166 13,yc 172 166 1 170 171,zn 173 166 172,xc 174 158 166 173,zx 175 158 174] (g2 175 (g0 [za 176 17,za 177 18,yr 178 3 0 1 0 1 177,zj 179 3 1 8 176 178,za 17 179] (.region [za 180 11,za 181 18,zh 182 1 180 181,xi 182])) (.skip)))) (.region [za 153 18,zd 154 153 1,za 18 154]))
noncomputable def l13_9:MCode:=.block 11 (g0 [xe 13 1] (.seq (g0 [zg 14 0] (.block 12 (.loop l13_7))) (.seq (g0 [za 147 13,yw 148 147 0] (g2 148 (g0 [za 149 12,za 4 149] (.ret)) (.skip))) (g0 [zl 17 0 0] (.seq (g0 [zg 18 0] (.block 16 (.loop l13_8))) (.region [za 183 12,za 184 17,xb 185 22 0 0 1 0 1 184,zj 186 22 1 24 183 185,za 12 186]))))))
noncomputable def c13:MCode:=g0 [zl 4 0 0] (g0 [za 19 0,⟨(some 20),none,(.oth (.a (.mksl 70 24 [(.slice none 0 0)] (.tmp 19) (.tmp 19))))⟩,za 5 20] (.seq (g0 [zg 6 0] (.block 0 (.loop l13_2))) (.seq (g0 [zg 8 0] (.block 4 (.loop l13_5))) (g0 [za 95 0,yz 96 4 1 95 95,za 11 96] (g0 [zl 12 0 0] (.block 10 (.loop l13_9)))))))
theorem t13:T 13=some ⟨c13.toC,[.tmp 4]⟩:=by kernel_rfl
noncomputable def l14_0:MCode:=g0 [zp 8 7 6] (.seq (g1 8 0) (.seq (.block 1 (g0 [za 9 7,za 4 9] (.region [za 10 3,za 11 0,za 12 4,zt 13 9 11 12,xb 14 22 0 0 1 0 1 13,zj 15 22 1 24 10 14,za 3 15]))) (.region [zd 16 7 1,za 7 16])))
noncomputable def c14:MCode:=g0 [zl 2 0 0] (g0 [zl 3 0 0] (.seq (g0 [za 5 0,zs 6 5,zg 7 0] (.block 0 (.loop l14_0))) (g0 [za 17 0,zs 18 17,za 19 3,zt 20 12 18 19,za 2 20] (.ret))))
theorem t14:T 14=some ⟨c14.toC,[.tmp 2]⟩:=by kernel_rfl
noncomputable def l15_0:MCode:=.seq (g0 [za 5 4,za 6 0,zs 7 6,zp 8 5 7] (g1 8 0)) (.seq (.block 1 (.region [za 11 3,za 12 0,za 13 4,zt 14 10 12 13,xb 15 22 0 0 1 0 1 14,zj 16 22 1 24 11 15,za 3 16])) (.region [za 9 4,zd 10 9 1,za 4 10]))
noncomputable def c15:MCode:=g0 [zl 2 0 0] (g0 [zl 3 0 0] (.seq (g0 [zg 4 0] (.block 0 (.loop l15_0))) (g0 [za 17 0,zs 18 17,za 19 3,zt 20 13 18 19,za 2 20] (.ret))))
theorem t15:T 15=some ⟨c15.toC,[.tmp 2]⟩:=by kernel_rfl
noncomputable def c16:MCode:=g0 [⟨(some 2),none,(.p (.mov (.const (.pointer none))))⟩] (g0 [za 6 0,ze 7 27 6,za 5 7,yh 8 5 0,yh 9 5 1,ym 4 33 0 0,za 3 8,zv 3 4 9] (g0 [za 10 3,za 11 0,zs 12 11,zq 13 3 4,⟨(some 14),none,(.p (.build [(.slice none 0 0),(.int .i64 0),(.int .i64 0),(.int .i64 0),(.bool false),(.int .i64 0),(.int .i64 0)] [(0,1,(.tmp 10)),(2,1,(.tmp 12)),(3,3,(.tmp 13))]))⟩,xq 15 76 14,za 2 15] (.ret)))
theorem t16:T 16=some ⟨c16.toC,[.tmp 2]⟩:=by kernel_rfl
noncomputable def l17_0:MCode:=.seq (g0 [za 7 0,⟨(some 8),none,(.call 29 [(.tmp 7),(.const (.string ⟨⟨[59]⟩⟩))])⟩] (g1 8 2)) (.block 3 (.region [za 9 0,za 10 0,zi 11 10,zb 12 1 11,zc 13 12,zd 14 13 1,zi 15 9,zb 16 1 15,zr 16 14]))
noncomputable def s17_1:List MStep:=[za 17 0,zi 18 17,zb 19 1 18,zc 20 19,za 21 0,zi 22 21,zb 23 0 22,zc 24 23,zs 25 24,⟨(some 26),none,(.p (.bin .geq (.tmp 20) (.tmp 25)))⟩]
noncomputable def g17_1:List MStage:=[]
theorem d17_1:okD s17_1 g17_1:=⟨by kernel_rfl,trivial⟩
noncomputable def s17_2:List MStep:=[zb 39 0 3,zc 40 39,za 41 0]
noncomputable def g17_2:List MStage:=[⟨ze 42 30 41,[⟨40,none,(.ld1 (.tmp 39))⟩],[⟨(some 43),none,(.bsl 81 [(.string ⟨⟨[]⟩⟩),(.slice none 0 0),(.slice none 0 0),(.slice none 0 0),(.int .i64 0)] 1 [(0,5,(.tmp 42))])⟩]⟩,⟨zj 44 81 5 96 40 43,[],[zb 45 0 3]⟩,⟨zr 45 44,[],[]⟩]
theorem d17_2:okD s17_2 g17_2:=⟨by kernel_rfl,by kernel_rfl,by kernel_rfl,by kernel_rfl,trivial⟩
noncomputable def s17_3:List MStep:=[zb 49 1 3,zc 50 49,za 51 0]
noncomputable def g17_3:List MStage:=[⟨ze 52 31 51,[⟨50,none,(.ld1 (.tmp 49))⟩],[⟨(some 53),none,(.bsl 85 [(.string ⟨⟨[]⟩⟩),(.string ⟨⟨[]⟩⟩),(.slice none 0 0),(.slice none 0 0),(.slice none 0 0),(.int .i64 0)] 1 [(0,6,(.tmp 52))])⟩]⟩,⟨zj 54 85 6 112 50 53,[],[zb 55 1 3]⟩,⟨zr 55 54,[],[]⟩]
theorem d17_3:okD s17_3 g17_3:=⟨by kernel_rfl,by kernel_rfl,by kernel_rfl,by kernel_rfl,trivial⟩
noncomputable def s17_4:List MStep:=[zb 59 2 3,zc 60 59,za 61 0]
noncomputable def g17_4:List MStage:=[⟨ze 62 32 61,[⟨60,none,(.ld1 (.tmp 59))⟩],[⟨(some 63),none,(.bsl 88 [(.string ⟨⟨[]⟩⟩),(.string ⟨⟨[]⟩⟩),(.slice none 0 0),(.slice none 0 0),(.slice none 0 0),(.int .i64 0)] 1 [(0,6,(.tmp 62))])⟩]⟩,⟨zj 64 88 6 112 60 63,[],[zb 65 2 3]⟩,⟨zr 65 64,[],[]⟩]
theorem d17_4:okD s17_4 g17_4:=⟨by kernel_rfl,by kernel_rfl,by kernel_rfl,by kernel_rfl,trivial⟩
noncomputable def l17_5:MCode:=.seq (g0 [za 5 0,ze 6 28 5] (g1 6 0)) (.block 1 (.seq (.block 2 (.loop l17_0)) (.seq (.seq (.dregion s17_1 g17_1) (g2 26 (.exit 0) (.skip))) (.seq (.block 4 (g0 [za 37 0,⟨(some 38),none,(.call 29 [(.tmp 37),(.const (.string ⟨⟨[100,97,116,97]⟩⟩))])⟩,za 36 38] (g2 36 (.dregion s17_2 g17_2) (g0 [za 47 0,⟨(some 48),none,(.call 29 [(.tmp 47),(.const (.string ⟨⟨[99,108,97,115,115]⟩⟩))])⟩,za 46 48] (g2 46 (.dregion s17_3 g17_3) (g0 [za 57 0,⟨(some 58),none,(.call 29 [(.tmp 57),(.const (.string ⟨⟨[105,110,115,116,97,110,99,101]⟩⟩))])⟩,za 56 58] (g2 56 (.dregion s17_4 g17_4) (.region [za 28 0,za 29 4,zb 30 3 3,zc 31 30,zw 32 33 28 29 31,za 27 32,yh 33 27 0,yh 34 27 1,za 4 33,zb 35 3 3,zr 35 34])))))))) (.region [za 66 0,⟨(some 67),none,(.call 34 [(.tmp 66),(.const (.bool false))])⟩])))))
noncomputable def c17:MCode:=g0 [yu 2 31 0 0 0 0 0 0 0 0] (g0 [yu 3 31 0 0 0 0 0 0 0 0] (g0 [zl 4 0 0] (.seq (.block 0 (.loop l17_5)) (g0 [za 68 0,za 69 4,zb 70 3 3,zc 71 70,zw 72 35 68 69 71,zb 73 3 3,zr 73 72] (g0 [zq 74 4 3,zv 4 2 74] (.ret))))))
theorem t17:T 17=some ⟨c17.toC,[.ldN 4 2]⟩:=by kernel_rfl
noncomputable def s18_0:List MStep:=[za 3 0]
noncomputable def g18_0:List MStage:=[⟨ze 4 28 3,[],[za 5 4,zf 6 5 0,yf 7 5 6,zz 8 5 1 7,zn 9 5 8,zf 10 5 0,yf 11 5 10,zz 12 5 0 11,zn 13 5 12,yt 14 5 13,xd 15 5 9 14,zk 16 5 15]⟩]
theorem d18_0:okD s18_0 g18_0:=⟨by kernel_rfl,by kernel_rfl,trivial⟩
noncomputable def c18:MCode:=g0 [ym 2 33 0 0] (.seq (.seq (.dregion s18_0 g18_0) (g2 16 (.region [za 17 0,ze 18 36 17]) (.skip))) (g0 [za 19 0,zi 20 19,zb 21 3 20,zq 22 3 21,zv 3 2 22] (.ret)))
theorem t18:T 18=some ⟨c18.toC,[.ldN 3 2]⟩:=by kernel_rfl
noncomputable def s19_0:List MStep:=[za 6 0,zi 7 6,zb 8 1 7,zc 9 8,za 10 0,zi 11 10,zb 12 0 11,zc 13 12,zs 14 13,zp 15 9 14]
noncomputable def g19_0:List MStage:=[]
theorem d19_0:okD s19_0 g19_0:=⟨by kernel_rfl,trivial⟩
noncomputable def s19_1:List MStep:=[za 16 0,zi 17 16,zb 18 0 17,zc 19 18,za 20 0,zi 21 20,zb 22 1 21,zc 23 22,zh 24 1 19 23,zc 25 24]
noncomputable def g19_1:List MStage:=[⟨za 5 25,[],[]⟩]
theorem d19_1:okD s19_1 g19_1:=⟨by kernel_rfl,by kernel_rfl,trivial⟩
noncomputable def c19:MCode:=g0 [zg 4 0] (g0 [zg 5 0] (.seq (.seq (.dregion s19_0 g19_0) (g2 15 (.dregion s19_1 g19_1) (.skip))) (g0 [za 26 0,za 27 0,zi 28 27,zb 29 1 28,zc 30 29,zd 31 30 1,zi 32 26,zb 33 1 32,zr 33 31] (g0 [za 34 5,za 35 1,zt 36 37 34 35,za 4 36] (.ret)))))
theorem t19:T 19=some ⟨c19.toC,[.tmp 4]⟩:=by kernel_rfl
noncomputable def c20:MCode:=g0 [⟨(some 4),none,(.p (.mov (.const (.string ⟨⟨[]⟩⟩))))⟩] (g0 [za 5 1,za 6 0,za 7 1,zs 8 7,zt 9 19 6 8,zh 10 1 5 9,zc 11 10,za 4 11] (.ret))
theorem t20:T 20=some ⟨c20.toC,[.tmp 4]⟩:=by kernel_rfl
noncomputable def tl21_0:MCode:=.seq (g0 [za 18 7] (.block 0 (.seq (g0 [zo 20 18 0,za 19 20] (g2 19 (.skip) (g0 [zo 21 18 1,za 19 21] (g2 19 (.skip) (g0 [zo 22 18 2,za 19 22] (g2 19 (.skip) (.region [zo 23 18 3,za 19 23]))))))) (g2 19 (.seq (g0 [za 24 1,zs 25 24,yg 26 25 0] (g2 26 (g0 [za 27 0,za 28 1,zt 29 20 27 28,za 6 29] (.ret)) (.skip))) (g0 [⟨(some 6),none,(.p (.mov (.const (.string ⟨⟨[49]⟩⟩))))⟩] (.ret))) (g0 [zo 31 18 4,za 30 31] (g2 30 (g0 [za 32 0,⟨(some 33),none,(.bsl 9 [(.string ⟨⟨[]⟩⟩)] 5 [(0,1,(.const (.string ⟨⟨[48]⟩⟩))),(1,1,(.const (.string ⟨⟨[49]⟩⟩))),(2,1,(.const (.string ⟨⟨[50]⟩⟩))),(3,1,(.const (.string ⟨⟨[55]⟩⟩))),(4,1,(.const (.string ⟨⟨[51,48]⟩⟩)))])⟩,zt 34 20 32 33,za 6 34] (.ret)) (g0 [zo 36 18 5,za 35 36] (g2 35 (g0 [za 37 0,⟨(some 38),none,(.bsl 9 [(.string ⟨⟨[]⟩⟩)] 7 [(0,1,(.const (.string ⟨⟨[84,114,117,101]⟩⟩))),(1,1,(.const (.string ⟨⟨[70,97,108,115,101]⟩⟩))),(2,1,(.const (.string ⟨⟨[78,105,108]⟩⟩))),(3,1,(.const (.string ⟨⟨[39,120,39]⟩⟩))),(4,1,(.const (.string ⟨⟨[85,110,105,116]⟩⟩))),(5,1,(.const (.string ⟨⟨[76,84]⟩⟩))),(6,1,(.const (.string ⟨⟨[78,111,116,104,105,110,103]⟩⟩)))])⟩,zt 39 20 37 38,za 6 39] (.ret)) (g0 [zo 41 18 6,za 40 41] (g2 40 (g0 [za 42 0,⟨(some 43),none,(.bsl 9 [(.string ⟨⟨[]⟩⟩)] 15 [(0,1,(.const (.string ⟨⟨[115,104,111,119]⟩⟩))),(1,1,(.const (.string ⟨⟨[110,111,116]⟩⟩))),(2,1,(.const (.string ⟨⟨[105,100]⟩⟩))),(3,1,(.const (.string ⟨⟨[97,112,112,101,110,100]⟩⟩))),(4,1,(.const (.string ⟨⟨[109,97,112]⟩⟩))),(5,1,(.const (.string ⟨⟨[115,117,109]⟩⟩))),(6,1,(.const (.string ⟨⟨[40,61,61,41]⟩⟩))),(7,1,(.const (.string ⟨⟨[99,111,109,112,97,114,101]⟩⟩))),(8,1,(.const (.string ⟨⟨[40,43,41]⟩⟩))),(9,1,(.const (.string ⟨⟨[67,111,110,115]⟩⟩))),(10,1,(.const (.string ⟨⟨[74,117,115,116]⟩⟩))),(11,1,(.const (.string ⟨⟨[101,108,101,109]⟩⟩))),(12,1,(.const (.string ⟨⟨[102,111,108,100,114]⟩⟩))),(13,1,(.const (.string ⟨⟨[102,105,108,116,101,114]⟩⟩))),(14,1,(.const (.string ⟨⟨[80,97,105,114]⟩⟩)))])⟩,zt 44 20 42 43,za 6 44] (.ret)) (g0 [zo 46 18 7,za 45 46] (g2 45 (g0 [za 47 0,za 48 1,ze 49 38 48,zt 50 20 47 49,za 6 50] (.ret)) (.seq (g0 [zo 52 18 8,za 51 52] (g2 51 (.skip) (g0 [zo 53 18 9,za 51 53] (g2 51 (.skip) (g0 [zo 54 18 10,za 51 54] (g2 51 (.skip) (.region [zo 55 18 11,za 51 55]))))))) (g2 51 (g0 [za 56 0,za 57 1,za 58 2,ya 59 58 1,zw 60 21 56 57 59,⟨(some 61),none,(.p (.bin .add (.const (.string ⟨⟨[40]⟩⟩)) (.tmp 60)))⟩,⟨(some 62),none,(.p (.bin .add (.tmp 61) (.const (.string ⟨⟨[32]⟩⟩))))⟩,za 63 0,za 64 1,za 65 2,ya 66 65 1,zw 67 21 63 64 66,zy 68 62 67,⟨(some 69),none,(.p (.bin .add (.tmp 68) (.const (.string ⟨⟨[41]⟩⟩))))⟩,za 6 69] (.ret)) (.seq (g0 [zo 71 18 12,za 70 71] (g2 70 (.skip) (.region [zo 72 18 13,za 70 72]))) (g2 70 (g0 [za 73 0,⟨(some 74),none,(.bsl 9 [(.string ⟨⟨[]⟩⟩)] 4 [(0,1,(.const (.string ⟨⟨[120]⟩⟩))),(1,1,(.const (.string ⟨⟨[121]⟩⟩))),(2,1,(.const (.string ⟨⟨[122]⟩⟩))),(3,1,(.const (.string ⟨⟨[102]⟩⟩)))])⟩,zt 75 20 73 74,za 8 75] (g0 [za 76 8,⟨(some 77),none,(.p (.bin .add (.const (.string ⟨⟨[40,92]⟩⟩)) (.tmp 76)))⟩,⟨(some 78),none,(.p (.bin .add (.tmp 77) (.const (.string ⟨⟨[32,45,62,32]⟩⟩))))⟩,za 79 0,za 80 1,ze 81 39 80,za 82 8,⟨(some 83),none,(.bsl 9 [(.string ⟨⟨[]⟩⟩)] 1 [(0,1,(.tmp 82))])⟩,zj 84 9 1 16 81 83,za 85 2,ya 86 85 1,zw 87 21 79 84 86,zy 88 78 87,⟨(some 89),none,(.p (.bin .add (.tmp 88) (.const (.string ⟨⟨[41]⟩⟩))))⟩,za 6 89] (.ret))) (.seq (g0 [zo 91 18 14,za 90 91] (g2 90 (.skip) (.region [zo 92 18 15,za 90 92]))) (g2 90 (g0 [za 93 0,za 94 1,za 95 2,ya 96 95 1,zw 97 21 93 94 96,⟨(some 98),none,(.p (.bin .add (.const (.string ⟨⟨[40]⟩⟩)) (.tmp 97)))⟩,⟨(some 99),none,(.p (.bin .add (.tmp 98) (.const (.string ⟨⟨[32]⟩⟩))))⟩,za 100 0,⟨(some 101),none,(.bsl 9 [(.string ⟨⟨[]⟩⟩)] 9 [(0,1,(.const (.string ⟨⟨[43]⟩⟩))),(1,1,(.const (.string ⟨⟨[45]⟩⟩))),(2,1,(.const (.string ⟨⟨[42]⟩⟩))),(3,1,(.const (.string ⟨⟨[61,61]⟩⟩))),(4,1,(.const (.string ⟨⟨[47,61]⟩⟩))),(5,1,(.const (.string ⟨⟨[60]⟩⟩))),(6,1,(.const (.string ⟨⟨[60,61]⟩⟩))),(7,1,(.const (.string ⟨⟨[62]⟩⟩))),(8,1,(.const (.string ⟨⟨[62,61]⟩⟩)))])⟩,zt 102 20 100 101,zy 103 99 102,⟨(some 104),none,(.p (.bin .add (.tmp 103) (.const (.string ⟨⟨[32]⟩⟩))))⟩,za 105 0,za 106 1,za 107 2,ya 108 107 1,zw 109 21 105 106 108,zy 110 104 109,⟨(some 111),none,(.p (.bin .add (.tmp 110) (.const (.string ⟨⟨[41]⟩⟩))))⟩,za 6 111] (.ret)) (g0 [zo 113 18 16,za 112 113] (g2 112 (g0 [za 114 0,za 115 1,za 116 2,ya 117 116 1,zw 118 21 114 115 117,⟨(some 119),none,(.p (.bin .add (.const (.string ⟨⟨[40,105,102,32]⟩⟩)) (.tmp 118)))⟩,⟨(some 120),none,(.p (.bin .add (.tmp 119) (.const (.string ⟨⟨[32,116,104,101,110,32]⟩⟩))))⟩,za 121 0,za 122 1,za 123 2,ya 124 123 1,zw 125 21 121 122 124,zy 126 120 125,⟨(some 127),none,(.p (.bin .add (.tmp 126) (.const (.string ⟨⟨[32,101,108,115,101,32]⟩⟩))))⟩,za 128 0,za 129 1,za 130 2,ya 131 130 1,zw 132 21 128 129 131,zy 133 127 132,⟨(some 134),none,(.p (.bin .add (.tmp 133) (.const (.string ⟨⟨[41]⟩⟩))))⟩,za 6 134] (.ret)) (g0 [zo 136 18 17,za 135 136] (g2 135 (g0 [za 137 0,⟨(some 138),none,(.bsl 9 [(.string ⟨⟨[]⟩⟩)] 3 [(0,1,(.const (.string ⟨⟨[103]⟩⟩))),(1,1,(.const (.string ⟨⟨[104]⟩⟩))),(2,1,(.const (.string ⟨⟨[120]⟩⟩)))])⟩,zt 139 20 137 138,za 9 139] (g0 [za 140 1,ze 141 39 140,za 142 9,⟨(some 143),none,(.bsl 9 [(.string ⟨⟨[]⟩⟩)] 1 [(0,1,(.tmp 142))])⟩,zj 144 9 1 16 141 143,za 10 144] (g0 [za 145 9,⟨(some 146),none,(.p (.bin .add (.const (.string ⟨⟨[40,108,101,116,32,123,32]⟩⟩)) (.tmp 145)))⟩,⟨(some 147),none,(.p (.bin .add (.tmp 146) (.const (.string ⟨⟨[32,61,32]⟩⟩))))⟩,za 148 0,za 149 10,za 150 2,ya 151 150 1,zw 152 21 148 149 151,zy 153 147 152,⟨(some 154),none,(.p (.bin .add (.tmp 153) (.const (.string ⟨⟨[32,125,32,105,110,32]⟩⟩))))⟩,za 155 0,za 156 10,za 157 2,ya 158 157 1,zw 159 21 155 156 158,zy 160 154 159,⟨(some 161),none,(.p (.bin .add (.tmp 160) (.const (.string ⟨⟨[41]⟩⟩))))⟩,za 6 161] (.ret)))) (g0 [zo 163 18 18,za 162 163] (g2 162 (g0 [za 164 1,ze 165 39 164,⟨(some 166),none,(.bsl 9 [(.string ⟨⟨[]⟩⟩)] 2 [(0,1,(.const (.string ⟨⟨[104]⟩⟩))),(1,1,(.const (.string ⟨⟨[116]⟩⟩)))])⟩,zj 167 9 1 16 165 166,za 11 167] (g0 [za 168 0,za 169 1,za 170 2,ya 171 170 1,zw 172 21 168 169 171,⟨(some 173),none,(.p (.bin .add (.const (.string ⟨⟨[40,99,97,115,101,32]⟩⟩)) (.tmp 172)))⟩,⟨(some 174),none,(.p (.bin .add (.tmp 173) (.const (.string ⟨⟨[32,111,102,32,123,32,78,105,108,32,45,62,32]⟩⟩))))⟩,za 175 0,za 176 1,za 177 2,ya 178 177 1,zw 179 21 175 176 178,zy 180 174 179,⟨(some 181),none,(.p (.bin .add (.tmp 180) (.const (.string ⟨⟨[59,32,67,111,110,115,32,104,32,116,32,45,62,32]⟩⟩))))⟩,za 182 0,za 183 11,za 184 2,ya 185 184 1,zw 186 21 182 183 185,zy 187 181 186,⟨(some 188),none,(.p (.bin .add (.tmp 187) (.const (.string ⟨⟨[32,125,41]⟩⟩))))⟩,za 6 188] (.ret))) (.skip))))))))))))))))))))))))) (g0 [za 189 0,za 190 1,za 191 2,ya 192 191 1,zw 193 21 189 190 192,⟨(some 194),none,(.p (.bin .add (.const (.string ⟨⟨[40,99,97,115,101,32]⟩⟩)) (.tmp 193)))⟩,⟨(some 195),none,(.p (.bin .add (.tmp 194) (.const (.string ⟨⟨[32,111,102,32,123,32,84,114,117,101,32,45,62,32]⟩⟩))))⟩,za 196 0,za 197 1,za 198 2,ya 199 198 1,zw 200 21 196 197 199,zy 201 195 200,⟨(some 202),none,(.p (.bin .add (.tmp 201) (.const (.string ⟨⟨[59,32,95,32,45,62,32]⟩⟩))))⟩,za 203 0,za 204 1,za 205 2,ya 206 205 1,zw 207 21 203 204 206,zy 208 202 207,⟨(some 209),none,(.p (.bin .add (.tmp 208) (.const (.string ⟨⟨[32,125,41]⟩⟩))))⟩,za 6 209] (.ret))
noncomputable def c21:MCode:=g0 [⟨(some 6),none,(.p (.mov (.const (.string ⟨⟨[]⟩⟩))))⟩] (g0 [za 12 0,zm 13 19 12 20,za 7 13] (.seq (g0 [za 14 2,yw 15 14 1] (g2 15 (.region [za 16 7,⟨(some 17),none,(.p (.bin .rem (.tmp 16) (.const (.int .i64 8))))⟩,za 7 17]) (.skip))) tl21_0))
theorem t21:T 21=some ⟨c21.toC,[.tmp 6]⟩:=by kernel_rfl
noncomputable def c22:MCode:=g0 [xl 1 65 0,zl 2 0 0] (g0 [⟨(some 4),none,.mkmap⟩,⟨(some 5),none,.mkmap⟩,⟨(some 6),none,(.p (.build [(.map none),(.map none),(.slice none 0 0)] [(0,1,(.tmp 4)),(1,1,(.tmp 5))]))⟩,xq 7 100 6,za 3 7] (g0 [za 8 3,zq 9 7 1,zt 10 40 8 9] (g0 [za 11 3,zi 12 11,zb 13 2 12,zc 14 13,za 2 14] (.ret))))
theorem t22:T 22=some ⟨c22.toC,[.tmp 2]⟩:=by kernel_rfl
noncomputable def c23:MCode:=g0 [yb 4] (g0 [za 5 0,za 6 1,zt 7 41 5 6,yp 8 7 0,za 4 8] (.ret))
theorem t23:T 23=some ⟨c23.toC,[.tmp 4]⟩:=by kernel_rfl
noncomputable def c24:MCode:=g0 [xl 1 65 0,zl 2 0 0] (g0 [zq 3 7 1,⟨(some 4),none,(.call 42 [(.const (.slice none 0 0)),(.const (.slice none 0 0)),(.tmp 3)])⟩,za 2 4] (.ret))
theorem t24:T 24=some ⟨c24.toC,[.tmp 2]⟩:=by kernel_rfl
noncomputable def c25:MCode:=g0 [yb 4] (g0 [za 5 0,za 6 1,zt 7 43 5 6,yp 8 7 0,za 4 8] (.ret))
theorem t25:T 25=some ⟨c25.toC,[.tmp 4]⟩:=by kernel_rfl
noncomputable def l26_0:MCode:=g0 [zp 34 33 32] (.seq (g1 34 2) (.seq (.block 3 (g0 [zh 35 1 31 33,zc 36 35,za 11 36] (.seq (g0 [za 37 11,yw 38 37 0,za 39 38,zu 40 39 11,zu 41 39 0,⟨(some 42),(some (39,false)),(.p (.bin .geq (.tmp 40) (.tmp 41)))⟩,zx 43 39 42,za 44 43,zu 45 44 7,zu 46 44 11,yk 47 44 1 45 46,yo 48 44 47,zx 49 44 48] (g2 49 (.exit 3) (.skip))) (g0 [za 50 7,za 51 11,zh 52 1 50 51,xi 52] (.region [za 53 8,za 54 11,yr 55 3 0 1 0 1 54,zj 56 3 1 8 53 55,za 8 56]))))) (.region [zd 57 33 1,za 33 57])))
noncomputable def l26_1:MCode:=.seq (g0 [za 16 8,zs 17 16,yg 18 17 0] (g1 18 0)) (.block 1 (g0 [za 19 8,yl 20 1 19 0,zc 21 20,za 9 21] (g0 [za 22 8,⟨(some 23),none,(.p (.slV 3 1 (.tmp 22) (some (.const (.int .i64 1))) none none))⟩,za 8 23] (.seq (g0 [za 24 9,za 25 1,zs 26 25,⟨(some 27),none,(.p (.bin .geq (.tmp 24) (.tmp 26)))⟩] (g2 27 (.exit 1) (.skip))) (g0 [za 28 1,za 29 9,zh 30 1 28 29,zc 31 30,zs 32 31,zg 33 0] (.block 2 (.loop l26_0)))))))
noncomputable def c26:MCode:=g0 [zl 6 0 0] (g0 [za 12 0,yz 13 4 1 12 12,za 7 13] (g0 [za 14 2,yr 15 3 0 1 0 1 14,za 8 15] (.seq (.skip) (.seq (.block 0 (.loop l26_1)) (g0 [za 58 7,za 6 58] (.ret))))))
theorem t26:T 26=some ⟨c26.toC,[.tmp 6]⟩:=by kernel_rfl
noncomputable def l27_0:MCode:=.seq (g0 [za 86 5,za 87 0,zs 88 87,zp 89 86 88,za 90 89,zf 91 90 0,zf 92 90 5,yc 93 90 1 91 92,zn 94 90 93,⟨(some 95),(some (90,true)),(.p (.bin .neq (.tmp 94) (.const (.int .u8 10))))⟩,zk 96 90 95] (g1 96 3)) (.block 4 (.region [za 97 5,zd 98 97 1,za 5 98]))
noncomputable def l27_1:MCode:=.seq (g0 [za 12 5,za 13 0,zs 14 13,zp 15 12 14] (g1 15 0)) (.block 1 (.block 2 (g0 [za 37 0,za 38 5,zh 39 1 37 38,zc 40 39,yv 41 40 32,za 42 41,zu 43 42 0,zu 44 42 5,yk 45 42 1 43 44,yo 46 42 45,yx 47 42 46 9,zx 48 42 47,za 49 48,zu 50 49 0,zu 51 49 5,yk 52 49 1 50 51,yo 53 49 52,yx 54 49 53 10,zx 55 49 54,za 56 55,zu 57 56 0,zu 58 56 5,yk 59 56 1 57 58,yo 60 56 59,yx 61 56 60 13,zx 62 56 61,za 36 62] (g2 36 (.region [za 63 5,zd 64 63 1,za 5 64]) (g0 [za 66 0,za 67 5,zh 68 1 66 67,zc 69 68,yv 70 69 45,za 71 70,zf 72 71 5,xg 73 71 72 1,zf 74 71 0,yt 75 71 74,xd 76 71 73 75,zk 77 71 76,za 78 77,zf 79 78 0,zf 80 78 5,xg 81 78 80 1,yc 82 78 1 79 81,zn 83 78 82,xh 84 78 83 45,zk 85 78 84,za 65 85] (g2 65 (.block 3 (.loop l27_0)) (g0 [za 17 0,za 18 5,⟨(some 19),none,(.p (.slV 5 1 (.tmp 17) (some (.tmp 18)) none none))⟩,ze 20 45 19,za 16 20,yh 21 16 0,yh 22 16 1,⟨(some 6),none,(.alloc 106 [(.int .i64 0),(.int .i64 0),(.string ⟨⟨[]⟩⟩),(.int .i64 0)])⟩,yd 4 6 21,za 7 22] (.seq (g0 [za 23 7,zo 24 23 0] (g2 24 (g0 [za 25 5,⟨(some 26),none,(.call 44 [(.const (.int .i64 101)),(.tmp 25)])⟩,zl 2 0 0,zv 3 3 26] (.ret)) (.skip))) (g0 [za 27 5,zb 28 1 6,zr 28 27] (g0 [za 29 4,zq 30 4 6,⟨(some 31),none,(.bsl 106 [(.int .i64 0),(.int .i64 0),(.string ⟨⟨[]⟩⟩),(.int .i64 0)] 1 [(0,4,(.tmp 30))])⟩,zj 32 106 4 40 29 31,za 4 32] (.region [za 33 5,za 34 7,zy 35 33 34,za 5 35])))))))))))
noncomputable def c27:MCode:=g0 [zl 2 0 0,ym 3 33 0 0] (.seq (g0 [za 8 0,zs 9 8,yg 10 9 20000] (g2 10 (g0 [⟨(some 11),none,(.call 44 [(.const (.int .i64 111)),(.const (.int .i64 20000))])⟩,zl 2 0 0,zv 3 3 11] (.ret)) (.skip))) (g0 [zl 4 0 0] (.seq (g0 [zg 5 0] (.block 0 (.loop l27_1))) (g0 [za 99 4,⟨(some 100),none,(.call 46 [])⟩,za 2 99,zv 3 3 100] (.ret)))))
theorem t27:T 27=some ⟨c27.toC,[.tmp 2,.ldN 3 3]⟩:=by kernel_rfl
noncomputable def c28:MCode:=g0 [yb 2] (g0 [za 3 0,zi 4 3,zb 5 3 4,zb 6 0 5,zc 7 6,zo 8 7 0,za 2 8] (.ret))
theorem t28:T 28=some ⟨c28.toC,[.tmp 2]⟩:=by kernel_rfl
noncomputable def c29:MCode:=g0 [yb 4] (g0 [za 5 0,za 6 0,zi 7 6,zb 8 1 7,zc 9 8,za 10 1,zw 11 47 5 9 10,za 4 11] (.ret))
theorem t29:T 29=some ⟨c29.toC,[.tmp 4]⟩:=by kernel_rfl
noncomputable def s30_0:List MStep:=[zb 15 1 3,zc 16 15,za 17 0]
noncomputable def g30_0:List MStage:=[⟨zm 18 50 17 1,[⟨16,none,(.ld1 (.tmp 15))⟩],[⟨(some 19),none,(.bsl 9 [(.string ⟨⟨[]⟩⟩)] 1 [(0,1,(.tmp 18))])⟩]⟩,⟨zj 20 9 1 16 16 19,[],[zb 21 1 3]⟩,⟨zr 21 20,[],[]⟩]
theorem d30_0:okD s30_0 g30_0:=⟨by kernel_rfl,by kernel_rfl,by kernel_rfl,by kernel_rfl,trivial⟩
noncomputable def l30_1:MCode:=.seq (g0 [za 13 0,zm 14 51 13 1] (g1 14 0)) (.block 1 (.dregion s30_0 g30_0))
noncomputable def s30_2:List MStep:=[zb 31 1 4,zc 32 31,za 33 0]
noncomputable def g30_2:List MStage:=[⟨ze 34 53 33,[⟨32,none,(.ld1 (.tmp 31))⟩],[⟨(some 35),none,(.bsl 59 [(.int .i64 0),(.string ⟨⟨[]⟩⟩),(.slice none 0 0)] 1 [(0,3,(.tmp 34))])⟩]⟩,⟨zj 36 59 3 48 32 35,[],[zb 37 1 4]⟩,⟨zr 37 36,[],[]⟩]
theorem d30_2:okD s30_2 g30_2:=⟨by kernel_rfl,by kernel_rfl,by kernel_rfl,by kernel_rfl,trivial⟩
noncomputable def l30_3:MCode:=.seq (g0 [za 29 0,ze 30 52 29] (g1 30 4)) (.block 5 (.dregion s30_2 g30_2))
noncomputable def l30_4:MCode:=.seq (g0 [za 24 0,ze 25 28 24] (g1 25 2)) (.block 3 (g0 [za 26 0,zm 27 50 26 2,⟨(some 28),none,(.p (.build [(.string ⟨⟨[]⟩⟩),(.slice none 0 0)] [(0,1,(.tmp 27))]))⟩,⟨(some 4),none,(.alloc 115 [(.string ⟨⟨[]⟩⟩),(.slice none 0 0)])⟩,yd 2 4 28] (.seq (.block 4 (.loop l30_3)) (g0 [zb 38 2 3,zc 39 38,zq 40 2 4,⟨(some 41),none,(.bsl 115 [(.string ⟨⟨[]⟩⟩),(.slice none 0 0)] 1 [(0,2,(.tmp 40))])⟩,zj 42 115 2 40 39 41,zb 43 2 3,zr 43 42] (.seq (g0 [za 44 0,⟨(some 45),none,(.call 29 [(.tmp 44),(.const (.string ⟨⟨[124]⟩⟩))])⟩,ye 46 45] (g2 46 (.exit 2) (.skip))) (.region [za 47 0,za 48 0,zi 49 48,zb 50 1 49,zc 51 50,zd 52 51 1,zi 53 47,zb 54 1 53,zr 54 52]))))))
noncomputable def s30_5:List MStep:=[zb 94 3 3,zc 95 94,za 96 0]
noncomputable def g30_5:List MStage:=[⟨zm 97 50 96 2,[⟨95,none,(.ld1 (.tmp 94))⟩],[⟨(some 98),none,(.bsl 9 [(.string ⟨⟨[]⟩⟩)] 1 [(0,1,(.tmp 97))])⟩]⟩,⟨zj 99 9 1 16 95 98,[],[zb 100 3 3]⟩,⟨zr 100 99,[],[]⟩]
theorem d30_5:okD s30_5 g30_5:=⟨by kernel_rfl,by kernel_rfl,by kernel_rfl,by kernel_rfl,trivial⟩
noncomputable def s30_6:List MStep:=[zb 111 3 3,zc 112 111,za 113 0]
noncomputable def g30_6:List MStage:=[⟨zm 114 50 113 2,[⟨112,none,(.ld1 (.tmp 111))⟩],[⟨(some 115),none,(.bsl 9 [(.string ⟨⟨[]⟩⟩)] 1 [(0,1,(.tmp 114))])⟩]⟩,⟨zj 116 9 1 16 112 115,[],[zb 117 3 3]⟩,⟨zr 117 116,[],[]⟩]
theorem d30_6:okD s30_6 g30_6:=⟨by kernel_rfl,by kernel_rfl,by kernel_rfl,by kernel_rfl,trivial⟩
noncomputable def l30_7:MCode:=.seq (g0 [za 101 0,⟨(some 102),none,(.call 29 [(.tmp 101),(.const (.string ⟨⟨[44]⟩⟩))])⟩] (g1 102 6)) (.block 7 (g0 [za 103 0,za 104 0,zi 105 104,zb 106 1 105,zc 107 106,zd 108 107 1,zi 109 103,zb 110 1 109,zr 110 108] (.dregion s30_6 g30_6)))
noncomputable def c30:MCode:=g0 [⟨(some 2),none,(.alloc 81 [(.string ⟨⟨[]⟩⟩),(.slice none 0 0),(.slice none 0 0),(.slice none 0 0),(.int .i64 0)])⟩] (g0 [za 5 0,ze 6 48 5,⟨(some 7),none,(.p (.build [(.string ⟨⟨[]⟩⟩),(.slice none 0 0),(.slice none 0 0),(.slice none 0 0),(.int .i64 0)] [(4,1,(.tmp 6))]))⟩,⟨(some 3),none,(.alloc 81 [(.string ⟨⟨[]⟩⟩),(.slice none 0 0),(.slice none 0 0),(.slice none 0 0),(.int .i64 0)])⟩,yd 5 3 7] (g0 [za 8 0,⟨(some 9),none,(.call 49 [(.tmp 8),(.const (.string ⟨⟨[100,97,116,97]⟩⟩))])⟩] (g0 [za 10 0,zm 11 50 10 2,zb 12 0 3,zr 12 11] (.seq (.block 0 (.loop l30_1)) (g0 [za 22 0,⟨(some 23),none,(.call 49 [(.tmp 22),(.const (.string ⟨⟨[61]⟩⟩))])⟩] (.seq (.block 2 (.loop l30_4)) (.seq (g0 [za 55 0,⟨(some 56),none,(.call 29 [(.tmp 55),(.const (.string ⟨⟨[100,101,114,105,118,105,110,103]⟩⟩))])⟩,ye 57 56] (g2 57 (g0 [zq 58 5 3,zv 5 2 58] (.ret)) (.skip))) (g0 [za 59 0,za 60 0,zi 61 60,zb 62 1 61,zc 63 62,zd 64 63 1,zi 65 59,zb 66 1 65,zr 66 64] (.seq (g0 [za 67 0,⟨(some 68),none,(.call 29 [(.tmp 67),(.const (.string ⟨⟨[40]⟩⟩))])⟩,ye 69 68] (g2 69 (g0 [za 70 0,zm 71 50 70 2,⟨(some 72),none,(.bsl 9 [(.string ⟨⟨[]⟩⟩)] 1 [(0,1,(.tmp 71))])⟩,zb 73 3 3,zr 73 72] (g0 [zq 74 5 3,zv 5 2 74] (.ret))) (.skip))) (g0 [za 75 0,za 76 0,zi 77 76,zb 78 1 77,zc 79 78,zd 80 79 1,zi 81 75,zb 82 1 81,zr 82 80] (.seq (g0 [za 83 0,⟨(some 84),none,(.call 29 [(.tmp 83),(.const (.string ⟨⟨[41]⟩⟩))])⟩] (g2 84 (g0 [za 85 0,za 86 0,zi 87 86,zb 88 1 87,zc 89 88,zd 90 89 1,zi 91 85,zb 92 1 91,zr 92 90] (g0 [zq 93 5 3,zv 5 2 93] (.ret))) (.skip))) (.seq (.dregion s30_5 g30_5) (.seq (.block 6 (.loop l30_7)) (g0 [za 118 0,⟨(some 119),none,(.call 49 [(.tmp 118),(.const (.string ⟨⟨[41]⟩⟩))])⟩] (g0 [zq 120 5 3,zv 5 2 120] (.ret))))))))))))))))
theorem t30:T 30=some ⟨c30.toC,[.ldN 5 2]⟩:=by kernel_rfl
noncomputable def s31_0:List MStep:=[za 30 4,za 31 6,zh 32 4 30 31,zb 33 1 32,zb 34 1 33,zc 35 34,zb 36 1 3,zc 37 36,⟨(some 38),none,(.p (.bin .neq (.tmp 35) (.tmp 37)))⟩]
noncomputable def g31_0:List MStage:=[]
theorem d31_0:okD s31_0 g31_0:=⟨by kernel_rfl,trivial⟩
noncomputable def s31_1:List MStep:=[zb 42 2 3,zc 43 42,za 44 4,za 45 6,zh 46 4 44 45,zb 47 0 46,zc 48 47,⟨(some 49),none,(.bsl 9 [(.string ⟨⟨[]⟩⟩)] 1 [(0,1,(.tmp 48))])⟩]
noncomputable def g31_1:List MStage:=[⟨zj 50 9 1 16 43 49,[],[zb 51 2 3]⟩,⟨zr 51 50,[],[]⟩]
theorem d31_1:okD s31_1 g31_1:=⟨by kernel_rfl,by kernel_rfl,by kernel_rfl,trivial⟩
noncomputable def l31_2:MCode:=.seq (g0 [za 24 6,za 25 4,zs 26 25,zp 27 24 26] (g1 27 0)) (.seq (.block 1 (.seq (.seq (.dregion s31_0 g31_0) (g2 38 (.region [za 39 0,za 40 5,xa 41 55 39 102 40]) (.skip))) (.dregion s31_1 g31_1))) (.region [za 28 6,zd 29 28 1,za 6 29]))
noncomputable def l31_3:MCode:=.seq (g0 [za 58 0,⟨(some 59),none,(.call 29 [(.tmp 58),(.const (.string ⟨⟨[59]⟩⟩))])⟩] (g1 59 4)) (.block 5 (.region [za 60 0,za 61 0,zi 62 61,zb 63 1 62,zc 64 63,zd 65 64 1,zi 66 60,zb 67 1 66,zr 67 65]))
noncomputable def s31_4:List MStep:=[zb 91 3 3,zc 92 91,za 93 7,yl 94 7 93 0,zb 95 0 94,zc 96 95,za 97 7,yl 98 7 97 0,zb 99 2 98,zb 100 2 99,zq 101 3 100,⟨(some 102),none,(.p (.build [(.string ⟨⟨[]⟩⟩),(.int .i64 0),(.string ⟨⟨[]⟩⟩),(.slice none 0 0)] [(0,1,(.tmp 96)),(1,3,(.tmp 101))]))⟩,⟨(some 103),none,(.bsl 124 [(.string ⟨⟨[]⟩⟩),(.int .i64 0),(.string ⟨⟨[]⟩⟩),(.slice none 0 0)] 1 [(0,4,(.tmp 102))])⟩]
noncomputable def g31_4:List MStage:=[⟨zj 104 124 4 64 92 103,[],[zb 105 3 3]⟩,⟨zr 105 104,[],[]⟩]
theorem d31_4:okD s31_4 g31_4:=⟨by kernel_rfl,by kernel_rfl,by kernel_rfl,trivial⟩
noncomputable def l31_5:MCode:=.seq (g0 [za 56 0,ze 57 28 56] (g1 57 2)) (.block 3 (.seq (.block 4 (.loop l31_3)) (.seq (g0 [za 68 0,⟨(some 69),none,(.call 29 [(.tmp 68),(.const (.string ⟨⟨[125]⟩⟩))])⟩] (g2 69 (.exit 2) (.skip))) (g0 [za 71 0,⟨(some 72),none,(.call 33 [(.tmp 71),(.const (.slice none 0 0)),(.const (.slice none 0 0))])⟩,za 70 72,yh 73 70 0,yh 74 70 1,za 7 73,za 8 74] (.seq (g0 [za 75 7,zs 76 75,yg 77 76 0] (g2 77 (.seq (g0 [za 78 7,yl 79 7 78 0,zb 80 2 79,zb 81 1 80,zc 82 81,zs 83 82,yg 84 83 0] (g2 84 (.region [za 85 0,za 86 7,yl 87 7 86 0,zb 88 1 87,zc 89 88,xa 90 55 85 102 89]) (.skip))) (.dregion s31_4 g31_4)) (.skip))) (g0 [zb 106 4 3,zc 107 106,za 108 8,zj 109 67 15 240 107 108,zb 110 4 3,zr 110 109] (.region [za 111 0,xf 112 34 111])))))))
noncomputable def c31:MCode:=g0 [⟨(some 2),none,(.alloc 85 [(.string ⟨⟨[]⟩⟩),(.string ⟨⟨[]⟩⟩),(.slice none 0 0),(.slice none 0 0),(.slice none 0 0),(.int .i64 0)])⟩] (g0 [za 9 0,ze 10 48 9,⟨(some 11),none,(.p (.build [(.string ⟨⟨[]⟩⟩),(.string ⟨⟨[]⟩⟩),(.slice none 0 0),(.slice none 0 0),(.slice none 0 0),(.int .i64 0)] [(5,1,(.tmp 10))]))⟩,⟨(some 3),none,(.alloc 85 [(.string ⟨⟨[]⟩⟩),(.string ⟨⟨[]⟩⟩),(.slice none 0 0),(.slice none 0 0),(.slice none 0 0),(.int .i64 0)])⟩,yd 6 3 11] (g0 [za 12 0,⟨(some 13),none,(.call 49 [(.tmp 12),(.const (.string ⟨⟨[99,108,97,115,115]⟩⟩))])⟩] (g0 [za 14 0,xf 15 54 14,za 4 15] (g0 [za 16 0,zm 17 50 16 2,zb 18 0 3,zr 18 17] (g0 [za 19 0,ze 20 48 19,za 5 20] (g0 [za 21 0,zm 22 50 21 1,zb 23 1 3,zr 23 22] (.seq (g0 [zg 6 0] (.block 0 (.loop l31_2))) (g0 [za 52 0,⟨(some 53),none,(.call 49 [(.tmp 52),(.const (.string ⟨⟨[119,104,101,114,101]⟩⟩))])⟩] (g0 [za 54 0,⟨(some 55),none,(.call 49 [(.tmp 54),(.const (.string ⟨⟨[123]⟩⟩))])⟩] (.seq (.block 2 (.loop l31_5)) (g0 [za 113 0,⟨(some 114),none,(.call 49 [(.tmp 113),(.const (.string ⟨⟨[125]⟩⟩))])⟩] (g0 [zq 115 6 3,zv 6 2 115] (.ret)))))))))))))
theorem t31:T 31=some ⟨c31.toC,[.ldN 6 2]⟩:=by kernel_rfl
noncomputable def s32_0:List MStep:=[zb 30 2 3,zc 31 30,za 32 0]
noncomputable def g32_0:List MStage:=[⟨zm 33 50 32 1,[⟨31,none,(.ld1 (.tmp 30))⟩],[⟨(some 34),none,(.bsl 9 [(.string ⟨⟨[]⟩⟩)] 1 [(0,1,(.tmp 33))])⟩]⟩,⟨zj 35 9 1 16 31 34,[],[zb 36 2 3]⟩,⟨zr 36 35,[],[]⟩]
theorem d32_0:okD s32_0 g32_0:=⟨by kernel_rfl,by kernel_rfl,by kernel_rfl,by kernel_rfl,trivial⟩
noncomputable def l32_1:MCode:=.seq (g0 [za 28 0,zm 29 51 28 1] (g1 29 0)) (.block 1 (.dregion s32_0 g32_0))
noncomputable def c32:MCode:=g0 [⟨(some 2),none,(.alloc 88 [(.string ⟨⟨[]⟩⟩),(.string ⟨⟨[]⟩⟩),(.slice none 0 0),(.slice none 0 0),(.slice none 0 0),(.int .i64 0)])⟩] (g0 [za 4 0,ze 5 48 4,⟨(some 6),none,(.p (.build [(.string ⟨⟨[]⟩⟩),(.string ⟨⟨[]⟩⟩),(.slice none 0 0),(.slice none 0 0),(.slice none 0 0),(.int .i64 0)] [(5,1,(.tmp 5))]))⟩,⟨(some 3),none,(.alloc 88 [(.string ⟨⟨[]⟩⟩),(.string ⟨⟨[]⟩⟩),(.slice none 0 0),(.slice none 0 0),(.slice none 0 0),(.int .i64 0)])⟩,yd 6 3 6] (g0 [za 7 0,⟨(some 8),none,(.call 49 [(.tmp 7),(.const (.string ⟨⟨[105,110,115,116,97,110,99,101]⟩⟩))])⟩] (g0 [za 9 0,xf 10 54 9,zb 11 3 3,zr 11 10] (g0 [za 12 0,zm 13 50 12 2,zb 14 0 3,zr 14 13] (.seq (g0 [za 15 0,⟨(some 16),none,(.call 29 [(.tmp 15),(.const (.string ⟨⟨[40]⟩⟩))])⟩] (g2 16 (g0 [za 17 0,za 18 0,zi 19 18,zb 20 1 19,zc 21 20,zd 22 21 1,zi 23 17,zb 24 1 23,zr 24 22] (g0 [za 25 0,zm 26 50 25 2,zb 27 1 3,zr 27 26] (.seq (.block 0 (.loop l32_1)) (.region [za 37 0,⟨(some 38),none,(.call 49 [(.tmp 37),(.const (.string ⟨⟨[41]⟩⟩))])⟩])))) (.region [za 39 0,zm 40 50 39 2,zb 41 1 3,zr 41 40]))) (g0 [za 42 0,⟨(some 43),none,(.call 49 [(.tmp 42),(.const (.string ⟨⟨[119,104,101,114,101]⟩⟩))])⟩] (g0 [za 44 0,⟨(some 45),none,(.call 49 [(.tmp 44),(.const (.string ⟨⟨[123]⟩⟩))])⟩] (g0 [za 46 0,ze 47 56 46,zb 48 4 3,zr 48 47] (g0 [za 49 0,⟨(some 50),none,(.call 49 [(.tmp 49),(.const (.string ⟨⟨[125]⟩⟩))])⟩] (g0 [zq 51 6 3,zv 6 2 51] (.ret)))))))))))
theorem t32:T 32=some ⟨c32.toC,[.ldN 6 2]⟩:=by kernel_rfl
noncomputable def l33_0:MCode:=.seq (g0 [za 38 0,zm 39 51 38 1] (g1 39 0)) (.block 1 (.region [za 40 10,za 41 0,zm 42 50 41 1,⟨(some 43),none,(.bsl 9 [(.string ⟨⟨[]⟩⟩)] 1 [(0,1,(.tmp 42))])⟩,zj 44 9 1 16 40 43,za 10 44]))
noncomputable def s33_1:List MStep:=[za 49 1,⟨(some 50),none,(.oth (.a (.bsl 67 [(.string ⟨⟨[]⟩⟩),(.bool false),(.slice none 0 0),(.slice none 0 0),(.int .i64 0),(.string ⟨⟨[]⟩⟩),(.slice none 0 0),(.int .i64 0),(.int .i64 0),(.string ⟨⟨[]⟩⟩),(.int .i64 0),(.slice none 0 0),(.slice none 0 0),(.slice none 0 0),(.int .i64 0)] 0 [])))⟩,za 51 2,za 53 8,za 54 9,za 55 10,zq 56 7 11,za 57 9]
noncomputable def g33_1:List MStage:=[⟨zj 52 67 15 240 50 51,[⟨56,none,(.ldN 7 (.tmp 11))⟩],[]⟩,⟨zw 58 60 55 56 57,[],[⟨(some 59),none,(.p (.build [(.string ⟨⟨[]⟩⟩),(.bool false),(.slice none 0 0),(.slice none 0 0),(.int .i64 0),(.string ⟨⟨[]⟩⟩),(.slice none 0 0),(.int .i64 0),(.int .i64 0),(.string ⟨⟨[]⟩⟩),(.int .i64 0),(.slice none 0 0),(.slice none 0 0),(.slice none 0 0),(.int .i64 0)] [(0,1,(.tmp 53)),(14,1,(.tmp 54)),(7,7,(.tmp 58))]))⟩,⟨(some 60),none,(.bsl 67 [(.string ⟨⟨[]⟩⟩),(.bool false),(.slice none 0 0),(.slice none 0 0),(.int .i64 0),(.string ⟨⟨[]⟩⟩),(.slice none 0 0),(.int .i64 0),(.int .i64 0),(.string ⟨⟨[]⟩⟩),(.int .i64 0),(.slice none 0 0),(.slice none 0 0),(.slice none 0 0),(.int .i64 0)] 1 [(0,15,(.tmp 59))])⟩]⟩,⟨zj 61 67 15 240 52 60,[],[]⟩,⟨za 6 49,[],[]⟩,⟨za 7 61,[],[]⟩]
theorem d33_1:okD s33_1 g33_1:=⟨by kernel_rfl,by kernel_rfl,by kernel_rfl,by kernel_rfl,by kernel_rfl,by kernel_rfl,trivial⟩
noncomputable def c33:MCode:=g0 [zl 6 0 0,zl 7 0 0] (g0 [za 13 0,ze 14 57 13,za 12 14,yh 15 12 0,yh 16 12 1,za 8 15,za 9 16] (.seq (g0 [za 17 0,⟨(some 18),none,(.call 29 [(.tmp 17),(.const (.string ⟨⟨[58,58]⟩⟩))])⟩] (g2 18 (g0 [za 19 0,za 20 0,zi 21 20,zb 22 1 21,zc 23 22,zd 24 23 1,zi 25 19,zb 26 1 25,zr 26 24] (g0 [⟨(some 27),none,(.oth (.a (.bsl 122 [(.string ⟨⟨[]⟩⟩),(.int .i64 0),(.slice none 0 0),(.slice none 0 0),(.int .i64 0),(.string ⟨⟨[]⟩⟩),(.slice none 0 0)] 0 [])))⟩,za 28 1,zj 29 122 7 120 27 28,za 30 8,za 31 9,za 32 0,ze 33 58 32,⟨(some 34),none,(.p (.build [(.string ⟨⟨[]⟩⟩),(.int .i64 0),(.slice none 0 0),(.slice none 0 0),(.int .i64 0),(.string ⟨⟨[]⟩⟩),(.slice none 0 0)] [(0,1,(.tmp 30)),(1,1,(.tmp 31)),(2,5,(.tmp 33))]))⟩,⟨(some 35),none,(.bsl 122 [(.string ⟨⟨[]⟩⟩),(.int .i64 0),(.slice none 0 0),(.slice none 0 0),(.int .i64 0),(.string ⟨⟨[]⟩⟩),(.slice none 0 0)] 1 [(0,7,(.tmp 34))])⟩,zj 36 122 7 120 29 35,za 37 2,za 6 36,za 7 37] (.ret))) (.skip))) (g0 [zl 10 0 0] (.seq (.block 0 (.loop l33_0)) (g0 [za 45 0,⟨(some 46),none,(.call 49 [(.tmp 45),(.const (.string ⟨⟨[61]⟩⟩))])⟩] (g0 [za 47 0,ze 48 59 47,⟨some 11,none,(.ini false 65 [(.int .i64 0),(.int .i64 0),(.string ⟨⟨[]⟩⟩),(.int .i64 0),(.slice none 0 0),(.slice none 0 0),(.slice none 0 0)] (.tmp 48))⟩] (.seq (.dregion s33_1 g33_1) (.ret))))))))
theorem t33:T 33=some ⟨c33.toC,[.tmp 6,.tmp 7]⟩:=by kernel_rfl
noncomputable def s34_0:List MStep:=[za 4 0]
noncomputable def g34_0:List MStage:=[⟨ze 5 28 4,[],[ye 6 5,za 7 6,zu 8 7 0]⟩,⟨⟨(some 9),(some (7,false)),(.call 29 [(.tmp 8),(.const (.string ⟨⟨[59]⟩⟩))])⟩,[],[zx 10 7 9,za 11 10,zu 12 11 1,zu 13 11 12,zf 14 13 0]⟩,⟨⟨(some 15),(some (13,true)),(.call 29 [(.tmp 14),(.const (.string ⟨⟨[125]⟩⟩))])⟩,[],[xc 16 11 13 15,zx 17 11 16,za 18 17,zu 19 18 1,⟨(some 20),(some (18,false)),(.p (.un .not (.tmp 19)))⟩,zu 21 18 20,zf 22 21 0,yf 23 21 22,zz 24 21 1 23,zn 25 21 24,zf 26 21 0,yf 27 21 26,zz 28 21 0 27,zn 29 21 28,yt 30 21 29,⟨(some 31),(some (21,true)),(.p (.bin .geq (.tmp 25) (.tmp 30)))⟩,xc 32 18 21 31,zx 33 18 32]⟩]
theorem d34_0:okD s34_0 g34_0:=⟨by kernel_rfl,by kernel_rfl,by kernel_rfl,by kernel_rfl,trivial⟩
noncomputable def c34:MCode:=.seq (.seq (.dregion s34_0 g34_0) (g2 33 (.ret) (.skip))) (.region [za 34 0,ze 35 36 34])
theorem t34:T 34=some ⟨c34.toC,[]⟩:=by kernel_rfl
noncomputable def s35_0:List MStep:=[za 35 7,za 36 10,zh 37 15 35 36,zb 38 0 37,zc 39 38,za 40 1,za 41 8,zh 42 7 40 41,zb 43 0 42,zc 44 43,yn 45 39 44,za 46 45,zf 47 46 7,zf 48 46 10,yc 49 46 15 47 48,zz 50 46 1 49,zn 51 46 50,yq 52 46 51,zk 53 46 52]
noncomputable def g35_0:List MStage:=[]
theorem d35_0:okD s35_0 g35_0:=⟨by kernel_rfl,trivial⟩
noncomputable def l35_1:MCode:=.seq (g0 [za 25 10,za 26 7,zs 27 26,zp 28 25 27,za 29 28,zf 30 29 9,⟨(some 31),(some (29,true)),(.p (.bin .lss (.tmp 30) (.const (.int .i64 0))))⟩,zk 32 29 31] (g1 32 2)) (.seq (.block 3 (.seq (.dregion s35_0 g35_0) (g2 53 (.region [za 54 10,za 9 54]) (.skip)))) (.region [za 33 10,zd 34 33 1,za 10 34]))
noncomputable def s35_2:List MStep:=[za 60 1,za 61 11,zh 62 7 60 61,zb 63 0 62,zc 64 63,za 65 1,za 66 8,zh 67 7 65 66,zb 68 0 67,zc 69 68,yn 70 64 69]
noncomputable def g35_2:List MStage:=[]
theorem d35_2:okD s35_2 g35_2:=⟨by kernel_rfl,trivial⟩
noncomputable def l35_3:MCode:=.seq (g0 [za 55 11,za 56 8,zp 57 55 56] (g1 57 4)) (.seq (.block 5 (.seq (.dregion s35_2 g35_2) (g2 70 (.region [xe 9 1]) (.skip)))) (.region [za 58 11,zd 59 58 1,za 11 59]))
noncomputable def l35_4:MCode:=.seq (g0 [za 15 8,za 16 1,zs 17 16,zp 18 15 17,za 19 18,zf 20 19 0,xo 21 19 28 20,zk 22 19 21] (g1 22 0)) (.seq (.block 1 (g0 [xe 9 1] (.seq (g0 [zg 10 0] (.block 2 (.loop l35_1))) (.seq (g0 [zg 11 0] (.block 4 (.loop l35_3))) (.seq (g0 [za 71 9,yw 72 71 0] (g2 72 (g0 [za 73 0,za 74 1,za 75 8,zh 76 7 74 75,zb 77 1 76,zc 78 77,xa 79 55 73 102 78] (g0 [za 80 7,za 6 80] (.ret))) (.skip))) (g0 [za 81 7,za 82 9,zh 83 15 81 82,zb 84 1 83,xi 84] (.region [za 85 7,za 86 9,za 87 1,za 88 8,zh 89 7 87 88,zb 90 2 89,zq 91 5 90,zh 92 15 85 86,zb 93 2 92,yd 5 93 91]))))))) (.region [za 23 8,zd 24 23 1,za 8 24]))
noncomputable def c35:MCode:=g0 [zl 6 0 0] (g0 [⟨(some 12),none,(.oth (.a (.bsl 67 [(.string ⟨⟨[]⟩⟩),(.bool false),(.slice none 0 0),(.slice none 0 0),(.int .i64 0),(.string ⟨⟨[]⟩⟩),(.slice none 0 0),(.int .i64 0),(.int .i64 0),(.string ⟨⟨[]⟩⟩),(.int .i64 0),(.slice none 0 0),(.slice none 0 0),(.slice none 0 0),(.int .i64 0)] 0 [])))⟩,za 13 2,zj 14 67 15 240 12 13,za 7 14] (.seq (g0 [zg 8 0] (.block 0 (.loop l35_4))) (g0 [za 94 7,za 6 94] (.ret))))
theorem t35:T 35=some ⟨c35.toC,[.tmp 6]⟩:=by kernel_rfl
noncomputable def c36:MCode:=.region [za 2 0,za 3 0,ze 4 48 3,xa 5 55 2 102 4]
theorem t36:T 36=some ⟨c36.toC,[]⟩:=by kernel_rfl
noncomputable def c37:MCode:=g0 [zg 4 0] (g0 [za 6 0,za 7 1,xn 8 6 7,za 5 8] (.seq (g0 [za 9 5,yw 10 9 0] (g2 10 (.region [za 11 5,za 12 1,zy 13 11 12,za 5 13]) (.skip))) (g0 [za 14 5,za 4 14] (.ret))))
theorem t37:T 37=some ⟨c37.toC,[.tmp 4]⟩:=by kernel_rfl
noncomputable def c38:MCode:=g0 [zl 2 0 0] (.seq (g0 [za 3 0,zs 4 3,yg 5 4 0] (g2 5 (g0 [za 6 0,za 2 6] (.ret)) (.skip))) (g0 [⟨(some 7),none,(.bsl 9 [(.string ⟨⟨[]⟩⟩)] 3 [(0,1,(.const (.string ⟨⟨[105,100]⟩⟩))),(1,1,(.const (.string ⟨⟨[84,114,117,101]⟩⟩))),(2,1,(.const (.string ⟨⟨[48]⟩⟩)))])⟩,za 2 7] (.ret)))
theorem t38:T 38=some ⟨c38.toC,[.tmp 2]⟩:=by kernel_rfl
noncomputable def l39_0:MCode:=.seq (g0 [za 8 4,za 9 0,zs 10 9,zp 11 8 10] (g1 11 0)) (.seq (.block 1 (.region [za 14 3,za 15 0,za 16 4,zh 17 1 15 16,zc 18 17,⟨(some 19),none,(.bsl 9 [(.string ⟨⟨[]⟩⟩)] 1 [(0,1,(.tmp 18))])⟩,zj 20 9 1 16 14 19,za 3 20])) (.region [za 12 4,zd 13 12 1,za 4 13]))
noncomputable def c39:MCode:=g0 [zl 2 0 0] (g0 [za 5 0,zs 6 5,⟨(some 7),none,(.oth (.a (.mksl 9 16 [(.string ⟨⟨[]⟩⟩)] (.const (.int .i64 0)) (.tmp 6))))⟩,za 3 7] (.seq (g0 [zg 4 0] (.block 0 (.loop l39_0))) (g0 [za 21 3,za 2 21] (.ret))))
theorem t39:T 39=some ⟨c39.toC,[.tmp 2]⟩:=by kernel_rfl
noncomputable def s40_0:List MStep:=[zc 28 2,zi 29 28,zb 30 0 29,zc 31 30,zb 32 2 3,zc 33 32,⟨(some 34),none,(.p (.lookup true (.int .i64 0) false (.tmp 31) (.tmp 33)))⟩,zo 35 34 0,za 36 35,zn 37 36 2,yf 38 36 37,zz 39 36 1 38,zn 40 36 39,zz 41 36 2 3,zn 42 36 41,⟨(some 43),(some (36,true)),(.p (.lookup true (.bool false) false (.tmp 40) (.tmp 42)))⟩,yq 44 36 43,zk 45 36 44]
noncomputable def g40_0:List MStage:=[]
theorem d40_0:okD s40_0 g40_0:=⟨by kernel_rfl,trivial⟩
noncomputable def s40_1:List MStep:=[zc 46 2,zi 47 46,zb 48 1 47,zc 49 48,zb 50 2 3,zc 51 50]
noncomputable def g40_1:List MStage:=[⟨⟨none,none,(.mapupd true (.tmp 49) (.tmp 51) (.const (.bool true)))⟩,[],[]⟩]
theorem d40_1:okD s40_1 g40_1:=⟨by kernel_rfl,by kernel_rfl,trivial⟩
noncomputable def s40_2:List MStep:=[zc 52 2,zc 53 2,zi 54 53,zb 55 2 54,zc 56 55,zb 57 2 3,zc 58 57,⟨(some 59),none,(.bsl 9 [(.string ⟨⟨[]⟩⟩)] 1 [(0,1,(.tmp 58))])⟩]
noncomputable def g40_2:List MStage:=[⟨zj 60 9 1 16 56 59,[⟨52,none,(.ld1 (.tmp 2))⟩],[zi 61 52,zb 62 2 61]⟩,⟨zr 62 60,[],[]⟩]
theorem d40_2:okD s40_2 g40_2:=⟨by kernel_rfl,by kernel_rfl,by kernel_rfl,trivial⟩
noncomputable def s40_3:List MStep:=[zc 73 2,zb 74 6 3,zc 75 74,⟨(some 77),none,(.p (.mkfn 65 [] [(.tmp 3),(.tmp 2)]))⟩]
noncomputable def g40_3:List MStage:=[⟨ze 76 64 75,[⟨73,none,(.ld1 (.tmp 2))⟩],[]⟩,⟨zw 78 61 73 76 77,[],[]⟩]
theorem d40_3:okD s40_3 g40_3:=⟨by kernel_rfl,by kernel_rfl,by kernel_rfl,trivial⟩
noncomputable def s40_4:List MStep:=[zc 19 2,zb 20 1 5,zc 21 20,⟨(some 23),none,(.p (.mkfn 67 [] [(.tmp 2),(.tmp 5)]))⟩]
noncomputable def g40_4:List MStage:=[⟨ze 22 66 21,[⟨19,none,(.ld1 (.tmp 2))⟩],[]⟩,⟨zw 24 61 19 22 23,[],[]⟩]
theorem d40_4:okD s40_4 g40_4:=⟨by kernel_rfl,by kernel_rfl,by kernel_rfl,trivial⟩
noncomputable def l40_5:MCode:=g0 [zp 16 15 14] (.seq (g1 16 1) (.seq (.block 2 (g0 [zh 17 10 13 15,zq 18 10 17,⟨(some 5),none,(.alloc 135 [(.string ⟨⟨[]⟩⟩),(.slice none 0 0),(.int .i64 0),(.int .i64 0),(.string ⟨⟨[]⟩⟩),(.int .i64 0),(.slice none 0 0),(.slice none 0 0),(.slice none 0 0),(.int .i64 0)])⟩,yd 10 5 18] (.dregion s40_4 g40_4))) (.region [zd 25 15 1,za 15 25])))
noncomputable def c40:MCode:=g0 [xq 2 96 0,xq 3 65 1] (g0 [zb 6 0 3,zc 7 6] (.block 0 (g0 [zo 27 7 1,za 26 27] (g2 26 (.seq (.dregion s40_0 g40_0) (g2 45 (.seq (.dregion s40_1 g40_1) (.dregion s40_2 g40_2)) (.skip))) (g0 [zo 64 7 6,za 63 64] (g2 63 (.region [zc 65 2,zb 66 2 3,zc 67 66,⟨(some 68),none,(.bsl 9 [(.string ⟨⟨[]⟩⟩)] 1 [(0,1,(.tmp 67))])⟩,⟨(some 69),none,(.p (.mkfn 62 [] [(.tmp 2),(.tmp 3)]))⟩,zw 70 61 65 68 69]) (g0 [zo 72 7 7,za 71 72] (g2 71 (.dregion s40_3 g40_3) (g0 [zc 8 2,zb 9 4 3,zc 10 9,zt 11 63 8 10] (g0 [zb 12 5 3,zc 13 12,zs 14 13,zg 15 0] (.block 1 (.loop l40_5))))))))))))
theorem t40:T 40=some ⟨c40.toC,[]⟩:=by kernel_rfl
noncomputable def l41_0:MCode:=g0 [zp 9 8 7] (.seq (g1 9 0) (.seq (.block 1 (g0 [za 10 8,za 5 10] (g0 [za 11 1,za 12 0,za 13 5,zh 14 1 12 13,zc 15 14,yn 16 11 15] (g2 16 (g0 [za 17 5,za 4 17] (.ret)) (.skip))))) (.region [zd 18 8 1,za 8 18])))
noncomputable def c41:MCode:=g0 [zg 4 0] (.seq (g0 [za 6 0,zs 7 6,zg 8 0] (.block 0 (.loop l41_0))) (g0 [xe 4 1] (.ret)))
theorem t41:T 41=some ⟨c41.toC,[.tmp 4]⟩:=by kernel_rfl
noncomputable def s42_0:List MStep:=[za 28 0,zb 30 2 5,zc 31 30,⟨(some 32),none,(.bsl 9 [(.string ⟨⟨[]⟩⟩)] 1 [(0,1,(.tmp 31))])⟩]
noncomputable def g42_0:List MStage:=[⟨ze 29 39 28,[⟨31,none,(.ld1 (.tmp 30))⟩],[]⟩,⟨zj 33 9 1 16 29 32,[],[]⟩,⟨za 0 33,[],[]⟩]
theorem d42_0:okD s42_0 g42_0:=⟨by kernel_rfl,by kernel_rfl,by kernel_rfl,by kernel_rfl,trivial⟩
noncomputable def s42_1:List MStep:=[za 36 1,zb 38 2 5,zc 39 38,⟨(some 40),none,(.bsl 9 [(.string ⟨⟨[]⟩⟩)] 1 [(0,1,(.tmp 39))])⟩]
noncomputable def g42_1:List MStage:=[⟨ze 37 39 36,[⟨39,none,(.ld1 (.tmp 38))⟩],[]⟩,⟨zj 41 9 1 16 37 40,[],[]⟩,⟨za 1 41,[],[]⟩]
theorem d42_1:okD s42_1 g42_1:=⟨by kernel_rfl,by kernel_rfl,by kernel_rfl,by kernel_rfl,trivial⟩
noncomputable def l42_2:MCode:=.seq (g0 [za 46 7,zb 47 6 5,zc 48 47,zs 49 48,zp 50 46 49] (g1 50 1)) (.seq (.block 2 (.region [za 53 1,zb 54 6 5,zc 55 54,za 56 7,zh 57 15 55 56,zb 58 0 57,zc 59 58,⟨(some 60),none,(.bsl 9 [(.string ⟨⟨[]⟩⟩)] 1 [(0,1,(.tmp 59))])⟩,zj 61 9 1 16 53 60,za 1 61])) (.region [za 51 7,zd 52 51 1,za 7 52]))
noncomputable def l42_3:MCode:=.seq (g0 [za 62 8,zb 63 6 5,zc 64 63,zs 65 64,zp 66 62 65] (g1 66 3)) (.seq (.block 4 (.region [za 69 0,za 70 1,zb 71 6 5,zc 72 71,za 73 8,zh 74 15 72 73,zb 75 7 74,zq 76 7 75,zw 77 42 69 70 76,za 0 77])) (.region [za 67 8,zd 68 67 1,za 8 68]))
noncomputable def l42_4:MCode:=.seq (g0 [za 78 9,zb 79 4 5,zc 80 79,zs 81 80,zp 82 78 81] (g1 82 5)) (.seq (.block 6 (.region [za 85 0,za 86 1,zb 87 4 5,zc 88 87,za 89 9,zh 90 7 88 89,zq 91 7 90,zw 92 42 85 86 91,za 0 92])) (.region [za 83 9,zd 84 83 1,za 9 84]))
noncomputable def s42_5:List MStep:=[za 100 1,zb 102 5 5,zc 103 102,za 104 10,zh 105 10 103 104,zb 106 1 105,zc 107 106]
noncomputable def g42_5:List MStage:=[⟨ze 101 39 100,[⟨103,none,(.ld1 (.tmp 102))⟩,⟨107,none,(.ld1 (.tmp 106))⟩],[]⟩,⟨zj 108 9 1 16 101 107,[],[]⟩,⟨za 11 108,[],[]⟩]
theorem d42_5:okD s42_5 g42_5:=⟨by kernel_rfl,by kernel_rfl,by kernel_rfl,by kernel_rfl,trivial⟩
noncomputable def l42_6:MCode:=.seq (g0 [za 93 10,zb 94 5 5,zc 95 94,zs 96 95,zp 97 93 96] (g1 97 7)) (.seq (.block 8 (.seq (.dregion s42_5 g42_5) (.region [za 109 0,za 110 11,zb 111 5 5,zc 112 111,za 113 10,zh 114 10 112 113,zb 115 2 114,zq 116 7 115,zw 117 42 109 110 116,za 0 117]))) (.region [za 98 10,zd 99 98 1,za 10 99]))
noncomputable def tl42_0:MCode:=.seq (g0 [zg 9 0] (.block 5 (.loop l42_4))) (.seq (g0 [zg 10 0] (.block 7 (.loop l42_6))) (g0 [za 118 0,za 6 118] (.ret)))
noncomputable def c42:MCode:=g0 [xl 5 65 2,zl 6 0 0] (.seq (g0 [zb 12 0 5,zc 13 12] (.block 0 (g0 [zo 15 13 1,za 14 15] (g2 14 (g0 [za 16 1,zb 17 2 5,zc 18 17,zt 19 25 16 18,ye 20 19,za 21 20,zf 22 21 0,zz 23 21 2 5,zn 24 21 23,yj 25 21 25 22 24,yq 26 21 25,zk 27 21 26] (g2 27 (.dregion s42_0 g42_0) (.skip))) (g0 [zo 35 13 6,za 34 35] (g2 34 (.dregion s42_1 g42_1) (g0 [zo 43 13 7,za 42 43] (g2 42 (g0 [za 44 1,ze 45 39 44,za 1 45] (.seq (g0 [zg 7 0] (.block 1 (.loop l42_2))) (g0 [zg 8 0] (.block 3 (.loop l42_3))))) (.skip))))))))) tl42_0)
theorem t42:T 42=some ⟨c42.toC,[.tmp 6]⟩:=by kernel_rfl
noncomputable def l43_0:MCode:=.seq (g0 [za 6 5,za 7 0,zs 8 7,zp 9 6 8] (g1 9 0)) (.seq (.block 1 (g0 [za 12 0,za 13 5,zh 14 1 12 13,zc 15 14,za 16 1,yn 17 15 16] (g2 17 (g0 [za 18 5,za 4 18] (.ret)) (.skip)))) (.region [za 10 5,zd 11 10 1,za 5 11]))
noncomputable def c43:MCode:=g0 [zg 4 0] (.seq (g0 [zg 5 0] (.block 0 (.loop l43_0))) (g0 [xe 4 1] (.ret)))
theorem t43:T 43=some ⟨c43.toC,[.tmp 4]⟩:=by kernel_rfl
noncomputable def c44:MCode:=g0 [ym 4 33 0 0] (.seq (g0 [za 5 0,zo 6 5 0] (g2 6 (g0 [⟨(some 7),none,(.call 46 [])⟩,zv 3 4 7] (.ret)) (.skip))) (g0 [za 8 0,za 9 1,⟨(some 10),none,(.p (.build [(.int .i64 0),(.bool false),(.int .i64 0)] [(0,1,(.tmp 8)),(1,1,(.const (.bool true))),(2,1,(.tmp 9))]))⟩,zv 3 4 10] (.ret)))
theorem t44:T 44=some ⟨c44.toC,[.ldN 3 4]⟩:=by kernel_rfl
noncomputable def l45_0:MCode:=.seq (g0 [za 27 5,za 28 0,zs 29 28,zp 30 27 29,za 31 30,zf 32 31 0,zf 33 31 5,yc 34 31 1 32 33,zn 35 31 34,xo 36 31 70 35,zk 37 31 36] (g1 37 1)) (.block 2 (.region [za 38 5,zd 39 38 1,za 5 39]))
noncomputable def l45_1:MCode:=.seq (g0 [za 62 5,za 63 0,zs 64 63,zp 65 62 64,za 66 65,zf 67 66 0,zf 68 66 5,yc 69 66 1 67 68,zn 70 66 69,xo 71 66 72 70,zk 72 66 71] (g1 72 3)) (.block 4 (.region [za 73 5,zd 74 73 1,za 5 74]))
noncomputable def l45_2:MCode:=.seq (g0 [za 78 9,za 79 5,zp 80 78 79] (g1 80 5)) (.seq (.block 6 (.region [za 83 8,⟨(some 84),none,(.p (.bin .mul (.const (.int .i64 10)) (.tmp 83)))⟩,za 85 0,za 86 9,zh 87 1 85 86,zc 88 87,⟨(some 89),none,(.p (.bin .sub (.tmp 88) (.const (.int .u8 48))))⟩,⟨(some 90),none,(.p (.i2i .i64 (.tmp 89)))⟩,zy 91 84 90,za 8 91])) (.region [za 81 9,zd 82 81 1,za 9 82]))
noncomputable def s45_3:List MStep:=[za 157 13,za 158 14,zh 159 1 157 158,zc 160 159,⟨(some 161),none,(.p (.build [(.int .i64 0),(.int .i64 0),(.string ⟨⟨[]⟩⟩),(.int .i64 0)] [(0,1,(.const (.int .i64 5))),(2,1,(.tmp 160))]))⟩,za 162 13,za 163 14,zh 164 1 162 163,zc 165 164,⟨(some 166),none,(.p (.lenS (.tmp 165)))⟩]
noncomputable def g45_3:List MStage:=[⟨zv 4 2 161,[⟨165,none,(.ld1 (.tmp 164))⟩],[]⟩,⟨za 3 166,[],[]⟩]
theorem d45_3:okD s45_3 g45_3:=⟨by kernel_rfl,by kernel_rfl,by kernel_rfl,trivial⟩
noncomputable def l45_4:MCode:=.seq (g0 [za 136 14,za 137 13,zs 138 137,zp 139 136 138] (g1 139 7)) (.seq (.block 8 (g0 [za 142 12,za 143 13,za 144 14,zh 145 1 143 144,zc 146 145,yn 147 142 146,za 148 147,zu 149 148 4,⟨(some 150),(some (148,false)),(.p (.i2s (.tmp 149)))⟩,zu 151 148 13,zu 152 148 14,yk 153 148 1 151 152,yo 154 148 153,⟨(some 155),(some (148,false)),(.p (.bin .eql (.tmp 150) (.tmp 154)))⟩,zx 156 148 155] (g2 156 (.seq (.dregion s45_3 g45_3) (.ret)) (.skip)))) (.region [za 140 14,zd 141 140 1,za 14 141]))
noncomputable def l45_5:MCode:=.seq (g0 [za 167 16,za 168 15,⟨(some 169),none,(.p (.lenS (.tmp 168)))⟩,zp 170 167 169] (g1 170 9)) (.seq (.block 10 (g0 [za 173 4,za 174 15,za 175 16,⟨(some 176),none,(.p (.ixS (.tmp 174) (.tmp 175)))⟩,yn 177 173 176] (g2 177 (g0 [za 178 4,⟨(some 179),none,(.p (.i2s (.tmp 178)))⟩,⟨(some 180),none,(.p (.build [(.int .i64 0),(.int .i64 0),(.string ⟨⟨[]⟩⟩),(.int .i64 0)] [(0,1,(.const (.int .i64 6))),(2,1,(.tmp 179))]))⟩,zv 4 2 180,zg 3 1] (.ret)) (.skip)))) (.region [za 171 16,zd 172 171 1,za 16 172]))
noncomputable def c45:MCode:=g0 [⟨(some 2),none,(.alloc 106 [(.int .i64 0),(.int .i64 0),(.string ⟨⟨[]⟩⟩),(.int .i64 0)])⟩,zg 3 0] (g0 [za 17 0,yl 18 1 17 0,zc 19 18,za 4 19] (g0 [zg 5 1] (.seq (.block 0 (g0 [za 21 4,ze 22 68 21,za 23 22,zu 24 23 4,⟨(some 25),(some (23,false)),(.call 69 [(.tmp 24)])⟩,zx 26 23 25,za 20 26] (g2 20 (.seq (.block 1 (.loop l45_0)) (g0 [za 40 0,za 41 5,xm 42 5 1 40 41,⟨(some 43),none,(.p (.b2s (.tmp 42)))⟩,za 6 43] (g0 [zg 7 1] (.seq (g0 [za 44 4,ze 45 69 44] (g2 45 (.region [zg 7 2]) (g0 [za 46 6,⟨(some 47),none,(.p (.bin .eql (.tmp 46) (.const (.string ⟨⟨[95]⟩⟩))))⟩,za 48 47,zu 49 48 6,⟨(some 50),(some (48,false)),(.call 71 [(.tmp 49)])⟩,zx 51 48 50] (g2 51 (.region [zg 7 6]) (.skip))))) (.seq (g0 [za 52 5,yg 53 52 40] (g2 53 (g0 [⟨(some 54),none,(.p (.build [(.int .i64 0),(.int .i64 0),(.string ⟨⟨[]⟩⟩),(.int .i64 0)] []))⟩,zv 4 2 54,zg 3 0] (.ret)) (.skip))) (g0 [za 55 7,za 56 6,⟨(some 57),none,(.p (.build [(.int .i64 0),(.int .i64 0),(.string ⟨⟨[]⟩⟩),(.int .i64 0)] [(0,1,(.tmp 55)),(2,1,(.tmp 56))]))⟩,za 58 5,zv 4 2 57,za 3 58] (.ret))))))) (g0 [za 60 4,ze 61 72 60,za 59 61] (g2 59 (.seq (.block 3 (.loop l45_1)) (.seq (g0 [za 75 5,yg 76 75 15] (g2 76 (g0 [⟨(some 77),none,(.p (.build [(.int .i64 0),(.int .i64 0),(.string ⟨⟨[]⟩⟩),(.int .i64 0)] []))⟩,zv 4 2 77,zg 3 0] (.ret)) (.skip))) (g0 [zg 8 0] (.seq (g0 [zg 9 0] (.block 5 (.loop l45_2))) (g0 [za 92 0,za 93 5,xm 94 5 1 92 93,⟨(some 95),none,(.p (.b2s (.tmp 94)))⟩,za 96 8,⟨(some 97),none,(.p (.build [(.int .i64 0),(.int .i64 0),(.string ⟨⟨[]⟩⟩),(.int .i64 0)] [(0,1,(.const (.int .i64 3))),(2,1,(.tmp 95)),(3,1,(.tmp 96))]))⟩,za 98 5,zv 4 2 97,za 3 98] (.ret)))))) (g0 [za 100 4,yv 101 100 39,za 99 101] (g2 99 (g0 [za 103 0,ze 104 73 103,za 102 104,yh 105 102 0,yh 106 102 1,za 10 105,za 11 106] (.seq (g0 [za 107 10,zo 108 107 0] (g2 108 (g0 [⟨(some 109),none,(.p (.build [(.int .i64 0),(.int .i64 0),(.string ⟨⟨[]⟩⟩),(.int .i64 0)] []))⟩,zv 4 2 109,zg 3 0] (.ret)) (.skip))) (g0 [za 110 0,za 111 10,xm 112 5 1 110 111,⟨(some 113),none,(.p (.b2s (.tmp 112)))⟩,za 114 11,⟨(some 115),none,(.p (.build [(.int .i64 0),(.int .i64 0),(.string ⟨⟨[]⟩⟩),(.int .i64 0)] [(0,1,(.const (.int .i64 4))),(2,1,(.tmp 113)),(3,1,(.tmp 114))]))⟩,za 116 10,zv 4 2 115,za 3 116] (.ret)))) (.skip)))))))) (g0 [⟨(some 12),none,(.p (.mov (.const (.string ⟨⟨[]⟩⟩))))⟩] (.seq (g0 [za 117 0,zs 118 117,yg 119 118 1] (g2 119 (.region [za 120 0,⟨(some 121),none,(.p (.slV 5 1 (.tmp 120) none (some (.const (.int .i64 2))) none))⟩,⟨(some 122),none,(.p (.b2s (.tmp 121)))⟩,za 12 122]) (.skip))) (.seq (g0 [za 123 12,⟨(some 124),none,(.p (.bin .eql (.tmp 123) (.const (.string ⟨⟨[45,62]⟩⟩))))⟩,za 125 124,zu 126 125 12,⟨(some 127),(some (125,false)),(.p (.bin .eql (.tmp 126) (.const (.string ⟨⟨[61,62]⟩⟩))))⟩,zx 128 125 127,za 129 128,zu 130 129 12,⟨(some 131),(some (129,false)),(.p (.bin .eql (.tmp 130) (.const (.string ⟨⟨[58,58]⟩⟩))))⟩,zx 132 129 131] (g2 132 (g0 [za 133 12,⟨(some 134),none,(.p (.build [(.int .i64 0),(.int .i64 0),(.string ⟨⟨[]⟩⟩),(.int .i64 0)] [(0,1,(.const (.int .i64 6))),(2,1,(.tmp 133))]))⟩,zv 4 2 134,zg 3 2] (.ret)) (.skip))) (g0 [⟨(some 135),none,(.call 74 [])⟩,za 13 135] (.seq (g0 [zg 14 0] (.block 7 (.loop l45_4))) (g0 [⟨(some 15),none,(.p (.mov (.const (.string ⟨⟨[40,41,123,125,44,59,61,92,124]⟩⟩))))⟩] (.seq (g0 [zg 16 0] (.block 9 (.loop l45_5))) (g0 [⟨(some 181),none,(.p (.build [(.int .i64 0),(.int .i64 0),(.string ⟨⟨[]⟩⟩),(.int .i64 0)] []))⟩,zv 4 2 181,zg 3 0] (.ret))))))))))))
theorem t45:T 45=some ⟨c45.toC,[.ldN 4 2,.tmp 3]⟩:=by kernel_rfl
noncomputable def c46:MCode:=g0 [ym 0 33 0 0] (g0 [⟨(some 1),none,(.p (.build [(.int .i64 0),(.bool false),(.int .i64 0)] []))⟩,zv 3 0 1] (.ret))
theorem t46:T 46=some ⟨c46.toC,[.ldN 3 0]⟩:=by kernel_rfl
noncomputable def c47:MCode:=g0 [yb 6] (g0 [za 7 0,ze 8 28 7,za 9 8,zf 10 9 1,zf 11 9 0,yf 12 9 11,zz 13 9 0 12,zn 14 9 13,yt 15 9 14,xd 16 9 10 15,zk 17 9 16,za 18 17,zf 19 18 0,yf 20 18 19,zz 21 18 0 20,zn 22 18 21,zf 23 18 1,yc 24 18 4 22 23,zz 25 18 0 24,zn 26 18 25,yy 27 18 26 6,zk 28 18 27,za 29 28,zf 30 29 0,yf 31 29 30,zz 32 29 0 31,zn 33 29 32,zf 34 29 1,yc 35 29 4 33 34,zz 36 29 2 35,zn 37 29 36,zf 38 29 2,⟨(some 39),(some (29,true)),(.p (.bin .eql (.tmp 37) (.tmp 38)))⟩,zk 40 29 39,za 6 40] (.ret))
theorem t47:T 47=some ⟨c47.toC,[.tmp 6]⟩:=by kernel_rfl
noncomputable def s48_0:List MStep:=[za 3 0,zi 4 3,zb 5 1 4,zc 6 5,za 7 0,zi 8 7,zb 9 0 8,zc 10 9,zs 11 10,zp 12 6 11]
noncomputable def g48_0:List MStage:=[]
theorem d48_0:okD s48_0 g48_0:=⟨by kernel_rfl,trivial⟩
noncomputable def s48_1:List MStep:=[za 13 0,zi 14 13,zb 15 0 14,zc 16 15,za 17 0,zi 18 17,zb 19 1 18,zc 20 19,zh 21 4 16 20,zb 22 1 21,zc 23 22]
noncomputable def g48_1:List MStage:=[⟨za 2 23,[],[]⟩]
theorem d48_1:okD s48_1 g48_1:=⟨by kernel_rfl,by kernel_rfl,trivial⟩
noncomputable def c48:MCode:=g0 [zg 2 0] (.seq (.seq (.dregion s48_0 g48_0) (g2 12 (.seq (.dregion s48_1 g48_1) (.ret)) (.skip))) (g0 [za 24 0,zi 25 24,zb 26 2 25,zc 27 26,za 2 27] (.ret)))
theorem t48:T 48=some ⟨c48.toC,[.tmp 2]⟩:=by kernel_rfl
noncomputable def c49:MCode:=.seq (g0 [za 4 0,za 5 1,zt 6 29 4 5,ye 7 6] (g2 7 (g0 [za 8 0,ze 9 36 8] (.ret)) (.skip))) (.region [za 10 0,za 11 0,zi 12 11,zb 13 1 12,zc 14 13,zd 15 14 1,zi 16 10,zb 17 1 16,zr 17 15])
theorem t49:T 49=some ⟨c49.toC,[]⟩:=by kernel_rfl
noncomputable def s50_0:List MStep:=[za 19 0,zi 20 19,zb 21 0 20,zc 22 21,za 23 0,zi 24 23,zb 25 1 24,zc 26 25,ya 27 26 1,zh 28 4 22 27,zb 29 2 28,zc 30 29]
noncomputable def g50_0:List MStage:=[⟨za 4 30,[],[]⟩]
theorem d50_0:okD s50_0 g50_0:=⟨by kernel_rfl,by kernel_rfl,trivial⟩
noncomputable def c50:MCode:=g0 [⟨(some 4),none,(.p (.mov (.const (.string ⟨⟨[]⟩⟩))))⟩] (.seq (g0 [za 5 0,za 6 1,zt 7 51 5 6,ye 8 7] (g2 8 (g0 [za 9 0,ze 10 36 9] (g0 [⟨(some 4),none,(.p (.mov (.const (.string ⟨⟨[]⟩⟩))))⟩] (.ret))) (.skip))) (g0 [za 11 0,za 12 0,zi 13 12,zb 14 1 13,zc 15 14,zd 16 15 1,zi 17 11,zb 18 1 17,zr 18 16] (.seq (.dregion s50_0 g50_0) (.ret))))
theorem t50:T 50=some ⟨c50.toC,[.tmp 4]⟩:=by kernel_rfl
noncomputable def s51_0:List MStep:=[za 5 0]
noncomputable def g51_0:List MStage:=[⟨ze 6 28 5,[],[za 7 6,zf 8 7 0,yf 9 7 8,zz 10 7 1 9,zn 11 7 10,zf 12 7 0,yf 13 7 12,zz 14 7 0 13,zn 15 7 14,yt 16 7 15,xd 17 7 11 16,zk 18 7 17,za 19 18,zf 20 19 0,yf 21 19 20,zz 22 19 0 21,zn 23 19 22,zf 24 19 0,yf 25 19 24,zz 26 19 1 25,zn 27 19 26,yc 28 19 4 23 27,zz 29 19 0 28,zn 30 19 29,zf 31 19 1,⟨(some 32),(some (19,true)),(.p (.bin .eql (.tmp 30) (.tmp 31)))⟩,zk 33 19 32]⟩,⟨za 4 33,[],[]⟩]
theorem d51_0:okD s51_0 g51_0:=⟨by kernel_rfl,by kernel_rfl,by kernel_rfl,trivial⟩
noncomputable def c51:MCode:=g0 [yb 4] (.seq (.dregion s51_0 g51_0) (.ret))
theorem t51:T 51=some ⟨c51.toC,[.tmp 4]⟩:=by kernel_rfl
noncomputable def c52:MCode:=g0 [yb 2] (g0 [za 3 0,zm 4 51 3 1,za 5 4,zu 6 5 0,xk 7 5 51 6 2,zx 8 5 7,za 9 8,zu 10 9 0,⟨(some 11),(some (9,false)),(.call 29 [(.tmp 10),(.const (.string ⟨⟨[40]⟩⟩))])⟩,zx 12 9 11,za 2 12] (.ret))
theorem t52:T 52=some ⟨c52.toC,[.tmp 2]⟩:=by kernel_rfl
noncomputable def c53:MCode:=g0 [⟨(some 2),none,(.alloc 59 [(.int .i64 0),(.string ⟨⟨[]⟩⟩),(.slice none 0 0)])⟩] (.seq (.block 0 (g0 [za 5 0,zm 6 51 5 1,za 4 6] (g2 4 (g0 [za 7 0,zm 8 50 7 1,⟨(some 9),none,(.p (.build [(.int .i64 0),(.string ⟨⟨[]⟩⟩),(.slice none 0 0)] [(0,1,(.const (.int .i64 1))),(1,1,(.tmp 8))]))⟩,zv 3 2 9] (.ret)) (g0 [za 11 0,zm 12 51 11 2,za 10 12] (g2 10 (g0 [za 13 0,zm 14 50 13 2,⟨(some 15),none,(.p (.build [(.int .i64 0),(.string ⟨⟨[]⟩⟩),(.slice none 0 0)] [(0,1,(.const (.int .i64 2))),(1,1,(.tmp 14))]))⟩,zv 3 2 15] (.ret)) (g0 [za 17 0,⟨(some 18),none,(.call 29 [(.tmp 17),(.const (.string ⟨⟨[40]⟩⟩))])⟩,za 16 18] (g2 16 (g0 [za 19 0,ze 20 75 19] (g0 [za 21 0,ze 22 76 21,⟨some 3,none,(.ini false 59 [(.int .i64 0),(.string ⟨⟨[]⟩⟩),(.slice none 0 0)] (.tmp 22))⟩] (g0 [za 23 0,⟨(some 24),none,(.call 49 [(.tmp 23),(.const (.string ⟨⟨[41]⟩⟩))])⟩] (g0 [za 25 0,ze 26 77 25] (g0 [zq 27 3 3,zv 3 2 27] (.ret)))))) (.skip)))))))) (g0 [za 28 0,ze 29 36 28] (g0 [⟨(some 30),none,(.p (.build [(.int .i64 0),(.string ⟨⟨[]⟩⟩),(.slice none 0 0)] []))⟩,zv 3 2 30] (.ret))))
theorem t53:T 53=some ⟨c53.toC,[.ldN 3 2]⟩:=by kernel_rfl
noncomputable def l54_0:MCode:=.seq (g0 [za 25 0,⟨(some 26),none,(.call 29 [(.tmp 25),(.const (.string ⟨⟨[44]⟩⟩))])⟩] (g1 26 0)) (.block 1 (g0 [za 27 0,za 28 0,zi 29 28,zb 30 1 29,zc 31 30,zd 32 31 1,zi 33 27,zb 34 1 33,zr 34 32] (.region [za 35 5,za 36 0,za 37 1,zt 38 79 36 37,⟨(some 39),none,(.bsl 119 [(.string ⟨⟨[]⟩⟩),(.int .i64 0),(.string ⟨⟨[]⟩⟩),(.slice none 0 0)] 1 [(0,4,(.tmp 38))])⟩,zj 40 119 4 64 35 39,za 5 40])))
noncomputable def c54:MCode:=g0 [zl 4 0 0] (.seq (g0 [za 6 0,ze 7 78 6,ye 8 7] (g2 8 (g0 [zl 4 0 0] (.ret)) (.skip))) (g0 [zl 5 0 0] (.seq (g0 [za 9 0,⟨(some 10),none,(.call 29 [(.tmp 9),(.const (.string ⟨⟨[40]⟩⟩))])⟩] (g2 10 (g0 [za 11 0,za 12 0,zi 13 12,zb 14 1 13,zc 15 14,zd 16 15 1,zi 17 11,zb 18 1 17,zr 18 16] (g0 [za 19 5,za 20 0,za 21 1,zt 22 79 20 21,⟨(some 23),none,(.bsl 119 [(.string ⟨⟨[]⟩⟩),(.int .i64 0),(.string ⟨⟨[]⟩⟩),(.slice none 0 0)] 1 [(0,4,(.tmp 22))])⟩,zj 24 119 4 64 19 23,za 5 24] (.seq (.block 0 (.loop l54_0)) (.region [za 41 0,⟨(some 42),none,(.call 49 [(.tmp 41),(.const (.string ⟨⟨[41]⟩⟩))])⟩])))) (.region [za 43 5,za 44 0,za 45 1,zt 46 79 44 45,⟨(some 47),none,(.bsl 119 [(.string ⟨⟨[]⟩⟩),(.int .i64 0),(.string ⟨⟨[]⟩⟩),(.slice none 0 0)] 1 [(0,4,(.tmp 46))])⟩,zj 48 119 4 64 43 47,za 5 48]))) (g0 [za 49 0,⟨(some 50),none,(.call 49 [(.tmp 49),(.const (.string ⟨⟨[61,62]⟩⟩))])⟩] (g0 [za 51 5,za 4 51] (.ret))))))
theorem t54:T 54=some ⟨c54.toC,[.tmp 4]⟩:=by kernel_rfl
noncomputable def c55:MCode:=g0 [za 6 0,ze 7 28 6] (g2 7 (.region [za 8 0,za 9 1,za 10 2,zt 11 44 9 10,zi 12 8,zb 13 3 12,yd 3 13 11]) (.skip))
theorem t55:T 55=some ⟨c55.toC,[]⟩:=by kernel_rfl
noncomputable def l56_0:MCode:=.seq (g0 [za 7 0,⟨(some 8),none,(.call 29 [(.tmp 7),(.const (.string ⟨⟨[59]⟩⟩))])⟩] (g1 8 2)) (.block 3 (.region [za 9 0,za 10 0,zi 11 10,zb 12 1 11,zc 13 12,zd 14 13 1,zi 15 9,zb 16 1 15,zr 16 14]))
noncomputable def l56_1:MCode:=.seq (g0 [za 5 0,ze 6 28 5] (g1 6 0)) (.block 1 (.seq (.block 2 (.loop l56_0)) (.seq (g0 [za 17 0,⟨(some 18),none,(.call 29 [(.tmp 17),(.const (.string ⟨⟨[125]⟩⟩))])⟩] (g2 18 (.exit 0) (.skip))) (g0 [za 19 0,zi 20 19,zb 21 1 20,zc 22 21,za 4 22] (g0 [za 23 0,ze 24 57 23] (.seq (g0 [za 25 0,⟨(some 26),none,(.call 29 [(.tmp 25),(.const (.string ⟨⟨[58,58]⟩⟩))])⟩] (g2 26 (.region [za 27 0,ze 28 36 27]) (.skip))) (.seq (g0 [za 29 0,ze 30 28 29] (g2 30 (g0 [za 31 0,za 32 4,zi 33 31,zb 34 1 33,zr 34 32] (.region [za 36 0,za 37 3,⟨(some 38),none,(.call 33 [(.tmp 36),(.const (.slice none 0 0)),(.tmp 37)])⟩,za 35 38,yh 39 35 0,yh 40 35 1,za 3 40])) (.skip))) (.region [za 41 0,xf 42 34 41]))))))))
noncomputable def c56:MCode:=g0 [zl 2 0 0] (g0 [zl 3 0 0] (.seq (.block 0 (.loop l56_1)) (g0 [za 43 3,za 2 43] (.ret))))
theorem t56:T 56=some ⟨c56.toC,[.tmp 2]⟩:=by kernel_rfl
noncomputable def c57:MCode:=g0 [⟨(some 2),none,(.p (.mov (.const (.string ⟨⟨[]⟩⟩))))⟩,zg 3 0] (.seq (g0 [za 7 0,⟨(some 8),none,(.call 29 [(.tmp 7),(.const (.string ⟨⟨[40]⟩⟩))])⟩] (g2 8 (g0 [za 9 0,za 10 0,zi 11 10,zb 12 1 11,zc 13 12,zd 14 13 1,zi 15 9,zb 16 1 15,zr 16 14] (g0 [za 17 0,ze 18 48 17,za 4 18] (g0 [za 19 0,zm 20 50 19 5,za 5 20] (g0 [za 21 0,⟨(some 22),none,(.call 49 [(.tmp 21),(.const (.string ⟨⟨[41]⟩⟩))])⟩] (g0 [za 23 5,za 24 4,za 2 23,za 3 24] (.ret)))))) (.skip))) (g0 [za 25 0,ze 26 48 25,za 6 26] (g0 [za 27 0,zm 28 50 27 1,za 29 6,za 2 28,za 3 29] (.ret))))
theorem t57:T 57=some ⟨c57.toC,[.tmp 2,.tmp 3]⟩:=by kernel_rfl
noncomputable def s58_0:List MStep:=[zb 22 0 3,zc 23 22,zb 24 1 3,zc 25 24,za 26 4,zh 27 4 25 26,zb 28 1 27,zq 29 3 28]
noncomputable def g58_0:List MStage:=[⟨zt 30 80 23 29,[],[zb 31 0 3]⟩,⟨zr 31 30,[],[]⟩]
theorem d58_0:okD s58_0 g58_0:=⟨by kernel_rfl,by kernel_rfl,by kernel_rfl,trivial⟩
noncomputable def l58_1:MCode:=.seq (g0 [za 15 4,zb 16 1 3,zc 17 16,zs 18 17,zp 19 15 18] (g1 19 0)) (.seq (.block 1 (.dregion s58_0 g58_0)) (.region [za 20 4,zd 21 20 1,za 4 21]))
noncomputable def c58:MCode:=g0 [⟨(some 2),none,(.alloc 61 [(.slice none 0 0),(.slice none 0 0),(.int .i64 0),(.string ⟨⟨[]⟩⟩),(.slice none 0 0)])⟩] (g0 [⟨(some 3),none,(.alloc 61 [(.slice none 0 0),(.slice none 0 0),(.int .i64 0),(.string ⟨⟨[]⟩⟩),(.slice none 0 0)])⟩] (g0 [za 5 0,⟨(some 6),none,(.call 54 [(.tmp 5),(.const (.bool false))])⟩,zb 7 1 3,zr 7 6] (g0 [za 8 0,ze 9 76 8,zb 10 2 3,yd 3 10 9] (g0 [zb 11 2 3,zq 12 3 11,⟨(some 13),none,(.call 80 [(.const (.slice none 0 0)),(.tmp 12)])⟩,zb 14 0 3,zr 14 13] (.seq (g0 [zg 4 0] (.block 0 (.loop l58_1))) (g0 [zq 32 5 3,zv 5 2 32] (.ret)))))))
theorem t58:T 58=some ⟨c58.toC,[.ldN 5 2]⟩:=by kernel_rfl
noncomputable def l59_0:MCode:=.seq (g0 [za 24 0,zm 25 51 24 1] (g1 25 1)) (.block 2 (.region [za 26 4,za 27 0,zm 28 50 27 1,⟨(some 29),none,(.bsl 9 [(.string ⟨⟨[]⟩⟩)] 1 [(0,1,(.tmp 28))])⟩,zj 30 9 1 16 26 29,za 4 30]))
noncomputable def c59:MCode:=g0 [⟨(some 2),none,(.alloc 65 [(.int .i64 0),(.int .i64 0),(.string ⟨⟨[]⟩⟩),(.int .i64 0),(.slice none 0 0),(.slice none 0 0),(.slice none 0 0)])⟩] (g0 [za 14 0,ze 15 48 14,za 3 15] (.seq (.block 0 (g0 [za 17 0,⟨(some 18),none,(.call 29 [(.tmp 17),(.const (.string ⟨⟨[92]⟩⟩))])⟩,za 16 18] (g2 16 (g0 [za 19 0,ze 20 75 19] (g0 [za 21 0,zm 22 50 21 1,⟨(some 23),none,(.oth (.a (.bsl 9 [(.string ⟨⟨[]⟩⟩)] 1 [(0,1,(.tmp 22))])))⟩,za 4 23] (.seq (.block 1 (.loop l59_0)) (g0 [za 31 0,⟨(some 32),none,(.call 49 [(.tmp 31),(.const (.string ⟨⟨[45,62]⟩⟩))])⟩] (g0 [za 33 0,ze 34 59 33,⟨some 5,none,(.ini false 65 [(.int .i64 0),(.int .i64 0),(.string ⟨⟨[]⟩⟩),(.int .i64 0),(.slice none 0 0),(.slice none 0 0),(.slice none 0 0)] (.tmp 34))⟩] (g0 [za 35 0,ze 36 77 35] (g0 [za 37 4,zq 38 7 5,za 39 3,zw 40 60 37 38 39,zv 7 2 40] (.ret)))))))) (g0 [za 42 0,⟨(some 43),none,(.call 29 [(.tmp 42),(.const (.string ⟨⟨[108,101,116]⟩⟩))])⟩,za 41 43] (g2 41 (g0 [za 44 0,ze 45 75 44] (g0 [za 46 0,⟨(some 47),none,(.call 49 [(.tmp 46),(.const (.string ⟨⟨[123]⟩⟩))])⟩] (g0 [za 48 0,ze 49 81 48,za 6 49] (g0 [za 50 0,⟨(some 51),none,(.call 49 [(.tmp 50),(.const (.string ⟨⟨[125]⟩⟩))])⟩] (g0 [za 52 0,⟨(some 53),none,(.call 49 [(.tmp 52),(.const (.string ⟨⟨[105,110]⟩⟩))])⟩] (g0 [za 54 0,ze 55 59 54,⟨some 7,none,(.ini false 65 [(.int .i64 0),(.int .i64 0),(.string ⟨⟨[]⟩⟩),(.int .i64 0),(.slice none 0 0),(.slice none 0 0),(.slice none 0 0)] (.tmp 55))⟩] (g0 [za 56 0,ze 57 77 56] (g0 [za 58 3,za 59 6,zq 60 7 7,⟨(some 61),none,(.bsl 65 [(.int .i64 0),(.int .i64 0),(.string ⟨⟨[]⟩⟩),(.int .i64 0),(.slice none 0 0),(.slice none 0 0),(.slice none 0 0)] 1 [(0,7,(.tmp 60))])⟩,⟨(some 62),none,(.p (.build [(.int .i64 0),(.int .i64 0),(.string ⟨⟨[]⟩⟩),(.int .i64 0),(.slice none 0 0),(.slice none 0 0),(.slice none 0 0)] [(0,1,(.const (.int .i64 7))),(1,1,(.tmp 58)),(6,1,(.tmp 59)),(4,1,(.tmp 61))]))⟩,zv 7 2 62] (.ret))))))))) (g0 [za 64 0,⟨(some 65),none,(.call 29 [(.tmp 64),(.const (.string ⟨⟨[99,97,115,101]⟩⟩))])⟩,za 63 65] (g2 63 (g0 [za 66 0,ze 67 75 66] (g0 [za 68 0,ze 69 59 68,⟨some 8,none,(.ini false 65 [(.int .i64 0),(.int .i64 0),(.string ⟨⟨[]⟩⟩),(.int .i64 0),(.slice none 0 0),(.slice none 0 0),(.slice none 0 0)] (.tmp 69))⟩] (g0 [za 70 0,⟨(some 71),none,(.call 49 [(.tmp 70),(.const (.string ⟨⟨[111,102]⟩⟩))])⟩] (g0 [za 72 0,⟨(some 73),none,(.call 49 [(.tmp 72),(.const (.string ⟨⟨[123]⟩⟩))])⟩] (g0 [za 74 0,ze 75 82 74,za 9 75] (g0 [za 76 0,⟨(some 77),none,(.call 49 [(.tmp 76),(.const (.string ⟨⟨[125]⟩⟩))])⟩] (g0 [za 78 0,ze 79 77 78] (g0 [za 80 3,za 81 9,zq 82 7 8,⟨(some 83),none,(.bsl 65 [(.int .i64 0),(.int .i64 0),(.string ⟨⟨[]⟩⟩),(.int .i64 0),(.slice none 0 0),(.slice none 0 0),(.slice none 0 0)] 1 [(0,7,(.tmp 82))])⟩,⟨(some 84),none,(.p (.build [(.int .i64 0),(.int .i64 0),(.string ⟨⟨[]⟩⟩),(.int .i64 0),(.slice none 0 0),(.slice none 0 0),(.slice none 0 0)] [(0,1,(.const (.int .i64 8))),(1,1,(.tmp 80)),(5,1,(.tmp 81)),(4,1,(.tmp 83))]))⟩,zv 7 2 84] (.ret))))))))) (g0 [za 86 0,⟨(some 87),none,(.call 29 [(.tmp 86),(.const (.string ⟨⟨[105,102]⟩⟩))])⟩,za 85 87] (g2 85 (g0 [za 88 0,ze 89 75 88] (g0 [za 90 0,ze 91 59 90,⟨some 10,none,(.ini false 65 [(.int .i64 0),(.int .i64 0),(.string ⟨⟨[]⟩⟩),(.int .i64 0),(.slice none 0 0),(.slice none 0 0),(.slice none 0 0)] (.tmp 91))⟩] (g0 [za 92 0,⟨(some 93),none,(.call 49 [(.tmp 92),(.const (.string ⟨⟨[116,104,101,110]⟩⟩))])⟩] (g0 [za 94 0,ze 95 59 94,⟨some 11,none,(.ini false 65 [(.int .i64 0),(.int .i64 0),(.string ⟨⟨[]⟩⟩),(.int .i64 0),(.slice none 0 0),(.slice none 0 0),(.slice none 0 0)] (.tmp 95))⟩] (g0 [za 96 0,⟨(some 97),none,(.call 49 [(.tmp 96),(.const (.string ⟨⟨[101,108,115,101]⟩⟩))])⟩] (g0 [za 98 0,ze 99 59 98,⟨some 12,none,(.ini false 65 [(.int .i64 0),(.int .i64 0),(.string ⟨⟨[]⟩⟩),(.int .i64 0),(.slice none 0 0),(.slice none 0 0),(.slice none 0 0)] (.tmp 99))⟩] (g0 [za 100 0,ze 101 77 100] (g0 [za 102 3,zq 103 7 10,⟨(some 104),none,(.bsl 65 [(.int .i64 0),(.int .i64 0),(.string ⟨⟨[]⟩⟩),(.int .i64 0),(.slice none 0 0),(.slice none 0 0),(.slice none 0 0)] 1 [(0,7,(.tmp 103))])⟩,zq 105 7 11,za 106 3,⟨(some 107),none,(.p (.build [(.string ⟨⟨[]⟩⟩),(.slice none 0 0),(.int .i64 0),(.int .i64 0),(.string ⟨⟨[]⟩⟩),(.int .i64 0),(.slice none 0 0),(.slice none 0 0),(.slice none 0 0),(.int .i64 0)] [(0,1,(.const (.string ⟨⟨[84,114,117,101]⟩⟩))),(2,7,(.tmp 105)),(9,1,(.tmp 106))]))⟩,zq 108 7 12,za 109 3,⟨(some 110),none,(.p (.build [(.string ⟨⟨[]⟩⟩),(.slice none 0 0),(.int .i64 0),(.int .i64 0),(.string ⟨⟨[]⟩⟩),(.int .i64 0),(.slice none 0 0),(.slice none 0 0),(.slice none 0 0),(.int .i64 0)] [(0,1,(.const (.string ⟨⟨[70,97,108,115,101]⟩⟩))),(2,7,(.tmp 108)),(9,1,(.tmp 109))]))⟩,⟨(some 111),none,(.bsl 135 [(.string ⟨⟨[]⟩⟩),(.slice none 0 0),(.int .i64 0),(.int .i64 0),(.string ⟨⟨[]⟩⟩),(.int .i64 0),(.slice none 0 0),(.slice none 0 0),(.slice none 0 0),(.int .i64 0)] 2 [(0,10,(.tmp 107)),(10,10,(.tmp 110))])⟩,⟨(some 112),none,(.p (.build [(.int .i64 0),(.int .i64 0),(.string ⟨⟨[]⟩⟩),(.int .i64 0),(.slice none 0 0),(.slice none 0 0),(.slice none 0 0)] [(0,1,(.const (.int .i64 8))),(1,1,(.tmp 102)),(4,1,(.tmp 104)),(5,1,(.tmp 111))]))⟩,zv 7 2 112] (.ret))))))))) (.skip)))))))))) (g0 [za 113 0,ze 114 83 113,⟨some 13,none,(.ini false 65 [(.int .i64 0),(.int .i64 0),(.string ⟨⟨[]⟩⟩),(.int .i64 0),(.slice none 0 0),(.slice none 0 0),(.slice none 0 0)] (.tmp 114))⟩] (.seq (g0 [za 115 0,⟨(some 116),none,(.bsl 9 [(.string ⟨⟨[]⟩⟩)] 6 [(0,1,(.const (.string ⟨⟨[61,61]⟩⟩))),(1,1,(.const (.string ⟨⟨[47,61]⟩⟩))),(2,1,(.const (.string ⟨⟨[60]⟩⟩))),(3,1,(.const (.string ⟨⟨[60,61]⟩⟩))),(4,1,(.const (.string ⟨⟨[62]⟩⟩))),(5,1,(.const (.string ⟨⟨[62,61]⟩⟩)))])⟩,zt 117 84 115 116] (g2 117 (g0 [za 118 0,zq 119 7 13,ys 120 85 118 119 0,zv 7 2 120] (.ret)) (.skip))) (g0 [zq 121 7 13,zv 7 2 121] (.ret))))))
theorem t59:T 59=some ⟨c59.toC,[.ldN 7 2]⟩:=by kernel_rfl
noncomputable def s60_0:List MStep:=[za 15 2,za 16 0,za 17 7,zh 18 1 16 17,zc 19 18,zq 20 7 4,⟨(some 21),none,(.bsl 65 [(.int .i64 0),(.int .i64 0),(.string ⟨⟨[]⟩⟩),(.int .i64 0),(.slice none 0 0),(.slice none 0 0),(.slice none 0 0)] 1 [(0,7,(.tmp 20))])⟩,⟨(some 22),none,(.p (.build [(.int .i64 0),(.int .i64 0),(.string ⟨⟨[]⟩⟩),(.int .i64 0),(.slice none 0 0),(.slice none 0 0),(.slice none 0 0)] [(0,1,(.const (.int .i64 6))),(1,1,(.tmp 15)),(2,1,(.tmp 19)),(4,1,(.tmp 21))]))⟩]
noncomputable def g60_0:List MStage:=[⟨yd 7 4 22,[],[]⟩]
theorem d60_0:okD s60_0 g60_0:=⟨by kernel_rfl,by kernel_rfl,trivial⟩
noncomputable def l60_1:MCode:=.seq (g0 [za 11 7,yp 12 11 0] (g1 12 0)) (.seq (.block 1 (.dregion s60_0 g60_0)) (.region [za 13 7,ya 14 13 1,za 7 14]))
noncomputable def c60:MCode:=g0 [xq 4 65 1,⟨(some 6),none,(.alloc 65 [(.int .i64 0),(.int .i64 0),(.string ⟨⟨[]⟩⟩),(.int .i64 0),(.slice none 0 0),(.slice none 0 0),(.slice none 0 0)])⟩] (.seq (g0 [za 8 0,zs 9 8,ya 10 9 1,za 7 10] (.block 0 (.loop l60_1))) (g0 [zq 23 7 4,zv 7 6 23] (.ret)))
theorem t60:T 60=some ⟨c60.toC,[.ldN 7 6]⟩:=by kernel_rfl
noncomputable def l61_0:MCode:=g0 [zp 13 12 11] (.seq (g1 13 0) (.seq (.block 1 (g0 [zh 14 1 10 12,zc 15 14,za 7 15] (.region [za 16 0,zi 17 16,zb 18 0 17,zc 19 18,za 20 7,⟨(some 21),none,(.p (.lookup true (.int .i64 0) false (.tmp 19) (.tmp 20)))⟩,zd 22 21 1,⟨none,none,(.mapupd true (.tmp 19) (.tmp 20) (.tmp 22))⟩]))) (.region [zd 23 12 1,za 12 23])))
noncomputable def l61_1:MCode:=g0 [zp 29 28 27] (.seq (g1 29 2) (.seq (.block 3 (g0 [zh 30 1 26 28,zc 31 30,za 9 31] (.region [za 32 0,zi 33 32,zb 34 0 33,zc 35 34,za 36 9,⟨(some 37),none,(.p (.lookup true (.int .i64 0) false (.tmp 35) (.tmp 36)))⟩,ya 38 37 1,⟨none,none,(.mapupd true (.tmp 35) (.tmp 36) (.tmp 38))⟩]))) (.region [zd 39 28 1,za 28 39])))
noncomputable def c61:MCode:=.seq (g0 [za 10 1,zs 11 10,zg 12 0] (.block 0 (.loop l61_0))) (g0 [za 24 2,⟨(some 25),none,(.callv (.tmp 24) [])⟩] (g0 [za 26 1,zs 27 26,zg 28 0] (.block 2 (.loop l61_1))))
theorem t61:T 61=some ⟨c61.toC,[]⟩:=by kernel_rfl
noncomputable def c62:MCode:=.region [zc 2 0,zb 3 4 1,zc 4 3,zt 5 63 2 4]
theorem t62:T 62=some ⟨c62.toC,[]⟩:=by kernel_rfl
noncomputable def l63_0:MCode:=g0 [zp 9 8 7] (.seq (g1 9 0) (.seq (.block 1 (g0 [zh 10 7 6 8,zq 11 7 10,⟨some 5,none,(.ini false 65 [(.int .i64 0),(.int .i64 0),(.string ⟨⟨[]⟩⟩),(.int .i64 0),(.slice none 0 0),(.slice none 0 0),(.slice none 0 0)] (.tmp 11))⟩] (.region [za 12 0,zq 13 7 5,zt 14 40 12 13]))) (.region [zd 15 8 1,za 8 15])))
noncomputable def c63:MCode:=g0 [za 6 1,zs 7 6,zg 8 0] (.block 0 (.loop l63_0))
theorem t63:T 63=some ⟨c63.toC,[]⟩:=by kernel_rfl
noncomputable def l64_0:MCode:=g0 [zp 9 8 7] (.seq (g1 9 0) (.seq (.block 1 (g0 [zh 10 15 6 8,zq 11 15 10,⟨some 5,none,(.ini false 67 [(.string ⟨⟨[]⟩⟩),(.bool false),(.slice none 0 0),(.slice none 0 0),(.int .i64 0),(.string ⟨⟨[]⟩⟩),(.slice none 0 0),(.int .i64 0),(.int .i64 0),(.string ⟨⟨[]⟩⟩),(.int .i64 0),(.slice none 0 0),(.slice none 0 0),(.slice none 0 0),(.int .i64 0)] (.tmp 11))⟩] (.region [za 12 3,zb 13 0 5,zc 14 13,⟨(some 15),none,(.bsl 9 [(.string ⟨⟨[]⟩⟩)] 1 [(0,1,(.tmp 14))])⟩,zj 16 9 1 16 12 15,za 3 16]))) (.region [zd 17 8 1,za 8 17])))
noncomputable def c64:MCode:=g0 [zl 2 0 0] (g0 [zl 3 0 0] (.seq (g0 [za 6 0,zs 7 6,zg 8 0] (.block 0 (.loop l64_0))) (g0 [za 18 3,za 2 18] (.ret))))
theorem t64:T 64=some ⟨c64.toC,[.tmp 2]⟩:=by kernel_rfl
noncomputable def l65_0:MCode:=g0 [zp 8 7 6] (.seq (g1 8 0) (.seq (.block 1 (g0 [zh 9 15 5 7,zq 10 15 9,⟨some 3,none,(.ini false 67 [(.string ⟨⟨[]⟩⟩),(.bool false),(.slice none 0 0),(.slice none 0 0),(.int .i64 0),(.string ⟨⟨[]⟩⟩),(.slice none 0 0),(.int .i64 0),(.int .i64 0),(.string ⟨⟨[]⟩⟩),(.int .i64 0),(.slice none 0 0),(.slice none 0 0),(.slice none 0 0),(.int .i64 0)] (.tmp 10))⟩] (.region [zc 11 1,zb 12 7 3,zq 13 7 12,zt 14 40 11 13]))) (.region [zd 15 7 1,za 7 15])))
noncomputable def c65:MCode:=.seq (g0 [zb 4 6 0,zc 5 4,zs 6 5,zg 7 0] (.block 0 (.loop l65_0))) (.region [zc 16 1,zb 17 4 0,zc 18 17,zt 19 63 16 18])
theorem t65:T 65=some ⟨c65.toC,[]⟩:=by kernel_rfl
noncomputable def c66:MCode:=g0 [zl 2 0 0] (g0 [za 3 0,ze 4 87 3,⟨(some 5),none,(.call 86 [(.tmp 4),(.func 88)])⟩,za 2 5] (.ret))
theorem t66:T 66=some ⟨c66.toC,[.tmp 2]⟩:=by kernel_rfl
noncomputable def c67:MCode:=.region [zc 2 0,zb 3 2 1,zq 4 7 3,zt 5 40 2 4]
theorem t67:T 67=some ⟨c67.toC,[]⟩:=by kernel_rfl
noncomputable def c68:MCode:=g0 [yb 2] (g0 [za 3 0,⟨(some 4),none,(.p (.bin .geq (.tmp 3) (.const (.int .u8 97))))⟩,za 5 4,zf 6 5 0,xj 7 5 6 122,zk 8 5 7,za 9 8,zu 10 9 0,yx 11 9 10 95,zx 12 9 11,za 2 12] (.ret))
theorem t68:T 68=some ⟨c68.toC,[.tmp 2]⟩:=by kernel_rfl
noncomputable def c69:MCode:=g0 [yb 2] (g0 [za 3 0,⟨(some 4),none,(.p (.bin .geq (.tmp 3) (.const (.int .u8 65))))⟩,za 5 4,zf 6 5 0,xj 7 5 6 90,zk 8 5 7,za 2 8] (.ret))
theorem t69:T 69=some ⟨c69.toC,[.tmp 2]⟩:=by kernel_rfl
noncomputable def c70:MCode:=g0 [yb 2] (g0 [za 3 0,ze 4 68 3,za 5 4,zu 6 5 0,⟨(some 7),(some (5,false)),(.call 69 [(.tmp 6)])⟩,zx 8 5 7,za 9 8,zu 10 9 0,⟨(some 11),(some (9,false)),(.call 72 [(.tmp 10)])⟩,zx 12 9 11,za 13 12,zu 14 13 0,yx 15 13 14 39,zx 16 13 15,za 2 16] (.ret))
theorem t70:T 70=some ⟨c70.toC,[.tmp 2]⟩:=by kernel_rfl
noncomputable def c71:MCode:=g0 [yb 2] (g0 [⟨(some 3),none,(.call 89 [])⟩,za 4 0,zt 5 25 3 4,za 2 5] (.ret))
theorem t71:T 71=some ⟨c71.toC,[.tmp 2]⟩:=by kernel_rfl
noncomputable def c72:MCode:=g0 [yb 2] (g0 [za 3 0,⟨(some 4),none,(.p (.bin .geq (.tmp 3) (.const (.int .u8 48))))⟩,za 5 4,zf 6 5 0,xj 7 5 6 57,zk 8 5 7,za 2 8] (.ret))
theorem t72:T 72=some ⟨c72.toC,[.tmp 2]⟩:=by kernel_rfl
noncomputable def s73_0:List MStep:=[za 27 0,yl 28 1 27 2,zc 29 28,⟨(some 30),none,(.p (.i2i .i64 (.tmp 29)))⟩]
noncomputable def g73_0:List MStage:=[⟨zg 2 4,[⟨29,none,(.ld1 (.tmp 28))⟩],[]⟩,⟨za 3 30,[],[]⟩]
theorem d73_0:okD s73_0 g73_0:=⟨by kernel_rfl,by kernel_rfl,by kernel_rfl,trivial⟩
noncomputable def s73_1:List MStep:=[za 64 0,yl 65 1 64 1,zc 66 65,⟨(some 67),none,(.p (.i2i .i64 (.tmp 66)))⟩]
noncomputable def g73_1:List MStage:=[⟨zg 2 3,[⟨66,none,(.ld1 (.tmp 65))⟩],[]⟩,⟨za 3 67,[],[]⟩]
theorem d73_1:okD s73_1 g73_1:=⟨by kernel_rfl,by kernel_rfl,by kernel_rfl,trivial⟩
noncomputable def c73:MCode:=g0 [zg 2 0,zg 3 0] (.seq (g0 [za 4 0,zs 5 4,yp 6 5 4,za 7 6,zf 8 7 0,yi 9 7 1 8 1,zn 10 7 9,xh 11 7 10 92,zk 12 7 11,za 13 12,zf 14 13 0,yi 15 13 1 14 3,zn 16 13 15,xh 17 13 16 39,zk 18 13 17] (g2 18 (.seq (g0 [za 19 0,yl 20 1 19 2,zc 21 20] (.block 0 (g0 [yv 23 21 110,za 22 23] (g2 22 (g0 [zg 2 4,zg 3 10] (.ret)) (.seq (g0 [yv 25 21 39,za 24 25] (g2 24 (.skip) (.region [yv 26 21 92,za 24 26]))) (g2 24 (.seq (.dregion s73_0 g73_0) (.ret)) (.skip))))))) (g0 [zg 2 0,zg 3 0] (.ret))) (.skip))) (.seq (g0 [za 31 0,zs 32 31,yp 33 32 3,za 34 33,zf 35 34 0,yi 36 34 1 35 1,zn 37 34 36,⟨(some 38),(some (34,true)),(.p (.bin .geq (.tmp 37) (.const (.int .u8 32))))⟩,zk 39 34 38,za 40 39,zf 41 40 0,yi 42 40 1 41 1,zn 43 40 42,xj 44 40 43 126,zk 45 40 44,za 46 45,zf 47 46 0,yi 48 46 1 47 1,zn 49 46 48,⟨(some 50),(some (46,true)),(.p (.bin .neq (.tmp 49) (.const (.int .u8 39))))⟩,zk 51 46 50,za 52 51,zf 53 52 0,yi 54 52 1 53 1,zn 55 52 54,⟨(some 56),(some (52,true)),(.p (.bin .neq (.tmp 55) (.const (.int .u8 92))))⟩,zk 57 52 56,za 58 57,zf 59 58 0,yi 60 58 1 59 2,zn 61 58 60,xh 62 58 61 39,zk 63 58 62] (g2 63 (.seq (.dregion s73_1 g73_1) (.ret)) (.skip))) (g0 [zg 2 0,zg 3 0] (.ret))))
theorem t73:T 73=some ⟨c73.toC,[.tmp 2,.tmp 3]⟩:=by kernel_rfl
noncomputable def c74:MCode:=g0 [zl 0 0 0] (g0 [⟨(some 1),none,(.bsl 9 [(.string ⟨⟨[]⟩⟩)] 9 [(0,1,(.const (.string ⟨⟨[61,61]⟩⟩))),(1,1,(.const (.string ⟨⟨[47,61]⟩⟩))),(2,1,(.const (.string ⟨⟨[60,61]⟩⟩))),(3,1,(.const (.string ⟨⟨[62,61]⟩⟩))),(4,1,(.const (.string ⟨⟨[60]⟩⟩))),(5,1,(.const (.string ⟨⟨[62]⟩⟩))),(6,1,(.const (.string ⟨⟨[43]⟩⟩))),(7,1,(.const (.string ⟨⟨[45]⟩⟩))),(8,1,(.const (.string ⟨⟨[42]⟩⟩)))])⟩,za 0 1] (.ret))
theorem t74:T 74=some ⟨c74.toC,[.tmp 0]⟩:=by kernel_rfl
noncomputable def c75:MCode:=.seq (g0 [za 2 0,zi 3 2,zb 4 6 3,zc 5 4,yp 6 5 200] (g2 6 (g0 [za 7 0,za 8 0,ze 9 48 8,xa 10 55 7 111 9] (.ret)) (.skip))) (g0 [za 11 0,za 12 0,zi 13 12,zb 14 6 13,zc 15 14,zd 16 15 1,zi 17 11,zb 18 6 17,zr 18 16] (.region [za 19 0,za 20 0,zi 21 20,zb 22 1 21,zc 23 22,zd 24 23 1,zi 25 19,zb 26 1 25,zr 26 24]))
theorem t75:T 75=some ⟨c75.toC,[]⟩:=by kernel_rfl
noncomputable def s76_0:List MStep:=[zq 16 3 3,za 17 0]
noncomputable def g76_0:List MStage:=[⟨ze 18 76 17,[⟨16,none,(.ldN 3 (.tmp 3))⟩],[⟨(some 19),none,(.bsl 59 [(.int .i64 0),(.string ⟨⟨[]⟩⟩),(.slice none 0 0)] 2 [(0,3,(.tmp 16)),(3,3,(.tmp 18))])⟩,⟨(some 20),none,(.p (.build [(.int .i64 0),(.string ⟨⟨[]⟩⟩),(.slice none 0 0)] [(0,1,(.const (.int .i64 3))),(2,1,(.tmp 19))]))⟩]⟩,⟨zv 3 2 20,[],[]⟩]
theorem d76_0:okD s76_0 g76_0:=⟨by kernel_rfl,by kernel_rfl,by kernel_rfl,trivial⟩
noncomputable def c76:MCode:=g0 [⟨(some 2),none,(.alloc 59 [(.int .i64 0),(.string ⟨⟨[]⟩⟩),(.slice none 0 0)])⟩] (g0 [za 4 0,ze 5 90 4,⟨some 3,none,(.ini false 59 [(.int .i64 0),(.string ⟨⟨[]⟩⟩),(.slice none 0 0)] (.tmp 5))⟩] (.seq (g0 [za 6 0,⟨(some 7),none,(.call 29 [(.tmp 6),(.const (.string ⟨⟨[45,62]⟩⟩))])⟩] (g2 7 (g0 [za 8 0,za 9 0,zi 10 9,zb 11 1 10,zc 12 11,zd 13 12 1,zi 14 8,zb 15 1 14,zr 15 13] (.seq (.dregion s76_0 g76_0) (.ret))) (.skip))) (g0 [zq 21 3 3,zv 3 2 21] (.ret))))
theorem t76:T 76=some ⟨c76.toC,[.ldN 3 2]⟩:=by kernel_rfl
noncomputable def c77:MCode:=.region [za 2 0,za 3 0,zi 4 3,zb 5 6 4,zc 6 5,ya 7 6 1,zi 8 2,zb 9 6 8,zr 9 7]
theorem t77:T 77=some ⟨c77.toC,[]⟩:=by kernel_rfl
noncomputable def c78:MCode:=g0 [yb 2] (.seq (g0 [za 3 0,⟨(some 4),none,(.call 29 [(.tmp 3),(.const (.string ⟨⟨[40]⟩⟩))])⟩] (g2 4 (g0 [za 5 0,za 6 0,za 7 0,zi 8 7,zb 9 1 8,zc 10 9,zt 11 91 6 10,⟨(some 12),none,(.call 47 [(.tmp 5),(.tmp 11),(.const (.string ⟨⟨[61,62]⟩⟩))])⟩,za 2 12] (.ret)) (.skip))) (g0 [za 13 0,zm 14 51 13 2,za 15 14,zf 16 15 0,zf 17 15 0,zf 18 15 0,yf 19 15 18,zz 20 15 1 19,zn 21 15 20,xg 22 15 21 1,yj 23 15 91 17 22,⟨(some 24),(some (15,true)),(.call 47 [(.tmp 16),(.tmp 23),(.const (.string ⟨⟨[61,62]⟩⟩))])⟩,zk 25 15 24,za 2 25] (.ret)))
theorem t78:T 78=some ⟨c78.toC,[.tmp 2]⟩:=by kernel_rfl
noncomputable def c79:MCode:=g0 [⟨(some 4),none,(.alloc 119 [(.string ⟨⟨[]⟩⟩),(.int .i64 0),(.string ⟨⟨[]⟩⟩),(.slice none 0 0)])⟩] (g0 [za 6 0,zm 7 50 6 2,⟨(some 8),none,(.p (.build [(.string ⟨⟨[]⟩⟩),(.int .i64 0),(.string ⟨⟨[]⟩⟩),(.slice none 0 0)] [(0,1,(.tmp 7))]))⟩,⟨(some 5),none,(.alloc 119 [(.string ⟨⟨[]⟩⟩),(.int .i64 0),(.string ⟨⟨[]⟩⟩),(.slice none 0 0)])⟩,yd 4 5 8] (.seq (g0 [za 9 1] (g2 9 (.region [za 10 0,zm 11 50 10 1,⟨(some 12),none,(.p (.build [(.int .i64 0),(.string ⟨⟨[]⟩⟩),(.slice none 0 0)] [(0,1,(.const (.int .i64 1))),(1,1,(.tmp 11))]))⟩,zb 13 1 5,yd 3 13 12]) (.region [za 14 0,ze 15 53 14,zb 16 1 5,yd 3 16 15]))) (g0 [zq 17 4 5,zv 4 4 17] (.ret))))
theorem t79:T 79=some ⟨c79.toC,[.ldN 4 4]⟩:=by kernel_rfl
noncomputable def s80_0:List MStep:=[za 16 0,zb 18 1 3,zc 19 18,⟨(some 20),none,(.bsl 9 [(.string ⟨⟨[]⟩⟩)] 1 [(0,1,(.tmp 19))])⟩]
noncomputable def g80_0:List MStage:=[⟨ze 17 39 16,[⟨19,none,(.ld1 (.tmp 18))⟩],[]⟩,⟨zj 21 9 1 16 17 20,[],[]⟩,⟨za 0 21,[],[]⟩]
theorem d80_0:okD s80_0 g80_0:=⟨by kernel_rfl,by kernel_rfl,by kernel_rfl,by kernel_rfl,trivial⟩
noncomputable def l80_1:MCode:=.seq (g0 [za 22 5,zb 23 2 3,zc 24 23,zs 25 24,zp 26 22 25] (g1 26 0)) (.seq (.block 1 (.region [za 29 0,zb 30 2 3,zc 31 30,za 32 5,zh 33 3 31 32,zq 34 3 33,zt 35 80 29 34,za 0 35])) (.region [za 27 5,zd 28 27 1,za 5 28]))
noncomputable def c80:MCode:=g0 [xl 3 59 1,zl 4 0 0] (.seq (g0 [zb 6 0 3,zc 7 6,zo 8 7 1,za 9 8,zf 10 9 0,zz 11 9 1 3,zn 12 9 11,yj 13 9 25 10 12,yq 14 9 13,zk 15 9 14] (g2 15 (.dregion s80_0 g80_0) (.skip))) (.seq (g0 [zg 5 0] (.block 0 (.loop l80_1))) (g0 [za 36 0,za 4 36] (.ret))))
theorem t80:T 80=some ⟨c80.toC,[.tmp 4]⟩:=by kernel_rfl
noncomputable def l81_0:MCode:=.seq (g0 [za 7 0,⟨(some 8),none,(.call 29 [(.tmp 7),(.const (.string ⟨⟨[59]⟩⟩))])⟩] (g1 8 2)) (.block 3 (.region [za 9 0,za 10 0,zi 11 10,zb 12 1 11,zc 13 12,zd 14 13 1,zi 15 9,zb 16 1 15,zr 16 14]))
noncomputable def l81_1:MCode:=.seq (g0 [za 5 0,ze 6 28 5] (g1 6 0)) (.block 1 (.seq (.block 2 (.loop l81_0)) (.seq (g0 [za 17 0,⟨(some 18),none,(.call 29 [(.tmp 17),(.const (.string ⟨⟨[125]⟩⟩))])⟩] (g2 18 (.exit 0) (.skip))) (g0 [za 20 0,za 21 3,za 22 4,zw 23 33 20 21 22,za 19 23,yh 24 19 0,yh 25 19 1,za 3 24,za 4 25] (.region [za 26 0,xf 27 34 26])))))
noncomputable def c81:MCode:=g0 [zl 2 0 0] (g0 [zl 3 0 0] (g0 [zl 4 0 0] (.seq (.block 0 (.loop l81_1)) (g0 [za 28 0,za 29 3,za 30 4,zw 31 35 28 29 30,za 2 31] (.ret)))))
theorem t81:T 81=some ⟨c81.toC,[.tmp 2]⟩:=by kernel_rfl
noncomputable def l82_0:MCode:=.seq (g0 [za 7 0,⟨(some 8),none,(.call 29 [(.tmp 7),(.const (.string ⟨⟨[59]⟩⟩))])⟩] (g1 8 2)) (.block 3 (.region [za 9 0,za 10 0,zi 11 10,zb 12 1 11,zc 13 12,zd 14 13 1,zi 15 9,zb 16 1 15,zr 16 14]))
noncomputable def s82_1:List MStep:=[zb 39 1 4,zc 40 39,za 41 0,zi 42 41,zb 43 0 42,zc 44 43,za 45 0,zi 46 45,zb 47 1 46,zc 48 47,zh 49 4 44 48,zb 50 2 49,zc 51 50,⟨(some 52),none,(.bsl 9 [(.string ⟨⟨[]⟩⟩)] 1 [(0,1,(.tmp 51))])⟩]
noncomputable def g82_1:List MStage:=[⟨zj 53 9 1 16 40 52,[],[zb 54 1 4]⟩,⟨zr 54 53,[],[]⟩]
theorem d82_1:okD s82_1 g82_1:=⟨by kernel_rfl,by kernel_rfl,by kernel_rfl,trivial⟩
noncomputable def l82_2:MCode:=.seq (g0 [za 33 0,zm 34 51 33 1,za 35 34,zu 36 35 0,⟨(some 37),(some (35,false)),(.call 29 [(.tmp 36),(.const (.string ⟨⟨[95]⟩⟩))])⟩,zx 38 35 37] (g1 38 5)) (.block 6 (.seq (.dregion s82_1 g82_1) (.region [za 55 0,za 56 0,zi 57 56,zb 58 1 57,zc 59 58,zd 60 59 1,zi 61 55,zb 62 1 61,zr 62 60])))
noncomputable def tl82_4:MCode:=g0 [za 74 0,⟨(some 75),none,(.call 49 [(.tmp 74),(.const (.string ⟨⟨[45,62]⟩⟩))])⟩] (g0 [za 76 0,ze 77 59 76,zb 78 2 4,yd 7 78 77] (g0 [za 79 3,zq 80 10 4,⟨(some 81),none,(.bsl 135 [(.string ⟨⟨[]⟩⟩),(.slice none 0 0),(.int .i64 0),(.int .i64 0),(.string ⟨⟨[]⟩⟩),(.int .i64 0),(.slice none 0 0),(.slice none 0 0),(.slice none 0 0),(.int .i64 0)] 1 [(0,10,(.tmp 80))])⟩,zj 82 135 10 160 79 81,za 3 82] (g0 [za 83 0,⟨(some 84),none,(.call 29 [(.tmp 83),(.const (.string ⟨⟨[59]⟩⟩))])⟩,ye 85 84,za 86 85,zf 87 86 0,⟨(some 88),(some (86,true)),(.call 29 [(.tmp 87),(.const (.string ⟨⟨[125]⟩⟩))])⟩,yq 89 86 88,zk 90 86 89] (g2 90 (.region [za 91 0,ze 92 36 91]) (.skip)))))
noncomputable def l82_3:MCode:=.seq (g0 [za 5 0,ze 6 28 5] (g1 6 0)) (.block 1 (.seq (.block 2 (.loop l82_0)) (.seq (g0 [za 17 0,⟨(some 18),none,(.call 29 [(.tmp 17),(.const (.string ⟨⟨[125]⟩⟩))])⟩] (g2 18 (g0 [za 19 3,za 2 19] (.ret)) (.skip))) (g0 [za 20 0,ze 21 48 20,⟨(some 22),none,(.p (.build [(.string ⟨⟨[]⟩⟩),(.slice none 0 0),(.int .i64 0),(.int .i64 0),(.string ⟨⟨[]⟩⟩),(.int .i64 0),(.slice none 0 0),(.slice none 0 0),(.slice none 0 0),(.int .i64 0)] [(9,1,(.tmp 21))]))⟩,⟨(some 4),none,(.alloc 135 [(.string ⟨⟨[]⟩⟩),(.slice none 0 0),(.int .i64 0),(.int .i64 0),(.string ⟨⟨[]⟩⟩),(.int .i64 0),(.slice none 0 0),(.slice none 0 0),(.slice none 0 0),(.int .i64 0)])⟩,yd 10 4 22] (.seq (.block 4 (g0 [za 28 0,zm 29 51 28 2,za 27 29] (g2 27 (g0 [za 30 0,zm 31 50 30 2,zb 32 0 4,zr 32 31] (.block 5 (.loop l82_2))) (g0 [za 64 0,⟨(some 65),none,(.call 29 [(.tmp 64),(.const (.string ⟨⟨[95]⟩⟩))])⟩,za 63 65] (g2 63 (.region [za 66 0,za 67 0,zi 68 67,zb 69 1 68,zc 70 69,zd 71 70 1,zi 72 66,zb 73 1 72,zr 73 71]) (.region [za 23 0,zm 24 50 23 1,⟨(some 25),none,(.bsl 9 [(.string ⟨⟨[]⟩⟩)] 1 [(0,1,(.tmp 24))])⟩,zb 26 1 4,zr 26 25])))))) tl82_4)))))
noncomputable def c82:MCode:=g0 [zl 2 0 0] (g0 [zl 3 0 0] (.seq (.block 0 (.loop l82_3)) (g0 [za 93 3,za 2 93] (.ret))))
theorem t82:T 82=some ⟨c82.toC,[.tmp 2]⟩:=by kernel_rfl
noncomputable def l83_0:MCode:=.seq (g0 [za 6 0,⟨(some 7),none,(.bsl 9 [(.string ⟨⟨[]⟩⟩)] 2 [(0,1,(.const (.string ⟨⟨[43]⟩⟩))),(1,1,(.const (.string ⟨⟨[45]⟩⟩)))])⟩,zt 8 84 6 7] (g1 8 0)) (.block 1 (.region [za 9 0,zq 10 7 3,ys 11 85 9 10 1,yd 7 3 11]))
noncomputable def c83:MCode:=g0 [⟨(some 2),none,(.alloc 65 [(.int .i64 0),(.int .i64 0),(.string ⟨⟨[]⟩⟩),(.int .i64 0),(.slice none 0 0),(.slice none 0 0),(.slice none 0 0)])⟩] (g0 [za 4 0,ze 5 92 4,⟨(some 3),none,(.alloc 65 [(.int .i64 0),(.int .i64 0),(.string ⟨⟨[]⟩⟩),(.int .i64 0),(.slice none 0 0),(.slice none 0 0),(.slice none 0 0)])⟩,yd 7 3 5] (.seq (.block 0 (.loop l83_0)) (g0 [zq 12 7 3,zv 7 2 12] (.ret))))
theorem t83:T 83=some ⟨c83.toC,[.ldN 7 2]⟩:=by kernel_rfl
noncomputable def s84_0:List MStep:=[za 5 0]
noncomputable def g84_0:List MStage:=[⟨zm 6 51 5 5,[],[za 7 6,zf 8 7 1,zf 9 7 0,yf 10 7 9,zz 11 7 0 10,zn 12 7 11,zf 13 7 0,yf 14 7 13,zz 15 7 1 14,zn 16 7 15,yc 17 7 4 12 16,zz 18 7 2 17,zn 19 7 18]⟩,⟨yj 20 7 25 8 19,[],[zk 21 7 20]⟩,⟨za 4 21,[],[]⟩]
theorem d84_0:okD s84_0 g84_0:=⟨by kernel_rfl,by kernel_rfl,by kernel_rfl,by kernel_rfl,trivial⟩
noncomputable def c84:MCode:=g0 [yb 4] (.seq (.dregion s84_0 g84_0) (.ret))
theorem t84:T 84=some ⟨c84.toC,[.tmp 4]⟩:=by kernel_rfl
noncomputable def s85_0:List MStep:=[zq 27 7 8,zq 28 7 4,za 29 7,zq 31 7 9,za 32 7]
noncomputable def g85_0:List MStage:=[⟨zw 30 94 27 28 29,[⟨31,none,(.ldN 7 (.tmp 9))⟩],[]⟩,⟨zw 33 94 30 31 32,[],[]⟩,⟨zv 7 6 33,[],[]⟩]
theorem d85_0:okD s85_0 g85_0:=⟨by kernel_rfl,by kernel_rfl,by kernel_rfl,by kernel_rfl,trivial⟩
noncomputable def c85:MCode:=g0 [xl 4 65 1,⟨(some 6),none,(.alloc 65 [(.int .i64 0),(.int .i64 0),(.string ⟨⟨[]⟩⟩),(.int .i64 0),(.slice none 0 0),(.slice none 0 0),(.slice none 0 0)])⟩] (g0 [za 10 0,ze 11 48 10,za 7 11] (g0 [za 12 7,za 13 0,zm 14 50 13 5,⟨(some 15),none,(.p (.build [(.int .i64 0),(.int .i64 0),(.string ⟨⟨[]⟩⟩),(.int .i64 0),(.slice none 0 0),(.slice none 0 0),(.slice none 0 0)] [(0,1,(.const (.int .i64 1))),(1,1,(.tmp 12)),(2,1,(.tmp 14))]))⟩,⟨some 8,none,(.ini false 65 [(.int .i64 0),(.int .i64 0),(.string ⟨⟨[]⟩⟩),(.int .i64 0),(.slice none 0 0),(.slice none 0 0),(.slice none 0 0)] (.tmp 15))⟩] (g0 [⟨(some 9),none,(.alloc 65 [(.int .i64 0),(.int .i64 0),(.string ⟨⟨[]⟩⟩),(.int .i64 0),(.slice none 0 0),(.slice none 0 0),(.slice none 0 0)])⟩] (.seq (g0 [za 16 2] (.block 0 (g0 [zo 20 16 0,za 19 20] (g2 19 (.region [za 21 0,ze 22 83 21,zv 7 9 22]) (g0 [zo 24 16 1,za 23 24] (g2 23 (.region [za 25 0,ze 26 92 25,zv 7 9 26]) (.region [za 17 0,ze 18 93 17,zv 7 9 18]))))))) (.seq (.dregion s85_0 g85_0) (.ret))))))
theorem t85:T 85=some ⟨c85.toC,[.ldN 7 6]⟩:=by kernel_rfl
noncomputable def l86_0:MCode:=.seq (g0 [za 16 6,za 17 0,zs 18 17,zp 19 16 18] (g1 19 0)) (.seq (.block 1 (g0 [za 22 0,za 23 6,zh 24 1 22 23,zc 25 24,za 7 25] (g0 [za 26 1,za 27 7,⟨(some 28),none,(.callv (.tmp 26) [(.tmp 27)])⟩,ye 29 28] (g2 29 (g0 [za 30 0,za 31 5,za 32 7,zh 33 1 30 31,zr 33 32] (.region [za 34 5,zd 35 34 1,za 5 35])) (.skip))))) (.region [za 20 6,zd 21 20 1,za 6 21]))
noncomputable def c86:MCode:=g0 [zl 4 0 0] (g0 [za 8 0,za 9 1,zt 10 95 8 9,za 5 10] (.seq (g0 [za 11 5,⟨(some 12),none,(.p (.bin .eql (.tmp 11) (.const (.int .i64 (-1)))))⟩] (g2 12 (g0 [za 13 0,za 4 13] (.ret)) (.skip))) (.seq (g0 [za 14 5,zd 15 14 1,za 6 15] (.block 0 (.loop l86_0))) (g0 [za 36 0,za 37 5,⟨(some 38),none,(.p (.slV 9 1 (.tmp 36) (some (.tmp 37)) none none))⟩,⟨none,none,(.oth (.e (.clearV [(.string ⟨⟨[]⟩⟩)] (.tmp 38))))⟩] (g0 [za 39 0,za 40 5,xm 41 9 1 39 40,za 4 41] (.ret))))))
theorem t86:T 86=some ⟨c86.toC,[.tmp 4]⟩:=by kernel_rfl
noncomputable def c87:MCode:=g0 [zl 2 0 0] (.seq (g0 [za 3 0,⟨(some 4),none,(.p (.isnil false (.slice none 0 0) (.tmp 3)))⟩] (g2 4 (g0 [zl 2 0 0] (.ret)) (.skip))) (g0 [⟨(some 5),none,(.oth (.a (.bsl 9 [(.string ⟨⟨[]⟩⟩)] 0 [])))⟩,za 6 0,zj 7 9 1 16 5 6,za 2 7] (.ret)))
theorem t87:T 87=some ⟨c87.toC,[.tmp 2]⟩:=by kernel_rfl
noncomputable def c88:MCode:=g0 [yb 2] (g0 [za 3 0,⟨(some 4),none,(.p (.bin .eql (.tmp 3) (.const (.string ⟨⟨[95]⟩⟩))))⟩,za 2 4] (.ret))
theorem t88:T 88=some ⟨c88.toC,[.tmp 2]⟩:=by kernel_rfl
noncomputable def c89:MCode:=g0 [zl 0 0 0] (g0 [⟨(some 1),none,(.bsl 9 [(.string ⟨⟨[]⟩⟩)] 12 [(0,1,(.const (.string ⟨⟨[100,97,116,97]⟩⟩))),(1,1,(.const (.string ⟨⟨[99,108,97,115,115]⟩⟩))),(2,1,(.const (.string ⟨⟨[105,110,115,116,97,110,99,101]⟩⟩))),(3,1,(.const (.string ⟨⟨[119,104,101,114,101]⟩⟩))),(4,1,(.const (.string ⟨⟨[108,101,116]⟩⟩))),(5,1,(.const (.string ⟨⟨[105,110]⟩⟩))),(6,1,(.const (.string ⟨⟨[99,97,115,101]⟩⟩))),(7,1,(.const (.string ⟨⟨[111,102]⟩⟩))),(8,1,(.const (.string ⟨⟨[105,102]⟩⟩))),(9,1,(.const (.string ⟨⟨[116,104,101,110]⟩⟩))),(10,1,(.const (.string ⟨⟨[101,108,115,101]⟩⟩))),(11,1,(.const (.string ⟨⟨[100,101,114,105,118,105,110,103]⟩⟩)))])⟩,za 0 1] (.ret))
theorem t89:T 89=some ⟨c89.toC,[.tmp 0]⟩:=by kernel_rfl
noncomputable def s90_0:List MStep:=[zb 14 2 3,zc 15 14,za 16 0]
noncomputable def g90_0:List MStage:=[⟨ze 17 53 16,[⟨15,none,(.ld1 (.tmp 14))⟩],[⟨(some 18),none,(.bsl 59 [(.int .i64 0),(.string ⟨⟨[]⟩⟩),(.slice none 0 0)] 1 [(0,3,(.tmp 17))])⟩]⟩,⟨zj 19 59 3 48 15 18,[],[zb 20 2 3]⟩,⟨zr 20 19,[],[]⟩]
theorem d90_0:okD s90_0 g90_0:=⟨by kernel_rfl,by kernel_rfl,by kernel_rfl,by kernel_rfl,trivial⟩
noncomputable def l90_1:MCode:=.seq (g0 [za 12 0,ze 13 52 12] (g1 13 0)) (.block 1 (.dregion s90_0 g90_0))
noncomputable def c90:MCode:=g0 [⟨(some 2),none,(.alloc 59 [(.int .i64 0),(.string ⟨⟨[]⟩⟩),(.slice none 0 0)])⟩] (.seq (g0 [za 4 0,zm 5 51 4 2,ye 6 5] (g2 6 (g0 [za 7 0,ze 8 53 7,zv 3 2 8] (.ret)) (.skip))) (g0 [za 9 0,zm 10 50 9 2,⟨(some 11),none,(.p (.build [(.int .i64 0),(.string ⟨⟨[]⟩⟩),(.slice none 0 0)] [(0,1,(.const (.int .i64 2))),(1,1,(.tmp 10))]))⟩,⟨(some 3),none,(.alloc 59 [(.int .i64 0),(.string ⟨⟨[]⟩⟩),(.slice none 0 0)])⟩,yd 3 3 11] (.seq (.block 0 (.loop l90_1)) (g0 [zq 21 3 3,zv 3 2 21] (.ret)))))
theorem t90:T 90=some ⟨c90.toC,[.ldN 3 2]⟩:=by kernel_rfl
noncomputable def l91_0:MCode:=.seq (g0 [za 12 1,za 13 0,zi 14 13,zb 15 0 14,zc 16 15,zs 17 16,zp 18 12 17] (g1 18 0)) (.seq (.block 1 (.seq (g0 [za 21 0,za 22 1,⟨(some 23),none,(.call 47 [(.tmp 21),(.tmp 22),(.const (.string ⟨⟨[40]⟩⟩))])⟩] (g2 23 (.region [za 24 5,zd 25 24 1,za 5 25]) (.skip))) (g0 [za 26 0,za 27 1,⟨(some 28),none,(.call 47 [(.tmp 26),(.tmp 27),(.const (.string ⟨⟨[41]⟩⟩))])⟩] (g2 28 (g0 [za 29 5,ya 30 29 1,za 5 30] (g0 [za 31 5,zo 32 31 0] (g2 32 (g0 [za 33 1,zd 34 33 1,za 4 34] (.ret)) (.skip)))) (.skip))))) (.region [za 19 1,zd 20 19 1,za 1 20]))
noncomputable def c91:MCode:=g0 [zg 4 0] (.seq (g0 [za 6 0,za 7 1,⟨(some 8),none,(.call 47 [(.tmp 6),(.tmp 7),(.const (.string ⟨⟨[40]⟩⟩))])⟩,ye 9 8] (g2 9 (g0 [za 10 1,zd 11 10 1,za 4 11] (.ret)) (.skip))) (g0 [zg 5 0] (.seq (.block 0 (.loop l91_0)) (g0 [za 35 1,za 4 35] (.ret)))))
theorem t91:T 91=some ⟨c91.toC,[.tmp 4]⟩:=by kernel_rfl
noncomputable def l92_0:MCode:=.seq (g0 [za 6 0,⟨(some 7),none,(.bsl 9 [(.string ⟨⟨[]⟩⟩)] 1 [(0,1,(.const (.string ⟨⟨[42]⟩⟩)))])⟩,zt 8 84 6 7] (g1 8 0)) (.block 1 (.region [za 9 0,zq 10 7 3,ys 11 85 9 10 2,yd 7 3 11]))
noncomputable def c92:MCode:=g0 [⟨(some 2),none,(.alloc 65 [(.int .i64 0),(.int .i64 0),(.string ⟨⟨[]⟩⟩),(.int .i64 0),(.slice none 0 0),(.slice none 0 0),(.slice none 0 0)])⟩] (g0 [za 4 0,ze 5 93 4,⟨(some 3),none,(.alloc 65 [(.int .i64 0),(.int .i64 0),(.string ⟨⟨[]⟩⟩),(.int .i64 0),(.slice none 0 0),(.slice none 0 0),(.slice none 0 0)])⟩,yd 7 3 5] (.seq (.block 0 (.loop l92_0)) (g0 [zq 12 7 3,zv 7 2 12] (.ret))))
theorem t92:T 92=some ⟨c92.toC,[.ldN 7 2]⟩:=by kernel_rfl
noncomputable def l93_0:MCode:=.seq (g0 [za 7 0,ze 8 97 7] (g1 8 0)) (.block 1 (g0 [za 9 0,ze 10 96 9,⟨some 4,none,(.ini false 65 [(.int .i64 0),(.int .i64 0),(.string ⟨⟨[]⟩⟩),(.int .i64 0),(.slice none 0 0),(.slice none 0 0),(.slice none 0 0)] (.tmp 10))⟩] (.region [zq 11 7 3,zq 12 7 4,zb 13 1 3,zc 14 13,zw 15 94 11 12 14,yd 7 3 15])))
noncomputable def c93:MCode:=g0 [⟨(some 2),none,(.alloc 65 [(.int .i64 0),(.int .i64 0),(.string ⟨⟨[]⟩⟩),(.int .i64 0),(.slice none 0 0),(.slice none 0 0),(.slice none 0 0)])⟩] (g0 [za 5 0,ze 6 96 5,⟨(some 3),none,(.alloc 65 [(.int .i64 0),(.int .i64 0),(.string ⟨⟨[]⟩⟩),(.int .i64 0),(.slice none 0 0),(.slice none 0 0),(.slice none 0 0)])⟩,yd 7 3 6] (.seq (.block 0 (.loop l93_0)) (g0 [zq 16 7 3,zv 7 2 16] (.ret))))
theorem t93:T 93=some ⟨c93.toC,[.ldN 7 2]⟩:=by kernel_rfl
noncomputable def c94:MCode:=g0 [xl 3 65 0,xl 4 65 1,⟨(some 6),none,(.alloc 65 [(.int .i64 0),(.int .i64 0),(.string ⟨⟨[]⟩⟩),(.int .i64 0),(.slice none 0 0),(.slice none 0 0),(.slice none 0 0)])⟩] (g0 [za 7 2,zq 8 7 3,zq 9 7 4,⟨(some 10),none,(.bsl 65 [(.int .i64 0),(.int .i64 0),(.string ⟨⟨[]⟩⟩),(.int .i64 0),(.slice none 0 0),(.slice none 0 0),(.slice none 0 0)] 2 [(0,7,(.tmp 8)),(7,7,(.tmp 9))])⟩,⟨(some 11),none,(.p (.build [(.int .i64 0),(.int .i64 0),(.string ⟨⟨[]⟩⟩),(.int .i64 0),(.slice none 0 0),(.slice none 0 0),(.slice none 0 0)] [(0,1,(.const (.int .i64 5))),(1,1,(.tmp 7)),(4,1,(.tmp 10))]))⟩,zv 7 6 11] (.ret))
theorem t94:T 94=some ⟨c94.toC,[.ldN 7 6]⟩:=by kernel_rfl
noncomputable def l95_0:MCode:=g0 [zp 9 8 7] (.seq (g1 9 0) (.seq (.block 1 (g0 [za 10 8,za 5 10] (g0 [za 11 1,za 12 0,za 13 5,zh 14 1 12 13,zc 15 14,⟨(some 16),none,(.callv (.tmp 11) [(.tmp 15)])⟩] (g2 16 (g0 [za 17 5,za 4 17] (.ret)) (.skip))))) (.region [zd 18 8 1,za 8 18])))
noncomputable def c95:MCode:=g0 [zg 4 0] (.seq (g0 [za 6 0,zs 7 6,zg 8 0] (.block 0 (.loop l95_0))) (g0 [xe 4 1] (.ret)))
theorem t95:T 95=some ⟨c95.toC,[.tmp 4]⟩:=by kernel_rfl
noncomputable def s96_0:List MStep:=[za 11 0,zi 12 11,zb 13 0 12,zc 14 13,za 15 0,zi 16 15,zb 17 1 16,zc 18 17,zh 19 4 14 18,zq 20 4 19,⟨(some 3),none,(.alloc 106 [(.int .i64 0),(.int .i64 0),(.string ⟨⟨[]⟩⟩),(.int .i64 0)])⟩]
noncomputable def g96_0:List MStage:=[⟨zv 4 3 20,[],[]⟩]
theorem d96_0:okD s96_0 g96_0:=⟨by kernel_rfl,by kernel_rfl,trivial⟩
noncomputable def s96_1:List MStep:=[za 26 0,zi 27 26,zb 28 1 27,zc 29 28,zd 30 29 1,za 31 0,zi 32 31,zb 33 0 32,zc 34 33,zs 35 34,zp 36 30 35,za 37 36,zf 38 37 0,yf 39 37 38,zz 40 37 0 39,zn 41 37 40,zf 42 37 0,yf 43 37 42,zz 44 37 1 43,zn 45 37 44,xg 46 37 45 1,yc 47 37 4 41 46,zz 48 37 0 47,zn 49 37 48,yy 50 37 49 5,zk 51 37 50]
noncomputable def g96_1:List MStage:=[]
theorem d96_1:okD s96_1 g96_1:=⟨by kernel_rfl,trivial⟩
noncomputable def s96_2:List MStep:=[za 53 0,zi 54 53,zb 55 0 54,zc 56 55,za 57 0,zi 58 57,zb 59 1 58,zc 60 59,zd 61 60 1,zh 62 4 56 61,zb 63 1 62,zc 64 63,zb 65 1 4]
noncomputable def g96_2:List MStage:=[⟨zr 65 64,[],[]⟩]
theorem d96_2:okD s96_2 g96_2:=⟨by kernel_rfl,by kernel_rfl,trivial⟩
noncomputable def s96_3:List MStep:=[za 66 0,zi 67 66,zb 68 0 67,zc 69 68,za 70 0,zi 71 70,zb 72 1 71,zc 73 72,zd 74 73 1,zh 75 4 69 74,zb 76 2 75,zc 77 76,zb 78 2 4]
noncomputable def g96_3:List MStage:=[⟨zr 78 77,[],[]⟩]
theorem d96_3:okD s96_3 g96_3:=⟨by kernel_rfl,by kernel_rfl,trivial⟩
noncomputable def c96:MCode:=g0 [⟨(some 2),none,(.alloc 65 [(.int .i64 0),(.int .i64 0),(.string ⟨⟨[]⟩⟩),(.int .i64 0),(.slice none 0 0),(.slice none 0 0),(.slice none 0 0)])⟩] (.seq (g0 [za 5 0,ze 6 97 5,ye 7 6] (g2 7 (g0 [za 8 0,ze 9 36 8] (g0 [⟨(some 10),none,(.p (.build [(.int .i64 0),(.int .i64 0),(.string ⟨⟨[]⟩⟩),(.int .i64 0),(.slice none 0 0),(.slice none 0 0),(.slice none 0 0)] []))⟩,zv 7 2 10] (.ret))) (.skip))) (.seq (.dregion s96_0 g96_0) (g0 [zb 21 1 3,zc 22 21,⟨(some 23),none,(.p (.build [(.int .i64 0),(.int .i64 0),(.string ⟨⟨[]⟩⟩),(.int .i64 0),(.slice none 0 0),(.slice none 0 0),(.slice none 0 0)] [(1,1,(.tmp 22))]))⟩,⟨(some 4),none,(.alloc 65 [(.int .i64 0),(.int .i64 0),(.string ⟨⟨[]⟩⟩),(.int .i64 0),(.slice none 0 0),(.slice none 0 0),(.slice none 0 0)])⟩,yd 7 4 23] (.seq (g0 [zb 24 0 3,zc 25 24] (.block 0 (g0 [zo 100 25 1,za 99 100] (g2 99 (g0 [zb 101 0 4,xp 101 1] (.region [zb 102 2 3,zc 103 102,zb 104 2 4,zr 104 103])) (g0 [zo 106 25 2,za 105 106] (g2 105 (g0 [zb 107 0 4,xp 107 2] (.region [zb 108 2 3,zc 109 108,zb 110 2 4,zr 110 109])) (g0 [zo 112 25 3,za 111 112] (g2 111 (g0 [zb 113 0 4,xp 113 3] (.region [zb 114 3 3,zc 115 114,zb 116 3 4,zr 116 115])) (g0 [zo 118 25 4,za 117 118] (g2 117 (g0 [zb 119 0 4,xp 119 4] (.region [zb 120 3 3,zc 121 120,zb 122 3 4,zr 122 121])) (.seq (.seq (.dregion s96_1 g96_1) (g2 51 (g0 [zb 52 0 4,xp 52 1] (.seq (.dregion s96_2 g96_2) (.seq (.dregion s96_3 g96_3) (g0 [za 79 0,za 80 0,zi 81 80,zb 82 1 81,zc 83 82,zd 84 83 2,zi 85 79,zb 86 1 85,zr 86 84] (g0 [za 87 0,⟨(some 88),none,(.call 49 [(.tmp 87),(.const (.string ⟨⟨[41]⟩⟩))])⟩] (g0 [zq 89 7 4,zv 7 2 89] (.ret))))))) (.skip))) (g0 [za 90 0,ze 91 75 90] (g0 [za 92 0,ze 93 59 92,yd 7 4 93] (g0 [za 94 0,⟨(some 95),none,(.call 49 [(.tmp 94),(.const (.string ⟨⟨[41]⟩⟩))])⟩] (g0 [za 96 0,ze 97 77 96] (g0 [zq 98 7 4,zv 7 2 98] (.ret))))))))))))))))) (g0 [za 123 0,za 124 0,zi 125 124,zb 126 1 125,zc 127 126,zd 128 127 1,zi 129 123,zb 130 1 129,zr 130 128] (g0 [zq 131 7 4,zv 7 2 131] (.ret)))))))
theorem t96:T 96=some ⟨c96.toC,[.ldN 7 2]⟩:=by kernel_rfl
noncomputable def c97:MCode:=g0 [yb 2] (g0 [za 3 0,zm 4 51 3 1,za 5 4,zu 6 5 0,xk 7 5 51 6 2,zx 8 5 7,za 9 8,zu 10 9 0,xk 11 9 51 10 3,zx 12 9 11,za 13 12,zu 14 13 0,xk 15 13 51 14 4,zx 16 13 15,za 17 16,zu 18 17 0,⟨(some 19),(some (17,false)),(.call 29 [(.tmp 18),(.const (.string ⟨⟨[40]⟩⟩))])⟩,zx 20 17 19,za 2 20] (.ret))
theorem t97:T 97=some ⟨c97.toC,[.tmp 2]⟩:=by kernel_rfl
noncomputable def tl7_0:MCode:=.seq (g0 [za 41 0,zm 42 19 41 4,za 5 42] (.block 0 (.loop l7_0))) (.seq (g0 [za 76 0,zm 77 19 76 2,zo 78 77 0] (g2 78 (.region [za 79 3,⟨(some 80),none,(.p (.bin .add (.tmp 79) (.const (.string ⟨⟨[109,97,105,110,32,61,32]⟩⟩))))⟩,za 81 0,za 82 4,ys 83 21 81 82 3,zy 84 80 83,⟨(some 85),none,(.p (.bin .add (.tmp 84) (.const (.string ⟨⟨[10]⟩⟩))))⟩,za 3 85]) (.skip))) (g0 [za 86 3,za 2 86] (.ret)))
noncomputable def c7x:MCode:=g0 [⟨(some 2),none,(.p (.mov (.const (.string ⟨⟨[]⟩⟩))))⟩] (g0 [⟨(some 3),none,(.p (.mov (.const (.string ⟨⟨[]⟩⟩))))⟩] (g0 [zl 4 0 0] (.seq (g0 [za 7 0,zm 8 19 7 3,yg 9 8 0] (g2 9 (g0 [za 10 3,⟨(some 11),none,(.p (.bin .add (.tmp 10) (.const (.string ⟨⟨[100,97,116,97,32,84,32,97,32,61,32,65,32,124,32,66,32,97,32,40,84,32,97,41,32,124,32,67,32,73,110,116]⟩⟩))))⟩,za 12 0,⟨(some 13),none,(.bsl 9 [(.string ⟨⟨[]⟩⟩)] 5 [(0,1,(.const (.string ⟨⟨[]⟩⟩))),(1,1,(.const (.string ⟨⟨[32,100,101,114,105,118,105,110,103,32,40,69,113,41]⟩⟩))),(2,1,(.const (.string ⟨⟨[32,100,101,114,105,118,105,110,103,32,40,69,113,44,32,79,114,100,41]⟩⟩))),(3,1,(.const (.string ⟨⟨[32,100,101,114,105,118,105,110,103,32,40,69,113,44,32,79,114,100,44,32,83,104,111,119,41]⟩⟩))),(4,1,(.const (.string ⟨⟨[32,100,101,114,105,118,105,110,103,32,83,104,111,119]⟩⟩)))])⟩,zt 14 20 12 13,zy 15 11 14,⟨(some 16),none,(.p (.bin .add (.tmp 15) (.const (.string ⟨⟨[59,10]⟩⟩))))⟩,za 3 16] (g0 [za 17 4,⟨(some 18),none,(.bsl 9 [(.string ⟨⟨[]⟩⟩)] 3 [(0,1,(.const (.string ⟨⟨[65]⟩⟩))),(1,1,(.const (.string ⟨⟨[66]⟩⟩))),(2,1,(.const (.string ⟨⟨[67]⟩⟩)))])⟩,zj 19 9 1 16 17 18,za 4 19] (g0 [za 20 0,zm 21 19 20 2,zo 22 21 0] (g2 22 (g0 [za 23 3,za 24 0,⟨(some 25),none,(.bsl 9 [(.string ⟨⟨[]⟩⟩)] 3 [(0,1,(.const (.string ⟨⟨[99,108,97,115,115,32,83,105,122,101,32,97,32,119,104,101,114,101,32,123,32,115,105,122,101,32,58,58,32,97,32,45,62,32,73,110,116,59,32,116,119,105,99,101,32,58,58,32,97,32,45,62,32,73,110,116,59,32,116,119,105,99,101,32,61,32,92,120,32,45,62,32,115,105,122,101,32,120,32,43,32,115,105,122,101,32,120,32,125,59,10]⟩⟩))),(1,1,(.const (.string ⟨⟨[99,108,97,115,115,32,69,113,32,97,32,61,62,32,83,105,122,101,32,97,32,119,104,101,114,101,32,123,32,115,105,122,101,32,58,58,32,97,32,45,62,32,73,110,116,32,125,59,10]⟩⟩))),(2,1,(.const (.string ⟨⟨[99,108,97,115,115,32,83,105,122,101,32,97,32,119,104,101,114,101,32,123,32,115,105,122,101,32,58,58,32,97,32,45,62,32,98,32,45,62,32,73,110,116,32,125,59,10]⟩⟩)))])⟩,zt 26 20 24 25,zy 27 23 26,za 3 27] (g0 [za 28 3,za 29 0,⟨(some 30),none,(.bsl 9 [(.string ⟨⟨[]⟩⟩)] 3 [(0,1,(.const (.string ⟨⟨[105,110,115,116,97,110,99,101,32,83,105,122,101,32,73,110,116,32,119,104,101,114,101,32,123,32,115,105,122,101,32,120,32,61,32,49,32,125,59,10]⟩⟩))),(1,1,(.const (.string ⟨⟨[105,110,115,116,97,110,99,101,32,83,105,122,101,32,73,110,116,32,119,104,101,114,101,32,123,32,115,105,122,101,32,61,32,92,120,32,45,62,32,120,32,125,59,10]⟩⟩))),(2,1,(.const (.string ⟨⟨[]⟩⟩)))])⟩,zt 31 20 29 30,zy 32 28 31,za 3 32] (g0 [za 33 3,za 34 0,⟨(some 35),none,(.bsl 9 [(.string ⟨⟨[]⟩⟩)] 3 [(0,1,(.const (.string ⟨⟨[105,110,115,116,97,110,99,101,32,83,105,122,101,32,97,32,61,62,32,83,105,122,101,32,40,84,32,97,41,32,119,104,101,114,101,32,123,32,115,105,122,101,32,120,32,61,32,99,97,115,101,32,120,32,111,102,32,123,32,66,32,104,32,114,32,45,62,32,115,105,122,101,32,104,32,43,32,115,105,122,101,32,114,59,32,95,32,45,62,32,48,32,125,32,125,59,10]⟩⟩))),(1,1,(.const (.string ⟨⟨[105,110,115,116,97,110,99,101,32,83,105,122,101,32,40,84,32,97,41,32,119,104,101,114,101,32,123,32,115,105,122,101,32,120,32,61,32,50,32,125,59,10]⟩⟩))),(2,1,(.const (.string ⟨⟨[]⟩⟩)))])⟩,zt 36 20 34 35,zy 37 33 36,za 3 37] (.region [za 38 4,⟨(some 39),none,(.bsl 9 [(.string ⟨⟨[]⟩⟩)] 1 [(0,1,(.const (.string ⟨⟨[115,105,122,101]⟩⟩)))])⟩,zj 40 9 1 16 38 39,za 4 40])))) (.skip))))) (.skip))) tl7_0)))
theorem t7x:T 7=some ⟨c7x.toC,[.tmp 2]⟩:=t7
noncomputable def c87x:MCode:=g0 [zl 2 0 0] (.seq (g0 [za 3 0,⟨(some 4),none,(.oth (.p (.isnil false (.slice none 0 0) (.tmp 3))))⟩] (g2 4 (g0 [zl 2 0 0] (.ret)) (.skip))) (g0 [⟨(some 5),none,(.oth (.a (.bsl 9 [(.string ⟨⟨[]⟩⟩)] 0 [])))⟩,za 6 0,zj 7 9 1 16 5 6,za 2 7] (.ret)))
theorem t87x:T 87=some ⟨c87x.toC,[.tmp 2]⟩:=t87
noncomputable def c26x:MCode:=g0 [zl 6 0 0] (g0 [za 12 0,yz 13 4 1 12 12,za 7 13] (g0 [za 14 2,⟨(some 15),none,(.oth (.a (.bsl 3 [(.int .i64 0)] 1 [(0,1,(.tmp 14))])))⟩,za 8 15] (.seq (.skip) (.seq (.block 0 (.loop l26_1)) (g0 [za 58 7,za 6 58] (.ret))))))
theorem t26x:T 26=some ⟨c26x.toC,[.tmp 6]⟩:=t26
end Go.Proofs.Ytkopkbhpompmnaa.code
namespace Go.Proofs.Ytkopkbhpompmnaa.p
open Go.Proofs Go Go.Cn code
set_option linter.unusedSimpArgs false
set_option linter.unusedVariables false
theorem _root_.Go.Cn.AH.set_eq {h:AH}{b:Nat}{o:AO}(hb:h.objs b=some o):h.set b o=h:=by
 obtain⟨objs,toks⟩:=h
 unfold AH.set
 congr 1
 funext n
 simp only[upd]
 split
 ·rename_i e;rw[e];exact hb.symm
 ·rfl
abbrev Nm:=List UInt8
structure Tk where
 kind:Int
 pos:Int
 text:Nm
 n:Int
structure St where
 i:Nat
 code:Int
 pl:Bool
 bp:Int
 deep:Int
def tkR (t:Tk):List AV:=[.int .i64 t.kind,.int .i64 t.pos,.str t.text,.int .i64 t.n]
def tkC (ts:List Tk):List (List AV):=ts.map tkR
theorem tkC_len (ts:List Tk):(tkC ts).length=ts.length:=by rw[tkC,List.length_map]
theorem tkC_get {ts:List Tk}{i:Nat}(h:i<ts.length):(tkC ts)[i]?=some [.int .i64 (ts[i]).kind,.int .i64 (ts[i]).pos,.str (ts[i]).text,.int .i64 (ts[i]).n]:=by rw[tkC,List.getElem?_map,List.getElem?_eq_getElem h];rfl
def parO (ts:List Tk)(e:Int)(s:St):AO:=.cells [.lst 106 (tkC ts) .no,.int .i64 (s.i:Nat),.int .i64 e,.int .i64 s.code,.bool s.pl,.int .i64 s.bp,.int .i64 s.deep] 76
theorem get2 {α:Type}{l:List α}{i:Nat}(h:i<l.length):l[i]?=some l[i]:=List.getElem?_eq_getElem h
section
variable (ts:List Tk)(e:Int)
def fineS (s:St):Bool:=decide (s.code=0)
def posS (s:St):Int:=match ts[s.i]? with|some t=>t.pos|none=>e
def amissS (c p:Int)(s:St):St:=if fineS s then {s with code:=c,pl:=true,bp:=p} else s
def wrongS (s:St):St:=amissS 102 (posS ts e s) s
def kindS (k:Int)(s:St):Bool:=fineS s&&match ts[s.i]? with|some t=>decide (t.kind=k)|none=>false
def atS (i:Nat)(str:Nm)(s:St):Bool:=fineS s&&match ts[i]? with|some t=>decide (t.kind=6)&&decide (t.text=str)|none=>false
def isS (str:Nm)(s:St):Bool:=atS ts s.i str s
def nextS (s:St):St:={s with i:=s.i+1}
def takeS (str:Nm)(s:St):St:=if isS ts str s then nextS s else wrongS ts e s
def textS (s:St):Nm:=match ts[s.i]? with|some t=>t.text|none=>[]
def wordS (k:Int)(s:St):Nm×St:=if kindS ts k s then (textS ts s,nextS s) else ([],wrongS ts e s)
def openS (s:St):St:=if 200<=s.deep then amissS 111 (posS ts e s) s else {s with deep:=IntKind.i64.wrap (s.deep+1),i:=s.i+1}
def shutS (s:St):St:={s with deep:=IntKind.i64.wrap (s.deep-1)}
def PC (f:Nat)(args:List AV)(v:AV)(s s':St):Prop:=
 ∀(K:Nat->Prop)(h:AH)(b:Nat),¬K b->ACall T K (.func f) (.ptr b 0::args) (h.set b (parO ts e s)) fun w h'=>w=v/\h'=h.set b (parO ts e s')
end
section
variable {ts:List Tk}{e:Int}
theorem PC.use {f:Nat}{args:List AV}{v:AV}{s s':St}(hp:PC ts e f args v s s'){K:Nat->Prop}{h:AH}{b:Nat}{Q:AV->AH->Prop}(hb:h.objs b=some (parO ts e s))(hk:¬K b)(hq:Q v (h.set b (parO ts e s'))):ACall T K (.func f) (.ptr b 0::args) h Q:=by
 have:=hp K h b hk
 rw[AH.set_eq hb] at this
 exact this.mono fun w h' ⟨h1,h2⟩=>by rw[h1,h2];exact hq
theorem PC.intro {f:Nat}{c:MCode}{res:List CRes}{args:List AV}{v:AV}{s s':St}(hf:T f=some ⟨c.toC,res⟩)
  (hw:∀(K:Nat->Prop)(h:AH)(b:Nat),¬K b->(∀o,KOk K (h.set b o))->wpC T K c (initA (.ptr b 0::args)) (h.set b (parO ts e s)) (RetQ K res fun w h'=>w=v/\h'=h.set b (parO ts e s'))):PC ts e f args v s s':=by
 intro K h b hk
 refine ACall.retQ hf fun hK=>hw K h b hk fun o=>?_
 have:=hK.set b o
 rwa [AH.set_set] at this
theorem PC.fin {K:Nat->Prop}{h m:AH}{b:Nat}{o:AO}{v v':AV}(hw:Wk v' v)(hl:(h.set b o).le m)(hK:KOk K (h.set b o)):∃a h'',Frz v' m a h''/\KOk K h''/\a=v/\h''=h.set b o:=
 ⟨v,_,.weak hw (.drop hl (.refl _ _)),hK,rfl,rfl⟩
theorem kindS_lt {k:Int}{s:St}(h:kindS ts k s=true):s.i<ts.length:=by
 unfold kindS at h
 cases e:ts[s.i]? with
 |none=>rw[e] at h;simp at h
 |some t=>exact (List.getElem?_eq_some_iff.1 e).1
theorem atS_lt {i:Nat}{str:Nm}{s:St}(h:atS ts i str s=true):i<ts.length:=by
 unfold atS at h
 cases e:ts[i]? with
 |none=>rw[e] at h;simp at h
 |some t=>exact (List.getElem?_eq_some_iff.1 e).1
theorem isS_lt {str:Nm}{s:St}(h:isS ts str s=true):s.i<ts.length:=atS_lt h
theorem amissS_i (c p:Int)(s:St):(amissS c p s).i=s.i:=by unfold amissS;split<;>rfl
theorem wrongS_i (s:St):(wrongS ts e s).i=s.i:=amissS_i _ _ s
theorem takeS_i {s:St}(h:s.i<=ts.length)(str:Nm):(takeS ts e str s).i<=ts.length:=by
 unfold takeS
 split
 ·rename_i g;exact isS_lt g
 ·rw[wrongS_i];exact h
theorem wordS_i {s:St}(h:s.i<=ts.length)(k:Int):(wordS ts e k s).2.i<=ts.length:=by
 unfold wordS
 split
 ·rename_i g;exact kindS_lt g
 ·show (wrongS ts e s).i<=_;rw[wrongS_i];exact h
theorem openS_i {s:St}(h:s.i<ts.length):(openS ts e s).i<=ts.length:=by
 unfold openS
 split
 ·rw[amissS_i];omega
 ·exact h
theorem fine_ok (s:St):PC ts e 28 [] (.bool (fineS s)) s s:=by
 refine PC.intro t28 fun K h b hk hK=>?_
 simp only[u_C c28.eq_1,rn,pevA,seval,parO]
 exact⟨_,_,.refl _ _,hK _,rfl,rfl⟩
theorem pos_ok (s:St):PC ts e 48 [] (.int .i64 (posS ts e s)) s s:=by
 refine PC.intro t48 fun K h b hk hK=>?_
 unfold posS
 by_cases hlt:s.i<ts.length
 ·have c1:decide ((s.i:Int)<(ts.length:Int))=true:=decide_eq_true (by omega)
  rw[List.getElem?_eq_getElem hlt]
  simp only[u_C c48.eq_1,e_dregion d48_0,u_L s48_0.eq_1,u_T g48_0.eq_1,e_dregion d48_1,u_L s48_1.eq_1,u_T g48_1.eq_1,rn,pevA,seval,parO,tkC_len,c1,tkC_get hlt]
  exact⟨_,_,.refl _ _,hK _,rfl,rfl⟩
 ·have c1:decide ((s.i:Int)<(ts.length:Int))=false:=decide_eq_false (by omega)
  rw[List.getElem?_eq_none (by omega)]
  simp only[u_C c48.eq_1,e_dregion d48_0,u_L s48_0.eq_1,u_T g48_0.eq_1,e_dregion d48_1,u_L s48_1.eq_1,u_T g48_1.eq_1,rn,pevA,seval,parO,tkC_len,c1]
  exact⟨_,_,.refl _ _,hK _,rfl,rfl⟩
theorem placed_ok (c p:Int)(hc:c≠0):Pure T 44 [.int .i64 c,.int .i64 p] (.agg [.int .i64 c,.bool true,.int .i64 p]):=by
 intro K h
 refine ACall.ret t44 fun hK=>?_
 simp only[u_C c44.eq_1,rn,pevA,seval]
 intro b hb hk
 simp only[rn,pevA,seval,hc,hk]
 exact⟨.refl _,by rw[s_del hb];exact AH.le_refl _⟩
theorem amiss_ok (c p:Int)(hc:c≠0)(s:St):PC ts e 55 [.int .i64 c,.int .i64 p] (.tuple []) s (amissS c p s):=by
 refine PC.intro t55 fun K h b hk hK=>?_
 simp only[u_C c55.eq_1,rn,pevA,seval]
 refine (fine_ok s).use (AH.set_same _ _ _) hk ?_
 unfold amissS
 cases hf:fineS s with
 |false=>
  simp only[rn,pevA,seval,hf]
  exact⟨_,_,.refl _ _,hK _,rfl,rfl⟩
 |true=>
  simp only[rn,pevA,seval,hf]
  refine (placed_ok c p hc).use ?_
  simp only[rn,pevA,seval,hk,parO]
  exact⟨_,_,.refl _ _,hK _,rfl,rfl⟩
theorem wrong_ok (s:St):PC ts e 36 [] (.tuple []) s (wrongS ts e s):=by
 refine PC.intro t36 fun K h b hk hK=>?_
 simp only[u_C c36.eq_1,rn,pevA,seval]
 refine (pos_ok s).use (AH.set_same _ _ _) hk ?_
 simp only[rn,pevA,seval]
 refine (amiss_ok 102 _ (by decide) s).use (AH.set_same _ _ _) hk ?_
 simp only[rn,pevA,seval]
 exact⟨_,_,.refl _ _,hK _,rfl,rfl⟩
theorem kind_ok (k:Int)(s:St):PC ts e 51 [.int .i64 k] (.bool (kindS ts k s)) s s:=by
 refine PC.intro t51 fun K h b hk hK=>?_
 simp only[u_C c51.eq_1,e_dregion d51_0,u_L s51_0.eq_1,u_T g51_0.eq_1,rn,pevA,seval]
 refine (fine_ok s).use (AH.set_same _ _ _) hk ?_
 unfold kindS
 cases hf:fineS s with
 |false=>
  simp only[e_dregion d51_0,u_L s51_0.eq_1,u_T g51_0.eq_1,rn,pevA,seval,hf,Bool.false_and]
  exact⟨_,_,.refl _ _,hK _,rfl,rfl⟩
 |true=>
  by_cases hlt:s.i<ts.length
  ·have c1:decide ((s.i:Int)<(ts.length:Int))=true:=decide_eq_true (by omega)
   rw[get2 hlt]
   simp only[e_dregion d51_0,u_L s51_0.eq_1,u_T g51_0.eq_1,rn,pevA,seval,hf,parO,tkC_len,c1,tkC_get hlt]
   exact⟨_,_,.refl _ _,hK _,rfl,rfl⟩
  ·have c1:decide ((s.i:Int)<(ts.length:Int))=false:=decide_eq_false (by omega)
   rw[List.getElem?_eq_none (by omega)]
   simp only[e_dregion d51_0,u_L s51_0.eq_1,u_T g51_0.eq_1,rn,pevA,seval,hf,parO,tkC_len,c1]
   exact⟨_,_,.refl _ _,hK _,rfl,rfl⟩
theorem at_ok (i:Nat)(str:Nm)(s:St):PC ts e 47 [.int .i64 (i:Nat),.str str] (.bool (atS ts i str s)) s s:=by
 refine PC.intro t47 fun K h b hk hK=>?_
 simp only[u_C c47.eq_1,rn,pevA,seval]
 refine (fine_ok s).use (AH.set_same _ _ _) hk ?_
 unfold atS
 cases hf:fineS s with
 |false=>
  simp only[rn,pevA,seval,hf,Bool.false_and]
  exact⟨_,_,.refl _ _,hK _,rfl,rfl⟩
 |true=>
  by_cases hlt:i<ts.length
  ·have c1:decide ((i:Int)<(ts.length:Int))=true:=decide_eq_true (by omega)
   rw[get2 hlt]
   by_cases h6:(ts[i]).kind=6
   ·have c2:decide ((ts[i]).kind=6)=true:=decide_eq_true h6
    simp only[rn,pevA,seval,hf,parO,tkC_len,c1,tkC_get hlt,c2]
    exact⟨_,_,.refl _ _,hK _,rfl,rfl⟩
   ·have c2:decide ((ts[i]).kind=6)=false:=decide_eq_false h6
    simp only[rn,pevA,seval,hf,parO,tkC_len,c1,tkC_get hlt,c2,Bool.false_and]
    exact⟨_,_,.refl _ _,hK _,rfl,rfl⟩
  ·have c1:decide ((i:Int)<(ts.length:Int))=false:=decide_eq_false (by omega)
   rw[List.getElem?_eq_none (by omega)]
   simp only[rn,pevA,seval,hf,parO,tkC_len,c1]
   exact⟨_,_,.refl _ _,hK _,rfl,rfl⟩
theorem is_ok (str:Nm)(s:St):PC ts e 29 [.str str] (.bool (isS ts str s)) s s:=by
 refine PC.intro t29 fun K h b hk hK=>?_
 simp only[u_C c29.eq_1,rn,pevA,seval,parO]
 refine (at_ok s.i str s).use (AH.set_same _ _ _) hk ?_
 simp only[rn,pevA,seval]
 exact⟨_,_,.refl _ _,hK _,rfl,rfl⟩
variable (hts:ts.length<=1000000)
theorem w1 {i:Nat}(h:i<1000000):IntKind.i64.wrap ((i:Int)+1)=((i+1:Nat):Int):=by rw[wrap64 ⟨by omega,by omega⟩];rfl
theorem w2 {i:Nat}(h:i<1000000):IntKind.i64.wrap ((i:Int)+2)=((i+2:Nat):Int):=by rw[wrap64 ⟨by omega,by omega⟩];rfl
theorem w3 {i:Nat}(h:i<1000000):IntKind.i64.wrap (((i+1:Nat):Int)-1)=(i:Int):=by rw[wrap64 ⟨by omega,by omega⟩];omega
include hts in
theorem take_ok (str:Nm)(s:St):PC ts e 49 [.str str] (.tuple []) s (takeS ts e str s):=by
 refine PC.intro t49 fun K h b hk hK=>?_
 simp only[u_C c49.eq_1,rn,pevA,seval]
 refine (is_ok str s).use (AH.set_same _ _ _) hk ?_
 unfold takeS
 cases hi:isS ts str s with
 |false=>
  simp only[rn,pevA,seval,hi]
  refine (wrong_ok s).use (AH.set_same _ _ _) hk ?_
  simp only[rn,pevA,seval]
  exact⟨_,_,.refl _ _,hK _,rfl,rfl⟩
 |true=>
  have hlt:=isS_lt hi
  simp only[rn,pevA,seval,hi,parO,w1 (Nat.lt_of_lt_of_le hlt hts),hk]
  exact⟨_,_,.refl _ _,hK _,rfl,rfl⟩
include hts in
theorem word_ok (k:Int)(s:St):PC ts e 50 [.int .i64 k] (.str (wordS ts e k s).1) s (wordS ts e k s).2:=by
 refine PC.intro t50 fun K h b hk hK=>?_
 simp only[u_C c50.eq_1,rn,pevA,seval]
 refine (kind_ok k s).use (AH.set_same _ _ _) hk ?_
 unfold wordS
 cases hi:kindS ts k s with
 |false=>
  simp only[rn,pevA,seval,hi]
  refine (wrong_ok s).use (AH.set_same _ _ _) hk ?_
  simp only[rn,pevA,seval]
  exact⟨_,_,.refl _ _,hK _,rfl,rfl⟩
 |true=>
  have hlt:=kindS_lt hi
  unfold textS
  rw[get2 hlt]
  simp only[e_dregion d50_0,u_L s50_0.eq_1,u_T g50_0.eq_1,rn,pevA,seval,hi,parO,w1 (Nat.lt_of_lt_of_le hlt hts),w3 (Nat.lt_of_lt_of_le hlt hts),hk,tkC_get hlt]
  exact⟨_,_,.refl _ _,hK _,rfl,rfl⟩
include hts in
theorem open_ok (s:St)(hlt:s.i<ts.length):PC ts e 75 [] (.tuple []) s (openS ts e s):=by
 refine PC.intro t75 fun K h b hk hK=>?_
 unfold openS
 by_cases hd:200<=s.deep
 ·have c1:decide (200<=s.deep)=true:=decide_eq_true hd
  rw[if_pos hd]
  simp only[u_C c75.eq_1,rn,pevA,seval,parO,c1]
  refine (pos_ok s).use (AH.set_same _ _ _) hk ?_
  simp only[rn,pevA,seval]
  refine (amiss_ok 111 _ (by decide) s).use (AH.set_same _ _ _) hk ?_
  simp only[rn,pevA,seval]
  exact⟨_,_,.refl _ _,hK _,rfl,rfl⟩
 ·have c1:decide (200<=s.deep)=false:=decide_eq_false hd
  rw[if_neg hd]
  simp only[u_C c75.eq_1,rn,pevA,seval,parO,c1,w1 (Nat.lt_of_lt_of_le hlt hts),hk]
  exact⟨_,_,.refl _ _,hK _,rfl,rfl⟩
theorem shut_ok (s:St):PC ts e 77 [] (.tuple []) s (shutS s):=by
 refine PC.intro t77 fun K h b hk hK=>?_
 simp only[u_C c77.eq_1,rn,pevA,seval,parO,hk]
 exact⟨_,_,.refl _ _,hK _,rfl,rfl⟩
end
end Go.Proofs.Ytkopkbhpompmnaa.p
namespace Go.Proofs.Ytkopkbhpompmnaa.p
open Go.Proofs Go Go.Cn code
set_option linter.unusedSimpArgs false
set_option linter.unusedVariables false
section
variable {h:AH}{b c d f:Nat}{x y z u w:AO}
theorem set_in1 (n:c≠b):((h.set b x).set c y).set b z=(h.set b z).set c y:=by
 rw[set_comm n,AH.set_set]
theorem set_in2 (n:c≠b)(m:d≠b):(((h.set b x).set c y).set d w).set b z=((h.set b z).set c y).set d w:=by
 rw[set_comm m,set_in1 n]
theorem set_in3 (n:c≠b)(m:d≠b)(k:f≠b):((((h.set b x).set c y).set d w).set f u).set b z=(((h.set b z).set c y).set d w).set f u:=by
 rw[set_comm k,set_in2 n m]
set_option linter.defProp false in
noncomputable def kN:=And.intro (@set_in1) (And.intro (@AH.set_ne) (And.intro (@set_in2) (@set_in3)))
set_option linter.defProp false in
noncomputable def kG:=And.intro (@tk_objs) (And.intro (@AH.set_same) (And.intro (@ne_eq.{1}) (@not_false_eq_true)))
theorem new3 {n:Nat}:((h.set b x).set c y).objs n=none↔n≠c/\n≠b/\h.objs n=none:=by rw[AH.set_none,AH.set_none]
theorem new4 {n:Nat}:(((h.set b x).set c y).set d w).objs n=none↔n≠d/\n≠c/\n≠b/\h.objs n=none:=by rw[AH.set_none,AH.set_none,AH.set_none]
end
theorem _root_.Go.Cn.Wk.nil (E E':TypeId)(t:Tag):Wk (.lst E' [] t) (.lst E [] .no):=.lstE fun h=>absurd rfl h
inductive Ty where
 |mk (k:Int)(n:Nm)(l:List Ty)
mutual
def tyR:Ty->List AV
 |.mk k n l=>[.int .i64 k,.str n,.lst 59 (tysR l) .no]
def tysR:List Ty->List (List AV)
 |[]=>[]
 |t::l=>tyR t::tysR l
end
theorem tysR_eq (l:List Ty):tysR l=l.map tyR:=by
 induction l with
 |nil=>rfl
 |cons a l ih=>simp only[tysR,List.map_cons,ih]
theorem tysR_len (l:List Ty):(tysR l).length=l.length:=by rw[tysR_eq,List.length_map]
theorem tysR_app (l:List Ty)(t:Ty):tysR l++[tyR t]=tysR (l++[t]):=by simp only[tysR_eq,List.map_append,List.map_cons,List.map_nil]
theorem tysR_ne {l:List Ty}(h:tysR l≠[]):l≠[]:=by rintro rfl;exact h rfl
section
variable (ts:List Tk)(e:Int)
def argumentS (s:St):Bool:=kindS ts 1 s || kindS ts 2 s || isS ts [40] s
mutual
def argS:Nat->St->Option (Ty×St)
 |0,_=>none
 |n+1,s=>if kindS ts 1 s then some (.mk 1 (wordS ts e 1 s).1 [],(wordS ts e 1 s).2)
  else if kindS ts 2 s then some (.mk 2 (wordS ts e 2 s).1 [],(wordS ts e 2 s).2)
  else if isS ts [40] s then match typS n (openS ts e s) with
   |some (t,s')=>some (t,shutS (takeS ts e [41] s'))
   |none=>none
  else some (.mk 0 [] [],wrongS ts e s)
def argsS:Nat->List Ty->St->Option (List Ty×St)
 |0,_,_=>none
 |n+1,acc,s=>if argumentS ts s then match argS n s with
   |some (t,s')=>argsS n (acc++[t]) s'
   |none=>none
  else some (acc,s)
def appliedS:Nat->St->Option (Ty×St)
 |0,_=>none
 |n+1,s=>if kindS ts 2 s then match argsS n [] (wordS ts e 2 s).2 with
   |some (l,s')=>some (.mk 2 (wordS ts e 2 s).1 l,s')
   |none=>none
  else argS n s
def typS:Nat->St->Option (Ty×St)
 |0,_=>none
 |n+1,s=>match appliedS n s with
  |some (t,s1)=>if isS ts [45,62] s1 then match typS n (nextS s1) with
    |some (u,s2)=>some (.mk 3 [] [t,u],s2)
    |none=>none
   else some (t,s1)
  |none=>none
end
def most:Nat:=10000000
def TyOK (n:Nat):Prop:=∀s t s',s.i<=ts.length->typS ts e n s=some (t,s')->PC ts e 76 [] (.agg (tyR t)) s s'/\s'.i<=ts.length
def ArgOK (n:Nat):Prop:=∀s t s',s.i<=ts.length->argS ts e n s=some (t,s')->PC ts e 53 [] (.agg (tyR t)) s s'/\s'.i<=ts.length
def AppliedOK (n:Nat):Prop:=∀s t s',s.i<=ts.length->appliedS ts e n s=some (t,s')->PC ts e 90 [] (.agg (tyR t)) s s'/\s'.i<=ts.length
end
section
variable {ts:List Tk}{e:Int}
theorem argument_ok (s:St):PC ts e 52 [] (.bool (argumentS ts s)) s s:=by
 refine PC.intro t52 fun K h b hk hK=>?_
 unfold argumentS
 simp only[u_C c52.eq_1,rn,pevA,seval]
 refine (kind_ok 1 s).use (AH.set_same _ _ _) hk ?_
 cases h1:kindS ts 1 s with
 |true=>
  simp only[rn,pevA,seval,Bool.true_or]
  exact⟨_,_,.refl _ _,hK _,rfl,rfl⟩
 |false=>
  simp only[rn,pevA,seval]
  refine (kind_ok 2 s).use (AH.set_same _ _ _) hk ?_
  cases h2:kindS ts 2 s with
  |true=>
   simp only[rn,pevA,seval,Bool.true_or,Bool.false_or]
   exact⟨_,_,.refl _ _,hK _,rfl,rfl⟩
  |false=>
   simp only[rn,pevA,seval,Bool.false_or]
   refine (is_ok [40] s).use (AH.set_same _ _ _) hk ?_
   simp only[rn,pevA,seval]
   exact⟨_,_,.refl _ _,hK _,rfl,rfl⟩
variable (hts:ts.length<=1000000)
include hts in
theorem arg_step {n:Nat}(hT:TyOK ts e n):ArgOK ts e (n+1):=by
 intro s t s' hs hr
 rw[argS] at hr
 refine⟨PC.intro t53 fun K h b hk hK=>?_,?_⟩
 ·simp only[u_C c53.eq_1,rn,pevA,seval]
  intro b2 hb2 hk2
  obtain⟨n2,hb2⟩:=AH.set_none.1 hb2
  simp only[rn,pevA,seval]
  refine (kind_ok 1 s).use (by simp only[kG,kN,n2,n2.symm]<;>rfl) hk ?_
  simp only[rn,pevA,seval,kN,n2,n2.symm]
  cases c1:kindS ts 1 s with
  |true=>
   rw[c1,if_pos rfl] at hr
   cases hr
   simp only[rn,pevA,seval,kN,n2,n2.symm]
   refine (word_ok hts 1 s).use (by simp only[kG,kN,n2,n2.symm]<;>rfl) hk ?_
   simp only[rn,pevA,seval,kN,n2,n2.symm,hk2]
   exact PC.fin (.aggL ⟨.refl _,.refl _,.nil _ _ _,trivial⟩) (by repeat (first|exact AH.le_refl _|refine le_set ?_ (AH.set_none.2 ⟨n2,hb2⟩)|refine le_del ?_ (AH.set_none.2 ⟨n2,hb2⟩))) (hK _)
  |false=>
   rw[c1,if_neg (by decide)] at hr
   simp only[rn,pevA,seval,kN,n2,n2.symm]
   refine (kind_ok 2 s).use (by simp only[kG,kN,n2,n2.symm]<;>rfl) hk ?_
   simp only[rn,pevA,seval,kN,n2,n2.symm]
   cases c2:kindS ts 2 s with
   |true=>
    rw[c2,if_pos rfl] at hr
    cases hr
    simp only[rn,pevA,seval,kN,n2,n2.symm]
    refine (word_ok hts 2 s).use (by simp only[kG,kN,n2,n2.symm]<;>rfl) hk ?_
    simp only[rn,pevA,seval,kN,n2,n2.symm,hk2]
    exact PC.fin (.aggL ⟨.refl _,.refl _,.nil _ _ _,trivial⟩) (by repeat (first|exact AH.le_refl _|refine le_set ?_ (AH.set_none.2 ⟨n2,hb2⟩)|refine le_del ?_ (AH.set_none.2 ⟨n2,hb2⟩))) (hK _)
   |false=>
    rw[c2,if_neg (by decide)] at hr
    simp only[rn,pevA,seval,kN,n2,n2.symm]
    refine (is_ok [40] s).use (by simp only[kG,kN,n2,n2.symm]<;>rfl) hk ?_
    simp only[rn,pevA,seval,kN,n2,n2.symm]
    cases c3:isS ts [40] s with
    |true=>
     rw[c3,if_pos rfl] at hr
     have hlt:=isS_lt c3
     cases hq:typS ts e n (openS ts e s) with
     |none=>rw[hq] at hr;cases hr
     |some p=>
      obtain⟨⟨tk,tn,tl⟩,s1⟩:=p
      rw[hq] at hr
      cases hr
      obtain⟨ht,hi1⟩:=hT _ _ _ (openS_i hlt) hq
      simp only[rn,pevA,seval,kN,n2,n2.symm]
      refine (open_ok hts s hlt).use (by simp only[kG,kN,n2,n2.symm]<;>rfl) hk ?_
      simp only[rn,pevA,seval,kN,n2,n2.symm]
      refine ht.use (by simp only[kG,kN,n2,n2.symm]<;>rfl) hk ?_
      simp only[rn,pevA,seval,kN,n2,n2.symm,tyR]
      refine (take_ok hts [41] s1).use (by simp only[kG,kN,n2,n2.symm]<;>rfl) hk ?_
      simp only[rn,pevA,seval,kN,n2,n2.symm]
      refine (shut_ok _).use (by simp only[kG,kN,n2,n2.symm]<;>rfl) hk ?_
      simp only[rn,pevA,seval,kN,n2,n2.symm,hk2]
      exact PC.fin (.refl _) (by repeat (first|exact AH.le_refl _|refine le_set ?_ (AH.set_none.2 ⟨n2,hb2⟩)|refine le_del ?_ (AH.set_none.2 ⟨n2,hb2⟩))) (hK _)
    |false=>
     rw[c3,if_neg (by decide)] at hr
     cases hr
     simp only[rn,pevA,seval,kN,n2,n2.symm]
     refine (wrong_ok s).use (by simp only[kG,kN,n2,n2.symm]<;>rfl) hk ?_
     simp only[rn,pevA,seval,kN,n2,n2.symm,hk2]
     exact PC.fin (.aggL ⟨.refl _,.refl _,.nil _ _ _,trivial⟩) (by repeat (first|exact AH.le_refl _|refine le_set ?_ (AH.set_none.2 ⟨n2,hb2⟩)|refine le_del ?_ (AH.set_none.2 ⟨n2,hb2⟩))) (hK _)
 ·split at hr
  ·cases hr;exact wordS_i hs 1
  ·split at hr
   ·cases hr;exact wordS_i hs 2
   ·split at hr
    ·rename_i c3
     cases hq:typS ts e n (openS ts e s) with
     |none=>rw[hq] at hr;cases hr
     |some p=>
      obtain⟨t1,s1⟩:=p
      rw[hq] at hr
      cases hr
      exact takeS_i (hT _ _ _ (openS_i (isS_lt c3)) hq).2 _
    ·cases hr;rw[wrongS_i];exact hs
include hts in
theorem typ_step {n:Nat}(hT:TyOK ts e n)(hA:AppliedOK ts e n):TyOK ts e (n+1):=by
 intro s t s' hs hr
 rw[typS] at hr
 cases ha:appliedS ts e n s with
 |none=>rw[ha] at hr;cases hr
 |some p=>
  obtain⟨⟨tk,tn,tl⟩,s1⟩:=p
  rw[ha] at hr
  obtain⟨hp,hi1⟩:=hA _ _ _ hs ha
  simp only at hr
  refine⟨PC.intro t76 fun K h b hk hK=>?_,?_⟩
  ·simp only[u_C c76.eq_1,rn,pevA,seval]
   intro b2 hb2 hk2
   obtain⟨n2,hb2⟩:=AH.set_none.1 hb2
   simp only[rn,pevA,seval]
   refine hp.use (by simp only[kG,kN,n2,n2.symm]<;>rfl) hk ?_
   simp only[rn,pevA,seval,kN,n2,n2.symm,tyR]
   refine (is_ok [45,62] s1).use (by simp only[kG,kN,n2,n2.symm]<;>rfl) hk ?_
   simp only[rn,pevA,seval,kN,n2,n2.symm]
   cases c1:isS ts [45,62] s1 with
   |true=>
    rw[c1,if_pos rfl] at hr
    have hlt:=isS_lt c1
    cases hq:typS ts e n (nextS s1) with
    |none=>rw[hq] at hr;cases hr
    |some p=>
     obtain⟨⟨uk,un,ul⟩,s2⟩:=p
     rw[hq] at hr
     cases hr
     obtain⟨ht,hi2⟩:=hT _ _ _ (show (nextS s1).i<=_ from hlt) hq
     simp only[rn,pevA,seval,kN,n2,n2.symm,parO,w1 (Nat.lt_of_lt_of_le hlt hts),hk,e_dregion d76_0,u_L s76_0.eq_1,u_T g76_0.eq_1]
     refine ht.use (s:=nextS s1) (by simp only[kG,kN,n2,n2.symm]<;>rfl) hk ?_
     simp only[rn,pevA,seval,kN,n2,n2.symm,tyR,hk2,e_dregion d76_0,u_L s76_0.eq_1,u_T g76_0.eq_1]
     exact PC.fin (.refl _) (by repeat (first|exact AH.le_refl _|refine le_set ?_ (AH.set_none.2 ⟨n2,hb2⟩)|refine le_del ?_ (AH.set_none.2 ⟨n2,hb2⟩))) (hK _)
   |false=>
    rw[c1,if_neg (by decide)] at hr
    cases hr
    simp only[rn,pevA,seval,kN,n2,n2.symm,hk2]
    exact PC.fin (.refl _) (by repeat (first|exact AH.le_refl _|refine le_set ?_ (AH.set_none.2 ⟨n2,hb2⟩)|refine le_del ?_ (AH.set_none.2 ⟨n2,hb2⟩))) (hK _)
  ·split at hr
   ·rename_i c1
    cases hq:typS ts e n (nextS s1) with
    |none=>rw[hq] at hr;cases hr
    |some p=>
     obtain⟨u,s2⟩:=p
     rw[hq] at hr
     cases hr
     exact (hT _ _ _ (show (nextS s1).i<=_ from isS_lt c1) hq).2
   ·cases hr;exact hi1
end
end Go.Proofs.Ytkopkbhpompmnaa.p
namespace Go.Proofs.Ytkopkbhpompmnaa.p
open Go.Proofs Go Go.Cn code
set_option linter.unusedSimpArgs false
set_option linter.unusedVariables false
section
variable {ts:List Tk}{e:Int}(hts:ts.length<=1000000)
theorem args_i:∀(n:Nat),(∀m,m<n->ArgOK ts e m)->∀(acc:List Ty)(s:St)(l:List Ty)(s':St),s.i<=ts.length->argsS ts e n acc s=some (l,s')->s'.i<=ts.length
 |0,_,acc,s,l,s',_,hr=>by rw[argsS] at hr;cases hr
 |n+1,hA,acc,s,l,s',hs,hr=>by
  rw[argsS] at hr
  split at hr
  ·cases hq:argS ts e n s with
   |none=>rw[hq] at hr;cases hr
   |some p=>
    obtain⟨t,s2⟩:=p
    rw[hq] at hr
    exact args_i n (fun m hm=>hA m (by omega)) _ _ _ _ (hA n (by omega) _ _ _ hs hq).2 hr
  ·cases hr;exact hs
include hts in
theorem applied_step {n:Nat}(hn:n<=most)(hA:∀m,m<=n->ArgOK ts e m):AppliedOK ts e (n+1):=by
 intro s t s' hs hr
 rw[appliedS] at hr
 refine⟨PC.intro t90 fun K h b hk hK=>?_,?_⟩
 ·simp only[u_C c90.eq_1,rn,pevA,seval]
  intro b2 hb2 hk2
  obtain⟨n2,hb2⟩:=AH.set_none.1 hb2
  simp only[rn,pevA,seval]
  refine (kind_ok 2 s).use (by simp only[kG,kN,n2,n2.symm]<;>rfl) hk ?_
  cases c1:kindS ts 2 s with
  |false=>
   rw[c1,if_neg (by decide)] at hr
   obtain⟨tk,tn,tl⟩:=t
   simp only[rn,pevA,seval,kN,n2,n2.symm]
   refine (hA n (Nat.le_refl _) _ _ _ hs hr).1.use (by simp only[kG,kN,n2,n2.symm]<;>rfl) hk ?_
   simp only[rn,pevA,seval,kN,n2,n2.symm,tyR,hk2]
   exact PC.fin (.refl _) (by repeat (first|exact AH.le_refl _|refine le_set ?_ (AH.set_none.2 ⟨n2,hb2⟩)|refine le_del ?_ (AH.set_none.2 ⟨n2,hb2⟩))) (hK _)
  |true=>
   rw[c1,if_pos rfl] at hr
   cases hq:argsS ts e n [] (wordS ts e 2 s).2 with
   |none=>rw[hq] at hr;cases hr
   |some p=>
    obtain⟨l,s1⟩:=p
    rw[hq] at hr
    cases hr
    simp only[rn,pevA,seval,kN,n2,n2.symm]
    refine (word_ok hts 2 s).use (by simp only[kG,kN,n2,n2.symm]<;>rfl) hk ?_
    simp only[rn,pevA,seval,kN,n2,n2.symm]
    intro b3 hb3 hk3
    obtain⟨n32,n3,hb3⟩:=new3.1 hb3
    simp only[rn,pevA,seval,kN,n2,n2.symm,n3,n3.symm,n32,n32.symm,hk3]
    have hi0:=wordS_i (e:=e) hs 2
    generalize (wordS ts e 2 s).2=sW at hq hi0 ⊢
    generalize (wordS ts e 2 s).1=nm
    refine aloop (α:=Nat×List Ty×St) (fun x fr h1=>fr 0=.ptr b 0/\fr 2=.ptr b2 0/\fr 3=.ptr b3 0/\x.2.2.i<=ts.length/\x.1<=n/\x.2.1.length+x.1<=most/\argsS ts e x.1 x.2.1 x.2.2=some (l,s')/\
     ∃E tag t',(x.2.1≠[]->E=59)/\Toks h.toks t' [(tag,59,3,0)]/\h1=(((h.set b (parO ts e x.2.2)).set b2 (.cells [.int .i64 0,.str [],.lst 0 [] .nil] 59)).set b3 (.cells [.int .i64 2,.str nm,.lst E (tysR x.2.1) tag] 59)).tk t') (fun x=>x.1) (n,[],sW)
     ⟨rfl,rfl,rfl,hi0,Nat.le_refl _,by simpa using hn,hq,_,.nil,h.toks,fun h=>absurd rfl h,.one _ _ _,rfl⟩ ?_
    clear hq hi0
    rintro⟨m,acc,s2⟩ fr h1 ⟨f0,f2,f3,hi,hm,hB,hq,E,tag,t',hE,hT,rfl⟩
    simp only at hi hm hB hq hE
    cases m with
    |zero=>rw[argsS] at hq;cases hq
    |succ m=>
     rw[argsS] at hq
     simp only[u_C l90_1.eq_1,rn,pevA,seval,f0,f2,f3,kN,n2,n2.symm,n3,n3.symm,n32,n32.symm]
     refine (argument_ok s2).use (by simp only[kG,kN,n2,n2.symm,n3,n3.symm,n32,n32.symm]<;>rfl) hk ?_
     cases c2:argumentS ts s2 with
     |true=>
      rw[c2,if_pos rfl] at hq
      cases hp:argS ts e m s2 with
      |none=>rw[hp] at hq;cases hq
      |some p=>
       obtain⟨⟨k,nm',tl⟩,s3⟩:=p
       rw[hp] at hq
       obtain⟨hc,hi3⟩:=hA m (by omega) _ _ _ hi hp
       simp only[e_dregion d90_0,u_L s90_0.eq_1,u_T g90_0.eq_1,rn,pevA,seval,f0,f2,f3,kN,n2,n2.symm,n3,n3.symm,n32,n32.symm]
       refine hc.use (by simp only[kG,kN,n2,n2.symm,n3,n3.symm,n32,n32.symm]<;>rfl) (fun x=>x.elim hk (by simp[n3.symm])) ?_
       simp only[e_dregion d90_0,u_L s90_0.eq_1,u_T g90_0.eq_1,rn,pevA,seval,f0,f2,f3,kN,n2,n2.symm,n3,n3.symm,n32,n32.symm,tyR]
       refine WO.append (i:=0) hT rfl rfl rfl trivial (by decide) (by simp) (by rfl) (.inr rfl) (fun _=>?_) ?_ fun tag2 t2 hT2=>?_
       ·simp[capOk,tysR_len];unfold most at hB;omega
       ·simp[big_eq,tysR_len];unfold most at hB;omega
       have ha:tysR acc++[[AV.int .i64 k,.str nm',.lst 59 (tysR tl) .no]]=tysR (acc++[.mk k nm' tl]):=tysR_app acc (.mk k nm' tl)
       rw[ha]
       simp only[e_dregion d90_0,u_L s90_0.eq_1,u_T g90_0.eq_1,rn,pevA,seval,f0,f2,f3,kN,n2,n2.symm,n3,n3.symm,n32,n32.symm,hk3]
       exact⟨(m,acc++[.mk k nm' tl],s3),by show m<m+1;omega,f0,f2,f3,hi3,by show m<=n;omega,by show (acc++[_]).length+m<=most;simp;omega,hq,_,tag2,t2,fun _=>rfl,hT2,rfl⟩
     |false=>
      rw[c2,if_neg (by decide)] at hq
      cases hq
      simp only[rn,pevA,seval,f0,f2,f3,kN,n2,n2.symm,n3,n3.symm,n32,n32.symm,hk2]
      exact PC.fin (.aggL ⟨.refl _,.refl _,.lstE fun h=>hE (tysR_ne h),trivial⟩) (by repeat (first|exact AH.le_refl _|refine le_tk ?_ hT.le|refine le_set ?_ (AH.set_none.2 ⟨n2,hb2⟩)|refine le_del ?_ (AH.set_none.2 ⟨n2,hb2⟩)|refine le_set ?_ (AH.set_none.2 ⟨n3,hb3⟩)|refine le_del ?_ (AH.set_none.2 ⟨n3,hb3⟩))) (hK _)
 ·split at hr
  ·rename_i c1
   cases hq:argsS ts e n [] (wordS ts e 2 s).2 with
   |none=>rw[hq] at hr;cases hr
   |some p=>
    obtain⟨l,s1⟩:=p
    rw[hq] at hr
    cases hr
    exact args_i n (fun m hm=>hA m (by omega)) _ _ _ _ (wordS_i hs 2) hq
  ·exact (hA n (Nat.le_refl _) _ _ _ hs hr).2
include hts in
theorem types_ok:∀(n:Nat),n<=most->∀m,m<=n->ArgOK ts e m/\AppliedOK ts e m/\TyOK ts e m
 |0,_,m,hm=>by
  obtain rfl:m=0:=by omega
  exact⟨fun s t s' _ hr=>(by rw[argS] at hr;cases hr),fun s t s' _ hr=>(by rw[appliedS] at hr;cases hr),fun s t s' _ hr=>(by rw[typS] at hr;cases hr)⟩
 |n+1,hn,m,hm=>by
  have ih:=types_ok n (by omega)
  by_cases h:m<=n
  ·exact ih m h
  ·obtain rfl:m=n+1:=by omega
   have hi:=ih n (Nat.le_refl _)
   exact⟨arg_step hts hi.2.2,applied_step hts (by omega) fun m hm=>(ih m hm).1,typ_step hts hi.2.2 hi.2.1⟩
include hts in
theorem typ_ok {n:Nat}(hn:n<=most):TyOK ts e n:=(types_ok hts n hn n (Nat.le_refl _)).2.2
include hts in
theorem arg_ok {n:Nat}(hn:n<=most):ArgOK ts e n:=(types_ok hts n hn n (Nat.le_refl _)).1
end
end Go.Proofs.Ytkopkbhpompmnaa.p
namespace Go.Proofs.Ytkopkbhpompmnaa.p
open Go.Proofs Go Go.Cn code
set_option linter.unusedSimpArgs false
set_option linter.unusedVariables false
def strC (l:List Nm):List (List AV):=l.map fun s=>[.str s]
theorem strC_len (l:List Nm):(strC l).length=l.length:=by rw[strC,List.length_map]
theorem strC_get (l:List Nm)(i:Nat):(strC l)[i]?=(l[i]?).map fun s=>[AV.str s]:=by rw[strC,List.getElem?_map]
theorem strC_app (l:List Nm)(s:Nm):strC l++[[.str s]]=strC (l++[s]):=by simp[strC]
theorem strC_ne {l:List Nm}(h:strC l≠[]):l≠[]:=by rintro rfl;exact h rfl
theorem mem_take {α:Type}{l:List α}{i:Nat}{a:α}(h:l[i]?=some a){v:α}(hv:v∉l.take i)(hne:v≠a):v∉l.take (i+1):=by
 rw[List.take_add_one,h]
 intro hm
 rcases List.mem_append.1 hm with hm|hm
 ·exact hv hm
 ·simp at hm;exact hne hm
theorem _root_.Go.Cn.Toks.made {t:Nat->Option Tok}{b:Nat}(E sz n:Nat)(hb:t b=none):Toks t (upd t b (some ⟨b,0,0,n*sz,sz,E⟩)) [(.own b b 0 0 (n*sz) sz,E,sz,n)] where
 le:=fun c k hc=>by
  simp only[upd]
  rw[if_neg (by rintro rfl;rw[hb] at hc;cases hc)]
  exact hc
 own:=fun i tag E' sz' k hi=>by
  match i,hi with
  |0,hi=>
   cases hi
   exact⟨rfl,by simp[upd],by simp⟩
  |i+1,hi=>simp at hi
 out:=fun i tag E' sz' k c hi hc=>by
  match i,hi with
  |0,hi=>
   cases hi
   cases hc
   exact hb
  |i+1,hi=>simp at hi
 sep:=fun i j a b' c hij hi hj=>by
  match i,j,hi,hj with
  |0,0,_,_=>exact absurd rfl hij
  |0,j+1,_,hj=>simp at hj
  |i+1,_,hi,_=>simp at hi
section
theorem place_ok (E:TypeId)(l:List Nm)(t:Tag)(v:Nm)(K:Nat->Prop)(h:AH):ACall T K (.func 43) [.lst E (strC l) t,.str v] h fun r h'=>(∃n:Int,r=.int .i64 n/\(0<=n↔v∈l))/\h'=h:=by
 refine ACall.retQ t43 fun hK=>?_
 simp only[u_C c43.eq_1,rn,pevA,seval,strC_len]
 refine W.bound (t:=0) rfl fun hB=>?_
 rw[strC_len] at hB
 refine aloop (α:=Nat) (fun k fr h1=>fr 0=.lst E (strC l) t/\fr 1=.str v/\fr 5=.int .i64 k/\k<=l.length/\v∉l.take k/\h1=h) (fun k=>l.length-k) 0 ?_ ?_
 ·exact⟨rfl,rfl,rfl,Nat.zero_le _,by simp,rfl⟩
 ·rintro k fr h1 ⟨f0,f1,f5,hk,hv,rfl⟩
  by_cases hlt:k<l.length
  ·have c1:decide ((k:Int)<(l.length:Int))=true:=decide_eq_true (by omega)
   obtain⟨a,ha⟩ : ∃a,l[k]?=some a:=⟨l[k],by simp[hlt]⟩
   have hget:(strC l)[k]?=some [.str a]:=by rw[strC_get,ha];rfl
   by_cases e:a=v
   ·subst e
    simp only[u_C l43_0.eq_1,rn,pevA,seval,f0,f1,f5,c1,hget,strC_len]
    exact⟨_,h1,.refl _ _,hK,⟨k,rfl,fun _=>List.mem_of_getElem? ha,fun _=>by omega⟩,rfl⟩
   ·simp only[u_C l43_0.eq_1,rn,pevA,seval,f0,f1,f5,c1,hget,e,wrapS hlt hB,strC_len]
    refine⟨k+1,by show l.length-(k+1)<l.length-k;omega,f0,f1,rfl,hlt,mem_take ha hv fun x=>e x.symm,rfl⟩
  ·have hke:k=l.length:=by omega
   subst hke
   have c1:decide ((l.length:Int)<(l.length:Int))=false:=by simp
   simp only[u_C l43_0.eq_1,rn,pevA,seval,f0,f1,f5,c1,strC_len]
   rw[List.take_length] at hv
   exact⟨_,h1,.refl _ _,hK,⟨-1,rfl,fun h=>absurd h (by decide),fun h=>absurd h hv⟩,rfl⟩
theorem has_ok (E:TypeId)(l:List Nm)(t:Tag)(v:Nm):Pure T 25 [.lst E (strC l) t,.str v] (.bool (decide (v∈l))):=by
 intro K h
 refine ACall.ret t25 fun hK=>?_
 simp only[u_C c25.eq_1,rn,pevA,seval]
 refine (place_ok E l t v K h).mono ?_
 rintro _ _ ⟨⟨n,rfl,hn⟩,rfl⟩
 simp only[rn,pevA,seval,hn]
 exact⟨.refl _,AH.le_refl _⟩
theorem texts_ok (E:TypeId)(l:List Nm)(t:Tag)(hl:l.length<=most)(K:Nat->Prop)(h:AH):ACall T K (.func 39) [.lst E (strC l) t] h fun v h'=>∃tag t',v=.lst 9 (strC l) tag/\Toks h.toks t' [(tag,9,1,0)]/\h'=h.tk t':=by
 refine ACall.retQ t39 fun hK=>?_
 unfold most at hl
 simp only[u_C c39.eq_1,rn,pevA,seval,strC_len]
 refine WO.mksl0 (j:=.i64) (k:=.i64) (n:=l.length) rfl rfl (by omega) (by omega) fun b hb1 hb2=>?_
 simp only[rn,pevA,seval]
 refine aloop (α:=Nat) (fun k fr h1=>fr 0=.lst E (strC l) t/\fr 4=.int .i64 k/\k<=l.length/\∃tag t',fr 3=.lst 9 (strC (l.take k)) tag/\Toks h.toks t' [(tag,9,1,l.length-k)]/\h1=h.tk t') (fun k=>l.length-k) 0 ?_ ?_
 ·exact⟨rfl,rfl,Nat.zero_le _,_,_,rfl,.made 9 1 l.length hb1,rfl⟩
 ·rintro k fr h1 ⟨f0,f4,hk,tag,t',f3,hT,rfl⟩
  by_cases hlt:k<l.length
  ·have c1:decide ((k:Int)<(l.length:Int))=true:=decide_eq_true (by omega)
   obtain⟨a,ha⟩ : ∃a,l[k]?=some a:=⟨l[k],by simp[hlt]⟩
   have hget:(strC l)[k]?=some [.str a]:=by rw[strC_get,ha];rfl
   simp only[u_C l39_0.eq_1,rn,pevA,seval,f0,f4,f3,c1,hget,strC_len]
   refine WO.append (i:=0) hT rfl rfl rfl trivial (by decide) (by simp) rfl (.inl (by simp;omega)) (fun h=>by simp at h;omega) ?_ fun tag2 t2 hT2=>?_
   ·simp[big_eq,strC_len];omega
   have w:IntKind.i64.wrap ((k:Int)+1)=((k+1:Nat):Int):=by rw[wrap64 ⟨by omega,by omega⟩];rfl
   rw[strC_app]
   simp only[rn,pevA,seval,f0,f4,w]
   refine⟨k+1,by show l.length-(k+1)<l.length-k;omega,f0,rfl,hlt,tag2,t2,?_,?_,rfl⟩
   ·show AV.lst _ _ _=_;rw[List.take_add_one,ha];rfl
   ·have:l.length-k-1=l.length-(k+1):=by omega
    rw[<-this];exact hT2
  ·have hke:k=l.length:=by omega
   subst hke
   have c1:decide ((l.length:Int)<(l.length:Int))=false:=by simp
   simp only[u_C l39_0.eq_1,rn,pevA,seval,f0,f4,f3,c1,strC_len]
   rw[List.take_length]
   rw[Nat.sub_self] at hT
   exact⟨_,_,.refl _ _,fun b hb=>hK b hb,tag,t',rfl,hT,rfl⟩
mutual
def cntT:Ty->Nat
 |.mk k n l=>1+cntTs l
def cntTs:List Ty->Nat
 |[]=>0
 |t::l=>cntT t+cntTs l
end
def addV (out:List Nm)(k:Int)(n:Nm):List Nm:=if k=1/\n∉out then out++[n] else out
mutual
def varsS (out:List Nm):Ty->List Nm
 |.mk k n l=>varsL (addV out k n) l
def varsL (out:List Nm):List Ty->List Nm
 |[]=>out
 |t::l=>varsL (varsS out t) l
end
theorem addV_len (out:List Nm)(k:Int)(n:Nm):(addV out k n).length<=out.length+1:=by
 unfold addV;split<;>simp
mutual
theorem varsS_len:∀(out:List Nm)(t:Ty),(varsS out t).length<=out.length+cntT t
 |out,.mk k n l=>by
  have:=varsL_len (addV out k n) l
  have:=addV_len out k n
  rw[varsS,cntT];omega
theorem varsL_len:∀(out:List Nm)(l:List Ty),(varsL out l).length<=out.length+cntTs l
 |out,[]=>by rw[varsL,cntTs];omega
 |out,t::l=>by
  have:=varsL_len (varsS out t) l
  have:=varsS_len out t
  rw[varsL,cntTs];omega
end
theorem varsL_app (l m:List Ty):∀out,varsL out (l++m)=varsL (varsL out l) m:=by
 induction l with
 |nil=>intro out;rw[varsL];rfl
 |cons a l ih=>intro out;rw[List.cons_append,varsL,varsL,ih]
theorem cntTs_app (l m:List Ty):cntTs (l++m)=cntTs l+cntTs m:=by
 induction l with
 |nil=>rw[cntTs];simp
 |cons a l ih=>rw[List.cons_append,cntTs,cntTs,ih];omega
theorem Ty.ind {P:Ty->Prop}(h:∀k n l,(∀a∈l,P a)->P (.mk k n l)):∀t,P t
 |.mk k n l=>h k n l fun a ha=>Ty.ind h a
 termination_by t=>SizeOf.sizeOf t
 decreasing_by have:=List.sizeOf_lt_of_mem ha;simp;omega
end
end Go.Proofs.Ytkopkbhpompmnaa.p
namespace Go.Proofs.Ytkopkbhpompmnaa.p
open Go.Proofs Go Go.Cn code
set_option linter.unusedSimpArgs false
set_option linter.unusedVariables false
theorem cnt_pos (t:Ty):1<=cntT t:=by cases t;rw[cntT];omega
theorem cntTs_len:∀l:List Ty,l.length<=cntTs l
 |[]=>Nat.zero_le _
 |t::l=>by have:=cntTs_len l;have:=cnt_pos t;rw[cntTs,List.length_cons];omega
theorem tysR_get (l:List Ty)(i:Nat):(tysR l)[i]?=(l[i]?).map tyR:=by rw[tysR_eq,List.getElem?_map]
theorem at_split {α:Type}{l:List α}{i:Nat}{a:α}(h:l[i]?=some a):l=l.take i++a::l.drop (i+1):=by
 obtain⟨hi,rfl⟩:=List.getElem?_eq_some_iff.1 h
 rw[<-List.drop_eq_getElem_cons hi,List.take_append_drop]
theorem take_succ {α:Type}{l:List α}{i:Nat}{a:α}(h:l[i]?=some a):l.take (i+1)=l.take i++[a]:=by rw[List.take_add_one,h];rfl
theorem cntTs_at {l:List Ty}{i:Nat}{a:Ty}(h:l[i]?=some a):cntTs (l.take i)+cntT a<=cntTs l:=by
 have:=at_split h
 have e:cntTs l=cntTs (l.take i++a::l.drop (i+1)):=congrArg cntTs this
 rw[cntTs_app,cntTs] at e;omega
theorem vars_loop (k:Int)(n:Nm)(l:List Ty)(ih:∀a∈l,∀(out:List Nm)(E:TypeId)(tag:Tag),(out≠[]->E=9)->out.length+cntT a<=most->Pure T 80 [.lst E (strC out) tag,.agg (tyR a)] (.lst 9 (strC (varsS out a)) .no))
  (out:List Nm)(E:TypeId)(tag:Tag)(hE:out≠[]->E=9)(hB:out.length+cntTs l<=most)(K:Nat->Prop)(h:AH)(fr:AFr)(R:CExit->AQ)(f0:fr 0=.lst E (strC out) tag)(f3:fr 3=.rptr (tyR (.mk k n l)))(f5:fr 5=.int .i64 0)
  (hR:∀(fr:AFr)(E:TypeId)(tag:Tag),(varsL out l≠[]->E=9)->fr 0=.lst E (strC (varsL out l)) tag->R (.exit 0) fr h):W T K (.loop l80_1.toC) fr h R:=by
 have hl:=cntTs_len l
 unfold most at hB
 refine aloop (α:=Nat) (fun i fr h1=>fr 3=.rptr (tyR (.mk k n l))/\fr 5=.int .i64 i/\i<=l.length/\h1=h/\∃E tag,(varsL out (l.take i)≠[]->E=9)/\fr 0=.lst E (strC (varsL out (l.take i))) tag) (fun i=>l.length-i) 0 ⟨f3,f5,Nat.zero_le _,rfl,E,tag,by rw[List.take_zero,varsL];exact hE,by rw[List.take_zero,varsL];exact f0⟩ ?_
 clear f0 f3 f5
 rintro i fr h1 ⟨f3,f5,hi,rfl,E',tag',hE',f0⟩
 rw[tyR] at f3
 by_cases hlt:i<l.length
 ·have c1:decide ((i:Int)<(l.length:Int))=true:=decide_eq_true (by omega)
  obtain⟨a,ha⟩ : ∃a,l[i]?=some a:=⟨l[i],by simp[hlt]⟩
  have hc:=cntTs_at ha
  have hv:=varsL_len out (l.take i)
  have hp:=ih a (List.mem_of_getElem? ha) (varsL out (l.take i)) E' tag' hE' (by unfold most;omega)
  have hs:varsL out (l.take (i+1))=varsS (varsL out (l.take i)) a:=by rw[take_succ ha,varsL_app,varsL,varsL]
  have w:IntKind.i64.wrap ((i:Int)+1)=((i+1:Nat):Int):=by rw[wrap64 ⟨by omega,by omega⟩];rfl
  obtain⟨ak,an,al⟩:=a
  have hget:(tysR l)[i]?=some [.int .i64 ak,.str an,.lst 59 (tysR al) .no]:=by rw[tysR_get,ha];rfl
  simp only[u_C l80_1.eq_1,rn,pevA,seval,f0,f3,f5,tysR_len,c1,hget]
  refine hp.use ?_
  simp only[rn,pevA,seval,f5,w]
  exact⟨i+1,by show l.length-(i+1)<l.length-i;omega,f3,rfl,hlt,rfl,_,.no,fun _=>rfl,by rw[hs];rfl⟩
 ·have hie:i=l.length:=by omega
  subst hie
  have c1:decide ((l.length:Int)<(l.length:Int))=false:=by simp
  simp only[u_C l80_1.eq_1,rn,pevA,seval,f0,f3,f5,tysR_len,c1]
  rw[List.take_length] at hE' f0
  exact hR _ _ _ hE' f0
theorem vars_ok:∀(t:Ty)(out:List Nm)(E:TypeId)(tag:Tag),(out≠[]->E=9)->out.length+cntT t<=most->Pure T 80 [.lst E (strC out) tag,.agg (tyR t)] (.lst 9 (strC (varsS out t)) .no):=by
 refine Ty.ind fun k n l ih out E tag hE hB K h=>?_
 rw[cntT] at hB
 refine ACall.ret t80 fun hK=>?_
 simp only[u_C c80.eq_1,rn,pevA,seval,tyR]
 by_cases hk:k=1
 ·subst hk
  simp only[rn,pevA,seval]
  refine (has_ok E out tag n).use ?_
  by_cases hm:n∈out
  ·have e1:addV out 1 n=out:=by unfold addV;rw[if_neg fun h=>h.2 hm]
   simp only[rn,pevA,seval,hm]
   refine vars_loop 1 n l ih out E tag hE (by omega) K h _ _ rfl rfl rfl fun fr E' tag' hE' f0=>?_
   simp only[rn,pevA,seval,f0]
   rw[varsS,e1]
   exact⟨.lstE fun h=>hE' (strC_ne h),AH.le_refl _⟩
  ·have e1:addV out 1 n=out++[n]:=by unfold addV;rw[if_pos ⟨rfl,hm⟩]
   simp only[rn,pevA,seval,hm,e_dregion d80_0,u_L s80_0.eq_1,u_T g80_0.eq_1]
   refine (texts_ok E out tag (by omega) K h).mono ?_
   rintro _ _ ⟨tag2,t2,rfl,hT,rfl⟩
   simp only[rn,pevA,seval,e_dregion d80_0,u_L s80_0.eq_1,u_T g80_0.eq_1]
   refine WO.append (i:=0) hT rfl rfl rfl trivial (by decide) (by simp) rfl (.inr rfl) (fun _=>?_) ?_ fun tag3 t3 hT3=>?_
   ·simp[capOk,strC_len];unfold most at hB;omega
   ·simp[big_eq,strC_len];unfold most at hB;omega
   rw[strC_app]
   simp only[rn,pevA,seval,e_dregion d80_0,u_L s80_0.eq_1,u_T g80_0.eq_1]
   refine vars_loop 1 n l ih (out++[n]) 9 tag3 (fun _=>rfl) (by simp;omega) K _ _ _ rfl rfl rfl fun fr E' tag' hE' f0=>?_
   simp only[rn,pevA,seval,f0]
   rw[varsS,e1]
   exact⟨.lstE fun h=>hE' (strC_ne h),le_tk (AH.le_refl _) hT3.le⟩
 ·have e1:addV out k n=out:=by unfold addV;rw[if_neg fun h=>hk h.1]
  have c1:decide (k=1)=false:=decide_eq_false hk
  simp only[rn,pevA,seval,c1]
  refine vars_loop k n l ih out E tag hE (by omega) K h _ _ rfl rfl rfl fun fr E' tag' hE' f0=>?_
  simp only[rn,pevA,seval,f0]
  rw[varsS,e1]
  exact⟨.lstE fun h=>hE' (strC_ne h),AH.le_refl _⟩
end Go.Proofs.Ytkopkbhpompmnaa.p
namespace Go.Proofs.Ytkopkbhpompmnaa.p
open Go.Proofs Go Go.Cn code
set_option linter.unusedSimpArgs false
set_option linter.unusedVariables false
section
variable (ts:List Tk)(e:Int)
def behL (s:St):Nat->Nat->Int->Nat
 |0,i,_=>i
 |d+1,i,n=>
  let n1:=if atS ts i [40] s then IntKind.i64.wrap (n+1) else n
  if atS ts i [41] s then
   if IntKind.i64.wrap (n1-1)=0 then i+1 else behL s d (i+1) (IntKind.i64.wrap (n1-1))
  else behL s d (i+1) n1
def behindS (i:Nat)(s:St):Nat:=if atS ts i [40] s then behL ts s (ts.length-i) i 0 else i+1
def contextS (s:St):Bool:=if isS ts [40] s then atS ts (behindS ts s.i s) [61,62] s else kindS ts 2 s&&atS ts (behindS ts (s.i+1) s) [61,62] s
end
section
variable {ts:List Tk}{e:Int}(hts:ts.length<=1000000)
include hts in
theorem behind_ok (i:Nat)(s:St)(hi:i<=ts.length):PC ts e 91 [.int .i64 (i:Nat)] (.int .i64 (behindS ts i s:Nat)) s s:=by
 refine PC.intro t91 fun K h b hk hK=>?_
 unfold behindS
 have w0:IntKind.i64.wrap ((i:Int)+1)=((i+1:Nat):Int):=by rw[wrap64 ⟨by omega,by omega⟩];rfl
 simp only[u_C c91.eq_1,rn,pevA,seval]
 refine (at_ok i [40] s).use (AH.set_same _ _ _) hk ?_
 cases c0:atS ts i [40] s with
 |false=>
  simp only[rn,pevA,seval,w0]
  exact PC.fin (.refl _) (AH.le_refl _) (hK _)
 |true=>
  simp only[rn,pevA,seval]
  refine aloop (α:=Nat×Int) (fun x fr h1=>fr 0=.ptr b 0/\fr 1=.int .i64 (x.1:Nat)/\fr 5=.int .i64 x.2/\x.1<=ts.length/\behL ts s (ts.length-x.1) x.1 x.2=behL ts s (ts.length-i) i 0/\h1=h.set b (parO ts e s)) (fun x=>ts.length-x.1) (i,0) ⟨rfl,rfl,rfl,hi,rfl,rfl⟩ ?_
  generalize behL ts s (ts.length-i) i 0=r
  clear c0 w0 hi
  rintro⟨j,n⟩ fr h1 ⟨f0,f1,f5,hj,hr,rfl⟩
  simp only at f1 f5 hj hr
  by_cases hlt:j<ts.length
  ·have c1:decide ((j:Int)<(ts.length:Int))=true:=decide_eq_true (by omega)
   have w:IntKind.i64.wrap ((j:Int)+1)=((j+1:Nat):Int):=by rw[wrap64 ⟨by omega,by omega⟩];rfl
   have hd:ts.length-j=(ts.length-(j+1))+1:=by omega
   rw[hd,behL] at hr
   simp only[u_C l91_0.eq_1,rn,pevA,seval,f0,f1,f5,parO,tkC_len,c1]
   refine (at_ok j [40] s).use (AH.set_same _ _ _) hk ?_
   cases c2:atS ts j [40] s with
   |true=>
    simp only[c2,Bool.false_eq_true,if_true,if_false] at hr
    simp only[rn,pevA,seval,f0,f1,f5]
    refine (at_ok j [41] s).use (AH.set_same _ _ _) hk ?_
    cases c3:atS ts j [41] s with
    |true=>
     simp only[c3,Bool.false_eq_true,if_true,if_false] at hr
     by_cases hz:IntKind.i64.wrap (IntKind.i64.wrap (n+1)-1)=0
     ·rw[if_pos hz] at hr
      simp only[rn,pevA,seval,f0,f1,f5,hz,w]
      rw[hr]
      exact PC.fin (.refl _) (AH.le_refl _) (hK _)
     ·rw[if_neg hz] at hr
      simp only[rn,pevA,seval,f0,f1,f5,hz,w]
      exact⟨(j+1,IntKind.i64.wrap (IntKind.i64.wrap (n+1)-1)),by show ts.length-(j+1)<ts.length-j;omega,f0,rfl,rfl,hlt,hr,rfl⟩
    |false=>
     simp only[c3,Bool.false_eq_true,if_true,if_false] at hr
     simp only[rn,pevA,seval,f0,f1,f5,w]
     exact⟨(j+1,IntKind.i64.wrap (n+1)),by show ts.length-(j+1)<ts.length-j;omega,f0,rfl,rfl,hlt,hr,rfl⟩
   |false=>
    simp only[c2,Bool.false_eq_true,if_true,if_false] at hr
    simp only[rn,pevA,seval,f0,f1,f5]
    refine (at_ok j [41] s).use (AH.set_same _ _ _) hk ?_
    cases c3:atS ts j [41] s with
    |true=>
     simp only[c3,Bool.false_eq_true,if_true,if_false] at hr
     by_cases hz:IntKind.i64.wrap (n-1)=0
     ·rw[if_pos hz] at hr
      simp only[rn,pevA,seval,f0,f1,f5,hz,w]
      rw[hr]
      exact PC.fin (.refl _) (AH.le_refl _) (hK _)
     ·rw[if_neg hz] at hr
      simp only[rn,pevA,seval,f0,f1,f5,hz,w]
      exact⟨(j+1,IntKind.i64.wrap (n-1)),by show ts.length-(j+1)<ts.length-j;omega,f0,rfl,rfl,hlt,hr,rfl⟩
    |false=>
     simp only[c3,Bool.false_eq_true,if_true,if_false] at hr
     simp only[rn,pevA,seval,f0,f1,f5,w]
     exact⟨(j+1,n),by show ts.length-(j+1)<ts.length-j;omega,f0,rfl,f5,hlt,hr,rfl⟩
  ·have hje:j=ts.length:=by omega
   subst hje
   have c1:decide ((ts.length:Int)<(ts.length:Int))=false:=by simp
   rw[Nat.sub_self,behL] at hr
   simp only[u_C l91_0.eq_1,rn,pevA,seval,f0,f1,f5,parO,tkC_len,c1,hr]
   rw[<-hr]
   exact PC.fin (.refl _) (AH.le_refl _) (hK _)
include hts in
theorem context_ok (s:St)(hs:s.i<=ts.length):PC ts e 78 [] (.bool (contextS ts s)) s s:=by
 refine PC.intro t78 fun K h b hk hK=>?_
 unfold contextS
 simp only[u_C c78.eq_1,rn,pevA,seval]
 refine (is_ok [40] s).use (AH.set_same _ _ _) hk ?_
 cases c0:isS ts [40] s with
 |true=>
  simp only[rn,pevA,seval,parO]
  refine (behind_ok hts s.i s hs).use (AH.set_same _ _ _) hk ?_
  simp only[rn,pevA,seval]
  refine (at_ok _ [61,62] s).use (AH.set_same _ _ _) hk ?_
  simp only[rn,pevA,seval]
  exact PC.fin (.refl _) (AH.le_refl _) (hK _)
 |false=>
  simp only[rn,pevA,seval]
  refine (kind_ok 2 s).use (AH.set_same _ _ _) hk ?_
  cases c1:kindS ts 2 s with
  |false=>
   simp only[rn,pevA,seval,Bool.false_and]
   exact PC.fin (.refl _) (AH.le_refl _) (hK _)
  |true=>
   have hlt:=kindS_lt c1
   simp only[rn,pevA,seval,parO,w1 (Nat.lt_of_lt_of_le hlt hts)]
   refine (behind_ok hts (s.i+1) s hlt).use (AH.set_same _ _ _) hk ?_
   simp only[rn,pevA,seval]
   refine (at_ok _ [61,62] s).use (AH.set_same _ _ _) hk ?_
   simp only[rn,pevA,seval]
   exact PC.fin (.refl _) (AH.le_refl _) (hK _)
end
end Go.Proofs.Ytkopkbhpompmnaa.p
namespace Go.Proofs.Ytkopkbhpompmnaa.p
open Go.Proofs Go Go.Cn code
set_option linter.unusedSimpArgs false
set_option linter.unusedVariables false
section
variable {ts:List Tk}{e:Int}
theorem amiss_bad (c p:Int)(hc:c≠0)(s:St):fineS (amissS c p s)=false:=by
 unfold amissS
 split
 ·simp[fineS,hc]
 ·rename_i h;simpa using h
theorem wrong_bad (s:St):fineS (wrongS ts e s)=false:=amiss_bad _ _ (by decide) s
theorem kindS_fine {k:Int}{s:St}(h:kindS ts k s=true):fineS s=true:=by unfold kindS at h;revert h;cases fineS s<;>simp
theorem atS_fine {i:Nat}{str:Nm}{s:St}(h:atS ts i str s=true):fineS s=true:=by unfold atS at h;revert h;cases fineS s<;>simp
theorem isS_fine {str:Nm}{s:St}(h:isS ts str s=true):fineS s=true:=atS_fine h
theorem argument_fine {s:St}(h:argumentS ts s=true):fineS s=true:=by
 unfold argumentS at h
 rw[Bool.or_eq_true,Bool.or_eq_true] at h
 rcases h with (h|h)|h
 ·exact kindS_fine h
 ·exact kindS_fine h
 ·exact isS_fine h
theorem take_cases (str:Nm)(s:St):(isS ts str s=true/\takeS ts e str s=nextS s)\/(isS ts str s=false/\takeS ts e str s=wrongS ts e s):=by
 unfold takeS
 cases isS ts str s<;>simp
theorem word_cases (k:Int)(s:St):(kindS ts k s=true/\(wordS ts e k s).2=nextS s)\/(kindS ts k s=false/\(wordS ts e k s).2=wrongS ts e s):=by
 unfold wordS
 cases kindS ts k s<;>simp
theorem open_cases (s:St):((openS ts e s).i=s.i+1/\fineS (openS ts e s)=fineS s)\/((openS ts e s).i=s.i/\fineS (openS ts e s)=false):=by
 unfold openS
 split
 ·exact .inr ⟨amissS_i _ _ _,amiss_bad _ _ (by decide) _⟩
 ·exact .inl ⟨rfl,rfl⟩
structure Prog (s s':St)(c:Nat):Prop where
 i:s.i<=s'.i
 f:fineS s'=true->fineS s=true/\c<=s'.i-s.i
 b:c<=s'.i-s.i+1
theorem Prog.wrong (s:St):Prog s (wrongS ts e s) 1:=⟨by rw[wrongS_i];exact Nat.le_refl _,fun h=>by (rw[wrong_bad] at h;cases h),by omega⟩
theorem Prog.word {k:Int}{s:St}(h:kindS ts k s=true):Prog s (wordS ts e k s).2 1:=by
 rcases word_cases (e:=e) k s with⟨_,h2⟩|⟨h1,_⟩
 ·rw[h2]
  exact⟨Nat.le_succ _,fun _=>⟨kindS_fine h,by show 1<=s.i+1-s.i;omega⟩,by omega⟩
 ·rw[h] at h1;cases h1
theorem Prog.bracket {s s1:St}{c:Nat}(hf:fineS s=true)(h:Prog (openS ts e s) s1 c)(str:Nm):Prog s (shutS (takeS ts e str s1)) c:=by
 have hi:=h.i
 have hb:=h.b
 rcases open_cases (ts:=ts) (e:=e) s with⟨o1,o2⟩|⟨o1,o2⟩<;>rcases take_cases (ts:=ts) (e:=e) str s1 with⟨t1,t2⟩|⟨t1,t2⟩
 ·have:=h.f (isS_fine t1)
  rw[t2]
  exact⟨by show s.i<=s1.i+1;omega,fun _=>⟨hf,by show c<=s1.i+1-s.i;omega⟩,by show c<=s1.i+1-s.i+1;omega⟩
 ·rw[t2]
  refine⟨by show s.i<=(wrongS ts e s1).i;rw[wrongS_i];omega,fun h=>?_,by show c<=(wrongS ts e s1).i-s.i+1;rw[wrongS_i];omega⟩
  have:fineS (wrongS ts e s1)=true:=h
  rw[wrong_bad] at this;cases this
 ·have:=(h.f (isS_fine t1)).1
  rw[o2] at this;cases this
 ·rw[t2]
  refine⟨by show s.i<=(wrongS ts e s1).i;rw[wrongS_i];omega,fun h=>?_,by show c<=(wrongS ts e s1).i-s.i+1;rw[wrongS_i];omega⟩
  have:fineS (wrongS ts e s1)=true:=h
  rw[wrong_bad] at this;cases this
theorem cntT_mk (k:Int)(n:Nm)(l:List Ty):cntT (.mk k n l)=1+cntTs l:=by rw[cntT]
theorem types_prog:∀n:Nat,(∀s t s',argS ts e n s=some (t,s')->Prog s s' (cntT t))/\(∀acc s l s',argsS ts e n acc s=some (l,s')->∃c,cntTs l=cntTs acc+c/\Prog s s' c/\(fineS s=false->c=0))/\
  (∀s t s',appliedS ts e n s=some (t,s')->Prog s s' (cntT t))/\(∀s t s',typS ts e n s=some (t,s')->Prog s s' (cntT t))
 |0=>⟨fun s t s' h=>by (rw[argS] at h;cases h),fun acc s l s' h=>by (rw[argsS] at h;cases h),fun s t s' h=>by (rw[appliedS] at h;cases h),fun s t s' h=>by (rw[typS] at h;cases h)⟩
 |n+1=>by
  obtain⟨iA,iL,iP,iT⟩:=types_prog n
  refine⟨?_,?_,?_,?_⟩
  ·intro s t s' h
   rw[argS] at h
   split at h
   ·rename_i c;cases h;exact .word c
   ·split at h
    ·rename_i c;cases h;exact .word c
    ·split at h
     ·rename_i c
      cases hq:typS ts e n (openS ts e s) with
      |none=>rw[hq] at h;cases h
      |some p=>
       obtain⟨t1,s1⟩:=p
       rw[hq] at h
       cases h
       exact (iT _ _ _ hq).bracket (isS_fine c) _
     ·cases h;exact .wrong s
  ·intro acc s l s' h
   rw[argsS] at h
   split at h
   ·rename_i c
    cases hq:argS ts e n s with
    |none=>rw[hq] at h;cases h
    |some p=>
     obtain⟨t1,s1⟩:=p
     rw[hq] at h
     have p1:=iA _ _ _ hq
     obtain⟨c2,h1,p2,h2⟩:=iL _ _ _ _ h
     rw[cntTs_app,cntTs,cntTs] at h1
     refine⟨cntT t1+c2,by omega,⟨Nat.le_trans p1.i p2.i,fun hf=>?_,?_⟩,fun hf=>by rw[argument_fine c] at hf;cases hf⟩
     ·have f2:=p2.f hf
      have f1:=p1.f f2.1
      have:=p1.i;have:=p2.i
      exact⟨f1.1,by omega⟩
     ·have:=p1.i;have:=p2.i;have b1:=p1.b;have b2:=p2.b
      cases hf:fineS s1 with
      |false=>have:=h2 hf;omega
      |true=>have:=(p1.f hf).2;omega
   ·cases h
    exact⟨0,rfl,⟨Nat.le_refl _,fun hf=>⟨hf,Nat.zero_le _⟩,Nat.zero_le _⟩,fun _=>rfl⟩
  ·intro s t s' h
   rw[appliedS] at h
   split at h
   ·rename_i c
    cases hq:argsS ts e n [] (wordS ts e 2 s).2 with
    |none=>rw[hq] at h;cases h
    |some p=>
     obtain⟨l,s1⟩:=p
     rw[hq] at h
     cases h
     obtain⟨c2,h1,p2,h2⟩:=iL _ _ _ _ hq
     have p1:=Prog.word (e:=e) c
     rw[cntTs] at h1
     have:=p1.i;have:=p2.i;have:=p2.b
     rcases word_cases (ts:=ts) (e:=e) 2 s with⟨_,h4⟩|⟨h3,_⟩
     ·have hi:(wordS ts e 2 s).2.i=s.i+1:=by rw[h4];rfl
      rw[cntT_mk]
      refine⟨by omega,fun hf=>⟨kindS_fine c,?_⟩,by omega⟩
      have:=(p2.f hf).2
      omega
     ·rw[c] at h3;cases h3
   ·exact iA _ _ _ h
  ·intro s t s' h
   rw[typS] at h
   cases ha:appliedS ts e n s with
   |none=>rw[ha] at h;cases h
   |some p=>
    obtain⟨t1,s1⟩:=p
    rw[ha] at h
    have p1:=iP _ _ _ ha
    simp only at h
    split at h
    ·rename_i c
     cases hq:typS ts e n (nextS s1) with
     |none=>rw[hq] at h;cases h
     |some p=>
      obtain⟨u,s2⟩:=p
      rw[hq] at h
      cases h
      have p2:=iT _ _ _ hq
      have f1:=p1.f (isS_fine c)
      have:=p1.i;have i2:s1.i+1<=s'.i:=p2.i;have b2:cntT u<=s'.i-(s1.i+1)+1:=p2.b
      rw[cntT_mk,cntTs,cntTs,cntTs]
      refine⟨by omega,fun hf=>⟨f1.1,?_⟩,by omega⟩
      have:cntT u<=s'.i-(s1.i+1):=(p2.f hf).2
      omega
    ·cases h;exact p1
end
end Go.Proofs.Ytkopkbhpompmnaa.p
namespace Go.Proofs.Ytkopkbhpompmnaa.p
open Go.Proofs Go Go.Cn code
set_option linter.unusedSimpArgs false
set_option linter.unusedVariables false
abbrev Pd:=Nm×Ty
def pdR (p:Pd):List AV:=.str p.1::tyR p.2
def pdsR (l:List Pd):List (List AV):=l.map pdR
theorem pdsR_len (l:List Pd):(pdsR l).length=l.length:=by rw[pdsR,List.length_map]
theorem pdsR_app (l:List Pd)(p:Pd):pdsR l++[pdR p]=pdsR (l++[p]):=by simp[pdsR]
theorem pdsR_get (l:List Pd)(i:Nat):(pdsR l)[i]?=(l[i]?).map pdR:=by rw[pdsR,List.getElem?_map]
def cntP:List Pd->Nat
 |[]=>0
 |p::l=>cntT p.2+cntP l
theorem cntP_app (l m:List Pd):cntP (l++m)=cntP l+cntP m:=by
 induction l with
 |nil=>simp[cntP]
 |cons a l ih=>rw[List.cons_append,cntP,cntP,ih];omega
section
variable (ts:List Tk)(e:Int)
def predS (plain:Bool)(n:Nat)(s:St):Option (Pd×St):=
 if plain then some (((wordS ts e 2 s).1,.mk 1 (wordS ts e 1 (wordS ts e 2 s).2).1 []),(wordS ts e 1 (wordS ts e 2 s).2).2)
 else match argS ts e n (wordS ts e 2 s).2 with
  |some (t,s')=>some (((wordS ts e 2 s).1,t),s')
  |none=>none
def predsL (plain:Bool):Nat->List Pd->St->Option (List Pd×St)
 |0,_,_=>none
 |n+1,acc,s=>if isS ts [44] s then match predS ts e plain n (nextS s) with
   |some (p,s')=>predsL plain n (acc++[p]) s'
   |none=>none
  else some (acc,s)
def predsS (plain:Bool)(n:Nat)(s:St):Option (List Pd×St):=
 if contextS ts s then
  if isS ts [40] s then match predS ts e plain n (nextS s) with
   |some (p,s1)=>match predsL ts e plain n [p] s1 with
    |some (l,s2)=>some (l,takeS ts e [61,62] (takeS ts e [41] s2))
    |none=>none
   |none=>none
  else match predS ts e plain n s with
   |some (p,s1)=>some ([p],takeS ts e [61,62] s1)
   |none=>none
 else some ([],s)
end
section
variable {ts:List Tk}{e:Int}
theorem Prog.zero (s:St):Prog s s 0:=⟨Nat.le_refl _,fun h=>⟨h,Nat.zero_le _⟩,Nat.zero_le _⟩
theorem Prog.pre {s s1 s':St}{c d:Nat}(h1:Prog s s1 d)(h2:Prog s1 s' c):Prog s s' c:=by
 have:=h1.i;have:=h2.i;have:=h2.b
 refine⟨by omega,fun hf=>?_,by omega⟩
 have g2:=h2.f hf
 have g1:=h1.f g2.1
 exact⟨g1.1,by omega⟩
theorem Prog.wd (k:Int)(s:St):Prog s (wordS ts e k s).2 1:=by
 rcases word_cases (ts:=ts) (e:=e) k s with⟨h1,_⟩|⟨_,h2⟩
 ·exact .word h1
 ·rw[h2];exact .wrong s
theorem Prog.take {s s1:St}{c:Nat}(h:Prog s s1 c)(str:Nm):Prog s (takeS ts e str s1) c:=by
 have hi:=h.i;have hb:=h.b
 rcases take_cases (ts:=ts) (e:=e) str s1 with⟨t1,t2⟩|⟨t1,t2⟩
 ·have:=h.f (isS_fine t1)
  rw[t2]
  exact⟨by show s.i<=s1.i+1;omega,fun _=>⟨this.1,by show c<=s1.i+1-s.i;omega⟩,by show c<=s1.i+1-s.i+1;omega⟩
 ·rw[t2]
  exact⟨by rw[wrongS_i];omega,fun h=>by (rw[wrong_bad] at h;cases h),by rw[wrongS_i];omega⟩
theorem Prog.nx {s s1:St}{c:Nat}(hf:fineS s=true)(h:Prog (nextS s) s1 c):Prog s s1 c:=by
 have i2:s.i+1<=s1.i:=h.i
 have b2:c<=s1.i-(s.i+1)+1:=h.b
 refine⟨by omega,fun h1=>⟨hf,?_⟩,by omega⟩
 have:c<=s1.i-(s.i+1):=(h.f h1).2
 omega
theorem Prog.two {s s1 s':St}{c1 c2:Nat}(p1:Prog s s1 c1)(p2:Prog s1 s' c2)(h2:fineS s1=false->c2=0):Prog s s' (c1+c2):=by
 have:=p1.i;have:=p2.i;have b1:=p1.b;have b2:=p2.b
 refine⟨by omega,fun hf=>?_,?_⟩
 ·have f2:=p2.f hf
  have f1:=p1.f f2.1
  exact⟨f1.1,by omega⟩
 ·cases hf:fineS s1 with
  |false=>have:=h2 hf;omega
  |true=>have:=(p1.f hf).2;omega
theorem pred_prog {plain:Bool}{n:Nat}{s s':St}{p:Pd}(h:predS ts e plain n s=some (p,s')):Prog s s' (cntT p.2):=by
 unfold predS at h
 split at h
 ·cases h
  exact (Prog.wd 2 s).pre (.wd 1 _)
 ·cases hq:argS ts e n (wordS ts e 2 s).2 with
  |none=>rw[hq] at h;cases h
  |some q=>
   obtain⟨t,s1⟩:=q
   rw[hq] at h
   cases h
   exact (Prog.wd 2 s).pre ((types_prog n).1 _ _ _ hq)
theorem predsL_prog {plain:Bool}:∀(n:Nat)(acc:List Pd)(s:St)(l:List Pd)(s':St),predsL ts e plain n acc s=some (l,s')->∃c,cntP l=cntP acc+c/\Prog s s' c/\(fineS s=false->c=0)
 |0,acc,s,l,s',h=>by rw[predsL] at h;cases h
 |n+1,acc,s,l,s',h=>by
  rw[predsL] at h
  split at h
  ·rename_i c
   cases hq:predS ts e plain n (nextS s) with
   |none=>rw[hq] at h;cases h
   |some q=>
    obtain⟨p,s1⟩:=q
    rw[hq] at h
    obtain⟨c2,h1,p2,h2⟩:=predsL_prog n _ _ _ _ h
    rw[cntP_app,cntP,cntP] at h1
    exact⟨cntT p.2+c2,by omega,((pred_prog hq).nx (isS_fine c)).two p2 h2,fun hf=>by rw[isS_fine c] at hf;cases hf⟩
  ·cases h
   exact⟨0,rfl,.zero _,fun _=>rfl⟩
theorem preds_prog {plain:Bool}{n:Nat}{s s':St}{l:List Pd}(h:predsS ts e plain n s=some (l,s')):Prog s s' (cntP l):=by
 unfold predsS at h
 split at h
 ·split at h
  ·rename_i c
   cases hq:predS ts e plain n (nextS s) with
   |none=>rw[hq] at h;cases h
   |some q=>
    obtain⟨p,s1⟩:=q
    rw[hq] at h
    simp only at h
    cases hl:predsL ts e plain n [p] s1 with
    |none=>rw[hl] at h;cases h
    |some q=>
     obtain⟨l2,s2⟩:=q
     rw[hl] at h
     cases h
     obtain⟨c2,h1,p2,h2⟩:=predsL_prog n _ _ _ _ hl
     rw[h1,cntP,cntP]
     exact ((((pred_prog hq).nx (isS_fine c)).two p2 h2).take _).take _
  ·cases hq:predS ts e plain n s with
   |none=>rw[hq] at h;cases h
   |some q=>
    obtain⟨p,s1⟩:=q
    rw[hq] at h
    cases h
    rw[cntP,cntP]
    exact (pred_prog hq).take _
 ·cases h
  exact .zero s
variable (hts:ts.length<=1000000)
include hts in
theorem pred_ok {n:Nat}(hn:n<=most)(plain:Bool)(s s':St)(p:Pd)(hs:s.i<=ts.length)(hr:predS ts e plain n s=some (p,s')):PC ts e 79 [.bool plain] (.agg (pdR p)) s s'/\s'.i<=ts.length:=by
 unfold predS at hr
 have hi1:=wordS_i (e:=e) hs 2
 refine⟨PC.intro t79 fun K h b hk hK=>?_,?_⟩
 ·simp only[u_C c79.eq_1,rn,pevA,seval]
  intro b2 hb2 hk2
  obtain⟨n2,hb2⟩:=AH.set_none.1 hb2
  simp only[rn,pevA,seval]
  refine (word_ok hts 2 s).use (by simp only[kG,kN,n2,n2.symm]<;>rfl) hk ?_
  simp only[rn,pevA,seval,kN,n2,n2.symm]
  intro b3 hb3 hk3
  obtain⟨n32,n3,hb3⟩:=new3.1 hb3
  cases plain with
  |true=>
   rw[if_pos rfl] at hr
   cases hr
   simp only[rn,pevA,seval,kN,n2,n2.symm,n3,n3.symm,n32,n32.symm,hk3]
   refine (word_ok hts 1 _).use (by simp only[kG,kN,n2,n2.symm,n3,n3.symm,n32,n32.symm]<;>rfl) hk ?_
   simp only[rn,pevA,seval,kN,n2,n2.symm,n3,n3.symm,n32,n32.symm,hk3,hk2]
   exact PC.fin (.aggL ⟨.refl _,.refl _,.refl _,.nil _ _ _,trivial⟩) (by repeat (first|exact AH.le_refl _|refine le_set ?_ (AH.set_none.2 ⟨n2,hb2⟩)|refine le_del ?_ (AH.set_none.2 ⟨n2,hb2⟩)|refine le_set ?_ (AH.set_none.2 ⟨n3,hb3⟩)|refine le_del ?_ (AH.set_none.2 ⟨n3,hb3⟩))) (hK _)
  |false=>
   rw[if_neg (by decide)] at hr
   cases hq:argS ts e n (wordS ts e 2 s).2 with
   |none=>rw[hq] at hr;cases hr
   |some q=>
    obtain⟨⟨tk,tn,tl⟩,s1⟩:=q
    rw[hq] at hr
    cases hr
    simp only[rn,pevA,seval,kN,n2,n2.symm,n3,n3.symm,n32,n32.symm,hk3]
    refine (arg_ok hts hn _ _ _ hi1 hq).1.use (by simp only[kG,kN,n2,n2.symm,n3,n3.symm,n32,n32.symm]<;>rfl) hk ?_
    simp only[rn,pevA,seval,kN,n2,n2.symm,n3,n3.symm,n32,n32.symm,hk3,hk2,tyR]
    exact PC.fin (.refl _) (by repeat (first|exact AH.le_refl _|refine le_set ?_ (AH.set_none.2 ⟨n2,hb2⟩)|refine le_del ?_ (AH.set_none.2 ⟨n2,hb2⟩)|refine le_set ?_ (AH.set_none.2 ⟨n3,hb3⟩)|refine le_del ?_ (AH.set_none.2 ⟨n3,hb3⟩))) (hK _)
 ·split at hr
  ·cases hr;exact wordS_i hi1 1
  ·cases hq:argS ts e n (wordS ts e 2 s).2 with
   |none=>rw[hq] at hr;cases hr
   |some q=>
    obtain⟨t,s1⟩:=q
    rw[hq] at hr
    cases hr
    exact (arg_ok hts hn _ _ _ hi1 hq).2
end
end Go.Proofs.Ytkopkbhpompmnaa.p
namespace Go.Proofs.Ytkopkbhpompmnaa.p
open Go.Proofs Go Go.Cn code
set_option linter.unusedSimpArgs false
set_option linter.unusedVariables false
structure Sch where
 vars:List Nm
 ctx:List Pd
 ty:Ty
def schR (s:Sch):List AV:=.lst 9 (strC s.vars) .no::.lst 119 (pdsR s.ctx) .no::tyR s.ty
def ctxVars (out:List Nm)(l:List Pd):List Nm:=l.foldl (fun o p=>varsS o p.2) out
section
variable (ts:List Tk)(e:Int)
def schemeS (n:Nat)(s:St):Option (Sch×St):=
 match predsS ts e false n s with
 |some (ctx,s1)=>match typS ts e n s1 with
  |some (t,s2)=>some (⟨ctxVars (varsS [] t) ctx,ctx,t⟩,s2)
  |none=>none
 |none=>none
end
section
variable {ts:List Tk}{e:Int}(hts:ts.length<=1000000)
include hts in
theorem predsL_i {plain:Bool}:∀(n:Nat),n<=most->∀(acc:List Pd)(s:St)(l:List Pd)(s':St),s.i<=ts.length->predsL ts e plain n acc s=some (l,s')->s'.i<=ts.length
 |0,_,acc,s,l,s',_,h=>by rw[predsL] at h;cases h
 |n+1,hn,acc,s,l,s',hs,h=>by
  rw[predsL] at h
  split at h
  ·rename_i c
   cases hq:predS ts e plain n (nextS s) with
   |none=>rw[hq] at h;cases h
   |some q=>
    obtain⟨p,s1⟩:=q
    rw[hq] at h
    exact predsL_i n (by omega) _ _ _ _ (pred_ok hts (by omega) _ _ _ _ (show (nextS s).i<=_ from isS_lt c) hq).2 h
  ·cases h;exact hs
include hts in
theorem preds_ok {n:Nat}(hn:n+1<=most)(plain:Bool)(s s':St)(l:List Pd)(hs:s.i<=ts.length)(hr:predsS ts e plain n s=some (l,s')):PC ts e 54 [.bool plain] (.lst 119 (pdsR l) .no) s s'/\s'.i<=ts.length:=by
 unfold predsS at hr
 refine⟨?_,?_⟩
 ·intro K h b hk
  refine ACall.retQ t54 fun hK0=>?_
  have hK:∀o,KOk K (h.set b o):=fun o=>by have:=hK0.set b o;rwa [AH.set_set] at this
  simp only[u_C c54.eq_1,rn,pevA,seval]
  refine (context_ok hts s hs).use (AH.set_same _ _ _) hk ?_
  cases c0:contextS ts s with
  |false=>
   rw[c0,if_neg (by decide)] at hr
   cases hr
   simp only[rn,pevA,seval]
   exact PC.fin (.nil _ _ _) (AH.le_refl _) (hK _)
  |true=>
   rw[c0,if_pos rfl] at hr
   simp only[rn,pevA,seval]
   refine (is_ok [40] s).use (AH.set_same _ _ _) hk ?_
   cases c1:isS ts [40] s with
   |true=>
    rw[c1,if_pos rfl] at hr
    have hlt:=isS_lt c1
    cases hq:predS ts e plain n (nextS s) with
    |none=>rw[hq] at hr;cases hr
    |some q=>
     obtain⟨⟨pn,⟨pk,pt,pl⟩⟩,s1⟩:=q
     rw[hq] at hr
     simp only at hr
     obtain⟨hp,hi1⟩:=pred_ok hts (by omega) _ _ _ _ (show (nextS s).i<=_ from hlt) hq
     cases hl:predsL ts e plain n [(pn,.mk pk pt pl)] s1 with
     |none=>rw[hl] at hr;cases hr
     |some q=>
      obtain⟨l2,s2⟩:=q
      rw[hl] at hr
      cases hr
      simp only[rn,pevA,seval,parO,w1 (Nat.lt_of_lt_of_le hlt hts),hk]
      refine hp.use (AH.set_same _ _ _) hk ?_
      simp only[rn,pevA,seval,pdR,tyR]
      refine WO.append (i:=0) (.one _ 119 4) rfl rfl rfl trivial (by decide) (by simp) rfl (.inr rfl) (fun _=>by simp[capOk]) (by simp[big_eq]) fun tag2 t2 hT2=>?_
      simp only[rn,pevA,seval]
      have ha:[[AV.str pn,.int .i64 pk,.str pt,.lst 59 (tysR pl) .no]]=pdsR [(pn,.mk pk pt pl)]:=rfl
      rw[ha]
      refine aloop (α:=Nat×List Pd×St) (fun x fr h1=>fr 0=.ptr b 0/\fr 1=.bool plain/\x.2.2.i<=ts.length/\x.1<=n/\x.2.1.length+x.1<=most/\predsL ts e plain x.1 x.2.1 x.2.2=some (l,s2)/\
       ∃tag t',fr 5=.lst 119 (pdsR x.2.1) tag/\Toks h.toks t' [(tag,119,4,0)]/\h1=(h.set b (parO ts e x.2.2)).tk t') (fun x=>x.1) (n,[(pn,.mk pk pt pl)],s1)
       ⟨rfl,rfl,hi1,Nat.le_refl _,by show 1+n<=most;omega,hl,tag2,t2,rfl,hT2,rfl⟩ ?_
      clear hl hT2 hq hp hi1
      rintro⟨m,acc,s3⟩ fr h1 ⟨f0,f1,hi,hm,hB,hl,tag,t',f5,hT,rfl⟩
      simp only at f0 f1 f5 hi hm hB hl
      cases m with
      |zero=>rw[predsL] at hl;cases hl
      |succ m=>
       rw[predsL] at hl
       simp only[u_C l54_0.eq_1,rn,pevA,seval,f0,f1,f5]
       refine (is_ok [44] s3).use (AH.set_same _ _ _) hk ?_
       cases c2:isS ts [44] s3 with
       |true=>
        rw[c2,if_pos rfl] at hl
        have hlt3:=isS_lt c2
        cases hq:predS ts e plain m (nextS s3) with
        |none=>rw[hq] at hl;cases hl
        |some q=>
         obtain⟨⟨qn,⟨qk,qt,ql⟩⟩,s4⟩:=q
         rw[hq] at hl
         obtain⟨hp,hi4⟩:=pred_ok hts (by omega) _ _ _ _ (show (nextS s3).i<=_ from hlt3) hq
         simp only[rn,pevA,seval,f0,f1,f5,parO,w1 (Nat.lt_of_lt_of_le hlt3 hts),hk]
         refine hp.use (AH.set_same _ _ _) hk ?_
         simp only[rn,pevA,seval,pdR,tyR,f0,f1,f5]
         refine WO.append (i:=0) hT rfl rfl rfl trivial (by decide) (by simp) rfl (.inr rfl) (fun _=>?_) ?_ fun tag3 t3 hT3=>?_
         ·simp[capOk,pdsR_len];unfold most at hB;omega
         ·simp[big_eq,pdsR_len];unfold most at hB;omega
         have ha:pdsR acc++[[AV.str qn,.int .i64 qk,.str qt,.lst 59 (tysR ql) .no]]=pdsR (acc++[(qn,.mk qk qt ql)]):=pdsR_app acc (qn,.mk qk qt ql)
         rw[ha]
         simp only[rn,pevA,seval]
         exact⟨(m,acc++[(qn,.mk qk qt ql)],s4),by show m<m+1;omega,f0,f1,hi4,by show m<=n;omega,by show (acc++[_]).length+m<=most;simp;omega,hl,tag3,t3,rfl,hT3,rfl⟩
       |false=>
        rw[c2,if_neg (by decide)] at hl
        cases hl
        simp only[rn,pevA,seval,f0,f1,f5]
        refine (take_ok hts [41] s2).use (AH.set_same _ _ _) hk ?_
        simp only[rn,pevA,seval,f0,f1,f5]
        refine (take_ok hts [61,62] _).use (AH.set_same _ _ _) hk ?_
        simp only[rn,pevA,seval,f0,f1,f5]
        exact PC.fin (.no _ _ _) (by repeat (first|exact AH.le_refl _|refine le_tk ?_ hT.le)) (hK _)
   |false=>
    rw[c1,if_neg (by decide)] at hr
    cases hq:predS ts e plain n s with
    |none=>rw[hq] at hr;cases hr
    |some q=>
     obtain⟨⟨pn,⟨pk,pt,pl⟩⟩,s1⟩:=q
     rw[hq] at hr
     cases hr
     obtain⟨hp,hi1⟩:=pred_ok hts (by omega) _ _ _ _ hs hq
     simp only[rn,pevA,seval]
     refine hp.use (AH.set_same _ _ _) hk ?_
     simp only[rn,pevA,seval,pdR,tyR]
     refine WO.append (i:=0) (.one _ 119 4) rfl rfl rfl trivial (by decide) (by simp) rfl (.inr rfl) (fun _=>by simp[capOk]) (by simp[big_eq]) fun tag2 t2 hT=>?_
     simp only[rn,pevA,seval]
     refine (take_ok hts [61,62] s1).use (AH.set_same _ _ _) hk ?_
     simp only[rn,pevA,seval]
     exact PC.fin (.no _ _ _) (by repeat (first|exact AH.le_refl _|refine le_tk ?_ hT.le)) (hK _)
 ·split at hr
  ·split at hr
   ·rename_i c
    cases hq:predS ts e plain n (nextS s) with
    |none=>rw[hq] at hr;cases hr
    |some q=>
     obtain⟨p,s1⟩:=q
     rw[hq] at hr
     simp only at hr
     have hi1:=(pred_ok hts (by omega) _ _ _ _ (show (nextS s).i<=_ from isS_lt c) hq).2
     cases hl:predsL ts e plain n [p] s1 with
     |none=>rw[hl] at hr;cases hr
     |some q=>
      obtain⟨l2,s2⟩:=q
      rw[hl] at hr
      cases hr
      exact takeS_i (takeS_i (predsL_i hts n (by omega) _ _ _ _ hi1 hl) _) _
   ·cases hq:predS ts e plain n s with
    |none=>rw[hq] at hr;cases hr
    |some q=>
     obtain⟨p,s1⟩:=q
     rw[hq] at hr
     cases hr
     exact takeS_i (pred_ok hts (by omega) _ _ _ _ hs hq).2 _
  ·cases hr;exact hs
end
end Go.Proofs.Ytkopkbhpompmnaa.p
namespace Go.Proofs.Ytkopkbhpompmnaa.p
open Go.Proofs Go Go.Cn code
set_option linter.unusedSimpArgs false
set_option linter.unusedVariables false
theorem ctxVars_len:∀(l:List Pd)(out:List Nm),(ctxVars out l).length<=out.length+cntP l
 |[],out=>by simp[ctxVars,cntP]
 |p::l,out=>by
  have:=ctxVars_len l (varsS out p.2)
  have:=varsS_len out p.2
  show (ctxVars (varsS out p.2) l).length<=_
  rw[cntP];omega
theorem ctxVars_app (out:List Nm)(l:List Pd)(p:Pd):ctxVars out (l++[p])=varsS (ctxVars out l) p.2:=by simp[ctxVars]
theorem cntP_at {l:List Pd}{i:Nat}{p:Pd}(h:l[i]?=some p):cntP (l.take i)+cntT p.2<=cntP l:=by
 have:=at_split h
 have e:cntP l=cntP (l.take i++p::l.drop (i+1)):=congrArg cntP this
 rw[cntP_app,cntP] at e;omega
theorem cntP_len:∀l:List Pd,l.length<=cntP l
 |[]=>Nat.zero_le _
 |p::l=>by have:=cntP_len l;have:=cnt_pos p.2;rw[cntP,List.length_cons];omega
section
variable {ts:List Tk}{e:Int}(hts:ts.length<=1000000)
include hts in
theorem scheme_ok {n:Nat}(hn:n+1<=most)(s s':St)(sc:Sch)(hs:s.i<=ts.length)(hr:schemeS ts e n s=some (sc,s')):PC ts e 58 [] (.agg (schR sc)) s s'/\s'.i<=ts.length:=by
 unfold schemeS at hr
 cases hp:predsS ts e false n s with
 |none=>rw[hp] at hr;cases hr
 |some q=>
  obtain⟨ctx,s1⟩:=q
  rw[hp] at hr
  simp only at hr
  cases ht:typS ts e n s1 with
  |none=>rw[ht] at hr;cases hr
  |some q=>
   obtain⟨⟨tk,tn,tl⟩,s2⟩:=q
   rw[ht] at hr
   cases hr
   have g1:=preds_prog hp
   have g2:=(types_prog n).2.2.2 _ _ _ ht
   obtain⟨cp,hi1⟩:=preds_ok hts hn false s s1 ctx hs hp
   obtain⟨ct,hi2⟩:=typ_ok hts (by omega) _ _ _ hi1 ht
   have hB:cntP ctx+cntT (.mk tk tn tl)<=1000002:=by
    have:=g1.i;have:=g1.b;have:=g2.i;have:=g2.b;omega
   have hl:=cntP_len ctx
   refine⟨PC.intro t58 fun K h b hk hK=>?_,hi2⟩
   simp only[u_C c58.eq_1,rn,pevA,seval]
   intro b2 hb2 hk2
   obtain⟨n2,hb2⟩:=AH.set_none.1 hb2
   simp only[rn,pevA,seval]
   intro b3 hb3 hk3
   obtain⟨n32,n3,hb3⟩:=new3.1 hb3
   simp only[rn,pevA,seval]
   refine cp.use (by simp only[kG,kN,n2,n2.symm,n3,n3.symm,n32,n32.symm]<;>rfl) hk ?_
   simp only[rn,pevA,seval,kN,n2,n2.symm,n3,n3.symm,n32,n32.symm,hk3]
   refine ct.use (by simp only[kG,kN,n2,n2.symm,n3,n3.symm,n32,n32.symm]<;>rfl) hk ?_
   simp only[rn,pevA,seval,kN,n2,n2.symm,n3,n3.symm,n32,n32.symm,hk3,tyR]
   refine (vars_ok (.mk tk tn tl) [] 0 .nil (fun h=>absurd rfl h) (by simp;unfold most;omega)).use ?_
   simp only[rn,pevA,seval,kN,n2,n2.symm,n3,n3.symm,n32,n32.symm,hk3]
   have hv0:=varsS_len [] (.mk tk tn tl)
   rw[List.length_nil] at hv0
   generalize varsS [] (.mk tk tn tl)=v0 at hv0 ⊢
   refine aloop (α:=Nat) (fun i fr h1=>fr 0=.ptr b 0/\fr 2=.ptr b2 0/\fr 3=.ptr b3 0/\fr 4=.int .i64 i/\i<=ctx.length/\
    h1=(((h.set b (parO ts e s')).set b2 (.cells [.lst 0 [] .nil,.lst 0 [] .nil,.int .i64 0,.str [],.lst 0 [] .nil] 61)).set b3 (.cells [.lst 9 (strC (ctxVars v0 (ctx.take i))) .no,.lst 119 (pdsR ctx) .no,.int .i64 tk,.str tn,.lst 59 (tysR tl) .no] 61))) (fun i=>ctx.length-i) 0 ⟨rfl,rfl,rfl,rfl,Nat.zero_le _,rfl⟩ ?_
   rintro i fr h1 ⟨f0,f2,f3,f4,hi,rfl⟩
   by_cases hlt:i<ctx.length
   ·have c1:decide ((i:Int)<(ctx.length:Int))=true:=decide_eq_true (by omega)
    have w:IntKind.i64.wrap ((i:Int)+1)=((i+1:Nat):Int):=by rw[wrap64 ⟨by omega,by omega⟩];rfl
    obtain⟨p,hp⟩ : ∃p,ctx[i]?=some p:=⟨ctx[i],by simp[hlt]⟩
    have ha:=cntP_at hp
    have hv:=ctxVars_len (ctx.take i) v0
    have hs:ctxVars v0 (ctx.take (i+1))=varsS (ctxVars v0 (ctx.take i)) p.2:=by rw[take_succ hp,ctxVars_app]
    obtain⟨pn,⟨pk,pt,pl⟩⟩:=p
    have ha:cntP (ctx.take i)+cntT (.mk pk pt pl)<=cntP ctx:=ha
    have hget:(pdsR ctx)[i]?=some [.str pn,.int .i64 pk,.str pt,.lst 59 (tysR pl) .no]:=by rw[pdsR_get,hp];rfl
    simp only[u_C l58_1.eq_1,e_dregion d58_0,u_L s58_0.eq_1,u_T g58_0.eq_1,rn,pevA,seval,f0,f2,f3,f4,kN,n2,n2.symm,n3,n3.symm,n32,n32.symm,pdsR_len,c1,hget]
    refine (vars_ok (.mk pk pt pl) (ctxVars v0 (ctx.take i)) 9 .no (fun _=>rfl) (by unfold most;omega)).use ?_
    simp only[e_dregion d58_0,u_L s58_0.eq_1,u_T g58_0.eq_1,rn,pevA,seval,f0,f2,f3,f4,kN,n2,n2.symm,n3,n3.symm,n32,n32.symm,hk3,w]
    refine⟨i+1,by show ctx.length-(i+1)<ctx.length-i;omega,f0,f2,f3,rfl,hlt,?_⟩
    rw[hs]
   ·have hie:i=ctx.length:=by omega
    subst hie
    have c1:decide ((ctx.length:Int)<(ctx.length:Int))=false:=by simp
    simp only[u_C l58_1.eq_1,e_dregion d58_0,u_L s58_0.eq_1,u_T g58_0.eq_1,rn,pevA,seval,f0,f2,f3,f4,kN,n2,n2.symm,n3,n3.symm,n32,n32.symm,pdsR_len,c1,hk2]
    rw[List.take_length]
    exact PC.fin (.refl _) (by repeat (first|exact AH.le_refl _|refine le_set ?_ (AH.set_none.2 ⟨n2,hb2⟩)|refine le_del ?_ (AH.set_none.2 ⟨n2,hb2⟩)|refine le_set ?_ (AH.set_none.2 ⟨n3,hb3⟩)|refine le_del ?_ (AH.set_none.2 ⟨n3,hb3⟩))) (hK _)
end
end Go.Proofs.Ytkopkbhpompmnaa.p
namespace Go.Proofs.Ytkopkbhpompmnaa.p
open Go.Proofs Go Go.Cn code
set_option linter.unusedSimpArgs false
set_option linter.unusedVariables false
inductive Ex where
 |mk (k p:Int)(n:Nm)(v:Int)(l:List Ex)(a:List (Nm×List Nm×Ex×Int))(b:List (Nm×Bool×Sch×Ex×Int))
abbrev Al:=Nm×List Nm×Ex×Int
abbrev Bi:=Nm×Bool×Sch×Ex×Int
mutual
def exR:Ex->List AV
 |.mk k p n v l a b=>[.int .i64 k,.int .i64 p,.str n,.int .i64 v,.lst 65 (exsR l) .no,.lst 135 (alsR a) .no,.lst 67 (bisR b) .no]
def exsR:List Ex->List (List AV)
 |[]=>[]
 |e::l=>exR e::exsR l
def alsR:List (Nm×List Nm×Ex×Int)->List (List AV)
 |[]=>[]
 |(c,vs,e,p)::l=>(.str c::.lst 9 (strC vs) .no::(exR e++[.int .i64 p]))::alsR l
def bisR:List (Nm×Bool×Sch×Ex×Int)->List (List AV)
 |[]=>[]
 |(n,g,s,e,p)::l=>(.str n::.bool g::(schR s++(exR e++[.int .i64 p])))::bisR l
end
def alR (a:Al):List AV:=.str a.1::.lst 9 (strC a.2.1) .no::(exR a.2.2.1++[.int .i64 a.2.2.2])
def biR (b:Bi):List AV:=.str b.1::.bool b.2.1::(schR b.2.2.1++(exR b.2.2.2.1++[.int .i64 b.2.2.2.2]))
theorem exsR_eq (l:List Ex):exsR l=l.map exR:=by
 induction l with
 |nil=>rfl
 |cons a l ih=>simp only[exsR,List.map_cons,ih]
theorem alsR_eq (l:List Al):alsR l=l.map alR:=by
 induction l with
 |nil=>rfl
 |cons a l ih=>obtain⟨c,vs,e,p⟩:=a;simp only[alsR,List.map_cons,ih,alR]
theorem bisR_eq (l:List Bi):bisR l=l.map biR:=by
 induction l with
 |nil=>rfl
 |cons a l ih=>obtain⟨c,g,s,e,p⟩:=a;simp only[bisR,List.map_cons,ih,biR]
theorem exsR_len (l:List Ex):(exsR l).length=l.length:=by rw[exsR_eq,List.length_map]
theorem alsR_len (l:List Al):(alsR l).length=l.length:=by rw[alsR_eq,List.length_map]
theorem bisR_len (l:List Bi):(bisR l).length=l.length:=by rw[bisR_eq,List.length_map]
structure Sg where
 name:Nm
 pos:Int
 s:Sch
def sgR (g:Sg):List AV:=.str g.name::.int .i64 g.pos::schR g.s
def sgsR (l:List Sg):List (List AV):=l.map sgR
theorem sgsR_len (l:List Sg):(sgsR l).length=l.length:=by rw[sgsR,List.length_map]
def zeroX:Ex:=.mk 0 0 [] 0 [] [] []
def zeroSch:Sch:=⟨[],[],.mk 0 [] []⟩
def lambdasS (l:List Nm)(b:Ex)(pos:Int):Ex:=l.foldr (fun x b=>.mk 6 pos x 0 [b] [] []) b
def applyS (f a:Ex)(pos:Int):Ex:=.mk 5 pos [] 0 [f,a] [] []
def Ex.pos:Ex->Int
 |.mk _ p _ _ _ _ _=>p
def findB (nm:Nm):Nat->List Bi->Option Nat
 |_,[]=>none
 |k,b::l=>if b.1=nm/\b.2.1=false then some k else findB nm (k+1) l
def signB (s:Sch):Nat->List Bi->List Bi
 |_,[]=>[]
 |0,b::l=>(b.1,true,s,b.2.2.2)::l
 |k+1,b::l=>b::signB s k l
def joinL:List Sg->List Sg->List Bi->St->List Bi×St
 |_,[],l,s=>(l,s)
 |pre,g::gs,l,s=>if fineS s then match findB g.name 0 l with
   |some k=>if pre.any fun x=>decide (x.name=g.name) then (l,amissS 102 g.pos s) else joinL (pre++[g]) gs (signB g.s k l) s
   |none=>(l,amissS 102 g.pos s)
  else (l,s)
section
variable (ts:List Tk)(e:Int)
def lowsS:Nat->List Nm->St->Option (List Nm×St)
 |0,_,_=>none
 |n+1,acc,s=>if kindS ts 1 s then lowsS n (acc++[(wordS ts e 1 s).1]) (wordS ts e 1 s).2 else some (acc,s)
def undersS:Nat->List Nm->St->Option (List Nm×St)
 |0,_,_=>none
 |n+1,acc,s=>if kindS ts 1 s || isS ts [95] s then undersS n (acc++[textS ts s]) (nextS s) else some (acc,s)
def semisS:Nat->St->Option St
 |0,_=>none
 |n+1,s=>if isS ts [59] s then semisS n (nextS s) else some s
def signS (l:List Nm)(s:St):Bool:=kindS ts 5 s&&decide (textS ts s∈l)
def beginsS (s:St):Bool:=kindS ts 1 s || kindS ts 2 s || kindS ts 3 s || kindS ts 4 s || isS ts [40] s
def namedS (s:St):Nm×Int×St:=
 if isS ts [40] s then ((wordS ts e 5 (nextS s)).1,posS ts e (nextS s),takeS ts e [41] (wordS ts e 5 (nextS s)).2)
 else ((wordS ts e 1 s).1,posS ts e s,(wordS ts e 1 s).2)
def endsS (inner:Bool)(s:St):St:=if !fineS s || isS ts [59] s || (inner&&isS ts [125] s) || (!inner&&decide (ts.length<=s.i)) then s else wrongS ts e s
def patS (n:Nat)(s:St):Option (Nm×List Nm×St):=
 if kindS ts 2 s then match undersS ts n [] (wordS ts e 2 s).2 with
  |some (l,s')=>some ((wordS ts e 2 s).1,l,s')
  |none=>none
 else if isS ts [95] s then some ([],[],nextS s)
 else some ([],[(wordS ts e 1 s).1],(wordS ts e 1 s).2)
def altEnd (s:St):St:=if !isS ts [59] s&& !isS ts [125] s then wrongS ts e s else s
mutual
def exprS:Nat->St->Option (Ex×St)
 |0,_=>none
 |n+1,s=>
  if isS ts [92] s then
   match lowsS ts e n [(wordS ts e 1 (openS ts e s)).1] (wordS ts e 1 (openS ts e s)).2 with
   |some (l,s3)=>match exprS n (takeS ts e [45,62] s3) with
    |some (b,s5)=>some (lambdasS l b (posS ts e s),shutS s5)
    |none=>none
   |none=>none
  else if isS ts [108,101,116] s then
   match defsL n [] [] (takeS ts e [123] (openS ts e s)) with
   |some (g,bs,s2)=>match exprS n (takeS ts e [105,110] (takeS ts e [125] (joinL [] g bs s2).2)) with
    |some (b,s4)=>some (.mk 7 (posS ts e s) [] 0 [b] [] (joinL [] g bs s2).1,shutS s4)
    |none=>none
   |none=>none
  else if isS ts [99,97,115,101] s then
   match exprS n (openS ts e s) with
   |some (x,s1)=>match altsS n [] (takeS ts e [123] (takeS ts e [111,102] s1)) with
    |some (l,s2)=>some (.mk 8 (posS ts e s) [] 0 [x] l [],shutS (takeS ts e [125] s2))
    |none=>none
   |none=>none
  else if isS ts [105,102] s then
   match exprS n (openS ts e s) with
   |some (x,s1)=>match exprS n (takeS ts e [116,104,101,110] s1) with
    |some (a,s2)=>match exprS n (takeS ts e [101,108,115,101] s2) with
     |some (b,s3)=>some (.mk 8 (posS ts e s) [] 0 [x] [([84,114,117,101],[],a,posS ts e s),([70,97,108,115,101],[],b,posS ts e s)] [],shutS s3)
     |none=>none
    |none=>none
   |none=>none
  else match sumS n s with
   |some (a,s1)=>if signS ts [[61,61],[47,61],[60],[60,61],[62],[62,61]] s1 then twoS n a 0 s1 else some (a,s1)
   |none=>none
def twoS:Nat->Ex->Nat->St->Option (Ex×St)
 |0,_,_,_=>none
 |n+1,a,what,s=>
  match (if what=0 then sumS n (wordS ts e 5 s).2 else if what=1 then productS n (wordS ts e 5 s).2 else appS n (wordS ts e 5 s).2) with
  |some (b,s2)=>some (applyS (applyS (.mk 1 (posS ts e s) (wordS ts e 5 s).1 0 [] [] []) a (posS ts e s)) b (posS ts e s),s2)
  |none=>none
def sumS:Nat->St->Option (Ex×St)
 |0,_=>none
 |n+1,s=>match productS n s with
  |some (a,s1)=>sumsS n a s1
  |none=>none
def sumsS:Nat->Ex->St->Option (Ex×St)
 |0,_,_=>none
 |n+1,a,s=>if signS ts [[43],[45]] s then match twoS n a 1 s with
   |some (b,s1)=>sumsS n b s1
   |none=>none
  else some (a,s)
def productS:Nat->St->Option (Ex×St)
 |0,_=>none
 |n+1,s=>match appS n s with
  |some (a,s1)=>productsS n a s1
  |none=>none
def productsS:Nat->Ex->St->Option (Ex×St)
 |0,_,_=>none
 |n+1,a,s=>if signS ts [[42]] s then match twoS n a 2 s with
   |some (b,s1)=>productsS n b s1
   |none=>none
  else some (a,s)
def appS:Nat->St->Option (Ex×St)
 |0,_=>none
 |n+1,s=>match oneS n s with
  |some (a,s1)=>appsS n a s1
  |none=>none
def appsS:Nat->Ex->St->Option (Ex×St)
 |0,_,_=>none
 |n+1,a,s=>if beginsS ts s then match oneS n s with
   |some (b,s1)=>appsS n (applyS a b a.pos) s1
   |none=>none
  else some (a,s)
def oneS:Nat->St->Option (Ex×St)
 |0,_=>none
 |n+1,s=>if beginsS ts s then match ts[s.i]? with
   |some t=>if t.kind=1 then some (.mk 1 t.pos t.text 0 [] [] [],nextS s)
    else if t.kind=2 then some (.mk 2 t.pos t.text 0 [] [] [],nextS s)
    else if t.kind=3 then some (.mk 3 t.pos [] t.n [] [] [],nextS s)
    else if t.kind=4 then some (.mk 4 t.pos [] t.n [] [] [],nextS s)
    else match (match ts[s.i+1]? with|some u=>if u.kind=5 then some u else none|none=>none) with
     |some u=>some (.mk 1 u.pos u.text 0 [] [] [],takeS ts e [41] {s with i:=s.i+2})
     |none=>match exprS n (openS ts e s) with
      |some (x,s1)=>some (x,shutS (takeS ts e [41] s1))
      |none=>none
   |none=>none
  else some (zeroX,wrongS ts e s)
def altsS:Nat->List (Nm×List Nm×Ex×Int)->St->Option (List (Nm×List Nm×Ex×Int)×St)
 |0,_,_=>none
 |n+1,acc,s=>if fineS s then match semisS ts n s with
   |some s1=>if isS ts [125] s1 then some (acc,s1) else match patS ts e n s1 with
    |some (c,vs,s2)=>match exprS n (takeS ts e [45,62] s2) with
     |some (b,s3)=>altsS n (acc++[(c,vs,b,posS ts e s1)]) (altEnd ts e s3)
     |none=>none
    |none=>none
   |none=>none
  else some (acc,s)
def defS:Nat->List Sg->List (Nm×Bool×Sch×Ex×Int)->St->Option (List Sg×List (Nm×Bool×Sch×Ex×Int)×St)
 |0,_,_,_=>none
 |n+1,g,bs,s=>if isS ts [58,58] (namedS ts e s).2.2 then match schemeS ts e n (nextS (namedS ts e s).2.2) with
   |some (sc,s2)=>some (g++[⟨(namedS ts e s).1,(namedS ts e s).2.1,sc⟩],bs,s2)
   |none=>none
  else match lowsS ts e n [] (namedS ts e s).2.2 with
   |some (l,s2)=>match exprS n (takeS ts e [61] s2) with
    |some (b,s3)=>some (g,bs++[((namedS ts e s).1,false,zeroSch,lambdasS l b (namedS ts e s).2.1,(namedS ts e s).2.1)],s3)
    |none=>none
   |none=>none
def defsL:Nat->List Sg->List (Nm×Bool×Sch×Ex×Int)->St->Option (List Sg×List (Nm×Bool×Sch×Ex×Int)×St)
 |0,_,_,_=>none
 |n+1,g,bs,s=>if fineS s then match semisS ts n s with
   |some s1=>if isS ts [125] s1 then some (g,bs,s1) else match defS n g bs s1 with
    |some (g2,bs2,s2)=>defsL n g2 bs2 (endsS ts e true s2)
    |none=>none
   |none=>none
  else some (g,bs,s)
end
end
end Go.Proofs.Ytkopkbhpompmnaa.p
namespace Go.Proofs.Ytkopkbhpompmnaa.p
open Go.Proofs Go Go.Cn code
set_option linter.unusedSimpArgs false
set_option linter.unusedVariables false
def lamR (pos:Int)(c:List AV):List Nm->List AV
 |[]=>c
 |x::l=>[.int .i64 6,.int .i64 pos,.str x,.int .i64 0,.lst 65 [lamR pos c l] .no,.lst 0 [] .nil,.lst 0 [] .nil]
theorem lam_wk (b:Ex)(pos:Int):∀l,WkL (lamR pos (exR b) l) (exR (lambdasS l b pos))
 |[]=>.refl _
 |x::l=>⟨.refl _,.refl _,.refl _,.refl _,.lstL ⟨lam_wk b pos l,trivial⟩,.nil _ _ _,.nil _ _ _,trivial⟩
theorem lam_7 (pos:Int)(c1 c2 c3 c4 c5 c6 c7:AV)(hc:(oneA c1&&(oneA c2&&(oneA c3&&(oneA c4&&(oneA c5&&(oneA c6&&oneA c7))))))=true)(l:List Nm):∃d1 d2 d3 d4 d5 d6 d7,lamR pos [c1,c2,c3,c4,c5,c6,c7] l=[d1,d2,d3,d4,d5,d6,d7]/\(oneA d1&&(oneA d2&&(oneA d3&&(oneA d4&&(oneA d5&&(oneA d6&&oneA d7))))))=true:=by
 cases l with
 |nil=>exact⟨_,_,_,_,_,_,_,rfl,hc⟩
 |cons x l=>exact⟨_,_,_,_,_,_,_,rfl,rfl⟩
theorem lambdas_ok (E:TypeId)(l:List Nm)(tag:Tag)(b:Ex)(pos:Int)(hl:l.length<=most):Pure T 60 [.lst E (strC l) tag,.agg (exR b),.int .i64 pos] (.agg (exR (lambdasS l b pos))):=by
 intro K h
 have hw:=lam_wk b pos l
 refine ACall.ret t60 fun hK=>?_
 obtain⟨xk,xp,xn,xv,xl,xa,xb⟩:=b
 unfold most at hl
 have w0:IntKind.i64.wrap ((l.length:Int)-1)=(l.length:Int)-1:=wrap64 ⟨by omega,by omega⟩
 simp only[u_C c60.eq_1,rn,pevA,seval,exR,strC_len]
 intro b2 hb2 hk2
 simp only[rn,pevA,seval]
 intro b3 hb3 hk3
 obtain⟨n32,hb3⟩:=AH.set_none.1 hb3
 simp only[rn,pevA,seval,strC_len,w0]
 rw[exR] at hw
 refine aloop (α:=Nat) (fun k fr h1=>fr 0=.lst E (strC l) tag/\fr 2=.int .i64 pos/\fr 4=.ptr b2 0/\fr 6=.ptr b3 0/\fr 7=.int .i64 ((k:Int)-1)/\k<=l.length/\
  h1=(h.set b2 (.cells (lamR pos [AV.int .i64 xk,.int .i64 xp,.str xn,.int .i64 xv,.lst 65 (exsR xl) .no,.lst 135 (alsR xa) .no,.lst 67 (bisR xb) .no] (l.drop k)) 65)).set b3 (.cells [.int .i64 0,.int .i64 0,.str [],.int .i64 0,.lst 0 [] .nil,.lst 0 [] .nil,.lst 0 [] .nil] 65)) (fun k=>k) l.length
  ⟨rfl,rfl,rfl,rfl,rfl,Nat.le_refl _,by rw[List.drop_length];rfl⟩ ?_
 rintro k fr h1 ⟨f0,f2,f4,f6,f7,hk,rfl⟩
 have hle:∀(X Y:AO),h.le (((h.set b2 X).set b3 Y).del b3):=fun X Y=>le_del (le_set (le_set (AH.le_refl _) hb2) hb3) hb3
 obtain⟨d1,d2,d3,d4,d5,d6,d7,hd,ho⟩:=lam_7 pos (AV.int .i64 xk) (.int .i64 xp) (.str xn) (.int .i64 xv) (.lst 65 (exsR xl) .no) (.lst 135 (alsR xa) .no) (.lst 67 (bisR xb) .no) rfl (l.drop k)
 cases k with
 |zero=>
  have c1:decide ((0:Int)<=((0:Nat):Int)-1)=false:=by decide
  rw[List.drop_zero] at hd ⊢
  rw[hd]
  rw[hd] at hw
  simp only[u_C l60_1.eq_1,rn,pevA,seval,f0,f2,f4,f6,f7,c1,AH.set_ne,n32,n32.symm,hk3]
  refine⟨ho,.aggL hw,le_del (le_set (AH.le_refl _) hb2) hb3⟩
 |succ j=>
  have hlt:j<l.length:=hk
  have e7:((j+1:Nat):Int)-1=(j:Int):=by omega
  rw[e7] at f7
  have c1:decide ((0:Int)<=(j:Int))=true:=decide_eq_true (by omega)
  have w:IntKind.i64.wrap ((j:Int)-1)=(j:Int)-1:=wrap64 ⟨by omega,by omega⟩
  have hget:(strC l)[j]?=some [.str l[j]]:=by rw[strC_get,List.getElem?_eq_getElem hlt];rfl
  rw[hd]
  simp only[u_C l60_1.eq_1,e_dregion d60_0,u_L s60_0.eq_1,u_T g60_0.eq_1,rn,pevA,seval,f0,f2,f4,f6,f7,c1,hget,AH.set_ne,set_in1,n32,n32.symm,hk2,w]
  refine⟨j,Nat.lt_succ_self j,f0,f2,f4,f6,rfl,by omega,?_⟩
  rw[List.drop_eq_getElem_cons hlt,lamR,hd]
theorem apply_ok (f a:Ex)(pos:Int):Pure T 94 [.agg (exR f),.agg (exR a),.int .i64 pos] (.agg (exR (applyS f a pos))):=by
 intro K h
 refine ACall.ret t94 fun hK=>?_
 obtain⟨fk,fp,fn,fv,fl,fa,fb⟩:=f
 obtain⟨ak,ap,an,av,al,aa,ab⟩:=a
 simp only[u_C c94.eq_1,rn,pevA,seval,exR]
 intro b2 hb2 hk2
 simp only[rn,pevA,seval,hk2]
 exact⟨.aggL ⟨.refl _,.refl _,.refl _,.refl _,.refl _,.nil _ _ _,.nil _ _ _,trivial⟩,le_del (AH.le_refl _) hb2⟩
section
variable {ts:List Tk}{e:Int}(hts:ts.length<=1000000)
theorem sign_ok (E:TypeId)(l:List Nm)(tag:Tag)(s:St):PC ts e 84 [.lst E (strC l) tag] (.bool (signS ts l s)) s s:=by
 refine PC.intro t84 fun K h b hk hK=>?_
 unfold signS
 simp only[u_C c84.eq_1,e_dregion d84_0,u_L s84_0.eq_1,u_T g84_0.eq_1,rn,pevA,seval]
 refine (kind_ok 5 s).use (AH.set_same _ _ _) hk ?_
 cases c1:kindS ts 5 s with
 |false=>
  simp only[e_dregion d84_0,u_L s84_0.eq_1,u_T g84_0.eq_1,rn,pevA,seval,Bool.false_and]
  exact PC.fin (.refl _) (AH.le_refl _) (hK _)
 |true=>
  have hlt:=kindS_lt c1
  unfold textS
  rw[get2 hlt]
  simp only[e_dregion d84_0,u_L s84_0.eq_1,u_T g84_0.eq_1,rn,pevA,seval,parO,tkC_get hlt]
  refine (has_ok E l tag _).use ?_
  simp only[e_dregion d84_0,u_L s84_0.eq_1,u_T g84_0.eq_1,rn,pevA,seval]
  exact PC.fin (.refl _) (AH.le_refl _) (hK _)
theorem begins_ok (s:St):PC ts e 97 [] (.bool (beginsS ts s)) s s:=by
 refine PC.intro t97 fun K h b hk hK=>?_
 unfold beginsS
 simp only[u_C c97.eq_1,rn,pevA,seval]
 refine (kind_ok 1 s).use (AH.set_same _ _ _) hk ?_
 cases h1:kindS ts 1 s with
 |true=>
  simp only[rn,pevA,seval,Bool.true_or]
  exact PC.fin (.refl _) (AH.le_refl _) (hK _)
 |false=>
  simp only[rn,pevA,seval]
  refine (kind_ok 2 s).use (AH.set_same _ _ _) hk ?_
  cases h2:kindS ts 2 s with
  |true=>
   simp only[rn,pevA,seval,Bool.true_or,Bool.false_or]
   exact PC.fin (.refl _) (AH.le_refl _) (hK _)
  |false=>
   simp only[rn,pevA,seval]
   refine (kind_ok 3 s).use (AH.set_same _ _ _) hk ?_
   cases h3:kindS ts 3 s with
   |true=>
    simp only[rn,pevA,seval,Bool.true_or,Bool.false_or]
    exact PC.fin (.refl _) (AH.le_refl _) (hK _)
   |false=>
    simp only[rn,pevA,seval]
    refine (kind_ok 4 s).use (AH.set_same _ _ _) hk ?_
    cases h4:kindS ts 4 s with
    |true=>
     simp only[rn,pevA,seval,Bool.true_or,Bool.false_or]
     exact PC.fin (.refl _) (AH.le_refl _) (hK _)
    |false=>
     simp only[rn,pevA,seval,Bool.false_or]
     refine (is_ok [40] s).use (AH.set_same _ _ _) hk ?_
     simp only[rn,pevA,seval]
     exact PC.fin (.refl _) (AH.le_refl _) (hK _)
include hts in
theorem named_ok (s:St):PC ts e 57 [] (.tuple [.str (namedS ts e s).1,.int .i64 (namedS ts e s).2.1]) s (namedS ts e s).2.2:=by
 refine PC.intro t57 fun K h b hk hK=>?_
 unfold namedS
 simp only[u_C c57.eq_1,rn,pevA,seval]
 refine (is_ok [40] s).use (AH.set_same _ _ _) hk ?_
 cases c1:isS ts [40] s with
 |true=>
  have hlt:=isS_lt c1
  simp only[rn,pevA,seval,parO,w1 (Nat.lt_of_lt_of_le hlt hts),hk]
  refine (pos_ok (nextS s)).use (AH.set_same _ _ _) hk ?_
  simp only[rn,pevA,seval]
  refine (word_ok hts 5 (nextS s)).use (AH.set_same _ _ _) hk ?_
  simp only[rn,pevA,seval]
  refine (take_ok hts [41] _).use (AH.set_same _ _ _) hk ?_
  simp only[rn,pevA,seval]
  exact PC.fin (.refl _) (AH.le_refl _) (hK _)
 |false=>
  simp only[rn,pevA,seval]
  refine (pos_ok s).use (AH.set_same _ _ _) hk ?_
  simp only[rn,pevA,seval]
  refine (word_ok hts 1 s).use (AH.set_same _ _ _) hk ?_
  simp only[rn,pevA,seval]
  exact PC.fin (.refl _) (AH.le_refl _) (hK _)
theorem named_i {s:St}(hs:s.i<=ts.length):(namedS ts e s).2.2.i<=ts.length:=by
 unfold namedS
 split
 ·rename_i c
  exact takeS_i (wordS_i (show (nextS s).i<=_ from isS_lt c) _) _
 ·exact wordS_i hs 1
theorem ends_ok (inner:Bool)(s:St):PC ts e 34 [.bool inner] (.tuple []) s (endsS ts e inner s):=by
 refine PC.intro t34 fun K h b hk hK=>?_
 unfold endsS
 simp only[u_C c34.eq_1,e_dregion d34_0,u_L s34_0.eq_1,u_T g34_0.eq_1,rn,pevA,seval]
 refine (fine_ok s).use (AH.set_same _ _ _) hk ?_
 cases c1:fineS s with
 |false=>
  simp only[e_dregion d34_0,u_L s34_0.eq_1,u_T g34_0.eq_1,rn,pevA,seval,Bool.true_or]
  exact PC.fin (.refl _) (AH.le_refl _) (hK _)
 |true=>
  simp only[e_dregion d34_0,u_L s34_0.eq_1,u_T g34_0.eq_1,rn,pevA,seval]
  refine (is_ok [59] s).use (AH.set_same _ _ _) hk ?_
  cases c2:isS ts [59] s with
  |true=>
   simp only[e_dregion d34_0,u_L s34_0.eq_1,u_T g34_0.eq_1,rn,pevA,seval,Bool.true_or,Bool.or_true]
   exact PC.fin (.refl _) (AH.le_refl _) (hK _)
  |false=>
   cases inner with
   |true=>
    simp only[e_dregion d34_0,u_L s34_0.eq_1,u_T g34_0.eq_1,rn,pevA,seval]
    refine (is_ok [125] s).use (AH.set_same _ _ _) hk ?_
    cases c3:isS ts [125] s with
    |true=>
     simp only[e_dregion d34_0,u_L s34_0.eq_1,u_T g34_0.eq_1,rn,pevA,seval,Bool.true_or,Bool.or_true]
     exact PC.fin (.refl _) (AH.le_refl _) (hK _)
    |false=>
     simp only[e_dregion d34_0,u_L s34_0.eq_1,u_T g34_0.eq_1,rn,pevA,seval,Bool.or_false,Bool.false_and,Bool.false_eq_true]
     refine (wrong_ok s).use (AH.set_same _ _ _) hk ?_
     simp only[rn,pevA,seval]
     exact PC.fin (.refl _) (AH.le_refl _) (hK _)
   |false=>
    by_cases hlt:ts.length<=s.i
    ·have c3:decide ((ts.length:Int)<=(s.i:Int))=true:=decide_eq_true (by omega)
     simp only[e_dregion d34_0,u_L s34_0.eq_1,u_T g34_0.eq_1,rn,pevA,seval,parO,tkC_len,c3,hlt,Bool.true_or,Bool.or_true]
     exact PC.fin (.refl _) (AH.le_refl _) (hK _)
    ·have c3:decide ((ts.length:Int)<=(s.i:Int))=false:=decide_eq_false (by omega)
     simp only[e_dregion d34_0,u_L s34_0.eq_1,u_T g34_0.eq_1,rn,pevA,seval,parO,tkC_len,c3,hlt,Bool.or_false,Bool.false_and,Bool.false_eq_true]
     refine (wrong_ok s).use (AH.set_same _ _ _) hk ?_
     simp only[rn,pevA,seval]
     exact PC.fin (.refl _) (AH.le_refl _) (hK _)
theorem ends_i (inner:Bool){s:St}(hs:s.i<=ts.length):(endsS ts e inner s).i<=ts.length:=by
 unfold endsS
 split
 ·exact hs
 ·rw[wrongS_i];exact hs
end
end Go.Proofs.Ytkopkbhpompmnaa.p
namespace Go.Proofs.Ytkopkbhpompmnaa.p
open Go.Proofs Go Go.Cn code
set_option linter.unusedSimpArgs false
set_option linter.unusedVariables false
section
variable (ts:List Tk)(e:Int)
structure Mv (s s':St):Prop where
 i:s.i<=s'.i
 f:fineS s'=true->fineS s=true
 le:s.i<=ts.length->s'.i<=ts.length
structure Mvs (s s':St):Prop where
 m:Mv ts s s'
 lt:fineS s'=true->s.i<s'.i
end
section
variable {ts:List Tk}{e:Int}{s s1 s':St}
theorem Mv.refl (s:St):Mv ts s s:=⟨Nat.le_refl _,id,id⟩
theorem Mv.trans (h:Mv ts s s1)(g:Mv ts s1 s'):Mv ts s s':=⟨Nat.le_trans h.i g.i,fun x=>h.f (g.f x),fun x=>g.le (h.le x)⟩
theorem Mvs.fst (h:Mvs ts s s1)(g:Mv ts s1 s'):Mvs ts s s':=⟨h.m.trans g,fun x=>Nat.lt_of_lt_of_le (h.lt (g.f x)) g.i⟩
theorem Mv.wrong (s:St):Mv ts s (wrongS ts e s):=⟨by rw[wrongS_i];exact Nat.le_refl _,fun h=>by (rw[wrong_bad] at h;cases h),by rw[wrongS_i];exact id⟩
theorem Mvs.wrong (s:St):Mvs ts s (wrongS ts e s):=⟨.wrong s,fun h=>by rw[wrong_bad] at h;cases h⟩
theorem Mv.amiss (c p:Int)(hc:c≠0)(s:St):Mv ts s (amissS c p s):=⟨by rw[amissS_i];exact Nat.le_refl _,fun h=>by (rw[amiss_bad _ _ hc] at h;cases h),by rw[amissS_i];exact id⟩
theorem Mvs.next (hf:fineS s=true)(h:s.i<ts.length):Mvs ts s (nextS s):=⟨⟨Nat.le_succ _,fun _=>hf,fun _=>h⟩,fun _=>Nat.lt_succ_self _⟩
theorem Mvs.is {str:Nm}(h:isS ts str s=true):Mvs ts s (nextS s):=.next (isS_fine h) (isS_lt h)
theorem Mvs.kd {k:Int}(h:kindS ts k s=true):Mvs ts s (nextS s):=.next (kindS_fine h) (kindS_lt h)
theorem Mvs.take (str:Nm)(s:St):Mvs ts s (takeS ts e str s):=by
 rcases take_cases (ts:=ts) (e:=e) str s with⟨h1,h2⟩|⟨_,h2⟩
 ·rw[h2];exact .is h1
 ·rw[h2];exact .wrong s
theorem Mvs.word (k:Int)(s:St):Mvs ts s (wordS ts e k s).2:=by
 rcases word_cases (ts:=ts) (e:=e) k s with⟨h1,h2⟩|⟨_,h2⟩
 ·rw[h2];exact .kd h1
 ·rw[h2];exact .wrong s
theorem Mvs.opn (hf:fineS s=true)(h:s.i<ts.length):Mvs ts s (openS ts e s):=by
 rcases open_cases (ts:=ts) (e:=e) s with⟨h1,h2⟩|⟨h1,h2⟩
 ·exact⟨⟨by omega,fun _=>hf,fun _=>by omega⟩,fun _=>by omega⟩
 ·exact⟨⟨by omega,fun x=>by (rw[h2] at x;cases x),fun _=>by omega⟩,fun x=>by rw[h2] at x;cases x⟩
theorem Mv.shut (s:St):Mv ts s (shutS s):=⟨Nat.le_refl _,id,id⟩
theorem Mv.ends (b:Bool)(s:St):Mv ts s (endsS ts e b s):=by
 unfold endsS;split
 ·exact .refl s
 ·exact .wrong s
theorem Mv.altEnd (s:St):Mv ts s (altEnd ts e s):=by
 unfold p.altEnd;split
 ·exact .wrong s
 ·exact .refl s
theorem Mvs.named (s:St):Mvs ts s (namedS ts e s).2.2:=by
 unfold namedS;split
 ·rename_i c
  exact (Mvs.is c).fst ((Mvs.word 5 _).m.trans (Mvs.take _ _).m)
 ·exact .word 1 s
theorem Mv.join:∀(gs pre:List Sg)(l:List Bi)(s:St),Mv ts s (joinL pre gs l s).2
 |[],pre,l,s=>by rw[joinL];exact .refl s
 |g::gs,pre,l,s=>by
  rw[joinL]
  split
  ·split
   ·split
    ·exact .amiss _ _ (by decide) _
    ·exact Mv.join gs _ _ _
   ·exact .amiss _ _ (by decide) _
  ·exact .refl s
theorem lows_mv:∀(n:Nat)(acc:List Nm)(s:St)(l:List Nm)(s':St),lowsS ts e n acc s=some (l,s')->Mv ts s s'
 |0,acc,s,l,s',h=>by rw[lowsS] at h;cases h
 |n+1,acc,s,l,s',h=>by
  rw[lowsS] at h
  split at h
  ·exact (Mvs.word 1 s).m.trans (lows_mv n _ _ _ _ h)
  ·cases h;exact .refl _
theorem unders_mv:∀(n:Nat)(acc:List Nm)(s:St)(l:List Nm)(s':St),undersS ts n acc s=some (l,s')->Mv ts s s'
 |0,acc,s,l,s',h=>by rw[undersS] at h;cases h
 |n+1,acc,s,l,s',h=>by
  rw[undersS] at h
  split at h
  ·rename_i c
   refine Mv.trans ?_ (unders_mv n _ _ _ _ h)
   rcases Bool.or_eq_true _ _▸c with c|c
   ·exact (Mvs.kd c).m
   ·exact (Mvs.is c).m
  ·cases h;exact .refl _
theorem semis_mv:∀(n:Nat)(s s':St),semisS ts n s=some s'->Mv ts s s'/\isS ts [59] s'=false
 |0,s,s',h=>by rw[semisS] at h;cases h
 |n+1,s,s',h=>by
  rw[semisS] at h
  split at h
  ·rename_i c
   have:=semis_mv n _ _ h
   exact⟨(Mvs.is c).m.trans this.1,this.2⟩
  ·rename_i c
   cases h;exact⟨.refl _,by simpa using c⟩
theorem pat_mv {n:Nat}{s s':St}{c:Nm}{l:List Nm}(h:patS ts e n s=some (c,l,s')):Mvs ts s s':=by
 unfold patS at h
 split at h
 ·split at h
  ·rename_i a b h1
   cases h
   exact (Mvs.word 2 s).fst (unders_mv _ _ _ _ _ h1)
  ·cases h
 ·split at h
  ·rename_i c
   cases h;exact .is c
  ·cases h;exact .word 1 s
theorem preds_mv {pl:Bool}(hts:ts.length<=1000000){n:Nat}(hn:n+1<=most){s s':St}{l:List Pd}(h:predsS ts e pl n s=some (l,s'))(hs:s.i<=ts.length):Mv ts s s':=
 ⟨(preds_prog h).i,fun x=>((preds_prog h).f x).1,fun _=>(preds_ok hts hn _ _ _ _ hs h).2⟩
theorem begins_fine {s:St}(h:beginsS ts s=true):fineS s=true/\s.i<ts.length:=by
 unfold beginsS at h
 simp only[Bool.or_eq_true] at h
 rcases h with (((h|h)|h)|h)|h
 ·exact⟨kindS_fine h,kindS_lt h⟩
 ·exact⟨kindS_fine h,kindS_lt h⟩
 ·exact⟨kindS_fine h,kindS_lt h⟩
 ·exact⟨kindS_fine h,kindS_lt h⟩
 ·exact⟨isS_fine h,isS_lt h⟩
end
end Go.Proofs.Ytkopkbhpompmnaa.p
namespace Go.Proofs.Ytkopkbhpompmnaa.p
open Go.Proofs Go Go.Cn code
set_option linter.unusedSimpArgs false
set_option linter.unusedVariables false
section
variable {ts:List Tk}{e:Int}(hts:ts.length<=1000000)
include hts in
theorem scheme_mv {n:Nat}(hn:n+1<=most){s s':St}{sc:Sch}(h:schemeS ts e n s=some (sc,s')):Mv ts s s':=by
 have h0:=h
 unfold schemeS at h
 split at h
 ·rename_i ctx s1 h1
  split at h
  ·rename_i t s2 h2
   cases h
   have p1:=preds_prog h1
   have p2:=(types_prog n).2.2.2 _ _ _ h2
   exact⟨Nat.le_trans p1.i p2.i,fun x=>(p1.f (p2.f x).1).1,fun hs=>(scheme_ok hts hn _ _ _ hs h0).2⟩
  ·cases h
 ·cases h
structure MvAll (ts:List Tk)(e:Int)(n:Nat):Prop where
 expr:∀s x s',exprS ts e n s=some (x,s')->Mvs ts s s'
 two:∀a w s x s',twoS ts e n a w s=some (x,s')->Mvs ts s s'
 sum:∀s x s',sumS ts e n s=some (x,s')->Mvs ts s s'
 sums:∀a s x s',sumsS ts e n a s=some (x,s')->Mv ts s s'
 product:∀s x s',productS ts e n s=some (x,s')->Mvs ts s s'
 products:∀a s x s',productsS ts e n a s=some (x,s')->Mv ts s s'
 app:∀s x s',appS ts e n s=some (x,s')->Mvs ts s s'
 apps:∀a s x s',appsS ts e n a s=some (x,s')->Mv ts s s'
 one:∀s x s',oneS ts e n s=some (x,s')->Mvs ts s s'
 alts:∀acc s l s',altsS ts e n acc s=some (l,s')->Mv ts s s'
 df:∀g bs s g' bs' s',defS ts e n g bs s=some (g',bs',s')->Mvs ts s s'
 defs:∀g bs s g' bs' s',defsL ts e n g bs s=some (g',bs',s')->Mv ts s s'
include hts in
theorem ex_mv:∀n:Nat,n<=most->MvAll ts e n
 |0,_=>⟨fun s x s' h=>by (rw[exprS] at h;cases h),fun a w s x s' h=>by (rw[twoS] at h;cases h),fun s x s' h=>by (rw[sumS] at h;cases h),fun a s x s' h=>by (rw[sumsS] at h;cases h),
   fun s x s' h=>by (rw[productS] at h;cases h),fun a s x s' h=>by (rw[productsS] at h;cases h),fun s x s' h=>by (rw[appS] at h;cases h),fun a s x s' h=>by (rw[appsS] at h;cases h),
   fun s x s' h=>by (rw[oneS] at h;cases h),fun acc s x s' h=>by (rw[altsS] at h;cases h),fun g bs s g' bs' s' h=>by (rw[defS] at h;cases h),fun g bs s g' bs' s' h=>by (rw[defsL] at h;cases h)⟩
 |n+1,hn=>by
  have ih:=ex_mv n (by omega)
  refine⟨?_,?_,?_,?_,?_,?_,?_,?_,?_,?_,?_,?_⟩
  ·intro s x s' h
   rw[exprS] at h
   split at h
   ·rename_i c
    split at h
    ·rename_i l s3 h1
     split at h
     ·rename_i b s5 h2
      cases h
      exact (Mvs.opn (isS_fine c) (isS_lt c)).fst ((Mvs.word 1 _).m.trans ((lows_mv _ _ _ _ _ h1).trans ((Mvs.take _ _).m.trans ((ih.expr _ _ _ h2).m.trans (.shut _)))))
     ·cases h
    ·cases h
   ·split at h
    ·rename_i c
     split at h
     ·rename_i g bs s2 h1
      split at h
      ·rename_i b s4 h2
       cases h
       exact (Mvs.opn (isS_fine c) (isS_lt c)).fst ((Mvs.take _ _).m.trans ((ih.defs _ _ _ _ _ _ h1).trans ((Mv.join g [] bs s2).trans ((Mvs.take _ _).m.trans ((Mvs.take _ _).m.trans ((ih.expr _ _ _ h2).m.trans (.shut _)))))))
      ·cases h
     ·cases h
    ·split at h
     ·rename_i c
      split at h
      ·rename_i x1 s1 h1
       split at h
       ·rename_i l s2 h2
        cases h
        exact (Mvs.opn (isS_fine c) (isS_lt c)).fst ((ih.expr _ _ _ h1).m.trans ((Mvs.take _ _).m.trans ((Mvs.take _ _).m.trans ((ih.alts _ _ _ _ h2).trans ((Mvs.take _ _).m.trans (.shut _))))))
       ·cases h
      ·cases h
     ·split at h
      ·rename_i c
       split at h
       ·rename_i x1 s1 h1
        split at h
        ·rename_i x2 s2 h2
         split at h
         ·rename_i x3 s3 h3
          cases h
          exact (Mvs.opn (isS_fine c) (isS_lt c)).fst ((ih.expr _ _ _ h1).m.trans ((Mvs.take _ _).m.trans ((ih.expr _ _ _ h2).m.trans ((Mvs.take _ _).m.trans ((ih.expr _ _ _ h3).m.trans (.shut _))))))
         ·cases h
        ·cases h
       ·cases h
      ·split at h
       ·rename_i a s1 h1
        split at h
        ·exact (ih.sum _ _ _ h1).fst (ih.two _ _ _ _ _ h).m
        ·cases h;exact ih.sum _ _ _ h1
       ·cases h
  ·intro a w s x s' h
   rw[twoS] at h
   split at h
   ·rename_i b s2 h1
    cases h
    refine (Mvs.word (e:=e) 5 s).fst ?_
    split at h1
    ·exact (ih.sum _ _ _ h1).m
    ·split at h1
     ·exact (ih.product _ _ _ h1).m
     ·exact (ih.app _ _ _ h1).m
   ·cases h
  ·intro s x s' h
   rw[sumS] at h
   split at h
   ·rename_i a s1 h1
    exact (ih.product _ _ _ h1).fst (ih.sums _ _ _ _ h)
   ·cases h
  ·intro a s x s' h
   rw[sumsS] at h
   split at h
   ·split at h
    ·rename_i b s1 h1
     exact (ih.two _ _ _ _ _ h1).m.trans (ih.sums _ _ _ _ h)
    ·cases h
   ·cases h;exact .refl _
  ·intro s x s' h
   rw[productS] at h
   split at h
   ·rename_i a s1 h1
    exact (ih.app _ _ _ h1).fst (ih.products _ _ _ _ h)
   ·cases h
  ·intro a s x s' h
   rw[productsS] at h
   split at h
   ·split at h
    ·rename_i b s1 h1
     exact (ih.two _ _ _ _ _ h1).m.trans (ih.products _ _ _ _ h)
    ·cases h
   ·cases h;exact .refl _
  ·intro s x s' h
   rw[appS] at h
   split at h
   ·rename_i a s1 h1
    exact (ih.one _ _ _ h1).fst (ih.apps _ _ _ _ h)
   ·cases h
  ·intro a s x s' h
   rw[appsS] at h
   split at h
   ·split at h
    ·rename_i b s1 h1
     exact (ih.one _ _ _ h1).m.trans (ih.apps _ _ _ _ h)
    ·cases h
   ·cases h;exact .refl _
  ·intro s x s' h
   rw[oneS] at h
   split at h
   ·rename_i c
    have hb:=begins_fine c
    have nx:=Mvs.next hb.1 hb.2
    split at h
    ·rename_i t h0
     split at h
     ·cases h;exact nx
     ·split at h
      ·cases h;exact nx
      ·split at h
       ·cases h;exact nx
       ·split at h
        ·cases h;exact nx
        ·split at h
         ·rename_i u hu
          cases h
          have hlt:s.i+1<ts.length:=by
           cases e2:ts[s.i+1]? with
           |none=>rw[e2] at hu;cases hu
           |some v=>exact (List.getElem?_eq_some_iff.1 e2).1
          have m2:Mvs ts s {s with i:=s.i+2}:=⟨⟨by show s.i<=s.i+2;omega,fun _=>hb.1,fun _=>by show s.i+2<=_;omega⟩,fun _=>by show s.i<s.i+2;omega⟩
          exact m2.fst (Mvs.take _ _).m
         ·split at h
          ·rename_i x1 s1 h1
           cases h
           exact (Mvs.opn hb.1 hb.2).fst ((ih.expr _ _ _ h1).m.trans ((Mvs.take _ _).m.trans (.shut _)))
          ·cases h
    ·cases h
   ·cases h;exact .wrong s
  ·intro acc s l s' h
   rw[altsS] at h
   split at h
   ·split at h
    ·rename_i s1 h1
     have g1:=(semis_mv _ _ _ h1).1
     split at h
     ·cases h;exact g1
     ·split at h
      ·rename_i c vs s2 h2
       split at h
       ·rename_i b s3 h3
        exact g1.trans ((pat_mv h2).m.trans ((Mvs.take _ _).m.trans ((ih.expr _ _ _ h3).m.trans ((Mv.altEnd _).trans (ih.alts _ _ _ _ h)))))
       ·cases h
      ·cases h
    ·cases h
   ·cases h;exact .refl _
  ·intro g bs s g' bs' s' h
   rw[defS] at h
   split at h
   ·rename_i c
    split at h
    ·rename_i sc s2 h1
     cases h
     exact (Mvs.named s).fst ((Mvs.is c).m.trans (scheme_mv hts (by omega) h1))
    ·cases h
   ·split at h
    ·rename_i l s2 h1
     split at h
     ·rename_i b s3 h2
      cases h
      exact (Mvs.named s).fst ((lows_mv _ _ _ _ _ h1).trans ((Mvs.take _ _).m.trans (ih.expr _ _ _ h2).m))
     ·cases h
    ·cases h
  ·intro g bs s g' bs' s' h
   rw[defsL] at h
   split at h
   ·split at h
    ·rename_i s1 h1
     have g1:=(semis_mv _ _ _ h1).1
     split at h
     ·cases h;exact g1
     ·split at h
      ·rename_i g2 bs2 s2 h2
       exact g1.trans ((ih.df _ _ _ _ _ _ h2).m.trans ((Mv.ends _ _).trans (ih.defs _ _ _ _ _ _ h)))
      ·cases h
    ·cases h
   ·cases h;exact .refl _
end
end Go.Proofs.Ytkopkbhpompmnaa.p
namespace Go.Proofs.Ytkopkbhpompmnaa.p
open Go.Proofs Go Go.Cn code
set_option linter.unusedSimpArgs false
set_option linter.unusedVariables false
def zC:List AV:=[.int .i64 0,.int .i64 0,.str [],.int .i64 0,.lst 0 [] .nil,.lst 0 [] .nil,.lst 0 [] .nil]
section
variable (ts:List Tk)(e:Int)
def ExOK (n:Nat):Prop:=∀s x s',s.i<=ts.length->exprS ts e n s=some (x,s')->PC ts e 59 [] (.agg (exR x)) s s'
def TwoOK (n:Nat):Prop:=∀a (w:Nat) s x s',s.i<=ts.length->twoS ts e n a w s=some (x,s')->PC ts e 85 [.agg (exR a),.int .i64 (w:Nat)] (.agg (exR x)) s s'
def SumOK (n:Nat):Prop:=∀s x s',s.i<=ts.length->sumS ts e n s=some (x,s')->PC ts e 83 [] (.agg (exR x)) s s'
def ProductOK (n:Nat):Prop:=∀s x s',s.i<=ts.length->productS ts e n s=some (x,s')->PC ts e 92 [] (.agg (exR x)) s s'
def AppOK (n:Nat):Prop:=∀s x s',s.i<=ts.length->appS ts e n s=some (x,s')->PC ts e 93 [] (.agg (exR x)) s s'
def OneOK (n:Nat):Prop:=∀s x s',s.i<=ts.length->oneS ts e n s=some (x,s')->PC ts e 96 [] (.agg (exR x)) s s'
end
section
variable {ts:List Tk}{e:Int}(hts:ts.length<=1000000)
include hts in
theorem app_step {n:Nat}(hn:n+1<=most)(hO:∀m,m<=n->OneOK ts e m):AppOK ts e (n+1):=by
 intro s x s' hs hr
 rw[appS] at hr
 cases hq:oneS ts e n s with
 |none=>rw[hq] at hr;cases hr
 |some q=>
  obtain⟨a0,s1⟩:=q
  rw[hq] at hr
  simp only at hr
  have hi1:=((ex_mv hts _ (by omega)).one _ _ _ hq).m.le hs
  have hc:=hO n (Nat.le_refl _) _ _ _ hs hq
  obtain⟨ak,ap,an,av,al,aa,ab⟩:=a0
  refine PC.intro t93 fun K h b hk hK=>?_
  simp only[u_C c93.eq_1,rn,pevA,seval]
  intro b2 hb2 hk2
  obtain⟨n2,hb2⟩:=AH.set_none.1 hb2
  simp only[rn,pevA,seval]
  refine hc.use (by simp only[kG,kN,n2,n2.symm]<;>rfl) hk ?_
  simp only[rn,pevA,seval,kN,n2,n2.symm,exR]
  intro b3 hb3 hk3
  obtain⟨n32,n3,hb3⟩:=new3.1 hb3
  simp only[rn,pevA,seval,kN,n2,n2.symm,n3,n3.symm,n32,n32.symm,hk3]
  refine aloop (α:=Nat×Ex×St) (fun y fr h1=>fr 0=.ptr b 0/\fr 2=.ptr b2 0/\fr 3=.ptr b3 0/\y.2.2.i<=ts.length/\y.1<=n/\appsS ts e y.1 y.2.1 y.2.2=some (x,s')/\
   h1=((h.set b (parO ts e y.2.2)).set b2 (.cells zC 65)).set b3 (.cells (exR y.2.1) 65)) (fun y=>y.1) (n,.mk ak ap an av al aa ab,s1)
   ⟨rfl,rfl,rfl,hi1,Nat.le_refl _,hr,rfl⟩ ?_
  clear hr hq hc hi1
  rintro⟨m,⟨ak,ap,an,av,al,aa,ab⟩,s2⟩ fr h1 ⟨f0,f2,f3,hi,hm,hr,rfl⟩
  simp only at hi hm hr
  cases m with
  |zero=>rw[appsS] at hr;cases hr
  |succ m=>
   rw[appsS] at hr
   simp only[u_C l93_0.eq_1,rn,pevA,seval,f0,f2,f3,kN,n2,n2.symm,n3,n3.symm,n32,n32.symm,exR]
   refine (begins_ok s2).use (by simp only[kG,kN,n2,n2.symm,n3,n3.symm,n32,n32.symm]<;>rfl) hk ?_
   cases c2:beginsS ts s2 with
   |true=>
    rw[c2,if_pos rfl] at hr
    cases hp:oneS ts e m s2 with
    |none=>rw[hp] at hr;cases hr
    |some q=>
     obtain⟨b0,s3⟩:=q
     rw[hp] at hr
     simp only at hr
     have hi3:=((ex_mv hts _ (by omega)).one _ _ _ hp).m.le hi
     have hc:=hO m (by omega) _ _ _ hi hp
     have ha:=apply_ok (.mk ak ap an av al aa ab) b0 ap
     obtain⟨bk,bp,bn,bv,bl,ba,bb⟩:=b0
     simp only[rn,pevA,seval,f0,f2,f3,kN,n2,n2.symm,n3,n3.symm,n32,n32.symm]
     refine hc.use (by simp only[kG,kN,n2,n2.symm,n3,n3.symm,n32,n32.symm]<;>rfl) hk ?_
     simp only[rn,pevA,seval,f0,f2,f3,kN,n2,n2.symm,n3,n3.symm,n32,n32.symm,exR]
     refine ha.use ?_
     simp only[rn,pevA,seval,f0,f2,f3,kN,n2,n2.symm,n3,n3.symm,n32,n32.symm,exR,applyS,hk3]
     exact⟨(m,_,s3),Nat.lt_succ_self m,f0,f2,f3,hi3,by show m<=n;omega,hr,rfl⟩
   |false=>
    rw[c2,if_neg (by decide)] at hr
    cases hr
    simp only[rn,pevA,seval,f0,f2,f3,kN,n2,n2.symm,n3,n3.symm,n32,n32.symm,hk2,zC]
    exact PC.fin (.refl _) (by repeat (first|exact AH.le_refl _|refine le_set ?_ (AH.set_none.2 ⟨n2,hb2⟩)|refine le_del ?_ (AH.set_none.2 ⟨n2,hb2⟩)|refine le_set ?_ (AH.set_none.2 ⟨n3,hb3⟩)|refine le_del ?_ (AH.set_none.2 ⟨n3,hb3⟩))) (hK _)
include hts in
theorem product_step {n:Nat}(hn:n+1<=most)(hO:AppOK ts e n)(hT:∀m,m<=n->TwoOK ts e m):ProductOK ts e (n+1):=by
 intro s x s' hs hr
 rw[productS] at hr
 cases hq:appS ts e n s with
 |none=>rw[hq] at hr;cases hr
 |some q=>
  obtain⟨a0,s1⟩:=q
  rw[hq] at hr
  simp only at hr
  have hi1:=((ex_mv hts _ (by omega)).app _ _ _ hq).m.le hs
  have hc:=hO _ _ _ hs hq
  obtain⟨ak,ap,an,av,al,aa,ab⟩:=a0
  refine PC.intro t92 fun K h b hk hK=>?_
  simp only[u_C c92.eq_1,rn,pevA,seval]
  intro b2 hb2 hk2
  obtain⟨n2,hb2⟩:=AH.set_none.1 hb2
  simp only[rn,pevA,seval]
  refine hc.use (by simp only[kG,kN,n2,n2.symm]<;>rfl) hk ?_
  simp only[rn,pevA,seval,kN,n2,n2.symm,exR]
  intro b3 hb3 hk3
  obtain⟨n32,n3,hb3⟩:=new3.1 hb3
  simp only[rn,pevA,seval,kN,n2,n2.symm,n3,n3.symm,n32,n32.symm,hk3]
  refine aloop (α:=Nat×Ex×St) (fun y fr h1=>fr 0=.ptr b 0/\fr 2=.ptr b2 0/\fr 3=.ptr b3 0/\y.2.2.i<=ts.length/\y.1<=n/\productsS ts e y.1 y.2.1 y.2.2=some (x,s')/\
   h1=((h.set b (parO ts e y.2.2)).set b2 (.cells zC 65)).set b3 (.cells (exR y.2.1) 65)) (fun y=>y.1) (n,.mk ak ap an av al aa ab,s1)
   ⟨rfl,rfl,rfl,hi1,Nat.le_refl _,hr,rfl⟩ ?_
  clear hr hq hc hi1
  rintro⟨m,a,s2⟩ fr h1 ⟨f0,f2,f3,hi,hm,hr,rfl⟩
  simp only at hi hm hr
  cases m with
  |zero=>rw[productsS] at hr;cases hr
  |succ m=>
   rw[productsS] at hr
   simp only[u_C l92_0.eq_1,rn,pevA,seval,f0,f2,f3,kN,n2,n2.symm,n3,n3.symm,n32,n32.symm]
   refine (sign_ok 9 [[42]] .no s2).use (by simp only[kG,kN,n2,n2.symm,n3,n3.symm,n32,n32.symm]<;>rfl) hk ?_
   cases c2:signS ts [[42]] s2 with
   |true=>
    rw[c2,if_pos rfl] at hr
    cases hp:twoS ts e m a 2 s2 with
    |none=>rw[hp] at hr;cases hr
    |some q=>
     obtain⟨b0,s3⟩:=q
     rw[hp] at hr
     simp only at hr
     have hi3:=((ex_mv hts _ (by omega)).two _ _ _ _ _ hp).m.le hi
     have hc:=hT m (by omega) _ _ _ _ _ hi hp
     obtain⟨ak,ap,an,av,al,aa,ab⟩:=a
     obtain⟨bk,bp,bn,bv,bl,ba,bb⟩:=b0
     simp only[rn,pevA,seval,f0,f2,f3,kN,n2,n2.symm,n3,n3.symm,n32,n32.symm,exR]
     refine hc.use (by simp only[kG,kN,n2,n2.symm,n3,n3.symm,n32,n32.symm]<;>rfl) hk ?_
     simp only[rn,pevA,seval,f0,f2,f3,kN,n2,n2.symm,n3,n3.symm,n32,n32.symm,exR,hk3]
     exact⟨(m,_,s3),Nat.lt_succ_self m,f0,f2,f3,hi3,by show m<=n;omega,hr,rfl⟩
   |false=>
    rw[c2,if_neg (by decide)] at hr
    cases hr
    obtain⟨ak,ap,an,av,al,aa,ab⟩:=x
    simp only[rn,pevA,seval,f0,f2,f3,kN,n2,n2.symm,n3,n3.symm,n32,n32.symm,hk2,exR,zC]
    exact PC.fin (.refl _) (by repeat (first|exact AH.le_refl _|refine le_set ?_ (AH.set_none.2 ⟨n2,hb2⟩)|refine le_del ?_ (AH.set_none.2 ⟨n2,hb2⟩)|refine le_set ?_ (AH.set_none.2 ⟨n3,hb3⟩)|refine le_del ?_ (AH.set_none.2 ⟨n3,hb3⟩))) (hK _)
include hts in
theorem sum_step {n:Nat}(hn:n+1<=most)(hO:ProductOK ts e n)(hT:∀m,m<=n->TwoOK ts e m):SumOK ts e (n+1):=by
 intro s x s' hs hr
 rw[sumS] at hr
 cases hq:productS ts e n s with
 |none=>rw[hq] at hr;cases hr
 |some q=>
  obtain⟨a0,s1⟩:=q
  rw[hq] at hr
  simp only at hr
  have hi1:=((ex_mv hts _ (by omega)).product _ _ _ hq).m.le hs
  have hc:=hO _ _ _ hs hq
  obtain⟨ak,ap,an,av,al,aa,ab⟩:=a0
  refine PC.intro t83 fun K h b hk hK=>?_
  simp only[u_C c83.eq_1,rn,pevA,seval]
  intro b2 hb2 hk2
  obtain⟨n2,hb2⟩:=AH.set_none.1 hb2
  simp only[rn,pevA,seval]
  refine hc.use (by simp only[kG,kN,n2,n2.symm]<;>rfl) hk ?_
  simp only[rn,pevA,seval,kN,n2,n2.symm,exR]
  intro b3 hb3 hk3
  obtain⟨n32,n3,hb3⟩:=new3.1 hb3
  simp only[rn,pevA,seval,kN,n2,n2.symm,n3,n3.symm,n32,n32.symm,hk3]
  refine aloop (α:=Nat×Ex×St) (fun y fr h1=>fr 0=.ptr b 0/\fr 2=.ptr b2 0/\fr 3=.ptr b3 0/\y.2.2.i<=ts.length/\y.1<=n/\sumsS ts e y.1 y.2.1 y.2.2=some (x,s')/\
   h1=((h.set b (parO ts e y.2.2)).set b2 (.cells zC 65)).set b3 (.cells (exR y.2.1) 65)) (fun y=>y.1) (n,.mk ak ap an av al aa ab,s1)
   ⟨rfl,rfl,rfl,hi1,Nat.le_refl _,hr,rfl⟩ ?_
  clear hr hq hc hi1
  rintro⟨m,a,s2⟩ fr h1 ⟨f0,f2,f3,hi,hm,hr,rfl⟩
  simp only at hi hm hr
  cases m with
  |zero=>rw[sumsS] at hr;cases hr
  |succ m=>
   rw[sumsS] at hr
   simp only[u_C l83_0.eq_1,rn,pevA,seval,f0,f2,f3,kN,n2,n2.symm,n3,n3.symm,n32,n32.symm]
   refine (sign_ok 9 [[43],[45]] .no s2).use (by simp only[kG,kN,n2,n2.symm,n3,n3.symm,n32,n32.symm]<;>rfl) hk ?_
   cases c2:signS ts [[43],[45]] s2 with
   |true=>
    rw[c2,if_pos rfl] at hr
    cases hp:twoS ts e m a 1 s2 with
    |none=>rw[hp] at hr;cases hr
    |some q=>
     obtain⟨b0,s3⟩:=q
     rw[hp] at hr
     simp only at hr
     have hi3:=((ex_mv hts _ (by omega)).two _ _ _ _ _ hp).m.le hi
     have hc:=hT m (by omega) _ _ _ _ _ hi hp
     obtain⟨ak,ap,an,av,al,aa,ab⟩:=a
     obtain⟨bk,bp,bn,bv,bl,ba,bb⟩:=b0
     simp only[rn,pevA,seval,f0,f2,f3,kN,n2,n2.symm,n3,n3.symm,n32,n32.symm,exR]
     refine hc.use (by simp only[kG,kN,n2,n2.symm,n3,n3.symm,n32,n32.symm]<;>rfl) hk ?_
     simp only[rn,pevA,seval,f0,f2,f3,kN,n2,n2.symm,n3,n3.symm,n32,n32.symm,exR,hk3]
     exact⟨(m,_,s3),Nat.lt_succ_self m,f0,f2,f3,hi3,by show m<=n;omega,hr,rfl⟩
   |false=>
    rw[c2,if_neg (by decide)] at hr
    cases hr
    obtain⟨ak,ap,an,av,al,aa,ab⟩:=x
    simp only[rn,pevA,seval,f0,f2,f3,kN,n2,n2.symm,n3,n3.symm,n32,n32.symm,hk2,exR,zC]
    exact PC.fin (.refl _) (by repeat (first|exact AH.le_refl _|refine le_set ?_ (AH.set_none.2 ⟨n2,hb2⟩)|refine le_del ?_ (AH.set_none.2 ⟨n2,hb2⟩)|refine le_set ?_ (AH.set_none.2 ⟨n3,hb3⟩)|refine le_del ?_ (AH.set_none.2 ⟨n3,hb3⟩))) (hK _)
end
end Go.Proofs.Ytkopkbhpompmnaa.p
namespace Go.Proofs.Ytkopkbhpompmnaa.p
open Go.Proofs Go Go.Cn code
set_option linter.unusedSimpArgs false
set_option linter.unusedVariables false
theorem del_in2 {h:AH}{b c d:Nat}{x y:AO}(n1:d≠b)(n2:d≠c)(hd:h.objs d=none):((h.set b x).set c y).del d=(h.set b x).set c y:=s_del (new3.2 ⟨n2,n1,hd⟩)
section
variable {ts:List Tk}{e:Int}(hts:ts.length<=1000000)
include hts in
theorem two_step {n:Nat}(hn:n+1<=most)(hS:SumOK ts e n)(hP:ProductOK ts e n)(hA:AppOK ts e n):TwoOK ts e (n+1):=by
 intro a w s x s' hs hr
 rw[twoS] at hr
 have hi1:=(Mvs.word (ts:=ts) (e:=e) 5 s).m.le hs
 cases hq:(if w=0 then sumS ts e n (wordS ts e 5 s).2 else if w=1 then productS ts e n (wordS ts e 5 s).2 else appS ts e n (wordS ts e 5 s).2) with
 |none=>rw[hq] at hr;cases hr
 |some q=>
  obtain⟨b0,s2⟩:=q
  rw[hq] at hr
  cases hr
  have h1:=apply_ok (.mk 1 (posS ts e s) (wordS ts e 5 s).1 0 [] [] []) a (posS ts e s)
  have h2:=apply_ok (applyS (.mk 1 (posS ts e s) (wordS ts e 5 s).1 0 [] [] []) a (posS ts e s)) b0 (posS ts e s)
  have hwk:WkL [AV.agg [.int .i64 1,.int .i64 (posS ts e s),.str (wordS ts e 5 s).1,.int .i64 0,.lst 0 [] .nil,.lst 0 [] .nil,.lst 0 [] .nil],.agg (exR a),.int .i64 (posS ts e s)] [.agg (exR (.mk 1 (posS ts e s) (wordS ts e 5 s).1 0 [] [] [])),.agg (exR a),.int .i64 (posS ts e s)]:=
   ⟨.aggL ⟨.refl _,.refl _,.refl _,.refl _,.nil _ _ _,.nil _ _ _,.nil _ _ _,trivial⟩,.refl _,.refl _,trivial⟩
  obtain⟨ak,ap,an,av,al,aa,ab⟩:=a
  obtain⟨bk,bp,bn,bv,bl,ba,bb⟩:=b0
  refine PC.intro t85 fun K h b hk hK=>?_
  simp only[u_C c85.eq_1,rn,pevA,seval,exR]
  intro b2 hb2 hk2
  obtain⟨n2,hb2⟩:=AH.set_none.1 hb2
  simp only[rn,pevA,seval]
  refine (pos_ok s).use (by simp only[kG,kN,n2,n2.symm]<;>rfl) hk ?_
  simp only[rn,pevA,seval,kN,n2,n2.symm]
  refine (word_ok hts 5 s).use (by simp only[kG,kN,n2,n2.symm]<;>rfl) hk ?_
  simp only[rn,pevA,seval,kN,n2,n2.symm]
  intro b3 hb3 hk3
  obtain⟨n32,n3,hb3⟩:=new3.1 hb3
  simp only[rn,pevA,seval,kN,n2,n2.symm,n3,n3.symm,n32,n32.symm,hk3]
  by_cases w0:w=0
  ·subst w0
   rw[if_pos rfl] at hq
   simp only[rn,pevA,seval,kN,n2,n2.symm,n3,n3.symm,n32,n32.symm,Int.natCast_zero]
   refine (hS _ _ _ hi1 hq).use (by simp only[kG,kN,n2,n2.symm,n3,n3.symm,n32,n32.symm]<;>rfl) hk ?_
   simp only[rn,pevA,seval,kN,n2,n2.symm,n3,n3.symm,n32,n32.symm,exR,hk3,del_in2,hb3,e_dregion d85_0,u_L s85_0.eq_1,u_T g85_0.eq_1]
   refine (h1.weakL hwk).use ?_
   simp only[rn,pevA,seval,kN,n2,n2.symm,n3,n3.symm,n32,n32.symm,exR,applyS,hk3,e_dregion d85_0,u_L s85_0.eq_1,u_T g85_0.eq_1]
   refine h2.use ?_
   simp only[rn,pevA,seval,kN,n2,n2.symm,n3,n3.symm,n32,n32.symm,exR,applyS,hk2,hk3,e_dregion d85_0,u_L s85_0.eq_1,u_T g85_0.eq_1]
   exact PC.fin (.refl _) (by repeat (first|exact AH.le_refl _|refine le_set ?_ (AH.set_none.2 ⟨n2,hb2⟩)|refine le_del ?_ (AH.set_none.2 ⟨n2,hb2⟩))) (hK _)
  ·have c0:decide ((w:Int)=0)=false:=decide_eq_false (by omega)
   rw[if_neg w0] at hq
   by_cases w1:w=1
   ·subst w1
    rw[if_pos rfl] at hq
    simp only[rn,pevA,seval,kN,n2,n2.symm,n3,n3.symm,n32,n32.symm,c0,Int.natCast_one]
    refine (hP _ _ _ hi1 hq).use (by simp only[kG,kN,n2,n2.symm,n3,n3.symm,n32,n32.symm]<;>rfl) hk ?_
    simp only[rn,pevA,seval,kN,n2,n2.symm,n3,n3.symm,n32,n32.symm,exR,hk3,del_in2,hb3,e_dregion d85_0,u_L s85_0.eq_1,u_T g85_0.eq_1]
    refine (h1.weakL hwk).use ?_
    simp only[rn,pevA,seval,kN,n2,n2.symm,n3,n3.symm,n32,n32.symm,exR,applyS,hk3,e_dregion d85_0,u_L s85_0.eq_1,u_T g85_0.eq_1]
    refine h2.use ?_
    simp only[rn,pevA,seval,kN,n2,n2.symm,n3,n3.symm,n32,n32.symm,exR,applyS,hk2,hk3,e_dregion d85_0,u_L s85_0.eq_1,u_T g85_0.eq_1]
    exact PC.fin (.refl _) (by repeat (first|exact AH.le_refl _|refine le_set ?_ (AH.set_none.2 ⟨n2,hb2⟩)|refine le_del ?_ (AH.set_none.2 ⟨n2,hb2⟩))) (hK _)
   ·have c1:decide ((w:Int)=1)=false:=decide_eq_false (by omega)
    rw[if_neg w1] at hq
    simp only[rn,pevA,seval,kN,n2,n2.symm,n3,n3.symm,n32,n32.symm,c0,c1]
    refine (hA _ _ _ hi1 hq).use (by simp only[kG,kN,n2,n2.symm,n3,n3.symm,n32,n32.symm]<;>rfl) hk ?_
    simp only[rn,pevA,seval,kN,n2,n2.symm,n3,n3.symm,n32,n32.symm,exR,hk3,del_in2,hb3,e_dregion d85_0,u_L s85_0.eq_1,u_T g85_0.eq_1]
    refine (h1.weakL hwk).use ?_
    simp only[rn,pevA,seval,kN,n2,n2.symm,n3,n3.symm,n32,n32.symm,exR,applyS,hk3,e_dregion d85_0,u_L s85_0.eq_1,u_T g85_0.eq_1]
    refine h2.use ?_
    simp only[rn,pevA,seval,kN,n2,n2.symm,n3,n3.symm,n32,n32.symm,exR,applyS,hk2,hk3,e_dregion d85_0,u_L s85_0.eq_1,u_T g85_0.eq_1]
    exact PC.fin (.refl _) (by repeat (first|exact AH.le_refl _|refine le_set ?_ (AH.set_none.2 ⟨n2,hb2⟩)|refine le_del ?_ (AH.set_none.2 ⟨n2,hb2⟩))) (hK _)
end
end Go.Proofs.Ytkopkbhpompmnaa.p
namespace Go.Proofs.Ytkopkbhpompmnaa.p
open Go.Proofs Go Go.Cn code
set_option linter.unusedSimpArgs false
set_option linter.unusedVariables false
section
variable {ts:List Tk}{e:Int}(hts:ts.length<=1000000)
include hts in
set_option maxRecDepth 2000 in
theorem one_step {n:Nat}(hn:n+1<=most)(hE:ExOK ts e n):OneOK ts e (n+1):=by
 intro s x s' hs hr
 rw[oneS] at hr
 refine PC.intro t96 fun K h b hk hK=>?_
 simp only[u_C c96.eq_1,rn,pevA,seval]
 intro b2 hb2 hk2
 obtain⟨n2,hb2⟩:=AH.set_none.1 hb2
 simp only[rn,pevA,seval]
 refine (begins_ok s).use (by simp only[kG,kN,n2,n2.symm]<;>rfl) hk ?_
 simp only[rn,pevA,seval,kN,n2,n2.symm]
 cases c0:beginsS ts s with
 |false=>
  rw[c0,if_neg (by decide)] at hr
  cases hr
  simp only[rn,pevA,seval,kN,n2,n2.symm]
  refine (wrong_ok s).use (by simp only[kG,kN,n2,n2.symm]<;>rfl) hk ?_
  simp only[rn,pevA,seval,kN,n2,n2.symm,hk2]
  exact PC.fin (.aggL ⟨.refl _,.refl _,.refl _,.refl _,.nil _ _ _,.nil _ _ _,.nil _ _ _,trivial⟩) (by repeat (first|exact AH.le_refl _|refine le_set ?_ (AH.set_none.2 ⟨n2,hb2⟩)|refine le_del ?_ (AH.set_none.2 ⟨n2,hb2⟩))) (hK _)
 |true=>
  have hb:=begins_fine c0
  have hlt:=hb.2
  rw[c0,if_pos rfl,get2 hlt] at hr
  simp only at hr
  simp only[e_dregion d96_0,u_L s96_0.eq_1,u_T g96_0.eq_1,rn,pevA,seval,kN,n2,n2.symm,parO,tkC_get hlt]
  intro c3 hc3 hkc
  obtain⟨m32,m3,hc3⟩:=new3.1 hc3
  simp only[e_dregion d96_0,u_L s96_0.eq_1,u_T g96_0.eq_1,rn,pevA,seval,kN,n2,n2.symm,del_in2,m3,m32,hc3,hkc]
  intro b3 hb3 hk3
  obtain⟨n32,n3,hb3⟩:=new3.1 hb3
  have wn:=w1 (Nat.lt_of_lt_of_le hlt hts)
  by_cases k1:(ts[s.i]).kind=1
  ·rw[if_pos k1] at hr
   cases hr
   simp only[rn,pevA,seval,kN,n2,n2.symm,n3,n3.symm,n32,n32.symm,hk3,k1,wn,hk,hk2]
   exact PC.fin (o:=parO ts e (nextS s)) (.aggL ⟨.refl _,.refl _,.refl _,.refl _,.nil _ _ _,.nil _ _ _,.nil _ _ _,trivial⟩) (by repeat (first|exact AH.le_refl _|refine le_set ?_ (AH.set_none.2 ⟨n2,hb2⟩)|refine le_del ?_ (AH.set_none.2 ⟨n2,hb2⟩)|refine le_set ?_ (AH.set_none.2 ⟨n3,hb3⟩)|refine le_del ?_ (AH.set_none.2 ⟨n3,hb3⟩))) (hK _)
  rw[if_neg k1] at hr
  have d1:decide ((ts[s.i]).kind=1)=false:=decide_eq_false k1
  by_cases k2:(ts[s.i]).kind=2
  ·rw[if_pos k2] at hr
   cases hr
   simp only[rn,pevA,seval,kN,n2,n2.symm,n3,n3.symm,n32,n32.symm,hk3,k2,wn,hk,hk2]
   exact PC.fin (o:=parO ts e (nextS s)) (.aggL ⟨.refl _,.refl _,.refl _,.refl _,.nil _ _ _,.nil _ _ _,.nil _ _ _,trivial⟩) (by repeat (first|exact AH.le_refl _|refine le_set ?_ (AH.set_none.2 ⟨n2,hb2⟩)|refine le_del ?_ (AH.set_none.2 ⟨n2,hb2⟩)|refine le_set ?_ (AH.set_none.2 ⟨n3,hb3⟩)|refine le_del ?_ (AH.set_none.2 ⟨n3,hb3⟩))) (hK _)
  rw[if_neg k2] at hr
  have d2:decide ((ts[s.i]).kind=2)=false:=decide_eq_false k2
  by_cases k3:(ts[s.i]).kind=3
  ·rw[if_pos k3] at hr
   cases hr
   simp only[rn,pevA,seval,kN,n2,n2.symm,n3,n3.symm,n32,n32.symm,hk3,k3,wn,hk,hk2]
   exact PC.fin (o:=parO ts e (nextS s)) (.aggL ⟨.refl _,.refl _,.refl _,.refl _,.nil _ _ _,.nil _ _ _,.nil _ _ _,trivial⟩) (by repeat (first|exact AH.le_refl _|refine le_set ?_ (AH.set_none.2 ⟨n2,hb2⟩)|refine le_del ?_ (AH.set_none.2 ⟨n2,hb2⟩)|refine le_set ?_ (AH.set_none.2 ⟨n3,hb3⟩)|refine le_del ?_ (AH.set_none.2 ⟨n3,hb3⟩))) (hK _)
  rw[if_neg k3] at hr
  have d3:decide ((ts[s.i]).kind=3)=false:=decide_eq_false k3
  by_cases k4:(ts[s.i]).kind=4
  ·rw[if_pos k4] at hr
   cases hr
   simp only[rn,pevA,seval,kN,n2,n2.symm,n3,n3.symm,n32,n32.symm,hk3,k4,wn,hk,hk2]
   exact PC.fin (o:=parO ts e (nextS s)) (.aggL ⟨.refl _,.refl _,.refl _,.refl _,.nil _ _ _,.nil _ _ _,.nil _ _ _,trivial⟩) (by repeat (first|exact AH.le_refl _|refine le_set ?_ (AH.set_none.2 ⟨n2,hb2⟩)|refine le_del ?_ (AH.set_none.2 ⟨n2,hb2⟩)|refine le_set ?_ (AH.set_none.2 ⟨n3,hb3⟩)|refine le_del ?_ (AH.set_none.2 ⟨n3,hb3⟩))) (hK _)
  rw[if_neg k4] at hr
  have d4:decide ((ts[s.i]).kind=4)=false:=decide_eq_false k4
  by_cases hl2:s.i+1<ts.length
  ·have c1:decide (((s.i+1:Nat):Int)<(ts.length:Int))=true:=decide_eq_true (by omega)
   rw[get2 hl2] at hr
   simp only at hr
   by_cases k5:(ts[s.i+1]).kind=5
   ·rw[if_pos k5] at hr
    cases hr
    simp only[e_dregion d96_1,u_L s96_1.eq_1,u_T g96_1.eq_1,e_dregion d96_2,u_L s96_2.eq_1,u_T g96_2.eq_1,e_dregion d96_3,u_L s96_3.eq_1,u_T g96_3.eq_1,rn,pevA,seval,kN,n2,n2.symm,n3,n3.symm,n32,n32.symm,hk3,d1,d2,d3,d4,wn,tkC_len,c1,tkC_get hl2,k5,w2 (Nat.lt_of_lt_of_le hlt hts),hk,hk2]
    refine (take_ok hts [41] {s with i:=s.i+2}).use (by simp only[kG,kN,n2,n2.symm,n3,n3.symm,n32,n32.symm]<;>rfl) hk ?_
    simp only[rn,pevA,seval,kN,n2,n2.symm,n3,n3.symm,n32,n32.symm,hk2]
    exact PC.fin (.aggL ⟨.refl _,.refl _,.refl _,.refl _,.nil _ _ _,.nil _ _ _,.nil _ _ _,trivial⟩) (by repeat (first|exact AH.le_refl _|refine le_set ?_ (AH.set_none.2 ⟨n2,hb2⟩)|refine le_del ?_ (AH.set_none.2 ⟨n2,hb2⟩)|refine le_set ?_ (AH.set_none.2 ⟨n3,hb3⟩)|refine le_del ?_ (AH.set_none.2 ⟨n3,hb3⟩))) (hK _)
   ·have d5:decide ((ts[s.i+1]).kind=5)=false:=decide_eq_false k5
    rw[if_neg k5] at hr
    simp only at hr
    cases hq:exprS ts e n (openS ts e s) with
    |none=>rw[hq] at hr;cases hr
    |some q=>
     obtain⟨y,s1⟩:=q
     rw[hq] at hr
     cases hr
     obtain⟨yk,yp,yn,yv,yl,ya,yb⟩:=x
     simp only[e_dregion d96_1,u_L s96_1.eq_1,u_T g96_1.eq_1,e_dregion d96_2,u_L s96_2.eq_1,u_T g96_2.eq_1,e_dregion d96_3,u_L s96_3.eq_1,u_T g96_3.eq_1,rn,pevA,seval,kN,n2,n2.symm,n3,n3.symm,n32,n32.symm,hk3,d1,d2,d3,d4,wn,tkC_len,c1,tkC_get hl2,d5,hk,hk2]
     refine (open_ok hts s hlt).use (by simp only[kG,kN,n2,n2.symm,n3,n3.symm,n32,n32.symm]<;>rfl) hk ?_
     simp only[rn,pevA,seval,kN,n2,n2.symm,n3,n3.symm,n32,n32.symm]
     refine (hE _ _ _ (openS_i hlt) hq).use (by simp only[kG,kN,n2,n2.symm,n3,n3.symm,n32,n32.symm]<;>rfl) hk ?_
     simp only[rn,pevA,seval,kN,n2,n2.symm,n3,n3.symm,n32,n32.symm,exR,hk3]
     refine (take_ok hts [41] s1).use (by simp only[kG,kN,n2,n2.symm,n3,n3.symm,n32,n32.symm]<;>rfl) hk ?_
     simp only[rn,pevA,seval,kN,n2,n2.symm,n3,n3.symm,n32,n32.symm]
     refine (shut_ok _).use (by simp only[kG,kN,n2,n2.symm,n3,n3.symm,n32,n32.symm]<;>rfl) hk ?_
     simp only[rn,pevA,seval,kN,n2,n2.symm,n3,n3.symm,n32,n32.symm,hk2]
     exact PC.fin (.refl _) (by repeat (first|exact AH.le_refl _|refine le_set ?_ (AH.set_none.2 ⟨n2,hb2⟩)|refine le_del ?_ (AH.set_none.2 ⟨n2,hb2⟩)|refine le_set ?_ (AH.set_none.2 ⟨n3,hb3⟩)|refine le_del ?_ (AH.set_none.2 ⟨n3,hb3⟩))) (hK _)
  ·have c1:decide (((s.i+1:Nat):Int)<(ts.length:Int))=false:=decide_eq_false (by omega)
   rw[List.getElem?_eq_none (by omega)] at hr
   simp only at hr
   cases hq:exprS ts e n (openS ts e s) with
   |none=>rw[hq] at hr;cases hr
   |some q=>
    obtain⟨y,s1⟩:=q
    rw[hq] at hr
    cases hr
    obtain⟨yk,yp,yn,yv,yl,ya,yb⟩:=x
    simp only[e_dregion d96_1,u_L s96_1.eq_1,u_T g96_1.eq_1,e_dregion d96_2,u_L s96_2.eq_1,u_T g96_2.eq_1,e_dregion d96_3,u_L s96_3.eq_1,u_T g96_3.eq_1,rn,pevA,seval,kN,n2,n2.symm,n3,n3.symm,n32,n32.symm,hk3,d1,d2,d3,d4,wn,tkC_len,c1,hk,hk2]
    refine (open_ok hts s hlt).use (by simp only[kG,kN,n2,n2.symm,n3,n3.symm,n32,n32.symm]<;>rfl) hk ?_
    simp only[rn,pevA,seval,kN,n2,n2.symm,n3,n3.symm,n32,n32.symm]
    refine (hE _ _ _ (openS_i hlt) hq).use (by simp only[kG,kN,n2,n2.symm,n3,n3.symm,n32,n32.symm]<;>rfl) hk ?_
    simp only[rn,pevA,seval,kN,n2,n2.symm,n3,n3.symm,n32,n32.symm,exR,hk3]
    refine (take_ok hts [41] s1).use (by simp only[kG,kN,n2,n2.symm,n3,n3.symm,n32,n32.symm]<;>rfl) hk ?_
    simp only[rn,pevA,seval,kN,n2,n2.symm,n3,n3.symm,n32,n32.symm]
    refine (shut_ok _).use (by simp only[kG,kN,n2,n2.symm,n3,n3.symm,n32,n32.symm]<;>rfl) hk ?_
    simp only[rn,pevA,seval,kN,n2,n2.symm,n3,n3.symm,n32,n32.symm,hk2]
    exact PC.fin (.refl _) (by repeat (first|exact AH.le_refl _|refine le_set ?_ (AH.set_none.2 ⟨n2,hb2⟩)|refine le_del ?_ (AH.set_none.2 ⟨n2,hb2⟩)|refine le_set ?_ (AH.set_none.2 ⟨n3,hb3⟩)|refine le_del ?_ (AH.set_none.2 ⟨n3,hb3⟩))) (hK _)
end
end Go.Proofs.Ytkopkbhpompmnaa.p
namespace Go.Proofs.Ytkopkbhpompmnaa.p
open Go.Proofs Go Go.Cn code
set_option linter.unusedSimpArgs false
set_option linter.unusedVariables false
theorem _root_.Go.Cn.Toks.row {t:Nat->Option Tok}{b:Nat}(E sz n:Nat)(hb:t b=none):Toks t (upd t b (some ⟨b,0,n*sz,n*sz,sz,E⟩)) [(.own b b 0 (n*sz) (n*sz) sz,E,sz,0)] where
 le:=fun c k hc=>by
  simp only[upd]
  rw[if_neg (by rintro rfl;rw[hb] at hc;cases hc)]
  exact hc
 own:=fun i tag E' sz' k hi=>by
  match i,hi with
  |0,hi=>
   cases hi
   exact⟨rfl,by simp[upd],by simp⟩
  |i+1,hi=>simp at hi
 out:=fun i tag E' sz' k c hi hc=>by
  match i,hi with
  |0,hi=>
   cases hi
   cases hc
   exact hb
  |i+1,hi=>simp at hi
 sep:=fun i j a b' c hij hi hj=>by
  match i,j,hi,hj with
  |0,0,_,_=>exact absurd rfl hij
  |0,j+1,_,hj=>simp at hj
  |i+1,_,hi,_=>simp at hi
section
variable (ts:List Tk)(e:Int)
def AltsOK (n:Nat):Prop:=∀s l s',s.i<=ts.length->altsS ts e n [] s=some (l,s')->PC ts e 82 [] (.lst 135 (alsR l) .no) s s'
def DefsOK (n:Nat):Prop:=∀s g bs s2,s.i<=ts.length->defsL ts e n [] [] s=some (g,bs,s2)->PC ts e 81 [] (.lst 67 (bisR (joinL [] g bs s2).1) .no) s (joinL [] g bs s2).2
end
section
variable {ts:List Tk}{e:Int}(hts:ts.length<=1000000)
theorem lows_len:∀(n:Nat)(acc:List Nm)(s:St)(l:List Nm)(s':St),lowsS ts e n acc s=some (l,s')->l.length<=acc.length+n
 |0,acc,s,l,s',h=>by rw[lowsS] at h;cases h
 |n+1,acc,s,l,s',h=>by
  rw[lowsS] at h
  split at h
  ·have:=lows_len n _ _ _ _ h
   simp at this;omega
  ·cases h;omega
include hts in
theorem lam_loop {n:Nat}(hn:n+1<=most)(K:Nat->Prop)(h:AH)(b b2:Nat)(X:AO)(n2:b2≠b)(hk:¬K b)(hk2:¬K b2)(t0:Nat->Option Tok)(pos:Int)(l:List Nm)(s':St)(R:CExit->AQ)
  (hR:∀fr tag t',fr 0=.ptr b 0->fr 2=.ptr b2 0->fr 3=.int .i64 pos->fr 4=.lst 9 (strC l) tag->Toks t0 t' [(tag,9,1,0)]->R (.exit 1) fr (((h.set b (parO ts e s')).set b2 X).tk t')) :
  ∀(s:St)(acc:List Nm)(fr:AFr)(tag:Tag)(t':Nat->Option Tok),acc.length<=1->lowsS ts e n acc s=some (l,s')->fr 0=.ptr b 0->fr 2=.ptr b2 0->fr 3=.int .i64 pos->fr 4=.lst 9 (strC acc) tag->Toks t0 t' [(tag,9,1,0)]->
   W T K (.loop l59_0.toC) fr (((h.set b (parO ts e s)).set b2 X).tk t') R:=by
 intro s acc fr tag t' hacc hq f0 f2 f3 f4 hT
 refine aloop (α:=Nat×List Nm×St) (fun x fr h1=>fr 0=.ptr b 0/\fr 2=.ptr b2 0/\fr 3=.int .i64 pos/\x.2.1.length+x.1<=most/\lowsS ts e x.1 x.2.1 x.2.2=some (l,s')/\
  ∃tag t',fr 4=.lst 9 (strC x.2.1) tag/\Toks t0 t' [(tag,9,1,0)]/\h1=((h.set b (parO ts e x.2.2)).set b2 X).tk t') (fun x=>x.1) (n,acc,s) ⟨f0,f2,f3,by show acc.length+n<=most;omega,hq,tag,t',f4,hT,rfl⟩ ?_
 clear hq hT f0 f2 f3 f4
 rintro⟨m,acc,s2⟩ fr h1 ⟨f0,f2,f3,hB,hq,tag,t',f4,hT,rfl⟩
 simp only at hB hq f4
 cases m with
 |zero=>rw[lowsS] at hq;cases hq
 |succ m=>
  rw[lowsS] at hq
  simp only[u_C l59_0.eq_1,rn,pevA,seval,f0,f2,f3,f4,kN,n2,n2.symm]
  refine (kind_ok 1 s2).use (by simp only[kG,kN,n2,n2.symm]<;>rfl) hk ?_
  cases c2:kindS ts 1 s2 with
  |true=>
   rw[c2,if_pos rfl] at hq
   simp only[rn,pevA,seval,f0,f2,f3,f4,kN,n2,n2.symm]
   refine (word_ok hts 1 s2).use (by simp only[kG,kN,n2,n2.symm]<;>rfl) hk ?_
   simp only[rn,pevA,seval,f0,f2,f3,f4,kN,n2,n2.symm]
   refine WO.append (i:=0) hT rfl rfl rfl trivial (by decide) (by simp) rfl (.inr rfl) (fun _=>?_) ?_ fun tag2 t2 hT2=>?_
   ·simp[capOk,strC_len];unfold most at hB;omega
   ·simp[big_eq,strC_len];unfold most at hB;omega
   rw[strC_app]
   simp only[rn,pevA,seval,f0,f2,f3,kN,n2,n2.symm]
   exact⟨(m,_,_),Nat.lt_succ_self m,f0,f2,f3,by show (acc++[_]).length+m<=most;simp;omega,hq,tag2,t2,rfl,hT2,rfl⟩
  |false=>
   rw[c2,if_neg (by decide)] at hq
   cases hq
   simp only[rn,pevA,seval,f0,f2,f3,f4,kN,n2,n2.symm]
   exact hR _ _ _ f0 f2 f3 f4 hT
end
end Go.Proofs.Ytkopkbhpompmnaa.p
