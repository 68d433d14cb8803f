import Derived.Test.YtgailjhnfghkgaaGreatDoorEnLaw
import Derived.Test.YtgailjhnfghkgaaGreatDoorCgFor
import Derived.Test.YtgailjhnfghkgaaGreatDoorOrd
section
namespace Go.Proofs.YtgailjhnfghkgaaGreatDoor
inductive Rc (d:Nat) (tg:Nat->Nat->Int):Nat->Nat->Prop
 |refl (v:Nat):Rc d tg v v
 |step {v w k x:Nat}:Rc d tg v w->k<d->tg w k=(x:Int)->Rc d tg v x
section
variable{N d:Nat}{tg:Nat->Nat->Int}{G:Nat->Prop}
theorem Rc.trans{a b c:Nat}(h:Rc d tg a b)(h2:Rc d tg b c):Rc d tg a c:=by
 induction h2 with
 |refl=>exact h
 |step _ hk ht ih=>exact ih.step hk ht
def nB{α:Type}(f:Nat->α)(i:Nat)(x:α):Nat->α:=λ v=>if v=i then x else f v
theorem dQ{α:Type}{f:Nat->α}{i:Nat}{x:α}:nB f i x i=x:=if_pos rfl
theorem db{α:Type}{f:Nat->α}{i v:Nat}{x:α}(h:v≠i):nB f i x v=f v:=if_neg h
structure Cl(d:Nat)(tg:Nat->Nat->Int)(G:Nat->Prop)(c:Nat->Int)(comps:List (List Nat))(lv:List Bool):Prop where
 ga:∀v,0<=c v->G v/\c v<(comps.length:Int)
 lvl:lv.length=comps.length
 mem:∀(i v:Nat),i<comps.length->(v∈comps.getD i []↔c v=(i:Int))
 ne:∀i,i<comps.length->comps.getD i []≠[]
 nd:∀i,i<comps.length->(comps.getD i []).Nodup
 J0:∀v k (w:Nat),0<=c v->k<d->tg v k=(w:Int)->0<=c w/\c w<=c v
 Ot:∀v w,0<=c v->c v=c w->Rc d tg v w
 Xl:∀i:Nat,i<comps.length->(lv.getD i false=true↔∃v k w:Nat,c v=(i:Int)/\k<d/\tg v k=(w:Int)/\c w≠c v)
def Dn:List (Nat × Nat)->Nat->Nat->Prop
 |[],_,_=>True
 |p::r,v,k=>(p.1=v->k<p.2)/\∀q∈r,q.1=v->k+1<q.2
def Tr(tg:Nat->Nat->Int):List (Nat × Nat)->Prop
 |p::q::r=>(1<=q.2/\tg q.1 (q.2 - 1)=(p.1:Int))/\Tr tg (q::r)
 |_=>True
structure Tj(d:Nat)(tg:Nat->Nat->Int)(G:Nat->Prop)(o l c:Nat->Int)(e:Nat->Bool)(path:List (Nat × Nat))(dE:List Nat)(comps:List (List Nat))(lv:List Bool)(gh:Nat):Prop extends Cl d tg G c comps lv where
 o0:∀v,0<=o v/\o v<=(gh:Int)
 od:∀v,0<o v->G v
 inj:∀v w,0<o v->o v=o w->v=w
 QV:∀k:Nat,1<=k->k<=gh->∃v,o v=(k:Int)
 co:∀v,0<=c v->0<o v
 st:∀v,v∈dE↔(0<o v/\c v<0)
 Bc:dE.Pairwise (λ a b=>o b<o a)
 rh:∀p∈path,(0<o p.1/\c p.1<0)/\p.2<=d
 pH:path.Pairwise (λ p q=>o q.1<o p.1)
 tree:Tr tg path
 bot:∀v,0<o v->c v<0->∃p∈path,o p.1<=o v
 low:∀v,0<o v->c v<0->l v<=o v/\∃u,(0<o u/\c u<0)/\o u=l v/\Rc d tg v u
 fin:∀v,0<o v->c v<0->(∀p∈path,p.1≠v)->l v<o v
 HL:∀p∈path,∀v,0<o v->c v<0->o p.1<=o v->(∀q∈path,o q.1<=o v->o q.1<=o p.1)->Rc d tg p.1 v/\l p.1<=l v
 NK:∀v k (w:Nat),0<o v->c v<0->Dn path v k->k<d->tg v k=(w:Int)->0<o w/\((0<=c w/\e v=true)\/(c w<0/\l v<=o w/\∀q∈path,o q.1<=o v\/o w<o q.1))
 ext:∀v,0<o v->c v<0->e v=true->∃k w:Nat,k<d/\tg v k=(w:Int)/\0<=c w
 J1:∀v,o v=0->e v=false
theorem Tj.start:Tj d tg G (λ _=>0) (λ _=>0) (λ _=> -1) (λ _=>false) [] [] [] [] 0:=
 { ga:=λ v h=>by omega
   lvl:=rfl,mem:=λ i v h=>absurd h (Nat.not_lt_zero _),ne:=λ i h=>absurd h (Nat.not_lt_zero _),nd:=λ i h=>absurd h (Nat.not_lt_zero _)
   J0:=λ v k w h=>by omega
   Ot:=λ v w h=>by omega
   Xl:=λ i h=>absurd h (Nat.not_lt_zero _)
   o0:=λ v=>⟨Int.le_refl _,Int.le_refl _⟩,od:=λ v h=>absurd h (Int.lt_irrefl _),inj:=λ v w h=>absurd h (Int.lt_irrefl _),QV:=λ k h1 h2=>by omega
   co:=λ v h=>by omega
   st:=λ v=>⟨λ h=>absurd h List.not_mem_nil,λ h=>absurd h.1 (Int.lt_irrefl _)⟩,Bc:=List.Pairwise.nil,rh:=λ p h=>absurd h List.not_mem_nil,pH:=List.Pairwise.nil,tree:=trivial
   bot:=λ v h=>absurd h (Int.lt_irrefl _),low:=λ v h=>absurd h (Int.lt_irrefl _),fin:=λ v h=>absurd h (Int.lt_irrefl _),HL:=λ p h=>absurd h List.not_mem_nil
   NK:=λ v k w h=>absurd h (Int.lt_irrefl _),ext:=λ v h=>absurd h (Int.lt_irrefl _),J1:=λ _ _=>rfl }
variable{o l c:Nat->Int}{e:Nat->Bool}{path rest:List (Nat × Nat)}{dE:List Nat}{comps:List (List Nat)}{lv:List Bool}{gh:Nat}
theorem Tj.top{v k:Nat}(h:Tj d tg G o l c e ((v,k)::rest) dE comps lv gh):∀q∈(v,k)::rest,o q.1<=o v:=λ q hq=>by
 rcases List.mem_cons.1 hq with rfl|hq
 ·exact Int.le_refl _
 ·exact Int.le_of_lt (List.rel_of_pairwise_cons h.pH hq)
theorem Tj.D8{v k:Nat}(h:Tj d tg G o l c e ((v,k)::rest) dE comps lv gh)(hk:k<d){l':Nat->Int}{e':Nat->Bool}
  (hl:∀u,u≠v->l' u=l u) (Vm:l' v<=l v) (he:∀u,u≠v->e' u=e u) (Yg:e v=true->e' v=true)
  (xc:∃u,(0<o u/\c u<0)/\o u=l' v/\Rc d tg v u)
  (hex:e' v=true->∃k w:Nat,k<d/\tg v k=(w:Int)/\0<=c w)
  (hw:∀w:Nat,tg v k=(w:Int)->0<o w/\((0<=c w/\e' v=true)\/(c w<0/\l' v<=o w))):
  Tj d tg G o l' c e' ((v,k+1)::rest) dE comps lv gh:=by
 have xj:=h.top;have hv:=h.rh _ (List.mem_cons_self ..)
 have mm:∀{P:Nat->Prop},(∀p∈(v,k+1)::rest,P p.1)->∀p∈(v,k)::rest,P p.1:=λ hP p hp=>by
  rcases List.mem_cons.1 hp with rfl|hp
  ·exact hP (v,k+1) (List.mem_cons_self ..)
  ·exact hP _ (List.mem_cons_of_mem _ hp)
 have m2:∀{P:Nat->Prop},(∀p∈(v,k)::rest,P p.1)->∀p∈(v,k+1)::rest,P p.1:=λ hP p hp=>by
  rcases List.mem_cons.1 hp with rfl|hp
  ·exact hP (v,k) (List.mem_cons_self ..)
  ·exact hP _ (List.mem_cons_of_mem _ hp)
 have ot:∀u,l' u<=l u:=λ u=>by by_cases e1:u=v;· rw [e1];exact Vm
                               ·rw [hl u e1];exact Int.le_refl _
 refine { h with rh:=λ p hp=>?_,pH:=?_,tree:=?_,bot:=λ u h1 h2=>?_,low:=λ u h1 h2=>?_,fin:=λ u h1 h2 h3=>?_,HL:=λ p hp u h1 h2 h3 h4=>?_,NK:=λ u j w h1 h2 h3 h4 h5=>?_,ext:=λ u h1 h2 h3=>?_,J1:=λ u h1=>?_ }
 ·rcases List.mem_cons.1 hp with rfl|hp
  ·exact⟨hv.1,hk⟩
  ·exact h.rh p (List.mem_cons_of_mem _ hp)
 ·have:=List.pairwise_cons.1 h.pH
  exact List.pairwise_cons.2 ⟨λ q hq=>this.1 q hq,this.2⟩
 ·have:=h.tree
  cases rest with
  |nil=>trivial
  |cons q r=>exact this
 ·obtain⟨p,hp,h3⟩:=h.bot u h1 h2
  rcases List.mem_cons.1 hp with rfl|hp
  ·exact⟨_,List.mem_cons_self ..,h3⟩
  ·exact⟨_,List.mem_cons_of_mem _ hp,h3⟩
 ·have h3:=h.low u h1 h2
  by_cases e1:u=v
  ·subst e1;exact⟨Int.le_trans Vm h3.1,xc⟩
  ·rw [hl u e1];exact h3
 ·have e1:u≠v:=λ e1=>h3 _ (List.mem_cons_self ..) e1.symm
  rw [hl u e1];exact h.fin u h1 h2 (mm (P:=λ x=>x≠u) h3)
 ·have h5:=mm (P:=λ x=>o x<=o u->o x<=o p.1) h4
  rcases List.mem_cons.1 hp with rfl|hp
  ·have h6:=h.HL _ (List.mem_cons_self ..) u h1 h2 h3 h5
   refine⟨h6.1,?_⟩
   by_cases e1:u=v
   ·subst e1;exact Int.le_refl _
   ·rw [hl u e1];exact Int.le_trans Vm h6.2
  ·have h6:=h.HL _ (List.mem_cons_of_mem _ hp) u h1 h2 h3 h5
   have h7:o p.1<o v:=List.rel_of_pairwise_cons h.pH hp
   have e1:u≠v:=λ e1=>by
    subst e1;have h8:o u<=o p.1:=h5 _ (List.mem_cons_self ..) (Int.le_refl _);omega
   have e2:p.1≠v:=λ e2=>by rw [e2]at h7;omega
   rw [hl _ e1,hl _ e2];exact h6
 ·by_cases dM:u=v/\j=k
  ·obtain⟨rfl,rfl⟩:=dM
   obtain⟨h6,h7⟩:=hw w h5;refine⟨h6,h7.imp id λ h7=>⟨h7.1,h7.2,m2 (P:=λ x=>o x<=o u\/o w<o x) λ q hq=>.inl (xj q hq)⟩⟩
  ·have h6:Dn ((v,k)::rest) u j:=⟨λ e1=>by have h8:=h3.1 e1;have e1:v=u:=e1;have h8:j<k+1:=h8;show j<k;omega,h3.2⟩
   obtain⟨h7,h8⟩:=h.NK u j w h1 h2 h6 h4 h5;refine⟨h7,h8.imp (λ h8=>⟨h8.1,?_⟩) λ h8=>⟨h8.1,Int.le_trans (ot u) h8.2.1,m2 (P:=λ x=>o x<=o u\/o w<o x) h8.2.2⟩⟩
   by_cases e1:u=v
   ·rw [e1]at h8 ⊢;exact Yg h8.2
   ·rw [he u e1];exact h8.2
 ·by_cases e1:u=v
  ·subst e1;exact hex h3
  ·rw [he u e1]at h3;exact h.ext u h1 h2 h3
 ·have e1:u≠v:=λ e1=>by subst e1;have:=hv.1.1;dsimp only at this;omega
  rw [he u e1];exact h.J1 u h1
theorem Tj.none{v k:Nat}(h:Tj d tg G o l c e ((v,k)::rest) dE comps lv gh)(hk:k<d)(ht:tg v k<0):Tj d tg G o l c e ((v,k+1)::rest) dE comps lv gh:=
 have hv:=h.rh _ (List.mem_cons_self ..)
 h.D8 hk (λ _ _=>rfl) (Int.le_refl _) (λ _ _=>rfl) id (h.low v hv.1.1 hv.1.2).2 (h.ext v hv.1.1 hv.1.2) λ w hw=>by omega
theorem Tj.back{v k w:Nat}(h:Tj d tg G o l c e ((v,k)::rest) dE comps lv gh)(hk:k<d)(ht:tg v k=(w:Int))(h1:o w≠0)(h2:c w<0):Tj d tg G o (nB l v (min (l v) (o w))) c e ((v,k+1)::rest) dE comps lv gh:=by
 have hv:=h.rh _ (List.mem_cons_self ..);have ho:=h.o0 w;have JB:=h.low v hv.1.1 hv.1.2;refine h.D8 hk (λ _ hu=>db hu) (by rw [dQ];omega) (λ _ _=>rfl) id ?_ (h.ext v hv.1.1 hv.1.2) λ w' hw=>?_
 ·rw [dQ]
  by_cases e1:l v<=o w
  ·rw [Int.min_eq_left e1];exact JB.2
  ·rw [Int.min_eq_right aa];exact⟨w,⟨aa,h2⟩,rfl,(Rc.refl v).step hk ht⟩
 ·obtain rfl:w'=w:=by rw [ht]at hw;omega
  exact⟨aa,.inr ⟨h2,by rw [dQ];omega⟩⟩
theorem Tj.Sc{v k w:Nat}(h:Tj d tg G o l c e ((v,k)::rest) dE comps lv gh)(hk:k<d)(ht:tg v k=(w:Int))(h2:0<=c w):Tj d tg G o l c (nB e v true) ((v,k+1)::rest) dE comps lv gh:=by
 have hv:=h.rh _ (List.mem_cons_self ..);refine h.D8 hk (λ _ _=>rfl) (Int.le_refl _) (λ _ hu=>db hu) (λ _=>dQ) (h.low v hv.1.1 hv.1.2).2 (λ _=>⟨k,w,hk,ht,h2⟩) λ w' hw=>?_;obtain rfl:w'=w:=by rw [ht]at hw;omega
 exact⟨h.co _ h2,.inl ⟨h2,dQ⟩⟩
theorem Tj.enter{v:Nat}(h:Tj d tg G o l c e path dE comps lv gh)(hv:G v)(gQ:o v=0)
  {path':List (Nat × Nat)} (hp:(path=[]/\path'=[])\/∃p k rest,path=(p,k)::rest/\k<d/\tg p k=(v:Int)/\path'=(p,k+1)::rest):
  Tj d tg G (nB o v ((gh+1:Nat):Int)) (nB l v ((gh+1:Nat):Int)) c e ((v,0)::path') (v::dE) comps lv (gh+1):=by
 have ho:∀u,u≠v->nB o v ((gh+1:Nat):Int) u=o u:=λ u hu=>db hu
 have hc:c v<0:=by
  by_cases h1:0<=c v
  ·have:=h.co v h1;omega
  ·omega
 have bm:∀{u},0<o u->u≠v:=λ h1 e1=>by subst e1;omega
 have m1:∀{P:Nat->Prop},(∀p∈path,P p.1)->∀p∈path',P p.1:=λ hP p gR=>by
  rcases hp with ⟨_,rfl⟩|⟨q,k,rest,rfl,_,_,rfl⟩
  ·cases gR
  ·rcases List.mem_cons.1 gR with rfl|gR
   ·exact hP (q,k) (List.mem_cons_self ..)
   ·exact hP _ (List.mem_cons_of_mem _ gR)
 have m2:∀{P:Nat->Prop},(∀p∈path',P p.1)->∀p∈path,P p.1:=λ hP p gR=>by
  rcases hp with ⟨rfl,_⟩|⟨q,k,rest,rfl,_,_,rfl⟩
  ·cases gR
  ·rcases List.mem_cons.1 gR with rfl|gR
   ·exact hP (q,k+1) (List.mem_cons_self ..)
   ·exact hP _ (List.mem_cons_of_mem _ gR)
 have mp:∀p∈path',0<o p.1/\c p.1<0:=m1 (P:=λ x=>0<o x/\c x<0) λ p gR=>(h.rh p gR).1;have oM:nB o v ((gh+1:Nat):Int) v=((gh+1:Nat):Int):=dQ;have pos:∀{u},0<nB o v ((gh+1:Nat):Int) u->u≠v->0<o u:=λ h1 h2=>by rwa [ho _ h2]at h1
 refine { h.toCl with o0:=λ u=>?_,od:=λ u h1=>?_,inj:=λ u w h1 h2=>?_,QV:=λ k h1 h2=>?_,co:=λ u h1=>?_,st:=λ u=>?_,Bc:=?_,rh:=λ p gR=>?_,pH:=?_,tree:=?_,bot:=λ u h1 h2=>?_,low:=λ u h1 h2=>?_,fin:=λ u h1 h2 h3=>?_,HL:=λ p gR u h1 h2 h3 h4=>?_,NK:=λ u j w h1 h2 h3 h4 h5=>?_,ext:=λ u h1 h2 h3=>?_,J1:=λ u h1=>?_ }
 ·by_cases e1:u=v
  ·subst e1;rw [oM];omega
  ·rw [ho u e1];have:=h.o0 u;omega
 ·by_cases e1:u=v
  ·subst e1;exact hv
  ·exact h.od u (pos h1 e1)
 ·have h3:=h.o0 u;have h4:=h.o0 w
  by_cases e1:u=v<;>by_cases e2:w=v
  ·rw [e1,e2]
  ·subst e1;rw [oM,ho w e2]at h2;omega
  ·subst e2;rw [oM,ho u e1]at h2;omega
  ·rw [ho u e1,ho w e2]at h2;exact h.inj u w (pos h1 e1) h2
 ·by_cases e1:k=gh+1
  ·exact⟨v,by rw [oM,e1]⟩
  ·obtain⟨u,hu⟩:=h.QV k h1 aa
   exact⟨u,by rw [ho u (bm aa)];exact hu⟩
 ·have:=h.co u h1;rw [ho u (bm this)];exact this
 ·constructor
  ·intro hu
   rcases List.mem_cons.1 hu with rfl|hu
   ·exact⟨by rw [oM];omega,hc⟩
   ·have:=(h.st u).1 hu
    exact⟨by rw [ho u (bm this.1)];exact this.1,this.2⟩
  ·intro hu
   by_cases e1:u=v
   ·rw [e1];exact List.mem_cons_self ..
   ·exact List.mem_cons_of_mem _ ((h.st u).2 ⟨pos hu.1 e1,hu.2⟩)
 ·refine List.pairwise_cons.2 ⟨λ u hu=>?_,h.Bc.imp_of_mem λ{a b} ha hb mh=>?_⟩
  ·have:=(h.st u).1 hu
   rw [ho u (bm this.1),oM];have:=h.o0 u;omega
  ·rw [ho a (bm ((h.st a).1 ha).1),ho b (bm ((h.st b).1 hb).1)];exact mh
 ·rcases List.mem_cons.1 gR with rfl|gR
  ·exact⟨⟨by show 0<nB o v _ v;rw [oM];omega,hc⟩,Nat.zero_le _⟩
  ·have h1:=mp p gR
   refine⟨⟨by rw [ho _ (bm h1.1)];exact h1.1,h1.2⟩,?_⟩;rcases hp with ⟨_,rfl⟩|⟨q,k,rest,rfl,hk,_,rfl⟩
   ·cases gR
   ·rcases List.mem_cons.1 gR with rfl|gR
    ·exact hk
    ·exact(h.rh p (List.mem_cons_of_mem _ gR)).2
 ·refine List.pairwise_cons.2 ⟨λ p gR=>?_,?_⟩
  ·have h1:=mp p gR
   show nB o v _ p.1<nB o v _ v;rw [ho _ (bm h1.1),oM];have:=h.o0 p.1;omega
  ·have h1:path'.Pairwise (λ p q=>o q.1<o p.1):=by
    rcases hp with ⟨_,rfl⟩|⟨q,k,rest,rfl,hk,_,rfl⟩
    ·exact List.Pairwise.nil
    ·have:=List.pairwise_cons.1 h.pH
     exact List.pairwise_cons.2 ⟨λ q hq=>this.1 q hq,this.2⟩
   exact h1.imp_of_mem λ{a b} ha hb mh=>by rw [ho _ (bm (mp a ha).1),ho _ (bm (mp b hb).1)];exact mh
 ·rcases hp with ⟨_,rfl⟩|⟨q,k,rest,rfl,hk,ht,rfl⟩
  ·trivial
  ·refine⟨⟨aa,ht⟩,?_⟩
   have:=h.tree;cases rest with
   |nil=>trivial
   |cons q r=>exact this
 ·by_cases e1:u=v
  ·exact⟨_,List.mem_cons_self ..,by subst e1;exact Int.le_refl _⟩
  ·obtain⟨p,gR,h3⟩:=h.bot u (pos h1 e1) h2
   have h6:∃p∈path',o p.1<=o u:=by
    rcases hp with ⟨rfl,_⟩|⟨q,k,rest,rfl,hk,ht,rfl⟩
    ·cases gR
    ·rcases List.mem_cons.1 gR with rfl|gR
     ·exact⟨_,List.mem_cons_self ..,h3⟩
     ·exact⟨_,List.mem_cons_of_mem _ gR,h3⟩
   obtain⟨p,gR,h3⟩:=h6;exact⟨p,List.mem_cons_of_mem _ gR,by rw [ho _ (bm (mp p gR).1),ho _ e1];exact h3⟩
 ·by_cases e1:u=v
  ·subst e1
   rw [oM,dQ];exact⟨Int.le_refl _,u,⟨by rw [oM];omega,hc⟩,oM,.refl u⟩
  ·obtain⟨h3,u2,h4,h5,h6⟩:=h.low u (pos h1 e1) h2
   rw [ho _ e1,db e1];exact⟨h3,u2,⟨by rw [ho _ (bm h4.1)];exact h4.1,h4.2⟩,by rw [ho _ (bm h4.1)];exact h5,h6⟩
 ·have e1:u≠v:=λ e1=>h3 _ (List.mem_cons_self ..) e1.symm
  rw [ho _ e1,db e1];exact h.fin u (pos h1 e1) h2 (m2 (P:=λ x=>x≠u) λ p gR=>h3 p (List.mem_cons_of_mem _ gR))
 ·rcases List.mem_cons.1 gR with rfl|gR
  ·have h3:nB o v _ v<=nB o v _ u:=h3
   rw [oM]at h3
   by_cases e1:u=v
   ·subst e1;exact⟨.refl _,Int.le_refl _⟩
   ·rw [ho u e1]at h3;have:=h.o0 u;omega
  ·have h6:=mp p gR
   have h7:=ho _ (bm h6.1)
   by_cases e1:u=v
   ·subst e1
    have h8:=h4 _ (List.mem_cons_self ..) (Int.le_refl _);have h8:nB o u _ u<=nB o u _ p.1:=h8;rw [h7,oM]at h8;have:=h.o0 p.1;omega
   ·rw [h7,ho u e1]at h3
    rw [db (bm h6.1),db e1]
    have h9:∃q∈path,q.1=p.1:=by
     rcases hp with ⟨_,rfl⟩|⟨q,k,rest,rfl,hk,ht,rfl⟩
     ·cases gR
     ·rcases List.mem_cons.1 gR with rfl|gR
      ·exact⟨_,List.mem_cons_self ..,rfl⟩
      ·exact⟨_,List.mem_cons_of_mem _ gR,rfl⟩
    obtain⟨q,hq,h9⟩:=h9;rw [<-h9];refine h.HL q hq u (pos h1 e1) h2 (by rw [h9];exact h3) ?_;rw [h9];refine m2 (P:=λ x=>o x<=o u->o x<=o p.1) λ r hr cu=>?_;have lB:=h4 r (List.mem_cons_of_mem _ hr);rw [ho _ (bm (mp r hr).1),ho u e1,h7]at lB;exact lB cu
 ·have e1:u≠v:=λ e1=>by
   subst e1;have:=h3.1 rfl;exact absurd this (Nat.not_lt_zero _)
  have h6:Dn path u j:=by
   have h7:=h3.2;rcases hp with ⟨rfl,_⟩|⟨q,k,rest,rfl,hk,ht,rfl⟩
   ·trivial
   ·exact⟨λ e2=>by have h8:=h7 _ (List.mem_cons_self ..) e2;have h8:j+1<k+1:=h8;show j<k;omega,λ r hr=>h7 r (List.mem_cons_of_mem _ hr)⟩
  obtain⟨h7,h8⟩:=h.NK u j w (pos h1 e1) h2 h6 h4 h5;have e2:=bm h7;rw [ho w e2,ho u e1,db e1];refine⟨h7,h8.imp id λ h8=>⟨h8.1,h8.2.1,λ q hq=>?_⟩⟩;rcases List.mem_cons.1 hq with rfl|hq
  ·right
   show o w<nB o v _ v;rw [oM];have:=h.o0 w;omega
  ·rw [ho _ (bm (mp q hq).1)]
   exact m1 (P:=λ x=>o x<=o u\/o w<o x) h8.2.2 q hq
 ·by_cases e1:u=v
  ·subst e1;rw [h.J1 u gQ]at h3;cases h3
  ·exact h.ext u (pos h1 e1) h2 h3
 ·by_cases e1:u=v
  ·subst e1;rw [oM]at h1;omega
  ·rw [ho u e1]at h1;exact h.J1 u h1
theorem Dn.cons{v k:Nat}{rest:List (Nat × Nat)}{u j:Nat}(hvr:∀p∈rest,p.1≠v)(h:Dn rest u j)(hj:u=v->j<k):
  Dn ((v,k)::rest) u j\/∃p r,rest=p::r/\p.1=u/\j+1=p.2:=by
 by_cases hv:u=v
 ·exact .inl ⟨λ _=>hj hv,λ q hq e1=>absurd (e1.trans hv) (hvr q hq)⟩
 cases rest with
 |nil=>exact .inl ⟨λ e1=>absurd e1.symm hv,λ q hq=>absurd hq List.not_mem_nil⟩
 |cons p r=>
  by_cases e1:p.1=u/\j+1=p.2
  ·exact .inr ⟨p,r,rfl,e1⟩
  ·refine .inl ⟨λ e2=>absurd e2.symm hv,λ q hq e2=>?_⟩
   rcases List.mem_cons.1 hq with rfl|hq
   ·have:=h.1 e2
    have:¬(j+1=q.2):=λ e3=>e1 ⟨e2,e3⟩;omega
   ·exact h.2 q hq e2
def Sd(e:Nat->Bool):List (Nat × Nat)->Nat->Bool
 |[],u=>e u
 |p::_,u=>nB e p.1 true u
def th(o c:Nat->Int)(v:Nat)(u:Nat):Prop:=(0<o u/\c u<0)/\o v<=o u
theorem Tj.close{v k:Nat}(h:Tj d tg G o l c e ((v,k)::rest) dE comps lv gh)(hk:d<=k)(hl:l v=o v)
  {stk' members:List Nat} {b:Bool} {c':Nat->Int}
  (hm:∀u,u∈members↔th o c v u) (hs:∀u,u∈stk'↔(u∈dE/\¬th o c v u)) (HM:stk'.Pairwise (λ a b=>o b<o a))
  (hb:b=true↔∃u∈members,e u=true)
  (Yh:members.Nodup) (sw:∀u,th o c v u->c' u=(comps.length:Int)) (mF:∀u,¬th o c v u->c' u=c u):
  Tj d tg G o l c' (Sd e rest) rest stk' (comps++[members]) (lv++[b]) gh:=by
 have xj:=h.top;have hv:=h.rh _ (List.mem_cons_self ..);have NL:0<o v/\c v<0:=hv.1;have tk:th o c v v:=⟨NL,Int.le_refl _⟩;have uA:∀p∈rest,o p.1<o v:=λ p hp=>List.rel_of_pairwise_cons h.pH hp;have Yi:∀p∈rest,p.1≠v:=λ p hp e1=>by have:=uA p hp;rw [e1]at this;omega
 have hrs:∀p∈rest,¬th o c v p.1:=λ p hp h1=>by have:=uA p hp;have:=h1.2;omega
 have to:∀u,th o c v u->Rc d tg v u/\l v<=l u:=λ u hu=>h.HL _ (List.mem_cons_self ..) u hu.1.1 hu.1.2 hu.2 λ q hq _=>xj q hq
 have fro:∀(n:Nat) (u:Nat),th o c v u->o u<=o v+(n:Int)->Rc d tg u v:=by
  intro n
  induction n with
  |zero=>
   intro u hu hle;have:u=v:=h.inj u v hu.1.1 (by have:=hu.2;omega);rw [this];exact .refl v
  |succ n ih=>
   intro u hu hle
   by_cases e1:u=v
   ·rw [e1];exact .refl v
   ·have h1:=h.fin u hu.1.1 hu.1.2 λ p hp e2=>by
     have h2:=xj p hp;rw [e2]at h2;exact e1 (h.inj u v hu.1.1 (by have:=hu.2;omega))
    obtain⟨h2,u2,h3,h4,h5⟩:=h.low u hu.1.1 hu.1.2;have h6:=(to u hu).2;exact h5.trans (ih u2 ⟨h3,aa⟩ aa)
 have fro:∀u,th o c v u->Rc d tg u v:=λ u hu=>fro (o u - o v).toNat u hu aa;have dn:∀u j,th o c v u->j<d->Dn ((v,k)::rest) u j:=λ u j hu hj=>⟨λ _=>Nat.lt_of_lt_of_le hj hk,λ q hq e1=>by subst e1;exact absurd hu (hrs q hq)⟩
 have edgs:∀u j (w:Nat),th o c v u->j<d->tg u j=(w:Int)->(0<=c w/\e u=true)\/th o c v w:=λ u j w hu hj ht=>by
  obtain⟨h1,h2⟩:=h.NK u j w hu.1.1 hu.1.2 (dn u j hu hj) hj ht;refine h2.imp id λ h2=>⟨⟨h1,h2.1⟩,?_⟩;have:=(to u hu).2;have:=h2.2.1;omega
 have cs:∀u,0<=c u->¬th o c v u:=λ u h1 h2=>by have:=h2.1.2;omega
 have ct:∀u,0<=c' u->th o c v u\/(0<=c u/\c' u=c u):=λ u h1=>by
  by_cases h2:th o c v u
  ·exact .inl h2
  ·exact .inr ⟨by rw [mF u h2]at h1;exact h1,mF u h2⟩
 have cneg:∀u,c' u<0->c u<0/\¬th o c v u:=λ u h1=>by
  by_cases h2:th o c v u
  ·rw [sw u h2]at h1;omega
  ·exact⟨by rw [mF u h2]at h1;exact h1,h2⟩
 have lt:∀u,0<o u->c u<0->¬th o c v u->o u<o v:=λ u h1 h2 h3=>by
  by_cases h4:o v<=o u
  ·exact absurd ⟨⟨h1,h2⟩,h4⟩ h3
  ·omega
 have gl:∀i,i<comps.length->(comps++[members]).getD i []=comps.getD i []:=λ i hi=>by simp [List.getD,List.getElem?_append_left hi]
 have gn:(comps++[members]).getD comps.length []=members:=by simp [List.getD]
 have ll:∀i,i<comps.length->(lv++[b]).getD i false=lv.getD i false:=λ i hi=>by simp [List.getD,List.getElem?_append_left (show i<lv.length by rw [h.lvl];exact hi)]
 have ln:(lv++[b]).getD comps.length false=b:=by rw [<-h.lvl];simp [List.getD]
 have lc:(comps++[members]).length=comps.length+1:=by simp
 have da:Cl d tg G c' (comps++[members]) (lv++[b]):=by
  refine⟨λ u h1=>?_,by simp [h.lvl],λ i u hi=>?_,λ i hi=>?_,λ i hi=>?_,λ u j w h1 h2 h3=>?_,λ u w h1 h2=>?_,λ i hi=>?_⟩
  ·rw [lc]
   rcases ct u h1 with h2|h2
   ·exact⟨h.od u h2.1.1,by rw [sw u h2];omega⟩
   ·have:=h.ga u h2.1
    exact⟨this.1,by rw [h2.2];omega⟩
  ·rw [lc]at hi
   by_cases xR:i<comps.length
   ·rw [gl i xR,h.mem i u xR]
    constructor
    ·intro h1;rw [mF u (cs u aa)];exact h1
    ·intro h1
     rcases ct u aa with h2|h2
     ·rw [sw u h2]at h1;omega
     ·rw [<-h2.2];exact h1
   ·obtain rfl:i=comps.length:=aa
    rw [gn,hm]
    constructor
    ·exact sw u
    ·intro h1
     rcases ct u aa with h2|h2
     ·exact h2
     ·have:=h.ga u h2.1
      omega
  ·rw [lc]at hi
   by_cases xR:i<comps.length
   ·rw [gl i xR];exact h.ne i xR
   ·obtain rfl:i=comps.length:=aa
    rw [gn];intro h1;have:=(hm v).2 tk;rw [h1]at this;cases this
  ·rw [lc]at hi
   by_cases xR:i<comps.length
   ·rw [gl i xR];exact h.nd i xR
   ·obtain rfl:i=comps.length:=aa
    rw [gn];exact Yh
  ·rcases ct u h1 with h4|h4
   ·rw [sw u h4]
    rcases edgs u j w h4 h2 h3 with h5|h5
    ·rw [mF w (cs w h5.1)]
     have:=h.ga w h5.1;omega
    ·rw [sw w h5];omega
   ·have h5:=h.J0 u j w h4.1 h2 h3
    rw [mF w (cs w h5.1),h4.2];exact h5
  ·rcases ct u h1 with h3|h3<;>rcases ct w aa with h4|h4
   ·exact(fro u h3).trans (to w h4).1
   ·have:=h.ga w h4.1
    rw [sw u h3]at h2;omega
   ·have:=h.ga u h3.1
    rw [sw w h4]at h2;omega
   ·exact h.Ot u w h3.1 aa
  ·rw [lc]at hi
   by_cases xR:i<comps.length
   ·rw [ll i xR,h.Xl i xR]
    constructor
    ·rintro⟨u,j,w,h1,h2,h3,h4⟩
     have h5:=h.J0 u j w aa h2 h3;refine⟨u,j,w,?_,h2,h3,?_⟩
     ·rw [mF u (cs u aa)];exact h1
     ·rw [mF u (cs u aa),mF w (cs w h5.1)];exact h4
    ·rintro⟨u,j,w,h1,h2,h3,h4⟩
     rcases ct u aa with h6|h6
     ·rw [sw u h6]at h1;omega
     ·have h5:=h.J0 u j w h6.1 h2 h3
      rw [h6.2,mF w (cs w h5.1)]at h4;exact⟨u,j,w,aa,h2,h3,h4⟩
   ·obtain rfl:i=comps.length:=aa
    rw [ln,hb]
    constructor
    ·rintro⟨u,h1,h2⟩
     have h3:=(hm u).1 h1;obtain⟨j,w,h4,h5,h6⟩:=h.ext u h3.1.1 h3.1.2 h2;refine⟨u,j,w,sw u h3,h4,h5,?_⟩;have:=h.ga w h6;rw [mF w (cs w h6),sw u h3];omega
    ·rintro⟨u,j,w,h1,h2,h3,h4⟩
     have h5:th o c v u:=by
      rcases ct u aa with h6|h6
      ·exact h6
      ·have:=h.ga u h6.1;omega
     rcases edgs u j w h5 h2 h3 with h6|h6
     ·exact⟨u,(hm u).2 h5,h6.2⟩
     ·rw [sw u h5,sw w h6]at h4;exact absurd rfl h4
 refine { da with o0:=h.o0,od:=h.od,inj:=h.inj,QV:=h.QV,co:=λ u h1=>?_,st:=λ u=>?_,Bc:=HM,rh:=λ p hp=>?_,pH:=(List.pairwise_cons.1 h.pH).2,tree:=?_,bot:=λ u h1 h2=>?_,low:=λ u h1 h2=>?_,fin:=λ u h1 h2 h3=>?_,HL:=λ p hp u h1 h2 h3 h4=>?_,NK:=λ u j w h1 h2 h3 h4 h5=>?_,ext:=λ u h1 h2 h3=>?_,J1:=λ u h1=>?_ }
 ·rcases ct u h1 with h2|h2
  ·exact h2.1.1
  ·exact h.co u h2.1
 ·rw [hs u,h.st u]
  constructor
  ·rintro⟨h1,h2⟩;exact⟨h1.1,by rw [mF u h2];exact h1.2⟩
  ·rintro⟨h1,h2⟩;have:=cneg u h2;exact⟨⟨h1,this.1⟩,this.2⟩
 ·have h1:=h.rh p (List.mem_cons_of_mem _ hp)
  exact⟨⟨h1.1.1,by rw [mF _ (hrs p hp)];exact h1.1.2⟩,h1.2⟩
 ·have:=h.tree
  cases rest with
  |nil=>trivial
  |cons q r=>exact this.2
 ·have h3:=cneg u h2
  have h4:=lt u h1 h3.1 h3.2;obtain⟨p,hp,h5⟩:=h.bot u h1 h3.1;rcases List.mem_cons.1 hp with rfl|hp
  ·have h5:o v<=o u:=h5;omega
  ·exact⟨p,hp,h5⟩
 ·have h3:=cneg u h2
  have h4:=lt u h1 h3.1 h3.2;obtain⟨h5,u2,h6,h7,h8⟩:=h.low u h1 h3.1;refine⟨h5,u2,⟨h6.1,?_⟩,h7,h8⟩;rw [mF u2 λ h9=>by have:=h9.2;omega];exact h6.2
 ·have h4:=cneg u h2
  refine h.fin u h1 h4.1 λ p hp e1=>?_;rcases List.mem_cons.1 hp with rfl|hp
  ·have e1:v=u:=e1
   subst e1;exact h4.2 tk
  ·exact h3 p hp e1
 ·have h5:=cneg u h2
  have h6:=lt u h1 h5.1 h5.2;refine h.HL p (List.mem_cons_of_mem _ hp) u h1 h5.1 h3 λ q hq h7=>?_;rcases List.mem_cons.1 hq with rfl|hq
  ·have h7:o v<=o u:=h7;omega
  ·exact h4 q hq h7
 ·have h6:=cneg u h2
  have h7:=lt u h1 h6.1 h6.2
  have hex:e u=true->Sd e rest u=true:=λ h8=>by
   cases rest with
   |nil=>exact h8
   |cons p r=>show nB e p.1 true u=true;unfold nB;split<;>first|rfl|exact h8
  rcases Dn.cons Yi h3 (k:=k) (λ e1=>by subst e1;omega)with h8|⟨p,r,rfl,rfl,h9⟩
  ·obtain⟨h9,cu⟩:=h.NK u j w h1 h6.1 h8 h4 h5
   refine⟨h9,?_⟩;rcases cu with cu|cu
   ·exact .inl ⟨by rw [mF w (cs w cu.1)];exact cu.1,hex cu.2⟩
   ·have lB:¬th o c v w:=λ ou=>by
     have ox:o v<=o u\/o w<o v:=cu.2.2 _ (List.mem_cons_self ..);have:=ou.2;omega
    exact .inr ⟨by rw [mF w lB];exact cu.1,cu.2.1,λ q hq=>cu.2.2 q (List.mem_cons_of_mem _ hq)⟩
  ·have cu:1<=p.2/\tg p.1 (p.2 - 1)=(v:Int):=h.tree.1
   rw [<-h9,Nat.add_sub_cancel,h5]at cu;have e1:w=v:=aa;subst e1;exact⟨NL.1,.inl ⟨by rw [sw w tk];omega,dQ⟩⟩
 ·have h4:=cneg u h2
  have main:e u=true->∃k w:Nat,k<d/\tg u k=(w:Int)/\0<=c' w:=λ h5=>by
   obtain⟨j,w,h6,h7,h8⟩:=h.ext u h1 h4.1 h5;exact⟨j,w,h6,h7,by rw [mF w (cs w h8)];exact h8⟩
  cases rest with
  |nil=>exact main h3
  |cons p r=>
   by_cases e1:u=p.1
   ·have cu:1<=p.2/\tg p.1 (p.2 - 1)=(v:Int):=h.tree.1
    have lB:=(h.rh p (List.mem_cons_of_mem _ (List.mem_cons_self ..))).2;exact⟨p.2 - 1,v,aa,by rw [e1];exact cu.2,by rw [sw v tk];omega⟩
   ·have h3:nB e p.1 true u=true:=h3
    rw [db e1]at h3;exact main h3
 ·cases rest with
  |nil=>exact h.J1 u h1
  |cons p r=>
   have h2:=h.rh p (List.mem_cons_of_mem _ (List.mem_cons_self ..));have e1:u≠p.1:=λ e1=>by rw [e1]at h1;omega
   show nB e p.1 true u=false;rw [db e1];exact h.J1 u h1
theorem Tj.Se{v k:Nat}(h:Tj d tg G o l c e ((v,k)::rest) dE comps lv gh)(hk:d<=k)(hl:l v≠o v):
  ∃p j r,rest=(p,j)::r/\p≠v/\Tj d tg G o (nB l p (min (l p) (l v))) c e rest dE comps lv gh:=by
 have xj:=h.top;have hv:=h.rh _ (List.mem_cons_self ..);have NL:0<o v/\c v<0:=hv.1;have uA:∀p∈rest,o p.1<o v:=λ p hp=>List.rel_of_pairwise_cons h.pH hp;have Yi:∀p∈rest,p.1≠v:=λ p hp e1=>by have:=uA p hp;rw [e1]at this;omega
 obtain⟨JB,u0,Yj,hu1,Ou⟩:=h.low v NL.1 NL.2;obtain⟨q0,Sg,Od⟩:=h.bot u0 Yj.1 Yj.2
 have NH:q0∈rest:=by
  rcases List.mem_cons.1 Sg with rfl|Sg
  ·have Od:o v<=o u0:=Od;omega
  ·exact Sg
 cases rest with
 |nil=>cases NH
 |cons pj r=>
  obtain⟨p,j⟩:=pj;have Vn:1<=j/\tg p (j - 1)=(v:Int):=h.tree.1;have hpp:(0<o p/\c p<0)/\j<=d:=h.rh (p,j) (List.mem_cons_of_mem _ (List.mem_cons_self ..));have hpv:o p<o v:=uA (p,j) (List.mem_cons_self ..);have bm:p≠v:=λ e1=>by rw [e1]at hpv;omega
  have rpv:Rc d tg p v:=(Rc.refl p).step (k:=j - 1) aa Vn.2;have J2:=(List.pairwise_cons.1 h.pH).2
  have ot:∀u,nB l p (min (l p) (l v)) u<=l u:=λ u=>by
   by_cases e1:u=p
   ·rw [e1,dQ];omega
   ·rw [db e1];exact Int.le_refl _
  refine⟨p,j,r,rfl,bm,{ h.toCl with o0:=h.o0,od:=h.od,inj:=h.inj,QV:=h.QV,co:=h.co,st:=h.st,Bc:=h.Bc,rh:=λ q hq=>h.rh q (List.mem_cons_of_mem _ hq),pH:=J2,tree:=h.tree.2,bot:=λ u h1 h2=>?_,low:=λ u h1 h2=>?_,fin:=λ u h1 h2 h3=>?_,HL:=λ q hq u h1 h2 h3 h4=>?_,NK:=λ u i w h1 h2 h3 h4 h5=>?_,ext:=h.ext,J1:=h.J1 }⟩
  ·obtain⟨q,hq,h3⟩:=h.bot u h1 h2
   rcases List.mem_cons.1 hq with rfl|hq
   ·have h3:o v<=o u:=h3
    exact⟨_,List.mem_cons_self ..,by show o p<=o u;omega⟩
   ·exact⟨q,hq,h3⟩
  ·have h3:=h.low u h1 h2
   by_cases e1:u=p
   ·subst e1
    rw [dQ];refine⟨aa,?_⟩
    by_cases e2:l u<=l v
    ·rw [Int.min_eq_left e2];exact h3.2
    ·rw [Int.min_eq_right aa];exact⟨u0,Yj,hu1,rpv.trans Ou⟩
   ·rw [db e1];exact h3
  ·have e1:u≠p:=λ e1=>h3 _ (List.mem_cons_self ..) e1.symm
   rw [db e1]
   by_cases e2:u=v
   ·subst e2;omega
   ·refine h.fin u h1 h2 λ q hq e3=>?_
    rcases List.mem_cons.1 hq with rfl|hq
    ·exact e2 e3.symm
    ·exact h3 q hq e3
  ·rcases List.mem_cons.1 hq with rfl|hq
   ·have h3:o p<=o u:=h3
    show Rc d tg p u/\nB l p (min (l p) (l v)) p<=nB l p (min (l p) (l v)) u;rw [dQ]
    by_cases e1:o v<=o u
    ·have h5:=h.HL _ (List.mem_cons_self ..) u h1 h2 e1 λ q hq _=>xj q hq
     have h6:l v<=l u:=h5.2;have e2:u≠p:=λ e2=>by rw [e2]at e1;omega
     rw [db e2];exact⟨rpv.trans h5.1,aa⟩
    ·have h5:=h.HL (p,j) (List.mem_cons_of_mem _ (List.mem_cons_self ..)) u h1 h2 h3 λ q hq h6=>by
      rcases List.mem_cons.1 hq with rfl|hq
      ·exact absurd h6 e1
      ·exact h4 q hq h6
     have h6:l p<=l u:=h5.2;refine⟨h5.1,?_⟩
     by_cases e2:u=p
     ·rw [e2,dQ];exact Int.le_refl _
     ·rw [db e2];omega
   ·have h6:o q.1<o p:=List.rel_of_pairwise_cons J2 hq
    have h7:o u<o p:=by
     by_cases h8:o p<=o u
     ·have h9:o p<=o q.1:=h4 _ (List.mem_cons_self ..) h8
      omega
     ·omega
    rw [db (λ e1=>by rw [e1]at h6;omega),db (λ e1=>by rw [e1]at h7;omega)];refine h.HL q (List.mem_cons_of_mem _ (List.mem_cons_of_mem _ hq)) u h1 h2 h3 λ q' zk h8=>?_;rcases List.mem_cons.1 zk with rfl|zk
    ·have h8:o v<=o u:=h8;omega
    ·exact h4 q' zk h8
  ·rcases Dn.cons Yi h3 (k:=k) (λ e1=>by omega)with h8|⟨p',r',h6,rfl,h9⟩
   ·obtain⟨h9,cu⟩:=h.NK u i w h1 h2 h8 h4 h5
    exact⟨h9,cu.imp id λ cu=>⟨cu.1,Int.le_trans (ot u) cu.2.1,λ q hq=>cu.2.2 q (List.mem_cons_of_mem _ hq)⟩⟩
   ·cases h6
    have Vo:=Vn.2;have h9:i+1=j:=h9;rw [<-h9,Nat.add_sub_cancel]at Vo;have h5:tg p i=(w:Int):=h5;have e1:w=v:=by rw [h5]at Vo;omega
    subst e1;refine⟨NL.1,.inr ⟨NL.2,?_,λ q hq=>.inl ?_⟩⟩
    ·show nB l p _ p<=o w
     rw [dQ];omega
    ·rcases List.mem_cons.1 hq with rfl|hq
     ·exact Int.le_refl _
     ·exact Int.le_of_lt (List.rel_of_pairwise_cons J2 hq)
theorem Tj.Vp{o l c:Nat->Int}(h:Tj d tg G o l c e [] dE comps lv gh):dE=[]/\∀v,0<o v->0<=c v:=by
 have h1:∀v,0<o v->0<=c v:=λ v h1=>by
  by_cases h2:0<=c v
  ·exact h2
  ·obtain⟨p,hp,_⟩:=h.bot v h1 aa
   cases hp
 refine⟨?_,h1⟩;cases dE with
 |nil=>rfl
 |cons a m=>
  have h2:=(h.st a).1 (List.mem_cons_self ..);have:=h1 a h2.1;omega
end
end Go.Proofs.YtgailjhnfghkgaaGreatDoor
end
section
namespace Go.Proofs.YtgailjhnfghkgaaGreatDoor
open Go Go.AM
def QW(n a b:Nat):Int:=if a=b then -1 else ((min a b*n+max a b:Nat):Int)
def gN(t:List (List Int))(z x k:Nat):Nat:=if k % 2=0 then en t z x else en t x z
def oN(t:List (List Int))(g:List Int)(v k:Nat):Int:=QW t.length (gN t (g.getD (k / 2) 0).toNat (v / t.length) k) (gN t (g.getD (k / 2) 0).toNat (v % t.length) k)
def Gp(n:Nat)(v:Nat):Prop:=v<n*n/\v / n<v % n
theorem uB{n x y:Nat}(h:x<y)(hy:y<n):Gp n (x*n+y)/\(x*n+y) / n=x/\(x*n+y) % n=y:=by
 have h1:(x*n+y) / n=x:=by rw [Nat.mul_comm,Nat.mul_add_div aa,Nat.div_eq_of_lt hy];omega
 have h2:(x*n+y) % n=y:=by rw [Nat.mul_comm,Nat.mul_add_mod,Nat.mod_eq_of_lt hy]
 have h3:x*n+n<=n*n:=by
  have:(x+1)*n<=n*n:=Nat.mul_le_mul_right n aa;rw [Nat.succ_mul]at this;exact this
 exact⟨⟨aa,by rw [h1,h2];exact h⟩,h1,h2⟩
theorem iU{n v:Nat}(h:Gp n v):v / n<n/\v % n<n/\0<n:=by
 have hn:0<n:=by
  rcases Nat.eq_zero_or_pos n with h0|h0
  ·subst h0;have:=h.1;omega
  ·exact h0
 have h2:=Nat.mod_lt v hn;have:=h.2;exact⟨aa,h2,hn⟩
section
variable{t:List (List Int)}{g:List Int}{v k:Nat}
theorem QX(hs:Sh t)(hg:∀x∈g,0<=x/\x<(t.length:Int))(hv:Gp t.length v)(hk:k<2*g.length){w:Nat}(h:oN t g v k=(w:Int)):Gp t.length w:=by
 have hz:(g.getD (k / 2) 0).toNat<t.length:=by have:=hg _ (an (d:=0) (i:=k / 2) (l:=g) aa);omega
 obtain⟨h1,h2,h3⟩:=iU hv;have ha:gN t (g.getD (k / 2) 0).toNat (v / t.length) k<t.length:=by unfold gN;split;exact(hs.bA hz h1).2;exact(hs.bA h1 hz).2
 have hb:gN t (g.getD (k / 2) 0).toNat (v % t.length) k<t.length:=by unfold gN;split;exact(hs.bA hz h2).2;exact(hs.bA h2 hz).2
 unfold oN QW at h;split at h
 ·omega
 ·rename_i bm
  have e:w=min (gN t (g.getD (k / 2) 0).toNat (v / t.length) k) (gN t (g.getD (k / 2) 0).toNat (v % t.length) k)*t.length+max (gN t (g.getD (k / 2) 0).toNat (v / t.length) k) (gN t (g.getD (k / 2) 0).toNat (v % t.length) k):=aa;rw [e];exact(uB aa aa).1
end
def l8(L:List Int)(v:Nat):Int:=L.getD v 0
def gC(L:List Int)(v:Nat):Int:=L.getD v (-1)
def gB(L:List Bool)(v:Nat):Bool:=L.getD v false
theorem jO{L:List Int}{v:Nat}{x:Int}(h:v<L.length):l8 (L.set v x)=nB (l8 L) v x:=funext λ u=>by
 unfold l8 nB;split
 ·rename_i e;subst e;exact aA h
 ·rename_i e;exact getD_set_ne (Ne.symm e)
theorem Si{L:List Int}{v:Nat}{x:Int}(h:v<L.length):gC (L.set v x)=nB (gC L) v x:=funext λ u=>by
 unfold gC nB;split
 ·rename_i e;subst e;exact aA h
 ·rename_i e;exact getD_set_ne (Ne.symm e)
theorem J3{L:List Bool}{v:Nat}{x:Bool}(h:v<L.length):gB (L.set v x)=nB (gB L) v x:=funext λ u=>by
 unfold gB nB;split
 ·rename_i e;subst e;exact aA h
 ·rename_i e;exact getD_set_ne (Ne.symm e)
theorem xS{L:List Int}{v:Nat}(h:v<L.length):L.getD v 0=gC L v:=by unfold gC;rw [getD_eq h,getD_eq h]
def aN(P:List (Nat × Nat)):List (Int × Int):=(P.map λ p=>((p.1:Int),(p.2:Int))).reverse
def pB(K:List Nat):List Int:=K.map λ x:Nat=>(x:Int)
def gS(K:List Nat):List Int:=(pB K).reverse
def n5(C:List (List Nat)):List (List Int):=C.map pB
theorem fF(P:List (Nat × Nat)):(aN P).length=P.length:=by simp [aN]
theorem pI(K:List Nat):(gS K).length=K.length:=by simp [gS,pB]
theorem zl(K:List Nat):(pB K).length=K.length:=by simp [pB]
theorem uC(C:List (List Nat)):(n5 C).length=C.length:=by simp [n5]
theorem mG(p:Nat × Nat)(P:List (Nat × Nat)):aN P++[((p.1:Int),(p.2:Int))]=aN (p::P):=by simp [aN]
theorem J4(v:Nat)(K:List Nat):gS K++[(v:Int)]=gS (v::K):=by simp [gS,pB]
theorem Ov(C:List (List Nat))(m:List Nat):n5 C++[pB m]=n5 (C++[m]):=by simp [n5]
theorem tM{K:List Nat}{i:Nat}(h:i<K.length):(pB K).getD i 0=((K.getD i 0:Nat):Int):=by simp [pB,List.getD,h]
theorem uD(p:Nat × Nat)(P:List (Nat × Nat)):(aN (p::P)).getD P.length (0,0)=((p.1:Int),(p.2:Int)):=by
 rw [<-mG];simp [List.getD,<-fF P]
theorem Ow(p q:Nat × Nat)(P:List (Nat × Nat)):(aN (p::P)).set P.length ((q.1:Int),(q.2:Int))=aN (q::P):=by
 rw [<-mG,<-mG,<-fF P,List.set_append_right _ _ (Nat.le_refl _)];simp
theorem Ox(p:Nat × Nat)(P:List (Nat × Nat)):(aN (p::P)).take P.length=aN P:=by
 rw [<-mG,<-fF P];simp
theorem rp(A:List Nat)(v:Nat)(B:List Nat):gS (A++v::B)=gS B++pB (v::A.reverse):=by simp [gS,pB]
theorem Sm(A:List Nat)(v:Nat)(B:List Nat){j:Nat}(hj:j<=A.length):(gS (A++v::B)).getD (B.length+j) 0=(((v::A.reverse).getD j 0:Nat):Int):=by
 rw [rp,<-pI B];simp only [List.getD];rw [List.getElem?_append_right aa,Nat.add_sub_cancel_left];have:=tM (K:=v::A.reverse) (i:=j) (by simp;omega)
 simpa only [List.getD]using this
theorem J5(A:List Nat)(v:Nat)(B:List Nat):(gS (A++v::B)).drop B.length=pB (v::A.reverse):=by
 rw [rp,<-pI B];simp
theorem J6(A:List Nat)(v:Nat)(B:List Nat):(gS (A++v::B)).take B.length=gS B:=by
 rw [rp,<-pI B];simp
theorem Bp{α:Type}{f:α->Int}{m:Nat}:∀{L:List α},L.Pairwise (λ a b=>f b<f a)->(∀a∈L,0<f a/\f a<=(m:Int))->L.length<=m:=by
 intro L
 induction L generalizing m with
 |nil=>intro _ _;exact Nat.zero_le _
 |cons a L ih=>
  intro hp hr;have h1:=List.pairwise_cons.1 hp;have h2:=hr a (List.mem_cons_self ..)
  have h3:=ih (m:=(f a).toNat - 1) h1.2 λ b hb=>by
   have:=h1.1 b hb;have:=hr b (List.mem_cons_of_mem _ hb);omega
  simp only [List.length_cons];omega
def cT(c:List Int)(i:Nat)(ms:List Nat):List Int:=ms.foldl (λ c u=>c.set u (i:Int)) c
theorem uE(c:List Int)(i:Nat)(ms:List Nat):(cT c i ms).length=c.length:=by
 unfold cT
 induction ms generalizing c with
 |nil=>rfl
 |cons a ms ih=>rw [List.foldl_cons,ih,List.length_set]
theorem Bq(c:List Int)(i:Nat)(ms:List Nat)(u:Nat):cT c i (ms++[u])=(cT c i ms).set u (i:Int):=by unfold cT;rw [List.foldl_append];rfl
theorem oO{c:List Int}{i:Nat}{ms:List Nat}(hm:∀u∈ms,u<c.length)(u:Nat):gC (cT c i ms) u=if u∈ms then (i:Int) else gC c u:=by
 unfold cT
 induction ms generalizing c with
 |nil=>rfl
 |cons a ms ih=>
  rw [List.foldl_cons,ih λ u hu=>by rw [List.length_set];exact hm u (List.mem_cons_of_mem _ hu),Si (hm a (List.mem_cons_self ..))]
  by_cases h1:u∈ms
  ·rw [if_pos h1,if_pos (List.mem_cons_of_mem _ h1)]
  ·rw [if_neg h1]
   by_cases h2:u=a
   ·subst h2;rw [if_pos (List.mem_cons_self ..),dQ]
   ·rw [db h2,if_neg λ h3=>(List.mem_cons.1 h3).elim h2 h1]
def mn(e:List Bool)(ms:List Nat):Bool:=ms.foldl (λ b u=>b||gB e u) false
theorem HN(e:List Bool)(ms:List Nat)(u:Nat):mn e (ms++[u])=(mn e ms||gB e u):=by unfold mn;rw [List.foldl_append];rfl
theorem J7{e:List Bool}{ms:List Nat}:mn e ms=true↔∃u∈ms,gB e u=true:=by
 have:∀(ms:List Nat) (b:Bool),ms.foldl (λ b u=>b||gB e u) b=true↔b=true\/∃u∈ms,gB e u=true:=λ ms=>by
  induction ms with
  |nil=>intro b;simp
  |cons a ms ih=>
   intro b;rw [List.foldl_cons,ih,Bool.or_eq_true]
   constructor
   ·rintro ((h|h)|⟨u,h,h2⟩)
    ·exact .inl h
    ·exact .inr ⟨a,List.mem_cons_self ..,h⟩
    ·exact .inr ⟨u,List.mem_cons_of_mem _ h,h2⟩
   ·rintro (h|⟨u,h,h2⟩)
    ·exact .inl (.inl h)
    ·rcases List.mem_cons.1 h with rfl|h
     ·exact .inl (.inr h2)
     ·exact .inr ⟨u,h,h2⟩
 unfold mn;rw [this];simp
end Go.Proofs.YtgailjhnfghkgaaGreatDoor
end
section
namespace Go.Proofs.YtgailjhnfghkgaaGreatDoor
section
variable{N d:Nat}{tg:Nat->Nat->Int}{G:Nat->Prop}{o l c:Nat->Int}{e:Nat->Bool}{path:List (Nat × Nat)}{dE:List Nat}{comps:List (List Nat)}{lv:List Bool}{gh:Nat}
theorem l9{α:Type}{f:Nat->α}{n:Nat}(h:∀a b,a<b->b<n->f a≠f b):((List.range n).map f).Nodup:=by
 rw [List.nodup_iff_pairwise_ne,List.pairwise_map];refine List.Pairwise.imp_of_mem ?_ (List.pairwise_lt_range (n:=n));intro a b _ hb mh;exact h a b mh (List.mem_range.1 hb)
theorem Tj.D9(h:Tj d tg G o l c e path dE comps lv gh)(hG:∀v,G v->v<N):gh<=N/\∀v,G v->o v=0->gh<N:=by
 have hex:∀k:Nat,∃v,k<gh->o v=((k+1:Nat):Int):=λ k=>by
  by_cases hk:k<gh
  ·obtain⟨v,hv⟩:=h.QV (k+1) aa aa
   exact⟨v,λ _=>hv⟩
  ·exact⟨0,λ n6=>absurd n6 hk⟩
 have hf:∀k,k<gh->o (hex k).choose=((k+1:Nat):Int):=λ k hk=>(hex k).choose_spec hk
 have hn:((List.range gh).map λ k=>(hex k).choose).Nodup:=l9 λ a b mh hb e1=>by
  have h1:=hf a aa;have h2:=hf b hb;rw [e1,h2]at h1;omega
 have hs:∀x∈(List.range gh).map λ k=>(hex k).choose,0<o x/\x∈List.range N:=λ x hx=>by
  obtain⟨k,hk,rfl⟩:=List.mem_map.1 hx;have h1:=hf k (List.mem_range.1 hk);have h2:0<o (hex k).choose:=by rw [h1];omega
  exact⟨h2,List.mem_range.2 (hG _ (h.od _ h2))⟩
 refine⟨by have:=cv hn λ x hx=>(hs x hx).2;simpa using this,λ v hv gQ=>?_⟩
 have:=cv (A:=v::(List.range gh).map λ k=>(hex k).choose) (B:=List.range N) (List.nodup_cons.2 ⟨λ hm=>by have:=(hs v hm).1;omega,hn⟩) λ x hx=>by
  rcases List.mem_cons.1 hx with rfl|hx
  ·exact List.mem_range.2 (hG _ hv)
  ·exact(hs x hx).2
 simp at this;omega
theorem Cl.Ea(h:Cl d tg G c comps lv)(hG:∀v,G v->v<N):comps.length<=N:=by
 have hex:∀i:Nat,∃v,i<comps.length->c v=(i:Int):=λ i=>by
  by_cases hi:i<comps.length
  ·cases hc:comps.getD i []with
   |nil=>exact absurd hc (h.ne i hi)
   |cons v r=>exact⟨v,λ _=>(h.mem i v hi).1 (by rw [hc];exact List.mem_cons_self ..)⟩
  ·exact⟨0,λ zm=>absurd zm hi⟩
 have hf:∀i,i<comps.length->c (hex i).choose=(i:Int):=λ i hi=>(hex i).choose_spec hi
 have:=cv (A:=(List.range comps.length).map λ i=>(hex i).choose) (B:=List.range N) (l9 λ a b mh hb e1=>by
  have h1:=hf a aa;have h2:=hf b hb;rw [e1,h2]at h1;omega) λ x hx=>by
  obtain⟨i,hi,rfl⟩:=List.mem_map.1 hx;have h1:=hf i (List.mem_range.1 hi);exact List.mem_range.2 (hG _ (h.ga _ aa).1)
 simpa using this
theorem Tj.lens(h:Tj d tg G o l c e path dE comps lv gh):path.length<=gh/\dE.length<=gh:=
 ⟨Bp (f:=λ p:Nat × Nat=>o p.1) h.pH λ p hp=>⟨(h.rh p hp).1.1,(h.o0 p.1).2⟩,Bp (f:=o) h.Bc λ v hv=>⟨((h.st v).1 hv).1,(h.o0 v).2⟩⟩
end
def DS(N d:Nat)(P:List (Nat × Nat))(m:Nat):Nat:=(N - m)*(d+2)+(P.map λ p=>d+1 - p.2).sum
theorem HO{N d m v p k:Nat}{r:List (Nat × Nat)}(hm:m<N)(hk:k<d):DS N d ((v,0)::(p,k+1)::r) (m+1)<DS N d ((p,k)::r) m:=by
 unfold DS
 have h1:(N - m)*(d+2)=(N - (m+1))*(d+2)+(d+2):=by
  rw [<-Nat.succ_mul];congr 1;omega
 simp only [List.map_cons,List.sum_cons];omega
theorem J8{N d m p k:Nat}{r:List (Nat × Nat)}(hk:k<d):DS N d ((p,k+1)::r) m<DS N d ((p,k)::r) m:=by
 unfold DS;simp only [List.map_cons,List.sum_cons];omega
theorem Oy{N d m p k:Nat}{r:List (Nat × Nat)}(hk:k<=d):DS N d r m<DS N d ((p,k)::r) m:=by
 unfold DS;simp only [List.map_cons,List.sum_cons];omega
structure Vs(t:List (List Int))(g:List Int)(o l c:List Int)(e:List Bool)(P:List (Nat × Nat))(K:List Nat)(C:List (List Nat))(lv:List Bool)(m:Nat):Prop where
 ol:o.length=t.length*t.length
 ll:l.length=t.length*t.length
 cl:c.length=t.length*t.length
 el:e.length=t.length*t.length
 tj:Tj (2*g.length) (oN t g) (Gp t.length) (l8 o) (l8 l) (gC c) (gB e) P K C lv m
section
variable{t:List (List Int)}{g o l c:List Int}{e:List Bool}{P r:List (Nat × Nat)}{K:List Nat}{C:List (List Nat)}{lv:List Bool}{m v k w:Nat}
theorem Vs.Yk(h:Vs t g o l c e P K C lv m):m<=t.length*t.length/\(∀v,Gp t.length v->l8 o v=0->m<t.length*t.length)/\P.length<=m/\K.length<=m/\C.length<=t.length*t.length/\lv.length=C.length:=by
 have h1:=h.tj.D9 (N:=t.length*t.length) λ v hv=>hv.1;have h2:=h.tj.lens;exact⟨h1.1,h1.2,h2.1,h2.2,h.tj.toCl.Ea λ v hv=>hv.1,h.tj.lvl⟩
theorem Vs.gp(h:Vs t g o l c e ((v,k)::r) K C lv m):Gp t.length v/\v<t.length*t.length:=by
 have h1:=h.tj.od _ (h.tj.rh _ (List.mem_cons_self ..)).1.1;exact⟨h1,h1.1⟩
theorem Vs.enter(h:Vs t g o l c e P K C lv m)(hv:Gp t.length v)(gQ:l8 o v=0){P':List (Nat × Nat)}(hp:(P=[]/\P'=[])\/∃p k rest,P=(p,k)::rest/\k<2*g.length/\oN t g p k=(v:Int)/\P'=(p,k+1)::rest):
  Vs t g (o.set v ((m+1:Nat):Int)) (l.set v ((m+1:Nat):Int)) c e ((v,0)::P') (v::K) C lv (m+1):=
 ⟨by rw [List.length_set];exact h.ol,by rw [List.length_set];exact h.ll,h.cl,h.el,by
  rw [jO (by rw [h.ol];exact hv.1),jO (by rw [h.ll];exact hv.1)];exact h.tj.enter hv gQ hp⟩
theorem Vs.none(h:Vs t g o l c e ((v,k)::r) K C lv m)(hk:k<2*g.length)(ht:oN t g v k<0):Vs t g o l c e ((v,k+1)::r) K C lv m:=⟨h.ol,h.ll,h.cl,h.el,h.tj.none hk ht⟩
theorem Vs.back(h:Vs t g o l c e ((v,k)::r) K C lv m)(hk:k<2*g.length)(ht:oN t g v k=(w:Int))(h1:l8 o w≠0)(h2:gC c w<0):Vs t g o (l.set v (min (l.getD v 0) (o.getD w 0))) c e ((v,k+1)::r) K C lv m:=
 ⟨h.ol,by rw [List.length_set];exact h.ll,h.cl,h.el,by
   rw [jO (by rw [h.ll];exact h.gp.2)];exact h.tj.back hk ht h1 h2⟩
theorem Vs.Sc(h:Vs t g o l c e ((v,k)::r) K C lv m)(hk:k<2*g.length)(ht:oN t g v k=(w:Int))(h2:0<=gC c w):Vs t g o l c (e.set v true) ((v,k+1)::r) K C lv m:=
 ⟨h.ol,h.ll,h.cl,by rw [List.length_set];exact h.el,by
   rw [J3 (by rw [h.el];exact h.gp.2)];exact h.tj.Sc hk ht h2⟩
theorem Vs.split(h:Vs t g o l c e ((v,k)::r) K C lv m):∃A B,K=A++v::B/\v∉A/\(∀u∈v::A.reverse,u<c.length/\u<e.length)/\(∀u,u∈v::A.reverse↔th (l8 o) (gC c) v u)/\(∀u,u∈B↔(u∈K/\¬th (l8 o) (gC c) v u))/\B.Pairwise (λ a b=>l8 o b<l8 o a):=by
 have hv:=(h.tj.rh _ (List.mem_cons_self ..)).1;have hv:0<l8 o v/\gC c v<0:=hv;obtain⟨A,B,rfl⟩:=List.append_of_mem ((h.tj.st v).2 hv);have Vq:=List.pairwise_append.1 h.tj.Bc;have hB:=List.pairwise_cons.1 Vq.2.1;have hA:∀u∈A,l8 o v<l8 o u:=λ u hu=>Vq.2.2 u hu v (List.mem_cons_self ..);have c8:=h.tj.st
 have HP:∀u,u∈v::A.reverse↔th (l8 o) (gC c) v u:=λ u=>by
  constructor
  ·intro hu
   rcases List.mem_cons.1 hu with rfl|hu
   ·exact⟨hv,Int.le_refl _⟩
   ·have hu:=List.mem_reverse.1 hu
    exact⟨(c8 u).1 (List.mem_append_left _ hu),Int.le_of_lt (hA u hu)⟩
  ·intro hu
   rcases List.mem_append.1 ((c8 u).2 hu.1)with h1|h1
   ·exact List.mem_cons_of_mem _ (List.mem_reverse.2 h1)
   ·rcases List.mem_cons.1 h1 with rfl|h1
    ·exact List.mem_cons_self ..
    ·have:=hB.1 u h1
     have:=hu.2;omega
 refine⟨A,B,rfl,λ hm=>absurd (hA v hm) (Int.lt_irrefl _),λ u hu=>?_,HP,λ u=>?_,hB.2⟩
 ·have h1:=h.tj.od u ((HP u).1 hu).1.1
  rw [h.cl,h.el];exact⟨h1.1,h1.1⟩
 ·rw [<-HP u]
  constructor
  ·intro hu
   refine⟨List.mem_append_right _ (List.mem_cons_of_mem _ hu),λ hm=>?_⟩;have h1:=hB.1 u hu;rcases List.mem_cons.1 hm with rfl|hm
   ·omega
   ·have:=hA u (List.mem_reverse.1 hm);omega
  ·rintro⟨h1,h2⟩
   rcases List.mem_append.1 h1 with h1|h1
   ·exact absurd (List.mem_cons_of_mem _ (List.mem_reverse.2 h1)) h2
   ·rcases List.mem_cons.1 h1 with rfl|h1
    ·exact absurd (List.mem_cons_self ..) h2
    ·exact h1
def UF(e:List Bool):List (Nat × Nat)->List Bool
 |[]=>e
 |p::_=>e.set p.1 true
theorem Vs.close{A B:List Nat}(h:Vs t g o l c e ((v,k)::r) (A++v::B) C lv m)(hk:2*g.length<=k)(hl:l.getD v 0=o.getD v 0)
  (hm:∀u,u∈v::A.reverse↔th (l8 o) (gC c) v u) (hb:∀u,u∈B↔(u∈A++v::B/\¬th (l8 o) (gC c) v u)) (hs:B.Pairwise (λ a b=>l8 o b<l8 o a)) (eZ:∀u∈v::A.reverse,u<c.length/\u<e.length):
  Vs t g o l (cT c C.length (v::A.reverse)) (UF e r) r B (C++[v::A.reverse]) (lv++[mn e (v::A.reverse)]) m:=by
 have Sn:(v::A.reverse).Nodup:=by
  have h1:=(List.pairwise_append.1 h.tj.Bc);have h2:(A++[v]).Pairwise (λ a b=>l8 o b<l8 o a):=List.pairwise_append.2 ⟨h1.1,List.pairwise_singleton _ _,λ a ha b hb=>h1.2.2 a ha b (by rw [List.mem_singleton]at hb;subst hb;exact List.mem_cons_self ..)⟩;have h4:(A++[v]).reverse.Nodup:=List.nodup_iff_pairwise_ne.2 (List.pairwise_reverse.2 (h2.imp λ mh e=>by subst e;exact Int.lt_irrefl _ mh))
  rwa [List.reverse_append]at h4
 have hj:=h.tj.close (c':=gC (cT c C.length (v::A.reverse))) hk hl hm hb hs J7 Sn (λ u hu=>by rw [oO λ u hu=>(eZ u hu).1,if_pos ((hm u).2 hu)]) (λ u hu=>by rw [oO λ u hu=>(eZ u hu).1,if_neg λ h1=>hu ((hm u).1 h1)]);refine⟨h.ol,h.ll,by rw [uE];exact h.cl,?_,?_⟩
 ·cases r with
  |nil=>exact h.el
  |cons p r=>show(e.set p.1 true).length=_;rw [List.length_set];exact h.el
 ·have e1:gB (UF e r)=Sd (gB e) r:=by
   cases r with
   |nil=>rfl
   |cons p r=>
    have h1:=h.tj.od _ (h.tj.rh p (List.mem_cons_of_mem _ (List.mem_cons_self ..))).1.1;show gB (e.set p.1 true)=λ u=>nB (gB e) p.1 true u;rw [J3 (by rw [h.el];exact h1.1)]
  rw [e1];exact hj
theorem Vs.Se(h:Vs t g o l c e ((v,k)::r) K C lv m)(hk:2*g.length<=k)(hl:l.getD v 0≠o.getD v 0):∃p j r2,r=(p,j)::r2/\p≠v/\p<t.length*t.length/\Vs t g o (l.set p (min (l.getD p 0) (l.getD v 0))) c e r K C lv m:=by
 obtain⟨p,j,r2,rfl,bm,hj⟩:=h.tj.Se hk hl;have h1:=h.tj.od _ (h.tj.rh (p,j) (List.mem_cons_of_mem _ (List.mem_cons_self ..))).1.1;refine⟨p,j,r2,rfl,bm,h1.1,h.ol,by rw [List.length_set];exact h.ll,h.cl,h.el,?_⟩;rw [jO (by rw [h.ll];exact h1.1)];exact hj
end
def VOk(t:List (List Int))(g o0:List Int)(v:Nat)(o l c:List Int)(e:List Bool)(C:List (List Nat))(lv:List Bool)(m:Nat):Prop:=
 Vs t g o l c e [] [] C lv m/\(∀u,l8 o0 u≠0->l8 o u≠0)/\l8 o v≠0
end Go.Proofs.YtgailjhnfghkgaaGreatDoor
end
section
namespace Go.Proofs.YtgailjhnfghkgaaGreatDoor
open Go Go.AM
theorem J9{α:Type}{P:List α->Prop}(h0:P [])(h1:∀l a,P l->P (l++[a]))(l:List α):P l:=by
 have:∀m:List α,P m.reverse:=λ m=>by
  induction m with
  |nil=>exact h0
  |cons a m ih=>rw [List.reverse_cons];exact h1 _ _ ih
 have:=this l.reverse
 rwa [List.reverse_reverse]at this
def pJ(n:Nat)(ms:List Nat):List (Int × Int):=ms.map λ v=>(((v / n:Nat):Int),((v % n:Nat):Int))
theorem e6{n:Nat}{ms:List Nat}{a b:Nat}:dF (pJ n ms) a b↔∃v∈ms,v / n=a/\v % n=b:=by
 unfold dF pJ;rw [List.mem_map]
 constructor
 ·rintro⟨v,hv,e⟩
  have:=Prod.mk.inj e;exact⟨v,hv,aa,aa⟩
 ·rintro⟨v,hv,rfl,rfl⟩;exact⟨v,hv,rfl⟩
def dy(n:Nat)(ms:List Nat):(Nat->Nat) × List (Int × Int):=ms.foldl (λ s v=>(zn s.1 (v / n) (v % n),if s.1 (v / n)=s.1 (v % n) then s.2 else s.2++[(((v / n:Nat):Int),((v % n:Nat):Int))])) (id,[])
theorem gT(n:Nat)(ms:List Nat)(v:Nat):dy n (ms++[v])=(zn (dy n ms).1 (v / n) (v % n),if (dy n ms).1 (v / n)=(dy n ms).1 (v % n) then (dy n ms).2 else (dy n ms).2++[(((v / n:Nat):Int),((v % n:Nat):Int))]):=by unfold dy;rw [List.foldl_append];rfl
def HQ(n:Nat)(ms:List Nat):List Int:=(ms.foldl (λ(s:(Nat->Nat) × List Int) v=>(zn s.1 (v / n) (v % n),JC s.1 s.2 (v / n) (v % n))) (id,cV n)).2
theorem Oz(n:Nat)(ms:List Nat):(ms.foldl (λ(s:(Nat->Nat) × List Int) v=>(zn s.1 (v / n) (v % n),JC s.1 s.2 (v / n) (v % n))) (id,cV n)).1=(dy n ms).1:=by
 unfold dy
 have:∀(ms:List Nat) (r:Nat->Nat) (p:List Int) (q:List (Int × Int)),(ms.foldl (λ(s:(Nat->Nat) × List Int) v=>(zn s.1 (v / n) (v % n),JC s.1 s.2 (v / n) (v % n))) (r,p)).1=(ms.foldl (λ s v=>(zn s.1 (v / n) (v % n),if s.1 (v / n)=s.1 (v % n) then s.2 else s.2++[(((v / n:Nat):Int),((v % n:Nat):Int))])) (r,q)).1:=λ ms=>by
  induction ms with
  |nil=>intro r p q;rfl
  |cons v ms ih=>intro r p q;rw [List.foldl_cons,List.foldl_cons];exact ih _ _ _
 exact this ms id _ _
theorem Br(n:Nat)(ms:List Nat)(v:Nat):HQ n (ms++[v])=JC (dy n ms).1 (HQ n ms) (v / n) (v % n):=by
 unfold HQ;rw [List.foldl_append];show JC _ _ _ _=_;rw [Oz]
structure Yl(n:Nat)(ms:List Nat):Prop where
 fo:Fo n (HQ n ms) (dy n ms).1
 xd:kJ n (dy n ms).1 (dF (pJ n ms))
 Ym:kJ n (dy n ms).1 (dF (dy n ms).2)
 gh:(dy n ms).2.length+dR n (dy n ms).1=n
 UG:NM n (dy n ms).2
 sub:∀q∈(dy n ms).2,∃v∈ms,q=(((v / n:Nat):Int),((v % n:Nat):Int))
theorem snO{n:Nat}(ms:List Nat):(∀v∈ms,Gp n v)->Yl n ms:=by
 refine J9 (P:=λ ms=>(∀v∈ms,Gp n v)->Yl n ms) ?_ (λ ms v ih=>?_) ms
 ·intro _
  refine⟨Fo.Sp n,(kJ.Sp n).congr (λ _ _ h=>h.elim) λ a b h=>(by simp [dF,pJ]at h),(kJ.Sp n).congr (λ _ _ h=>h.elim) λ a b h=>(by simp [dF,dy]at h),?_,λ q h=>(by simp [dy]at h),λ q h=>(by simp [dy]at h)⟩;show 0+dR n id=n;rw [Ka];omega
 ·intro hm
  have h:=ih λ u hu=>hm u (List.mem_append_left _ hu);have hv:=hm v (List.mem_append_right _ (List.mem_singleton.2 rfl));obtain⟨v1,v2,_⟩:=iU hv;have hj:=Vr h.fo v1 v2;have hc:=Kb h.fo v1 v2;have hk:=Kc h.xd v1 v2;have hl:=Kc h.Ym v1 v2
  have j9:NM n [(((v / n:Nat):Int),((v % n:Nat):Int))]:=λ q hq=>by
   rw [List.mem_singleton]at hq;subst hq;exact⟨⟨Int.natCast_nonneg _,Int.ofNat_lt.2 v1⟩,Int.natCast_nonneg _,Int.ofNat_lt.2 v2⟩
  refine⟨?_,?_,?_,?_,?_,?_⟩
  ·rw [Br,gT];exact hj
  ·rw [gT]
   refine hk.congr (λ a b e=>?_) λ a b e=>?_
   ·refine .rel (e6.2 ?_)
    rcases e with e|⟨rfl,rfl⟩
    ·obtain⟨u,hu,e⟩:=e6.1 e
     exact⟨u,List.mem_append_left _ hu,e⟩
    ·exact⟨v,List.mem_append_right _ (List.mem_singleton.2 rfl),rfl,rfl⟩
   ·obtain⟨u,hu,e1,e2⟩:=e6.1 e
    rcases List.mem_append.1 hu with hu|hu
    ·exact .rel (.inl (e6.2 ⟨u,hu,e1,e2⟩))
    ·rw [List.mem_singleton]at hu;subst hu
     exact .rel (.inr ⟨e1.symm,e2.symm⟩)
  ·rw [gT]
   show kJ n (zn _ _ _) (dF (if _ then _ else _));split
   ·rename_i e
    refine hl.congr (λ a b e1=>?_) λ a b e1=>.rel (.inl e1);rcases e1 with e1|⟨rfl,rfl⟩
    ·exact .rel e1
    ·exact(h.Ym _ _ v1 v2).1 e
   ·refine hl.congr (λ a b e1=>.rel ?_) λ a b e1=>.rel ?_
    ·rcases e1 with e1|⟨rfl,rfl⟩
     ·exact List.mem_append_left _ e1
     ·exact List.mem_append_right _ (List.mem_singleton.2 rfl)
    ·rcases List.mem_append.1 e1 with e1|e1
     ·exact .inl e1
     ·have e1:=Prod.mk.inj (List.mem_singleton.1 e1)
      exact .inr ⟨aa,aa⟩
  ·rw [gT]
   show(if _ then _ else _:List (Int × Int)).length+dR n (zn _ _ _)=n;have h0:=h.gh;split
   ·rename_i e;rw [if_pos e]at hc;omega
   ·rename_i e;rw [if_neg e]at hc;rw [List.length_append,List.length_singleton];omega
  ·rw [gT]
   show NM n (if _ then _ else _);split
   ·exact h.UG
   ·exact OA.2 ⟨h.UG,j9⟩
  ·rw [gT]
   intro q hq;have hq:q∈(if (dy n ms).1 (v / n)=(dy n ms).1 (v % n) then (dy n ms).2 else (dy n ms).2++[(((v / n:Nat):Int),((v % n:Nat):Int))]):=hq;split at hq
   ·obtain⟨u,hu,e⟩:=h.sub q hq;exact⟨u,List.mem_append_left _ hu,e⟩
   ·rcases List.mem_append.1 hq with hq|hq
    ·obtain⟨u,hu,e⟩:=h.sub q hq;exact⟨u,List.mem_append_left _ hu,e⟩
    ·exact⟨v,List.mem_append_right _ (List.mem_singleton.2 rfl),List.mem_singleton.1 hq⟩
def iV(n:Nat)(p:List Int):Prop:=∃x y,x<n/\y<n/\x≠y/\p.getD x 0=p.getD y 0
def Sub(n:Nat)(p q:List Int):Prop:=∀x y,x<n->y<n->p.getD x 0=p.getD y 0->q.getD x 0=q.getD y 0
structure pK(t:List (List Int))(p:List Int):Prop where
 cg:cd t p 0
 jo:iV t.length p
 mi:∀q,cd t q 0->iV t.length q->Sub t.length q p->Sub t.length p q
theorem sub_eq{n:Nat}{p q:List Int}(hp:p.length=n)(hq:q.length=n)(cp:canon p=p)(cq:canon q=q)(h1:Sub n p q)(h2:Sub n q p):p=q:=by
 rw [<-cp,<-cq];exact ru hp hq λ a b ha hb=>⟨h1 a b ha hb,h2 a b ha hb⟩
section
variable{t:List (List Int)}{g c:List Int}{C:List (List Nat)}{lv:List Bool}
noncomputable def lC(t:List (List Int))(C:List (List Nat))(i:Nat):List Int:=nC t.length (dF (pJ t.length (C.getD i [])))
theorem QY(hs:Sh t)(hg:∀x∈g,0<=x/\x<(t.length:Int)){q:List Int}(hq:Cg t q 0){v u:Nat}(hv:Gp t.length v)(h:Rc (2*g.length) (oN t g) v u):Gp t.length u/\(q.getD (v / t.length) 0=q.getD (v % t.length) 0->q.getD (u / t.length) 0=q.getD (u % t.length) 0):=by
 induction h with
 |refl=>exact⟨hv,id⟩
 |step h1 hk ht ih=>
  rename_i w k x;obtain⟨hw,ih⟩:=ih;refine⟨QX hs hg hw hk ht,λ e=>?_⟩;have e:=ih e;obtain⟨w1,w2,_⟩:=iU hw;have hz:(g.getD (k / 2) 0).toNat<t.length:=by have:=hg _ (an (d:=0) (i:=k / 2) (l:=g) aa);omega
  have hc:=hq _ _ _ w1 w2 hz e;unfold Bt at hc
  have mh:q.getD (gN t (g.getD (k / 2) 0).toNat (w / t.length) k) 0=q.getD (gN t (g.getD (k / 2) 0).toNat (w % t.length) k) 0:=by
   unfold gN;split
   ·exact hc.1 (show(0:Int)≠2 by decide)
   ·exact hc.2 (show(0:Int)≠1 by decide)
  have ha:gN t (g.getD (k / 2) 0).toNat (w / t.length) k<t.length:=by unfold gN;split;exact(hs.bA hz w1).2;exact(hs.bA w1 hz).2
  have hb:gN t (g.getD (k / 2) 0).toNat (w % t.length) k<t.length:=by unfold gN;split;exact(hs.bA hz w2).2;exact(hs.bA w2 hz).2
  unfold oN QW at ht;split at ht
  ·omega
  ·rename_i bm
   have ex:x=min (gN t (g.getD (k / 2) 0).toNat (w / t.length) k) (gN t (g.getD (k / 2) 0).toNat (w % t.length) k)*t.length+max (gN t (g.getD (k / 2) 0).toNat (w / t.length) k) (gN t (g.getD (k / 2) 0).toNat (w % t.length) k):=aa;have hp:=uB (n:=t.length) (x:=min (gN t (g.getD (k / 2) 0).toNat (w / t.length) k) (gN t (g.getD (k / 2) 0).toNat (w % t.length) k)) (y:=max (gN t (g.getD (k / 2) 0).toNat (w / t.length) k) (gN t (g.getD (k / 2) 0).toNat (w % t.length) k)) aa aa;rw [ex,hp.2.1,hp.2.2];rcases Nat.le_total (gN t (g.getD (k / 2) 0).toNat (w / t.length) k) (gN t (g.getD (k / 2) 0).toNat (w % t.length) k)with h2|h2
   ·rw [Nat.min_eq_left h2,Nat.max_eq_right h2];exact mh
   ·rw [Nat.min_eq_right h2,Nat.max_eq_left h2];exact mh.symm
end
structure cy(t:List (List Int))(g c:List Int)(C:List (List Nat))(lv:List Bool):Prop where
 sp:pL t g
 gl:g.length<=t.length
 cl:c.length=t.length*t.length
 xT:Cl (2*g.length) (oN t g) (Gp t.length) (gC c) C lv
 all:∀v,Gp t.length v->0<=gC c v
theorem OB{n:Nat}{p p':List Int}{r r':Nat->Nat}(h:Fo n p r)(h':Fo n p' r')(hs:∀a b,a<n->b<n->r a=r b->r' a=r' b)(hc:dR n r=dR n r'):∀a b,a<n->b<n->r' a=r' b->r a=r b:=by
 have h1:∀i,i<n->r' i=i->r i=i:=λ i hi e=>by
  have h2:=h.Sq (i+1) i aa hi;have h3:=h.rr hi;have h4:=hs (r i) i (h.zo hi) hi h3;have h5:=h'.Sq (r i+1) (r i) aa (h.zo hi);omega
 have h2:((List.range n).filter (xU r)).filter (xU r')=(List.range n).filter (xU r'):=by
  rw [List.filter_filter];refine List.filter_congr λ i hi=>?_;have hi:=List.mem_range.1 hi;unfold xU
  by_cases e:r' i=i
  ·simp [e,h1 i hi e]
  ·simp [e]
 have h3:((List.range n).filter (xU r)).filter (xU r')=(List.range n).filter (xU r):=by
  refine List.Sublist.eq_of_length List.filter_sublist ?_;rw [h2];exact hc.symm
 have h4:∀i,i<n->r i=i->r' i=i:=λ i hi e=>by
  have h5:i∈((List.range n).filter (xU r)).filter (xU r'):=by rw [h3];exact List.mem_filter.2 ⟨List.mem_range.2 hi,decide_eq_true e⟩
  exact of_decide_eq_true (List.mem_filter.1 h5).2
 have h5:∀a,a<n->r' a=r a:=λ a ha=>by
  have h6:=h4 (r a) (h.zo ha) (h.rr ha);have h7:=hs (r a) a (h.zo ha) ha (h.rr ha);omega
 intro a b ha hb e;rw [<-h5 a ha,<-h5 b hb];exact e
theorem Kd{n:Nat}{p p':List Int}{r r':Nat->Nat}(h:Fo n p r)(h':Fo n p' r')(hs:∀a b,a<n->b<n->r a=r b->r' a=r' b):dR n r'<=dR n r:=by
 have h1:∀i,i<n->r' i=i->r i=i:=λ i hi e=>by
  have h2:=h.Sq (i+1) i aa hi;have h3:=h.rr hi;have h4:=hs (r i) i (h.zo hi) hi h3;have h5:=h'.Sq (r i+1) (r i) aa (h.zo hi);omega
 have h2:((List.range n).filter (xU r)).filter (xU r')=(List.range n).filter (xU r'):=by
  rw [List.filter_filter];refine List.filter_congr λ i hi=>?_;have hi:=List.mem_range.1 hi;unfold xU
  by_cases e:r' i=i
  ·simp [e,h1 i hi e]
  ·simp [e]
 unfold dR;rw [<-h2];exact List.length_filter_le _ _
theorem Ke{n:Nat}{p p':List Int}{r r':Nat->Nat}(h:Fo n p r)(h':Fo n p' r')(hs:∀a b,a<n->b<n->(r a=r b↔r' a=r' b)):dR n r=dR n r':=by
 have h1:∀i,i<n->r i=r' i:=λ i hi=>by
  have h2:=(hs (r i) i (h.zo hi) hi).1 (h.rr hi);have h3:=(hs (r' i) i (h'.zo hi) hi).2 (h'.rr hi);have h4:=h'.Sq (r i+1) (r i) aa (h.zo hi);have h5:=h.Sq (r' i+1) (r' i) aa (h'.zo hi);omega
 unfold dR
 congr 1
 refine List.filter_congr λ i hi=>?_;unfold xU;rw [h1 i (List.mem_range.1 hi)]
section
variable{t:List (List Int)}{g c:List Int}{C:List (List Nat)}{lv:List Bool}
def xk(t:List (List Int))(C:List (List Nat))(i:Nat):Nat:=(dy t.length (C.getD i [])).2.length
def Eb(t:List (List Int))(c:List Int)(C:List (List Nat))(lv:List Bool)(i:Nat):Prop:=
 lv.getD i false=false/\∀x y,x<y->y<t.length->(lC t C i).getD x 0=(lC t C i).getD y 0->
   lv.getD (gC c (x*t.length+y)).toNat false=true\/((i:Int)<=gC c (x*t.length+y)/\xk t C (gC c (x*t.length+y)).toNat=xk t C i)
noncomputable def uF(t:List (List Int))(c:List Int)(C:List (List Nat))(lv:List Bool)(i:Nat):Bool:=@decide (Eb t c C lv i) (Classical.propDecidable _)
theorem kK{i:Nat}:uF t c C lv i=true↔Eb t c C lv i:=by unfold uF;exact @decide_eq_true_iff _ (Classical.propDecidable _)
theorem cy.gp(h:cy t g c C lv){i v:Nat}(hi:i<C.length)(hv:v∈C.getD i []):Gp t.length v/\gC c v=(i:Int):=by
 have h1:=(h.xT.mem i v hi).1 hv;exact⟨(h.xT.ga v aa).1,h1⟩
theorem cy.ml(h:cy t g c C lv){i:Nat}(hi:i<C.length):(C.getD i []).length<=t.length*t.length:=by
 have:=cv (h.xT.nd i hi) (B:=List.range (t.length*t.length)) λ v hv=>List.mem_range.2 (h.gp hi hv).1.1
 simpa using this
theorem cy.sO(h:cy t g c C lv){i:Nat}(hi:i<C.length):Yl t.length (C.getD i []):=snO _ λ _v hv=>(h.gp hi hv).1
theorem cy.cm(h:cy t g c C lv){i:Nat}(hi:i<C.length):nC t.length (dF (dy t.length (C.getD i [])).2)=lC t C i:=by
 unfold lC;rw [<-Ec (h.sO hi).Ym.xd,<-Ec (h.sO hi).xd.xd]
theorem cy.some(h:cy t g c C lv){i:Nat}(hi:i<C.length):∃v,v∈C.getD i []/\Gp t.length v/\gC c v=(i:Int):=by
 have h1:=h.xT.ne i hi;cases hc:C.getD i []with
 |nil=>exact absurd hc h1
 |cons v r=>
  have hv:v∈C.getD i []:=by rw [hc];exact List.mem_cons_self ..
  exact⟨v,by rw [<-hc];exact hv,h.gp hi hv⟩
theorem Kf{i v:Nat}(hv:v∈C.getD i [])(hg:Gp t.length v):(lC t C i).getD (v / t.length) 0=(lC t C i).getD (v % t.length) 0:=by
 have h1:=iU hg;exact(fG h1.1 h1.2.1).2 (.rel (e6.2 ⟨v,hv,rfl,rfl⟩))
theorem cy.jo(h:cy t g c C lv){i:Nat}(hi:i<C.length):iV t.length (lC t C i):=by
 obtain⟨v,hv,hg,_⟩:=h.some hi;have h1:=iU hg;have:=hg.2;exact⟨_,_,h1.1,h1.2.1,aa,Kf hv hg⟩
theorem cy.cg(h:cy t g c C lv)(hs:Semi t){i:Nat}(hi:i<C.length)(hl:lv.getD i false=false):cd t (lC t C i) 0:=by
 have hS:=hs.toSh
 have QZ:∀v k,v∈C.getD i []->k<2*g.length->Eg (dF (pJ t.length (C.getD i []))) (gN t (g.getD (k / 2) 0).toNat (v / t.length) k) (gN t (g.getD (k / 2) 0).toNat (v % t.length) k):=λ v k hv hk=>by
  obtain⟨hg,hc⟩:=h.gp hi hv;obtain⟨v1,v2,_⟩:=iU hg;have hz:(g.getD (k / 2) 0).toNat<t.length:=by have:=h.sp.el _ (an (d:=0) (i:=k / 2) (l:=g) aa);omega
  have ha:gN t (g.getD (k / 2) 0).toNat (v / t.length) k<t.length:=by unfold gN;split;exact(hS.bA hz v1).2;exact(hS.bA v1 hz).2
  have hb:gN t (g.getD (k / 2) 0).toNat (v % t.length) k<t.length:=by unfold gN;split;exact(hS.bA hz v2).2;exact(hS.bA v2 hz).2
  by_cases e:gN t (g.getD (k / 2) 0).toNat (v / t.length) k=gN t (g.getD (k / 2) 0).toNat (v % t.length) k
  ·rw [e];exact .refl _
  ·obtain⟨w,hw⟩:∃w:Nat,oN t g v k=(w:Int):=by unfold oN QW;rw [if_neg e];exact⟨_,rfl⟩
   have Yn:gC c w=gC c v:=Classical.byContradiction λ bm=>by
    have:=(h.xT.Xl i hi).2 ⟨v,k,w,hc,hk,hw,bm⟩;rw [hl]at this;cases this
   have Q0:w∈C.getD i []:=(h.xT.mem i w hi).2 (by rw [Yn,hc]);have h3:=hw;unfold oN QW at h3;rw [if_neg e]at h3;have ew:w=min (gN t (g.getD (k / 2) 0).toNat (v / t.length) k) (gN t (g.getD (k / 2) 0).toNat (v % t.length) k)*t.length+max (gN t (g.getD (k / 2) 0).toNat (v / t.length) k) (gN t (g.getD (k / 2) 0).toNat (v % t.length) k):=aa;have hp:=uB (n:=t.length) (x:=min (gN t (g.getD (k / 2) 0).toNat (v / t.length) k) (gN t (g.getD (k / 2) 0).toNat (v % t.length) k)) (y:=max (gN t (g.getD (k / 2) 0).toNat (v / t.length) k) (gN t (g.getD (k / 2) 0).toNat (v % t.length) k)) aa aa;have hr:Eg (dF (pJ t.length (C.getD i []))) (w / t.length) (w % t.length):=.rel (e6.2 ⟨w,Q0,rfl,rfl⟩);rw [ew,hp.2.1,hp.2.2]at hr;rcases Nat.le_total (gN t (g.getD (k / 2) 0).toNat (v / t.length) k) (gN t (g.getD (k / 2) 0).toNat (v % t.length) k)with h2|h2
   ·rw [Nat.min_eq_left h2,Nat.max_eq_right h2]at hr;exact hr
   ·rw [Nat.min_eq_right h2,Nat.max_eq_left h2]at hr;exact hr.symm
 have hJ:∀a b,dF (pJ t.length (C.getD i [])) a b->a<t.length/\b<t.length:=λ a b e=>by
  obtain⟨v,hv,rfl,rfl⟩:=e6.1 e;have:=iU (h.gp hi hv).1;exact⟨this.1,this.2.1⟩
 refine⟨hs,zp,HR (by have:=hS.most;omega),by decide,λ x y s hx hy gi e=>?_⟩;have e:=(fG hx hy).1 e
 have key:=OC (side:=0) hs hJ h.sp.el (λ a b e z hz=>by
  obtain⟨v,hv,rfl,rfl⟩:=e6.1 e;obtain⟨j,hj,rfl⟩:=aV 0 hz;have k1:=QZ v (2*j) hv aa;have k2:=QZ v (2*j+1) hv aa;rw [show(2*j) / 2=j by omega]at k1;rw [show(2*j+1) / 2=j by omega]at k2;unfold gN at k1 k2;rw [if_pos aa,if_pos aa]at k1;rw [if_neg aa,if_neg aa]at k2;exact⟨λ _=>k1,λ _=>k2⟩) (h.sp.2 s gi) x y hx hy e
 exact⟨λ h0=>(fG (hS.bA gi hx).2 (hS.bA gi hy).2).2 (key.1 h0),λ h0=>(fG (hS.bA hx gi).2 (hS.bA hy gi).2).2 (key.2 h0)⟩
theorem cy.sub(h:cy t g c C lv)(hs:Sh t){q:List Int}(hq:Cg t q 0){i v:Nat}(hi:i<C.length)(hv:v∈C.getD i [])(e:q.getD (v / t.length) 0=q.getD (v % t.length) 0):Sub t.length (lC t C i) q:=λ x y hx hy e1=>by
 obtain⟨hg,hc⟩:=h.gp hi hv;refine((fG hx hy).1 e1).least (Q:=λ a b=>q.getD a 0=q.getD b 0) (λ _=>rfl) (λ _ _ h=>h.symm) (λ _ _ _ h h'=>h.trans h') λ a b e2=>?_;obtain⟨u,hu,rfl,rfl⟩:=e6.1 e2;have hcu:=(h.gp hi hu).2;exact(QY hs h.sp.el hq hg (h.xT.Ot v u aa aa)).2 e
theorem cy.term(h:cy t g c C lv):∀(m v:Nat),Gp t.length v->gC c v<=(m:Int)->∃u i,Rc (2*g.length) (oN t g) v u/\i<C.length/\u∈C.getD i []/\lv.getD i false=false:=by
 intro m
 induction m using Nat.strongRecOn with
 |ind m ih=>
  intro v hv hm;have h0:=h.all v hv;have hd:=h.xT.ga v h0;have hi:(gC c v).toNat<C.length:=aa;cases hl:lv.getD (gC c v).toNat false with
  |false=>exact⟨v,_,.refl v,hi,(h.xT.mem _ v hi).2 aa,hl⟩
  |true=>
   obtain⟨v',k,w,h1,h2,h3,h4⟩:=(h.xT.Xl _ hi).1 hl;have h5:=h.xT.J0 v' k w aa h2 h3;obtain⟨u,i,q1,q2⟩:=ih (gC c w).toNat aa w (h.xT.ga w h5.1).1 aa;exact⟨u,i,((h.xT.Ot v v' h0 aa).step h2 h3).trans q1,q2⟩
theorem cy.below(h:cy t g c C lv)(hs:Sh t){q:List Int}(hq:Cg t q 0)(hj:iV t.length q):∃i,i<C.length/\lv.getD i false=false/\Sub t.length (lC t C i) q:=by
 obtain⟨x,y,hx,hy,bm,e⟩:=hj
 have main:∀x y,x<y->y<t.length->q.getD x 0=q.getD y 0->∃i,i<C.length/\lv.getD i false=false/\Sub t.length (lC t C i) q:=λ x y xl hy e=>by
  obtain⟨hp,e1,e2⟩:=uB xl hy;obtain⟨u,i,h1,h2,h3,h4⟩:=h.term (gC c (x*t.length+y)).toNat _ hp aa;refine⟨i,h2,h4,h.sub hs hq h2 h3 ((QY hs h.sp.el hq hp h1).2 ?_)⟩;rw [e1,e2];exact e
 rcases Nat.lt_or_ge x y with h1|h1
 ·exact main x y h1 hy e
 ·exact main y x aa hx e.symm
theorem cy.rk(h:cy t g c C lv){i j:Nat}(hi:i<C.length)(hj:j<C.length):(xk t C i=xk t C j->Sub t.length (lC t C i) (lC t C j)->Sub t.length (lC t C j) (lC t C i))/\(lC t C i=lC t C j->xk t C i=xk t C j):=by
 have oi:=h.sO hi;have oj:=h.sO hj;have ci:=oi.gh;have cj:=oj.gh;have ki:∀a b,a<t.length->b<t.length->((dy t.length (C.getD i [])).1 a=(dy t.length (C.getD i [])).1 b↔(lC t C i).getD a 0=(lC t C i).getD b 0):=λ a b ha hb=>(oi.xd a b ha hb).trans (fG ha hb).symm;have kj:∀a b,a<t.length->b<t.length->((dy t.length (C.getD j [])).1 a=(dy t.length (C.getD j [])).1 b↔(lC t C j).getD a 0=(lC t C j).getD b 0):=λ a b ha hb=>(oj.xd a b ha hb).trans (fG ha hb).symm;unfold xk;refine⟨λ e mH a b ha hb e2=>?_,λ e=>?_⟩
 ·exact(ki a b ha hb).1 (OB oi.fo oj.fo (λ a b ha hb e3=>(kj a b ha hb).2 (mH a b ha hb ((ki a b ha hb).1 e3))) aa a b ha hb ((kj a b ha hb).2 e2))
 ·have:=Ke oi.fo oj.fo λ a b ha hb=>by rw [ki a b ha hb,kj a b ha hb,e]
  omega
structure cW(t:List (List Int))(L:List (List (Int × Int))):Prop where
 UG:∀l∈L,NM t.length l
 ll:∀l∈L,l.length<=t.length
 mi:∀l∈L,pK t (nC t.length (dF l))
 all:∀p,pK t p->∃l∈L,nC t.length (dF l)=p
 nd:(L.map λ l=>nC t.length (dF l)).Nodup
 bel:∀q,cd t q 0->iV t.length q->∃l∈L,Sub t.length (nC t.length (dF l)) q
 le:L.length<=t.length*t.length
noncomputable def jG(t:List (List Int))(c:List Int)(C:List (List Nat))(lv:List Bool)(k:Nat):List (List (Int × Int)):=((List.range k).filter (uF t c C lv)).map λ i=>(dy t.length (C.getD i [])).2
theorem cy.OD(h:cy t g c C lv)(hs:Semi t){i:Nat}(hi:i<C.length)(hl:Eb t c C lv i):pK t (lC t C i):=by
 have zq:=h.cg hs hi hl.1;refine⟨zq,h.jo hi,λ q hq hj mH=>?_⟩;obtain⟨d,hd,DT,JD⟩:=h.below hs.toSh hq.cg hj;obtain⟨v,hv,Kg,Bu⟩:=h.some hd;obtain⟨v1,v2,_⟩:=iU Kg;have tN:Sub t.length (lC t C d) (lC t C i):=λ x y hx hy e=>mH x y hx hy (JD x y hx hy e);have e1:=hl.2 _ _ Kg.2 v2 (tN _ _ v1 v2 (Kf hv Kg));rw [show v / t.length*t.length+v % t.length=v by rw [Nat.mul_comm];exact Nat.div_add_mod v _,Bu,Int.toNat_natCast,DT]at e1;have e1:=(e1.resolve_left (by decide)).2;have e2:=(h.rk hd hi).1 e1 tN;exact λ x y hx hy e=>JD x y hx hy (e2 x y hx hy e)
theorem cy.mono(h:cy t g c C lv){i j:Nat}(hi:i<C.length)(hj:j<C.length)(hs:Sub t.length (lC t C i) (lC t C j)):xk t C i<=xk t C j:=by
 have oi:=h.sO hi;have oj:=h.sO hj;have ci:=oi.gh;have cj:=oj.gh;have:=Kd oi.fo oj.fo λ a b ha hb e=>(oj.xd a b ha hb).2 ((fG ha hb).1 (hs a b ha hb ((fG ha hb).2 ((oi.xd a b ha hb).1 e))));unfold xk;omega
theorem cy.Yo(h:cy t g c C lv)(hs:Semi t):∀(m:Nat) {i:Nat},i<C.length->lv.getD i false=false->xk t C i<=m->∃p,pK t p/\Sub t.length p (lC t C i):=by
 intro m
 induction m using Nat.strongRecOn with
 |ind m ih=>
  intro i hi hl hm
  by_cases xm:pK t (lC t C i)
  ·exact⟨_,xm,λ _ _ _ _ e=>e⟩
  ·have:∃q,cd t q 0/\iV t.length q/\Sub t.length q (lC t C i)/\¬Sub t.length (lC t C i) q:=Classical.byContradiction λ c9=>xm ⟨h.cg hs hi hl,h.jo hi,λ q h1 h2 h3=>Classical.byContradiction λ h4=>c9 ⟨q,h1,h2,h3,h4⟩⟩
   obtain⟨q,h1,h2,h3,h4⟩:=this;obtain⟨d,hd,DT,JD⟩:=h.below hs.toSh h1.cg h2;have tN:Sub t.length (lC t C d) (lC t C i):=λ x y hx hy e=>h3 x y hx hy (JD x y hx hy e);have hle:=h.mono hd hi tN;have bm:xk t C d≠xk t C i:=λ e=>h4 λ x y hx hy e2=>JD x y hx hy ((h.rk hd hi).1 e tN x y hx hy e2);obtain⟨p,hp,Yp⟩:=ih (xk t C d) aa hd DT (Nat.le_refl _);exact⟨p,hp,λ x y hx hy e=>tN x y hx hy (Yp x y hx hy e)⟩
theorem cy.atoms(h:cy t g c C lv)(hs:Semi t):cW t (jG t c C lv C.length):=by
 have uG:∀{i},i∈(List.range C.length).filter (uF t c C lv)->i<C.length/\Eb t c C lv i:=λ{i} hi=>by
  have:=List.mem_filter.1 hi;exact⟨List.mem_range.1 this.1,kK.1 this.2⟩
 have eZ:∀l∈jG t c C lv C.length,∃i,i<C.length/\Eb t c C lv i/\l=(dy t.length (C.getD i [])).2:=λ l hl=>by
  obtain⟨i,hi,rfl⟩:=List.mem_map.1 hl;have:=uG hi;exact⟨i,this.1,this.2,rfl⟩
 have bX:∀p,pK t p->∃l∈jG t c C lv C.length,nC t.length (dF l)=p:=λ p hp=>?_;refine⟨λ l hl=>?_,λ l hl=>?_,λ l hl=>?_,bX,?_,λ q hq hj=>?_,?_⟩
 ·obtain⟨i,hi,_,rfl⟩:=eZ l hl;exact(h.sO hi).UG
 ·obtain⟨i,hi,_,rfl⟩:=eZ l hl;have:=(h.sO hi).gh;omega
 ·obtain⟨i,hi,hP,rfl⟩:=eZ l hl
  rw [h.cm hi];exact h.OD hs hi hP
 ·unfold jG
  rw [List.map_map,List.nodup_iff_pairwise_ne,List.pairwise_map];refine List.Pairwise.imp_of_mem ?_ ((List.pairwise_lt_range (n:=C.length)).filter _);intro i j hi hj mo e;obtain⟨bL,hiP⟩:=uG hi;obtain⟨oy,hjP⟩:=uG hj;have e:nC t.length (dF (dy t.length (C.getD i [])).2)=nC t.length (dF (dy t.length (C.getD j [])).2):=e;rw [h.cm bL,h.cm oy]at e;obtain⟨v,hv,Kg,Bu⟩:=h.some bL;obtain⟨v1,v2,_⟩:=iU Kg;have e1:=hjP.2 _ _ Kg.2 v2 (by rw [<-e];exact Kf hv Kg);rw [show v / t.length*t.length+v % t.length=v by rw [Nat.mul_comm];exact Nat.div_add_mod v _,Bu,Int.toNat_natCast,hiP.1]at e1;have:=(e1.resolve_left (by decide)).1;omega
 ·obtain⟨d,hd,DT,JD⟩:=h.below hs.toSh hq.cg hj
  obtain⟨p,hp,Yp⟩:=h.Yo hs (xk t C d) hd DT (Nat.le_refl _);obtain⟨l,hl,e⟩:=bX p hp;exact⟨l,hl,by rw [e];exact λ x y hx hy e2=>JD x y hx hy (Yp x y hx hy e2)⟩
 ·unfold jG
  rw [List.length_map];refine Nat.le_trans (List.length_filter_le _ _) ?_;rw [List.length_range];exact h.xT.Ea λ v hv=>hv.1
 ·obtain⟨d,hd,DT,JD⟩:=h.below hs.toSh hp.cg.cg hp.jo
  have gb:=hp.cg.len
  have eqd:∀{d},d<C.length->lv.getD d false=false->Sub t.length (lC t C d) p->lC t C d=p:=λ{d} hd DT JD=>
   sub_eq zp gb xV hp.cg.val.2 JD (hp.mi _ (h.cg hs hd DT) (h.jo hd) JD)
  have least:∀m i,i<=m->i<C.length->lv.getD i false=false->lC t C i=p->∃i,i<C.length/\lv.getD i false=false/\lC t C i=p/\∀j,j<i->¬(lv.getD j false=false/\lC t C j=p):=by
   intro m
   induction m with
   |zero=>intro i Kh h1 h2 h3;exact⟨i,h1,h2,h3,λ j hj=>by omega⟩
   |succ m ih=>
    intro i Kh h1 h2 h3
    by_cases hex:∃j,j<i/\lv.getD j false=false/\lC t C j=p
    ·obtain⟨j,hj,h4,h5⟩:=hex
     exact ih j aa aa h4 h5
    ·exact⟨i,h1,h2,h3,λ j hj h4=>hex ⟨j,hj,h4⟩⟩
  obtain⟨i,hi,hli,zt,c9⟩:=least d d (Nat.le_refl _) hd DT (eqd hd DT JD)
  have hP:Eb t c C lv i:=by
   refine⟨hli,λ x y xl hy e=>?_⟩;obtain⟨hg,e1,e2⟩:=uB xl hy;have h0:=h.all _ hg;have iw:=(h.xT.ga _ h0).2;have JE:(gC c (x*t.length+y)).toNat<C.length:=aa;cases hl:lv.getD (gC c (x*t.length+y)).toNat false with
   |true=>exact .inl rfl
   |false=>
    right
    have hv:=(h.xT.mem _ (x*t.length+y) JE).2 aa;have h1:=h.sub hs.toSh (q:=lC t C i) (h.cg hs hi hli).cg JE hv (by rw [e1,e2];exact e);have h2:=eqd JE hl (by rw [<-zt];exact h1);refine⟨?_,(h.rk JE hi).2 (h2.trans zt.symm)⟩;have:¬(gC c (x*t.length+y)).toNat<i:=λ aS=>c9 _ aS ⟨hl,h2⟩;omega
  exact⟨_,List.mem_map.2 ⟨i,List.mem_filter.2 ⟨List.mem_range.2 hi,kK.2 hP⟩,rfl⟩,(h.cm hi).trans zt⟩
end
end Go.Proofs.YtgailjhnfghkgaaGreatDoor
end
section
namespace Go.Proofs.YtgailjhnfghkgaaGreatDoor
open Go Go.AM
noncomputable def jP(t:List (List Int)):List (List Int):=@dite _ (∃M,Q1 iW M/\∀p,p∈M↔pK t p) (Classical.propDecidable _) (λ h=>h.choose) λ _=>[]
theorem FV{t:List (List Int)}{M:List (List Int)}(hs:Q1 iW M)(hm:∀p,p∈M↔pK t p):jP t=M:=by
 have h:∃M,Q1 iW M/\∀p,p∈M↔pK t p:=⟨M,hs,hm⟩;unfold jP;rw [dif_pos h];exact Bv uH h.choose_spec.1 hs λ x=>(h.choose_spec.2 x).trans (hm x).symm
theorem cW.Vt{t:List (List Int)}{L:List (List (Int × Int))}(h:cW t L):jP t=Bc iW (L.map λ l=>nC t.length (dF l)):=
 FV (FW uH h.nd) λ p=>by
  rw [tO,List.mem_map];exact⟨λ⟨l,hl,e⟩=>e▸h.mi l hl,h.all p⟩
theorem cW.num{t:List (List Int)}{L:List (List (Int × Int))}(h:cW t L):(jP t).length=L.length:=by rw [h.Vt,OE,List.length_map]
theorem e7(n x:Nat):(List.replicate n (0:Int)).getD x 0=0:=by simp only [List.getD,List.getElem?_replicate];split<;>rfl
theorem OG{t:List (List Int)}(hs:Semi t):cd t (List.replicate t.length 0) 0:=
 ⟨hs,List.length_replicate,⟨by rw [List.length_replicate];have:=hs.toSh.most;omega,fu.2 λ i _=>by unfold dm;rw [e7];omega⟩,by decide,λ x y s _ _ _ _=>⟨λ _=>by rw [e7,e7],λ _=>by rw [e7,e7]⟩⟩
theorem cW.pos{t:List (List Int)}{L:List (List (Int × Int))}(h:cW t L)(hs:Semi t)(h2:2<=t.length):0<L.length:=by
 obtain⟨l,hl,_⟩:=h.bel _ (OG hs) ⟨0,1,aa,aa,aa,by rw [e7,e7]⟩;exact List.length_pos_of_mem hl
end Go.Proofs.YtgailjhnfghkgaaGreatDoor
end
