import Derived.Test.YtgailjhnfghkgaaGreatDoorEnLaw
import Derived.Test.YtgailjhnfghkgaaGreatDoorCgFor
import Derived.Test.YtgailjhnfghkgaaGreatDoorOrd
section
namespace Go.Proofs.YtgailjhnfghkgaaGreatDoor
inductive Rc (d:Nat) (tg:Nat->Nat->Int):Nat->Nat->Prop
 |refl (v:Nat):Rc d tg v v
 |step {v w k x:Nat}:Rc d tg v w->k<d->tg w k=(x:Int)->Rc d tg v x
section
variable{N d:Nat}{tg:Nat->Nat->Int}{G:Nat->Prop}
theorem Rc.trans{a b c:Nat}(h:Rc d tg a b)(h2:Rc d tg b c):Rc d tg a c:=by
 induction h2 with
 |refl=>exact h
 |step _ hk ht ih=>exact ih.step hk ht
def nX{α:Type}(f:Nat->α)(i:Nat)(x:α):Nat->α:=λv=>if v=i then x else f v
theorem dW{α:Type}{f:Nat->α}{i:Nat}{x:α}:nX f i x i=x:=ajq rfl
theorem dh{α:Type}{f:Nat->α}{i v:Nat}{x:α}(h:v≠i):nX f i x v=f v:=ajm h
structure Cl(d:Nat)(tg:Nat->Nat->Int)(G:Nat->Prop)(c:Nat->Int)(comps:List (List Nat))(lv:List Bool):Prop where
 gq:∀v,0<=c v->G v/\c v<(comps.length:Int)
 lvl:lv.length=comps.length
 mem:∀(i v:Nat),i<comps.length->(v∈comps.getD i []↔c v=(i:Int))
 ne:∀i,i<comps.length->comps.getD i []≠[]
 nd:∀i,i<comps.length->(comps.getD i []).Nodup
 Lq:∀v k (w:Nat),0<=c v->k<d->tg v k=(w:Int)->0<=c w/\c w<=c v
 PI:∀v w,0<=c v->c v=c w->Rc d tg v w
 YP:∀i:Nat,i<comps.length->(lv.getD i false=true↔∃v k w:Nat,c v=(i:Int)/\k<d/\tg v k=(w:Int)/\c w≠c v)
def Dn:List (Nat × Nat)->Nat->Nat->Prop
 |[],_,_=>True
 |p::r,v,k=>(p.1=v->k<p.2)/\∀q∈r,q.1=v->k+1<q.2
def Tr(tg:Nat->Nat->Int):List (Nat × Nat)->Prop
 |p::q::r=>(1<=q.2/\tg q.1 (q.2 - 1)=(p.1:Int))/\Tr tg (q::r)
 |_=>True
structure Tj(d:Nat)(tg:Nat->Nat->Int)(G:Nat->Prop)(o l c:Nat->Int)(e:Nat->Bool)(path:List (Nat × Nat))(dK:List Nat)(comps:List (List Nat))(lv:List Bool)(gG:Nat):Prop extends Cl d tg G c comps lv where
 o0:∀v,0<=o v/\o v<=(gG:Int)
 od:∀v,0<o v->G v
 inj:∀v w,0<o v->o v=o w->v=w
 SA:∀k:Nat,1<=k->k<=gG->∃v,o v=(k:Int)
 co:∀v,0<=c v->0<o v
 st:∀v,v∈dK↔(0<o v/\c v<0)
 Cj:dK.Pairwise (λa b=>o b<o a)
 rV:∀p∈path,(0<o p.1/\c p.1<0)/\p.2<=d
 qc:path.Pairwise (λp q=>o q.1<o p.1)
 tree:Tr tg path
 bot:∀v,0<o v->c v<0->∃p∈path,o p.1<=o v
 low:∀v,0<o v->c v<0->l v<=o v/\∃u,(0<o u/\c u<0)/\o u=l v/\Rc d tg v u
 fin:∀v,0<o v->c v<0->(∀p∈path,p.1≠v)->l v<o v
 IY:∀p∈path,∀v,0<o v->c v<0->o p.1<=o v->(∀q∈path,o q.1<=o v->o q.1<=o p.1)->Rc d tg p.1 v/\l p.1<=l v
 O2:∀v k (w:Nat),0<o v->c v<0->Dn path v k->k<d->tg v k=(w:Int)->0<o w/\((0<=c w/\e v=true)\/(c w<0/\l v<=o w/\∀q∈path,o q.1<=o v\/o w<o q.1))
 ext:∀v,0<o v->c v<0->e v=true->∃k w:Nat,k<d/\tg v k=(w:Int)/\0<=c w
 Lr:∀v,o v=0->e v=false
theorem Tj.start:Tj d tg G (λ_=>0) (λ_=>0) (λ_=> -1) (λ_=>false) [] [] [] [] 0:=
 { gq:=λv h=>by omega
   lvl:=rfl,mem:=λi v h=>absurd h (aju _),ne:=λi h=>absurd h (aju _),nd:=λi h=>absurd h (aju _)
   Lq:=λv k w h=>by omega
   PI:=λv w h=>by omega
   YP:=λi h=>absurd h (aju _)
   o0:=λv=>⟨aj5 _,aj5 _⟩,od:=λv h=>absurd h (Int.lt_irrefl _),inj:=λv w h=>absurd h (Int.lt_irrefl _),SA:=λk h1 h2=>by omega
   co:=λv h=>by omega
   st:=λv=>⟨λh=>absurd h akn,λh=>absurd h.1 (Int.lt_irrefl _)⟩,Cj:=List.Pairwise.nil,rV:=λp h=>absurd h akn,qc:=List.Pairwise.nil,tree:=trivial
   bot:=λv h=>absurd h (Int.lt_irrefl _),low:=λv h=>absurd h (Int.lt_irrefl _),fin:=λv h=>absurd h (Int.lt_irrefl _),IY:=λp h=>absurd h akn
   O2:=λv k w h=>absurd h (Int.lt_irrefl _),ext:=λv h=>absurd h (Int.lt_irrefl _),Lr:=λ_ _=>rfl }
variable{o l c:Nat->Int}{e:Nat->Bool}{path rest:List (Nat × Nat)}{dK:List Nat}{comps:List (List Nat)}{lv:List Bool}{gG:Nat}
theorem Tj.top{v k:Nat}(h:Tj d tg G o l c e ((v,k)::rest) dK comps lv gG):∀q∈(v,k)::rest,o q.1<=o v:=λq hq=>by
 rcases ajo.1 hq with rfl|hq
 ·exact aj5 _
 ·exact Int.le_of_lt (List.rel_of_pairwise_cons h.qc hq)
theorem Tj.E8{v k:Nat}(h:Tj d tg G o l c e ((v,k)::rest) dK comps lv gG)(hk:k<d){l':Nat->Int}{e':Nat->Bool}
  (hl:∀u,u≠v->l' u=l u) (WR:l' v<=l v) (he:∀u,u≠v->e' u=e u) (ZI:e v=true->e' v=true)
  (xJ:∃u,(0<o u/\c u<0)/\o u=l' v/\Rc d tg v u)
  (hex:e' v=true->∃k w:Nat,k<d/\tg v k=(w:Int)/\0<=c w)
  (hw:∀w:Nat,tg v k=(w:Int)->0<o w/\((0<=c w/\e' v=true)\/(c w<0/\l' v<=o w))):
  Tj d tg G o l' c e' ((v,k+1)::rest) dK comps lv gG:=by
 have xR:=h.top;have hv:=h.rV _ (ajn ..)
 have mm:∀{P:Nat->Prop},(∀p∈(v,k+1)::rest,P p.1)->∀p∈(v,k)::rest,P p.1:=λhP p hp=>by
  rcases ajo.1 hp with rfl|hp
  ·exact hP (v,k+1) (ajn ..)
  ·exact hP _ (ajj _ hp)
 have m2:∀{P:Nat->Prop},(∀p∈(v,k)::rest,P p.1)->∀p∈(v,k+1)::rest,P p.1:=λhP p hp=>by
  rcases ajo.1 hp with rfl|hp
  ·exact hP (v,k) (ajn ..)
  ·exact hP _ (ajj _ hp)
 have oO:∀u,l' u<=l u:=λu=>by by_cases e1:u=v;· rw [e1];exact WR
                              ·rw [hl u e1];exact aj5 _
 refine { h with rV:=λp hp=>?_,qc:=?_,tree:=?_,bot:=λu h1 h2=>?_,low:=λu h1 h2=>?_,fin:=λu h1 h2 h3=>?_,IY:=λp hp u h1 h2 h3 h4=>?_,O2:=λu j w h1 h2 h3 h4 h5=>?_,ext:=λu h1 h2 h3=>?_,Lr:=λu h1=>?_ }
 ·rcases ajo.1 hp with rfl|hp
  ·exact⟨hv.1,hk⟩
  ·exact h.rV p (ajj _ hp)
 ·have:=akc.1 h.qc
  exact akc.2 ⟨λq hq=>this.1 q hq,this.2⟩
 ·have:=h.tree
  cases rest with
  |nil=>trivial
  |cons q r=>exact this
 ·obtain⟨p,hp,h3⟩:=h.bot u h1 h2
  rcases ajo.1 hp with rfl|hp
  ·exact⟨_,ajn ..,h3⟩
  ·exact⟨_,ajj _ hp,h3⟩
 ·have h3:=h.low u h1 h2
  by_cases e1:u=v
  ·subst e1;exact⟨Int.le_trans WR h3.1,xJ⟩
  ·rw [hl u e1];exact h3
 ·have e1:u≠v:=λe1=>h3 _ (ajn ..) e1.symm
  rw [hl u e1];exact h.fin u h1 h2 (mm (P:=λx=>x≠u) h3)
 ·have h5:=mm (P:=λx=>o x<=o u->o x<=o p.1) h4
  rcases ajo.1 hp with rfl|hp
  ·have h6:=h.IY _ (ajn ..) u h1 h2 h3 h5
   refine⟨h6.1,?_⟩
   by_cases e1:u=v
   ·subst e1;exact aj5 _
   ·rw [hl u e1];exact Int.le_trans WR h6.2
  ·have h6:=h.IY _ (ajj _ hp) u h1 h2 h3 h5
   have h7:o p.1<o v:=List.rel_of_pairwise_cons h.qc hp
   have e1:u≠v:=λe1=>by
    subst e1;have h8:o u<=o p.1:=h5 _ (ajn ..) (aj5 _);omega
   have e2:p.1≠v:=λe2=>by rw [e2]at h7;omega
   rw [hl _ e1,hl _ e2];exact h6
 ·by_cases dL:u=v/\j=k
  ·obtain⟨rfl,rfl⟩:=dL
   obtain⟨h6,h7⟩:=hw w h5;refine⟨h6,h7.imp id λh7=>⟨h7.1,h7.2,m2 (P:=λx=>o x<=o u\/o w<o x) λq hq=>.inl (xR q hq)⟩⟩
  ·have h6:Dn ((v,k)::rest) u j:=⟨λe1=>by have h8:=h3.1 e1;have e1:v=u:=e1;have h8:j<k+1:=h8;show j<k;omega,h3.2⟩
   obtain⟨h7,h8⟩:=h.O2 u j w h1 h2 h6 h4 h5;refine⟨h7,h8.imp (λh8=>⟨h8.1,?_⟩) λh8=>⟨h8.1,Int.le_trans (oO u) h8.2.1,m2 (P:=λx=>o x<=o u\/o w<o x) h8.2.2⟩⟩
   by_cases e1:u=v
   ·rw [e1]at h8 ⊢;exact ZI h8.2
   ·rw [he u e1];exact h8.2
 ·by_cases e1:u=v
  ·subst e1;exact hex h3
  ·rw [he u e1]at h3;exact h.ext u h1 h2 h3
 ·have e1:u≠v:=λe1=>by subst e1;have:=hv.1.1;dsimp only at this;omega
  rw [he u e1];exact h.Lr u h1
theorem Tj.none{v k:Nat}(h:Tj d tg G o l c e ((v,k)::rest) dK comps lv gG)(hk:k<d)(ht:tg v k<0):Tj d tg G o l c e ((v,k+1)::rest) dK comps lv gG:=
 have hv:=h.rV _ (ajn ..)
 h.E8 hk (λ_ _=>rfl) (aj5 _) (λ_ _=>rfl) id (h.low v hv.1.1 hv.1.2).2 (h.ext v hv.1.1 hv.1.2) λw hw=>by omega
theorem Tj.back{v k w:Nat}(h:Tj d tg G o l c e ((v,k)::rest) dK comps lv gG)(hk:k<d)(ht:tg v k=(w:Int))(h1:o w≠0)(h2:c w<0):Tj d tg G o (nX l v (min (l v) (o w))) c e ((v,k+1)::rest) dK comps lv gG:=by
 have hv:=h.rV _ (ajn ..);have ho:=h.o0 w;have KN:=h.low v hv.1.1 hv.1.2;refine h.E8 hk (λ_ hu=>dh hu) (by rw [dW];omega) (λ_ _=>rfl) id ?_ (h.ext v hv.1.1 hv.1.2) λw' hw=>?_
 ·rw [dW]
  by_cases e1:l v<=o w
  ·rw [Int.min_eq_left e1];exact KN.2
  ·rw [Int.min_eq_right aa];exact⟨w,⟨aa,h2⟩,rfl,(Rc.refl v).step hk ht⟩
 ·obtain rfl:w'=w:=by rw [ht]at hw;omega
  exact⟨aa,.inr ⟨h2,by rw [dW];omega⟩⟩
theorem Tj.Ud{v k w:Nat}(h:Tj d tg G o l c e ((v,k)::rest) dK comps lv gG)(hk:k<d)(ht:tg v k=(w:Int))(h2:0<=c w):Tj d tg G o l c (nX e v true) ((v,k+1)::rest) dK comps lv gG:=by
 have hv:=h.rV _ (ajn ..);refine h.E8 hk (λ_ _=>rfl) (aj5 _) (λ_ hu=>dh hu) (λ_=>dW) (h.low v hv.1.1 hv.1.2).2 (λ_=>⟨k,w,hk,ht,h2⟩) λw' hw=>?_;obtain rfl:w'=w:=by rw [ht]at hw;omega
 exact⟨h.co _ h2,.inl ⟨h2,dW⟩⟩
theorem Tj.enter{v:Nat}(h:Tj d tg G o l c e path dK comps lv gG)(hv:G v)(ig:o v=0)
  {path':List (Nat × Nat)} (hp:(path=[]/\path'=[])\/∃p k rest,path=(p,k)::rest/\k<d/\tg p k=(v:Int)/\path'=(p,k+1)::rest):
  Tj d tg G (nX o v ((gG+1:Nat):Int)) (nX l v ((gG+1:Nat):Int)) c e ((v,0)::path') (v::dK) comps lv (gG+1):=by
 have ho:∀u,u≠v->nX o v ((gG+1:Nat):Int) u=o u:=λu hu=>dh hu
 have hc:c v<0:=by
  by_cases h1:0<=c v
  ·have:=h.co v h1;omega
  ·omega
 have bn:∀{u},0<o u->u≠v:=λh1 e1=>by subst e1;omega
 have m1:∀{P:Nat->Prop},(∀p∈path,P p.1)->∀p∈path',P p.1:=λhP p gu=>by
  rcases hp with ⟨_,rfl⟩|⟨q,k,rest,rfl,_,_,rfl⟩
  ·cases gu
  ·rcases ajo.1 gu with rfl|gu
   ·exact hP (q,k) (ajn ..)
   ·exact hP _ (ajj _ gu)
 have m2:∀{P:Nat->Prop},(∀p∈path',P p.1)->∀p∈path,P p.1:=λhP p gu=>by
  rcases hp with ⟨rfl,_⟩|⟨q,k,rest,rfl,_,_,rfl⟩
  ·cases gu
  ·rcases ajo.1 gu with rfl|gu
   ·exact hP (q,k+1) (ajn ..)
   ·exact hP _ (ajj _ gu)
 have mp:∀p∈path',0<o p.1/\c p.1<0:=m1 (P:=λx=>0<o x/\c x<0) λp gu=>(h.rV p gu).1;have o7:nX o v ((gG+1:Nat):Int) v=((gG+1:Nat):Int):=dW;have pos:∀{u},0<nX o v ((gG+1:Nat):Int) u->u≠v->0<o u:=λh1 h2=>by rwa [ho _ h2]at h1
 refine { h.toCl with o0:=λu=>?_,od:=λu h1=>?_,inj:=λu w h1 h2=>?_,SA:=λk h1 h2=>?_,co:=λu h1=>?_,st:=λu=>?_,Cj:=?_,rV:=λp gu=>?_,qc:=?_,tree:=?_,bot:=λu h1 h2=>?_,low:=λu h1 h2=>?_,fin:=λu h1 h2 h3=>?_,IY:=λp gu u h1 h2 h3 h4=>?_,O2:=λu j w h1 h2 h3 h4 h5=>?_,ext:=λu h1 h2 h3=>?_,Lr:=λu h1=>?_ }
 ·by_cases e1:u=v
  ·subst e1;rw [o7];omega
  ·rw [ho u e1];have:=h.o0 u;omega
 ·by_cases e1:u=v
  ·subst e1;exact hv
  ·exact h.od u (pos h1 e1)
 ·have h3:=h.o0 u;have h4:=h.o0 w
  by_cases e1:u=v<;>by_cases e2:w=v
  ·rw [e1,e2]
  ·subst e1;rw [o7,ho w e2]at h2;omega
  ·subst e2;rw [o7,ho u e1]at h2;omega
  ·rw [ho u e1,ho w e2]at h2;exact h.inj u w (pos h1 e1) h2
 ·by_cases e1:k=gG+1
  ·exact⟨v,by rw [o7,e1]⟩
  ·obtain⟨u,hu⟩:=h.SA k h1 aa
   exact⟨u,by rw [ho u (bn aa)];exact hu⟩
 ·have:=h.co u h1;rw [ho u (bn this)];exact this
 ·constructor
  ·intro hu
   rcases ajo.1 hu with rfl|hu
   ·exact⟨by rw [o7];omega,hc⟩
   ·have:=(h.st u).1 hu
    exact⟨by rw [ho u (bn this.1)];exact this.1,this.2⟩
  ·intro hu
   by_cases e1:u=v
   ·rw [e1];exact ajn ..
   ·exact ajj _ ((h.st u).2 ⟨pos hu.1 e1,hu.2⟩)
 ·refine akc.2 ⟨λu hu=>?_,h.Cj.imp_of_mem λ{a b} ha hb mP=>?_⟩
  ·have:=(h.st u).1 hu
   rw [ho u (bn this.1),o7];have:=h.o0 u;omega
  ·rw [ho a (bn ((h.st a).1 ha).1),ho b (bn ((h.st b).1 hb).1)];exact mP
 ·rcases ajo.1 gu with rfl|gu
  ·exact⟨⟨by show 0<nX o v _ v;rw [o7];omega,hc⟩,ajk _⟩
  ·have h1:=mp p gu
   refine⟨⟨by rw [ho _ (bn h1.1)];exact h1.1,h1.2⟩,?_⟩;rcases hp with ⟨_,rfl⟩|⟨q,k,rest,rfl,hk,_,rfl⟩
   ·cases gu
   ·rcases ajo.1 gu with rfl|gu
    ·exact hk
    ·exact(h.rV p (ajj _ gu)).2
 ·refine akc.2 ⟨λp gu=>?_,?_⟩
  ·have h1:=mp p gu
   show nX o v _ p.1<nX o v _ v;rw [ho _ (bn h1.1),o7];have:=h.o0 p.1;omega
  ·have h1:path'.Pairwise (λp q=>o q.1<o p.1):=by
    rcases hp with ⟨_,rfl⟩|⟨q,k,rest,rfl,hk,_,rfl⟩
    ·exact List.Pairwise.nil
    ·have:=akc.1 h.qc
     exact akc.2 ⟨λq hq=>this.1 q hq,this.2⟩
   exact h1.imp_of_mem λ{a b} ha hb mP=>by rw [ho _ (bn (mp a ha).1),ho _ (bn (mp b hb).1)];exact mP
 ·rcases hp with ⟨_,rfl⟩|⟨q,k,rest,rfl,hk,ht,rfl⟩
  ·trivial
  ·refine⟨⟨aa,ht⟩,?_⟩
   have:=h.tree;cases rest with
   |nil=>trivial
   |cons q r=>exact this
 ·by_cases e1:u=v
  ·exact⟨_,ajn ..,by subst e1;exact aj5 _⟩
  ·obtain⟨p,gu,h3⟩:=h.bot u (pos h1 e1) h2
   have h6:∃p∈path',o p.1<=o u:=by
    rcases hp with ⟨rfl,_⟩|⟨q,k,rest,rfl,hk,ht,rfl⟩
    ·cases gu
    ·rcases ajo.1 gu with rfl|gu
     ·exact⟨_,ajn ..,h3⟩
     ·exact⟨_,ajj _ gu,h3⟩
   obtain⟨p,gu,h3⟩:=h6;exact⟨p,ajj _ gu,by rw [ho _ (bn (mp p gu).1),ho _ e1];exact h3⟩
 ·by_cases e1:u=v
  ·subst e1
   rw [o7,dW];exact⟨aj5 _,u,⟨by rw [o7];omega,hc⟩,o7,.refl u⟩
  ·obtain⟨h3,u2,h4,h5,h6⟩:=h.low u (pos h1 e1) h2
   rw [ho _ e1,dh e1];exact⟨h3,u2,⟨by rw [ho _ (bn h4.1)];exact h4.1,h4.2⟩,by rw [ho _ (bn h4.1)];exact h5,h6⟩
 ·have e1:u≠v:=λe1=>h3 _ (ajn ..) e1.symm
  rw [ho _ e1,dh e1];exact h.fin u (pos h1 e1) h2 (m2 (P:=λx=>x≠u) λp gu=>h3 p (ajj _ gu))
 ·rcases ajo.1 gu with rfl|gu
  ·have h3:nX o v _ v<=nX o v _ u:=h3
   rw [o7]at h3
   by_cases e1:u=v
   ·subst e1;exact⟨.refl _,aj5 _⟩
   ·rw [ho u e1]at h3;have:=h.o0 u;omega
  ·have h6:=mp p gu
   have h7:=ho _ (bn h6.1)
   by_cases e1:u=v
   ·subst e1
    have h8:=h4 _ (ajn ..) (aj5 _);have h8:nX o u _ u<=nX o u _ p.1:=h8;rw [h7,o7]at h8;have:=h.o0 p.1;omega
   ·rw [h7,ho u e1]at h3
    rw [dh (bn h6.1),dh e1]
    have h9:∃q∈path,q.1=p.1:=by
     rcases hp with ⟨_,rfl⟩|⟨q,k,rest,rfl,hk,ht,rfl⟩
     ·cases gu
     ·rcases ajo.1 gu with rfl|gu
      ·exact⟨_,ajn ..,rfl⟩
      ·exact⟨_,ajj _ gu,rfl⟩
    obtain⟨q,hq,h9⟩:=h9;rw [<-h9];refine h.IY q hq u (pos h1 e1) h2 (by rw [h9];exact h3) ?_;rw [h9];refine m2 (P:=λx=>o x<=o u->o x<=o p.1) λr hr cA=>?_;have lP:=h4 r (ajj _ hr);rw [ho _ (bn (mp r hr).1),ho u e1,h7]at lP;exact lP cA
 ·have e1:u≠v:=λe1=>by
   subst e1;have:=h3.1 rfl;exact absurd this (aju _)
  have h6:Dn path u j:=by
   have h7:=h3.2;rcases hp with ⟨rfl,_⟩|⟨q,k,rest,rfl,hk,ht,rfl⟩
   ·trivial
   ·exact⟨λe2=>by have h8:=h7 _ (ajn ..) e2;have h8:j+1<k+1:=h8;show j<k;omega,λr hr=>h7 r (ajj _ hr)⟩
  obtain⟨h7,h8⟩:=h.O2 u j w (pos h1 e1) h2 h6 h4 h5;have e2:=bn h7;rw [ho w e2,ho u e1,dh e1];refine⟨h7,h8.imp id λh8=>⟨h8.1,h8.2.1,λq hq=>?_⟩⟩;rcases ajo.1 hq with rfl|hq
  ·right
   show o w<nX o v _ v;rw [o7];have:=h.o0 w;omega
  ·rw [ho _ (bn (mp q hq).1)]
   exact m1 (P:=λx=>o x<=o u\/o w<o x) h8.2.2 q hq
 ·by_cases e1:u=v
  ·subst e1;rw [h.Lr u ig]at h3;cases h3
  ·exact h.ext u (pos h1 e1) h2 h3
 ·by_cases e1:u=v
  ·subst e1;rw [o7]at h1;omega
  ·rw [ho u e1]at h1;exact h.Lr u h1
theorem Dn.cons{v k:Nat}{rest:List (Nat × Nat)}{u j:Nat}(hvr:∀p∈rest,p.1≠v)(h:Dn rest u j)(hj:u=v->j<k):
  Dn ((v,k)::rest) u j\/∃p r,rest=p::r/\p.1=u/\j+1=p.2:=by
 by_cases hv:u=v
 ·exact .inl ⟨λ_=>hj hv,λq hq e1=>absurd (e1.trans hv) (hvr q hq)⟩
 cases rest with
 |nil=>exact .inl ⟨λe1=>absurd e1.symm hv,λq hq=>absurd hq akn⟩
 |cons p r=>
  by_cases e1:p.1=u/\j+1=p.2
  ·exact .inr ⟨p,r,rfl,e1⟩
  ·refine .inl ⟨λe2=>absurd e2.symm hv,λq hq e2=>?_⟩
   rcases ajo.1 hq with rfl|hq
   ·have:=h.1 e2
    have:¬(j+1=q.2):=λe3=>e1 ⟨e2,e3⟩;omega
   ·exact h.2 q hq e2
def Ue(e:Nat->Bool):List (Nat × Nat)->Nat->Bool
 |[],u=>e u
 |p::_,u=>nX e p.1 true u
def tS(o c:Nat->Int)(v:Nat)(u:Nat):Prop:=(0<o u/\c u<0)/\o v<=o u
theorem Tj.close{v k:Nat}(h:Tj d tg G o l c e ((v,k)::rest) dK comps lv gG)(hk:d<=k)(hl:l v=o v)
  {stk' members:List Nat} {b:Bool} {c':Nat->Int}
  (hm:∀u,u∈members↔tS o c v u) (hs:∀u,u∈stk'↔(u∈dK/\¬tS o c v u)) (IZ:stk'.Pairwise (λa b=>o b<o a))
  (hb:b=true↔∃u∈members,e u=true)
  (ZJ:members.Nodup) (s3:∀u,tS o c v u->c' u=(comps.length:Int)) (mX:∀u,¬tS o c v u->c' u=c u):
  Tj d tg G o l c' (Ue e rest) rest stk' (comps++[members]) (lv++[b]) gG:=by
 have xR:=h.top;have hv:=h.rV _ (ajn ..);have O3:0<o v/\c v<0:=hv.1;have tT:tS o c v v:=⟨O3,aj5 _⟩;have vf:∀p∈rest,o p.1<o v:=λp hp=>List.rel_of_pairwise_cons h.qc hp;have ZK:∀p∈rest,p.1≠v:=λp hp e1=>by have:=vf p hp;rw [e1]at this;omega
 have WN:∀p∈rest,¬tS o c v p.1:=λp hp h1=>by have:=vf p hp;have:=h1.2;omega
 have to:∀u,tS o c v u->Rc d tg v u/\l v<=l u:=λu hu=>h.IY _ (ajn ..) u hu.1.1 hu.1.2 hu.2 λq hq _=>xR q hq
 have fro:∀(n:Nat) (u:Nat),tS o c v u->o u<=o v+(n:Int)->Rc d tg u v:=by
  intro n
  induction n with
  |zero=>
   intro u hu hle;have:u=v:=h.inj u v hu.1.1 (by have:=hu.2;omega);rw [this];exact .refl v
  |succ n ih=>
   intro u hu hle
   by_cases e1:u=v
   ·rw [e1];exact .refl v
   ·have h1:=h.fin u hu.1.1 hu.1.2 λp hp e2=>by
     have h2:=xR p hp;rw [e2]at h2;exact e1 (h.inj u v hu.1.1 (by have:=hu.2;omega))
    obtain⟨h2,u2,h3,h4,h5⟩:=h.low u hu.1.1 hu.1.2;have h6:=(to u hu).2;exact h5.trans (ih u2 ⟨h3,aa⟩ aa)
 have fro:∀u,tS o c v u->Rc d tg u v:=λu hu=>fro (o u - o v).toNat u hu aa;have dn:∀u j,tS o c v u->j<d->Dn ((v,k)::rest) u j:=λu j hu hj=>⟨λ_=>ajT hj hk,λq hq e1=>by subst e1;exact absurd hu (WN q hq)⟩
 have edgs:∀u j (w:Nat),tS o c v u->j<d->tg u j=(w:Int)->(0<=c w/\e u=true)\/tS o c v w:=λu j w hu hj ht=>by
  obtain⟨h1,h2⟩:=h.O2 u j w hu.1.1 hu.1.2 (dn u j hu hj) hj ht;refine h2.imp id λh2=>⟨⟨h1,h2.1⟩,?_⟩;have:=(to u hu).2;have:=h2.2.1;omega
 have cs:∀u,0<=c u->¬tS o c v u:=λu h1 h2=>by have:=h2.1.2;omega
 have ct:∀u,0<=c' u->tS o c v u\/(0<=c u/\c' u=c u):=λu h1=>by
  by_cases h2:tS o c v u
  ·exact .inl h2
  ·exact .inr ⟨by rw [mX u h2]at h1;exact h1,mX u h2⟩
 have cneg:∀u,c' u<0->c u<0/\¬tS o c v u:=λu h1=>by
  by_cases h2:tS o c v u
  ·rw [s3 u h2]at h1;omega
  ·exact⟨by rw [mX u h2]at h1;exact h1,h2⟩
 have lt:∀u,0<o u->c u<0->¬tS o c v u->o u<o v:=λu h1 h2 h3=>by
  by_cases h4:o v<=o u
  ·exact absurd ⟨⟨h1,h2⟩,h4⟩ h3
  ·omega
 have gl:∀i,i<comps.length->(comps++[members]).getD i []=comps.getD i []:=λi hi=>by simp [List.getD,List.getElem?_append_left hi]
 have gn:(comps++[members]).getD comps.length []=members:=by simp [List.getD]
 have ll:∀i,i<comps.length->(lv++[b]).getD i false=lv.getD i false:=λi hi=>by simp [List.getD,List.getElem?_append_left (show i<lv.length by rw [h.lvl];exact hi)]
 have ln:(lv++[b]).getD comps.length false=b:=by rw [<-h.lvl];simp [List.getD]
 have lc:(comps++[members]).length=comps.length+1:=by simp
 have da:Cl d tg G c' (comps++[members]) (lv++[b]):=by
  refine⟨λu h1=>?_,by simp [h.lvl],λi u hi=>?_,λi hi=>?_,λi hi=>?_,λu j w h1 h2 h3=>?_,λu w h1 h2=>?_,λi hi=>?_⟩
  ·rw [lc]
   rcases ct u h1 with h2|h2
   ·exact⟨h.od u h2.1.1,by rw [s3 u h2];omega⟩
   ·have:=h.gq u h2.1
    exact⟨this.1,by rw [h2.2];omega⟩
  ·rw [lc]at hi
   by_cases xF:i<comps.length
   ·rw [gl i xF,h.mem i u xF]
    constructor
    ·intro h1;rw [mX u (cs u aa)];exact h1
    ·intro h1
     rcases ct u aa with h2|h2
     ·rw [s3 u h2]at h1;omega
     ·rw [<-h2.2];exact h1
   ·obtain rfl:i=comps.length:=aa
    rw [gn,hm]
    constructor
    ·exact s3 u
    ·intro h1
     rcases ct u aa with h2|h2
     ·exact h2
     ·have:=h.gq u h2.1
      omega
  ·rw [lc]at hi
   by_cases xF:i<comps.length
   ·rw [gl i xF];exact h.ne i xF
   ·obtain rfl:i=comps.length:=aa
    rw [gn];intro h1;have:=(hm v).2 tT;rw [h1]at this;cases this
  ·rw [lc]at hi
   by_cases xF:i<comps.length
   ·rw [gl i xF];exact h.nd i xF
   ·obtain rfl:i=comps.length:=aa
    rw [gn];exact ZJ
  ·rcases ct u h1 with h4|h4
   ·rw [s3 u h4]
    rcases edgs u j w h4 h2 h3 with h5|h5
    ·rw [mX w (cs w h5.1)]
     have:=h.gq w h5.1;omega
    ·rw [s3 w h5];omega
   ·have h5:=h.Lq u j w h4.1 h2 h3
    rw [mX w (cs w h5.1),h4.2];exact h5
  ·rcases ct u h1 with h3|h3<;>rcases ct w aa with h4|h4
   ·exact(fro u h3).trans (to w h4).1
   ·have:=h.gq w h4.1
    rw [s3 u h3]at h2;omega
   ·have:=h.gq u h3.1
    rw [s3 w h4]at h2;omega
   ·exact h.PI u w h3.1 aa
  ·rw [lc]at hi
   by_cases xF:i<comps.length
   ·rw [ll i xF,h.YP i xF]
    constructor
    ·rintro⟨u,j,w,h1,h2,h3,h4⟩
     have h5:=h.Lq u j w aa h2 h3;refine⟨u,j,w,?_,h2,h3,?_⟩
     ·rw [mX u (cs u aa)];exact h1
     ·rw [mX u (cs u aa),mX w (cs w h5.1)];exact h4
    ·rintro⟨u,j,w,h1,h2,h3,h4⟩
     rcases ct u aa with h6|h6
     ·rw [s3 u h6]at h1;omega
     ·have h5:=h.Lq u j w h6.1 h2 h3
      rw [h6.2,mX w (cs w h5.1)]at h4;exact⟨u,j,w,aa,h2,h3,h4⟩
   ·obtain rfl:i=comps.length:=aa
    rw [ln,hb]
    constructor
    ·rintro⟨u,h1,h2⟩
     have h3:=(hm u).1 h1;obtain⟨j,w,h4,h5,h6⟩:=h.ext u h3.1.1 h3.1.2 h2;refine⟨u,j,w,s3 u h3,h4,h5,?_⟩;have:=h.gq w h6;rw [mX w (cs w h6),s3 u h3];omega
    ·rintro⟨u,j,w,h1,h2,h3,h4⟩
     have h5:tS o c v u:=by
      rcases ct u aa with h6|h6
      ·exact h6
      ·have:=h.gq u h6.1;omega
     rcases edgs u j w h5 h2 h3 with h6|h6
     ·exact⟨u,(hm u).2 h5,h6.2⟩
     ·rw [s3 u h5,s3 w h6]at h4;exact absurd rfl h4
 refine { da with o0:=h.o0,od:=h.od,inj:=h.inj,SA:=h.SA,co:=λu h1=>?_,st:=λu=>?_,Cj:=IZ,rV:=λp hp=>?_,qc:=(akc.1 h.qc).2,tree:=?_,bot:=λu h1 h2=>?_,low:=λu h1 h2=>?_,fin:=λu h1 h2 h3=>?_,IY:=λp hp u h1 h2 h3 h4=>?_,O2:=λu j w h1 h2 h3 h4 h5=>?_,ext:=λu h1 h2 h3=>?_,Lr:=λu h1=>?_ }
 ·rcases ct u h1 with h2|h2
  ·exact h2.1.1
  ·exact h.co u h2.1
 ·rw [hs u,h.st u]
  constructor
  ·rintro⟨h1,h2⟩;exact⟨h1.1,by rw [mX u h2];exact h1.2⟩
  ·rintro⟨h1,h2⟩;have:=cneg u h2;exact⟨⟨h1,this.1⟩,this.2⟩
 ·have h1:=h.rV p (ajj _ hp)
  exact⟨⟨h1.1.1,by rw [mX _ (WN p hp)];exact h1.1.2⟩,h1.2⟩
 ·have:=h.tree
  cases rest with
  |nil=>trivial
  |cons q r=>exact this.2
 ·have h3:=cneg u h2
  have h4:=lt u h1 h3.1 h3.2;obtain⟨p,hp,h5⟩:=h.bot u h1 h3.1;rcases ajo.1 hp with rfl|hp
  ·have h5:o v<=o u:=h5;omega
  ·exact⟨p,hp,h5⟩
 ·have h3:=cneg u h2
  have h4:=lt u h1 h3.1 h3.2;obtain⟨h5,u2,h6,h7,h8⟩:=h.low u h1 h3.1;refine⟨h5,u2,⟨h6.1,?_⟩,h7,h8⟩;rw [mX u2 λh9=>by have:=h9.2;omega];exact h6.2
 ·have h4:=cneg u h2
  refine h.fin u h1 h4.1 λp hp e1=>?_;rcases ajo.1 hp with rfl|hp
  ·have e1:v=u:=e1
   subst e1;exact h4.2 tT
  ·exact h3 p hp e1
 ·have h5:=cneg u h2
  have h6:=lt u h1 h5.1 h5.2;refine h.IY p (ajj _ hp) u h1 h5.1 h3 λq hq h7=>?_;rcases ajo.1 hq with rfl|hq
  ·have h7:o v<=o u:=h7;omega
  ·exact h4 q hq h7
 ·have h6:=cneg u h2
  have h7:=lt u h1 h6.1 h6.2
  have hex:e u=true->Ue e rest u=true:=λh8=>by
   cases rest with
   |nil=>exact h8
   |cons p r=>show nX e p.1 true u=true;unfold nX;split<;>first|rfl|exact h8
  rcases Dn.cons ZK h3 (k:=k) (λe1=>by subst e1;omega)with h8|⟨p,r,rfl,rfl,h9⟩
  ·obtain⟨h9,cA⟩:=h.O2 u j w h1 h6.1 h8 h4 h5
   refine⟨h9,?_⟩;rcases cA with cA|cA
   ·exact .inl ⟨by rw [mX w (cs w cA.1)];exact cA.1,hex cA.2⟩
   ·have lP:¬tS o c v w:=λoP=>by
     have oQ:o v<=o u\/o w<o v:=cA.2.2 _ (ajn ..);have:=oP.2;omega
    exact .inr ⟨by rw [mX w lP];exact cA.1,cA.2.1,λq hq=>cA.2.2 q (ajj _ hq)⟩
  ·have cA:1<=p.2/\tg p.1 (p.2 - 1)=(v:Int):=h.tree.1
   rw [<-h9,Nat.add_sub_cancel,h5]at cA;have e1:w=v:=aa;subst e1;exact⟨O3.1,.inl ⟨by rw [s3 w tT];omega,dW⟩⟩
 ·have h4:=cneg u h2
  have main:e u=true->∃k w:Nat,k<d/\tg u k=(w:Int)/\0<=c' w:=λh5=>by
   obtain⟨j,w,h6,h7,h8⟩:=h.ext u h1 h4.1 h5;exact⟨j,w,h6,h7,by rw [mX w (cs w h8)];exact h8⟩
  cases rest with
  |nil=>exact main h3
  |cons p r=>
   by_cases e1:u=p.1
   ·have cA:1<=p.2/\tg p.1 (p.2 - 1)=(v:Int):=h.tree.1
    have lP:=(h.rV p (ajj _ (ajn ..))).2;exact⟨p.2 - 1,v,aa,by rw [e1];exact cA.2,by rw [s3 v tT];omega⟩
   ·have h3:nX e p.1 true u=true:=h3
    rw [dh e1]at h3;exact main h3
 ·cases rest with
  |nil=>exact h.Lr u h1
  |cons p r=>
   have h2:=h.rV p (ajj _ (ajn ..));have e1:u≠p.1:=λe1=>by rw [e1]at h1;omega
   show nX e p.1 true u=false;rw [dh e1];exact h.Lr u h1
theorem Tj.Uf{v k:Nat}(h:Tj d tg G o l c e ((v,k)::rest) dK comps lv gG)(hk:d<=k)(hl:l v≠o v):
  ∃p j r,rest=(p,j)::r/\p≠v/\Tj d tg G o (nX l p (min (l p) (l v))) c e rest dK comps lv gG:=by
 have xR:=h.top;have hv:=h.rV _ (ajn ..);have O3:0<o v/\c v<0:=hv.1;have vf:∀p∈rest,o p.1<o v:=λp hp=>List.rel_of_pairwise_cons h.qc hp;have ZK:∀p∈rest,p.1≠v:=λp hp e1=>by have:=vf p hp;rw [e1]at this;omega
 obtain⟨KN,u0,ZL,hu1,PJ⟩:=h.low v O3.1 O3.2;obtain⟨q0,Ug,IP⟩:=h.bot u0 ZL.1 ZL.2
 have GN:q0∈rest:=by
  rcases ajo.1 Ug with rfl|Ug
  ·have IP:o v<=o u0:=IP;omega
  ·exact Ug
 cases rest with
 |nil=>cases GN
 |cons pj r=>
  obtain⟨p,j⟩:=pj;have WS:1<=j/\tg p (j - 1)=(v:Int):=h.tree.1;have hpp:(0<o p/\c p<0)/\j<=d:=h.rV (p,j) (ajj _ (ajn ..));have hpv:o p<o v:=vf (p,j) (ajn ..);have bn:p≠v:=λe1=>by rw [e1]at hpv;omega
  have rpv:Rc d tg p v:=(Rc.refl p).step (k:=j - 1) aa WS.2;have Lu:=(akc.1 h.qc).2
  have oO:∀u,nX l p (min (l p) (l v)) u<=l u:=λu=>by
   by_cases e1:u=p
   ·rw [e1,dW];omega
   ·rw [dh e1];exact aj5 _
  refine⟨p,j,r,rfl,bn,{ h.toCl with o0:=h.o0,od:=h.od,inj:=h.inj,SA:=h.SA,co:=h.co,st:=h.st,Cj:=h.Cj,rV:=λq hq=>h.rV q (ajj _ hq),qc:=Lu,tree:=h.tree.2,bot:=λu h1 h2=>?_,low:=λu h1 h2=>?_,fin:=λu h1 h2 h3=>?_,IY:=λq hq u h1 h2 h3 h4=>?_,O2:=λu i w h1 h2 h3 h4 h5=>?_,ext:=h.ext,Lr:=h.Lr }⟩
  ·obtain⟨q,hq,h3⟩:=h.bot u h1 h2
   rcases ajo.1 hq with rfl|hq
   ·have h3:o v<=o u:=h3
    exact⟨_,ajn ..,by show o p<=o u;omega⟩
   ·exact⟨q,hq,h3⟩
  ·have h3:=h.low u h1 h2
   by_cases e1:u=p
   ·subst e1
    rw [dW];refine⟨aa,?_⟩
    by_cases e2:l u<=l v
    ·rw [Int.min_eq_left e2];exact h3.2
    ·rw [Int.min_eq_right aa];exact⟨u0,ZL,hu1,rpv.trans PJ⟩
   ·rw [dh e1];exact h3
  ·have e1:u≠p:=λe1=>h3 _ (ajn ..) e1.symm
   rw [dh e1]
   by_cases e2:u=v
   ·subst e2;omega
   ·refine h.fin u h1 h2 λq hq e3=>?_
    rcases ajo.1 hq with rfl|hq
    ·exact e2 e3.symm
    ·exact h3 q hq e3
  ·rcases ajo.1 hq with rfl|hq
   ·have h3:o p<=o u:=h3
    show Rc d tg p u/\nX l p (min (l p) (l v)) p<=nX l p (min (l p) (l v)) u;rw [dW]
    by_cases e1:o v<=o u
    ·have h5:=h.IY _ (ajn ..) u h1 h2 e1 λq hq _=>xR q hq
     have h6:l v<=l u:=h5.2;have e2:u≠p:=λe2=>by rw [e2]at e1;omega
     rw [dh e2];exact⟨rpv.trans h5.1,aa⟩
    ·have h5:=h.IY (p,j) (ajj _ (ajn ..)) u h1 h2 h3 λq hq h6=>by
      rcases ajo.1 hq with rfl|hq
      ·exact absurd h6 e1
      ·exact h4 q hq h6
     have h6:l p<=l u:=h5.2;refine⟨h5.1,?_⟩
     by_cases e2:u=p
     ·rw [e2,dW];exact aj5 _
     ·rw [dh e2];omega
   ·have h6:o q.1<o p:=List.rel_of_pairwise_cons Lu hq
    have h7:o u<o p:=by
     by_cases h8:o p<=o u
     ·have h9:o p<=o q.1:=h4 _ (ajn ..) h8
      omega
     ·omega
    rw [dh (λe1=>by rw [e1]at h6;omega),dh (λe1=>by rw [e1]at h7;omega)];refine h.IY q (ajj _ (ajj _ hq)) u h1 h2 h3 λq' Ac h8=>?_;rcases ajo.1 Ac with rfl|Ac
    ·have h8:o v<=o u:=h8;omega
    ·exact h4 q' Ac h8
  ·rcases Dn.cons ZK h3 (k:=k) (λe1=>by omega)with h8|⟨p',r',h6,rfl,h9⟩
   ·obtain⟨h9,cA⟩:=h.O2 u i w h1 h2 h8 h4 h5
    exact⟨h9,cA.imp id λcA=>⟨cA.1,Int.le_trans (oO u) cA.2.1,λq hq=>cA.2.2 q (ajj _ hq)⟩⟩
   ·cases h6
    have WT:=WS.2;have h9:i+1=j:=h9;rw [<-h9,Nat.add_sub_cancel]at WT;have h5:tg p i=(w:Int):=h5;have e1:w=v:=by rw [h5]at WT;omega
    subst e1;refine⟨O3.1,.inr ⟨O3.2,?_,λq hq=>.inl ?_⟩⟩
    ·show nX l p _ p<=o w
     rw [dW];omega
    ·rcases ajo.1 hq with rfl|hq
     ·exact aj5 _
     ·exact Int.le_of_lt (List.rel_of_pairwise_cons Lu hq)
theorem Tj.WU{o l c:Nat->Int}(h:Tj d tg G o l c e [] dK comps lv gG):dK=[]/\∀v,0<o v->0<=c v:=by
 have h1:∀v,0<o v->0<=c v:=λv h1=>by
  by_cases h2:0<=c v
  ·exact h2
  ·obtain⟨p,hp,_⟩:=h.bot v h1 aa
   cases hp
 refine⟨?_,h1⟩;cases dK with
 |nil=>rfl
 |cons a m=>
  have h2:=(h.st a).1 (ajn ..);have:=h1 a h2.1;omega
end
end Go.Proofs.YtgailjhnfghkgaaGreatDoor
end
section
namespace Go.Proofs.YtgailjhnfghkgaaGreatDoor
open Go Go.AM
def SB(n a b:Nat):Int:=if a=b then -1 else ((min a b*n+max a b:Nat):Int)
def gZ(t:List (List Int))(z x k:Nat):Nat:=if k % 2=0 then en t z x else en t x z
def o8(t:List (List Int))(g:List Int)(v k:Nat):Int:=SB t.length (gZ t (g.getD (k / 2) 0).toNat (v / t.length) k) (gZ t (g.getD (k / 2) 0).toNat (v % t.length) k)
def Gp(n:Nat)(v:Nat):Prop:=v<n*n/\v / n<v % n
theorem vg{n x y:Nat}(h:x<y)(hy:y<n):Gp n (x*n+y)/\(x*n+y) / n=x/\(x*n+y) % n=y:=by
 have h1:(x*n+y) / n=x:=by rw [aki,Nat.mul_add_div aa,Nat.div_eq_of_lt hy];omega
 have h2:(x*n+y) % n=y:=by rw [aki,Nat.mul_add_mod,Nat.mod_eq_of_lt hy]
 have h3:x*n+n<=n*n:=by
  have:(x+1)*n<=n*n:=ajO n aa;rw [Nat.succ_mul]at this;exact this
 exact⟨⟨aa,by rw [h1,h2];exact h⟩,h1,h2⟩
theorem jn{n v:Nat}(h:Gp n v):v / n<n/\v % n<n/\0<n:=by
 have hn:0<n:=by
  rcases aj1 n with h0|h0
  ·subst h0;have:=h.1;omega
  ·exact h0
 have h2:=Nat.mod_lt v hn;have:=h.2;exact⟨aa,h2,hn⟩
section
variable{t:List (List Int)}{g:List Int}{v k:Nat}
theorem SC(hs:Sh t)(hg:∀x∈g,0<=x/\x<(t.length:Int))(hv:Gp t.length v)(hk:k<2*g.length){w:Nat}(h:o8 t g v k=(w:Int)):Gp t.length w:=by
 have hz:(g.getD (k / 2) 0).toNat<t.length:=by have:=hg _ (al (d:=0) (i:=k / 2) (l:=g) aa);omega
 obtain⟨h1,h2,h3⟩:=jn hv;have ha:gZ t (g.getD (k / 2) 0).toNat (v / t.length) k<t.length:=by unfold gZ;split;exact(hs.bF hz h1).2;exact(hs.bF h1 hz).2
 have hb:gZ t (g.getD (k / 2) 0).toNat (v % t.length) k<t.length:=by unfold gZ;split;exact(hs.bF hz h2).2;exact(hs.bF h2 hz).2
 unfold o8 SB at h;split at h
 ·omega
 ·rename_i bn
  have e:w=min (gZ t (g.getD (k / 2) 0).toNat (v / t.length) k) (gZ t (g.getD (k / 2) 0).toNat (v % t.length) k)*t.length+max (gZ t (g.getD (k / 2) 0).toNat (v / t.length) k) (gZ t (g.getD (k / 2) 0).toNat (v % t.length) k):=aa;rw [e];exact(vg aa aa).1
end
def my(L:List Int)(v:Nat):Int:=L.getD v 0
def gC(L:List Int)(v:Nat):Int:=L.getD v (-1)
def gB(L:List Bool)(v:Nat):Bool:=L.getD v false
theorem ka{L:List Int}{v:Nat}{x:Int}(h:v<L.length):my (L.set v x)=nX (my L) v x:=funext λu=>by
 unfold my nX;split
 ·rename_i e;subst e;exact aB h
 ·rename_i e;exact getD_set_ne (Ne.symm e)
theorem Uh{L:List Int}{v:Nat}{x:Int}(h:v<L.length):gC (L.set v x)=nX (gC L) v x:=funext λu=>by
 unfold gC nX;split
 ·rename_i e;subst e;exact aB h
 ·rename_i e;exact getD_set_ne (Ne.symm e)
theorem Lv{L:List Bool}{v:Nat}{x:Bool}(h:v<L.length):gB (L.set v x)=nX (gB L) v x:=funext λu=>by
 unfold gB nX;split
 ·rename_i e;subst e;exact aB h
 ·rename_i e;exact getD_set_ne (Ne.symm e)
theorem yy{L:List Int}{v:Nat}(h:v<L.length):L.getD v 0=gC L v:=by unfold gC;rw [getD_eq h,getD_eq h]
def aQ(P:List (Nat × Nat)):List (Int × Int):=(P.map λp=>((p.1:Int),(p.2:Int))).reverse
def pU(K:List Nat):List Int:=K.map λx:Nat=>(x:Int)
def ik(K:List Nat):List Int:=(pU K).reverse
def oB(C:List (List Nat)):List (List Int):=C.map pU
theorem fR(P:List (Nat × Nat)):(aQ P).length=P.length:=by simp [aQ]
theorem qd(K:List Nat):(ik K).length=K.length:=by simp [ik,pU]
theorem Ad(K:List Nat):(pU K).length=K.length:=by simp [pU]
theorem vh(C:List (List Nat)):(oB C).length=C.length:=by simp [oB]
theorem mY(p:Nat × Nat)(P:List (Nat × Nat)):aQ P++[((p.1:Int),(p.2:Int))]=aQ (p::P):=by simp [aQ]
theorem Lw(v:Nat)(K:List Nat):ik K++[(v:Int)]=ik (v::K):=by simp [ik,pU]
theorem PK(C:List (List Nat))(m:List Nat):oB C++[pU m]=oB (C++[m]):=by simp [oB]
theorem uA{K:List Nat}{i:Nat}(h:i<K.length):(pU K).getD i 0=((K.getD i 0:Nat):Int):=by simp [pU,List.getD,h]
theorem vi(p:Nat × Nat)(P:List (Nat × Nat)):(aQ (p::P)).getD P.length (0,0)=((p.1:Int),(p.2:Int)):=by
 rw [<-mY];simp [List.getD,<-fR P]
theorem PL(p q:Nat × Nat)(P:List (Nat × Nat)):(aQ (p::P)).set P.length ((q.1:Int),(q.2:Int))=aQ (q::P):=by
 rw [<-mY,<-mY,<-fR P,List.set_append_right _ _ (ajl _)];simp
theorem PM(p:Nat × Nat)(P:List (Nat × Nat)):(aQ (p::P)).take P.length=aQ P:=by
 rw [<-mY,<-fR P];simp
theorem rW(A:List Nat)(v:Nat)(B:List Nat):ik (A++v::B)=ik B++pU (v::A.reverse):=by simp [ik,pU]
theorem Ui(A:List Nat)(v:Nat)(B:List Nat){j:Nat}(hj:j<=A.length):(ik (A++v::B)).getD (B.length+j) 0=(((v::A.reverse).getD j 0:Nat):Int):=by
 rw [rW,<-qd B];simp only [List.getD];rw [aj2 aa,Nat.add_sub_cancel_left];have:=uA (K:=v::A.reverse) (i:=j) (by simp;omega)
 simpa only [List.getD]using this
theorem Lx(A:List Nat)(v:Nat)(B:List Nat):(ik (A++v::B)).drop B.length=pU (v::A.reverse):=by
 rw [rW,<-qd B];simp
theorem Ly(A:List Nat)(v:Nat)(B:List Nat):(ik (A++v::B)).take B.length=ik B:=by
 rw [rW,<-qd B];simp
theorem Ck{α:Type}{f:α->Int}{m:Nat}:∀{L:List α},L.Pairwise (λa b=>f b<f a)->(∀a∈L,0<f a/\f a<=(m:Int))->L.length<=m:=by
 intro L
 induction L generalizing m with
 |nil=>intro _ _;exact ajk _
 |cons a L ih=>
  intro hp hr;have h1:=akc.1 hp;have h2:=hr a (ajn ..)
  have h3:=ih (m:=(f a).toNat - 1) h1.2 λb hb=>by
   have:=h1.1 b hb;have:=hr b (ajj _ hb);omega
  simp only [ajY];omega
def c5(c:List Int)(i:Nat)(ms:List Nat):List Int:=ms.foldl (λc u=>c.set u (i:Int)) c
theorem vj(c:List Int)(i:Nat)(ms:List Nat):(c5 c i ms).length=c.length:=by
 unfold c5
 induction ms generalizing c with
 |nil=>rfl
 |cons a ms ih=>rw [akl,ih,ajv]
theorem Cm(c:List Int)(i:Nat)(ms:List Nat)(u:Nat):c5 c i (ms++[u])=(c5 c i ms).set u (i:Int):=by unfold c5;rw [List.foldl_append];rfl
theorem o9{c:List Int}{i:Nat}{ms:List Nat}(hm:∀u∈ms,u<c.length)(u:Nat):gC (c5 c i ms) u=if u∈ms then (i:Int) else gC c u:=by
 unfold c5
 induction ms generalizing c with
 |nil=>rfl
 |cons a ms ih=>
  rw [akl,ih λu hu=>by rw [ajv];exact hm u (ajj _ hu),Uh (hm a (ajn ..))]
  by_cases h1:u∈ms
  ·rw [ajq h1,ajq (ajj _ h1)]
  ·rw [ajm h1]
   by_cases h2:u=a
   ·subst h2;rw [ajq (ajn ..),dW]
   ·rw [dh h2,ajm λh3=>(ajo.1 h3).elim h2 h1]
def mJ(e:List Bool)(ms:List Nat):Bool:=ms.foldl (λb u=>b||gB e u) false
theorem I0(e:List Bool)(ms:List Nat)(u:Nat):mJ e (ms++[u])=(mJ e ms||gB e u):=by unfold mJ;rw [List.foldl_append];rfl
theorem Lz{e:List Bool}{ms:List Nat}:mJ e ms=true↔∃u∈ms,gB e u=true:=by
 have:∀(ms:List Nat) (b:Bool),ms.foldl (λb u=>b||gB e u) b=true↔b=true\/∃u∈ms,gB e u=true:=λms=>by
  induction ms with
  |nil=>intro b;simp
  |cons a ms ih=>
   intro b;rw [akl,ih,Bool.or_eq_true]
   constructor
   ·rintro ((h|h)|⟨u,h,h2⟩)
    ·exact .inl h
    ·exact .inr ⟨a,ajn ..,h⟩
    ·exact .inr ⟨u,ajj _ h,h2⟩
   ·rintro (h|⟨u,h,h2⟩)
    ·exact .inl (.inl h)
    ·rcases ajo.1 h with rfl|h
     ·exact .inl (.inr h2)
     ·exact .inr ⟨u,h,h2⟩
 unfold mJ;rw [this];simp
end Go.Proofs.YtgailjhnfghkgaaGreatDoor
end
section
namespace Go.Proofs.YtgailjhnfghkgaaGreatDoor
section
variable{N d:Nat}{tg:Nat->Nat->Int}{G:Nat->Prop}{o l c:Nat->Int}{e:Nat->Bool}{path:List (Nat × Nat)}{dK:List Nat}{comps:List (List Nat)}{lv:List Bool}{gG:Nat}
theorem mz{α:Type}{f:Nat->α}{n:Nat}(h:∀a b,a<b->b<n->f a≠f b):((List.range n).map f).Nodup:=by
 rw [aj9,List.pairwise_map];refine List.Pairwise.imp_of_mem ?_ (List.pairwise_lt_range (n:=n));intro a b _ hb mP;exact h a b mP (ajJ.1 hb)
theorem Tj.E9(h:Tj d tg G o l c e path dK comps lv gG)(hG:∀v,G v->v<N):gG<=N/\∀v,G v->o v=0->gG<N:=by
 have hex:∀k:Nat,∃v,k<gG->o v=((k+1:Nat):Int):=λk=>by
  by_cases hk:k<gG
  ·obtain⟨v,hv⟩:=h.SA (k+1) aa aa
   exact⟨v,λ_=>hv⟩
  ·exact⟨0,λoC=>absurd oC hk⟩
 have hf:∀k,k<gG->o (hex k).choose=((k+1:Nat):Int):=λk hk=>(hex k).choose_spec hk
 have hn:((List.range gG).map λk=>(hex k).choose).Nodup:=mz λa b mP hb e1=>by
  have h1:=hf a aa;have h2:=hf b hb;rw [e1,h2]at h1;omega
 have hs:∀x∈(List.range gG).map λk=>(hex k).choose,0<o x/\x∈List.range N:=λx hx=>by
  obtain⟨k,hk,rfl⟩:=ajU.1 hx;have h1:=hf k (ajJ.1 hk);have h2:0<o (hex k).choose:=by rw [h1];omega
  exact⟨h2,ajJ.2 (hG _ (h.od _ h2))⟩
 refine⟨by have:=b9 hn λx hx=>(hs x hx).2;simpa using this,λv hv ig=>?_⟩
 have:=b9 (A:=v::(List.range gG).map λk=>(hex k).choose) (B:=List.range N) (akw.2 ⟨λhm=>by have:=(hs v hm).1;omega,hn⟩) λx hx=>by
  rcases ajo.1 hx with rfl|hx
  ·exact ajJ.2 (hG _ hv)
  ·exact(hs x hx).2
 simp at this;omega
theorem Cl.Fa(h:Cl d tg G c comps lv)(hG:∀v,G v->v<N):comps.length<=N:=by
 have hex:∀i:Nat,∃v,i<comps.length->c v=(i:Int):=λi=>by
  by_cases hi:i<comps.length
  ·cases hc:comps.getD i []with
   |nil=>exact absurd hc (h.ne i hi)
   |cons v r=>exact⟨v,λ_=>(h.mem i v hi).1 (by rw [hc];exact ajn ..)⟩
  ·exact⟨0,λAa=>absurd Aa hi⟩
 have hf:∀i,i<comps.length->c (hex i).choose=(i:Int):=λi hi=>(hex i).choose_spec hi
 have:=b9 (A:=(List.range comps.length).map λi=>(hex i).choose) (B:=List.range N) (mz λa b mP hb e1=>by
  have h1:=hf a aa;have h2:=hf b hb;rw [e1,h2]at h1;omega) λx hx=>by
  obtain⟨i,hi,rfl⟩:=ajU.1 hx;have h1:=hf i (ajJ.1 hi);exact ajJ.2 (hG _ (h.gq _ aa).1)
 simpa using this
theorem Tj.lens(h:Tj d tg G o l c e path dK comps lv gG):path.length<=gG/\dK.length<=gG:=
 ⟨Ck (f:=λp:Nat × Nat=>o p.1) h.qc λp hp=>⟨(h.rV p hp).1.1,(h.o0 p.1).2⟩,Ck (f:=o) h.Cj λv hv=>⟨((h.st v).1 hv).1,(h.o0 v).2⟩⟩
end
def EO(N d:Nat)(P:List (Nat × Nat))(m:Nat):Nat:=(N - m)*(d+2)+(P.map λp=>d+1 - p.2).sum
theorem I4{N d m v p k:Nat}{r:List (Nat × Nat)}(hm:m<N)(hk:k<d):EO N d ((v,0)::(p,k+1)::r) (m+1)<EO N d ((p,k)::r) m:=by
 unfold EO
 have h1:(N - m)*(d+2)=(N - (m+1))*(d+2)+(d+2):=by
  rw [<-Nat.succ_mul];congr 1;omega
 simp only [akd,List.sum_cons];omega
theorem LA{N d m p k:Nat}{r:List (Nat × Nat)}(hk:k<d):EO N d ((p,k+1)::r) m<EO N d ((p,k)::r) m:=by
 unfold EO;simp only [akd,List.sum_cons];omega
theorem PN{N d m p k:Nat}{r:List (Nat × Nat)}(hk:k<=d):EO N d r m<EO N d ((p,k)::r) m:=by
 unfold EO;simp only [akd,List.sum_cons];omega
structure Vs(t:List (List Int))(g:List Int)(o l c:List Int)(e:List Bool)(P:List (Nat × Nat))(K:List Nat)(C:List (List Nat))(lv:List Bool)(m:Nat):Prop where
 ol:o.length=t.length*t.length
 ll:l.length=t.length*t.length
 cl:c.length=t.length*t.length
 el:e.length=t.length*t.length
 tj:Tj (2*g.length) (o8 t g) (Gp t.length) (my o) (my l) (gC c) (gB e) P K C lv m
section
variable{t:List (List Int)}{g o l c:List Int}{e:List Bool}{P r:List (Nat × Nat)}{K:List Nat}{C:List (List Nat)}{lv:List Bool}{m v k w:Nat}
theorem Vs.ZM(h:Vs t g o l c e P K C lv m):m<=t.length*t.length/\(∀v,Gp t.length v->my o v=0->m<t.length*t.length)/\P.length<=m/\K.length<=m/\C.length<=t.length*t.length/\lv.length=C.length:=by
 have h1:=h.tj.E9 (N:=t.length*t.length) λv hv=>hv.1;have h2:=h.tj.lens;exact⟨h1.1,h1.2,h2.1,h2.2,h.tj.toCl.Fa λv hv=>hv.1,h.tj.lvl⟩
theorem Vs.gp(h:Vs t g o l c e ((v,k)::r) K C lv m):Gp t.length v/\v<t.length*t.length:=by
 have h1:=h.tj.od _ (h.tj.rV _ (ajn ..)).1.1;exact⟨h1,h1.1⟩
theorem Vs.enter(h:Vs t g o l c e P K C lv m)(hv:Gp t.length v)(ig:my o v=0){P':List (Nat × Nat)}(hp:(P=[]/\P'=[])\/∃p k rest,P=(p,k)::rest/\k<2*g.length/\o8 t g p k=(v:Int)/\P'=(p,k+1)::rest):
  Vs t g (o.set v ((m+1:Nat):Int)) (l.set v ((m+1:Nat):Int)) c e ((v,0)::P') (v::K) C lv (m+1):=
 ⟨by rw [ajv];exact h.ol,by rw [ajv];exact h.ll,h.cl,h.el,by
  rw [ka (by rw [h.ol];exact hv.1),ka (by rw [h.ll];exact hv.1)];exact h.tj.enter hv ig hp⟩
theorem Vs.none(h:Vs t g o l c e ((v,k)::r) K C lv m)(hk:k<2*g.length)(ht:o8 t g v k<0):Vs t g o l c e ((v,k+1)::r) K C lv m:=⟨h.ol,h.ll,h.cl,h.el,h.tj.none hk ht⟩
theorem Vs.back(h:Vs t g o l c e ((v,k)::r) K C lv m)(hk:k<2*g.length)(ht:o8 t g v k=(w:Int))(h1:my o w≠0)(h2:gC c w<0):Vs t g o (l.set v (min (l.getD v 0) (o.getD w 0))) c e ((v,k+1)::r) K C lv m:=
 ⟨h.ol,by rw [ajv];exact h.ll,h.cl,h.el,by
   rw [ka (by rw [h.ll];exact h.gp.2)];exact h.tj.back hk ht h1 h2⟩
theorem Vs.Ud(h:Vs t g o l c e ((v,k)::r) K C lv m)(hk:k<2*g.length)(ht:o8 t g v k=(w:Int))(h2:0<=gC c w):Vs t g o l c (e.set v true) ((v,k+1)::r) K C lv m:=
 ⟨h.ol,h.ll,h.cl,by rw [ajv];exact h.el,by
   rw [Lv (by rw [h.el];exact h.gp.2)];exact h.tj.Ud hk ht h2⟩
theorem Vs.split(h:Vs t g o l c e ((v,k)::r) K C lv m):∃A B,K=A++v::B/\v∉A/\(∀u∈v::A.reverse,u<c.length/\u<e.length)/\(∀u,u∈v::A.reverse↔tS (my o) (gC c) v u)/\(∀u,u∈B↔(u∈K/\¬tS (my o) (gC c) v u))/\B.Pairwise (λa b=>my o b<my o a):=by
 have hv:=(h.tj.rV _ (ajn ..)).1;have hv:0<my o v/\gC c v<0:=hv;obtain⟨A,B,rfl⟩:=List.append_of_mem ((h.tj.st v).2 hv);have WV:=List.pairwise_append.1 h.tj.Cj;have hB:=akc.1 WV.2.1;have hA:∀u∈A,my o v<my o u:=λu hu=>WV.2.2 u hu v (ajn ..);have cX:=h.tj.st
 have I5:∀u,u∈v::A.reverse↔tS (my o) (gC c) v u:=λu=>by
  constructor
  ·intro hu
   rcases ajo.1 hu with rfl|hu
   ·exact⟨hv,aj5 _⟩
   ·have hu:=List.mem_reverse.1 hu
    exact⟨(cX u).1 (aj8 _ hu),Int.le_of_lt (hA u hu)⟩
  ·intro hu
   rcases ajK.1 ((cX u).2 hu.1)with h1|h1
   ·exact ajj _ (List.mem_reverse.2 h1)
   ·rcases ajo.1 h1 with rfl|h1
    ·exact ajn ..
    ·have:=hB.1 u h1
     have:=hu.2;omega
 refine⟨A,B,rfl,λhm=>absurd (hA v hm) (Int.lt_irrefl _),λu hu=>?_,I5,λu=>?_,hB.2⟩
 ·have h1:=h.tj.od u ((I5 u).1 hu).1.1
  rw [h.cl,h.el];exact⟨h1.1,h1.1⟩
 ·rw [<-I5 u]
  constructor
  ·intro hu
   refine⟨akr _ (ajj _ hu),λhm=>?_⟩;have h1:=hB.1 u hu;rcases ajo.1 hm with rfl|hm
   ·omega
   ·have:=hA u (List.mem_reverse.1 hm);omega
  ·rintro⟨h1,h2⟩
   rcases ajK.1 h1 with h1|h1
   ·exact absurd (ajj _ (List.mem_reverse.2 h1)) h2
   ·rcases ajo.1 h1 with rfl|h1
    ·exact absurd (ajn ..) h2
    ·exact h1
def V7(e:List Bool):List (Nat × Nat)->List Bool
 |[]=>e
 |p::_=>e.set p.1 true
theorem Vs.close{A B:List Nat}(h:Vs t g o l c e ((v,k)::r) (A++v::B) C lv m)(hk:2*g.length<=k)(hl:l.getD v 0=o.getD v 0)
  (hm:∀u,u∈v::A.reverse↔tS (my o) (gC c) v u) (hb:∀u,u∈B↔(u∈A++v::B/\¬tS (my o) (gC c) v u)) (hs:B.Pairwise (λa b=>my o b<my o a)) (fg:∀u∈v::A.reverse,u<c.length/\u<e.length):
  Vs t g o l (c5 c C.length (v::A.reverse)) (V7 e r) r B (C++[v::A.reverse]) (lv++[mJ e (v::A.reverse)]) m:=by
 have Pr:(v::A.reverse).Nodup:=by
  have h1:=(List.pairwise_append.1 h.tj.Cj);have h2:(A++[v]).Pairwise (λa b=>my o b<my o a):=List.pairwise_append.2 ⟨h1.1,List.pairwise_singleton _ _,λa ha b hb=>h1.2.2 a ha b (by rw [ajC]at hb;subst hb;exact ajn ..)⟩;have h4:(A++[v]).reverse.Nodup:=aj9.2 (List.pairwise_reverse.2 (h2.imp λmP e=>by subst e;exact Int.lt_irrefl _ mP))
  rwa [List.reverse_append]at h4
 have hj:=h.tj.close (c':=gC (c5 c C.length (v::A.reverse))) hk hl hm hb hs Lz Pr (λu hu=>by rw [o9 λu hu=>(fg u hu).1,ajq ((hm u).2 hu)]) (λu hu=>by rw [o9 λu hu=>(fg u hu).1,ajm λh1=>hu ((hm u).1 h1)]);refine⟨h.ol,h.ll,by rw [vj];exact h.cl,?_,?_⟩
 ·cases r with
  |nil=>exact h.el
  |cons p r=>show(e.set p.1 true).length=_;rw [ajv];exact h.el
 ·have e1:gB (V7 e r)=Ue (gB e) r:=by
   cases r with
   |nil=>rfl
   |cons p r=>
    have h1:=h.tj.od _ (h.tj.rV p (ajj _ (ajn ..))).1.1;show gB (e.set p.1 true)=λu=>nX (gB e) p.1 true u;rw [Lv (by rw [h.el];exact h1.1)]
  rw [e1];exact hj
theorem Vs.Uf(h:Vs t g o l c e ((v,k)::r) K C lv m)(hk:2*g.length<=k)(hl:l.getD v 0≠o.getD v 0):∃p j r2,r=(p,j)::r2/\p≠v/\p<t.length*t.length/\Vs t g o (l.set p (min (l.getD p 0) (l.getD v 0))) c e r K C lv m:=by
 obtain⟨p,j,r2,rfl,bn,hj⟩:=h.tj.Uf hk hl;have h1:=h.tj.od _ (h.tj.rV (p,j) (ajj _ (ajn ..))).1.1;refine⟨p,j,r2,rfl,bn,h1.1,h.ol,by rw [ajv];exact h.ll,h.cl,h.el,?_⟩;rw [ka (by rw [h.ll];exact h1.1)];exact hj
end
def VOk(t:List (List Int))(g o0:List Int)(v:Nat)(o l c:List Int)(e:List Bool)(C:List (List Nat))(lv:List Bool)(m:Nat):Prop:=
 Vs t g o l c e [] [] C lv m/\(∀u,my o0 u≠0->my o u≠0)/\my o v≠0
end Go.Proofs.YtgailjhnfghkgaaGreatDoor
end
section
namespace Go.Proofs.YtgailjhnfghkgaaGreatDoor
open Go Go.AM
theorem LC{α:Type}{P:List α->Prop}(h0:P [])(h1:∀l a,P l->P (l++[a]))(l:List α):P l:=by
 have:∀m:List α,P m.reverse:=λm=>by
  induction m with
  |nil=>exact h0
  |cons a m ih=>rw [List.reverse_cons];exact h1 _ _ ih
 have:=this l.reverse
 rwa [List.reverse_reverse]at this
def qe(n:Nat)(ms:List Nat):List (Int × Int):=ms.map λv=>(((v / n:Nat):Int),((v % n:Nat):Int))
theorem fh{n:Nat}{ms:List Nat}{a b:Nat}:dV (qe n ms) a b↔∃v∈ms,v / n=a/\v % n=b:=by
 unfold dV qe;rw [ajU]
 constructor
 ·rintro⟨v,hv,e⟩
  have:=Prod.mk.inj e;exact⟨v,hv,aa,aa⟩
 ·rintro⟨v,hv,rfl,rfl⟩;exact⟨v,hv,rfl⟩
def dE(n:Nat)(ms:List Nat):(Nat->Nat) × List (Int × Int):=ms.foldl (λs v=>(Ae s.1 (v / n) (v % n),if s.1 (v / n)=s.1 (v % n) then s.2 else s.2++[(((v / n:Nat):Int),((v % n:Nat):Int))])) (id,[])
theorem iq(n:Nat)(ms:List Nat)(v:Nat):dE n (ms++[v])=(Ae (dE n ms).1 (v / n) (v % n),if (dE n ms).1 (v / n)=(dE n ms).1 (v % n) then (dE n ms).2 else (dE n ms).2++[(((v / n:Nat):Int),((v % n:Nat):Int))]):=by unfold dE;rw [List.foldl_append];rfl
def I6(n:Nat)(ms:List Nat):List Int:=(ms.foldl (λ(s:(Nat->Nat) × List Int) v=>(Ae s.1 (v / n) (v % n),KO s.1 s.2 (v / n) (v % n))) (id,cR n)).2
theorem PO(n:Nat)(ms:List Nat):(ms.foldl (λ(s:(Nat->Nat) × List Int) v=>(Ae s.1 (v / n) (v % n),KO s.1 s.2 (v / n) (v % n))) (id,cR n)).1=(dE n ms).1:=by
 unfold dE
 have:∀(ms:List Nat) (r:Nat->Nat) (p:List Int) (q:List (Int × Int)),(ms.foldl (λ(s:(Nat->Nat) × List Int) v=>(Ae s.1 (v / n) (v % n),KO s.1 s.2 (v / n) (v % n))) (r,p)).1=(ms.foldl (λs v=>(Ae s.1 (v / n) (v % n),if s.1 (v / n)=s.1 (v % n) then s.2 else s.2++[(((v / n:Nat):Int),((v % n:Nat):Int))])) (r,q)).1:=λms=>by
  induction ms with
  |nil=>intro r p q;rfl
  |cons v ms ih=>intro r p q;rw [akl,akl];exact ih _ _ _
 exact this ms id _ _
theorem Cn(n:Nat)(ms:List Nat)(v:Nat):I6 n (ms++[v])=KO (dE n ms).1 (I6 n ms) (v / n) (v % n):=by
 unfold I6;rw [List.foldl_append];show KO _ _ _ _=_;rw [PO]
structure ZN(n:Nat)(ms:List Nat):Prop where
 fo:Fo n (I6 n ms) (dE n ms).1
 xI:kZ n (dE n ms).1 (dV (qe n ms))
 ZO:kZ n (dE n ms).1 (dV (dE n ms).2)
 gG:(dE n ms).2.length+dX n (dE n ms).1=n
 WW:O4 n (dE n ms).2
 sub:∀q∈(dE n ms).2,∃v∈ms,q=(((v / n:Nat):Int),((v % n:Nat):Int))
theorem snO{n:Nat}(ms:List Nat):(∀v∈ms,Gp n v)->ZN n ms:=by
 refine LC (P:=λms=>(∀v∈ms,Gp n v)->ZN n ms) ?_ (λms v ih=>?_) ms
 ·intro _
  refine⟨Fo.TV n,(kZ.TV n).congr (λ_ _ h=>h.elim) λa b h=>(by simp [dV,qe]at h),(kZ.TV n).congr (λ_ _ h=>h.elim) λa b h=>(by simp [dV,dE]at h),?_,λq h=>(by simp [dE]at h),λq h=>(by simp [dE]at h)⟩;show 0+dX n id=n;rw [LD];omega
 ·intro hm
  have h:=ih λu hu=>hm u (aj8 _ hu);have hv:=hm v (akr _ (ajC.2 rfl));obtain⟨v1,v2,_⟩:=jn hv;have hj:=WX h.fo v1 v2;have hc:=LF h.fo v1 v2;have hk:=LG h.xI v1 v2;have hl:=LG h.ZO v1 v2
  have lQ:O4 n [(((v / n:Nat):Int),((v % n:Nat):Int))]:=λq hq=>by
   rw [ajC]at hq;subst hq;exact⟨⟨aku _,Int.ofNat_lt.2 v1⟩,aku _,Int.ofNat_lt.2 v2⟩
  refine⟨?_,?_,?_,?_,?_,?_⟩
  ·rw [Cn,iq];exact hj
  ·rw [iq]
   refine hk.congr (λa b e=>?_) λa b e=>?_
   ·refine .rel (fh.2 ?_)
    rcases e with e|⟨rfl,rfl⟩
    ·obtain⟨u,hu,e⟩:=fh.1 e
     exact⟨u,aj8 _ hu,e⟩
    ·exact⟨v,akr _ (ajC.2 rfl),rfl,rfl⟩
   ·obtain⟨u,hu,e1,e2⟩:=fh.1 e
    rcases ajK.1 hu with hu|hu
    ·exact .rel (.inl (fh.2 ⟨u,hu,e1,e2⟩))
    ·rw [ajC]at hu;subst hu
     exact .rel (.inr ⟨e1.symm,e2.symm⟩)
  ·rw [iq]
   show kZ n (Ae _ _ _) (dV (if _ then _ else _));split
   ·rename_i e
    refine hl.congr (λa b e1=>?_) λa b e1=>.rel (.inl e1);rcases e1 with e1|⟨rfl,rfl⟩
    ·exact .rel e1
    ·exact(h.ZO _ _ v1 v2).1 e
   ·refine hl.congr (λa b e1=>.rel ?_) λa b e1=>.rel ?_
    ·rcases e1 with e1|⟨rfl,rfl⟩
     ·exact aj8 _ e1
     ·exact akr _ (ajC.2 rfl)
    ·rcases ajK.1 e1 with e1|e1
     ·exact .inl e1
     ·have e1:=Prod.mk.inj (ajC.1 e1)
      exact .inr ⟨aa,aa⟩
  ·rw [iq]
   show(if _ then _ else _:List (Int × Int)).length+dX n (Ae _ _ _)=n;have h0:=h.gG;split
   ·rename_i e;rw [ajq e]at hc;omega
   ·rename_i e;rw [ajm e]at hc;rw [ajp,ajx];omega
  ·rw [iq]
   show O4 n (if _ then _ else _);split
   ·exact h.WW
   ·exact PQ.2 ⟨h.WW,lQ⟩
  ·rw [iq]
   intro q hq;have hq:q∈(if (dE n ms).1 (v / n)=(dE n ms).1 (v % n) then (dE n ms).2 else (dE n ms).2++[(((v / n:Nat):Int),((v % n:Nat):Int))]):=hq;split at hq
   ·obtain⟨u,hu,e⟩:=h.sub q hq;exact⟨u,aj8 _ hu,e⟩
   ·rcases ajK.1 hq with hq|hq
    ·obtain⟨u,hu,e⟩:=h.sub q hq;exact⟨u,aj8 _ hu,e⟩
    ·exact⟨v,akr _ (ajC.2 rfl),ajC.1 hq⟩
def mw(n:Nat)(p:List Int):Prop:=∃x y,x<n/\y<n/\x≠y/\p.getD x 0=p.getD y 0
def Sub(n:Nat)(p q:List Int):Prop:=∀x y,x<n->y<n->p.getD x 0=p.getD y 0->q.getD x 0=q.getD y 0
structure Af(t:List (List Int))(p:List Int):Prop where
 cg:ca t p 0
 jo:mw t.length p
 mi:∀q,ca t q 0->mw t.length q->Sub t.length q p->Sub t.length p q
theorem sub_eq{n:Nat}{p q:List Int}(hp:p.length=n)(hq:q.length=n)(cp:canon p=p)(cq:canon q=q)(h1:Sub n p q)(h2:Sub n q p):p=q:=by
 rw [<-cp,<-cq];exact yz hp hq λa b ha hb=>⟨h1 a b ha hb,h2 a b ha hb⟩
section
variable{t:List (List Int)}{g c:List Int}{C:List (List Nat)}{lv:List Bool}
noncomputable def lR(t:List (List Int))(C:List (List Nat))(i:Nat):List Int:=oA t.length (dV (qe t.length (C.getD i [])))
theorem SD(hs:Sh t)(hg:∀x∈g,0<=x/\x<(t.length:Int)){q:List Int}(hq:Cg t q 0){v u:Nat}(hv:Gp t.length v)(h:Rc (2*g.length) (o8 t g) v u):Gp t.length u/\(q.getD (v / t.length) 0=q.getD (v % t.length) 0->q.getD (u / t.length) 0=q.getD (u % t.length) 0):=by
 induction h with
 |refl=>exact⟨hv,id⟩
 |step h1 hk ht ih=>
  rename_i w k x;obtain⟨hw,ih⟩:=ih;refine⟨SC hs hg hw hk ht,λe=>?_⟩;have e:=ih e;obtain⟨w1,w2,_⟩:=jn hw;have hz:(g.getD (k / 2) 0).toNat<t.length:=by have:=hg _ (al (d:=0) (i:=k / 2) (l:=g) aa);omega
  have hc:=hq _ _ _ w1 w2 hz e;unfold Ch at hc
  have mP:q.getD (gZ t (g.getD (k / 2) 0).toNat (w / t.length) k) 0=q.getD (gZ t (g.getD (k / 2) 0).toNat (w % t.length) k) 0:=by
   unfold gZ;split
   ·exact hc.1 (show(0:Int)≠2 by decide)
   ·exact hc.2 (show(0:Int)≠1 by decide)
  have ha:gZ t (g.getD (k / 2) 0).toNat (w / t.length) k<t.length:=by unfold gZ;split;exact(hs.bF hz w1).2;exact(hs.bF w1 hz).2
  have hb:gZ t (g.getD (k / 2) 0).toNat (w % t.length) k<t.length:=by unfold gZ;split;exact(hs.bF hz w2).2;exact(hs.bF w2 hz).2
  unfold o8 SB at ht;split at ht
  ·omega
  ·rename_i bn
   have ex:x=min (gZ t (g.getD (k / 2) 0).toNat (w / t.length) k) (gZ t (g.getD (k / 2) 0).toNat (w % t.length) k)*t.length+max (gZ t (g.getD (k / 2) 0).toNat (w / t.length) k) (gZ t (g.getD (k / 2) 0).toNat (w % t.length) k):=aa;have hp:=vg (n:=t.length) (x:=min (gZ t (g.getD (k / 2) 0).toNat (w / t.length) k) (gZ t (g.getD (k / 2) 0).toNat (w % t.length) k)) (y:=max (gZ t (g.getD (k / 2) 0).toNat (w / t.length) k) (gZ t (g.getD (k / 2) 0).toNat (w % t.length) k)) aa aa;rw [ex,hp.2.1,hp.2.2];rcases Nat.le_total (gZ t (g.getD (k / 2) 0).toNat (w / t.length) k) (gZ t (g.getD (k / 2) 0).toNat (w % t.length) k)with h2|h2
   ·rw [Nat.min_eq_left h2,Nat.max_eq_right h2];exact mP
   ·rw [Nat.min_eq_right h2,Nat.max_eq_left h2];exact mP.symm
end
structure cF(t:List (List Int))(g c:List Int)(C:List (List Nat))(lv:List Bool):Prop where
 sp:qf t g
 gl:g.length<=t.length
 cl:c.length=t.length*t.length
 yA:Cl (2*g.length) (o8 t g) (Gp t.length) (gC c) C lv
 all:∀v,Gp t.length v->0<=gC c v
theorem PR{n:Nat}{p p':List Int}{r r':Nat->Nat}(h:Fo n p r)(h':Fo n p' r')(hs:∀a b,a<n->b<n->r a=r b->r' a=r' b)(hc:dX n r=dX n r'):∀a b,a<n->b<n->r' a=r' b->r a=r b:=by
 have h1:∀i,i<n->r' i=i->r i=i:=λi hi e=>by
  have h2:=h.Uj (i+1) i aa hi;have h3:=h.rr hi;have h4:=hs (r i) i (h.Ag hi) hi h3;have h5:=h'.Uj (r i+1) (r i) aa (h.Ag hi);omega
 have h2:((List.range n).filter (yB r)).filter (yB r')=(List.range n).filter (yB r'):=by
  rw [List.filter_filter];refine List.filter_congr λi hi=>?_;have hi:=ajJ.1 hi;unfold yB
  by_cases e:r' i=i
  ·simp [e,h1 i hi e]
  ·simp [e]
 have h3:((List.range n).filter (yB r)).filter (yB r')=(List.range n).filter (yB r):=by
  refine List.Sublist.eq_of_length List.filter_sublist ?_;rw [h2];exact hc.symm
 have h4:∀i,i<n->r i=i->r' i=i:=λi hi e=>by
  have h5:i∈((List.range n).filter (yB r)).filter (yB r'):=by rw [h3];exact akq.2 ⟨ajJ.2 hi,aj3 e⟩
  exact ajX (akq.1 h5).2
 have h5:∀a,a<n->r' a=r a:=λa ha=>by
  have h6:=h4 (r a) (h.Ag ha) (h.rr ha);have h7:=hs (r a) a (h.Ag ha) ha (h.rr ha);omega
 intro a b ha hb e;rw [<-h5 a ha,<-h5 b hb];exact e
theorem LH{n:Nat}{p p':List Int}{r r':Nat->Nat}(h:Fo n p r)(h':Fo n p' r')(hs:∀a b,a<n->b<n->r a=r b->r' a=r' b):dX n r'<=dX n r:=by
 have h1:∀i,i<n->r' i=i->r i=i:=λi hi e=>by
  have h2:=h.Uj (i+1) i aa hi;have h3:=h.rr hi;have h4:=hs (r i) i (h.Ag hi) hi h3;have h5:=h'.Uj (r i+1) (r i) aa (h.Ag hi);omega
 have h2:((List.range n).filter (yB r)).filter (yB r')=(List.range n).filter (yB r'):=by
  rw [List.filter_filter];refine List.filter_congr λi hi=>?_;have hi:=ajJ.1 hi;unfold yB
  by_cases e:r' i=i
  ·simp [e,h1 i hi e]
  ·simp [e]
 unfold dX;rw [<-h2];exact List.length_filter_le _ _
theorem LI{n:Nat}{p p':List Int}{r r':Nat->Nat}(h:Fo n p r)(h':Fo n p' r')(hs:∀a b,a<n->b<n->(r a=r b↔r' a=r' b)):dX n r=dX n r':=by
 have h1:∀i,i<n->r i=r' i:=λi hi=>by
  have h2:=(hs (r i) i (h.Ag hi) hi).1 (h.rr hi);have h3:=(hs (r' i) i (h'.Ag hi) hi).2 (h'.rr hi);have h4:=h'.Uj (r i+1) (r i) aa (h.Ag hi);have h5:=h.Uj (r' i+1) (r' i) aa (h'.Ag hi);omega
 unfold dX
 congr 1
 refine List.filter_congr λi hi=>?_;unfold yB;rw [h1 i (ajJ.1 hi)]
section
variable{t:List (List Int)}{g c:List Int}{C:List (List Nat)}{lv:List Bool}
def xS(t:List (List Int))(C:List (List Nat))(i:Nat):Nat:=(dE t.length (C.getD i [])).2.length
def Fb(t:List (List Int))(c:List Int)(C:List (List Nat))(lv:List Bool)(i:Nat):Prop:=
 lv.getD i false=false/\∀x y,x<y->y<t.length->(lR t C i).getD x 0=(lR t C i).getD y 0->
   lv.getD (gC c (x*t.length+y)).toNat false=true\/((i:Int)<=gC c (x*t.length+y)/\xS t C (gC c (x*t.length+y)).toNat=xS t C i)
noncomputable def vl(t:List (List Int))(c:List Int)(C:List (List Nat))(lv:List Bool)(i:Nat):Bool:=@decide (Fb t c C lv i) (Classical.propDecidable _)
theorem ld{i:Nat}:vl t c C lv i=true↔Fb t c C lv i:=by unfold vl;exact @decide_eq_true_iff _ (Classical.propDecidable _)
theorem cF.gp(h:cF t g c C lv){i v:Nat}(hi:i<C.length)(hv:v∈C.getD i []):Gp t.length v/\gC c v=(i:Int):=by
 have h1:=(h.yA.mem i v hi).1 hv;exact⟨(h.yA.gq v aa).1,h1⟩
theorem cF.ml(h:cF t g c C lv){i:Nat}(hi:i<C.length):(C.getD i []).length<=t.length*t.length:=by
 have:=b9 (h.yA.nd i hi) (B:=List.range (t.length*t.length)) λv hv=>ajJ.2 (h.gp hi hv).1.1
 simpa using this
theorem cF.sO(h:cF t g c C lv){i:Nat}(hi:i<C.length):ZN t.length (C.getD i []):=snO _ λ_v hv=>(h.gp hi hv).1
theorem cF.cm(h:cF t g c C lv){i:Nat}(hi:i<C.length):oA t.length (dV (dE t.length (C.getD i [])).2)=lR t C i:=by
 unfold lR;rw [<-Fc (h.sO hi).ZO.xI,<-Fc (h.sO hi).xI.xI]
theorem cF.some(h:cF t g c C lv){i:Nat}(hi:i<C.length):∃v,v∈C.getD i []/\Gp t.length v/\gC c v=(i:Int):=by
 have h1:=h.yA.ne i hi;cases hc:C.getD i []with
 |nil=>exact absurd hc h1
 |cons v r=>
  have hv:v∈C.getD i []:=by rw [hc];exact ajn ..
  exact⟨v,by rw [<-hc];exact hv,h.gp hi hv⟩
theorem LJ{i v:Nat}(hv:v∈C.getD i [])(hg:Gp t.length v):(lR t C i).getD (v / t.length) 0=(lR t C i).getD (v % t.length) 0:=by
 have h1:=jn hg;exact(fS h1.1 h1.2.1).2 (.rel (fh.2 ⟨v,hv,rfl,rfl⟩))
theorem cF.jo(h:cF t g c C lv){i:Nat}(hi:i<C.length):mw t.length (lR t C i):=by
 obtain⟨v,hv,hg,_⟩:=h.some hi;have h1:=jn hg;have:=hg.2;exact⟨_,_,h1.1,h1.2.1,aa,LJ hv hg⟩
theorem cF.cg(h:cF t g c C lv)(hs:Semi t){i:Nat}(hi:i<C.length)(hl:lv.getD i false=false):ca t (lR t C i) 0:=by
 have hS:=hs.toSh
 have SE:∀v k,v∈C.getD i []->k<2*g.length->Eg (dV (qe t.length (C.getD i []))) (gZ t (g.getD (k / 2) 0).toNat (v / t.length) k) (gZ t (g.getD (k / 2) 0).toNat (v % t.length) k):=λv k hv hk=>by
  obtain⟨hg,hc⟩:=h.gp hi hv;obtain⟨v1,v2,_⟩:=jn hg;have hz:(g.getD (k / 2) 0).toNat<t.length:=by have:=h.sp.el _ (al (d:=0) (i:=k / 2) (l:=g) aa);omega
  have ha:gZ t (g.getD (k / 2) 0).toNat (v / t.length) k<t.length:=by unfold gZ;split;exact(hS.bF hz v1).2;exact(hS.bF v1 hz).2
  have hb:gZ t (g.getD (k / 2) 0).toNat (v % t.length) k<t.length:=by unfold gZ;split;exact(hS.bF hz v2).2;exact(hS.bF v2 hz).2
  by_cases e:gZ t (g.getD (k / 2) 0).toNat (v / t.length) k=gZ t (g.getD (k / 2) 0).toNat (v % t.length) k
  ·rw [e];exact .refl _
  ·obtain⟨w,hw⟩:∃w:Nat,o8 t g v k=(w:Int):=by unfold o8 SB;rw [ajm e];exact⟨_,rfl⟩
   have ZP:gC c w=gC c v:=ajy λbn=>by
    have:=(h.yA.YP i hi).2 ⟨v,k,w,hc,hk,hw,bn⟩;rw [hl]at this;cases this
   have SF:w∈C.getD i []:=(h.yA.mem i w hi).2 (by rw [ZP,hc]);have h3:=hw;unfold o8 SB at h3;rw [ajm e]at h3;have ew:w=min (gZ t (g.getD (k / 2) 0).toNat (v / t.length) k) (gZ t (g.getD (k / 2) 0).toNat (v % t.length) k)*t.length+max (gZ t (g.getD (k / 2) 0).toNat (v / t.length) k) (gZ t (g.getD (k / 2) 0).toNat (v % t.length) k):=aa;have hp:=vg (n:=t.length) (x:=min (gZ t (g.getD (k / 2) 0).toNat (v / t.length) k) (gZ t (g.getD (k / 2) 0).toNat (v % t.length) k)) (y:=max (gZ t (g.getD (k / 2) 0).toNat (v / t.length) k) (gZ t (g.getD (k / 2) 0).toNat (v % t.length) k)) aa aa;have hr:Eg (dV (qe t.length (C.getD i []))) (w / t.length) (w % t.length):=.rel (fh.2 ⟨w,SF,rfl,rfl⟩);rw [ew,hp.2.1,hp.2.2]at hr;rcases Nat.le_total (gZ t (g.getD (k / 2) 0).toNat (v / t.length) k) (gZ t (g.getD (k / 2) 0).toNat (v % t.length) k)with h2|h2
   ·rw [Nat.min_eq_left h2,Nat.max_eq_right h2]at hr;exact hr
   ·rw [Nat.min_eq_right h2,Nat.max_eq_left h2]at hr;exact hr.symm
 have hJ:∀a b,dV (qe t.length (C.getD i [])) a b->a<t.length/\b<t.length:=λa b e=>by
  obtain⟨v,hv,rfl,rfl⟩:=fh.1 e;have:=jn (h.gp hi hv).1;exact⟨this.1,this.2.1⟩
 refine⟨hs,Ah,I7 (by have:=hS.most;omega),by decide,λx y s hx hy gv e=>?_⟩;have e:=(fS hx hy).1 e
 have key:=PS (side:=0) hs hJ h.sp.el (λa b e z hz=>by
  obtain⟨v,hv,rfl,rfl⟩:=fh.1 e;obtain⟨j,hj,rfl⟩:=aS 0 hz;have k1:=SE v (2*j) hv aa;have k2:=SE v (2*j+1) hv aa;rw [show(2*j) / 2=j by omega]at k1;rw [show(2*j+1) / 2=j by omega]at k2;unfold gZ at k1 k2;rw [ajq aa,ajq aa]at k1;rw [ajm aa,ajm aa]at k2;exact⟨λ_=>k1,λ_=>k2⟩) (h.sp.2 s gv) x y hx hy e
 exact⟨λh0=>(fS (hS.bF gv hx).2 (hS.bF gv hy).2).2 (key.1 h0),λh0=>(fS (hS.bF hx gv).2 (hS.bF hy gv).2).2 (key.2 h0)⟩
theorem cF.sub(h:cF t g c C lv)(hs:Sh t){q:List Int}(hq:Cg t q 0){i v:Nat}(hi:i<C.length)(hv:v∈C.getD i [])(e:q.getD (v / t.length) 0=q.getD (v % t.length) 0):Sub t.length (lR t C i) q:=λx y hx hy e1=>by
 obtain⟨hg,hc⟩:=h.gp hi hv;refine((fS hx hy).1 e1).least (Q:=λa b=>q.getD a 0=q.getD b 0) (λ_=>rfl) (λ_ _ h=>h.symm) (λ_ _ _ h h'=>h.trans h') λa b e2=>?_;obtain⟨u,hu,rfl,rfl⟩:=fh.1 e2;have hcu:=(h.gp hi hu).2;exact(SD hs h.sp.el hq hg (h.yA.PI v u aa aa)).2 e
theorem cF.term(h:cF t g c C lv):∀(m v:Nat),Gp t.length v->gC c v<=(m:Int)->∃u i,Rc (2*g.length) (o8 t g) v u/\i<C.length/\u∈C.getD i []/\lv.getD i false=false:=by
 intro m
 induction m using Nat.strongRecOn with
 |ind m ih=>
  intro v hv hm;have h0:=h.all v hv;have hd:=h.yA.gq v h0;have hi:(gC c v).toNat<C.length:=aa;cases hl:lv.getD (gC c v).toNat false with
  |false=>exact⟨v,_,.refl v,hi,(h.yA.mem _ v hi).2 aa,hl⟩
  |true=>
   obtain⟨v',k,w,h1,h2,h3,h4⟩:=(h.yA.YP _ hi).1 hl;have h5:=h.yA.Lq v' k w aa h2 h3;obtain⟨u,i,q1,q2⟩:=ih (gC c w).toNat aa w (h.yA.gq w h5.1).1 aa;exact⟨u,i,((h.yA.PI v v' h0 aa).step h2 h3).trans q1,q2⟩
theorem cF.below(h:cF t g c C lv)(hs:Sh t){q:List Int}(hq:Cg t q 0)(hj:mw t.length q):∃i,i<C.length/\lv.getD i false=false/\Sub t.length (lR t C i) q:=by
 obtain⟨x,y,hx,hy,bn,e⟩:=hj
 have main:∀x y,x<y->y<t.length->q.getD x 0=q.getD y 0->∃i,i<C.length/\lv.getD i false=false/\Sub t.length (lR t C i) q:=λx y uB hy e=>by
  obtain⟨hp,e1,e2⟩:=vg uB hy;obtain⟨u,i,h1,h2,h3,h4⟩:=h.term (gC c (x*t.length+y)).toNat _ hp aa;refine⟨i,h2,h4,h.sub hs hq h2 h3 ((SD hs h.sp.el hq hp h1).2 ?_)⟩;rw [e1,e2];exact e
 rcases ajF x y with h1|h1
 ·exact main x y h1 hy e
 ·exact main y x aa hx e.symm
theorem cF.rk(h:cF t g c C lv){i j:Nat}(hi:i<C.length)(hj:j<C.length):(xS t C i=xS t C j->Sub t.length (lR t C i) (lR t C j)->Sub t.length (lR t C j) (lR t C i))/\(lR t C i=lR t C j->xS t C i=xS t C j):=by
 have oi:=h.sO hi;have oj:=h.sO hj;have ci:=oi.gG;have cj:=oj.gG;have ki:∀a b,a<t.length->b<t.length->((dE t.length (C.getD i [])).1 a=(dE t.length (C.getD i [])).1 b↔(lR t C i).getD a 0=(lR t C i).getD b 0):=λa b ha hb=>(oi.xI a b ha hb).trans (fS ha hb).symm;have kj:∀a b,a<t.length->b<t.length->((dE t.length (C.getD j [])).1 a=(dE t.length (C.getD j [])).1 b↔(lR t C j).getD a 0=(lR t C j).getD b 0):=λa b ha hb=>(oj.xI a b ha hb).trans (fS ha hb).symm;unfold xS;refine⟨λe pa a b ha hb e2=>?_,λe=>?_⟩
 ·exact(ki a b ha hb).1 (PR oi.fo oj.fo (λa b ha hb e3=>(kj a b ha hb).2 (pa a b ha hb ((ki a b ha hb).1 e3))) aa a b ha hb ((kj a b ha hb).2 e2))
 ·have:=LI oi.fo oj.fo λa b ha hb=>by rw [ki a b ha hb,kj a b ha hb,e]
  omega
structure eu(t:List (List Int))(L:List (List (Int × Int))):Prop where
 WW:∀l∈L,O4 t.length l
 ll:∀l∈L,l.length<=t.length
 mi:∀l∈L,Af t (oA t.length (dV l))
 all:∀p,Af t p->∃l∈L,oA t.length (dV l)=p
 nd:(L.map λl=>oA t.length (dV l)).Nodup
 bel:∀q,ca t q 0->mw t.length q->∃l∈L,Sub t.length (oA t.length (dV l)) q
 le:L.length<=t.length*t.length
noncomputable def jS(t:List (List Int))(c:List Int)(C:List (List Nat))(lv:List Bool)(k:Nat):List (List (Int × Int)):=((List.range k).filter (vl t c C lv)).map λi=>(dE t.length (C.getD i [])).2
theorem cF.PT(h:cF t g c C lv)(hs:Semi t){i:Nat}(hi:i<C.length)(hl:Fb t c C lv i):Af t (lR t C i):=by
 have xG:=h.cg hs hi hl.1;refine⟨xG,h.jo hi,λq hq hj pa=>?_⟩;obtain⟨d,hd,EP,KP⟩:=h.below hs.toSh hq.cg hj;obtain⟨v,hv,LK,Co⟩:=h.some hd;obtain⟨v1,v2,_⟩:=jn LK;have uC:Sub t.length (lR t C d) (lR t C i):=λx y hx hy e=>pa x y hx hy (KP x y hx hy e);have e1:=hl.2 _ _ LK.2 v2 (uC _ _ v1 v2 (LJ hv LK));rw [show v / t.length*t.length+v % t.length=v by rw [aki];exact Nat.div_add_mod v _,Co,ajr,EP]at e1;have e1:=(e1.resolve_left (by decide)).2;have e2:=(h.rk hd hi).1 e1 uC;exact λx y hx hy e=>KP x y hx hy (e2 x y hx hy e)
theorem cF.mono(h:cF t g c C lv){i j:Nat}(hi:i<C.length)(hj:j<C.length)(hs:Sub t.length (lR t C i) (lR t C j)):xS t C i<=xS t C j:=by
 have oi:=h.sO hi;have oj:=h.sO hj;have ci:=oi.gG;have cj:=oj.gG;have:=LH oi.fo oj.fo λa b ha hb e=>(oj.xI a b ha hb).2 ((fS ha hb).1 (hs a b ha hb ((fS ha hb).2 ((oi.xI a b ha hb).1 e))));unfold xS;omega
theorem cF.ZQ(h:cF t g c C lv)(hs:Semi t):∀(m:Nat) {i:Nat},i<C.length->lv.getD i false=false->xS t C i<=m->∃p,Af t p/\Sub t.length p (lR t C i):=by
 intro m
 induction m using Nat.strongRecOn with
 |ind m ih=>
  intro i hi hl hm
  by_cases xT:Af t (lR t C i)
  ·exact⟨_,xT,λ_ _ _ _ e=>e⟩
  ·have:∃q,ca t q 0/\mw t.length q/\Sub t.length q (lR t C i)/\¬Sub t.length (lR t C i) q:=ajy λdj=>xT ⟨h.cg hs hi hl,h.jo hi,λq h1 h2 h3=>ajy λh4=>dj ⟨q,h1,h2,h3,h4⟩⟩
   obtain⟨q,h1,h2,h3,h4⟩:=this;obtain⟨d,hd,EP,KP⟩:=h.below hs.toSh h1.cg h2;have uC:Sub t.length (lR t C d) (lR t C i):=λx y hx hy e=>h3 x y hx hy (KP x y hx hy e);have hle:=h.mono hd hi uC;have bn:xS t C d≠xS t C i:=λe=>h4 λx y hx hy e2=>KP x y hx hy ((h.rk hd hi).1 e uC x y hx hy e2);obtain⟨p,hp,ZR⟩:=ih (xS t C d) aa hd EP (ajl _);exact⟨p,hp,λx y hx hy e=>uC x y hx hy (ZR x y hx hy e)⟩
theorem cF.atoms(h:cF t g c C lv)(hs:Semi t):eu t (jS t c C lv C.length):=by
 have vm:∀{i},i∈(List.range C.length).filter (vl t c C lv)->i<C.length/\Fb t c C lv i:=λ{i} hi=>by
  have:=akq.1 hi;exact⟨ajJ.1 this.1,ld.1 this.2⟩
 have fg:∀l∈jS t c C lv C.length,∃i,i<C.length/\Fb t c C lv i/\l=(dE t.length (C.getD i [])).2:=λl hl=>by
  obtain⟨i,hi,rfl⟩:=ajU.1 hl;have:=vm hi;exact⟨i,this.1,this.2,rfl⟩
 have b5:∀p,Af t p->∃l∈jS t c C lv C.length,oA t.length (dV l)=p:=λp hp=>?_;refine⟨λl hl=>?_,λl hl=>?_,λl hl=>?_,b5,?_,λq hq hj=>?_,?_⟩
 ·obtain⟨i,hi,_,rfl⟩:=fg l hl;exact(h.sO hi).WW
 ·obtain⟨i,hi,_,rfl⟩:=fg l hl;have:=(h.sO hi).gG;omega
 ·obtain⟨i,hi,hP,rfl⟩:=fg l hl
  rw [h.cm hi];exact h.PT hs hi hP
 ·unfold jS
  rw [List.map_map,aj9,List.pairwise_map];refine List.Pairwise.imp_of_mem ?_ ((List.pairwise_lt_range (n:=C.length)).filter _);intro i j hi hj mR e;obtain⟨bD,hiP⟩:=vm hi;obtain⟨oR,hjP⟩:=vm hj;have e:oA t.length (dV (dE t.length (C.getD i [])).2)=oA t.length (dV (dE t.length (C.getD j [])).2):=e;rw [h.cm bD,h.cm oR]at e;obtain⟨v,hv,LK,Co⟩:=h.some bD;obtain⟨v1,v2,_⟩:=jn LK;have e1:=hjP.2 _ _ LK.2 v2 (by rw [<-e];exact LJ hv LK);rw [show v / t.length*t.length+v % t.length=v by rw [aki];exact Nat.div_add_mod v _,Co,ajr,hiP.1]at e1;have:=(e1.resolve_left (by decide)).1;omega
 ·obtain⟨d,hd,EP,KP⟩:=h.below hs.toSh hq.cg hj
  obtain⟨p,hp,ZR⟩:=h.ZQ hs (xS t C d) hd EP (ajl _);obtain⟨l,hl,e⟩:=b5 p hp;exact⟨l,hl,by rw [e];exact λx y hx hy e2=>KP x y hx hy (ZR x y hx hy e2)⟩
 ·unfold jS
  rw [ajS];refine ajW (List.length_filter_le _ _) ?_;rw [List.length_range];exact h.yA.Fa λv hv=>hv.1
 ·obtain⟨d,hd,EP,KP⟩:=h.below hs.toSh hp.cg.cg hp.jo
  have gw:=hp.cg.len
  have eqd:∀{d},d<C.length->lv.getD d false=false->Sub t.length (lR t C d) p->lR t C d=p:=λ{d} hd EP KP=>
   sub_eq Ah gw yC hp.cg.val.2 KP (hp.mi _ (h.cg hs hd EP) (h.jo hd) KP)
  have least:∀m i,i<=m->i<C.length->lv.getD i false=false->lR t C i=p->∃i,i<C.length/\lv.getD i false=false/\lR t C i=p/\∀j,j<i->¬(lv.getD j false=false/\lR t C j=p):=by
   intro m
   induction m with
   |zero=>intro i LL h1 h2 h3;exact⟨i,h1,h2,h3,λj hj=>by omega⟩
   |succ m ih=>
    intro i LL h1 h2 h3
    by_cases hex:∃j,j<i/\lv.getD j false=false/\lR t C j=p
    ·obtain⟨j,hj,h4,h5⟩:=hex
     exact ih j aa aa h4 h5
    ·exact⟨i,h1,h2,h3,λj hj h4=>hex ⟨j,hj,h4⟩⟩
  obtain⟨i,hi,hli,z7,dj⟩:=least d d (ajl _) hd EP (eqd hd EP KP)
  have hP:Fb t c C lv i:=by
   refine⟨hli,λx y uB hy e=>?_⟩;obtain⟨hg,e1,e2⟩:=vg uB hy;have h0:=h.all _ hg;have iK:=(h.yA.gq _ h0).2;have PU:(gC c (x*t.length+y)).toNat<C.length:=aa;cases hl:lv.getD (gC c (x*t.length+y)).toNat false with
   |true=>exact .inl rfl
   |false=>
    right
    have hv:=(h.yA.mem _ (x*t.length+y) PU).2 aa;have h1:=h.sub hs.toSh (q:=lR t C i) (h.cg hs hi hli).cg PU hv (by rw [e1,e2];exact e);have h2:=eqd PU hl (by rw [<-z7];exact h1);refine⟨?_,(h.rk PU hi).2 (h2.trans z7.symm)⟩;have:¬(gC c (x*t.length+y)).toNat<i:=λaX=>dj _ aX ⟨hl,h2⟩;omega
  exact⟨_,ajU.2 ⟨i,akq.2 ⟨ajJ.2 hi,ld.2 hP⟩,rfl⟩,(h.cm hi).trans z7⟩
end
noncomputable def vb(t:List (List Int)):List (List Int):=@dite _ (∃M,SH jT M/\∀p,p∈M↔Af t p) (Classical.propDecidable _) (λh=>h.choose) λ_=>[]
theorem PV{t:List (List Int)}{M:List (List Int)}(hs:SH jT M)(hm:∀p,p∈M↔Af t p):vb t=M:=by
 have h:∃M,SH jT M/\∀p,p∈M↔Af t p:=⟨M,hs,hm⟩;unfold vb;rw [dif_pos h];exact Cq Cr h.choose_spec.1 hs λx=>(h.choose_spec.2 x).trans (hm x).symm
theorem eu.ZS{t:List (List Int)}{L:List (List (Int × Int))}(h:eu t L):vb t=Cj jT (L.map λl=>oA t.length (dV l)):=
 PV (PW Cr h.nd) λp=>by
  rw [PX,ajU];exact⟨λ⟨l,hl,e⟩=>e▸h.mi l hl,h.all p⟩
theorem eu.num{t:List (List Int)}{L:List (List (Int × Int))}(h:eu t L):(vb t).length=L.length:=by rw [h.ZS,PY,ajS]
theorem fe(n x:Nat):(List.replicate n (0:Int)).getD x 0=0:=by simp only [List.getD,ajH];split<;>rfl
theorem PZ{t:List (List Int)}(hs:Semi t):ca t (List.replicate t.length 0) 0:=
 ⟨hs,ajz,⟨by rw [ajz];have:=hs.toSh.most;omega,fE.2 λi _=>by unfold dy;rw [fe];omega⟩,by decide,λx y s _ _ _ _=>⟨λ_=>by rw [fe,fe],λ_=>by rw [fe,fe]⟩⟩
theorem eu.pos{t:List (List Int)}{L:List (List (Int × Int))}(h:eu t L)(hs:Semi t)(h2:2<=t.length):0<L.length:=by
 obtain⟨l,hl,_⟩:=h.bel _ (PZ hs) ⟨0,1,aa,aa,aa,by rw [fe,fe]⟩;exact akx hl
end Go.Proofs.YtgailjhnfghkgaaGreatDoor
end
