import Derived.Test.YtgailjhnfghkgaaGreatDoorEnLaw
import Derived.Test.YtgailjhnfghkgaaGreatDoorSd
import Derived.Test.YtgailjhnfghkgaaGreatDoorOrd
import Derived.Test.YtgailjhnfghkgaaGreatDoorDfa
section
namespace Go.Proofs.YtgailjhnfghkgaaGreatDoor
open Go Go.AM
section
variable{t:List (List Int)}{p:List Int}
structure AR(t:List (List Int))(p:List Int)(x y:Nat):Prop where
 own:p.getD x 0=p.getD y 0
 one:∀u,u<t.length->p.getD (en t u x) 0=p.getD (en t u y) 0/\p.getD (en t x u) 0=p.getD (en t y u) 0
 two:∀u v,u<t.length->v<t.length->p.getD (en t (en t u x) v) 0=p.getD (en t (en t u y) v) 0
theorem AR.refl(x:Nat):AR t p x x:=⟨rfl,λ_ _=>⟨rfl,rfl⟩,λ_ _ _ _=>rfl⟩
theorem AR.symm{x y:Nat}(h:AR t p x y):AR t p y x:=⟨h.own.symm,λu hu=>⟨(h.one u hu).1.symm,(h.one u hu).2.symm⟩,λu v hu hv=>(h.two u v hu hv).symm⟩
theorem AR.trans{x y z:Nat}(h:AR t p x y)(h':AR t p y z):AR t p x z:=
 ⟨h.own.trans h'.own,λu hu=>⟨(h.one u hu).1.trans (h'.one u hu).1,(h.one u hu).2.trans (h'.one u hu).2⟩,λu v hu hv=>(h.two u v hu hv).trans (h'.two u v hu hv)⟩
noncomputable def QG(t:List (List Int))(p:List Int)(x y:Nat):Bool:=@decide (AR t p x y) (Classical.propDecidable _)
theorem fI{x y:Nat}:QG t p x y=true↔AR t p x y:=by unfold QG;exact @decide_eq_true_iff _ (Classical.propDecidable _)
theorem Hy(t:List (List Int))(p:List Int):TU t.length (QG t p):=
 E7 (λx _=>fI.2 (.refl x)) λ_ _ _ _ _ _ h h'=>fI.2 ((fI.1 h).trans (fI.1 h'))
noncomputable def qQ(t:List (List Int))(p:List Int):List Int:=tR t.length (QG t p)
theorem Dk:(qQ t p).length=t.length:=p6 _ _
theorem FJ:canon (qQ t p)=qQ t p:=fy _
theorem qS{a b:Nat}(ha:a<t.length)(hb:b<t.length):(qQ t p).getD a 0=(qQ t p).getD b 0↔AR t p a b:=by
 unfold qQ;rw [p7 (Hy t p) ha hb,fI,fI];exact⟨λh=>h.1,λh=>⟨h,h.symm⟩⟩
theorem FK(h:Semi t){x y s:Nat}(hx:x<t.length)(hy:y<t.length)(hs:s<t.length)(e:AR t p x y):AR t p (en t s x) (en t s y)/\AR t p (en t x s) (en t y s):=by
 have hS:=h.toSh;have a3:=λ{x y z:Nat}=>kP h.assoc (x:=x) (y:=y) (z:=z);refine⟨⟨(e.one s hs).1,λu hu=>⟨?_,?_⟩,λu v hu hv=>?_⟩,⟨(e.one s hs).2,λu hu=>⟨?_,?_⟩,λu v hu hv=>?_⟩⟩
 ·rw [<-a3 hu hs hx,<-a3 hu hs hy];exact(e.one _ (hS.bF hu hs).2).1
 ·exact e.two s u hs hu
 ·rw [<-a3 hu hs hx,<-a3 hu hs hy];exact e.two _ v (hS.bF hu hs).2 hv
 ·rw [<-a3 hu hx hs,<-a3 hu hy hs];exact e.two u s hu hs
 ·rw [a3 hx hs hu,a3 hy hs hu];exact(e.one _ (hS.bF hs hu).2).2
 ·rw [<-a3 hu hx hs,<-a3 hu hy hs,a3 (hS.bF hu hx).2 hs hv,a3 (hS.bF hu hy).2 hs hv];exact e.two u _ hu (hS.bF hs hv).2
theorem QH(h:Semi t):Cg t (qQ t p) 0:=λx y s hx hy hs e=>by
 have hS:=h.toSh;have:=FK (p:=p) h hx hy hs ((qS hx hy).1 e);exact⟨λ_=>(qS (hS.bF hs hx).2 (hS.bF hs hy).2).2 this.1,λ_=>(qS (hS.bF hx hs).2 (hS.bF hy hs).2).2 this.2⟩
theorem FL(hs:Sh t):bz (qQ t p):=⟨by rw [Dk];have:=hs.most;omega,FJ⟩
theorem QI(h:Semi t):ca t (qQ t p) 0:=⟨h,Dk,FL h.toSh,⟨aa,aa⟩,QH h⟩
theorem yS(hs:Sh t){q:List Int}(hq:Cg t q 0)(hr:∀x y,x<t.length->y<t.length->q.getD x 0=q.getD y 0->p.getD x 0=p.getD y 0){x y:Nat}(hx:x<t.length)(hy:y<t.length)(e:q.getD x 0=q.getD y 0):AR t p x y:=by
 have l:=λ{x y s:Nat} (hx:x<t.length) (hy:y<t.length) (hs:s<t.length) e=>(hq x y s hx hy hs e).1 (by decide);have r:=λ{x y s:Nat} (hx:x<t.length) (hy:y<t.length) (hs:s<t.length) e=>(hq x y s hx hy hs e).2 (by decide)
 exact⟨hr x y hx hy e,λu hu=>⟨hr _ _ (hs.bF hu hx).2 (hs.bF hu hy).2 (l hx hy hu e),hr _ _ (hs.bF hx hu).2 (hs.bF hy hu).2 (r hx hy hu e)⟩,
  λu v hu hv=>hr _ _ (hs.bF (hs.bF hu hx).2 hv).2 (hs.bF (hs.bF hu hy).2 hv).2 (r (hs.bF hu hx).2 (hs.bF hu hy).2 hv (l hx hy hu e))⟩
theorem QJ(h:Semi t){c:List Int}(hl:c.length=t.length)(h1:∀x y,x<t.length->y<t.length->c.getD x 0=c.getD y 0->p.getD x 0=p.getD y 0)(h2:∀x y,x<t.length->y<t.length->AR t p x y->c.getD x 0=c.getD y 0)(h3:Cg t c 0):canon c=qQ t p:=by
 refine Dl (Hy t p) hl λa b ha hb=>?_;rw [fI,fI];exact⟨λe=>⟨yS h.toSh h3 h1 ha hb e,(yS h.toSh h3 h1 ha hb e).symm⟩,λe=>h2 a b ha hb e.1⟩
end
section
variable{α:Type}[DecidableEq α]
def FM(l:List α)(q:α):Nat:=l.idxOf q
theorem JJ{l:List α}{x:α}(h:x∈l):av (l++[x])=av l:=by rw [bQ,ajq h]
theorem FN{l:List α}{x:α}(h:x∉l):av (l++[x])=av l++[x]:=by rw [bQ,ajm h]
theorem MH{l:List α}{d:α}{i:Nat}(h:i<l.length)(hm:l.getD i d∈l.take i):(canon l).getD i 0=(FM (av (l.take i)) (l.getD i d):Nat):=by rw [nu (d:=d) h,ajq hm];rfl
theorem JK{l:List α}{d:α}{i:Nat}(h:i<l.length)(hm:l.getD i d∉l.take i):(canon l).getD i 0=((av (l.take i)).length:Nat):=by rw [nu (d:=d) h,ajm hm]
theorem QK{l m:List α}{q:α}(h:q∈l):FM (l++m) q=FM l q:=by unfold FM;rw [List.idxOf_append,ajq h]
theorem MI{l:List α}{q:α}(h:q∉l):FM (l++[q]) q=l.length:=by unfold FM;rw [List.idxOf_append,ajm h];simp
end
def mO(c im:List Int):List (Int × Int):=(List.range c.length).map λx=>(c.getD x 0,c.getD (im.getD x 0).toNat 0)
def jY(c im:List Int):List Int:=canon (mO c im)
theorem jc(c im:List Int):(mO c im).length=c.length:=by simp [mO]
theorem fu(c im:List Int):(jY c im).length=c.length:=by unfold jY;rw [bI,jc]
theorem uL{c im:List Int}{x:Nat}(h:x<c.length):(mO c im).getD x (0,0)=(c.getD x 0,c.getD (im.getD x 0).toNat 0):=by simp [mO,List.getD,h]
theorem Hz{c im:List Int}{x y:Nat}(hx:x<c.length)(hy:y<c.length):(jY c im).getD x 0=(jY c im).getD y 0↔c.getD x 0=c.getD y 0/\c.getD (im.getD x 0).toNat 0=c.getD (im.getD y 0).toNat 0:=by
 unfold jY;rw [eX (d:=(0,0)) (by rw [jc];exact hx) (by rw [jc];exact hy),uL hx,uL hy,Prod.mk.injEq]
def pz(c im:List Int)(k:Nat):List (Int × Int):=av ((mO c im).take k)
def ix(n:Nat)(q:Int × Int):Nat:=(q.1*n+q.2).toNat
def iy(c im:List Int)(round:Int)(M L:List Int):Nat->List Int × List Int
 |0=>(M,L)
 |k+1=>if (iy c im round M L k).1.getD (ix c.length ((mO c im).getD k (0,0))) 0=round then iy c im round M L k
  else ((iy c im round M L k).1.set (ix c.length ((mO c im).getD k (0,0))) round,(iy c im round M L k).2.set (ix c.length ((mO c im).getD k (0,0))) ((pz c im k).length:Int))
theorem QL{n:Nat}{q q':Int × Int}(h:0<=q.1/\0<=q.2/\q.2<(n:Int))(h':0<=q'.1/\0<=q'.2/\q'.2<(n:Int))(e:ix n q=ix n q'):q=q':=by
 unfold ix at e;have p1:0<=q.1*(n:Int):=Int.mul_nonneg h.1 aa;have p2:0<=q'.1*(n:Int):=Int.mul_nonneg h'.1 aa;have e:q.1*(n:Int)+q.2=q'.1*(n:Int)+q'.2:=aa;have hn:(n:Int)≠0:=aa
 have e1:(q.1*(n:Int)+q.2) / (n:Int)=q.1:=by
  rw [Int.add_comm,Int.add_mul_ediv_right _ _ hn,Int.ediv_eq_zero_of_lt h.2.1 h.2.2];omega
 have e2:(q'.1*(n:Int)+q'.2) / (n:Int)=q'.1:=by
  rw [Int.add_comm,Int.add_mul_ediv_right _ _ hn,Int.ediv_eq_zero_of_lt h'.2.1 h'.2.2];omega
 have e3:q.1=q'.1:=by rw [<-e1,<-e2,e]
 rw [e3]at e;exact Prod.ext e3 aa
structure EU(c im:List Int)(round:Int)(M L:List Int)(k:Nat):Prop where
 lm:M.length=c.length*c.length
 ll:L.length=c.length*c.length
 hi:∀x∈M,x<=round
 lo:∀x∈M,0<=x
 Wk:∀x∈L,0<=x/\x<=(c.length:Int)
 mar:∀q:Int × Int,0<=q.1->q.1<(c.length:Int)->0<=q.2->q.2<(c.length:Int)->(M.getD (ix c.length q) 0=round↔q∈(mO c im).take k)
 la:∀q:Int × Int,q∈(mO c im).take k->L.getD (ix c.length q) 0=(FM (pz c im k) q:Nat)
section
variable{c im:List Int}{round:Int}{M L:List Int}{k:Nat}
theorem FO{n:Nat}{q:Int × Int}(h1:0<=q.1)(h2:q.1<(n:Int))(h3:0<=q.2)(h4:q.2<(n:Int)):ix n q<n*n/\(ix n q:Int)=q.1*n+q.2:=by
 unfold ix;have p1:0<=q.1*(n:Int):=Int.mul_nonneg h1 aa;have p2:q.1*(n:Int)<=((n:Int) - 1)*n:=Int.mul_le_mul_of_nonneg_right aa aa;rw [Int.sub_mul]at p2;have:((n*n:Nat):Int)=(n:Int)*n:=by exact Int.natCast_mul n n
 omega
theorem EU.start(hm:M.length=c.length*c.length)(hl:L.length=c.length*c.length)(aX:∀x∈M,x<round)(KN:∀x∈M,0<=x)(hL:∀x∈L,0<=x/\x<=(c.length:Int)):EU c im round M L 0:=by
 refine⟨hm,hl,λx hx=>by have:=aX x hx;omega,KN,hL,λq h1 h2 h3 h4=>?_,λq h=>by simp at h⟩;have:=aX _ (al (d:=0) (i:=ix c.length q) (l:=M) (by rw [hm];exact(FO h1 h2 h3 h4).1));simp only [List.take_zero,akn,iff_false];omega
theorem MJ(hc:∀x∈c,0<=x/\x<(c.length:Int))(LL:∀x,x<c.length->0<=im.getD x 0/\im.getD x 0<(c.length:Int)){q:Int × Int}(h:q∈mO c im):(0<=q.1/\q.1<(c.length:Int))/\0<=q.2/\q.2<(c.length:Int):=by
 obtain⟨x,hx,rfl⟩:=aS (0,0) h;rw [jc]at hx;rw [uL hx];have:=LL x hx;exact⟨hc _ (al hx),hc _ (al aa)⟩
theorem EU.next(hc:∀x∈c,0<=x/\x<(c.length:Int))(LL:∀x,x<c.length->0<=im.getD x 0/\im.getD x 0<(c.length:Int))(hr:0<=round)(h:EU c im round (iy c im round M L k).1 (iy c im round M L k).2 k)(hk:k<c.length):
  EU c im round (iy c im round M L (k+1)).1 (iy c im round M L (k+1)).2 (k+1)/\(iy c im round M L (k+1)).2.getD (ix c.length ((mO c im).getD k (0,0))) 0=(jY c im).getD k 0/\
   ((iy c im round M L k).1.getD (ix c.length ((mO c im).getD k (0,0))) 0=round->pz c im (k+1)=pz c im k)/\((iy c im round M L k).1.getD (ix c.length ((mO c im).getD k (0,0))) 0≠round->(pz c im (k+1)).length=(pz c im k).length+1):=by
 have lK:k<(mO c im).length:=by rw [jc];exact hk
 have hq:=MJ hc LL (al (d:=(0,0)) lK);have uM:=cU (d:=((0:Int),(0:Int))) lK;have x8:=MH (d:=((0:Int),(0:Int))) lK;have MK:=JK (d:=((0:Int),(0:Int))) lK;have Y8:=h.mar _ hq.1.1 hq.1.2 hq.2.1 hq.2.2;have ML:=FO hq.1.1 hq.1.2 hq.2.1 hq.2.2
 have hF:(mO c im).getD k (0,0)∈(mO c im).take k->pz c im (k+1)=pz c im k:=λh=>by
  show av ((mO c im).take (k+1))=_;rw [uM,JJ h];rfl
 have hF':(mO c im).getD k (0,0)∉(mO c im).take k->pz c im (k+1)=pz c im k++[(mO c im).getD k (0,0)]:=λh=>by
  show av ((mO c im).take (k+1))=_;rw [uM,FN h];rfl
 have Y9:(pz c im k).length<=c.length:=by
  have:=bp ((mO c im).take k);rw [ajA,jc]at this;unfold pz;omega
 have pa:∀q:Int × Int,q∈(mO c im).take k->(0<=q.1/\q.1<(c.length:Int))/\0<=q.2/\q.2<(c.length:Int):=λq h=>MJ hc LL (List.mem_of_mem_take h)
 revert x8 MK Y8 ML hF hF'
 generalize hqk:(mO c im).getD k (0,0)=qk at*;intro x8 MK Y8 ML hF hF'
 by_cases e:(iy c im round M L k).1.getD (ix c.length qk) 0=round
 ·have lQ:=Y8.1 e
  have e1:iy c im round M L (k+1)=iy c im round M L k:=by
   show(if _ then _ else _)=_;rw [hqk,ajq e]
  have hF:=hF lQ;have x8:=x8 lQ;rw [e1]
  have hm:∀q,q∈(mO c im).take (k+1)↔q∈(mO c im).take k:=λq=>by
   rw [uM,ajK,ajC];exact⟨λh=>h.elim id λh=>h▸lQ,.inl⟩
  refine⟨⟨h.lm,h.ll,h.hi,h.lo,h.Wk,λq h1 h2 h3 h4=>(h.mar q h1 h2 h3 h4).trans (hm q).symm,λq hq=>?_⟩,?_,λ_=>hF,λh=>absurd e h⟩
  ·rw [hF];exact h.la q ((hm q).1 hq)
  ·unfold jY;rw [h.la _ lQ];exact x8.symm
 ·have lQ:¬qk∈(mO c im).take k:=λh=>e (Y8.2 h)
  have e1:iy c im round M L (k+1)=((iy c im round M L k).1.set (ix c.length qk) round,(iy c im round M L k).2.set (ix c.length qk) ((pz c im k).length:Int)):=by
   show(if _ then _ else _)=_;rw [hqk,ajm e]
  have hF:=hF' lQ;have x8:=MK lQ;rw [e1]
  have hm:∀q,q∈(mO c im).take (k+1)↔q∈(mO c im).take k\/q=qk:=λq=>by
   rw [uM,ajK,ajC]
  have YS:=h.lm;have oO:=h.ll
  have pc:∀(l:List Int) (v:Int),l.length=c.length*c.length->∀q:Int × Int,0<=q.1->q.1<(c.length:Int)->0<=q.2->q.2<(c.length:Int)->(l.set (ix c.length qk) v).getD (ix c.length q) 0=if q=qk then v else l.getD (ix c.length q) 0:=λl v hl q h1 h2 h3 h4=>by
   by_cases e2:q=qk
   ·subst e2;rw [aB (by rw [hl];exact ML.1),ajq rfl]
   ·rw [getD_set_ne (λe3=>e2 (QL ⟨h1,h3,h4⟩ ⟨hq.1.1,hq.2.1,hq.2.2⟩ e3.symm)),ajm e2]
  refine⟨⟨by rw [ajv];exact YS,by rw [ajv];exact oO,λx hx=>?_,λx hx=>?_,λx hx=>?_,λq h1 h2 h3 h4=>?_,λq hqm=>?_⟩,?_,λh=>absurd h e,λ_=>by rw [hF];simp⟩
  ·rcases List.mem_or_eq_of_mem_set hx with hx|rfl
   ·exact h.hi x hx
   ·omega
  ·rcases List.mem_or_eq_of_mem_set hx with hx|rfl
   ·exact h.lo x hx
   ·omega
  ·rcases List.mem_or_eq_of_mem_set hx with hx|rfl
   ·exact h.Wk x hx
   ·omega
  ·rw [pc _ _ YS q h1 h2 h3 h4,hm]
   by_cases e2:q=qk
   ·rw [ajq e2];exact⟨λ_=>.inr e2,λ_=>rfl⟩
   ·rw [ajm e2,h.mar q h1 h2 h3 h4];exact⟨.inl,λh=>h.elim id λh=>absurd h e2⟩
  ·have hr:(0<=q.1/\q.1<(c.length:Int))/\0<=q.2/\q.2<(c.length:Int):=((hm q).1 hqm).elim (pa q) λh=>h▸hq
   rw [pc _ _ oO q hr.1.1 hr.1.2 hr.2.1 hr.2.2,hF]
   by_cases e2:q=qk
   ·subst e2
    rw [ajq rfl,MI (l:=pz c im k) (λh=>lQ (aL.1 h))]
   ·rw [ajm e2]
    have zP:=((hm q).1 hqm).elim id λh=>absurd h e2;rw [h.la q zP,QK (l:=pz c im k) (aL.2 zP)]
  ·rw [pc _ _ oO qk hq.1.1 hq.1.2 hq.2.1 hq.2.2,ajq rfl]
   unfold jY;exact x8.symm
theorem EU.upto(hc:∀x∈c,0<=x/\x<(c.length:Int))(LL:∀x,x<c.length->0<=im.getD x 0/\im.getD x 0<(c.length:Int))(hr:0<=round)(h:EU c im round M L 0):∀k,k<=c.length->EU c im round (iy c im round M L k).1 (iy c im round M L k).2 k
 |0,_=>h
 |k+1,hk=>(EU.next hc LL hr (EU.upto hc LL hr h k aa) aa).1
end
theorem nv{α:Type}[DecidableEq α](d:α)(l:List α):canon (canon l)=canon l:=
 ic (d:=0) (e:=d) (bI l) λi j hi hj=>by
  rw [bI]at hi hj;exact eX hi hj
theorem x9{α:Type}[DecidableEq α](d:α)(l:List α):ao (canon l)=(av l).length:=by
 have hv:=kn (nv d l)
 have h1:ao (canon l)<=(av l).length:=by
  rcases aj1 (ao (canon l))with e|e
  ·omega
  ·have hm:=(hv ((ao (canon l):Int) - 1)).1 ⟨aa,aa⟩
   obtain⟨i,hi,hx⟩:=aS 0 hm;rw [bI]at hi;have:=Dm hi;omega
 have h2:(av l).length<=ao (canon l):=by
  rcases aj1 (av l).length with e|e
  ·omega
  ·have hm:(av l)[(av l).length - 1]∈l:=aL.1 (List.getElem_mem _)
   have hx:(((av l).length - 1:Nat):Int)∈canon l:=by
    unfold canon;refine ajU.2 ⟨_,hm,?_⟩;rw [(fP l).idxOf_getElem]
   have:=(hv _).2 hx;omega
 omega
theorem QM(c im:List Int):(pz c im c.length).length=ao (jY c im):=by
 unfold pz jY;rw [aj4 (by rw [jc];exact ajl _),x9 (0,0)]
theorem JL(c im:List Int):canon (jY c im)=jY c im:=nv (0,0) _
theorem lN{c d:List Int}(hc:canon c=c)(hd:canon d=d)(hl:c.length=d.length)(hr:∀x y,x<c.length->y<c.length->d.getD x 0=d.getD y 0->c.getD x 0=c.getD y 0):ao c<=ao d/\(ao c=ao d->d=c):=by
 have hle:∀i,i<=c.length->(av (c.take i)).length<=(av (d.take i)).length/\((av (c.take i)).length=(av (d.take i)).length->∀x y,x<i->y<i->c.getD x 0=c.getD y 0->d.getD x 0=d.getD y 0):=by
  intro i
  induction i with
  |zero=>intro _;exact⟨by simp [av],λ_ x y hx=>absurd hx (aju _)⟩
  |succ i ih=>
   intro hi;have ih:=ih aa;have tc:=cU (d:=(0:Int)) (l:=c) (i:=i) aa;have td:=cU (d:=(0:Int)) (l:=d) (i:=i) aa
   have memt:∀{l:List Int} {v:Int},i<l.length->(v∈l.take i↔∃j,j<i/\l.getD j 0=v):=λ{l v} bD=>by
    constructor
    ·intro h
     obtain⟨j,hj,he⟩:=aS 0 h;rw [ajA]at hj;have l4:j<i:=aa;exact⟨j,l4,by rw [<-he];simp [List.getD,l4]⟩
    ·rintro⟨j,hj,rfl⟩
     have:(l.take i).getD j 0=l.getD j 0:=by simp [List.getD,hj]
     rw [<-this];exact al (by rw [ajA];omega)
   rw [tc,td,bQ,bQ]
   by_cases h1:d.getD i 0∈d.take i
   ·obtain⟨j,hj,he⟩:=(memt aa).1 h1
    have h2:c.getD i 0∈c.take i:=(memt aa).2 ⟨j,hj,hr j i aa aa he⟩;rw [ajq h1,ajq h2];refine⟨ih.1,λe x y hx hy uB=>?_⟩;have hcj:=hr j i aa aa he;have step:∀z,z<i->c.getD z 0=c.getD i 0->d.getD z 0=d.getD i 0:=λz hz hzi=>(ih.2 e z j hz hj (hzi.trans hcj.symm)).trans he;rcases ajF x i with BZ|BZ<;>rcases ajF y i with UO|UO
    ·exact ih.2 e x y BZ UO uB
    ·obtain rfl:y=i:=aa
     exact step x BZ uB
    ·obtain rfl:x=i:=aa
     exact(step y UO uB.symm).symm
    ·obtain rfl:x=i:=aa
     obtain rfl:y=x:=aa
     rfl
   ·rw [ajm h1]
    by_cases h2:c.getD i 0∈c.take i
    ·rw [ajq h2,ajp,ajx]
     exact⟨aa,λe=>by omega⟩
    ·rw [ajm h2]
     simp only [ajp,ajx];refine⟨aa,λe x y hx hy uB=>?_⟩;have ih2:=ih.2 aa;have no:∀z,z<i->c.getD z 0≠c.getD i 0:=λz hz hzi=>h2 ((memt aa).2 ⟨z,hz,hzi⟩);rcases ajF x i with BZ|BZ<;>rcases ajF y i with UO|UO
     ·exact ih2 x y BZ UO uB
     ·obtain rfl:y=i:=aa
      exact absurd uB (no x BZ)
     ·obtain rfl:x=i:=aa
      exact absurd uB.symm (no y UO)
     ·obtain rfl:x=i:=aa
      obtain rfl:y=x:=aa
      rfl
 have:=hle c.length (ajl _);rw [List.take_length,hl,List.take_length]at this;refine⟨this.1,λe=>?_⟩;rw [<-hc,<-hd];exact(ic (d:=0) (e:=0) hl λi j hi hj=>⟨λh=>this.2 e i j aa aa h,λh=>hr i j hi hj h⟩).symm
set_option maxRecDepth 100000
theorem wo(n:Nat)(hn:n<=4096):QF 30 [.int .i64 n] (.new (.ints .i64 (List.replicate n 0))):=fN Tryz.func30 (by decide+kernel) rfl (ah rfl) λ_=>by
 refine ae (λh1=>?_) (λ_=>?_)
 ·have h1:(n:Int)<0:=h1
  omega
 refine ae (λh1=>?_) (λ_=>?_)
 ·have h1:4096<(n:Int):=h1
  omega
 refine aj ?_;refine aj ?_;refine ae (ae (by simp) ?_) trivial;show RO.ints .i64 (List.replicate (n:Int).toNat 0)=RO.ints .i64 (List.replicate n 0);rw [ajr]
def Pt(n:Nat)(p:List Int):Prop:=p.length=n/\bz p
def jP(p q:List Int):List Int:=canon (p.zip q)
def mQ(n:Nat)(l:List (List Int)):List Int:=l.foldr jP (List.replicate n 0)
theorem Pt.Cb{n:Nat}(hn:n<=4096):Pt n (List.replicate n 0):=
 ⟨ajz,by rw [ajz];omega,fE.2 λi _=>by
  have:(List.replicate n (0:Int)).getD i 0=0:=by simp only [List.getD,ajH];split<;>rfl
  unfold dy;rw [this];omega⟩
theorem Pt.mt{n:Nat}{p q:List Int}(hp:Pt n p)(hq:Pt n q):Pt n (jP p q):=by
 have hl:(jP p q).length=n:=by unfold jP;rw [bI,List.length_zip,hp.1,hq.1];omega
 exact⟨hl,by rw [hl];have:=hp.2.1;have:=hp.1;omega,nv (0,0) _⟩
theorem Pt.mQ{n:Nat}(hn:n<=4096):∀{l:List (List Int)},(∀p∈l,Pt n p)->Pt n (mQ n l)
 |[],_=>Pt.Cb hn
 |_::_,h=>(h _ (ajn ..)).mt (Pt.mQ hn λq hq=>h q (ajj _ hq))
theorem AU{n:Nat}{p q:List Int}(hp:Pt n p)(hq:Pt n q):QF 32 [.ro (.ints .i64 p),.ro (.ints .i64 q)] (.new (.ints .i64 (jP p q))):=by
 have h:=MM p q;rw [ajq ⟨hp.1.trans hq.1.symm,hp.2,hq.2⟩]at h;exact h
def mW(n:Nat)(l:List (List Int)):List (List Int):=(List.range (l.length+1)).map λi=>mQ n (l.drop i)
theorem zV(n:Nat)(l:List (List Int)):(mW n l).length=l.length+1:=by simp [mW]
theorem zW(n:Nat)(l:List (List Int)){i:Nat}(hi:i<=l.length):(mW n l).getD i []=mQ n (l.drop i):=by
 have:i<l.length+1:=aa;simp [mW,List.getD,this]
theorem MN(n:Nat)(l:List (List Int)){i:Nat}(hi:i<l.length):mQ n (l.drop i)=jP (l.getD i []) (mQ n (l.drop (i+1))):=by
 rw [List.drop_eq_getElem_cons hi,getD_eq hi];rfl
set_option maxHeartbeats 1000000 in
theorem GX(n:Nat)(l:List (List Int))(h0:0<n)(hn:n<=4096)(hl:l.length<=4096)(hp:∀p∈l,Pt n p):QF 41 [.int .i64 n,.ro (.rows .i64 l)] (.new (.rows .i64 (mW n l))):=fN Tryz.func41 (by decide+kernel) rfl (ah rfl) λ_=>by
 have hd:∀i,∀p∈l.drop i,Pt n p:=λi p h=>hp p (List.mem_of_mem_drop h);refine aj ?_;refine aj ?_;refine aj ?_;refine Or.inr (Or.inr ?_);refine Or.inl (cq (wo n hn) (ae rfl ag) ?_);have hr:(List.replicate ((l.length:Int)+1).toNat ([]:List Int)).length=l.length+1:=by rw [ajz];omega
 refine ae (show 0<=(l.length:Int)/\(l.length:Int)<((List.replicate ((l.length:Int)+1).toNat ([]:List Int)).length:Int) by omega) ?_;refine aj ?_;refine aj ?_;have bn:∀p,Pt n p->p≠[]:=λp h e=>by have:=h.1;rw [e]at this;simp at this;omega
 refine af [11,15,16,24,30,35,36,10015,10035]<|kF (λ(k:Nat) (_:List (List Int))=>[(6,.int .i64 ((k:Int) - 1))]) (λ_ M=>[(10,.vec 0 (.cY .i64 M) [])]) (λk M=>k<=l.length/\M.length=l.length+1/\∀j,k<=j->j<=l.length->M.getD j []=mQ n (l.drop j)) (λk _=>k) l.length ((List.replicate ((l.length:Int)+1).toNat []).set l.length (List.replicate n 0)) ⟨ajl _,by rw [ajv];exact hr,λj h1 h2=>?_⟩ ?_ ?_
 ·have e:j=l.length:=aa
  subst e;rw [aB aa,List.drop_length];rfl
 ·repeat' first|refine ae ?_ ?_|exact ag|exact bn _ (Pt.Cb hn)|(show(_:Int)=(_:Int);omega)|omega|exact rfl
 rintro k M ⟨hk,hM,PC⟩;refine ae (λh1=>?_) (λh1=>?_)
 ·have h1:0<=(k:Int) - 1:=h1
  have lK:k - 1<l.length:=aa;have ek:((k:Int) - 1).toNat=k - 1:=aa;have ek2:((k:Int) - 1+1).toNat=k:=aa;have hMk:=PC k (ajl _) hk;have hPk:Pt n (mQ n (l.drop k)):=Pt.mQ hn (hd k);have Za:Pt n (l.getD (k - 1) []):=hp _ (al (d:=[]) lK);refine Or.inl ?_;refine af (List.replicate 11 false++[true,false,true]) (ae (by decide+kernel) ?_);refine ae (show 0<=(k:Int) - 1/\(k:Int) - 1<(l.length:Int) by omega) ?_;refine ae (show -9223372036854775808<=(k:Int) - 1+1/\(k:Int) - 1+1<=9223372036854775807 by omega) ?_;refine ae (show 0<=(k:Int) - 1+1/\(k:Int) - 1+1<(M.length:Int) by omega) ?_;refine ae (λh2=>?_) (λ_=>?_)
  ·have h2:M.getD ((k:Int) - 1+1).toNat []=[]:=h2
   rw [ek2,hMk]at h2;exact absurd h2 (bn _ hPk)
  refine Or.inl (cq (AU (n:=n) (p:=l.getD ((k:Int) - 1).toNat []) (q:=M.getD ((k:Int) - 1+1).toNat []) (by rw [ek];exact Za) (by rw [ek2,hMk];exact hPk)) (ae rfl (ae rfl ag)) ?_);refine ae (show 0<=(k:Int) - 1/\(k:Int) - 1<(M.length:Int) by omega) ?_;refine aj ?_;refine aj ?_
  have em:jP (l.getD ((k:Int) - 1).toNat []) (M.getD ((k:Int) - 1+1).toNat [])=mQ n (l.drop (k - 1)):=by
   rw [ek,ek2,hMk,MN n l lK,show k - 1+1=k by omega]
  refine nx (k - 1,M.set ((k:Int) - 1).toNat (jP (l.getD ((k:Int) - 1).toNat []) (M.getD ((k:Int) - 1+1).toNat []))) ⟨aa,by rw [ajv];exact hM,λj h2 h3=>?_⟩ (show k - 1<k by omega) ?_
  ·rw [em,ek]
   by_cases e:j=k - 1
   ·subst e;rw [aB aa]
   ·rw [getD_set_ne (Ne.symm e)];exact PC j aa h3
  ·repeat' first|refine ae ?_ ?_|exact ag|(rw [em];exact bn _ (Pt.mQ hn (hd _)))|(show(_:Int)=(_:Int);omega)|omega|exact rfl
 ·have h1:(k:Int) - 1<0:=h1
  refine ae (ae aa ?_) trivial;show RO.rows .i64 M=RO.rows .i64 (mW n l)
  congr 1
  refine a6 [] (by rw [hM,zV]) λi hi=>?_;rw [zW n l aa];exact PC i aa aa
def dm(n:Nat):List Int->List (List Int)->List (List Int)
 |_,[]=>[]
 |b,p::l=>if ao (jP b (mQ n l))=n then dm n b l else p::dm n (jP b p) l
theorem JM(n:Nat)(b:List Int)(l:List (List Int)){i:Nat}(hi:i<l.length):dm n b (l.drop i)=if ao (jP b (mQ n (l.drop (i+1))))=n then dm n b (l.drop (i+1)) else l.getD i []::dm n (jP b (l.getD i [])) (l.drop (i+1)):=by
 rw [List.drop_eq_getElem_cons hi,getD_eq hi];rfl
set_option maxHeartbeats 1000000 in
theorem GY(n:Nat)(l:List (List Int))(h0:0<n)(hn:n<=4096)(hl:l.length<=4096)(hp:∀p∈l,Pt n p):QF 33 [.int .i64 n,.ro (.rows .i64 l)] (.ro (.rows .i64 (dm n (List.replicate n 0) l))):=fN Tryz.func33 (by decide+kernel) rfl (ah rfl) λ_=>by
 have hd:∀i,∀p∈l.drop i,Pt n p:=λi p h=>hp p (List.mem_of_mem_drop h);refine Or.inl (cq (GX n l h0 hn hl hp) (ae rfl (ae rfl ag)) ?_);refine Or.inl (cq (wo n hn) (ae rfl ag) ?_);refine af [14,22,28,36,38,10014,10028,10038]<|BU (λ(i:Nat) (_:List (List Int)) (b:List Int)=>[(17,.int .i64 i),(5,.vec 35),(7,.ro (.ints .i64 b))]) (λ_ K _=>[(35,.vec 0 (.rows .i64 K) [])]) (λi K b=>i<=l.length/\K.length<=i/\Pt n b/\K++dm n b (l.drop i)=dm n (List.replicate n 0) l) (λi _ _=>l.length - i) 0 [] (List.replicate n 0) ⟨ajk _,ajl _,Pt.Cb hn,rfl⟩ ab ?_
 rintro i K b ⟨hi,hK,hb,he⟩;refine ae (λh1=>?_) (λh1=>?_)
 ·have h1:(i:Int)<(l.length:Int):=h1
  have bD:i<l.length:=aa;have Za:Pt n (l.getD i []):=hp _ (al (d:=[]) bD);have cX:=JM n b l bD;have QN:=zW n l (i:=i+1) aa;have gv:=zV n l;have Zb:Pt n (mQ n (l.drop (i+1))):=Pt.mQ hn (hd _);have ei:((i:Int)+1).toNat=i+1:=aa;have UP:Pt n ((mW n l).getD ((i:Int)+1).toNat []):=by rw [ei,QN];exact Zb
  have V3:ao (jP b ((mW n l).getD ((i:Int)+1).toNat []))<=n:=by
   have:=bp (jP b ((mW n l).getD ((i:Int)+1).toNat []));rw [(hb.mt UP).1]at this;exact this
  have hKl:(K++[l.getD (i:Int).toNat []]).length=K.length+1:=by simp
  refine aj ?_;refine ae (show -9223372036854775808<=(i:Int)+1/\(i:Int)+1<=9223372036854775807 by omega) ?_;refine ae (show 0<=(i:Int)+1/\(i:Int)+1<((mW n l).length:Int) by omega) ?_;refine Or.inl (cq (AU hb UP) (ae rfl (ae rfl ag)) ?_);refine Or.inl (cq (zX _ (hb.mt UP).2) (ae rfl ag) ?_);refine ae (λh2=>?_) (λh2=>?_)
  ·have h2:((ao (jP b ((mW n l).getD ((i:Int)+1).toNat [])):Nat):Int)=(n:Int):=h2
   rw [ei,QN]at h2;rw [ajq aa]at cX;refine aj ?_;exact nx (i+1,K,b) ⟨aa,aa,hb,by rw [<-he,cX]⟩ (show l.length - (i+1)<l.length - i by omega) ab
  ·have h2:¬((ao (jP b ((mW n l).getD ((i:Int)+1).toNat [])):Nat):Int)=(n:Int):=h2
   rw [ei,QN]at h2;rw [ajm aa]at cX;refine aj ?_;refine Or.inl (cq (AU hb Za) (ae rfl (ae rfl ag)) ?_);refine aj ?_;exact nx (i+1,K++[l.getD i []],jP b (l.getD i [])) ⟨aa,by rw [ajp,ajx];omega,hb.mt Za,by rw [<-he,cX,List.append_assoc];rfl⟩ (show l.length - (i+1)<l.length - i by omega) ab
 ·have h1:(l.length:Int)<=(i:Int):=h1
  have e:K=dm n (List.replicate n 0) l:=by rw [<-he,List.drop_of_length_le aa];simp [dm]
  refine ae ?_ trivial;refine ae trivial ?_;show RO.rows .i64 K=RO.rows .i64 _;rw [e]
end Go.Proofs.YtgailjhnfghkgaaGreatDoor
end
section
namespace Go.Proofs.YtgailjhnfghkgaaGreatDoor
section
end
theorem JN{n:Nat}{l:List Int}(hn:l.Nodup)(h:∀x∈l,0<=x/\x<(n:Int)):l.length<=n:=by
 have:=hn.length_le_of_subset (l₂:=cR n) λx hx=>c8.2 (h x hx)
 rwa [bP]at this
end Go.Proofs.YtgailjhnfghkgaaGreatDoor
end
