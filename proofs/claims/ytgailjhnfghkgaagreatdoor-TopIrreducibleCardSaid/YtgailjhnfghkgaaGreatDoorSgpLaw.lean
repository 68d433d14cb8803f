import Derived.Test.YtgailjhnfghkgaaGreatDoorEnLaw
import Derived.Test.YtgailjhnfghkgaaGreatDoorSd
import Derived.Test.YtgailjhnfghkgaaGreatDoorOrd
import Derived.Test.YtgailjhnfghkgaaGreatDoorDfa
section
namespace Go.Proofs.YtgailjhnfghkgaaGreatDoor
open Go Go.AM
section
variable{t:List (List Int)}{p:List Int}
structure Aa(t:List (List Int))(p:List Int)(x y:Nat):Prop where
 own:p.getD x 0=p.getD y 0
 one:∀u,u<t.length->p.getD (en t u x) 0=p.getD (en t u y) 0/\p.getD (en t x u) 0=p.getD (en t y u) 0
 two:∀u v,u<t.length->v<t.length->p.getD (en t (en t u x) v) 0=p.getD (en t (en t u y) v) 0
theorem Aa.refl(x:Nat):Aa t p x x:=⟨rfl,λ _ _=>⟨rfl,rfl⟩,λ _ _ _ _=>rfl⟩
theorem Aa.symm{x y:Nat}(h:Aa t p x y):Aa t p y x:=⟨h.own.symm,λ u hu=>⟨(h.one u hu).1.symm,(h.one u hu).2.symm⟩,λ u v hu hv=>(h.two u v hu hv).symm⟩
theorem Aa.trans{x y z:Nat}(h:Aa t p x y)(h':Aa t p y z):Aa t p x z:=
 ⟨h.own.trans h'.own,λ u hu=>⟨(h.one u hu).1.trans (h'.one u hu).1,(h.one u hu).2.trans (h'.one u hu).2⟩,λ u v hu hv=>(h.two u v hu hv).trans (h'.two u v hu hv)⟩
noncomputable def Pf(t:List (List Int))(p:List Int)(x y:Nat):Bool:=@decide (Aa t p x y) (Classical.propDecidable _)
theorem fy{x y:Nat}:Pf t p x y=true↔Aa t p x y:=by unfold Pf;exact @decide_eq_true_iff _ (Classical.propDecidable _)
theorem Gq(t:List (List Int))(p:List Int):S6 t.length (Pf t p):=
 EI (λ x _=>fy.2 (.refl x)) λ _ _ _ _ _ _ h h'=>fy.2 ((fy.1 h).trans (fy.1 h'))
noncomputable def qf(t:List (List Int))(p:List Int):List Int:=tB t.length (Pf t p)
theorem Cj:(qf t p).length=t.length:=qg _ _
theorem EJ:canon (qf t p)=qf t p:=fq _
theorem qh{a b:Nat}(ha:a<t.length)(hb:b<t.length):(qf t p).getD a 0=(qf t p).getD b 0↔Aa t p a b:=by
 unfold qf;rw [qi (Gq t p) ha hb,fy,fy];exact⟨λ h=>h.1,λ h=>⟨h,h.symm⟩⟩
theorem EK(h:Semi t){x y s:Nat}(hx:x<t.length)(hy:y<t.length)(hs:s<t.length)(e:Aa t p x y):Aa t p (en t s x) (en t s y)/\Aa t p (en t x s) (en t y s):=by
 have hS:=h.toSh;have a3:=λ{x y z:Nat}=>ka h.assoc (x:=x) (y:=y) (z:=z);refine⟨⟨(e.one s hs).1,λ u hu=>⟨?_,?_⟩,λ u v hu hv=>?_⟩,⟨(e.one s hs).2,λ u hu=>⟨?_,?_⟩,λ u v hu hv=>?_⟩⟩
 ·rw [<-a3 hu hs hx,<-a3 hu hs hy];exact(e.one _ (hS.bA hu hs).2).1
 ·exact e.two s u hs hu
 ·rw [<-a3 hu hs hx,<-a3 hu hs hy];exact e.two _ v (hS.bA hu hs).2 hv
 ·rw [<-a3 hu hx hs,<-a3 hu hy hs];exact e.two u s hu hs
 ·rw [a3 hx hs hu,a3 hy hs hu];exact(e.one _ (hS.bA hs hu).2).2
 ·rw [<-a3 hu hx hs,<-a3 hu hy hs,a3 (hS.bA hu hx).2 hs hv,a3 (hS.bA hu hy).2 hs hv];exact e.two u _ hu (hS.bA hs hv).2
theorem Pg(h:Semi t):Cg t (qf t p) 0:=λ x y s hx hy hs e=>by
 have hS:=h.toSh;have:=EK (p:=p) h hx hy hs ((qh hx hy).1 e);exact⟨λ _=>(qh (hS.bA hs hx).2 (hS.bA hs hy).2).2 this.1,λ _=>(qh (hS.bA hx hs).2 (hS.bA hy hs).2).2 this.2⟩
theorem EL(hs:Sh t):bp (qf t p):=⟨by rw [Cj];have:=hs.most;omega,EJ⟩
theorem Ph(h:Semi t):cd t (qf t p) 0:=⟨h,Cj,EL h.toSh,⟨aa,aa⟩,Pg h⟩
theorem yf(hs:Sh t){q:List Int}(hq:Cg t q 0)(hr:∀x y,x<t.length->y<t.length->q.getD x 0=q.getD y 0->p.getD x 0=p.getD y 0){x y:Nat}(hx:x<t.length)(hy:y<t.length)(e:q.getD x 0=q.getD y 0):Aa t p x y:=by
 have l:=λ{x y s:Nat} (hx:x<t.length) (hy:y<t.length) (hs:s<t.length) e=>(hq x y s hx hy hs e).1 (by decide);have r:=λ{x y s:Nat} (hx:x<t.length) (hy:y<t.length) (hs:s<t.length) e=>(hq x y s hx hy hs e).2 (by decide)
 exact⟨hr x y hx hy e,λ u hu=>⟨hr _ _ (hs.bA hu hx).2 (hs.bA hu hy).2 (l hx hy hu e),hr _ _ (hs.bA hx hu).2 (hs.bA hy hu).2 (r hx hy hu e)⟩,
  λ u v hu hv=>hr _ _ (hs.bA (hs.bA hu hx).2 hv).2 (hs.bA (hs.bA hu hy).2 hv).2 (r (hs.bA hu hx).2 (hs.bA hu hy).2 hv (l hx hy hu e))⟩
theorem Pj(h:Semi t){c:List Int}(hl:c.length=t.length)(h1:∀x y,x<t.length->y<t.length->c.getD x 0=c.getD y 0->p.getD x 0=p.getD y 0)(h2:∀x y,x<t.length->y<t.length->Aa t p x y->c.getD x 0=c.getD y 0)(h3:Cg t c 0):canon c=qf t p:=by
 refine Ck (Gq t p) hl λ a b ha hb=>?_;rw [fy,fy];exact⟨λ e=>⟨yf h.toSh h3 h1 ha hb e,(yf h.toSh h3 h1 ha hb e).symm⟩,λ e=>h2 a b ha hb e.1⟩
end
section
variable{α:Type}[DecidableEq α]
def EM(l:List α)(q:α):Nat:=l.idxOf q
theorem Iw{l:List α}{x:α}(h:x∈l):ar (l++[x])=ar l:=by rw [bN,if_pos h]
theorem EN{l:List α}{x:α}(h:x∉l):ar (l++[x])=ar l++[x]:=by rw [bN,if_neg h]
theorem Ld{l:List α}{d:α}{i:Nat}(h:i<l.length)(hm:l.getD i d∈l.take i):(canon l).getD i 0=(EM (ar (l.take i)) (l.getD i d):Nat):=by rw [m6 (d:=d) h,if_pos hm];rfl
theorem Ix{l:List α}{d:α}{i:Nat}(h:i<l.length)(hm:l.getD i d∉l.take i):(canon l).getD i 0=((ar (l.take i)).length:Nat):=by rw [m6 (d:=d) h,if_neg hm]
theorem Pk{l m:List α}{q:α}(h:q∈l):EM (l++m) q=EM l q:=by unfold EM;rw [List.idxOf_append,if_pos h]
theorem Le{l:List α}{q:α}(h:q∉l):EM (l++[q]) q=l.length:=by unfold EM;rw [List.idxOf_append,if_neg h];simp
end
def mz(c im:List Int):List (Int × Int):=(List.range c.length).map λ x=>(c.getD x 0,c.getD (im.getD x 0).toNat 0)
def jL(c im:List Int):List Int:=canon (mz c im)
theorem iN(c im:List Int):(mz c im).length=c.length:=by simp [mz]
theorem fg(c im:List Int):(jL c im).length=c.length:=by unfold jL;rw [bD,iN]
theorem tX{c im:List Int}{x:Nat}(h:x<c.length):(mz c im).getD x (0,0)=(c.getD x 0,c.getD (im.getD x 0).toNat 0):=by simp [mz,List.getD,h]
theorem Gr{c im:List Int}{x y:Nat}(hx:x<c.length)(hy:y<c.length):(jL c im).getD x 0=(jL c im).getD y 0↔c.getD x 0=c.getD y 0/\c.getD (im.getD x 0).toNat 0=c.getD (im.getD y 0).toNat 0:=by
 unfold jL;rw [eJ (d:=(0,0)) (by rw [iN];exact hx) (by rw [iN];exact hy),tX hx,tX hy,Prod.mk.injEq]
def o5(c im:List Int)(k:Nat):List (Int × Int):=ar ((mz c im).take k)
def gX(n:Nat)(q:Int × Int):Nat:=(q.1*n+q.2).toNat
def gY(c im:List Int)(round:Int)(M L:List Int):Nat->List Int × List Int
 |0=>(M,L)
 |k+1=>if (gY c im round M L k).1.getD (gX c.length ((mz c im).getD k (0,0))) 0=round then gY c im round M L k
  else ((gY c im round M L k).1.set (gX c.length ((mz c im).getD k (0,0))) round,(gY c im round M L k).2.set (gX c.length ((mz c im).getD k (0,0))) ((o5 c im k).length:Int))
theorem Pm{n:Nat}{q q':Int × Int}(h:0<=q.1/\0<=q.2/\q.2<(n:Int))(h':0<=q'.1/\0<=q'.2/\q'.2<(n:Int))(e:gX n q=gX n q'):q=q':=by
 unfold gX at e;have p1:0<=q.1*(n:Int):=Int.mul_nonneg h.1 aa;have p2:0<=q'.1*(n:Int):=Int.mul_nonneg h'.1 aa;have e:q.1*(n:Int)+q.2=q'.1*(n:Int)+q'.2:=aa;have hn:(n:Int)≠0:=aa
 have e1:(q.1*(n:Int)+q.2) / (n:Int)=q.1:=by
  rw [Int.add_comm,Int.add_mul_ediv_right _ _ hn,Int.ediv_eq_zero_of_lt h.2.1 h.2.2];omega
 have e2:(q'.1*(n:Int)+q'.2) / (n:Int)=q'.1:=by
  rw [Int.add_comm,Int.add_mul_ediv_right _ _ hn,Int.ediv_eq_zero_of_lt h'.2.1 h'.2.2];omega
 have e3:q.1=q'.1:=by rw [<-e1,<-e2,e]
 rw [e3]at e;exact Prod.ext e3 aa
structure DZ(c im:List Int)(round:Int)(M L:List Int)(k:Nat):Prop where
 lm:M.length=c.length*c.length
 ll:L.length=c.length*c.length
 hi:∀x∈M,x<=round
 lo:∀x∈M,0<=x
 UT:∀x∈L,0<=x/\x<=(c.length:Int)
 YV:∀q:Int × Int,0<=q.1->q.1<(c.length:Int)->0<=q.2->q.2<(c.length:Int)->(M.getD (gX c.length q) 0=round↔q∈(mz c im).take k)
 la:∀q:Int × Int,q∈(mz c im).take k->L.getD (gX c.length q) 0=(EM (o5 c im k) q:Nat)
section
variable{c im:List Int}{round:Int}{M L:List Int}{k:Nat}
theorem EO{n:Nat}{q:Int × Int}(h1:0<=q.1)(h2:q.1<(n:Int))(h3:0<=q.2)(h4:q.2<(n:Int)):gX n q<n*n/\(gX n q:Int)=q.1*n+q.2:=by
 unfold gX;have p1:0<=q.1*(n:Int):=Int.mul_nonneg h1 aa;have p2:q.1*(n:Int)<=((n:Int) - 1)*n:=Int.mul_le_mul_of_nonneg_right aa aa;rw [Int.sub_mul]at p2;have:((n*n:Nat):Int)=(n:Int)*n:=by exact Int.natCast_mul n n
 omega
theorem DZ.start(hm:M.length=c.length*c.length)(hl:L.length=c.length*c.length)(aS:∀x∈M,x<round)(JB:∀x∈M,0<=x)(hL:∀x∈L,0<=x/\x<=(c.length:Int)):DZ c im round M L 0:=by
 refine⟨hm,hl,λ x hx=>by have:=aS x hx;omega,JB,hL,λ q h1 h2 h3 h4=>?_,λ q h=>by simp at h⟩;have:=aS _ (an (d:=0) (i:=gX c.length q) (l:=M) (by rw [hm];exact(EO h1 h2 h3 h4).1));simp only [List.take_zero,List.not_mem_nil,iff_false];omega
theorem Lf(hc:∀x∈c,0<=x/\x<(c.length:Int))(Kh:∀x,x<c.length->0<=im.getD x 0/\im.getD x 0<(c.length:Int)){q:Int × Int}(h:q∈mz c im):(0<=q.1/\q.1<(c.length:Int))/\0<=q.2/\q.2<(c.length:Int):=by
 obtain⟨x,hx,rfl⟩:=aV (0,0) h;rw [iN]at hx;rw [tX hx];have:=Kh x hx;exact⟨hc _ (an hx),hc _ (an aa)⟩
theorem DZ.next(hc:∀x∈c,0<=x/\x<(c.length:Int))(Kh:∀x,x<c.length->0<=im.getD x 0/\im.getD x 0<(c.length:Int))(hr:0<=round)(h:DZ c im round (gY c im round M L k).1 (gY c im round M L k).2 k)(hk:k<c.length):
  DZ c im round (gY c im round M L (k+1)).1 (gY c im round M L (k+1)).2 (k+1)/\(gY c im round M L (k+1)).2.getD (gX c.length ((mz c im).getD k (0,0))) 0=(jL c im).getD k 0/\
   ((gY c im round M L k).1.getD (gX c.length ((mz c im).getD k (0,0))) 0=round->o5 c im (k+1)=o5 c im k)/\((gY c im round M L k).1.getD (gX c.length ((mz c im).getD k (0,0))) 0≠round->(o5 c im (k+1)).length=(o5 c im k).length+1):=by
 have lr:k<(mz c im).length:=by rw [iN];exact hk
 have hq:=Lf hc Kh (an (d:=(0,0)) lr);have tL:=cN (d:=((0:Int),(0:Int))) lr;have xy:=Ld (d:=((0:Int),(0:Int))) lr;have Lg:=Ix (d:=((0:Int),(0:Int))) lr;have XE:=h.YV _ hq.1.1 hq.1.2 hq.2.1 hq.2.2;have Lh:=EO hq.1.1 hq.1.2 hq.2.1 hq.2.2
 have hF:(mz c im).getD k (0,0)∈(mz c im).take k->o5 c im (k+1)=o5 c im k:=λ h=>by
  show ar ((mz c im).take (k+1))=_;rw [tL,Iw h];rfl
 have YW:(mz c im).getD k (0,0)∉(mz c im).take k->o5 c im (k+1)=o5 c im k++[(mz c im).getD k (0,0)]:=λ h=>by
  show ar ((mz c im).take (k+1))=_;rw [tL,EN h];rfl
 have XF:(o5 c im k).length<=c.length:=by
  have:=aZ ((mz c im).take k);rw [List.length_take,iN]at this;unfold o5;omega
 have mH:∀q:Int × Int,q∈(mz c im).take k->(0<=q.1/\q.1<(c.length:Int))/\0<=q.2/\q.2<(c.length:Int):=λ q h=>Lf hc Kh (List.mem_of_mem_take h)
 revert xy Lg XE Lh hF YW
 generalize hqk:(mz c im).getD k (0,0)=qk at*;intro xy Lg XE Lh hF YW
 by_cases e:(gY c im round M L k).1.getD (gX c.length qk) 0=round
 ·have j9:=XE.1 e
  have e1:gY c im round M L (k+1)=gY c im round M L k:=by
   show(if _ then _ else _)=_;rw [hqk,if_pos e]
  have hF:=hF j9;have xy:=xy j9;rw [e1]
  have hm:∀q,q∈(mz c im).take (k+1)↔q∈(mz c im).take k:=λ q=>by
   rw [tL,List.mem_append,List.mem_singleton];exact⟨λ h=>h.elim id λ h=>h▸j9,.inl⟩
  refine⟨⟨h.lm,h.ll,h.hi,h.lo,h.UT,λ q h1 h2 h3 h4=>(h.YV q h1 h2 h3 h4).trans (hm q).symm,λ q hq=>?_⟩,?_,λ _=>hF,λ h=>absurd e h⟩
  ·rw [hF];exact h.la q ((hm q).1 hq)
  ·unfold jL;rw [h.la _ j9];exact xy.symm
 ·have j9:¬qk∈(mz c im).take k:=λ h=>e (XE.2 h)
  have e1:gY c im round M L (k+1)=((gY c im round M L k).1.set (gX c.length qk) round,(gY c im round M L k).2.set (gX c.length qk) ((o5 c im k).length:Int)):=by
   show(if _ then _ else _)=_;rw [hqk,if_neg e]
  have hF:=YW j9;have xy:=Lg j9;rw [e1]
  have hm:∀q,q∈(mz c im).take (k+1)↔q∈(mz c im).take k\/q=qk:=λ q=>by
   rw [tL,List.mem_append,List.mem_singleton]
  have Xn:=h.lm;have ot:=h.ll
  have oK:∀(l:List Int) (v:Int),l.length=c.length*c.length->∀q:Int × Int,0<=q.1->q.1<(c.length:Int)->0<=q.2->q.2<(c.length:Int)->(l.set (gX c.length qk) v).getD (gX c.length q) 0=if q=qk then v else l.getD (gX c.length q) 0:=λ l v hl q h1 h2 h3 h4=>by
   by_cases e2:q=qk
   ·subst e2;rw [aA (by rw [hl];exact Lh.1),if_pos rfl]
   ·rw [getD_set_ne (λ e3=>e2 (Pm ⟨h1,h3,h4⟩ ⟨hq.1.1,hq.2.1,hq.2.2⟩ e3.symm)),if_neg e2]
  refine⟨⟨by rw [List.length_set];exact Xn,by rw [List.length_set];exact ot,λ x hx=>?_,λ x hx=>?_,λ x hx=>?_,λ q h1 h2 h3 h4=>?_,λ q hqm=>?_⟩,?_,λ h=>absurd h e,λ _=>by rw [hF];simp⟩
  ·rcases List.mem_or_eq_of_mem_set hx with hx|rfl
   ·exact h.hi x hx
   ·omega
  ·rcases List.mem_or_eq_of_mem_set hx with hx|rfl
   ·exact h.lo x hx
   ·omega
  ·rcases List.mem_or_eq_of_mem_set hx with hx|rfl
   ·exact h.UT x hx
   ·omega
  ·rw [oK _ _ Xn q h1 h2 h3 h4,hm]
   by_cases e2:q=qk
   ·rw [if_pos e2];exact⟨λ _=>.inr e2,λ _=>rfl⟩
   ·rw [if_neg e2,h.YV q h1 h2 h3 h4];exact⟨.inl,λ h=>h.elim id λ h=>absurd h e2⟩
  ·have hr:(0<=q.1/\q.1<(c.length:Int))/\0<=q.2/\q.2<(c.length:Int):=((hm q).1 hqm).elim (mH q) λ h=>h▸hq
   rw [oK _ _ ot q hr.1.1 hr.1.2 hr.2.1 hr.2.2,hF]
   by_cases e2:q=qk
   ·subst e2
    rw [if_pos rfl,Le (l:=o5 c im k) (λ h=>j9 (aE.1 h))]
   ·rw [if_neg e2]
    have DU:=((hm q).1 hqm).elim id λ h=>absurd h e2;rw [h.la q DU,Pk (l:=o5 c im k) (aE.2 DU)]
  ·rw [oK _ _ ot qk hq.1.1 hq.1.2 hq.2.1 hq.2.2,if_pos rfl]
   unfold jL;exact xy.symm
theorem DZ.upto(hc:∀x∈c,0<=x/\x<(c.length:Int))(Kh:∀x,x<c.length->0<=im.getD x 0/\im.getD x 0<(c.length:Int))(hr:0<=round)(h:DZ c im round M L 0):∀k,k<=c.length->DZ c im round (gY c im round M L k).1 (gY c im round M L k).2 k
 |0,_=>h
 |k+1,hk=>(DZ.next hc Kh hr (DZ.upto hc Kh hr h k aa) aa).1
end
theorem m7{α:Type}[DecidableEq α](d:α)(l:List α):canon (canon l)=canon l:=
 gZ (d:=0) (e:=d) (bD l) λ i j hi hj=>by
  rw [bD]at hi hj;exact eJ hi hj
theorem xz{α:Type}[DecidableEq α](d:α)(l:List α):ak (canon l)=(ar l).length:=by
 have hv:=jM (m7 d l)
 have h1:ak (canon l)<=(ar l).length:=by
  rcases Nat.eq_zero_or_pos (ak (canon l))with e|e
  ·omega
  ·have hm:=(hv ((ak (canon l):Int) - 1)).1 ⟨aa,aa⟩
   obtain⟨i,hi,hx⟩:=aV 0 hm;rw [bD]at hi;have:=Cm hi;omega
 have h2:(ar l).length<=ak (canon l):=by
  rcases Nat.eq_zero_or_pos (ar l).length with e|e
  ·omega
  ·have hm:(ar l)[(ar l).length - 1]∈l:=aE.1 (List.getElem_mem _)
   have hx:(((ar l).length - 1:Nat):Int)∈canon l:=by
    unfold canon;refine List.mem_map.2 ⟨_,hm,?_⟩;rw [(eO l).idxOf_getElem]
   have:=(hv _).2 hx;omega
 omega
theorem Pn(c im:List Int):(o5 c im c.length).length=ak (jL c im):=by
 unfold o5 jL;rw [List.take_of_length_le (by rw [iN];exact Nat.le_refl _),xz (0,0)]
theorem Iy(c im:List Int):canon (jL c im)=jL c im:=m7 (0,0) _
theorem jk{c d:List Int}(hc:canon c=c)(hd:canon d=d)(hl:c.length=d.length)(hr:∀x y,x<c.length->y<c.length->d.getD x 0=d.getD y 0->c.getD x 0=c.getD y 0):ak c<=ak d/\(ak c=ak d->d=c):=by
 have hle:∀i,i<=c.length->(ar (c.take i)).length<=(ar (d.take i)).length/\((ar (c.take i)).length=(ar (d.take i)).length->∀x y,x<i->y<i->c.getD x 0=c.getD y 0->d.getD x 0=d.getD y 0):=by
  intro i
  induction i with
  |zero=>intro _;exact⟨by simp [ar],λ _ x y hx=>absurd hx (Nat.not_lt_zero _)⟩
  |succ i ih=>
   intro hi;have ih:=ih aa;have tc:=cN (d:=(0:Int)) (l:=c) (i:=i) aa;have td:=cN (d:=(0:Int)) (l:=d) (i:=i) aa
   have memt:∀{l:List Int} {v:Int},i<l.length->(v∈l.take i↔∃j,j<i/\l.getD j 0=v):=λ{l v} bL=>by
    constructor
    ·intro h
     obtain⟨j,hj,he⟩:=aV 0 h;rw [List.length_take]at hj;have lL:j<i:=aa;exact⟨j,lL,by rw [<-he];simp [List.getD,lL]⟩
    ·rintro⟨j,hj,rfl⟩
     have:(l.take i).getD j 0=l.getD j 0:=by simp [List.getD,hj]
     rw [<-this];exact an (by rw [List.length_take];omega)
   rw [tc,td,bN,bN]
   by_cases h1:d.getD i 0∈d.take i
   ·obtain⟨j,hj,he⟩:=(memt aa).1 h1
    have h2:c.getD i 0∈c.take i:=(memt aa).2 ⟨j,hj,hr j i aa aa he⟩;rw [if_pos h1,if_pos h2];refine⟨ih.1,λ e x y hx hy xl=>?_⟩;have hcj:=hr j i aa aa he;have step:∀z,z<i->c.getD z 0=c.getD i 0->d.getD z 0=d.getD i 0:=λ z hz YX=>(ih.2 e z j hz hj (YX.trans hcj.symm)).trans he;rcases Nat.lt_or_ge x i with Bb|Bb<;>rcases Nat.lt_or_ge y i with S7|S7
    ·exact ih.2 e x y Bb S7 xl
    ·obtain rfl:y=i:=aa
     exact step x Bb xl
    ·obtain rfl:x=i:=aa
     exact(step y S7 xl.symm).symm
    ·obtain rfl:x=i:=aa
     obtain rfl:y=x:=aa
     rfl
   ·rw [if_neg h1]
    by_cases h2:c.getD i 0∈c.take i
    ·rw [if_pos h2,List.length_append,List.length_singleton]
     exact⟨aa,λ e=>by omega⟩
    ·rw [if_neg h2]
     simp only [List.length_append,List.length_singleton];refine⟨aa,λ e x y hx hy xl=>?_⟩;have ih2:=ih.2 aa;have no:∀z,z<i->c.getD z 0≠c.getD i 0:=λ z hz YX=>h2 ((memt aa).2 ⟨z,hz,YX⟩);rcases Nat.lt_or_ge x i with Bb|Bb<;>rcases Nat.lt_or_ge y i with S7|S7
     ·exact ih2 x y Bb S7 xl
     ·obtain rfl:y=i:=aa
      exact absurd xl (no x Bb)
     ·obtain rfl:x=i:=aa
      exact absurd xl.symm (no y S7)
     ·obtain rfl:x=i:=aa
      obtain rfl:y=x:=aa
      rfl
 have:=hle c.length (Nat.le_refl _);rw [List.take_length,hl,List.take_length]at this;refine⟨this.1,λ e=>?_⟩;rw [<-hc,<-hd];exact(gZ (d:=0) (e:=0) hl λ i j hi hj=>⟨λ h=>this.2 e i j aa aa h,λ h=>hr i j hi hj h⟩).symm
end Go.Proofs.YtgailjhnfghkgaaGreatDoor
end
section
namespace Go.Proofs.YtgailjhnfghkgaaGreatDoor
open Go Go.AM
set_option maxRecDepth 100000
theorem vC(n:Nat)(hn:n<=4096):QF 30 [.int .i64 n] (.new (.ints .i64 (List.replicate n 0))):=kr Tryz.func30 (by decide+kernel) rfl (ah rfl) λ _=>by
 refine ae (λ h1=>?_) (λ _=>?_)
 ·have h1:(n:Int)<0:=h1
  omega
 refine ae (λ h1=>?_) (λ _=>?_)
 ·have h1:4096<(n:Int):=h1
  omega
 refine ae aa ?_;refine ae aa ?_;refine ae (ae (by simp) ?_) trivial;show RO.ints .i64 (List.replicate (n:Int).toNat 0)=RO.ints .i64 (List.replicate n 0);rw [Int.toNat_natCast]
def Pt(n:Nat)(p:List Int):Prop:=p.length=n/\bp p
def jE(p q:List Int):List Int:=canon (p.zip q)
def oe(n:Nat)(l:List (List Int)):List Int:=l.foldr jE (List.replicate n 0)
theorem Pt.Cn{n:Nat}(hn:n<=4096):Pt n (List.replicate n 0):=
 ⟨List.length_replicate,by rw [List.length_replicate];omega,fu.2 λ i _=>by
  have:(List.replicate n (0:Int)).getD i 0=0:=by simp only [List.getD,List.getElem?_replicate];split<;>rfl
  unfold dm;rw [this];omega⟩
theorem Pt.mt{n:Nat}{p q:List Int}(hp:Pt n p)(hq:Pt n q):Pt n (jE p q):=by
 have hl:(jE p q).length=n:=by unfold jE;rw [bD,List.length_zip,hp.1,hq.1];omega
 exact⟨hl,by rw [hl];have:=hp.2.1;have:=hp.1;omega,m7 (0,0) _⟩
theorem Pt.oe{n:Nat}(hn:n<=4096):∀{l:List (List Int)},(∀p∈l,Pt n p)->Pt n (oe n l)
 |[],_=>Pt.Cn hn
 |_::_,h=>(h _ (List.mem_cons_self ..)).mt (Pt.oe hn λ q hq=>h q (List.mem_cons_of_mem _ hq))
theorem Ab{n:Nat}{p q:List Int}(hp:Pt n p)(hq:Pt n q):QF 32 [.ro (.ints .i64 p),.ro (.ints .i64 q)] (.new (.ints .i64 (jE p q))):=by
 have h:=Li p q;rw [if_pos ⟨hp.1.trans hq.1.symm,hp.2,hq.2⟩]at h;exact h
def tC(n:Nat)(l:List (List Int)):List (List Int):=(List.range (l.length+1)).map λ i=>oe n (l.drop i)
theorem Gs(n:Nat)(l:List (List Int)):(tC n l).length=l.length+1:=by simp [tC]
theorem Gt(n:Nat)(l:List (List Int)){i:Nat}(hi:i<=l.length):(tC n l).getD i []=oe n (l.drop i):=by
 have:i<l.length+1:=aa;simp [tC,List.getD,this]
theorem Lj(n:Nat)(l:List (List Int)){i:Nat}(hi:i<l.length):oe n (l.drop i)=jE (l.getD i []) (oe n (l.drop (i+1))):=by
 rw [List.drop_eq_getElem_cons hi,getD_eq hi];rfl
set_option maxHeartbeats 1000000 in
theorem Po(n:Nat)(l:List (List Int))(h0:0<n)(hn:n<=4096)(hl:l.length<=4096)(hp:∀p∈l,Pt n p):QF 41 [.int .i64 n,.ro (.rows .i64 l)] (.new (.rows .i64 (tC n l))):=kr Tryz.func41 (by decide+kernel) rfl (ah rfl) λ _=>by
 have hd:∀i,∀p∈l.drop i,Pt n p:=λ i p h=>hp p (List.mem_of_mem_drop h);refine ae aa ?_;refine ae aa ?_;refine ae aa ?_;refine Or.inr (Or.inr ?_);refine Or.inl (cq (vC n hn) (ae rfl ag) ?_);have hr:(List.replicate ((l.length:Int)+1).toNat ([]:List Int)).length=l.length+1:=by rw [List.length_replicate];omega
 refine ae (show 0<=(l.length:Int)/\(l.length:Int)<((List.replicate ((l.length:Int)+1).toNat ([]:List Int)).length:Int) by omega) ?_;refine ae aa ?_;refine ae aa ?_;have bm:∀p,Pt n p->p≠[]:=λ p h e=>by have:=h.1;rw [e]at this;simp at this;omega
 refine af [11,15,16,24,30,35,36,10015,10035]<|lA (λ(k:Nat) (_:List (List Int))=>[(6,.int .i64 ((k:Int) - 1))]) (λ _ M=>[(10,.vec 0 (.cR .i64 M) [])]) (λ k M=>k<=l.length/\M.length=l.length+1/\∀j,k<=j->j<=l.length->M.getD j []=oe n (l.drop j)) (λ k _=>k) l.length ((List.replicate ((l.length:Int)+1).toNat []).set l.length (List.replicate n 0)) ⟨Nat.le_refl _,by rw [List.length_set];exact hr,λ j h1 h2=>?_⟩ ?_ ?_
 ·have e:j=l.length:=aa
  subst e;rw [aA aa,List.drop_length];rfl
 ·repeat' first|refine ae ?_ ?_|exact ag|exact bm _ (Pt.Cn hn)|(show(_:Int)=(_:Int);omega)|omega|exact rfl
 rintro k M ⟨hk,hM,N9⟩;refine ae (λ h1=>?_) (λ h1=>?_)
 ·have h1:0<=(k:Int) - 1:=h1
  have lr:k - 1<l.length:=aa;have ek:((k:Int) - 1).toNat=k - 1:=aa;have ek2:((k:Int) - 1+1).toNat=k:=aa;have YY:=N9 k (Nat.le_refl _) hk;have hPk:Pt n (oe n (l.drop k)):=Pt.oe hn (hd k);have XG:Pt n (l.getD (k - 1) []):=hp _ (an (d:=[]) lr);refine Or.inl ?_;refine af (List.replicate 11 false++[true,false,true]) (ae (by decide+kernel) ?_);refine ae (show 0<=(k:Int) - 1/\(k:Int) - 1<(l.length:Int) by omega) ?_;refine ae (show -9223372036854775808<=(k:Int) - 1+1/\(k:Int) - 1+1<=9223372036854775807 by omega) ?_;refine ae (show 0<=(k:Int) - 1+1/\(k:Int) - 1+1<(M.length:Int) by omega) ?_;refine ae (λ h2=>?_) (λ _=>?_)
  ·have h2:M.getD ((k:Int) - 1+1).toNat []=[]:=h2
   rw [ek2,YY]at h2;exact absurd h2 (bm _ hPk)
  refine Or.inl (cq (Ab (n:=n) (p:=l.getD ((k:Int) - 1).toNat []) (q:=M.getD ((k:Int) - 1+1).toNat []) (by rw [ek];exact XG) (by rw [ek2,YY];exact hPk)) (ae rfl (ae rfl ag)) ?_);refine ae (show 0<=(k:Int) - 1/\(k:Int) - 1<(M.length:Int) by omega) ?_;refine ae aa ?_;refine ae aa ?_
  have em:jE (l.getD ((k:Int) - 1).toNat []) (M.getD ((k:Int) - 1+1).toNat [])=oe n (l.drop (k - 1)):=by
   rw [ek,ek2,YY,Lj n l lr,show k - 1+1=k by omega]
  refine nx (k - 1,M.set ((k:Int) - 1).toNat (jE (l.getD ((k:Int) - 1).toNat []) (M.getD ((k:Int) - 1+1).toNat []))) ⟨aa,by rw [List.length_set];exact hM,λ j h2 h3=>?_⟩ (show k - 1<k by omega) ?_
  ·rw [em,ek]
   by_cases e:j=k - 1
   ·subst e;rw [aA aa]
   ·rw [getD_set_ne (Ne.symm e)];exact N9 j aa h3
  ·repeat' first|refine ae ?_ ?_|exact ag|(rw [em];exact bm _ (Pt.oe hn (hd _)))|(show(_:Int)=(_:Int);omega)|omega|exact rfl
 ·have h1:(k:Int) - 1<0:=h1
  refine ae (ae aa ?_) trivial;show RO.rows .i64 M=RO.rows .i64 (tC n l)
  congr 1
  refine bj [] (by rw [hM,Gs]) λ i hi=>?_;rw [Gt n l aa];exact N9 i aa aa
def dz(n:Nat):List Int->List (List Int)->List (List Int)
 |_,[]=>[]
 |b,p::l=>if ak (jE b (oe n l))=n then dz n b l else p::dz n (jE b p) l
theorem Iz(n:Nat)(b:List Int)(l:List (List Int)){i:Nat}(hi:i<l.length):dz n b (l.drop i)=if ak (jE b (oe n (l.drop (i+1))))=n then dz n b (l.drop (i+1)) else l.getD i []::dz n (jE b (l.getD i [])) (l.drop (i+1)):=by
 rw [List.drop_eq_getElem_cons hi,getD_eq hi];rfl
set_option maxHeartbeats 1000000 in
theorem Pp(n:Nat)(l:List (List Int))(h0:0<n)(hn:n<=4096)(hl:l.length<=4096)(hp:∀p∈l,Pt n p):QF 33 [.int .i64 n,.ro (.rows .i64 l)] (.ro (.rows .i64 (dz n (List.replicate n 0) l))):=kr Tryz.func33 (by decide+kernel) rfl (ah rfl) λ _=>by
 have hd:∀i,∀p∈l.drop i,Pt n p:=λ i p h=>hp p (List.mem_of_mem_drop h);refine Or.inl (cq (Po n l h0 hn hl hp) (ae rfl (ae rfl ag)) ?_);refine Or.inl (cq (vC n hn) (ae rfl ag) ?_);refine af [14,22,28,36,38,10014,10028,10038]<|A9 (λ(i:Nat) (_:List (List Int)) (b:List Int)=>[(17,.int .i64 i),(5,.vec 35),(7,.ro (.ints .i64 b))]) (λ _ K _=>[(35,.vec 0 (.rows .i64 K) [])]) (λ i K b=>i<=l.length/\K.length<=i/\Pt n b/\K++dz n b (l.drop i)=dz n (List.replicate n 0) l) (λ i _ _=>l.length - i) 0 [] (List.replicate n 0) ⟨Nat.zero_le _,Nat.le_refl _,Pt.Cn hn,rfl⟩ ab ?_
 rintro i K b ⟨hi,hK,hb,he⟩;refine ae (λ h1=>?_) (λ h1=>?_)
 ·have h1:(i:Int)<(l.length:Int):=h1
  have bL:i<l.length:=aa;have XG:Pt n (l.getD i []):=hp _ (an (d:=[]) bL);have c8:=Iz n b l bL;have Pq:=Gt n l (i:=i+1) aa;have gi:=Gs n l;have XH:Pt n (oe n (l.drop (i+1))):=Pt.oe hn (hd _);have ei:((i:Int)+1).toNat=i+1:=aa;have S8:Pt n ((tC n l).getD ((i:Int)+1).toNat []):=by rw [ei,Pq];exact XH
  have UU:ak (jE b ((tC n l).getD ((i:Int)+1).toNat []))<=n:=by
   have:=aZ (jE b ((tC n l).getD ((i:Int)+1).toNat []));rw [(hb.mt S8).1]at this;exact this
  have hKl:(K++[l.getD (i:Int).toNat []]).length=K.length+1:=by simp
  refine ae aa ?_;refine ae (show -9223372036854775808<=(i:Int)+1/\(i:Int)+1<=9223372036854775807 by omega) ?_;refine ae (show 0<=(i:Int)+1/\(i:Int)+1<((tC n l).length:Int) by omega) ?_;refine Or.inl (cq (Ab hb S8) (ae rfl (ae rfl ag)) ?_);refine Or.inl (cq (Gu _ (hb.mt S8).2) (ae rfl ag) ?_);refine ae (λ h2=>?_) (λ h2=>?_)
  ·have h2:((ak (jE b ((tC n l).getD ((i:Int)+1).toNat [])):Nat):Int)=(n:Int):=h2
   rw [ei,Pq]at h2;rw [if_pos aa]at c8;refine ae aa ?_;exact nx (i+1,K,b) ⟨aa,aa,hb,by rw [<-he,c8]⟩ (show l.length - (i+1)<l.length - i by omega) ab
  ·have h2:¬((ak (jE b ((tC n l).getD ((i:Int)+1).toNat [])):Nat):Int)=(n:Int):=h2
   rw [ei,Pq]at h2;rw [if_neg aa]at c8;refine ae aa ?_;refine Or.inl (cq (Ab hb XG) (ae rfl (ae rfl ag)) ?_);refine ae aa ?_;exact nx (i+1,K++[l.getD i []],jE b (l.getD i [])) ⟨aa,by rw [List.length_append,List.length_singleton];omega,hb.mt XG,by rw [<-he,c8,List.append_assoc];rfl⟩ (show l.length - (i+1)<l.length - i by omega) ab
 ·have h1:(l.length:Int)<=(i:Int):=h1
  have e:K=dz n (List.replicate n 0) l:=by rw [<-he,List.drop_of_length_le aa];simp [dz]
  refine ae ?_ trivial;refine ae trivial ?_;show RO.rows .i64 K=RO.rows .i64 _;rw [e]
end Go.Proofs.YtgailjhnfghkgaaGreatDoor
end
section
namespace Go.Proofs.YtgailjhnfghkgaaGreatDoor
section
end
theorem IA{n:Nat}{l:List Int}(hn:l.Nodup)(h:∀x∈l,0<=x/\x<(n:Int)):l.length<=n:=by
 have:=hn.length_le_of_subset (l₂:=cV n) λ x hx=>fQ.2 (h x hx)
 rwa [bM]at this
end Go.Proofs.YtgailjhnfghkgaaGreatDoor
end
