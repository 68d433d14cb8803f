import Derived.Test.YtgailjhnfghkgaaGreatDoorSyLaw
import Derived.Test.YtgailjhnfghkgaaGreatDoorSyOf
import Derived.Test.YtgailjhnfghkgaaGreatDoorEnT
section
namespace Go.Proofs.YtgailjhnfghkgaaGreatDoor
open Go Go.AM
def cI(N:List (List Int)):Int->List Nat->Int
 |q,[]=>q|q,x::w=>cI N ((N.getD q.toNat []).getD x 0) w
def mT(F:List Bool)(N:List (List Int))(q:Int)(w:List Nat):Bool:=F.getD (cI N q w).toNat false
def xQ(L:Nat)(F1:List Bool)(N1:List (List Int))(q1:Int)(F2:List Bool)(N2:List (List Int))(q2:Int):Prop:=∀w:List Nat,(∀x∈w,x<L)->mT F1 N1 q1 w=mT F2 N2 q2 w
def EY(L:Nat)(F:List Bool)(N:List (List Int)):Prop:=∀q1 q2:Int,(0<=q1/\q1<(F.length:Int))->(0<=q2/\q2<(F.length:Int))->xQ L F N q1 F N q2->q1=q2
theorem xQ.symm{L:Nat}{F1 F2:List Bool}{N1 N2:List (List Int)}{q1 q2:Int}(h:xQ L F1 N1 q1 F2 N2 q2):xQ L F2 N2 q2 F1 N1 q1:=λw hw=>(h w hw).symm
theorem xQ.trans{L:Nat}{F1 F2 F3:List Bool}{N1 N2 N3:List (List Int)}{q1 q2 q3:Int}(h:xQ L F1 N1 q1 F2 N2 q2)(g:xQ L F2 N2 q2 F3 N3 q3):xQ L F1 N1 q1 F3 N3 q3:=λw hw=>(h w hw).trans (g w hw)
theorem GL{L x:Nat}{w:List Nat}(hx:x<L)(hw:∀y∈w,y<L):∀y∈x::w,y<L:=λy hy=>(ajo.1 hy).elim (λe=>e▸hx) (hw y)
theorem xQ.step{L:Nat}{F1 F2:List Bool}{N1 N2:List (List Int)}{q1 q2:Int}(h:xQ L F1 N1 q1 F2 N2 q2){x:Nat}(hx:x<L):xQ L F1 N1 ((N1.getD q1.toNat []).getD x 0) F2 N2 ((N2.getD q2.toNat []).getD x 0):=λw hw=>h (x::w) (GL hx hw)
theorem BR.run{n L:Nat}{s:Int}{N:List (List Int)}{l:List Int}{R:List (List Int)}(h:BR n L s N l.length l R):∀(w:List Nat),(∀x∈w,x<L)->∀j:Nat,j<l.length->∃k:Nat,k<l.length/\cI R j w=(k:Int)/\cI N (l.getD j 0) w=l.getD k 0
 |[],_,j,hj=>⟨j,hj,rfl,rfl⟩
 |x::w,hw,j,hj=>by
  obtain⟨g1,g2,g3⟩:=(h.row j hj).2 x (hw x (ajn ..));obtain⟨k,hk,e1,e2⟩:=BR.run h w (λy hy=>hw y (ajj _ hy)) ((R.getD j []).getD x 0).toNat aa;refine⟨k,hk,?_,?_⟩
  ·show cI R ((R.getD ((j:Int)).toNat []).getD x 0) w=k
   rw [ajr,<-e1,Int.toNat_of_nonneg g1]
  ·show cI N ((N.getD (l.getD j 0).toNat []).getD x 0) w=_
   rw [<-g3];exact e2
theorem BR.B6{n L:Nat}{s:Int}{N:List (List Int)}{l:List Int}{R:List (List Int)}(h:BR n L s N l.length l R)(F:List Bool):xQ L (l.map λq=>F.getD q.toNat false) R 0 F N s:=λw hw=>by
 obtain⟨k,hk,e1,e2⟩:=h.run w hw 0 h.pos;rw [h.st]at e2;unfold mT;rw [e2,show cI R 0 w=(k:Int)from e1,ajr,getD_eq (by simpa using hk),List.getElem_map,getD_eq hk]
theorem Pq{n m:Nat}{c d:List Int}(hc:GM n c m)(hd:GM n d m)(hr:∀q p,q<n->p<n->d.getD q 0=d.getD p 0->c.getD q 0=c.getD p 0){q p:Nat}(hq:q<n)(hp:p<n)(e:c.getD q 0=c.getD p 0):d.getD q 0=d.getD p 0:=by
 refine ajy λbn=>?_
 have Pr:(cR m).Nodup:=by
  refine aj9.2 (aky.2 λa b ha hb mP=>?_);simp [cR];omega
 have rep:∀x,x<n->c.getD (oM d (d.getD x 0)) 0=c.getD x 0:=λx hx=>by
  have h1:=iW (l:=d) (x:=d.getD x 0) (al (by rw [hd.len];exact hx));rw [hd.len]at h1;exact hr _ _ h1.1 hx h1.2
 have ZA:d.getD p 0∈cR m:=c8.2 (hd.oz p hp)
 have h1:=b9 Pr (B:=((cR m).erase (d.getD p 0)).map λu=>c.getD (oM d u) 0) λv hv=>by
  obtain⟨v,rfl⟩:=Int.eq_ofNat_of_zero_le (c8.1 hv).1;obtain⟨x,hx,ex⟩:=hc.all v (by have:=(c8.1 hv).2;omega)
  by_cases e1:d.getD x 0=d.getD p 0
  ·refine ajU.2 ⟨d.getD q 0,(List.mem_erase_of_ne bn).2 (c8.2 (hd.oz q hq)),?_⟩
   have h2:=hr x p hx hp e1;exact(rep q hq).trans (e.trans (h2.symm.trans ex))
  ·exact ajU.2 ⟨d.getD x 0,(List.mem_erase_of_ne e1).2 (c8.2 (hd.oz x hx)),(rep x hx).trans ex⟩
 rw [ajS,List.length_erase_of_mem ZA,bP]at h1;have:=(hd.oz p hp);omega
section
variable{L s:Nat}{F:List Bool}{N:List (List Int)}
theorem K9{ks:List (List Int)}{n q p:Nat}(hq:q<n)(hp:p<n):(KH ks n).getD q 0=(KH ks n).getD p 0↔ks.getD q []=ks.getD p []:=by
 rw [lL hq,lL hp];have h1:=dr (jZ ks hq);have h2:=dr (jZ ks hp)
 constructor
 ·intro e
  have e:fc (dt ks n) (ks.getD q [])=fc (dt ks n) (ks.getD p []):=aa;rw [<-h1.2,e,h2.2]
 ·intro e;rw [e]
theorem IL{c:List Int}{q p:Nat}{r t:List Int}(hr:r.length=L)(ht:t.length=L)(h2:L<=2):La c q r=La c p t↔c.getD q 0=c.getD p 0/\∀x,x<L->c.getD (r.getD x 0).toNat 0=c.getD (t.getD x 0).toNat 0:=by
 unfold La;rw [hr,ht]
 constructor
 ·intro e
  injection e with e1 e
  injection e with e2 e
  injection e with e3 _
  refine⟨e1,λx hx=>?_⟩
  match x,hx with
  |0,hx=>rw [ajq hx,ajq hx]at e2;exact e2
  |1,hx=>rw [ajq hx,ajq hx]at e3;exact e3
  |x+2,hx=>omega
 ·rintro⟨e1,e2⟩
  rw [e1]
  by_cases h0:0<L
  ·rw [ajq h0,ajq h0,e2 0 h0]
   by_cases h1:1<L
   ·rw [ajq h1,ajq h1,e2 1 h1]
   ·rw [ajm h1,ajm h1]
  ·rw [ajm h0,ajm h0,ajm aa,ajm aa]
theorem ur(hd:DV L s F N)(h2:L<=2){j q p:Nat}(hq:q<F.length)(hp:p<F.length):(gF N F (j+1)).1.getD q 0=(gF N F (j+1)).1.getD p 0↔(gF N F j).1.getD q 0=(gF N F j).1.getD p 0/\∀x,x<L->(gF N F j).1.getD ((N.getD q []).getD x 0).toNat 0=(gF N F j).1.getD ((N.getD p []).getD x 0).toNat 0:=by
 have BS:=(hd.row _ (al (d:=[]) (l:=N) (i:=q) (by rw [hd.nl];exact hq))).1;have YI:=(hd.row _ (al (d:=[]) (l:=N) (i:=p) (by rw [hd.nl];exact hp))).1;refine(K9 hq hp).trans ?_;rw [nR hq,nR hp];exact IL BS YI h2
theorem Lb(hd:DV L s F N)(h2:L<=2){q p:Nat}(hq:q<F.length)(hp:p<F.length):∀j,(gF N F j).1.getD q 0=(gF N F j).1.getD p 0->F.getD q false=F.getD p false
 |0,e=>by
  have e:(IM F).getD q 0=(IM F).getD p 0:=e;rw [gX hq,gX hp]at e
  revert e
  cases F.getD q false<;>cases F.getD p false<;>cases F.getD 0 false<;>simp
 |j+1,e=>Lb hd h2 hq hp j ((ur hd h2 hq hp).1 e).1
theorem EZ(hd:DV L s F N)(h2:L<=2):∀(j:Nat) {q p:Nat},q<F.length->p<F.length->(gF N F j).1.getD q 0≠(gF N F j).1.getD p 0->∃w:List Nat,(∀x∈w,x<L)/\mT F N q w≠mT F N p w
 |0,q,p,hq,hp,bn=>by
  refine⟨[],λ_ h=>absurd h (akn),λe=>bn ?_⟩;have e:F.getD q false=F.getD p false:=e;show(IM F).getD q 0=(IM F).getD p 0;rw [gX hq,gX hp,e]
 |j+1,q,p,hq,hp,bn=>by
  by_cases e:(gF N F j).1.getD q 0=(gF N F j).1.getD p 0
  ·have:∃x,x<L/\(gF N F j).1.getD ((N.getD q []).getD x 0).toNat 0≠(gF N F j).1.getD ((N.getD p []).getD x 0).toNat 0:=ajy λdj=>bn ((ur hd h2 hq hp).2 ⟨e,λx hx=>ajy λh=>dj ⟨x,hx,h⟩⟩)
   obtain⟨x,hx,h⟩:=this;obtain⟨_,a1,a2⟩:=hd.at hq hx;obtain⟨_,b1,b2⟩:=hd.at hp hx;obtain⟨w,hw,tQ⟩:=EZ hd h2 j aa aa h;rw [Int.toNat_of_nonneg a1,Int.toNat_of_nonneg b1]at tQ;exact⟨x::w,GL hx hw,tQ⟩
  ·exact EZ hd h2 j hq hp e
theorem zN(hd:DV L s F N)(h2:L<=2){j:Nat}(hs:(gF N F j).2=(gF N F (j+1)).2):∀(w:List Nat) (q:Nat),(∀x∈w,x<L)->q<F.length->mT (qF (gF N F (j+1)).1 F (gF N F (j+1)).2) (qN (gF N F (j+1)).1 N (gF N F (j+1)).2) ((gF N F (j+1)).1.getD q 0) w=mT F N q w:=by
 have h0:0<F.length:=by have:=hd.st;omega
 have Ps:=o6 (N:=N) (F:=F) h0 j;have hc:=o6 (N:=N) (F:=F) h0 (j+1);rw [hs]at Ps;have cX:∀{q p:Nat},q<F.length->p<F.length->(gF N F j).1.getD q 0=(gF N F j).1.getD p 0->(gF N F (j+1)).1.getD q 0=(gF N F (j+1)).1.getD p 0:=λhq hp e=>Pq Ps hc (λq p hq hp e=>((ur hd h2 hq hp).1 e).1) hq hp e
 have fD:∀{q p:Nat},q<F.length->p<F.length->(gF N F (j+1)).1.getD q 0=(gF N F (j+1)).1.getD p 0->∀x,x<L->(gF N F (j+1)).1.getD ((N.getD q []).getD x 0).toNat 0=(gF N F (j+1)).1.getD ((N.getD p []).getD x 0).toNat 0:=λhq hp e x hx=>by
  obtain⟨_,a1,a2⟩:=hd.at hq hx;obtain⟨_,b1,b2⟩:=hd.at hp hx;exact cX aa aa (((ur hd h2 hq hp).1 e).2 x hx)
 have B7:∀{q p:Nat},q<F.length->p<F.length->(gF N F (j+1)).1.getD q 0=(gF N F (j+1)).1.getD p 0->F.getD q false=F.getD p false:=λhq hp e=>Lb hd h2 hq hp _ e;generalize (gF N F (j+1)).1=c at hc fD B7;generalize (gF N F (j+1)).2=m at hc;clear cX Ps hs
 have rep:∀{q:Nat},q<F.length->oM c (c.getD q 0)<F.length/\c.getD (oM c (c.getD q 0)) 0=c.getD q 0:=λ{q} hq=>by
  have h1:=iW (l:=c) (x:=c.getD q 0) (al (by rw [hc.len];exact hq));rw [hc.len]at h1;exact h1
 intro w
 induction w with
 |nil=>
  intro q _ hq;have hr:=hc.oz q hq;have h3:=rep hq;show(qF c F m).getD (c.getD q 0).toNat false=F.getD ((q:Int)).toNat false;rw [getD_eq (by rw [lM];omega)];simp only [qF,List.getElem_map,List.getElem_range,ajr];rw [Int.toNat_of_nonneg hr.1];exact B7 h3.1 hq h3.2
 |cons x w ih=>
  intro q hw hq;have hx:=hw x (ajn ..);have hr:=hc.oz q hq;have h3:=rep hq;obtain⟨hl,a1,a2⟩:=hd.at hq hx;have YJ:=(hd.at h3.1 hx).1
  have e1:((qN c N m).getD (c.getD q 0).toNat []).getD x 0=c.getD ((N.getD q []).getD x 0).toNat 0:=by
   rw [getD_eq (l:=qN c N m) (by rw [E1];omega)];simp only [qN,List.getElem_map,List.getElem_range];rw [Int.toNat_of_nonneg hr.1];unfold qR;rw [getD_eq (by rw [ajS,YJ];exact hx),List.getElem_map,<-getD_eq (d:=0) (by rw [YJ];exact hx)];exact fD h3.1 hq h3.2 x hx
  show mT (qF c F m) (qN c N m) (((qN c N m).getD (c.getD q 0).toNat []).getD x 0) w=mT F N ((N.getD ((q:Int)).toNat []).getD x 0) w;rw [e1,ih _ (λy hy=>hw y (ajj _ hy)) aa,ajr,Int.toNat_of_nonneg a1]
theorem Pu(hd:DV L s F N)(h2:L<=2){j:Nat}(hs:(gF N F j).2=(gF N F (j+1)).2):EY L (qF (gF N F (j+1)).1 F (gF N F (j+1)).2) (qN (gF N F (j+1)).1 N (gF N F (j+1)).2):=by
 have hc:=o6 (N:=N) (F:=F) (by have:=hd.st;omega) (j+1);intro q1 q2 IP GN he;rw [lM]at IP GN;refine ajy λbn=>?_;obtain⟨q1,rfl⟩:=Int.eq_ofNat_of_zero_le IP.1;obtain⟨q2,rfl⟩:=Int.eq_ofNat_of_zero_le GN.1;obtain⟨p1,gu,e1⟩:=hc.all q1 aa;obtain⟨p2,GO,e2⟩:=hc.all q2 aa;obtain⟨w,hw,tQ⟩:=EZ hd h2 (j+1) gu GO (by rw [e1,e2];exact bn);refine tQ ?_;rw [<-zN hd h2 hs w p1 hw gu,<-zN hd h2 hs w p2 hw GO,e1,e2];exact he w hw
theorem GM.zero{n m:Nat}{c:List Int}(h:GM n c m)(h0:0<n):c.getD 0 0=0:=by
 have h1:=h.oz 0 h0;refine ajy λbn=>?_;obtain⟨p,hp,_⟩:=h.ord 0 h0 0 aa;omega
end
section
variable{L:Nat}{F1 F2:List Bool}{N1 N2:List (List Int)}
def OY(L:Nat)(F1:List Bool)(N1:List (List Int))(F2:List Bool)(N2:List (List Int))(l1 l2:List Int):Prop:=l1.length=l2.length/\∀j,j<l1.length->xQ L F1 N1 (l1.getD j 0) F2 N2 (l2.getD j 0)
theorem OY.symm{l1 l2:List Int}(h:OY L F1 N1 F2 N2 l1 l2):OY L F2 N2 F1 N1 l2 l1:=⟨h.1.symm,λj hj=>(h.2 j (by rw [h.1];exact hj)).symm⟩
theorem OY.at{l1 l2:List Int}(h:OY L F1 N1 F2 N2 l1 l2)(hr:EY L F2 N2)(g2:∀q∈l2,0<=q/\q<(F2.length:Int)){x1 x2:Int}(Lc:0<=x2/\x2<(F2.length:Int))(he:xQ L F1 N1 x1 F2 N2 x2)(hm:x1∈l1):x2∈l2/\oM l2 x2<=oM l1 x1:=by
 have h1:=iW hm;have hj:oM l1 x1<l2.length:=by rw [<-h.1];exact h1.1
 have h2:=h.2 _ h1.1;rw [h1.2]at h2;have e:l2.getD (oM l1 x1) 0=x2:=hr _ _ (g2 _ (al hj)) Lc (h2.symm.trans he);exact⟨e▸al hj,rT hj e⟩
theorem OY.of{l1 l2:List Int}(h:OY L F1 N1 F2 N2 l1 l2)(u5:EY L F1 N1)(sZ:EY L F2 N2)(g1:∀q∈l1,0<=q/\q<(F1.length:Int))(g2:∀q∈l2,0<=q/\q<(F2.length:Int)){x1 x2:Int}(zO:0<=x1/\x1<(F1.length:Int))(Lc:0<=x2/\x2<(F2.length:Int))(he:xQ L F1 N1 x1 F2 N2 x2):
  yt l1 x1=yt l2 x2/\OY L F1 N1 F2 N2 (uv l1 x1) (uv l2 x2):=by
 unfold yt uv
 by_cases hm:x1∈l1
 ·have h1:=h.at sZ g2 Lc he hm
  have h2:=h.symm.at u5 g1 zO he.symm h1.1;rw [ajq hm,ajq h1.1,ajq hm,ajq h1.1];exact⟨aa,h⟩
 ·have zP:x2∉l2:=λzP=>hm (h.symm.at u5 g1 zO he.symm zP).1
  rw [ajm hm,ajm zP,ajm hm,ajm zP];have hl:=h.1;refine⟨by rw [hl],by rw [ajp,ajp,hl];rfl,λj hj=>?_⟩;rw [ajp,ajx]at hj
  by_cases e:j=l1.length
  ·have e1:(l1++[x1]).getD j 0=x1:=by rw [e];exact iI
   have e2:(l2++[x2]).getD j 0=x2:=by rw [e,hl];exact iI
   rw [e1,e2];exact he
  ·rw [cS aa,cS aa]
   exact h.2 j aa
theorem GP(d1:DV L 0 F1 N1)(d2:DV L 0 F2 N2)(u5:EY L F1 N1)(sZ:EY L F2 N2)(he:xQ L F1 N1 0 F2 N2 0):∀i,(∀j,j<i->j<(rP N1 L 0 j).1.length)->(∀j,j<i->j<(rP N2 L 0 j).1.length)->
  OY L F1 N1 F2 N2 (rP N1 L 0 i).1 (rP N2 L 0 i).1/\(rP N1 L 0 i).2=(rP N2 L 0 i).2
 |0,_,_=>by
  refine⟨⟨rfl,λj hj=>?_⟩,rfl⟩;have hj:j<1:=hj;obtain rfl:j=0:=aa;exact he
 |i+1,h1,h2=>by
  obtain⟨hp,hR⟩:=GP d1 d2 u5 sZ he i (λj hj=>h1 j aa) (λj hj=>h2 j aa);have v1:BR F1.length L 0 N1 i (rP N1 L 0 i).1 (rP N1 L 0 i).2:=zQ.ok d1 ⟨λj hj=>h1 j aa,rfl⟩;have v2:BR F2.length L 0 N2 i (rP N2 L 0 i).1 (rP N2 L 0 i).2:=zQ.ok d2 ⟨λj hj=>h2 j aa,rfl⟩;have OZ:=h1 i aa;have xF:=h2 i aa;unfold rP;generalize (rP N1 L 0 i).1=l1 at hp v1 OZ;generalize (rP N2 L 0 i).1=l2 at hp v2 xF;generalize (rP N1 L 0 i).2=R1 at hR v1;generalize (rP N2 L 0 i).2=R2 at hR v2;have IP:=v1.oz _ (al (d:=0) OZ);have GN:=v2.oz _ (al (d:=0) xF);have Ld:=d1.row _ (al (d:=[]) (l:=N1) (i:=(l1.getD i 0).toNat) (by rw [d1.nl];omega));have GQ:=d2.row _ (al (d:=[]) (l:=N2) (i:=(l2.getD i 0).toNat) (by rw [d2.nl];omega));have hei:=hp.2 i OZ
  have key:∀k,k<=L->OY L F1 N1 F2 N2 (eW (N1.getD (l1.getD i 0).toNat []) L l1 k).1 (eW (N2.getD (l2.getD i 0).toNat []) L l2 k).1/\(eW (N1.getD (l1.getD i 0).toNat []) L l1 k).2=(eW (N2.getD (l2.getD i 0).toNat []) L l2 k).2:=by
   intro k
   induction k with
   |zero=>intro _;exact⟨hp,rfl⟩
   |succ k ih=>
    intro hk;obtain⟨i1,i2⟩:=ih aa;have g1:=(pW Ld v1 k aa).1.oz;have g2:=(pW GQ v2 k aa).1.oz;have zO:=Ld.2 _ (al (d:=0) (i:=k) (by rw [Ld.1];omega));have Lc:=GQ.2 _ (al (d:=0) (i:=k) (by rw [GQ.1];omega));obtain⟨o1,o2⟩:=i1.of u5 sZ g1 g2 zO Lc (hei.step (show k<L by omega));refine⟨o2,?_⟩;show List.set _ k (yt _ _)=List.set _ k (yt _ _);rw [o1,i2]
  obtain⟨k1,k2⟩:=key L (ajl _);exact⟨k1,by show R1++[_]=R2++[_];rw [hR,k2]⟩
end
theorem mH.parts{L s:Nat}{F:List Bool}{N:List (List Int)}{F':List Bool}{N':List (List Int)}{l:List Int}{R:List (List Int)}{j:Nat}{l':List Int}(hd:DV L s F N)(h2:L<=2)(h:mH L s F N F' N' l R j l'):
  ∃(A:List Bool) (B:List (List Int)),DV L 0 A B/\EY L A B/\xQ L A B 0 F N s/\zQ B L 0 l'.length l' N'/\F'=l'.map λq=>A.getD q.toNat false:=by
 obtain⟨d1,_⟩:=h.tr.dv hd;have hv:=h.tr.ok hd;have hc:=o6 (N:=R) (F:=l.map λq=>F.getD q.toNat false) d1.st (j+1);refine⟨_,_,zR d1 hc,Pu d1 h2 h.st,xQ.trans (λw hw=>?_) (hv.B6 F),h.tr2,h.fin⟩;have:=zN d1 h2 h.st w 0 hw d1.st;rw [hc.zero d1.st]at this;exact this
theorem mH.B6{L s:Nat}{F:List Bool}{N:List (List Int)}{F':List Bool}{N':List (List Int)}{l:List Int}{R:List (List Int)}{j:Nat}{l':List Int}(hd:DV L s F N)(h2:L<=2)(h:mH L s F N F' N' l R j l'):xQ L F' N' 0 F N s:=by
 obtain⟨A,B,hA,_,he,hR,hF⟩:=h.parts hd h2;rw [hF];exact((hR.ok hA).B6 A).trans he
theorem mH.uniq{L s1 s2:Nat}{F1 F2 A1 A2:List Bool}{N1 N2 B1 B2:List (List Int)}{l1 l2 m1 m2:List Int}{R1 R2:List (List Int)}{j1 j2:Nat}(d1:DV L s1 F1 N1)(d2:DV L s2 F2 N2)(h2:L<=2)(g1:mH L s1 F1 N1 A1 B1 l1 R1 j1 m1)(g2:mH L s2 F2 N2 A2 B2 l2 R2 j2 m2)(he:xQ L F1 N1 s1 F2 N2 s2):A1=A2/\B1=B2:=by
 obtain⟨C1,D1,v1,r1,e1,x1,f1⟩:=g1.parts d1 h2;obtain⟨C2,D2,v2,r2,e2,x2,f2⟩:=g2.parts d2 h2;have h0:=GP v1 v2 r1 r2 (e1.trans (he.trans e2.symm))
 have hlen:m1.length=m2.length:=by
  rcases Nat.lt_trichotomy m1.length m2.length with h|h|h
  ·have hp:=(h0 m1.length x1.1 λj hj=>x2.1 j aa).1.1
   have:=x2.1 _ h;rw [x1.2]at hp;have hp:m1.length=(rP D2 L 0 m1.length).1.length:=hp;omega
  ·exact h
  ·have hp:=(h0 m2.length (λj hj=>x1.1 j aa) x2.1).1.1
   have:=x1.1 _ h;rw [x2.2]at hp;have hp:(rP D1 L 0 m2.length).1.length=m2.length:=hp;omega
 obtain⟨p,q⟩:=h0 m1.length x1.1 λj hj=>x2.1 j aa;have y2:=x2.2;rw [<-hlen]at y2;rw [x1.2,y2]at p q;refine⟨?_,q⟩;rw [f1,f2];refine a6 false (by rw [ajS,ajS];exact hlen) λj hj=>?_;rw [ajS]at hj;rw [getD_eq (by rw [ajS];exact hj),getD_eq (by rw [ajS,<-hlen];exact hj),List.getElem_map,List.getElem_map];have:=p.2 j hj [] λ_ h=>absurd h akn;have this:C1.getD (m1.getD j 0).toNat false=C2.getD (m2.getD j 0).toNat false:=this;rw [getD_eq (l:=m1) hj,getD_eq (l:=m2) (by rw [<-hlen];exact hj)]at this;exact this
def cZ(T:List (List Int))(I:List Int):List (List Int):=T.map λr=>I.map λy=>r.getD y.toNat 0
abbrev pX(F:List Bool)(E:List (List Int)):List Bool:=E.map λf=>F.getD (f.getD 0 0).toNat false
structure nS(L:Nat)(F:List Bool)(N E:List (List Int))(I:List Int)(W:List (List Int))(Pl:List Bool):Prop where
 dv:DV L 0 F N
 n3:F.length<=3
 ex:∃P Ls R U Ws B S,u6 F.length (EL L N) E.length E P Ls Ws B R U S/\I=R.getD 0 []/\WM P Ls W E.length/\W.length=E.length/\Le R Pl E.length E.length
theorem u6.uniq{n:Nat}{G E E2:List (List Int)}{P P2 L L2:List Int}{W W2:List (List Int)}{B B2:List Int}{R R2:List (List Int)}{U U2:List (List Int × List Int)}{S S2:List Int}(h:u6 n G E.length E P L W B R U S)(g:u6 n G E2.length E2 P2 L2 W2 B2 R2 U2 S2):E2=E/\P2=P/\L2=L/\R2=R:=by
 have hl:E2.length=E.length:=by
  rcases Nat.lt_trichotomy E.length E2.length with k|k|k
  ·have:=g.1 _ k
   rw [h.2]at this;exact absurd this (Nat.lt_irrefl _)
  ·exact k.symm
  ·have:=h.1 _ k
   rw [g.2]at this;exact absurd this (Nat.lt_irrefl _)
 have e:=g.2;rw [hl,h.2]at e
 injection e with e1 e2 e3 e4 e5 e6
 exact⟨e1.symm,e2.symm,e3.symm,e6.symm⟩
theorem Pv{L x:Nat}(N:List (List Int))(hx:x<L):(EL L N).getD x []=N.map λr=>r.getD x 0:=by simp [EL,List.getD,hx]
section
variable{L:Nat}{F:List Bool}{N E:List (List Int)}{I:List Int}{W:List (List Int)}{Pl:List Bool}
theorem nS.tm(h:nS L F N E I W Pl):KI F.length E:=by
 obtain⟨P,Ls,R,U,Ws,B,S,hR,_⟩:=h.ex;exact hR.tme (pY h.dv) (by have:=h.dv.st;omega) h.n3
theorem nS.il(h:nS L F N E I W Pl):I.length=L/\∀x,x<L->0<=I.getD x 0/\I.getD x 0<(E.length:Int)/\E.getD (I.getD x 0).toNat []=(EL L N).getD x []:=by
 obtain⟨P,Ls,R,U,Ws,B,S,hR,hI,_⟩:=h.ex;have hV:=hR.ok (pY h.dv);obtain⟨h1,h2⟩:=hV.row 0 h.tm.pos;rw [zS]at h1 h2;refine⟨by rw [hI];exact h1,λx hx=>?_⟩;obtain⟨g1,g2,g3⟩:=h2 x hx;rw [hI];refine⟨g1,g2,?_⟩;have h0:E.getD 0 []=cR F.length:=hV.one;have g3:E.getD ((R.getD 0 []).getD x 0).toNat []=bG (E.getD 0 []) ((EL L N).getD x []):=g3;rw [g3,h0,zT (pY h.dv _ (al (by rw [zS];exact hx)))]
theorem nS.wl(h:nS L F N E I W Pl):W.length=E.length/\Pl.length=E.length:=by
 obtain⟨P,Ls,R,U,Ws,B,S,_,_,_,hW,hP⟩:=h.ex;exact⟨hW,hP.len⟩
theorem u7(T:List (List Int))(I:List Int):(cZ T I).length=T.length:=by simp [cZ]
theorem u9{T:List (List Int)}{i:Nat}(hi:i<T.length)(I:List Int):(cZ T I).getD i []=I.map λy=>(T.getD i []).getD y.toNat 0:=by
 unfold cZ;rw [getD_eq (by simpa using hi),List.getElem_map,getD_eq hi]
theorem uw{T:List (List Int)}{I:List Int}{i x:Nat}(hi:i<T.length)(hx:x<I.length):((cZ T I).getD i []).getD x 0=(T.getD i []).getD (I.getD x 0).toNat 0:=by
 rw [u9 hi,getD_eq (by simpa using hx),List.getElem_map,getD_eq (l:=I) hx]
theorem nS.cay(h:nS L F N E I W Pl){i x:Nat}(hi:i<E.length)(hx:x<L):0<=((cZ (aP E) I).getD i []).getD x 0/\((cZ (aP E) I).getD i []).getD x 0<(E.length:Int)/\E.getD (((cZ (aP E) I).getD i []).getD x 0).toNat []=bG (E.getD i []) ((EL L N).getD x []):=by
 obtain⟨hl,hI⟩:=h.il;obtain⟨h1,h2,h3⟩:=hI x hx;rw [uw (by rw [b7];exact hi) aa,B8 hi aa];have:=dr (h.tm.cl _ (al (d:=[]) hi) _ (al (d:=[]) (show(I.getD x 0).toNat<E.length by omega)));unfold c9;rw [ajr];exact⟨aa,aa,by rw [this.2,h3]⟩
theorem nS.YK(h:nS L F N E I W Pl):DV L 0 (pX F E) (cZ (aP E) I):=by
 have hf:=h.tm.pZ;have hp:=h.tm.pos;refine⟨h.dv.l1,h.dv.l6,by simp;omega,by rw [u7,b7];simp,by simpa using hp,λr hr=>?_⟩;obtain⟨i,hi,rfl⟩:=aS [] hr;rw [u7,b7]at hi;have hl:((cZ (aP E) I).getD i []).length=L:=by rw [u9 (by rw [b7];exact hi),ajS];exact h.il.1
 refine⟨hl,λq hq=>?_⟩;obtain⟨x,hx,rfl⟩:=aS 0 hq;have:=h.cay hi (show x<L by omega);rw [ajS];exact⟨this.1,this.2.1⟩
theorem nS.run(h:nS L F N E I W Pl):∀w:List Nat,(∀x∈w,x<L)->∀i,i<E.length->∃k:Nat,k<E.length/\cI (cZ (aP E) I) i w=(k:Int)/\(E.getD k []).getD 0 0=cI N ((E.getD i []).getD 0 0) w
 |[],_,i,hi=>⟨i,hi,rfl,rfl⟩
 |x::w,hw,i,hi=>by
  have hx:=hw x (ajn ..);obtain⟨h1,h2,h3⟩:=h.cay hi hx;obtain⟨k,hk,e1,e2⟩:=nS.run h w (λy hy=>hw y (ajj _ hy)) (((cZ (aP E) I).getD i []).getD x 0).toNat aa;refine⟨k,hk,?_,?_⟩
  ·show cI _ (((cZ (aP E) I).getD ((i:Int)).toNat []).getD x 0) w=k
   rw [ajr,<-e1,Int.toNat_of_nonneg h1]
  ·show _=cI N ((N.getD ((E.getD i []).getD 0 0).toNat []).getD x 0) w
   have ht:=h.tm.at hi;have h0:=ht.at (i:=0) h.dv.st;rw [e2,h3,ib (by rw [ht.len];exact h.dv.st),Pv N hx,getD_eq (l:=List.map _ _) (by rw [ajS,h.dv.nl];omega),List.getElem_map,<-getD_eq (l:=N) (d:=[]) (by rw [h.dv.nl];omega)]
theorem Lf{i:Nat}(hi:i<E.length):(pX F E).getD i false=F.getD ((E.getD i []).getD 0 0).toNat false:=by
 rw [getD_eq (by simpa using hi),List.getElem_map,getD_eq hi]
theorem nS.B6(h:nS L F N E I W Pl):xQ L (pX F E) (cZ (aP E) I) 0 F N 0:=λw hw=>by
 obtain⟨k,hk,e1,e2⟩:=h.run w hw 0 h.tm.pos;have e1:cI (cZ (aP E) I) 0 w=(k:Int):=e1;rw [h.tm.one,dM h.dv.st]at e2;have e2:(E.getD k []).getD 0 0=cI N 0 w:=e2;unfold mT;rw [e1,ajr,Lf hk,e2]
theorem nS.uniq{E2:List (List Int)}{I2:List Int}{W2:List (List Int)}{P2:List Bool}(h:nS L F N E I W Pl)(g:nS L F N E2 I2 W2 P2):E2=E/\I2=I/\W2=W/\P2=Pl:=by
 obtain⟨P,Ls,R,U,Ws,B,S,hR,hI,hW,hWl,hP⟩:=h.ex;obtain⟨P',Ls',R',U',Ws',B',S',VY,hI',VZ,ZB,hP'⟩:=g.ex;obtain⟨e1,e2,e3,e4⟩:=hR.uniq VY;have hV:=hR.ok (pY h.dv);subst e1;subst e2;subst e3;subst e4;refine⟨rfl,by rw [hI,hI'],?_,hP'.uniq hP⟩
 have key:∀j,j<E2.length->W2.getD j []=W.getD j []:=by
  intro j
  induction j using Nat.strongRecOn with
  |ind j ih=>
   intro hj;rcases aj1 j with e|e
   ·rw [e,hW.w0,VZ.w0]
   ·have hp:=(hV.pre j e hj).1
    have ZC:0<=P'.getD j 0:=hp.1;have gu:P'.getD j 0<(j:Int):=hp.2;rw [hW.ws j e hj,VZ.ws j e hj,ih (P'.getD j 0).toNat aa aa]
 exact a6 [] (by rw [hWl,ZB]) λj hj=>key j aa
theorem nS.again{s:Nat}{F0 F2:List Bool}{N0 N2:List (List Int)}{l m l' m':List Int}{R Q:List (List Int)}{j i:Nat}(h:nS L F N E I W Pl)(h2:L<=2)(hd:DV L s F0 N0)(h0:mH L s F0 N0 F N l R j m)(h1:mH L 0 (pX F E) (cZ (aP E) I) F2 N2 l' Q i m'):F2=F/\N2=N:=
 h1.uniq h.YK hd h2 h0 (h.B6.trans (h0.B6 hd h2))
end
set_option maxRecDepth 100000
set_option maxHeartbeats 4000000
def jR(l:List Int):List Nat:=l.map λx=>(x - 97).toNat
def E3(L:Nat)(l:List Int):Prop:=∀i,i<l.length->97<=l.getD i 0/\l.getD i 0 - 97<(L:Int)
noncomputable def O0(L:Nat)(l:List Int):Bool:=@decide (E3 L l) (Classical.propDecidable _)
theorem va{L:Nat}{l:List Int}:O0 L l=true↔E3 L l:=by unfold O0;exact @decide_eq_true_iff _ (Classical.propDecidable _)
theorem IQ{L:Nat}{l:List Int}:O0 L l=false↔¬E3 L l:=by unfold O0;exact @decide_eq_false_iff_not _ (Classical.propDecidable _)
theorem GR(l:List Int):(jR l).length=l.length:=by simp [jR]
theorem Pw{L:Nat}{l:List Int}(h:E3 L l):∀x∈jR l,x<L:=by
 intro x hx;obtain⟨y,hy,rfl⟩:=ajU.1 hx;obtain⟨i,hi,rfl⟩:=aS 0 hy;have:=h i hi;omega
theorem yu(N:List (List Int))(x:Nat):∀(w:List Nat) (q:Int),cI N q (w++[x])=(N.getD (cI N q w).toNat []).getD x 0
 |[],_=>rfl
 |_::w,_=>yu N x w _
theorem nT(N:List (List Int))(q:Int){l:List Int}{i:Nat}(hi:i<l.length):cI N q ((jR l).take (i+1))=(N.getD (cI N q ((jR l).take i)).toNat []).getD (l.getD i 0 - 97).toNat 0:=by
 rw [<-yu,List.take_succ_eq_append_getElem (by rw [GR];exact hi)];simp [jR,List.getD,hi]
theorem mU(N:List (List Int))(q:Int)(l:List Int):cI N q ((jR l).take l.length)=cI N q (jR l):=by rw [<-GR,List.take_length]
theorem DV.runT{L s:Nat}{F:List Bool}{N:List (List Int)}(h:DV L s F N){l:List Int}(hl:E3 L l){q:Int}(hq:0<=q/\q<(F.length:Int)):∀i,i<=l.length->0<=cI N q ((jR l).take i)/\cI N q ((jR l).take i)<(F.length:Int)
 |0,_=>hq
 |i+1,hi=>by
  have ih:=DV.runT h hl hq i aa;have hx:=hl i aa;rw [nT N q aa];exact(h.at (q:=(cI N q ((jR l).take i)).toNat) aa (x:=(l.getD i 0 - 97).toNat) aa).2
theorem Lg(L:Nat)(l:List Int)(h1:1<=L)(h6:L<=6)(hl:l.length<=2048)(hb:∀x∈l,cz x):QF 11 [.str l,.int .i64 L] (.bool (.v (O0 L l))):=fN Tryz.func11 (by decide+kernel) rfl (ah rfl) λ_=>by
 have no:¬E3 L l->false=O0 L l:=λh=>(IQ.2 h).symm;refine Or.inl (cq (GS L) (ae rfl ag) ?_);refine ae (λh1=>absurd (show(!decide (1<=(L:Int)/\(L:Int)<=6))=true from h1) (by simp;omega)) (λ_=>?_);refine aj ?_;refine ae (λh2=>absurd (show 2048<(l.length:Int)from h2) aa) (λ_=>?_);refine af []<|lp (X:=Nat) (λi=>[(5,.int .i64 i)]) (λ_=>[]) (λi=>i<=l.length/\∀j,j<i->97<=l.getD j 0/\l.getD j 0 - 97<(L:Int)) (λi=>l.length - i) 0 ⟨ajk _,λj h=>absurd h (aju _)⟩ ab ?_
 rintro i ⟨hi,hI⟩;refine aj ?_;refine ae (λh3=>?_) (λh3=>?_)
 ·have h3:(i:Int)<(l.length:Int):=h3
  have bD:i<l.length:=aa;obtain⟨EM,j9⟩:0<=l.getD i 0/\l.getD i 0<=255:=hb _ (al bD);refine aj ?_;refine ae (λh4=>?_) (λh4=>?_)
  ·have h4:l.getD i 0<97:=h4
   exact ae (no λh=>by have:=h i bD;omega) trivial
  ·have h4:97<=l.getD i 0:=h4
   refine aj ?_;refine ae (show(0:Int)<=l.getD i 0 - 97/\l.getD i 0 - 97<=255 by omega) ?_;refine ae (show(-9223372036854775808:Int)<=l.getD i 0 - 97/\l.getD i 0 - 97<=9223372036854775807 by omega) ?_;refine ae (λh5=>?_) (λh5=>?_)
   ·have h5:(L:Int)<=l.getD i 0 - 97:=h5
    exact ae (no λh=>by have:=h i bD;omega) trivial
   ·have h5:l.getD i 0 - 97<(L:Int):=h5
    refine aj ?_;refine nx (i+1) ⟨aa,λj hj=>?_⟩ (show l.length - (i+1)<l.length - i by omega) ab
    by_cases e:j=i
    ·rw [e];exact⟨h4,h5⟩
    ·exact hI j aa
 ·have h3:(l.length:Int)<=(i:Int):=h3
  exact ae (va.2 λj hj=>hI j aa).symm trivial
theorem GU(L:Nat)(l:List Int)(h1:1<=L)(h6:L<=6)(hl:l.length<=2048)(hv:E3 L l):QF 53 [.str l,.int .i64 L] (.bool (.lit true)):=fN Tryz.func53 (by decide+kernel) rfl (ah rfl) λ_=>by
 refine ae (λk=>absurd (show(L:Int)<1 from k) aa) (λ_=>?_);refine ae (λk=>absurd (show 6<(L:Int)from k) aa) (λ_=>?_);refine aj ?_;refine ae (λk=>absurd (show 2048<(l.length:Int)from k) aa) (λ_=>?_);refine aj ?_;refine af []<|lp (X:=Nat) (λi=>[(19,.int .i64 i)]) (λ_=>[]) (λi=>i<=l.length) (λi=>l.length - i) 0 (ajk _) ab ?_
 rintro i hi;refine ae (λh3=>?_) (λ_=>ae rfl ag);have h3:(i:Int)<(l.length:Int):=h3;have bD:i<l.length:=aa;obtain⟨EM,j9⟩:=hv i bD;refine aj ?_;refine ae (λk=>absurd (show l.getD i 0<97 from k) aa) (λ_=>?_);refine aj ?_;refine ae (show(0:Int)<=l.getD i 0 - 97/\l.getD i 0 - 97<=255 by omega) ?_;refine ae (show(-9223372036854775808:Int)<=l.getD i 0 - 97/\l.getD i 0 - 97<=9223372036854775807 by omega) ?_;refine ae (λk=>absurd (show(L:Int)<=l.getD i 0 - 97 from k) aa) (λ_=>?_);refine aj ?_;exact nx (i+1) (show i+1<=l.length by omega) (show l.length - (i+1)<l.length - i by omega) ab
section
variable{L s:Nat}{F:List Bool}{N:List (List Int)}
theorem Px(h:DV L s F N){l:List Int}(hl:l.length<=2048)(hv:E3 L l):QF 44 [zU L s F N,.int .i64 s,.str l] (.int .i64 (cI N s (jR l))):=fN Tryz.func44 (by decide+kernel) rfl (ah rfl) λ_=>by
 have h1:=h.l1;have h6:=h.l6;have h5:=h.pZ;have cX:=h.st;refine Or.inl (cq (p4 h) ab ?_);refine ae (λk=>absurd rfl k) (λ_=>?_);refine ae (λk=>absurd (show(s:Int)<0 from k) aa) (λ_=>?_);refine ae (λk=>absurd (show(F.length:Int)<=(s:Int)from k) aa) (λ_=>?_);refine Or.inl (cq (GU L l h1 h6 hl hv) (ae rfl (ae rfl ag)) ?_);refine aj ?_;refine af []<|lp (X:=Nat) (λi=>[(31,.int .i64 i),(1,.int .i64 (cI N s ((jR l).take i)))]) (λ_=>[]) (λi=>i<=l.length) (λi=>l.length - i) 0 (ajk _) ab ?_
 rintro i hi;have WN:=h.runT hv (q:=(s:Int)) aa i hi;refine ae (λk1=>?_) (λk1=>?_)
 ·have k1:(i:Int)<(l.length:Int):=k1
  have bD:i<l.length:=aa;have hx:=hv i bD;have O1:=h.nl;have mV:=(h.at (q:=(cI N s ((jR l).take i)).toNat) aa (x:=(l.getD i 0 - 97).toNat) aa).1;refine Or.inl ?_;refine af (ai 11++[true]) (ae (by decide+kernel) ?_);refine aj ?_;refine aj ?_;refine ae (show(0:Int)<=l.getD i 0 - 97/\l.getD i 0 - 97<=255 by omega) ?_;refine ae (show 0<=l.getD i 0 - 97/\l.getD i 0 - 97<((N.getD (cI N s ((jR l).take i)).toNat []).length:Int) by omega) ?_;refine aj ?_;exact nx (i+1) (show i+1<=l.length by omega) (show l.length - (i+1)<l.length - i by omega) (by repeat' first|refine ae ?_ ?_|exact ag|exact(nT N s bD).symm|(show(_:Int)=(_:Int);omega)|omega|exact rfl)
 ·have k1:(l.length:Int)<=(i:Int):=k1
  obtain rfl:i=l.length:=aa;exact ae (mU N s l) trivial
theorem GV(h:DV L s F N){l:List Int}(hl:l.length<=2048)(hv:E3 L l):QF 17 [zU L s F N,.str l] (.bool (.v (mT F N s (jR l)))):=fN Tryz.func17 (by decide+kernel) rfl (ah rfl) λ_=>by
 have cX:=h.st;have hr:=h.runT hv (q:=(s:Int)) aa l.length (ajl _);rw [mU]at hr;refine Or.inl (cq (Px h hl hv) ab ?_);refine ae (λ_=>?_) (λk=>absurd (show cI N s (jR l)<0 from k) aa);refine aj ?_;exact ae rfl trivial
end
end Go.Proofs.YtgailjhnfghkgaaGreatDoor
end
