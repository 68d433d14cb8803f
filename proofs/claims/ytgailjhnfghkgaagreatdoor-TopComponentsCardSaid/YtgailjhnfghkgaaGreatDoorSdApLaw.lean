import Derived.Test.YtgailjhnfghkgaaGreatDoorSgpLaw
import Derived.Test.YtgailjhnfghkgaaGreatDoorAtoms
import Derived.Test.YtgailjhnfghkgaaGreatDoorMinsLaw
import Derived.Test.YtgailjhnfghkgaaGreatDoorMult
import Derived.Test.YtgailjhnfghkgaaGreatDoorCgFor
import Derived.Test.YtgailjhnfghkgaaGreatDoorCg
import Derived.Test.YtgailjhnfghkgaaGreatDoorSd
section
namespace Go.Proofs.YtgailjhnfghkgaaGreatDoor
open Go Go.AM
set_option maxRecDepth 100000
def V0(t:List (List Int)):Prop:=Semi t/\(vb t).length=1
structure TP(t:List (List Int))(l:List (List Int)):Prop where
 iJ:Semi t
 pZ:l.length<t.length
 cg:∀p∈l,ca t p 0
 meet:ao (mQ t.length l)=t.length
 red:(dm t.length (List.replicate t.length 0) l).length=l.length
 V1:∀p∈l,(vb (dH t p)).length=1
noncomputable def IU(t:List (List Int))(l:List (List Int)):Bool:=@decide (TP t l) (Classical.propDecidable _)
theorem rU{t l:List (List Int)}:IU t l=true↔TP t l:=by unfold IU;exact @decide_eq_true_iff _ (Classical.propDecidable _)
theorem E4{t l:List (List Int)}:IU t l=false↔¬TP t l:=by rw [<-rU,Bool.not_eq_true]
theorem ca.pt{t:List (List Int)}{p:List Int}(h:ca t p 0):Pt t.length p:=⟨h.len,h.val⟩
theorem ca.quo{t:List (List Int)}{p:List Int}(h:ca t p 0):Semi (dH t p):=Lh h.iJ h.len h.val.2 h.cg
theorem ca.Li{t:List (List Int)}{p:List Int}(h:ca t p 0):(dH t p).length<=t.length:=by rw [dw,<-h.len];exact bp _
set_option maxHeartbeats 1000000 in
theorem Py(t l:List (List Int))(ht:Semi t->t.length<=60):QF 14 [.ro (.rows .i64 t),.ro (.rows .i64 l)] (.bool (.v (IU t l))):=fN Tryz.func14 (by decide+kernel) rfl (ah rfl) λ_=>by
 have no:¬TP t l->(BE.lit false).val=(BE.v (IU t l)).val:=λh=>(E4.2 h).symm;refine Or.inl (cq (kV t) (ae rfl ag) ?_);refine ae (λh1=>?_) (λh1=>?_)
 ·exact ae (no λh=>h1 (fx.2 h.iJ)) trivial
 have hs:=fx.1 h1;have hn:=ht hs;refine ae (λh2=>?_) (λh2=>?_)
 ·have h2:(t.length:Int)<=(l.length:Int):=h2
  exact ae (no λh=>by have:=h.pZ;omega) trivial
 have h2:(l.length:Int)<(t.length:Int):=h2;refine af []<|lp (X:=Nat) (λi=>[(21,.int .i64 i)]) (λ_=>[]) (λi=>i<=l.length/\∀j,j<i->ca t (l.getD j []) 0) (λi=>l.length - i) 0 ⟨ajk _,λj hj=>absurd hj (aju _)⟩ ab ?_
 rintro i ⟨hi,hc⟩;refine ae (λh3=>?_) (λh3=>?_)
 ·have h3:(i:Int)<(l.length:Int):=h3
  refine aj ?_;refine Or.inl (cq (GW t (l.getD i []) hs) (ae rfl (ae rfl ag)) ?_);refine ae (λh4=>?_) (λh4=>?_)
  ·have h4:(!IV t (l.getD i []) 0)=true:=h4
   refine ae (no λh=>?_) trivial;rw [kW.2 (h.cg _ (al (d:=[]) aa))]at h4;cases h4
  ·have h4:(!IV t (l.getD i []) 0)=false:=h4
   refine aj ?_;refine nx (i+1) ⟨aa,λj hj=>?_⟩ (show l.length - (i+1)<l.length - i by omega) ab
   by_cases e:j=i
   ·subst e;exact kW.1 (by simpa using h4)
   ·exact hc j aa
 ·have h3:(l.length:Int)<=(i:Int):=h3
  have xG:∀p∈l,ca t p 0:=λp hp=>by
   obtain⟨j,hj,rfl⟩:=aS [] hp;exact hc j aa
  have Sx:∀p∈l,Pt t.length p:=λp hp=>(xG p hp).pt;have h0:0<t.length:=aa;have gv:=zV t.length l;have KJ:(mW t.length l).getD 0 []=mQ t.length l:=by rw [zW _ _ (ajk _),List.drop_zero]
  have hpm:Pt t.length (mQ t.length l):=Pt.mQ aa Sx;refine Or.inl (cq (GX t.length l h0 aa aa Sx) (ae rfl (ae rfl ag)) ?_);refine ae (show 0<=(0:Int)/\(0:Int)<((mW t.length l).length:Int) by omega) ?_;refine Or.inl (cq (zX ((mW t.length l).getD 0 []) (by rw [KJ];exact hpm.2)) (ae rfl ag) ?_);refine ae (λh4=>?_) (λh4=>?_)
  ·have h4:¬((ao ((mW t.length l).getD 0 []):Nat):Int)=(t.length:Int):=h4
   rw [KJ]at h4;exact ae (no λh=>by have:=h.meet;omega) trivial
  have h4:((ao ((mW t.length l).getD 0 []):Nat):Int)=(t.length:Int):=h4;rw [KJ]at h4;refine Or.inl (cq (GY t.length l h0 aa aa Sx) (ae rfl (ae rfl ag)) ?_);refine ae (λh5=>?_) (λh5=>?_)
  ·have h5:¬((dm t.length (List.replicate t.length 0) l).length:Int)=(l.length:Int):=h5
   exact ae (no λh=>by have:=h.red;omega) trivial
  have h5:((dm t.length (List.replicate t.length 0) l).length:Int)=(l.length:Int):=h5;refine af []<|lp (X:=Nat) (λi=>[(52,.int .i64 i)]) (λ_=>[]) (λi=>i<=l.length/\∀j,j<i->(vb (dH t (l.getD j []))).length=1) (λi=>l.length - i) 0 ⟨ajk _,λj hj=>absurd hj (aju _)⟩ ab ?_
  rintro k ⟨hk,hm⟩;refine ae (λh6=>?_) (λh6=>?_)
  ·have h6:(k:Int)<(l.length:Int):=h6
   have KK:=xG _ (al (d:=[]) (show k<l.length by omega));have ux:=KK.Li;refine aj ?_;refine Or.inl (cq (B9 t (l.getD k []) KK) (ae rfl (ae rfl ag)) ?_);refine Or.inr (Or.inr (ce (Ca (dH t (l.getD k [])) KK.quo aa) (ae rfl ag) ?_));intro L hL;have hL:eu (dH t (l.getD k [])) L:=hL;have hLn:=hL.num;refine ae (λh7=>?_) (λh7=>?_)
   ·have h7:¬(L.length:Int)=1:=h7
    exact ae (no λh=>by have:=h.V1 _ (al (d:=[]) (show k<l.length by omega));omega) trivial
   ·have h7:(L.length:Int)=1:=h7
    refine aj ?_;refine nx (k+1) ⟨aa,λj hj=>?_⟩ (show l.length - (k+1)<l.length - k by omega) ab
    by_cases e:j=k
    ·subst e;omega
    ·exact hm j aa
  ·have h6:(l.length:Int)<=(k:Int):=h6
   refine ae ?_ trivial;refine(rU.2 ⟨hs,aa,xG,aa,aa,λp hp=>?_⟩).symm;obtain⟨j,hj,rfl⟩:=aS [] hp;exact hm j aa
def IW(n:Nat)(R:Nat->Nat->Prop):Prop:=∀x y,x<n->y<n->R x y->x=y
def cE(p:List Int)(x y:Nat):Prop:=p.getD x 0=p.getD y 0
theorem eA{n:Nat}{p q:List Int}(hp:Pt n p)(hq:Pt n q){x y:Nat}(hx:x<n)(hy:y<n):cE (jP p q) x y↔cE p x y/\cE q x y:=by
 have hz:(p.zip q).length=n:=by simp [hp.1,hq.1]
 have zg:∀i,i<n->(p.zip q).getD i (0,0)=(p.getD i 0,q.getD i 0):=λi hi=>by
  have:=hp.1;have:=hq.1;rw [getD_eq aa,getD_eq aa,getD_eq aa];simp
 unfold cE jP;rw [eX (d:=(0,0)) aa aa,zg x hx,zg y hy]
 constructor
 ·intro h
  injection h with h1 h2
  exact⟨h1,h2⟩
 ·rintro⟨h1,h2⟩;rw [h1,h2]
theorem kX(n x y:Nat):cE (List.replicate n 0) x y:=by unfold cE;rw [fe,fe]
theorem p5{n:Nat}(hn:n<=4096){x y:Nat}(hx:x<n)(hy:y<n):∀{l:List (List Int)},(∀p∈l,Pt n p)->(cE (mQ n l) x y↔∀p∈l,cE p x y)
 |[],_=>⟨λ_ _ h=>absurd h akn,λ_=>kX n x y⟩
 |q::l,h=>by
  have ih:=p5 hn hx hy (l:=l) λp hp=>h p (ajj _ hp);have e:=eA (h q (ajn ..)) (Pt.mQ hn λp hp=>h p (ajj _ hp)) hx hy (q:=mQ n l);show cE (jP q (mQ n l)) x y↔_;rw [e,ih];exact⟨λ⟨h1,h2⟩ p hp=>(ajo.1 hp).elim (λe=>e▸h1) (h2 p),λh=>⟨h q (ajn ..),λp hp=>h p (ajj _ hp)⟩⟩
theorem fO{n:Nat}{p:List Int}(hp:Pt n p):ao p=n↔IW n (cE p):=by
 constructor
 ·intro hc a b ha hb e
  refine ajy λbn=>?_;have h1:=GZ (P:=λ_=>true) (M:=b) (n:=n) hb rfl
  have h2:=b9 (fP p) (B:=((List.range n).filter λi=>true&&decide (i≠b)).map λi=>p.getD i 0) λx hx=>by
   obtain⟨j,hj,rfl⟩:=aS 0 (aL.1 hx);have hj:j<n:=by rw [<-hp.1];exact hj
   by_cases e1:j=b
   ·exact ajU.2 ⟨a,akq.2 ⟨ajJ.2 ha,by simp [bn]⟩,by rw [e1];exact e⟩
   ·exact ajU.2 ⟨j,akq.2 ⟨ajJ.2 hj,by simp [e1]⟩,rfl⟩
  rw [ajS]at h2;have h3:((List.range n).filter λ_=>true).length=n:=by rw [List.filter_eq_self.2 (λ_ _=>rfl),List.length_range]
  unfold ao at hc;omega
 ·intro h
  have hd:p.Nodup:=aj9.2 (aky.2 λi j hi hj mR e=>by
   have:=h i j (by rw [<-hp.1];exact hi) (by rw [<-hp.1];exact hj) (by unfold cE;rw [getD_eq hi,getD_eq hj];exact e);omega)
  have h1:=b9 hd (B:=av p) λx hx=>aL.2 hx;have h2:ao p<=p.length:=bp p;have h3:=hp.1;unfold ao at*;omega
def EN(n:Nat)(l:List (List Int))(but:Int):Nat->List Int
 |0=>List.replicate n 0
 |k+1=>if (k:Int)≠but then jP (EN n l but k) (l.getD k []) else EN n l but k
theorem kE{n:Nat}{l:List (List Int)}{but:Int}(hn:n<=4096)(hp:∀p∈l,Pt n p):∀{k:Nat},k<=l.length->Pt n (EN n l but k)
 |0,_=>Pt.Cb hn
 |k+1,h=>by
  unfold EN;split
  ·exact(kE hn hp aa).mt (hp _ (al (d:=[]) aa))
  ·exact kE hn hp aa
theorem gY{n:Nat}{l:List (List Int)}{but:Int}(hn:n<=4096)(hp:∀p∈l,Pt n p){x y:Nat}(hx:x<n)(hy:y<n):∀{k:Nat},k<=l.length->(cE (EN n l but k) x y↔∀j,j<k->(j:Int)≠but->cE (l.getD j []) x y)
 |0,_=>⟨λ_ j h=>absurd h (aju _),λ_=>kX n x y⟩
 |k+1,h=>by
  have ih:=gY (but:=but) hn hp hx hy (k:=k) aa;unfold EN;split
  ·rename_i hb
   rw [eA (kE hn hp aa) (hp _ (al (d:=[]) aa)) hx hy,ih];refine⟨λ⟨h1,h2⟩ j hj zY=>?_,λh=>⟨λj hj=>h j aa,h k aa hb⟩⟩
   by_cases e:j=k
   ·subst e;exact h2
   ·exact h1 j aa zY
  ·rename_i hb
   rw [ih];refine⟨λh j hj zY=>?_,λh j hj=>h j aa⟩
   by_cases e:j=k
   ·subst e;exact absurd zY hb
   ·exact h j aa zY
theorem zZ(n:Nat):∀(l:List (List Int)) (b:List Int),(dm n b l).length<=l.length
 |[],_=>ajl _
 |p::l,b=>by
  unfold dm;split
  ·exact ajW (zZ n l b) (by simp)
  ·simp only [ajY];exact Nat.succ_le_succ (zZ n l _)
theorem Cc(n:Nat):∀(l:List (List Int)) (b:List Int),(dm n b l).length=l.length↔∀i,i<l.length->ao (jP ((l.take i).foldl jP b) (mQ n (l.drop (i+1))))≠n
 |[],_=>⟨λ_ i h=>absurd h (aju _),λ_=>rfl⟩
 |p::l,b=>by
  unfold dm;split
  ·rename_i h
   constructor
   ·intro e
    have:=zZ n l b;simp only [ajY]at e;omega
   ·intro e
    exact absurd h (e 0 (by simp))
  ·rename_i h
   have ih:=Cc n l (jP b p);simp only [ajY]
   constructor
   ·intro e i hi
    cases i with
    |zero=>exact h
    |succ i=>exact ih.1 aa i aa
   ·intro e
    rw [ih.2 λi hi=>e (i+1) aa]
theorem G0{n:Nat}:∀{l:List (List Int)} {b:List Int},(∀p∈l,Pt n p)->Pt n b->Pt n (l.foldl jP b)
 |[],_,_,hb=>hb
 |p::l,b,h,hb=>G0 (l:=l) (b:=jP b p) (λq hq=>h q (ajj _ hq)) (hb.mt (h p (ajn ..)))
theorem Cd{n:Nat}{x y:Nat}(hx:x<n)(hy:y<n):∀{l:List (List Int)} {b:List Int},(∀p∈l,Pt n p)->Pt n b->(cE (l.foldl jP b) x y↔cE b x y/\∀p∈l,cE p x y)
 |[],_,_,_=>⟨λh=>⟨h,λ_ h=>absurd h akn⟩,λh=>h.1⟩
 |p::l,b,h,hb=>by
  have h1:=h p (ajn ..);have ih:=Cd hx hy (l:=l) (b:=jP b p) (λq hq=>h q (ajj _ hq)) (hb.mt h1);rw [akl,ih,eA hb h1 hx hy];exact⟨λ⟨⟨h1,h2⟩,h3⟩=>⟨h1,λq hq=>(ajo.1 hq).elim (λe=>e▸h2) (h3 q)⟩,λ⟨h1,h2⟩=>⟨⟨h1,h2 p (ajn ..)⟩,λq hq=>h2 q (ajj _ hq)⟩⟩
theorem Pz{l:List (List Int)}{i:Nat}(hi:i<l.length){P:List Int->Prop}:((∀p∈l.take i,P p)/\∀p∈l.drop (i+1),P p)↔∀j,j<l.length->(j:Int)≠(i:Int)->P (l.getD j []):=by
 constructor
 ·rintro⟨h1,h2⟩ j hj bn
  by_cases e:j<i
  ·refine h1 _ ?_
   rw [getD_eq hj];exact List.mem_take_iff_getElem.2 ⟨j,aa,rfl⟩
  ·refine h2 _ ?_
   rw [getD_eq hj];exact List.mem_drop_iff_getElem.2 ⟨j - (i+1),aa,by congr 1;omega⟩
 ·intro h
  refine⟨λp hp=>?_,λp hp=>?_⟩
  ·obtain⟨j,hj,rfl⟩:=List.mem_take_iff_getElem.1 hp
   rw [<-getD_eq (d:=[]) aa];exact h j aa aa
  ·obtain⟨j,hj,rfl⟩:=List.mem_drop_iff_getElem.1 hp
   rw [<-getD_eq (d:=[]) aa];exact h _ aa aa
theorem z6{n:Nat}{l:List (List Int)}(hn:n<=4096)(hp:∀p∈l,Pt n p):(dm n (List.replicate n 0) l).length=l.length↔∀i,i<l.length->ao (EN n l i l.length)≠n:=by
 rw [Cc];refine forall_congr' λi=>forall_congr' λhi=>not_congr ?_;have ht:∀p∈l.take i,Pt n p:=λp h=>hp p (List.mem_of_mem_take h);have hd:∀p∈l.drop (i+1),Pt n p:=λp h=>hp p (List.mem_of_mem_drop h);have hf:=G0 ht (Pt.Cb hn);rw [fO (hf.mt (Pt.mQ hn hd)),fO (kE hn hp (ajl _))];refine forall_congr' λx=>forall_congr' λy=>forall_congr' λhx=>forall_congr' λhy=>?_;rw [eA hf (Pt.mQ hn hd) hx hy,Cd hx hy ht (Pt.Cb hn),p5 hn hx hy hd,gY hn hp hx hy (ajl _),<-Pz hi (P:=λp=>cE p x y)];exact⟨λh a=>h ⟨⟨kX n x y,a.1⟩,a.2⟩,λh a=>h ⟨a.1.2,a.2⟩⟩
theorem vc{n:Nat}{l:List (List Int)}(hn:n<=4096)(hp:∀p∈l,Pt n p):ao (mQ n l)=n↔ao (EN n l (-1) l.length)=n:=by
 rw [fO (Pt.mQ hn hp),fO (kE hn hp (ajl _))];refine forall_congr' λx=>forall_congr' λy=>forall_congr' λhx=>forall_congr' λhy=>?_;rw [p5 hn hx hy hp,gY hn hp hx hy (ajl _)];refine⟨λh a=>h λp hp=>?_,λh a=>h λj hj _=>a _ (al (d:=[]) hj)⟩;obtain⟨j,hj,rfl⟩:=aS [] hp;exact a j hj aa
theorem TQ{n:Nat}{l:List (List Int)}(h0:0<n)(hn:n<=4096)(hp:∀p∈l,Pt n p)(hm:ao (EN n l (-1) l.length)=n)(hr:∀i,i<l.length->ao (EN n l i l.length)≠n):l.length<n:=by
 have key:∀k,k<=l.length->k+1<=ao (EN n l (-1) k):=λk=>by
  induction k with
  |zero=>
   intro _;show 1<=ao (List.replicate n (0:Int));have:(0:Int)∈av (List.replicate n (0:Int)):=aL.2 (by simp;omega);exact akx this
  |succ k ih=>
   intro hk;have ih:=ih aa;have hP:=kE (but:= -1) hn hp (k:=k) aa;have hP2:=kE (but:= -1) hn hp (k:=k+1) hk
   have hs:=lN hP.2.2 hP2.2.2 (by rw [hP.1,hP2.1]) λx y hx hy e=>by
    have hx:x<n:=by rw [<-hP.1];exact hx
    have hy:y<n:=by rw [<-hP.1];exact hy
    exact(gY hn hp hx hy aa).2 λj hj hb=>(gY hn hp hx hy hk).1 e j aa hb
   have bn:ao (EN n l (-1) k)≠ao (EN n l (-1) (k+1)):=λe=>by
    have e2:=hs.2 e;refine hr k aa ((fO (kE hn hp (ajl _))).2 λx y hx hy h=>(fO (kE hn hp (ajl _))).1 hm x y hx hy ?_);have h:=(gY hn hp hx hy (ajl _)).1 h;refine(gY hn hp hx hy (ajl _)).2 λj hj hb=>?_
    by_cases ej:j=k
    ·subst ej
     have h3:cE (EN n l (-1) j) x y:=(gY hn hp hx hy aa).2 λi hi _=>h i aa aa;rw [<-e2]at h3;exact(gY hn hp hx hy hk).1 h3 j aa hb
    ·exact h j hj aa
   omega
 have:=key l.length (ajl _);omega
structure ZD(t:List (List Int))(l:List (List Int)):Prop where
 iJ:Semi t
 cg:∀p∈l,ca t p 0
 V1:∀p∈l,V0 (dH t p)
 meet:ao (EN t.length l (-1) l.length)=t.length
 red:∀i,i<l.length->ao (EN t.length l i l.length)≠t.length
theorem G1{t l:List (List Int)}:TP t l↔ZD t l:=by
 constructor
 ·intro h
  have hn:=h.iJ.most;have hp:∀p∈l,Pt t.length p:=λp hp=>(h.cg p hp).pt;exact⟨h.iJ,h.cg,λp hp=>⟨(h.cg p hp).quo,h.V1 p hp⟩,(vc aa hp).1 h.meet,(z6 aa hp).1 h.red⟩
 ·intro h
  have hn:=h.iJ.most;have h0:=h.iJ.pos;have hp:∀p∈l,Pt t.length p:=λp hp=>(h.cg p hp).pt;exact⟨h.iJ,TQ h0 aa hp h.meet h.red,h.cg,(vc aa hp).2 h.meet,(z6 aa hp).2 h.red,λp hp=>(h.V1 p hp).2⟩
end Go.Proofs.YtgailjhnfghkgaaGreatDoor
end
section
section
namespace Go.Proofs.YtgailjhnfghkgaaGreatDoor
theorem E6{r:Nat->Nat}{i j a b:Nat}(e:r a=r b):vd r i j a=vd r i j b:=by unfold vd;rw [e]
theorem TR{r:Nat->Nat}{i j:Nat}:vd r i j i=vd r i j j:=by
 unfold vd;split<;>split<;>omega
theorem TS{n:Nat}{R:Nat->Nat->Prop}{r:Nat->Nat}{i j:Nat}(h:∀a b,a<n->b<n->r a=r b->Eg R a b)(hi:i<n)(hj:j<n)(e:Eg R i j):∀a b,a<n->b<n->vd r i j a=vd r i j b->Eg R a b:=by
 intro a b ha hb e2;have key:∀k,k<n->r k=r i\/r k=r j->Eg R k i:=λk hk e3=>Or.elim e3 (λe4=>h k i hk hi e4) λe4=>(h k j hk hj e4).trans e.symm;unfold vd at e2
 by_cases e3:r a=max (r i) (r j)<;>by_cases e4:r b=max (r i) (r j)
 ·exact h a b ha hb aa
 ·rw [ajq e3,ajm e4]at e2
  exact(key a ha aa).trans (key b hb aa).symm
 ·rw [ajm e3,ajq e4]at e2
  exact(key a ha aa).trans (key b hb aa).symm
 ·rw [ajm e3,ajm e4]at e2
  exact h a b ha hb e2
def Sy(n:Nat)(p q:List Int)(a b:Nat):Prop:=a<n/\b<n/\(p.getD a 0=p.getD b 0\/q.getD a 0=q.getD b 0)
def Sz(n:Nat)(p q F:List Int)(r:Nat->Nat):Prop:=Fo n F r/\∀a b,a<n->b<n->r a=r b->Eg (Sy n p q) a b
theorem Sz.union{n:Nat}{p q F:List Int}{r:Nat->Nat}{i j:Nat}(h:Sz n p q F r)(e:Sy n p q i j):Sz n p q (PA r F i j) (vd r i j):=
 ⟨h.1.union e.1 e.2.1,TS h.2 e.1 e.2.1 (.rel e)⟩
noncomputable def YL(n:Nat)(p q:List Int)(a b:Nat):Bool:=@decide (Eg (Sy n p q) a b) (Classical.propDecidable _)
theorem kY{n:Nat}{p q:List Int}{a b:Nat}:YL n p q a b=true↔Eg (Sy n p q) a b:=by unfold YL;exact @decide_eq_true_iff _ (Classical.propDecidable _)
noncomputable def BT(n:Nat)(p q:List Int):List Int:=tR n (YL n p q)
theorem TT(n:Nat)(p q:List Int):TU n (YL n p q):=
 E7 (λx _=>kY.2 (.refl x)) λ_ _ _ _ _ _ h h'=>kY.2 ((kY.1 h).trans (kY.1 h'))
theorem uy{n:Nat}{p q:List Int}:(BT n p q).length=n:=p6 _ _
theorem yv{n:Nat}{p q:List Int}:canon (BT n p q)=BT n p q:=fy _
theorem nU{n:Nat}{p q:List Int}{a b:Nat}(ha:a<n)(hb:b<n):(BT n p q).getD a 0=(BT n p q).getD b 0↔Eg (Sy n p q) a b:=by
 unfold BT;rw [p7 (TT n p q) ha hb,kY,kY];exact⟨λh=>h.1,λh=>⟨h,h.symm⟩⟩
theorem Sz.done{n:Nat}{p q F:List Int}{r:Nat->Nat}(h:Sz n p q F r)(hp:∀a b,a<n->b<n->p.getD a 0=p.getD b 0->r a=r b)(hq:∀a b,a<n->b<n->q.getD a 0=q.getD b 0->r a=r b):canon (G2 n r)=BT n p q:=by
 rw [<-yv];refine ic (d:=0) (e:=0) (by rw [p8,uy]) λi j hi hj=>?_;rw [p8]at hi hj;rw [p9 hi,p9 hj,nU hi hj];refine⟨λe=>h.2 i j hi hj aa,λe=>?_⟩;have:r i=r j:=e.least (Q:=λa b=>r a=r b) (λ_=>rfl) (λ_ _ e=>e.symm) (λ_ _ _ e e'=>e.trans e') (λa b e=>Or.elim e.2.2 (hp a b e.1 e.2.1) (hq a b e.1 e.2.1));rw [this]
end Go.Proofs.YtgailjhnfghkgaaGreatDoor
end
section
namespace Go.Proofs.YtgailjhnfghkgaaGreatDoor
open Go Go.AM
set_option maxRecDepth 100000
def V2(n:Nat)(p:List Int)(r:Nat->Nat):Prop:=∀a b,a<n->b<n->p.getD a 0=p.getD b 0->r a=r b
theorem V2.up{n:Nat}{p:List Int}{r:Nat->Nat}{i j:Nat}(h:V2 n p r):V2 n p (vd r i j):=λa b ha hb e=>E6 (h a b ha hb e)
set_option maxHeartbeats 4000000 in
theorem Lj(p q:List Int)(h:gI p q):QF 116 [.ro (.ints .i64 p),.ro (.ints .i64 q)] (.new (.ints .i64 (BT p.length p q))):=fN Tryz.func116 (by decide+kernel) rfl (ah rfl) λ_=>by
 have hp:=h.2.1;have hq:=h.2.2;have gw:=hp.1
 have ZE:∀i,i<2->bz (([p,q]:List (List Int)).getD i [])/\(([p,q]:List (List Int)).getD i []).length=p.length/\∀a b,a<p.length->b<p.length->(([p,q]:List (List Int)).getD i []).getD a 0=(([p,q]:List (List Int)).getD i []).getD b 0->Sy p.length p q a b:=λi hi=>by
  match i,hi with
  |0,_=>exact⟨hp,rfl,λa b ha hb e=>⟨ha,hb,Or.inl e⟩⟩
  |1,_=>exact⟨hq,h.1.symm,λa b ha hb e=>⟨ha,hb,Or.inr e⟩⟩
 refine Or.inl (cq (yw p q) (ae rfl (ae rfl ag)) ?_);refine ae (λh1=>?_) (λ_=>?_)
 ·have h1:(!decide (gI p q))=true:=h1
  rw [aj3 h]at h1;exact absurd h1 (by decide)
 refine Or.inl (cq (G3 p.length aa) (ae rfl ag) ?_);refine af []<|BU (λ(i:Nat) (_:List Int) (_:Nat->Nat)=>[(23,.int .i64 i)]) (λ_ F _=>[(18,.vec 0 (.ints .i64 F) [])]) (λi F r=>i<=2/\Sz p.length p q F r/\∀i',i'<i->V2 p.length (([p,q]:List (List Int)).getD i' []) r) (λi _ _=>2 - i) 0 (cR p.length) id ⟨ajk _,⟨Fo.TV p.length,λa b _ _ e=>by rw [show a=b from e];exact .refl b⟩,λi h=>absurd h (aju _)⟩ ab ?_
 rintro i F r ⟨hi,hJ,hC⟩;refine ae (λh1=>?_) (λh1=>?_)
 ·have h1:(i:Int)<2:=h1
  have hP:=ZE i aa;have YM:=hP.2.1;have da:(bm (ao (([p,q]:List (List Int)).getD i [])) (([p,q]:List (List Int)).getD i [])).length=ao (([p,q]:List (List Int)).getD i []):=by simp [bm]
  have V3:ao (([p,q]:List (List Int)).getD i [])<=(([p,q]:List (List Int)).getD i []).length:=bp _;refine aj ?_;refine Or.inl (cq (Ce (([p,q]:List (List Int)).getD i []) hP.1) (ae rfl ag) ?_);refine af []<|BU (λ(c:Nat) (_:List Int) (_:Nat->Nat)=>[(30,.int .i64 c)]) (λ_ F _=>[(18,.vec 0 (.ints .i64 F) [])]) (λc F r=>c<=ao (([p,q]:List (List Int)).getD i [])/\Sz p.length p q F r/\(∀i',i'<i->V2 p.length (([p,q]:List (List Int)).getD i' []) r)/\∀c',c'<c->∀x∈(bm (ao (([p,q]:List (List Int)).getD i [])) (([p,q]:List (List Int)).getD i [])).getD c' [],r x.toNat=r (xH (([p,q]:List (List Int)).getD i []) c')) (λc _ _=>ao (([p,q]:List (List Int)).getD i []) - c) 0 F r ⟨ajk _,hJ,hC,λc h=>absurd h (aju _)⟩ ab ?_
  rintro c F r ⟨hc,hJ,hC,z7⟩;refine ae (λh2=>?_) (λh2=>?_)
  ·have h2:(c:Int)<((bm (ao (([p,q]:List (List Int)).getD i [])) (([p,q]:List (List Int)).getD i [])).length:Int):=h2
   have Lk:c<ao (([p,q]:List (List Int)).getD i []):=aa;have k:=oN hP.1.2 Lk;have kp:=G4 hP.1.2 Lk
   have adl:((bm (ao (([p,q]:List (List Int)).getD i [])) (([p,q]:List (List Int)).getD i [])).getD c []).length<=(([p,q]:List (List Int)).getD i []).length:=by
    rw [lO Lk,ajS];have:=List.length_filter_le (λi'=>decide ((([p,q]:List (List Int)).getD i []).getD i' 0=(c:Int))) (List.range (([p,q]:List (List Int)).getD i []).length);rw [List.length_range]at this;exact this
   refine aj ?_;refine af []<|BU (λ(m:Nat) (_:List Int) (_:Nat->Nat)=>[(36,.int .i64 m)]) (λ_ F _=>[(18,.vec 0 (.ints .i64 F) [])]) (λm F r=>m<=((bm (ao (([p,q]:List (List Int)).getD i [])) (([p,q]:List (List Int)).getD i [])).getD c []).length/\Sz p.length p q F r/\(∀i',i'<i->V2 p.length (([p,q]:List (List Int)).getD i' []) r)/\(∀c',c'<c->∀x∈(bm (ao (([p,q]:List (List Int)).getD i [])) (([p,q]:List (List Int)).getD i [])).getD c' [],r x.toNat=r (xH (([p,q]:List (List Int)).getD i []) c'))/\∀m',m'<m->r (((bm (ao (([p,q]:List (List Int)).getD i [])) (([p,q]:List (List Int)).getD i [])).getD c []).getD m' 0).toNat=r (xH (([p,q]:List (List Int)).getD i []) c)) (λm _ _=>((bm (ao (([p,q]:List (List Int)).getD i [])) (([p,q]:List (List Int)).getD i [])).getD c []).length - m) 0 F r ⟨ajk _,hJ,hC,z7,λm h=>absurd h (aju _)⟩ ab ?_
   rintro m F r ⟨hm,hJ,hC,z7,YN⟩;refine ae (λh3=>?_) (λh3=>?_)
   ·have h3:(m:Int)<(((bm (ao (([p,q]:List (List Int)).getD i [])) (([p,q]:List (List Int)).getD i [])).getD c []).length:Int):=h3
    have z8:m<((bm (ao (([p,q]:List (List Int)).getD i [])) (([p,q]:List (List Int)).getD i [])).getD c []).length:=aa;have hx:=(ie (p:=([p,q]:List (List Int)).getD i []) Lk).1 (al (d:=0) z8);have e1:((xH (([p,q]:List (List Int)).getD i []) c:Nat):Int)=((bm (ao (([p,q]:List (List Int)).getD i [])) (([p,q]:List (List Int)).getD i [])).getD c []).getD 0 0:=k.2.2.symm;have e2:(((((bm (ao (([p,q]:List (List Int)).getD i [])) (([p,q]:List (List Int)).getD i [])).getD c []).getD m 0).toNat:Nat):Int)=((bm (ao (([p,q]:List (List Int)).getD i [])) (([p,q]:List (List Int)).getD i [])).getD c []).getD m 0:=Int.toNat_of_nonneg hx.1;have ZF:Sy p.length p q (xH (([p,q]:List (List Int)).getD i []) c) (((bm (ao (([p,q]:List (List Int)).getD i [])) (([p,q]:List (List Int)).getD i [])).getD c []).getD m 0).toNat:=hP.2.2 _ _ aa aa (by rw [k.2.1,hx.2.2]);have funion:=yx p.length F r (xH (([p,q]:List (List Int)).getD i []) c) (((bm (ao (([p,q]:List (List Int)).getD i [])) (([p,q]:List (List Int)).getD i [])).getD c []).getD m 0).toNat hJ.1 ZF.1 ZF.2.1 aa;rw [e1,e2]at funion;refine aj ?_;refine aj ?_;refine Or.inr (Or.inl (cm [] [(1000,18)] funion ?_));refine ae ab ?_;refine aj ?_;refine nx (m+1,PA r F (xH (([p,q]:List (List Int)).getD i []) c) (((bm (ao (([p,q]:List (List Int)).getD i [])) (([p,q]:List (List Int)).getD i [])).getD c []).getD m 0).toNat,vd r (xH (([p,q]:List (List Int)).getD i []) c) (((bm (ao (([p,q]:List (List Int)).getD i [])) (([p,q]:List (List Int)).getD i [])).getD c []).getD m 0).toNat) ⟨show m+1<=_ by omega,hJ.union ZF,λi' Aa=>(hC i' Aa).up,λc' V4 x mI=>E6 (z7 c' V4 x mI),λm' YO=>?_⟩ (show((bm (ao (([p,q]:List (List Int)).getD i [])) (([p,q]:List (List Int)).getD i [])).getD c []).length - (m+1)<((bm (ao (([p,q]:List (List Int)).getD i [])) (([p,q]:List (List Int)).getD i [])).getD c []).length - m by omega) ab
    by_cases e:m'=m
    ·subst e;exact TR.symm
    ·exact E6 (YN m' aa)
   ·have h3:(((bm (ao (([p,q]:List (List Int)).getD i [])) (([p,q]:List (List Int)).getD i [])).getD c []).length:Int)<=(m:Int):=h3
    refine aj ?_;refine nx (c+1,F,r) ⟨show c+1<=_ by omega,hJ,hC,λc' V4 x hx=>?_⟩ (show ao (([p,q]:List (List Int)).getD i []) - (c+1)<ao (([p,q]:List (List Int)).getD i []) - c by omega) ab
    by_cases e:c'=c
    ·subst e
     exact Exists.elim (aS 0 hx) λm' YO=>by rw [<-YO.2];exact YN m' aa
    ·exact z7 c' aa x hx
  ·have h2:((bm (ao (([p,q]:List (List Int)).getD i [])) (([p,q]:List (List Int)).getD i [])).length:Int)<=(c:Int):=h2
   refine aj ?_;refine nx (i+1,F,r) ⟨show i+1<=2 by omega,hJ,λi' Aa=>?_⟩ (show 2 - (i+1)<2 - i by omega) ab
   by_cases e:i'=i
   ·subst e
    intro a b ha hb e5;have ki:=dx hP.1.2 (x:=a) aa;have mi:=(ie (p:=([p,q]:List (List Int)).getD i' []) ki.2.1 (x:=(a:Int))).2 ⟨aa,aa,by rw [ajr];exact ki.2.2⟩;have mj:=(ie (p:=([p,q]:List (List Int)).getD i' []) ki.2.1 (x:=(b:Int))).2 ⟨aa,aa,by rw [ajr,<-e5];exact ki.2.2⟩;have e1:=z7 _ aa _ mi;have e2:=z7 _ aa _ mj;rw [ajr]at e1 e2;rw [e1,e2]
   ·exact hC i' aa
 ·have h1:2<=(i:Int):=h1
  have ed:canon (G2 p.length r)=BT p.length p q:=hJ.done (hC 0 aa) (hC 1 aa);have hpa:=Cf p.length F r hJ.1 aa;rw [ed]at hpa;refine Or.inr (Or.inl (cm [] [(1000,18),(21,301)] hpa ?_));refine ae ab ?_;exact ae (ae aa rfl) trivial
end Go.Proofs.YtgailjhnfghkgaaGreatDoor
end
end
section
namespace Go.Proofs.YtgailjhnfghkgaaGreatDoor
open Go Go.AM
theorem Eg.map{R S:Nat->Nat->Prop}{f:Nat->Nat}(h:∀a b,R a b->Eg S (f a) (f b)){a b:Nat}(e:Eg R a b):Eg S (f a) (f b):=
 Eg.least (Q:=λa b=>Eg S (f a) (f b)) (λa=>.refl (f a)) (λ_ _ h=>h.symm) (λ_ _ _ h h'=>h.trans h') h e
section
variable{t:List (List Int)}{p q:List Int}
theorem TW(hp:ca t p 0)(hq:ca t q 0):ca t (BT t.length p q) 0:=by
 have hS:=hp.iJ.toSh;refine⟨hp.iJ,uy,⟨by rw [uy];have:=hS.most;omega,yv⟩,by decide,λx y s hx hy hs e=>?_⟩;have e:=(nU hx hy).1 e
 have step:∀{f:Nat->Nat},(∀a,a<t.length->f a<t.length)->(∀a b,a<t.length->b<t.length->p.getD a 0=p.getD b 0->p.getD (f a) 0=p.getD (f b) 0)->(∀a b,a<t.length->b<t.length->q.getD a 0=q.getD b 0->q.getD (f a) 0=q.getD (f b) 0)->Eg (Sy t.length p q) (f x) (f y):=λhf h1 h2=>
  Eg.map (λa b ⟨ha,hb,h⟩=>.rel ⟨hf a ha,hf b hb,h.imp (h1 a b ha hb) (h2 a b ha hb)⟩) e
 refine⟨λ_=>(nU (hS.bF hs hx).2 (hS.bF hs hy).2).2 ?_,λ_=>(nU (hS.bF hx hs).2 (hS.bF hy hs).2).2 ?_⟩
 ·exact step (f:=λa=>en t s a) (λa ha=>(hS.bF hs ha).2) (λa b ha hb h=>(hp.cg a b s ha hb hs h).1 (by decide)) λa b ha hb h=>(hq.cg a b s ha hb hs h).1 (by decide)
 ·exact step (f:=λa=>en t a s) (λa ha=>(hS.bF ha hs).2) (λa b ha hb h=>(hp.cg a b s ha hb hs h).2 (by decide)) λa b ha hb h=>(hq.cg a b s ha hb hs h).2 (by decide)
theorem TX(hp:ca t p 0)(hq:ca t q 0):ca t (jP p q) 0:=by
 have hS:=hp.iJ.toSh;have hm:=hp.pt.mt hq.pt;refine⟨hp.iJ,hm.1,hm.2,by decide,λx y s hx hy hs e=>?_⟩;have e:=(eA hp.pt hq.pt hx hy).1 e;exact⟨λ_=>(eA hp.pt hq.pt (hS.bF hs hx).2 (hS.bF hs hy).2).2 ⟨(hp.cg x y s hx hy hs e.1).1 (by decide),(hq.cg x y s hx hy hs e.2).1 (by decide)⟩,λ_=>(eA hp.pt hq.pt (hS.bF hx hs).2 (hS.bF hy hs).2).2 ⟨(hp.cg x y s hx hy hs e.1).2 (by decide),(hq.cg x y s hx hy hs e.2).2 (by decide)⟩⟩
theorem Ab{n x y:Nat}(hx:x<n)(hy:y<n)(e:cE (cR n) x y):x=y:=by
 unfold cE at e;rw [dM hx,dM hy]at e;omega
theorem T9{n:Nat}(hn:n<=4096):Pt n (cR n):=⟨bP n,by rw [bP];exact hn,by
 refine fE.2 λi hi=>?_;rw [bP]at hi;refine⟨by rw [dM hi];omega,?_⟩;rw [dM hi]
 have hd:((cR n).take i).Nodup:=by
  refine aj9.2 (aky.2 λa b ha hb mP=>?_);simp [cR];omega
 have:=b9 hd (B:=av ((cR n).take i)) λv hv=>aL.2 hv;rw [ajA,bP]at this;omega⟩
theorem Ua(h:Semi t):ca t (cR t.length) 0:=
 ⟨h,bP _,(T9 (by have:=h.most;omega)).2,by decide,λx y s hx hy _ e=>by
   obtain rfl:=Ab hx hy e;exact⟨λ_=>rfl,λ_=>rfl⟩⟩
def ve(p w:List Int):List Int:=p.map λc=>w.getD c.toNat 0
theorem qa(p w:List Int):(ve p w).length=p.length:=by simp [ve]
theorem nV{w:List Int}{x:Nat}(hx:x<p.length):(ve p w).getD x 0=w.getD (p.getD x 0).toNat 0:=by simp [ve,List.getD,hx]
theorem Ub{n:Nat}{w:List Int}(hp:Pt n p)(hw:Pt (ao p) w):Pt n (ve p w):=by
 have hl:(ve p w).length=n:=by rw [qa,hp.1]
 refine⟨hl,by rw [hl];have:=hp.2.1;have:=hp.1;omega,fE.2 λi hi=>?_⟩;rw [qa]at hi;have hpo:=fE.1 hp.2.2;have hwo:=fE.1 hw.2.2;have k:=dx hp.2.2 hi;have PB:=hwo (p.getD i 0).toNat (by rw [hw.1];exact k.2.1);refine⟨by rw [nV hi];exact PB.1,?_⟩;rw [nV hi];refine Int.le_trans PB.2 (Int.ofNat_le.2 (b9 (fP _) λv hv=>aL.2 ?_));obtain⟨d,hd,rfl⟩:=List.mem_take_iff_getElem.1 (aL.1 hv);have hfv:=fQ (p:=p) (i:=i) aa λj hj=>hpo j aa
 have hdm:(d:Int)∈av (p.take i):=by
  rw [hfv];refine ajU.2 ⟨d,ajJ.2 ?_,rfl⟩;have:=(hpo i hi).2;omega
 obtain⟨j,hj,Ll⟩:=List.mem_take_iff_getElem.1 (aL.1 hdm);refine List.mem_take_iff_getElem.2 ⟨j,by rw [qa];exact hj,?_⟩;have ZG:j<p.length:=aa;have e1:p.getD j 0=(d:Int):=by rw [getD_eq ZG];exact Ll
 have e2:=nV (w:=w) ZG;rw [getD_eq (by rw [qa];exact ZG),e1,ajr,getD_eq aa]at e2;exact e2
theorem nW{n:Nat}{w:List Int}(hp:Pt n p){x y:Nat}(hx:x<n)(hy:y<n):cE (ve p w) x y↔cE w (p.getD x 0).toNat (p.getD y 0).toNat:=by
 have:=hp.1;unfold cE;rw [nV aa,nV aa]
theorem Lm{w:List Int}(hp:ca t p 0)(hw:ca (dH t p) w 0):ca t (ve p w) 0:=by
 have hS:=hp.iJ.toSh;have hwp:Pt (ao p) w:=by have:=hw.pt;rw [dw]at this;exact this
 have hn:=Ub hp.pt hwp;have aX:∀x,x<t.length->(p.getD x 0).toNat<(dH t p).length:=λx hx=>by rw [dw];exact(dx hp.val.2 (by rw [hp.len];exact hx)).2.1
 refine⟨hp.iJ,hn.1,hn.2,by decide,λx y s hx hy hs e=>?_⟩;have e:=(nW hp.pt hx hy).1 e;have g:=hw.cg _ _ _ (aX x hx) (aX y hy) (aX s hs) e;have q1:=λ{a b:Nat} (ha:a<t.length) (hb:b<t.length)=>jj hS hp.len hp.val.2 hp.cg ha hb;unfold Ch at g;rw [q1 hs hx,q1 hs hy,q1 hx hs,q1 hy hs]at g;exact⟨λ_=>(nW hp.pt (hS.bF hs hx).2 (hS.bF hs hy).2).2 (g.1 (by decide)),λ_=>(nW hp.pt (hS.bF hx hs).2 (hS.bF hy hs).2).2 (g.2 (by decide))⟩
theorem Ln{w:List Int}(hp:ca t p 0)(hw:ca (dH t p) w 0)(hj:mw (dH t p).length w):ao (ve p w)<ao p:=by
 have hn:=Lm hp hw;have hs:=lN hn.val.2 hp.val.2 (by rw [hn.len,hp.len]) λx y hx hy e=>(nW hp.pt (by rw [<-hn.len];exact hx) (by rw [<-hn.len];exact hy)).2 (by unfold cE;rw [e]);refine Nat.lt_of_le_of_ne hs.1 λe=>?_;have e2:=hs.2 e;obtain⟨c,d,hc,hd,bn,h⟩:=hj;rw [dw]at hc hd;obtain⟨x,hx,rfl⟩:=qb hp.len hp.val.2 hc;obtain⟨y,hy,rfl⟩:=qb hp.len hp.val.2 hd;have h3:=(nW hp.pt hx hy).2 h;rw [<-e2]at h3;exact bn (ajs Int.toNat h3)
end
structure KL(q:List (List Int))(L:List (List (Int × Int)))(x y k:Nat)(p:List Int):Prop where
 cg:ca q p 0
 ap:¬cE p x y
 jo:mw q.length p\/IW q.length (cE p)/\∀j,j<k->cE (oA q.length (dV (L.getD j []))) x y
section
variable{q:List (List Int)}{L:List (List (Int × Int))}{x y k:Nat}{p:List Int}
theorem KL.start(h:Semi q)(hx:x<q.length)(hy:y<q.length)(bn:x≠y):KL q L x y 0 (cR q.length):=
 ⟨Ua h,λe=>bn (Ab hx hy e),.inr ⟨λ_ _ ha hb e=>Ab ha hb e,λ_ h=>absurd h (aju _)⟩⟩
theorem KL.take(h:KL q L x y k p)(hL:eu q L)(hk:k<L.length)(ha:¬cE (BT q.length p (oA q.length (dV (L.getD k [])))) x y):KL q L x y (k+1) (BT q.length p (oA q.length (dV (L.getD k [])))):=by
 have hm:=hL.mi _ (al (d:=[]) hk);obtain⟨a,b,h1,h2,h3,h4⟩:=hm.jo;exact⟨TW h.cg hm.cg,ha,.inl ⟨a,b,h1,h2,h3,(nU h1 h2).2 (.rel ⟨h1,h2,.inr h4⟩)⟩⟩
theorem KL.skip(h:KL q L x y k p)(hx:x<q.length)(hy:y<q.length)(ha:cE (BT q.length p (oA q.length (dV (L.getD k [])))) x y):KL q L x y (k+1) p:=by
 refine⟨h.cg,h.ap,h.jo.imp id λ⟨h1,h2⟩=>⟨h1,λj hj=>?_⟩⟩
 by_cases e:j=k
 ·subst e
  exact Eg.least (Q:=cE (oA q.length (dV (L.getD j [])))) (λ_=>rfl) (λ_ _ h=>h.symm) (λ_ _ _ h h'=>h.trans h') (λa b ⟨ha,hb,h⟩=>h.elim (λh=>by rw [h1 a b ha hb h];rfl) id) ((nU hx hy).1 ha)
 ·exact h2 j aa
theorem KL.done(h:KL q L x y k p)(hL:eu q L)(h2:2<=L.length)(hk:L.length<=k)(hx:x<q.length)(hy:y<q.length)(bn:x≠y):mw q.length p:=by
 rcases h.jo with h|⟨_,h⟩
 ·exact h
 ·have m0:=hL.mi _ (al (d:=[]) (show 0<L.length by omega))
  have m1:=hL.mi _ (al (d:=[]) (show 1<L.length by omega));have hM:=TX m0.cg m1.cg;have xI:=λ{a b:Nat} (ha:a<q.length) (hb:b<q.length)=>eA m0.cg.pt m1.cg.pt ha hb;have PC:mw q.length (jP (oA q.length (dV (L.getD 0 []))) (oA q.length (dV (L.getD 1 [])))):=⟨x,y,hx,hy,bn,(xI hx hy).2 ⟨h 0 aa,h 1 aa⟩⟩;have s0:=m0.mi _ hM PC λa b ha hb e=>((xI ha hb).1 e).1;have s1:=m1.mi _ hM PC λa b ha hb e=>((xI ha hb).1 e).2;have e:=sub_eq m0.cg.len m1.cg.len m0.cg.val.2 m1.cg.val.2 (λa b ha hb e=>((xI ha hb).1 (s0 a b ha hb e)).2) λa b ha hb e=>((xI ha hb).1 (s1 a b ha hb e)).1;have Pr:=aky.1 (aj9.1 hL.nd) 0 1 (by rw [ajS];omega) (by rw [ajS];omega) aa;refine absurd ?_ Pr;rw [List.getElem_map,List.getElem_map,<-getD_eq (d:=[]),<-getD_eq (d:=[])];exact e
end
end Go.Proofs.YtgailjhnfghkgaaGreatDoor
end
