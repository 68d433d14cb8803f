import Derived.Test.YtgailjhnfghkgaaGreatDoorSgpLaw
import Derived.Test.YtgailjhnfghkgaaGreatDoorAtoms
import Derived.Test.YtgailjhnfghkgaaGreatDoorMinsLaw
import Derived.Test.YtgailjhnfghkgaaGreatDoorMult
import Derived.Test.YtgailjhnfghkgaaGreatDoorCgFor
import Derived.Test.YtgailjhnfghkgaaGreatDoorCg
import Derived.Test.YtgailjhnfghkgaaGreatDoorQuoLaw
import Derived.Test.YtgailjhnfghkgaaGreatDoorCgSyn
section
namespace Go.Proofs.YtgailjhnfghkgaaGreatDoor
open Go Go.AM
set_option maxRecDepth 100000
def KH(t:List (List Int)):Prop:=Semi t/\(jP t).length=1
theorem cW.one{t:List (List Int)}{L:List (List (Int × Int))}(h:cW t L)(h1:L.length=1):(jP t).getD 0 []=nC t.length (dF (L.getD 0 [])):=by
 have hm:=an (d:=[]) (l:=jP t) (i:=0) (by rw [h.num];omega);generalize (jP t).getD 0 []=x at hm ⊢;rw [h.Vt,tO]at hm
 match L,h1 with
 |[l],_=>simpa using hm
theorem KI(t:List (List Int))(h:KH t)(ht:t.length<=60):QF 8 [.ro (.rows .i64 t)] (.cC [.new (.ints .i64 ((jP t).getD 0 [])),.bool (.lit true)]):=kr Tryz.func8 (by decide+kernel) rfl (ah rfl) λ _=>by
 obtain⟨hs,h1⟩:=h;refine Or.inl (cq (kU t) (ae rfl ag) ?_);refine ae (λ h2=>absurd (gI.2 hs) h2) (λ _=>?_);refine Or.inr (Or.inr (ce (vK t hs ht) (ae rfl ag) ?_));intro L hL;have hL:cW t L:=hL;have hn:=hL.num;refine ae (λ h2=>?_) (λ _=>?_)
 ·have h2:¬(L.length:Int)=1:=h2
  omega
 have Xo:L.getD 0 []∈L:=an (d:=[]) aa;have j9:=hL.UG _ Xo;refine ae (show 0<=(0:Int)/\(0:Int)<(L.length:Int) by omega) ?_;refine Or.inl (cq (yj t.length aa (L.getD 0 []) λ x hx=>⟨(j9 x hx).1.1,(j9 x hx).1.2,(j9 x hx).2.1,(j9 x hx).2.2⟩) (ae rfl (ae rfl ag)) ?_);have e:canon (EP t.length (IC id (L.getD 0 [])))=(jP t).getD 0 []:=by rw [yn j9,hL.one aa]
 refine ae (ae ?_ (congrArg (RO.ints .i64) e)) (ae rfl ag)
 rfl
theorem KK(t:List (List Int))(h:¬KH t)(ht:Semi t->t.length<=60):QF 8 [.ro (.rows .i64 t)] (.cC [.ao,.bool (.lit false)]):=kr Tryz.func8 (by decide+kernel) rfl (ah rfl) λ _=>by
 refine Or.inl (cq (kU t) (ae rfl ag) ?_);refine ae (λ _=>?_) (λ h2=>?_)
 ·exact ae trivial (ae rfl ag)
 have hs:=gI.1 h2;refine Or.inr (Or.inr (ce (vK t hs (ht hs)) (ae rfl ag) ?_));intro L hL;have hL:cW t L:=hL;have hn:=hL.num;refine ae (λ _=>?_) (λ h3=>?_)
 ·exact ae trivial (ae rfl ag)
 ·have h3:(L.length:Int)=1:=h3
  exact absurd ⟨hs,aa⟩ h
structure ZT(t:List (List Int))(l:List (List Int)):Prop where
 kP:Semi t
 tJ:l.length<t.length
 cg:∀p∈l,cd t p 0
 meet:ak (oe t.length l)=t.length
 red:(dz t.length (List.replicate t.length 0) l).length=l.length
 TT:∀p∈l,(jP (eU t p)).length=1
theorem cd.pt{t:List (List Int)}{p:List Int}(h:cd t p 0):Pt t.length p:=⟨h.len,h.val⟩
theorem cd.quo{t:List (List Int)}{p:List Int}(h:cd t p 0):Semi (eU t p):=JZ h.kP h.len h.val.2 h.cg
theorem cd.TV{t:List (List Int)}{p:List Int}(h:cd t p 0):(eU t p).length<=t.length:=by rw [cL,<-h.len];exact aZ _
end Go.Proofs.YtgailjhnfghkgaaGreatDoor
end
section
namespace Go.Proofs.YtgailjhnfghkgaaGreatDoor
open Go Go.AM
def Jn(n:Nat)(R:Nat->Nat->Prop):Prop:=∀x y,x<n->y<n->R x y->x=y
def cA(p:List Int)(x y:Nat):Prop:=p.getD x 0=p.getD y 0
theorem dY{n:Nat}{p q:List Int}(hp:Pt n p)(hq:Pt n q){x y:Nat}(hx:x<n)(hy:y<n):cA (jE p q) x y↔cA p x y/\cA q x y:=by
 have hz:(p.zip q).length=n:=by simp [hp.1,hq.1]
 have zg:∀i,i<n->(p.zip q).getD i (0,0)=(p.getD i 0,q.getD i 0):=λ i hi=>by
  have:=hp.1;have:=hq.1;rw [getD_eq aa,getD_eq aa,getD_eq aa];simp
 unfold cA jE;rw [eJ (d:=(0,0)) aa aa,zg x hx,zg y hy]
 constructor
 ·intro h
  injection h with h1 h2
  exact⟨h1,h2⟩
 ·rintro⟨h1,h2⟩;rw [h1,h2]
theorem lg(n x y:Nat):cA (List.replicate n 0) x y:=by unfold cA;rw [e7,e7]
theorem qV{n:Nat}(hn:n<=4096){x y:Nat}(hx:x<n)(hy:y<n):∀{l:List (List Int)},(∀p∈l,Pt n p)->(cA (oe n l) x y↔∀p∈l,cA p x y)
 |[],_=>⟨λ _ _ h=>absurd h List.not_mem_nil,λ _=>lg n x y⟩
 |q::l,h=>by
  have ih:=qV hn hx hy (l:=l) λ p hp=>h p (List.mem_cons_of_mem _ hp);have e:=dY (h q (List.mem_cons_self ..)) (Pt.oe hn λ p hp=>h p (List.mem_cons_of_mem _ hp)) hx hy (q:=oe n l);show cA (jE q (oe n l)) x y↔_;rw [e,ih];exact⟨λ⟨h1,h2⟩ p hp=>(List.mem_cons.1 hp).elim (λ e=>e▸h1) (h2 p),λ h=>⟨h q (List.mem_cons_self ..),λ p hp=>h p (List.mem_cons_of_mem _ hp)⟩⟩
theorem cO{n:Nat}{p:List Int}(hp:Pt n p):ak p=n↔Jn n (cA p):=by
 constructor
 ·intro hc a b ha hb e
  refine Classical.byContradiction λ bm=>?_;have h1:=Gy (P:=λ _=>true) (M:=b) (n:=n) hb rfl
  have h2:=cv (eO p) (B:=((List.range n).filter λ i=>true&&decide (i≠b)).map λ i=>p.getD i 0) λ x hx=>by
   obtain⟨j,hj,rfl⟩:=aV 0 (aE.1 hx);have hj:j<n:=by rw [<-hp.1];exact hj
   by_cases e1:j=b
   ·exact List.mem_map.2 ⟨a,List.mem_filter.2 ⟨List.mem_range.2 ha,by simp [bm]⟩,by rw [e1];exact e⟩
   ·exact List.mem_map.2 ⟨j,List.mem_filter.2 ⟨List.mem_range.2 hj,by simp [e1]⟩,rfl⟩
  rw [List.length_map]at h2;have h3:((List.range n).filter λ _=>true).length=n:=by rw [List.filter_eq_self.2 (λ _ _=>rfl),List.length_range]
  unfold ak at hc;omega
 ·intro h
  have hd:p.Nodup:=List.nodup_iff_pairwise_ne.2 (List.pairwise_iff_getElem.2 λ i j hi hj mo e=>by
   have:=h i j (by rw [<-hp.1];exact hi) (by rw [<-hp.1];exact hj) (by unfold cA;rw [getD_eq hi,getD_eq hj];exact e);omega)
  have h1:=cv hd (B:=ar p) λ x hx=>aE.2 hx;have h2:ak p<=p.length:=aZ p;have h3:=hp.1;unfold ak at*;omega
def D3(n:Nat)(l:List (List Int))(but:Int):Nat->List Int
 |0=>List.replicate n 0
 |k+1=>if (k:Int)≠but then jE (D3 n l but k) (l.getD k []) else D3 n l but k
theorem jC{n:Nat}{l:List (List Int)}{but:Int}(hn:n<=4096)(hp:∀p∈l,Pt n p):∀{k:Nat},k<=l.length->Pt n (D3 n l but k)
 |0,_=>Pt.Cn hn
 |k+1,h=>by
  unfold D3;split
  ·exact(jC hn hp aa).mt (hp _ (an (d:=[]) aa))
  ·exact jC hn hp aa
theorem fj{n:Nat}{l:List (List Int)}{but:Int}(hn:n<=4096)(hp:∀p∈l,Pt n p){x y:Nat}(hx:x<n)(hy:y<n):∀{k:Nat},k<=l.length->(cA (D3 n l but k) x y↔∀j,j<k->(j:Int)≠but->cA (l.getD j []) x y)
 |0,_=>⟨λ _ j h=>absurd h (Nat.not_lt_zero _),λ _=>lg n x y⟩
 |k+1,h=>by
  have ih:=fj (but:=but) hn hp hx hy (k:=k) aa;unfold D3;split
  ·rename_i hb
   rw [dY (jC hn hp aa) (hp _ (an (d:=[]) aa)) hx hy,ih];refine⟨λ⟨h1,h2⟩ j hj zD=>?_,λ h=>⟨λ j hj=>h j aa,h k aa hb⟩⟩
   by_cases e:j=k
   ·subst e;exact h2
   ·exact h1 j aa zD
  ·rename_i hb
   rw [ih];refine⟨λ h j hj zD=>?_,λ h j hj=>h j aa⟩
   by_cases e:j=k
   ·subst e;exact absurd zD hb
   ·exact h j aa zD
theorem A5(n:Nat):∀(l:List (List Int)) (b:List Int),(dz n b l).length<=l.length
 |[],_=>Nat.le_refl _
 |p::l,b=>by
  unfold dz;split
  ·exact Nat.le_trans (A5 n l b) (by simp)
  ·simp only [List.length_cons];exact Nat.succ_le_succ (A5 n l _)
theorem DB(n:Nat):∀(l:List (List Int)) (b:List Int),(dz n b l).length=l.length↔∀i,i<l.length->ak (jE ((l.take i).foldl jE b) (oe n (l.drop (i+1))))≠n
 |[],_=>⟨λ _ i h=>absurd h (Nat.not_lt_zero _),λ _=>rfl⟩
 |p::l,b=>by
  unfold dz;split
  ·rename_i h
   constructor
   ·intro e
    have:=A5 n l b;simp only [List.length_cons]at e;omega
   ·intro e
    exact absurd h (e 0 (by simp))
  ·rename_i h
   have ih:=DB n l (jE b p);simp only [List.length_cons]
   constructor
   ·intro e i hi
    cases i with
    |zero=>exact h
    |succ i=>exact ih.1 aa i aa
   ·intro e
    rw [ih.2 λ i hi=>e (i+1) aa]
theorem HB{n:Nat}:∀{l:List (List Int)} {b:List Int},(∀p∈l,Pt n p)->Pt n b->Pt n (l.foldl jE b)
 |[],_,_,hb=>hb
 |p::l,b,h,hb=>HB (l:=l) (b:=jE b p) (λ q hq=>h q (List.mem_cons_of_mem _ hq)) (hb.mt (h p (List.mem_cons_self ..)))
theorem DC{n:Nat}{x y:Nat}(hx:x<n)(hy:y<n):∀{l:List (List Int)} {b:List Int},(∀p∈l,Pt n p)->Pt n b->(cA (l.foldl jE b) x y↔cA b x y/\∀p∈l,cA p x y)
 |[],_,_,_=>⟨λ h=>⟨h,λ _ h=>absurd h List.not_mem_nil⟩,λ h=>h.1⟩
 |p::l,b,h,hb=>by
  have h1:=h p (List.mem_cons_self ..);have ih:=DC hx hy (l:=l) (b:=jE b p) (λ q hq=>h q (List.mem_cons_of_mem _ hq)) (hb.mt h1);rw [List.foldl_cons,ih,dY hb h1 hx hy];exact⟨λ⟨⟨h1,h2⟩,h3⟩=>⟨h1,λ q hq=>(List.mem_cons.1 hq).elim (λ e=>e▸h2) (h3 q)⟩,λ⟨h1,h2⟩=>⟨⟨h1,h2 p (List.mem_cons_self ..)⟩,λ q hq=>h2 q (List.mem_cons_of_mem _ hq)⟩⟩
theorem QE{l:List (List Int)}{i:Nat}(hi:i<l.length){P:List Int->Prop}:((∀p∈l.take i,P p)/\∀p∈l.drop (i+1),P p)↔∀j,j<l.length->(j:Int)≠(i:Int)->P (l.getD j []):=by
 constructor
 ·rintro⟨h1,h2⟩ j hj bm
  by_cases e:j<i
  ·refine h1 _ ?_
   rw [getD_eq hj];exact List.mem_take_iff_getElem.2 ⟨j,aa,rfl⟩
  ·refine h2 _ ?_
   rw [getD_eq hj];exact List.mem_drop_iff_getElem.2 ⟨j - (i+1),aa,by congr 1;omega⟩
 ·intro h
  refine⟨λ p hp=>?_,λ p hp=>?_⟩
  ·obtain⟨j,hj,rfl⟩:=List.mem_take_iff_getElem.1 hp
   rw [<-getD_eq (d:=[]) aa];exact h j aa aa
  ·obtain⟨j,hj,rfl⟩:=List.mem_drop_iff_getElem.1 hp
   rw [<-getD_eq (d:=[]) aa];exact h _ aa aa
theorem AY{n:Nat}{l:List (List Int)}(hn:n<=4096)(hp:∀p∈l,Pt n p):(dz n (List.replicate n 0) l).length=l.length↔∀i,i<l.length->ak (D3 n l i l.length)≠n:=by
 rw [DB];refine forall_congr' λ i=>forall_congr' λ hi=>not_congr ?_;have ht:∀p∈l.take i,Pt n p:=λ p h=>hp p (List.mem_of_mem_take h);have hd:∀p∈l.drop (i+1),Pt n p:=λ p h=>hp p (List.mem_of_mem_drop h);have hf:=HB ht (Pt.Cn hn);rw [cO (hf.mt (Pt.oe hn hd)),cO (jC hn hp (Nat.le_refl _))];refine forall_congr' λ x=>forall_congr' λ y=>forall_congr' λ hx=>forall_congr' λ hy=>?_;rw [dY hf (Pt.oe hn hd) hx hy,DC hx hy ht (Pt.Cn hn),qV hn hx hy hd,fj hn hp hx hy (Nat.le_refl _),<-QE hi (P:=λ p=>cA p x y)];exact⟨λ h a=>h ⟨⟨lg n x y,a.1⟩,a.2⟩,λ h a=>h ⟨a.1.2,a.2⟩⟩
theorem wO{n:Nat}{l:List (List Int)}(hn:n<=4096)(hp:∀p∈l,Pt n p):ak (oe n l)=n↔ak (D3 n l (-1) l.length)=n:=by
 rw [cO (Pt.oe hn hp),cO (jC hn hp (Nat.le_refl _))];refine forall_congr' λ x=>forall_congr' λ y=>forall_congr' λ hx=>forall_congr' λ hy=>?_;rw [qV hn hx hy hp,fj hn hp hx hy (Nat.le_refl _)];refine⟨λ h a=>h λ p hp=>?_,λ h a=>h λ j hj _=>a _ (an (d:=[]) hj)⟩;obtain⟨j,hj,rfl⟩:=aV [] hp;exact a j hj aa
theorem Uk{n:Nat}{l:List (List Int)}(h0:0<n)(hn:n<=4096)(hp:∀p∈l,Pt n p)(hm:ak (D3 n l (-1) l.length)=n)(hr:∀i,i<l.length->ak (D3 n l i l.length)≠n):l.length<n:=by
 have key:∀k,k<=l.length->k+1<=ak (D3 n l (-1) k):=λ k=>by
  induction k with
  |zero=>
   intro _;show 1<=ak (List.replicate n (0:Int));have:(0:Int)∈ar (List.replicate n (0:Int)):=aE.2 (by simp;omega);exact List.length_pos_of_mem this
  |succ k ih=>
   intro hk;have ih:=ih aa;have hP:=jC (but:= -1) hn hp (k:=k) aa;have hP2:=jC (but:= -1) hn hp (k:=k+1) hk
   have hs:=jk hP.2.2 hP2.2.2 (by rw [hP.1,hP2.1]) λ x y hx hy e=>by
    have hx:x<n:=by rw [<-hP.1];exact hx
    have hy:y<n:=by rw [<-hP.1];exact hy
    exact(fj hn hp hx hy aa).2 λ j hj hb=>(fj hn hp hx hy hk).1 e j aa hb
   have bm:ak (D3 n l (-1) k)≠ak (D3 n l (-1) (k+1)):=λ e=>by
    have e2:=hs.2 e;refine hr k aa ((cO (jC hn hp (Nat.le_refl _))).2 λ x y hx hy h=>(cO (jC hn hp (Nat.le_refl _))).1 hm x y hx hy ?_);have h:=(fj hn hp hx hy (Nat.le_refl _)).1 h;refine(fj hn hp hx hy (Nat.le_refl _)).2 λ j hj hb=>?_
    by_cases ej:j=k
    ·subst ej
     have h3:cA (D3 n l (-1) j) x y:=(fj hn hp hx hy aa).2 λ i hi _=>h i aa aa;rw [<-e2]at h3;exact(fj hn hp hx hy hk).1 h3 j aa hb
    ·exact h j hj aa
   omega
 have:=key l.length (Nat.le_refl _);omega
structure Z4(t:List (List Int))(l:List (List Int)):Prop where
 kP:Semi t
 cg:∀p∈l,cd t p 0
 TT:∀p∈l,KH (eU t p)
 meet:ak (D3 t.length l (-1) l.length)=t.length
 red:∀i,i<l.length->ak (D3 t.length l i l.length)≠t.length
theorem AX{t l:List (List Int)}:ZT t l↔Z4 t l:=by
 constructor
 ·intro h
  have hn:=h.kP.most;have hp:∀p∈l,Pt t.length p:=λ p hp=>(h.cg p hp).pt;exact⟨h.kP,h.cg,λ p hp=>⟨(h.cg p hp).quo,h.TT p hp⟩,(wO aa hp).1 h.meet,(AY aa hp).1 h.red⟩
 ·intro h
  have hn:=h.kP.most;have h0:=h.kP.pos;have hp:∀p∈l,Pt t.length p:=λ p hp=>(h.cg p hp).pt;exact⟨h.kP,Uk h0 aa hp h.meet h.red,h.cg,(wO aa hp).2 h.meet,(AY aa hp).2 h.red,λ p hp=>(h.TT p hp).2⟩
end Go.Proofs.YtgailjhnfghkgaaGreatDoor
end
section
section
namespace Go.Proofs.YtgailjhnfghkgaaGreatDoor
theorem FH{r:Nat->Nat}{i j a b:Nat}(e:r a=r b):vE r i j a=vE r i j b:=by unfold vE;rw [e]
theorem Ul{r:Nat->Nat}{i j:Nat}:vE r i j i=vE r i j j:=by
 unfold vE;split<;>split<;>omega
theorem Um{n:Nat}{R:Nat->Nat->Prop}{r:Nat->Nat}{i j:Nat}(h:∀a b,a<n->b<n->r a=r b->Eg R a b)(hi:i<n)(hj:j<n)(e:Eg R i j):∀a b,a<n->b<n->vE r i j a=vE r i j b->Eg R a b:=by
 intro a b ha hb e2;have key:∀k,k<n->r k=r i\/r k=r j->Eg R k i:=λ k hk e3=>Or.elim e3 (λ e4=>h k i hk hi e4) λ e4=>(h k j hk hj e4).trans e.symm;unfold vE at e2
 by_cases e3:r a=max (r i) (r j)<;>by_cases e4:r b=max (r i) (r j)
 ·exact h a b ha hb aa
 ·rw [if_pos e3,if_neg e4]at e2
  exact(key a ha aa).trans (key b hb aa).symm
 ·rw [if_neg e3,if_pos e4]at e2
  exact(key a ha aa).trans (key b hb aa).symm
 ·rw [if_neg e3,if_neg e4]at e2
  exact h a b ha hb e2
def RY(n:Nat)(p q:List Int)(a b:Nat):Prop:=a<n/\b<n/\(p.getD a 0=p.getD b 0\/q.getD a 0=q.getD b 0)
def RZ(n:Nat)(p q F:List Int)(r:Nat->Nat):Prop:=Fo n F r/\∀a b,a<n->b<n->r a=r b->Eg (RY n p q) a b
theorem RZ.union{n:Nat}{p q F:List Int}{r:Nat->Nat}{i j:Nat}(h:RZ n p q F r)(e:RY n p q i j):RZ n p q (Pr r F i j) (vE r i j):=
 ⟨h.1.union e.1 e.2.1,Um h.2 e.1 e.2.1 (.rel e)⟩
noncomputable def Ya(n:Nat)(p q:List Int)(a b:Nat):Bool:=@decide (Eg (RY n p q) a b) (Classical.propDecidable _)
theorem lk{n:Nat}{p q:List Int}{a b:Nat}:Ya n p q a b=true↔Eg (RY n p q) a b:=by unfold Ya;exact @decide_eq_true_iff _ (Classical.propDecidable _)
noncomputable def Bj(n:Nat)(p q:List Int):List Int:=tB n (Ya n p q)
theorem Un(n:Nat)(p q:List Int):S6 n (Ya n p q):=
 EI (λ x _=>lk.2 (.refl x)) λ _ _ _ _ _ _ h h'=>lk.2 ((lk.1 h).trans (lk.1 h'))
theorem ux{n:Nat}{p q:List Int}:(Bj n p q).length=n:=qg _ _
theorem y7{n:Nat}{p q:List Int}:canon (Bj n p q)=Bj n p q:=fq _
theorem nZ{n:Nat}{p q:List Int}{a b:Nat}(ha:a<n)(hb:b<n):(Bj n p q).getD a 0=(Bj n p q).getD b 0↔Eg (RY n p q) a b:=by
 unfold Bj;rw [qi (Un n p q) ha hb,lk,lk];exact⟨λ h=>h.1,λ h=>⟨h,h.symm⟩⟩
theorem RZ.done{n:Nat}{p q F:List Int}{r:Nat->Nat}(h:RZ n p q F r)(hp:∀a b,a<n->b<n->p.getD a 0=p.getD b 0->r a=r b)(hq:∀a b,a<n->b<n->q.getD a 0=q.getD b 0->r a=r b):canon (EP n r)=Bj n p q:=by
 rw [<-y7];refine gZ (d:=0) (e:=0) (by rw [qm,ux]) λ i j hi hj=>?_;rw [qm]at hi hj;rw [qn hi,qn hj,nZ hi hj];refine⟨λ e=>h.2 i j hi hj aa,λ e=>?_⟩;have:r i=r j:=e.least (Q:=λ a b=>r a=r b) (λ _=>rfl) (λ _ _ e=>e.symm) (λ _ _ _ e e'=>e.trans e') (λ a b e=>Or.elim e.2.2 (hp a b e.1 e.2.1) (hq a b e.1 e.2.1));rw [this]
end Go.Proofs.YtgailjhnfghkgaaGreatDoor
end
section
namespace Go.Proofs.YtgailjhnfghkgaaGreatDoor
open Go Go.AM
set_option maxRecDepth 100000
def Vh(n:Nat)(p:List Int)(r:Nat->Nat):Prop:=∀a b,a<n->b<n->p.getD a 0=p.getD b 0->r a=r b
theorem Vh.up{n:Nat}{p:List Int}{r:Nat->Nat}{i j:Nat}(h:Vh n p r):Vh n p (vE r i j):=λ a b ha hb e=>FH (h a b ha hb e)
set_option maxHeartbeats 4000000 in
theorem Nx(p q:List Int)(h:gH p q):QF 116 [.ro (.ints .i64 p),.ro (.ints .i64 q)] (.new (.ints .i64 (Bj p.length p q))):=kr Tryz.func116 (by decide+kernel) rfl (ah rfl) λ _=>by
 have hp:=h.2.1;have hq:=h.2.2;have gb:=hp.1
 have Y1:∀i,i<2->bp (([p,q]:List (List Int)).getD i [])/\(([p,q]:List (List Int)).getD i []).length=p.length/\∀a b,a<p.length->b<p.length->(([p,q]:List (List Int)).getD i []).getD a 0=(([p,q]:List (List Int)).getD i []).getD b 0->RY p.length p q a b:=λ i hi=>by
  match i,hi with
  |0,_=>exact⟨hp,rfl,λ a b ha hb e=>⟨ha,hb,Or.inl e⟩⟩
  |1,_=>exact⟨hq,h.1.symm,λ a b ha hb e=>⟨ha,hb,Or.inr e⟩⟩
 refine Or.inl (cq (yq p q) (ae rfl (ae rfl ag)) ?_);refine ae (λ h1=>?_) (λ _=>?_)
 ·have h1:(!decide (gH p q))=true:=h1
  rw [decide_eq_true h]at h1;exact absurd h1 (by decide)
 refine Or.inl (cq (Gx p.length aa) (ae rfl ag) ?_);refine af []<|A9 (λ(i:Nat) (_:List Int) (_:Nat->Nat)=>[(23,.int .i64 i)]) (λ _ F _=>[(18,.vec 0 (.ints .i64 F) [])]) (λ i F r=>i<=2/\RZ p.length p q F r/\∀i',i'<i->Vh p.length (([p,q]:List (List Int)).getD i' []) r) (λ i _ _=>2 - i) 0 (cV p.length) id ⟨Nat.zero_le _,⟨Fo.Sp p.length,λ a b _ _ e=>by rw [show a=b from e];exact .refl b⟩,λ i h=>absurd h (Nat.not_lt_zero _)⟩ ab ?_
 rintro i F r ⟨hi,hJ,hC⟩;refine ae (λ h1=>?_) (λ h1=>?_)
 ·have h1:(i:Int)<2:=h1
  have hP:=Y1 i aa;have X9:=hP.2.1;have da:(bh (ak (([p,q]:List (List Int)).getD i [])) (([p,q]:List (List Int)).getD i [])).length=ak (([p,q]:List (List Int)).getD i []):=by simp [bh]
  have UU:ak (([p,q]:List (List Int)).getD i [])<=(([p,q]:List (List Int)).getD i []).length:=aZ _;refine ae aa ?_;refine Or.inl (cq (Cu (([p,q]:List (List Int)).getD i []) hP.1) (ae rfl ag) ?_);refine af []<|A9 (λ(c:Nat) (_:List Int) (_:Nat->Nat)=>[(30,.int .i64 c)]) (λ _ F _=>[(18,.vec 0 (.ints .i64 F) [])]) (λ c F r=>c<=ak (([p,q]:List (List Int)).getD i [])/\RZ p.length p q F r/\(∀i',i'<i->Vh p.length (([p,q]:List (List Int)).getD i' []) r)/\∀c',c'<c->∀x∈(bh (ak (([p,q]:List (List Int)).getD i [])) (([p,q]:List (List Int)).getD i [])).getD c' [],r x.toNat=r (uz (([p,q]:List (List Int)).getD i []) c')) (λ c _ _=>ak (([p,q]:List (List Int)).getD i []) - c) 0 F r ⟨Nat.zero_le _,hJ,hC,λ c h=>absurd h (Nat.not_lt_zero _)⟩ ab ?_
  rintro c F r ⟨hc,hJ,hC,zt⟩;refine ae (λ h2=>?_) (λ h2=>?_)
  ·have h2:(c:Int)<((bh (ak (([p,q]:List (List Int)).getD i [])) (([p,q]:List (List Int)).getD i [])).length:Int):=h2
   have LA:c<ak (([p,q]:List (List Int)).getD i []):=aa;have k:=mC hP.1.2 LA;have kp:=FU hP.1.2 LA
   have ad6:((bh (ak (([p,q]:List (List Int)).getD i [])) (([p,q]:List (List Int)).getD i [])).getD c []).length<=(([p,q]:List (List Int)).getD i []).length:=by
    rw [lP LA,List.length_map];have:=List.length_filter_le (λ i'=>decide ((([p,q]:List (List Int)).getD i []).getD i' 0=(c:Int))) (List.range (([p,q]:List (List Int)).getD i []).length);rw [List.length_range]at this;exact this
   refine ae aa ?_;refine af []<|A9 (λ(m:Nat) (_:List Int) (_:Nat->Nat)=>[(36,.int .i64 m)]) (λ _ F _=>[(18,.vec 0 (.ints .i64 F) [])]) (λ m F r=>m<=((bh (ak (([p,q]:List (List Int)).getD i [])) (([p,q]:List (List Int)).getD i [])).getD c []).length/\RZ p.length p q F r/\(∀i',i'<i->Vh p.length (([p,q]:List (List Int)).getD i' []) r)/\(∀c',c'<c->∀x∈(bh (ak (([p,q]:List (List Int)).getD i [])) (([p,q]:List (List Int)).getD i [])).getD c' [],r x.toNat=r (uz (([p,q]:List (List Int)).getD i []) c'))/\∀m',m'<m->r (((bh (ak (([p,q]:List (List Int)).getD i [])) (([p,q]:List (List Int)).getD i [])).getD c []).getD m' 0).toNat=r (uz (([p,q]:List (List Int)).getD i []) c)) (λ m _ _=>((bh (ak (([p,q]:List (List Int)).getD i [])) (([p,q]:List (List Int)).getD i [])).getD c []).length - m) 0 F r ⟨Nat.zero_le _,hJ,hC,zt,λ m h=>absurd h (Nat.not_lt_zero _)⟩ ab ?_
   rintro m F r ⟨hm,hJ,hC,zt,XL⟩;refine ae (λ h3=>?_) (λ h3=>?_)
   ·have h3:(m:Int)<(((bh (ak (([p,q]:List (List Int)).getD i [])) (([p,q]:List (List Int)).getD i [])).getD c []).length:Int):=h3
    have ze:m<((bh (ak (([p,q]:List (List Int)).getD i [])) (([p,q]:List (List Int)).getD i [])).getD c []).length:=aa;have hx:=(gP (p:=([p,q]:List (List Int)).getD i []) LA).1 (an (d:=0) ze);have e1:((uz (([p,q]:List (List Int)).getD i []) c:Nat):Int)=((bh (ak (([p,q]:List (List Int)).getD i [])) (([p,q]:List (List Int)).getD i [])).getD c []).getD 0 0:=k.2.2.symm;have e2:(((((bh (ak (([p,q]:List (List Int)).getD i [])) (([p,q]:List (List Int)).getD i [])).getD c []).getD m 0).toNat:Nat):Int)=((bh (ak (([p,q]:List (List Int)).getD i [])) (([p,q]:List (List Int)).getD i [])).getD c []).getD m 0:=Int.toNat_of_nonneg hx.1;have WY:RY p.length p q (uz (([p,q]:List (List Int)).getD i []) c) (((bh (ak (([p,q]:List (List Int)).getD i [])) (([p,q]:List (List Int)).getD i [])).getD c []).getD m 0).toNat:=hP.2.2 _ _ aa aa (by rw [k.2.1,hx.2.2]);have funion:=yg p.length F r (uz (([p,q]:List (List Int)).getD i []) c) (((bh (ak (([p,q]:List (List Int)).getD i [])) (([p,q]:List (List Int)).getD i [])).getD c []).getD m 0).toNat hJ.1 WY.1 WY.2.1 aa;rw [e1,e2]at funion;refine ae aa ?_;refine ae aa ?_;refine Or.inr (Or.inl (cm [] [(1000,18)] funion ?_));refine ae ab ?_;refine ae aa ?_;refine nx (m+1,Pr r F (uz (([p,q]:List (List Int)).getD i []) c) (((bh (ak (([p,q]:List (List Int)).getD i [])) (([p,q]:List (List Int)).getD i [])).getD c []).getD m 0).toNat,vE r (uz (([p,q]:List (List Int)).getD i []) c) (((bh (ak (([p,q]:List (List Int)).getD i [])) (([p,q]:List (List Int)).getD i [])).getD c []).getD m 0).toNat) ⟨show m+1<=_ by omega,hJ.union WY,λ i' zm=>(hC i' zm).up,λ c' Ve x mA=>FH (zt c' Ve x mA),λ m' Xm=>?_⟩ (show((bh (ak (([p,q]:List (List Int)).getD i [])) (([p,q]:List (List Int)).getD i [])).getD c []).length - (m+1)<((bh (ak (([p,q]:List (List Int)).getD i [])) (([p,q]:List (List Int)).getD i [])).getD c []).length - m by omega) ab
    by_cases e:m'=m
    ·subst e;exact Ul.symm
    ·exact FH (XL m' aa)
   ·have h3:(((bh (ak (([p,q]:List (List Int)).getD i [])) (([p,q]:List (List Int)).getD i [])).getD c []).length:Int)<=(m:Int):=h3
    refine ae aa ?_;refine nx (c+1,F,r) ⟨show c+1<=_ by omega,hJ,hC,λ c' Ve x hx=>?_⟩ (show ak (([p,q]:List (List Int)).getD i []) - (c+1)<ak (([p,q]:List (List Int)).getD i []) - c by omega) ab
    by_cases e:c'=c
    ·subst e
     exact Exists.elim (aV 0 hx) λ m' Xm=>by rw [<-Xm.2];exact XL m' aa
    ·exact zt c' aa x hx
  ·have h2:((bh (ak (([p,q]:List (List Int)).getD i [])) (([p,q]:List (List Int)).getD i [])).length:Int)<=(c:Int):=h2
   refine ae aa ?_;refine nx (i+1,F,r) ⟨show i+1<=2 by omega,hJ,λ i' zm=>?_⟩ (show 2 - (i+1)<2 - i by omega) ab
   by_cases e:i'=i
   ·subst e
    intro a b ha hb e5;have ki:=dj hP.1.2 (x:=a) aa;have mi:=(gP (p:=([p,q]:List (List Int)).getD i' []) ki.2.1 (x:=(a:Int))).2 ⟨aa,aa,by rw [Int.toNat_natCast];exact ki.2.2⟩;have mj:=(gP (p:=([p,q]:List (List Int)).getD i' []) ki.2.1 (x:=(b:Int))).2 ⟨aa,aa,by rw [Int.toNat_natCast,<-e5];exact ki.2.2⟩;have e1:=zt _ aa _ mi;have e2:=zt _ aa _ mj;rw [Int.toNat_natCast]at e1 e2;rw [e1,e2]
   ·exact hC i' aa
 ·have h1:2<=(i:Int):=h1
  have ed:canon (EP p.length r)=Bj p.length p q:=hJ.done (hC 0 aa) (hC 1 aa);have hpa:=Cq p.length F r hJ.1 aa;rw [ed]at hpa;refine Or.inr (Or.inl (cm [] [(1000,18),(21,301)] hpa ?_));refine ae ab ?_;exact ae (ae aa rfl) trivial
end Go.Proofs.YtgailjhnfghkgaaGreatDoor
end
end
section
namespace Go.Proofs.YtgailjhnfghkgaaGreatDoor
open Go Go.AM
theorem Eg.map{R S:Nat->Nat->Prop}{f:Nat->Nat}(h:∀a b,R a b->Eg S (f a) (f b)){a b:Nat}(e:Eg R a b):Eg S (f a) (f b):=
 Eg.least (Q:=λ a b=>Eg S (f a) (f b)) (λ a=>.refl (f a)) (λ _ _ h=>h.symm) (λ _ _ _ h h'=>h.trans h') h e
section
variable{t:List (List Int)}{p q:List Int}
theorem Uo(hp:cd t p 0)(hq:cd t q 0):cd t (Bj t.length p q) 0:=by
 have hS:=hp.kP.toSh;refine⟨hp.kP,ux,⟨by rw [ux];have:=hS.most;omega,y7⟩,by decide,λ x y s hx hy hs e=>?_⟩;have e:=(nZ hx hy).1 e
 have step:∀{f:Nat->Nat},(∀a,a<t.length->f a<t.length)->(∀a b,a<t.length->b<t.length->p.getD a 0=p.getD b 0->p.getD (f a) 0=p.getD (f b) 0)->(∀a b,a<t.length->b<t.length->q.getD a 0=q.getD b 0->q.getD (f a) 0=q.getD (f b) 0)->Eg (RY t.length p q) (f x) (f y):=λ hf h1 h2=>
  Eg.map (λ a b ⟨ha,hb,h⟩=>.rel ⟨hf a ha,hf b hb,h.imp (h1 a b ha hb) (h2 a b ha hb)⟩) e
 refine⟨λ _=>(nZ (hS.bA hs hx).2 (hS.bA hs hy).2).2 ?_,λ _=>(nZ (hS.bA hx hs).2 (hS.bA hy hs).2).2 ?_⟩
 ·exact step (f:=λ a=>en t s a) (λ a ha=>(hS.bA hs ha).2) (λ a b ha hb h=>(hp.cg a b s ha hb hs h).1 (by decide)) λ a b ha hb h=>(hq.cg a b s ha hb hs h).1 (by decide)
 ·exact step (f:=λ a=>en t a s) (λ a ha=>(hS.bA ha hs).2) (λ a b ha hb h=>(hp.cg a b s ha hb hs h).2 (by decide)) λ a b ha hb h=>(hq.cg a b s ha hb hs h).2 (by decide)
theorem Up(hp:cd t p 0)(hq:cd t q 0):cd t (jE p q) 0:=by
 have hS:=hp.kP.toSh;have hm:=hp.pt.mt hq.pt;refine⟨hp.kP,hm.1,hm.2,by decide,λ x y s hx hy hs e=>?_⟩;have e:=(dY hp.pt hq.pt hx hy).1 e;exact⟨λ _=>(dY hp.pt hq.pt (hS.bA hs hx).2 (hS.bA hs hy).2).2 ⟨(hp.cg x y s hx hy hs e.1).1 (by decide),(hq.cg x y s hx hy hs e.2).1 (by decide)⟩,λ _=>(dY hp.pt hq.pt (hS.bA hx hs).2 (hS.bA hy hs).2).2 ⟨(hp.cg x y s hx hy hs e.1).2 (by decide),(hq.cg x y s hx hy hs e.2).2 (by decide)⟩⟩
theorem uv{n x y:Nat}(hx:x<n)(hy:y<n)(e:cA (cV n) x y):x=y:=by
 unfold cA at e;rw [du hx,du hy]at e;omega
theorem Nb{n:Nat}(hn:n<=4096):Pt n (cV n):=⟨bM n,by rw [bM];exact hn,by
 refine fu.2 λ i hi=>?_;rw [bM]at hi;refine⟨by rw [du hi];omega,?_⟩;rw [du hi]
 have hd:((cV n).take i).Nodup:=by
  refine List.nodup_iff_pairwise_ne.2 (List.pairwise_iff_getElem.2 λ a b ha hb mh=>?_);simp [cV];omega
 have:=cv hd (B:=ar ((cV n).take i)) λ v hv=>aE.2 hv;rw [List.length_take,bM]at this;omega⟩
theorem Uq(h:Semi t):cd t (cV t.length) 0:=
 ⟨h,bM _,(Nb (by have:=h.most;omega)).2,by decide,λ x y s hx hy _ e=>by
   obtain rfl:=uv hx hy e;exact⟨λ _=>rfl,λ _=>rfl⟩⟩
def wK(p w:List Int):List Int:=p.map λ c=>w.getD c.toNat 0
theorem qT(p w:List Int):(wK p w).length=p.length:=by simp [wK]
theorem nV{w:List Int}{x:Nat}(hx:x<p.length):(wK p w).getD x 0=w.getD (p.getD x 0).toNat 0:=by simp [wK,List.getD,hx]
theorem Ur{n:Nat}{w:List Int}(hp:Pt n p)(hw:Pt (ak p) w):Pt n (wK p w):=by
 have hl:(wK p w).length=n:=by rw [qT,hp.1]
 refine⟨hl,by rw [hl];have:=hp.2.1;have:=hp.1;omega,fu.2 λ i hi=>?_⟩;rw [qT]at hi;have hpo:=fu.1 hp.2.2;have hwo:=fu.1 hw.2.2;have k:=dj hp.2.2 hi;have Su:=hwo (p.getD i 0).toNat (by rw [hw.1];exact k.2.1);refine⟨by rw [nV hi];exact Su.1,?_⟩;rw [nV hi];refine Int.le_trans Su.2 (Int.ofNat_le.2 (cv (eO _) λ v hv=>aE.2 ?_));obtain⟨d,hd,rfl⟩:=List.mem_take_iff_getElem.1 (aE.1 hv);have hfv:=fR (p:=p) (i:=i) aa λ j hj=>hpo j aa
 have hdm:(d:Int)∈ar (p.take i):=by
  rw [hfv];refine List.mem_map.2 ⟨d,List.mem_range.2 ?_,rfl⟩;have:=(hpo i hi).2;omega
 obtain⟨j,hj,Ny⟩:=List.mem_take_iff_getElem.1 (aE.1 hdm);refine List.mem_take_iff_getElem.2 ⟨j,by rw [qT];exact hj,?_⟩;have Z5:j<p.length:=aa;have e1:p.getD j 0=(d:Int):=by rw [getD_eq Z5];exact Ny
 have e2:=nV (w:=w) Z5;rw [getD_eq (by rw [qT];exact Z5),e1,Int.toNat_natCast,getD_eq aa]at e2;exact e2
theorem nW{n:Nat}{w:List Int}(hp:Pt n p){x y:Nat}(hx:x<n)(hy:y<n):cA (wK p w) x y↔cA w (p.getD x 0).toNat (p.getD y 0).toNat:=by
 have:=hp.1;unfold cA;rw [nV aa,nV aa]
theorem M8{w:List Int}(hp:cd t p 0)(hw:cd (eU t p) w 0):cd t (wK p w) 0:=by
 have hS:=hp.kP.toSh;have hwp:Pt (ak p) w:=by have:=hw.pt;rw [cL]at this;exact this
 have hn:=Ur hp.pt hwp;have aS:∀x,x<t.length->(p.getD x 0).toNat<(eU t p).length:=λ x hx=>by rw [cL];exact(dj hp.val.2 (by rw [hp.len];exact hx)).2.1
 refine⟨hp.kP,hn.1,hn.2,by decide,λ x y s hx hy hs e=>?_⟩;have e:=(nW hp.pt hx hy).1 e;have g:=hw.cg _ _ _ (aS x hx) (aS y hy) (aS s hs) e;have q1:=λ{a b:Nat} (ha:a<t.length) (hb:b<t.length)=>iT hS hp.len hp.val.2 hp.cg ha hb;unfold Bt at g;rw [q1 hs hx,q1 hs hy,q1 hx hs,q1 hy hs]at g;exact⟨λ _=>(nW hp.pt (hS.bA hs hx).2 (hS.bA hs hy).2).2 (g.1 (by decide)),λ _=>(nW hp.pt (hS.bA hx hs).2 (hS.bA hy hs).2).2 (g.2 (by decide))⟩
theorem M9{w:List Int}(hp:cd t p 0)(hw:cd (eU t p) w 0)(hj:iV (eU t p).length w):ak (wK p w)<ak p:=by
 have hn:=M8 hp hw;have hs:=jk hn.val.2 hp.val.2 (by rw [hn.len,hp.len]) λ x y hx hy e=>(nW hp.pt (by rw [<-hn.len];exact hx) (by rw [<-hn.len];exact hy)).2 (by unfold cA;rw [e]);refine Nat.lt_of_le_of_ne hs.1 λ e=>?_;have e2:=hs.2 e;obtain⟨c,d,hc,hd,bm,h⟩:=hj;rw [cL]at hc hd;obtain⟨x,hx,rfl⟩:=pG hp.len hp.val.2 hc;obtain⟨y,hy,rfl⟩:=pG hp.len hp.val.2 hd;have h3:=(nW hp.pt hx hy).2 h;rw [<-e2]at h3;exact bm (congrArg Int.toNat h3)
end
structure JT(q:List (List Int))(L:List (List (Int × Int)))(x y k:Nat)(p:List Int):Prop where
 cg:cd q p 0
 ap:¬cA p x y
 jo:iV q.length p\/Jn q.length (cA p)/\∀j,j<k->cA (nC q.length (dF (L.getD j []))) x y
section
variable{q:List (List Int)}{L:List (List (Int × Int))}{x y k:Nat}{p:List Int}
theorem JT.start(h:Semi q)(hx:x<q.length)(hy:y<q.length)(bm:x≠y):JT q L x y 0 (cV q.length):=
 ⟨Uq h,λ e=>bm (uv hx hy e),.inr ⟨λ _ _ ha hb e=>uv ha hb e,λ _ h=>absurd h (Nat.not_lt_zero _)⟩⟩
theorem JT.take(h:JT q L x y k p)(hL:cW q L)(hk:k<L.length)(ha:¬cA (Bj q.length p (nC q.length (dF (L.getD k [])))) x y):JT q L x y (k+1) (Bj q.length p (nC q.length (dF (L.getD k [])))):=by
 have hm:=hL.mi _ (an (d:=[]) hk);obtain⟨a,b,h1,h2,h3,h4⟩:=hm.jo;exact⟨Uo h.cg hm.cg,ha,.inl ⟨a,b,h1,h2,h3,(nZ h1 h2).2 (.rel ⟨h1,h2,.inr h4⟩)⟩⟩
theorem JT.skip(h:JT q L x y k p)(hx:x<q.length)(hy:y<q.length)(ha:cA (Bj q.length p (nC q.length (dF (L.getD k [])))) x y):JT q L x y (k+1) p:=by
 refine⟨h.cg,h.ap,h.jo.imp id λ⟨h1,h2⟩=>⟨h1,λ j hj=>?_⟩⟩
 by_cases e:j=k
 ·subst e
  exact Eg.least (Q:=cA (nC q.length (dF (L.getD j [])))) (λ _=>rfl) (λ _ _ h=>h.symm) (λ _ _ _ h h'=>h.trans h') (λ a b ⟨ha,hb,h⟩=>h.elim (λ h=>by rw [h1 a b ha hb h];rfl) id) ((nZ hx hy).1 ha)
 ·exact h2 j aa
theorem JT.done(h:JT q L x y k p)(hL:cW q L)(h2:2<=L.length)(hk:L.length<=k)(hx:x<q.length)(hy:y<q.length)(bm:x≠y):iV q.length p:=by
 rcases h.jo with h|⟨_,h⟩
 ·exact h
 ·have m0:=hL.mi _ (an (d:=[]) (show 0<L.length by omega))
  have m1:=hL.mi _ (an (d:=[]) (show 1<L.length by omega));have hM:=Up m0.cg m1.cg;have xd:=λ{a b:Nat} (ha:a<q.length) (hb:b<q.length)=>dY m0.cg.pt m1.cg.pt ha hb;have N9:iV q.length (jE (nC q.length (dF (L.getD 0 []))) (nC q.length (dF (L.getD 1 [])))):=⟨x,y,hx,hy,bm,(xd hx hy).2 ⟨h 0 aa,h 1 aa⟩⟩;have s0:=m0.mi _ hM N9 λ a b ha hb e=>((xd ha hb).1 e).1;have s1:=m1.mi _ hM N9 λ a b ha hb e=>((xd ha hb).1 e).2;have e:=sub_eq m0.cg.len m1.cg.len m0.cg.val.2 m1.cg.val.2 (λ a b ha hb e=>((xd ha hb).1 (s0 a b ha hb e)).2) λ a b ha hb e=>((xd ha hb).1 (s1 a b ha hb e)).1;have Sn:=List.pairwise_iff_getElem.1 (List.nodup_iff_pairwise_ne.1 hL.nd) 0 1 (by rw [List.length_map];omega) (by rw [List.length_map];omega) aa;refine absurd ?_ Sn;rw [List.getElem_map,List.getElem_map,<-getD_eq (d:=[]),<-getD_eq (d:=[])];exact e
end
end Go.Proofs.YtgailjhnfghkgaaGreatDoor
end
section
namespace Go.Proofs.YtgailjhnfghkgaaGreatDoor
open Go Go.AM
set_option maxRecDepth 100000
set_option maxHeartbeats 1000000 in
theorem Qw(q:List (List Int))(L:List (List (Int × Int)))(x y:Nat)(hq:Semi q)(hL:cW q L)(h2:2<=L.length)(hx:x<q.length)(hy:y<q.length)(bm:x≠y):EF 75 [.int .i64 q.length,.ro (.cH L),.int .i64 x,.int .i64 y] (λ w:List Int=>.ro (.ints .i64 w)) (λ w=>cd q w 0/\¬cA w x y/\iV q.length w):=HG Tryz.func75 (by decide+kernel) rfl (ah rfl) λ _=>by
 have hn:=hq.most;have hLl:L.length<=160000:=Nat.le_trans hL.le (Nat.mul_le_mul hn hn);refine Or.inl (cq (Gw q.length aa) (ae rfl ag) ?_);refine af [14,21,24,25,26,28,30,32,35,12,10014,10024,10025]<|lA (λ(k:Nat) (p:List Int)=>[(17,.int .i64 k),(9,.ro (.ints .i64 p))]) (λ _ _=>[]) (λ k p=>k<=L.length/\JT q L x y k p) (λ k _=>L.length - k) 0 (cV q.length) ⟨Nat.zero_le _,JT.start hq hx hy bm⟩ ab ?_
 rintro k p ⟨hk,hI⟩;have gb:=hI.cg.len;refine ae (λ h1=>?_) (λ h1=>?_)
 ·have h1:(k:Int)<(L.length:Int):=h1
  have lr:k<L.length:=aa;have j9:=hL.UG _ (an (d:=[]) lr);have hm:=hL.mi _ (an (d:=[]) lr);have hE:canon (EP q.length (IC id (L.getD k [])))=nC q.length (dF (L.getD k [])):=yn j9;have hfp:=yj q.length aa (L.getD k []) λ z hz=>⟨(j9 z hz).1.1,(j9 z hz).1.2,(j9 z hz).2.1,(j9 z hz).2.2⟩;rw [hE]at hfp;have XV:=Nx p (nC q.length (dF (L.getD k []))) ⟨by rw [gb,hm.cg.len],hI.cg.val,hm.cg.val⟩;rw [gb]at XV;have oy:(Bj q.length p (nC q.length (dF (L.getD k [])))).length=q.length:=ux;refine ae aa ?_;refine Or.inl (cq hfp (ae rfl (ae rfl ag)) ?_);refine Or.inl (cq XV (ae rfl (ae rfl ag)) ?_);refine Or.inl ?_;refine af (List.replicate 9 false) (ae (by decide+kernel) ?_);refine ae (show 0<=(x:Int)/\(x:Int)<((Bj q.length p (nC q.length (dF (L.getD k [])))).length:Int) by omega) ?_;refine ae (show 0<=(y:Int)/\(y:Int)<((Bj q.length p (nC q.length (dF (L.getD k [])))).length:Int) by omega) ?_;refine ae (λ h3=>?_) (λ h3=>?_)
  ·have h3:¬cA (Bj q.length p (nC q.length (dF (L.getD k [])))) x y:=h3
   refine ae aa ?_;exact nx (k+1,_) ⟨aa,hI.take hL lr h3⟩ (show L.length - (k+1)<L.length - k by omega) ab
  ·have h3:cA (Bj q.length p (nC q.length (dF (L.getD k [])))) x y:=h3
   refine ae aa ?_;exact nx (k+1,p) ⟨aa,hI.skip hx hy h3⟩ (show L.length - (k+1)<L.length - k by omega) ab
 ·have h1:(L.length:Int)<=(k:Int):=h1
  refine af p (ae ⟨hI.cg,hI.ap,hI.done hL h2 aa hx hy bm⟩ ?_)
  repeat' first|refine ae ?_ ?_|exact ag|omega|exact rfl
end Go.Proofs.YtgailjhnfghkgaaGreatDoor
end
