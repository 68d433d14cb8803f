import Derived.Test.YtgailjhnfghkgaaGreatDoorCg
import Derived.Test.YtgailjhnfghkgaaGreatDoorEnLaw
import Derived.Test.YtgailjhnfghkgaaGreatDoorDfa
section
namespace Go.Proofs.YtgailjhnfghkgaaGreatDoor
open Go Go.AM
def xH(p:List Int)(c:Nat):Nat:=(((bm (ao p) p).getD c []).getD 0 0).toNat
def BM(t:List (List Int))(p:List Int)(c:Nat):List Int:=(List.range (ao p)).map λd=>p.getD (en t (xH p c) (xH p d)) 0
def dH(t:List (List Int))(p:List Int):List (List Int):=(List.range (ao p)).map λc=>BM t p c
section
variable{t:List (List Int)}{p:List Int}
theorem G4(hp:canon p=p){c:Nat}(hc:c<ao p):0<((bm (ao p) p).getD c []).length:=by
 have hm:=(kn hp (c:Int)).1 ⟨aa,aa⟩;obtain⟨i,hi,he⟩:=aS 0 hm;have:=(ie (p:=p) hc (x:=(i:Int))).2 ⟨aa,aa,by rw [ajr];exact he⟩;exact akx this
theorem oN(hp:canon p=p){c:Nat}(hc:c<ao p):xH p c<p.length/\p.getD (xH p c) 0=(c:Int)/\((bm (ao p) p).getD c []).getD 0 0=(xH p c:Int):=by
 have hm:=(ie hc).1 (al (d:=0) (G4 hp hc));unfold xH;exact⟨aa,hm.2.2,aa⟩
theorem dx(hp:canon p=p){x:Nat}(hx:x<p.length):0<=p.getD x 0/\(p.getD x 0).toNat<ao p/\p.getD x 0=((p.getD x 0).toNat:Int):=by
 have:=(kn hp (p.getD x 0)).2 (al hx);omega
theorem qi{c:Nat}:(BM t p c).length=ao p:=by simp [BM]
theorem xu{c d:Nat}(hd:d<ao p):(BM t p c).getD d 0=p.getD (en t (xH p c) (xH p d)) 0:=by simp [BM,List.getD,hd]
theorem dw:(dH t p).length=ao p:=by simp [dH]
theorem qh{c:Nat}(hc:c<ao p):(dH t p).getD c []=BM t p c:=by simp [dH,List.getD,hc]
theorem BN(_hs:Sh t)(_hl:p.length=t.length)(hg:Cg t p 0){x y x' y':Nat}(hx:x<t.length)(hy:y<t.length)(mI:x'<t.length)(EV:y'<t.length)(h1:p.getD x 0=p.getD x' 0)(h2:p.getD y 0=p.getD y' 0):
  p.getD (en t x y) 0=p.getD (en t x' y') 0:=
 ((hg x x' y hx mI hy h1).2 (by decide)).trans ((hg y y' x' hy EV mI h2).1 (by decide))
theorem HE(hs:Sh t)(hl:p.length=t.length)(hp:canon p=p)(hg:Cg t p 0){x y:Nat}(hx:x<t.length)(hy:y<t.length):
  ((dH t p).getD (p.getD x 0).toNat []).getD (p.getD y 0).toNat 0=p.getD (en t x y) 0:=by
 have h1:=dx hp (x:=x) aa;have h2:=dx hp (x:=y) aa;have k1:=oN hp h1.2.1;have k2:=oN hp h2.2.1;rw [qh h1.2.1,xu h2.2.1];exact(BN hs hl hg hx hy aa aa aa aa).symm
theorem jj(hs:Sh t)(hl:p.length=t.length)(hp:canon p=p)(hg:Cg t p 0){x y:Nat}(hx:x<t.length)(hy:y<t.length):
  en (dH t p) (p.getD x 0).toNat (p.getD y 0).toNat=(p.getD (en t x y) 0).toNat:=by
 unfold en;rw [HE hs hl hp hg hx hy];rfl
theorem Eo(hs:Sh t)(hl:p.length=t.length):0<ao p:=by
 have:=hs.pos;cases p with
 |nil=>simp at hl;omega
 |cons a l=>
  have hm:a∈av (a::l):=aL.2 (by simp);exact akx hm
theorem VR(hs:Sh t)(hl:p.length=t.length)(hp:canon p=p):Sh (dH t p):=by
 have hle:ao p<=p.length:=bp p;have hm:=hs.most;refine⟨by rw [dw];exact Eo hs hl,by rw [dw];omega,λr hr=>?_⟩;obtain⟨c,hc,rfl⟩:=aS [] hr;rw [dw]at hc;rw [qh hc];refine⟨by rw [qi,dw],λx hx=>?_⟩;obtain⟨d,hd,rfl⟩:=aS 0 hx;rw [qi]at hd;rw [xu hd,dw];have k1:=oN hp hc;have k2:=oN hp hd;have k3:=dx hp (x:=en t (xH p c) (xH p d)) (by rw [hl];exact(hs.bF aa aa).2);omega
theorem qb(hl:p.length=t.length)(hp:canon p=p){c:Nat}(hc:c<ao p):∃x,x<t.length/\(p.getD x 0).toNat=c:=by
 have k:=oN hp hc;exact⟨xH p c,aa,aa⟩
theorem Lh(hs:Semi t)(hl:p.length=t.length)(hp:canon p=p)(hg:Cg t p 0):Semi (dH t p):=by
 refine⟨VR hs.toSh hl hp,λb hb a c ha hc=>?_⟩;rw [dw]at hb ha hc;obtain⟨x,hx,rfl⟩:=qb hl hp ha;obtain⟨y,hy,rfl⟩:=qb hl hp hb;obtain⟨z,hz,rfl⟩:=qb hl hp hc;have hS:=hs.toSh;rw [jj hS hl hp hg hx hy,jj hS hl hp hg hy hz,jj hS hl hp hg (hS.bF hx hy).2 hz,jj hS hl hp hg hx (hS.bF hy hz).2,kP hs.assoc hx hy hz]
def kC(t:List (List Int))(p:List Int)(i:Nat)(l:List (List Int)):Prop:=
 l.length=ao p/\∀c,c<ao p->((∃x,x<i/\p.getD x 0=(c:Int))->l.getD c []=BM t p c)/\((∀x,x<i->p.getD x 0≠(c:Int))->l.getD c []=[])
theorem kC.start:kC t p 0 (List.replicate (ao p) []):=⟨by simp,λc hc=>⟨λ⟨x,hx,_⟩=>absurd hx (aju _),λ_=>by simp [List.getD,hc]⟩⟩
theorem kC.eI(hp:canon p=p){i:Nat}{l:List (List Int)}(h:kC t p i l)(hi:i<p.length)(hn:l.getD (p.getD i 0).toNat []≠[]):kC t p (i+1) l:=by
 have hc:=dx hp hi;have mB:∃x,x<i/\p.getD x 0=p.getD i 0:=ajy λbn=>hn ((h.2 _ hc.2.1).2 λx hx e=>bn ⟨x,hx,by rw [e];exact hc.2.2.symm⟩);refine⟨h.1,λc WK=>⟨λ⟨x,hx,he⟩=>(h.2 c WK).1 ?_,λdj=>(h.2 c WK).2 λx hx=>dj x aa⟩⟩
 by_cases BZ:x<i
 ·exact⟨x,BZ,he⟩
 ·have:x=i:=aa
  subst this;obtain⟨y,hy,hye⟩:=mB;exact⟨y,hy,hye.trans he⟩
theorem kC.new(hp:canon p=p){i:Nat}{l:List (List Int)}(h:kC t p i l)(hi:i<p.length){r:List Int}(hr:r=BM t p (p.getD i 0).toNat):kC t p (i+1) (l.set (p.getD i 0).toNat r):=by
 have hc:=dx hp hi;have aX:(p.getD i 0).toNat<l.length:=by rw [h.1];exact hc.2.1
 refine⟨by rw [ajv];exact h.1,λc WK=>?_⟩;rw [bc _ _ _ _ _ aX]
 by_cases e:c=(p.getD i 0).toNat
 ·subst e
  rw [ajq rfl];exact⟨λ_=>hr,λdj=>absurd hc.2.2 (dj i aa)⟩
 ·rw [ajm e]
  refine⟨λ⟨x,hx,he⟩=>(h.2 c WK).1 ⟨x,?_,he⟩,λdj=>(h.2 c WK).2 λx hx=>dj x aa⟩;rcases ajF x i with BZ|BZ
  ·exact BZ
  ·have:x=i:=aa
   subst this;omega
theorem kC.done(hp:canon p=p){l:List (List Int)}{i:Nat}(h:kC t p i l)(hi:p.length<=i):l=dH t p:=by
 refine a6 [] (by rw [h.1,dw]) λc hc=>?_;rw [h.1]at hc;rw [qh hc];have k:=oN hp hc;exact(h.2 c hc).1 ⟨xH p c,aa,k.2.1⟩
def nN(t:List (List Int))(p:List Int)(i j:Nat)(r:List Int):Prop:=
 r.length=ao p/\∀d,d<ao p->(∃y,y<j/\p.getD y 0=(d:Int))->r.getD d 0=p.getD (en t i (xH p d)) 0
theorem nN.start{i:Nat}:nN t p i 0 (List.replicate (ao p) 0):=⟨by simp,λd _ ⟨y,hy,_⟩=>absurd hy (aju _)⟩
theorem nN.next(hs:Sh t)(hl:p.length=t.length)(hp:canon p=p)(hg:Cg t p 0){i j:Nat}{r:List Int}(h:nN t p i j r)(hi:i<t.length)(hj:j<p.length):nN t p i (j+1) (r.set (p.getD j 0).toNat (p.getD (en t i j) 0)):=by
 have hc:=dx hp hj;have aX:(p.getD j 0).toNat<r.length:=by rw [h.1];exact hc.2.1
 refine⟨by rw [ajv];exact h.1,λd hd ⟨y,hy,he⟩=>?_⟩;rw [bc _ _ _ _ _ aX]
 by_cases e:d=(p.getD j 0).toNat
 ·subst e
  rw [ajq rfl];have k:=oN hp hd;exact BN hs hl hg hi aa hi aa rfl (by rw [k.2.1];exact hc.2.2)
 ·rw [ajm e]
  refine h.2 d hd ⟨y,?_,he⟩;rcases ajF y j with hyj|hyj
  ·exact hyj
  ·have:y=j:=aa
   subst this;omega
theorem nN.done(hs:Sh t)(hl:p.length=t.length)(hp:canon p=p)(hg:Cg t p 0){i j:Nat}{r:List Int}(h:nN t p i j r)(hi:i<t.length)(hj:p.length<=j):r=BM t p (p.getD i 0).toNat:=by
 have hc:=dx hp (x:=i) aa;refine a6 0 (by rw [h.1,qi]) λd hd=>?_;rw [h.1]at hd;have k:=oN hp hd;have k2:=oN hp hc.2.1;rw [h.2 d hd ⟨xH p d,aa,k.2.1⟩,xu hd];exact BN hs hl hg hi aa aa aa (by rw [k2.2.1];exact hc.2.2) rfl
end
set_option maxRecDepth 100000
set_option maxHeartbeats 1000000 in
theorem Qc(t:List (List Int))(p:List Int)(h:ca t p 0):QF 10 [.ro (.rows .i64 t),.ro (.ints .i64 p)] (.cL [.new (.rows .i64 (dH t p)),.int .i64 0]):=fN Tryz.func10 (by decide+kernel) rfl (ah rfl) λ_=>by
 have hs:=h.iJ;have gw:=h.len;have hp:=h.val;have hg:=h.cg;have ko:=hs.most;have V3:ao p<=p.length:=bp _;refine Or.inl (cq (kV t) (ae rfl ag) ?_);refine ae (λh1=>absurd (fx.2 hs) h1) (λh1=>?_);refine Or.inl (cq (UZ t p 0) (ae rfl (ae rfl (ae rfl ag))) ?_);refine ae (λh1=>?_) (λh1=>?_)
 ·have h1:(!IV t p 0)=true:=h1
  rw [kW.2 h]at h1;cases h1
 refine Or.inl (cq (sE p) (ae rfl ag) ?_);have e:(if bz p then ((ao p:Nat):Int) else 0)=ao p:=ajq hp;refine aj ?_;refine aj ?_;refine Or.inr (Or.inr ?_);refine af [36,37,38,40,41,49,52,64,10040]<|kF (λ(i:Nat) (_:List (List Int))=>[(26,.int .i64 i)]) (λ_ q=>[(23,.vec 0 (.cY .i64 q) [])]) (λi q=>i<=p.length/\kC t p i q) (λi _=>p.length - i) 0 (List.replicate (if bz p then ((ao p:Nat):Int) else 0).toNat []) ⟨ajk _,by rw [e];exact kC.start⟩ ab ?_
 rintro i q ⟨hi,hq⟩;refine ae (λh1=>?_) (λh1=>?_)
 ·have bD:i<p.length:=aa
  have hr:=dx hp.2 bD;have ux:=hq.1;refine aj ?_;refine ae (show 0<=p.getD i 0/\p.getD i 0<(q.length:Int) by omega) ?_;refine ae (λh2=>?_) (λh2=>?_)
  ·refine aj ?_
   refine aj ?_;refine ae (show 0<=p.getD i 0/\p.getD i 0<(q.length:Int) by omega) ?_;refine ae (show((0:Nat):Int)<=p.getD i 0 by omega) ?_;refine af [36,37,38,40,41,49,52,64]<|kF (λ(j:Nat) (_:List Int)=>[(44,.int .i64 j)]) (λ_ r=>[(23,.vec 0 (.cY .i64 q) [(p.getD i 0,40)]),(40,.vec 0 (.ints .i64 r) [])]) (λj r=>j<=p.length/\nN t p i j r) (λj _=>p.length - j) 0 (List.replicate q.length 0) ⟨ajk _,by rw [ux];exact nN.start⟩ ab ?_
   rintro j r ⟨hj,sZ⟩;refine ae (λh3=>?_) (λh3=>?_)
   ·have oR:j<p.length:=aa
    have mV:=sZ.1;have hc:=dx hp.2 oR;have e1:=hs.toSh.bF (x:=i) (y:=j) aa aa;have r1:=hs.toSh.len (x:=i) aa;have vW:=sZ.next hs.toSh gw hp.2 hg aa oR;rw [<-ajr (en t i j),<-e1.1]at vW;refine aj ?_;refine Or.inl ?_;refine af (ai 16++[true]) (ae (by decide+kernel) ?_);refine ae (by simp only [ajr];omega) ?_;refine ae (λ_=>?_) (λh4=>absurd rfl h4);refine aj ?_;refine ae (show 0<=(j:Int)/\(j:Int)<((t.getD i []).length:Int) by omega) ?_;refine ae (show 0<=(t.getD i []).getD j 0/\(t.getD i []).getD j 0<(p.length:Int) by omega) ?_;refine ae (show 0<=p.getD j 0/\p.getD j 0<(r.length:Int) by omega) ?_;refine ae (show((0:Nat):Int)<=p.getD j 0 by omega) ?_;refine aj ?_;exact nx (j+1,r.set (p.getD j 0).toNat (p.getD ((t.getD i []).getD j 0).toNat 0)) ⟨aa,vW⟩ (show p.length - (j+1)<p.length - j by omega) ab
   ·refine aj ?_
    have Wq:=sZ.done hs.toSh gw hp.2 hg aa aa
    have iu:r≠[]:=λhe=>by
     have:=sZ.1;rw [he]at this;simp at this;omega
    refine nx (i+1,q.set (p.getD i 0).toNat r) ⟨aa,hq.new hp.2 bD Wq⟩ (show p.length - (i+1)<p.length - i by omega) ?_
    repeat' first|refine ae ?_ ?_|exact ag|exact iu|(show(_:Int)=(_:Int);omega)|omega|exact rfl
  ·refine ae ?_ (λh0=>?_)
   ·refine aj ?_
    exact nx (i+1,q) ⟨aa,hq.eI hp.2 bD h2⟩ (show p.length - (i+1)<p.length - i by omega) ab
   ·exact absurd (akj h0) h2
 ·refine ae (ae aa ?_) (ae rfl ag)
  show RO.rows .i64 q=RO.rows .i64 (dH t p);rw [hq.done hp.2 aa]
set_option maxHeartbeats 2000000 in
theorem GW(t:List (List Int))(p:List Int)(hs:Semi t):QF 37 [.ro (.rows .i64 t),.ro (.ints .i64 p)] (.bool (.v (IV t p 0))):=fN Tryz.func37 (by decide+kernel) rfl (ah rfl) λ_=>by
 have no:¬ca t p 0->(BE.lit false).val=(BE.v (IV t p 0)).val:=λh=>(yY.2 h).symm;have oS:=hs.toSh;have ko:=hs.most;refine ae (λh3=>?_) (λh3=>?_)
 ·refine ae (no λh=>by have:=h.len;omega) trivial
 refine Or.inl (cq (fJ p) (ae rfl ag) ?_);refine ae (λh4=>?_) (λh4=>?_)
 ·refine ae (no λh=>?_) trivial
  have h4:(!decide (bz p))=true:=h4;rw [aj3 h.val]at h4;cases h4
 have yb:bz p:=by simpa using h4
 have hlen:p.length=t.length:=aa;have aY:=(gS.1 yb).2;refine af []<|kF (λ(i:Nat) (f:List Int)=>[(22,.int .i64 i),(5,.vec 34)]) (λ_ f=>[(34,.vec 0 (.ints .i64 f) [])]) (λi f=>i<=p.length/\iT p i f/\∀x,x<i->∀s,s<t.length->Ch t p 0 x (f.getD (p.getD x 0).toNat 0).toNat s) (λi _=>p.length - i) 0 [] ⟨ajk _,⟨rfl,λc hc=>absurd hc (aju _)⟩,λj hj=>absurd hj (aju _)⟩ ab ?_
 rintro i f ⟨hi,hf,ha⟩;refine ae (λh1=>?_) (λh1=>?_)
 ·have bD:i<p.length:=aa
  have yc:i<t.length:=aa;have cX:=aY i bD
  have aay:f.length<=i:=by
   have:=bp (p.take i);rw [ajA]at this;have:=hf.1;omega
  refine aj ?_;refine ae (λh2=>?_) (λh2=>?_)
  ·have h2:p.getD i 0=(f.length:Int):=h2
   have Hp:(f++[(i:Int)]).length=f.length+1:=by simp
   have xP:(f++[(i:Int)]).getD (p.getD i 0).toNat 0=i:=by
    rw [h2,ajr];simp [List.getD]
   have hn:=iT.new aY bD hf h2;refine aj ?_;refine ae (show 0<=p.getD i 0/\p.getD i 0<((f++[(i:Int)]).length:Int) by omega) ?_;have hy:0<=(f++[(i:Int)]).getD (p.getD i 0).toNat 0/\(f++[(i:Int)]).getD (p.getD i 0).toNat 0<(t.length:Int):=by rw [xP];omega
   have MX:p.getD ((f++[(i:Int)]).getD (p.getD i 0).toNat 0).toNat 0=p.getD i 0:=by rw [xP,ajr]
   have hold:∀x,x<i->(f++[(i:Int)]).getD (p.getD x 0).toNat 0=f.getD (p.getD x 0).toNat 0:=λx hx=>yZ (iT.eI aY aa hf hx);have wz:((f++[(i:Int)]).getD (p.getD i 0).toNat 0).toNat<t.length:=aa;refine af []<|lp (X:=Nat) (λs=>[(41,.int .i64 s)]) (λ_=>[(34,.vec 0 (.ints .i64 (f++[(i:Int)])) [])]) (λs=>s<=t.length/\∀s',s'<s->Ch t p 0 i ((f++[(i:Int)]).getD (p.getD i 0).toNat 0).toNat s') (λs=>t.length - s) 0 ⟨ajk _,λj hj=>absurd hj (aju _)⟩ ab ?_
   rintro s ⟨Wi,IZ⟩;refine ae (λh6=>?_) (λh6=>?_)
   ·have gv:s<t.length:=aa
    have e1:=oS.bF gv yc;have e2:=oS.bF gv wz;have e3:=oS.bF yc gv;have e4:=oS.bF wz gv;have r1:=oS.len gv;have r2:=oS.len yc;have r3:=oS.len wz;have bad1:p.getD (en t s i) 0≠p.getD (en t s ((f++[(i:Int)]).getD (p.getD i 0).toNat 0).toNat) 0->¬ca t p 0:=λg2 h=>g2 ((h.cg i _ s yc wz gv MX.symm).1 (by decide));have bad2:p.getD (en t i s) 0≠p.getD (en t ((f++[(i:Int)]).getD (p.getD i 0).toNat 0).toNat s) 0->¬ca t p 0:=λg2 h=>g2 ((h.cg i _ s yc wz gv MX.symm).2 (by decide));refine Or.inl ?_;refine af (List.replicate 44 false) (ae (by decide+kernel) ?_);refine aj ?_;refine ae (show 0<=(i:Int)/\(i:Int)<((t.getD s []).length:Int) by omega) ?_;refine ae (show 0<=(t.getD s []).getD i 0/\(t.getD s []).getD i 0<(p.length:Int) by omega) ?_;refine aj ?_;refine ae (show 0<=(f++[(i:Int)]).getD (p.getD i 0).toNat 0/\(f++[(i:Int)]).getD (p.getD i 0).toNat 0<((t.getD s []).length:Int) by omega) ?_;refine ae (show 0<=(t.getD s []).getD ((f++[(i:Int)]).getD (p.getD i 0).toNat 0).toNat 0/\(t.getD s []).getD ((f++[(i:Int)]).getD (p.getD i 0).toNat 0).toNat 0<(p.length:Int) by omega) ?_;refine ae (λh8=>?_) (λh8=>?_)
    ·refine ae (no (bad1 h8)) trivial
    refine aj ?_;refine ae (show 0<=(s:Int)/\(s:Int)<((t.getD i []).length:Int) by omega) ?_;refine ae (show 0<=(t.getD i []).getD s 0/\(t.getD i []).getD s 0<(p.length:Int) by omega) ?_;refine ae hy ?_;refine ae (show 0<=(s:Int)/\(s:Int)<((t.getD ((f++[(i:Int)]).getD (p.getD i 0).toNat 0).toNat []).length:Int) by omega) ?_;refine ae (show 0<=(t.getD ((f++[(i:Int)]).getD (p.getD i 0).toNat 0).toNat []).getD s 0/\(t.getD ((f++[(i:Int)]).getD (p.getD i 0).toNat 0).toNat []).getD s 0<(p.length:Int) by omega) ?_;refine ae (λcA=>?_) (λcA=>?_)
    ·refine ae (no (bad2 cA)) trivial
    refine aj ?_;refine nx (s+1) ⟨aa,λs' xU=>?_⟩ (show t.length - (s+1)<t.length - s by omega) ab
    by_cases e:s'=s
    ·subst e;exact⟨λ_=>h8,λ_=>cA⟩
    ·exact IZ s' aa
   ·refine aj ?_
    refine nx (i+1,f++[(i:Int)]) ⟨aa,hn,λx hx s' xU=>?_⟩ (show p.length - (i+1)<p.length - i by omega) ab
    by_cases e:x=i
    ·subst e;exact IZ s' aa
    ·rw [hold x aa];exact ha x aa s' xU
  ·have h2:¬p.getD i 0=(f.length:Int):=h2
   have hn:=iT.same aY bD hf h2;have aX:(p.getD i 0).toNat<f.length:=by have:=hf.1;have:=cX.1;have:=cX.2;omega
   have h1y:=hf.2 _ aX;refine ae (show 0<=p.getD i 0/\p.getD i 0<(f.length:Int) by have:=cX.1;omega) ?_;have hy:0<=f.getD (p.getD i 0).toNat 0/\f.getD (p.getD i 0).toNat 0<(t.length:Int):=aa;have MX:p.getD (f.getD (p.getD i 0).toNat 0).toNat 0=p.getD i 0:=by have:=cX.1;rw [h1y.2.2];omega
   have hold:∀x,x<i->f.getD (p.getD x 0).toNat 0=f.getD (p.getD x 0).toNat 0:=λ_ _=>rfl;have wz:(f.getD (p.getD i 0).toNat 0).toNat<t.length:=aa;refine af []<|lp (X:=Nat) (λs=>[(41,.int .i64 s)]) (λ_=>[(34,.vec 0 (.ints .i64 f) [])]) (λs=>s<=t.length/\∀s',s'<s->Ch t p 0 i (f.getD (p.getD i 0).toNat 0).toNat s') (λs=>t.length - s) 0 ⟨ajk _,λj hj=>absurd hj (aju _)⟩ ab ?_
   rintro s ⟨Wi,IZ⟩;refine ae (λh6=>?_) (λh6=>?_)
   ·have gv:s<t.length:=aa
    have e1:=oS.bF gv yc;have e2:=oS.bF gv wz;have e3:=oS.bF yc gv;have e4:=oS.bF wz gv;have r1:=oS.len gv;have r2:=oS.len yc;have r3:=oS.len wz;have bad1:p.getD (en t s i) 0≠p.getD (en t s (f.getD (p.getD i 0).toNat 0).toNat) 0->¬ca t p 0:=λg2 h=>g2 ((h.cg i _ s yc wz gv MX.symm).1 (by decide));have bad2:p.getD (en t i s) 0≠p.getD (en t (f.getD (p.getD i 0).toNat 0).toNat s) 0->¬ca t p 0:=λg2 h=>g2 ((h.cg i _ s yc wz gv MX.symm).2 (by decide));refine Or.inl ?_;refine af (List.replicate 44 false) (ae (by decide+kernel) ?_);refine aj ?_;refine ae (show 0<=(i:Int)/\(i:Int)<((t.getD s []).length:Int) by omega) ?_;refine ae (show 0<=(t.getD s []).getD i 0/\(t.getD s []).getD i 0<(p.length:Int) by omega) ?_;refine aj ?_;refine ae (show 0<=f.getD (p.getD i 0).toNat 0/\f.getD (p.getD i 0).toNat 0<((t.getD s []).length:Int) by omega) ?_;refine ae (show 0<=(t.getD s []).getD (f.getD (p.getD i 0).toNat 0).toNat 0/\(t.getD s []).getD (f.getD (p.getD i 0).toNat 0).toNat 0<(p.length:Int) by omega) ?_;refine ae (λh8=>?_) (λh8=>?_)
    ·refine ae (no (bad1 h8)) trivial
    refine aj ?_;refine ae (show 0<=(s:Int)/\(s:Int)<((t.getD i []).length:Int) by omega) ?_;refine ae (show 0<=(t.getD i []).getD s 0/\(t.getD i []).getD s 0<(p.length:Int) by omega) ?_;refine ae hy ?_;refine ae (show 0<=(s:Int)/\(s:Int)<((t.getD (f.getD (p.getD i 0).toNat 0).toNat []).length:Int) by omega) ?_;refine ae (show 0<=(t.getD (f.getD (p.getD i 0).toNat 0).toNat []).getD s 0/\(t.getD (f.getD (p.getD i 0).toNat 0).toNat []).getD s 0<(p.length:Int) by omega) ?_;refine ae (λcA=>?_) (λcA=>?_)
    ·refine ae (no (bad2 cA)) trivial
    refine aj ?_;refine nx (s+1) ⟨aa,λs' xU=>?_⟩ (show t.length - (s+1)<t.length - s by omega) ab
    by_cases e:s'=s
    ·subst e;exact⟨λ_=>h8,λ_=>cA⟩
    ·exact IZ s' aa
   ·refine aj ?_
    refine nx (i+1,f) ⟨aa,hn,λx hx s' xU=>?_⟩ (show p.length - (i+1)<p.length - i by omega) ab
    by_cases e:x=i
    ·subst e;exact IZ s' aa
    ·rw [hold x aa];exact ha x aa s' xU
 ·refine ae ?_ trivial
  have Mx:i=p.length:=aa;subst Mx;refine(kW.2 ⟨hs,hlen,yb,⟨aa,aa⟩,λx y s hx hy gv uB=>?_⟩).symm;have h1:=ha x aa s gv;have h2:=ha y aa s gv;rw [uB]at h1;exact h1.trans h2
theorem Sd(p:List Int)(hv:bz p)(h0:0<p.length):QF 84 [.ro (.ints .i64 p)] (.int .i64 ((ao p:Nat) - 1:Int)):=fN Tryz.func84 (by decide+kernel) rfl (ah rfl) λ_=>by
 have cX:=(gS.1 hv).2;have hlen:=hv.1
 have h1:(av (p.take 1)).length=1/\p.getD 0 0=0:=by
  have a:=cX 0 h0;have b:=iA h0 (λj hj=>absurd hj (aju _)) a;have c:(av (p.take 0)).length=0:=rfl;have a1:=a.1;have a2:=a.2;rw [c]at a2 b;have e:p.getD 0 0=0:=aa;split at b<;>exact⟨aa,e⟩
 refine ae (λh2=>?_) (λ_=>?_)
 ·have h2:(p.length:Int)<1:=h2
  omega
 refine aj ?_;refine af []<|kF (λ(i:Nat) (c:Int)=>[(4,.int .i64 i),(3,.int .i64 c)]) (λ_ _=>[]) (λi c=>1<=i/\i<=p.length/\c=((av (p.take i)).length:Int) - 1) (λi _=>p.length - i) 1 (p.getD 0 0) ⟨ajl _,h0,by rw [h1.1,h1.2];rfl⟩ ab ?_
 rintro i c ⟨OZ,hi,hc⟩;refine ae (λh3=>?_) (λh3=>?_)
 ·have h3:(i:Int)<(p.length:Int):=h3
  have bD:i<p.length:=aa;have hs:=cX i bD;have QN:0<=p.getD i 0:=hs.1;have Pk:p.getD i 0<=(av (p.take i)).length:=hs.2;have Te:=iA bD (λj hj=>cX j aa) hs;refine aj ?_;refine ae (show -9223372036854775808<=(i:Int)+1/\(i:Int)+1<=9223372036854775807 by omega) ?_;refine nx (i+1,((av (p.take (i+1))).length:Int) - 1) ⟨aa,aa,rfl⟩ (show p.length - (i+1)<p.length - i by omega) ?_
  have em:max c (p.getD i 0)=((av (p.take (i+1))).length:Int) - 1:=by
   rw [Te,hc];split<;>omega
  repeat' first|refine ae ?_ ?_|exact ag|exact em|exact rfl
 ·have h3:(p.length:Int)<=(i:Int):=h3
  refine ae ?_ trivial;have:p.take i=p:=aj4 aa;show c=(ao p:Nat) - 1;rw [hc,this];rfl
theorem zX(p:List Int)(hv:bz p):QF 40 [.ro (.ints .i64 p)] (.int .i64 (ao p:Nat)):=fN Tryz.func40 (by decide+kernel) rfl (ah rfl) λ_=>by
 have hlen:=hv.1;have V3:ao p<=p.length:=bp _;refine ae (λh1=>?_) (λh1=>?_)
 ·have h1:(p.length:Int)=0:=h1
  refine ae ?_ trivial;show(0:Int)=(ao p:Nat);omega
 ·have h1:¬(p.length:Int)=0:=h1
  refine Or.inl (cq (Sd p hv aa) (ae rfl ag) ?_);refine ae (show -9223372036854775808<=((ao p:Nat) - 1:Int)+1/\((ao p:Nat) - 1:Int)+1<=9223372036854775807 by omega) ?_;refine ae ?_ trivial;show((ao p:Nat) - 1:Int)+1=(ao p:Nat);omega
set_option maxHeartbeats 1000000 in
theorem B9(t:List (List Int))(p:List Int)(h:ca t p 0):QF 42 [.ro (.rows .i64 t),.ro (.ints .i64 p)] (.new (.rows .i64 (dH t p))):=fN Tryz.func42 (by decide+kernel) rfl (ah rfl) λ_=>by
 have hs:=h.iJ;have gw:=h.len;have hp:=h.val;have hg:=h.cg;have ko:=hs.most;have V3:ao p<=p.length:=bp _;refine Or.inl (cq (zX p hp) (ae rfl ag) ?_);refine aj ?_;refine aj ?_;refine Or.inr (Or.inr ?_);refine af [25,26,27,29,30,38,41,53,10029]<|kF (λ(i:Nat) (_:List (List Int))=>[(15,.int .i64 i)]) (λ_ q=>[(12,.vec 0 (.cY .i64 q) [])]) (λi q=>i<=p.length/\kC t p i q) (λi _=>p.length - i) 0 (List.replicate (ao p) []) ⟨ajk _,kC.start⟩ ab ?_
 rintro i q ⟨hi,hq⟩;refine ae (λh1=>?_) (λh1=>?_)
 ·have bD:i<p.length:=aa
  have hr:=dx hp.2 bD;have ux:=hq.1;refine aj ?_;refine ae (show 0<=p.getD i 0/\p.getD i 0<(q.length:Int) by omega) ?_;refine ae (λh2=>?_) (λh2=>?_)
  ·refine aj ?_
   refine aj ?_;refine ae (show 0<=p.getD i 0/\p.getD i 0<(q.length:Int) by omega) ?_;refine ae (show((0:Nat):Int)<=p.getD i 0 by omega) ?_;refine af [25,26,27,29,30,38,41,53]<|kF (λ(j:Nat) (_:List Int)=>[(33,.int .i64 j)]) (λ_ r=>[(12,.vec 0 (.cY .i64 q) [(p.getD i 0,29)]),(29,.vec 0 (.ints .i64 r) [])]) (λj r=>j<=p.length/\nN t p i j r) (λj _=>p.length - j) 0 (List.replicate q.length 0) ⟨ajk _,by rw [ux];exact nN.start⟩ ab ?_
   rintro j r ⟨hj,sZ⟩;refine ae (λh3=>?_) (λh3=>?_)
   ·have oR:j<p.length:=aa
    have mV:=sZ.1;have hc:=dx hp.2 oR;have e1:=hs.toSh.bF (x:=i) (y:=j) aa aa;have r1:=hs.toSh.len (x:=i) aa;have vW:=sZ.next hs.toSh gw hp.2 hg aa oR;rw [<-ajr (en t i j),<-e1.1]at vW;refine aj ?_;refine Or.inl ?_;refine af (ai 16++[true]) (ae (by decide+kernel) ?_);refine ae (by simp only [ajr];omega) ?_;refine ae (λ_=>?_) (λh4=>absurd rfl h4);refine aj ?_;refine ae (show 0<=(j:Int)/\(j:Int)<((t.getD i []).length:Int) by omega) ?_;refine ae (show 0<=(t.getD i []).getD j 0/\(t.getD i []).getD j 0<(p.length:Int) by omega) ?_;refine ae (show 0<=p.getD j 0/\p.getD j 0<(r.length:Int) by omega) ?_;refine ae (show((0:Nat):Int)<=p.getD j 0 by omega) ?_;refine aj ?_;exact nx (j+1,r.set (p.getD j 0).toNat (p.getD ((t.getD i []).getD j 0).toNat 0)) ⟨aa,vW⟩ (show p.length - (j+1)<p.length - j by omega) ab
   ·refine aj ?_
    have Wq:=sZ.done hs.toSh gw hp.2 hg aa aa
    have iu:r≠[]:=λhe=>by
     have:=sZ.1;rw [he]at this;simp at this;omega
    refine nx (i+1,q.set (p.getD i 0).toNat r) ⟨aa,hq.new hp.2 bD Wq⟩ (show p.length - (i+1)<p.length - i by omega) ?_
    repeat' first|refine ae ?_ ?_|exact ag|exact iu|(show(_:Int)=(_:Int);omega)|omega|exact rfl
  ·refine ae ?_ (λh0=>?_)
   ·refine aj ?_
    exact nx (i+1,q) ⟨aa,hq.eI hp.2 bD h2⟩ (show p.length - (i+1)<p.length - i by omega) ab
   ·exact absurd (akj h0) h2
 ·refine ae (ae aa ?_) trivial
  show RO.rows .i64 q=RO.rows .i64 (dH t p);rw [hq.done hp.2 aa]
end Go.Proofs.YtgailjhnfghkgaaGreatDoor
end
