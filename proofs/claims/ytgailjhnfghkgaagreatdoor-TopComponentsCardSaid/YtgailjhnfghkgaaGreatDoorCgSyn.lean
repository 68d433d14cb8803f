import Derived.Test.YtgailjhnfghkgaaGreatDoorSgpLaw
import Derived.Test.YtgailjhnfghkgaaGreatDoorDfa
import Derived.Test.YtgailjhnfghkgaaGreatDoorCgFor
import Derived.Test.YtgailjhnfghkgaaGreatDoorCg
import Derived.Test.YtgailjhnfghkgaaGreatDoorSd
section
namespace Go.Proofs.YtgailjhnfghkgaaGreatDoor
open Go Go.AM
set_option maxRecDepth 100000
abbrev spS(a b:Nat)(c s:List Int)(gG rnd:Int)(M L im:List Int):ak:=
 [(1000,.box [.vec a,.vec b,.int .i64 gG,.int .i64 rnd,.vec 1003,.vec 1004]),(a,.vec 0 (.ints .i64 c) []),(b,.vec 0 (.ints .i64 s) []),(1003,.vec 0 (.ints .i64 M) []),(1004,.vec 0 (.ints .i64 L) []),(1005,.vec 0 (.ints .i64 im) [])]
structure TL(c s:List Int)(rnd:Int)(M L im:List Int):Prop where
 n:c.length<=400
 sl:s.length=c.length
 cin:∀x∈c,0<=x/\x<(c.length:Int)
 il:im.length=c.length
 Yu:∀x,x<c.length->0<=im.getD x 0/\im.getD x 0<(c.length:Int)
 ml:M.length=c.length*c.length
 ll:L.length=c.length*c.length
 mlt:∀x∈M,0<=x/\x<=rnd
 Wk:∀x∈L,0<=x/\x<=(c.length:Int)
 r0:0<=rnd/\rnd<=1000000000
set_option maxHeartbeats 1000000 in
theorem zE(c s:List Int)(gG rnd:Int)(M L im:List Int)(h:TL c s rnd M L im):MF 115 [.ptr 1000 0,.vec 1005] (spS 1001 1002 c s gG rnd M L im) (.cL [])
  ([(1000,.box [.vec 1002,.vec 1001,.int .i64 (ao (jY c im):Nat),.int .i64 (rnd+1),.vec 1003,.vec 1004]),(1001,.vec 0 (.ints .i64 c) []),(1002,.vec 0 (.ints .i64 (jY c im)) []),(1003,.vec 0 (.ints .i64 (iy c im (rnd+1) M L c.length).1) []),(1004,.vec 0 (.ints .i64 (iy c im (rnd+1) M L c.length).2) []),(1005,.vec 0 (.ints .i64 im) [])]):=ui Tryz.func115 (by decide+kernel) rfl (ah rfl) λ_=>by
 have hn:=h.n;have gv:=h.sl;have bD:=h.il;have s7:=h.r0;have cX:EU c im (rnd+1) M L 0:=EU.start h.ml h.ll (λx hx=>by have:=h.mlt x hx;omega) (λx hx=>(h.mlt x hx).1) h.Wk;have hup:=EU.upto h.cin h.Yu aa cX;refine aj ?_;refine af []<|kF (λ(k:Nat) (_:List Int)=>[(27,.int .i64 k)]) (λk N=>[(1000,.box [.vec 1001,.vec 1002,.int .i64 ((pz c im k).length:Nat),.int .i64 (rnd+1),.vec 1003,.vec 1004]),(1002,.vec 0 (.ints .i64 N) []),(1003,.vec 0 (.ints .i64 (iy c im (rnd+1) M L k).1) []),(1004,.vec 0 (.ints .i64 (iy c im (rnd+1) M L k).2) [])]) (λk N=>k<=c.length/\N.length=c.length/\∀j,j<k->N.getD j 0=(jY c im).getD j 0) (λk _=>c.length - k) 0 s ⟨ajk _,gv,λj h=>absurd h (aju _)⟩ ab ?_
 rintro k N ⟨hk,hN,Wo⟩;have hI:=hup k hk;refine ae (λh1=>?_) (λh1=>?_)
 ·have h1:(k:Int)<(c.length:Int):=h1
  have lK:k<c.length:=aa;have hq:=uL (im:=im) lK;have KK:=h.cin _ (al (d:=0) lK);have yG:=h.Yu k lK;have z7:=h.cin _ (al (d:=0) (l:=c) (i:=(im.getD k 0).toNat) aa);have ML:=FO (q:=(c.getD k 0,c.getD (im.getD k 0).toNat 0)) KK.1 KK.2 z7.1 z7.2;have qH:=hI.next h.cin h.Yu aa lK;rw [hq]at qH;have z8:=hI.lm;have oO:=hI.ll;have hE:(ix c.length (c.getD k 0,c.getD (im.getD k 0).toNat 0):Int)=c.getD k 0*(c.length:Int)+c.getD (im.getD k 0).toNat 0:=ML.2;have Yv:0<=c.getD k 0*(c.length:Int)+c.getD (im.getD k 0).toNat 0/\c.getD k 0*(c.length:Int)+c.getD (im.getD k 0).toNat 0<((c.length*c.length:Nat):Int):=aa;have WK:c.length*c.length<=160000:=akf (show c.length<=400 from hn) hn;have Yw:(c.getD k 0*(c.length:Int)+c.getD (im.getD k 0).toNat 0).toNat=ix c.length (c.getD k 0,c.getD (im.getD k 0).toNat 0):=rfl;have hmul:0<=c.getD k 0*(c.length:Int):=Int.mul_nonneg KK.1 aa
  have Hp:(pz c im k).length<=k:=by
   have:=bp ((mO c im).take k);rw [ajA]at this;unfold pz;omega
  have fD:iy c im (rnd+1) M L (k+1)=if (iy c im (rnd+1) M L k).1.getD (ix c.length ((mO c im).getD k (0,0))) 0=rnd+1 then iy c im (rnd+1) M L k
   else ((iy c im (rnd+1) M L k).1.set (ix c.length ((mO c im).getD k (0,0))) (rnd+1),(iy c im (rnd+1) M L k).2.set (ix c.length ((mO c im).getD k (0,0))) ((pz c im k).length:Int)):=rfl
  rw [hq]at fD;refine aj ?_;refine Or.inl ?_;refine af (ai 19) (ae (by decide+kernel) ?_);refine ae (show -9223372036854775808<=c.getD k 0*(c.length:Int)/\c.getD k 0*(c.length:Int)<=9223372036854775807 by omega) ?_;refine aj ?_;refine ae (show 0<=im.getD k 0/\im.getD k 0<(c.length:Int) by omega) ?_;refine ae (show -9223372036854775808<=c.getD k 0*(c.length:Int)+c.getD (im.getD k 0).toNat 0/\c.getD k 0*(c.length:Int)+c.getD (im.getD k 0).toNat 0<=9223372036854775807 by omega) ?_;refine Or.inl ?_;refine af (ai 12) (ae (by decide+kernel) ?_);refine ae (show 0<=c.getD k 0*(c.length:Int)+c.getD (im.getD k 0).toNat 0/\c.getD k 0*(c.length:Int)+c.getD (im.getD k 0).toNat 0<(((iy c im (rnd+1) M L k).1.length:Nat):Int) by rw [z8];exact Yv) ?_;refine ae (λh2=>?_) (λh2=>?_)
  ·have h2:(iy c im (rnd+1) M L k).1.getD (c.getD k 0*(c.length:Int)+c.getD (im.getD k 0).toNat 0).toNat 0≠rnd+1:=h2
   rw [Yw]at h2;have hF:=qH.2.2.2 h2;rw [ajm h2,<-Yw]at fD;have KM:(iy c im (rnd+1) M L k).1.set (c.getD k 0*(c.length:Int)+c.getD (im.getD k 0).toNat 0).toNat (rnd+1)=(iy c im (rnd+1) M L (k+1)).1:=by rw [fD]
   have TM:(iy c im (rnd+1) M L k).2.set (c.getD k 0*(c.length:Int)+c.getD (im.getD k 0).toNat 0).toNat ((pz c im k).length:Int)=(iy c im (rnd+1) M L (k+1)).2:=by rw [fD]
   have OC:=qH.2.1;rw [<-TM,<-Yw]at OC;have Yx:((pz c im k).length:Int)+1=((pz c im (k+1)).length:Nat):=aa;refine Or.inl ?_;refine af (ai 10++[true]) (ae (by decide+kernel) ?_);refine ae (show 0<=c.getD k 0*(c.length:Int)+c.getD (im.getD k 0).toNat 0/\c.getD k 0*(c.length:Int)+c.getD (im.getD k 0).toNat 0<(((iy c im (rnd+1) M L k).1.length:Nat):Int) by rw [z8];exact Yv) ?_;refine ae (show((0:Nat):Int)<=c.getD k 0*(c.length:Int)+c.getD (im.getD k 0).toNat 0 by omega) ?_;refine Or.inl ?_;refine af (ai 10++[true]) (ae (by decide+kernel) ?_);refine ae (show 0<=c.getD k 0*(c.length:Int)+c.getD (im.getD k 0).toNat 0/\c.getD k 0*(c.length:Int)+c.getD (im.getD k 0).toNat 0<(((iy c im (rnd+1) M L k).2.length:Nat):Int) by rw [oO];exact Yv) ?_;refine ae (show((0:Nat):Int)<=c.getD k 0*(c.length:Int)+c.getD (im.getD k 0).toNat 0 by omega) ?_;refine ae (show -9223372036854775808<=((pz c im k).length:Int)+1/\((pz c im k).length:Int)+1<=9223372036854775807 by omega) ?_;refine ae (show 0<=c.getD k 0*(c.length:Int)+c.getD (im.getD k 0).toNat 0/\c.getD k 0*(c.length:Int)+c.getD (im.getD k 0).toNat 0<((((iy c im (rnd+1) M L k).2.set (c.getD k 0*(c.length:Int)+c.getD (im.getD k 0).toNat 0).toNat ((pz c im k).length:Int)).length:Nat):Int) by rw [ajv,oO];exact Yv) ?_;refine ae (show 0<=(k:Int)/\(k:Int)<(N.length:Int) by omega) ?_;refine aj ?_;refine aj ?_;refine nx (k+1,N.set k (((iy c im (rnd+1) M L k).2.set (c.getD k 0*(c.length:Int)+c.getD (im.getD k 0).toNat 0).toNat ((pz c im k).length:Int)).getD (c.getD k 0*(c.length:Int)+c.getD (im.getD k 0).toNat 0).toNat 0)) ⟨aa,by rw [ajv];exact hN,λj hj=>?_⟩ (show c.length - (k+1)<c.length - k by omega) (by repeat' first|refine ae ?_ ?_|exact ag|exact ajs (RO.ints .i64) KM|exact ajs (RO.ints .i64) TM|exact Yx|(show(_:Int)=(_:Int);omega)|omega|exact rfl|(simp only [RO.len];omega))
   by_cases e:j=k
   ·subst e;rw [aB aa];exact OC
   ·rw [getD_set_ne (Ne.symm e)];exact Wo j aa
  ·have h2:(iy c im (rnd+1) M L k).1.getD (c.getD k 0*(c.length:Int)+c.getD (im.getD k 0).toNat 0).toNat 0=rnd+1:=h2
   rw [Yw]at h2;have hF:=qH.2.2.1 h2;rw [ajq h2]at fD;have KM:(iy c im (rnd+1) M L k).1=(iy c im (rnd+1) M L (k+1)).1:=by rw [fD]
   have TM:(iy c im (rnd+1) M L k).2=(iy c im (rnd+1) M L (k+1)).2:=by rw [fD]
   have OC:=qH.2.1;rw [<-TM,<-Yw]at OC;have Yx:((pz c im k).length:Int)=((pz c im (k+1)).length:Nat):=by rw [hF]
   refine ae (show 0<=c.getD k 0*(c.length:Int)+c.getD (im.getD k 0).toNat 0/\c.getD k 0*(c.length:Int)+c.getD (im.getD k 0).toNat 0<(((iy c im (rnd+1) M L k).2.length:Nat):Int) by rw [oO];exact Yv) ?_;refine ae (show 0<=(k:Int)/\(k:Int)<(N.length:Int) by omega) ?_;refine aj ?_;refine aj ?_;refine nx (k+1,N.set k ((iy c im (rnd+1) M L k).2.getD (c.getD k 0*(c.length:Int)+c.getD (im.getD k 0).toNat 0).toNat 0)) ⟨aa,by rw [ajv];exact hN,λj hj=>?_⟩ (show c.length - (k+1)<c.length - k by omega) (by repeat' first|refine ae ?_ ?_|exact ag|exact ajs (RO.ints .i64) KM|exact ajs (RO.ints .i64) TM|exact Yx|(show(_:Int)=(_:Int);omega)|omega|exact rfl|(simp only [RO.len];omega))
   by_cases e:j=k
   ·subst e;rw [aB aa];exact OC
   ·rw [getD_set_ne (Ne.symm e)];exact Wo j aa
 ·have h1:(c.length:Int)<=(k:Int):=h1
  have Zo:k=c.length:=aa;have hNd:N=jY c im:=a6 0 (by rw [fu];exact hN) λj hj=>Wo j aa;have KM:(iy c im (rnd+1) M L k).1=(iy c im (rnd+1) M L c.length).1:=by rw [Zo]
  have TM:(iy c im (rnd+1) M L k).2=(iy c im (rnd+1) M L c.length).2:=by rw [Zo]
  have Yx:((pz c im k).length:Int)=(ao (jY c im):Nat):=by rw [Zo,QM]
  repeat' first|refine ae ?_ ?_|exact ag|exact ajs (RO.ints .i64) hNd|exact ajs (RO.ints .i64) KM|exact ajs (RO.ints .i64) TM|exact Yx|(show(_:Int)=(_:Int);omega)|omega|exact rfl
theorem TL.next{c s:List Int}{rnd:Int}{M L im im2:List Int}(h:TL c s rnd M L im)(hr:rnd+1<=1000000000)(hl:im2.length=c.length)(hi:∀x,x<c.length->0<=im2.getD x 0/\im2.getD x 0<(c.length:Int)):
  TL (jY c im) c (rnd+1) (iy c im (rnd+1) M L c.length).1 (iy c im (rnd+1) M L c.length).2 im2:=by
 have s7:=h.r0;have cX:EU c im (rnd+1) M L 0:=EU.start h.ml h.ll (λx hx=>by have:=h.mlt x hx;omega) (λx hx=>(h.mlt x hx).1) h.Wk;have hI:=EU.upto h.cin h.Yu aa cX c.length (ajl _);have hle:(av (mO c im)).length<=c.length:=by have:=bp (mO c im);rw [jc]at this;exact this
 refine⟨by rw [fu];exact h.n,by rw [fu],λx hx=>?_,by rw [fu];exact hl,λx hx=>?_,by rw [fu];exact hI.lm,by rw [fu];exact hI.ll,λx hx=>⟨hI.lo x hx,hI.hi x hx⟩,λx hx=>by rw [fu];exact hI.Wk x hx,aa⟩
 ·obtain⟨j,hj,rfl⟩:=aS 0 hx
  unfold jY at hj ⊢;rw [bI]at hj;have:=Dm hj;rw [bI,jc];omega
 ·rw [fu]at hx ⊢;exact hi x hx
theorem Na(t:List (List Int))(h:Sh t):QF 65 [.ro (.rows .i64 t)] (.bool (.lit true)):=fN Tryz.func65 (by decide+kernel) rfl (ah rfl) λ_=>by
 have ko:=h.most;have iu:=h.pos;refine ae (λh1=>absurd (show(t.length:Int)=0 from h1) aa) (λ_=>?_);refine ae (λh1=>absurd (show(400:Int)<(t.length:Int)from h1) aa) (λ_=>?_);refine af []<|lp (X:=Nat) (λx=>[(17,.int .i64 x)]) (λ_=>[]) (λx=>x<=t.length) (λx=>t.length - x) 0 (ajk _) ab ?_
 intro x hx;refine ae (λh1=>?_) (λh1=>?_)
 ·have h1:(x:Int)<(t.length:Int):=h1
  have uz:x<t.length:=aa;have r1:=h.len uz;refine aj ?_;refine ae (λh2=>absurd (show((t.getD x []).length:Int)=(t.length:Int) by rw [r1]) h2) (λ_=>?_);refine af []<|lp (X:=Nat) (λy=>[(28,.int .i64 y)]) (λ_=>[]) (λy=>y<=t.length) (λy=>t.length - y) 0 (ajk _) ab ?_
  intro y hy;refine ae (λh3=>?_) (λh3=>?_)
  ·have h3:(y:Int)<((t.getD x []).length:Int):=h3
   have e1:=h.bF uz (y:=y) aa;refine aj ?_;refine ae (λh4=>absurd (show(t.getD x []).getD y 0<0 from h4) aa) (λ_=>?_);refine ae (λh4=>absurd (show(t.length:Int)<=(t.getD x []).getD y 0 from h4) aa) (λ_=>?_);refine aj ?_;exact nx (y+1) (show y+1<=_ by omega) (show t.length - (y+1)<t.length - y by omega) ab
  ·have h3:((t.getD x []).length:Int)<=(y:Int):=h3
   refine aj ?_;exact nx (x+1) (show x+1<=_ by omega) (show t.length - (x+1)<t.length - x by omega) ab
 ·exact ae rfl trivial
section
variable{t:List (List Int)}{p c c0 s im:List Int}{rnd rnd0:Int}{M L:List Int}{gens:List Int}{i:Nat}
theorem Gy(hs:Semi t)(hg:qf t gens)(h:∀g∈gens,∀x y,x<t.length->y<t.length->c.getD x 0=c.getD y 0->c.getD (en t g.toNat x) 0=c.getD (en t g.toNat y) 0/\c.getD (en t x g.toNat) 0=c.getD (en t y g.toNat) 0):Cg t c 0:=by
 have hS:=hs.toSh
 have key:∀{s:Nat},Mk t gens s->s<t.length/\∀x y,x<t.length->y<t.length->c.getD x 0=c.getD y 0->c.getD (en t s x) 0=c.getD (en t s y) 0/\c.getD (en t x s) 0=c.getD (en t y s) 0:=λ{s} m=>by
  induction m with
  |gen hm=>exact⟨by have:=hg.el _ hm;omega,h _ hm⟩
  |mul ha hb i1 i2=>
   refine⟨(hS.bF i1.1 i2.1).2,λx y hx hy e=>⟨?_,?_⟩⟩
   ·rw [kP hs.assoc i1.1 i2.1 hx,kP hs.assoc i1.1 i2.1 hy]
    exact(i1.2 _ _ (hS.bF i2.1 hx).2 (hS.bF i2.1 hy).2 (i2.2 x y hx hy e).1).1
   ·rw [<-kP hs.assoc hx i1.1 i2.1,<-kP hs.assoc hy i1.1 i2.1]
    exact(i2.2 _ _ (hS.bF hx i1.1).2 (hS.bF hy i1.1).2 (i1.2 x y hx hy e).2).2
 exact λx y s hx hy gv e=>⟨λ_=>((key (hg.all s gv)).2 x y hx hy e).1,λ_=>((key (hg.all s gv)).2 x y hx hy e).2⟩
structure CoB(t:List (List Int))(p c:List Int):Prop where
 cl:c.length=t.length
 cn:canon c=c
 ref:∀x y,x<t.length->y<t.length->c.getD x 0=c.getD y 0->p.getD x 0=p.getD y 0
 syn:∀x y,x<t.length->y<t.length->AR t p x y->c.getD x 0=c.getD y 0
structure R7(t:List (List Int))(p c0 c:List Int)(gens:List Int)(i:Nat):Prop extends CoB t p c where
 fin:∀x y,x<t.length->y<t.length->c.getD x 0=c.getD y 0->c0.getD x 0=c0.getD y 0
 st:∀g∈gens.take i,∀x y,x<t.length->y<t.length->c.getD x 0=c.getD y 0->c0.getD (en t g.toNat x) 0=c0.getD (en t g.toNat y) 0/\c0.getD (en t x g.toNat) 0=c0.getD (en t y g.toNat) 0
theorem R7.start(h:CoB t p c):R7 t p c c gens 0:=⟨h,λ_ _ _ _ e=>e,λg hg=>by simp at hg⟩
theorem R7.next(hs:Semi t)(hg:∀g∈gens,0<=g/\g<(t.length:Int))(h:R7 t p c0 c gens i)(hi:i<gens.length){a b:List Int}(ha:∀x,x<t.length->(a.getD x 0).toNat=en t (gens.getD i 0).toNat x)(hb:∀x,x<t.length->(b.getD x 0).toNat=en t x (gens.getD i 0).toNat):
  R7 t p c0 (jY (jY c a) b) gens (i+1):=by
 have hS:=hs.toSh;have Xz:=hg _ (al (d:=0) hi);have ug:(gens.getD i 0).toNat<t.length:=aa;have da:=h.cl;have l1:(jY c a).length=t.length:=by rw [fu];exact da
 have l2:(jY (jY c a) b).length=t.length:=by rw [fu];exact l1
 have k1:∀x y,x<t.length->y<t.length->((jY c a).getD x 0=(jY c a).getD y 0↔c.getD x 0=c.getD y 0/\c.getD (en t (gens.getD i 0).toNat x) 0=c.getD (en t (gens.getD i 0).toNat y) 0):=λx y hx hy=>by
  rw [Hz aa aa,ha x hx,ha y hy]
 have k2:∀x y,x<t.length->y<t.length->((jY (jY c a) b).getD x 0=(jY (jY c a) b).getD y 0↔(jY c a).getD x 0=(jY c a).getD y 0/\(jY c a).getD (en t x (gens.getD i 0).toNat) 0=(jY c a).getD (en t y (gens.getD i 0).toNat) 0):=λx y hx hy=>by
  rw [Hz aa aa,hb x hx,hb y hy]
 have down:∀x y,x<t.length->y<t.length->(jY (jY c a) b).getD x 0=(jY (jY c a) b).getD y 0->c.getD x 0=c.getD y 0/\c.getD (en t (gens.getD i 0).toNat x) 0=c.getD (en t (gens.getD i 0).toNat y) 0/\c.getD (en t x (gens.getD i 0).toNat) 0=c.getD (en t y (gens.getD i 0).toNat) 0:=λx y hx hy e=>by
  have e1:=(k2 x y hx hy).1 e;have e2:=(k1 x y hx hy).1 e1.1;have e3:=(k1 _ _ (hS.bF hx ug).2 (hS.bF hy ug).2).1 e1.2;exact⟨e2.1,e2.2,e3.1⟩
 refine⟨⟨l2,JL _ _,λx y hx hy e=>h.ref x y hx hy (down x y hx hy e).1,λx y hx hy e=>?_⟩,λx y hx hy e=>h.fin x y hx hy (down x y hx hy e).1,λg tq x y hx hy e=>?_⟩
 ·have up:∀x y,x<t.length->y<t.length->AR t p x y->(jY c a).getD x 0=(jY c a).getD y 0:=λx y hx hy e=>
   (k1 x y hx hy).2 ⟨h.syn x y hx hy e,h.syn _ _ (hS.bF ug hx).2 (hS.bF ug hy).2 (FK hs hx hy ug e).1⟩
  exact(k2 x y hx hy).2 ⟨up x y hx hy e,up _ _ (hS.bF hx ug).2 (hS.bF hy ug).2 (FK hs hx hy ug e).2⟩
 ·have hd:=down x y hx hy e
  rw [cU (d:=0) hi]at tq;rcases ajK.1 tq with tq|tq
  ·exact h.st g tq x y hx hy hd.1
  ·rw [ajC]at tq
   subst tq;exact⟨h.fin _ _ (hS.bF ug hx).2 (hS.bF ug hy).2 hd.2.1,h.fin _ _ (hS.bF hx ug).2 (hS.bF hy ug).2 hd.2.2⟩
theorem R7.done(hs:Semi t)(hg:qf t gens)(h:R7 t p c0 c gens i)(h0:CoB t p c0)(hi:gens.length<=i):ao c0<=ao c/\(ao c0=ao c->c=qQ t p):=by
 have hc:=lN h0.cn h.cn (by rw [h0.cl,h.cl]) (λx y hx hy e=>h.fin x y (by rw [h0.cl]at hx;exact hx) (by rw [h0.cl]at hy;exact hy) e);refine⟨hc.1,λe=>?_⟩;have e:=hc.2 e;have cX:=h.st;rw [aj4 hi]at cX;rw [<-e]at cX;rw [<-h.cn];exact QJ hs h.cl h.ref h.syn (Gy hs hg cX)
end
def b0(b:Bool):Nat:=match b with|true=>0|false=>1
set_option maxHeartbeats 2000000 in
theorem QR(t:List (List Int))(p:List Int)(hs:Semi t)(hl:p.length=t.length)(hv:bz p):QF 73 [.ro (.rows .i64 t),.ro (.ints .i64 p)] (.new (.ints .i64 (qQ t p))):=fN Tryz.func73 (by decide+kernel) rfl (ah rfl) λ_=>by
 have hS:=hs.toSh;have ko:=hs.most;refine Or.inl (cq (Na t hS) (ae rfl ag) ?_);refine ae (λh1=>absurd (show(p.length:Int)=(t.length:Int) by omega) h1) (λ_=>?_);refine Or.inl (cq (fJ p) (ae rfl ag) ?_);refine ae (λh2=>?_) (λ_=>?_)
 ·have h2:(!decide (bz p))=true:=h2
  rw [aj3 hv]at h2;cases h2
 have Wx:(t.length:Int)*(t.length:Int)=((t.length*t.length:Nat):Int):=by rw [Int.natCast_mul]
 have Wh:t.length*t.length<=160000:=akf (show t.length<=400 from ko) ko;refine Or.inl ?_;refine af (ai 14++[true]) (ae (by decide+kernel) ?_);refine cq (lu p aa) (ae rfl ag) ?_;refine aj ?_;refine aj ?_;refine aj ?_;refine aj ?_;refine aj ?_;refine aj ?_;refine aj ?_;refine aj ?_;refine Or.inl (cq (sE p) (ae rfl ag) ?_);refine Or.inr (Or.inr (ce (qT t hS) (ae rfl ag) ?_));intro gens hg;refine aj ?_;refine aj ?_;have ecn:(if bz p then ((ao p:Nat):Int) else 0)=(ao p:Nat):=ajq hv;have iu:=hS.pos;have hcp:0<ao p:=Eo hS hl;have zr:∀n,∀x∈List.replicate n (0:Int),x=0:=λn x hx=>List.eq_of_mem_replicate hx;have zg:∀(n x:Nat),(List.replicate n (0:Int)).getD x 0=0:=λn x=>by simp only [List.getD,ajH];split<;>rfl
 have hB0:CoB t p p:=⟨hl,hv.2,λ_ _ _ _ e=>e,λ_ _ _ _ e=>e.own⟩
 have hQ0:TL p (List.replicate (t.length:Int).toNat 0) 0 (List.replicate ((t.length:Int)*(t.length:Int)).toNat 0) (List.replicate ((t.length:Int)*(t.length:Int)).toNat 0) (List.replicate (t.length:Int).toNat 0):=
  ⟨aa,by simp;omega,λx hx=>by
   obtain⟨j,hj,rfl⟩:=aS 0 hx;have:=dx hv.2 hj;have hle:ao p<=p.length:=bp p;omega,by simp;omega,λx hx=>by rw [zg];omega,by rw [ajz,Wx,ajr,hl],by rw [ajz,Wx,ajr,hl],λx hx=>by rw [zr _ x hx];omega,λx hx=>by rw [zr _ x hx];omega,aa⟩
 refine af []<|lp7 (λ(b:Int) (_ _:List Int) (_:Int) (_ _ _:List Int)=>[(9,.int .i64 b)]) (λ_ c s rnd M L im=>[(6,.box [.vec 31,.vec 33,.int .i64 (ao c:Nat),.int .i64 rnd,.vec 37,.vec 41]),(31,.vec 0 (.ints .i64 c) []),(33,.vec 0 (.ints .i64 s) []),(37,.vec 0 (.ints .i64 M) []),(41,.vec 0 (.ints .i64 L) []),(49,.vec 0 (.ints .i64 im) [])]) (λb c s rnd M L im=>TL c s rnd M L im/\CoB t p c/\(b≠(ao c:Int)->rnd<=800*(ao c:Int))/\(b=(ao c:Int)->c=qQ t p)) (λb c _ _ _ _ _=>2*(t.length - ao c)+b0 (decide (b=(ao c:Int)))) 0 p _ 0 _ _ _ ⟨hQ0,hB0,λ_=>by omega,λh=>by omega⟩ (by repeat' first|refine ae ?_ ?_|exact ag|exact ecn|(show(_:Int)=(_:Int);omega)|omega|exact rfl) ?_
 rintro b c s rnd M L im ⟨hQ,hB,SM,hbs⟩;have da:=hB.cl;have afs:ao c<=t.length:=by rw [<-da];exact bp c
 refine ae (λh1=>?_) (λh1=>?_)
 ·have h1:b≠(ao c:Int):=h1
  have u5:=SM h1;refine af []<|lp7 (λ(i:Nat) (_ _:List Int) (_:Int) (_ _ _:List Int)=>[(58,.int .i64 i)]) (λ_ d s2 rd M2 L2 im2=>[(6,.box [.vec 31,.vec 33,.int .i64 (ao d:Nat),.int .i64 rd,.vec 37,.vec 41]),(31,.vec 0 (.ints .i64 d) []),(33,.vec 0 (.ints .i64 s2) []),(37,.vec 0 (.ints .i64 M2) []),(41,.vec 0 (.ints .i64 L2) []),(49,.vec 0 (.ints .i64 im2) [])]) (λi d s2 rd M2 L2 im2=>i<=gens.length/\TL d s2 rd M2 L2 im2/\R7 t p c d gens i/\rd<=rnd+2*(i:Int)) (λi _ _ _ _ _ _=>gens.length - i) 0 c s rnd M L im ⟨ajk _,hQ,R7.start hB,aa⟩ ab ?_
  rintro i d s2 rd M2 L2 im2 ⟨hi,hQ2,hG,Wq⟩;have PU:=hG.cl;have Mc:ao d<=t.length:=by rw [<-PU];exact bp d
  refine ae (λh2=>?_) (λh2=>?_)
  ·have h2:(i:Int)<(gens.length:Int):=h2
   have bD:i<gens.length:=aa;have Xz:=hg.1.el _ (al (d:=0) bD);have ug:(gens.getD i 0).toNat<t.length:=aa;have r1:=hS.len ug;have ha:∀x,x<t.length->((t.getD (gens.getD i 0).toNat []).getD x 0).toNat=en t (gens.getD i 0).toNat x:=λx hx=>rfl;have Uu:∀x,x<d.length->0<=(t.getD (gens.getD i 0).toNat []).getD x 0/\(t.getD (gens.getD i 0).toNat []).getD x 0<(d.length:Int):=λx hx=>by have:=hS.bF ug (y:=x) aa;omega
   have hQa:TL d s2 rd M2 L2 (t.getD (gens.getD i 0).toNat []):={ hQ2 with il:=aa,Yu:=Uu };refine aj ?_;refine ae (show 0<=gens.getD i 0/\gens.getD i 0<(t.length:Int) by omega) ?_;refine ae (show im2.length=(t.getD (gens.getD i 0).toNat []).length by rw [r1,<-PU];exact hQ2.il) ?_;refine Or.inr (Or.inl (cm [] [(1000,6),(1001,31),(1002,33),(1003,37),(1004,41),(1005,49)] (zE d s2 (ao d:Nat) rd M2 L2 (t.getD (gens.getD i 0).toNat []) hQa) ?_));refine ae ab ?_;refine af []<|kF (λ(x:Nat) (_:List Int)=>[(72,.int .i64 x)]) (λ_ I=>[(49,.vec 0 (.ints .i64 I) [])]) (λx I=>x<=t.length/\I.length=t.length/\∀x',x'<x->I.getD x' 0=(t.getD x' []).getD (gens.getD i 0).toNat 0) (λx _=>t.length - x) 0 (t.getD (gens.getD i 0).toNat []) ⟨ajk _,r1,λx h=>absurd h (aju _)⟩ ab ?_
   rintro x I ⟨hx,V5,hI⟩;refine ae (λh3=>?_) (λh3=>?_)
   ·have h3:(x:Int)<(t.length:Int):=h3
    have uz:x<t.length:=aa;have r2:=hS.len uz;refine aj ?_;refine ae (show 0<=gens.getD i 0/\gens.getD i 0<((t.getD x []).length:Int) by omega) ?_;refine ae (show 0<=(x:Int)/\(x:Int)<(I.length:Int) by omega) ?_;refine aj ?_;refine aj ?_;refine nx (x+1,I.set x ((t.getD x []).getD (gens.getD i 0).toNat 0)) ⟨aa,by rw [ajv];exact V5,λx' mI=>?_⟩ (show t.length - (x+1)<t.length - x by omega) ab
    by_cases e:x'=x
    ·subst e;rw [aB aa]
    ·rw [getD_set_ne (Ne.symm e)];exact hI x' aa
   ·have h3:(t.length:Int)<=(x:Int):=h3
    have hb:∀y,y<t.length->(I.getD y 0).toNat=en t y (gens.getD i 0).toNat:=λy hy=>by rw [hI y aa];rfl
    have hbi:∀y,y<d.length->0<=I.getD y 0/\I.getD y 0<(d.length:Int):=λy hy=>by
     rw [hI y aa];have:=hS.bF (x:=y) (y:=(gens.getD i 0).toNat) aa ug;omega
    have hQb:=hQa.next (im2:=I) aa aa hbi;have hQc:=hQb.next (im2:=I) aa (by rw [fu];omega) (λy hy=>by rw [fu]at hy ⊢;exact hbi y hy);refine Or.inr (Or.inl (cm [] [(1000,6),(1001,33),(1002,31),(1003,37),(1004,41),(1005,49)] (zE (jY d (t.getD (gens.getD i 0).toNat [])) d (ao (jY d (t.getD (gens.getD i 0).toNat [])):Nat) (rd+1) (iy d (t.getD (gens.getD i 0).toNat []) (rd+1) M2 L2 d.length).1 (iy d (t.getD (gens.getD i 0).toNat []) (rd+1) M2 L2 d.length).2 I hQb) ?_));refine ae ab ?_;refine aj ?_;exact nx (i+1,jY (jY d (t.getD (gens.getD i 0).toNat [])) I,jY d (t.getD (gens.getD i 0).toNat []),rd+1+1,_,_,I) ⟨aa,hQc,hG.next hs hg.1.el bD ha hb,aa⟩ (show gens.length - (i+1)<gens.length - i by omega) ab
  ·have h2:(gens.length:Int)<=(i:Int):=h2
   have abx:=hG.done hs hg.1 hB aa;refine nx ((ao c:Int),d,s2,rd,M2,L2,im2) ⟨hQ2,hG.toCoB,λh4=>by omega,λh4=>abx.2 aa⟩ ?_ ab;show 2*(t.length - ao d)+b0 (decide ((ao c:Int)=(ao d:Int)))<2*(t.length - ao c)+b0 (decide (b=(ao c:Int)));rw [akp h1];show _<2*(t.length - ao c)+1
   by_cases e:ao c=ao d
   ·rw [aj3 aa]
    show 2*(t.length - ao d)+0<_;omega
   ·rw [akp aa]
    show 2*(t.length - ao d)+1<_;omega
 ·have h1:b=(ao c:Int):=h1
  refine ae (ae aa ?_) trivial;show RO.ints .i64 c=_;rw [hbs h1]
end Go.Proofs.YtgailjhnfghkgaaGreatDoor
end
