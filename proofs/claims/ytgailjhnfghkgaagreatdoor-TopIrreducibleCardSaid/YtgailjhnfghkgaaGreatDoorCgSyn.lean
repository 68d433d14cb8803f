import Derived.Test.YtgailjhnfghkgaaGreatDoorSgpLaw
import Derived.Test.YtgailjhnfghkgaaGreatDoorDfa
import Derived.Test.YtgailjhnfghkgaaGreatDoorCgFor
import Derived.Test.YtgailjhnfghkgaaGreatDoorCg
import Derived.Test.YtgailjhnfghkgaaGreatDoorQuoLaw
section
namespace Go.Proofs.YtgailjhnfghkgaaGreatDoor
open Go Go.AM
set_option maxRecDepth 100000
abbrev spS(a b:Nat)(c s:List Int)(gh rnd:Int)(M L im:List Int):ai:=
 [(1000,.box [.vec a,.vec b,.int .i64 gh,.int .i64 rnd,.vec 1003,.vec 1004]),(a,.vec 0 (.ints .i64 c) []),(b,.vec 0 (.ints .i64 s) []),(1003,.vec 0 (.ints .i64 M) []),(1004,.vec 0 (.ints .i64 L) []),(1005,.vec 0 (.ints .i64 im) [])]
structure RU(c s:List Int)(rnd:Int)(M L im:List Int):Prop where
 n:c.length<=400
 sl:s.length=c.length
 cin:∀x∈c,0<=x/\x<(c.length:Int)
 il:im.length=c.length
 W2:∀x,x<c.length->0<=im.getD x 0/\im.getD x 0<(c.length:Int)
 ml:M.length=c.length*c.length
 ll:L.length=c.length*c.length
 mlt:∀x∈M,0<=x/\x<=rnd
 UT:∀x∈L,0<=x/\x<=(c.length:Int)
 r0:0<=rnd/\rnd<=1000000000
set_option maxHeartbeats 1000000 in
theorem yX(c s:List Int)(gh rnd:Int)(M L im:List Int)(h:RU c s rnd M L im):MF 115 [.ptr 1000 0,.vec 1005] (spS 1001 1002 c s gh rnd M L im) (.cC [])
  ([(1000,.box [.vec 1002,.vec 1001,.int .i64 (ak (jL c im):Nat),.int .i64 (rnd+1),.vec 1003,.vec 1004]),(1001,.vec 0 (.ints .i64 c) []),(1002,.vec 0 (.ints .i64 (jL c im)) []),(1003,.vec 0 (.ints .i64 (gY c im (rnd+1) M L c.length).1) []),(1004,.vec 0 (.ints .i64 (gY c im (rnd+1) M L c.length).2) []),(1005,.vec 0 (.ints .i64 im) [])]):=tf Tryz.func115 (by decide+kernel) rfl (ah rfl) λ _=>by
 have hn:=h.n;have gi:=h.sl;have bL:=h.il;have sA:=h.r0;have c8:DZ c im (rnd+1) M L 0:=DZ.start h.ml h.ll (λ x hx=>by have:=h.mlt x hx;omega) (λ x hx=>(h.mlt x hx).1) h.UT;have hup:=DZ.upto h.cin h.W2 aa c8;refine ae aa ?_;refine af []<|lA (λ(k:Nat) (_:List Int)=>[(27,.int .i64 k)]) (λ k N=>[(1000,.box [.vec 1001,.vec 1002,.int .i64 ((o5 c im k).length:Nat),.int .i64 (rnd+1),.vec 1003,.vec 1004]),(1002,.vec 0 (.ints .i64 N) []),(1003,.vec 0 (.ints .i64 (gY c im (rnd+1) M L k).1) []),(1004,.vec 0 (.ints .i64 (gY c im (rnd+1) M L k).2) [])]) (λ k N=>k<=c.length/\N.length=c.length/\∀j,j<k->N.getD j 0=(jL c im).getD j 0) (λ k _=>c.length - k) 0 s ⟨Nat.zero_le _,gi,λ j h=>absurd h (Nat.not_lt_zero _)⟩ ab ?_
 rintro k N ⟨hk,hN,Vf⟩;have hI:=hup k hk;refine ae (λ h1=>?_) (λ h1=>?_)
 ·have h1:(k:Int)<(c.length:Int):=h1
  have lr:k<c.length:=aa;have hq:=tX (im:=im) lr;have RF:=h.cin _ (an (d:=0) lr);have x3:=h.W2 k lr;have zt:=h.cin _ (an (d:=0) (l:=c) (i:=(im.getD k 0).toNat) aa);have Lh:=EO (q:=(c.getD k 0,c.getD (im.getD k 0).toNat 0)) RF.1 RF.2 zt.1 zt.2;have p8:=hI.next h.cin h.W2 aa lr;rw [hq]at p8;have ze:=hI.lm;have ot:=hI.ll;have hE:(gX c.length (c.getD k 0,c.getD (im.getD k 0).toNat 0):Int)=c.getD k 0*(c.length:Int)+c.getD (im.getD k 0).toNat 0:=Lh.2;have W3:0<=c.getD k 0*(c.length:Int)+c.getD (im.getD k 0).toNat 0/\c.getD k 0*(c.length:Int)+c.getD (im.getD k 0).toNat 0<((c.length*c.length:Nat):Int):=aa;have UE:c.length*c.length<=160000:=Nat.mul_le_mul (show c.length<=400 from hn) hn;have W4:(c.getD k 0*(c.length:Int)+c.getD (im.getD k 0).toNat 0).toNat=gX c.length (c.getD k 0,c.getD (im.getD k 0).toNat 0):=rfl;have hmul:0<=c.getD k 0*(c.length:Int):=Int.mul_nonneg RF.1 aa
  have FP:(o5 c im k).length<=k:=by
   have:=aZ ((mz c im).take k);rw [List.length_take]at this;unfold o5;omega
  have jS:gY c im (rnd+1) M L (k+1)=if (gY c im (rnd+1) M L k).1.getD (gX c.length ((mz c im).getD k (0,0))) 0=rnd+1 then gY c im (rnd+1) M L k
   else ((gY c im (rnd+1) M L k).1.set (gX c.length ((mz c im).getD k (0,0))) (rnd+1),(gY c im (rnd+1) M L k).2.set (gX c.length ((mz c im).getD k (0,0))) ((o5 c im k).length:Int)):=rfl
  rw [hq]at jS;refine ae aa ?_;refine Or.inl ?_;refine af [false,false,false,false,false,false,false,false,false,false,false,false,false,false,false,false,false,false,false] (ae (by decide+kernel) ?_);refine ae (show -9223372036854775808<=c.getD k 0*(c.length:Int)/\c.getD k 0*(c.length:Int)<=9223372036854775807 by omega) ?_;refine ae aa ?_;refine ae (show 0<=im.getD k 0/\im.getD k 0<(c.length:Int) by omega) ?_;refine ae (show -9223372036854775808<=c.getD k 0*(c.length:Int)+c.getD (im.getD k 0).toNat 0/\c.getD k 0*(c.length:Int)+c.getD (im.getD k 0).toNat 0<=9223372036854775807 by omega) ?_;refine Or.inl ?_;refine af [false,false,false,false,false,false,false,false,false,false,false,false] (ae (by decide+kernel) ?_);refine ae (show 0<=c.getD k 0*(c.length:Int)+c.getD (im.getD k 0).toNat 0/\c.getD k 0*(c.length:Int)+c.getD (im.getD k 0).toNat 0<(((gY c im (rnd+1) M L k).1.length:Nat):Int) by rw [ze];exact W3) ?_;refine ae (λ h2=>?_) (λ h2=>?_)
  ·have h2:(gY c im (rnd+1) M L k).1.getD (c.getD k 0*(c.length:Int)+c.getD (im.getD k 0).toNat 0).toNat 0≠rnd+1:=h2
   rw [W4]at h2;have hF:=p8.2.2.2 h2;rw [if_neg h2,<-W4]at jS;have N5:(gY c im (rnd+1) M L k).1.set (c.getD k 0*(c.length:Int)+c.getD (im.getD k 0).toNat 0).toNat (rnd+1)=(gY c im (rnd+1) M L (k+1)).1:=by rw [jS]
   have RV:(gY c im (rnd+1) M L k).2.set (c.getD k 0*(c.length:Int)+c.getD (im.getD k 0).toNat 0).toNat ((o5 c im k).length:Int)=(gY c im (rnd+1) M L (k+1)).2:=by rw [jS]
   have Nc:=p8.2.1;rw [<-RV,<-W4]at Nc;have W5:((o5 c im k).length:Int)+1=((o5 c im (k+1)).length:Nat):=aa;refine Or.inl ?_;refine af [false,false,false,false,false,false,false,false,false,false,true] (ae (by decide+kernel) ?_);refine ae (show 0<=c.getD k 0*(c.length:Int)+c.getD (im.getD k 0).toNat 0/\c.getD k 0*(c.length:Int)+c.getD (im.getD k 0).toNat 0<(((gY c im (rnd+1) M L k).1.length:Nat):Int) by rw [ze];exact W3) ?_;refine ae (show((0:Nat):Int)<=c.getD k 0*(c.length:Int)+c.getD (im.getD k 0).toNat 0 by omega) ?_;refine Or.inl ?_;refine af [false,false,false,false,false,false,false,false,false,false,true] (ae (by decide+kernel) ?_);refine ae (show 0<=c.getD k 0*(c.length:Int)+c.getD (im.getD k 0).toNat 0/\c.getD k 0*(c.length:Int)+c.getD (im.getD k 0).toNat 0<(((gY c im (rnd+1) M L k).2.length:Nat):Int) by rw [ot];exact W3) ?_;refine ae (show((0:Nat):Int)<=c.getD k 0*(c.length:Int)+c.getD (im.getD k 0).toNat 0 by omega) ?_;refine ae (show -9223372036854775808<=((o5 c im k).length:Int)+1/\((o5 c im k).length:Int)+1<=9223372036854775807 by omega) ?_;refine ae (show 0<=c.getD k 0*(c.length:Int)+c.getD (im.getD k 0).toNat 0/\c.getD k 0*(c.length:Int)+c.getD (im.getD k 0).toNat 0<((((gY c im (rnd+1) M L k).2.set (c.getD k 0*(c.length:Int)+c.getD (im.getD k 0).toNat 0).toNat ((o5 c im k).length:Int)).length:Nat):Int) by rw [List.length_set,ot];exact W3) ?_;refine ae (show 0<=(k:Int)/\(k:Int)<(N.length:Int) by omega) ?_;refine ae aa ?_;refine ae aa ?_;refine nx (k+1,N.set k (((gY c im (rnd+1) M L k).2.set (c.getD k 0*(c.length:Int)+c.getD (im.getD k 0).toNat 0).toNat ((o5 c im k).length:Int)).getD (c.getD k 0*(c.length:Int)+c.getD (im.getD k 0).toNat 0).toNat 0)) ⟨aa,by rw [List.length_set];exact hN,λ j hj=>?_⟩ (show c.length - (k+1)<c.length - k by omega) (by repeat' first|refine ae ?_ ?_|exact ag|exact congrArg (RO.ints .i64) N5|exact congrArg (RO.ints .i64) RV|exact W5|(show(_:Int)=(_:Int);omega)|omega|exact rfl|(simp only [RO.len];omega))
   by_cases e:j=k
   ·subst e;rw [aA aa];exact Nc
   ·rw [getD_set_ne (Ne.symm e)];exact Vf j aa
  ·have h2:(gY c im (rnd+1) M L k).1.getD (c.getD k 0*(c.length:Int)+c.getD (im.getD k 0).toNat 0).toNat 0=rnd+1:=h2
   rw [W4]at h2;have hF:=p8.2.2.1 h2;rw [if_pos h2]at jS;have N5:(gY c im (rnd+1) M L k).1=(gY c im (rnd+1) M L (k+1)).1:=by rw [jS]
   have RV:(gY c im (rnd+1) M L k).2=(gY c im (rnd+1) M L (k+1)).2:=by rw [jS]
   have Nc:=p8.2.1;rw [<-RV,<-W4]at Nc;have W5:((o5 c im k).length:Int)=((o5 c im (k+1)).length:Nat):=by rw [hF]
   refine ae (show 0<=c.getD k 0*(c.length:Int)+c.getD (im.getD k 0).toNat 0/\c.getD k 0*(c.length:Int)+c.getD (im.getD k 0).toNat 0<(((gY c im (rnd+1) M L k).2.length:Nat):Int) by rw [ot];exact W3) ?_;refine ae (show 0<=(k:Int)/\(k:Int)<(N.length:Int) by omega) ?_;refine ae aa ?_;refine ae aa ?_;refine nx (k+1,N.set k ((gY c im (rnd+1) M L k).2.getD (c.getD k 0*(c.length:Int)+c.getD (im.getD k 0).toNat 0).toNat 0)) ⟨aa,by rw [List.length_set];exact hN,λ j hj=>?_⟩ (show c.length - (k+1)<c.length - k by omega) (by repeat' first|refine ae ?_ ?_|exact ag|exact congrArg (RO.ints .i64) N5|exact congrArg (RO.ints .i64) RV|exact W5|(show(_:Int)=(_:Int);omega)|omega|exact rfl|(simp only [RO.len];omega))
   by_cases e:j=k
   ·subst e;rw [aA aa];exact Nc
   ·rw [getD_set_ne (Ne.symm e)];exact Vf j aa
 ·have h1:(c.length:Int)<=(k:Int):=h1
  have XR:k=c.length:=aa;have hNd:N=jL c im:=bj 0 (by rw [fg];exact hN) λ j hj=>Vf j aa;have N5:(gY c im (rnd+1) M L k).1=(gY c im (rnd+1) M L c.length).1:=by rw [XR]
  have RV:(gY c im (rnd+1) M L k).2=(gY c im (rnd+1) M L c.length).2:=by rw [XR]
  have W5:((o5 c im k).length:Int)=(ak (jL c im):Nat):=by rw [XR,Pn]
  repeat' first|refine ae ?_ ?_|exact ag|exact congrArg (RO.ints .i64) hNd|exact congrArg (RO.ints .i64) N5|exact congrArg (RO.ints .i64) RV|exact W5|(show(_:Int)=(_:Int);omega)|omega|exact rfl
theorem RU.next{c s:List Int}{rnd:Int}{M L im im2:List Int}(h:RU c s rnd M L im)(hr:rnd+1<=1000000000)(hl:im2.length=c.length)(hi:∀x,x<c.length->0<=im2.getD x 0/\im2.getD x 0<(c.length:Int)):
  RU (jL c im) c (rnd+1) (gY c im (rnd+1) M L c.length).1 (gY c im (rnd+1) M L c.length).2 im2:=by
 have sA:=h.r0;have c8:DZ c im (rnd+1) M L 0:=DZ.start h.ml h.ll (λ x hx=>by have:=h.mlt x hx;omega) (λ x hx=>(h.mlt x hx).1) h.UT;have hI:=DZ.upto h.cin h.W2 aa c8 c.length (Nat.le_refl _);have hle:(ar (mz c im)).length<=c.length:=by have:=aZ (mz c im);rw [iN]at this;exact this
 refine⟨by rw [fg];exact h.n,by rw [fg],λ x hx=>?_,by rw [fg];exact hl,λ x hx=>?_,by rw [fg];exact hI.lm,by rw [fg];exact hI.ll,λ x hx=>⟨hI.lo x hx,hI.hi x hx⟩,λ x hx=>by rw [fg];exact hI.UT x hx,aa⟩
 ·obtain⟨j,hj,rfl⟩:=aV 0 hx
  unfold jL at hj ⊢;rw [bD]at hj;have:=Cm hj;rw [bD,iN];omega
 ·rw [fg]at hx ⊢;exact hi x hx
end Go.Proofs.YtgailjhnfghkgaaGreatDoor
end
section
namespace Go.Proofs.YtgailjhnfghkgaaGreatDoor
open Go Go.AM
set_option maxRecDepth 100000
theorem LG(t:List (List Int))(h:Sh t):QF 65 [.ro (.rows .i64 t)] (.bool (.lit true)):=kr Tryz.func65 (by decide+kernel) rfl (ah rfl) λ _=>by
 have kT:=h.most;have gV:=h.pos;refine ae (λ h1=>absurd (show(t.length:Int)=0 from h1) aa) (λ _=>?_);refine ae (λ h1=>absurd (show(400:Int)<(t.length:Int)from h1) aa) (λ _=>?_);refine af []<|lp (X:=Nat) (λ x=>[(17,.int .i64 x)]) (λ _=>[]) (λ x=>x<=t.length) (λ x=>t.length - x) 0 (Nat.zero_le _) ab ?_
 intro x hx;refine ae (λ h1=>?_) (λ h1=>?_)
 ·have h1:(x:Int)<(t.length:Int):=h1
  have zf:x<t.length:=aa;have r1:=h.len zf;refine ae aa ?_;refine ae (λ h2=>absurd (show((t.getD x []).length:Int)=(t.length:Int) by rw [r1]) h2) (λ _=>?_);refine af []<|lp (X:=Nat) (λ y=>[(28,.int .i64 y)]) (λ _=>[]) (λ y=>y<=t.length) (λ y=>t.length - y) 0 (Nat.zero_le _) ab ?_
  intro y hy;refine ae (λ h3=>?_) (λ h3=>?_)
  ·have h3:(y:Int)<((t.getD x []).length:Int):=h3
   have e1:=h.bA zf (y:=y) aa;refine ae aa ?_;refine ae (λ h4=>absurd (show(t.getD x []).getD y 0<0 from h4) aa) (λ _=>?_);refine ae (λ h4=>absurd (show(t.length:Int)<=(t.getD x []).getD y 0 from h4) aa) (λ _=>?_);refine ae aa ?_;exact nx (y+1) (show y+1<=_ by omega) (show t.length - (y+1)<t.length - y by omega) ab
  ·have h3:((t.getD x []).length:Int)<=(y:Int):=h3
   refine ae aa ?_;exact nx (x+1) (show x+1<=_ by omega) (show t.length - (x+1)<t.length - x by omega) ab
 ·exact ae rfl trivial
section
variable{t:List (List Int)}{p c c0 s im:List Int}{rnd rnd0:Int}{M L:List Int}{gens:List Int}{i:Nat}
theorem FB(hs:Semi t)(hg:pL t gens)(h:∀g∈gens,∀x y,x<t.length->y<t.length->c.getD x 0=c.getD y 0->c.getD (en t g.toNat x) 0=c.getD (en t g.toNat y) 0/\c.getD (en t x g.toNat) 0=c.getD (en t y g.toNat) 0):Cg t c 0:=by
 have hS:=hs.toSh
 have key:∀{s:Nat},Mk t gens s->s<t.length/\∀x y,x<t.length->y<t.length->c.getD x 0=c.getD y 0->c.getD (en t s x) 0=c.getD (en t s y) 0/\c.getD (en t x s) 0=c.getD (en t y s) 0:=λ{s} m=>by
  induction m with
  |gen hm=>exact⟨by have:=hg.el _ hm;omega,h _ hm⟩
  |mul ha hb i1 i2=>
   refine⟨(hS.bA i1.1 i2.1).2,λ x y hx hy e=>⟨?_,?_⟩⟩
   ·rw [ka hs.assoc i1.1 i2.1 hx,ka hs.assoc i1.1 i2.1 hy]
    exact(i1.2 _ _ (hS.bA i2.1 hx).2 (hS.bA i2.1 hy).2 (i2.2 x y hx hy e).1).1
   ·rw [<-ka hs.assoc hx i1.1 i2.1,<-ka hs.assoc hy i1.1 i2.1]
    exact(i2.2 _ _ (hS.bA hx i1.1).2 (hS.bA hy i1.1).2 (i1.2 x y hx hy e).2).2
 exact λ x y s hx hy gi e=>⟨λ _=>((key (hg.all s gi)).2 x y hx hy e).1,λ _=>((key (hg.all s gi)).2 x y hx hy e).2⟩
structure CoB(t:List (List Int))(p c:List Int):Prop where
 cl:c.length=t.length
 cn:canon c=c
 ref:∀x y,x<t.length->y<t.length->c.getD x 0=c.getD y 0->p.getD x 0=p.getD y 0
 ZW:∀x y,x<t.length->y<t.length->Aa t p x y->c.getD x 0=c.getD y 0
structure Qx(t:List (List Int))(p c0 c:List Int)(gens:List Int)(i:Nat):Prop extends CoB t p c where
 fin:∀x y,x<t.length->y<t.length->c.getD x 0=c.getD y 0->c0.getD x 0=c0.getD y 0
 st:∀g∈gens.take i,∀x y,x<t.length->y<t.length->c.getD x 0=c.getD y 0->c0.getD (en t g.toNat x) 0=c0.getD (en t g.toNat y) 0/\c0.getD (en t x g.toNat) 0=c0.getD (en t y g.toNat) 0
theorem Qx.start(h:CoB t p c):Qx t p c c gens 0:=⟨h,λ _ _ _ _ e=>e,λ g hg=>by simp at hg⟩
theorem Qx.next(hs:Semi t)(hg:∀g∈gens,0<=g/\g<(t.length:Int))(h:Qx t p c0 c gens i)(hi:i<gens.length){a b:List Int}(ha:∀x,x<t.length->(a.getD x 0).toNat=en t (gens.getD i 0).toNat x)(hb:∀x,x<t.length->(b.getD x 0).toNat=en t x (gens.getD i 0).toNat):
  Qx t p c0 (jL (jL c a) b) gens (i+1):=by
 have hS:=hs.toSh;have V4:=hg _ (an (d:=0) hi);have tz:(gens.getD i 0).toNat<t.length:=aa;have da:=h.cl;have l1:(jL c a).length=t.length:=by rw [fg];exact da
 have l2:(jL (jL c a) b).length=t.length:=by rw [fg];exact l1
 have k1:∀x y,x<t.length->y<t.length->((jL c a).getD x 0=(jL c a).getD y 0↔c.getD x 0=c.getD y 0/\c.getD (en t (gens.getD i 0).toNat x) 0=c.getD (en t (gens.getD i 0).toNat y) 0):=λ x y hx hy=>by
  rw [Gr aa aa,ha x hx,ha y hy]
 have k2:∀x y,x<t.length->y<t.length->((jL (jL c a) b).getD x 0=(jL (jL c a) b).getD y 0↔(jL c a).getD x 0=(jL c a).getD y 0/\(jL c a).getD (en t x (gens.getD i 0).toNat) 0=(jL c a).getD (en t y (gens.getD i 0).toNat) 0):=λ x y hx hy=>by
  rw [Gr aa aa,hb x hx,hb y hy]
 have down:∀x y,x<t.length->y<t.length->(jL (jL c a) b).getD x 0=(jL (jL c a) b).getD y 0->c.getD x 0=c.getD y 0/\c.getD (en t (gens.getD i 0).toNat x) 0=c.getD (en t (gens.getD i 0).toNat y) 0/\c.getD (en t x (gens.getD i 0).toNat) 0=c.getD (en t y (gens.getD i 0).toNat) 0:=λ x y hx hy e=>by
  have e1:=(k2 x y hx hy).1 e;have e2:=(k1 x y hx hy).1 e1.1;have e3:=(k1 _ _ (hS.bA hx tz).2 (hS.bA hy tz).2).1 e1.2;exact⟨e2.1,e2.2,e3.1⟩
 refine⟨⟨l2,Iy _ _,λ x y hx hy e=>h.ref x y hx hy (down x y hx hy e).1,λ x y hx hy e=>?_⟩,λ x y hx hy e=>h.fin x y hx hy (down x y hx hy e).1,λ g sJ x y hx hy e=>?_⟩
 ·have up:∀x y,x<t.length->y<t.length->Aa t p x y->(jL c a).getD x 0=(jL c a).getD y 0:=λ x y hx hy e=>
   (k1 x y hx hy).2 ⟨h.ZW x y hx hy e,h.ZW _ _ (hS.bA tz hx).2 (hS.bA tz hy).2 (EK hs hx hy tz e).1⟩
  exact(k2 x y hx hy).2 ⟨up x y hx hy e,up _ _ (hS.bA hx tz).2 (hS.bA hy tz).2 (EK hs hx hy tz e).2⟩
 ·have hd:=down x y hx hy e
  rw [cN (d:=0) hi]at sJ;rcases List.mem_append.1 sJ with sJ|sJ
  ·exact h.st g sJ x y hx hy hd.1
  ·rw [List.mem_singleton]at sJ
   subst sJ;exact⟨h.fin _ _ (hS.bA tz hx).2 (hS.bA tz hy).2 hd.2.1,h.fin _ _ (hS.bA hx tz).2 (hS.bA hy tz).2 hd.2.2⟩
theorem Qx.done(hs:Semi t)(hg:pL t gens)(h:Qx t p c0 c gens i)(h0:CoB t p c0)(hi:gens.length<=i):ak c0<=ak c/\(ak c0=ak c->c=qf t p):=by
 have hc:=jk h0.cn h.cn (by rw [h0.cl,h.cl]) (λ x y hx hy e=>h.fin x y (by rw [h0.cl]at hx;exact hx) (by rw [h0.cl]at hy;exact hy) e);refine⟨hc.1,λ e=>?_⟩;have e:=hc.2 e;have c8:=h.st;rw [List.take_of_length_le hi]at c8;rw [<-e]at c8;rw [<-h.cn];exact Pj hs h.cl h.ref h.ZW (FB hs hg c8)
end
def b0(b:Bool):Nat:=match b with|true=>0|false=>1
set_option maxHeartbeats 2000000 in
theorem Qv(t:List (List Int))(p:List Int)(hs:Semi t)(hl:p.length=t.length)(hv:bp p):QF 73 [.ro (.rows .i64 t),.ro (.ints .i64 p)] (.new (.ints .i64 (qf t p))):=kr Tryz.func73 (by decide+kernel) rfl (ah rfl) λ _=>by
 have hS:=hs.toSh;have kT:=hs.most;refine Or.inl (cq (LG t hS) (ae rfl ag) ?_);refine ae (λ h1=>absurd (show(p.length:Int)=(t.length:Int) by omega) h1) (λ _=>?_);refine Or.inl (cq (fA p) (ae rfl ag) ?_);refine ae (λ h2=>?_) (λ _=>?_)
 ·have h2:(!decide (bp p))=true:=h2
  rw [decide_eq_true hv]at h2;cases h2
 have U5:(t.length:Int)*(t.length:Int)=((t.length*t.length:Nat):Int):=by rw [Int.natCast_mul]
 have UQ:t.length*t.length<=160000:=Nat.mul_le_mul (show t.length<=400 from kT) kT;refine Or.inl ?_;refine af [false,false,false,false,false,false,false,false,false,false,false,false,false,false,true] (ae (by decide+kernel) ?_);refine cq (kR p aa) (ae rfl ag) ?_;refine ae aa ?_;refine ae aa ?_;refine ae aa ?_;refine ae aa ?_;refine ae aa ?_;refine ae aa ?_;refine ae aa ?_;refine ae aa ?_;refine Or.inl (cq (rU p) (ae rfl ag) ?_);refine Or.inr (Or.inr (ce (qj t hS) (ae rfl ag) ?_));intro gens hg;refine ae aa ?_;refine ae aa ?_;have ecn:(if bp p then ((ak p:Nat):Int) else 0)=(ak p:Nat):=if_pos hv;have gV:=hS.pos;have Y8:0<ak p:=Bo hS hl;have zr:∀n,∀x∈List.replicate n (0:Int),x=0:=λ n x hx=>List.eq_of_mem_replicate hx;have zg:∀(n x:Nat),(List.replicate n (0:Int)).getD x 0=0:=λ n x=>by simp only [List.getD,List.getElem?_replicate];split<;>rfl
 have hB0:CoB t p p:=⟨hl,hv.2,λ _ _ _ _ e=>e,λ _ _ _ _ e=>e.own⟩
 have hQ0:RU p (List.replicate (t.length:Int).toNat 0) 0 (List.replicate ((t.length:Int)*(t.length:Int)).toNat 0) (List.replicate ((t.length:Int)*(t.length:Int)).toNat 0) (List.replicate (t.length:Int).toNat 0):=
  ⟨aa,by simp;omega,λ x hx=>by
   obtain⟨j,hj,rfl⟩:=aV 0 hx;have:=dj hv.2 hj;have hle:ak p<=p.length:=aZ p;omega,by simp;omega,λ x hx=>by rw [zg];omega,by rw [List.length_replicate,U5,Int.toNat_natCast,hl],by rw [List.length_replicate,U5,Int.toNat_natCast,hl],λ x hx=>by rw [zr _ x hx];omega,λ x hx=>by rw [zr _ x hx];omega,aa⟩
 refine af []<|lp7 (λ(b:Int) (_ _:List Int) (_:Int) (_ _ _:List Int)=>[(9,.int .i64 b)]) (λ _ c s rnd M L im=>[(6,.box [.vec 31,.vec 33,.int .i64 (ak c:Nat),.int .i64 rnd,.vec 37,.vec 41]),(31,.vec 0 (.ints .i64 c) []),(33,.vec 0 (.ints .i64 s) []),(37,.vec 0 (.ints .i64 M) []),(41,.vec 0 (.ints .i64 L) []),(49,.vec 0 (.ints .i64 im) [])]) (λ b c s rnd M L im=>RU c s rnd M L im/\CoB t p c/\(b≠(ak c:Int)->rnd<=800*(ak c:Int))/\(b=(ak c:Int)->c=qf t p)) (λ b c _ _ _ _ _=>2*(t.length - ak c)+b0 (decide (b=(ak c:Int)))) 0 p _ 0 _ _ _ ⟨hQ0,hB0,λ _=>by omega,λ h=>by omega⟩ (by repeat' first|refine ae ?_ ?_|exact ag|exact ecn|(show(_:Int)=(_:Int);omega)|omega|exact rfl) ?_
 rintro b c s rnd M L im ⟨hQ,hB,Rb,hbs⟩;have da:=hB.cl;have adQ:ak c<=t.length:=by rw [<-da];exact aZ c
 refine ae (λ h1=>?_) (λ h1=>?_)
 ·have h1:b≠(ak c:Int):=h1
  have Fy:=Rb h1;refine af []<|lp7 (λ(i:Nat) (_ _:List Int) (_:Int) (_ _ _:List Int)=>[(58,.int .i64 i)]) (λ _ d s2 rd M2 L2 im2=>[(6,.box [.vec 31,.vec 33,.int .i64 (ak d:Nat),.int .i64 rd,.vec 37,.vec 41]),(31,.vec 0 (.ints .i64 d) []),(33,.vec 0 (.ints .i64 s2) []),(37,.vec 0 (.ints .i64 M2) []),(41,.vec 0 (.ints .i64 L2) []),(49,.vec 0 (.ints .i64 im2) [])]) (λ i d s2 rd M2 L2 im2=>i<=gens.length/\RU d s2 rd M2 L2 im2/\Qx t p c d gens i/\rd<=rnd+2*(i:Int)) (λ i _ _ _ _ _ _=>gens.length - i) 0 c s rnd M L im ⟨Nat.zero_le _,hQ,Qx.start hB,aa⟩ ab ?_
  rintro i d s2 rd M2 L2 im2 ⟨hi,ZX,hG,X4⟩;have JE:=hG.cl;have Ku:ak d<=t.length:=by rw [<-JE];exact aZ d
  refine ae (λ h2=>?_) (λ h2=>?_)
  ·have h2:(i:Int)<(gens.length:Int):=h2
   have bL:i<gens.length:=aa;have V4:=hg.1.el _ (an (d:=0) bL);have tz:(gens.getD i 0).toNat<t.length:=aa;have r1:=hS.len tz;have ha:∀x,x<t.length->((t.getD (gens.getD i 0).toNat []).getD x 0).toNat=en t (gens.getD i 0).toNat x:=λ x hx=>rfl;have Sw:∀x,x<d.length->0<=(t.getD (gens.getD i 0).toNat []).getD x 0/\(t.getD (gens.getD i 0).toNat []).getD x 0<(d.length:Int):=λ x hx=>by have:=hS.bA tz (y:=x) aa;omega
   have hQa:RU d s2 rd M2 L2 (t.getD (gens.getD i 0).toNat []):={ ZX with il:=aa,W2:=Sw };refine ae aa ?_;refine ae (show 0<=gens.getD i 0/\gens.getD i 0<(t.length:Int) by omega) ?_;refine ae (show im2.length=(t.getD (gens.getD i 0).toNat []).length by rw [r1,<-JE];exact ZX.il) ?_;refine Or.inr (Or.inl (cm [] [(1000,6),(1001,31),(1002,33),(1003,37),(1004,41),(1005,49)] (yX d s2 (ak d:Nat) rd M2 L2 (t.getD (gens.getD i 0).toNat []) hQa) ?_));refine ae ab ?_;refine af []<|lA (λ(x:Nat) (_:List Int)=>[(72,.int .i64 x)]) (λ _ I=>[(49,.vec 0 (.ints .i64 I) [])]) (λ x I=>x<=t.length/\I.length=t.length/\∀x',x'<x->I.getD x' 0=(t.getD x' []).getD (gens.getD i 0).toNat 0) (λ x _=>t.length - x) 0 (t.getD (gens.getD i 0).toNat []) ⟨Nat.zero_le _,r1,λ x h=>absurd h (Nat.not_lt_zero _)⟩ ab ?_
   rintro x I ⟨hx,hIl,hI⟩;refine ae (λ h3=>?_) (λ h3=>?_)
   ·have h3:(x:Int)<(t.length:Int):=h3
    have zf:x<t.length:=aa;have r2:=hS.len zf;refine ae aa ?_;refine ae (show 0<=gens.getD i 0/\gens.getD i 0<((t.getD x []).length:Int) by omega) ?_;refine ae (show 0<=(x:Int)/\(x:Int)<(I.length:Int) by omega) ?_;refine ae aa ?_;refine ae aa ?_;refine nx (x+1,I.set x ((t.getD x []).getD (gens.getD i 0).toNat 0)) ⟨aa,by rw [List.length_set];exact hIl,λ x' mA=>?_⟩ (show t.length - (x+1)<t.length - x by omega) ab
    by_cases e:x'=x
    ·subst e;rw [aA aa]
    ·rw [getD_set_ne (Ne.symm e)];exact hI x' aa
   ·have h3:(t.length:Int)<=(x:Int):=h3
    have hb:∀y,y<t.length->(I.getD y 0).toNat=en t y (gens.getD i 0).toNat:=λ y hy=>by rw [hI y aa];rfl
    have hbi:∀y,y<d.length->0<=I.getD y 0/\I.getD y 0<(d.length:Int):=λ y hy=>by
     rw [hI y aa];have:=hS.bA (x:=y) (y:=(gens.getD i 0).toNat) aa tz;omega
    have hQb:=hQa.next (im2:=I) aa aa hbi;have hQc:=hQb.next (im2:=I) aa (by rw [fg];omega) (λ y hy=>by rw [fg]at hy ⊢;exact hbi y hy);refine Or.inr (Or.inl (cm [] [(1000,6),(1001,33),(1002,31),(1003,37),(1004,41),(1005,49)] (yX (jL d (t.getD (gens.getD i 0).toNat [])) d (ak (jL d (t.getD (gens.getD i 0).toNat [])):Nat) (rd+1) (gY d (t.getD (gens.getD i 0).toNat []) (rd+1) M2 L2 d.length).1 (gY d (t.getD (gens.getD i 0).toNat []) (rd+1) M2 L2 d.length).2 I hQb) ?_));refine ae ab ?_;refine ae aa ?_;exact nx (i+1,jL (jL d (t.getD (gens.getD i 0).toNat [])) I,jL d (t.getD (gens.getD i 0).toNat []),rd+1+1,_,_,I) ⟨aa,hQc,hG.next hs hg.1.el bL ha hb,aa⟩ (show gens.length - (i+1)<gens.length - i by omega) ab
  ·have h2:(gens.length:Int)<=(i:Int):=h2
   have ZY:=hG.done hs hg.1 hB aa;refine nx ((ak c:Int),d,s2,rd,M2,L2,im2) ⟨ZX,hG.toCoB,λ h4=>by omega,λ h4=>ZY.2 aa⟩ ?_ ab;show 2*(t.length - ak d)+b0 (decide ((ak c:Int)=(ak d:Int)))<2*(t.length - ak c)+b0 (decide (b=(ak c:Int)));rw [decide_eq_false h1];show _<2*(t.length - ak c)+1
   by_cases e:ak c=ak d
   ·rw [decide_eq_true aa]
    show 2*(t.length - ak d)+0<_;omega
   ·rw [decide_eq_false aa]
    show 2*(t.length - ak d)+1<_;omega
 ·have h1:b=(ak c:Int):=h1
  refine ae (ae aa ?_) trivial;show RO.ints .i64 c=_;rw [hbs h1]
end Go.Proofs.YtgailjhnfghkgaaGreatDoor
end
