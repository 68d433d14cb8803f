import Derived.Test.YtgailjhnfghkgaaGreatDoorSgpLaw
import Derived.Test.YtgailjhnfghkgaaGreatDoorDfa
import Derived.Test.YtgailjhnfghkgaaGreatDoorMult
import Derived.Test.YtgailjhnfghkgaaGreatDoorOrd
import Derived.Test.YtgailjhnfghkgaaGreatDoorCg
import Derived.Test.YtgailjhnfghkgaaGreatDoorEnLaw
section
namespace Go.Proofs.YtgailjhnfghkgaaGreatDoor
open Go Go.AM
set_option maxRecDepth 100000
structure uN(t:List (List Int))(x:Nat)(G R:List Int)(I:List Bool)(D:List Int):Prop where
 il:I.length=t.length
 dl:D.length=t.length
 Wl:∀z,I.getD z false=true->Mk t G z
 lo:∀z,z<x->I.getD z false=true
 gs:∀g∈G,0<=g/\g<(t.length:Int)
 gl:G.length<=x
 rs:∀y∈R,(0<=y/\y<(t.length:Int))/\I.getD y.toNat false=true
 rn:R.Nodup
 dd:∀z,0<=D.getD z 0/\D.getD z 0<=(G.length:Int)
section
variable{t:List (List Int)}{x:Nat}{G R:List Int}{I:List Bool}{D:List Int}
theorem uN.rl(h:uN t x G R I D):R.length<=t.length:=JN h.rn λy hy=>(h.rs y hy).1
theorem uN.start(t:List (List Int)):uN t 0 [] [] (List.replicate t.length false) (List.replicate t.length 0):=by
 refine⟨by simp,by simp,λz hz=>?_,λz hz=>absurd hz (aju _),λ_ h=>(nomatch h),ajl _,λ_ h=>(nomatch h),.nil,λz=>?_⟩
 ·simp [List.getD,List.getElem?_replicate]at hz
  split at hz<;>simp at hz
 ·have:(List.replicate t.length (0:Int)).getD z 0=0:=by
   simp only [List.getD,ajH];split<;>rfl
  rw [this];simp
theorem Dp{I:List Bool}{x z:Nat}(h:(I.set x true).getD z false=true):z=x\/I.getD z false=true:=by
 by_cases e:z=x
 ·exact .inl e
 ·rw [getD_set_ne (Ne.symm e)]at h;exact .inr h
theorem oq{I:List Bool}{x z:Nat}(h:I.getD z false=true):(I.set x true).getD z false=true:=by
 by_cases e:x=z
 ·subst e
  have hl:x<I.length:=Nat.lt_of_not_le λhl=>by
   rw [List.getD,aj0 hl]at h;cases h
  exact aB hl
 ·rw [getD_set_ne e];exact h
theorem uN.gen(h:uN t x G R I D)(hx:x<t.length)(hn:I.getD x false=false):uN t (x+1) (G++[(x:Int)]) (R++[(x:Int)]) (I.set x true) D:=by
 have bD:=h.il;refine⟨by rw [ajv];exact h.il,h.dl,λz hz=>?_,λz hz=>?_,λg hg=>?_,by have:=h.gl;simp;omega,λy hy=>?_,?_,λz=>by have:=h.dd z;rw [ajp,ajx];omega⟩
 ·rcases Dp hz with rfl|hz
  ·have:=Mk.gen (t:=t) (gens:=G++[(z:Int)]) (g:=(z:Int)) (by simp)
   simpa using this
  ·exact(h.Wl z hz).mono λa ha=>aj8 _ ha
 ·by_cases e:z=x
  ·subst e;exact aB aa
  ·exact oq (h.lo z aa)
 ·rcases ajK.1 hg with hg|hg
  ·exact h.gs g hg
  ·rw [ajC]at hg;omega
 ·rcases ajK.1 hy with hy|hy
  ·exact⟨(h.rs y hy).1,oq (h.rs y hy).2⟩
  ·rw [ajC]at hy
   subst hy;exact⟨aa,by rw [ajr];exact aB aa⟩
 ·rw [List.nodup_append]
  refine⟨h.rn,by simp,λa ha b hb=>?_⟩;rw [ajC]at hb;subst hb;rintro rfl;have:=(h.rs _ ha).2;rw [ajr,hn]at this;cases this
theorem uN.skip(h:uN t x G R I D)(hx:x<t.length)(hn:I.getD x false=true):uN t (x+1) G R I D:=
 ⟨h.il,h.dl,h.Wl,λz hz=>by
   by_cases e:z=x
   ·subst e;exact hn
   ·exact h.lo z aa,h.gs,by have:=h.gl;omega,h.rs,h.rn,h.dd⟩
theorem uN.push(h:uN t x G R I D)(hs:Sh t){y g:Int}(hy:y∈R)(hg:g∈G)(hn:I.getD (en t y.toNat g.toNat) false=false):uN t x G (R++[(en t y.toNat g.toNat:Int)]) (I.set (en t y.toNat g.toNat) true) D:=by
 have hyr:=h.rs y hy;have Xz:=h.gs g hg;have aX:=(hs.bF (x:=y.toNat) (y:=g.toNat) aa aa).2;have bD:=h.il;refine⟨by rw [ajv];exact h.il,h.dl,λz hz=>?_,λz hz=>oq (h.lo z hz),h.gs,h.gl,λa ha=>?_,?_,h.dd⟩
 ·rcases Dp hz with rfl|hz
  ·exact .mul (h.Wl _ hyr.2) (.gen hg)
  ·exact h.Wl z hz
 ·rcases ajK.1 ha with ha|ha
  ·exact⟨(h.rs a ha).1,oq (h.rs a ha).2⟩
  ·rw [ajC]at ha
   subst ha;exact⟨aa,by rw [ajr];exact aB aa⟩
 ·rw [List.nodup_append]
  refine⟨h.rn,by simp,λa ha b hb=>?_⟩;rw [ajC]at hb;subst hb;rintro rfl;have:=(h.rs _ ha).2;rw [ajr,hn]at this;cases this
theorem uN.step(h:uN t x G R I D){y:Nat}(hy:y<t.length)(hd:D.getD y 0<(G.length:Int)):uN t x G R I (D.set y (D.getD y 0+1)):=by
 have PU:=h.dl;refine⟨h.il,by rw [ajv];exact h.dl,h.Wl,h.lo,h.gs,h.gl,h.rs,h.rn,λz=>?_⟩
 by_cases e:y=z
 ·subst e;rw [aB aa];have:=h.dd y;omega
 ·rw [getD_set_ne e];exact h.dd z
theorem uN.done(h:uN t x G R I D)(hx:t.length<=x):qf t G:=⟨h.gs,λz hz=>h.Wl z (h.lo z aa)⟩
end
set_option maxHeartbeats 1000000 in
theorem qT(t:List (List Int))(h:Sh t):EF 105 [.ro (.rows .i64 t)] (λl:List Int=>.new (.ints .i64 l)) (λl=>qf t l/\l.length<=t.length):=Jp Tryz.func105 (by decide+kernel) rfl (ah rfl) λ_=>by
 have ko:=h.most;refine aj ?_;refine aj ?_;refine aj ?_;refine aj ?_;refine af []<|lp5 (λ(x:Nat) (_ _:List Int) (_:List Bool) (_:List Int)=>[(19,.int .i64 x),(3,.vec 32),(4,.vec 36)]) (λ_ G R I D=>[(32,.vec 0 (.ints .i64 G) []),(36,.vec 0 (.ints .i64 R) []),(13,.vec 0 (.aI I) []),(16,.vec 0 (.ints .i64 D) [])]) (λx G R I D=>x<=t.length/\uN t x G R I D) (λx _ _ _ _=>t.length - x) 0 [] [] (List.replicate t.length false) (List.replicate t.length 0) ⟨ajk _,uN.start t⟩ ab ?_
 rintro x G R I D ⟨hx,hg⟩;have il:=hg.il;have dl:=hg.dl;have gl:=hg.gl;have rl:=hg.rl;refine ae (λh1=>?_) (λh1=>?_)
 ·have h1:(x:Int)<(t.length:Int):=h1
  refine ae (show 0<=(x:Int)/\(x:Int)<(I.length:Int) by omega) ?_;refine ae (λh2=>?_) (λh2=>?_)
  ·have h2:I.getD x false=true:=h2
   refine aj ?_;exact nx (x+1,G,R,I,D) ⟨aa,hg.skip aa h2⟩ (show t.length - (x+1)<t.length - x by omega) ab
  ·have h2:I.getD x false=false:=h2
   refine ae (show 0<=(x:Int)/\(x:Int)<(I.length:Int) by omega) ?_;refine aj ?_;refine ae (by simp;omega) ?_;refine ae (by simp;omega) ?_;refine af [36]<|lp4 (λ(i:Nat) (_:List Int) (_:List Bool) (_:List Int)=>[(8,.int .i64 i),(4,.vec 36)]) (λ_ R I D=>[(36,.vec 0 (.ints .i64 R) []),(13,.vec 0 (.aI I) []),(16,.vec 0 (.ints .i64 D) [])]) (λi R I D=>i<=R.length/\uN t (x+1) (G++[(x:Int)]) R I D) (λi _ _ _=>t.length - i) 0 (R++[(x:Int)]) (I.set x true) D ⟨ajk _,hg.gen aa h2⟩ ab ?_
   rintro i R1 I1 D1 ⟨hi,Wm⟩;have il1:=Wm.il;have dl1:=Wm.dl;have rl1:=Wm.rl;have gl1:(G++[(x:Int)]).length=G.length+1:=by simp
   refine ae (λh3=>?_) (λh3=>?_)
   ·have h3:(i:Int)<(R1.length:Int):=h3
    have BV:=(Wm.rs _ (al (d:=0) (i:=i) (l:=R1) aa)).1;refine ae (show 0<=(i:Int)/\(i:Int)<(R1.length:Int) by omega) ?_;have Tc:R1.getD i 0∈R1:=al aa;obtain⟨y,hyd⟩:∃y,R1.getD i 0=y:=⟨_,rfl⟩;rw [hyd]at Tc BV;refine af [9,36,38,43,45,46]<|BU (λ(_:List Int) (_:List Bool) (_:List Int)=>[(4,.vec 36),(9,.int .i64 y)]) (λR I D=>[(36,.vec 0 (.ints .i64 R) []),(13,.vec 0 (.aI I) []),(16,.vec 0 (.ints .i64 D) [])]) (λR I D=>i<R.length/\y∈R/\uN t (x+1) (G++[(x:Int)]) R I D) (λ_ _ D=>G.length+1 - (D.getD y.toNat 0).toNat) R1 I1 D1 ⟨aa,Tc,Wm⟩ (by repeat' first|refine ae ?_ ?_|exact ag|exact hyd|(show(_:Int)=(_:Int);omega)|omega|exact rfl|(simp only [RO.len];omega)) ?_
    rintro R2 I2 D2 ⟨xF,sZ,ER⟩;have il2:=ER.il;have dl2:=ER.dl;have rl2:=ER.rl;have hd:=ER.dd y.toNat;have UQ:y.toNat<t.length:=aa;refine ae (show 0<=y/\y<(D2.length:Int) by omega) ?_;refine ae (λh4=>?_) (λh4=>?_)
    ·have h4:D2.getD y.toNat 0<((G++[(x:Int)]).length:Int):=h4
     have tq:(G++[(x:Int)]).getD (D2.getD y.toNat 0).toNat 0∈(G++[(x:Int)]):=al aa;have Xz:=ER.gs _ tq;have Mc:(D2.getD y.toNat 0).toNat<(G++[(x:Int)]).length:=aa;have e1:=h.bF (x:=y.toNat) (y:=((G++[(x:Int)]).getD (D2.getD y.toNat 0).toNat 0).toNat) aa aa;have r1:=h.len (x:=y.toNat) aa;refine Or.inl ?_;refine af (ai 14) (ae (by decide+kernel) ?_);refine ae (show 0<=y/\y<(t.length:Int) by omega) ?_;refine ae (show 0<=y/\y<(D2.length:Int) by omega) ?_;refine ae (show 0<=D2.getD y.toNat 0/\D2.getD y.toNat 0<((G++[(x:Int)]).length:Int) by omega) ?_;refine ae (show 0<=(G++[(x:Int)]).getD (D2.getD y.toNat 0).toNat 0/\(G++[(x:Int)]).getD (D2.getD y.toNat 0).toNat 0<((t.getD y.toNat []).length:Int) by omega) ?_;have hz:0<=(t.getD y.toNat []).getD ((G++[(x:Int)]).getD (D2.getD y.toNat 0).toNat 0).toNat 0/\(t.getD y.toNat []).getD ((G++[(x:Int)]).getD (D2.getD y.toNat 0).toNat 0).toNat 0<(I2.length:Int):=aa;have hzn:((t.getD y.toNat []).getD ((G++[(x:Int)]).getD (D2.getD y.toNat 0).toNat 0).toNat 0).toNat=en t y.toNat ((G++[(x:Int)]).getD (D2.getD y.toNat 0).toNat 0).toNat:=aa;have cX:∀{R3:List Int} {I3:List Bool},uN t (x+1) (G++[(x:Int)]) R3 I3 D2->uN t (x+1) (G++[(x:Int)]) R3 I3 (D2.set y.toNat (D2.getD y.toNat 0+1)):=λhh=>hh.step UQ h4
     have hms:G.length+1 - ((D2.set y.toNat (D2.getD y.toNat 0+1)).getD y.toNat 0).toNat<G.length+1 - (D2.getD y.toNat 0).toNat:=by
      rw [aB aa];omega
     refine ae hz ?_;refine ae (λh5=>?_) (λh5=>?_)
     ·have h5:(!I2.getD ((t.getD y.toNat []).getD ((G++[(x:Int)]).getD (D2.getD y.toNat 0).toNat 0).toNat 0).toNat false)=true:=h5
      rw [Bool.not_eq_true',hzn]at h5;have hp:=ER.push h sZ tq h5;rw [<-hzn,Int.toNat_of_nonneg hz.1]at hp;have gw:=hp.rl;refine ae hz ?_;refine ae hz.1 ?_;refine ae (show(((R2++[(t.getD y.toNat []).getD ((G++[(x:Int)]).getD (D2.getD y.toNat 0).toNat 0).toNat 0]).length:Nat):Int)<=17592186044416 by omega) ?_;refine ae (show 0<=y/\y<(D2.length:Int) by omega) ?_;refine ae (show -9223372036854775808<=D2.getD y.toNat 0+1/\D2.getD y.toNat 0+1<=9223372036854775807 by omega) ?_;refine ae (show 0<=y/\y<(D2.length:Int) by omega) ?_;refine ae (show((0:Nat):Int)<=y by omega) ?_;exact nx (R2++[(t.getD y.toNat []).getD ((G++[(x:Int)]).getD (D2.getD y.toNat 0).toNat 0).toNat 0],I2.set ((t.getD y.toNat []).getD ((G++[(x:Int)]).getD (D2.getD y.toNat 0).toNat 0).toNat 0).toNat true,D2.set y.toNat (D2.getD y.toNat 0+1)) ⟨by simp;omega,aj8 _ sZ,cX hp⟩ hms ab
     ·refine ae (show 0<=y/\y<(D2.length:Int) by omega) ?_
      refine ae (show -9223372036854775808<=D2.getD y.toNat 0+1/\D2.getD y.toNat 0+1<=9223372036854775807 by omega) ?_;refine ae (show 0<=y/\y<(D2.length:Int) by omega) ?_;refine ae (show((0:Nat):Int)<=y by omega) ?_;exact nx (R2,I2,D2.set y.toNat (D2.getD y.toNat 0+1)) ⟨xF,sZ,cX ER⟩ hms ab
    ·refine aj ?_
     exact nx (i+1,R2,I2,D2) ⟨aa,ER⟩ (show t.length - (i+1)<t.length - i by omega) ab
   ·refine aj ?_
    exact nx (x+1,G++[(x:Int)],R1,I1,D1) ⟨aa,Wm⟩ (show t.length - (x+1)<t.length - x by omega) ab
 ·have h1:(t.length:Int)<=(x:Int):=h1
  refine af G (ae ⟨hg.done aa,aa⟩ ?_);exact ae (ae aa rfl) trivial
theorem wq(n:Nat)(p:List Int)(r:Nat->Nat)(i:Nat)(h:Fo n p r)(hi:i<n)(hn:n<=4096):MF 113 [.vec 1000,.int .i64 i] [(1000,.vec 0 (.ints .i64 p) [])] (.int .i64 (r i:Nat)) [(1000,.vec 0 (.ints .i64 (fM (i+1) p i)) [])]:=ui Tryz.func113 (by decide+kernel) rfl (ah rfl) λ_=>by
 refine af []<|kF (λ(j:Nat) (_:List Int)=>[(1,.int .i64 j)]) (λ_ q=>[(1000,.vec 0 (.ints .i64 q) [])]) (λj q=>j<n/\Fo n q r/\r j=r i/\fM (j+1) q j=fM (i+1) p i) (λj _=>j) i p ⟨hi,h,rfl,rfl⟩ ab ?_
 rintro j q ⟨hj,hq,hr,hf⟩;have oR:=hq.len;have hle:=hq.le j hj;have UJ:=hq.le (q.getD j 0).toNat aa;refine aj ?_;refine ae (λh1=>?_) (λh1=>?_)
 ·have h1:q.getD j 0≠(j:Int):=h1
  have hl:=AW hq hj h1;have MO:=hq.half hj;have hlh:=MO.le j hj;have hlen:=MO.len;refine aj ?_;refine ae (show 0<=q.getD j 0/\q.getD j 0<(q.length:Int) by omega) ?_;refine aj ?_;refine aj ?_;refine ae (show 0<=(j:Int)/\(j:Int)<((q.set j (q.getD (q.getD j 0).toNat 0)).length:Int) by rw [ajv];omega) ?_;have ej:(((iS q j).getD j 0).toNat:Int)=(iS q j).getD j 0:=aa;refine nx (((iS q j).getD j 0).toNat,iS q j) ⟨aa,MO,(MO.par j hj).trans hr,?_⟩ hl (by repeat' first|refine ae ?_ ?_|exact ag|exact ej.symm|exact rfl|repeat' first|refine ae ?_ ?_|exact ag|(show(_:Int)=(_:Int);omega)|omega|exact rfl|(simp only [RO.len];omega));rw [<-hf,fM.eq_2 q j j,ajm h1];exact sB _ _ MO aa aa aa
 ·have h1:q.getD j 0=(j:Int):=h1
  refine ae ?_ ?_
  ·refine ae (ae aa ?_) trivial
   rw [<-hf];unfold fM;rw [ajq h1]
  ·show(j:Int)=(r i:Nat)
   rw [<-hr,hq.fix j hj h1]
theorem yx(n:Nat)(p:List Int)(r:Nat->Nat)(i j:Nat)(h:Fo n p r)(hi:i<n)(hj:j<n)(hn:n<=4096):MF 71 [.vec 1000,.int .i64 i,.int .i64 j] [(1000,.vec 0 (.ints .i64 p) [])] (.cL []) [(1000,.vec 0 (.ints .i64 (PA r p i j)) [])]:=ui Tryz.func71 (by decide+kernel) rfl (ah rfl) λ_=>by
 have h1:=fv (i+1) h hi;refine Or.inr (Or.inl (cm [] [(1000,1000)] (wq n p r i h hi hn) ?_));refine ae ab ?_;refine Or.inr (Or.inl (cm [] [(1000,1000)] (wq n (fM (i+1) p i) r j h1 hj hn) ?_));refine ae ab ?_;have h2:=fv (j+1) h1 hj;have hl:=h2.len;have ri:=h.Ag hi;have rj:=h.Ag hj;refine aj ?_;refine aj ?_;refine ae (ae (ae aa ?_) ag) trivial;refine ajs (RO.ints .i64) ?_;unfold PA;rw [show(max (r i:Int) (r j:Int)).toNat=max (r i) (r j) by omega,show min (r i:Int) (r j:Int)=((min (r i) (r j):Nat):Int) by omega]
theorem Cf(n:Nat)(p:List Int)(r:Nat->Nat)(h:Fo n p r)(hn:n<=4096):MF 72 [.vec 1000] [(1000,.vec 0 (.ints .i64 p) [])] (.vec 21) [(21,.vec 0 (.ints .i64 (canon (G2 n r))) []),(1000,.vec 0 (.ints .i64 (MP p n)) [])]:=ui Tryz.func72 (by decide+kernel) rfl (ah rfl) λ_=>by
 have gw:=h.len;refine aj ?_;refine aj ?_;refine af []<|kF (λ(k:Nat) (_:List Int)=>[(10,.int .i64 k)]) (λk L=>[(1000,.vec 0 (.ints .i64 (MP p k)) []),(7,.vec 0 (.ints .i64 L) [])]) (λk L=>k<=n/\L.length=n/\∀j,j<k->L.getD j 0=(r j:Int)) (λk _=>n - k) 0 (List.replicate n 0) ⟨ajk _,by simp,aa⟩ (by repeat' first|refine ae ?_ ?_|exact ag|(show(_:Int)=(_:Int);omega)|omega|exact rfl|(simp;omega)) ?_
 rintro k L ⟨hk,hL,hj⟩;have hfo:=HA h k hk;have Hp:=hfo.len;refine ae (λh1=>?_) (λh1=>?_)
 ·have h1:(k:Int)<(p.length:Int):=h1
  have lK:k<n:=aa;refine Or.inr (Or.inl (cm [] [(1000,1000)] (wq n (MP p k) r k hfo lK hn) ?_));refine ae ab ?_;refine aj ?_;refine aj ?_;refine aj ?_;refine nx (k+1,L.set k (r k:Int)) ⟨aa,by rw [ajv];exact hL,λj mC=>?_⟩ (show n - (k+1)<n - k by omega) ab
  by_cases e:j=k
  ·subst e;rw [aB aa]
  ·rw [getD_set_ne (Ne.symm e)];exact hj j aa
 ·have h1:(p.length:Int)<=(k:Int):=h1
  obtain rfl:k=n:=aa;have eL:L=G2 k r:=a6 0 (by rw [p8];exact hL) λx hx=>by rw [hj x aa,p9 aa]
  subst eL;refine Or.inl (cq (yT (G2 k r) (by rw [p8];omega)) (ae rfl ag) ?_);exact ae (ae (ae aa rfl) (ae (ae aa rfl) ag)) (ae aa (ae trivial ag))
theorem HB(n:Nat)(hn:n<=4096):QF 112 [.int .i64 n] (.new (.ints .i64 (cR n))):=fN Tryz.func112 (by decide+kernel) rfl (ah rfl) λ_=>by
 refine ae (λh1=>absurd (show(n:Int)<0 from h1) aa) (λ_=>?_);refine ae (λh1=>absurd (show(4096:Int)<(n:Int)from h1) aa) (λ_=>?_);refine aj ?_;refine aj ?_;refine af []<|kF (λ(k:Nat) (_:List Int)=>[(14,.int .i64 k)]) (λ_ L=>[(12,.vec 0 (.ints .i64 L) [])]) (λk L=>k<=n/\L.length=n/\∀j,j<k->L.getD j 0=(j:Int)) (λk _=>n - k) 0 (List.replicate n 0) ⟨ajk _,by simp,aa⟩ (by repeat' first|refine ae ?_ ?_|exact ag|(show(_:Int)=(_:Int);omega)|omega|exact rfl|(simp;omega)) ?_
 rintro k L ⟨hk,hL,hj⟩;refine ae (λh1=>?_) (λh1=>?_)
 ·have h1:(k:Int)<(n:Int):=h1
  have lK:k<n:=aa;refine ae (show 0<=(k:Int)/\(k:Int)<(L.length:Int) by omega) ?_;refine aj ?_;refine aj ?_;refine nx (k+1,L.set k (k:Int)) ⟨aa,by rw [ajv];exact hL,λj mC=>?_⟩ (show n - (k+1)<n - k by omega) ab
  by_cases e:j=k
  ·subst e;rw [aB aa]
  ·rw [getD_set_ne (Ne.symm e)];exact hj j aa
 ·have h1:(n:Int)<=(k:Int):=h1
  refine ae (ae aa ?_) trivial;refine ajs (RO.ints .i64) (a6 0 (by rw [bP];exact hL) λj mC=>?_);rw [hj j aa,dM aa]
theorem G3(n:Nat)(hn:n<=4096):QF 70 [.int .i64 n] (.new (.ints .i64 (cR n))):=fN Tryz.func70 (by decide+kernel) rfl (ah rfl) λ_=>by
 refine Or.inl (cq (HB n hn) (ae rfl ag) ?_);exact ae (ae aa rfl) trivial
theorem Dq:∀(l:List (Int × Int)) (r:Nat->Nat) (x:Int × Int),K4 r (l++[x])=vd (K4 r l) x.1.toNat x.2.toNat
 |[],_,_=>rfl
 |_::l,_,x=>Dq l _ x
theorem MQ(n:Nat)(hn:n<=4096)(l:List (Int × Int))(oO:l.length<=140737488355328)(hl:∀x∈l,0<=x.1/\x.1<(n:Int)/\0<=x.2/\x.2<(n:Int)):P7 TY SP Tryz.f29 [.int .i64 n,.ro (.aW l)] (.new (.ints .i64 (canon (G2 n (K4 id l))))):=by
 refine ae (λh1=>absurd (show(n:Int)<0 from h1) aa) (λ_=>?_);refine ae (λh1=>absurd (show(4096:Int)<(n:Int)from h1) aa) (λ_=>?_);refine Or.inl (cq (G3 n hn) (ae rfl ag) ?_);refine af []<|kF (λ(k:Nat) (_:List Int)=>[(18,.int .i64 k)]) (λ_ p=>[(15,.vec 0 (.ints .i64 p) [])]) (λk p=>k<=l.length/\Fo n p (K4 id (l.take k))) (λk _=>l.length - k) 0 (cR n) ⟨ajk _,by rw [List.take_zero];exact Fo.TV n⟩ ab ?_
 rintro k p ⟨hk,hp⟩;have gw:=hp.len;refine ae (λh1=>?_) (λh1=>?_)
 ·have h1:(k:Int)<(l.length:Int):=h1
  have lK:k<l.length:=aa;have hx:=hl (l.getD k (0,0)) (al lK);have e1:((l.getD k (0,0)).1.toNat:Int)=(l.getD k (0,0)).1:=aa;have e2:((l.getD k (0,0)).2.toNat:Int)=(l.getD k (0,0)).2:=aa;have funion:=yx n p (K4 id (l.take k)) (l.getD k (0,0)).1.toNat (l.getD k (0,0)).2.toNat hp aa aa hn;rw [e1,e2]at funion;have n10:¬(1:Int)=((0:Nat):Int):=aa;have n01:¬(0:Int)=((0+1:Nat):Int):=aa;refine aj ?_;refine aj ?_;refine ae (λ_=>?_) (ae (λh=>absurd h n01) ag);refine aj ?_;refine ae (λh=>absurd h n10) (ae (λ_=>?_) ag);refine ae (λh4=>?_) (λ_=>?_)
  ·have h4:min (l.getD k (0,0)).1 (l.getD k (0,0)).2<0:=h4
   omega
  refine aj ?_;refine ae (λ_=>?_) (ae (λh=>absurd h n01) ag);refine aj ?_;refine ae (λh=>absurd h n10) (ae (λ_=>?_) ag);refine ae (λh4=>?_) (λ_=>?_)
  ·have h4:(n:Int)<=max (l.getD k (0,0)).1 (l.getD k (0,0)).2:=h4
   omega
  refine aj ?_;refine ae (λ_=>?_) (ae (λh=>absurd h n01) ag);refine aj ?_;refine ae (λh=>absurd h n10) (ae (λ_=>?_) ag);refine Or.inr (Or.inl (cm [] [(1000,15)] funion ?_));refine ae ab ?_;refine aj ?_;refine nx (k+1,PA (K4 id (l.take k)) p (l.getD k (0,0)).1.toNat (l.getD k (0,0)).2.toNat) ⟨aa,?_⟩ (show l.length - (k+1)<l.length - k by omega) ab;rw [List.take_add_one,ajP lK];rw [show(some l[k]).toList=[l[k]]from rfl,Dq];have eg:l[k]=l.getD k (0,0):=by rw [aka,ajP lK];rfl
  rw [eg];exact hp.union aa aa
 ·have h1:(l.length:Int)<=(k:Int):=h1
  rw [aj4 aa]at hp;refine Or.inr (Or.inl (cm [] [(1000,15),(21,301)] (Cf n p (K4 id l) hp hn) ?_));refine ae ab ?_;exact ae (ae aa rfl) trivial
theorem JO(n:Nat)(hn:n<=4096)(l:List (Int × Int))(hl:∀x∈l,0<=x.1/\x.1<(n:Int)/\0<=x.2/\x.2<(n:Int)):QF 29 [.int .i64 n,.ro (.aW l)] (.new (.ints .i64 (canon (G2 n (K4 id l))))):=fN Tryz.func29 (by decide+kernel) rfl (ah rfl) λhf=>MQ n hn l hf.2.1.1 hl
abbrev Wn(p:List Int)(c:Int):ak:=[(1000,.box [.vec 1001,.int .i64 c]),(1001,.vec 0 (.ints .i64 p) [])]
theorem qU(n:Nat)(p:List Int)(r:Nat->Nat)(c:Int)(i:Nat)(h:Fo n p r)(hi:i<n)(hn:n<=4096):MF 111 [.ptr 1000 0,.int .i64 i] (Wn p c) (.int .i64 (r i:Nat)) (Wn (fM (i+1) p i) c):=ui Tryz.func111 (by decide+kernel) rfl (ah rfl) λ_=>by
 refine af []<|kF (λ(j:Nat) (_:List Int)=>[(1,.int .i64 j)]) (λ_ q=>[(1001,.vec 0 (.ints .i64 q) [])]) (λj q=>j<n/\Fo n q r/\r j=r i/\fM (j+1) q j=fM (i+1) p i) (λj _=>j) i p ⟨hi,h,rfl,rfl⟩ ab ?_
 rintro j q ⟨hj,hq,hr,hf⟩;have oR:=hq.len;have hle:=hq.le j hj;have UJ:=hq.le (q.getD j 0).toNat aa;refine aj ?_;refine ae (λh1=>?_) (λh1=>?_)
 ·have h1:q.getD j 0≠(j:Int):=h1
  have hl:=AW hq hj h1;have MO:=hq.half hj;have hlh:=MO.le j hj;have hlen:=MO.len;refine Or.inl ?_;refine af (ai 19++[true]) (ae (by decide+kernel) ?_);refine aj ?_;refine ae (by simp only [ajr];omega) ?_;refine aj ?_;refine aj ?_;refine ae (by simp;omega) ?_;have ej:(((iS q j).getD j 0).toNat:Int)=(iS q j).getD j 0:=aa;refine nx (((iS q j).getD j 0).toNat,iS q j) ⟨aa,MO,(MO.par j hj).trans hr,?_⟩ hl (by repeat' first|refine ae ?_ ?_|exact ag|exact ej.symm|exact rfl|repeat' first|refine ae ?_ ?_|exact ag|(show(_:Int)=(_:Int);omega)|omega|exact rfl|(simp only [RO.len];omega));rw [<-hf,fM.eq_2 q j j,ajm h1];exact sB _ _ MO aa aa aa
 ·have h1:q.getD j 0=(j:Int):=h1
  have e:q=fM (i+1) p i:=by rw [<-hf];unfold fM;rw [ajq h1]
  refine ae (ae ab (ae (ae aa (ajs (RO.ints .i64) e)) ag)) ?_
  ·show(j:Int)=(r i:Nat)
   rw [<-hr,hq.fix j hj h1]
theorem MR(n:Nat)(p:List Int)(r:Nat->Nat)(i j:Nat)(h:Fo n p r)(hi:i<n)(hj:j<n)(hn:n<=4096):MF 109 [.ptr 1000 0,.int .i64 i,.int .i64 j] (Wn p (dX n r)) (.bool (.v (decide (r i≠r j)))) (Wn (KO r p i j) (dX n (Ae r i j))):=ui Tryz.func109 (by decide+kernel) rfl (ah rfl) λ_=>by
 have h1:=fv (i+1) h hi;have h2:=fv (j+1) h1 hj;have hl:=h2.len;have ri:=h.Ag hi;have rj:=h.Ag hj;have hc:=LF h hi hj;have da:=E9 n r;refine Or.inr (Or.inl (cm [] [(1000,1000),(1001,1001)] (qU n p r (dX n r) i h hi hn) ?_));refine ae ab ?_;refine Or.inr (Or.inl (cm [] [(1000,1000),(1001,1001)] (qU n (fM (i+1) p i) r (dX n r) j h1 hj hn) ?_));refine ae ab ?_;refine ae (λh1=>?_) (λh1=>?_)
 ·have h1:(r i:Int)=(r j:Int):=h1
  have h1:r i=r j:=aa;rw [ajq h1]at hc;have e:fM (j+1) (fM (i+1) p i) j=KO r p i j:=(ajq h1).symm;refine ae (ae (ae ab (ae ?_ ag)) (ae (ae aa (ajs (RO.ints .i64) e)) ag)) ?_
  ·show(dX n r:Int)=(dX n (Ae r i j):Int)
   omega
  ·exact(akp λh2=>h2 h1).symm
 ·have h1:(r i:Int)≠(r j:Int):=h1
  have h1:r i≠r j:=aa;rw [ajm h1]at hc
  have e:(fM (j+1) (fM (i+1) p i) j).set (max (r i:Int) (r j:Int)).toNat (min (r i:Int) (r j:Int))=KO r p i j:=by
   unfold KO PA;rw [ajm h1,show(max (r i:Int) (r j:Int)).toNat=max (r i) (r j) by omega,show min (r i:Int) (r j:Int)=((min (r i) (r j):Nat):Int) by omega]
  refine aj ?_;refine aj ?_;refine aj ?_;refine ae (ae (ae ab (ae ?_ ag)) (ae (ae aa (ajs (RO.ints .i64) e)) ag)) ?_
  ·show(dX n r:Int) - 1=(dX n (Ae r i j):Int)
   omega
  ·exact(aj3 h1).symm
theorem yU(n:Nat)(p:List Int)(c:Int)(hl:p.length=n)(hn:n<=4096):MF 107 [.ptr 1000 0] (Wn p c) (.cL []) (Wn (cR n) n):=ui Tryz.func107 (by decide+kernel) rfl (ah rfl) λ_=>by
 refine af []<|kF (λ(j:Nat) (_:List Int)=>[(8,.int .i64 j)]) (λ_ q=>[(1001,.vec 0 (.ints .i64 q) [])]) (λj q=>j<=n/\q.length=n/\∀k,k<j->q.getD k 0=(k:Int)) (λj _=>n - j) 0 p ⟨ajk _,hl,λk h=>by omega⟩ ab ?_
 rintro j q ⟨hj,hq,hk⟩;refine ae (λh1=>?_) (λh1=>?_)
 ·have h1:(j:Int)<(p.length:Int):=h1
  refine aj ?_;refine aj ?_;refine aj ?_;refine nx (j+1,q.set j (j:Int)) ⟨aa,by rw [ajv];exact hq,λk Zc=>?_⟩ (show n - (j+1)<n - j by omega) ab
  by_cases e:k=j
  ·subst e;rw [aB aa]
  ·rw [getD_set_ne (Ne.symm e)];exact hk k aa
 ·have h1:(p.length:Int)<=(j:Int):=h1
  have e:q=cR n:=a6 0 (by rw [bP];exact hq) λk oC=>by rw [hk k aa,dM aa]
  refine ae (ae (ae ab (ae (show(q.length:Int)=(n:Int) by omega) ag)) (ae (ae aa (ajs (RO.ints .i64) e)) ag)) trivial
theorem QO(n:Nat)(hn:n<=4096):MF 67 [.int .i64 n] [] (.ptr 7 0) [(7,.box [.vec 5,.int .i64 n]),(5,.vec 0 (.ints .i64 (cR n)) [])]:=ui Tryz.func67 (by decide+kernel) rfl (ah rfl) λ_=>by
 refine aj ?_;refine aj ?_;refine Or.inr (Or.inl (cm [] [(1000,7),(1001,5)] (yU n (List.replicate n 0) 0 (by simp) hn) ?_));refine ae ab ?_;exact ae (ae (ae ab (ae rfl ag)) (ae (ae aa rfl) ag)) ab
end Go.Proofs.YtgailjhnfghkgaaGreatDoor
end
