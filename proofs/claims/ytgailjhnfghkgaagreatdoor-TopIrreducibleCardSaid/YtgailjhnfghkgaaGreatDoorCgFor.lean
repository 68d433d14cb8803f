import Derived.Test.YtgailjhnfghkgaaGreatDoorSgpLaw
import Derived.Test.YtgailjhnfghkgaaGreatDoorDfa
import Derived.Test.YtgailjhnfghkgaaGreatDoorMult
import Derived.Test.YtgailjhnfghkgaaGreatDoorOrd
import Derived.Test.YtgailjhnfghkgaaGreatDoorCg
import Derived.Test.YtgailjhnfghkgaaGreatDoorEnLaw
section
namespace Go.Proofs.YtgailjhnfghkgaaGreatDoor
open Go Go.AM
set_option maxRecDepth 100000
structure tY(t:List (List Int))(x:Nat)(G R:List Int)(I:List Bool)(D:List Int):Prop where
 il:I.length=t.length
 dl:D.length=t.length
 UW:∀z,I.getD z false=true->Mk t G z
 lo:∀z,z<x->I.getD z false=true
 gs:∀g∈G,0<=g/\g<(t.length:Int)
 gl:G.length<=x
 rs:∀y∈R,(0<=y/\y<(t.length:Int))/\I.getD y.toNat false=true
 rn:R.Nodup
 dd:∀z,0<=D.getD z 0/\D.getD z 0<=(G.length:Int)
section
variable{t:List (List Int)}{x:Nat}{G R:List Int}{I:List Bool}{D:List Int}
theorem tY.rl(h:tY t x G R I D):R.length<=t.length:=IA h.rn λ y hy=>(h.rs y hy).1
theorem tY.start(t:List (List Int)):tY t 0 [] [] (List.replicate t.length false) (List.replicate t.length 0):=by
 refine⟨by simp,by simp,λ z hz=>?_,λ z hz=>absurd hz (Nat.not_lt_zero _),λ _ h=>(nomatch h),Nat.le_refl _,λ _ h=>(nomatch h),.nil,λ z=>?_⟩
 ·simp [List.getD,List.getElem?_replicate]at hz
  split at hz<;>simp at hz
 ·have:(List.replicate t.length (0:Int)).getD z 0=0:=by
   simp only [List.getD,List.getElem?_replicate];split<;>rfl
  rw [this];simp
theorem Co{I:List Bool}{x z:Nat}(h:(I.set x true).getD z false=true):z=x\/I.getD z false=true:=by
 by_cases e:z=x
 ·exact .inl e
 ·rw [getD_set_ne (Ne.symm e)]at h;exact .inr h
theorem nR{I:List Bool}{x z:Nat}(h:I.getD z false=true):(I.set x true).getD z false=true:=by
 by_cases e:x=z
 ·subst e
  have hl:x<I.length:=Nat.lt_of_not_le λ hl=>by
   rw [List.getD,List.getElem?_eq_none hl]at h;cases h
  exact aA hl
 ·rw [getD_set_ne e];exact h
theorem tY.gen(h:tY t x G R I D)(hx:x<t.length)(hn:I.getD x false=false):tY t (x+1) (G++[(x:Int)]) (R++[(x:Int)]) (I.set x true) D:=by
 have bL:=h.il;refine⟨by rw [List.length_set];exact h.il,h.dl,λ z hz=>?_,λ z hz=>?_,λ g hg=>?_,by have:=h.gl;simp;omega,λ y hy=>?_,?_,λ z=>by have:=h.dd z;rw [List.length_append,List.length_singleton];omega⟩
 ·rcases Co hz with rfl|hz
  ·have:=Mk.gen (t:=t) (gens:=G++[(z:Int)]) (g:=(z:Int)) (by simp)
   simpa using this
  ·exact(h.UW z hz).mono λ a ha=>List.mem_append_left _ ha
 ·by_cases e:z=x
  ·subst e;exact aA aa
  ·exact nR (h.lo z aa)
 ·rcases List.mem_append.1 hg with hg|hg
  ·exact h.gs g hg
  ·rw [List.mem_singleton]at hg;omega
 ·rcases List.mem_append.1 hy with hy|hy
  ·exact⟨(h.rs y hy).1,nR (h.rs y hy).2⟩
  ·rw [List.mem_singleton]at hy
   subst hy;exact⟨aa,by rw [Int.toNat_natCast];exact aA aa⟩
 ·rw [List.nodup_append]
  refine⟨h.rn,by simp,λ a ha b hb=>?_⟩;rw [List.mem_singleton]at hb;subst hb;rintro rfl;have:=(h.rs _ ha).2;rw [Int.toNat_natCast,hn]at this;cases this
theorem tY.skip(h:tY t x G R I D)(hx:x<t.length)(hn:I.getD x false=true):tY t (x+1) G R I D:=
 ⟨h.il,h.dl,h.UW,λ z hz=>by
   by_cases e:z=x
   ·subst e;exact hn
   ·exact h.lo z aa,h.gs,by have:=h.gl;omega,h.rs,h.rn,h.dd⟩
theorem tY.push(h:tY t x G R I D)(hs:Sh t){y g:Int}(hy:y∈R)(hg:g∈G)(hn:I.getD (en t y.toNat g.toNat) false=false):tY t x G (R++[(en t y.toNat g.toNat:Int)]) (I.set (en t y.toNat g.toNat) true) D:=by
 have hyr:=h.rs y hy;have V4:=h.gs g hg;have aS:=(hs.bA (x:=y.toNat) (y:=g.toNat) aa aa).2;have bL:=h.il;refine⟨by rw [List.length_set];exact h.il,h.dl,λ z hz=>?_,λ z hz=>nR (h.lo z hz),h.gs,h.gl,λ a ha=>?_,?_,h.dd⟩
 ·rcases Co hz with rfl|hz
  ·exact .mul (h.UW _ hyr.2) (.gen hg)
  ·exact h.UW z hz
 ·rcases List.mem_append.1 ha with ha|ha
  ·exact⟨(h.rs a ha).1,nR (h.rs a ha).2⟩
  ·rw [List.mem_singleton]at ha
   subst ha;exact⟨aa,by rw [Int.toNat_natCast];exact aA aa⟩
 ·rw [List.nodup_append]
  refine⟨h.rn,by simp,λ a ha b hb=>?_⟩;rw [List.mem_singleton]at hb;subst hb;rintro rfl;have:=(h.rs _ ha).2;rw [Int.toNat_natCast,hn]at this;cases this
theorem tY.step(h:tY t x G R I D){y:Nat}(hy:y<t.length)(hd:D.getD y 0<(G.length:Int)):tY t x G R I (D.set y (D.getD y 0+1)):=by
 have JE:=h.dl;refine⟨h.il,by rw [List.length_set];exact h.dl,h.UW,h.lo,h.gs,h.gl,h.rs,h.rn,λ z=>?_⟩
 by_cases e:y=z
 ·subst e;rw [aA aa];have:=h.dd y;omega
 ·rw [getD_set_ne e];exact h.dd z
theorem tY.done(h:tY t x G R I D)(hx:t.length<=x):pL t G:=⟨h.gs,λ z hz=>h.UW z (h.lo z aa)⟩
end
set_option maxHeartbeats 1000000 in
theorem qj(t:List (List Int))(h:Sh t):EF 105 [.ro (.rows .i64 t)] (λ l:List Int=>.new (.ints .i64 l)) (λ l=>pL t l/\l.length<=t.length):=HG Tryz.func105 (by decide+kernel) rfl (ah rfl) λ _=>by
 have kT:=h.most;refine ae aa ?_;refine ae aa ?_;refine ae aa ?_;refine ae aa ?_;refine af []<|lp5 (λ(x:Nat) (_ _:List Int) (_:List Bool) (_:List Int)=>[(19,.int .i64 x),(3,.vec 32),(4,.vec 36)]) (λ _ G R I D=>[(32,.vec 0 (.ints .i64 G) []),(36,.vec 0 (.ints .i64 R) []),(13,.vec 0 (.aL I) []),(16,.vec 0 (.ints .i64 D) [])]) (λ x G R I D=>x<=t.length/\tY t x G R I D) (λ x _ _ _ _=>t.length - x) 0 [] [] (List.replicate t.length false) (List.replicate t.length 0) ⟨Nat.zero_le _,tY.start t⟩ ab ?_
 rintro x G R I D ⟨hx,hg⟩;have il:=hg.il;have dl:=hg.dl;have gl:=hg.gl;have rl:=hg.rl;refine ae (λ h1=>?_) (λ h1=>?_)
 ·have h1:(x:Int)<(t.length:Int):=h1
  refine ae (show 0<=(x:Int)/\(x:Int)<(I.length:Int) by omega) ?_;refine ae (λ h2=>?_) (λ h2=>?_)
  ·have h2:I.getD x false=true:=h2
   refine ae aa ?_;exact nx (x+1,G,R,I,D) ⟨aa,hg.skip aa h2⟩ (show t.length - (x+1)<t.length - x by omega) ab
  ·have h2:I.getD x false=false:=h2
   refine ae (show 0<=(x:Int)/\(x:Int)<(I.length:Int) by omega) ?_;refine ae aa ?_;refine ae (by simp;omega) ?_;refine ae (by simp;omega) ?_;refine af [36]<|YZ (λ(i:Nat) (_:List Int) (_:List Bool) (_:List Int)=>[(8,.int .i64 i),(4,.vec 36)]) (λ _ R I D=>[(36,.vec 0 (.ints .i64 R) []),(13,.vec 0 (.aL I) []),(16,.vec 0 (.ints .i64 D) [])]) (λ i R I D=>i<=R.length/\tY t (x+1) (G++[(x:Int)]) R I D) (λ i _ _ _=>t.length - i) 0 (R++[(x:Int)]) (I.set x true) D ⟨Nat.zero_le _,hg.gen aa h2⟩ ab ?_
   rintro i R1 I1 D1 ⟨hi,UX⟩;have il1:=UX.il;have dl1:=UX.dl;have rl1:=UX.rl;have gl1:(G++[(x:Int)]).length=G.length+1:=by simp
   refine ae (λ h3=>?_) (λ h3=>?_)
   ·have h3:(i:Int)<(R1.length:Int):=h3
    have IB:=(UX.rs _ (an (d:=0) (i:=i) (l:=R1) aa)).1;refine ae (show 0<=(i:Int)/\(i:Int)<(R1.length:Int) by omega) ?_;have Rp:R1.getD i 0∈R1:=an aa;obtain⟨y,hyd⟩:∃y,R1.getD i 0=y:=⟨_,rfl⟩;rw [hyd]at Rp IB;refine af [9,36,38,43,45,46]<|A9 (λ(_:List Int) (_:List Bool) (_:List Int)=>[(4,.vec 36),(9,.int .i64 y)]) (λ R I D=>[(36,.vec 0 (.ints .i64 R) []),(13,.vec 0 (.aL I) []),(16,.vec 0 (.ints .i64 D) [])]) (λ R I D=>i<R.length/\y∈R/\tY t (x+1) (G++[(x:Int)]) R I D) (λ _ _ D=>G.length+1 - (D.getD y.toNat 0).toNat) R1 I1 D1 ⟨aa,Rp,UX⟩ (by repeat' first|refine ae ?_ ?_|exact ag|exact hyd|(show(_:Int)=(_:Int);omega)|omega|exact rfl|(simp only [RO.len];omega)) ?_
    rintro R2 I2 D2 ⟨xR,zw,DX⟩;have il2:=DX.il;have dl2:=DX.dl;have rl2:=DX.rl;have hd:=DX.dd y.toNat;have V5:y.toNat<t.length:=aa;refine ae (show 0<=y/\y<(D2.length:Int) by omega) ?_;refine ae (λ h4=>?_) (λ h4=>?_)
    ·have h4:D2.getD y.toNat 0<((G++[(x:Int)]).length:Int):=h4
     have sJ:(G++[(x:Int)]).getD (D2.getD y.toNat 0).toNat 0∈(G++[(x:Int)]):=an aa;have V4:=DX.gs _ sJ;have Ku:(D2.getD y.toNat 0).toNat<(G++[(x:Int)]).length:=aa;have e1:=h.bA (x:=y.toNat) (y:=((G++[(x:Int)]).getD (D2.getD y.toNat 0).toNat 0).toNat) aa aa;have r1:=h.len (x:=y.toNat) aa;refine Or.inl ?_;refine af [false,false,false,false,false,false,false,false,false,false,false,false,false,false] (ae (by decide+kernel) ?_);refine ae (show 0<=y/\y<(t.length:Int) by omega) ?_;refine ae (show 0<=y/\y<(D2.length:Int) by omega) ?_;refine ae (show 0<=D2.getD y.toNat 0/\D2.getD y.toNat 0<((G++[(x:Int)]).length:Int) by omega) ?_;refine ae (show 0<=(G++[(x:Int)]).getD (D2.getD y.toNat 0).toNat 0/\(G++[(x:Int)]).getD (D2.getD y.toNat 0).toNat 0<((t.getD y.toNat []).length:Int) by omega) ?_;have hz:0<=(t.getD y.toNat []).getD ((G++[(x:Int)]).getD (D2.getD y.toNat 0).toNat 0).toNat 0/\(t.getD y.toNat []).getD ((G++[(x:Int)]).getD (D2.getD y.toNat 0).toNat 0).toNat 0<(I2.length:Int):=aa;have hzn:((t.getD y.toNat []).getD ((G++[(x:Int)]).getD (D2.getD y.toNat 0).toNat 0).toNat 0).toNat=en t y.toNat ((G++[(x:Int)]).getD (D2.getD y.toNat 0).toNat 0).toNat:=aa;have c8:∀{R3:List Int} {I3:List Bool},tY t (x+1) (G++[(x:Int)]) R3 I3 D2->tY t (x+1) (G++[(x:Int)]) R3 I3 (D2.set y.toNat (D2.getD y.toNat 0+1)):=λ hh=>hh.step V5 h4
     have hms:G.length+1 - ((D2.set y.toNat (D2.getD y.toNat 0+1)).getD y.toNat 0).toNat<G.length+1 - (D2.getD y.toNat 0).toNat:=by
      rw [aA aa];omega
     refine ae hz ?_;refine ae (λ h5=>?_) (λ h5=>?_)
     ·have h5:(!I2.getD ((t.getD y.toNat []).getD ((G++[(x:Int)]).getD (D2.getD y.toNat 0).toNat 0).toNat 0).toNat false)=true:=h5
      rw [Bool.not_eq_true',hzn]at h5;have hp:=DX.push h zw sJ h5;rw [<-hzn,Int.toNat_of_nonneg hz.1]at hp;have gb:=hp.rl;refine ae hz ?_;refine ae hz.1 ?_;refine ae (show(((R2++[(t.getD y.toNat []).getD ((G++[(x:Int)]).getD (D2.getD y.toNat 0).toNat 0).toNat 0]).length:Nat):Int)<=17592186044416 by omega) ?_;refine ae (show 0<=y/\y<(D2.length:Int) by omega) ?_;refine ae (show -9223372036854775808<=D2.getD y.toNat 0+1/\D2.getD y.toNat 0+1<=9223372036854775807 by omega) ?_;refine ae (show 0<=y/\y<(D2.length:Int) by omega) ?_;refine ae (show((0:Nat):Int)<=y by omega) ?_;exact nx (R2++[(t.getD y.toNat []).getD ((G++[(x:Int)]).getD (D2.getD y.toNat 0).toNat 0).toNat 0],I2.set ((t.getD y.toNat []).getD ((G++[(x:Int)]).getD (D2.getD y.toNat 0).toNat 0).toNat 0).toNat true,D2.set y.toNat (D2.getD y.toNat 0+1)) ⟨by simp;omega,List.mem_append_left _ zw,c8 hp⟩ hms ab
     ·refine ae (show 0<=y/\y<(D2.length:Int) by omega) ?_
      refine ae (show -9223372036854775808<=D2.getD y.toNat 0+1/\D2.getD y.toNat 0+1<=9223372036854775807 by omega) ?_;refine ae (show 0<=y/\y<(D2.length:Int) by omega) ?_;refine ae (show((0:Nat):Int)<=y by omega) ?_;exact nx (R2,I2,D2.set y.toNat (D2.getD y.toNat 0+1)) ⟨xR,zw,c8 DX⟩ hms ab
    ·refine ae aa ?_
     exact nx (i+1,R2,I2,D2) ⟨aa,DX⟩ (show t.length - (i+1)<t.length - i by omega) ab
   ·refine ae aa ?_
    exact nx (x+1,G++[(x:Int)],R1,I1,D1) ⟨aa,UX⟩ (show t.length - (x+1)<t.length - x by omega) ab
 ·have h1:(t.length:Int)<=(x:Int):=h1
  refine af G (ae ⟨hg.done aa,aa⟩ ?_);exact ae (ae aa rfl) trivial
end Go.Proofs.YtgailjhnfghkgaaGreatDoor
end
section
namespace Go.Proofs.YtgailjhnfghkgaaGreatDoor
open Go Go.AM
set_option maxRecDepth 100000
theorem vD(n:Nat)(p:List Int)(r:Nat->Nat)(i:Nat)(h:Fo n p r)(hi:i<n)(hn:n<=4096):MF 113 [.vec 1000,.int .i64 i] [(1000,.vec 0 (.ints .i64 p) [])] (.int .i64 (r i:Nat)) [(1000,.vec 0 (.ints .i64 (fD (i+1) p i)) [])]:=tf Tryz.func113 (by decide+kernel) rfl (ah rfl) λ _=>by
 refine af []<|lA (λ(j:Nat) (_:List Int)=>[(1,.int .i64 j)]) (λ _ q=>[(1000,.vec 0 (.ints .i64 q) [])]) (λ j q=>j<n/\Fo n q r/\r j=r i/\fD (j+1) q j=fD (i+1) p i) (λ j _=>j) i p ⟨hi,h,rfl,rfl⟩ ab ?_
 rintro j q ⟨hj,hq,hr,hf⟩;have oy:=hq.len;have hle:=hq.le j hj;have SX:=hq.le (q.getD j 0).toNat aa;refine ae aa ?_;refine ae (λ h1=>?_) (λ h1=>?_)
 ·have h1:q.getD j 0≠(j:Int):=h1
  have hl:=Ac hq hj h1;have Lk:=hq.half hj;have hlh:=Lk.le j hj;have hlen:=Lk.len;refine ae aa ?_;refine ae (show 0<=q.getD j 0/\q.getD j 0<(q.length:Int) by omega) ?_;refine ae aa ?_;refine ae aa ?_;refine ae (show 0<=(j:Int)/\(j:Int)<((q.set j (q.getD (q.getD j 0).toNat 0)).length:Int) by rw [List.length_set];omega) ?_;have ej:(((iE q j).getD j 0).toNat:Int)=(iE q j).getD j 0:=aa;refine nx (((iE q j).getD j 0).toNat,iE q j) ⟨aa,Lk,(Lk.par j hj).trans hr,?_⟩ hl (by repeat' first|refine ae ?_ ?_|exact ag|exact ej.symm|exact rfl|repeat' first|refine ae ?_ ?_|exact ag|(show(_:Int)=(_:Int);omega)|omega|exact rfl|(simp only [RO.len];omega));rw [<-hf,fD.eq_2 q j j,if_neg h1];exact rS _ _ Lk aa aa aa
 ·have h1:q.getD j 0=(j:Int):=h1
  refine ae ?_ ?_
  ·refine ae (ae aa ?_) trivial
   rw [<-hf];unfold fD;rw [if_pos h1]
  ·show(j:Int)=(r i:Nat)
   rw [<-hr,hq.fix j hj h1]
theorem yg(n:Nat)(p:List Int)(r:Nat->Nat)(i j:Nat)(h:Fo n p r)(hi:i<n)(hj:j<n)(hn:n<=4096):MF 71 [.vec 1000,.int .i64 i,.int .i64 j] [(1000,.vec 0 (.ints .i64 p) [])] (.cC []) [(1000,.vec 0 (.ints .i64 (Pr r p i j)) [])]:=tf Tryz.func71 (by decide+kernel) rfl (ah rfl) λ _=>by
 have h1:=fh (i+1) h hi;refine Or.inr (Or.inl (cm [] [(1000,1000)] (vD n p r i h hi hn) ?_));refine ae ab ?_;refine Or.inr (Or.inl (cm [] [(1000,1000)] (vD n (fD (i+1) p i) r j h1 hj hn) ?_));refine ae ab ?_;have h2:=fh (j+1) h1 hj;have hl:=h2.len;have ri:=h.zo hi;have rj:=h.zo hj;refine ae aa ?_;refine ae aa ?_;refine ae (ae (ae aa ?_) ag) trivial;refine congrArg (RO.ints .i64) ?_;unfold Pr;rw [show(max (r i:Int) (r j:Int)).toNat=max (r i) (r j) by omega,show min (r i:Int) (r j:Int)=((min (r i) (r j):Nat):Int) by omega]
theorem Cq(n:Nat)(p:List Int)(r:Nat->Nat)(h:Fo n p r)(hn:n<=4096):MF 72 [.vec 1000] [(1000,.vec 0 (.ints .i64 p) [])] (.vec 21) [(21,.vec 0 (.ints .i64 (canon (EP n r))) []),(1000,.vec 0 (.ints .i64 (Ll p n)) [])]:=tf Tryz.func72 (by decide+kernel) rfl (ah rfl) λ _=>by
 have gb:=h.len;refine ae aa ?_;refine ae aa ?_;refine af []<|lA (λ(k:Nat) (_:List Int)=>[(10,.int .i64 k)]) (λ k L=>[(1000,.vec 0 (.ints .i64 (Ll p k)) []),(7,.vec 0 (.ints .i64 L) [])]) (λ k L=>k<=n/\L.length=n/\∀j,j<k->L.getD j 0=(r j:Int)) (λ k _=>n - k) 0 (List.replicate n 0) ⟨Nat.zero_le _,by simp,aa⟩ (by repeat' first|refine ae ?_ ?_|exact ag|(show(_:Int)=(_:Int);omega)|omega|exact rfl|(simp;omega)) ?_
 rintro k L ⟨hk,hL,hj⟩;have hfo:=Gv h k hk;have FP:=hfo.len;refine ae (λ h1=>?_) (λ h1=>?_)
 ·have h1:(k:Int)<(p.length:Int):=h1
  have lr:k<n:=aa;refine Or.inr (Or.inl (cm [] [(1000,1000)] (vD n (Ll p k) r k hfo lr hn) ?_));refine ae ab ?_;refine ae aa ?_;refine ae aa ?_;refine ae aa ?_;refine nx (k+1,L.set k (r k:Int)) ⟨aa,by rw [List.length_set];exact hL,λ j mb=>?_⟩ (show n - (k+1)<n - k by omega) ab
  by_cases e:j=k
  ·subst e;rw [aA aa]
  ·rw [getD_set_ne (Ne.symm e)];exact hj j aa
 ·have h1:(p.length:Int)<=(k:Int):=h1
  obtain rfl:k=n:=aa;have eL:L=EP k r:=bj 0 (by rw [qm];exact hL) λ x hx=>by rw [hj x aa,qn aa]
  subst eL;refine Or.inl (cq (yi (EP k r) (by rw [qm];omega)) (ae rfl ag) ?_);exact ae (ae (ae aa rfl) (ae (ae aa rfl) ag)) (ae aa (ae trivial ag))
theorem Gw(n:Nat)(hn:n<=4096):QF 112 [.int .i64 n] (.new (.ints .i64 (cV n))):=kr Tryz.func112 (by decide+kernel) rfl (ah rfl) λ _=>by
 refine ae (λ h1=>absurd (show(n:Int)<0 from h1) aa) (λ _=>?_);refine ae (λ h1=>absurd (show(4096:Int)<(n:Int)from h1) aa) (λ _=>?_);refine ae aa ?_;refine ae aa ?_;refine af []<|lA (λ(k:Nat) (_:List Int)=>[(14,.int .i64 k)]) (λ _ L=>[(12,.vec 0 (.ints .i64 L) [])]) (λ k L=>k<=n/\L.length=n/\∀j,j<k->L.getD j 0=(j:Int)) (λ k _=>n - k) 0 (List.replicate n 0) ⟨Nat.zero_le _,by simp,aa⟩ (by repeat' first|refine ae ?_ ?_|exact ag|(show(_:Int)=(_:Int);omega)|omega|exact rfl|(simp;omega)) ?_
 rintro k L ⟨hk,hL,hj⟩;refine ae (λ h1=>?_) (λ h1=>?_)
 ·have h1:(k:Int)<(n:Int):=h1
  have lr:k<n:=aa;refine ae (show 0<=(k:Int)/\(k:Int)<(L.length:Int) by omega) ?_;refine ae aa ?_;refine ae aa ?_;refine nx (k+1,L.set k (k:Int)) ⟨aa,by rw [List.length_set];exact hL,λ j mb=>?_⟩ (show n - (k+1)<n - k by omega) ab
  by_cases e:j=k
  ·subst e;rw [aA aa]
  ·rw [getD_set_ne (Ne.symm e)];exact hj j aa
 ·have h1:(n:Int)<=(k:Int):=h1
  refine ae (ae aa ?_) trivial;refine congrArg (RO.ints .i64) (bj 0 (by rw [bM];exact hL) λ j mb=>?_);rw [hj j aa,du aa]
theorem Gx(n:Nat)(hn:n<=4096):QF 70 [.int .i64 n] (.new (.ints .i64 (cV n))):=kr Tryz.func70 (by decide+kernel) rfl (ah rfl) λ _=>by
 refine Or.inl (cq (Gw n hn) (ae rfl ag) ?_);exact ae (ae aa rfl) trivial
theorem Cr:∀(l:List (Int × Int)) (r:Nat->Nat) (x:Int × Int),IC r (l++[x])=vE (IC r l) x.1.toNat x.2.toNat
 |[],_,_=>rfl
 |_::l,_,x=>Cr l _ x
theorem Lm(n:Nat)(hn:n<=4096)(l:List (Int × Int))(ot:l.length<=140737488355328)(hl:∀x∈l,0<=x.1/\x.1<(n:Int)/\0<=x.2/\x.2<(n:Int)):SS TY SP Tryz.f29 [.int .i64 n,.ro (.aT l)] (.new (.ints .i64 (canon (EP n (IC id l))))):=by
 refine ae (λ h1=>absurd (show(n:Int)<0 from h1) aa) (λ _=>?_);refine ae (λ h1=>absurd (show(4096:Int)<(n:Int)from h1) aa) (λ _=>?_);refine Or.inl (cq (Gx n hn) (ae rfl ag) ?_);refine af []<|lA (λ(k:Nat) (_:List Int)=>[(18,.int .i64 k)]) (λ _ p=>[(15,.vec 0 (.ints .i64 p) [])]) (λ k p=>k<=l.length/\Fo n p (IC id (l.take k))) (λ k _=>l.length - k) 0 (cV n) ⟨Nat.zero_le _,by rw [List.take_zero];exact Fo.Sp n⟩ ab ?_
 rintro k p ⟨hk,hp⟩;have gb:=hp.len;refine ae (λ h1=>?_) (λ h1=>?_)
 ·have h1:(k:Int)<(l.length:Int):=h1
  have lr:k<l.length:=aa;have hx:=hl (l.getD k (0,0)) (an lr);have e1:((l.getD k (0,0)).1.toNat:Int)=(l.getD k (0,0)).1:=aa;have e2:((l.getD k (0,0)).2.toNat:Int)=(l.getD k (0,0)).2:=aa;have funion:=yg n p (IC id (l.take k)) (l.getD k (0,0)).1.toNat (l.getD k (0,0)).2.toNat hp aa aa hn;rw [e1,e2]at funion;have n10:¬(1:Int)=((0:Nat):Int):=aa;have n01:¬(0:Int)=((0+1:Nat):Int):=aa;refine ae aa ?_;refine ae aa ?_;refine ae (λ _=>?_) (ae (λ h=>absurd h n01) ag);refine ae aa ?_;refine ae (λ h=>absurd h n10) (ae (λ _=>?_) ag);refine ae (λ h4=>?_) (λ _=>?_)
  ·have h4:min (l.getD k (0,0)).1 (l.getD k (0,0)).2<0:=h4
   omega
  refine ae aa ?_;refine ae (λ _=>?_) (ae (λ h=>absurd h n01) ag);refine ae aa ?_;refine ae (λ h=>absurd h n10) (ae (λ _=>?_) ag);refine ae (λ h4=>?_) (λ _=>?_)
  ·have h4:(n:Int)<=max (l.getD k (0,0)).1 (l.getD k (0,0)).2:=h4
   omega
  refine ae aa ?_;refine ae (λ _=>?_) (ae (λ h=>absurd h n01) ag);refine ae aa ?_;refine ae (λ h=>absurd h n10) (ae (λ _=>?_) ag);refine Or.inr (Or.inl (cm [] [(1000,15)] funion ?_));refine ae ab ?_;refine ae aa ?_;refine nx (k+1,Pr (IC id (l.take k)) p (l.getD k (0,0)).1.toNat (l.getD k (0,0)).2.toNat) ⟨aa,?_⟩ (show l.length - (k+1)<l.length - k by omega) ab;rw [List.take_add_one,List.getElem?_eq_getElem lr];rw [show(some l[k]).toList=[l[k]]from rfl,Cr];have eg:l[k]=l.getD k (0,0):=by rw [List.getD_eq_getElem?_getD,List.getElem?_eq_getElem lr];rfl
  rw [eg];exact hp.union aa aa
 ·have h1:(l.length:Int)<=(k:Int):=h1
  rw [List.take_of_length_le aa]at hp;refine Or.inr (Or.inl (cm [] [(1000,15),(21,301)] (Cq n p (IC id l) hp hn) ?_));refine ae ab ?_;exact ae (ae aa rfl) trivial
theorem yj(n:Nat)(hn:n<=4096)(l:List (Int × Int))(hl:∀x∈l,0<=x.1/\x.1<(n:Int)/\0<=x.2/\x.2<(n:Int)):QF 29 [.int .i64 n,.ro (.aT l)] (.new (.ints .i64 (canon (EP n (IC id l))))):=kr Tryz.func29 (by decide+kernel) rfl (ah rfl) λ hf=>Lm n hn l hf.2.1.1 hl
end Go.Proofs.YtgailjhnfghkgaaGreatDoor
end
section
namespace Go.Proofs.YtgailjhnfghkgaaGreatDoor
open Go Go.AM
set_option maxRecDepth 100000
abbrev UY(p:List Int)(c:Int):ai:=[(1000,.box [.vec 1001,.int .i64 c]),(1001,.vec 0 (.ints .i64 p) [])]
theorem qo(n:Nat)(p:List Int)(r:Nat->Nat)(c:Int)(i:Nat)(h:Fo n p r)(hi:i<n)(hn:n<=4096):MF 111 [.ptr 1000 0,.int .i64 i] (UY p c) (.int .i64 (r i:Nat)) (UY (fD (i+1) p i) c):=tf Tryz.func111 (by decide+kernel) rfl (ah rfl) λ _=>by
 refine af []<|lA (λ(j:Nat) (_:List Int)=>[(1,.int .i64 j)]) (λ _ q=>[(1001,.vec 0 (.ints .i64 q) [])]) (λ j q=>j<n/\Fo n q r/\r j=r i/\fD (j+1) q j=fD (i+1) p i) (λ j _=>j) i p ⟨hi,h,rfl,rfl⟩ ab ?_
 rintro j q ⟨hj,hq,hr,hf⟩;have oy:=hq.len;have hle:=hq.le j hj;have SX:=hq.le (q.getD j 0).toNat aa;refine ae aa ?_;refine ae (λ h1=>?_) (λ h1=>?_)
 ·have h1:q.getD j 0≠(j:Int):=h1
  have hl:=Ac hq hj h1;have Lk:=hq.half hj;have hlh:=Lk.le j hj;have hlen:=Lk.len;refine Or.inl ?_;refine af [false,false,false,false,false,false,false,false,false,false,false,false,false,false,false,false,false,false,false,true] (ae (by decide+kernel) ?_);refine ae aa ?_;refine ae (by simp only [Int.toNat_natCast];omega) ?_;refine ae aa ?_;refine ae aa ?_;refine ae (by simp;omega) ?_;have ej:(((iE q j).getD j 0).toNat:Int)=(iE q j).getD j 0:=aa;refine nx (((iE q j).getD j 0).toNat,iE q j) ⟨aa,Lk,(Lk.par j hj).trans hr,?_⟩ hl (by repeat' first|refine ae ?_ ?_|exact ag|exact ej.symm|exact rfl|repeat' first|refine ae ?_ ?_|exact ag|(show(_:Int)=(_:Int);omega)|omega|exact rfl|(simp only [RO.len];omega));rw [<-hf,fD.eq_2 q j j,if_neg h1];exact rS _ _ Lk aa aa aa
 ·have h1:q.getD j 0=(j:Int):=h1
  have e:q=fD (i+1) p i:=by rw [<-hf];unfold fD;rw [if_pos h1]
  refine ae (ae ab (ae (ae aa (congrArg (RO.ints .i64) e)) ag)) ?_
  ·show(j:Int)=(r i:Nat)
   rw [<-hr,hq.fix j hj h1]
theorem Ln(n:Nat)(p:List Int)(r:Nat->Nat)(i j:Nat)(h:Fo n p r)(hi:i<n)(hj:j<n)(hn:n<=4096):MF 109 [.ptr 1000 0,.int .i64 i,.int .i64 j] (UY p (dR n r)) (.bool (.v (decide (r i≠r j)))) (UY (JC r p i j) (dR n (zn r i j))):=tf Tryz.func109 (by decide+kernel) rfl (ah rfl) λ _=>by
 have h1:=fh (i+1) h hi;have h2:=fh (j+1) h1 hj;have hl:=h2.len;have ri:=h.zo hi;have rj:=h.zo hj;have hc:=Kb h hi hj;have da:=D9 n r;refine Or.inr (Or.inl (cm [] [(1000,1000),(1001,1001)] (qo n p r (dR n r) i h hi hn) ?_));refine ae ab ?_;refine Or.inr (Or.inl (cm [] [(1000,1000),(1001,1001)] (qo n (fD (i+1) p i) r (dR n r) j h1 hj hn) ?_));refine ae ab ?_;refine ae (λ h1=>?_) (λ h1=>?_)
 ·have h1:(r i:Int)=(r j:Int):=h1
  have h1:r i=r j:=aa;rw [if_pos h1]at hc;have e:fD (j+1) (fD (i+1) p i) j=JC r p i j:=(if_pos h1).symm;refine ae (ae (ae ab (ae ?_ ag)) (ae (ae aa (congrArg (RO.ints .i64) e)) ag)) ?_
  ·show(dR n r:Int)=(dR n (zn r i j):Int)
   omega
  ·exact(decide_eq_false λ h2=>h2 h1).symm
 ·have h1:(r i:Int)≠(r j:Int):=h1
  have h1:r i≠r j:=aa;rw [if_neg h1]at hc
  have e:(fD (j+1) (fD (i+1) p i) j).set (max (r i:Int) (r j:Int)).toNat (min (r i:Int) (r j:Int))=JC r p i j:=by
   unfold JC Pr;rw [if_neg h1,show(max (r i:Int) (r j:Int)).toNat=max (r i) (r j) by omega,show min (r i:Int) (r j:Int)=((min (r i) (r j):Nat):Int) by omega]
  refine ae aa ?_;refine ae aa ?_;refine ae aa ?_;refine ae (ae (ae ab (ae ?_ ag)) (ae (ae aa (congrArg (RO.ints .i64) e)) ag)) ?_
  ·show(dR n r:Int) - 1=(dR n (zn r i j):Int)
   omega
  ·exact(decide_eq_true h1).symm
theorem yk(n:Nat)(p:List Int)(c:Int)(hl:p.length=n)(hn:n<=4096):MF 107 [.ptr 1000 0] (UY p c) (.cC []) (UY (cV n) n):=tf Tryz.func107 (by decide+kernel) rfl (ah rfl) λ _=>by
 refine af []<|lA (λ(j:Nat) (_:List Int)=>[(8,.int .i64 j)]) (λ _ q=>[(1001,.vec 0 (.ints .i64 q) [])]) (λ j q=>j<=n/\q.length=n/\∀k,k<j->q.getD k 0=(k:Int)) (λ j _=>n - j) 0 p ⟨Nat.zero_le _,hl,λ k h=>by omega⟩ ab ?_
 rintro j q ⟨hj,hq,hk⟩;refine ae (λ h1=>?_) (λ h1=>?_)
 ·have h1:(j:Int)<(p.length:Int):=h1
  refine ae aa ?_;refine ae aa ?_;refine ae aa ?_;refine nx (j+1,q.set j (j:Int)) ⟨aa,by rw [List.length_set];exact hq,λ k XI=>?_⟩ (show n - (j+1)<n - j by omega) ab
  by_cases e:k=j
  ·subst e;rw [aA aa]
  ·rw [getD_set_ne (Ne.symm e)];exact hk k aa
 ·have h1:(p.length:Int)<=(j:Int):=h1
  have e:q=cV n:=bj 0 (by rw [bM];exact hq) λ k n6=>by rw [hk k aa,du aa]
  refine ae (ae (ae ab (ae (show(q.length:Int)=(n:Int) by omega) ag)) (ae (ae aa (congrArg (RO.ints .i64) e)) ag)) trivial
theorem Ps(n:Nat)(hn:n<=4096):MF 67 [.int .i64 n] [] (.ptr 7 0) [(7,.box [.vec 5,.int .i64 n]),(5,.vec 0 (.ints .i64 (cV n)) [])]:=tf Tryz.func67 (by decide+kernel) rfl (ah rfl) λ _=>by
 refine ae aa ?_;refine ae aa ?_;refine Or.inr (Or.inl (cm [] [(1000,7),(1001,5)] (yk n (List.replicate n 0) 0 (by simp) hn) ?_));refine ae ab ?_;exact ae (ae (ae ab (ae rfl ag)) (ae (ae aa rfl) ag)) ab
end Go.Proofs.YtgailjhnfghkgaaGreatDoor
end
