import Derived.Test.YtgailjhnfghkgaaGreatDoorEnT
import Derived.Test.YtgailjhnfghkgaaGreatDoorOrd
import Derived.Test.YtgailjhnfghkgaaGreatDoorDfa
import Derived.Test.YtgailjhnfghkgaaGreatDoorSyLaw
section
namespace Go.Proofs.YtgailjhnfghkgaaGreatDoor
open Go Go.AM
structure KI(n:Nat)(E:List (List Int)):Prop where
 n1:1<=n
 n3:n<=3
 ya:∀f∈E,lJ n f
 nd:E.Nodup
 one:E.getD 0 []=cR n
 pos:0<E.length
 cl:∀f∈E,∀g∈E,bG f g∈E
theorem u6.tme{n:Nat}{G E:List (List Int)}{P L:List Int}{W:List (List Int)}{B:List Int}{R:List (List Int)}{U:List (List Int × List Int)}{S:List Int}(hG:∀f∈G,lJ n f)(h1:1<=n)(h3:n<=3)(h:u6 n G E.length E P L W B R U S):KI n E:=
 ⟨h1,h3,(h.ok hG).ya,(h.ok hG).nd,(h.ok hG).one,(h.ok hG).pos,(h.ok hG).closed rfl⟩
section
variable{n:Nat}{E:List (List Int)}
theorem KI.pZ(h:KI n E):E.length<=27:=qW h.n3 h.nd h.ya
theorem KI.at(h:KI n E){x:Nat}(hx:x<E.length):lJ n (E.getD x []):=h.ya _ (al hx)
theorem KI.pr(h:KI n E){x y:Nat}(hx:x<E.length)(hy:y<E.length):en (aP E) x y<E.length/\E.getD (en (aP E) x y) []=bG (E.getD x []) (E.getD y []):=by
 have e:en (aP E) x y=fc E (bG (E.getD x []) (E.getD y [])):=by
  unfold en;rw [B8 hx hy];exact ajr _
 rw [e];exact dr (h.cl _ (al hx) _ (al hy))
theorem KI.inj(h:KI n E){x y:Nat}(hx:x<E.length)(hy:y<E.length)(e:E.getD x []=E.getD y []):x=y:=HI h.nd hx hy e
theorem KI.iJ(h:KI n E):Semi (aP E):=by
 refine⟨⟨by rw [b7];exact h.pos,by rw [b7];have:=h.pZ;omega,λr hr=>?_⟩,λg hg x y hx hy=>?_⟩
 ·obtain⟨i,hi,rfl⟩:=aS [] hr
  rw [b7]at hi ⊢;rw [wB hi];refine⟨by simp,λx hx=>?_⟩;obtain⟨k,hk,rfl⟩:=ajU.1 hx;have:=(dr (h.cl _ (al (d:=[]) hi) _ hk)).1;omega
 ·rw [b7]at hg hx hy
  have a1:=h.pr hx hg;have a2:=h.pr hg hy;have a3:=h.pr a1.1 hy;have a4:=h.pr hx a2.1;exact h.inj a3.1 a4.1 (by rw [a3.2,a1.2,a4.2,a2.2,sC (h.at hx) (h.at hg)])
end
set_option maxRecDepth 100000
set_option maxHeartbeats 8000000
theorem OR(l:List Int)(x:Int)(hl:l.length<=4096):QF 103 [.ro (.ints .i64 l),.int .i64 x] (.int .i64 (if x∈l then (oM l x:Int) else -1)):=fN Tryz.func103 (by decide+kernel) rfl (ah rfl) λ_=>by
 refine af []<|lp (X:=Nat) (λk=>[(8,.int .i64 k)]) (λ_=>[]) (λk=>k<=l.length/\∀j,j<k->l.getD j 0≠x) (λk=>l.length - k) 0 ⟨ajk _,λj hj=>absurd hj (aju _)⟩ ab ?_
 rintro k ⟨hk,Zc⟩;refine ae (λh1=>?_) (λh1=>?_)
 ·have h1:(k:Int)<(l.length:Int):=h1
  have lK:k<l.length:=aa;refine aj ?_;refine ae (λh2=>?_) (λh2=>?_)
  ·have h2:x=l.getD k 0:=h2
   have hm:x∈l:=h2▸al lK;have e1:=iW hm;have e2:=rT lK h2.symm
   have e3:oM l x=k:=by
    refine ajy λbn=>Zc (oM l x) aa e1.2
   refine ae ?_ trivial;show(k:Int)=_;rw [ajq hm,e3]
  ·have h2:x≠l.getD k 0:=h2
   refine aj ?_;refine nx (k+1) ⟨aa,λj hj=>?_⟩ (show l.length - (k+1)<l.length - k by omega) ab
   by_cases e:j=k
   ·rw [e];exact Ne.symm h2
   ·exact Zc j aa
 ·have h1:(l.length:Int)<=(k:Int):=h1
  refine ae ?_ trivial;show(-1:Int)=_;rw [ajm λhm=>by obtain⟨j,hj,e⟩:=aS 0 hm;exact Zc j aa e]
theorem KB(l:List Int)(x:Int)(hl:l.length<=4096):QF 60 [.ro (.ints .i64 l),.int .i64 x] (.bool (.v (decide (x∈l)))):=fN Tryz.func60 (by decide+kernel) rfl (ah rfl) λ_=>by
 refine Or.inl (cq (OR l x hl) (ae rfl (ae rfl ag)) ?_);refine ae ?_ trivial;show decide (0<=if x∈l then (oM l x:Int) else -1)=decide (x∈l)
 by_cases h:x∈l
 ·rw [ajq h,aj3 h,aj3 aa]
 ·rw [ajm h,akp h,akp aa]
theorem Se(F:List Bool)(f:List Int)(hf:1<=f.length/\f.length<=4096)(h0:0<=f.getD 0 0/\f.getD 0 0<(F.length:Int))(hF:F.length<=4096):QF 61 [.agg [.int .i64 0,.ro (.aI F),.int .i64 0],.ro (.ints .i64 f)] (.bool (.v (F.getD (f.getD 0 0).toNat false))):=fN Tryz.func61 (by decide+kernel) rfl (ah rfl) λ_=>by
 refine Or.inl ?_;refine af (ai 13) (ae (by decide+kernel) ?_);have e0:f.getD (Int.toNat 0) 0 - 0=f.getD 0 0:=Int.sub_zero _;refine aj ?_;refine aj ?_;refine aj ?_;refine ae ?_ trivial;show F.getD (f.getD (Int.toNat 0) 0 - 0).toNat false=_;rw [e0];rfl
structure WM(P Ls:List Int)(W:List (List Int))(i:Nat):Prop where
 w0:W.getD 0 []=[]
 ws:∀j,0<j->j<i->W.getD j []=W.getD (P.getD j 0).toNat []++[97+Ls.getD j 0]
 wl:∀j,j<i->(W.getD j []).length<=j
def plB(R:List (List Int)):Nat->Bool
 |0=>false|a+1=>plB R a||decide (0∈R.getD a [])
structure Le(R:List (List Int))(Pl:List Bool)(n a:Nat):Prop where
 len:Pl.length=n
 p0:Pl.getD 0 false=plB R a
 ps:∀j,0<j->j<n->Pl.getD j false=true
theorem Le.next{R:List (List Int)}{Pl:List Bool}{n a:Nat}(h:Le R Pl n a)(hn:0<n){b:Bool}(hb:b=(Pl.getD 0 false||decide (0∈R.getD a []))):Le R (Pl.set 0 b) n (a+1):=by
 have hl:=h.len;refine⟨by rw [ajv,hl],?_,λj h0 hj=>?_⟩
 ·rw [aB aa,hb,h.p0];rfl
 ·rw [getD_set_ne aa];exact h.ps j h0 hj
theorem Le.uniq{R:List (List Int)}{P1 P2:List Bool}{n a:Nat}(h:Le R P1 n a)(g:Le R P2 n a):P1=P2:=by
 refine a6 false (by rw [h.len,g.len]) λj hj=>?_;rw [h.len]at hj;rcases aj1 j with e|e
 ·rw [e,h.p0,g.p0]
 ·rw [h.ps j e hj,g.ps j e hj]
theorem VA{L n:Nat}{G:List (List Int)}{F:List Bool}(hn:n=F.length)(hG:∀f∈G,lJ n f)(h1:1<=n)(h3:n<=3)(hL:G.length=L)(WA:0<L)(Tq:L<=6):
  QE TY SP Tryz.f26 [.ptr 1000 0] [(1000,.box [.ro (.rows .i64 G),.ro (.ec [(0,F,0)]),.int .i64 n])] (List (List Int) × List Int × List (List Int) × List Bool)
   (B4 λE I W Pl=>.cL [.agg [.int .i64 L,.ro (.rows .i64 (aP E)),.ro (.strs W),.ro (.ints .i64 I),.ar,.ro (.aI Pl)],.ro (.bC [E.map λf=>F.getD (f.getD 0 0).toNat false]),.int .i64 0])
   (λ_=>[(1000,.box [.ro (.rows .i64 G),.ro (.ec [(0,F,0)]),.int .i64 n])])
   (B4 λE I W Pl=>∃P Ls R U Ws B S,u6 n G E.length E P Ls Ws B R U S/\I=R.getD 0 []/\WM P Ls W E.length/\W.length=E.length/\Le R Pl E.length E.length):=by
 refine Or.inr (Or.inr (ce (Rh n G hG h1 h3 aa aa) (ae rfl (ae rfl ag)) ?_));refine Uc λE P Ls R U D=>?_;intro hz;have hDE:D=E.length:=hz.1;obtain⟨Ws,B,S,hR⟩:=hz.2;rw [hDE]at hR;have hV:=hR.ok hG;have hT:=hR.tme hG h1 h3;have Jb:=hT.pZ;have iu:=hT.pos;refine ae (λk=>absurd rfl k) (λ_=>?_);refine ae (λk=>absurd (show 400<(E.length:Int)from k) aa) (λ_=>?_);have mV:R.length=E.length:=hV.rl;have gw:P.length=E.length:=hV.pl;have oO:Ls.length=E.length:=hV.ll;have s7:=(hV.row 0 iu).1;refine Or.inl ?_;refine af (ai 18++[true]) (ae (by decide+kernel) ?_);refine aj ?_;refine aj ?_;refine Or.inl ?_;refine aj ?_;refine aj ?_;refine ae (show(0:Int)<=0/\(0:Int)<(R.length:Int) by omega) ?_;refine cq (lu (R.getD 0 []) (by have:(R.getD 0 []).length=G.length:=s7;omega)) (ae rfl ag) ?_;refine aj ?_;refine aj ?_
 refine af []<|BU (λ(i:Nat) (_:List (List Int)) (_:List Bool)=>[(9,.int .i64 i)]) (λ_ W Pl=>[(44,.vec 0 (.strs W) []),(51,.vec 0 (.aI Pl) [])])
  (λi W Pl=>(1<=i/\i<=E.length)/\(W.length=E.length/\Pl.length=E.length/\Pl.getD 0 false=false/\∀j,0<j->j<i->Pl.getD j false=true)/\WM P Ls W i) (λi _ _=>E.length - i) 1 (List.replicate E.length []) (List.replicate E.length false)
  ⟨⟨ajl _,aa⟩,⟨by simp,by simp,by simp only [List.getD,ajH];split<;>rfl,λj h0 h1=>by omega⟩,⟨by simp only [List.getD,ajH];split<;>rfl,λj h0 h1=>by omega,λj hj=>by simp only [List.getD,ajH];split<;>simp⟩⟩ ab ?_
 rintro i W Pl ⟨hi,⟨hW,YM,hP0,Zb⟩,hI⟩;refine ae (λk1=>?_) (λk1=>?_)
 ·have k1:(i:Int)<(E.length:Int):=k1
  have bD:i<E.length:=aa;obtain⟨hp,hl,_,_⟩:=hV.pre i aa bD;have ZC:0<=P.getD i 0:=hp.1;have gu:P.getD i 0<(i:Int):=hp.2;have Ha:0<=Ls.getD i 0:=hl.1;have rX:Ls.getD i 0<(G.length:Int):=hl.2;have US:=hI.wl (P.getD i 0).toNat aa;refine Or.inl ?_;refine af (ai 23++[true]) (ae (by decide+kernel) ?_);have hu8:(0:Int)<=97+Ls.getD i 0/\97+Ls.getD i 0<=255:=aa;refine aj ?_;refine ae (by simp only [ajr];omega) ?_;refine aj ?_;refine ae (by simp only [ajr];omega) ?_;refine ae (show IntKind.u8.min<=97+Ls.getD i 0/\97+Ls.getD i 0<=IntKind.u8.max from hu8) ?_;refine ae (show(W.getD (P.getD i 0).toNat []).length+[97+Ls.getD i 0].length<=17592186044416 by rw [ajx];omega) ?_;refine aj ?_;refine aj ?_;refine aj ?_;refine aj ?_;refine aj ?_
  refine nx (i+1,W.set i (W.getD (P.getD i 0).toNat []++[97+Ls.getD i 0]),Pl.set i true) ⟨⟨aa,aa⟩,⟨by rw [ajv];exact hW,by rw [ajv];exact YM,by rw [getD_set_ne aa];exact hP0,λj h0 hj=>by
   by_cases e:j=i
   ·rw [e,aB aa]
   ·rw [getD_set_ne (Ne.symm e)];exact Zb j h0 aa⟩,⟨?_,λj h0 hj=>?_,λj hj=>?_⟩⟩ (show E.length - (i+1)<E.length - i by omega) ab
  ·rw [ff aa];exact hI.w0
  ·by_cases e:j=i
   ·rw [e,jk aa,ff aa]
   ·have WJ:P.getD j 0<(j:Int):=(hV.pre j h0 (show j<E.length by omega)).1.2
    rw [ff e,ff aa];exact hI.ws j h0 aa
  ·by_cases e:j=i
   ·rw [e,jk aa,ajp,ajx];omega
   ·rw [ff e];exact hI.wl j aa
 ·have k1:(E.length:Int)<=(i:Int):=k1
  have hie:i=E.length:=aa;rw [hie]at hI;have cX:=b7 E
  refine af []<|BU (λ(a:Nat) (_:List (List Int)) (_:List Bool)=>[(88,.int .i64 a)]) (λ_ Q Pl=>[(51,.vec 0 (.aI Pl) []),(42,.vec 0 (.rows .i64 Q) [])])
   (λa Q Pl=>a<=E.length/\(Q.length=E.length/\Le R Pl E.length a)/\∀j,j<a->Q.getD j []=(aP E).getD j []) (λa _ _=>E.length - a) 0 (List.replicate E.length []) Pl ⟨ajk _,⟨by simp,⟨YM,hP0,λj h0 hj=>Zb j h0 aa⟩⟩,λj hj=>absurd hj (aju _)⟩ ab ?_
  rintro a Q Pl ⟨ha,⟨hQ,hPI⟩,hQj⟩;have YM:=hPI.len;refine ae (λk2=>?_) (λk2=>?_)
  ·have k2:(a:Int)<(R.length:Int):=k2
   have B3:a<E.length:=aa;have Zk:(R.getD a []).length=G.length:=(hV.row a (by show a<E.length;exact B3)).1;refine aj ?_;refine Or.inl ?_;refine af (ai 11++[true]) (ae (by decide+kernel) ?_);refine aj ?_;have hlp:∀b:Bool,b=b:=λ_=>rfl;refine ae (λk3=>?_) (λk3=>?_);obtain⟨b,hb⟩:∃b:Bool,b=true:=⟨_,rfl⟩;have Jw:b=(Pl.getD 0 false||decide (0∈R.getD a [])):=by rw [hb,show Pl.getD 0 false=true from k3,Bool.true_or]
   rotate_left
   obtain⟨b,hb⟩:∃b:Bool,b=decide (0∈R.getD a []):=⟨_,rfl⟩;have Jw:b=(Pl.getD 0 false||decide (0∈R.getD a [])):=by rw [hb,show Pl.getD 0 false=false from k3,Bool.false_or]
   refine cq (KB (R.getD a []) 0 aa) (ae rfl (ae rfl ag)) ?_
   all_goals
    refine aj ?_;refine aj ?_;refine Or.inl ?_;refine af [false,false,false,false,false,false,true] (ae (by decide+kernel) ?_);refine aj ?_;refine aj ?_;refine aj ?_;refine aj ?_;refine aj ?_;refine ae (λ_=>?_) (λh7=>absurd rfl h7);refine ae (show(0:Int)<=0/\(0:Int)<((List.replicate ((E.length:Nat):Int).toNat (0:Int)).length:Int) by rw [ajz,ajr];omega) ?_;refine aj ?_;refine af []<|kF (λ(j:Nat) (_:List Int)=>[(12,.int .i64 j)]) (λ_ r=>[(108,.vec 0 (.ints .i64 r) []),(42,.vec 0 (.rows .i64 Q) [(a,108)])]) (λj r=>(1<=j/\j<=E.length)/\r.length=E.length/\∀y,y<j->r.getD y 0=c9 E a y) (λj _=>E.length - j) 1 ((List.replicate E.length 0).set 0 (a:Int)) ⟨⟨ajl _,aa⟩,by simp,λy hy=>?_⟩ ab ?_
    ·have e0:E.getD 0 []=cR n:=hV.one
     obtain rfl:y=0:=aa;rw [aB (by simp;omega)];show(a:Int)=(fc E (bG (E.getD a []) (E.getD 0 [])):Int);rw [e0,HG (hV.ya _ (al B3))];exact ajs Nat.cast (wx hV.nd B3).symm
    rintro j r ⟨hj,hr,WL⟩;refine ae (λh6=>?_) (λh6=>?_)
    ·have h6:(j:Int)<(E.length:Int):=h6
     have oR:j<E.length:=aa;obtain⟨hP,ZT,_,_⟩:=hV.pre j aa oR;have hP0:0<=P.getD j 0:=hP.1;have hP1:P.getD j 0<(j:Int):=hP.2;have hL0:0<=Ls.getD j 0:=ZT.1;have TM:Ls.getD j 0<(G.length:Int):=ZT.2;obtain⟨zO,Lc⟩:=hV.bF rfl B3 (show 0<j by omega) oR;have zO:fc E (bG (E.getD a []) (E.getD (P.getD j 0).toNat []))<E.length:=zO;have Lc:c9 E a j=(R.getD (fc E (bG (E.getD a []) (E.getD (P.getD j 0).toNat []))) []).getD (Ls.getD j 0).toNat 0:=Lc;have YI:r.getD (P.getD j 0).toNat 0=(fc E (bG (E.getD a []) (E.getD (P.getD j 0).toNat [])):Int):=WL _ aa;have aH:(R.getD (fc E (bG (E.getD a []) (E.getD (P.getD j 0).toNat []))) []).length=G.length:=(hV.row _ zO).1;have GQ:(R.getD (r.getD (P.getD j 0).toNat 0).toNat []).length=G.length:=by rw [YI,ajr];exact aH
     have hv:(R.getD (r.getD (P.getD j 0).toNat 0).toNat []).getD (Ls.getD j 0).toNat 0=c9 E a j:=by rw [YI,ajr,Lc]
     refine Or.inl ?_;refine af (ai 30++[true]) (ae (by decide+kernel) ?_);refine aj ?_;refine ae (λ_=>?_) (λh7=>absurd rfl h7);refine aj ?_;refine ae (λ_=>?_) (λh7=>absurd rfl h7);refine aj ?_;refine ae (show 0<=P.getD j 0/\P.getD j 0<(r.length:Int) by omega) ?_;refine ae (show 0<=r.getD (P.getD j 0).toNat 0/\r.getD (P.getD j 0).toNat 0<(R.length:Int) by omega) ?_;refine aj ?_;refine ae (show 0<=Ls.getD j 0/\Ls.getD j 0<((R.getD (r.getD (P.getD j 0).toNat 0).toNat []).length:Int) by omega) ?_;refine aj ?_;refine aj ?_;refine aj ?_;refine nx (j+1,r.set j ((R.getD (r.getD (P.getD j 0).toNat 0).toNat []).getD (Ls.getD j 0).toNat 0)) ⟨⟨aa,aa⟩,by rw [ajv];exact hr,λy hy=>?_⟩ (show E.length - (j+1)<E.length - j by omega) ab
     by_cases e1:y=j
     ·rw [e1,aB aa];exact hv
     ·rw [getD_set_ne (Ne.symm e1)];exact WL y aa
    ·have h6:(E.length:Int)<=(j:Int):=h6
     have e:r=(aP E).getD a []:=by
      rw [wB B3];refine a6 0 (by simp;exact hr) λy hy=>?_;rw [WL y aa];simp [c9,List.getD,show y<E.length by omega]
     refine aj ?_
     have hnq:∀y,y<a+1->(Q.set a r).getD y []=(aP E).getD y []:=λy hy=>by
      by_cases e1:y=a
      ·rw [e1,jk aa,e]
      ·rw [ff e1];exact hQj y aa
     refine nx (a+1,Q.set a r,Pl.set 0 b) ⟨aa,⟨by rw [ajv];exact hQ,hPI.next iu Jw⟩,hnq⟩ (show E.length - (a+1)<E.length - a by omega) (by subst hb;repeat' first|refine ae ?_ ?_|exact ag|(show(_:Int)=(_:Int);omega)|omega|exact rfl|(simp only [RO.len];omega))
  ·have k2:(R.length:Int)<=(a:Int):=k2
   have hae:a=E.length:=aa;have eQ:Q=aP E:=a6 [] (by rw [b7];exact hQ) λy hy=>hQj y aa;have h1l:((([(0,F,0)]:List (Int × List Bool × Int)).length:Nat):Int)=1:=rfl;refine aj ?_;refine aj ?_;refine Or.inl ?_;refine af [7777] ?_;refine ae (λ_=>?_) (λh6=>absurd (show(1:Int)<=0 from h6) aa);refine aj ?_;refine aj ?_;refine aj ?_;refine ae (by simp) ?_;refine aj ?_;refine af []<|kF (λ(e:Nat) (_:List Bool)=>[(177,.int .i64 e)]) (λ_ r=>[(172,.vec 0 (.aI r) []),(158,.vec 0 (.bC [[]]) [(0,172)])]) (λe r=>e<=E.length/\r.length=E.length/\∀j,j<e->r.getD j false=F.getD ((E.getD j []).getD 0 0).toNat false) (λe _=>E.length - e) 0 (List.replicate E.length false) ⟨ajk _,by simp,λj hj=>absurd hj (aju _)⟩ ab ?_
   rintro e r ⟨he,hr,WL⟩;refine ae (λh6=>?_) (λh6=>?_)
   ·have h6:(e:Int)<(E.length:Int):=h6
    have Ff:e<E.length:=aa;have hft:=hT.ya _ (al (d:=[]) Ff);have Hp:(E.getD e []).length=n:=hft.len;have K3:=hft.oz _ (al (d:=0) (l:=E.getD e []) (i:=0) aa);have hx:=K3.1;have hy:(E.getD e []).getD 0 0<(F.length:Int):=by have:=K3.2;omega
    refine aj ?_;refine Or.inl ?_;refine af (ai 9++[true]) (ae (by decide+kernel) ?_);refine ae (by simp) ?_;refine ae (λ_=>?_) (λh7=>absurd rfl h7);refine cq (Se F (E.getD e []) aa ⟨hx,hy⟩ aa) (ae ab (ae rfl ag)) ?_;refine aj ?_;refine aj ?_;refine aj ?_;refine nx (e+1,r.set e (F.getD ((E.getD e []).getD 0 0).toNat false)) ⟨aa,by rw [ajv];exact hr,λj hj=>?_⟩ (show E.length - (e+1)<E.length - e by omega) ab
    by_cases e1:j=e
    ·rw [e1,aB aa]
    ·rw [getD_set_ne (Ne.symm e1)];exact WL j aa
   ·have h6:(E.length:Int)<=(e:Int):=h6
    refine aj ?_
    have hrE:r=E.map λf=>F.getD (f.getD 0 0).toNat false:=a6 false (by simp;exact hr) λy hy=>by
     rw [WL y aa];simp [List.getD,show y<E.length by omega]
    refine af [10172]<|lp (X:=Unit) (λ_=>[(164,.int .i64 1)]) (λ_=>[(158,.vec 0 (.bC [E.map λf=>F.getD (f.getD 0 0).toNat false]) [])]) (λ_=>True) (λ_=>0) () trivial (by rw [<-hrE];repeat' first|refine ae ?_ ?_|exact ag|(show(_:Int)=(_:Int);omega)|omega|exact rfl|(simp only [RO.len];omega)) ?_
    rintro⟨⟩ _;refine ae (λh7=>absurd (show(1:Int)<1 from h7) aa) (λ_=>?_);refine af (E,R.getD 0 [],W,Pl) ?_;refine ae ⟨P,Ls,R,U,Ws,B,S,hR,rfl,hI,hW,hae▸hPI⟩ ?_
    repeat' first|refine ae ?_ ?_|exact ag|(show(_:Int)=(_:Int);omega)|omega|exact rfl|(simp only [RO.len];omega)
    exact ajs _ eQ
theorem Vz{L:Nat}{F:List Bool}{N:List (List Int)}(h:DV L 0 F N)(hf:F.length<=32):
  JH TY SP Tryz.f25 [.ptr 1000 0,zU L 0 F N] [(1000,.box [.ar,.ar,.int .i64 0])] (.int .i64 0)
   [(1000,.box [.vec 26,.vec 91,.int .i64 F.length]),(26,.deep (.rows .i64 (EL L N)) none),(91,.vec 0 (.ec [(0,F,0)]) [])]:=by
 have rX:=h.l1;have hl6:=h.l6;have O1:=h.nl;refine aj ?_;refine ae (λk=>absurd (show 32<0+(F.length:Int)from k) aa) (λ_=>?_);refine aj ?_;refine aj ?_;refine Or.inr (Or.inl ?_);refine af []<|kF (λ(a:Nat) (_:List (List Int))=>[(34,.int .i64 a)]) (λ_ G=>[(26,.deep (.rows .i64 G) none)]) (λa G=>a<=L/\G.length=L/\(∀b,b<a->G.getD b []=N.map λr=>r.getD b 0)/\∀b,a<=b->G.getD b []=[]) (λa _=>L - a) 0 (List.replicate L []) ⟨ajk _,by simp,λb hb=>absurd hb (aju _),λb _=>by simp only [List.getD,ajH];split<;>rfl⟩ ab ?_
 rintro a G ⟨ha,hG,hGb,hGn⟩;refine ae (λk1=>?_) (λk1=>?_)
 ·have k1:(a:Int)<((List.replicate ((L:Nat):Int).toNat ([]:List Int)).length:Int):=k1
  rw [ajz,ajr]at k1;have B3:a<L:=aa;refine af []<|kF (λ(q:Nat) (_:List (List Int))=>[(38,.int .i64 q)]) (λ_ H=>[(26,.deep (.rows .i64 H) none)]) (λq H=>q<=F.length/\H=G.set a ((N.take q).map λr=>r.getD a 0)) (λq _=>F.length - q) 0 G ⟨ajk _,by rw [List.take_zero];exact(OG (hGn a (ajl _))).symm⟩ ab ?_
  rintro q H ⟨hq,hH⟩;refine ae (λk2=>?_) (λk2=>?_)
  ·have k2:(q:Int)<(F.length:Int):=k2
   have hqF:q<F.length:=aa;have aH:=h.row _ (al (d:=[]) (l:=N) (i:=q) aa);have Qj:(N.getD ((q:Nat):Int).toNat []).length=L:=aH.1;have hqa:=aH.2 _ (al (d:=0) (l:=N.getD q []) (i:=a) (by rw [aH.1];exact B3));have afD:0<=(N.getD ((q:Nat):Int).toNat []).getD ((a:Nat):Int).toNat 0:=hqa.1;have afE:(N.getD ((q:Nat):Int).toNat []).getD ((a:Nat):Int).toNat 0<(F.length:Int):=hqa.2;have hHl:H.length=L:=by rw [hH,ajv];exact hG
   have hHa:H.getD a []=(N.take q).map λr=>r.getD a 0:=by rw [hH];exact jk aa
   have Ze:∀v:Int,((H.getD ((a:Nat):Int).toNat []++[v]).length:Int)<=17592186044416:=λv=>by
    rw [ajr,ajp,ajx,hHa,ajS,ajA];omega
   refine Or.inr (af (.fst 0 (.fst 1 (.fst 2 (.fst 4 (.fst 5 (.fst 6 (.fst 7 (.fst 9 (.fst 12 (.fst 13 (.fst 14 (.fst 16 (.fst 18 (.fst 21 (.Y2 [(2454263,[(3,1),(8,2),(15,3),(17,4)]),(2454271,[(8,5),(15,6),(17,7)]),(2454519,[(3,5),(10,8),(15,9),(17,10)]),(2487031,[(3,6),(8,9),(17,11)]),(2585335,[(3,7),(8,10),(15,11),(19,12)]),(2454527,[(10,13),(15,14),(17,15)]),(2487039,[(8,14),(17,16)]),(2585343,[(8,15),(15,16),(19,17)]),(2455543,[(3,13),(11,18),(15,19),(17,20)]),(2487287,[(3,14),(10,19),(17,21)]),(2585591,[(3,15),(10,20),(15,21),(19,22)]),(2618103,[(3,16),(8,21),(19,23)]),(3109623,[(3,17),(8,22),(15,23),(20,24)]),(2455551,[(11,25),(15,26),(17,27)]),(2487295,[(10,26),(17,28)]),(2585599,[(10,27),(15,28),(19,29)]),(2618111,[(8,28),(19,30)]),(3109631,[(8,29),(15,30),(20,31)]),(2457591,[(3,25),(15,32),(17,33)]),(2488311,[(3,26),(11,32),(17,34)]),(2586615,[(3,27),(11,33),(15,34),(19,35)]),(2618359,[(3,28),(10,34),(19,36)]),(3109879,[(3,29),(10,35),(15,36),(20,37)]),(3142391,[(3,30),(8,36),(20,38)]),(4158199,[(3,31),(8,37),(15,38),(22,39)]),(2457599,[(15,40),(17,41)]),(2488319,[(11,40),(17,42)]),(2586623,[(11,41),(15,42),(19,43)]),(2618367,[(10,42),(19,44)]),(3109887,[(10,43),(15,44),(20,45)]),(3142399,[(8,44),(20,46)]),(4158207,[(8,45),(15,46),(22,47)]),(2490359,[(3,40),(17,48)]),(2588663,[(3,41),(15,48),(19,49)]),(2619383,[(3,42),(11,48),(19,50)]),(3110903,[(3,43),(11,49),(15,50),(20,51)]),(3142647,[(3,44),(10,50),(20,52)]),(4158455,[(3,45),(10,51),(15,52),(22,53)]),(4190967,[(3,46),(8,52),(22,54)]),(8352503,[(3,47),(8,53),(15,54),(23,55)]),(2490367,[(17,56)]),(2588671,[(15,56),(19,57)]),(2619391,[(11,56),(19,58)]),(3110911,[(11,57),(15,58),(20,59)]),(3142655,[(10,58),(20,60)]),(4158463,[(10,59),(15,60),(22,61)]),(4190975,[(8,60),(22,62)]),(8352511,[(8,61),(15,62),(23,63)]),(2621431,[(3,56),(19,64)]),(3112951,[(3,57),(15,64),(20,65)]),(3143671,[(3,58),(11,64),(20,66)]),(4159479,[(3,59),(11,65),(15,66),(22,67)]),(4191223,[(3,60),(10,66),(22,68)]),(8352759,[(3,61),(10,67),(15,68),(23,69)]),(8385271,[(3,62),(8,68),(23,70)]),(16741111,[(3,63),(8,69),(15,70)]),(2621439,[(19,71)]),(3112959,[(15,71),(20,72)]),(3143679,[(11,71),(20,73)]),(4159487,[(11,72),(15,73),(22,74)]),(4191231,[(10,73),(22,75)]),(8352767,[(10,74),(15,75),(23,76)]),(8385279,[(8,75),(23,77)]),(16741119,[(8,76),(15,77)]),(3145719,[(3,71),(20,78)]),(4161527,[(3,72),(15,78),(22,79)]),(4192247,[(3,73),(11,78),(22,80)]),(8353783,[(3,74),(11,79),(15,80),(23,81)]),(8385527,[(3,75),(10,80),(23,82)]),(16741367,[(3,76),(10,81),(15,82)]),(16773879,[(3,77),(8,82),(24,83)]),(3145727,[(20,84)]),(4161535,[(15,84),(22,85)]),(4192255,[(11,84),(22,86)]),(8353791,[(11,85),(15,86),(23,87)]),(8385535,[(10,86),(23,88)]),(16741375,[(10,87),(15,88)]),(16773887,[(8,88),(24,89)]),(4194295,[(3,84),(22,90)]),(8355831,[(3,85),(15,90),(23,91)]),(8386551,[(3,86),(11,90),(23,92)]),(16742391,[(3,87),(11,91),(15,92)]),(16774135,[(3,88),(10,92),(24,93)]),(33551095,[(3,89),(8,93),(25,94)]),(4194303,[(22,95)]),(8355839,[(15,95),(23,96)]),(8386559,[(11,95),(23,97)]),(16742399,[(11,96),(15,97)]),(16774143,[(10,97),(24,98)]),(33551103,[(8,98),(25,99)]),(8388599,[(3,95),(23,100)]),(16744439,[(3,96),(15,100)]),(16775159,[(3,97),(11,100),(24,101)]),(33551351,[(3,98),(10,101),(25,102)]),(67105527,[(3,99),(8,102)]),(8388607,[(23,103)]),(16744447,[(15,103)]),(16775167,[(11,103),(24,104)]),(33551359,[(10,104),(25,105)]),(67105535,[(8,105)]),(16777207,[(3,103),(24,106)]),(33552375,[(3,104),(11,106),(25,107)]),(67105783,[(3,105),(10,107)]),(16777215,[(24,108)]),(33552383,[(11,108),(25,109)]),(67105791,[(10,109)]),(33554423,[(3,108),(25,110)]),(67106807,[(3,109),(11,111)]),(33554431,[(25,112)]),(67106815,[(11,113)]),(67108855,[(3,112),(26,114)]),(67108855,[(3,113),(26,114)]),(67108863,[(26,115)]),(67108863,[(26,115)]),(134217719,[(3,115)]),(134217727,[(27,116)]),(268435455,[(28,117)]),(536870911,[])]))))))))))))))) (ae (by decide+kernel) ?_));apply pn
   ·intro K hK
    repeat' first
     |exact rfl
     |exact hK
     |refine ae ?_ ?_
     |exact ag
     |omega
     |exact Ze _
     |refine' af [(_,_),(_,_),(_,_),(_,_),(_,_),(_,_),(_,_),(_,_),(_,_),(_,_),(_,_),(_,_),(_,_),(_,_),(_,_),(_,_),(_,_),(_,_),(_,_),(_,_),(_,_),(_,_),(_,_),(_,_),(_,_),(_,_),(_,_),(_,_),(_,_),(_,_),(_,_),(_,_),(_,_),(_,_),(_,_),(_,_),(_,_),(_,_),(_,_),(_,_),(_,_),(_,_),(_,_),(_,_),(_,_),(_,_),(_,_),(_,_),(_,_),(_,_),(_,_),(_,_),(_,_),(_,_),(_,_),(_,_),(_,_),(_,_),(_,_),(_,_),(_,_),(_,_),(_,_),(_,_),(_,_),(_,_),(_,_),(_,_),(_,_),(_,_),(_,_),(_,_),(_,_),(_,_),(_,_),(_,_),(_,_),(_,_),(_,_),(_,_),(_,_),(_,_),(_,_),(_,_),(_,_),(_,_),(_,_),(_,_),(_,_),(_,_),(_,_),(_,_),(_,_),(_,_),(_,_),(_,_),(_,_),(_,_),(_,_),(_,_),(_,_),(_,_),(_,_),(_,_),(_,_),(_,_),(_,_),(_,_),(_,_),(_,_),(_,_),(_,_),(_,_),(_,_),(_,_),(_,_),(_,_),(_,_)] ?_
   ·refine aj ?_
    refine nx (q+1,H.set a (H.getD a []++[0+(N.getD q []).getD a 0])) ⟨aa,?_⟩ (show F.length - (q+1)<F.length - q by omega) ab;rw [hHa,hH,List.set_set,Int.zero_add];refine ajs _ ?_;rw [List.take_succ_eq_append_getElem (show q<N.length by omega),List.map_append,List.map_singleton];simp [List.getD,show q<N.length by omega]
  ·have k2:(F.length:Int)<=(q:Int):=k2
   have hqe:N.take q=N:=aj4 aa;rw [hqe]at hH;refine aj ?_;refine nx (a+1,H) ⟨aa,by rw [hH,ajv];exact hG,λb hb=>?_,λb hb=>?_⟩ (show L - (a+1)<L - a by omega) ab
   ·rw [hH]
    by_cases e:b=a
    ·rw [e];exact jk aa
    ·rw [ff e];exact hGb b aa
   ·rw [hH,ff aa];exact hGn b aa
 ·have k1:((List.replicate ((L:Nat):Int).toNat ([]:List Int)).length:Int)<=(a:Int):=k1
  rw [ajz,ajr]at k1;have hae:a=L:=aa
  have eG:G=EL L N:=a6 [] (by rw [hG];simp [EL]) λb hb=>by
   rw [hGb b aa];simp [EL,List.getD,show b<L by omega]
  refine Or.inl ?_;refine af (ai 20++[true,false,false,true]) (ae (by decide+kernel) ?_);refine aj ?_;refine ae (by simp) ?_;refine aj ?_
  repeat' first|refine ae ?_ ?_|exact ag|(show(_:Int)=(_:Int);omega)|omega|exact rfl|(simp only [RO.len];omega)
  all_goals first|exact ajs _ eG|simp
set_option maxHeartbeats 4000000
theorem getD_take{α:Type}{l:List α}{d:α}{i k:Nat}(h:i<k):(l.take k).getD i d=l.getD i d:=by
 simp [List.getD,h]
theorem RK{L s:Nat}{F:List Bool}{N:List (List Int)}(h:DV L s F N):
  NF 126 [.int .i64 L,.int .i64 s,.fn 127 [.ptr 1000 0],.fn 128 [.ptr 1000 0]] (Wz L s F N)
   (zA λl R=>.cL [zU L 0 (l.map λq=>F.getD q.toNat false) R,.ro (.ints .i64 l),.int .i64 0]) (λ_=>Wz L s F N) (zA λl R=>zQ N L s l.length l R):=XL Tryz.func126 (by decide+kernel) rfl (ah rfl) λ_=>by
 have h5:=h.pZ;have hl6:=h.l6;have O1:=h.nl;refine Or.inr (Or.inl (cm [] [(1000,11),(24,601),(45,602)] (Q9 s) ?_));refine ae ab ?_
 refine af []<|BU (λ(i:Nat) (_:List Int) (_:List (List Int))=>[(13,.int .i64 i)])
  (λi l R=>[(11,.box [.vec 602,.ptr 601 0]),(601,.map (.int .i64) (some .i64) (c7 (sg l))),(602,.vec 0 (.ints .i64 l) []),(12,.box [.int .i64 L,.int .i64 0,.vec 66,.vec 58]),(58,.vec 0 (.rows .i64 R) []),(66,.vec 0 (.aI ((l.take i).map λq=>F.getD q.toNat false)) [])])
  (λi l R=>i<=l.length/\zQ N L s i l R) (λi _ _=>F.length - i) 0 [(s:Int)] [] ⟨ajk _,λj hj=>absurd hj (aju _),rfl⟩ ab ?_
 rintro i l R ⟨hi,hR⟩;have hV:=hR.ok h;have Jb:=hV.pZ;have mV:=hV.rl;refine ae (λh1=>?_) (λh1=>?_)
 ·have h1:(i:Int)<(l.length:Int):=h1
  have bD:i<l.length:=aa;have hq:=hV.oz _ (al (d:=0) bD);obtain⟨a,ha⟩:=Int.eq_ofNat_of_zero_le hq.1;have B3:a<F.length:=aa;have aH:=h.row _ (al (d:=[]) (l:=N) (i:=a) aa);have Qj:(N.getD a []).length=L:=aH.1;have zI:(l.getD i 0).toNat=a:=aa;refine aj ?_;refine aj ?_;refine aj ?_
  refine af [23,29,31]<|BU (λ(x:Nat) (_ _:List Int)=>[(37,.int .i64 x)])
   (λ_ m Q=>[(34,.vec 0 (.ints .i64 Q) []),(601,.map (.int .i64) (some .i64) (c7 (sg m))),(602,.vec 0 (.ints .i64 m) [])])
   (λx m Q=>x<=L/\eW (N.getD a []) L l x=(m,Q)) (λx _ _=>L - x) 0 l (List.replicate L 0) ⟨ajk _,rfl⟩ ab ?_
  rintro x m Q ⟨hx,he⟩;obtain⟨XM,zP⟩:=pW aH hV x hx;rw [he]at XM zP;have hmf:m.length<=F.length:=XM.pZ;have ux:Q.length=L:=zP.ql;refine ae (λh2=>?_) (λh2=>?_)
  ·have h2:(x:Int)<(L:Int):=by
    have h2:(x:Int)<((List.replicate ((L:Nat):Int).toNat (0:Int)).length:Int):=h2;rw [ajz,ajr]at h2;exact h2
   have hxr:x<(N.getD a []).length:=aa;have XB:=aH.2 _ (al (d:=0) hxr);refine Or.inr (cm [] [(1000,1000)] (Ra L s F N a x aa hxr) ?_);refine ae (by repeat' first|refine ae ?_ ?_|exact ag|exact ha|(show(_:Int)=(_:Int);omega)|omega|exact rfl) ?_;refine Or.inr (Or.inl (cm [] [(1000,11),(1001,601),(501,602)] (U7 m ((N.getD a []).getD x 0) aa) ?_));refine ae ab ?_;refine aj ?_;refine aj ?_;refine aj ?_;refine nx (x+1,uv m ((N.getD a []).getD x 0),Q.set x (yt m ((N.getD a []).getD x 0))) ⟨aa,?_⟩ (show L - (x+1)<L - x by omega) ab;show(uv (eW (N.getD a []) L l x).1 ((N.getD a []).getD x 0),(eW (N.getD a []) L l x).2.set x (yt (eW (N.getD a []) L l x).1 ((N.getD a []).getD x 0)))=_;rw [he]
  ·have h2:(L:Int)<=(x:Int):=by
    have h2:((List.replicate ((L:Nat):Int).toNat (0:Int)).length:Int)<=(x:Int):=h2;rw [ajz,ajr]at h2;exact h2
   have hxL:L=x:=aa;subst hxL;have qH:=hR.next bD;rw [zI,he]at qH;refine ae (λh3=>absurd (show 512<(m.length:Int)from h3) aa) (λ_=>?_);refine ae (by rw [ajp,ajx];omega) ?_
   have uM:(l.take (i+1)).map (λq=>F.getD q.toNat false)=(l.take i).map (λq=>F.getD q.toNat false)++[F.getD a false]:=by
    rw [List.take_add_one,ajP bD,List.map_append];have e:l[i]=(a:Int):=by rw [<-getD_eq (d:=0) bD];exact ha
    simp [e]
   have htl:((l.take i).map λq=>F.getD q.toNat false).length=i:=by rw [ajS,ajA];omega
   refine Or.inr (af (.fst 0 (.fst 2 (.fst 3 (.br 1 (.br 4 (.br 5 (.br 6 (.fst 7 (.br 8 .done .no)) .no) .no) .no) (.br 4 (.br 1 (.br 5 (.br 6 (.fst 7 (.br 8 .done .no)) .no) .no) (.br 5 (.br 1 (.br 6 (.fst 7 (.br 8 .done .no)) .no) .no) .no)) .no))))) (ae (by decide+kernel) ?_));apply pn
   ·intro K1 hK
    repeat' first|exact ag|exact hK|(refine Or.inr (cm [] [(1000,1000)] (Rb L s F N a B3) ?_);refine ae (by repeat' first|refine ae ?_ ?_|exact ag|exact ha|(show(_:Int)=(_:Int);omega)|omega|exact rfl) ?_)|refine ae (by rw [ajp,ajx];omega) ?_|refine ae ?_ ?_
   ·refine aj ?_
    have hmt:(m.take (i+1)).map (λq=>F.getD q.toNat false)=(l.take i).map (λq=>F.getD q.toNat false)++[F.getD a false]:=by
     rw [<-uM];have hle:=zP.le
     have e:m.take (i+1)=l.take (i+1):=by
      have hle:l.length<=m.length:=hle;refine a6 0 (by rw [ajA,ajA];omega) λj hj=>?_;rw [ajA]at hj;rw [getD_take aa,getD_take aa];exact zP.eI j aa
     rw [e]
    refine nx (i+1,m,R++[Q]) ⟨by have:l.length<=m.length:=zP.le;omega,qH⟩ (show F.length - (i+1)<F.length - i by omega) (by repeat' first|refine ae ?_ ?_|exact ag|exact ajs RO.aI hmt.symm|(show(_:Int)=(_:Int);omega)|omega|exact rfl)
 ·have h1:(l.length:Int)<=(i:Int):=h1
  have bD:i=l.length:=aa;subst bD;refine Or.inr (af (.fst 1 (.br 0 (.br 2 (.br 3 (.fst 4 (.fst 5 .done)) .no) (.br 3 (.br 2 (.fst 4 (.fst 5 .done)) .no) .no)) (.br 2 (.br 0 (.br 3 (.fst 4 (.fst 5 .done)) .no) .no) .no))) (ae (by decide+kernel) ?_));apply pn
  ·intro K1 hK
   repeat' first|exact ag|exact hK|refine ae ?_ ?_
  ·refine af (l,R) (ae hR ?_)
   have etk:(l.take l.length).map (λq=>F.getD q.toNat false)=l.map λq=>F.getD q.toNat false:=by rw [List.take_length]
   repeat' first|refine ae ?_ ?_|exact ag|exact ajs RO.aI etk|(show(_:Int)=(_:Int);omega)|omega|exact rfl
end Go.Proofs.YtgailjhnfghkgaaGreatDoor
end
