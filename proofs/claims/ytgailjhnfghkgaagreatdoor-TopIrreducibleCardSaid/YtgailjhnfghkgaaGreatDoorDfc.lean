import Derived.Test.YtgailjhnfghkgaaGreatDoorEnT
import Derived.Test.YtgailjhnfghkgaaGreatDoorOrd
import Derived.Test.YtgailjhnfghkgaaGreatDoorDfa
import Derived.Test.YtgailjhnfghkgaaGreatDoorSyLaw
section
namespace Go.Proofs.YtgailjhnfghkgaaGreatDoor
open Go Go.AM
structure Nv(n:Nat)(E:List (List Int)):Prop where
 n1:1<=n
 n3:n<=3
 xA:∀f∈E,lu n f
 nd:E.Nodup
 one:E.getD 0 []=cV n
 pos:0<E.length
 cl:∀f∈E,∀g∈E,bF f g∈E
theorem zh.tme{n:Nat}{G E:List (List Int)}{P L:List Int}{W:List (List Int)}{B:List Int}{R:List (List Int)}{U:List (List Int × List Int)}{S:List Int}(hG:∀f∈G,lu n f)(h1:1<=n)(h3:n<=3)(h:zh n G E.length E P L W B R U S):Nv n E:=
 ⟨h1,h3,(h.ok hG).xA,(h.ok hG).nd,(h.ok hG).one,(h.ok hG).pos,(h.ok hG).closed rfl⟩
section
variable{n:Nat}{E:List (List Int)}
theorem Nv.tJ(h:Nv n E):E.length<=27:=qp h.n3 h.nd h.xA
theorem Nv.at(h:Nv n E){x:Nat}(hx:x<E.length):lu n (E.getD x []):=h.xA _ (an hx)
theorem Nv.pr(h:Nv n E){x y:Nat}(hx:x<E.length)(hy:y<E.length):en (dZ E) x y<E.length/\E.getD (en (dZ E) x y) []=bF (E.getD x []) (E.getD y []):=by
 have e:en (dZ E) x y=ff E (bF (E.getD x []) (E.getD y [])):=by
  unfold en;rw [LJ hx hy];exact Int.toNat_natCast _
 rw [e];exact eR (h.cl _ (an hx) _ (an hy))
theorem Nv.inj(h:Nv n E){x y:Nat}(hx:x<E.length)(hy:y<E.length)(e:E.getD x []=E.getD y []):x=y:=GC h.nd hx hy e
theorem Nv.kP(h:Nv n E):Semi (dZ E):=by
 refine⟨⟨by rw [jc];exact h.pos,by rw [jc];have:=h.tJ;omega,λ r hr=>?_⟩,λ g hg x y hx hy=>?_⟩
 ·obtain⟨i,hi,rfl⟩:=aV [] hr
  rw [jc]at hi ⊢;rw [vL hi];refine⟨by simp,λ x hx=>?_⟩;obtain⟨k,hk,rfl⟩:=List.mem_map.1 hx;have:=(eR (h.cl _ (an (d:=[]) hi) _ hk)).1;omega
 ·rw [jc]at hg hx hy
  have a1:=h.pr hx hg;have a2:=h.pr hg hy;have a3:=h.pr a1.1 hy;have a4:=h.pr hx a2.1;exact h.inj a3.1 a4.1 (by rw [a3.2,a1.2,a4.2,a2.2,rT (h.at hx) (h.at hg)])
end
end Go.Proofs.YtgailjhnfghkgaaGreatDoor
end
section
namespace Go.Proofs.YtgailjhnfghkgaaGreatDoor
open Go Go.AM
set_option maxRecDepth 100000
set_option maxHeartbeats 8000000
theorem Nw(l:List Int)(x:Int)(hl:l.length<=4096):QF 103 [.ro (.ints .i64 l),.int .i64 x] (.int .i64 (if x∈l then (tI l x:Int) else -1)):=kr Tryz.func103 (by decide+kernel) rfl (ah rfl) λ _=>by
 refine af []<|lp (X:=Nat) (λ k=>[(8,.int .i64 k)]) (λ _=>[]) (λ k=>k<=l.length/\∀j,j<k->l.getD j 0≠x) (λ k=>l.length - k) 0 ⟨Nat.zero_le _,λ j hj=>absurd hj (Nat.not_lt_zero _)⟩ ab ?_
 rintro k ⟨hk,XI⟩;refine ae (λ h1=>?_) (λ h1=>?_)
 ·have h1:(k:Int)<(l.length:Int):=h1
  have lr:k<l.length:=aa;refine ae aa ?_;refine ae (λ h2=>?_) (λ h2=>?_)
  ·have h2:x=l.getD k 0:=h2
   have hm:x∈l:=h2▸an lr;have e1:=nw hm;have e2:=yZ lr h2.symm
   have e3:tI l x=k:=by
    refine Classical.byContradiction λ bm=>XI (tI l x) aa e1.2
   refine ae ?_ trivial;show(k:Int)=_;rw [if_pos hm,e3]
  ·have h2:x≠l.getD k 0:=h2
   refine ae aa ?_;refine nx (k+1) ⟨aa,λ j hj=>?_⟩ (show l.length - (k+1)<l.length - k by omega) ab
   by_cases e:j=k
   ·rw [e];exact Ne.symm h2
   ·exact XI j aa
 ·have h1:(l.length:Int)<=(k:Int):=h1
  refine ae ?_ trivial;show(-1:Int)=_;rw [if_neg λ hm=>by obtain⟨j,hj,e⟩:=aV 0 hm;exact XI j aa e]
theorem Ju(l:List Int)(x:Int)(hl:l.length<=4096):QF 60 [.ro (.ints .i64 l),.int .i64 x] (.bool (.v (decide (x∈l)))):=kr Tryz.func60 (by decide+kernel) rfl (ah rfl) λ _=>by
 refine Or.inl (cq (Nw l x hl) (ae rfl (ae rfl ag)) ?_);refine ae ?_ trivial;show decide (0<=if x∈l then (tI l x:Int) else -1)=decide (x∈l)
 by_cases h:x∈l
 ·rw [if_pos h,decide_eq_true h,decide_eq_true aa]
 ·rw [if_neg h,decide_eq_false h,decide_eq_false aa]
theorem QD(F:List Bool)(f:List Int)(hf:1<=f.length/\f.length<=4096)(h0:0<=f.getD 0 0/\f.getD 0 0<(F.length:Int))(hF:F.length<=4096):QF 61 [.agg [.int .i64 0,.ro (.aL F),.int .i64 0],.ro (.ints .i64 f)] (.bool (.v (F.getD (f.getD 0 0).toNat false))):=kr Tryz.func61 (by decide+kernel) rfl (ah rfl) λ _=>by
 refine Or.inl ?_;refine af [false,false,false,false,false,false,false,false,false,false,false,false,false] (ae (by decide+kernel) ?_);have e0:f.getD (Int.toNat 0) 0 - 0=f.getD 0 0:=Int.sub_zero _;refine ae aa ?_;refine ae aa ?_;refine ae aa ?_;refine ae ?_ trivial;show F.getD (f.getD (Int.toNat 0) 0 - 0).toNat false=_;rw [e0];rfl
structure Xj(P Ls:List Int)(W:List (List Int))(i:Nat):Prop where
 w0:W.getD 0 []=[]
 ws:∀j,0<j->j<i->W.getD j []=W.getD (P.getD j 0).toNat []++[97+Ls.getD j 0]
 wl:∀j,j<i->(W.getD j []).length<=j
def plB(R:List (List Int)):Nat->Bool
 |0=>false|a+1=>plB R a||decide (0∈R.getD a [])
structure R7(R:List (List Int))(Pl:List Bool)(n a:Nat):Prop where
 len:Pl.length=n
 p0:Pl.getD 0 false=plB R a
 ps:∀j,0<j->j<n->Pl.getD j false=true
theorem R7.next{R:List (List Int)}{Pl:List Bool}{n a:Nat}(h:R7 R Pl n a)(hn:0<n){b:Bool}(hb:b=(Pl.getD 0 false||decide (0∈R.getD a []))):R7 R (Pl.set 0 b) n (a+1):=by
 have hl:=h.len;refine⟨by rw [List.length_set,hl],?_,λ j h0 hj=>?_⟩
 ·rw [aA aa,hb,h.p0];rfl
 ·rw [getD_set_ne aa];exact h.ps j h0 hj
theorem R8{L n:Nat}{G:List (List Int)}{F:List Bool}(hn:n=F.length)(hG:∀f∈G,lu n f)(h1:1<=n)(h3:n<=3)(hL:G.length=L)(UD:0<L)(QU:L<=6):
  Pe TY SP Tryz.f26 [.ptr 1000 0] [(1000,.box [.ro (.rows .i64 G),.ro (.dP [(0,F,0)]),.int .i64 n])] (List (List Int) × List Int × List (List Int) × List Bool)
   (Ba λ E I W Pl=>.cC [.agg [.int .i64 L,.ro (.rows .i64 (dZ E)),.ro (.strs W),.ro (.ints .i64 I),.ao,.ro (.aL Pl)],.ro (.bw [E.map λ f=>F.getD (f.getD 0 0).toNat false]),.int .i64 0])
   (λ _=>[(1000,.box [.ro (.rows .i64 G),.ro (.dP [(0,F,0)]),.int .i64 n])])
   (Ba λ E I W Pl=>∃P Ls R U Ws B S,zh n G E.length E P Ls Ws B R U S/\I=R.getD 0 []/\Xj P Ls W E.length/\W.length=E.length/\R7 R Pl E.length E.length):=by
 refine Or.inr (Or.inr (ce (PO n G hG h1 h3 aa aa) (ae rfl (ae rfl ag)) ?_));refine VK λ E P Ls R U D=>?_;intro hz;have hDE:D=E.length:=hz.1;obtain⟨Ws,B,S,hR⟩:=hz.2;rw [hDE]at hR;have hV:=hR.ok hG;have hT:=hR.tme hG h1 h3;have HH:=hT.tJ;have gV:=hT.pos;refine ae (λ k=>absurd rfl k) (λ _=>?_);refine ae (λ k=>absurd (show 400<(E.length:Int)from k) aa) (λ _=>?_);have pA:R.length=E.length:=hV.rl;have gb:P.length=E.length:=hV.pl;have ot:Ls.length=E.length:=hV.ll;have sA:=(hV.row 0 gV).1;refine Or.inl ?_;refine af [false,false,false,false,false,false,false,false,false,false,false,false,false,false,false,false,false,false,true] (ae (by decide+kernel) ?_);refine ae aa ?_;refine ae aa ?_;refine Or.inl ?_;refine ae aa ?_;refine ae aa ?_;refine ae (show(0:Int)<=0/\(0:Int)<(R.length:Int) by omega) ?_;refine cq (kR (R.getD 0 []) (by have:(R.getD 0 []).length=G.length:=sA;omega)) (ae rfl ag) ?_;refine ae aa ?_;refine ae aa ?_
 refine af []<|A9 (λ(i:Nat) (_:List (List Int)) (_:List Bool)=>[(9,.int .i64 i)]) (λ _ W Pl=>[(44,.vec 0 (.strs W) []),(51,.vec 0 (.aL Pl) [])])
  (λ i W Pl=>(1<=i/\i<=E.length)/\(W.length=E.length/\Pl.length=E.length/\Pl.getD 0 false=false/\∀j,0<j->j<i->Pl.getD j false=true)/\Xj P Ls W i) (λ i _ _=>E.length - i) 1 (List.replicate E.length []) (List.replicate E.length false)
  ⟨⟨Nat.le_refl _,aa⟩,⟨by simp,by simp,by simp only [List.getD,List.getElem?_replicate];split<;>rfl,λ j h0 h1=>by omega⟩,⟨by simp only [List.getD,List.getElem?_replicate];split<;>rfl,λ j h0 h1=>by omega,λ j hj=>by simp only [List.getD,List.getElem?_replicate];split<;>simp⟩⟩ ab ?_
 rintro i W Pl ⟨hi,⟨hW,X9,Z2,XH⟩,hI⟩;refine ae (λ k1=>?_) (λ k1=>?_)
 ·have k1:(i:Int)<(E.length:Int):=k1
  have bL:i<E.length:=aa;obtain⟨hp,hl,_,_⟩:=hV.pre i aa bL;have hp0:0<=P.getD i 0:=hp.1;have gR:P.getD i 0<(i:Int):=hp.2;have Gb:0<=Ls.getD i 0:=hl.1;have xb:Ls.getD i 0<(G.length:Int):=hl.2;have Ti:=hI.wl (P.getD i 0).toNat aa;refine Or.inl ?_;refine af [false,false,false,false,false,false,false,false,false,false,false,false,false,false,false,false,false,false,false,false,false,false,false,true] (ae (by decide+kernel) ?_);have hu8:(0:Int)<=97+Ls.getD i 0/\97+Ls.getD i 0<=255:=aa;refine ae aa ?_;refine ae (by simp only [Int.toNat_natCast];omega) ?_;refine ae aa ?_;refine ae (by simp only [Int.toNat_natCast];omega) ?_;refine ae (show IntKind.u8.min<=97+Ls.getD i 0/\97+Ls.getD i 0<=IntKind.u8.max from hu8) ?_;refine ae (show(W.getD (P.getD i 0).toNat []).length+[97+Ls.getD i 0].length<=17592186044416 by rw [List.length_singleton];omega) ?_;refine ae aa ?_;refine ae aa ?_;refine ae aa ?_;refine ae aa ?_;refine ae aa ?_
  refine nx (i+1,W.set i (W.getD (P.getD i 0).toNat []++[97+Ls.getD i 0]),Pl.set i true) ⟨⟨aa,aa⟩,⟨by rw [List.length_set];exact hW,by rw [List.length_set];exact X9,by rw [getD_set_ne aa];exact Z2,λ j h0 hj=>by
   by_cases e:j=i
   ·rw [e,aA aa]
   ·rw [getD_set_ne (Ne.symm e)];exact XH j h0 aa⟩,⟨?_,λ j h0 hj=>?_,λ j hj=>?_⟩⟩ (show E.length - (i+1)<E.length - i by omega) ab
  ·rw [fW aa];exact hI.w0
  ·by_cases e:j=i
   ·rw [e,lh aa,fW aa]
   ·have UB:P.getD j 0<(j:Int):=(hV.pre j h0 (show j<E.length by omega)).1.2
    rw [fW e,fW aa];exact hI.ws j h0 aa
  ·by_cases e:j=i
   ·rw [e,lh aa,List.length_append,List.length_singleton];omega
   ·rw [fW e];exact hI.wl j aa
 ·have k1:(E.length:Int)<=(i:Int):=k1
  have hie:i=E.length:=aa;rw [hie]at hI;have c8:=jc E
  refine af []<|A9 (λ(a:Nat) (_:List (List Int)) (_:List Bool)=>[(88,.int .i64 a)]) (λ _ Q Pl=>[(51,.vec 0 (.aL Pl) []),(42,.vec 0 (.rows .i64 Q) [])])
   (λ a Q Pl=>a<=E.length/\(Q.length=E.length/\R7 R Pl E.length a)/\∀j,j<a->Q.getD j []=(dZ E).getD j []) (λ a _ _=>E.length - a) 0 (List.replicate E.length []) Pl ⟨Nat.zero_le _,⟨by simp,⟨X9,Z2,λ j h0 hj=>XH j h0 aa⟩⟩,λ j hj=>absurd hj (Nat.not_lt_zero _)⟩ ab ?_
  rintro a Q Pl ⟨ha,⟨hQ,Z3⟩,hQj⟩;have X9:=Z3.len;refine ae (λ k2=>?_) (λ k2=>?_)
  ·have k2:(a:Int)<(R.length:Int):=k2
   have Bh:a<E.length:=aa;have XO:(R.getD a []).length=G.length:=(hV.row a (by show a<E.length;exact Bh)).1;refine ae aa ?_;refine Or.inl ?_;refine af [false,false,false,false,false,false,false,false,false,false,false,true] (ae (by decide+kernel) ?_);refine ae aa ?_;have hlp:∀b:Bool,b=b:=λ _=>rfl;refine ae (λ k3=>?_) (λ k3=>?_);obtain⟨b,hb⟩:∃b:Bool,b=true:=⟨_,rfl⟩;have Ii:b=(Pl.getD 0 false||decide (0∈R.getD a [])):=by rw [hb,show Pl.getD 0 false=true from k3,Bool.true_or]
   rotate_left
   obtain⟨b,hb⟩:∃b:Bool,b=decide (0∈R.getD a []):=⟨_,rfl⟩;have Ii:b=(Pl.getD 0 false||decide (0∈R.getD a [])):=by rw [hb,show Pl.getD 0 false=false from k3,Bool.false_or]
   refine cq (Ju (R.getD a []) 0 aa) (ae rfl (ae rfl ag)) ?_
   all_goals
    refine ae aa ?_;refine ae aa ?_;refine Or.inl ?_;refine af [false,false,false,false,false,false,true] (ae (by decide+kernel) ?_);refine ae aa ?_;refine ae aa ?_;refine ae aa ?_;refine ae aa ?_;refine ae aa ?_;refine ae (λ _=>?_) (λ h7=>absurd rfl h7);refine ae (show(0:Int)<=0/\(0:Int)<((List.replicate ((E.length:Nat):Int).toNat (0:Int)).length:Int) by rw [List.length_replicate,Int.toNat_natCast];omega) ?_;refine ae aa ?_;refine af []<|lA (λ(j:Nat) (_:List Int)=>[(12,.int .i64 j)]) (λ _ r=>[(108,.vec 0 (.ints .i64 r) []),(42,.vec 0 (.rows .i64 Q) [(a,108)])]) (λ j r=>(1<=j/\j<=E.length)/\r.length=E.length/\∀y,y<j->r.getD y 0=dc E a y) (λ j _=>E.length - j) 1 ((List.replicate E.length 0).set 0 (a:Int)) ⟨⟨Nat.le_refl _,aa⟩,by simp,λ y hy=>?_⟩ ab ?_
    ·have e0:E.getD 0 []=cV n:=hV.one
     obtain rfl:y=0:=aa;rw [aA (by simp;omega)];show(a:Int)=(ff E (bF (E.getD a []) (E.getD 0 [])):Int);rw [e0,GB (hV.xA _ (an Bh))];exact congrArg Nat.cast (vF hV.nd Bh).symm
    rintro j r ⟨hj,hr,Vg⟩;refine ae (λ h6=>?_) (λ h6=>?_)
    ·have h6:(j:Int)<(E.length:Int):=h6
     have oy:j<E.length:=aa;obtain⟨hP,YB,_,_⟩:=hV.pre j aa oy;have Z2:0<=P.getD j 0:=hP.1;have hP1:P.getD j 0<(j:Int):=hP.2;have Xo:0<=Ls.getD j 0:=YB.1;have RV:Ls.getD j 0<(G.length:Int):=YB.2;obtain⟨QR,XW⟩:=hV.bA rfl Bh (show 0<j by omega) oy;have QR:ff E (bF (E.getD a []) (E.getD (P.getD j 0).toNat []))<E.length:=QR;have XW:dc E a j=(R.getD (ff E (bF (E.getD a []) (E.getD (P.getD j 0).toNat []))) []).getD (Ls.getD j 0).toNat 0:=XW;have hrp:r.getD (P.getD j 0).toNat 0=(ff E (bF (E.getD a []) (E.getD (P.getD j 0).toNat [])):Int):=Vg _ aa;have aI:(R.getD (ff E (bF (E.getD a []) (E.getD (P.getD j 0).toNat []))) []).length=G.length:=(hV.row _ QR).1;have abr:(R.getD (r.getD (P.getD j 0).toNat 0).toNat []).length=G.length:=by rw [hrp,Int.toNat_natCast];exact aI
     have hv:(R.getD (r.getD (P.getD j 0).toNat 0).toNat []).getD (Ls.getD j 0).toNat 0=dc E a j:=by rw [hrp,Int.toNat_natCast,XW]
     refine Or.inl ?_;refine af [false,false,false,false,false,false,false,false,false,false,false,false,false,false,false,false,false,false,false,false,false,false,false,false,false,false,false,false,false,false,true] (ae (by decide+kernel) ?_);refine ae aa ?_;refine ae (λ _=>?_) (λ h7=>absurd rfl h7);refine ae aa ?_;refine ae (λ _=>?_) (λ h7=>absurd rfl h7);refine ae aa ?_;refine ae (show 0<=P.getD j 0/\P.getD j 0<(r.length:Int) by omega) ?_;refine ae (show 0<=r.getD (P.getD j 0).toNat 0/\r.getD (P.getD j 0).toNat 0<(R.length:Int) by omega) ?_;refine ae aa ?_;refine ae (show 0<=Ls.getD j 0/\Ls.getD j 0<((R.getD (r.getD (P.getD j 0).toNat 0).toNat []).length:Int) by omega) ?_;refine ae aa ?_;refine ae aa ?_;refine ae aa ?_;refine nx (j+1,r.set j ((R.getD (r.getD (P.getD j 0).toNat 0).toNat []).getD (Ls.getD j 0).toNat 0)) ⟨⟨aa,aa⟩,by rw [List.length_set];exact hr,λ y hy=>?_⟩ (show E.length - (j+1)<E.length - j by omega) ab
     by_cases e1:y=j
     ·rw [e1,aA aa];exact hv
     ·rw [getD_set_ne (Ne.symm e1)];exact Vg y aa
    ·have h6:(E.length:Int)<=(j:Int):=h6
     have e:r=(dZ E).getD a []:=by
      rw [vL Bh];refine bj 0 (by simp;exact hr) λ y hy=>?_;rw [Vg y aa];simp [dc,List.getD,show y<E.length by omega]
     refine ae aa ?_
     have hnq:∀y,y<a+1->(Q.set a r).getD y []=(dZ E).getD y []:=λ y hy=>by
      by_cases e1:y=a
      ·rw [e1,lh aa,e]
      ·rw [fW e1];exact hQj y aa
     refine nx (a+1,Q.set a r,Pl.set 0 b) ⟨aa,⟨by rw [List.length_set];exact hQ,Z3.next gV Ii⟩,hnq⟩ (show E.length - (a+1)<E.length - a by omega) (by subst hb;repeat' first|refine ae ?_ ?_|exact ag|(show(_:Int)=(_:Int);omega)|omega|exact rfl|(simp only [RO.len];omega))
  ·have k2:(R.length:Int)<=(a:Int):=k2
   have hae:a=E.length:=aa;have eQ:Q=dZ E:=bj [] (by rw [jc];exact hQ) λ y hy=>hQj y aa;have h1l:((([(0,F,0)]:List (Int × List Bool × Int)).length:Nat):Int)=1:=rfl;refine ae aa ?_;refine ae aa ?_;refine Or.inl ?_;refine af [7777] ?_;refine ae (λ _=>?_) (λ h6=>absurd (show(1:Int)<=0 from h6) aa);refine ae aa ?_;refine ae aa ?_;refine ae aa ?_;refine ae (by simp) ?_;refine ae aa ?_;refine af []<|lA (λ(e:Nat) (_:List Bool)=>[(177,.int .i64 e)]) (λ _ r=>[(172,.vec 0 (.aL r) []),(158,.vec 0 (.bw [[]]) [(0,172)])]) (λ e r=>e<=E.length/\r.length=E.length/\∀j,j<e->r.getD j false=F.getD ((E.getD j []).getD 0 0).toNat false) (λ e _=>E.length - e) 0 (List.replicate E.length false) ⟨Nat.zero_le _,by simp,λ j hj=>absurd hj (Nat.not_lt_zero _)⟩ ab ?_
   rintro e r ⟨he,hr,Vg⟩;refine ae (λ h6=>?_) (λ h6=>?_)
   ·have h6:(e:Int)<(E.length:Int):=h6
    have Gc:e<E.length:=aa;have hft:=hT.xA _ (an (d:=[]) Gc);have FP:(E.getD e []).length=n:=hft.len;have JP:=hft.w9 _ (an (d:=0) (l:=E.getD e []) (i:=0) aa);have hx:=JP.1;have hy:(E.getD e []).getD 0 0<(F.length:Int):=by have:=JP.2;omega
    refine ae aa ?_;refine Or.inl ?_;refine af [false,false,false,false,false,false,false,false,false,true] (ae (by decide+kernel) ?_);refine ae (by simp) ?_;refine ae (λ _=>?_) (λ h7=>absurd rfl h7);refine cq (QD F (E.getD e []) aa ⟨hx,hy⟩ aa) (ae ab (ae rfl ag)) ?_;refine ae aa ?_;refine ae aa ?_;refine ae aa ?_;refine nx (e+1,r.set e (F.getD ((E.getD e []).getD 0 0).toNat false)) ⟨aa,by rw [List.length_set];exact hr,λ j hj=>?_⟩ (show E.length - (e+1)<E.length - e by omega) ab
    by_cases e1:j=e
    ·rw [e1,aA aa]
    ·rw [getD_set_ne (Ne.symm e1)];exact Vg j aa
   ·have h6:(E.length:Int)<=(e:Int):=h6
    refine ae aa ?_
    have hrE:r=E.map λ f=>F.getD (f.getD 0 0).toNat false:=bj false (by simp;exact hr) λ y hy=>by
     rw [Vg y aa];simp [List.getD,show y<E.length by omega]
    refine af [10172]<|lp (X:=Unit) (λ _=>[(164,.int .i64 1)]) (λ _=>[(158,.vec 0 (.bw [E.map λ f=>F.getD (f.getD 0 0).toNat false]) [])]) (λ _=>True) (λ _=>0) () trivial (by rw [<-hrE];repeat' first|refine ae ?_ ?_|exact ag|(show(_:Int)=(_:Int);omega)|omega|exact rfl|(simp only [RO.len];omega)) ?_
    rintro⟨⟩ _;refine ae (λ h7=>absurd (show(1:Int)<1 from h7) aa) (λ _=>?_);refine af (E,R.getD 0 [],W,Pl) ?_;refine ae ⟨P,Ls,R,U,Ws,B,S,hR,rfl,hI,hW,hae▸Z3⟩ ?_
    repeat' first|refine ae ?_ ?_|exact ag|(show(_:Int)=(_:Int);omega)|omega|exact rfl|(simp only [RO.len];omega)
    exact congrArg _ eQ
end Go.Proofs.YtgailjhnfghkgaaGreatDoor
end
section
namespace Go.Proofs.YtgailjhnfghkgaaGreatDoor
open Go Go.AM
set_option maxRecDepth 100000
set_option maxHeartbeats 8000000
theorem R6{L:Nat}{F:List Bool}{N:List (List Int)}(h:DV L 0 F N)(hf:F.length<=32):
  Iu TY SP Tryz.f25 [.ptr 1000 0,DO L 0 F N] [(1000,.box [.ao,.ao,.int .i64 0])] (.int .i64 0)
   [(1000,.box [.vec 26,.vec 91,.int .i64 F.length]),(26,.deep (.rows .i64 (NJ L N)) none),(91,.vec 0 (.dP [(0,F,0)]) [])]:=by
 have xb:=h.l1;have hl6:=h.l6;have Ob:=h.nl;refine ae aa ?_;refine ae (λ k=>absurd (show 32<0+(F.length:Int)from k) aa) (λ _=>?_);refine ae aa ?_;refine ae aa ?_;refine Or.inr (Or.inl ?_);refine af []<|lA (λ(a:Nat) (_:List (List Int))=>[(34,.int .i64 a)]) (λ _ G=>[(26,.deep (.rows .i64 G) none)]) (λ a G=>a<=L/\G.length=L/\(∀b,b<a->G.getD b []=N.map λ r=>r.getD b 0)/\∀b,a<=b->G.getD b []=[]) (λ a _=>L - a) 0 (List.replicate L []) ⟨Nat.zero_le _,by simp,λ b hb=>absurd hb (Nat.not_lt_zero _),λ b _=>by simp only [List.getD,List.getElem?_replicate];split<;>rfl⟩ ab ?_
 rintro a G ⟨ha,hG,hGb,hGn⟩;refine ae (λ k1=>?_) (λ k1=>?_)
 ·have k1:(a:Int)<((List.replicate ((L:Nat):Int).toNat ([]:List Int)).length:Int):=k1
  rw [List.length_replicate,Int.toNat_natCast]at k1;have Bh:a<L:=aa;refine af []<|lA (λ(q:Nat) (_:List (List Int))=>[(38,.int .i64 q)]) (λ _ H=>[(26,.deep (.rows .i64 H) none)]) (λ q H=>q<=F.length/\H=G.set a ((N.take q).map λ r=>r.getD a 0)) (λ q _=>F.length - q) 0 G ⟨Nat.zero_le _,by rw [List.take_zero];exact(Ni (hGn a (Nat.le_refl _))).symm⟩ ab ?_
  rintro q H ⟨hq,hH⟩;refine ae (λ k2=>?_) (λ k2=>?_)
  ·have k2:(q:Int)<(F.length:Int):=k2
   have Yd:q<F.length:=aa;have aI:=h.row _ (an (d:=[]) (l:=N) (i:=q) aa);have Og:(N.getD ((q:Nat):Int).toNat []).length=L:=aI.1;have hqa:=aI.2 _ (an (d:=0) (l:=N.getD q []) (i:=a) (by rw [aI.1];exact Bh));have ad3:0<=(N.getD ((q:Nat):Int).toNat []).getD ((a:Nat):Int).toNat 0:=hqa.1;have ad4:(N.getD ((q:Nat):Int).toNat []).getD ((a:Nat):Int).toNat 0<(F.length:Int):=hqa.2;have hHl:H.length=L:=by rw [hH,List.length_set];exact hG
   have hHa:H.getD a []=(N.take q).map λ r=>r.getD a 0:=by rw [hH];exact lh aa
   have X2:∀v:Int,((H.getD ((a:Nat):Int).toNat []++[v]).length:Int)<=17592186044416:=λ v=>by
    rw [Int.toNat_natCast,List.length_append,List.length_singleton,hHa,List.length_map,List.length_take];omega
   refine Or.inr (af (.fst 0 (.fst 1 (.fst 2 (.fst 4 (.fst 5 (.fst 6 (.fst 7 (.fst 9 (.fst 12 (.fst 13 (.fst 14 (.fst 16 (.fst 18 (.fst 21 (.Xy [(2454263,[(3,1),(8,2),(15,3),(17,4)]),(2454271,[(8,5),(15,6),(17,7)]),(2454519,[(3,5),(10,8),(15,9),(17,10)]),(2487031,[(3,6),(8,9),(17,11)]),(2585335,[(3,7),(8,10),(15,11),(19,12)]),(2454527,[(10,13),(15,14),(17,15)]),(2487039,[(8,14),(17,16)]),(2585343,[(8,15),(15,16),(19,17)]),(2455543,[(3,13),(11,18),(15,19),(17,20)]),(2487287,[(3,14),(10,19),(17,21)]),(2585591,[(3,15),(10,20),(15,21),(19,22)]),(2618103,[(3,16),(8,21),(19,23)]),(3109623,[(3,17),(8,22),(15,23),(20,24)]),(2455551,[(11,25),(15,26),(17,27)]),(2487295,[(10,26),(17,28)]),(2585599,[(10,27),(15,28),(19,29)]),(2618111,[(8,28),(19,30)]),(3109631,[(8,29),(15,30),(20,31)]),(2457591,[(3,25),(15,32),(17,33)]),(2488311,[(3,26),(11,32),(17,34)]),(2586615,[(3,27),(11,33),(15,34),(19,35)]),(2618359,[(3,28),(10,34),(19,36)]),(3109879,[(3,29),(10,35),(15,36),(20,37)]),(3142391,[(3,30),(8,36),(20,38)]),(4158199,[(3,31),(8,37),(15,38),(22,39)]),(2457599,[(15,40),(17,41)]),(2488319,[(11,40),(17,42)]),(2586623,[(11,41),(15,42),(19,43)]),(2618367,[(10,42),(19,44)]),(3109887,[(10,43),(15,44),(20,45)]),(3142399,[(8,44),(20,46)]),(4158207,[(8,45),(15,46),(22,47)]),(2490359,[(3,40),(17,48)]),(2588663,[(3,41),(15,48),(19,49)]),(2619383,[(3,42),(11,48),(19,50)]),(3110903,[(3,43),(11,49),(15,50),(20,51)]),(3142647,[(3,44),(10,50),(20,52)]),(4158455,[(3,45),(10,51),(15,52),(22,53)]),(4190967,[(3,46),(8,52),(22,54)]),(8352503,[(3,47),(8,53),(15,54),(23,55)]),(2490367,[(17,56)]),(2588671,[(15,56),(19,57)]),(2619391,[(11,56),(19,58)]),(3110911,[(11,57),(15,58),(20,59)]),(3142655,[(10,58),(20,60)]),(4158463,[(10,59),(15,60),(22,61)]),(4190975,[(8,60),(22,62)]),(8352511,[(8,61),(15,62),(23,63)]),(2621431,[(3,56),(19,64)]),(3112951,[(3,57),(15,64),(20,65)]),(3143671,[(3,58),(11,64),(20,66)]),(4159479,[(3,59),(11,65),(15,66),(22,67)]),(4191223,[(3,60),(10,66),(22,68)]),(8352759,[(3,61),(10,67),(15,68),(23,69)]),(8385271,[(3,62),(8,68),(23,70)]),(16741111,[(3,63),(8,69),(15,70)]),(2621439,[(19,71)]),(3112959,[(15,71),(20,72)]),(3143679,[(11,71),(20,73)]),(4159487,[(11,72),(15,73),(22,74)]),(4191231,[(10,73),(22,75)]),(8352767,[(10,74),(15,75),(23,76)]),(8385279,[(8,75),(23,77)]),(16741119,[(8,76),(15,77)]),(3145719,[(3,71),(20,78)]),(4161527,[(3,72),(15,78),(22,79)]),(4192247,[(3,73),(11,78),(22,80)]),(8353783,[(3,74),(11,79),(15,80),(23,81)]),(8385527,[(3,75),(10,80),(23,82)]),(16741367,[(3,76),(10,81),(15,82)]),(16773879,[(3,77),(8,82),(24,83)]),(3145727,[(20,84)]),(4161535,[(15,84),(22,85)]),(4192255,[(11,84),(22,86)]),(8353791,[(11,85),(15,86),(23,87)]),(8385535,[(10,86),(23,88)]),(16741375,[(10,87),(15,88)]),(16773887,[(8,88),(24,89)]),(4194295,[(3,84),(22,90)]),(8355831,[(3,85),(15,90),(23,91)]),(8386551,[(3,86),(11,90),(23,92)]),(16742391,[(3,87),(11,91),(15,92)]),(16774135,[(3,88),(10,92),(24,93)]),(33551095,[(3,89),(8,93),(25,94)]),(4194303,[(22,95)]),(8355839,[(15,95),(23,96)]),(8386559,[(11,95),(23,97)]),(16742399,[(11,96),(15,97)]),(16774143,[(10,97),(24,98)]),(33551103,[(8,98),(25,99)]),(8388599,[(3,95),(23,100)]),(16744439,[(3,96),(15,100)]),(16775159,[(3,97),(11,100),(24,101)]),(33551351,[(3,98),(10,101),(25,102)]),(67105527,[(3,99),(8,102)]),(8388607,[(23,103)]),(16744447,[(15,103)]),(16775167,[(11,103),(24,104)]),(33551359,[(10,104),(25,105)]),(67105535,[(8,105)]),(16777207,[(3,103),(24,106)]),(33552375,[(3,104),(11,106),(25,107)]),(67105783,[(3,105),(10,107)]),(16777215,[(24,108)]),(33552383,[(11,108),(25,109)]),(67105791,[(10,109)]),(33554423,[(3,108),(25,110)]),(67106807,[(3,109),(11,111)]),(33554431,[(25,112)]),(67106815,[(11,113)]),(67108855,[(3,112),(26,114)]),(67108855,[(3,113),(26,114)]),(67108863,[(26,115)]),(67108863,[(26,115)]),(134217719,[(3,115)]),(134217727,[(27,116)]),(268435455,[(28,117)]),(536870911,[])]))))))))))))))) (ae (by decide+kernel) ?_));apply oW
   ·intro K hK
    repeat' first
     |exact rfl
     |exact hK
     |refine ae ?_ ?_
     |exact ag
     |omega
     |exact X2 _
     |refine' af [(_,_),(_,_),(_,_),(_,_),(_,_),(_,_),(_,_),(_,_),(_,_),(_,_),(_,_),(_,_),(_,_),(_,_),(_,_),(_,_),(_,_),(_,_),(_,_),(_,_),(_,_),(_,_),(_,_),(_,_),(_,_),(_,_),(_,_),(_,_),(_,_),(_,_),(_,_),(_,_),(_,_),(_,_),(_,_),(_,_),(_,_),(_,_),(_,_),(_,_),(_,_),(_,_),(_,_),(_,_),(_,_),(_,_),(_,_),(_,_),(_,_),(_,_),(_,_),(_,_),(_,_),(_,_),(_,_),(_,_),(_,_),(_,_),(_,_),(_,_),(_,_),(_,_),(_,_),(_,_),(_,_),(_,_),(_,_),(_,_),(_,_),(_,_),(_,_),(_,_),(_,_),(_,_),(_,_),(_,_),(_,_),(_,_),(_,_),(_,_),(_,_),(_,_),(_,_),(_,_),(_,_),(_,_),(_,_),(_,_),(_,_),(_,_),(_,_),(_,_),(_,_),(_,_),(_,_),(_,_),(_,_),(_,_),(_,_),(_,_),(_,_),(_,_),(_,_),(_,_),(_,_),(_,_),(_,_),(_,_),(_,_),(_,_),(_,_),(_,_),(_,_),(_,_),(_,_),(_,_),(_,_),(_,_)] ?_
   ·refine ae aa ?_
    refine nx (q+1,H.set a (H.getD a []++[0+(N.getD q []).getD a 0])) ⟨aa,?_⟩ (show F.length - (q+1)<F.length - q by omega) ab;rw [hHa,hH,List.set_set,Int.zero_add];refine congrArg _ ?_;rw [List.take_succ_eq_append_getElem (show q<N.length by omega),List.map_append,List.map_singleton];simp [List.getD,show q<N.length by omega]
  ·have k2:(F.length:Int)<=(q:Int):=k2
   have Yf:N.take q=N:=List.take_of_length_le aa;rw [Yf]at hH;refine ae aa ?_;refine nx (a+1,H) ⟨aa,by rw [hH,List.length_set];exact hG,λ b hb=>?_,λ b hb=>?_⟩ (show L - (a+1)<L - a by omega) ab
   ·rw [hH]
    by_cases e:b=a
    ·rw [e];exact lh aa
    ·rw [fW e];exact hGb b aa
   ·rw [hH,fW aa];exact hGn b aa
 ·have k1:((List.replicate ((L:Nat):Int).toNat ([]:List Int)).length:Int)<=(a:Int):=k1
  rw [List.length_replicate,Int.toNat_natCast]at k1;have hae:a=L:=aa
  have eG:G=NJ L N:=bj [] (by rw [hG];simp [NJ]) λ b hb=>by
   rw [hGb b aa];simp [NJ,List.getD,show b<L by omega]
  refine Or.inl ?_;refine af [false,false,false,false,false,false,false,false,false,false,false,false,false,false,false,false,false,false,false,false,true,false,false,true] (ae (by decide+kernel) ?_);refine ae aa ?_;refine ae (by simp) ?_;refine ae aa ?_
  repeat' first|refine ae ?_ ?_|exact ag|(show(_:Int)=(_:Int);omega)|omega|exact rfl|(simp only [RO.len];omega)
  all_goals first|exact congrArg _ eG|simp
end Go.Proofs.YtgailjhnfghkgaaGreatDoor
end
section
namespace Go.Proofs.YtgailjhnfghkgaaGreatDoor
open Go Go.AM
set_option maxRecDepth 100000
set_option maxHeartbeats 4000000
theorem getD_take{α:Type}{l:List α}{d:α}{i k:Nat}(h:i<k):(l.take k).getD i d=l.getD i d:=by
 simp [List.getD,h]
theorem N8{L s:Nat}{F:List Bool}{N:List (List Int)}(h:DV L s F N):
  NF 126 [.int .i64 L,.int .i64 s,.fn 127 [.ptr 1000 0],.fn 128 [.ptr 1000 0]] (U7 L s F N)
   (xP λ l R=>.cC [DO L 0 (l.map λ q=>F.getD q.toNat false) R,.ro (.ints .i64 l),.int .i64 0]) (λ _=>U7 L s F N) (xP λ l R=>DQ N L s l.length l R):=Vk Tryz.func126 (by decide+kernel) rfl (ah rfl) λ _=>by
 have h5:=h.tJ;have hl6:=h.l6;have Ob:=h.nl;refine Or.inr (Or.inl (cm [] [(1000,11),(24,601),(45,602)] (PI s) ?_));refine ae ab ?_
 refine af []<|A9 (λ(i:Nat) (_:List Int) (_:List (List Int))=>[(13,.int .i64 i)])
  (λ i l R=>[(11,.box [.vec 602,.ptr 601 0]),(601,.map (.int .i64) (some .i64) (cS (sg l))),(602,.vec 0 (.ints .i64 l) []),(12,.box [.int .i64 L,.int .i64 0,.vec 66,.vec 58]),(58,.vec 0 (.rows .i64 R) []),(66,.vec 0 (.aL ((l.take i).map λ q=>F.getD q.toNat false)) [])])
  (λ i l R=>i<=l.length/\DQ N L s i l R) (λ i _ _=>F.length - i) 0 [(s:Int)] [] ⟨Nat.zero_le _,λ j hj=>absurd hj (Nat.not_lt_zero _),rfl⟩ ab ?_
 rintro i l R ⟨hi,hR⟩;have hV:=hR.ok h;have HH:=hV.tJ;have pA:=hV.rl;refine ae (λ h1=>?_) (λ h1=>?_)
 ·have h1:(i:Int)<(l.length:Int):=h1
  have bL:i<l.length:=aa;have hq:=hV.w9 _ (an (d:=0) bL);obtain⟨a,ha⟩:=Int.eq_ofNat_of_zero_le hq.1;have Bh:a<F.length:=aa;have aI:=h.row _ (an (d:=[]) (l:=N) (i:=a) aa);have Og:(N.getD a []).length=L:=aI.1;have y6:(l.getD i 0).toNat=a:=aa;refine ae aa ?_;refine ae aa ?_;refine ae aa ?_
  refine af [23,29,31]<|A9 (λ(x:Nat) (_ _:List Int)=>[(37,.int .i64 x)])
   (λ _ m Q=>[(34,.vec 0 (.ints .i64 Q) []),(601,.map (.int .i64) (some .i64) (cS (sg m))),(602,.vec 0 (.ints .i64 m) [])])
   (λ x m Q=>x<=L/\fE (N.getD a []) L l x=(m,Q)) (λ x _ _=>L - x) 0 l (List.replicate L 0) ⟨Nat.zero_le _,rfl⟩ ab ?_
  rintro x m Q ⟨hx,he⟩;obtain⟨Tl,DU⟩:=A0 aI hV x hx;rw [he]at Tl DU;have hmf:m.length<=F.length:=Tl.tJ;have xa:Q.length=L:=DU.ql;refine ae (λ h2=>?_) (λ h2=>?_)
  ·have h2:(x:Int)<(L:Int):=by
    have h2:(x:Int)<((List.replicate ((L:Nat):Int).toNat (0:Int)).length:Int):=h2;rw [List.length_replicate,Int.toNat_natCast]at h2;exact h2
   have hxr:x<(N.getD a []).length:=aa;have hqx:=aI.2 _ (an (d:=0) hxr);refine Or.inr (cm [] [(1000,1000)] (PJ L s F N a x aa hxr) ?_);refine ae (by repeat' first|refine ae ?_ ?_|exact ag|exact ha|(show(_:Int)=(_:Int);omega)|omega|exact rfl) ?_;refine Or.inr (Or.inl (cm [] [(1000,11),(1001,601),(501,602)] (Tq m ((N.getD a []).getD x 0) aa) ?_));refine ae ab ?_;refine ae aa ?_;refine ae aa ?_;refine ae aa ?_;refine nx (x+1,xC m ((N.getD a []).getD x 0),Q.set x (EW m ((N.getD a []).getD x 0))) ⟨aa,?_⟩ (show L - (x+1)<L - x by omega) ab;show(xC (fE (N.getD a []) L l x).1 ((N.getD a []).getD x 0),(fE (N.getD a []) L l x).2.set x (EW (fE (N.getD a []) L l x).1 ((N.getD a []).getD x 0)))=_;rw [he]
  ·have h2:(L:Int)<=(x:Int):=by
    have h2:((List.replicate ((L:Nat):Int).toNat (0:Int)).length:Int)<=(x:Int):=h2;rw [List.length_replicate,Int.toNat_natCast]at h2;exact h2
   have hxL:L=x:=aa;subst hxL;have p8:=hR.next bL;rw [y6,he]at p8;refine ae (λ h3=>absurd (show 512<(m.length:Int)from h3) aa) (λ _=>?_);refine ae (by rw [List.length_append,List.length_singleton];omega) ?_
   have tL:(l.take (i+1)).map (λ q=>F.getD q.toNat false)=(l.take i).map (λ q=>F.getD q.toNat false)++[F.getD a false]:=by
    rw [List.take_add_one,List.getElem?_eq_getElem bL,List.map_append];have e:l[i]=(a:Int):=by rw [<-getD_eq (d:=0) bL];exact ha
    simp [e]
   have htl:((l.take i).map λ q=>F.getD q.toNat false).length=i:=by rw [List.length_map,List.length_take];omega
   refine Or.inr (af (.fst 0 (.fst 2 (.fst 3 (.br 1 (.br 4 (.br 5 (.br 6 (.fst 7 (.br 8 .done .no)) .no) .no) .no) (.br 4 (.br 1 (.br 5 (.br 6 (.fst 7 (.br 8 .done .no)) .no) .no) (.br 5 (.br 1 (.br 6 (.fst 7 (.br 8 .done .no)) .no) .no) .no)) .no))))) (ae (by decide+kernel) ?_));apply oW
   ·intro K1 hK
    repeat' first|exact ag|exact hK|(refine Or.inr (cm [] [(1000,1000)] (PK L s F N a Bh) ?_);refine ae (by repeat' first|refine ae ?_ ?_|exact ag|exact ha|(show(_:Int)=(_:Int);omega)|omega|exact rfl) ?_)|refine ae (by rw [List.length_append,List.length_singleton];omega) ?_|refine ae ?_ ?_
   ·refine ae aa ?_
    have ZL:(m.take (i+1)).map (λ q=>F.getD q.toNat false)=(l.take i).map (λ q=>F.getD q.toNat false)++[F.getD a false]:=by
     rw [<-tL];have hle:=DU.le
     have e:m.take (i+1)=l.take (i+1):=by
      have hle:l.length<=m.length:=hle;refine bj 0 (by rw [List.length_take,List.length_take];omega) λ j hj=>?_;rw [List.length_take]at hj;rw [getD_take aa,getD_take aa];exact DU.eu j aa
     rw [e]
    refine nx (i+1,m,R++[Q]) ⟨by have:l.length<=m.length:=DU.le;omega,p8⟩ (show F.length - (i+1)<F.length - i by omega) (by repeat' first|refine ae ?_ ?_|exact ag|exact congrArg RO.aL ZL.symm|(show(_:Int)=(_:Int);omega)|omega|exact rfl)
 ·have h1:(l.length:Int)<=(i:Int):=h1
  have bL:i=l.length:=aa;subst bL;refine Or.inr (af (.fst 1 (.br 0 (.br 2 (.br 3 (.fst 4 (.fst 5 .done)) .no) (.br 3 (.br 2 (.fst 4 (.fst 5 .done)) .no) .no)) (.br 2 (.br 0 (.br 3 (.fst 4 (.fst 5 .done)) .no) .no) .no))) (ae (by decide+kernel) ?_));apply oW
  ·intro K1 hK
   repeat' first|exact ag|exact hK|refine ae ?_ ?_
  ·refine af (l,R) (ae hR ?_)
   have etk:(l.take l.length).map (λ q=>F.getD q.toNat false)=l.map λ q=>F.getD q.toNat false:=by rw [List.take_length]
   repeat' first|refine ae ?_ ?_|exact ag|exact congrArg RO.aL etk|(show(_:Int)=(_:Int);omega)|omega|exact rfl
end Go.Proofs.YtgailjhnfghkgaaGreatDoor
end
