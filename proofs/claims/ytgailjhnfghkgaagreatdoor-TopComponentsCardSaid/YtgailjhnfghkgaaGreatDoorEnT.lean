import Derived.Test.YtgailjhnfghkgaaGreatDoorDfa
section
namespace Go.Proofs.YtgailjhnfghkgaaGreatDoor
open Go Go.AM
set_option maxRecDepth 100000
set_option maxHeartbeats 4000000
theorem p4{L s:Nat}{F:List Bool}{N:List (List Int)}(h:DV L s F N):QF 24 [zU L s F N] (.int .i64 0):=fN Tryz.func24 (by decide+kernel) rfl (ah rfl) λ_=>by
 have h1:=h.l1;have h6:=h.l6;have h5:=h.pZ;have cX:=h.st;have O1:=h.nl;refine ae (λk=>absurd (show(L:Int)<1 from k) aa) (λ_=>?_);refine ae (λk=>absurd (show 6<(L:Int)from k) aa) (λ_=>?_);refine ae (λk=>absurd (show 512<(F.length:Int)from k) aa) (λ_=>?_);refine ae (λk=>absurd (show(N.length:Int)=(F.length:Int) by omega) k) (λ_=>?_);refine ae (λk=>absurd (show(s:Int)<0 from k) aa) (λ_=>?_);refine ae (λk=>absurd (show(F.length:Int)<=(s:Int)from k) aa) (λ_=>?_);refine af []<|lp (X:=Nat) (λi=>[(40,.int .i64 i)]) (λ_=>[]) (λi=>i<=N.length) (λi=>N.length - i) 0 (ajk _) ab ?_
 intro i hi;refine ae (λh7=>?_) (λh7=>?_)
 ·have h7:(i:Int)<(N.length:Int):=h7
  have bD:i<N.length:=aa;have hr:=h.row _ (al (d:=[]) bD);have mV:=hr.1;refine aj ?_;refine ae (λk=>absurd (show(((N.getD i []).length:Nat):Int)=(L:Int) by omega) k) (λ_=>?_);refine af []<|lp (X:=Nat) (λx=>[(51,.int .i64 x)]) (λ_=>[]) (λx=>x<=(N.getD i []).length) (λx=>(N.getD i []).length - x) 0 (ajk _) ab ?_
  intro x hx;refine ae (λh9=>?_) (λh9=>?_)
  ·have h9:(x:Int)<((N.getD i []).length:Int):=h9
   have hq:=hr.2 _ (al (d:=0) (l:=N.getD i []) (i:=x) aa);refine aj ?_;refine ae (λk=>absurd (show(N.getD i []).getD x 0<0 from k) aa) (λ_=>?_);refine ae (λk=>absurd (show(F.length:Int)<=(N.getD i []).getD x 0 from k) aa) (λ_=>?_);refine aj ?_;exact nx (x+1) (show x+1<=(N.getD i []).length by omega) (show(N.getD i []).length - (x+1)<(N.getD i []).length - x by omega) ab
  ·refine aj ?_
   exact nx (i+1) (show i+1<=N.length by omega) (show N.length - (i+1)<N.length - i by omega) ab
 ·exact⟨rfl,ag⟩
abbrev nbS(l:List Int):ak:=[(1000,.box [.vec 501,.ptr 1001 0]),(1001,.map (.int .i64) (some .i64) (c7 (sg l))),(501,.vec 0 (.ints .i64 l) [])]
theorem U7(l:List Int)(x:Int)(hl:l.length<=4096):MF 161 [.ptr 1000 0,.int .i64 x] (nbS l) (.int .i64 (yt l x)) (nbS (uv l x)):=ui Tryz.func161 (by decide+kernel) rfl (ah rfl) λ_=>by
 refine ae (λk1=>?_) (λk1=>?_)
 ·have k1:(!(getM (c7 (sg l)) [x]).isSome)=true:=k1
  have hm:x∉l:=λhm=>by rw [A4,ajq hm]at k1;cases k1
  have ev:yt l x=(l.length:Int):=by unfold yt;rw [ajm hm]
  have ex:uv l x=l++[x]:=by unfold uv;rw [ajm hm]
  rw [ev,ex];refine ae (by rw [ajp,ajx];omega) ?_;refine ae (by repeat' first|refine ae ?_ ?_|exact ag|exact Q8 hm|(show(_:Int)=(_:Int);omega)|omega|exact rfl) ?_
  repeat' first|refine ae ?_ ?_|exact ag|(show(_:Int)=(_:Int);omega)|omega|exact rfl|(simp only [RO.len];omega)
 ·have k1:(!(getM (c7 (sg l)) [x]).isSome)=false:=k1
  have hm:x∈l:=ajy λhm=>by rw [A4,ajm hm]at k1;cases k1
  have ev:yt l x=(oM l x:Int):=by unfold yt;rw [ajq hm]
  have ex:uv l x=l:=by unfold uv;rw [ajq hm]
  have hg:getM (c7 (sg l)) [x]=some (oM l x:Int):=by rw [A4,ajq hm]
  rw [ev,ex];refine ae ab ?_;show(getM (c7 (sg l)) [x]).getD 0=(oM l x:Int);rw [hg];rfl
theorem Q9(x:Int):MF 161 [.ptr 1000 0,.int .i64 x] [(1000,.box [.ar,.bO])] (.int .i64 0) [(1000,.box [.vec 45,.ptr 24 0]),(24,.map (.int .i64) (some .i64) (c7 (sg [x]))),(45,.vec 0 (.ints .i64 [x]) [])]:=ui Tryz.func161 (by decide+kernel) rfl (ah rfl) λ_=>by
 refine ae (show((1:Nat):Int)<=17592186044416 by omega) ?_;refine ae ab ?_
 repeat' first|refine ae ?_ ?_|exact ag|(show(_:Int)=(_:Int);omega)|omega|exact rfl|(simp only [RO.len];omega)
abbrev Wz(L s:Int)(F:List Bool)(N:List (List Int)):ak:=[(1000,.box [.int .i64 L,.int .i64 s,.ro (.aI F),.ro (.rows .i64 N)])]
theorem Ra(L s:Int)(F:List Bool)(N:List (List Int))(q x:Nat)(hq:q<N.length)(hx:x<(N.getD q []).length):MF 127 [.int .i64 q,.int .i64 x,.ptr 1000 0] (Wz L s F N) (.int .i64 ((N.getD q []).getD x 0)) (Wz L s F N):=ui Tryz.func127 (by decide+kernel) rfl (ah rfl) λ_=>by
 refine aj ?_;refine ae (show 0<=(x:Int)/\(x:Int)<((N.getD q []).length:Int) by omega) ?_;refine ae ab ?_
 repeat' first|refine ae ?_ ?_|exact ag|(show(_:Int)=(_:Int);omega)|omega|exact rfl|(simp only [RO.len];omega)
theorem Rb(L s:Int)(F:List Bool)(N:List (List Int))(q:Nat)(hq:q<F.length):MF 128 [.int .i64 q,.ptr 1000 0] (Wz L s F N) (.bool (.v (F.getD q false))) (Wz L s F N):=ui Tryz.func128 (by decide+kernel) rfl (ah rfl) λ_=>by
 refine aj ?_;refine ae ab ?_
 repeat' first|refine ae ?_ ?_|exact ag|(show(_:Int)=(_:Int);omega)|omega|exact rfl|(simp only [RO.len];omega)
set_option maxHeartbeats 2000000
abbrev Nb(n:Nat)(G E:List (List Int))(P L:List Int)(W:List (List Int))(B:List Int)(R:List (List Int))(U:List (List Int × List Int))(D:Nat)(S:List Int):ak:=
 [(1000,.box [.int .i64 n,.bool (.lit true),.ro (.rows .i64 G),.vec 501,.vec 502,.vec 503,.vec 504,.vec 505,.int .i64 D,.ptr 1001 0,.vec 506,.vec 507,.vec 508]),(1001,.map .str (some .i64) (c7 E)),(501,.vec 0 (.rows .i64 E) []),(502,.vec 0 (.ints .i64 P) []),(503,.vec 0 (.ints .i64 L) []),(504,.vec 0 (.rows .i64 R) []),(505,.vec 0 (.dS U) []),(506,.vec 0 (.strs W) []),(507,.vec 0 (.ints .i64 B) []),(508,.vec 0 (.ints .i64 S) [])]
theorem Re(n:Nat)(G E:List (List Int))(P L:List Int)(W:List (List Int))(B:List Int)(R:List (List Int))(U:List (List Int × List Int))(D:Nat)(S:List Int):MF 101 [.ptr 1000 0] (Nb n G E P L W B R U D S) (.bool (.eq (D:Int) (E.length:Int))) (Nb n G E P L W B R U D S):=ui Tryz.func101 (by decide+kernel) rfl (ah rfl) λ_=>by
 refine Or.inl ?_;refine af (ai 13) (ae (by decide+kernel) ?_);refine ae ab ?_
 repeat' first|refine ae ?_ ?_|exact ag|(show(_:Int)=(_:Int);omega)|omega|exact rfl|(simp only [RO.len];omega)
theorem HL(n:Nat)(G E:List (List Int))(P L:List Int)(W:List (List Int))(B:List Int)(R:List (List Int))(U:List (List Int × List Int))(D:Nat)(S:List Int)(b:Int)(x:Nat)(hb:0<=b/\b<(R.length:Int))(hx:(x:Int)<((R.getD b.toNat []).length:Int)):
  MF 144 [.ptr 1000 0,.int .i64 b,.int .i64 x] (Nb n G E P L W B R U D S) (.int .i64 (dT R b x)) (Nb n G E P L W B R U D S):=ui Tryz.func144 (by decide+kernel) rfl (ah rfl) λ_=>by
 refine ae (λh1=>absurd (show b= -1 from h1) aa) (λh1=>?_);refine ae hb ?_;refine aj ?_;refine ae ab ?_
 repeat' first|refine ae ?_ ?_|exact ag|(show(_:Int)=(_:Int);omega)|omega|exact rfl|(simp only [RO.len];omega)
theorem Rf(n:Nat)(G E:List (List Int))(P L:List Int)(W:List (List Int))(B:List Int)(R:List (List Int))(U:List (List Int × List Int))(D:Nat)(S:List Int)(b:Int)(x:Nat)(hb:0<=b/\b<(R.length:Int))(hx:(x:Int)<((R.getD b.toNat []).length:Int))(ha:0<=dT R b x/\dT R b x<(P.length:Int))(hl:L.length=P.length):
  MF 145 [.ptr 1000 0,.int .i64 b,.int .i64 x] (Nb n G E P L W B R U D S) (.bool (.v (decide (P.getD (dT R b x).toNat 0=b)&&decide (L.getD (dT R b x).toNat 0=(x:Int))))) (Nb n G E P L W B R U D S):=ui Tryz.func145 (by decide+kernel) rfl (ah rfl) λ_=>by
 refine Or.inr (Or.inl (cm [] [(1000,1000),(1001,1001),(501,501),(502,502),(503,503),(504,504),(505,505),(506,506),(507,507),(508,508)] (HL n G E P L W B R U D S b x hb hx) ?_));refine ae ab ?_;refine aj ?_;refine ae (λh1=>?_) (λh1=>?_)
 ·have h1:P.getD (dT R b x).toNat 0=b:=h1
  refine aj ?_;refine ae ab ?_;show decide (L.getD (dT R b x).toNat 0=(x:Int))=(decide (P.getD (dT R b x).toNat 0=b)&&decide (L.getD (dT R b x).toNat 0=(x:Int)));rw [aj3 h1,Bool.true_and]
 ·have h1:P.getD (dT R b x).toNat 0≠b:=h1
  refine ae ab ?_;show false=(decide (P.getD (dT R b x).toNat 0=b)&&decide (L.getD (dT R b x).toNat 0=(x:Int)));rw [akp h1,Bool.false_and]
theorem A5(n:Nat)(G E:List (List Int))(P L:List Int)(W:List (List Int))(B:List Int)(R:List (List Int))(U:List (List Int × List Int))(D:Nat)(S:List Int)(f w:List Int)(p l b:Int)(hf:f∉E)(Hp:f.length<=32)(hfe:E.length<=4096)(gw:P.length=E.length)(oO:L.length=E.length)(US:W.length=E.length)(fB:B.length=E.length)(hfb:∀x∈f,0<=x/\x<=255):
  MF 140 [.ptr 1000 0,.ro (.ints .i64 f),.int .i64 p,.int .i64 l,.str w,.int .i64 b] (Nb n G E P L W B R U D S) (.int .i64 E.length) (Nb n G (E++[f]) (P++[p]) (L++[l]) (W++[w]) (B++[b]) R U D S):=ui Tryz.func140 (by decide+kernel) rfl (ah rfl) λ_=>by
 refine Or.inl ?_;refine af (ai 7++[true]) (ae (by decide+kernel) ?_);refine cq (vQ f Hp hfb) (ae rfl ag) ?_;refine ae (by rw [ajp,ajx];omega) ?_;refine ae (by rw [ajp,ajx];omega) ?_;refine ae (by rw [ajp,ajx];omega) ?_;refine ae (by rw [ajp,ajx];omega) ?_;refine ae (by rw [ajp,ajx];omega) ?_;refine ae (by repeat' first|refine ae ?_ ?_|exact ag|exact sD hf|(show(_:Int)=(_:Int);omega)|omega|exact rfl) ?_
 repeat' first|refine ae ?_ ?_|exact ag|(show(_:Int)=(_:Int);omega)|omega|exact rfl|(simp only [RO.len];omega)
set_option maxHeartbeats 4000000
theorem Nc(n:Nat)(G E0:List (List Int))(P0 L0:List Int)(W0:List (List Int))(B0:List Int)(R:List (List Int))(U0:List (List Int × List Int))(D:Nat)(S:List Int)(z:pA)
  (hG:∀f∈G,lJ n f) (h1:1<=n) (h3:n<=3) (Tq:G.length<=6) (hV:oY n G G.length ⟨E0,P0,L0,W0,B0,R,U0,D,S,[]⟩) (hD:D<E0.length) (hU:U0.length<=4096) (hz:MU G ⟨E0,P0,L0,W0,B0,R,U0,D,S,[]⟩=z):
  MF 102 [.ptr 1000 0] (Nb n G E0 P0 L0 W0 B0 R U0 D S) (.int .i64 0) (Nb n G z.E z.P z.L z.W z.B z.R z.U z.D z.S):=ui Tryz.func102 (by decide+kernel) rfl (ah rfl) λ_=>by
 refine aj ?_;refine aj ?_
 refine af []<|YU (λ(x:Nat) (_:List (List Int)) (_ _:List Int) (_:List (List Int)) (_:List Int) (_:List (List Int × List Int)) (_:List Int)=>[(29,.int .i64 x)])
  (λ_ E P L W B U Q=>Nb n G E P L W B R U D S++[(22,.vec 0 (.ints .i64 Q) [])])
  (λx E P L W B U Q=>x<=G.length/\eH G ⟨E0,P0,L0,W0,B0,R,U0,D,S,[]⟩ x=⟨E,P,L,W,B,R,U,D,S,Q⟩) (λx _ _ _ _ _ _ _=>G.length - x)
  0 E0 P0 L0 W0 B0 U0 (List.replicate G.length 0) ⟨ajk _,rfl⟩ ab ?_
 rintro x E P L W B U Q ⟨hx,he⟩;have b5:=A3 hG hV hD x hx;rw [he]at b5;obtain⟨hQ,_,hEl,Pn,_,_,hW⟩:=b5;have ux:Q.length=G.length:=hQ.ql;have Jb:E.length<=27:=qW h3 hW.nd hW.ya;have gw:P.length=E.length:=hW.pl;have oO:L.length=E.length:=hW.ll;have US:W.length=E.length:=hW.wl;have fB:B.length=E.length:=hW.bl;have mV:R.length=D:=hW.rl;have hEl:E0.length<=E.length:=hEl;have Pn:U.length<=U0.length+x:=Pn;refine ae (λh4=>?_) (λh4=>?_)
 ·have h4:(x:Int)<(G.length:Int):=h4
  have uz:x<G.length:=aa;have Zl:D<E.length:=ajT hD hEl;have XS:=hG _ (al (d:=[]) uz);have hED:lJ n (E.getD D []):=hW.ya _ (al (d:=[]) Zl);refine aj ?_;refine aj ?_;have hf:=hED.cmp XS;have Hp:=hf.len;have Dw:∀y∈bG (E.getD D []) (G.getD x []),0<=y/\y<=255:=λy hy=>by have:=hf.oz y hy;omega
  refine Or.inl (cq (Mp (E.getD D []) (G.getD x []) n h1 aa hED XS) (ae rfl (ae rfl ag)) ?_);refine Or.inl ?_;refine af (ai 12) (ae (by decide+kernel) ?_);refine cq (vQ (bG (E.getD D []) (G.getD x [])) aa Dw) (ae rfl ag) ?_;refine aj ?_;refine aj ?_;refine ae (show(-2147483648:Int)<=97+(x:Int)/\97+(x:Int)<=2147483647 by omega) ?_;refine aj ?_;refine ae (show(W.getD D []).length+[97+(x:Int)].length<=17592186044416 by have:(W.getD D []).length<=D:=hW.wd D Zl;rw [ajx];omega) ?_;have estep:∀z:pA,FR G ⟨E,P,L,W,B,R,U,D,S,Q⟩ x=z->eH G ⟨E0,P0,L0,W0,B0,R,U0,D,S,[]⟩ (x+1)=z:=λz hz=>by rw [<-hz,<-he];rfl
  refine ae (λk1=>?_) (λk1=>?_)
  ·have k1:(!(getM (c7 E) (bG (E.getD D []) (G.getD x []))).isSome)=true:=k1
   have hm:bG (E.getD D []) (G.getD x [])∉E:=λhm=>by rw [dC,ajq hm]at k1;cases k1
   obtain⟨_,hD0,EM,j9,Wv,XD⟩:=hW.mul hG Zl uz hm;have hD0:0<D:=hD0;have EM:0<=B.getD D 0:=EM;have j9:B.getD D 0<(D:Int):=j9;have aH:(R.getD (B.getD D 0).toNat []).length=G.length:=(hW.row (B.getD D 0).toNat (show(B.getD D 0).toNat<D by omega)).1;refine ae (λk2=>absurd (show(E.length:Int)=2000 from k2) aa) (λ_=>?_);refine ae (λ_=>?_) (λk3=>?_)
   ·refine aj ?_
    refine Or.inr (Or.inl (cm [] [(1000,1000),(1001,1001),(501,501),(502,502),(503,503),(504,504),(505,505),(506,506),(507,507),(508,508)] (HL n G E P L W B R U D S (B.getD D 0) x ⟨EM,aa⟩ aa) ?_));refine ae ab ?_;refine Or.inr (Or.inl (cm [43] [(1000,1000),(1001,1001),(501,501),(502,502),(503,503),(504,504),(505,505),(506,506),(507,507),(508,508)] (A5 n G E P L W B R U D S (bG (E.getD D []) (G.getD x [])) (W.getD D []++FQ x) (D:Int) (x:Int) (dT R (B.getD D 0) x) hm aa aa gw oO US fB Dw) ?_));refine ae ab ?_;refine aj ?_;refine aj ?_;refine aj ?_;refine nx (x+1,E++[bG (E.getD D []) (G.getD x [])],P++[(D:Int)],L++[(x:Int)],W++[W.getD D []++FQ x],B++[dT R (B.getD D 0) x],U,Q.set x (E.length:Int)) ⟨aa,estep _ (by unfold FR;rw [ajm hm])⟩ (show G.length - (x+1)<G.length - x by omega) ab
   ·have k3:(!(getM (c7 E) (bG (E.getD D []) (G.getD x []))).isSome)=false:=k3
    rw [k3]at k1;cases k1
  ·have k1:(!(getM (c7 E) (bG (E.getD D []) (G.getD x []))).isSome)=false:=k1
   have hm:bG (E.getD D []) (G.getD x [])∈E:=ajy λhm=>by rw [dC,ajm hm]at k1;cases k1
   have Zm:=dr hm;have tq:getM (c7 E) (bG (E.getD D []) (G.getD x []))=some (fc E (bG (E.getD D []) (G.getD x [])):Int):=by rw [dC,ajq hm]
   refine ae (λk3=>?_) (λ_=>?_)
   ·have k3:(!(getM (c7 E) (bG (E.getD D []) (G.getD x []))).isSome)=true:=k3
    rw [k3]at k1;cases k1
   refine aj ?_;refine ae (λk4=>?_) (λk4=>?_)
   ·have k4:(!(W.getD D []==[]))=true:=k4
    have ES:W.getD D []≠[]:=λe=>by rw [e]at k4;cases k4
    obtain⟨EM,j9,Wv,XD⟩:=hW.red Zl uz ES;have EM:0<=B.getD D 0:=EM;have j9:B.getD D 0<(D:Int):=j9;have Wv:0<=dT R (B.getD D 0) x:=Wv;have XD:dT R (B.getD D 0) x<(E.length:Int):=XD;have aH:(R.getD (B.getD D 0).toNat []).length=G.length:=(hW.row (B.getD D 0).toNat (show(B.getD D 0).toNat<D by omega)).1;refine aj ?_;refine Or.inr (Or.inl (cm [] [(1000,1000),(1001,1001),(501,501),(502,502),(503,503),(504,504),(505,505),(506,506),(507,507),(508,508)] (Rf n G E P L W B R U D S (B.getD D 0) x ⟨EM,aa⟩ aa ⟨Wv,aa⟩ aa) ?_));refine ae ab ?_;refine ae (λk5=>?_) (λk5=>?_)
    ·have k5:(decide (P.getD (dT R (B.getD D 0) x).toNat 0=B.getD D 0)&&decide (L.getD (dT R (B.getD D 0) x).toNat 0=(x:Int)))=true:=k5
     refine Or.inl ?_;refine af (ai 16++[true,false,false,false,true]) (ae (by decide+kernel) ?_);refine ae (show 0<=(getM (c7 E) (bG (E.getD D []) (G.getD x []))).getD 0/\(getM (c7 E) (bG (E.getD D []) (G.getD x []))).getD 0<(W.length:Int) by rw [tq];show 0<=(fc E _:Int)/\(fc E _:Int)<(W.length:Int);omega) ?_;refine ae (by rw [ajp,ajx];omega) ?_;refine aj ?_;refine aj ?_;refine aj ?_;refine nx (x+1,E,P,L,W,B,U++[(W.getD D []++FQ x,W.getD (fc E (bG (E.getD D []) (G.getD x []))) [])],Q.set x (fc E (bG (E.getD D []) (G.getD x [])):Int)) ⟨aa,estep _ (by unfold FR QW;rw [ajq hm,ajq ⟨ES,k5⟩])⟩ (show G.length - (x+1)<G.length - x by omega) (by rw [tq];repeat' first|refine ae ?_ ?_|exact ag|(show(_:Int)=(_:Int);omega)|omega|exact rfl|(simp only [RO.len];omega))
    ·have k5:(decide (P.getD (dT R (B.getD D 0) x).toNat 0=B.getD D 0)&&decide (L.getD (dT R (B.getD D 0) x).toNat 0=(x:Int)))=false:=k5
     refine aj ?_;refine aj ?_;refine aj ?_;refine nx (x+1,E,P,L,W,B,U,Q.set x (fc E (bG (E.getD D []) (G.getD x [])):Int)) ⟨aa,estep _ (by unfold FR QW;rw [ajq hm,ajm (λhc=>by rw [hc.2]at k5;cases k5)])⟩ (show G.length - (x+1)<G.length - x by omega) (by rw [tq];repeat' first|refine ae ?_ ?_|exact ag|(show(_:Int)=(_:Int);omega)|omega|exact rfl|(simp only [RO.len];omega))
   ·have k4:(!(W.getD D []==[]))=false:=k4
    refine aj ?_;refine aj ?_;refine aj ?_;have ES:W.getD D []=[]:=by simpa using k4
    refine nx (x+1,E,P,L,W,B,U,Q.set x (fc E (bG (E.getD D []) (G.getD x [])):Int)) ⟨aa,estep _ (by unfold FR;rw [ajq hm,ajm (λhc=>hc.1 ES)])⟩ (show G.length - (x+1)<G.length - x by omega) (by rw [tq];repeat' first|refine ae ?_ ?_|exact ag|(show(_:Int)=(_:Int);omega)|omega|exact rfl|(simp only [RO.len];omega))
 ·have h4:(G.length:Int)<=(x:Int):=h4
  obtain rfl:x=G.length:=aa;have ez:z=⟨E,P,L,W,B,R++[Q],U,D+1,S,[]⟩:=by rw [<-hz];unfold MU;rw [he]
  subst ez;refine ae (by rw [ajp,ajx];omega) ?_;refine aj ?_;refine ae ab ?_
  repeat' first|refine ae ?_ ?_|exact ag|(show(_:Int)=(_:Int);omega)|omega|exact rfl|(simp only [RO.len];omega)
abbrev bgF(n:Nat)(G E:List (List Int))(P L:List Int)(W:List (List Int))(B:List Int)(R:List (List Int))(U:List (List Int × List Int))(D:Nat)(S:List Int):ak:=
 [(25,.box [.int .i64 n,.bool (.lit true),.ro (.rows .i64 G),.vec 501,.vec 502,.vec 503,.vec 504,.vec 505,.int .i64 D,.ptr 23 0,.vec 506,.vec 507,.vec 508]),(23,.map .str (some .i64) (c7 E)),(501,.vec 0 (.rows .i64 E) []),(502,.vec 0 (.ints .i64 P) []),(503,.vec 0 (.ints .i64 L) []),(504,.vec 0 (.rows .i64 R) []),(505,.vec 0 (.dS U) []),(506,.vec 0 (.strs W) []),(507,.vec 0 (.ints .i64 B) []),(508,.vec 0 (.ints .i64 S) [])]
theorem Rg(n:Nat)(G:List (List Int))(z:pA)(hG:∀f∈G,lJ n f)(h1:1<=n)(h3:n<=3)(WA:0<G.length)(Tq:G.length<=6)(hz:iN n G G.length=z):
  MF 100 [.ro (.rows .i64 G),.bool (.lit true)] [] (.cL [.ptr 25 0,.int .i64 0]) (bgF n G z.E z.P z.L z.W z.B z.R z.U z.D z.S):=ui Tryz.func100 (by decide+kernel) rfl (ah rfl) λ_=>by
 refine ae (λh=>absurd (show(G.length:Int)=0 from h) aa) (λ_=>?_);refine ae (λh=>absurd (show 6<(G.length:Int)from h) aa) (λ_=>?_);have hg0:=hG _ (al (d:=[]) WA);have ug:=hg0.len;have aez:(G.getD (Int.toNat 0) []).length=n:=hg0.len;refine aj ?_;refine af []<|lp (X:=Nat) (λi=>[(41,.int .i64 i)]) (λi=>[(25,.box [.int .i64 n,.bool (.lit true),.vec 67,.ar,.ar,.ar,.ar,.ar,.int .i64 0,.ptr 23 0,.ar,.ar,.ar]),(67,.vec 0 (.rows .i64 (G.take i)) [])]) (λi=>i<=G.length) (λi=>G.length - i) 0 (ajk _) ab ?_
 intro i hi;refine ae (λh4=>?_) (λh4=>?_)
 ·have h4:(i:Int)<(G.length:Int):=h4
  have bD:i<G.length:=aa;have hgi:=hG _ (al (d:=[]) bD);have aeA:=hgi.len;refine aj ?_;refine ae (λh5=>absurd (show(((G.getD i []).length:Nat):Int)=(n:Int) by omega) h5) (λ_=>?_);refine Or.inl (cq (ss (G.getD i [])) (ae rfl ag) ?_);refine ae (λh=>?_) (λ_=>?_)
  ·have h:(!vP (G.getD i []))=true:=h
   rw [hgi.vld h1 aa]at h;cases h
  have uM:(G.take i++[G.getD i []]).length=i+1:=by rw [ajp,ajA,ajx];omega
  have aaP:G.take i++[G.getD i []]=G.take (i+1):=by rw [List.take_add_one,ajP bD];simp [List.getD,bD]
  refine Or.inr (af (.fst 0 (.fst 1 (.fst 2 (.fst 3 (.fst 4 (.fst 6 (.br 5 (.br 7 (.br 8 (.br 9 (.fst 10 (.fst 11 (.fst 12 (.br 13 .done .no)))) .no) .no) .no) (.br 7 (.br 5 (.br 8 (.br 9 (.fst 10 (.fst 11 (.fst 12 (.br 13 .done .no)))) .no) .no) (.br 8 (.br 5 (.br 9 (.fst 10 (.fst 11 (.fst 12 (.br 13 .done .no)))) .no) .no) .no)) .no))))))) ) (ae (by decide+kernel) ?_));apply pn
  ·intro K1 hK
   repeat' first|exact ag|exact hK|refine Or.inl (cq (lu (G.getD i []) aa) (ae rfl ag) ?_)|refine aj ?_|refine ae ?_ ?_
  ·refine aj ?_
   refine nx (i+1) (show i+1<=G.length by omega) (show G.length - (i+1)<G.length - i by omega) (by repeat' first|refine ae ?_ ?_|exact ag|exact ajs (RO.rows .i64) aaP|(show(_:Int)=(_:Int);omega)|omega|exact rfl)
 ·have h4:(G.length:Int)<=(i:Int):=h4
  obtain rfl:i=G.length:=aa;refine Or.inl (cq (Jo n h1 aa) (ae rfl ag) ?_);refine Or.inr (Or.inl (cm [67,79] [(1000,25),(1001,23),(501,501),(502,502),(503,503),(504,504),(505,505),(506,506),(507,507),(508,508)] (A5 n G [] [] [] [] [] [] [] 0 [] (cR n) [] (-1) (-1) (-1) (λh=>by cases h) (by rw [bP];omega) (ajk _) rfl rfl rfl rfl (λx hx=>by have:=c8.1 hx;omega)) ?_));refine ae (by repeat' first|refine ae ?_ ?_|exact ag|exact ajs (RO.rows .i64) List.take_length|(show(_:Int)=(_:Int);omega)|omega|exact rfl) ?_
  refine af []<|YU (λ(x:Nat) (_:List (List Int)) (_ _:List Int) (_:List (List Int)) (_:List Int) (_:List (List Int × List Int)) (_:List Int)=>[(87,.int .i64 x)])
   (λ_ E P L W B U S=>bgF n G E P L W B [] U 0 S)
   (λx E P L W B U S=>x<=G.length/\iN n G x=⟨E,P,L,W,B,[],U,0,S,[]⟩) (λx _ _ _ _ _ _ _=>G.length - x)
   0 [cR n] [-1] [-1] [[]] [-1] [] [] ⟨ajk _,rfl⟩ ab ?_
  rintro x E P L W B U S ⟨hx,he⟩;have hW:=MV hG x hx;have Pn:=(QX (n:=n) (G:=G) x).2.1;rw [he]at hW Pn;have Pn:U.length<=x:=Pn;have Jb:E.length<=27:=qW h3 hW.nd hW.ya;have gw:P.length=E.length:=hW.pl;have oO:L.length=E.length:=hW.ll;have US:W.length=E.length:=hW.wl;have fB:B.length=E.length:=hW.bl;have gv:S.length=x:=hW.sl;refine ae (λh5=>?_) (λh5=>?_)
  ·have h5:(x:Int)<(G.length:Int):=h5
   have uz:x<G.length:=aa;have XS:=hG _ (al (d:=[]) uz);have aeB:=XS.len;have Dw:∀y∈G.getD x [],0<=y/\y<=255:=λy hy=>by have:=XS.oz y hy;omega
   have estep:∀z:pA,Wt G ⟨E,P,L,W,B,[],U,0,S,[]⟩ x=z->iN n G (x+1)=z:=λz hz=>by rw [<-hz,<-he];rfl
   refine aj ?_;refine aj ?_;refine ae (show(-2147483648:Int)<=97+(x:Int)/\97+(x:Int)<=2147483647 by omega) ?_;refine aj ?_;refine Or.inl ?_;refine af (ai 12) (ae (by decide+kernel) ?_);refine cq (vQ (G.getD x []) aa Dw) (ae rfl ag) ?_;refine ae (λk1=>?_) (λk1=>?_)
   ·have k1:(getM (c7 E) (G.getD x [])).isSome=true:=k1
    have hm:G.getD x []∈E:=ajy λhm=>by rw [dC,ajm hm]at k1;cases k1
    have Zm:=dr hm;have tq:getM (c7 E) (G.getD x [])=some (fc E (G.getD x []):Int):=by rw [dC,ajq hm]
    refine Or.inl ?_;refine af (ai 16++[true,false,false,false,true]) (ae (by decide+kernel) ?_);refine ae (show 0<=(getM (c7 E) (G.getD x [])).getD 0/\(getM (c7 E) (G.getD x [])).getD 0<(W.length:Int) by rw [tq];show 0<=(fc E _:Int)/\(fc E _:Int)<(W.length:Int);omega) ?_;refine ae (by rw [ajp,ajx];omega) ?_;refine ae (by rw [ajp,ajx];omega) ?_;refine aj ?_;refine nx (x+1,E,P,L,W,B,U++[(FQ x,W.getD (fc E (G.getD x [])) [])],S++[(fc E (G.getD x []):Int)]) ⟨aa,estep _ (by unfold Wt;rw [ajq hm])⟩ (show G.length - (x+1)<G.length - x by omega) (by rw [tq];repeat' first|refine ae ?_ ?_|exact ag|(show(_:Int)=(_:Int);omega)|omega|exact rfl|(simp only [RO.len];omega))
   ·have k1:(getM (c7 E) (G.getD x [])).isSome=false:=k1
    have hm:G.getD x []∉E:=λhm=>by rw [dC,ajq hm]at k1;cases k1
    refine Or.inl (cq (lu (G.getD x []) aa) (ae rfl ag) ?_);refine Or.inr (Or.inl (cm [129] [(1000,25),(1001,23),(501,501),(502,502),(503,503),(504,504),(505,505),(506,506),(507,507),(508,508)] (A5 n G E P L W B [] U 0 S (G.getD x []) (FQ x) 0 (x:Int) 0 hm aa aa gw oO US fB Dw) ?_));refine ae ab ?_;refine ae (by rw [ajp,ajx];omega) ?_;refine aj ?_;refine nx (x+1,E++[G.getD x []],P++[0],L++[(x:Int)],W++[FQ x],B++[0],U,S++[(E.length:Int)]) ⟨aa,estep _ (by unfold Wt;rw [ajm hm])⟩ (show G.length - (x+1)<G.length - x by omega) ab
  ·have h5:(G.length:Int)<=(x:Int):=h5
   obtain rfl:x=G.length:=aa;have ez:z=⟨E,P,L,W,B,[],U,0,S,[]⟩:=by rw [<-hz,he]
   subst ez;refine ae ab ?_
   repeat' first|refine ae ?_ ?_|exact ag|(show(_:Int)=(_:Int);omega)|omega|exact rfl|(simp only [RO.len];omega)
abbrev rnK(n:Nat)(G E:List (List Int))(P L:List Int)(W:List (List Int))(B:List Int)(R:List (List Int))(U:List (List Int × List Int))(D:Nat)(S:List Int):ak:=
 [(600,.box [.int .i64 n,.bool (.lit true),.ro (.rows .i64 G),.vec 501,.vec 502,.vec 503,.vec 504,.vec 505,.int .i64 D,.ptr 601 0,.vec 506,.vec 507,.vec 508]),(601,.map .str (some .i64) (c7 E)),(501,.vec 0 (.rows .i64 E) []),(502,.vec 0 (.ints .i64 P) []),(503,.vec 0 (.ints .i64 L) []),(504,.vec 0 (.rows .i64 R) []),(505,.vec 0 (.dS U) []),(506,.vec 0 (.strs W) []),(507,.vec 0 (.ints .i64 B) []),(508,.vec 0 (.ints .i64 S) [])]
def u6(n:Nat)(G:List (List Int))(j:Nat)(E:List (List Int))(P L:List Int)(W:List (List Int))(B:List Int)(R:List (List Int))(U:List (List Int × List Int))(S:List Int):Prop:=
 (∀i,i<j->(K6 n G i).D<(K6 n G i).E.length)/\K6 n G j=⟨E,P,L,W,B,R,U,j,S,[]⟩
abbrev enA(n:Nat)(G E:List (List Int))(P L:List Int)(R:List (List Int))(U:List (List Int × List Int))(D:Nat):AV:=
 .agg [.int .i64 n,.bool (.lit true),.ro (.rows .i64 G),.ro (.rows .i64 E),.ro (.ints .i64 P),.ro (.ints .i64 L),.ro (.rows .i64 R),.ro (.dS U),.int .i64 D]
section
variable{n:Nat}{G:List (List Int)}{j:Nat}{E:List (List Int)}{P L:List Int}{W:List (List Int)}{B:List Int}{R:List (List Int)}{U:List (List Int × List Int)}{S:List Int}
theorem u6.ok(hG:∀f∈G,lJ n f)(h:u6 n G j E P L W B R U S):oY n G G.length ⟨E,P,L,W,B,R,U,j,S,[]⟩:=by
 have:=(FT hG j h.1).1;rw [h.2]at this;exact this
theorem u6.pZ(hG:∀f∈G,lJ n f)(hn:n<=3)(h:u6 n G j E P L W B R U S):E.length<=27:=qW hn (h.ok hG).nd (h.ok hG).ya
theorem u6.ul(hG:∀f∈G,lJ n f)(h:u6 n G j E P L W B R U S):U.length<=G.length*(j+1):=by
 have:=(FT hG j h.1).2.2;rw [h.2]at this;exact this
theorem u6.next(hG:∀f∈G,lJ n f)(h:u6 n G j E P L W B R U S)(hj:j<E.length){z:pA}(hz:MU G ⟨E,P,L,W,B,R,U,j,S,[]⟩=z):u6 n G (j+1) z.E z.P z.L z.W z.B z.R z.U z.S/\z.D=j+1:=by
 have hd:=(MW hG (h.ok hG) hj).2.1;have e:K6 n G (j+1)=z:=by rw [<-hz,<-h.2];rfl
 rw [hz]at hd;have hd:z.D=j+1:=hd;have hq:z.Q=[]:=by rw [<-hz];rfl
 refine⟨⟨λi hi=>?_,?_⟩,hd⟩
 ·by_cases e:i=j
  ·rw [e,h.2];exact hj
  ·exact h.1 i aa
 ·rw [e,<-hd,<-hq]
theorem u6.start(hG:∀f∈G,lJ n f){z:pA}(hz:iN n G G.length=z):u6 n G 0 z.E z.P z.L z.W z.B z.R z.U z.S/\z.D=0:=by
 obtain⟨h1,_,_,h4⟩:=QX (n:=n) (G:=G) G.length;rw [hz]at h1 h4;refine⟨⟨λi hi=>absurd hi (aju _),?_⟩,h1⟩;show iN n G G.length=_;rw [hz];obtain⟨E,P,L,W,B,R,U,D,S,Q⟩:=z;have h1:D=0:=h1;have h4:Q=[]:=h4;subst h1;subst h4;rfl
end
theorem Rh(n:Nat)(G:List (List Int))(hG:∀f∈G,lJ n f)(h1:1<=n)(h3:n<=3)(WA:0<G.length)(Tq:G.length<=6):
  EF 58 [.ro (.rows .i64 G),.bool (.lit true)] (YT λE P L R U D=>.cL [enA n G E P L R U D,.int .i64 0])
   (YT λE P L R U D=>D=E.length/\∃W B S,u6 n G D E P L W B R U S):=Jp Tryz.func58 (by decide+kernel) rfl (ah rfl) λ_=>by
 obtain⟨cX,XT⟩:=u6.start hG (n:=n) (rfl:iN n G G.length=iN n G G.length);have U8:=Rg n G _ hG h1 h3 WA Tq (rfl:iN n G G.length=iN n G G.length);rw [XT]at U8;generalize iN n G G.length=z at cX U8;refine Or.inr (Or.inl (cm [] [(25,600),(23,601),(501,501),(502,502),(503,503),(504,504),(505,505),(506,506),(507,507),(508,508)] U8 ?_));refine ae ab ?_;refine ae (λh=>absurd rfl h) (λ_=>?_)
 refine af []<|lp9 (λ(_:Nat) (_:List (List Int)) (_ _:List Int) (_:List (List Int)) (_:List Int) (_:List (List Int)) (_:List (List Int × List Int)) (_:List Int)=>[])
  (λj E P L W B R U S=>rnK n G E P L W B R U j S) (λj E P L W B R U S=>u6 n G j E P L W B R U S) (λj _ _ _ _ _ _ _ _=>28 - j)
  0 z.E z.P z.L z.W z.B z.R z.U z.S cX ab ?_
 intro j E P L W B R U S hR;have hV:=hR.ok hG;have Jb:=hR.pZ hG h3;have Pn:=hR.ul hG;have oR:j<=E.length:=hV.dl;refine Or.inr (Or.inl (cm [] [(1000,600),(1001,601),(501,501),(502,502),(503,503),(504,504),(505,505),(506,506),(507,507),(508,508)] (Re n G E P L W B R U j S) ?_));refine ae ab ?_;refine ae (λh4=>?_) (λh4=>?_)
 ·have h4:(j:Int)≠(E.length:Int):=h4
  have hj:j<E.length:=aa;have Pn:U.length<=4096:=ajW Pn (ajW (akf Tq (show j+1<=28 by omega)) (by decide));obtain⟨hn,hzd⟩:=hR.next hG hj rfl;have Wp:=Nc n G E P L W B R U j S _ hG h1 h3 Tq hV hj Pn rfl;rw [hzd]at Wp;generalize MU G ⟨E,P,L,W,B,R,U,j,S,[]⟩=z1 at hn Wp;refine Or.inr (Or.inl (cm [] [(1000,600),(1001,601),(501,501),(502,502),(503,503),(504,504),(505,505),(506,506),(507,507),(508,508)] Wp ?_));refine ae ab ?_;refine ae (λh=>absurd rfl h) (λ_=>?_);exact nx (j+1,z1.E,z1.P,z1.L,z1.W,z1.B,z1.R,z1.U,z1.S) hn (show 28 - (j+1)<28 - j by omega) ab
 ·have h4:(j:Int)=(E.length:Int):=h4
  have hjE:j=E.length:=aa;refine af (E,P,L,R,U,j) (ae ⟨hjE,W,B,S,hR⟩ ?_)
  repeat' first|refine ae ?_ ?_|exact ag|(show(_:Int)=(_:Int);omega)|omega|exact rfl|(simp only [RO.len];omega)
abbrev c9(E:List (List Int))(i j:Nat):Int:=(fc E (bG (E.getD i []) (E.getD j [])):Int)
theorem b7(E:List (List Int)):(aP E).length=E.length:=by simp [aP]
theorem wB{E:List (List Int)}{i:Nat}(hi:i<E.length):(aP E).getD i []=E.map λg=>(fc E (bG (E.getD i []) g):Int):=by
 simp [aP,List.getD,hi]
theorem B8{E:List (List Int)}{i j:Nat}(hi:i<E.length)(hj:j<E.length):((aP E).getD i []).getD j 0=c9 E i j:=by
 rw [wB hi];simp [c9,List.getD,hj]
end Go.Proofs.YtgailjhnfghkgaaGreatDoor
end
