import Derived.Test.YtgailjhnfghkgaaGreatDoorDfa
section
namespace Go.Proofs.YtgailjhnfghkgaaGreatDoor
open Go Go.AM
set_option maxRecDepth 100000
set_option maxHeartbeats 4000000
theorem tK{L s:Nat}{F:List Bool}{N:List (List Int)}(h:DV L s F N):QF 24 [DO L s F N] (.int .i64 0):=kr Tryz.func24 (by decide+kernel) rfl (ah rfl) λ _=>by
 have h1:=h.l1;have h6:=h.l6;have h5:=h.tJ;have c8:=h.st;have Ob:=h.nl;refine ae (λ k=>absurd (show(L:Int)<1 from k) aa) (λ _=>?_);refine ae (λ k=>absurd (show 6<(L:Int)from k) aa) (λ _=>?_);refine ae (λ k=>absurd (show 512<(F.length:Int)from k) aa) (λ _=>?_);refine ae (λ k=>absurd (show(N.length:Int)=(F.length:Int) by omega) k) (λ _=>?_);refine ae (λ k=>absurd (show(s:Int)<0 from k) aa) (λ _=>?_);refine ae (λ k=>absurd (show(F.length:Int)<=(s:Int)from k) aa) (λ _=>?_);refine af []<|lp (X:=Nat) (λ i=>[(40,.int .i64 i)]) (λ _=>[]) (λ i=>i<=N.length) (λ i=>N.length - i) 0 (Nat.zero_le _) ab ?_
 intro i hi;refine ae (λ h7=>?_) (λ h7=>?_)
 ·have h7:(i:Int)<(N.length:Int):=h7
  have bL:i<N.length:=aa;have hr:=h.row _ (an (d:=[]) bL);have pA:=hr.1;refine ae aa ?_;refine ae (λ k=>absurd (show(((N.getD i []).length:Nat):Int)=(L:Int) by omega) k) (λ _=>?_);refine af []<|lp (X:=Nat) (λ x=>[(51,.int .i64 x)]) (λ _=>[]) (λ x=>x<=(N.getD i []).length) (λ x=>(N.getD i []).length - x) 0 (Nat.zero_le _) ab ?_
  intro x hx;refine ae (λ h9=>?_) (λ h9=>?_)
  ·have h9:(x:Int)<((N.getD i []).length:Int):=h9
   have hq:=hr.2 _ (an (d:=0) (l:=N.getD i []) (i:=x) aa);refine ae aa ?_;refine ae (λ k=>absurd (show(N.getD i []).getD x 0<0 from k) aa) (λ _=>?_);refine ae (λ k=>absurd (show(F.length:Int)<=(N.getD i []).getD x 0 from k) aa) (λ _=>?_);refine ae aa ?_;exact nx (x+1) (show x+1<=(N.getD i []).length by omega) (show(N.getD i []).length - (x+1)<(N.getD i []).length - x by omega) ab
  ·refine ae aa ?_
   exact nx (i+1) (show i+1<=N.length by omega) (show N.length - (i+1)<N.length - i by omega) ab
 ·exact⟨rfl,ag⟩
abbrev nbS(l:List Int):ai:=[(1000,.box [.vec 501,.ptr 1001 0]),(1001,.map (.int .i64) (some .i64) (cS (sg l))),(501,.vec 0 (.ints .i64 l) [])]
theorem Tq(l:List Int)(x:Int)(hl:l.length<=4096):MF 161 [.ptr 1000 0,.int .i64 x] (nbS l) (.int .i64 (EW l x)) (nbS (xC l x)):=tf Tryz.func161 (by decide+kernel) rfl (ah rfl) λ _=>by
 refine ae (λ k1=>?_) (λ k1=>?_)
 ·have k1:(!(getM (cS (sg l)) [x]).isSome)=true:=k1
  have hm:x∉l:=λ hm=>by rw [Ah,if_pos hm]at k1;cases k1
  have ev:EW l x=(l.length:Int):=by unfold EW;rw [if_neg hm]
  have ex:xC l x=l++[x]:=by unfold xC;rw [if_neg hm]
  rw [ev,ex];refine ae (by rw [List.length_append,List.length_singleton];omega) ?_;refine ae (by repeat' first|refine ae ?_ ?_|exact ag|exact PH hm|(show(_:Int)=(_:Int);omega)|omega|exact rfl) ?_
  repeat' first|refine ae ?_ ?_|exact ag|(show(_:Int)=(_:Int);omega)|omega|exact rfl|(simp only [RO.len];omega)
 ·have k1:(!(getM (cS (sg l)) [x]).isSome)=false:=k1
  have hm:x∈l:=Classical.byContradiction λ hm=>by rw [Ah,if_neg hm]at k1;cases k1
  have ev:EW l x=(tI l x:Int):=by unfold EW;rw [if_pos hm]
  have ex:xC l x=l:=by unfold xC;rw [if_pos hm]
  have hg:getM (cS (sg l)) [x]=some (tI l x:Int):=by rw [Ah,if_pos hm]
  rw [ev,ex];refine ae ab ?_;show(getM (cS (sg l)) [x]).getD 0=(tI l x:Int);rw [hg];rfl
theorem PI(x:Int):MF 161 [.ptr 1000 0,.int .i64 x] [(1000,.box [.ao,.bK])] (.int .i64 0) [(1000,.box [.vec 45,.ptr 24 0]),(24,.map (.int .i64) (some .i64) (cS (sg [x]))),(45,.vec 0 (.ints .i64 [x]) [])]:=tf Tryz.func161 (by decide+kernel) rfl (ah rfl) λ _=>by
 refine ae (show((1:Nat):Int)<=17592186044416 by omega) ?_;refine ae ab ?_
 repeat' first|refine ae ?_ ?_|exact ag|(show(_:Int)=(_:Int);omega)|omega|exact rfl|(simp only [RO.len];omega)
abbrev U7(L s:Int)(F:List Bool)(N:List (List Int)):ai:=[(1000,.box [.int .i64 L,.int .i64 s,.ro (.aL F),.ro (.rows .i64 N)])]
theorem PJ(L s:Int)(F:List Bool)(N:List (List Int))(q x:Nat)(hq:q<N.length)(hx:x<(N.getD q []).length):MF 127 [.int .i64 q,.int .i64 x,.ptr 1000 0] (U7 L s F N) (.int .i64 ((N.getD q []).getD x 0)) (U7 L s F N):=tf Tryz.func127 (by decide+kernel) rfl (ah rfl) λ _=>by
 refine ae aa ?_;refine ae (show 0<=(x:Int)/\(x:Int)<((N.getD q []).length:Int) by omega) ?_;refine ae ab ?_
 repeat' first|refine ae ?_ ?_|exact ag|(show(_:Int)=(_:Int);omega)|omega|exact rfl|(simp only [RO.len];omega)
theorem PK(L s:Int)(F:List Bool)(N:List (List Int))(q:Nat)(hq:q<F.length):MF 128 [.int .i64 q,.ptr 1000 0] (U7 L s F N) (.bool (.v (F.getD q false))) (U7 L s F N):=tf Tryz.func128 (by decide+kernel) rfl (ah rfl) λ _=>by
 refine ae aa ?_;refine ae ab ?_
 repeat' first|refine ae ?_ ?_|exact ag|(show(_:Int)=(_:Int);omega)|omega|exact rfl|(simp only [RO.len];omega)
end Go.Proofs.YtgailjhnfghkgaaGreatDoor
end
section
namespace Go.Proofs.YtgailjhnfghkgaaGreatDoor
open Go Go.AM
set_option maxRecDepth 100000
set_option maxHeartbeats 2000000
abbrev LH(n:Nat)(G E:List (List Int))(P L:List Int)(W:List (List Int))(B:List Int)(R:List (List Int))(U:List (List Int × List Int))(D:Nat)(S:List Int):ai:=
 [(1000,.box [.int .i64 n,.bool (.lit true),.ro (.rows .i64 G),.vec 501,.vec 502,.vec 503,.vec 504,.vec 505,.int .i64 D,.ptr 1001 0,.vec 506,.vec 507,.vec 508]),(1001,.map .str (some .i64) (cS E)),(501,.vec 0 (.rows .i64 E) []),(502,.vec 0 (.ints .i64 P) []),(503,.vec 0 (.ints .i64 L) []),(504,.vec 0 (.rows .i64 R) []),(505,.vec 0 (.dK U) []),(506,.vec 0 (.strs W) []),(507,.vec 0 (.ints .i64 B) []),(508,.vec 0 (.ints .i64 S) [])]
theorem PL(n:Nat)(G E:List (List Int))(P L:List Int)(W:List (List Int))(B:List Int)(R:List (List Int))(U:List (List Int × List Int))(D:Nat)(S:List Int):MF 101 [.ptr 1000 0] (LH n G E P L W B R U D S) (.bool (.eq (D:Int) (E.length:Int))) (LH n G E P L W B R U D S):=tf Tryz.func101 (by decide+kernel) rfl (ah rfl) λ _=>by
 refine Or.inl ?_;refine af [false,false,false,false,false,false,false,false,false,false,false,false,false] (ae (by decide+kernel) ?_);refine ae ab ?_
 repeat' first|refine ae ?_ ?_|exact ag|(show(_:Int)=(_:Int);omega)|omega|exact rfl|(simp only [RO.len];omega)
theorem GH(n:Nat)(G E:List (List Int))(P L:List Int)(W:List (List Int))(B:List Int)(R:List (List Int))(U:List (List Int × List Int))(D:Nat)(S:List Int)(b:Int)(x:Nat)(hb:0<=b/\b<(R.length:Int))(hx:(x:Int)<((R.getD b.toNat []).length:Int)):
  MF 144 [.ptr 1000 0,.int .i64 b,.int .i64 x] (LH n G E P L W B R U D S) (.int .i64 (dL R b x)) (LH n G E P L W B R U D S):=tf Tryz.func144 (by decide+kernel) rfl (ah rfl) λ _=>by
 refine ae (λ h1=>absurd (show b= -1 from h1) aa) (λ h1=>?_);refine ae hb ?_;refine ae aa ?_;refine ae ab ?_
 repeat' first|refine ae ?_ ?_|exact ag|(show(_:Int)=(_:Int);omega)|omega|exact rfl|(simp only [RO.len];omega)
theorem PM(n:Nat)(G E:List (List Int))(P L:List Int)(W:List (List Int))(B:List Int)(R:List (List Int))(U:List (List Int × List Int))(D:Nat)(S:List Int)(b:Int)(x:Nat)(hb:0<=b/\b<(R.length:Int))(hx:(x:Int)<((R.getD b.toNat []).length:Int))(ha:0<=dL R b x/\dL R b x<(P.length:Int))(hl:L.length=P.length):
  MF 145 [.ptr 1000 0,.int .i64 b,.int .i64 x] (LH n G E P L W B R U D S) (.bool (.v (decide (P.getD (dL R b x).toNat 0=b)&&decide (L.getD (dL R b x).toNat 0=(x:Int))))) (LH n G E P L W B R U D S):=tf Tryz.func145 (by decide+kernel) rfl (ah rfl) λ _=>by
 refine Or.inr (Or.inl (cm [] [(1000,1000),(1001,1001),(501,501),(502,502),(503,503),(504,504),(505,505),(506,506),(507,507),(508,508)] (GH n G E P L W B R U D S b x hb hx) ?_));refine ae ab ?_;refine ae aa ?_;refine ae (λ h1=>?_) (λ h1=>?_)
 ·have h1:P.getD (dL R b x).toNat 0=b:=h1
  refine ae aa ?_;refine ae ab ?_;show decide (L.getD (dL R b x).toNat 0=(x:Int))=(decide (P.getD (dL R b x).toNat 0=b)&&decide (L.getD (dL R b x).toNat 0=(x:Int)));rw [decide_eq_true h1,Bool.true_and]
 ·have h1:P.getD (dL R b x).toNat 0≠b:=h1
  refine ae ab ?_;show false=(decide (P.getD (dL R b x).toNat 0=b)&&decide (L.getD (dL R b x).toNat 0=(x:Int)));rw [decide_eq_false h1,Bool.false_and]
theorem Ai(n:Nat)(G E:List (List Int))(P L:List Int)(W:List (List Int))(B:List Int)(R:List (List Int))(U:List (List Int × List Int))(D:Nat)(S:List Int)(f w:List Int)(p l b:Int)(hf:f∉E)(FP:f.length<=32)(hfe:E.length<=4096)(gb:P.length=E.length)(ot:L.length=E.length)(Ti:W.length=E.length)(fp:B.length=E.length)(hfb:∀x∈f,0<=x/\x<=255):
  MF 140 [.ptr 1000 0,.ro (.ints .i64 f),.int .i64 p,.int .i64 l,.str w,.int .i64 b] (LH n G E P L W B R U D S) (.int .i64 E.length) (LH n G (E++[f]) (P++[p]) (L++[l]) (W++[w]) (B++[b]) R U D S):=tf Tryz.func140 (by decide+kernel) rfl (ah rfl) λ _=>by
 refine Or.inl ?_;refine af [false,false,false,false,false,false,false,true] (ae (by decide+kernel) ?_);refine cq (ve f FP hfb) (ae rfl ag) ?_;refine ae (by rw [List.length_append,List.length_singleton];omega) ?_;refine ae (by rw [List.length_append,List.length_singleton];omega) ?_;refine ae (by rw [List.length_append,List.length_singleton];omega) ?_;refine ae (by rw [List.length_append,List.length_singleton];omega) ?_;refine ae (by rw [List.length_append,List.length_singleton];omega) ?_;refine ae (by repeat' first|refine ae ?_ ?_|exact ag|exact rf hf|(show(_:Int)=(_:Int);omega)|omega|exact rfl) ?_
 repeat' first|refine ae ?_ ?_|exact ag|(show(_:Int)=(_:Int);omega)|omega|exact rfl|(simp only [RO.len];omega)
end Go.Proofs.YtgailjhnfghkgaaGreatDoor
end
section
namespace Go.Proofs.YtgailjhnfghkgaaGreatDoor
open Go Go.AM
set_option maxRecDepth 100000
set_option maxHeartbeats 4000000
theorem LI(n:Nat)(G E0:List (List Int))(P0 L0:List Int)(W0:List (List Int))(B0:List Int)(R:List (List Int))(U0:List (List Int × List Int))(D:Nat)(S:List Int)(z:o6)
  (hG:∀f∈G,lu n f) (h1:1<=n) (h3:n<=3) (QU:G.length<=6) (hV:oF n G G.length ⟨E0,P0,L0,W0,B0,R,U0,D,S,[]⟩) (hD:D<E0.length) (hU:U0.length<=4096) (hz:Lq G ⟨E0,P0,L0,W0,B0,R,U0,D,S,[]⟩=z):
  MF 102 [.ptr 1000 0] (LH n G E0 P0 L0 W0 B0 R U0 D S) (.int .i64 0) (LH n G z.E z.P z.L z.W z.B z.R z.U z.D z.S):=tf Tryz.func102 (by decide+kernel) rfl (ah rfl) λ _=>by
 refine ae aa ?_;refine ae aa ?_
 refine af []<|Xp (λ(x:Nat) (_:List (List Int)) (_ _:List Int) (_:List (List Int)) (_:List Int) (_:List (List Int × List Int)) (_:List Int)=>[(29,.int .i64 x)])
  (λ _ E P L W B U Q=>LH n G E P L W B R U D S++[(22,.vec 0 (.ints .i64 Q) [])])
  (λ x E P L W B U Q=>x<=G.length/\er G ⟨E0,P0,L0,W0,B0,R,U0,D,S,[]⟩ x=⟨E,P,L,W,B,R,U,D,S,Q⟩) (λ x _ _ _ _ _ _ _=>G.length - x)
  0 E0 P0 L0 W0 B0 U0 (List.replicate G.length 0) ⟨Nat.zero_le _,rfl⟩ ab ?_
 rintro x E P L W B U Q ⟨hx,he⟩;have bX:=Af hG hV hD x hx;rw [he]at bX;obtain⟨hQ,_,Zg,N3,_,_,hW⟩:=bX;have xa:Q.length=G.length:=hQ.ql;have HH:E.length<=27:=qp h3 hW.nd hW.xA;have gb:P.length=E.length:=hW.pl;have ot:L.length=E.length:=hW.ll;have Ti:W.length=E.length:=hW.wl;have fp:B.length=E.length:=hW.bl;have pA:R.length=D:=hW.rl;have Zg:E0.length<=E.length:=Zg;have N3:U.length<=U0.length+x:=N3;refine ae (λ h4=>?_) (λ h4=>?_)
 ·have h4:(x:Int)<(G.length:Int):=h4
  have zf:x<G.length:=aa;have XP:D<E.length:=Nat.lt_of_lt_of_le hD Zg;have Wi:=hG _ (an (d:=[]) zf);have hED:lu n (E.getD D []):=hW.xA _ (an (d:=[]) XP);refine ae aa ?_;refine ae aa ?_;have hf:=hED.cmp Wi;have FP:=hf.len;have Cy:∀y∈bF (E.getD D []) (G.getD x []),0<=y/\y<=255:=λ y hy=>by have:=hf.w9 y hy;omega
  refine Or.inl (cq (KV (E.getD D []) (G.getD x []) n h1 aa hED Wi) (ae rfl (ae rfl ag)) ?_);refine Or.inl ?_;refine af [false,false,false,false,false,false,false,false,false,false,false,false] (ae (by decide+kernel) ?_);refine cq (ve (bF (E.getD D []) (G.getD x [])) aa Cy) (ae rfl ag) ?_;refine ae aa ?_;refine ae aa ?_;refine ae (show(-2147483648:Int)<=97+(x:Int)/\97+(x:Int)<=2147483647 by omega) ?_;refine ae aa ?_;refine ae (show(W.getD D []).length+[97+(x:Int)].length<=17592186044416 by have:(W.getD D []).length<=D:=hW.wd D XP;rw [List.length_singleton];omega) ?_;have estep:∀z:o6,ES G ⟨E,P,L,W,B,R,U,D,S,Q⟩ x=z->er G ⟨E0,P0,L0,W0,B0,R,U0,D,S,[]⟩ (x+1)=z:=λ z hz=>by rw [<-hz,<-he];rfl
  refine ae (λ k1=>?_) (λ k1=>?_)
  ·have k1:(!(getM (cS E) (bF (E.getD D []) (G.getD x []))).isSome)=true:=k1
   have hm:bF (E.getD D []) (G.getD x [])∉E:=λ hm=>by rw [di,if_pos hm]at k1;cases k1
   obtain⟨_,hD0,GD,lz,U3,V7⟩:=hW.mul hG XP zf hm;have hD0:0<D:=hD0;have GD:0<=B.getD D 0:=GD;have lz:B.getD D 0<(D:Int):=lz;have aI:(R.getD (B.getD D 0).toNat []).length=G.length:=(hW.row (B.getD D 0).toNat (show(B.getD D 0).toNat<D by omega)).1;refine ae (λ k2=>absurd (show(E.length:Int)=2000 from k2) aa) (λ _=>?_);refine ae (λ _=>?_) (λ k3=>?_)
   ·refine ae aa ?_
    refine Or.inr (Or.inl (cm [] [(1000,1000),(1001,1001),(501,501),(502,502),(503,503),(504,504),(505,505),(506,506),(507,507),(508,508)] (GH n G E P L W B R U D S (B.getD D 0) x ⟨GD,aa⟩ aa) ?_));refine ae ab ?_;refine Or.inr (Or.inl (cm [43] [(1000,1000),(1001,1001),(501,501),(502,502),(503,503),(504,504),(505,505),(506,506),(507,507),(508,508)] (Ai n G E P L W B R U D S (bF (E.getD D []) (G.getD x [])) (W.getD D []++ER x) (D:Int) (x:Int) (dL R (B.getD D 0) x) hm aa aa gb ot Ti fp Cy) ?_));refine ae ab ?_;refine ae aa ?_;refine ae aa ?_;refine ae aa ?_;refine nx (x+1,E++[bF (E.getD D []) (G.getD x [])],P++[(D:Int)],L++[(x:Int)],W++[W.getD D []++ER x],B++[dL R (B.getD D 0) x],U,Q.set x (E.length:Int)) ⟨aa,estep _ (by unfold ES;rw [if_neg hm])⟩ (show G.length - (x+1)<G.length - x by omega) ab
   ·have k3:(!(getM (cS E) (bF (E.getD D []) (G.getD x []))).isSome)=false:=k3
    rw [k3]at k1;cases k1
  ·have k1:(!(getM (cS E) (bF (E.getD D []) (G.getD x []))).isSome)=false:=k1
   have hm:bF (E.getD D []) (G.getD x [])∈E:=Classical.byContradiction λ hm=>by rw [di,if_neg hm]at k1;cases k1
   have Xh:=eR hm;have sJ:getM (cS E) (bF (E.getD D []) (G.getD x []))=some (ff E (bF (E.getD D []) (G.getD x [])):Int):=by rw [di,if_pos hm]
   refine ae (λ k3=>?_) (λ _=>?_)
   ·have k3:(!(getM (cS E) (bF (E.getD D []) (G.getD x []))).isSome)=true:=k3
    rw [k3]at k1;cases k1
   refine ae aa ?_;refine ae (λ k4=>?_) (λ k4=>?_)
   ·have k4:(!(W.getD D []==[]))=true:=k4
    have DW:W.getD D []≠[]:=λ e=>by rw [e]at k4;cases k4
    obtain⟨GD,lz,U3,V7⟩:=hW.red XP zf DW;have GD:0<=B.getD D 0:=GD;have lz:B.getD D 0<(D:Int):=lz;have U3:0<=dL R (B.getD D 0) x:=U3;have V7:dL R (B.getD D 0) x<(E.length:Int):=V7;have aI:(R.getD (B.getD D 0).toNat []).length=G.length:=(hW.row (B.getD D 0).toNat (show(B.getD D 0).toNat<D by omega)).1;refine ae aa ?_;refine Or.inr (Or.inl (cm [] [(1000,1000),(1001,1001),(501,501),(502,502),(503,503),(504,504),(505,505),(506,506),(507,507),(508,508)] (PM n G E P L W B R U D S (B.getD D 0) x ⟨GD,aa⟩ aa ⟨U3,aa⟩ aa) ?_));refine ae ab ?_;refine ae (λ k5=>?_) (λ k5=>?_)
    ·have k5:(decide (P.getD (dL R (B.getD D 0) x).toNat 0=B.getD D 0)&&decide (L.getD (dL R (B.getD D 0) x).toNat 0=(x:Int)))=true:=k5
     refine Or.inl ?_;refine af [false,false,false,false,false,false,false,false,false,false,false,false,false,false,false,false,true,false,false,false,true] (ae (by decide+kernel) ?_);refine ae (show 0<=(getM (cS E) (bF (E.getD D []) (G.getD x []))).getD 0/\(getM (cS E) (bF (E.getD D []) (G.getD x []))).getD 0<(W.length:Int) by rw [sJ];show 0<=(ff E _:Int)/\(ff E _:Int)<(W.length:Int);omega) ?_;refine ae (by rw [List.length_append,List.length_singleton];omega) ?_;refine ae aa ?_;refine ae aa ?_;refine ae aa ?_;refine nx (x+1,E,P,L,W,B,U++[(W.getD D []++ER x,W.getD (ff E (bF (E.getD D []) (G.getD x []))) [])],Q.set x (ff E (bF (E.getD D []) (G.getD x [])):Int)) ⟨aa,estep _ (by unfold ES Pw;rw [if_pos hm,if_pos ⟨DW,k5⟩])⟩ (show G.length - (x+1)<G.length - x by omega) (by rw [sJ];repeat' first|refine ae ?_ ?_|exact ag|(show(_:Int)=(_:Int);omega)|omega|exact rfl|(simp only [RO.len];omega))
    ·have k5:(decide (P.getD (dL R (B.getD D 0) x).toNat 0=B.getD D 0)&&decide (L.getD (dL R (B.getD D 0) x).toNat 0=(x:Int)))=false:=k5
     refine ae aa ?_;refine ae aa ?_;refine ae aa ?_;refine nx (x+1,E,P,L,W,B,U,Q.set x (ff E (bF (E.getD D []) (G.getD x [])):Int)) ⟨aa,estep _ (by unfold ES Pw;rw [if_pos hm,if_neg (λ hc=>by rw [hc.2]at k5;cases k5)])⟩ (show G.length - (x+1)<G.length - x by omega) (by rw [sJ];repeat' first|refine ae ?_ ?_|exact ag|(show(_:Int)=(_:Int);omega)|omega|exact rfl|(simp only [RO.len];omega))
   ·have k4:(!(W.getD D []==[]))=false:=k4
    refine ae aa ?_;refine ae aa ?_;refine ae aa ?_;have DW:W.getD D []=[]:=by simpa using k4
    refine nx (x+1,E,P,L,W,B,U,Q.set x (ff E (bF (E.getD D []) (G.getD x [])):Int)) ⟨aa,estep _ (by unfold ES;rw [if_pos hm,if_neg (λ hc=>hc.1 DW)])⟩ (show G.length - (x+1)<G.length - x by omega) (by rw [sJ];repeat' first|refine ae ?_ ?_|exact ag|(show(_:Int)=(_:Int);omega)|omega|exact rfl|(simp only [RO.len];omega))
 ·have h4:(G.length:Int)<=(x:Int):=h4
  obtain rfl:x=G.length:=aa;have ez:z=⟨E,P,L,W,B,R++[Q],U,D+1,S,[]⟩:=by rw [<-hz];unfold Lq;rw [he]
  subst ez;refine ae (by rw [List.length_append,List.length_singleton];omega) ?_;refine ae aa ?_;refine ae ab ?_
  repeat' first|refine ae ?_ ?_|exact ag|(show(_:Int)=(_:Int);omega)|omega|exact rfl|(simp only [RO.len];omega)
end Go.Proofs.YtgailjhnfghkgaaGreatDoor
end
section
namespace Go.Proofs.YtgailjhnfghkgaaGreatDoor
open Go Go.AM
set_option maxRecDepth 100000
set_option maxHeartbeats 4000000
abbrev bgF(n:Nat)(G E:List (List Int))(P L:List Int)(W:List (List Int))(B:List Int)(R:List (List Int))(U:List (List Int × List Int))(D:Nat)(S:List Int):ai:=
 [(25,.box [.int .i64 n,.bool (.lit true),.ro (.rows .i64 G),.vec 501,.vec 502,.vec 503,.vec 504,.vec 505,.int .i64 D,.ptr 23 0,.vec 506,.vec 507,.vec 508]),(23,.map .str (some .i64) (cS E)),(501,.vec 0 (.rows .i64 E) []),(502,.vec 0 (.ints .i64 P) []),(503,.vec 0 (.ints .i64 L) []),(504,.vec 0 (.rows .i64 R) []),(505,.vec 0 (.dK U) []),(506,.vec 0 (.strs W) []),(507,.vec 0 (.ints .i64 B) []),(508,.vec 0 (.ints .i64 S) [])]
theorem PN(n:Nat)(G:List (List Int))(z:o6)(hG:∀f∈G,lu n f)(h1:1<=n)(h3:n<=3)(UD:0<G.length)(QU:G.length<=6)(hz:iz n G G.length=z):
  MF 100 [.ro (.rows .i64 G),.bool (.lit true)] [] (.cC [.ptr 25 0,.int .i64 0]) (bgF n G z.E z.P z.L z.W z.B z.R z.U z.D z.S):=tf Tryz.func100 (by decide+kernel) rfl (ah rfl) λ _=>by
 refine ae (λ h=>absurd (show(G.length:Int)=0 from h) aa) (λ _=>?_);refine ae (λ h=>absurd (show 6<(G.length:Int)from h) aa) (λ _=>?_);have hg0:=hG _ (an (d:=[]) UD);have tz:=hg0.len;have acO:(G.getD (Int.toNat 0) []).length=n:=hg0.len;refine ae aa ?_;refine af []<|lp (X:=Nat) (λ i=>[(41,.int .i64 i)]) (λ i=>[(25,.box [.int .i64 n,.bool (.lit true),.vec 67,.ao,.ao,.ao,.ao,.ao,.int .i64 0,.ptr 23 0,.ao,.ao,.ao]),(67,.vec 0 (.rows .i64 (G.take i)) [])]) (λ i=>i<=G.length) (λ i=>G.length - i) 0 (Nat.zero_le _) ab ?_
 intro i hi;refine ae (λ h4=>?_) (λ h4=>?_)
 ·have h4:(i:Int)<(G.length:Int):=h4
  have bL:i<G.length:=aa;have hgi:=hG _ (an (d:=[]) bL);have acP:=hgi.len;refine ae aa ?_;refine ae (λ h5=>absurd (show(((G.getD i []).length:Nat):Int)=(n:Int) by omega) h5) (λ _=>?_);refine Or.inl (cq (rM (G.getD i [])) (ae rfl ag) ?_);refine ae (λ h=>?_) (λ _=>?_)
  ·have h:(!vd (G.getD i []))=true:=h
   rw [hgi.YG h1 aa]at h;cases h
  have tL:(G.take i++[G.getD i []]).length=i+1:=by rw [List.length_append,List.length_take,List.length_singleton];omega
  have Zh:G.take i++[G.getD i []]=G.take (i+1):=by rw [List.take_add_one,List.getElem?_eq_getElem bL];simp [List.getD,bL]
  refine Or.inr (af (.fst 0 (.fst 1 (.fst 2 (.fst 3 (.fst 4 (.fst 6 (.br 5 (.br 7 (.br 8 (.br 9 (.fst 10 (.fst 11 (.fst 12 (.br 13 .done .no)))) .no) .no) .no) (.br 7 (.br 5 (.br 8 (.br 9 (.fst 10 (.fst 11 (.fst 12 (.br 13 .done .no)))) .no) .no) (.br 8 (.br 5 (.br 9 (.fst 10 (.fst 11 (.fst 12 (.br 13 .done .no)))) .no) .no) .no)) .no))))))) ) (ae (by decide+kernel) ?_));apply oW
  ·intro K1 hK
   repeat' first|exact ag|exact hK|refine Or.inl (cq (kR (G.getD i []) aa) (ae rfl ag) ?_)|refine ae aa ?_|refine ae ?_ ?_
  ·refine ae aa ?_
   refine nx (i+1) (show i+1<=G.length by omega) (show G.length - (i+1)<G.length - i by omega) (by repeat' first|refine ae ?_ ?_|exact ag|exact congrArg (RO.rows .i64) Zh|(show(_:Int)=(_:Int);omega)|omega|exact rfl)
 ·have h4:(G.length:Int)<=(i:Int):=h4
  obtain rfl:i=G.length:=aa;refine Or.inl (cq (H9 n h1 aa) (ae rfl ag) ?_);refine Or.inr (Or.inl (cm [67,79] [(1000,25),(1001,23),(501,501),(502,502),(503,503),(504,504),(505,505),(506,506),(507,507),(508,508)] (Ai n G [] [] [] [] [] [] [] 0 [] (cV n) [] (-1) (-1) (-1) (λ h=>by cases h) (by rw [bM];omega) (Nat.zero_le _) rfl rfl rfl rfl (λ x hx=>by have:=fQ.1 hx;omega)) ?_));refine ae (by repeat' first|refine ae ?_ ?_|exact ag|exact congrArg (RO.rows .i64) List.take_length|(show(_:Int)=(_:Int);omega)|omega|exact rfl) ?_
  refine af []<|Xp (λ(x:Nat) (_:List (List Int)) (_ _:List Int) (_:List (List Int)) (_:List Int) (_:List (List Int × List Int)) (_:List Int)=>[(87,.int .i64 x)])
   (λ _ E P L W B U S=>bgF n G E P L W B [] U 0 S)
   (λ x E P L W B U S=>x<=G.length/\iz n G x=⟨E,P,L,W,B,[],U,0,S,[]⟩) (λ x _ _ _ _ _ _ _=>G.length - x)
   0 [cV n] [-1] [-1] [[]] [-1] [] [] ⟨Nat.zero_le _,rfl⟩ ab ?_
  rintro x E P L W B U S ⟨hx,he⟩;have hW:=Lr hG x hx;have N3:=(Px (n:=n) (G:=G) x).2.1;rw [he]at hW N3;have N3:U.length<=x:=N3;have HH:E.length<=27:=qp h3 hW.nd hW.xA;have gb:P.length=E.length:=hW.pl;have ot:L.length=E.length:=hW.ll;have Ti:W.length=E.length:=hW.wl;have fp:B.length=E.length:=hW.bl;have gi:S.length=x:=hW.sl;refine ae (λ h5=>?_) (λ h5=>?_)
  ·have h5:(x:Int)<(G.length:Int):=h5
   have zf:x<G.length:=aa;have Wi:=hG _ (an (d:=[]) zf);have acQ:=Wi.len;have Cy:∀y∈G.getD x [],0<=y/\y<=255:=λ y hy=>by have:=Wi.w9 y hy;omega
   have estep:∀z:o6,U1 G ⟨E,P,L,W,B,[],U,0,S,[]⟩ x=z->iz n G (x+1)=z:=λ z hz=>by rw [<-hz,<-he];rfl
   refine ae aa ?_;refine ae aa ?_;refine ae (show(-2147483648:Int)<=97+(x:Int)/\97+(x:Int)<=2147483647 by omega) ?_;refine ae aa ?_;refine Or.inl ?_;refine af [false,false,false,false,false,false,false,false,false,false,false,false] (ae (by decide+kernel) ?_);refine cq (ve (G.getD x []) aa Cy) (ae rfl ag) ?_;refine ae (λ k1=>?_) (λ k1=>?_)
   ·have k1:(getM (cS E) (G.getD x [])).isSome=true:=k1
    have hm:G.getD x []∈E:=Classical.byContradiction λ hm=>by rw [di,if_neg hm]at k1;cases k1
    have Xh:=eR hm;have sJ:getM (cS E) (G.getD x [])=some (ff E (G.getD x []):Int):=by rw [di,if_pos hm]
    refine Or.inl ?_;refine af [false,false,false,false,false,false,false,false,false,false,false,false,false,false,false,false,true,false,false,false,true] (ae (by decide+kernel) ?_);refine ae (show 0<=(getM (cS E) (G.getD x [])).getD 0/\(getM (cS E) (G.getD x [])).getD 0<(W.length:Int) by rw [sJ];show 0<=(ff E _:Int)/\(ff E _:Int)<(W.length:Int);omega) ?_;refine ae (by rw [List.length_append,List.length_singleton];omega) ?_;refine ae (by rw [List.length_append,List.length_singleton];omega) ?_;refine ae aa ?_;refine nx (x+1,E,P,L,W,B,U++[(ER x,W.getD (ff E (G.getD x [])) [])],S++[(ff E (G.getD x []):Int)]) ⟨aa,estep _ (by unfold U1;rw [if_pos hm])⟩ (show G.length - (x+1)<G.length - x by omega) (by rw [sJ];repeat' first|refine ae ?_ ?_|exact ag|(show(_:Int)=(_:Int);omega)|omega|exact rfl|(simp only [RO.len];omega))
   ·have k1:(getM (cS E) (G.getD x [])).isSome=false:=k1
    have hm:G.getD x []∉E:=λ hm=>by rw [di,if_pos hm]at k1;cases k1
    refine Or.inl (cq (kR (G.getD x []) aa) (ae rfl ag) ?_);refine Or.inr (Or.inl (cm [129] [(1000,25),(1001,23),(501,501),(502,502),(503,503),(504,504),(505,505),(506,506),(507,507),(508,508)] (Ai n G E P L W B [] U 0 S (G.getD x []) (ER x) 0 (x:Int) 0 hm aa aa gb ot Ti fp Cy) ?_));refine ae ab ?_;refine ae (by rw [List.length_append,List.length_singleton];omega) ?_;refine ae aa ?_;refine nx (x+1,E++[G.getD x []],P++[0],L++[(x:Int)],W++[ER x],B++[0],U,S++[(E.length:Int)]) ⟨aa,estep _ (by unfold U1;rw [if_neg hm])⟩ (show G.length - (x+1)<G.length - x by omega) ab
  ·have h5:(G.length:Int)<=(x:Int):=h5
   obtain rfl:x=G.length:=aa;have ez:z=⟨E,P,L,W,B,[],U,0,S,[]⟩:=by rw [<-hz,he]
   subst ez;refine ae ab ?_
   repeat' first|refine ae ?_ ?_|exact ag|(show(_:Int)=(_:Int);omega)|omega|exact rfl|(simp only [RO.len];omega)
end Go.Proofs.YtgailjhnfghkgaaGreatDoor
end
section
namespace Go.Proofs.YtgailjhnfghkgaaGreatDoor
open Go Go.AM
set_option maxRecDepth 100000
set_option maxHeartbeats 4000000
abbrev rnK(n:Nat)(G E:List (List Int))(P L:List Int)(W:List (List Int))(B:List Int)(R:List (List Int))(U:List (List Int × List Int))(D:Nat)(S:List Int):ai:=
 [(600,.box [.int .i64 n,.bool (.lit true),.ro (.rows .i64 G),.vec 501,.vec 502,.vec 503,.vec 504,.vec 505,.int .i64 D,.ptr 601 0,.vec 506,.vec 507,.vec 508]),(601,.map .str (some .i64) (cS E)),(501,.vec 0 (.rows .i64 E) []),(502,.vec 0 (.ints .i64 P) []),(503,.vec 0 (.ints .i64 L) []),(504,.vec 0 (.rows .i64 R) []),(505,.vec 0 (.dK U) []),(506,.vec 0 (.strs W) []),(507,.vec 0 (.ints .i64 B) []),(508,.vec 0 (.ints .i64 S) [])]
def zh(n:Nat)(G:List (List Int))(j:Nat)(E:List (List Int))(P L:List Int)(W:List (List Int))(B:List Int)(R:List (List Int))(U:List (List Int × List Int))(S:List Int):Prop:=
 (∀i,i<j->(JQ n G i).D<(JQ n G i).E.length)/\JQ n G j=⟨E,P,L,W,B,R,U,j,S,[]⟩
abbrev enA(n:Nat)(G E:List (List Int))(P L:List Int)(R:List (List Int))(U:List (List Int × List Int))(D:Nat):AV:=
 .agg [.int .i64 n,.bool (.lit true),.ro (.rows .i64 G),.ro (.rows .i64 E),.ro (.ints .i64 P),.ro (.ints .i64 L),.ro (.rows .i64 R),.ro (.dK U),.int .i64 D]
section
variable{n:Nat}{G:List (List Int)}{j:Nat}{E:List (List Int)}{P L:List Int}{W:List (List Int)}{B:List Int}{R:List (List Int)}{U:List (List Int × List Int)}{S:List Int}
theorem zh.ok(hG:∀f∈G,lu n f)(h:zh n G j E P L W B R U S):oF n G G.length ⟨E,P,L,W,B,R,U,j,S,[]⟩:=by
 have:=(ET hG j h.1).1;rw [h.2]at this;exact this
theorem zh.tJ(hG:∀f∈G,lu n f)(hn:n<=3)(h:zh n G j E P L W B R U S):E.length<=27:=qp hn (h.ok hG).nd (h.ok hG).xA
theorem zh.ul(hG:∀f∈G,lu n f)(h:zh n G j E P L W B R U S):U.length<=G.length*(j+1):=by
 have:=(ET hG j h.1).2.2;rw [h.2]at this;exact this
theorem zh.next(hG:∀f∈G,lu n f)(h:zh n G j E P L W B R U S)(hj:j<E.length){z:o6}(hz:Lq G ⟨E,P,L,W,B,R,U,j,S,[]⟩=z):zh n G (j+1) z.E z.P z.L z.W z.B z.R z.U z.S/\z.D=j+1:=by
 have hd:=(Lu hG (h.ok hG) hj).2.1;have e:JQ n G (j+1)=z:=by rw [<-hz,<-h.2];rfl
 rw [hz]at hd;have hd:z.D=j+1:=hd;have hq:z.Q=[]:=by rw [<-hz];rfl
 refine⟨⟨λ i hi=>?_,?_⟩,hd⟩
 ·by_cases e:i=j
  ·rw [e,h.2];exact hj
  ·exact h.1 i aa
 ·rw [e,<-hd,<-hq]
theorem zh.start(hG:∀f∈G,lu n f){z:o6}(hz:iz n G G.length=z):zh n G 0 z.E z.P z.L z.W z.B z.R z.U z.S/\z.D=0:=by
 obtain⟨h1,_,_,h4⟩:=Px (n:=n) (G:=G) G.length;rw [hz]at h1 h4;refine⟨⟨λ i hi=>absurd hi (Nat.not_lt_zero _),?_⟩,h1⟩;show iz n G G.length=_;rw [hz];obtain⟨E,P,L,W,B,R,U,D,S,Q⟩:=z;have h1:D=0:=h1;have h4:Q=[]:=h4;subst h1;subst h4;rfl
end
theorem PO(n:Nat)(G:List (List Int))(hG:∀f∈G,lu n f)(h1:1<=n)(h3:n<=3)(UD:0<G.length)(QU:G.length<=6):
  EF 58 [.ro (.rows .i64 G),.bool (.lit true)] (Xk λ E P L R U D=>.cC [enA n G E P L R U D,.int .i64 0])
   (Xk λ E P L R U D=>D=E.length/\∃W B S,zh n G D E P L W B R U S):=HG Tryz.func58 (by decide+kernel) rfl (ah rfl) λ _=>by
 obtain⟨c8,Wj⟩:=zh.start hG (n:=n) (rfl:iz n G G.length=iz n G G.length);have Ts:=PN n G _ hG h1 h3 UD QU (rfl:iz n G G.length=iz n G G.length);rw [Wj]at Ts;generalize iz n G G.length=z at c8 Ts;refine Or.inr (Or.inl (cm [] [(25,600),(23,601),(501,501),(502,502),(503,503),(504,504),(505,505),(506,506),(507,507),(508,508)] Ts ?_));refine ae ab ?_;refine ae (λ h=>absurd rfl h) (λ _=>?_)
 refine af []<|lp9 (λ(_:Nat) (_:List (List Int)) (_ _:List Int) (_:List (List Int)) (_:List Int) (_:List (List Int)) (_:List (List Int × List Int)) (_:List Int)=>[])
  (λ j E P L W B R U S=>rnK n G E P L W B R U j S) (λ j E P L W B R U S=>zh n G j E P L W B R U S) (λ j _ _ _ _ _ _ _ _=>28 - j)
  0 z.E z.P z.L z.W z.B z.R z.U z.S c8 ab ?_
 intro j E P L W B R U S hR;have hV:=hR.ok hG;have HH:=hR.tJ hG h3;have N3:=hR.ul hG;have oy:j<=E.length:=hV.dl;refine Or.inr (Or.inl (cm [] [(1000,600),(1001,601),(501,501),(502,502),(503,503),(504,504),(505,505),(506,506),(507,507),(508,508)] (PL n G E P L W B R U j S) ?_));refine ae ab ?_;refine ae (λ h4=>?_) (λ h4=>?_)
 ·have h4:(j:Int)≠(E.length:Int):=h4
  have hj:j<E.length:=aa;have N3:U.length<=4096:=Nat.le_trans N3 (Nat.le_trans (Nat.mul_le_mul QU (show j+1<=28 by omega)) (by decide));obtain⟨hn,hzd⟩:=hR.next hG hj rfl;have UC:=LI n G E P L W B R U j S _ hG h1 h3 QU hV hj N3 rfl;rw [hzd]at UC;generalize Lq G ⟨E,P,L,W,B,R,U,j,S,[]⟩=z1 at hn UC;refine Or.inr (Or.inl (cm [] [(1000,600),(1001,601),(501,501),(502,502),(503,503),(504,504),(505,505),(506,506),(507,507),(508,508)] UC ?_));refine ae ab ?_;refine ae (λ h=>absurd rfl h) (λ _=>?_);exact nx (j+1,z1.E,z1.P,z1.L,z1.W,z1.B,z1.R,z1.U,z1.S) hn (show 28 - (j+1)<28 - j by omega) ab
 ·have h4:(j:Int)=(E.length:Int):=h4
  have hjE:j=E.length:=aa;refine af (E,P,L,R,U,j) (ae ⟨hjE,W,B,S,hR⟩ ?_)
  repeat' first|refine ae ?_ ?_|exact ag|(show(_:Int)=(_:Int);omega)|omega|exact rfl|(simp only [RO.len];omega)
end Go.Proofs.YtgailjhnfghkgaaGreatDoor
end
section
namespace Go.Proofs.YtgailjhnfghkgaaGreatDoor
open Go Go.AM
set_option maxRecDepth 100000
set_option maxHeartbeats 4000000
abbrev dc(E:List (List Int))(i j:Nat):Int:=(ff E (bF (E.getD i []) (E.getD j [])):Int)
theorem jc(E:List (List Int)):(dZ E).length=E.length:=by simp [dZ]
theorem vL{E:List (List Int)}{i:Nat}(hi:i<E.length):(dZ E).getD i []=E.map λ g=>(ff E (bF (E.getD i []) g):Int):=by
 simp [dZ,List.getD,hi]
theorem LJ{E:List (List Int)}{i j:Nat}(hi:i<E.length)(hj:j<E.length):((dZ E).getD i []).getD j 0=dc E i j:=by
 rw [vL hi];simp [dc,List.getD,hj]
end Go.Proofs.YtgailjhnfghkgaaGreatDoor
end
