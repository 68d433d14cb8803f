import Derived.Test.YtjabhmhhhlcopaaGreatDoorEnA
section
namespace Go.Proofs.YtjabhmhhhlcopaaGreatDoor
open Go Go.AM
set_option maxRecDepth 100000
set_option maxHeartbeats 2000000
abbrev rnS (n:Nat) (G E:List (List Int)) (P L:List Int) (W:List (List Int)) (B:List Int) (R:List (List Int)) (U:List (List Int × List Int)) (D:Nat) (S:List Int):Store:=
  [(1000,.box [.int .i64 n,.bool (.lit true),.ro (.rows .i64 G),.vec 501,.vec 502,.vec 503,.vec 504,.vec 505,.int .i64 D,.ptr 1001 0,.vec 506,.vec 507,.vec 508]),(1001,.map .str (some .i64) (mapO E)),(501,.vec 0 (.rows .i64 E) []),(502,.vec 0 (.ints .i64 P) []),(503,.vec 0 (.ints .i64 L) []),(504,.vec 0 (.rows .i64 R) []),(505,.vec 0 (.ruls U) []),(506,.vec 0 (.strs W) []),(507,.vec 0 (.ints .i64 B) []),(508,.vec 0 (.ints .i64 S) [])]
theorem efin_fn (n:Nat) (G E:List (List Int)) (P L:List Int) (W:List (List Int)) (B:List Int) (R:List (List Int)) (U:List (List Int × List Int)) (D:Nat) (S:List Int):MF 76 [.ptr 1000 0] (rnS n G E P L W B R U D S) (.bool (.eq (D:Int) (E.length:Int))) (rnS n G E P L W B R U D S):=mkM Tryz.func76 (by decide+kernel) rfl (Nat.le_of_ble_eq_true rfl) fun _=>by
  refine Or.inl ?_
  refine Exists.intro [false,false,false,false,false,false,false,false,false,false,false,false,false] (And.intro (by decide+kernel) ?_)
  refine And.intro (by repeat' first|refine And.intro ?_ ?_|exact True.intro|(show (_:Int)=(_:Int);omega)|omega|exact rfl|(simp only [RO.len];omega)) ?_
  repeat' first|refine And.intro ?_ ?_|exact True.intro|(show (_:Int)=(_:Int);omega)|omega|exact rfl|(simp only [RO.len];omega)
theorem eaft_fn (n:Nat) (G E:List (List Int)) (P L:List Int) (W:List (List Int)) (B:List Int) (R:List (List Int)) (U:List (List Int × List Int)) (D:Nat) (S:List Int) (b:Int) (x:Nat) (hb:0≤b∧b<(R.length:Int)) (hx:(x:Int)<((R.getD b.toNat []).length:Int)):
    MF 147 [.ptr 1000 0,.int .i64 b,.int .i64 x] (rnS n G E P L W B R U D S) (.int .i64 (aftE R b x)) (rnS n G E P L W B R U D S):=mkM Tryz.func147 (by decide+kernel) rfl (Nat.le_of_ble_eq_true rfl) fun _=>by
  refine And.intro (fun h1=>absurd (show b= -1 from h1) (by omega)) (fun h1=>?_)
  refine And.intro hb ?_
  refine And.intro (by omega) ?_
  refine And.intro (by repeat' first|refine And.intro ?_ ?_|exact True.intro|(show (_:Int)=(_:Int);omega)|omega|exact rfl|(simp only [RO.len];omega)) ?_
  repeat' first|refine And.intro ?_ ?_|exact True.intro|(show (_:Int)=(_:Int);omega)|omega|exact rfl|(simp only [RO.len];omega)
theorem ered_fn (n:Nat) (G E:List (List Int)) (P L:List Int) (W:List (List Int)) (B:List Int) (R:List (List Int)) (U:List (List Int × List Int)) (D:Nat) (S:List Int) (b:Int) (x:Nat) (hb:0≤b∧b<(R.length:Int)) (hx:(x:Int)<((R.getD b.toNat []).length:Int)) (ha:0≤aftE R b x∧aftE R b x<(P.length:Int)) (hl:L.length=P.length):
    MF 148 [.ptr 1000 0,.int .i64 b,.int .i64 x] (rnS n G E P L W B R U D S) (.bool (.v (decide (P.getD (aftE R b x).toNat 0=b)&&decide (L.getD (aftE R b x).toNat 0=(x:Int))))) (rnS n G E P L W B R U D S):=mkM Tryz.func148 (by decide+kernel) rfl (Nat.le_of_ble_eq_true rfl) fun _=>by
  refine Or.inr (Or.inl (cm [] [(1000,1000),(1001,1001),(501,501),(502,502),(503,503),(504,504),(505,505),(506,506),(507,507),(508,508)] (eaft_fn n G E P L W B R U D S b x hb hx) ?_))
  refine And.intro (by repeat' first|refine And.intro ?_ ?_|exact True.intro|(show (_:Int)=(_:Int);omega)|omega|exact rfl|(simp only [RO.len];omega)) ?_
  refine And.intro (by omega) ?_
  refine And.intro (fun h1=>?_) (fun h1=>?_)
  · have h1:P.getD (aftE R b x).toNat 0=b:=h1
    refine And.intro (by omega) ?_
    refine And.intro (by repeat' first|refine And.intro ?_ ?_|exact True.intro|(show (_:Int)=(_:Int);omega)|omega|exact rfl|(simp only [RO.len];omega)) ?_
    show decide (L.getD (aftE R b x).toNat 0=(x:Int))=(decide (P.getD (aftE R b x).toNat 0=b)&&decide (L.getD (aftE R b x).toNat 0=(x:Int)))
    rw [decide_eq_true h1,Bool.true_and]
  · have h1:P.getD (aftE R b x).toNat 0≠b:=h1
    refine And.intro (by repeat' first|refine And.intro ?_ ?_|exact True.intro|(show (_:Int)=(_:Int);omega)|omega|exact rfl|(simp only [RO.len];omega)) ?_
    show false=(decide (P.getD (aftE R b x).toNat 0=b)&&decide (L.getD (aftE R b x).toNat 0=(x:Int)))
    rw [decide_eq_false h1,Bool.false_and]
theorem eadd_fn (n:Nat) (G E:List (List Int)) (P L:List Int) (W:List (List Int)) (B:List Int) (R:List (List Int)) (U:List (List Int × List Int)) (D:Nat) (S:List Int) (f w:List Int) (p l b:Int) (hf:f∉E) (hfl:f.length≤32) (hfe:E.length≤4096) (hpl:P.length=E.length) (hll:L.length=E.length) (hwl:W.length=E.length) (hbl:B.length=E.length) (hfb:∀x∈f,0≤x∧x≤255):
    MF 143 [.ptr 1000 0,.ro (.ints .i64 f),.int .i64 p,.int .i64 l,.str w,.int .i64 b] (rnS n G E P L W B R U D S) (.int .i64 E.length) (rnS n G (E++[f]) (P++[p]) (L++[l]) (W++[w]) (B++[b]) R U D S):=mkM Tryz.func143 (by decide+kernel) rfl (Nat.le_of_ble_eq_true rfl) fun _=>by
  refine Or.inl ?_
  refine Exists.intro [false,false,false,false,false,false,false,true] (And.intro (by decide+kernel) ?_)
  refine cq (etext_fn f hfl hfb) (And.intro rfl trivial) ?_
  refine And.intro (by rw [List.length_append,List.length_singleton];omega) ?_
  refine And.intro (by rw [List.length_append,List.length_singleton];omega) ?_
  refine And.intro (by rw [List.length_append,List.length_singleton];omega) ?_
  refine And.intro (by rw [List.length_append,List.length_singleton];omega) ?_
  refine And.intro (by rw [List.length_append,List.length_singleton];omega) ?_
  refine And.intro (by repeat' first|refine And.intro ?_ ?_|exact True.intro|exact setM_mapO hf|(show (_:Int)=(_:Int);omega)|omega|exact rfl) ?_
  repeat' first|refine And.intro ?_ ?_|exact True.intro|(show (_:Int)=(_:Int);omega)|omega|exact rfl|(simp only [RO.len];omega)
end Go.Proofs.YtjabhmhhhlcopaaGreatDoor
end
section
namespace Go.Proofs.YtjabhmhhhlcopaaGreatDoor
open Go Go.AM
set_option maxRecDepth 100000
set_option maxHeartbeats 4000000
theorem eproc_fn (n:Nat) (G E0:List (List Int)) (P0 L0:List Int) (W0:List (List Int)) (B0:List Int) (R:List (List Int)) (U0:List (List Int × List Int)) (D:Nat) (S:List Int) (z:EnS)
    (hG:∀f∈G,Trn n f) (h1:1≤n) (h3:n≤3) (hGl:G.length≤6) (hV:EnV n G G.length ⟨E0,P0,L0,W0,B0,R,U0,D,S,[]⟩) (hD:D<E0.length) (hU:U0.length≤4096) (hz:enP G ⟨E0,P0,L0,W0,B0,R,U0,D,S,[]⟩=z):
    MF 77 [.ptr 1000 0] (rnS n G E0 P0 L0 W0 B0 R U0 D S) (.int .i64 0) (rnS n G z.E z.P z.L z.W z.B z.R z.U z.D z.S):=mkM Tryz.func77 (by decide+kernel) rfl (Nat.le_of_ble_eq_true rfl) fun _=>by
  refine And.intro (by omega) ?_
  refine And.intro (by omega) ?_
  refine Exists.intro []<|lp8 (fun (x:Nat) (_:List (List Int)) (_ _:List Int) (_:List (List Int)) (_:List Int) (_:List (List Int × List Int)) (_:List Int)=>[(29,.int .i64 x)])
    (fun _ E P L W B U Q=>rnS n G E P L W B R U D S++[(22,.vec 0 (.ints .i64 Q) [])])
    (fun x E P L W B U Q=>x≤G.length∧enXs G ⟨E0,P0,L0,W0,B0,R,U0,D,S,[]⟩ x=⟨E,P,L,W,B,R,U,D,S,Q⟩) (fun x _ _ _ _ _ _ _=>G.length - x)
    0 E0 P0 L0 W0 B0 U0 (List.replicate G.length 0) ⟨Nat.zero_le _,rfl⟩ (by repeat' first|refine And.intro ?_ ?_|exact True.intro|(show (_:Int)=(_:Int);omega)|omega|exact rfl|(simp only [RO.len];omega)) ?_
  rintro x E P L W B U Q ⟨hx,he⟩
  have hall:=enXs_ok hG hV hD x hx
  rw [he] at hall
  obtain ⟨hQ,_,hEl,hUl,_,_,hW⟩:=hall
  have hql:Q.length=G.length:=hQ.ql
  have hfew:E.length≤27:=trns_few h3 hW.nd hW.trn
  have hpl:P.length=E.length:=hW.pl
  have hll:L.length=E.length:=hW.ll
  have hwl:W.length=E.length:=hW.wl
  have hbl:B.length=E.length:=hW.bl
  have hrl:R.length=D:=hW.rl
  have hEl:E0.length≤E.length:=hEl
  have hUl:U.length≤U0.length+x:=hUl
  refine And.intro (fun h4=>?_) (fun h4=>?_)
  · have h4:(x:Int)<(G.length:Int):=h4
    have hxl:x<G.length:=by omega
    have hDl:D<E.length:=Nat.lt_of_lt_of_le hD hEl
    have hgx:=hG _ (getD_mem (d:=[]) hxl)
    have hED:Trn n (E.getD D []):=hW.trn _ (getD_mem (d:=[]) hDl)
    refine And.intro (by omega) ?_
    refine And.intro (by omega) ?_
    have hf:=hED.cmp hgx
    have hfl:=hf.len
    have hbyte:∀y∈cmpP (E.getD D []) (G.getD x []),0≤y∧y≤255:=fun y hy=>by have:=hf.rng y hy;omega
    refine Or.inl (cq (ecomp_fn (E.getD D []) (G.getD x []) n h1 (by omega) hED hgx) (And.intro rfl (And.intro rfl trivial)) ?_)
    refine Or.inl ?_
    refine Exists.intro [false,false,false,false,false,false,false,false,false,false,false,false] (And.intro (by decide+kernel) ?_)
    refine cq (etext_fn (cmpP (E.getD D []) (G.getD x [])) (by omega) hbyte) (And.intro rfl trivial) ?_
    refine And.intro (by omega) ?_
    refine And.intro (by omega) ?_
    refine And.intro (show (-2147483648:Int)≤97+(x:Int)∧97+(x:Int)≤2147483647 by omega) ?_
    refine And.intro (by omega) ?_
    refine And.intro (show (W.getD D []).length+[97+(x:Int)].length≤17592186044416 by have:(W.getD D []).length≤D:=hW.wd D hDl;rw [List.length_singleton];omega) ?_
    have estep:∀z:EnS,enX G ⟨E,P,L,W,B,R,U,D,S,Q⟩ x=z→enXs G ⟨E0,P0,L0,W0,B0,R,U0,D,S,[]⟩ (x+1)=z:=fun z hz=>by rw [←hz,←he];rfl
    refine And.intro (fun k1=>?_) (fun k1=>?_)
    · have k1:(!(getM (mapO E) (cmpP (E.getD D []) (G.getD x []))).isSome)=true:=k1
      have hm:cmpP (E.getD D []) (G.getD x [])∉E:=fun hm=>by rw [getM_mapO,if_pos hm] at k1;cases k1
      obtain ⟨_,hD0,hb0,hb1,ha0,ha1⟩:=hW.mul hG hDl hxl hm
      have hD0:0<D:=hD0
      have hb0:0≤B.getD D 0:=hb0
      have hb1:B.getD D 0<(D:Int):=hb1
      have hrow:(R.getD (B.getD D 0).toNat []).length=G.length:=(hW.row (B.getD D 0).toNat (show (B.getD D 0).toNat<D by omega)).1
      refine And.intro (fun k2=>absurd (show (E.length:Int)=2000 from k2) (by omega)) (fun _=>?_)
      refine And.intro (fun _=>?_) (fun k3=>?_)
      · refine And.intro (by omega) ?_
        refine Or.inr (Or.inl (cm [] [(1000,1000),(1001,1001),(501,501),(502,502),(503,503),(504,504),(505,505),(506,506),(507,507),(508,508)] (eaft_fn n G E P L W B R U D S (B.getD D 0) x ⟨hb0,by omega⟩ (by omega)) ?_))
        refine And.intro (by repeat' first|refine And.intro ?_ ?_|exact True.intro|(show (_:Int)=(_:Int);omega)|omega|exact rfl|(simp only [RO.len];omega)) ?_
        refine Or.inr (Or.inl (cm [43] [(1000,1000),(1001,1001),(501,501),(502,502),(503,503),(504,504),(505,505),(506,506),(507,507),(508,508)] (eadd_fn n G E P L W B R U D S (cmpP (E.getD D []) (G.getD x [])) (W.getD D []++ltr x) (D:Int) (x:Int) (aftE R (B.getD D 0) x) hm (by omega) (by omega) hpl hll hwl hbl hbyte) ?_))
        refine And.intro (by repeat' first|refine And.intro ?_ ?_|exact True.intro|(show (_:Int)=(_:Int);omega)|omega|exact rfl|(simp only [RO.len];omega)) ?_
        refine And.intro (by omega) ?_
        refine And.intro (by omega) ?_
        refine And.intro (by omega) ?_
        refine nx (x+1,E++[cmpP (E.getD D []) (G.getD x [])],P++[(D:Int)],L++[(x:Int)],W++[W.getD D []++ltr x],B++[aftE R (B.getD D 0) x],U,Q.set x (E.length:Int)) ⟨by omega,estep _ (by unfold enX;rw [if_neg hm])⟩ (show G.length - (x+1)<G.length - x by omega) (by repeat' first|refine And.intro ?_ ?_|exact True.intro|(show (_:Int)=(_:Int);omega)|omega|exact rfl|(simp only [RO.len];omega))
      · have k3:(!(getM (mapO E) (cmpP (E.getD D []) (G.getD x []))).isSome)=false:=k3
        rw [k3] at k1;cases k1
    · have k1:(!(getM (mapO E) (cmpP (E.getD D []) (G.getD x []))).isSome)=false:=k1
      have hm:cmpP (E.getD D []) (G.getD x [])∈E:=Classical.byContradiction fun hm=>by rw [getM_mapO,if_neg hm] at k1;cases k1
      have hix:=ixO_mem hm
      have hgm:getM (mapO E) (cmpP (E.getD D []) (G.getD x []))=some (ixO E (cmpP (E.getD D []) (G.getD x [])):Int):=by rw [getM_mapO,if_pos hm]
      refine And.intro (fun k3=>?_) (fun _=>?_)
      · have k3:(!(getM (mapO E) (cmpP (E.getD D []) (G.getD x []))).isSome)=true:=k3
        rw [k3] at k1;cases k1
      refine And.intro (by omega) ?_
      refine And.intro (fun k4=>?_) (fun k4=>?_)
      · have k4:(!(W.getD D []==[]))=true:=k4
        have hw0:W.getD D []≠[]:=fun e=>by rw [e] at k4;cases k4
        obtain ⟨hb0,hb1,ha0,ha1⟩:=hW.red hDl hxl hw0
        have hb0:0≤B.getD D 0:=hb0
        have hb1:B.getD D 0<(D:Int):=hb1
        have ha0:0≤aftE R (B.getD D 0) x:=ha0
        have ha1:aftE R (B.getD D 0) x<(E.length:Int):=ha1
        have hrow:(R.getD (B.getD D 0).toNat []).length=G.length:=(hW.row (B.getD D 0).toNat (show (B.getD D 0).toNat<D by omega)).1
        refine And.intro (by omega) ?_
        refine Or.inr (Or.inl (cm [] [(1000,1000),(1001,1001),(501,501),(502,502),(503,503),(504,504),(505,505),(506,506),(507,507),(508,508)] (ered_fn n G E P L W B R U D S (B.getD D 0) x ⟨hb0,by omega⟩ (by omega) ⟨ha0,by omega⟩ (by omega)) ?_))
        refine And.intro (by repeat' first|refine And.intro ?_ ?_|exact True.intro|(show (_:Int)=(_:Int);omega)|omega|exact rfl|(simp only [RO.len];omega)) ?_
        refine And.intro (fun k5=>?_) (fun k5=>?_)
        · have k5:(decide (P.getD (aftE R (B.getD D 0) x).toNat 0=B.getD D 0)&&decide (L.getD (aftE R (B.getD D 0) x).toNat 0=(x:Int)))=true:=k5
          refine Or.inl ?_
          refine Exists.intro [false,false,false,false,false,false,false,false,false,false,false,false,false,false,false,false,true,false,false,false,true] (And.intro (by decide+kernel) ?_)
          refine And.intro (show 0≤(getM (mapO E) (cmpP (E.getD D []) (G.getD x []))).getD 0∧(getM (mapO E) (cmpP (E.getD D []) (G.getD x []))).getD 0<(W.length:Int) by rw [hgm];show 0≤(ixO E _:Int)∧(ixO E _:Int)<(W.length:Int);omega) ?_
          refine And.intro (by rw [List.length_append,List.length_singleton];omega) ?_
          refine And.intro (by omega) ?_
          refine And.intro (by omega) ?_
          refine And.intro (by omega) ?_
          refine nx (x+1,E,P,L,W,B,U++[(W.getD D []++ltr x,W.getD (ixO E (cmpP (E.getD D []) (G.getD x []))) [])],Q.set x (ixO E (cmpP (E.getD D []) (G.getD x [])):Int)) ⟨by omega,estep _ (by unfold enX redB;rw [if_pos hm,if_pos ⟨hw0,k5⟩])⟩ (show G.length - (x+1)<G.length - x by omega) (by rw [hgm];repeat' first|refine And.intro ?_ ?_|exact True.intro|(show (_:Int)=(_:Int);omega)|omega|exact rfl|(simp only [RO.len];omega))
        · have k5:(decide (P.getD (aftE R (B.getD D 0) x).toNat 0=B.getD D 0)&&decide (L.getD (aftE R (B.getD D 0) x).toNat 0=(x:Int)))=false:=k5
          refine And.intro (by omega) ?_
          refine And.intro (by omega) ?_
          refine And.intro (by omega) ?_
          refine nx (x+1,E,P,L,W,B,U,Q.set x (ixO E (cmpP (E.getD D []) (G.getD x [])):Int)) ⟨by omega,estep _ (by unfold enX redB;rw [if_pos hm,if_neg (fun hc=>by rw [hc.2] at k5;cases k5)])⟩ (show G.length - (x+1)<G.length - x by omega) (by rw [hgm];repeat' first|refine And.intro ?_ ?_|exact True.intro|(show (_:Int)=(_:Int);omega)|omega|exact rfl|(simp only [RO.len];omega))
      · have k4:(!(W.getD D []==[]))=false:=k4
        refine And.intro (by omega) ?_
        refine And.intro (by omega) ?_
        refine And.intro (by omega) ?_
        have hw0:W.getD D []=[]:=by simpa using k4
        refine nx (x+1,E,P,L,W,B,U,Q.set x (ixO E (cmpP (E.getD D []) (G.getD x [])):Int)) ⟨by omega,estep _ (by unfold enX;rw [if_pos hm,if_neg (fun hc=>hc.1 hw0)])⟩ (show G.length - (x+1)<G.length - x by omega) (by rw [hgm];repeat' first|refine And.intro ?_ ?_|exact True.intro|(show (_:Int)=(_:Int);omega)|omega|exact rfl|(simp only [RO.len];omega))
  · have h4:(G.length:Int)≤(x:Int):=h4
    obtain rfl:x=G.length:=by omega
    have ez:z=⟨E,P,L,W,B,R++[Q],U,D+1,S,[]⟩:=by rw [←hz];unfold enP;rw [he]
    subst ez
    refine And.intro (by rw [List.length_append,List.length_singleton];omega) ?_
    refine And.intro (by omega) ?_
    refine And.intro (by repeat' first|refine And.intro ?_ ?_|exact True.intro|(show (_:Int)=(_:Int);omega)|omega|exact rfl|(simp only [RO.len];omega)) ?_
    repeat' first|refine And.intro ?_ ?_|exact True.intro|(show (_:Int)=(_:Int);omega)|omega|exact rfl|(simp only [RO.len];omega)
end Go.Proofs.YtjabhmhhhlcopaaGreatDoor
end
section
namespace Go.Proofs.YtjabhmhhhlcopaaGreatDoor
open Go Go.AM
set_option maxRecDepth 100000
set_option maxHeartbeats 4000000
abbrev bgF (n:Nat) (G E:List (List Int)) (P L:List Int) (W:List (List Int)) (B:List Int) (R:List (List Int)) (U:List (List Int × List Int)) (D:Nat) (S:List Int):Store:=
  [(25,.box [.int .i64 n,.bool (.lit true),.ro (.rows .i64 G),.vec 501,.vec 502,.vec 503,.vec 504,.vec 505,.int .i64 D,.ptr 23 0,.vec 506,.vec 507,.vec 508]),(23,.map .str (some .i64) (mapO E)),(501,.vec 0 (.rows .i64 E) []),(502,.vec 0 (.ints .i64 P) []),(503,.vec 0 (.ints .i64 L) []),(504,.vec 0 (.rows .i64 R) []),(505,.vec 0 (.ruls U) []),(506,.vec 0 (.strs W) []),(507,.vec 0 (.ints .i64 B) []),(508,.vec 0 (.ints .i64 S) [])]
theorem ebeg_fn (n:Nat) (G:List (List Int)) (z:EnS) (hG:∀f∈G,Trn n f) (h1:1≤n) (h3:n≤3) (hG0:0<G.length) (hGl:G.length≤6) (hz:bgXs n G G.length=z):
    MF 75 [.ro (.rows .i64 G),.bool (.lit true)] [] (.tup [.ptr 25 0,.int .i64 0]) (bgF n G z.E z.P z.L z.W z.B z.R z.U z.D z.S):=mkM Tryz.func75 (by decide+kernel) rfl (Nat.le_of_ble_eq_true rfl) fun _=>by
  refine And.intro (fun h=>absurd (show (G.length:Int)=0 from h) (by omega)) (fun _=>?_)
  refine And.intro (fun h=>absurd (show 6<(G.length:Int) from h) (by omega)) (fun _=>?_)
  have hg0:=hG _ (getD_mem (d:=[]) hG0)
  have hgl:=hg0.len
  have hgl':(G.getD (Int.toNat 0) []).length=n:=hg0.len
  refine And.intro (by omega) ?_
  refine Exists.intro []<|lp (X:=Nat) (fun i=>[(41,.int .i64 i)]) (fun i=>[(25,.box [.int .i64 n,.bool (.lit true),.vec 67,.nils,.nils,.nils,.nils,.nils,.int .i64 0,.ptr 23 0,.nils,.nils,.nils]),(67,.vec 0 (.rows .i64 (G.take i)) [])]) (fun i=>i≤G.length) (fun i=>G.length - i) 0 (Nat.zero_le _) (by repeat' first|refine And.intro ?_ ?_|exact True.intro|(show (_:Int)=(_:Int);omega)|omega|exact rfl|(simp only [RO.len];omega)) ?_
  intro i hi
  refine And.intro (fun h4=>?_) (fun h4=>?_)
  · have h4:(i:Int)<(G.length:Int):=h4
    have hil:i<G.length:=by omega
    have hgi:=hG _ (getD_mem (d:=[]) hil)
    have hgil:=hgi.len
    refine And.intro (by omega) ?_
    refine And.intro (fun h5=>absurd (show (((G.getD i []).length:Nat):Int)=(n:Int) by omega) h5) (fun _=>?_)
    refine Or.inl (cq (tvalid_fn (G.getD i [])) (And.intro rfl trivial) ?_)
    refine And.intro (fun h=>?_) (fun _=>?_)
    · have h:(!vldB (G.getD i []))=true:=h
      rw [hgi.vld h1 (by omega)] at h;cases h
    have htk:(G.take i++[G.getD i []]).length=i+1:=by rw [List.length_append,List.length_take,List.length_singleton];omega
    have htk2:G.take i++[G.getD i []]=G.take (i+1):=by rw [List.take_add_one,List.getElem?_eq_getElem hil];simp [List.getD,hil]
    refine Or.inr (Exists.intro (.fst 0 (.fst 1 (.fst 2 (.fst 3 (.fst 4 (.fst 6 (.br 5 (.br 7 (.br 8 (.br 9 (.fst 10 (.fst 11 (.fst 12 (.br 13 .done .no)))) .no) .no) .no) (.br 7 (.br 5 (.br 8 (.br 9 (.fst 10 (.fst 11 (.fst 12 (.br 13 .done .no)))) .no) .no) (.br 8 (.br 5 (.br 9 (.fst 10 (.fst 11 (.fst 12 (.br 13 .done .no)))) .no) .no) .no)) .no))))))) ) (And.intro (by decide+kernel) ?_))
    apply schShr
    · intro K1 hK
      repeat' first|exact trivial|exact hK|refine Or.inl (cq (cloneI_fn (G.getD i []) (by omega)) (And.intro rfl trivial) ?_)|refine And.intro (by omega) ?_|refine And.intro ?_ ?_
    · refine And.intro (by omega) ?_
      refine nx (i+1) (show i+1≤G.length by omega) (show G.length - (i+1)<G.length - i by omega) (by repeat' first|refine And.intro ?_ ?_|exact True.intro|exact congrArg (RO.rows .i64) htk2|(show (_:Int)=(_:Int);omega)|omega|exact rfl)
  · have h4:(G.length:Int)≤(i:Int):=h4
    obtain rfl:i=G.length:=by omega
    refine Or.inl (cq (tident_fn n h1 (by omega)) (And.intro rfl trivial) ?_)
    refine Or.inr (Or.inl (cm [67,79] [(1000,25),(1001,23),(501,501),(502,502),(503,503),(504,504),(505,505),(506,506),(507,507),(508,508)] (eadd_fn n G [] [] [] [] [] [] [] 0 [] (disI n) [] (-1) (-1) (-1) (fun h=>by cases h) (by rw [disI_len];omega) (Nat.zero_le _) rfl rfl rfl rfl (fun x hx=>by have:=mem_disI.1 hx;omega)) ?_))
    refine And.intro (by repeat' first|refine And.intro ?_ ?_|exact True.intro|exact congrArg (RO.rows .i64) List.take_length|(show (_:Int)=(_:Int);omega)|omega|exact rfl) ?_
    refine Exists.intro []<|lp8 (fun (x:Nat) (_:List (List Int)) (_ _:List Int) (_:List (List Int)) (_:List Int) (_:List (List Int × List Int)) (_:List Int)=>[(87,.int .i64 x)])
      (fun _ E P L W B U S=>bgF n G E P L W B [] U 0 S)
      (fun x E P L W B U S=>x≤G.length∧bgXs n G x=⟨E,P,L,W,B,[],U,0,S,[]⟩) (fun x _ _ _ _ _ _ _=>G.length - x)
      0 [disI n] [-1] [-1] [[]] [-1] [] [] ⟨Nat.zero_le _,rfl⟩ (by repeat' first|refine And.intro ?_ ?_|exact True.intro|(show (_:Int)=(_:Int);omega)|omega|exact rfl|(simp only [RO.len];omega)) ?_
    rintro x E P L W B U S ⟨hx,he⟩
    have hW:=bg_ok hG x hx
    have hUl:=(bg_D (n:=n) (G:=G) x).2.1
    rw [he] at hW hUl
    have hUl:U.length≤x:=hUl
    have hfew:E.length≤27:=trns_few h3 hW.nd hW.trn
    have hpl:P.length=E.length:=hW.pl
    have hll:L.length=E.length:=hW.ll
    have hwl:W.length=E.length:=hW.wl
    have hbl:B.length=E.length:=hW.bl
    have hsl:S.length=x:=hW.sl
    refine And.intro (fun h5=>?_) (fun h5=>?_)
    · have h5:(x:Int)<(G.length:Int):=h5
      have hxl:x<G.length:=by omega
      have hgx:=hG _ (getD_mem (d:=[]) hxl)
      have hgxl:=hgx.len
      have hbyte:∀y∈G.getD x [],0≤y∧y≤255:=fun y hy=>by have:=hgx.rng y hy;omega
      have estep:∀z:EnS,bgX G ⟨E,P,L,W,B,[],U,0,S,[]⟩ x=z→bgXs n G (x+1)=z:=fun z hz=>by rw [←hz,←he];rfl
      refine And.intro (by omega) ?_
      refine And.intro (by omega) ?_
      refine And.intro (show (-2147483648:Int)≤97+(x:Int)∧97+(x:Int)≤2147483647 by omega) ?_
      refine And.intro (by omega) ?_
      refine Or.inl ?_
      refine Exists.intro [false,false,false,false,false,false,false,false,false,false,false,false] (And.intro (by decide+kernel) ?_)
      refine cq (etext_fn (G.getD x []) (by omega) hbyte) (And.intro rfl trivial) ?_
      refine And.intro (fun k1=>?_) (fun k1=>?_)
      · have k1:(getM (mapO E) (G.getD x [])).isSome=true:=k1
        have hm:G.getD x []∈E:=Classical.byContradiction fun hm=>by rw [getM_mapO,if_neg hm] at k1;cases k1
        have hix:=ixO_mem hm
        have hgm:getM (mapO E) (G.getD x [])=some (ixO E (G.getD x []):Int):=by rw [getM_mapO,if_pos hm]
        refine Or.inl ?_
        refine Exists.intro [false,false,false,false,false,false,false,false,false,false,false,false,false,false,false,false,true,false,false,false,true] (And.intro (by decide+kernel) ?_)
        refine And.intro (show 0≤(getM (mapO E) (G.getD x [])).getD 0∧(getM (mapO E) (G.getD x [])).getD 0<(W.length:Int) by rw [hgm];show 0≤(ixO E _:Int)∧(ixO E _:Int)<(W.length:Int);omega) ?_
        refine And.intro (by rw [List.length_append,List.length_singleton];omega) ?_
        refine And.intro (by rw [List.length_append,List.length_singleton];omega) ?_
        refine And.intro (by omega) ?_
        refine nx (x+1,E,P,L,W,B,U++[(ltr x,W.getD (ixO E (G.getD x [])) [])],S++[(ixO E (G.getD x []):Int)]) ⟨by omega,estep _ (by unfold bgX;rw [if_pos hm])⟩ (show G.length - (x+1)<G.length - x by omega) (by rw [hgm];repeat' first|refine And.intro ?_ ?_|exact True.intro|(show (_:Int)=(_:Int);omega)|omega|exact rfl|(simp only [RO.len];omega))
      · have k1:(getM (mapO E) (G.getD x [])).isSome=false:=k1
        have hm:G.getD x []∉E:=fun hm=>by rw [getM_mapO,if_pos hm] at k1;cases k1
        refine Or.inl (cq (cloneI_fn (G.getD x []) (by omega)) (And.intro rfl trivial) ?_)
        refine Or.inr (Or.inl (cm [129] [(1000,25),(1001,23),(501,501),(502,502),(503,503),(504,504),(505,505),(506,506),(507,507),(508,508)] (eadd_fn n G E P L W B [] U 0 S (G.getD x []) (ltr x) 0 (x:Int) 0 hm (by omega) (by omega) hpl hll hwl hbl hbyte) ?_))
        refine And.intro (by repeat' first|refine And.intro ?_ ?_|exact True.intro|(show (_:Int)=(_:Int);omega)|omega|exact rfl|(simp only [RO.len];omega)) ?_
        refine And.intro (by rw [List.length_append,List.length_singleton];omega) ?_
        refine And.intro (by omega) ?_
        refine nx (x+1,E++[G.getD x []],P++[0],L++[(x:Int)],W++[ltr x],B++[0],U,S++[(E.length:Int)]) ⟨by omega,estep _ (by unfold bgX;rw [if_neg hm])⟩ (show G.length - (x+1)<G.length - x by omega) (by repeat' first|refine And.intro ?_ ?_|exact True.intro|(show (_:Int)=(_:Int);omega)|omega|exact rfl|(simp only [RO.len];omega))
    · have h5:(G.length:Int)≤(x:Int):=h5
      obtain rfl:x=G.length:=by omega
      have ez:z=⟨E,P,L,W,B,[],U,0,S,[]⟩:=by rw [←hz,he]
      subst ez
      refine And.intro (by repeat' first|refine And.intro ?_ ?_|exact True.intro|(show (_:Int)=(_:Int);omega)|omega|exact rfl|(simp only [RO.len];omega)) ?_
      repeat' first|refine And.intro ?_ ?_|exact True.intro|(show (_:Int)=(_:Int);omega)|omega|exact rfl|(simp only [RO.len];omega)
end Go.Proofs.YtjabhmhhhlcopaaGreatDoor
end
section
namespace Go.Proofs.YtjabhmhhhlcopaaGreatDoor
open Go Go.AM
set_option maxRecDepth 100000
set_option maxHeartbeats 4000000
abbrev rnK (n:Nat) (G E:List (List Int)) (P L:List Int) (W:List (List Int)) (B:List Int) (R:List (List Int)) (U:List (List Int × List Int)) (D:Nat) (S:List Int):Store:=
  [(600,.box [.int .i64 n,.bool (.lit true),.ro (.rows .i64 G),.vec 501,.vec 502,.vec 503,.vec 504,.vec 505,.int .i64 D,.ptr 601 0,.vec 506,.vec 507,.vec 508]),(601,.map .str (some .i64) (mapO E)),(501,.vec 0 (.rows .i64 E) []),(502,.vec 0 (.ints .i64 P) []),(503,.vec 0 (.ints .i64 L) []),(504,.vec 0 (.rows .i64 R) []),(505,.vec 0 (.ruls U) []),(506,.vec 0 (.strs W) []),(507,.vec 0 (.ints .i64 B) []),(508,.vec 0 (.ints .i64 S) [])]
def EnR (n:Nat) (G:List (List Int)) (j:Nat) (E:List (List Int)) (P L:List Int) (W:List (List Int)) (B:List Int) (R:List (List Int)) (U:List (List Int × List Int)) (S:List Int):Prop:=
  (∀i,i<j→(enI n G i).D<(enI n G i).E.length)∧enI n G j=⟨E,P,L,W,B,R,U,j,S,[]⟩
abbrev enA (n:Nat) (G E:List (List Int)) (P L:List Int) (R:List (List Int)) (U:List (List Int × List Int)) (D:Nat):AV:=
  .agg [.int .i64 n,.bool (.lit true),.ro (.rows .i64 G),.ro (.rows .i64 E),.ro (.ints .i64 P),.ro (.ints .i64 L),.ro (.rows .i64 R),.ro (.ruls U),.int .i64 D]
section
variable {n:Nat} {G:List (List Int)} {j:Nat} {E:List (List Int)} {P L:List Int} {W:List (List Int)} {B:List Int} {R:List (List Int)} {U:List (List Int × List Int)} {S:List Int}
theorem EnR.ok (hG:∀f∈G,Trn n f) (h:EnR n G j E P L W B R U S):EnV n G G.length ⟨E,P,L,W,B,R,U,j,S,[]⟩:=by
  have:=(enI_ok hG j h.1).1
  rw [h.2] at this;exact this
theorem EnR.few (hG:∀f∈G,Trn n f) (hn:n≤3) (h:EnR n G j E P L W B R U S):E.length≤27:=trns_few hn (h.ok hG).nd (h.ok hG).trn
theorem EnR.ul (hG:∀f∈G,Trn n f) (h:EnR n G j E P L W B R U S):U.length≤G.length*(j+1):=by
  have:=(enI_ok hG j h.1).2.2
  rw [h.2] at this;exact this
theorem EnR.next (hG:∀f∈G,Trn n f) (h:EnR n G j E P L W B R U S) (hj:j<E.length) {z:EnS} (hz:enP G ⟨E,P,L,W,B,R,U,j,S,[]⟩=z):EnR n G (j+1) z.E z.P z.L z.W z.B z.R z.U z.S∧z.D=j+1:=by
  have hd:=(enP_ok hG (h.ok hG) hj).2.1
  have e:enI n G (j+1)=z:=by rw [←hz,←h.2];rfl
  rw [hz] at hd
  have hd:z.D=j+1:=hd
  have hq:z.Q=[]:=by rw [←hz];rfl
  refine ⟨⟨fun i hi=>?_,?_⟩,hd⟩
  · by_cases e:i=j
    · rw [e,h.2];exact hj
    · exact h.1 i (by omega)
  · rw [e,←hd,←hq]
theorem EnR.start (hG:∀f∈G,Trn n f) {z:EnS} (hz:bgXs n G G.length=z):EnR n G 0 z.E z.P z.L z.W z.B z.R z.U z.S∧z.D=0:=by
  obtain ⟨h1,_,_,h4⟩:=bg_D (n:=n) (G:=G) G.length
  rw [hz] at h1 h4
  refine ⟨⟨fun i hi=>absurd hi (Nat.not_lt_zero _),?_⟩,h1⟩
  show bgXs n G G.length=_
  rw [hz]
  obtain ⟨E,P,L,W,B,R,U,D,S,Q⟩:=z
  have h1:D=0:=h1
  have h4:Q=[]:=h4
  subst h1;subst h4;rfl
end
theorem ebld_fn (n:Nat) (G:List (List Int)) (hG:∀f∈G,Trn n f) (h1:1≤n) (h3:n≤3) (hG0:0<G.length) (hGl:G.length≤6):
    EF 23 [.ro (.rows .i64 G),.bool (.lit true)] (un6 fun E P L R U D=>.tup [enA n G E P L R U D,.int .i64 0])
      (un6 fun E P L R U D=>D=E.length∧∃W B S,EnR n G D E P L W B R U S):=mkE Tryz.func23 (by decide+kernel) rfl (Nat.le_of_ble_eq_true rfl) fun _=>by
  obtain ⟨hst,hz0⟩:=EnR.start hG (n:=n) (rfl:bgXs n G G.length=bgXs n G G.length)
  have hbeg:=ebeg_fn n G _ hG h1 h3 hG0 hGl (rfl:bgXs n G G.length=bgXs n G G.length)
  rw [hz0] at hbeg
  generalize bgXs n G G.length=z at hst hbeg
  refine Or.inr (Or.inl (cm [] [(25,600),(23,601),(501,501),(502,502),(503,503),(504,504),(505,505),(506,506),(507,507),(508,508)] hbeg ?_))
  refine And.intro (by repeat' first|refine And.intro ?_ ?_|exact True.intro|(show (_:Int)=(_:Int);omega)|omega|exact rfl|(simp only [RO.len];omega)) ?_
  refine And.intro (fun h=>absurd rfl h) (fun _=>?_)
  refine Exists.intro []<|lp9 (fun (_:Nat) (_:List (List Int)) (_ _:List Int) (_:List (List Int)) (_:List Int) (_:List (List Int)) (_:List (List Int × List Int)) (_:List Int)=>[])
    (fun j E P L W B R U S=>rnK n G E P L W B R U j S) (fun j E P L W B R U S=>EnR n G j E P L W B R U S) (fun j _ _ _ _ _ _ _ _=>28 - j)
    0 z.E z.P z.L z.W z.B z.R z.U z.S hst (by repeat' first|refine And.intro ?_ ?_|exact True.intro|(show (_:Int)=(_:Int);omega)|omega|exact rfl|(simp only [RO.len];omega)) ?_
  intro j E P L W B R U S hR
  have hV:=hR.ok hG
  have hfew:=hR.few hG h3
  have hUl:=hR.ul hG
  have hjl:j≤E.length:=hV.dl
  refine Or.inr (Or.inl (cm [] [(1000,600),(1001,601),(501,501),(502,502),(503,503),(504,504),(505,505),(506,506),(507,507),(508,508)] (efin_fn n G E P L W B R U j S) ?_))
  refine And.intro (by repeat' first|refine And.intro ?_ ?_|exact True.intro|(show (_:Int)=(_:Int);omega)|omega|exact rfl|(simp only [RO.len];omega)) ?_
  refine And.intro (fun h4=>?_) (fun h4=>?_)
  · have h4:(j:Int)≠(E.length:Int):=h4
    have hj:j<E.length:=by omega
    have hUl:U.length≤4096:=Nat.le_trans hUl (Nat.le_trans (Nat.mul_le_mul hGl (show j+1≤28 by omega)) (by decide))
    obtain ⟨hn,hzd⟩:=hR.next hG hj rfl
    have hpr:=eproc_fn n G E P L W B R U j S _ hG h1 h3 hGl hV hj hUl rfl
    rw [hzd] at hpr
    generalize enP G ⟨E,P,L,W,B,R,U,j,S,[]⟩=z1 at hn hpr
    refine Or.inr (Or.inl (cm [] [(1000,600),(1001,601),(501,501),(502,502),(503,503),(504,504),(505,505),(506,506),(507,507),(508,508)] hpr ?_))
    refine And.intro (by repeat' first|refine And.intro ?_ ?_|exact True.intro|(show (_:Int)=(_:Int);omega)|omega|exact rfl|(simp only [RO.len];omega)) ?_
    refine And.intro (fun h=>absurd rfl h) (fun _=>?_)
    exact nx (j+1,z1.E,z1.P,z1.L,z1.W,z1.B,z1.R,z1.U,z1.S) hn (show 28 - (j+1)<28 - j by omega) (by repeat' first|refine And.intro ?_ ?_|exact True.intro|(show (_:Int)=(_:Int);omega)|omega|exact rfl|(simp only [RO.len];omega))
  · have h4:(j:Int)=(E.length:Int):=h4
    have hjE:j=E.length:=by omega
    refine Exists.intro (E,P,L,R,U,j) (And.intro ⟨hjE,W,B,S,hR⟩ ?_)
    repeat' first|refine And.intro ?_ ?_|exact True.intro|(show (_:Int)=(_:Int);omega)|omega|exact rfl|(simp only [RO.len];omega)
end Go.Proofs.YtjabhmhhhlcopaaGreatDoor
end
section
namespace Go.Proofs.YtjabhmhhhlcopaaGreatDoor
open Go Go.AM
set_option maxRecDepth 100000
set_option maxHeartbeats 4000000
theorem eis_fn (n:Nat) (G E:List (List Int)) (P L:List Int) (W:List (List Int)) (B:List Int) (R:List (List Int)) (U:List (List Int × List Int)) (D:Nat) (S:List Int):
    MF 149 [.ptr 1000 0,enA n G E P L R U D] (rnS n G E P L W B R U D S) (.bool (.lit true)) (rnS n G E P L W B R U D S):=mkM Tryz.func149 (by decide+kernel) rfl (Nat.le_of_ble_eq_true rfl) fun _=>by
  refine Or.inl ?_
  refine Exists.intro (List.replicate 69 false) (And.intro (by decide+kernel) ?_)
  refine And.intro (fun _=>?_) (fun h=>absurd rfl h)
  refine And.intro (fun _=>?_) (fun h=>absurd rfl h)
  refine cq (slEqF_fn E) (And.intro rfl (And.intro rfl (And.intro (And.intro rfl trivial) trivial))) ?_
  refine cq (slEq_fn P) (And.intro rfl (And.intro rfl trivial)) ?_
  refine cq (slEq_fn L) (And.intro rfl (And.intro rfl trivial)) ?_
  refine cq (slEqF_fn R) (And.intro rfl (And.intro rfl (And.intro (And.intro rfl trivial) trivial))) ?_
  refine cq (slEqU_fn U) (And.intro rfl (And.intro rfl trivial)) ?_
  refine And.intro (by repeat' first|refine And.intro ?_ ?_|exact True.intro|(show (_:Int)=(_:Int);omega)|omega|exact rfl|(simp only [RO.len];omega)) ?_
  exact rfl
theorem erep_fn (n:Nat) (G E0:List (List Int)) (P0 L0:List Int) (W0:List (List Int)) (B0:List Int) (R0:List (List Int)) (U0:List (List Int × List Int)) (D:Nat) (S0:List Int) (hG:∀f∈G,Trn n f) (h1:1≤n) (h3:n≤3) (hG0:0<G.length) (hGl:G.length≤6) (h0:EnR n G D E0 P0 L0 W0 B0 R0 U0 S0):
    MF 78 [enA n G E0 P0 L0 R0 U0 D] [] (.tup [.ptr 600 0,.bool (.lit true)]) (rnK n G E0 P0 L0 W0 B0 R0 U0 D S0):=mkM Tryz.func78 (by decide+kernel) rfl (Nat.le_of_ble_eq_true rfl) fun _=>by
  obtain ⟨hst,hz0⟩:=EnR.start hG (n:=n) (rfl:bgXs n G G.length=bgXs n G G.length)
  have hbeg:=ebeg_fn n G _ hG h1 h3 hG0 hGl (rfl:bgXs n G G.length=bgXs n G G.length)
  rw [hz0] at hbeg
  generalize bgXs n G G.length=z at hst hbeg
  refine Or.inr (Or.inl (cm [] [(25,600),(23,601),(501,501),(502,502),(503,503),(504,504),(505,505),(506,506),(507,507),(508,508)] hbeg ?_))
  refine And.intro (by repeat' first|refine And.intro ?_ ?_|exact True.intro|(show (_:Int)=(_:Int);omega)|omega|exact rfl|(simp only [RO.len];omega)) ?_
  refine And.intro (fun h=>absurd rfl h) (fun _=>?_)
  refine Exists.intro []<|lp9 (fun (_:Nat) (_:List (List Int)) (_ _:List Int) (_:List (List Int)) (_:List Int) (_:List (List Int)) (_:List (List Int × List Int)) (_:List Int)=>[])
    (fun j E P L W B R U S=>rnK n G E P L W B R U j S) (fun j E P L W B R U S=>j≤D∧EnR n G j E P L W B R U S) (fun j _ _ _ _ _ _ _ _=>D - j)
    0 z.E z.P z.L z.W z.B z.R z.U z.S ⟨Nat.zero_le _,hst⟩ (by repeat' first|refine And.intro ?_ ?_|exact True.intro|(show (_:Int)=(_:Int);omega)|omega|exact rfl|(simp only [RO.len];omega)) ?_
  rintro j E P L W B R U S ⟨hjD,hR⟩
  have hV:=hR.ok hG
  have hfew:=hR.few hG h3
  have hUl:=hR.ul hG
  have hjl:j≤E.length:=hV.dl
  refine Or.inl ?_
  refine Exists.intro [false,false,false,false,false,false,false,false] (And.intro (by decide+kernel) ?_)
  refine And.intro (fun h4=>?_) (fun h4=>?_)
  · have h4:(j:Int)<(D:Int):=h4
    have hjl:j<D:=by omega
    have hj:j<E.length:=by have:=h0.1 j hjl;rw [hR.2] at this;exact this
    have hUl:U.length≤4096:=Nat.le_trans hUl (Nat.le_trans (Nat.mul_le_mul hGl (show j+1≤28 by omega)) (by decide))
    obtain ⟨hn,hzd⟩:=hR.next hG hj rfl
    have hpr:=eproc_fn n G E P L W B R U j S _ hG h1 h3 hGl hV hj hUl rfl
    rw [hzd] at hpr
    generalize enP G ⟨E,P,L,W,B,R,U,j,S,[]⟩=z1 at hn hpr
    refine Or.inr (Or.inl (cm [] [(1000,600),(1001,601),(501,501),(502,502),(503,503),(504,504),(505,505),(506,506),(507,507),(508,508)] (efin_fn n G E P L W B R U j S) ?_))
    refine And.intro (by repeat' first|refine And.intro ?_ ?_|exact True.intro|(show (_:Int)=(_:Int);omega)|omega|exact rfl|(simp only [RO.len];omega)) ?_
    refine And.intro (fun h5=>absurd (show (j:Int)=(E.length:Int) from h5) (by omega)) (fun _=>?_)
    refine Or.inr (Or.inl (cm [] [(1000,600),(1001,601),(501,501),(502,502),(503,503),(504,504),(505,505),(506,506),(507,507),(508,508)] hpr ?_))
    refine And.intro (by repeat' first|refine And.intro ?_ ?_|exact True.intro|(show (_:Int)=(_:Int);omega)|omega|exact rfl|(simp only [RO.len];omega)) ?_
    refine And.intro (fun h=>absurd rfl h) (fun _=>?_)
    exact nx (j+1,z1.E,z1.P,z1.L,z1.W,z1.B,z1.R,z1.U,z1.S) ⟨hjl,hn⟩ (show D - (j+1)<D - j by omega) (by repeat' first|refine And.intro ?_ ?_|exact True.intro|(show (_:Int)=(_:Int);omega)|omega|exact rfl|(simp only [RO.len];omega))
  · have h4:(D:Int)≤(j:Int):=h4
    obtain rfl:j=D:=by omega
    have e:=hR.2.symm.trans h0.2
    have eE:E=E0:=congrArg EnS.E e
    have eP:P=P0:=congrArg EnS.P e
    have eL:L=L0:=congrArg EnS.L e
    have eW:W=W0:=congrArg EnS.W e
    have eB:B=B0:=congrArg EnS.B e
    have eR:R=R0:=congrArg EnS.R e
    have eU:U=U0:=congrArg EnS.U e
    have eS:S=S0:=congrArg EnS.S e
    refine Or.inr (Or.inl (cm [] [(1000,600),(1001,601),(501,501),(502,502),(503,503),(504,504),(505,505),(506,506),(507,507),(508,508)] (eis_fn n G E P L W B R U j S) ?_))
    refine And.intro (by repeat' first|refine And.intro ?_ ?_|exact True.intro|exact congrArg (RO.rows .i64) eE.symm|exact congrArg (RO.rows .i64) eR.symm|exact congrArg (RO.ints .i64) eP.symm|exact congrArg (RO.ints .i64) eL.symm|exact congrArg RO.ruls eU.symm|(show (_:Int)=(_:Int);omega)|omega|exact rfl) ?_
    refine And.intro (by repeat' first|refine And.intro ?_ ?_|exact True.intro|exact congrArg mapO eE|exact congrArg (RO.rows .i64) eE|exact congrArg (RO.rows .i64) eR|exact congrArg (RO.ints .i64) eP|exact congrArg (RO.ints .i64) eL|exact congrArg (RO.ints .i64) eB|exact congrArg (RO.ints .i64) eS|exact congrArg RO.ruls eU|exact congrArg RO.strs eW|(show (_:Int)=(_:Int);omega)|omega|exact rfl) ?_
    repeat' first|refine And.intro ?_ ?_|exact True.intro|(show (_:Int)=(_:Int);omega)|omega|exact rfl|(simp only [RO.len];omega)
end Go.Proofs.YtjabhmhhhlcopaaGreatDoor
end
