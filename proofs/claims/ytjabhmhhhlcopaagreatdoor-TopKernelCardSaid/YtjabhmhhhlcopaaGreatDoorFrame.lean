import Derived.Test.YtjabhmhhhlcopaaGreatDoorCooW
import Derived.Test.YtjabhmhhhlcopaaGreatDoorSubLaw
import Derived.Test.YtjabhmhhhlcopaaGreatDoorCooLaw3
import Derived.Test.YtjabhmhhhlcopaaGreatDoorPartLaw
import Derived.Test.YtjabhmhhhlcopaaGreatDoorTopKLaw
import Derived.Test.YtjabhmhhhlcopaaGreatDoorIn
import Derived.Test.YtjabhmhhhlcopaaGreatDoorMin
import Derived.Test.YtjabhmhhhlcopaaGreatDoorBase
import Derived.Test.YtjabhmhhhlcopaaGreatDoorRows
import Derived.Deep.Matrix
import Derived.Deep.Fields
import Derived.SizedLaws
import Derived.Carry
import Derived.WideKeyArgs
import Derived.ProofKit
import Derived.OpenShut
section
namespace Go.Proofs.YtjabhmhhhlcopaaGreatDoor
open Go Go.AM
set_option maxRecDepth 100000
theorem chk_size {S a:Int} {z:Bool} (h:a≤400) (hz:zI z=0∨zI z=1) (hs:S=a+zI z):S≤401:=by omega
theorem chk_ok {t:List (List Int)} {j:Nat} {G:List (List Int)} {R C:Int} {P:List (List Int)} {z:Bool} {m:List Int} (h:Semi t) (hj:j<numJ t) (hr:Rees G R C P z) (hz:z≠minJ t j) (hm:m.length=t.length):ChkPre t (j:Int) G R C P z m:=
  ⟨⟨valid_zero.2 h,by omega,by omega⟩,rees_zero.2 hr,hz,hm⟩
set_option maxHeartbeats 1000000 in
theorem chk_ktrue (t:List (List Int)) (j:Nat) (G:List (List Int)) (R C:Int) (P:List (List Int)) (z:Bool) (m:List Int) (h:Semi t) (hj:j<numJ t) (hr:Rees G R C P z) (hz:z≠minJ t j) (hm:m.length=t.length) (hv:z=true):
    fnK TY SP Tryz.f30 [.ro (.rows .i64 t),.int .i64 j,rav G R C P z,.ro (.ints .i64 m)] (.bool (.v (chkB t j G R C P z m))):=by
  refine Or.inl (cq (copen_fn t h j hj) (And.intro rfl (And.intro rfl trivial)) ?_)
  refine And.intro (fun h1=>absurd rfl h1) (fun _=>?_)
  refine Or.inl (cq (rvalid2_fn G R C P z) (And.intro (by repeat' first|refine And.intro ?_ ?_|exact True.intro|(show (_:Int)=(_:Int);omega)|omega|exact rfl|(simp only [RO.len];omega)) trivial) ?_)
  rw [rees_zero.2 hr]
  refine And.intro (fun h1=>absurd rfl h1) (fun _=>?_)
  refine And.intro (fun h1=>absurd (eq_of_beq (show (z==minJ t j)=true from h1)) hz) (fun _=>?_)
  refine And.intro (fun h2=>absurd (show (m.length:Int)=t.length by omega) h2) (fun _=>?_)
  refine Or.inl (cq (sizeV G R C P z hr) (And.intro (by repeat' first|refine And.intro ?_ ?_|exact True.intro|(show (_:Int)=(_:Int);omega)|omega|exact rfl|(simp only [RO.len];omega)) trivial) ?_)
  have hmost:=h.most
  have hsz:=hr.le
  have hzc:=z_cases z
  have hsd:sizeI G.length R C z=G.length*R*C+zI z:=rfl
  have hpos:=size_pos (z:=z) hsz.1 hsz.2.2.1 hsz.2.2.2.2.1
  have hel:=elems_le hj
  have hil:=inJ_len t j
  have hz0:zI z=1:=by rw [hv];rfl
  have hS:=chk_size hsz.2.2.2.2.2.2.2.2.2 hzc hsd
  clear hsz hsd
  refine And.intro (fun _=>?_) (fun hw=>absurd (hv.symm.trans (show z=false from hw)) (by decide))
  refine And.intro (by omega) ?_
  refine And.intro (by omega) ?_
  refine Exists.intro []<|lp2 (fun (i:Nat) (_:List Bool)=>[(56,.int .i64 i)]) (fun _ q=>[(53,.vec 0 (.bools q) [])]) (fun i q=>ChkInv t j (zI z) (sizeI G.length R C z) m i q) (fun i _=>t.length - i) 0 (List.replicate (sizeI G.length R C z).toNat false) (.start _ (by omega)) (by repeat' first|refine And.intro ?_ ?_|exact True.intro|(show (_:Int)=(_:Int);omega)|omega|exact rfl|(simp only [RO.len];omega)) ?_
  intro i q H
  have hq:=H.len
  have hle:=H.le
  refine And.intro (fun h1=>?_) (fun h1=>?_)
  · have hi:i<t.length:=by have h1:(i:Int)<m.length:=h1;omega
    have eg:=inJ_get (j:=j) hi
    refine And.intro (by omega) ?_
    refine And.intro (show 0≤(i:Int)∧(i:Int)<((inJ t j).length:Int) by omega) ?_
    refine And.intro (fun h2=>?_) (fun h2=>?_)
    · have h2:(!(inJ t j).getD i false)=true:=h2
      rw [eg] at h2
      have hc:(classJ t).getD i 0≠(j:Int):=by simpa using h2
      refine And.intro (fun h3=>?_) (fun h3=>?_)
      · exact And.intro (chk_map hi (ChkInv.no1 hc (show m.getD i 0≠ -1 from h3))) trivial
      · refine And.intro (by omega) ?_
        exact nx (i+1,q) (H.skip hi hc (show m.getD i 0= -1 from h3)) (show t.length - (i+1)<t.length - i by omega) (by repeat' first|refine And.intro ?_ ?_|exact True.intro|(show (_:Int)=(_:Int);omega)|omega|exact rfl|(simp only [RO.len];omega))
    · have h2:(!(inJ t j).getD i false)=false:=h2
      rw [eg] at h2
      have hc:(classJ t).getD i 0=(j:Int):=by simpa using h2
      refine And.intro (fun h3=>?_) (fun h3=>?_)
      · have h3:m.getD i 0<1:=h3
        exact And.intro (chk_map hi (ChkInv.no2 hc (Or.inl (by omega)))) trivial
      have h3:1≤m.getD i 0:=h3
      refine And.intro (fun h4=>?_) (fun h4=>?_)
      · exact And.intro (chk_map hi (ChkInv.no2 hc (Or.inr (show sizeI G.length R C z≤m.getD i 0 from h4)))) trivial
      have h4:m.getD i 0<sizeI G.length R C z:=h4
      refine And.intro (show 0≤m.getD i 0∧m.getD i 0<(q.length:Int) by omega) ?_
      refine And.intro (fun h5=>?_) (fun h5=>?_)
      · exact And.intro (chk_map hi (H.no3 (by omega) hc (by omega) h4 h5)) trivial
      · refine And.intro (show 0≤m.getD i 0∧m.getD i 0<(q.length:Int) by omega) ?_
        refine And.intro (by omega) ?_
        refine And.intro (by omega) ?_
        exact nx (i+1,q.set (m.getD i 0).toNat true) (H.put (by omega) hi hc (by omega) h4 h5) (show t.length - (i+1)<t.length - i by omega) (by repeat' first|refine And.intro ?_ ?_|exact True.intro|(show (_:Int)=(_:Int);omega)|omega|exact rfl|(simp only [RO.len];omega))
  · have hall:∀x,x<t.length→mapAt t j (zI z) (sizeI G.length R C z) m x:=fun x hx=>H.ok x (by have h1:(m.length:Int)≤i:=h1;omega)
    clear H hq hle
    refine And.intro (by omega) ?_
    refine And.intro (fun h2=>?_) (fun h2=>?_)
    · exact And.intro (chk_cnt (by have h2:((elemsJ t j).length:Int)≠sizeI G.length R C z - 1:=h2;omega)) trivial
    have hcn:((elemsJ t j).length:Int)=sizeI G.length R C z - zI z:=by have h2:((elemsJ t j).length:Int)=sizeI G.length R C z - 1:=h2;omega
    refine Exists.intro []<|lp (X:=Nat) (fun a=>[(99,.int .i64 a)]) (fun _=>[]) (fun a=>a≤(elemsJ t j).length∧PairsTo t j G C P z m a) (fun a=>(elemsJ t j).length - a) 0 ⟨Nat.zero_le _,fun k hk=>absurd hk (Nat.not_lt_zero _)⟩ (by repeat' first|refine And.intro ?_ ?_|exact True.intro|(show (_:Int)=(_:Int);omega)|omega|exact rfl|(simp only [RO.len];omega)) ?_
    rintro a ⟨han,hps⟩
    refine And.intro (fun h3=>?_) (fun h3=>?_)
    · have ha:a<(elemsJ t j).length:=by omega
      have ga:=elems_get hj ha
      have ax:((elemsJ t j).getD a 0).toNat<t.length:=by omega
      have ma:=(hall _ ax).2 ga.2.2
      refine And.intro (by omega) ?_
      refine Exists.intro []<|lp (X:=Nat) (fun b=>[(106,.int .i64 b)]) (fun _=>[]) (fun b=>b≤(elemsJ t j).length∧∀c,c<b→pairAt t j G C P z m ((elemsJ t j).getD a 0).toNat ((elemsJ t j).getD c 0).toNat) (fun b=>(elemsJ t j).length - b) 0 ⟨Nat.zero_le _,fun k hk=>absurd hk (Nat.not_lt_zero _)⟩ (by repeat' first|refine And.intro ?_ ?_|exact True.intro|(show (_:Int)=(_:Int);omega)|omega|exact rfl|(simp only [RO.len];omega)) ?_
      rintro b ⟨hbn,hpc⟩
      refine And.intro (fun h4=>?_) (fun h4=>?_)
      · have hb:b<(elemsJ t j).length:=by omega
        have gb:=elems_get hj hb
        have ay:((elemsJ t j).getD b 0).toNat<t.length:=by omega
        have mb:=(hall _ ay).2 gb.2.2
        have hrl:=h.toSh.len ax
        have e1:=h.toSh.ent ax ay
        have eg:=inJ_get (j:=j) e1.2
        refine And.intro (by omega) ?_
        refine Or.inl<|Exists.intro [false,false,false,false,false,false,false,false,false,false,false] (And.intro (by decide+kernel) ?_)
        refine And.intro (show 0≤((elemsJ t j).getD a 0)∧((elemsJ t j).getD a 0)<(t.length:Int) by omega) ?_
        refine And.intro (show 0≤((elemsJ t j).getD b 0)∧((elemsJ t j).getD b 0)<((t.getD ((elemsJ t j).getD a 0).toNat []).length:Int) by omega) ?_
        refine And.intro (show 0≤(t.getD ((elemsJ t j).getD a 0).toNat []).getD ((elemsJ t j).getD b 0).toNat 0∧(t.getD ((elemsJ t j).getD a 0).toNat []).getD ((elemsJ t j).getD b 0).toNat 0<((inJ t j).length:Int) by omega) ?_
        refine And.intro (fun h5=>?_) (fun h5=>?_)
        · have h5:(inJ t j).getD (en t ((elemsJ t j).getD a 0).toNat ((elemsJ t j).getD b 0).toNat) false=true:=h5
          rw [eg,decide_eq_true_eq] at h5
          refine And.intro (show 0≤((elemsJ t j).getD a 0)∧((elemsJ t j).getD a 0)<(t.length:Int) by omega) ?_
          refine And.intro (show 0≤((elemsJ t j).getD b 0)∧((elemsJ t j).getD b 0)<((t.getD ((elemsJ t j).getD a 0).toNat []).length:Int) by omega) ?_
          refine And.intro (show 0≤(t.getD ((elemsJ t j).getD a 0).toNat []).getD ((elemsJ t j).getD b 0).toNat 0∧(t.getD ((elemsJ t j).getD a 0).toNat []).getD ((elemsJ t j).getD b 0).toNat 0<(m.length:Int) by omega) ?_
          refine Or.inl<|Exists.intro [false,false,false,false,false,false,false,false,false,false,false,false] (And.intro (by decide+kernel) ?_)
          refine And.intro (show 0≤((elemsJ t j).getD a 0)∧((elemsJ t j).getD a 0)<(m.length:Int) by omega) ?_
          refine And.intro (show 0≤((elemsJ t j).getD b 0)∧((elemsJ t j).getD b 0)<(m.length:Int) by omega) ?_
          refine cq (prod_fn G R C P z hr (m.getD ((elemsJ t j).getD a 0).toNat 0) (m.getD ((elemsJ t j).getD b 0).toNat 0) (by omega) (by omega)) (And.intro (by repeat' first|refine And.intro ?_ ?_|exact True.intro|(show (_:Int)=(_:Int);omega)|omega|exact rfl|(simp only [RO.len];omega)) (And.intro rfl (And.intro rfl trivial))) ?_
          refine And.intro (fun h6=>?_) (fun h6=>?_)
          · exact And.intro (chk_pair ha hb fun hh=>h6 (hh.1 h5)) trivial
          · refine And.intro (by omega) ?_
            refine nx (b+1) ⟨by omega,fun c hc=>?_⟩ (show (elemsJ t j).length - (b+1)<(elemsJ t j).length - b by omega) (by repeat' first|refine And.intro ?_ ?_|exact True.intro|(show (_:Int)=(_:Int);omega)|omega|exact rfl|(simp only [RO.len];omega))
            by_cases hcb:c=b
            · rw [hcb];exact ⟨fun _=>h6,fun hh=>absurd h5 hh⟩
            · exact hpc c (by omega)
        · have h5:(inJ t j).getD (en t ((elemsJ t j).getD a 0).toNat ((elemsJ t j).getD b 0).toNat) false=false:=h5
          rw [eg,decide_eq_false_iff_not] at h5
          refine And.intro (fun hw=>absurd (show (!z)=true from hw) (by rw [hv];decide)) (fun _=>?_)
          refine Or.inl<|Exists.intro [false,false,false,false,false,false,false,false,false,false,false,false] (And.intro (by decide+kernel) ?_)
          refine And.intro (show 0≤((elemsJ t j).getD a 0)∧((elemsJ t j).getD a 0)<(m.length:Int) by omega) ?_
          refine And.intro (show 0≤((elemsJ t j).getD b 0)∧((elemsJ t j).getD b 0)<(m.length:Int) by omega) ?_
          refine cq (prod_fn G R C P z hr (m.getD ((elemsJ t j).getD a 0).toNat 0) (m.getD ((elemsJ t j).getD b 0).toNat 0) (by omega) (by omega)) (And.intro (by repeat' first|refine And.intro ?_ ?_|exact True.intro|(show (_:Int)=(_:Int);omega)|omega|exact rfl|(simp only [RO.len];omega)) (And.intro rfl (And.intro rfl trivial))) ?_
          refine And.intro (fun h6=>?_) (fun h6=>?_)
          · exact And.intro (chk_pair ha hb fun hh=>h6 (hh.2 h5).2) trivial
          · refine And.intro (by omega) ?_
            refine nx (b+1) ⟨by omega,fun c hc=>?_⟩ (show (elemsJ t j).length - (b+1)<(elemsJ t j).length - b by omega) (by repeat' first|refine And.intro ?_ ?_|exact True.intro|(show (_:Int)=(_:Int);omega)|omega|exact rfl|(simp only [RO.len];omega))
            by_cases hcb:c=b
            · rw [hcb];exact ⟨fun hh=>absurd hh h5,fun _=>⟨hv,h6⟩⟩
            · exact hpc c (by omega)
      · refine And.intro (by omega) ?_
        refine nx (a+1) ⟨by omega,fun c hc=>?_⟩ (show (elemsJ t j).length - (a+1)<(elemsJ t j).length - a by omega) (by repeat' first|refine And.intro ?_ ?_|exact True.intro|(show (_:Int)=(_:Int);omega)|omega|exact rfl|(simp only [RO.len];omega))
        by_cases hca:c=a
        · rw [hca];exact fun d hd=>hpc d (by omega)
        · exact hps c (by omega)
    · have hae:a=(elemsJ t j).length:=by omega
      rw [hae] at hps
      exact And.intro (chk_yes (chk_ok h hj hr hz hm) ⟨hall,hcn,hps⟩) trivial
set_option maxHeartbeats 1000000 in
theorem chk_kfalse (t:List (List Int)) (j:Nat) (G:List (List Int)) (R C:Int) (P:List (List Int)) (z:Bool) (m:List Int) (h:Semi t) (hj:j<numJ t) (hr:Rees G R C P z) (hz:z≠minJ t j) (hm:m.length=t.length) (hv:z=false):
    fnK TY SP Tryz.f30 [.ro (.rows .i64 t),.int .i64 j,rav G R C P z,.ro (.ints .i64 m)] (.bool (.v (chkB t j G R C P z m))):=by
  refine Or.inl (cq (copen_fn t h j hj) (And.intro rfl (And.intro rfl trivial)) ?_)
  refine And.intro (fun h1=>absurd rfl h1) (fun _=>?_)
  refine Or.inl (cq (rvalid2_fn G R C P z) (And.intro (by repeat' first|refine And.intro ?_ ?_|exact True.intro|(show (_:Int)=(_:Int);omega)|omega|exact rfl|(simp only [RO.len];omega)) trivial) ?_)
  rw [rees_zero.2 hr]
  refine And.intro (fun h1=>absurd rfl h1) (fun _=>?_)
  refine And.intro (fun h1=>absurd (eq_of_beq (show (z==minJ t j)=true from h1)) hz) (fun _=>?_)
  refine And.intro (fun h2=>absurd (show (m.length:Int)=t.length by omega) h2) (fun _=>?_)
  refine Or.inl (cq (sizeV G R C P z hr) (And.intro (by repeat' first|refine And.intro ?_ ?_|exact True.intro|(show (_:Int)=(_:Int);omega)|omega|exact rfl|(simp only [RO.len];omega)) trivial) ?_)
  have hmost:=h.most
  have hsz:=hr.le
  have hzc:=z_cases z
  have hsd:sizeI G.length R C z=G.length*R*C+zI z:=rfl
  have hpos:=size_pos (z:=z) hsz.1 hsz.2.2.1 hsz.2.2.2.2.1
  have hel:=elems_le hj
  have hil:=inJ_len t j
  have hz0:zI z=0:=by rw [hv];rfl
  have hS:=chk_size hsz.2.2.2.2.2.2.2.2.2 hzc hsd
  clear hsz hsd
  refine And.intro (fun hw=>absurd (hv.symm.trans (show z=true from hw)) (by decide)) (fun _=>?_)
  refine And.intro (by omega) ?_
  refine And.intro (by omega) ?_
  refine Exists.intro []<|lp2 (fun (i:Nat) (_:List Bool)=>[(56,.int .i64 i)]) (fun _ q=>[(53,.vec 0 (.bools q) [])]) (fun i q=>ChkInv t j (zI z) (sizeI G.length R C z) m i q) (fun i _=>t.length - i) 0 (List.replicate (sizeI G.length R C z).toNat false) (.start _ (by omega)) (by repeat' first|refine And.intro ?_ ?_|exact True.intro|(show (_:Int)=(_:Int);omega)|omega|exact rfl|(simp only [RO.len];omega)) ?_
  intro i q H
  have hq:=H.len
  have hle:=H.le
  refine And.intro (fun h1=>?_) (fun h1=>?_)
  · have hi:i<t.length:=by have h1:(i:Int)<m.length:=h1;omega
    have eg:=inJ_get (j:=j) hi
    refine And.intro (by omega) ?_
    refine And.intro (show 0≤(i:Int)∧(i:Int)<((inJ t j).length:Int) by omega) ?_
    refine And.intro (fun h2=>?_) (fun h2=>?_)
    · have h2:(!(inJ t j).getD i false)=true:=h2
      rw [eg] at h2
      have hc:(classJ t).getD i 0≠(j:Int):=by simpa using h2
      refine And.intro (fun h3=>?_) (fun h3=>?_)
      · exact And.intro (chk_map hi (ChkInv.no1 hc (show m.getD i 0≠ -1 from h3))) trivial
      · refine And.intro (by omega) ?_
        exact nx (i+1,q) (H.skip hi hc (show m.getD i 0= -1 from h3)) (show t.length - (i+1)<t.length - i by omega) (by repeat' first|refine And.intro ?_ ?_|exact True.intro|(show (_:Int)=(_:Int);omega)|omega|exact rfl|(simp only [RO.len];omega))
    · have h2:(!(inJ t j).getD i false)=false:=h2
      rw [eg] at h2
      have hc:(classJ t).getD i 0=(j:Int):=by simpa using h2
      refine And.intro (fun h3=>?_) (fun h3=>?_)
      · have h3:m.getD i 0<0:=h3
        exact And.intro (chk_map hi (ChkInv.no2 hc (Or.inl (by omega)))) trivial
      have h3:0≤m.getD i 0:=h3
      refine And.intro (fun h4=>?_) (fun h4=>?_)
      · exact And.intro (chk_map hi (ChkInv.no2 hc (Or.inr (show sizeI G.length R C z≤m.getD i 0 from h4)))) trivial
      have h4:m.getD i 0<sizeI G.length R C z:=h4
      refine And.intro (show 0≤m.getD i 0∧m.getD i 0<(q.length:Int) by omega) ?_
      refine And.intro (fun h5=>?_) (fun h5=>?_)
      · exact And.intro (chk_map hi (H.no3 (by omega) hc (by omega) h4 h5)) trivial
      · refine And.intro (show 0≤m.getD i 0∧m.getD i 0<(q.length:Int) by omega) ?_
        refine And.intro (by omega) ?_
        refine And.intro (by omega) ?_
        exact nx (i+1,q.set (m.getD i 0).toNat true) (H.put (by omega) hi hc (by omega) h4 h5) (show t.length - (i+1)<t.length - i by omega) (by repeat' first|refine And.intro ?_ ?_|exact True.intro|(show (_:Int)=(_:Int);omega)|omega|exact rfl|(simp only [RO.len];omega))
  · have hall:∀x,x<t.length→mapAt t j (zI z) (sizeI G.length R C z) m x:=fun x hx=>H.ok x (by have h1:(m.length:Int)≤i:=h1;omega)
    clear H hq hle
    refine And.intro (by omega) ?_
    refine And.intro (fun h2=>?_) (fun h2=>?_)
    · exact And.intro (chk_cnt (by have h2:((elemsJ t j).length:Int)≠sizeI G.length R C z - 0:=h2;omega)) trivial
    have hcn:((elemsJ t j).length:Int)=sizeI G.length R C z - zI z:=by have h2:((elemsJ t j).length:Int)=sizeI G.length R C z - 0:=h2;omega
    refine Exists.intro []<|lp (X:=Nat) (fun a=>[(99,.int .i64 a)]) (fun _=>[]) (fun a=>a≤(elemsJ t j).length∧PairsTo t j G C P z m a) (fun a=>(elemsJ t j).length - a) 0 ⟨Nat.zero_le _,fun k hk=>absurd hk (Nat.not_lt_zero _)⟩ (by repeat' first|refine And.intro ?_ ?_|exact True.intro|(show (_:Int)=(_:Int);omega)|omega|exact rfl|(simp only [RO.len];omega)) ?_
    rintro a ⟨han,hps⟩
    refine And.intro (fun h3=>?_) (fun h3=>?_)
    · have ha:a<(elemsJ t j).length:=by omega
      have ga:=elems_get hj ha
      have ax:((elemsJ t j).getD a 0).toNat<t.length:=by omega
      have ma:=(hall _ ax).2 ga.2.2
      refine And.intro (by omega) ?_
      refine Exists.intro []<|lp (X:=Nat) (fun b=>[(106,.int .i64 b)]) (fun _=>[]) (fun b=>b≤(elemsJ t j).length∧∀c,c<b→pairAt t j G C P z m ((elemsJ t j).getD a 0).toNat ((elemsJ t j).getD c 0).toNat) (fun b=>(elemsJ t j).length - b) 0 ⟨Nat.zero_le _,fun k hk=>absurd hk (Nat.not_lt_zero _)⟩ (by repeat' first|refine And.intro ?_ ?_|exact True.intro|(show (_:Int)=(_:Int);omega)|omega|exact rfl|(simp only [RO.len];omega)) ?_
      rintro b ⟨hbn,hpc⟩
      refine And.intro (fun h4=>?_) (fun h4=>?_)
      · have hb:b<(elemsJ t j).length:=by omega
        have gb:=elems_get hj hb
        have ay:((elemsJ t j).getD b 0).toNat<t.length:=by omega
        have mb:=(hall _ ay).2 gb.2.2
        have hrl:=h.toSh.len ax
        have e1:=h.toSh.ent ax ay
        have eg:=inJ_get (j:=j) e1.2
        refine And.intro (by omega) ?_
        refine Or.inl<|Exists.intro [false,false,false,false,false,false,false,false,false,false,false] (And.intro (by decide+kernel) ?_)
        refine And.intro (show 0≤((elemsJ t j).getD a 0)∧((elemsJ t j).getD a 0)<(t.length:Int) by omega) ?_
        refine And.intro (show 0≤((elemsJ t j).getD b 0)∧((elemsJ t j).getD b 0)<((t.getD ((elemsJ t j).getD a 0).toNat []).length:Int) by omega) ?_
        refine And.intro (show 0≤(t.getD ((elemsJ t j).getD a 0).toNat []).getD ((elemsJ t j).getD b 0).toNat 0∧(t.getD ((elemsJ t j).getD a 0).toNat []).getD ((elemsJ t j).getD b 0).toNat 0<((inJ t j).length:Int) by omega) ?_
        refine And.intro (fun h5=>?_) (fun h5=>?_)
        · have h5:(inJ t j).getD (en t ((elemsJ t j).getD a 0).toNat ((elemsJ t j).getD b 0).toNat) false=true:=h5
          rw [eg,decide_eq_true_eq] at h5
          refine And.intro (show 0≤((elemsJ t j).getD a 0)∧((elemsJ t j).getD a 0)<(t.length:Int) by omega) ?_
          refine And.intro (show 0≤((elemsJ t j).getD b 0)∧((elemsJ t j).getD b 0)<((t.getD ((elemsJ t j).getD a 0).toNat []).length:Int) by omega) ?_
          refine And.intro (show 0≤(t.getD ((elemsJ t j).getD a 0).toNat []).getD ((elemsJ t j).getD b 0).toNat 0∧(t.getD ((elemsJ t j).getD a 0).toNat []).getD ((elemsJ t j).getD b 0).toNat 0<(m.length:Int) by omega) ?_
          refine Or.inl<|Exists.intro [false,false,false,false,false,false,false,false,false,false,false,false] (And.intro (by decide+kernel) ?_)
          refine And.intro (show 0≤((elemsJ t j).getD a 0)∧((elemsJ t j).getD a 0)<(m.length:Int) by omega) ?_
          refine And.intro (show 0≤((elemsJ t j).getD b 0)∧((elemsJ t j).getD b 0)<(m.length:Int) by omega) ?_
          refine cq (prod_fn G R C P z hr (m.getD ((elemsJ t j).getD a 0).toNat 0) (m.getD ((elemsJ t j).getD b 0).toNat 0) (by omega) (by omega)) (And.intro (by repeat' first|refine And.intro ?_ ?_|exact True.intro|(show (_:Int)=(_:Int);omega)|omega|exact rfl|(simp only [RO.len];omega)) (And.intro rfl (And.intro rfl trivial))) ?_
          refine And.intro (fun h6=>?_) (fun h6=>?_)
          · exact And.intro (chk_pair ha hb fun hh=>h6 (hh.1 h5)) trivial
          · refine And.intro (by omega) ?_
            refine nx (b+1) ⟨by omega,fun c hc=>?_⟩ (show (elemsJ t j).length - (b+1)<(elemsJ t j).length - b by omega) (by repeat' first|refine And.intro ?_ ?_|exact True.intro|(show (_:Int)=(_:Int);omega)|omega|exact rfl|(simp only [RO.len];omega))
            by_cases hcb:c=b
            · rw [hcb];exact ⟨fun _=>h6,fun hh=>absurd h5 hh⟩
            · exact hpc c (by omega)
        · have h5:(inJ t j).getD (en t ((elemsJ t j).getD a 0).toNat ((elemsJ t j).getD b 0).toNat) false=false:=h5
          rw [eg,decide_eq_false_iff_not] at h5
          refine And.intro (fun _=>?_) (fun hw=>absurd (show (!z)=false from hw) (by rw [hv];decide))
          exact And.intro (chk_pair ha hb fun hh=>by have:=(hh.2 h5).1;rw [hv] at this;cases this) trivial
      · refine And.intro (by omega) ?_
        refine nx (a+1) ⟨by omega,fun c hc=>?_⟩ (show (elemsJ t j).length - (a+1)<(elemsJ t j).length - a by omega) (by repeat' first|refine And.intro ?_ ?_|exact True.intro|(show (_:Int)=(_:Int);omega)|omega|exact rfl|(simp only [RO.len];omega))
        by_cases hca:c=a
        · rw [hca];exact fun d hd=>hpc d (by omega)
        · exact hps c (by omega)
    · have hae:a=(elemsJ t j).length:=by omega
      rw [hae] at hps
      exact And.intro (chk_yes (chk_ok h hj hr hz hm) ⟨hall,hcn,hps⟩) trivial
theorem chk_fn (t:List (List Int)) (j:Int) (G:List (List Int)) (R C:Int) (P:List (List Int)) (z:Bool) (m:List Int):
    QF 30 [.ro (.rows .i64 t),.int .i64 j,rav G R C P z,.ro (.ints .i64 m)] (.bool (.v (chkB t j G R C P z m))):=mkQ Tryz.func30 (by decide+kernel) rfl (Nat.le_of_ble_eq_true rfl) fun _=>by
  by_cases hp:validV t=0∧0≤j∧j<numJ t
  · obtain ⟨k,rfl⟩:∃k:Nat,j=(k:Int):=⟨j.toNat,by omega⟩
    have h:=valid_zero.1 hp.1
    have hj:k<numJ t:=by omega
    by_cases hr:reesV G R C P z=0
    · by_cases hz:z=minJ t k
      · refine Or.inl (cq (copen_fn t h k hj) (And.intro rfl (And.intro rfl trivial)) ?_)
        refine And.intro (fun h1=>absurd rfl h1) (fun _=>?_)
        refine Or.inl (cq (rvalid2_fn G R C P z) (And.intro (by repeat' first|refine And.intro ?_ ?_|exact True.intro|(show (_:Int)=(_:Int);omega)|omega|exact rfl|(simp only [RO.len];omega)) trivial) ?_)
        refine And.intro (fun h1=>absurd hr h1) (fun _=>?_)
        refine And.intro (fun _=>?_) (fun h1=>absurd (show (z==minJ t k)=false from h1) (by rw [hz];simp))
        exact And.intro (chk_pre fun hh=>hh.2.2.1 hz) trivial
      · by_cases hm:m.length=t.length
        · rcases Bool.eq_false_or_eq_true z with hv|hv
          · exact chk_ktrue t k G R C P z m h hj (rees_zero.1 hr) hz hm hv
          · exact chk_kfalse t k G R C P z m h hj (rees_zero.1 hr) hz hm hv
        · refine Or.inl (cq (copen_fn t h k hj) (And.intro rfl (And.intro rfl trivial)) ?_)
          refine And.intro (fun h1=>absurd rfl h1) (fun _=>?_)
          refine Or.inl (cq (rvalid2_fn G R C P z) (And.intro (by repeat' first|refine And.intro ?_ ?_|exact True.intro|(show (_:Int)=(_:Int);omega)|omega|exact rfl|(simp only [RO.len];omega)) trivial) ?_)
          refine And.intro (fun h1=>absurd hr h1) (fun _=>?_)
          refine And.intro (fun h1=>absurd (eq_of_beq (show (z==minJ t k)=true from h1)) hz) (fun _=>?_)
          refine And.intro (fun _=>?_) (fun h1=>absurd (show (m.length:Int)=(t.length:Int) from h1) (by omega))
          exact And.intro (chk_pre fun hh=>hm hh.2.2.2) trivial
    · refine Or.inl (cq (copen_fn t h k hj) (And.intro rfl (And.intro rfl trivial)) ?_)
      refine And.intro (fun h1=>absurd rfl h1) (fun _=>?_)
      refine Or.inl (cq (rvalid2_fn G R C P z) (And.intro (by repeat' first|refine And.intro ?_ ?_|exact True.intro|(show (_:Int)=(_:Int);omega)|omega|exact rfl|(simp only [RO.len];omega)) trivial) ?_)
      refine And.intro (fun _=>?_) (fun h1=>absurd h1 hr)
      exact And.intro (chk_pre fun hh=>hr hh.2.1) trivial
  · refine Or.inl (cq (copen_no t j hp) (And.intro rfl (And.intro rfl trivial)) ?_)
    refine And.intro (fun _=>?_) (fun h1=>absurd h1 (openV_ne t j))
    exact And.intro (chk_pre fun hh=>hp hh.1) trivial
end Go.Proofs.YtjabhmhhhlcopaaGreatDoor
end
section
namespace Go.Proofs.YtjabhmhhhlcopaaGreatDoor
open Go Go.AM
set_option maxRecDepth 100000
set_option maxHeartbeats 1000000
theorem tvalid_fn (t:List (List Int)) (m:Int):QF 9 [.ro (.rows .i64 t),.int .i64 m] (.bool (.v (decide ((t.length:Int)≤m∧validV t=0)))):=mkQ Tryz.func9 (by decide+kernel) rfl (Nat.le_of_ble_eq_true rfl) fun _=>by
  refine And.intro (fun h1=>?_) (fun h1=>?_)
  · have h1:(t.length:Int)≤m:=h1
    refine Or.inl (cq (rvalid_fn t) (And.intro rfl trivial) ?_)
    refine And.intro ?_ trivial
    show decide (validV t=0)=decide ((t.length:Int)≤m∧validV t=0)
    simp [h1]
  · have h1:m<(t.length:Int):=h1
    refine And.intro ?_ trivial
    show false=decide ((t.length:Int)≤m∧validV t=0)
    rw [decide_eq_false (fun h=>by omega)]
theorem topK_fn (t:List (List Int)):QF 6 [.ro (.rows .i64 t)] (.bool (.lit true)):=mkQ Tryz.func6 (by decide+kernel) rfl (Nat.le_of_ble_eq_true rfl) fun _=>by
  refine Or.inl (cq (tvalid_fn t 14) (And.intro rfl (And.intro rfl trivial)) ?_)
  refine And.intro (fun _=>Or.inl (cq awakeT_fn trivial (And.intro rfl trivial))) (fun h1=>?_)
  have h1:(!decide ((t.length:Int)≤14∧validV t=0))=false:=h1
  rw [Bool.not_eq_false'] at h1
  have h1:=of_decide_eq_true h1
  have hs:Semi t:=valid_zero.1 h1.2
  refine Or.inl (cq (iKernel_fn t hs) (And.intro rfl trivial) ?_)
  refine Or.inl (cq (green_fn t hs) (And.intro rfl trivial) ?_)
  have hx:=kerX_ok hs
  have hj:=kerJ_ok hs
  have hcl:(classJ t).length=t.length:=classJ_len t
  refine And.intro (fun h=>absurd (show ((ascV t.length (kerF t)).length:Int)<1 from h) (by omega)) (fun _=>?_)
  refine And.intro (fun h=>absurd (show ((classJ t).length:Int)=(t.length:Int) by omega) h) (fun _=>?_)
  refine Or.inl (cq (rin_fn t (ascV t.length (kerF t))) (And.intro rfl (And.intro rfl trivial)) ?_)
  have hin:∀x∈ascV t.length (kerF t),0≤x∧x<(t.length:Int):=fun x hx=>by
    obtain ⟨i,hi,_,rfl⟩:=ascV_mem.1 hx
    omega
  refine And.intro (fun h=>?_) (fun _=>?_)
  · have h:(!decide (∀x∈ascV t.length (kerF t),0≤x∧x<(t.length:Int)))=true:=h
    rw [decide_eq_true hin] at h;exact absurd h (by decide)
  have hk0:(ascV t.length (kerF t)).getD 0 0=(kerX t:Int):=hx.2.2.2
  have hjj:(classJ t).getD ((ascV t.length (kerF t)).getD 0 0).toNat 0=(kerJ t:Int):=by rw [hk0,Int.toNat_natCast];exact hj.1
  have hk1:0≤(ascV t.length (kerF t)).getD 0 0∧(ascV t.length (kerF t)).getD 0 0<((classJ t).length:Int):=by omega
  refine Or.inl ?_
  refine Exists.intro [false,false,false,false,false,false,false,false,false,false,false,false,false,false,true,false,false] (And.intro (by decide+kernel) ?_)
  refine And.intro (by omega) ?_
  refine And.intro hk1 ?_
  refine cq (coo_fn t hs (kerJ t) hj.2 (kerJ_reg hs)) (And.intro rfl (And.intro hjj trivial)) ?_
  have hmin:=kerJ_min hs
  have hchk:=(ker_coo hs).chk
  refine Or.inl ?_
  refine Exists.intro [false,false,false,false,false,false,false,false,false,false,false,false,false,false,false,false,false,false,false,false] (And.intro (by decide+kernel) ?_)
  refine And.intro (fun h=>absurd rfl h) (fun _=>?_)
  refine And.intro (fun h=>?_) (fun _=>?_)
  · have h:(!minJ t (kerJ t))=true:=h
    rw [hmin] at h;exact absurd h (by decide)
  refine And.intro (by omega) ?_
  refine And.intro hk1 ?_
  refine cq (chk_fn t (kerJ t) (cooG t (kerJ t) (eJ t (kerJ t))) (cR t (kerJ t)) (cC t (kerJ t)) (cooP t (kerJ t) (eJ t (kerJ t))) (!minJ t (kerJ t)) (cooM t (kerJ t) (eJ t (kerJ t)))) (And.intro rfl (And.intro hjj (And.intro (by repeat' first|refine And.intro ?_ ?_|exact True.intro|(show (_:Int)=(_:Int);omega)|omega|exact rfl|(simp only [RO.len];omega)) (And.intro rfl trivial)))) ?_
  refine And.intro (fun h=>?_) (fun _=>?_)
  · have h:(!chkB t (kerJ t) (cooG t (kerJ t) (eJ t (kerJ t))) (cR t (kerJ t)) (cC t (kerJ t)) (cooP t (kerJ t) (eJ t (kerJ t))) (!minJ t (kerJ t)) (cooM t (kerJ t) (eJ t (kerJ t))))=true:=h
    rw [hchk] at h;exact absurd h (by decide)
  have hR:=ker_rows hs
  have hC:=ker_cols hs
  have hZ:=ker_size hs
  have hkl:(ascV t.length (kerF t)).length≤t.length:=ascV_len _ _
  refine Or.inl ?_
  refine Exists.intro (List.replicate 32 false) (And.intro (by decide+kernel) ?_)
  refine cq (minR_fn t hs) (And.intro rfl trivial) ?_
  have hRC:cR t (kerJ t)*cC t (kerJ t)≤14:=by
    have h2:cR t (kerJ t)*cC t (kerJ t)*(cooG t (kerJ t) (eJ t (kerJ t))).length=(ascV t.length (kerF t)).length:=by exact_mod_cast hZ
    rcases Nat.eq_zero_or_pos (cooG t (kerJ t) (eJ t (kerJ t))).length with h3|h3
    · rw [h3,Nat.mul_zero] at h2;omega
    · have:=Nat.le_mul_of_pos_right (cR t (kerJ t)*cC t (kerJ t)) h3
      omega
  have hRCi:(cR t (kerJ t):Int)*(cC t (kerJ t):Int)=((cR t (kerJ t)*cC t (kerJ t):Nat):Int):=(Int.natCast_mul _ _).symm
  refine And.intro (fun _=>?_) (fun h=>absurd (show (cR t (kerJ t):Int)=((mnL t (rgtF t) t.length).length:Int) by rw [hR]) h)
  refine cq (minL_fn t hs) (And.intro rfl trivial) ?_
  refine And.intro (fun _=>?_) (fun h=>absurd (show (cC t (kerJ t):Int)=((mnL t (lftF t) t.length).length:Int) by rw [hC]) h)
  refine And.intro (show -9223372036854775808≤(cR t (kerJ t):Int)*(cC t (kerJ t):Int)∧(cR t (kerJ t):Int)*(cC t (kerJ t):Int)≤9223372036854775807 by omega) ?_
  refine And.intro (show -9223372036854775808≤(cR t (kerJ t):Int)*(cC t (kerJ t):Int)*((cooG t (kerJ t) (eJ t (kerJ t))).length:Int)∧(cR t (kerJ t):Int)*(cC t (kerJ t):Int)*((cooG t (kerJ t) (eJ t (kerJ t))).length:Int)≤9223372036854775807 by rw [hZ];omega) ?_
  refine And.intro (fun _=>?_) (fun h=>absurd hZ h)
  refine cq awakeT_fn trivial ?_
  exact And.intro rfl trivial
end Go.Proofs.YtjabhmhhhlcopaaGreatDoor
end
section
namespace Go.Proofs.YtjabhmhhhlcopaaGreatDoor
open Go Go.AM
open Go.ChangeShapes Go.WideShapes Go.ChangeAt Go.RowKit Go.Deep
def noM:Msk:=fun _ _=>False
section
variable {H:Type} {enc:TypeId × Value→H} {P:Program} {w:World}
theorem wf_in {k:IntKind} {n:Int} (h:(Lit.int k n).wf=true):inK k n:=by
  simp only [Lit.wf,Bool.and_eq_true,decide_eq_true_eq] at h
  exact h
theorem weight_mem {e:TypeId} {d:DataW H} {x:Nat}:∀{l:List (DataW H)},d∈l→x∈d.weights P e→x∈DataW.weightsAll P e l
  |[],h,_=>by cases h
  |c::l,h,hx=>by
   simp only [DataW.weightsAll,List.mem_append]
   rcases List.mem_cons.1 h with rfl|h
   · exact .inl hx
   · exact .inr (weight_mem h hx)
theorem rows_rep {t e q:TypeId} {n:Nat} {v:Value} {y:DataW H × List MemPlace} (ht:P.underlying t=some (.slice e)) (he:P.underlying e=some (.slice q)) (hq:P.underlying q=some (.int .i64)) (ce:P.cellsOf e=1) (cq:P.cellsOf q=1)
    (be:1≤P.bytesOf e) (bq:1≤P.bytesOf q) (h:DataW.trod enc P w 0 (fun _=>true) true n t [v]=some y) (hw:∀x∈y.1.weights P t,x≤reachBytes):∃l,RepC noEnv w noM (.ro (.rows .i64 l)) v:=by
  have hrb:reachBytes=140737488351232:=rfl
  rcases open_int_rows ht he hq ce cq h with ⟨hv,_⟩|⟨a,len,cap,A,L,C,Z,hv,_,hl,hm,hy,hrows⟩
  · obtain rfl:v= .slice none 0 0:=by simpa using hv
    exact ⟨[],Nat.zero_le _,none,0,rfl,Nat.le_refl _,.inl rfl⟩
  · obtain rfl:v= .slice (some a) len cap:=by simpa using hv
    subst hy
    have hlen:len*P.bytesOf e≤reachBytes:=by
      have:=hw ((len+(cap - len))*P.bytesOf e) (by simp [DataW.weights,ht])
      exact Nat.le_trans (Nat.mul_le_mul_right _ (by omega)) this
    have hlen1:len≤reachBytes:=Nat.le_trans (by have:=Nat.mul_le_mul_left len be;omega) hlen
    have hL:∀r,r<len→L r≤reachBytes:=fun r hr=>by
      obtain ⟨_,h1,h2,h3,_,h4,_⟩:=hrows r (by omega)
      cases hA:A r with
      |none=>have:=h4 hA;omega
      |some a'=>
       have hx:(L r+((Z r).length - L r))*P.bytesOf q≤reachBytes:=by
         refine hw _ ?_
         simp only [DataW.weights,ht,List.mem_cons,List.mem_append]
         refine .inr (.inl (weight_mem (d:=intRow .i64 (A r) (L r) (Z r)) (List.mem_map.2 ⟨r,List.mem_range.2 hr,rfl⟩) ?_))
         rw [hA]
         simp [intRow,DataW.weights,he,lits]
         left
         rw [Nat.min_eq_left (by omega)]
       have h5:L r*1≤(L r+((Z r).length - L r))*P.bytesOf q:=Nat.mul_le_mul (by omega) bq
       omega
    refine ⟨(List.range len).map fun r=>(Z r).take (L r),?_⟩
    have hll:(RO.rows .i64 ((List.range len).map fun r=>(Z r).take (L r))).len=len:=by simp [RO.len]
    refine ⟨by rw [hll];exact Nat.le_trans hlen1 (by rw [hrb];decide),some a,cap,by rw [hll],by rw [hll];exact hl,?_⟩
    by_cases h0:len=0
    · exact .inl (by rw [RO.cells,hll,h0,Nat.zero_mul])
    have hcell0:=(hrows 0 (by omega)).1
    obtain ⟨b,off,spot⟩:=a
    have hspot:spot=none:=by simpa [Addr.add] using World.cell?_spot hcell0
    subst hspot
    refine .inr ⟨b,off,rfl,fun r hr=>?_⟩
    have hr:r<len:=by simpa [RO.cells,hll,RO.sz] using hr
    obtain ⟨h1,h2,h3,h4,h5,h6,h7⟩:=hrows r (by omega)
    refine ⟨.slice (A r) (L r) (C r),by rw [←add_plain];exact h1,fun hh=>hh,?_⟩
    have hget:((List.range len).map fun r=>(Z r).take (L r)).getD r []=(Z r).take (L r):=by simp [List.getD,hr]
    show SlI w noM .i64 (((List.range len).map fun r=>(Z r).take (L r)).getD r []) _
    rw [hget]
    have hzl:((Z r).take (L r)).length=L r:=by rw [List.length_take];omega
    refine ⟨by rw [hzl];have:=hL r hr;simp only [LB];omega,A r,C r,by rw [hzl],by rw [hzl];exact h2,?_⟩
    by_cases hl0:L r=0
    · exact .inl (by rw [hzl,hl0])
    cases hA:A r with
    |none=>have:=h6 hA;omega
    |some a'=>
     obtain ⟨h8,h9⟩:=h7 a' hA
     obtain ⟨b',off',spot'⟩:=a'
     have hspot:spot'=none:=by simpa [Addr.add] using World.cell?_spot (h9 0 (by omega))
     subst hspot
     refine .inr ⟨b',off',rfl,fun c hc=>?_⟩
     rw [hzl] at hc
     have hg2:((Z r).take (L r)).getD c 0=(Z r).getD c 0:=by simp [List.getD,hc]
     refine ⟨.int .i64 ((Z r).getD c 0),by rw [←add_plain];exact h9 c (by omega),fun hh=>hh,by rw [hg2],?_⟩
     rw [hg2]
     refine wf_in (h5 _ ?_)
     have:c<(Z r).length:=by omega
     simp [List.getD,this]
theorem stp_heap {W W':World} (hs:Stp (fun _ _=>False) W W') {b:Nat} (hb:b<W.heap.size):W'.heap[b]? =W.heap[b]? :=by
  rcases hs.2 b hb with h|⟨cs,cs',ty,h1,h2,h3,h4⟩|⟨_,_,_,_,_,_,h⟩
  · exact h
  · rw [h1,h2]
    have:cs'=cs:=Array.ext_getElem? fun i=>h4 i (by simp)
    rw [this]
  · exact h.elim
theorem stp_trod {t:TypeId} (hl:laidOutB P=true) (hr:P.readableRec t=true) (hrow:t<P.types.size) {W W':World} {v:Value} {d:DataW H} {ps:List MemPlace}
    (h:DataW.Trod enc P W 0 (fun _=>true) true t v d ps) (hs:Stp (fun _ _=>False) W W') (hlt:∀x∈ps,x.block<W.heap.size) (sp:Nat→Bool) (hsp:∀x∈ps,sp x.block=true):
    DataW.Trod enc P W' 0 sp true t v d ps:=
  WideElems.Trod_stays hl hr hrow h (fun x hx=>by
    have hb:=hlt x hx
    cases x with
    |cell b o=>exact World.cell?_of_block (w:=W) (stp_heap hs hb)
    |map b=>exact stp_heap hs hb) hsp
theorem stp_kept {W W':World} (hs:Stp (fun _ _=>False) W W') (may:MemPlace→Prop):W.keptBut W' may:=by
  refine ⟨hs.3.1.1,hs.3.1.2,fun i hi=>?_⟩
  rw [stp_heap hs hi]
  cases W.heap[i]? with
  |none=>exact rfl
  |some o=>cases o<;>first|exact ⟨rfl,rfl,rfl,fun _ _=>rfl⟩|exact .inr ⟨rfl,rfl⟩|exact rfl
theorem each_mem:∀{ts:List TypeId} {ds:List (DataW H)} {j:Nat} {t:TypeId} {d:DataW H} {x:Nat},ts[j]? =some t→ds[j]? =some d→x∈d.weights P t→x∈DataW.weightsEach P ts ds
  |[],_,j,_,_,_,h,_,_=>by simp at h
  |_::_,[],j,_,_,_,_,h,_=>by simp at h
  |t::ts,d::ds,0,t',d',x,h1,h2,hx=>by
   simp at h1 h2
   subst h1;subst h2
   simp [DataW.weightsEach,hx]
  |t::ts,d::ds,j+1,t',d',x,h1,h2,hx=>by
   have:=each_mem (ts:=ts) (ds:=ds) (j:=j) (by simpa using h1) (by simpa using h2) hx
   simp [DataW.weightsEach,this]
theorem rows_arg {t e q:TypeId} {r:Reach} {b0:Nat} {v:Value} {d:DataW H} {p:List MemPlace} (ht:P.underlying t=some (.slice e)) (he:P.underlying e=some (.slice q)) (hq:P.underlying q=some (.int .i64)) (ce:P.cellsOf e=1) (cq:P.cellsOf q=1)
    (be:1≤P.bytesOf e) (bq:1≤P.bytesOf q) (hv:Value.okWide P w r b0 t v) (h:DataW.Trod enc P w 0 (fun _=>true) true t v d p) (hw:∀x∈d.weights P t,x≤reachBytes):∃l,RepT noEnv w noM (.ro (.rows .i64 l)) v:=by
  obtain ⟨a,len,cap,rfl⟩:=okWide_slice ht hv
  obtain ⟨fuel,hf⟩:=h
  exact rows_rep ht he hq ce cq be bq (y:=(d,p)) hf hw
end
end Go.Proofs.YtjabhmhhhlcopaaGreatDoor
end
