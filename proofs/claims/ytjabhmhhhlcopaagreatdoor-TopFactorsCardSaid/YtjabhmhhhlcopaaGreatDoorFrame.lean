import Derived.Test.YtjabhmhhhlcopaaGreatDoorSeries
import Derived.Test.YtjabhmhhhlcopaaGreatDoorIdealLaw
import Derived.Test.YtjabhmhhhlcopaaGreatDoorClimbLaw
import Derived.Test.YtjabhmhhhlcopaaGreatDoorSub
import Derived.Test.YtjabhmhhhlcopaaGreatDoorBase
import Derived.Test.YtjabhmhhhlcopaaGreatDoorRows
import Derived.Deep.Matrix
import Derived.Deep.Fields
import Derived.SizedLaws
import Derived.Carry
import Derived.WideKeyArgs
import Derived.ProofKit
import Derived.OpenShut
section
namespace Go.Proofs.YtjabhmhhhlcopaaGreatDoor
open Go Go.AM
set_option maxRecDepth 100000
set_option maxHeartbeats 1000000 in
theorem iquot_fn (t:List (List Int)) (h:Semi t) (l:List Int) (hl:IdL t l):QF 15 [.ro (.rows .i64 t),.ro (.ints .i64 l)] (.tup [.ro (.rows .i64 (quotQ t l)),.ro (.ints .i64 (clsQ t l)),.int .i64 0]):=mkQ Tryz.func15 (by decide+kernel) rfl (Nat.le_of_ble_eq_true rfl) fun _=>by
  have hmost:=h.most
  have hpos:=hl.1
  have hsl:=setB_len t.length (setI l)
  have hrl:=restQ_len t l
  refine Or.inl (cq (valid_fn t) (And.intro rfl trivial) ?_)
  refine And.intro (fun h1=>absurd (valid_zero.2 h) h1) (fun _=>?_)
  refine Or.inl (cq (isIdeal_fn t h.toSh l) (And.intro rfl (And.intro rfl trivial)) ?_)
  refine And.intro (fun h1=>?_) (fun _=>?_)
  · rw [idB_true.2 hl] at h1;cases h1
  refine Or.inl (cq (marked_fn t.length l (by omega) hl.2.2.1) (And.intro rfl (And.intro rfl trivial)) ?_)
  refine And.intro (by omega) ?_
  refine And.intro (by omega) ?_
  refine And.intro (by omega) ?_
  refine Exists.intro [36]<|lp2 (fun (x:Nat) (_:List Int)=>[(39,.int .i64 x),(10,.vec 36)]) (fun x C=>[(32,.vec 0 (.ints .i64 C) []),(36,.vec 0 (.ints .i64 (restTo t l x)) [])]) (fun x C=>x≤t.length∧C.length=t.length∧∀y,y<t.length→C.getD y 0=if y<x then clsV t l y else 0) (fun x _=>t.length - x) 0 (List.replicate t.length 0) ⟨Nat.zero_le _,by simp,fun y hy=>by simp [hy]⟩ (by repeat' first|refine And.intro ?_ ?_|exact True.intro|(show (_:Int)=(_:Int);omega)|omega|exact rfl|(simp only [RO.len];omega)) ?_
  rintro x C ⟨hx,hC,hCy⟩
  have hnl:=nonTo_len t l x
  have hrt:(restTo t l x).length=(nonTo t l x).length+1:=rfl
  refine And.intro (fun h1=>?_) (fun h1=>?_)
  · have hxl:x<t.length:=by omega
    refine And.intro (by omega) ?_
    refine And.intro (fun h2=>?_) (fun h2=>?_)
    · have h2:setI l x=false:=by
        have h2:(!(setB t.length (setI l)).getD x false)=true:=h2
        rw [setB_get hxl] at h2;simpa using h2
      have e:restTo t l x++[(x:Int)]=restTo t l (x+1):=by unfold restTo;rw [nonTo_yes hxl h2];rfl
      refine And.intro (by omega) ?_
      refine And.intro (by omega) ?_
      refine And.intro (by rw [List.length_append,List.length_singleton];omega) ?_
      refine And.intro (by omega) ?_
      refine nx (x+1,C.set x (((restTo t l x).length:Nat):Int)) ⟨by omega,by rw [List.length_set];exact hC,fun y hy=>?_⟩ (show t.length - (x+1)<t.length - x by omega) ?_
      · by_cases e1:y=x
        · subst e1
          rw [getD_set_eq (by omega),if_pos (by omega)]
          unfold clsV;rw [if_neg (by simp [h2]),hrt]
        · rw [getD_set_ne (Ne.symm e1),hCy y hy]
          by_cases e2:y<x
          · rw [if_pos e2,if_pos (by omega)]
          · rw [if_neg e2,if_neg (by omega)]
      · repeat' first|refine And.intro ?_ ?_|exact True.intro|exact congrArg (RO.ints .i64) e|(show (_:Int)=(_:Int);omega)|omega|exact rfl
    · have h2:setI l x=true:=by
        have h2:(!(setB t.length (setI l)).getD x false)=false:=h2
        rw [setB_get hxl] at h2;simpa using h2
      have e:restTo t l x=restTo t l (x+1):=by unfold restTo;rw [nonTo_no hxl h2]
      refine And.intro (by omega) ?_
      refine nx (x+1,C) ⟨by omega,hC,fun y hy=>?_⟩ (show t.length - (x+1)<t.length - x by omega) ?_
      · rw [hCy y hy]
        by_cases e1:y=x
        · subst e1
          rw [if_neg (by omega),if_pos (by omega)]
          unfold clsV;rw [if_pos h2]
        · by_cases e2:y<x
          · rw [if_pos e2,if_pos (by omega)]
          · rw [if_neg e2,if_neg (by omega)]
      · repeat' first|refine And.intro ?_ ?_|exact True.intro|exact congrArg (RO.ints .i64) e|(show (_:Int)=(_:Int);omega)|omega|exact rfl
  · have hxn:x=t.length:=by omega
    subst hxn
    have hCe:C=clsQ t l:=ext_getD 0 (by rw [clsQ_len];exact hC) fun y hy=>by rw [hCy y (by omega),if_pos (by omega),clsQ_get (by omega)]
    subst hCe
    have hcl:=clsQ_len t l
    refine And.intro (by omega) ?_
    refine And.intro (show ((restQ t l).length:Int)≤2199023255552 by omega) ?_
    refine Or.inl ?_
    refine Exists.intro []<|lp2 (fun (i:Nat) (_:List (List Int))=>[(62,.int .i64 i)]) (fun _ Q=>[(59,.vec 0 (.rows .i64 Q) [])]) (fun i Q=>i≤(restQ t l).length∧Q.length=(restQ t l).length∧∀j,j<i→Q.getD j []=(quotQ t l).getD j []) (fun i _=>(restQ t l).length - i) 0 (List.replicate (restQ t l).length []) ⟨Nat.zero_le _,by simp,by omega⟩ (by repeat' first|refine And.intro ?_ ?_|exact True.intro|(show (_:Int)=(_:Int);omega)|omega|exact rfl|(simp only [RO.len];omega)) ?_
    rintro i Q ⟨hi,hQ,hQj⟩
    refine And.intro (fun h2=>?_) (fun h2=>?_)
    · have h2:(i:Int)<((restQ t l).length:Int):=h2
      have hil:i<(restQ t l).length:=by omega
      have gi:=restQ_get hl hil
      refine And.intro (show 0≤(i:Int)∧(i:Int)<((restQ t l).length:Int) by omega) ?_
      refine And.intro (by omega) ?_
      refine And.intro (show ((restQ t l).length:Int)≤17592186044416 by omega) ?_
      refine And.intro (by omega) ?_
      refine And.intro (by omega) ?_
      refine Exists.intro []<|lp2 (fun (k:Nat) (_:List Int)=>[(75,.int .i64 k)]) (fun _ r=>[(71,.vec 0 (.ints .i64 r) [])]) (fun k r=>k≤(restQ t l).length∧r.length=(restQ t l).length∧∀j,j<k→r.getD j 0=quotV t l i j) (fun k _=>(restQ t l).length - k) 0 (List.replicate (restQ t l).length 0) ⟨Nat.zero_le _,by simp,by omega⟩ (by repeat' first|refine And.intro ?_ ?_|exact True.intro|(show (_:Int)=(_:Int);omega)|omega|exact rfl|(simp;omega)) ?_
      rintro k r ⟨hk,hr,hrj⟩
      refine And.intro (fun h3=>?_) (fun h3=>?_)
      · have h3:(k:Int)<((restQ t l).length:Int):=h3
        have hkl:k<(restQ t l).length:=by omega
        have gk:=restQ_get hl hkl
        have he:=h.toSh.ent (x:=((restQ t l).getD i 0).toNat) (y:=((restQ t l).getD k 0).toNat) (by omega) (by omega)
        have hrow:=h.toSh.len (x:=((restQ t l).getD i 0).toNat) (by omega)
        have hcl:=clsQ_len t l
        have hv:(clsQ t l).getD ((t.getD ((restQ t l).getD i 0).toNat []).getD ((restQ t l).getD k 0).toNat 0).toNat 0=quotV t l i k:=by
          rw [he.1,Int.toNat_natCast,clsQ_get he.2];rfl
        refine And.intro (by omega) ?_
        refine Or.inl ?_
        refine Exists.intro [false,false,false,false,false,false,false,false,false,false,false,false,false,false,false,false,true] (And.intro (by decide+kernel) ?_)
        refine And.intro (by omega) ?_
        refine And.intro (fun _=>?_) (fun h4=>absurd rfl h4)
        refine And.intro (show 0≤(restQ t l).getD i 0∧(restQ t l).getD i 0<(t.length:Int) from ⟨gi.1,gi.2.1⟩) ?_
        refine And.intro (show 0≤(restQ t l).getD k 0∧(restQ t l).getD k 0<((t.getD ((restQ t l).getD i 0).toNat []).length:Int) by rw [hrow];exact ⟨gk.1,gk.2.1⟩) ?_
        refine And.intro (show 0≤(t.getD ((restQ t l).getD i 0).toNat []).getD ((restQ t l).getD k 0).toNat 0∧(t.getD ((restQ t l).getD i 0).toNat []).getD ((restQ t l).getD k 0).toNat 0<((clsQ t l).length:Int) by rw [he.1,hcl];omega) ?_
        refine And.intro (by omega) ?_
        refine And.intro (by omega) ?_
        refine And.intro (by omega) ?_
        refine nx (k+1,r.set k (quotV t l i k)) ⟨by omega,by rw [List.length_set];exact hr,fun j hj=>?_⟩ (show (restQ t l).length - (k+1)<(restQ t l).length - k by omega) ?_
        · by_cases e1:j=k
          · subst e1;rw [getD_set_eq (by omega)]
          · rw [getD_set_ne (Ne.symm e1)];exact hrj j (by omega)
        · repeat' first|refine And.intro ?_ ?_|exact True.intro|exact congrArg (fun v=>RO.ints .i64 (r.set k v)) hv|(show (_:Int)=(_:Int);omega)|omega|exact rfl
      · have h3:((restQ t l).length:Int)≤(k:Int):=h3
        have e:r=(quotQ t l).getD i []:=by
          rw [quotQ_row hil]
          refine ext_getD 0 (by simp;exact hr) fun j hj=>?_
          rw [hrj j (by omega),map_range_getD _ _ _ _ (by omega)]
        refine And.intro (by omega) ?_
        refine nx (i+1,Q.set i r) ⟨by omega,by rw [List.length_set];exact hQ,fun j hj=>?_⟩ (show (restQ t l).length - (i+1)<(restQ t l).length - i by omega) (by repeat' first|refine And.intro ?_ ?_|exact True.intro|(show (_:Int)=(_:Int);omega)|omega|exact rfl|(simp only [RO.len];omega))
        by_cases e1:j=i
        · subst e1;rw [getD_set_eq (by omega),e]
        · rw [getD_set_ne (Ne.symm e1)];exact hQj j (by omega)
    · have h2:((restQ t l).length:Int)≤(i:Int):=h2
      have e:Q=quotQ t l:=ext_getD [] (by rw [quotQ_len];exact hQ) fun j hj=>hQj j (by omega)
      subst e
      exact ⟨⟨trivial,rfl⟩,⟨trivial,rfl⟩,rfl,trivial⟩
end Go.Proofs.YtjabhmhhhlcopaaGreatDoor
end
section
namespace Go.Proofs.YtjabhmhhhlcopaaGreatDoor
open Go Go.AM
set_option maxRecDepth 100000
set_option maxHeartbeats 1000000
theorem topF_fn (t:List (List Int)):QF 3 [.ro (.rows .i64 t)] (.bool (.lit true)):=mkQ Tryz.func3 (by decide+kernel) rfl (Nat.le_of_ble_eq_true rfl) fun _=>by
  refine Or.inl (cq (tvalid_fn t 12) (And.intro rfl (And.intro rfl trivial)) ?_)
  refine And.intro (fun _=>Or.inl (cq awakeT_fn trivial (And.intro rfl trivial))) (fun h1=>?_)
  have h1:(!decide ((t.length:Int)≤12∧validV t=0))=false:=h1
  rw [Bool.not_eq_false'] at h1
  have h1:=of_decide_eq_true h1
  have hs:Semi t:=valid_zero.1 h1.2
  have hn:t.length≤12:=by omega
  have hsl:=serV_len t
  have hkj:=kerJ_ok hs
  have hnj:numJ t≤t.length:=numJ_le t
  have hcl:(classJ t).length=t.length:=classJ_len t
  refine Or.inl (cq (series_fn t hs) (And.intro rfl trivial) ?_)
  refine Or.inl (cq (green_fn t hs) (And.intro rfl trivial) ?_)
  refine And.intro (fun h=>absurd (show ((serV t).length:Int)<1 from h) (by omega)) (fun _=>?_)
  refine And.intro (fun h=>absurd (show ((classJ t).length:Int)=(t.length:Int) by omega) h) (fun _=>?_)
  refine Exists.intro []<|lp2 (fun (i:Nat) (_:Nat)=>[(5,.int .i64 i)]) (fun i _=>[]) (fun i _=>1≤i∧i≤(serV t).length) (fun i _=>(serV t).length - i) 1 0 ⟨Nat.le_refl _,by omega⟩ (by repeat' first|refine And.intro ?_ ?_|exact True.intro|(show (_:Int)=(_:Int);omega)|omega|exact rfl|(simp only [RO.len];omega)) ?_
  rintro i _ ⟨hi0,hi⟩
  refine And.intro (fun h2=>?_) (fun h2=>?_)
  · have h2:(i:Int)<((serV t).length:Int):=h2
    have hij:i<numJ t:=by omega
    have hc:=fac_cl hs hij
    have hcn:=asc_le hc
    have hL1:((i:Int) - 1).toNat=i - 1:=by omega
    have hgi:(serV t).getD ((i:Nat):Int).toNat []=facS t i:=by rw [Int.toNat_natCast]
    have hgl:(serV t).getD ((i:Int) - 1).toNat []=facS t (i - 1):=by rw [hL1]
    refine And.intro (by omega) ?_
    refine Or.inl (cq (sub_fn t hs (facS t i) hc hcn) (And.intro rfl (And.intro rfl trivial)) ?_)
    refine And.intro (by omega) ?_
    refine And.intro (by omega) ?_
    refine Or.inl (cq (rset_fn (facS t (i - 1)) t.length (by omega)) (And.intro (congrArg (RO.ints .i64) hgl) (And.intro rfl trivial)) ?_)
    refine And.intro (by omega) ?_
    refine Exists.intro []<|lp2 (fun (k:Nat) (c:Int)=>[(71,.int .i64 k),(10,.int .i64 c),(8,.vec 83)]) (fun k _=>[(83,.vec 0 (.ints .i64 (memTo (setB (facS t i).length fun k=>setI (facS t (i - 1)) (eL (facS t i) k)) k)) [])]) (fun k c=>k≤(facS t i).length∧((c= -1∧∀q,q<k→setI (facS t (i - 1)) (eL (facS t i) q)=true)∨c=(facJ t i:Int))) (fun k _=>(facS t i).length - k) 0 (-1) ⟨Nat.zero_le _,.inl ⟨rfl,fun q hq=>absurd hq (Nat.not_lt_zero _)⟩⟩ (by repeat' first|refine And.intro ?_ ?_|exact True.intro|(show (_:Int)=(_:Int);omega)|omega|exact rfl|(simp only [RO.len];omega)) ?_
    rintro k c ⟨hk,hc2⟩
    have hml:=memTo_len (l:=setB (facS t i).length fun k=>setI (facS t (i - 1)) (eL (facS t i) k)) (k:=k)
    refine And.intro (fun h3=>?_) (fun h3=>?_)
    · have h3:(k:Int)<((facS t i).length:Int):=h3
      have he:=hc.el (i:=k) (by omega)
      have hgk:(((serV t).getD ((i:Nat):Int).toNat []).getD ((k:Nat):Int).toNat 0)=(eL (facS t i) k:Int):=by rw [hgi,Int.toNat_natCast];exact he.2.1
      have hsb:(setB t.length fun x=>(facS t (i - 1)).contains (x:Int)).length=t.length:=setB_len _ _
      refine And.intro (by omega) ?_
      refine And.intro (show 0≤_∧_<((setB t.length fun x=>(facS t (i - 1)).contains (x:Int)).length:Int) by rw [hgk,hsb];omega) ?_
      have hb:(setB t.length fun x=>(facS t (i - 1)).contains (x:Int)).getD (((serV t).getD ((i:Nat):Int).toNat []).getD ((k:Nat):Int).toNat 0).toNat false=setI (facS t (i - 1)) (eL (facS t i) k):=by rw [hgk,Int.toNat_natCast,setB_get he.1];rfl
      refine And.intro (fun h4=>?_) (fun h4=>?_)
      · have h4:_=true:=hb.symm.trans h4
        have hB:(setB (facS t i).length fun k=>setI (facS t (i - 1)) (eL (facS t i) k)).getD k false=true:=by rw [setB_get (by omega)];exact h4
        refine And.intro (by rw [←memTo_yes hB];have:=memTo_len (l:=setB (facS t i).length fun k=>setI (facS t (i - 1)) (eL (facS t i) k)) (k:=k+1);omega) ?_
        refine And.intro (by omega) ?_
        refine nx (k+1,c) ⟨by omega,hc2.imp (fun hh=>⟨hh.1,fun q hq=>(Nat.lt_or_ge q k).elim (hh.2 q) fun hq2=>by rw [show q=k by omega];exact h4⟩) id⟩ (show (facS t i).length - (k+1)<(facS t i).length - k by omega) ?_
        repeat' first|refine And.intro ?_ ?_|exact True.intro|exact congrArg (RO.ints .i64) (memTo_yes hB).symm|(show (_:Int)=(_:Int);omega)|omega|exact rfl
      · have h4:_=false:=hb.symm.trans h4
        have hB:(setB (facS t i).length fun k=>setI (facS t (i - 1)) (eL (facS t i) k)).getD k false=false:=by rw [setB_get (by omega)];exact h4
        have hJ:(classJ t).getD (((serV t).getD ((i:Nat):Int).toNat []).getD ((k:Nat):Int).toNat 0).toNat 0=(facJ t i:Int):=by rw [hgk,Int.toNat_natCast];exact fac_out hs hi0 hij (by omega) h4
        refine And.intro (show 0≤_∧_<((classJ t).length:Int) by rw [hgk];omega) ?_
        refine And.intro (by omega) ?_
        refine nx (k+1,(facJ t i:Int)) ⟨by omega,.inr rfl⟩ (show (facS t i).length - (k+1)<(facS t i).length - k by omega) ?_
        repeat' first|refine And.intro ?_ ?_|exact True.intro|exact hJ|exact congrArg (RO.ints .i64) (memTo_no hB).symm|(show (_:Int)=(_:Int);omega)|omega|exact rfl
    · have h3:((facS t i).length:Int)≤(k:Int):=h3
      have hke:k=(facS t i).length:=by omega
      have hJc:c=(facJ t i:Int):=hc2.elim (fun hh=>by
        obtain ⟨q,hq,hf⟩:=fac_new hs hi0 hij
        rw [hh.2 q (by omega)] at hf;cases hf) id
      have hin:memTo (setB (facS t i).length fun k=>setI (facS t (i - 1)) (eL (facS t i) k)) k=facI (facS t i) (facS t (i - 1)):=by
        unfold facI ascV memV;rw [setB_len,hke]
      refine And.intro (fun h=>absurd rfl h) (fun _=>?_)
      refine And.intro (fun h=>absurd (show c<0 from h) (by omega)) (fun _=>?_)
      refine Or.inl (cq (iquot_fn (subT t (facS t i)) (sub_semi hs hc hcn) (facI (facS t i) (facS t (i - 1))) (fac_id hs hi0 hij)) (And.intro rfl (And.intro (congrArg (RO.ints .i64) hin) trivial)) ?_)
      refine Or.inl (cq (prin_fn t hs (facJ t i) (fac_J hs hij).1) (And.intro rfl (And.intro hJc trivial)) ?_)
      refine And.intro (fun h=>absurd rfl h) (fun _=>?_)
      refine And.intro (fun h=>absurd rfl h) (fun _=>?_)
      have heq:=fac_eq hs hi0 hij
      have hq0:0<(quotQ (subT t (facS t i)) (facI (facS t i) (facS t (i - 1)))).length:=by
        rw [←heq];unfold prinTab;rw [List.length_map];exact (prin_len (fac_J hs hij).1).1
      refine And.intro (fun h=>absurd (show ((quotQ (subT t (facS t i)) (facI (facS t i) (facS t (i - 1)))).length:Int)=0 from h) (by omega)) (fun _=>?_)
      refine Or.inl ?_
      refine cq (sameRows_fn (prinTab t (facJ t i)) (quotQ (subT t (facS t i)) (facI (facS t i) (facS t (i - 1))))) (And.intro rfl (And.intro rfl trivial)) ?_
      refine And.intro (fun h=>?_) (fun _=>?_)
      · have h:(!decide (prinTab t (facJ t i)=quotQ (subT t (facS t i)) (facI (facS t i) (facS t (i - 1)))))=true:=h
        rw [decide_eq_true heq] at h;exact absurd h (by decide)
      refine And.intro (by omega) ?_
      refine nx (i+1,0) ⟨by omega,by omega⟩ (show (serV t).length - (i+1)<(serV t).length - i by omega) ?_
      repeat' first|refine And.intro ?_ ?_|exact True.intro|(show (_:Int)=(_:Int);omega)|omega|exact rfl|(simp only [RO.len];omega)
  · have hx:=kerX_ok hs
    have hc:=fac_cl hs (s:=0) (by omega)
    have hcn:=asc_le hc
    have eS:(serV t).getD (Int.toNat 0) []=facS t 0:=rfl
    have eK:facS t 0=ascV t.length (kerF t):=ser_ker hs
    have hpos:=hc.pos
    have e0:(facS t 0).getD (Int.toNat 0) 0=(kerX t:Int):=by rw [eK];exact hx.2.2.2
    have hjj:(classJ t).getD (((serV t).getD (Int.toNat 0) []).getD (Int.toNat 0) 0).toNat 0=(kerJ t:Int):=by rw [eS,e0,Int.toNat_natCast];exact hkj.1
    refine Or.inl ?_
    refine Exists.intro (List.replicate 18 false) (And.intro (by decide+kernel) ?_)
    refine And.intro (by omega) ?_
    refine And.intro (show (0:Int)≤0∧(0:Int)<((facS t 0).length:Int) by omega) ?_
    refine And.intro (show 0≤((serV t).getD (Int.toNat 0) []).getD (Int.toNat 0) 0∧((serV t).getD (Int.toNat 0) []).getD (Int.toNat 0) 0<((classJ t).length:Int) by rw [eS,e0];omega) ?_
    refine cq (prin_fn t hs (kerJ t) hkj.2) (And.intro rfl (And.intro hjj trivial)) ?_
    refine And.intro (show (0:Int)≤0∧(0:Int)<((serV t).length:Int) by omega) ?_
    refine Or.inl (cq (sub_fn t hs (facS t 0) hc hcn) (And.intro rfl (And.intro rfl trivial)) ?_)
    have hkl:(subT t (facS t 0)).length=(facS t 0).length:=subT_len _ _
    refine And.intro (fun _=>?_) (fun h=>absurd rfl h)
    refine And.intro (fun _=>?_) (fun h=>absurd rfl h)
    refine And.intro (fun _=>?_) (fun h=>absurd (show ((subT t (facS t 0)).length:Int)≤0 from h) (by omega))
    refine Or.inl (cq (sameRows_fn (prinTab t (kerJ t)) (subT t (facS t 0))) (And.intro rfl (And.intro rfl trivial)) ?_)
    refine And.intro (fun _=>Or.inl (cq awakeT_fn trivial (And.intro rfl trivial))) (fun h=>?_)
    have h:decide (prinTab t (kerJ t)=subT t (facS t 0))=false:=h
    rw [decide_eq_true (fac_ker hs)] at h;cases h
end Go.Proofs.YtjabhmhhhlcopaaGreatDoor
end
section
namespace Go.Proofs.YtjabhmhhhlcopaaGreatDoor
open Go Go.AM
open Go.ChangeShapes Go.WideShapes Go.ChangeAt Go.RowKit Go.Deep
def noM:Msk:=fun _ _=>False
section
variable {H:Type} {enc:TypeId × Value→H} {P:Program} {w:World}
theorem wf_in {k:IntKind} {n:Int} (h:(Lit.int k n).wf=true):inK k n:=by
  simp only [Lit.wf,Bool.and_eq_true,decide_eq_true_eq] at h
  exact h
theorem weight_mem {e:TypeId} {d:DataW H} {x:Nat}:∀{l:List (DataW H)},d∈l→x∈d.weights P e→x∈DataW.weightsAll P e l
  |[],h,_=>by cases h
  |c::l,h,hx=>by
   simp only [DataW.weightsAll,List.mem_append]
   rcases List.mem_cons.1 h with rfl|h
   · exact .inl hx
   · exact .inr (weight_mem h hx)
theorem rows_rep {t e q:TypeId} {n:Nat} {v:Value} {y:DataW H × List MemPlace} (ht:P.underlying t=some (.slice e)) (he:P.underlying e=some (.slice q)) (hq:P.underlying q=some (.int .i64)) (ce:P.cellsOf e=1) (cq:P.cellsOf q=1)
    (be:1≤P.bytesOf e) (bq:1≤P.bytesOf q) (h:DataW.trod enc P w 0 (fun _=>true) true n t [v]=some y) (hw:∀x∈y.1.weights P t,x≤reachBytes):∃l,RepC noEnv w noM (.ro (.rows .i64 l)) v:=by
  have hrb:reachBytes=140737488351232:=rfl
  rcases open_int_rows ht he hq ce cq h with ⟨hv,_⟩|⟨a,len,cap,A,L,C,Z,hv,_,hl,hm,hy,hrows⟩
  · obtain rfl:v= .slice none 0 0:=by simpa using hv
    exact ⟨[],Nat.zero_le _,none,0,rfl,Nat.le_refl _,.inl rfl⟩
  · obtain rfl:v= .slice (some a) len cap:=by simpa using hv
    subst hy
    have hlen:len*P.bytesOf e≤reachBytes:=by
      have:=hw ((len+(cap - len))*P.bytesOf e) (by simp [DataW.weights,ht])
      exact Nat.le_trans (Nat.mul_le_mul_right _ (by omega)) this
    have hlen1:len≤reachBytes:=Nat.le_trans (by have:=Nat.mul_le_mul_left len be;omega) hlen
    have hL:∀r,r<len→L r≤reachBytes:=fun r hr=>by
      obtain ⟨_,h1,h2,h3,_,h4,_⟩:=hrows r (by omega)
      cases hA:A r with
      |none=>have:=h4 hA;omega
      |some a'=>
       have hx:(L r+((Z r).length - L r))*P.bytesOf q≤reachBytes:=by
         refine hw _ ?_
         simp only [DataW.weights,ht,List.mem_cons,List.mem_append]
         refine .inr (.inl (weight_mem (d:=intRow .i64 (A r) (L r) (Z r)) (List.mem_map.2 ⟨r,List.mem_range.2 hr,rfl⟩) ?_))
         rw [hA]
         simp [intRow,DataW.weights,he,lits]
         left
         rw [Nat.min_eq_left (by omega)]
       have h5:L r*1≤(L r+((Z r).length - L r))*P.bytesOf q:=Nat.mul_le_mul (by omega) bq
       omega
    refine ⟨(List.range len).map fun r=>(Z r).take (L r),?_⟩
    have hll:(RO.rows .i64 ((List.range len).map fun r=>(Z r).take (L r))).len=len:=by simp [RO.len]
    refine ⟨by rw [hll];exact Nat.le_trans hlen1 (by rw [hrb];decide),some a,cap,by rw [hll],by rw [hll];exact hl,?_⟩
    by_cases h0:len=0
    · exact .inl (by rw [RO.cells,hll,h0,Nat.zero_mul])
    have hcell0:=(hrows 0 (by omega)).1
    obtain ⟨b,off,spot⟩:=a
    have hspot:spot=none:=by simpa [Addr.add] using World.cell?_spot hcell0
    subst hspot
    refine .inr ⟨b,off,rfl,fun r hr=>?_⟩
    have hr:r<len:=by simpa [RO.cells,hll,RO.sz] using hr
    obtain ⟨h1,h2,h3,h4,h5,h6,h7⟩:=hrows r (by omega)
    refine ⟨.slice (A r) (L r) (C r),by rw [←add_plain];exact h1,fun hh=>hh,?_⟩
    have hget:((List.range len).map fun r=>(Z r).take (L r)).getD r []=(Z r).take (L r):=by simp [List.getD,hr]
    show SlI w noM .i64 (((List.range len).map fun r=>(Z r).take (L r)).getD r []) _
    rw [hget]
    have hzl:((Z r).take (L r)).length=L r:=by rw [List.length_take];omega
    refine ⟨by rw [hzl];have:=hL r hr;simp only [LB];omega,A r,C r,by rw [hzl],by rw [hzl];exact h2,?_⟩
    by_cases hl0:L r=0
    · exact .inl (by rw [hzl,hl0])
    cases hA:A r with
    |none=>have:=h6 hA;omega
    |some a'=>
     obtain ⟨h8,h9⟩:=h7 a' hA
     obtain ⟨b',off',spot'⟩:=a'
     have hspot:spot'=none:=by simpa [Addr.add] using World.cell?_spot (h9 0 (by omega))
     subst hspot
     refine .inr ⟨b',off',rfl,fun c hc=>?_⟩
     rw [hzl] at hc
     have hg2:((Z r).take (L r)).getD c 0=(Z r).getD c 0:=by simp [List.getD,hc]
     refine ⟨.int .i64 ((Z r).getD c 0),by rw [←add_plain];exact h9 c (by omega),fun hh=>hh,by rw [hg2],?_⟩
     rw [hg2]
     refine wf_in (h5 _ ?_)
     have:c<(Z r).length:=by omega
     simp [List.getD,this]
theorem stp_heap {W W':World} (hs:Stp (fun _ _=>False) W W') {b:Nat} (hb:b<W.heap.size):W'.heap[b]? =W.heap[b]? :=by
  rcases hs.2 b hb with h|⟨cs,cs',ty,h1,h2,h3,h4⟩|⟨_,_,_,_,_,_,h⟩
  · exact h
  · rw [h1,h2]
    have:cs'=cs:=Array.ext_getElem? fun i=>h4 i (by simp)
    rw [this]
  · exact h.elim
theorem stp_trod {t:TypeId} (hl:laidOutB P=true) (hr:P.readableRec t=true) (hrow:t<P.types.size) {W W':World} {v:Value} {d:DataW H} {ps:List MemPlace}
    (h:DataW.Trod enc P W 0 (fun _=>true) true t v d ps) (hs:Stp (fun _ _=>False) W W') (hlt:∀x∈ps,x.block<W.heap.size) (sp:Nat→Bool) (hsp:∀x∈ps,sp x.block=true):
    DataW.Trod enc P W' 0 sp true t v d ps:=
  WideElems.Trod_stays hl hr hrow h (fun x hx=>by
    have hb:=hlt x hx
    cases x with
    |cell b o=>exact World.cell?_of_block (w:=W) (stp_heap hs hb)
    |map b=>exact stp_heap hs hb) hsp
theorem stp_kept {W W':World} (hs:Stp (fun _ _=>False) W W') (may:MemPlace→Prop):W.keptBut W' may:=by
  refine ⟨hs.3.1.1,hs.3.1.2,fun i hi=>?_⟩
  rw [stp_heap hs hi]
  cases W.heap[i]? with
  |none=>exact rfl
  |some o=>cases o<;>first|exact ⟨rfl,rfl,rfl,fun _ _=>rfl⟩|exact .inr ⟨rfl,rfl⟩|exact rfl
theorem each_mem:∀{ts:List TypeId} {ds:List (DataW H)} {j:Nat} {t:TypeId} {d:DataW H} {x:Nat},ts[j]? =some t→ds[j]? =some d→x∈d.weights P t→x∈DataW.weightsEach P ts ds
  |[],_,j,_,_,_,h,_,_=>by simp at h
  |_::_,[],j,_,_,_,_,h,_=>by simp at h
  |t::ts,d::ds,0,t',d',x,h1,h2,hx=>by
   simp at h1 h2
   subst h1;subst h2
   simp [DataW.weightsEach,hx]
  |t::ts,d::ds,j+1,t',d',x,h1,h2,hx=>by
   have:=each_mem (ts:=ts) (ds:=ds) (j:=j) (by simpa using h1) (by simpa using h2) hx
   simp [DataW.weightsEach,this]
theorem rows_arg {t e q:TypeId} {r:Reach} {b0:Nat} {v:Value} {d:DataW H} {p:List MemPlace} (ht:P.underlying t=some (.slice e)) (he:P.underlying e=some (.slice q)) (hq:P.underlying q=some (.int .i64)) (ce:P.cellsOf e=1) (cq:P.cellsOf q=1)
    (be:1≤P.bytesOf e) (bq:1≤P.bytesOf q) (hv:Value.okWide P w r b0 t v) (h:DataW.Trod enc P w 0 (fun _=>true) true t v d p) (hw:∀x∈d.weights P t,x≤reachBytes):∃l,RepT noEnv w noM (.ro (.rows .i64 l)) v:=by
  obtain ⟨a,len,cap,rfl⟩:=okWide_slice ht hv
  obtain ⟨fuel,hf⟩:=h
  exact rows_rep ht he hq ce cq be bq (y:=(d,p)) hf hw
end
end Go.Proofs.YtjabhmhhhlcopaaGreatDoor
end
