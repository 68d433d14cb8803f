import Derived.Test.YtjabhmhhhlcopaaGreatDoorDeep
import Derived.Test.YtjabhmhhhlcopaaGreatDoorGreen
import Derived.Test.YtjabhmhhhlcopaaGreatDoorCooW
import Derived.Test.YtjabhmhhhlcopaaGreatDoorGrnLaw
import Derived.Test.YtjabhmhhhlcopaaGreatDoorAwk
section
namespace Go.Proofs.YtjabhmhhhlcopaaGreatDoor
open Go Go.AM
set_option maxRecDepth 100000
set_option maxHeartbeats 4000000
theorem gbox_k (t:List (List Int)) (h:Semi t) (j:Nat) (hj:j<numJ t):fnK TY SPD Tryz.f19 [.ro (.rows .i64 t),.int .i64 j]
    (.tup [.agg [.ro (.ints .i64 (rowsN t j)),.ro (.ints .i64 (colsN t j)),.ro (.rows3 (cellsL t j)),.ro (.brows (grpsL t j))],.int .i64 0]):=by
  have hv:validV t=0:=valid_zero.2 h
  have hmost:=h.most
  have hle:=rowsN_le h hj
  have hbl:=belowL_len t
  have hR:=num_rows h hj
  have hC:=num_cols h hj
  have hRl:(classR t).length=t.length:=classR_len t
  have hLl:(classL t).length=t.length:=classL_len t
  have hJl:(classJ t).length=t.length:=classJ_len t
  have hel1:=elems_le hj
  have hel0:0<(elemsJ t j).length:=elems_pos hj
  refine Or.inl (cq (valid_fn t) (And.intro rfl trivial) ?_)
  refine And.intro (fun h1=>absurd (show validV t=0 from hv) h1) (fun _=>?_)
  refine Or.inl (cq (green_fn t h) (And.intro rfl trivial) ?_)
  refine And.intro (fun h1=>absurd (show (j:Int)<0 from h1) (by omega)) (fun _=>?_)
  refine And.intro (fun h1=>absurd (show ((belowL t).length:Int)≤(j:Int) from h1) (by omega)) (fun _=>?_)
  refine Exists.intro []<|lp2 (fun (i:Nat) (_:Nat)=>[(38,.int .i64 i)]) (fun i _=>[(54,.vec 0 (.ints .i64 (numL (classR t) (elTo t j i))) []),(64,.vec 0 (.ints .i64 (numL (classL t) (elTo t j i))) []),(8,.box [.vec 54,.vec 64,.nils,.nils])]) (fun i _=>i≤t.length) (fun i _=>t.length - i) 0 0 (Nat.zero_le _) (by repeat' first|refine And.intro ?_ ?_|exact True.intro|(show (_:Int)=(_:Int);omega)|omega|exact rfl|(simp only [RO.len];omega)) ?_
  rintro i _ hi
  have hel:=elTo_len (t:=t) (j:=j) i
  refine And.intro (fun h1=>?_) (fun h1=>?_)
  · have h1:(i:Int)<((classJ t).length:Int):=h1
    refine And.intro (by omega) ?_
    refine And.intro (fun h2=>?_) (fun h2=>?_)
    · have h2:jcl t i=(j:Int):=by have:(classJ t).getD ((i:Nat):Int).toNat 0=(j:Int):=h2
                                  rwa [Int.toNat_natCast] at this
      have hE:=elTo_yes (t:=t) (j:=j) (i:=i) (by omega) h2
      have e1:numL (classR t) (elTo t j i)++[(classR t).getD ((i:Nat):Int).toNat 0]=numL (classR t) (elTo t j (i+1)):=by rw [hE,numL_app]
      have e2:numL (classL t) (elTo t j i)++[(classL t).getD ((i:Nat):Int).toNat 0]=numL (classL t) (elTo t j (i+1)):=by rw [hE,numL_app]
      have hel2:=elTo_len (t:=t) (j:=j) (i+1)
      refine Or.inl ?_
      refine Exists.intro [false,false,false,false,false,false,false,false,true,false,true] (And.intro (by decide+kernel) ?_)
      refine And.intro (by omega) ?_
      refine And.intro (show ((numL (classR t) (elTo t j i)++[(classR t).getD ((i:Nat):Int).toNat 0]).length:Int)≤17592186044416 by rw [e1,numL_len];omega) ?_
      refine Or.inl ?_
      refine Exists.intro [false,false,false,false,false,false,false,false,true,false,true] (And.intro (by decide+kernel) ?_)
      refine And.intro (by omega) ?_
      refine And.intro (show ((numL (classL t) (elTo t j i)++[(classL t).getD ((i:Nat):Int).toNat 0]).length:Int)≤17592186044416 by rw [e2,numL_len];omega) ?_
      refine And.intro (by omega) ?_
      refine nx (i+1,0) (show i+1≤t.length by omega) (show t.length - (i+1)<t.length - i by omega) ?_
      repeat' first|refine And.intro ?_ ?_|exact True.intro|exact congrArg (RO.ints .i64) e1|exact congrArg (RO.ints .i64) e2|(show (_:Int)=(_:Int);omega)|omega|exact rfl
    · have h2:jcl t i≠(j:Int):=by have:(classJ t).getD ((i:Nat):Int).toNat 0≠(j:Int):=h2
                                  rwa [Int.toNat_natCast] at this
      have hE:=elTo_no (t:=t) (j:=j) (i:=i) (by omega) h2
      refine And.intro (by omega) ?_
      refine nx (i+1,0) (show i+1≤t.length by omega) (show t.length - (i+1)<t.length - i by omega) ?_
      repeat' first|refine And.intro ?_ ?_|exact True.intro|exact congrArg (fun E=>RO.ints .i64 (numL _ E)) hE.symm|(show (_:Int)=(_:Int);omega)|omega|exact rfl
  have h1:((classJ t).length:Int)≤(i:Int):=h1
  have hie:i=t.length:=by omega
  have hE:elTo t j i=elemsJ t j:=by rw [hie,elTo_end hj]
  rw [hE]
  clear hE hie h1 hel hi
  have nR:=numL_len (classR t) (elemsJ t j)
  have nL:=numL_len (classL t) (elemsJ t j)
  refine Or.inr (Or.inl (cm [] [(1000,54)] (sortI_m (numL (classR t) (elemsJ t j)) (by omega)) ?_))
  refine And.intro (by repeat' first|refine And.intro ?_ ?_|exact True.intro|(show (_:Int)=(_:Int);omega)|omega|exact rfl|(simp only [RO.len];omega)) ?_
  refine Or.inr (Or.inl (cm [] [(1000,64)] (sortI_m (numL (classL t) (elemsJ t j)) (by omega)) ?_))
  refine And.intro (by repeat' first|refine And.intro ?_ ?_|exact True.intro|(show (_:Int)=(_:Int);omega)|omega|exact rfl|(simp only [RO.len];omega)) ?_
  refine Or.inr (Exists.intro (.fst 0 (.fst 3 (.dag [(9,[(1,1),(4,2)]),(11,[(2,3),(4,4)]),(25,[(1,4)]),(15,[(4,5)]),(27,[(2,5)]),(31,[(5,6),(6,7)]),(63,[(6,8)]),(95,[(5,8)]),(127,[(7,9)]),(255,[(8,10)]),(511,[(9,11)]),(1023,[])]))) (And.intro (by decide+kernel) ?_))
  apply schShr
  · intro K hK
    repeat' first
      |exact hK
      |refine' Exists.intro [(_,_),(_,_),(_,_),(_,_),(_,_),(_,_),(_,_),(_,_),(_,_),(_,_),(_,_),(_,_)] ?_
      |exact True.intro
      |(refine Or.inr (Or.inl (cm [] [(1,54)] (compactI_m (srtI (numL (classR t) (elemsJ t j))) (by rw [srtI_len];omega)) ?_));refine And.intro ?_ ?_;focus ((repeat' first|refine And.intro ?_ ?_|exact True.intro|(show (_:Int)=(_:Int);omega)|omega|exact rfl|(simp only [RO.len];omega));done))
      |(refine Or.inr (Or.inl (cm [] [(1,64)] (compactI_m (srtI (numL (classL t) (elemsJ t j))) (by rw [srtI_len];omega)) ?_));refine And.intro ?_ ?_;focus ((repeat' first|refine And.intro ?_ ?_|exact True.intro|(show (_:Int)=(_:Int);omega)|omega|exact rfl|(simp only [RO.len];omega));done))
      |refine And.intro ?_ ?_
      |exact rfl
  rw [hR,hC]
  have hnn:∀x∈List.replicate ((colsN t j).length:Int).toNat ([]:List Int),x=[]:=fun x hx=>(List.mem_replicate.1 hx).2
  have hRp:0<(rowsN t j).length:=rows_pos h hj
  have eC:((colsN t j).length:Int).toNat=(colsN t j).length:=Int.toNat_natCast _
  refine Exists.intro [7777] ?_
  refine And.intro (fun _=>?_) (fun h1=>absurd (show ((rowsN t j).length:Int)≤0 from h1) (by omega))
  refine Or.inr (Exists.intro (.fst 0 (.fst 2 (.dag [(5,[(1,1),(3,2)]),(7,[(3,3)]),(13,[(1,3),(4,4)]),(15,[(4,5)]),(29,[(1,5),(5,6)]),(31,[(5,7)]),(61,[(1,7),(6,8)]),(63,[(6,9)]),(125,[(1,9)]),(127,[(7,10)]),(255,[(8,11)]),(511,[(9,12)]),(1023,[])]))) (And.intro (by decide+kernel) ?_))
  apply schShr
  · intro K hK
    repeat' first
      |exact hK
      |refine' Exists.intro [(_,_),(_,_),(_,_),(_,_),(_,_),(_,_),(_,_),(_,_),(_,_),(_,_),(_,_),(_,_),(_,_)] ?_
      |exact True.intro
      |refine Or.inr (Or.inr ?_)
      |refine And.intro hnn ?_
      |refine And.intro ?_ ?_
      |omega
      |exact rfl
  refine Or.inr (Exists.intro (.fst 0 (.fst 2 (.dag [(5,[(1,1),(3,2)]),(7,[(3,3)]),(13,[(1,3),(4,4)]),(15,[(4,5)]),(29,[(1,5),(5,6)]),(31,[(5,7)]),(61,[(1,7),(6,8)]),(63,[(6,9)]),(125,[(1,9)]),(127,[(7,10)]),(255,[(8,11)]),(511,[(9,12)]),(1023,[])]))) (And.intro (by decide+kernel) ?_))
  apply schShr
  · intro K hK
    repeat' first
      |exact hK
      |refine' Exists.intro [(_,_),(_,_),(_,_),(_,_),(_,_),(_,_),(_,_),(_,_),(_,_),(_,_),(_,_),(_,_),(_,_)] ?_
      |exact True.intro
      |refine And.intro ?_ ?_
      |omega
      |exact rfl
  refine And.intro (by omega) ?_
  refine Exists.intro []<|lp2 (fun (k:Nat) (_:Nat)=>[(84,.int .i64 k)]) (fun k _=>[(93,.deep (.gi (List.replicate k (List.replicate (colsN t j).length []))) none),(102,.deep (.gb (List.replicate k (List.replicate (colsN t j).length false))) none),(8,.box [.vec 54,.vec 64,.vec 93,.vec 102])]) (fun k _=>1≤k∧k≤(rowsN t j).length) (fun k _=>(rowsN t j).length - k) 1 0 ⟨by omega,by omega⟩ ?entry ?_
  case entry=>
    repeat' first|refine And.intro ?_ ?_|exact True.intro|(show (_:Int)=(_:Int);omega)|omega|exact rfl|(simp only [RO.len];omega)
  rintro k _ ⟨hk1,hk2⟩
  have eG:∀{α:Type} (x:α),List.replicate k (List.replicate (colsN t j).length x)++[List.replicate ((colsN t j).length:Int).toNat x]=List.replicate (k+1) (List.replicate (colsN t j).length x):=fun x=>by rw [eC];exact List.replicate_succ'.symm
  refine And.intro (fun h1=>?_) (fun h1=>?_)
  · have h1:(k:Int)<((rowsN t j).length:Int):=h1
    refine Or.inr (Exists.intro (.fst 0 (.fst 2 (.dag [(5,[(1,1),(3,2)]),(7,[(3,3)]),(13,[(1,3),(4,4)]),(15,[(4,5)]),(29,[(1,5),(5,6)]),(31,[(5,7)]),(61,[(1,7),(6,8)]),(63,[(6,9)]),(125,[(1,9)]),(127,[(7,10)]),(255,[(8,11)]),(511,[(9,12)]),(1023,[])]))) (And.intro (by decide+kernel) ?_))
    apply schShr
    · intro K hK
      repeat' first
        |exact hK
        |refine' Exists.intro [(_,_),(_,_),(_,_),(_,_),(_,_),(_,_),(_,_),(_,_),(_,_),(_,_),(_,_),(_,_),(_,_)] ?_
        |exact True.intro
        |refine Or.inr (Or.inr ?_)
        |refine And.intro hnn ?_
        |refine And.intro ?_ ?_
        |omega
        |(show (List.length _:Int)≤_;simp only [List.length_append,List.length_replicate,List.length_cons,List.length_nil];omega)
        |exact rfl
    refine Or.inr (Exists.intro (.fst 0 (.fst 2 (.dag [(5,[(1,1),(3,2)]),(7,[(3,3)]),(13,[(1,3),(4,4)]),(15,[(4,5)]),(29,[(1,5),(5,6)]),(31,[(5,7)]),(61,[(1,7),(6,8)]),(63,[(6,9)]),(125,[(1,9)]),(127,[(7,10)]),(255,[(8,11)]),(511,[(9,12)]),(1023,[])]))) (And.intro (by decide+kernel) ?_))
    apply schShr
    · intro K hK
      repeat' first
        |exact hK
        |refine' Exists.intro [(_,_),(_,_),(_,_),(_,_),(_,_),(_,_),(_,_),(_,_),(_,_),(_,_),(_,_),(_,_),(_,_)] ?_
        |exact True.intro
        |refine Or.inr (Or.inr ?_)
        |refine And.intro hnn ?_
        |refine And.intro ?_ ?_
        |omega
        |(show (List.length _:Int)≤_;simp only [List.length_append,List.length_replicate,List.length_cons,List.length_nil];omega)
        |exact rfl
    refine And.intro (by omega) ?_
    refine nx (k+1,0) (show 1≤k+1∧k+1≤(rowsN t j).length by omega) (show (rowsN t j).length - (k+1)<(rowsN t j).length - k by omega) ?_
    repeat' first|refine And.intro ?_ ?_|exact True.intro|exact congrArg RO.gi (eG [])|exact congrArg RO.gb (eG false)|(show (_:Int)=(_:Int);omega)|omega|exact rfl
  have h1:((rowsN t j).length:Int)≤(k:Int):=h1
  have hke:k=(rowsN t j).length:=by omega
  rw [hke,←gridL_nil,←gridL_nil]
  refine Exists.intro []<|lp2 (fun (i:Nat) (_:Nat)=>[(108,.int .i64 i)]) (fun i _=>[(93,.deep (.gi (celE t j (elTo t j i))) none),(102,.deep (.gb (grpE t j (elTo t j i))) none)]) (fun i _=>i≤t.length) (fun i _=>t.length - i) 0 0 (Nat.zero_le _) (by repeat' first|refine And.intro ?_ ?_|exact True.intro|(show (_:Int)=(_:Int);omega)|omega|exact rfl|(simp only [RO.len];omega)) ?_
  rintro i _ hi
  refine And.intro (fun h1=>?_) (fun h1=>?_)
  · have h1:(i:Int)<((classJ t).length:Int):=h1
    refine And.intro (by omega) ?_
    refine And.intro (fun h2=>?_) (fun h2=>?_)
    · have h2:jcl t i=(j:Int):=by have:(classJ t).getD ((i:Nat):Int).toNat 0=(j:Int):=h2
                                  rwa [Int.toNat_natCast] at this
      have hit:i<t.length:=by omega
      obtain ⟨r,hr,er⟩:=in_rows h hj hit h2
      obtain ⟨c,hc,ec⟩:=in_cols h hj hit h2
      have hE:=elTo_yes (t:=t) (j:=j) (i:=i) hit h2
      refine Or.inl ?_
      refine Exists.intro [false,false,false,false,false,false,false,false,false,false,false,false,false] (And.intro (by decide+kernel) ?_)
      refine And.intro (by omega) ?_
      have q1:QF 66 [.ro (.ints .i64 (rowsN t j)),.int .i64 ((classR t).getD ((i:Nat):Int).toNat 0)] (.tup [.int .i64 r,.bool (.v true)]):=by
        have e:(classR t).getD ((i:Nat):Int).toNat 0=(rowsN t j).getD r 0:=by rw [Int.toNat_natCast];exact er.symm
        rw [e];exact bsr_fn _ r (by omega) hr Coo.rows_asc
      have q2:QF 66 [.ro (.ints .i64 (colsN t j)),.int .i64 ((classL t).getD ((i:Nat):Int).toNat 0)] (.tup [.int .i64 c,.bool (.v true)]):=by
        have e:(classL t).getD ((i:Nat):Int).toNat 0=(colsN t j).getD c 0:=by rw [Int.toNat_natCast];exact ec.symm
        rw [e];exact bsr_fn _ c (by omega) hc Coo.cols_asc
      refine cq q1 (And.intro rfl (And.intro rfl trivial)) ?_
      refine Or.inl ?_
      refine Exists.intro [false,false,false,false,false,false,false,false,false,false,false,false,false] (And.intro (by decide+kernel) ?_)
      refine And.intro (by omega) ?_
      refine cq q2 (And.intro rfl (And.intro rfl trivial)) ?_
      have hgl:(celE t j (elTo t j i)).length=(rowsN t j).length:=gridL_len ..
      have hgr:((celE t j (elTo t j i)).getD r []).length=(colsN t j).length:=by rw [gridL_row hr,List.length_map]
      have hbl2:(grpE t j (elTo t j i)).length=(rowsN t j).length:=gridL_len ..
      have hbr:((grpE t j (elTo t j i)).getD r []).length=(colsN t j).length:=by rw [gridL_row hr,List.length_map]
      have hcl:(((celE t j (elTo t j i)).getD r []).getD c []).length≤400:=by
        rw [gridL_get [] hr hc];exact Nat.le_trans (hitE_le _ _ _) (Nat.le_trans (elTo_len i) (by omega))
      have htr:((r:Nat):Int).toNat=r:=Int.toNat_natCast r
      have htc:((c:Nat):Int).toNat=c:=Int.toNat_natCast c
      refine Or.inr (Exists.intro (.fst 0 (.fst 2 (.fst 5 (.fst 6 (.fst 8 (.fst 11 (.fst 14 (.dag [(18789,[(1,1),(7,2),(15,3)]),(18791,[(3,4),(7,5),(15,6)]),(18917,[(1,5),(9,7),(15,8)]),(51557,[(1,6),(7,8)]),(18799,[(4,9),(7,10),(15,11)]),(18919,[(3,10),(9,12),(15,13)]),(51559,[(3,11),(7,13)]),(19429,[(1,12),(10,14),(15,15)]),(51685,[(1,13),(9,15)]),(18815,[(7,16),(15,17)]),(18927,[(4,16),(9,18),(15,19)]),(51567,[(4,17),(7,19)]),(19431,[(3,18),(10,20),(15,21)]),(51687,[(3,19),(9,21)]),(20453,[(1,20),(12,22),(15,23)]),(52197,[(1,21),(10,23)]),(18943,[(9,24),(15,25)]),(51583,[(7,25)]),(19439,[(4,24),(10,26),(15,27)]),(51695,[(4,25),(9,27)]),(20455,[(3,26),(12,28),(15,29)]),(52199,[(3,27),(10,29)]),(24549,[(1,28),(13,30),(15,31)]),(53221,[(1,29),(12,31)]),(19455,[(10,32),(15,33)]),(51711,[(9,33)]),(20463,[(4,32),(12,34),(15,35)]),(52207,[(4,33),(10,35)]),(24551,[(3,34),(13,36),(15,37)]),(53223,[(3,35),(12,37)]),(32741,[(1,36),(15,38)]),(57317,[(1,37),(13,39)]),(20479,[(12,40),(15,41)]),(52223,[(10,41)]),(24559,[(4,40),(13,42),(15,43)]),(53231,[(4,41),(12,43)]),(32743,[(3,42),(15,44)]),(57319,[(3,43),(13,45)]),(65509,[(1,44),(16,46)]),(65509,[(1,45),(16,46)]),(24575,[(13,47),(15,48)]),(53247,[(12,48)]),(32751,[(4,47),(15,49)]),(57327,[(4,48),(13,50)]),(65511,[(3,49),(16,51)]),(65511,[(3,50),(16,51)]),(131045,[(1,51)]),(32767,[(15,52)]),(57343,[(13,53)]),(65519,[(4,52),(16,54)]),(65519,[(4,53),(16,54)]),(131047,[(3,54)]),(65535,[(16,55)]),(65535,[(16,55)]),(131055,[(4,55)]),(131071,[(17,56)]),(262143,[(18,57)]),(524287,[])])))))))) (And.intro (by decide+kernel) ?_))
      apply schShr
      · intro K hK
        repeat' first
          |exact hK
          |refine' Exists.intro [(_,_),(_,_),(_,_),(_,_),(_,_),(_,_),(_,_),(_,_),(_,_),(_,_),(_,_),(_,_),(_,_),(_,_),(_,_),(_,_),(_,_),(_,_),(_,_),(_,_),(_,_),(_,_),(_,_),(_,_),(_,_),(_,_),(_,_),(_,_),(_,_),(_,_),(_,_),(_,_),(_,_),(_,_),(_,_),(_,_),(_,_),(_,_),(_,_),(_,_),(_,_),(_,_),(_,_),(_,_),(_,_),(_,_),(_,_),(_,_),(_,_),(_,_),(_,_),(_,_),(_,_),(_,_),(_,_),(_,_),(_,_),(_,_)] ?_
          |exact True.intro
          |refine And.intro ?_ ?_
          |omega
          |exact rfl
          |(simp only [Int.toNat_natCast];omega)
          |(simp only [Int.toNat_natCast,List.length_append,List.length_cons,List.length_nil];omega)
      have eI:RO.gi ((celE t j (elTo t j i)).set ((r:Nat):Int).toNat (((celE t j (elTo t j i)).getD ((r:Nat):Int).toNat []).set ((c:Nat):Int).toNat (((celE t j (elTo t j i)).getD ((r:Nat):Int).toNat []).getD ((c:Nat):Int).toNat []++[(i:Int)])))=RO.gi (celE t j (elTo t j (i+1))):=by
        rw [hE,htr,htc];exact congrArg RO.gi (cel_put hr hc er ec)
      have eB:∀v:Bool,v=(((grpE t j (elTo t j i)).getD r []).getD c false||idmB t i)→RO.gb ((grpE t j (elTo t j i)).set ((r:Nat):Int).toNat (((grpE t j (elTo t j i)).getD ((r:Nat):Int).toNat []).set ((c:Nat):Int).toNat v))=RO.gb (grpE t j (elTo t j (i+1))):=fun v hv=>by
        rw [hE,htr,htc,hv];exact congrArg RO.gb (grp_put hr hc er ec)
      have hti:(t.getD ((i:Nat):Int).toNat []).length=t.length:=by rw [Int.toNat_natCast];exact h.toSh.len hit
      refine Or.inl ?_
      refine Exists.intro [false,false,false,false,false,false,false,false,false,false,false,false,false,false,false,false,false,false,false,false,false,false,false,false,false,false,true] (And.intro (by decide+kernel) ?_)
      refine And.intro (by omega) ?_
      refine And.intro (by omega) ?_
      refine And.intro (by simp only [Int.toNat_natCast];omega) ?_
      refine And.intro (fun h3=>?_) (fun h3=>?_)
      · have h3:((grpE t j (elTo t j i)).getD ((r:Nat):Int).toNat []).getD ((c:Nat):Int).toNat false=true:=h3
        rw [htr,htc] at h3
        refine And.intro (by simp only [Int.toNat_natCast];omega) ?_
        refine And.intro (by omega) ?_
        refine nx (i+1,0) (show i+1≤t.length by omega) (show t.length - (i+1)<t.length - i by omega) ?_
        repeat' first|refine And.intro ?_ ?_|exact True.intro|exact eI|exact eB _ (by rw [h3];rfl)|(show (_:Int)=(_:Int);omega)|omega|exact rfl
      · have h3:((grpE t j (elTo t j i)).getD ((r:Nat):Int).toNat []).getD ((c:Nat):Int).toNat false=false:=h3
        rw [htr,htc] at h3
        have e5:decide ((t.getD ((i:Nat):Int).toNat []).getD ((i:Nat):Int).toNat 0=(i:Int))=idmB t i:=by
          unfold idmB;rw [Int.toNat_natCast,(h.toSh.ent hit hit).1];exact decide_eq_decide.2 (by omega)
        refine And.intro (by omega) ?_
        refine And.intro (by omega) ?_
        refine And.intro (by simp only [Int.toNat_natCast];omega) ?_
        refine And.intro (by omega) ?_
        refine nx (i+1,0) (show i+1≤t.length by omega) (show t.length - (i+1)<t.length - i by omega) ?_
        repeat' first|refine And.intro ?_ ?_|exact True.intro|exact eI|exact eB _ (by rw [h3];exact e5)|(show (_:Int)=(_:Int);omega)|omega|exact rfl
    · have h2:jcl t i≠(j:Int):=by have:(classJ t).getD ((i:Nat):Int).toNat 0≠(j:Int):=h2
                                  rwa [Int.toNat_natCast] at this
      have hE:=elTo_no (t:=t) (j:=j) (i:=i) (by omega) h2
      refine And.intro (by omega) ?_
      refine nx (i+1,0) (show i+1≤t.length by omega) (show t.length - (i+1)<t.length - i by omega) ?_
      repeat' first|refine And.intro ?_ ?_|exact True.intro|exact congrArg (fun E=>RO.gi (celE t j E)) hE.symm|exact congrArg (fun E=>RO.gb (grpE t j E)) hE.symm|(show (_:Int)=(_:Int);omega)|omega|exact rfl
  have h1:((classJ t).length:Int)≤(i:Int):=h1
  have hie:i=t.length:=by omega
  rw [hie,cel_end hj,grp_end hj]
  repeat' first|refine And.intro ?_ ?_|exact True.intro|(show (_:Int)=(_:Int);omega)|omega|exact rfl|(simp only [RO.len];omega)
theorem gbox_fn (t:List (List Int)) (h:Semi t) (j:Nat) (hj:j<numJ t):QF 19 [.ro (.rows .i64 t),.int .i64 j]
    (.tup [.agg [.ro (.ints .i64 (rowsN t j)),.ro (.ints .i64 (colsN t j)),.ro (.rows3 (cellsL t j)),.ro (.brows (grpsL t j))],.int .i64 0]):=
  mkQD Tryz.func19 (by decide+kernel) rfl (Nat.le_of_ble_eq_true rfl) fun _=>gbox_k t h j hj
end Go.Proofs.YtjabhmhhhlcopaaGreatDoor
end
section
namespace Go.Proofs.YtjabhmhhhlcopaaGreatDoor
open Go Go.AM
set_option maxRecDepth 100000
set_option maxHeartbeats 1000000
def elemsL (n:Nat):List Int:=(List.range n).map fun i:Nat=>(i:Int)
theorem elems_fn (t:List (List Int)) (hn:t.length≤400):QF 139 [.ro (.rows .i64 t)] (.new (.ints .i64 (elemsL t.length))):=mkQ Tryz.func139 (by decide+kernel) rfl (Nat.le_of_ble_eq_true rfl) fun _=>by
  refine And.intro (by omega) ?_
  refine And.intro (by omega) ?_
  refine Exists.intro []<|lp2 (fun (k:Nat) (_:List Int)=>[(10,.int .i64 k)]) (fun _ L=>[(7,.vec 0 (.ints .i64 L) [])]) (fun k L=>k≤t.length∧L.length=t.length∧∀j,j<k→L.getD j 0=(j:Int)) (fun k _=>t.length - k) 0 (List.replicate t.length 0) ⟨Nat.zero_le _,by simp,by omega⟩ (by repeat' first|refine And.intro ?_ ?_|exact True.intro|(show (_:Int)=(_:Int);omega)|omega|exact rfl|(simp;omega)) ?_
  rintro k L ⟨hk,hL,hj⟩
  refine And.intro (fun h1=>?_) (fun h1=>?_)
  · have h1:(k:Int)<((List.replicate ((t.length:Nat):Int).toNat (0:Int)).length:Int):=h1
    rw [List.length_replicate,Int.toNat_natCast] at h1
    have hkl:k<t.length:=by omega
    refine And.intro (show 0≤(k:Int)∧(k:Int)<(L.length:Int) by omega) ?_
    refine And.intro (by omega) ?_
    refine And.intro (by omega) ?_
    refine nx (k+1,L.set k (k:Int)) ⟨by omega,by rw [List.length_set];exact hL,fun j hj'=>?_⟩ (show t.length - (k+1)<t.length - k by omega) (by repeat' first|refine And.intro ?_ ?_|exact True.intro|(show (_:Int)=(_:Int);omega)|omega|exact rfl|(simp only [RO.len];omega))
    by_cases e:j=k
    · subst e;rw [getD_set_eq (by omega)]
    · rw [getD_set_ne (Ne.symm e)];exact hj j (by omega)
  · have h1:((List.replicate ((t.length:Nat):Int).toNat (0:Int)).length:Int)≤(k:Int):=h1
    rw [List.length_replicate,Int.toNat_natCast] at h1
    refine And.intro (And.intro (by omega) ?_) trivial
    refine congrArg (RO.ints .i64) (ext_getD 0 (by simp [elemsL];exact hL) fun j hj'=>?_)
    rw [hj j (by omega)];unfold elemsL;rw [map_range_getD _ _ _ _ (by omega)]
theorem mvalid_fn (t:List (List Int)):QF 137 [.ro (.rows .i64 t)] (.bool (.v (decide (validV t=0)))):=mkQ Tryz.func137 (by decide+kernel) rfl (Nat.le_of_ble_eq_true rfl) fun _=>by
  refine Or.inl (cq (valid_fn t) (And.intro rfl trivial) ?_)
  exact And.intro rfl trivial
end Go.Proofs.YtjabhmhhhlcopaaGreatDoor
end
section
namespace Go.Proofs.YtjabhmhhhlcopaaGreatDoor
section
variable {t:List (List Int)}
theorem least_ex {p:Nat→Prop}:∀{n:Nat},(∃k,k<n∧p k)→∃k,k<n∧p k∧∀j,j<k→¬p j
  |0,⟨_,h,_⟩=>absurd h (Nat.not_lt_zero _)
  |n+1,⟨k,h1,h2⟩=>by
   by_cases h:∃k,k<n∧p k
   · obtain ⟨j,h3,h4,h5⟩:=least_ex h
     exact ⟨j,by omega,h4,h5⟩
   · refine ⟨k,h1,h2,fun j hj hp=>h ⟨j,by omega,hp⟩⟩
end
end Go.Proofs.YtjabhmhhhlcopaaGreatDoor
end
section
namespace Go.Proofs.YtjabhmhhhlcopaaGreatDoor
open Go Go.AM
set_option maxRecDepth 100000
def flP (P:Nat→Bool) (k:Nat):List Int:=((List.range k).filter P).map fun i:Nat=>(i:Int)
theorem flP_yes {P:Nat→Bool} {k:Nat} (h:P k=true):flP P (k+1)=flP P k++[(k:Int)]:=by simp [flP,List.range_succ,List.filter_append,h]
theorem flP_no {P:Nat→Bool} {k:Nat} (h:P k=false):flP P (k+1)=flP P k:=by simp [flP,List.range_succ,List.filter_append,h]
theorem flP_mem {P:Nat→Bool} {k:Nat} {x:Int}:x∈flP P k↔∃i:Nat,i<k∧P i=true∧x=(i:Int):=by
  simp only [flP,List.mem_map,List.mem_filter,List.mem_range]
  exact ⟨fun ⟨i,⟨h1,h2⟩,h3⟩=>⟨i,h1,h2,h3.symm⟩,fun ⟨i,h1,h2,h3⟩=>⟨i,⟨h1,h2⟩,h3.symm⟩⟩
theorem flP_all {P:Nat→Bool}:∀{k:Nat},(∀i,i<k→P i=true)→flP P k=elemsL k
  |0,_=>rfl
  |k+1,h=>by rw [flP_yes (h k (by omega)),flP_all fun i hi=>h i (by omega)];simp [elemsL,List.range_succ]
theorem flP_asc {n:Nat} {P:Nat→Bool}:flP P n=ascV n P:=
  asc_ext (asc_of (List.pairwise_map.2 (((List.pairwise_lt_range (n:=n)).filter P).imp fun {a b} h=>by omega))) (ascV_asc n P) fun x=>by rw [flP_mem,ascV_mem]
section
variable (t:List (List Int)) (g:FuncId) (P:Nat→Bool)
abbrev chB:AV:=.cfn g (.rows3 [t]) 0
abbrev chS:Store:=[(1000,.box [chB t g])]
abbrev WantP:Prop:=∀x:Nat,x<t.length→QF g [.int .i64 x,.rptr (.rows3 [t]) 0] (.bool (.v (P x)))
theorem ch1_k (hg:WantP t g P) (x:Nat) (hx:x<t.length):fnMK TY SP Tryz.f140 [.int .i64 x,.ptr 1000 0] (chS t g) (.bool (.v (!P x))) (chS t g):=by
  refine cq (hg x hx) (And.intro rfl (And.intro (And.intro rfl rfl) trivial)) ?_
  exact And.intro ⟨⟨⟨rfl,rfl,rfl⟩,trivial⟩,trivial⟩ rfl
theorem ch1_fn (hg:WantP t g P) (x:Nat) (hx:x<t.length):MF 140 [.int .i64 x,.ptr 1000 0] (chS t g) (.bool (.v (!P x))) (chS t g):=mkM Tryz.func140 (by decide+kernel) rfl (Nat.le_of_ble_eq_true rfl) fun _=>ch1_k t g P hg x hx
abbrev chS2 (l:List Int):Store:=[(1001,.vec 0 (.ints .i64 l) []),(1000,.box [chB t g])]
def fstN (P:Nat→Bool) (n:Nat):Int:=match (List.range n).find? (fun x=>!P x) with|some x=>(x:Int)|none=> -1
theorem fst_yes {P:Nat→Bool} {n y:Nat} (hy:y<n) (h:∀z,z<y→P z=true) (e:P y=false):fstN P n=(y:Int):=by
  have:(List.range n).find? (fun x=>!P x)=some y:=by
    rw [List.find?_range_eq_some];exact ⟨by simp [e],by simp [hy],fun j hj=>by simp [h j hj]⟩
  unfold fstN;rw [this]
theorem fst_no {P:Nat→Bool} {n:Nat} (h:∀z,z<n→P z=true):fstN P n= -1:=by
  have:(List.range n).find? (fun x=>!P x)=none:=by
    rw [List.find?_eq_none];intro x hx;simp [h x (List.mem_range.1 hx)]
  unfold fstN;rw [this]
theorem chI_k (hg:WantP t g P) (hn:t.length≤400):fnMK TY SP Tryz.f67 [.vec 1001,.fn 140 [.ptr 1000 0]] (chS2 t g (elemsL t.length)) (.int .i64 (fstN P t.length)) (chS2 t g (elemsL t.length)):=by
  have hel:(elemsL t.length).length=t.length:=by simp [elemsL]
  have hge:∀k,k<t.length→(elemsL t.length).getD k 0=(k:Int):=fun k hk=>by simp [elemsL,List.getD,hk]
  refine Exists.intro []<|lp (X:=Nat) (fun y=>[(8,.int .i64 y)]) (fun _=>[]) (fun y=>y≤t.length∧∀k,k<y→P k=true) (fun y=>t.length - y) 0 ⟨Nat.zero_le _,fun k hk=>absurd hk (Nat.not_lt_zero _)⟩ (by repeat' first|refine And.intro ?_ ?_|exact True.intro|(show (_:Int)=(_:Int);omega)|omega|exact rfl|(simp only [RO.len];omega)) ?_
  rintro y ⟨hy,hn2⟩
  refine And.intro (fun h1=>?_) (fun h1=>?_)
  · have h1:(y:Int)<((elemsL t.length).length:Int):=h1
    have hyl:y<t.length:=by omega
    have e0:=hge y hyl
    refine And.intro (by omega) ?_
    refine Or.inr (cm [] [(1000,1000)] (ch1_fn t g P hg y hyl) ?_)
    refine And.intro ?_ ?_
    · repeat' first|refine And.intro ?_ ?_|exact True.intro|exact e0|(show (_:Int)=(_:Int);omega)|omega|exact rfl|(simp only [RO.len];omega)
    refine And.intro (fun h2=>?_) (fun h2=>?_)
    · have h2:(!P y)=true:=h2
      refine And.intro (by repeat' first|refine And.intro ?_ ?_|exact True.intro|(show (_:Int)=(_:Int);omega)|omega|exact rfl|(simp only [RO.len];omega)) ?_
      show (y:Int)=fstN P t.length
      exact (fst_yes hyl hn2 (by simpa using h2)).symm
    · have h2:(!P y)=false:=h2
      refine And.intro (by omega) ?_
      refine nx (y+1) ⟨by omega,fun k hk=>?_⟩ (show t.length - (y+1)<t.length - y by omega) (by repeat' first|refine And.intro ?_ ?_|exact True.intro|(show (_:Int)=(_:Int);omega)|omega|exact rfl|(simp only [RO.len];omega))
      by_cases e:k=y
      · rw [e];simpa using h2
      · exact hn2 k (by omega)
  · have h1:((elemsL t.length).length:Int)≤(y:Int):=h1
    refine And.intro (by repeat' first|refine And.intro ?_ ?_|exact True.intro|(show (_:Int)=(_:Int);omega)|omega|exact rfl|(simp only [RO.len];omega)) ?_
    show (-1:Int)=fstN P t.length
    exact (fst_no fun k hk=>hn2 k (by omega)).symm
theorem chI_fn (hg:WantP t g P) (hn:t.length≤400):MF 67 [.vec 1001,.fn 140 [.ptr 1000 0]] (chS2 t g (elemsL t.length)) (.int .i64 (fstN P t.length)) (chS2 t g (elemsL t.length)):=mkM Tryz.func67 (by decide+kernel) rfl (Nat.le_of_ble_eq_true rfl) fun _=>chI_k t g P hg hn
abbrev chS3 (l:List Int):Store:=[(500,.vec 0 (.ints .i64 l) []),(1000,.box [chB t g])]
theorem chDA_k (hg:WantP t g P) (hn:t.length≤400) (ha:∀z,z<t.length→P z=true):fnMK TY SP Tryz.f138 [.vec 500,.fn 140 [.ptr 1000 0]] (chS3 t g (elemsL t.length)) (.vec 500) (chS3 t g (flP P t.length)):=by
  refine Or.inr (Or.inl (cm [] [(1000,1000),(1001,500)] (chI_fn t g P hg hn) ?_))
  refine And.intro ?_ ?_
  · repeat' first|refine And.intro ?_ ?_|exact True.intro|(show (_:Int)=(_:Int);omega)|omega|exact rfl|(simp only [RO.len];omega)
  refine And.intro (fun _=>?_) (fun h1=>absurd (fst_no ha) h1)
  refine And.intro ?_ (And.intro rfl (And.intro trivial trivial))
  refine And.intro (And.intro ⟨Nat.le_refl _,Nat.zero_le _⟩ (congrArg (RO.ints .i64) (flP_all ha).symm)) ?_
  exact And.intro ⟨⟨rfl,rfl,rfl⟩,trivial⟩ trivial
structure DelI (P:Nat→Bool) (n i j:Nat) (r:List Int):Prop where
  jn:j≤n
  ij:i<j
  len:r.length=n
  cnt:(flP P j).length=i
  hd:r.take i=flP P j
  tl:∀k,j≤k→k<n→r.getD k 0=(k:Int)
theorem DelI.start {n y:Nat} (hy:y<n) (h:∀z,z<y→P z=true) (e:P y=false):DelI P n y (y+1) (elemsL n):=by
  have hf:flP P (y+1)=elemsL y:=by rw [flP_no e,flP_all h]
  refine ⟨by omega,by omega,by simp [elemsL],by rw [hf];simp [elemsL],?_,fun k _ hk=>by simp [elemsL,List.getD,hk]⟩
  rw [hf];unfold elemsL;rw [←List.map_take,List.take_range,Nat.min_eq_left (by omega)]
theorem DelI.yes {n i j:Nat} {r:List Int} (h:DelI P n i j r) (hj:j<n) (e:P j=true):DelI P n (i+1) (j+1) (r.set i (r.getD j 0)):=by
  have h1:=h.ij
  refine ⟨by omega,by omega,by rw [List.length_set];exact h.len,by rw [flP_yes e,List.length_append,h.cnt];rfl,?_,fun k hk hkn=>by rw [getD_set_ne (by omega)];exact h.tl k (by omega) hkn⟩
  rw [flP_yes e,←h.hd,h.tl j (Nat.le_refl _) hj]
  have hi:i<(r.set i ((j:Nat):Int)).length:=by rw [List.length_set,h.len];omega
  rw [List.take_succ_eq_append_getElem hi,List.take_set_of_le (Nat.le_refl _),List.getElem_set_self]
theorem DelI.no {n i j:Nat} {r:List Int} (h:DelI P n i j r) (hj:j<n) (e:P j=false):DelI P n i (j+1) r:=
  ⟨by omega,by have:=h.ij;omega,h.len,by rw [flP_no e];exact h.cnt,by rw [flP_no e];exact h.hd,fun k hk hkn=>h.tl k (by omega) hkn⟩
theorem chDB_k (hg:WantP t g P) (hn:t.length≤400) (y:Nat) (hy:y<t.length) (ha:∀z,z<y→P z=true) (e:P y=false):fnMK TY SP Tryz.f138 [.vec 500,.fn 140 [.ptr 1000 0]] (chS3 t g (elemsL t.length)) (.vec 500) (chS3 t g (flP P t.length)):=by
  have hf:=fst_yes hy ha e
  refine Or.inr (Or.inl (cm [] [(1000,1000),(1001,500)] (chI_fn t g P hg hn) ?_))
  refine And.intro ?_ ?_
  · repeat' first|refine And.intro ?_ ?_|exact True.intro|(show (_:Int)=(_:Int);omega)|omega|exact rfl|(simp only [RO.len];omega)
  refine And.intro (fun h1=>absurd (show fstN P t.length= -1 from h1) (by omega)) (fun _=>?_)
  refine And.intro (show -9223372036854775808≤fstN P t.length+1∧fstN P t.length+1≤9223372036854775807 by omega) ?_
  refine Exists.intro []<|lp3 (fun (i:Nat) (j:Nat) (_:List Int)=>[(5,.int .i64 i),(6,.int .i64 j)]) (fun _ _ r=>[(500,.vec 0 (.ints .i64 r) [])]) (fun i j r=>DelI P t.length i j r) (fun _ j _=>t.length - j) y (y+1) (elemsL t.length) (DelI.start P hy ha e) (by repeat' first|refine And.intro ?_ ?_|exact True.intro|exact hf|(show (_:Int)=(_:Int);omega)|omega|exact rfl|(simp only [RO.len];omega)) ?_
  rintro i j r hI
  have hjn:=hI.jn
  have hij:=hI.ij
  have hlen:=hI.len
  refine And.intro (fun h1=>?_) (fun h1=>?_)
  · have h1:(j:Int)<(r.length:Int):=h1
    have hj:j<t.length:=by omega
    have e0:r.getD j 0=(j:Int):=hI.tl j (Nat.le_refl _) hj
    refine And.intro (by omega) ?_
    refine Or.inr (cm [] [(1000,1000)] (ch1_fn t g P hg j hj) ?_)
    refine And.intro ?_ ?_
    · repeat' first|refine And.intro ?_ ?_|exact True.intro|exact e0|(show (_:Int)=(_:Int);omega)|omega|exact rfl|(simp only [RO.len];omega)
    refine And.intro (fun h2=>?_) (fun h2=>?_)
    · have h2:(!(!P j))=true:=h2
      have h2:P j=true:=by simpa using h2
      refine And.intro (by omega) ?_
      refine And.intro (by omega) ?_
      refine And.intro (by omega) ?_
      refine And.intro (by omega) ?_
      exact nx (i+1,j+1,r.set i (r.getD j 0)) (hI.yes P hj h2) (show t.length - (j+1)<t.length - j by omega) (by repeat' first|refine And.intro ?_ ?_|exact True.intro|(show (_:Int)=(_:Int);omega)|omega|exact rfl|(simp only [RO.len];omega))
    · have h2:(!(!P j))=false:=h2
      have h2:P j=false:=by simpa using h2
      refine And.intro (by omega) ?_
      exact nx (i,j+1,r) (hI.no P hj h2) (show t.length - (j+1)<t.length - j by omega) (by repeat' first|refine And.intro ?_ ?_|exact True.intro|(show (_:Int)=(_:Int);omega)|omega|exact rfl|(simp only [RO.len];omega))
  · have h1:(r.length:Int)≤(j:Int):=h1
    have hje:j=t.length:=by omega
    subst hje
    have ht:(r.take i++List.replicate (r.length - i) 0).length=r.length:=by simp;omega
    have hres:List.drop 0 (List.take i (List.take i r++List.replicate (r.length - i) 0))=flP P t.length:=by
      rw [List.drop_zero,List.take_append_of_le_length (by rw [List.length_take];omega),List.take_take,Nat.min_self];exact hI.hd
    refine And.intro (by omega) ?_
    refine And.intro (by omega) ?_
    refine And.intro (show 0≤(i:Int)∧(i:Int)≤((r.take i++List.replicate (r.length - i) 0).length:Int) by omega) ?_
    refine Or.inr ?_
    repeat' first|refine And.intro ?_ ?_|exact True.intro|exact congrArg (RO.ints .i64) hres|omega|exact rfl|(simp only [RO.len];omega)
theorem chD_fn (hg:WantP t g P) (hn:t.length≤400):MF 138 [.vec 500,.fn 140 [.ptr 1000 0]] (chS3 t g (elemsL t.length)) (.vec 500) (chS3 t g (flP P t.length)):=mkM Tryz.func138 (by decide+kernel) rfl (Nat.le_of_ble_eq_true rfl) fun _=>by
  by_cases h:∃y,y<t.length∧P y=false
  · obtain ⟨y,hy,hl,e⟩:∃y,y<t.length∧(∀z,z<y→P z=true)∧P y=false:=by
      obtain ⟨y,hy,e,hmin⟩:=least_ex (p:=fun y=>P y=false) h
      exact ⟨y,hy,fun z hz=>by have:=hmin z hz;simpa using this,e⟩
    exact chDB_k t g P hg hn y hy hl e
  · exact chDA_k t g P hg hn fun z hz=>by
      cases e:P z with
      |true=>rfl
      |false=>exact absurd ⟨z,hz,e⟩ h
theorem choose_k (hg:WantP t g P) (h:validV t=0):fnK TY SP Tryz.f72 [.ro (.rows .i64 t),.cfn g (.rows3 [t]) 0] (.new (.ints .i64 (ascV t.length P))):=by
  have hn:=(valid_zero.1 h).most
  refine Or.inl (cq (mvalid_fn t) (And.intro rfl trivial) ?_)
  refine And.intro (fun h1=>?_) (fun _=>?_)
  · have h1:(!decide (validV t=0))=true:=h1
    rw [decide_eq_true h] at h1;cases h1
  refine Or.inl (cq (elems_fn t hn) (And.intro rfl trivial) ?_)
  refine Or.inr (Or.inl (cm [] [(500,9),(1000,3)] (chD_fn t g P hg hn) ?_))
  refine And.intro ?_ ?_
  · repeat' first|refine And.intro ?_ ?_|exact True.intro|(show (_:Int)=(_:Int);omega)|omega|exact rfl|(simp only [RO.len];omega)
  repeat' first|refine And.intro ?_ ?_|exact True.intro|exact congrArg (RO.ints .i64) flP_asc|omega|exact rfl|(simp only [RO.len];omega)
theorem choose_fn (hg:WantP t g P) (h:validV t=0):QF 72 [.ro (.rows .i64 t),.cfn g (.rows3 [t]) 0] (.new (.ints .i64 (ascV t.length P))):=mkQ Tryz.func72 (by decide+kernel) rfl (Nat.le_of_ble_eq_true rfl) fun _=>choose_k t g P hg h
end
section
variable (t:List (List Int))
def idzB (t:List (List Int)) (x:Nat):Bool:=decide (en t x x=x)
theorem izC_k (h:Sh t) (x:Nat) (hx:x<t.length):fnK TY SP Tryz.f73 [.int .i64 x,.rptr (.rows3 [t]) 0] (.bool (.v (idzB t x))):=by
  have rx:=h.len hx
  have e1:=h.ent hx hx
  refine And.intro (show 0≤(x:Int)∧(x:Int)<(t.length:Int) by omega) ?_
  refine And.intro (show 0≤(x:Int)∧(x:Int)<((t.getD x []).length:Int) by omega) ?_
  refine And.intro ?_ trivial
  show decide ((t.getD x []).getD x 0=(x:Int))=idzB t x
  unfold idzB
  exact decide_eq_decide.2 (by omega)
theorem izC_fn (h:Sh t):WantP t 73 (idzB t):=fun x hx=>mkQ Tryz.func73 (by decide+kernel) rfl (Nat.le_of_ble_eq_true rfl) fun _=>izC_k t h x hx
abbrev idzL (t:List (List Int)):List Int:=ascV t.length (idzB t)
theorem idm_k (h:validV t=0):fnK TY SP Tryz.f21 [.ro (.rows .i64 t)] (.new (.ints .i64 (idzL t))):=by
  have hs:=(valid_zero.1 h).toSh
  refine Or.inr ?_
  refine Or.inl (cq (choose_fn t 73 (idzB t) (izC_fn t hs) h) (And.intro rfl (And.intro ⟨rfl,rfl,rfl⟩ trivial)) ?_)
  exact And.intro (And.intro (by omega) rfl) trivial
theorem idm_fn (h:validV t=0):QF 21 [.ro (.rows .i64 t)] (.new (.ints .i64 (idzL t))):=mkQ Tryz.func21 (by decide+kernel) rfl (Nat.le_of_ble_eq_true rfl) fun _=>idm_k t h
end
end Go.Proofs.YtjabhmhhhlcopaaGreatDoor
end
