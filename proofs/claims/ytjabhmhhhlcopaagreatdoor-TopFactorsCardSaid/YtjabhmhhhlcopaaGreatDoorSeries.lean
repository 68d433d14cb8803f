import Derived.Test.YtjabhmhhhlcopaaGreatDoorChkLaw
import Derived.Lib.SlicesCompact
import Derived.Test.YtjabhmhhhlcopaaGreatDoorTopKLaw
import Derived.Test.YtjabhmhhhlcopaaGreatDoorIdealLaw
import Derived.Test.YtjabhmhhhlcopaaGreatDoorClimbLaw
section
namespace Go.Proofs.YtjabhmhhhlcopaaGreatDoor
open Go Go.AM
def nonTo (t:List (List Int)) (l:List Int) (k:Nat):List Int:=memTo (setB t.length fun x=>!setI l x) k
def restTo (t:List (List Int)) (l:List Int) (k:Nat):List Int:=l.getD 0 0::nonTo t l k
def clsV (t:List (List Int)) (l:List Int) (x:Nat):Int:=if setI l x then 0 else (((nonTo t l x).length+1:Nat):Int)
def clsQ (t:List (List Int)) (l:List Int):List Int:=(List.range t.length).map (clsV t l)
def restQ (t:List (List Int)) (l:List Int):List Int:=restTo t l t.length
def quotV (t:List (List Int)) (l:List Int) (i k:Nat):Int:=clsV t l (en t ((restQ t l).getD i 0).toNat ((restQ t l).getD k 0).toNat)
def quotQ (t:List (List Int)) (l:List Int):List (List Int):=(List.range (restQ t l).length).map fun i=>(List.range (restQ t l).length).map fun k=>quotV t l i k
theorem clsQ_len (t:List (List Int)) (l:List Int):(clsQ t l).length=t.length:=by simp [clsQ]
theorem clsQ_get {t:List (List Int)} {l:List Int} {x:Nat} (hx:x<t.length):(clsQ t l).getD x 0=clsV t l x:=map_range_getD _ _ _ _ hx
theorem quotQ_len (t:List (List Int)) (l:List Int):(quotQ t l).length=(restQ t l).length:=by simp [quotQ]
theorem quotQ_row {t:List (List Int)} {l:List Int} {i:Nat} (hi:i<(restQ t l).length):(quotQ t l).getD i []=(List.range (restQ t l).length).map fun k=>quotV t l i k:=map_range_getD _ _ _ _ hi
theorem nonTo_len (t:List (List Int)) (l:List Int) (k:Nat):(nonTo t l k).length≤k:=memTo_len
theorem nonTo_yes {t:List (List Int)} {l:List Int} {k:Nat} (hk:k<t.length) (h:setI l k=false):nonTo t l (k+1)=nonTo t l k++[(k:Int)]:=
  memTo_yes (by rw [setB_get hk,h];rfl)
theorem nonTo_no {t:List (List Int)} {l:List Int} {k:Nat} (hk:k<t.length) (h:setI l k=true):nonTo t l (k+1)=nonTo t l k:=
  memTo_no (by rw [setB_get hk,h];rfl)
theorem nonTo_mem {t:List (List Int)} {l:List Int} {k:Nat} (hk:k≤t.length) {x:Int}:x∈nonTo t l k↔∃i:Nat,i<k∧setI l i=false∧x=(i:Int):=by
  unfold nonTo memTo
  simp only [List.mem_map,List.mem_filter,List.mem_range]
  constructor
  · rintro ⟨i,⟨h1,h2⟩,rfl⟩
    rw [setB_get (by omega)] at h2
    exact ⟨i,h1,by simpa using h2,rfl⟩
  · rintro ⟨i,h1,h2,rfl⟩
    exact ⟨i,⟨h1,by rw [setB_get (by omega),h2];rfl⟩,rfl⟩
theorem restQ_get {t:List (List Int)} {l:List Int} (hl:IdL t l) {i:Nat} (hi:i<(restQ t l).length):0≤(restQ t l).getD i 0∧(restQ t l).getD i 0<(t.length:Int)∧(i=0→setI l ((restQ t l).getD i 0).toNat=true)∧(0<i→setI l ((restQ t l).getD i 0).toNat=false):=by
  cases i with
  |zero=>
   have h:=hl.2.2.1 _ (getD_mem (d:=0) hl.1)
   have e:(restQ t l).getD 0 0=l.getD 0 0:=rfl
   rw [e]
   exact ⟨h.1,h.2,fun _=>setI_iff.2 (by rw [Int.toNat_of_nonneg h.1];exact getD_mem hl.1),fun h=>absurd h (Nat.lt_irrefl _)⟩
  |succ i=>
   have hi':i<(nonTo t l t.length).length:=by simpa [restQ,restTo] using hi
   have e:(restQ t l).getD (i+1) 0=(nonTo t l t.length).getD i 0:=by simp [restQ,restTo]
   rw [e]
   obtain ⟨k,h1,h2,h3⟩:=(nonTo_mem (Nat.le_refl _)).1 (getD_mem (d:=0) hi')
   rw [h3,Int.toNat_natCast]
   exact ⟨by omega,by omega,fun h=>by omega,fun _=>h2⟩
theorem restQ_len (t:List (List Int)) (l:List Int):(restQ t l).length≤t.length+1:=by
  have:=nonTo_len t l t.length
  simp [restQ,restTo];omega
theorem quotV_zero {t:List (List Int)} (_h:Sh t) {l:List Int} (hl:IdL t l) {i k:Nat} (hi:i<(restQ t l).length) (hk:k<(restQ t l).length) (h0:i=0∨k=0):quotV t l i k=0:=by
  have gi:=restQ_get hl hi
  have gk:=restQ_get hl hk
  unfold quotV clsV
  rcases h0 with h0|h0
  · rw [if_pos (hl.2.2.2 _ ((restQ t l).getD k 0).toNat (by omega) (by omega) (gi.2.2.1 h0)).1]
  · rw [if_pos (hl.2.2.2 _ ((restQ t l).getD i 0).toNat (by omega) (by omega) (gk.2.2.1 h0)).2]
end Go.Proofs.YtjabhmhhhlcopaaGreatDoor
end
section
namespace Go.Proofs.YtjabhmhhhlcopaaGreatDoor
open Go Go.AM
theorem map_get {α β:Type} {l:List α} {f:α→β} {i:Nat} (d:α) (e:β) (hi:i<l.length):(l.map f).getD i e=f (l.getD i d):=by
  rw [getD_eq (by rw [List.length_map];exact hi),List.getElem_map,getD_eq (d:=d) hi]
end Go.Proofs.YtjabhmhhhlcopaaGreatDoor
end
section
namespace Go.Proofs.YtjabhmhhhlcopaaGreatDoor
variable {t:List (List Int)}
def facI (S L:List Int):List Int:=ascV S.length fun k=>setI L (eL S k)
abbrev facS (t:List (List Int)) (s:Nat):List Int:=(serV t).getD s []
abbrev facJ (t:List (List Int)) (s:Nat):Nat:=nxJ t (us t s)
theorem fac_J (h:Semi t) {s:Nat} (hs:s<numJ t):facJ t s<numJ t∧(us t s).getD (facJ t s) false=false:=
  ⟨(us_next h hs).2.1,(okN_iff.1 (us_next h hs).2.2.1).1⟩
theorem fac_mem (h:Semi t) {s:Nat} (h0:0<s) (hs:s<numJ t) {x:Nat} (hx:x<t.length):(setI (facS t s) x=true↔(setI (facS t (s - 1)) x=true∨jcl t x=(facJ t s:Int)))∧(setI (facS t (s - 1)) x=true→jcl t x≠(facJ t s:Int)):=by
  have e1:setI (facS t s) x=inS t (us t (s+1)) x:=by rw [show facS t s=ascV t.length (inS t (us t (s+1))) from serV_get hs,ascV_set hx]
  have e2:setI (facS t (s - 1)) x=inS t (us t s) x:=by
    rw [show facS t (s - 1)=ascV t.length (inS t (us t (s - 1+1))) from serV_get (by omega),ascV_set hx,show s - 1+1=s by omega]
  rw [e1,e2,inS_next h hs hx,Bool.or_eq_true,decide_eq_true_iff]
  refine ⟨Iff.rfl,fun hi he=>?_⟩
  unfold inS at hi
  rw [show (classJ t).getD x 0=(facJ t s:Int) from he,Int.toNat_natCast,(fac_J h hs).2] at hi
  cases hi
theorem id_cl (h:Sh t) {l:List Int} (hl:IdL t l):ClL t l:=
  ⟨hl.1,hl.2.1,hl.2.2.1,fun x y hx hy h1 _=>(hl.2.2.2 x y hx hy h1).1⟩
theorem fac_cl (h:Semi t) {s:Nat} (hs:s<numJ t):ClL t (facS t s):=id_cl h.toSh (ser_id h hs)
theorem asc_le {l:List Int} (h:ClL t l):l.length≤t.length:=by have:=ascV_len t.length (setI l);rwa [ascV_self h.asc h.ins] at this
theorem facI_set {S L:List Int} {k:Nat} (hk:k<S.length):setI (facI S L) k=setI L (eL S k):=ascV_set hk
theorem fac_id (h:Semi t) {s:Nat} (h0:0<s) (hs:s<numJ t):IdL (subT t (facS t s)) (facI (facS t s) (facS t (s - 1))):=by
  have hc:=fac_cl h hs
  have hl:=ser_id h (s:=s - 1) (by omega)
  have hp:(facS t (s - 1)).getD 0 0∈facS t (s - 1):=getD_mem (d:=0) hl.1
  have hpr:0≤(facS t (s - 1)).getD 0 0∧(facS t (s - 1)).getD 0 0<(t.length:Int):=hl.2.2.1 _ hp
  have hpx:setI (facS t (s - 1)) ((facS t (s - 1)).getD 0 0).toNat=true:=setI_iff.2 (by rw [Int.toNat_of_nonneg hpr.1];exact hp)
  have hin:=pL_in (((fac_mem h h0 hs (x:=((facS t (s - 1)).getD 0 0).toNat) (by omega)).1).2 (.inl hpx))
  refine ⟨List.length_pos_of_mem (ascV_mem.2 ⟨_,hin.2.1,by rw [hin.2.2];exact hpx,rfl⟩),ascV_asc _ _,fun x hx=>?_,fun x y hx hy hf=>?_⟩
  · have:=ascV_in hx
    rw [subT_len];exact this
  · rw [subT_len] at hx hy
    rw [facI_set hx] at hf
    have e1:=sub_en hc hx hy
    have e2:=sub_en hc hy hx
    have hid:=hl.2.2.2 _ _ (hc.el hx).1 (hc.el hy).1 hf
    rw [facI_set e1.2.1,facI_set e2.2.1,e1.2.2,e2.2.2]
    exact hid
theorem fac_take (h:Semi t) {s:Nat} (h0:0<s) (hs:s<numJ t):∀k,k≤(facS t s).length→(nonTo (subT t (facS t s)) (facI (facS t s) (facS t (s - 1))) k).map (fun p=>(facS t s).getD p.toNat 0)=((facS t s).take k).filter fun x=>decide (jcl t x.toNat=(facJ t s:Int))
  |0,_=>by simp [nonTo,memTo]
  |k+1,hk=>by
   have hc:=fac_cl h hs
   have ih:=fac_take h h0 hs k (by omega)
   have hkl:k<(facS t s).length:=by omega
   have he:=hc.el hkl
   have hm:=fac_mem h h0 hs he.1
   have eg:(facS t s)[k]=(facS t s).getD k 0:=by rw [List.getD_eq_getElem?_getD,List.getElem?_eq_getElem hkl];rfl
   rw [List.take_add_one,List.getElem?_eq_getElem hkl,show (some (facS t s)[k]).toList=[(facS t s)[k]] from rfl,List.filter_append,eg]
   have hks:k<(subT t (facS t s)).length:=by rw [subT_len];exact hkl
   by_cases e:setI (facS t (s - 1)) (eL (facS t s) k)=true
   · rw [nonTo_no hks (by rw [facI_set hkl];exact e),ih,List.filter_cons_of_neg (by rw [decide_eq_true_iff];exact hm.2 e),List.filter_nil,List.append_nil]
   · have hj:=(hm.1.1 he.2.2).resolve_left e
     rw [nonTo_yes hks (by rw [facI_set hkl];exact Bool.eq_false_iff.2 e),List.map_append,ih,List.filter_cons_of_pos (by rw [decide_eq_true_iff];exact hj),List.filter_nil]
     rfl
theorem fac_elems (h:Semi t) {s:Nat} (h0:0<s) (hs:s<numJ t):(facS t s).filter (fun x=>decide (jcl t x.toNat=(facJ t s:Int)))=elemsJ t (facJ t s):=by
  have e:facS t s=ascV t.length (setI (facS t s)):=((fac_cl h hs).asc |> fun ha=>(ascV_self ha (fac_cl h hs).ins).symm)
  rw [e,ascV_filter t.length _ (fun x=>decide (jcl t x=(facJ t s:Int))),elemsJ_asc (fac_J h hs).1]
  refine ascV_congr fun x hx=>?_
  by_cases hj:jcl t x=(facJ t s:Int)
  · rw [decide_eq_true hj,(fac_mem h h0 hs hx).1.2 (.inr hj)];rfl
  · rw [decide_eq_false hj,Bool.and_false]
theorem fac_idx (h:Semi t) {s:Nat} (h0:0<s) (hs:s<numJ t) {q:Nat} (hq:q<(facS t s).length) (hj:jcl t (eL (facS t s) q)=(facJ t s:Int)):(elemsJ t (facJ t s)).idxOf ((facS t s).getD q 0)=(nonTo (subT t (facS t s)) (facI (facS t s) (facS t (s - 1))) q).length:=by
  have hc:=fac_cl h hs
  have e:=congrArg List.length (fac_take h h0 hs q (by omega))
  rw [List.length_map] at e
  rw [e,←fac_elems h h0 hs]
  have eg:(facS t s)[q]=(facS t s).getD q 0:=by rw [List.getD_eq_getElem?_getD,List.getElem?_eq_getElem hq];rfl
  have hsp:facS t s=(facS t s).take q++(facS t s).getD q 0::(facS t s).drop (q+1):=by
    rw [←eg,List.getElem_cons_drop,List.take_append_drop]
  have hnd:(facS t s).Nodup:=asc_nodup hc.asc
  have hni:(facS t s).getD q 0∉(facS t s).take q:=fun hm=>by
    rw [hsp,List.nodup_append] at hnd
    exact hnd.2.2 _ hm _ (List.mem_cons_self) rfl
  rw [show (facS t s).filter (fun x=>decide (jcl t x.toNat=(facJ t s:Int)))=((facS t s).take q++(facS t s).getD q 0::(facS t s).drop (q+1)).filter (fun x=>decide (jcl t x.toNat=(facJ t s:Int))) from congrArg _ hsp]
  rw [List.filter_append,List.filter_cons_of_pos (by rw [decide_eq_true_iff];exact hj),List.idxOf_append,if_neg fun hm=>hni (List.mem_filter.1 hm).1,List.idxOf_cons_self,Nat.zero_add]
theorem fac_min (h:Semi t) {s:Nat} (h0:0<s) (hs:s<numJ t):minJ t (facJ t s)=false:=by
  refine Bool.eq_false_iff.2 fun hm=>?_
  have hx:=kerX_ok h
  have hin:setI (facS t 0) (kerX t)=true:=by rw [show facS t 0=ascV t.length (kerF t) from ser_ker h,ascV_set hx.2.1];exact hx.2.2.1
  have hup:∀k,k<numJ t→setI (facS t k) (kerX t)=true:=by
    intro k
    induction k with
    |zero=>exact fun _=>hin
    |succ k ih=>exact fun hk=>((fac_mem h (Nat.succ_pos k) hk hx.2.1).1).2 (.inl (ih (by omega)))
  have hne:=(fac_mem h h0 hs hx.2.1).2 (hup (s - 1) (by omega))
  have hJ:=(fac_J h hs).1
  have f1:=fst_of (classJ_canon t) hJ
  have f2:=fst_of (classJ_canon t) (kerJ_ok h).2
  have l1:fstC (classJ t) (facJ t s)<t.length:=by have:=f1.2.2.1;rwa [classJ_len] at this
  have l2:fstC (classJ t) (kerJ t)<t.length:=by have:=f2.2.2.1;rwa [classJ_len] at this
  have hne2:kerJ t≠facJ t s:=fun e=>hne (by rw [(kerJ_ok h).1,e])
  have:=minJ_iff.1 hm (kerJ t) (kerJ_ok h).2 hne2
  rw [(prF_iff h l1).1 (ker_min h (prF_id h l1) l1 (prF_self h l1) ((kerJ_iff h l2).1 f2.2.2.2))] at this
  cases this
theorem fac_list (h:Semi t) {s:Nat} (h0:0<s) (hs:s<numJ t):prinList t (facJ t s)= -1::elemsJ t (facJ t s):=by
  unfold prinList;rw [fac_min h h0 hs];rfl
theorem fac_rest (h:Semi t) {s:Nat} (h0:0<s) (hs:s<numJ t):(nonTo (subT t (facS t s)) (facI (facS t s) (facS t (s - 1))) (facS t s).length).map (fun p=>(facS t s).getD p.toNat 0)=elemsJ t (facJ t s):=by
  rw [fac_take h h0 hs _ (Nat.le_refl _),List.take_length,fac_elems h h0 hs]
theorem fac_eq (h:Semi t) {s:Nat} (h0:0<s) (hs:s<numJ t):prinTab t (facJ t s)=quotQ (subT t (facS t s)) (facI (facS t s) (facS t (s - 1))):=by
  have hc:=fac_cl h hs
  have hid:=fac_id h h0 hs
  have hJ:=(fac_J h hs).1
  have hsm:=subT_len t (facS t s)
  have hr:=fac_rest h h0 hs
  have hrl:=congrArg List.length hr
  rw [List.length_map] at hrl
  have hQ:(restQ (subT t (facS t s)) (facI (facS t s) (facS t (s - 1)))).length=(prinList t (facJ t s)).length:=by
    rw [fac_list h h0 hs];unfold restQ restTo;rw [hsm,List.length_cons,List.length_cons,hrl]
  have hat:∀i,i<(elemsJ t (facJ t s)).length→∃p:Nat,p<(facS t s).length∧(restQ (subT t (facS t s)) (facI (facS t s) (facS t (s - 1)))).getD (i+1) 0=(p:Int)∧(prinList t (facJ t s)).getD (i+1) 0=(eL (facS t s) p:Int):=fun i hi=>by
    have e1:(restQ (subT t (facS t s)) (facI (facS t s) (facS t (s - 1)))).getD (i+1) 0=(nonTo (subT t (facS t s)) (facI (facS t s) (facS t (s - 1))) (facS t s).length).getD i 0:=by
      unfold restQ restTo;rw [hsm,List.getD_cons_succ]
    obtain ⟨p,hp,_,e2⟩:=(nonTo_mem (by rw [hsm];exact Nat.le_refl _)).1 (getD_mem (d:=0) (show i<(nonTo (subT t (facS t s)) (facI (facS t s) (facS t (s - 1))) (facS t s).length).length by omega))
    refine ⟨p,hp,e1.trans e2,?_⟩
    rw [fac_list h h0 hs,List.getD_cons_succ,←hr,map_get 0 0 (by omega),e2,Int.toNat_natCast]
    exact (hc.el hp).2.1
  have hz:(prinList t (facJ t s)).getD 0 0= -1:=prin_zero (fac_min h h0 hs)
  refine ext_getD [] (by rw [quotQ_len,hQ];unfold prinTab;rw [List.length_map]) fun i hi=>?_
  have hi:i<(prinList t (facJ t s)).length:=by unfold prinTab at hi;rwa [List.length_map] at hi
  have er:(prinTab t (facJ t s)).getD i []=(prinList t (facJ t s)).map fun b=>prinV t (facJ t s) ((prinList t (facJ t s)).getD i 0) b:=by unfold prinTab;exact map_get 0 [] hi
  rw [er,quotQ_row (by omega)]
  refine ext_getD 0 (by rw [List.length_map,List.length_map,List.length_range,hQ]) fun k hk=>?_
  rw [List.length_map] at hk
  rw [map_get 0 0 hk,map_range_getD _ _ _ _ (by omega)]
  have hlen:(prinList t (facJ t s)).length=(elemsJ t (facJ t s)).length+1:=by rw [fac_list h h0 hs,List.length_cons]
  cases i with
  |zero=>
   rw [quotV_zero (sub_semi h hc (asc_le hc)).toSh hid (by omega) (by omega) (.inl rfl),hz]
   unfold prinV;rw [if_neg (by omega)]
  |succ i=>
   cases k with
   |zero=>
    rw [quotV_zero (sub_semi h hc (asc_le hc)).toSh hid (by omega) (by omega) (.inr rfl),hz]
    unfold prinV;rw [if_neg (by omega)]
   |succ k=>
    obtain ⟨p,hp,e1,e2⟩:=hat i (by omega)
    obtain ⟨p',hp',e1',e2'⟩:=hat k (by omega)
    have he:=sub_en hc hp hp'
    unfold quotV clsV prinV
    rw [e1,e1',e2,e2',Int.toNat_natCast,Int.toNat_natCast,Int.toNat_natCast,Int.toNat_natCast,facI_set he.2.1,he.2.2]
    have hin:=hc.el he.2.1
    rw [he.2.2] at hin
    have hm:=fac_mem h h0 hs hin.1
    by_cases hj:jcl t (en t (eL (facS t s) p) (eL (facS t s) p'))=(facJ t s:Int)
    · rw [if_pos ⟨by omega,by omega,hj⟩,if_neg (fun hh=>hm.2 hh hj)]
      have hx:=fac_idx h h0 hs he.2.1 (by rw [he.2.2];exact hj)
      rw [hin.2.1] at hx
      rw [fac_list h h0 hs,List.idxOf_cons,show ((-1:Int)==((en t (eL (facS t s) p) (eL (facS t s) p'):Nat):Int))=false from beq_eq_false_iff_ne.2 (by omega)]
      rw [←hx];rfl
    · rw [if_neg (fun hh=>hj hh.2.2),if_pos ((hm.1.1 hin.2.2).resolve_right hj)]
end Go.Proofs.YtjabhmhhhlcopaaGreatDoor
end
section
namespace Go.Proofs.YtjabhmhhhlcopaaGreatDoor
variable {t:List (List Int)}
theorem ker_elems (h:Semi t):elemsJ t (kerJ t)=ascV t.length (kerF t):=by
  rw [elemsJ_asc (kerJ_ok h).2]
  refine ascV_congr fun x hx=>?_
  have hk:=kerX_ok h
  have e:=kerJ_cl h hk.2.1 hx hk.2.2.1
  rw [(kerJ_ok h).1] at e
  rw [Bool.eq_iff_iff,decide_eq_true_iff]
  exact e
theorem fac_ker (h:Semi t):prinTab t (kerJ t)=subT t (facS t 0):=by
  have hc:=fac_cl h (s:=0) (Nat.lt_of_le_of_lt (Nat.zero_le _) (kerJ_ok h).2)
  have hL:prinList t (kerJ t)=facS t 0:=by
    unfold prinList;rw [if_pos (kerJ_min h),ker_elems h];exact (ser_ker h).symm
  unfold prinTab;rw [hL]
  refine ext_getD [] (by rw [List.length_map,subT_len]) fun i hi=>?_
  rw [List.length_map] at hi
  rw [map_get 0 [] hi,subT_row hi]
  refine ext_getD 0 (by rw [List.length_map,List.length_map,List.length_range]) fun k hk=>?_
  rw [List.length_map] at hk
  rw [map_get 0 0 hk,map_range_getD _ _ _ _ hk]
  have a:=hc.el hi
  have b:=hc.el hk
  have p:=pL_in (sub_in hc hi hk)
  have hj:jcl t (en t (eL (facS t 0) i) (eL (facS t 0) k))=(kerJ t:Int):=by
    have h2:=setI_iff.1 (sub_in hc hi hk)
    have h3:=((mem_elems (kerJ_ok h).2).1 (show _∈elemsJ t (kerJ t) by rw [(ker_elems h).trans (ser_ker h).symm];exact h2)).2.2
    rwa [Int.toNat_natCast] at h3
  unfold prinV subV
  rw [a.2.1,b.2.1,Int.toNat_natCast,Int.toNat_natCast,if_pos ⟨by omega,by omega,hj⟩,p.1]
  have q:=prin_idx (kerJ_ok h).2 (h.toSh.ent a.1 b.1).2 hj
  rw [hL] at q ⊢
  have e:(facS t 0).getD (pL (facS t 0) (en t (eL (facS t 0) i) (eL (facS t 0) k))) 0=((en t (eL (facS t 0) i) (eL (facS t 0) k):Nat):Int):=by
    rw [(hc.el p.2.1).2.1,p.2.2]
  exact congrArg Int.ofNat (asc_inj hc.asc q.1 p.2.1 (q.2.trans e.symm))
theorem fac_new (h:Semi t) {s:Nat} (h0:0<s) (hs:s<numJ t):∃i,i<(facS t s).length∧setI (facS t (s - 1)) (eL (facS t s) i)=false:=by
  have f:=fst_of (classJ_canon t) (fac_J h hs).1
  have hl:fstC (classJ t) (facJ t s)<t.length:=by have:=f.2.2.1;rwa [classJ_len] at this
  have hm:=fac_mem h h0 hs hl
  have hin:=hm.1.2 (.inr f.2.2.2)
  have p:=pL_in hin
  refine ⟨_,p.2.1,?_⟩
  rw [p.2.2]
  exact Bool.eq_false_iff.2 fun hh=>hm.2 hh f.2.2.2
theorem fac_out (h:Semi t) {s:Nat} (h0:0<s) (hs:s<numJ t) {i:Nat} (hi:i<(facS t s).length) (hf:setI (facS t (s - 1)) (eL (facS t s) i)=false):jcl t (eL (facS t s) i)=(facJ t s:Int):=by
  have e:=(fac_cl h hs).el hi
  exact ((fac_mem h h0 hs e.1).1.1 e.2.2).resolve_left (by rw [hf];exact Bool.false_ne_true)
end Go.Proofs.YtjabhmhhhlcopaaGreatDoor
end
section
namespace Go.Proofs.YtjabhmhhhlcopaaGreatDoor
open Go Go.AM
set_option maxRecDepth 100000
set_option maxHeartbeats 2000000
theorem series_fn (t:List (List Int)) (h:Semi t):QF 11 [.ro (.rows .i64 t)] (.ro (.rows .i64 (serV t))):=mkQ Tryz.func11 (by decide+kernel) rfl (Nat.le_of_ble_eq_true rfl) fun _=>by
  have hsh:=h.toSh
  have hmost:=h.most
  have hJ:=numJ_le t
  have hcl:=classJ_len t
  have hbl:=belowL_len t
  refine Or.inl (cq (valid_fn t) (And.intro rfl trivial) ?_)
  refine And.intro (fun h1=>absurd (valid_zero.2 h) h1) (fun _=>?_)
  refine Or.inl (cq (green_fn t h) (And.intro rfl trivial) ?_)
  refine And.intro (by omega) ?_
  refine And.intro (by omega) ?_
  refine Exists.intro []<|lp2 (fun (i:Nat) (_:List Int)=>[(27,.int .i64 i)]) (fun _ O=>[(24,.vec 0 (.ints .i64 O) [])]) (fun i O=>i≤numJ t∧O.length=numJ t∧∀y,y<numJ t→O.getD y 0=if y<i then (cntO t (us t 0) y (numJ t):Int) else 0) (fun i _=>numJ t - i) 0 (List.replicate (belowL t).length 0) ⟨Nat.zero_le _,by simp [hbl],fun y hy=>by simp [hbl,hy]⟩ (by repeat' first|refine And.intro ?_ ?_|exact True.intro|(show (_:Int)=(_:Int);omega)|omega|exact rfl|(simp only [RO.len];omega)) ?_
  rintro i O ⟨hi,hO,hOy⟩
  refine And.intro (fun h1=>?_) (fun h1=>?_)
  · have h1:(i:Int)<((belowL t).length:Int):=h1
    have hil:i<numJ t:=by omega
    refine Exists.intro []<|lp2 (fun (j:Nat) (_:List Int)=>[(32,.int .i64 j)]) (fun _ O=>[(24,.vec 0 (.ints .i64 O) [])]) (fun j O=>j≤numJ t∧O.length=numJ t∧∀y,y<numJ t→O.getD y 0=if y<i then (cntO t (us t 0) y (numJ t):Int) else if y=i then (cntO t (us t 0) i j:Int) else 0) (fun j _=>numJ t - j) 0 O ⟨Nat.zero_le _,hO,fun y hy=>by rw [hOy y hy];by_cases e:y<i<;>by_cases e2:y=i<;>simp [e,e2,cntO]⟩ (by repeat' first|refine And.intro ?_ ?_|exact True.intro|(show (_:Int)=(_:Int);omega)|omega|exact rfl|(simp only [RO.len];omega)) ?_
    rintro j O ⟨hj,hO,hOy⟩
    refine And.intro (fun h2=>?_) (fun h2=>?_)
    · have h2:(j:Int)<((belowL t).length:Int):=h2
      have hjl:j<numJ t:=by omega
      have hb:=bel_get (t:=t) hjl hil
      have hbr:((belowL t).getD j []).length=numJ t:=by rw [belowL_row hjl];simp
      have hu0:=us_zero_get t j
      have hOi:=hOy i hil
      rw [if_neg (by omega),if_pos rfl] at hOi
      have hle:=cntO_le t (us t 0) i j
      refine And.intro (fun h3=>?_) (fun h3=>?_)
      · have h3:(j:Int)≠(i:Int):=h3
        refine And.intro (by omega) ?_
        refine And.intro (show 0≤(i:Int)∧(i:Int)<(((belowL t).getD j []).length:Int) by omega) ?_
        refine And.intro (fun h4=>?_) (fun h4=>?_)
        · have h4:((belowL t).getD j []).getD i false=true:=h4
          rw [hb] at h4
          refine And.intro (by omega) ?_
          refine And.intro (show -9223372036854775808≤O.getD i 0+1∧O.getD i 0+1≤9223372036854775807 by omega) ?_
          refine And.intro (by omega) ?_
          refine And.intro (by omega) ?_
          refine And.intro (by omega) ?_
          refine nx (j+1,O.set i (O.getD i 0+1)) ⟨by omega,by rw [List.length_set];exact hO,fun y hy=>?_⟩ (show numJ t - (j+1)<numJ t - j by omega) (by repeat' first|refine And.intro ?_ ?_|exact True.intro|(show (_:Int)=(_:Int);omega)|omega|exact rfl|(simp only [RO.len];omega))
          by_cases e:y=i
          · subst e
            rw [getD_set_eq (by omega),if_neg (by omega),if_pos rfl,hOi]
            simp only [cntO];rw [if_pos ⟨by omega,hu0,h4⟩];omega
          · rw [getD_set_ne (Ne.symm e),hOy y hy,if_neg e,if_neg e]
        · have h4:((belowL t).getD j []).getD i false=false:=h4
          rw [hb] at h4
          refine And.intro (by omega) ?_
          refine nx (j+1,O) ⟨by omega,hO,fun y hy=>?_⟩ (show numJ t - (j+1)<numJ t - j by omega) (by repeat' first|refine And.intro ?_ ?_|exact True.intro|(show (_:Int)=(_:Int);omega)|omega|exact rfl|(simp only [RO.len];omega))
          rw [hOy y hy]
          by_cases e:y=i
          · subst e
            have e3:cntO t (us t 0) y (j+1)=cntO t (us t 0) y j:=by simp only [cntO];rw [if_neg (fun hh:j≠y∧(us t 0).getD j false=false∧bel t j y=true=>by rw [h4] at hh;cases hh.2.2)];rfl
            rw [e3]
          · rw [if_neg e,if_neg e]
      · have h3:(j:Int)=(i:Int):=h3
        refine And.intro (by omega) ?_
        refine nx (j+1,O) ⟨by omega,hO,fun y hy=>?_⟩ (show numJ t - (j+1)<numJ t - j by omega) (by repeat' first|refine And.intro ?_ ?_|exact True.intro|(show (_:Int)=(_:Int);omega)|omega|exact rfl|(simp only [RO.len];omega))
        rw [hOy y hy]
        by_cases e:y=i
        · subst e
          have e3:cntO t (us t 0) y (j+1)=cntO t (us t 0) y j:=by simp only [cntO];rw [if_neg (fun hh:j≠y∧(us t 0).getD j false=false∧bel t j y=true=>hh.1 (by omega))];rfl
          rw [e3]
        · rw [if_neg e,if_neg e]
    · have h2:((belowL t).length:Int)≤(j:Int):=h2
      refine And.intro (by omega) ?_
      refine nx (i+1,O) ⟨by omega,hO,fun y hy=>?_⟩ (show numJ t - (i+1)<numJ t - i by omega) (by repeat' first|refine And.intro ?_ ?_|exact True.intro|(show (_:Int)=(_:Int);omega)|omega|exact rfl|(simp only [RO.len];omega))
      rw [hOy y hy]
      by_cases e:y<i
      · rw [if_pos e,if_pos (by omega)]
      · rw [if_neg e]
        by_cases e2:y=i
        · rw [if_pos e2,if_pos (by omega),e2,show j=numJ t by omega]
        · rw [if_neg e2,if_neg (by omega)]
  · have h1:((belowL t).length:Int)≤(i:Int):=h1
    have hOe:O=openL t (us t 0):=ext_getD 0 (by rw [openL_len];exact hO) fun y hy=>by rw [hOy y (by omega),if_pos (by omega),openL_get (by omega)]
    subst hOe
    refine And.intro (by omega) ?_
    refine And.intro (by omega) ?_
    refine And.intro (by omega) ?_
    refine And.intro (by omega) ?_
    have e0:List.replicate (((belowL t).length:Nat):Int).toNat false=us t 0:=by rw [Int.toNat_natCast,hbl];rfl
    have e1:List.replicate ((t.length:Nat):Int).toNat false=setB t.length (inS t (us t 0)):=by
      refine ext_getD false (by simp [setB]) fun x hx=>?_
      rw [Int.toNat_natCast,List.length_replicate] at hx
      rw [setB_get hx];unfold inS;rw [us_zero_get];simp [hx]
    refine Exists.intro []<|lp (X:=Nat) (fun s=>[(63,.int .i64 s),(8,.vec 130)]) (fun s=>[(24,.vec 0 (.ints .i64 (openL t (us t s))) []),(57,.vec 0 (.bools (setB t.length (inS t (us t s)))) []),(60,.vec 0 (.bools (us t s)) []),(130,.vec 0 (.rows .i64 ((serV t).take s)) [])]) (fun s=>s≤numJ t) (fun s=>numJ t - s) 0 (Nat.zero_le _) (by repeat' first|refine And.intro ?_ ?_|exact True.intro|exact congrArg RO.bools e0|exact congrArg RO.bools e1|(show (_:Int)=(_:Int);omega)|omega|exact rfl) ?_
    intro s hs
    have hul:=us_len t s
    have hol:=openL_len t (us t s)
    refine And.intro (fun h2=>?_) (fun h2=>?_)
    · have h2:(s:Int)<((belowL t).length:Int):=h2
      have hsl:s<numJ t:=by omega
      have hn:=us_next h hsl
      refine Exists.intro []<|lp (X:=Nat) (fun c=>[(11,.int .i64 c)]) (fun _=>[]) (fun c=>c≤nxJ t (us t s)) (fun c=>nxJ t (us t s) - c) 0 (Nat.zero_le _) (by repeat' first|refine And.intro ?_ ?_|exact True.intro|(show (_:Int)=(_:Int);omega)|omega|exact rfl|(simp only [RO.len];omega)) ?_
      intro c hc
      have hog:=openL_get (t:=t) (u:=us t s) (i:=c) (by omega)
      have hun:=okN_cnt.1 hn.2.2.1
      refine And.intro (by omega) ?_
      refine And.intro (fun h3=>?_) (fun h3=>?_)
      · have h3:(us t s).getD c false=true:=h3
        have hne:c≠nxJ t (us t s):=fun e=>by rw [e,hun.1] at h3;cases h3
        refine And.intro (by omega) ?_
        refine nx (c+1) (show c+1≤nxJ t (us t s) by omega) (show nxJ t (us t s) - (c+1)<nxJ t (us t s) - c by omega) (by repeat' first|refine And.intro ?_ ?_|exact True.intro|(show (_:Int)=(_:Int);omega)|omega|exact rfl|(simp only [RO.len];omega))
      have h3:(us t s).getD c false=false:=h3
      refine And.intro (by omega) ?_
      refine And.intro (fun h4=>?_) (fun h4=>?_)
      · have h4:0<(openL t (us t s)).getD c 0:=h4
        have hne:c≠nxJ t (us t s):=fun e=>by rw [hog,e,hun.2] at h4;exact absurd h4 (by decide)
        refine And.intro (by omega) ?_
        refine nx (c+1) (show c+1≤nxJ t (us t s) by omega) (show nxJ t (us t s) - (c+1)<nxJ t (us t s) - c by omega) (by repeat' first|refine And.intro ?_ ?_|exact True.intro|(show (_:Int)=(_:Int);omega)|omega|exact rfl|(simp only [RO.len];omega))
      have h4:(openL t (us t s)).getD c 0≤0:=h4
      have hcn:c=nxJ t (us t s):=by
        rcases Nat.lt_or_ge c (nxJ t (us t s)) with e|e
        · have hk:=hn.2.2.2 c e
          have:okN t (us t s) c=true:=okN_cnt.2 ⟨h3,by omega⟩
          rw [this] at hk;cases hk
        · omega
      subst hcn
      have hset:=fun y=>cntO_set (t:=t) (i:=y) (u:=us t s) (c:=nxJ t (us t s)) (by omega) hun.1 (numJ t)
      have hus:(us t s).set (nxJ t (us t s)) true=us t (s+1):=rfl
      rw [hus] at hset
      have hul1:=us_len t (s+1)
      refine And.intro (by omega) ?_
      refine And.intro (by omega) ?_
      refine Exists.intro []<|lp2 (fun (j:Nat) (_:List Int)=>[(83,.int .i64 j)]) (fun _ O=>[(24,.vec 0 (.ints .i64 O) []),(60,.vec 0 (.bools (us t (s+1))) [])]) (fun j O=>j≤numJ t∧O.length=numJ t∧∀y,y<numJ t→O.getD y 0=if y<j then (cntO t (us t (s+1)) y (numJ t):Int) else (cntO t (us t s) y (numJ t):Int)) (fun j _=>numJ t - j) 0 (openL t (us t s)) ⟨Nat.zero_le _,hol,fun y hy=>by rw [openL_get hy];rfl⟩ (by repeat' first|refine And.intro ?_ ?_|exact True.intro|(show (_:Int)=(_:Int);omega)|omega|exact rfl|(simp only [RO.len];omega)) ?_
      rintro j O ⟨hj,hO,hOy⟩
      refine And.intro (fun h5=>?_) (fun h5=>?_)
      · have h5:(j:Int)<((belowL t).length:Int):=h5
        have hjl:j<numJ t:=by omega
        have hb:=bel_get (t:=t) (k:=nxJ t (us t s)) (i:=j) hn.2.1 hjl
        have hbr:((belowL t).getD (nxJ t (us t s)) []).length=numJ t:=by rw [belowL_row hn.2.1];simp
        have hOj:=hOy j hjl
        rw [if_neg (by omega)] at hOj
        have hsj:=hset j
        have hle:=cntO_le t (us t s) j (numJ t)
        have step:∀O':List Int,O'.length=numJ t→O'.getD j 0=(cntO t (us t (s+1)) j (numJ t):Int)→(∀y,y<numJ t→y≠j→O'.getD y 0=O.getD y 0)→∀y,y<numJ t→O'.getD y 0=if y<j+1 then (cntO t (us t (s+1)) y (numJ t):Int) else (cntO t (us t s) y (numJ t):Int):=fun O' _ g1 g2 y hy=>by
          by_cases e:y=j
          · subst e;rw [g1,if_pos (by omega)]
          · rw [g2 y hy e,hOy y hy]
            by_cases e2:y<j
            · rw [if_pos e2,if_pos (by omega)]
            · rw [if_neg e2,if_neg (by omega)]
        refine And.intro (fun h6=>?_) (fun h6=>?_)
        · have h6:(j:Int)≠(nxJ t (us t s):Int):=h6
          refine And.intro (by omega) ?_
          refine And.intro (by simp only [Int.toNat_natCast];omega) ?_
          refine And.intro (fun h7=>?_) (fun h7=>?_)
          · have h7:((belowL t).getD (nxJ t (us t s)) []).getD j false=true:=h7
            rw [hb] at h7
            rw [if_pos ⟨hn.2.1,by omega,h7⟩] at hsj
            refine And.intro (by omega) ?_
            refine And.intro (by simp only [Int.toNat_natCast];omega) ?_
            refine And.intro (by omega) ?_
            refine And.intro (by omega) ?_
            refine And.intro (by omega) ?_
            exact nx (j+1,O.set j (O.getD j 0 - 1)) ⟨by omega,by rw [List.length_set];exact hO,step _ (by rw [List.length_set];exact hO) (by rw [getD_set_eq (by omega)];omega) fun y _ hne=>getD_set_ne (Ne.symm hne)⟩ (show numJ t - (j+1)<numJ t - j by omega) (by repeat' first|refine And.intro ?_ ?_|exact True.intro|(show (_:Int)=(_:Int);omega)|omega|exact rfl|(simp only [RO.len];omega))
          · have h7:((belowL t).getD (nxJ t (us t s)) []).getD j false=false:=h7
            rw [hb] at h7
            rw [if_neg (fun hh=>by rw [h7] at hh;cases hh.2.2)] at hsj
            refine And.intro (by omega) ?_
            exact nx (j+1,O) ⟨by omega,hO,step O hO (by omega) fun y _ _=>rfl⟩ (show numJ t - (j+1)<numJ t - j by omega) (by repeat' first|refine And.intro ?_ ?_|exact True.intro|(show (_:Int)=(_:Int);omega)|omega|exact rfl|(simp only [RO.len];omega))
        · have h6:(j:Int)=(nxJ t (us t s):Int):=h6
          rw [if_neg (fun hh=>hh.2.1 (by omega))] at hsj
          refine And.intro (by omega) ?_
          exact nx (j+1,O) ⟨by omega,hO,step O hO (by omega) fun y _ _=>rfl⟩ (show numJ t - (j+1)<numJ t - j by omega) (by repeat' first|refine And.intro ?_ ?_|exact True.intro|(show (_:Int)=(_:Int);omega)|omega|exact rfl|(simp only [RO.len];omega))
      · have h5:((belowL t).length:Int)≤(j:Int):=h5
        have hOe:O=openL t (us t (s+1)):=ext_getD 0 (by rw [openL_len];exact hO) fun y hy=>by rw [hOy y (by omega),if_pos (by omega),openL_get (by omega)]
        subst hOe
        refine Exists.intro []<|lp2 (fun (x:Nat) (_:List Bool)=>[(108,.int .i64 x)]) (fun _ I=>[(57,.vec 0 (.bools I) [])]) (fun x I=>x≤t.length∧I.length=t.length∧∀y,y<t.length→I.getD y false=if y<x then inS t (us t (s+1)) y else inS t (us t s) y) (fun x _=>t.length - x) 0 (setB t.length (inS t (us t s))) ⟨Nat.zero_le _,setB_len _ _,fun y hy=>by rw [setB_get hy];rfl⟩ (by repeat' first|refine And.intro ?_ ?_|exact True.intro|(show (_:Int)=(_:Int);omega)|omega|exact rfl|(simp only [RO.len];omega)) ?_
        rintro x I ⟨hx,hI,hIy⟩
        refine And.intro (fun h6=>?_) (fun h6=>?_)
        · have h6:(x:Int)<((classJ t).length:Int):=h6
          have hxl:x<t.length:=by omega
          have hcx:=classJ_lt t hxl
          have hin:=inS_next h hsl hxl
          have hIx:=hIy x hxl
          rw [if_neg (by omega)] at hIx
          have stepx:∀b:Bool,b=inS t (us t (s+1)) x→∀y,y<t.length→(I.set x b).getD y false=if y<x+1 then inS t (us t (s+1)) y else inS t (us t s) y:=fun b g1 y hy=>by
            by_cases e:y=x
            · subst e;rw [getD_set_eq (by omega),if_pos (by omega),g1]
            · rw [getD_set_ne (Ne.symm e),hIy y hy]
              by_cases e2:y<x
              · rw [if_pos e2,if_pos (by omega)]
              · rw [if_neg e2,if_neg (by omega)]
          refine And.intro (by omega) ?_
          refine And.intro (by omega) ?_
          refine And.intro (fun h7=>?_) (fun h7=>?_)
          · have h7:I.getD x false=true:=h7
            refine And.intro (by omega) ?_
            refine And.intro (by omega) ?_
            refine And.intro (by omega) ?_
            exact nx (x+1,I.set x true) ⟨by omega,by rw [List.length_set];exact hI,stepx true (by rw [hin,←hIx,h7];rfl)⟩ (show t.length - (x+1)<t.length - x by omega) (by repeat' first|refine And.intro ?_ ?_|exact True.intro|(show (_:Int)=(_:Int);omega)|omega|exact rfl|(simp only [RO.len];omega))
          · have h7:I.getD x false=false:=h7
            refine And.intro (by omega) ?_
            refine And.intro (by omega) ?_
            refine And.intro (by omega) ?_
            exact nx (x+1,I.set x (decide ((classJ t).getD x 0=(nxJ t (us t s):Int)))) ⟨by omega,by rw [List.length_set];exact hI,stepx _ (by rw [hin,←hIx,h7];rfl)⟩ (show t.length - (x+1)<t.length - x by omega) (by repeat' first|refine And.intro ?_ ?_|exact True.intro|(show (_:Int)=(_:Int);omega)|omega|exact rfl|(simp only [RO.len];omega))
        · have h6:((classJ t).length:Int)≤(x:Int):=h6
          have hIe:I=setB t.length (inS t (us t (s+1))):=ext_getD false (by rw [setB_len];exact hI) fun y hy=>by rw [hIy y (by omega),if_pos (by omega),setB_get (by omega)]
          subst hIe
          have hl:=setB_len t.length (inS t (us t (s+1)))
          refine Or.inl (cq (ilist_fn (setB t.length (inS t (us t (s+1)))) (by omega)) (And.intro rfl trivial) ?_)
          have ek:(serV t).take s++[memV (setB t.length (inS t (us t (s+1))))]=(serV t).take (s+1):=by
            rw [take_snoc (d:=[]) (by rw [serV_len];exact hsl),serV_get hsl];rfl
          refine And.intro (by simp;omega) ?_
          refine And.intro (by omega) ?_
          refine nx (s+1) (show s+1≤numJ t by omega) (show numJ t - (s+1)<numJ t - s by omega) ?_
          repeat' first|refine And.intro ?_ ?_|exact True.intro|exact congrArg (RO.rows .i64) ek|(show (_:Int)=(_:Int);omega)|omega|exact rfl
    · have h2:((belowL t).length:Int)≤(s:Int):=h2
      refine And.intro (And.intro trivial ?_) trivial
      show RO.rows .i64 ((serV t).take s)=RO.rows .i64 (serV t)
      rw [List.take_of_length_le (by rw [serV_len];omega)]
end Go.Proofs.YtjabhmhhhlcopaaGreatDoor
end
