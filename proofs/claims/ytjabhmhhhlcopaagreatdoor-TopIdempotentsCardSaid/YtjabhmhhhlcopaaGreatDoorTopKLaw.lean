import Derived.Lib.SlicesCompact
import Derived.Test.YtjabhmhhhlcopaaGreatDoorCooLaw3
import Derived.Test.YtjabhmhhhlcopaaGreatDoorGreen
import Derived.Test.YtjabhmhhhlcopaaGreatDoorGrnLaw
section
namespace Go.Proofs.YtjabhmhhhlcopaaGreatDoor
open Go Go.AM
def srtI (l:List Int):List Int:=l.mergeSort fun x y=>decide (x≤y)
theorem srtI_perm (l:List Int):(srtI l).Perm l:=List.mergeSort_perm l _
theorem srtI_len (l:List Int):(srtI l).length=l.length:=(srtI_perm l).length_eq
theorem srtI_sorted (l:List Int):(srtI l).Pairwise (· ≤·):=by
  have:=List.pairwise_mergeSort (le:=fun x y:Int=>decide (x≤y)) (fun a b c h1 h2=>decide_eq_true (Int.le_trans (of_decide_eq_true h1) (of_decide_eq_true h2))) (fun a b=>by
    rcases Int.le_total a b with h|h
    · simp [h]
    · simp [h]) l
  exact this.imp fun h=>of_decide_eq_true h
def cpI (l:List Int):List Int:=Go.Lib.compact l
theorem cpI_len (l:List Int):(cpI l).length≤l.length:=by
  unfold cpI Go.Lib.compact Go.Lib.compactUpTo
  rw [List.length_map]
  refine Nat.le_trans (List.length_filter_le _ _) ?_
  simp
theorem cpI_mem (l:List Int):∀x∈cpI l,x∈l:=fun x hx=>by
  unfold cpI Go.Lib.compact Go.Lib.compactUpTo at hx
  obtain ⟨j,hj,rfl⟩:=List.mem_map.1 hx
  have hj:=List.mem_range.1 (List.mem_filter.1 hj).1
  simp [hj]
theorem cp_spec {l:List Int} (hs:l.Pairwise (· ≤·)):∀m,m≤l.length→(Go.Lib.compactUpTo l.toArray m).Pairwise (· <·)∧∀x,x∈Go.Lib.compactUpTo l.toArray m↔∃j,j<m∧l.getD j 0=x:=by
  intro m
  induction m with
  |zero=>intro _;exact ⟨by simp [Go.Lib.compactUpTo],fun x=>by simp [Go.Lib.compactUpTo]⟩
  |succ m ih=>
   intro hm
   obtain ⟨h1,h2⟩:=ih (by omega)
   have le:∀i j,i≤j→j<l.length→l.getD i 0≤l.getD j 0:=fun i j hij hj=>by
     rcases Nat.lt_or_ge i j with h|h
     · rw [getD_eq (by omega),getD_eq hj];exact List.pairwise_iff_getElem.1 hs i j (by omega) hj h
     · rw [show i=j by omega];exact Int.le_refl _
   have at_:∀i,i<l.length→l.toArray[i]! =l.getD i 0:=fun i hi=>by rw [getD_eq hi];simp [hi]
   rw [Go.Lib.compactUpTo_succ]
   cases hk:Go.Lib.keeps l.toArray m with
   |true=>
    have hk':m=0∨l.toArray[m]!≠l.toArray[m - 1]! :=of_decide_eq_true hk
    rw [if_pos rfl,at_ m hm]
    refine ⟨?_,fun x=>?_⟩
    · rw [List.pairwise_append]
      refine ⟨h1,by simp,fun a ha b hb=>?_⟩
      have hb:b=l.getD m 0:=by simpa using hb
      obtain ⟨j,hj,rfl⟩:=(h2 a).1 ha
      have h3:=le j (m - 1) (by omega) (by omega)
      have h4:=le (m - 1) m (by omega) hm
      have h5:=hk'.resolve_left (by omega)
      rw [at_ m hm,at_ (m - 1) (by omega)] at h5
      omega
    · rw [List.mem_append,h2]
      constructor
      · rintro (⟨j,hj,e⟩|e)
        · exact ⟨j,by omega,e⟩
        · exact ⟨m,by omega,by simpa using Eq.symm (by simpa using e)⟩
      · rintro ⟨j,hj,e⟩
        rcases Nat.lt_or_ge j m with h|h
        · exact .inl ⟨j,h,e⟩
        · obtain rfl:j=m:=by omega
          exact .inr (by simp [←e])
   |false=>
    have hk':¬(m=0∨l.toArray[m]!≠l.toArray[m - 1]!):=of_decide_eq_false hk
    have h0:m≠0:=fun e=>hk' (.inl e)
    have h3:l.getD m 0=l.getD (m - 1) 0:=by
      have:=Classical.not_not.1 fun h=>hk' (.inr h)
      rw [at_ m hm,at_ (m - 1) (by omega)] at this;exact this
    rw [if_neg (by simp),List.append_nil]
    refine ⟨h1,fun x=>?_⟩
    rw [h2]
    constructor
    · rintro ⟨j,hj,e⟩;exact ⟨j,by omega,e⟩
    · rintro ⟨j,hj,e⟩
      rcases Nat.lt_or_ge j m with h|h
      · exact ⟨j,h,e⟩
      · obtain rfl:j=m:=by omega
        exact ⟨j - 1,by omega,by rw [←h3];exact e⟩
theorem cpsrt_asc (l:List Int):Asc (cpI (srtI l)):=asc_of (cp_spec (srtI_sorted l) _ (Nat.le_refl _)).1
theorem cpsrt_mem (l:List Int) (x:Int):x∈cpI (srtI l)↔x∈l:=by
  unfold cpI Go.Lib.compact
  rw [(cp_spec (srtI_sorted l) _ (Nat.le_refl _)).2,←(srtI_perm l).mem_iff]
  constructor
  · rintro ⟨j,hj,rfl⟩;exact getD_mem hj
  · intro h;exact mem_getD 0 h
def numL (p l:List Int):List Int:=l.map fun x=>p.getD x.toNat 0
theorem numL_len (p l:List Int):(numL p l).length=l.length:=by simp [numL]
theorem num_rows {t:List (List Int)} {j:Nat} (_h:Semi t) (hj:j<numJ t):cpI (srtI (numL (classR t) (elemsJ t j)))=rowsN t j:=by
  refine asc_ext (cpsrt_asc _) (ascV_asc _ _) fun x=>?_
  rw [cpsrt_mem]
  unfold numL rowsN
  rw [ascV_mem,List.mem_map]
  constructor
  · rintro ⟨a,ha,rfl⟩
    have hm:=(mem_elems hj).1 ha
    have hv:=(valid_range (p:=classR t) (canon_idem _) (rcl t a.toNat)).2 (getD_mem (by rw [classR_len];omega))
    refine ⟨(rcl t a.toNat).toNat,by omega,List.any_eq_true.2 ⟨a,ha,decide_eq_true ?_⟩,?_⟩
    · omega
    · show rcl t a.toNat=_
      omega
  · rintro ⟨i,hi,hf,rfl⟩
    obtain ⟨a,ha,hd⟩:=List.any_eq_true.1 hf
    exact ⟨a,ha,of_decide_eq_true hd⟩
theorem num_cols {t:List (List Int)} {j:Nat} (_h:Semi t) (hj:j<numJ t):cpI (srtI (numL (classL t) (elemsJ t j)))=colsN t j:=by
  refine asc_ext (cpsrt_asc _) (ascV_asc _ _) fun x=>?_
  rw [cpsrt_mem]
  unfold numL colsN
  rw [ascV_mem,List.mem_map]
  constructor
  · rintro ⟨a,ha,rfl⟩
    have hm:=(mem_elems hj).1 ha
    have hv:=(valid_range (p:=classL t) (canon_idem _) (lcl t a.toNat)).2 (getD_mem (by rw [classL_len];omega))
    refine ⟨(lcl t a.toNat).toNat,by omega,List.any_eq_true.2 ⟨a,ha,decide_eq_true ?_⟩,?_⟩
    · omega
    · show lcl t a.toNat=_
      omega
  · rintro ⟨i,hi,hf,rfl⟩
    obtain ⟨a,ha,hd⟩:=List.any_eq_true.1 hf
    exact ⟨a,ha,of_decide_eq_true hd⟩
def idxF (f:Int→Bool) (l:List Int):Int:=if l.findIdx f<l.length then ((l.findIdx f:Nat):Int) else -1
theorem idxF_here {f:Int→Bool} {l:List Int} {i:Nat} (hi:i<l.length) (h:∀k,k<i→f (l.getD k 0)=false) (hf:f (l.getD i 0)=true):idxF f l=i:=by
  have:l.findIdx f=i:=(List.findIdx_eq hi).2 ⟨by rw [←getD_eq (d:=0) hi];exact hf,fun k hk=>by rw [←getD_eq (d:=0) (by omega)];exact h k hk⟩
  unfold idxF;rw [this,if_pos hi]
theorem idxF_no {f:Int→Bool} {l:List Int} (h:∀k,k<l.length→f (l.getD k 0)=false):idxF f l= -1:=by
  unfold idxF;rw [if_neg]
  intro hh
  obtain ⟨x,hx,hf⟩:=List.findIdx_lt_length.1 hh
  obtain ⟨k,hk,rfl⟩:=mem_getD 0 hx
  rw [h k hk] at hf;cases hf
theorem idxF_yes {f:Int→Bool} {l:List Int} (h:∃x∈l,f x=true):∃i:Nat,idxF f l=i∧i<l.length∧f (l.getD i 0)=true∧∀k,k<i→f (l.getD k 0)=false:=by
  have hl:l.findIdx f<l.length:=List.findIdx_lt_length.2 h
  have:=(List.findIdx_eq hl).1 rfl
  refine ⟨l.findIdx f,by unfold idxF;rw [if_pos hl],hl,by rw [getD_eq hl];exact this.1,fun k hk=>by rw [getD_eq (by omega)];exact this.2 k hk⟩
def idmB (t:List (List Int)) (x:Int):Bool:=decide (en t x.toNat x.toNat=x.toNat)
def eI (t:List (List Int)) (j:Nat):Int:=idxF (idmB t) (elemsJ t j)
def eJ (t:List (List Int)) (j:Nat):Nat:=((elemsJ t j).getD (eI t j).toNat 0).toNat
theorem eJ_ok {t:List (List Int)} {j:Nat} (h:Semi t) (hj:j<numJ t) (hr:(regL t).getD j false=true):
    0≤eI t j∧eI t j<(elemsJ t j).length∧(elemsJ t j).getD (eI t j).toNat 0=(eJ t j:Int)∧Coo t j (eJ t j)∧∀x,x<t.length→jcl t x=j→en t x x=x→eJ t j≤x:=by
  obtain ⟨x,hx,hc,hi⟩:=(regL_iff hj).1 hr
  obtain ⟨i,e1,e2,e3,e4⟩:=idxF_yes (f:=idmB t) (l:=elemsJ t j) ⟨(x:Int),(mem_elems hj).2 ⟨by omega,by omega,hc⟩,decide_eq_true hi⟩
  have hm:=(mem_elems hj).1 (getD_mem (d:=0) e2)
  have e5:eI t j=i:=e1
  have e6:(elemsJ t j).getD (eI t j).toNat 0=(eJ t j:Int):=by unfold eJ;rw [e5,Int.toNat_natCast];omega
  have e7:(elemsJ t j).getD i 0=(eJ t j:Int):=by rw [←e6,e5,Int.toNat_natCast]
  rw [e7] at hm e3
  refine ⟨by omega,by omega,e6,⟨h,hj,by omega,by have h8:=of_decide_eq_true e3;rwa [Int.toNat_natCast] at h8,by have:=hm.2.2;rwa [Int.toNat_natCast] at this⟩,fun y hy hcy hiy=>?_⟩
  obtain ⟨k,hk,ek⟩:=mem_getD (l:=elemsJ t j) (x:=(y:Int)) 0 ((mem_elems hj).2 ⟨by omega,by omega,by rw [Int.toNat_natCast];exact hcy⟩)
  rcases Nat.lt_or_ge k i with hki|hki
  · have:=e4 k hki
    rw [ek] at this
    have h9:idmB t (y:Int)=true:=decide_eq_true hiy
    rw [h9] at this;cases this
  · rcases Nat.eq_or_lt_of_le hki with rfl|hlt
    · omega
    · have ha:=pairwise_adj (l:=elemsJ t j) (by rw [elemsJ_asc hj];exact ascV_asc _ _)
      have:=List.pairwise_iff_getElem.1 ha i k e2 hk hlt
      rw [←getD_eq (d:=0) e2,←getD_eq (d:=0) hk,ek,e7] at this
      omega
theorem eI_no {t:List (List Int)} {j:Nat} (hj:j<numJ t) (hr:(regL t).getD j false=false):eI t j= -1:=idxF_no fun k hk=>by
  have hm:=(mem_elems hj).1 (getD_mem (d:=0) hk)
  cases hb:idmB t ((elemsJ t j).getD k 0) with
  |false=>rfl
  |true=>
   have:=(regL_iff hj).2 ⟨((elemsJ t j).getD k 0).toNat,by omega,hm.2.2,of_decide_eq_true hb⟩
   rw [hr] at this;cases this
end Go.Proofs.YtjabhmhhhlcopaaGreatDoor
end
section
namespace Go.Proofs.YtjabhmhhhlcopaaGreatDoor
variable {t:List (List Int)}
theorem kerJ_in (h:Semi t) {x y:Nat} (hx:x<t.length) (kx:kerF t x=true) (ky:kerF t y=true):inJB t x y=true:=
  (prF_iff h hx).1 (ker_min h (prF_id h hx) hx (prF_self h hx) ky)
theorem kerJ_up (h:Semi t) {x y:Nat} (hx:x<t.length) (kx:kerF t x=true) (hxy:inJB t x y=true):kerF t y=true:=by
  obtain ⟨z,hz,h1,h2⟩:=(inJB_iff h.toSh hx).1 hxy
  exact ker_R h hz (ker_L h hx kx h1) h2
theorem kerJ_cl (h:Semi t) {x y:Nat} (hx:x<t.length) (hy:y<t.length) (kx:kerF t x=true):jcl t y=jcl t x↔kerF t y=true:=by
  rw [classJ_iff h hy hx]
  exact ⟨fun e=>kerJ_up h hx kx e.2,fun ky=>⟨kerJ_in h hy ky kx,kerJ_in h hx kx ky⟩⟩
def kerX (t:List (List Int)):Nat:=((ascV t.length (kerF t)).getD 0 0).toNat
theorem kerX_ok (h:Semi t):0<(ascV t.length (kerF t)).length∧kerX t<t.length∧kerF t (kerX t)=true∧(ascV t.length (kerF t)).getD 0 0=(kerX t:Int):=by
  have ha:=allP_lt h.toSh h.pos _ (Nat.le_refl t.length)
  have hp:0<(ascV t.length (kerF t)).length:=List.length_pos_of_mem (ascV_mem.2 ⟨_,ha,ker_has h,rfl⟩)
  obtain ⟨i,hi,hf,e⟩:=ascV_mem.1 (getD_mem (d:=0) hp)
  have ek:kerX t=i:=by unfold kerX;rw [e];rfl
  rw [ek]
  exact ⟨hp,hi,hf,e⟩
def kerJ (t:List (List Int)):Nat:=(jcl t (kerX t)).toNat
theorem kerJ_ok (h:Semi t):jcl t (kerX t)=(kerJ t:Int)∧kerJ t<numJ t:=by
  have:=classJ_lt t (kerX_ok h).2.1
  unfold kerJ jcl;omega
theorem kerJ_iff (h:Semi t) {y:Nat} (hy:y<t.length):jcl t y=(kerJ t:Int)↔kerF t y=true:=by
  rw [←(kerJ_ok h).1];exact kerJ_cl h (kerX_ok h).2.1 hy (kerX_ok h).2.2.1
theorem kerJ_reg (h:Semi t):(regL t).getD (kerJ t) false=true:=by
  have hx:=kerX_ok h
  obtain ⟨e,he,me,hid,_⟩:=(⟨h,hx.2.1,hx.2.1,hx.2.2.1,hx.2.2.1⟩:MetG t (kerX t) (kerX t)).grp
  exact (regL_iff (kerJ_ok h).2).2 ⟨e,he,(kerJ_iff h he).2 (ker_L h hx.2.1 hx.2.2.1 (met_iff.1 me).1),(hid e he me).1⟩
theorem asc_nodup {l:List Int} (h:Asc l):l.Nodup:=(pairwise_adj h).imp fun {a b} hab e=>by omega
end Go.Proofs.YtjabhmhhhlcopaaGreatDoor
end
