import Derived.Test.YtjabhmhhhlcopaaGreatDoorBoxLaw
import Derived.Test.YtjabhmhhhlcopaaGreatDoorTopKLaw
import Derived.Test.YtjabhmhhhlcopaaGreatDoorBase
import Derived.Test.YtjabhmhhhlcopaaGreatDoorBits
import Derived.Test.YtjabhmhhhlcopaaGreatDoorAmRet
section
namespace Go.Proofs.YtjabhmhhhlcopaaGreatDoor
open Go Go.AM
def cntTo (P:Nat→Nat→Bool) (C i:Nat):Nat:=((List.range i).map fun a=>((List.range C).filter (P a)).length).sum
def cntB (P:Nat→Nat→Bool) (C i l:Nat):Nat:=cntTo P C i+((List.range l).filter (P i)).length
theorem cntTo_0 (P:Nat→Nat→Bool) (C:Nat):cntTo P C 0=0:=rfl
theorem cntTo_s (P:Nat→Nat→Bool) (C i:Nat):cntTo P C (i+1)=cntTo P C i+((List.range C).filter (P i)).length:=by
  unfold cntTo;rw [List.range_succ,List.map_append,List.sum_append];simp
theorem cntB_s (P:Nat→Nat→Bool) (C i l:Nat):cntB P C i (l+1)=cntB P C i l+(if P i l=true then 1 else 0):=by
  unfold cntB;rw [List.range_succ,List.filter_append,List.length_append]
  by_cases h:P i l=true
  · rw [List.filter_cons_of_pos h,if_pos h,List.filter_nil,List.length_singleton];omega
  · rw [List.filter_cons_of_neg h,if_neg h,List.filter_nil,List.length_nil];omega
theorem cntB_e (P:Nat→Nat→Bool) (C i:Nat):cntB P C i C=cntTo P C (i+1):=(cntTo_s P C i).symm
theorem cntTo_le (P:Nat→Nat→Bool) {C:Nat} (hC:C≤14):∀i,cntTo P C i≤14*i
  |0=>Nat.le_refl _
  |i+1=>by
   have h1:=cntTo_le P hC i
   have h2:=List.length_filter_le (P i) (List.range C)
   rw [List.length_range] at h2
   rw [cntTo_s];omega
theorem cntB_le (P:Nat→Nat→Bool) {C:Nat} (hC:C≤14) (i l:Nat):cntB P C i l≤14*i+l:=by
  have h1:=cntTo_le P hC i
  have h2:=List.length_filter_le (P i) (List.range l)
  rw [List.length_range] at h2
  unfold cntB;omega
theorem nodup_le {α:Type} [DecidableEq α]:∀{A B:List α},A.Nodup→(∀x∈A,x∈B)→A.length≤B.length
  |[],_,_,_=>Nat.zero_le _
  |a::A,B,hA,h=>by
   have ha:=h a (by simp)
   have hn:=List.nodup_cons.1 hA
   have:=nodup_le (B:=B.erase a) hn.2 fun x hx=>(List.mem_erase_of_ne fun e=>by subst e;exact hn.1 hx).2 (h x (List.mem_cons_of_mem _ hx))
   have hl:=List.length_erase_of_mem ha
   have hp:=List.length_pos_of_mem ha
   simp only [List.length_cons];omega
theorem flt_lt (f:Int→Nat) (i:Nat):∀L:List Int,(L.filter fun x=>decide (f x<i+1)).length=(L.filter fun x=>decide (f x<i)).length+(L.filter fun x=>decide (f x=i)).length
  |[]=>rfl
  |x::L=>by
   have ih:=flt_lt f i L
   simp only [List.filter_cons,decide_eq_true_iff]
   rcases Nat.lt_trichotomy (f x) i with h|h|h
   · rw [if_pos (by omega),if_pos h,if_neg (by omega)];simp only [List.length_cons];omega
   · rw [if_pos (by omega),if_neg (by omega),if_pos h];simp only [List.length_cons];omega
   · rw [if_neg (by omega),if_neg (by omega),if_neg (by omega)];exact ih
theorem flt_all {f:Int→Nat} {R:Nat} {L:List Int} (h:∀x∈L,f x<R):(L.filter fun x=>decide (f x<R)).length=L.length:=by
  rw [List.filter_eq_self.2 fun x hx=>decide_eq_true (h x hx)]
theorem cnt_pairs {L:List Int} (hL:L.Nodup) (f g:Int→Nat) (R C:Nat) (P:Nat→Nat→Bool)
    (h1:∀x∈L,f x<R∧g x<C∧P (f x) (g x)=true) (inj:∀x∈L,∀y∈L,f x=f y→g x=g y→x=y)
    (sur:∀i l,i<R→l<C→P i l=true→∃x∈L,f x=i∧g x=l):cntTo P C R=L.length:=by
  have key:∀i,i<R→((List.range C).filter (P i)).length=(L.filter fun x=>decide (f x=i)).length:=fun i hi=>by
    have hm:∀l,l∈(List.range C).filter (P i)↔l∈(L.filter fun x=>decide (f x=i)).map g:=fun l=>by
      rw [List.mem_filter,List.mem_range,List.mem_map]
      constructor
      · rintro ⟨hl,hp⟩
        obtain ⟨x,hx,e1,e2⟩:=sur i l hi hl hp
        exact ⟨x,List.mem_filter.2 ⟨hx,decide_eq_true e1⟩,e2⟩
      · rintro ⟨x,hx,e2⟩
        obtain ⟨hx,e1⟩:=List.mem_filter.1 hx
        have e1:=of_decide_eq_true e1
        have:=h1 x hx
        rw [e1,e2] at this
        exact this.2
    have n1:((List.range C).filter (P i)).Nodup:=List.Pairwise.filter _ List.nodup_range
    have n2:((L.filter fun x=>decide (f x=i)).map g).Nodup:=List.pairwise_map.2 (List.Pairwise.imp_of_mem (fun ha hb hne e=>by
      have ha:=List.mem_filter.1 ha
      have hb:=List.mem_filter.1 hb
      exact hne (inj _ ha.1 _ hb.1 ((of_decide_eq_true ha.2).trans (of_decide_eq_true hb.2).symm) e)) (List.Pairwise.filter _ hL))
    have a:=nodup_le n1 fun l hl=>(hm l).1 hl
    have b:=nodup_le n2 fun l hl=>(hm l).2 hl
    rw [List.length_map] at a b
    omega
  have go:∀i,i≤R→cntTo P C i=(L.filter fun x=>decide (f x<i)).length:=fun i=>by
    induction i with
    |zero=>exact fun _=>by rw [cntTo_0,List.filter_eq_nil_iff.2 fun x _=>by simp];rfl
    |succ i ih=>exact fun hi=>by rw [cntTo_s,ih (by omega),key i (by omega),flt_lt]
  rw [go R (Nat.le_refl _),flt_all fun x hx=>(h1 x hx).1]
section
variable {t:List (List Int)} {j:Nat}
abbrev idA (t:List (List Int)):List Int:=ascV t.length fun x=>decide (en t x x=x)
def idJ (t:List (List Int)) (j:Nat):List Int:=(idA t).filter fun x=>decide (jcl t x.toNat=(j:Int))
theorem mem_idJ {x:Int}:x∈idJ t j↔∃i:Nat,i<t.length∧en t i i=i∧jcl t i=j∧x=i:=by
  unfold idJ
  rw [List.mem_filter,ascV_mem]
  constructor
  · rintro ⟨⟨i,hi,hf,rfl⟩,hj⟩
    have hj:=of_decide_eq_true hj
    rw [Int.toNat_natCast] at hj
    exact ⟨i,hi,of_decide_eq_true hf,hj,rfl⟩
  · rintro ⟨i,hi,hf,hj,rfl⟩
    exact ⟨⟨i,hi,decide_eq_true hf,rfl⟩,decide_eq_true (by rw [Int.toNat_natCast];exact hj)⟩
theorem idJ_nodup:(idJ t j).Nodup:=List.Pairwise.filter _ (asc_nodup (ascV_asc _ _))
theorem idm_one (h:Semi t) {x y:Nat} (hx:x<t.length) (hy:y<t.length) (ex:en t x x=x) (ey:en t y y=y) (hr:rcl t y=rcl t x) (hl:lcl t y=lcl t x):y=x:=by
  have hj:=valid_range (p:=classJ t)
  have hc:=(valid_range (p:=classJ t) (canon_idem _) (jcl t x)).2 (getD_mem (by rw [classJ_len];exact hx))
  have c:Coo t (jcl t x).toNat x:=⟨h,by have:=hc.2;unfold numJ;omega,hx,ex,by omega⟩
  have hH:=(c.inH_iff ⟨y,hy⟩).1 ⟨hr,hl⟩
  obtain ⟨z,_,h3,_⟩:=c.I.hinv hH
  have e1:c.m ⟨y,hy⟩ ⟨y,hy⟩=⟨y,hy⟩:=Fin.ext ey
  have e2:c.m ⟨y,hy⟩ c.E=c.E:=by rw [←h3,←c.I.ac,e1]
  have e3:=hH.r
  rw [e2] at e3
  exact (congrArg Fin.val e3).symm
theorem idJ_idx (h:Semi t) (hj:j<numJ t):∃f g:Int→Nat,∀x∈idJ t j,(f x<cR t j∧(rowsN t j).getD (f x) 0=rcl t x.toNat)∧(g x<cC t j∧(colsN t j).getD (g x) 0=lcl t x.toNat):=by
  have h1:∀x:Int,∃a:Nat,x∈idJ t j→a<cR t j∧(rowsN t j).getD a 0=rcl t x.toNat:=fun x=>by
    by_cases hx:x∈idJ t j
    · obtain ⟨i,hi,_,hc,rfl⟩:=mem_idJ.1 hx
      obtain ⟨a,h1,h2⟩:=in_rows h hj hi hc
      exact ⟨a,fun _=>⟨h1,by rw [Int.toNat_natCast];exact h2⟩⟩
    · exact ⟨0,fun hh=>absurd hh hx⟩
  have h2:∀x:Int,∃a:Nat,x∈idJ t j→a<cC t j∧(colsN t j).getD a 0=lcl t x.toNat:=fun x=>by
    by_cases hx:x∈idJ t j
    · obtain ⟨i,hi,_,hc,rfl⟩:=mem_idJ.1 hx
      obtain ⟨a,h1,h2⟩:=in_cols h hj hi hc
      exact ⟨a,fun _=>⟨h1,by rw [Int.toNat_natCast];exact h2⟩⟩
    · exact ⟨0,fun hh=>absurd hh hx⟩
  obtain ⟨f,hf⟩:=Classical.axiomOfChoice h1
  obtain ⟨g,hg⟩:=Classical.axiomOfChoice h2
  exact ⟨f,g,fun x hx=>⟨hf x hx,hg x hx⟩⟩
theorem idJ_inj (h:Semi t) {f g:Int→Nat} (hf:∀x∈idJ t j,(f x<cR t j∧(rowsN t j).getD (f x) 0=rcl t x.toNat)∧(g x<cC t j∧(colsN t j).getD (g x) 0=lcl t x.toNat)):∀x∈idJ t j,∀y∈idJ t j,f x=f y→g x=g y→x=y:=fun x hx y hy e1 e2=>by
  have a:=hf x hx
  have b:=hf y hy
  obtain ⟨i,hi,ei,_,rfl⟩:=mem_idJ.1 hx
  obtain ⟨k,hk,ek,_,rfl⟩:=mem_idJ.1 hy
  rw [Int.toNat_natCast] at a b
  have r:rcl t i=rcl t k:=by rw [←a.1.2,←b.1.2,e1]
  have l:lcl t i=lcl t k:=by rw [←a.2.2,←b.2.2,e2]
  exact congrArg Int.ofNat (idm_one h hk hi ek ei r l)
def grpP (t:List (List Int)) (j i l:Nat):Bool:=((grpsL t j).getD i []).getD l false
theorem grpP_get {i l:Nat} (hi:i<cR t j) (hl:l<cC t j):grpP t j i l=(hitJ t j ((rowsN t j).getD i 0) ((colsN t j).getD l 0)).any (idmB t):=by
  unfold grpP;rw [grpsL_get hi,grpR_get hl]
theorem grpP_iff (hj:j<numJ t) {i l:Nat} (hi:i<cR t j) (hl:l<cC t j):grpP t j i l=true↔∃x:Nat,x<t.length∧en t x x=x∧jcl t x=j∧rcl t x=(rowsN t j).getD i 0∧lcl t x=(colsN t j).getD l 0:=by
  rw [grpP_get hi hl,List.any_eq_true]
  constructor
  · rintro ⟨x,hx,hd⟩
    have h0:0≤x:=by
      rw [hitJ_asc hj] at hx
      exact (ascV_in hx).1
    obtain ⟨y,rfl⟩:=Int.eq_ofNat_of_zero_le h0
    have hm:=(mem_hit hj).1 hx
    have hd:=of_decide_eq_true hd
    rw [Int.toNat_natCast] at hd
    exact ⟨y,hm.1,hd,hm.2⟩
  · rintro ⟨x,h1,h2,h3⟩
    exact ⟨(x:Int),(mem_hit hj).2 ⟨h1,h3⟩,decide_eq_true (by rw [Int.toNat_natCast];exact h2)⟩
theorem ids_groups (h:Semi t) (hj:j<numJ t):cntTo (grpP t j) (cC t j) (cR t j)=(idJ t j).length:=by
  obtain ⟨f,g,hf⟩:=idJ_idx (t:=t) (j:=j) h hj
  refine cnt_pairs idJ_nodup f g _ _ _ (fun x hx=>?_) (idJ_inj h hf) fun i l hi hl hp=>?_
  · have a:=hf x hx
    obtain ⟨i,hi,ei,ej,rfl⟩:=mem_idJ.1 hx
    rw [Int.toNat_natCast] at a
    exact ⟨a.1.1,a.2.1,(grpP_iff hj a.1.1 a.2.1).2 ⟨i,hi,ei,ej,a.1.2.symm,a.2.2.symm⟩⟩
  · obtain ⟨x,h1,h2,h3,h4,h5⟩:=(grpP_iff hj hi hl).1 hp
    have hx:(x:Int)∈idJ t j:=mem_idJ.2 ⟨x,h1,h2,h3,rfl⟩
    have a:=hf _ hx
    rw [Int.toNat_natCast] at a
    exact ⟨(x:Int),hx,asc_inj Coo.rows_asc a.1.1 hi (a.1.2.trans h4),asc_inj Coo.cols_asc a.2.1 hl (a.2.2.trans h5)⟩
def entP (t:List (List Int)) (j e l i:Nat):Bool:=decide (0≤pe (cooP t j e) l i)
theorem ids_entries {e:Nat} (c:Coo t j e):cntTo (entP t j e) (cR t j) (cC t j)=(idJ t j).length:=by
  obtain ⟨f,g,hf⟩:=idJ_idx (t:=t) (j:=j) c.semi c.hj
  have hlen:(cooG t j e).length=cH t j e:=Coo.glen
  refine cnt_pairs idJ_nodup g f _ _ _ (fun x hx=>?_) (fun x hx y hy e1 e2=>idJ_inj c.semi hf x hx y hy e2 e1) fun l i hl hi hp=>?_
  · have a:=hf x hx
    obtain ⟨k,hk,ek,ej,rfl⟩:=mem_idJ.1 hx
    rw [Int.toNat_natCast] at a
    refine ⟨a.2.1,a.1.1,decide_eq_true ?_⟩
    obtain ⟨i,u,l,hi,hu,hl,et⟩:=c.tri_all hk ej
    have b:=c.tri_ok hi hu hl
    rw [et] at b
    have ei:f (k:Int)=i:=asc_inj Coo.rows_asc a.1.1 hi (a.1.2.trans b.2.2.1)
    have el:g (k:Int)=l:=asc_inj Coo.cols_asc a.2.1 hl (a.2.2.trans b.2.2.2)
    rw [ei,el]
    rcases Int.lt_or_le (pe (cooP t j e) l i) 0 with hn|hn
    · have:=c.prod_no hi hu hl hi hu hl hn
      rw [et,ek] at this
      exact absurd ej this
    · exact hn
  · have hp:0≤pe (cooP t j e) l i:=of_decide_eq_true hp
    have hpl:(pe (cooP t j e) l i).toNat<(cooG t j e).length:=by
      have hr:=posTo_rng (hLs t j e) (hLs t j e).length (en t (qI t j e l) (rI t j e i))
      have hp2:=hp
      rw [Coo.pe_get hl hi] at hp2 ⊢
      have h2:=hr.2
      have h3:=Coo.glen (t:=t) (j:=j) (e:=e)
      generalize posTo (hLs t j e) (hLs t j e).length (en t (qI t j e l) (rI t j e i))=v at hp2 h2 ⊢
      omega
    obtain ⟨n,hn,hneu,hinv⟩:=c.grp.inv
    obtain ⟨u,hu,hi1,hi2⟩:=hinv _ hpl
    rw [hlen] at hu
    have hpr:=c.prod_yes hi hu hl hi hu hl hp
    rw [hi2,(hneu u (by rw [hlen];exact hu)).1] at hpr
    have b:=c.tri_ok hi hu hl
    have hx:((tri t j e i u l:Nat):Int)∈idJ t j:=mem_idJ.2 ⟨_,b.1,hpr.2,b.2.1,rfl⟩
    have a:=hf _ hx
    rw [Int.toNat_natCast] at a
    exact ⟨_,hx,asc_inj Coo.cols_asc a.2.1 hl (a.2.2.trans b.2.2.2),asc_inj Coo.rows_asc a.1.1 hi (a.1.2.trans b.2.2.1)⟩
theorem ids_reg (hj:j<numJ t):(regL t).getD j false=true↔0<(idJ t j).length:=by
  rw [regL_iff hj]
  constructor
  · rintro ⟨x,h1,h2,h3⟩
    exact List.length_pos_of_mem (mem_idJ.2 ⟨x,h1,h3,h2,rfl⟩)
  · intro h
    obtain ⟨x,h1,h2,h3,_⟩:=mem_idJ.1 (getD_mem (d:=0) h)
    exact ⟨x,h1,h3,h2⟩
theorem ids_pos (h:Semi t):0<(idA t).length:=by
  have h1:=(ids_reg (kerJ_ok h).2).1 (kerJ_reg h)
  exact Nat.lt_of_lt_of_le h1 (List.length_filter_le _ _)
def idTo (t:List (List Int)) (j:Nat):Nat:=((idA t).filter fun x=>decide ((jcl t x.toNat).toNat<j)).length
theorem idTo_0:idTo t 0=0:=by unfold idTo;rw [List.filter_eq_nil_iff.2 fun x _=>by simp];rfl
theorem idTo_s:idTo t (j+1)=idTo t j+(idJ t j).length:=by
  unfold idTo idJ
  rw [flt_lt fun x=>(jcl t x.toNat).toNat]
  congr 2
  refine List.filter_congr fun x hx=>decide_eq_decide.2 ?_
  obtain ⟨i,hi,_,rfl⟩:=ascV_mem.1 hx
  have hc:=(valid_range (p:=classJ t) (canon_idem _) (jcl t i)).2 (getD_mem (by rw [classJ_len];exact hi))
  rw [Int.toNat_natCast]
  have:=hc.1
  omega
theorem idTo_e:idTo t (numJ t)=(idA t).length:=by
  unfold idTo
  refine flt_all fun x hx=>?_
  obtain ⟨i,hi,_,rfl⟩:=ascV_mem.1 hx
  have hc:=(valid_range (p:=classJ t) (canon_idem _) (jcl t i)).2 (getD_mem (by rw [classJ_len];exact hi))
  rw [Int.toNat_natCast]
  have:=hc.1
  have:=hc.2
  unfold numJ;omega
theorem idTo_le:idTo t j≤t.length:=Nat.le_trans (List.length_filter_le _ _) (ascV_len _ _)
end
end Go.Proofs.YtjabhmhhhlcopaaGreatDoor
end
section
namespace Go.Proofs.YtjabhmhhhlcopaaGreatDoor
open Go Go.AM
def gridL {α:Type} (rows cols:List Int) (F:Int→Int→α):List (List α):=rows.map fun a=>cols.map fun b=>F a b
theorem gridL_len {α:Type} (rows cols:List Int) (F:Int→Int→α):(gridL rows cols F).length=rows.length:=by simp [gridL]
theorem gridL_row {α:Type} {rows cols:List Int} {F:Int→Int→α} {i:Nat} (hi:i<rows.length):(gridL rows cols F).getD i []=cols.map fun b=>F (rows.getD i 0) b:=map_get 0 [] hi
theorem gridL_get {α:Type} {rows cols:List Int} {F:Int→Int→α} {i k:Nat} (d:α) (hi:i<rows.length) (hk:k<cols.length):((gridL rows cols F).getD i []).getD k d=F (rows.getD i 0) (cols.getD k 0):=by
  rw [gridL_row hi,map_get 0 d hk]
theorem gridL_nil {α:Type} (rows cols:List Int) (d:α):gridL rows cols (fun _ _=>d)=List.replicate rows.length (List.replicate cols.length d):=by
  unfold gridL;rw [List.map_const',List.map_const']
theorem getD_setL {α:Type} (l:List α) (i q:Nat) (x d:α) (hi:i<l.length):(l.set i x).getD q d=if q=i then x else l.getD q d:=by
  simp only [List.getD,List.getElem?_set]
  by_cases h:i=q
  · subst h;simp [hi]
  · simp [h,Ne.symm h]
theorem gridL_put {α:Type} (d:α) {rows cols:List Int} {F F':Int→Int→α} {r c:Nat} (hr:r<rows.length) (hc:c<cols.length)
    (hF:∀i k,i<rows.length→k<cols.length→¬(i=r∧k=c)→F' (rows.getD i 0) (cols.getD k 0)=F (rows.getD i 0) (cols.getD k 0)):
    (gridL rows cols F).set r (((gridL rows cols F).getD r []).set c (F' (rows.getD r 0) (cols.getD c 0)))=gridL rows cols F':=by
  have hl:=gridL_len rows cols F
  refine ext_getD [] (by rw [List.length_set,hl,gridL_len]) fun i hi=>?_
  rw [List.length_set,hl] at hi
  rw [getD_setL _ _ _ _ _ (by omega)]
  by_cases hir:i=r
  · rw [if_pos hir,hir]
    have hrl:((gridL rows cols F).getD r []).length=cols.length:=by rw [gridL_row hr,List.length_map]
    refine ext_getD d (by rw [List.length_set,hrl,gridL_row hr,List.length_map]) fun k hk=>?_
    rw [List.length_set,hrl] at hk
    rw [getD_setL _ _ _ _ _ (by omega),gridL_get (F:=F') d hr hk]
    by_cases hkc:k=c
    · rw [if_pos hkc,hkc]
    · rw [if_neg hkc,gridL_get d hr hk]
      exact (hF r k hr hk fun h=>hkc h.2).symm
  · rw [if_neg hir]
    refine ext_getD d (by rw [gridL_row hi,gridL_row hi,List.length_map,List.length_map]) fun k hk=>?_
    rw [gridL_row hi,List.length_map] at hk
    rw [gridL_get d hi hk,gridL_get d hi hk]
    exact (hF i k hi hk fun h=>hir h.1).symm
section
variable (t:List (List Int)) (j:Nat)
def elTo (i:Nat):List Int:=memTo (setB t.length fun x=>decide (jcl t x=(j:Int))) i
def hitE (E:List Int) (a b:Int):List Int:=E.filter fun x=>decide (rcl t x.toNat=a)&&decide (lcl t x.toNat=b)
abbrev celE (E:List Int):List (List (List Int)):=gridL (rowsN t j) (colsN t j) (hitE t E)
abbrev grpE (E:List Int):List (List Bool):=gridL (rowsN t j) (colsN t j) fun a b=>(hitE t E a b).any (idmB t)
end
variable {t:List (List Int)} {j:Nat}
theorem elTo_yes {i:Nat} (hi:i<t.length) (h:jcl t i=(j:Int)):elTo t j (i+1)=elTo t j i++[(i:Int)]:=memTo_yes (by rw [setB_get hi];exact decide_eq_true h)
theorem elTo_no {i:Nat} (hi:i<t.length) (h:jcl t i≠(j:Int)):elTo t j (i+1)=elTo t j i:=memTo_no (by rw [setB_get hi];exact decide_eq_false h)
theorem elTo_len (i:Nat):(elTo t j i).length≤i:=memTo_len
theorem elTo_end (hj:j<numJ t):elTo t j t.length=elemsJ t j:=by
  rw [elemsJ_asc hj];unfold ascV memV elTo;rw [setB_len]
theorem cel_end (hj:j<numJ t):celE t j (elTo t j t.length)=cellsL t j:=by rw [elTo_end hj];rfl
theorem grp_end (hj:j<numJ t):grpE t j (elTo t j t.length)=grpsL t j:=by rw [elTo_end hj];rfl
theorem numL_app (p l:List Int) (x:Int):numL p (l++[x])=numL p l++[p.getD x.toNat 0]:=by unfold numL;rw [List.map_append];rfl
theorem hitE_app (E:List Int) (x a b:Int):hitE t (E++[x]) a b=hitE t E a b++(if rcl t x.toNat=a∧lcl t x.toNat=b then [x] else []):=by
  unfold hitE
  rw [List.filter_append]
  congr 1
  by_cases h:rcl t x.toNat=a∧lcl t x.toNat=b
  · rw [if_pos h,List.filter_cons_of_pos (by rw [decide_eq_true h.1,decide_eq_true h.2];rfl),List.filter_nil]
  · rw [if_neg h,List.filter_cons_of_neg (by rw [Bool.and_eq_true,decide_eq_true_iff,decide_eq_true_iff];exact h),List.filter_nil]
theorem hitE_le (E:List Int) (a b:Int):(hitE t E a b).length≤E.length:=List.length_filter_le _ _
theorem cel_put {E:List Int} {x r c:Nat} (hr:r<(rowsN t j).length) (hc:c<(colsN t j).length) (er:(rowsN t j).getD r 0=rcl t x) (ec:(colsN t j).getD c 0=lcl t x):
    (celE t j E).set r (((celE t j E).getD r []).set c (((celE t j E).getD r []).getD c []++[(x:Int)]))=celE t j (E++[(x:Int)]):=by
  have hv:((celE t j E).getD r []).getD c []++[(x:Int)]=hitE t (E++[(x:Int)]) ((rowsN t j).getD r 0) ((colsN t j).getD c 0):=by
    rw [gridL_get [] hr hc,hitE_app,if_pos ⟨by rw [Int.toNat_natCast,er],by rw [Int.toNat_natCast,ec]⟩]
  rw [hv]
  refine gridL_put [] hr hc fun i k hi hk hne=>?_
  rw [hitE_app,if_neg,List.append_nil]
  rintro ⟨h1,h2⟩
  rw [Int.toNat_natCast] at h1 h2
  exact hne ⟨asc_inj Coo.rows_asc hi hr (by rw [er,h1]),asc_inj Coo.cols_asc hk hc (by rw [ec,h2])⟩
theorem grp_put {E:List Int} {x r c:Nat} (hr:r<(rowsN t j).length) (hc:c<(colsN t j).length) (er:(rowsN t j).getD r 0=rcl t x) (ec:(colsN t j).getD c 0=lcl t x):
    (grpE t j E).set r (((grpE t j E).getD r []).set c (((grpE t j E).getD r []).getD c false||idmB t x))=grpE t j (E++[(x:Int)]):=by
  have hv:(((grpE t j E).getD r []).getD c false||idmB t x)=(hitE t (E++[(x:Int)]) ((rowsN t j).getD r 0) ((colsN t j).getD c 0)).any (idmB t):=by
    rw [gridL_get false hr hc,hitE_app,if_pos ⟨by rw [Int.toNat_natCast,er],by rw [Int.toNat_natCast,ec]⟩,List.any_append];simp
  rw [hv]
  refine gridL_put (F':=fun a b=>(hitE t (E++[(x:Int)]) a b).any (idmB t)) false hr hc fun i k hi hk hne=>?_
  rw [hitE_app,if_neg,List.append_nil]
  rintro ⟨h1,h2⟩
  rw [Int.toNat_natCast] at h1 h2
  exact hne ⟨asc_inj Coo.rows_asc hi hr (by rw [er,h1]),asc_inj Coo.cols_asc hk hc (by rw [ec,h2])⟩
theorem rows_pos (h:Semi t) (hj:j<numJ t):0<(rowsN t j).length:=by
  have e:=(mem_elems hj).1 (getD_mem (d:=0) (elems_pos hj))
  obtain ⟨a,ha,_⟩:=in_rows h hj (x:=((elemsJ t j).getD 0 0).toNat) (by omega) e.2.2
  omega
end Go.Proofs.YtjabhmhhhlcopaaGreatDoor
end
section
namespace Go.Proofs.YtjabhmhhhlcopaaGreatDoor
open Go Go.AM
set_option maxRecDepth 100000
theorem asc_up {l:List Int} (h:Asc l) {i:Nat}:∀{j:Nat},i<j→j<l.length→l.getD i 0<l.getD j 0
  |0,hij,_=>absurd hij (Nat.not_lt_zero _)
  |j+1,hij,hj=>by
   have h1:=h j hj
   rcases Nat.lt_or_ge i j with h2|h2
   · have:=asc_up h h2 (by omega);omega
   · rw [show i=j by omega];exact h1
theorem bnan_fn (a:Int):QF 202 [.int .i64 a] (.bool (.v false)):=mkQ Tryz.func202 (by decide+kernel) rfl (Nat.le_of_ble_eq_true rfl) fun _=>by
  refine And.intro ?_ trivial
  show decide (a≠a)=false
  exact decide_eq_false fun h=>h rfl
theorem bless_fn (a b:Int):QF 133 [.int .i64 a,.int .i64 b] (.bool (.v (decide (a<b)))):=mkQ Tryz.func133 (by decide+kernel) rfl (Nat.le_of_ble_eq_true rfl) fun _=>by
  refine Or.inl (cq (bnan_fn a) (And.intro rfl trivial) ?_)
  refine And.intro (fun h=>absurd (show false=true from h) (by decide)) (fun _=>?_)
  exact And.intro rfl trivial
theorem bsr_fn (l:List Int) (r:Nat) (hl:l.length≤100000) (hr:r<l.length) (ha:Asc l):QF 66 [.ro (.ints .i64 l),.int .i64 (l.getD r 0)] (.tup [.int .i64 r,.bool (.v true)]):=mkQ Tryz.func66 (by decide+kernel) rfl (Nat.le_of_ble_eq_true rfl) fun _=>by
  refine Exists.intro []<|lp2 (fun (i j:Nat)=>[(7,.int .i64 i),(8,.int .i64 j)]) (fun _ _=>[]) (fun i j=>i≤r∧r≤j∧j≤l.length) (fun i j=>j - i) 0 l.length ⟨Nat.zero_le _,by omega,Nat.le_refl _⟩ (by repeat' first|refine And.intro ?_ ?_|exact True.intro|(show (_:Int)=(_:Int);omega)|omega|exact rfl|(simp only [RO.len];omega)) ?_
  rintro i j ⟨h1,h2,h3⟩
  refine And.intro (fun h4=>?_) (fun h4=>?_)
  · have h4:(i:Int)<(j:Int):=h4
    have hm:shrI .u64 ((i:Int)+(j:Int)) 1=(((i+j) / 2:Nat):Int):=shr_nat (.inr rfl) (i+j) 1 (by decide)
    refine And.intro (by omega) ?_
    refine And.intro (by omega) ?_
    refine And.intro (by omega) ?_
    refine And.intro (show -9223372036854775808≤shrI .u64 ((i:Int)+(j:Int)) 1∧shrI .u64 ((i:Int)+(j:Int)) 1≤9223372036854775807 by rw [hm];omega) ?_
    refine And.intro (show 0≤shrI .u64 ((i:Int)+(j:Int)) 1∧shrI .u64 ((i:Int)+(j:Int)) 1<(l.length:Int) by rw [hm];omega) ?_
    have hg:l.getD (shrI .u64 ((i:Int)+(j:Int)) 1).toNat 0=l.getD ((i+j) / 2) 0:=by rw [hm,Int.toNat_natCast]
    refine Or.inl (cq (bless_fn (l.getD ((i+j) / 2) 0) (l.getD r 0)) (And.intro hg (And.intro rfl trivial)) ?_)
    refine And.intro (fun h5=>?_) (fun h5=>?_)
    · have h5:=of_decide_eq_true (show decide (l.getD ((i+j) / 2) 0<l.getD r 0)=true from h5)
      have h6:(i+j) / 2<r:=by
        rcases Nat.lt_trichotomy ((i+j) / 2) r with h|h|h
        · exact h
        · rw [h] at h5;omega
        · have:=asc_up ha h (by omega);omega
      refine And.intro (show -9223372036854775808≤shrI .u64 ((i:Int)+(j:Int)) 1+1∧shrI .u64 ((i:Int)+(j:Int)) 1+1≤9223372036854775807 by rw [hm];omega) ?_
      refine nx ((i+j) / 2+1,j) ⟨by omega,by omega,h3⟩ (show j - ((i+j) / 2+1)<j - i by omega) ?_
      have e:shrI .u64 ((i:Int)+(j:Int)) 1+1=(((i+j) / 2+1:Nat):Int):=by rw [hm];omega
      repeat' first|refine And.intro ?_ ?_|exact True.intro|exact e|(show (_:Int)=(_:Int);omega)|omega|exact rfl
    · have h5:=of_decide_eq_false (show decide (l.getD ((i+j) / 2) 0<l.getD r 0)=false from h5)
      have h6:r≤(i+j) / 2:=by
        rcases Nat.lt_or_ge ((i+j) / 2) r with h|h
        · exact absurd (asc_up ha h hr) h5
        · exact h
      refine nx (i,(i+j) / 2) ⟨h1,by omega,by omega⟩ (show (i+j) / 2 - i<j - i by omega) ?_
      repeat' first|refine And.intro ?_ ?_|exact True.intro|exact hm|(show (_:Int)=(_:Int);omega)|omega|exact rfl
  · have h4:(j:Int)≤(i:Int):=h4
    have hi:i=r:=by omega
    subst hi
    refine And.intro (fun _=>?_) (fun h=>absurd (show (l.length:Int)≤(i:Int) from h) (by omega))
    refine And.intro (by omega) ?_
    refine And.intro (fun _=>?_) (fun h=>absurd (show l.getD ((i:Nat):Int).toNat 0=l.getD i 0 by rw [Int.toNat_natCast]) h)
    repeat' first|refine And.intro ?_ ?_|exact True.intro|(show (_:Int)=(_:Int);omega)|omega|exact rfl|(simp only [RO.len];omega)
end Go.Proofs.YtjabhmhhhlcopaaGreatDoor
end
section
namespace Go.Proofs.YtjabhmhhhlcopaaGreatDoor
open Go Go.AM
theorem schShr {TY:List TyE} {F:Go.AM.Spec} {ops:List Oper} {t:Sch} {T0 T:List AV} {S0 S:Store} {Q:List AV→Store→Prop} (h:∀K:List AV→Store→Prop,K T S→schK TY F ops t T0 S0 K) (hq:Q T S):schK TY F ops t T0 S0 Q:=h Q hq
end Go.Proofs.YtjabhmhhhlcopaaGreatDoor
end
section
namespace Go.Proofs.YtjabhmhhhlcopaaGreatDoor
open Go Go.AM
set_option maxRecDepth 100000
abbrev SPD:Go.AM.Spec:=specOfD Tryz.prog
theorem mkQD {f:FuncId} {fn:Func} {args:List AV} {ret:AV} (hf:Tryz.prog.funcs[f]? =some fn) (hn:fn.name≠ "runtime.NumGoroutine") (hb:fn.body.isSome=true) (hl:args.length≤fn.ntmps)
    (h:factsL args→fnK TY SPD fn args ret):QF f args ret:=fn_of_ex tyOk (specOfD_ok _) mixed hf hn hb hl h
end Go.Proofs.YtjabhmhhhlcopaaGreatDoor
end
