import Derived.Test.YtjabhmhhhlcopaaGreatDoorGrnLaw
import Derived.Test.YtjabhmhhhlcopaaGreatDoorOrd
section
namespace Go.Proofs.YtjabhmhhhlcopaaGreatDoor
open Go Go.AM
section
variable (t:List (List Int)) (j e:Nat)
abbrev rcl (x:Nat):Int:=(classR t).getD x 0
abbrev lcl (x:Nat):Int:=(classL t).getD x 0
abbrev jcl (x:Nat):Int:=(classJ t).getD x 0
def rowsN:List Int:=ascV (classN (classR t)) fun c=>(elemsJ t j).any fun x=>decide (rcl t x.toNat=(c:Int))
def colsN:List Int:=ascV (classN (classL t)) fun c=>(elemsJ t j).any fun x=>decide (lcl t x.toNat=(c:Int))
def hitJ (a b:Int):List Int:=(elemsJ t j).filter fun x=>decide (rcl t x.toNat=a)&&decide (lcl t x.toNat=b)
def lstJ (a b:Int):Nat:=((hitJ t j a b).getD 0 0).toNat
def hLs:List Int:=hitJ t j (rcl t e) (lcl t e)
def rI (i:Nat):Nat:=lstJ t j ((rowsN t j).getD i 0) (lcl t e)
def qI (l:Nat):Nat:=lstJ t j (rcl t e) ((colsN t j).getD l 0)
def gI (g:Nat):Nat:=eL (hLs t j e) g
def cooG:List (List Int):=subT t (hLs t j e)
def cooP:List (List Int):=(List.range (colsN t j).length).map fun l=>(List.range (rowsN t j).length).map fun i=>posTo (hLs t j e) (hLs t j e).length (en t (qI t j e l) (rI t j e i))
def tri (i g l:Nat):Nat:=en t (en t (rI t j e i) (gI t j e g)) (qI t j e l)
end
theorem elemsJ_asc {t:List (List Int)} {j:Nat} (hj:j<numJ t):elemsJ t j=ascV t.length fun x=>decide (jcl t x=(j:Int)):=by
  rw [elemsJ_eq hj];unfold ascV memV memTo;rw [setB_len]
  congr 1
  refine List.filter_congr fun x hx=>?_
  rw [setB_get (List.mem_range.1 hx)]
theorem ascV_filter (n:Nat) (f g:Nat→Bool):(ascV n f).filter (fun x=>g x.toNat)=ascV n fun x=>f x&&g x:=by
  unfold ascV memV memTo
  rw [setB_len,setB_len,List.filter_map,List.filter_filter]
  congr 1
  refine List.filter_congr fun x hx=>?_
  have hx:=List.mem_range.1 hx
  rw [setB_get hx,setB_get hx]
  simp only [Function.comp,Int.toNat_natCast]
  rw [Bool.and_comm]
theorem hitJ_asc {t:List (List Int)} {j:Nat} (hj:j<numJ t) (a b:Int):hitJ t j a b=ascV t.length fun x=>decide (jcl t x=(j:Int))&&(decide (rcl t x=a)&&decide (lcl t x=b)):=by
  unfold hitJ;rw [elemsJ_asc hj,ascV_filter t.length (fun x=>decide (jcl t x=(j:Int))) (fun x=>decide (rcl t x=a)&&decide (lcl t x=b))]
theorem mem_hit {t:List (List Int)} {j:Nat} (hj:j<numJ t) {a b:Int} {x:Nat}:(x:Int)∈hitJ t j a b↔x<t.length∧jcl t x=j∧rcl t x=a∧lcl t x=b:=by
  rw [hitJ_asc hj,ascV_mem]
  constructor
  · rintro ⟨i,hi,hf,e⟩
    obtain rfl:x=i:=by omega
    simp only [Bool.and_eq_true,decide_eq_true_eq] at hf
    exact ⟨hi,hf.1,hf.2.1,hf.2.2⟩
  · rintro ⟨hx,h1,h2,h3⟩
    exact ⟨x,hx,by simp only [Bool.and_eq_true,decide_eq_true_eq];exact ⟨h1,h2,h3⟩,rfl⟩
theorem lst_of {t:List (List Int)} {j:Nat} (hj:j<numJ t) {a b:Int} (hne:∃x,x<t.length∧jcl t x=j∧rcl t x=a∧lcl t x=b):
    0<(hitJ t j a b).length∧(hitJ t j a b).getD 0 0=(lstJ t j a b:Int)∧lstJ t j a b<t.length∧jcl t (lstJ t j a b)=j∧rcl t (lstJ t j a b)=a∧lcl t (lstJ t j a b)=b:=by
  obtain ⟨x,hx⟩:=hne
  have hp:0<(hitJ t j a b).length:=List.length_pos_of_mem ((mem_hit hj).2 hx)
  have h0:=getD_mem (d:=0) hp
  have hr:0≤(hitJ t j a b).getD 0 0:=by
    have:=h0
    rw [hitJ_asc hj] at this ⊢
    exact (ascV_in this).1
  have e:(hitJ t j a b).getD 0 0=(lstJ t j a b:Int):=by unfold lstJ;omega
  rw [e] at h0
  exact ⟨hp,e,(mem_hit hj).1 h0⟩
structure Coo (t:List (List Int)) (j e:Nat):Prop where
  semi:Semi t
  hj:j<numJ t
  he:e<t.length
  ee:en t e e=e
  ej:jcl t e=j
theorem rcl_iff {t:List (List Int)} (h:Semi t) {x y:Nat} (hx:x<t.length) (hy:y<t.length):rcl t x=rcl t y↔(inRB t x y=true∧inRB t y x=true):=clsL_iff (preR h) hx hy
theorem lcl_iff {t:List (List Int)} (h:Semi t) {x y:Nat} (hx:x<t.length) (hy:y<t.length):lcl t x=lcl t y↔(inLB t x y=true∧inLB t y x=true):=clsL_iff (preL h) hx hy
theorem jR {t:List (List Int)} (h:Semi t) {x y:Nat} (hx:x<t.length) (hxy:inRB t x y=true):inJB t x y=true:=(inJB_iff h.toSh hx).2 ⟨x,hx,(preL h).refl x hx,hxy⟩
theorem jL {t:List (List Int)} (h:Semi t) {x y:Nat} (hx:x<t.length) (hxy:inLB t x y=true):inJB t x y=true:=(inJB_iff h.toSh hx).2 ⟨y,inL_lt h.toSh hx hxy,hxy,(preR h).refl y (inL_lt h.toSh hx hxy)⟩
theorem rcl_j {t:List (List Int)} (h:Semi t) {x y:Nat} (hx:x<t.length) (hy:y<t.length) (he:rcl t x=rcl t y):jcl t x=jcl t y:=by
  have:=(rcl_iff h hx hy).1 he
  exact (classJ_iff h hx hy).2 ⟨jR h hx this.1,jR h hy this.2⟩
theorem lcl_j {t:List (List Int)} (h:Semi t) {x y:Nat} (hx:x<t.length) (hy:y<t.length) (he:lcl t x=lcl t y):jcl t x=jcl t y:=by
  have:=(lcl_iff h hx hy).1 he
  exact (classJ_iff h hx hy).2 ⟨jL h hx this.1,jL h hy this.2⟩
namespace Coo
variable {t:List (List Int)} {j e:Nat} (c:Coo t j e)
include c
abbrev m (c:Coo t j e):=mF t c.semi.toSh
abbrev E (c:Coo t j e):Fin t.length:=⟨e,c.he⟩
theorem I:Idm c.m c.E:=idm c.semi c.he c.ee
theorem inL_iff (x:Fin t.length):lcl t x=lcl t e↔InL c.m c.E x:=by
  rw [lcl_iff c.semi x.2 c.he]
  constructor
  · rintro ⟨h1,h2⟩
    have h1:=(llA_iff c.semi x c.E).2 h1
    have h2:=(llA_iff c.semi c.E x).2 h2
    refine ⟨?_,h1.elim (fun hh=>⟨c.E,by rw [←hh,c.I.ee]⟩) id⟩
    rcases h2 with hh|⟨s,hs⟩
    · rw [hh,c.I.ee]
    · rw [←hs,c.I.ac,c.I.ee]
  · rintro ⟨h1,h2⟩
    exact ⟨(llA_iff c.semi x c.E).1 (.inr h2),(llA_iff c.semi c.E x).1 (.inr ⟨x,h1⟩)⟩
theorem inR_iff (x:Fin t.length):rcl t x=rcl t e↔InR c.m c.E x:=by
  rw [rcl_iff c.semi x.2 c.he]
  constructor
  · rintro ⟨h1,h2⟩
    have h1:=(rrA_iff c.semi x c.E).2 h1
    have h2:=(rrA_iff c.semi c.E x).2 h2
    refine ⟨?_,h1.elim (fun hh=>⟨c.E,by rw [←hh,c.I.ee]⟩) id⟩
    rcases h2 with hh|⟨s,hs⟩
    · rw [hh,c.I.ee]
    · rw [←hs,←c.I.ac,c.I.ee]
  · rintro ⟨h1,h2⟩
    exact ⟨(rrA_iff c.semi x c.E).1 (.inr h2),(rrA_iff c.semi c.E x).1 (.inr ⟨x,h1⟩)⟩
theorem inH_iff (x:Fin t.length):(rcl t x=rcl t e∧lcl t x=lcl t e)↔InH c.m c.E x:=by
  rw [c.inR_iff,c.inL_iff]
  exact ⟨fun ⟨a,b⟩=>⟨a.l,b.r,b.l,a.r⟩,fun a=>⟨⟨a.l,a.ir⟩,⟨a.r,a.il⟩⟩⟩
theorem in_iff (x:Fin t.length):jcl t x=j↔(Up c.m c.E x∧∃a b,c.m (c.m a c.E) b=x):=by
  rw [←c.ej,classJ_iff c.semi x.2 c.he]
  constructor
  · rintro ⟨h1,h2⟩
    exact ⟨up_of c.semi c.he c.ee h1,down_of c.semi c.he c.ee h2⟩
  · rintro ⟨⟨a,b,h1⟩,⟨a',b',h2⟩⟩
    refine ⟨?_,?_⟩
    · have:=inJ_of c.semi (a:=a) (y:=x) (b:=b)
      rw [show mF t c.semi.toSh (mF t c.semi.toSh a x) b=c.E from h1] at this;exact this
    · have:=inJ_of c.semi (a:=a') (y:=c.E) (b:=b')
      rw [show mF t c.semi.toSh (mF t c.semi.toSh a' c.E) b'=x from h2] at this;exact this
theorem mem_rows {a:Int}:a∈rowsN t j↔∃x,x<t.length∧jcl t x=j∧rcl t x=a:=by
  unfold rowsN;rw [ascV_mem]
  constructor
  · rintro ⟨i,hi,hf,rfl⟩
    obtain ⟨x,hx,hd⟩:=List.any_eq_true.1 hf
    have:=(mem_elems c.hj).1 hx
    exact ⟨x.toNat,by omega,this.2.2,of_decide_eq_true hd⟩
  · rintro ⟨x,hx,h1,h2⟩
    have hv:=(valid_range (p:=classR t) (canon_idem _) (rcl t x)).2 (getD_mem (by rw [classR_len];exact hx))
    refine ⟨(rcl t x).toNat,by omega,List.any_eq_true.2 ⟨(x:Int),(mem_elems c.hj).2 ⟨by omega,by omega,h1⟩,decide_eq_true ?_⟩,by omega⟩
    rw [Int.toNat_natCast];omega
theorem mem_cols {a:Int}:a∈colsN t j↔∃x,x<t.length∧jcl t x=j∧lcl t x=a:=by
  unfold colsN;rw [ascV_mem]
  constructor
  · rintro ⟨i,hi,hf,rfl⟩
    obtain ⟨x,hx,hd⟩:=List.any_eq_true.1 hf
    have:=(mem_elems c.hj).1 hx
    exact ⟨x.toNat,by omega,this.2.2,of_decide_eq_true hd⟩
  · rintro ⟨x,hx,h1,h2⟩
    have hv:=(valid_range (p:=classL t) (canon_idem _) (lcl t x)).2 (getD_mem (by rw [classL_len];exact hx))
    refine ⟨(lcl t x).toNat,by omega,List.any_eq_true.2 ⟨(x:Int),(mem_elems c.hj).2 ⟨by omega,by omega,h1⟩,decide_eq_true ?_⟩,by omega⟩
    rw [Int.toNat_natCast];omega
theorem row_meets {a:Int} (ha:a∈rowsN t j):∃x,x<t.length∧jcl t x=j∧rcl t x=a∧lcl t x=lcl t e:=by
  obtain ⟨x,hx,h1,h2⟩:=(c.mem_rows).1 ha
  have h3:=(c.in_iff ⟨x,hx⟩).1 h1
  obtain ⟨r,g1,g2,g3⟩:=c.I.rowOf h3.1 h3.2
  have hl:=(c.inL_iff r).2 g1
  refine ⟨r,r.2,(lcl_j c.semi r.2 c.he hl).trans c.ej,?_,hl⟩
  rw [←h2]
  exact (rcl_iff c.semi r.2 hx).2 ⟨(rrA_iff c.semi r ⟨x,hx⟩).1 g2,(rrA_iff c.semi ⟨x,hx⟩ r).1 g3⟩
theorem col_meets {a:Int} (ha:a∈colsN t j):∃x,x<t.length∧jcl t x=j∧rcl t x=rcl t e∧lcl t x=a:=by
  obtain ⟨x,hx,h1,h2⟩:=(c.mem_cols).1 ha
  have h3:=(c.in_iff ⟨x,hx⟩).1 h1
  obtain ⟨r,g1,g2,g3⟩:=c.I.colOf h3.1 h3.2
  have hl:=(c.inR_iff r).2 g1
  refine ⟨r,r.2,(rcl_j c.semi r.2 c.he hl).trans c.ej,hl,?_⟩
  rw [←h2]
  exact (lcl_iff c.semi r.2 hx).2 ⟨(llA_iff c.semi r ⟨x,hx⟩).1 g2,(llA_iff c.semi ⟨x,hx⟩ r).1 g3⟩
theorem rI_ok {i:Nat} (hi:i<(rowsN t j).length):rI t j e i<t.length∧jcl t (rI t j e i)=j∧rcl t (rI t j e i)=(rowsN t j).getD i 0∧lcl t (rI t j e i)=lcl t e:=(lst_of c.hj (c.row_meets (getD_mem hi))).2.2
theorem qI_ok {l:Nat} (hl:l<(colsN t j).length):qI t j e l<t.length∧jcl t (qI t j e l)=j∧rcl t (qI t j e l)=rcl t e∧lcl t (qI t j e l)=(colsN t j).getD l 0:=(lst_of c.hj (c.col_meets (getD_mem hl))).2.2
theorem hLs_asc:hLs t j e=ascV t.length fun x=>decide (jcl t x=(j:Int))&&(decide (rcl t x=rcl t e)&&decide (lcl t x=lcl t e)):=hitJ_asc c.hj _ _
theorem mem_hLs {x:Nat}:setI (hLs t j e) x=true↔x<t.length∧rcl t x=rcl t e∧lcl t x=lcl t e:=by
  rw [setI_iff];unfold hLs;rw [mem_hit c.hj]
  exact ⟨fun h=>⟨h.1,h.2.2⟩,fun h=>⟨h.1,(rcl_j c.semi h.1 c.he h.2.1).trans c.ej,h.2⟩⟩
theorem hCl:ClL t (hLs t j e) where
  pos:=List.length_pos_of_mem (setI_iff.1 (c.mem_hLs.2 ⟨c.he,rfl,rfl⟩))
  asc:=by rw [c.hLs_asc];exact ascV_asc _ _
  ins:=fun x hx=>by rw [c.hLs_asc] at hx;exact ascV_in hx
  cl:=fun x y hx hy h1 h2=>by
    have h1:=(c.inH_iff ⟨x,hx⟩).1 (c.mem_hLs.1 h1).2
    have h2:=(c.inH_iff ⟨y,hy⟩).1 (c.mem_hLs.1 h2).2
    have h3:=(c.inH_iff _).2 (c.I.hmul h1 h2)
    exact c.mem_hLs.2 ⟨(c.semi.toSh.ent hx hy).2,h3⟩
theorem hlen:(hLs t j e).length≤t.length:=by rw [c.hLs_asc];exact ascV_len _ _
theorem gI_ok {g:Nat} (hg:g<(hLs t j e).length):gI t j e g<t.length∧rcl t (gI t j e g)=rcl t e∧lcl t (gI t j e g)=lcl t e:=by
  have:=c.hCl.el hg
  have h2:=c.mem_hLs.1 this.2.2
  exact h2
theorem hH {g:Nat} (hg:g<(hLs t j e).length):InH c.m c.E ⟨gI t j e g,(c.gI_ok hg).1⟩:=(c.inH_iff ⟨_,(c.gI_ok hg).1⟩).1 (c.gI_ok hg).2
theorem hRr {i:Nat} (hi:i<(rowsN t j).length):InL c.m c.E ⟨rI t j e i,(c.rI_ok hi).1⟩:=(c.inL_iff ⟨_,(c.rI_ok hi).1⟩).1 (c.rI_ok hi).2.2.2
theorem hQq {l:Nat} (hl:l<(colsN t j).length):InR c.m c.E ⟨qI t j e l,(c.qI_ok hl).1⟩:=(c.inR_iff ⟨_,(c.qI_ok hl).1⟩).1 (c.qI_ok hl).2.2.1
theorem grp:Grp (cooG t j e):=by
  refine ⟨sub_semi c.semi c.hCl c.hlen,?_⟩
  have pe:=pL_in (c.mem_hLs.2 ⟨c.he,rfl,rfl⟩)
  refine ⟨pL (hLs t j e) e,by unfold cooG;rw [subT_len];exact pe.2.1,fun x hx=>?_,fun x hx=>?_⟩
  · unfold cooG at hx ⊢
    rw [subT_len] at hx
    have ex:=c.hH hx
    have n1:en t e (eL (hLs t j e) x)=eL (hLs t j e) x:=congrArg Fin.val ex.l
    have n2:en t (eL (hLs t j e) x) e=eL (hLs t j e) x:=congrArg Fin.val ex.r
    rw [(sub_en c.hCl pe.2.1 hx).1,(sub_en c.hCl hx pe.2.1).1,pe.2.2,n1,n2,pL_el c.hCl hx]
    exact ⟨rfl,rfl⟩
  · unfold cooG at hx ⊢
    rw [subT_len] at hx
    obtain ⟨y,hy,h3,h4⟩:=c.I.hinv (c.hH hx)
    have my:=(c.inH_iff y).2 hy
    have py:=pL_in (c.mem_hLs.2 ⟨y.2,my⟩)
    have h3:en t (eL (hLs t j e) x) y=e:=congrArg Fin.val h3
    have h4:en t y (eL (hLs t j e) x)=e:=congrArg Fin.val h4
    refine ⟨pL (hLs t j e) y,by rw [subT_len];exact py.2.1,?_,?_⟩
    · rw [(sub_en c.hCl hx py.2.1).1,py.2.2,h3]
    · rw [(sub_en c.hCl py.2.1 hx).1,py.2.2,h4]
omit c in
theorem glen:(cooG t j e).length=(hLs t j e).length:=subT_len _ _
theorem tri_ok {i g l:Nat} (hi:i<(rowsN t j).length) (hg:g<(hLs t j e).length) (hl:l<(colsN t j).length):
    tri t j e i g l<t.length∧jcl t (tri t j e i g l)=j∧rcl t (tri t j e i g l)=(rowsN t j).getD i 0∧lcl t (tri t j e i g l)=(colsN t j).getD l 0:=by
  have r:=c.rI_ok hi
  have q:=c.qI_ok hl
  have gg:=c.gI_ok hg
  obtain ⟨⟨w,h1⟩,⟨v,h2⟩,h3⟩:=c.I.back (c.hRr hi) (c.hQq hl) (c.hH hg)
  have hlt:tri t j e i g l<t.length:=(c.semi.toSh.ent (c.semi.toSh.ent r.1 gg.1).2 q.1).2
  have e1:rcl t (tri t j e i g l)=rcl t (rI t j e i):=(rcl_iff c.semi hlt r.1).2 ⟨(rrA_iff c.semi ⟨_,hlt⟩ ⟨_,r.1⟩).1 (.inr ⟨w,h1⟩),(rrA_iff c.semi ⟨_,r.1⟩ ⟨_,hlt⟩).1 (.inr ⟨c.m ⟨_,gg.1⟩ ⟨_,q.1⟩,(c.I.ac _ _ _).symm⟩)⟩
  have e2:lcl t (tri t j e i g l)=lcl t (qI t j e l):=(lcl_iff c.semi hlt q.1).2 ⟨(llA_iff c.semi ⟨_,hlt⟩ ⟨_,q.1⟩).1 (.inr ⟨v,h2⟩),(llA_iff c.semi ⟨_,q.1⟩ ⟨_,hlt⟩).1 (.inr ⟨c.m ⟨_,r.1⟩ ⟨_,gg.1⟩,rfl⟩)⟩
  exact ⟨hlt,(rcl_j c.semi hlt r.1 e1).trans r.2.1,e1.trans r.2.2.1,e2.trans q.2.2.2⟩
omit c in
theorem rows_asc:Asc (rowsN t j):=ascV_asc _ _
omit c in
theorem cols_asc:Asc (colsN t j):=ascV_asc _ _
theorem tri_inj {i g l i' g' l':Nat} (hi:i<(rowsN t j).length) (hg:g<(hLs t j e).length) (hl:l<(colsN t j).length) (hi':i'<(rowsN t j).length) (hg':g'<(hLs t j e).length) (hl':l'<(colsN t j).length)
    (he:tri t j e i g l=tri t j e i' g' l'):i=i'∧g=g'∧l=l':=by
  have a:=c.tri_ok hi hg hl
  have b:=c.tri_ok hi' hg' hl'
  have ei:i=i':=asc_inj rows_asc hi hi' (by rw [←a.2.2.1,←b.2.2.1,he])
  have el:l=l':=asc_inj cols_asc hl hl' (by rw [←a.2.2.2,←b.2.2.2,he])
  subst ei;subst el
  have:=c.I.inj (c.hRr hi) (c.hQq hl) (c.hH hg) (c.hH hg') (Fin.ext he)
  exact ⟨rfl,eL_inj c.hCl hg hg' (congrArg Fin.val this),rfl⟩
theorem tri_all {x:Nat} (hx:x<t.length) (hc:jcl t x=j):∃i g l,i<(rowsN t j).length∧g<(hLs t j e).length∧l<(colsN t j).length∧tri t j e i g l=x:=by
  obtain ⟨i,hi,ei⟩:=mem_getD 0 (c.mem_rows.2 ⟨x,hx,hc,rfl⟩)
  obtain ⟨l,hl,el⟩:=mem_getD 0 (c.mem_cols.2 ⟨x,hx,hc,rfl⟩)
  have r:=c.rI_ok hi
  have q:=c.qI_ok hl
  have h3:=(c.in_iff ⟨x,hx⟩).1 hc
  have rx:=(rcl_iff c.semi r.1 hx).1 (r.2.2.1.trans ei)
  have qx:=(lcl_iff c.semi q.1 hx).1 (q.2.2.2.trans el)
  obtain ⟨g,hg,hgx⟩:=c.I.dec h3.1 (c.hRr hi) (c.hQq hl) ((rrA_iff c.semi ⟨_,r.1⟩ ⟨x,hx⟩).2 rx.1) ((llA_iff c.semi ⟨_,q.1⟩ ⟨x,hx⟩).2 qx.1)
  have mg:=(c.inH_iff g).2 hg
  have pg:=pL_in (c.mem_hLs.2 ⟨g.2,mg⟩)
  refine ⟨i,pL (hLs t j e) g,l,hi,pg.2.1,hl,?_⟩
  unfold tri gI;rw [pg.2.2]
  exact congrArg Fin.val hgx
end Coo
end Go.Proofs.YtjabhmhhhlcopaaGreatDoor
end
section
namespace Go.Proofs.YtjabhmhhhlcopaaGreatDoor
open Classical
def triI (n C:Int) (z:Bool) (i g l:Nat):Int:=numI n C z i g l
def pe (P:List (List Int)) (l i:Nat):Int:=(P.getD l []).getD i 0
end Go.Proofs.YtjabhmhhhlcopaaGreatDoor
end
section
namespace Go.Proofs.YtjabhmhhhlcopaaGreatDoor
open Go Go.AM
attribute [local instance] Classical.propDecidable
end Go.Proofs.YtjabhmhhhlcopaaGreatDoor
end
section
namespace Go.Proofs.YtjabhmhhhlcopaaGreatDoor
open Go Go.AM
section
variable (t:List (List Int)) (j e:Nat)
abbrev cR:Nat:=(rowsN t j).length
abbrev cC:Nat:=(colsN t j).length
abbrev cH:Nat:=(hLs t j e).length
def cooN (i g l:Nat):Int:=triI (cH t j e) (cC t j) (!minJ t j) i g l
open Classical in
noncomputable def cooV (x:Nat):Int:=if h:∃p:Nat × Nat × Nat,p.1<cR t j∧p.2.1<cH t j e∧p.2.2<cC t j∧tri t j e p.1 p.2.1 p.2.2=x then cooN t j e (Classical.choose h).1 (Classical.choose h).2.1 (Classical.choose h).2.2 else -1
noncomputable def cooM:List Int:=(List.range t.length).map (cooV t j e)
end
theorem cooP_len (t:List (List Int)) (j e:Nat):(cooP t j e).length=cC t j:=by simp [cooP]
theorem cooP_row {t:List (List Int)} {j e l:Nat} (hl:l<cC t j):(cooP t j e).getD l []=(List.range (cR t j)).map fun i=>posTo (hLs t j e) (hLs t j e).length (en t (qI t j e l) (rI t j e i)):=map_range_getD _ _ _ _ hl
theorem cooP_get {t:List (List Int)} {j e l i:Nat} (hl:l<cC t j) (hi:i<cR t j):((cooP t j e).getD l []).getD i 0=posTo (hLs t j e) (hLs t j e).length (en t (qI t j e l) (rI t j e i)):=by
  rw [cooP_row hl,map_range_getD _ _ _ _ hi]
theorem cooM_len (t:List (List Int)) (j e:Nat):(cooM t j e).length=t.length:=by simp [cooM]
theorem posTo_no {l:List Int} {x:Nat}:∀{k:Nat},(∀i,i<k→l.getD i 0≠(x:Int))→posTo l k x= -1
  |0,_=>rfl
  |k+1,h=>by rw [posTo,if_neg (h k (by omega)),posTo_no fun i hi=>h i (by omega)]
theorem posTo_out {l:List Int} {x:Nat} (h:setI l x=false):posTo l l.length x= -1:=posTo_no fun i hi he=>by
  have:=setI_iff.2 (he▸getD_mem (d:=0) hi)
  rw [h] at this;cases this
theorem tri_dec {R H C k:Nat} (hH:0<H) (hC:0<C) (hk:k<R*H*C):k / C / H<R∧k / C % H<H∧k % C<C:=by
  have h1:k / C<R*H:=Nat.div_lt_of_lt_mul (by rw [Nat.mul_comm];exact hk)
  exact ⟨Nat.div_lt_of_lt_mul (by rw [Nat.mul_comm];exact h1),Nat.mod_lt _ hH,Nat.mod_lt _ hC⟩
theorem tri_back {H C k k':Nat} (h1:k / C / H=k' / C / H) (h2:k / C % H=k' / C % H) (h3:k % C=k' % C):k=k':=by
  have a:=Nat.div_add_mod (k / C) H
  have a':=Nat.div_add_mod (k' / C) H
  have b:=Nat.div_add_mod k C
  have b':=Nat.div_add_mod k' C
  rw [h1,h2,a'] at a
  rw [←a,h3,b'] at b
  exact b.symm
theorem tri_enc {R H C i g l:Nat} (hi:i<R) (hg:g<H) (hl:l<C):∃k,k<R*H*C∧k / C / H=i∧k / C % H=g∧k % C=l:=by
  refine ⟨(i*H+g)*C+l,?_,?_,?_,?_⟩
  · have h1:i*H+g+1≤R*H:=by
      have:=Nat.mul_le_mul_right H (show i+1≤R from hi)
      rw [Nat.add_mul,Nat.one_mul] at this;omega
    have:=Nat.mul_le_mul_right C h1
    rw [Nat.add_mul,Nat.one_mul] at this;omega
  · have e1:((i*H+g)*C+l) / C=i*H+g:=by rw [Nat.mul_comm,Nat.mul_add_div (by omega),Nat.div_eq_of_lt hl,Nat.add_zero]
    rw [e1,Nat.mul_comm,Nat.mul_add_div (by omega),Nat.div_eq_of_lt hg,Nat.add_zero]
  · have e1:((i*H+g)*C+l) / C=i*H+g:=by rw [Nat.mul_comm,Nat.mul_add_div (by omega),Nat.div_eq_of_lt hl,Nat.add_zero]
    rw [e1,Nat.mul_comm,Nat.mul_add_mod,Nat.mod_eq_of_lt hg]
  · rw [Nat.mul_comm,Nat.mul_add_mod,Nat.mod_eq_of_lt hl]
namespace Coo
variable {t:List (List Int)} {j e:Nat} (c:Coo t j e)
include c
theorem posR:0<cR t j:=List.length_pos_of_mem (c.mem_rows.2 ⟨e,c.he,c.ej,rfl⟩)
theorem posC:0<cC t j:=List.length_pos_of_mem (c.mem_cols.2 ⟨e,c.he,c.ej,rfl⟩)
theorem posH:0<cH t j e:=c.hCl.pos
theorem cooV_tri {i g l:Nat} (hi:i<cR t j) (hg:g<cH t j e) (hl:l<cC t j):cooV t j e (tri t j e i g l)=cooN t j e i g l:=by
  have hx:∃p:Nat × Nat × Nat,p.1<cR t j∧p.2.1<cH t j e∧p.2.2<cC t j∧tri t j e p.1 p.2.1 p.2.2=tri t j e i g l:=⟨(i,g,l),hi,hg,hl,rfl⟩
  unfold cooV
  rw [dif_pos hx]
  have hs:=Classical.choose_spec hx
  have:=c.tri_inj hs.1 hs.2.1 hs.2.2.1 hi hg hl hs.2.2.2
  rw [this.1,this.2.1,this.2.2]
theorem cooV_out {x:Nat} (hx:jcl t x≠j):cooV t j e x= -1:=by
  unfold cooV
  rw [dif_neg]
  rintro ⟨p,h1,h2,h3,h4⟩
  exact hx (h4▸(c.tri_ok h1 h2 h3).2.1)
omit c in
theorem cooM_get {x:Nat} (hx:x<t.length):(cooM t j e).getD x 0=cooV t j e x:=map_range_getD _ _ _ _ hx
theorem cooM_tri {i g l:Nat} (hi:i<cR t j) (hg:g<cH t j e) (hl:l<cC t j):(cooM t j e).getD (tri t j e i g l) 0=cooN t j e i g l:=by rw [cooM_get (c.tri_ok hi hg hl).1,c.cooV_tri hi hg hl]
theorem sand_in {i l:Nat} (hi:i<cR t j) (hl:l<cC t j):setI (hLs t j e) (en t (qI t j e l) (rI t j e i))=true↔jcl t (en t (qI t j e l) (rI t j e i))=j:=by
  have r:=c.rI_ok hi
  have q:=c.qI_ok hl
  have hlt:=(c.semi.toSh.ent q.1 r.1).2
  constructor
  · intro h
    have:=c.mem_hLs.1 h
    exact (rcl_j c.semi hlt c.he this.2.1).trans c.ej
  · intro h
    have h2:=((c.in_iff (c.m ⟨_,q.1⟩ ⟨_,r.1⟩)).1 h).1
    have h3:=(c.inH_iff (c.m ⟨_,q.1⟩ ⟨_,r.1⟩)).2 (c.I.sand (c.hQq hl) (c.hRr hi) h2)
    exact c.mem_hLs.2 ⟨hlt,h3⟩
theorem rees_rows:rowsOk (cooG t j e).length (cR t j) (cooP t j e) (!minJ t j):=by
  intro row hrow
  obtain ⟨l,hl,rfl⟩:=mem_getD [] hrow
  rw [cooP_len] at hl
  rw [cooP_row hl]
  refine ⟨by simp,fun g hg=>?_⟩
  obtain ⟨i,hi,rfl⟩:=List.mem_map.1 hg
  have hi:=List.mem_range.1 hi
  have hr:=posTo_rng (hLs t j e) (hLs t j e).length (en t (qI t j e l) (rI t j e i))
  rw [glen]
  refine ⟨hr.1,by omega,fun hneg=>?_⟩
  refine Classical.byContradiction fun hn=>?_
  have hm:minJ t j=true:=by simpa using hn
  have h1:=min_stays c.semi c.hj hm (c.qI_ok hl).1 (c.rI_ok hi).1 (c.qI_ok hl).2.1
  have h2:=(pL_in ((c.sand_in hi hl).2 h1)).1
  omega
theorem count:(elemsJ t j).length=cR t j*cH t j e*cC t j:=by
  have hnd:((List.range (cR t j*cH t j e*cC t j)).map fun k=>((tri t j e (k / cC t j / cH t j e) (k / cC t j % cH t j e) (k % cC t j):Nat):Int)).Nodup:=by
    refine List.pairwise_map.2 (List.nodup_range.imp_of_mem fun {a b} ha hb hab e1=>hab ?_)
    have ha:=tri_dec c.posH c.posC (List.mem_range.1 ha)
    have hb:=tri_dec c.posH c.posC (List.mem_range.1 hb)
    have e1:tri t j e (a / cC t j / cH t j e) (a / cC t j % cH t j e) (a % cC t j)=tri t j e (b / cC t j / cH t j e) (b / cC t j % cH t j e) (b % cC t j):=Int.ofNat_inj.1 e1
    have:=c.tri_inj ha.1 ha.2.1 ha.2.2 hb.1 hb.2.1 hb.2.2 e1
    exact tri_back this.1 this.2.1 this.2.2
  have hsub:∀x∈(List.range (cR t j*cH t j e*cC t j)).map (fun k=>((tri t j e (k / cC t j / cH t j e) (k / cC t j % cH t j e) (k % cC t j):Nat):Int)),x∈elemsJ t j:=fun x hx=>by
    obtain ⟨k,hk,rfl⟩:=List.mem_map.1 hx
    have hd:=tri_dec c.posH c.posC (List.mem_range.1 hk)
    have:=c.tri_ok hd.1 hd.2.1 hd.2.2
    exact (mem_elems c.hj).2 ⟨Int.natCast_nonneg _,Int.ofNat_lt.2 this.1,by rw [Int.toNat_natCast];exact this.2.1⟩
  have hsup:∀x∈elemsJ t j,x∈(List.range (cR t j*cH t j e*cC t j)).map (fun k=>((tri t j e (k / cC t j / cH t j e) (k / cC t j % cH t j e) (k % cC t j):Nat):Int)):=fun x hx=>by
    have hm:=(mem_elems c.hj).1 hx
    obtain ⟨i,g,l,hi,hg,hl,he⟩:=c.tri_all (x:=x.toNat) (by omega) hm.2.2
    obtain ⟨k,hk,e1,e2,e3⟩:=tri_enc hi hg hl
    refine List.mem_map.2 ⟨k,List.mem_range.2 hk,?_⟩
    rw [e1,e2,e3,he];omega
  refine Nat.le_antisymm ?_ ?_
  · have:=(elems_nodup c.hj).length_le_of_subset hsup
    simpa using this
  · have:=hnd.length_le_of_subset hsub
    simpa using this
theorem size:sizeI (cooG t j e).length (cR t j) (cC t j) (!minJ t j) - zI (!minJ t j)=((elemsJ t j).length:Int):=by
  unfold sizeI;rw [glen,c.count,Nat.mul_comm (cR t j)];simp only [cH,cR,cC];push_cast;omega
theorem rees:Rees (cooG t j e) (cR t j) (cooP t j e).length (cooP t j e) (!minJ t j) where
  grp:=c.grp
  sh:=⟨by have:=c.posR;omega,by rw [cooP_len];have:=c.posC;omega,rfl,c.rees_rows⟩
  small:=by
    have h1:=c.size
    have hm:=c.semi.most
    rw [cooP_len]
    cases hmin:minJ t j with
    |true=>
     have:=elems_le c.hj
     rw [hmin] at h1
     have hz:zI (!true)=0:=rfl
     omega
    |false=>
     have:=elems_lt c.hj hmin
     rw [hmin] at h1
     have hz:zI (!false)=1:=rfl
     omega
end Coo
end Go.Proofs.YtjabhmhhhlcopaaGreatDoor
end
section
namespace Go.Proofs.YtjabhmhhhlcopaaGreatDoor
open Go Go.AM
namespace Coo
variable {t:List (List Int)} {j e:Nat} (c:Coo t j e)
include c
theorem stay {x y:Fin t.length} (hx:jcl t x=j) (hu:Up c.m c.E (c.m x y)):jcl t (en t x y)=j:=by
  obtain ⟨_,a,b,hab⟩:=(c.in_iff x).1 hx
  exact (c.in_iff (c.m x y)).2 ⟨hu,a,c.m b y,by rw [←c.I.ac,hab]⟩
omit c in
theorem pe_get {l i:Nat} (hl:l<cC t j) (hi:i<cR t j):pe (cooP t j e) l i=posTo (hLs t j e) (hLs t j e).length (en t (qI t j e l) (rI t j e i)):=cooP_get hl hi
theorem pe_yes {l i:Nat} (hl:l<cC t j) (hi:i<cR t j) (h:jcl t (en t (qI t j e l) (rI t j e i))=j):0≤pe (cooP t j e) l i:=by
  have:=(pL_in ((c.sand_in hi hl).2 h)).1
  rw [Coo.pe_get hl hi];omega
theorem tri_fin {i g l:Nat} (hi:i<cR t j) (hg:g<cH t j e) (hl:l<cC t j):(⟨tri t j e i g l,(c.tri_ok hi hg hl).1⟩:Fin t.length)=c.m (c.m ⟨_,(c.rI_ok hi).1⟩ ⟨_,(c.gI_ok hg).1⟩) ⟨_,(c.qI_ok hl).1⟩:=rfl
theorem prod_yes {i g l i' g' l':Nat} (hi:i<cR t j) (hg:g<cH t j e) (hl:l<cC t j) (hi':i'<cR t j) (hg':g'<cH t j e) (hl':l'<cC t j) (hp:0≤pe (cooP t j e) l i'):
    en (cooG t j e) (en (cooG t j e) g (pe (cooP t j e) l i').toNat) g'<cH t j e∧en t (tri t j e i g l) (tri t j e i' g' l')=tri t j e i (en (cooG t j e) (en (cooG t j e) g (pe (cooP t j e) l i').toNat) g') l':=by
  have hin:setI (hLs t j e) (en t (qI t j e l) (rI t j e i'))=true:=by
    cases hs:setI (hLs t j e) (en t (qI t j e l) (rI t j e i')) with
    |true=>rfl
    |false=>rw [Coo.pe_get hl hi',posTo_out hs] at hp;omega
  have pp:=pL_in hin
  have ep:(pe (cooP t j e) l i').toNat=pL (hLs t j e) (en t (qI t j e l) (rI t j e i')):=by rw [Coo.pe_get hl hi',pp.1];exact Int.toNat_natCast _
  have s1:=sub_en c.hCl hg pp.2.1
  have s2:=sub_en c.hCl s1.2.1 hg'
  rw [ep]
  unfold cooG
  refine ⟨s2.2.1,?_⟩
  unfold tri gI
  rw [s2.2.2,s1.2.2,pp.2.2]
  exact congrArg Fin.val (c.I.mul3 ⟨_,(c.rI_ok hi).1⟩ ⟨_,(c.gI_ok hg).1⟩ ⟨_,(c.qI_ok hl).1⟩ ⟨_,(c.rI_ok hi').1⟩ ⟨_,(c.gI_ok hg').1⟩ ⟨_,(c.qI_ok hl').1⟩)
theorem prod_no {i g l i' g' l':Nat} (hi:i<cR t j) (hg:g<cH t j e) (hl:l<cC t j) (hi':i'<cR t j) (hg':g'<cH t j e) (hl':l'<cC t j) (hp:pe (cooP t j e) l i'<0):
    jcl t (en t (tri t j e i g l) (tri t j e i' g' l'))≠j:=by
  intro hj
  have a:=c.tri_ok hi hg hl
  have b:=c.tri_ok hi' hg' hl'
  have hu:=((c.in_iff (c.m ⟨_,a.1⟩ ⟨_,b.1⟩)).1 hj).1
  rw [c.tri_fin hi hg hl,c.tri_fin hi' hg' hl'] at hu
  have hu2:=c.I.mulUp hu
  have:=c.pe_yes hl hi' (c.stay (x:=⟨_,(c.qI_ok hl).1⟩) (y:=⟨_,(c.rI_ok hi').1⟩) (c.qI_ok hl).2.1 hu2)
  omega
end Coo
structure CooTo (t:List (List Int)) (j e:Nat) (M:List Int) (D:Nat→Nat→Nat→Prop):Prop where
  len:M.length=t.length
  set:∀i g l,i<cR t j→g<cH t j e→l<cC t j→D i g l→M.getD (tri t j e i g l) 0=cooN t j e i g l
  rest:∀x,x<t.length→(∀i g l,i<cR t j→g<cH t j e→l<cC t j→D i g l→tri t j e i g l≠x)→M.getD x 0= -1
theorem CooTo.start {t:List (List Int)} {j e:Nat} {M:List Int} (hl:M.length=t.length) (h:∀x,x<t.length→M.getD x 0= -1) {D:Nat→Nat→Nat→Prop} (hD:∀i g l,¬D i g l):CooTo t j e M D:=
  ⟨hl,fun i g l _ _ _ h=>absurd h (hD _ _ _),fun x hx _=>h x hx⟩
theorem CooTo.congr {t:List (List Int)} {j e:Nat} {M:List Int} {D D':Nat→Nat→Nat→Prop} (H:CooTo t j e M D) (h:∀i g l,i<cR t j→g<cH t j e→l<cC t j→(D' i g l↔D i g l)):CooTo t j e M D':=
  ⟨H.len,fun i g l hi hg hl hd=>H.set i g l hi hg hl ((h i g l hi hg hl).1 hd),fun x hx hn=>H.rest x hx fun i g l hi hg hl hd=>hn i g l hi hg hl ((h i g l hi hg hl).2 hd)⟩
theorem CooTo.step {t:List (List Int)} {j e:Nat} (c:Coo t j e) {M:List Int} {D D':Nat→Nat→Nat→Prop} (H:CooTo t j e M D) {i g l:Nat} (hi:i<cR t j) (hg:g<cH t j e) (hl:l<cC t j)
    (hD:∀a b d,a<cR t j→b<cH t j e→d<cC t j→(D' a b d↔(D a b d∨(a=i∧b=g∧d=l)))):CooTo t j e (M.set (tri t j e i g l) (cooN t j e i g l)) D' where
  len:=by rw [List.length_set];exact H.len
  set a b d ha hb hd hdd:=by
    by_cases he:tri t j e a b d=tri t j e i g l
    · have:=c.tri_inj ha hb hd hi hg hl he
      rw [this.1,this.2.1,this.2.2,getD_set_eq (by rw [H.len];exact (c.tri_ok hi hg hl).1)]
    · rw [getD_set_ne (Ne.symm he)]
      rcases (hD a b d ha hb hd).1 hdd with h|⟨rfl,rfl,rfl⟩
      · exact H.set a b d ha hb hd h
      · exact absurd rfl he
  rest x hx hn:=by
    have h1:=hn i g l hi hg hl ((hD i g l hi hg hl).2 (.inr ⟨rfl,rfl,rfl⟩))
    rw [getD_set_ne h1]
    exact H.rest x hx fun a b d ha hb hd hdd=>hn a b d ha hb hd ((hD a b d ha hb hd).2 (.inl hdd))
theorem CooTo.done {t:List (List Int)} {j e:Nat} (c:Coo t j e) {M:List Int} {D:Nat→Nat→Nat→Prop} (H:CooTo t j e M D) (hD:∀i g l,i<cR t j→g<cH t j e→l<cC t j→D i g l):M=cooM t j e:=by
  refine ext_getD 0 (by rw [H.len,cooM_len]) fun x hx=>?_
  rw [H.len] at hx
  by_cases hc:jcl t x=j
  · obtain ⟨i,g,l,hi,hg,hl,rfl⟩:=c.tri_all hx hc
    rw [H.set i g l hi hg hl (hD i g l hi hg hl),c.cooM_tri hi hg hl]
  · rw [Coo.cooM_get hx,c.cooV_out hc]
    exact H.rest x hx fun i g l hi hg hl _ he=>hc (he▸(c.tri_ok hi hg hl).2.1)
end Go.Proofs.YtjabhmhhhlcopaaGreatDoor
end
