import Derived.Test.YtjabhmhhhlcopaaGreatDoorBase
import Derived.Test.YtjabhmhhhlcopaaGreatDoorIdealLaw
import Derived.Test.YtjabhmhhhlcopaaGreatDoorBits
section
namespace Go.Proofs.YtjabhmhhhlcopaaGreatDoor
open Go Go.AM
structure TotC {α:Type} (c:α→α→Int):Prop where
  swap:∀a b,c b a= - c a b
  eq:∀a b,c a b=0→a=b
  trans:∀a b d,c a b<0→c b d<0→c a d<0
theorem TotC.self {α:Type} {c:α→α→Int} (h:TotC c) (a:α):c a a=0:=by have:=h.swap a a;omega
def cmpI (a b:Int):Int:=if a<b then -1 else if b<a then 1 else 0
theorem cmpI_tot:TotC cmpI where
  swap a b:=by unfold cmpI;split<;>split<;>(try split)<;>omega
  eq a b:=by unfold cmpI;split<;>(try split)<;>omega
  trans a b d:=by unfold cmpI;intro h1 h2;split at h1<;>(try split at h1)<;>split at h2<;>(try split at h2)<;>first|omega|(rw [if_pos (by omega)];omega)
def Srt {α:Type} (c:α→α→Int) (l:List α):Prop:=l.Pairwise fun a b=>c a b<0
section
variable {α:Type} {c:α→α→Int}
theorem Srt.nodup (h:TotC c) {l:List α} (hs:Srt c l):l.Nodup:=hs.imp fun {a b} hab e=>by subst e;have:=h.self a;omega
theorem perm_sorted (h:TotC c):∀{l m:List α},l.Pairwise (fun a b=>c a b≤0)→m.Pairwise (fun a b=>c a b≤0)→l.Perm m→l=m
  |[],m,_,_,hp=>by rw [List.nil_perm.1 hp]
  |a::l,[],_,_,hp=>by have:=hp.length_eq;simp at this
  |a::l,b::m,h1,h2,hp=>by
   have h1':=List.pairwise_cons.1 h1
   have h2':=List.pairwise_cons.1 h2
   have e:a=b:=by
     have ha:a∈b::m:=hp.mem_iff.1 (by simp)
     have hb:b∈a::l:=hp.mem_iff.2 (by simp)
     rcases List.mem_cons.1 ha with e|ha
     · exact e
     · rcases List.mem_cons.1 hb with e|hb
       · exact e.symm
       · have g1:=h2'.1 a ha
         have g2:=h1'.1 b hb
         have:=h.swap a b
         exact h.eq _ _ (by omega)
   subst e
   rw [perm_sorted h h1'.2 h2'.2 hp.cons_inv]
theorem sorted_uniq (h:TotC c) {l m:List α} (hl:Srt c l) (hm:Srt c m) (he:∀x,x∈l↔x∈m):l=m:=
  perm_sorted h (hl.imp fun h=>by omega) (hm.imp fun h=>by omega) ((List.perm_ext_iff_of_nodup (hl.nodup h) (hm.nodup h)).2 he)
end
end Go.Proofs.YtjabhmhhhlcopaaGreatDoor
end
section
namespace Go.Proofs.YtjabhmhhhlcopaaGreatDoor
open Go Go.AM
open Classical
theorem pairwise_adj {l:List Int} (h:Asc l):l.Pairwise (· <·):=by
  rw [List.pairwise_iff_getElem]
  have key:∀d i,i+d+1<l.length→l.getD i 0<l.getD (i+d+1) 0:=by
    intro d
    induction d with
    |zero=>intro i hi;exact h i hi
    |succ d ih=>intro i hi;have h1:=ih i (by omega);have h2:=h (i+d+1) (by omega);rw [show i+(d+1)+1=i+d+1+1 by omega];omega
  intro i j hi hj hij
  have:=key (j - i - 1) i (by omega)
  rw [show i+(j - i - 1)+1=j by omega,getD_eq hi,getD_eq hj] at this
  exact this
theorem asc_of {l:List Int} (h:l.Pairwise (· <·)):Asc l:=fun i hi=>by
  rw [getD_eq (by omega),getD_eq hi]
  exact List.pairwise_iff_getElem.1 h i (i+1) (by omega) hi (by omega)
theorem asc_ext {l m:List Int} (hl:Asc l) (hm:Asc m) (h:∀x,x∈l↔x∈m):l=m:=by
  have c:∀a b:Int,cmpI a b<0↔a<b:=fun a b=>by unfold cmpI;split<;>(try split)<;>omega
  exact sorted_uniq cmpI_tot ((pairwise_adj hl).imp fun hab=>(c _ _).2 hab) ((pairwise_adj hm).imp fun hab=>(c _ _).2 hab) h
theorem ascV_asc (n:Nat) (f:Nat→Bool):Asc (ascV n f):=by
  refine asc_of ?_
  unfold ascV memV memTo
  rw [List.pairwise_map]
  refine List.Pairwise.imp ?_ (List.Pairwise.sublist List.filter_sublist List.pairwise_lt_range)
  intro a b h;exact_mod_cast h
theorem ascV_in {n:Nat} {f:Nat→Bool} {x:Int} (h:x∈ascV n f):0≤x∧x<(n:Int):=by
  obtain ⟨i,h1,_,rfl⟩:=ascV_mem.1 h;omega
theorem ascV_self {n:Nat} {l:List Int} (h:Asc l) (hl:∀x∈l,0≤x∧x<(n:Int)):ascV n (setI l)=l:=by
  refine asc_ext (ascV_asc _ _) h fun x=>?_
  rw [ascV_mem]
  constructor
  · rintro ⟨i,_,h2,rfl⟩;exact setI_iff.1 h2
  · intro hx
    have:=hl x hx
    exact ⟨x.toNat,by omega,setI_iff.2 (by rw [Int.toNat_of_nonneg this.1];exact hx),by omega⟩
theorem idL_of {t:List (List Int)} (hs:Sh t) {f:Nat→Bool} (h:IdF t f) {x:Nat} (hx:x<t.length) (hf:f x=true):IdL t (ascV t.length f):=
  ⟨List.length_pos_iff_exists_mem.2 ⟨_,ascV_mem.2 ⟨x,hx,hf,rfl⟩⟩,ascV_asc _ _,fun _ hy=>ascV_in hy,fun y s hy hs' hyf=>by
    rw [ascV_set hy] at hyf
    have:=h y s hy hs' hyf
    rw [ascV_set (hs.ent hy hs').2,ascV_set (hs.ent hs' hy).2];exact this⟩
def prF (t:List (List Int)) (x:Nat):Nat→Bool:=twoF t (setI [(x:Int)])
theorem prF_iff {t:List (List Int)} (h:Semi t) {x y:Nat} (hx:x<t.length):prF t x y=true↔inJB t x y=true:=by
  unfold prF
  rw [twoF_iff h]
  constructor
  · rintro ⟨z,_,h1,h2⟩
    have h1:=setI_iff.1 h1
    rw [List.mem_singleton] at h1
    have:z=x:=by omega
    rw [←this];exact h2
  · intro h1;exact ⟨x,hx,setI_iff.2 (by simp),h1⟩
theorem inJ_mul {t:List (List Int)} (h:Semi t) {x y s:Nat} (hx:x<t.length) (hs:s<t.length) (hy:inJB t x y=true):inJB t x (en t y s)=true∧inJB t x (en t s y)=true:=by
  have hy':=inJ_lt h.toSh hx hy
  have p:=preJ h
  refine ⟨p.trans _ _ _ hx hy' (h.toSh.ent hy' hs).2 hy ?_,p.trans _ _ _ hx hy' (h.toSh.ent hs hy').2 hy ?_⟩
  · exact (inJB_iff h.toSh hy').2 ⟨y,hy',(inLB_iff h.toSh hy').2 (.inl rfl),(inRB_iff h.toSh hy').2 (.inr ⟨s,hs,rfl⟩)⟩
  · exact (inJB_iff h.toSh hy').2 ⟨en t s y,(h.toSh.ent hs hy').2,(inLB_iff h.toSh hy').2 (.inr ⟨s,hs,rfl⟩),(inRB_iff h.toSh (h.toSh.ent hs hy').2).2 (.inl rfl)⟩
theorem prF_id {t:List (List Int)} (h:Semi t) {x:Nat} (hx:x<t.length):IdF t (prF t x):=fun y s _ hs hf=>by
  rw [prF_iff h hx] at hf ⊢
  rw [prF_iff h hx]
  exact inJ_mul h hx hs hf
theorem prF_self {t:List (List Int)} (h:Semi t) {x:Nat} (hx:x<t.length):prF t x x=true:=(prF_iff h hx).2 ((preJ h).refl _ hx)
theorem id_has {t:List (List Int)} (h:Semi t) {f:Nat→Bool} (hf:IdF t f) {x y:Nat} (hx:x<t.length) (hfx:f x=true) (hy:inJB t x y=true):f y=true:=by
  obtain ⟨z,hz,h1,h2⟩:=(inJB_iff h.toSh hx).1 hy
  have hz':f z=true:=by
    rcases (inLB_iff h.toSh hx).1 h1 with rfl|⟨s,hs,rfl⟩
    · exact hfx
    · exact (hf x s hx hs hfx).2
  rcases (inRB_iff h.toSh hz).1 h2 with rfl|⟨s,hs,rfl⟩
  · exact hz'
  · exact (hf z s hz hs hz').1
end Go.Proofs.YtjabhmhhhlcopaaGreatDoor
end
section
namespace Go.Proofs.YtjabhmhhhlcopaaGreatDoor
open Go Go.AM
theorem ker_pr (t:List (List Int)):kerF t=prF t (allP t t.length):=rfl
theorem ker_F {t:List (List Int)} (h:Semi t):IdF t (kerF t):=prF_id h (allP_lt h.toSh h.pos _ (Nat.le_refl _))
theorem ker_has {t:List (List Int)} (h:Semi t):kerF t (allP t t.length)=true:=prF_self h (allP_lt h.toSh h.pos _ (Nat.le_refl _))
theorem all_in {t:List (List Int)} (h:Sh t) {f:Nat→Bool} (hf:IdF t f) {x:Nat} (hx:x<t.length) (hfx:f x=true):∀k,x<k→k≤t.length→f (allP t k)=true
  |0,h1,_=>absurd h1 (Nat.not_lt_zero _)
  |k+1,h1,h2=>by
   have hp:=allP_lt h h.pos k (by omega)
   by_cases e:x=k
   · subst e;exact (hf x (allP t x) hx hp hfx).2
   · exact (hf (allP t k) k hp (by omega) (all_in h hf hx hfx k (by omega) (by omega))).1
theorem ker_min {t:List (List Int)} (h:Semi t) {f:Nat→Bool} (hf:IdF t f) {x:Nat} (hx:x<t.length) (hfx:f x=true) {y:Nat} (hy:kerF t y=true):f y=true:=by
  have ha:=allP_lt h.toSh h.pos _ (Nat.le_refl t.length)
  exact id_has h hf ha (all_in h.toSh hf hx hfx _ hx (Nat.le_refl _)) ((prF_iff h ha).1 hy)
end Go.Proofs.YtjabhmhhhlcopaaGreatDoor
end
section
namespace Go.Proofs.YtjabhmhhhlcopaaGreatDoor
open Go Go.AM
def posTo (l:List Int):Nat→Nat→Int|0,_=> -1|k+1,x=>if l.getD k 0=(x:Int) then (k:Int) else posTo l k x
theorem posTo_rng (l:List Int):∀k x, -1≤posTo l k x∧posTo l k x<k
  |0,_=>by simp [posTo]
  |k+1,x=>by have:=posTo_rng l k x;simp only [posTo];split<;>omega
theorem posTo_in {l:List Int} {x:Nat}:∀{k:Nat},(∃j,j<k∧l.getD j 0=(x:Int))→0≤posTo l k x∧l.getD (posTo l k x).toNat 0=(x:Int)
  |0,⟨j,hj,_⟩=>absurd hj (Nat.not_lt_zero _)
  |k+1,⟨j,hj,he⟩=>by
   simp only [posTo]
   by_cases e:l.getD k 0=(x:Int)
   · rw [if_pos e,Int.toNat_natCast];exact ⟨by omega,e⟩
   · rw [if_neg e]
     refine posTo_in ⟨j,?_,he⟩
     rcases Nat.lt_or_ge j k with h|h
     · exact h
     · exact absurd (show l.getD k 0=(x:Int) by rw [show k=j by omega];exact he) e
theorem asc_inj {l:List Int} (h:Asc l) {i j:Nat} (hi:i<l.length) (hj:j<l.length) (he:l.getD i 0=l.getD j 0):i=j:=by
  have hp:=List.pairwise_iff_getElem.1 (pairwise_adj h)
  rw [getD_eq hi,getD_eq hj] at he
  rcases Nat.lt_trichotomy i j with h1|h1|h1
  · have:=hp i j hi hj h1;omega
  · exact h1
  · have:=hp j i hj hi h1;omega
structure ClL (t:List (List Int)) (l:List Int):Prop where
  pos:0<l.length
  asc:Asc l
  ins:inT t l
  cl:∀x y,x<t.length→y<t.length→setI l x=true→setI l y=true→setI l (en t x y)=true
def eL (l:List Int) (i:Nat):Nat:=(l.getD i 0).toNat
theorem ClL.el {t:List (List Int)} {l:List Int} (h:ClL t l) {i:Nat} (hi:i<l.length):eL l i<t.length∧l.getD i 0=(eL l i:Int)∧setI l (eL l i)=true:=by
  have hm:=getD_mem (d:=0) hi
  have hr:=h.ins _ hm
  unfold eL
  exact ⟨by omega,by omega,setI_iff.2 (by rw [Int.toNat_of_nonneg hr.1];exact hm)⟩
def pL (l:List Int) (x:Nat):Nat:=(posTo l l.length x).toNat
theorem pL_in {l:List Int} {x:Nat} (h:setI l x=true):posTo l l.length x=(pL l x:Int)∧pL l x<l.length∧eL l (pL l x)=x:=by
  obtain ⟨j,hj,he⟩:=mem_getD 0 (setI_iff.1 h)
  have h1:=posTo_in (l:=l) (x:=x) ⟨j,hj,he.symm▸rfl⟩
  have h2:=posTo_rng l l.length x
  unfold pL eL
  refine ⟨by omega,by omega,?_⟩
  rw [h1.2,Int.toNat_natCast]
theorem eL_inj {t:List (List Int)} {l:List Int} (h:ClL t l) {i j:Nat} (hi:i<l.length) (hj:j<l.length) (he:eL l i=eL l j):i=j:=
  asc_inj h.asc hi hj (by rw [(h.el hi).2.1,(h.el hj).2.1,he])
def subV (t:List (List Int)) (l:List Int) (i j:Nat):Int:=posTo l l.length (en t (eL l i) (eL l j))
def subT (t:List (List Int)) (l:List Int):List (List Int):=(List.range l.length).map fun i=>(List.range l.length).map fun j=>subV t l i j
theorem subT_len (t:List (List Int)) (l:List Int):(subT t l).length=l.length:=by simp [subT]
theorem subT_row {t:List (List Int)} {l:List Int} {i:Nat} (hi:i<l.length):(subT t l).getD i []=(List.range l.length).map fun j=>subV t l i j:=map_range_getD _ _ _ _ hi
theorem sub_in {t:List (List Int)} {l:List Int} (h:ClL t l) {i j:Nat} (hi:i<l.length) (hj:j<l.length):setI l (en t (eL l i) (eL l j))=true:=h.cl _ _ (h.el hi).1 (h.el hj).1 (h.el hi).2.2 (h.el hj).2.2
theorem sub_en {t:List (List Int)} {l:List Int} (h:ClL t l) {i j:Nat} (hi:i<l.length) (hj:j<l.length):en (subT t l) i j=pL l (en t (eL l i) (eL l j))∧en (subT t l) i j<l.length∧eL l (en (subT t l) i j)=en t (eL l i) (eL l j):=by
  have hp:=pL_in (sub_in h hi hj)
  have e:en (subT t l) i j=pL l (en t (eL l i) (eL l j)):=by
    unfold en;rw [subT_row hi,map_range_getD _ _ _ _ hj];rfl
  rw [e];exact ⟨rfl,hp.2⟩
theorem sub_semi {t:List (List Int)} (ht:Semi t) {l:List Int} (h:ClL t l) (hl:l.length≤t.length):Semi (subT t l) where
  pos:=by rw [subT_len];exact h.pos
  most:=by rw [subT_len];have:=ht.most;omega
  row:=fun r hr=>by
    obtain ⟨i,hi,rfl⟩:=mem_getD [] hr
    rw [subT_len] at hi ⊢
    rw [subT_row hi]
    refine ⟨by simp,fun x hx=>?_⟩
    obtain ⟨k,hk,rfl⟩:=List.mem_map.1 hx
    have:=pL_in (sub_in h hi (List.mem_range.1 hk))
    unfold subV;omega
  assoc:=fun g hg x y hx hy=>by
    rw [subT_len] at hg hx hy
    have a:=sub_en h hx hg
    have b:=sub_en h hg hy
    have c:=sub_en h a.2.1 hy
    have d:=sub_en h hx b.2.1
    refine eL_inj h c.2.1 d.2.1 ?_
    rw [c.2.2,d.2.2,a.2.2,b.2.2]
    exact assoc3 ht.assoc (h.el hx).1 (h.el hg).1 (h.el hy).1
end Go.Proofs.YtjabhmhhhlcopaaGreatDoor
end
section
namespace Go.Proofs.YtjabhmhhhlcopaaGreatDoor
open Go Go.AM
theorem ker_L {t:List (List Int)} (h:Semi t) {x y:Nat} (hx:x<t.length) (kx:kerF t x=true) (hxy:inLB t x y=true):kerF t y=true:=by
  rcases (inLB_iff h.toSh hx).1 hxy with e|⟨s,hs,e⟩
  · rw [e];exact kx
  · rw [←e];exact (ker_F h x s hx hs kx).2
theorem ker_R {t:List (List Int)} (h:Semi t) {x y:Nat} (hx:x<t.length) (kx:kerF t x=true) (hxy:inRB t x y=true):kerF t y=true:=by
  rcases (inRB_iff h.toSh hx).1 hxy with e|⟨s,hs,e⟩
  · rw [e];exact kx
  · rw [←e];exact (ker_F h x s hx hs kx).1
end Go.Proofs.YtjabhmhhhlcopaaGreatDoor
end
section
namespace Go.Proofs.YtjabhmhhhlcopaaGreatDoor
open Go Go.AM
section
variable (t:List (List Int)) (j e:Nat)
abbrev jcl (x:Nat):Int:=(classJ t).getD x 0
end
theorem elemsJ_asc {t:List (List Int)} {j:Nat} (hj:j<numJ t):elemsJ t j=ascV t.length fun x=>decide (jcl t x=(j:Int)):=by
  rw [elemsJ_eq hj];unfold ascV memV memTo;rw [setB_len]
  congr 1
  refine List.filter_congr fun x hx=>?_
  rw [setB_get (List.mem_range.1 hx)]
theorem ascV_filter (n:Nat) (f g:Nat→Bool):(ascV n f).filter (fun x=>g x.toNat)=ascV n fun x=>f x&&g x:=by
  unfold ascV memV memTo
  rw [setB_len,setB_len,List.filter_map,List.filter_filter]
  congr 1
  refine List.filter_congr fun x hx=>?_
  have hx:=List.mem_range.1 hx
  rw [setB_get hx,setB_get hx]
  simp only [Function.comp,Int.toNat_natCast]
  rw [Bool.and_comm]
structure Coo (t:List (List Int)) (j e:Nat):Prop where
  semi:Semi t
  hj:j<numJ t
  he:e<t.length
  ee:en t e e=e
  ej:jcl t e=j
namespace Coo
end Coo
end Go.Proofs.YtjabhmhhhlcopaaGreatDoor
end
section
namespace Go.Proofs.YtjabhmhhhlcopaaGreatDoor
open Go Go.AM
attribute [local instance] Classical.propDecidable
end Go.Proofs.YtjabhmhhhlcopaaGreatDoor
end
