import Derived.Test.YtjabhmhhhlcopaaGreatDoorOrd
import Derived.Test.YtjabhmhhhlcopaaGreatDoorBits
section
namespace Go.Proofs.YtjabhmhhhlcopaaGreatDoor
open Go Go.AM
open Classical
theorem pairwise_adj {l:List Int} (h:Asc l):l.Pairwise (· <·):=by
  rw [List.pairwise_iff_getElem]
  have key:∀d i,i+d+1<l.length→l.getD i 0<l.getD (i+d+1) 0:=by
    intro d
    induction d with
    |zero=>intro i hi;exact h i hi
    |succ d ih=>intro i hi;have h1:=ih i (by omega);have h2:=h (i+d+1) (by omega);rw [show i+(d+1)+1=i+d+1+1 by omega];omega
  intro i j hi hj hij
  have:=key (j - i - 1) i (by omega)
  rw [show i+(j - i - 1)+1=j by omega,getD_eq hi,getD_eq hj] at this
  exact this
theorem asc_of {l:List Int} (h:l.Pairwise (· <·)):Asc l:=fun i hi=>by
  rw [getD_eq (by omega),getD_eq hi]
  exact List.pairwise_iff_getElem.1 h i (i+1) (by omega) hi (by omega)
theorem asc_ext {l m:List Int} (hl:Asc l) (hm:Asc m) (h:∀x,x∈l↔x∈m):l=m:=by
  have c:∀a b:Int,cmpI a b<0↔a<b:=fun a b=>by unfold cmpI;split<;>(try split)<;>omega
  exact sorted_uniq cmpI_tot ((pairwise_adj hl).imp fun hab=>(c _ _).2 hab) ((pairwise_adj hm).imp fun hab=>(c _ _).2 hab) h
theorem ascV_asc (n:Nat) (f:Nat→Bool):Asc (ascV n f):=by
  refine asc_of ?_
  unfold ascV memV memTo
  rw [List.pairwise_map]
  refine List.Pairwise.imp ?_ (List.Pairwise.sublist List.filter_sublist List.pairwise_lt_range)
  intro a b h;exact_mod_cast h
theorem ascV_in {n:Nat} {f:Nat→Bool} {x:Int} (h:x∈ascV n f):0≤x∧x<(n:Int):=by
  obtain ⟨i,h1,_,rfl⟩:=ascV_mem.1 h;omega
def prF (t:List (List Int)) (x:Nat):Nat→Bool:=twoF t (setI [(x:Int)])
theorem prF_iff {t:List (List Int)} (h:Semi t) {x y:Nat} (hx:x<t.length):prF t x y=true↔inJB t x y=true:=by
  unfold prF
  rw [twoF_iff h]
  constructor
  · rintro ⟨z,_,h1,h2⟩
    have h1:=setI_iff.1 h1
    rw [List.mem_singleton] at h1
    have:z=x:=by omega
    rw [←this];exact h2
  · intro h1;exact ⟨x,hx,setI_iff.2 (by simp),h1⟩
theorem inJ_mul {t:List (List Int)} (h:Semi t) {x y s:Nat} (hx:x<t.length) (hs:s<t.length) (hy:inJB t x y=true):inJB t x (en t y s)=true∧inJB t x (en t s y)=true:=by
  have hy':=inJ_lt h.toSh hx hy
  have p:=preJ h
  refine ⟨p.trans _ _ _ hx hy' (h.toSh.ent hy' hs).2 hy ?_,p.trans _ _ _ hx hy' (h.toSh.ent hs hy').2 hy ?_⟩
  · exact (inJB_iff h.toSh hy').2 ⟨y,hy',(inLB_iff h.toSh hy').2 (.inl rfl),(inRB_iff h.toSh hy').2 (.inr ⟨s,hs,rfl⟩)⟩
  · exact (inJB_iff h.toSh hy').2 ⟨en t s y,(h.toSh.ent hs hy').2,(inLB_iff h.toSh hy').2 (.inr ⟨s,hs,rfl⟩),(inRB_iff h.toSh (h.toSh.ent hs hy').2).2 (.inl rfl)⟩
theorem prF_id {t:List (List Int)} (h:Semi t) {x:Nat} (hx:x<t.length):IdF t (prF t x):=fun y s _ hs hf=>by
  rw [prF_iff h hx] at hf ⊢
  rw [prF_iff h hx]
  exact inJ_mul h hx hs hf
theorem prF_self {t:List (List Int)} (h:Semi t) {x:Nat} (hx:x<t.length):prF t x x=true:=(prF_iff h hx).2 ((preJ h).refl _ hx)
theorem id_has {t:List (List Int)} (h:Semi t) {f:Nat→Bool} (hf:IdF t f) {x y:Nat} (hx:x<t.length) (hfx:f x=true) (hy:inJB t x y=true):f y=true:=by
  obtain ⟨z,hz,h1,h2⟩:=(inJB_iff h.toSh hx).1 hy
  have hz':f z=true:=by
    rcases (inLB_iff h.toSh hx).1 h1 with rfl|⟨s,hs,rfl⟩
    · exact hfx
    · exact (hf x s hx hs hfx).2
  rcases (inRB_iff h.toSh hz).1 h2 with rfl|⟨s,hs,rfl⟩
  · exact hz'
  · exact (hf z s hz hs hz').1
end Go.Proofs.YtjabhmhhhlcopaaGreatDoor
end
section
namespace Go.Proofs.YtjabhmhhhlcopaaGreatDoor
open Go Go.AM
theorem ker_F {t:List (List Int)} (h:Semi t):IdF t (kerF t):=prF_id h (allP_lt h.toSh h.pos _ (Nat.le_refl _))
theorem ker_has {t:List (List Int)} (h:Semi t):kerF t (allP t t.length)=true:=prF_self h (allP_lt h.toSh h.pos _ (Nat.le_refl _))
theorem all_in {t:List (List Int)} (h:Sh t) {f:Nat→Bool} (hf:IdF t f) {x:Nat} (hx:x<t.length) (hfx:f x=true):∀k,x<k→k≤t.length→f (allP t k)=true
  |0,h1,_=>absurd h1 (Nat.not_lt_zero _)
  |k+1,h1,h2=>by
   have hp:=allP_lt h h.pos k (by omega)
   by_cases e:x=k
   · subst e;exact (hf x (allP t x) hx hp hfx).2
   · exact (hf (allP t k) k hp (by omega) (all_in h hf hx hfx k (by omega) (by omega))).1
theorem ker_min {t:List (List Int)} (h:Semi t) {f:Nat→Bool} (hf:IdF t f) {x:Nat} (hx:x<t.length) (hfx:f x=true) {y:Nat} (hy:kerF t y=true):f y=true:=by
  have ha:=allP_lt h.toSh h.pos _ (Nat.le_refl t.length)
  exact id_has h hf ha (all_in h.toSh hf hx hfx _ hx (Nat.le_refl _)) ((prF_iff h ha).1 hy)
end Go.Proofs.YtjabhmhhhlcopaaGreatDoor
end
section
namespace Go.Proofs.YtjabhmhhhlcopaaGreatDoor
open Go Go.AM
def posTo (l:List Int):Nat→Nat→Int|0,_=> -1|k+1,x=>if l.getD k 0=(x:Int) then (k:Int) else posTo l k x
theorem posTo_rng (l:List Int):∀k x, -1≤posTo l k x∧posTo l k x<k
  |0,_=>by simp [posTo]
  |k+1,x=>by have:=posTo_rng l k x;simp only [posTo];split<;>omega
theorem posTo_in {l:List Int} {x:Nat}:∀{k:Nat},(∃j,j<k∧l.getD j 0=(x:Int))→0≤posTo l k x∧l.getD (posTo l k x).toNat 0=(x:Int)
  |0,⟨j,hj,_⟩=>absurd hj (Nat.not_lt_zero _)
  |k+1,⟨j,hj,he⟩=>by
   simp only [posTo]
   by_cases e:l.getD k 0=(x:Int)
   · rw [if_pos e,Int.toNat_natCast];exact ⟨by omega,e⟩
   · rw [if_neg e]
     refine posTo_in ⟨j,?_,he⟩
     rcases Nat.lt_or_ge j k with h|h
     · exact h
     · exact absurd (show l.getD k 0=(x:Int) by rw [show k=j by omega];exact he) e
theorem asc_inj {l:List Int} (h:Asc l) {i j:Nat} (hi:i<l.length) (hj:j<l.length) (he:l.getD i 0=l.getD j 0):i=j:=by
  have hp:=List.pairwise_iff_getElem.1 (pairwise_adj h)
  rw [getD_eq hi,getD_eq hj] at he
  rcases Nat.lt_trichotomy i j with h1|h1|h1
  · have:=hp i j hi hj h1;omega
  · exact h1
  · have:=hp j i hj hi h1;omega
structure ClL (t:List (List Int)) (l:List Int):Prop where
  pos:0<l.length
  asc:Asc l
  ins:inT t l
  cl:∀x y,x<t.length→y<t.length→setI l x=true→setI l y=true→setI l (en t x y)=true
def eL (l:List Int) (i:Nat):Nat:=(l.getD i 0).toNat
theorem ClL.el {t:List (List Int)} {l:List Int} (h:ClL t l) {i:Nat} (hi:i<l.length):eL l i<t.length∧l.getD i 0=(eL l i:Int)∧setI l (eL l i)=true:=by
  have hm:=getD_mem (d:=0) hi
  have hr:=h.ins _ hm
  unfold eL
  exact ⟨by omega,by omega,setI_iff.2 (by rw [Int.toNat_of_nonneg hr.1];exact hm)⟩
def pL (l:List Int) (x:Nat):Nat:=(posTo l l.length x).toNat
theorem pL_in {l:List Int} {x:Nat} (h:setI l x=true):posTo l l.length x=(pL l x:Int)∧pL l x<l.length∧eL l (pL l x)=x:=by
  obtain ⟨j,hj,he⟩:=mem_getD 0 (setI_iff.1 h)
  have h1:=posTo_in (l:=l) (x:=x) ⟨j,hj,he.symm▸rfl⟩
  have h2:=posTo_rng l l.length x
  unfold pL eL
  refine ⟨by omega,by omega,?_⟩
  rw [h1.2,Int.toNat_natCast]
theorem eL_inj {t:List (List Int)} {l:List Int} (h:ClL t l) {i j:Nat} (hi:i<l.length) (hj:j<l.length) (he:eL l i=eL l j):i=j:=
  asc_inj h.asc hi hj (by rw [(h.el hi).2.1,(h.el hj).2.1,he])
theorem pL_el {t:List (List Int)} {l:List Int} (h:ClL t l) {i:Nat} (hi:i<l.length):pL l (eL l i)=i:=by
  have:=pL_in (h.el hi).2.2
  exact eL_inj h this.2.1 hi this.2.2
def subV (t:List (List Int)) (l:List Int) (i j:Nat):Int:=posTo l l.length (en t (eL l i) (eL l j))
def subT (t:List (List Int)) (l:List Int):List (List Int):=(List.range l.length).map fun i=>(List.range l.length).map fun j=>subV t l i j
theorem subT_len (t:List (List Int)) (l:List Int):(subT t l).length=l.length:=by simp [subT]
theorem subT_row {t:List (List Int)} {l:List Int} {i:Nat} (hi:i<l.length):(subT t l).getD i []=(List.range l.length).map fun j=>subV t l i j:=map_range_getD _ _ _ _ hi
theorem sub_in {t:List (List Int)} {l:List Int} (h:ClL t l) {i j:Nat} (hi:i<l.length) (hj:j<l.length):setI l (en t (eL l i) (eL l j))=true:=h.cl _ _ (h.el hi).1 (h.el hj).1 (h.el hi).2.2 (h.el hj).2.2
theorem sub_en {t:List (List Int)} {l:List Int} (h:ClL t l) {i j:Nat} (hi:i<l.length) (hj:j<l.length):en (subT t l) i j=pL l (en t (eL l i) (eL l j))∧en (subT t l) i j<l.length∧eL l (en (subT t l) i j)=en t (eL l i) (eL l j):=by
  have hp:=pL_in (sub_in h hi hj)
  have e:en (subT t l) i j=pL l (en t (eL l i) (eL l j)):=by
    unfold en;rw [subT_row hi,map_range_getD _ _ _ _ hj];rfl
  rw [e];exact ⟨rfl,hp.2⟩
theorem sub_semi {t:List (List Int)} (ht:Semi t) {l:List Int} (h:ClL t l) (hl:l.length≤t.length):Semi (subT t l) where
  pos:=by rw [subT_len];exact h.pos
  most:=by rw [subT_len];have:=ht.most;omega
  row:=fun r hr=>by
    obtain ⟨i,hi,rfl⟩:=mem_getD [] hr
    rw [subT_len] at hi ⊢
    rw [subT_row hi]
    refine ⟨by simp,fun x hx=>?_⟩
    obtain ⟨k,hk,rfl⟩:=List.mem_map.1 hx
    have:=pL_in (sub_in h hi (List.mem_range.1 hk))
    unfold subV;omega
  assoc:=fun g hg x y hx hy=>by
    rw [subT_len] at hg hx hy
    have a:=sub_en h hx hg
    have b:=sub_en h hg hy
    have c:=sub_en h a.2.1 hy
    have d:=sub_en h hx b.2.1
    refine eL_inj h c.2.1 d.2.1 ?_
    rw [c.2.2,d.2.2,a.2.2,b.2.2]
    exact assoc3 ht.assoc (h.el hx).1 (h.el hg).1 (h.el hy).1
end Go.Proofs.YtjabhmhhhlcopaaGreatDoor
end
section
namespace Go.Proofs.YtjabhmhhhlcopaaGreatDoor
open Go Go.AM
def elS (n:Nat) (f:Nat→Bool):List Nat:=(List.range n).filter f
theorem elS_mem {n:Nat} {f:Nat→Bool} {x:Nat}:x∈elS n f↔x<n∧f x=true:=by unfold elS;rw [List.mem_filter,List.mem_range]
theorem elS_nodup (n:Nat) (f:Nat→Bool):(elS n f).Nodup:=List.nodup_range.filter _
theorem card_le {n:Nat} {f g:Nat→Bool} (h:∀x,x<n→f x=true→g x=true):(elS n f).length≤(elS n g).length:=
  (elS_nodup n f).length_le_of_subset fun x hx=>elS_mem.2 ⟨(elS_mem.1 hx).1,h x (elS_mem.1 hx).1 (elS_mem.1 hx).2⟩
theorem card_map {n:Nat} {f g:Nat→Bool} (φ:Nat→Nat) (h:∀x,x<n→f x=true→∃y,y<n∧g y=true∧x=φ y):(elS n f).length≤(elS n g).length:=by
  have:=(elS_nodup n f).length_le_of_subset (l₂:=(elS n g).map φ) fun x hx=>by
    obtain ⟨y,h1,h2,h3⟩:=h x (elS_mem.1 hx).1 (elS_mem.1 hx).2
    exact List.mem_map.2 ⟨y,elS_mem.2 ⟨h1,h2⟩,h3.symm⟩
  rwa [List.length_map] at this
theorem sub_all {α:Type} [DecidableEq α] {A B:List α} (hA:A.Nodup) (h:∀x∈A,x∈B) (hl:B.length≤A.length):∀x∈B,x∈A:=fun x hx=>by
  rcases Decidable.em (x∈A) with e|e
  · exact e
  · have:(x::A).length≤B.length:=(List.nodup_cons.2 ⟨e,hA⟩).length_le_of_subset fun y hy=>by
      rcases List.mem_cons.1 hy with rfl|hy
      · exact hx
      · exact h y hy
    simp at this;omega
theorem card_eq {n:Nat} {f g:Nat→Bool} (h:∀x,x<n→f x=true→g x=true) (hl:(elS n g).length≤(elS n f).length) {x:Nat} (hx:x<n) (hg:g x=true):f x=true:=
  (elS_mem.1 (sub_all (elS_nodup n f) (fun x hx=>elS_mem.2 ⟨(elS_mem.1 hx).1,h x (elS_mem.1 hx).1 (elS_mem.1 hx).2⟩) hl x (elS_mem.2 ⟨hx,hg⟩))).2
theorem onto {n:Nat} {f:Nat→Bool} (φ:Nat→Nat) (hm:∀x,x<n→f x=true→φ x<n∧f (φ x)=true) (hi:∀x y,x<n→y<n→f x=true→f y=true→φ x=φ y→x=y) {y:Nat} (hy:y<n) (hf:f y=true):∃x,x<n∧f x=true∧φ x=y:=by
  have hn:((elS n f).map φ).Nodup:=by
    refine List.pairwise_map.2 ((elS_nodup n f).imp_of_mem fun {a b} ha hb hab e=>hab ?_)
    have ha:=elS_mem.1 ha
    have hb:=elS_mem.1 hb
    exact hi a b ha.1 hb.1 ha.2 hb.2 e
  have:=sub_all hn (B:=elS n f) (fun x hx=>by
    obtain ⟨y,h1,rfl⟩:=List.mem_map.1 hx
    have h1:=elS_mem.1 h1
    exact elS_mem.2 (hm y h1.1 h1.2)) (by rw [List.length_map];exact Nat.le_refl _) y (elS_mem.2 ⟨hy,hf⟩)
  obtain ⟨x,h1,h2⟩:=List.mem_map.1 this
  exact ⟨x,(elS_mem.1 h1).1,(elS_mem.1 h1).2,h2⟩
theorem stabL {t:List (List Int)} (h:Semi t) {x y:Nat} (hx:x<t.length) (kx:kerF t x=true) (hxy:inLB t x y=true):inLB t y x=true:=by
  have hy:=inL_lt h.toSh hx hxy
  have ha:=allP_lt h.toSh h.pos _ (Nat.le_refl t.length)
  have hj:inJB t y x=true:=(prF_iff h hy).1 (ker_min h (prF_id h hy) hy (prF_self h hy) kx)
  obtain ⟨z,hz,h1,h2⟩:=(inJB_iff h.toSh hy).1 hj
  rcases (inRB_iff h.toSh hz).1 h2 with e|⟨b,hb,e⟩
  · rw [e];exact h1
  · have l1:(elS t.length (inLB t x)).length≤(elS t.length (inLB t z)).length:=card_map (fun w=>en t w b) fun w hw hxw=>by
      rcases (inLB_iff h.toSh hx).1 hxw with e2|⟨s,hs,e2⟩
      · exact ⟨z,hz,(preL h).refl z hz,by rw [e2,e]⟩
      · exact ⟨en t s z,(h.toSh.ent hs hz).2,(inLB_iff h.toSh hz).2 (.inr ⟨s,hs,rfl⟩),by rw [←e2,←e,assoc3 h.assoc hs hz hb]⟩
    have l2:(elS t.length (inLB t z)).length≤(elS t.length (inLB t y)).length:=card_le fun w hw hzw=>(preL h).trans _ _ _ hy hz hw h1 hzw
    exact card_eq (f:=inLB t y) (g:=inLB t x) (fun w hw hyw=>(preL h).trans _ _ _ hx hy hw hxy hyw) (Nat.le_trans l1 l2) hx ((preL h).refl x hx)
theorem stabR {t:List (List Int)} (h:Semi t) {x y:Nat} (hx:x<t.length) (kx:kerF t x=true) (hxy:inRB t x y=true):inRB t y x=true:=by
  have hy:=inR_lt h.toSh hx hxy
  have hj:inJB t y x=true:=(prF_iff h hy).1 (ker_min h (prF_id h hy) hy (prF_self h hy) kx)
  obtain ⟨z0,hz0,h10,h20⟩:=(inJB_iff h.toSh hy).1 hj
  obtain ⟨z,hz,h1,h2⟩:=swap2 h hy h10 h20
  rcases (inLB_iff h.toSh hz).1 h2 with e|⟨b,hb,e⟩
  · rw [e];exact h1
  · have l1:(elS t.length (inRB t x)).length≤(elS t.length (inRB t z)).length:=card_map (fun w=>en t b w) fun w hw hxw=>by
      rcases (inRB_iff h.toSh hx).1 hxw with e2|⟨s,hs,e2⟩
      · exact ⟨z,hz,(preR h).refl z hz,by rw [e2,e]⟩
      · exact ⟨en t z s,(h.toSh.ent hz hs).2,(inRB_iff h.toSh hz).2 (.inr ⟨s,hs,rfl⟩),by rw [←e2,←e,assoc3 h.assoc hb hz hs]⟩
    have l2:(elS t.length (inRB t z)).length≤(elS t.length (inRB t y)).length:=card_le fun w hw hzw=>(preR h).trans _ _ _ hy hz hw h1 hzw
    exact card_eq (f:=inRB t y) (g:=inRB t x) (fun w hw hyw=>(preR h).trans _ _ _ hx hy hw hxy hyw) (Nat.le_trans l1 l2) hx ((preR h).refl x hx)
def metF (t:List (List Int)) (a b:Nat) (x:Nat):Bool:=inLB t a x&&inRB t b x
theorem ker_L {t:List (List Int)} (h:Semi t) {x y:Nat} (hx:x<t.length) (kx:kerF t x=true) (hxy:inLB t x y=true):kerF t y=true:=by
  rcases (inLB_iff h.toSh hx).1 hxy with e|⟨s,hs,e⟩
  · rw [e];exact kx
  · rw [←e];exact (ker_F h x s hx hs kx).2
theorem ker_R {t:List (List Int)} (h:Semi t) {x y:Nat} (hx:x<t.length) (kx:kerF t x=true) (hxy:inRB t x y=true):kerF t y=true:=by
  rcases (inRB_iff h.toSh hx).1 hxy with e|⟨s,hs,e⟩
  · rw [e];exact kx
  · rw [←e];exact (ker_F h x s hx hs kx).1
structure MetG (t:List (List Int)) (a b:Nat):Prop where
  semi:Semi t
  ha:a<t.length
  hb:b<t.length
  ka:kerF t a=true
  kb:kerF t b=true
theorem met_iff {t:List (List Int)} {a b x:Nat}:metF t a b x=true↔inLB t a x=true∧inRB t b x=true:=by unfold metF;exact Bool.and_eq_true_iff
theorem MetG.some {t:List (List Int)} {a b:Nat} (m:MetG t a b):en t b a<t.length∧metF t a b (en t b a)=true:=
  ⟨(m.semi.toSh.ent m.hb m.ha).2,met_iff.2 ⟨(inLB_iff m.semi.toSh m.ha).2 (.inr ⟨b,m.hb,rfl⟩),(inRB_iff m.semi.toSh m.hb).2 (.inr ⟨a,m.ha,rfl⟩)⟩⟩
theorem MetG.mul {t:List (List Int)} {a b x y:Nat} (m:MetG t a b) (hx:x<t.length) (hy:y<t.length) (mx:metF t a b x=true) (my:metF t a b y=true):metF t a b (en t x y)=true:=by
  have mx:=met_iff.1 mx
  have my:=met_iff.1 my
  have hz:=(m.semi.toSh.ent hx hy).2
  exact met_iff.2 ⟨(preL m.semi).trans _ _ _ m.ha hy hz my.1 ((inLB_iff m.semi.toSh hy).2 (.inr ⟨x,hx,rfl⟩)),(preR m.semi).trans _ _ _ m.hb hx hz mx.2 ((inRB_iff m.semi.toSh hx).2 (.inr ⟨y,hy,rfl⟩))⟩
theorem MetG.left {t:List (List Int)} {a b x y:Nat} (m:MetG t a b) (hx:x<t.length) (hy:y<t.length) (mx:metF t a b x=true) (my:metF t a b y=true):inLB t x y=true:=
  (preL m.semi).trans _ _ _ hx m.ha hy (stabL m.semi m.ha m.ka (met_iff.1 mx).1) (met_iff.1 my).1
theorem MetG.right {t:List (List Int)} {a b x y:Nat} (m:MetG t a b) (hx:x<t.length) (hy:y<t.length) (mx:metF t a b x=true) (my:metF t a b y=true):inRB t x y=true:=
  (preR m.semi).trans _ _ _ hx m.hb hy (stabR m.semi m.hb m.kb (met_iff.1 mx).2) (met_iff.1 my).2
theorem MetG.injL {t:List (List Int)} {a b x:Nat} (m:MetG t a b) (hx:x<t.length) (mx:metF t a b x=true):∀z w,z<t.length→w<t.length→metF t a b z=true→metF t a b w=true→en t x z=en t x w→z=w:=fun z w hz hw mz mw e=>by
  have hs:=m.semi.assoc
  have hxz:=(m.semi.toSh.ent hx hz).2
  have i1:=m.left hxz hz (m.mul hx hz mx mz) mz
  have i2:=m.right hz hw mz mw
  rcases (inRB_iff m.semi.toSh hz).1 i2 with e2|⟨v,hv,e2⟩
  · exact e2.symm
  · rcases (inLB_iff m.semi.toSh hxz).1 i1 with e1|⟨s,hs1,e1⟩
    · have:en t x w=w:=by rw [←e2,←assoc3 hs hx hz hv,←e1]
      rw [e1,e,this]
    · have:en t s (en t x w)=w:=by rw [←e2,←assoc3 hs hx hz hv,←assoc3 hs hs1 hxz hv,e1]
      rw [←e1,e,this]
theorem MetG.injR {t:List (List Int)} {a b x:Nat} (m:MetG t a b) (hx:x<t.length) (mx:metF t a b x=true):∀z w,z<t.length→w<t.length→metF t a b z=true→metF t a b w=true→en t z x=en t w x→z=w:=fun z w hz hw mz mw e=>by
  have hs:=m.semi.assoc
  have hzx:=(m.semi.toSh.ent hz hx).2
  have i1:=m.right hzx hz (m.mul hz hx mz mx) mz
  have i2:=m.left hz hw mz mw
  rcases (inLB_iff m.semi.toSh hz).1 i2 with e2|⟨v,hv,e2⟩
  · exact e2.symm
  · rcases (inRB_iff m.semi.toSh hzx).1 i1 with e1|⟨s,hs1,e1⟩
    · have:en t w x=w:=by rw [←e2,assoc3 hs hv hz hx,←e1]
      rw [e1,e,this]
    · have:en t (en t w x) s=w:=by rw [←e2,assoc3 hs hv hz hx,assoc3 hs hv hzx hs1,e1]
      rw [←e1,e,this]
theorem MetG.grp {t:List (List Int)} {a b:Nat} (m:MetG t a b):∃e,e<t.length∧metF t a b e=true∧(∀x,x<t.length→metF t a b x=true→en t e x=x∧en t x e=x)∧∀x,x<t.length→metF t a b x=true→∃y,y<t.length∧metF t a b y=true∧en t x y=e∧en t y x=e:=by
  have hs:=m.semi.assoc
  have oL:∀x,x<t.length→metF t a b x=true→∀y,y<t.length→metF t a b y=true→∃z,z<t.length∧metF t a b z=true∧en t x z=y:=fun x hx mx y hy my=>
    onto (en t x) (fun z hz mz=>⟨(m.semi.toSh.ent hx hz).2,m.mul hx hz mx mz⟩) (fun z w hz hw mz mw=>m.injL hx mx z w hz hw mz mw) hy my
  have oR:∀x,x<t.length→metF t a b x=true→∀y,y<t.length→metF t a b y=true→∃z,z<t.length∧metF t a b z=true∧en t z x=y:=fun x hx mx y hy my=>
    onto (fun z=>en t z x) (fun z hz mz=>⟨(m.semi.toSh.ent hz hx).2,m.mul hz hx mz mx⟩) (fun z w hz hw mz mw=>m.injR hx mx z w hz hw mz mw) hy my
  obtain ⟨hc,mc⟩:=m.some
  obtain ⟨e,he,me,h1⟩:=oL _ hc mc _ hc mc
  obtain ⟨f,hf,mf,h2⟩:=oR _ hc mc _ hc mc
  have hre:∀x,x<t.length→metF t a b x=true→en t x e=x:=fun x hx mx=>by
    obtain ⟨z,hz,mz,h3⟩:=oR _ hc mc x hx mx
    rw [←h3,assoc3 hs hz hc he,h1]
  have hlf:∀x,x<t.length→metF t a b x=true→en t f x=x:=fun x hx mx=>by
    obtain ⟨z,hz,mz,h3⟩:=oL _ hc mc x hx mx
    rw [←h3,←assoc3 hs hf hc hz,h2]
  have hef:f=e:=by rw [←hre f hf mf,hlf e he me]
  subst hef
  refine ⟨f,hf,mf,fun x hx mx=>⟨hlf x hx mx,hre x hx mx⟩,fun x hx mx=>?_⟩
  obtain ⟨y,hy,my,h3⟩:=oL x hx mx f hf mf
  obtain ⟨z,hz,mz,h4⟩:=oR x hx mx f hf mf
  have hyz:y=z:=by
    have h5:=assoc3 hs hz hx hy
    rw [h4,h3,hlf y hy my,hre z hz mz] at h5
    exact h5
  exact ⟨y,hy,my,h3,by rw [hyz];exact h4⟩
end Go.Proofs.YtjabhmhhhlcopaaGreatDoor
end
section
namespace Go.Proofs.YtjabhmhhhlcopaaGreatDoor
open Go Go.AM
section
variable {S:Type} (m:S→S→S)
def LlA (y x:S):Prop:=x=y∨∃s,m s y=x
def RrA (y x:S):Prop:=x=y∨∃s,m y s=x
structure Idm (e:S):Prop where
  ac:∀x y z,m (m x y) z=m x (m y z)
  ee:m e e=e
  sL:∀x y,LlA m x y→(∃a b,m (m a y) b=x)→LlA m y x
  sR:∀x y,RrA m x y→(∃a b,m (m a y) b=x)→RrA m y x
structure InL (e x:S):Prop where
  r:m x e=x
  l:∃s,m s x=e
structure InR (e x:S):Prop where
  l:m e x=x
  r:∃s,m x s=e
structure InH (e g:S):Prop where
  l:m e g=g
  r:m g e=g
  il:∃s,m s g=e
  ir:∃s,m g s=e
def Up (e x:S):Prop:=∃a b,m (m a x) b=e
variable {m} {e:S} (I:Idm m e)
include I
theorem Idm.hmul {g h:S} (hg:InH m e g) (hh:InH m e h):InH m e (m g h):=by
  obtain ⟨a,ha⟩:=hg.il
  obtain ⟨b,hb⟩:=hg.ir
  obtain ⟨c,hc⟩:=hh.il
  obtain ⟨d,hd⟩:=hh.ir
  refine ⟨by rw [←I.ac,hg.l],by rw [I.ac,hh.r],⟨m c a,?_⟩,⟨m d b,?_⟩⟩
  · rw [←I.ac,I.ac c a g,ha,I.ac c e h,hh.l,hc]
  · rw [I.ac,←I.ac h d b,hd,←I.ac,hg.r,hb]
theorem Idm.hinv {g:S} (hg:InH m e g):∃y,InH m e y∧m g y=e∧m y g=e:=by
  obtain ⟨a,ha⟩:=hg.il
  obtain ⟨b,hb⟩:=hg.ir
  have h1:m (m (m e a) e) g=e:=by rw [I.ac,hg.l,I.ac,ha,I.ee]
  have h2:m g (m (m e b) e)=e:=by rw [←I.ac,←I.ac,hg.r,hb,I.ee]
  have h3:m (m e a) e=m (m e b) e:=by
    have e1:m (m (m e a) e) (m g (m (m e b) e))=m (m e a) e:=by rw [h2,I.ac,I.ee]
    have e2:m (m (m e a) e) (m g (m (m e b) e))=m (m e b) e:=by rw [←I.ac,h1,←I.ac,←I.ac,I.ee]
    rw [←e1,e2]
  refine ⟨m (m e a) e,⟨by rw [←I.ac,←I.ac,I.ee],by rw [I.ac,I.ee],⟨g,by rw [h3];exact h2⟩,⟨g,h1⟩⟩,by rw [h3];exact h2,h1⟩
theorem Idm.hof {g:S} (h1:m e g=g) (h2:m g e=g) (h3:Up m e g):InH m e g:=by
  refine ⟨h1,h2,?_,?_⟩
  · rcases I.sL e g (.inr ⟨g,h2⟩) h3 with h|h
    · exact ⟨e,by rw [←h,I.ee]⟩
    · exact h
  · rcases I.sR e g (.inr ⟨g,h1⟩) h3 with h|h
    · exact ⟨e,by rw [←h,I.ee]⟩
    · exact h
theorem Idm.dec {x r q:S} (hx:Up m e x) (hr:InL m e r) (hq:InR m e q) (rx:RrA m r x) (qx:LlA m q x):∃g,InH m e g∧m (m r g) q=x:=by
  have hu:∃u,m r u=x:=rx.elim (fun h=>⟨e,by rw [hr.r,h]⟩) id
  have hv:∃v,m v q=x:=qx.elim (fun h=>⟨e,by rw [hq.l,h]⟩) id
  obtain ⟨u,hu⟩:=hu
  obtain ⟨v,hv⟩:=hv
  obtain ⟨r',hr'⟩:=hr.l
  obtain ⟨q',hq'⟩:=hq.r
  have k1:m r (m r' x)=x:=by
    have:m (m r r') r=r:=by rw [I.ac,hr',hr.r]
    rw [←I.ac,←hu,←I.ac,this]
  have k2:m (m x q') q=x:=by
    have:m q' q=m q' q:=rfl
    have h3:m (m q q') q=q:=by rw [hq',hq.l]
    rw [I.ac,←hv,I.ac,←I.ac q q' q,h3]
  have k3:m (m r (m (m e (m (m r' x) q')) e)) q=x:=by
    rw [I.ac r,I.ac (m e (m (m r' x) q')) e q,hq.l,I.ac e,←I.ac r e,hr.r,I.ac (m r' x) q' q,I.ac r' x,←I.ac x q' q,k2,k1]
  have h1:m e (m (m e (m (m r' x) q')) e)=m (m e (m (m r' x) q')) e:=by rw [←I.ac,←I.ac,I.ee]
  have h2:m (m (m e (m (m r' x) q')) e) e=m (m e (m (m r' x) q')) e:=by rw [I.ac,I.ee]
  refine ⟨_,I.hof h1 h2 ?_,k3⟩
  obtain ⟨a,b,hab⟩:=hx
  refine ⟨m a r,m q b,?_⟩
  have gen:∀g,m (m (m a r) g) (m q b)=m (m a (m (m r g) q)) b:=fun g=>by simp only [I.ac]
  rw [gen,k3,hab]
theorem Idm.inj {r q g h:S} (hr:InL m e r) (hq:InR m e q) (hg:InH m e g) (hh:InH m e h) (he:m (m r g) q=m (m r h) q):g=h:=by
  obtain ⟨r',hr'⟩:=hr.l
  obtain ⟨q',hq'⟩:=hq.r
  have key:∀g,InH m e g→m r' (m (m (m r g) q) q')=g:=fun g hg=>by
    rw [I.ac (m r g) q q',hq',I.ac r g e,hg.r,←I.ac,hr',hg.l]
  rw [←key g hg,he,key h hh]
theorem Idm.back {r q g:S} (hr:InL m e r) (hq:InR m e q) (hg:InH m e g):(∃w,m (m (m r g) q) w=r)∧(∃w,m w (m (m r g) q)=q)∧Up m e (m (m r g) q):=by
  obtain ⟨r',hr'⟩:=hr.l
  obtain ⟨q',hq'⟩:=hq.r
  obtain ⟨y,_,h1,h2⟩:=I.hinv hg
  refine ⟨⟨m q' y,?_⟩,⟨m y r',?_⟩,⟨m y r',q',?_⟩⟩
  · rw [I.ac (m r g) q,←I.ac q q' y,hq',I.ac r g,←I.ac g e y,hg.r,h1,hr.r]
  · rw [←I.ac (m y r') (m r g) q,←I.ac (m y r') r g,I.ac y r' r,hr',I.ac y e g,hg.l,h2,hq.l]
  · rw [←I.ac (m y r') (m r g) q,←I.ac (m y r') r g,I.ac y r' r,hr',I.ac y e g,hg.l,h2,hq.l,hq']
theorem Idm.sand {q r:S} (hq:InR m e q) (hr:InL m e r) (h:Up m e (m q r)):InH m e (m q r):=I.hof (by rw [←I.ac,hq.l]) (by rw [I.ac,hr.r]) h
theorem Idm.mul3 (r g q s h p:S):m (m (m r g) q) (m (m s h) p)=m (m r (m (m g (m q s)) h)) p:=by simp only [I.ac]
theorem Idm.mulUp {r g q s h p:S} (hu:Up m e (m (m (m r g) q) (m (m s h) p))):Up m e (m q s):=by
  obtain ⟨a,b,hab⟩:=hu
  exact ⟨m a (m r g),m h (m p b),by rw [←hab];simp only [I.ac]⟩
theorem Idm.rowOf {x:S} (hx:Up m e x) (hd:∃a b,m (m a e) b=x):∃r,InL m e r∧RrA m r x∧RrA m x r:=by
  obtain ⟨a,b,hab⟩:=hx
  obtain ⟨c,d,hcd⟩:=hd
  have h1:m a (m x b)=e:=by rw [←I.ac];exact hab
  have h2:LlA m e (m x b):=I.sL (m x b) e (.inr ⟨a,h1⟩) ⟨c,m d b,by rw [←I.ac,hcd]⟩
  have h3:m (m x b) e=m x b:=h2.elim (fun h=>by rw [h,I.ee]) fun ⟨s,hs⟩=>by rw [←hs,I.ac,I.ee]
  exact ⟨m x b,⟨h3,a,h1⟩,I.sR x (m x b) (.inr ⟨b,rfl⟩) ⟨m c a,d,by rw [I.ac c a,h1];exact hcd⟩,.inr ⟨b,rfl⟩⟩
theorem Idm.colOf {x:S} (hx:Up m e x) (hd:∃a b,m (m a e) b=x):∃q,InR m e q∧LlA m q x∧LlA m x q:=by
  obtain ⟨a,b,hab⟩:=hx
  obtain ⟨c,d,hcd⟩:=hd
  have h2:RrA m e (m a x):=I.sR (m a x) e (.inr ⟨b,hab⟩) ⟨m a c,d,by rw [I.ac a c e,I.ac a,hcd]⟩
  have h3:m e (m a x)=m a x:=h2.elim (fun h=>by rw [h,I.ee]) fun ⟨s,hs⟩=>by rw [←hs,←I.ac,I.ee]
  exact ⟨m a x,⟨h3,b,hab⟩,I.sL x (m a x) (.inr ⟨a,rfl⟩) ⟨c,m b d,by rw [I.ac c,←I.ac (m a x) b d,hab,←I.ac];exact hcd⟩,.inr ⟨a,rfl⟩⟩
end
def mF (t:List (List Int)) (h:Sh t) (x y:Fin t.length):Fin t.length:=⟨en t x y,(h.ent x.2 y.2).2⟩
theorem stabLJ {t:List (List Int)} (h:Semi t) {x y:Nat} (hx:x<t.length) (hxy:inLB t x y=true) (hj:inJB t y x=true):inLB t y x=true:=by
  have hy:=inL_lt h.toSh hx hxy
  obtain ⟨z,hz,h1,h2⟩:=(inJB_iff h.toSh hy).1 hj
  rcases (inRB_iff h.toSh hz).1 h2 with e|⟨b,hb,e⟩
  · rw [e];exact h1
  · have l1:(elS t.length (inLB t x)).length≤(elS t.length (inLB t z)).length:=card_map (fun w=>en t w b) fun w hw hxw=>by
      rcases (inLB_iff h.toSh hx).1 hxw with e2|⟨s,hs,e2⟩
      · exact ⟨z,hz,(preL h).refl z hz,by rw [e2,e]⟩
      · exact ⟨en t s z,(h.toSh.ent hs hz).2,(inLB_iff h.toSh hz).2 (.inr ⟨s,hs,rfl⟩),by rw [←e2,←e,assoc3 h.assoc hs hz hb]⟩
    have l2:(elS t.length (inLB t z)).length≤(elS t.length (inLB t y)).length:=card_le fun w hw hzw=>(preL h).trans _ _ _ hy hz hw h1 hzw
    exact card_eq (f:=inLB t y) (g:=inLB t x) (fun w hw hyw=>(preL h).trans _ _ _ hx hy hw hxy hyw) (Nat.le_trans l1 l2) hx ((preL h).refl x hx)
theorem stabRJ {t:List (List Int)} (h:Semi t) {x y:Nat} (hx:x<t.length) (hxy:inRB t x y=true) (hj:inJB t y x=true):inRB t y x=true:=by
  have hy:=inR_lt h.toSh hx hxy
  obtain ⟨z0,hz0,h10,h20⟩:=(inJB_iff h.toSh hy).1 hj
  obtain ⟨z,hz,h1,h2⟩:=swap2 h hy h10 h20
  rcases (inLB_iff h.toSh hz).1 h2 with e|⟨b,hb,e⟩
  · rw [e];exact h1
  · have l1:(elS t.length (inRB t x)).length≤(elS t.length (inRB t z)).length:=card_map (fun w=>en t b w) fun w hw hxw=>by
      rcases (inRB_iff h.toSh hx).1 hxw with e2|⟨s,hs,e2⟩
      · exact ⟨z,hz,(preR h).refl z hz,by rw [e2,e]⟩
      · exact ⟨en t z s,(h.toSh.ent hz hs).2,(inRB_iff h.toSh hz).2 (.inr ⟨s,hs,rfl⟩),by rw [←e2,←e,assoc3 h.assoc hb hz hs]⟩
    have l2:(elS t.length (inRB t z)).length≤(elS t.length (inRB t y)).length:=card_le fun w hw hzw=>(preR h).trans _ _ _ hy hz hw h1 hzw
    exact card_eq (f:=inRB t y) (g:=inRB t x) (fun w hw hyw=>(preR h).trans _ _ _ hx hy hw hxy hyw) (Nat.le_trans l1 l2) hx ((preR h).refl x hx)
section
variable {t:List (List Int)} (h:Semi t)
include h
theorem llA_iff (y x:Fin t.length):LlA (mF t h.toSh) y x↔inLB t y x=true:=by
  rw [inLB_iff h.toSh y.2]
  exact or_congr ⟨fun e=>by rw [e],fun e=>Fin.ext e⟩ ⟨fun ⟨s,hs⟩=>⟨s,s.2,congrArg Fin.val hs⟩,fun ⟨s,hs,e⟩=>⟨⟨s,hs⟩,Fin.ext e⟩⟩
theorem rrA_iff (y x:Fin t.length):RrA (mF t h.toSh) y x↔inRB t y x=true:=by
  rw [inRB_iff h.toSh y.2]
  exact or_congr ⟨fun e=>by rw [e],fun e=>Fin.ext e⟩ ⟨fun ⟨s,hs⟩=>⟨s,s.2,congrArg Fin.val hs⟩,fun ⟨s,hs,e⟩=>⟨⟨s,hs⟩,Fin.ext e⟩⟩
theorem inJ_of {a y b:Fin t.length}:inJB t y (mF t h.toSh (mF t h.toSh a y) b)=true:=
  (inJB_iff h.toSh y.2).2 ⟨_,(mF t h.toSh a y).2,(inLB_iff h.toSh y.2).2 (.inr ⟨a,a.2,rfl⟩),(inRB_iff h.toSh (mF t h.toSh a y).2).2 (.inr ⟨b,b.2,rfl⟩)⟩
theorem idm {e:Nat} (he:e<t.length) (hi:en t e e=e):Idm (mF t h.toSh) ⟨e,he⟩ where
  ac x y z:=Fin.ext (assoc3 h.assoc x.2 y.2 z.2)
  ee:=Fin.ext hi
  sL x y hxy hj:=by
    rw [llA_iff h] at hxy ⊢
    obtain ⟨a,b,hj⟩:=hj
    exact stabLJ h x.2 hxy (by rw [←hj];exact inJ_of h)
  sR x y hxy hj:=by
    rw [rrA_iff h] at hxy ⊢
    obtain ⟨a,b,hj⟩:=hj
    exact stabRJ h x.2 hxy (by rw [←hj];exact inJ_of h)
theorem up_of {e:Nat} (he:e<t.length) (hi:en t e e=e) {y:Fin t.length} (hj:inJB t y e=true):Up (mF t h.toSh) ⟨e,he⟩ y:=by
  have I:=idm h he hi
  obtain ⟨z,hz,h1,h2⟩:=(inJB_iff h.toSh y.2).1 hj
  have h1:=(llA_iff h y ⟨z,hz⟩).2 h1
  have h2:=(rrA_iff h ⟨z,hz⟩ ⟨e,he⟩).2 h2
  have hz':∃b,mF t h.toSh ⟨z,hz⟩ b=⟨e,he⟩:=h2.elim (fun e1=>⟨⟨e,he⟩,by rw [←e1,I.ee]⟩) id
  obtain ⟨b,hb⟩:=hz'
  rcases h1 with e1|⟨a,ha⟩
  · rw [e1] at hb
    refine ⟨⟨e,he⟩,b,?_⟩
    rw [I.ac,hb,I.ee]
  · exact ⟨a,b,by rw [ha,hb]⟩
theorem down_of {e:Nat} (he:e<t.length) (hi:en t e e=e) {x:Fin t.length} (hj:inJB t e x=true):∃a b,mF t h.toSh (mF t h.toSh a ⟨e,he⟩) b=x:=by
  have I:=idm h he hi
  obtain ⟨z,hz,h1,h2⟩:=(inJB_iff h.toSh he).1 hj
  have h1:=(llA_iff h ⟨e,he⟩ ⟨z,hz⟩).2 h1
  have h2:=(rrA_iff h ⟨z,hz⟩ x).2 h2
  have ha:∃a,mF t h.toSh a ⟨e,he⟩=⟨z,hz⟩:=h1.elim (fun e1=>⟨⟨e,he⟩,by rw [e1,I.ee]⟩) id
  obtain ⟨a,ha⟩:=ha
  rcases h2 with e1|⟨b,hb⟩
  · exact ⟨a,⟨e,he⟩,by rw [I.ac,I.ee,ha,e1]⟩
  · exact ⟨a,b,by rw [ha,hb]⟩
end
end Go.Proofs.YtjabhmhhhlcopaaGreatDoor
end
