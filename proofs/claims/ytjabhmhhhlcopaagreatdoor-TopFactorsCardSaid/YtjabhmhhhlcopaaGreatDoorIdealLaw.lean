import Derived.Test.YtjabhmhhhlcopaaGreatDoorPartLaw
import Derived.Test.YtjabhmhhhlcopaaGreatDoorBits
import Derived.Test.YtjabhmhhhlcopaaGreatDoorAwk
section
namespace Go.Proofs.YtjabhmhhhlcopaaGreatDoor
open Go Go.AM
def inRB (t:List (List Int)) (y x:Nat):Bool:=decide (x=y)||(t.getD y []).contains (x:Int)
def inLB (t:List (List Int)) (y x:Nat):Bool:=decide (x=y)||t.any fun row=>row.getD y 0==(x:Int)
def inJB (t:List (List Int)) (y x:Nat):Bool:=(List.range t.length).any fun z=>inLB t y z&&inRB t z x
structure IdR (n:Nat) (e:Nat→Nat→Bool) (I:List (List Int)):Prop where
  len:I.length=n
  row:∀y,y<n→(I.getD y []).length=(n+63) / 64∧wordsOk (I.getD y [])
  bit:∀y x,y<n→x<n→bit (I.getD y []) x=e y x
def rep (e:Nat→Nat→Bool) (x:Nat):Nat:=((List.range x).find? fun y=>e x y&&e y x).getD x
def repsL (n:Nat) (e:Nat→Nat→Bool):List Int:=(List.range n).map fun x=>((rep e x:Nat):Int)
theorem rep_of {e:Nat→Nat→Bool} {x y:Nat} (hy:y<x) (h:(e x y&&e y x)=true) (hn:∀z,z<y→(e x z&&e z x)=false):rep e x=y:=by
  unfold rep
  have:(List.range x).find? (fun y=>e x y&&e y x)=some y:=by
    rw [List.find?_range_eq_some]
    exact ⟨h,by rw [List.mem_range];exact hy,fun z hz=>by show (!_)=true;rw [hn z hz];rfl⟩
  rw [this];rfl
theorem rep_none {e:Nat→Nat→Bool} {x:Nat} (h:∀y,y<x→(e x y&&e y x)=false):rep e x=x:=by
  unfold rep
  have:(List.range x).find? (fun y=>e x y&&e y x)=none:=by
    rw [List.find?_range_eq_none]
    exact fun y hy=>by show (!_)=true;rw [h y hy];rfl
  rw [this];rfl
theorem rep_cases (e:Nat→Nat→Bool) (x:Nat):(rep e x=x∧∀y,y<x→(e x y&&e y x)=false)∨(rep e x<x∧(e x (rep e x)&&e (rep e x) x)=true∧∀y,y<rep e x→(e x y&&e y x)=false):=by
  by_cases h:∀y,y<x→(e x y&&e y x)=false
  · exact .inl ⟨rep_none h,h⟩
  · have:∃y,y<x∧(e x y&&e y x)=true:=by
      apply Classical.byContradiction
      intro hn
      exact h fun y hy=>by
        cases hb:(e x y&&e y x) with
        |false=>rfl
        |true=>exact absurd ⟨y,hy,hb⟩ hn
    have least:∀n,(∃y,y<n∧y<x∧(e x y&&e y x)=true)→∃y,y<x∧(e x y&&e y x)=true∧∀z,z<y→(e x z&&e z x)=false:=by
      intro n
      induction n with
      |zero=>rintro ⟨y,hy,_⟩;exact absurd hy (Nat.not_lt_zero _)
      |succ n ih=>
       rintro ⟨y,hy,hyx,hb⟩
       by_cases hl:∃z,z<n∧z<x∧(e x z&&e z x)=true
       · exact ih hl
       · refine ⟨y,hyx,hb,fun z hz=>?_⟩
         cases hzb:(e x z&&e z x) with
         |false=>rfl
         |true=>exact absurd ⟨z,by omega,by omega,hzb⟩ hl
    obtain ⟨y,hy,hb⟩:=this
    obtain ⟨y,h1,h2,h3⟩:=least (y+1) ⟨y,Nat.lt_succ_self _,hy,hb⟩
    have:=rep_of h1 h2 h3
    exact .inr (by rw [this];exact ⟨h1,h2,h3⟩)
theorem repsL_len (n:Nat) (e:Nat→Nat→Bool):(repsL n e).length=n:=by simp [repsL]
theorem repsL_get {n:Nat} {e:Nat→Nat→Bool} {x:Nat} (hx:x<n):(repsL n e).getD x 0=((rep e x:Nat):Int):=by
  simp only [repsL,List.getD,List.getElem?_map,List.getElem?_range hx,Option.map_some,Option.getD_some]
structure Pre (n:Nat) (e:Nat→Nat→Bool):Prop where
  refl:∀x,x<n→e x x=true
  trans:∀x y z,x<n→y<n→z<n→e x y=true→e y z=true→e x z=true
theorem rep_iff {n:Nat} {e:Nat→Nat→Bool} (h:Pre n e) {x y:Nat} (hx:x<n) (hy:y<n):rep e x=rep e y↔(e x y=true∧e y x=true):=by
  have muty:∀x,x<n→rep e x<n∧e x (rep e x)=true∧e (rep e x) x=true:=fun x hx=>by
    rcases rep_cases e x with ⟨h1,_⟩|⟨h1,h2,_⟩
    · rw [h1];exact ⟨hx,h.refl x hx,h.refl x hx⟩
    · rw [Bool.and_eq_true] at h2;exact ⟨by omega,h2.1,h2.2⟩
  have least:∀x z,x<n→z<n→e x z=true→e z x=true→rep e x≤z:=fun x z hx hz h1 h2=>by
    rcases rep_cases e x with ⟨g1,g2⟩|⟨g1,_,g2⟩
    · rw [g1]
      apply Nat.le_of_not_lt
      intro hlt
      have:=g2 z hlt
      rw [h1,h2] at this;cases this
    · apply Nat.le_of_not_lt
      intro hlt
      have:=g2 z hlt
      rw [h1,h2] at this;cases this
  obtain ⟨a1,a2,a3⟩:=muty x hx
  obtain ⟨b1,b2,b3⟩:=muty y hy
  constructor
  · intro he
    exact ⟨h.trans x (rep e x) y hx a1 hy a2 (he▸b3),h.trans y (rep e x) x hy a1 hx (he▸b2) a3⟩
  · rintro ⟨h1,h2⟩
    apply Nat.le_antisymm
    · exact least x (rep e y) hx b1 (h.trans x y _ hx hy b1 h1 b2) (h.trans _ y x b1 hy hx b3 h2)
    · exact least y (rep e x) hy a1 (h.trans y x _ hy hx a1 h2 a2) (h.trans _ x y a1 hx hy a3 h1)
def clsL (n:Nat) (e:Nat→Nat→Bool):List Int:=canon (repsL n e)
theorem clsL_len (n:Nat) (e:Nat→Nat→Bool):(clsL n e).length=n:=by rw [clsL,canon_length,repsL_len]
theorem clsL_iff {n:Nat} {e:Nat→Nat→Bool} (h:Pre n e) {x y:Nat} (hx:x<n) (hy:y<n):(clsL n e).getD x 0=(clsL n e).getD y 0↔(e x y=true∧e y x=true):=by
  rw [clsL,canon_eq_iff (d:=0) (by rw [repsL_len];exact hx) (by rw [repsL_len];exact hy),repsL_get hx,repsL_get hy,←rep_iff h hx hy]
  exact Int.ofNat_inj
theorem clsL_valid {n:Nat} {e:Nat→Nat→Bool} (hn:n≤4096):validP (clsL n e):=⟨by rw [clsL_len];exact hn,canon_idem _⟩
theorem inRB_iff {t:List (List Int)} (h:Sh t) {y x:Nat} (hy:y<t.length):inRB t y x=true↔x=y∨∃s,s<t.length∧en t y s=x:=by
  unfold inRB
  rw [Bool.or_eq_true,decide_eq_true_eq,List.contains_iff_mem]
  refine or_congr Iff.rfl ⟨fun hm=>?_,fun ⟨s,hs,he⟩=>?_⟩
  · obtain ⟨s,hs,he⟩:=mem_getD 0 hm
    rw [h.len hy] at hs
    have:=(h.ent hy hs).1
    exact ⟨s,hs,by rw [he] at this;exact_mod_cast this.symm⟩
  · have:=(h.ent hy hs).1
    rw [←he,←this]
    exact getD_mem (by rw [h.len hy];exact hs)
theorem inLB_iff {t:List (List Int)} (h:Sh t) {y x:Nat} (hy:y<t.length):inLB t y x=true↔x=y∨∃s,s<t.length∧en t s y=x:=by
  unfold inLB
  rw [Bool.or_eq_true,decide_eq_true_eq,List.any_eq_true]
  refine or_congr Iff.rfl ⟨fun ⟨row,hm,he⟩=>?_,fun ⟨s,hs,he⟩=>?_⟩
  · obtain ⟨s,hs,rfl⟩:=mem_getD [] hm
    have:=(h.ent hs hy).1
    have he:(t.getD s []).getD y 0=(x:Int):=by simpa using he
    exact ⟨s,hs,by rw [he] at this;exact_mod_cast this.symm⟩
  · refine ⟨t.getD s [],getD_mem hs,?_⟩
    have:=(h.ent hs hy).1
    rw [this,he];simp
theorem inR_lt {t:List (List Int)} (h:Sh t) {y x:Nat} (hy:y<t.length) (hx:inRB t y x=true):x<t.length:=by
  rcases (inRB_iff h hy).1 hx with rfl|⟨s,hs,rfl⟩
  · exact hy
  · exact (h.ent hy hs).2
theorem inL_lt {t:List (List Int)} (h:Sh t) {y x:Nat} (hy:y<t.length) (hx:inLB t y x=true):x<t.length:=by
  rcases (inLB_iff h hy).1 hx with rfl|⟨s,hs,rfl⟩
  · exact hy
  · exact (h.ent hs hy).2
theorem preR {t:List (List Int)} (h:Semi t):Pre t.length (inRB t) where
  refl x hx:=(inRB_iff h.toSh hx).2 (.inl rfl)
  trans x y z hx hy hz h1 h2:=by
    rw [inRB_iff h.toSh hx] at h1 ⊢
    rw [inRB_iff h.toSh hy] at h2
    rcases h1 with rfl|⟨s,hs,rfl⟩
    · exact h2
    · rcases h2 with rfl|⟨u,hu,rfl⟩
      · exact .inr ⟨s,hs,rfl⟩
      · exact .inr ⟨en t s u,(h.toSh.ent hs hu).2,(assoc3 h.assoc hx hs hu).symm⟩
theorem preL {t:List (List Int)} (h:Semi t):Pre t.length (inLB t) where
  refl x hx:=(inLB_iff h.toSh hx).2 (.inl rfl)
  trans x y z hx hy hz h1 h2:=by
    rw [inLB_iff h.toSh hx] at h1 ⊢
    rw [inLB_iff h.toSh hy] at h2
    rcases h1 with rfl|⟨s,hs,rfl⟩
    · exact h2
    · rcases h2 with rfl|⟨u,hu,rfl⟩
      · exact .inr ⟨s,hs,rfl⟩
      · exact .inr ⟨en t u s,(h.toSh.ent hu hs).2,assoc3 h.assoc hu hs hx⟩
theorem inJB_iff {t:List (List Int)} (_h:Sh t) {y x:Nat} (_hy:y<t.length):inJB t y x=true↔∃z,z<t.length∧inLB t y z=true∧inRB t z x=true:=by
  unfold inJB
  rw [List.any_eq_true]
  constructor
  · rintro ⟨z,hz,he⟩
    rw [Bool.and_eq_true] at he
    exact ⟨z,List.mem_range.1 hz,he⟩
  · rintro ⟨z,hz,he⟩
    exact ⟨z,List.mem_range.2 hz,by rw [Bool.and_eq_true];exact he⟩
theorem swap {t:List (List Int)} (h:Semi t) {x y z:Nat} (hx:x<t.length) (h1:inRB t x y=true) (h2:inLB t y z=true):∃w,w<t.length∧inLB t x w=true∧inRB t w z=true:=by
  have hy:=inR_lt h.toSh hx h1
  have hz:=inL_lt h.toSh hy h2
  rw [inLB_iff h.toSh hy] at h2
  rcases h2 with rfl|⟨s,hs,rfl⟩
  · exact ⟨x,hx,(inLB_iff h.toSh hx).2 (.inl rfl),h1⟩
  · rw [inRB_iff h.toSh hx] at h1
    rcases h1 with rfl|⟨u,hu,rfl⟩
    · exact ⟨en t s y,hz,(inLB_iff h.toSh hx).2 (.inr ⟨s,hs,rfl⟩),(inRB_iff h.toSh hz).2 (.inl rfl)⟩
    · have hw:=(h.toSh.ent hs hx).2
      exact ⟨en t s x,hw,(inLB_iff h.toSh hx).2 (.inr ⟨s,hs,rfl⟩),(inRB_iff h.toSh hw).2 (.inr ⟨u,hu,assoc3 h.assoc hs hx hu⟩)⟩
theorem preJ {t:List (List Int)} (h:Semi t):Pre t.length (inJB t) where
  refl x hx:=(inJB_iff h.toSh hx).2 ⟨x,hx,(preL h).refl x hx,(preR h).refl x hx⟩
  trans x y z hx hy hz h1 h2:=by
    rw [inJB_iff h.toSh hx] at h1 ⊢
    rw [inJB_iff h.toSh hy] at h2
    obtain ⟨a,ha,h3,h4⟩:=h1
    obtain ⟨b,hb,h5,h6⟩:=h2
    obtain ⟨c,hc,h7,h8⟩:=swap h ha h4 h5
    exact ⟨c,hc,(preL h).trans x a c hx ha hc h3 h7,(preR h).trans c b z hc hb hz h8 h6⟩
theorem inJ_lt {t:List (List Int)} (h:Sh t) {y x:Nat} (hy:y<t.length) (hx:inJB t y x=true):x<t.length:=by
  obtain ⟨z,hz,h1,h2⟩:=(inJB_iff h hy).1 hx
  exact inR_lt h hz h2
def classR (t:List (List Int)):List Int:=clsL t.length (inRB t)
def classL (t:List (List Int)):List Int:=clsL t.length (inLB t)
def classJ (t:List (List Int)):List Int:=clsL t.length (inJB t)
def classH (t:List (List Int)):List Int:=canon ((classR t).zip (classL t))
def fstC (p:List Int) (c:Nat):Nat:=(((classes (classN p) p).getD c []).getD 0 0).toNat
def numJ (t:List (List Int)):Nat:=classN (classJ t)
def belowL (t:List (List Int)):List (List Bool):=(List.range (numJ t)).map fun i=>(List.range (numJ t)).map fun j=>inJB t (fstC (classJ t) j) (fstC (classJ t) i)
theorem belowL_len (t:List (List Int)):(belowL t).length=numJ t:=by simp [belowL]
theorem belowL_row {t:List (List Int)} {i:Nat} (hi:i<numJ t):(belowL t).getD i []=(List.range (numJ t)).map fun j=>inJB t (fstC (classJ t) j) (fstC (classJ t) i):=by
  simp only [belowL,List.getD,List.getElem?_map,List.getElem?_range hi,Option.map_some,Option.getD_some]
theorem belowL_get {t:List (List Int)} {i j:Nat} (hi:i<numJ t) (hj:j<numJ t):((belowL t).getD i []).getD j false=inJB t (fstC (classJ t) j) (fstC (classJ t) i):=by
  rw [belowL_row hi]
  simp only [List.getD,List.getElem?_map,List.getElem?_range hj,Option.map_some,Option.getD_some]
theorem fst_of {p:List Int} (h:canon p=p) {c:Nat} (hc:c<classN p):0<((classes (classN p) p).getD c []).length∧((classes (classN p) p).getD c []).getD 0 0=((fstC p c:Nat):Int)∧fstC p c<p.length∧p.getD (fstC p c) 0=c:=by
  have hm:=(valid_range h (c:Int)).1 ⟨by omega,by omega⟩
  obtain ⟨i,hi,he⟩:=mem_getD 0 hm
  have hin:((i:Nat):Int)∈(classes (classN p) p).getD c []:=(mem_classes hc).2 ⟨by omega,by omega,by simpa using he⟩
  have hpos:0<((classes (classN p) p).getD c []).length:=List.length_pos_of_mem hin
  have h0:=(mem_classes hc).1 (getD_mem (d:=0) hpos)
  refine ⟨hpos,?_,?_,?_⟩
  · unfold fstC;omega
  · unfold fstC;omega
  · unfold fstC;exact h0.2.2
theorem classJ_len (t:List (List Int)):(classJ t).length=t.length:=clsL_len _ _
theorem classR_len (t:List (List Int)):(classR t).length=t.length:=clsL_len _ _
theorem classL_len (t:List (List Int)):(classL t).length=t.length:=clsL_len _ _
theorem classJ_canon (t:List (List Int)):canon (classJ t)=classJ t:=canon_idem _
theorem numJ_le (t:List (List Int)):numJ t≤t.length:=by
  have:=firsts_le (classJ t)
  rw [classJ_len] at this;exact this
theorem classJ_lt (t:List (List Int)) {x:Nat} (hx:x<t.length):0≤(classJ t).getD x 0∧(classJ t).getD x 0<numJ t:=by
  have:=(valid_range (classJ_canon t) ((classJ t).getD x 0)).2 (getD_mem (by rw [classJ_len];exact hx))
  exact this
theorem classJ_iff {t:List (List Int)} (h:Semi t) {x y:Nat} (hx:x<t.length) (hy:y<t.length):(classJ t).getD x 0=(classJ t).getD y 0↔(inJB t x y=true∧inJB t y x=true):=clsL_iff (preJ h) hx hy
theorem fstJ {t:List (List Int)} {c:Nat} (hc:c<numJ t):0<((classes (numJ t) (classJ t)).getD c []).length∧((classes (numJ t) (classJ t)).getD c []).getD 0 0=((fstC (classJ t) c:Nat):Int)∧fstC (classJ t) c<t.length∧(classJ t).getD (fstC (classJ t) c) 0=c:=by
  have:=fst_of (classJ_canon t) hc
  rw [classJ_len] at this
  exact this
end Go.Proofs.YtjabhmhhhlcopaaGreatDoor
end
section
namespace Go.Proofs.YtjabhmhhhlcopaaGreatDoor
open Classical
theorem map_range_getD {α:Type} (f:Nat→α) (n i:Nat) (d:α) (h:i<n):((List.range n).map f).getD i d=f i:=by
  simp [List.getD,h]
theorem take_snoc {α:Type} {l:List α} {i:Nat} {d:α} (h:i<l.length):l.take (i+1)=l.take i++[l.getD i d]:=by
  rw [List.take_succ_eq_append_getElem h];simp [List.getD,h]
theorem ext_getD {α:Type} {l m:List α} (d:α) (hl:l.length=m.length) (h:∀i,i<l.length→l.getD i d=m.getD i d):l=m:=by
  refine List.ext_getElem hl fun i h1 h2=>?_
  have:=h i h1
  simpa [List.getD,h1,h2] using this
end Go.Proofs.YtjabhmhhhlcopaaGreatDoor
end
section
namespace Go.Proofs.YtjabhmhhhlcopaaGreatDoor
open Go Go.AM
def elemsJ (t:List (List Int)) (j:Nat):List Int:=(classes (numJ t) (classJ t)).getD j []
def inJ (t:List (List Int)) (j:Nat):List Bool:=(List.range t.length).map fun x=>decide ((classJ t).getD x 0=(j:Int))
def minJ (t:List (List Int)) (j:Nat):Bool:=(List.range (numJ t)).all fun k=>decide (k=j)|| !(inJB t (fstC (classJ t) j) (fstC (classJ t) k))
theorem inJ_len (t:List (List Int)) (j:Nat):(inJ t j).length=t.length:=by simp [inJ]
theorem inJ_get {t:List (List Int)} {j x:Nat} (hx:x<t.length):(inJ t j).getD x false=decide ((classJ t).getD x 0=(j:Int)):=by
  unfold inJ
  rw [List.getD,List.getElem?_map,List.getElem?_range hx]
  rfl
theorem elemsJ_eq {t:List (List Int)} {j:Nat} (hj:j<numJ t):elemsJ t j=((List.range t.length).filter fun i=>(classJ t).getD i 0=(j:Int)).map fun (i:Nat)=>(i:Int):=by
  unfold elemsJ;rw [classes_getD hj,classJ_len]
theorem mem_elems {t:List (List Int)} {j:Nat} (hj:j<numJ t) {x:Int}:x∈elemsJ t j↔0≤x∧x<t.length∧(classJ t).getD x.toNat 0=j:=by
  unfold elemsJ;rw [mem_classes hj,classJ_len]
theorem elems_nodup {t:List (List Int)} {j:Nat} (hj:j<numJ t):(elemsJ t j).Nodup:=by
  rw [elemsJ_eq hj,List.Nodup,List.pairwise_map]
  refine List.Pairwise.imp ?_ (List.Pairwise.sublist List.filter_sublist List.nodup_range)
  intro a b h e
  exact h (by exact_mod_cast e)
theorem elems_le {t:List (List Int)} {j:Nat} (hj:j<numJ t):(elemsJ t j).length≤t.length:=by
  rw [elemsJ_eq hj,List.length_map]
  exact Nat.le_trans (List.length_filter_le _ _) (by simp)
theorem elems_pos {t:List (List Int)} {j:Nat} (hj:j<numJ t):0<(elemsJ t j).length:=(fstJ hj).1
theorem minJ_iff {t:List (List Int)} {j:Nat}:minJ t j=true↔∀k,k<numJ t→k≠j→inJB t (fstC (classJ t) j) (fstC (classJ t) k)=false:=by
  unfold minJ
  rw [List.all_eq_true]
  constructor
  · intro h k hk hkj
    have:=h k (List.mem_range.2 hk)
    simpa [hkj] using this
  · intro h k hk
    have hk:=List.mem_range.1 hk
    by_cases hkj:k=j
    · simp [hkj]
    · simp [h k hk hkj]
theorem elems_lt {t:List (List Int)} {j:Nat} (hj:j<numJ t) (hm:minJ t j=false):(elemsJ t j).length<t.length:=by
  have:∃k,k<numJ t∧k≠j:=by
    apply Classical.byContradiction
    intro hn
    have:minJ t j=true:=minJ_iff.2 fun k hk hkj=>absurd ⟨k,hk,hkj⟩ hn
    rw [this] at hm;cases hm
  obtain ⟨k,hk,hkj⟩:=this
  have f:=fstJ hk
  rw [elemsJ_eq hj,List.length_map]
  have h1:=List.length_filter_lt_length_iff_exists (l:=List.range t.length) (p:=fun i=>(classJ t).getD i 0=(j:Int))
  rw [List.length_range] at h1
  refine h1.2 ⟨fstC (classJ t) k,List.mem_range.2 f.2.2.1,?_⟩
  rw [f.2.2.2]
  simp
  omega
def prinList (t:List (List Int)) (j:Nat):List Int:=(if minJ t j=true then [] else [-1])++elemsJ t j
noncomputable def prinV (t:List (List Int)) (j:Nat) (a b:Int):Int:=open Classical in
  if 0≤a∧0≤b∧(classJ t).getD (en t a.toNat b.toNat) 0=(j:Int) then (((prinList t j).idxOf ((en t a.toNat b.toNat:Nat):Int):Nat):Int) else 0
noncomputable def prinTab (t:List (List Int)) (j:Nat):List (List Int):=(prinList t j).map fun a=>(prinList t j).map fun b=>prinV t j a b
section
variable {t:List (List Int)} {j:Nat} (h:Semi t) (hj:j<numJ t)
include hj
theorem mem_prin {x:Int}:x∈prinList t j↔(x= -1∧minJ t j=false)∨(0≤x∧x<t.length∧(classJ t).getD x.toNat 0=j):=by
  unfold prinList
  rw [List.mem_append,mem_elems hj]
  cases hm:minJ t j<;>simp
theorem prin_len:0<(prinList t j).length∧(prinList t j).length≤t.length:=by
  have h1:=elems_pos hj
  have h2:=elems_le hj
  unfold prinList
  rw [List.length_append]
  cases hm:minJ t j
  · have:=elems_lt hj hm
    simp;omega
  · simp;omega
theorem prin_nodup:(prinList t j).Nodup:=by
  unfold prinList
  have hn:=elems_nodup hj
  cases hm:minJ t j
  · simp only [Bool.false_eq_true,if_false,List.singleton_append,List.nodup_cons]
    refine ⟨fun hx=>?_,hn⟩
    have:=(mem_elems hj).1 hx
    omega
  · simpa using hn
omit hj in
theorem prin_zero (hm:minJ t j=false):(prinList t j).getD 0 0= -1:=by
  unfold prinList;simp [hm]
theorem prin_get {x:Nat} (hx:x<(prinList t j).length):((prinList t j).getD x 0= -1∧minJ t j=false)∨(0≤(prinList t j).getD x 0∧(prinList t j).getD x 0<t.length∧(classJ t).getD ((prinList t j).getD x 0).toNat 0=j):=
  (mem_prin hj).1 (getD_mem hx)
theorem prin_idx {e:Nat} (he:e<t.length) (hc:(classJ t).getD e 0=j):(prinList t j).idxOf (e:Int)<(prinList t j).length∧(prinList t j).getD ((prinList t j).idxOf (e:Int)) 0=e:=by
  have hm:(e:Int)∈prinList t j:=(mem_prin hj).2 (.inr ⟨by omega,by omega,by simpa using hc⟩)
  have hl:=List.idxOf_lt_length_of_mem hm
  refine ⟨hl,?_⟩
  rw [getD_eq hl,List.getElem_idxOf hl]
omit hj in
theorem prinTab_len:(prinTab t j).length=(prinList t j).length:=by simp [prinTab]
omit hj in
theorem prinTab_row {x:Nat} (hx:x<(prinList t j).length):(prinTab t j).getD x []=(prinList t j).map fun b=>prinV t j ((prinList t j).getD x 0) b:=by
  simp [prinTab,List.getD,hx]
end
end Go.Proofs.YtjabhmhhhlcopaaGreatDoor
end
section
namespace Go.Proofs.YtjabhmhhhlcopaaGreatDoor
open Go Go.AM
set_option maxRecDepth 100000
def setB (n:Nat) (f:Nat→Bool):List Bool:=(List.range n).map f
theorem setB_len (n:Nat) (f:Nat→Bool):(setB n f).length=n:=by simp [setB]
theorem setB_get {n:Nat} {f:Nat→Bool} {x:Nat} (hx:x<n):(setB n f).getD x false=f x:=by
  unfold setB
  rw [List.getD,List.getElem?_map,List.getElem?_range hx];rfl
theorem setB_of {n:Nat} {f:Nat→Bool} {r:List Bool} (hl:r.length=n) (h:∀x,x<n→r.getD x false=f x):r=setB n f:=by
  refine List.ext_getElem (by rw [hl,setB_len]) fun j h1 h2=>?_
  rw [←getD_eq (d:=false) h1,←getD_eq (d:=false) h2,h j (by omega),setB_get (by omega)]
theorem setB_next {n i:Nat} {f:Nat→Bool} {r:List Bool} (hl:r.length=n) (h:∀x,x<n→r.getD x false=f x) (hi:i<n):(r.set i true).length=n∧∀x,x<n→(r.set i true).getD x false=(f x||decide (x=i)):=by
  refine ⟨by rw [List.length_set];exact hl,fun x hx=>?_⟩
  by_cases hxi:x=i
  · subst hxi;rw [getD_set_eq (by omega)];simp
  · rw [getD_set_ne (Ne.symm hxi),h x hx];simp [hxi]
theorem rep_false (n x:Nat):(List.replicate n false).getD x false=false:=by
  simp only [List.getD,List.getElem?_replicate];split<;>rfl
theorem rset_k (l:List Int) (n:Nat) (hn:n≤400) (hl:l.length≤140737488355328):fnK TY SP Tryz.f14 [.ro (.ints .i64 l),.int .i64 n] (.new (.bools (setB n fun x=>l.contains (x:Int)))):=by
  refine And.intro (by omega) ?_
  refine And.intro (by omega) ?_
  refine Exists.intro []<|lp2 (fun (i:Nat) (_:List Bool)=>[(12,.int .i64 i)]) (fun _ r=>[(9,.vec 0 (.bools r) [])]) (fun i r=>i≤l.length∧r.length=n∧∀x,x<n→r.getD x false=(l.take i).contains (x:Int)) (fun i _=>l.length - i) 0 (List.replicate n false) ⟨Nat.zero_le _,by simp,fun x hx=>by rw [rep_false];simp⟩ (by repeat' first|refine And.intro ?_ ?_|exact True.intro|(show (_:Int)=(_:Int);omega)|omega|exact rfl|(simp only [RO.len];omega)) ?_
  rintro i r ⟨hi,hr,hs⟩
  refine And.intro (fun h1=>?_) (fun h1=>?_)
  · have hil:i<l.length:=by omega
    have skip:¬(0≤l.getD i 0∧l.getD i 0<n)→∀x,x<n→r.getD x false=(l.take (i+1)).contains (x:Int):=fun hno x hx=>by
      rw [hs x hx,take_snoc (d:=0) hil,Bool.eq_iff_iff]
      simp only [List.contains_iff_mem,List.mem_append,List.mem_singleton]
      constructor
      · exact .inl
      · rintro (h|h)
        · exact h
        · omega
    refine And.intro (by omega) ?_
    refine And.intro (fun h2=>?_) (fun h2=>?_)
    · have h2:0≤l.getD i 0:=h2
      refine And.intro (fun h3=>?_) (fun h3=>?_)
      · have h3:l.getD i 0<(n:Int):=h3
        refine And.intro (show 0≤l.getD i 0∧l.getD i 0<(r.length:Int) by omega) ?_
        refine And.intro (show (0:Int)≤l.getD i 0 by omega) ?_
        refine And.intro (by omega) ?_
        have hnx:=setB_next hr hs (i:=(l.getD i 0).toNat) (by omega)
        refine nx (i+1,r.set (l.getD i 0).toNat true) ⟨by omega,hnx.1,fun x hx=>?_⟩ (show l.length - (i+1)<l.length - i by omega) (by repeat' first|refine And.intro ?_ ?_|exact True.intro|(show (_:Int)=(_:Int);omega)|omega|exact rfl|(simp only [RO.len];omega))
        rw [hnx.2 x hx,take_snoc (d:=0) hil,Bool.eq_iff_iff]
        simp only [Bool.or_eq_true,decide_eq_true_eq,List.contains_iff_mem,List.mem_append,List.mem_singleton]
        exact or_congr Iff.rfl ⟨fun h=>by omega,fun h=>by omega⟩
      · have h3:(n:Int)≤l.getD i 0:=h3
        refine And.intro (by omega) ?_
        exact nx (i+1,r) ⟨by omega,hr,skip (by omega)⟩ (show l.length - (i+1)<l.length - i by omega) (by repeat' first|refine And.intro ?_ ?_|exact True.intro|(show (_:Int)=(_:Int);omega)|omega|exact rfl|(simp only [RO.len];omega))
    · have h2:l.getD i 0<0:=h2
      refine And.intro (by omega) ?_
      exact nx (i+1,r) ⟨by omega,hr,skip (by omega)⟩ (show l.length - (i+1)<l.length - i by omega) (by repeat' first|refine And.intro ?_ ?_|exact True.intro|(show (_:Int)=(_:Int);omega)|omega|exact rfl|(simp only [RO.len];omega))
  · refine And.intro ?_ trivial
    refine And.intro rfl ?_
    rw [setB_of hr fun x hx=>by rw [hs x hx,List.take_of_length_le (by omega)]]
theorem rset_fn (l:List Int) (n:Nat) (hn:n≤400):QF 14 [.ro (.ints .i64 l),.int .i64 n] (.new (.bools (setB n fun x=>l.contains (x:Int)))):=mkQ Tryz.func14 (by decide+kernel) rfl (Nat.le_of_ble_eq_true rfl) fun hf=>rset_k l n hn hf.1.1
end Go.Proofs.YtjabhmhhhlcopaaGreatDoor
end
section
namespace Go.Proofs.YtjabhmhhhlcopaaGreatDoor
open Go Go.AM
set_option maxRecDepth 100000
set_option maxHeartbeats 4000000 in
theorem rshape_k (t:List (List Int)):fnK TY SP Tryz.f219 [.ro (.rows .i64 t)] (.int .i64 (shapeV t)):=shape_k t
theorem rshape_fn (t:List (List Int)):QF 219 [.ro (.rows .i64 t)] (.int .i64 (shapeV t)):=mkQ Tryz.func219 (by decide+kernel) rfl (Nat.le_of_ble_eq_true rfl) fun _=>rshape_k t
theorem assoc_k (t:List (List Int)):fnEK TY SP Tryz.f174 [.ro (.rows .i64 t)] (fun x:Int × Int × Int=>.tup [.int .i64 x.1,.int .i64 x.2.1,.int .i64 x.2.2,.int .i64 (validV t)]) (fun _=>True):=by
  refine Or.inl (cq (rshape_fn t) (And.intro rfl trivial) ?_)
  refine And.intro (fun h1=>?_) (fun h1=>?_)
  · refine Exists.intro (0,0,0) (And.intro trivial ⟨rfl,rfl,rfl,?_,trivial⟩)
    show shapeV t=validV t
    unfold validV;rw [if_pos h1]
  have hs:=shape_zero.1 h1
  have hpos:=hs.pos
  have hmost:=hs.most
  refine Exists.intro []<|lp (X:=Nat) (fun x=>[(17,.int .i64 x)]) (fun _=>[]) (fun x=>x≤t.length∧∀x' y z,x'<x→y<t.length→z<t.length→en t (en t x' y) z=en t x' (en t y z)) (fun x=>t.length - x) 0 ⟨Nat.zero_le _,by omega⟩ ⟨⟨rfl,trivial⟩,trivial⟩ ?_
  intro x hx
  refine And.intro (fun h2=>?_) (fun h2=>?_)
  · refine Exists.intro []<|lp (X:=Nat) (fun y=>[(22,.int .i64 y)]) (fun _=>[]) (fun y=>y≤t.length∧∀y' z,y'<y→z<t.length→en t (en t x y') z=en t x (en t y' z)) (fun y=>t.length - y) 0 ⟨Nat.zero_le _,by omega⟩ ⟨⟨rfl,trivial⟩,trivial⟩ ?_
    intro y hy
    refine And.intro (fun h3=>?_) (fun h3=>?_)
    · refine Exists.intro []<|lp (X:=Nat) (fun z=>[(27,.int .i64 z)]) (fun _=>[]) (fun z=>z≤t.length∧∀z',z'<z→en t (en t x y) z'=en t x (en t y z')) (fun z=>t.length - z) 0 ⟨Nat.zero_le _,by omega⟩ ⟨⟨rfl,trivial⟩,trivial⟩ ?_
      intro z hz
      refine And.intro (fun h4=>?_) (fun h4=>?_)
      · have hxl:x<t.length:=by omega
        have hyl:y<t.length:=by omega
        have hzl:z<t.length:=by omega
        have a1:=hs.ent hxl hyl
        have a2:=hs.ent a1.2 hzl
        have a3:=hs.ent hyl hzl
        have a4:=hs.ent hxl a3.2
        have l1:=hs.len hxl
        have l2:=hs.len hyl
        have l3:=hs.len a1.2
        refine Or.inl<|Exists.intro [false,false,false,false,false,false,false,false,false,false,false,false,false,false,false,false,false,false,false,false,false,false,false,false,false,false,false] (And.intro (by decide+kernel) ?_)
        refine And.intro (by omega) ?_
        refine And.intro (by simp only [Int.toNat_natCast];omega) ?_
        refine And.intro (by simp only [Int.toNat_natCast];omega) ?_
        refine And.intro (show 0≤(z:Int)∧(z:Int)<((t.getD (en t x y) []).length:Int) by omega) ?_
        refine And.intro (by omega) ?_
        refine And.intro (by omega) ?_
        refine And.intro (by simp only [Int.toNat_natCast];omega) ?_
        refine And.intro (by simp only [Int.toNat_natCast];omega) ?_
        refine And.intro (fun h5=>?_) (fun h5=>?_)
        · have h5:(t.getD (en t x y) []).getD z 0≠(t.getD x []).getD (en t y z) 0:=h5
          rw [a2.1,a4.1] at h5
          refine Exists.intro ((x:Int),(y:Int),(z:Int)) (And.intro trivial ⟨rfl,rfl,rfl,?_,trivial⟩)
          show (5:Int)=validV t
          unfold validV
          rw [if_neg (by omega),if_neg]
          intro ha
          exact h5 (congrArg _ (ha y hyl x z hxl hzl))
        · have h5:(t.getD (en t x y) []).getD z 0=(t.getD x []).getD (en t y z) 0:=h5
          rw [a2.1,a4.1] at h5
          refine And.intro (by omega) ?_
          refine nx (z+1) ⟨by omega,fun z' hz'=>?_⟩ (show t.length - (z+1)<t.length - z by omega) ⟨⟨rfl,trivial⟩,trivial⟩
          by_cases hzz:z'<z
          · exact hz.2 z' hzz
          · have:z'=z:=by omega
            rw [this];exact_mod_cast h5
      · refine And.intro (by omega) ?_
        refine nx (y+1) ⟨by omega,fun y' z hy' hz'=>?_⟩ (show t.length - (y+1)<t.length - y by omega) ⟨⟨rfl,trivial⟩,trivial⟩
        by_cases hyy:y'<y
        · exact hy.2 y' z hyy hz'
        · have:y'=y:=by omega
          rw [this];exact hz.2 z (by omega)
    · refine And.intro (by omega) ?_
      refine nx (x+1) ⟨by omega,fun x' y z hx' hy' hz'=>?_⟩ (show t.length - (x+1)<t.length - x by omega) ⟨⟨rfl,trivial⟩,trivial⟩
      by_cases hxx:x'<x
      · exact hx.2 x' y z hxx hy' hz'
      · have:x'=x:=by omega
        rw [this];exact hy.2 y z (by omega) hz'
  · refine Exists.intro (0,0,0) (And.intro trivial ⟨rfl,rfl,rfl,?_,trivial⟩)
    show 0=validV t
    symm
    rw [valid_zero]
    exact ⟨hs,fun g hg x y hx' hy'=>hx.2 x g y (by omega) hg hy'⟩
theorem rvalidate_fn (t:List (List Int)):QF 107 [.ro (.rows .i64 t)] (.int .i64 (validV t)):=mkQ Tryz.func107 (by decide+kernel) rfl (Nat.le_of_ble_eq_true rfl) fun _=>by
  refine Or.inr (Or.inr (ce (mkE Tryz.func174 (by decide+kernel) rfl (Nat.le_of_ble_eq_true rfl) fun _=>assoc_k t) (And.intro rfl trivial) fun x _=>?_))
  exact And.intro rfl trivial
theorem rvalid_fn (t:List (List Int)):QF 44 [.ro (.rows .i64 t)] (.bool (.v (decide (validV t=0)))):=mkQ Tryz.func44 (by decide+kernel) rfl (Nat.le_of_ble_eq_true rfl) fun _=>by
  refine Or.inl (cq (rvalidate_fn t) (And.intro rfl trivial) ?_)
  exact And.intro rfl trivial
end Go.Proofs.YtjabhmhhhlcopaaGreatDoor
end
section
namespace Go.Proofs.YtjabhmhhhlcopaaGreatDoor
open Go Go.AM
set_option maxRecDepth 100000
def rowsB (n:Nat) (e:Nat→Nat→Bool):List (List Bool):=(List.range n).map fun x=>setB n (e x)
end Go.Proofs.YtjabhmhhhlcopaaGreatDoor
end
section
namespace Go.Proofs.YtjabhmhhhlcopaaGreatDoor
open Go Go.AM
set_option maxRecDepth 100000
theorem same_k (a b:List Int) (ha:a.length≤140737488355328) (_hb:b.length≤140737488355328):fnK TY SP Tryz.f63 [.ro (.ints .i64 a),.ro (.ints .i64 b)] (.bool (.v (decide (a=b)))):=by
  refine And.intro (fun h1=>?_) (fun h1=>?_)
  · refine And.intro ?_ trivial
    show false=decide (a=b)
    rw [decide_eq_false (fun e=>h1 (by rw [e]))]
  refine Exists.intro []<|lp (X:=Nat) (fun k=>[(13,.int .i64 k)]) (fun _=>[]) (fun k=>k≤a.length∧∀j,j<k→a.getD j 0=b.getD j 0) (fun k=>a.length - k) 0 ⟨Nat.zero_le _,by omega⟩ (by repeat' first|refine And.intro ?_ ?_|exact True.intro|(show (_:Int)=(_:Int);omega)|omega|exact rfl|(simp only [RO.len];omega)) ?_
  intro k hk
  refine And.intro (fun h2=>?_) (fun h2=>?_)
  · refine Or.inl<|Exists.intro [false,false,false,false,false,false,false,false,false] (And.intro (by decide+kernel) ?_)
    refine And.intro (by omega) ?_
    refine And.intro (by omega) ?_
    refine And.intro (fun h3=>?_) (fun h3=>?_)
    · refine And.intro ?_ trivial
      show false=decide (a=b)
      rw [decide_eq_false (fun e=>h3 (by rw [e]))]
    · refine And.intro (by omega) ?_
      refine nx (k+1) ⟨by omega,fun j hj=>?_⟩ (show a.length - (k+1)<a.length - k by omega) (by repeat' first|refine And.intro ?_ ?_|exact True.intro|(show (_:Int)=(_:Int);omega)|omega|exact rfl|(simp only [RO.len];omega))
      by_cases hjk:j<k
      · exact hk.2 j hjk
      · have:j=k:=by omega
        rw [this];exact h3
  · refine And.intro ?_ trivial
    show true=decide (a=b)
    rw [decide_eq_true (ext_getD 0 (by omega) fun i hi=>hk.2 i (by omega))]
theorem same_fn (a b:List Int):QF 63 [.ro (.ints .i64 a),.ro (.ints .i64 b)] (.bool (.v (decide (a=b)))):=mkQ Tryz.func63 (by decide+kernel) rfl (Nat.le_of_ble_eq_true rfl) fun hf=>same_k a b hf.1.1 hf.2.1.1
theorem sameRows_k (a b:List (List Int)) (ha:a.length≤140737488355328) (_hb:b.length≤140737488355328):fnK TY SP Tryz.f17 [.ro (.rows .i64 a),.ro (.rows .i64 b)] (.bool (.v (decide (a=b)))):=by
  refine And.intro (fun h1=>?_) (fun h1=>?_)
  · refine And.intro ?_ trivial
    show false=decide (a=b)
    rw [decide_eq_false (fun e=>h1 (by rw [e]))]
  refine Exists.intro []<|lp (X:=Nat) (fun k=>[(13,.int .i64 k)]) (fun _=>[]) (fun k=>k≤a.length∧∀j,j<k→a.getD j []=b.getD j []) (fun k=>a.length - k) 0 ⟨Nat.zero_le _,by omega⟩ (by repeat' first|refine And.intro ?_ ?_|exact True.intro|(show (_:Int)=(_:Int);omega)|omega|exact rfl|(simp only [RO.len];omega)) ?_
  intro k hk
  refine And.intro (fun h2=>?_) (fun h2=>?_)
  · refine Or.inl<|Exists.intro [false,false,false,false,false,false,false,false,false,false] (And.intro (by decide+kernel) ?_)
    refine And.intro (by omega) ?_
    refine And.intro (by omega) ?_
    refine cq (same_fn (a.getD k []) (b.getD k [])) (And.intro rfl (And.intro rfl trivial)) ?_
    refine And.intro (fun h3=>?_) (fun h3=>?_)
    · refine And.intro ?_ trivial
      show false=decide (a=b)
      rw [decide_eq_false (fun e=>by rw [e] at h3;simp at h3)]
    · refine And.intro (by omega) ?_
      refine nx (k+1) ⟨by omega,fun j hj=>?_⟩ (show a.length - (k+1)<a.length - k by omega) (by repeat' first|refine And.intro ?_ ?_|exact True.intro|(show (_:Int)=(_:Int);omega)|omega|exact rfl|(simp only [RO.len];omega))
      by_cases hjk:j<k
      · exact hk.2 j hjk
      · have:j=k:=by omega
        rw [this];simpa using h3
  · refine And.intro ?_ trivial
    show true=decide (a=b)
    rw [decide_eq_true (ext_getD [] (by omega) fun i hi=>hk.2 i (by omega))]
theorem sameRows_fn (a b:List (List Int)):QF 17 [.ro (.rows .i64 a),.ro (.rows .i64 b)] (.bool (.v (decide (a=b)))):=mkQ Tryz.func17 (by decide+kernel) rfl (Nat.le_of_ble_eq_true rfl) fun hf=>sameRows_k a b hf.1.1 hf.2.1.1
end Go.Proofs.YtjabhmhhhlcopaaGreatDoor
end
section
namespace Go.Proofs.YtjabhmhhhlcopaaGreatDoor
open Go Go.AM
set_option maxRecDepth 100000
def memTo (l:List Bool) (k:Nat):List Int:=((List.range k).filter fun i=>l.getD i false).map fun i:Nat=>(i:Int)
def memV (l:List Bool):List Int:=memTo l l.length
theorem memTo_yes {l:List Bool} {k:Nat} (h:l.getD k false=true):memTo l (k+1)=memTo l k++[(k:Int)]:=by
  unfold memTo;rw [List.range_succ,List.filter_append,List.map_append,List.filter_cons_of_pos (p:=fun i=>l.getD i false) h];rfl
theorem memTo_no {l:List Bool} {k:Nat} (h:l.getD k false=false):memTo l (k+1)=memTo l k:=by
  unfold memTo;rw [List.range_succ,List.filter_append,List.map_append,List.filter_cons_of_neg (p:=fun i=>l.getD i false) (by rw [h];decide)];exact List.append_nil _
theorem memTo_len {l:List Bool} {k:Nat}:(memTo l k).length≤k:=by
  unfold memTo;rw [List.length_map]
  exact Nat.le_trans (List.length_filter_le _ _) (by simp)
end Go.Proofs.YtjabhmhhhlcopaaGreatDoor
end
section
namespace Go.Proofs.YtjabhmhhhlcopaaGreatDoor
open Go Go.AM
open Classical
def lftF (t:List (List Int)) (g:Nat→Bool) (x:Nat):Bool:=(List.range t.length).any fun y=>g y&&inLB t y x
def rgtF (t:List (List Int)) (g:Nat→Bool) (x:Nat):Bool:=(List.range t.length).any fun y=>g y&&inRB t y x
def twoF (t:List (List Int)) (g:Nat→Bool):Nat→Bool:=lftF t (rgtF t g)
theorem lftF_iff {t:List (List Int)} {g:Nat→Bool} {x:Nat}:lftF t g x=true↔∃y,y<t.length∧g y=true∧inLB t y x=true:=by
  unfold lftF
  rw [List.any_eq_true]
  constructor
  · rintro ⟨y,hy,h⟩
    rw [Bool.and_eq_true] at h
    exact ⟨y,List.mem_range.1 hy,h.1,h.2⟩
  · rintro ⟨y,hy,h1,h2⟩
    exact ⟨y,List.mem_range.2 hy,by rw [h1,h2];rfl⟩
theorem rgtF_iff {t:List (List Int)} {g:Nat→Bool} {x:Nat}:rgtF t g x=true↔∃y,y<t.length∧g y=true∧inRB t y x=true:=by
  unfold rgtF
  rw [List.any_eq_true]
  constructor
  · rintro ⟨y,hy,h⟩
    rw [Bool.and_eq_true] at h
    exact ⟨y,List.mem_range.1 hy,h.1,h.2⟩
  · rintro ⟨y,hy,h1,h2⟩
    exact ⟨y,List.mem_range.2 hy,by rw [h1,h2];rfl⟩
def setI (l:List Int) (x:Nat):Bool:=l.contains (x:Int)
theorem setI_iff {l:List Int} {x:Nat}:setI l x=true↔(x:Int)∈l:=List.contains_iff_mem
theorem memV_mem {l:List Bool} {x:Int}:x∈memV l↔∃i:Nat,i<l.length∧l.getD i false=true∧x=(i:Int):=by
  unfold memV memTo
  simp only [List.mem_map,List.mem_filter,List.mem_range]
  constructor
  · rintro ⟨i,⟨h1,h2⟩,rfl⟩;exact ⟨i,h1,h2,rfl⟩
  · rintro ⟨i,h1,h2,rfl⟩;exact ⟨i,⟨h1,h2⟩,rfl⟩
theorem setB_congr {n:Nat} {f g:Nat→Bool} (h:∀x,x<n→f x=g x):setB n f=setB n g:=
  List.map_congr_left fun x hx=>h x (List.mem_range.1 hx)
def ascV (n:Nat) (f:Nat→Bool):List Int:=memV (setB n f)
theorem ascV_mem {n:Nat} {f:Nat→Bool} {x:Int}:x∈ascV n f↔∃i:Nat,i<n∧f i=true∧x=(i:Int):=by
  unfold ascV
  rw [memV_mem,setB_len]
  constructor
  · rintro ⟨i,h1,h2,h3⟩;rw [setB_get h1] at h2;exact ⟨i,h1,h2,h3⟩
  · rintro ⟨i,h1,h2,h3⟩;exact ⟨i,h1,by rw [setB_get h1];exact h2,h3⟩
theorem ascV_congr {n:Nat} {f g:Nat→Bool} (h:∀x,x<n→f x=g x):ascV n f=ascV n g:=by unfold ascV;rw [setB_congr h]
theorem ascV_len (n:Nat) (f:Nat→Bool):(ascV n f).length≤n:=by
  have h:=memTo_len (l:=setB n f) (k:=(setB n f).length)
  rw [setB_len] at h
  unfold ascV memV
  rw [setB_len];exact h
theorem ascV_set {n:Nat} {f:Nat→Bool} {x:Nat} (hx:x<n):setI (ascV n f) x=f x:=by
  cases h:f x with
  |true=>exact setI_iff.2 (ascV_mem.2 ⟨x,hx,h,rfl⟩)
  |false=>
   rw [Bool.eq_false_iff]
   intro h'
   obtain ⟨i,_,h2,h3⟩:=ascV_mem.1 (setI_iff.1 h')
   have:i=x:=by omega
   rw [this,h] at h2;cases h2
theorem set_iff {r:List Bool} {n i:Nat} {Q:Nat→Prop} (hl:r.length=n) (h:∀x,x<n→(r.getD x false=true↔Q x)) (hi:i<n):(r.set i true).length=n∧∀x,x<n→((r.set i true).getD x false=true↔(Q x∨x=i)):=
  ⟨by rw [List.length_set];exact hl,fun x hx=>by
    by_cases e:x=i
    · subst e;rw [getD_set_eq (by omega)];simp
    · rw [getD_set_ne (Ne.symm e),h x hx];simp [e]⟩
theorem setB_ofP {r:List Bool} {n:Nat} {f:Nat→Bool} (hl:r.length=n) (h:∀x,x<n→(r.getD x false=true↔f x=true)):r=setB n f:=
  setB_of hl fun x hx=>Bool.eq_iff_iff.2 (h x hx)
def inT (t:List (List Int)) (l:List Int):Prop:=∀x∈l,0≤x∧x<(t.length:Int)
instance (t:List (List Int)) (l:List Int):Decidable (inT t l):=by unfold inT;infer_instance
def IdF (t:List (List Int)) (f:Nat→Bool):Prop:=∀x s,x<t.length→s<t.length→f x=true→f (en t x s)=true∧f (en t s x)=true
def Asc (l:List Int):Prop:=∀i,i+1<l.length→l.getD i 0<l.getD (i+1) 0
def IdL (t:List (List Int)) (l:List Int):Prop:=0<l.length∧Asc l∧inT t l∧IdF t (setI l)
def allP (t:List (List Int)):Nat→Nat|0=>0|s+1=>en t (allP t s) s
theorem allP_lt {t:List (List Int)} (h:Sh t) (ht:0<t.length):∀s,s≤t.length→allP t s<t.length
  |0,_=>ht
  |s+1,hs=>(h.ent (allP_lt h ht s (by omega)) (by omega)).2
def kerF (t:List (List Int)):Nat→Bool:=twoF t (setI [((allP t t.length:Nat):Int)])
noncomputable def idB (t:List (List Int)) (l:List Int):Bool:=decide (IdL t l)
theorem idB_true {t:List (List Int)} {l:List Int}:idB t l=true↔IdL t l:=by unfold idB;exact decide_eq_true_iff
theorem idB_false {t:List (List Int)} {l:List Int}:idB t l=false↔¬IdL t l:=by unfold idB;exact decide_eq_false_iff_not
structure AscTo (t:List (List Int)) (l:List Int) (i:Nat):Prop where
  le:i≤l.length
  ins:∀j,j<i→0≤l.getD j 0∧l.getD j 0<(t.length:Int)
  asc:∀j,j+1<i→l.getD j 0<l.getD (j+1) 0
theorem AscTo.start {t:List (List Int)} {l:List Int}:AscTo t l 0:=⟨Nat.zero_le _,fun j hj=>absurd hj (Nat.not_lt_zero _),fun j hj=>by omega⟩
theorem AscTo.next {t:List (List Int)} {l:List Int} {i:Nat} (h:AscTo t l i) (hi:i<l.length) (h1:0≤l.getD i 0) (h2:l.getD i 0<(t.length:Int)) (h3:0<i→l.getD (i - 1) 0<l.getD i 0):AscTo t l (i+1):=
  ⟨hi,fun j hj=>by
    by_cases e:j=i
    · subst e;exact ⟨h1,h2⟩
    · exact h.ins j (by omega),fun j hj=>by
    by_cases e:j+1=i
    · subst e;exact h3 (by omega)
    · exact h.asc j (by omega)⟩
theorem AscTo.done {t:List (List Int)} {l:List Int} {i:Nat} (h:AscTo t l i) (hi:l.length≤i):Asc l∧inT t l:=by
  have e:i=l.length:=Nat.le_antisymm h.le hi
  subst e
  refine ⟨fun j hj=>h.asc j hj,fun x hx=>?_⟩
  obtain ⟨j,hj,rfl⟩:=mem_getD 0 hx
  exact h.ins j hj
theorem swap2 {t:List (List Int)} (h:Semi t) {x y z:Nat} (hx:x<t.length) (h1:inLB t x y=true) (h2:inRB t y z=true):∃w,w<t.length∧inRB t x w=true∧inLB t w z=true:=by
  have hy:=inL_lt h.toSh hx h1
  rcases (inRB_iff h.toSh hy).1 h2 with rfl|⟨s,hs,rfl⟩
  · exact ⟨x,hx,(inRB_iff h.toSh hx).2 (.inl rfl),h1⟩
  · rcases (inLB_iff h.toSh hx).1 h1 with rfl|⟨r,hr,rfl⟩
    · exact ⟨en t y s,(h.toSh.ent hy hs).2,(inRB_iff h.toSh hy).2 (.inr ⟨s,hs,rfl⟩),(inLB_iff h.toSh (h.toSh.ent hy hs).2).2 (.inl rfl)⟩
    · have hw:=(h.toSh.ent hx hs).2
      exact ⟨en t x s,hw,(inRB_iff h.toSh hx).2 (.inr ⟨s,hs,rfl⟩),(inLB_iff h.toSh hw).2 (.inr ⟨r,hr,(assoc3 h.assoc hr hx hs).symm⟩)⟩
theorem twoF_iff {t:List (List Int)} (h:Semi t) {g:Nat→Bool} {x:Nat}:twoF t g x=true↔∃y,y<t.length∧g y=true∧inJB t y x=true:=by
  unfold twoF
  rw [lftF_iff]
  constructor
  · rintro ⟨y,hy,h1,h2⟩
    obtain ⟨z,hz,h3,h4⟩:=rgtF_iff.1 h1
    obtain ⟨w,hw,h5,h6⟩:=swap h hz h4 h2
    exact ⟨z,hz,h3,(inJB_iff h.toSh hz).2 ⟨w,hw,h5,h6⟩⟩
  · rintro ⟨y,hy,h1,h2⟩
    obtain ⟨z,hz,h3,h4⟩:=(inJB_iff h.toSh hy).1 h2
    obtain ⟨w,hw,h5,h6⟩:=swap2 h hy h3 h4
    exact ⟨w,hw,rgtF_iff.2 ⟨y,hy,h1,h5⟩,h6⟩
end Go.Proofs.YtjabhmhhhlcopaaGreatDoor
end
