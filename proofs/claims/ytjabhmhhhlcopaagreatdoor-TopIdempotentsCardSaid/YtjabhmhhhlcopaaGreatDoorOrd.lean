import Derived.Test.YtjabhmhhhlcopaaGreatDoorPartLaw
import Derived.Test.YtjabhmhhhlcopaaGreatDoorBits
import Derived.Test.YtjabhmhhhlcopaaGreatDoorAwk
import Derived.Test.YtjabhmhhhlcopaaGreatDoorBase
section
namespace Go.Proofs.YtjabhmhhhlcopaaGreatDoor
open Go Go.AM
def inRB (t:List (List Int)) (y x:Nat):Bool:=decide (x=y)||(t.getD y []).contains (x:Int)
def inLB (t:List (List Int)) (y x:Nat):Bool:=decide (x=y)||t.any fun row=>row.getD y 0==(x:Int)
def inJB (t:List (List Int)) (y x:Nat):Bool:=(List.range t.length).any fun z=>inLB t y z&&inRB t z x
structure IdR (n:Nat) (e:Nat→Nat→Bool) (I:List (List Int)):Prop where
  len:I.length=n
  row:∀y,y<n→(I.getD y []).length=(n+63) / 64∧wordsOk (I.getD y [])
  bit:∀y x,y<n→x<n→bit (I.getD y []) x=e y x
def rep (e:Nat→Nat→Bool) (x:Nat):Nat:=((List.range x).find? fun y=>e x y&&e y x).getD x
def repsL (n:Nat) (e:Nat→Nat→Bool):List Int:=(List.range n).map fun x=>((rep e x:Nat):Int)
theorem rep_of {e:Nat→Nat→Bool} {x y:Nat} (hy:y<x) (h:(e x y&&e y x)=true) (hn:∀z,z<y→(e x z&&e z x)=false):rep e x=y:=by
  unfold rep
  have:(List.range x).find? (fun y=>e x y&&e y x)=some y:=by
    rw [List.find?_range_eq_some]
    exact ⟨h,by rw [List.mem_range];exact hy,fun z hz=>by show (!_)=true;rw [hn z hz];rfl⟩
  rw [this];rfl
theorem rep_none {e:Nat→Nat→Bool} {x:Nat} (h:∀y,y<x→(e x y&&e y x)=false):rep e x=x:=by
  unfold rep
  have:(List.range x).find? (fun y=>e x y&&e y x)=none:=by
    rw [List.find?_range_eq_none]
    exact fun y hy=>by show (!_)=true;rw [h y hy];rfl
  rw [this];rfl
theorem rep_cases (e:Nat→Nat→Bool) (x:Nat):(rep e x=x∧∀y,y<x→(e x y&&e y x)=false)∨(rep e x<x∧(e x (rep e x)&&e (rep e x) x)=true∧∀y,y<rep e x→(e x y&&e y x)=false):=by
  by_cases h:∀y,y<x→(e x y&&e y x)=false
  · exact .inl ⟨rep_none h,h⟩
  · have:∃y,y<x∧(e x y&&e y x)=true:=by
      apply Classical.byContradiction
      intro hn
      exact h fun y hy=>by
        cases hb:(e x y&&e y x) with
        |false=>rfl
        |true=>exact absurd ⟨y,hy,hb⟩ hn
    have least:∀n,(∃y,y<n∧y<x∧(e x y&&e y x)=true)→∃y,y<x∧(e x y&&e y x)=true∧∀z,z<y→(e x z&&e z x)=false:=by
      intro n
      induction n with
      |zero=>rintro ⟨y,hy,_⟩;exact absurd hy (Nat.not_lt_zero _)
      |succ n ih=>
       rintro ⟨y,hy,hyx,hb⟩
       by_cases hl:∃z,z<n∧z<x∧(e x z&&e z x)=true
       · exact ih hl
       · refine ⟨y,hyx,hb,fun z hz=>?_⟩
         cases hzb:(e x z&&e z x) with
         |false=>rfl
         |true=>exact absurd ⟨z,by omega,by omega,hzb⟩ hl
    obtain ⟨y,hy,hb⟩:=this
    obtain ⟨y,h1,h2,h3⟩:=least (y+1) ⟨y,Nat.lt_succ_self _,hy,hb⟩
    have:=rep_of h1 h2 h3
    exact .inr (by rw [this];exact ⟨h1,h2,h3⟩)
theorem repsL_len (n:Nat) (e:Nat→Nat→Bool):(repsL n e).length=n:=by simp [repsL]
theorem repsL_get {n:Nat} {e:Nat→Nat→Bool} {x:Nat} (hx:x<n):(repsL n e).getD x 0=((rep e x:Nat):Int):=by
  simp only [repsL,List.getD,List.getElem?_map,List.getElem?_range hx,Option.map_some,Option.getD_some]
structure Pre (n:Nat) (e:Nat→Nat→Bool):Prop where
  refl:∀x,x<n→e x x=true
  trans:∀x y z,x<n→y<n→z<n→e x y=true→e y z=true→e x z=true
theorem rep_iff {n:Nat} {e:Nat→Nat→Bool} (h:Pre n e) {x y:Nat} (hx:x<n) (hy:y<n):rep e x=rep e y↔(e x y=true∧e y x=true):=by
  have muty:∀x,x<n→rep e x<n∧e x (rep e x)=true∧e (rep e x) x=true:=fun x hx=>by
    rcases rep_cases e x with ⟨h1,_⟩|⟨h1,h2,_⟩
    · rw [h1];exact ⟨hx,h.refl x hx,h.refl x hx⟩
    · rw [Bool.and_eq_true] at h2;exact ⟨by omega,h2.1,h2.2⟩
  have least:∀x z,x<n→z<n→e x z=true→e z x=true→rep e x≤z:=fun x z hx hz h1 h2=>by
    rcases rep_cases e x with ⟨g1,g2⟩|⟨g1,_,g2⟩
    · rw [g1]
      apply Nat.le_of_not_lt
      intro hlt
      have:=g2 z hlt
      rw [h1,h2] at this;cases this
    · apply Nat.le_of_not_lt
      intro hlt
      have:=g2 z hlt
      rw [h1,h2] at this;cases this
  obtain ⟨a1,a2,a3⟩:=muty x hx
  obtain ⟨b1,b2,b3⟩:=muty y hy
  constructor
  · intro he
    exact ⟨h.trans x (rep e x) y hx a1 hy a2 (he▸b3),h.trans y (rep e x) x hy a1 hx (he▸b2) a3⟩
  · rintro ⟨h1,h2⟩
    apply Nat.le_antisymm
    · exact least x (rep e y) hx b1 (h.trans x y _ hx hy b1 h1 b2) (h.trans _ y x b1 hy hx b3 h2)
    · exact least y (rep e x) hy a1 (h.trans y x _ hy hx a1 h2 a2) (h.trans _ x y a1 hx hy a3 h1)
def clsL (n:Nat) (e:Nat→Nat→Bool):List Int:=canon (repsL n e)
theorem clsL_len (n:Nat) (e:Nat→Nat→Bool):(clsL n e).length=n:=by rw [clsL,canon_length,repsL_len]
theorem clsL_iff {n:Nat} {e:Nat→Nat→Bool} (h:Pre n e) {x y:Nat} (hx:x<n) (hy:y<n):(clsL n e).getD x 0=(clsL n e).getD y 0↔(e x y=true∧e y x=true):=by
  rw [clsL,canon_eq_iff (d:=0) (by rw [repsL_len];exact hx) (by rw [repsL_len];exact hy),repsL_get hx,repsL_get hy,←rep_iff h hx hy]
  exact Int.ofNat_inj
theorem clsL_valid {n:Nat} {e:Nat→Nat→Bool} (hn:n≤4096):validP (clsL n e):=⟨by rw [clsL_len];exact hn,canon_idem _⟩
theorem inRB_iff {t:List (List Int)} (h:Sh t) {y x:Nat} (hy:y<t.length):inRB t y x=true↔x=y∨∃s,s<t.length∧en t y s=x:=by
  unfold inRB
  rw [Bool.or_eq_true,decide_eq_true_eq,List.contains_iff_mem]
  refine or_congr Iff.rfl ⟨fun hm=>?_,fun ⟨s,hs,he⟩=>?_⟩
  · obtain ⟨s,hs,he⟩:=mem_getD 0 hm
    rw [h.len hy] at hs
    have:=(h.ent hy hs).1
    exact ⟨s,hs,by rw [he] at this;exact_mod_cast this.symm⟩
  · have:=(h.ent hy hs).1
    rw [←he,←this]
    exact getD_mem (by rw [h.len hy];exact hs)
theorem inLB_iff {t:List (List Int)} (h:Sh t) {y x:Nat} (hy:y<t.length):inLB t y x=true↔x=y∨∃s,s<t.length∧en t s y=x:=by
  unfold inLB
  rw [Bool.or_eq_true,decide_eq_true_eq,List.any_eq_true]
  refine or_congr Iff.rfl ⟨fun ⟨row,hm,he⟩=>?_,fun ⟨s,hs,he⟩=>?_⟩
  · obtain ⟨s,hs,rfl⟩:=mem_getD [] hm
    have:=(h.ent hs hy).1
    have he:(t.getD s []).getD y 0=(x:Int):=by simpa using he
    exact ⟨s,hs,by rw [he] at this;exact_mod_cast this.symm⟩
  · refine ⟨t.getD s [],getD_mem hs,?_⟩
    have:=(h.ent hs hy).1
    rw [this,he];simp
theorem inR_lt {t:List (List Int)} (h:Sh t) {y x:Nat} (hy:y<t.length) (hx:inRB t y x=true):x<t.length:=by
  rcases (inRB_iff h hy).1 hx with rfl|⟨s,hs,rfl⟩
  · exact hy
  · exact (h.ent hy hs).2
theorem inL_lt {t:List (List Int)} (h:Sh t) {y x:Nat} (hy:y<t.length) (hx:inLB t y x=true):x<t.length:=by
  rcases (inLB_iff h hy).1 hx with rfl|⟨s,hs,rfl⟩
  · exact hy
  · exact (h.ent hs hy).2
theorem preR {t:List (List Int)} (h:Semi t):Pre t.length (inRB t) where
  refl x hx:=(inRB_iff h.toSh hx).2 (.inl rfl)
  trans x y z hx hy hz h1 h2:=by
    rw [inRB_iff h.toSh hx] at h1 ⊢
    rw [inRB_iff h.toSh hy] at h2
    rcases h1 with rfl|⟨s,hs,rfl⟩
    · exact h2
    · rcases h2 with rfl|⟨u,hu,rfl⟩
      · exact .inr ⟨s,hs,rfl⟩
      · exact .inr ⟨en t s u,(h.toSh.ent hs hu).2,(assoc3 h.assoc hx hs hu).symm⟩
theorem preL {t:List (List Int)} (h:Semi t):Pre t.length (inLB t) where
  refl x hx:=(inLB_iff h.toSh hx).2 (.inl rfl)
  trans x y z hx hy hz h1 h2:=by
    rw [inLB_iff h.toSh hx] at h1 ⊢
    rw [inLB_iff h.toSh hy] at h2
    rcases h1 with rfl|⟨s,hs,rfl⟩
    · exact h2
    · rcases h2 with rfl|⟨u,hu,rfl⟩
      · exact .inr ⟨s,hs,rfl⟩
      · exact .inr ⟨en t u s,(h.toSh.ent hu hs).2,assoc3 h.assoc hu hs hx⟩
theorem inJB_iff {t:List (List Int)} (_h:Sh t) {y x:Nat} (_hy:y<t.length):inJB t y x=true↔∃z,z<t.length∧inLB t y z=true∧inRB t z x=true:=by
  unfold inJB
  rw [List.any_eq_true]
  constructor
  · rintro ⟨z,hz,he⟩
    rw [Bool.and_eq_true] at he
    exact ⟨z,List.mem_range.1 hz,he⟩
  · rintro ⟨z,hz,he⟩
    exact ⟨z,List.mem_range.2 hz,by rw [Bool.and_eq_true];exact he⟩
theorem swap {t:List (List Int)} (h:Semi t) {x y z:Nat} (hx:x<t.length) (h1:inRB t x y=true) (h2:inLB t y z=true):∃w,w<t.length∧inLB t x w=true∧inRB t w z=true:=by
  have hy:=inR_lt h.toSh hx h1
  have hz:=inL_lt h.toSh hy h2
  rw [inLB_iff h.toSh hy] at h2
  rcases h2 with rfl|⟨s,hs,rfl⟩
  · exact ⟨x,hx,(inLB_iff h.toSh hx).2 (.inl rfl),h1⟩
  · rw [inRB_iff h.toSh hx] at h1
    rcases h1 with rfl|⟨u,hu,rfl⟩
    · exact ⟨en t s y,hz,(inLB_iff h.toSh hx).2 (.inr ⟨s,hs,rfl⟩),(inRB_iff h.toSh hz).2 (.inl rfl)⟩
    · have hw:=(h.toSh.ent hs hx).2
      exact ⟨en t s x,hw,(inLB_iff h.toSh hx).2 (.inr ⟨s,hs,rfl⟩),(inRB_iff h.toSh hw).2 (.inr ⟨u,hu,assoc3 h.assoc hs hx hu⟩)⟩
theorem preJ {t:List (List Int)} (h:Semi t):Pre t.length (inJB t) where
  refl x hx:=(inJB_iff h.toSh hx).2 ⟨x,hx,(preL h).refl x hx,(preR h).refl x hx⟩
  trans x y z hx hy hz h1 h2:=by
    rw [inJB_iff h.toSh hx] at h1 ⊢
    rw [inJB_iff h.toSh hy] at h2
    obtain ⟨a,ha,h3,h4⟩:=h1
    obtain ⟨b,hb,h5,h6⟩:=h2
    obtain ⟨c,hc,h7,h8⟩:=swap h ha h4 h5
    exact ⟨c,hc,(preL h).trans x a c hx ha hc h3 h7,(preR h).trans c b z hc hb hz h8 h6⟩
theorem inJ_lt {t:List (List Int)} (h:Sh t) {y x:Nat} (hy:y<t.length) (hx:inJB t y x=true):x<t.length:=by
  obtain ⟨z,hz,h1,h2⟩:=(inJB_iff h hy).1 hx
  exact inR_lt h hz h2
def classR (t:List (List Int)):List Int:=clsL t.length (inRB t)
def classL (t:List (List Int)):List Int:=clsL t.length (inLB t)
def classJ (t:List (List Int)):List Int:=clsL t.length (inJB t)
def classH (t:List (List Int)):List Int:=canon ((classR t).zip (classL t))
def fstC (p:List Int) (c:Nat):Nat:=(((classes (classN p) p).getD c []).getD 0 0).toNat
def numJ (t:List (List Int)):Nat:=classN (classJ t)
def belowL (t:List (List Int)):List (List Bool):=(List.range (numJ t)).map fun i=>(List.range (numJ t)).map fun j=>inJB t (fstC (classJ t) j) (fstC (classJ t) i)
theorem belowL_len (t:List (List Int)):(belowL t).length=numJ t:=by simp [belowL]
theorem belowL_row {t:List (List Int)} {i:Nat} (hi:i<numJ t):(belowL t).getD i []=(List.range (numJ t)).map fun j=>inJB t (fstC (classJ t) j) (fstC (classJ t) i):=by
  simp only [belowL,List.getD,List.getElem?_map,List.getElem?_range hi,Option.map_some,Option.getD_some]
theorem belowL_get {t:List (List Int)} {i j:Nat} (hi:i<numJ t) (hj:j<numJ t):((belowL t).getD i []).getD j false=inJB t (fstC (classJ t) j) (fstC (classJ t) i):=by
  rw [belowL_row hi]
  simp only [List.getD,List.getElem?_map,List.getElem?_range hj,Option.map_some,Option.getD_some]
theorem fst_of {p:List Int} (h:canon p=p) {c:Nat} (hc:c<classN p):0<((classes (classN p) p).getD c []).length∧((classes (classN p) p).getD c []).getD 0 0=((fstC p c:Nat):Int)∧fstC p c<p.length∧p.getD (fstC p c) 0=c:=by
  have hm:=(valid_range h (c:Int)).1 ⟨by omega,by omega⟩
  obtain ⟨i,hi,he⟩:=mem_getD 0 hm
  have hin:((i:Nat):Int)∈(classes (classN p) p).getD c []:=(mem_classes hc).2 ⟨by omega,by omega,by simpa using he⟩
  have hpos:0<((classes (classN p) p).getD c []).length:=List.length_pos_of_mem hin
  have h0:=(mem_classes hc).1 (getD_mem (d:=0) hpos)
  refine ⟨hpos,?_,?_,?_⟩
  · unfold fstC;omega
  · unfold fstC;omega
  · unfold fstC;exact h0.2.2
theorem classJ_len (t:List (List Int)):(classJ t).length=t.length:=clsL_len _ _
theorem classR_len (t:List (List Int)):(classR t).length=t.length:=clsL_len _ _
theorem classL_len (t:List (List Int)):(classL t).length=t.length:=clsL_len _ _
theorem classJ_canon (t:List (List Int)):canon (classJ t)=classJ t:=canon_idem _
theorem numJ_le (t:List (List Int)):numJ t≤t.length:=by
  have:=firsts_le (classJ t)
  rw [classJ_len] at this;exact this
theorem classJ_lt (t:List (List Int)) {x:Nat} (hx:x<t.length):0≤(classJ t).getD x 0∧(classJ t).getD x 0<numJ t:=by
  have:=(valid_range (classJ_canon t) ((classJ t).getD x 0)).2 (getD_mem (by rw [classJ_len];exact hx))
  exact this
theorem classJ_iff {t:List (List Int)} (h:Semi t) {x y:Nat} (hx:x<t.length) (hy:y<t.length):(classJ t).getD x 0=(classJ t).getD y 0↔(inJB t x y=true∧inJB t y x=true):=clsL_iff (preJ h) hx hy
theorem fstJ {t:List (List Int)} {c:Nat} (hc:c<numJ t):0<((classes (numJ t) (classJ t)).getD c []).length∧((classes (numJ t) (classJ t)).getD c []).getD 0 0=((fstC (classJ t) c:Nat):Int)∧fstC (classJ t) c<t.length∧(classJ t).getD (fstC (classJ t) c) 0=c:=by
  have:=fst_of (classJ_canon t) hc
  rw [classJ_len] at this
  exact this
end Go.Proofs.YtjabhmhhhlcopaaGreatDoor
end
section
namespace Go.Proofs.YtjabhmhhhlcopaaGreatDoor
open Classical
def rowsOk (n:Nat) (R:Int) (P:List (List Int)) (z:Bool):Prop:=∀row∈P,(row.length:Int)=R∧∀g∈row, -1≤g∧g<n∧(g<0→z=true)
structure Shaped (G:List (List Int)) (R C:Int) (P:List (List Int)) (z:Bool):Prop where
  r:1≤R
  c:1≤C
  p:(P.length:Int)=C
  rows:rowsOk G.length R P z
def zI (z:Bool):Int:=if z then 1 else 0
def sizeI (n R C:Int) (z:Bool):Int:=n*R*C+zI z
structure Rees (G:List (List Int)) (R C:Int) (P:List (List Int)) (z:Bool):Prop where
  grp:Grp G
  sh:Shaped G R C P z
  small:sizeI G.length R C z≤400
theorem z_cases (z:Bool):zI z=0∨zI z=1:=by cases z<;>simp [zI]
theorem Rees.le {G:List (List Int)} {R C:Int} {P:List (List Int)} {z:Bool} (h:Rees G R C P z):
    1≤(G.length:Int)∧(G.length:Int)≤400∧1≤R∧R≤400∧1≤C∧C≤400∧G.length*R≤400∧R*C≤400∧G.length*C≤400∧G.length*R*C≤400:=by
  have hp:=h.grp.pos
  have hr:=h.sh.r
  have hc:=h.sh.c
  have hs:=h.small
  unfold sizeI at hs
  have hz:=z_cases z
  have h1:G.length*R*C≤400:=by omega
  have hn:1≤(G.length:Int):=by omega
  have a1:0≤(G.length:Int)*R:=Int.mul_nonneg (by omega) (by omega)
  have a2:(G.length:Int)*R≤G.length*R*C:=by
    have:=Int.mul_le_mul_of_nonneg_left hc a1
    rw [Int.mul_one] at this;exact this
  have a3:(G.length:Int)≤G.length*R:=by
    have:=Int.mul_le_mul_of_nonneg_left hr (show 0≤(G.length:Int) by omega)
    rw [Int.mul_one] at this;exact this
  have a4:R≤G.length*R:=by
    have:=Int.mul_le_mul_of_nonneg_right hn (show 0≤R by omega)
    rw [Int.one_mul] at this;exact this
  have a5:R*C≤G.length*R*C:=by
    have:=Int.mul_le_mul_of_nonneg_right a4 (show 0≤C by omega)
    exact this
  have a6:C≤R*C:=by
    have:=Int.mul_le_mul_of_nonneg_right hr (show 0≤C by omega)
    rw [Int.one_mul] at this;exact this
  have a7:G.length*C≤G.length*R*C:=by
    have:=Int.mul_le_mul_of_nonneg_right a3 (show 0≤C by omega)
    exact this
  exact ⟨hn,by omega,hr,by omega,hc,by omega,by omega,by omega,by omega,h1⟩
def numI (n C:Int) (z:Bool) (i g l:Int):Int:=(i*n+g)*C+l+zI z
theorem num_lt {n R C:Int} {z:Bool} {i g l:Int} (hn:1≤n) (hC:1≤C) (hi:0≤i∧i<R) (hg:0≤g∧g<n) (hl:0≤l∧l<C):zI z≤numI n C z i g l∧numI n C z i g l<sizeI n R C z:=by
  unfold numI sizeI
  have a1:0≤i*n:=Int.mul_nonneg hi.1 (by omega)
  have a2:0≤(i*n+g)*C:=Int.mul_nonneg (by omega) (by omega)
  have a3:i*n+n≤n*R:=by
    have:=Int.mul_le_mul_of_nonneg_left (show i+1≤R by omega) (show 0≤n by omega)
    rw [Int.mul_add,Int.mul_one,Int.mul_comm n i] at this
    exact this
  have a4:(i*n+g+1)*C≤n*R*C:=Int.mul_le_mul_of_nonneg_right (by omega) (by omega)
  rw [Int.add_mul,Int.one_mul] at a4
  omega
theorem map_range_getD {α:Type} (f:Nat→α) (n i:Nat) (d:α) (h:i<n):((List.range n).map f).getD i d=f i:=by
  simp [List.getD,h]
theorem take_snoc {α:Type} {l:List α} {i:Nat} {d:α} (h:i<l.length):l.take (i+1)=l.take i++[l.getD i d]:=by
  rw [List.take_succ_eq_append_getElem h];simp [List.getD,h]
theorem ext_getD {α:Type} {l m:List α} (d:α) (hl:l.length=m.length) (h:∀i,i<l.length→l.getD i d=m.getD i d):l=m:=by
  refine List.ext_getElem hl fun i h1 h2=>?_
  have:=h i h1
  simpa [List.getD,h1,h2] using this
end Go.Proofs.YtjabhmhhhlcopaaGreatDoor
end
section
namespace Go.Proofs.YtjabhmhhhlcopaaGreatDoor
open Go Go.AM
def elemsJ (t:List (List Int)) (j:Nat):List Int:=(classes (numJ t) (classJ t)).getD j []
def inJ (t:List (List Int)) (j:Nat):List Bool:=(List.range t.length).map fun x=>decide ((classJ t).getD x 0=(j:Int))
def minJ (t:List (List Int)) (j:Nat):Bool:=(List.range (numJ t)).all fun k=>decide (k=j)|| !(inJB t (fstC (classJ t) j) (fstC (classJ t) k))
theorem inJ_len (t:List (List Int)) (j:Nat):(inJ t j).length=t.length:=by simp [inJ]
theorem inJ_get {t:List (List Int)} {j x:Nat} (hx:x<t.length):(inJ t j).getD x false=decide ((classJ t).getD x 0=(j:Int)):=by
  unfold inJ
  rw [List.getD,List.getElem?_map,List.getElem?_range hx]
  rfl
theorem elemsJ_eq {t:List (List Int)} {j:Nat} (hj:j<numJ t):elemsJ t j=((List.range t.length).filter fun i=>(classJ t).getD i 0=(j:Int)).map fun (i:Nat)=>(i:Int):=by
  unfold elemsJ;rw [classes_getD hj,classJ_len]
theorem mem_elems {t:List (List Int)} {j:Nat} (hj:j<numJ t) {x:Int}:x∈elemsJ t j↔0≤x∧x<t.length∧(classJ t).getD x.toNat 0=j:=by
  unfold elemsJ;rw [mem_classes hj,classJ_len]
theorem elems_nodup {t:List (List Int)} {j:Nat} (hj:j<numJ t):(elemsJ t j).Nodup:=by
  rw [elemsJ_eq hj,List.Nodup,List.pairwise_map]
  refine List.Pairwise.imp ?_ (List.Pairwise.sublist List.filter_sublist List.nodup_range)
  intro a b h e
  exact h (by exact_mod_cast e)
theorem elems_le {t:List (List Int)} {j:Nat} (hj:j<numJ t):(elemsJ t j).length≤t.length:=by
  rw [elemsJ_eq hj,List.length_map]
  exact Nat.le_trans (List.length_filter_le _ _) (by simp)
theorem elems_pos {t:List (List Int)} {j:Nat} (hj:j<numJ t):0<(elemsJ t j).length:=(fstJ hj).1
theorem minJ_iff {t:List (List Int)} {j:Nat}:minJ t j=true↔∀k,k<numJ t→k≠j→inJB t (fstC (classJ t) j) (fstC (classJ t) k)=false:=by
  unfold minJ
  rw [List.all_eq_true]
  constructor
  · intro h k hk hkj
    have:=h k (List.mem_range.2 hk)
    simpa [hkj] using this
  · intro h k hk
    have hk:=List.mem_range.1 hk
    by_cases hkj:k=j
    · simp [hkj]
    · simp [h k hk hkj]
theorem elems_lt {t:List (List Int)} {j:Nat} (hj:j<numJ t) (hm:minJ t j=false):(elemsJ t j).length<t.length:=by
  have:∃k,k<numJ t∧k≠j:=by
    apply Classical.byContradiction
    intro hn
    have:minJ t j=true:=minJ_iff.2 fun k hk hkj=>absurd ⟨k,hk,hkj⟩ hn
    rw [this] at hm;cases hm
  obtain ⟨k,hk,hkj⟩:=this
  have f:=fstJ hk
  rw [elemsJ_eq hj,List.length_map]
  have h1:=List.length_filter_lt_length_iff_exists (l:=List.range t.length) (p:=fun i=>(classJ t).getD i 0=(j:Int))
  rw [List.length_range] at h1
  refine h1.2 ⟨fstC (classJ t) k,List.mem_range.2 f.2.2.1,?_⟩
  rw [f.2.2.2]
  simp
  omega
section
variable {t:List (List Int)} {j:Nat} (h:Semi t) (hj:j<numJ t)
include hj
include h
omit hj in
theorem below_r {a b:Nat} (ha:a<t.length) (hb:b<t.length):inJB t a (en t a b)=true:=
  (inJB_iff h.toSh ha).2 ⟨a,ha,(preL h).refl a ha,(inRB_iff h.toSh ha).2 (.inr ⟨b,hb,rfl⟩)⟩
theorem min_stays (hm:minJ t j=true) {a b:Nat} (ha:a<t.length) (hb:b<t.length) (hc:(classJ t).getD a 0=j):(classJ t).getD (en t a b) 0=j:=by
  have hab:=(h.toSh.ent ha hb).2
  have hr:=classJ_lt t hab
  obtain ⟨k,hk⟩:∃k:Nat,(classJ t).getD (en t a b) 0=k:=⟨((classJ t).getD (en t a b) 0).toNat,by omega⟩
  have hkn:k<numJ t:=by omega
  have fj:=fstJ hj
  have fk:=fstJ hkn
  have h1:=(classJ_iff h fj.2.2.1 ha).1 (fj.2.2.2.trans hc.symm)
  have h2:=(classJ_iff h hab fk.2.2.1).1 (hk.trans fk.2.2.2.symm)
  have h3:=(preJ h).trans _ _ _ fj.2.2.1 ha hab h1.1 (below_r h ha hb)
  have h4:=(preJ h).trans _ _ _ fj.2.2.1 hab fk.2.2.1 h3 h2.1
  by_cases hkj:k=j
  · rw [hk,hkj]
  · rw [minJ_iff.1 hm k hkn hkj] at h4;cases h4
end
end Go.Proofs.YtjabhmhhhlcopaaGreatDoor
end
section
namespace Go.Proofs.YtjabhmhhhlcopaaGreatDoor
open Go Go.AM
set_option maxRecDepth 100000
def setB (n:Nat) (f:Nat→Bool):List Bool:=(List.range n).map f
theorem setB_len (n:Nat) (f:Nat→Bool):(setB n f).length=n:=by simp [setB]
theorem setB_get {n:Nat} {f:Nat→Bool} {x:Nat} (hx:x<n):(setB n f).getD x false=f x:=by
  unfold setB
  rw [List.getD,List.getElem?_map,List.getElem?_range hx];rfl
theorem rep_false (n x:Nat):(List.replicate n false).getD x false=false:=by
  simp only [List.getD,List.getElem?_replicate];split<;>rfl
end Go.Proofs.YtjabhmhhhlcopaaGreatDoor
end
section
namespace Go.Proofs.YtjabhmhhhlcopaaGreatDoor
open Go Go.AM
set_option maxRecDepth 100000
set_option maxHeartbeats 4000000 in
theorem rshape_k (t:List (List Int)):fnK TY SP Tryz.f219 [.ro (.rows .i64 t)] (.int .i64 (shapeV t)):=shape_k t
theorem rshape_fn (t:List (List Int)):QF 219 [.ro (.rows .i64 t)] (.int .i64 (shapeV t)):=mkQ Tryz.func219 (by decide+kernel) rfl (Nat.le_of_ble_eq_true rfl) fun _=>rshape_k t
theorem assoc_k (t:List (List Int)):fnEK TY SP Tryz.f174 [.ro (.rows .i64 t)] (fun x:Int × Int × Int=>.tup [.int .i64 x.1,.int .i64 x.2.1,.int .i64 x.2.2,.int .i64 (validV t)]) (fun _=>True):=by
  refine Or.inl (cq (rshape_fn t) (And.intro rfl trivial) ?_)
  refine And.intro (fun h1=>?_) (fun h1=>?_)
  · refine Exists.intro (0,0,0) (And.intro trivial ⟨rfl,rfl,rfl,?_,trivial⟩)
    show shapeV t=validV t
    unfold validV;rw [if_pos h1]
  have hs:=shape_zero.1 h1
  have hpos:=hs.pos
  have hmost:=hs.most
  refine Exists.intro []<|lp (X:=Nat) (fun x=>[(17,.int .i64 x)]) (fun _=>[]) (fun x=>x≤t.length∧∀x' y z,x'<x→y<t.length→z<t.length→en t (en t x' y) z=en t x' (en t y z)) (fun x=>t.length - x) 0 ⟨Nat.zero_le _,by omega⟩ ⟨⟨rfl,trivial⟩,trivial⟩ ?_
  intro x hx
  refine And.intro (fun h2=>?_) (fun h2=>?_)
  · refine Exists.intro []<|lp (X:=Nat) (fun y=>[(22,.int .i64 y)]) (fun _=>[]) (fun y=>y≤t.length∧∀y' z,y'<y→z<t.length→en t (en t x y') z=en t x (en t y' z)) (fun y=>t.length - y) 0 ⟨Nat.zero_le _,by omega⟩ ⟨⟨rfl,trivial⟩,trivial⟩ ?_
    intro y hy
    refine And.intro (fun h3=>?_) (fun h3=>?_)
    · refine Exists.intro []<|lp (X:=Nat) (fun z=>[(27,.int .i64 z)]) (fun _=>[]) (fun z=>z≤t.length∧∀z',z'<z→en t (en t x y) z'=en t x (en t y z')) (fun z=>t.length - z) 0 ⟨Nat.zero_le _,by omega⟩ ⟨⟨rfl,trivial⟩,trivial⟩ ?_
      intro z hz
      refine And.intro (fun h4=>?_) (fun h4=>?_)
      · have hxl:x<t.length:=by omega
        have hyl:y<t.length:=by omega
        have hzl:z<t.length:=by omega
        have a1:=hs.ent hxl hyl
        have a2:=hs.ent a1.2 hzl
        have a3:=hs.ent hyl hzl
        have a4:=hs.ent hxl a3.2
        have l1:=hs.len hxl
        have l2:=hs.len hyl
        have l3:=hs.len a1.2
        refine Or.inl<|Exists.intro [false,false,false,false,false,false,false,false,false,false,false,false,false,false,false,false,false,false,false,false,false,false,false,false,false,false,false] (And.intro (by decide+kernel) ?_)
        refine And.intro (by omega) ?_
        refine And.intro (by simp only [Int.toNat_natCast];omega) ?_
        refine And.intro (by simp only [Int.toNat_natCast];omega) ?_
        refine And.intro (show 0≤(z:Int)∧(z:Int)<((t.getD (en t x y) []).length:Int) by omega) ?_
        refine And.intro (by omega) ?_
        refine And.intro (by omega) ?_
        refine And.intro (by simp only [Int.toNat_natCast];omega) ?_
        refine And.intro (by simp only [Int.toNat_natCast];omega) ?_
        refine And.intro (fun h5=>?_) (fun h5=>?_)
        · have h5:(t.getD (en t x y) []).getD z 0≠(t.getD x []).getD (en t y z) 0:=h5
          rw [a2.1,a4.1] at h5
          refine Exists.intro ((x:Int),(y:Int),(z:Int)) (And.intro trivial ⟨rfl,rfl,rfl,?_,trivial⟩)
          show (5:Int)=validV t
          unfold validV
          rw [if_neg (by omega),if_neg]
          intro ha
          exact h5 (congrArg _ (ha y hyl x z hxl hzl))
        · have h5:(t.getD (en t x y) []).getD z 0=(t.getD x []).getD (en t y z) 0:=h5
          rw [a2.1,a4.1] at h5
          refine And.intro (by omega) ?_
          refine nx (z+1) ⟨by omega,fun z' hz'=>?_⟩ (show t.length - (z+1)<t.length - z by omega) ⟨⟨rfl,trivial⟩,trivial⟩
          by_cases hzz:z'<z
          · exact hz.2 z' hzz
          · have:z'=z:=by omega
            rw [this];exact_mod_cast h5
      · refine And.intro (by omega) ?_
        refine nx (y+1) ⟨by omega,fun y' z hy' hz'=>?_⟩ (show t.length - (y+1)<t.length - y by omega) ⟨⟨rfl,trivial⟩,trivial⟩
        by_cases hyy:y'<y
        · exact hy.2 y' z hyy hz'
        · have:y'=y:=by omega
          rw [this];exact hz.2 z (by omega)
    · refine And.intro (by omega) ?_
      refine nx (x+1) ⟨by omega,fun x' y z hx' hy' hz'=>?_⟩ (show t.length - (x+1)<t.length - x by omega) ⟨⟨rfl,trivial⟩,trivial⟩
      by_cases hxx:x'<x
      · exact hx.2 x' y z hxx hy' hz'
      · have:x'=x:=by omega
        rw [this];exact hy.2 y z (by omega) hz'
  · refine Exists.intro (0,0,0) (And.intro trivial ⟨rfl,rfl,rfl,?_,trivial⟩)
    show 0=validV t
    symm
    rw [valid_zero]
    exact ⟨hs,fun g hg x y hx' hy'=>hx.2 x g y (by omega) hg hy'⟩
theorem rvalidate_fn (t:List (List Int)):QF 107 [.ro (.rows .i64 t)] (.int .i64 (validV t)):=mkQ Tryz.func107 (by decide+kernel) rfl (Nat.le_of_ble_eq_true rfl) fun _=>by
  refine Or.inr (Or.inr (ce (mkE Tryz.func174 (by decide+kernel) rfl (Nat.le_of_ble_eq_true rfl) fun _=>assoc_k t) (And.intro rfl trivial) fun x _=>?_))
  exact And.intro rfl trivial
theorem rvalid_fn (t:List (List Int)):QF 44 [.ro (.rows .i64 t)] (.bool (.v (decide (validV t=0)))):=mkQ Tryz.func44 (by decide+kernel) rfl (Nat.le_of_ble_eq_true rfl) fun _=>by
  refine Or.inl (cq (rvalidate_fn t) (And.intro rfl trivial) ?_)
  exact And.intro rfl trivial
end Go.Proofs.YtjabhmhhhlcopaaGreatDoor
end
section
namespace Go.Proofs.YtjabhmhhhlcopaaGreatDoor
open Go Go.AM
set_option maxRecDepth 100000
def rowsB (n:Nat) (e:Nat→Nat→Bool):List (List Bool):=(List.range n).map fun x=>setB n (e x)
end Go.Proofs.YtjabhmhhhlcopaaGreatDoor
end
section
namespace Go.Proofs.YtjabhmhhhlcopaaGreatDoor
open Go Go.AM
set_option maxRecDepth 100000
abbrev rav (G:List (List Int)) (R C:Int) (P:List (List Int)) (z:Bool):AV:=.agg [.ro (.rows .i64 G),.int .i64 R,.int .i64 C,.ro (.rows .i64 P),.bool (.v z)]
theorem numI_true (n C i g l:Int):(i*n+g)*C+l+1=numI n C true i g l:=by simp [numI,zI]
theorem numI_false (n C i g l:Int):(i*n+g)*C+l=numI n C false i g l:=by simp [numI,zI]
theorem num_fn (G:List (List Int)) (R C:Int) (P:List (List Int)) (z:Bool) (h:Rees G R C P z) (i g l:Int) (hi:0≤i∧i<R) (hg:0≤g∧g<G.length) (hl:0≤l∧l<C):
    QF 71 [rav G R C P z,.int .i64 i,.int .i64 g,.int .i64 l] (.int .i64 (numI G.length C z i g l)):=mkQ Tryz.func71 (by decide+kernel) rfl (Nat.le_of_ble_eq_true rfl) fun _=>by
  have hle:=h.le
  have hz:=z_cases z
  have hn:=num_lt (z:=z) (n:=G.length) hle.1 hle.2.2.2.2.1 hi hg hl
  have hs:=h.small
  have a1:0≤i*(G.length:Int):=Int.mul_nonneg hi.1 (by omega)
  have a2:0≤(i*(G.length:Int)+g)*C:=Int.mul_nonneg (by omega) (by omega)
  have a3:i*(G.length:Int)+g≤(i*(G.length:Int)+g)*C:=by
    have:=Int.mul_le_mul_of_nonneg_left (show (1:Int)≤C by omega) (show 0≤i*(G.length:Int)+g by omega)
    rw [Int.mul_one] at this;exact this
  unfold numI at hn
  refine And.intro (by omega) ?_
  refine And.intro (by omega) ?_
  refine And.intro (by omega) ?_
  refine And.intro (by omega) ?_
  refine And.intro (fun h1=>?_) (fun h1=>?_)
  · refine And.intro (by omega) ?_
    refine And.intro ?_ trivial
    show (i*(G.length:Int)+g)*C+l+1=numI G.length C z i g l
    rw [h1];exact numI_true ..
  · refine And.intro ?_ trivial
    show (i*(G.length:Int)+g)*C+l=numI G.length C z i g l
    rw [h1];exact numI_false ..
theorem size_fn (G:List (List Int)) (R C:Int) (P:List (List Int)) (z:Bool) (hG:1≤G.length∧G.length≤400) (hR:1≤R) (hC:1≤C):
    QF 70 [rav G R C P z] (.int .i64 (min (sizeI G.length R C z) 401)):=mkQ Tryz.func70 (by decide+kernel) rfl (Nat.le_of_ble_eq_true rfl) fun _=>by
  refine Exists.intro []<|lp2 (fun (k:Nat) (n:Int)=>[(14,.int .i64 k),(3,.int .i64 n)]) (fun _ _=>[]) (fun k n=>(k=0∧n=G.length)∨(k=1∧n=G.length*R∧R≤401)∨(k=2∧n=G.length*R*C∧R≤401∧C≤401∧G.length*R≤401)) (fun k _=>2 - k) 0 G.length (.inl ⟨rfl,rfl⟩) (by repeat' first|refine And.intro ?_ ?_|exact True.intro|(show (_:Int)=(_:Int);omega)|omega|exact rfl|(simp only [RO.len];omega)) ?_
  intro k n hk
  have hz:=z_cases z
  have p1:0≤(G.length:Int)*R:=Int.mul_nonneg (by omega) (by omega)
  have p2:1*R≤(G.length:Int)*R:=Int.mul_le_mul_of_nonneg_right (by omega) (by omega)
  have p3:(G.length:Int)*R*1≤G.length*R*C:=Int.mul_le_mul_of_nonneg_left (by omega) p1
  have p4:1*C≤G.length*R*C:=Int.mul_le_mul_of_nonneg_right (by omega) (by omega)
  refine And.intro (fun h1=>?_) (fun h1=>?_)
  · refine And.intro (by omega) ?_
    refine And.intro (fun h2=>?_) (And.intro (fun h2=>?_) trivial)
    · have h2:(k:Int)=0:=h2
      have hn:n=G.length:=by omega
      have r1:n*R≤400*R:=Int.mul_le_mul_of_nonneg_right (by omega) (by omega)
      have r2:0≤n*R:=Int.mul_nonneg (by omega) (by omega)
      refine And.intro (fun h3=>?_) (fun h3=>?_)
      · omega
      refine And.intro (fun h4=>?_) (fun h4=>?_)
      · refine And.intro ?_ trivial
        show 401=min (sizeI G.length R C z) 401
        unfold sizeI;omega
      · refine And.intro (by omega) ?_
        refine And.intro (by omega) ?_
        refine nx (k+1,n*R) (.inr (.inl ⟨by omega,by rw [hn],by omega⟩)) (show 2 - (k+1)<2 - k by omega) (by repeat' first|refine And.intro ?_ ?_|exact True.intro|(show (_:Int)=(_:Int);omega)|omega|exact rfl|(simp only [RO.len];omega))
    · have h2:(k:Int)=0+1:=h2
      have hn:n=G.length*R∧R≤401:=by omega
      refine And.intro (fun h3=>?_) (fun h3=>?_)
      · refine And.intro ?_ trivial
        show 401=min (sizeI G.length R C z) 401
        unfold sizeI;omega
      have r1:n*C≤401*C:=Int.mul_le_mul_of_nonneg_right (by omega) (by omega)
      have r2:0≤n*C:=Int.mul_nonneg (by omega) (by omega)
      refine And.intro (fun h4=>?_) (fun h4=>?_)
      · refine And.intro ?_ trivial
        show 401=min (sizeI G.length R C z) 401
        unfold sizeI;omega
      · refine And.intro (by omega) ?_
        refine And.intro (by omega) ?_
        refine nx (k+1,n*C) (.inr (.inr ⟨by omega,by rw [hn.1],by omega,by omega,by omega⟩)) (show 2 - (k+1)<2 - k by omega) (by repeat' first|refine And.intro ?_ ?_|exact True.intro|(show (_:Int)=(_:Int);omega)|omega|exact rfl|(simp only [RO.len];omega))
  · have hn:n=G.length*R*C∧R≤401∧C≤401∧G.length*R≤401:=by omega
    have r1:G.length*R*C≤401*C:=Int.mul_le_mul_of_nonneg_right (by omega) (by omega)
    refine And.intro (fun h2=>?_) (fun h2=>?_)
    · refine And.intro (by omega) ?_
      refine And.intro ?_ trivial
      show min (n+1) 401=min (sizeI G.length R C z) 401
      rw [h2,hn.1];rfl
    · refine And.intro ?_ trivial
      show min n 401=min (sizeI G.length R C z) 401
      have e:sizeI G.length R C z=n:=by rw [h2,hn.1];exact Int.add_zero _
      rw [e]
theorem sizeV (G:List (List Int)) (R C:Int) (P:List (List Int)) (z:Bool) (h:Rees G R C P z):QF 70 [rav G R C P z] (.int .i64 (sizeI G.length R C z)):=by
  have hle:=h.le
  have:=size_fn G R C P z ⟨by omega,by omega⟩ h.sh.r h.sh.c
  rwa [Int.min_eq_left (by have:=h.small;omega)] at this
end Go.Proofs.YtjabhmhhhlcopaaGreatDoor
end
section
namespace Go.Proofs.YtjabhmhhhlcopaaGreatDoor
open Go Go.AM
set_option maxRecDepth 100000
def memTo (l:List Bool) (k:Nat):List Int:=((List.range k).filter fun i=>l.getD i false).map fun i:Nat=>(i:Int)
def memV (l:List Bool):List Int:=memTo l l.length
theorem memTo_yes {l:List Bool} {k:Nat} (h:l.getD k false=true):memTo l (k+1)=memTo l k++[(k:Int)]:=by
  unfold memTo;rw [List.range_succ,List.filter_append,List.map_append,List.filter_cons_of_pos (p:=fun i=>l.getD i false) h];rfl
theorem memTo_no {l:List Bool} {k:Nat} (h:l.getD k false=false):memTo l (k+1)=memTo l k:=by
  unfold memTo;rw [List.range_succ,List.filter_append,List.map_append,List.filter_cons_of_neg (p:=fun i=>l.getD i false) (by rw [h];decide)];exact List.append_nil _
theorem memTo_len {l:List Bool} {k:Nat}:(memTo l k).length≤k:=by
  unfold memTo;rw [List.length_map]
  exact Nat.le_trans (List.length_filter_le _ _) (by simp)
end Go.Proofs.YtjabhmhhhlcopaaGreatDoor
end
section
namespace Go.Proofs.YtjabhmhhhlcopaaGreatDoor
open Go Go.AM
open Classical
def lftF (t:List (List Int)) (g:Nat→Bool) (x:Nat):Bool:=(List.range t.length).any fun y=>g y&&inLB t y x
def rgtF (t:List (List Int)) (g:Nat→Bool) (x:Nat):Bool:=(List.range t.length).any fun y=>g y&&inRB t y x
def twoF (t:List (List Int)) (g:Nat→Bool):Nat→Bool:=lftF t (rgtF t g)
theorem lftF_iff {t:List (List Int)} {g:Nat→Bool} {x:Nat}:lftF t g x=true↔∃y,y<t.length∧g y=true∧inLB t y x=true:=by
  unfold lftF
  rw [List.any_eq_true]
  constructor
  · rintro ⟨y,hy,h⟩
    rw [Bool.and_eq_true] at h
    exact ⟨y,List.mem_range.1 hy,h.1,h.2⟩
  · rintro ⟨y,hy,h1,h2⟩
    exact ⟨y,List.mem_range.2 hy,by rw [h1,h2];rfl⟩
theorem rgtF_iff {t:List (List Int)} {g:Nat→Bool} {x:Nat}:rgtF t g x=true↔∃y,y<t.length∧g y=true∧inRB t y x=true:=by
  unfold rgtF
  rw [List.any_eq_true]
  constructor
  · rintro ⟨y,hy,h⟩
    rw [Bool.and_eq_true] at h
    exact ⟨y,List.mem_range.1 hy,h.1,h.2⟩
  · rintro ⟨y,hy,h1,h2⟩
    exact ⟨y,List.mem_range.2 hy,by rw [h1,h2];rfl⟩
def setI (l:List Int) (x:Nat):Bool:=l.contains (x:Int)
theorem setI_iff {l:List Int} {x:Nat}:setI l x=true↔(x:Int)∈l:=List.contains_iff_mem
theorem memV_mem {l:List Bool} {x:Int}:x∈memV l↔∃i:Nat,i<l.length∧l.getD i false=true∧x=(i:Int):=by
  unfold memV memTo
  simp only [List.mem_map,List.mem_filter,List.mem_range]
  constructor
  · rintro ⟨i,⟨h1,h2⟩,rfl⟩;exact ⟨i,h1,h2,rfl⟩
  · rintro ⟨i,h1,h2,rfl⟩;exact ⟨i,⟨h1,h2⟩,rfl⟩
def ascV (n:Nat) (f:Nat→Bool):List Int:=memV (setB n f)
theorem ascV_mem {n:Nat} {f:Nat→Bool} {x:Int}:x∈ascV n f↔∃i:Nat,i<n∧f i=true∧x=(i:Int):=by
  unfold ascV
  rw [memV_mem,setB_len]
  constructor
  · rintro ⟨i,h1,h2,h3⟩;rw [setB_get h1] at h2;exact ⟨i,h1,h2,h3⟩
  · rintro ⟨i,h1,h2,h3⟩;exact ⟨i,h1,by rw [setB_get h1];exact h2,h3⟩
theorem ascV_len (n:Nat) (f:Nat→Bool):(ascV n f).length≤n:=by
  have h:=memTo_len (l:=setB n f) (k:=(setB n f).length)
  rw [setB_len] at h
  unfold ascV memV
  rw [setB_len];exact h
def inT (t:List (List Int)) (l:List Int):Prop:=∀x∈l,0≤x∧x<(t.length:Int)
instance (t:List (List Int)) (l:List Int):Decidable (inT t l):=by unfold inT;infer_instance
def IdF (t:List (List Int)) (f:Nat→Bool):Prop:=∀x s,x<t.length→s<t.length→f x=true→f (en t x s)=true∧f (en t s x)=true
def Asc (l:List Int):Prop:=∀i,i+1<l.length→l.getD i 0<l.getD (i+1) 0
def allP (t:List (List Int)):Nat→Nat|0=>0|s+1=>en t (allP t s) s
theorem allP_lt {t:List (List Int)} (h:Sh t) (ht:0<t.length):∀s,s≤t.length→allP t s<t.length
  |0,_=>ht
  |s+1,hs=>(h.ent (allP_lt h ht s (by omega)) (by omega)).2
def kerF (t:List (List Int)):Nat→Bool:=twoF t (setI [((allP t t.length:Nat):Int)])
theorem swap2 {t:List (List Int)} (h:Semi t) {x y z:Nat} (hx:x<t.length) (h1:inLB t x y=true) (h2:inRB t y z=true):∃w,w<t.length∧inRB t x w=true∧inLB t w z=true:=by
  have hy:=inL_lt h.toSh hx h1
  rcases (inRB_iff h.toSh hy).1 h2 with rfl|⟨s,hs,rfl⟩
  · exact ⟨x,hx,(inRB_iff h.toSh hx).2 (.inl rfl),h1⟩
  · rcases (inLB_iff h.toSh hx).1 h1 with rfl|⟨r,hr,rfl⟩
    · exact ⟨en t y s,(h.toSh.ent hy hs).2,(inRB_iff h.toSh hy).2 (.inr ⟨s,hs,rfl⟩),(inLB_iff h.toSh (h.toSh.ent hy hs).2).2 (.inl rfl)⟩
    · have hw:=(h.toSh.ent hx hs).2
      exact ⟨en t x s,hw,(inRB_iff h.toSh hx).2 (.inr ⟨s,hs,rfl⟩),(inLB_iff h.toSh hw).2 (.inr ⟨r,hr,(assoc3 h.assoc hr hx hs).symm⟩)⟩
theorem twoF_iff {t:List (List Int)} (h:Semi t) {g:Nat→Bool} {x:Nat}:twoF t g x=true↔∃y,y<t.length∧g y=true∧inJB t y x=true:=by
  unfold twoF
  rw [lftF_iff]
  constructor
  · rintro ⟨y,hy,h1,h2⟩
    obtain ⟨z,hz,h3,h4⟩:=rgtF_iff.1 h1
    obtain ⟨w,hw,h5,h6⟩:=swap h hz h4 h2
    exact ⟨z,hz,h3,(inJB_iff h.toSh hz).2 ⟨w,hw,h5,h6⟩⟩
  · rintro ⟨y,hy,h1,h2⟩
    obtain ⟨z,hz,h3,h4⟩:=(inJB_iff h.toSh hy).1 h2
    obtain ⟨w,hw,h5,h6⟩:=swap2 h hy h3 h4
    exact ⟨w,hw,rgtF_iff.2 ⟨y,hy,h1,h5⟩,h6⟩
end Go.Proofs.YtjabhmhhhlcopaaGreatDoor
end
section
namespace Go.Proofs.YtjabhmhhhlcopaaGreatDoor
open Go Go.AM
structure TotC {α:Type} (c:α→α→Int):Prop where
  swap:∀a b,c b a= - c a b
  eq:∀a b,c a b=0→a=b
  trans:∀a b d,c a b<0→c b d<0→c a d<0
theorem TotC.self {α:Type} {c:α→α→Int} (h:TotC c) (a:α):c a a=0:=by have:=h.swap a a;omega
def cmpI (a b:Int):Int:=if a<b then -1 else if b<a then 1 else 0
theorem cmpI_tot:TotC cmpI where
  swap a b:=by unfold cmpI;split<;>split<;>(try split)<;>omega
  eq a b:=by unfold cmpI;split<;>(try split)<;>omega
  trans a b d:=by unfold cmpI;intro h1 h2;split at h1<;>(try split at h1)<;>split at h2<;>(try split at h2)<;>first|omega|(rw [if_pos (by omega)];omega)
def Srt {α:Type} (c:α→α→Int) (l:List α):Prop:=l.Pairwise fun a b=>c a b<0
section
variable {α:Type} {c:α→α→Int}
theorem Srt.nodup (h:TotC c) {l:List α} (hs:Srt c l):l.Nodup:=hs.imp fun {a b} hab e=>by subst e;have:=h.self a;omega
theorem perm_sorted (h:TotC c):∀{l m:List α},l.Pairwise (fun a b=>c a b≤0)→m.Pairwise (fun a b=>c a b≤0)→l.Perm m→l=m
  |[],m,_,_,hp=>by rw [List.nil_perm.1 hp]
  |a::l,[],_,_,hp=>by have:=hp.length_eq;simp at this
  |a::l,b::m,h1,h2,hp=>by
   have h1':=List.pairwise_cons.1 h1
   have h2':=List.pairwise_cons.1 h2
   have e:a=b:=by
     have ha:a∈b::m:=hp.mem_iff.1 (by simp)
     have hb:b∈a::l:=hp.mem_iff.2 (by simp)
     rcases List.mem_cons.1 ha with e|ha
     · exact e
     · rcases List.mem_cons.1 hb with e|hb
       · exact e.symm
       · have g1:=h2'.1 a ha
         have g2:=h1'.1 b hb
         have:=h.swap a b
         exact h.eq _ _ (by omega)
   subst e
   rw [perm_sorted h h1'.2 h2'.2 hp.cons_inv]
theorem sorted_uniq (h:TotC c) {l m:List α} (hl:Srt c l) (hm:Srt c m) (he:∀x,x∈l↔x∈m):l=m:=
  perm_sorted h (hl.imp fun h=>by omega) (hm.imp fun h=>by omega) ((List.perm_ext_iff_of_nodup (hl.nodup h) (hm.nodup h)).2 he)
end
end Go.Proofs.YtjabhmhhhlcopaaGreatDoor
end
