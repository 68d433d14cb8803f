import Derived.Test.YtjabhmhhhlcopaaGreatDoorGroup
import Derived.Test.YtjabhmhhhlcopaaGreatDoorCooLaw
section
namespace Go.Proofs.YtjabhmhhhlcopaaGreatDoor
open Classical
def triI (n C:Int) (z:Bool) (i g l:Nat):Int:=numI n C z i g l
theorem tri_parts {n C:Int} {z:Bool} {i g l:Nat} (hg:(g:Int)<n) (hl:(l:Int)<C):
    (triI n C z i g l - zI z) % C=l∧(triI n C z i g l - zI z) / C / n=i∧(triI n C z i g l - zI z) / C % n=g:=by
  have e:triI n C z i g l - zI z=l+((i:Int)*n+g)*C:=by unfold triI numI;omega
  have e2:((l:Int)+((i:Int)*n+g)*C) / C=g+(i:Int)*n:=by
    rw [Int.add_mul_ediv_right _ _ (by omega),Int.ediv_eq_zero_of_lt (by omega) hl]
    omega
  rw [e]
  refine ⟨?_,?_,?_⟩
  · rw [Int.add_mul_emod_self_right,Int.emod_eq_of_lt (by omega) hl]
  · rw [e2,Int.add_mul_ediv_right _ _ (by omega),Int.ediv_eq_zero_of_lt (by omega) hg]
    omega
  · rw [e2,Int.add_mul_emod_self_right,Int.emod_eq_of_lt (by omega) hg]
theorem tri_ge {n C:Int} {z:Bool} {i g l:Nat} (hn:0≤n) (hC:0≤C):zI z≤triI n C z i g l:=by
  unfold triI numI
  have h1:0≤(i:Int)*n:=Int.mul_nonneg (by omega) hn
  have h2:0≤((i:Int)*n+g)*C:=Int.mul_nonneg (by omega) hC
  omega
def pe (P:List (List Int)) (l i:Nat):Int:=(P.getD l []).getD i 0
theorem mul_tri {G:List (List Int)} {R C:Int} {P:List (List Int)} {z:Bool} (h:Rees G R C P z) {i g l i' g' l':Nat} (hg:g<G.length) (hl:(l:Int)<C) (hi':(i':Int)<R) (hg':g'<G.length) (hl':(l':Int)<C):
    mulI G C P z (triI G.length C z i g l) (triI G.length C z i' g' l')=if pe P l i'<0 then 0 else triI G.length C z i (en G (en G g (pe P l i').toNat) g') l':=by
  have hle:=h.le
  have c1:=tri_parts (z:=z) (i:=i) (n:=(G.length:Int)) (show (g:Int)<G.length by omega) hl
  have c2:=tri_parts (z:=z) (i:=i') (n:=(G.length:Int)) (show (g':Int)<G.length by omega) hl'
  have g1:=tri_ge (z:=z) (i:=i) (g:=g) (l:=l) (n:=(G.length:Int)) (C:=C) (by omega) (by omega)
  have g2:=tri_ge (z:=z) (i:=i') (g:=g') (l:=l') (n:=(G.length:Int)) (C:=C) (by omega) (by omega)
  have hpe:=h.pent hl hi'
  unfold mulI
  rw [if_neg (by omega),c1.1,c1.2.1,c1.2.2,c2.1,c2.2.1,c2.2.2]
  simp only [Int.toNat_natCast]
  unfold pe
  split
  · rfl
  · rename_i hp
    have e1:=h.grp.ent (x:=g) (y:=((P.getD l []).getD i' 0).toNat) hg (by omega)
    rw [e1.1,Int.toNat_natCast]
    have e2:=h.grp.ent (x:=en G g ((P.getD l []).getD i' 0).toNat) (y:=g') e1.2 hg'
    rw [e2.1]
    rfl
end Go.Proofs.YtjabhmhhhlcopaaGreatDoor
end
section
namespace Go.Proofs.YtjabhmhhhlcopaaGreatDoor
open Go Go.AM
attribute [local instance] Classical.propDecidable
def mapAt (t:List (List Int)) (j:Nat) (b S:Int) (m:List Int) (x:Nat):Prop:=
  ((classJ t).getD x 0≠(j:Int)→m.getD x 0= -1)∧
  ((classJ t).getD x 0=(j:Int)→b≤m.getD x 0∧m.getD x 0<S∧∀y,y<x→(classJ t).getD y 0=(j:Int)→m.getD y 0≠m.getD x 0)
def pairAt (t:List (List Int)) (j:Nat) (G:List (List Int)) (C:Int) (P:List (List Int)) (z:Bool) (m:List Int) (x y:Nat):Prop:=
  ((classJ t).getD (en t x y) 0=(j:Int)→mulI G C P z (m.getD x 0) (m.getD y 0)=m.getD (en t x y) 0)∧
  ((classJ t).getD (en t x y) 0≠(j:Int)→z=true∧mulI G C P z (m.getD x 0) (m.getD y 0)=0)
def ChkPre (t:List (List Int)) (j:Int) (G:List (List Int)) (R C:Int) (P:List (List Int)) (z:Bool) (m:List Int):Prop:=
  (validV t=0∧0≤j∧j<numJ t)∧reesV G R C P z=0∧z≠minJ t j.toNat∧m.length=t.length
def PairsTo (t:List (List Int)) (j:Nat) (G:List (List Int)) (C:Int) (P:List (List Int)) (z:Bool) (m:List Int) (k:Nat):Prop:=
  ∀a,a<k→∀b,b<(elemsJ t j).length→pairAt t j G C P z m ((elemsJ t j).getD a 0).toNat ((elemsJ t j).getD b 0).toNat
def ChkGood (t:List (List Int)) (j:Nat) (G:List (List Int)) (R C:Int) (P:List (List Int)) (z:Bool) (m:List Int):Prop:=
  (∀x,x<t.length→mapAt t j (zI z) (sizeI G.length R C z) m x)∧((elemsJ t j).length:Int)=sizeI G.length R C z - zI z∧PairsTo t j G C P z m (elemsJ t j).length
noncomputable def chkB (t:List (List Int)) (j:Int) (G:List (List Int)) (R C:Int) (P:List (List Int)) (z:Bool) (m:List Int):Bool:=
  decide (ChkPre t j G R C P z m∧ChkGood t j.toNat G R C P z m)
variable {t:List (List Int)} {j:Nat} {G:List (List Int)} {R C:Int} {P:List (List Int)} {z:Bool} {m:List Int}
theorem chk_pre {j:Int} (h:¬ChkPre t j G R C P z m):false=chkB t j G R C P z m:=by
  unfold chkB;rw [eq_comm,decide_eq_false_iff_not];exact fun hh=>h hh.1
theorem chk_bad (h:¬ChkGood t j G R C P z m):false=chkB t (j:Int) G R C P z m:=by
  unfold chkB;rw [eq_comm,decide_eq_false_iff_not,Int.toNat_natCast];exact fun hh=>h hh.2
theorem chk_map {x:Nat} (hx:x<t.length) (h:¬mapAt t j (zI z) (sizeI G.length R C z) m x):false=chkB t (j:Int) G R C P z m:=chk_bad fun hh=>h (hh.1 x hx)
theorem chk_cnt (h:((elemsJ t j).length:Int)≠sizeI G.length R C z - zI z):false=chkB t (j:Int) G R C P z m:=chk_bad fun hh=>h hh.2.1
theorem chk_pair {a b:Nat} (ha:a<(elemsJ t j).length) (hb:b<(elemsJ t j).length) (h:¬pairAt t j G C P z m ((elemsJ t j).getD a 0).toNat ((elemsJ t j).getD b 0).toNat):false=chkB t (j:Int) G R C P z m:=chk_bad fun hh=>h (hh.2.2 a ha b hb)
theorem chk_yes (hp:ChkPre t (j:Int) G R C P z m) (h:ChkGood t j G R C P z m):true=chkB t (j:Int) G R C P z m:=by
  unfold chkB;rw [eq_comm,decide_eq_true_iff,Int.toNat_natCast];exact ⟨hp,h⟩
structure ChkInv (t:List (List Int)) (j:Nat) (b S:Int) (m:List Int) (i:Nat) (q:List Bool):Prop where
  le:i≤t.length
  len:(q.length:Int)=S
  ok:∀x,x<i→mapAt t j b S m x
  met:∀v:Nat,v<q.length→(q.getD v false=true↔∃x,x<i∧(classJ t).getD x 0=(j:Int)∧m.getD x 0=v)
theorem ChkInv.start (b:Int) {S:Int} (hS:0≤S):ChkInv t j b S m 0 (List.replicate S.toNat false):=
  ⟨Nat.zero_le _,by rw [List.length_replicate];omega,fun x hx=>absurd hx (Nat.not_lt_zero _),fun v hv=>by
    rw [List.length_replicate] at hv
    have:(List.replicate S.toNat false).getD v false=false:=by simp [List.getD,hv]
    rw [this]
    exact ⟨fun h=>Bool.noConfusion h,fun ⟨x,hx,_⟩=>absurd hx (Nat.not_lt_zero _)⟩⟩
theorem ChkInv.skip {b S:Int} {i:Nat} {q:List Bool} (h:ChkInv t j b S m i q) (hi:i<t.length) (hc:(classJ t).getD i 0≠(j:Int)) (hm:m.getD i 0= -1):ChkInv t j b S m (i+1) q:=
  ⟨by omega,h.len,fun x hx=>by
    by_cases hxi:x=i
    · subst hxi;exact ⟨fun _=>hm,fun hh=>absurd hh hc⟩
    · exact h.ok x (by omega),fun v hv=>by
    rw [h.met v hv]
    constructor
    · rintro ⟨x,h1,h2,h3⟩;exact ⟨x,by omega,h2,h3⟩
    · rintro ⟨x,h1,h2,h3⟩
      refine ⟨x,?_,h2,h3⟩
      have:x≠i:=fun e=>hc (e▸h2)
      omega⟩
theorem ChkInv.no1 {b S:Int} {i:Nat} (hc:(classJ t).getD i 0≠(j:Int)) (hm:m.getD i 0≠ -1):¬mapAt t j b S m i:=fun h=>hm (h.1 hc)
theorem ChkInv.no2 {b S:Int} {i:Nat} (hc:(classJ t).getD i 0=(j:Int)) (hm:m.getD i 0<b∨S≤m.getD i 0):¬mapAt t j b S m i:=fun h=>by have:=h.2 hc;omega
theorem ChkInv.no3 {b S:Int} (hb:0≤b) {i:Nat} {q:List Bool} (h:ChkInv t j b S m i q) (hc:(classJ t).getD i 0=(j:Int)) (h1:b≤m.getD i 0) (h2:m.getD i 0<S) (hq:q.getD (m.getD i 0).toNat false=true):¬mapAt t j b S m i:=fun hh=>by
  have hl:=h.len
  obtain ⟨x,hx,hcx,hmx⟩:=(h.met (m.getD i 0).toNat (by omega)).1 hq
  exact (hh.2 hc).2.2 x hx hcx (by omega)
theorem ChkInv.put {b S:Int} (hb:0≤b) {i:Nat} {q:List Bool} (h:ChkInv t j b S m i q) (hi:i<t.length) (hc:(classJ t).getD i 0=(j:Int)) (h1:b≤m.getD i 0) (h2:m.getD i 0<S) (hq:q.getD (m.getD i 0).toNat false=false):ChkInv t j b S m (i+1) (q.set (m.getD i 0).toNat true):=by
  have hl:=h.len
  refine ⟨by omega,by rw [List.length_set];exact hl,fun x hx=>?_,fun v hv=>?_⟩
  · by_cases hxi:x=i
    · subst hxi
      refine ⟨fun hh=>absurd hc hh,fun _=>⟨h1,h2,fun y hy hcy he=>?_⟩⟩
      have:=(h.met (m.getD x 0).toNat (by omega)).2 ⟨y,hy,hcy,by omega⟩
      rw [hq] at this;cases this
    · exact h.ok x (by omega)
  · rw [List.length_set] at hv
    by_cases hvi:v=(m.getD i 0).toNat
    · subst hvi
      rw [getD_set_eq (by omega)]
      exact ⟨fun _=>⟨i,by omega,hc,by omega⟩,fun _=>rfl⟩
    · rw [getD_set_ne (Ne.symm hvi),h.met v hv]
      constructor
      · rintro ⟨x,g1,g2,g3⟩;exact ⟨x,by omega,g2,g3⟩
      · rintro ⟨x,g1,g2,g3⟩
        refine ⟨x,?_,g2,g3⟩
        have:x≠i:=fun e=>hvi (by subst e;omega)
        omega
theorem elems_get {a:Nat} (hj:j<numJ t) (ha:a<(elemsJ t j).length):0≤(elemsJ t j).getD a 0∧(elemsJ t j).getD a 0<t.length∧(classJ t).getD ((elemsJ t j).getD a 0).toNat 0=(j:Int):=(mem_elems hj).1 (getD_mem ha)
end Go.Proofs.YtjabhmhhhlcopaaGreatDoor
end
section
namespace Go.Proofs.YtjabhmhhhlcopaaGreatDoor
open Go Go.AM
section
variable (t:List (List Int)) (j e:Nat)
abbrev cR:Nat:=(rowsN t j).length
abbrev cC:Nat:=(colsN t j).length
abbrev cH:Nat:=(hLs t j e).length
def cooN (i g l:Nat):Int:=triI (cH t j e) (cC t j) (!minJ t j) i g l
open Classical in
noncomputable def cooV (x:Nat):Int:=if h:∃p:Nat × Nat × Nat,p.1<cR t j∧p.2.1<cH t j e∧p.2.2<cC t j∧tri t j e p.1 p.2.1 p.2.2=x then cooN t j e (Classical.choose h).1 (Classical.choose h).2.1 (Classical.choose h).2.2 else -1
noncomputable def cooM:List Int:=(List.range t.length).map (cooV t j e)
end
theorem cooP_len (t:List (List Int)) (j e:Nat):(cooP t j e).length=cC t j:=by simp [cooP]
theorem cooP_row {t:List (List Int)} {j e l:Nat} (hl:l<cC t j):(cooP t j e).getD l []=(List.range (cR t j)).map fun i=>posTo (hLs t j e) (hLs t j e).length (en t (qI t j e l) (rI t j e i)):=map_range_getD _ _ _ _ hl
theorem cooP_get {t:List (List Int)} {j e l i:Nat} (hl:l<cC t j) (hi:i<cR t j):((cooP t j e).getD l []).getD i 0=posTo (hLs t j e) (hLs t j e).length (en t (qI t j e l) (rI t j e i)):=by
  rw [cooP_row hl,map_range_getD _ _ _ _ hi]
theorem cooM_len (t:List (List Int)) (j e:Nat):(cooM t j e).length=t.length:=by simp [cooM]
theorem posTo_no {l:List Int} {x:Nat}:∀{k:Nat},(∀i,i<k→l.getD i 0≠(x:Int))→posTo l k x= -1
  |0,_=>rfl
  |k+1,h=>by rw [posTo,if_neg (h k (by omega)),posTo_no fun i hi=>h i (by omega)]
theorem posTo_out {l:List Int} {x:Nat} (h:setI l x=false):posTo l l.length x= -1:=posTo_no fun i hi he=>by
  have:=setI_iff.2 (he▸getD_mem (d:=0) hi)
  rw [h] at this;cases this
theorem tri_dec {R H C k:Nat} (hH:0<H) (hC:0<C) (hk:k<R*H*C):k / C / H<R∧k / C % H<H∧k % C<C:=by
  have h1:k / C<R*H:=Nat.div_lt_of_lt_mul (by rw [Nat.mul_comm];exact hk)
  exact ⟨Nat.div_lt_of_lt_mul (by rw [Nat.mul_comm];exact h1),Nat.mod_lt _ hH,Nat.mod_lt _ hC⟩
theorem tri_back {H C k k':Nat} (h1:k / C / H=k' / C / H) (h2:k / C % H=k' / C % H) (h3:k % C=k' % C):k=k':=by
  have a:=Nat.div_add_mod (k / C) H
  have a':=Nat.div_add_mod (k' / C) H
  have b:=Nat.div_add_mod k C
  have b':=Nat.div_add_mod k' C
  rw [h1,h2,a'] at a
  rw [←a,h3,b'] at b
  exact b.symm
theorem tri_enc {R H C i g l:Nat} (hi:i<R) (hg:g<H) (hl:l<C):∃k,k<R*H*C∧k / C / H=i∧k / C % H=g∧k % C=l:=by
  refine ⟨(i*H+g)*C+l,?_,?_,?_,?_⟩
  · have h1:i*H+g+1≤R*H:=by
      have:=Nat.mul_le_mul_right H (show i+1≤R from hi)
      rw [Nat.add_mul,Nat.one_mul] at this;omega
    have:=Nat.mul_le_mul_right C h1
    rw [Nat.add_mul,Nat.one_mul] at this;omega
  · have e1:((i*H+g)*C+l) / C=i*H+g:=by rw [Nat.mul_comm,Nat.mul_add_div (by omega),Nat.div_eq_of_lt hl,Nat.add_zero]
    rw [e1,Nat.mul_comm,Nat.mul_add_div (by omega),Nat.div_eq_of_lt hg,Nat.add_zero]
  · have e1:((i*H+g)*C+l) / C=i*H+g:=by rw [Nat.mul_comm,Nat.mul_add_div (by omega),Nat.div_eq_of_lt hl,Nat.add_zero]
    rw [e1,Nat.mul_comm,Nat.mul_add_mod,Nat.mod_eq_of_lt hg]
  · rw [Nat.mul_comm,Nat.mul_add_mod,Nat.mod_eq_of_lt hl]
namespace Coo
variable {t:List (List Int)} {j e:Nat} (c:Coo t j e)
include c
theorem posR:0<cR t j:=List.length_pos_of_mem (c.mem_rows.2 ⟨e,c.he,c.ej,rfl⟩)
theorem posC:0<cC t j:=List.length_pos_of_mem (c.mem_cols.2 ⟨e,c.he,c.ej,rfl⟩)
theorem posH:0<cH t j e:=c.hCl.pos
theorem cooV_tri {i g l:Nat} (hi:i<cR t j) (hg:g<cH t j e) (hl:l<cC t j):cooV t j e (tri t j e i g l)=cooN t j e i g l:=by
  have hx:∃p:Nat × Nat × Nat,p.1<cR t j∧p.2.1<cH t j e∧p.2.2<cC t j∧tri t j e p.1 p.2.1 p.2.2=tri t j e i g l:=⟨(i,g,l),hi,hg,hl,rfl⟩
  unfold cooV
  rw [dif_pos hx]
  have hs:=Classical.choose_spec hx
  have:=c.tri_inj hs.1 hs.2.1 hs.2.2.1 hi hg hl hs.2.2.2
  rw [this.1,this.2.1,this.2.2]
theorem cooV_out {x:Nat} (hx:jcl t x≠j):cooV t j e x= -1:=by
  unfold cooV
  rw [dif_neg]
  rintro ⟨p,h1,h2,h3,h4⟩
  exact hx (h4▸(c.tri_ok h1 h2 h3).2.1)
omit c in
theorem cooM_get {x:Nat} (hx:x<t.length):(cooM t j e).getD x 0=cooV t j e x:=map_range_getD _ _ _ _ hx
theorem cooM_tri {i g l:Nat} (hi:i<cR t j) (hg:g<cH t j e) (hl:l<cC t j):(cooM t j e).getD (tri t j e i g l) 0=cooN t j e i g l:=by rw [cooM_get (c.tri_ok hi hg hl).1,c.cooV_tri hi hg hl]
theorem sand_in {i l:Nat} (hi:i<cR t j) (hl:l<cC t j):setI (hLs t j e) (en t (qI t j e l) (rI t j e i))=true↔jcl t (en t (qI t j e l) (rI t j e i))=j:=by
  have r:=c.rI_ok hi
  have q:=c.qI_ok hl
  have hlt:=(c.semi.toSh.ent q.1 r.1).2
  constructor
  · intro h
    have:=c.mem_hLs.1 h
    exact (rcl_j c.semi hlt c.he this.2.1).trans c.ej
  · intro h
    have h2:=((c.in_iff (c.m ⟨_,q.1⟩ ⟨_,r.1⟩)).1 h).1
    have h3:=(c.inH_iff (c.m ⟨_,q.1⟩ ⟨_,r.1⟩)).2 (c.I.sand (c.hQq hl) (c.hRr hi) h2)
    exact c.mem_hLs.2 ⟨hlt,h3⟩
theorem rees_rows:rowsOk (cooG t j e).length (cR t j) (cooP t j e) (!minJ t j):=by
  intro row hrow
  obtain ⟨l,hl,rfl⟩:=mem_getD [] hrow
  rw [cooP_len] at hl
  rw [cooP_row hl]
  refine ⟨by simp,fun g hg=>?_⟩
  obtain ⟨i,hi,rfl⟩:=List.mem_map.1 hg
  have hi:=List.mem_range.1 hi
  have hr:=posTo_rng (hLs t j e) (hLs t j e).length (en t (qI t j e l) (rI t j e i))
  rw [glen]
  refine ⟨hr.1,by omega,fun hneg=>?_⟩
  refine Classical.byContradiction fun hn=>?_
  have hm:minJ t j=true:=by simpa using hn
  have h1:=min_stays c.semi c.hj hm (c.qI_ok hl).1 (c.rI_ok hi).1 (c.qI_ok hl).2.1
  have h2:=(pL_in ((c.sand_in hi hl).2 h1)).1
  omega
theorem count:(elemsJ t j).length=cR t j*cH t j e*cC t j:=by
  have hnd:((List.range (cR t j*cH t j e*cC t j)).map fun k=>((tri t j e (k / cC t j / cH t j e) (k / cC t j % cH t j e) (k % cC t j):Nat):Int)).Nodup:=by
    refine List.pairwise_map.2 (List.nodup_range.imp_of_mem fun {a b} ha hb hab e1=>hab ?_)
    have ha:=tri_dec c.posH c.posC (List.mem_range.1 ha)
    have hb:=tri_dec c.posH c.posC (List.mem_range.1 hb)
    have e1:tri t j e (a / cC t j / cH t j e) (a / cC t j % cH t j e) (a % cC t j)=tri t j e (b / cC t j / cH t j e) (b / cC t j % cH t j e) (b % cC t j):=Int.ofNat_inj.1 e1
    have:=c.tri_inj ha.1 ha.2.1 ha.2.2 hb.1 hb.2.1 hb.2.2 e1
    exact tri_back this.1 this.2.1 this.2.2
  have hsub:∀x∈(List.range (cR t j*cH t j e*cC t j)).map (fun k=>((tri t j e (k / cC t j / cH t j e) (k / cC t j % cH t j e) (k % cC t j):Nat):Int)),x∈elemsJ t j:=fun x hx=>by
    obtain ⟨k,hk,rfl⟩:=List.mem_map.1 hx
    have hd:=tri_dec c.posH c.posC (List.mem_range.1 hk)
    have:=c.tri_ok hd.1 hd.2.1 hd.2.2
    exact (mem_elems c.hj).2 ⟨Int.natCast_nonneg _,Int.ofNat_lt.2 this.1,by rw [Int.toNat_natCast];exact this.2.1⟩
  have hsup:∀x∈elemsJ t j,x∈(List.range (cR t j*cH t j e*cC t j)).map (fun k=>((tri t j e (k / cC t j / cH t j e) (k / cC t j % cH t j e) (k % cC t j):Nat):Int)):=fun x hx=>by
    have hm:=(mem_elems c.hj).1 hx
    obtain ⟨i,g,l,hi,hg,hl,he⟩:=c.tri_all (x:=x.toNat) (by omega) hm.2.2
    obtain ⟨k,hk,e1,e2,e3⟩:=tri_enc hi hg hl
    refine List.mem_map.2 ⟨k,List.mem_range.2 hk,?_⟩
    rw [e1,e2,e3,he];omega
  refine Nat.le_antisymm ?_ ?_
  · have:=(elems_nodup c.hj).length_le_of_subset hsup
    simpa using this
  · have:=hnd.length_le_of_subset hsub
    simpa using this
theorem size:sizeI (cooG t j e).length (cR t j) (cC t j) (!minJ t j) - zI (!minJ t j)=((elemsJ t j).length:Int):=by
  unfold sizeI;rw [glen,c.count,Nat.mul_comm (cR t j)];simp only [cH,cR,cC];push_cast;omega
theorem rees:Rees (cooG t j e) (cR t j) (cooP t j e).length (cooP t j e) (!minJ t j) where
  grp:=c.grp
  sh:=⟨by have:=c.posR;omega,by rw [cooP_len];have:=c.posC;omega,rfl,c.rees_rows⟩
  small:=by
    have h1:=c.size
    have hm:=c.semi.most
    rw [cooP_len]
    cases hmin:minJ t j with
    |true=>
     have:=elems_le c.hj
     rw [hmin] at h1
     have hz:zI (!true)=0:=rfl
     omega
    |false=>
     have:=elems_lt c.hj hmin
     rw [hmin] at h1
     have hz:zI (!false)=1:=rfl
     omega
end Coo
end Go.Proofs.YtjabhmhhhlcopaaGreatDoor
end
section
namespace Go.Proofs.YtjabhmhhhlcopaaGreatDoor
open Go Go.AM
namespace Coo
variable {t:List (List Int)} {j e:Nat} (c:Coo t j e)
include c
theorem stay {x y:Fin t.length} (hx:jcl t x=j) (hu:Up c.m c.E (c.m x y)):jcl t (en t x y)=j:=by
  obtain ⟨_,a,b,hab⟩:=(c.in_iff x).1 hx
  exact (c.in_iff (c.m x y)).2 ⟨hu,a,c.m b y,by rw [←c.I.ac,hab]⟩
omit c in
theorem pe_get {l i:Nat} (hl:l<cC t j) (hi:i<cR t j):pe (cooP t j e) l i=posTo (hLs t j e) (hLs t j e).length (en t (qI t j e l) (rI t j e i)):=cooP_get hl hi
theorem pe_yes {l i:Nat} (hl:l<cC t j) (hi:i<cR t j) (h:jcl t (en t (qI t j e l) (rI t j e i))=j):0≤pe (cooP t j e) l i:=by
  have:=(pL_in ((c.sand_in hi hl).2 h)).1
  rw [Coo.pe_get hl hi];omega
theorem tri_fin {i g l:Nat} (hi:i<cR t j) (hg:g<cH t j e) (hl:l<cC t j):(⟨tri t j e i g l,(c.tri_ok hi hg hl).1⟩:Fin t.length)=c.m (c.m ⟨_,(c.rI_ok hi).1⟩ ⟨_,(c.gI_ok hg).1⟩) ⟨_,(c.qI_ok hl).1⟩:=rfl
theorem prod_yes {i g l i' g' l':Nat} (hi:i<cR t j) (hg:g<cH t j e) (hl:l<cC t j) (hi':i'<cR t j) (hg':g'<cH t j e) (hl':l'<cC t j) (hp:0≤pe (cooP t j e) l i'):
    en (cooG t j e) (en (cooG t j e) g (pe (cooP t j e) l i').toNat) g'<cH t j e∧en t (tri t j e i g l) (tri t j e i' g' l')=tri t j e i (en (cooG t j e) (en (cooG t j e) g (pe (cooP t j e) l i').toNat) g') l':=by
  have hin:setI (hLs t j e) (en t (qI t j e l) (rI t j e i'))=true:=by
    cases hs:setI (hLs t j e) (en t (qI t j e l) (rI t j e i')) with
    |true=>rfl
    |false=>rw [Coo.pe_get hl hi',posTo_out hs] at hp;omega
  have pp:=pL_in hin
  have ep:(pe (cooP t j e) l i').toNat=pL (hLs t j e) (en t (qI t j e l) (rI t j e i')):=by rw [Coo.pe_get hl hi',pp.1];exact Int.toNat_natCast _
  have s1:=sub_en c.hCl hg pp.2.1
  have s2:=sub_en c.hCl s1.2.1 hg'
  rw [ep]
  unfold cooG
  refine ⟨s2.2.1,?_⟩
  unfold tri gI
  rw [s2.2.2,s1.2.2,pp.2.2]
  exact congrArg Fin.val (c.I.mul3 ⟨_,(c.rI_ok hi).1⟩ ⟨_,(c.gI_ok hg).1⟩ ⟨_,(c.qI_ok hl).1⟩ ⟨_,(c.rI_ok hi').1⟩ ⟨_,(c.gI_ok hg').1⟩ ⟨_,(c.qI_ok hl').1⟩)
theorem prod_no {i g l i' g' l':Nat} (hi:i<cR t j) (hg:g<cH t j e) (hl:l<cC t j) (hi':i'<cR t j) (hg':g'<cH t j e) (hl':l'<cC t j) (hp:pe (cooP t j e) l i'<0):
    jcl t (en t (tri t j e i g l) (tri t j e i' g' l'))≠j:=by
  intro hj
  have a:=c.tri_ok hi hg hl
  have b:=c.tri_ok hi' hg' hl'
  have hu:=((c.in_iff (c.m ⟨_,a.1⟩ ⟨_,b.1⟩)).1 hj).1
  rw [c.tri_fin hi hg hl,c.tri_fin hi' hg' hl'] at hu
  have hu2:=c.I.mulUp hu
  have:=c.pe_yes hl hi' (c.stay (x:=⟨_,(c.qI_ok hl).1⟩) (y:=⟨_,(c.rI_ok hi').1⟩) (c.qI_ok hl).2.1 hu2)
  omega
theorem num_rng {i g l:Nat} (hi:i<cR t j) (hg:g<cH t j e) (hl:l<cC t j):zI (!minJ t j)≤cooN t j e i g l∧cooN t j e i g l<sizeI (cooG t j e).length (cR t j) (cC t j) (!minJ t j):=by
  unfold cooN triI
  rw [glen]
  have:=c.posH;have:=c.posC
  exact num_lt (by omega) (by omega) ⟨by omega,by omega⟩ ⟨by omega,by omega⟩ ⟨by omega,by omega⟩
omit c in
theorem num_inj {i g l i' g' l':Nat} (hg:g<cH t j e) (hl:l<cC t j) (hg':g'<cH t j e) (hl':l'<cC t j) (he:cooN t j e i g l=cooN t j e i' g' l'):i=i'∧g=g'∧l=l':=by
  have a:=tri_parts (z:=!minJ t j) (i:=i) (n:=(cH t j e:Int)) (C:=(cC t j:Int)) (g:=g) (l:=l) (by omega) (by omega)
  have b:=tri_parts (z:=!minJ t j) (i:=i') (n:=(cH t j e:Int)) (C:=(cC t j:Int)) (g:=g') (l:=l') (by omega) (by omega)
  unfold cooN at he
  rw [he] at a
  omega
theorem good:ChkGood t j (cooG t j e) (cR t j) (cC t j) (cooP t j e) (!minJ t j) (cooM t j e):=by
  refine ⟨fun x hx=>⟨fun hc=>by rw [cooM_get hx];exact c.cooV_out hc,fun hc=>?_⟩,by rw [c.size],fun a ha b hb=>?_⟩
  · obtain ⟨i,g,l,hi,hg,hl,rfl⟩:=c.tri_all hx hc
    rw [c.cooM_tri hi hg hl]
    have hr:=c.num_rng hi hg hl
    refine ⟨hr.1,hr.2,fun y hy hcy he=>?_⟩
    obtain ⟨i',g',l',hi',hg',hl',rfl⟩:=c.tri_all (by omega) hcy
    rw [c.cooM_tri hi' hg' hl'] at he
    have:=num_inj hg' hl' hg hl he
    rw [this.1,this.2.1,this.2.2] at hy
    omega
  · have ma:=(mem_elems c.hj).1 (getD_mem (d:=0) ha)
    have mb:=(mem_elems c.hj).1 (getD_mem (d:=0) hb)
    obtain ⟨i,g,l,hi,hg,hl,ea⟩:=c.tri_all (x:=((elemsJ t j).getD a 0).toNat) (by omega) ma.2.2
    obtain ⟨i',g',l',hi',hg',hl',eb⟩:=c.tri_all (x:=((elemsJ t j).getD b 0).toNat) (by omega) mb.2.2
    rw [←ea,←eb]
    have hm:=mul_tri c.rees (i:=i) (g:=g) (l:=l) (i':=i') (g':=g') (l':=l') (by rw [glen];exact hg) (by rw [cooP_len];exact Int.ofNat_lt.2 hl) (Int.ofNat_lt.2 hi') (by rw [glen];exact hg') (by rw [cooP_len];exact Int.ofNat_lt.2 hl')
    rw [glen,cooP_len] at hm
    have hm:mulI (cooG t j e) (cC t j) (cooP t j e) (!minJ t j) (cooN t j e i g l) (cooN t j e i' g' l')=if pe (cooP t j e) l i'<0 then 0 else cooN t j e i (en (cooG t j e) (en (cooG t j e) g (pe (cooP t j e) l i').toNat) g') l':=hm
    unfold pairAt
    rw [c.cooM_tri hi hg hl,c.cooM_tri hi' hg' hl',hm]
    by_cases hp:pe (cooP t j e) l i'<0
    · rw [if_pos hp]
      have hno:=c.prod_no hi hg hl hi' hg' hl' hp
      refine ⟨fun hc=>absurd hc hno,fun _=>⟨?_,rfl⟩⟩
      have:=c.rees_rows ((cooP t j e).getD l []) (getD_mem (by rw [cooP_len];exact hl))
      exact (this.2 _ (getD_mem (d:=0) (i:=i') (by have h9:=this.1;have h8:((i':Nat):Int)<((cR t j:Nat):Int):=Int.ofNat_lt.2 hi';omega))).2.2 hp
    · rw [if_neg hp]
      have hy:=c.prod_yes hi hg hl hi' hg' hl' (by omega)
      rw [hy.2,c.cooM_tri hi hy.1 hl']
      exact ⟨fun _=>rfl,fun hc=>absurd (c.tri_ok hi hy.1 hl').2.1 hc⟩
theorem chk:chkB t (j:Int) (cooG t j e) (cR t j) (cC t j) (cooP t j e) (!minJ t j) (cooM t j e)=true:=by
  have h:=c.good
  refine (chk_yes ⟨⟨valid_zero.2 c.semi,by omega,by have:=c.hj;omega⟩,?_,?_,cooM_len _ _ _⟩ h).symm
  · have:=rees_zero.2 c.rees
    rw [cooP_len] at this;exact this
  · rw [Int.toNat_natCast];cases minJ t j<;>simp
end Coo
structure CooTo (t:List (List Int)) (j e:Nat) (M:List Int) (D:Nat→Nat→Nat→Prop):Prop where
  len:M.length=t.length
  set:∀i g l,i<cR t j→g<cH t j e→l<cC t j→D i g l→M.getD (tri t j e i g l) 0=cooN t j e i g l
  rest:∀x,x<t.length→(∀i g l,i<cR t j→g<cH t j e→l<cC t j→D i g l→tri t j e i g l≠x)→M.getD x 0= -1
theorem CooTo.start {t:List (List Int)} {j e:Nat} {M:List Int} (hl:M.length=t.length) (h:∀x,x<t.length→M.getD x 0= -1) {D:Nat→Nat→Nat→Prop} (hD:∀i g l,¬D i g l):CooTo t j e M D:=
  ⟨hl,fun i g l _ _ _ h=>absurd h (hD _ _ _),fun x hx _=>h x hx⟩
theorem CooTo.congr {t:List (List Int)} {j e:Nat} {M:List Int} {D D':Nat→Nat→Nat→Prop} (H:CooTo t j e M D) (h:∀i g l,i<cR t j→g<cH t j e→l<cC t j→(D' i g l↔D i g l)):CooTo t j e M D':=
  ⟨H.len,fun i g l hi hg hl hd=>H.set i g l hi hg hl ((h i g l hi hg hl).1 hd),fun x hx hn=>H.rest x hx fun i g l hi hg hl hd=>hn i g l hi hg hl ((h i g l hi hg hl).2 hd)⟩
theorem CooTo.step {t:List (List Int)} {j e:Nat} (c:Coo t j e) {M:List Int} {D D':Nat→Nat→Nat→Prop} (H:CooTo t j e M D) {i g l:Nat} (hi:i<cR t j) (hg:g<cH t j e) (hl:l<cC t j)
    (hD:∀a b d,a<cR t j→b<cH t j e→d<cC t j→(D' a b d↔(D a b d∨(a=i∧b=g∧d=l)))):CooTo t j e (M.set (tri t j e i g l) (cooN t j e i g l)) D' where
  len:=by rw [List.length_set];exact H.len
  set a b d ha hb hd hdd:=by
    by_cases he:tri t j e a b d=tri t j e i g l
    · have:=c.tri_inj ha hb hd hi hg hl he
      rw [this.1,this.2.1,this.2.2,getD_set_eq (by rw [H.len];exact (c.tri_ok hi hg hl).1)]
    · rw [getD_set_ne (Ne.symm he)]
      rcases (hD a b d ha hb hd).1 hdd with h|⟨rfl,rfl,rfl⟩
      · exact H.set a b d ha hb hd h
      · exact absurd rfl he
  rest x hx hn:=by
    have h1:=hn i g l hi hg hl ((hD i g l hi hg hl).2 (.inr ⟨rfl,rfl,rfl⟩))
    rw [getD_set_ne h1]
    exact H.rest x hx fun a b d ha hb hd hdd=>hn a b d ha hb hd ((hD a b d ha hb hd).2 (.inl hdd))
theorem CooTo.done {t:List (List Int)} {j e:Nat} (c:Coo t j e) {M:List Int} {D:Nat→Nat→Nat→Prop} (H:CooTo t j e M D) (hD:∀i g l,i<cR t j→g<cH t j e→l<cC t j→D i g l):M=cooM t j e:=by
  refine ext_getD 0 (by rw [H.len,cooM_len]) fun x hx=>?_
  rw [H.len] at hx
  by_cases hc:jcl t x=j
  · obtain ⟨i,g,l,hi,hg,hl,rfl⟩:=c.tri_all hx hc
    rw [H.set i g l hi hg hl (hD i g l hi hg hl),c.cooM_tri hi hg hl]
  · rw [Coo.cooM_get hx,c.cooV_out hc]
    exact H.rest x hx fun i g l hi hg hl _ he=>hc (he▸(c.tri_ok hi hg hl).2.1)
end Go.Proofs.YtjabhmhhhlcopaaGreatDoor
end
