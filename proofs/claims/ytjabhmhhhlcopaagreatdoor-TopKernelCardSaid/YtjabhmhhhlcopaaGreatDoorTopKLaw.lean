import Derived.Test.YtjabhmhhhlcopaaGreatDoorCooLaw
import Derived.Test.YtjabhmhhhlcopaaGreatDoorCooLaw3
import Derived.Test.YtjabhmhhhlcopaaGreatDoorNumLaw
namespace Go.Proofs.YtjabhmhhhlcopaaGreatDoor
variable {t:List (List Int)}
theorem kerJ_in (h:Semi t) {x y:Nat} (hx:x<t.length) (kx:kerF t x=true) (ky:kerF t y=true):inJB t x y=true:=
  (prF_iff h hx).1 (ker_min h (prF_id h hx) hx (prF_self h hx) ky)
theorem kerJ_up (h:Semi t) {x y:Nat} (hx:x<t.length) (kx:kerF t x=true) (hxy:inJB t x y=true):kerF t y=true:=by
  obtain ⟨z,hz,h1,h2⟩:=(inJB_iff h.toSh hx).1 hxy
  exact ker_R h hz (ker_L h hx kx h1) h2
theorem kerJ_cl (h:Semi t) {x y:Nat} (hx:x<t.length) (hy:y<t.length) (kx:kerF t x=true):jcl t y=jcl t x↔kerF t y=true:=by
  rw [classJ_iff h hy hx]
  exact ⟨fun e=>kerJ_up h hx kx e.2,fun ky=>⟨kerJ_in h hy ky kx,kerJ_in h hx kx ky⟩⟩
def kerX (t:List (List Int)):Nat:=((ascV t.length (kerF t)).getD 0 0).toNat
theorem kerX_ok (h:Semi t):0<(ascV t.length (kerF t)).length∧kerX t<t.length∧kerF t (kerX t)=true∧(ascV t.length (kerF t)).getD 0 0=(kerX t:Int):=by
  have ha:=allP_lt h.toSh h.pos _ (Nat.le_refl t.length)
  have hp:0<(ascV t.length (kerF t)).length:=List.length_pos_of_mem (ascV_mem.2 ⟨_,ha,ker_has h,rfl⟩)
  obtain ⟨i,hi,hf,e⟩:=ascV_mem.1 (getD_mem (d:=0) hp)
  have ek:kerX t=i:=by unfold kerX;rw [e];rfl
  rw [ek]
  exact ⟨hp,hi,hf,e⟩
def kerJ (t:List (List Int)):Nat:=(jcl t (kerX t)).toNat
theorem kerJ_ok (h:Semi t):jcl t (kerX t)=(kerJ t:Int)∧kerJ t<numJ t:=by
  have:=classJ_lt t (kerX_ok h).2.1
  unfold kerJ jcl;omega
theorem kerJ_iff (h:Semi t) {y:Nat} (hy:y<t.length):jcl t y=(kerJ t:Int)↔kerF t y=true:=by
  rw [←(kerJ_ok h).1];exact kerJ_cl h (kerX_ok h).2.1 hy (kerX_ok h).2.2.1
theorem kerJ_elems (h:Semi t):elemsJ t (kerJ t)=ascV t.length (kerF t):=by
  rw [elemsJ_asc (kerJ_ok h).2]
  exact ascV_congr fun y hy=>Bool.eq_iff_iff.2 (decide_eq_true_iff.trans (kerJ_iff h hy))
theorem kerJ_min (h:Semi t):minJ t (kerJ t)=true:=minJ_iff.2 fun k hk hne=>by
  have h1:=fst_of (classJ_canon t) (kerJ_ok h).2
  have h2:=fst_of (classJ_canon t) hk
  have l1:fstC (classJ t) (kerJ t)<t.length:=by have:=h1.2.2.1;rwa [classJ_len] at this
  have l2:fstC (classJ t) k<t.length:=by have:=h2.2.2.1;rwa [classJ_len] at this
  refine Bool.eq_false_iff.2 fun hh=>hne ?_
  have k2:=kerJ_up h l1 ((kerJ_iff h l1).1 h1.2.2.2) hh
  have:=(kerJ_iff h l2).2 k2
  have h3:jcl t (fstC (classJ t) k)=(k:Int):=h2.2.2.2
  omega
theorem kerJ_reg (h:Semi t):(regL t).getD (kerJ t) false=true:=by
  have hx:=kerX_ok h
  obtain ⟨e,he,me,hid,_⟩:=(⟨h,hx.2.1,hx.2.1,hx.2.2.1,hx.2.2.1⟩:MetG t (kerX t) (kerX t)).grp
  exact (regL_iff (kerJ_ok h).2).2 ⟨e,he,(kerJ_iff h he).2 (ker_L h hx.2.1 hx.2.2.1 (met_iff.1 me).1),(hid e he me).1⟩
theorem mn_num {F:(Nat→Bool)→Nat→Bool} {rel:Nat→Nat→Bool} (o:OneS t F rel) {rows:List (List Int)} (m:MnOk t rel rows t.length) {cls:Nat→Int} (hc:∀x y,x<t.length→y<t.length→(cls x=cls y↔(rel x y=true∧rel y x=true))) {L:List Int} (hL:L.Nodup) (hm:∀c,c∈L↔∃x,x<t.length∧kerF t x=true∧cls x=c):rows.length=L.length:=by
  have hd:∀l∈rows,∃x z:Nat,x<t.length∧z<t.length∧kerF t x=true∧kerF t z=true∧l=ascV t.length (rel x)∧l.getD 0 0=(z:Int)∧cls z=cls x:=fun l hl=>by
    obtain ⟨x,hx,kx,rfl⟩:=m.row l hl
    have hp:0<(ascV t.length (rel x)).length:=List.length_pos_of_mem (ascV_mem.2 ⟨x,hx,o.pre.refl x hx,rfl⟩)
    obtain ⟨z,hz,rz,e⟩:=ascV_mem.1 (getD_mem (d:=0) hp)
    exact ⟨x,z,hx,hz,kx,o.ker x z hx hz kx rz,rfl,e,(hc z x hz hx).2 ⟨o.stab x z hx hz kx rz,rz⟩⟩
  have hn:(rows.map fun l=>cls (l.getD 0 0).toNat).Nodup:=by
    refine List.Pairwise.map _ ?_ (List.Pairwise.and_mem.1 m.dis)
    rintro l l' ⟨hl,hl',hdis⟩ e
    obtain ⟨x,z,hx,hz,kx,kz,e1,e2,e3⟩:=hd l hl
    obtain ⟨x',z',hx',hz',kx',kz',e1',e2',e3'⟩:=hd l' hl'
    rw [e2,e2',Int.toNat_natCast,Int.toNat_natCast] at e
    have hr:=((hc x z' hx hz').1 (e3.symm.trans e)).1
    have hr':=((hc x' z' hx' hz').1 e3'.symm).1
    refine hdis z' ?_ ?_
    · rw [e1,ascV_set hz'];exact hr
    · rw [e1',ascV_set hz'];exact hr'
  have hp:(rows.map fun l=>cls (l.getD 0 0).toNat).Perm L:=(List.perm_ext_iff_of_nodup hn hL).2 fun c=>by
    rw [hm,List.mem_map]
    constructor
    · rintro ⟨l,hl,rfl⟩
      obtain ⟨x,z,hx,hz,kx,kz,e1,e2,e3⟩:=hd l hl
      exact ⟨z,hz,kz,by rw [e2];rfl⟩
    · rintro ⟨x,hx,kx,rfl⟩
      obtain ⟨l,hl,hs⟩:=covB_iff.1 (m.cov x hx hx kx)
      obtain ⟨y,z,hy,hz,ky,kz,e1,e2,e3⟩:=hd l hl
      refine ⟨l,hl,?_⟩
      rw [e2,Int.toNat_natCast,e3]
      rw [e1,ascV_set hx] at hs
      exact (hc y x hy hx).2 ⟨hs,o.stab y x hy hx ky hs⟩
  have:=hp.length_eq
  rwa [List.length_map] at this
theorem asc_nodup {l:List Int} (h:Asc l):l.Nodup:=(pairwise_adj h).imp fun {a b} hab e=>by omega
theorem classR_rng {x:Nat} (hx:x<t.length):0≤rcl t x∧rcl t x<classN (classR t):=
  (valid_range (canon_idem _:canon (classR t)=classR t) (rcl t x)).2 (getD_mem (show x<(classR t).length by rw [classR_len];exact hx))
theorem classL_rng {x:Nat} (hx:x<t.length):0≤lcl t x∧lcl t x<classN (classL t):=
  (valid_range (canon_idem _:canon (classL t)=classL t) (lcl t x)).2 (getD_mem (show x<(classL t).length by rw [classL_len];exact hx))
theorem ker_num (h:Semi t) {n:Nat} {cls:Nat→Int} (hr:∀x,x<t.length→0≤cls x∧cls x<(n:Int)) (c:Int):(c∈ascV n fun c=>(elemsJ t (kerJ t)).any fun x=>decide (cls x.toNat=(c:Int)))↔∃x,x<t.length∧kerF t x=true∧cls x=c:=by
  rw [ascV_mem,kerJ_elems h]
  constructor
  · rintro ⟨i,hi,ha,rfl⟩
    obtain ⟨x,hx,he⟩:=List.any_eq_true.1 ha
    obtain ⟨k,hk,kk,rfl⟩:=ascV_mem.1 hx
    exact ⟨k,hk,kk,of_decide_eq_true he⟩
  · rintro ⟨x,hx,kx,rfl⟩
    have hr:=hr x hx
    exact ⟨(cls x).toNat,by omega,List.any_eq_true.2 ⟨(x:Int),ascV_mem.2 ⟨x,hx,kx,rfl⟩,decide_eq_true (by show cls x=_;omega)⟩,by omega⟩
theorem ker_rows (h:Semi t):(mnL t (rgtF t) t.length).length=cR t (kerJ t):=
  mn_num (oneL_r h) (mn_ok (oneL_r h) t.length (Nat.le_refl _)) (cls:=rcl t) (fun _ _ hx hy=>rcl_iff h hx hy) (asc_nodup (ascV_asc _ _)) (ker_num h fun _ hx=>classR_rng hx)
theorem ker_cols (h:Semi t):(mnL t (lftF t) t.length).length=cC t (kerJ t):=
  mn_num (oneL_l h) (mn_ok (oneL_l h) t.length (Nat.le_refl _)) (cls:=lcl t) (fun _ _ hx hy=>lcl_iff h hx hy) (asc_nodup (ascV_asc _ _)) (ker_num h fun _ hx=>classL_rng hx)
theorem ker_coo (h:Semi t):Coo t (kerJ t) (eJ t (kerJ t)):=(eJ_ok h (kerJ_ok h).2 (kerJ_reg h)).2.2.2.1
theorem ker_size (h:Semi t):(cR t (kerJ t):Int)*cC t (kerJ t)*(cooG t (kerJ t) (eJ t (kerJ t))).length=(ascV t.length (kerF t)).length:=by
  have:=(ker_coo h).good.2.1
  rw [kerJ_elems h,kerJ_min h] at this
  rw [this]
  show _=(_*_*_+zI false) - zI false
  rw [Int.add_sub_cancel,Int.mul_assoc,Int.mul_comm,Int.mul_comm]
  first|rfl|(simp only [Int.mul_assoc,Int.mul_comm,Int.mul_left_comm])
end Go.Proofs.YtjabhmhhhlcopaaGreatDoor
