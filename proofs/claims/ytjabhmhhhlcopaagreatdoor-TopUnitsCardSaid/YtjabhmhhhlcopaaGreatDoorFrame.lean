import Derived.Test.YtjabhmhhhlcopaaGreatDoorRefCgL
import Derived.Test.YtjabhmhhhlcopaaGreatDoorIdeal
import Derived.Test.YtjabhmhhhlcopaaGreatDoorGreen
import Derived.Test.YtjabhmhhhlcopaaGreatDoorRefReg
import Derived.Test.YtjabhmhhhlcopaaGreatDoorBase
import Derived.Test.YtjabhmhhhlcopaaGreatDoorRows
import Derived.Deep.Matrix
import Derived.Deep.Fields
import Derived.SizedLaws
import Derived.Carry
import Derived.WideKeyArgs
import Derived.ProofKit
import Derived.OpenShut
section
namespace Go.Proofs.YtjabhmhhhlcopaaGreatDoor
open Go Go.AM
set_option maxRecDepth 100000
set_option maxHeartbeats 4000000
def mgP (G:List (List Int)):Prop:=(1≤G.length∧G.length≤6)∧∀f∈G,vldP f∧f.length=(G.getD 0 []).length
noncomputable def mgB (G:List (List Int)):Bool:=@decide (mgP G) (Classical.propDecidable _)
theorem mgB_true {G:List (List Int)}:mgB G=true↔mgP G:=by unfold mgB;exact @decide_eq_true_iff _ (Classical.propDecidable _)
theorem mgB_false {G:List (List Int)}:mgB G=false↔¬mgP G:=by unfold mgB;exact @decide_eq_false_iff_not _ (Classical.propDecidable _)
theorem maygens_k (G:List (List Int)) (hl:G.length≤140737488355328):fnK TY SP Tryz.f74 [.ro (.rows .i64 G)] (.bool (.v (mgB G))):=by
  have no:¬mgP G→(BE.lit false).val=(BE.v (mgB G)).val:=fun h=>(mgB_false.2 h).symm
  refine And.intro (fun h1=>?_) (fun h1=>?_)
  · have h1:(G.length:Int)<1:=h1
    exact And.intro (no fun h=>by have:=h.1;omega) trivial
  have h1:1≤(G.length:Int):=h1
  refine And.intro (fun h2=>?_) (fun h2=>?_)
  · have h2:6<(G.length:Int):=h2
    exact And.intro (no fun h=>by have:=h.1;omega) trivial
  have h2:(G.length:Int)≤6:=h2
  refine Exists.intro []<|lp (X:=Nat) (fun i=>[(15,.int .i64 i)]) (fun _=>[]) (fun i=>i≤G.length∧∀j,j<i→vldP (G.getD j [])∧(G.getD j []).length=(G.getD 0 []).length) (fun i=>G.length - i) 0 ⟨Nat.zero_le _,fun j h=>absurd h (Nat.not_lt_zero _)⟩ (by repeat' first|refine And.intro ?_ ?_|exact True.intro|(show (_:Int)=(_:Int);omega)|omega|exact rfl|(simp only [RO.len];omega)) ?_
  rintro i ⟨hi,hI⟩
  refine And.intro (fun h3=>?_) (fun h3=>?_)
  · have h3:(i:Int)<(G.length:Int):=h3
    have hm:=getD_mem (d:=[]) (l:=G) (i:=i) (by omega)
    refine And.intro (by omega) ?_
    refine Or.inl (cq (rvld_fn (G.getD i [])) (And.intro rfl trivial) ?_)
    refine And.intro (fun h4=>?_) (fun h4=>?_)
    · have h4:(!vldB (G.getD i []))=true:=h4
      refine And.intro (no fun h=>?_) trivial
      rw [vldB_true.2 (h.2 _ hm).1] at h4;cases h4
    have h4:(!vldB (G.getD i []))=false:=h4
    refine And.intro (by omega) ?_
    refine And.intro (fun h5=>?_) (fun h5=>?_)
    · have h5:((G.getD i []).length:Int)≠((G.getD 0 []).length:Int):=h5
      refine And.intro (no fun h=>?_) trivial
      have:=(h.2 _ hm).2;omega
    have h5:((G.getD i []).length:Int)=((G.getD 0 []).length:Int):=h5
    refine And.intro (by omega) ?_
    refine nx (i+1) ⟨by omega,fun j hj=>?_⟩ (show G.length - (i+1)<G.length - i by omega) (by repeat' first|refine And.intro ?_ ?_|exact True.intro|(show (_:Int)=(_:Int);omega)|omega|exact rfl|(simp only [RO.len];omega))
    by_cases e:j=i
    · subst e;exact ⟨vldB_true.1 (by simpa using h4),by omega⟩
    · exact hI j (by omega)
  · have h3:(G.length:Int)≤(i:Int):=h3
    refine And.intro ?_ trivial
    refine (mgB_true.2 ⟨⟨by omega,by omega⟩,fun f hf=>?_⟩).symm
    obtain ⟨j,hj,rfl⟩:=mem_getD [] hf
    exact hI j (by omega)
theorem maygens_fn (G:List (List Int)):QF 74 [.ro (.rows .i64 G)] (.bool (.v (mgB G))):=mkQ Tryz.func74 (by decide+kernel) rfl (Nat.le_of_ble_eq_true rfl) fun hf=>maygens_k G hf.1.1
def rgP (G:List (List Int)):Prop:=mgP G∧G.length≤2∧(G.getD 0 []).length≤3
noncomputable def rgB (G:List (List Int)):Bool:=@decide (rgP G) (Classical.propDecidable _)
theorem rgB_true {G:List (List Int)}:rgB G=true↔rgP G:=by unfold rgB;exact @decide_eq_true_iff _ (Classical.propDecidable _)
theorem rgB_false {G:List (List Int)}:rgB G=false↔¬rgP G:=by unfold rgB;exact @decide_eq_false_iff_not _ (Classical.propDecidable _)
theorem tright_fn (G:List (List Int)):QF 22 [.ro (.rows .i64 G),.int .i64 3] (.bool (.v (rgB G))):=mkQ Tryz.func22 (by decide+kernel) rfl (Nat.le_of_ble_eq_true rfl) fun _=>by
  have no:¬rgP G→false=rgB G:=fun h=>(rgB_false.2 h).symm
  refine Or.inl (cq (maygens_fn G) (And.intro rfl trivial) ?_)
  refine And.intro (fun h1=>?_) (fun h1=>?_)
  · have h1:mgP G:=mgB_true.1 h1
    have hpos:=h1.1
    refine And.intro (fun h2=>?_) (fun h2=>?_)
    · have h2:(G.length:Int)≤2:=h2
      refine And.intro (by omega) ?_
      refine And.intro ?_ trivial
      show decide (((G.getD 0 []).length:Int)≤3)=rgB G
      by_cases h3:((G.getD 0 []).length:Int)≤3
      · rw [decide_eq_true h3];exact (rgB_true.2 ⟨h1,by omega,by omega⟩).symm
      · rw [decide_eq_false h3];exact no fun h=>h3 (by have:=h.2.2;omega)
    · have h2:2<(G.length:Int):=h2
      exact And.intro (no fun h=>by have:=h.2.1;omega) trivial
  · exact And.intro (no fun h=>by have h1:mgB G=false:=h1;rw [mgB_true.2 h.1] at h1;cases h1) trivial
theorem topU_fn (G:List (List Int)):QF 5 [.ro (.rows .i64 G)] (.bool (.lit true)):=mkQ Tryz.func5 (by decide+kernel) rfl (Nat.le_of_ble_eq_true rfl) fun _=>by
  refine Or.inl (cq (tright_fn G) (And.intro rfl (And.intro rfl trivial)) ?_)
  refine And.intro (fun _=>?_) (fun h1=>?_)
  · exact Or.inl (cq awakeT_fn trivial (And.intro rfl trivial))
  have h1:(!rgB G)=false:=h1
  rw [Bool.not_eq_false'] at h1
  have hr:=rgB_true.1 h1
  have hG:∀f∈G,Trn (G.getD 0 []).length f:=fun f hf=>by
    have:=hr.1.2 f hf
    exact ⟨this.2,by rw [←this.2];exact this.1.2⟩
  have hv0:=(hr.1.2 _ (getD_mem (d:=[]) (l:=G) (i:=0) (by have:=hr.1.1;omega))).1.1
  have hn1:1≤(G.getD 0 []).length:=hv0.1
  have hn3:=hr.2.2
  generalize (G.getD 0 []).length=n at hG hn1 hn3
  have hG0:=hr.1.1
  refine Or.inr (Or.inr (ce (ebld_fn n G hG hn1 hn3 (by omega) (by omega)) (And.intro rfl (And.intro rfl trivial)) ?_))
  refine all6 fun E P L R U D=>?_
  intro hz
  have hDE:D=E.length:=hz.1
  obtain ⟨W,B,S,hR⟩:=hz.2
  subst hDE
  have hT:=hR.tme hG hn1 hn3
  have hs:=hT.semi
  have hfew:=hT.few
  have hpos:=hT.pos
  have htl:=tabE_len E
  refine Or.inl (cq (etab_fn n G E P L W B R U S hG hn1 hn3 (by omega) (by omega) hR) ?_ ?_)
  · repeat' first|refine And.intro ?_ ?_|exact True.intro|(show (_:Int)=(_:Int);omega)|omega|exact rfl|(simp only [RO.len];omega)
  refine Or.inl (cq (green_fn (tabE E) hs) (And.intro rfl trivial) ?_)
  have hcl:(classH (tabE E)).length=E.length:=by
    unfold classH
    rw [canon_length,List.length_zip,classR_len,classL_len,htl];omega
  refine And.intro (fun h=>absurd rfl h) (fun _=>?_)
  refine And.intro (fun h=>absurd rfl h) (fun _=>?_)
  refine And.intro (fun h=>absurd (show ((tabE E).length:Int)=0 from h) (by omega)) (fun _=>?_)
  refine And.intro (fun h=>absurd (show ((classH (tabE E)).length:Int)=((tabE E).length:Int) by omega) h) (fun _=>?_)
  refine And.intro (fun h=>absurd (show (E.length:Int)=((tabE E).length:Int) by omega) h) (fun _=>?_)
  refine Exists.intro []<|lp (X:=Nat) (fun x=>[(60,.int .i64 x),(8,.vec 83),(9,.vec 87)]) (fun x=>[(83,.vec 0 (.ints .i64 (memTo (setB E.length (uB E)) x)) []),(87,.vec 0 (.ints .i64 (memTo (setB E.length fun y=>!uB E y) x)) [])]) (fun x=>x≤E.length) (fun x=>E.length - x) 0 (Nat.zero_le _) (by repeat' first|refine And.intro ?_ ?_|exact True.intro|(show (_:Int)=(_:Int);omega)|omega|exact rfl|(simp only [RO.len];omega)) ?_
  intro x hx
  have hm1:=memTo_len (l:=setB E.length (uB E)) (k:=x)
  have hm2:=memTo_len (l:=setB E.length fun y=>!uB E y) (k:=x)
  refine And.intro (fun h4=>?_) (fun h4=>?_)
  · have h4:(x:Int)<(E.length:Int):=h4
    have hxl:x<E.length:=by omega
    have hc:=hT.hcl hxl
    refine And.intro (by omega) ?_
    refine Or.inl ?_
    refine Exists.intro (List.replicate 13 false) (And.intro (by decide+kernel) ?_)
    refine cq (tperm_fn (E.getD x [])) (And.intro rfl trivial) ?_
    refine And.intro (by omega) ?_
    refine And.intro (by omega) ?_
    have hB1:(setB E.length (uB E)).getD x false=uB E x:=setB_get hxl
    have hB2:(setB E.length fun y=>!uB E y).getD x false= !uB E x:=setB_get hxl
    refine And.intro (fun h5=>?_) (fun _=>?_)
    · exfalso
      have h5:(!(uB E x==decide ((classH (tabE E)).getD x 0=(classH (tabE E)).getD 0 0)))=true:=h5
      by_cases hu:uB E x=true
      · rw [hu,decide_eq_true (hc.2 hu)] at h5;cases h5
      · rw [decide_eq_false (fun e=>hu (hc.1 e))] at h5
        have hu:uB E x=false:=by simpa using hu
        rw [hu] at h5;cases h5
    refine Or.inl (cq (tperm_fn (E.getD x [])) (And.intro rfl trivial) ?_)
    refine And.intro (fun h6=>?_) (fun h6=>?_)
    · have h6:uB E x=true:=h6
      have m1:=memTo_yes (l:=setB E.length (uB E)) (k:=x) (hB1.trans h6)
      have m2:=memTo_no (l:=setB E.length fun y=>!uB E y) (k:=x) (by rw [hB2,h6];rfl)
      refine And.intro (by rw [List.length_append,List.length_singleton];omega) ?_
      refine And.intro (by omega) ?_
      refine nx (x+1) (show x+1≤E.length by omega) (show E.length - (x+1)<E.length - x by omega) (by repeat' first|refine And.intro ?_ ?_|exact True.intro|exact congrArg (RO.ints .i64) m1.symm|exact congrArg (RO.ints .i64) m2.symm|(show (_:Int)=(_:Int);omega)|omega|exact rfl)
    · have h6:uB E x=false:=h6
      have m1:=memTo_no (l:=setB E.length (uB E)) (k:=x) (hB1.trans h6)
      have m2:=memTo_yes (l:=setB E.length fun y=>!uB E y) (k:=x) (by rw [hB2,h6];rfl)
      refine And.intro (by rw [List.length_append,List.length_singleton];omega) ?_
      refine And.intro (by omega) ?_
      refine nx (x+1) (show x+1≤E.length by omega) (show E.length - (x+1)<E.length - x by omega) (by repeat' first|refine And.intro ?_ ?_|exact True.intro|exact congrArg (RO.ints .i64) m1.symm|exact congrArg (RO.ints .i64) m2.symm|(show (_:Int)=(_:Int);omega)|omega|exact rfl)
  · have h4:(E.length:Int)≤(x:Int):=h4
    obtain rfl:x=E.length:=by omega
    have e1:memTo (setB E.length (uB E)) E.length=ascV E.length (uB E):=by unfold ascV memV;rw [setB_len]
    have e2:memTo (setB E.length fun y=>!uB E y) E.length=ascV E.length fun y=>!uB E y:=by unfold ascV memV;rw [setB_len]
    refine Or.inl (cq (sub_fn (tabE E) hs (ascV E.length (uB E)) hT.ucl (by rw [htl];exact ascV_len _ _)) ?_ ?_)
    · repeat' first|refine And.intro ?_ ?_|exact True.intro|exact congrArg (RO.ints .i64) e1|(show (_:Int)=(_:Int);omega)|omega|exact rfl
    refine And.intro (fun _=>?_) (fun h=>absurd rfl h)
    refine Or.inl (cq (isgroup_fn (subT (tabE E) (ascV E.length (uB E)))) (And.intro rfl trivial) ?_)
    refine And.intro (fun _=>?_) (fun h7=>?_)
    · refine And.intro (fun _=>?_) (fun h8=>?_)
      · exact Or.inl (cq awakeT_fn trivial (And.intro rfl trivial))
      · have h8:((memTo (setB E.length fun y=>!uB E y) E.length).length:Int)≠0:=h8
        rw [e2] at h8
        refine Or.inl (cq (iIsIdeal_fn (tabE E) hs (ascV E.length fun y=>!uB E y)) ?_ ?_)
        · repeat' first|refine And.intro ?_ ?_|exact True.intro|exact congrArg (RO.ints .i64) e2|(show (_:Int)=(_:Int);omega)|omega|exact rfl
        refine And.intro (fun _=>?_) (fun h9=>?_)
        · exact Or.inl (cq awakeT_fn trivial (And.intro rfl trivial))
        · exfalso
          have h9:idB (tabE E) (ascV E.length fun y=>!uB E y)=false:=h9
          rw [idB_true.2 (hT.oid (by omega))] at h9;cases h9
    · exfalso
      have h7:grpB (subT (tabE E) (ascV E.length (uB E)))=false:=h7
      rw [grpB_true.2 hT.ugrp] at h7;cases h7
end Go.Proofs.YtjabhmhhhlcopaaGreatDoor
end
section
namespace Go.Proofs.YtjabhmhhhlcopaaGreatDoor
open Go Go.AM
open Go.ChangeShapes Go.WideShapes Go.ChangeAt Go.RowKit Go.Deep
def noM:Msk:=fun _ _=>False
section
variable {H:Type} {enc:TypeId × Value→H} {P:Program} {w:World}
theorem wf_in {k:IntKind} {n:Int} (h:(Lit.int k n).wf=true):inK k n:=by
  simp only [Lit.wf,Bool.and_eq_true,decide_eq_true_eq] at h
  exact h
theorem weight_mem {e:TypeId} {d:DataW H} {x:Nat}:∀{l:List (DataW H)},d∈l→x∈d.weights P e→x∈DataW.weightsAll P e l
  |[],h,_=>by cases h
  |c::l,h,hx=>by
   simp only [DataW.weightsAll,List.mem_append]
   rcases List.mem_cons.1 h with rfl|h
   · exact .inl hx
   · exact .inr (weight_mem h hx)
theorem rows_rep {t e q:TypeId} {n:Nat} {v:Value} {y:DataW H × List MemPlace} (ht:P.underlying t=some (.slice e)) (he:P.underlying e=some (.slice q)) (hq:P.underlying q=some (.int .i64)) (ce:P.cellsOf e=1) (cq:P.cellsOf q=1)
    (be:1≤P.bytesOf e) (bq:1≤P.bytesOf q) (h:DataW.trod enc P w 0 (fun _=>true) true n t [v]=some y) (hw:∀x∈y.1.weights P t,x≤reachBytes):∃l,RepC noEnv w noM (.ro (.rows .i64 l)) v:=by
  have hrb:reachBytes=140737488351232:=rfl
  rcases open_int_rows ht he hq ce cq h with ⟨hv,_⟩|⟨a,len,cap,A,L,C,Z,hv,_,hl,hm,hy,hrows⟩
  · obtain rfl:v= .slice none 0 0:=by simpa using hv
    exact ⟨[],Nat.zero_le _,none,0,rfl,Nat.le_refl _,.inl rfl⟩
  · obtain rfl:v= .slice (some a) len cap:=by simpa using hv
    subst hy
    have hlen:len*P.bytesOf e≤reachBytes:=by
      have:=hw ((len+(cap - len))*P.bytesOf e) (by simp [DataW.weights,ht])
      exact Nat.le_trans (Nat.mul_le_mul_right _ (by omega)) this
    have hlen1:len≤reachBytes:=Nat.le_trans (by have:=Nat.mul_le_mul_left len be;omega) hlen
    have hL:∀r,r<len→L r≤reachBytes:=fun r hr=>by
      obtain ⟨_,h1,h2,h3,_,h4,_⟩:=hrows r (by omega)
      cases hA:A r with
      |none=>have:=h4 hA;omega
      |some a'=>
       have hx:(L r+((Z r).length - L r))*P.bytesOf q≤reachBytes:=by
         refine hw _ ?_
         simp only [DataW.weights,ht,List.mem_cons,List.mem_append]
         refine .inr (.inl (weight_mem (d:=intRow .i64 (A r) (L r) (Z r)) (List.mem_map.2 ⟨r,List.mem_range.2 hr,rfl⟩) ?_))
         rw [hA]
         simp [intRow,DataW.weights,he,lits]
         left
         rw [Nat.min_eq_left (by omega)]
       have h5:L r*1≤(L r+((Z r).length - L r))*P.bytesOf q:=Nat.mul_le_mul (by omega) bq
       omega
    refine ⟨(List.range len).map fun r=>(Z r).take (L r),?_⟩
    have hll:(RO.rows .i64 ((List.range len).map fun r=>(Z r).take (L r))).len=len:=by simp [RO.len]
    refine ⟨by rw [hll];exact Nat.le_trans hlen1 (by rw [hrb];decide),some a,cap,by rw [hll],by rw [hll];exact hl,?_⟩
    by_cases h0:len=0
    · exact .inl (by rw [RO.cells,hll,h0,Nat.zero_mul])
    have hcell0:=(hrows 0 (by omega)).1
    obtain ⟨b,off,spot⟩:=a
    have hspot:spot=none:=by simpa [Addr.add] using World.cell?_spot hcell0
    subst hspot
    refine .inr ⟨b,off,rfl,fun r hr=>?_⟩
    have hr:r<len:=by simpa [RO.cells,hll,RO.sz] using hr
    obtain ⟨h1,h2,h3,h4,h5,h6,h7⟩:=hrows r (by omega)
    refine ⟨.slice (A r) (L r) (C r),by rw [←add_plain];exact h1,fun hh=>hh,?_⟩
    have hget:((List.range len).map fun r=>(Z r).take (L r)).getD r []=(Z r).take (L r):=by simp [List.getD,hr]
    show SlI w noM .i64 (((List.range len).map fun r=>(Z r).take (L r)).getD r []) _
    rw [hget]
    have hzl:((Z r).take (L r)).length=L r:=by rw [List.length_take];omega
    refine ⟨by rw [hzl];have:=hL r hr;simp only [LB];omega,A r,C r,by rw [hzl],by rw [hzl];exact h2,?_⟩
    by_cases hl0:L r=0
    · exact .inl (by rw [hzl,hl0])
    cases hA:A r with
    |none=>have:=h6 hA;omega
    |some a'=>
     obtain ⟨h8,h9⟩:=h7 a' hA
     obtain ⟨b',off',spot'⟩:=a'
     have hspot:spot'=none:=by simpa [Addr.add] using World.cell?_spot (h9 0 (by omega))
     subst hspot
     refine .inr ⟨b',off',rfl,fun c hc=>?_⟩
     rw [hzl] at hc
     have hg2:((Z r).take (L r)).getD c 0=(Z r).getD c 0:=by simp [List.getD,hc]
     refine ⟨.int .i64 ((Z r).getD c 0),by rw [←add_plain];exact h9 c (by omega),fun hh=>hh,by rw [hg2],?_⟩
     rw [hg2]
     refine wf_in (h5 _ ?_)
     have:c<(Z r).length:=by omega
     simp [List.getD,this]
theorem stp_heap {W W':World} (hs:Stp (fun _ _=>False) W W') {b:Nat} (hb:b<W.heap.size):W'.heap[b]? =W.heap[b]? :=by
  rcases hs.2 b hb with h|⟨cs,cs',ty,h1,h2,h3,h4⟩|⟨_,_,_,_,_,_,h⟩
  · exact h
  · rw [h1,h2]
    have:cs'=cs:=Array.ext_getElem? fun i=>h4 i (by simp)
    rw [this]
  · exact h.elim
theorem stp_trod {t:TypeId} (hl:laidOutB P=true) (hr:P.readableRec t=true) (hrow:t<P.types.size) {W W':World} {v:Value} {d:DataW H} {ps:List MemPlace}
    (h:DataW.Trod enc P W 0 (fun _=>true) true t v d ps) (hs:Stp (fun _ _=>False) W W') (hlt:∀x∈ps,x.block<W.heap.size) (sp:Nat→Bool) (hsp:∀x∈ps,sp x.block=true):
    DataW.Trod enc P W' 0 sp true t v d ps:=
  WideElems.Trod_stays hl hr hrow h (fun x hx=>by
    have hb:=hlt x hx
    cases x with
    |cell b o=>exact World.cell?_of_block (w:=W) (stp_heap hs hb)
    |map b=>exact stp_heap hs hb) hsp
theorem stp_kept {W W':World} (hs:Stp (fun _ _=>False) W W') (may:MemPlace→Prop):W.keptBut W' may:=by
  refine ⟨hs.3.1.1,hs.3.1.2,fun i hi=>?_⟩
  rw [stp_heap hs hi]
  cases W.heap[i]? with
  |none=>exact rfl
  |some o=>cases o<;>first|exact ⟨rfl,rfl,rfl,fun _ _=>rfl⟩|exact .inr ⟨rfl,rfl⟩|exact rfl
theorem each_mem:∀{ts:List TypeId} {ds:List (DataW H)} {j:Nat} {t:TypeId} {d:DataW H} {x:Nat},ts[j]? =some t→ds[j]? =some d→x∈d.weights P t→x∈DataW.weightsEach P ts ds
  |[],_,j,_,_,_,h,_,_=>by simp at h
  |_::_,[],j,_,_,_,_,h,_=>by simp at h
  |t::ts,d::ds,0,t',d',x,h1,h2,hx=>by
   simp at h1 h2
   subst h1;subst h2
   simp [DataW.weightsEach,hx]
  |t::ts,d::ds,j+1,t',d',x,h1,h2,hx=>by
   have:=each_mem (ts:=ts) (ds:=ds) (j:=j) (by simpa using h1) (by simpa using h2) hx
   simp [DataW.weightsEach,this]
theorem rows_arg {t e q:TypeId} {r:Reach} {b0:Nat} {v:Value} {d:DataW H} {p:List MemPlace} (ht:P.underlying t=some (.slice e)) (he:P.underlying e=some (.slice q)) (hq:P.underlying q=some (.int .i64)) (ce:P.cellsOf e=1) (cq:P.cellsOf q=1)
    (be:1≤P.bytesOf e) (bq:1≤P.bytesOf q) (hv:Value.okWide P w r b0 t v) (h:DataW.Trod enc P w 0 (fun _=>true) true t v d p) (hw:∀x∈d.weights P t,x≤reachBytes):∃l,RepT noEnv w noM (.ro (.rows .i64 l)) v:=by
  obtain ⟨a,len,cap,rfl⟩:=okWide_slice ht hv
  obtain ⟨fuel,hf⟩:=h
  exact rows_rep ht he hq ce cq be bq (y:=(d,p)) hf hw
end
end Go.Proofs.YtjabhmhhhlcopaaGreatDoor
end
