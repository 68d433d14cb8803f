import Derived.Test.YtjabhmhhhlcopaaGreatDoorBoxLaw
import Derived.Test.YtjabhmhhhlcopaaGreatDoorDeep
import Derived.Test.YtjabhmhhhlcopaaGreatDoorChoose
import Derived.Test.YtjabhmhhhlcopaaGreatDoorBase
import Derived.Test.YtjabhmhhhlcopaaGreatDoorRows
import Derived.Deep.Matrix
import Derived.Deep.Fields
import Derived.SizedLaws
import Derived.Carry
import Derived.WideKeyArgs
import Derived.ProofKit
import Derived.OpenShut
section
namespace Go.Proofs.YtjabhmhhhlcopaaGreatDoor
open Go Go.AM
set_option maxRecDepth 100000
set_option maxHeartbeats 4000000
def idF (t:List (List Int)) (j:Nat) (x:Int):Bool:=decide (jcl t x.toNat=(j:Int))
theorem idA_at {t:List (List Int)} {k:Nat} (hk:k<(idA t).length):∃x:Nat,x<t.length∧(idA t).getD k 0=(x:Int):=by
  obtain ⟨i,hi,_,e⟩:=ascV_mem.1 (getD_mem (d:=0) hk)
  exact ⟨i,hi,e⟩
theorem topI_fn (t:List (List Int)):QF 4 [.ro (.rows .i64 t)] (.bool (.lit true)):=mkQ Tryz.func4 (by decide+kernel) rfl (Nat.le_of_ble_eq_true rfl) fun _=>by
  refine Or.inl (cq (tvalid_fn t 14) (And.intro rfl (And.intro rfl trivial)) ?_)
  refine And.intro (fun _=>Or.inl (cq awakeT_fn trivial (And.intro rfl trivial))) (fun h1=>?_)
  have h1:(!decide ((t.length:Int)≤14∧validV t=0))=false:=h1
  rw [Bool.not_eq_false'] at h1
  have h1:=of_decide_eq_true h1
  have hs:Semi t:=valid_zero.1 h1.2
  have hcl:(classJ t).length=t.length:=classJ_len t
  have hrl:(regL t).length=numJ t:=regL_len t
  have hnj:numJ t≤t.length:=numJ_le t
  have hil:(idA t).length≤t.length:=ascV_len _ _
  have hidz:idzL t=idA t:=rfl
  refine Or.inl (cq (green_fn t hs) (And.intro rfl trivial) ?_)
  refine Or.inl (cq (regular_fn t hs) (And.intro rfl trivial) ?_)
  refine Exists.intro []<|lp2 (fun (j:Nat) (_:Nat)=>[(34,.int .i64 j),(4,.int .i64 (idTo t j:Nat))]) (fun j _=>[]) (fun j _=>j≤numJ t) (fun j _=>numJ t - j) 0 0 (Nat.zero_le _) ?entry ?_
  case entry=>
    have e0:(0:Int)=((idTo t 0:Nat):Int):=by rw [idTo_0];rfl
    repeat' first|refine And.intro ?_ ?_|exact True.intro|omega|exact e0|exact rfl
  rintro j _ hj
  refine And.intro (fun h2=>?_) (fun h2=>?_)
  · have h2:(j:Int)<((regL t).length:Int):=h2
    have hjj:j<numJ t:=by omega
    have hrc:=rowsN_le hs hjj
    have hC14:cC t j≤14:=by show (colsN t j).length≤14;omega
    have hR14:cR t j≤14:=by show (rowsN t j).length≤14;omega
    refine And.intro (by omega) ?_
    refine Or.inl (cq (gbox_fn t hs j hjj) (And.intro rfl (And.intro rfl trivial)) ?_)
    have hrn:(regL t).getD ((j:Nat):Int).toNat false=(regL t).getD j false:=by rw [Int.toNat_natCast]
    have hreg:=ids_reg (t:=t) hjj
    have hs1:=idTo_s (t:=t) (j:=j)
    have hsl:=idTo_le (t:=t) (j:=j+1)
    rcases hr:(regL t).getD j false
    all_goals
      first|refine Or.inl (cq (coo_none t hs j hjj hr) (And.intro rfl (And.intro rfl trivial)) ?_)|refine Or.inl (cq (coo_fn t hs j hjj hr) (And.intro rfl (And.intro rfl trivial)) ?_)
      refine Or.inl (cq (idm_fn t h1.2) (And.intro rfl trivial) ?_)
      refine Exists.intro []<|lp2 (fun (k:Nat) (_:Nat)=>[(55,.int .i64 k),(12,.int .i64 (fltN (idF t j) (idA t) k:Nat))]) (fun k _=>[]) (fun k _=>k≤(idA t).length) (fun k _=>(idA t).length - k) 0 0 (Nat.zero_le _) (by repeat' first|refine And.intro ?_ ?_|exact True.intro|omega|exact rfl) ?_
      rintro k _ hk
      refine And.intro (fun h3=>?_) (fun h3=>?_)
      · have h3:(k:Int)<((idA t).length:Int):=h3
        have hki:k<(idA t).length:=by omega
        obtain ⟨x,hx,ex⟩:=idA_at (t:=t) hki
        have hg:(idzL t).getD ((k:Nat):Int).toNat 0=(x:Int):=by rw [Int.toNat_natCast];exact ex
        have hfl:=flt_le (idF t j) (idA t) k
        have hfm:=List.length_filter_le (idF t j) (idA t)
        refine And.intro (by omega) ?_
        refine And.intro (fun h4=>absurd (show ((classJ t).length:Int)≤(idzL t).getD ((k:Nat):Int).toNat 0 from h4) (by omega)) (fun _=>?_)
        refine And.intro (show 0≤(idzL t).getD ((k:Nat):Int).toNat 0∧(idzL t).getD ((k:Nat):Int).toNat 0<((classJ t).length:Int) by omega) ?_
        have hgn:((idzL t).getD ((k:Nat):Int).toNat 0).toNat=x:=by omega
        refine And.intro (fun h4=>?_) (fun h4=>?_)
        · have h4:(classJ t).getD ((idzL t).getD ((k:Nat):Int).toNat 0).toNat 0=(j:Int):=h4
          rw [hgn] at h4
          have e:=(flt_hit (f:=idF t j) hki (decide_eq_true (by show jcl t ((idA t).getD k 0).toNat=(j:Int);rw [ex,Int.toNat_natCast];exact h4))).1
          refine And.intro (by omega) ?_
          refine And.intro (by omega) ?_
          refine nx (k+1,0) (show k+1≤(idA t).length by omega) (show (idA t).length - (k+1)<(idA t).length - k by omega) ?_
          repeat' first|refine And.intro ?_ ?_|exact True.intro|(show (_:Int)=(_:Int);omega)|omega|exact rfl
        · have h4:(classJ t).getD ((idzL t).getD ((k:Nat):Int).toNat 0).toNat 0≠(j:Int):=h4
          rw [hgn] at h4
          have e:=flt_miss (f:=idF t j) hki (decide_eq_false (by show jcl t ((idA t).getD k 0).toNat≠(j:Int);rw [ex,Int.toNat_natCast];exact h4))
          refine And.intro (by omega) ?_
          refine nx (k+1,0) (show k+1≤(idA t).length by omega) (show (idA t).length - (k+1)<(idA t).length - k by omega) ?_
          repeat' first|refine And.intro ?_ ?_|exact True.intro|(show (_:Int)=(_:Int);omega)|omega|exact rfl
      have h3:((idA t).length:Int)≤(k:Int):=h3
      have hke:fltN (idF t j) (idA t) k=(idJ t j).length:=flt_end (by omega)
      rw [hke]
      clear hke h3 hk
      refine Exists.intro []<|lp2 (fun (i:Nat) (_:Nat)=>[(77,.int .i64 i),(13,.int .i64 (cntTo (grpP t j) (cC t j) i:Nat))]) (fun i _=>[]) (fun i _=>i≤cR t j) (fun i _=>cR t j - i) 0 0 (Nat.zero_le _) (by repeat' first|refine And.intro ?_ ?_|exact True.intro|omega|exact rfl) ?_
      rintro i _ hi
      refine And.intro (fun h3=>?_) (fun h3=>?_)
      · have h3:(i:Int)<((grpsL t j).length:Int):=h3
        have hgl:(grpsL t j).length=cR t j:=gridL_len ..
        have hii:i<cR t j:=by omega
        have hrow:((grpsL t j).getD ((i:Nat):Int).toNat []).length=cC t j:=by rw [Int.toNat_natCast,grpsL_get hii,grpR_len]
        refine And.intro (by omega) ?_
        refine Exists.intro []<|lp2 (fun (l:Nat) (_:Nat)=>[(83,.int .i64 l),(13,.int .i64 (cntB (grpP t j) (cC t j) i l:Nat))]) (fun l _=>[]) (fun l _=>l≤cC t j) (fun l _=>cC t j - l) 0 0 (Nat.zero_le _) (by repeat' first|refine And.intro ?_ ?_|exact True.intro|omega|exact rfl) ?_
        rintro l _ hl
        refine And.intro (fun h4=>?_) (fun h4=>?_)
        · have h4:(l:Int)<(((grpsL t j).getD ((i:Nat):Int).toNat []).length:Int):=h4
          have hll:l<cC t j:=by omega
          have hb:=cntB_s (grpP t j) (cC t j) i l
          have hbl:=cntB_le (grpP t j) hC14 i (l+1)
          have hgp:(((grpsL t j).getD ((i:Nat):Int).toNat []).getD ((l:Nat):Int).toNat false)=grpP t j i l:=by rw [Int.toNat_natCast,Int.toNat_natCast];rfl
          refine And.intro (by omega) ?_
          refine And.intro (fun h5=>?_) (fun h5=>?_)
          · have h5:(((grpsL t j).getD ((i:Nat):Int).toNat []).getD ((l:Nat):Int).toNat false)=true:=h5
            rw [hgp] at h5
            rw [if_pos h5] at hb
            refine And.intro (by omega) ?_
            refine And.intro (by omega) ?_
            refine nx (l+1,0) (show l+1≤cC t j by omega) (show cC t j - (l+1)<cC t j - l by omega) ?_
            repeat' first|refine And.intro ?_ ?_|exact True.intro|(show (_:Int)=(_:Int);omega)|omega|exact rfl
          · have h5:(((grpsL t j).getD ((i:Nat):Int).toNat []).getD ((l:Nat):Int).toNat false)=false:=h5
            rw [hgp] at h5
            rw [if_neg (by rw [h5];decide)] at hb
            refine And.intro (by omega) ?_
            refine nx (l+1,0) (show l+1≤cC t j by omega) (show cC t j - (l+1)<cC t j - l by omega) ?_
            repeat' first|refine And.intro ?_ ?_|exact True.intro|(show (_:Int)=(_:Int);omega)|omega|exact rfl
        have h4:(((grpsL t j).getD ((i:Nat):Int).toNat []).length:Int)≤(l:Int):=h4
        have hle:l=cC t j:=by omega
        have hbe:=cntB_e (grpP t j) (cC t j) i
        rw [hle]
        refine And.intro (by omega) ?_
        refine nx (i+1,0) (show i+1≤cR t j by omega) (show cR t j - (i+1)<cR t j - i by omega) ?_
        repeat' first|refine And.intro ?_ ?_|exact True.intro|(show (_:Int)=(_:Int);omega)|omega|exact rfl
      have h3:((grpsL t j).length:Int)≤(i:Int):=h3
      have hgl:(grpsL t j).length=cR t j:=gridL_len ..
      have hie:i=cR t j:=by omega
      rw [hie,ids_groups hs hjj]
      clear hie h3 hi
    · skip
      refine Exists.intro []<|lp2 (fun (i:Nat) (_:Nat)=>[(95,.int .i64 i),(20,.int .i64 0)]) (fun _ _=>[]) (fun i _=>i=0) (fun _ _=>0) 0 0 rfl (by repeat' first|refine And.intro ?_ ?_|exact True.intro|omega|exact rfl) ?_
      rintro i _ hi0
      refine And.intro (fun h3=>absurd (show (i:Int)<0 from h3) (by omega)) (fun _=>?_)
      have hl0:(idJ t j).length=0:=by
        rcases Nat.eq_zero_or_pos (idJ t j).length with h|h
        · exact h
        · have:=hreg.2 h;rw [hr] at this;cases this
      have hrf:(regL t).getD ((j:Nat):Int).toNat false=false:=hrn.trans hr
      refine And.intro (fun h3=>absurd rfl h3) (fun _=>?_)
      refine And.intro (fun h3=>absurd (show (!((regL t).getD ((j:Nat):Int).toNat false==decide ((9:Int)=0)))=true from h3) (by rw [hrf];decide)) (fun _=>?_)
      refine And.intro (fun h3=>absurd rfl h3) (fun _=>?_)
      refine And.intro (fun h3=>absurd (hrf.symm.trans (show (regL t).getD ((j:Nat):Int).toNat false=true from h3)) (by decide)) (fun _=>?_)
      refine And.intro (fun h3=>absurd (show (!((regL t).getD ((j:Nat):Int).toNat false==decide ((0:Int)<((idJ t j).length:Int))))=true from h3) (by rw [hrf,hl0];decide)) (fun _=>?_)
      refine And.intro (by omega) ?_
      refine And.intro (by omega) ?_
      refine nx (j+1,0) (show j+1≤numJ t by omega) (show numJ t - (j+1)<numJ t - j by omega) ?_
      repeat' first|refine And.intro ?_ ?_|exact True.intro|(show (_:Int)=(_:Int);omega)|omega|exact rfl
    · skip
      have c:=(eJ_ok hs hjj hr).2.2.2.1
      have hPl:=cooP_len t j (eJ t j)
      refine Exists.intro []<|lp2 (fun (i:Nat) (_:Nat)=>[(95,.int .i64 i),(20,.int .i64 (cntTo (entP t j (eJ t j)) (cR t j) i:Nat))]) (fun i _=>[]) (fun i _=>i≤cC t j) (fun i _=>cC t j - i) 0 0 (Nat.zero_le _) (by repeat' first|refine And.intro ?_ ?_|exact True.intro|omega|exact rfl) ?_
      rintro i _ hi
      refine And.intro (fun h3=>?_) (fun h3=>?_)
      · have h3:(i:Int)<((cooP t j (eJ t j)).length:Int):=h3
        have hii:i<cC t j:=by omega
        have hrow:((cooP t j (eJ t j)).getD ((i:Nat):Int).toNat []).length=cR t j:=by rw [Int.toNat_natCast,cooP_row hii,List.length_map,List.length_range]
        refine And.intro (by omega) ?_
        refine Exists.intro []<|lp2 (fun (l:Nat) (_:Nat)=>[(101,.int .i64 l),(20,.int .i64 (cntB (entP t j (eJ t j)) (cR t j) i l:Nat))]) (fun l _=>[]) (fun l _=>l≤cR t j) (fun l _=>cR t j - l) 0 0 (Nat.zero_le _) (by repeat' first|refine And.intro ?_ ?_|exact True.intro|omega|exact rfl) ?_
        rintro l _ hl
        refine And.intro (fun h4=>?_) (fun h4=>?_)
        · have h4:(l:Int)<(((cooP t j (eJ t j)).getD ((i:Nat):Int).toNat []).length:Int):=h4
          have hll:l<cR t j:=by omega
          have hb:=cntB_s (entP t j (eJ t j)) (cR t j) i l
          have hbl:=cntB_le (entP t j (eJ t j)) hR14 i (l+1)
          have hgp:(((cooP t j (eJ t j)).getD ((i:Nat):Int).toNat []).getD ((l:Nat):Int).toNat 0)=pe (cooP t j (eJ t j)) i l:=by rw [Int.toNat_natCast,Int.toNat_natCast];rfl
          refine And.intro (by omega) ?_
          refine And.intro (fun h5=>?_) (fun h5=>?_)
          · have h5:0≤(((cooP t j (eJ t j)).getD ((i:Nat):Int).toNat []).getD ((l:Nat):Int).toNat 0):=h5
            rw [hgp] at h5
            rw [if_pos (show entP t j (eJ t j) i l=true from decide_eq_true h5)] at hb
            refine And.intro (by omega) ?_
            refine And.intro (by omega) ?_
            refine nx (l+1,0) (show l+1≤cR t j by omega) (show cR t j - (l+1)<cR t j - l by omega) ?_
            repeat' first|refine And.intro ?_ ?_|exact True.intro|(show (_:Int)=(_:Int);omega)|omega|exact rfl
          · have h5:(((cooP t j (eJ t j)).getD ((i:Nat):Int).toNat []).getD ((l:Nat):Int).toNat 0)<0:=h5
            rw [hgp] at h5
            rw [if_neg (by rw [show entP t j (eJ t j) i l=false from decide_eq_false (by omega)];decide)] at hb
            refine And.intro (by omega) ?_
            refine nx (l+1,0) (show l+1≤cR t j by omega) (show cR t j - (l+1)<cR t j - l by omega) ?_
            repeat' first|refine And.intro ?_ ?_|exact True.intro|(show (_:Int)=(_:Int);omega)|omega|exact rfl
        have h4:(((cooP t j (eJ t j)).getD ((i:Nat):Int).toNat []).length:Int)≤(l:Int):=h4
        have hle:l=cR t j:=by omega
        have hbe:=cntB_e (entP t j (eJ t j)) (cR t j) i
        rw [hle]
        refine And.intro (by omega) ?_
        refine nx (i+1,0) (show i+1≤cC t j by omega) (show cC t j - (i+1)<cC t j - i by omega) ?_
        repeat' first|refine And.intro ?_ ?_|exact True.intro|(show (_:Int)=(_:Int);omega)|omega|exact rfl
      have h3:((cooP t j (eJ t j)).length:Int)≤(i:Int):=h3
      have hie:i=cC t j:=by omega
      rw [hie,ids_entries c]
      have hlp:0<(idJ t j).length:=hreg.1 hr
      have hrf:(regL t).getD ((j:Nat):Int).toNat false=true:=hrn.trans hr
      have hdt:decide ((0:Int)<((idJ t j).length:Int))=true:=decide_eq_true (by omega)
      refine And.intro (fun h3=>absurd rfl h3) (fun _=>?_)
      refine And.intro (fun h3=>absurd (show (!((regL t).getD ((j:Nat):Int).toNat false==decide ((0:Int)=0)))=true from h3) (by rw [hrf];decide)) (fun _=>?_)
      refine And.intro (fun h3=>absurd rfl h3) (fun _=>?_)
      refine And.intro (fun _=>?_) (fun h3=>absurd (hrf.symm.trans (show (regL t).getD ((j:Nat):Int).toNat false=false from h3)) (by decide))
      refine And.intro (fun h3=>absurd rfl h3) (fun _=>?_)
      refine And.intro (fun h3=>absurd (show (!((regL t).getD ((j:Nat):Int).toNat false==decide ((0:Int)<((idJ t j).length:Int))))=true from h3) (by rw [hrf,hdt];decide)) (fun _=>?_)
      refine And.intro (by omega) ?_
      refine And.intro (by omega) ?_
      refine nx (j+1,0) (show j+1≤numJ t by omega) (show numJ t - (j+1)<numJ t - j by omega) ?_
      repeat' first|refine And.intro ?_ ?_|exact True.intro|(show (_:Int)=(_:Int);omega)|omega|exact rfl
  · have h2:((regL t).length:Int)≤(j:Int):=h2
    have hje:j=numJ t:=by omega
    have hip:=ids_pos hs
    have hie:idTo t j=(idA t).length:=by rw [hje];exact idTo_e
    refine Or.inl (cq (idm_fn t h1.2) (And.intro rfl trivial) ?_)
    refine And.intro (fun h3=>?_) (fun h3=>absurd (show ((idTo t j:Nat):Int)=((idA t).length:Int) by omega) h3)
    refine And.intro (fun h4=>?_) (fun h4=>absurd (show ((idTo t j:Nat):Int)≤0 from h4) (by omega))
    exact Or.inl (cq awakeT_fn trivial (And.intro rfl trivial))
end Go.Proofs.YtjabhmhhhlcopaaGreatDoor
end
section
namespace Go.Proofs.YtjabhmhhhlcopaaGreatDoor
open Go Go.AM
open Go.ChangeShapes Go.WideShapes Go.ChangeAt Go.RowKit Go.Deep
def noM:Msk:=fun _ _=>False
section
variable {H:Type} {enc:TypeId × Value→H} {P:Program} {w:World}
theorem wf_in {k:IntKind} {n:Int} (h:(Lit.int k n).wf=true):inK k n:=by
  simp only [Lit.wf,Bool.and_eq_true,decide_eq_true_eq] at h
  exact h
theorem weight_mem {e:TypeId} {d:DataW H} {x:Nat}:∀{l:List (DataW H)},d∈l→x∈d.weights P e→x∈DataW.weightsAll P e l
  |[],h,_=>by cases h
  |c::l,h,hx=>by
   simp only [DataW.weightsAll,List.mem_append]
   rcases List.mem_cons.1 h with rfl|h
   · exact .inl hx
   · exact .inr (weight_mem h hx)
theorem rows_rep {t e q:TypeId} {n:Nat} {v:Value} {y:DataW H × List MemPlace} (ht:P.underlying t=some (.slice e)) (he:P.underlying e=some (.slice q)) (hq:P.underlying q=some (.int .i64)) (ce:P.cellsOf e=1) (cq:P.cellsOf q=1)
    (be:1≤P.bytesOf e) (bq:1≤P.bytesOf q) (h:DataW.trod enc P w 0 (fun _=>true) true n t [v]=some y) (hw:∀x∈y.1.weights P t,x≤reachBytes):∃l,RepC noEnv w noM (.ro (.rows .i64 l)) v:=by
  have hrb:reachBytes=140737488351232:=rfl
  rcases open_int_rows ht he hq ce cq h with ⟨hv,_⟩|⟨a,len,cap,A,L,C,Z,hv,_,hl,hm,hy,hrows⟩
  · obtain rfl:v= .slice none 0 0:=by simpa using hv
    exact ⟨[],Nat.zero_le _,none,0,rfl,Nat.le_refl _,.inl rfl⟩
  · obtain rfl:v= .slice (some a) len cap:=by simpa using hv
    subst hy
    have hlen:len*P.bytesOf e≤reachBytes:=by
      have:=hw ((len+(cap - len))*P.bytesOf e) (by simp [DataW.weights,ht])
      exact Nat.le_trans (Nat.mul_le_mul_right _ (by omega)) this
    have hlen1:len≤reachBytes:=Nat.le_trans (by have:=Nat.mul_le_mul_left len be;omega) hlen
    have hL:∀r,r<len→L r≤reachBytes:=fun r hr=>by
      obtain ⟨_,h1,h2,h3,_,h4,_⟩:=hrows r (by omega)
      cases hA:A r with
      |none=>have:=h4 hA;omega
      |some a'=>
       have hx:(L r+((Z r).length - L r))*P.bytesOf q≤reachBytes:=by
         refine hw _ ?_
         simp only [DataW.weights,ht,List.mem_cons,List.mem_append]
         refine .inr (.inl (weight_mem (d:=intRow .i64 (A r) (L r) (Z r)) (List.mem_map.2 ⟨r,List.mem_range.2 hr,rfl⟩) ?_))
         rw [hA]
         simp [intRow,DataW.weights,he,lits]
         left
         rw [Nat.min_eq_left (by omega)]
       have h5:L r*1≤(L r+((Z r).length - L r))*P.bytesOf q:=Nat.mul_le_mul (by omega) bq
       omega
    refine ⟨(List.range len).map fun r=>(Z r).take (L r),?_⟩
    have hll:(RO.rows .i64 ((List.range len).map fun r=>(Z r).take (L r))).len=len:=by simp [RO.len]
    refine ⟨by rw [hll];exact Nat.le_trans hlen1 (by rw [hrb];decide),some a,cap,by rw [hll],by rw [hll];exact hl,?_⟩
    by_cases h0:len=0
    · exact .inl (by rw [RO.cells,hll,h0,Nat.zero_mul])
    have hcell0:=(hrows 0 (by omega)).1
    obtain ⟨b,off,spot⟩:=a
    have hspot:spot=none:=by simpa [Addr.add] using World.cell?_spot hcell0
    subst hspot
    refine .inr ⟨b,off,rfl,fun r hr=>?_⟩
    have hr:r<len:=by simpa [RO.cells,hll,RO.sz] using hr
    obtain ⟨h1,h2,h3,h4,h5,h6,h7⟩:=hrows r (by omega)
    refine ⟨.slice (A r) (L r) (C r),by rw [←add_plain];exact h1,fun hh=>hh,?_⟩
    have hget:((List.range len).map fun r=>(Z r).take (L r)).getD r []=(Z r).take (L r):=by simp [List.getD,hr]
    show SlI w noM .i64 (((List.range len).map fun r=>(Z r).take (L r)).getD r []) _
    rw [hget]
    have hzl:((Z r).take (L r)).length=L r:=by rw [List.length_take];omega
    refine ⟨by rw [hzl];have:=hL r hr;simp only [LB];omega,A r,C r,by rw [hzl],by rw [hzl];exact h2,?_⟩
    by_cases hl0:L r=0
    · exact .inl (by rw [hzl,hl0])
    cases hA:A r with
    |none=>have:=h6 hA;omega
    |some a'=>
     obtain ⟨h8,h9⟩:=h7 a' hA
     obtain ⟨b',off',spot'⟩:=a'
     have hspot:spot'=none:=by simpa [Addr.add] using World.cell?_spot (h9 0 (by omega))
     subst hspot
     refine .inr ⟨b',off',rfl,fun c hc=>?_⟩
     rw [hzl] at hc
     have hg2:((Z r).take (L r)).getD c 0=(Z r).getD c 0:=by simp [List.getD,hc]
     refine ⟨.int .i64 ((Z r).getD c 0),by rw [←add_plain];exact h9 c (by omega),fun hh=>hh,by rw [hg2],?_⟩
     rw [hg2]
     refine wf_in (h5 _ ?_)
     have:c<(Z r).length:=by omega
     simp [List.getD,this]
theorem stp_heap {W W':World} (hs:Stp (fun _ _=>False) W W') {b:Nat} (hb:b<W.heap.size):W'.heap[b]? =W.heap[b]? :=by
  rcases hs.2 b hb with h|⟨cs,cs',ty,h1,h2,h3,h4⟩|⟨_,_,_,_,_,_,h⟩
  · exact h
  · rw [h1,h2]
    have:cs'=cs:=Array.ext_getElem? fun i=>h4 i (by simp)
    rw [this]
  · exact h.elim
theorem stp_trod {t:TypeId} (hl:laidOutB P=true) (hr:P.readableRec t=true) (hrow:t<P.types.size) {W W':World} {v:Value} {d:DataW H} {ps:List MemPlace}
    (h:DataW.Trod enc P W 0 (fun _=>true) true t v d ps) (hs:Stp (fun _ _=>False) W W') (hlt:∀x∈ps,x.block<W.heap.size) (sp:Nat→Bool) (hsp:∀x∈ps,sp x.block=true):
    DataW.Trod enc P W' 0 sp true t v d ps:=
  WideElems.Trod_stays hl hr hrow h (fun x hx=>by
    have hb:=hlt x hx
    cases x with
    |cell b o=>exact World.cell?_of_block (w:=W) (stp_heap hs hb)
    |map b=>exact stp_heap hs hb) hsp
theorem stp_kept {W W':World} (hs:Stp (fun _ _=>False) W W') (may:MemPlace→Prop):W.keptBut W' may:=by
  refine ⟨hs.3.1.1,hs.3.1.2,fun i hi=>?_⟩
  rw [stp_heap hs hi]
  cases W.heap[i]? with
  |none=>exact rfl
  |some o=>cases o<;>first|exact ⟨rfl,rfl,rfl,fun _ _=>rfl⟩|exact .inr ⟨rfl,rfl⟩|exact rfl
theorem each_mem:∀{ts:List TypeId} {ds:List (DataW H)} {j:Nat} {t:TypeId} {d:DataW H} {x:Nat},ts[j]? =some t→ds[j]? =some d→x∈d.weights P t→x∈DataW.weightsEach P ts ds
  |[],_,j,_,_,_,h,_,_=>by simp at h
  |_::_,[],j,_,_,_,_,h,_=>by simp at h
  |t::ts,d::ds,0,t',d',x,h1,h2,hx=>by
   simp at h1 h2
   subst h1;subst h2
   simp [DataW.weightsEach,hx]
  |t::ts,d::ds,j+1,t',d',x,h1,h2,hx=>by
   have:=each_mem (ts:=ts) (ds:=ds) (j:=j) (by simpa using h1) (by simpa using h2) hx
   simp [DataW.weightsEach,this]
theorem rows_arg {t e q:TypeId} {r:Reach} {b0:Nat} {v:Value} {d:DataW H} {p:List MemPlace} (ht:P.underlying t=some (.slice e)) (he:P.underlying e=some (.slice q)) (hq:P.underlying q=some (.int .i64)) (ce:P.cellsOf e=1) (cq:P.cellsOf q=1)
    (be:1≤P.bytesOf e) (bq:1≤P.bytesOf q) (hv:Value.okWide P w r b0 t v) (h:DataW.Trod enc P w 0 (fun _=>true) true t v d p) (hw:∀x∈d.weights P t,x≤reachBytes):∃l,RepT noEnv w noM (.ro (.rows .i64 l)) v:=by
  obtain ⟨a,len,cap,rfl⟩:=okWide_slice ht hv
  obtain ⟨fuel,hf⟩:=h
  exact rows_rep ht he hq ce cq be bq (y:=(d,p)) hf hw
end
end Go.Proofs.YtjabhmhhhlcopaaGreatDoor
end
