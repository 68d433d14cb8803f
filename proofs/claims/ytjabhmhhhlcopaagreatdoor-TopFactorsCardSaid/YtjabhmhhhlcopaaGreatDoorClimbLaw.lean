import Derived.Test.YtjabhmhhhlcopaaGreatDoorIdealLaw
import Derived.Test.YtjabhmhhhlcopaaGreatDoorTopKLaw
import Derived.Test.YtjabhmhhhlcopaaGreatDoorAwk
import Derived.Test.YtjabhmhhhlcopaaGreatDoorPartLaw
import Derived.Shelf.Sort.Plain
import Derived.Shelf.Slices.CompactI
import Derived.Test.YtjabhmhhhlcopaaGreatDoorLay
import Derived.Test.YtjabhmhhhlcopaaGreatDoorBase
import Derived.Lib.SlicesCompact
import Derived.Test.YtjabhmhhhlcopaaGreatDoorChkLaw
section
namespace Go.Proofs.YtjabhmhhhlcopaaGreatDoor
open Go Go.AM
set_option maxRecDepth 100000
noncomputable def openV (t:List (List Int)) (j:Int):Int:=if validV t=0 then 1 else validV t
theorem openV_ne (t:List (List Int)) (j:Int):openV t j≠0:=by
  unfold openV
  split
  · decide
  · assumption
abbrev openA (t:List (List Int)) (j:Nat):AV:=.agg [.ro (.ints .i64 (classR t)),.ro (.ints .i64 (classL t)),.ro (.ints .i64 (classJ t)),.ro (.ints .i64 (classH t)),.ro (.brows (belowL t)),.ro (.ints .i64 (elemsJ t j)),.ro (.bools (inJ t j)),.bool (.v (minJ t j))]
theorem copen_no (t:List (List Int)) (j:Int) (h:¬(validV t=0∧0≤j∧j<numJ t)):QF 62 [.ro (.rows .i64 t),.int .i64 j] (.tup [.agg [.nils,.nils,.nils,.nils,.nils,.nils,.nils,.bool (.lit false)],.int .i64 (openV t j)]):=mkQ Tryz.func62 (by decide+kernel) rfl (Nat.le_of_ble_eq_true rfl) fun _=>by
  have hbl:=belowL_len t
  refine Or.inl (cq (valid_fn t) (And.intro rfl trivial) ?_)
  refine And.intro (fun h1=>?_) (fun h1=>?_)
  · have e:openV t j=validV t:=by unfold openV;rw [if_neg h1]
    exact And.intro (And.intro trivial (And.intro trivial (And.intro trivial (And.intro trivial (And.intro trivial (And.intro trivial (And.intro trivial (And.intro rfl trivial)))))))) (And.intro e.symm trivial)
  have h1:validV t=0:=h1
  have hs:=valid_zero.1 h1
  have hmost:=hs.most
  have e:openV t j=1:=by unfold openV;rw [if_pos h1]
  refine Or.inl<|Exists.intro [false,false,false,false,false,false,false,true] (And.intro (by decide+kernel) ?_)
  refine cq (green_fn t hs) (And.intro rfl trivial) ?_
  refine And.intro (by omega) ?_
  refine And.intro (by omega) ?_
  refine And.intro (fun h2=>?_) (fun h2=>?_)
  · exact And.intro (And.intro trivial (And.intro trivial (And.intro trivial (And.intro trivial (And.intro trivial (And.intro trivial (And.intro trivial (And.intro rfl trivial)))))))) (And.intro e.symm trivial)
  refine And.intro (fun h3=>?_) (fun h3=>?_)
  · exact And.intro (And.intro trivial (And.intro trivial (And.intro trivial (And.intro trivial (And.intro trivial (And.intro trivial (And.intro trivial (And.intro rfl trivial)))))))) (And.intro e.symm trivial)
  · have h3:j<((belowL t).length:Int):=h3
    exact absurd ⟨h1,h2,by omega⟩ h
theorem elems_upTo {t:List (List Int)} {j:Nat} (hj:j<numJ t):elemsJ t j=upTo (classJ t) t.length j:=by
  rw [elemsJ_eq hj];rfl
theorem copen_fn (t:List (List Int)) (h:Semi t) (j:Nat) (hj:j<numJ t):QF 62 [.ro (.rows .i64 t),.int .i64 j] (.tup [openA t j,.int .i64 0]):=mkQ Tryz.func62 (by decide+kernel) rfl (Nat.le_of_ble_eq_true rfl) fun _=>by
  have hpos:=h.pos
  have hmost:=h.most
  have hbl:=belowL_len t
  have hjl:=classJ_len t
  have hle:=numJ_le t
  refine Or.inl (cq (valid_fn t) (And.intro rfl trivial) ?_)
  refine And.intro (fun h1=>absurd (valid_zero.2 h) h1) (fun h1=>?_)
  refine Or.inl<|Exists.intro [false,false,false,false,false,false,false,true] (And.intro (by decide+kernel) ?_)
  refine cq (green_fn t h) (And.intro rfl trivial) ?_
  refine And.intro (by omega) ?_
  refine And.intro (by omega) ?_
  refine And.intro (fun h2=>by have h2:(j:Int)<0:=h2;omega) (fun h2=>?_)
  refine And.intro (fun h3=>by have h3:((belowL t).length:Int)≤j:=h3;omega) (fun h3=>?_)
  refine Exists.intro []<|lp2 (fun (i:Nat) (_:List Bool)=>[(39,.int .i64 i)]) (fun i b=>[(51,.vec 0 (.ints .i64 (upTo (classJ t) i j)) []),(22,.vec 0 (.bools b) []),(7,.box [.ro (.ints .i64 (classR t)),.ro (.ints .i64 (classL t)),.ro (.ints .i64 (classJ t)),.ro (.ints .i64 (classH t)),.ro (.brows (belowL t)),.vec 51,.vec 22,.bool (.lit true)])])
    (fun i b=>i≤t.length∧b.length=t.length∧∀x,x<t.length→b.getD x false=(decide (x<i)&&decide ((classJ t).getD x 0=(j:Int)))) (fun i _=>t.length - i) 0 (List.replicate t.length false) ⟨Nat.zero_le _,by simp,fun x hx=>by rw [rep_false];simp⟩ (by repeat' first|refine And.intro ?_ ?_|exact True.intro|(show (_:Int)=(_:Int);omega)|omega|exact rfl|(simp only [RO.len];omega)) ?_
  rintro i b ⟨hi,hb,hs⟩
  have hul:=upTo_le (classJ t) i j
  refine And.intro (fun h4=>?_) (fun h4=>?_)
  · have hil:i<t.length:=by omega
    refine And.intro (by omega) ?_
    refine And.intro (fun h5=>?_) (fun h5=>?_)
    · have h5:(classJ t).getD i 0=(j:Int):=h5
      refine And.intro (by rw [List.length_append];simp;omega) ?_
      refine And.intro (by omega) ?_
      refine And.intro (by omega) ?_
      refine And.intro (by omega) ?_
      refine nx (i+1,b.set i true) ⟨by omega,by rw [List.length_set];exact hb,fun x hx=>?_⟩ (show t.length - (i+1)<t.length - i by omega) ?_
      · by_cases hxi:x=i
        · subst hxi;rw [getD_set_eq (by omega)];simp only [h5,decide_true,Bool.and_true,Nat.lt_succ_self]
        · rw [getD_set_ne (Ne.symm hxi),hs x hx]
          have:(x<i+1)↔x<i:=by omega
          simp only [this]
      · refine And.intro (And.intro rfl trivial) ?_
        refine And.intro (And.intro (And.intro (by omega) (by simp only [RO.len];omega)) ?_) ?_
        · exact congrArg (RO.ints .i64) (upTo_here h5).symm
        · repeat' first|refine And.intro ?_ ?_|exact True.intro|(show (_:Int)=(_:Int);omega)|omega|exact rfl|(simp only [RO.len];omega)
    · have h5:(classJ t).getD i 0≠(j:Int):=h5
      refine And.intro (by omega) ?_
      refine nx (i+1,b) ⟨by omega,hb,fun x hx=>?_⟩ (show t.length - (i+1)<t.length - i by omega) ?_
      · rw [hs x hx]
        by_cases hxi:x=i
        · subst hxi;simp only [h5,decide_false,Bool.and_false]
        · have:(x<i+1)↔x<i:=by omega
          simp only [this]
      · refine And.intro (And.intro rfl trivial) ?_
        refine And.intro (And.intro (And.intro (by omega) (by simp only [RO.len];omega)) ?_) ?_
        · exact congrArg (RO.ints .i64) (upTo_there h5).symm
        · repeat' first|refine And.intro ?_ ?_|exact True.intro|(show (_:Int)=(_:Int);omega)|omega|exact rfl|(simp only [RO.len];omega)
  have hii:i=t.length:=by omega
  have hbb:b=inJ t j:=by
    refine List.ext_getElem (by rw [hb,inJ_len]) fun q h6 h7=>?_
    rw [←getD_eq (d:=false) h6,←getD_eq (d:=false) h7,hs q (by omega),inJ_get (by omega)]
    simp only [show q<i by omega,decide_true,Bool.true_and]
  have hee:upTo (classJ t) i j=elemsJ t j:=by rw [elems_upTo hj,hii]
  refine Exists.intro []<|lp (X:=Nat) (fun k=>[(62,.int .i64 k)]) (fun k=>[(7,.box [.ro (.ints .i64 (classR t)),.ro (.ints .i64 (classL t)),.ro (.ints .i64 (classJ t)),.ro (.ints .i64 (classH t)),.ro (.brows (belowL t)),.vec 51,.vec 22,.bool (.v ((List.range k).all fun k=>decide (k=j)|| !(inJB t (fstC (classJ t) j) (fstC (classJ t) k))))])]) (fun k=>k≤numJ t) (fun k=>numJ t - k) 0 (Nat.zero_le _) (by repeat' first|refine And.intro ?_ ?_|exact True.intro|(show (_:Int)=(_:Int);omega)|omega|exact rfl|(simp only [RO.len];omega)) ?_
  intro k hk
  refine And.intro (fun h6=>?_) (fun h6=>?_)
  · have hkn:k<numJ t:=by omega
    have hrl:((belowL t).getD k []).length=numJ t:=by rw [belowL_row hkn];simp
    have hg:=belowL_get (t:=t) hkn hj
    have step:∀(b:Bool),(b=(decide (k=j)|| !(inJB t (fstC (classJ t) j) (fstC (classJ t) k))))→(List.range (k+1)).all (fun k=>decide (k=j)|| !(inJB t (fstC (classJ t) j) (fstC (classJ t) k)))=((List.range k).all (fun k=>decide (k=j)|| !(inJB t (fstC (classJ t) j) (fstC (classJ t) k)))&&b):=fun b hb=>by
      rw [List.range_succ,List.all_append,hb];simp
    refine And.intro (by omega) ?_
    refine And.intro (fun h7=>?_) (fun h7=>?_)
    · have hkj:k≠j:=fun e=>h7 (by rw [e])
      refine And.intro (show 0≤(j:Int)∧(j:Int)<(((belowL t).getD k []).length:Int) by omega) ?_
      refine And.intro (fun h8=>?_) (fun h8=>?_)
      · have h8:((belowL t).getD k []).getD j false=true:=h8
        rw [hg] at h8
        refine And.intro (by omega) ?_
        have e:=step false (by simp [hkj,h8])
        refine nx (k+1) (show k+1≤numJ t by omega) (show numJ t - (k+1)<numJ t - k by omega) ?_
        refine And.intro (And.intro rfl trivial) ?_
        refine And.intro (by repeat' first|refine And.intro ?_ ?_|exact True.intro|(show (_:Int)=(_:Int);omega)|omega|exact rfl|(simp only [RO.len];omega)) (And.intro ?_ (by repeat' first|refine And.intro ?_ ?_|exact True.intro|(show (_:Int)=(_:Int);omega)|omega|exact rfl|(simp only [RO.len];omega)))
        refine And.intro rfl (And.intro rfl (And.intro rfl (And.intro rfl (And.intro rfl (And.intro (And.intro rfl (And.intro trivial trivial)) (And.intro (And.intro rfl (And.intro trivial trivial)) (And.intro ?_ trivial)))))))
        show false=(List.range (k+1)).all _
        rw [e];simp
      · have h8:((belowL t).getD k []).getD j false=false:=h8
        rw [hg] at h8
        refine And.intro (by omega) ?_
        have e:=step true (by simp [h8])
        refine nx (k+1) (show k+1≤numJ t by omega) (show numJ t - (k+1)<numJ t - k by omega) ?_
        refine And.intro (And.intro rfl trivial) ?_
        refine And.intro (by repeat' first|refine And.intro ?_ ?_|exact True.intro|(show (_:Int)=(_:Int);omega)|omega|exact rfl|(simp only [RO.len];omega)) (And.intro ?_ (by repeat' first|refine And.intro ?_ ?_|exact True.intro|(show (_:Int)=(_:Int);omega)|omega|exact rfl|(simp only [RO.len];omega)))
        refine And.intro rfl (And.intro rfl (And.intro rfl (And.intro rfl (And.intro rfl (And.intro (And.intro rfl (And.intro trivial trivial)) (And.intro (And.intro rfl (And.intro trivial trivial)) (And.intro ?_ trivial)))))))
        show (List.range k).all _=(List.range (k+1)).all _
        rw [e];simp
    · have h7:(k:Int)=(j:Int):=h7
      refine And.intro (by omega) ?_
      have e:=step true (by simp [show k=j by omega])
      refine nx (k+1) (show k+1≤numJ t by omega) (show numJ t - (k+1)<numJ t - k by omega) ?_
      refine And.intro (And.intro rfl trivial) ?_
      refine And.intro (by repeat' first|refine And.intro ?_ ?_|exact True.intro|(show (_:Int)=(_:Int);omega)|omega|exact rfl|(simp only [RO.len];omega)) (And.intro ?_ (by repeat' first|refine And.intro ?_ ?_|exact True.intro|(show (_:Int)=(_:Int);omega)|omega|exact rfl|(simp only [RO.len];omega)))
      refine And.intro rfl (And.intro rfl (And.intro rfl (And.intro rfl (And.intro rfl (And.intro (And.intro rfl (And.intro trivial trivial)) (And.intro (And.intro rfl (And.intro trivial trivial)) (And.intro ?_ trivial)))))))
      show (List.range k).all _=(List.range (k+1)).all _
      rw [e];simp
  · have hkk:k=numJ t:=by omega
    subst hkk
    refine And.intro ?_ (And.intro rfl trivial)
    refine And.intro rfl (And.intro rfl (And.intro rfl (And.intro rfl (And.intro rfl (And.intro (And.intro trivial ?_) (And.intro (And.intro trivial ?_) (And.intro rfl trivial)))))))
    · rw [hee]
    · rw [hbb]
end Go.Proofs.YtjabhmhhhlcopaaGreatDoor
end
section
namespace Go.Proofs.YtjabhmhhhlcopaaGreatDoor
open Go Go.AM
set_option maxRecDepth 100000
theorem ilist_fn (l:List Bool) (hl:l.length≤4096):QF 51 [.ro (.bools l)] (.new (.ints .i64 (memV l))):=mkQ Tryz.func51 (by decide+kernel) rfl (Nat.le_of_ble_eq_true rfl) fun _=>by
  refine Exists.intro []<|lp (X:=Nat) (fun k=>[(8,.int .i64 k),(3,.vec 17)]) (fun k=>[(17,.vec 0 (.ints .i64 (memTo l k)) [])]) (fun k=>k≤l.length) (fun k=>l.length - k) 0 (Nat.zero_le _) (by repeat' first|refine And.intro ?_ ?_|exact True.intro|(show (_:Int)=(_:Int);omega)|omega|exact rfl|(simp only [RO.len];omega)) ?_
  intro k hk
  have hm:=memTo_len (l:=l) (k:=k)
  refine And.intro (fun h1=>?_) (fun h1=>?_)
  · refine And.intro (by omega) ?_
    refine And.intro (fun h2=>?_) (fun h2=>?_)
    · have h2:l.getD k false=true:=h2
      refine And.intro (by rw [List.length_append,List.length_singleton];omega) ?_
      refine And.intro (by omega) ?_
      refine nx (k+1) (by omega) (show l.length - (k+1)<l.length - k by omega) ?_
      refine And.intro (by repeat' first|refine And.intro ?_ ?_|exact True.intro|(show (_:Int)=(_:Int);omega)|omega|exact rfl|(simp only [RO.len];omega)) (And.intro (And.intro (And.intro (by omega) (Nat.zero_le _)) (congrArg (RO.ints .i64) (memTo_yes h2).symm)) ?_)
      repeat' first|refine And.intro ?_ ?_|exact True.intro|(show (_:Int)=(_:Int);omega)|omega|exact rfl|(simp only [RO.len];omega)
    · have h2:l.getD k false=false:=h2
      refine And.intro (by omega) ?_
      refine nx (k+1) (by omega) (show l.length - (k+1)<l.length - k by omega) ?_
      refine And.intro (by repeat' first|refine And.intro ?_ ?_|exact True.intro|(show (_:Int)=(_:Int);omega)|omega|exact rfl|(simp only [RO.len];omega)) (And.intro (And.intro (And.intro (by omega) (Nat.zero_le _)) (congrArg (RO.ints .i64) (memTo_no h2).symm)) ?_)
      repeat' first|refine And.intro ?_ ?_|exact True.intro|(show (_:Int)=(_:Int);omega)|omega|exact rfl|(simp only [RO.len];omega)
  · have h1:k=l.length:=by omega
    refine And.intro ?_ trivial
    refine And.intro rfl ?_
    show RO.ints .i64 (memTo l k)=RO.ints .i64 (memTo l l.length)
    rw [h1]
theorem marked_k (n:Nat) (l:List Int) (hn:n≤400) (hl:∀x∈l,0≤x∧x<(n:Int)) (hll:l.length≤140737488355328):fnK TY SP Tryz.f61 [.int .i64 n,.ro (.ints .i64 l)] (.new (.bools (setB n (setI l)))):=by
  refine And.intro (by omega) ?_
  refine And.intro (by omega) ?_
  refine Exists.intro []<|lp2 (fun (i:Nat) (_:List Bool)=>[(12,.int .i64 i)]) (fun _ r=>[(9,.vec 0 (.bools r) [])]) (fun i r=>i≤l.length∧r.length=n∧∀x,x<n→(r.getD x false=true↔(x:Int)∈l.take i)) (fun i _=>l.length - i) 0 (List.replicate n false) ⟨Nat.zero_le _,by simp,fun x hx=>by rw [rep_false];simp⟩ (by repeat' first|refine And.intro ?_ ?_|exact True.intro|(show (_:Int)=(_:Int);omega)|omega|exact rfl|(simp only [RO.len];omega)) ?_
  rintro i r ⟨hi,hr,hs⟩
  refine And.intro (fun h1=>?_) (fun h1=>?_)
  · have hil:i<l.length:=by omega
    have hm:=hl _ (getD_mem (d:=0) hil)
    refine And.intro (by omega) ?_
    refine And.intro (show 0≤l.getD i 0∧l.getD i 0<(r.length:Int) by omega) ?_
    refine And.intro (show (0:Int)≤l.getD i 0 by omega) ?_
    refine And.intro (by omega) ?_
    have hnx:=set_iff hr hs (i:=(l.getD i 0).toNat) (by omega)
    refine nx (i+1,r.set (l.getD i 0).toNat true) ⟨by omega,hnx.1,fun x hx=>?_⟩ (show l.length - (i+1)<l.length - i by omega) (by repeat' first|refine And.intro ?_ ?_|exact True.intro|(show (_:Int)=(_:Int);omega)|omega|exact rfl|(simp only [RO.len];omega))
    rw [hnx.2 x hx,take_snoc (d:=0) hil,List.mem_append,List.mem_singleton]
    exact or_congr Iff.rfl ⟨fun h=>by omega,fun h=>by omega⟩
  · refine And.intro ?_ trivial
    refine And.intro rfl ?_
    exact congrArg RO.bools (setB_ofP hr fun x hx=>by rw [hs x hx,List.take_of_length_le (by omega),setI_iff])
theorem marked_fn (n:Nat) (l:List Int) (hn:n≤400) (hl:∀x∈l,0≤x∧x<(n:Int)):QF 61 [.int .i64 n,.ro (.ints .i64 l)] (.new (.bools (setB n (setI l)))):=mkQ Tryz.func61 (by decide+kernel) rfl (Nat.le_of_ble_eq_true rfl) fun hf=>marked_k n l hn hl hf.2.1.1
theorem isIdeal_k (t:List (List Int)) (h:Sh t) (l:List Int) (hll:l.length≤140737488355328):fnK TY SP Tryz.f60 [.ro (.rows .i64 t),.ro (.ints .i64 l)] (.bool (.v (idB t l))):=by
  have hmost:=h.most
  refine Exists.intro []<|lp (X:=Nat) (fun i=>[(13,.int .i64 i)]) (fun _=>[]) (fun i=>AscTo t l i) (fun i=>l.length - i) 0 .start (by repeat' first|refine And.intro ?_ ?_|exact True.intro|(show (_:Int)=(_:Int);omega)|omega|exact rfl|(simp only [RO.len];omega)) ?_
  intro i H
  have hi:=H.le
  refine And.intro (fun h1=>?_) (fun h1=>?_)
  · have hil:i<l.length:=by omega
    have no:¬(0≤l.getD i 0∧l.getD i 0<(t.length:Int))→false=idB t l:=fun hn=>(idB_false.2 fun hh=>hn (hh.2.2.1 _ (getD_mem hil))).symm
    refine And.intro (by omega) ?_
    refine And.intro (fun h2=>?_) (fun h2=>?_)
    · have h2:l.getD i 0<0:=h2
      exact And.intro (no (by omega)) trivial
    · have h2:0≤l.getD i 0:=h2
      refine And.intro (fun h3=>?_) (fun h3=>?_)
      · have h3:(t.length:Int)≤l.getD i 0:=h3
        exact And.intro (no (by omega)) trivial
      · have h3:l.getD i 0<(t.length:Int):=h3
        refine And.intro (fun h4=>?_) (fun h4=>?_)
        · refine And.intro (by omega) ?_
          refine And.intro (by omega) ?_
          have e1:((i:Int) - 1).toNat=i - 1:=by omega
          refine And.intro (fun h5=>?_) (fun h5=>?_)
          · have h5:l.getD i 0≤l.getD ((i:Int) - 1).toNat 0:=h5
            rw [e1] at h5
            refine And.intro ?_ trivial
            refine (idB_false.2 fun hh=>?_).symm
            have:=hh.2.1 (i - 1) (by omega)
            rw [show i - 1+1=i by omega] at this
            omega
          · have h5:l.getD ((i:Int) - 1).toNat 0<l.getD i 0:=h5
            rw [e1] at h5
            refine And.intro (by omega) ?_
            exact nx (i+1) (H.next hil h2 h3 fun _=>h5) (show l.length - (i+1)<l.length - i by omega) (by repeat' first|refine And.intro ?_ ?_|exact True.intro|(show (_:Int)=(_:Int);omega)|omega|exact rfl|(simp only [RO.len];omega))
        · refine And.intro (by omega) ?_
          exact nx (i+1) (H.next hil h2 h3 fun _=>by omega) (show l.length - (i+1)<l.length - i by omega) (by repeat' first|refine And.intro ?_ ?_|exact True.intro|(show (_:Int)=(_:Int);omega)|omega|exact rfl|(simp only [RO.len];omega))
  · obtain ⟨hasc,hin⟩:=H.done (by omega)
    refine Or.inl (cq (marked_fn t.length l (by omega) hin) (And.intro rfl (And.intro rfl trivial)) ?_)
    have hsl:=setB_len t.length (setI l)
    refine Exists.intro []<|lp (X:=Nat) (fun i=>[(46,.int .i64 i)]) (fun _=>[(43,.vec 0 (.bools (setB t.length (setI l))) [])]) (fun i=>i≤l.length∧∀j,j<i→∀s,s<t.length→setI l (en t (l.getD j 0).toNat s)=true∧setI l (en t s (l.getD j 0).toNat)=true) (fun i=>l.length - i) 0 ⟨Nat.zero_le _,fun j hj=>absurd hj (Nat.not_lt_zero _)⟩ (by repeat' first|refine And.intro ?_ ?_|exact True.intro|(show (_:Int)=(_:Int);omega)|omega|exact rfl|(simp only [RO.len];omega)) ?_
    rintro i ⟨hi2,hs⟩
    refine And.intro (fun h2=>?_) (fun h2=>?_)
    · have hil:i<l.length:=by omega
      have hx:=hin _ (getD_mem (d:=0) hil)
      have hxn:(l.getD i 0).toNat<t.length:=by omega
      have hmem:setI l (l.getD i 0).toNat=true:=setI_iff.2 (by rw [Int.toNat_of_nonneg hx.1];exact getD_mem hil)
      refine And.intro (by omega) ?_
      refine Exists.intro []<|lp (X:=Nat) (fun s=>[(52,.int .i64 s)]) (fun _=>[(43,.vec 0 (.bools (setB t.length (setI l))) [])]) (fun s=>s≤t.length∧∀s',s'<s→setI l (en t (l.getD i 0).toNat s')=true∧setI l (en t s' (l.getD i 0).toNat)=true) (fun s=>t.length - s) 0 ⟨Nat.zero_le _,fun j hj=>absurd hj (Nat.not_lt_zero _)⟩ (by repeat' first|refine And.intro ?_ ?_|exact True.intro|(show (_:Int)=(_:Int);omega)|omega|exact rfl|(simp only [RO.len];omega)) ?_
      rintro s ⟨hsn,hss⟩
      refine And.intro (fun h3=>?_) (fun h3=>?_)
      · have hsl2:s<t.length:=by omega
        have r1:=h.len hxn
        have r2:=h.len hsl2
        have e1:=h.ent hxn hsl2
        have e2:=h.ent hsl2 hxn
        refine And.intro (show 0≤l.getD i 0∧l.getD i 0<(t.length:Int) by omega) ?_
        refine And.intro (show 0≤(s:Int)∧(s:Int)<((t.getD (l.getD i 0).toNat []).length:Int) by omega) ?_
        refine And.intro (show 0≤(t.getD (l.getD i 0).toNat []).getD s 0∧(t.getD (l.getD i 0).toNat []).getD s 0<((setB t.length (setI l)).length:Int) by omega) ?_
        refine And.intro (fun h4=>?_) (fun h4=>?_)
        · have h4:(!(setB t.length (setI l)).getD (en t (l.getD i 0).toNat s) false)=true:=h4
          rw [setB_get e1.2] at h4
          refine And.intro ?_ trivial
          refine (idB_false.2 fun hh=>?_).symm
          have:=(hh.2.2.2 _ s hxn hsl2 hmem).1
          rw [this] at h4;cases h4
        · have h4:(!(setB t.length (setI l)).getD (en t (l.getD i 0).toNat s) false)=false:=h4
          rw [setB_get e1.2] at h4
          refine And.intro ⟨by omega,show (s:Int)<(t.length:Int) by omega⟩ ?_
          refine And.intro (show 0≤l.getD i 0∧l.getD i 0<((t.getD s []).length:Int) by omega) ?_
          refine And.intro (show 0≤(t.getD s []).getD (l.getD i 0).toNat 0∧(t.getD s []).getD (l.getD i 0).toNat 0<((setB t.length (setI l)).length:Int) by omega) ?_
          refine And.intro (fun h5=>?_) (fun h5=>?_)
          · have h5:(!(setB t.length (setI l)).getD (en t s (l.getD i 0).toNat) false)=true:=h5
            rw [setB_get e2.2] at h5
            refine And.intro ?_ trivial
            refine (idB_false.2 fun hh=>?_).symm
            have:=(hh.2.2.2 _ s hxn hsl2 hmem).2
            rw [this] at h5;cases h5
          · have h5:(!(setB t.length (setI l)).getD (en t s (l.getD i 0).toNat) false)=false:=h5
            rw [setB_get e2.2] at h5
            refine And.intro (by omega) ?_
            refine nx (s+1) ⟨by omega,fun s' hs'=>?_⟩ (show t.length - (s+1)<t.length - s by omega) (by repeat' first|refine And.intro ?_ ?_|exact True.intro|(show (_:Int)=(_:Int);omega)|omega|exact rfl|(simp only [RO.len];omega))
            by_cases e:s'=s
            · subst e;exact ⟨by simpa using h4,by simpa using h5⟩
            · exact hss s' (by omega)
      · refine And.intro (by omega) ?_
        refine nx (i+1) ⟨by omega,fun j hj=>?_⟩ (show l.length - (i+1)<l.length - i by omega) (by repeat' first|refine And.intro ?_ ?_|exact True.intro|(show (_:Int)=(_:Int);omega)|omega|exact rfl|(simp only [RO.len];omega))
        by_cases e:j=i
        · subst e;exact fun s' hs'=>hss s' (by omega)
        · exact hs j (by omega)
    · refine And.intro ?_ trivial
      show decide ((0:Int)<(l.length:Int))=idB t l
      have hidf:IdF t (setI l):=fun x s hx hs' hm=>by
        obtain ⟨j,hj,e⟩:=mem_getD 0 (setI_iff.1 hm)
        have:=hs j (by omega) s hs'
        rw [e,Int.toNat_natCast] at this
        exact this
      by_cases h0:0<l.length
      · rw [idB_true.2 ⟨h0,hasc,hin,hidf⟩]
        exact decide_eq_true (by omega)
      · rw [idB_false.2 fun hh=>h0 hh.1]
        exact decide_eq_false (by omega)
theorem isIdeal_fn (t:List (List Int)) (h:Sh t) (l:List Int):QF 60 [.ro (.rows .i64 t),.ro (.ints .i64 l)] (.bool (.v (idB t l))):=mkQ Tryz.func60 (by decide+kernel) rfl (Nat.le_of_ble_eq_true rfl) fun hf=>isIdeal_k t h l hf.2.1.1
end Go.Proofs.YtjabhmhhhlcopaaGreatDoor
end
section
namespace Go.Proofs.YtjabhmhhhlcopaaGreatDoor
open Go Go.AM
set_option maxRecDepth 100000
set_option maxHeartbeats 1000000
theorem tvalid_fn (t:List (List Int)) (m:Int):QF 9 [.ro (.rows .i64 t),.int .i64 m] (.bool (.v (decide ((t.length:Int)≤m∧validV t=0)))):=mkQ Tryz.func9 (by decide+kernel) rfl (Nat.le_of_ble_eq_true rfl) fun _=>by
  refine And.intro (fun h1=>?_) (fun h1=>?_)
  · have h1:(t.length:Int)≤m:=h1
    refine Or.inl (cq (rvalid_fn t) (And.intro rfl trivial) ?_)
    refine And.intro ?_ trivial
    show decide (validV t=0)=decide ((t.length:Int)≤m∧validV t=0)
    simp [h1]
  · have h1:m<(t.length:Int):=h1
    refine And.intro ?_ trivial
    show false=decide ((t.length:Int)≤m∧validV t=0)
    rw [decide_eq_false (fun h=>by omega)]
end Go.Proofs.YtjabhmhhhlcopaaGreatDoor
end
section
namespace Go.Proofs.YtjabhmhhhlcopaaGreatDoor
open Go Go.AM
def bel (t:List (List Int)) (k i:Nat):Bool:=inJB t (fstC (classJ t) i) (fstC (classJ t) k)
theorem bel_get {t:List (List Int)} {k i:Nat} (hk:k<numJ t) (hi:i<numJ t):((belowL t).getD k []).getD i false=bel t k i:=belowL_get hk hi
theorem bel_refl {t:List (List Int)} (h:Semi t) {i:Nat} (hi:i<numJ t):bel t i i=true:=(preJ h).refl _ (fstJ hi).2.2.1
theorem bel_trans {t:List (List Int)} (h:Semi t) {a b c:Nat} (ha:a<numJ t) (hb:b<numJ t) (hc:c<numJ t) (h1:bel t a b=true) (h2:bel t b c=true):bel t a c=true:=
  (preJ h).trans _ _ _ (fstJ hc).2.2.1 (fstJ hb).2.2.1 (fstJ ha).2.2.1 h2 h1
theorem bel_anti {t:List (List Int)} (h:Semi t) {a b:Nat} (ha:a<numJ t) (hb:b<numJ t) (h1:bel t a b=true) (h2:bel t b a=true):a=b:=by
  have e:=(classJ_iff h (fstJ ha).2.2.1 (fstJ hb).2.2.1).2 ⟨h2,h1⟩
  have ea:=(fstJ ha).2.2.2
  have eb:=(fstJ hb).2.2.2
  rw [ea,eb] at e
  omega
def okTo (t:List (List Int)) (u:List Bool) (i k:Nat):Bool:=!u.getD i false&&(List.range k).all fun j=>decide (j=i)||u.getD j false|| !bel t j i
def okN (t:List (List Int)) (u:List Bool) (i:Nat):Bool:=okTo t u i (numJ t)
theorem okN_iff {t:List (List Int)} {u:List Bool} {i:Nat}:okN t u i=true↔u.getD i false=false∧∀j,j<numJ t→j≠i→u.getD j false=false→bel t j i=false:=by
  unfold okN okTo
  rw [Bool.and_eq_true_iff,List.all_eq_true]
  constructor
  · rintro ⟨h1,h2⟩
    refine ⟨by simpa using h1,fun j hj hne hu=>?_⟩
    have:=h2 j (List.mem_range.2 hj)
    rw [hu,decide_eq_false hne] at this
    simpa using this
  · rintro ⟨h1,h2⟩
    refine ⟨by simpa using h1,fun j hj=>?_⟩
    by_cases e:j=i
    · simp [e]
    · cases hu:u.getD j false with
      |true=>simp [hu]
      |false=>simp [e,hu,h2 j (List.mem_range.1 hj) e hu]
def fstOk (t:List (List Int)) (u:List Bool):Nat→Int|0=> -1|i+1=>if fstOk t u i<0 then (if okN t u i then (i:Int) else -1) else fstOk t u i
theorem fstOk_neg {t:List (List Int)} {u:List Bool}:∀{i:Nat},fstOk t u i<0↔∀j,j<i→okN t u j=false
  |0=>⟨fun _ j hj=>absurd hj (Nat.not_lt_zero _),fun _=>by show (-1:Int)<0;decide⟩
  |i+1=>by
   have ih:=fstOk_neg (t:=t) (u:=u) (i:=i)
   simp only [fstOk]
   by_cases e:fstOk t u i<0
   · rw [if_pos e]
     have hj:=ih.1 e
     cases hk:okN t u i with
     |true=>rw [if_pos rfl];exact ⟨fun h=>by omega,fun h=>by have:=h i (by omega);rw [hk] at this;cases this⟩
     |false=>
      rw [if_neg (by simp)]
      exact ⟨fun _ j hj'=>by
        by_cases e2:j=i
        · subst e2;exact hk
        · exact hj j (by omega),fun _=>by decide⟩
   · rw [if_neg e]
     exact ⟨fun h=>absurd h e,fun h=>absurd (ih.2 fun j hj=>h j (by omega)) e⟩
theorem fstOk_val {t:List (List Int)} {u:List Bool}:∀{i:Nat} {j:Nat},fstOk t u i=(j:Int)→j<i∧okN t u j=true∧∀k,k<j→okN t u k=false
  |0,j,h=>by simp only [fstOk] at h;omega
  |i+1,j,h=>by
   simp only [fstOk] at h
   by_cases e:fstOk t u i<0
   · rw [if_pos e] at h
     cases hk:okN t u i with
     |true=>
      rw [hk,if_pos rfl] at h
      have:i=j:=by omega
      subst this
      exact ⟨by omega,hk,fstOk_neg.1 e⟩
     |false=>rw [hk,if_neg (by simp)] at h;omega
   · rw [if_neg e] at h
     have:=fstOk_val h
     exact ⟨by omega,this.2⟩
def nxJ (t:List (List Int)) (u:List Bool):Nat:=(fstOk t u (numJ t)).toNat
def us (t:List (List Int)):Nat→List Bool|0=>List.replicate (numJ t) false|s+1=>(us t s).set (nxJ t (us t s)) true
theorem us_len (t:List (List Int)):∀s,(us t s).length=numJ t|0=>by simp [us]|s+1=>by simp only [us];rw [List.length_set];exact us_len t s
def dep (t:List (List Int)) (i:Nat):Nat:=((List.range (numJ t)).filter fun k=>bel t k i).length
theorem dep_lt {t:List (List Int)} (h:Semi t) {k i:Nat} (hk:k<numJ t) (hi:i<numJ t) (hne:k≠i) (hb:bel t k i=true):dep t k<dep t i:=by
  have e:(List.range (numJ t)).filter (fun j=>bel t j k)=((List.range (numJ t)).filter (fun j=>bel t j i)).filter (fun j=>bel t j k):=by
    rw [List.filter_filter]
    refine List.filter_congr fun x hx=>?_
    have hx:=List.mem_range.1 hx
    cases e:bel t x k with
    |false=>rfl
    |true=>rw [bel_trans h hx hk hi e hb];rfl
  have hs:((List.range (numJ t)).filter (fun j=>bel t j k)).Sublist ((List.range (numJ t)).filter (fun j=>bel t j i)):=by rw [e];exact List.filter_sublist
  refine Nat.lt_of_le_of_ne hs.length_le fun he=>?_
  have he:=hs.eq_of_length he
  have hm:i∈(List.range (numJ t)).filter (fun j=>bel t j i):=List.mem_filter.2 ⟨List.mem_range.2 hi,bel_refl h hi⟩
  rw [←he] at hm
  exact hne (bel_anti h hk hi hb (List.mem_filter.1 hm).2)
theorem ok_ex {t:List (List Int)} (h:Semi t) {u:List Bool}:∀(N:Nat) (i:Nat),dep t i≤N→i<numJ t→u.getD i false=false→∃j,j<numJ t∧okN t u j=true:=by
  intro N
  induction N with
  |zero=>
   intro i hd hi hu
   have:i∈(List.range (numJ t)).filter (fun j=>bel t j i):=List.mem_filter.2 ⟨List.mem_range.2 hi,bel_refl h hi⟩
   have:=List.length_pos_of_mem this
   unfold dep at hd;omega
  |succ N ih=>
   intro i hd hi hu
   cases hk:okN t u i with
   |true=>exact ⟨i,hi,hk⟩
   |false=>
    by_cases hex:∃k,k<numJ t∧k≠i∧u.getD k false=false∧bel t k i=true
    · obtain ⟨k,h1,h2,h3,h4⟩:=hex
      exact ih k (by have:=dep_lt h h1 hi h2 h4;omega) h1 h3
    · exfalso
      have:okN t u i=true:=okN_iff.2 ⟨hu,fun j hj hne hj'=>by
        cases hb:bel t j i with
        |false=>rfl
        |true=>exact absurd ⟨j,hj,hne,hj',hb⟩ hex⟩
      rw [this] at hk;cases hk
theorem nx_spec {t:List (List Int)} (h:Semi t) {u:List Bool} {i:Nat} (hi:i<numJ t) (hu:u.getD i false=false):fstOk t u (numJ t)=(nxJ t u:Int)∧nxJ t u<numJ t∧okN t u (nxJ t u)=true∧∀k,k<nxJ t u→okN t u k=false:=by
  obtain ⟨j,hj,hk⟩:=ok_ex h (u:=u) (dep t i) i (Nat.le_refl _) hi hu
  have hn:¬fstOk t u (numJ t)<0:=fun hh=>by have:=fstOk_neg.1 hh j hj;rw [hk] at this;cases this
  have e:fstOk t u (numJ t)=(nxJ t u:Int):=by unfold nxJ;omega
  have:=fstOk_val e
  exact ⟨e,this⟩
theorem us_count {t:List (List Int)} (h:Semi t):∀s,s≤numJ t→(us t s).count false=numJ t - s
  |0,_=>by simp [us]
  |s+1,hs=>by
   have ih:=us_count h s (by omega)
   have hl:=us_len t s
   have hm:false∈us t s:=List.count_pos_iff.1 (by omega)
   obtain ⟨i,hi,he⟩:=mem_getD false hm
   have nx:=nx_spec h (u:=us t s) (i:=i) (by omega) he
   have hf:=(okN_iff.1 nx.2.2.1).1
   have:=count_set (us t s) (nxJ t (us t s)) (by rw [List.getElem?_eq_getElem (by omega)];simp [List.getD,List.getElem?_eq_getElem (show nxJ t (us t s)<(us t s).length by omega)] at hf;rw [hf])
   simp only [us];omega
theorem us_free {t:List (List Int)} (h:Semi t) {s:Nat} (hs:s<numJ t):∃i,i<numJ t∧(us t s).getD i false=false:=by
  have hc:=us_count h s (by omega)
  have hm:false∈us t s:=List.count_pos_iff.1 (by omega)
  obtain ⟨i,hi,he⟩:=mem_getD false hm
  exact ⟨i,by rw [us_len] at hi;exact hi,he⟩
theorem us_next {t:List (List Int)} (h:Semi t) {s:Nat} (hs:s<numJ t):fstOk t (us t s) (numJ t)=(nxJ t (us t s):Int)∧nxJ t (us t s)<numJ t∧okN t (us t s) (nxJ t (us t s))=true∧∀k,k<nxJ t (us t s)→okN t (us t s) k=false:=by
  obtain ⟨i,hi,he⟩:=us_free h hs
  exact nx_spec h hi he
def inS (t:List (List Int)) (u:List Bool) (x:Nat):Bool:=u.getD ((classJ t).getD x 0).toNat false
def serV (t:List (List Int)):List (List Int):=(List.range (numJ t)).map fun s=>ascV t.length (inS t (us t (s+1)))
theorem serV_len (t:List (List Int)):(serV t).length=numJ t:=by simp [serV]
theorem serV_get {t:List (List Int)} {s:Nat} (hs:s<numJ t):(serV t).getD s []=ascV t.length (inS t (us t (s+1))):=map_range_getD _ _ _ _ hs
def cntO (t:List (List Int)) (u:List Bool) (i:Nat):Nat→Nat|0=>0|k+1=>cntO t u i k+if k≠i∧u.getD k false=false∧bel t k i=true then 1 else 0
theorem cntO_le (t:List (List Int)) (u:List Bool) (i:Nat):∀k,cntO t u i k≤k
  |0=>Nat.le_refl _
  |k+1=>by have:=cntO_le t u i k;simp only [cntO];split<;>omega
theorem cntO_zero {t:List (List Int)} {u:List Bool} {i:Nat}:∀{k:Nat},cntO t u i k=0↔∀j,j<k→¬(j≠i∧u.getD j false=false∧bel t j i=true)
  |0=>⟨fun _ j hj=>absurd hj (Nat.not_lt_zero _),fun _=>rfl⟩
  |k+1=>by
   have ih:=cntO_zero (t:=t) (u:=u) (i:=i) (k:=k)
   simp only [cntO]
   by_cases e:k≠i∧u.getD k false=false∧bel t k i=true
   · rw [if_pos e];exact ⟨fun h=>by omega,fun h=>absurd e (h k (by omega))⟩
   · rw [if_neg e]
     exact ⟨fun h j hj=>by
       by_cases e2:j=k
       · subst e2;exact e
       · exact ih.1 (by omega) j (by omega),fun h=>by have:=ih.2 fun j hj=>h j (by omega);omega⟩
theorem okN_cnt {t:List (List Int)} {u:List Bool} {i:Nat}:okN t u i=true↔u.getD i false=false∧cntO t u i (numJ t)=0:=by
  rw [okN_iff,cntO_zero]
  constructor
  · rintro ⟨h1,h2⟩
    exact ⟨h1,fun j hj ⟨a,b,c⟩=>by rw [h2 j hj a b] at c;cases c⟩
  · rintro ⟨h1,h2⟩
    refine ⟨h1,fun j hj a b=>?_⟩
    cases e:bel t j i with
    |false=>rfl
    |true=>exact absurd ⟨a,b,e⟩ (h2 j hj)
theorem cntO_set {t:List (List Int)} {u:List Bool} {c i:Nat} (hc:c<u.length) (hu:u.getD c false=false):∀k,cntO t (u.set c true) i k+(if c<k∧c≠i∧bel t c i=true then 1 else 0)=cntO t u i k
  |0=>by simp [cntO]
  |k+1=>by
   have ih:=cntO_set (t:=t) (i:=i) hc hu k
   simp only [cntO]
   by_cases e:k=c
   · subst e
     rw [getD_set_eq hc,if_neg (by simp)]
     rw [if_neg (by omega)] at ih
     by_cases e2:k≠i∧bel t k i=true
     · rw [if_pos ⟨by omega,e2.1,e2.2⟩,if_pos ⟨e2.1,hu,e2.2⟩];omega
     · rw [if_neg (fun hh=>e2 hh.2),if_neg (fun hh=>e2 ⟨hh.1,hh.2.2⟩)];omega
   · rw [getD_set_ne (fun hh=>e hh.symm)]
     by_cases e2:c<k
     · by_cases e3:c≠i∧bel t c i=true
       · rw [if_pos ⟨e2,e3.1,e3.2⟩] at ih;rw [if_pos (show c<k+1∧c≠i∧bel t c i=true from ⟨by omega,e3.1,e3.2⟩)];omega
       · rw [if_neg (fun hh=>e3 hh.2)] at ih;rw [if_neg (fun hh:c<k+1∧c≠i∧bel t c i=true=>e3 hh.2)];omega
     · rw [if_neg (fun hh=>e2 hh.1)] at ih;rw [if_neg (fun hh:c<k+1∧c≠i∧bel t c i=true=>by omega)];omega
def openL (t:List (List Int)) (u:List Bool):List Int:=(List.range (numJ t)).map fun i=>(cntO t u i (numJ t):Int)
theorem openL_len (t:List (List Int)) (u:List Bool):(openL t u).length=numJ t:=by simp [openL]
theorem openL_get {t:List (List Int)} {u:List Bool} {i:Nat} (hi:i<numJ t):(openL t u).getD i 0=(cntO t u i (numJ t):Int):=map_range_getD _ _ _ _ hi
theorem us_zero_get (t:List (List Int)) (k:Nat):(us t 0).getD k false=false:=by
  unfold us;simp only [List.getD,List.getElem?_replicate];split<;>rfl
theorem inS_next {t:List (List Int)} (h:Semi t) {s:Nat} (hs:s<numJ t) {x:Nat} (hx:x<t.length):inS t (us t (s+1)) x=(inS t (us t s) x||decide ((classJ t).getD x 0=(nxJ t (us t s):Int))):=by
  have hn:=us_next h hs
  have hl:=us_len t s
  have hc:=classJ_lt t hx
  unfold inS
  simp only [us]
  by_cases e:(classJ t).getD x 0=(nxJ t (us t s):Int)
  · rw [e,Int.toNat_natCast,getD_set_eq (by omega)];simp
  · rw [getD_set_ne (by omega),decide_eq_false e];simp
end Go.Proofs.YtjabhmhhhlcopaaGreatDoor
end
section
namespace Go.Proofs.YtjabhmhhhlcopaaGreatDoor
open Go Go.AM
def cJ (t:List (List Int)) (x:Nat):Nat:=((classJ t).getD x 0).toNat
theorem cJ_val {t:List (List Int)} {x:Nat} (hx:x<t.length):(classJ t).getD x 0=(cJ t x:Int)∧cJ t x<numJ t:=by
  have:=classJ_lt t hx;unfold cJ;omega
theorem cJ_fst {t:List (List Int)} {c:Nat} (hc:c<numJ t):cJ t (fstC (classJ t) c)=c:=by
  have:=(fstJ hc).2.2.2
  unfold cJ;rw [this];omega
theorem cJ_iff {t:List (List Int)} (h:Semi t) {x y:Nat} (hx:x<t.length) (hy:y<t.length):cJ t x=cJ t y↔(inJB t x y=true∧inJB t y x=true):=by
  rw [←classJ_iff h hx hy,(cJ_val hx).1,(cJ_val hy).1];omega
theorem bel_iff {t:List (List Int)} (h:Semi t) {x y:Nat} (hx:x<t.length) (hy:y<t.length):bel t (cJ t y) (cJ t x)=true↔inJB t x y=true:=by
  have fx:=(fstJ (cJ_val hx).2).2.2.1
  have fy:=(fstJ (cJ_val hy).2).2.2.1
  have ex:=(cJ_iff h hx fx).1 (cJ_fst (cJ_val hx).2).symm
  have ey:=(cJ_iff h hy fy).1 (cJ_fst (cJ_val hy).2).symm
  unfold bel
  exact ⟨fun hh=>(preJ h).trans _ _ _ hx fy hy ((preJ h).trans _ _ _ hx fx fy ex.1 hh) ey.2,fun hh=>(preJ h).trans _ _ _ fx hy fy ((preJ h).trans _ _ _ fx hx hy ex.2 hh) ey.1⟩
theorem us_down {t:List (List Int)} (h:Semi t):∀s,s≤numJ t→∀i k,i<numJ t→k<numJ t→(us t s).getD i false=true→bel t k i=true→(us t s).getD k false=true
  |0,_,i,_,_,_,hu,_=>by rw [us_zero_get] at hu;cases hu
  |s+1,hs,i,k,hi,hk,hu,hb=>by
   have hn:=us_next h (show s<numJ t by omega)
   have hl:=us_len t s
   have ih:=us_down h s (by omega)
   simp only [us] at hu ⊢
   by_cases e:k=nxJ t (us t s)
   · subst e;rw [getD_set_eq (by omega)]
   · rw [getD_set_ne (Ne.symm e)]
     by_cases e2:i=nxJ t (us t s)
     · cases hk':(us t s).getD k false with
       |true=>rfl
       |false=>
        have:=(okN_iff.1 hn.2.2.1).2 k hk e hk'
        rw [←e2,hb] at this;cases this
     · rw [getD_set_ne (Ne.symm e2)] at hu
       exact ih i k hi hk hu hb
theorem inS_id {t:List (List Int)} (h:Semi t) {s:Nat} (hs:s≤numJ t):IdF t (inS t (us t s)):=fun x y hx hy hf=>by
  have hj:=inJ_mul h hx hy ((preJ h).refl x hx)
  have e1:=(h.toSh.ent hx hy).2
  have e2:=(h.toSh.ent hy hx).2
  exact ⟨us_down h s hs _ _ (cJ_val hx).2 (cJ_val e1).2 hf ((bel_iff h hx e1).2 hj.1),us_down h s hs _ _ (cJ_val hx).2 (cJ_val e2).2 hf ((bel_iff h hx e2).2 hj.2)⟩
theorem inS_new {t:List (List Int)} (h:Semi t) {s:Nat} (hs:s<numJ t):fstC (classJ t) (nxJ t (us t s))<t.length∧inS t (us t (s+1)) (fstC (classJ t) (nxJ t (us t s)))=true∧inS t (us t s) (fstC (classJ t) (nxJ t (us t s)))=false:=by
  have hn:=us_next h hs
  have hf:=fstJ hn.2.1
  refine ⟨hf.2.2.1,by rw [inS_next h hs hf.2.2.1,hf.2.2.2];simp,?_⟩
  unfold inS;rw [hf.2.2.2,Int.toNat_natCast];exact (okN_iff.1 hn.2.2.1).1
theorem ser_id {t:List (List Int)} (h:Semi t) {s:Nat} (hs:s<numJ t):IdL t ((serV t).getD s []):=by
  rw [serV_get hs]
  have:=inS_new h hs
  exact idL_of h.toSh (inS_id h hs) this.1 this.2.1
theorem numJ_pos {t:List (List Int)} (h:Semi t):0<numJ t:=Nat.lt_of_le_of_lt (Nat.zero_le _) (cJ_val h.pos).2
theorem ser_ker {t:List (List Int)} (h:Semi t):(serV t).getD 0 []=ascV t.length (kerF t):=by
  have hp:=numJ_pos h
  rw [serV_get hp]
  refine ascV_congr fun x hx=>?_
  have hn:=us_next h hp
  have ha:=allP_lt h.toSh h.pos _ (Nat.le_refl t.length)
  have hk:∀y,y<t.length→inJB t y (allP t t.length)=true:=fun y hy=>(prF_iff h hy).1 (all_in h.toSh (prF_id h hy) hy (prF_self h hy) _ hy (Nat.le_refl _))
  have e0:cJ t (allP t t.length)=nxJ t (us t 0):=by
    have hf:=fstJ hn.2.1
    have hb:=(bel_iff h hf.2.2.1 ha).2 (hk _ hf.2.2.1)
    rw [cJ_fst hn.2.1] at hb
    rcases Decidable.em (cJ t (allP t t.length)=nxJ t (us t 0)) with e|e
    · exact e
    · have:=(okN_iff.1 hn.2.2.1).2 _ (cJ_val ha).2 e (us_zero_get t _)
      rw [hb] at this;cases this
  rw [inS_next h hp hx,Bool.eq_iff_iff,Bool.or_eq_true_iff,decide_eq_true_iff,ker_pr,prF_iff h ha]
  have hz:inS t (us t 0) x=false:=us_zero_get t _
  rw [hz,(cJ_val hx).1,←e0]
  constructor
  · rintro (hh|hh)
    · cases hh
    · exact ((cJ_iff h hx ha).1 (by omega)).2
  · intro hh
    have:=(cJ_iff h hx ha).2 ⟨hk x hx,hh⟩
    right;omega
end Go.Proofs.YtjabhmhhhlcopaaGreatDoor
end
