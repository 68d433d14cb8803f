import Derived.Test.YtjabhmhhhlcopaaGreatDoorCooW
import Derived.Test.YtjabhmhhhlcopaaGreatDoorOrd
import Derived.Test.YtjabhmhhhlcopaaGreatDoorPartLaw
import Derived.Test.YtjabhmhhhlcopaaGreatDoorTopKLaw
import Derived.Test.YtjabhmhhhlcopaaGreatDoorGrnLaw
import Derived.Test.YtjabhmhhhlcopaaGreatDoorAwk
import Derived.Test.YtjabhmhhhlcopaaGreatDoorCooLaw3
section
namespace Go.Proofs.YtjabhmhhhlcopaaGreatDoor
open Go Go.AM
set_option maxRecDepth 100000
set_option maxHeartbeats 1000000
theorem mat_fn (t:List (List Int)) (j e:Nat) (c:Coo t j e):QF 69 [openA t j,.ro (.rows .i64 t),.int .i64 e]
    (.tup [rav (cooG t j e) (cR t j) (cC t j) (cooP t j e) (!minJ t j),.ro (.ints .i64 (rIL t j e)),.ro (.ints .i64 (qIL t j e)),.ro (.ints .i64 (hLs t j e))]):=mkQ Tryz.func69 (by decide+kernel) rfl (Nat.le_of_ble_eq_true rfl) fun _=>by
  have hmost:=c.semi.most
  have hel:=elems_le c.hj
  have hep:=elems_pos c.hj
  have hei:=elems_in c.hj
  have hRl:=classR_len t
  have hLl:=classL_len t
  have he:=c.he
  have hcr:=cR_le c
  have hcc:=cC_le c
  have hch:=cH_le (t:=t) (j:=j) (e:=e)
  have hrl:=rIL_len t j e
  have hql:=qIL_len t j e
  have kR:(rowsN t j).length=cR t j:=rfl
  have kC:(colsN t j).length=cC t j:=rfl
  have kH:(hLs t j e).length=cH t j e:=rfl
  refine Or.inl<|Exists.intro [false,false,false,false,false,false,false,false] (And.intro (by decide+kernel) ?_)
  refine Or.inl (cq (numbers_fn (classR t) (elemsJ t j) hep (by omega) (fun x hx=>⟨(hei x hx).1,(hei x hx).2.1⟩)) (And.intro rfl (And.intro rfl trivial)) ?_)
  rw [num_rows c.semi c.hj]
  refine Exists.intro []<|lp2 (fun (i:Nat) (_:Nat)=>[(41,.int .i64 i),(7,.vec 57)]) (fun i _=>[(57,.vec 0 (.ints .i64 ((rIL t j e).take i)) [])]) (fun i _=>i≤cR t j) (fun i _=>cR t j - i) 0 0 (Nat.zero_le _) (by repeat' first|refine And.intro ?_ ?_|exact True.intro|(show (_:Int)=(_:Int);omega)|omega|exact rfl|(simp only [RO.len];omega)) ?_
  rintro i _ hi
  have hil:((rIL t j e).take i).length=i:=by rw [List.length_take,hrl];omega
  refine And.intro (fun h1=>?_) (fun h1=>?_)
  · have hk:i<cR t j:=by have h1:(i:Int)<((rowsN t j).length:Int):=h1;omega
    have hli:=lst_idx c.hj (c.row_meets (getD_mem (d:=0) hk))
    refine Exists.elim hli fun k hA=>?_
    refine And.intro (by omega) ?_
    refine Or.inl<|Exists.intro [false,false,false,false,false,false,false,false,false,false,false,false,true,true] (And.intro (by decide+kernel) ?_)
    refine And.intro (by omega) ?_
    refine cq (least_fn (classR t) (classL t) (elemsJ t j) ((rowsN t j).getD i 0) (lcl t e) hei (by omega) k hA.1 hA.2.1 hA.2.2.1) (by repeat' first|refine And.intro ?_ ?_|exact True.intro|(show (_:Int)=(_:Int);omega)|omega|exact rfl|(simp only [RO.len];omega)) ?_
    refine And.intro (by rw [List.length_append,hil];simp;omega) ?_
    refine And.intro (by omega) ?_
    refine nx (i+1,0) (show i+1≤cR t j by omega) (show cR t j - (i+1)<cR t j - i by omega) ?_
    have e1:(rIL t j e).take (i+1)=(rIL t j e).take i++[(elemsJ t j).getD k 0]:=by rw [take_snoc (d:=0) (by omega),rIL_get hk,hA.2.2.2];rfl
    repeat' first|refine And.intro ?_ ?_|exact True.intro|exact congrArg (RO.ints .i64) e1.symm|(show (_:Int)=(_:Int);omega)|omega|exact rfl
  have h1:((rowsN t j).length:Int)≤(i:Int):=h1
  have hii:(rIL t j e).take i=rIL t j e:=List.take_of_length_le (by omega)
  rw [hii]
  refine Or.inl (cq (numbers_fn (classL t) (elemsJ t j) hep (by omega) (fun x hx=>⟨(hei x hx).1,(hei x hx).2.2⟩)) (And.intro rfl (And.intro rfl trivial)) ?_)
  rw [num_cols c.semi c.hj]
  refine Exists.intro []<|lp2 (fun (i:Nat) (_:Nat)=>[(64,.int .i64 i),(8,.vec 80)]) (fun i _=>[(80,.vec 0 (.ints .i64 ((qIL t j e).take i)) [])]) (fun i _=>i≤cC t j) (fun i _=>cC t j - i) 0 0 (Nat.zero_le _) (by repeat' first|refine And.intro ?_ ?_|exact True.intro|(show (_:Int)=(_:Int);omega)|omega|exact rfl|(simp only [RO.len];omega)) ?_
  rintro i _ hi
  have hil:((qIL t j e).take i).length=i:=by rw [List.length_take,hql];omega
  refine And.intro (fun h1=>?_) (fun h1=>?_)
  · have hk:i<cC t j:=by have h1:(i:Int)<((colsN t j).length:Int):=h1;omega
    have hli:=lst_idx c.hj (c.col_meets (getD_mem (d:=0) hk))
    refine Exists.elim hli fun k hA=>?_
    refine And.intro (by omega) ?_
    refine Or.inl<|Exists.intro [false,false,false,false,false,false,false,false,false,false,false,false,true,true] (And.intro (by decide+kernel) ?_)
    refine And.intro (by omega) ?_
    refine cq (least_fn (classR t) (classL t) (elemsJ t j) (rcl t e) ((colsN t j).getD i 0) hei (by omega) k hA.1 hA.2.1 hA.2.2.1) (by repeat' first|refine And.intro ?_ ?_|exact True.intro|(show (_:Int)=(_:Int);omega)|omega|exact rfl|(simp only [RO.len];omega)) ?_
    refine And.intro (by rw [List.length_append,hil];simp;omega) ?_
    refine And.intro (by omega) ?_
    refine nx (i+1,0) (show i+1≤cC t j by omega) (show cC t j - (i+1)<cC t j - i by omega) ?_
    have e1:(qIL t j e).take (i+1)=(qIL t j e).take i++[(elemsJ t j).getD k 0]:=by rw [take_snoc (d:=0) (by omega),qIL_get hk,hA.2.2.2];rfl
    repeat' first|refine And.intro ?_ ?_|exact True.intro|exact congrArg (RO.ints .i64) e1.symm|(show (_:Int)=(_:Int);omega)|omega|exact rfl
  have h1:((colsN t j).length:Int)≤(i:Int):=h1
  have hii:(qIL t j e).take i=qIL t j e:=List.take_of_length_le (by omega)
  rw [hii]
  refine And.intro (by omega) ?_
  refine And.intro (by omega) ?_
  refine Exists.intro []<|lp2 (fun (k:Nat) (_:List Int)=>[(87,.int .i64 k)]) (fun _ P=>[(84,.vec 0 (.ints .i64 P) [])]) (fun k P=>k≤t.length∧P.length=t.length∧∀y,y<k→P.getD y 0= -1) (fun k _=>t.length - k) 0 (List.replicate t.length 0) ⟨Nat.zero_le _,by simp,by omega⟩ (by repeat' first|refine And.intro ?_ ?_|exact True.intro|(show (_:Int)=(_:Int);omega)|omega|exact rfl|(simp;omega)) ?_
  rintro k P ⟨hk,hP,hPy⟩
  refine And.intro (fun h1=>?_) (fun h1=>?_)
  · have h1:(k:Int)<((List.replicate ((t.length:Nat):Int).toNat (0:Int)).length:Int):=h1
    rw [List.length_replicate,Int.toNat_natCast] at h1
    have hkl:k<t.length:=by omega
    refine And.intro (by omega) ?_
    refine And.intro (by omega) ?_
    refine And.intro (by omega) ?_
    refine nx (k+1,P.set k (-1)) ⟨by omega,by rw [List.length_set];exact hP,fun y hy=>?_⟩ (show t.length - (k+1)<t.length - k by omega) (by repeat' first|refine And.intro ?_ ?_|exact True.intro|(show (_:Int)=(_:Int);omega)|omega|exact rfl|(simp only [RO.len];omega))
    by_cases e:y=k
    · subst e;rw [getD_set_eq (by omega)]
    · rw [getD_set_ne (Ne.symm e)];exact hPy y (by omega)
  have h1:((List.replicate ((t.length:Nat):Int).toNat (0:Int)).length:Int)≤(k:Int):=h1
  rw [List.length_replicate,Int.toNat_natCast] at h1
  have hF:hLs t j e=(elemsJ t j).filter (lstB (classR t) (classL t) (rcl t e) (lcl t e)):=rfl
  refine Exists.intro []<|lp2 (fun (i:Nat) (_:List Int)=>[(97,.int .i64 i),(9,.vec 129)]) (fun i P=>[(84,.vec 0 (.ints .i64 P) []),(129,.vec 0 (.ints .i64 ((hLs t j e).take (fltN (lstB (classR t) (classL t) (rcl t e) (lcl t e)) (elemsJ t j) i))) [])]) (fun i P=>i≤(elemsJ t j).length∧P.length=t.length∧∀y,y<t.length→P.getD y 0=posTo (hLs t j e) (fltN (lstB (classR t) (classL t) (rcl t e) (lcl t e)) (elemsJ t j) i) y) (fun i _=>(elemsJ t j).length - i) 0 P ⟨Nat.zero_le _,hP,fun y hy=>hPy y (by omega)⟩ (by repeat' first|refine And.intro ?_ ?_|exact True.intro|(show (_:Int)=(_:Int);omega)|omega|exact rfl|(simp only [RO.len];omega)) ?_
  rintro i P ⟨hi,hP,hPy⟩
  have hfl:=flt_le (lstB (classR t) (classL t) (rcl t e) (lcl t e)) (elemsJ t j) i
  have hfk:((hLs t j e).take (fltN (lstB (classR t) (classL t) (rcl t e) (lcl t e)) (elemsJ t j) i)).length=fltN (lstB (classR t) (classL t) (rcl t e) (lcl t e)) (elemsJ t j) i:=by rw [List.length_take];rw [←hF] at hfl;omega
  rw [←hF] at hfl
  refine And.intro (fun h1=>?_) (fun h1=>?_)
  · have h1:(i:Int)<((elemsJ t j).length:Int):=h1
    have hil:i<(elemsJ t j).length:=by omega
    have hm:=hei _ (getD_mem (d:=0) hil)
    refine And.intro (by omega) ?_
    refine Or.inl<|Exists.intro [false,false,false,false,false,false,false,false,false,false,false,false,false,false,false,false,false,false,false,false] (And.intro (by decide+kernel) ?_)
    refine And.intro (by simp only [Int.toNat_natCast];omega) ?_
    refine And.intro (by omega) ?_
    have miss:lstB (classR t) (classL t) (rcl t e) (lcl t e) ((elemsJ t j).getD i 0)=false→((hLs t j e).take (fltN (lstB (classR t) (classL t) (rcl t e) (lcl t e)) (elemsJ t j) (i+1)))=((hLs t j e).take (fltN (lstB (classR t) (classL t) (rcl t e) (lcl t e)) (elemsJ t j) i))∧∀y,y<t.length→P.getD y 0=posTo (hLs t j e) (fltN (lstB (classR t) (classL t) (rcl t e) (lcl t e)) (elemsJ t j) (i+1)) y:=fun hf=>by
      rw [flt_miss hil hf];exact ⟨rfl,hPy⟩
    refine And.intro (fun h2=>?_) (fun h2=>?_)
    · have h2:(classR t).getD ((elemsJ t j).getD i 0).toNat 0=rcl t e:=h2
      refine And.intro (by simp only [Int.toNat_natCast];omega) ?_
      refine And.intro (by omega) ?_
      refine And.intro (fun h3=>?_) (fun h3=>?_)
      · have h3:(classL t).getD ((elemsJ t j).getD i 0).toNat 0=lcl t e:=h3
        have hf:lstB (classR t) (classL t) (rcl t e) (lcl t e) ((elemsJ t j).getD i 0)=true:=by unfold lstB;rw [decide_eq_true h2,decide_eq_true h3];rfl
        have hh:=flt_hit hil hf
        refine And.intro (by simp only [Int.toNat_natCast];omega) ?_
        refine And.intro (by simp only [Int.toNat_natCast];omega) ?_
        refine And.intro (by simp only [List.length_append,List.length_cons,List.length_nil,hfk];omega) ?_
        refine And.intro (by omega) ?_
        have e1:(hLs t j e).take (fltN (lstB (classR t) (classL t) (rcl t e) (lcl t e)) (elemsJ t j) (i+1))=(hLs t j e).take (fltN (lstB (classR t) (classL t) (rcl t e) (lcl t e)) (elemsJ t j) i)++[(elemsJ t j).getD i 0]:=by
          have q1:fltN (lstB (classR t) (classL t) (rcl t e) (lcl t e)) (elemsJ t j) i<(hLs t j e).length:=hh.2.1
          have q2:(hLs t j e).getD (fltN (lstB (classR t) (classL t) (rcl t e) (lcl t e)) (elemsJ t j) i) 0=(elemsJ t j).getD i 0:=hh.2.2
          rw [hh.1,take_snoc (d:=0) q1,q2]
        have e2:=pos_hit hP (hF▸hPy) hil hf (by omega)
        rw [←hF] at e2
        refine nx (i+1,P.set ((elemsJ t j).getD i 0).toNat (((hLs t j e).take (fltN (lstB (classR t) (classL t) (rcl t e) (lcl t e)) (elemsJ t j) i)).length:Int)) ⟨by omega,by rw [List.length_set];exact hP,by rw [hfk];exact e2⟩ (show (elemsJ t j).length - (i+1)<(elemsJ t j).length - i by omega) ?_
        repeat' first|refine And.intro ?_ ?_|exact True.intro|exact congrArg (RO.ints .i64) e1.symm|(show (_:Int)=(_:Int);omega)|omega|exact rfl
      · have h3:(classL t).getD ((elemsJ t j).getD i 0).toNat 0≠lcl t e:=h3
        have mi:=miss (by unfold lstB;rw [decide_eq_false h3,Bool.and_false])
        refine And.intro (by omega) ?_
        refine nx (i+1,P) ⟨by omega,hP,mi.2⟩ (show (elemsJ t j).length - (i+1)<(elemsJ t j).length - i by omega) ?_
        repeat' first|refine And.intro ?_ ?_|exact True.intro|exact congrArg (RO.ints .i64) mi.1.symm|(show (_:Int)=(_:Int);omega)|omega|exact rfl
    · have h2:(classR t).getD ((elemsJ t j).getD i 0).toNat 0≠rcl t e:=h2
      have mi:=miss (by unfold lstB;rw [decide_eq_false h2,Bool.false_and])
      refine And.intro (by omega) ?_
      refine nx (i+1,P) ⟨by omega,hP,mi.2⟩ (show (elemsJ t j).length - (i+1)<(elemsJ t j).length - i by omega) ?_
      repeat' first|refine And.intro ?_ ?_|exact True.intro|exact congrArg (RO.ints .i64) mi.1.symm|(show (_:Int)=(_:Int);omega)|omega|exact rfl
  have h1:((elemsJ t j).length:Int)≤(i:Int):=h1
  have hfe:=flt_end (f:=lstB (classR t) (classL t) (rcl t e) (lcl t e)) (l:=elemsJ t j) (i:=i) (by omega)
  rw [←hF] at hfe
  have hcell:(hLs t j e).take (fltN (lstB (classR t) (classL t) (rcl t e) (lcl t e)) (elemsJ t j) i)=hLs t j e:=by rw [hfe];exact List.take_of_length_le (Nat.le_refl _)
  rw [hfe] at hPy
  rw [hcell]
  refine Exists.intro []<|lp2 (fun (g:Nat) (_:Nat)=>[(141,.int .i64 g)]) (fun g _=>[(173,.vec 0 (.rows .i64 ((cooG t j e).take g)) []),(6,.box [.vec 173,.int .i64 (cR t j),.int .i64 (cC t j),.nils,.bool (.v (!minJ t j))])]) (fun g _=>g≤cH t j e) (fun g _=>cH t j e - g) 0 0 (Nat.zero_le _) (by repeat' first|refine And.intro ?_ ?_|exact True.intro|(show (_:Int)=(_:Int);omega)|omega|exact rfl|(simp only [RO.len];omega)) ?_
  rintro g _ hg
  have hgl:((cooG t j e).take g).length=g:=by rw [List.length_take,Coo.glen];omega
  refine And.intro (fun h2=>?_) (fun h2=>?_)
  · have h2:(g:Int)<((hLs t j e).length:Int):=h2
    have hgc:g<cH t j e:=by omega
    have eg:=c.gI_ok hgc
    have rg:=c.semi.toSh.len eg.1
    have gg:=hLs_get c hgc
    refine And.intro (by omega) ?_
    refine And.intro (by omega) ?_
    refine And.intro (by omega) ?_
    refine Exists.intro []<|lp2 (fun (k:Nat) (_:List Int)=>[(150,.int .i64 k)]) (fun _ r=>[(147,.vec 0 (.ints .i64 r) [])]) (fun k r=>k≤cH t j e∧r.length=cH t j e∧∀y,y<k→r.getD y 0=subV t (hLs t j e) g y) (fun k _=>cH t j e - k) 0 (List.replicate (cH t j e) 0) ⟨Nat.zero_le _,by simp,fun k hk=>absurd hk (Nat.not_lt_zero _)⟩ (by repeat' first|refine And.intro ?_ ?_|exact True.intro|(show (_:Int)=(_:Int);omega)|omega|exact rfl|(simp only [RO.len];omega)) ?_
    rintro k r ⟨hk,hr,hrk⟩
    refine And.intro (fun h3=>?_) (fun h3=>?_)
    · have h3:(k:Int)<((hLs t j e).length:Int):=h3
      have hkc:k<cH t j e:=by omega
      have ek:=c.gI_ok hkc
      have gk:=hLs_get c hkc
      have hen:=c.semi.toSh.ent eg.1 ek.1
      have hen2:(t.getD (gI t j e g) []).getD (gI t j e k) 0=((en t (gI t j e g) (gI t j e k):Nat):Int):=hen.1
      have eg0:((hLs t j e).getD ((g:Nat):Int).toNat 0).toNat=gI t j e g:=by rw [Int.toNat_natCast,gg,Int.toNat_natCast]
      have ek0:((hLs t j e).getD ((k:Nat):Int).toNat 0).toNat=gI t j e k:=by rw [Int.toNat_natCast,gk,Int.toNat_natCast]
      have hv:P.getD ((t.getD ((hLs t j e).getD ((g:Nat):Int).toNat 0).toNat []).getD ((hLs t j e).getD ((k:Nat):Int).toNat 0).toNat 0).toNat 0=subV t (hLs t j e) g k:=by
        rw [eg0,ek0,hen2,Int.toNat_natCast,hPy _ hen.2];rfl
      refine And.intro (by omega) ?_
      refine And.intro (by simp only [Int.toNat_natCast];omega) ?_
      refine And.intro (by rw [eg0];simp only [Int.toNat_natCast];omega) ?_
      refine And.intro (by rw [eg0,ek0,hen2];omega) ?_
      refine And.intro (by omega) ?_
      refine And.intro (by omega) ?_
      refine And.intro (by omega) ?_
      refine nx (k+1,r.set k (P.getD ((t.getD ((hLs t j e).getD ((g:Nat):Int).toNat 0).toNat []).getD ((hLs t j e).getD ((k:Nat):Int).toNat 0).toNat 0).toNat 0)) ⟨by omega,by rw [List.length_set];exact hr,fun y hy=>?_⟩ (show cH t j e - (k+1)<cH t j e - k by omega) (by repeat' first|refine And.intro ?_ ?_|exact True.intro|(show (_:Int)=(_:Int);omega)|omega|exact rfl|(simp only [RO.len];omega))
      by_cases e1:y=k
      · rw [e1,getD_set_eq (by omega)];exact hv
      · rw [getD_set_ne (Ne.symm e1)];exact hrk y (by omega)
    have h3:((hLs t j e).length:Int)≤(k:Int):=h3
    have er:r=(cooG t j e).getD g []:=by
      have:=subT_row (t:=t) (l:=hLs t j e) (i:=g) hgc
      unfold cooG;rw [this]
      refine ext_getD 0 (by simp;exact hr) fun y hy=>?_
      rw [hrk y (by omega),map_range_getD _ _ _ _ (by omega)]
    have e1:(cooG t j e).take (g+1)=(cooG t j e).take g++[r]:=by rw [er];exact take_snoc (d:=[]) (by rw [Coo.glen];exact hgc)
    refine And.intro (by simp only [List.length_append,List.length_cons,List.length_nil,hgl];omega) ?_
    refine And.intro (by omega) ?_
    refine nx (g+1,0) (show g+1≤cH t j e by omega) (show cH t j e - (g+1)<cH t j e - g by omega) ?_
    repeat' first|refine And.intro ?_ ?_|exact True.intro|exact congrArg (RO.rows .i64) e1.symm|(show (_:Int)=(_:Int);omega)|omega|exact rfl
  have h2:((hLs t j e).length:Int)≤(g:Int):=h2
  have hGG:(cooG t j e).take g=cooG t j e:=List.take_of_length_le (by rw [Coo.glen];omega)
  rw [hGG]
  refine Exists.intro []<|lp2 (fun (l:Nat) (_:Nat)=>[(178,.int .i64 l)]) (fun l _=>[(210,.vec 0 (.rows .i64 ((cooP t j e).take l)) []),(6,.box [.vec 173,.int .i64 (cR t j),.int .i64 (cC t j),.vec 210,.bool (.v (!minJ t j))])]) (fun l _=>l≤cC t j) (fun l _=>cC t j - l) 0 0 (Nat.zero_le _) (by repeat' first|refine And.intro ?_ ?_|exact True.intro|(show (_:Int)=(_:Int);omega)|omega|exact rfl|(simp only [RO.len];omega)) ?_
  rintro l _ hl
  have hpl:((cooP t j e).take l).length=l:=by rw [List.length_take,cooP_len];omega
  refine And.intro (fun h4=>?_) (fun h4=>?_)
  · have h4:(l:Int)<((qIL t j e).length:Int):=h4
    have hlc:l<cC t j:=by omega
    have el:=c.qI_ok hlc
    have rl:=c.semi.toSh.len el.1
    have gl:=qIL_get (j:=j) (e:=e) hlc
    refine And.intro (by omega) ?_
    refine And.intro (by omega) ?_
    refine And.intro (by omega) ?_
    refine Exists.intro []<|lp2 (fun (k:Nat) (_:List Int)=>[(187,.int .i64 k)]) (fun _ r=>[(184,.vec 0 (.ints .i64 r) [])]) (fun k r=>k≤cR t j∧r.length=cR t j∧∀y,y<k→r.getD y 0=posTo (hLs t j e) (hLs t j e).length (en t (qI t j e l) (rI t j e y))) (fun k _=>cR t j - k) 0 (List.replicate (rIL t j e).length 0) ⟨Nat.zero_le _,by simp;exact hrl,fun k hk=>absurd hk (Nat.not_lt_zero _)⟩ (by repeat' first|refine And.intro ?_ ?_|exact True.intro|(show (_:Int)=(_:Int);omega)|omega|exact rfl|(simp only [RO.len];omega)) ?_
    rintro k r ⟨hk,hr,hrk⟩
    refine And.intro (fun h3=>?_) (fun h3=>?_)
    · have h3:(k:Int)<((rIL t j e).length:Int):=h3
      have hkc:k<cR t j:=by omega
      have ek:=c.rI_ok hkc
      have gk:=rIL_get (j:=j) (e:=e) hkc
      have hen:=c.semi.toSh.ent el.1 ek.1
      have hen2:(t.getD (qI t j e l) []).getD (rI t j e k) 0=((en t (qI t j e l) (rI t j e k):Nat):Int):=hen.1
      have eg0:((qIL t j e).getD ((l:Nat):Int).toNat 0).toNat=qI t j e l:=by rw [Int.toNat_natCast,gl,Int.toNat_natCast]
      have ek0:((rIL t j e).getD ((k:Nat):Int).toNat 0).toNat=rI t j e k:=by rw [Int.toNat_natCast,gk,Int.toNat_natCast]
      have hv:P.getD ((t.getD ((qIL t j e).getD ((l:Nat):Int).toNat 0).toNat []).getD ((rIL t j e).getD ((k:Nat):Int).toNat 0).toNat 0).toNat 0=posTo (hLs t j e) (hLs t j e).length (en t (qI t j e l) (rI t j e k)):=by
        rw [eg0,ek0,hen2,Int.toNat_natCast,hPy _ hen.2]
      refine And.intro (by omega) ?_
      refine And.intro (by simp only [Int.toNat_natCast];omega) ?_
      refine And.intro (by rw [eg0];simp only [Int.toNat_natCast];omega) ?_
      refine And.intro (by rw [eg0,ek0,hen2];omega) ?_
      refine And.intro (by omega) ?_
      refine And.intro (by omega) ?_
      refine And.intro (by omega) ?_
      refine nx (k+1,r.set k (P.getD ((t.getD ((qIL t j e).getD ((l:Nat):Int).toNat 0).toNat []).getD ((rIL t j e).getD ((k:Nat):Int).toNat 0).toNat 0).toNat 0)) ⟨by omega,by rw [List.length_set];exact hr,fun y hy=>?_⟩ (show cR t j - (k+1)<cR t j - k by omega) (by repeat' first|refine And.intro ?_ ?_|exact True.intro|(show (_:Int)=(_:Int);omega)|omega|exact rfl|(simp only [RO.len];omega))
      by_cases e1:y=k
      · rw [e1,getD_set_eq (by omega)];exact hv
      · rw [getD_set_ne (Ne.symm e1)];exact hrk y (by omega)
    have h3:((rIL t j e).length:Int)≤(k:Int):=h3
    have er:r=(cooP t j e).getD l []:=by
      rw [cooP_row hlc]
      refine ext_getD 0 (by simp;exact hr) fun y hy=>?_
      rw [hrk y (by omega),map_range_getD _ _ _ _ (by omega)]
    have e1:(cooP t j e).take (l+1)=(cooP t j e).take l++[r]:=by rw [er];exact take_snoc (d:=[]) (by rw [cooP_len];exact hlc)
    refine And.intro (by simp only [List.length_append,List.length_cons,List.length_nil,hpl];omega) ?_
    refine And.intro (by omega) ?_
    refine nx (l+1,0) (show l+1≤cC t j by omega) (show cC t j - (l+1)<cC t j - l by omega) ?_
    repeat' first|refine And.intro ?_ ?_|exact True.intro|exact congrArg (RO.rows .i64) e1.symm|(show (_:Int)=(_:Int);omega)|omega|exact rfl
  have h4:((qIL t j e).length:Int)≤(l:Int):=h4
  have hPP:(cooP t j e).take l=cooP t j e:=List.take_of_length_le (by rw [cooP_len];omega)
  rw [hPP]
  refine And.intro (And.intro (And.intro trivial rfl) (And.intro rfl (And.intro rfl (And.intro (And.intro trivial rfl) (And.intro rfl trivial))))) ?_
  exact And.intro (And.intro trivial rfl) (And.intro (And.intro trivial rfl) (And.intro (And.intro trivial rfl) trivial))
end Go.Proofs.YtjabhmhhhlcopaaGreatDoor
end
section
namespace Go.Proofs.YtjabhmhhhlcopaaGreatDoor
open Go Go.AM
set_option maxRecDepth 100000
set_option maxHeartbeats 1000000
theorem idmC_k (t:List (List Int)) (h:Sh t) (x:Int) (hx:0≤x) (hxt:x<t.length):
    fnMK TY SP Tryz.f68 [.int .i64 x,.ptr 1000 0] [(1000,.box [.ro (.rows .i64 t)])] (.bool (.v (idmB t x))) [(1000,.box [.ro (.rows .i64 t)])]:=by
  have e1:=h.ent (x:=x.toNat) (y:=x.toNat) (by omega) (by omega)
  have r1:=h.len (x:=x.toNat) (by omega)
  refine And.intro (by omega) ?_
  refine And.intro (by omega) ?_
  refine And.intro (by repeat' first|refine And.intro ?_ ?_|exact True.intro|(show (_:Int)=(_:Int);omega)|omega|exact rfl|(simp only [RO.len];omega)) ?_
  show decide ((t.getD x.toNat []).getD x.toNat 0=x)=idmB t x
  unfold idmB;rw [e1.1]
  exact decide_eq_decide.2 (by omega)
theorem idmC_fn (t:List (List Int)) (h:Sh t) (x:Int) (hx:0≤x) (hxt:x<t.length):MF 68 [.int .i64 x,.ptr 1000 0] [(1000,.box [.ro (.rows .i64 t)])] (.bool (.v (idmB t x))) [(1000,.box [.ro (.rows .i64 t)])]:=
  mkM Tryz.func68 (by decide+kernel) rfl (Nat.le_of_ble_eq_true rfl) fun _=>idmC_k t h x hx hxt
theorem idxIdm_k (t:List (List Int)) (h:Sh t) (l:List Int) (hl:∀x∈l,0≤x∧x<(t.length:Int)) (hll:l.length≤400):
    fnMK TY SP Tryz.f67 [.ro (.ints .i64 l),.fn 68 [.ptr 1000 0]] [(1000,.box [.ro (.rows .i64 t)])] (.int .i64 (idxF (idmB t) l)) [(1000,.box [.ro (.rows .i64 t)])]:=by
  refine Exists.intro []<|lp (X:=Nat) (fun y=>[(8,.int .i64 y)]) (fun _=>[]) (fun y=>y≤l.length∧∀k,k<y→idmB t (l.getD k 0)=false) (fun y=>l.length - y) 0 ⟨Nat.zero_le _,fun k hk=>absurd hk (Nat.not_lt_zero _)⟩ (by repeat' first|refine And.intro ?_ ?_|exact True.intro|(show (_:Int)=(_:Int);omega)|omega|exact rfl|(simp only [RO.len];omega)) ?_
  rintro y ⟨hy,hn⟩
  refine And.intro (fun h1=>?_) (fun h1=>?_)
  · have h1:(y:Int)<(l.length:Int):=h1
    have hyl:y<l.length:=by omega
    have hm:=hl _ (getD_mem (d:=0) hyl)
    refine And.intro (by omega) ?_
    refine Or.inr (cm [] [(1000,1000)] (idmC_fn t h (l.getD y 0) hm.1 hm.2) ?_)
    refine And.intro (by repeat' first|refine And.intro ?_ ?_|exact True.intro|(show (_:Int)=(_:Int);omega)|omega|exact rfl|(simp only [RO.len];omega)) ?_
    refine And.intro (fun h2=>?_) (fun h2=>?_)
    · have h2:idmB t (l.getD y 0)=true:=h2
      refine And.intro (by repeat' first|refine And.intro ?_ ?_|exact True.intro|(show (_:Int)=(_:Int);omega)|omega|exact rfl|(simp only [RO.len];omega)) ?_
      show (y:Int)=idxF (idmB t) l
      exact (idxF_here hyl hn h2).symm
    · have h2:idmB t (l.getD y 0)=false:=h2
      refine And.intro (by omega) ?_
      refine nx (y+1) ⟨by omega,fun k hk=>?_⟩ (show l.length - (y+1)<l.length - y by omega) (by repeat' first|refine And.intro ?_ ?_|exact True.intro|(show (_:Int)=(_:Int);omega)|omega|exact rfl|(simp only [RO.len];omega))
      by_cases e:k=y
      · rw [e];exact h2
      · exact hn k (by omega)
  · have h1:(l.length:Int)≤(y:Int):=h1
    refine And.intro (by repeat' first|refine And.intro ?_ ?_|exact True.intro|(show (_:Int)=(_:Int);omega)|omega|exact rfl|(simp only [RO.len];omega)) ?_
    show (-1:Int)=idxF (idmB t) l
    exact (idxF_no fun k hk=>hn k (by omega)).symm
theorem idxIdm_fn (t:List (List Int)) (h:Sh t) (l:List Int) (hl:∀x∈l,0≤x∧x<(t.length:Int)) (hll:l.length≤400):
    MF 67 [.ro (.ints .i64 l),.fn 68 [.ptr 1000 0]] [(1000,.box [.ro (.rows .i64 t)])] (.int .i64 (idxF (idmB t) l)) [(1000,.box [.ro (.rows .i64 t)])]:=
  mkM Tryz.func67 (by decide+kernel) rfl (Nat.le_of_ble_eq_true rfl) fun _=>idxIdm_k t h l hl hll
abbrev ravN:AV:=.agg [.nils,.int .i64 0,.int .i64 0,.nils,.bool (.lit false)]
theorem coo_no (t:List (List Int)) (j:Int) (h:¬(validV t=0∧0≤j∧j<numJ t)):QF 20 [.ro (.rows .i64 t),.int .i64 j] (.tup [ravN,.nils,.int .i64 (openV t j)]):=mkQ Tryz.func20 (by decide+kernel) rfl (Nat.le_of_ble_eq_true rfl) fun _=>by
  refine Or.inl ?_
  refine Or.inl (cq (copen_no t j h) (And.intro rfl (And.intro rfl trivial)) ?_)
  refine And.intro (fun h1=>?_) (fun h1=>absurd h1 (openV_ne t j))
  exact And.intro (And.intro trivial (And.intro rfl (And.intro rfl (And.intro trivial (And.intro rfl trivial))))) (And.intro trivial (And.intro rfl trivial))
theorem coo_none (t:List (List Int)) (h:Semi t) (j:Nat) (hj:j<numJ t) (hr:(regL t).getD j false=false):QF 20 [.ro (.rows .i64 t),.int .i64 j] (.tup [ravN,.nils,.int .i64 9]):=mkQ Tryz.func20 (by decide+kernel) rfl (Nat.le_of_ble_eq_true rfl) fun _=>by
  have hmost:=h.most
  have hel:=elems_le hj
  have hei:∀x∈elemsJ t j,0≤x∧x<(t.length:Int):=fun x hx=>by have:=(mem_elems hj).1 hx;omega
  refine Or.inl ?_
  refine Or.inl (cq (copen_fn t h j hj) (And.intro rfl (And.intro rfl trivial)) ?_)
  refine And.intro (fun h1=>absurd rfl h1) (fun h1=>?_)
  refine Or.inr (Or.inl (cm [] [(1000,2)] (idxIdm_fn t h.toSh (elemsJ t j) hei (by omega)) ?_))
  refine And.intro (by repeat' first|refine And.intro ?_ ?_|exact True.intro|(show (_:Int)=(_:Int);omega)|omega|exact rfl|(simp only [RO.len];omega)) ?_
  have e1:idxF (idmB t) (elemsJ t j)= -1:=eI_no hj hr
  rw [e1]
  refine And.intro (fun _=>?_) (fun h2=>?_)
  · exact And.intro (And.intro trivial (And.intro rfl (And.intro rfl (And.intro trivial (And.intro rfl trivial))))) (And.intro trivial (And.intro rfl trivial))
  · exfalso;omega
theorem coo_fn (t:List (List Int)) (h:Semi t) (j:Nat) (hj:j<numJ t) (hr:(regL t).getD j false=true):QF 20 [.ro (.rows .i64 t),.int .i64 j] (.tup [rav (cooG t j (eJ t j)) (cR t j) (cC t j) (cooP t j (eJ t j)) (!minJ t j),.ro (.ints .i64 (cooM t j (eJ t j))),.int .i64 0]):=mkQ Tryz.func20 (by decide+kernel) rfl (Nat.le_of_ble_eq_true rfl) fun _=>by
  have hmost:=h.most
  have hel:=elems_le hj
  have hei:∀x∈elemsJ t j,0≤x∧x<(t.length:Int):=fun x hx=>by have:=(mem_elems hj).1 hx;omega
  have hE:=eJ_ok h hj hr
  have c:=hE.2.2.2.1
  have hrees:Rees (cooG t j (eJ t j)) (cR t j) (cC t j) (cooP t j (eJ t j)) (!minJ t j):=by have:=c.rees;rw [cooP_len] at this;exact this
  refine Or.inl ?_
  refine Or.inl (cq (copen_fn t h j hj) (And.intro rfl (And.intro rfl trivial)) ?_)
  refine And.intro (fun h1=>absurd rfl h1) (fun h1=>?_)
  refine Or.inr (Or.inl (cm [] [(1000,2)] (idxIdm_fn t h.toSh (elemsJ t j) hei (by omega)) ?_))
  refine And.intro (by repeat' first|refine And.intro ?_ ?_|exact True.intro|(show (_:Int)=(_:Int);omega)|omega|exact rfl|(simp only [RO.len];omega)) ?_
  have e1:idxF (idmB t) (elemsJ t j)=eI t j:=rfl
  rw [e1]
  refine And.intro (fun h2=>?_) (fun h2=>?_)
  · exfalso
    have h2:eI t j<0:=h2
    omega
  refine Or.inl<|Exists.intro [false,false,false,false,false,false,false,false,false,false,false,false,false,false,true,true,true,true] (And.intro (by decide+kernel) ?_)
  refine And.intro (by omega) ?_
  refine cq (mat_fn t j (eJ t j) c) (And.intro (by repeat' first|refine And.intro ?_ ?_|exact True.intro|(show (_:Int)=(_:Int);omega)|omega|exact rfl|(simp only [RO.len];omega)) (And.intro rfl (And.intro hE.2.2.1 trivial))) ?_
  refine Or.inl (cq (sizeV _ _ _ _ _ hrees) (And.intro (by repeat' first|refine And.intro ?_ ?_|exact True.intro|(show (_:Int)=(_:Int);omega)|omega|exact rfl|(simp only [RO.len];omega)) trivial) ?_)
  have hsm:=hrees.small
  refine And.intro (fun h3=>?_) (fun h3=>?_)
  · exfalso
    have h3:400<sizeI (cooG t j (eJ t j)).length (cR t j) (cC t j) (!minJ t j):=h3
    omega
  refine And.intro (by omega) ?_
  refine And.intro (by omega) ?_
  refine Exists.intro []<|lp2 (fun (k:Nat) (_:List Int)=>[(61,.int .i64 k)]) (fun _ P=>[(58,.vec 0 (.ints .i64 P) [])]) (fun k P=>k≤t.length∧P.length=t.length∧∀y,y<k→P.getD y 0= -1) (fun k _=>t.length - k) 0 (List.replicate t.length 0) ⟨Nat.zero_le _,by simp,by omega⟩ (by repeat' first|refine And.intro ?_ ?_|exact True.intro|(show (_:Int)=(_:Int);omega)|omega|exact rfl|(simp;omega)) ?_
  rintro k P ⟨hk,hP,hPy⟩
  refine And.intro (fun h4=>?_) (fun h4=>?_)
  · have h4:(k:Int)<((List.replicate ((t.length:Nat):Int).toNat (0:Int)).length:Int):=h4
    rw [List.length_replicate,Int.toNat_natCast] at h4
    have hkl:k<t.length:=by omega
    refine And.intro (by omega) ?_
    refine And.intro (by omega) ?_
    refine And.intro (by omega) ?_
    refine nx (k+1,P.set k (-1)) ⟨by omega,by rw [List.length_set];exact hP,fun y hy=>?_⟩ (show t.length - (k+1)<t.length - k by omega) (by repeat' first|refine And.intro ?_ ?_|exact True.intro|(show (_:Int)=(_:Int);omega)|omega|exact rfl|(simp only [RO.len];omega))
    by_cases e:y=k
    · subst e;rw [getD_set_eq (by omega)]
    · rw [getD_set_ne (Ne.symm e)];exact hPy y (by omega)
  have h4:((List.replicate ((t.length:Nat):Int).toNat (0:Int)).length:Int)≤(k:Int):=h4
  rw [List.length_replicate,Int.toNat_natCast] at h4
  obtain ⟨E,hEE⟩:∃E,E=eJ t j:=⟨_,rfl⟩
  rw [←hEE] at c hrees ⊢
  have hcr:=cR_le c
  have hcc:=cC_le c
  have hch:=cH_le (t:=t) (j:=j) (e:=E)
  have hrl:=rIL_len t j E
  have hql:=qIL_len t j E
  have kH:(hLs t j E).length=cH t j E:=rfl
  refine Exists.intro []<|lp2 (fun (i:Nat) (_:List Int)=>[(70,.int .i64 i)]) (fun _ M=>[(58,.vec 0 (.ints .i64 M) [])]) (fun i M=>i≤cR t j∧CooTo t j E M (fun a _ _=>a<i)) (fun i _=>cR t j - i) 0 P ⟨Nat.zero_le _,.start hP (fun x hx=>hPy x (by omega)) (fun _ _ _=>Nat.not_lt_zero _)⟩ (by repeat' first|refine And.intro ?_ ?_|exact True.intro|(show (_:Int)=(_:Int);omega)|omega|exact rfl|(simp only [RO.len];omega)) ?_
  rintro i M ⟨hi,HM⟩
  refine And.intro (fun h5=>?_) (fun h5=>?_)
  · have h5:(i:Int)<((rIL t j E).length:Int):=h5
    have hic:i<cR t j:=by omega
    have er:=c.rI_ok hic
    have gr:=rIL_get (j:=j) (e:=E) hic
    have er0:((rIL t j E).getD ((i:Nat):Int).toNat 0).toNat=rI t j E i:=by rw [Int.toNat_natCast,gr,Int.toNat_natCast]
    refine And.intro (by omega) ?_
    refine Exists.intro []<|lp2 (fun (l:Nat) (_:List Int)=>[(77,.int .i64 l)]) (fun _ M=>[(58,.vec 0 (.ints .i64 M) [])]) (fun l M=>l≤cC t j∧CooTo t j E M (fun a _ d=>a<i∨(a=i∧d<l))) (fun l _=>cC t j - l) 0 M ⟨Nat.zero_le _,HM.congr fun a b d _ _ _=>by omega⟩ (by repeat' first|refine And.intro ?_ ?_|exact True.intro|(show (_:Int)=(_:Int);omega)|omega|exact rfl|(simp only [RO.len];omega)) ?_
    rintro l M ⟨hl,HM⟩
    refine And.intro (fun h6=>?_) (fun h6=>?_)
    · have h6:(l:Int)<((qIL t j E).length:Int):=h6
      have hlc:l<cC t j:=by omega
      have el:=c.qI_ok hlc
      have gl:=qIL_get (j:=j) (e:=E) hlc
      have el0:((qIL t j E).getD ((l:Nat):Int).toNat 0).toNat=qI t j E l:=by rw [Int.toNat_natCast,gl,Int.toNat_natCast]
      refine And.intro (by omega) ?_
      refine Exists.intro []<|lp2 (fun (g:Nat) (_:List Int)=>[(84,.int .i64 g)]) (fun _ M=>[(58,.vec 0 (.ints .i64 M) [])]) (fun g M=>g≤cH t j E∧CooTo t j E M (fun a b d=>a<i∨(a=i∧(d<l∨(d=l∧b<g))))) (fun g _=>cH t j E - g) 0 M ⟨Nat.zero_le _,HM.congr fun a b d _ _ _=>by omega⟩ (by repeat' first|refine And.intro ?_ ?_|exact True.intro|(show (_:Int)=(_:Int);omega)|omega|exact rfl|(simp only [RO.len];omega)) ?_
      rintro g M ⟨hg,HM⟩
      have hMl:=HM.len
      refine And.intro (fun h7=>?_) (fun h7=>?_)
      · have h7:(g:Int)<((hLs t j E).length:Int):=h7
        have hgc:g<cH t j E:=by omega
        have eg:=c.gI_ok hgc
        have gg:=hLs_get c hgc
        have eg0:((hLs t j E).getD ((g:Nat):Int).toNat 0).toNat=gI t j E g:=by rw [Int.toNat_natCast,gg,Int.toNat_natCast]
        have n1:=c.semi.toSh.ent er.1 eg.1
        have n2:=c.semi.toSh.ent n1.2 el.1
        have l1:=c.semi.toSh.len er.1
        have l2:=c.semi.toSh.len n1.2
        have v1:(t.getD ((rIL t j E).getD ((i:Nat):Int).toNat 0).toNat []).getD ((hLs t j E).getD ((g:Nat):Int).toNat 0).toNat 0=((en t (rI t j E i) (gI t j E g):Nat):Int):=by rw [er0,eg0];exact n1.1
        have v2:(t.getD ((t.getD ((rIL t j E).getD ((i:Nat):Int).toNat 0).toNat []).getD ((hLs t j E).getD ((g:Nat):Int).toNat 0).toNat 0).toNat []).getD ((qIL t j E).getD ((l:Nat):Int).toNat 0).toNat 0=((tri t j E i g l:Nat):Int):=by rw [v1,Int.toNat_natCast,el0];exact n2.1
        have hN:numI ((cooG t j E).length:Int) (cC t j:Int) (!minJ t j) i g l=cooN t j E i g l:=by unfold cooN triI;rw [Coo.glen]
        have htri:tri t j E i g l<t.length:=(c.tri_ok hic hgc hlc).1
        have hgl:=Coo.glen (t:=t) (j:=j) (e:=E)
        refine And.intro (by omega) ?_
        refine Or.inl<|Exists.intro [false,false,false,false,false,false,false,false,false,false,false,false,false,false,false,false,false,false,false,false,true] (And.intro (by decide+kernel) ?_)
        refine And.intro (by simp only [Int.toNat_natCast];omega) ?_
        refine And.intro (by rw [er0];simp only [Int.toNat_natCast];omega) ?_
        refine And.intro (by rw [v1];omega) ?_
        refine And.intro (by rw [v1,Int.toNat_natCast];simp only [Int.toNat_natCast];omega) ?_
        refine cq (num_fn _ _ _ _ _ hrees i g l ⟨by omega,by omega⟩ ⟨by omega,by omega⟩ ⟨by omega,by omega⟩) (by repeat' first|refine And.intro ?_ ?_|exact True.intro|(show (_:Int)=(_:Int);omega)|omega|exact rfl|(simp only [RO.len];omega)) ?_
        refine And.intro (by omega) ?_
        refine And.intro (by omega) ?_
        refine And.intro (by omega) ?_
        refine nx (g+1,M.set ((t.getD ((t.getD ((rIL t j E).getD ((i:Nat):Int).toNat 0).toNat []).getD ((hLs t j E).getD ((g:Nat):Int).toNat 0).toNat 0).toNat []).getD ((qIL t j E).getD ((l:Nat):Int).toNat 0).toNat 0).toNat (numI ((cooG t j E).length:Int) (cC t j:Int) (!minJ t j) i g l)) ⟨by omega,?_⟩ (show cH t j E - (g+1)<cH t j E - g by omega) (by repeat' first|refine And.intro ?_ ?_|exact True.intro|(show (_:Int)=(_:Int);omega)|omega|exact rfl|(simp only [RO.len];omega))
        rw [v2,Int.toNat_natCast,hN]
        exact HM.step c hic hgc hlc fun a b d _ _ _=>by omega
      · have h7:((hLs t j E).length:Int)≤(g:Int):=h7
        refine And.intro (by omega) ?_
        exact nx (l+1,M) ⟨by omega,HM.congr fun a b d _ _ _=>by omega⟩ (show cC t j - (l+1)<cC t j - l by omega) (by repeat' first|refine And.intro ?_ ?_|exact True.intro|(show (_:Int)=(_:Int);omega)|omega|exact rfl|(simp only [RO.len];omega))
    · have h6:((qIL t j E).length:Int)≤(l:Int):=h6
      refine And.intro (by omega) ?_
      exact nx (i+1,M) ⟨by omega,HM.congr fun a b d _ _ _=>by omega⟩ (show cR t j - (i+1)<cR t j - i by omega) (by repeat' first|refine And.intro ?_ ?_|exact True.intro|(show (_:Int)=(_:Int);omega)|omega|exact rfl|(simp only [RO.len];omega))
  · have h5:((rIL t j E).length:Int)≤(i:Int):=h5
    have hM:M=cooM t j E:=HM.done c fun a b d ha _ _=>by omega
    rw [hM]
    refine And.intro (And.intro rfl (And.intro rfl (And.intro rfl (And.intro rfl (And.intro rfl trivial))))) ?_
    exact And.intro (And.intro trivial rfl) (And.intro rfl trivial)
end Go.Proofs.YtjabhmhhhlcopaaGreatDoor
end
section
namespace Go.Proofs.YtjabhmhhhlcopaaGreatDoor
open Go Go.AM
set_option maxRecDepth 100000
set_option maxHeartbeats 1000000
theorem tvalid_fn (t:List (List Int)) (m:Int):QF 9 [.ro (.rows .i64 t),.int .i64 m] (.bool (.v (decide ((t.length:Int)≤m∧validV t=0)))):=mkQ Tryz.func9 (by decide+kernel) rfl (Nat.le_of_ble_eq_true rfl) fun _=>by
  refine And.intro (fun h1=>?_) (fun h1=>?_)
  · have h1:(t.length:Int)≤m:=h1
    refine Or.inl (cq (rvalid_fn t) (And.intro rfl trivial) ?_)
    refine And.intro ?_ trivial
    show decide (validV t=0)=decide ((t.length:Int)≤m∧validV t=0)
    simp [h1]
  · have h1:m<(t.length:Int):=h1
    refine And.intro ?_ trivial
    show false=decide ((t.length:Int)≤m∧validV t=0)
    rw [decide_eq_false (fun h=>by omega)]
end Go.Proofs.YtjabhmhhhlcopaaGreatDoor
end
section
namespace Go.Proofs.YtjabhmhhhlcopaaGreatDoor
open Go Go.AM
section
variable (t:List (List Int)) (j:Nat)
def cellR (a:Int):List (List Int):=(colsN t j).map fun b=>hitJ t j a b
def grpR (a:Int):List Bool:=(colsN t j).map fun b=>(hitJ t j a b).any (idmB t)
def cellsL:List (List (List Int)):=(rowsN t j).map (cellR t j)
def grpsL:List (List Bool):=(rowsN t j).map (grpR t j)
end
theorem map_get {α β:Type} {l:List α} {f:α→β} {i:Nat} (d:α) (e:β) (hi:i<l.length):(l.map f).getD i e=f (l.getD i d):=by
  rw [getD_eq (by rw [List.length_map];exact hi),List.getElem_map,getD_eq (d:=d) hi]
theorem grpR_len (t:List (List Int)) (j:Nat) (a:Int):(grpR t j a).length=(colsN t j).length:=by simp [grpR]
theorem grpsL_get {t:List (List Int)} {j i:Nat} (hi:i<(rowsN t j).length):(grpsL t j).getD i []=grpR t j ((rowsN t j).getD i 0):=map_get 0 [] hi
theorem grpR_get {t:List (List Int)} {j l:Nat} {a:Int} (hl:l<(colsN t j).length):(grpR t j a).getD l false=(hitJ t j a ((colsN t j).getD l 0)).any (idmB t):=map_get 0 false hl
theorem rowsN_le {t:List (List Int)} {j:Nat} (h:Semi t) (hj:j<numJ t):(rowsN t j).length≤t.length∧(colsN t j).length≤t.length:=by
  have h1:=num_rows h hj
  have h2:=num_cols h hj
  have e:=elems_le hj
  refine ⟨?_,?_⟩
  · rw [←h1];have:=cpI_len (srtI (numL (classR t) (elemsJ t j)));rw [srtI_len,numL_len] at this;omega
  · rw [←h2];have:=cpI_len (srtI (numL (classL t) (elemsJ t j)));rw [srtI_len,numL_len] at this;omega
theorem in_rows {t:List (List Int)} {j x:Nat} (h:Semi t) (hj:j<numJ t) (hx:x<t.length) (hc:jcl t x=j):∃a,a<(rowsN t j).length∧(rowsN t j).getD a 0=rcl t x:=by
  refine mem_getD 0 ?_
  rw [←num_rows h hj,cpsrt_mem]
  exact List.mem_map.2 ⟨(x:Int),(mem_elems hj).2 ⟨by omega,by omega,by rw [Int.toNat_natCast];exact hc⟩,by rw [Int.toNat_natCast]⟩
theorem in_cols {t:List (List Int)} {j x:Nat} (h:Semi t) (hj:j<numJ t) (hx:x<t.length) (hc:jcl t x=j):∃a,a<(colsN t j).length∧(colsN t j).getD a 0=lcl t x:=by
  refine mem_getD 0 ?_
  rw [←num_cols h hj,cpsrt_mem]
  exact List.mem_map.2 ⟨(x:Int),(mem_elems hj).2 ⟨by omega,by omega,by rw [Int.toNat_natCast];exact hc⟩,by rw [Int.toNat_natCast]⟩
end Go.Proofs.YtjabhmhhhlcopaaGreatDoor
end
