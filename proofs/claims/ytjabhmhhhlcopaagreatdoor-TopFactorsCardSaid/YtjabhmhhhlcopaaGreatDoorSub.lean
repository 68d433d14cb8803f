import Derived.Test.YtjabhmhhhlcopaaGreatDoorClimbLaw
import Derived.Test.YtjabhmhhhlcopaaGreatDoorIdealLaw
import Derived.Test.YtjabhmhhhlcopaaGreatDoorChkLaw
import Derived.Test.YtjabhmhhhlcopaaGreatDoorAwk
section
namespace Go.Proofs.YtjabhmhhhlcopaaGreatDoor
open Go Go.AM
set_option maxRecDepth 100000
structure PosInv (t:List (List Int)) (j i:Nat) (p:List Int):Prop where
  le:i≤(prinList t j).length
  len:p.length=t.length
  pos:∀e,e<t.length→p.getD e 0=if (e:Int)∈(prinList t j).take i then (((prinList t j).idxOf (e:Int):Nat):Int) else 0
theorem PosInv.start (t:List (List Int)) (j:Nat):PosInv t j 0 (List.replicate t.length 0):=⟨Nat.zero_le _,by simp,fun e he=>by simp [List.getD,he]⟩
theorem PosInv.put {t:List (List Int)} {j i:Nat} {p:List Int} (hj:j<numJ t) (h:PosInv t j i p) (hi:i<(prinList t j).length) (h0:0≤(prinList t j).getD i 0):PosInv t j (i+1) (p.set ((prinList t j).getD i 0).toNat i):=by
  have hg:=prin_get hj hi
  have hlt:((prinList t j).getD i 0).toNat<t.length:=by omega
  refine ⟨hi,by rw [List.length_set];exact h.len,fun e he=>?_⟩
  rw [take_snoc (d:=0) hi]
  by_cases hee:e=((prinList t j).getD i 0).toNat
  · rw [←hee,getD_set_eq (by rw [h.len];exact he),if_pos (by rw [List.mem_append];exact .inr (by simp only [List.mem_singleton];omega))]
    have h2:(e:Int)=(prinList t j)[i]:=by rw [←getD_eq (d:=0) hi];omega
    rw [h2,(prin_nodup hj).idxOf_getElem i hi]
  · rw [getD_set_ne (Ne.symm hee),h.pos e he]
    have:(e:Int)∈(prinList t j).take i++[(prinList t j).getD i 0]↔(e:Int)∈(prinList t j).take i:=by
      rw [List.mem_append]
      simp only [List.mem_singleton]
      exact ⟨fun hh=>hh.resolve_right (by omega),.inl⟩
    simp only [this]
theorem PosInv.skip {t:List (List Int)} {j i:Nat} {p:List Int} (h:PosInv t j i p) (hi:i<(prinList t j).length) (h0:(prinList t j).getD i 0<0):PosInv t j (i+1) p:=by
  refine ⟨hi,h.len,fun e he=>?_⟩
  rw [take_snoc (d:=0) hi,h.pos e he]
  have:(e:Int)∈(prinList t j).take i++[(prinList t j).getD i 0]↔(e:Int)∈(prinList t j).take i:=by
    rw [List.mem_append]
    simp only [List.mem_singleton]
    exact ⟨fun hh=>hh.resolve_right (by omega),.inl⟩
  simp only [this]
theorem PosInv.done {t:List (List Int)} {j i:Nat} {p:List Int} (hj:j<numJ t) (h:PosInv t j i p) (hi:(prinList t j).length≤i) {e:Nat} (he:e<t.length) (hc:(classJ t).getD e 0=(j:Int)):p.getD e 0=(((prinList t j).idxOf (e:Int):Nat):Int):=by
  rw [h.pos e he,List.take_of_length_le hi,if_pos ((mem_prin hj).2 (.inr ⟨by omega,by omega,by simpa using hc⟩))]
theorem prinV_in {t:List (List Int)} {j:Nat} {a b:Int} (ha:0≤a) (hb:0≤b) (hc:(classJ t).getD (en t a.toNat b.toNat) 0=(j:Int)):prinV t j a b=(((prinList t j).idxOf ((en t a.toNat b.toNat:Nat):Int):Nat):Int):=by unfold prinV;rw [if_pos ⟨ha,hb,hc⟩]
theorem prinV_out {t:List (List Int)} {j:Nat} {a b:Int} (h:¬(0≤a∧0≤b∧(classJ t).getD (en t a.toNat b.toNat) 0=(j:Int))):prinV t j a b=0:=by unfold prinV;rw [if_neg h]
theorem prinRow_len (t:List (List Int)) (j:Nat) (a:Int):((prinList t j).map fun b=>prinV t j a b).length=(prinList t j).length:=by simp
theorem prinRow_get {t:List (List Int)} {j:Nat} {a:Int} {k:Nat} (hk:k<(prinList t j).length):((prinList t j).map fun b=>prinV t j a b).getD k 0=prinV t j a ((prinList t j).getD k 0):=by
  simp [List.getD,hk]
theorem prin_no (t:List (List Int)) (j:Int) (h:¬(validV t=0∧0≤j∧j<numJ t)):QF 16 [.ro (.rows .i64 t),.int .i64 j] (.tup [.nils,.nils,.int .i64 (openV t j)]):=mkQ Tryz.func16 (by decide+kernel) rfl (Nat.le_of_ble_eq_true rfl) fun _=>by
  refine Or.inl (cq (copen_no t j h) (And.intro rfl (And.intro rfl trivial)) ?_)
  refine And.intro (fun h1=>?_) (fun h1=>absurd h1 (openV_ne t j))
  exact And.intro trivial (And.intro trivial (And.intro rfl trivial))
set_option maxHeartbeats 1000000 in
theorem prin_kfalse (t:List (List Int)) (h:Semi t) (j:Nat) (hj:j<numJ t) (hv:minJ t j=false):fnK TY SP Tryz.f16 [.ro (.rows .i64 t),.int .i64 j] (.tup [.ro (.rows .i64 (prinTab t j)),.ro (.ints .i64 (prinList t j)),.int .i64 0]):=by
  have hmost:=h.most
  have hpl:=prin_len hj
  have hel:=elems_le hj
  have hil:=inJ_len t j
  refine Or.inl (cq (copen_fn t h j hj) (And.intro rfl (And.intro rfl trivial)) ?_)
  refine And.intro (fun h1=>absurd rfl h1) (fun h1=>?_)
  refine And.intro (fun hm=>?_) (fun hm=>?_)
  · have hm:minJ t j=false:=by simpa using hm
    have hL:[-1]++elemsJ t j=prinList t j:=by unfold prinList;simp [hm]
    refine And.intro (by simp) ?_
    refine And.intro (by rw [List.length_append];simp;omega) ?_
    refine And.intro (fun h2=>by have h2:(400:Int)<(([-1]++elemsJ t j).length:Int):=h2;rw [hL] at h2;omega) (fun h2=>?_)
    rw [hL]
    refine And.intro (by omega) ?_
    refine And.intro (by omega) ?_
    refine Exists.intro []<|lp2 (fun (i:Nat) (_:List Int)=>[(45,.int .i64 i)]) (fun _ p=>[(42,.vec 0 (.ints .i64 p) [])]) (fun i p=>PosInv t j i p) (fun i _=>(prinList t j).length - i) 0 (List.replicate t.length 0) (.start t j) (by repeat' first|refine And.intro ?_ ?_|exact True.intro|(show (_:Int)=(_:Int);omega)|omega|exact rfl|(simp only [RO.len];omega)) ?_
    intro i p H
    have hle:=H.le
    have hpp:=H.len
    refine And.intro (fun h3=>?_) (fun h3=>?_)
    · have hik:i<(prinList t j).length:=by omega
      have hg:=prin_get hj hik
      refine And.intro (by omega) ?_
      refine And.intro (fun h4=>?_) (fun h4=>?_)
      · have h4:0≤(prinList t j).getD i 0:=h4
        refine And.intro (show 0≤(prinList t j).getD i 0∧(prinList t j).getD i 0<(p.length:Int) by omega) ?_
        refine And.intro (show (0:Int)≤(prinList t j).getD i 0 by omega) ?_
        refine And.intro (by omega) ?_
        exact nx (i+1,p.set ((prinList t j).getD i 0).toNat i) (H.put hj hik h4) (show (prinList t j).length - (i+1)<(prinList t j).length - i by omega) (by repeat' first|refine And.intro ?_ ?_|exact True.intro|(show (_:Int)=(_:Int);omega)|omega|exact rfl|(simp only [RO.len];omega))
      · have h4:(prinList t j).getD i 0<0:=h4
        refine And.intro (by omega) ?_
        exact nx (i+1,p) (H.skip hik h4) (show (prinList t j).length - (i+1)<(prinList t j).length - i by omega) (by repeat' first|refine And.intro ?_ ?_|exact True.intro|(show (_:Int)=(_:Int);omega)|omega|exact rfl|(simp only [RO.len];omega))
    have hdone:=fun {e:Nat} (he:e<t.length) (hc:(classJ t).getD e 0=(j:Int))=>H.done hj (by omega) he hc
    refine And.intro (by omega) ?_
    refine And.intro (by omega) ?_
    refine Or.inl ?_
    refine Exists.intro []<|lp2 (fun (x:Nat) (_:List (List Int))=>[(62,.int .i64 x)]) (fun _ q=>[(59,.vec 0 (.rows .i64 q) [])]) (fun x q=>x≤(prinList t j).length∧q.length=(prinList t j).length∧∀k,k<x→q.getD k []=(prinTab t j).getD k []) (fun x _=>(prinList t j).length - x) 0 (List.replicate (prinList t j).length []) ⟨Nat.zero_le _,by simp,fun k hk=>absurd hk (Nat.not_lt_zero _)⟩ (by repeat' first|refine And.intro ?_ ?_|exact True.intro|(show (_:Int)=(_:Int);omega)|omega|exact rfl|(simp only [RO.len];omega)) ?_
    rintro x q ⟨hx,hq,hs⟩
    refine And.intro (fun h5=>?_) (fun h5=>?_)
    · have hxl:x<(prinList t j).length:=by omega
      have gx:=prin_get hj hxl
      refine And.intro (by omega) ?_
      refine And.intro (by omega) ?_
      refine And.intro (by omega) ?_
      refine And.intro (by omega) ?_
      refine And.intro (by omega) ?_
      refine Exists.intro []<|lp2 (fun (y:Nat) (_:List Int)=>[(75,.int .i64 y)]) (fun _ r=>[(71,.vec 0 (.ints .i64 r) []),(59,.vec 0 (.rows .i64 q) [(x,71)])]) (fun y r=>y≤(prinList t j).length∧r.length=(prinList t j).length∧∀k,k<(prinList t j).length→r.getD k 0=if k<y then prinV t j ((prinList t j).getD x 0) ((prinList t j).getD k 0) else 0) (fun y _=>(prinList t j).length - y) 0 (List.replicate (prinList t j).length 0) ⟨Nat.zero_le _,by simp,fun k hk=>by simp [List.getD,hk]⟩ (by repeat' first|refine And.intro ?_ ?_|exact True.intro|(show (_:Int)=(_:Int);omega)|omega|exact rfl|(simp only [RO.len];omega)) ?_
      rintro y r ⟨hy,hr,hrs⟩
      refine And.intro (fun h6=>?_) (fun h6=>?_)
      · have hyl:y<(prinList t j).length:=by omega
        have gy:=prin_get hj hyl
        have keep:prinV t j ((prinList t j).getD x 0) ((prinList t j).getD y 0)=0→∀k,k<(prinList t j).length→r.getD k 0=if k<y+1 then prinV t j ((prinList t j).getD x 0) ((prinList t j).getD k 0) else 0:=fun hv k hk=>by
          rw [hrs k hk]
          by_cases hky:k=y
          · subst hky;rw [if_neg (Nat.lt_irrefl _),if_pos (Nat.lt_succ_self _),hv]
          · have:(k<y+1)↔k<y:=by omega
            simp only [this]
        refine And.intro (by omega) ?_
        refine Or.inl<|Exists.intro [false,false,false,false,false,false,false,false,false,false,false,false,false,false,false,false,false,false,false] (And.intro (by decide+kernel) ?_)
        refine And.intro (fun h7=>?_) (fun h7=>?_)
        · have h7:0≤(prinList t j).getD x 0:=h7
          refine And.intro (fun h8=>?_) (fun h8=>?_)
          · have h8:0≤(prinList t j).getD y 0:=h8
            have ax:((prinList t j).getD x 0).toNat<t.length:=by omega
            have ay:((prinList t j).getD y 0).toNat<t.length:=by omega
            have hrl:=h.toSh.len ax
            have e1:=h.toSh.ent ax ay
            refine And.intro (show 0≤(prinList t j).getD x 0∧(prinList t j).getD x 0<(t.length:Int) by omega) ?_
            refine And.intro (show 0≤(prinList t j).getD y 0∧(prinList t j).getD y 0<((t.getD ((prinList t j).getD x 0).toNat []).length:Int) by omega) ?_
            refine And.intro (show 0≤(t.getD ((prinList t j).getD x 0).toNat []).getD ((prinList t j).getD y 0).toNat 0∧(t.getD ((prinList t j).getD x 0).toNat []).getD ((prinList t j).getD y 0).toNat 0<((inJ t j).length:Int) by omega) ?_
            have eg:=inJ_get (j:=j) e1.2
            refine And.intro (fun h9=>?_) (fun h9=>?_)
            · have h9:(inJ t j).getD (en t ((prinList t j).getD x 0).toNat ((prinList t j).getD y 0).toNat) false=true:=h9
              rw [eg,decide_eq_true_eq] at h9
              have hv:=prinV_in h7 h8 h9
              refine Or.inl<|Exists.intro [false,false,false,false,false,false,false,false,false,false,false,false,false,false,false,false,true] (And.intro (by decide+kernel) ?_)
              refine And.intro (by omega) ?_
              refine And.intro (fun _=>?_) (fun h=>absurd rfl h)
              refine And.intro (show 0≤(prinList t j).getD x 0∧(prinList t j).getD x 0<(t.length:Int) by omega) ?_
              refine And.intro (show 0≤(prinList t j).getD y 0∧(prinList t j).getD y 0<((t.getD ((prinList t j).getD x 0).toNat []).length:Int) by omega) ?_
              refine And.intro (show 0≤(t.getD ((prinList t j).getD x 0).toNat []).getD ((prinList t j).getD y 0).toNat 0∧(t.getD ((prinList t j).getD x 0).toNat []).getD ((prinList t j).getD y 0).toNat 0<(p.length:Int) by omega) ?_
              refine And.intro (by omega) ?_
              refine And.intro (by omega) ?_
              refine And.intro (by omega) ?_
              have hpv:p.getD (en t ((prinList t j).getD x 0).toNat ((prinList t j).getD y 0).toNat) 0=prinV t j ((prinList t j).getD x 0) ((prinList t j).getD y 0):=by rw [hdone e1.2 h9,hv]
              refine nx (y+1,r.set y (p.getD (en t ((prinList t j).getD x 0).toNat ((prinList t j).getD y 0).toNat) 0)) ⟨by omega,by rw [List.length_set];exact hr,fun k hk=>?_⟩ (show (prinList t j).length - (y+1)<(prinList t j).length - y by omega) (by repeat' first|refine And.intro ?_ ?_|exact True.intro|(show (_:Int)=(_:Int);omega)|omega|exact rfl|(simp only [RO.len];omega))
              by_cases hky:k=y
              · subst hky;rw [getD_set_eq (by omega),if_pos (Nat.lt_succ_self _),hpv]
              · rw [getD_set_ne (Ne.symm hky),hrs k hk]
                have:(k<y+1)↔k<y:=by omega
                simp only [this]
            · have h9:(inJ t j).getD (en t ((prinList t j).getD x 0).toNat ((prinList t j).getD y 0).toNat) false=false:=h9
              rw [eg,decide_eq_false_iff_not] at h9
              refine And.intro (by omega) ?_
              exact nx (y+1,r) ⟨by omega,hr,keep (prinV_out fun hh=>h9 hh.2.2)⟩ (show (prinList t j).length - (y+1)<(prinList t j).length - y by omega) (by repeat' first|refine And.intro ?_ ?_|exact True.intro|(show (_:Int)=(_:Int);omega)|omega|exact rfl|(simp only [RO.len];omega))
          · have h8:(prinList t j).getD y 0<0:=h8
            refine And.intro (by omega) ?_
            exact nx (y+1,r) ⟨by omega,hr,keep (prinV_out fun hh=>by omega)⟩ (show (prinList t j).length - (y+1)<(prinList t j).length - y by omega) (by repeat' first|refine And.intro ?_ ?_|exact True.intro|(show (_:Int)=(_:Int);omega)|omega|exact rfl|(simp only [RO.len];omega))
        · have h7:(prinList t j).getD x 0<0:=h7
          refine And.intro (by omega) ?_
          exact nx (y+1,r) ⟨by omega,hr,keep (prinV_out fun hh=>by omega)⟩ (show (prinList t j).length - (y+1)<(prinList t j).length - y by omega) (by repeat' first|refine And.intro ?_ ?_|exact True.intro|(show (_:Int)=(_:Int);omega)|omega|exact rfl|(simp only [RO.len];omega))
      · refine And.intro (by omega) ?_
        refine nx (x+1,q.set x r) ⟨by omega,by rw [List.length_set];exact hq,fun k hk=>?_⟩ (show (prinList t j).length - (x+1)<(prinList t j).length - x by omega) (by repeat' first|refine And.intro ?_ ?_|exact True.intro|(show (_:Int)=(_:Int);omega)|omega|exact rfl|(simp only [RO.len];omega))
        by_cases hkx:k=x
        · subst hkx
          rw [getD_set_eq (by omega),prinTab_row hxl]
          exact ext_getD 0 (by rw [hr,prinRow_len]) fun c hc=>by rw [hrs c (by omega),if_pos (by omega),prinRow_get (by omega)]
        · rw [getD_set_ne (Ne.symm hkx)];exact hs k (by omega)
    · have hqq:q=prinTab t j:=ext_getD [] (by rw [hq,prinTab_len]) fun k hk=>hs k (by omega)
      refine And.intro (And.intro trivial ?_) (And.intro (And.intro trivial rfl) (And.intro rfl trivial))
      rw [hqq]
  · have hm:minJ t j=true:=by simpa using hm
    rw [hv] at hm;cases hm
set_option maxHeartbeats 1000000 in
theorem prin_ktrue (t:List (List Int)) (h:Semi t) (j:Nat) (hj:j<numJ t) (hv:minJ t j=true):fnK TY SP Tryz.f16 [.ro (.rows .i64 t),.int .i64 j] (.tup [.ro (.rows .i64 (prinTab t j)),.ro (.ints .i64 (prinList t j)),.int .i64 0]):=by
  have hmost:=h.most
  have hpl:=prin_len hj
  have hel:=elems_le hj
  have hil:=inJ_len t j
  refine Or.inl (cq (copen_fn t h j hj) (And.intro rfl (And.intro rfl trivial)) ?_)
  refine And.intro (fun h1=>absurd rfl h1) (fun h1=>?_)
  refine And.intro (fun hm=>?_) (fun hm=>?_)
  · have hm:minJ t j=false:=by simpa using hm
    rw [hv] at hm;cases hm
  · have hm:minJ t j=true:=by simpa using hm
    have hL:elemsJ t j=prinList t j:=by unfold prinList;simp [hm]
    refine And.intro (by omega) ?_
    refine And.intro (fun h2=>by have h2:(400:Int)<((elemsJ t j).length:Int):=h2;rw [hL] at h2;omega) (fun h2=>?_)
    rw [hL]
    refine And.intro (by omega) ?_
    refine And.intro (by omega) ?_
    refine Exists.intro []<|lp2 (fun (i:Nat) (_:List Int)=>[(45,.int .i64 i)]) (fun _ p=>[(42,.vec 0 (.ints .i64 p) [])]) (fun i p=>PosInv t j i p) (fun i _=>(prinList t j).length - i) 0 (List.replicate t.length 0) (.start t j) (by repeat' first|refine And.intro ?_ ?_|exact True.intro|(show (_:Int)=(_:Int);omega)|omega|exact rfl|(simp only [RO.len];omega)) ?_
    intro i p H
    have hle:=H.le
    have hpp:=H.len
    refine And.intro (fun h3=>?_) (fun h3=>?_)
    · have hik:i<(prinList t j).length:=by omega
      have hg:=prin_get hj hik
      refine And.intro (by omega) ?_
      refine And.intro (fun h4=>?_) (fun h4=>?_)
      · have h4:0≤(prinList t j).getD i 0:=h4
        refine And.intro (show 0≤(prinList t j).getD i 0∧(prinList t j).getD i 0<(p.length:Int) by omega) ?_
        refine And.intro (show (0:Int)≤(prinList t j).getD i 0 by omega) ?_
        refine And.intro (by omega) ?_
        exact nx (i+1,p.set ((prinList t j).getD i 0).toNat i) (H.put hj hik h4) (show (prinList t j).length - (i+1)<(prinList t j).length - i by omega) (by repeat' first|refine And.intro ?_ ?_|exact True.intro|(show (_:Int)=(_:Int);omega)|omega|exact rfl|(simp only [RO.len];omega))
      · have h4:(prinList t j).getD i 0<0:=h4
        refine And.intro (by omega) ?_
        exact nx (i+1,p) (H.skip hik h4) (show (prinList t j).length - (i+1)<(prinList t j).length - i by omega) (by repeat' first|refine And.intro ?_ ?_|exact True.intro|(show (_:Int)=(_:Int);omega)|omega|exact rfl|(simp only [RO.len];omega))
    have hdone:=fun {e:Nat} (he:e<t.length) (hc:(classJ t).getD e 0=(j:Int))=>H.done hj (by omega) he hc
    refine And.intro (by omega) ?_
    refine And.intro (by omega) ?_
    refine Or.inl ?_
    refine Exists.intro []<|lp2 (fun (x:Nat) (_:List (List Int))=>[(62,.int .i64 x)]) (fun _ q=>[(59,.vec 0 (.rows .i64 q) [])]) (fun x q=>x≤(prinList t j).length∧q.length=(prinList t j).length∧∀k,k<x→q.getD k []=(prinTab t j).getD k []) (fun x _=>(prinList t j).length - x) 0 (List.replicate (prinList t j).length []) ⟨Nat.zero_le _,by simp,fun k hk=>absurd hk (Nat.not_lt_zero _)⟩ (by repeat' first|refine And.intro ?_ ?_|exact True.intro|(show (_:Int)=(_:Int);omega)|omega|exact rfl|(simp only [RO.len];omega)) ?_
    rintro x q ⟨hx,hq,hs⟩
    refine And.intro (fun h5=>?_) (fun h5=>?_)
    · have hxl:x<(prinList t j).length:=by omega
      have gx:=prin_get hj hxl
      refine And.intro (by omega) ?_
      refine And.intro (by omega) ?_
      refine And.intro (by omega) ?_
      refine And.intro (by omega) ?_
      refine And.intro (by omega) ?_
      refine Exists.intro []<|lp2 (fun (y:Nat) (_:List Int)=>[(75,.int .i64 y)]) (fun _ r=>[(71,.vec 0 (.ints .i64 r) []),(59,.vec 0 (.rows .i64 q) [(x,71)])]) (fun y r=>y≤(prinList t j).length∧r.length=(prinList t j).length∧∀k,k<(prinList t j).length→r.getD k 0=if k<y then prinV t j ((prinList t j).getD x 0) ((prinList t j).getD k 0) else 0) (fun y _=>(prinList t j).length - y) 0 (List.replicate (prinList t j).length 0) ⟨Nat.zero_le _,by simp,fun k hk=>by simp [List.getD,hk]⟩ (by repeat' first|refine And.intro ?_ ?_|exact True.intro|(show (_:Int)=(_:Int);omega)|omega|exact rfl|(simp only [RO.len];omega)) ?_
      rintro y r ⟨hy,hr,hrs⟩
      refine And.intro (fun h6=>?_) (fun h6=>?_)
      · have hyl:y<(prinList t j).length:=by omega
        have gy:=prin_get hj hyl
        have keep:prinV t j ((prinList t j).getD x 0) ((prinList t j).getD y 0)=0→∀k,k<(prinList t j).length→r.getD k 0=if k<y+1 then prinV t j ((prinList t j).getD x 0) ((prinList t j).getD k 0) else 0:=fun hv k hk=>by
          rw [hrs k hk]
          by_cases hky:k=y
          · subst hky;rw [if_neg (Nat.lt_irrefl _),if_pos (Nat.lt_succ_self _),hv]
          · have:(k<y+1)↔k<y:=by omega
            simp only [this]
        refine And.intro (by omega) ?_
        refine Or.inl<|Exists.intro [false,false,false,false,false,false,false,false,false,false,false,false,false,false,false,false,false,false,false] (And.intro (by decide+kernel) ?_)
        refine And.intro (fun h7=>?_) (fun h7=>?_)
        · have h7:0≤(prinList t j).getD x 0:=h7
          refine And.intro (fun h8=>?_) (fun h8=>?_)
          · have h8:0≤(prinList t j).getD y 0:=h8
            have ax:((prinList t j).getD x 0).toNat<t.length:=by omega
            have ay:((prinList t j).getD y 0).toNat<t.length:=by omega
            have hrl:=h.toSh.len ax
            have e1:=h.toSh.ent ax ay
            refine And.intro (show 0≤(prinList t j).getD x 0∧(prinList t j).getD x 0<(t.length:Int) by omega) ?_
            refine And.intro (show 0≤(prinList t j).getD y 0∧(prinList t j).getD y 0<((t.getD ((prinList t j).getD x 0).toNat []).length:Int) by omega) ?_
            refine And.intro (show 0≤(t.getD ((prinList t j).getD x 0).toNat []).getD ((prinList t j).getD y 0).toNat 0∧(t.getD ((prinList t j).getD x 0).toNat []).getD ((prinList t j).getD y 0).toNat 0<((inJ t j).length:Int) by omega) ?_
            have eg:=inJ_get (j:=j) e1.2
            refine And.intro (fun h9=>?_) (fun h9=>?_)
            · have h9:(inJ t j).getD (en t ((prinList t j).getD x 0).toNat ((prinList t j).getD y 0).toNat) false=true:=h9
              rw [eg,decide_eq_true_eq] at h9
              have hv:=prinV_in h7 h8 h9
              refine Or.inl<|Exists.intro [false,false,false,false,false,false,false,false,false,false,false,false,false,false,false,false,true] (And.intro (by decide+kernel) ?_)
              refine And.intro (by omega) ?_
              refine And.intro (fun _=>?_) (fun h=>absurd rfl h)
              refine And.intro (show 0≤(prinList t j).getD x 0∧(prinList t j).getD x 0<(t.length:Int) by omega) ?_
              refine And.intro (show 0≤(prinList t j).getD y 0∧(prinList t j).getD y 0<((t.getD ((prinList t j).getD x 0).toNat []).length:Int) by omega) ?_
              refine And.intro (show 0≤(t.getD ((prinList t j).getD x 0).toNat []).getD ((prinList t j).getD y 0).toNat 0∧(t.getD ((prinList t j).getD x 0).toNat []).getD ((prinList t j).getD y 0).toNat 0<(p.length:Int) by omega) ?_
              refine And.intro (by omega) ?_
              refine And.intro (by omega) ?_
              refine And.intro (by omega) ?_
              have hpv:p.getD (en t ((prinList t j).getD x 0).toNat ((prinList t j).getD y 0).toNat) 0=prinV t j ((prinList t j).getD x 0) ((prinList t j).getD y 0):=by rw [hdone e1.2 h9,hv]
              refine nx (y+1,r.set y (p.getD (en t ((prinList t j).getD x 0).toNat ((prinList t j).getD y 0).toNat) 0)) ⟨by omega,by rw [List.length_set];exact hr,fun k hk=>?_⟩ (show (prinList t j).length - (y+1)<(prinList t j).length - y by omega) (by repeat' first|refine And.intro ?_ ?_|exact True.intro|(show (_:Int)=(_:Int);omega)|omega|exact rfl|(simp only [RO.len];omega))
              by_cases hky:k=y
              · subst hky;rw [getD_set_eq (by omega),if_pos (Nat.lt_succ_self _),hpv]
              · rw [getD_set_ne (Ne.symm hky),hrs k hk]
                have:(k<y+1)↔k<y:=by omega
                simp only [this]
            · have h9:(inJ t j).getD (en t ((prinList t j).getD x 0).toNat ((prinList t j).getD y 0).toNat) false=false:=h9
              rw [eg,decide_eq_false_iff_not] at h9
              refine And.intro (by omega) ?_
              exact nx (y+1,r) ⟨by omega,hr,keep (prinV_out fun hh=>h9 hh.2.2)⟩ (show (prinList t j).length - (y+1)<(prinList t j).length - y by omega) (by repeat' first|refine And.intro ?_ ?_|exact True.intro|(show (_:Int)=(_:Int);omega)|omega|exact rfl|(simp only [RO.len];omega))
          · have h8:(prinList t j).getD y 0<0:=h8
            refine And.intro (by omega) ?_
            exact nx (y+1,r) ⟨by omega,hr,keep (prinV_out fun hh=>by omega)⟩ (show (prinList t j).length - (y+1)<(prinList t j).length - y by omega) (by repeat' first|refine And.intro ?_ ?_|exact True.intro|(show (_:Int)=(_:Int);omega)|omega|exact rfl|(simp only [RO.len];omega))
        · have h7:(prinList t j).getD x 0<0:=h7
          refine And.intro (by omega) ?_
          exact nx (y+1,r) ⟨by omega,hr,keep (prinV_out fun hh=>by omega)⟩ (show (prinList t j).length - (y+1)<(prinList t j).length - y by omega) (by repeat' first|refine And.intro ?_ ?_|exact True.intro|(show (_:Int)=(_:Int);omega)|omega|exact rfl|(simp only [RO.len];omega))
      · refine And.intro (by omega) ?_
        refine nx (x+1,q.set x r) ⟨by omega,by rw [List.length_set];exact hq,fun k hk=>?_⟩ (show (prinList t j).length - (x+1)<(prinList t j).length - x by omega) (by repeat' first|refine And.intro ?_ ?_|exact True.intro|(show (_:Int)=(_:Int);omega)|omega|exact rfl|(simp only [RO.len];omega))
        by_cases hkx:k=x
        · subst hkx
          rw [getD_set_eq (by omega),prinTab_row hxl]
          exact ext_getD 0 (by rw [hr,prinRow_len]) fun c hc=>by rw [hrs c (by omega),if_pos (by omega),prinRow_get (by omega)]
        · rw [getD_set_ne (Ne.symm hkx)];exact hs k (by omega)
    · have hqq:q=prinTab t j:=ext_getD [] (by rw [hq,prinTab_len]) fun k hk=>hs k (by omega)
      refine And.intro (And.intro trivial ?_) (And.intro (And.intro trivial rfl) (And.intro rfl trivial))
      rw [hqq]
theorem prin_fn (t:List (List Int)) (h:Semi t) (j:Nat) (hj:j<numJ t):QF 16 [.ro (.rows .i64 t),.int .i64 j] (.tup [.ro (.rows .i64 (prinTab t j)),.ro (.ints .i64 (prinList t j)),.int .i64 0]):=mkQ Tryz.func16 (by decide+kernel) rfl (Nat.le_of_ble_eq_true rfl) fun _=>by
  cases hv:minJ t j with
  |false=>exact prin_kfalse t h j hj hv
  |true=>exact prin_ktrue t h j hj hv
end Go.Proofs.YtjabhmhhhlcopaaGreatDoor
end
section
namespace Go.Proofs.YtjabhmhhhlcopaaGreatDoor
open Go Go.AM
set_option maxRecDepth 100000
set_option maxHeartbeats 2000000
theorem areEl_k (t:List (List Int)) (l:List Int) (hl:inT t l) (hll:l.length≤140737488355328):fnK TY SP Tryz.f59 [.ro (.rows .i64 t),.ro (.ints .i64 l)] (.bool (.lit true)):=by
  refine Exists.intro []<|lp (X:=Nat) (fun k=>[(9,.int .i64 k)]) (fun _=>[]) (fun k=>k≤l.length) (fun k=>l.length - k) 0 (Nat.zero_le _) (by repeat' first|refine And.intro ?_ ?_|exact True.intro|(show (_:Int)=(_:Int);omega)|omega|exact rfl|(simp only [RO.len];omega)) ?_
  intro k hk
  refine And.intro (fun h1=>?_) (fun h1=>?_)
  · have hkl:k<l.length:=by omega
    have hr:=hl _ (getD_mem (d:=0) hkl)
    have h2:0≤l.getD k 0∧l.getD k 0<(t.length:Int):=hr
    refine And.intro (by omega) ?_
    refine And.intro (fun h3=>?_) (fun _=>?_)
    · have h3:l.getD k 0<0:=h3
      omega
    refine And.intro (fun h3=>?_) (fun _=>?_)
    · have h3:(t.length:Int)≤l.getD k 0:=h3
      omega
    refine And.intro (by omega) ?_
    exact nx (k+1) (show k+1≤l.length by omega) (show l.length - (k+1)<l.length - k by omega) (by repeat' first|refine And.intro ?_ ?_|exact True.intro|(show (_:Int)=(_:Int);omega)|omega|exact rfl|(simp only [RO.len];omega))
  · exact ⟨rfl,trivial⟩
theorem areEl_fn (t:List (List Int)) (l:List Int) (hl:inT t l):QF 59 [.ro (.rows .i64 t),.ro (.ints .i64 l)] (.bool (.lit true)):=mkQ Tryz.func59 (by decide+kernel) rfl (Nat.le_of_ble_eq_true rfl) fun hf=>areEl_k t l hl hf.2.1.1
theorem sub_fn (t:List (List Int)) (h:Semi t) (l:List Int) (hl:ClL t l) (hln:l.length≤t.length):QF 13 [.ro (.rows .i64 t),.ro (.ints .i64 l)] (.tup [.ro (.rows .i64 (subT t l)),.int .i64 0]):=mkQ Tryz.func13 (by decide+kernel) rfl (Nat.le_of_ble_eq_true rfl) fun _=>by
  have hmost:=h.most
  have hpos:=hl.pos
  refine Or.inl (cq (valid_fn t) (And.intro rfl trivial) ?_)
  refine And.intro (fun h1=>absurd (valid_zero.2 h) h1) (fun _=>?_)
  refine And.intro (fun h1=>?_) (fun _=>?_)
  · have h1:(l.length:Int)=0:=h1
    omega
  refine Or.inl (cq (areEl_fn t l hl.ins) (And.intro rfl (And.intro rfl trivial)) ?_)
  refine And.intro (by omega) ?_
  refine And.intro (by omega) ?_
  refine Exists.intro []<|lp2 (fun (k:Nat) (_:List Int)=>[(35,.int .i64 k)]) (fun _ P=>[(32,.vec 0 (.ints .i64 P) [])]) (fun k P=>k≤t.length∧P.length=t.length∧∀y,y<k→P.getD y 0= -1) (fun k _=>t.length - k) 0 (List.replicate t.length 0) ⟨Nat.zero_le _,by simp,by omega⟩ (by repeat' first|refine And.intro ?_ ?_|exact True.intro|(show (_:Int)=(_:Int);omega)|omega|exact rfl|(simp;omega)) ?_
  rintro k P ⟨hk,hP,hPy⟩
  refine And.intro (fun h1=>?_) (fun h1=>?_)
  · have h1:(k:Int)<((List.replicate ((t.length:Nat):Int).toNat (0:Int)).length:Int):=h1
    rw [List.length_replicate,Int.toNat_natCast] at h1
    have hkl:k<t.length:=by omega
    refine And.intro (by omega) ?_
    refine And.intro (by omega) ?_
    refine And.intro (by omega) ?_
    refine nx (k+1,P.set k (-1)) ⟨by omega,by rw [List.length_set];exact hP,fun y hy=>?_⟩ (show t.length - (k+1)<t.length - k by omega) (by repeat' first|refine And.intro ?_ ?_|exact True.intro|(show (_:Int)=(_:Int);omega)|omega|exact rfl|(simp only [RO.len];omega))
    by_cases e:y=k
    · subst e;rw [getD_set_eq (by omega)]
    · rw [getD_set_ne (Ne.symm e)];exact hPy y (by omega)
  · have h1:((List.replicate ((t.length:Nat):Int).toNat (0:Int)).length:Int)≤(k:Int):=h1
    rw [List.length_replicate,Int.toNat_natCast] at h1
    refine Exists.intro []<|lp2 (fun (k:Nat) (_:List Int)=>[(44,.int .i64 k)]) (fun _ P=>[(32,.vec 0 (.ints .i64 P) [])]) (fun k P=>k≤l.length∧P.length=t.length∧∀y,y<t.length→P.getD y 0=posTo l k y) (fun k _=>l.length - k) 0 P ⟨Nat.zero_le _,hP,fun y hy=>hPy y (by omega)⟩ (by repeat' first|refine And.intro ?_ ?_|exact True.intro|(show (_:Int)=(_:Int);omega)|omega|exact rfl|(simp only [RO.len];omega)) ?_
    rintro k P ⟨hk,hP,hPy⟩
    refine And.intro (fun h2=>?_) (fun h2=>?_)
    · have h2:(k:Int)<(l.length:Int):=h2
      have hkl:k<l.length:=by omega
      have hr:0≤l.getD k 0∧l.getD k 0<(t.length:Int):=hl.ins _ (getD_mem (d:=0) hkl)
      have nxt:∀y,y<t.length→(P.set (l.getD k 0).toNat (k:Int)).getD y 0=posTo l (k+1) y:=fun y hy=>by
        simp only [posTo]
        by_cases e:y=(l.getD k 0).toNat
        · rw [if_pos (by omega),e,getD_set_eq (by omega)]
        · rw [if_neg (by omega),getD_set_ne (Ne.symm e),hPy y hy]
      refine And.intro (by omega) ?_
      refine And.intro (fun h3=>?_) (fun h3=>?_)
      · have h3:(0:Int)<(k:Int):=h3
        refine And.intro (by omega) ?_
        refine And.intro (by omega) ?_
        refine And.intro (fun h4=>?_) (fun _=>?_)
        · exfalso
          have h4:l.getD k 0≤l.getD ((k:Int) - 1).toNat 0:=h4
          have ha:=hl.asc (k - 1) (by omega)
          rw [show ((k:Int) - 1).toNat=k - 1 by omega] at h4
          rw [show k - 1+1=k by omega] at ha
          omega
        refine And.intro (by simp only [Int.toNat_natCast];omega) ?_
        refine And.intro (by simp only [Int.toNat_natCast];omega) ?_
        refine And.intro (by omega) ?_
        exact nx (k+1,P.set (l.getD k 0).toNat (k:Int)) ⟨by omega,by rw [List.length_set];exact hP,nxt⟩ (show l.length - (k+1)<l.length - k by omega) (by repeat' first|refine And.intro ?_ ?_|exact True.intro|(show (_:Int)=(_:Int);omega)|omega|exact rfl|(simp only [RO.len];omega))
      · refine And.intro (by simp only [Int.toNat_natCast];omega) ?_
        refine And.intro (by simp only [Int.toNat_natCast];omega) ?_
        refine And.intro (by omega) ?_
        exact nx (k+1,P.set (l.getD k 0).toNat (k:Int)) ⟨by omega,by rw [List.length_set];exact hP,nxt⟩ (show l.length - (k+1)<l.length - k by omega) (by repeat' first|refine And.intro ?_ ?_|exact True.intro|(show (_:Int)=(_:Int);omega)|omega|exact rfl|(simp only [RO.len];omega))
    · have h2:(l.length:Int)≤(k:Int):=h2
      have hkl:k=l.length:=by omega
      have hst:=subT_len t l
      refine And.intro (by omega) ?_
      refine And.intro (by omega) ?_
      refine Or.inl ?_
      refine Exists.intro []<|lp2 (fun (i:Nat) (_:List (List Int))=>[(70,.int .i64 i)]) (fun _ Q=>[(67,.vec 0 (.rows .i64 Q) [])]) (fun i Q=>i≤l.length∧Q.length=l.length∧∀j,j<i→Q.getD j []=(subT t l).getD j []) (fun i _=>l.length - i) 0 (List.replicate l.length []) ⟨Nat.zero_le _,by simp,fun k hk=>absurd hk (Nat.not_lt_zero _)⟩ (by repeat' first|refine And.intro ?_ ?_|exact True.intro|(show (_:Int)=(_:Int);omega)|omega|exact rfl|(simp only [RO.len];omega)) ?_
      rintro i Q ⟨hi,hQ,hQj⟩
      refine And.intro (fun h5=>?_) (fun h5=>?_)
      · have h5:(i:Int)<(l.length:Int):=h5
        have hil:i<l.length:=by omega
        have ei:=hl.el hil
        have hrow:=subT_row (t:=t) hil
        refine And.intro (by omega) ?_
        refine And.intro (by omega) ?_
        refine And.intro (by omega) ?_
        refine And.intro (by omega) ?_
        refine And.intro (by omega) ?_
        refine Exists.intro []<|lp2 (fun (j:Nat) (_:List Int)=>[(83,.int .i64 j)]) (fun _ r=>[(79,.vec 0 (.ints .i64 r) []),(67,.vec 0 (.rows .i64 Q) [(i,79)])]) (fun j r=>j≤l.length∧r.length=l.length∧∀y,y<j→r.getD y 0=subV t l i y) (fun j _=>l.length - j) 0 (List.replicate l.length 0) ⟨Nat.zero_le _,by simp,fun k hk=>absurd hk (Nat.not_lt_zero _)⟩ (by repeat' first|refine And.intro ?_ ?_|exact True.intro|(show (_:Int)=(_:Int);omega)|omega|exact rfl|(simp only [RO.len];omega)) ?_
        rintro j r ⟨hj,hr,hrj⟩
        refine And.intro (fun h6=>?_) (fun h6=>?_)
        · have h6:(j:Int)<(l.length:Int):=h6
          have hjl:j<l.length:=by omega
          have ej:=hl.el hjl
          have he:=h.toSh.ent ei.1 ej.1
          have hrw:=h.toSh.len ei.1
          have hv:P.getD ((t.getD (eL l i) []).getD (eL l j) 0).toNat 0=subV t l i j:=by
            rw [he.1,Int.toNat_natCast,hPy _ he.2,hkl];rfl
          have hp:=pL_in (sub_in hl hil hjl)
          have hvp:0≤subV t l i j:=by show 0≤posTo l l.length _;omega
          have hset:(r.set j (P.getD ((t.getD (eL l i) []).getD (eL l j) 0).toNat 0)).getD j 0=subV t l i j:=by rw [getD_set_eq (by omega),hv]
          refine And.intro (by omega) ?_
          refine Or.inl ?_
          refine Exists.intro [false,false,false,false,false,false,false,false,false,false,false,false,false,false,false,false,true] (And.intro (by decide+kernel) ?_)
          refine And.intro (by omega) ?_
          refine And.intro (fun _=>?_) (fun h7=>absurd rfl h7)
          refine And.intro (by simp only [Int.toNat_natCast];omega) ?_
          refine And.intro (show 0≤l.getD j 0∧l.getD j 0<((t.getD (eL l i) []).length:Int) by omega) ?_
          refine And.intro (show 0≤(t.getD (eL l i) []).getD (eL l j) 0∧(t.getD (eL l i) []).getD (eL l j) 0<(P.length:Int) by omega) ?_
          refine And.intro (by omega) ?_
          refine And.intro (by omega) ?_
          refine And.intro (by omega) ?_
          refine And.intro (fun _=>?_) (fun h7=>absurd rfl h7)
          refine And.intro (by simp;omega) ?_
          refine And.intro (fun h7=>?_) (fun _=>?_)
          · exfalso
            have h7:(r.set j (P.getD ((t.getD (eL l i) []).getD (eL l j) 0).toNat 0)).getD j 0<0:=h7
            rw [hset] at h7;omega
          refine And.intro (by omega) ?_
          refine nx (j+1,r.set j (P.getD ((t.getD (eL l i) []).getD (eL l j) 0).toNat 0)) ⟨by omega,by rw [List.length_set];exact hr,fun y hy=>?_⟩ (show l.length - (j+1)<l.length - j by omega) (by repeat' first|refine And.intro ?_ ?_|exact True.intro|(show (_:Int)=(_:Int);omega)|omega|exact rfl|(simp only [RO.len];omega))
          by_cases e1:y=j
          · subst e1;exact hset
          · rw [getD_set_ne (Ne.symm e1)];exact hrj y (by omega)
        · have h6:(l.length:Int)≤(j:Int):=h6
          have e:r=(subT t l).getD i []:=by
            rw [hrow]
            refine ext_getD 0 (by simp;exact hr) fun y hy=>?_
            rw [hrj y (by omega),map_range_getD _ _ _ _ (by omega)]
          refine And.intro (by omega) ?_
          refine nx (i+1,Q.set i r) ⟨by omega,by rw [List.length_set];exact hQ,fun y hy=>?_⟩ (show l.length - (i+1)<l.length - i by omega) (by repeat' first|refine And.intro ?_ ?_|exact True.intro|(show (_:Int)=(_:Int);omega)|omega|exact rfl|(simp only [RO.len];omega))
          by_cases e1:y=i
          · subst e1;rw [getD_set_eq (by omega),e]
          · rw [getD_set_ne (Ne.symm e1)];exact hQj y (by omega)
      · have h5:(l.length:Int)≤(i:Int):=h5
        have e:Q=subT t l:=ext_getD [] (by rw [subT_len];exact hQ) fun y hy=>hQj y (by omega)
        subst e
        exact ⟨⟨trivial,rfl⟩,rfl,trivial⟩
end Go.Proofs.YtjabhmhhhlcopaaGreatDoor
end
