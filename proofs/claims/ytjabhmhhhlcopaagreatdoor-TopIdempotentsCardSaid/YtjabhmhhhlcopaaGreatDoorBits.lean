import Derived.Test.YtjabhmhhhlcopaaGreatDoorPartLaw
import Derived.Test.YtjabhmhhhlcopaaGreatDoorBase
section
namespace Go.Proofs.YtjabhmhhhlcopaaGreatDoor
open Go Go.AM
set_option maxRecDepth 100000
theorem validP_iff {p:List Int}:validP p↔p.length≤4096∧∀i,i<p.length→stepOk p i:=by
  unfold validP;rw [canon_fix]
theorem valid_no {p:List Int} {i:Nat} (hi:i<p.length) (h:¬stepOk p i):(BE.lit false).val=(BE.v (decide (validP p))).val:=by
  show false=decide (validP p)
  symm
  rw [decide_eq_false_iff_not,validP_iff]
  exact fun hv=>h (hv.2 i hi)
theorem step_next {p:List Int} {i:Nat} (_hi:i<p.length) (hs:∀j,j<i→stepOk p j) (h:stepOk p i):∀j,j<i+1→stepOk p j:=fun j hj=>by
  by_cases hji:j<i
  · exact hs j hji
  · have:j=i:=by omega
    rw [this];exact h
theorem firsts_next {p:List Int} {i:Nat} (hi:i<p.length) (hs:∀j,j<i→stepOk p j) (h:stepOk p i):(firsts (p.take (i+1))).length=if p.getD i 0=(firsts (p.take i)).length then (firsts (p.take i)).length+1 else (firsts (p.take i)).length:=by
  have hf:=firsts_valid (Nat.le_of_lt hi) hs
  have hr:=firsts_range hf (p.getD i 0)
  rw [take_get (d:=0) hi,firsts_snoc]
  have h1:=h.1
  have h2:=h.2
  by_cases hm:p.getD i 0∈p.take i
  · rw [if_pos hm,if_neg]
    have:=(hr.2 hm).2
    omega
  · rw [if_neg hm,if_pos]
    · simp
    · by_cases hlt:p.getD i 0<(firsts (p.take i)).length
      · exact absurd (hr.1 ⟨h1,hlt⟩) hm
      · omega
theorem pvalid_fn (p:List Int):QF 130 [.ro (.ints .i64 p)] (.bool (.v (decide (validP p)))):=mkQ Tryz.func130 (by decide+kernel) rfl (Nat.le_of_ble_eq_true rfl) fun _=>by
  refine And.intro (fun h1=>?_) (fun h1=>?_)
  · refine And.intro ?_ trivial
    show false=decide (validP p)
    symm
    rw [decide_eq_false_iff_not]
    exact fun hv=>by have:=hv.1;omega
  refine Exists.intro []<|lp2 (fun (i:Nat) (c:Nat)=>[(11,.int .i64 i),(3,.int .i64 c)]) (fun _ _=>[]) (fun i c=>i≤p.length∧c=(firsts (p.take i)).length∧∀j,j<i→stepOk p j) (fun i _=>p.length - i) 0 0 ⟨Nat.zero_le _,by simp [firsts],fun j hj=>absurd hj (Nat.not_lt_zero _)⟩ (by repeat' first|refine And.intro ?_ ?_|exact True.intro|(show (_:Int)=(_:Int);omega)|omega|exact rfl|(simp only [RO.len];omega)) ?_
  rintro i c ⟨hi,hc,hs⟩
  refine And.intro (fun h1=>?_) (fun h1=>?_)
  · have hil:i<p.length:=by omega
    refine And.intro (by omega) ?_
    refine And.intro (fun h2=>?_) (fun h2=>?_)
    · refine And.intro ?_ trivial
      have h2:p.getD i 0<0:=h2
      exact valid_no hil fun h=>by have:=h.1;omega
    refine And.intro (fun h3=>?_) (fun h3=>?_)
    · refine And.intro ?_ trivial
      have h3:(c:Int)<p.getD i 0:=h3
      exact valid_no hil fun h=>by have:=h.2;omega
    have h2:0≤p.getD i 0:=h2
    have h3:p.getD i 0≤(c:Int):=h3
    have hok:stepOk p i:=⟨h2,by rw [←hc];exact h3⟩
    have hfn:=firsts_next hil hs hok
    have hle:c≤p.length:=by
      have:=firsts_le (p.take i)
      rw [List.length_take] at this;omega
    refine And.intro (fun h4=>?_) (fun h4=>?_)
    · have h4:p.getD i 0=(c:Int):=h4
      refine And.intro (by omega) ?_
      refine And.intro (by omega) ?_
      refine nx (i+1,c+1) ⟨by omega,?_,step_next hil hs hok⟩ (show p.length - (i+1)<p.length - i by omega) (by repeat' first|refine And.intro ?_ ?_|exact True.intro|(show (_:Int)=(_:Int);omega)|omega|exact rfl|(simp only [RO.len];omega))
      rw [hfn,if_pos (by rw [h4,hc]),hc]
    · have h4:p.getD i 0≠(c:Int):=h4
      refine And.intro (by omega) ?_
      refine nx (i+1,c) ⟨by omega,?_,step_next hil hs hok⟩ (show p.length - (i+1)<p.length - i by omega) (by repeat' first|refine And.intro ?_ ?_|exact True.intro|(show (_:Int)=(_:Int);omega)|omega|exact rfl|(simp only [RO.len];omega))
      rw [hfn,if_neg (by rw [←hc];exact h4),hc]
  · refine And.intro ?_ trivial
    show true=decide (validP p)
    symm
    rw [decide_eq_true_eq,validP_iff]
    exact ⟨by omega,fun j hj=>hs j (by omega)⟩
structure CanInv {α:Type} [DecidableEq α] (key:α→List Int) (d:α) (p:List α) (i:Nat) (q:List Int) (m:List (List Int × Int)):Prop where
  le:i≤p.length
  len:q.length=p.length
  map:m=mapOf key 0 (firsts (p.take i))
  val:∀j,j<i→q.getD j 0=(canon p).getD j 0
section
variable {α:Type} [DecidableEq α] {key:α→List Int} {d:α} {p:List α} {i:Nat} {q:List Int} {m:List (List Int × Int)}
theorem CanInv.start:CanInv key d p 0 (List.replicate p.length 0) []:=⟨Nat.zero_le _,by simp,by simp [firsts,mapOf],fun j hj=>absurd hj (Nat.not_lt_zero _)⟩
theorem CanInv.mlen (h:CanInv key d p i q m):m.length=(firsts (p.take i)).length:=by rw [h.map,mapOf_length]
theorem CanInv.mle (h:CanInv key d p i q m):m.length≤p.length:=by
  rw [h.mlen]
  have:=firsts_le (p.take i)
  rw [List.length_take] at this;omega
theorem CanInv.next (h:CanInv key d p i q m) (hi:i<p.length) {v:Int} {m':List (List Int × Int)} (hm:m'=mapOf key 0 (firsts (p.take (i+1)))) (hv:v=(canon p).getD i 0):CanInv key d p (i+1) (q.set i v) m':=
  ⟨by omega,by rw [List.length_set];exact h.len,hm,fun j hj=>by
    by_cases hji:j=i
    · subst hji;rw [getD_set_eq (by rw [h.len];exact hi),hv]
    · rw [getD_set_ne (Ne.symm hji)];exact h.val j (by omega)⟩
theorem CanInv.isNew (hk:∀a b,key a=key b→a=b) (h:CanInv key d p i q m) (hi:i<p.length) (hn:(!(getM m (key (p.getD i d))).isSome)=true):
    setM m (key (p.getD i d)) m.length=mapOf key 0 (firsts (p.take (i+1)))∧(m.length:Int)=(canon p).getD i 0:=by
  have hg:=getM_mapOf hk (fs:=firsts (p.take i)) (n:=0) (x:=p.getD i d)
  rw [←h.map] at hg
  have hnone:p.getD i d∉p.take i:=fun hm=>by rw [if_pos (mem_firsts.2 hm)] at hg;rw [hg] at hn;cases hn
  rw [if_neg (fun hm=>hnone (mem_firsts.1 hm))] at hg
  have hat:=canon_at (d:=d) hi
  rw [if_neg hnone] at hat
  refine ⟨?_,by rw [hat,h.mlen]⟩
  rw [setM_new hg,take_get (d:=d) hi,firsts_snoc,if_neg hnone,mapOf_snoc,h.map,mapOf_length]
theorem CanInv.isOld (hk:∀a b,key a=key b→a=b) (h:CanInv key d p i q m) (hi:i<p.length) (hn:(!(getM m (key (p.getD i d))).isSome)=false):
    m=mapOf key 0 (firsts (p.take (i+1)))∧(getM m (key (p.getD i d))).getD 0=(canon p).getD i 0:=by
  have hg:=getM_mapOf hk (fs:=firsts (p.take i)) (n:=0) (x:=p.getD i d)
  rw [←h.map] at hg
  have hin:p.getD i d∈p.take i:=by
    by_cases hm:p.getD i d∈p.take i
    · exact hm
    · rw [if_neg (fun h=>hm (mem_firsts.1 h))] at hg;rw [hg] at hn;cases hn
  rw [if_pos (mem_firsts.2 hin)] at hg
  have hat:=canon_at (d:=d) hi
  rw [if_pos hin] at hat
  refine ⟨by rw [take_get (d:=d) hi,firsts_snoc,if_pos hin,h.map],by rw [hg,hat];simp⟩
theorem CanInv.done (h:CanInv key d p i q m) (hi:p.length≤i):q=canon p:=by
  refine List.ext_getElem (by rw [h.len,canon_length]) fun j h1 h2=>?_
  have:=h.val j (by have:=h.len;omega)
  rwa [getD_eq h1,getD_eq h2] at this
end
theorem key1:∀a b:Int,[a]=[b]→a=b:=fun a b h=>by cases h;rfl
theorem key2:∀a b:Int × Int,[a.1,a.2]=[b.1,b.2]→a=b:=fun a b h=>by
  cases a;cases b;simp at h;simp [h]
theorem canonI_fn (p:List Int) (h:p.length≤17592186044416):QF 191 [.ro (.ints .i64 p)] (.new (.ints .i64 (canon p))):=mkQ Tryz.func191 (by decide+kernel) rfl (Nat.le_of_ble_eq_true rfl) fun _=>by
  refine And.intro (by omega) ?_
  refine And.intro (by omega) ?_
  refine Exists.intro []<|lp3 (fun (i:Nat) (_:List Int) (_:List (List Int × Int))=>[(15,.int .i64 i)]) (fun _ q m=>[(11,.vec 0 (.ints .i64 q) []),(12,.map (.int .i64) (some .i64) m)]) (fun i q m=>CanInv (fun x=>[x]) 0 p i q m) (fun i _ _=>p.length - i) 0 (List.replicate p.length 0) [] .start (by repeat' first|refine And.intro ?_ ?_|exact True.intro|(show (_:Int)=(_:Int);omega)|omega|exact rfl|(simp only [RO.len];omega)) ?_
  intro i q m H
  have hle:=H.le
  have hlen:=H.len
  have hml:=H.mle
  refine And.intro (fun h1=>?_) (fun h1=>?_)
  · have hil:i<p.length:=by omega
    refine And.intro (by omega) ?_
    refine And.intro (fun h2=>?_) (fun h2=>?_)
    · obtain ⟨e1,e2⟩:=H.isNew key1 hil h2
      refine And.intro (by omega) ?_
      refine And.intro (by omega) ?_
      refine And.intro (by omega) ?_
      refine And.intro (by omega) ?_
      exact nx (i+1,q.set i m.length,_) (H.next hil e1 e2) (show p.length - (i+1)<p.length - i by omega) (by repeat' first|refine And.intro ?_ ?_|exact True.intro|(show (_:Int)=(_:Int);omega)|omega|exact rfl|(simp only [RO.len];omega))
    · obtain ⟨e1,e2⟩:=H.isOld key1 hil h2
      refine And.intro (by omega) ?_
      refine And.intro (by omega) ?_
      refine And.intro (by omega) ?_
      exact nx (i+1,q.set i _,m) (H.next hil e1 e2) (show p.length - (i+1)<p.length - i by omega) (by repeat' first|refine And.intro ?_ ?_|exact True.intro|(show (_:Int)=(_:Int);omega)|omega|exact rfl|(simp only [RO.len];omega))
  · refine And.intro ?_ trivial
    refine And.intro (by omega) ?_
    rw [H.done (by omega)]
theorem canonP_fn (p:List (Int × Int)) (h:p.length≤17592186044416):QF 129 [.ro (.pairs p)] (.new (.ints .i64 (canon p))):=mkQ Tryz.func129 (by decide+kernel) rfl (Nat.le_of_ble_eq_true rfl) fun _=>by
  refine And.intro (by omega) ?_
  refine And.intro (by omega) ?_
  refine Exists.intro []<|lp3 (fun (i:Nat) (_:List Int) (_:List (List Int × Int))=>[(15,.int .i64 i)]) (fun _ q m=>[(11,.vec 0 (.ints .i64 q) []),(12,.map (.arr 2 .i64) (some .i64) m)]) (fun i q m=>CanInv (fun x=>[x.1,x.2]) (0,0) p i q m) (fun i _ _=>p.length - i) 0 (List.replicate p.length 0) [] .start (by repeat' first|refine And.intro ?_ ?_|exact True.intro|(show (_:Int)=(_:Int);omega)|omega|exact rfl|(simp only [RO.len];omega)) ?_
  intro i q m H
  have hle:=H.le
  have hlen:=H.len
  have hml:=H.mle
  refine And.intro (fun h1=>?_) (fun h1=>?_)
  · have hil:i<p.length:=by omega
    refine And.intro (by omega) ?_
    refine And.intro (fun h2=>?_) (fun h2=>?_)
    · obtain ⟨e1,e2⟩:=H.isNew key2 hil h2
      refine And.intro (by omega) ?_
      refine And.intro (by omega) ?_
      refine And.intro (by omega) ?_
      refine And.intro (by omega) ?_
      exact nx (i+1,q.set i m.length,_) (H.next hil e1 e2) (show p.length - (i+1)<p.length - i by omega) (by repeat' first|refine And.intro ?_ ?_|exact True.intro|(show (_:Int)=(_:Int);omega)|omega|exact rfl|(simp only [RO.len];omega))
    · obtain ⟨e1,e2⟩:=H.isOld key2 hil h2
      refine And.intro (by omega) ?_
      refine And.intro (by omega) ?_
      refine And.intro (by omega) ?_
      exact nx (i+1,q.set i _,m) (H.next hil e1 e2) (show p.length - (i+1)<p.length - i by omega) (by repeat' first|refine And.intro ?_ ?_|exact True.intro|(show (_:Int)=(_:Int);omega)|omega|exact rfl|(simp only [RO.len];omega))
  · refine And.intro ?_ trivial
    refine And.intro (by omega) ?_
    rw [H.done (by omega)]
theorem Canonical_fn (p:List Int):QF 127 [.ro (.ints .i64 p)] (.new (.ints .i64 (if p.length≤4096 then canon p else []))):=mkQ Tryz.func127 (by decide+kernel) rfl (Nat.le_of_ble_eq_true rfl) fun _=>by
  refine And.intro (fun h1=>?_) (fun h1=>?_)
  · refine And.intro ?_ trivial
    rw [if_neg (by omega)];rfl
  · refine Or.inl (cq (canonI_fn p (by omega)) (And.intro rfl trivial) ?_)
    refine And.intro ?_ trivial
    rw [if_pos (by omega)]
    exact And.intro rfl rfl
abbrev matchP (p q:List Int):Prop:=p.length=q.length∧validP p∧validP q
theorem pmatch_fn (p q:List Int):QF 128 [.ro (.ints .i64 p),.ro (.ints .i64 q)] (.bool (.v (decide (matchP p q)))):=mkQ Tryz.func128 (by decide+kernel) rfl (Nat.le_of_ble_eq_true rfl) fun _=>by
  refine And.intro (fun h1=>?_) (fun h1=>?_)
  · refine Or.inl (cq (pvalid_fn p) (And.intro rfl trivial) ?_)
    refine And.intro (fun h2=>?_) (fun h2=>?_)
    · refine Or.inl (cq (pvalid_fn q) (And.intro rfl trivial) ?_)
      refine And.intro ?_ trivial
      show decide (validP q)=decide (matchP p q)
      have h2:=of_decide_eq_true h2
      have h3:p.length=q.length:=by omega
      simp [matchP,h2,h3]
    · refine And.intro ?_ trivial
      show false=decide (matchP p q)
      have h2:=of_decide_eq_false h2
      simp [matchP,h2]
  · refine And.intro ?_ trivial
    show false=decide (matchP p q)
    have h3:p.length≠q.length:=by omega
    simp [matchP,h3]
theorem pcount_fn (p:List Int):QF 98 [.ro (.ints .i64 p)] (.int .i64 (if validP p then classN p else 0)):=mkQ Tryz.func98 (by decide+kernel) rfl (Nat.le_of_ble_eq_true rfl) fun _=>by
  refine Or.inl (cq (pvalid_fn p) (And.intro rfl trivial) ?_)
  refine And.intro (fun h1=>?_) (fun h1=>?_)
  · refine And.intro ?_ trivial
    have h1:¬validP p:=by simpa using h1
    rw [if_neg h1];exact rfl
  have hv:validP p:=by simpa using h1
  rw [if_pos hv]
  have hst:=(validP_iff.1 hv).2
  have hlen:=hv.1
  refine Exists.intro []<|lp2 (fun (i:Nat) (c:Nat)=>[(11,.int .i64 i),(3,.int .i64 c)]) (fun _ _=>[]) (fun i c=>i≤p.length∧c=(firsts (p.take i)).length) (fun i _=>p.length - i) 0 0 ⟨Nat.zero_le _,by simp [firsts]⟩ (by repeat' first|refine And.intro ?_ ?_|exact True.intro|(show (_:Int)=(_:Int);omega)|omega|exact rfl|(simp only [RO.len];omega)) ?_
  rintro i c ⟨hi,hc⟩
  refine And.intro (fun h1=>?_) (fun h1=>?_)
  · have hil:i<p.length:=by omega
    have hs:=hst i hil
    have hs1:0≤p.getD i 0:=hs.1
    have hs2:p.getD i 0≤(firsts (p.take i)).length:=hs.2
    have hfn:=firsts_next hil (fun j hj=>hst j (by omega)) hs
    have hle:=firsts_le (p.take i)
    rw [List.length_take] at hle
    refine And.intro (by omega) ?_
    refine And.intro (show -9223372036854775808≤p.getD i 0+1∧p.getD i 0+1≤9223372036854775807 by omega) ?_
    refine And.intro (show -9223372036854775808≤(i:Int)+1∧(i:Int)+1≤9223372036854775807 by omega) ?_
    refine nx (i+1,(firsts (p.take (i+1))).length) ⟨by omega,rfl⟩ (show p.length - (i+1)<p.length - i by omega) ?_
    refine And.intro (And.intro rfl ?_) trivial
    refine And.intro ?_ trivial
    show max (c:Int) (p.getD i 0+1)=((firsts (p.take (i+1))).length:Nat)
    rw [hfn]
    split<;>omega
  · refine And.intro ?_ trivial
    show (c:Int)=classN p
    have:p.take i=p:=List.take_of_length_le (by omega)
    rw [hc,this];rfl
def upTo (p:List Int) (i c:Nat):List Int:=((List.range i).filter fun i=>p.getD i 0=(c:Int)).map fun (i:Nat)=>(i:Int)
theorem upTo_zero (p:List Int) (c:Nat):upTo p 0 c=[]:=rfl
theorem upTo_le (p:List Int) (i c:Nat):(upTo p i c).length≤i:=by
  unfold upTo
  rw [List.length_map]
  exact Nat.le_trans (List.length_filter_le _ _) (by simp)
theorem upTo_here {p:List Int} {i c:Nat} (h:p.getD i 0=c):upTo p (i+1) c=upTo p i c++[(i:Int)]:=by
  unfold upTo
  rw [List.range_succ,List.filter_append,List.filter_cons,if_pos (by simpa using h)]
  simp
theorem upTo_there {p:List Int} {i c:Nat} (h:p.getD i 0≠c):upTo p (i+1) c=upTo p i c:=by
  unfold upTo
  rw [List.range_succ,List.filter_append,List.filter_cons,if_neg (by simpa using h)]
  simp
theorem rows_done {p:List Int} {n i:Nat} {l:List (List Int)} (hl:l.length=n) (h:∀k,k<n→l.getD k []=upTo p i k) (hi:i=p.length):l=classes n p:=by
  refine List.ext_getElem (by rw [hl,classes_length]) fun j h1 h2=>?_
  have:=h j (by omega)
  rw [getD_eq h1] at this
  rw [this,←getD_eq (d:=[]) h2,classes_getD (by omega),hi];rfl
theorem rows_next {p:List Int} {n i:Nat} {l:List (List Int)} (hl:l.length=n) (h:∀k,k<n→l.getD k []=upTo p i k) (hr:0≤p.getD i 0∧p.getD i 0<n):
    ∀k,k<n→(l.set (p.getD i 0).toNat (l.getD (p.getD i 0).toNat []++[(i:Int)])).getD k []=upTo p (i+1) k:=fun k hk=>by
  by_cases hkc:k=(p.getD i 0).toNat
  · rw [←hkc,getD_set_eq (by omega),h k hk,upTo_here (by omega)]
  · rw [getD_set_ne (Ne.symm hkc),h k hk,upTo_there (by omega)]
theorem pclasses_no (p:List Int) (h:¬validP p):QF 57 [.ro (.ints .i64 p)] .nils:=mkQ Tryz.func57 (by decide+kernel) rfl (Nat.le_of_ble_eq_true rfl) fun _=>by
  refine Or.inl (cq (pvalid_fn p) (And.intro rfl trivial) ?_)
  refine And.intro (fun h1=>?_) (fun h1=>?_)
  · exact And.intro trivial trivial
  · have:validP p:=by simpa using h1
    exact absurd this h
theorem pclasses_fn (p:List Int) (h:validP p):QF 57 [.ro (.ints .i64 p)] (.ro (.rows .i64 (classes (classN p) p))):=mkQ Tryz.func57 (by decide+kernel) rfl (Nat.le_of_ble_eq_true rfl) fun _=>by
  have hlen:=h.1
  have hrange:∀i,i<p.length→0≤p.getD i 0∧p.getD i 0<classN p:=fun i hi=>(valid_range h.2 _).2 (getD_mem hi)
  have hn:classN p≤p.length:=firsts_le p
  refine Or.inl (cq (pvalid_fn p) (And.intro rfl trivial) ?_)
  refine And.intro (fun h1=>?_) (fun h1=>?_)
  · have:¬validP p:=by simpa using h1
    exact absurd h this
  refine Or.inl (cq (pcount_fn p) (And.intro rfl trivial) ?_)
  rw [if_pos h]
  refine And.intro (by omega) ?_
  refine And.intro (by omega) ?_
  refine Or.inr (Or.inl ?_)
  refine Exists.intro []<|lp2 (fun (i:Nat) (_:List (List Int))=>[(14,.int .i64 i)]) (fun _ c=>[(11,.deep (.rows .i64 c) none)]) (fun i c=>i≤p.length∧c.length=classN p∧∀k,k<classN p→c.getD k []=upTo p i k) (fun i _=>p.length - i) 0 (List.replicate (classN p) []) ⟨Nat.zero_le _,by simp,fun k hk=>by rw [upTo_zero];simp [List.getD,hk]⟩ (by repeat' first|refine And.intro ?_ ?_|exact True.intro|(show (_:Int)=(_:Int);omega)|omega|exact rfl|(simp only [RO.len];omega)) ?_
  rintro i c ⟨hi,hc,hs⟩
  refine And.intro (fun h1=>?_) (fun h1=>?_)
  · have hil:i<p.length:=by omega
    have hr:=hrange i hil
    have hle:=upTo_le p i (p.getD i 0).toNat
    rw [←hs (p.getD i 0).toNat (by omega)] at hle
    refine And.intro (by omega) ?_
    refine And.intro (show 0≤p.getD i 0∧p.getD i 0<(c.length:Int) by omega) ?_
    refine And.intro (show ((c.getD (p.getD i 0).toNat []++[(i:Int)]).length:Int)≤17592186044416 by rw [List.length_append,List.length_singleton];omega) ?_
    refine And.intro (show 0≤p.getD i 0∧p.getD i 0<(c.length:Int) by omega) ?_
    refine And.intro rfl ?_
    refine And.intro (show -9223372036854775808≤(i:Int)+1∧(i:Int)+1≤9223372036854775807 by omega) ?_
    exact nx (i+1,c.set (p.getD i 0).toNat (c.getD (p.getD i 0).toNat []++[(i:Int)])) ⟨by omega,by rw [List.length_set];exact hc,rows_next hc hs hr⟩ (show p.length - (i+1)<p.length - i by omega) (by repeat' first|refine And.intro ?_ ?_|exact True.intro|(show (_:Int)=(_:Int);omega)|omega|exact rfl|(simp only [RO.len];omega))
  · refine And.intro ?_ trivial
    refine And.intro trivial ?_
    rw [rows_done hc hs (by omega)]
theorem pmeet_fn (p q:List Int):QF 56 [.ro (.ints .i64 p),.ro (.ints .i64 q)] (.new (.ints .i64 (if matchP p q then canon (p.zip q) else []))):=mkQ Tryz.func56 (by decide+kernel) rfl (Nat.le_of_ble_eq_true rfl) fun _=>by
  refine Or.inl (cq (pmatch_fn p q) (And.intro rfl (And.intro rfl trivial)) ?_)
  refine And.intro (fun h1=>?_) (fun h1=>?_)
  · have h1:¬matchP p q:=fun hm=>by rw [decide_eq_true hm] at h1;cases h1
    refine And.intro ?_ trivial
    rw [if_neg h1];rfl
  have hm:matchP p q:=by
    by_cases hm:matchP p q
    · exact hm
    · rw [decide_eq_false hm] at h1;cases h1
  have hlen:=hm.2.1.1
  have hpq:=hm.1
  rw [if_pos hm]
  refine And.intro (by omega) ?_
  refine And.intro (by omega) ?_
  refine Exists.intro []<|lp2 (fun (i:Nat) (_:List (Int × Int))=>[(16,.int .i64 i)]) (fun _ l=>[(13,.vec 0 (.pairs l) [])]) (fun i l=>i≤p.length∧l.length=p.length∧∀j,j<i→l.getD j (0,0)=(p.getD j 0,q.getD j 0)) (fun i _=>p.length - i) 0 (List.replicate p.length (0,0)) ⟨Nat.zero_le _,by simp,fun j hj=>absurd hj (Nat.not_lt_zero _)⟩ (by repeat' first|refine And.intro ?_ ?_|exact True.intro|(show (_:Int)=(_:Int);omega)|omega|exact rfl|(simp only [RO.len];omega)) ?_
  rintro i l ⟨hi,hl,hs⟩
  refine And.intro (fun h2=>?_) (fun h2=>?_)
  · have hil:i<p.length:=by omega
    refine Or.inl<|Exists.intro [false,false,false,false,false,false,false,false,false,false,false,false,true] (And.intro (by decide+kernel) ?_)
    refine And.intro (by omega) ?_
    refine And.intro (by omega) ?_
    refine And.intro (by omega) ?_
    refine And.intro (by omega) ?_
    refine And.intro (by omega) ?_
    refine nx (i+1,l.set i (p.getD i 0,q.getD i 0)) ⟨by omega,by rw [List.length_set];exact hl,fun j hj=>?_⟩ (show p.length - (i+1)<p.length - i by omega) (by repeat' first|refine And.intro ?_ ?_|exact True.intro|(show (_:Int)=(_:Int);omega)|omega|exact rfl|(simp only [RO.len];omega))
    by_cases hji:j=i
    · subst hji;rw [getD_set_eq (by omega)]
    · rw [getD_set_ne (Ne.symm hji)];exact hs j (by omega)
  · have hz:l=p.zip q:=by
      refine List.ext_getElem (by simp [hl,hpq]) fun j h1 h2=>?_
      have h3:=hs j (by omega)
      rw [getD_eq h1,getD_eq (by omega),getD_eq (by omega)] at h3
      rw [h3];simp
    refine Or.inl (cq (canonP_fn l (by omega)) (And.intro rfl trivial) ?_)
    refine And.intro ?_ trivial
    refine And.intro rfl ?_
    rw [hz]
end Go.Proofs.YtjabhmhhhlcopaaGreatDoor
end
section
namespace Go.Proofs.YtjabhmhhhlcopaaGreatDoor
open Go Go.AM
def isW (w:Int):Prop:=0≤w∧w≤18446744073709551615
theorem w_lt {w:Int} (h:isW w):w.toNat<2 ^ 64:=by have:=h.2;omega
theorem w_nat {w:Int} (h:isW w):(w.toNat:Int)=w:=by have:=h.1;omega
theorem ofInt_nat {w:Int} (h:isW w):(BitVec.ofInt 64 w).toNat=w.toNat:=by
  rw [BitVec.toNat_ofInt]
  have h1:=h.1
  have h2:=h.2
  have:w % ((2 ^ 64:Nat):Int)=w:=Int.emod_eq_of_lt h1 (by omega)
  rw [this]
theorem or_w {a b:Int} (ha:isW a) (hb:isW b):orI .u64 a b=((a.toNat ||| b.toNat:Nat):Int):=by
  unfold orI
  show IntKind.u64.wrap ((BitVec.ofInt 64 a ||| BitVec.ofInt 64 b).toNat:Int)=_
  rw [BitVec.toNat_or,ofInt_nat ha,ofInt_nat hb]
  apply wrap_in
  have:=Nat.or_lt_two_pow (w_lt ha) (w_lt hb)
  constructor
  · show (0:Int)≤_
    omega
  · show _≤(18446744073709551615:Int)
    omega
theorem and_w {a b:Int} (ha:isW a) (hb:isW b):andI .u64 a b=((a.toNat &&& b.toNat:Nat):Int):=by
  unfold andI
  show IntKind.u64.wrap ((BitVec.ofInt 64 a &&& BitVec.ofInt 64 b).toNat:Int)=_
  rw [BitVec.toNat_and,ofInt_nat ha,ofInt_nat hb]
  apply wrap_in
  have:=Nat.and_lt_two_pow (n:=64) a.toNat (w_lt hb)
  constructor
  · show (0:Int)≤_
    omega
  · show _≤(18446744073709551615:Int)
    omega
theorem and_i {a b:Int} (ha:0≤a∧a≤9223372036854775807) (hb:0≤b∧b≤9223372036854775807):andI .i64 a b=((a.toNat &&& b.toNat:Nat):Int):=by
  unfold andI
  show IntKind.i64.wrap ((BitVec.ofInt 64 a &&& BitVec.ofInt 64 b).toNat:Int)=_
  rw [BitVec.toNat_and,ofInt_nat ⟨ha.1,by omega⟩,ofInt_nat ⟨hb.1,by omega⟩]
  apply wrap_in
  have:=Nat.and_lt_two_pow (n:=63) a.toNat (show b.toNat<2 ^ 63 by omega)
  constructor
  · show (-9223372036854775808:Int)≤_
    omega
  · show _≤(9223372036854775807:Int)
    omega
theorem low6 {x:Nat} (hx:(x:Int)≤9223372036854775807):andI .i64 x 63=((x % 64:Nat):Int):=by
  rw [and_i ⟨by omega,hx⟩ ⟨by decide,by decide⟩]
  congr 1
  exact Nat.and_two_pow_sub_one_eq_mod x 6
theorem shr_nat {k:IntKind} (hk:k= .i64∨k= .u64) (x i:Nat) (hi:i<64):shrI k x i=((x / 2 ^ i:Nat):Int):=by
  unfold shrI
  have:min (i:Int).toNat k.bits=i:=by rcases hk with rfl|rfl<;>simp [IntKind.bits]<;>omega
  rw [this]
  exact (Int.natCast_ediv x (2 ^ i)).symm▸(by rw [Int.fdiv_eq_ediv_of_nonneg];· norm_cast
                                              · exact Int.le_of_lt (Int.pow_pos (by decide)))
theorem word6 (x:Nat):shrI .i64 x 6=((x / 64:Nat):Int):=shr_nat (.inl rfl) x 6 (by decide)
theorem one_shl {i:Nat} (hi:i<64):shlI .u64 1 i=((2 ^ i:Nat):Int):=by
  unfold shlI
  have:min (i:Int).toNat (IntKind.u64.bits)=i:=by simp [IntKind.bits];omega
  rw [this]
  have hp:2 ^ i≤2 ^ 63:=Nat.pow_le_pow_right (by decide) (by omega)
  have e:(1:Int)*2 ^ i=((2 ^ i:Nat):Int):=by rw [Int.one_mul];norm_cast
  rw [e]
  apply wrap_in
  constructor
  · exact Int.natCast_nonneg _
  · show _≤(18446744073709551615:Int)
    have:(2:Nat) ^ 63=9223372036854775808:=by decide
    omega
def bit (ws:List Int) (x:Nat):Bool:=(ws.getD (x / 64) 0).toNat.testBit (x % 64)
def wordsOk (ws:List Int):Prop:=∀w∈ws,isW w
theorem bit_has {ws:List Int} (hw:wordsOk ws) {x:Nat} (hx:x / 64<ws.length) (hx2:(x:Int)≤9223372036854775807):
    andI .u64 (shrI .u64 (ws.getD (x / 64) 0) (andI .i64 x 63)) 1=1↔bit ws x=true:=by
  have h:=hw _ (getD_mem (d:=0) hx)
  rw [low6 hx2]
  rw [←w_nat h,shr_nat (.inr rfl) _ _ (Nat.mod_lt _ (by decide))]
  rw [and_w ⟨Int.natCast_nonneg _,?_⟩ ⟨by decide,by decide⟩]
  · unfold bit
    rw [Nat.testBit_eq_decide_div_mod_eq,decide_eq_true_eq]
    have e:((((ws.getD (x / 64) 0).toNat / 2 ^ (x % 64):Nat):Int).toNat &&& (1:Int).toNat)=(ws.getD (x / 64) 0).toNat / 2 ^ (x % 64) % 2:=by
      rw [Int.toNat_natCast]
      exact Nat.and_two_pow_sub_one_eq_mod _ 1
    rw [e]
    constructor
    · intro h;exact_mod_cast h
    · intro h;rw [h];rfl
  · have h1:=Nat.div_le_self (ws.getD (x / 64) 0).toNat (2 ^ (x % 64))
    have h2:=w_lt h
    omega
def addW (ws:List Int) (x:Nat):List Int:=ws.set (x / 64) (orI .u64 (ws.getD (x / 64) 0) (shlI .u64 1 (andI .i64 x 63)))
theorem addW_len (ws:List Int) (x:Nat):(addW ws x).length=ws.length:=by simp [addW]
theorem addW_word {ws:List Int} (hw:wordsOk ws) {x:Nat} (hx:x / 64<ws.length) (hx2:(x:Int)≤9223372036854775807):
    orI .u64 (ws.getD (x / 64) 0) (shlI .u64 1 (andI .i64 x 63))=(((ws.getD (x / 64) 0).toNat ||| 2 ^ (x % 64):Nat):Int)∧isW (orI .u64 (ws.getD (x / 64) 0) (shlI .u64 1 (andI .i64 x 63))):=by
  have h:=hw _ (getD_mem (d:=0) hx)
  have hp:2 ^ (x % 64)≤2 ^ 63:=Nat.pow_le_pow_right (by decide) (by omega)
  have h63:(2:Nat) ^ 63=9223372036854775808:=by decide
  have e:orI .u64 (ws.getD (x / 64) 0) (shlI .u64 1 (andI .i64 x 63))=(((ws.getD (x / 64) 0).toNat ||| 2 ^ (x % 64):Nat):Int):=by
    rw [low6 hx2,one_shl (Nat.mod_lt _ (by decide)),or_w h ⟨Int.natCast_nonneg _,by omega⟩,Int.toNat_natCast]
  refine ⟨e,?_⟩
  rw [e]
  have:=Nat.or_lt_two_pow (n:=64) (w_lt h) (show 2 ^ (x % 64)<2 ^ 64 by omega)
  exact ⟨by omega,by omega⟩
theorem addW_ok {ws:List Int} (hw:wordsOk ws) {x:Nat} (hx:x / 64<ws.length) (hx2:(x:Int)≤9223372036854775807):wordsOk (addW ws x):=fun w hm=>by
  rcases List.mem_or_eq_of_mem_set hm with h|h
  · exact hw w h
  · rw [h];exact (addW_word hw hx hx2).2
theorem addW_bit {ws:List Int} (hw:wordsOk ws) {x:Nat} (hx:x / 64<ws.length) (hx2:(x:Int)≤9223372036854775807) (y:Nat):bit (addW ws x) y=(bit ws y||decide (y=x)):=by
  unfold bit addW
  by_cases hxy:x / 64=y / 64
  · rw [←hxy,getD_set_eq hx,(addW_word hw hx hx2).1,Int.toNat_natCast,Nat.testBit_or,Nat.testBit_two_pow]
    congr 1
    have h1:=Nat.div_add_mod x 64
    have h2:=Nat.div_add_mod y 64
    have:x % 64=y % 64↔y=x:=by omega
    simp [this]
  · rw [getD_set_ne hxy]
    have:y≠x:=fun e=>hxy (by rw [e])
    simp [this]
def uniteW (a b:List Int) (k:Nat):List Int:=(List.range a.length).map fun i=>if i<k then orI .u64 (a.getD i 0) (b.getD i 0) else a.getD i 0
theorem uniteW_zero (a b:List Int):uniteW a b 0=a:=by
  refine List.ext_getElem (by simp [uniteW]) fun j h1 h2=>?_
  simp [uniteW,List.getD,h2]
theorem uniteW_len (a b:List Int) (k:Nat):(uniteW a b k).length=a.length:=by simp [uniteW]
theorem uniteW_get {a b:List Int} {k i:Nat} (hi:i<a.length):(uniteW a b k).getD i 0=if i<k then orI .u64 (a.getD i 0) (b.getD i 0) else a.getD i 0:=by
  simp only [uniteW,List.getD,List.getElem?_map,List.getElem?_range hi,Option.map_some,Option.getD_some]
theorem uniteW_next {a b:List Int} {k:Nat} (hk:k<a.length):(uniteW a b k).set k (orI .u64 ((uniteW a b k).getD k 0) (b.getD k 0))=uniteW a b (k+1):=by
  refine List.ext_getElem (by simp [uniteW]) fun j h1 h2=>?_
  have hj:j<a.length:=by simpa [uniteW] using h2
  have e:∀{l:List Int} {h:j<l.length},l[j]=l.getD j 0:=fun {l h}=>by simp [List.getD,h]
  rw [e,e,uniteW_get hj]
  by_cases hjk:j=k
  · subst hjk
    rw [getD_set_eq (by rw [uniteW_len];exact hj),uniteW_get hj,if_neg (Nat.lt_irrefl _),if_pos (Nat.lt_succ_self _)]
  · rw [getD_set_ne (Ne.symm hjk),uniteW_get hj]
    by_cases h:j<k
    · rw [if_pos h,if_pos (by omega)]
    · rw [if_neg h,if_neg (by omega)]
theorem uniteW_ok {a b:List Int} (ha:wordsOk a) (hb:wordsOk b) (hl:a.length=b.length):wordsOk (uniteW a b a.length):=fun w hm=>by
  obtain ⟨i,hi,rfl⟩:=mem_getD 0 hm
  rw [uniteW_len] at hi
  rw [uniteW_get hi,if_pos hi]
  have h1:=ha _ (getD_mem (d:=0) hi)
  have h2:=hb _ (getD_mem (d:=0) (hl▸hi))
  rw [or_w h1 h2]
  have:=Nat.or_lt_two_pow (w_lt h1) (w_lt h2)
  exact ⟨by omega,by omega⟩
theorem uniteW_bit {a b:List Int} (ha:wordsOk a) (hb:wordsOk b) (hl:a.length=b.length) {x:Nat} (hx:x / 64<a.length):bit (uniteW a b a.length) x=(bit a x||bit b x):=by
  unfold bit
  have h1:=ha _ (getD_mem (d:=0) hx)
  have h2:=hb _ (getD_mem (d:=0) (hl▸hx))
  rw [uniteW_get hx,if_pos hx,or_w h1 h2,Int.toNat_natCast,Nat.testBit_or]
theorem zero_bit (n x:Nat):bit (List.replicate n 0) x=false:=by
  unfold bit
  have:(List.replicate n (0:Int)).getD (x / 64) 0=0:=by simp only [List.getD,List.getElem?_replicate];split<;>rfl
  rw [this];simp
theorem zero_ok (n:Nat):wordsOk (List.replicate n 0):=fun w hw=>by
  rw [List.eq_of_mem_replicate hw];exact ⟨by decide,by decide⟩
end Go.Proofs.YtjabhmhhhlcopaaGreatDoor
end
