import Derived.Test.YtjabhmhhhlcopaaGreatDoorRefCgL
import Derived.Test.YtjabhmhhhlcopaaGreatDoorEnLaw
import Derived.Test.YtjabhmhhhlcopaaGreatDoorAwk
section
namespace Go.Proofs.YtjabhmhhhlcopaaGreatDoor
open Go Go.AM
set_option maxRecDepth 100000
theorem validP_iff {p:List Int}:validP p↔p.length≤4096∧∀i,i<p.length→stepOk p i:=by
  unfold validP;rw [canon_fix]
theorem valid_no {p:List Int} {i:Nat} (hi:i<p.length) (h:¬stepOk p i):(BE.lit false).val=(BE.v (decide (validP p))).val:=by
  show false=decide (validP p)
  symm
  rw [decide_eq_false_iff_not,validP_iff]
  exact fun hv=>h (hv.2 i hi)
theorem step_next {p:List Int} {i:Nat} (_hi:i<p.length) (hs:∀j,j<i→stepOk p j) (h:stepOk p i):∀j,j<i+1→stepOk p j:=fun j hj=>by
  by_cases hji:j<i
  · exact hs j hji
  · have:j=i:=by omega
    rw [this];exact h
theorem firsts_next {p:List Int} {i:Nat} (hi:i<p.length) (hs:∀j,j<i→stepOk p j) (h:stepOk p i):(firsts (p.take (i+1))).length=if p.getD i 0=(firsts (p.take i)).length then (firsts (p.take i)).length+1 else (firsts (p.take i)).length:=by
  have hf:=firsts_valid (Nat.le_of_lt hi) hs
  have hr:=firsts_range hf (p.getD i 0)
  rw [take_get (d:=0) hi,firsts_snoc]
  have h1:=h.1
  have h2:=h.2
  by_cases hm:p.getD i 0∈p.take i
  · rw [if_pos hm,if_neg]
    have:=(hr.2 hm).2
    omega
  · rw [if_neg hm,if_pos]
    · simp
    · by_cases hlt:p.getD i 0<(firsts (p.take i)).length
      · exact absurd (hr.1 ⟨h1,hlt⟩) hm
      · omega
theorem pvalid_fn (p:List Int):QF 130 [.ro (.ints .i64 p)] (.bool (.v (decide (validP p)))):=mkQ Tryz.func130 (by decide+kernel) rfl (Nat.le_of_ble_eq_true rfl) fun _=>by
  refine And.intro (fun h1=>?_) (fun h1=>?_)
  · refine And.intro ?_ trivial
    show false=decide (validP p)
    symm
    rw [decide_eq_false_iff_not]
    exact fun hv=>by have:=hv.1;omega
  refine Exists.intro []<|lp2 (fun (i:Nat) (c:Nat)=>[(11,.int .i64 i),(3,.int .i64 c)]) (fun _ _=>[]) (fun i c=>i≤p.length∧c=(firsts (p.take i)).length∧∀j,j<i→stepOk p j) (fun i _=>p.length - i) 0 0 ⟨Nat.zero_le _,by simp [firsts],fun j hj=>absurd hj (Nat.not_lt_zero _)⟩ (by repeat' first|refine And.intro ?_ ?_|exact True.intro|(show (_:Int)=(_:Int);omega)|omega|exact rfl|(simp only [RO.len];omega)) ?_
  rintro i c ⟨hi,hc,hs⟩
  refine And.intro (fun h1=>?_) (fun h1=>?_)
  · have hil:i<p.length:=by omega
    refine And.intro (by omega) ?_
    refine And.intro (fun h2=>?_) (fun h2=>?_)
    · refine And.intro ?_ trivial
      have h2:p.getD i 0<0:=h2
      exact valid_no hil fun h=>by have:=h.1;omega
    refine And.intro (fun h3=>?_) (fun h3=>?_)
    · refine And.intro ?_ trivial
      have h3:(c:Int)<p.getD i 0:=h3
      exact valid_no hil fun h=>by have:=h.2;omega
    have h2:0≤p.getD i 0:=h2
    have h3:p.getD i 0≤(c:Int):=h3
    have hok:stepOk p i:=⟨h2,by rw [←hc];exact h3⟩
    have hfn:=firsts_next hil hs hok
    have hle:c≤p.length:=by
      have:=firsts_le (p.take i)
      rw [List.length_take] at this;omega
    refine And.intro (fun h4=>?_) (fun h4=>?_)
    · have h4:p.getD i 0=(c:Int):=h4
      refine And.intro (by omega) ?_
      refine And.intro (by omega) ?_
      refine nx (i+1,c+1) ⟨by omega,?_,step_next hil hs hok⟩ (show p.length - (i+1)<p.length - i by omega) (by repeat' first|refine And.intro ?_ ?_|exact True.intro|(show (_:Int)=(_:Int);omega)|omega|exact rfl|(simp only [RO.len];omega))
      rw [hfn,if_pos (by rw [h4,hc]),hc]
    · have h4:p.getD i 0≠(c:Int):=h4
      refine And.intro (by omega) ?_
      refine nx (i+1,c) ⟨by omega,?_,step_next hil hs hok⟩ (show p.length - (i+1)<p.length - i by omega) (by repeat' first|refine And.intro ?_ ?_|exact True.intro|(show (_:Int)=(_:Int);omega)|omega|exact rfl|(simp only [RO.len];omega))
      rw [hfn,if_neg (by rw [←hc];exact h4),hc]
  · refine And.intro ?_ trivial
    show true=decide (validP p)
    symm
    rw [decide_eq_true_eq,validP_iff]
    exact ⟨by omega,fun j hj=>hs j (by omega)⟩
structure CanInv {α:Type} [DecidableEq α] (key:α→List Int) (d:α) (p:List α) (i:Nat) (q:List Int) (m:List (List Int × Int)):Prop where
  le:i≤p.length
  len:q.length=p.length
  map:m=mapOf key 0 (firsts (p.take i))
  val:∀j,j<i→q.getD j 0=(canon p).getD j 0
section
variable {α:Type} [DecidableEq α] {key:α→List Int} {d:α} {p:List α} {i:Nat} {q:List Int} {m:List (List Int × Int)}
theorem CanInv.start:CanInv key d p 0 (List.replicate p.length 0) []:=⟨Nat.zero_le _,by simp,by simp [firsts,mapOf],fun j hj=>absurd hj (Nat.not_lt_zero _)⟩
theorem CanInv.mlen (h:CanInv key d p i q m):m.length=(firsts (p.take i)).length:=by rw [h.map,mapOf_length]
theorem CanInv.mle (h:CanInv key d p i q m):m.length≤p.length:=by
  rw [h.mlen]
  have:=firsts_le (p.take i)
  rw [List.length_take] at this;omega
theorem CanInv.next (h:CanInv key d p i q m) (hi:i<p.length) {v:Int} {m':List (List Int × Int)} (hm:m'=mapOf key 0 (firsts (p.take (i+1)))) (hv:v=(canon p).getD i 0):CanInv key d p (i+1) (q.set i v) m':=
  ⟨by omega,by rw [List.length_set];exact h.len,hm,fun j hj=>by
    by_cases hji:j=i
    · subst hji;rw [getD_set_eq (by rw [h.len];exact hi),hv]
    · rw [getD_set_ne (Ne.symm hji)];exact h.val j (by omega)⟩
theorem CanInv.isNew (hk:∀a b,key a=key b→a=b) (h:CanInv key d p i q m) (hi:i<p.length) (hn:(!(getM m (key (p.getD i d))).isSome)=true):
    setM m (key (p.getD i d)) m.length=mapOf key 0 (firsts (p.take (i+1)))∧(m.length:Int)=(canon p).getD i 0:=by
  have hg:=getM_mapOf hk (fs:=firsts (p.take i)) (n:=0) (x:=p.getD i d)
  rw [←h.map] at hg
  have hnone:p.getD i d∉p.take i:=fun hm=>by rw [if_pos (mem_firsts.2 hm)] at hg;rw [hg] at hn;cases hn
  rw [if_neg (fun hm=>hnone (mem_firsts.1 hm))] at hg
  have hat:=canon_at (d:=d) hi
  rw [if_neg hnone] at hat
  refine ⟨?_,by rw [hat,h.mlen]⟩
  rw [setM_new hg,take_get (d:=d) hi,firsts_snoc,if_neg hnone,mapOf_snoc,h.map,mapOf_length]
theorem CanInv.isOld (hk:∀a b,key a=key b→a=b) (h:CanInv key d p i q m) (hi:i<p.length) (hn:(!(getM m (key (p.getD i d))).isSome)=false):
    m=mapOf key 0 (firsts (p.take (i+1)))∧(getM m (key (p.getD i d))).getD 0=(canon p).getD i 0:=by
  have hg:=getM_mapOf hk (fs:=firsts (p.take i)) (n:=0) (x:=p.getD i d)
  rw [←h.map] at hg
  have hin:p.getD i d∈p.take i:=by
    by_cases hm:p.getD i d∈p.take i
    · exact hm
    · rw [if_neg (fun h=>hm (mem_firsts.1 h))] at hg;rw [hg] at hn;cases hn
  rw [if_pos (mem_firsts.2 hin)] at hg
  have hat:=canon_at (d:=d) hi
  rw [if_pos hin] at hat
  refine ⟨by rw [take_get (d:=d) hi,firsts_snoc,if_pos hin,h.map],by rw [hg,hat];simp⟩
theorem CanInv.done (h:CanInv key d p i q m) (hi:p.length≤i):q=canon p:=by
  refine List.ext_getElem (by rw [h.len,canon_length]) fun j h1 h2=>?_
  have:=h.val j (by have:=h.len;omega)
  rwa [getD_eq h1,getD_eq h2] at this
end
theorem key1:∀a b:Int,[a]=[b]→a=b:=fun a b h=>by cases h;rfl
theorem key2:∀a b:Int × Int,[a.1,a.2]=[b.1,b.2]→a=b:=fun a b h=>by
  cases a;cases b;simp at h;simp [h]
theorem canonI_fn (p:List Int) (h:p.length≤17592186044416):QF 191 [.ro (.ints .i64 p)] (.new (.ints .i64 (canon p))):=mkQ Tryz.func191 (by decide+kernel) rfl (Nat.le_of_ble_eq_true rfl) fun _=>by
  refine And.intro (by omega) ?_
  refine And.intro (by omega) ?_
  refine Exists.intro []<|lp3 (fun (i:Nat) (_:List Int) (_:List (List Int × Int))=>[(15,.int .i64 i)]) (fun _ q m=>[(11,.vec 0 (.ints .i64 q) []),(12,.map (.int .i64) (some .i64) m)]) (fun i q m=>CanInv (fun x=>[x]) 0 p i q m) (fun i _ _=>p.length - i) 0 (List.replicate p.length 0) [] .start (by repeat' first|refine And.intro ?_ ?_|exact True.intro|(show (_:Int)=(_:Int);omega)|omega|exact rfl|(simp only [RO.len];omega)) ?_
  intro i q m H
  have hle:=H.le
  have hlen:=H.len
  have hml:=H.mle
  refine And.intro (fun h1=>?_) (fun h1=>?_)
  · have hil:i<p.length:=by omega
    refine And.intro (by omega) ?_
    refine And.intro (fun h2=>?_) (fun h2=>?_)
    · obtain ⟨e1,e2⟩:=H.isNew key1 hil h2
      refine And.intro (by omega) ?_
      refine And.intro (by omega) ?_
      refine And.intro (by omega) ?_
      refine And.intro (by omega) ?_
      exact nx (i+1,q.set i m.length,_) (H.next hil e1 e2) (show p.length - (i+1)<p.length - i by omega) (by repeat' first|refine And.intro ?_ ?_|exact True.intro|(show (_:Int)=(_:Int);omega)|omega|exact rfl|(simp only [RO.len];omega))
    · obtain ⟨e1,e2⟩:=H.isOld key1 hil h2
      refine And.intro (by omega) ?_
      refine And.intro (by omega) ?_
      refine And.intro (by omega) ?_
      exact nx (i+1,q.set i _,m) (H.next hil e1 e2) (show p.length - (i+1)<p.length - i by omega) (by repeat' first|refine And.intro ?_ ?_|exact True.intro|(show (_:Int)=(_:Int);omega)|omega|exact rfl|(simp only [RO.len];omega))
  · refine And.intro ?_ trivial
    refine And.intro (by omega) ?_
    rw [H.done (by omega)]
theorem canonP_fn (p:List (Int × Int)) (h:p.length≤17592186044416):QF 129 [.ro (.pairs p)] (.new (.ints .i64 (canon p))):=mkQ Tryz.func129 (by decide+kernel) rfl (Nat.le_of_ble_eq_true rfl) fun _=>by
  refine And.intro (by omega) ?_
  refine And.intro (by omega) ?_
  refine Exists.intro []<|lp3 (fun (i:Nat) (_:List Int) (_:List (List Int × Int))=>[(15,.int .i64 i)]) (fun _ q m=>[(11,.vec 0 (.ints .i64 q) []),(12,.map (.arr 2 .i64) (some .i64) m)]) (fun i q m=>CanInv (fun x=>[x.1,x.2]) (0,0) p i q m) (fun i _ _=>p.length - i) 0 (List.replicate p.length 0) [] .start (by repeat' first|refine And.intro ?_ ?_|exact True.intro|(show (_:Int)=(_:Int);omega)|omega|exact rfl|(simp only [RO.len];omega)) ?_
  intro i q m H
  have hle:=H.le
  have hlen:=H.len
  have hml:=H.mle
  refine And.intro (fun h1=>?_) (fun h1=>?_)
  · have hil:i<p.length:=by omega
    refine And.intro (by omega) ?_
    refine And.intro (fun h2=>?_) (fun h2=>?_)
    · obtain ⟨e1,e2⟩:=H.isNew key2 hil h2
      refine And.intro (by omega) ?_
      refine And.intro (by omega) ?_
      refine And.intro (by omega) ?_
      refine And.intro (by omega) ?_
      exact nx (i+1,q.set i m.length,_) (H.next hil e1 e2) (show p.length - (i+1)<p.length - i by omega) (by repeat' first|refine And.intro ?_ ?_|exact True.intro|(show (_:Int)=(_:Int);omega)|omega|exact rfl|(simp only [RO.len];omega))
    · obtain ⟨e1,e2⟩:=H.isOld key2 hil h2
      refine And.intro (by omega) ?_
      refine And.intro (by omega) ?_
      refine And.intro (by omega) ?_
      exact nx (i+1,q.set i _,m) (H.next hil e1 e2) (show p.length - (i+1)<p.length - i by omega) (by repeat' first|refine And.intro ?_ ?_|exact True.intro|(show (_:Int)=(_:Int);omega)|omega|exact rfl|(simp only [RO.len];omega))
  · refine And.intro ?_ trivial
    refine And.intro (by omega) ?_
    rw [H.done (by omega)]
theorem Canonical_fn (p:List Int):QF 127 [.ro (.ints .i64 p)] (.new (.ints .i64 (if p.length≤4096 then canon p else []))):=mkQ Tryz.func127 (by decide+kernel) rfl (Nat.le_of_ble_eq_true rfl) fun _=>by
  refine And.intro (fun h1=>?_) (fun h1=>?_)
  · refine And.intro ?_ trivial
    rw [if_neg (by omega)];rfl
  · refine Or.inl (cq (canonI_fn p (by omega)) (And.intro rfl trivial) ?_)
    refine And.intro ?_ trivial
    rw [if_pos (by omega)]
    exact And.intro rfl rfl
abbrev matchP (p q:List Int):Prop:=p.length=q.length∧validP p∧validP q
theorem pmatch_fn (p q:List Int):QF 128 [.ro (.ints .i64 p),.ro (.ints .i64 q)] (.bool (.v (decide (matchP p q)))):=mkQ Tryz.func128 (by decide+kernel) rfl (Nat.le_of_ble_eq_true rfl) fun _=>by
  refine And.intro (fun h1=>?_) (fun h1=>?_)
  · refine Or.inl (cq (pvalid_fn p) (And.intro rfl trivial) ?_)
    refine And.intro (fun h2=>?_) (fun h2=>?_)
    · refine Or.inl (cq (pvalid_fn q) (And.intro rfl trivial) ?_)
      refine And.intro ?_ trivial
      show decide (validP q)=decide (matchP p q)
      have h2:=of_decide_eq_true h2
      have h3:p.length=q.length:=by omega
      simp [matchP,h2,h3]
    · refine And.intro ?_ trivial
      show false=decide (matchP p q)
      have h2:=of_decide_eq_false h2
      simp [matchP,h2]
  · refine And.intro ?_ trivial
    show false=decide (matchP p q)
    have h3:p.length≠q.length:=by omega
    simp [matchP,h3]
theorem pcount_fn (p:List Int):QF 98 [.ro (.ints .i64 p)] (.int .i64 (if validP p then classN p else 0)):=mkQ Tryz.func98 (by decide+kernel) rfl (Nat.le_of_ble_eq_true rfl) fun _=>by
  refine Or.inl (cq (pvalid_fn p) (And.intro rfl trivial) ?_)
  refine And.intro (fun h1=>?_) (fun h1=>?_)
  · refine And.intro ?_ trivial
    have h1:¬validP p:=by simpa using h1
    rw [if_neg h1];exact rfl
  have hv:validP p:=by simpa using h1
  rw [if_pos hv]
  have hst:=(validP_iff.1 hv).2
  have hlen:=hv.1
  refine Exists.intro []<|lp2 (fun (i:Nat) (c:Nat)=>[(11,.int .i64 i),(3,.int .i64 c)]) (fun _ _=>[]) (fun i c=>i≤p.length∧c=(firsts (p.take i)).length) (fun i _=>p.length - i) 0 0 ⟨Nat.zero_le _,by simp [firsts]⟩ (by repeat' first|refine And.intro ?_ ?_|exact True.intro|(show (_:Int)=(_:Int);omega)|omega|exact rfl|(simp only [RO.len];omega)) ?_
  rintro i c ⟨hi,hc⟩
  refine And.intro (fun h1=>?_) (fun h1=>?_)
  · have hil:i<p.length:=by omega
    have hs:=hst i hil
    have hs1:0≤p.getD i 0:=hs.1
    have hs2:p.getD i 0≤(firsts (p.take i)).length:=hs.2
    have hfn:=firsts_next hil (fun j hj=>hst j (by omega)) hs
    have hle:=firsts_le (p.take i)
    rw [List.length_take] at hle
    refine And.intro (by omega) ?_
    refine And.intro (show -9223372036854775808≤p.getD i 0+1∧p.getD i 0+1≤9223372036854775807 by omega) ?_
    refine And.intro (show -9223372036854775808≤(i:Int)+1∧(i:Int)+1≤9223372036854775807 by omega) ?_
    refine nx (i+1,(firsts (p.take (i+1))).length) ⟨by omega,rfl⟩ (show p.length - (i+1)<p.length - i by omega) ?_
    refine And.intro (And.intro rfl ?_) trivial
    refine And.intro ?_ trivial
    show max (c:Int) (p.getD i 0+1)=((firsts (p.take (i+1))).length:Nat)
    rw [hfn]
    split<;>omega
  · refine And.intro ?_ trivial
    show (c:Int)=classN p
    have:p.take i=p:=List.take_of_length_le (by omega)
    rw [hc,this];rfl
def upTo (p:List Int) (i c:Nat):List Int:=((List.range i).filter fun i=>p.getD i 0=(c:Int)).map fun (i:Nat)=>(i:Int)
theorem upTo_zero (p:List Int) (c:Nat):upTo p 0 c=[]:=rfl
theorem upTo_le (p:List Int) (i c:Nat):(upTo p i c).length≤i:=by
  unfold upTo
  rw [List.length_map]
  exact Nat.le_trans (List.length_filter_le _ _) (by simp)
theorem upTo_here {p:List Int} {i c:Nat} (h:p.getD i 0=c):upTo p (i+1) c=upTo p i c++[(i:Int)]:=by
  unfold upTo
  rw [List.range_succ,List.filter_append,List.filter_cons,if_pos (by simpa using h)]
  simp
theorem upTo_there {p:List Int} {i c:Nat} (h:p.getD i 0≠c):upTo p (i+1) c=upTo p i c:=by
  unfold upTo
  rw [List.range_succ,List.filter_append,List.filter_cons,if_neg (by simpa using h)]
  simp
theorem rows_done {p:List Int} {n i:Nat} {l:List (List Int)} (hl:l.length=n) (h:∀k,k<n→l.getD k []=upTo p i k) (hi:i=p.length):l=classes n p:=by
  refine List.ext_getElem (by rw [hl,classes_length]) fun j h1 h2=>?_
  have:=h j (by omega)
  rw [getD_eq h1] at this
  rw [this,←getD_eq (d:=[]) h2,classes_getD (by omega),hi];rfl
theorem rows_next {p:List Int} {n i:Nat} {l:List (List Int)} (hl:l.length=n) (h:∀k,k<n→l.getD k []=upTo p i k) (hr:0≤p.getD i 0∧p.getD i 0<n):
    ∀k,k<n→(l.set (p.getD i 0).toNat (l.getD (p.getD i 0).toNat []++[(i:Int)])).getD k []=upTo p (i+1) k:=fun k hk=>by
  by_cases hkc:k=(p.getD i 0).toNat
  · rw [←hkc,getD_set_eq (by omega),h k hk,upTo_here (by omega)]
  · rw [getD_set_ne (Ne.symm hkc),h k hk,upTo_there (by omega)]
theorem pclasses_no (p:List Int) (h:¬validP p):QF 57 [.ro (.ints .i64 p)] .nils:=mkQ Tryz.func57 (by decide+kernel) rfl (Nat.le_of_ble_eq_true rfl) fun _=>by
  refine Or.inl (cq (pvalid_fn p) (And.intro rfl trivial) ?_)
  refine And.intro (fun h1=>?_) (fun h1=>?_)
  · exact And.intro trivial trivial
  · have:validP p:=by simpa using h1
    exact absurd this h
theorem pclasses_fn (p:List Int) (h:validP p):QF 57 [.ro (.ints .i64 p)] (.ro (.rows .i64 (classes (classN p) p))):=mkQ Tryz.func57 (by decide+kernel) rfl (Nat.le_of_ble_eq_true rfl) fun _=>by
  have hlen:=h.1
  have hrange:∀i,i<p.length→0≤p.getD i 0∧p.getD i 0<classN p:=fun i hi=>(valid_range h.2 _).2 (getD_mem hi)
  have hn:classN p≤p.length:=firsts_le p
  refine Or.inl (cq (pvalid_fn p) (And.intro rfl trivial) ?_)
  refine And.intro (fun h1=>?_) (fun h1=>?_)
  · have:¬validP p:=by simpa using h1
    exact absurd h this
  refine Or.inl (cq (pcount_fn p) (And.intro rfl trivial) ?_)
  rw [if_pos h]
  refine And.intro (by omega) ?_
  refine And.intro (by omega) ?_
  refine Or.inr (Or.inl ?_)
  refine Exists.intro []<|lp2 (fun (i:Nat) (_:List (List Int))=>[(14,.int .i64 i)]) (fun _ c=>[(11,.deep (.rows .i64 c) none)]) (fun i c=>i≤p.length∧c.length=classN p∧∀k,k<classN p→c.getD k []=upTo p i k) (fun i _=>p.length - i) 0 (List.replicate (classN p) []) ⟨Nat.zero_le _,by simp,fun k hk=>by rw [upTo_zero];simp [List.getD,hk]⟩ (by repeat' first|refine And.intro ?_ ?_|exact True.intro|(show (_:Int)=(_:Int);omega)|omega|exact rfl|(simp only [RO.len];omega)) ?_
  rintro i c ⟨hi,hc,hs⟩
  refine And.intro (fun h1=>?_) (fun h1=>?_)
  · have hil:i<p.length:=by omega
    have hr:=hrange i hil
    have hle:=upTo_le p i (p.getD i 0).toNat
    rw [←hs (p.getD i 0).toNat (by omega)] at hle
    refine And.intro (by omega) ?_
    refine And.intro (show 0≤p.getD i 0∧p.getD i 0<(c.length:Int) by omega) ?_
    refine And.intro (show ((c.getD (p.getD i 0).toNat []++[(i:Int)]).length:Int)≤17592186044416 by rw [List.length_append,List.length_singleton];omega) ?_
    refine And.intro (show 0≤p.getD i 0∧p.getD i 0<(c.length:Int) by omega) ?_
    refine And.intro rfl ?_
    refine And.intro (show -9223372036854775808≤(i:Int)+1∧(i:Int)+1≤9223372036854775807 by omega) ?_
    exact nx (i+1,c.set (p.getD i 0).toNat (c.getD (p.getD i 0).toNat []++[(i:Int)])) ⟨by omega,by rw [List.length_set];exact hc,rows_next hc hs hr⟩ (show p.length - (i+1)<p.length - i by omega) (by repeat' first|refine And.intro ?_ ?_|exact True.intro|(show (_:Int)=(_:Int);omega)|omega|exact rfl|(simp only [RO.len];omega))
  · refine And.intro ?_ trivial
    refine And.intro trivial ?_
    rw [rows_done hc hs (by omega)]
theorem pmeet_fn (p q:List Int):QF 56 [.ro (.ints .i64 p),.ro (.ints .i64 q)] (.new (.ints .i64 (if matchP p q then canon (p.zip q) else []))):=mkQ Tryz.func56 (by decide+kernel) rfl (Nat.le_of_ble_eq_true rfl) fun _=>by
  refine Or.inl (cq (pmatch_fn p q) (And.intro rfl (And.intro rfl trivial)) ?_)
  refine And.intro (fun h1=>?_) (fun h1=>?_)
  · have h1:¬matchP p q:=fun hm=>by rw [decide_eq_true hm] at h1;cases h1
    refine And.intro ?_ trivial
    rw [if_neg h1];rfl
  have hm:matchP p q:=by
    by_cases hm:matchP p q
    · exact hm
    · rw [decide_eq_false hm] at h1;cases h1
  have hlen:=hm.2.1.1
  have hpq:=hm.1
  rw [if_pos hm]
  refine And.intro (by omega) ?_
  refine And.intro (by omega) ?_
  refine Exists.intro []<|lp2 (fun (i:Nat) (_:List (Int × Int))=>[(16,.int .i64 i)]) (fun _ l=>[(13,.vec 0 (.pairs l) [])]) (fun i l=>i≤p.length∧l.length=p.length∧∀j,j<i→l.getD j (0,0)=(p.getD j 0,q.getD j 0)) (fun i _=>p.length - i) 0 (List.replicate p.length (0,0)) ⟨Nat.zero_le _,by simp,fun j hj=>absurd hj (Nat.not_lt_zero _)⟩ (by repeat' first|refine And.intro ?_ ?_|exact True.intro|(show (_:Int)=(_:Int);omega)|omega|exact rfl|(simp only [RO.len];omega)) ?_
  rintro i l ⟨hi,hl,hs⟩
  refine And.intro (fun h2=>?_) (fun h2=>?_)
  · have hil:i<p.length:=by omega
    refine Or.inl<|Exists.intro [false,false,false,false,false,false,false,false,false,false,false,false,true] (And.intro (by decide+kernel) ?_)
    refine And.intro (by omega) ?_
    refine And.intro (by omega) ?_
    refine And.intro (by omega) ?_
    refine And.intro (by omega) ?_
    refine And.intro (by omega) ?_
    refine nx (i+1,l.set i (p.getD i 0,q.getD i 0)) ⟨by omega,by rw [List.length_set];exact hl,fun j hj=>?_⟩ (show p.length - (i+1)<p.length - i by omega) (by repeat' first|refine And.intro ?_ ?_|exact True.intro|(show (_:Int)=(_:Int);omega)|omega|exact rfl|(simp only [RO.len];omega))
    by_cases hji:j=i
    · subst hji;rw [getD_set_eq (by omega)]
    · rw [getD_set_ne (Ne.symm hji)];exact hs j (by omega)
  · have hz:l=p.zip q:=by
      refine List.ext_getElem (by simp [hl,hpq]) fun j h1 h2=>?_
      have h3:=hs j (by omega)
      rw [getD_eq h1,getD_eq (by omega),getD_eq (by omega)] at h3
      rw [h3];simp
    refine Or.inl (cq (canonP_fn l (by omega)) (And.intro rfl trivial) ?_)
    refine And.intro ?_ trivial
    refine And.intro rfl ?_
    rw [hz]
end Go.Proofs.YtjabhmhhhlcopaaGreatDoor
end
section
namespace Go.Proofs.YtjabhmhhhlcopaaGreatDoor
open Go Go.AM
set_option maxRecDepth 100000
def setB (n:Nat) (f:Nat→Bool):List Bool:=(List.range n).map f
theorem setB_len (n:Nat) (f:Nat→Bool):(setB n f).length=n:=by simp [setB]
theorem setB_get {n:Nat} {f:Nat→Bool} {x:Nat} (hx:x<n):(setB n f).getD x false=f x:=by
  unfold setB
  rw [List.getD,List.getElem?_map,List.getElem?_range hx];rfl
theorem setB_of {n:Nat} {f:Nat→Bool} {r:List Bool} (hl:r.length=n) (h:∀x,x<n→r.getD x false=f x):r=setB n f:=by
  refine List.ext_getElem (by rw [hl,setB_len]) fun j h1 h2=>?_
  rw [←getD_eq (d:=false) h1,←getD_eq (d:=false) h2,h j (by omega),setB_get (by omega)]
theorem rep_false (n x:Nat):(List.replicate n false).getD x false=false:=by
  simp only [List.getD,List.getElem?_replicate];split<;>rfl
end Go.Proofs.YtjabhmhhhlcopaaGreatDoor
end
section
namespace Go.Proofs.YtjabhmhhhlcopaaGreatDoor
open Go Go.AM
set_option maxRecDepth 100000
set_option maxHeartbeats 4000000 in
theorem rshape_k (t:List (List Int)):fnK TY SP Tryz.f219 [.ro (.rows .i64 t)] (.int .i64 (shapeV t)):=shape_k t
theorem rshape_fn (t:List (List Int)):QF 219 [.ro (.rows .i64 t)] (.int .i64 (shapeV t)):=mkQ Tryz.func219 (by decide+kernel) rfl (Nat.le_of_ble_eq_true rfl) fun _=>rshape_k t
theorem assoc_k (t:List (List Int)):fnEK TY SP Tryz.f174 [.ro (.rows .i64 t)] (fun x:Int × Int × Int=>.tup [.int .i64 x.1,.int .i64 x.2.1,.int .i64 x.2.2,.int .i64 (validV t)]) (fun _=>True):=by
  refine Or.inl (cq (rshape_fn t) (And.intro rfl trivial) ?_)
  refine And.intro (fun h1=>?_) (fun h1=>?_)
  · refine Exists.intro (0,0,0) (And.intro trivial ⟨rfl,rfl,rfl,?_,trivial⟩)
    show shapeV t=validV t
    unfold validV;rw [if_pos h1]
  have hs:=shape_zero.1 h1
  have hpos:=hs.pos
  have hmost:=hs.most
  refine Exists.intro []<|lp (X:=Nat) (fun x=>[(17,.int .i64 x)]) (fun _=>[]) (fun x=>x≤t.length∧∀x' y z,x'<x→y<t.length→z<t.length→en t (en t x' y) z=en t x' (en t y z)) (fun x=>t.length - x) 0 ⟨Nat.zero_le _,by omega⟩ ⟨⟨rfl,trivial⟩,trivial⟩ ?_
  intro x hx
  refine And.intro (fun h2=>?_) (fun h2=>?_)
  · refine Exists.intro []<|lp (X:=Nat) (fun y=>[(22,.int .i64 y)]) (fun _=>[]) (fun y=>y≤t.length∧∀y' z,y'<y→z<t.length→en t (en t x y') z=en t x (en t y' z)) (fun y=>t.length - y) 0 ⟨Nat.zero_le _,by omega⟩ ⟨⟨rfl,trivial⟩,trivial⟩ ?_
    intro y hy
    refine And.intro (fun h3=>?_) (fun h3=>?_)
    · refine Exists.intro []<|lp (X:=Nat) (fun z=>[(27,.int .i64 z)]) (fun _=>[]) (fun z=>z≤t.length∧∀z',z'<z→en t (en t x y) z'=en t x (en t y z')) (fun z=>t.length - z) 0 ⟨Nat.zero_le _,by omega⟩ ⟨⟨rfl,trivial⟩,trivial⟩ ?_
      intro z hz
      refine And.intro (fun h4=>?_) (fun h4=>?_)
      · have hxl:x<t.length:=by omega
        have hyl:y<t.length:=by omega
        have hzl:z<t.length:=by omega
        have a1:=hs.ent hxl hyl
        have a2:=hs.ent a1.2 hzl
        have a3:=hs.ent hyl hzl
        have a4:=hs.ent hxl a3.2
        have l1:=hs.len hxl
        have l2:=hs.len hyl
        have l3:=hs.len a1.2
        refine Or.inl<|Exists.intro [false,false,false,false,false,false,false,false,false,false,false,false,false,false,false,false,false,false,false,false,false,false,false,false,false,false,false] (And.intro (by decide+kernel) ?_)
        refine And.intro (by omega) ?_
        refine And.intro (by simp only [Int.toNat_natCast];omega) ?_
        refine And.intro (by simp only [Int.toNat_natCast];omega) ?_
        refine And.intro (show 0≤(z:Int)∧(z:Int)<((t.getD (en t x y) []).length:Int) by omega) ?_
        refine And.intro (by omega) ?_
        refine And.intro (by omega) ?_
        refine And.intro (by simp only [Int.toNat_natCast];omega) ?_
        refine And.intro (by simp only [Int.toNat_natCast];omega) ?_
        refine And.intro (fun h5=>?_) (fun h5=>?_)
        · have h5:(t.getD (en t x y) []).getD z 0≠(t.getD x []).getD (en t y z) 0:=h5
          rw [a2.1,a4.1] at h5
          refine Exists.intro ((x:Int),(y:Int),(z:Int)) (And.intro trivial ⟨rfl,rfl,rfl,?_,trivial⟩)
          show (5:Int)=validV t
          unfold validV
          rw [if_neg (by omega),if_neg]
          intro ha
          exact h5 (congrArg _ (ha y hyl x z hxl hzl))
        · have h5:(t.getD (en t x y) []).getD z 0=(t.getD x []).getD (en t y z) 0:=h5
          rw [a2.1,a4.1] at h5
          refine And.intro (by omega) ?_
          refine nx (z+1) ⟨by omega,fun z' hz'=>?_⟩ (show t.length - (z+1)<t.length - z by omega) ⟨⟨rfl,trivial⟩,trivial⟩
          by_cases hzz:z'<z
          · exact hz.2 z' hzz
          · have:z'=z:=by omega
            rw [this];exact_mod_cast h5
      · refine And.intro (by omega) ?_
        refine nx (y+1) ⟨by omega,fun y' z hy' hz'=>?_⟩ (show t.length - (y+1)<t.length - y by omega) ⟨⟨rfl,trivial⟩,trivial⟩
        by_cases hyy:y'<y
        · exact hy.2 y' z hyy hz'
        · have:y'=y:=by omega
          rw [this];exact hz.2 z (by omega)
    · refine And.intro (by omega) ?_
      refine nx (x+1) ⟨by omega,fun x' y z hx' hy' hz'=>?_⟩ (show t.length - (x+1)<t.length - x by omega) ⟨⟨rfl,trivial⟩,trivial⟩
      by_cases hxx:x'<x
      · exact hx.2 x' y z hxx hy' hz'
      · have:x'=x:=by omega
        rw [this];exact hy.2 y z (by omega) hz'
  · refine Exists.intro (0,0,0) (And.intro trivial ⟨rfl,rfl,rfl,?_,trivial⟩)
    show 0=validV t
    symm
    rw [valid_zero]
    exact ⟨hs,fun g hg x y hx' hy'=>hx.2 x g y (by omega) hg hy'⟩
theorem id_step {t:List (List Int)} {k j:Nat} {b:Bool} (h:b=true↔∀x,x<j→en t k x=x∧en t x k=x) (hb:b=true) (h1:(t.getD k []).getD j 0=(j:Int)) (e1:(t.getD k []).getD j 0=(en t k j:Int)) (e2:(t.getD j []).getD k 0=(en t j k:Int)):
    decide ((t.getD j []).getD k 0=(j:Int))=true↔∀x,x<j+1→en t k x=x∧en t x k=x:=by
  rw [decide_eq_true_iff]
  constructor
  · intro h2 x hx
    by_cases hxj:x<j
    · exact h.1 hb x hxj
    · have:x=j:=by omega
      rw [this];exact ⟨by omega,by omega⟩
  · intro h2
    have:=h2 j (by omega)
    omega
theorem id_stop {t:List (List Int)} {k j:Nat} (e1:(t.getD k []).getD j 0=(en t k j:Int)) (h1:¬(t.getD k []).getD j 0=(j:Int)):
    false=true↔∀x,x<j+1→en t k x=x∧en t x k=x:=
  ⟨fun h=>(by cases h),fun h=>(by have:=h j (by omega);omega)⟩
theorem id_past {t:List (List Int)} {k j:Nat} {b:Bool} (h:b=true↔∀x,x<j→en t k x=x∧en t x k=x) (hb:b=false):
    false=true↔∀x,x<j+1→en t k x=x∧en t x k=x:=
  ⟨fun h=>(by cases h),fun h2=>(by rw [←hb];exact h.2 fun x hx=>h2 x (by omega))⟩
theorem gid_fn (t:List (List Int)) (hs:Sh t):QF 206 [.ro (.rows .i64 t)] (.int .i64 (idV t)):=mkQ Tryz.func206 (by decide+kernel) rfl (Nat.le_of_ble_eq_true rfl) fun _=>by
  have hpos:=hs.pos
  have hmost:=hs.most
  refine Exists.intro []<|lp (X:=Nat) (fun k=>[(9,.int .i64 k)]) (fun _=>[]) (fun k=>k≤t.length∧∀j,j<k→¬Neutral t j) (fun k=>t.length - k) 0 ⟨Nat.zero_le _,by omega⟩ ⟨⟨rfl,trivial⟩,trivial⟩ ?_
  intro k hk
  refine And.intro (fun h1=>?_) (fun h1=>?_)
  · refine And.intro (by omega) ?_
    have hkl:k<t.length:=by omega
    refine Exists.intro []<|lp2 (fun (j:Nat) (b:Bool)=>[(16,.int .i64 j),(5,.bool (.v b))]) (fun _ _=>[]) (fun j b=>j≤t.length∧(b=true↔∀x,x<j→en t k x=x∧en t x k=x)) (fun j _=>t.length - j) 0 true ⟨Nat.zero_le _,by simp⟩ ⟨⟨rfl,rfl,trivial⟩,trivial⟩ ?_
    intro j b hj
    refine And.intro (fun h2=>?_) (fun h2=>?_)
    · have hjl:j<t.length:=by omega
      have a1:=hs.ent hkl hjl
      have a2:=hs.ent hjl hkl
      have l1:=hs.len hkl
      have l2:=hs.len hjl
      refine And.intro (fun h3=>?_) (fun h3=>?_)
      · refine And.intro (by simp only [Int.toNat_natCast];omega) ?_
        refine And.intro (fun h4=>?_) (fun h4=>?_)
        · refine And.intro (by omega) ?_
          refine And.intro (by simp only [Int.toNat_natCast];omega) ?_
          refine And.intro (by omega) ?_
          refine nx (j+1,decide ((t.getD j []).getD k 0=(j:Int))) ⟨by omega,?_⟩ (show t.length - (j+1)<t.length - j by omega) ⟨⟨rfl,rfl,trivial⟩,trivial⟩
          exact id_step hj.2 h3 (by simpa using h4) a1.1 a2.1
        · refine And.intro (by omega) ?_
          refine nx (j+1,false) ⟨by omega,?_⟩ (show t.length - (j+1)<t.length - j by omega) ⟨⟨rfl,rfl,trivial⟩,trivial⟩
          exact id_stop a1.1 (by simpa using h4)
      · refine And.intro (by omega) ?_
        refine nx (j+1,false) ⟨by omega,?_⟩ (show t.length - (j+1)<t.length - j by omega) ⟨⟨rfl,rfl,trivial⟩,trivial⟩
        exact id_past hj.2 h3
    · refine And.intro (fun h3=>?_) (fun h3=>?_)
      · refine And.intro (show (k:Int)=idV t from ?_) trivial
        rw [id_of hkl (fun x hx=>hj.2.1 h3 x (by omega))]
      · refine And.intro (by omega) ?_
        refine nx (k+1) ⟨by omega,fun j' hj'=>?_⟩ (show t.length - (k+1)<t.length - k by omega) ⟨⟨rfl,trivial⟩,trivial⟩
        by_cases hjk:j'<k
        · exact hk.2 j' hjk
        · have:j'=k:=by omega
          rw [this]
          intro hn
          have:=hj.2.2 (fun x hx=>hn x (by omega))
          rw [h3] at this;cases this
  · refine And.intro (show (-1:Int)=idV t from ?_) trivial
    rw [id_none (fun e he=>hk.2 e (by omega))]
noncomputable def idxV (l:List Int) (v:Int):Int:=open Classical in if h:∃i:Nat,i<l.length∧l.getD i 0=v∧∀j,j<i→l.getD j 0≠v then ((Classical.choose h:Nat):Int) else -1
theorem idx_of {l:List Int} {v:Int} {i:Nat} (hi:i<l.length) (h:l.getD i 0=v) (hj:∀j,j<i→l.getD j 0≠v):idxV l v=i:=by
  have hx:∃i:Nat,i<l.length∧l.getD i 0=v∧∀j,j<i→l.getD j 0≠v:=⟨i,hi,h,hj⟩
  unfold idxV
  rw [dif_pos hx]
  have:=Classical.choose_spec hx
  rcases Nat.lt_trichotomy (Classical.choose hx) i with h1|h1|h1
  · exact absurd this.2.1 (hj _ h1)
  · rw [h1]
  · exact absurd h (this.2.2 _ h1)
theorem idx_none {l:List Int} {v:Int} (hj:∀j,j<l.length→l.getD j 0≠v):idxV l v= -1:=by
  unfold idxV
  rw [dif_neg]
  rintro ⟨i,hi,h,_⟩
  exact hj i hi h
theorem idx_cases (l:List Int) (v:Int):(∃i:Nat,i<l.length∧l.getD i 0=v∧idxV l v=i)∨((∀j,j<l.length→l.getD j 0≠v)∧idxV l v= -1):=by
  by_cases h:∃i:Nat,i<l.length∧l.getD i 0=v
  · have key:∀n i:Nat,i<n→i<l.length→l.getD i 0=v→∃i:Nat,i<l.length∧l.getD i 0=v∧∀j,j<i→l.getD j 0≠v:=by
      intro n
      induction n with
      |zero=>intro i hi;omega
      |succ n ih=>
       intro i hi hl hv
       by_cases hj:∃j,j<i∧l.getD j 0=v
       · obtain ⟨j,h1,h2⟩:=hj;exact ih j (by omega) (by omega) h2
       · exact ⟨i,hl,hv,fun j hji he=>hj ⟨j,hji,he⟩⟩
    obtain ⟨i,hi,hv⟩:=h
    obtain ⟨i,h1,h2,h3⟩:=key (i+1) i (by omega) hi hv
    exact .inl ⟨i,h1,h2,idx_of h1 h2 h3⟩
  · have h':∀j,j<l.length→l.getD j 0≠v:=fun j hj he=>h ⟨j,hj,he⟩
    exact .inr ⟨h',idx_none h'⟩
theorem index_k (l:List Int) (v:Int) (hl:l.length≤140737488355328):fnK TY SP Tryz.f207 [.ro (.ints .i64 l),.int .i64 v] (.int .i64 (idxV l v)):=by
  refine Exists.intro []<|lp (X:=Nat) (fun k=>[(8,.int .i64 k)]) (fun _=>[]) (fun k=>k≤l.length∧∀j,j<k→l.getD j 0≠v) (fun k=>l.length - k) 0 ⟨Nat.zero_le _,by omega⟩ ⟨⟨rfl,trivial⟩,trivial⟩ ?_
  intro k hk
  refine And.intro (fun h1=>?_) (fun h1=>?_)
  · refine And.intro (by omega) ?_
    refine And.intro (fun h2=>?_) (fun h2=>?_)
    · refine And.intro (show (k:Int)=idxV l v from ?_) trivial
      exact (idx_of (by omega) (by simpa using h2.symm) hk.2).symm
    · refine And.intro (by omega) ?_
      refine nx (k+1) ⟨by omega,fun j hj=>?_⟩ (show l.length - (k+1)<l.length - k by omega) ⟨⟨rfl,trivial⟩,trivial⟩
      by_cases hjk:j<k
      · exact hk.2 j hjk
      · have:j=k:=by omega
        rw [this];exact fun he=>h2 (by simpa using he.symm)
  · refine And.intro (show -1=idxV l v from ?_) trivial
    exact (idx_none (fun j hj=>hk.2 j (by omega))).symm
theorem index_fn (l:List Int) (v:Int):QF 207 [.ro (.ints .i64 l),.int .i64 v] (.int .i64 (idxV l v)):=mkQ Tryz.func207 (by decide+kernel) rfl (Nat.le_of_ble_eq_true rfl) fun hf=>index_k l v hf.1.1
theorem grp_no_id {t:List (List Int)} (h:idV t<0):false=grpB t:=by
  symm
  rw [grpB_false]
  rintro ⟨_,e,he,hn,_⟩
  rw [id_of he hn] at h
  omega
theorem grp_no_inv {t:List (List Int)} {e x:Nat} (_hs:Sh t) (he:idV t=e) (hx:x<t.length) (h:∀y,y<t.length→¬Inv t e x y):false=grpB t:=by
  symm
  rw [grpB_false]
  rintro ⟨_,e',he',hn,hi⟩
  rw [id_of he' hn] at he
  have:e'=e:=by omega
  subst this
  obtain ⟨y,hy,hyi⟩:=hi x hx
  exact h y hy hyi
theorem grp_yes {t:List (List Int)} {e:Nat} (hs:Semi t) (he:idV t=e) (h:∀x,x<t.length→∃y,y<t.length∧Inv t e x y):true=grpB t:=by
  symm
  rw [grpB_true]
  rcases id_cases t with ⟨e',he',hn,h'⟩|⟨_,h'⟩
  · have:e'=e:=by omega
    subst this
    exact ⟨hs,e',he',hn,h⟩
  · omega
theorem build_fn (t:List (List Int)) (hs:Semi t):QF 151 [.ro (.rows .i64 t)] (.tup [.agg [.any,.any,.any],.bool (.v (grpB t))]):=mkQ Tryz.func151 (by decide+kernel) rfl (Nat.le_of_ble_eq_true rfl) fun _=>by
  have hpos:=hs.pos
  have hmost:=hs.most
  refine Or.inl (cq (gid_fn t hs.toSh) (And.intro rfl trivial) ?_)
  refine And.intro (fun h1=>?_) (fun h1=>?_)
  · exact And.intro ⟨trivial,trivial,trivial,trivial⟩ ⟨grp_no_id h1,trivial⟩
  have he:idV t=((idV t).toNat:Int):=by omega
  refine And.intro (by omega) ?_
  refine And.intro (by omega) ?_
  refine Exists.intro []<|lp2 (fun (k:Nat) (iv:List Int)=>[(19,.int .i64 k)]) (fun _ iv=>[(16,.vec 0 (.ints .i64 iv) [])]) (fun k iv=>k≤t.length∧iv.length=t.length∧∀x,x<k→∃y,y<t.length∧Inv t (idV t).toNat x y) (fun k _=>t.length - k) 0 (List.replicate t.length 0) ⟨Nat.zero_le _,by simp,by omega⟩ (by repeat' first|refine And.intro ?_ ?_|exact True.intro|(show (_:Int)=(_:Int);omega)|omega|exact rfl|(simp only [RO.len];omega)) ?_
  intro k iv hk
  refine And.intro (fun h3=>?_) (fun h3=>?_)
  · have hkl:k<t.length:=by omega
    have l1:=hs.len hkl
    refine And.intro (by omega) ?_
    refine Or.inl (cq (index_fn (t.getD k []) (idV t)) (And.intro rfl (And.intro rfl trivial)) ?_)
    have hcase:=idx_cases (t.getD k []) (idV t)
    refine And.intro (fun h4=>?_) (fun h4=>?_)
    · refine And.intro ⟨trivial,trivial,trivial,trivial⟩ ⟨grp_no_inv hs.toSh he hkl fun y hy hi=>?_,trivial⟩
      have a1:=hs.ent hkl hy
      rcases hcase with ⟨i,_,_,h⟩|⟨h,_⟩
      · omega
      · exact h y (by omega) (by rw [a1.1,hi.1];omega)
    have hy:(idxV (t.getD k []) (idV t)).toNat<t.length∧en t k (idxV (t.getD k []) (idV t)).toNat=(idV t).toNat:=by
      rcases hcase with ⟨i,h5,h6,h7⟩|⟨_,h⟩
      · have a1:=hs.ent hkl (y:=i) (by omega)
        rw [h7];simp only [Int.toNat_natCast]
        exact ⟨by omega,by omega⟩
      · omega
    have l2:=hs.len hy.1
    have a2:=hs.ent hy.1 hkl
    refine And.intro (by omega) ?_
    refine And.intro (by omega) ?_
    refine And.intro (fun h5=>?_) (fun h5=>?_)
    · refine And.intro ⟨trivial,trivial,trivial,trivial⟩ ⟨?_,trivial⟩
      show false=grpB t
      symm
      rw [grpB_false]
      rintro ⟨_,e',he',hn,hi⟩
      have h6:=id_of he' hn
      obtain ⟨z,hz,hzi⟩:=hi k hkl
      have:(idV t).toNat=e':=by omega
      have h7:=inv_right hs hn hkl hy.1 hz hzi (by omega)
      have h8:=hzi.2
      rw [←h7] at h8
      refine h5 ?_
      show (t.getD (idxV (t.getD k []) (idV t)).toNat []).getD k 0=idV t
      omega
    · have h5:(t.getD (idxV (t.getD k []) (idV t)).toNat []).getD k 0=idV t:=h5
      refine And.intro (by omega) ?_
      refine And.intro (by omega) ?_
      refine And.intro (by omega) ?_
      refine nx (k+1,iv.set k (idxV (t.getD k []) (idV t))) ⟨by omega,by rw [List.length_set];exact hk.2.1,fun x hx=>?_⟩ (show t.length - (k+1)<t.length - k by omega) (by repeat' first|refine And.intro ?_ ?_|exact True.intro|(show (_:Int)=(_:Int);omega)|omega|exact rfl|(simp only [RO.len];omega))
      by_cases hxk:x<k
      · exact hk.2.2 x hxk
      · have:x=k:=by omega
        rw [this]
        exact ⟨_,hy.1,hy.2,by omega⟩
  · exact And.intro ⟨trivial,trivial,trivial,trivial⟩ ⟨grp_yes hs he fun x hx=>hk.2.2 x (by omega),trivial⟩
theorem open_fn (t:List (List Int)):QF 81 [.ro (.rows .i64 t)] (.tup [.agg [.any,.any,.any],.bool (.v (grpB t))]):=mkQ Tryz.func81 (by decide+kernel) rfl (Nat.le_of_ble_eq_true rfl) fun _=>by
  refine Or.inl (cq (valid_fn t) (And.intro rfl trivial) ?_)
  refine And.intro (fun h1=>?_) (fun h1=>?_)
  · refine And.intro ⟨trivial,trivial,trivial,trivial⟩ ⟨?_,trivial⟩
    show false=grpB t
    symm
    rw [grpB_false]
    intro hg
    exact h1 (valid_zero.2 hg.toSemi)
  · refine Or.inl (cq (build_fn t (valid_zero.1 h1)) (And.intro rfl trivial) ?_)
    exact And.intro ⟨trivial,trivial,trivial,trivial⟩ ⟨rfl,trivial⟩
theorem isgroup_fn (t:List (List Int)):QF 26 [.ro (.rows .i64 t)] (.bool (.v (grpB t))):=mkQ Tryz.func26 (by decide+kernel) rfl (Nat.le_of_ble_eq_true rfl) fun _=>by
  refine Or.inl (cq (open_fn t) (And.intro rfl trivial) ?_)
  exact And.intro rfl trivial
end Go.Proofs.YtjabhmhhhlcopaaGreatDoor
end
section
namespace Go.Proofs.YtjabhmhhhlcopaaGreatDoor
open Go Go.AM
set_option maxRecDepth 100000
def rowsB (n:Nat) (e:Nat→Nat→Bool):List (List Bool):=(List.range n).map fun x=>setB n (e x)
end Go.Proofs.YtjabhmhhhlcopaaGreatDoor
end
section
namespace Go.Proofs.YtjabhmhhhlcopaaGreatDoor
open Go Go.AM
set_option maxRecDepth 100000
def memTo (l:List Bool) (k:Nat):List Int:=((List.range k).filter fun i=>l.getD i false).map fun i:Nat=>(i:Int)
def memV (l:List Bool):List Int:=memTo l l.length
theorem memTo_yes {l:List Bool} {k:Nat} (h:l.getD k false=true):memTo l (k+1)=memTo l k++[(k:Int)]:=by
  unfold memTo;rw [List.range_succ,List.filter_append,List.map_append,List.filter_cons_of_pos (p:=fun i=>l.getD i false) h];rfl
theorem memTo_no {l:List Bool} {k:Nat} (h:l.getD k false=false):memTo l (k+1)=memTo l k:=by
  unfold memTo;rw [List.range_succ,List.filter_append,List.map_append,List.filter_cons_of_neg (p:=fun i=>l.getD i false) (by rw [h];decide)];exact List.append_nil _
theorem memTo_len {l:List Bool} {k:Nat}:(memTo l k).length≤k:=by
  unfold memTo;rw [List.length_map]
  exact Nat.le_trans (List.length_filter_le _ _) (by simp)
end Go.Proofs.YtjabhmhhhlcopaaGreatDoor
end
