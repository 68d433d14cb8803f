import Derived.Shelf.Sort.Plain
import Derived.Shelf.Slices.CompactI
import Derived.Test.YtjabhmhhhlcopaaGreatDoorLay
import Derived.Test.YtjabhmhhhlcopaaGreatDoorBase
import Derived.Test.YtjabhmhhhlcopaaGreatDoorTopKLaw
import Derived.Test.YtjabhmhhhlcopaaGreatDoorOrd
import Derived.Test.YtjabhmhhhlcopaaGreatDoorGreen
import Derived.Test.YtjabhmhhhlcopaaGreatDoorCooLaw3
section
namespace Go.Proofs.YtjabhmhhhlcopaaGreatDoor
open Go Go.AM Go.Sort Go.Lib Go.RowKit
def sortWd {α:Type} [Inhabited α] (enc:α→Value) (w:World) (b m:Nat) (dk:Array α) (os:Array Obj):World:=grow (putRow enc (Sort.ahead w m) b 0 dk) os
section
variable {w:World} {M:Msk} {b:Nat} {cs:Array Value} {ty:TypeId} (hb:w.heap[b]? =some (.cells cs ty (0,0)))
include hb
theorem sI_lt:b<w.heap.size:=by
  rcases Nat.lt_or_ge b w.heap.size with h|h
  · exact h
  · rw [Array.getElem?_eq_none h] at hb;cases hb
theorem sI_block {α:Type} [Inhabited α] (enc:α→Value) (m:Nat) (dk:Array α) (os:Array Obj):(sortWd enc w b m dk os).heap[b]? =some (.cells (putCells enc 0 dk cs) ty (0,0)):=by
  have hlt:=sI_lt hb
  show ((putRow enc (Sort.ahead w m) b 0 dk).heap++os)[b]? =_
  rw [Array.getElem?_append_left (by rw [size_putRow];exact hlt)]
  show ((w.heap.modify b (onCells (putCells enc 0 dk))))[b]? =_
  rw [Array.getElem?_modify,if_pos rfl,hb];rfl
omit hb in
theorem sI_other {α:Type} [Inhabited α] (enc:α→Value) (m:Nat) (dk:Array α) (os:Array Obj) {b':Nat} (hne:b'≠b) (hlt:b'<w.heap.size):(sortWd enc w b m dk os).heap[b']? =w.heap[b']? :=by
  show ((putRow enc (Sort.ahead w m) b 0 dk).heap++os)[b']? =_
  rw [Array.getElem?_append_left (by rw [size_putRow];exact hlt)]
  show ((w.heap.modify b (onCells (putCells enc 0 dk))))[b']? =_
  rw [Array.getElem?_modify,if_neg (Ne.symm hne)]
omit hb in
theorem sI_size {α:Type} [Inhabited α] (enc:α→Value) (m:Nat) (dk:Array α) (os:Array Obj):(sortWd enc w b m dk os).heap.size=w.heap.size+os.size:=by
  show ((putRow enc (Sort.ahead w m) b 0 dk).heap++os).size=_
  rw [Array.size_append,size_putRow];rfl
omit hb in
theorem sIp_size {α:Type} [Inhabited α] (enc:α→Value) (d:Array α):(putCells enc 0 d cs).size=cs.size:=by simp [putCells]
omit hb in
theorem sIp_at {α:Type} [Inhabited α] (enc:α→Value) (d:Array α) {q:Nat} (hq:q<d.size) (hc:q<cs.size):(putCells enc 0 d cs)[q]? =some (enc d[q]!):=by
  simp [putCells,hq,hc]
theorem sI_stp {α:Type} [Inhabited α] (enc:α→Value) (m:Nat) (dk:Array α) (os:Array Obj) (hM:∀off,M b off↔off<cs.size):Stp (fun b' off=>b'=b∧M b' off) w (sortWd enc w b m dk os):=by
  refine ⟨by rw [sI_size];omega,fun b' hb'=>?_,⟨⟨rfl,rfl⟩,rfl,?_⟩⟩
  · by_cases e:b'=b
    · subst e
      refine .inr (.inl ⟨cs,_,ty,hb,sI_block hb enc m dk os,sIp_size enc dk,fun off hn=>?_⟩)
      have:¬off<cs.size:=fun h=>hn ⟨rfl,(hM off).2 h⟩
      rw [Array.getElem?_eq_none (by rw [sIp_size];omega),Array.getElem?_eq_none (by omega)]
    · exact .inl (sI_other enc m dk os e hb')
  · show w.drawn≤w.drawn+m
    omega
end
theorem sortI_m (l:List Int) (hl:0<l.length):
    MF 64 [.vec 1000] [(1000,.vec 0 (.ints .i64 l) [])] (.tup []) [(1000,.vec 0 (.ints .i64 (srtI l)) [])]:=by
  refine ⟨⟨_,Tryz.func64,by decide+kernel,rfl⟩,fun ρ M w vs hlw st hv=>?_⟩
  obtain ⟨⟨o,ho,hlen,hsz,hlb,_,hblk⟩,_⟩:=st.blk 1000 _ rfl
  have hlen:o.len=l.length:=hlen
  have hsz:o.sz=1:=hsz
  cases hob:o.blk with
  |none=>
   simp only [hob] at hblk
   have:l.length=0:=hblk.1
   omega
  |some b=>
  simp only [hob] at hblk
  obtain ⟨hcap,cs,ty,hb,hcs,hM,hcell0⟩:=hblk
  have hM:∀off,M b off↔off<cs.size:=fun off=>by rw [hM off];omega
  have hcell:∀q,q<l.length→cs[q]? =some (.int .i64 (l.getD q 0)):=fun q hq=>by
    obtain ⟨v,h1,h2⟩:=hcell0 q (by simpa [RO.cells,RO.len,RO.sz] using hq)
    have h2:v= .int .i64 (l.getD q 0):=h2.1
    rw [h1,h2]
  have hcsl:l.length≤cs.size:=by rw [hcs,hsz];omega
  match vs,hv with
  |[v0],⟨h0,_⟩=>
  obtain ⟨o',ho',rfl⟩:=h0
  rw [ho] at ho';cases ho'
  have hlt:=sI_lt hb
  have hds:l.toArray.size=l.length:=by simp
  have hH:Holds (Value.int .i64) w b 0 l.toArray:=fun j hj=>by
    rw [hds] at hj
    refine ⟨?_,?_⟩
    · rw [Nat.zero_add,Go.AM.cell_of_heap hb]
      show cs[j]? =some (.int .i64 l.toArray[j]!)
      rw [hcell j hj,getD_eq hj];simp [hj]
    · simp [World.frozen?,hb]
  have hcall:=Any.slices_Sort_int sortI b 0 o.cap l w hH hlt (by have:l.length≤140737488355328:=hlb;omega)
  have hv0:o.val= .slice (some ⟨b,0,none⟩) l.length o.cap:=by rw [Sl.val,hob,hlen];rfl
  rw [hv0]
  refine Calls.mono hcall fun e w' ⟨he,n,os,hw⟩=>?_
  have hw:w'=sortWd (Value.int .i64) w b n (srtI l).toArray os:=hw
  subst hw
  refine ⟨_,ρ,M,he,?_,⟨#[],rfl,trivial⟩⟩
  have hstp:=sI_stp hb (Value.int .i64) n (srtI l).toArray os hM
  refine ⟨fun k=>by rw [st.dom k,find_cons,find_cons];split<;>rfl,fun k B hB=>?_,st.inj,fun b' off hm=>by rw [sI_size];have:=st.mlt b' off hm;omega,?_,st.sub,st.old,st.fresh,st.pin⟩
  · have hk1:k=1000∧B= .vec 0 (.ints .i64 (srtI l)) []:=by
      rw [find_cons] at hB
      split at hB
      · rename_i e;cases hB;exact ⟨e.symm,rfl⟩
      · cases hB
    obtain ⟨rfl,rfl⟩:=hk1
    refine ⟨⟨o,ho,by rw [hlen];exact (srtI_len l).symm,hsz,by show (srtI l).length≤LB;rw [srtI_len];exact hlb,Nat.zero_le _,?_⟩,.inl rfl⟩
    simp only [hob]
    refine ⟨hcap,putCells (Value.int .i64) 0 (srtI l).toArray cs,ty,sI_block hb (Value.int .i64) n (srtI l).toArray os,by rw [sIp_size];exact hcs,fun off=>by rw [sIp_size,hM off];omega,fun q hq=>?_⟩
    have hq:q<l.length:=by simpa [RO.cells,RO.len,RO.sz,srtI_len] using hq
    refine ⟨.int .i64 ((srtI l).toArray[q]!),sIp_at (Value.int .i64) (srtI l).toArray (by simp [srtI_len];omega) (by omega),?_⟩
    have hq':q<(srtI l).length:=by rw [srtI_len];exact hq
    have e1:(srtI l).toArray[q]! =(srtI l).getD q 0:=by rw [getD_eq hq'];simp [hq']
    rw [e1]
    obtain ⟨i,hi,he⟩:=mem_getD 0 ((srtI_perm l).mem_iff.1 (getD_mem (d:=0) hq'))
    obtain ⟨v,_,h2⟩:=hcell0 i (by simpa [RO.cells,RO.len,RO.sz] using hi)
    show Value.int .i64 ((srtI l).getD q 0)=Value.int .i64 ((srtI l).getD q 0)∧inK .i64 ((srtI l).getD q 0)
    rw [←he]
    exact ⟨rfl,h2.2⟩
  · refine hstp.weaken fun b' off he=>?_
    obtain ⟨rfl,hm⟩:=he
    exact ⟨⟨1000,by simp [hasB,ho,Own.has,hob]⟩,hm⟩
theorem compactI_m (l:List Int) (hl:0<l.length):
    MF 65 [.vec 1] [(1,.vec 0 (.ints .i64 l) [])] (.vec 1) [(1,.vec 0 (.ints .i64 (cpI l)) [])]:=by
  refine ⟨⟨_,Tryz.func65,by decide+kernel,rfl⟩,fun ρ M w vs hlw st hv=>?_⟩
  obtain ⟨⟨o,ho,hlen,hsz,hlb,_,hblk⟩,_⟩:=st.blk 1 _ rfl
  have hlen:o.len=l.length:=hlen
  have hsz:o.sz=1:=hsz
  have hdom:∀k,k≠1→ρ k=none:=fun k hk=>by
    have:=st.dom k
    rw [find_cons,if_neg (Ne.symm hk)] at this
    cases hr:ρ k with
    |none=>rfl
    |some _=>rw [hr] at this;cases this
  cases hob:o.blk with
  |none=>
   simp only [hob] at hblk
   have:l.length=0:=hblk.1
   omega
  |some b=>
  simp only [hob] at hblk
  obtain ⟨hcap,cs,ty,hb,hcs,hM,hcell0⟩:=hblk
  have hM:∀off,M b off↔off<cs.size:=fun off=>by rw [hM off];omega
  have hcell:∀q,q<l.length→cs[q]? =some (.int .i64 (l.getD q 0)):=fun q hq=>by
    obtain ⟨v,h1,h2⟩:=hcell0 q (by simpa [RO.cells,RO.len,RO.sz] using hq)
    have h2:v= .int .i64 (l.getD q 0):=h2.1
    rw [h1,h2]
  have hcsl:l.length≤cs.size:=by rw [hcs,hsz];omega
  match vs,hv with
  |[v0],⟨h0,_⟩=>
  obtain ⟨o',ho',rfl⟩:=h0
  rw [ho] at ho';cases ho'
  have hlt:=sI_lt hb
  have hds:l.toArray.size=l.length:=by simp
  have hH:Holds (Value.int .i64) w b 0 l.toArray:=fun j hj=>by
    rw [hds] at hj
    refine ⟨?_,?_⟩
    · rw [Nat.zero_add,Go.AM.cell_of_heap hb]
      show cs[j]? =some (.int .i64 l.toArray[j]!)
      rw [hcell j hj,getD_eq hj];simp [hj]
    · simp [World.frozen?,hb]
  have hcall:=Any.slices_Compact_int cpctI b 0 o.cap l w hH (by have:l.length≤140737488355328:=hlb;omega) (by omega)
  have hv0:o.val= .slice (some ⟨b,0,none⟩) l.length o.cap:=by rw [Sl.val,hob,hlen];rfl
  rw [hv0]
  refine Calls.mono hcall fun e w' ⟨he,n,hw⟩=>?_
  have hgrow:∀x:World,grow x #[]=x:=fun x=>by simp [grow]
  have hcl:=cpI_len l
  have hmem:=cpI_mem l
  have he:e= .returned (.slice (some ⟨b,0,none⟩) (cpI l).length o.cap):=he
  have hw:w'=putRow (Value.int .i64) (Sort.ahead w n) b 0 (cpI l++List.replicate (l.length - (cpI l).length) 0).toArray:=hw
  obtain ⟨A,hA⟩:∃A,A=cpI l++List.replicate (l.length - (cpI l).length) 0:=⟨_,rfl⟩
  rw [←hA] at hw
  have hall:A.length=l.length:=by rw [hA];simp;omega
  have hAq:∀q,q<(cpI l).length→A.getD q 0=(cpI l).getD q 0:=fun q hq=>by
    rw [hA,getD_eq hq,getD_eq (by rw [List.length_append];omega),List.getElem_append_left hq]
  clear hA
  obtain ⟨C,hC⟩:∃C,C=cpI l:=⟨_,rfl⟩
  rw [←hC] at hAq hmem hcl he ⊢
  clear hC
  have hw:w'=sortWd (Value.int .i64) w b n A.toArray #[]:=by unfold sortWd;rw [hgrow];exact hw
  subst hw
  have hstp:=sI_stp hb (Value.int .i64) n A.toArray #[] hM
  refine ⟨_,fun k=>if k=1 then some (.sl { o with len:=C.length }) else ρ k,M,he,?_,⟨{ o with len:=C.length },by simp [Own.sli],?_⟩⟩
  · have hhas:∀k b',hasB (fun k=>if k=1 then some (.sl { o with len:=C.length }) else ρ k) k b'→k=1∧b'=b:=fun k b' h=>by
      unfold hasB at h
      by_cases e:k=1
      · refine ⟨e,?_⟩
        simp only [e,if_true,Own.has,hob] at h
        exact (Option.some.inj h).symm
      · simp only [e,if_false,hdom k e] at h
    refine ⟨fun k=>?_,fun k B hB=>?_,fun k k' b' h1 h2=>by rw [(hhas k b' h1).1,(hhas k' b' h2).1],fun b' off hm=>by rw [sI_size];have:=st.mlt b' off hm;omega,?_,st.sub,st.old,fun k b' h=>.inr ⟨1,by rw [(hhas k b' h).2];simp [hasB,ho,Own.has,hob]⟩,fun k o2 hk h=>?_⟩
    · by_cases e:k=1
      · simp [e,find_cons]
      · simp only [e,if_false,find_cons];rw [if_neg (Ne.symm e),hdom k e];rfl
    · have hk1:k=1∧B= .vec 0 (.ints .i64 C) []:=by
        rw [find_cons] at hB
        split at hB
        · rename_i e;cases hB;exact ⟨e.symm,rfl⟩
        · cases hB
      obtain ⟨rfl,rfl⟩:=hk1
      refine ⟨⟨{ o with len:=C.length },by simp,rfl,hsz,by show C.length≤LB;exact Nat.le_trans hcl hlb,Nat.zero_le _,?_⟩,.inl rfl⟩
      simp only [hob]
      refine ⟨by omega,putCells (Value.int .i64) 0 A.toArray cs,ty,sI_block hb (Value.int .i64) n A.toArray #[],by rw [sIp_size];exact hcs,fun off=>by rw [sIp_size,hM off];omega,fun q hq=>?_⟩
      have hq:q<C.length:=by simpa [RO.cells,RO.len,RO.sz] using hq
      refine ⟨.int .i64 (A.toArray[q]!),sIp_at (Value.int .i64) A.toArray (by rw [List.size_toArray,hall];omega) (by omega),?_⟩
      have e1:A.toArray[q]! =C.getD q 0:=by
        rw [←hAq q hq,getD_eq (show q<A.length by omega),getElem!_pos A.toArray q (by rw [List.size_toArray,hall];omega)]
        simp
      rw [e1]
      obtain ⟨i,hi,he⟩:=mem_getD 0 (hmem _ (getD_mem (d:=0) hq))
      obtain ⟨v,_,h2⟩:=hcell0 i (by simpa [RO.cells,RO.len,RO.sz] using hi)
      show Value.int .i64 (C.getD q 0)=Value.int .i64 (C.getD q 0)∧inK .i64 (C.getD q 0)
      rw [←he]
      exact ⟨rfl,h2.2⟩
    · refine hstp.weaken fun b' off he=>?_
      obtain ⟨rfl,hm⟩:=he
      exact ⟨⟨1,by simp [hasB,ho,Own.has,hob]⟩,hm⟩
    · have e:k≠1:=fun e=>by subst e;cases hk
      simp only [e,if_false,hdom k e] at h
      cases h
  · simp [Sl.val,hob]
end Go.Proofs.YtjabhmhhhlcopaaGreatDoor
end
section
namespace Go.Proofs.YtjabhmhhhlcopaaGreatDoor
open Go Go.AM
set_option maxRecDepth 100000
noncomputable def openV (t:List (List Int)) (j:Int):Int:=if validV t=0 then 1 else validV t
theorem openV_ne (t:List (List Int)) (j:Int):openV t j≠0:=by
  unfold openV
  split
  · decide
  · assumption
abbrev openA (t:List (List Int)) (j:Nat):AV:=.agg [.ro (.ints .i64 (classR t)),.ro (.ints .i64 (classL t)),.ro (.ints .i64 (classJ t)),.ro (.ints .i64 (classH t)),.ro (.brows (belowL t)),.ro (.ints .i64 (elemsJ t j)),.ro (.bools (inJ t j)),.bool (.v (minJ t j))]
theorem copen_no (t:List (List Int)) (j:Int) (h:¬(validV t=0∧0≤j∧j<numJ t)):QF 62 [.ro (.rows .i64 t),.int .i64 j] (.tup [.agg [.nils,.nils,.nils,.nils,.nils,.nils,.nils,.bool (.lit false)],.int .i64 (openV t j)]):=mkQ Tryz.func62 (by decide+kernel) rfl (Nat.le_of_ble_eq_true rfl) fun _=>by
  have hbl:=belowL_len t
  refine Or.inl (cq (valid_fn t) (And.intro rfl trivial) ?_)
  refine And.intro (fun h1=>?_) (fun h1=>?_)
  · have e:openV t j=validV t:=by unfold openV;rw [if_neg h1]
    exact And.intro (And.intro trivial (And.intro trivial (And.intro trivial (And.intro trivial (And.intro trivial (And.intro trivial (And.intro trivial (And.intro rfl trivial)))))))) (And.intro e.symm trivial)
  have h1:validV t=0:=h1
  have hs:=valid_zero.1 h1
  have hmost:=hs.most
  have e:openV t j=1:=by unfold openV;rw [if_pos h1]
  refine Or.inl<|Exists.intro [false,false,false,false,false,false,false,true] (And.intro (by decide+kernel) ?_)
  refine cq (green_fn t hs) (And.intro rfl trivial) ?_
  refine And.intro (by omega) ?_
  refine And.intro (by omega) ?_
  refine And.intro (fun h2=>?_) (fun h2=>?_)
  · exact And.intro (And.intro trivial (And.intro trivial (And.intro trivial (And.intro trivial (And.intro trivial (And.intro trivial (And.intro trivial (And.intro rfl trivial)))))))) (And.intro e.symm trivial)
  refine And.intro (fun h3=>?_) (fun h3=>?_)
  · exact And.intro (And.intro trivial (And.intro trivial (And.intro trivial (And.intro trivial (And.intro trivial (And.intro trivial (And.intro trivial (And.intro rfl trivial)))))))) (And.intro e.symm trivial)
  · have h3:j<((belowL t).length:Int):=h3
    exact absurd ⟨h1,h2,by omega⟩ h
theorem elems_upTo {t:List (List Int)} {j:Nat} (hj:j<numJ t):elemsJ t j=upTo (classJ t) t.length j:=by
  rw [elemsJ_eq hj];rfl
theorem copen_fn (t:List (List Int)) (h:Semi t) (j:Nat) (hj:j<numJ t):QF 62 [.ro (.rows .i64 t),.int .i64 j] (.tup [openA t j,.int .i64 0]):=mkQ Tryz.func62 (by decide+kernel) rfl (Nat.le_of_ble_eq_true rfl) fun _=>by
  have hpos:=h.pos
  have hmost:=h.most
  have hbl:=belowL_len t
  have hjl:=classJ_len t
  have hle:=numJ_le t
  refine Or.inl (cq (valid_fn t) (And.intro rfl trivial) ?_)
  refine And.intro (fun h1=>absurd (valid_zero.2 h) h1) (fun h1=>?_)
  refine Or.inl<|Exists.intro [false,false,false,false,false,false,false,true] (And.intro (by decide+kernel) ?_)
  refine cq (green_fn t h) (And.intro rfl trivial) ?_
  refine And.intro (by omega) ?_
  refine And.intro (by omega) ?_
  refine And.intro (fun h2=>by have h2:(j:Int)<0:=h2;omega) (fun h2=>?_)
  refine And.intro (fun h3=>by have h3:((belowL t).length:Int)≤j:=h3;omega) (fun h3=>?_)
  refine Exists.intro []<|lp2 (fun (i:Nat) (_:List Bool)=>[(39,.int .i64 i)]) (fun i b=>[(51,.vec 0 (.ints .i64 (upTo (classJ t) i j)) []),(22,.vec 0 (.bools b) []),(7,.box [.ro (.ints .i64 (classR t)),.ro (.ints .i64 (classL t)),.ro (.ints .i64 (classJ t)),.ro (.ints .i64 (classH t)),.ro (.brows (belowL t)),.vec 51,.vec 22,.bool (.lit true)])])
    (fun i b=>i≤t.length∧b.length=t.length∧∀x,x<t.length→b.getD x false=(decide (x<i)&&decide ((classJ t).getD x 0=(j:Int)))) (fun i _=>t.length - i) 0 (List.replicate t.length false) ⟨Nat.zero_le _,by simp,fun x hx=>by rw [rep_false];simp⟩ (by repeat' first|refine And.intro ?_ ?_|exact True.intro|(show (_:Int)=(_:Int);omega)|omega|exact rfl|(simp only [RO.len];omega)) ?_
  rintro i b ⟨hi,hb,hs⟩
  have hul:=upTo_le (classJ t) i j
  refine And.intro (fun h4=>?_) (fun h4=>?_)
  · have hil:i<t.length:=by omega
    refine And.intro (by omega) ?_
    refine And.intro (fun h5=>?_) (fun h5=>?_)
    · have h5:(classJ t).getD i 0=(j:Int):=h5
      refine And.intro (by rw [List.length_append];simp;omega) ?_
      refine And.intro (by omega) ?_
      refine And.intro (by omega) ?_
      refine And.intro (by omega) ?_
      refine nx (i+1,b.set i true) ⟨by omega,by rw [List.length_set];exact hb,fun x hx=>?_⟩ (show t.length - (i+1)<t.length - i by omega) ?_
      · by_cases hxi:x=i
        · subst hxi;rw [getD_set_eq (by omega)];simp only [h5,decide_true,Bool.and_true,Nat.lt_succ_self]
        · rw [getD_set_ne (Ne.symm hxi),hs x hx]
          have:(x<i+1)↔x<i:=by omega
          simp only [this]
      · refine And.intro (And.intro rfl trivial) ?_
        refine And.intro (And.intro (And.intro (by omega) (by simp only [RO.len];omega)) ?_) ?_
        · exact congrArg (RO.ints .i64) (upTo_here h5).symm
        · repeat' first|refine And.intro ?_ ?_|exact True.intro|(show (_:Int)=(_:Int);omega)|omega|exact rfl|(simp only [RO.len];omega)
    · have h5:(classJ t).getD i 0≠(j:Int):=h5
      refine And.intro (by omega) ?_
      refine nx (i+1,b) ⟨by omega,hb,fun x hx=>?_⟩ (show t.length - (i+1)<t.length - i by omega) ?_
      · rw [hs x hx]
        by_cases hxi:x=i
        · subst hxi;simp only [h5,decide_false,Bool.and_false]
        · have:(x<i+1)↔x<i:=by omega
          simp only [this]
      · refine And.intro (And.intro rfl trivial) ?_
        refine And.intro (And.intro (And.intro (by omega) (by simp only [RO.len];omega)) ?_) ?_
        · exact congrArg (RO.ints .i64) (upTo_there h5).symm
        · repeat' first|refine And.intro ?_ ?_|exact True.intro|(show (_:Int)=(_:Int);omega)|omega|exact rfl|(simp only [RO.len];omega)
  have hii:i=t.length:=by omega
  have hbb:b=inJ t j:=by
    refine List.ext_getElem (by rw [hb,inJ_len]) fun q h6 h7=>?_
    rw [←getD_eq (d:=false) h6,←getD_eq (d:=false) h7,hs q (by omega),inJ_get (by omega)]
    simp only [show q<i by omega,decide_true,Bool.true_and]
  have hee:upTo (classJ t) i j=elemsJ t j:=by rw [elems_upTo hj,hii]
  refine Exists.intro []<|lp (X:=Nat) (fun k=>[(62,.int .i64 k)]) (fun k=>[(7,.box [.ro (.ints .i64 (classR t)),.ro (.ints .i64 (classL t)),.ro (.ints .i64 (classJ t)),.ro (.ints .i64 (classH t)),.ro (.brows (belowL t)),.vec 51,.vec 22,.bool (.v ((List.range k).all fun k=>decide (k=j)|| !(inJB t (fstC (classJ t) j) (fstC (classJ t) k))))])]) (fun k=>k≤numJ t) (fun k=>numJ t - k) 0 (Nat.zero_le _) (by repeat' first|refine And.intro ?_ ?_|exact True.intro|(show (_:Int)=(_:Int);omega)|omega|exact rfl|(simp only [RO.len];omega)) ?_
  intro k hk
  refine And.intro (fun h6=>?_) (fun h6=>?_)
  · have hkn:k<numJ t:=by omega
    have hrl:((belowL t).getD k []).length=numJ t:=by rw [belowL_row hkn];simp
    have hg:=belowL_get (t:=t) hkn hj
    have step:∀(b:Bool),(b=(decide (k=j)|| !(inJB t (fstC (classJ t) j) (fstC (classJ t) k))))→(List.range (k+1)).all (fun k=>decide (k=j)|| !(inJB t (fstC (classJ t) j) (fstC (classJ t) k)))=((List.range k).all (fun k=>decide (k=j)|| !(inJB t (fstC (classJ t) j) (fstC (classJ t) k)))&&b):=fun b hb=>by
      rw [List.range_succ,List.all_append,hb];simp
    refine And.intro (by omega) ?_
    refine And.intro (fun h7=>?_) (fun h7=>?_)
    · have hkj:k≠j:=fun e=>h7 (by rw [e])
      refine And.intro (show 0≤(j:Int)∧(j:Int)<(((belowL t).getD k []).length:Int) by omega) ?_
      refine And.intro (fun h8=>?_) (fun h8=>?_)
      · have h8:((belowL t).getD k []).getD j false=true:=h8
        rw [hg] at h8
        refine And.intro (by omega) ?_
        have e:=step false (by simp [hkj,h8])
        refine nx (k+1) (show k+1≤numJ t by omega) (show numJ t - (k+1)<numJ t - k by omega) ?_
        refine And.intro (And.intro rfl trivial) ?_
        refine And.intro (by repeat' first|refine And.intro ?_ ?_|exact True.intro|(show (_:Int)=(_:Int);omega)|omega|exact rfl|(simp only [RO.len];omega)) (And.intro ?_ (by repeat' first|refine And.intro ?_ ?_|exact True.intro|(show (_:Int)=(_:Int);omega)|omega|exact rfl|(simp only [RO.len];omega)))
        refine And.intro rfl (And.intro rfl (And.intro rfl (And.intro rfl (And.intro rfl (And.intro (And.intro rfl (And.intro trivial trivial)) (And.intro (And.intro rfl (And.intro trivial trivial)) (And.intro ?_ trivial)))))))
        show false=(List.range (k+1)).all _
        rw [e];simp
      · have h8:((belowL t).getD k []).getD j false=false:=h8
        rw [hg] at h8
        refine And.intro (by omega) ?_
        have e:=step true (by simp [h8])
        refine nx (k+1) (show k+1≤numJ t by omega) (show numJ t - (k+1)<numJ t - k by omega) ?_
        refine And.intro (And.intro rfl trivial) ?_
        refine And.intro (by repeat' first|refine And.intro ?_ ?_|exact True.intro|(show (_:Int)=(_:Int);omega)|omega|exact rfl|(simp only [RO.len];omega)) (And.intro ?_ (by repeat' first|refine And.intro ?_ ?_|exact True.intro|(show (_:Int)=(_:Int);omega)|omega|exact rfl|(simp only [RO.len];omega)))
        refine And.intro rfl (And.intro rfl (And.intro rfl (And.intro rfl (And.intro rfl (And.intro (And.intro rfl (And.intro trivial trivial)) (And.intro (And.intro rfl (And.intro trivial trivial)) (And.intro ?_ trivial)))))))
        show (List.range k).all _=(List.range (k+1)).all _
        rw [e];simp
    · have h7:(k:Int)=(j:Int):=h7
      refine And.intro (by omega) ?_
      have e:=step true (by simp [show k=j by omega])
      refine nx (k+1) (show k+1≤numJ t by omega) (show numJ t - (k+1)<numJ t - k by omega) ?_
      refine And.intro (And.intro rfl trivial) ?_
      refine And.intro (by repeat' first|refine And.intro ?_ ?_|exact True.intro|(show (_:Int)=(_:Int);omega)|omega|exact rfl|(simp only [RO.len];omega)) (And.intro ?_ (by repeat' first|refine And.intro ?_ ?_|exact True.intro|(show (_:Int)=(_:Int);omega)|omega|exact rfl|(simp only [RO.len];omega)))
      refine And.intro rfl (And.intro rfl (And.intro rfl (And.intro rfl (And.intro rfl (And.intro (And.intro rfl (And.intro trivial trivial)) (And.intro (And.intro rfl (And.intro trivial trivial)) (And.intro ?_ trivial)))))))
      show (List.range k).all _=(List.range (k+1)).all _
      rw [e];simp
  · have hkk:k=numJ t:=by omega
    subst hkk
    refine And.intro ?_ (And.intro rfl trivial)
    refine And.intro rfl (And.intro rfl (And.intro rfl (And.intro rfl (And.intro rfl (And.intro (And.intro trivial ?_) (And.intro (And.intro trivial ?_) (And.intro rfl trivial)))))))
    · rw [hee]
    · rw [hbb]
end Go.Proofs.YtjabhmhhhlcopaaGreatDoor
end
section
namespace Go.Proofs.YtjabhmhhhlcopaaGreatDoor
open Go Go.AM
def fltN (f:Int→Bool) (l:List Int) (i:Nat):Nat:=((l.take i).filter f).length
theorem flt_pre (f:Int→Bool) (l:List Int) (i:Nat):(l.take i).filter f=(l.filter f).take (fltN f l i):=by
  have h:l.filter f=(l.take i).filter f++(l.drop i).filter f:=by rw [←List.filter_append,List.take_append_drop]
  rw [h];unfold fltN;rw [List.take_left]
theorem flt_le (f:Int→Bool) (l:List Int) (i:Nat):fltN f l i≤(l.filter f).length:=by
  have h:=congrArg List.length (flt_pre f l i)
  rw [List.length_take] at h
  have h2:((l.take i).filter f).length=fltN f l i:=rfl
  omega
theorem flt_succ {f:Int→Bool} {l:List Int} {i:Nat} (hi:i<l.length):(l.take (i+1)).filter f=(l.take i).filter f++if f (l.getD i 0)=true then [l.getD i 0] else []:=by
  rw [take_snoc (d:=0) hi,List.filter_append,List.filter_cons,List.filter_nil]
theorem flt_hit {f:Int→Bool} {l:List Int} {i:Nat} (hi:i<l.length) (hf:f (l.getD i 0)=true):fltN f l (i+1)=fltN f l i+1∧fltN f l i<(l.filter f).length∧(l.filter f).getD (fltN f l i) 0=l.getD i 0:=by
  have h1:fltN f l (i+1)=fltN f l i+1:=by unfold fltN;rw [flt_succ hi,if_pos hf,List.length_append];rfl
  have h2:=flt_le f l (i+1)
  have h3:fltN f l i<(l.filter f).length:=by omega
  refine ⟨h1,h3,?_⟩
  have h4:=flt_pre f l (i+1)
  rw [flt_succ hi,if_pos hf,h1,take_snoc (d:=0) h3,flt_pre f l i] at h4
  have h5:=List.append_cancel_left h4
  simpa using h5.symm
theorem flt_miss {f:Int→Bool} {l:List Int} {i:Nat} (hi:i<l.length) (hf:f (l.getD i 0)=false):fltN f l (i+1)=fltN f l i:=by
  unfold fltN;rw [flt_succ hi,if_neg (by rw [hf];exact Bool.false_ne_true),List.append_nil]
theorem flt_end {f:Int→Bool} {l:List Int} {i:Nat} (hi:l.length≤i):fltN f l i=(l.filter f).length:=by
  unfold fltN;rw [List.take_of_length_le hi]
theorem pos_hit {f:Int→Bool} {l P:List Int} {n i:Nat} (hP:P.length=n) (hPy:∀y,y<n→P.getD y 0=posTo (l.filter f) (fltN f l i) y) (hi:i<l.length) (hf:f (l.getD i 0)=true) (h0:0≤l.getD i 0∧l.getD i 0<(n:Int)):
    ∀y,y<n→(P.set (l.getD i 0).toNat ((fltN f l i:Nat):Int)).getD y 0=posTo (l.filter f) (fltN f l (i+1)) y:=fun y hy=>by
  have hh:=flt_hit hi hf
  rw [hh.1,posTo,hh.2.2]
  by_cases e:y=(l.getD i 0).toNat
  · rw [if_pos (by omega),e,getD_set_eq (by omega)]
  · rw [if_neg (by omega),getD_set_ne (Ne.symm e),hPy y hy]
theorem filter_first {f:Int→Bool}:∀(l:List Int) (k:Nat),k<l.length→(∀i,i<k→f (l.getD i 0)=false)→f (l.getD k 0)=true→(l.filter f).getD 0 0=l.getD k 0
  |[],k,h,_,_=>absurd h (Nat.not_lt_zero _)
  |a::l,0,_,_,h=>by
   have h:f a=true:=h
   rw [List.filter_cons,if_pos h];rfl
  |a::l,k+1,hk,h0,h=>by
   have ha:f a=false:=h0 0 (by omega)
   rw [List.filter_cons,if_neg (by rw [ha];exact Bool.false_ne_true)]
   exact filter_first l k (by simpa using hk) (fun i hi=>h0 (i+1) (by omega)) h
def lstB (p q:List Int) (c d x:Int):Bool:=decide (p.getD x.toNat 0=c)&&decide (q.getD x.toNat 0=d)
theorem hit_flt (t:List (List Int)) (j:Nat) (a b:Int):hitJ t j a b=(elemsJ t j).filter (lstB (classR t) (classL t) a b):=rfl
theorem lst_idx {t:List (List Int)} {j:Nat} (hj:j<numJ t) {a b:Int} (hne:∃x,x<t.length∧jcl t x=j∧rcl t x=a∧lcl t x=b):
    ∃k,k<(elemsJ t j).length∧(∀i,i<k→lstB (classR t) (classL t) a b ((elemsJ t j).getD i 0)=false)∧lstB (classR t) (classL t) a b ((elemsJ t j).getD k 0)=true∧(elemsJ t j).getD k 0=(lstJ t j a b:Int):=by
  obtain ⟨x,hx,h1,h2,h3⟩:=hne
  obtain ⟨i,e1,e2,e3,e4⟩:=idxF_yes (f:=lstB (classR t) (classL t) a b) (l:=elemsJ t j) ⟨(x:Int),(mem_elems hj).2 ⟨by omega,by omega,h1⟩,by
    unfold lstB;rw [Int.toNat_natCast,decide_eq_true h2,decide_eq_true h3];rfl⟩
  refine ⟨i,e2,e4,e3,?_⟩
  have e5:=filter_first _ i e2 e4 e3
  rw [←hit_flt] at e5
  rw [←e5,(lst_of hj ⟨x,hx,h1,h2,h3⟩).2.1]
theorem elems_in {t:List (List Int)} {j:Nat} (hj:j<numJ t):∀x∈elemsJ t j,0≤x∧x<((classR t).length:Int)∧x<((classL t).length:Int):=fun x hx=>by
  have:=(mem_elems hj).1 hx
  rw [classR_len,classL_len];omega
section
variable (t:List (List Int)) (j e:Nat)
def rIL:List Int:=(List.range (cR t j)).map fun i=>((rI t j e i:Nat):Int)
def qIL:List Int:=(List.range (cC t j)).map fun l=>((qI t j e l:Nat):Int)
end
theorem rIL_len (t:List (List Int)) (j e:Nat):(rIL t j e).length=cR t j:=by simp [rIL]
theorem qIL_len (t:List (List Int)) (j e:Nat):(qIL t j e).length=cC t j:=by simp [qIL]
theorem rIL_get {t:List (List Int)} {j e i:Nat} (hi:i<cR t j):(rIL t j e).getD i 0=(rI t j e i:Int):=map_range_getD _ _ _ _ hi
theorem qIL_get {t:List (List Int)} {j e i:Nat} (hi:i<cC t j):(qIL t j e).getD i 0=(qI t j e i:Int):=map_range_getD _ _ _ _ hi
theorem cR_le {t:List (List Int)} {j e:Nat} (c:Coo t j e):cR t j≤(elemsJ t j).length:=by
  rw [c.count]
  have h1:=Nat.mul_le_mul (Nat.mul_le_mul (Nat.le_refl (cR t j)) c.posH) c.posC
  omega
theorem cC_le {t:List (List Int)} {j e:Nat} (c:Coo t j e):cC t j≤(elemsJ t j).length:=by
  rw [c.count]
  have h1:=Nat.mul_le_mul (Nat.mul_le_mul c.posR c.posH) (Nat.le_refl (cC t j))
  omega
theorem cH_le {t:List (List Int)} {j e:Nat}:cH t j e≤(elemsJ t j).length:=by
  unfold cH hLs hitJ;exact List.length_filter_le _ _
theorem hLs_get {t:List (List Int)} {j e:Nat} (c:Coo t j e) {g:Nat} (hg:g<cH t j e):(hLs t j e).getD g 0=(gI t j e g:Int):=(c.hCl.el hg).2.1
end Go.Proofs.YtjabhmhhhlcopaaGreatDoor
end
section
namespace Go.Proofs.YtjabhmhhhlcopaaGreatDoor
open Go Go.AM
set_option maxRecDepth 100000
set_option maxHeartbeats 1000000
abbrev lstS (p q:List Int) (c d:Int):Store:=[(1000,.box [.ro (.ints .i64 p)]),(1001,.box [.int .i64 c]),(1002,.box [.ro (.ints .i64 q)]),(1003,.box [.int .i64 d])]
theorem leastC_k (p q:List Int) (c d x:Int) (hx:0≤x) (hxp:x<p.length) (hxq:x<q.length):
    fnMK TY SP Tryz.f203 [.int .i64 x,.ptr 1000 0,.ptr 1001 0,.ptr 1002 0,.ptr 1003 0] (lstS p q c d) (.bool (.v (lstB p q c d x))) (lstS p q c d):=by
  refine Or.inl<|Exists.intro [false,false,false,false,false,false,false,false,false,false,false,false,false,false,false] (And.intro (by decide+kernel) ?_)
  refine And.intro (by omega) ?_
  refine And.intro (fun h1=>?_) (fun h1=>?_)
  · have h1:p.getD x.toNat 0=c:=h1
    refine And.intro (by omega) ?_
    refine And.intro (by repeat' first|refine And.intro ?_ ?_|exact True.intro|(show (_:Int)=(_:Int);omega)|omega|exact rfl|(simp only [RO.len];omega)) ?_
    show decide (q.getD x.toNat 0=d)=lstB p q c d x
    unfold lstB;rw [decide_eq_true h1,Bool.true_and]
  · have h1:p.getD x.toNat 0≠c:=h1
    refine And.intro (by repeat' first|refine And.intro ?_ ?_|exact True.intro|(show (_:Int)=(_:Int);omega)|omega|exact rfl|(simp only [RO.len];omega)) ?_
    show false=lstB p q c d x
    unfold lstB;rw [decide_eq_false h1,Bool.false_and]
theorem leastC_fn (p q:List Int) (c d x:Int) (hx:0≤x) (hxp:x<p.length) (hxq:x<q.length):MF 203 [.int .i64 x,.ptr 1000 0,.ptr 1001 0,.ptr 1002 0,.ptr 1003 0] (lstS p q c d) (.bool (.v (lstB p q c d x))) (lstS p q c d):=
  mkM Tryz.func203 (by decide+kernel) rfl (Nat.le_of_ble_eq_true rfl) fun _=>leastC_k p q c d x hx hxp hxq
theorem idxLeast_k (p q l:List Int) (c d:Int) (hl:∀x∈l,0≤x∧x<(p.length:Int)∧x<(q.length:Int)) (hll:l.length≤400) (i:Nat) (hi:i<l.length) (hi0:∀k,k<i→lstB p q c d (l.getD k 0)=false) (hi1:lstB p q c d (l.getD i 0)=true):
    fnMK TY SP Tryz.f67 [.ro (.ints .i64 l),.fn 203 [.ptr 1000 0,.ptr 1001 0,.ptr 1002 0,.ptr 1003 0]] (lstS p q c d) (.int .i64 i) (lstS p q c d):=by
  refine Exists.intro []<|lp (X:=Nat) (fun y=>[(8,.int .i64 y)]) (fun _=>[]) (fun y=>y≤i) (fun y=>i - y) 0 (Nat.zero_le _) (by repeat' first|refine And.intro ?_ ?_|exact True.intro|(show (_:Int)=(_:Int);omega)|omega|exact rfl|(simp only [RO.len];omega)) ?_
  intro y hy
  refine And.intro (fun h1=>?_) (fun h1=>?_)
  · have hyl:y<l.length:=by omega
    have hm:=hl _ (getD_mem (d:=0) hyl)
    refine And.intro (by omega) ?_
    refine Or.inr (cm [] [(1000,1000),(1001,1001),(1002,1002),(1003,1003)] (leastC_fn p q c d (l.getD y 0) hm.1 hm.2.1 hm.2.2) ?_)
    refine And.intro (by repeat' first|refine And.intro ?_ ?_|exact True.intro|(show (_:Int)=(_:Int);omega)|omega|exact rfl|(simp only [RO.len];omega)) ?_
    refine And.intro (fun h2=>?_) (fun h2=>?_)
    · have h2:lstB p q c d (l.getD y 0)=true:=h2
      have e:y=i:=by
        rcases Nat.lt_or_ge y i with h|h
        · rw [hi0 y h] at h2;cases h2
        · omega
      subst e
      exact And.intro (by repeat' first|refine And.intro ?_ ?_|exact True.intro|(show (_:Int)=(_:Int);omega)|omega|exact rfl|(simp only [RO.len];omega)) (by repeat' first|refine And.intro ?_ ?_|exact True.intro|(show (_:Int)=(_:Int);omega)|omega|exact rfl|(simp only [RO.len];omega))
    · have h2:lstB p q c d (l.getD y 0)=false:=h2
      have e:y≠i:=fun e=>by rw [e,hi1] at h2;cases h2
      refine And.intro (by omega) ?_
      exact nx (y+1) (show y+1≤i by omega) (show i - (y+1)<i - y by omega) (by repeat' first|refine And.intro ?_ ?_|exact True.intro|(show (_:Int)=(_:Int);omega)|omega|exact rfl|(simp only [RO.len];omega))
  · exfalso
    have h1:(l.length:Int)≤(y:Int):=h1
    omega
theorem idxLeast_fn (p q l:List Int) (c d:Int) (hl:∀x∈l,0≤x∧x<(p.length:Int)∧x<(q.length:Int)) (hll:l.length≤400) (i:Nat) (hi:i<l.length) (hi0:∀k,k<i→lstB p q c d (l.getD k 0)=false) (hi1:lstB p q c d (l.getD i 0)=true):
    MF 67 [.ro (.ints .i64 l),.fn 203 [.ptr 1000 0,.ptr 1001 0,.ptr 1002 0,.ptr 1003 0]] (lstS p q c d) (.int .i64 i) (lstS p q c d):=
  mkM Tryz.func67 (by decide+kernel) rfl (Nat.le_of_ble_eq_true rfl) fun _=>idxLeast_k p q l c d hl hll i hi hi0 hi1
theorem least_k (p q l:List Int) (c d:Int) (hl:∀x∈l,0≤x∧x<(p.length:Int)∧x<(q.length:Int)) (hll:l.length≤400) (i:Nat) (hi:i<l.length) (hi0:∀k,k<i→lstB p q c d (l.getD k 0)=false) (hi1:lstB p q c d (l.getD i 0)=true):
    fnK TY SP Tryz.f136 [.ro (.ints .i64 l),.ro (.ints .i64 p),.int .i64 c,.ro (.ints .i64 q),.int .i64 d] (.int .i64 (l.getD i 0)):=by
  refine Or.inr (Or.inl (cm [] [(1000,6),(1001,7),(1002,8),(1003,9)] (idxLeast_fn p q l c d hl hll i hi hi0 hi1) ?_))
  refine And.intro (by repeat' first|refine And.intro ?_ ?_|exact True.intro|(show (_:Int)=(_:Int);omega)|omega|exact rfl|(simp only [RO.len];omega)) ?_
  refine And.intro (by omega) ?_
  exact And.intro (by repeat' first|refine And.intro ?_ ?_|exact True.intro|(show (_:Int)=(_:Int);omega)|omega|exact rfl|(simp only [RO.len];omega)) trivial
theorem least_fn (p q l:List Int) (c d:Int) (hl:∀x∈l,0≤x∧x<(p.length:Int)∧x<(q.length:Int)) (hll:l.length≤400) (i:Nat) (hi:i<l.length) (hi0:∀k,k<i→lstB p q c d (l.getD k 0)=false) (hi1:lstB p q c d (l.getD i 0)=true):
    QF 136 [.ro (.ints .i64 l),.ro (.ints .i64 p),.int .i64 c,.ro (.ints .i64 q),.int .i64 d] (.int .i64 (l.getD i 0)):=
  mkQ Tryz.func136 (by decide+kernel) rfl (Nat.le_of_ble_eq_true rfl) fun _=>least_k p q l c d hl hll i hi hi0 hi1
theorem numL_snoc {p l:List Int} {i:Nat} (hi:i<l.length):(numL p l).take (i+1)=(numL p l).take i++[p.getD (l.getD i 0).toNat 0]:=by
  rw [take_snoc (d:=0) (by rw [numL_len];exact hi)]
  congr 2
  unfold numL
  rw [getD_eq (by rw [List.length_map];exact hi),List.getElem_map,getD_eq (d:=0) hi]
theorem numbers_k (p l:List Int) (hl:0<l.length) (hll:l.length≤400) (hp:∀x∈l,0≤x∧x<(p.length:Int)):fnK TY SP Tryz.f135 [.ro (.ints .i64 p),.ro (.ints .i64 l)] (.new (.ints .i64 (cpI (srtI (numL p l))))):=by
  have hnl:=numL_len p l
  refine Exists.intro []<|lp2 (fun (i:Nat) (_:Nat)=>[(10,.int .i64 i),(5,.vec 20)]) (fun i _=>[(20,.vec 0 (.ints .i64 ((numL p l).take i)) [])]) (fun i _=>i≤l.length) (fun i _=>l.length - i) 0 0 (Nat.zero_le _) (by repeat' first|refine And.intro ?_ ?_|exact True.intro|(show (_:Int)=(_:Int);omega)|omega|exact rfl|(simp only [RO.len];omega)) ?_
  rintro i _ hi
  have hil:((numL p l).take i).length=i:=by rw [List.length_take,hnl];omega
  refine And.intro (fun h1=>?_) (fun h1=>?_)
  · have hk:i<l.length:=by omega
    have hm:=hp _ (getD_mem (d:=0) hk)
    refine And.intro (by omega) ?_
    refine And.intro (show 0≤l.getD i 0∧l.getD i 0<(p.length:Int) by omega) ?_
    refine And.intro (by rw [List.length_append,hil];simp;omega) ?_
    refine And.intro (by omega) ?_
    refine nx (i+1,0) (show i+1≤l.length by omega) (show l.length - (i+1)<l.length - i by omega) ?_
    have e:=numL_snoc (p:=p) hk
    repeat' first|refine And.intro ?_ ?_|exact True.intro|exact congrArg (RO.ints .i64) e.symm|(show (_:Int)=(_:Int);omega)|omega|exact rfl
  · have h1:(l.length:Int)≤(i:Int):=h1
    have hii:(numL p l).take i=numL p l:=List.take_of_length_le (by omega)
    rw [hii]
    refine Or.inr (Or.inl (cm [] [(1000,20)] (sortI_m (numL p l) (by omega)) ?_))
    refine And.intro (by repeat' first|refine And.intro ?_ ?_|exact True.intro|(show (_:Int)=(_:Int);omega)|omega|exact rfl|(simp only [RO.len];omega)) ?_
    refine Or.inr (Or.inl (cm [] [(1,20)] (compactI_m (srtI (numL p l)) (by rw [srtI_len];omega)) ?_))
    refine And.intro (by repeat' first|refine And.intro ?_ ?_|exact True.intro|(show (_:Int)=(_:Int);omega)|omega|exact rfl|(simp only [RO.len];omega)) ?_
    exact And.intro (by repeat' first|refine And.intro ?_ ?_|exact True.intro|(show (_:Int)=(_:Int);omega)|omega|exact rfl|(simp only [RO.len];omega)) (by repeat' first|refine And.intro ?_ ?_|exact True.intro|(show (_:Int)=(_:Int);omega)|omega|exact rfl|(simp only [RO.len];omega))
theorem numbers_fn (p l:List Int) (hl:0<l.length) (hll:l.length≤400) (hp:∀x∈l,0≤x∧x<(p.length:Int)):QF 135 [.ro (.ints .i64 p),.ro (.ints .i64 l)] (.new (.ints .i64 (cpI (srtI (numL p l))))):=
  mkQ Tryz.func135 (by decide+kernel) rfl (Nat.le_of_ble_eq_true rfl) fun _=>numbers_k p l hl hll hp
end Go.Proofs.YtjabhmhhhlcopaaGreatDoor
end
