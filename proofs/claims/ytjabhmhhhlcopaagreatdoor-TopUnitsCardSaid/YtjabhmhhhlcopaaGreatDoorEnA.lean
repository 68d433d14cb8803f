import Derived.Lib.SlicesCompact
import Derived.Test.YtjabhmhhhlcopaaGreatDoorGreen
import Derived.Shelf.Sort.Plain
import Derived.Shelf.Slices.CompactI
import Derived.Test.YtjabhmhhhlcopaaGreatDoorLay
import Derived.Test.YtjabhmhhhlcopaaGreatDoorBase
import Derived.Test.YtjabhmhhhlcopaaGreatDoorAmRet
import Derived.Test.YtjabhmhhhlcopaaGreatDoorEnLaw
import Derived.Test.YtjabhmhhhlcopaaGreatDoorRefReg
import Derived.Test.YtjabhmhhhlcopaaGreatDoorRefCgL
section
namespace Go.Proofs.YtjabhmhhhlcopaaGreatDoor
open Go Go.AM
def srtI (l:List Int):List Int:=l.mergeSort fun x y=>decide (x≤y)
theorem srtI_perm (l:List Int):(srtI l).Perm l:=List.mergeSort_perm l _
theorem srtI_len (l:List Int):(srtI l).length=l.length:=(srtI_perm l).length_eq
theorem srtI_sorted (l:List Int):(srtI l).Pairwise (· ≤·):=by
  have:=List.pairwise_mergeSort (le:=fun x y:Int=>decide (x≤y)) (fun a b c h1 h2=>decide_eq_true (Int.le_trans (of_decide_eq_true h1) (of_decide_eq_true h2))) (fun a b=>by
    rcases Int.le_total a b with h|h
    · simp [h]
    · simp [h]) l
  exact this.imp fun h=>of_decide_eq_true h
def cpI (l:List Int):List Int:=Go.Lib.compact l
theorem cpI_len (l:List Int):(cpI l).length≤l.length:=by
  unfold cpI Go.Lib.compact Go.Lib.compactUpTo
  rw [List.length_map]
  refine Nat.le_trans (List.length_filter_le _ _) ?_
  simp
theorem cpI_mem (l:List Int):∀x∈cpI l,x∈l:=fun x hx=>by
  unfold cpI Go.Lib.compact Go.Lib.compactUpTo at hx
  obtain ⟨j,hj,rfl⟩:=List.mem_map.1 hx
  have hj:=List.mem_range.1 (List.mem_filter.1 hj).1
  simp [hj]
theorem cp_spec {l:List Int} (hs:l.Pairwise (· ≤·)):∀m,m≤l.length→(Go.Lib.compactUpTo l.toArray m).Pairwise (· <·)∧∀x,x∈Go.Lib.compactUpTo l.toArray m↔∃j,j<m∧l.getD j 0=x:=by
  intro m
  induction m with
  |zero=>intro _;exact ⟨by simp [Go.Lib.compactUpTo],fun x=>by simp [Go.Lib.compactUpTo]⟩
  |succ m ih=>
   intro hm
   obtain ⟨h1,h2⟩:=ih (by omega)
   have le:∀i j,i≤j→j<l.length→l.getD i 0≤l.getD j 0:=fun i j hij hj=>by
     rcases Nat.lt_or_ge i j with h|h
     · rw [getD_eq (by omega),getD_eq hj];exact List.pairwise_iff_getElem.1 hs i j (by omega) hj h
     · rw [show i=j by omega];exact Int.le_refl _
   have at_:∀i,i<l.length→l.toArray[i]! =l.getD i 0:=fun i hi=>by rw [getD_eq hi];simp [hi]
   rw [Go.Lib.compactUpTo_succ]
   cases hk:Go.Lib.keeps l.toArray m with
   |true=>
    have hk':m=0∨l.toArray[m]!≠l.toArray[m - 1]! :=of_decide_eq_true hk
    rw [if_pos rfl,at_ m hm]
    refine ⟨?_,fun x=>?_⟩
    · rw [List.pairwise_append]
      refine ⟨h1,by simp,fun a ha b hb=>?_⟩
      have hb:b=l.getD m 0:=by simpa using hb
      obtain ⟨j,hj,rfl⟩:=(h2 a).1 ha
      have h3:=le j (m - 1) (by omega) (by omega)
      have h4:=le (m - 1) m (by omega) hm
      have h5:=hk'.resolve_left (by omega)
      rw [at_ m hm,at_ (m - 1) (by omega)] at h5
      omega
    · rw [List.mem_append,h2]
      constructor
      · rintro (⟨j,hj,e⟩|e)
        · exact ⟨j,by omega,e⟩
        · exact ⟨m,by omega,by simpa using Eq.symm (by simpa using e)⟩
      · rintro ⟨j,hj,e⟩
        rcases Nat.lt_or_ge j m with h|h
        · exact .inl ⟨j,h,e⟩
        · obtain rfl:j=m:=by omega
          exact .inr (by simp [←e])
   |false=>
    have hk':¬(m=0∨l.toArray[m]!≠l.toArray[m - 1]!):=of_decide_eq_false hk
    have h0:m≠0:=fun e=>hk' (.inl e)
    have h3:l.getD m 0=l.getD (m - 1) 0:=by
      have:=Classical.not_not.1 fun h=>hk' (.inr h)
      rw [at_ m hm,at_ (m - 1) (by omega)] at this;exact this
    rw [if_neg (by simp),List.append_nil]
    refine ⟨h1,fun x=>?_⟩
    rw [h2]
    constructor
    · rintro ⟨j,hj,e⟩;exact ⟨j,by omega,e⟩
    · rintro ⟨j,hj,e⟩
      rcases Nat.lt_or_ge j m with h|h
      · exact ⟨j,h,e⟩
      · obtain rfl:j=m:=by omega
        exact ⟨j - 1,by omega,by rw [←h3];exact e⟩
theorem cpsrt_mem (l:List Int) (x:Int):x∈cpI (srtI l)↔x∈l:=by
  unfold cpI Go.Lib.compact
  rw [(cp_spec (srtI_sorted l) _ (Nat.le_refl _)).2,←(srtI_perm l).mem_iff]
  constructor
  · rintro ⟨j,hj,rfl⟩;exact getD_mem hj
  · intro h;exact mem_getD 0 h
end Go.Proofs.YtjabhmhhhlcopaaGreatDoor
end
section
namespace Go.Proofs.YtjabhmhhhlcopaaGreatDoor
open Go Go.AM Go.Sort Go.Lib Go.RowKit
def sortWd {α:Type} [Inhabited α] (enc:α→Value) (w:World) (b m:Nat) (dk:Array α) (os:Array Obj):World:=grow (putRow enc (Sort.ahead w m) b 0 dk) os
section
variable {w:World} {M:Msk} {b:Nat} {cs:Array Value} {ty:TypeId} (hb:w.heap[b]? =some (.cells cs ty (0,0)))
include hb
theorem sI_lt:b<w.heap.size:=by
  rcases Nat.lt_or_ge b w.heap.size with h|h
  · exact h
  · rw [Array.getElem?_eq_none h] at hb;cases hb
theorem sI_block {α:Type} [Inhabited α] (enc:α→Value) (m:Nat) (dk:Array α) (os:Array Obj):(sortWd enc w b m dk os).heap[b]? =some (.cells (putCells enc 0 dk cs) ty (0,0)):=by
  have hlt:=sI_lt hb
  show ((putRow enc (Sort.ahead w m) b 0 dk).heap++os)[b]? =_
  rw [Array.getElem?_append_left (by rw [size_putRow];exact hlt)]
  show ((w.heap.modify b (onCells (putCells enc 0 dk))))[b]? =_
  rw [Array.getElem?_modify,if_pos rfl,hb];rfl
omit hb in
theorem sI_other {α:Type} [Inhabited α] (enc:α→Value) (m:Nat) (dk:Array α) (os:Array Obj) {b':Nat} (hne:b'≠b) (hlt:b'<w.heap.size):(sortWd enc w b m dk os).heap[b']? =w.heap[b']? :=by
  show ((putRow enc (Sort.ahead w m) b 0 dk).heap++os)[b']? =_
  rw [Array.getElem?_append_left (by rw [size_putRow];exact hlt)]
  show ((w.heap.modify b (onCells (putCells enc 0 dk))))[b']? =_
  rw [Array.getElem?_modify,if_neg (Ne.symm hne)]
omit hb in
theorem sI_size {α:Type} [Inhabited α] (enc:α→Value) (m:Nat) (dk:Array α) (os:Array Obj):(sortWd enc w b m dk os).heap.size=w.heap.size+os.size:=by
  show ((putRow enc (Sort.ahead w m) b 0 dk).heap++os).size=_
  rw [Array.size_append,size_putRow];rfl
omit hb in
theorem sIp_size {α:Type} [Inhabited α] (enc:α→Value) (d:Array α):(putCells enc 0 d cs).size=cs.size:=by simp [putCells]
omit hb in
theorem sIp_at {α:Type} [Inhabited α] (enc:α→Value) (d:Array α) {q:Nat} (hq:q<d.size) (hc:q<cs.size):(putCells enc 0 d cs)[q]? =some (enc d[q]!):=by
  simp [putCells,hq,hc]
theorem sI_stp {α:Type} [Inhabited α] (enc:α→Value) (m:Nat) (dk:Array α) (os:Array Obj) (hM:∀off,M b off↔off<cs.size):Stp (fun b' off=>b'=b∧M b' off) w (sortWd enc w b m dk os):=by
  refine ⟨by rw [sI_size];omega,fun b' hb'=>?_,⟨⟨rfl,rfl⟩,rfl,?_⟩⟩
  · by_cases e:b'=b
    · subst e
      refine .inr (.inl ⟨cs,_,ty,hb,sI_block hb enc m dk os,sIp_size enc dk,fun off hn=>?_⟩)
      have:¬off<cs.size:=fun h=>hn ⟨rfl,(hM off).2 h⟩
      rw [Array.getElem?_eq_none (by rw [sIp_size];omega),Array.getElem?_eq_none (by omega)]
    · exact .inl (sI_other enc m dk os e hb')
  · show w.drawn≤w.drawn+m
    omega
end
theorem sortI_m (l:List Int) (hl:0<l.length):
    MF 64 [.vec 1000] [(1000,.vec 0 (.ints .i64 l) [])] (.tup []) [(1000,.vec 0 (.ints .i64 (srtI l)) [])]:=by
  refine ⟨⟨_,Tryz.func64,by decide+kernel,rfl⟩,fun ρ M w vs hlw st hv=>?_⟩
  obtain ⟨⟨o,ho,hlen,hsz,hlb,_,hblk⟩,_⟩:=st.blk 1000 _ rfl
  have hlen:o.len=l.length:=hlen
  have hsz:o.sz=1:=hsz
  cases hob:o.blk with
  |none=>
   simp only [hob] at hblk
   have:l.length=0:=hblk.1
   omega
  |some b=>
  simp only [hob] at hblk
  obtain ⟨hcap,cs,ty,hb,hcs,hM,hcell0⟩:=hblk
  have hM:∀off,M b off↔off<cs.size:=fun off=>by rw [hM off];omega
  have hcell:∀q,q<l.length→cs[q]? =some (.int .i64 (l.getD q 0)):=fun q hq=>by
    obtain ⟨v,h1,h2⟩:=hcell0 q (by simpa [RO.cells,RO.len,RO.sz] using hq)
    have h2:v= .int .i64 (l.getD q 0):=h2.1
    rw [h1,h2]
  have hcsl:l.length≤cs.size:=by rw [hcs,hsz];omega
  match vs,hv with
  |[v0],⟨h0,_⟩=>
  obtain ⟨o',ho',rfl⟩:=h0
  rw [ho] at ho';cases ho'
  have hlt:=sI_lt hb
  have hds:l.toArray.size=l.length:=by simp
  have hH:Holds (Value.int .i64) w b 0 l.toArray:=fun j hj=>by
    rw [hds] at hj
    refine ⟨?_,?_⟩
    · rw [Nat.zero_add,Go.AM.cell_of_heap hb]
      show cs[j]? =some (.int .i64 l.toArray[j]!)
      rw [hcell j hj,getD_eq hj];simp [hj]
    · simp [World.frozen?,hb]
  have hcall:=Any.slices_Sort_int sortI b 0 o.cap l w hH hlt (by have:l.length≤140737488355328:=hlb;omega)
  have hv0:o.val= .slice (some ⟨b,0,none⟩) l.length o.cap:=by rw [Sl.val,hob,hlen];rfl
  rw [hv0]
  refine Calls.mono hcall fun e w' ⟨he,n,os,hw⟩=>?_
  have hw:w'=sortWd (Value.int .i64) w b n (srtI l).toArray os:=hw
  subst hw
  refine ⟨_,ρ,M,he,?_,⟨#[],rfl,trivial⟩⟩
  have hstp:=sI_stp hb (Value.int .i64) n (srtI l).toArray os hM
  refine ⟨fun k=>by rw [st.dom k,find_cons,find_cons];split<;>rfl,fun k B hB=>?_,st.inj,fun b' off hm=>by rw [sI_size];have:=st.mlt b' off hm;omega,?_,st.sub,st.old,st.fresh,st.pin⟩
  · have hk1:k=1000∧B= .vec 0 (.ints .i64 (srtI l)) []:=by
      rw [find_cons] at hB
      split at hB
      · rename_i e;cases hB;exact ⟨e.symm,rfl⟩
      · cases hB
    obtain ⟨rfl,rfl⟩:=hk1
    refine ⟨⟨o,ho,by rw [hlen];exact (srtI_len l).symm,hsz,by show (srtI l).length≤LB;rw [srtI_len];exact hlb,Nat.zero_le _,?_⟩,.inl rfl⟩
    simp only [hob]
    refine ⟨hcap,putCells (Value.int .i64) 0 (srtI l).toArray cs,ty,sI_block hb (Value.int .i64) n (srtI l).toArray os,by rw [sIp_size];exact hcs,fun off=>by rw [sIp_size,hM off];omega,fun q hq=>?_⟩
    have hq:q<l.length:=by simpa [RO.cells,RO.len,RO.sz,srtI_len] using hq
    refine ⟨.int .i64 ((srtI l).toArray[q]!),sIp_at (Value.int .i64) (srtI l).toArray (by simp [srtI_len];omega) (by omega),?_⟩
    have hq':q<(srtI l).length:=by rw [srtI_len];exact hq
    have e1:(srtI l).toArray[q]! =(srtI l).getD q 0:=by rw [getD_eq hq'];simp [hq']
    rw [e1]
    obtain ⟨i,hi,he⟩:=mem_getD 0 ((srtI_perm l).mem_iff.1 (getD_mem (d:=0) hq'))
    obtain ⟨v,_,h2⟩:=hcell0 i (by simpa [RO.cells,RO.len,RO.sz] using hi)
    show Value.int .i64 ((srtI l).getD q 0)=Value.int .i64 ((srtI l).getD q 0)∧inK .i64 ((srtI l).getD q 0)
    rw [←he]
    exact ⟨rfl,h2.2⟩
  · refine hstp.weaken fun b' off he=>?_
    obtain ⟨rfl,hm⟩:=he
    exact ⟨⟨1000,by simp [hasB,ho,Own.has,hob]⟩,hm⟩
theorem compactI_m (l:List Int) (hl:0<l.length):
    MF 65 [.vec 1] [(1,.vec 0 (.ints .i64 l) [])] (.vec 1) [(1,.vec 0 (.ints .i64 (cpI l)) [])]:=by
  refine ⟨⟨_,Tryz.func65,by decide+kernel,rfl⟩,fun ρ M w vs hlw st hv=>?_⟩
  obtain ⟨⟨o,ho,hlen,hsz,hlb,_,hblk⟩,_⟩:=st.blk 1 _ rfl
  have hlen:o.len=l.length:=hlen
  have hsz:o.sz=1:=hsz
  have hdom:∀k,k≠1→ρ k=none:=fun k hk=>by
    have:=st.dom k
    rw [find_cons,if_neg (Ne.symm hk)] at this
    cases hr:ρ k with
    |none=>rfl
    |some _=>rw [hr] at this;cases this
  cases hob:o.blk with
  |none=>
   simp only [hob] at hblk
   have:l.length=0:=hblk.1
   omega
  |some b=>
  simp only [hob] at hblk
  obtain ⟨hcap,cs,ty,hb,hcs,hM,hcell0⟩:=hblk
  have hM:∀off,M b off↔off<cs.size:=fun off=>by rw [hM off];omega
  have hcell:∀q,q<l.length→cs[q]? =some (.int .i64 (l.getD q 0)):=fun q hq=>by
    obtain ⟨v,h1,h2⟩:=hcell0 q (by simpa [RO.cells,RO.len,RO.sz] using hq)
    have h2:v= .int .i64 (l.getD q 0):=h2.1
    rw [h1,h2]
  have hcsl:l.length≤cs.size:=by rw [hcs,hsz];omega
  match vs,hv with
  |[v0],⟨h0,_⟩=>
  obtain ⟨o',ho',rfl⟩:=h0
  rw [ho] at ho';cases ho'
  have hlt:=sI_lt hb
  have hds:l.toArray.size=l.length:=by simp
  have hH:Holds (Value.int .i64) w b 0 l.toArray:=fun j hj=>by
    rw [hds] at hj
    refine ⟨?_,?_⟩
    · rw [Nat.zero_add,Go.AM.cell_of_heap hb]
      show cs[j]? =some (.int .i64 l.toArray[j]!)
      rw [hcell j hj,getD_eq hj];simp [hj]
    · simp [World.frozen?,hb]
  have hcall:=Any.slices_Compact_int cpctI b 0 o.cap l w hH (by have:l.length≤140737488355328:=hlb;omega) (by omega)
  have hv0:o.val= .slice (some ⟨b,0,none⟩) l.length o.cap:=by rw [Sl.val,hob,hlen];rfl
  rw [hv0]
  refine Calls.mono hcall fun e w' ⟨he,n,hw⟩=>?_
  have hgrow:∀x:World,grow x #[]=x:=fun x=>by simp [grow]
  have hcl:=cpI_len l
  have hmem:=cpI_mem l
  have he:e= .returned (.slice (some ⟨b,0,none⟩) (cpI l).length o.cap):=he
  have hw:w'=putRow (Value.int .i64) (Sort.ahead w n) b 0 (cpI l++List.replicate (l.length - (cpI l).length) 0).toArray:=hw
  obtain ⟨A,hA⟩:∃A,A=cpI l++List.replicate (l.length - (cpI l).length) 0:=⟨_,rfl⟩
  rw [←hA] at hw
  have hall:A.length=l.length:=by rw [hA];simp;omega
  have hAq:∀q,q<(cpI l).length→A.getD q 0=(cpI l).getD q 0:=fun q hq=>by
    rw [hA,getD_eq hq,getD_eq (by rw [List.length_append];omega),List.getElem_append_left hq]
  clear hA
  obtain ⟨C,hC⟩:∃C,C=cpI l:=⟨_,rfl⟩
  rw [←hC] at hAq hmem hcl he ⊢
  clear hC
  have hw:w'=sortWd (Value.int .i64) w b n A.toArray #[]:=by unfold sortWd;rw [hgrow];exact hw
  subst hw
  have hstp:=sI_stp hb (Value.int .i64) n A.toArray #[] hM
  refine ⟨_,fun k=>if k=1 then some (.sl { o with len:=C.length }) else ρ k,M,he,?_,⟨{ o with len:=C.length },by simp [Own.sli],?_⟩⟩
  · have hhas:∀k b',hasB (fun k=>if k=1 then some (.sl { o with len:=C.length }) else ρ k) k b'→k=1∧b'=b:=fun k b' h=>by
      unfold hasB at h
      by_cases e:k=1
      · refine ⟨e,?_⟩
        simp only [e,if_true,Own.has,hob] at h
        exact (Option.some.inj h).symm
      · simp only [e,if_false,hdom k e] at h
    refine ⟨fun k=>?_,fun k B hB=>?_,fun k k' b' h1 h2=>by rw [(hhas k b' h1).1,(hhas k' b' h2).1],fun b' off hm=>by rw [sI_size];have:=st.mlt b' off hm;omega,?_,st.sub,st.old,fun k b' h=>.inr ⟨1,by rw [(hhas k b' h).2];simp [hasB,ho,Own.has,hob]⟩,fun k o2 hk h=>?_⟩
    · by_cases e:k=1
      · simp [e,find_cons]
      · simp only [e,if_false,find_cons];rw [if_neg (Ne.symm e),hdom k e];rfl
    · have hk1:k=1∧B= .vec 0 (.ints .i64 C) []:=by
        rw [find_cons] at hB
        split at hB
        · rename_i e;cases hB;exact ⟨e.symm,rfl⟩
        · cases hB
      obtain ⟨rfl,rfl⟩:=hk1
      refine ⟨⟨{ o with len:=C.length },by simp,rfl,hsz,by show C.length≤LB;exact Nat.le_trans hcl hlb,Nat.zero_le _,?_⟩,.inl rfl⟩
      simp only [hob]
      refine ⟨by omega,putCells (Value.int .i64) 0 A.toArray cs,ty,sI_block hb (Value.int .i64) n A.toArray #[],by rw [sIp_size];exact hcs,fun off=>by rw [sIp_size,hM off];omega,fun q hq=>?_⟩
      have hq:q<C.length:=by simpa [RO.cells,RO.len,RO.sz] using hq
      refine ⟨.int .i64 (A.toArray[q]!),sIp_at (Value.int .i64) A.toArray (by rw [List.size_toArray,hall];omega) (by omega),?_⟩
      have e1:A.toArray[q]! =C.getD q 0:=by
        rw [←hAq q hq,getD_eq (show q<A.length by omega),getElem!_pos A.toArray q (by rw [List.size_toArray,hall];omega)]
        simp
      rw [e1]
      obtain ⟨i,hi,he⟩:=mem_getD 0 (hmem _ (getD_mem (d:=0) hq))
      obtain ⟨v,_,h2⟩:=hcell0 i (by simpa [RO.cells,RO.len,RO.sz] using hi)
      show Value.int .i64 (C.getD q 0)=Value.int .i64 (C.getD q 0)∧inK .i64 (C.getD q 0)
      rw [←he]
      exact ⟨rfl,h2.2⟩
    · refine hstp.weaken fun b' off he=>?_
      obtain ⟨rfl,hm⟩:=he
      exact ⟨⟨1,by simp [hasB,ho,Own.has,hob]⟩,hm⟩
    · have e:k≠1:=fun e=>by subst e;cases hk
      simp only [e,if_false,hdom k e] at h
      cases h
  · simp [Sl.val,hob]
end Go.Proofs.YtjabhmhhhlcopaaGreatDoor
end
section
namespace Go.Proofs.YtjabhmhhhlcopaaGreatDoor
open Go Go.AM
set_option maxRecDepth 100000
theorem cloneI_fn (l:List Int) (hl:l.length≤4096):QF 142 [.ro (.ints .i64 l)] (.new (.ints .i64 l)):=mkQ Tryz.func142 (by decide+kernel) rfl (Nat.le_of_ble_eq_true rfl) fun _=>by
  refine And.intro (fun h1=>?_) ?_
  · exact And.intro h1 trivial
  · refine And.intro (by simp;omega) ?_
    exact And.intro ⟨by omega,by simp⟩ trivial
end Go.Proofs.YtjabhmhhhlcopaaGreatDoor
end
section
namespace Go.Proofs.YtjabhmhhhlcopaaGreatDoor
open Go Go.AM
abbrev un6 {A B C D E F:Type} {γ:Sort _} (f:A→B→C→D→E→F→γ) (p:A × B × C × D × E × F):γ:=match p with|(a,b,c,d,e,g)=>f a b c d e g
abbrev un8 {T0 T1 T2 T3 T4 T5 T6 T7:Type} {γ:Sort _} (q:T0→T1→T2→T3→T4→T5→T6→T7→γ) (p:T0 × T1 × T2 × T3 × T4 × T5 × T6 × T7):γ:=match p with|(a,b,c,d,e,f,g,h)=>q a b c d e f g h
theorem lp8 {T0 T1 T2 T3 T4 T5 T6 T7:Type} (U:T0→T1→T2→T3→T4→T5→T6→T7→List (Nat × AV)) (V:T0→T1→T2→T3→T4→T5→T6→T7→Store) (ok:T0→T1→T2→T3→T4→T5→T6→T7→Prop) (μ:T0→T1→T2→T3→T4→T5→T6→T7→Nat) (a0:T0) (b0:T1) (c0:T2) (d0:T3) (e0:T4) (f0:T5) (g0:T6) (h0:T7) {EE Bd:(Y:Type)→(Y→List (Nat × AV))→(Y→Store)→(Y→Prop)→(Y→Nat)→Y→Prop}
    (q0:ok a0 b0 c0 d0 e0 f0 g0 h0) (q1:EE (T0 × T1 × T2 × T3 × T4 × T5 × T6 × T7) (un8 U) (un8 V) (un8 ok) (un8 μ) (a0,b0,c0,d0,e0,f0,g0,h0)) (q2:∀a b c d e f g h,ok a b c d e f g h→Bd (T0 × T1 × T2 × T3 × T4 × T5 × T6 × T7) (un8 U) (un8 V) (un8 ok) (un8 μ) (a,b,c,d,e,f,g,h)):
    ∃(X:Type) (U:X→List (Nat × AV)) (V:X→Store) (ok:X→Prop) (μ:X→Nat) (x0:X),(ok x0∧EE X U V ok μ x0)∧∀x,ok x→Bd X U V ok μ x:=
  ⟨T0 × T1 × T2 × T3 × T4 × T5 × T6 × T7,un8 U,un8 V,un8 ok,un8 μ,(a0,b0,c0,d0,e0,f0,g0,h0),⟨q0,q1⟩,fun (a,b,c,d,e,f,g,h) hh=>q2 a b c d e f g h hh⟩
abbrev un9 {T0 T1 T2 T3 T4 T5 T6 T7 T8:Type} {γ:Sort _} (q:T0→T1→T2→T3→T4→T5→T6→T7→T8→γ) (p:T0 × T1 × T2 × T3 × T4 × T5 × T6 × T7 × T8):γ:=match p with|(a,b,c,d,e,f,g,h,i)=>q a b c d e f g h i
theorem lp9 {T0 T1 T2 T3 T4 T5 T6 T7 T8:Type} (U:T0→T1→T2→T3→T4→T5→T6→T7→T8→List (Nat × AV)) (V:T0→T1→T2→T3→T4→T5→T6→T7→T8→Store) (ok:T0→T1→T2→T3→T4→T5→T6→T7→T8→Prop) (μ:T0→T1→T2→T3→T4→T5→T6→T7→T8→Nat) (a0:T0) (b0:T1) (c0:T2) (d0:T3) (e0:T4) (f0:T5) (g0:T6) (h0:T7) (i0:T8) {EE Bd:(Y:Type)→(Y→List (Nat × AV))→(Y→Store)→(Y→Prop)→(Y→Nat)→Y→Prop}
    (q0:ok a0 b0 c0 d0 e0 f0 g0 h0 i0) (q1:EE (T0 × T1 × T2 × T3 × T4 × T5 × T6 × T7 × T8) (un9 U) (un9 V) (un9 ok) (un9 μ) (a0,b0,c0,d0,e0,f0,g0,h0,i0)) (q2:∀a b c d e f g h i,ok a b c d e f g h i→Bd (T0 × T1 × T2 × T3 × T4 × T5 × T6 × T7 × T8) (un9 U) (un9 V) (un9 ok) (un9 μ) (a,b,c,d,e,f,g,h,i)):
    ∃(X:Type) (U:X→List (Nat × AV)) (V:X→Store) (ok:X→Prop) (μ:X→Nat) (x0:X),(ok x0∧EE X U V ok μ x0)∧∀x,ok x→Bd X U V ok μ x:=
  ⟨T0 × T1 × T2 × T3 × T4 × T5 × T6 × T7 × T8,un9 U,un9 V,un9 ok,un9 μ,(a0,b0,c0,d0,e0,f0,g0,h0,i0),⟨q0,q1⟩,fun (a,b,c,d,e,f,g,h,i) hh=>q2 a b c d e f g h i hh⟩
theorem all6 {T0 T1 T2 T3 T4 T5:Type} {P:T0 × T1 × T2 × T3 × T4 × T5→Prop} (q:∀a b c d e f,P (a,b,c,d,e,f)):∀z,P z:=fun (a,b,c,d,e,f)=>q a b c d e f
theorem schShr {TY:List TyE} {F:Go.AM.Spec} {ops:List Oper} {t:Sch} {T0 T:List AV} {S0 S:Store} {Q:List AV→Store→Prop} (h:∀K:List AV→Store→Prop,K T S→schK TY F ops t T0 S0 K) (hq:Q T S):schK TY F ops t T0 S0 Q:=h Q hq
end Go.Proofs.YtjabhmhhhlcopaaGreatDoor
end
section
namespace Go.Proofs.YtjabhmhhhlcopaaGreatDoor
open Go Go.AM
set_option maxRecDepth 100000
def vldP (f:List Int):Prop:=(1≤f.length∧f.length≤32)∧∀x∈f,0≤x∧x<(f.length:Int)
noncomputable def vldB (f:List Int):Bool:=@decide (vldP f) (Classical.propDecidable _)
theorem vldB_true {f:List Int}:vldB f=true↔vldP f:=by unfold vldB;exact @decide_eq_true_iff _ (Classical.propDecidable _)
theorem vldB_false {f:List Int}:vldB f=false↔¬vldP f:=by unfold vldB;exact @decide_eq_false_iff_not _ (Classical.propDecidable _)
def prmP (f:List Int):Prop:=vldP f∧f.Nodup
noncomputable def prmB (f:List Int):Bool:=@decide (prmP f) (Classical.propDecidable _)
theorem prmB_true {f:List Int}:prmB f=true↔prmP f:=by unfold prmB;exact @decide_eq_true_iff _ (Classical.propDecidable _)
theorem prmB_false {f:List Int}:prmB f=false↔¬prmP f:=by unfold prmB;exact @decide_eq_false_iff_not _ (Classical.propDecidable _)
theorem len_nodup {A f:List Int} (hA:A.Nodup) (h:∀x,x∈A↔x∈f):A.length=f.length↔f.Nodup:=by
  constructor
  · intro e
    refine List.nodup_iff_pairwise_ne.2 (List.pairwise_iff_getElem.2 fun i j hi hj hij e2=>?_)
    have:=nodup_sub hA (B:=f.eraseIdx j) fun x hx=>by
      obtain ⟨k,hk,rfl⟩:=List.mem_iff_getElem.1 ((h x).1 hx)
      by_cases ek:k=j
      · subst ek
        rw [←e2,List.mem_eraseIdx_iff_getElem]
        exact ⟨i,hi,by omega,rfl⟩
      · rw [List.mem_eraseIdx_iff_getElem]
        exact ⟨k,hk,ek,rfl⟩
    rw [List.length_eraseIdx,if_pos hj] at this
    omega
  · intro hf
    exact Nat.le_antisymm (nodup_sub hA fun x hx=>(h x).1 hx) (nodup_sub hf fun x hx=>(h x).2 hx)
theorem tvalid_k (f:List Int) (hl:f.length≤140737488355328):fnK TY SP Tryz.f79 [.ro (.ints .i64 f)] (.bool (.v (vldB f))):=by
  have no:¬vldP f→(BE.lit false).val=(BE.v (vldB f)).val:=fun h=>(vldB_false.2 h).symm
  refine And.intro (fun h1=>?_) (fun h1=>?_)
  · have h1:(f.length:Int)<1:=h1
    exact And.intro (no fun h=>by have:=h.1;omega) trivial
  have h1:1≤(f.length:Int):=h1
  refine And.intro (fun h2=>?_) (fun h2=>?_)
  · have h2:32<(f.length:Int):=h2
    exact And.intro (no fun h=>by have:=h.1;omega) trivial
  have h2:(f.length:Int)≤32:=h2
  refine Exists.intro []<|lp (X:=Nat) (fun i=>[(15,.int .i64 i)]) (fun _=>[]) (fun i=>i≤f.length∧∀j,j<i→0≤f.getD j 0∧f.getD j 0<(f.length:Int)) (fun i=>f.length - i) 0 ⟨Nat.zero_le _,fun j h=>absurd h (Nat.not_lt_zero _)⟩ (by repeat' first|refine And.intro ?_ ?_|exact True.intro|(show (_:Int)=(_:Int);omega)|omega|exact rfl|(simp only [RO.len];omega)) ?_
  rintro i ⟨hi,hI⟩
  refine And.intro (fun h3=>?_) (fun h3=>?_)
  · have h3:(i:Int)<(f.length:Int):=h3
    have hm:=getD_mem (d:=0) (l:=f) (i:=i) (by omega)
    refine And.intro (by omega) ?_
    refine And.intro (fun h4=>?_) (fun h4=>?_)
    · have h4:f.getD i 0<0:=h4
      exact And.intro (no fun h=>by have:=h.2 _ hm;omega) trivial
    have h4:0≤f.getD i 0:=h4
    refine And.intro (fun h5=>?_) (fun h5=>?_)
    · have h5:(f.length:Int)≤f.getD i 0:=h5
      exact And.intro (no fun h=>by have:=h.2 _ hm;omega) trivial
    have h5:f.getD i 0<(f.length:Int):=h5
    refine And.intro (by omega) ?_
    refine nx (i+1) ⟨by omega,fun j hj=>?_⟩ (show f.length - (i+1)<f.length - i by omega) (by repeat' first|refine And.intro ?_ ?_|exact True.intro|(show (_:Int)=(_:Int);omega)|omega|exact rfl|(simp only [RO.len];omega))
    by_cases e:j=i
    · subst e;exact ⟨h4,h5⟩
    · exact hI j (by omega)
  · have h3:(f.length:Int)≤(i:Int):=h3
    refine And.intro ?_ trivial
    refine (vldB_true.2 ⟨⟨by omega,by omega⟩,fun x hx=>?_⟩).symm
    obtain ⟨j,hj,rfl⟩:=mem_getD 0 hx
    exact hI j (by omega)
theorem tvalid_fn (f:List Int):QF 79 [.ro (.ints .i64 f)] (.bool (.v (vldB f))):=mkQ Tryz.func79 (by decide+kernel) rfl (Nat.le_of_ble_eq_true rfl) fun hf=>tvalid_k f hf.1.1
theorem rvld_k (f:List Int) (hl:f.length≤140737488355328):fnK TY SP Tryz.f141 [.ro (.ints .i64 f)] (.bool (.v (vldB f))):=by
  have no:¬vldP f→(BE.lit false).val=(BE.v (vldB f)).val:=fun h=>(vldB_false.2 h).symm
  refine And.intro (fun h1=>?_) (fun h1=>?_)
  · have h1:(f.length:Int)<1:=h1
    exact And.intro (no fun h=>by have:=h.1;omega) trivial
  have h1:1≤(f.length:Int):=h1
  refine And.intro (fun h2=>?_) (fun h2=>?_)
  · have h2:32<(f.length:Int):=h2
    exact And.intro (no fun h=>by have:=h.1;omega) trivial
  have h2:(f.length:Int)≤32:=h2
  refine Exists.intro []<|lp (X:=Nat) (fun i=>[(15,.int .i64 i)]) (fun _=>[]) (fun i=>i≤f.length∧∀j,j<i→0≤f.getD j 0∧f.getD j 0<(f.length:Int)) (fun i=>f.length - i) 0 ⟨Nat.zero_le _,fun j h=>absurd h (Nat.not_lt_zero _)⟩ (by repeat' first|refine And.intro ?_ ?_|exact True.intro|(show (_:Int)=(_:Int);omega)|omega|exact rfl|(simp only [RO.len];omega)) ?_
  rintro i ⟨hi,hI⟩
  refine And.intro (fun h3=>?_) (fun h3=>?_)
  · have h3:(i:Int)<(f.length:Int):=h3
    have hm:=getD_mem (d:=0) (l:=f) (i:=i) (by omega)
    refine And.intro (by omega) ?_
    refine And.intro (fun h4=>?_) (fun h4=>?_)
    · have h4:f.getD i 0<0:=h4
      exact And.intro (no fun h=>by have:=h.2 _ hm;omega) trivial
    have h4:0≤f.getD i 0:=h4
    refine And.intro (fun h5=>?_) (fun h5=>?_)
    · have h5:(f.length:Int)≤f.getD i 0:=h5
      exact And.intro (no fun h=>by have:=h.2 _ hm;omega) trivial
    have h5:f.getD i 0<(f.length:Int):=h5
    refine And.intro (by omega) ?_
    refine nx (i+1) ⟨by omega,fun j hj=>?_⟩ (show f.length - (i+1)<f.length - i by omega) (by repeat' first|refine And.intro ?_ ?_|exact True.intro|(show (_:Int)=(_:Int);omega)|omega|exact rfl|(simp only [RO.len];omega))
    by_cases e:j=i
    · subst e;exact ⟨h4,h5⟩
    · exact hI j (by omega)
  · have h3:(f.length:Int)≤(i:Int):=h3
    refine And.intro ?_ trivial
    refine (vldB_true.2 ⟨⟨by omega,by omega⟩,fun x hx=>?_⟩).symm
    obtain ⟨j,hj,rfl⟩:=mem_getD 0 hx
    exact hI j (by omega)
theorem rvld_fn (f:List Int):QF 141 [.ro (.ints .i64 f)] (.bool (.v (vldB f))):=mkQ Tryz.func141 (by decide+kernel) rfl (Nat.le_of_ble_eq_true rfl) fun hf=>rvld_k f hf.1.1
theorem timage_fn (f:List Int) (hv:vldP f):QF 150 [.ro (.ints .i64 f)] (.new (.ints .i64 (cpI (srtI f)))):=mkQ Tryz.func150 (by decide+kernel) rfl (Nat.le_of_ble_eq_true rfl) fun _=>by
  have h1:=hv.1
  refine Or.inl (cq (tvalid_fn f) (And.intro rfl trivial) ?_)
  refine And.intro (fun h2=>?_) (fun _=>?_)
  · have h2:(!vldB f)=true:=h2
    rw [vldB_true.2 hv] at h2;exact absurd h2 (by decide)
  refine Or.inl (cq (cloneI_fn f (by omega)) (And.intro rfl trivial) ?_)
  refine Or.inr (Or.inl (cm [] [(1000,8)] (sortI_m f (by omega)) ?_))
  refine And.intro (by repeat' first|refine And.intro ?_ ?_|exact True.intro|(show (_:Int)=(_:Int);omega)|omega|exact rfl|(simp only [RO.len];omega)) ?_
  refine Or.inr (Or.inl (cm [] [(1,8)] (compactI_m (srtI f) (by rw [srtI_len];omega)) ?_))
  refine And.intro (by repeat' first|refine And.intro ?_ ?_|exact True.intro|(show (_:Int)=(_:Int);omega)|omega|exact rfl|(simp only [RO.len];omega)) ?_
  exact And.intro (by repeat' first|refine And.intro ?_ ?_|exact True.intro|(show (_:Int)=(_:Int);omega)|omega|exact rfl|(simp only [RO.len];omega)) (by repeat' first|refine And.intro ?_ ?_|exact True.intro|(show (_:Int)=(_:Int);omega)|omega|exact rfl|(simp only [RO.len];omega))
theorem trank_fn (f:List Int) (hv:vldP f):QF 80 [.ro (.ints .i64 f)] (.int .i64 ((cpI (srtI f)).length:Nat)):=mkQ Tryz.func80 (by decide+kernel) rfl (Nat.le_of_ble_eq_true rfl) fun _=>by
  refine Or.inl (cq (timage_fn f hv) (And.intro rfl trivial) ?_)
  exact And.intro rfl trivial
theorem cps_nodup (f:List Int):(cpI (srtI f)).Nodup:=(cp_spec (srtI_sorted f) _ (Nat.le_refl _)).1.imp fun {a b} h e=>by omega
theorem tperm_fn (f:List Int):QF 25 [.ro (.ints .i64 f)] (.bool (.v (prmB f))):=mkQ Tryz.func25 (by decide+kernel) rfl (Nat.le_of_ble_eq_true rfl) fun _=>by
  refine Or.inl (cq (tvalid_fn f) (And.intro rfl trivial) ?_)
  refine And.intro (fun h1=>?_) (fun h1=>?_)
  · have hv:vldP f:=vldB_true.1 h1
    refine Or.inl (cq (trank_fn f hv) (And.intro rfl trivial) ?_)
    refine And.intro ?_ trivial
    show decide (((cpI (srtI f)).length:Int)=(f.length:Int))=prmB f
    unfold prmB
    have e:((cpI (srtI f)).length:Int)=(f.length:Int)↔prmP f:=by
      rw [Int.ofNat_inj,len_nodup (cps_nodup f) (cpsrt_mem f)]
      exact ⟨fun h=>⟨hv,h⟩,fun h=>h.2⟩
    by_cases hp:prmP f
    · rw [decide_eq_true (e.2 hp)];exact (@decide_eq_true _ (Classical.propDecidable _) hp).symm
    · rw [decide_eq_false fun h=>hp (e.1 h)];exact (@decide_eq_false _ (Classical.propDecidable _) hp).symm
  · have hv:¬vldP f:=vldB_false.1 h1
    exact And.intro (prmB_false.2 fun h=>hv h.1).symm trivial
theorem tident_fn (n:Nat) (h1:1≤n) (h2:n≤32):QF 144 [.int .i64 n] (.new (.ints .i64 (disI n))):=mkQ Tryz.func144 (by decide+kernel) rfl (Nat.le_of_ble_eq_true rfl) fun _=>by
  refine And.intro (fun h=>absurd (show (n:Int)<1 from h) (by omega)) (fun _=>?_)
  refine And.intro (fun h=>absurd (show 32<(n:Int) from h) (by omega)) (fun _=>?_)
  refine And.intro (by omega) ?_
  refine And.intro (by omega) ?_
  refine Exists.intro []<|lp2 (fun (i:Nat) (_:List Int)=>[(15,.int .i64 i)]) (fun _ L=>[(12,.vec 0 (.ints .i64 L) [])]) (fun i L=>i≤n∧L.length=n∧∀j,j<i→L.getD j 0=(j:Int)) (fun i _=>n - i) 0 (List.replicate n 0) ⟨Nat.zero_le _,by simp,fun j h=>absurd h (Nat.not_lt_zero _)⟩ (by repeat' first|refine And.intro ?_ ?_|exact True.intro|(show (_:Int)=(_:Int);omega)|omega|exact rfl|(simp only [RO.len];omega)) ?_
  rintro i L ⟨hi,hL,hLj⟩
  refine And.intro (fun h1=>?_) (fun h1=>?_)
  · have h1:(i:Int)<((List.replicate (n:Int).toNat (0:Int)).length:Int):=h1
    rw [List.length_replicate] at h1
    refine And.intro (by omega) ?_
    refine And.intro (by omega) ?_
    refine And.intro (by omega) ?_
    refine nx (i+1,L.set i (i:Int)) ⟨by omega,by rw [List.length_set];exact hL,fun j hj=>?_⟩ (show n - (i+1)<n - i by omega) (by repeat' first|refine And.intro ?_ ?_|exact True.intro|(show (_:Int)=(_:Int);omega)|omega|exact rfl|(simp only [RO.len];omega))
    by_cases e:j=i
    · subst e;rw [getD_set_eq (by omega)]
    · rw [getD_set_ne (Ne.symm e)];exact hLj j (by omega)
  · have h1:((List.replicate (n:Int).toNat (0:Int)).length:Int)≤(i:Int):=h1
    rw [List.length_replicate] at h1
    refine And.intro (And.intro (by omega) ?_) trivial
    exact congrArg (RO.ints .i64) (ext_getD 0 (by rw [disI_len];exact hL) fun j hj=>by rw [hLj j (by omega),disI_get (by omega)])
end Go.Proofs.YtjabhmhhhlcopaaGreatDoor
end
section
namespace Go.Proofs.YtjabhmhhhlcopaaGreatDoor
open Go Go.AM
set_option maxRecDepth 100000
theorem slEq_fn (a:List Int):QF 170 [.ro (.ints .i64 a),.ro (.ints .i64 a)] (.bool (.lit true)):=mkQ Tryz.func170 (by decide+kernel) rfl (Nat.le_of_ble_eq_true rfl) fun hf=>by
  have ha:a.length≤140737488355328:=hf.1.1
  refine And.intro (fun h1=>absurd rfl h1) (fun _=>?_)
  refine Exists.intro []<|lp (X:=Nat) (fun k=>[(13,.int .i64 k)]) (fun _=>[]) (fun k=>k≤a.length) (fun k=>a.length - k) 0 (Nat.zero_le _) (by repeat' first|refine And.intro ?_ ?_|exact True.intro|(show (_:Int)=(_:Int);omega)|omega|exact rfl|(simp only [RO.len];omega)) ?_
  intro k hk
  refine And.intro (fun h2=>?_) (fun h2=>?_)
  · refine Or.inl<|Exists.intro [false,false,false,false,false,false,false,false,false] (And.intro (by decide+kernel) ?_)
    refine And.intro (by omega) ?_
    refine And.intro (by omega) ?_
    refine And.intro (fun h3=>absurd rfl h3) (fun _=>?_)
    refine And.intro (by omega) ?_
    exact nx (k+1) (show k+1≤a.length by omega) (show a.length - (k+1)<a.length - k by omega) (by repeat' first|refine And.intro ?_ ?_|exact True.intro|(show (_:Int)=(_:Int);omega)|omega|exact rfl|(simp only [RO.len];omega))
  · exact And.intro rfl trivial
theorem slEqU_fn (a:List (List Int × List Int)):QF 205 [.ro (.ruls a),.ro (.ruls a)] (.bool (.lit true)):=mkQ Tryz.func205 (by decide+kernel) rfl (Nat.le_of_ble_eq_true rfl) fun hf=>by
  have ha:a.length≤140737488355328:=hf.1
  refine And.intro (fun h1=>absurd rfl h1) (fun _=>?_)
  refine Exists.intro []<|lp (X:=Nat) (fun k=>[(13,.int .i64 k)]) (fun _=>[]) (fun k=>k≤a.length) (fun k=>a.length - k) 0 (Nat.zero_le _) (by repeat' first|refine And.intro ?_ ?_|exact True.intro|(show (_:Int)=(_:Int);omega)|omega|exact rfl|(simp only [RO.len];omega)) ?_
  intro k hk
  refine And.intro (fun h2=>?_) (fun h2=>?_)
  · refine Or.inl<|Exists.intro [false,false,false,false,false,false,false,false,false] (And.intro (by decide+kernel) ?_)
    refine And.intro (by omega) ?_
    refine And.intro (by omega) ?_
    refine And.intro (fun h3=>?_) (fun _=>?_)
    · have h3:(!((a.getD k ([],[])).1==(a.getD k ([],[])).1&&(a.getD k ([],[])).2==(a.getD k ([],[])).2))=true:=h3
      simp at h3
    refine And.intro (by omega) ?_
    exact nx (k+1) (show k+1≤a.length by omega) (show a.length - (k+1)<a.length - k by omega) (by repeat' first|refine And.intro ?_ ?_|exact True.intro|(show (_:Int)=(_:Int);omega)|omega|exact rfl|(simp only [RO.len];omega))
  · exact And.intro rfl trivial
theorem slEqF_fn (a:List (List Int)):QF 204 [.ro (.rows .i64 a),.ro (.rows .i64 a),.fn 170 []] (.bool (.lit true)):=mkQ Tryz.func204 (by decide+kernel) rfl (Nat.le_of_ble_eq_true rfl) fun hf=>by
  have ha:a.length≤140737488355328:=hf.1.1
  refine And.intro (fun h1=>absurd rfl h1) (fun _=>?_)
  refine Exists.intro []<|lp (X:=Nat) (fun k=>[(17,.int .i64 k)]) (fun _=>[]) (fun k=>k≤a.length) (fun k=>a.length - k) 0 (Nat.zero_le _) (by repeat' first|refine And.intro ?_ ?_|exact True.intro|(show (_:Int)=(_:Int);omega)|omega|exact rfl|(simp only [RO.len];omega)) ?_
  intro k hk
  refine And.intro (fun h2=>?_) (fun h2=>?_)
  · refine And.intro (by omega) ?_
    refine And.intro (by omega) ?_
    refine Or.inl (cq (slEq_fn (a.getD k [])) (And.intro rfl (And.intro rfl trivial)) ?_)
    refine And.intro (by omega) ?_
    exact nx (k+1) (show k+1≤a.length by omega) (show a.length - (k+1)<a.length - k by omega) (by repeat' first|refine And.intro ?_ ?_|exact True.intro|(show (_:Int)=(_:Int);omega)|omega|exact rfl|(simp only [RO.len];omega))
  · exact And.intro rfl trivial
theorem etext_fn (f:List Int) (hl:f.length≤32) (hf:∀x∈f,0≤x∧x≤255):QF 145 [.ro (.ints .i64 f)] (.str f):=mkQ Tryz.func145 (by decide+kernel) rfl (Nat.le_of_ble_eq_true rfl) fun _=>by
  refine And.intro (by omega) ?_
  refine And.intro (by omega) ?_
  refine Exists.intro []<|lp2 (fun (i:Nat) (_:List Int)=>[(11,.int .i64 i)]) (fun _ L=>[(8,.vec 0 (.ints .u8 L) [])]) (fun i L=>i≤f.length∧L.length=f.length∧∀j,j<i→L.getD j 0=f.getD j 0) (fun i _=>f.length - i) 0 (List.replicate f.length 0) ⟨Nat.zero_le _,by simp,fun j h=>absurd h (Nat.not_lt_zero _)⟩ (by repeat' first|refine And.intro ?_ ?_|exact True.intro|(show (_:Int)=(_:Int);omega)|omega|exact rfl|(simp only [RO.len];omega)) ?_
  rintro i L ⟨hi,hL,hLj⟩
  refine And.intro (fun h1=>?_) (fun h1=>?_)
  · have h1:(i:Int)<(f.length:Int):=h1
    have hil:i<f.length:=by omega
    have hm:=hf _ (getD_mem (d:=0) hil)
    refine And.intro (by omega) ?_
    refine And.intro (show (0:Int)≤f.getD i 0∧f.getD i 0≤255 from hm) ?_
    refine And.intro (by omega) ?_
    refine And.intro (by omega) ?_
    refine And.intro (by omega) ?_
    refine nx (i+1,L.set i (f.getD i 0)) ⟨by omega,by rw [List.length_set];exact hL,fun j hj=>?_⟩ (show f.length - (i+1)<f.length - i by omega) (by repeat' first|refine And.intro ?_ ?_|exact True.intro|(show (_:Int)=(_:Int);omega)|omega|exact rfl|(simp only [RO.len];omega))
    by_cases e:j=i
    · subst e;rw [getD_set_eq (by omega)]
    · rw [getD_set_ne (Ne.symm e)];exact hLj j (by omega)
  · have h1:(f.length:Int)≤(i:Int):=h1
    have e:L=f:=ext_getD 0 hL fun j hj=>hLj j (by omega)
    subst e
    exact And.intro rfl trivial
theorem Trn.vld {n:Nat} {f:List Int} (h:Trn n f) (h1:1≤n) (h2:n≤32):vldB f=true:=vldB_true.2 ⟨by rw [h.len];exact ⟨h1,h2⟩,by rw [h.len];exact h.rng⟩
theorem ecomp_fn (f g:List Int) (n:Nat) (h1:1≤n) (h2:n≤32) (hf:Trn n f) (hg:Trn n g):QF 146 [.ro (.ints .i64 f),.ro (.ints .i64 g)] (.new (.ints .i64 (cmpP f g))):=mkQ Tryz.func146 (by decide+kernel) rfl (Nat.le_of_ble_eq_true rfl) fun _=>by
  have hfl:=hf.len
  have hgl:=hg.len
  refine And.intro (fun h3=>absurd (by omega) h3) (fun _=>?_)
  refine Or.inl (cq (tvalid_fn f) (And.intro rfl trivial) ?_)
  refine And.intro (fun h=>?_) (fun _=>?_)
  · have h:(!vldB f)=true:=h
    rw [hf.vld h1 h2] at h;cases h
  refine Or.inl (cq (tvalid_fn g) (And.intro rfl trivial) ?_)
  refine And.intro (fun h=>?_) (fun _=>?_)
  · have h:(!vldB g)=true:=h
    rw [hg.vld h1 h2] at h;cases h
  refine And.intro (by omega) ?_
  refine And.intro (by omega) ?_
  refine Exists.intro []<|lp2 (fun (i:Nat) (_:List Int)=>[(28,.int .i64 i)]) (fun _ L=>[(25,.vec 0 (.ints .i64 L) [])]) (fun i L=>i≤f.length∧L.length=f.length∧∀j,j<i→L.getD j 0=(cmpP f g).getD j 0) (fun i _=>f.length - i) 0 (List.replicate f.length 0) ⟨Nat.zero_le _,by simp,fun j h=>absurd h (Nat.not_lt_zero _)⟩ (by repeat' first|refine And.intro ?_ ?_|exact True.intro|(show (_:Int)=(_:Int);omega)|omega|exact rfl|(simp only [RO.len];omega)) ?_
  rintro i L ⟨hi,hL,hLj⟩
  refine And.intro (fun h1=>?_) (fun h1=>?_)
  · have h1:(i:Int)<(f.length:Int):=h1
    have hil:i<f.length:=by omega
    have hm:=hf.rng _ (getD_mem (d:=0) hil)
    refine And.intro (by omega) ?_
    refine And.intro (show 0≤f.getD i 0∧f.getD i 0<(g.length:Int) by omega) ?_
    refine And.intro (by omega) ?_
    refine And.intro (by omega) ?_
    refine And.intro (by omega) ?_
    refine nx (i+1,L.set i (g.getD (f.getD i 0).toNat 0)) ⟨by omega,by rw [List.length_set];exact hL,fun j hj=>?_⟩ (show f.length - (i+1)<f.length - i by omega) (by repeat' first|refine And.intro ?_ ?_|exact True.intro|(show (_:Int)=(_:Int);omega)|omega|exact rfl|(simp only [RO.len];omega))
    by_cases e:j=i
    · subst e;rw [getD_set_eq (by omega),cmpP_get hil]
    · rw [getD_set_ne (Ne.symm e)];exact hLj j (by omega)
  · have h1:(f.length:Int)≤(i:Int):=h1
    refine And.intro (And.intro (by omega) ?_) trivial
    exact congrArg (RO.ints .i64) (ext_getD 0 (by rw [cmpP_len];exact hL) fun j hj=>hLj j (by omega))
end Go.Proofs.YtjabhmhhhlcopaaGreatDoor
end
