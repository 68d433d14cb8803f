import Derived.Test.YtjabhmhhhlcopaaGreatDoorAwk
import Derived.Test.YtjabhmhhhlcopaaGreatDoorBase
section
namespace Go.Proofs.YtjabhmhhhlcopaaGreatDoor
open Go Go.AM Go.CM
set_option maxRecDepth 100000
theorem callable_of {f:FuncId} {fn:Func} (h:Tryz.prog.funcs[f]? =some fn) (hn:fn.name≠ "runtime.NumGoroutine") (hb:fn.body.isSome=true):Callable Tryz.prog f:=⟨fn,h,hn,hb⟩
theorem ctzFrom_le:∀f x,Lib.ctzFrom f x≤f
  |0,_=>Nat.le_refl _
  |f+1,x=>by
   have:=ctzFrom_le f (x / 2)
   unfold Lib.ctzFrom
   split<;>omega
theorem ctz64_le (n:Nat):Lib.ctz 64 n≤64:=by
  unfold Lib.ctz
  split
  · exact Nat.le_refl _
  · exact ctzFrom_le 64 n
theorem tzK_ok:CalOk Tryz.prog tzK:=fun f args s v s' h=>by
  obtain ⟨h1,h⟩:=bt_eq h
  have h1:=beq_iff'.1 h1
  subst h1
  cases args with
  |nil=>cases h
  |cons a l=>
   cases l with
   |cons=>cases h
   |nil=>
    obtain ⟨⟨k,m⟩,h2,h3⟩:=bo_eq h
    obtain ⟨h4,h5⟩:=bt_eq h3
    obtain ⟨n,h6,h7⟩:=bo_eq h5
    cases h7
    have hk:k= .u64:=kq_eq h4
    subst hk
    refine ⟨callable_of Tryz.func239 (by decide) rfl,fun ρ w vs hd hv=>?_⟩
    cases vs with
    |nil=>exact hv.elim
    |cons u vs=>
     cases vs with
     |cons=>exact hv.2.elim
     |nil=>
      obtain ⟨e1,i1⟩:=asI_rep h2 hv.1
      have hm:m=(n:Int):=by
        cases m with
        |ofNat m=>cases h6;rfl
        |negSucc m=>cases h6
      subst hm
      have hlt:n<18446744073709551616:=by
        have:inK .u64 (n:Int):=i1
        simp [inK,IntKind.min,IntKind.max,IntKind.signed,IntKind.bits] at this
        omega
      have hc:=Any7.bits_TrailingZeros64 tzL n hlt w (fun _ j hj=>hd.lw j hj)
      have e1:u= .int .u64 (n:Int):=e1
      subst e1
      refine Calls.mono hc fun e w' ⟨he,hw⟩=>?_
      subst hw
      have hz:Lib.ctz 64 n≤64:=ctz64_le n
      exact ⟨_,he,ρ,Post.refl hd,rfl,by show inK .i64 ((Lib.ctz 64 n:Nat):Int);simp [inK,IntKind.min,IntKind.max,IntKind.signed,IntKind.bits];omega⟩
theorem setCell_heap {w:World} {b off:Nat} {cs:Array Value} {ty:TypeId} {u:Value} (hb:w.heap[b]? =some (.cells cs ty (0,0))):(w.setCell ⟨b,off,none⟩ u).heap=w.heap.setIfInBounds b (.cells (cs.setIfInBounds off u) ty (0,0)):=by
  apply Array.ext_getElem?
  intro i
  show (w.heap.modify b _)[i]? =_
  rw [Array.getElem?_modify]
  by_cases e:b=i
  · subst e
    have:=(Array.getElem?_eq_some_iff.1 hb).1
    rw [if_pos rfl,hb]
    simp [this]
  · rw [if_neg e,Array.getElem?_setIfInBounds_ne e]
theorem ccK_ok:CalOk Tryz.prog ccK:=fun f args s v s' h=>by
  obtain ⟨h1,h⟩:=bt_eq h
  have h1:=beq_iff'.1 h1
  subst h1
  cases args with
  |nil=>cases h
  |cons a l=>
   cases l with
   |cons=>cases h
   |nil=>
    obtain ⟨⟨k,off⟩,h2,h3⟩:=bo_eq h
    obtain ⟨h4,h5⟩:=bt_eq h3
    have h4:off=0:=beq_iff'.1 h4
    subst h4
    obtain ⟨⟨l,g⟩,h6,h7⟩:=bo_eq h5
    refine ⟨callable_of Tryz.func268 (by decide) rfl,fun ρ w vs hd hv=>?_⟩
    cases vs with
    |nil=>exact hv.elim
    |cons u vs=>
     cases vs with
     |cons=>exact hv.2.elim
     |nil=>
      have hu:RpC ρ (.ptr k 0) u:=by
        obtain ⟨x,x1,x2⟩:=bo_eq h2
        have:=asC_rep x1 hv.1
        cases x<;>try (cases x2;done)
        cases x2;exact this
      obtain ⟨b,c,r1,r2⟩:=hu
      subst r2
      obtain ⟨cs,ty,g5,g6,g7,g8⟩:=cells_at hd (cellsH_eq h6) r1
      have h7:ccH k l g s=some (v,s'):=h7
      have g6:l.length≤cs.size:=g6
      have g8:RpL ρ l (cs.toList.take l.length):=g8
      match l,h7,g6,g7,g8,cellsH_eq h6 with
      |[],h7,_,_,_,_=>cases h7
      |[_],h7,_,_,_,_=>cases h7
      |_::_::_::_,h7,_,_,_,_=>cases h7
      |[a0,x0],h7,g6,g7,g8,hget=>
       have g6:2≤cs.size:=g6
       have hcs:∃v0 v1 r,cs.toList=v0::v1::r:=by
         cases e:cs.toList with
         |nil=>have e2:cs.size=0:=by rw [←Array.length_toList,e];rfl
               omega
         |cons v0 r=>
          cases r with
          |nil=>have e2:cs.size=1:=by rw [←Array.length_toList,e];rfl
                omega
          |cons v1 r=>exact ⟨v0,v1,r,rfl⟩
       obtain ⟨v0,v1,r,hcs⟩:=hcs
       have g8:RpL ρ [a0,x0] (cs.toList.take 2):=g8
       rw [hcs] at g8
       obtain ⟨q1,q2,_⟩:=g8
       have hc0:w.cell? ⟨b,0,none⟩=some v0:=by
         have:cs[0]? =some v0:=by rw [←Array.getElem?_toList,hcs];rfl
         simp [World.cell?,g5,this]
       cases a0 with
       |ptr k' o=>
        obtain ⟨m1,m2⟩:=bt_eq h7
        obtain ⟨m3,m4⟩:=bt_eq m2
        cases m4
        have m1:k'=k:=beq_iff'.1 m1
        have m3:o=0:=beq_iff'.1 m3
        subst m1;subst m3
        obtain ⟨b',c',z1,z2⟩:=q1
        rw [r1] at z1;cases z1
        subst z2
        refine Calls.mono (cc_used b w hc0) fun e w' ⟨he,hw⟩=>?_
        subst hw
        exact ⟨_,he,ρ,Post.refl hd,_,rfl,trivial⟩
       |nilp=>
        cases g with
        |none=>cases h7
        |some p=>
         obtain ⟨z,t⟩:=p
         obtain ⟨m1,m2⟩:=bt_eq h7
         obtain ⟨m3,m4⟩:=bt_eq m2
         cases m4
         have n1:z=0:=beq_iff'.1 m1
         have n3:t=258:=beq_iff'.1 m3
         clear m1 m3 m2
         subst n1
         subst n3
         have hty:ty=258:=g7.1
         have hsz:cs.size=2:=g7.2.1 rfl
         subst hty
         have q1:v0= .pointer none:=q1
         subst q1
         refine Calls.mono (cc_fresh b w hc0 (by simp [World.shape?,g5,hsz]) (by simp [World.frozen?,g5])) fun e w' ⟨he,hw⟩=>?_
         subst hw
         have hr:r=[]:=by
           have:=congrArg List.length hcs
           rw [Array.length_toList,hsz] at this
           cases r with
           |nil=>rfl
           |cons=>simp at this
         subst hr
         refine ⟨_,he,ρ,Post.write hd hget r1 (setCell_heap g5) ⟨⟨rfl,rfl⟩,rfl,Nat.le_refl _⟩ ⟨_,_,rfl,by simp [hsz],⟨rfl,fun _=>by simp [hsz],fun h=>absurd rfl h⟩,?_⟩,_,rfl,trivial⟩
         have:(cs.setIfInBounds 0 (.pointer (some ⟨b,0,none⟩))).toList=[.pointer (some ⟨b,0,none⟩),v1]:=by
           rw [Array.toList_setIfInBounds,hcs];rfl
         rw [this]
         exact ⟨⟨b,c,r1,rfl⟩,q2,trivial⟩
       |_=>cases h7
theorem topK_ok:CalOk Tryz.prog topK:=fun f args s v s' h=>by
  unfold topK at h
  split at h
  · rename_i r hr
    cases h
    exact ccK_ok f args s v s' hr
  · exact tzK_ok f args s v s' h
theorem awakeT_fn:QF 10 [] (.bool (.lit true)):=
  fn_true (K:=KT) tyOk zOk topK_ok (fun _ h=>by cases h) (fun p h=>by
    have hp:p=(285,5):=by
      simp only [pairB] at h
      split at h
      · rename_i h1
        rw [Bool.and_eq_true] at h1
        have a1:=beq_iff'.1 h1.1
        have a2:=beq_iff'.1 h1.2
        exact Prod.ext a1 a2
      · cases h
    subst hp
    exact ⟨by kernel_rfl,by kernel_rfl⟩) mixed (names_of namesOk) awake_run
end Go.Proofs.YtjabhmhhhlcopaaGreatDoor
end
section
namespace Go.Proofs.YtjabhmhhhlcopaaGreatDoor
open Go Go.AM
section
variable {α β:Type} [DecidableEq α] [DecidableEq β]
def addNew (acc:List α) (x:α):List α:=if x∈acc then acc else acc++[x]
def firsts (l:List α):List α:=l.foldl addNew []
def canon (l:List α):List Int:=l.map fun x=>(((firsts l).idxOf x:Nat):Int)
theorem foldNew_mem {l:List α}:∀{acc:List α} {x:α},x∈l.foldl addNew acc↔x∈acc∨x∈l:=by
  induction l with
  |nil=>simp
  |cons a l ih=>
   intro acc x
   rw [List.foldl_cons,ih,addNew]
   split
   · rename_i h
     constructor
     · rintro (h'|h')
       · exact .inl h'
       · exact .inr (List.mem_cons_of_mem _ h')
     · rintro (h'|h')
       · exact .inl h'
       · rcases List.mem_cons.1 h' with rfl|h'
         · exact .inl h
         · exact .inr h'
   · simp only [List.mem_append,List.mem_cons,or_assoc,List.not_mem_nil,false_or]
theorem mem_firsts {l:List α} {x:α}:x∈firsts l↔x∈l:=by simp [firsts,foldNew_mem]
theorem foldNew_pre {l:List α}:∀{acc:List α},∃t,l.foldl addNew acc=acc++t:=by
  induction l with
  |nil=>exact fun {acc}=>⟨[],by simp⟩
  |cons a l ih=>
   intro acc
   obtain ⟨t,ht⟩:=ih (acc:=addNew acc a)
   rw [List.foldl_cons,ht,addNew]
   split
   · exact ⟨t,rfl⟩
   · exact ⟨a::t,by simp⟩
theorem firsts_append {l m:List α}:∃t,firsts (l++m)=firsts l++t:=by
  rw [firsts,List.foldl_append];exact foldNew_pre
theorem firsts_snoc {l:List α} {x:α}:firsts (l++[x])=if x∈l then firsts l else firsts l++[x]:=by
  rw [firsts,List.foldl_append]
  show addNew (firsts l) x=_
  simp only [addNew,mem_firsts]
theorem idx_append {l m:List α} {x:α} (h:x∈l):(firsts (l++m)).idxOf x=(firsts l).idxOf x:=by
  obtain ⟨t,ht⟩:=firsts_append (l:=l) (m:=m)
  rw [ht,List.idxOf_append,if_pos (mem_firsts.2 h)]
theorem canon_length (l:List α):(canon l).length=l.length:=by simp [canon]
omit [DecidableEq α] in
theorem take_get {l:List α} {i:Nat} {d:α} (h:i<l.length):l.take (i+1)=l.take i++[l.getD i d]:=by
  rw [List.take_add_one];simp [List.getD,h]
theorem canon_at {l:List α} {d:α} {i:Nat} (h:i<l.length):
    (canon l).getD i 0=if l.getD i d∈l.take i then (((firsts (l.take i)).idxOf (l.getD i d):Nat):Int) else ((firsts (l.take i)).length:Nat):=by
  have e:(canon l).getD i 0=(((firsts l).idxOf (l.getD i d):Nat):Int):=by
    simp [canon,List.getD,h]
  rw [e]
  have hl:l=l.take (i+1)++l.drop (i+1):=(List.take_append_drop _ _).symm
  have hm:l.getD i d∈l.take (i+1):=by rw [take_get (d:=d) h];simp
  have e2:(firsts l).idxOf (l.getD i d)=(firsts (l.take (i+1))).idxOf (l.getD i d):=by
    have:=idx_append (m:=l.drop (i+1)) hm
    rwa [←hl] at this
  rw [e2,take_get (d:=d) h,firsts_snoc]
  split
  · rfl
  · rename_i hn
    rw [List.idxOf_append,if_neg (fun h=>hn (mem_firsts.1 h))]
    simp
theorem canon_eq_iff {l:List α} {d:α} {i j:Nat} (hi:i<l.length) (hj:j<l.length):(canon l).getD i 0=(canon l).getD j 0↔l.getD i d=l.getD j d:=by
  have e:∀{i},i<l.length→(canon l).getD i 0=(((firsts l).idxOf (l.getD i d):Nat):Int):=fun {i} h=>by
    simp [canon,List.getD,h]
  rw [e hi,e hj]
  constructor
  · intro h
    have h:(firsts l).idxOf (l.getD i d)=(firsts l).idxOf (l.getD j d):=by exact_mod_cast h
    have m1:l.getD i d∈firsts l:=mem_firsts.2 (getD_mem hi)
    have m2:l.getD j d∈firsts l:=mem_firsts.2 (getD_mem hj)
    have h1:=List.getElem_idxOf (List.idxOf_lt_length_of_mem m1)
    have h2:=List.getElem_idxOf (List.idxOf_lt_length_of_mem m2)
    rw [←h1,←h2]
    congr 1
  · intro h;rw [h]
theorem firsts_le (l:List α):(firsts l).length≤l.length:=by
  have:∀(l acc:List α),(l.foldl addNew acc).length≤acc.length+l.length:=by
    intro l
    induction l with
    |nil=>simp
    |cons a l ih=>
     intro acc
     rw [List.foldl_cons]
     have:=ih (addNew acc a)
     have h2:(addNew acc a).length≤acc.length+1:=by unfold addNew;split<;>simp
     simp only [List.length_cons];omega
  simpa [firsts] using this l []
theorem canon_congr {l:List α} {m:List β} {d:α} {e:β} (hl:l.length=m.length) (h:∀i j,i<l.length→j<l.length→(l.getD i d=l.getD j d↔m.getD i e=m.getD j e)):canon l=canon m:=by
  have key:∀i,i≤l.length→(firsts (l.take i)).length=(firsts (m.take i)).length∧∀j,j<i→(firsts (l.take i)).idxOf (l.getD j d)=(firsts (m.take i)).idxOf (m.getD j e):=by
    intro i
    induction i with
    |zero=>exact fun _=>⟨rfl,fun j hj=>absurd hj (Nat.not_lt_zero _)⟩
    |succ i ih=>
     intro hi
     obtain ⟨h1,h2⟩:=ih (by omega)
     have hil:i<l.length:=by omega
     have him:i<m.length:=by omega
     have mem:l.getD i d∈l.take i↔m.getD i e∈m.take i:=by
       constructor
       · intro hm
         obtain ⟨j,hj,hje⟩:=mem_getD d hm
         rw [List.length_take] at hj
         have hj':j<i:=by omega
         have e1:(l.take i).getD j d=l.getD j d:=by simp [List.getD,hj']
         rw [e1] at hje
         have:=(h j i (by omega) hil).1 hje
         rw [←this]
         have e2:(m.take i).getD j e=m.getD j e:=by simp [List.getD,hj']
         rw [←e2]
         exact getD_mem (by rw [List.length_take];omega)
       · intro hm
         obtain ⟨j,hj,hje⟩:=mem_getD e hm
         rw [List.length_take] at hj
         have hj':j<i:=by omega
         have e1:(m.take i).getD j e=m.getD j e:=by simp [List.getD,hj']
         rw [e1] at hje
         have:=(h j i (by omega) hil).2 hje
         rw [←this]
         have e2:(l.take i).getD j d=l.getD j d:=by simp [List.getD,hj']
         rw [←e2]
         exact getD_mem (by rw [List.length_take];omega)
     have jl:∀j,j<i→l.getD j d∈l.take i:=fun j hj=>by
       have e2:(l.take i).getD j d=l.getD j d:=by simp [List.getD,hj]
       rw [←e2];exact getD_mem (by rw [List.length_take];omega)
     have jm:∀j,j<i→m.getD j e∈m.take i:=fun j hj=>by
       have e2:(m.take i).getD j e=m.getD j e:=by simp [List.getD,hj]
       rw [←e2];exact getD_mem (by rw [List.length_take];omega)
     have fl:=firsts_snoc (l:=l.take i) (x:=l.getD i d)
     have fm:=firsts_snoc (l:=m.take i) (x:=m.getD i e)
     rw [←take_get hil] at fl
     rw [←take_get him] at fm
     by_cases hm:l.getD i d∈l.take i
     · rw [if_pos hm] at fl
       rw [if_pos (mem.1 hm)] at fm
       rw [fl,fm]
       refine ⟨h1,fun j hj=>?_⟩
       by_cases hji:j<i
       · exact h2 j hji
       · have:j=i:=by omega
         subst this
         obtain ⟨j',hj',hje⟩:=mem_getD d hm
         rw [List.length_take] at hj'
         have hj2:j'<j:=by omega
         have e1:(l.take j).getD j' d=l.getD j' d:=by simp [List.getD,hj2]
         rw [e1] at hje
         rw [←hje,←(h j' j (by omega) hil).1 hje]
         exact h2 j' hj2
     · rw [if_neg hm] at fl
       rw [if_neg (fun h=>hm (mem.2 h))] at fm
       rw [fl,fm]
       refine ⟨by simp [h1],fun j hj=>?_⟩
       by_cases hji:j<i
       · rw [List.idxOf_append,if_pos (mem_firsts.2 (jl j hji)),List.idxOf_append,if_pos (mem_firsts.2 (jm j hji))]
         exact h2 j hji
       · have:j=i:=by omega
         subst this
         rw [List.idxOf_append,if_neg (fun h=>hm (mem_firsts.1 h)),List.idxOf_append,if_neg (fun h=>hm (mem.2 (mem_firsts.1 h)))]
         simp [h1]
  have:=key l.length (Nat.le_refl _)
  rw [List.take_length,hl,List.take_length] at this
  apply List.ext_getElem
  · simp [canon,hl]
  · intro i h1 h2
    simp only [canon,List.length_map] at h1 h2
    have:=this.2 i h2
    simp only [List.getD,List.getElem?_eq_getElem h1,List.getElem?_eq_getElem h2,Option.getD_some] at this
    simp [canon,this]
end
theorem canon_idem (l:List Int):canon (canon l)=canon l:=
  canon_congr (d:=0) (e:=0) (canon_length l) fun i j hi hj=>by
    rw [canon_length] at hi hj
    exact canon_eq_iff hi hj
def validP (p:List Int):Prop:=p.length≤4096∧canon p=p
instance (p:List Int):Decidable (validP p):=by unfold validP;infer_instance
theorem firsts_range {n:Nat} {p:List Int} (h:firsts p=(List.range n).map (fun (c:Nat)=>(c:Int))):∀x:Int,(0≤x∧x<n)↔x∈p:=fun x=>by
  rw [←mem_firsts,h,List.mem_map]
  constructor
  · rintro ⟨h1,h2⟩
    exact ⟨x.toNat,by rw [List.mem_range];omega,by omega⟩
  · rintro ⟨c,h1,rfl⟩
    rw [List.mem_range] at h1
    omega
theorem idx_range {n:Nat} {x:Int} (h:0≤x∧x<n):(((List.range n).map (fun (c:Nat)=>(c:Int))).idxOf x:Nat)=x.toNat:=by
  have hn:((List.range n).map (fun (c:Nat)=>(c:Int))).Nodup:=by
    rw [List.Nodup,List.pairwise_map]
    exact List.nodup_range.imp fun h e=>h (by exact_mod_cast e)
  have hlt:x.toNat<((List.range n).map (fun (c:Nat)=>(c:Int))).length:=by simp;omega
  have:=hn.idxOf_getElem x.toNat hlt
  rw [←this]
  congr 1
  simp;omega
def stepOk (p:List Int) (i:Nat):Prop:=0≤p.getD i 0∧p.getD i 0≤(firsts (p.take i)).length
theorem firsts_valid {p:List Int}:∀{i:Nat},i≤p.length→(∀j,j<i→stepOk p j)→firsts (p.take i)=(List.range (firsts (p.take i)).length).map (fun (c:Nat)=>(c:Int))
  |0,_,_=>by simp [firsts]
  |i+1,hi,h=>by
   have ih:=firsts_valid (p:=p) (i:=i) (by omega) fun j hj=>h j (by omega)
   have hs:=h i (by omega)
   have hil:i<p.length:=by omega
   have fl:=firsts_snoc (l:=p.take i) (x:=p.getD i 0)
   rw [←take_get hil] at fl
   have hr:=firsts_range ih (p.getD i 0)
   rw [fl]
   split
   · exact ih
   · rename_i hm
     have:p.getD i 0=(firsts (p.take i)).length:=by
       unfold stepOk at hs
       rcases Int.lt_or_eq_of_le hs.2 with h1|h1
       · exact absurd (hr.1 ⟨hs.1,h1⟩) hm
       · exact h1
     rw [List.length_append,List.length_singleton,List.range_succ,List.map_append,←ih,this]
     simp
theorem canon_fix {p:List Int}:canon p=p↔∀i,i<p.length→stepOk p i:=by
  constructor
  · intro h i hi
    have:=canon_at (d:=0) hi
    rw [h] at this
    unfold stepOk
    rw [this]
    split
    · rename_i hm
      have:=List.idxOf_lt_length_of_mem (mem_firsts.2 hm)
      omega
    · omega
  · intro h
    have hf:=firsts_valid (Nat.le_refl _) h
    rw [List.take_length] at hf
    apply List.ext_getElem
    · exact canon_length p
    · intro i h1 h2
      have hm:p[i]∈p:=List.getElem_mem h2
      have hr:=(firsts_range hf p[i]).2 hm
      have e:(firsts p).idxOf p[i]=p[i].toNat:=by rw [hf];exact idx_range hr
      simp only [canon,List.getElem_map,e]
      omega
def classN (p:List Int):Nat:=(firsts p).length
theorem valid_range {p:List Int} (h:canon p=p) (x:Int):(0≤x∧x<classN p)↔x∈p:=by
  have hf:=firsts_valid (Nat.le_refl _) (canon_fix.1 h)
  rw [List.take_length] at hf
  exact firsts_range hf x
def classes (n:Nat) (p:List Int):List (List Int):=(List.range n).map fun (c:Nat)=>(((List.range p.length).filter fun i=>p.getD i 0=(c:Int)).map fun (i:Nat)=>(i:Int))
theorem classes_length (n:Nat) (p:List Int):(classes n p).length=n:=by simp [classes]
theorem classes_getD {n:Nat} {p:List Int} {c:Nat} (h:c<n):(classes n p).getD c []=((List.range p.length).filter fun i=>p.getD i 0=(c:Int)).map fun (i:Nat)=>(i:Int):=by
  unfold classes
  rw [List.getD,List.getElem?_map,List.getElem?_range h]
  rfl
theorem mem_classes {n:Nat} {p:List Int} {c:Nat} (h:c<n) {x:Int}:x∈(classes n p).getD c []↔0≤x∧x<p.length∧p.getD x.toNat 0=c:=by
  rw [classes_getD h,List.mem_map]
  constructor
  · rintro ⟨i,h1,rfl⟩
    rw [List.mem_filter,List.mem_range] at h1
    simp only [decide_eq_true_eq] at h1
    exact ⟨by omega,by omega,by simpa using h1.2⟩
  · rintro ⟨h1,h2,h3⟩
    refine ⟨x.toNat,?_,by omega⟩
    rw [List.mem_filter,List.mem_range]
    simp only [decide_eq_true_eq]
    exact ⟨by omega,h3⟩
section
variable {α:Type} [DecidableEq α]
def mapOf (key:α→List Int) (n:Nat) (fs:List α):List (List Int × Int):=(fs.zipIdx n).map fun e=>(key e.1,((e.2:Nat):Int))
omit [DecidableEq α] in
theorem mapOf_length {key:α→List Int} {n:Nat} {fs:List α}:(mapOf key n fs).length=fs.length:=by simp [mapOf]
omit [DecidableEq α] in
theorem mapOf_snoc {key:α→List Int} {fs:List α} {x:α}:mapOf key 0 (fs++[x])=mapOf key 0 fs++[(key x,(fs.length:Int))]:=by
  simp [mapOf,List.zipIdx_append]
theorem getM_mapOf {key:α→List Int} (hk:∀a b,key a=key b→a=b) {x:α}:∀{fs:List α} {n:Nat},getM (mapOf key n fs) (key x)=if x∈fs then some (((n+fs.idxOf x:Nat)):Int) else none
  |[],n=>rfl
  |a::fs,n=>by
   show (if key a=key x then some (n:Int) else getM (mapOf key (n+1) fs) (key x))=_
   by_cases h:a=x
   · subst h;simp
   · have h1:key a≠key x:=fun e=>h (hk _ _ e)
     have h2:(x∈a::fs)↔x∈fs:=by simp [Ne.symm h]
     rw [if_neg h1,getM_mapOf hk]
     by_cases hm:x∈fs
     · rw [if_pos hm,if_pos (h2.2 hm),List.idxOf_cons]
       have:(a==x)=false:=by simpa using h
       rw [this];simp only [cond_false];congr 2;omega
     · rw [if_neg hm,if_neg (fun h=>hm (h2.1 h))]
theorem setM_new:∀{m:List (List Int × Int)} {k:List Int} {v:Int},getM m k=none→setM m k v=m++[(k,v)]
  |[],_,_,_=>rfl
  |p::m,k,v,h=>by
   simp only [getM] at h
   split at h
   · cases h
   · rename_i hne
     simp [setM,hne,setM_new h]
end
end Go.Proofs.YtjabhmhhhlcopaaGreatDoor
end
