import Derived.Test.YtjabhmhhhlcopaaGreatDoorAwk
import Derived.Test.YtjabhmhhhlcopaaGreatDoorBase
section
namespace Go.Proofs.YtjabhmhhhlcopaaGreatDoor
open Go Go.AM Go.CM
set_option maxRecDepth 100000
theorem callable_of {f:FuncId} {fn:Func} (h:Tryz.prog.funcs[f]? =some fn) (hn:fn.name≠ "runtime.NumGoroutine") (hb:fn.body.isSome=true):Callable Tryz.prog f:=⟨fn,h,hn,hb⟩
theorem ctzFrom_le:∀f x,Lib.ctzFrom f x≤f
  |0,_=>Nat.le_refl _
  |f+1,x=>by
   have:=ctzFrom_le f (x / 2)
   unfold Lib.ctzFrom
   split<;>omega
theorem ctz64_le (n:Nat):Lib.ctz 64 n≤64:=by
  unfold Lib.ctz
  split
  · exact Nat.le_refl _
  · exact ctzFrom_le 64 n
theorem tzK_ok:CalOk Tryz.prog tzK:=fun f args s v s' h=>by
  obtain ⟨h1,h⟩:=bt_eq h
  have h1:=beq_iff'.1 h1
  subst h1
  cases args with
  |nil=>cases h
  |cons a l=>
   cases l with
   |cons=>cases h
   |nil=>
    obtain ⟨⟨k,m⟩,h2,h3⟩:=bo_eq h
    obtain ⟨h4,h5⟩:=bt_eq h3
    obtain ⟨n,h6,h7⟩:=bo_eq h5
    cases h7
    have hk:k= .u64:=kq_eq h4
    subst hk
    refine ⟨callable_of Tryz.func239 (by decide) rfl,fun ρ w vs hd hv=>?_⟩
    cases vs with
    |nil=>exact hv.elim
    |cons u vs=>
     cases vs with
     |cons=>exact hv.2.elim
     |nil=>
      obtain ⟨e1,i1⟩:=asI_rep h2 hv.1
      have hm:m=(n:Int):=by
        cases m with
        |ofNat m=>cases h6;rfl
        |negSucc m=>cases h6
      subst hm
      have hlt:n<18446744073709551616:=by
        have:inK .u64 (n:Int):=i1
        simp [inK,IntKind.min,IntKind.max,IntKind.signed,IntKind.bits] at this
        omega
      have hc:=Any7.bits_TrailingZeros64 tzL n hlt w (fun _ j hj=>hd.lw j hj)
      have e1:u= .int .u64 (n:Int):=e1
      subst e1
      refine Calls.mono hc fun e w' ⟨he,hw⟩=>?_
      subst hw
      have hz:Lib.ctz 64 n≤64:=ctz64_le n
      exact ⟨_,he,ρ,Post.refl hd,rfl,by show inK .i64 ((Lib.ctz 64 n:Nat):Int);simp [inK,IntKind.min,IntKind.max,IntKind.signed,IntKind.bits];omega⟩
theorem setCell_heap {w:World} {b off:Nat} {cs:Array Value} {ty:TypeId} {u:Value} (hb:w.heap[b]? =some (.cells cs ty (0,0))):(w.setCell ⟨b,off,none⟩ u).heap=w.heap.setIfInBounds b (.cells (cs.setIfInBounds off u) ty (0,0)):=by
  apply Array.ext_getElem?
  intro i
  show (w.heap.modify b _)[i]? =_
  rw [Array.getElem?_modify]
  by_cases e:b=i
  · subst e
    have:=(Array.getElem?_eq_some_iff.1 hb).1
    rw [if_pos rfl,hb]
    simp [this]
  · rw [if_neg e,Array.getElem?_setIfInBounds_ne e]
theorem ccK_ok:CalOk Tryz.prog ccK:=fun f args s v s' h=>by
  obtain ⟨h1,h⟩:=bt_eq h
  have h1:=beq_iff'.1 h1
  subst h1
  cases args with
  |nil=>cases h
  |cons a l=>
   cases l with
   |cons=>cases h
   |nil=>
    obtain ⟨⟨k,off⟩,h2,h3⟩:=bo_eq h
    obtain ⟨h4,h5⟩:=bt_eq h3
    have h4:off=0:=beq_iff'.1 h4
    subst h4
    obtain ⟨⟨l,g⟩,h6,h7⟩:=bo_eq h5
    refine ⟨callable_of Tryz.func268 (by decide) rfl,fun ρ w vs hd hv=>?_⟩
    cases vs with
    |nil=>exact hv.elim
    |cons u vs=>
     cases vs with
     |cons=>exact hv.2.elim
     |nil=>
      have hu:RpC ρ (.ptr k 0) u:=by
        obtain ⟨x,x1,x2⟩:=bo_eq h2
        have:=asC_rep x1 hv.1
        cases x<;>try (cases x2;done)
        cases x2;exact this
      obtain ⟨b,c,r1,r2⟩:=hu
      subst r2
      obtain ⟨cs,ty,g5,g6,g7,g8⟩:=cells_at hd (cellsH_eq h6) r1
      have h7:ccH k l g s=some (v,s'):=h7
      have g6:l.length≤cs.size:=g6
      have g8:RpL ρ l (cs.toList.take l.length):=g8
      match l,h7,g6,g7,g8,cellsH_eq h6 with
      |[],h7,_,_,_,_=>cases h7
      |[_],h7,_,_,_,_=>cases h7
      |_::_::_::_,h7,_,_,_,_=>cases h7
      |[a0,x0],h7,g6,g7,g8,hget=>
       have g6:2≤cs.size:=g6
       have hcs:∃v0 v1 r,cs.toList=v0::v1::r:=by
         cases e:cs.toList with
         |nil=>have e2:cs.size=0:=by rw [←Array.length_toList,e];rfl
               omega
         |cons v0 r=>
          cases r with
          |nil=>have e2:cs.size=1:=by rw [←Array.length_toList,e];rfl
                omega
          |cons v1 r=>exact ⟨v0,v1,r,rfl⟩
       obtain ⟨v0,v1,r,hcs⟩:=hcs
       have g8:RpL ρ [a0,x0] (cs.toList.take 2):=g8
       rw [hcs] at g8
       obtain ⟨q1,q2,_⟩:=g8
       have hc0:w.cell? ⟨b,0,none⟩=some v0:=by
         have:cs[0]? =some v0:=by rw [←Array.getElem?_toList,hcs];rfl
         simp [World.cell?,g5,this]
       cases a0 with
       |ptr k' o=>
        obtain ⟨m1,m2⟩:=bt_eq h7
        obtain ⟨m3,m4⟩:=bt_eq m2
        cases m4
        have m1:k'=k:=beq_iff'.1 m1
        have m3:o=0:=beq_iff'.1 m3
        subst m1;subst m3
        obtain ⟨b',c',z1,z2⟩:=q1
        rw [r1] at z1;cases z1
        subst z2
        refine Calls.mono (cc_used b w hc0) fun e w' ⟨he,hw⟩=>?_
        subst hw
        exact ⟨_,he,ρ,Post.refl hd,_,rfl,trivial⟩
       |nilp=>
        cases g with
        |none=>cases h7
        |some p=>
         obtain ⟨z,t⟩:=p
         obtain ⟨m1,m2⟩:=bt_eq h7
         obtain ⟨m3,m4⟩:=bt_eq m2
         cases m4
         have n1:z=0:=beq_iff'.1 m1
         have n3:t=258:=beq_iff'.1 m3
         clear m1 m3 m2
         subst n1
         subst n3
         have hty:ty=258:=g7.1
         have hsz:cs.size=2:=g7.2.1 rfl
         subst hty
         have q1:v0= .pointer none:=q1
         subst q1
         refine Calls.mono (cc_fresh b w hc0 (by simp [World.shape?,g5,hsz]) (by simp [World.frozen?,g5])) fun e w' ⟨he,hw⟩=>?_
         subst hw
         have hr:r=[]:=by
           have:=congrArg List.length hcs
           rw [Array.length_toList,hsz] at this
           cases r with
           |nil=>rfl
           |cons=>simp at this
         subst hr
         refine ⟨_,he,ρ,Post.write hd hget r1 (setCell_heap g5) ⟨⟨rfl,rfl⟩,rfl,Nat.le_refl _⟩ ⟨_,_,rfl,by simp [hsz],⟨rfl,fun _=>by simp [hsz],fun h=>absurd rfl h⟩,?_⟩,_,rfl,trivial⟩
         have:(cs.setIfInBounds 0 (.pointer (some ⟨b,0,none⟩))).toList=[.pointer (some ⟨b,0,none⟩),v1]:=by
           rw [Array.toList_setIfInBounds,hcs];rfl
         rw [this]
         exact ⟨⟨b,c,r1,rfl⟩,q2,trivial⟩
       |_=>cases h7
theorem topK_ok:CalOk Tryz.prog topK:=fun f args s v s' h=>by
  unfold topK at h
  split at h
  · rename_i r hr
    cases h
    exact ccK_ok f args s v s' hr
  · exact tzK_ok f args s v s' h
theorem awakeT_fn:QF 10 [] (.bool (.lit true)):=
  fn_true (K:=KT) tyOk zOk topK_ok (fun _ h=>by cases h) (fun p h=>by
    have hp:p=(285,5):=by
      simp only [pairB] at h
      split at h
      · rename_i h1
        rw [Bool.and_eq_true] at h1
        have a1:=beq_iff'.1 h1.1
        have a2:=beq_iff'.1 h1.2
        exact Prod.ext a1 a2
      · cases h
    subst hp
    exact ⟨by kernel_rfl,by kernel_rfl⟩) mixed (names_of namesOk) awake_run
end Go.Proofs.YtjabhmhhhlcopaaGreatDoor
end
section
namespace Go.Proofs.YtjabhmhhhlcopaaGreatDoor
open Go Go.AM
section
variable {α β:Type} [DecidableEq α] [DecidableEq β]
def addNew (acc:List α) (x:α):List α:=if x∈acc then acc else acc++[x]
def firsts (l:List α):List α:=l.foldl addNew []
def canon (l:List α):List Int:=l.map fun x=>(((firsts l).idxOf x:Nat):Int)
theorem foldNew_mem {l:List α}:∀{acc:List α} {x:α},x∈l.foldl addNew acc↔x∈acc∨x∈l:=by
  induction l with
  |nil=>simp
  |cons a l ih=>
   intro acc x
   rw [List.foldl_cons,ih,addNew]
   split
   · rename_i h
     constructor
     · rintro (h'|h')
       · exact .inl h'
       · exact .inr (List.mem_cons_of_mem _ h')
     · rintro (h'|h')
       · exact .inl h'
       · rcases List.mem_cons.1 h' with rfl|h'
         · exact .inl h
         · exact .inr h'
   · simp only [List.mem_append,List.mem_cons,or_assoc,List.not_mem_nil,false_or]
theorem mem_firsts {l:List α} {x:α}:x∈firsts l↔x∈l:=by simp [firsts,foldNew_mem]
theorem foldNew_pre {l:List α}:∀{acc:List α},∃t,l.foldl addNew acc=acc++t:=by
  induction l with
  |nil=>exact fun {acc}=>⟨[],by simp⟩
  |cons a l ih=>
   intro acc
   obtain ⟨t,ht⟩:=ih (acc:=addNew acc a)
   rw [List.foldl_cons,ht,addNew]
   split
   · exact ⟨t,rfl⟩
   · exact ⟨a::t,by simp⟩
theorem firsts_append {l m:List α}:∃t,firsts (l++m)=firsts l++t:=by
  rw [firsts,List.foldl_append];exact foldNew_pre
theorem firsts_snoc {l:List α} {x:α}:firsts (l++[x])=if x∈l then firsts l else firsts l++[x]:=by
  rw [firsts,List.foldl_append]
  show addNew (firsts l) x=_
  simp only [addNew,mem_firsts]
theorem idx_append {l m:List α} {x:α} (h:x∈l):(firsts (l++m)).idxOf x=(firsts l).idxOf x:=by
  obtain ⟨t,ht⟩:=firsts_append (l:=l) (m:=m)
  rw [ht,List.idxOf_append,if_pos (mem_firsts.2 h)]
theorem canon_length (l:List α):(canon l).length=l.length:=by simp [canon]
omit [DecidableEq α] in
theorem take_get {l:List α} {i:Nat} {d:α} (h:i<l.length):l.take (i+1)=l.take i++[l.getD i d]:=by
  rw [List.take_add_one];simp [List.getD,h]
theorem canon_at {l:List α} {d:α} {i:Nat} (h:i<l.length):
    (canon l).getD i 0=if l.getD i d∈l.take i then (((firsts (l.take i)).idxOf (l.getD i d):Nat):Int) else ((firsts (l.take i)).length:Nat):=by
  have e:(canon l).getD i 0=(((firsts l).idxOf (l.getD i d):Nat):Int):=by
    simp [canon,List.getD,h]
  rw [e]
  have hl:l=l.take (i+1)++l.drop (i+1):=(List.take_append_drop _ _).symm
  have hm:l.getD i d∈l.take (i+1):=by rw [take_get (d:=d) h];simp
  have e2:(firsts l).idxOf (l.getD i d)=(firsts (l.take (i+1))).idxOf (l.getD i d):=by
    have:=idx_append (m:=l.drop (i+1)) hm
    rwa [←hl] at this
  rw [e2,take_get (d:=d) h,firsts_snoc]
  split
  · rfl
  · rename_i hn
    rw [List.idxOf_append,if_neg (fun h=>hn (mem_firsts.1 h))]
    simp
theorem canon_eq_iff {l:List α} {d:α} {i j:Nat} (hi:i<l.length) (hj:j<l.length):(canon l).getD i 0=(canon l).getD j 0↔l.getD i d=l.getD j d:=by
  have e:∀{i},i<l.length→(canon l).getD i 0=(((firsts l).idxOf (l.getD i d):Nat):Int):=fun {i} h=>by
    simp [canon,List.getD,h]
  rw [e hi,e hj]
  constructor
  · intro h
    have h:(firsts l).idxOf (l.getD i d)=(firsts l).idxOf (l.getD j d):=by exact_mod_cast h
    have m1:l.getD i d∈firsts l:=mem_firsts.2 (getD_mem hi)
    have m2:l.getD j d∈firsts l:=mem_firsts.2 (getD_mem hj)
    have h1:=List.getElem_idxOf (List.idxOf_lt_length_of_mem m1)
    have h2:=List.getElem_idxOf (List.idxOf_lt_length_of_mem m2)
    rw [←h1,←h2]
    congr 1
  · intro h;rw [h]
theorem firsts_le (l:List α):(firsts l).length≤l.length:=by
  have:∀(l acc:List α),(l.foldl addNew acc).length≤acc.length+l.length:=by
    intro l
    induction l with
    |nil=>simp
    |cons a l ih=>
     intro acc
     rw [List.foldl_cons]
     have:=ih (addNew acc a)
     have h2:(addNew acc a).length≤acc.length+1:=by unfold addNew;split<;>simp
     simp only [List.length_cons];omega
  simpa [firsts] using this l []
theorem canon_congr {l:List α} {m:List β} {d:α} {e:β} (hl:l.length=m.length) (h:∀i j,i<l.length→j<l.length→(l.getD i d=l.getD j d↔m.getD i e=m.getD j e)):canon l=canon m:=by
  have key:∀i,i≤l.length→(firsts (l.take i)).length=(firsts (m.take i)).length∧∀j,j<i→(firsts (l.take i)).idxOf (l.getD j d)=(firsts (m.take i)).idxOf (m.getD j e):=by
    intro i
    induction i with
    |zero=>exact fun _=>⟨rfl,fun j hj=>absurd hj (Nat.not_lt_zero _)⟩
    |succ i ih=>
     intro hi
     obtain ⟨h1,h2⟩:=ih (by omega)
     have hil:i<l.length:=by omega
     have him:i<m.length:=by omega
     have mem:l.getD i d∈l.take i↔m.getD i e∈m.take i:=by
       constructor
       · intro hm
         obtain ⟨j,hj,hje⟩:=mem_getD d hm
         rw [List.length_take] at hj
         have hj':j<i:=by omega
         have e1:(l.take i).getD j d=l.getD j d:=by simp [List.getD,hj']
         rw [e1] at hje
         have:=(h j i (by omega) hil).1 hje
         rw [←this]
         have e2:(m.take i).getD j e=m.getD j e:=by simp [List.getD,hj']
         rw [←e2]
         exact getD_mem (by rw [List.length_take];omega)
       · intro hm
         obtain ⟨j,hj,hje⟩:=mem_getD e hm
         rw [List.length_take] at hj
         have hj':j<i:=by omega
         have e1:(m.take i).getD j e=m.getD j e:=by simp [List.getD,hj']
         rw [e1] at hje
         have:=(h j i (by omega) hil).2 hje
         rw [←this]
         have e2:(l.take i).getD j d=l.getD j d:=by simp [List.getD,hj']
         rw [←e2]
         exact getD_mem (by rw [List.length_take];omega)
     have jl:∀j,j<i→l.getD j d∈l.take i:=fun j hj=>by
       have e2:(l.take i).getD j d=l.getD j d:=by simp [List.getD,hj]
       rw [←e2];exact getD_mem (by rw [List.length_take];omega)
     have jm:∀j,j<i→m.getD j e∈m.take i:=fun j hj=>by
       have e2:(m.take i).getD j e=m.getD j e:=by simp [List.getD,hj]
       rw [←e2];exact getD_mem (by rw [List.length_take];omega)
     have fl:=firsts_snoc (l:=l.take i) (x:=l.getD i d)
     have fm:=firsts_snoc (l:=m.take i) (x:=m.getD i e)
     rw [←take_get hil] at fl
     rw [←take_get him] at fm
     by_cases hm:l.getD i d∈l.take i
     · rw [if_pos hm] at fl
       rw [if_pos (mem.1 hm)] at fm
       rw [fl,fm]
       refine ⟨h1,fun j hj=>?_⟩
       by_cases hji:j<i
       · exact h2 j hji
       · have:j=i:=by omega
         subst this
         obtain ⟨j',hj',hje⟩:=mem_getD d hm
         rw [List.length_take] at hj'
         have hj2:j'<j:=by omega
         have e1:(l.take j).getD j' d=l.getD j' d:=by simp [List.getD,hj2]
         rw [e1] at hje
         rw [←hje,←(h j' j (by omega) hil).1 hje]
         exact h2 j' hj2
     · rw [if_neg hm] at fl
       rw [if_neg (fun h=>hm (mem.2 h))] at fm
       rw [fl,fm]
       refine ⟨by simp [h1],fun j hj=>?_⟩
       by_cases hji:j<i
       · rw [List.idxOf_append,if_pos (mem_firsts.2 (jl j hji)),List.idxOf_append,if_pos (mem_firsts.2 (jm j hji))]
         exact h2 j hji
       · have:j=i:=by omega
         subst this
         rw [List.idxOf_append,if_neg (fun h=>hm (mem_firsts.1 h)),List.idxOf_append,if_neg (fun h=>hm (mem.2 (mem_firsts.1 h)))]
         simp [h1]
  have:=key l.length (Nat.le_refl _)
  rw [List.take_length,hl,List.take_length] at this
  apply List.ext_getElem
  · simp [canon,hl]
  · intro i h1 h2
    simp only [canon,List.length_map] at h1 h2
    have:=this.2 i h2
    simp only [List.getD,List.getElem?_eq_getElem h1,List.getElem?_eq_getElem h2,Option.getD_some] at this
    simp [canon,this]
end
theorem canon_idem (l:List Int):canon (canon l)=canon l:=
  canon_congr (d:=0) (e:=0) (canon_length l) fun i j hi hj=>by
    rw [canon_length] at hi hj
    exact canon_eq_iff hi hj
def validP (p:List Int):Prop:=p.length≤4096∧canon p=p
instance (p:List Int):Decidable (validP p):=by unfold validP;infer_instance
theorem firsts_range {n:Nat} {p:List Int} (h:firsts p=(List.range n).map (fun (c:Nat)=>(c:Int))):∀x:Int,(0≤x∧x<n)↔x∈p:=fun x=>by
  rw [←mem_firsts,h,List.mem_map]
  constructor
  · rintro ⟨h1,h2⟩
    exact ⟨x.toNat,by rw [List.mem_range];omega,by omega⟩
  · rintro ⟨c,h1,rfl⟩
    rw [List.mem_range] at h1
    omega
theorem idx_range {n:Nat} {x:Int} (h:0≤x∧x<n):(((List.range n).map (fun (c:Nat)=>(c:Int))).idxOf x:Nat)=x.toNat:=by
  have hn:((List.range n).map (fun (c:Nat)=>(c:Int))).Nodup:=by
    rw [List.Nodup,List.pairwise_map]
    exact List.nodup_range.imp fun h e=>h (by exact_mod_cast e)
  have hlt:x.toNat<((List.range n).map (fun (c:Nat)=>(c:Int))).length:=by simp;omega
  have:=hn.idxOf_getElem x.toNat hlt
  rw [←this]
  congr 1
  simp;omega
def stepOk (p:List Int) (i:Nat):Prop:=0≤p.getD i 0∧p.getD i 0≤(firsts (p.take i)).length
theorem firsts_valid {p:List Int}:∀{i:Nat},i≤p.length→(∀j,j<i→stepOk p j)→firsts (p.take i)=(List.range (firsts (p.take i)).length).map (fun (c:Nat)=>(c:Int))
  |0,_,_=>by simp [firsts]
  |i+1,hi,h=>by
   have ih:=firsts_valid (p:=p) (i:=i) (by omega) fun j hj=>h j (by omega)
   have hs:=h i (by omega)
   have hil:i<p.length:=by omega
   have fl:=firsts_snoc (l:=p.take i) (x:=p.getD i 0)
   rw [←take_get hil] at fl
   have hr:=firsts_range ih (p.getD i 0)
   rw [fl]
   split
   · exact ih
   · rename_i hm
     have:p.getD i 0=(firsts (p.take i)).length:=by
       unfold stepOk at hs
       rcases Int.lt_or_eq_of_le hs.2 with h1|h1
       · exact absurd (hr.1 ⟨hs.1,h1⟩) hm
       · exact h1
     rw [List.length_append,List.length_singleton,List.range_succ,List.map_append,←ih,this]
     simp
theorem canon_fix {p:List Int}:canon p=p↔∀i,i<p.length→stepOk p i:=by
  constructor
  · intro h i hi
    have:=canon_at (d:=0) hi
    rw [h] at this
    unfold stepOk
    rw [this]
    split
    · rename_i hm
      have:=List.idxOf_lt_length_of_mem (mem_firsts.2 hm)
      omega
    · omega
  · intro h
    have hf:=firsts_valid (Nat.le_refl _) h
    rw [List.take_length] at hf
    apply List.ext_getElem
    · exact canon_length p
    · intro i h1 h2
      have hm:p[i]∈p:=List.getElem_mem h2
      have hr:=(firsts_range hf p[i]).2 hm
      have e:(firsts p).idxOf p[i]=p[i].toNat:=by rw [hf];exact idx_range hr
      simp only [canon,List.getElem_map,e]
      omega
def classN (p:List Int):Nat:=(firsts p).length
theorem valid_range {p:List Int} (h:canon p=p) (x:Int):(0≤x∧x<classN p)↔x∈p:=by
  have hf:=firsts_valid (Nat.le_refl _) (canon_fix.1 h)
  rw [List.take_length] at hf
  exact firsts_range hf x
def classes (n:Nat) (p:List Int):List (List Int):=(List.range n).map fun (c:Nat)=>(((List.range p.length).filter fun i=>p.getD i 0=(c:Int)).map fun (i:Nat)=>(i:Int))
theorem classes_length (n:Nat) (p:List Int):(classes n p).length=n:=by simp [classes]
theorem classes_getD {n:Nat} {p:List Int} {c:Nat} (h:c<n):(classes n p).getD c []=((List.range p.length).filter fun i=>p.getD i 0=(c:Int)).map fun (i:Nat)=>(i:Int):=by
  unfold classes
  rw [List.getD,List.getElem?_map,List.getElem?_range h]
  rfl
theorem mem_classes {n:Nat} {p:List Int} {c:Nat} (h:c<n) {x:Int}:x∈(classes n p).getD c []↔0≤x∧x<p.length∧p.getD x.toNat 0=c:=by
  rw [classes_getD h,List.mem_map]
  constructor
  · rintro ⟨i,h1,rfl⟩
    rw [List.mem_filter,List.mem_range] at h1
    simp only [decide_eq_true_eq] at h1
    exact ⟨by omega,by omega,by simpa using h1.2⟩
  · rintro ⟨h1,h2,h3⟩
    refine ⟨x.toNat,?_,by omega⟩
    rw [List.mem_filter,List.mem_range]
    simp only [decide_eq_true_eq]
    exact ⟨by omega,h3⟩
section
variable {α:Type} [DecidableEq α]
def mapOf (key:α→List Int) (n:Nat) (fs:List α):List (List Int × Int):=(fs.zipIdx n).map fun e=>(key e.1,((e.2:Nat):Int))
omit [DecidableEq α] in
theorem mapOf_length {key:α→List Int} {n:Nat} {fs:List α}:(mapOf key n fs).length=fs.length:=by simp [mapOf]
omit [DecidableEq α] in
theorem mapOf_snoc {key:α→List Int} {fs:List α} {x:α}:mapOf key 0 (fs++[x])=mapOf key 0 fs++[(key x,(fs.length:Int))]:=by
  simp [mapOf,List.zipIdx_append]
theorem getM_mapOf {key:α→List Int} (hk:∀a b,key a=key b→a=b) {x:α}:∀{fs:List α} {n:Nat},getM (mapOf key n fs) (key x)=if x∈fs then some (((n+fs.idxOf x:Nat)):Int) else none
  |[],n=>rfl
  |a::fs,n=>by
   show (if key a=key x then some (n:Int) else getM (mapOf key (n+1) fs) (key x))=_
   by_cases h:a=x
   · subst h;simp
   · have h1:key a≠key x:=fun e=>h (hk _ _ e)
     have h2:(x∈a::fs)↔x∈fs:=by simp [Ne.symm h]
     rw [if_neg h1,getM_mapOf hk]
     by_cases hm:x∈fs
     · rw [if_pos hm,if_pos (h2.2 hm),List.idxOf_cons]
       have:(a==x)=false:=by simpa using h
       rw [this];simp only [cond_false];congr 2;omega
     · rw [if_neg hm,if_neg (fun h=>hm (h2.1 h))]
theorem setM_new:∀{m:List (List Int × Int)} {k:List Int} {v:Int},getM m k=none→setM m k v=m++[(k,v)]
  |[],_,_,_=>rfl
  |p::m,k,v,h=>by
   simp only [getM] at h
   split at h
   · cases h
   · rename_i hne
     simp [setM,hne,setM_new h]
end
end Go.Proofs.YtjabhmhhhlcopaaGreatDoor
end
section
namespace Go.Proofs.YtjabhmhhhlcopaaGreatDoor
open Go Go.AM
def isW (w:Int):Prop:=0≤w∧w≤18446744073709551615
theorem w_lt {w:Int} (h:isW w):w.toNat<2 ^ 64:=by have:=h.2;omega
theorem w_nat {w:Int} (h:isW w):(w.toNat:Int)=w:=by have:=h.1;omega
theorem ofInt_nat {w:Int} (h:isW w):(BitVec.ofInt 64 w).toNat=w.toNat:=by
  rw [BitVec.toNat_ofInt]
  have h1:=h.1
  have h2:=h.2
  have:w % ((2 ^ 64:Nat):Int)=w:=Int.emod_eq_of_lt h1 (by omega)
  rw [this]
theorem or_w {a b:Int} (ha:isW a) (hb:isW b):orI .u64 a b=((a.toNat ||| b.toNat:Nat):Int):=by
  unfold orI
  show IntKind.u64.wrap ((BitVec.ofInt 64 a ||| BitVec.ofInt 64 b).toNat:Int)=_
  rw [BitVec.toNat_or,ofInt_nat ha,ofInt_nat hb]
  apply wrap_in
  have:=Nat.or_lt_two_pow (w_lt ha) (w_lt hb)
  constructor
  · show (0:Int)≤_
    omega
  · show _≤(18446744073709551615:Int)
    omega
theorem and_w {a b:Int} (ha:isW a) (hb:isW b):andI .u64 a b=((a.toNat &&& b.toNat:Nat):Int):=by
  unfold andI
  show IntKind.u64.wrap ((BitVec.ofInt 64 a &&& BitVec.ofInt 64 b).toNat:Int)=_
  rw [BitVec.toNat_and,ofInt_nat ha,ofInt_nat hb]
  apply wrap_in
  have:=Nat.and_lt_two_pow (n:=64) a.toNat (w_lt hb)
  constructor
  · show (0:Int)≤_
    omega
  · show _≤(18446744073709551615:Int)
    omega
theorem and_i {a b:Int} (ha:0≤a∧a≤9223372036854775807) (hb:0≤b∧b≤9223372036854775807):andI .i64 a b=((a.toNat &&& b.toNat:Nat):Int):=by
  unfold andI
  show IntKind.i64.wrap ((BitVec.ofInt 64 a &&& BitVec.ofInt 64 b).toNat:Int)=_
  rw [BitVec.toNat_and,ofInt_nat ⟨ha.1,by omega⟩,ofInt_nat ⟨hb.1,by omega⟩]
  apply wrap_in
  have:=Nat.and_lt_two_pow (n:=63) a.toNat (show b.toNat<2 ^ 63 by omega)
  constructor
  · show (-9223372036854775808:Int)≤_
    omega
  · show _≤(9223372036854775807:Int)
    omega
theorem low6 {x:Nat} (hx:(x:Int)≤9223372036854775807):andI .i64 x 63=((x % 64:Nat):Int):=by
  rw [and_i ⟨by omega,hx⟩ ⟨by decide,by decide⟩]
  congr 1
  exact Nat.and_two_pow_sub_one_eq_mod x 6
theorem shr_nat {k:IntKind} (hk:k= .i64∨k= .u64) (x i:Nat) (hi:i<64):shrI k x i=((x / 2 ^ i:Nat):Int):=by
  unfold shrI
  have:min (i:Int).toNat k.bits=i:=by rcases hk with rfl|rfl<;>simp [IntKind.bits]<;>omega
  rw [this]
  exact (Int.natCast_ediv x (2 ^ i)).symm▸(by rw [Int.fdiv_eq_ediv_of_nonneg];· norm_cast
                                              · exact Int.le_of_lt (Int.pow_pos (by decide)))
theorem word6 (x:Nat):shrI .i64 x 6=((x / 64:Nat):Int):=shr_nat (.inl rfl) x 6 (by decide)
theorem one_shl {i:Nat} (hi:i<64):shlI .u64 1 i=((2 ^ i:Nat):Int):=by
  unfold shlI
  have:min (i:Int).toNat (IntKind.u64.bits)=i:=by simp [IntKind.bits];omega
  rw [this]
  have hp:2 ^ i≤2 ^ 63:=Nat.pow_le_pow_right (by decide) (by omega)
  have e:(1:Int)*2 ^ i=((2 ^ i:Nat):Int):=by rw [Int.one_mul];norm_cast
  rw [e]
  apply wrap_in
  constructor
  · exact Int.natCast_nonneg _
  · show _≤(18446744073709551615:Int)
    have:(2:Nat) ^ 63=9223372036854775808:=by decide
    omega
def bit (ws:List Int) (x:Nat):Bool:=(ws.getD (x / 64) 0).toNat.testBit (x % 64)
def wordsOk (ws:List Int):Prop:=∀w∈ws,isW w
theorem bit_has {ws:List Int} (hw:wordsOk ws) {x:Nat} (hx:x / 64<ws.length) (hx2:(x:Int)≤9223372036854775807):
    andI .u64 (shrI .u64 (ws.getD (x / 64) 0) (andI .i64 x 63)) 1=1↔bit ws x=true:=by
  have h:=hw _ (getD_mem (d:=0) hx)
  rw [low6 hx2]
  rw [←w_nat h,shr_nat (.inr rfl) _ _ (Nat.mod_lt _ (by decide))]
  rw [and_w ⟨Int.natCast_nonneg _,?_⟩ ⟨by decide,by decide⟩]
  · unfold bit
    rw [Nat.testBit_eq_decide_div_mod_eq,decide_eq_true_eq]
    have e:((((ws.getD (x / 64) 0).toNat / 2 ^ (x % 64):Nat):Int).toNat &&& (1:Int).toNat)=(ws.getD (x / 64) 0).toNat / 2 ^ (x % 64) % 2:=by
      rw [Int.toNat_natCast]
      exact Nat.and_two_pow_sub_one_eq_mod _ 1
    rw [e]
    constructor
    · intro h;exact_mod_cast h
    · intro h;rw [h];rfl
  · have h1:=Nat.div_le_self (ws.getD (x / 64) 0).toNat (2 ^ (x % 64))
    have h2:=w_lt h
    omega
def addW (ws:List Int) (x:Nat):List Int:=ws.set (x / 64) (orI .u64 (ws.getD (x / 64) 0) (shlI .u64 1 (andI .i64 x 63)))
theorem addW_len (ws:List Int) (x:Nat):(addW ws x).length=ws.length:=by simp [addW]
theorem addW_word {ws:List Int} (hw:wordsOk ws) {x:Nat} (hx:x / 64<ws.length) (hx2:(x:Int)≤9223372036854775807):
    orI .u64 (ws.getD (x / 64) 0) (shlI .u64 1 (andI .i64 x 63))=(((ws.getD (x / 64) 0).toNat ||| 2 ^ (x % 64):Nat):Int)∧isW (orI .u64 (ws.getD (x / 64) 0) (shlI .u64 1 (andI .i64 x 63))):=by
  have h:=hw _ (getD_mem (d:=0) hx)
  have hp:2 ^ (x % 64)≤2 ^ 63:=Nat.pow_le_pow_right (by decide) (by omega)
  have h63:(2:Nat) ^ 63=9223372036854775808:=by decide
  have e:orI .u64 (ws.getD (x / 64) 0) (shlI .u64 1 (andI .i64 x 63))=(((ws.getD (x / 64) 0).toNat ||| 2 ^ (x % 64):Nat):Int):=by
    rw [low6 hx2,one_shl (Nat.mod_lt _ (by decide)),or_w h ⟨Int.natCast_nonneg _,by omega⟩,Int.toNat_natCast]
  refine ⟨e,?_⟩
  rw [e]
  have:=Nat.or_lt_two_pow (n:=64) (w_lt h) (show 2 ^ (x % 64)<2 ^ 64 by omega)
  exact ⟨by omega,by omega⟩
theorem addW_ok {ws:List Int} (hw:wordsOk ws) {x:Nat} (hx:x / 64<ws.length) (hx2:(x:Int)≤9223372036854775807):wordsOk (addW ws x):=fun w hm=>by
  rcases List.mem_or_eq_of_mem_set hm with h|h
  · exact hw w h
  · rw [h];exact (addW_word hw hx hx2).2
theorem addW_bit {ws:List Int} (hw:wordsOk ws) {x:Nat} (hx:x / 64<ws.length) (hx2:(x:Int)≤9223372036854775807) (y:Nat):bit (addW ws x) y=(bit ws y||decide (y=x)):=by
  unfold bit addW
  by_cases hxy:x / 64=y / 64
  · rw [←hxy,getD_set_eq hx,(addW_word hw hx hx2).1,Int.toNat_natCast,Nat.testBit_or,Nat.testBit_two_pow]
    congr 1
    have h1:=Nat.div_add_mod x 64
    have h2:=Nat.div_add_mod y 64
    have:x % 64=y % 64↔y=x:=by omega
    simp [this]
  · rw [getD_set_ne hxy]
    have:y≠x:=fun e=>hxy (by rw [e])
    simp [this]
def uniteW (a b:List Int) (k:Nat):List Int:=(List.range a.length).map fun i=>if i<k then orI .u64 (a.getD i 0) (b.getD i 0) else a.getD i 0
theorem uniteW_zero (a b:List Int):uniteW a b 0=a:=by
  refine List.ext_getElem (by simp [uniteW]) fun j h1 h2=>?_
  simp [uniteW,List.getD,h2]
theorem uniteW_len (a b:List Int) (k:Nat):(uniteW a b k).length=a.length:=by simp [uniteW]
theorem uniteW_get {a b:List Int} {k i:Nat} (hi:i<a.length):(uniteW a b k).getD i 0=if i<k then orI .u64 (a.getD i 0) (b.getD i 0) else a.getD i 0:=by
  simp only [uniteW,List.getD,List.getElem?_map,List.getElem?_range hi,Option.map_some,Option.getD_some]
theorem uniteW_next {a b:List Int} {k:Nat} (hk:k<a.length):(uniteW a b k).set k (orI .u64 ((uniteW a b k).getD k 0) (b.getD k 0))=uniteW a b (k+1):=by
  refine List.ext_getElem (by simp [uniteW]) fun j h1 h2=>?_
  have hj:j<a.length:=by simpa [uniteW] using h2
  have e:∀{l:List Int} {h:j<l.length},l[j]=l.getD j 0:=fun {l h}=>by simp [List.getD,h]
  rw [e,e,uniteW_get hj]
  by_cases hjk:j=k
  · subst hjk
    rw [getD_set_eq (by rw [uniteW_len];exact hj),uniteW_get hj,if_neg (Nat.lt_irrefl _),if_pos (Nat.lt_succ_self _)]
  · rw [getD_set_ne (Ne.symm hjk),uniteW_get hj]
    by_cases h:j<k
    · rw [if_pos h,if_pos (by omega)]
    · rw [if_neg h,if_neg (by omega)]
theorem uniteW_ok {a b:List Int} (ha:wordsOk a) (hb:wordsOk b) (hl:a.length=b.length):wordsOk (uniteW a b a.length):=fun w hm=>by
  obtain ⟨i,hi,rfl⟩:=mem_getD 0 hm
  rw [uniteW_len] at hi
  rw [uniteW_get hi,if_pos hi]
  have h1:=ha _ (getD_mem (d:=0) hi)
  have h2:=hb _ (getD_mem (d:=0) (hl▸hi))
  rw [or_w h1 h2]
  have:=Nat.or_lt_two_pow (w_lt h1) (w_lt h2)
  exact ⟨by omega,by omega⟩
theorem uniteW_bit {a b:List Int} (ha:wordsOk a) (hb:wordsOk b) (hl:a.length=b.length) {x:Nat} (hx:x / 64<a.length):bit (uniteW a b a.length) x=(bit a x||bit b x):=by
  unfold bit
  have h1:=ha _ (getD_mem (d:=0) hx)
  have h2:=hb _ (getD_mem (d:=0) (hl▸hx))
  rw [uniteW_get hx,if_pos hx,or_w h1 h2,Int.toNat_natCast,Nat.testBit_or]
theorem zero_bit (n x:Nat):bit (List.replicate n 0) x=false:=by
  unfold bit
  have:(List.replicate n (0:Int)).getD (x / 64) 0=0:=by simp only [List.getD,List.getElem?_replicate];split<;>rfl
  rw [this];simp
theorem zero_ok (n:Nat):wordsOk (List.replicate n 0):=fun w hw=>by
  rw [List.eq_of_mem_replicate hw];exact ⟨by decide,by decide⟩
end Go.Proofs.YtjabhmhhhlcopaaGreatDoor
end
section
namespace Go.Proofs.YtjabhmhhhlcopaaGreatDoor
open Go Go.AM
def inRB (t:List (List Int)) (y x:Nat):Bool:=decide (x=y)||(t.getD y []).contains (x:Int)
def inLB (t:List (List Int)) (y x:Nat):Bool:=decide (x=y)||t.any fun row=>row.getD y 0==(x:Int)
def inJB (t:List (List Int)) (y x:Nat):Bool:=(List.range t.length).any fun z=>inLB t y z&&inRB t z x
structure IdR (n:Nat) (e:Nat→Nat→Bool) (I:List (List Int)):Prop where
  len:I.length=n
  row:∀y,y<n→(I.getD y []).length=(n+63) / 64∧wordsOk (I.getD y [])
  bit:∀y x,y<n→x<n→bit (I.getD y []) x=e y x
def rep (e:Nat→Nat→Bool) (x:Nat):Nat:=((List.range x).find? fun y=>e x y&&e y x).getD x
def repsL (n:Nat) (e:Nat→Nat→Bool):List Int:=(List.range n).map fun x=>((rep e x:Nat):Int)
theorem rep_of {e:Nat→Nat→Bool} {x y:Nat} (hy:y<x) (h:(e x y&&e y x)=true) (hn:∀z,z<y→(e x z&&e z x)=false):rep e x=y:=by
  unfold rep
  have:(List.range x).find? (fun y=>e x y&&e y x)=some y:=by
    rw [List.find?_range_eq_some]
    exact ⟨h,by rw [List.mem_range];exact hy,fun z hz=>by show (!_)=true;rw [hn z hz];rfl⟩
  rw [this];rfl
theorem rep_none {e:Nat→Nat→Bool} {x:Nat} (h:∀y,y<x→(e x y&&e y x)=false):rep e x=x:=by
  unfold rep
  have:(List.range x).find? (fun y=>e x y&&e y x)=none:=by
    rw [List.find?_range_eq_none]
    exact fun y hy=>by show (!_)=true;rw [h y hy];rfl
  rw [this];rfl
theorem rep_cases (e:Nat→Nat→Bool) (x:Nat):(rep e x=x∧∀y,y<x→(e x y&&e y x)=false)∨(rep e x<x∧(e x (rep e x)&&e (rep e x) x)=true∧∀y,y<rep e x→(e x y&&e y x)=false):=by
  by_cases h:∀y,y<x→(e x y&&e y x)=false
  · exact .inl ⟨rep_none h,h⟩
  · have:∃y,y<x∧(e x y&&e y x)=true:=by
      apply Classical.byContradiction
      intro hn
      exact h fun y hy=>by
        cases hb:(e x y&&e y x) with
        |false=>rfl
        |true=>exact absurd ⟨y,hy,hb⟩ hn
    have least:∀n,(∃y,y<n∧y<x∧(e x y&&e y x)=true)→∃y,y<x∧(e x y&&e y x)=true∧∀z,z<y→(e x z&&e z x)=false:=by
      intro n
      induction n with
      |zero=>rintro ⟨y,hy,_⟩;exact absurd hy (Nat.not_lt_zero _)
      |succ n ih=>
       rintro ⟨y,hy,hyx,hb⟩
       by_cases hl:∃z,z<n∧z<x∧(e x z&&e z x)=true
       · exact ih hl
       · refine ⟨y,hyx,hb,fun z hz=>?_⟩
         cases hzb:(e x z&&e z x) with
         |false=>rfl
         |true=>exact absurd ⟨z,by omega,by omega,hzb⟩ hl
    obtain ⟨y,hy,hb⟩:=this
    obtain ⟨y,h1,h2,h3⟩:=least (y+1) ⟨y,Nat.lt_succ_self _,hy,hb⟩
    have:=rep_of h1 h2 h3
    exact .inr (by rw [this];exact ⟨h1,h2,h3⟩)
theorem repsL_len (n:Nat) (e:Nat→Nat→Bool):(repsL n e).length=n:=by simp [repsL]
theorem repsL_get {n:Nat} {e:Nat→Nat→Bool} {x:Nat} (hx:x<n):(repsL n e).getD x 0=((rep e x:Nat):Int):=by
  simp only [repsL,List.getD,List.getElem?_map,List.getElem?_range hx,Option.map_some,Option.getD_some]
structure Pre (n:Nat) (e:Nat→Nat→Bool):Prop where
  refl:∀x,x<n→e x x=true
  trans:∀x y z,x<n→y<n→z<n→e x y=true→e y z=true→e x z=true
theorem rep_iff {n:Nat} {e:Nat→Nat→Bool} (h:Pre n e) {x y:Nat} (hx:x<n) (hy:y<n):rep e x=rep e y↔(e x y=true∧e y x=true):=by
  have muty:∀x,x<n→rep e x<n∧e x (rep e x)=true∧e (rep e x) x=true:=fun x hx=>by
    rcases rep_cases e x with ⟨h1,_⟩|⟨h1,h2,_⟩
    · rw [h1];exact ⟨hx,h.refl x hx,h.refl x hx⟩
    · rw [Bool.and_eq_true] at h2;exact ⟨by omega,h2.1,h2.2⟩
  have least:∀x z,x<n→z<n→e x z=true→e z x=true→rep e x≤z:=fun x z hx hz h1 h2=>by
    rcases rep_cases e x with ⟨g1,g2⟩|⟨g1,_,g2⟩
    · rw [g1]
      apply Nat.le_of_not_lt
      intro hlt
      have:=g2 z hlt
      rw [h1,h2] at this;cases this
    · apply Nat.le_of_not_lt
      intro hlt
      have:=g2 z hlt
      rw [h1,h2] at this;cases this
  obtain ⟨a1,a2,a3⟩:=muty x hx
  obtain ⟨b1,b2,b3⟩:=muty y hy
  constructor
  · intro he
    exact ⟨h.trans x (rep e x) y hx a1 hy a2 (he▸b3),h.trans y (rep e x) x hy a1 hx (he▸b2) a3⟩
  · rintro ⟨h1,h2⟩
    apply Nat.le_antisymm
    · exact least x (rep e y) hx b1 (h.trans x y _ hx hy b1 h1 b2) (h.trans _ y x b1 hy hx b3 h2)
    · exact least y (rep e x) hy a1 (h.trans y x _ hy hx a1 h2 a2) (h.trans _ x y a1 hx hy a3 h1)
def clsL (n:Nat) (e:Nat→Nat→Bool):List Int:=canon (repsL n e)
theorem clsL_len (n:Nat) (e:Nat→Nat→Bool):(clsL n e).length=n:=by rw [clsL,canon_length,repsL_len]
theorem clsL_iff {n:Nat} {e:Nat→Nat→Bool} (h:Pre n e) {x y:Nat} (hx:x<n) (hy:y<n):(clsL n e).getD x 0=(clsL n e).getD y 0↔(e x y=true∧e y x=true):=by
  rw [clsL,canon_eq_iff (d:=0) (by rw [repsL_len];exact hx) (by rw [repsL_len];exact hy),repsL_get hx,repsL_get hy,←rep_iff h hx hy]
  exact Int.ofNat_inj
theorem clsL_valid {n:Nat} {e:Nat→Nat→Bool} (hn:n≤4096):validP (clsL n e):=⟨by rw [clsL_len];exact hn,canon_idem _⟩
theorem inRB_iff {t:List (List Int)} (h:Sh t) {y x:Nat} (hy:y<t.length):inRB t y x=true↔x=y∨∃s,s<t.length∧en t y s=x:=by
  unfold inRB
  rw [Bool.or_eq_true,decide_eq_true_eq,List.contains_iff_mem]
  refine or_congr Iff.rfl ⟨fun hm=>?_,fun ⟨s,hs,he⟩=>?_⟩
  · obtain ⟨s,hs,he⟩:=mem_getD 0 hm
    rw [h.len hy] at hs
    have:=(h.ent hy hs).1
    exact ⟨s,hs,by rw [he] at this;exact_mod_cast this.symm⟩
  · have:=(h.ent hy hs).1
    rw [←he,←this]
    exact getD_mem (by rw [h.len hy];exact hs)
theorem inLB_iff {t:List (List Int)} (h:Sh t) {y x:Nat} (hy:y<t.length):inLB t y x=true↔x=y∨∃s,s<t.length∧en t s y=x:=by
  unfold inLB
  rw [Bool.or_eq_true,decide_eq_true_eq,List.any_eq_true]
  refine or_congr Iff.rfl ⟨fun ⟨row,hm,he⟩=>?_,fun ⟨s,hs,he⟩=>?_⟩
  · obtain ⟨s,hs,rfl⟩:=mem_getD [] hm
    have:=(h.ent hs hy).1
    have he:(t.getD s []).getD y 0=(x:Int):=by simpa using he
    exact ⟨s,hs,by rw [he] at this;exact_mod_cast this.symm⟩
  · refine ⟨t.getD s [],getD_mem hs,?_⟩
    have:=(h.ent hs hy).1
    rw [this,he];simp
theorem preR {t:List (List Int)} (h:Semi t):Pre t.length (inRB t) where
  refl x hx:=(inRB_iff h.toSh hx).2 (.inl rfl)
  trans x y z hx hy hz h1 h2:=by
    rw [inRB_iff h.toSh hx] at h1 ⊢
    rw [inRB_iff h.toSh hy] at h2
    rcases h1 with rfl|⟨s,hs,rfl⟩
    · exact h2
    · rcases h2 with rfl|⟨u,hu,rfl⟩
      · exact .inr ⟨s,hs,rfl⟩
      · exact .inr ⟨en t s u,(h.toSh.ent hs hu).2,(assoc3 h.assoc hx hs hu).symm⟩
theorem preL {t:List (List Int)} (h:Semi t):Pre t.length (inLB t) where
  refl x hx:=(inLB_iff h.toSh hx).2 (.inl rfl)
  trans x y z hx hy hz h1 h2:=by
    rw [inLB_iff h.toSh hx] at h1 ⊢
    rw [inLB_iff h.toSh hy] at h2
    rcases h1 with rfl|⟨s,hs,rfl⟩
    · exact h2
    · rcases h2 with rfl|⟨u,hu,rfl⟩
      · exact .inr ⟨s,hs,rfl⟩
      · exact .inr ⟨en t u s,(h.toSh.ent hu hs).2,assoc3 h.assoc hu hs hx⟩
def classR (t:List (List Int)):List Int:=clsL t.length (inRB t)
def classL (t:List (List Int)):List Int:=clsL t.length (inLB t)
def classJ (t:List (List Int)):List Int:=clsL t.length (inJB t)
def classH (t:List (List Int)):List Int:=canon ((classR t).zip (classL t))
def fstC (p:List Int) (c:Nat):Nat:=(((classes (classN p) p).getD c []).getD 0 0).toNat
def numJ (t:List (List Int)):Nat:=classN (classJ t)
def belowL (t:List (List Int)):List (List Bool):=(List.range (numJ t)).map fun i=>(List.range (numJ t)).map fun j=>inJB t (fstC (classJ t) j) (fstC (classJ t) i)
theorem belowL_len (t:List (List Int)):(belowL t).length=numJ t:=by simp [belowL]
theorem belowL_row {t:List (List Int)} {i:Nat} (hi:i<numJ t):(belowL t).getD i []=(List.range (numJ t)).map fun j=>inJB t (fstC (classJ t) j) (fstC (classJ t) i):=by
  simp only [belowL,List.getD,List.getElem?_map,List.getElem?_range hi,Option.map_some,Option.getD_some]
theorem belowL_get {t:List (List Int)} {i j:Nat} (hi:i<numJ t) (hj:j<numJ t):((belowL t).getD i []).getD j false=inJB t (fstC (classJ t) j) (fstC (classJ t) i):=by
  rw [belowL_row hi]
  simp only [List.getD,List.getElem?_map,List.getElem?_range hj,Option.map_some,Option.getD_some]
theorem fst_of {p:List Int} (h:canon p=p) {c:Nat} (hc:c<classN p):0<((classes (classN p) p).getD c []).length∧((classes (classN p) p).getD c []).getD 0 0=((fstC p c:Nat):Int)∧fstC p c<p.length∧p.getD (fstC p c) 0=c:=by
  have hm:=(valid_range h (c:Int)).1 ⟨by omega,by omega⟩
  obtain ⟨i,hi,he⟩:=mem_getD 0 hm
  have hin:((i:Nat):Int)∈(classes (classN p) p).getD c []:=(mem_classes hc).2 ⟨by omega,by omega,by simpa using he⟩
  have hpos:0<((classes (classN p) p).getD c []).length:=List.length_pos_of_mem hin
  have h0:=(mem_classes hc).1 (getD_mem (d:=0) hpos)
  refine ⟨hpos,?_,?_,?_⟩
  · unfold fstC;omega
  · unfold fstC;omega
  · unfold fstC;exact h0.2.2
theorem classJ_len (t:List (List Int)):(classJ t).length=t.length:=clsL_len _ _
theorem classR_len (t:List (List Int)):(classR t).length=t.length:=clsL_len _ _
theorem classL_len (t:List (List Int)):(classL t).length=t.length:=clsL_len _ _
theorem classJ_canon (t:List (List Int)):canon (classJ t)=classJ t:=canon_idem _
theorem numJ_le (t:List (List Int)):numJ t≤t.length:=by
  have:=firsts_le (classJ t)
  rw [classJ_len] at this;exact this
theorem fstJ {t:List (List Int)} {c:Nat} (hc:c<numJ t):0<((classes (numJ t) (classJ t)).getD c []).length∧((classes (numJ t) (classJ t)).getD c []).getD 0 0=((fstC (classJ t) c:Nat):Int)∧fstC (classJ t) c<t.length∧(classJ t).getD (fstC (classJ t) c) 0=c:=by
  have:=fst_of (classJ_canon t) hc
  rw [classJ_len] at this
  exact this
end Go.Proofs.YtjabhmhhhlcopaaGreatDoor
end
section
namespace Go.Proofs.YtjabhmhhhlcopaaGreatDoor
def disI (n:Nat):List Int:=(List.range n).map fun i:Nat=>(i:Int)
theorem disI_len (n:Nat):(disI n).length=n:=by simp [disI]
theorem disI_get {n i:Nat} (h:i<n):(disI n).getD i 0=(i:Int):=by simp [disI,List.getD,h]
theorem mem_disI {n:Nat} {x:Int}:x∈disI n↔0≤x∧x<(n:Int):=by
  unfold disI
  rw [List.mem_map]
  constructor
  · rintro ⟨i,hi,rfl⟩;have:=List.mem_range.1 hi;omega
  · intro h;exact ⟨x.toNat,List.mem_range.2 (by omega),by omega⟩
end Go.Proofs.YtjabhmhhhlcopaaGreatDoor
end
section
namespace Go.Proofs.YtjabhmhhhlcopaaGreatDoor
open Go Go.AM
theorem nodup_sub {α:Type} [DecidableEq α]:∀{A B:List α},A.Nodup→(∀x∈A,x∈B)→A.length≤B.length
  |[],_,_,_=>Nat.zero_le _
  |a::A,B,hA,h=>by
   have ha:=h a (by simp)
   have hn:=List.nodup_cons.1 hA
   have:=nodup_sub (B:=B.erase a) hn.2 fun x hx=>(List.mem_erase_of_ne fun e=>by subst e;exact hn.1 hx).2 (h x (List.mem_cons_of_mem _ hx))
   have hl:=List.length_erase_of_mem ha
   have hp:=List.length_pos_of_mem ha
   simp only [List.length_cons];omega
end Go.Proofs.YtjabhmhhhlcopaaGreatDoor
end
