import Derived.Test.YtjabhmhhhlcopaaGreatDoorRefReg
import Derived.Test.YtjabhmhhhlcopaaGreatDoorBase
import Derived.Test.YtjabhmhhhlcopaaGreatDoorRefCgL
import Derived.Test.YtjabhmhhhlcopaaGreatDoorEnLaw
import Derived.Test.YtjabhmhhhlcopaaGreatDoorAwk
section
namespace Go.Proofs.YtjabhmhhhlcopaaGreatDoor
open Go Go.AM
open Classical
def setI (l:List Int) (x:Nat):Bool:=l.contains (x:Int)
theorem setI_iff {l:List Int} {x:Nat}:setI l x=true↔(x:Int)∈l:=List.contains_iff_mem
theorem memV_mem {l:List Bool} {x:Int}:x∈memV l↔∃i:Nat,i<l.length∧l.getD i false=true∧x=(i:Int):=by
  unfold memV memTo
  simp only [List.mem_map,List.mem_filter,List.mem_range]
  constructor
  · rintro ⟨i,⟨h1,h2⟩,rfl⟩;exact ⟨i,h1,h2,rfl⟩
  · rintro ⟨i,h1,h2,rfl⟩;exact ⟨i,⟨h1,h2⟩,rfl⟩
def ascV (n:Nat) (f:Nat→Bool):List Int:=memV (setB n f)
theorem ascV_mem {n:Nat} {f:Nat→Bool} {x:Int}:x∈ascV n f↔∃i:Nat,i<n∧f i=true∧x=(i:Int):=by
  unfold ascV
  rw [memV_mem,setB_len]
  constructor
  · rintro ⟨i,h1,h2,h3⟩;rw [setB_get h1] at h2;exact ⟨i,h1,h2,h3⟩
  · rintro ⟨i,h1,h2,h3⟩;exact ⟨i,h1,by rw [setB_get h1];exact h2,h3⟩
theorem ascV_len (n:Nat) (f:Nat→Bool):(ascV n f).length≤n:=by
  have h:=memTo_len (l:=setB n f) (k:=(setB n f).length)
  rw [setB_len] at h
  unfold ascV memV
  rw [setB_len];exact h
theorem ascV_set {n:Nat} {f:Nat→Bool} {x:Nat} (hx:x<n):setI (ascV n f) x=f x:=by
  cases h:f x with
  |true=>exact setI_iff.2 (ascV_mem.2 ⟨x,hx,h,rfl⟩)
  |false=>
   rw [Bool.eq_false_iff]
   intro h'
   obtain ⟨i,_,h2,h3⟩:=ascV_mem.1 (setI_iff.1 h')
   have:i=x:=by omega
   rw [this,h] at h2;cases h2
theorem set_iff {r:List Bool} {n i:Nat} {Q:Nat→Prop} (hl:r.length=n) (h:∀x,x<n→(r.getD x false=true↔Q x)) (hi:i<n):(r.set i true).length=n∧∀x,x<n→((r.set i true).getD x false=true↔(Q x∨x=i)):=
  ⟨by rw [List.length_set];exact hl,fun x hx=>by
    by_cases e:x=i
    · subst e;rw [getD_set_eq (by omega)];simp
    · rw [getD_set_ne (Ne.symm e),h x hx];simp [e]⟩
theorem setB_ofP {r:List Bool} {n:Nat} {f:Nat→Bool} (hl:r.length=n) (h:∀x,x<n→(r.getD x false=true↔f x=true)):r=setB n f:=
  setB_of hl fun x hx=>Bool.eq_iff_iff.2 (h x hx)
def inT (t:List (List Int)) (l:List Int):Prop:=∀x∈l,0≤x∧x<(t.length:Int)
instance (t:List (List Int)) (l:List Int):Decidable (inT t l):=by unfold inT;infer_instance
def IdF (t:List (List Int)) (f:Nat→Bool):Prop:=∀x s,x<t.length→s<t.length→f x=true→f (en t x s)=true∧f (en t s x)=true
def Asc (l:List Int):Prop:=∀i,i+1<l.length→l.getD i 0<l.getD (i+1) 0
def IdL (t:List (List Int)) (l:List Int):Prop:=0<l.length∧Asc l∧inT t l∧IdF t (setI l)
noncomputable def idB (t:List (List Int)) (l:List Int):Bool:=decide (IdL t l)
theorem idB_true {t:List (List Int)} {l:List Int}:idB t l=true↔IdL t l:=by unfold idB;exact decide_eq_true_iff
theorem idB_false {t:List (List Int)} {l:List Int}:idB t l=false↔¬IdL t l:=by unfold idB;exact decide_eq_false_iff_not
structure AscTo (t:List (List Int)) (l:List Int) (i:Nat):Prop where
  le:i≤l.length
  ins:∀j,j<i→0≤l.getD j 0∧l.getD j 0<(t.length:Int)
  asc:∀j,j+1<i→l.getD j 0<l.getD (j+1) 0
theorem AscTo.start {t:List (List Int)} {l:List Int}:AscTo t l 0:=⟨Nat.zero_le _,fun j hj=>absurd hj (Nat.not_lt_zero _),fun j hj=>by omega⟩
theorem AscTo.next {t:List (List Int)} {l:List Int} {i:Nat} (h:AscTo t l i) (hi:i<l.length) (h1:0≤l.getD i 0) (h2:l.getD i 0<(t.length:Int)) (h3:0<i→l.getD (i - 1) 0<l.getD i 0):AscTo t l (i+1):=
  ⟨hi,fun j hj=>by
    by_cases e:j=i
    · subst e;exact ⟨h1,h2⟩
    · exact h.ins j (by omega),fun j hj=>by
    by_cases e:j+1=i
    · subst e;exact h3 (by omega)
    · exact h.asc j (by omega)⟩
theorem AscTo.done {t:List (List Int)} {l:List Int} {i:Nat} (h:AscTo t l i) (hi:l.length≤i):Asc l∧inT t l:=by
  have e:i=l.length:=Nat.le_antisymm h.le hi
  subst e
  refine ⟨fun j hj=>h.asc j hj,fun x hx=>?_⟩
  obtain ⟨j,hj,rfl⟩:=mem_getD 0 hx
  exact h.ins j hj
end Go.Proofs.YtjabhmhhhlcopaaGreatDoor
end
section
namespace Go.Proofs.YtjabhmhhhlcopaaGreatDoor
open Go Go.AM
open Classical
theorem pairwise_adj {l:List Int} (h:Asc l):l.Pairwise (· <·):=by
  rw [List.pairwise_iff_getElem]
  have key:∀d i,i+d+1<l.length→l.getD i 0<l.getD (i+d+1) 0:=by
    intro d
    induction d with
    |zero=>intro i hi;exact h i hi
    |succ d ih=>intro i hi;have h1:=ih i (by omega);have h2:=h (i+d+1) (by omega);rw [show i+(d+1)+1=i+d+1+1 by omega];omega
  intro i j hi hj hij
  have:=key (j - i - 1) i (by omega)
  rw [show i+(j - i - 1)+1=j by omega,getD_eq hi,getD_eq hj] at this
  exact this
theorem asc_of {l:List Int} (h:l.Pairwise (· <·)):Asc l:=fun i hi=>by
  rw [getD_eq (by omega),getD_eq hi]
  exact List.pairwise_iff_getElem.1 h i (i+1) (by omega) hi (by omega)
theorem ascV_asc (n:Nat) (f:Nat→Bool):Asc (ascV n f):=by
  refine asc_of ?_
  unfold ascV memV memTo
  rw [List.pairwise_map]
  refine List.Pairwise.imp ?_ (List.Pairwise.sublist List.filter_sublist List.pairwise_lt_range)
  intro a b h;exact_mod_cast h
theorem ascV_in {n:Nat} {f:Nat→Bool} {x:Int} (h:x∈ascV n f):0≤x∧x<(n:Int):=by
  obtain ⟨i,h1,_,rfl⟩:=ascV_mem.1 h;omega
end Go.Proofs.YtjabhmhhhlcopaaGreatDoor
end
section
namespace Go.Proofs.YtjabhmhhhlcopaaGreatDoor
open Go Go.AM
def posTo (l:List Int):Nat→Nat→Int|0,_=> -1|k+1,x=>if l.getD k 0=(x:Int) then (k:Int) else posTo l k x
theorem posTo_rng (l:List Int):∀k x, -1≤posTo l k x∧posTo l k x<k
  |0,_=>by simp [posTo]
  |k+1,x=>by have:=posTo_rng l k x;simp only [posTo];split<;>omega
theorem posTo_in {l:List Int} {x:Nat}:∀{k:Nat},(∃j,j<k∧l.getD j 0=(x:Int))→0≤posTo l k x∧l.getD (posTo l k x).toNat 0=(x:Int)
  |0,⟨j,hj,_⟩=>absurd hj (Nat.not_lt_zero _)
  |k+1,⟨j,hj,he⟩=>by
   simp only [posTo]
   by_cases e:l.getD k 0=(x:Int)
   · rw [if_pos e,Int.toNat_natCast];exact ⟨by omega,e⟩
   · rw [if_neg e]
     refine posTo_in ⟨j,?_,he⟩
     rcases Nat.lt_or_ge j k with h|h
     · exact h
     · exact absurd (show l.getD k 0=(x:Int) by rw [show k=j by omega];exact he) e
theorem asc_inj {l:List Int} (h:Asc l) {i j:Nat} (hi:i<l.length) (hj:j<l.length) (he:l.getD i 0=l.getD j 0):i=j:=by
  have hp:=List.pairwise_iff_getElem.1 (pairwise_adj h)
  rw [getD_eq hi,getD_eq hj] at he
  rcases Nat.lt_trichotomy i j with h1|h1|h1
  · have:=hp i j hi hj h1;omega
  · exact h1
  · have:=hp j i hj hi h1;omega
structure ClL (t:List (List Int)) (l:List Int):Prop where
  pos:0<l.length
  asc:Asc l
  ins:inT t l
  cl:∀x y,x<t.length→y<t.length→setI l x=true→setI l y=true→setI l (en t x y)=true
def eL (l:List Int) (i:Nat):Nat:=(l.getD i 0).toNat
theorem ClL.el {t:List (List Int)} {l:List Int} (h:ClL t l) {i:Nat} (hi:i<l.length):eL l i<t.length∧l.getD i 0=(eL l i:Int)∧setI l (eL l i)=true:=by
  have hm:=getD_mem (d:=0) hi
  have hr:=h.ins _ hm
  unfold eL
  exact ⟨by omega,by omega,setI_iff.2 (by rw [Int.toNat_of_nonneg hr.1];exact hm)⟩
def pL (l:List Int) (x:Nat):Nat:=(posTo l l.length x).toNat
theorem pL_in {l:List Int} {x:Nat} (h:setI l x=true):posTo l l.length x=(pL l x:Int)∧pL l x<l.length∧eL l (pL l x)=x:=by
  obtain ⟨j,hj,he⟩:=mem_getD 0 (setI_iff.1 h)
  have h1:=posTo_in (l:=l) (x:=x) ⟨j,hj,he.symm▸rfl⟩
  have h2:=posTo_rng l l.length x
  unfold pL eL
  refine ⟨by omega,by omega,?_⟩
  rw [h1.2,Int.toNat_natCast]
theorem eL_inj {t:List (List Int)} {l:List Int} (h:ClL t l) {i j:Nat} (hi:i<l.length) (hj:j<l.length) (he:eL l i=eL l j):i=j:=
  asc_inj h.asc hi hj (by rw [(h.el hi).2.1,(h.el hj).2.1,he])
theorem pL_el {t:List (List Int)} {l:List Int} (h:ClL t l) {i:Nat} (hi:i<l.length):pL l (eL l i)=i:=by
  have:=pL_in (h.el hi).2.2
  exact eL_inj h this.2.1 hi this.2.2
def subV (t:List (List Int)) (l:List Int) (i j:Nat):Int:=posTo l l.length (en t (eL l i) (eL l j))
def subT (t:List (List Int)) (l:List Int):List (List Int):=(List.range l.length).map fun i=>(List.range l.length).map fun j=>subV t l i j
theorem subT_len (t:List (List Int)) (l:List Int):(subT t l).length=l.length:=by simp [subT]
theorem subT_row {t:List (List Int)} {l:List Int} {i:Nat} (hi:i<l.length):(subT t l).getD i []=(List.range l.length).map fun j=>subV t l i j:=map_range_getD _ _ _ _ hi
theorem sub_in {t:List (List Int)} {l:List Int} (h:ClL t l) {i j:Nat} (hi:i<l.length) (hj:j<l.length):setI l (en t (eL l i) (eL l j))=true:=h.cl _ _ (h.el hi).1 (h.el hj).1 (h.el hi).2.2 (h.el hj).2.2
theorem sub_en {t:List (List Int)} {l:List Int} (h:ClL t l) {i j:Nat} (hi:i<l.length) (hj:j<l.length):en (subT t l) i j=pL l (en t (eL l i) (eL l j))∧en (subT t l) i j<l.length∧eL l (en (subT t l) i j)=en t (eL l i) (eL l j):=by
  have hp:=pL_in (sub_in h hi hj)
  have e:en (subT t l) i j=pL l (en t (eL l i) (eL l j)):=by
    unfold en;rw [subT_row hi,map_range_getD _ _ _ _ hj];rfl
  rw [e];exact ⟨rfl,hp.2⟩
theorem sub_semi {t:List (List Int)} (ht:Semi t) {l:List Int} (h:ClL t l) (hl:l.length≤t.length):Semi (subT t l) where
  pos:=by rw [subT_len];exact h.pos
  most:=by rw [subT_len];have:=ht.most;omega
  row:=fun r hr=>by
    obtain ⟨i,hi,rfl⟩:=mem_getD [] hr
    rw [subT_len] at hi ⊢
    rw [subT_row hi]
    refine ⟨by simp,fun x hx=>?_⟩
    obtain ⟨k,hk,rfl⟩:=List.mem_map.1 hx
    have:=pL_in (sub_in h hi (List.mem_range.1 hk))
    unfold subV;omega
  assoc:=fun g hg x y hx hy=>by
    rw [subT_len] at hg hx hy
    have a:=sub_en h hx hg
    have b:=sub_en h hg hy
    have c:=sub_en h a.2.1 hy
    have d:=sub_en h hx b.2.1
    refine eL_inj h c.2.1 d.2.1 ?_
    rw [c.2.2,d.2.2,a.2.2,b.2.2]
    exact assoc3 ht.assoc (h.el hx).1 (h.el hg).1 (h.el hy).1
end Go.Proofs.YtjabhmhhhlcopaaGreatDoor
end
section
namespace Go.Proofs.YtjabhmhhhlcopaaGreatDoor
open Go Go.AM
def elS (n:Nat) (f:Nat→Bool):List Nat:=(List.range n).filter f
theorem elS_mem {n:Nat} {f:Nat→Bool} {x:Nat}:x∈elS n f↔x<n∧f x=true:=by unfold elS;rw [List.mem_filter,List.mem_range]
theorem elS_nodup (n:Nat) (f:Nat→Bool):(elS n f).Nodup:=List.nodup_range.filter _
theorem sub_all {α:Type} [DecidableEq α] {A B:List α} (hA:A.Nodup) (h:∀x∈A,x∈B) (hl:B.length≤A.length):∀x∈B,x∈A:=fun x hx=>by
  rcases Decidable.em (x∈A) with e|e
  · exact e
  · have:(x::A).length≤B.length:=(List.nodup_cons.2 ⟨e,hA⟩).length_le_of_subset fun y hy=>by
      rcases List.mem_cons.1 hy with rfl|hy
      · exact hx
      · exact h y hy
    simp at this;omega
theorem onto {n:Nat} {f:Nat→Bool} (φ:Nat→Nat) (hm:∀x,x<n→f x=true→φ x<n∧f (φ x)=true) (hi:∀x y,x<n→y<n→f x=true→f y=true→φ x=φ y→x=y) {y:Nat} (hy:y<n) (hf:f y=true):∃x,x<n∧f x=true∧φ x=y:=by
  have hn:((elS n f).map φ).Nodup:=by
    refine List.pairwise_map.2 ((elS_nodup n f).imp_of_mem fun {a b} ha hb hab e=>hab ?_)
    have ha:=elS_mem.1 ha
    have hb:=elS_mem.1 hb
    exact hi a b ha.1 hb.1 ha.2 hb.2 e
  have:=sub_all hn (B:=elS n f) (fun x hx=>by
    obtain ⟨y,h1,rfl⟩:=List.mem_map.1 hx
    have h1:=elS_mem.1 h1
    exact elS_mem.2 (hm y h1.1 h1.2)) (by rw [List.length_map];exact Nat.le_refl _) y (elS_mem.2 ⟨hy,hf⟩)
  obtain ⟨x,h1,h2⟩:=List.mem_map.1 this
  exact ⟨x,(elS_mem.1 h1).1,(elS_mem.1 h1).2,h2⟩
end Go.Proofs.YtjabhmhhhlcopaaGreatDoor
end
section
namespace Go.Proofs.YtjabhmhhhlcopaaGreatDoor
open Go Go.AM
section
variable (t:List (List Int)) (j e:Nat)
abbrev jcl (x:Nat):Int:=(classJ t).getD x 0
end
structure Coo (t:List (List Int)) (j e:Nat):Prop where
  semi:Semi t
  hj:j<numJ t
  he:e<t.length
  ee:en t e e=e
  ej:jcl t e=j
namespace Coo
end Coo
end Go.Proofs.YtjabhmhhhlcopaaGreatDoor
end
section
namespace Go.Proofs.YtjabhmhhhlcopaaGreatDoor
open Go Go.AM
set_option maxRecDepth 100000
theorem newIdeal_fn (n:Nat) (h:n≤100000):QF 124 [.int .i64 n] (.new (.ints .u64 (List.replicate ((n+63) / 64) 0))):=mkQ Tryz.func124 (by decide+kernel) rfl (Nat.le_of_ble_eq_true rfl) fun _=>by
  refine And.intro (by omega) ?_
  refine And.intro (by omega) ?_
  refine And.intro (by omega) ?_
  refine And.intro (by omega) ?_
  refine And.intro ?_ trivial
  refine And.intro (by omega) ?_
  have e:(((n:Int)+63) / 64).toNat=(n+63) / 64:=by omega
  show RO.ints .u64 (List.replicate (((n:Int)+63) / 64).toNat 0)=_
  rw [e]
theorem iadd_fn (ws:List Int) (x:Nat) (hx:x / 64<ws.length) (hx2:(x:Int)≤100000):
    MF 125 [.vec 1000,.int .i64 x] [(1000,.vec 0 (.ints .u64 ws) [])] (.tup []) [(1000,.vec 0 (.ints .u64 (addW ws x)) [])]:=mkM Tryz.func125 (by decide+kernel) rfl (Nat.le_of_ble_eq_true rfl) fun _=>by
  have e6:=word6 x
  have e3:=low6 (x:=x) (by omega)
  have hin:0≤shrI .i64 (x:Int) 6∧shrI .i64 (x:Int) 6<(ws.length:Int):=by rw [e6];omega
  refine Or.inl<|Exists.intro [false,false,false,false,false,false,false,false,false,false,true] (And.intro (by decide+kernel) ?_)
  refine And.intro (by omega) ?_
  refine And.intro hin ?_
  refine And.intro (by rw [e3];omega) ?_
  refine And.intro hin ?_
  refine And.intro hin.1 ?_
  refine And.intro ?_ trivial
  refine And.intro ?_ trivial
  refine And.intro (by simp only [RO.len];omega) ?_
  show RO.ints .u64 (ws.set (shrI .i64 (x:Int) 6).toNat (orI .u64 (ws.getD (shrI .i64 (x:Int) 6).toNat 0) (shlI .u64 1 (andI .i64 x 63))))=_
  rw [e6,Int.toNat_natCast];rfl
theorem ihas_fn (ws:List Int) (x:Nat) (hw:wordsOk ws) (hx:x / 64<ws.length) (hx2:(x:Int)≤100000):
    QF 58 [.ro (.ints .u64 ws),.int .i64 x] (.bool (.v (bit ws x))):=mkQ Tryz.func58 (by decide+kernel) rfl (Nat.le_of_ble_eq_true rfl) fun _=>by
  have e6:=word6 x
  have e3:=low6 (x:=x) (by omega)
  have hin:0≤shrI .i64 (x:Int) 6∧shrI .i64 (x:Int) 6<(ws.length:Int):=by rw [e6];omega
  refine And.intro (by omega) ?_
  refine And.intro hin ?_
  refine And.intro (by rw [e3];omega) ?_
  refine And.intro ?_ trivial
  show decide (andI .u64 (shrI .u64 (ws.getD (shrI .i64 (x:Int) 6).toNat 0) (andI .i64 x 63)) 1=1)=bit ws x
  rw [e6,Int.toNat_natCast]
  have:=bit_has hw hx (by omega)
  cases hb:bit ws x with
  |true=>rw [decide_eq_true_eq];exact this.2 hb
  |false=>rw [decide_eq_false_iff_not];exact fun h=>by rw [this.1 h] at hb;cases hb
theorem iunite_fn (a b:List Int) (hl:a.length=b.length) (hl2:a.length≤100000):
    MF 126 [.vec 1000,.ro (.ints .u64 b)] [(1000,.vec 0 (.ints .u64 a) [])] (.tup []) [(1000,.vec 0 (.ints .u64 (uniteW a b a.length)) [])]:=mkM Tryz.func126 (by decide+kernel) rfl (Nat.le_of_ble_eq_true rfl) fun _=>by
  refine Exists.intro []<|lp (X:=Nat) (fun k=>[(7,.int .i64 k)]) (fun k=>[(1000,.vec 0 (.ints .u64 (uniteW a b k)) [])]) (fun k=>k≤a.length) (fun k=>a.length - k) 0 (Nat.zero_le _) ?_ ?_
  · exact And.intro (And.intro rfl trivial) (And.intro (And.intro (And.intro (Nat.zero_le _) (Nat.zero_le _)) (congrArg (RO.ints .u64) (uniteW_zero a b).symm)) trivial)
  intro k hk
  have hul:=uniteW_len a b k
  refine And.intro (fun h1=>?_) (fun h1=>?_)
  · have hkl:k<a.length:=by omega
    have hin:0≤(k:Int)∧(k:Int)<((uniteW a b k).length:Int):=by rw [hul];omega
    refine Or.inl<|Exists.intro [false,false,false,false,false,false,false,false,false,false,true] (And.intro (by decide+kernel) ?_)
    refine And.intro hin ?_
    refine And.intro (by omega) ?_
    refine And.intro hin ?_
    refine And.intro (by omega) ?_
    refine And.intro (by omega) ?_
    refine nx (k+1) (show k+1≤a.length by omega) (show a.length - (k+1)<a.length - k by omega) ?_
    refine And.intro (And.intro rfl trivial) ?_
    refine And.intro ?_ trivial
    exact And.intro (by simp only [RO.len];omega) (congrArg (RO.ints .u64) (uniteW_next hkl))
  · have:k=a.length:=by omega
    subst this
    refine And.intro ?_ trivial
    refine And.intro ?_ trivial
    exact And.intro (by simp only [RO.len];omega) rfl
def IdUpTo (n k:Nat) (e:Nat→Nat→Bool) (I:List (List Int)):Prop:=I.length=n∧∀y,y<k→((I.getD y []).length=(n+63) / 64∧wordsOk (I.getD y []))∧∀x,x<n→bit (I.getD y []) x=e y x
def WdIs (n:Nat) (f:Nat→Bool) (ws:List Int):Prop:=(ws.length=(n+63) / 64∧wordsOk ws)∧∀x,x<n→bit ws x=f x
theorem WdIs.zero (n:Nat):WdIs n (fun _=>false) (List.replicate ((n+63) / 64) 0):=⟨⟨by simp,zero_ok _⟩,fun x _=>zero_bit _ x⟩
theorem WdIs.congr {n:Nat} {f g:Nat→Bool} {ws:List Int} (h:WdIs n f ws) (hfg:∀x,x<n→f x=g x):WdIs n g ws:=⟨h.1,fun x hx=>(h.2 x hx).trans (hfg x hx)⟩
theorem WdIs.word {n:Nat} {f:Nat→Bool} {ws:List Int} (h:WdIs n f ws) {x:Nat} (hx:x<n):x / 64<ws.length:=by rw [h.1.1];omega
theorem WdIs.add {n:Nat} {f:Nat→Bool} {ws:List Int} (h:WdIs n f ws) {x:Nat} (hx:x<n) (hn:n≤100000):WdIs n (fun y=>f y||decide (y=x)) (addW ws x):=
  ⟨⟨by rw [addW_len];exact h.1.1,addW_ok h.1.2 (h.word hx) (by omega)⟩,fun y hy=>by rw [addW_bit h.1.2 (h.word hx) (by omega),h.2 y hy]⟩
theorem WdIs.unite {n:Nat} {f g:Nat→Bool} {a b:List Int} (ha:WdIs n f a) (hb:WdIs n g b):WdIs n (fun y=>f y||g y) (uniteW a b a.length):=
  ⟨⟨by rw [uniteW_len];exact ha.1.1,uniteW_ok ha.1.2 hb.1.2 (by rw [ha.1.1,hb.1.1])⟩,fun y hy=>by rw [uniteW_bit ha.1.2 hb.1.2 (by rw [ha.1.1,hb.1.1]) (ha.word hy),ha.2 y hy,hb.2 y hy]⟩
theorem IdUpTo.start (n:Nat) (e:Nat→Nat→Bool):IdUpTo n 0 e (List.replicate n []):=⟨by simp,fun y hy=>absurd hy (Nat.not_lt_zero _)⟩
theorem IdUpTo.next {n k:Nat} {e:Nat→Nat→Bool} {I:List (List Int)} {ws:List Int} (h:IdUpTo n k e I) (hk:k<n) (hw:WdIs n (e k) ws):IdUpTo n (k+1) e (I.set k ws):=by
  refine ⟨by rw [List.length_set];exact h.1,fun y hy=>?_⟩
  by_cases hyk:y=k
  · subst hyk;rw [getD_set_eq (by rw [h.1];exact hk)];exact hw
  · rw [getD_set_ne (Ne.symm hyk)];exact h.2 y (by omega)
theorem IdUpTo.done {n k:Nat} {e:Nat→Nat→Bool} {I:List (List Int)} (h:IdUpTo n k e I) (hk:n≤k):IdR n e I:=⟨h.1,fun y hy=>(h.2 y (by omega)).1,fun y x hy hx=>(h.2 y (by omega)).2 x hx⟩
theorem IdR.wd {n:Nat} {e:Nat→Nat→Bool} {I:List (List Int)} (h:IdR n e I) {y:Nat} (hy:y<n):WdIs n (e y) (I.getD y []):=⟨h.row y hy,fun x hx=>h.bit y x hy hx⟩
theorem rightIdeals_fn (t:List (List Int)) (h:Sh t):EF 52 [.ro (.rows .i64 t)] (fun I:List (List Int)=>.ro (.rows .u64 I)) (fun I=>IdR t.length (inRB t) I):=mkE Tryz.func52 (by decide+kernel) rfl (Nat.le_of_ble_eq_true rfl) fun _=>by
  have hpos:=h.pos
  have hmost:=h.most
  refine And.intro (by omega) ?_
  refine And.intro (by omega) ?_
  refine Or.inl ?_
  refine Exists.intro []<|lp2 (fun (k:Nat) (_:List (List Int))=>[(13,.int .i64 k)]) (fun _ I=>[(10,.vec 0 (.rows .u64 I) [])]) (fun k I=>k≤t.length∧IdUpTo t.length k (inRB t) I) (fun k _=>t.length - k) 0 (List.replicate t.length []) ⟨Nat.zero_le _,.start _ _⟩ (by repeat' first|refine And.intro ?_ ?_|exact True.intro|(show (_:Int)=(_:Int);omega)|omega|exact rfl|(simp only [RO.len];omega)) ?_
  rintro k I ⟨hk,hI⟩
  have hIl:=hI.1
  refine And.intro (fun h1=>?_) (fun h1=>?_)
  · have hkl:k<t.length:=by omega
    have hrl:=h.len hkl
    refine And.intro (by omega) ?_
    refine Or.inl (cq (newIdeal_fn t.length (by omega)) (And.intro rfl trivial) ?_)
    refine And.intro (by omega) ?_
    refine And.intro (by omega) ?_
    refine And.intro (by omega) ?_
    refine And.intro (fun _=>?_) (fun h=>absurd rfl h)
    refine Or.inr (Or.inl (cm [] [(1000,22)] (iadd_fn (List.replicate ((t.length+63) / 64) 0) k ((WdIs.zero t.length).word hkl) (by omega)) ?_))
    refine And.intro (by repeat' first|refine And.intro ?_ ?_|exact True.intro|(show (_:Int)=(_:Int);omega)|omega|exact rfl|(simp only [RO.len];omega)) ?_
    refine Exists.intro []<|lp2 (fun (i:Nat) (_:List Int)=>[(32,.int .i64 i)]) (fun _ ws=>[(22,.vec 0 (.ints .u64 ws) []),(10,.vec 0 (.rows .u64 I) [(k,22)])]) (fun i ws=>i≤t.length∧WdIs t.length (fun x=>decide (x=k)||((t.getD k []).take i).contains (x:Int)) ws) (fun i _=>t.length - i) 0 (addW (List.replicate ((t.length+63) / 64) 0) k)
      ⟨Nat.zero_le _,((WdIs.zero t.length).add hkl (by omega)).congr fun x _=>by simp⟩ (by repeat' first|refine And.intro ?_ ?_|exact True.intro|(show (_:Int)=(_:Int);omega)|omega|exact rfl|(simp only [RO.len];omega)) ?_
    rintro i ws ⟨hi,hw⟩
    refine And.intro (fun h1=>?_) (fun h1=>?_)
    · have h1:(i:Int)<((t.getD k []).length:Int):=h1
      have hil:i<t.length:=by omega
      have e1:=h.ent hkl hil
      refine And.intro ⟨by omega,h1⟩ ?_
      refine And.intro (by omega) ?_
      refine And.intro (fun _=>?_) (fun h=>absurd rfl h)
      refine Or.inr (Or.inl (cm [] [(1000,22)] (iadd_fn ws (en t k i) (hw.word e1.2) (by omega)) ?_))
      refine And.intro (And.intro (by repeat' first|refine And.intro ?_ ?_|exact True.intro|(show (_:Int)=(_:Int);omega)|omega|exact rfl|(simp only [RO.len];omega)) (And.intro (by repeat' first|refine And.intro ?_ ?_|exact True.intro|(show (_:Int)=(_:Int);omega)|omega|exact rfl|(simp only [RO.len];omega)) (And.intro (show (t.getD k []).getD i 0=((en t k i:Nat):Int) from e1.1) trivial))) ?_
      refine And.intro (by omega) ?_
      refine nx (i+1,addW ws (en t k i)) ⟨by omega,(hw.add e1.2 (by omega)).congr fun x _=>?_⟩ (show t.length - (i+1)<t.length - i by omega) (by repeat' first|refine And.intro ?_ ?_|exact True.intro|(show (_:Int)=(_:Int);omega)|omega|exact rfl|(simp only [RO.len];omega))
      rw [take_snoc (d:=0) (by rw [hrl];exact hil),e1.1,Bool.or_assoc]
      congr 1
      rw [Bool.eq_iff_iff]
      simp
      exact or_congr Iff.rfl ⟨fun h=>by omega,fun h=>by omega⟩
    · have h1:((t.getD k []).length:Int)≤(i:Int):=h1
      refine And.intro (by omega) ?_
      refine nx (k+1,I.set k ws) ⟨by omega,hI.next hkl (hw.congr fun x _=>?_)⟩ (show t.length - (k+1)<t.length - k by omega) (by repeat' first|refine And.intro ?_ ?_|exact True.intro|(show (_:Int)=(_:Int);omega)|omega|exact rfl|(simp only [RO.len];omega))
      rw [List.take_of_length_le (by omega)];rfl
  · exact Exists.intro I (And.intro (hI.done (by omega)) (And.intro (And.intro trivial rfl) trivial))
theorem leftIdeals_fn (t:List (List Int)) (h:Sh t):EF 53 [.ro (.rows .i64 t)] (fun I:List (List Int)=>.ro (.rows .u64 I)) (fun I=>IdR t.length (inLB t) I):=mkE Tryz.func53 (by decide+kernel) rfl (Nat.le_of_ble_eq_true rfl) fun _=>by
  have hpos:=h.pos
  have hmost:=h.most
  refine And.intro (by omega) ?_
  refine And.intro (by omega) ?_
  refine Or.inl ?_
  refine Exists.intro []<|lp2 (fun (k:Nat) (_:List (List Int))=>[(12,.int .i64 k)]) (fun _ I=>[(9,.vec 0 (.rows .u64 I) [])]) (fun k I=>k≤t.length∧IdUpTo t.length k (inLB t) I) (fun k _=>t.length - k) 0 (List.replicate t.length []) ⟨Nat.zero_le _,.start _ _⟩ (by repeat' first|refine And.intro ?_ ?_|exact True.intro|(show (_:Int)=(_:Int);omega)|omega|exact rfl|(simp only [RO.len];omega)) ?_
  rintro k I ⟨hk,hI⟩
  have hIl:=hI.1
  refine And.intro (fun h1=>?_) (fun h1=>?_)
  · have hkl:k<t.length:=by omega
    refine Or.inl (cq (newIdeal_fn t.length (by omega)) (And.intro rfl trivial) ?_)
    refine And.intro (by omega) ?_
    refine And.intro (by omega) ?_
    refine And.intro (by omega) ?_
    refine And.intro (fun _=>?_) (fun h=>absurd rfl h)
    refine Or.inr (Or.inl (cm [] [(1000,19)] (iadd_fn (List.replicate ((t.length+63) / 64) 0) k ((WdIs.zero t.length).word hkl) (by omega)) ?_))
    refine And.intro (by repeat' first|refine And.intro ?_ ?_|exact True.intro|(show (_:Int)=(_:Int);omega)|omega|exact rfl|(simp only [RO.len];omega)) ?_
    refine Exists.intro []<|lp2 (fun (i:Nat) (_:List Int)=>[(29,.int .i64 i)]) (fun _ ws=>[(19,.vec 0 (.ints .u64 ws) []),(9,.vec 0 (.rows .u64 I) [(k,19)])]) (fun i ws=>i≤t.length∧WdIs t.length (fun x=>decide (x=k)||(t.take i).any fun row=>row.getD k 0==(x:Int)) ws) (fun i _=>t.length - i) 0 (addW (List.replicate ((t.length+63) / 64) 0) k)
      ⟨Nat.zero_le _,((WdIs.zero t.length).add hkl (by omega)).congr fun x _=>by simp⟩ (by repeat' first|refine And.intro ?_ ?_|exact True.intro|(show (_:Int)=(_:Int);omega)|omega|exact rfl|(simp only [RO.len];omega)) ?_
    rintro i ws ⟨hi,hw⟩
    refine And.intro (fun h1=>?_) (fun h1=>?_)
    · have hil:i<t.length:=by omega
      have e1:=h.ent hil hkl
      have hrl:=h.len hil
      refine And.intro (by omega) ?_
      refine Or.inl<|Exists.intro [false,false,false,false,false,false,false,false,true] (And.intro (by decide+kernel) ?_)
      refine And.intro (by omega) ?_
      refine And.intro (fun _=>?_) (fun h=>absurd rfl h)
      refine And.intro (show 0≤(k:Int)∧(k:Int)<((t.getD i []).length:Int) by omega) ?_
      refine Or.inr (Or.inl (cm [] [(1000,19)] (iadd_fn ws (en t i k) (hw.word e1.2) (by omega)) ?_))
      refine And.intro (And.intro (by repeat' first|refine And.intro ?_ ?_|exact True.intro|(show (_:Int)=(_:Int);omega)|omega|exact rfl|(simp only [RO.len];omega)) (And.intro (by repeat' first|refine And.intro ?_ ?_|exact True.intro|(show (_:Int)=(_:Int);omega)|omega|exact rfl|(simp only [RO.len];omega)) (And.intro (show (t.getD i []).getD k 0=((en t i k:Nat):Int) from e1.1) trivial))) ?_
      refine And.intro (by omega) ?_
      refine nx (i+1,addW ws (en t i k)) ⟨by omega,(hw.add e1.2 (by omega)).congr fun x _=>?_⟩ (show t.length - (i+1)<t.length - i by omega) (by repeat' first|refine And.intro ?_ ?_|exact True.intro|(show (_:Int)=(_:Int);omega)|omega|exact rfl|(simp only [RO.len];omega))
      rw [take_snoc (d:=[]) hil,Bool.or_assoc,List.any_append]
      congr 1
      simp only [List.any_cons,List.any_nil,Bool.or_false,e1.1]
      congr 1
      rw [Bool.eq_iff_iff]
      simp only [decide_eq_true_eq,beq_iff_eq]
      omega
    · refine And.intro (by omega) ?_
      refine nx (k+1,I.set k ws) ⟨by omega,hI.next hkl (hw.congr fun x _=>?_)⟩ (show t.length - (k+1)<t.length - k by omega) (by repeat' first|refine And.intro ?_ ?_|exact True.intro|(show (_:Int)=(_:Int);omega)|omega|exact rfl|(simp only [RO.len];omega))
      rw [List.take_of_length_le (by omega)];rfl
  · exact Exists.intro I (And.intro (hI.done (by omega)) (And.intro (And.intro trivial rfl) trivial))
theorem twoSided_fn (n:Nat) (hn:n≤400) (r l:Nat→Nat→Bool) (R L:List (List Int)) (hR:IdR n r R) (hL:IdR n l L):
    EF 54 [.ro (.rows .u64 R),.ro (.rows .u64 L)] (fun I:List (List Int)=>.ro (.rows .u64 I)) (fun I=>IdR n (fun y x=>(List.range n).any fun z=>l y z&&r z x) I):=mkE Tryz.func54 (by decide+kernel) rfl (Nat.le_of_ble_eq_true rfl) fun _=>by
  have hRl:=hR.len
  have hLl:=hL.len
  refine And.intro (by omega) ?_
  refine And.intro (by omega) ?_
  refine Or.inl ?_
  refine Exists.intro []<|lp2 (fun (k:Nat) (_:List (List Int))=>[(13,.int .i64 k)]) (fun _ I=>[(10,.vec 0 (.rows .u64 I) [])]) (fun k I=>k≤n∧IdUpTo n k (fun y x=>(List.range n).any fun z=>l y z&&r z x) I) (fun k _=>n - k) 0 (List.replicate R.length []) ⟨Nat.zero_le _,by rw [hRl];exact .start _ _⟩ (by repeat' first|refine And.intro ?_ ?_|exact True.intro|(show (_:Int)=(_:Int);omega)|omega|exact rfl|(simp only [RO.len];omega)) ?_
  rintro k I ⟨hk,hI⟩
  have hIl:=hI.1
  refine And.intro (fun h1=>?_) (fun h1=>?_)
  · have h1:(k:Int)<((List.replicate R.length ([]:List Int)).length:Int):=h1
    rw [List.length_replicate] at h1
    have hkn:k<n:=by omega
    have hz:=WdIs.zero n
    refine Or.inl (cq (newIdeal_fn n (by omega)) (And.intro (by repeat' first|refine And.intro ?_ ?_|exact True.intro|(show (_:Int)=(_:Int);omega)|omega|exact rfl|(simp only [RO.len];omega)) trivial) ?_)
    refine And.intro (by omega) ?_
    refine And.intro (by omega) ?_
    refine Exists.intro []<|lp2 (fun (z:Nat) (_:List Int)=>[(24,.int .i64 z)]) (fun _ ws=>[(20,.vec 0 (.ints .u64 ws) []),(10,.vec 0 (.rows .u64 I) [(k,20)])]) (fun z ws=>z≤n∧WdIs n (fun x=>(List.range z).any fun z=>l k z&&r z x) ws) (fun z _=>n - z) 0 (List.replicate ((n+63) / 64) 0)
      ⟨Nat.zero_le _,hz.congr fun x _=>by simp⟩ (by repeat' first|refine And.intro ?_ ?_|exact True.intro|(show (_:Int)=(_:Int);omega)|omega|exact rfl|(simp only [RO.len];omega)) ?_
    rintro z ws ⟨hzn,hw⟩
    refine And.intro (fun h2=>?_) (fun h2=>?_)
    · have hzl:z<n:=by omega
      have wl:=hL.wd hkn
      have wr:=hR.wd hzl
      refine And.intro (by omega) ?_
      refine Or.inl (cq (ihas_fn (L.getD k []) z wl.1.2 (wl.word hzl) (by omega)) (And.intro rfl (And.intro rfl trivial)) ?_)
      refine And.intro (fun h3=>?_) (fun h3=>?_)
      · rw [wl.2 z hzl] at h3
        refine Or.inl<|Exists.intro [false,false,false,false,false,false,false,false,true] (And.intro (by decide+kernel) ?_)
        refine And.intro (by omega) ?_
        refine And.intro (fun _=>?_) (fun h=>absurd rfl h)
        refine And.intro (by omega) ?_
        refine Or.inr (Or.inl (cm [] [(1000,20)] (iunite_fn ws (R.getD z []) (by rw [hw.1.1,wr.1.1]) (by rw [hw.1.1];omega)) ?_))
        refine And.intro (by repeat' first|refine And.intro ?_ ?_|exact True.intro|(show (_:Int)=(_:Int);omega)|omega|exact rfl|(simp only [RO.len];omega)) ?_
        refine And.intro (by omega) ?_
        refine nx (z+1,uniteW ws (R.getD z []) ws.length) ⟨by omega,(hw.unite wr).congr fun x _=>?_⟩ (show n - (z+1)<n - z by omega) (by repeat' first|refine And.intro ?_ ?_|exact True.intro|(show (_:Int)=(_:Int);omega)|omega|exact rfl|(simp only [RO.len];omega))
        simp [List.range_succ,h3]
      · rw [wl.2 z hzl] at h3
        refine And.intro (by omega) ?_
        refine nx (z+1,ws) ⟨by omega,hw.congr fun x _=>?_⟩ (show n - (z+1)<n - z by omega) (by repeat' first|refine And.intro ?_ ?_|exact True.intro|(show (_:Int)=(_:Int);omega)|omega|exact rfl|(simp only [RO.len];omega))
        simp [List.range_succ,h3]
    · refine And.intro (by omega) ?_
      have hz':z=n:=by omega
      subst hz'
      refine nx (k+1,I.set k ws) ⟨by omega,hI.next hkn hw⟩ (show z - (k+1)<z - k by omega) (by repeat' first|refine And.intro ?_ ?_|exact True.intro|(show (_:Int)=(_:Int);omega)|omega|exact rfl|(simp only [RO.len];omega))
  · have h1:((List.replicate R.length ([]:List Int)).length:Int)≤(k:Int):=h1
    rw [List.length_replicate] at h1
    exact Exists.intro I (And.intro (hI.done (by omega)) (And.intro (And.intro trivial rfl) trivial))
theorem mutual_fn (n:Nat) (hn:n≤400) (e:Nat→Nat→Bool) (I:List (List Int)) (hI:IdR n e I):QF 55 [.ro (.rows .u64 I)] (.new (.ints .i64 (clsL n e))):=mkQ Tryz.func55 (by decide+kernel) rfl (Nat.le_of_ble_eq_true rfl) fun _=>by
  have hIl:=hI.len
  refine And.intro (by omega) ?_
  refine And.intro (by omega) ?_
  refine Exists.intro []<|lp2 (fun (x:Nat) (_:List Int)=>[(11,.int .i64 x)]) (fun _ c=>[(8,.vec 0 (.ints .i64 c) [])]) (fun x c=>x≤n∧c.length=n∧∀j,j<x→c.getD j 0=((rep e j:Nat):Int)) (fun x _=>n - x) 0 (List.replicate I.length 0) ⟨Nat.zero_le _,by simp [hIl],fun j hj=>absurd hj (Nat.not_lt_zero _)⟩ (by repeat' first|refine And.intro ?_ ?_|exact True.intro|(show (_:Int)=(_:Int);omega)|omega|exact rfl|(simp only [RO.len];omega)) ?_
  rintro x c ⟨hx,hc,hs⟩
  refine And.intro (fun h1=>?_) (fun h1=>?_)
  · have hxn:x<n:=by omega
    have next:∀v:Nat,rep e x=v→∀j,j<x+1→((c.set x (x:Int)).set x (v:Int)).getD j 0=((rep e j:Nat):Int):=fun v hv j hj=>by
      by_cases hjx:j=x
      · subst hjx;rw [getD_set_eq (by simp;omega),hv]
      · rw [getD_set_ne (Ne.symm hjx),getD_set_ne (Ne.symm hjx)];exact hs j (by omega)
    refine And.intro (by omega) ?_
    refine And.intro (by omega) ?_
    refine Exists.intro []<|lp (X:=Nat) (fun y=>[(19,.int .i64 y)]) (fun _=>[(8,.vec 0 (.ints .i64 (c.set x x)) [])]) (fun y=>y≤x∧∀z,z<y→(e x z&&e z x)=false) (fun y=>x - y) 0 ⟨Nat.zero_le _,fun z hz=>absurd hz (Nat.not_lt_zero _)⟩ (by repeat' first|refine And.intro ?_ ?_|exact True.intro|(show (_:Int)=(_:Int);omega)|omega|exact rfl|(simp only [RO.len];omega)) ?_
    rintro y ⟨hy,hno⟩
    refine And.intro (fun h2=>?_) (fun h2=>?_)
    · have hyx:y<x:=by omega
      have hyn:y<n:=by omega
      have wx:=hI.wd hxn
      have wy:=hI.wd hyn
      have go:(e x y&&e y x)=false→∀z,z<y+1→(e x z&&e z x)=false:=fun hb z hz=>by
        by_cases hzy:z=y
        · rw [hzy];exact hb
        · exact hno z (by omega)
      refine And.intro (by omega) ?_
      refine Or.inl (cq (ihas_fn (I.getD x []) y wx.1.2 (wx.word hyn) (by omega)) (And.intro rfl (And.intro rfl trivial)) ?_)
      refine And.intro (fun h3=>?_) (fun h3=>?_)
      · rw [wx.2 y hyn] at h3
        refine And.intro (by omega) ?_
        refine Or.inl (cq (ihas_fn (I.getD y []) x wy.1.2 (wy.word hxn) (by omega)) (And.intro rfl (And.intro rfl trivial)) ?_)
        refine And.intro (fun h4=>?_) (fun h4=>?_)
        · rw [wy.2 x hxn] at h4
          refine And.intro (by simp;omega) ?_
          refine And.intro (by omega) ?_
          refine And.intro (by omega) ?_
          exact nx (x+1,(c.set x (x:Int)).set x (y:Int)) ⟨by omega,by simp [hc],next y (rep_of hyx (by rw [h3,h4];rfl) hno)⟩ (show n - (x+1)<n - x by omega) (by repeat' first|refine And.intro ?_ ?_|exact True.intro|(show (_:Int)=(_:Int);omega)|omega|exact rfl|(simp only [RO.len];omega))
        · rw [wy.2 x hxn] at h4
          refine And.intro (by omega) ?_
          exact nx (y+1) ⟨by omega,go (by rw [h4];simp)⟩ (show x - (y+1)<x - y by omega) (by repeat' first|refine And.intro ?_ ?_|exact True.intro|(show (_:Int)=(_:Int);omega)|omega|exact rfl|(simp only [RO.len];omega))
      · rw [wx.2 y hyn] at h3
        refine And.intro (by omega) ?_
        exact nx (y+1) ⟨by omega,go (by rw [h3];simp)⟩ (show x - (y+1)<x - y by omega) (by repeat' first|refine And.intro ?_ ?_|exact True.intro|(show (_:Int)=(_:Int);omega)|omega|exact rfl|(simp only [RO.len];omega))
    · refine And.intro (by omega) ?_
      have e2:(c.set x (x:Int)).set x (x:Int)=c.set x (x:Int):=by simp
      exact nx (x+1,c.set x (x:Int)) ⟨by omega,by simp [hc],by rw [←e2];exact next x (rep_none fun z hz=>hno z (by omega))⟩ (show n - (x+1)<n - x by omega) (by repeat' first|refine And.intro ?_ ?_|exact True.intro|(show (_:Int)=(_:Int);omega)|omega|exact rfl|(simp only [RO.len];omega))
  · have hcc:c=repsL n e:=by
      refine List.ext_getElem (by rw [hc,repsL_len]) fun j h3 h4=>?_
      rw [←getD_eq (d:=0) h3,←getD_eq (d:=0) h4,hs j (by omega),repsL_get (by omega)]
    refine Or.inl (cq (Canonical_fn c) (And.intro rfl trivial) ?_)
    refine And.intro ?_ trivial
    refine And.intro rfl ?_
    rw [if_pos (by omega),hcc];rfl
abbrev greenA (t:List (List Int)):AV:=.agg [.ro (.ints .i64 (classR t)),.ro (.ints .i64 (classL t)),.ro (.ints .i64 (classJ t)),.ro (.ints .i64 (classH t)),.ro (.brows (belowL t))]
theorem green_fn (t:List (List Int)) (h:Semi t):QF 12 [.ro (.rows .i64 t)] (greenA t):=mkQ Tryz.func12 (by decide+kernel) rfl (Nat.le_of_ble_eq_true rfl) fun _=>by
  have hpos:=h.pos
  have hmost:=h.most
  refine Or.inl (cq (valid_fn t) (And.intro rfl trivial) ?_)
  refine And.intro (fun h1=>absurd (valid_zero.2 h) h1) (fun h1=>?_)
  refine Or.inr (Or.inr (ce (rightIdeals_fn t h.toSh) (And.intro rfl trivial) ?_))
  intro R hR
  refine Or.inr (Or.inr (ce (leftIdeals_fn t h.toSh) (And.intro rfl trivial) ?_))
  intro L hL
  refine Or.inr (Or.inr (ce (twoSided_fn t.length hmost _ _ R L hR hL) (And.intro rfl (And.intro rfl trivial)) ?_))
  intro I hI
  refine Or.inl (cq (mutual_fn t.length hmost _ R hR) (And.intro rfl trivial) ?_)
  refine Or.inl (cq (mutual_fn t.length hmost _ L hL) (And.intro rfl trivial) ?_)
  refine Or.inl (cq (mutual_fn t.length hmost _ I hI) (And.intro rfl trivial) ?_)
  have hm:matchP (classR t) (classL t):=⟨by rw [classR_len,classL_len],clsL_valid (by omega),clsL_valid (by omega)⟩
  refine Or.inl (cq (pmeet_fn (classR t) (classL t)) (And.intro rfl (And.intro rfl trivial)) ?_)
  refine Or.inl (cq (pclasses_fn (classJ t) (clsL_valid (by omega))) (And.intro rfl trivial) ?_)
  rw [if_pos hm]
  have hcl:=classes_length (classN (classJ t)) (classJ t)
  have hnj:classN (classJ t)=numJ t:=rfl
  have hle:=numJ_le t
  refine And.intro (by omega) ?_
  refine And.intro (by omega) ?_
  refine Or.inl ?_
  refine Exists.intro []<|lp2 (fun (i:Nat) (_:List (List Bool))=>[(45,.int .i64 i)]) (fun _ B=>[(41,.vec 0 (.brows B) [])]) (fun i B=>i≤numJ t∧B.length=numJ t∧∀k,k<i→B.getD k []=(belowL t).getD k []) (fun i _=>numJ t - i) 0 (List.replicate (classes (classN (classJ t)) (classJ t)).length []) ⟨Nat.zero_le _,by rw [List.length_replicate,hcl,hnj],fun k hk=>absurd hk (Nat.not_lt_zero _)⟩ (by repeat' first|refine And.intro ?_ ?_|exact True.intro|(show (_:Int)=(_:Int);omega)|omega|exact rfl|(simp only [RO.len];omega)) ?_
  rintro i B ⟨hi,hB,hs⟩
  refine And.intro (fun h1=>?_) (fun h1=>?_)
  · have hin:i<numJ t:=by omega
    refine And.intro (by omega) ?_
    refine Or.inl<|Exists.intro [false,false,false,false,false,false,false,true] (And.intro (by decide+kernel) ?_)
    refine And.intro (by omega) ?_
    refine And.intro (by omega) ?_
    refine And.intro (by omega) ?_
    refine And.intro (by omega) ?_
    refine Exists.intro []<|lp2 (fun (j:Nat) (_:List Bool)=>[(59,.int .i64 j)]) (fun _ row=>[(55,.vec 0 (.bools row) []),(41,.vec 0 (.brows B) [(i,55)])]) (fun j row=>j≤numJ t∧row.length=numJ t∧∀k,k<j→row.getD k false=((belowL t).getD i []).getD k false) (fun j _=>numJ t - j) 0 (List.replicate (classes (classN (classJ t)) (classJ t)).length false) ⟨Nat.zero_le _,by rw [List.length_replicate,hcl,hnj],fun k hk=>absurd hk (Nat.not_lt_zero _)⟩ (by repeat' first|refine And.intro ?_ ?_|exact True.intro|(show (_:Int)=(_:Int);omega)|omega|exact rfl|(simp only [RO.len];omega)) ?_
    rintro j row ⟨hj,hrow,hr⟩
    refine And.intro (fun h2=>?_) (fun h2=>?_)
    · have hjn:j<numJ t:=by omega
      have fi:=fstJ hin
      have fj:=fstJ hjn
      have w:=hI.wd fj.2.2.1
      have hIl:=hI.len
      refine And.intro (by omega) ?_
      refine Or.inl<|Exists.intro [false,false,false,false,false,false,false,false,false,false,false,false,false,false,false,false,false,true] (And.intro (by decide+kernel) ?_)
      refine And.intro (by omega) ?_
      refine And.intro (fun _=>?_) (fun h=>absurd rfl h)
      refine And.intro (show 0≤(0:Int)∧(0:Int)<(((classes (numJ t) (classJ t)).getD j []).length:Int) by omega) ?_
      refine And.intro (show 0≤((classes (numJ t) (classJ t)).getD j []).getD 0 0∧((classes (numJ t) (classJ t)).getD j []).getD 0 0<(I.length:Int) by omega) ?_
      refine And.intro (show 0≤(0:Int)∧(0:Int)<(((classes (numJ t) (classJ t)).getD i []).length:Int) by omega) ?_
      refine cq (ihas_fn (I.getD (fstC (classJ t) j) []) (fstC (classJ t) i) w.1.2 (w.word fi.2.2.1) (by omega)) (And.intro rfl (And.intro (show ((classes (numJ t) (classJ t)).getD i []).getD 0 0=((fstC (classJ t) i:Nat):Int) from fi.2.1) trivial)) ?_
      refine And.intro (by omega) ?_
      refine And.intro (by omega) ?_
      refine And.intro (by omega) ?_
      refine nx (j+1,row.set j (bit (I.getD (fstC (classJ t) j) []) (fstC (classJ t) i))) ⟨by omega,by rw [List.length_set];exact hrow,fun k hk=>?_⟩ (show numJ t - (j+1)<numJ t - j by omega) (by repeat' first|refine And.intro ?_ ?_|exact True.intro|(show (_:Int)=(_:Int);omega)|omega|exact rfl|(simp only [RO.len];omega))
      by_cases hkj:k=j
      · subst hkj
        rw [getD_set_eq (by omega),belowL_get hin hjn,w.2 _ fi.2.2.1];rfl
      · rw [getD_set_ne (Ne.symm hkj)];exact hr k (by omega)
    · refine And.intro (by omega) ?_
      refine nx (i+1,B.set i row) ⟨by omega,by rw [List.length_set];exact hB,fun k hk=>?_⟩ (show numJ t - (i+1)<numJ t - i by omega) (by repeat' first|refine And.intro ?_ ?_|exact True.intro|(show (_:Int)=(_:Int);omega)|omega|exact rfl|(simp only [RO.len];omega))
      by_cases hki:k=i
      · subst hki
        rw [getD_set_eq (by omega)]
        have e:((belowL t).getD k []).length=numJ t:=by rw [belowL_row hin];simp
        exact ext_getD false (by rw [hrow,e]) fun q hq=>hr q (by omega)
      · rw [getD_set_ne (Ne.symm hki)];exact hs k (by omega)
  · have hBB:B=belowL t:=ext_getD [] (by rw [hB,belowL_len]) fun q hq=>hs q (by omega)
    refine And.intro ?_ trivial
    refine And.intro (And.intro trivial rfl) ?_
    refine And.intro (And.intro trivial rfl) ?_
    refine And.intro rfl ?_
    refine And.intro (And.intro trivial rfl) ?_
    refine And.intro (And.intro trivial ?_) trivial
    rw [hBB]
end Go.Proofs.YtjabhmhhhlcopaaGreatDoor
end
