import Derived.Test.YtgailjhnfghkgaaGreatDoorCg
import Derived.Test.YtgailjhnfghkgaaGreatDoorOrd
import Derived.Test.YtgailjhnfghkgaaGreatDoorEnLaw
import Derived.Test.YtgailjhnfghkgaaGreatDoorMult
import Derived.Lib.SlicesCompact
import Derived.Shelf.Sort.Plain
import Derived.Shelf.Slices.CompactI
import Derived.Test.YtgailjhnfghkgaaGreatDoorLay
import Derived.Test.YtgailjhnfghkgaaGreatDoorAmRet
import Derived.Test.YtgailjhnfghkgaaGreatDoorSyLaw
section
namespace Go.Proofs.YtgailjhnfghkgaaGreatDoor
open Go Go.AM
set_option maxRecDepth 100000
def YD(n:Nat)(f:Nat->Bool):List Bool:=(List.range n).map f
end Go.Proofs.YtgailjhnfghkgaaGreatDoor
end
section
namespace Go.Proofs.YtgailjhnfghkgaaGreatDoor
open Go Go.AM
set_option maxRecDepth 100000
def x7(n:Nat)(e:Nat->Nat->Bool):List (List Bool):=(List.range n).map λ x=>YD n (e x)
end Go.Proofs.YtgailjhnfghkgaaGreatDoor
end
section
namespace Go.Proofs.YtgailjhnfghkgaaGreatDoor
open Go Go.AM
open Classical
def inT(t:List (List Int))(l:List Int):Prop:=∀x∈l,0<=x/\x<(t.length:Int)
instance(t:List (List Int))(l:List Int):Decidable (inT t l):=by unfold inT;infer_instance
end Go.Proofs.YtgailjhnfghkgaaGreatDoor
end
section
namespace Go.Proofs.YtgailjhnfghkgaaGreatDoor
open Go Go.AM
section
variable(t:List (List Int))(j e:Nat)
abbrev jcl(x:Nat):Int:=(KR t).getD x 0
end
structure Coo(t:List (List Int))(j e:Nat):Prop where
 kP:Semi t
 hj:j<YE t
 he:e<t.length
 ee:en t e e=e
 ej:jcl t e=j
namespace Coo
end Coo
end Go.Proofs.YtgailjhnfghkgaaGreatDoor
end
section
namespace Go.Proofs.YtgailjhnfghkgaaGreatDoor
open Go Go.AM
def jJ(l:List Int):List Int:=l.mergeSort λ x y=>decide (x<=y)
theorem nL(l:List Int):(jJ l).Perm l:=List.mergeSort_perm l _
theorem kQ(l:List Int):(jJ l).length=l.length:=(nL l).length_eq
theorem BU(l:List Int):(jJ l).Pairwise (· <=·):=by
 have:=List.pairwise_mergeSort (le:=λ x y:Int=>decide (x<=y)) (λ a b c h1 h2=>decide_eq_true (Int.le_trans (of_decide_eq_true h1) (of_decide_eq_true h2))) (λ a b=>by
  rcases Int.le_total a b with h|h
  ·simp [h]
  ·simp [h]) l
 exact this.imp λ h=>of_decide_eq_true h
end Go.Proofs.YtgailjhnfghkgaaGreatDoor
end
section
namespace Go.Proofs.YtgailjhnfghkgaaGreatDoor
open Go Go.AM Go.Sort Go.Lib Go.RowKit
def vc{α:Type}[Inhabited α](enc:α->Value)(w:World)(b m:Nat)(dk:Array α)(os:Array Obj):World:=grow (putRow enc (Sort.ahead w m) b 0 dk) os
section
variable{w:World}{M:aX}{b:Nat}{cs:Array Value}{ty:TypeId}(hb:w.heap[b]? =some (.cells cs ty (0,0)))
include hb
theorem Rf:b<w.heap.size:=by
 rcases Nat.lt_or_ge b w.heap.size with h|h
 ·exact h
 ·rw [Array.getElem?_eq_none h]at hb;cases hb
theorem BV{α:Type}[Inhabited α](enc:α->Value)(m:Nat)(dk:Array α)(os:Array Obj):(vc enc w b m dk os).heap[b]? =some (.cells (putCells enc 0 dk cs) ty (0,0)):=by
 have aS:=Rf hb;show((putRow enc (Sort.ahead w m) b 0 dk).heap++os)[b]? =_;rw [Array.getElem?_append_left (by rw [size_putRow];exact aS)];show((w.heap.modify b (onCells (putCells enc 0 dk))))[b]? =_;rw [Array.getElem?_modify,if_pos rfl,hb];rfl
omit hb in
theorem KS{α:Type}[Inhabited α](enc:α->Value)(m:Nat)(dk:Array α)(os:Array Obj){b':Nat}(bm:b'≠b)(aS:b'<w.heap.size):(vc enc w b m dk os).heap[b']? =w.heap[b']? :=by
 show((putRow enc (Sort.ahead w m) b 0 dk).heap++os)[b']? =_;rw [Array.getElem?_append_left (by rw [size_putRow];exact aS)];show((w.heap.modify b (onCells (putCells enc 0 dk))))[b']? =_;rw [Array.getElem?_modify,if_neg (Ne.symm bm)]
omit hb in
theorem Gd{α:Type}[Inhabited α](enc:α->Value)(m:Nat)(dk:Array α)(os:Array Obj):(vc enc w b m dk os).heap.size=w.heap.size+os.size:=by
 show((putRow enc (Sort.ahead w m) b 0 dk).heap++os).size=_;rw [Array.size_append,size_putRow];rfl
omit hb in
theorem p4{α:Type}[Inhabited α](enc:α->Value)(d:Array α):(putCells enc 0 d cs).size=cs.size:=by simp [putCells]
omit hb in
theorem SO{α:Type}[Inhabited α](enc:α->Value)(d:Array α){q:Nat}(hq:q<d.size)(hc:q<cs.size):(putCells enc 0 d cs)[q]? =some (enc d[q]!):=by
 simp [putCells,hq,hc]
theorem SQ{α:Type}[Inhabited α](enc:α->Value)(m:Nat)(dk:Array α)(os:Array Obj)(hM:∀off,M b off↔off<cs.size):gk (λ b' off=>b'=b/\M b' off) w (vc enc w b m dk os):=by
 refine⟨by rw [Gd];omega,λ b' cr=>?_,⟨⟨rfl,rfl⟩,rfl,?_⟩⟩
 ·by_cases e:b'=b
  ·subst e
   refine .inr (.inl ⟨cs,_,ty,hb,BV hb enc m dk os,p4 enc dk,λ off hn=>?_⟩);have:¬off<cs.size:=λ h=>hn ⟨rfl,(hM off).2 h⟩;rw [Array.getElem?_eq_none (by rw [p4];omega),Array.getElem?_eq_none aa]
  ·exact .inl (KS enc m dk os e cr)
 ·show w.drawn<=w.drawn+m
  omega
end
theorem O2(l:List Int)(hl:0<l.length):
  MF 110 [.vec 1000] [(1000,.vec 0 (.ints .i64 l) [])] (.cC []) [(1000,.vec 0 (.ints .i64 (jJ l)) [])]:=by
 refine⟨⟨_,Tryz.func110,by decide+kernel,rfl⟩,λ ρ M w vs xc st hv=>?_⟩;obtain⟨⟨o,ho,hlen,bk,NW,_,mq⟩,_⟩:=st.aW 1000 _ rfl;have hlen:o.len=l.length:=hlen;have bk:o.sz=1:=bk;cases re:o.aW with
 |none=>
  simp only [re]at mq;have:l.length=0:=mq.1;omega
 |some b=>
 simp only [re]at mq;obtain⟨dT,cs,ty,hb,bR,hM,zR⟩:=mq;have hM:∀off,M b off↔off<cs.size:=λ off=>by rw [hM off];omega
 have cM:∀q,q<l.length->cs[q]? =some (.int .i64 (l.getD q 0)):=λ q hq=>by
  obtain⟨v,h1,h2⟩:=zR q (by simpa [RO.cells,RO.len,RO.sz]using hq);have h2:v= .int .i64 (l.getD q 0):=h2.1;rw [h1,h2]
 have ab8:l.length<=cs.size:=by rw [bR,bk];omega
 match vs,hv with
 |[v0],⟨h0,_⟩=>
 obtain⟨o',oD,rfl⟩:=h0;rw [ho]at oD;cases oD;have aS:=Rf hb;have hds:l.toArray.size=l.length:=by simp
 have hH:Holds (Value.int .i64) w b 0 l.toArray:=λ j hj=>by
  rw [hds]at hj;refine⟨?_,?_⟩
  ·rw [Nat.zero_add,Go.AM.cell_of_heap hb]
   show cs[j]? =some (.int .i64 l.toArray[j]!);rw [cM j hj,getD_eq hj];simp [hj]
  ·simp [World.frozen?,hb]
 have VO:=Any.slices_Sort_int VP b 0 o.cap l w hH aS (by have:l.length<=140737488355328:=NW;omega);have hv0:o.val= .slice (some ⟨b,0,none⟩) l.length o.cap:=by rw [Sl.val,re,hlen];rfl
 rw [hv0];refine Calls.mono VO λ e w' ⟨he,n,os,hw⟩=>?_;have hw:w'=vc (Value.int .i64) w b n (jJ l).toArray os:=hw;subst hw;refine⟨_,ρ,M,he,?_,⟨#[],rfl,ag⟩⟩;have ko:=SQ hb (Value.int .i64) n (jJ l).toArray os hM;refine⟨λ k=>by rw [st.ga k,aD,aD];split<;>rfl,λ k B hB=>?_,st.inj,λ b' off hm=>by rw [Gd];have:=st.mlt b' off hm;omega,?_,st.sub,st.eu,st.fresh,st.tn⟩
 ·have UA:k=1000/\B= .vec 0 (.ints .i64 (jJ l)) []:=by
   rw [aD]at hB;split at hB
   ·rename_i e;cases hB;exact⟨e.symm,rfl⟩
   ·cases hB
  obtain⟨rfl,rfl⟩:=UA;refine⟨⟨o,ho,by rw [hlen];exact(kQ l).symm,bk,by show(jJ l).length<=LB;rw [kQ];exact NW,Nat.zero_le _,?_⟩,.inl rfl⟩;simp only [re];refine⟨dT,putCells (Value.int .i64) 0 (jJ l).toArray cs,ty,BV hb (Value.int .i64) n (jJ l).toArray os,by rw [p4];exact bR,λ off=>by rw [p4,hM off];omega,λ q hq=>?_⟩;have hq:q<l.length:=by simpa [RO.cells,RO.len,RO.sz,kQ]using hq
  refine⟨.int .i64 ((jJ l).toArray[q]!),SO (Value.int .i64) (jJ l).toArray (by simp [kQ];omega) aa,?_⟩;have zk:q<(jJ l).length:=by rw [kQ];exact hq
  have e1:(jJ l).toArray[q]! =(jJ l).getD q 0:=by rw [getD_eq zk];simp [zk]
  rw [e1];obtain⟨i,hi,he⟩:=aV 0 ((nL l).mem_iff.1 (an (d:=0) zk));obtain⟨v,_,h2⟩:=zR i (by simpa [RO.cells,RO.len,RO.sz]using hi);show Value.int .i64 ((jJ l).getD q 0)=Value.int .i64 ((jJ l).getD q 0)/\eD .i64 ((jJ l).getD q 0);rw [<-he];exact⟨rfl,h2.2⟩
 ·refine ko.weaken λ b' off he=>?_
  obtain⟨rfl,hm⟩:=he;exact⟨⟨1000,by simp [hasB,ho,bY.has,re]⟩,hm⟩
end Go.Proofs.YtgailjhnfghkgaaGreatDoor
end
section
namespace Go.Proofs.YtgailjhnfghkgaaGreatDoor
open Go Go.AM
set_option maxRecDepth 100000
theorem kR(l:List Int)(hl:l.length<=4096):QF 59 [.ro (.ints .i64 l)] (.new (.ints .i64 l)):=kr Tryz.func59 (by decide+kernel) rfl (ah rfl) λ _=>by
 refine ae (λ h1=>?_) ?_
 ·exact ae h1 trivial
 ·refine ae (by simp;omega) ?_
  exact ae ⟨aa,by simp⟩ trivial
end Go.Proofs.YtgailjhnfghkgaaGreatDoor
end
section
namespace Go.Proofs.YtgailjhnfghkgaaGreatDoor
open Go Go.AM
abbrev JL{A B C D E:Type}{γ:Sort _}(f:A->B->C->D->E->γ)(p:A × B × C × D × E):γ:=match p with|(a,b,c,d,e)=>f a b c d e
abbrev Xk{A B C D E F:Type}{γ:Sort _}(f:A->B->C->D->E->F->γ)(p:A × B × C × D × E × F):γ:=match p with|(a,b,c,d,e,g)=>f a b c d e g
theorem lp5{A B C D E5:Type}(U:A->B->C->D->E5->List (Nat × AV))(V:A->B->C->D->E5->ai)(ok:A->B->C->D->E5->Prop)(μ:A->B->C->D->E5->Nat)(a0:A)(b0:B)(c0:C)(d0:D)(e0:E5){E Bd:(Y:Type)->(Y->List (Nat × AV))->(Y->ai)->(Y->Prop)->(Y->Nat)->Y->Prop}
  (h0:ok a0 b0 c0 d0 e0) (h1:E (A × B × C × D × E5) (JL U) (JL V) (JL ok) (JL μ) (a0,b0,c0,d0,e0)) (h2:∀a b c d e,ok a b c d e->Bd (A × B × C × D × E5) (JL U) (JL V) (JL ok) (JL μ) (a,b,c,d,e)):
  ∃(X:Type) (U:X->List (Nat × AV)) (V:X->ai) (ok:X->Prop) (μ:X->Nat) (x0:X),(ok x0/\E X U V ok μ x0)/\∀x,ok x->Bd X U V ok μ x:=
 ⟨A × B × C × D × E5,JL U,JL V,JL ok,JL μ,(a0,b0,c0,d0,e0),⟨h0,h1⟩,λ(a,b,c,d,e) h=>h2 a b c d e h⟩
abbrev Ge{A B C D E F G:Type}{γ:Sort _}(f:A->B->C->D->E->F->G->γ)(p:A × B × C × D × E × F × G):γ:=match p with|(a,b,c,d,e,g,h)=>f a b c d e g h
theorem lp7{A B C D E5 F6 G7:Type}(U:A->B->C->D->E5->F6->G7->List (Nat × AV))(V:A->B->C->D->E5->F6->G7->ai)(ok:A->B->C->D->E5->F6->G7->Prop)(μ:A->B->C->D->E5->F6->G7->Nat)(a0:A)(b0:B)(c0:C)(d0:D)(e0:E5)(f0:F6)(g0:G7){E Bd:(Y:Type)->(Y->List (Nat × AV))->(Y->ai)->(Y->Prop)->(Y->Nat)->Y->Prop}
  (h0:ok a0 b0 c0 d0 e0 f0 g0) (h1:E (A × B × C × D × E5 × F6 × G7) (Ge U) (Ge V) (Ge ok) (Ge μ) (a0,b0,c0,d0,e0,f0,g0)) (h2:∀a b c d e f g,ok a b c d e f g->Bd (A × B × C × D × E5 × F6 × G7) (Ge U) (Ge V) (Ge ok) (Ge μ) (a,b,c,d,e,f,g)):
  ∃(X:Type) (U:X->List (Nat × AV)) (V:X->ai) (ok:X->Prop) (μ:X->Nat) (x0:X),(ok x0/\E X U V ok μ x0)/\∀x,ok x->Bd X U V ok μ x:=
 ⟨A × B × C × D × E5 × F6 × G7,Ge U,Ge V,Ge ok,Ge μ,(a0,b0,c0,d0,e0,f0,g0),⟨h0,h1⟩,λ(a,b,c,d,e,f,g) h=>h2 a b c d e f g h⟩
abbrev JM{T0 T1 T2 T3 T4 T5 T6 T7:Type}{γ:Sort _}(q:T0->T1->T2->T3->T4->T5->T6->T7->γ)(p:T0 × T1 × T2 × T3 × T4 × T5 × T6 × T7):γ:=match p with|(a,b,c,d,e,f,g,h)=>q a b c d e f g h
theorem Xp{T0 T1 T2 T3 T4 T5 T6 T7:Type}(U:T0->T1->T2->T3->T4->T5->T6->T7->List (Nat × AV))(V:T0->T1->T2->T3->T4->T5->T6->T7->ai)(ok:T0->T1->T2->T3->T4->T5->T6->T7->Prop)(μ:T0->T1->T2->T3->T4->T5->T6->T7->Nat)(a0:T0)(b0:T1)(c0:T2)(d0:T3)(e0:T4)(f0:T5)(g0:T6)(h0:T7){EE Bd:(Y:Type)->(Y->List (Nat × AV))->(Y->ai)->(Y->Prop)->(Y->Nat)->Y->Prop}
  (q0:ok a0 b0 c0 d0 e0 f0 g0 h0) (q1:EE (T0 × T1 × T2 × T3 × T4 × T5 × T6 × T7) (JM U) (JM V) (JM ok) (JM μ) (a0,b0,c0,d0,e0,f0,g0,h0)) (q2:∀a b c d e f g h,ok a b c d e f g h->Bd (T0 × T1 × T2 × T3 × T4 × T5 × T6 × T7) (JM U) (JM V) (JM ok) (JM μ) (a,b,c,d,e,f,g,h)):
  ∃(X:Type) (U:X->List (Nat × AV)) (V:X->ai) (ok:X->Prop) (μ:X->Nat) (x0:X),(ok x0/\EE X U V ok μ x0)/\∀x,ok x->Bd X U V ok μ x:=
 ⟨T0 × T1 × T2 × T3 × T4 × T5 × T6 × T7,JM U,JM V,JM ok,JM μ,(a0,b0,c0,d0,e0,f0,g0,h0),⟨q0,q1⟩,λ(a,b,c,d,e,f,g,h) hh=>q2 a b c d e f g h hh⟩
abbrev JN{T0 T1 T2 T3 T4 T5 T6 T7 T8:Type}{γ:Sort _}(q:T0->T1->T2->T3->T4->T5->T6->T7->T8->γ)(p:T0 × T1 × T2 × T3 × T4 × T5 × T6 × T7 × T8):γ:=match p with|(a,b,c,d,e,f,g,h,i)=>q a b c d e f g h i
theorem lp9{T0 T1 T2 T3 T4 T5 T6 T7 T8:Type}(U:T0->T1->T2->T3->T4->T5->T6->T7->T8->List (Nat × AV))(V:T0->T1->T2->T3->T4->T5->T6->T7->T8->ai)(ok:T0->T1->T2->T3->T4->T5->T6->T7->T8->Prop)(μ:T0->T1->T2->T3->T4->T5->T6->T7->T8->Nat)(a0:T0)(b0:T1)(c0:T2)(d0:T3)(e0:T4)(f0:T5)(g0:T6)(h0:T7)(i0:T8){EE Bd:(Y:Type)->(Y->List (Nat × AV))->(Y->ai)->(Y->Prop)->(Y->Nat)->Y->Prop}
  (q0:ok a0 b0 c0 d0 e0 f0 g0 h0 i0) (q1:EE (T0 × T1 × T2 × T3 × T4 × T5 × T6 × T7 × T8) (JN U) (JN V) (JN ok) (JN μ) (a0,b0,c0,d0,e0,f0,g0,h0,i0)) (q2:∀a b c d e f g h i,ok a b c d e f g h i->Bd (T0 × T1 × T2 × T3 × T4 × T5 × T6 × T7 × T8) (JN U) (JN V) (JN ok) (JN μ) (a,b,c,d,e,f,g,h,i)):
  ∃(X:Type) (U:X->List (Nat × AV)) (V:X->ai) (ok:X->Prop) (μ:X->Nat) (x0:X),(ok x0/\EE X U V ok μ x0)/\∀x,ok x->Bd X U V ok μ x:=
 ⟨T0 × T1 × T2 × T3 × T4 × T5 × T6 × T7 × T8,JN U,JN V,JN ok,JN μ,(a0,b0,c0,d0,e0,f0,g0,h0,i0),⟨q0,q1⟩,λ(a,b,c,d,e,f,g,h,i) hh=>q2 a b c d e f g h i hh⟩
theorem JV{T0 T1:Type}{P:T0 × T1->Prop}(q:∀a b,P (a,b)):∀z,P z:=λ(a,b)=>q a b
theorem Vl{T0 T1 T2 T3:Type}{P:T0 × T1 × T2 × T3->Prop}(q:∀a b c d,P (a,b,c,d)):∀z,P z:=λ(a,b,c,d)=>q a b c d
theorem VK{T0 T1 T2 T3 T4 T5:Type}{P:T0 × T1 × T2 × T3 × T4 × T5->Prop}(q:∀a b c d e f,P (a,b,c,d,e,f)):∀z,P z:=λ(a,b,c,d,e,f)=>q a b c d e f
theorem YF{T0 T1 T2 T3 T4 T5 T6:Type}{P:T0 × T1 × T2 × T3 × T4 × T5 × T6->Prop}(q:∀a b c d e f g,P (a,b,c,d,e,f,g)):∀z,P z:=λ(a,b,c,d,e,f,g)=>q a b c d e f g
theorem oW{TY:List cP}{F:Go.AM.Spec}{ops:List Oper}{t:Gf}{T0 T:List AV}{S0 S:ai}{Q:List AV->ai->Prop}(h:∀K:List AV->ai->Prop,K T S->p5 TY F ops t T0 S0 K)(hq:Q T S):p5 TY F ops t T0 S0 Q:=h Q hq
end Go.Proofs.YtgailjhnfghkgaaGreatDoor
end
section
namespace Go.Proofs.YtgailjhnfghkgaaGreatDoor
open Go Go.AM
set_option maxRecDepth 100000
def O3(f:List Int):Prop:=(1<=f.length/\f.length<=32)/\∀x∈f,0<=x/\x<(f.length:Int)
noncomputable def vd(f:List Int):Bool:=@decide (O3 f) (Classical.propDecidable _)
theorem x8{f:List Int}:vd f=true↔O3 f:=by unfold vd;exact @decide_eq_true_iff _ (Classical.propDecidable _)
theorem Er{f:List Int}:vd f=false↔¬O3 f:=by unfold vd;exact @decide_eq_false_iff_not _ (Classical.propDecidable _)
theorem KU(f:List Int)(hl:f.length<=140737488355328):SS TY SP Tryz.f139 [.ro (.ints .i64 f)] (.bool (.v (vd f))):=by
 have no:¬O3 f->(BE.lit false).val=(BE.v (vd f)).val:=λ h=>(Er.2 h).symm;refine ae (λ h1=>?_) (λ h1=>?_)
 ·have h1:(f.length:Int)<1:=h1
  exact ae (no λ h=>by have:=h.1;omega) trivial
 have h1:1<=(f.length:Int):=h1;refine ae (λ h2=>?_) (λ h2=>?_)
 ·have h2:32<(f.length:Int):=h2
  exact ae (no λ h=>by have:=h.1;omega) trivial
 have h2:(f.length:Int)<=32:=h2;refine af []<|lp (X:=Nat) (λ i=>[(15,.int .i64 i)]) (λ _=>[]) (λ i=>i<=f.length/\∀j,j<i->0<=f.getD j 0/\f.getD j 0<(f.length:Int)) (λ i=>f.length - i) 0 ⟨Nat.zero_le _,λ j h=>absurd h (Nat.not_lt_zero _)⟩ ab ?_
 rintro i ⟨hi,hI⟩;refine ae (λ h3=>?_) (λ h3=>?_)
 ·have h3:(i:Int)<(f.length:Int):=h3
  have hm:=an (d:=0) (l:=f) (i:=i) aa;refine ae aa ?_;refine ae (λ h4=>?_) (λ h4=>?_)
  ·have h4:f.getD i 0<0:=h4
   exact ae (no λ h=>by have:=h.2 _ hm;omega) trivial
  have h4:0<=f.getD i 0:=h4;refine ae (λ h5=>?_) (λ h5=>?_)
  ·have h5:(f.length:Int)<=f.getD i 0:=h5
   exact ae (no λ h=>by have:=h.2 _ hm;omega) trivial
  have h5:f.getD i 0<(f.length:Int):=h5;refine ae aa ?_;refine nx (i+1) ⟨aa,λ j hj=>?_⟩ (show f.length - (i+1)<f.length - i by omega) ab
  by_cases e:j=i
  ·subst e;exact⟨h4,h5⟩
  ·exact hI j aa
 ·have h3:(f.length:Int)<=(i:Int):=h3
  refine ae ?_ trivial;refine(x8.2 ⟨⟨aa,aa⟩,λ x hx=>?_⟩).symm;obtain⟨j,hj,rfl⟩:=aV 0 hx;exact hI j aa
theorem rM(f:List Int):QF 139 [.ro (.ints .i64 f)] (.bool (.v (vd f))):=kr Tryz.func139 (by decide+kernel) rfl (ah rfl) λ hf=>KU f hf.1.1
theorem H9(n:Nat)(h1:1<=n)(h2:n<=32):QF 141 [.int .i64 n] (.new (.ints .i64 (cV n))):=kr Tryz.func141 (by decide+kernel) rfl (ah rfl) λ _=>by
 refine ae (λ h=>absurd (show(n:Int)<1 from h) aa) (λ _=>?_);refine ae (λ h=>absurd (show 32<(n:Int)from h) aa) (λ _=>?_);refine ae aa ?_;refine ae aa ?_;refine af []<|lA (λ(i:Nat) (_:List Int)=>[(15,.int .i64 i)]) (λ _ L=>[(12,.vec 0 (.ints .i64 L) [])]) (λ i L=>i<=n/\L.length=n/\∀j,j<i->L.getD j 0=(j:Int)) (λ i _=>n - i) 0 (List.replicate n 0) ⟨Nat.zero_le _,by simp,λ j h=>absurd h (Nat.not_lt_zero _)⟩ ab ?_
 rintro i L ⟨hi,hL,Rg⟩;refine ae (λ h1=>?_) (λ h1=>?_)
 ·have h1:(i:Int)<((List.replicate (n:Int).toNat (0:Int)).length:Int):=h1
  rw [List.length_replicate]at h1;refine ae aa ?_;refine ae aa ?_;refine ae aa ?_;refine nx (i+1,L.set i (i:Int)) ⟨aa,by rw [List.length_set];exact hL,λ j hj=>?_⟩ (show n - (i+1)<n - i by omega) ab
  by_cases e:j=i
  ·subst e;rw [aA aa]
  ·rw [getD_set_ne (Ne.symm e)];exact Rg j aa
 ·have h1:((List.replicate (n:Int).toNat (0:Int)).length:Int)<=(i:Int):=h1
  rw [List.length_replicate]at h1;refine ae (ae aa ?_) trivial;exact congrArg (RO.ints .i64) (bj 0 (by rw [bM];exact hL) λ j hj=>by rw [Rg j aa,du aa])
end Go.Proofs.YtgailjhnfghkgaaGreatDoor
end
section
namespace Go.Proofs.YtgailjhnfghkgaaGreatDoor
open Go Go.AM
set_option maxRecDepth 100000
theorem Xq(a:List Int):QF 81 [.ro (.ints .i64 a),.ro (.ints .i64 a)] (.bool (.lit true)):=kr Tryz.func81 (by decide+kernel) rfl (ah rfl) λ hf=>by
 have ha:a.length<=140737488355328:=hf.1.1;refine ae (λ h1=>absurd rfl h1) (λ _=>?_);refine af []<|lp (X:=Nat) (λ k=>[(13,.int .i64 k)]) (λ _=>[]) (λ k=>k<=a.length) (λ k=>a.length - k) 0 (Nat.zero_le _) ab ?_
 intro k hk;refine ae (λ h2=>?_) (λ h2=>?_)
 ·refine Or.inl<|af [false,false,false,false,false,false,false,false,false] (ae (by decide+kernel) ?_)
  refine ae aa ?_;refine ae aa ?_;refine ae (λ h3=>absurd rfl h3) (λ _=>?_);refine ae aa ?_;exact nx (k+1) (show k+1<=a.length by omega) (show a.length - (k+1)<a.length - k by omega) ab
 ·exact ae rfl trivial
theorem ve(f:List Int)(hl:f.length<=32)(hf:∀x∈f,0<=x/\x<=255):QF 142 [.ro (.ints .i64 f)] (.str f):=kr Tryz.func142 (by decide+kernel) rfl (ah rfl) λ _=>by
 refine ae aa ?_;refine ae aa ?_;refine af []<|lA (λ(i:Nat) (_:List Int)=>[(11,.int .i64 i)]) (λ _ L=>[(8,.vec 0 (.ints .u8 L) [])]) (λ i L=>i<=f.length/\L.length=f.length/\∀j,j<i->L.getD j 0=f.getD j 0) (λ i _=>f.length - i) 0 (List.replicate f.length 0) ⟨Nat.zero_le _,by simp,λ j h=>absurd h (Nat.not_lt_zero _)⟩ ab ?_
 rintro i L ⟨hi,hL,Rg⟩;refine ae (λ h1=>?_) (λ h1=>?_)
 ·have h1:(i:Int)<(f.length:Int):=h1
  have bL:i<f.length:=aa;have hm:=hf _ (an (d:=0) bL);refine ae aa ?_;refine ae (show(0:Int)<=f.getD i 0/\f.getD i 0<=255 from hm) ?_;refine ae aa ?_;refine ae aa ?_;refine ae aa ?_;refine nx (i+1,L.set i (f.getD i 0)) ⟨aa,by rw [List.length_set];exact hL,λ j hj=>?_⟩ (show f.length - (i+1)<f.length - i by omega) ab
  by_cases e:j=i
  ·subst e;rw [aA aa]
  ·rw [getD_set_ne (Ne.symm e)];exact Rg j aa
 ·have h1:(f.length:Int)<=(i:Int):=h1
  have e:L=f:=bj 0 hL λ j hj=>Rg j aa;subst e;exact ae rfl trivial
theorem lu.YG{n:Nat}{f:List Int}(h:lu n f)(h1:1<=n)(h2:n<=32):vd f=true:=x8.2 ⟨by rw [h.len];exact⟨h1,h2⟩,by rw [h.len];exact h.w9⟩
theorem KV(f g:List Int)(n:Nat)(h1:1<=n)(h2:n<=32)(hf:lu n f)(hg:lu n g):QF 143 [.ro (.ints .i64 f),.ro (.ints .i64 g)] (.new (.ints .i64 (bF f g))):=kr Tryz.func143 (by decide+kernel) rfl (ah rfl) λ _=>by
 have FP:=hf.len;have tz:=hg.len;refine ae (λ h3=>absurd aa h3) (λ _=>?_);refine Or.inl (cq (rM f) (ae rfl ag) ?_);refine ae (λ h=>?_) (λ _=>?_)
 ·have h:(!vd f)=true:=h
  rw [hf.YG h1 h2]at h;cases h
 refine Or.inl (cq (rM g) (ae rfl ag) ?_);refine ae (λ h=>?_) (λ _=>?_)
 ·have h:(!vd g)=true:=h
  rw [hg.YG h1 h2]at h;cases h
 refine ae aa ?_;refine ae aa ?_;refine af []<|lA (λ(i:Nat) (_:List Int)=>[(28,.int .i64 i)]) (λ _ L=>[(25,.vec 0 (.ints .i64 L) [])]) (λ i L=>i<=f.length/\L.length=f.length/\∀j,j<i->L.getD j 0=(bF f g).getD j 0) (λ i _=>f.length - i) 0 (List.replicate f.length 0) ⟨Nat.zero_le _,by simp,λ j h=>absurd h (Nat.not_lt_zero _)⟩ ab ?_
 rintro i L ⟨hi,hL,Rg⟩;refine ae (λ h1=>?_) (λ h1=>?_)
 ·have h1:(i:Int)<(f.length:Int):=h1
  have bL:i<f.length:=aa;have hm:=hf.w9 _ (an (d:=0) bL);refine ae aa ?_;refine ae (show 0<=f.getD i 0/\f.getD i 0<(g.length:Int) by omega) ?_;refine ae aa ?_;refine ae aa ?_;refine ae aa ?_;refine nx (i+1,L.set i (g.getD (f.getD i 0).toNat 0)) ⟨aa,by rw [List.length_set];exact hL,λ j hj=>?_⟩ (show f.length - (i+1)<f.length - i by omega) ab
  by_cases e:j=i
  ·subst e;rw [aA aa,jd bL]
  ·rw [getD_set_ne (Ne.symm e)];exact Rg j aa
 ·have h1:(f.length:Int)<=(i:Int):=h1
  refine ae (ae aa ?_) trivial;exact congrArg (RO.ints .i64) (bj 0 (by rw [dJ];exact hL) λ j hj=>Rg j aa)
end Go.Proofs.YtgailjhnfghkgaaGreatDoor
end
section
namespace Go.Proofs.YtgailjhnfghkgaaGreatDoor
open Go Go.AM
set_option maxRecDepth 100000
set_option maxHeartbeats 4000000
abbrev DO(L s:Int)(F:List Bool)(N:List (List Int)):AV:=.agg [.int .i64 L,.int .i64 s,.ro (.aL F),.ro (.rows .i64 N)]
theorem O4(L:Int):QF 36 [.int .i64 L] (.bool (.v (decide (1<=L/\L<=6)))):=kr Tryz.func36 (by decide+kernel) rfl (ah rfl) λ _=>by
 refine ae (λ h1=>?_) (λ h1=>?_)
 ·have h1:1<=L:=h1
  refine ae ?_ trivial;show decide (L<=6)=decide (1<=L/\L<=6);simp [h1]
 ·have h1:L<1:=h1
  refine ae ?_ trivial;show false=decide (1<=L/\L<=6);rw [decide_eq_false (λ h=>by omega)]
def DP(L s:Int)(F:List Bool)(N:List (List Int)):Prop:=(0<=L/\0<=s)/\DV L.toNat s.toNat F N
theorem YH(L s:Int)(F:List Bool)(N:List (List Int))(hF:F.length<=140737488355328)(hN:N.length<=140737488355328)(hNl:∀r∈N,r.length<=140737488355328):
  KW TY SP Tryz.f18 [DO L s F N] (X:=Int) (λ r=>.int .i64 r) (λ r=>r=0↔DP L s F N):=by
 have bad:∀r:Int,r≠0->¬DP L s F N->(r=0↔DP L s F N):=λ r h1 h2=>⟨λ h=>absurd h h1,λ h=>absurd h h2⟩;refine Or.inl (cq (O4 L) (ae rfl ag) ?_);refine ae (λ h1=>?_) (λ h1=>?_)
 ·have h1:(!decide (1<=L/\L<=6))=true:=h1
  have h1:¬(1<=L/\L<=6):=by rw [Bool.not_eq_true',decide_eq_false_iff_not]at h1;exact h1
  refine af 1 (ae (bad 1 (by decide) λ h=>?_) ab);have:=h.2.l1;have:=h.2.l6;have:=h.1;omega
 have h1:(!decide (1<=L/\L<=6))=false:=h1;have h1:1<=L/\L<=6:=by rw [Bool.not_eq_false']at h1;exact of_decide_eq_true h1
 refine ae (λ h2=>?_) (λ h2=>?_)
 ·have h2:512<(F.length:Int):=h2
  refine af 3 (ae (bad 3 (by decide) λ h=>?_) ab);have:=h.2.tJ;omega
 have h2:(F.length:Int)<=512:=h2;refine ae (λ h3=>?_) (λ h3=>?_)
 ·have h3:(F.length:Int)=0:=h3
  refine af 4 (ae (bad 4 (by decide) λ h=>?_) ab);have:=h.2.st;omega
 have h3:(F.length:Int)≠0:=h3;refine ae (λ h4=>?_) (λ h4=>?_)
 ·have h4:(N.length:Int)≠(F.length:Int):=h4
  refine af 4 (ae (bad 4 (by decide) λ h=>?_) ab);have:=h.2.nl;omega
 have h4:(N.length:Int)=(F.length:Int):=h4;refine ae (λ h5=>?_) (λ h5=>?_)
 ·have h5:s<0:=h5
  refine af 4 (ae (bad 4 (by decide) λ h=>?_) ab);have:=h.1;omega
 have h5:0<=s:=h5;refine ae (λ h6=>?_) (λ h6=>?_)
 ·have h6:(F.length:Int)<=s:=h6
  refine af 4 (ae (bad 4 (by decide) λ h=>?_) ab);have:=h.2.st;omega
 have h6:s<(F.length:Int):=h6;refine af []<|lp (X:=Nat) (λ i=>[(40,.int .i64 i)]) (λ _=>[]) (λ i=>i<=N.length/\∀j,j<i->((N.getD j []).length:Int)=L/\∀q∈N.getD j [],0<=q/\q<(F.length:Int)) (λ i=>N.length - i) 0 ⟨Nat.zero_le _,λ j h=>absurd h (Nat.not_lt_zero _)⟩ ab ?_
 rintro i ⟨hi,hI⟩;refine ae (λ h7=>?_) (λ h7=>?_)
 ·have h7:(i:Int)<(N.length:Int):=h7
  have bL:i<N.length:=aa;have hm:=an (d:=[]) bL;have pA:=hNl _ hm;refine ae aa ?_;refine ae (λ h8=>?_) (λ h8=>?_)
  ·have h8:((N.getD i []).length:Int)≠L:=h8
   refine af 4 (ae (bad 4 (by decide) λ h=>?_) ab);have:=(h.2.row _ hm).1;omega
  have h8:((N.getD i []).length:Int)=L:=h8;refine af []<|lp (X:=Nat) (λ x=>[(51,.int .i64 x)]) (λ _=>[]) (λ x=>x<=(N.getD i []).length/\∀j,j<x->0<=(N.getD i []).getD j 0/\(N.getD i []).getD j 0<(F.length:Int)) (λ x=>(N.getD i []).length - x) 0 ⟨Nat.zero_le _,λ j h=>absurd h (Nat.not_lt_zero _)⟩ ab ?_
  rintro x ⟨hx,hX⟩;refine ae (λ h9=>?_) (λ h9=>?_)
  ·have h9:(x:Int)<((N.getD i []).length:Int):=h9
   have Xr:=an (d:=0) (l:=N.getD i []) (i:=x) aa;refine ae aa ?_;refine ae (λ cu=>?_) (λ cu=>?_)
   ·have cu:(N.getD i []).getD x 0<0:=cu
    refine af 4 (ae (bad 4 (by decide) λ h=>?_) ab);have:=(h.2.row _ hm).2 _ Xr;omega
   have cu:0<=(N.getD i []).getD x 0:=cu;refine ae (λ lB=>?_) (λ lB=>?_)
   ·have lB:(F.length:Int)<=(N.getD i []).getD x 0:=lB
    refine af 4 (ae (bad 4 (by decide) λ h=>?_) ab);have:=(h.2.row _ hm).2 _ Xr;omega
   have lB:(N.getD i []).getD x 0<(F.length:Int):=lB;refine ae aa ?_;refine nx (x+1) ⟨aa,λ j hj=>?_⟩ (show(N.getD i []).length - (x+1)<(N.getD i []).length - x by omega) ab
   by_cases e:j=x
   ·subst e;exact⟨cu,lB⟩
   ·exact hX j aa
  ·have h9:((N.getD i []).length:Int)<=(x:Int):=h9
   refine ae aa ?_;refine nx (i+1) ⟨aa,λ j hj=>?_⟩ (show N.length - (i+1)<N.length - i by omega) ab
   by_cases e:j=i
   ·subst e
    refine⟨h8,λ q hq=>?_⟩;obtain⟨y,hy,rfl⟩:=aV 0 hq;exact hX y aa
   ·exact hI j aa
 ·have h7:(N.length:Int)<=(i:Int):=h7
  refine af 0 (ae ⟨λ _=>⟨⟨aa,h5⟩,⟨aa,aa,aa,aa,aa,λ r hr=>?_⟩⟩,λ _=>rfl⟩ ab);obtain⟨j,hj,rfl⟩:=aV [] hr;have:=hI j aa;exact⟨aa,this.2⟩
theorem VQ(L s:Int)(F:List Bool)(N:List (List Int)):EF 18 [DO L s F N] (λ r:Int=>.int .i64 r) (λ r=>r=0↔DP L s F N):=HG Tryz.func18 (by decide+kernel) rfl (ah rfl) λ hf=>YH L s F N hf.1.2.2.1 hf.1.2.2.2.1.1 λ r hr=>(hf.1.2.2.2.1.2 r hr).1
def Xs(L s:Int)(F:List Bool)(N:List (List Int)):Prop:=F.length<=3/\L<=2/\DP L s F N
noncomputable def O0(L s:Int)(F:List Bool)(N:List (List Int)):Bool:=@decide (Xs L s F N) (Classical.propDecidable _)
theorem BQ{L s:Int}{F:List Bool}{N:List (List Int)}:O0 L s F N=true↔Xs L s F N:=by unfold O0;exact @decide_eq_true_iff _ (Classical.propDecidable _)
theorem Ia{L s:Int}{F:List Bool}{N:List (List Int)}:O0 L s F N=false↔¬Xs L s F N:=by unfold O0;exact @decide_eq_false_iff_not _ (Classical.propDecidable _)
theorem H6(L s:Int)(F:List Bool)(N:List (List Int)):QF 5 [DO L s F N,.int .i64 3] (.bool (.v (O0 L s F N))):=kr Tryz.func5 (by decide+kernel) rfl (ah rfl) λ _=>by
 have no:¬Xs L s F N->false=O0 L s F N:=λ h=>(Ia.2 h).symm;refine ae (λ h1=>?_) (λ h1=>?_)
 ·have h1:(F.length:Int)<=3:=h1
  refine ae (λ h2=>?_) (λ h2=>?_)
  ·have h2:L<=2:=h2
   refine Or.inr (Or.inr (ce (VQ L s F N) ab ?_));intro r hr;refine ae ?_ trivial;show decide (r=0)=O0 L s F N
   by_cases h3:r=0
   ·rw [decide_eq_true h3];exact(BQ.2 ⟨aa,h2,hr.1 h3⟩).symm
   ·rw [decide_eq_false h3];exact no λ h=>h3 (hr.2 h.2.2)
  ·have h2:2<L:=h2
   exact ae (no λ h=>by have:=h.2.1;omega) trivial
 ·have h1:3<(F.length:Int):=h1
  exact ae (no λ h=>by have:=h.1;omega) trivial
end Go.Proofs.YtgailjhnfghkgaaGreatDoor
end
