import Derived.Test.YtgailjhnfghkgaaGreatDoorCg
import Derived.Test.YtgailjhnfghkgaaGreatDoorOrd
import Derived.Test.YtgailjhnfghkgaaGreatDoorEnLaw
import Derived.Test.YtgailjhnfghkgaaGreatDoorMult
import Derived.Lib.SlicesCompact
import Derived.Shelf.Sort.Plain
import Derived.Shelf.Slices.CompactI
import Derived.Test.YtgailjhnfghkgaaGreatDoorLay
import Derived.Test.YtgailjhnfghkgaaGreatDoorAmRet
import Derived.Test.YtgailjhnfghkgaaGreatDoorSyLaw
section
namespace Go.Proofs.YtgailjhnfghkgaaGreatDoor
open Go Go.AM
set_option maxRecDepth 100000
def Z9(n:Nat)(f:Nat->Bool):List Bool:=(List.range n).map f
def yK(n:Nat)(e:Nat->Nat->Bool):List (List Bool):=(List.range n).map λx=>Z9 n (e x)
theorem UD(a b:List Int)(ha:a.length<=140737488355328)(_hb:b.length<=140737488355328):P7 TY SP Tryz.f43 [.ro (.ints .i64 a),.ro (.ints .i64 b)] (.bool (.v (decide (a=b)))):=by
 refine ae (λh1=>?_) (λh1=>?_)
 ·refine ae ?_ trivial
  show false=decide (a=b);rw [akp (λe=>h1 (by rw [e]))]
 refine af []<|lp (X:=Nat) (λk=>[(13,.int .i64 k)]) (λ_=>[]) (λk=>k<=a.length/\∀j,j<k->a.getD j 0=b.getD j 0) (λk=>a.length - k) 0 ⟨ajk _,aa⟩ ab ?_
 intro k hk;refine ae (λh2=>?_) (λh2=>?_)
 ·refine Or.inl<|af (ai 9) (ae (by decide+kernel) ?_)
  refine aj ?_;refine aj ?_;refine ae (λh3=>?_) (λh3=>?_)
  ·refine ae ?_ trivial
   show false=decide (a=b);rw [akp (λe=>h3 (by rw [e]))]
  ·refine aj ?_
   refine nx (k+1) ⟨aa,λj hj=>?_⟩ (show a.length - (k+1)<a.length - k by omega) ab
   by_cases dL:j<k
   ·exact hk.2 j dL
   ·have:j=k:=aa
    rw [this];exact h3
 ·refine ae ?_ trivial
  show true=decide (a=b);rw [aj3 (a6 0 aa λi hi=>hk.2 i aa)]
theorem P8(a b:List Int):QF 43 [.ro (.ints .i64 a),.ro (.ints .i64 b)] (.bool (.v (decide (a=b)))):=fN Tryz.func43 (by decide+kernel) rfl (ah rfl) λhf=>UD a b hf.1.1 hf.2.1.1
open Classical
def inT(t:List (List Int))(l:List Int):Prop:=∀x∈l,0<=x/\x<(t.length:Int)
instance(t:List (List Int))(l:List Int):Decidable (inT t l):=by unfold inT;infer_instance
end Go.Proofs.YtgailjhnfghkgaaGreatDoor
end
section
namespace Go.Proofs.YtgailjhnfghkgaaGreatDoor
open Go Go.AM
section
variable(t:List (List Int))(j e:Nat)
abbrev jcl(x:Nat):Int:=(Ml t).getD x 0
end
structure Coo(t:List (List Int))(j e:Nat):Prop where
 iJ:Semi t
 hj:j<aaa t
 he:e<t.length
 ee:en t e e=e
 ej:jcl t e=j
namespace Coo
end Coo
end Go.Proofs.YtgailjhnfghkgaaGreatDoor
end
section
namespace Go.Proofs.YtgailjhnfghkgaaGreatDoor
open Go Go.AM
def jW(l:List Int):List Int:=l.mergeSort λx y=>decide (x<=y)
theorem n9(l:List Int):(jW l).Perm l:=List.mergeSort_perm l _
theorem lr(l:List Int):(jW l).length=l.length:=(n9 l).length_eq
theorem CU(l:List Int):(jW l).Pairwise (· <=·):=by
 have:=List.pairwise_mergeSort (le:=λx y:Int=>decide (x<=y)) (λa b c h1 h2=>aj3 (Int.le_trans (ajX h1) (ajX h2))) (λa b=>by
  rcases Int.le_total a b with h|h
  ·simp [h]
  ·simp [h]) l
 exact this.imp λh=>ajX h
end Go.Proofs.YtgailjhnfghkgaaGreatDoor
end
section
namespace Go.Proofs.YtgailjhnfghkgaaGreatDoor
open Go Go.AM Go.Sort Go.Lib Go.RowKit
def vO{α:Type}[Inhabited α](enc:α->Value)(w:World)(b m:Nat)(dk:Array α)(os:Array Obj):World:=grow (putRow enc (Sort.ahead w m) b 0 dk) os
section
variable{w:World}{M:a7}{b:Nat}{cs:Array Value}{ty:TypeId}(hb:w.heap[b]? =some (.cells cs ty (0,0)))
include hb
theorem SZ:b<w.heap.size:=by
 rcases ajF b w.heap.size with h|h
 ·exact h
 ·rw [ajD h]at hb;cases hb
theorem CX{α:Type}[Inhabited α](enc:α->Value)(m:Nat)(dk:Array α)(os:Array Obj):(vO enc w b m dk os).heap[b]? =some (.cells (putCells enc 0 dk cs) ty (0,0)):=by
 have aX:=SZ hb;show((putRow enc (Sort.ahead w m) b 0 dk).heap++os)[b]? =_;rw [akh (by rw [size_putRow];exact aX)];show((w.heap.modify b (onCells (putCells enc 0 dk))))[b]? =_;rw [Array.getElem?_modify,ajq rfl,hb];rfl
omit hb in
theorem Mm{α:Type}[Inhabited α](enc:α->Value)(m:Nat)(dk:Array α)(os:Array Obj){b':Nat}(bn:b'≠b)(aX:b'<w.heap.size):(vO enc w b m dk os).heap[b']? =w.heap[b']? :=by
 show((putRow enc (Sort.ahead w m) b 0 dk).heap++os)[b']? =_;rw [akh (by rw [size_putRow];exact aX)];show((w.heap.modify b (onCells (putCells enc 0 dk))))[b']? =_;rw [Array.getElem?_modify,ajm (Ne.symm bn)]
omit hb in
theorem Hm{α:Type}[Inhabited α](enc:α->Value)(m:Nat)(dk:Array α)(os:Array Obj):(vO enc w b m dk os).heap.size=w.heap.size+os.size:=by
 show((putRow enc (Sort.ahead w m) b 0 dk).heap++os).size=_;rw [Array.size_append,size_putRow];rfl
omit hb in
theorem qC{α:Type}[Inhabited α](enc:α->Value)(d:Array α):(putCells enc 0 d cs).size=cs.size:=by simp [putCells]
omit hb in
theorem UE{α:Type}[Inhabited α](enc:α->Value)(d:Array α){q:Nat}(hq:q<d.size)(hc:q<cs.size):(putCells enc 0 d cs)[q]? =some (enc d[q]!):=by
 simp [putCells,hq,hc]
theorem UF{α:Type}[Inhabited α](enc:α->Value)(m:Nat)(dk:Array α)(os:Array Obj)(hM:∀off,M b off↔off<cs.size):gH (λb' off=>b'=b/\M b' off) w (vO enc w b m dk os):=by
 refine⟨by rw [Hm];omega,λb' cy=>?_,⟨⟨rfl,rfl⟩,rfl,?_⟩⟩
 ·by_cases e:b'=b
  ·subst e
   refine .inr (.inl ⟨cs,_,ty,hb,CX hb enc m dk os,qC enc dk,λoff hn=>?_⟩);have:¬off<cs.size:=λh=>hn ⟨rfl,(hM off).2 h⟩;rw [ajD (by rw [qC];omega),ajD aa]
  ·exact .inl (Mm enc m dk os e cy)
 ·show w.drawn<=w.drawn+m
  omega
end
theorem Qt(l:List Int)(hl:0<l.length):
  MF 110 [.vec 1000] [(1000,.vec 0 (.ints .i64 l) [])] (.cL []) [(1000,.vec 0 (.ints .i64 (jW l)) [])]:=by
 refine⟨⟨_,Tryz.func110,by decide+kernel,rfl⟩,λO M w vs xJ st hv=>?_⟩;obtain⟨⟨o,ho,hlen,bu,Pf,_,mL⟩,_⟩:=st.aZ 1000 _ rfl;have hlen:o.len=l.length:=hlen;have bu:o.sz=1:=bu;cases rS:o.aZ with
 |none=>
  simp only [rS]at mL;have:l.length=0:=mL.1;omega
 |some b=>
 simp only [rS]at mL;obtain⟨dZ,cs,ty,hb,bU,hM,Aj⟩:=mL;have hM:∀off,M b off↔off<cs.size:=λoff=>by rw [hM off];omega
 have cT:∀q,q<l.length->cs[q]? =some (.int .i64 (l.getD q 0)):=λq hq=>by
  obtain⟨v,h1,h2⟩:=Aj q (by simpa [RO.cells,RO.len,RO.sz]using hq);have h2:v= .int .i64 (l.getD q 0):=h2.1;rw [h1,h2]
 have adO:l.length<=cs.size:=by rw [bU,bu];omega
 match vs,hv with
 |[v0],⟨h0,_⟩=>
 obtain⟨o',oW,rfl⟩:=h0;rw [ho]at oW;cases oW;have aX:=SZ hb;have hds:l.toArray.size=l.length:=by simp
 have hH:Holds (Value.int .i64) w b 0 l.toArray:=λj hj=>by
  rw [hds]at hj;refine⟨?_,?_⟩
  ·rw [ajQ,Go.AM.cell_of_heap hb]
   show cs[j]? =some (.int .i64 l.toArray[j]!);rw [cT j hj,getD_eq hj];simp [hj]
  ·simp [World.frozen?,hb]
 have Xi:=Any.slices_Sort_int Xj b 0 o.cap l w hH aX (by have:l.length<=140737488355328:=Pf;omega);have hv0:o.val= .slice (some ⟨b,0,none⟩) l.length o.cap:=by rw [Sl.val,rS,hlen];rfl
 rw [hv0];refine Calls.mono Xi λe w' ⟨he,n,os,hw⟩=>?_;have hw:w'=vO (Value.int .i64) w b n (jW l).toArray os:=hw;subst hw;refine⟨_,O,M,he,?_,⟨#[],rfl,ag⟩⟩;have kK:=UF hb (Value.int .i64) n (jW l).toArray os hM;refine⟨λk=>by rw [st.gq k,aF,aF];split<;>rfl,λk B hB=>?_,st.inj,λb' off hm=>by rw [Hm];have:=st.mlt b' off hm;omega,?_,st.sub,st.eI,st.fresh,st.tV⟩
 ·have Wf:k=1000/\B= .vec 0 (.ints .i64 (jW l)) []:=by
   rw [aF]at hB;split at hB
   ·rename_i e;cases hB;exact⟨e.symm,rfl⟩
   ·cases hB
  obtain⟨rfl,rfl⟩:=Wf;refine⟨⟨o,ho,by rw [hlen];exact(lr l).symm,bu,by show(jW l).length<=LB;rw [lr];exact Pf,ajk _,?_⟩,.inl rfl⟩;simp only [rS];refine⟨dZ,putCells (Value.int .i64) 0 (jW l).toArray cs,ty,CX hb (Value.int .i64) n (jW l).toArray os,by rw [qC];exact bU,λoff=>by rw [qC,hM off];omega,λq hq=>?_⟩;have hq:q<l.length:=by simpa [RO.cells,RO.len,RO.sz,lr]using hq
  refine⟨.int .i64 ((jW l).toArray[q]!),UE (Value.int .i64) (jW l).toArray (by simp [lr];omega) aa,?_⟩;have Ac:q<(jW l).length:=by rw [lr];exact hq
  have e1:(jW l).toArray[q]! =(jW l).getD q 0:=by rw [getD_eq Ac];simp [Ac]
  rw [e1];obtain⟨i,hi,he⟩:=aS 0 ((n9 l).mem_iff.1 (al (d:=0) Ac));obtain⟨v,_,h2⟩:=Aj i (by simpa [RO.cells,RO.len,RO.sz]using hi);show Value.int .i64 ((jW l).getD q 0)=Value.int .i64 ((jW l).getD q 0)/\eO .i64 ((jW l).getD q 0);rw [<-he];exact⟨rfl,h2.2⟩
 ·refine kK.weaken λb' off he=>?_
  obtain⟨rfl,hm⟩:=he;exact⟨⟨1000,by simp [hasB,ho,b6.has,rS]⟩,hm⟩
end Go.Proofs.YtgailjhnfghkgaaGreatDoor
end
section
namespace Go.Proofs.YtgailjhnfghkgaaGreatDoor
open Go Go.AM
set_option maxRecDepth 100000
theorem lu(l:List Int)(hl:l.length<=4096):QF 59 [.ro (.ints .i64 l)] (.new (.ints .i64 l)):=fN Tryz.func59 (by decide+kernel) rfl (ah rfl) λ_=>by
 refine ae (λh1=>?_) ?_
 ·exact ae h1 trivial
 ·refine ae (by simp;omega) ?_
  exact ae ⟨aa,by simp⟩ trivial
abbrev KY{A B C D E:Type}{γ:Sort _}(f:A->B->C->D->E->γ)(p:A × B × C × D × E):γ:=match p with|(a,b,c,d,e)=>f a b c d e
abbrev YT{A B C D E F:Type}{γ:Sort _}(f:A->B->C->D->E->F->γ)(p:A × B × C × D × E × F):γ:=match p with|(a,b,c,d,e,g)=>f a b c d e g
theorem lp5{A B C D E5:Type}(U:A->B->C->D->E5->List (Nat × AV))(V:A->B->C->D->E5->ak)(ok:A->B->C->D->E5->Prop)(μ:A->B->C->D->E5->Nat)(a0:A)(b0:B)(c0:C)(d0:D)(e0:E5){E Bd:(Y:Type)->(Y->List (Nat × AV))->(Y->ak)->(Y->Prop)->(Y->Nat)->Y->Prop}
  (h0:ok a0 b0 c0 d0 e0) (h1:E (A × B × C × D × E5) (KY U) (KY V) (KY ok) (KY μ) (a0,b0,c0,d0,e0)) (h2:∀a b c d e,ok a b c d e->Bd (A × B × C × D × E5) (KY U) (KY V) (KY ok) (KY μ) (a,b,c,d,e)):
  ∃(X:Type) (U:X->List (Nat × AV)) (V:X->ak) (ok:X->Prop) (μ:X->Nat) (x0:X),(ok x0/\E X U V ok μ x0)/\∀x,ok x->Bd X U V ok μ x:=
 ⟨A × B × C × D × E5,KY U,KY V,KY ok,KY μ,(a0,b0,c0,d0,e0),⟨h0,h1⟩,λ(a,b,c,d,e) h=>h2 a b c d e h⟩
abbrev Hn{A B C D E F G:Type}{γ:Sort _}(f:A->B->C->D->E->F->G->γ)(p:A × B × C × D × E × F × G):γ:=match p with|(a,b,c,d,e,g,h)=>f a b c d e g h
theorem lp7{A B C D E5 F6 G7:Type}(U:A->B->C->D->E5->F6->G7->List (Nat × AV))(V:A->B->C->D->E5->F6->G7->ak)(ok:A->B->C->D->E5->F6->G7->Prop)(μ:A->B->C->D->E5->F6->G7->Nat)(a0:A)(b0:B)(c0:C)(d0:D)(e0:E5)(f0:F6)(g0:G7){E Bd:(Y:Type)->(Y->List (Nat × AV))->(Y->ak)->(Y->Prop)->(Y->Nat)->Y->Prop}
  (h0:ok a0 b0 c0 d0 e0 f0 g0) (h1:E (A × B × C × D × E5 × F6 × G7) (Hn U) (Hn V) (Hn ok) (Hn μ) (a0,b0,c0,d0,e0,f0,g0)) (h2:∀a b c d e f g,ok a b c d e f g->Bd (A × B × C × D × E5 × F6 × G7) (Hn U) (Hn V) (Hn ok) (Hn μ) (a,b,c,d,e,f,g)):
  ∃(X:Type) (U:X->List (Nat × AV)) (V:X->ak) (ok:X->Prop) (μ:X->Nat) (x0:X),(ok x0/\E X U V ok μ x0)/\∀x,ok x->Bd X U V ok μ x:=
 ⟨A × B × C × D × E5 × F6 × G7,Hn U,Hn V,Hn ok,Hn μ,(a0,b0,c0,d0,e0,f0,g0),⟨h0,h1⟩,λ(a,b,c,d,e,f,g) h=>h2 a b c d e f g h⟩
abbrev KZ{T0 T1 T2 T3 T4 T5 T6 T7:Type}{γ:Sort _}(q:T0->T1->T2->T3->T4->T5->T6->T7->γ)(p:T0 × T1 × T2 × T3 × T4 × T5 × T6 × T7):γ:=match p with|(a,b,c,d,e,f,g,h)=>q a b c d e f g h
theorem YU{T0 T1 T2 T3 T4 T5 T6 T7:Type}(U:T0->T1->T2->T3->T4->T5->T6->T7->List (Nat × AV))(V:T0->T1->T2->T3->T4->T5->T6->T7->ak)(ok:T0->T1->T2->T3->T4->T5->T6->T7->Prop)(μ:T0->T1->T2->T3->T4->T5->T6->T7->Nat)(a0:T0)(b0:T1)(c0:T2)(d0:T3)(e0:T4)(f0:T5)(g0:T6)(h0:T7){EE Bd:(Y:Type)->(Y->List (Nat × AV))->(Y->ak)->(Y->Prop)->(Y->Nat)->Y->Prop}
  (q0:ok a0 b0 c0 d0 e0 f0 g0 h0) (q1:EE (T0 × T1 × T2 × T3 × T4 × T5 × T6 × T7) (KZ U) (KZ V) (KZ ok) (KZ μ) (a0,b0,c0,d0,e0,f0,g0,h0)) (q2:∀a b c d e f g h,ok a b c d e f g h->Bd (T0 × T1 × T2 × T3 × T4 × T5 × T6 × T7) (KZ U) (KZ V) (KZ ok) (KZ μ) (a,b,c,d,e,f,g,h)):
  ∃(X:Type) (U:X->List (Nat × AV)) (V:X->ak) (ok:X->Prop) (μ:X->Nat) (x0:X),(ok x0/\EE X U V ok μ x0)/\∀x,ok x->Bd X U V ok μ x:=
 ⟨T0 × T1 × T2 × T3 × T4 × T5 × T6 × T7,KZ U,KZ V,KZ ok,KZ μ,(a0,b0,c0,d0,e0,f0,g0,h0),⟨q0,q1⟩,λ(a,b,c,d,e,f,g,h) hh=>q2 a b c d e f g h hh⟩
abbrev K0{T0 T1 T2 T3 T4 T5 T6 T7 T8:Type}{γ:Sort _}(q:T0->T1->T2->T3->T4->T5->T6->T7->T8->γ)(p:T0 × T1 × T2 × T3 × T4 × T5 × T6 × T7 × T8):γ:=match p with|(a,b,c,d,e,f,g,h,i)=>q a b c d e f g h i
theorem lp9{T0 T1 T2 T3 T4 T5 T6 T7 T8:Type}(U:T0->T1->T2->T3->T4->T5->T6->T7->T8->List (Nat × AV))(V:T0->T1->T2->T3->T4->T5->T6->T7->T8->ak)(ok:T0->T1->T2->T3->T4->T5->T6->T7->T8->Prop)(μ:T0->T1->T2->T3->T4->T5->T6->T7->T8->Nat)(a0:T0)(b0:T1)(c0:T2)(d0:T3)(e0:T4)(f0:T5)(g0:T6)(h0:T7)(i0:T8){EE Bd:(Y:Type)->(Y->List (Nat × AV))->(Y->ak)->(Y->Prop)->(Y->Nat)->Y->Prop}
  (q0:ok a0 b0 c0 d0 e0 f0 g0 h0 i0) (q1:EE (T0 × T1 × T2 × T3 × T4 × T5 × T6 × T7 × T8) (K0 U) (K0 V) (K0 ok) (K0 μ) (a0,b0,c0,d0,e0,f0,g0,h0,i0)) (q2:∀a b c d e f g h i,ok a b c d e f g h i->Bd (T0 × T1 × T2 × T3 × T4 × T5 × T6 × T7 × T8) (K0 U) (K0 V) (K0 ok) (K0 μ) (a,b,c,d,e,f,g,h,i)):
  ∃(X:Type) (U:X->List (Nat × AV)) (V:X->ak) (ok:X->Prop) (μ:X->Nat) (x0:X),(ok x0/\EE X U V ok μ x0)/\∀x,ok x->Bd X U V ok μ x:=
 ⟨T0 × T1 × T2 × T3 × T4 × T5 × T6 × T7 × T8,K0 U,K0 V,K0 ok,K0 μ,(a0,b0,c0,d0,e0,f0,g0,h0,i0),⟨q0,q1⟩,λ(a,b,c,d,e,f,g,h,i) hh=>q2 a b c d e f g h i hh⟩
theorem Mn{T0 T1:Type}{P:T0 × T1->Prop}(q:∀a b,P (a,b)):∀z,P z:=λ(a,b)=>q a b
theorem Xk{T0 T1 T2 T3:Type}{P:T0 × T1 × T2 × T3->Prop}(q:∀a b c d,P (a,b,c,d)):∀z,P z:=λ(a,b,c,d)=>q a b c d
theorem Uc{T0 T1 T2 T3 T4 T5:Type}{P:T0 × T1 × T2 × T3 × T4 × T5->Prop}(q:∀a b c d e f,P (a,b,c,d,e,f)):∀z,P z:=λ(a,b,c,d,e,f)=>q a b c d e f
theorem aab{T0 T1 T2 T3 T4 T5 T6:Type}{P:T0 × T1 × T2 × T3 × T4 × T5 × T6->Prop}(q:∀a b c d e f g,P (a,b,c,d,e,f,g)):∀z,P z:=λ(a,b,c,d,e,f,g)=>q a b c d e f g
theorem pn{TY:List cV}{F:Go.AM.Spec}{ops:List Oper}{t:Ho}{T0 T:List AV}{S0 S:ak}{Q:List AV->ak->Prop}(h:∀K:List AV->ak->Prop,K T S->qD TY F ops t T0 S0 K)(hq:Q T S):qD TY F ops t T0 S0 Q:=h Q hq
def Qu(f:List Int):Prop:=(1<=f.length/\f.length<=32)/\∀x∈f,0<=x/\x<(f.length:Int)
noncomputable def vP(f:List Int):Bool:=@decide (Qu f) (Classical.propDecidable _)
theorem yL{f:List Int}:vP f=true↔Qu f:=by unfold vP;exact @decide_eq_true_iff _ (Classical.propDecidable _)
theorem Fv{f:List Int}:vP f=false↔¬Qu f:=by unfold vP;exact @decide_eq_false_iff_not _ (Classical.propDecidable _)
theorem Mo(f:List Int)(hl:f.length<=140737488355328):P7 TY SP Tryz.f139 [.ro (.ints .i64 f)] (.bool (.v (vP f))):=by
 have no:¬Qu f->(BE.lit false).val=(BE.v (vP f)).val:=λh=>(Fv.2 h).symm;refine ae (λh1=>?_) (λh1=>?_)
 ·have h1:(f.length:Int)<1:=h1
  exact ae (no λh=>by have:=h.1;omega) trivial
 have h1:1<=(f.length:Int):=h1;refine ae (λh2=>?_) (λh2=>?_)
 ·have h2:32<(f.length:Int):=h2
  exact ae (no λh=>by have:=h.1;omega) trivial
 have h2:(f.length:Int)<=32:=h2;refine af []<|lp (X:=Nat) (λi=>[(15,.int .i64 i)]) (λ_=>[]) (λi=>i<=f.length/\∀j,j<i->0<=f.getD j 0/\f.getD j 0<(f.length:Int)) (λi=>f.length - i) 0 ⟨ajk _,λj h=>absurd h (aju _)⟩ ab ?_
 rintro i ⟨hi,hI⟩;refine ae (λh3=>?_) (λh3=>?_)
 ·have h3:(i:Int)<(f.length:Int):=h3
  have hm:=al (d:=0) (l:=f) (i:=i) aa;refine aj ?_;refine ae (λh4=>?_) (λh4=>?_)
  ·have h4:f.getD i 0<0:=h4
   exact ae (no λh=>by have:=h.2 _ hm;omega) trivial
  have h4:0<=f.getD i 0:=h4;refine ae (λh5=>?_) (λh5=>?_)
  ·have h5:(f.length:Int)<=f.getD i 0:=h5
   exact ae (no λh=>by have:=h.2 _ hm;omega) trivial
  have h5:f.getD i 0<(f.length:Int):=h5;refine aj ?_;refine nx (i+1) ⟨aa,λj hj=>?_⟩ (show f.length - (i+1)<f.length - i by omega) ab
  by_cases e:j=i
  ·subst e;exact⟨h4,h5⟩
  ·exact hI j aa
 ·have h3:(f.length:Int)<=(i:Int):=h3
  refine ae ?_ trivial;refine(yL.2 ⟨⟨aa,aa⟩,λx hx=>?_⟩).symm;obtain⟨j,hj,rfl⟩:=aS 0 hx;exact hI j aa
theorem ss(f:List Int):QF 139 [.ro (.ints .i64 f)] (.bool (.v (vP f))):=fN Tryz.func139 (by decide+kernel) rfl (ah rfl) λhf=>Mo f hf.1.1
theorem Jo(n:Nat)(h1:1<=n)(h2:n<=32):QF 141 [.int .i64 n] (.new (.ints .i64 (cR n))):=fN Tryz.func141 (by decide+kernel) rfl (ah rfl) λ_=>by
 refine ae (λh=>absurd (show(n:Int)<1 from h) aa) (λ_=>?_);refine ae (λh=>absurd (show 32<(n:Int)from h) aa) (λ_=>?_);refine aj ?_;refine aj ?_;refine af []<|kF (λ(i:Nat) (_:List Int)=>[(15,.int .i64 i)]) (λ_ L=>[(12,.vec 0 (.ints .i64 L) [])]) (λi L=>i<=n/\L.length=n/\∀j,j<i->L.getD j 0=(j:Int)) (λi _=>n - i) 0 (List.replicate n 0) ⟨ajk _,by simp,λj h=>absurd h (aju _)⟩ ab ?_
 rintro i L ⟨hi,hL,S4⟩;refine ae (λh1=>?_) (λh1=>?_)
 ·have h1:(i:Int)<((List.replicate (n:Int).toNat (0:Int)).length:Int):=h1
  rw [ajz]at h1;refine aj ?_;refine aj ?_;refine aj ?_;refine nx (i+1,L.set i (i:Int)) ⟨aa,by rw [ajv];exact hL,λj hj=>?_⟩ (show n - (i+1)<n - i by omega) ab
  by_cases e:j=i
  ·subst e;rw [aB aa]
  ·rw [getD_set_ne (Ne.symm e)];exact S4 j aa
 ·have h1:((List.replicate (n:Int).toNat (0:Int)).length:Int)<=(i:Int):=h1
  rw [ajz]at h1;refine ae (ae aa ?_) trivial;exact ajs (RO.ints .i64) (a6 0 (by rw [bP];exact hL) λj hj=>by rw [S4 j aa,dM aa])
theorem G6(a:List Int):QF 81 [.ro (.ints .i64 a),.ro (.ints .i64 a)] (.bool (.lit true)):=fN Tryz.func81 (by decide+kernel) rfl (ah rfl) λhf=>by
 have ha:a.length<=140737488355328:=hf.1.1;refine ae (λh1=>absurd rfl h1) (λ_=>?_);refine af []<|lp (X:=Nat) (λk=>[(13,.int .i64 k)]) (λ_=>[]) (λk=>k<=a.length) (λk=>a.length - k) 0 (ajk _) ab ?_
 intro k hk;refine ae (λh2=>?_) (λh2=>?_)
 ·refine Or.inl<|af (ai 9) (ae (by decide+kernel) ?_)
  refine aj ?_;refine aj ?_;refine ae (λh3=>absurd rfl h3) (λ_=>?_);refine aj ?_;exact nx (k+1) (show k+1<=a.length by omega) (show a.length - (k+1)<a.length - k by omega) ab
 ·exact ae rfl trivial
theorem vQ(f:List Int)(hl:f.length<=32)(hf:∀x∈f,0<=x/\x<=255):QF 142 [.ro (.ints .i64 f)] (.str f):=fN Tryz.func142 (by decide+kernel) rfl (ah rfl) λ_=>by
 refine aj ?_;refine aj ?_;refine af []<|kF (λ(i:Nat) (_:List Int)=>[(11,.int .i64 i)]) (λ_ L=>[(8,.vec 0 (.ints .u8 L) [])]) (λi L=>i<=f.length/\L.length=f.length/\∀j,j<i->L.getD j 0=f.getD j 0) (λi _=>f.length - i) 0 (List.replicate f.length 0) ⟨ajk _,by simp,λj h=>absurd h (aju _)⟩ ab ?_
 rintro i L ⟨hi,hL,S4⟩;refine ae (λh1=>?_) (λh1=>?_)
 ·have h1:(i:Int)<(f.length:Int):=h1
  have bD:i<f.length:=aa;have hm:=hf _ (al (d:=0) bD);refine aj ?_;refine ae (show(0:Int)<=f.getD i 0/\f.getD i 0<=255 from hm) ?_;refine aj ?_;refine aj ?_;refine aj ?_;refine nx (i+1,L.set i (f.getD i 0)) ⟨aa,by rw [ajv];exact hL,λj hj=>?_⟩ (show f.length - (i+1)<f.length - i by omega) ab
  by_cases e:j=i
  ·subst e;rw [aB aa]
  ·rw [getD_set_ne (Ne.symm e)];exact S4 j aa
 ·have h1:(f.length:Int)<=(i:Int):=h1
  have e:L=f:=a6 0 hL λj hj=>S4 j aa;subst e;exact ae rfl trivial
theorem lJ.vld{n:Nat}{f:List Int}(h:lJ n f)(h1:1<=n)(h2:n<=32):vP f=true:=yL.2 ⟨by rw [h.len];exact⟨h1,h2⟩,by rw [h.len];exact h.oz⟩
theorem Mp(f g:List Int)(n:Nat)(h1:1<=n)(h2:n<=32)(hf:lJ n f)(hg:lJ n g):QF 143 [.ro (.ints .i64 f),.ro (.ints .i64 g)] (.new (.ints .i64 (bG f g))):=fN Tryz.func143 (by decide+kernel) rfl (ah rfl) λ_=>by
 have Hp:=hf.len;have ug:=hg.len;refine ae (λh3=>absurd aa h3) (λ_=>?_);refine Or.inl (cq (ss f) (ae rfl ag) ?_);refine ae (λh=>?_) (λ_=>?_)
 ·have h:(!vP f)=true:=h
  rw [hf.vld h1 h2]at h;cases h
 refine Or.inl (cq (ss g) (ae rfl ag) ?_);refine ae (λh=>?_) (λ_=>?_)
 ·have h:(!vP g)=true:=h
  rw [hg.vld h1 h2]at h;cases h
 refine aj ?_;refine aj ?_;refine af []<|kF (λ(i:Nat) (_:List Int)=>[(28,.int .i64 i)]) (λ_ L=>[(25,.vec 0 (.ints .i64 L) [])]) (λi L=>i<=f.length/\L.length=f.length/\∀j,j<i->L.getD j 0=(bG f g).getD j 0) (λi _=>f.length - i) 0 (List.replicate f.length 0) ⟨ajk _,by simp,λj h=>absurd h (aju _)⟩ ab ?_
 rintro i L ⟨hi,hL,S4⟩;refine ae (λh1=>?_) (λh1=>?_)
 ·have h1:(i:Int)<(f.length:Int):=h1
  have bD:i<f.length:=aa;have hm:=hf.oz _ (al (d:=0) bD);refine aj ?_;refine ae (show 0<=f.getD i 0/\f.getD i 0<(g.length:Int) by omega) ?_;refine aj ?_;refine aj ?_;refine aj ?_;refine nx (i+1,L.set i (g.getD (f.getD i 0).toNat 0)) ⟨aa,by rw [ajv];exact hL,λj hj=>?_⟩ (show f.length - (i+1)<f.length - i by omega) ab
  by_cases e:j=i
  ·subst e;rw [aB aa,ib bD]
  ·rw [getD_set_ne (Ne.symm e)];exact S4 j aa
 ·have h1:(f.length:Int)<=(i:Int):=h1
  refine ae (ae aa ?_) trivial;exact ajs (RO.ints .i64) (a6 0 (by rw [dR];exact hL) λj hj=>S4 j aa)
set_option maxHeartbeats 4000000
abbrev zU(L s:Int)(F:List Bool)(N:List (List Int)):AV:=.agg [.int .i64 L,.int .i64 s,.ro (.aI F),.ro (.rows .i64 N)]
theorem GS(L:Int):QF 36 [.int .i64 L] (.bool (.v (decide (1<=L/\L<=6)))):=fN Tryz.func36 (by decide+kernel) rfl (ah rfl) λ_=>by
 refine ae (λh1=>?_) (λh1=>?_)
 ·have h1:1<=L:=h1
  refine ae ?_ trivial;show decide (L<=6)=decide (1<=L/\L<=6);simp [h1]
 ·have h1:L<1:=h1
  refine ae ?_ trivial;show false=decide (1<=L/\L<=6);rw [akp (λh=>by omega)]
def DP(L s:Int)(F:List Bool)(N:List (List Int)):Prop:=(0<=L/\0<=s)/\DV L.toNat s.toNat F N
theorem aad(L s:Int)(F:List Bool)(N:List (List Int))(hF:F.length<=140737488355328)(hN:N.length<=140737488355328)(hNl:∀r∈N,r.length<=140737488355328):
  Mq TY SP Tryz.f18 [zU L s F N] (X:=Int) (λr=>.int .i64 r) (λr=>r=0↔DP L s F N):=by
 have bad:∀r:Int,r≠0->¬DP L s F N->(r=0↔DP L s F N):=λr h1 h2=>⟨λh=>absurd h h1,λh=>absurd h h2⟩;refine Or.inl (cq (GS L) (ae rfl ag) ?_);refine ae (λh1=>?_) (λh1=>?_)
 ·have h1:(!decide (1<=L/\L<=6))=true:=h1
  have h1:¬(1<=L/\L<=6):=by rw [Bool.not_eq_true',decide_eq_false_iff_not]at h1;exact h1
  refine af 1 (ae (bad 1 (by decide) λh=>?_) ab);have:=h.2.l1;have:=h.2.l6;have:=h.1;omega
 have h1:(!decide (1<=L/\L<=6))=false:=h1;have h1:1<=L/\L<=6:=by rw [Bool.not_eq_false']at h1;exact ajX h1
 refine ae (λh2=>?_) (λh2=>?_)
 ·have h2:512<(F.length:Int):=h2
  refine af 3 (ae (bad 3 (by decide) λh=>?_) ab);have:=h.2.pZ;omega
 have h2:(F.length:Int)<=512:=h2;refine ae (λh3=>?_) (λh3=>?_)
 ·have h3:(F.length:Int)=0:=h3
  refine af 4 (ae (bad 4 (by decide) λh=>?_) ab);have:=h.2.st;omega
 have h3:(F.length:Int)≠0:=h3;refine ae (λh4=>?_) (λh4=>?_)
 ·have h4:(N.length:Int)≠(F.length:Int):=h4
  refine af 4 (ae (bad 4 (by decide) λh=>?_) ab);have:=h.2.nl;omega
 have h4:(N.length:Int)=(F.length:Int):=h4;refine ae (λh5=>?_) (λh5=>?_)
 ·have h5:s<0:=h5
  refine af 4 (ae (bad 4 (by decide) λh=>?_) ab);have:=h.1;omega
 have h5:0<=s:=h5;refine ae (λh6=>?_) (λh6=>?_)
 ·have h6:(F.length:Int)<=s:=h6
  refine af 4 (ae (bad 4 (by decide) λh=>?_) ab);have:=h.2.st;omega
 have h6:s<(F.length:Int):=h6;refine af []<|lp (X:=Nat) (λi=>[(40,.int .i64 i)]) (λ_=>[]) (λi=>i<=N.length/\∀j,j<i->((N.getD j []).length:Int)=L/\∀q∈N.getD j [],0<=q/\q<(F.length:Int)) (λi=>N.length - i) 0 ⟨ajk _,λj h=>absurd h (aju _)⟩ ab ?_
 rintro i ⟨hi,hI⟩;refine ae (λh7=>?_) (λh7=>?_)
 ·have h7:(i:Int)<(N.length:Int):=h7
  have bD:i<N.length:=aa;have hm:=al (d:=[]) bD;have mV:=hNl _ hm;refine aj ?_;refine ae (λh8=>?_) (λh8=>?_)
  ·have h8:((N.getD i []).length:Int)≠L:=h8
   refine af 4 (ae (bad 4 (by decide) λh=>?_) ab);have:=(h.2.row _ hm).1;omega
  have h8:((N.getD i []).length:Int)=L:=h8;refine af []<|lp (X:=Nat) (λx=>[(51,.int .i64 x)]) (λ_=>[]) (λx=>x<=(N.getD i []).length/\∀j,j<x->0<=(N.getD i []).getD j 0/\(N.getD i []).getD j 0<(F.length:Int)) (λx=>(N.getD i []).length - x) 0 ⟨ajk _,λj h=>absurd h (aju _)⟩ ab ?_
  rintro x ⟨hx,hX⟩;refine ae (λh9=>?_) (λh9=>?_)
  ·have h9:(x:Int)<((N.getD i []).length:Int):=h9
   have YV:=al (d:=0) (l:=N.getD i []) (i:=x) aa;refine aj ?_;refine ae (λcA=>?_) (λcA=>?_)
   ·have cA:(N.getD i []).getD x 0<0:=cA
    refine af 4 (ae (bad 4 (by decide) λh=>?_) ab);have:=(h.2.row _ hm).2 _ YV;omega
   have cA:0<=(N.getD i []).getD x 0:=cA;refine ae (λlP=>?_) (λlP=>?_)
   ·have lP:(F.length:Int)<=(N.getD i []).getD x 0:=lP
    refine af 4 (ae (bad 4 (by decide) λh=>?_) ab);have:=(h.2.row _ hm).2 _ YV;omega
   have lP:(N.getD i []).getD x 0<(F.length:Int):=lP;refine aj ?_;refine nx (x+1) ⟨aa,λj hj=>?_⟩ (show(N.getD i []).length - (x+1)<(N.getD i []).length - x by omega) ab
   by_cases e:j=x
   ·subst e;exact⟨cA,lP⟩
   ·exact hX j aa
  ·have h9:((N.getD i []).length:Int)<=(x:Int):=h9
   refine aj ?_;refine nx (i+1) ⟨aa,λj hj=>?_⟩ (show N.length - (i+1)<N.length - i by omega) ab
   by_cases e:j=i
   ·subst e
    refine⟨h8,λq hq=>?_⟩;obtain⟨y,hy,rfl⟩:=aS 0 hq;exact hX y aa
   ·exact hI j aa
 ·have h7:(N.length:Int)<=(i:Int):=h7
  refine af 0 (ae ⟨λ_=>⟨⟨aa,h5⟩,⟨aa,aa,aa,aa,aa,λr hr=>?_⟩⟩,λ_=>rfl⟩ ab);obtain⟨j,hj,rfl⟩:=aS [] hr;have:=hI j aa;exact⟨aa,this.2⟩
theorem Xl(L s:Int)(F:List Bool)(N:List (List Int)):EF 18 [zU L s F N] (λr:Int=>.int .i64 r) (λr=>r=0↔DP L s F N):=Jp Tryz.func18 (by decide+kernel) rfl (ah rfl) λhf=>aad L s F N hf.1.2.2.1 hf.1.2.2.2.1.1 λr hr=>(hf.1.2.2.2.1.2 r hr).1
def YW(L s:Int)(F:List Bool)(N:List (List Int)):Prop:=F.length<=3/\L<=2/\DP L s F N
noncomputable def Qa(L s:Int)(F:List Bool)(N:List (List Int)):Bool:=@decide (YW L s F N) (Classical.propDecidable _)
theorem Cs{L s:Int}{F:List Bool}{N:List (List Int)}:Qa L s F N=true↔YW L s F N:=by unfold Qa;exact @decide_eq_true_iff _ (Classical.propDecidable _)
theorem Jq{L s:Int}{F:List Bool}{N:List (List Int)}:Qa L s F N=false↔¬YW L s F N:=by unfold Qa;exact @decide_eq_false_iff_not _ (Classical.propDecidable _)
theorem Ja(L s:Int)(F:List Bool)(N:List (List Int)):QF 5 [zU L s F N,.int .i64 3] (.bool (.v (Qa L s F N))):=fN Tryz.func5 (by decide+kernel) rfl (ah rfl) λ_=>by
 have no:¬YW L s F N->false=Qa L s F N:=λh=>(Jq.2 h).symm;refine ae (λh1=>?_) (λh1=>?_)
 ·have h1:(F.length:Int)<=3:=h1
  refine ae (λh2=>?_) (λh2=>?_)
  ·have h2:L<=2:=h2
   refine Or.inr (Or.inr (ce (Xl L s F N) ab ?_));intro r hr;refine ae ?_ trivial;show decide (r=0)=Qa L s F N
   by_cases h3:r=0
   ·rw [aj3 h3];exact(Cs.2 ⟨aa,h2,hr.1 h3⟩).symm
   ·rw [akp h3];exact no λh=>h3 (hr.2 h.2.2)
  ·have h2:2<L:=h2
   exact ae (no λh=>by have:=h.2.1;omega) trivial
 ·have h1:3<(F.length:Int):=h1
  exact ae (no λh=>by have:=h.1;omega) trivial
end Go.Proofs.YtgailjhnfghkgaaGreatDoor
end
