import Derived.Test.YtgailjhnfghkgaaGreatDoorAmTy
import Derived.Test.YtgailjhnfghkgaaGreatDoorProg
import Derived.Test.YtgailjhnfghkgaaGreatDoorAmRet
section
namespace Go.Proofs.YtgailjhnfghkgaaGreatDoor
open Go Go.AM
set_option maxRecDepth 100000
theorem LP:aR Tryz.prog TY:=RV (by decide+kernel) (by decide+kernel) (by decide+kernel)
theorem mixed:Tryz.prog.follows .mixedOrders=true:=by decide+kernel
abbrev SP:Go.AM.Spec:=Om Tryz.prog
abbrev QF(f:FuncId)(args:List AV)(ret:AV):Prop:=Go.AM.Fn Tryz.prog f args ret
abbrev EF(f:FuncId)(args:List AV){X:Type}(out:X->AV)(ok:X->Prop):Prop:=Go.AM.Y5 Tryz.prog f args X out ok
abbrev MF(f:FuncId)(args:List AV)(S1:ak)(ret:AV)(S2:ak):Prop:=Go.AM.Y6 Tryz.prog f args S1 ret S2
abbrev NF(f:FuncId)(args:List AV)(S1:ak){X:Type}(ret:X->AV)(S2:X->ak)(ok:X->Prop):Prop:=Go.AM.Y7 Tryz.prog f args S1 X ret S2 ok
theorem fN{f:FuncId}{fn:Func}{args:List AV}{ret:AV}(hf:Tryz.prog.funcs[f]? =some fn)(hn:fn.name≠ "runtime.NumGoroutine")(hb:fn.body.isSome=true)(hl:args.length<=fn.ntmps)
  (h:kO args->P7 TY SP fn args ret):QF f args ret:=ME LP (ox _) mixed hf hn hb hl h
theorem Jp{f:FuncId}{fn:Func}{args:List AV}{X:Type}{out:X->AV}{ok:X->Prop}(hf:Tryz.prog.funcs[f]? =some fn)(hn:fn.name≠ "runtime.NumGoroutine")(hb:fn.body.isSome=true)(hl:args.length<=fn.ntmps)
  (h:kO args->Mq TY SP fn args out ok):EF f args out ok:=JF LP (ox _) mixed hf hn hb hl h
theorem ui{f:FuncId}{fn:Func}{args:List AV}{S1 S2:ak}{ret:AV}(hf:Tryz.prog.funcs[f]? =some fn)(hn:fn.name≠ "runtime.NumGoroutine")(hb:fn.body.isSome=true)(hl:args.length<=fn.ntmps)
  (h:kO args->JH TY SP fn args S1 ret S2):MF f args S1 ret S2:=JG LP (ox _) mixed hf hn hb hl h
theorem XL{f:FuncId}{fn:Func}{args:List AV}{S1:ak}{X:Type}{ret:X->AV}{S2:X->ak}{ok:X->Prop}(hf:Tryz.prog.funcs[f]? =some fn)(hn:fn.name≠ "runtime.NumGoroutine")(hb:fn.body.isSome=true)(hl:args.length<=fn.ntmps)
  (h:kO args->QE TY SP fn args S1 X ret S2 ok):NF f args S1 ret S2 ok:=JI LP (ox _) mixed hf hn hb hl h
theorem al{α:Type}{l:List α}{i:Nat}{d:α}(h:i<l.length):l.getD i d∈l:=by
 simp [List.getD,h]
theorem getD_eq{α:Type}{l:List α}{i:Nat}{d:α}(h:i<l.length):l.getD i d=l[i]:=by
 simp [List.getD,h]
theorem getD_set_ne{α:Type}{l:List α}{i j:Nat}{a d:α}(h:i≠j):(l.set i a).getD j d=l.getD j d:=by
 simp [List.getD,List.getElem?_set_ne h]
theorem aB{α:Type}{l:List α}{i:Nat}{a d:α}(h:i<l.length):(l.set i a).getD i d=a:=by
 simp [List.getD,h]
theorem aS{α:Type}{l:List α}{x:α}(d:α)(h:x∈l):∃i,i<l.length/\l.getD i d=x:=by
 obtain⟨i,hi,e⟩:=List.mem_iff_getElem.1 h;exact⟨i,hi,by rw [getD_eq hi,e]⟩
theorem lp{X:Type}(U:X->List (Nat × AV))(V:X->ak)(ok:X->Prop)(μ:X->Nat)(x0:X){E:(Y:Type)->(Y->List (Nat × AV))->(Y->ak)->(Y->Prop)->(Y->Nat)->Y->Prop}{B:(Y:Type)->(Y->List (Nat × AV))->(Y->ak)->(Y->Prop)->(Y->Nat)->Y->Prop}
  (h0:ok x0) (h1:E X U V ok μ x0) (h2:∀x,ok x->B X U V ok μ x):
  ∃(X:Type) (U:X->List (Nat × AV)) (V:X->ak) (ok:X->Prop) (μ:X->Nat) (x0:X),(ok x0/\E X U V ok μ x0)/\∀x,ok x->B X U V ok μ x:=
 ⟨X,U,V,ok,μ,x0,⟨h0,h1⟩,h2⟩
abbrev zA{A B:Type}{γ:Sort _}(f:A->B->γ)(p:A × B):γ:=match p with|(a,b)=>f a b
abbrev K8{A B C:Type}{γ:Sort _}(f:A->B->C->γ)(p:A × B × C):γ:=match p with|(a,b,c)=>f a b c
abbrev B4{A B C D:Type}{γ:Sort _}(f:A->B->C->D->γ)(p:A × B × C × D):γ:=match p with|(a,b,c,d)=>f a b c d
theorem kF{A B:Type}(U:A->B->List (Nat × AV))(V:A->B->ak)(ok:A->B->Prop)(μ:A->B->Nat)(a0:A)(b0:B){E Bd:(Y:Type)->(Y->List (Nat × AV))->(Y->ak)->(Y->Prop)->(Y->Nat)->Y->Prop}
  (h0:ok a0 b0) (h1:E (A × B) (zA U) (zA V) (zA ok) (zA μ) (a0,b0)) (h2:∀a b,ok a b->Bd (A × B) (zA U) (zA V) (zA ok) (zA μ) (a,b)):
  ∃(X:Type) (U:X->List (Nat × AV)) (V:X->ak) (ok:X->Prop) (μ:X->Nat) (x0:X),(ok x0/\E X U V ok μ x0)/\∀x,ok x->Bd X U V ok μ x:=
 ⟨A × B,zA U,zA V,zA ok,zA μ,(a0,b0),⟨h0,h1⟩,λ(a,b) h=>h2 a b h⟩
theorem BU{A B C:Type}(U:A->B->C->List (Nat × AV))(V:A->B->C->ak)(ok:A->B->C->Prop)(μ:A->B->C->Nat)(a0:A)(b0:B)(c0:C){E Bd:(Y:Type)->(Y->List (Nat × AV))->(Y->ak)->(Y->Prop)->(Y->Nat)->Y->Prop}
  (h0:ok a0 b0 c0) (h1:E (A × B × C) (K8 U) (K8 V) (K8 ok) (K8 μ) (a0,b0,c0)) (h2:∀a b c,ok a b c->Bd (A × B × C) (K8 U) (K8 V) (K8 ok) (K8 μ) (a,b,c)):
  ∃(X:Type) (U:X->List (Nat × AV)) (V:X->ak) (ok:X->Prop) (μ:X->Nat) (x0:X),(ok x0/\E X U V ok μ x0)/\∀x,ok x->Bd X U V ok μ x:=
 ⟨A × B × C,K8 U,K8 V,K8 ok,K8 μ,(a0,b0,c0),⟨h0,h1⟩,λ(a,b,c) h=>h2 a b c h⟩
theorem lp4{A B C D:Type}(U:A->B->C->D->List (Nat × AV))(V:A->B->C->D->ak)(ok:A->B->C->D->Prop)(μ:A->B->C->D->Nat)(a0:A)(b0:B)(c0:C)(d0:D){E Bd:(Y:Type)->(Y->List (Nat × AV))->(Y->ak)->(Y->Prop)->(Y->Nat)->Y->Prop}
  (h0:ok a0 b0 c0 d0) (h1:E (A × B × C × D) (B4 U) (B4 V) (B4 ok) (B4 μ) (a0,b0,c0,d0)) (h2:∀a b c d,ok a b c d->Bd (A × B × C × D) (B4 U) (B4 V) (B4 ok) (B4 μ) (a,b,c,d)):
  ∃(X:Type) (U:X->List (Nat × AV)) (V:X->ak) (ok:X->Prop) (μ:X->Nat) (x0:X),(ok x0/\E X U V ok μ x0)/\∀x,ok x->Bd X U V ok μ x:=
 ⟨A × B × C × D,B4 U,B4 V,B4 ok,B4 μ,(a0,b0,c0,d0),⟨h0,h1⟩,λ(a,b,c,d) h=>h2 a b c d h⟩
theorem cm{f:FuncId}(fz:List Nat)(σ:List (Nat × Nat)){S1:ak}{as2:List AV}{ret:AV}{S2:ak}(h:MF f as2 S1 ret S2){Q:Prop}{R:List Nat->List (Nat × Nat)->ak->List AV->AV->ak->Prop}(hr:R fz σ S1 as2 ret S2):
  (∃(fz:List Nat) (σ:List (Nat × Nat)) (S1:ak) (as2:List AV) (ret:AV) (S2:ak),SP.m f as2 S1 ret S2/\R fz σ S1 as2 ret S2)\/Q:=Or.inl ⟨fz,σ,S1,as2,ret,S2,h,hr⟩
theorem cn{f:FuncId}(fz:List Nat)(σ:List (Nat × Nat)){S1:ak}{as2:List AV}{X:Type}{ret:X->AV}{S2:X->ak}{ok:X->Prop}(h:NF f as2 S1 ret S2 ok){Q:Prop}{R:List Nat->List (Nat × Nat)->ak->List AV->(X:Type)->(X->AV)->(X->ak)->(X->Prop)->Prop}(hr:R fz σ S1 as2 X ret S2 ok):
  Q\/∃(fz:List Nat) (σ:List (Nat × Nat)) (S1:ak) (as2:List AV) (X:Type) (ret:X->AV) (S2:X->ak) (ok:X->Prop),SP.n f as2 S1 X ret S2 ok/\R fz σ S1 as2 X ret S2 ok:=Or.inr ⟨fz,σ,S1,as2,X,ret,S2,ok,h,hr⟩
theorem cq{f:FuncId}{as2:List AV}{ret:AV}(h:QF f as2 ret){R Q:List AV->AV->Prop}(ha:R as2 ret)(hr:Q as2 ret):∃(as2:List AV) (ret:AV),SP.q f as2 ret/\R as2 ret/\Q as2 ret:=⟨as2,ret,h,ha,hr⟩
theorem ce{f:FuncId}{as2:List AV}{X:Type}{out:X->AV}{ok:X->Prop}(h:EF f as2 out ok){R:List AV->Prop}{Q:(X:Type)->(X->AV)->X->Prop}(ha:R as2)(hr:∀x,ok x->Q X out x):
  ∃(X:Type) (as2:List AV) (out:X->AV) (ok:X->Prop),SP.e f as2 X out ok/\R as2/\∀x,ok x->Q X out x:=⟨X,as2,out,ok,h,ha,hr⟩
theorem nx{X:Type}{ok:X->Prop}{μ:X->Nat}{m:Nat}{T3 T0:List AV}{R:X->Prop}(x':X)(h1:ok x')(h2:μ x'<m)(h4:R x')(h3:T3=T0:=by rfl):∃x',(ok x'/\μ x'<m)/\T3=T0/\R x':=⟨x',⟨h1,h2⟩,h3,h4⟩
section
variable{α β:Type}[DecidableEq α][DecidableEq β]
def gm(acc:List α)(x:α):List α:=if x∈acc then acc else acc++[x]
def av(l:List α):List α:=l.foldl gm []
def canon(l:List α):List Int:=l.map λx=>(((av l).idxOf x:Nat):Int)
theorem EH{l:List α}:∀{acc:List α} {x:α},x∈l.foldl gm acc↔x∈acc\/x∈l:=by
 induction l with
 |nil=>simp
 |cons a l ih=>
  intro acc x;rw [akl,ih,gm];split
  ·rename_i h
   constructor
   ·rintro (h'|h')
    ·exact .inl h'
    ·exact .inr (ajj _ h')
   ·rintro (h'|h')
    ·exact .inl h'
    ·rcases ajo.1 h' with rfl|h'
     ·exact .inl h
     ·exact .inr h'
  ·simp only [ajK,ajo,or_assoc,akn,false_or]
theorem aL{l:List α}{x:α}:x∈av l↔x∈l:=by simp [av,EH]
theorem EI{l:List α}:∀{acc:List α},∃t,l.foldl gm acc=acc++t:=by
 induction l with
 |nil=>exact λ{acc}=>⟨[],by simp⟩
 |cons a l ih=>
  intro acc;obtain⟨t,ht⟩:=ih (acc:=gm acc a);rw [akl,ht,gm];split
  ·exact⟨t,rfl⟩
  ·exact⟨a::t,by simp⟩
theorem yp{l m:List α}:∃t,av (l++m)=av l++t:=by
 rw [av,List.foldl_append];exact EI
theorem bQ{l:List α}{x:α}:av (l++[x])=if x∈l then av l else av l++[x]:=by
 rw [av,List.foldl_append];show gm (av l) x=_;simp only [gm,aL]
theorem yq{l:List α}:∀{acc:List α},acc.Nodup->(l.foldl gm acc).Nodup:=by
 induction l with
 |nil=>exact λh=>h
 |cons a l ih=>
  intro acc h;rw [akl];refine ih ?_;unfold gm;split
  ·exact h
  ·rename_i hn
   rw [List.nodup_append];refine⟨h,by simp,λx hx y hy e=>?_⟩;simp at hy;subst hy;subst e;exact hn hx
theorem fP(l:List α):(av l).Nodup:=yq (by simp)
theorem GK{l m:List α}{x:α}(h:x∈l):(av (l++m)).idxOf x=(av l).idxOf x:=by
 obtain⟨t,ht⟩:=yp (l:=l) (m:=m);rw [ht,List.idxOf_append,ajq (aL.2 h)]
theorem bI(l:List α):(canon l).length=l.length:=by simp [canon]
omit [DecidableEq α] in
theorem cU{l:List α}{i:Nat}{d:α}(h:i<l.length):l.take (i+1)=l.take i++[l.getD i d]:=by
 rw [List.take_add_one];simp [List.getD,h]
theorem nu{l:List α}{d:α}{i:Nat}(h:i<l.length):
  (canon l).getD i 0=if l.getD i d∈l.take i then (((av (l.take i)).idxOf (l.getD i d):Nat):Int) else ((av (l.take i)).length:Nat):=by
 have e:(canon l).getD i 0=(((av l).idxOf (l.getD i d):Nat):Int):=by
  simp [canon,List.getD,h]
 rw [e];have hl:l=l.take (i+1)++l.drop (i+1):=(List.take_append_drop _ _).symm;have hm:l.getD i d∈l.take (i+1):=by rw [cU (d:=d) h];simp
 have e2:(av l).idxOf (l.getD i d)=(av (l.take (i+1))).idxOf (l.getD i d):=by
  have:=GK (m:=l.drop (i+1)) hm
  rwa [<-hl]at this
 rw [e2,cU (d:=d) h,bQ];split
 ·rfl
 ·rename_i hn
  rw [List.idxOf_append,ajm (λh=>hn (aL.1 h))];simp
theorem eX{l:List α}{d:α}{i j:Nat}(hi:i<l.length)(hj:j<l.length):(canon l).getD i 0=(canon l).getD j 0↔l.getD i d=l.getD j d:=by
 have e:∀{i},i<l.length->(canon l).getD i 0=(((av l).idxOf (l.getD i d):Nat):Int):=λ{i} h=>by
  simp [canon,List.getD,h]
 rw [e hi,e hj]
 constructor
 ·intro h
  have h:(av l).idxOf (l.getD i d)=(av l).idxOf (l.getD j d):=by exact_mod_cast h
  have m1:l.getD i d∈av l:=aL.2 (al hi);have m2:l.getD j d∈av l:=aL.2 (al hj);have h1:=List.getElem_idxOf (List.idxOf_lt_length_of_mem m1);have h2:=List.getElem_idxOf (List.idxOf_lt_length_of_mem m2);rw [<-h1,<-h2]
  congr 1
 ·intro h;rw [h]
theorem Dm{l:List α}{i:Nat}(hi:i<l.length):0<=(canon l).getD i 0/\(canon l).getD i 0<(av l).length:=by
 have e:(canon l).getD i 0=(((av l).idxOf (l[i]):Nat):Int):=by
  simp [canon,List.getD,hi]
 rw [e];have:=List.idxOf_lt_length_of_mem (aL.2 (List.getElem_mem hi));omega
theorem bp(l:List α):(av l).length<=l.length:=by
 have:∀(l acc:List α),(l.foldl gm acc).length<=acc.length+l.length:=by
  intro l
  induction l with
  |nil=>simp
  |cons a l ih=>
   intro acc;rw [akl];have:=ih (gm acc a);have h2:(gm acc a).length<=acc.length+1:=by unfold gm;split<;>simp
   simp only [ajY];omega
 simpa [av]using this l []
theorem ic{l:List α}{m:List β}{d:α}{e:β}(hl:l.length=m.length)(h:∀i j,i<l.length->j<l.length->(l.getD i d=l.getD j d↔m.getD i e=m.getD j e)):canon l=canon m:=by
 have key:∀i,i<=l.length->(av (l.take i)).length=(av (m.take i)).length/\∀j,j<i->(av (l.take i)).idxOf (l.getD j d)=(av (m.take i)).idxOf (m.getD j e):=by
  intro i
  induction i with
  |zero=>exact λ_=>⟨rfl,λj hj=>absurd hj (aju _)⟩
  |succ i ih=>
   intro hi;obtain⟨h1,h2⟩:=ih aa;have bD:i<l.length:=aa;have LL:i<m.length:=aa
   have mem:l.getD i d∈l.take i↔m.getD i e∈m.take i:=by
    constructor
    ·intro hm
     obtain⟨j,hj,Ll⟩:=aS d hm;rw [ajA]at hj;have mC:j<i:=aa;have e1:(l.take i).getD j d=l.getD j d:=by simp [List.getD,mC]
     rw [e1]at Ll;have:=(h j i aa bD).1 Ll;rw [<-this];have e2:(m.take i).getD j e=m.getD j e:=by simp [List.getD,mC]
     rw [<-e2];exact al (by rw [ajA];omega)
    ·intro hm
     obtain⟨j,hj,Ll⟩:=aS e hm;rw [ajA]at hj;have mC:j<i:=aa;have e1:(m.take i).getD j e=m.getD j e:=by simp [List.getD,mC]
     rw [e1]at Ll;have:=(h j i aa bD).2 Ll;rw [<-this];have e2:(l.take i).getD j d=l.getD j d:=by simp [List.getD,mC]
     rw [<-e2];exact al (by rw [ajA];omega)
   have jl:∀j,j<i->l.getD j d∈l.take i:=λj hj=>by
    have e2:(l.take i).getD j d=l.getD j d:=by simp [List.getD,hj]
    rw [<-e2];exact al (by rw [ajA];omega)
   have jm:∀j,j<i->m.getD j e∈m.take i:=λj hj=>by
    have e2:(m.take i).getD j e=m.getD j e:=by simp [List.getD,hj]
    rw [<-e2];exact al (by rw [ajA];omega)
   have fl:=bQ (l:=l.take i) (x:=l.getD i d);have fm:=bQ (l:=m.take i) (x:=m.getD i e);rw [<-cU bD]at fl;rw [<-cU LL]at fm
   by_cases hm:l.getD i d∈l.take i
   ·rw [ajq hm]at fl
    rw [ajq (mem.1 hm)]at fm;rw [fl,fm];refine⟨h1,λj hj=>?_⟩
    by_cases l4:j<i
    ·exact h2 j l4
    ·have:j=i:=aa
     subst this;obtain⟨j',mC,Ll⟩:=aS d hm;rw [ajA]at mC;have jX:j'<j:=aa;have e1:(l.take j).getD j' d=l.getD j' d:=by simp [List.getD,jX]
     rw [e1]at Ll;rw [<-Ll,<-(h j' j aa bD).1 Ll];exact h2 j' jX
   ·rw [ajm hm]at fl
    rw [ajm (λh=>hm (mem.2 h))]at fm;rw [fl,fm];refine⟨by simp [h1],λj hj=>?_⟩
    by_cases l4:j<i
    ·rw [List.idxOf_append,ajq (aL.2 (jl j l4)),List.idxOf_append,ajq (aL.2 (jm j l4))]
     exact h2 j l4
    ·have:j=i:=aa
     subst this;rw [List.idxOf_append,ajm (λh=>hm (aL.1 h)),List.idxOf_append,ajm (λh=>hm (mem.2 (aL.1 h)))];simp [h1]
 have:=key l.length (ajl _);rw [List.take_length,hl,List.take_length]at this;apply List.ext_getElem
 ·simp [canon,hl]
 ·intro i h1 h2
  simp only [canon,ajS]at h1 h2;have:=this.2 i h2;simp only [List.getD,ajP h1,ajP h2,Option.getD_some]at this;simp [canon,this]
end
theorem fy(l:List Int):canon (canon l)=canon l:=
 ic (d:=0) (e:=0) (bI l) λi j hi hj=>by
  rw [bI]at hi hj;exact eX hi hj
def bz(p:List Int):Prop:=p.length<=4096/\canon p=p
instance(p:List Int):Decidable (bz p):=by unfold bz;infer_instance
theorem jd{n:Nat}{p:List Int}(h:av p=(List.range n).map (λ(c:Nat)=>(c:Int))):∀x:Int,(0<=x/\x<n)↔x∈p:=λx=>by
 rw [<-aL,h,ajU]
 constructor
 ·rintro⟨h1,h2⟩
  exact⟨x.toNat,by rw [ajJ];omega,aa⟩
 ·rintro⟨c,h1,rfl⟩
  rw [ajJ]at h1;omega
theorem KG{n:Nat}{x:Int}(h:0<=x/\x<n):(((List.range n).map (λ(c:Nat)=>(c:Int))).idxOf x:Nat)=x.toNat:=by
 have hn:((List.range n).map (λ(c:Nat)=>(c:Int))).Nodup:=by
  rw [List.Nodup,List.pairwise_map];exact List.nodup_range.imp λh e=>h (by exact_mod_cast e)
 have aX:x.toNat<((List.range n).map (λ(c:Nat)=>(c:Int))).length:=by simp;omega
 have:=hn.idxOf_getElem x.toNat aX;rw [<-this]
 congr 1
 simp;omega
def dy(p:List Int)(i:Nat):Prop:=0<=p.getD i 0/\p.getD i 0<=(av (p.take i)).length
theorem fQ{p:List Int}:∀{i:Nat},i<=p.length->(∀j,j<i->dy p j)->av (p.take i)=(List.range (av (p.take i)).length).map (λ(c:Nat)=>(c:Int))
 |0,_,_=>by simp [av]
 |i+1,hi,h=>by
  have ih:=fQ (p:=p) (i:=i) aa λj hj=>h j aa;have hs:=h i aa;have bD:i<p.length:=aa;have fl:=bQ (l:=p.take i) (x:=p.getD i 0);rw [<-cU bD]at fl;have hr:=jd ih (p.getD i 0);rw [fl];split
  ·exact ih
  ·rename_i hm
   have:p.getD i 0=(av (p.take i)).length:=by
    unfold dy at hs;rcases Int.lt_or_eq_of_le hs.2 with h1|h1
    ·exact absurd (hr.1 ⟨hs.1,h1⟩) hm
    ·exact h1
   rw [ajp,ajx,List.range_succ,List.map_append,<-ih,this];simp
theorem fE{p:List Int}:canon p=p↔∀i,i<p.length->dy p i:=by
 constructor
 ·intro h i hi
  have:=nu (d:=0) hi;rw [h]at this;unfold dy;rw [this];split
  ·rename_i hm
   have:=List.idxOf_lt_length_of_mem (aL.2 hm);omega
  ·omega
 ·intro h
  have hf:=fQ (ajl _) h;rw [List.take_length]at hf;apply List.ext_getElem
  ·exact bI p
  ·intro i h1 h2
   have hm:p[i]∈p:=List.getElem_mem h2;have hr:=(jd hf p[i]).2 hm;have e:(av p).idxOf p[i]=p[i].toNat:=by rw [hf];exact KG hr
   simp only [canon,List.getElem_map,e];omega
def ao(p:List Int):Nat:=(av p).length
theorem kn{p:List Int}(h:canon p=p)(x:Int):(0<=x/\x<ao p)↔x∈p:=by
 have hf:=fQ (ajl _) (fE.1 h);rw [List.take_length]at hf;exact jd hf x
def bm(n:Nat)(p:List Int):List (List Int):=(List.range n).map λ(c:Nat)=>(((List.range p.length).filter λi=>p.getD i 0=(c:Int)).map λ(i:Nat)=>(i:Int))
theorem wy(n:Nat)(p:List Int):(bm n p).length=n:=by simp [bm]
theorem lO{n:Nat}{p:List Int}{c:Nat}(h:c<n):(bm n p).getD c []=((List.range p.length).filter λi=>p.getD i 0=(c:Int)).map λ(i:Nat)=>(i:Int):=by
 unfold bm;rw [List.getD,ajR,List.getElem?_range h]
 rfl
theorem ie{n:Nat}{p:List Int}{c:Nat}(h:c<n){x:Int}:x∈(bm n p).getD c []↔0<=x/\x<p.length/\p.getD x.toNat 0=c:=by
 rw [lO h,ajU]
 constructor
 ·rintro⟨i,h1,rfl⟩
  rw [akq,ajJ]at h1;simp only [decide_eq_true_eq]at h1;exact⟨aa,aa,by simpa using h1.2⟩
 ·rintro⟨h1,h2,h3⟩
  refine⟨x.toNat,?_,aa⟩;rw [akq,ajJ];simp only [decide_eq_true_eq];exact⟨aa,h3⟩
section
variable{α:Type}[DecidableEq α]
def mapOf(key:α->List Int)(n:Nat)(fs:List α):List (List Int × Int):=(fs.zipIdx n).map λe=>(key e.1,((e.2:Nat):Int))
omit [DecidableEq α] in
theorem qY{key:α->List Int}{n:Nat}{fs:List α}:(mapOf key n fs).length=fs.length:=by simp [mapOf]
omit [DecidableEq α] in
theorem FU{key:α->List Int}{fs:List α}{x:α}:mapOf key 0 (fs++[x])=mapOf key 0 fs++[(key x,(fs.length:Int))]:=by
 simp [mapOf,List.zipIdx_append]
theorem pB{key:α->List Int}(hk:∀a b,key a=key b->a=b){x:α}:∀{fs:List α} {n:Nat},getM (mapOf key n fs) (key x)=if x∈fs then some (((n+fs.idxOf x:Nat)):Int) else none
 |[],n=>rfl
 |a::fs,n=>by
  show(if key a=key x then some (n:Int) else getM (mapOf key (n+1) fs) (key x))=_
  by_cases h:a=x
  ·subst h;simp
  ·have h1:key a≠key x:=λe=>h (hk _ _ e)
   have h2:(x∈a::fs)↔x∈fs:=by simp [Ne.symm h]
   rw [ajm h1,pB hk]
   by_cases hm:x∈fs
   ·rw [ajq hm,ajq (h2.2 hm),List.idxOf_cons]
    have:(a==x)=false:=by simpa using h
    rw [this];simp only [cond_false];congr 2;omega
   ·rw [ajm hm,ajm (λh=>hm (h2.1 h))]
theorem qX:∀{m:List (List Int × Int)} {k:List Int} {v:Int},getM m k=none->lA m k v=m++[(k,v)]
 |[],_,_,_=>rfl
 |p::m,k,v,h=>by
  simp only [getM]at h;split at h
  ·cases h
  ·rename_i bn
   simp [lA,bn,qX h]
end
end Go.Proofs.YtgailjhnfghkgaaGreatDoor
end
section
namespace Go.Proofs.YtgailjhnfghkgaaGreatDoor
open Classical
theorem EJ{α:Type}{l:List α}{i:Nat}{d:α}(h:i<l.length):l.getD i d∈l:=by
 simp [List.getD,h]
def en(t:List (List Int))(x y:Nat):Nat:=((t.getD x []).getD y 0).toNat
def Iq(n:Nat)(r:List Int):Prop:=r.length=n/\∀x∈r,0<=x/\x<n
structure Sh(t:List (List Int)):Prop where
 pos:0<t.length
 most:t.length<=400
 row:∀r∈t,Iq t.length r
noncomputable def eo(t:List (List Int)):Int:=if t.length>400 then 3 else if t.length=0 then 4 else if ∀r∈t,Iq t.length r then 0 else 4
theorem pL{t:List (List Int)}:eo t=0↔Sh t:=by
 unfold eo;split
 ·exact⟨λh=>by omega,λh=>absurd h.most aa⟩
 ·split
  ·exact⟨λh=>by omega,λh=>absurd h.pos aa⟩
  ·split
   ·rename_i h1 h2 h3;exact⟨λ_=>⟨aa,aa,h3⟩,λ_=>rfl⟩
   ·rename_i h3;exact⟨λh=>by omega,λh=>absurd h.row h3⟩
theorem Sh.len{t:List (List Int)}(h:Sh t){x:Nat}(hx:x<t.length):(t.getD x []).length=t.length:=by
 refine(h.row _ ?_).1;simp [List.getD,hx]
theorem Sh.bF{t:List (List Int)}(h:Sh t){x y:Nat}(hx:x<t.length)(hy:y<t.length):(t.getD x []).getD y 0=(en t x y:Int)/\en t x y<t.length:=by
 have hm:t.getD x []∈t:=by simp [List.getD,hx]
 obtain⟨hl,b5⟩:=h.row _ hm;have EV:y<(t.getD x []).length:=by rw [hl];exact hy
 have fg:(t.getD x []).getD y 0∈t.getD x []:=EJ EV;have:=b5 _ fg;unfold en;omega
def Lt(t:List (List Int))(g:Nat):Prop:=∀x y,x<t.length->y<t.length->en t (en t x g) y=en t x (en t g y)
def IJ(t:List (List Int)):Prop:=∀g,g<t.length->Lt t g
theorem kP{t:List (List Int)}(h:IJ t){x y z:Nat}(hx:x<t.length)(hy:y<t.length)(hz:z<t.length):en t (en t x y) z=en t x (en t y z):=h y hy x z hx hz
noncomputable def jM(t:List (List Int))(gens:List Int):Bool:=decide (∀g∈gens,Lt t g.toNat)
theorem D7{t:List (List Int)}{gens:List Int}:jM t gens=true↔∀g∈gens,Lt t g.toNat:=by unfold jM;exact decide_eq_true_iff
theorem BA{t:List (List Int)}{gens:List Int}:jM t gens=false↔¬∀g∈gens,Lt t g.toNat:=by unfold jM;exact decide_eq_false_iff_not
inductive Mk (t:List (List Int)) (gens:List Int):Nat->Prop
 |gen {g:Int} (h:g∈gens):Mk t gens g.toNat
 |mul {a b:Nat} (ha:Mk t gens a) (hb:Mk t gens b):Mk t gens (en t a b)
theorem Mk.mono{t:List (List Int)}{g h:List Int}(hs:∀x∈g,x∈h){a:Nat}(m:Mk t g a):Mk t h a:=by
 induction m with
 |gen hm=>exact .gen (hs _ hm)
 |mul _ _ ih1 ih2=>exact .mul ih1 ih2
structure qf(t:List (List Int))(gens:List Int):Prop where
 el:∀g∈gens,0<=g/\g<t.length
 all:∀x,x<t.length->Mk t gens x
theorem Mk.lt{t:List (List Int)}{gens:List Int}(h:Sh t)(hg:∀g∈gens,0<=g/\g<t.length){a:Nat}(m:Mk t gens a):a<t.length:=by
 induction m with
 |gen hm=>have:=hg _ hm;omega
 |mul _ _ h1 h2=>exact(h.bF h1 h2).2
theorem Mk.YH{t:List (List Int)}{gens:List Int}(h:Sh t)(hg:∀g∈gens,0<=g/\g<t.length)(hl:∀g∈gens,Lt t g.toNat){a:Nat}(m:Mk t gens a):Lt t a:=by
 induction m with
 |gen hm=>exact hl _ hm
 |mul h1 h2 ih1 ih2=>
  rename_i a b;intro x y hx hy;have ha:=h1.lt h hg;have hb:=h2.lt h hg;rw [<-ih1 x b hx hb,ih2 (en t x a) y (h.bF hx ha).2 hy,ih1 x (en t b y) hx (h.bF hb hy).2,<-ih2 a y ha hy]
theorem D9{t:List (List Int)}{gens:List Int}(h:Sh t)(hs:qf t gens):jM t gens=true↔IJ t:=by
 unfold jM;rw [decide_eq_true_iff]
 constructor
 ·intro hl g hg;exact(hs.all g hg).YH h hs.el hl
 ·intro ha g hg;exact ha _ (by have:=hs.el g hg;omega)
noncomputable def jC(t:List (List Int)):Int:=if eo t≠0 then eo t else if IJ t then 0 else 5
structure Semi(t:List (List Int)):Prop extends Sh t where
 assoc:IJ t
theorem fx{t:List (List Int)}:jC t=0↔Semi t:=by
 unfold jC;split
 ·rename_i h;exact⟨λh'=>absurd h' h,λh'=>absurd (pL.2 h'.toSh) h⟩
 ·rename_i h
  have h:eo t=0:=ajy h;split
  ·rename_i ha;exact⟨λ_=>⟨pL.1 h,ha⟩,λ_=>rfl⟩
  ·rename_i ha;exact⟨λh'=>by omega,λh'=>absurd h'.assoc ha⟩
end Go.Proofs.YtgailjhnfghkgaaGreatDoor
end
section
namespace Go.Proofs.YtgailjhnfghkgaaGreatDoor
open Go Go.AM
def abK(t:List (List Int))(y x:Nat):Bool:=decide (x=y)||(t.getD y []).contains (x:Int)
def abL(t:List (List Int))(y x:Nat):Bool:=decide (x=y)||t.any λrow=>row.getD y 0==(x:Int)
def abM(t:List (List Int))(y x:Nat):Bool:=(List.range t.length).any λz=>abL t y z&&abK t z x
def rep(e:Nat->Nat->Bool)(x:Nat):Nat:=((List.range x).find? λy=>e x y&&e y x).getD x
def EK(n:Nat)(e:Nat->Nat->Bool):List Int:=(List.range n).map λx=>((rep e x:Nat):Int)
theorem VW{e:Nat->Nat->Bool}{x y:Nat}(hy:y<x)(h:(e x y&&e y x)=true)(hn:∀z,z<y->(e x z&&e z x)=false):rep e x=y:=by
 unfold rep
 have:(List.range x).find? (λy=>e x y&&e y x)=some y:=by
  rw [List.find?_range_eq_some];exact⟨h,by rw [ajJ];exact hy,λz hz=>by show(!_)=true;rw [hn z hz];rfl⟩
 rw [this];rfl
theorem OX{e:Nat->Nat->Bool}{x:Nat}(h:∀y,y<x->(e x y&&e y x)=false):rep e x=x:=by
 unfold rep
 have:(List.range x).find? (λy=>e x y&&e y x)=none:=by
  rw [List.find?_range_eq_none];exact λy hy=>by show(!_)=true;rw [h y hy];rfl
 rw [this];rfl
theorem zK(e:Nat->Nat->Bool)(x:Nat):(rep e x=x/\∀y,y<x->(e x y&&e y x)=false)\/(rep e x<x/\(e x (rep e x)&&e (rep e x) x)=true/\∀y,y<rep e x->(e x y&&e y x)=false):=by
 by_cases h:∀y,y<x->(e x y&&e y x)=false
 ·exact .inl ⟨OX h,h⟩
 ·have:∃y,y<x/\(e x y&&e y x)=true:=by
   apply ajy;intro hn
   exact h λy hy=>by
    cases hb:(e x y&&e y x)with
    |false=>rfl
    |true=>exact absurd ⟨y,hy,hb⟩ hn
  have least:∀n,(∃y,y<n/\y<x/\(e x y&&e y x)=true)->∃y,y<x/\(e x y&&e y x)=true/\∀z,z<y->(e x z&&e z x)=false:=by
   intro n
   induction n with
   |zero=>rintro⟨y,hy,_⟩;exact absurd hy (aju _)
   |succ n ih=>
    rintro⟨y,hy,Zu,hb⟩
    by_cases hl:∃z,z<n/\z<x/\(e x z&&e z x)=true
    ·exact ih hl
    ·refine⟨y,Zu,hb,λz hz=>?_⟩
     cases vI:(e x z&&e z x)with
     |false=>rfl
     |true=>exact absurd ⟨z,aa,aa,vI⟩ hl
  obtain⟨y,hy,hb⟩:=this;obtain⟨y,h1,h2,h3⟩:=least (y+1) ⟨y,Nat.lt_succ_self _,hy,hb⟩;have:=VW h1 h2 h3;exact .inr (by rw [this];exact⟨h1,h2,h3⟩)
theorem sY(n:Nat)(e:Nat->Nat->Bool):(EK n e).length=n:=by simp [EK]
theorem zL{n:Nat}{e:Nat->Nat->Bool}{x:Nat}(hx:x<n):(EK n e).getD x 0=((rep e x:Nat):Int):=by
 simp only [EK,List.getD,ajR,List.getElem?_range hx,Option.map_some,Option.getD_some]
structure TU(n:Nat)(e:Nat->Nat->Bool):Prop where
 refl:∀x,x<n->e x x=true
 trans:∀x y z,x<n->y<n->z<n->e x y=true->e y z=true->e x z=true
theorem Sw{n:Nat}{e:Nat->Nat->Bool}(h:TU n e){x y:Nat}(hx:x<n)(hy:y<n):rep e x=rep e y↔(e x y=true/\e y x=true):=by
 have muty:∀x,x<n->rep e x<n/\e x (rep e x)=true/\e (rep e x) x=true:=λx hx=>by
  rcases zK e x with ⟨h1,_⟩|⟨h1,h2,_⟩
  ·rw [h1];exact⟨hx,h.refl x hx,h.refl x hx⟩
  ·rw [ajB]at h2;exact⟨aa,h2.1,h2.2⟩
 have least:∀x z,x<n->z<n->e x z=true->e z x=true->rep e x<=z:=λx z hx hz h1 h2=>by
  rcases zK e x with ⟨g1,g2⟩|⟨g1,_,g2⟩
  ·rw [g1]
   apply Nat.le_of_not_lt;intro aX;have:=g2 z aX;rw [h1,h2]at this;cases this
  ·apply Nat.le_of_not_lt
   intro aX;have:=g2 z aX;rw [h1,h2]at this;cases this
 obtain⟨a1,a2,a3⟩:=muty x hx;obtain⟨b1,b2,b3⟩:=muty y hy
 constructor
 ·intro he
  exact⟨h.trans x (rep e x) y hx a1 hy a2 (he▸b3),h.trans y (rep e x) x hy a1 hx (he▸b2) a3⟩
 ·rintro⟨h1,h2⟩
  apply Nat.le_antisymm
  ·exact least x (rep e y) hx b1 (h.trans x y _ hx hy b1 h1 b2) (h.trans _ y x b1 hy hx b3 h2)
  ·exact least y (rep e x) hy a1 (h.trans y x _ hy hx a1 h2 a2) (h.trans _ x y a1 hx hy a3 h1)
def tR(n:Nat)(e:Nat->Nat->Bool):List Int:=canon (EK n e)
theorem p6(n:Nat)(e:Nat->Nat->Bool):(tR n e).length=n:=by rw [tR,bI,sY]
theorem p7{n:Nat}{e:Nat->Nat->Bool}(h:TU n e){x y:Nat}(hx:x<n)(hy:y<n):(tR n e).getD x 0=(tR n e).getD y 0↔(e x y=true/\e y x=true):=by
 rw [tR,eX (d:=0) (by rw [sY];exact hx) (by rw [sY];exact hy),zL hx,zL hy,<-Sw h hx hy];exact Int.ofNat_inj
def Ml(t:List (List Int)):List Int:=tR t.length (abM t)
def aaa(t:List (List Int)):Nat:=ao (Ml t)
end Go.Proofs.YtgailjhnfghkgaaGreatDoor
end
section
namespace Go.Proofs.YtgailjhnfghkgaaGreatDoor
inductive Eg (R:Nat->Nat->Prop):Nat->Nat->Prop
 |rel {a b:Nat} (h:R a b):Eg R a b
 |refl (a:Nat):Eg R a a
 |symm {a b:Nat} (h:Eg R a b):Eg R b a
 |trans {a b c:Nat} (h:Eg R a b) (h':Eg R b c):Eg R a c
theorem Eg.least{R Q:Nat->Nat->Prop}(hr:∀a,Q a a)(hs:∀a b,Q a b->Q b a)(ht:∀a b c,Q a b->Q b c->Q a c)(h:∀a b,R a b->Q a b){a b:Nat}(e:Eg R a b):Q a b:=by
 induction e with
 |rel h1=>exact h _ _ h1
 |refl a=>exact hr a
 |symm _ ih=>exact hs _ _ ih
 |trans _ _ i1 i2=>exact ht _ _ _ i1 i2
theorem Eg.mono{R R':Nat->Nat->Prop}(h:∀a b,R a b->Eg R' a b){a b:Nat}(e:Eg R a b):Eg R' a b:=
 e.least .refl (λ_ _=>.symm) (λ_ _ _=>.trans) h
def Wr(R:Nat->Nat->Prop)(i j:Nat):Nat->Nat->Prop:=λa b=>R a b\/(a=i/\b=j)
theorem Yf{R:Nat->Nat->Prop}{i j a b:Nat}:Eg (Wr R i j) a b↔Eg R a b\/(Eg R a i/\Eg R j b)\/(Eg R a j/\Eg R i b):=by
 constructor
 ·intro e
  refine e.least (Q:=λa b=>Eg R a b\/(Eg R a i/\Eg R j b)\/(Eg R a j/\Eg R i b)) (λa=>.inl (.refl a)) ?_ ?_ ?_
  ·rintro a b (h|⟨h1,h2⟩|⟨h1,h2⟩)
   ·exact .inl h.symm
   ·exact .inr (.inr ⟨h2.symm,h1.symm⟩)
   ·exact .inr (.inl ⟨h2.symm,h1.symm⟩)
  ·rintro a b c (h|⟨h1,h2⟩|⟨h1,h2⟩) (h'|⟨h3,h4⟩|⟨h3,h4⟩)
   ·exact .inl (h.trans h')
   ·exact .inr (.inl ⟨h.trans h3,h4⟩)
   ·exact .inr (.inr ⟨h.trans h3,h4⟩)
   ·exact .inr (.inl ⟨h1,h2.trans h'⟩)
   ·exact .inr (.inl ⟨h1,h4⟩)
   ·exact .inl (h1.trans h4)
   ·exact .inr (.inr ⟨h1,h2.trans h'⟩)
   ·exact .inl (h1.trans h4)
   ·exact .inr (.inr ⟨h1,h4⟩)
  ·rintro a b (h|⟨rfl,rfl⟩)
   ·exact .inl (.rel h)
   ·exact .inr (.inl ⟨.refl _,.refl _⟩)
 ·have up:∀{a b},Eg R a b->Eg (Wr R i j) a b:=λe=>e.mono λa b h=>.rel (.inl h)
  have ij:Eg (Wr R i j) i j:=.rel (.inr ⟨rfl,rfl⟩);rintro (h|⟨h1,h2⟩|⟨h1,h2⟩)
  ·exact up h
  ·exact(up h1).trans (ij.trans (up h2))
  ·exact(up h1).trans (ij.symm.trans (up h2))
def Td(n:Nat)(p:List Int)(R:Nat->Nat->Prop):Prop:=p.length=n/\∀a b,a<n->b<n->(p.getD a 0=p.getD b 0↔Eg R a b)
def cR(n:Nat):List Int:=(List.range n).map λi:Nat=>(i:Int)
theorem bP(n:Nat):(cR n).length=n:=by simp [cR]
theorem dM{n i:Nat}(h:i<n):(cR n).getD i 0=(i:Int):=by simp [cR,List.getD,h]
theorem c8{n:Nat}{x:Int}:x∈cR n↔0<=x/\x<(n:Int):=by
 unfold cR;rw [ajU]
 constructor
 ·rintro⟨i,hi,rfl⟩;have:=ajJ.1 hi;omega
 ·intro h;exact⟨x.toNat,ajJ.2 aa,aa⟩
theorem yz{n:Nat}{p q:List Int}(hp:p.length=n)(hq:q.length=n)(h:∀a b,a<n->b<n->(p.getD a 0=p.getD b 0↔q.getD a 0=q.getD b 0)):canon p=canon q:=
 ic (d:=0) (e:=0) (by rw [hp,hq]) λi j hi hj=>h i j aa aa
theorem E7{n:Nat}{e:Nat->Nat->Bool}(hr:∀x,x<n->e x x=true)(ht:∀x y z,x<n->y<n->z<n->e x y=true->e y z=true->e x z=true):TU n e:=⟨hr,ht⟩
theorem Dl{n:Nat}{p:List Int}{e:Nat->Nat->Bool}(he:TU n e)(hp:p.length=n)(h:∀a b,a<n->b<n->(p.getD a 0=p.getD b 0↔(e a b=true/\e b a=true))):canon p=tR n e:=by
 rw [<-fy p];have h1:canon (tR n e)=tR n e:=fy _;rw [<-h1,fy p];exact yz hp (p6 n e) λa b ha hb=>by rw [h a b ha hb,p7 he ha hb]
end Go.Proofs.YtgailjhnfghkgaaGreatDoor
end
section
namespace Go.Proofs.YtgailjhnfghkgaaGreatDoor
open Go Go.AM
structure yr{α:Type}(c:α->α->Int):Prop where
 swap:∀a b,c b a= - c a b
 eq:∀a b,c a b=0->a=b
 trans:∀a b d,c a b<0->c b d<0->c a d<0
theorem yr.self{α:Type}{c:α->α->Int}(h:yr c)(a:α):c a a=0:=by have:=h.swap a a;omega
def xC(a b:Int):Int:=if a<b then -1 else if b<a then 1 else 0
theorem nQ:yr xC where
 swap a b:=by unfold xC;split<;>split<;>(try split)<;>omega
 eq a b:=by unfold xC;split<;>(try split)<;>omega
 trans a b d:=by unfold xC;intro h1 h2;split at h1<;>(try split at h1)<;>split at h2<;>(try split at h2)<;>first|omega|(rw [ajq aa];omega)
def jT:List Int->List Int->Int
 |[],[]=>0|[],_::_=> -1|_::_,[]=>1|a::l,b::m=>if xC a b≠0 then xC a b else jT l m
theorem zM:∀a b:List Int,jT b a= - jT a b
 |[],[]=>rfl
 |[],_::_=>rfl
 |_::_,[]=>rfl
 |a::l,b::m=>by
  have e:=nQ.swap a b;have ih:=zM l m;simp only [jT]
  by_cases h:xC a b=0
  ·rw [ajm aa,ajm aa,ih]
  ·rw [ajq aa,ajq h,e]
theorem IK:∀a b:List Int,jT a b=0->a=b
 |[],[],_=>rfl
 |[],_::_,h=>by simp [jT]at h
 |_::_,[],h=>by simp [jT]at h
 |a::l,b::m,h=>by
  simp only [jT]at h
  by_cases h0:xC a b=0
  ·rw [ajm aa]at h
   rw [nQ.eq a b h0,IK l m h]
  ·rw [ajq h0]at h;exact absurd h h0
theorem xD:∀a b d:List Int,jT a b<0->jT b d<0->jT a d<0
 |[],[],_,h,_=>by simp [jT]at h
 |[],_::_,[],_,h=>by simp [jT]at h
 |[],_::_,_::_,_,_=>by simp [jT]
 |_::_,[],_,h,_=>by simp [jT]at h
 |_::_,_::_,[],_,h=>by simp [jT]at h
 |a::l,b::m,d::n,h1,h2=>by
  simp only [jT]at h1 h2 ⊢;have ih:=xD l m n
  by_cases e1:xC a b=0
  ·rw [ajm aa]at h1
   obtain rfl:=nQ.eq a b e1
   by_cases e2:xC a d=0
   ·rw [ajm aa]at h2 ⊢;exact ih h1 h2
   ·rw [ajq e2]at h2 ⊢;exact h2
  ·rw [ajq e1]at h1
   by_cases e2:xC b d=0
   ·obtain rfl:=nQ.eq b d e2
    rw [ajq e1];exact h1
   ·rw [ajq e2]at h2
    have:=nQ.trans a b d h1 h2;rw [ajq aa];exact this
theorem Cr:yr jT:=⟨zM,IK,xD⟩
def SH{α:Type}(c:α->α->Int)(l:List α):Prop:=l.Pairwise λa b=>c a b<0
def Cj{α:Type}(c:α->α->Int)(l:List α):List α:=l.mergeSort λa b=>decide (c a b<=0)
section
variable{α:Type}{c:α->α->Int}
theorem SH.nodup(h:yr c){l:List α}(hs:SH c l):l.Nodup:=hs.imp λ{a b} mP e=>by subst e;have:=h.self a;omega
theorem le_trans' (h:yr c){a b d:α}(h1:c a b<=0)(h2:c b d<=0):c a d<=0:=by
 by_cases e1:c a b=0
 ·obtain rfl:=h.eq _ _ e1;exact h2
 ·by_cases e2:c b d=0
  ·obtain rfl:=h.eq _ _ e2;exact h1
  ·have:=h.trans a b d aa aa;omega
theorem xE(l:List α):(Cj c l).Perm l:=List.mergeSort_perm _ _
theorem PX{l:List α}{x:α}:x∈Cj c l↔x∈l:=(xE l).mem_iff
theorem PY(l:List α):(Cj c l).length=l.length:=(xE l).length_eq
theorem VX(h:yr c)(l:List α):(Cj c l).Pairwise λa b=>c a b<=0:=by
 have:=List.pairwise_mergeSort (le:=λa b=>decide (c a b<=0)) (λa b d h1 h2=>aj3 (le_trans' h (ajX h1) (ajX h2)))
  (λa b=>by
   have:=h.swap a b
   by_cases h0:c a b<=0
   ·simp [h0]
   ·have:c b a<=0:=aa
    simp [this]) l
 exact this.imp λ{a b} mP=>ajX mP
theorem PW(h:yr c){l:List α}(hn:l.Nodup):SH c (Cj c l):=by
 have h1:=VX h l;have h2:(Cj c l).Nodup:=(xE l).nodup_iff.2 hn;have:=h1.and h2;refine this.imp λ{a b} mP=>?_;have:c a b≠0:=λe=>mP.2 (h.eq _ _ e);omega
theorem tP(h:yr c):∀{l m:List α},l.Pairwise (λa b=>c a b<=0)->m.Pairwise (λa b=>c a b<=0)->l.Perm m->l=m
 |[],m,_,_,hp=>by rw [List.nil_perm.1 hp]
 |a::l,[],_,_,hp=>by have:=hp.length_eq;simp at this
 |a::l,b::m,h1,h2,hp=>by
  have O9:=akc.1 h1;have Hi:=akc.1 h2
  have e:a=b:=by
   have ha:a∈b::m:=hp.mem_iff.1 (by simp);have hb:b∈a::l:=hp.mem_iff.2 (by simp);rcases ajo.1 ha with e|ha
   ·exact e
   ·rcases ajo.1 hb with e|hb
    ·exact e.symm
    ·have g1:=Hi.1 a ha
     have g2:=O9.1 b hb;have:=h.swap a b;exact h.eq _ _ aa
  subst e;rw [tP h O9.2 Hi.2 hp.cons_inv]
theorem Cq(h:yr c){l m:List α}(hl:SH c l)(hm:SH c m)(he:∀x,x∈l↔x∈m):l=m:=
 tP h (hl.imp λh=>by omega) (hm.imp λh=>by omega) ((List.perm_ext_iff_of_nodup (hl.nodup h) (hm.nodup h)).2 he)
end
end Go.Proofs.YtgailjhnfghkgaaGreatDoor
end
