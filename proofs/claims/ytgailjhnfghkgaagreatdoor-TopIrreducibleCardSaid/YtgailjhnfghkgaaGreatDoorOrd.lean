import Derived.Test.YtgailjhnfghkgaaGreatDoorAmTy
import Derived.Test.YtgailjhnfghkgaaGreatDoorProg
import Derived.Test.YtgailjhnfghkgaaGreatDoorAmRet
section
namespace Go.Proofs.YtgailjhnfghkgaaGreatDoor
open Go Go.AM
set_option maxRecDepth 100000
theorem KF:aO Tryz.prog TY:=Qk (by decide+kernel) (by decide+kernel) (by decide+kernel)
theorem mixed:Tryz.prog.follows .mixedOrders=true:=by decide+kernel
abbrev SP:Go.AM.Spec:=MP Tryz.prog
abbrev QF(f:FuncId)(args:List AV)(ret:AV):Prop:=Go.AM.Fn Tryz.prog f args ret
abbrev EF(f:FuncId)(args:List AV){X:Type}(out:X->AV)(ok:X->Prop):Prop:=Go.AM.XB Tryz.prog f args X out ok
abbrev MF(f:FuncId)(args:List AV)(S1:ai)(ret:AV)(S2:ai):Prop:=Go.AM.XC Tryz.prog f args S1 ret S2
abbrev NF(f:FuncId)(args:List AV)(S1:ai){X:Type}(ret:X->AV)(S2:X->ai)(ok:X->Prop):Prop:=Go.AM.XD Tryz.prog f args S1 X ret S2 ok
theorem kr{f:FuncId}{fn:Func}{args:List AV}{ret:AV}(hf:Tryz.prog.funcs[f]? =some fn)(hn:fn.name≠ "runtime.NumGoroutine")(hb:fn.body.isSome=true)(hl:args.length<=fn.ntmps)
  (h:kB args->SS TY SP fn args ret):QF f args ret:=Lb KF (nU _) mixed hf hn hb hl h
theorem HG{f:FuncId}{fn:Func}{args:List AV}{X:Type}{out:X->AV}{ok:X->Prop}(hf:Tryz.prog.funcs[f]? =some fn)(hn:fn.name≠ "runtime.NumGoroutine")(hb:fn.body.isSome=true)(hl:args.length<=fn.ntmps)
  (h:kB args->KW TY SP fn args out ok):EF f args out ok:=Is KF (nU _) mixed hf hn hb hl h
theorem tf{f:FuncId}{fn:Func}{args:List AV}{S1 S2:ai}{ret:AV}(hf:Tryz.prog.funcs[f]? =some fn)(hn:fn.name≠ "runtime.NumGoroutine")(hb:fn.body.isSome=true)(hl:args.length<=fn.ntmps)
  (h:kB args->Iu TY SP fn args S1 ret S2):MF f args S1 ret S2:=It KF (nU _) mixed hf hn hb hl h
theorem Vk{f:FuncId}{fn:Func}{args:List AV}{S1:ai}{X:Type}{ret:X->AV}{S2:X->ai}{ok:X->Prop}(hf:Tryz.prog.funcs[f]? =some fn)(hn:fn.name≠ "runtime.NumGoroutine")(hb:fn.body.isSome=true)(hl:args.length<=fn.ntmps)
  (h:kB args->Pe TY SP fn args S1 X ret S2 ok):NF f args S1 ret S2 ok:=Iv KF (nU _) mixed hf hn hb hl h
theorem an{α:Type}{l:List α}{i:Nat}{d:α}(h:i<l.length):l.getD i d∈l:=by
 simp [List.getD,h]
theorem getD_eq{α:Type}{l:List α}{i:Nat}{d:α}(h:i<l.length):l.getD i d=l[i]:=by
 simp [List.getD,h]
theorem getD_set_ne{α:Type}{l:List α}{i j:Nat}{a d:α}(h:i≠j):(l.set i a).getD j d=l.getD j d:=by
 simp [List.getD,List.getElem?_set_ne h]
theorem aA{α:Type}{l:List α}{i:Nat}{a d:α}(h:i<l.length):(l.set i a).getD i d=a:=by
 simp [List.getD,h]
theorem aV{α:Type}{l:List α}{x:α}(d:α)(h:x∈l):∃i,i<l.length/\l.getD i d=x:=by
 obtain⟨i,hi,e⟩:=List.mem_iff_getElem.1 h;exact⟨i,hi,by rw [getD_eq hi,e]⟩
theorem lp{X:Type}(U:X->List (Nat × AV))(V:X->ai)(ok:X->Prop)(μ:X->Nat)(x0:X){E:(Y:Type)->(Y->List (Nat × AV))->(Y->ai)->(Y->Prop)->(Y->Nat)->Y->Prop}{B:(Y:Type)->(Y->List (Nat × AV))->(Y->ai)->(Y->Prop)->(Y->Nat)->Y->Prop}
  (h0:ok x0) (h1:E X U V ok μ x0) (h2:∀x,ok x->B X U V ok μ x):
  ∃(X:Type) (U:X->List (Nat × AV)) (V:X->ai) (ok:X->Prop) (μ:X->Nat) (x0:X),(ok x0/\E X U V ok μ x0)/\∀x,ok x->B X U V ok μ x:=
 ⟨X,U,V,ok,μ,x0,⟨h0,h1⟩,h2⟩
abbrev xP{A B:Type}{γ:Sort _}(f:A->B->γ)(p:A × B):γ:=match p with|(a,b)=>f a b
abbrev JU{A B C:Type}{γ:Sort _}(f:A->B->C->γ)(p:A × B × C):γ:=match p with|(a,b,c)=>f a b c
abbrev Ba{A B C D:Type}{γ:Sort _}(f:A->B->C->D->γ)(p:A × B × C × D):γ:=match p with|(a,b,c,d)=>f a b c d
theorem lA{A B:Type}(U:A->B->List (Nat × AV))(V:A->B->ai)(ok:A->B->Prop)(μ:A->B->Nat)(a0:A)(b0:B){E Bd:(Y:Type)->(Y->List (Nat × AV))->(Y->ai)->(Y->Prop)->(Y->Nat)->Y->Prop}
  (h0:ok a0 b0) (h1:E (A × B) (xP U) (xP V) (xP ok) (xP μ) (a0,b0)) (h2:∀a b,ok a b->Bd (A × B) (xP U) (xP V) (xP ok) (xP μ) (a,b)):
  ∃(X:Type) (U:X->List (Nat × AV)) (V:X->ai) (ok:X->Prop) (μ:X->Nat) (x0:X),(ok x0/\E X U V ok μ x0)/\∀x,ok x->Bd X U V ok μ x:=
 ⟨A × B,xP U,xP V,xP ok,xP μ,(a0,b0),⟨h0,h1⟩,λ(a,b) h=>h2 a b h⟩
theorem A9{A B C:Type}(U:A->B->C->List (Nat × AV))(V:A->B->C->ai)(ok:A->B->C->Prop)(μ:A->B->C->Nat)(a0:A)(b0:B)(c0:C){E Bd:(Y:Type)->(Y->List (Nat × AV))->(Y->ai)->(Y->Prop)->(Y->Nat)->Y->Prop}
  (h0:ok a0 b0 c0) (h1:E (A × B × C) (JU U) (JU V) (JU ok) (JU μ) (a0,b0,c0)) (h2:∀a b c,ok a b c->Bd (A × B × C) (JU U) (JU V) (JU ok) (JU μ) (a,b,c)):
  ∃(X:Type) (U:X->List (Nat × AV)) (V:X->ai) (ok:X->Prop) (μ:X->Nat) (x0:X),(ok x0/\E X U V ok μ x0)/\∀x,ok x->Bd X U V ok μ x:=
 ⟨A × B × C,JU U,JU V,JU ok,JU μ,(a0,b0,c0),⟨h0,h1⟩,λ(a,b,c) h=>h2 a b c h⟩
theorem YZ{A B C D:Type}(U:A->B->C->D->List (Nat × AV))(V:A->B->C->D->ai)(ok:A->B->C->D->Prop)(μ:A->B->C->D->Nat)(a0:A)(b0:B)(c0:C)(d0:D){E Bd:(Y:Type)->(Y->List (Nat × AV))->(Y->ai)->(Y->Prop)->(Y->Nat)->Y->Prop}
  (h0:ok a0 b0 c0 d0) (h1:E (A × B × C × D) (Ba U) (Ba V) (Ba ok) (Ba μ) (a0,b0,c0,d0)) (h2:∀a b c d,ok a b c d->Bd (A × B × C × D) (Ba U) (Ba V) (Ba ok) (Ba μ) (a,b,c,d)):
  ∃(X:Type) (U:X->List (Nat × AV)) (V:X->ai) (ok:X->Prop) (μ:X->Nat) (x0:X),(ok x0/\E X U V ok μ x0)/\∀x,ok x->Bd X U V ok μ x:=
 ⟨A × B × C × D,Ba U,Ba V,Ba ok,Ba μ,(a0,b0,c0,d0),⟨h0,h1⟩,λ(a,b,c,d) h=>h2 a b c d h⟩
theorem cm{f:FuncId}(fz:List Nat)(σ:List (Nat × Nat)){S1:ai}{as2:List AV}{ret:AV}{S2:ai}(h:MF f as2 S1 ret S2){Q:Prop}{R:List Nat->List (Nat × Nat)->ai->List AV->AV->ai->Prop}(hr:R fz σ S1 as2 ret S2):
  (∃(fz:List Nat) (σ:List (Nat × Nat)) (S1:ai) (as2:List AV) (ret:AV) (S2:ai),SP.m f as2 S1 ret S2/\R fz σ S1 as2 ret S2)\/Q:=Or.inl ⟨fz,σ,S1,as2,ret,S2,h,hr⟩
theorem cn{f:FuncId}(fz:List Nat)(σ:List (Nat × Nat)){S1:ai}{as2:List AV}{X:Type}{ret:X->AV}{S2:X->ai}{ok:X->Prop}(h:NF f as2 S1 ret S2 ok){Q:Prop}{R:List Nat->List (Nat × Nat)->ai->List AV->(X:Type)->(X->AV)->(X->ai)->(X->Prop)->Prop}(hr:R fz σ S1 as2 X ret S2 ok):
  Q\/∃(fz:List Nat) (σ:List (Nat × Nat)) (S1:ai) (as2:List AV) (X:Type) (ret:X->AV) (S2:X->ai) (ok:X->Prop),SP.n f as2 S1 X ret S2 ok/\R fz σ S1 as2 X ret S2 ok:=Or.inr ⟨fz,σ,S1,as2,X,ret,S2,ok,h,hr⟩
theorem cq{f:FuncId}{as2:List AV}{ret:AV}(h:QF f as2 ret){R Q:List AV->AV->Prop}(ha:R as2 ret)(hr:Q as2 ret):∃(as2:List AV) (ret:AV),SP.q f as2 ret/\R as2 ret/\Q as2 ret:=⟨as2,ret,h,ha,hr⟩
theorem ce{f:FuncId}{as2:List AV}{X:Type}{out:X->AV}{ok:X->Prop}(h:EF f as2 out ok){R:List AV->Prop}{Q:(X:Type)->(X->AV)->X->Prop}(ha:R as2)(hr:∀x,ok x->Q X out x):
  ∃(X:Type) (as2:List AV) (out:X->AV) (ok:X->Prop),SP.e f as2 X out ok/\R as2/\∀x,ok x->Q X out x:=⟨X,as2,out,ok,h,ha,hr⟩
theorem nx{X:Type}{ok:X->Prop}{μ:X->Nat}{m:Nat}{T3 T0:List AV}{R:X->Prop}(x':X)(h1:ok x')(h2:μ x'<m)(h4:R x')(h3:T3=T0:=by rfl):∃x',(ok x'/\μ x'<m)/\T3=T0/\R x':=⟨x',⟨h1,h2⟩,h3,h4⟩
end Go.Proofs.YtgailjhnfghkgaaGreatDoor
end
section
namespace Go.Proofs.YtgailjhnfghkgaaGreatDoor
open Go Go.AM
section
variable{α β:Type}[DecidableEq α][DecidableEq β]
def fZ(acc:List α)(x:α):List α:=if x∈acc then acc else acc++[x]
def ar(l:List α):List α:=l.foldl fZ []
def canon(l:List α):List Int:=l.map λ x=>(((ar l).idxOf x:Nat):Int)
theorem DK{l:List α}:∀{acc:List α} {x:α},x∈l.foldl fZ acc↔x∈acc\/x∈l:=by
 induction l with
 |nil=>simp
 |cons a l ih=>
  intro acc x;rw [List.foldl_cons,ih,fZ];split
  ·rename_i h
   constructor
   ·rintro (h'|h')
    ·exact .inl h'
    ·exact .inr (List.mem_cons_of_mem _ h')
   ·rintro (h'|h')
    ·exact .inl h'
    ·rcases List.mem_cons.1 h' with rfl|h'
     ·exact .inl h
     ·exact .inr h'
  ·simp only [List.mem_append,List.mem_cons,or_assoc,List.not_mem_nil,false_or]
theorem aE{l:List α}{x:α}:x∈ar l↔x∈l:=by simp [ar,DK]
theorem DL{l:List α}:∀{acc:List α},∃t,l.foldl fZ acc=acc++t:=by
 induction l with
 |nil=>exact λ{acc}=>⟨[],by simp⟩
 |cons a l ih=>
  intro acc;obtain⟨t,ht⟩:=ih (acc:=fZ acc a);rw [List.foldl_cons,ht,fZ];split
  ·exact⟨t,rfl⟩
  ·exact⟨a::t,by simp⟩
theorem xM{l m:List α}:∃t,ar (l++m)=ar l++t:=by
 rw [ar,List.foldl_append];exact DL
theorem bN{l:List α}{x:α}:ar (l++[x])=if x∈l then ar l else ar l++[x]:=by
 rw [ar,List.foldl_append];show fZ (ar l) x=_;simp only [fZ,aE]
theorem xN{l:List α}:∀{acc:List α},acc.Nodup->(l.foldl fZ acc).Nodup:=by
 induction l with
 |nil=>exact λ h=>h
 |cons a l ih=>
  intro acc h;rw [List.foldl_cons];refine ih ?_;unfold fZ;split
  ·exact h
  ·rename_i hn
   rw [List.nodup_append];refine⟨h,by simp,λ x hx y hy e=>?_⟩;simp at hy;subst hy;subst e;exact hn hx
theorem eO(l:List α):(ar l).Nodup:=xN (by simp)
theorem FN{l m:List α}{x:α}(h:x∈l):(ar (l++m)).idxOf x=(ar l).idxOf x:=by
 obtain⟨t,ht⟩:=xM (l:=l) (m:=m);rw [ht,List.idxOf_append,if_pos (aE.2 h)]
theorem bD(l:List α):(canon l).length=l.length:=by simp [canon]
omit [DecidableEq α] in
theorem cN{l:List α}{i:Nat}{d:α}(h:i<l.length):l.take (i+1)=l.take i++[l.getD i d]:=by
 rw [List.take_add_one];simp [List.getD,h]
theorem m6{l:List α}{d:α}{i:Nat}(h:i<l.length):
  (canon l).getD i 0=if l.getD i d∈l.take i then (((ar (l.take i)).idxOf (l.getD i d):Nat):Int) else ((ar (l.take i)).length:Nat):=by
 have e:(canon l).getD i 0=(((ar l).idxOf (l.getD i d):Nat):Int):=by
  simp [canon,List.getD,h]
 rw [e];have hl:l=l.take (i+1)++l.drop (i+1):=(List.take_append_drop _ _).symm;have hm:l.getD i d∈l.take (i+1):=by rw [cN (d:=d) h];simp
 have e2:(ar l).idxOf (l.getD i d)=(ar (l.take (i+1))).idxOf (l.getD i d):=by
  have:=FN (m:=l.drop (i+1)) hm
  rwa [<-hl]at this
 rw [e2,cN (d:=d) h,bN];split
 ·rfl
 ·rename_i hn
  rw [List.idxOf_append,if_neg (λ h=>hn (aE.1 h))];simp
theorem eJ{l:List α}{d:α}{i j:Nat}(hi:i<l.length)(hj:j<l.length):(canon l).getD i 0=(canon l).getD j 0↔l.getD i d=l.getD j d:=by
 have e:∀{i},i<l.length->(canon l).getD i 0=(((ar l).idxOf (l.getD i d):Nat):Int):=λ{i} h=>by
  simp [canon,List.getD,h]
 rw [e hi,e hj]
 constructor
 ·intro h
  have h:(ar l).idxOf (l.getD i d)=(ar l).idxOf (l.getD j d):=by exact_mod_cast h
  have m1:l.getD i d∈ar l:=aE.2 (an hi);have m2:l.getD j d∈ar l:=aE.2 (an hj);have h1:=List.getElem_idxOf (List.idxOf_lt_length_of_mem m1);have h2:=List.getElem_idxOf (List.idxOf_lt_length_of_mem m2);rw [<-h1,<-h2]
  congr 1
 ·intro h;rw [h]
theorem Cm{l:List α}{i:Nat}(hi:i<l.length):0<=(canon l).getD i 0/\(canon l).getD i 0<(ar l).length:=by
 have e:(canon l).getD i 0=(((ar l).idxOf (l[i]):Nat):Int):=by
  simp [canon,List.getD,hi]
 rw [e];have:=List.idxOf_lt_length_of_mem (aE.2 (List.getElem_mem hi));omega
theorem aZ(l:List α):(ar l).length<=l.length:=by
 have:∀(l acc:List α),(l.foldl fZ acc).length<=acc.length+l.length:=by
  intro l
  induction l with
  |nil=>simp
  |cons a l ih=>
   intro acc;rw [List.foldl_cons];have:=ih (fZ acc a);have h2:(fZ acc a).length<=acc.length+1:=by unfold fZ;split<;>simp
   simp only [List.length_cons];omega
 simpa [ar]using this l []
theorem gZ{l:List α}{m:List β}{d:α}{e:β}(hl:l.length=m.length)(h:∀i j,i<l.length->j<l.length->(l.getD i d=l.getD j d↔m.getD i e=m.getD j e)):canon l=canon m:=by
 have key:∀i,i<=l.length->(ar (l.take i)).length=(ar (m.take i)).length/\∀j,j<i->(ar (l.take i)).idxOf (l.getD j d)=(ar (m.take i)).idxOf (m.getD j e):=by
  intro i
  induction i with
  |zero=>exact λ _=>⟨rfl,λ j hj=>absurd hj (Nat.not_lt_zero _)⟩
  |succ i ih=>
   intro hi;obtain⟨h1,h2⟩:=ih aa;have bL:i<l.length:=aa;have Kh:i<m.length:=aa
   have mem:l.getD i d∈l.take i↔m.getD i e∈m.take i:=by
    constructor
    ·intro hm
     obtain⟨j,hj,Ny⟩:=aV d hm;rw [List.length_take]at hj;have mb:j<i:=aa;have e1:(l.take i).getD j d=l.getD j d:=by simp [List.getD,mb]
     rw [e1]at Ny;have:=(h j i aa bL).1 Ny;rw [<-this];have e2:(m.take i).getD j e=m.getD j e:=by simp [List.getD,mb]
     rw [<-e2];exact an (by rw [List.length_take];omega)
    ·intro hm
     obtain⟨j,hj,Ny⟩:=aV e hm;rw [List.length_take]at hj;have mb:j<i:=aa;have e1:(m.take i).getD j e=m.getD j e:=by simp [List.getD,mb]
     rw [e1]at Ny;have:=(h j i aa bL).2 Ny;rw [<-this];have e2:(l.take i).getD j d=l.getD j d:=by simp [List.getD,mb]
     rw [<-e2];exact an (by rw [List.length_take];omega)
   have jl:∀j,j<i->l.getD j d∈l.take i:=λ j hj=>by
    have e2:(l.take i).getD j d=l.getD j d:=by simp [List.getD,hj]
    rw [<-e2];exact an (by rw [List.length_take];omega)
   have jm:∀j,j<i->m.getD j e∈m.take i:=λ j hj=>by
    have e2:(m.take i).getD j e=m.getD j e:=by simp [List.getD,hj]
    rw [<-e2];exact an (by rw [List.length_take];omega)
   have fl:=bN (l:=l.take i) (x:=l.getD i d);have fm:=bN (l:=m.take i) (x:=m.getD i e);rw [<-cN bL]at fl;rw [<-cN Kh]at fm
   by_cases hm:l.getD i d∈l.take i
   ·rw [if_pos hm]at fl
    rw [if_pos (mem.1 hm)]at fm;rw [fl,fm];refine⟨h1,λ j hj=>?_⟩
    by_cases lL:j<i
    ·exact h2 j lL
    ·have:j=i:=aa
     subst this;obtain⟨j',mb,Ny⟩:=aV d hm;rw [List.length_take]at mb;have jK:j'<j:=aa;have e1:(l.take j).getD j' d=l.getD j' d:=by simp [List.getD,jK]
     rw [e1]at Ny;rw [<-Ny,<-(h j' j aa bL).1 Ny];exact h2 j' jK
   ·rw [if_neg hm]at fl
    rw [if_neg (λ h=>hm (mem.2 h))]at fm;rw [fl,fm];refine⟨by simp [h1],λ j hj=>?_⟩
    by_cases lL:j<i
    ·rw [List.idxOf_append,if_pos (aE.2 (jl j lL)),List.idxOf_append,if_pos (aE.2 (jm j lL))]
     exact h2 j lL
    ·have:j=i:=aa
     subst this;rw [List.idxOf_append,if_neg (λ h=>hm (aE.1 h)),List.idxOf_append,if_neg (λ h=>hm (mem.2 (aE.1 h)))];simp [h1]
 have:=key l.length (Nat.le_refl _);rw [List.take_length,hl,List.take_length]at this;apply List.ext_getElem
 ·simp [canon,hl]
 ·intro i h1 h2
  simp only [canon,List.length_map]at h1 h2;have:=this.2 i h2;simp only [List.getD,List.getElem?_eq_getElem h1,List.getElem?_eq_getElem h2,Option.getD_some]at this;simp [canon,this]
end
theorem fq(l:List Int):canon (canon l)=canon l:=
 gZ (d:=0) (e:=0) (bD l) λ i j hi hj=>by
  rw [bD]at hi hj;exact eJ hi hj
def bp(p:List Int):Prop:=p.length<=4096/\canon p=p
instance(p:List Int):Decidable (bp p):=by unfold bp;infer_instance
theorem iO{n:Nat}{p:List Int}(h:ar p=(List.range n).map (λ(c:Nat)=>(c:Int))):∀x:Int,(0<=x/\x<n)↔x∈p:=λ x=>by
 rw [<-aE,h,List.mem_map]
 constructor
 ·rintro⟨h1,h2⟩
  exact⟨x.toNat,by rw [List.mem_range];omega,aa⟩
 ·rintro⟨c,h1,rfl⟩
  rw [List.mem_range]at h1;omega
theorem Jz{n:Nat}{x:Int}(h:0<=x/\x<n):(((List.range n).map (λ(c:Nat)=>(c:Int))).idxOf x:Nat)=x.toNat:=by
 have hn:((List.range n).map (λ(c:Nat)=>(c:Int))).Nodup:=by
  rw [List.Nodup,List.pairwise_map];exact List.nodup_range.imp λ h e=>h (by exact_mod_cast e)
 have aS:x.toNat<((List.range n).map (λ(c:Nat)=>(c:Int))).length:=by simp;omega
 have:=hn.idxOf_getElem x.toNat aS;rw [<-this]
 congr 1
 simp;omega
def dm(p:List Int)(i:Nat):Prop:=0<=p.getD i 0/\p.getD i 0<=(ar (p.take i)).length
theorem fR{p:List Int}:∀{i:Nat},i<=p.length->(∀j,j<i->dm p j)->ar (p.take i)=(List.range (ar (p.take i)).length).map (λ(c:Nat)=>(c:Int))
 |0,_,_=>by simp [ar]
 |i+1,hi,h=>by
  have ih:=fR (p:=p) (i:=i) aa λ j hj=>h j aa;have hs:=h i aa;have bL:i<p.length:=aa;have fl:=bN (l:=p.take i) (x:=p.getD i 0);rw [<-cN bL]at fl;have hr:=iO ih (p.getD i 0);rw [fl];split
  ·exact ih
  ·rename_i hm
   have:p.getD i 0=(ar (p.take i)).length:=by
    unfold dm at hs;rcases Int.lt_or_eq_of_le hs.2 with h1|h1
    ·exact absurd (hr.1 ⟨hs.1,h1⟩) hm
    ·exact h1
   rw [List.length_append,List.length_singleton,List.range_succ,List.map_append,<-ih,this];simp
theorem fu{p:List Int}:canon p=p↔∀i,i<p.length->dm p i:=by
 constructor
 ·intro h i hi
  have:=m6 (d:=0) hi;rw [h]at this;unfold dm;rw [this];split
  ·rename_i hm
   have:=List.idxOf_lt_length_of_mem (aE.2 hm);omega
  ·omega
 ·intro h
  have hf:=fR (Nat.le_refl _) h;rw [List.take_length]at hf;apply List.ext_getElem
  ·exact bD p
  ·intro i h1 h2
   have hm:p[i]∈p:=List.getElem_mem h2;have hr:=(iO hf p[i]).2 hm;have e:(ar p).idxOf p[i]=p[i].toNat:=by rw [hf];exact Jz hr
   simp only [canon,List.getElem_map,e];omega
def ak(p:List Int):Nat:=(ar p).length
theorem jM{p:List Int}(h:canon p=p)(x:Int):(0<=x/\x<ak p)↔x∈p:=by
 have hf:=fR (Nat.le_refl _) (fu.1 h);rw [List.take_length]at hf;exact iO hf x
def bh(n:Nat)(p:List Int):List (List Int):=(List.range n).map λ(c:Nat)=>(((List.range p.length).filter λ i=>p.getD i 0=(c:Int)).map λ(i:Nat)=>(i:Int))
theorem vG(n:Nat)(p:List Int):(bh n p).length=n:=by simp [bh]
theorem lP{n:Nat}{p:List Int}{c:Nat}(h:c<n):(bh n p).getD c []=((List.range p.length).filter λ i=>p.getD i 0=(c:Int)).map λ(i:Nat)=>(i:Int):=by
 unfold bh;rw [List.getD,List.getElem?_map,List.getElem?_range h]
 rfl
theorem gP{n:Nat}{p:List Int}{c:Nat}(h:c<n){x:Int}:x∈(bh n p).getD c []↔0<=x/\x<p.length/\p.getD x.toNat 0=c:=by
 rw [lP h,List.mem_map]
 constructor
 ·rintro⟨i,h1,rfl⟩
  rw [List.mem_filter,List.mem_range]at h1;simp only [decide_eq_true_eq]at h1;exact⟨aa,aa,by simpa using h1.2⟩
 ·rintro⟨h1,h2,h3⟩
  refine⟨x.toNat,?_,aa⟩;rw [List.mem_filter,List.mem_range];simp only [decide_eq_true_eq];exact⟨aa,h3⟩
section
variable{α:Type}[DecidableEq α]
def mapOf(key:α->List Int)(n:Nat)(fs:List α):List (List Int × Int):=(fs.zipIdx n).map λ e=>(key e.1,((e.2:Nat):Int))
omit [DecidableEq α] in
theorem qt{key:α->List Int}{n:Nat}{fs:List α}:(mapOf key n fs).length=fs.length:=by simp [mapOf]
omit [DecidableEq α] in
theorem EU{key:α->List Int}{fs:List α}{x:α}:mapOf key 0 (fs++[x])=mapOf key 0 fs++[(key x,(fs.length:Int))]:=by
 simp [mapOf,List.zipIdx_append]
theorem o7{key:α->List Int}(hk:∀a b,key a=key b->a=b){x:α}:∀{fs:List α} {n:Nat},getM (mapOf key n fs) (key x)=if x∈fs then some (((n+fs.idxOf x:Nat)):Int) else none
 |[],n=>rfl
 |a::fs,n=>by
  show(if key a=key x then some (n:Int) else getM (mapOf key (n+1) fs) (key x))=_
  by_cases h:a=x
  ·subst h;simp
  ·have h1:key a≠key x:=λ e=>h (hk _ _ e)
   have h2:(x∈a::fs)↔x∈fs:=by simp [Ne.symm h]
   rw [if_neg h1,o7 hk]
   by_cases hm:x∈fs
   ·rw [if_pos hm,if_pos (h2.2 hm),List.idxOf_cons]
    have:(a==x)=false:=by simpa using h
    rw [this];simp only [cond_false];congr 2;omega
   ·rw [if_neg hm,if_neg (λ h=>hm (h2.1 h))]
theorem qs:∀{m:List (List Int × Int)} {k:List Int} {v:Int},getM m k=none->kI m k v=m++[(k,v)]
 |[],_,_,_=>rfl
 |p::m,k,v,h=>by
  simp only [getM]at h;split at h
  ·cases h
  ·rename_i bm
   simp [kI,bm,qs h]
end
end Go.Proofs.YtgailjhnfghkgaaGreatDoor
end
section
namespace Go.Proofs.YtgailjhnfghkgaaGreatDoor
open Classical
theorem DM{α:Type}{l:List α}{i:Nat}{d:α}(h:i<l.length):l.getD i d∈l:=by
 simp [List.getD,h]
def en(t:List (List Int))(x y:Nat):Nat:=((t.getD x []).getD y 0).toNat
def Hk(n:Nat)(r:List Int):Prop:=r.length=n/\∀x∈r,0<=x/\x<n
structure Sh(t:List (List Int)):Prop where
 pos:0<t.length
 most:t.length<=400
 row:∀r∈t,Hk t.length r
noncomputable def dV(t:List (List Int)):Int:=if t.length>400 then 3 else if t.length=0 then 4 else if ∀r∈t,Hk t.length r then 0 else 4
theorem ph{t:List (List Int)}:dV t=0↔Sh t:=by
 unfold dV;split
 ·exact⟨λ h=>by omega,λ h=>absurd h.most aa⟩
 ·split
  ·exact⟨λ h=>by omega,λ h=>absurd h.pos aa⟩
  ·split
   ·rename_i h1 h2 h3;exact⟨λ _=>⟨aa,aa,h3⟩,λ _=>rfl⟩
   ·rename_i h3;exact⟨λ h=>by omega,λ h=>absurd h.row h3⟩
theorem Sh.len{t:List (List Int)}(h:Sh t){x:Nat}(hx:x<t.length):(t.getD x []).length=t.length:=by
 refine(h.row _ ?_).1;simp [List.getD,hx]
theorem Sh.bA{t:List (List Int)}(h:Sh t){x y:Nat}(hx:x<t.length)(hy:y<t.length):(t.getD x []).getD y 0=(en t x y:Int)/\en t x y<t.length:=by
 have hm:t.getD x []∈t:=by simp [List.getD,hx]
 obtain⟨hl,bX⟩:=h.row _ hm;have D7:y<(t.getD x []).length:=by rw [hl];exact hy
 have eZ:(t.getD x []).getD y 0∈t.getD x []:=DM D7;have:=bX _ eZ;unfold en;omega
def Lt(t:List (List Int))(g:Nat):Prop:=∀x y,x<t.length->y<t.length->en t (en t x g) y=en t x (en t g y)
def HE(t:List (List Int)):Prop:=∀g,g<t.length->Lt t g
theorem ka{t:List (List Int)}(h:HE t){x y z:Nat}(hx:x<t.length)(hy:y<t.length)(hz:z<t.length):en t (en t x y) z=en t x (en t y z):=h y hy x z hx hz
noncomputable def jz(t:List (List Int))(gens:List Int):Bool:=decide (∀g∈gens,Lt t g.toNat)
theorem Dc{t:List (List Int)}{gens:List Int}:jz t gens=true↔∀g∈gens,Lt t g.toNat:=by unfold jz;exact decide_eq_true_iff
theorem AN{t:List (List Int)}{gens:List Int}:jz t gens=false↔¬∀g∈gens,Lt t g.toNat:=by unfold jz;exact decide_eq_false_iff_not
inductive Mk (t:List (List Int)) (gens:List Int):Nat->Prop
 |gen {g:Int} (h:g∈gens):Mk t gens g.toNat
 |mul {a b:Nat} (ha:Mk t gens a) (hb:Mk t gens b):Mk t gens (en t a b)
theorem Mk.mono{t:List (List Int)}{g h:List Int}(hs:∀x∈g,x∈h){a:Nat}(m:Mk t g a):Mk t h a:=by
 induction m with
 |gen hm=>exact .gen (hs _ hm)
 |mul _ _ ih1 ih2=>exact .mul ih1 ih2
structure pL(t:List (List Int))(gens:List Int):Prop where
 el:∀g∈gens,0<=g/\g<t.length
 all:∀x,x<t.length->Mk t gens x
theorem Mk.lt{t:List (List Int)}{gens:List Int}(h:Sh t)(hg:∀g∈gens,0<=g/\g<t.length){a:Nat}(m:Mk t gens a):a<t.length:=by
 induction m with
 |gen hm=>have:=hg _ hm;omega
 |mul _ _ h1 h2=>exact(h.bA h1 h2).2
theorem Mk.Xg{t:List (List Int)}{gens:List Int}(h:Sh t)(hg:∀g∈gens,0<=g/\g<t.length)(hl:∀g∈gens,Lt t g.toNat){a:Nat}(m:Mk t gens a):Lt t a:=by
 induction m with
 |gen hm=>exact hl _ hm
 |mul h1 h2 ih1 ih2=>
  rename_i a b;intro x y hx hy;have ha:=h1.lt h hg;have hb:=h2.lt h hg;rw [<-ih1 x b hx hb,ih2 (en t x a) y (h.bA hx ha).2 hy,ih1 x (en t b y) hx (h.bA hb hy).2,<-ih2 a y ha hy]
theorem De{t:List (List Int)}{gens:List Int}(h:Sh t)(hs:pL t gens):jz t gens=true↔HE t:=by
 unfold jz;rw [decide_eq_true_iff]
 constructor
 ·intro hl g hg;exact(hs.all g hg).Xg h hs.el hl
 ·intro ha g hg;exact ha _ (by have:=hs.el g hg;omega)
noncomputable def jA(t:List (List Int)):Int:=if dV t≠0 then dV t else if HE t then 0 else 5
structure Semi(t:List (List Int)):Prop extends Sh t where
 assoc:HE t
theorem gI{t:List (List Int)}:jA t=0↔Semi t:=by
 unfold jA;split
 ·rename_i h;exact⟨λ h'=>absurd h' h,λ h'=>absurd (ph.2 h'.toSh) h⟩
 ·rename_i h
  have h:dV t=0:=Classical.byContradiction h;split
  ·rename_i ha;exact⟨λ _=>⟨ph.1 h,ha⟩,λ _=>rfl⟩
  ·rename_i ha;exact⟨λ h'=>by omega,λ h'=>absurd h'.assoc ha⟩
end Go.Proofs.YtgailjhnfghkgaaGreatDoor
end
section
namespace Go.Proofs.YtgailjhnfghkgaaGreatDoor
open Go Go.AM
def aad(t:List (List Int))(y x:Nat):Bool:=decide (x=y)||(t.getD y []).contains (x:Int)
def aae(t:List (List Int))(y x:Nat):Bool:=decide (x=y)||t.any λ row=>row.getD y 0==(x:Int)
def aaf(t:List (List Int))(y x:Nat):Bool:=(List.range t.length).any λ z=>aae t y z&&aad t z x
def rep(e:Nat->Nat->Bool)(x:Nat):Nat:=((List.range x).find? λ y=>e x y&&e y x).getD x
def DN(n:Nat)(e:Nat->Nat->Bool):List Int:=(List.range n).map λ x=>((rep e x:Nat):Int)
theorem Uw{e:Nat->Nat->Bool}{x y:Nat}(hy:y<x)(h:(e x y&&e y x)=true)(hn:∀z,z<y->(e x z&&e z x)=false):rep e x=y:=by
 unfold rep
 have:(List.range x).find? (λ y=>e x y&&e y x)=some y:=by
  rw [List.find?_range_eq_some];exact⟨h,by rw [List.mem_range];exact hy,λ z hz=>by show(!_)=true;rw [hn z hz];rfl⟩
 rw [this];rfl
theorem NG{e:Nat->Nat->Bool}{x:Nat}(h:∀y,y<x->(e x y&&e y x)=false):rep e x=x:=by
 unfold rep
 have:(List.range x).find? (λ y=>e x y&&e y x)=none:=by
  rw [List.find?_range_eq_none];exact λ y hy=>by show(!_)=true;rw [h y hy];rfl
 rw [this];rfl
theorem y9(e:Nat->Nat->Bool)(x:Nat):(rep e x=x/\∀y,y<x->(e x y&&e y x)=false)\/(rep e x<x/\(e x (rep e x)&&e (rep e x) x)=true/\∀y,y<rep e x->(e x y&&e y x)=false):=by
 by_cases h:∀y,y<x->(e x y&&e y x)=false
 ·exact .inl ⟨NG h,h⟩
 ·have:∃y,y<x/\(e x y&&e y x)=true:=by
   apply Classical.byContradiction;intro hn
   exact h λ y hy=>by
    cases hb:(e x y&&e y x)with
    |false=>rfl
    |true=>exact absurd ⟨y,hy,hb⟩ hn
  have least:∀n,(∃y,y<n/\y<x/\(e x y&&e y x)=true)->∃y,y<x/\(e x y&&e y x)=true/\∀z,z<y->(e x z&&e z x)=false:=by
   intro n
   induction n with
   |zero=>rintro⟨y,hy,_⟩;exact absurd hy (Nat.not_lt_zero _)
   |succ n ih=>
    rintro⟨y,hy,XY,hb⟩
    by_cases hl:∃z,z<n/\z<x/\(e x z&&e z x)=true
    ·exact ih hl
    ·refine⟨y,XY,hb,λ z hz=>?_⟩
     cases uW:(e x z&&e z x)with
     |false=>rfl
     |true=>exact absurd ⟨z,aa,aa,uW⟩ hl
  obtain⟨y,hy,hb⟩:=this;obtain⟨y,h1,h2,h3⟩:=least (y+1) ⟨y,Nat.lt_succ_self _,hy,hb⟩;have:=Uw h1 h2 h3;exact .inr (by rw [this];exact⟨h1,h2,h3⟩)
theorem su(n:Nat)(e:Nat->Nat->Bool):(DN n e).length=n:=by simp [DN]
theorem za{n:Nat}{e:Nat->Nat->Bool}{x:Nat}(hx:x<n):(DN n e).getD x 0=((rep e x:Nat):Int):=by
 simp only [DN,List.getD,List.getElem?_map,List.getElem?_range hx,Option.map_some,Option.getD_some]
structure S6(n:Nat)(e:Nat->Nat->Bool):Prop where
 refl:∀x,x<n->e x x=true
 trans:∀x y z,x<n->y<n->z<n->e x y=true->e y z=true->e x z=true
theorem QQ{n:Nat}{e:Nat->Nat->Bool}(h:S6 n e){x y:Nat}(hx:x<n)(hy:y<n):rep e x=rep e y↔(e x y=true/\e y x=true):=by
 have muty:∀x,x<n->rep e x<n/\e x (rep e x)=true/\e (rep e x) x=true:=λ x hx=>by
  rcases y9 e x with ⟨h1,_⟩|⟨h1,h2,_⟩
  ·rw [h1];exact⟨hx,h.refl x hx,h.refl x hx⟩
  ·rw [Bool.and_eq_true]at h2;exact⟨aa,h2.1,h2.2⟩
 have least:∀x z,x<n->z<n->e x z=true->e z x=true->rep e x<=z:=λ x z hx hz h1 h2=>by
  rcases y9 e x with ⟨g1,g2⟩|⟨g1,_,g2⟩
  ·rw [g1]
   apply Nat.le_of_not_lt;intro aS;have:=g2 z aS;rw [h1,h2]at this;cases this
  ·apply Nat.le_of_not_lt
   intro aS;have:=g2 z aS;rw [h1,h2]at this;cases this
 obtain⟨a1,a2,a3⟩:=muty x hx;obtain⟨b1,b2,b3⟩:=muty y hy
 constructor
 ·intro he
  exact⟨h.trans x (rep e x) y hx a1 hy a2 (he▸b3),h.trans y (rep e x) x hy a1 hx (he▸b2) a3⟩
 ·rintro⟨h1,h2⟩
  apply Nat.le_antisymm
  ·exact least x (rep e y) hx b1 (h.trans x y _ hx hy b1 h1 b2) (h.trans _ y x b1 hy hx b3 h2)
  ·exact least y (rep e x) hy a1 (h.trans y x _ hy hx a1 h2 a2) (h.trans _ x y a1 hx hy a3 h1)
def tB(n:Nat)(e:Nat->Nat->Bool):List Int:=canon (DN n e)
theorem qg(n:Nat)(e:Nat->Nat->Bool):(tB n e).length=n:=by rw [tB,bD,su]
theorem qi{n:Nat}{e:Nat->Nat->Bool}(h:S6 n e){x y:Nat}(hx:x<n)(hy:y<n):(tB n e).getD x 0=(tB n e).getD y 0↔(e x y=true/\e y x=true):=by
 rw [tB,eJ (d:=0) (by rw [su];exact hx) (by rw [su];exact hy),za hx,za hy,<-QQ h hx hy];exact Int.ofNat_inj
def KR(t:List (List Int)):List Int:=tB t.length (aaf t)
def YE(t:List (List Int)):Nat:=ak (KR t)
end Go.Proofs.YtgailjhnfghkgaaGreatDoor
end
section
namespace Go.Proofs.YtgailjhnfghkgaaGreatDoor
inductive Eg (R:Nat->Nat->Prop):Nat->Nat->Prop
 |rel {a b:Nat} (h:R a b):Eg R a b
 |refl (a:Nat):Eg R a a
 |symm {a b:Nat} (h:Eg R a b):Eg R b a
 |trans {a b c:Nat} (h:Eg R a b) (h':Eg R b c):Eg R a c
theorem Eg.least{R Q:Nat->Nat->Prop}(hr:∀a,Q a a)(hs:∀a b,Q a b->Q b a)(ht:∀a b c,Q a b->Q b c->Q a c)(h:∀a b,R a b->Q a b){a b:Nat}(e:Eg R a b):Q a b:=by
 induction e with
 |rel h1=>exact h _ _ h1
 |refl a=>exact hr a
 |symm _ ih=>exact hs _ _ ih
 |trans _ _ i1 i2=>exact ht _ _ _ i1 i2
theorem Eg.mono{R R':Nat->Nat->Prop}(h:∀a b,R a b->Eg R' a b){a b:Nat}(e:Eg R a b):Eg R' a b:=
 e.least .refl (λ _ _=>.symm) (λ _ _ _=>.trans) h
def UZ(R:Nat->Nat->Prop)(i j:Nat):Nat->Nat->Prop:=λ a b=>R a b\/(a=i/\b=j)
theorem WH{R:Nat->Nat->Prop}{i j a b:Nat}:Eg (UZ R i j) a b↔Eg R a b\/(Eg R a i/\Eg R j b)\/(Eg R a j/\Eg R i b):=by
 constructor
 ·intro e
  refine e.least (Q:=λ a b=>Eg R a b\/(Eg R a i/\Eg R j b)\/(Eg R a j/\Eg R i b)) (λ a=>.inl (.refl a)) ?_ ?_ ?_
  ·rintro a b (h|⟨h1,h2⟩|⟨h1,h2⟩)
   ·exact .inl h.symm
   ·exact .inr (.inr ⟨h2.symm,h1.symm⟩)
   ·exact .inr (.inl ⟨h2.symm,h1.symm⟩)
  ·rintro a b c (h|⟨h1,h2⟩|⟨h1,h2⟩) (h'|⟨h3,h4⟩|⟨h3,h4⟩)
   ·exact .inl (h.trans h')
   ·exact .inr (.inl ⟨h.trans h3,h4⟩)
   ·exact .inr (.inr ⟨h.trans h3,h4⟩)
   ·exact .inr (.inl ⟨h1,h2.trans h'⟩)
   ·exact .inr (.inl ⟨h1,h4⟩)
   ·exact .inl (h1.trans h4)
   ·exact .inr (.inr ⟨h1,h2.trans h'⟩)
   ·exact .inl (h1.trans h4)
   ·exact .inr (.inr ⟨h1,h4⟩)
  ·rintro a b (h|⟨rfl,rfl⟩)
   ·exact .inl (.rel h)
   ·exact .inr (.inl ⟨.refl _,.refl _⟩)
 ·have up:∀{a b},Eg R a b->Eg (UZ R i j) a b:=λ e=>e.mono λ a b h=>.rel (.inl h)
  have ij:Eg (UZ R i j) i j:=.rel (.inr ⟨rfl,rfl⟩);rintro (h|⟨h1,h2⟩|⟨h1,h2⟩)
  ·exact up h
  ·exact(up h1).trans (ij.trans (up h2))
  ·exact(up h1).trans (ij.symm.trans (up h2))
def Rq(n:Nat)(p:List Int)(R:Nat->Nat->Prop):Prop:=p.length=n/\∀a b,a<n->b<n->(p.getD a 0=p.getD b 0↔Eg R a b)
def cV(n:Nat):List Int:=(List.range n).map λ i:Nat=>(i:Int)
theorem bM(n:Nat):(cV n).length=n:=by simp [cV]
theorem du{n i:Nat}(h:i<n):(cV n).getD i 0=(i:Int):=by simp [cV,List.getD,h]
theorem fQ{n:Nat}{x:Int}:x∈cV n↔0<=x/\x<(n:Int):=by
 unfold cV;rw [List.mem_map]
 constructor
 ·rintro⟨i,hi,rfl⟩;have:=List.mem_range.1 hi;omega
 ·intro h;exact⟨x.toNat,List.mem_range.2 aa,aa⟩
theorem ru{n:Nat}{p q:List Int}(hp:p.length=n)(hq:q.length=n)(h:∀a b,a<n->b<n->(p.getD a 0=p.getD b 0↔q.getD a 0=q.getD b 0)):canon p=canon q:=
 gZ (d:=0) (e:=0) (by rw [hp,hq]) λ i j hi hj=>h i j aa aa
theorem EI{n:Nat}{e:Nat->Nat->Bool}(hr:∀x,x<n->e x x=true)(ht:∀x y z,x<n->y<n->z<n->e x y=true->e y z=true->e x z=true):S6 n e:=⟨hr,ht⟩
theorem Ck{n:Nat}{p:List Int}{e:Nat->Nat->Bool}(he:S6 n e)(hp:p.length=n)(h:∀a b,a<n->b<n->(p.getD a 0=p.getD b 0↔(e a b=true/\e b a=true))):canon p=tB n e:=by
 rw [<-fq p];have h1:canon (tB n e)=tB n e:=fq _;rw [<-h1,fq p];exact ru hp (qg n e) λ a b ha hb=>by rw [h a b ha hb,qi he ha hb]
end Go.Proofs.YtgailjhnfghkgaaGreatDoor
end
section
namespace Go.Proofs.YtgailjhnfghkgaaGreatDoor
open Go Go.AM
structure xO{α:Type}(c:α->α->Int):Prop where
 swap:∀a b,c b a= - c a b
 eq:∀a b,c a b=0->a=b
 trans:∀a b d,c a b<0->c b d<0->c a d<0
theorem xO.self{α:Type}{c:α->α->Int}(h:xO c)(a:α):c a a=0:=by have:=h.swap a a;omega
def w6(a b:Int):Int:=if a<b then -1 else if b<a then 1 else 0
theorem nv:xO w6 where
 swap a b:=by unfold w6;split<;>split<;>(try split)<;>omega
 eq a b:=by unfold w6;split<;>(try split)<;>omega
 trans a b d:=by unfold w6;intro h1 h2;split at h1<;>(try split at h1)<;>split at h2<;>(try split at h2)<;>first|omega|(rw [if_pos aa];omega)
def iW:List Int->List Int->Int
 |[],[]=>0|[],_::_=> -1|_::_,[]=>1|a::l,b::m=>if w6 a b≠0 then w6 a b else iW l m
theorem zd:∀a b:List Int,iW b a= - iW a b
 |[],[]=>rfl
 |[],_::_=>rfl
 |_::_,[]=>rfl
 |a::l,b::m=>by
  have e:=nv.swap a b;have ih:=zd l m;simp only [iW]
  by_cases h:w6 a b=0
  ·rw [if_neg aa,if_neg aa,ih]
  ·rw [if_pos aa,if_pos h,e]
theorem HF:∀a b:List Int,iW a b=0->a=b
 |[],[],_=>rfl
 |[],_::_,h=>by simp [iW]at h
 |_::_,[],h=>by simp [iW]at h
 |a::l,b::m,h=>by
  simp only [iW]at h
  by_cases h0:w6 a b=0
  ·rw [if_neg aa]at h
   rw [nv.eq a b h0,HF l m h]
  ·rw [if_pos h0]at h;exact absurd h h0
theorem w7:∀a b d:List Int,iW a b<0->iW b d<0->iW a d<0
 |[],[],_,h,_=>by simp [iW]at h
 |[],_::_,[],_,h=>by simp [iW]at h
 |[],_::_,_::_,_,_=>by simp [iW]
 |_::_,[],_,h,_=>by simp [iW]at h
 |_::_,_::_,[],_,h=>by simp [iW]at h
 |a::l,b::m,d::n,h1,h2=>by
  simp only [iW]at h1 h2 ⊢;have ih:=w7 l m n
  by_cases e1:w6 a b=0
  ·rw [if_neg aa]at h1
   obtain rfl:=nv.eq a b e1
   by_cases e2:w6 a d=0
   ·rw [if_neg aa]at h2 ⊢;exact ih h1 h2
   ·rw [if_pos e2]at h2 ⊢;exact h2
  ·rw [if_pos e1]at h1
   by_cases e2:w6 b d=0
   ·obtain rfl:=nv.eq b d e2
    rw [if_pos e1];exact h1
   ·rw [if_pos e2]at h2
    have:=nv.trans a b d h1 h2;rw [if_pos aa];exact this
theorem uH:xO iW:=⟨zd,HF,w7⟩
def Q1{α:Type}(c:α->α->Int)(l:List α):Prop:=l.Pairwise λ a b=>c a b<0
def Bc{α:Type}(c:α->α->Int)(l:List α):List α:=l.mergeSort λ a b=>decide (c a b<=0)
section
variable{α:Type}{c:α->α->Int}
theorem Q1.nodup(h:xO c){l:List α}(hs:Q1 c l):l.Nodup:=hs.imp λ{a b} mh e=>by subst e;have:=h.self a;omega
theorem le_trans' (h:xO c){a b d:α}(h1:c a b<=0)(h2:c b d<=0):c a d<=0:=by
 by_cases e1:c a b=0
 ·obtain rfl:=h.eq _ _ e1;exact h2
 ·by_cases e2:c b d=0
  ·obtain rfl:=h.eq _ _ e2;exact h1
  ·have:=h.trans a b d aa aa;omega
theorem w8(l:List α):(Bc c l).Perm l:=List.mergeSort_perm _ _
theorem tO{l:List α}{x:α}:x∈Bc c l↔x∈l:=(w8 l).mem_iff
theorem OE(l:List α):(Bc c l).length=l.length:=(w8 l).length_eq
theorem Ux(h:xO c)(l:List α):(Bc c l).Pairwise λ a b=>c a b<=0:=by
 have:=List.pairwise_mergeSort (le:=λ a b=>decide (c a b<=0)) (λ a b d h1 h2=>decide_eq_true (le_trans' h (of_decide_eq_true h1) (of_decide_eq_true h2)))
  (λ a b=>by
   have:=h.swap a b
   by_cases h0:c a b<=0
   ·simp [h0]
   ·have:c b a<=0:=aa
    simp [this]) l
 exact this.imp λ{a b} mh=>of_decide_eq_true mh
theorem FW(h:xO c){l:List α}(hn:l.Nodup):Q1 c (Bc c l):=by
 have h1:=Ux h l;have h2:(Bc c l).Nodup:=(w8 l).nodup_iff.2 hn;have:=h1.and h2;refine this.imp λ{a b} mh=>?_;have:c a b≠0:=λ e=>mh.2 (h.eq _ _ e);omega
theorem s9(h:xO c):∀{l m:List α},l.Pairwise (λ a b=>c a b<=0)->m.Pairwise (λ a b=>c a b<=0)->l.Perm m->l=m
 |[],m,_,_,hp=>by rw [List.nil_perm.1 hp]
 |a::l,[],_,_,hp=>by have:=hp.length_eq;simp at this
 |a::l,b::m,h1,h2,hp=>by
  have NO:=List.pairwise_cons.1 h1;have F3:=List.pairwise_cons.1 h2
  have e:a=b:=by
   have ha:a∈b::m:=hp.mem_iff.1 (by simp);have hb:b∈a::l:=hp.mem_iff.2 (by simp);rcases List.mem_cons.1 ha with e|ha
   ·exact e
   ·rcases List.mem_cons.1 hb with e|hb
    ·exact e.symm
    ·have g1:=F3.1 a ha
     have g2:=NO.1 b hb;have:=h.swap a b;exact h.eq _ _ aa
  subst e;rw [s9 h NO.2 F3.2 hp.cons_inv]
theorem Bv(h:xO c){l m:List α}(hl:Q1 c l)(hm:Q1 c m)(he:∀x,x∈l↔x∈m):l=m:=
 s9 h (hl.imp λ h=>by omega) (hm.imp λ h=>by omega) ((List.perm_ext_iff_of_nodup (hl.nodup h) (hm.nodup h)).2 he)
end
end Go.Proofs.YtgailjhnfghkgaaGreatDoor
end
