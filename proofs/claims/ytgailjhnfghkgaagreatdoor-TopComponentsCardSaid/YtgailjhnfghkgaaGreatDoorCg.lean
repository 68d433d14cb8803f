import Derived.Test.YtgailjhnfghkgaaGreatDoorOrd
import Derived.Test.YtgailjhnfghkgaaGreatDoorMult
section
namespace Go.Proofs.YtgailjhnfghkgaaGreatDoor
open Go Go.AM
set_option maxRecDepth 100000
theorem gS{p:List Int}:bz p↔p.length<=4096/\∀i,i<p.length->dy p i:=by
 unfold bz;rw [fE]
theorem Ds{p:List Int}{i:Nat}(hi:i<p.length)(h:¬dy p i):(BE.lit false).val=(BE.v (decide (bz p))).val:=by
 show false=decide (bz p)
 symm
 rw [decide_eq_false_iff_not,gS];exact λhv=>h (hv.2 i hi)
theorem yX{p:List Int}{i:Nat}(_hi:i<p.length)(hs:∀j,j<i->dy p j)(h:dy p i):∀j,j<i+1->dy p j:=λj hj=>by
 by_cases l4:j<i
 ·exact hs j l4
 ·have:j=i:=aa
  rw [this];exact h
theorem iA{p:List Int}{i:Nat}(hi:i<p.length)(hs:∀j,j<i->dy p j)(h:dy p i):(av (p.take (i+1))).length=if p.getD i 0=(av (p.take i)).length then (av (p.take i)).length+1 else (av (p.take i)).length:=by
 have hf:=fQ (Nat.le_of_lt hi) hs;have hr:=jd hf (p.getD i 0);rw [cU (d:=0) hi,bQ];have h1:=h.1;have h2:=h.2
 by_cases hm:p.getD i 0∈p.take i
 ·rw [ajq hm,ajm]
  have:=(hr.2 hm).2;omega
 ·rw [ajm hm,ajq]
  ·simp
  ·by_cases aX:p.getD i 0<(av (p.take i)).length
   ·exact absurd (hr.1 ⟨h1,aX⟩) hm
   ·omega
theorem fJ(p:List Int):QF 78 [.ro (.ints .i64 p)] (.bool (.v (decide (bz p)))):=fN Tryz.func78 (by decide+kernel) rfl (ah rfl) λ_=>by
 refine ae (λh1=>?_) (λh1=>?_)
 ·refine ae ?_ trivial
  show false=decide (bz p)
  symm
  rw [decide_eq_false_iff_not];exact λhv=>by have:=hv.1;omega
 refine af []<|kF (λ(i:Nat) (c:Nat)=>[(11,.int .i64 i),(3,.int .i64 c)]) (λ_ _=>[]) (λi c=>i<=p.length/\c=(av (p.take i)).length/\∀j,j<i->dy p j) (λi _=>p.length - i) 0 0 ⟨ajk _,by simp [av],λj hj=>absurd hj (aju _)⟩ ab ?_
 rintro i c ⟨hi,hc,hs⟩;refine ae (λh1=>?_) (λh1=>?_)
 ·have bD:i<p.length:=aa
  refine aj ?_;refine ae (λh2=>?_) (λh2=>?_)
  ·refine ae ?_ trivial
   have h2:p.getD i 0<0:=h2;exact Ds bD λh=>by have:=h.1;omega
  refine ae (λh3=>?_) (λh3=>?_)
  ·refine ae ?_ trivial
   have h3:(c:Int)<p.getD i 0:=h3;exact Ds bD λh=>by have:=h.2;omega
  have h2:0<=p.getD i 0:=h2;have h3:p.getD i 0<=(c:Int):=h3;have aY:dy p i:=⟨h2,by rw [<-hc];exact h3⟩;have Te:=iA bD hs aY
  have hle:c<=p.length:=by
   have:=bp (p.take i);rw [ajA]at this;omega
  refine ae (λh4=>?_) (λh4=>?_)
  ·have h4:p.getD i 0=(c:Int):=h4
   refine aj ?_;refine aj ?_;refine nx (i+1,c+1) ⟨aa,?_,yX bD hs aY⟩ (show p.length - (i+1)<p.length - i by omega) ab;rw [Te,ajq (by rw [h4,hc]),hc]
  ·have h4:p.getD i 0≠(c:Int):=h4
   refine aj ?_;refine nx (i+1,c) ⟨aa,?_,yX bD hs aY⟩ (show p.length - (i+1)<p.length - i by omega) ab;rw [Te,ajm (by rw [<-hc];exact h4),hc]
 ·refine ae ?_ trivial
  show true=decide (bz p)
  symm
  rw [decide_eq_true_eq,gS];exact⟨aa,λj hj=>hs j aa⟩
structure eU{α:Type}[DecidableEq α](key:α->List Int)(d:α)(p:List α)(i:Nat)(q:List Int)(m:List (List Int × Int)):Prop where
 le:i<=p.length
 len:q.length=p.length
 map:m=mapOf key 0 (av (p.take i))
 val:∀j,j<i->q.getD j 0=(canon p).getD j 0
section
variable{α:Type}[DecidableEq α]{key:α->List Int}{d:α}{p:List α}{i:Nat}{q:List Int}{m:List (List Int × Int)}
theorem eU.start:eU key d p 0 (List.replicate p.length 0) []:=⟨ajk _,by simp,by simp [av,mapOf],λj hj=>absurd hj (aju _)⟩
theorem eU.XE(h:eU key d p i q m):m.length=(av (p.take i)).length:=by rw [h.map,qY]
theorem eU.mle(h:eU key d p i q m):m.length<=p.length:=by
 rw [h.XE];have:=bp (p.take i);rw [ajA]at this;omega
theorem eU.next(h:eU key d p i q m)(hi:i<p.length){v:Int}{m':List (List Int × Int)}(hm:m'=mapOf key 0 (av (p.take (i+1))))(hv:v=(canon p).getD i 0):eU key d p (i+1) (q.set i v) m':=
 ⟨aa,by rw [ajv];exact h.len,hm,λj hj=>by
  by_cases l4:j=i
  ·subst l4;rw [aB (by rw [h.len];exact hi),hv]
  ·rw [getD_set_ne (Ne.symm l4)];exact h.val j aa⟩
theorem eU.Th(hk:∀a b,key a=key b->a=b)(h:eU key d p i q m)(hi:i<p.length)(hn:(!(getM m (key (p.getD i d))).isSome)=true):
  lA m (key (p.getD i d)) m.length=mapOf key 0 (av (p.take (i+1)))/\(m.length:Int)=(canon p).getD i 0:=by
 have hg:=pB hk (fs:=av (p.take i)) (n:=0) (x:=p.getD i d);rw [<-h.map]at hg;have dF:p.getD i d∉p.take i:=λhm=>by rw [ajq (aL.2 hm)]at hg;rw [hg]at hn;cases hn
 rw [ajm (λhm=>dF (aL.1 hm))]at hg;have xP:=nu (d:=d) hi;rw [ajm dF]at xP;refine⟨?_,by rw [xP,h.XE]⟩;rw [qX hg,cU (d:=d) hi,bQ,ajm dF,FU,h.map,qY]
theorem eU.Ti(hk:∀a b,key a=key b->a=b)(h:eU key d p i q m)(hi:i<p.length)(hn:(!(getM m (key (p.getD i d))).isSome)=false):
  m=mapOf key 0 (av (p.take (i+1)))/\(getM m (key (p.getD i d))).getD 0=(canon p).getD i 0:=by
 have hg:=pB hk (fs:=av (p.take i)) (n:=0) (x:=p.getD i d);rw [<-h.map]at hg
 have lQ:p.getD i d∈p.take i:=by
  by_cases hm:p.getD i d∈p.take i
  ·exact hm
  ·rw [ajm (λh=>hm (aL.1 h))]at hg;rw [hg]at hn;cases hn
 rw [ajq (aL.2 lQ)]at hg;have xP:=nu (d:=d) hi;rw [ajq lQ]at xP;refine⟨by rw [cU (d:=d) hi,bQ,ajq lQ,h.map],by rw [hg,xP];simp⟩
theorem eU.done(h:eU key d p i q m)(hi:p.length<=i):q=canon p:=by
 refine List.ext_getElem (by rw [h.len,bI]) λj h1 h2=>?_;have:=h.val j (by have:=h.len;omega)
 rwa [getD_eq h1,getD_eq h2]at this
end
theorem XF:∀a b:Int,[a]=[b]->a=b:=λa b h=>by cases h;rfl
theorem XG:∀a b:Int × Int,[a.1,a.2]=[b.1,b.2]->a=b:=λa b h=>by
 cases a;cases b;simp at h;simp [h]
theorem yT(p:List Int)(h:p.length<=17592186044416):QF 114 [.ro (.ints .i64 p)] (.new (.ints .i64 (canon p))):=fN Tryz.func114 (by decide+kernel) rfl (ah rfl) λ_=>by
 refine aj ?_;refine aj ?_;refine af []<|BU (λ(i:Nat) (_:List Int) (_:List (List Int × Int))=>[(15,.int .i64 i)]) (λ_ q m=>[(11,.vec 0 (.ints .i64 q) []),(12,.map (.int .i64) (some .i64) m)]) (λi q m=>eU (λx=>[x]) 0 p i q m) (λi _ _=>p.length - i) 0 (List.replicate p.length 0) [] .start ab ?_
 intro i q m H;have hle:=H.le;have hlen:=H.len;have z8:=H.mle;refine ae (λh1=>?_) (λh1=>?_)
 ·have bD:i<p.length:=aa
  refine aj ?_;refine ae (λh2=>?_) (λh2=>?_)
  ·obtain⟨e1,e2⟩:=H.Th XF bD h2
   refine aj ?_;refine aj ?_;refine aj ?_;refine aj ?_;exact nx (i+1,q.set i m.length,_) (H.next bD e1 e2) (show p.length - (i+1)<p.length - i by omega) ab
  ·obtain⟨e1,e2⟩:=H.Ti XF bD h2
   refine aj ?_;refine aj ?_;refine aj ?_;exact nx (i+1,q.set i _,m) (H.next bD e1 e2) (show p.length - (i+1)<p.length - i by omega) ab
 ·refine ae ?_ trivial
  refine aj ?_;rw [H.done aa]
theorem JT(p:List (Int × Int))(h:p.length<=17592186044416):QF 77 [.ro (.aW p)] (.new (.ints .i64 (canon p))):=fN Tryz.func77 (by decide+kernel) rfl (ah rfl) λ_=>by
 refine aj ?_;refine aj ?_;refine af []<|BU (λ(i:Nat) (_:List Int) (_:List (List Int × Int))=>[(15,.int .i64 i)]) (λ_ q m=>[(11,.vec 0 (.ints .i64 q) []),(12,.map (.arr 2 .i64) (some .i64) m)]) (λi q m=>eU (λx=>[x.1,x.2]) (0,0) p i q m) (λi _ _=>p.length - i) 0 (List.replicate p.length 0) [] .start ab ?_
 intro i q m H;have hle:=H.le;have hlen:=H.len;have z8:=H.mle;refine ae (λh1=>?_) (λh1=>?_)
 ·have bD:i<p.length:=aa
  refine aj ?_;refine ae (λh2=>?_) (λh2=>?_)
  ·obtain⟨e1,e2⟩:=H.Th XG bD h2
   refine aj ?_;refine aj ?_;refine aj ?_;refine aj ?_;exact nx (i+1,q.set i m.length,_) (H.next bD e1 e2) (show p.length - (i+1)<p.length - i by omega) ab
  ·obtain⟨e1,e2⟩:=H.Ti XG bD h2
   refine aj ?_;refine aj ?_;refine aj ?_;exact nx (i+1,q.set i _,m) (H.next bD e1 e2) (show p.length - (i+1)<p.length - i by omega) ab
 ·refine ae ?_ trivial
  refine aj ?_;rw [H.done aa]
theorem AX(p:List Int):QF 74 [.ro (.ints .i64 p)] (.new (.ints .i64 (if p.length<=4096 then canon p else []))):=fN Tryz.func74 (by decide+kernel) rfl (ah rfl) λ_=>by
 refine ae (λh1=>?_) (λh1=>?_)
 ·refine ae ?_ trivial
  rw [ajm aa];rfl
 ·refine Or.inl (cq (yT p aa) (ae rfl ag) ?_)
  refine ae ?_ trivial;rw [ajq aa];exact ae rfl rfl
abbrev gI(p q:List Int):Prop:=p.length=q.length/\bz p/\bz q
theorem yw(p q:List Int):QF 76 [.ro (.ints .i64 p),.ro (.ints .i64 q)] (.bool (.v (decide (gI p q)))):=fN Tryz.func76 (by decide+kernel) rfl (ah rfl) λ_=>by
 refine ae (λh1=>?_) (λh1=>?_)
 ·refine Or.inl (cq (fJ p) (ae rfl ag) ?_)
  refine ae (λh2=>?_) (λh2=>?_)
  ·refine Or.inl (cq (fJ q) (ae rfl ag) ?_)
   refine ae ?_ trivial;show decide (bz q)=decide (gI p q);have h2:=ajX h2;have h3:p.length=q.length:=aa;simp [gI,h2,h3]
  ·refine ae ?_ trivial
   show false=decide (gI p q);have h2:=of_decide_eq_false h2;simp [gI,h2]
 ·refine ae ?_ trivial
  show false=decide (gI p q);have h3:p.length≠q.length:=aa;simp [gI,h3]
theorem sE(p:List Int):QF 35 [.ro (.ints .i64 p)] (.int .i64 (if bz p then ao p else 0)):=fN Tryz.func35 (by decide+kernel) rfl (ah rfl) λ_=>by
 refine Or.inl (cq (fJ p) (ae rfl ag) ?_);refine ae (λh1=>?_) (λh1=>?_)
 ·refine ae ?_ trivial
  have h1:¬bz p:=by simpa using h1
  rw [ajm h1];exact rfl
 have hv:bz p:=by simpa using h1
 rw [ajq hv];have cX:=(gS.1 hv).2;have hlen:=hv.1;refine af []<|kF (λ(i:Nat) (c:Nat)=>[(11,.int .i64 i),(3,.int .i64 c)]) (λ_ _=>[]) (λi c=>i<=p.length/\c=(av (p.take i)).length) (λi _=>p.length - i) 0 0 ⟨ajk _,by simp [av]⟩ ab ?_
 rintro i c ⟨hi,hc⟩;refine ae (λh1=>?_) (λh1=>?_)
 ·have bD:i<p.length:=aa
  have hs:=cX i bD;have QN:0<=p.getD i 0:=hs.1;have Pk:p.getD i 0<=(av (p.take i)).length:=hs.2;have Te:=iA bD (λj hj=>cX j aa) hs;have hle:=bp (p.take i);rw [ajA]at hle;refine aj ?_;refine ae (show -9223372036854775808<=p.getD i 0+1/\p.getD i 0+1<=9223372036854775807 by omega) ?_;refine ae (show -9223372036854775808<=(i:Int)+1/\(i:Int)+1<=9223372036854775807 by omega) ?_;refine nx (i+1,(av (p.take (i+1))).length) ⟨aa,rfl⟩ (show p.length - (i+1)<p.length - i by omega) ?_;refine ae (ae rfl ?_) trivial;refine ae ?_ trivial;show max (c:Int) (p.getD i 0+1)=((av (p.take (i+1))).length:Nat);rw [Te];split<;>omega
 ·refine ae ?_ trivial
  show(c:Int)=ao p;have:p.take i=p:=aj4 aa;rw [hc,this];rfl
def sF(p:List Int)(i c:Nat):List Int:=((List.range i).filter λi=>p.getD i 0=(c:Int)).map λ(i:Nat)=>(i:Int)
theorem JU(p:List Int)(c:Nat):sF p 0 c=[]:=rfl
theorem QY(p:List Int)(i c:Nat):(sF p i c).length<=i:=by
 unfold sF;rw [ajS];exact ajW (List.length_filter_le _ _) (by simp)
theorem JV{p:List Int}{i c:Nat}(h:p.getD i 0=c):sF p (i+1) c=sF p i c++[(i:Int)]:=by
 unfold sF;rw [List.range_succ,List.filter_append,List.filter_cons,ajq (by simpa using h)];simp
theorem FV{p:List Int}{i c:Nat}(h:p.getD i 0≠c):sF p (i+1) c=sF p i c:=by
 unfold sF;rw [List.range_succ,List.filter_append,List.filter_cons,ajm (by simpa using h)];simp
theorem JW{p:List Int}{n i:Nat}{l:List (List Int)}(hl:l.length=n)(h:∀k,k<n->l.getD k []=sF p i k)(hi:i=p.length):l=bm n p:=by
 refine List.ext_getElem (by rw [hl,wy]) λj h1 h2=>?_;have:=h j aa;rw [getD_eq h1]at this;rw [this,<-getD_eq (d:=[]) h2,lO aa,hi];rfl
theorem JX{p:List Int}{n i:Nat}{l:List (List Int)}(hl:l.length=n)(h:∀k,k<n->l.getD k []=sF p i k)(hr:0<=p.getD i 0/\p.getD i 0<n):
  ∀k,k<n->(l.set (p.getD i 0).toNat (l.getD (p.getD i 0).toNat []++[(i:Int)])).getD k []=sF p (i+1) k:=λk hk=>by
 by_cases hkc:k=(p.getD i 0).toNat
 ·rw [<-hkc,aB aa,h k hk,JV aa]
 ·rw [getD_set_ne (Ne.symm hkc),h k hk,FV aa]
theorem Tl(p:List Int)(h:¬bz p):QF 151 [.ro (.ints .i64 p)] .ar:=fN Tryz.func151 (by decide+kernel) rfl (ah rfl) λ_=>by
 refine Or.inl (cq (fJ p) (ae rfl ag) ?_);refine ae (λh1=>?_) (λh1=>?_)
 ·exact ae trivial trivial
 ·have:bz p:=by simpa using h1
  exact absurd this h
theorem Ce(p:List Int)(h:bz p):QF 151 [.ro (.ints .i64 p)] (.ro (.rows .i64 (bm (ao p) p))):=fN Tryz.func151 (by decide+kernel) rfl (ah rfl) λ_=>by
 have hlen:=h.1;have UY:∀i,i<p.length->0<=p.getD i 0/\p.getD i 0<ao p:=λi hi=>(kn h.2 _).2 (al hi);have hn:ao p<=p.length:=bp p;refine Or.inl (cq (fJ p) (ae rfl ag) ?_);refine ae (λh1=>?_) (λh1=>?_)
 ·have:¬bz p:=by simpa using h1
  exact absurd h this
 refine Or.inl (cq (sE p) (ae rfl ag) ?_);rw [ajq h];refine aj ?_;refine aj ?_;refine Or.inr (Or.inl ?_);refine af []<|kF (λ(i:Nat) (_:List (List Int))=>[(14,.int .i64 i)]) (λ_ c=>[(11,.deep (.rows .i64 c) none)]) (λi c=>i<=p.length/\c.length=ao p/\∀k,k<ao p->c.getD k []=sF p i k) (λi _=>p.length - i) 0 (List.replicate (ao p) []) ⟨ajk _,by simp,λk hk=>by rw [JU];simp [List.getD,hk]⟩ ab ?_
 rintro i c ⟨hi,hc,hs⟩;refine ae (λh1=>?_) (λh1=>?_)
 ·have bD:i<p.length:=aa
  have hr:=UY i bD;have hle:=QY p i (p.getD i 0).toNat;rw [<-hs (p.getD i 0).toNat aa]at hle;refine aj ?_;refine ae (show 0<=p.getD i 0/\p.getD i 0<(c.length:Int) by omega) ?_;refine ae (show((c.getD (p.getD i 0).toNat []++[(i:Int)]).length:Int)<=17592186044416 by rw [ajp,ajx];omega) ?_;refine ae (show 0<=p.getD i 0/\p.getD i 0<(c.length:Int) by omega) ?_;refine ae rfl ?_;refine ae (show -9223372036854775808<=(i:Int)+1/\(i:Int)+1<=9223372036854775807 by omega) ?_;exact nx (i+1,c.set (p.getD i 0).toNat (c.getD (p.getD i 0).toNat []++[(i:Int)])) ⟨aa,by rw [ajv];exact hc,JX hc hs hr⟩ (show p.length - (i+1)<p.length - i by omega) ab
 ·refine ae ?_ trivial
  refine ae trivial ?_;rw [JW hc hs aa]
theorem MM(p q:List Int):QF 32 [.ro (.ints .i64 p),.ro (.ints .i64 q)] (.new (.ints .i64 (if gI p q then canon (p.zip q) else []))):=fN Tryz.func32 (by decide+kernel) rfl (ah rfl) λ_=>by
 refine Or.inl (cq (yw p q) (ae rfl (ae rfl ag)) ?_);refine ae (λh1=>?_) (λh1=>?_)
 ·have h1:¬gI p q:=λhm=>by rw [aj3 hm]at h1;cases h1
  refine ae ?_ trivial;rw [ajm h1];rfl
 have hm:gI p q:=by
  by_cases hm:gI p q
  ·exact hm
  ·rw [akp hm]at h1;cases h1
 have hlen:=hm.2.1.1;have ZE:=hm.1;rw [ajq hm];refine aj ?_;refine aj ?_;refine af []<|kF (λ(i:Nat) (_:List (Int × Int))=>[(16,.int .i64 i)]) (λ_ l=>[(13,.vec 0 (.aW l) [])]) (λi l=>i<=p.length/\l.length=p.length/\∀j,j<i->l.getD j (0,0)=(p.getD j 0,q.getD j 0)) (λi _=>p.length - i) 0 (List.replicate p.length (0,0)) ⟨ajk _,by simp,λj hj=>absurd hj (aju _)⟩ ab ?_
 rintro i l ⟨hi,hl,hs⟩;refine ae (λh2=>?_) (λh2=>?_)
 ·have bD:i<p.length:=aa
  refine Or.inl<|af (ai 12++[true]) (ae (by decide+kernel) ?_)
  refine aj ?_;refine aj ?_;refine aj ?_;refine aj ?_;refine aj ?_;refine nx (i+1,l.set i (p.getD i 0,q.getD i 0)) ⟨aa,by rw [ajv];exact hl,λj hj=>?_⟩ (show p.length - (i+1)<p.length - i by omega) ab
  by_cases l4:j=i
  ·subst l4;rw [aB aa]
  ·rw [getD_set_ne (Ne.symm l4)];exact hs j aa
 ·have hz:l=p.zip q:=by
   refine List.ext_getElem (by simp [hl,ZE]) λj h1 h2=>?_;have h3:=hs j aa;rw [getD_eq h1,getD_eq aa,getD_eq aa]at h3;rw [h3];simp
  refine Or.inl (cq (JT l aa) (ae rfl ag) ?_);refine ae ?_ trivial;refine ae rfl ?_;rw [hz]
end Go.Proofs.YtgailjhnfghkgaaGreatDoor
end
section
section
namespace Go.Proofs.YtgailjhnfghkgaaGreatDoor
def Ch(t:List (List Int))(p:List Int)(side:Int)(x y s:Nat):Prop:=
 (side≠2->p.getD (en t s x) 0=p.getD (en t s y) 0)/\(side≠1->p.getD (en t x s) 0=p.getD (en t y s) 0)
def Cg(t:List (List Int))(p:List Int)(side:Int):Prop:=∀x y s,x<t.length->y<t.length->s<t.length->p.getD x 0=p.getD y 0->Ch t p side x y s
structure ca(t:List (List Int))(p:List Int)(side:Int):Prop where
 iJ:Semi t
 len:p.length=t.length
 val:bz p
 sd:0<=side/\side<=2
 cg:Cg t p side
noncomputable def IV(t:List (List Int))(p:List Int)(side:Int):Bool:=@decide (ca t p side) (Classical.propDecidable _)
theorem kW{t:List (List Int)}{p:List Int}{side:Int}:IV t p side=true↔ca t p side:=by unfold IV;exact @decide_eq_true_iff _ (Classical.propDecidable _)
theorem yY{t:List (List Int)}{p:List Int}{side:Int}:IV t p side=false↔¬ca t p side:=by unfold IV;exact @decide_eq_false_iff_not _ (Classical.propDecidable _)
theorem Ch.trans{t:List (List Int)}{p:List Int}{side:Int}{x y z s:Nat}(h:Ch t p side x y s)(h':Ch t p side z y s):Ch t p side x z s:=
 ⟨λhs=>(h.1 hs).trans (h'.1 hs).symm,λhs=>(h.2 hs).trans (h'.2 hs).symm⟩
end Go.Proofs.YtgailjhnfghkgaaGreatDoor
end
section
namespace Go.Proofs.YtgailjhnfghkgaaGreatDoor
open Go Go.AM
set_option maxRecDepth 100000
def iT(p:List Int)(i:Nat)(f:List Int):Prop:=f.length=(av (p.take i)).length/\∀c,c<f.length->0<=f.getD c 0/\(f.getD c 0).toNat<i/\p.getD (f.getD c 0).toNat 0=c
theorem pC{p:List Int}{i:Nat}(hi:i<p.length)(aY:∀j,j<p.length->dy p j):(av (p.take (i+1))).length=if p.getD i 0=(av (p.take i)).length then (av (p.take i)).length+1 else (av (p.take i)).length:=
 iA hi (λj hj=>aY j aa) (aY i hi)
theorem tt{p:List Int}(aY:∀j,j<p.length->dy p j):∀{i x:Nat},i<=p.length->x<i->p.getD x 0<((av (p.take i)).length:Int)
 |0,x,_,h=>absurd h (aju _)
 |i+1,x,hi,h=>by
  have h1:=pC hi aY;have h2:=aY i hi
  by_cases e:x=i
  ·subst e
   rw [h1];have:=h2.2;split<;>omega
  ·have:=tt aY (by omega:i<=p.length) (by omega:x<i)
   rw [h1];split<;>omega
theorem iT.eI{p:List Int}{i x:Nat}{f:List Int}(aY:∀j,j<p.length->dy p j)(hi:i<=p.length)(hf:iT p i f)(hx:x<i):(p.getD x 0).toNat<f.length:=by
 have:=tt aY hi hx;have:=(aY x aa).1;rw [hf.1];omega
theorem iT.new{p:List Int}{i:Nat}{f:List Int}(aY:∀j,j<p.length->dy p j)(hi:i<p.length)(hf:iT p i f)(h:p.getD i 0=(f.length:Int)):iT p (i+1) (f++[(i:Int)]):=by
 refine⟨by rw [pC hi aY,ajq (by rw [h,hf.1]),<-hf.1];simp,λc hc=>?_⟩
 by_cases e:c<f.length
 ·have h1:=hf.2 c e
  have h2:(f++[(i:Int)]).getD c 0=f.getD c 0:=by simp [List.getD,List.getElem?_append_left e]
  rw [h2];exact⟨h1.1,aa,h1.2.2⟩
 ·have h1:c=f.length:=by simp at hc;omega
  subst h1;have h2:(f++[(i:Int)]).getD f.length 0=i:=by simp [List.getD]
  rw [h2];exact⟨aa,aa,by rw [ajr,h]⟩
theorem iT.same{p:List Int}{i:Nat}{f:List Int}(aY:∀j,j<p.length->dy p j)(hi:i<p.length)(hf:iT p i f)(h:¬p.getD i 0=(f.length:Int)):iT p (i+1) f:=by
 refine⟨by rw [pC hi aY,ajm (by rw [<-hf.1];exact h),<-hf.1],λc hc=>?_⟩;have h1:=hf.2 c hc;exact⟨h1.1,aa,h1.2.2⟩
theorem yZ{l m:List Int}{k:Nat}(h:k<l.length):(l++m).getD k 0=l.getD k 0:=by simp [List.getD,List.getElem?_append_left h]
set_option maxHeartbeats 2000000 in
theorem XH(t:List (List Int))(p:List Int)(side:Int)(hl:p.length<=140737488355328):P7 TY SP Tryz.f34 [.ro (.rows .i64 t),.ro (.ints .i64 p),.int .i64 side] (.bool (.v (IV t p side))):=by
 have no:¬ca t p side->(BE.lit false).val=(BE.v (IV t p side)).val:=λh=>(yY.2 h).symm;refine ae (λh1=>?_) (λh1=>?_)
 ·refine ae (no λh=>by have:=h.sd;omega) trivial
 refine ae (λh2=>?_) (λh2=>?_)
 ·refine ae (no λh=>by have:=h.sd;omega) trivial
 refine ae (λh3=>?_) (λh3=>?_)
 ·refine ae (no λh=>by have:=h.len;omega) trivial
 refine Or.inl (cq (fJ p) (ae rfl ag) ?_);refine ae (λh4=>?_) (λh4=>?_)
 ·refine ae (no λh=>?_) trivial
  have h4:(!decide (bz p))=true:=h4;rw [aj3 h.val]at h4;cases h4
 refine Or.inl (cq (kV t) (ae rfl ag) ?_);refine ae (λh5=>?_) (λh5=>?_)
 ·refine ae (no λh=>h5 (fx.2 h.iJ)) trivial
 have hs:=fx.1 h5;have oS:=hs.toSh;have ko:=hs.most;have yb:bz p:=by simpa using h4
 have hlen:p.length=t.length:=aa;have aY:=(gS.1 yb).2;refine af []<|kF (λ(i:Nat) (f:List Int)=>[(37,.int .i64 i),(7,.vec 49)]) (λ_ f=>[(49,.vec 0 (.ints .i64 f) [])]) (λi f=>i<=p.length/\iT p i f/\∀x,x<i->∀s,s<t.length->Ch t p side x (f.getD (p.getD x 0).toNat 0).toNat s) (λi _=>p.length - i) 0 [] ⟨ajk _,⟨rfl,λc hc=>absurd hc (aju _)⟩,λj hj=>absurd hj (aju _)⟩ ab ?_
 rintro i f ⟨hi,hf,ha⟩;refine ae (λh1=>?_) (λh1=>?_)
 ·have bD:i<p.length:=aa
  have yc:i<t.length:=aa;have cX:=aY i bD
  have aay:f.length<=i:=by
   have:=bp (p.take i);rw [ajA]at this;have:=hf.1;omega
  refine aj ?_;refine ae (λh2=>?_) (λh2=>?_)
  ·have h2:p.getD i 0=(f.length:Int):=h2
   have Hp:(f++[(i:Int)]).length=f.length+1:=by simp
   have xP:(f++[(i:Int)]).getD (p.getD i 0).toNat 0=i:=by
    rw [h2,ajr];simp [List.getD]
   have hn:=iT.new aY bD hf h2;refine aj ?_;refine ae (show 0<=p.getD i 0/\p.getD i 0<((f++[(i:Int)]).length:Int) by omega) ?_;have hy:0<=(f++[(i:Int)]).getD (p.getD i 0).toNat 0/\(f++[(i:Int)]).getD (p.getD i 0).toNat 0<(t.length:Int):=by rw [xP];omega
   have MX:p.getD ((f++[(i:Int)]).getD (p.getD i 0).toNat 0).toNat 0=p.getD i 0:=by rw [xP,ajr]
   have hold:∀x,x<i->(f++[(i:Int)]).getD (p.getD x 0).toNat 0=f.getD (p.getD x 0).toNat 0:=λx hx=>by
    have:=iT.eI aY aa hf hx;exact yZ this
   have wz:((f++[(i:Int)]).getD (p.getD i 0).toNat 0).toNat<t.length:=aa;refine af []<|lp (X:=Nat) (λs=>[(56,.int .i64 s)]) (λ_=>[(49,.vec 0 (.ints .i64 (f++[(i:Int)])) [])]) (λs=>s<=t.length/\∀s',s'<s->Ch t p side i ((f++[(i:Int)]).getD (p.getD i 0).toNat 0).toNat s') (λs=>t.length - s) 0 ⟨ajk _,λj hj=>absurd hj (aju _)⟩ ab ?_
   rintro s ⟨Wi,IZ⟩;refine ae (λh6=>?_) (λh6=>?_)
   ·have gv:s<t.length:=aa
    have e1:=oS.bF gv yc;have e2:=oS.bF gv wz;have e3:=oS.bF yc gv;have e4:=oS.bF wz gv;have r1:=oS.len gv;have r2:=oS.len yc;have r3:=oS.len wz
    have nxt:Ch t p side i ((f++[(i:Int)]).getD (p.getD i 0).toNat 0).toNat s->s+1<=t.length/\∀s',s'<s+1->Ch t p side i ((f++[(i:Int)]).getD (p.getD i 0).toNat 0).toNat s':=λhc=>⟨aa,λs' xU=>by
     by_cases e:s'=s
     ·subst e;exact hc
     ·exact IZ s' aa⟩
    have bad1:side≠2->p.getD (en t s i) 0≠p.getD (en t s ((f++[(i:Int)]).getD (p.getD i 0).toNat 0).toNat) 0->¬ca t p side:=λg1 g2 h=>g2 ((h.cg i _ s yc wz gv MX.symm).1 g1);have bad2:side≠1->p.getD (en t i s) 0≠p.getD (en t ((f++[(i:Int)]).getD (p.getD i 0).toNat 0).toNat s) 0->¬ca t p side:=λg1 g2 h=>g2 ((h.cg i _ s yc wz gv MX.symm).2 g1);refine Or.inl ?_;refine af (List.replicate 52 false) (ae (by decide+kernel) ?_);refine ae (λh7=>?_) (λh7=>?_)
    ·refine aj ?_
     refine ae (show 0<=(i:Int)/\(i:Int)<((t.getD s []).length:Int) by omega) ?_;refine ae (show 0<=(t.getD s []).getD i 0/\(t.getD s []).getD i 0<(p.length:Int) by omega) ?_;refine aj ?_;refine ae (show 0<=(f++[(i:Int)]).getD (p.getD i 0).toNat 0/\(f++[(i:Int)]).getD (p.getD i 0).toNat 0<((t.getD s []).length:Int) by omega) ?_;refine ae (show 0<=(t.getD s []).getD ((f++[(i:Int)]).getD (p.getD i 0).toNat 0).toNat 0/\(t.getD s []).getD ((f++[(i:Int)]).getD (p.getD i 0).toNat 0).toNat 0<(p.length:Int) by omega) ?_;refine ae (λh8=>?_) (λh8=>?_)
     ·refine ae (no (bad1 h7 h8)) trivial
     refine ae (λh9=>?_) (λh9=>?_)
     ·refine aj ?_
      refine ae (show 0<=(s:Int)/\(s:Int)<((t.getD i []).length:Int) by omega) ?_;refine ae (show 0<=(t.getD i []).getD s 0/\(t.getD i []).getD s 0<(p.length:Int) by omega) ?_;refine ae hy ?_;refine ae (show 0<=(s:Int)/\(s:Int)<((t.getD ((f++[(i:Int)]).getD (p.getD i 0).toNat 0).toNat []).length:Int) by omega) ?_;refine ae (show 0<=(t.getD ((f++[(i:Int)]).getD (p.getD i 0).toNat 0).toNat []).getD s 0/\(t.getD ((f++[(i:Int)]).getD (p.getD i 0).toNat 0).toNat []).getD s 0<(p.length:Int) by omega) ?_;refine ae (λcA=>?_) (λcA=>?_)
      ·refine ae (no (bad2 h9 cA)) trivial
      refine aj ?_;exact nx (s+1) (nxt ⟨λ_=>h8,λ_=>cA⟩) (show t.length - (s+1)<t.length - s by omega) ab
     ·refine aj ?_
      exact nx (s+1) (nxt ⟨λ_=>h8,λg=>absurd h9 g⟩) (show t.length - (s+1)<t.length - s by omega) ab
    ·refine ae (λh9=>?_) (λh9=>?_)
     ·refine aj ?_
      refine ae (show 0<=(s:Int)/\(s:Int)<((t.getD i []).length:Int) by omega) ?_;refine ae (show 0<=(t.getD i []).getD s 0/\(t.getD i []).getD s 0<(p.length:Int) by omega) ?_;refine ae hy ?_;refine ae (show 0<=(s:Int)/\(s:Int)<((t.getD ((f++[(i:Int)]).getD (p.getD i 0).toNat 0).toNat []).length:Int) by omega) ?_;refine ae (show 0<=(t.getD ((f++[(i:Int)]).getD (p.getD i 0).toNat 0).toNat []).getD s 0/\(t.getD ((f++[(i:Int)]).getD (p.getD i 0).toNat 0).toNat []).getD s 0<(p.length:Int) by omega) ?_;refine ae (λcA=>?_) (λcA=>?_)
      ·refine ae (no (bad2 h9 cA)) trivial
      refine aj ?_;exact nx (s+1) (nxt ⟨λg=>absurd h7 g,λ_=>cA⟩) (show t.length - (s+1)<t.length - s by omega) ab
     ·exact absurd (h7.symm.trans h9) (by decide)
   ·refine aj ?_
    refine nx (i+1,(f++[(i:Int)])) ⟨aa,hn,λx hx s' xU=>?_⟩ (show p.length - (i+1)<p.length - i by omega) ab
    by_cases e:x=i
    ·subst e;exact IZ s' aa
    ·rw [hold x aa];exact ha x aa s' xU
  ·have h2:¬p.getD i 0=(f.length:Int):=h2
   have hn:=iT.same aY bD hf h2;have aX:(p.getD i 0).toNat<f.length:=by have:=hf.1;have:=cX.1;have:=cX.2;omega
   have h1y:=hf.2 _ aX;refine ae (show 0<=p.getD i 0/\p.getD i 0<(f.length:Int) by have:=cX.1;omega) ?_;have hy:0<=f.getD (p.getD i 0).toNat 0/\f.getD (p.getD i 0).toNat 0<(t.length:Int):=aa;have MX:p.getD (f.getD (p.getD i 0).toNat 0).toNat 0=p.getD i 0:=by have:=cX.1;rw [h1y.2.2];omega
   have hold:∀x,x<i->f.getD (p.getD x 0).toNat 0=f.getD (p.getD x 0).toNat 0:=λ_ _=>rfl;have wz:(f.getD (p.getD i 0).toNat 0).toNat<t.length:=aa;refine af []<|lp (X:=Nat) (λs=>[(56,.int .i64 s)]) (λ_=>[(49,.vec 0 (.ints .i64 f) [])]) (λs=>s<=t.length/\∀s',s'<s->Ch t p side i (f.getD (p.getD i 0).toNat 0).toNat s') (λs=>t.length - s) 0 ⟨ajk _,λj hj=>absurd hj (aju _)⟩ ab ?_
   rintro s ⟨Wi,IZ⟩;refine ae (λh6=>?_) (λh6=>?_)
   ·have gv:s<t.length:=aa
    have e1:=oS.bF gv yc;have e2:=oS.bF gv wz;have e3:=oS.bF yc gv;have e4:=oS.bF wz gv;have r1:=oS.len gv;have r2:=oS.len yc;have r3:=oS.len wz
    have nxt:Ch t p side i (f.getD (p.getD i 0).toNat 0).toNat s->s+1<=t.length/\∀s',s'<s+1->Ch t p side i (f.getD (p.getD i 0).toNat 0).toNat s':=λhc=>⟨aa,λs' xU=>by
     by_cases e:s'=s
     ·subst e;exact hc
     ·exact IZ s' aa⟩
    have bad1:side≠2->p.getD (en t s i) 0≠p.getD (en t s (f.getD (p.getD i 0).toNat 0).toNat) 0->¬ca t p side:=λg1 g2 h=>g2 ((h.cg i _ s yc wz gv MX.symm).1 g1);have bad2:side≠1->p.getD (en t i s) 0≠p.getD (en t (f.getD (p.getD i 0).toNat 0).toNat s) 0->¬ca t p side:=λg1 g2 h=>g2 ((h.cg i _ s yc wz gv MX.symm).2 g1);refine Or.inl ?_;refine af (List.replicate 52 false) (ae (by decide+kernel) ?_);refine ae (λh7=>?_) (λh7=>?_)
    ·refine aj ?_
     refine ae (show 0<=(i:Int)/\(i:Int)<((t.getD s []).length:Int) by omega) ?_;refine ae (show 0<=(t.getD s []).getD i 0/\(t.getD s []).getD i 0<(p.length:Int) by omega) ?_;refine aj ?_;refine ae (show 0<=f.getD (p.getD i 0).toNat 0/\f.getD (p.getD i 0).toNat 0<((t.getD s []).length:Int) by omega) ?_;refine ae (show 0<=(t.getD s []).getD (f.getD (p.getD i 0).toNat 0).toNat 0/\(t.getD s []).getD (f.getD (p.getD i 0).toNat 0).toNat 0<(p.length:Int) by omega) ?_;refine ae (λh8=>?_) (λh8=>?_)
     ·refine ae (no (bad1 h7 h8)) trivial
     refine ae (λh9=>?_) (λh9=>?_)
     ·refine aj ?_
      refine ae (show 0<=(s:Int)/\(s:Int)<((t.getD i []).length:Int) by omega) ?_;refine ae (show 0<=(t.getD i []).getD s 0/\(t.getD i []).getD s 0<(p.length:Int) by omega) ?_;refine ae hy ?_;refine ae (show 0<=(s:Int)/\(s:Int)<((t.getD (f.getD (p.getD i 0).toNat 0).toNat []).length:Int) by omega) ?_;refine ae (show 0<=(t.getD (f.getD (p.getD i 0).toNat 0).toNat []).getD s 0/\(t.getD (f.getD (p.getD i 0).toNat 0).toNat []).getD s 0<(p.length:Int) by omega) ?_;refine ae (λcA=>?_) (λcA=>?_)
      ·refine ae (no (bad2 h9 cA)) trivial
      refine aj ?_;exact nx (s+1) (nxt ⟨λ_=>h8,λ_=>cA⟩) (show t.length - (s+1)<t.length - s by omega) ab
     ·refine aj ?_
      exact nx (s+1) (nxt ⟨λ_=>h8,λg=>absurd h9 g⟩) (show t.length - (s+1)<t.length - s by omega) ab
    ·refine ae (λh9=>?_) (λh9=>?_)
     ·refine aj ?_
      refine ae (show 0<=(s:Int)/\(s:Int)<((t.getD i []).length:Int) by omega) ?_;refine ae (show 0<=(t.getD i []).getD s 0/\(t.getD i []).getD s 0<(p.length:Int) by omega) ?_;refine ae hy ?_;refine ae (show 0<=(s:Int)/\(s:Int)<((t.getD (f.getD (p.getD i 0).toNat 0).toNat []).length:Int) by omega) ?_;refine ae (show 0<=(t.getD (f.getD (p.getD i 0).toNat 0).toNat []).getD s 0/\(t.getD (f.getD (p.getD i 0).toNat 0).toNat []).getD s 0<(p.length:Int) by omega) ?_;refine ae (λcA=>?_) (λcA=>?_)
      ·refine ae (no (bad2 h9 cA)) trivial
      refine aj ?_;exact nx (s+1) (nxt ⟨λg=>absurd h7 g,λ_=>cA⟩) (show t.length - (s+1)<t.length - s by omega) ab
     ·exact absurd (h7.symm.trans h9) (by decide)
   ·refine aj ?_
    refine nx (i+1,f) ⟨aa,hn,λx hx s' xU=>?_⟩ (show p.length - (i+1)<p.length - i by omega) ab
    by_cases e:x=i
    ·subst e;exact IZ s' aa
    ·rw [hold x aa];exact ha x aa s' xU
 ·refine ae ?_ trivial
  have Mx:i=p.length:=aa;subst Mx;refine(kW.2 ⟨hs,hlen,yb,⟨aa,aa⟩,λx y s hx hy gv uB=>?_⟩).symm;have h1:=ha x aa s gv;have h2:=ha y aa s gv;rw [uB]at h1;exact h1.trans h2
theorem UZ(t:List (List Int))(p:List Int)(side:Int):QF 34 [.ro (.rows .i64 t),.ro (.ints .i64 p),.int .i64 side] (.bool (.v (IV t p side))):=fN Tryz.func34 (by decide+kernel) rfl (ah rfl) λhf=>XH t p side hf.2.1.1
end Go.Proofs.YtgailjhnfghkgaaGreatDoor
end
end
