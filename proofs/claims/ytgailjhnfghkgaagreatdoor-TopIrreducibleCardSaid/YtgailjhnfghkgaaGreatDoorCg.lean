import Derived.Test.YtgailjhnfghkgaaGreatDoorOrd
import Derived.Test.YtgailjhnfghkgaaGreatDoorMult
section
namespace Go.Proofs.YtgailjhnfghkgaaGreatDoor
open Go Go.AM
set_option maxRecDepth 100000
theorem gG{p:List Int}:bp p↔p.length<=4096/\∀i,i<p.length->dm p i:=by
 unfold bp;rw [fu]
theorem Ct{p:List Int}{i:Nat}(hi:i<p.length)(h:¬dm p i):(BE.lit false).val=(BE.v (decide (bp p))).val:=by
 show false=decide (bp p)
 symm
 rw [decide_eq_false_iff_not,gG];exact λ hv=>h (hv.2 i hi)
theorem yp{p:List Int}{i:Nat}(_hi:i<p.length)(hs:∀j,j<i->dm p j)(h:dm p i):∀j,j<i+1->dm p j:=λ j hj=>by
 by_cases lL:j<i
 ·exact hs j lL
 ·have:j=i:=aa
  rw [this];exact h
theorem ib{p:List Int}{i:Nat}(hi:i<p.length)(hs:∀j,j<i->dm p j)(h:dm p i):(ar (p.take (i+1))).length=if p.getD i 0=(ar (p.take i)).length then (ar (p.take i)).length+1 else (ar (p.take i)).length:=by
 have hf:=fR (Nat.le_of_lt hi) hs;have hr:=iO hf (p.getD i 0);rw [cN (d:=0) hi,bN];have h1:=h.1;have h2:=h.2
 by_cases hm:p.getD i 0∈p.take i
 ·rw [if_pos hm,if_neg]
  have:=(hr.2 hm).2;omega
 ·rw [if_neg hm,if_pos]
  ·simp
  ·by_cases aS:p.getD i 0<(ar (p.take i)).length
   ·exact absurd (hr.1 ⟨h1,aS⟩) hm
   ·omega
theorem fA(p:List Int):QF 78 [.ro (.ints .i64 p)] (.bool (.v (decide (bp p)))):=kr Tryz.func78 (by decide+kernel) rfl (ah rfl) λ _=>by
 refine ae (λ h1=>?_) (λ h1=>?_)
 ·refine ae ?_ trivial
  show false=decide (bp p)
  symm
  rw [decide_eq_false_iff_not];exact λ hv=>by have:=hv.1;omega
 refine af []<|lA (λ(i:Nat) (c:Nat)=>[(11,.int .i64 i),(3,.int .i64 c)]) (λ _ _=>[]) (λ i c=>i<=p.length/\c=(ar (p.take i)).length/\∀j,j<i->dm p j) (λ i _=>p.length - i) 0 0 ⟨Nat.zero_le _,by simp [ar],λ j hj=>absurd hj (Nat.not_lt_zero _)⟩ ab ?_
 rintro i c ⟨hi,hc,hs⟩;refine ae (λ h1=>?_) (λ h1=>?_)
 ·have bL:i<p.length:=aa
  refine ae aa ?_;refine ae (λ h2=>?_) (λ h2=>?_)
  ·refine ae ?_ trivial
   have h2:p.getD i 0<0:=h2;exact Ct bL λ h=>by have:=h.1;omega
  refine ae (λ h3=>?_) (λ h3=>?_)
  ·refine ae ?_ trivial
   have h3:(c:Int)<p.getD i 0:=h3;exact Ct bL λ h=>by have:=h.2;omega
  have h2:0<=p.getD i 0:=h2;have h3:p.getD i 0<=(c:Int):=h3;have aU:dm p i:=⟨h2,by rw [<-hc];exact h3⟩;have Rr:=ib bL hs aU
  have hle:c<=p.length:=by
   have:=aZ (p.take i);rw [List.length_take]at this;omega
  refine ae (λ h4=>?_) (λ h4=>?_)
  ·have h4:p.getD i 0=(c:Int):=h4
   refine ae aa ?_;refine ae aa ?_;refine nx (i+1,c+1) ⟨aa,?_,yp bL hs aU⟩ (show p.length - (i+1)<p.length - i by omega) ab;rw [Rr,if_pos (by rw [h4,hc]),hc]
  ·have h4:p.getD i 0≠(c:Int):=h4
   refine ae aa ?_;refine nx (i+1,c) ⟨aa,?_,yp bL hs aU⟩ (show p.length - (i+1)<p.length - i by omega) ab;rw [Rr,if_neg (by rw [<-hc];exact h4),hc]
 ·refine ae ?_ trivial
  show true=decide (bp p)
  symm
  rw [decide_eq_true_eq,gG];exact⟨aa,λ j hj=>hs j aa⟩
structure eE{α:Type}[DecidableEq α](key:α->List Int)(d:α)(p:List α)(i:Nat)(q:List Int)(m:List (List Int × Int)):Prop where
 le:i<=p.length
 len:q.length=p.length
 map:m=mapOf key 0 (ar (p.take i))
 val:∀j,j<i->q.getD j 0=(canon p).getD j 0
section
variable{α:Type}[DecidableEq α]{key:α->List Int}{d:α}{p:List α}{i:Nat}{q:List Int}{m:List (List Int × Int)}
theorem eE.start:eE key d p 0 (List.replicate p.length 0) []:=⟨Nat.zero_le _,by simp,by simp [ar,mapOf],λ j hj=>absurd hj (Nat.not_lt_zero _)⟩
theorem eE.V8(h:eE key d p i q m):m.length=(ar (p.take i)).length:=by rw [h.map,qt]
theorem eE.mle(h:eE key d p i q m):m.length<=p.length:=by
 rw [h.V8];have:=aZ (p.take i);rw [List.length_take]at this;omega
theorem eE.next(h:eE key d p i q m)(hi:i<p.length){v:Int}{m':List (List Int × Int)}(hm:m'=mapOf key 0 (ar (p.take (i+1))))(hv:v=(canon p).getD i 0):eE key d p (i+1) (q.set i v) m':=
 ⟨aa,by rw [List.length_set];exact h.len,hm,λ j hj=>by
  by_cases lL:j=i
  ·subst lL;rw [aA (by rw [h.len];exact hi),hv]
  ·rw [getD_set_ne (Ne.symm lL)];exact h.val j aa⟩
theorem eE.Rs(hk:∀a b,key a=key b->a=b)(h:eE key d p i q m)(hi:i<p.length)(hn:(!(getM m (key (p.getD i d))).isSome)=true):
  kI m (key (p.getD i d)) m.length=mapOf key 0 (ar (p.take (i+1)))/\(m.length:Int)=(canon p).getD i 0:=by
 have hg:=o7 hk (fs:=ar (p.take i)) (n:=0) (x:=p.getD i d);rw [<-h.map]at hg;have dA:p.getD i d∉p.take i:=λ hm=>by rw [if_pos (aE.2 hm)]at hg;rw [hg]at hn;cases hn
 rw [if_neg (λ hm=>dA (aE.1 hm))]at hg;have xh:=m6 (d:=d) hi;rw [if_neg dA]at xh;refine⟨?_,by rw [xh,h.V8]⟩;rw [qs hg,cN (d:=d) hi,bN,if_neg dA,EU,h.map,qt]
theorem eE.Rt(hk:∀a b,key a=key b->a=b)(h:eE key d p i q m)(hi:i<p.length)(hn:(!(getM m (key (p.getD i d))).isSome)=false):
  m=mapOf key 0 (ar (p.take (i+1)))/\(getM m (key (p.getD i d))).getD 0=(canon p).getD i 0:=by
 have hg:=o7 hk (fs:=ar (p.take i)) (n:=0) (x:=p.getD i d);rw [<-h.map]at hg
 have j9:p.getD i d∈p.take i:=by
  by_cases hm:p.getD i d∈p.take i
  ·exact hm
  ·rw [if_neg (λ h=>hm (aE.1 h))]at hg;rw [hg]at hn;cases hn
 rw [if_pos (aE.2 j9)]at hg;have xh:=m6 (d:=d) hi;rw [if_pos j9]at xh;refine⟨by rw [cN (d:=d) hi,bN,if_pos j9,h.map],by rw [hg,xh];simp⟩
theorem eE.done(h:eE key d p i q m)(hi:p.length<=i):q=canon p:=by
 refine List.ext_getElem (by rw [h.len,bD]) λ j h1 h2=>?_;have:=h.val j (by have:=h.len;omega)
 rwa [getD_eq h1,getD_eq h2]at this
end
theorem V9:∀a b:Int,[a]=[b]->a=b:=λ a b h=>by cases h;rfl
theorem Wa:∀a b:Int × Int,[a.1,a.2]=[b.1,b.2]->a=b:=λ a b h=>by
 cases a;cases b;simp at h;simp [h]
theorem yi(p:List Int)(h:p.length<=17592186044416):QF 114 [.ro (.ints .i64 p)] (.new (.ints .i64 (canon p))):=kr Tryz.func114 (by decide+kernel) rfl (ah rfl) λ _=>by
 refine ae aa ?_;refine ae aa ?_;refine af []<|A9 (λ(i:Nat) (_:List Int) (_:List (List Int × Int))=>[(15,.int .i64 i)]) (λ _ q m=>[(11,.vec 0 (.ints .i64 q) []),(12,.map (.int .i64) (some .i64) m)]) (λ i q m=>eE (λ x=>[x]) 0 p i q m) (λ i _ _=>p.length - i) 0 (List.replicate p.length 0) [] .start ab ?_
 intro i q m H;have hle:=H.le;have hlen:=H.len;have ze:=H.mle;refine ae (λ h1=>?_) (λ h1=>?_)
 ·have bL:i<p.length:=aa
  refine ae aa ?_;refine ae (λ h2=>?_) (λ h2=>?_)
  ·obtain⟨e1,e2⟩:=H.Rs V9 bL h2
   refine ae aa ?_;refine ae aa ?_;refine ae aa ?_;refine ae aa ?_;exact nx (i+1,q.set i m.length,_) (H.next bL e1 e2) (show p.length - (i+1)<p.length - i by omega) ab
  ·obtain⟨e1,e2⟩:=H.Rt V9 bL h2
   refine ae aa ?_;refine ae aa ?_;refine ae aa ?_;exact nx (i+1,q.set i _,m) (H.next bL e1 e2) (show p.length - (i+1)<p.length - i by omega) ab
 ·refine ae ?_ trivial
  refine ae aa ?_;rw [H.done aa]
theorem IE(p:List (Int × Int))(h:p.length<=17592186044416):QF 77 [.ro (.aT p)] (.new (.ints .i64 (canon p))):=kr Tryz.func77 (by decide+kernel) rfl (ah rfl) λ _=>by
 refine ae aa ?_;refine ae aa ?_;refine af []<|A9 (λ(i:Nat) (_:List Int) (_:List (List Int × Int))=>[(15,.int .i64 i)]) (λ _ q m=>[(11,.vec 0 (.ints .i64 q) []),(12,.map (.arr 2 .i64) (some .i64) m)]) (λ i q m=>eE (λ x=>[x.1,x.2]) (0,0) p i q m) (λ i _ _=>p.length - i) 0 (List.replicate p.length 0) [] .start ab ?_
 intro i q m H;have hle:=H.le;have hlen:=H.len;have ze:=H.mle;refine ae (λ h1=>?_) (λ h1=>?_)
 ·have bL:i<p.length:=aa
  refine ae aa ?_;refine ae (λ h2=>?_) (λ h2=>?_)
  ·obtain⟨e1,e2⟩:=H.Rs Wa bL h2
   refine ae aa ?_;refine ae aa ?_;refine ae aa ?_;refine ae aa ?_;exact nx (i+1,q.set i m.length,_) (H.next bL e1 e2) (show p.length - (i+1)<p.length - i by omega) ab
  ·obtain⟨e1,e2⟩:=H.Rt Wa bL h2
   refine ae aa ?_;refine ae aa ?_;refine ae aa ?_;exact nx (i+1,q.set i _,m) (H.next bL e1 e2) (show p.length - (i+1)<p.length - i by omega) ab
 ·refine ae ?_ trivial
  refine ae aa ?_;rw [H.done aa]
theorem Ag(p:List Int):QF 74 [.ro (.ints .i64 p)] (.new (.ints .i64 (if p.length<=4096 then canon p else []))):=kr Tryz.func74 (by decide+kernel) rfl (ah rfl) λ _=>by
 refine ae (λ h1=>?_) (λ h1=>?_)
 ·refine ae ?_ trivial
  rw [if_neg aa];rfl
 ·refine Or.inl (cq (yi p aa) (ae rfl ag) ?_)
  refine ae ?_ trivial;rw [if_pos aa];exact ae rfl rfl
abbrev gH(p q:List Int):Prop:=p.length=q.length/\bp p/\bp q
theorem yq(p q:List Int):QF 76 [.ro (.ints .i64 p),.ro (.ints .i64 q)] (.bool (.v (decide (gH p q)))):=kr Tryz.func76 (by decide+kernel) rfl (ah rfl) λ _=>by
 refine ae (λ h1=>?_) (λ h1=>?_)
 ·refine Or.inl (cq (fA p) (ae rfl ag) ?_)
  refine ae (λ h2=>?_) (λ h2=>?_)
  ·refine Or.inl (cq (fA q) (ae rfl ag) ?_)
   refine ae ?_ trivial;show decide (bp q)=decide (gH p q);have h2:=of_decide_eq_true h2;have h3:p.length=q.length:=aa;simp [gH,h2,h3]
  ·refine ae ?_ trivial
   show false=decide (gH p q);have h2:=of_decide_eq_false h2;simp [gH,h2]
 ·refine ae ?_ trivial
  show false=decide (gH p q);have h3:p.length≠q.length:=aa;simp [gH,h3]
theorem rU(p:List Int):QF 35 [.ro (.ints .i64 p)] (.int .i64 (if bp p then ak p else 0)):=kr Tryz.func35 (by decide+kernel) rfl (ah rfl) λ _=>by
 refine Or.inl (cq (fA p) (ae rfl ag) ?_);refine ae (λ h1=>?_) (λ h1=>?_)
 ·refine ae ?_ trivial
  have h1:¬bp p:=by simpa using h1
  rw [if_neg h1];exact rfl
 have hv:bp p:=by simpa using h1
 rw [if_pos hv];have c8:=(gG.1 hv).2;have hlen:=hv.1;refine af []<|lA (λ(i:Nat) (c:Nat)=>[(11,.int .i64 i),(3,.int .i64 c)]) (λ _ _=>[]) (λ i c=>i<=p.length/\c=(ar (p.take i)).length) (λ i _=>p.length - i) 0 0 ⟨Nat.zero_le _,by simp [ar]⟩ ab ?_
 rintro i c ⟨hi,hc⟩;refine ae (λ h1=>?_) (λ h1=>?_)
 ·have bL:i<p.length:=aa
  have hs:=c8 i bL;have Pq:0<=p.getD i 0:=hs.1;have N1:p.getD i 0<=(ar (p.take i)).length:=hs.2;have Rr:=ib bL (λ j hj=>c8 j aa) hs;have hle:=aZ (p.take i);rw [List.length_take]at hle;refine ae aa ?_;refine ae (show -9223372036854775808<=p.getD i 0+1/\p.getD i 0+1<=9223372036854775807 by omega) ?_;refine ae (show -9223372036854775808<=(i:Int)+1/\(i:Int)+1<=9223372036854775807 by omega) ?_;refine nx (i+1,(ar (p.take (i+1))).length) ⟨aa,rfl⟩ (show p.length - (i+1)<p.length - i by omega) ?_;refine ae (ae rfl ?_) trivial;refine ae ?_ trivial;show max (c:Int) (p.getD i 0+1)=((ar (p.take (i+1))).length:Nat);rw [Rr];split<;>omega
 ·refine ae ?_ trivial
  show(c:Int)=ak p;have:p.take i=p:=List.take_of_length_le aa;rw [hc,this];rfl
def rV(p:List Int)(i c:Nat):List Int:=((List.range i).filter λ i=>p.getD i 0=(c:Int)).map λ(i:Nat)=>(i:Int)
theorem IF(p:List Int)(c:Nat):rV p 0 c=[]:=rfl
theorem Py(p:List Int)(i c:Nat):(rV p i c).length<=i:=by
 unfold rV;rw [List.length_map];exact Nat.le_trans (List.length_filter_le _ _) (by simp)
theorem IG{p:List Int}{i c:Nat}(h:p.getD i 0=c):rV p (i+1) c=rV p i c++[(i:Int)]:=by
 unfold rV;rw [List.range_succ,List.filter_append,List.filter_cons,if_pos (by simpa using h)];simp
theorem EV{p:List Int}{i c:Nat}(h:p.getD i 0≠c):rV p (i+1) c=rV p i c:=by
 unfold rV;rw [List.range_succ,List.filter_append,List.filter_cons,if_neg (by simpa using h)];simp
theorem IH{p:List Int}{n i:Nat}{l:List (List Int)}(hl:l.length=n)(h:∀k,k<n->l.getD k []=rV p i k)(hi:i=p.length):l=bh n p:=by
 refine List.ext_getElem (by rw [hl,vG]) λ j h1 h2=>?_;have:=h j aa;rw [getD_eq h1]at this;rw [this,<-getD_eq (d:=[]) h2,lP aa,hi];rfl
theorem II{p:List Int}{n i:Nat}{l:List (List Int)}(hl:l.length=n)(h:∀k,k<n->l.getD k []=rV p i k)(hr:0<=p.getD i 0/\p.getD i 0<n):
  ∀k,k<n->(l.set (p.getD i 0).toNat (l.getD (p.getD i 0).toNat []++[(i:Int)])).getD k []=rV p (i+1) k:=λ k hk=>by
 by_cases hkc:k=(p.getD i 0).toNat
 ·rw [<-hkc,aA aa,h k hk,IG aa]
 ·rw [getD_set_ne (Ne.symm hkc),h k hk,EV aa]
theorem Ru(p:List Int)(h:¬bp p):QF 151 [.ro (.ints .i64 p)] .ao:=kr Tryz.func151 (by decide+kernel) rfl (ah rfl) λ _=>by
 refine Or.inl (cq (fA p) (ae rfl ag) ?_);refine ae (λ h1=>?_) (λ h1=>?_)
 ·exact ae trivial trivial
 ·have:bp p:=by simpa using h1
  exact absurd this h
theorem Cu(p:List Int)(h:bp p):QF 151 [.ro (.ints .i64 p)] (.ro (.rows .i64 (bh (ak p) p))):=kr Tryz.func151 (by decide+kernel) rfl (ah rfl) λ _=>by
 have hlen:=h.1;have Tc:∀i,i<p.length->0<=p.getD i 0/\p.getD i 0<ak p:=λ i hi=>(jM h.2 _).2 (an hi);have hn:ak p<=p.length:=aZ p;refine Or.inl (cq (fA p) (ae rfl ag) ?_);refine ae (λ h1=>?_) (λ h1=>?_)
 ·have:¬bp p:=by simpa using h1
  exact absurd h this
 refine Or.inl (cq (rU p) (ae rfl ag) ?_);rw [if_pos h];refine ae aa ?_;refine ae aa ?_;refine Or.inr (Or.inl ?_);refine af []<|lA (λ(i:Nat) (_:List (List Int))=>[(14,.int .i64 i)]) (λ _ c=>[(11,.deep (.rows .i64 c) none)]) (λ i c=>i<=p.length/\c.length=ak p/\∀k,k<ak p->c.getD k []=rV p i k) (λ i _=>p.length - i) 0 (List.replicate (ak p) []) ⟨Nat.zero_le _,by simp,λ k hk=>by rw [IF];simp [List.getD,hk]⟩ ab ?_
 rintro i c ⟨hi,hc,hs⟩;refine ae (λ h1=>?_) (λ h1=>?_)
 ·have bL:i<p.length:=aa
  have hr:=Tc i bL;have hle:=Py p i (p.getD i 0).toNat;rw [<-hs (p.getD i 0).toNat aa]at hle;refine ae aa ?_;refine ae (show 0<=p.getD i 0/\p.getD i 0<(c.length:Int) by omega) ?_;refine ae (show((c.getD (p.getD i 0).toNat []++[(i:Int)]).length:Int)<=17592186044416 by rw [List.length_append,List.length_singleton];omega) ?_;refine ae (show 0<=p.getD i 0/\p.getD i 0<(c.length:Int) by omega) ?_;refine ae rfl ?_;refine ae (show -9223372036854775808<=(i:Int)+1/\(i:Int)+1<=9223372036854775807 by omega) ?_;exact nx (i+1,c.set (p.getD i 0).toNat (c.getD (p.getD i 0).toNat []++[(i:Int)])) ⟨aa,by rw [List.length_set];exact hc,II hc hs hr⟩ (show p.length - (i+1)<p.length - i by omega) ab
 ·refine ae ?_ trivial
  refine ae trivial ?_;rw [IH hc hs aa]
theorem Li(p q:List Int):QF 32 [.ro (.ints .i64 p),.ro (.ints .i64 q)] (.new (.ints .i64 (if gH p q then canon (p.zip q) else []))):=kr Tryz.func32 (by decide+kernel) rfl (ah rfl) λ _=>by
 refine Or.inl (cq (yq p q) (ae rfl (ae rfl ag)) ?_);refine ae (λ h1=>?_) (λ h1=>?_)
 ·have h1:¬gH p q:=λ hm=>by rw [decide_eq_true hm]at h1;cases h1
  refine ae ?_ trivial;rw [if_neg h1];rfl
 have hm:gH p q:=by
  by_cases hm:gH p q
  ·exact hm
  ·rw [decide_eq_false hm]at h1;cases h1
 have hlen:=hm.2.1.1;have Y1:=hm.1;rw [if_pos hm];refine ae aa ?_;refine ae aa ?_;refine af []<|lA (λ(i:Nat) (_:List (Int × Int))=>[(16,.int .i64 i)]) (λ _ l=>[(13,.vec 0 (.aT l) [])]) (λ i l=>i<=p.length/\l.length=p.length/\∀j,j<i->l.getD j (0,0)=(p.getD j 0,q.getD j 0)) (λ i _=>p.length - i) 0 (List.replicate p.length (0,0)) ⟨Nat.zero_le _,by simp,λ j hj=>absurd hj (Nat.not_lt_zero _)⟩ ab ?_
 rintro i l ⟨hi,hl,hs⟩;refine ae (λ h2=>?_) (λ h2=>?_)
 ·have bL:i<p.length:=aa
  refine Or.inl<|af [false,false,false,false,false,false,false,false,false,false,false,false,true] (ae (by decide+kernel) ?_)
  refine ae aa ?_;refine ae aa ?_;refine ae aa ?_;refine ae aa ?_;refine ae aa ?_;refine nx (i+1,l.set i (p.getD i 0,q.getD i 0)) ⟨aa,by rw [List.length_set];exact hl,λ j hj=>?_⟩ (show p.length - (i+1)<p.length - i by omega) ab
  by_cases lL:j=i
  ·subst lL;rw [aA aa]
  ·rw [getD_set_ne (Ne.symm lL)];exact hs j aa
 ·have hz:l=p.zip q:=by
   refine List.ext_getElem (by simp [hl,Y1]) λ j h1 h2=>?_;have h3:=hs j aa;rw [getD_eq h1,getD_eq aa,getD_eq aa]at h3;rw [h3];simp
  refine Or.inl (cq (IE l aa) (ae rfl ag) ?_);refine ae ?_ trivial;refine ae rfl ?_;rw [hz]
end Go.Proofs.YtgailjhnfghkgaaGreatDoor
end
section
section
namespace Go.Proofs.YtgailjhnfghkgaaGreatDoor
def Bt(t:List (List Int))(p:List Int)(side:Int)(x y s:Nat):Prop:=
 (side≠2->p.getD (en t s x) 0=p.getD (en t s y) 0)/\(side≠1->p.getD (en t x s) 0=p.getD (en t y s) 0)
def Cg(t:List (List Int))(p:List Int)(side:Int):Prop:=∀x y s,x<t.length->y<t.length->s<t.length->p.getD x 0=p.getD y 0->Bt t p side x y s
structure cd(t:List (List Int))(p:List Int)(side:Int):Prop where
 kP:Semi t
 len:p.length=t.length
 val:bp p
 sd:0<=side/\side<=2
 cg:Cg t p side
noncomputable def N2(t:List (List Int))(p:List Int)(side:Int):Bool:=@decide (cd t p side) (Classical.propDecidable _)
theorem vH{t:List (List Int)}{p:List Int}{side:Int}:N2 t p side=true↔cd t p side:=by unfold N2;exact @decide_eq_true_iff _ (Classical.propDecidable _)
theorem yr{t:List (List Int)}{p:List Int}{side:Int}:N2 t p side=false↔¬cd t p side:=by unfold N2;exact @decide_eq_false_iff_not _ (Classical.propDecidable _)
theorem Bt.trans{t:List (List Int)}{p:List Int}{side:Int}{x y z s:Nat}(h:Bt t p side x y s)(h':Bt t p side z y s):Bt t p side x z s:=
 ⟨λ hs=>(h.1 hs).trans (h'.1 hs).symm,λ hs=>(h.2 hs).trans (h'.2 hs).symm⟩
end Go.Proofs.YtgailjhnfghkgaaGreatDoor
end
section
namespace Go.Proofs.YtgailjhnfghkgaaGreatDoor
open Go Go.AM
set_option maxRecDepth 100000
def iF(p:List Int)(i:Nat)(f:List Int):Prop:=f.length=(ar (p.take i)).length/\∀c,c<f.length->0<=f.getD c 0/\(f.getD c 0).toNat<i/\p.getD (f.getD c 0).toNat 0=c
theorem o8{p:List Int}{i:Nat}(hi:i<p.length)(aU:∀j,j<p.length->dm p j):(ar (p.take (i+1))).length=if p.getD i 0=(ar (p.take i)).length then (ar (p.take i)).length+1 else (ar (p.take i)).length:=
 ib hi (λ j hj=>aU j aa) (aU i hi)
theorem sK{p:List Int}(aU:∀j,j<p.length->dm p j):∀{i x:Nat},i<=p.length->x<i->p.getD x 0<((ar (p.take i)).length:Int)
 |0,x,_,h=>absurd h (Nat.not_lt_zero _)
 |i+1,x,hi,h=>by
  have h1:=o8 hi aU;have h2:=aU i hi
  by_cases e:x=i
  ·subst e
   rw [h1];have:=h2.2;split<;>omega
  ·have:=sK aU (by omega:i<=p.length) (by omega:x<i)
   rw [h1];split<;>omega
theorem iF.eu{p:List Int}{i x:Nat}{f:List Int}(aU:∀j,j<p.length->dm p j)(hi:i<=p.length)(hf:iF p i f)(hx:x<i):(p.getD x 0).toNat<f.length:=by
 have:=sK aU hi hx;have:=(aU x aa).1;rw [hf.1];omega
theorem iF.new{p:List Int}{i:Nat}{f:List Int}(aU:∀j,j<p.length->dm p j)(hi:i<p.length)(hf:iF p i f)(h:p.getD i 0=(f.length:Int)):iF p (i+1) (f++[(i:Int)]):=by
 refine⟨by rw [o8 hi aU,if_pos (by rw [h,hf.1]),<-hf.1];simp,λ c hc=>?_⟩
 by_cases e:c<f.length
 ·have h1:=hf.2 c e
  have h2:(f++[(i:Int)]).getD c 0=f.getD c 0:=by simp [List.getD,List.getElem?_append_left e]
  rw [h2];exact⟨h1.1,aa,h1.2.2⟩
 ·have h1:c=f.length:=by simp at hc;omega
  subst h1;have h2:(f++[(i:Int)]).getD f.length 0=i:=by simp [List.getD]
  rw [h2];exact⟨aa,aa,by rw [Int.toNat_natCast,h]⟩
theorem iF.same{p:List Int}{i:Nat}{f:List Int}(aU:∀j,j<p.length->dm p j)(hi:i<p.length)(hf:iF p i f)(h:¬p.getD i 0=(f.length:Int)):iF p (i+1) f:=by
 refine⟨by rw [o8 hi aU,if_neg (by rw [<-hf.1];exact h),<-hf.1],λ c hc=>?_⟩;have h1:=hf.2 c hc;exact⟨h1.1,aa,h1.2.2⟩
theorem yt{l m:List Int}{k:Nat}(h:k<l.length):(l++m).getD k 0=l.getD k 0:=by simp [List.getD,List.getElem?_append_left h]
set_option maxHeartbeats 2000000 in
theorem Wb(t:List (List Int))(p:List Int)(side:Int)(hl:p.length<=140737488355328):SS TY SP Tryz.f34 [.ro (.rows .i64 t),.ro (.ints .i64 p),.int .i64 side] (.bool (.v (N2 t p side))):=by
 have no:¬cd t p side->(BE.lit false).val=(BE.v (N2 t p side)).val:=λ h=>(yr.2 h).symm;refine ae (λ h1=>?_) (λ h1=>?_)
 ·refine ae (no λ h=>by have:=h.sd;omega) trivial
 refine ae (λ h2=>?_) (λ h2=>?_)
 ·refine ae (no λ h=>by have:=h.sd;omega) trivial
 refine ae (λ h3=>?_) (λ h3=>?_)
 ·refine ae (no λ h=>by have:=h.len;omega) trivial
 refine Or.inl (cq (fA p) (ae rfl ag) ?_);refine ae (λ h4=>?_) (λ h4=>?_)
 ·refine ae (no λ h=>?_) trivial
  have h4:(!decide (bp p))=true:=h4;rw [decide_eq_true h.val]at h4;cases h4
 refine Or.inl (cq (kU t) (ae rfl ag) ?_);refine ae (λ h5=>?_) (λ h5=>?_)
 ·refine ae (no λ h=>h5 (gI.2 h.kP)) trivial
 have hs:=gI.1 h5;have oC:=hs.toSh;have kT:=hs.most;have Cv:bp p:=by simpa using h4
 have hlen:p.length=t.length:=aa;have aU:=(gG.1 Cv).2;refine af []<|lA (λ(i:Nat) (f:List Int)=>[(37,.int .i64 i),(7,.vec 49)]) (λ _ f=>[(49,.vec 0 (.ints .i64 f) [])]) (λ i f=>i<=p.length/\iF p i f/\∀x,x<i->∀s,s<t.length->Bt t p side x (f.getD (p.getD x 0).toNat 0).toNat s) (λ i _=>p.length - i) 0 [] ⟨Nat.zero_le _,⟨rfl,λ c hc=>absurd hc (Nat.not_lt_zero _)⟩,λ j hj=>absurd hj (Nat.not_lt_zero _)⟩ ab ?_
 rintro i f ⟨hi,hf,ha⟩;refine ae (λ h1=>?_) (λ h1=>?_)
 ·have bL:i<p.length:=aa
  have xB:i<t.length:=aa;have c8:=aU i bL
  have Y2:f.length<=i:=by
   have:=aZ (p.take i);rw [List.length_take]at this;have:=hf.1;omega
  refine ae aa ?_;refine ae (λ h2=>?_) (λ h2=>?_)
  ·have h2:p.getD i 0=(f.length:Int):=h2
   have FP:(f++[(i:Int)]).length=f.length+1:=by simp
   have xh:(f++[(i:Int)]).getD (p.getD i 0).toNat 0=i:=by
    rw [h2,Int.toNat_natCast];simp [List.getD]
   have hn:=iF.new aU bL hf h2;refine ae aa ?_;refine ae (show 0<=p.getD i 0/\p.getD i 0<((f++[(i:Int)]).length:Int) by omega) ?_;have hy:0<=(f++[(i:Int)]).getD (p.getD i 0).toNat 0/\(f++[(i:Int)]).getD (p.getD i 0).toNat 0<(t.length:Int):=by rw [xh];omega
   have Lv:p.getD ((f++[(i:Int)]).getD (p.getD i 0).toNat 0).toNat 0=p.getD i 0:=by rw [xh,Int.toNat_natCast]
   have hold:∀x,x<i->(f++[(i:Int)]).getD (p.getD x 0).toNat 0=f.getD (p.getD x 0).toNat 0:=λ x hx=>by
    have:=iF.eu aU aa hf hx;exact yt this
   have vI:((f++[(i:Int)]).getD (p.getD i 0).toNat 0).toNat<t.length:=aa;refine af []<|lp (X:=Nat) (λ s=>[(56,.int .i64 s)]) (λ _=>[(49,.vec 0 (.ints .i64 (f++[(i:Int)])) [])]) (λ s=>s<=t.length/\∀s',s'<s->Bt t p side i ((f++[(i:Int)]).getD (p.getD i 0).toNat 0).toNat s') (λ s=>t.length - s) 0 ⟨Nat.zero_le _,λ j hj=>absurd hj (Nat.not_lt_zero _)⟩ ab ?_
   rintro s ⟨UR,HM⟩;refine ae (λ h6=>?_) (λ h6=>?_)
   ·have gi:s<t.length:=aa
    have e1:=oC.bA gi xB;have e2:=oC.bA gi vI;have e3:=oC.bA xB gi;have e4:=oC.bA vI gi;have r1:=oC.len gi;have r2:=oC.len xB;have r3:=oC.len vI
    have nxt:Bt t p side i ((f++[(i:Int)]).getD (p.getD i 0).toNat 0).toNat s->s+1<=t.length/\∀s',s'<s+1->Bt t p side i ((f++[(i:Int)]).getD (p.getD i 0).toNat 0).toNat s':=λ hc=>⟨aa,λ s' xo=>by
     by_cases e:s'=s
     ·subst e;exact hc
     ·exact HM s' aa⟩
    have bad1:side≠2->p.getD (en t s i) 0≠p.getD (en t s ((f++[(i:Int)]).getD (p.getD i 0).toNat 0).toNat) 0->¬cd t p side:=λ g1 g2 h=>g2 ((h.cg i _ s xB vI gi Lv.symm).1 g1);have bad2:side≠1->p.getD (en t i s) 0≠p.getD (en t ((f++[(i:Int)]).getD (p.getD i 0).toNat 0).toNat s) 0->¬cd t p side:=λ g1 g2 h=>g2 ((h.cg i _ s xB vI gi Lv.symm).2 g1);refine Or.inl ?_;refine af (List.replicate 52 false) (ae (by decide+kernel) ?_);refine ae (λ h7=>?_) (λ h7=>?_)
    ·refine ae aa ?_
     refine ae (show 0<=(i:Int)/\(i:Int)<((t.getD s []).length:Int) by omega) ?_;refine ae (show 0<=(t.getD s []).getD i 0/\(t.getD s []).getD i 0<(p.length:Int) by omega) ?_;refine ae aa ?_;refine ae (show 0<=(f++[(i:Int)]).getD (p.getD i 0).toNat 0/\(f++[(i:Int)]).getD (p.getD i 0).toNat 0<((t.getD s []).length:Int) by omega) ?_;refine ae (show 0<=(t.getD s []).getD ((f++[(i:Int)]).getD (p.getD i 0).toNat 0).toNat 0/\(t.getD s []).getD ((f++[(i:Int)]).getD (p.getD i 0).toNat 0).toNat 0<(p.length:Int) by omega) ?_;refine ae (λ h8=>?_) (λ h8=>?_)
     ·refine ae (no (bad1 h7 h8)) trivial
     refine ae (λ h9=>?_) (λ h9=>?_)
     ·refine ae aa ?_
      refine ae (show 0<=(s:Int)/\(s:Int)<((t.getD i []).length:Int) by omega) ?_;refine ae (show 0<=(t.getD i []).getD s 0/\(t.getD i []).getD s 0<(p.length:Int) by omega) ?_;refine ae hy ?_;refine ae (show 0<=(s:Int)/\(s:Int)<((t.getD ((f++[(i:Int)]).getD (p.getD i 0).toNat 0).toNat []).length:Int) by omega) ?_;refine ae (show 0<=(t.getD ((f++[(i:Int)]).getD (p.getD i 0).toNat 0).toNat []).getD s 0/\(t.getD ((f++[(i:Int)]).getD (p.getD i 0).toNat 0).toNat []).getD s 0<(p.length:Int) by omega) ?_;refine ae (λ cu=>?_) (λ cu=>?_)
      ·refine ae (no (bad2 h9 cu)) trivial
      refine ae aa ?_;exact nx (s+1) (nxt ⟨λ _=>h8,λ _=>cu⟩) (show t.length - (s+1)<t.length - s by omega) ab
     ·refine ae aa ?_
      exact nx (s+1) (nxt ⟨λ _=>h8,λ g=>absurd h9 g⟩) (show t.length - (s+1)<t.length - s by omega) ab
    ·refine ae (λ h9=>?_) (λ h9=>?_)
     ·refine ae aa ?_
      refine ae (show 0<=(s:Int)/\(s:Int)<((t.getD i []).length:Int) by omega) ?_;refine ae (show 0<=(t.getD i []).getD s 0/\(t.getD i []).getD s 0<(p.length:Int) by omega) ?_;refine ae hy ?_;refine ae (show 0<=(s:Int)/\(s:Int)<((t.getD ((f++[(i:Int)]).getD (p.getD i 0).toNat 0).toNat []).length:Int) by omega) ?_;refine ae (show 0<=(t.getD ((f++[(i:Int)]).getD (p.getD i 0).toNat 0).toNat []).getD s 0/\(t.getD ((f++[(i:Int)]).getD (p.getD i 0).toNat 0).toNat []).getD s 0<(p.length:Int) by omega) ?_;refine ae (λ cu=>?_) (λ cu=>?_)
      ·refine ae (no (bad2 h9 cu)) trivial
      refine ae aa ?_;exact nx (s+1) (nxt ⟨λ g=>absurd h7 g,λ _=>cu⟩) (show t.length - (s+1)<t.length - s by omega) ab
     ·exact absurd (h7.symm.trans h9) (by decide)
   ·refine ae aa ?_
    refine nx (i+1,(f++[(i:Int)])) ⟨aa,hn,λ x hx s' xo=>?_⟩ (show p.length - (i+1)<p.length - i by omega) ab
    by_cases e:x=i
    ·subst e;exact HM s' aa
    ·rw [hold x aa];exact ha x aa s' xo
  ·have h2:¬p.getD i 0=(f.length:Int):=h2
   have hn:=iF.same aU bL hf h2;have aS:(p.getD i 0).toNat<f.length:=by have:=hf.1;have:=c8.1;have:=c8.2;omega
   have Y3:=hf.2 _ aS;refine ae (show 0<=p.getD i 0/\p.getD i 0<(f.length:Int) by have:=c8.1;omega) ?_;have hy:0<=f.getD (p.getD i 0).toNat 0/\f.getD (p.getD i 0).toNat 0<(t.length:Int):=aa;have Lv:p.getD (f.getD (p.getD i 0).toNat 0).toNat 0=p.getD i 0:=by have:=c8.1;rw [Y3.2.2];omega
   have hold:∀x,x<i->f.getD (p.getD x 0).toNat 0=f.getD (p.getD x 0).toNat 0:=λ _ _=>rfl;have vI:(f.getD (p.getD i 0).toNat 0).toNat<t.length:=aa;refine af []<|lp (X:=Nat) (λ s=>[(56,.int .i64 s)]) (λ _=>[(49,.vec 0 (.ints .i64 f) [])]) (λ s=>s<=t.length/\∀s',s'<s->Bt t p side i (f.getD (p.getD i 0).toNat 0).toNat s') (λ s=>t.length - s) 0 ⟨Nat.zero_le _,λ j hj=>absurd hj (Nat.not_lt_zero _)⟩ ab ?_
   rintro s ⟨UR,HM⟩;refine ae (λ h6=>?_) (λ h6=>?_)
   ·have gi:s<t.length:=aa
    have e1:=oC.bA gi xB;have e2:=oC.bA gi vI;have e3:=oC.bA xB gi;have e4:=oC.bA vI gi;have r1:=oC.len gi;have r2:=oC.len xB;have r3:=oC.len vI
    have nxt:Bt t p side i (f.getD (p.getD i 0).toNat 0).toNat s->s+1<=t.length/\∀s',s'<s+1->Bt t p side i (f.getD (p.getD i 0).toNat 0).toNat s':=λ hc=>⟨aa,λ s' xo=>by
     by_cases e:s'=s
     ·subst e;exact hc
     ·exact HM s' aa⟩
    have bad1:side≠2->p.getD (en t s i) 0≠p.getD (en t s (f.getD (p.getD i 0).toNat 0).toNat) 0->¬cd t p side:=λ g1 g2 h=>g2 ((h.cg i _ s xB vI gi Lv.symm).1 g1);have bad2:side≠1->p.getD (en t i s) 0≠p.getD (en t (f.getD (p.getD i 0).toNat 0).toNat s) 0->¬cd t p side:=λ g1 g2 h=>g2 ((h.cg i _ s xB vI gi Lv.symm).2 g1);refine Or.inl ?_;refine af (List.replicate 52 false) (ae (by decide+kernel) ?_);refine ae (λ h7=>?_) (λ h7=>?_)
    ·refine ae aa ?_
     refine ae (show 0<=(i:Int)/\(i:Int)<((t.getD s []).length:Int) by omega) ?_;refine ae (show 0<=(t.getD s []).getD i 0/\(t.getD s []).getD i 0<(p.length:Int) by omega) ?_;refine ae aa ?_;refine ae (show 0<=f.getD (p.getD i 0).toNat 0/\f.getD (p.getD i 0).toNat 0<((t.getD s []).length:Int) by omega) ?_;refine ae (show 0<=(t.getD s []).getD (f.getD (p.getD i 0).toNat 0).toNat 0/\(t.getD s []).getD (f.getD (p.getD i 0).toNat 0).toNat 0<(p.length:Int) by omega) ?_;refine ae (λ h8=>?_) (λ h8=>?_)
     ·refine ae (no (bad1 h7 h8)) trivial
     refine ae (λ h9=>?_) (λ h9=>?_)
     ·refine ae aa ?_
      refine ae (show 0<=(s:Int)/\(s:Int)<((t.getD i []).length:Int) by omega) ?_;refine ae (show 0<=(t.getD i []).getD s 0/\(t.getD i []).getD s 0<(p.length:Int) by omega) ?_;refine ae hy ?_;refine ae (show 0<=(s:Int)/\(s:Int)<((t.getD (f.getD (p.getD i 0).toNat 0).toNat []).length:Int) by omega) ?_;refine ae (show 0<=(t.getD (f.getD (p.getD i 0).toNat 0).toNat []).getD s 0/\(t.getD (f.getD (p.getD i 0).toNat 0).toNat []).getD s 0<(p.length:Int) by omega) ?_;refine ae (λ cu=>?_) (λ cu=>?_)
      ·refine ae (no (bad2 h9 cu)) trivial
      refine ae aa ?_;exact nx (s+1) (nxt ⟨λ _=>h8,λ _=>cu⟩) (show t.length - (s+1)<t.length - s by omega) ab
     ·refine ae aa ?_
      exact nx (s+1) (nxt ⟨λ _=>h8,λ g=>absurd h9 g⟩) (show t.length - (s+1)<t.length - s by omega) ab
    ·refine ae (λ h9=>?_) (λ h9=>?_)
     ·refine ae aa ?_
      refine ae (show 0<=(s:Int)/\(s:Int)<((t.getD i []).length:Int) by omega) ?_;refine ae (show 0<=(t.getD i []).getD s 0/\(t.getD i []).getD s 0<(p.length:Int) by omega) ?_;refine ae hy ?_;refine ae (show 0<=(s:Int)/\(s:Int)<((t.getD (f.getD (p.getD i 0).toNat 0).toNat []).length:Int) by omega) ?_;refine ae (show 0<=(t.getD (f.getD (p.getD i 0).toNat 0).toNat []).getD s 0/\(t.getD (f.getD (p.getD i 0).toNat 0).toNat []).getD s 0<(p.length:Int) by omega) ?_;refine ae (λ cu=>?_) (λ cu=>?_)
      ·refine ae (no (bad2 h9 cu)) trivial
      refine ae aa ?_;exact nx (s+1) (nxt ⟨λ g=>absurd h7 g,λ _=>cu⟩) (show t.length - (s+1)<t.length - s by omega) ab
     ·exact absurd (h7.symm.trans h9) (by decide)
   ·refine ae aa ?_
    refine nx (i+1,f) ⟨aa,hn,λ x hx s' xo=>?_⟩ (show p.length - (i+1)<p.length - i by omega) ab
    by_cases e:x=i
    ·subst e;exact HM s' aa
    ·rw [hold x aa];exact ha x aa s' xo
 ·refine ae ?_ trivial
  have K4:i=p.length:=aa;subst K4;refine(vH.2 ⟨hs,hlen,Cv,⟨aa,aa⟩,λ x y s hx hy gi xl=>?_⟩).symm;have h1:=ha x aa s gi;have h2:=ha y aa s gi;rw [xl]at h1;exact h1.trans h2
theorem Td(t:List (List Int))(p:List Int)(side:Int):QF 34 [.ro (.rows .i64 t),.ro (.ints .i64 p),.int .i64 side] (.bool (.v (N2 t p side))):=kr Tryz.func34 (by decide+kernel) rfl (ah rfl) λ hf=>Wb t p side hf.2.1.1
end Go.Proofs.YtgailjhnfghkgaaGreatDoor
end
end
