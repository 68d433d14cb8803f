import Derived.Test.YtgailjhnfghkgaaGreatDoorEnLaw
section
namespace Go.Proofs.YtgailjhnfghkgaaGreatDoor
open Go Go.AM
structure DV(L s:Nat)(F:List Bool)(N:List (List Int)):Prop where
 l1:1<=L
 l6:L<=6
 tJ:F.length<=512
 nl:N.length=F.length
 st:s<F.length
 row:∀r∈N,r.length=L/\∀q∈r,0<=q/\q<(F.length:Int)
def sg(l:List Int):List (List Int):=l.map λ x=>[x]
theorem AZ{l:List Int}{x:Int}:[x]∈sg l↔x∈l:=by simp [sg]
theorem FC(l:List Int):(sg l).length=l.length:=by simp [sg]
theorem TX(l:List Int)(x:Int):sg (l++[x])=sg l++[[x]]:=by simp [sg]
def tI(l:List Int)(x:Int):Nat:=ff (sg l) [x]
theorem nw{l:List Int}{x:Int}(h:x∈l):tI l x<l.length/\l.getD (tI l x) 0=x:=by
 have h1:=eR (AZ.2 h);rw [FC]at h1;refine⟨h1.1,?_⟩;have h2:(sg l).getD (tI l x) []=[x]:=h1.2;have h3:tI l x<l.length:=h1.1;simp only [sg,List.getD,List.getElem?_map]at h2 ⊢;rw [List.getElem?_eq_getElem h3]at h2 ⊢
 simpa using h2
theorem Ah{l:List Int}{x:Int}:getM (cS (sg l)) [x]=if x∈l then some (tI l x:Int) else none:=by
 rw [di]
 by_cases h:x∈l
 ·rw [if_pos (AZ.2 h),if_pos h];rfl
 ·rw [if_neg (λ h2=>h (AZ.1 h2)),if_neg h]
theorem PH{l:List Int}{x:Int}(h:x∉l):kI (cS (sg l)) [x] (l.length:Int)=cS (sg (l++[x])):=by
 rw [TX,<-rf (λ h2=>h (AZ.1 h2)),FC]
def xC(l:List Int)(x:Int):List Int:=if x∈l then l else l++[x]
def EW(l:List Int)(x:Int):Int:=if x∈l then (tI l x:Int) else (l.length:Int)
def fE(r:List Int)(L:Nat)(l:List Int):Nat->List Int × List Int
 |0=>(l,List.replicate L 0)
 |k+1=>(xC (fE r L l k).1 (r.getD k 0),(fE r L l k).2.set k (EW (fE r L l k).1 (r.getD k 0)))
def Nd(N:List (List Int))(L:Nat)(s:Int):Nat->List Int × List (List Int)
 |0=>([s],[])
 |i+1=>((fE (N.getD ((Nd N L s i).1.getD i 0).toNat []) L (Nd N L s i).1 L).1,(Nd N L s i).2++[(fE (N.getD ((Nd N L s i).1.getD i 0).toNat []) L (Nd N L s i).1 L).2])
structure Nf(n L:Nat)(s:Int)(N:List (List Int))(i:Nat)(l:List Int)(R:List (List Int)):Prop where
 nd:l.Nodup
 w9:∀q∈l,0<=q/\q<(n:Int)
 st:l.getD 0 0=s
 pos:0<l.length
 rl:R.length=i
 le:i<=l.length
 row:∀j,j<i->(R.getD j []).length=L/\∀x,x<L->0<=(R.getD j []).getD x 0/\(R.getD j []).getD x 0<(l.length:Int)/\l.getD ((R.getD j []).getD x 0).toNat 0=(N.getD (l.getD j 0).toNat []).getD x 0
section
variable{n L:Nat}{s:Int}{N:List (List Int)}{i:Nat}{l:List Int}{R:List (List Int)}
theorem Nf.tJ(h:Nf n L s N i l R):l.length<=n:=by
 have:=cv h.nd (B:=cV n) λ q hq=>fQ.2 (h.w9 q hq);rw [bM]at this;exact this
theorem Ng(l:List Int)(x:Int):l.length<=(xC l x).length/\(∀j,j<l.length->(xC l x).getD j 0=l.getD j 0):=by
 unfold xC;split
 ·exact⟨Nat.le_refl _,λ _ _=>rfl⟩
 ·exact⟨by simp,λ j hj=>df hj⟩
theorem T9(l:List Int)(x:Int):0<=EW l x/\EW l x<((xC l x).length:Int)/\(xC l x).getD (EW l x).toNat 0=x:=by
 unfold EW xC;split
 ·rename_i h
  have:=nw h;exact⟨aa,aa,this.2⟩
 ·exact⟨aa,by rw [List.length_append,List.length_singleton];omega,by rw [Int.toNat_natCast];exact kC⟩
theorem Nf.of(h:Nf n L s N i l R){x:Int}(hx:0<=x/\x<(n:Int)):Nf n L s N i (xC l x) R:=by
 have hle:=Ng l x;refine⟨?_,λ q hq=>?_,by rw [hle.2 0 h.pos];exact h.st,Nat.lt_of_lt_of_le h.pos hle.1,h.rl,Nat.le_trans h.le hle.1,λ j hj=>?_⟩
 ·unfold xC
  split
  ·exact h.nd
  ·rename_i c9
   rw [List.nodup_append];exact⟨h.nd,List.pairwise_singleton _ _,λ a ha b hb e=>c9 (by rw [List.mem_singleton]at hb;rw [<-hb,<-e];exact ha)⟩
 ·unfold xC at hq
  split at hq
  ·exact h.w9 q hq
  ·rcases List.mem_append.1 hq with hq|hq
   ·exact h.w9 q hq
   ·rw [List.mem_singleton.1 hq];exact hx
 ·obtain⟨h1,h2⟩:=h.row j hj
  have bL:=h.le;refine⟨h1,λ y hy=>?_⟩;obtain⟨g1,g2,g3⟩:=h2 y hy;have hl:=hle.1;exact⟨g1,aa,by rw [hle.2 _ aa,hle.2 j aa];exact g3⟩
structure ExQ(r:List Int)(L:Nat)(l0:List Int)(k:Nat)(l Q:List Int):Prop where
 ql:Q.length=L
 le:l0.length<=l.length
 eu:∀j,j<l0.length->l.getD j 0=l0.getD j 0
 qv:∀x,x<k->0<=Q.getD x 0/\Q.getD x 0<(l.length:Int)/\l.getD (Q.getD x 0).toNat 0=r.getD x 0
theorem A0{r:List Int}(hr:r.length=L/\∀q∈r,0<=q/\q<(n:Int))(h:Nf n L s N i l R):∀k,k<=L->Nf n L s N i (fE r L l k).1 R/\ExQ r L l k (fE r L l k).1 (fE r L l k).2
 |0,_=>⟨h,by simp [fE],Nat.le_refl _,λ _ _=>rfl,λ x hx=>absurd hx (Nat.not_lt_zero _)⟩
 |k+1,hk=>by
  obtain⟨h1,h2⟩:=A0 hr h k aa;have hx:=hr.2 _ (an (d:=0) (l:=r) (i:=k) aa);have hle:=Ng (fE r L l k).1 (r.getD k 0);have xh:=T9 (fE r L l k).1 (r.getD k 0);have xa:=h2.ql;have Lx:=h2.le;refine⟨h1.of hx,by simp [fE,xa],by show l.length<=(xC _ _).length;omega,λ j hj=>?_,λ x kH=>?_⟩
  ·show(xC _ _).getD j 0=_
   rw [hle.2 j aa];exact h2.eu j hj
  ·show 0<=((fE r L l k).2.set k (EW (fE r L l k).1 (r.getD k 0))).getD x 0/\((fE r L l k).2.set k (EW (fE r L l k).1 (r.getD k 0))).getD x 0<((xC (fE r L l k).1 (r.getD k 0)).length:Int)/\(xC (fE r L l k).1 (r.getD k 0)).getD (((fE r L l k).2.set k (EW (fE r L l k).1 (r.getD k 0))).getD x 0).toNat 0=r.getD x 0
   by_cases e:x=k
   ·subst e
    rw [Ad aa];exact xh
   ·rw [Ae e]
    obtain⟨g1,g2,g3⟩:=h2.qv x aa;exact⟨g1,aa,by rw [hle.2 _ aa];exact g3⟩
theorem Nh(hN:∀r∈N,r.length=L/\∀q∈r,0<=q/\q<(n:Int))(hn:N.length=n)(h:Nf n L s N i l R)(hi:i<l.length):
  Nf n L s N (i+1) (fE (N.getD (l.getD i 0).toNat []) L l L).1 (R++[(fE (N.getD (l.getD i 0).toNat []) L l L).2]):=by
 have hq:=h.w9 _ (an (d:=0) hi);have hr:=hN _ (an (d:=[]) (l:=N) (i:=(l.getD i 0).toNat) aa);obtain⟨h1,h2⟩:=A0 hr h L (Nat.le_refl _);have pA:=h.rl;have Lx:=h2.le;refine⟨h1.nd,h1.w9,h1.st,h1.pos,by rw [List.length_append,pA];rfl,aa,λ j hj=>?_⟩
 by_cases e:j=i
 ·subst e
  have e2:(R++[(fE (N.getD (l.getD j 0).toNat []) L l L).2]).getD j []=(fE (N.getD (l.getD j 0).toNat []) L l L).2:=by rw [<-pA];exact kC
  rw [e2];refine⟨h2.ql,λ x hx=>?_⟩;have:=h2.qv x hx;rw [h2.eu j hi];exact this
 ·rw [df aa]
  exact h1.row j aa
theorem Jo(hs:0<=s/\s<(n:Int)):Nf n L s N 0 [s] []:=
 ⟨List.pairwise_singleton _ _,λ q hq=>by rw [List.mem_singleton.1 hq];exact hs,rfl,Nat.succ_pos _,rfl,Nat.zero_le _,λ j hj=>absurd hj (Nat.not_lt_zero _)⟩
end
def DQ(N:List (List Int))(L:Nat)(s:Int)(i:Nat)(l:List Int)(R:List (List Int)):Prop:=(∀j,j<i->j<(Nd N L s j).1.length)/\Nd N L s i=(l,R)
theorem DQ.ok{L s:Nat}{F:List Bool}{N:List (List Int)}(hd:DV L s F N):∀{i:Nat} {l:List Int} {R:List (List Int)},DQ N L s i l R->Nf F.length L s N i l R
 |0,l,R,h=>by
  have e:(([(s:Int)]:List Int),([]:List (List Int)))=(l,R):=h.2
  injection e with e1 e2
  subst e1;subst e2;have:=hd.st;exact Jo ⟨aa,aa⟩
 |i+1,l,R,h=>by
  have ih:=DQ.ok hd (i:=i) (l:=(Nd N L s i).1) (R:=(Nd N L s i).2) ⟨λ j hj=>h.1 j aa,rfl⟩;have hn:=Nh hd.row hd.nl ih (h.1 i aa);have e:=h.2;unfold Nd at e
  injection e with e1 e2
  rw [e1,e2]at hn;exact hn
theorem DQ.next{N:List (List Int)}{L:Nat}{s:Int}{i:Nat}{l:List Int}{R:List (List Int)}(h:DQ N L s i l R)(hi:i<l.length):DQ N L s (i+1) (fE (N.getD (l.getD i 0).toNat []) L l L).1 (R++[(fE (N.getD (l.getD i 0).toNat []) L l L).2]):=by
 refine⟨λ j hj=>?_,?_⟩
 ·by_cases e:j=i
  ·rw [e,h.2];exact hi
  ·exact h.1 j aa
 ·unfold Nd;rw [h.2]
theorem DQ.dv{L s:Nat}{F:List Bool}{N:List (List Int)}(hd:DV L s F N){l:List Int}{R:List (List Int)}(h:DQ N L s l.length l R):DV L 0 (l.map λ q=>F.getD q.toNat false) R/\l.length<=F.length:=by
 have hv:=h.ok hd;have hf:=hv.tJ;have h5:=hd.tJ;refine⟨⟨hd.l1,hd.l6,by simp;omega,by simp [hv.rl],by simpa using hv.pos,λ r hr=>?_⟩,hf⟩;obtain⟨j,hj,rfl⟩:=aV [] hr;rw [hv.rl]at hj;obtain⟨h1,h2⟩:=hv.row j hj;refine⟨h1,λ q hq=>?_⟩;obtain⟨x,hx,rfl⟩:=aV 0 hq;have:=h2 x aa;rw [List.length_map];exact⟨this.1,this.2.1⟩
end Go.Proofs.YtgailjhnfghkgaaGreatDoor
end
section
namespace Go.Proofs.YtgailjhnfghkgaaGreatDoor
open Go Go.AM
def W6(c:List Int)(q:Nat)(r:List Int):List Int:=
 [c.getD q 0,if 0<r.length then c.getD (r.getD 0 0).toNat 0 else 0,if 1<r.length then c.getD (r.getD 1 0).toNat 0 else 0,0,0,0,0]
def bd(c:List Int)(N:List (List Int))(n:Nat):List (List Int):=(List.range n).map λ q=>W6 c q (N.getD q [])
theorem xQ{c:List Int}{N:List (List Int)}{n q:Nat}(hq:q<n):(bd c N n).getD q []=W6 c q (N.getD q []):=by simp [bd,List.getD,hq]
def dx(ks:List (List Int)):Nat->List (List Int)
 |0=>[]|q+1=>if ks.getD q []∈dx ks q then dx ks q else dx ks q++[ks.getD q []]
theorem wP(ks:List (List Int)):∀q,(dx ks q).Nodup
 |0=>List.nodup_nil
 |q+1=>by
  unfold dx;split
  ·exact wP ks q
  ·rename_i c9
   rw [List.nodup_append];exact⟨wP ks q,List.pairwise_singleton _ _,λ a ha b hb e=>c9 (by rw [List.mem_singleton]at hb;rw [<-hb,<-e];exact ha)⟩
theorem D5(ks:List (List Int)):∀q,(dx ks q).length<=q
 |0=>Nat.le_refl _
 |q+1=>by
  have:=D5 ks q;unfold dx;split
  ·omega
  ·rw [List.length_append,List.length_singleton];omega
theorem nX(ks:List (List Int)):∀{q j:Nat},j<q->ks.getD j []∈dx ks q
 |q+1,j,hj=>by
  unfold dx
  by_cases e:j=q
  ·subst e
   split
   ·assumption
   ·exact List.mem_append_right _ (List.mem_singleton.2 rfl)
  ·have:=nX ks (q:=q) (j:=j) aa
   split
   ·exact this
   ·exact List.mem_append_left _ this
theorem A1(ks:List (List Int)):∀{q:Nat} {k:List Int},k∈dx ks q->∃j,j<q/\ks.getD j []=k
 |q+1,k,hk=>by
  unfold dx at hk;split at hk
  ·obtain⟨j,hj,e⟩:=A1 ks hk
   exact⟨j,aa,e⟩
  ·rcases List.mem_append.1 hk with hk|hk
   ·obtain⟨j,hj,e⟩:=A1 ks hk
    exact⟨j,aa,e⟩
   ·exact⟨q,aa,(List.mem_singleton.1 hk).symm⟩
theorem Hx{f g:List Int}:∀{E:List (List Int)},f∈E->ff (E++[g]) f=ff E f
 |a::E,h=>by
  show(if a=f then 0 else ff (E++[g]) f+1)=(if a=f then 0 else ff E f+1);split
  ·rfl
  ·rename_i e
   rw [Hx ((List.mem_cons.1 h).resolve_left λ e'=>e e'.symm)]
theorem FQ{f:List Int}:∀{E:List (List Int)},f∉E->ff (E++[f]) f=E.length
 |[],_=>by show(if f=f then 0 else _)=0;rw [if_pos rfl]
 |a::E,h=>by
  show(if a=f then 0 else ff (E++[f]) f+1)=E.length+1;have bm:¬a=f:=λ e=>h (by rw [e];exact List.mem_cons_self ..);rw [if_neg bm,FQ λ h2=>h (List.mem_cons_of_mem _ h2)]
theorem R4(ks:List (List Int)){j:Nat}:∀{q:Nat},j<q->ff (dx ks (q+1)) (ks.getD j [])=ff (dx ks q) (ks.getD j []):=λ{q} hj=>by
 show ff (if ks.getD q []∈dx ks q then dx ks q else dx ks q++[ks.getD q []]) _=_;split
 ·rfl
 ·exact Hx (nX ks hj)
def NI(ks:List (List Int))(n:Nat):List Int:=(List.range n).map λ q=>(ff (dx ks n) (ks.getD q []):Int)
theorem FR(ks:List (List Int))(n:Nat):(NI ks n).length=n:=by simp [NI]
theorem pD{ks:List (List Int)}{n q:Nat}(hq:q<n):(NI ks n).getD q 0=(ff (dx ks n) (ks.getD q []):Int):=by simp [NI,List.getD,hq]
structure N6(n:Nat)(c:List Int)(m:Nat):Prop where
 len:c.length=n
 w9:∀q,q<n->0<=c.getD q 0/\c.getD q 0<(m:Int)
 all:∀v,v<m->∃q,q<n/\c.getD q 0=(v:Int)
 ord:∀q,q<n->∀v:Nat,(v:Int)<c.getD q 0->∃p,p<q/\c.getD p 0=(v:Int)
theorem wQ(ks:List (List Int)){v:Nat}:∀{n q:Nat},q<=n->v<(dx ks q).length->(dx ks n).getD v []=(dx ks q).getD v []
 |0,q,hq,hv=>by
  obtain rfl:q=0:=aa
  rfl
 |n+1,q,hq,hv=>by
  by_cases e:q=n+1
  ·rw [e]
  ·have ih:=wQ ks (n:=n) (q:=q) aa hv
   have hle:(dx ks q).length<=(dx ks n).length:=by
    have mono:∀a b,a<=b->(dx ks a).length<=(dx ks b).length:=λ a b mh=>by
     induction b with
     |zero=>obtain rfl:a=0:=aa
            exact Nat.le_refl _
     |succ b ihb=>
      by_cases e2:a=b+1
      ·rw [e2];exact Nat.le_refl _
      ·refine Nat.le_trans (ihb aa) ?_
       show _<=(if ks.getD b []∈dx ks b then dx ks b else dx ks b++[ks.getD b []]).length;split
       ·exact Nat.le_refl _
       ·rw [List.length_append];omega
    exact mono q n aa
   rw [<-ih];show(if ks.getD n []∈dx ks n then dx ks n else dx ks n++[ks.getD n []]).getD v []=_;split
   ·rfl
   ·exact df aa
theorem Ua(ks:List (List Int))(n:Nat):N6 n (NI ks n) (dx ks n).length:=by
 refine⟨FR ks n,λ q hq=>?_,λ v hv=>?_,λ q hq v hv=>?_⟩
 ·rw [pD hq]
  have:=(eR (nX ks hq)).1;exact⟨aa,aa⟩
 ·obtain⟨j,hj,e⟩:=A1 ks (an (d:=[]) hv)
  refine⟨j,hj,?_⟩;rw [pD hj,e,vF (wP ks n) hv]
 ·rw [pD hq]at hv
  have hv:v<ff (dx ks n) (ks.getD q []):=aa;have aS:=(eR (nX ks hq)).1
  have hvq:v<(dx ks q).length:=by
   rcases Nat.lt_or_ge v (dx ks q).length with h|h
   ·exact h
   ·exfalso
    have hm:=nX ks (q:=q+1) (j:=q) aa;have h1:=eR hm
    have h2:(dx ks n).getD (ff (dx ks (q+1)) (ks.getD q [])) []=ks.getD q []:=by
     rw [wQ ks (q:=q+1) aa h1.1];exact h1.2
    have hle:(dx ks (q+1)).length<=(dx ks q).length+1:=by
     show(if ks.getD q []∈dx ks q then dx ks q else dx ks q++[ks.getD q []]).length<=_;split
     ·omega
     ·rw [List.length_append,List.length_singleton];omega
    have Yh:ff (dx ks (q+1)) (ks.getD q [])<(dx ks n).length:=by
     rcases Nat.lt_or_ge (ff (dx ks (q+1)) (ks.getD q [])) (dx ks n).length with h3|h3
     ·exact h3
     ·omega
    have h4:=vF (wP ks n) Yh;rw [h2]at h4;omega
  obtain⟨p,hp,e⟩:=A1 ks (an (d:=[]) hvq);refine⟨p,hp,?_⟩;rw [pD aa,e,<-wQ ks (n:=n) aa hvq,vF (wP ks n) aa]
theorem Oe{n m:Nat}{c:List Int}{N:List (List Int)}(h:N6 n c m):m<=(dx (bd c N n) n).length:=by
 have hd:(cV m).Nodup:=by
  refine List.nodup_iff_pairwise_ne.2 (List.pairwise_iff_getElem.2 λ a b ha hb mh=>?_);simp [cV];omega
 have:=cv hd (B:=(dx (bd c N n) n).map λ k=>k.getD 0 0) λ x hx=>by
  obtain⟨v,rfl⟩:=Int.eq_ofNat_of_zero_le (fQ.1 hx).1;obtain⟨q,hq,e⟩:=h.all v (by have:=(fQ.1 hx).2;omega);refine List.mem_map.2 ⟨_,nX _ hq,?_⟩;rw [xQ hq];exact e
 rw [bM,List.length_map]at this;exact this
def Oc(F:List Bool):List Int:=F.map λ b=>if b=F.getD 0 false then 0 else 1
def Uy(F:List Bool):Nat:=if ∃q,q<F.length/\F.getD q false≠F.getD 0 false then 2 else 1
theorem nA{F:List Bool}{q:Nat}(hq:q<F.length):(Oc F).getD q 0=if F.getD q false=F.getD 0 false then 0 else 1:=by
 unfold Oc;rw [getD_eq (by simpa using hq),List.getElem_map,getD_eq (l:=F) (i:=q) hq]
theorem Ub{F:List Bool}(h0:0<F.length):N6 F.length (Oc F) (Uy F):=by
 have JP:(Oc F).getD 0 0=0:=by rw [nA h0,if_pos rfl]
 refine⟨by simp [Oc],λ q hq=>?_,λ v hv=>?_,λ q hq v hv=>?_⟩
 ·rw [nA hq]
  unfold Uy;split
  ·split<;>omega
  ·rename_i bm
   rw [if_pos ⟨q,hq,bm⟩];omega
 ·unfold Uy at hv
  split at hv
  ·rename_i hex
   obtain⟨q,hq,bm⟩:=hex;rcases Nat.eq_zero_or_pos v with e|e
   ·exact⟨0,h0,by rw [JP,e];rfl⟩
   ·exact⟨q,hq,by rw [nA hq,if_neg bm];omega⟩
  ·exact⟨0,h0,by rw [JP];omega⟩
 ·rw [nA hq]at hv
  split at hv
  ·omega
  ·rename_i bm
   have Sg:q≠0:=λ e=>bm (by rw [e]);exact⟨0,aa,by rw [JP];omega⟩
def Bn(N:List (List Int))(F:List Bool):Nat->List Int × Nat
 |0=>(Oc F,Uy F)
 |j+1=>(NI (bd (Bn N F j).1 N F.length) F.length,(dx (bd (Bn N F j).1 N F.length) F.length).length)
theorem D4{N:List (List Int)}{F:List Bool}(h0:0<F.length):∀j,N6 F.length (Bn N F j).1 (Bn N F j).2
 |0=>Ub h0
 |j+1=>Ua _ _
theorem N6.le{n m:Nat}{c:List Int}(h:N6 n c m):m<=n:=by
 have hd:(cV m).Nodup:=by
  refine List.nodup_iff_pairwise_ne.2 (List.pairwise_iff_getElem.2 λ a b ha hb mh=>?_);simp [cV];omega
 have:=cv hd (B:=c) λ x hx=>by
  obtain⟨v,rfl⟩:=Int.eq_ofNat_of_zero_le (fQ.1 hx).1;obtain⟨q,hq,e⟩:=h.all v (by have:=(fQ.1 hx).2;omega);rw [<-e];exact an (by rw [h.len];exact hq)
 rw [bM,h.len]at this;exact this
end Go.Proofs.YtgailjhnfghkgaaGreatDoor
end
section
namespace Go.Proofs.YtgailjhnfghkgaaGreatDoor
open Go Go.AM
theorem yY{f:List Int}:∀{E:List (List Int)} {j:Nat},j<E.length->E.getD j []=f->ff E f<=j
 |a::E,0,_,e=>by
  have e:a=f:=e;show(if a=f then 0 else _)<=0;rw [if_pos e];exact Nat.le_refl _
 |a::E,j+1,hj,e=>by
  show(if a=f then 0 else ff E f+1)<=j+1;split
  ·omega
  ·have:=yY (E:=E) (j:=j) (by simpa using hj) (by simpa using e)
   omega
theorem yZ{l:List Int}{x:Int}{j:Nat}(hj:j<l.length)(e:l.getD j 0=x):tI l x<=j:=by
 refine yY (by rw [FC];exact hj) ?_;simp only [sg,List.getD,List.getElem?_map];rw [List.getElem?_eq_getElem hj];rw [getD_eq hj]at e;simp [e]
def qF(p:List Int)(F:List Bool)(v:Nat):List Bool:=(List.range v).map λ u:Nat=>F.getD (tI p (u:Int)) false
def qR(p:List Int)(r:List Int):List Int:=r.map λ t=>p.getD t.toNat 0
def qN(p:List Int)(N:List (List Int))(v:Nat):List (List Int):=(List.range v).map λ u:Nat=>qR p (N.getD (tI p (u:Int)) [])
theorem oL(p:List Int)(F:List Bool)(v:Nat):(qF p F v).length=v:=by simp [qF]
theorem JY(p:List Int)(N:List (List Int))(v:Nat):(qN p N v).length=v:=by simp [qN]
theorem Oh(p:List Int)(F:List Bool)(v:Nat):qF p F (v+1)=qF p F v++[F.getD (tI p (v:Int)) false]:=by unfold qF;rw [List.range_succ,List.map_append];rfl
theorem Oi(p:List Int)(N:List (List Int))(v:Nat):qN p N (v+1)=qN p N v++[qR p (N.getD (tI p (v:Int)) [])]:=by unfold qN;rw [List.range_succ,List.map_append];rfl
section
variable{L s m n q v:Nat}{F:List Bool}{N:List (List Int)}{p:List Int}
structure JX(p:List Int)(q v:Nat):Prop where
 low:∀j,j<q->p.getD j 0<(v:Int)
 met:∀u,u<v->∃j,j<q/\p.getD j 0=(u:Int)
theorem JX.eu(h:JX p q v)(hc:p.getD q 0<(v:Int)):JX p (q+1) v:=
 ⟨λ j hj=>if e:j=q then e▸hc else h.low j aa,λ u hu=>by obtain⟨j,hj,e⟩:=h.met u hu;exact⟨j,aa,e⟩⟩
theorem JX.fresh(h:JX p q v)(hp:N6 n p m)(hq:q<n)(hc:(v:Int)<=p.getD q 0):p.getD q 0=(v:Int)/\tI p (v:Int)=q/\JX p (q+1) (v+1):=by
 have e:p.getD q 0=(v:Int):=by
  refine Classical.byContradiction λ bm=>?_;obtain⟨j,hj,e⟩:=hp.ord q hq v aa;have:=h.low j hj;omega
 have hl:=hp.len;have hm:(v:Int)∈p:=e▸an aa;have h1:=nw hm;have h2:=yZ (l:=p) (j:=q) aa e;refine⟨e,?_,λ j hj=>?_,λ u hu=>?_⟩
 ·refine Classical.byContradiction λ bm=>?_
  have:=h.low (tI p (v:Int)) aa;omega
 ·by_cases e2:j=q
  ·rw [e2,e];omega
  ·have:=h.low j aa;omega
 ·by_cases e2:u=v
  ·exact⟨q,aa,by rw [e2];exact e⟩
  ·obtain⟨j,hj,e3⟩:=h.met u aa
   exact⟨j,aa,e3⟩
theorem JX.le(h:JX p q v)(hp:N6 n p m)(hq:q<=n):v<=m:=by
 rcases Nat.lt_or_ge m v with aS|Ez
 ·obtain⟨j,hj,e⟩:=h.met m aS
  have:=(hp.w9 j aa).2;omega
 ·exact Ez
theorem JX.done(h:JX p n v)(hp:N6 n p m):v=m:=by
 have h1:=h.le hp (Nat.le_refl _);rcases Nat.lt_or_ge v m with aS|Ez
 ·obtain⟨q,hq,e⟩:=hp.all v aS
  have:=h.low q hq;omega
 ·omega
theorem D6(hd:DV L s F N)(hp:N6 F.length p m):DV L 0 (qF p F m) (qN p N m):=by
 have c8:=hd.st;have hm:0<m:=by have:=(hp.w9 0 aa);omega
 have hle:=hp.le;have hf:=hd.tJ;refine⟨hd.l1,hd.l6,by rw [oL];omega,by rw [oL,JY],by rw [oL];exact hm,λ r hr=>?_⟩;obtain⟨u,hu,rfl⟩:=List.mem_map.1 hr;have hu:=List.mem_range.1 hu;obtain⟨q,hq,e⟩:=hp.all u hu;have hi:=nw (l:=p) (x:=(u:Int)) (e▸an (by rw [hp.len];exact hq));rw [hp.len]at hi;have aI:=hd.row _ (an (d:=[]) (l:=N) (i:=tI p (u:Int)) (by rw [hd.nl];exact hi.1));refine⟨by unfold qR;rw [List.length_map];exact aI.1,λ x hx=>?_⟩;obtain⟨t,ht,rfl⟩:=List.mem_map.1 hx;have h1:=aI.2 t ht;have:=hp.w9 t.toNat aa;rw [oL];exact this
end
structure HJ(L s:Nat)(F:List Bool)(N:List (List Int))(F':List Bool)(N':List (List Int))(l:List Int)(R:List (List Int))(j:Nat)(l':List Int):Prop where
 tr:DQ N L s l.length l R
 st:(Bn R (l.map λ q=>F.getD q.toNat false) j).2=(Bn R (l.map λ q=>F.getD q.toNat false) (j+1)).2
 tr2:DQ (qN (Bn R (l.map λ q=>F.getD q.toNat false) (j+1)).1 R (Bn R (l.map λ q=>F.getD q.toNat false) (j+1)).2) L 0 l'.length l' N'
 fin:F'=l'.map λ q=>(qF (Bn R (l.map λ q=>F.getD q.toNat false) (j+1)).1 (l.map λ q=>F.getD q.toNat false) (Bn R (l.map λ q=>F.getD q.toNat false) (j+1)).2).getD q.toNat false
theorem HJ.dv{L s:Nat}{F:List Bool}{N:List (List Int)}{F':List Bool}{N':List (List Int)}{l:List Int}{R:List (List Int)}{j:Nat}{l':List Int}(hd:DV L s F N)(h:HJ L s F N F' N' l R j l'):DV L 0 F' N'/\F'.length<=F.length:=by
 obtain⟨d1,l1⟩:=h.tr.dv hd;have hc:=D4 (N:=R) (F:=l.map λ q=>F.getD q.toNat false) d1.st (j+1);have d2:=D6 d1 hc;obtain⟨d3,l3⟩:=h.tr2.dv d2;have hle:=hc.le;rw [oL]at l3;rw [List.length_map]at hle;rw [h.fin];exact⟨d3,by rw [List.length_map];omega⟩
end Go.Proofs.YtgailjhnfghkgaaGreatDoor
end
section
namespace Go.Proofs.YtgailjhnfghkgaaGreatDoor
open Go Go.AM
def NJ(L:Nat)(N:List (List Int)):List (List Int):=(List.range L).map λ a=>N.map λ r=>r.getD a 0
theorem lh{l:List (List Int)}{i:Nat}{v:List Int}(h:i<l.length):(l.set i v).getD i []=v:=by simp [List.getD,h]
theorem fW{l:List (List Int)}{i j:Nat}{v:List Int}(h:j≠i):(l.set i v).getD j []=l.getD j []:=by simp [List.getD,List.getElem?_set_ne (Ne.symm h)]
theorem Ni{l:List (List Int)}{i:Nat}{v:List Int}(h:l.getD i []=v):l.set i v=l:=by
 by_cases e:i<l.length
 ·refine bj [] (by rw [List.length_set]) λ j _=>?_
  by_cases e1:j=i
  ·rw [e1,lh e,h]
  ·rw [fW e1]
 ·exact List.set_eq_of_length_le aa
end Go.Proofs.YtgailjhnfghkgaaGreatDoor
end
