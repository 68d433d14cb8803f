import Derived.Test.YtgailjhnfghkgaaGreatDoorEnLaw
section
namespace Go.Proofs.YtgailjhnfghkgaaGreatDoor
open Go Go.AM
structure DV(L s:Nat)(F:List Bool)(N:List (List Int)):Prop where
 l1:1<=L
 l6:L<=6
 pZ:F.length<=512
 nl:N.length=F.length
 st:s<F.length
 row:∀r∈N,r.length=L/\∀q∈r,0<=q/\q<(F.length:Int)
theorem DV.at{L s:Nat}{F:List Bool}{N:List (List Int)}(h:DV L s F N){q x:Nat}(hq:q<F.length)(hx:x<L):(N.getD q []).length=L/\0<=(N.getD q []).getD x 0/\(N.getD q []).getD x 0<(F.length:Int):=by
 have hr:=h.row _ (al (d:=[]) (l:=N) (i:=q) (by rw [h.nl];exact hq));have:=hr.2 _ (al (d:=0) (i:=x) (by rw [hr.1];exact hx));exact⟨hr.1,this⟩
def sg(l:List Int):List (List Int):=l.map λx=>[x]
theorem BH{l:List Int}{x:Int}:[x]∈sg l↔x∈l:=by simp [sg]
theorem Gz(l:List Int):(sg l).length=l.length:=by simp [sg]
theorem VF(l:List Int)(x:Int):sg (l++[x])=sg l++[[x]]:=by simp [sg]
def oM(l:List Int)(x:Int):Nat:=fc (sg l) [x]
theorem iW{l:List Int}{x:Int}(h:x∈l):oM l x<l.length/\l.getD (oM l x) 0=x:=by
 have h1:=dr (BH.2 h);rw [Gz]at h1;refine⟨h1.1,?_⟩;have h2:(sg l).getD (oM l x) []=[x]:=h1.2;have h3:oM l x<l.length:=h1.1;simp only [sg,List.getD,ajR]at h2 ⊢;rw [ajP h3]at h2 ⊢
 simpa using h2
theorem A4{l:List Int}{x:Int}:getM (c7 (sg l)) [x]=if x∈l then some (oM l x:Int) else none:=by
 rw [dC]
 by_cases h:x∈l
 ·rw [ajq (BH.2 h),ajq h];rfl
 ·rw [ajm (λh2=>h (BH.1 h2)),ajm h]
theorem Q8{l:List Int}{x:Int}(h:x∉l):lA (c7 (sg l)) [x] (l.length:Int)=c7 (sg (l++[x])):=by
 rw [VF,<-sD (λh2=>h (BH.1 h2)),Gz]
def uv(l:List Int)(x:Int):List Int:=if x∈l then l else l++[x]
def yt(l:List Int)(x:Int):Int:=if x∈l then (oM l x:Int) else (l.length:Int)
def eW(r:List Int)(L:Nat)(l:List Int):Nat->List Int × List Int
 |0=>(l,List.replicate L 0)
 |k+1=>(uv (eW r L l k).1 (r.getD k 0),(eW r L l k).2.set k (yt (eW r L l k).1 (r.getD k 0)))
def rP(N:List (List Int))(L:Nat)(s:Int):Nat->List Int × List (List Int)
 |0=>([s],[])
 |i+1=>((eW (N.getD ((rP N L s i).1.getD i 0).toNat []) L (rP N L s i).1 L).1,(rP N L s i).2++[(eW (N.getD ((rP N L s i).1.getD i 0).toNat []) L (rP N L s i).1 L).2])
structure BR(n L:Nat)(s:Int)(N:List (List Int))(i:Nat)(l:List Int)(R:List (List Int)):Prop where
 nd:l.Nodup
 oz:∀q∈l,0<=q/\q<(n:Int)
 st:l.getD 0 0=s
 pos:0<l.length
 rl:R.length=i
 le:i<=l.length
 row:∀j,j<i->(R.getD j []).length=L/\∀x,x<L->0<=(R.getD j []).getD x 0/\(R.getD j []).getD x 0<(l.length:Int)/\l.getD ((R.getD j []).getD x 0).toNat 0=(N.getD (l.getD j 0).toNat []).getD x 0
section
variable{n L:Nat}{s:Int}{N:List (List Int)}{i:Nat}{l:List Int}{R:List (List Int)}
theorem BR.pZ(h:BR n L s N i l R):l.length<=n:=by
 have:=b9 h.nd (B:=cR n) λq hq=>c8.2 (h.oz q hq);rw [bP]at this;exact this
theorem OD(l:List Int)(x:Int):l.length<=(uv l x).length/\(∀j,j<l.length->(uv l x).getD j 0=l.getD j 0):=by
 unfold uv;split
 ·exact⟨ajl _,λ_ _=>rfl⟩
 ·exact⟨by simp,λj hj=>cS hj⟩
theorem VG(l:List Int)(x:Int):0<=yt l x/\yt l x<((uv l x).length:Int)/\(uv l x).getD (yt l x).toNat 0=x:=by
 unfold yt uv;split
 ·rename_i h
  have:=iW h;exact⟨aa,aa,this.2⟩
 ·exact⟨aa,by rw [ajp,ajx];omega,by rw [ajr];exact iI⟩
theorem BR.of(h:BR n L s N i l R){x:Int}(hx:0<=x/\x<(n:Int)):BR n L s N i (uv l x) R:=by
 have hle:=OD l x;refine⟨?_,λq hq=>?_,by rw [hle.2 0 h.pos];exact h.st,ajT h.pos hle.1,h.rl,ajW h.le hle.1,λj hj=>?_⟩
 ·unfold uv
  split
  ·exact h.nd
  ·rename_i dj
   rw [List.nodup_append];exact⟨h.nd,List.pairwise_singleton _ _,λa ha b hb e=>dj (by rw [ajC]at hb;rw [<-hb,<-e];exact ha)⟩
 ·unfold uv at hq
  split at hq
  ·exact h.oz q hq
  ·rcases ajK.1 hq with hq|hq
   ·exact h.oz q hq
   ·rw [ajC.1 hq];exact hx
 ·obtain⟨h1,h2⟩:=h.row j hj
  have bD:=h.le;refine⟨h1,λy hy=>?_⟩;obtain⟨g1,g2,g3⟩:=h2 y hy;have hl:=hle.1;exact⟨g1,aa,by rw [hle.2 _ aa,hle.2 j aa];exact g3⟩
structure ExQ(r:List Int)(L:Nat)(l0:List Int)(k:Nat)(l Q:List Int):Prop where
 ql:Q.length=L
 le:l0.length<=l.length
 eI:∀j,j<l0.length->l.getD j 0=l0.getD j 0
 qv:∀x,x<k->0<=Q.getD x 0/\Q.getD x 0<(l.length:Int)/\l.getD (Q.getD x 0).toNat 0=r.getD x 0
theorem pW{r:List Int}(hr:r.length=L/\∀q∈r,0<=q/\q<(n:Int))(h:BR n L s N i l R):∀k,k<=L->BR n L s N i (eW r L l k).1 R/\ExQ r L l k (eW r L l k).1 (eW r L l k).2
 |0,_=>⟨h,by simp [eW],ajl _,λ_ _=>rfl,λx hx=>absurd hx (aju _)⟩
 |k+1,hk=>by
  obtain⟨h1,h2⟩:=pW hr h k aa;have hx:=hr.2 _ (al (d:=0) (l:=r) (i:=k) aa);have hle:=OD (eW r L l k).1 (r.getD k 0);have xP:=VG (eW r L l k).1 (r.getD k 0);have ux:=h2.ql;have M4:=h2.le;refine⟨h1.of hx,by simp [eW,ux],by show l.length<=(uv _ _).length;omega,λj hj=>?_,λx kU=>?_⟩
  ·show(uv _ _).getD j 0=_
   rw [hle.2 j aa];exact h2.eI j hj
  ·show 0<=((eW r L l k).2.set k (yt (eW r L l k).1 (r.getD k 0))).getD x 0/\((eW r L l k).2.set k (yt (eW r L l k).1 (r.getD k 0))).getD x 0<((uv (eW r L l k).1 (r.getD k 0)).length:Int)/\(uv (eW r L l k).1 (r.getD k 0)).getD (((eW r L l k).2.set k (yt (eW r L l k).1 (r.getD k 0))).getD x 0).toNat 0=r.getD x 0
   by_cases e:x=k
   ·subst e
    rw [AZ aa];exact xP
   ·rw [A0 e]
    obtain⟨g1,g2,g3⟩:=h2.qv x aa;exact⟨g1,aa,by rw [hle.2 _ aa];exact g3⟩
theorem OE(hN:∀r∈N,r.length=L/\∀q∈r,0<=q/\q<(n:Int))(hn:N.length=n)(h:BR n L s N i l R)(hi:i<l.length):
  BR n L s N (i+1) (eW (N.getD (l.getD i 0).toNat []) L l L).1 (R++[(eW (N.getD (l.getD i 0).toNat []) L l L).2]):=by
 have hq:=h.oz _ (al (d:=0) hi);have hr:=hN _ (al (d:=[]) (l:=N) (i:=(l.getD i 0).toNat) aa);obtain⟨h1,h2⟩:=pW hr h L (ajl _);have mV:=h.rl;have M4:=h2.le;refine⟨h1.nd,h1.oz,h1.st,h1.pos,by rw [ajp,mV];rfl,aa,λj hj=>?_⟩
 by_cases e:j=i
 ·subst e
  have e2:(R++[(eW (N.getD (l.getD j 0).toNat []) L l L).2]).getD j []=(eW (N.getD (l.getD j 0).toNat []) L l L).2:=by rw [<-mV];exact iI
  rw [e2];refine⟨h2.ql,λx hx=>?_⟩;have:=h2.qv x hx;rw [h2.eI j hi];exact this
 ·rw [cS aa]
  exact h1.row j aa
theorem Kv(hs:0<=s/\s<(n:Int)):BR n L s N 0 [s] []:=
 ⟨List.pairwise_singleton _ _,λq hq=>by rw [ajC.1 hq];exact hs,rfl,ako _,rfl,ajk _,λj hj=>absurd hj (aju _)⟩
end
def zQ(N:List (List Int))(L:Nat)(s:Int)(i:Nat)(l:List Int)(R:List (List Int)):Prop:=(∀j,j<i->j<(rP N L s j).1.length)/\rP N L s i=(l,R)
theorem zQ.ok{L s:Nat}{F:List Bool}{N:List (List Int)}(hd:DV L s F N):∀{i:Nat} {l:List Int} {R:List (List Int)},zQ N L s i l R->BR F.length L s N i l R
 |0,l,R,h=>by
  have e:(([(s:Int)]:List Int),([]:List (List Int)))=(l,R):=h.2
  injection e with e1 e2
  subst e1;subst e2;have:=hd.st;exact Kv ⟨aa,aa⟩
 |i+1,l,R,h=>by
  have ih:=zQ.ok hd (i:=i) (l:=(rP N L s i).1) (R:=(rP N L s i).2) ⟨λj hj=>h.1 j aa,rfl⟩;have hn:=OE hd.row hd.nl ih (h.1 i aa);have e:=h.2;unfold rP at e
  injection e with e1 e2
  rw [e1,e2]at hn;exact hn
theorem zQ.next{N:List (List Int)}{L:Nat}{s:Int}{i:Nat}{l:List Int}{R:List (List Int)}(h:zQ N L s i l R)(hi:i<l.length):zQ N L s (i+1) (eW (N.getD (l.getD i 0).toNat []) L l L).1 (R++[(eW (N.getD (l.getD i 0).toNat []) L l L).2]):=by
 refine⟨λj hj=>?_,?_⟩
 ·by_cases e:j=i
  ·rw [e,h.2];exact hi
  ·exact h.1 j aa
 ·unfold rP;rw [h.2]
theorem zQ.dv{L s:Nat}{F:List Bool}{N:List (List Int)}(hd:DV L s F N){l:List Int}{R:List (List Int)}(h:zQ N L s l.length l R):DV L 0 (l.map λq=>F.getD q.toNat false) R/\l.length<=F.length:=by
 have hv:=h.ok hd;have hf:=hv.pZ;have h5:=hd.pZ;refine⟨⟨hd.l1,hd.l6,by simp;omega,by simp [hv.rl],by simpa using hv.pos,λr hr=>?_⟩,hf⟩;obtain⟨j,hj,rfl⟩:=aS [] hr;rw [hv.rl]at hj;obtain⟨h1,h2⟩:=hv.row j hj;refine⟨h1,λq hq=>?_⟩;obtain⟨x,hx,rfl⟩:=aS 0 hq;have:=h2 x aa;rw [ajS];exact⟨this.1,this.2.1⟩
def La(c:List Int)(q:Nat)(r:List Int):List Int:=
 [c.getD q 0,if 0<r.length then c.getD (r.getD 0 0).toNat 0 else 0,if 1<r.length then c.getD (r.getD 1 0).toNat 0 else 0,0,0,0,0]
def bj(c:List Int)(N:List (List Int))(n:Nat):List (List Int):=(List.range n).map λq=>La c q (N.getD q [])
theorem nR{c:List Int}{N:List (List Int)}{n q:Nat}(hq:q<n):(bj c N n).getD q []=La c q (N.getD q []):=by simp [bj,List.getD,hq]
def dt(ks:List (List Int)):Nat->List (List Int)
 |0=>[]|q+1=>if ks.getD q []∈dt ks q then dt ks q else dt ks q++[ks.getD q []]
theorem xm(ks:List (List Int)):∀q,(dt ks q).Nodup
 |0=>List.nodup_nil
 |q+1=>by
  unfold dt;split
  ·exact xm ks q
  ·rename_i dj
   rw [List.nodup_append];exact⟨xm ks q,List.pairwise_singleton _ _,λa ha b hb e=>dj (by rw [ajC]at hb;rw [<-hb,<-e];exact ha)⟩
theorem Gk(ks:List (List Int)):∀q,(dt ks q).length<=q
 |0=>ajl _
 |q+1=>by
  have:=Gk ks q;unfold dt;split
  ·omega
  ·rw [ajp,ajx];omega
theorem jZ(ks:List (List Int)):∀{q j:Nat},j<q->ks.getD j []∈dt ks q
 |q+1,j,hj=>by
  unfold dt
  by_cases e:j=q
  ·subst e
   split
   ·assumption
   ·exact akr _ (ajC.2 rfl)
  ·have:=jZ ks (q:=q) (j:=j) aa
   split
   ·exact this
   ·exact aj8 _ this
theorem BI(ks:List (List Int)):∀{q:Nat} {k:List Int},k∈dt ks q->∃j,j<q/\ks.getD j []=k
 |q+1,k,hk=>by
  unfold dt at hk;split at hk
  ·obtain⟨j,hj,e⟩:=BI ks hk
   exact⟨j,aa,e⟩
  ·rcases ajK.1 hk with hk|hk
   ·obtain⟨j,hj,e⟩:=BI ks hk
    exact⟨j,aa,e⟩
   ·exact⟨q,aa,(ajC.1 hk).symm⟩
theorem ID{f g:List Int}:∀{E:List (List Int)},f∈E->fc (E++[g]) f=fc E f
 |a::E,h=>by
  show(if a=f then 0 else fc (E++[g]) f+1)=(if a=f then 0 else fc E f+1);split
  ·rfl
  ·rename_i e
   rw [ID ((ajo.1 h).resolve_left λe'=>e e'.symm)]
theorem Is{f:List Int}:∀{E:List (List Int)},f∉E->fc (E++[f]) f=E.length
 |[],_=>by show(if f=f then 0 else _)=0;rw [ajq rfl]
 |a::E,h=>by
  show(if a=f then 0 else fc (E++[f]) f+1)=E.length+1;have bn:¬a=f:=λe=>h (by rw [e];exact ajn ..);rw [ajm bn,Is λh2=>h (ajj _ h2)]
theorem Vx(ks:List (List Int)){j:Nat}:∀{q:Nat},j<q->fc (dt ks (q+1)) (ks.getD j [])=fc (dt ks q) (ks.getD j []):=λ{q} hj=>by
 show fc (if ks.getD q []∈dt ks q then dt ks q else dt ks q++[ks.getD q []]) _=_;split
 ·rfl
 ·exact ID (jZ ks hj)
def KH(ks:List (List Int))(n:Nat):List Int:=(List.range n).map λq=>(fc (dt ks n) (ks.getD q []):Int)
theorem It(ks:List (List Int))(n:Nat):(KH ks n).length=n:=by simp [KH]
theorem lL{ks:List (List Int)}{n q:Nat}(hq:q<n):(KH ks n).getD q 0=(fc (dt ks n) (ks.getD q []):Int):=by simp [KH,List.getD,hq]
structure GM(n:Nat)(c:List Int)(m:Nat):Prop where
 len:c.length=n
 oz:∀q,q<n->0<=c.getD q 0/\c.getD q 0<(m:Int)
 all:∀v,v<m->∃q,q<n/\c.getD q 0=(v:Int)
 ord:∀q,q<n->∀v:Nat,(v:Int)<c.getD q 0->∃p,p<q/\c.getD p 0=(v:Int)
theorem xn(ks:List (List Int)){v:Nat}:∀{n q:Nat},q<=n->v<(dt ks q).length->(dt ks n).getD v []=(dt ks q).getD v []
 |0,q,hq,hv=>by
  obtain rfl:q=0:=aa
  rfl
 |n+1,q,hq,hv=>by
  by_cases e:q=n+1
  ·rw [e]
  ·have ih:=xn ks (n:=n) (q:=q) aa hv
   have hle:(dt ks q).length<=(dt ks n).length:=by
    have mono:∀a b,a<=b->(dt ks a).length<=(dt ks b).length:=λa b mP=>by
     induction b with
     |zero=>obtain rfl:a=0:=aa
            exact ajl _
     |succ b ihb=>
      by_cases e2:a=b+1
      ·rw [e2];exact ajl _
      ·refine ajW (ihb aa) ?_
       show _<=(if ks.getD b []∈dt ks b then dt ks b else dt ks b++[ks.getD b []]).length;split
       ·exact ajl _
       ·rw [ajp];omega
    exact mono q n aa
   rw [<-ih];show(if ks.getD n []∈dt ks n then dt ks n else dt ks n++[ks.getD n []]).getD v []=_;split
   ·rfl
   ·exact cS aa
theorem VH(ks:List (List Int))(n:Nat):GM n (KH ks n) (dt ks n).length:=by
 refine⟨It ks n,λq hq=>?_,λv hv=>?_,λq hq v hv=>?_⟩
 ·rw [lL hq]
  have:=(dr (jZ ks hq)).1;exact⟨aa,aa⟩
 ·obtain⟨j,hj,e⟩:=BI ks (al (d:=[]) hv)
  refine⟨j,hj,?_⟩;rw [lL hj,e,wx (xm ks n) hv]
 ·rw [lL hq]at hv
  have hv:v<fc (dt ks n) (ks.getD q []):=aa;have aX:=(dr (jZ ks hq)).1
  have hvq:v<(dt ks q).length:=by
   rcases ajF v (dt ks q).length with h|h
   ·exact h
   ·exfalso
    have hm:=jZ ks (q:=q+1) (j:=q) aa;have h1:=dr hm
    have h2:(dt ks n).getD (fc (dt ks (q+1)) (ks.getD q [])) []=ks.getD q []:=by
     rw [xn ks (q:=q+1) aa h1.1];exact h1.2
    have hle:(dt ks (q+1)).length<=(dt ks q).length+1:=by
     show(if ks.getD q []∈dt ks q then dt ks q else dt ks q++[ks.getD q []]).length<=_;split
     ·omega
     ·rw [ajp,ajx];omega
    have ZJ:fc (dt ks (q+1)) (ks.getD q [])<(dt ks n).length:=by
     rcases ajF (fc (dt ks (q+1)) (ks.getD q [])) (dt ks n).length with h3|h3
     ·exact h3
     ·omega
    have h4:=wx (xm ks n) ZJ;rw [h2]at h4;omega
  obtain⟨p,hp,e⟩:=BI ks (al (d:=[]) hvq);refine⟨p,hp,?_⟩;rw [lL aa,e,<-xn ks (n:=n) aa hvq,wx (xm ks n) aa]
theorem RM{n m:Nat}{c:List Int}{N:List (List Int)}(h:GM n c m):m<=(dt (bj c N n) n).length:=by
 have hd:(cR m).Nodup:=by
  refine aj9.2 (aky.2 λa b ha hb mP=>?_);simp [cR];omega
 have:=b9 hd (B:=(dt (bj c N n) n).map λk=>k.getD 0 0) λx hx=>by
  obtain⟨v,rfl⟩:=Int.eq_ofNat_of_zero_le (c8.1 hx).1;obtain⟨q,hq,e⟩:=h.all v (by have:=(c8.1 hx).2;omega);refine ajU.2 ⟨_,jZ _ hq,?_⟩;rw [nR hq];exact e
 rw [bP,ajS]at this;exact this
def IM(F:List Bool):List Int:=F.map λb=>if b=F.getD 0 false then 0 else 1
def WI(F:List Bool):Nat:=if ∃q,q<F.length/\F.getD q false≠F.getD 0 false then 2 else 1
theorem gX{F:List Bool}{q:Nat}(hq:q<F.length):(IM F).getD q 0=if F.getD q false=F.getD 0 false then 0 else 1:=by
 unfold IM;rw [getD_eq (by simpa using hq),List.getElem_map,getD_eq (l:=F) (i:=q) hq]
theorem VI{F:List Bool}(h0:0<F.length):GM F.length (IM F) (WI F):=by
 have K3:(IM F).getD 0 0=0:=by rw [gX h0,ajq rfl]
 refine⟨by simp [IM],λq hq=>?_,λv hv=>?_,λq hq v hv=>?_⟩
 ·rw [gX hq]
  unfold WI;split
  ·split<;>omega
  ·rename_i bn
   rw [ajq ⟨q,hq,bn⟩];omega
 ·unfold WI at hv
  split at hv
  ·rename_i hex
   obtain⟨q,hq,bn⟩:=hex;rcases aj1 v with e|e
   ·exact⟨0,h0,by rw [K3,e];rfl⟩
   ·exact⟨q,hq,by rw [gX hq,ajm bn];omega⟩
  ·exact⟨0,h0,by rw [K3];omega⟩
 ·rw [gX hq]at hv
  split at hv
  ·omega
  ·rename_i bn
   have Ug:q≠0:=λe=>bn (by rw [e]);exact⟨0,aa,by rw [K3];omega⟩
def gF(N:List (List Int))(F:List Bool):Nat->List Int × Nat
 |0=>(IM F,WI F)
 |j+1=>(KH (bj (gF N F j).1 N F.length) F.length,(dt (bj (gF N F j).1 N F.length) F.length).length)
theorem o6{N:List (List Int)}{F:List Bool}(h0:0<F.length):∀j,GM F.length (gF N F j).1 (gF N F j).2
 |0=>VI h0
 |j+1=>VH _ _
theorem GM.le{n m:Nat}{c:List Int}(h:GM n c m):m<=n:=by
 have hd:(cR m).Nodup:=by
  refine aj9.2 (aky.2 λa b ha hb mP=>?_);simp [cR];omega
 have:=b9 hd (B:=c) λx hx=>by
  obtain⟨v,rfl⟩:=Int.eq_ofNat_of_zero_le (c8.1 hx).1;obtain⟨q,hq,e⟩:=h.all v (by have:=(c8.1 hx).2;omega);rw [<-e];exact al (by rw [h.len];exact hq)
 rw [bP,h.len]at this;exact this
theorem zF{f:List Int}:∀{E:List (List Int)} {j:Nat},j<E.length->E.getD j []=f->fc E f<=j
 |a::E,0,_,e=>by
  have e:a=f:=e;show(if a=f then 0 else _)<=0;rw [ajq e];exact ajl _
 |a::E,j+1,hj,e=>by
  show(if a=f then 0 else fc E f+1)<=j+1;split
  ·omega
  ·have:=zF (E:=E) (j:=j) (by simpa using hj) (by simpa using e)
   omega
theorem rT{l:List Int}{x:Int}{j:Nat}(hj:j<l.length)(e:l.getD j 0=x):oM l x<=j:=by
 refine zF (by rw [Gz];exact hj) ?_;simp only [sg,List.getD,ajR];rw [ajP hj];rw [getD_eq hj]at e;simp [e]
def qF(p:List Int)(F:List Bool)(v:Nat):List Bool:=(List.range v).map λu:Nat=>F.getD (oM p (u:Int)) false
def qR(p:List Int)(r:List Int):List Int:=r.map λt=>p.getD t.toNat 0
def qN(p:List Int)(N:List (List Int))(v:Nat):List (List Int):=(List.range v).map λu:Nat=>qR p (N.getD (oM p (u:Int)) [])
theorem lM(p:List Int)(F:List Bool)(v:Nat):(qF p F v).length=v:=by simp [qF]
theorem E1(p:List Int)(N:List (List Int))(v:Nat):(qN p N v).length=v:=by simp [qN]
theorem RP(p:List Int)(F:List Bool)(v:Nat):qF p F (v+1)=qF p F v++[F.getD (oM p (v:Int)) false]:=by unfold qF;rw [List.range_succ,List.map_append];rfl
theorem RQ(p:List Int)(N:List (List Int))(v:Nat):qN p N (v+1)=qN p N v++[qR p (N.getD (oM p (v:Int)) [])]:=by unfold qN;rw [List.range_succ,List.map_append];rfl
section
variable{L s m n q v:Nat}{F:List Bool}{N:List (List Int)}{p:List Int}
structure Od(p:List Int)(q v:Nat):Prop where
 low:∀j,j<q->p.getD j 0<(v:Int)
 met:∀u,u<v->∃j,j<q/\p.getD j 0=(u:Int)
theorem Od.eI(h:Od p q v)(hc:p.getD q 0<(v:Int)):Od p (q+1) v:=
 ⟨λj hj=>if e:j=q then e▸hc else h.low j aa,λu hu=>by obtain⟨j,hj,e⟩:=h.met u hu;exact⟨j,aa,e⟩⟩
theorem Od.fresh(h:Od p q v)(hp:GM n p m)(hq:q<n)(hc:(v:Int)<=p.getD q 0):p.getD q 0=(v:Int)/\oM p (v:Int)=q/\Od p (q+1) (v+1):=by
 have e:p.getD q 0=(v:Int):=by
  refine ajy λbn=>?_;obtain⟨j,hj,e⟩:=hp.ord q hq v aa;have:=h.low j hj;omega
 have hl:=hp.len;have hm:(v:Int)∈p:=e▸al aa;have h1:=iW hm;have h2:=rT (l:=p) (j:=q) aa e;refine⟨e,?_,λj hj=>?_,λu hu=>?_⟩
 ·refine ajy λbn=>?_
  have:=h.low (oM p (v:Int)) aa;omega
 ·by_cases e2:j=q
  ·rw [e2,e];omega
  ·have:=h.low j aa;omega
 ·by_cases e2:u=v
  ·exact⟨q,aa,by rw [e2];exact e⟩
  ·obtain⟨j,hj,e3⟩:=h.met u aa
   exact⟨j,aa,e3⟩
theorem Od.le(h:Od p q v)(hp:GM n p m)(hq:q<=n):v<=m:=by
 rcases ajF m v with aX|FC
 ·obtain⟨j,hj,e⟩:=h.met m aX
  have:=(hp.oz j aa).2;omega
 ·exact FC
theorem Od.done(h:Od p n v)(hp:GM n p m):v=m:=by
 have h1:=h.le hp (ajl _);rcases ajF v m with aX|FC
 ·obtain⟨q,hq,e⟩:=hp.all v aX
  have:=h.low q hq;omega
 ·omega
theorem zR(hd:DV L s F N)(hp:GM F.length p m):DV L 0 (qF p F m) (qN p N m):=by
 have cX:=hd.st;have hm:0<m:=by have:=(hp.oz 0 aa);omega
 have hle:=hp.le;have hf:=hd.pZ;refine⟨hd.l1,hd.l6,by rw [lM];omega,by rw [lM,E1],by rw [lM];exact hm,λr hr=>?_⟩;obtain⟨u,hu,rfl⟩:=ajU.1 hr;have hu:=ajJ.1 hu;obtain⟨q,hq,e⟩:=hp.all u hu;have hi:=iW (l:=p) (x:=(u:Int)) (e▸al (by rw [hp.len];exact hq));rw [hp.len]at hi;have aH:=hd.row _ (al (d:=[]) (l:=N) (i:=oM p (u:Int)) (by rw [hd.nl];exact hi.1));refine⟨by unfold qR;rw [ajS];exact aH.1,λx hx=>?_⟩;obtain⟨t,ht,rfl⟩:=ajU.1 hx;have h1:=aH.2 t ht;have:=hp.oz t.toNat aa;rw [lM];exact this
end
structure mH(L s:Nat)(F:List Bool)(N:List (List Int))(F':List Bool)(N':List (List Int))(l:List Int)(R:List (List Int))(j:Nat)(l':List Int):Prop where
 tr:zQ N L s l.length l R
 st:(gF R (l.map λq=>F.getD q.toNat false) j).2=(gF R (l.map λq=>F.getD q.toNat false) (j+1)).2
 tr2:zQ (qN (gF R (l.map λq=>F.getD q.toNat false) (j+1)).1 R (gF R (l.map λq=>F.getD q.toNat false) (j+1)).2) L 0 l'.length l' N'
 fin:F'=l'.map λq=>(qF (gF R (l.map λq=>F.getD q.toNat false) (j+1)).1 (l.map λq=>F.getD q.toNat false) (gF R (l.map λq=>F.getD q.toNat false) (j+1)).2).getD q.toNat false
theorem mH.dv{L s:Nat}{F:List Bool}{N:List (List Int)}{F':List Bool}{N':List (List Int)}{l:List Int}{R:List (List Int)}{j:Nat}{l':List Int}(hd:DV L s F N)(h:mH L s F N F' N' l R j l'):DV L 0 F' N'/\F'.length<=F.length:=by
 obtain⟨d1,l1⟩:=h.tr.dv hd;have hc:=o6 (N:=R) (F:=l.map λq=>F.getD q.toNat false) d1.st (j+1);have d2:=zR d1 hc;obtain⟨d3,l3⟩:=h.tr2.dv d2;have hle:=hc.le;rw [lM]at l3;rw [ajS]at hle;rw [h.fin];exact⟨d3,by rw [ajS];omega⟩
def EL(L:Nat)(N:List (List Int)):List (List Int):=(List.range L).map λa=>N.map λr=>r.getD a 0
theorem jk{l:List (List Int)}{i:Nat}{v:List Int}(h:i<l.length):(l.set i v).getD i []=v:=by simp [List.getD,h]
theorem ff{l:List (List Int)}{i j:Nat}{v:List Int}(h:j≠i):(l.set i v).getD j []=l.getD j []:=by simp [List.getD,List.getElem?_set_ne (Ne.symm h)]
theorem OG{l:List (List Int)}{i:Nat}{v:List Int}(h:l.getD i []=v):l.set i v=l:=by
 by_cases e:i<l.length
 ·refine a6 [] (by rw [ajv]) λj _=>?_
  by_cases e1:j=i
  ·rw [e1,jk e,h]
  ·rw [ff e1]
 ·exact List.set_eq_of_length_le aa
end Go.Proofs.YtgailjhnfghkgaaGreatDoor
end
