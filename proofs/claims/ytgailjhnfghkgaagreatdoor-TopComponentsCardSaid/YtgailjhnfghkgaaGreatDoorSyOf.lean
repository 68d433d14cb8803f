import Derived.Test.YtgailjhnfghkgaaGreatDoorDfc
import Derived.Test.YtgailjhnfghkgaaGreatDoorSyLaw
section
namespace Go.Proofs.YtgailjhnfghkgaaGreatDoor
open Go Go.AM
set_option maxRecDepth 100000
set_option maxHeartbeats 4000000
def oL(n:Nat)(l:List Int):List Int:=(List.range n).map λq:Nat=>if (q:Int)∈l then (oM l q:Int) else -1
theorem xc(n:Nat)(l:List Int):(oL n l).length=n:=by simp [oL]
theorem Ea{n:Nat}{l:List Int}{q:Nat}(hq:q<n):(oL n l).getD q 0=if (q:Int)∈l then (oM l q:Int) else -1:=by simp [oL,List.getD,hq]
theorem Ir{L s:Nat}{F:List Bool}{N:List (List Int)}(h:DV L s F N):
  EF 92 [zU L s F N] (zA λl R=>.cL [zU L 0 (l.map λq=>F.getD q.toNat false) R,.ro (.ints .i64 (oL F.length l))]) (zA λl R=>zQ N L s l.length l R):=Jp Tryz.func92 (by decide+kernel) rfl (ah rfl) λ_=>by
 have h5:=h.pZ;refine Or.inl (cq (p4 h) ab ?_);refine ae (λk=>absurd rfl k) (λ_=>?_);refine Or.inr (Or.inl (cn [] [(1000,1)] (RK h) ?_));refine ae ab ?_;refine Mn λl R=>?_;intro hR;have hR:zQ N L s l.length l R:=hR;have hV:=hR.ok h;have Jb:=hV.pZ;refine aj ?_;refine aj ?_;refine af []<|kF (λ(k:Nat) (_:List Int)=>[(32,.int .i64 k)]) (λ_ P=>[(29,.vec 0 (.ints .i64 P) [])]) (λk P=>k<=F.length/\P.length=F.length/\∀y,y<k->P.getD y 0= -1) (λk _=>F.length - k) 0 (List.replicate F.length 0) ⟨ajk _,by simp,aa⟩ (by repeat' first|refine ae ?_ ?_|exact ag|(show(_:Int)=(_:Int);omega)|omega|exact rfl|(simp;omega)) ?_
 rintro k P ⟨hk,hP,Vw⟩;refine ae (λh1=>?_) (λh1=>?_)
 ·have h1:(k:Int)<((List.replicate ((F.length:Nat):Int).toNat (0:Int)).length:Int):=h1
  rw [ajz,ajr]at h1;have lK:k<F.length:=aa;refine aj ?_;refine aj ?_;refine aj ?_;refine nx (k+1,P.set k (-1)) ⟨aa,by rw [ajv];exact hP,λy hy=>?_⟩ (show F.length - (k+1)<F.length - k by omega) ab
  by_cases e:y=k
  ·subst e;rw [aB aa]
  ·rw [getD_set_ne (Ne.symm e)];exact Vw y aa
 ·have h1:((List.replicate ((F.length:Nat):Int).toNat (0:Int)).length:Int)<=(k:Int):=h1
  rw [ajz,ajr]at h1;refine af []<|kF (λ(i:Nat) (_:List Int)=>[(41,.int .i64 i)]) (λ_ M=>[(29,.vec 0 (.ints .i64 M) [])]) (λi M=>i<=l.length/\M.length=F.length/\(∀j,j<i->M.getD (l.getD j 0).toNat 0=(j:Int))/\∀q,q<F.length->(∀j,j<i->l.getD j 0≠(q:Int))->M.getD q 0= -1) (λi _=>l.length - i) 0 P ⟨ajk _,hP,λj hj=>absurd hj (aju _),λq hq _=>Vw q aa⟩ ab ?_
  rintro i M ⟨hi,hM,PC,hMq⟩;refine ae (λh2=>?_) (λh2=>?_)
  ·have h2:(i:Int)<(l.length:Int):=h2
   have bD:i<l.length:=aa;have hq:=hV.oz _ (al (d:=0) bD);refine aj ?_;refine ae (show 0<=l.getD i 0/\l.getD i 0<(M.length:Int) by omega) ?_;refine ae (show(0:Int)<=l.getD i 0 by omega) ?_;refine aj ?_;refine nx (i+1,M.set (l.getD i 0).toNat (i:Int)) ⟨aa,by rw [ajv];exact hM,λj hj=>?_,λq ux dj=>?_⟩ (show l.length - (i+1)<l.length - i by omega) ab
   ·by_cases e:j=i
    ·subst e;rw [aB aa]
    ·have hqj:=hV.oz _ (al (d:=0) (l:=l) (i:=j) aa)
     rw [getD_set_ne (λe2=>e (JS hV.nd aa bD aa))];exact PC j aa
   ·rw [getD_set_ne (λe2=>dj i aa aa)]
    exact hMq q ux λj hj=>dj j aa
  ·have h2:(l.length:Int)<=(i:Int):=h2
   have eM:M=oL F.length l:=by
    refine a6 0 (by rw [xc];exact hM) λq hq=>?_;rw [hM]at hq;rw [Ea hq];split
    ·rename_i hm
     have hx:=iW hm;have:=PC (oM l q) aa;rw [hx.2,ajr]at this;exact this
    ·rename_i hm
     exact hMq q hq λj hj e=>hm (e▸al aa)
   refine af (l,R) (ae hR ?_)
   repeat' first|refine ae ?_ ?_|exact ag|exact ajs (RO.ints .i64) eM|(show(_:Int)=(_:Int);omega)|omega|exact rfl
theorem Eb:∀(E:List (List Int)) (k:Nat),(mapA E k).length=E.length
 |[],_=>rfl
 |_::E,k=>by show(mapA E (k+1)).length+1=E.length+1;rw [Eb E (k+1)]
theorem Ec(E:List (List Int)):(c7 E).length=E.length:=Eb E 0
theorem RL{L s:Nat}{F:List Bool}{N:List (List Int)}(h:DV L s F N)(h2:L<=2):
  EF 93 [zU L s F N] (λp:List Int=>.ro (.ints .i64 p)) (λp=>∃j,(gF N F j).2=(gF N F (j+1)).2/\p=(gF N F (j+1)).1):=Jp Tryz.func93 (by decide+kernel) rfl (ah rfl) λ_=>by
 have h5:=h.pZ;have cX:=h.st;have O1:=h.nl;refine Or.inl (cq (p4 h) ab ?_);refine ae (λk=>absurd rfl k) (λ_=>?_);refine aj ?_;refine aj ?_
 refine af []<|BU (λ(k:Nat) (_:List Int) (m:Nat)=>[(26,.int .i64 k),(4,.int .i64 m)]) (λ_ P _=>[(22,.vec 0 (.ints .i64 P) [])])
  (λk P m=>k<=F.length/\P.length=F.length/\(∀y,y<F.length->P.getD y 0=if y<k then (IM F).getD y 0 else 0)/\((m=1/\∀q,q<k->F.getD q false=F.getD 0 false)\/(m=2/\∃q,q<k/\F.getD q false≠F.getD 0 false))) (λk _ _=>F.length - k) 0 (List.replicate F.length 0) 1
  ⟨ajk _,by simp,λy hy=>by rw [ajm (aju _)];simp [List.getD,hy],.inl ⟨rfl,λq hq=>absurd hq (aju _)⟩⟩ ab ?_
 rintro k P m ⟨hk,hP,Vw,hm⟩;refine ae (λh1=>?_) (λh1=>?_)
 ·have h1:(k:Int)<(F.length:Int):=h1
  have lK:k<F.length:=aa;refine aj ?_;refine aj ?_;refine ae (λh3=>?_) (λh3=>?_)
  ·have h3:(!(F.getD k false==F.getD 0 false))=true:=h3
   have bn:F.getD k false≠F.getD 0 false:=λe=>by rw [e]at h3;simp at h3
   refine aj ?_;refine aj ?_;refine aj ?_;refine nx (k+1,P.set k 1,2) ⟨aa,by rw [ajv];exact hP,λy hy=>?_,.inr ⟨rfl,k,aa,bn⟩⟩ (show F.length - (k+1)<F.length - k by omega) ab
   by_cases e:y=k
   ·subst e;rw [aB aa,ajq aa,gX lK,ajm bn]
   ·rw [getD_set_ne (Ne.symm e),Vw y hy]
    by_cases e2:y<k
    ·rw [ajq e2,ajq aa]
    ·rw [ajm e2,ajm aa]
  ·have h3:(!(F.getD k false==F.getD 0 false))=false:=h3
   have heq:F.getD k false=F.getD 0 false:=by simpa using h3
   refine aj ?_;refine nx (k+1,P,m) ⟨aa,hP,λy hy=>?_,?_⟩ (show F.length - (k+1)<F.length - k by omega) ab
   ·rw [Vw y hy]
    by_cases e:y=k
    ·subst e;rw [ajm (Nat.lt_irrefl _),ajq aa,gX lK,ajq heq]
    ·by_cases e2:y<k
     ·rw [ajq e2,ajq aa]
     ·rw [ajm e2,ajm aa]
   ·rcases hm with ⟨e,hq⟩|⟨e,q,hq,bn⟩
    ·refine .inl ⟨e,λq GN=>?_⟩
     by_cases e2:q=k
     ·rw [e2];exact heq
     ·exact hq q aa
    ·exact .inr ⟨e,q,aa,bn⟩
 ·have h1:(F.length:Int)<=(k:Int):=h1
  have eP:P=IM F:=by
   refine a6 0 (by rw [hP];simp [IM]) λy hy=>?_;rw [Vw y aa,ajq aa]
  have em:m=WI F:=by
   unfold WI;rcases hm with ⟨e,hq⟩|⟨e,q,hq,bn⟩
   ·rw [ajm (λ⟨q,IP,GN⟩=>GN (hq q aa))];exact e
   ·rw [ajq ⟨q,aa,bn⟩];exact e
  clear hm Vw
  refine af [7,8,9,10,11,12,13,14,15,22,10022,10044]<|BU (λ(_:Nat) (c:List Int) (m:Nat)=>[(3,.ro (.ints .i64 c)),(4,.int .i64 m)]) (λ_ _ _=>[])
   (λj c m=>gF N F j=(c,m)) (λ_ _ m=>F.length - m) 0 P m (by rw [eP,em];rfl) ab ?_
  intro j c m hj;have da:=o6 (N:=N) (F:=F) aa j;rw [hj]at da;have aaB:c.length=F.length:=da.len;have z8:m<=F.length:=da.le;refine aj ?_;refine aj ?_
  refine af []<|kF (λ(q:Nat) (_:List Int)=>[(48,.int .i64 q)]) (λq Q=>[(41,.map (.arr 7 .i64) (some .i64) (c7 (dt (bj c N F.length) q))),(44,.vec 0 (.ints .i64 Q) [])])
   (λq Q=>q<=F.length/\Q.length=F.length/\∀y,y<q->Q.getD y 0=(fc (dt (bj c N F.length) q) ((bj c N F.length).getD y []):Int)) (λq _=>F.length - q) 0 (List.replicate F.length 0)
   ⟨ajk _,by simp,λy hy=>absurd hy (aju _)⟩ (by repeat' first|refine ae ?_ ?_|exact ag|(show(_:Int)=(_:Int);omega)|omega|exact rfl|(simp;omega)) ?_
  rintro q Q ⟨hq,hQ,PF⟩;refine ae (λh6=>?_) (λh6=>?_)
  ·have h6:(q:Int)<(N.length:Int):=h6
   have ux:q<F.length:=aa;have aH:=h.row _ (al (d:=[]) (l:=N) (i:=q) aa);have mV:=aH.1;have rX:=h.l1;refine aj ?_;refine aj ?_
   refine af []<|BU (λ(x:Nat) (_ _:Int)=>[(60,.int .i64 x)]) (λ_ k1 k2=>[(11,.box [.int .i64 (c.getD q 0),.int .i64 k1,.int .i64 k2,.int .i64 0,.int .i64 0,.int .i64 0,.int .i64 0])])
    (λx k1 k2=>x<=L/\(k1=if 0<x then c.getD ((N.getD q []).getD 0 0).toNat 0 else 0)/\k2=if 1<x then c.getD ((N.getD q []).getD 1 0).toNat 0 else 0) (λx _ _=>L - x) 0 0 0 ⟨ajk _,rfl,rfl⟩ ab ?_
   rintro x k1 k2 ⟨hx,Wf,KS⟩;refine ae (λh7=>?_) (λh7=>?_)
   ·have h7:(x:Int)<((N.getD q []).length:Int):=h7
    have XB:=aH.2 _ (al (d:=0) (l:=N.getD q []) (i:=x) aa);refine aj ?_;refine aj ?_;refine ae (show 0<=(N.getD q []).getD x 0/\(N.getD q []).getD x 0<(c.length:Int) by omega) ?_;refine aj ?_;refine ae (λk=>absurd (show 1+(x:Int)=0 from k) aa) ?_;refine ae (λk=>?_) ?_
    ·have k:1+(x:Int)=1:=k
     have hx0:x=0:=aa;refine aj ?_;exact nx (x+1,c.getD ((N.getD q []).getD x 0).toNat 0,k2) ⟨aa,by rw [ajq (ako _),hx0],by rw [KS,ajm aa,ajm aa]⟩ (show L - (x+1)<L - x by omega) ab
    refine ae (λk=>?_) ?_
    ·have k:1+(x:Int)=2:=k
     have zO:x=1:=aa;refine aj ?_;exact nx (x+1,k1,c.getD ((N.getD q []).getD x 0).toNat 0) ⟨aa,by rw [Wf,ajq aa,ajq aa],by rw [ajq aa,zO]⟩ (show L - (x+1)<L - x by omega) ab
    refine ae (λk=>absurd (show 1+(x:Int)=3 from k) aa) ?_;refine ae (λk=>absurd (show 1+(x:Int)=4 from k) aa) ?_;refine ae (λk=>absurd (show 1+(x:Int)=5 from k) aa) ?_;refine ae (λk=>absurd (show 1+(x:Int)=6 from k) aa) ?_
    trivial
   ·have h7:((N.getD q []).length:Int)<=(x:Int):=h7
    have uz:x=(N.getD q []).length:=aa
    have x5:[c.getD q 0,k1,k2,0,0,0,0]=(bj c N F.length).getD q []:=by
     rw [nR ux,Wf,KS,uz];rfl
    have jb:dt (bj c N F.length) (q+1)=if (bj c N F.length).getD q []∈dt (bj c N F.length) q then dt (bj c N F.length) q else dt (bj c N F.length) q++[(bj c N F.length).getD q []]:=rfl
    have Hp:=Gk (bj c N F.length) q;have Oc:=Ec (dt (bj c N F.length) q)
    have pc:∀v:Int,v=(fc (dt (bj c N F.length) (q+1)) ((bj c N F.length).getD q []):Int)->∀y,y<q+1->(Q.set q v).getD y 0=(fc (dt (bj c N F.length) (q+1)) ((bj c N F.length).getD y []):Int):=λv hv y hy=>by
     by_cases e:y=q
     ·subst e;rw [aB aa];exact hv
     ·rw [getD_set_ne (Ne.symm e),PF y aa,Vx _ aa]
    refine ae (λg1=>?_) (λg1=>?_)
    ·have g1:(!(getM (c7 (dt (bj c N F.length) q)) [c.getD q 0,k1,k2,0,0,0,0]).isSome)=true:=g1
     rw [x5]at g1;have hm:(bj c N F.length).getD q []∉dt (bj c N F.length) q:=λhm=>by rw [dC,ajq hm]at g1;cases g1
     rw [ajm hm]at jb;have hv:((dt (bj c N F.length) q).length:Int)=(fc (dt (bj c N F.length) (q+1)) ((bj c N F.length).getD q []):Int):=by rw [jb,Is hm]
     have hsm:lA (c7 (dt (bj c N F.length) q)) [c.getD q 0,k1,k2,0,0,0,0] ((c7 (dt (bj c N F.length) q)).length:Int)=c7 (dt (bj c N F.length) (q+1)):=by rw [x5,Oc,sD hm,jb]
     refine ae (show((c7 (dt (bj c N F.length) q)).length:Int)<=9223372036854775807 by omega) ?_;refine aj ?_;refine aj ?_;refine aj ?_;refine nx (q+1,Q.set q ((c7 (dt (bj c N F.length) q)).length:Int)) ⟨aa,by rw [ajv];exact hQ,pc _ (by rw [Oc];exact hv)⟩ (show F.length - (q+1)<F.length - q by omega) (by repeat' first|refine ae ?_ ?_|exact ag|exact hsm|(show(_:Int)=(_:Int);omega)|omega|exact rfl)
    ·have g1:(!(getM (c7 (dt (bj c N F.length) q)) [c.getD q 0,k1,k2,0,0,0,0]).isSome)=false:=g1
     rw [x5]at g1;have hm:(bj c N F.length).getD q []∈dt (bj c N F.length) q:=ajy λhm=>by rw [dC,ajm hm]at g1;cases g1
     rw [ajq hm]at jb;have hg:getM (c7 (dt (bj c N F.length) q)) [c.getD q 0,k1,k2,0,0,0,0]=some (fc (dt (bj c N F.length) q) ((bj c N F.length).getD q []):Int):=by rw [x5,dC,ajq hm]
     refine aj ?_;refine aj ?_;refine aj ?_;refine nx (q+1,Q.set q (fc (dt (bj c N F.length) q) ((bj c N F.length).getD q []):Int)) ⟨aa,by rw [ajv];exact hQ,pc _ (by rw [jb])⟩ (show F.length - (q+1)<F.length - q by omega) (by rw [hg];repeat' first|refine ae ?_ ?_|exact ag|exact ajs (λE=>c7 E) jb.symm|(show(_:Int)=(_:Int);omega)|omega|exact rfl)
  ·have h6:(N.length:Int)<=(q:Int):=h6
   have hqF:q=F.length:=aa;rw [hqF]at PF;have Hp:=Gk (bj c N F.length) F.length;have Oc:=Ec (dt (bj c N F.length) F.length);have hmo:m<=(dt (bj c N F.length) F.length).length:=RM (N:=N) da;have eQ:Q=KH (bj c N F.length) F.length:=a6 0 (by rw [It];exact hQ) λy hy=>by rw [PF y aa,lL aa]
   have hnj:gF N F (j+1)=(KH (bj c N F.length) F.length,(dt (bj c N F.length) F.length).length):=by unfold gF;rw [hj]
   have abh:(c7 (dt (bj c N F.length) q)).length=(dt (bj c N F.length) F.length).length:=by rw [hqF];exact Oc
   refine aj ?_;refine ae (λk1=>?_) (λk1=>?_)
   ·have k1:((c7 (dt (bj c N F.length) q)).length:Int)=(m:Int):=k1
    refine af (KH (bj c N F.length) F.length) (ae ⟨j,?_,by rw [hnj]⟩ ?_)
    ·rw [hnj,hj];show m=(dt (bj c N F.length) F.length).length;omega
    ·repeat' first|refine ae ?_ ?_|exact ag|exact ajs (RO.ints .i64) eQ|(show(_:Int)=(_:Int);omega)|omega|exact rfl
   ·have k1:((c7 (dt (bj c N F.length) q)).length:Int)≠(m:Int):=k1
    refine aj ?_;refine nx (j+1,KH (bj c N F.length) F.length,(dt (bj c N F.length) F.length).length) hnj (show F.length - (dt (bj c N F.length) F.length).length<F.length - m by omega) (by rw [abh];repeat' first|refine ae ?_ ?_|exact ag|exact ajs (RO.ints .i64) eQ|(show(_:Int)=(_:Int);omega)|omega|exact rfl)
theorem RN{L s:Nat}{F:List Bool}{N:List (List Int)}(h:DV L s F N)(h2:L<=2):
  EF 51 [zU L s F N] (zA λF' N'=>.cL [zU L 0 F' N',.any]) (zA λF' N'=>∃l R j l',mH L s F N F' N' l R j l'):=Jp Tryz.func51 (by decide+kernel) rfl (ah rfl) λ_=>by
 have h5:=h.pZ;have cX:=h.st;refine Or.inr (Or.inr (ce (Ir h) ab ?_));refine Mn λl R=>?_;intro hR;have hR:zQ N L s l.length l R:=hR;obtain⟨JZ,rX⟩:=hR.dv h;have hlF:(l.map λq=>F.getD q.toNat false).length=l.length:=ajS _;refine Or.inr (Or.inr (ce (RL JZ h2) ab ?_));intro p hp;obtain⟨j,hj,WJ⟩:=hp;have da:=o6 (N:=R) (F:=l.map λq=>F.getD q.toNat false) JZ.st (j+1);rw [<-WJ]at da;generalize hm:(gF R (l.map λq=>F.getD q.toNat false) (j+1)).2=m at da hj;generalize Vy:(l.map λq=>F.getD q.toNat false)=Ft at JZ da hlF;have gw:=da.len;have z8:=da.le;have mV:=JZ.nl
 refine af []<|kF (λ(q v:Nat)=>[(30,.int .i64 q)]) (λq v=>[(7,.box [.int .i64 L,.int .i64 0,.vec 70,.vec 76]),(70,.vec 0 (.aI (qF p Ft v)) []),(76,.vec 0 (.rows .i64 (qN p R v)) [])])
  (λq v=>q<=p.length/\Od p q v) (λq _=>p.length - q) 0 0 ⟨ajk _,λj hj=>absurd hj (aju _),λu hu=>absurd hu (aju _)⟩ ab ?_
 rintro q v ⟨hq,hI⟩;have ux:=lM p Ft v;have O1:=E1 p R v;refine ae (λk1=>?_) (λk1=>?_)
 ·have k1:(q:Int)<(p.length:Int):=k1
  have hqp:q<l.length:=aa;have BS:=JZ.row _ (al (d:=[]) (l:=R) (i:=q) aa);have Qj:=BS.1;refine aj ?_;refine ae (λk2=>?_) (λk2=>?_)
  ·have k2:p.getD q 0<((qF p Ft v).length:Int):=k2
   rw [ux]at k2;refine aj ?_;exact nx (q+1,v) ⟨aa,hI.eI k2⟩ (show p.length - (q+1)<p.length - q by omega) ab
  ·have k2:((qF p Ft v).length:Int)<=p.getD q 0:=k2
   rw [ux]at k2;obtain⟨hc,Zm,XA⟩:=hI.fresh da aa k2;refine aj ?_;refine aj ?_;refine aj ?_;refine af []<|kF (λ(x:Nat) (_:List Int)=>[(49,.int .i64 x)]) (λ_ Q=>[(42,.vec 0 (.ints .i64 Q) [])]) (λx Q=>x<=L/\Q.length=L/\∀y,y<x->Q.getD y 0=p.getD ((R.getD q []).getD y 0).toNat 0) (λx _=>L - x) 0 (List.replicate L 0) ⟨ajk _,by simp,λy hy=>absurd hy (aju _)⟩ ab ?_
   rintro x Q ⟨hx,hQ,PF⟩;refine ae (λk3=>?_) (λk3=>?_)
   ·have k3:(x:Int)<((R.getD q []).length:Int):=k3
    have XB:=BS.2 _ (al (d:=0) (l:=R.getD q []) (i:=x) aa);refine aj ?_;refine ae (show 0<=(R.getD q []).getD x 0/\(R.getD q []).getD x 0<(p.length:Int) by omega) ?_;refine aj ?_;refine aj ?_;refine aj ?_;refine nx (x+1,Q.set x (p.getD ((R.getD q []).getD x 0).toNat 0)) ⟨aa,by rw [ajv];exact hQ,λy hy=>?_⟩ (show L - (x+1)<L - x by omega) ab
    by_cases e:y=x
    ·subst e;rw [aB aa]
    ·rw [getD_set_ne (Ne.symm e)];exact PF y aa
   ·have k3:((R.getD q []).length:Int)<=(x:Int):=k3
    refine Or.inl ?_;refine af (ai 8++[true,false,true]) (ae (by decide+kernel) ?_);have hvm:=XA.le da aa;have hf5:=JZ.pZ;refine aj ?_;refine ae (by rw [ajp,ajx];omega) ?_;refine ae (by rw [ajp,ajx];omega) ?_;refine aj ?_;have e1:qF p Ft v++[Ft.getD q false]=qF p Ft (v+1):=by rw [RP,Zm]
    have e2:qN p R v++[Q]=qN p R (v+1):=by
     rw [RQ,Zm]
     have:Q=qR p (R.getD q []):=by
      refine a6 0 (by unfold qR;rw [ajS,Qj];exact hQ) λy hy=>?_;rw [PF y aa];unfold qR;rw [getD_eq (l:=List.map _ _) (by rw [ajS];omega),List.getElem_map,getD_eq (l:=R.getD q []) aa]
     rw [this]
    refine nx (q+1,v+1) ⟨aa,XA⟩ (show p.length - (q+1)<p.length - q by omega) (by repeat' first|refine ae ?_ ?_|exact ag|exact ajs RO.aI e1|exact ajs (RO.rows .i64) e2|(show(_:Int)=(_:Int);omega)|omega|exact rfl)
 ·have k1:(p.length:Int)<=(q:Int):=k1
  have hqe:q=Ft.length:=aa;have hvm:v=m:=by rw [hqe]at hI;exact hI.done da
  refine Or.inr (Or.inr (ce (Ir (zR JZ da)) (by rw [hvm];repeat' first|refine ae ?_ ?_|exact ag|(show(_:Int)=(_:Int);omega)|omega|exact rfl|(simp only [RO.len];omega)) ?_));refine Mn λl' N'=>?_;intro VY;have VY:zQ (qN p R m) L 0 l'.length l' N':=VY;have hV':=VY.ok (zR JZ da);have Sx:(oL F.length l).length=F.length:=xc _ _;have ae9:(oL (qF p Ft m).length l').length=m:=by rw [xc,lM]
  refine aj ?_;refine aj ?_;refine af []<|kF (λ(k:Nat) (_:List Int)=>[(89,.int .i64 k)]) (λ_ Q=>[(86,.vec 0 (.ints .i64 Q) [])]) (λk Q=>k<=F.length/\Q.length=F.length) (λk _=>F.length - k) 0 (List.replicate F.length 0) ⟨ajk _,by simp⟩ (by rw [Sx];repeat' first|refine ae ?_ ?_|exact ag|(show(_:Int)=(_:Int);omega)|omega|exact rfl|(simp only [RO.len];omega)) ?_
  rintro k Q ⟨hk,hQ⟩;refine ae (λk3=>?_) (λk3=>?_)
  ·have k3:(k:Int)<((oL F.length l).length:Int):=k3
   have hkF:k<F.length:=aa;have uM:=Ea (l:=l) hkF;refine aj ?_;refine aj ?_;refine aj ?_;refine ae (λk4=>?_) (λk4=>?_)
   ·have k4:0<=(oL F.length l).getD k 0:=k4
    have lQ:(oL F.length l).getD k 0<(p.length:Int):=by
     rw [uM]at k4 ⊢;split at k4
     ·rename_i hm;rw [ajq hm];have:=(iW hm).1;omega
     ·omega
    have Wp:=da.oz ((oL F.length l).getD k 0).toNat aa;refine ae (by simp only [ajr];omega) ?_;refine ae (by simp only [ajr];omega) ?_;refine ae (by simp;omega) ?_;refine aj ?_;refine aj ?_;exact nx (k+1,(Q.set k (-1)).set k ((oL (qF p Ft m).length l').getD (p.getD ((oL F.length l).getD k 0).toNat 0).toNat 0)) ⟨aa,by rw [ajv,ajv];exact hQ⟩ (show F.length - (k+1)<F.length - k by omega) ab
   ·have k4:(oL F.length l).getD k 0<0:=k4
    refine aj ?_;exact nx (k+1,Q.set k (-1)) ⟨aa,by rw [ajv];exact hQ⟩ (show F.length - (k+1)<F.length - k by omega) ab
  ·have k3:((oL F.length l).length:Int)<=(k:Int):=k3
   refine af (l'.map λq=>(qF p Ft m).getD q.toNat false,N') (ae ⟨l,R,j,l',?_⟩ ?_)
   ·refine⟨hR,?_,?_,?_⟩
    ·rw [Vy];rw [Vy]at hm;rw [hm];rw [Vy]at hj;exact hj
    ·rw [Vy];rw [Vy]at WJ hm;rw [<-WJ,hm];exact VY
    ·rw [Vy];rw [Vy]at WJ hm;rw [<-WJ,hm]
   ·repeat' first|refine ae ?_ ?_|exact ag|(show(_:Int)=(_:Int);omega)|omega|exact rfl|(simp only [RO.len];omega)
theorem RR{L s:Nat}{F:List Bool}{N:List (List Int)}(h:DV L s F N)(h2:L<=2):
  EF 22 [zU L s F N] (zA λF' N'=>zU L 0 F' N') (zA λF' N'=>∃l R j l',mH L s F N F' N' l R j l'):=Jp Tryz.func22 (by decide+kernel) rfl (ah rfl) λ_=>by
 refine Or.inl (cq (p4 h) ab ?_);refine ae (λk=>absurd rfl k) (λ_=>?_);refine Or.inr (Or.inr (ce (RN h h2) ab ?_));refine Mn λF' N'=>?_;intro hR;refine af (F',N') (ae hR ?_)
 repeat' first|refine ae ?_ ?_|exact ag|(show(_:Int)=(_:Int);omega)|omega|exact rfl|(simp only [RO.len];omega)
set_option maxHeartbeats 8000000
theorem RS{L:Nat}{F:List Bool}{N:List (List Int)}(h:DV L 0 F N)(hf:F.length<=32):
  MF 25 [.ptr 1000 0,zU L 0 F N] [(1000,.box [.ar,.ar,.int .i64 0])] (.int .i64 0)
   [(1000,.box [.vec 26,.vec 91,.int .i64 F.length]),(26,.deep (.rows .i64 (EL L N)) none),(91,.vec 0 (.ec [(0,F,0)]) [])]:=ui Tryz.func25 (by decide+kernel) rfl (ah rfl) λ_=>Vz h hf
theorem RT{L n:Nat}{G:List (List Int)}{F:List Bool}(hn:n=F.length)(hG:∀f∈G,lJ n f)(h1:1<=n)(h3:n<=3)(hL:G.length=L)(WA:0<L)(Tq:L<=6):
  NF 26 [.ptr 1000 0] [(1000,.box [.ro (.rows .i64 G),.ro (.ec [(0,F,0)]),.int .i64 n])] (X:=List (List Int) × List Int × List (List Int) × List Bool)
   (B4 λE I W Pl=>.cL [.agg [.int .i64 L,.ro (.rows .i64 (aP E)),.ro (.strs W),.ro (.ints .i64 I),.ar,.ro (.aI Pl)],.ro (.bC [E.map λf=>F.getD (f.getD 0 0).toNat false]),.int .i64 0])
   (λ_=>[(1000,.box [.ro (.rows .i64 G),.ro (.ec [(0,F,0)]),.int .i64 n])])
   (B4 λE I W Pl=>∃P Ls R U Ws B S,u6 n G E.length E P Ls Ws B R U S/\I=R.getD 0 []/\WM P Ls W E.length/\W.length=E.length/\Le R Pl E.length E.length):=XL Tryz.func26 (by decide+kernel) rfl (ah rfl) λ_=>VA hn hG h1 h3 hL WA Tq
theorem zS(L:Nat)(N:List (List Int)):(EL L N).length=L:=by simp [EL]
theorem pY{L s:Nat}{F:List Bool}{N:List (List Int)}(h:DV L s F N):∀f∈EL L N,lJ F.length f:=by
 intro f hf;obtain⟨a,ha,e⟩:=ajU.1 hf;refine⟨by rw [<-e,ajS,h.nl],λx hx=>?_⟩;rw [<-e]at hx;obtain⟨r,hr,e2⟩:=ajU.1 hx;have:=h.row r hr;exact e2▸this.2 _ (al (by rw [this.1];exact ajJ.1 ha))
theorem Lp{L s:Nat}{F:List Bool}{N:List (List Int)}(h:DV L s F N)(h2:L<=2)(h3:∀F' N' l R j l',mH L s F N F' N' l R j l'->F'.length<=3):
  EF 7 [zU L s F N] (X:=List Bool × List (List Int) × List (List Int) × List Int × List (List Int) × List Bool)
   (YT λF' N' E I W Pl=>.cL [.agg [.int .i64 L,.ro (.rows .i64 (aP E)),.ro (.strs W),.ro (.ints .i64 I),.ro (.aI (E.map λf=>F'.getD (f.getD 0 0).toNat false)),.ro (.aI Pl)],.int .i64 0])
   (YT λF' N' E I W Pl=>(∃l R j l',mH L s F N F' N' l R j l')/\∃P Ls R U Ws B S,u6 F'.length (EL L N') E.length E P Ls Ws B R U S/\I=R.getD 0 []/\WM P Ls W E.length/\W.length=E.length/\Le R Pl E.length E.length):=Jp Tryz.func7 (by decide+kernel) rfl (ah rfl) λ_=>by
 refine Or.inl (cq (p4 h) ab ?_);refine ae (λk=>absurd rfl k) (λ_=>?_);refine Or.inr (Or.inr (ce (RR h h2) ab ?_));refine Mn λF' N'=>?_;rintro⟨l,R1,j,l',hM⟩;obtain⟨hd,hle⟩:=hM.dv h;have cX:=hd.st;have rX:=h.l1;have h3:=h3 _ _ _ _ _ _ hM;refine Or.inr (Or.inl (cm [] [(1000,5),(26,226),(91,291)] (RS hd aa) ?_));refine ae ab ?_;refine ae (λk=>absurd rfl k) (λ_=>?_);refine Or.inr (Or.inl (cn [226,291] [(1000,5)] (RT (L:=L) (n:=F'.length) (G:=EL L N') (F:=F') rfl (pY hd) aa aa (zS L N') aa aa) ?_));refine ae ab ?_;refine Xk λE I W Pl=>?_;intro hz;refine ae (λk=>absurd rfl k) (λ_=>?_);refine ae (by simp) ?_;refine af (F',N',E,I,W,Pl) (ae ⟨⟨l,R1,j,l',hM⟩,hz⟩ ?_)
 repeat' first|refine ae ?_ ?_|exact ag|(show(_:Int)=(_:Int);omega)|omega|exact rfl|(simp only [RO.len];omega)
end Go.Proofs.YtgailjhnfghkgaaGreatDoor
end
