import Derived.Test.YtgailjhnfghkgaaGreatDoorDfc
import Derived.Test.YtgailjhnfghkgaaGreatDoorSyLaw
import Derived.Test.YtgailjhnfghkgaaGreatDoorCg
import Derived.Test.YtgailjhnfghkgaaGreatDoorEnLaw
section
namespace Go.Proofs.YtgailjhnfghkgaaGreatDoor
open Go Go.AM
set_option maxRecDepth 100000
set_option maxHeartbeats 4000000
def n4(n:Nat)(l:List Int):List Int:=(List.range n).map λ q:Nat=>if (q:Int)∈l then (tI l q:Int) else -1
theorem uy(n:Nat)(l:List Int):(n4 n l).length=n:=by simp [n4]
theorem Bk{n:Nat}{l:List Int}{q:Nat}(hq:q<n):(n4 n l).getD q 0=if (q:Int)∈l then (tI l q:Int) else -1:=by simp [n4,List.getD,hq]
theorem FO{L s:Nat}{F:List Bool}{N:List (List Int)}(h:DV L s F N):
  EF 92 [DO L s F N] (xP λ l R=>.cC [DO L 0 (l.map λ q=>F.getD q.toNat false) R,.ro (.ints .i64 (n4 F.length l))]) (xP λ l R=>DQ N L s l.length l R):=HG Tryz.func92 (by decide+kernel) rfl (ah rfl) λ _=>by
 have h5:=h.tJ;refine Or.inl (cq (tK h) ab ?_);refine ae (λ k=>absurd rfl k) (λ _=>?_);refine Or.inr (Or.inl (cn [] [(1000,1)] (N8 h) ?_));refine ae ab ?_;refine JV λ l R=>?_;intro hR;have hR:DQ N L s l.length l R:=hR;have hV:=hR.ok h;have HH:=hV.tJ;refine ae aa ?_;refine ae aa ?_;refine af []<|lA (λ(k:Nat) (_:List Int)=>[(32,.int .i64 k)]) (λ _ P=>[(29,.vec 0 (.ints .i64 P) [])]) (λ k P=>k<=F.length/\P.length=F.length/\∀y,y<k->P.getD y 0= -1) (λ k _=>F.length - k) 0 (List.replicate F.length 0) ⟨Nat.zero_le _,by simp,aa⟩ (by repeat' first|refine ae ?_ ?_|exact ag|(show(_:Int)=(_:Int);omega)|omega|exact rfl|(simp;omega)) ?_
 rintro k P ⟨hk,hP,R0⟩;refine ae (λ h1=>?_) (λ h1=>?_)
 ·have h1:(k:Int)<((List.replicate ((F.length:Nat):Int).toNat (0:Int)).length:Int):=h1
  rw [List.length_replicate,Int.toNat_natCast]at h1;have lr:k<F.length:=aa;refine ae aa ?_;refine ae aa ?_;refine ae aa ?_;refine nx (k+1,P.set k (-1)) ⟨aa,by rw [List.length_set];exact hP,λ y hy=>?_⟩ (show F.length - (k+1)<F.length - k by omega) ab
  by_cases e:y=k
  ·subst e;rw [aA aa]
  ·rw [getD_set_ne (Ne.symm e)];exact R0 y aa
 ·have h1:((List.replicate ((F.length:Nat):Int).toNat (0:Int)).length:Int)<=(k:Int):=h1
  rw [List.length_replicate,Int.toNat_natCast]at h1;refine af []<|lA (λ(i:Nat) (_:List Int)=>[(41,.int .i64 i)]) (λ _ M=>[(29,.vec 0 (.ints .i64 M) [])]) (λ i M=>i<=l.length/\M.length=F.length/\(∀j,j<i->M.getD (l.getD j 0).toNat 0=(j:Int))/\∀q,q<F.length->(∀j,j<i->l.getD j 0≠(q:Int))->M.getD q 0= -1) (λ i _=>l.length - i) 0 P ⟨Nat.zero_le _,hP,λ j hj=>absurd hj (Nat.not_lt_zero _),λ q hq _=>R0 q aa⟩ ab ?_
  rintro i M ⟨hi,hM,N9,hMq⟩;refine ae (λ h2=>?_) (λ h2=>?_)
  ·have h2:(i:Int)<(l.length:Int):=h2
   have bL:i<l.length:=aa;have hq:=hV.w9 _ (an (d:=0) bL);refine ae aa ?_;refine ae (show 0<=l.getD i 0/\l.getD i 0<(M.length:Int) by omega) ?_;refine ae (show(0:Int)<=l.getD i 0 by omega) ?_;refine ae aa ?_;refine nx (i+1,M.set (l.getD i 0).toNat (i:Int)) ⟨aa,by rw [List.length_set];exact hM,λ j hj=>?_,λ q xa c9=>?_⟩ (show l.length - (i+1)<l.length - i by omega) ab
   ·by_cases e:j=i
    ·subst e;rw [aA aa]
    ·have Yb:=hV.w9 _ (an (d:=0) (l:=l) (i:=j) aa)
     rw [getD_set_ne (λ e2=>e (HI hV.nd aa bL aa))];exact N9 j aa
   ·rw [getD_set_ne (λ e2=>c9 i aa aa)]
    exact hMq q xa λ j hj=>c9 j aa
  ·have h2:(l.length:Int)<=(i:Int):=h2
   have eM:M=n4 F.length l:=by
    refine bj 0 (by rw [uy];exact hM) λ q hq=>?_;rw [hM]at hq;rw [Bk hq];split
    ·rename_i hm
     have hx:=nw hm;have:=N9 (tI l q) aa;rw [hx.2,Int.toNat_natCast]at this;exact this
    ·rename_i hm
     exact hMq q hq λ j hj e=>hm (e▸an aa)
   refine af (l,R) (ae hR ?_)
   repeat' first|refine ae ?_ ?_|exact ag|exact congrArg (RO.ints .i64) eM|(show(_:Int)=(_:Int);omega)|omega|exact rfl
end Go.Proofs.YtgailjhnfghkgaaGreatDoor
end
section
namespace Go.Proofs.YtgailjhnfghkgaaGreatDoor
open Go Go.AM
set_option maxRecDepth 100000
set_option maxHeartbeats 4000000
theorem Bl:∀(E:List (List Int)) (k:Nat),(mapA E k).length=E.length
 |[],_=>rfl
 |_::E,k=>by show(mapA E (k+1)).length+1=E.length+1;rw [Bl E (k+1)]
theorem Bm(E:List (List Int)):(cS E).length=E.length:=Bl E 0
theorem Oa{L s:Nat}{F:List Bool}{N:List (List Int)}(h:DV L s F N)(h2:L<=2):
  EF 93 [DO L s F N] (λ p:List Int=>.ro (.ints .i64 p)) (λ p=>∃j,(Bn N F j).2=(Bn N F (j+1)).2/\p=(Bn N F (j+1)).1):=HG Tryz.func93 (by decide+kernel) rfl (ah rfl) λ _=>by
 have h5:=h.tJ;have c8:=h.st;have Ob:=h.nl;refine Or.inl (cq (tK h) ab ?_);refine ae (λ k=>absurd rfl k) (λ _=>?_);refine ae aa ?_;refine ae aa ?_
 refine af []<|A9 (λ(k:Nat) (_:List Int) (m:Nat)=>[(26,.int .i64 k),(4,.int .i64 m)]) (λ _ P _=>[(22,.vec 0 (.ints .i64 P) [])])
  (λ k P m=>k<=F.length/\P.length=F.length/\(∀y,y<F.length->P.getD y 0=if y<k then (Oc F).getD y 0 else 0)/\((m=1/\∀q,q<k->F.getD q false=F.getD 0 false)\/(m=2/\∃q,q<k/\F.getD q false≠F.getD 0 false))) (λ k _ _=>F.length - k) 0 (List.replicate F.length 0) 1
  ⟨Nat.zero_le _,by simp,λ y hy=>by rw [if_neg (Nat.not_lt_zero _)];simp [List.getD,hy],.inl ⟨rfl,λ q hq=>absurd hq (Nat.not_lt_zero _)⟩⟩ ab ?_
 rintro k P m ⟨hk,hP,R0,hm⟩;refine ae (λ h1=>?_) (λ h1=>?_)
 ·have h1:(k:Int)<(F.length:Int):=h1
  have lr:k<F.length:=aa;refine ae aa ?_;refine ae aa ?_;refine ae (λ h3=>?_) (λ h3=>?_)
  ·have h3:(!(F.getD k false==F.getD 0 false))=true:=h3
   have bm:F.getD k false≠F.getD 0 false:=λ e=>by rw [e]at h3;simp at h3
   refine ae aa ?_;refine ae aa ?_;refine ae aa ?_;refine nx (k+1,P.set k 1,2) ⟨aa,by rw [List.length_set];exact hP,λ y hy=>?_,.inr ⟨rfl,k,aa,bm⟩⟩ (show F.length - (k+1)<F.length - k by omega) ab
   by_cases e:y=k
   ·subst e;rw [aA aa,if_pos aa,nA lr,if_neg bm]
   ·rw [getD_set_ne (Ne.symm e),R0 y hy]
    by_cases e2:y<k
    ·rw [if_pos e2,if_pos aa]
    ·rw [if_neg e2,if_neg aa]
  ·have h3:(!(F.getD k false==F.getD 0 false))=false:=h3
   have heq:F.getD k false=F.getD 0 false:=by simpa using h3
   refine ae aa ?_;refine nx (k+1,P,m) ⟨aa,hP,λ y hy=>?_,?_⟩ (show F.length - (k+1)<F.length - k by omega) ab
   ·rw [R0 y hy]
    by_cases e:y=k
    ·subst e;rw [if_neg (Nat.lt_irrefl _),if_pos aa,nA lr,if_pos heq]
    ·by_cases e2:y<k
     ·rw [if_pos e2,if_pos aa]
     ·rw [if_neg e2,if_neg aa]
   ·rcases hm with ⟨e,hq⟩|⟨e,q,hq,bm⟩
    ·refine .inl ⟨e,λ q NH=>?_⟩
     by_cases e2:q=k
     ·rw [e2];exact heq
     ·exact hq q aa
    ·exact .inr ⟨e,q,aa,bm⟩
 ·have h1:(F.length:Int)<=(k:Int):=h1
  have eP:P=Oc F:=by
   refine bj 0 (by rw [hP];simp [Oc]) λ y hy=>?_;rw [R0 y aa,if_pos aa]
  have em:m=Uy F:=by
   unfold Uy;rcases hm with ⟨e,hq⟩|⟨e,q,hq,bm⟩
   ·rw [if_neg (λ⟨q,Od,NH⟩=>NH (hq q aa))];exact e
   ·rw [if_pos ⟨q,aa,bm⟩];exact e
  clear hm R0
  refine af [7,8,9,10,11,12,13,14,15,22,10022,10044]<|A9 (λ(_:Nat) (c:List Int) (m:Nat)=>[(3,.ro (.ints .i64 c)),(4,.int .i64 m)]) (λ _ _ _=>[])
   (λ j c m=>Bn N F j=(c,m)) (λ _ _ m=>F.length - m) 0 P m (by rw [eP,em];rfl) ab ?_
  intro j c m hj;have da:=D4 (N:=N) (F:=F) aa j;rw [hj]at da;have Yc:c.length=F.length:=da.len;have ze:m<=F.length:=da.le;refine ae aa ?_;refine ae aa ?_
  refine af []<|lA (λ(q:Nat) (_:List Int)=>[(48,.int .i64 q)]) (λ q Q=>[(41,.map (.arr 7 .i64) (some .i64) (cS (dx (bd c N F.length) q))),(44,.vec 0 (.ints .i64 Q) [])])
   (λ q Q=>q<=F.length/\Q.length=F.length/\∀y,y<q->Q.getD y 0=(ff (dx (bd c N F.length) q) ((bd c N F.length).getD y []):Int)) (λ q _=>F.length - q) 0 (List.replicate F.length 0)
   ⟨Nat.zero_le _,by simp,λ y hy=>absurd hy (Nat.not_lt_zero _)⟩ (by repeat' first|refine ae ?_ ?_|exact ag|(show(_:Int)=(_:Int);omega)|omega|exact rfl|(simp;omega)) ?_
  rintro q Q ⟨hq,hQ,Uz⟩;refine ae (λ h6=>?_) (λ h6=>?_)
  ·have h6:(q:Int)<(N.length:Int):=h6
   have xa:q<F.length:=aa;have aI:=h.row _ (an (d:=[]) (l:=N) (i:=q) aa);have pA:=aI.1;have xb:=h.l1;refine ae aa ?_;refine ae aa ?_
   refine af []<|A9 (λ(x:Nat) (_ _:Int)=>[(60,.int .i64 x)]) (λ _ k1 k2=>[(11,.box [.int .i64 (c.getD q 0),.int .i64 k1,.int .i64 k2,.int .i64 0,.int .i64 0,.int .i64 0,.int .i64 0])])
    (λ x k1 k2=>x<=L/\(k1=if 0<x then c.getD ((N.getD q []).getD 0 0).toNat 0 else 0)/\k2=if 1<x then c.getD ((N.getD q []).getD 1 0).toNat 0 else 0) (λ x _ _=>L - x) 0 0 0 ⟨Nat.zero_le _,rfl,rfl⟩ ab ?_
   rintro x k1 k2 ⟨hx,UA,JA⟩;refine ae (λ h7=>?_) (λ h7=>?_)
   ·have h7:(x:Int)<((N.getD q []).length:Int):=h7
    have hqx:=aI.2 _ (an (d:=0) (l:=N.getD q []) (i:=x) aa);refine ae aa ?_;refine ae aa ?_;refine ae (show 0<=(N.getD q []).getD x 0/\(N.getD q []).getD x 0<(c.length:Int) by omega) ?_;refine ae aa ?_;refine ae (λ k=>absurd (show 1+(x:Int)=0 from k) aa) ?_;refine ae (λ k=>?_) ?_
    ·have k:1+(x:Int)=1:=k
     have hx0:x=0:=aa;refine ae aa ?_;exact nx (x+1,c.getD ((N.getD q []).getD x 0).toNat 0,k2) ⟨aa,by rw [if_pos (Nat.succ_pos _),hx0],by rw [JA,if_neg aa,if_neg aa]⟩ (show L - (x+1)<L - x by omega) ab
    refine ae (λ k=>?_) ?_
    ·have k:1+(x:Int)=2:=k
     have QR:x=1:=aa;refine ae aa ?_;exact nx (x+1,k1,c.getD ((N.getD q []).getD x 0).toNat 0) ⟨aa,by rw [UA,if_pos aa,if_pos aa],by rw [if_pos aa,QR]⟩ (show L - (x+1)<L - x by omega) ab
    refine ae (λ k=>absurd (show 1+(x:Int)=3 from k) aa) ?_;refine ae (λ k=>absurd (show 1+(x:Int)=4 from k) aa) ?_;refine ae (λ k=>absurd (show 1+(x:Int)=5 from k) aa) ?_;refine ae (λ k=>absurd (show 1+(x:Int)=6 from k) aa) ?_
    trivial
   ·have h7:((N.getD q []).length:Int)<=(x:Int):=h7
    have zf:x=(N.getD q []).length:=aa
    have xi:[c.getD q 0,k1,k2,0,0,0,0]=(bd c N F.length).getD q []:=by
     rw [xQ xa,UA,JA,zf];rfl
    have iI:dx (bd c N F.length) (q+1)=if (bd c N F.length).getD q []∈dx (bd c N F.length) q then dx (bd c N F.length) q else dx (bd c N F.length) q++[(bd c N F.length).getD q []]:=rfl
    have FP:=D5 (bd c N F.length) q;have JW:=Bm (dx (bd c N F.length) q)
    have oK:∀v:Int,v=(ff (dx (bd c N F.length) (q+1)) ((bd c N F.length).getD q []):Int)->∀y,y<q+1->(Q.set q v).getD y 0=(ff (dx (bd c N F.length) (q+1)) ((bd c N F.length).getD y []):Int):=λ v hv y hy=>by
     by_cases e:y=q
     ·subst e;rw [aA aa];exact hv
     ·rw [getD_set_ne (Ne.symm e),Uz y aa,R4 _ aa]
    refine ae (λ g1=>?_) (λ g1=>?_)
    ·have g1:(!(getM (cS (dx (bd c N F.length) q)) [c.getD q 0,k1,k2,0,0,0,0]).isSome)=true:=g1
     rw [xi]at g1;have hm:(bd c N F.length).getD q []∉dx (bd c N F.length) q:=λ hm=>by rw [di,if_pos hm]at g1;cases g1
     rw [if_neg hm]at iI;have hv:((dx (bd c N F.length) q).length:Int)=(ff (dx (bd c N F.length) (q+1)) ((bd c N F.length).getD q []):Int):=by rw [iI,FQ hm]
     have hsm:kI (cS (dx (bd c N F.length) q)) [c.getD q 0,k1,k2,0,0,0,0] ((cS (dx (bd c N F.length) q)).length:Int)=cS (dx (bd c N F.length) (q+1)):=by rw [xi,JW,rf hm,iI]
     refine ae (show((cS (dx (bd c N F.length) q)).length:Int)<=9223372036854775807 by omega) ?_;refine ae aa ?_;refine ae aa ?_;refine ae aa ?_;refine nx (q+1,Q.set q ((cS (dx (bd c N F.length) q)).length:Int)) ⟨aa,by rw [List.length_set];exact hQ,oK _ (by rw [JW];exact hv)⟩ (show F.length - (q+1)<F.length - q by omega) (by repeat' first|refine ae ?_ ?_|exact ag|exact hsm|(show(_:Int)=(_:Int);omega)|omega|exact rfl)
    ·have g1:(!(getM (cS (dx (bd c N F.length) q)) [c.getD q 0,k1,k2,0,0,0,0]).isSome)=false:=g1
     rw [xi]at g1;have hm:(bd c N F.length).getD q []∈dx (bd c N F.length) q:=Classical.byContradiction λ hm=>by rw [di,if_neg hm]at g1;cases g1
     rw [if_pos hm]at iI;have hg:getM (cS (dx (bd c N F.length) q)) [c.getD q 0,k1,k2,0,0,0,0]=some (ff (dx (bd c N F.length) q) ((bd c N F.length).getD q []):Int):=by rw [xi,di,if_pos hm]
     refine ae aa ?_;refine ae aa ?_;refine ae aa ?_;refine nx (q+1,Q.set q (ff (dx (bd c N F.length) q) ((bd c N F.length).getD q []):Int)) ⟨aa,by rw [List.length_set];exact hQ,oK _ (by rw [iI])⟩ (show F.length - (q+1)<F.length - q by omega) (by rw [hg];repeat' first|refine ae ?_ ?_|exact ag|exact congrArg (λ E=>cS E) iI.symm|(show(_:Int)=(_:Int);omega)|omega|exact rfl)
  ·have h6:(N.length:Int)<=(q:Int):=h6
   have Yd:q=F.length:=aa;rw [Yd]at Uz;have FP:=D5 (bd c N F.length) F.length;have JW:=Bm (dx (bd c N F.length) F.length);have hmo:m<=(dx (bd c N F.length) F.length).length:=Oe (N:=N) da;have eQ:Q=NI (bd c N F.length) F.length:=bj 0 (by rw [FR];exact hQ) λ y hy=>by rw [Uz y aa,pD aa]
   have Vi:Bn N F (j+1)=(NI (bd c N F.length) F.length,(dx (bd c N F.length) F.length).length):=by unfold Bn;rw [hj]
   have Ye:(cS (dx (bd c N F.length) q)).length=(dx (bd c N F.length) F.length).length:=by rw [Yd];exact JW
   refine ae aa ?_;refine ae (λ k1=>?_) (λ k1=>?_)
   ·have k1:((cS (dx (bd c N F.length) q)).length:Int)=(m:Int):=k1
    refine af (NI (bd c N F.length) F.length) (ae ⟨j,?_,by rw [Vi]⟩ ?_)
    ·rw [Vi,hj];show m=(dx (bd c N F.length) F.length).length;omega
    ·repeat' first|refine ae ?_ ?_|exact ag|exact congrArg (RO.ints .i64) eQ|(show(_:Int)=(_:Int);omega)|omega|exact rfl
   ·have k1:((cS (dx (bd c N F.length) q)).length:Int)≠(m:Int):=k1
    refine ae aa ?_;refine nx (j+1,NI (bd c N F.length) F.length,(dx (bd c N F.length) F.length).length) Vi (show F.length - (dx (bd c N F.length) F.length).length<F.length - m by omega) (by rw [Ye];repeat' first|refine ae ?_ ?_|exact ag|exact congrArg (RO.ints .i64) eQ|(show(_:Int)=(_:Int);omega)|omega|exact rfl)
end Go.Proofs.YtgailjhnfghkgaaGreatDoor
end
section
namespace Go.Proofs.YtgailjhnfghkgaaGreatDoor
open Go Go.AM
set_option maxRecDepth 100000
set_option maxHeartbeats 4000000
theorem Of{L s:Nat}{F:List Bool}{N:List (List Int)}(h:DV L s F N)(h2:L<=2):
  EF 51 [DO L s F N] (xP λ F' N'=>.cC [DO L 0 F' N',.any]) (xP λ F' N'=>∃l R j l',HJ L s F N F' N' l R j l'):=HG Tryz.func51 (by decide+kernel) rfl (ah rfl) λ _=>by
 have h5:=h.tJ;have c8:=h.st;refine Or.inr (Or.inr (ce (FO h) ab ?_));refine JV λ l R=>?_;intro hR;have hR:DQ N L s l.length l R:=hR;obtain⟨HK,xb⟩:=hR.dv h;have hlF:(l.map λ q=>F.getD q.toNat false).length=l.length:=List.length_map _;refine Or.inr (Or.inr (ce (Oa HK h2) ab ?_));intro p hp;obtain⟨j,hj,UB⟩:=hp;have da:=D4 (N:=R) (F:=l.map λ q=>F.getD q.toNat false) HK.st (j+1);rw [<-UB]at da;generalize hm:(Bn R (l.map λ q=>F.getD q.toNat false) (j+1)).2=m at da hj;generalize R5:(l.map λ q=>F.getD q.toNat false)=Ft at HK da hlF;have gb:=da.len;have ze:=da.le;have pA:=HK.nl
 refine af []<|lA (λ(q v:Nat)=>[(30,.int .i64 q)]) (λ q v=>[(7,.box [.int .i64 L,.int .i64 0,.vec 70,.vec 76]),(70,.vec 0 (.aL (qF p Ft v)) []),(76,.vec 0 (.rows .i64 (qN p R v)) [])])
  (λ q v=>q<=p.length/\JX p q v) (λ q _=>p.length - q) 0 0 ⟨Nat.zero_le _,λ j hj=>absurd hj (Nat.not_lt_zero _),λ u hu=>absurd hu (Nat.not_lt_zero _)⟩ ab ?_
 rintro q v ⟨hq,hI⟩;have xa:=oL p Ft v;have Ob:=JY p R v;refine ae (λ k1=>?_) (λ k1=>?_)
 ·have k1:(q:Int)<(p.length:Int):=k1
  have hqp:q<l.length:=aa;have DR:=HK.row _ (an (d:=[]) (l:=R) (i:=q) aa);have Og:=DR.1;refine ae aa ?_;refine ae (λ k2=>?_) (λ k2=>?_)
  ·have k2:p.getD q 0<((qF p Ft v).length:Int):=k2
   rw [xa]at k2;refine ae aa ?_;exact nx (q+1,v) ⟨aa,hI.eu k2⟩ (show p.length - (q+1)<p.length - q by omega) ab
  ·have k2:((qF p Ft v).length:Int)<=p.getD q 0:=k2
   rw [xa]at k2;obtain⟨hc,Xh,Vj⟩:=hI.fresh da aa k2;refine ae aa ?_;refine ae aa ?_;refine ae aa ?_;refine af []<|lA (λ(x:Nat) (_:List Int)=>[(49,.int .i64 x)]) (λ _ Q=>[(42,.vec 0 (.ints .i64 Q) [])]) (λ x Q=>x<=L/\Q.length=L/\∀y,y<x->Q.getD y 0=p.getD ((R.getD q []).getD y 0).toNat 0) (λ x _=>L - x) 0 (List.replicate L 0) ⟨Nat.zero_le _,by simp,λ y hy=>absurd hy (Nat.not_lt_zero _)⟩ ab ?_
   rintro x Q ⟨hx,hQ,Uz⟩;refine ae (λ k3=>?_) (λ k3=>?_)
   ·have k3:(x:Int)<((R.getD q []).length:Int):=k3
    have hqx:=DR.2 _ (an (d:=0) (l:=R.getD q []) (i:=x) aa);refine ae aa ?_;refine ae (show 0<=(R.getD q []).getD x 0/\(R.getD q []).getD x 0<(p.length:Int) by omega) ?_;refine ae aa ?_;refine ae aa ?_;refine ae aa ?_;refine nx (x+1,Q.set x (p.getD ((R.getD q []).getD x 0).toNat 0)) ⟨aa,by rw [List.length_set];exact hQ,λ y hy=>?_⟩ (show L - (x+1)<L - x by omega) ab
    by_cases e:y=x
    ·subst e;rw [aA aa]
    ·rw [getD_set_ne (Ne.symm e)];exact Uz y aa
   ·have k3:((R.getD q []).length:Int)<=(x:Int):=k3
    refine Or.inl ?_;refine af [false,false,false,false,false,false,false,false,true,false,true] (ae (by decide+kernel) ?_);have hvm:=Vj.le da aa;have hf5:=HK.tJ;refine ae aa ?_;refine ae (by rw [List.length_append,List.length_singleton];omega) ?_;refine ae (by rw [List.length_append,List.length_singleton];omega) ?_;refine ae aa ?_;have e1:qF p Ft v++[Ft.getD q false]=qF p Ft (v+1):=by rw [Oh,Xh]
    have e2:qN p R v++[Q]=qN p R (v+1):=by
     rw [Oi,Xh]
     have:Q=qR p (R.getD q []):=by
      refine bj 0 (by unfold qR;rw [List.length_map,Og];exact hQ) λ y hy=>?_;rw [Uz y aa];unfold qR;rw [getD_eq (l:=List.map _ _) (by rw [List.length_map];omega),List.getElem_map,getD_eq (l:=R.getD q []) aa]
     rw [this]
    refine nx (q+1,v+1) ⟨aa,Vj⟩ (show p.length - (q+1)<p.length - q by omega) (by repeat' first|refine ae ?_ ?_|exact ag|exact congrArg RO.aL e1|exact congrArg (RO.rows .i64) e2|(show(_:Int)=(_:Int);omega)|omega|exact rfl)
 ·have k1:(p.length:Int)<=(q:Int):=k1
  have Yf:q=Ft.length:=aa;have hvm:v=m:=by rw [Yf]at hI;exact hI.done da
  refine Or.inr (Or.inr (ce (FO (D6 HK da)) (by rw [hvm];repeat' first|refine ae ?_ ?_|exact ag|(show(_:Int)=(_:Int);omega)|omega|exact rfl|(simp only [RO.len];omega)) ?_));refine JV λ l' N'=>?_;intro Xi;have Xi:DQ (qN p R m) L 0 l'.length l' N':=Xi;have hV':=Xi.ok (D6 HK da);have QT:(n4 F.length l).length=F.length:=uy _ _;have abI:(n4 (qF p Ft m).length l').length=m:=by rw [uy,oL]
  refine ae aa ?_;refine ae aa ?_;refine af []<|lA (λ(k:Nat) (_:List Int)=>[(89,.int .i64 k)]) (λ _ Q=>[(86,.vec 0 (.ints .i64 Q) [])]) (λ k Q=>k<=F.length/\Q.length=F.length) (λ k _=>F.length - k) 0 (List.replicate F.length 0) ⟨Nat.zero_le _,by simp⟩ (by rw [QT];repeat' first|refine ae ?_ ?_|exact ag|(show(_:Int)=(_:Int);omega)|omega|exact rfl|(simp only [RO.len];omega)) ?_
  rintro k Q ⟨hk,hQ⟩;refine ae (λ k3=>?_) (λ k3=>?_)
  ·have k3:(k:Int)<((n4 F.length l).length:Int):=k3
   have hkF:k<F.length:=aa;have tL:=Bk (l:=l) hkF;refine ae aa ?_;refine ae aa ?_;refine ae aa ?_;refine ae (λ k4=>?_) (λ k4=>?_)
   ·have k4:0<=(n4 F.length l).getD k 0:=k4
    have j9:(n4 F.length l).getD k 0<(p.length:Int):=by
     rw [tL]at k4 ⊢;split at k4
     ·rename_i hm;rw [if_pos hm];have:=(nw hm).1;omega
     ·omega
    have UC:=da.w9 ((n4 F.length l).getD k 0).toNat aa;refine ae (by simp only [Int.toNat_natCast];omega) ?_;refine ae (by simp only [Int.toNat_natCast];omega) ?_;refine ae (by simp;omega) ?_;refine ae aa ?_;refine ae aa ?_;exact nx (k+1,(Q.set k (-1)).set k ((n4 (qF p Ft m).length l').getD (p.getD ((n4 F.length l).getD k 0).toNat 0).toNat 0)) ⟨aa,by rw [List.length_set,List.length_set];exact hQ⟩ (show F.length - (k+1)<F.length - k by omega) ab
   ·have k4:(n4 F.length l).getD k 0<0:=k4
    refine ae aa ?_;exact nx (k+1,Q.set k (-1)) ⟨aa,by rw [List.length_set];exact hQ⟩ (show F.length - (k+1)<F.length - k by omega) ab
  ·have k3:((n4 F.length l).length:Int)<=(k:Int):=k3
   refine af (l'.map λ q=>(qF p Ft m).getD q.toNat false,N') (ae ⟨l,R,j,l',?_⟩ ?_)
   ·refine⟨hR,?_,?_,?_⟩
    ·rw [R5];rw [R5]at hm;rw [hm];rw [R5]at hj;exact hj
    ·rw [R5];rw [R5]at UB hm;rw [<-UB,hm];exact Xi
    ·rw [R5];rw [R5]at UB hm;rw [<-UB,hm]
   ·repeat' first|refine ae ?_ ?_|exact ag|(show(_:Int)=(_:Int);omega)|omega|exact rfl|(simp only [RO.len];omega)
theorem Oj{L s:Nat}{F:List Bool}{N:List (List Int)}(h:DV L s F N)(h2:L<=2):
  EF 22 [DO L s F N] (xP λ F' N'=>DO L 0 F' N') (xP λ F' N'=>∃l R j l',HJ L s F N F' N' l R j l'):=HG Tryz.func22 (by decide+kernel) rfl (ah rfl) λ _=>by
 refine Or.inl (cq (tK h) ab ?_);refine ae (λ k=>absurd rfl k) (λ _=>?_);refine Or.inr (Or.inr (ce (Of h h2) ab ?_));refine JV λ F' N'=>?_;intro hR;refine af (F',N') (ae hR ?_)
 repeat' first|refine ae ?_ ?_|exact ag|(show(_:Int)=(_:Int);omega)|omega|exact rfl|(simp only [RO.len];omega)
end Go.Proofs.YtgailjhnfghkgaaGreatDoor
end
section
namespace Go.Proofs.YtgailjhnfghkgaaGreatDoor
open Go Go.AM
set_option maxRecDepth 100000
set_option maxHeartbeats 8000000
theorem Ol{L:Nat}{F:List Bool}{N:List (List Int)}(h:DV L 0 F N)(hf:F.length<=32):
  MF 25 [.ptr 1000 0,DO L 0 F N] [(1000,.box [.ao,.ao,.int .i64 0])] (.int .i64 0)
   [(1000,.box [.vec 26,.vec 91,.int .i64 F.length]),(26,.deep (.rows .i64 (NJ L N)) none),(91,.vec 0 (.dP [(0,F,0)]) [])]:=tf Tryz.func25 (by decide+kernel) rfl (ah rfl) λ _=>R6 h hf
theorem Om{L n:Nat}{G:List (List Int)}{F:List Bool}(hn:n=F.length)(hG:∀f∈G,lu n f)(h1:1<=n)(h3:n<=3)(hL:G.length=L)(UD:0<L)(QU:L<=6):
  NF 26 [.ptr 1000 0] [(1000,.box [.ro (.rows .i64 G),.ro (.dP [(0,F,0)]),.int .i64 n])] (X:=List (List Int) × List Int × List (List Int) × List Bool)
   (Ba λ E I W Pl=>.cC [.agg [.int .i64 L,.ro (.rows .i64 (dZ E)),.ro (.strs W),.ro (.ints .i64 I),.ao,.ro (.aL Pl)],.ro (.bw [E.map λ f=>F.getD (f.getD 0 0).toNat false]),.int .i64 0])
   (λ _=>[(1000,.box [.ro (.rows .i64 G),.ro (.dP [(0,F,0)]),.int .i64 n])])
   (Ba λ E I W Pl=>∃P Ls R U Ws B S,zh n G E.length E P Ls Ws B R U S/\I=R.getD 0 []/\Xj P Ls W E.length/\W.length=E.length/\R7 R Pl E.length E.length):=Vk Tryz.func26 (by decide+kernel) rfl (ah rfl) λ _=>R8 hn hG h1 h3 hL UD QU
theorem Oo(L:Nat)(N:List (List Int)):(NJ L N).length=L:=by simp [NJ]
theorem FT{L s:Nat}{F:List Bool}{N:List (List Int)}(h:DV L s F N):∀f∈NJ L N,lu F.length f:=by
 intro f hf;obtain⟨a,ha,e⟩:=List.mem_map.1 hf;refine⟨by rw [<-e,List.length_map,h.nl],λ x hx=>?_⟩;rw [<-e]at hx;obtain⟨r,hr,e2⟩:=List.mem_map.1 hx;have:=h.row r hr;exact e2▸this.2 _ (an (by rw [this.1];exact List.mem_range.1 ha))
theorem R9{L s:Nat}{F:List Bool}{N:List (List Int)}(h:DV L s F N)(h2:L<=2)(h3:∀F' N' l R j l',HJ L s F N F' N' l R j l'->F'.length<=3):
  EF 7 [DO L s F N] (X:=List Bool × List (List Int) × List (List Int) × List Int × List (List Int) × List Bool)
   (Xk λ F' N' E I W Pl=>.cC [.agg [.int .i64 L,.ro (.rows .i64 (dZ E)),.ro (.strs W),.ro (.ints .i64 I),.ro (.aL (E.map λ f=>F'.getD (f.getD 0 0).toNat false)),.ro (.aL Pl)],.int .i64 0])
   (Xk λ F' N' E I W Pl=>(∃l R j l',HJ L s F N F' N' l R j l')/\∃P Ls R U Ws B S,zh F'.length (NJ L N') E.length E P Ls Ws B R U S/\I=R.getD 0 []/\Xj P Ls W E.length/\W.length=E.length/\R7 R Pl E.length E.length):=HG Tryz.func7 (by decide+kernel) rfl (ah rfl) λ _=>by
 refine Or.inl (cq (tK h) ab ?_);refine ae (λ k=>absurd rfl k) (λ _=>?_);refine Or.inr (Or.inr (ce (Oj h h2) ab ?_));refine JV λ F' N'=>?_;rintro⟨l,R1,j,l',hM⟩;obtain⟨hd,hle⟩:=hM.dv h;have c8:=hd.st;have xb:=h.l1;have h3:=h3 _ _ _ _ _ _ hM;refine Or.inr (Or.inl (cm [] [(1000,5),(26,226),(91,291)] (Ol hd aa) ?_));refine ae ab ?_;refine ae (λ k=>absurd rfl k) (λ _=>?_);refine Or.inr (Or.inl (cn [226,291] [(1000,5)] (Om (L:=L) (n:=F'.length) (G:=NJ L N') (F:=F') rfl (FT hd) aa aa (Oo L N') aa aa) ?_));refine ae ab ?_;refine Vl λ E I W Pl=>?_;intro hz;refine ae (λ k=>absurd rfl k) (λ _=>?_);refine ae (by simp) ?_;refine af (F',N',E,I,W,Pl) (ae ⟨⟨l,R1,j,l',hM⟩,hz⟩ ?_)
 repeat' first|refine ae ?_ ?_|exact ag|(show(_:Int)=(_:Int);omega)|omega|exact rfl|(simp only [RO.len];omega)
end Go.Proofs.YtgailjhnfghkgaaGreatDoor
end
section
namespace Go.Proofs.YtgailjhnfghkgaaGreatDoor
open Go Go.AM
def uz(p:List Int)(c:Nat):Nat:=(((bh (ak p) p).getD c []).getD 0 0).toNat
def zi(t:List (List Int))(p:List Int)(c:Nat):List Int:=(List.range (ak p)).map λ d=>p.getD (en t (uz p c) (uz p d)) 0
def eU(t:List (List Int))(p:List Int):List (List Int):=(List.range (ak p)).map λ c=>zi t p c
section
variable{t:List (List Int)}{p:List Int}
theorem FU(hp:canon p=p){c:Nat}(hc:c<ak p):0<((bh (ak p) p).getD c []).length:=by
 have hm:=(jM hp (c:Int)).1 ⟨aa,aa⟩;obtain⟨i,hi,he⟩:=aV 0 hm;have:=(gP (p:=p) hc (x:=(i:Int))).2 ⟨aa,aa,by rw [Int.toNat_natCast];exact he⟩;exact List.length_pos_of_mem this
theorem mC(hp:canon p=p){c:Nat}(hc:c<ak p):uz p c<p.length/\p.getD (uz p c) 0=(c:Int)/\((bh (ak p) p).getD c []).getD 0 0=(uz p c:Int):=by
 have hm:=(gP hc).1 (an (d:=0) (FU hp hc));unfold uz;exact⟨aa,hm.2.2,aa⟩
theorem dj(hp:canon p=p){x:Nat}(hx:x<p.length):0<=p.getD x 0/\(p.getD x 0).toNat<ak p/\p.getD x 0=((p.getD x 0).toNat:Int):=by
 have:=(jM hp (p.getD x 0)).2 (an hx);omega
theorem mD{c:Nat}:(zi t p c).length=ak p:=by simp [zi]
theorem pE{c d:Nat}(hd:d<ak p):(zi t p c).getD d 0=p.getD (en t (uz p c) (uz p d)) 0:=by simp [zi,List.getD,hd]
theorem cL:(eU t p).length=ak p:=by simp [eU]
theorem pF{c:Nat}(hc:c<ak p):(eU t p).getD c []=zi t p c:=by simp [eU,List.getD,hc]
theorem zj(_hs:Sh t)(_hl:p.length=t.length)(hg:Cg t p 0){x y x' y':Nat}(hx:x<t.length)(hy:y<t.length)(mA:x'<t.length)(D7:y'<t.length)(h1:p.getD x 0=p.getD x' 0)(h2:p.getD y 0=p.getD y' 0):
  p.getD (en t x y) 0=p.getD (en t x' y') 0:=
 ((hg x x' y hx mA hy h1).2 (by decide)).trans ((hg y y' x' hy D7 mA h2).1 (by decide))
theorem Oq(hs:Sh t)(hl:p.length=t.length)(hp:canon p=p)(hg:Cg t p 0){x y:Nat}(hx:x<t.length)(hy:y<t.length):
  ((eU t p).getD (p.getD x 0).toNat []).getD (p.getD y 0).toNat 0=p.getD (en t x y) 0:=by
 have h1:=dj hp (x:=x) aa;have h2:=dj hp (x:=y) aa;have k1:=mC hp h1.2.1;have k2:=mC hp h2.2.1;rw [pF h1.2.1,pE h2.2.1];exact(zj hs hl hg hx hy aa aa aa aa).symm
theorem iT(hs:Sh t)(hl:p.length=t.length)(hp:canon p=p)(hg:Cg t p 0){x y:Nat}(hx:x<t.length)(hy:y<t.length):
  en (eU t p) (p.getD x 0).toNat (p.getD y 0).toNat=(p.getD (en t x y) 0).toNat:=by
 unfold en;rw [Oq hs hl hp hg hx hy];rfl
theorem Bo(hs:Sh t)(hl:p.length=t.length):0<ak p:=by
 have:=hs.pos;cases p with
 |nil=>simp at hl;omega
 |cons a l=>
  have hm:a∈ar (a::l):=aE.2 (by simp);exact List.length_pos_of_mem hm
theorem Sb(hs:Sh t)(hl:p.length=t.length)(hp:canon p=p):Sh (eU t p):=by
 have hle:ak p<=p.length:=aZ p;have hm:=hs.most;refine⟨by rw [cL];exact Bo hs hl,by rw [cL];omega,λ r hr=>?_⟩;obtain⟨c,hc,rfl⟩:=aV [] hr;rw [cL]at hc;rw [pF hc];refine⟨by rw [mD,cL],λ x hx=>?_⟩;obtain⟨d,hd,rfl⟩:=aV 0 hx;rw [mD]at hd;rw [pE hd,cL];have k1:=mC hp hc;have k2:=mC hp hd;have k3:=dj hp (x:=en t (uz p c) (uz p d)) (by rw [hl];exact(hs.bA aa aa).2);omega
theorem pG(hl:p.length=t.length)(hp:canon p=p){c:Nat}(hc:c<ak p):∃x,x<t.length/\(p.getD x 0).toNat=c:=by
 have k:=mC hp hc;exact⟨uz p c,aa,aa⟩
theorem JZ(hs:Semi t)(hl:p.length=t.length)(hp:canon p=p)(hg:Cg t p 0):Semi (eU t p):=by
 refine⟨Sb hs.toSh hl hp,λ b hb a c ha hc=>?_⟩;rw [cL]at hb ha hc;obtain⟨x,hx,rfl⟩:=pG hl hp ha;obtain⟨y,hy,rfl⟩:=pG hl hp hb;obtain⟨z,hz,rfl⟩:=pG hl hp hc;have hS:=hs.toSh;rw [iT hS hl hp hg hx hy,iT hS hl hp hg hy hz,iT hS hl hp hg (hS.bA hx hy).2 hz,iT hS hl hp hg hx (hS.bA hy hz).2,ka hs.assoc hx hy hz]
def jN(t:List (List Int))(p:List Int)(i:Nat)(l:List (List Int)):Prop:=
 l.length=ak p/\∀c,c<ak p->((∃x,x<i/\p.getD x 0=(c:Int))->l.getD c []=zi t p c)/\((∀x,x<i->p.getD x 0≠(c:Int))->l.getD c []=[])
theorem jN.start:jN t p 0 (List.replicate (ak p) []):=⟨by simp,λ c hc=>⟨λ⟨x,hx,_⟩=>absurd hx (Nat.not_lt_zero _),λ _=>by simp [List.getD,hc]⟩⟩
theorem jN.eu(hp:canon p=p){i:Nat}{l:List (List Int)}(h:jN t p i l)(hi:i<p.length)(hn:l.getD (p.getD i 0).toNat []≠[]):jN t p (i+1) l:=by
 have hc:=dj hp hi;have l7:∃x,x<i/\p.getD x 0=p.getD i 0:=Classical.byContradiction λ bm=>hn ((h.2 _ hc.2.1).2 λ x hx e=>bm ⟨x,hx,by rw [e];exact hc.2.2.symm⟩);refine⟨h.1,λ c UE=>⟨λ⟨x,hx,he⟩=>(h.2 c UE).1 ?_,λ c9=>(h.2 c UE).2 λ x hx=>c9 x aa⟩⟩
 by_cases Bb:x<i
 ·exact⟨x,Bb,he⟩
 ·have:x=i:=aa
  subst this;obtain⟨y,hy,hye⟩:=l7;exact⟨y,hy,hye.trans he⟩
theorem jN.new(hp:canon p=p){i:Nat}{l:List (List Int)}(h:jN t p i l)(hi:i<p.length){r:List Int}(hr:r=zi t p (p.getD i 0).toNat):jN t p (i+1) (l.set (p.getD i 0).toNat r):=by
 have hc:=dj hp hi;have aS:(p.getD i 0).toNat<l.length:=by rw [h.1];exact hc.2.1
 refine⟨by rw [List.length_set];exact h.1,λ c UE=>?_⟩;rw [a7 _ _ _ _ _ aS]
 by_cases e:c=(p.getD i 0).toNat
 ·subst e
  rw [if_pos rfl];exact⟨λ _=>hr,λ c9=>absurd hc.2.2 (c9 i aa)⟩
 ·rw [if_neg e]
  refine⟨λ⟨x,hx,he⟩=>(h.2 c UE).1 ⟨x,?_,he⟩,λ c9=>(h.2 c UE).2 λ x hx=>c9 x aa⟩;rcases Nat.lt_or_ge x i with Bb|Bb
  ·exact Bb
  ·have:x=i:=aa
   subst this;omega
theorem jN.done(hp:canon p=p){l:List (List Int)}{i:Nat}(h:jN t p i l)(hi:p.length<=i):l=eU t p:=by
 refine bj [] (by rw [h.1,cL]) λ c hc=>?_;rw [h.1]at hc;rw [pF hc];have k:=mC hp hc;exact(h.2 c hc).1 ⟨uz p c,aa,k.2.1⟩
def mE(t:List (List Int))(p:List Int)(i j:Nat)(r:List Int):Prop:=
 r.length=ak p/\∀d,d<ak p->(∃y,y<j/\p.getD y 0=(d:Int))->r.getD d 0=p.getD (en t i (uz p d)) 0
theorem mE.start{i:Nat}:mE t p i 0 (List.replicate (ak p) 0):=⟨by simp,λ d _ ⟨y,hy,_⟩=>absurd hy (Nat.not_lt_zero _)⟩
theorem mE.next(hs:Sh t)(hl:p.length=t.length)(hp:canon p=p)(hg:Cg t p 0){i j:Nat}{r:List Int}(h:mE t p i j r)(hi:i<t.length)(hj:j<p.length):mE t p i (j+1) (r.set (p.getD j 0).toNat (p.getD (en t i j) 0)):=by
 have hc:=dj hp hj;have aS:(p.getD j 0).toNat<r.length:=by rw [h.1];exact hc.2.1
 refine⟨by rw [List.length_set];exact h.1,λ d hd ⟨y,hy,he⟩=>?_⟩;rw [a7 _ _ _ _ _ aS]
 by_cases e:d=(p.getD j 0).toNat
 ·subst e
  rw [if_pos rfl];have k:=mC hp hd;exact zj hs hl hg hi aa hi aa rfl (by rw [k.2.1];exact hc.2.2)
 ·rw [if_neg e]
  refine h.2 d hd ⟨y,?_,he⟩;rcases Nat.lt_or_ge y j with hyj|hyj
  ·exact hyj
  ·have:y=j:=aa
   subst this;omega
theorem mE.done(hs:Sh t)(hl:p.length=t.length)(hp:canon p=p)(hg:Cg t p 0){i j:Nat}{r:List Int}(h:mE t p i j r)(hi:i<t.length)(hj:p.length<=j):r=zi t p (p.getD i 0).toNat:=by
 have hc:=dj hp (x:=i) aa;refine bj 0 (by rw [h.1,mD]) λ d hd=>?_;rw [h.1]at hd;have k:=mC hp hd;have k2:=mC hp hc.2.1;rw [h.2 d hd ⟨uz p d,aa,k.2.1⟩,pE hd];exact zj hs hl hg hi aa aa aa (by rw [k2.2.1];exact hc.2.2) rfl
end
end Go.Proofs.YtgailjhnfghkgaaGreatDoor
end
