import Derived.Test.YtgailjhnfghkgaaGreatDoorSdAp
import Derived.Test.YtgailjhnfghkgaaGreatDoorEnLaw
section
namespace Go.Proofs.YtgailjhnfghkgaaGreatDoor
open Go Go.AM
set_option maxRecDepth 100000
structure M6(t:List (List Int))(x y:Nat)(p:List Int):Prop where
 cg:cd t p 0
 TT:KH (eU t p)
 ap:¬cA p x y
def tH(n x:Nat):List Int:=(List.replicate n 0).set x 1
theorem Qu{n x y:Nat}(hx:x<n)(hy:y<n)(bm:x≠y):(canon (tH n x)).getD x 0≠(canon (tH n x)).getD y 0:=λ e=>by
 have hl:(tH n x).length=n:=by simp [tH]
 have e:=(eJ (d:=0) aa aa).1 e;unfold tH at e;rw [aA (by simp;omega),getD_set_ne bm,e7]at e;exact absurd e (by decide)
theorem FA{t p:List (List Int)}{L:List (List (Int × Int))}(_:p=t)(hs:Semi t)(hL:cW t L)(h2:2<=t.length)(hf:L.length<2):KH t:=⟨hs,by have:=hL.num;have:=hL.pos hs h2;omega⟩
set_option maxHeartbeats 1000000 in
theorem TU(t:List (List Int))(x y:Nat)(hs:Semi t)(ht:t.length<=60)(hx:x<t.length)(hy:y<t.length)(bm:x≠y):EF 31 [.ro (.rows .i64 t),.int .i64 x,.int .i64 y] (λ p:List Int=>.ro (.ints .i64 p)) (M6 t x y):=HG Tryz.func31 (by decide+kernel) rfl (ah rfl) λ _=>by
 have ot:(tH t.length x).length=t.length:=by simp [tH]
 have da:(canon (tH t.length x)).length=t.length:=by rw [bD,ot]
 have Bu:bp (canon (tH t.length x)):=⟨by rw [da];omega,fq _⟩;refine ae aa ?_;refine ae aa ?_;have pA:(List.replicate (t.length:Int).toNat (0:Int)).length=t.length:=by simp
 refine ae (show 0<=(x:Int)/\(x:Int)<((List.replicate (t.length:Int).toNat (0:Int)).length:Int) by omega) ?_;refine ae aa ?_;have xy:=Ag (tH t.length x);rw [if_pos aa]at xy;refine Or.inl (cq xy (ae rfl ag) ?_);refine Or.inl (cq (Qv t (canon (tH t.length x)) hs da Bu) (ae rfl (ae rfl ag)) ?_);refine af [7,17,18,20,22,23,24,26,27,9,28,10,29,11,12,34,36,37,41,45,48,49,56,58,60,62,64,10017,10023,10024,10027,10045,10048]<|lp (X:=List Int) (λ p=>[(8,.ro (.ints .i64 p))]) (λ _=>[]) (λ p=>cd t p 0/\¬cA p x y) (λ p=>ak p) (qf t (canon (tH t.length x))) ⟨Ph hs,λ e=>Qu hx hy bm ((qh hx hy).1 e).own⟩ ab ?_
 rintro p ⟨zq,X2⟩;have gb:=zq.len;have xa:=zq.TV;have kx:=dj zq.val.2 (x:=x) aa;have ky:=dj zq.val.2 (x:=y) aa;have JS:(eU t p).length=ak p:=cL;have ZS:(p.getD x 0).toNat≠(p.getD y 0).toNat:=λ e=>X2 (by unfold cA;omega);refine Or.inl (cq (M7 t p zq) (ae rfl (ae rfl ag)) ?_);refine Or.inr (Or.inr (ce (vK (eU t p) zq.quo aa) (ae rfl ag) ?_));intro L hL;have hL:cW (eU t p) L:=hL;refine ae (λ h1=>?_) (λ h1=>?_)
 ·have h1:(L.length:Int)<2:=h1
  refine af p (ae ⟨zq,FA rfl zq.quo hL aa aa,X2⟩ ?_)
  repeat' first|refine ae ?_ ?_|exact ag|omega|exact rfl
 have h1:2<=(L.length:Int):=h1;refine Or.inl ?_;refine af (List.replicate 11 false++[true,false]) (ae (by decide+kernel) ?_);refine ae (show 0<=(x:Int)/\(x:Int)<(p.length:Int) by omega) ?_;refine ae (show 0<=(y:Int)/\(y:Int)<(p.length:Int) by omega) ?_;refine Or.inr (Or.inr (ce (Qw (eU t p) L (p.getD x 0).toNat (p.getD y 0).toNat zq.quo hL aa aa aa ZS) ?_ ?_))
 ·repeat' first|refine ae ?_ ?_|exact ag|exact kx.2.2|exact ky.2.2|exact rfl
 intro w hw;have hw:cd (eU t p) w 0/\¬cA w (p.getD x 0).toNat (p.getD y 0).toNat/\iV (eU t p).length w:=hw;have Ti:=hw.1.len;refine ae aa ?_;refine ae aa ?_;refine af []<|lA (λ(i:Nat) (_:List Int)=>[(51,.int .i64 i)]) (λ _ N=>[(48,.vec 0 (.ints .i64 N) [])]) (λ i N=>i<=p.length/\N.length=t.length/\∀j,j<i->N.getD j 0=w.getD (p.getD j 0).toNat 0) (λ i _=>p.length - i) 0 (List.replicate (t.length:Int).toNat 0) ⟨Nat.zero_le _,pA,λ j hj=>absurd hj (Nat.not_lt_zero _)⟩ ab ?_
 rintro i N ⟨hi,hN,Vf⟩;refine ae (λ h2=>?_) (λ h2=>?_)
 ·have h2:(i:Int)<(p.length:Int):=h2
  have ki:=dj zq.val.2 (x:=i) aa;refine ae aa ?_;refine ae (show 0<=p.getD i 0/\p.getD i 0<(w.length:Int) by omega) ?_;refine ae (show 0<=(i:Int)/\(i:Int)<(N.length:Int) by omega) ?_;refine ae aa ?_;refine ae aa ?_;refine nx (i+1,N.set i (w.getD (p.getD i 0).toNat 0)) ⟨aa,by rw [List.length_set];exact hN,λ j hj=>?_⟩ (show p.length - (i+1)<p.length - i by omega) ab
  by_cases e:j=i
  ·subst e;rw [aA aa]
  ·rw [getD_set_ne (Ne.symm e)];exact Vf j aa
 ·have h2:(p.length:Int)<=(i:Int):=h2
  have eN:N=wK p w:=bj 0 (by rw [hN,qT,gb]) λ j hj=>by rw [nV aa];exact Vf j aa
  subst eN;exact nx (wK p w) ⟨M8 zq hw.1,λ e=>hw.2.1 ((nW zq.pt hx hy).1 e)⟩ (M9 zq hw.1 hw.2.2) ab
end Go.Proofs.YtgailjhnfghkgaaGreatDoor
end
section
namespace Go.Proofs.YtgailjhnfghkgaaGreatDoor
open Go Go.AM
set_option maxRecDepth 100000
theorem qU(n:Nat){q:List Int}:∀(l:List (List Int)) (b:List Int),q∈dz n b l->q∈l
 |[],_,h=>h
 |p::l,b,h=>by
  unfold dz at h;split at h
  ·exact List.mem_cons_of_mem _ (qU n l b h)
  ·rcases List.mem_cons.1 h with rfl|h
   ·exact List.mem_cons_self ..
   ·exact List.mem_cons_of_mem _ (qU n l _ h)
def Jm(b:List Int)(l:List (List Int))(x y:Nat):Prop:=cA b x y/\∀p∈l,cA p x y
theorem yW{n:Nat}{b p:List Int}{l:List (List Int)}(hb:Pt n b)(hp:Pt n p){x y:Nat}(hx:x<n)(hy:y<n):Jm b (p::l) x y↔Jm (jE b p) l x y:=by
 unfold Jm;rw [dY hb hp hx hy];exact⟨λ⟨h1,h2⟩=>⟨⟨h1,h2 p (List.mem_cons_self ..)⟩,λ q hq=>h2 q (List.mem_cons_of_mem _ hq)⟩,λ⟨⟨h1,h2⟩,h3⟩=>⟨h1,λ q hq=>(List.mem_cons.1 hq).elim (λ e=>e▸h2) (h3 q)⟩⟩
theorem AW{n:Nat}(hn:n<=4096){b:List Int}{l:List (List Int)}(hb:Pt n b)(hp:∀p∈l,Pt n p):ak (jE b (oe n l))=n↔Jn n (Jm b l):=by
 rw [cO (hb.mt (Pt.oe hn hp))];refine forall_congr' λ x=>forall_congr' λ y=>forall_congr' λ hx=>forall_congr' λ hy=>?_;rw [dY hb (Pt.oe hn hp) hx hy,qV hn hx hy hp];exact Iff.rfl
theorem wM{n:Nat}(hn:n<=4096):∀(l:List (List Int)) (b:List Int),Pt n b->(∀p∈l,Pt n p)->Jn n (Jm b l)->Jn n (Jm b (dz n b l))
 |[],_,_,_,h=>h
 |p::l,b,hb,hp,h=>by
  have gR:=hp p (List.mem_cons_self ..);have gb:∀q∈l,Pt n q:=λ q hq=>hp q (List.mem_cons_of_mem _ hq);unfold dz;split
  ·rename_i h1
   exact wM hn l b hb gb ((AW hn hb gb).1 h1)
  ·have ih:=wM hn l (jE b p) (hb.mt gR) gb λ x y hx hy e=>h x y hx hy ((yW hb gR hx hy).2 e)
   exact λ x y hx hy e=>ih x y hx hy ((yW hb gR hx hy).1 e)
theorem wN{n:Nat}(hn:n<=4096):∀(l:List (List Int)) (b:List Int),Pt n b->(∀p∈l,Pt n p)->(dz n b (dz n b l)).length=(dz n b l).length
 |[],_,_,_=>rfl
 |p::l,b,hb,hp=>by
  have gR:=hp p (List.mem_cons_self ..);have gb:∀q∈l,Pt n q:=λ q hq=>hp q (List.mem_cons_of_mem _ hq)
  by_cases h1:ak (jE b (oe n l))=n
  ·have e:dz n b (p::l)=dz n b l:=by show(if _ then _ else _)=_;rw [if_pos h1]
   rw [e];exact wN hn l b hb gb
  ·have e:dz n b (p::l)=p::dz n (jE b p) l:=by show(if _ then _ else _)=_;rw [if_neg h1]
   have UC:∀q∈dz n (jE b p) l,Pt n q:=λ q hq=>gb q (qU n l _ hq);have h2:¬ak (jE b (oe n (dz n (jE b p) l)))=n:=λ h2=>h1 ((AW hn hb gb).2 λ x y hx hy a=>(AW hn hb UC).1 h2 x y hx hy ⟨a.1,λ q hq=>a.2 q (qU n l _ hq)⟩);have e2:dz n b (p::dz n (jE b p) l)=p::dz n (jE b p) (dz n (jE b p) l):=by show(if _ then _ else _)=_;rw [if_neg h2]
   rw [e,e2,List.length_cons,List.length_cons,wN hn l (jE b p) (hb.mt gR) gb]
structure u9(t:List (List Int))(R:List (List Int)):Prop where
 UM:ZT t R
 nil:R.length=0↔t.length=1
theorem TW{t K:List (List Int)}(hs:Semi t)(hk:∀p∈K,cd t p 0/\KH (eU t p))(hd:Jn t.length λ x y=>∀p∈K,cA p x y):u9 t (dz t.length (List.replicate t.length 0) K):=by
 have hn:t.length<=4096:=by have:=hs.most;omega
 have h0:=hs.pos;have hT:=Pt.Cn (n:=t.length) hn;have hp:∀p∈K,Pt t.length p:=λ p h=>(hk p h).1.pt;have hR:∀p∈dz t.length (List.replicate t.length 0) K,cd t p 0/\KH (eU t p):=λ p h=>hk p (qU _ _ _ h);have Ih:∀p∈dz t.length (List.replicate t.length 0) K,Pt t.length p:=λ p h=>(hR p h).1.pt;have hD:=wM hn K _ hT hp λ x y hx hy e=>hd x y hx hy e.2;have hm:ak (oe t.length (dz t.length (List.replicate t.length 0) K))=t.length:=(cO (Pt.oe hn Ih)).2 λ x y hx hy e=>hD x y hx hy ⟨lg _ _ _,(qV hn hx hy Ih).1 e⟩;have hc:ZT t (dz t.length (List.replicate t.length 0) K):=AX.2 ⟨hs,λ p h=>(hR p h).1,λ p h=>(hR p h).2,(wO hn Ih).1 hm,(AY hn Ih).1 (wN hn K _ hT hp)⟩;refine⟨hc,λ h=>?_,λ h=>by have:=hc.tJ;omega⟩;have e:=List.eq_nil_of_length_eq_zero h;rw [e]at hD;refine Classical.byContradiction λ h1=>?_;have:=hD 0 1 aa aa ⟨lg _ _ _,λ _ h=>absurd h List.not_mem_nil⟩;omega
structure Hu(t:List (List Int))(x:Nat)(K:List (List Int))(m:List Int):Prop where
 ok:∀p∈K,cd t p 0/\KH (eU t p)
 mp:Pt t.length m
 xd:∀a b,a<t.length->b<t.length->(cA m a b↔∀p∈K,cA p a b)
 sep:∀a b,a<x->a<b->b<t.length->¬cA m a b
 len:K.length+1<=ak m
section
variable{t K:List (List Int)}{x y:Nat}{m p:List Int}
theorem Hu.start(hs:Semi t):Hu t 0 [] (List.replicate t.length 0):=
 ⟨λ _ h=>absurd h List.not_mem_nil,Pt.Cn (by have:=hs.most;omega),λ a b _ _=>⟨λ _ _ h=>absurd h List.not_mem_nil,λ _=>lg _ a b⟩,λ _ _ h=>absurd h (Nat.not_lt_zero _),by
  have:(0:Int)∈ar (List.replicate t.length (0:Int)):=aE.2 (List.mem_replicate.2 ⟨by have:=hs.pos;omega,rfl⟩);exact List.length_pos_of_mem this⟩
theorem Hu.row(h:Hu t x K m)(hn:∀b,x<b->b<t.length->¬cA m x b):Hu t (x+1) K m:=
 ⟨h.ok,h.mp,h.xd,λ a b ha mh hb=>by
   by_cases e:a=x
   ·subst e;exact hn b mh hb
   ·exact h.sep a b aa mh hb,h.len⟩
theorem Hv(hm:Pt t.length m)(hp:Pt t.length p)(hx:x<t.length)(hy:y<t.length)(hk:cA m x y)(ha:¬cA p x y):ak m<ak (jE m p):=by
 have hM:=hm.mt hp;have hs:=jk hm.2.2 hM.2.2 (by rw [hm.1,hM.1]) λ a b ha hb e=>((dY hm hp (by rw [<-hm.1];exact ha) (by rw [<-hm.1];exact hb)).1 e).1;refine Nat.lt_of_le_of_ne hs.1 λ e=>?_;have e2:=hs.2 e;rw [<-e2]at hk;exact ha ((dY hm hp hx hy).1 hk).2
theorem Hu.add(h:Hu t x K m)(hx:x<t.length)(hy:y<t.length)(hk:cA m x y)(hp:M6 t x y p):Hu t x (K++[p]) (jE m p):=by
 refine⟨λ q hq=>?_,h.mp.mt hp.cg.pt,λ a b ha hb=>?_,λ a b ha mh hb e=>?_,?_⟩
 ·rcases List.mem_append.1 hq with hq|hq
  ·exact h.ok q hq
  ·rw [List.mem_singleton.1 hq];exact⟨hp.cg,hp.TT⟩
 ·rw [dY h.mp hp.cg.pt ha hb,h.xd a b ha hb]
  exact⟨λ⟨h1,h2⟩ q hq=>(List.mem_append.1 hq).elim (h1 q) λ hq=>by rw [List.mem_singleton.1 hq];exact h2,λ h=>⟨λ q hq=>h q (List.mem_append_left _ hq),h p (List.mem_append_right _ (List.mem_singleton.2 rfl))⟩⟩
 ·exact h.sep a b ha mh hb ((dY h.mp hp.cg.pt aa hb).1 e).1
 ·have:=h.len
  have:=Hv h.mp hp.cg.pt hx hy hk hp.ap;rw [List.length_append,List.length_singleton];omega
theorem Hu.done(h:Hu t x K m)(hs:Semi t)(hx:t.length<=x):u9 t (dz t.length (List.replicate t.length 0) K):=
 TW hs h.ok λ a b ha hb e=>by
  have e:=(h.xd a b ha hb).2 e;refine Classical.byContradiction λ bm=>?_
  by_cases mh:a<b
  ·exact h.sep a b aa mh hb e
  ·exact h.sep b a aa aa ha e.symm
theorem Hu.cls(h:Hu t x K m):ak m<=t.length:=by rw [<-h.mp.1];exact aZ _
end
theorem X3(t:List (List Int))(h:jA t≠0):QF 9 [.ro (.rows .i64 t)] (.cC [.ao,.int .i64 (jA t)]):=kr Tryz.func9 (by decide+kernel) rfl (ah rfl) λ _=>by
 refine Or.inl (cq (kU t) (ae rfl ag) ?_);refine ae (λ _=>?_) (λ h2=>absurd h2 h);exact ae trivial (ae rfl ag)
set_option maxHeartbeats 2000000 in
theorem KJ(t:List (List Int))(hs:Semi t)(ht:t.length<=60):EF 9 [.ro (.rows .i64 t)] (λ R:List (List Int)=>.cC [.ro (.rows .i64 R),.int .i64 0]) (u9 t):=HG Tryz.func9 (by decide+kernel) rfl (ah rfl) λ _=>by
 refine Or.inl (cq (kU t) (ae rfl ag) ?_);refine ae (λ h=>absurd (gI.2 hs) h) (λ _=>?_);refine Or.inl (cq (vC t.length aa) (ae rfl ag) ?_);refine af [17,8,29,31,33,35,50,9,52,55,56,57,10017,10050,10057]<|A9 (λ(x:Nat) (_:List (List Int)) (m:List Int)=>[(7,.int .i64 x),(5,.vec 54),(6,.ro (.ints .i64 m))]) (λ _ K _=>[(54,.vec 0 (.rows .i64 K) [])]) (λ x K m=>x<=t.length/\Hu t x K m) (λ x _ m=>(t.length - x)+(t.length - ak m)) 0 [] (List.replicate t.length 0) ⟨Nat.zero_le _,Hu.start hs⟩ ab ?_
 rintro x K m ⟨hx,hI⟩;have ze:=hI.mp.1;have adA:=hI.cls;have hKl:=hI.len;refine ae (λ h1=>?_) (λ h1=>?_)
 ·have h1:(x:Int)<(t.length:Int):=h1
  refine ae aa ?_;refine af []<|lp (X:=Nat) (λ y=>[(8,.int .i64 y)]) (λ _=>[]) (λ y=>x<y/\y<=t.length/\∀b,x<b->b<y->¬cA m x b) (λ y=>t.length - y) (x+1) ⟨aa,aa,λ b h2 h3=>by omega⟩ ab ?_
  rintro y ⟨xl,hy,hb⟩;refine Or.inl ?_;refine af (List.replicate 15 false) (ae (by decide+kernel) ?_);refine ae (λ h2=>?_) (λ h2=>?_)
  ·have h2:(y:Int)<(t.length:Int):=h2
   refine ae (show 0<=(x:Int)/\(x:Int)<(m.length:Int) by omega) ?_;refine ae (show 0<=(y:Int)/\(y:Int)<(m.length:Int) by omega) ?_;refine ae (λ h3=>?_) (λ h3=>?_)
   ·have h3:¬cA m x y:=h3
    refine ae aa ?_;refine nx (y+1) ⟨aa,aa,λ b h4 h5=>?_⟩ (show t.length - (y+1)<t.length - y by omega) ab
    by_cases e:b=y
    ·subst e;exact h3
    ·exact hb b h4 aa
   ·have h3:cA m x y:=h3
    refine ae (λ h4=>?_) (λ _=>?_)
    ·have h4:(y:Int)=(t.length:Int):=h4
     omega
    refine Or.inr (Or.inr (ce (TU t x y hs ht aa aa aa) (ae rfl (ae rfl (ae rfl ag))) ?_));intro p hp;have hp:M6 t x y p:=hp;have hKa:(K++[p]).length=K.length+1:=by simp
    refine ae aa ?_;refine Or.inl (cq (Ab hI.mp hp.cg.pt) (ae rfl (ae rfl ag)) ?_);have Vj:=hI.add aa aa h3 hp;have abf:=Hv hI.mp hp.cg.pt aa aa h3 hp.ap;have mF:=Vj.cls;exact nx (x,K++[p],jE m p) ⟨hx,Vj⟩ (show(t.length - x)+(t.length - ak (jE m p))<(t.length - x)+(t.length - ak m) by omega) ab
  ·have h2:(t.length:Int)<=(y:Int):=h2
   refine ae (λ _=>?_) (λ h4=>?_)
   ·refine ae aa ?_
    exact nx (x+1,K,m) ⟨aa,hI.row λ b h3 h4=>hb b h3 aa⟩ (show(t.length - (x+1))+(t.length - ak m)<(t.length - x)+(t.length - ak m) by omega) ab
   ·have h4:¬(y:Int)=(t.length:Int):=h4
    omega
 ·have h1:(t.length:Int)<=(x:Int):=h1
  refine Or.inl (cq (Pp t.length K hs.pos aa aa λ p h=>(hI.ok p h).1.pt) (ae rfl (ae rfl ag)) ?_);refine af (dz t.length (List.replicate t.length 0) K) (ae (hI.done hs aa) ?_)
  repeat' first|refine ae ?_ ?_|exact ag|omega|exact rfl
end Go.Proofs.YtgailjhnfghkgaaGreatDoor
end
section
namespace Go.Proofs.YtgailjhnfghkgaaGreatDoor
open Go Go.AM
noncomputable def ZU(t:List (List Int))(p:List Int):Bool:=@decide (pK t p) (Classical.propDecidable _)
theorem Ds{t:List (List Int)}{p:List Int}:ZU t p=true↔pK t p:=by unfold ZU;exact @decide_eq_true_iff _ (Classical.propDecidable _)
theorem Hw{t:List (List Int)}(p:List Int):p∈jP t↔pK t p:=by
 have h:jP t=Bc iW ((ar (Lp t.length t.length)).filter (ZU t)):=FV (FW uH ((eO _).filter _)) λ p=>by
  rw [tO,List.mem_filter,aE,Ds];refine⟨λ h=>h.2,λ h=>⟨?_,h⟩⟩;have hl:=h.cg.len;have hv:=h.cg.val.2
  have:=tZ (n:=t.length) (l:=p) λ x hx=>by
   obtain⟨i,hi,rfl⟩:=aV 0 hx;have h1:=dj hv hi;have h2:ak p<=p.length:=aZ _;omega
  rw [hl]at this;exact this
 rw [h,tO,List.mem_filter,aE,Ds];refine⟨λ h=>h.2,λ h=>⟨?_,h⟩⟩;have hl:=h.cg.len;have hv:=h.cg.val.2
 have:=tZ (n:=t.length) (l:=p) λ x hx=>by
  obtain⟨i,hi,rfl⟩:=aV 0 hx;have h1:=dj hv hi;have h2:ak p<=p.length:=aZ _;omega
 rw [hl]at this;exact this
theorem Na{t:List (List Int)}:∀(k:Nat) (q:List Int),t.length - ak q<=k->cd t q 0->iV t.length q->∃m,pK t m/\Sub t.length m q:=by
 intro k
 induction k with
 |zero=>
  intro q hk hq hj;have hle:ak q<=t.length:=by rw [<-hq.len];exact aZ _
  obtain⟨x,y,hx,hy,bm,e⟩:=hj;exact absurd ((cO hq.pt).1 aa x y hx hy e) bm
 |succ k ih=>
  intro q hk hq hj
  by_cases hm:pK t q
  ·exact⟨q,hm,λ _ _ _ _ e=>e⟩
  ·have:∃q',cd t q' 0/\iV t.length q'/\Sub t.length q' q/\¬Sub t.length q q':=Classical.byContradiction λ c9=>hm ⟨hq,hj,λ q' h1 h2 h3=>Classical.byContradiction λ h4=>c9 ⟨q',h1,h2,h3,h4⟩⟩
   obtain⟨q',h1,h2,h3,h4⟩:=this;have hc:=jk hq.val.2 h1.val.2 (by rw [hq.len,h1.len]) (λ x y hx hy e=>h3 x y (by rw [<-hq.len];exact hx) (by rw [<-hq.len];exact hy) e);have aS:ak q<ak q':=Nat.lt_of_le_of_ne hc.1 λ e=>h4 (by rw [hc.2 e];exact λ _ _ _ _ e=>e);obtain⟨m,Tl,DU⟩:=ih q' aa h1 h2;exact⟨m,Tl,λ x y hx hy e=>h3 x y hx hy (DU x y hx hy e)⟩
section
variable{t R:List (List Int)}
theorem Dt(hs:Semi t){p:List Int}(hp:cd t p 0)(hc:ak p=t.length):eU t p=t:=by
 have hd:=(cO hp.pt).1 hc;have gb:=hp.len;have hn:=hs.most;have hdp:=Nb (n:=t.length) aa
 have ep:p=cV t.length:=by
  rw [<-hp.val.2,ru hp.len (bM t.length) (q:=cV t.length) λ a b ha hb=>?_]
  ·exact hdp.2.2
  ·exact⟨λ e=>by rw [hd a b ha hb e],λ e=>by rw [uv ha hb e]⟩
 have eh:∀c,c<t.length->uz p c=c:=λ c aS=>by
  have h1:=mC hp.val.2 (c:=c) aa;have h2:=h1.2.1;rw [ep,du (by rw [<-ep];omega),<-ep]at h2;omega
 refine bj [] (by rw [cL,hc]) λ c aS=>?_;rw [cL]at aS;rw [pF aS];have pA:=hs.toSh.len (show c<t.length by omega);refine bj 0 (by rw [mD,pA,hc]) λ d JE=>?_;rw [mD]at JE;have he:=hs.toSh.bA (show c<t.length by omega) (show d<t.length by omega);rw [pE JE,eh c aa,eh d aa,he.1,ep,du he.2]
theorem F9(hs:Semi t)(h:u9 t R):R.length=1↔KH t:=by
 have hr:=AX.1 h.UM;have hn:=hs.most;have QT:∀p∈R,Pt t.length p:=λ p hp=>(hr.cg p hp).pt;have hmd:=(cO (jC aa QT (Nat.le_refl _))).1 hr.meet
 constructor
 ·intro h1
  obtain⟨p,rfl⟩:∃p,R=[p]:=by
   match R,h1 with
   |[p],_=>exact⟨p,rfl⟩
  have hp:=hr.cg p (List.mem_singleton.2 rfl)
  have hc:ak p=t.length:=(cO hp.pt).2 λ x y hx hy e=>hmd x y hx hy ((fj aa QT hx hy (Nat.le_refl _)).2 λ j hj _=>by
   have hj:j<1:=hj;obtain rfl:j=0:=aa;exact e)
  have:=hr.TT p (List.mem_singleton.2 rfl);rw [Dt hs hp hc]at this;exact this
 ·intro hi
  have WX:∃j,j<R.length/\ak (R.getD j [])=t.length:=Classical.byContradiction λ c9=>by
   have hm0:=(Hw _).1 (an (d:=[]) (l:=jP t) (i:=0) (by have:=hi.2;omega));obtain⟨x,y,hx,hy,bm,e⟩:=hm0.jo;refine bm (hmd x y hx hy ((fj aa QT hx hy (Nat.le_refl _)).2 λ j hj _=>?_));have hq:=hr.cg _ (an (d:=[]) hj);have WY:iV t.length (R.getD j []):=Classical.byContradiction λ Vi=>c9 ⟨j,hj,(cO hq.pt).2 λ a b ha hb e2=>Classical.byContradiction λ mh=>Vi ⟨a,b,ha,hb,mh,e2⟩⟩;obtain⟨m,hm,mH⟩:=Na _ _ (Nat.le_refl _) hq WY;obtain⟨i,xR,rfl⟩:=aV [] ((Hw m).2 hm);obtain rfl:i=0:=by have:=hi.2;omega
   exact mH x y hx hy e
  obtain⟨j,hj,hc⟩:=WX;refine Classical.byContradiction λ bm=>?_
  obtain⟨i,Q3,mo⟩:∃i,i<R.length/\i≠j:=by
   by_cases e:j=0
   ·exact⟨1,aa,aa⟩
   ·exact⟨0,aa,aa⟩
  refine hr.red i Q3 ((cO (jC aa QT (Nat.le_refl _))).2 λ x y hx hy e=>?_);have hk:=(fj aa QT hx hy (Nat.le_refl _)).1 e j hj aa;exact(cO (QT _ (an hj))).1 hc x y hx hy hk
theorem KL(hs:Semi t)(h:u9 t R)(hni:¬KH t){p:List Int}(hp:p∈R):ak p<t.length:=by
 have hr:=AX.1 h.UM;have hq:=hr.cg p hp;have hle:ak p<=t.length:=by rw [<-hq.len];exact aZ _
 refine Nat.lt_of_le_of_ne hle λ e=>hni ?_;have:=hr.TT p hp;rw [Dt hs hq e]at this;exact this
end
end Go.Proofs.YtgailjhnfghkgaaGreatDoor
end
