import Derived.Test.YtgailjhnfghkgaaGreatDoorSdApLaw
import Derived.Test.YtgailjhnfghkgaaGreatDoorCgSyn
import Derived.Test.YtgailjhnfghkgaaGreatDoorWd
import Derived.Test.YtgailjhnfghkgaaGreatDoorOrd
section
namespace Go.Proofs.YtgailjhnfghkgaaGreatDoor
open Go Go.AM
set_option maxRecDepth 100000
set_option maxHeartbeats 1000000 in
theorem QP(q:List (List Int))(L:List (List (Int × Int)))(x y:Nat)(hq:Semi q)(hL:eu q L)(h2:2<=L.length)(hx:x<q.length)(hy:y<q.length)(bn:x≠y):EF 75 [.int .i64 q.length,.ro (.cN L),.int .i64 x,.int .i64 y] (λw:List Int=>.ro (.ints .i64 w)) (λw=>ca q w 0/\¬cE w x y/\mw q.length w):=Jp Tryz.func75 (by decide+kernel) rfl (ah rfl) λ_=>by
 have hn:=hq.most;have hLl:L.length<=160000:=ajW hL.le (akf hn hn);refine Or.inl (cq (HB q.length aa) (ae rfl ag) ?_);refine af [14,21,24,25,26,28,30,32,35,12,10014,10024,10025]<|kF (λ(k:Nat) (p:List Int)=>[(17,.int .i64 k),(9,.ro (.ints .i64 p))]) (λ_ _=>[]) (λk p=>k<=L.length/\KL q L x y k p) (λk _=>L.length - k) 0 (cR q.length) ⟨ajk _,KL.start hq hx hy bn⟩ ab ?_
 rintro k p ⟨hk,hI⟩;have gw:=hI.cg.len;refine ae (λh1=>?_) (λh1=>?_)
 ·have h1:(k:Int)<(L.length:Int):=h1
  have lK:k<L.length:=aa;have lQ:=hL.WW _ (al (d:=[]) lK);have hm:=hL.mi _ (al (d:=[]) lK);have hE:canon (G2 q.length (K4 id (L.getD k [])))=oA q.length (dV (L.getD k [])):=JP lQ;have hfp:=JO q.length aa (L.getD k []) λz hz=>⟨(lQ z hz).1.1,(lQ z hz).1.2,(lQ z hz).2.1,(lQ z hz).2.2⟩;rw [hE]at hfp;have Zd:=Lj p (oA q.length (dV (L.getD k []))) ⟨by rw [gw,hm.cg.len],hI.cg.val,hm.cg.val⟩;rw [gw]at Zd;have oR:(BT q.length p (oA q.length (dV (L.getD k [])))).length=q.length:=uy;refine aj ?_;refine Or.inl (cq hfp (ae rfl (ae rfl ag)) ?_);refine Or.inl (cq Zd (ae rfl (ae rfl ag)) ?_);refine Or.inl ?_;refine af (List.replicate 9 false) (ae (by decide+kernel) ?_);refine ae (show 0<=(x:Int)/\(x:Int)<((BT q.length p (oA q.length (dV (L.getD k [])))).length:Int) by omega) ?_;refine ae (show 0<=(y:Int)/\(y:Int)<((BT q.length p (oA q.length (dV (L.getD k [])))).length:Int) by omega) ?_;refine ae (λh3=>?_) (λh3=>?_)
  ·have h3:¬cE (BT q.length p (oA q.length (dV (L.getD k [])))) x y:=h3
   refine aj ?_;exact nx (k+1,_) ⟨aa,hI.take hL lK h3⟩ (show L.length - (k+1)<L.length - k by omega) ab
  ·have h3:cE (BT q.length p (oA q.length (dV (L.getD k [])))) x y:=h3
   refine aj ?_;exact nx (k+1,p) ⟨aa,hI.skip hx hy h3⟩ (show L.length - (k+1)<L.length - k by omega) ab
 ·have h1:(L.length:Int)<=(k:Int):=h1
  refine af p (ae ⟨hI.cg,hI.ap,hI.done hL h2 aa hx hy bn⟩ ?_)
  repeat' first|refine ae ?_ ?_|exact ag|omega|exact rfl
structure MS(t:List (List Int))(x y:Nat)(p:List Int):Prop where
 cg:ca t p 0
 V1:V0 (dH t p)
 ap:¬cE p x y
def uj(n x:Nat):List Int:=(List.replicate n 0).set x 1
theorem QQ{n x y:Nat}(hx:x<n)(hy:y<n)(bn:x≠y):(canon (uj n x)).getD x 0≠(canon (uj n x)).getD y 0:=λe=>by
 have hl:(uj n x).length=n:=by simp [uj]
 have e:=(eX (d:=0) aa aa).1 e;unfold uj at e;rw [aB (by simp;omega),getD_set_ne bn,fe]at e;exact absurd e (by decide)
theorem FP{t p:List (List Int)}{L:List (List (Int × Int))}(_:p=t)(hs:Semi t)(hL:eu t L)(h2:2<=t.length)(hf:L.length<2):V0 t:=⟨hs,by have:=hL.num;have:=hL.pos hs h2;omega⟩
set_option maxHeartbeats 1000000 in
theorem UR(t:List (List Int))(x y:Nat)(hs:Semi t)(ht:t.length<=60)(hx:x<t.length)(hy:y<t.length)(bn:x≠y):EF 31 [.ro (.rows .i64 t),.int .i64 x,.int .i64 y] (λp:List Int=>.ro (.ints .i64 p)) (MS t x y):=Jp Tryz.func31 (by decide+kernel) rfl (ah rfl) λ_=>by
 have oO:(uj t.length x).length=t.length:=by simp [uj]
 have da:(canon (uj t.length x)).length=t.length:=by rw [bI,oO]
 have Co:bz (canon (uj t.length x)):=⟨by rw [da];omega,fy _⟩;refine aj ?_;refine aj ?_;have mV:(List.replicate (t.length:Int).toNat (0:Int)).length=t.length:=by simp
 refine ae (show 0<=(x:Int)/\(x:Int)<((List.replicate (t.length:Int).toNat (0:Int)).length:Int) by omega) ?_;refine aj ?_;have x8:=AX (uj t.length x);rw [ajq aa]at x8;refine Or.inl (cq x8 (ae rfl ag) ?_);refine Or.inl (cq (QR t (canon (uj t.length x)) hs da Co) (ae rfl (ae rfl ag)) ?_);refine af [7,17,18,20,22,23,24,26,27,9,28,10,29,11,12,34,36,37,41,45,48,49,56,58,60,62,64,10017,10023,10024,10027,10045,10048]<|lp (X:=List Int) (λp=>[(8,.ro (.ints .i64 p))]) (λ_=>[]) (λp=>ca t p 0/\¬cE p x y) (λp=>ao p) (qQ t (canon (uj t.length x))) ⟨QI hs,λe=>QQ hx hy bn ((qS hx hy).1 e).own⟩ ab ?_
 rintro p ⟨xG,Ze⟩;have gw:=xG.len;have ux:=xG.Li;have kx:=dx xG.val.2 (x:=x) aa;have ky:=dx xG.val.2 (x:=y) aa;have K5:(dH t p).length=ao p:=dw;have aaw:(p.getD x 0).toNat≠(p.getD y 0).toNat:=λe=>Ze (by unfold cE;omega);refine Or.inl (cq (B9 t p xG) (ae rfl (ae rfl ag)) ?_);refine Or.inr (Or.inr (ce (Ca (dH t p) xG.quo aa) (ae rfl ag) ?_));intro L hL;have hL:eu (dH t p) L:=hL;refine ae (λh1=>?_) (λh1=>?_)
 ·have h1:(L.length:Int)<2:=h1
  refine af p (ae ⟨xG,FP rfl xG.quo hL aa aa,Ze⟩ ?_)
  repeat' first|refine ae ?_ ?_|exact ag|omega|exact rfl
 have h1:2<=(L.length:Int):=h1;refine Or.inl ?_;refine af (List.replicate 11 false++[true,false]) (ae (by decide+kernel) ?_);refine ae (show 0<=(x:Int)/\(x:Int)<(p.length:Int) by omega) ?_;refine ae (show 0<=(y:Int)/\(y:Int)<(p.length:Int) by omega) ?_;refine Or.inr (Or.inr (ce (QP (dH t p) L (p.getD x 0).toNat (p.getD y 0).toNat xG.quo hL aa aa aa aaw) ?_ ?_))
 ·repeat' first|refine ae ?_ ?_|exact ag|exact kx.2.2|exact ky.2.2|exact rfl
 intro w hw;have hw:ca (dH t p) w 0/\¬cE w (p.getD x 0).toNat (p.getD y 0).toNat/\mw (dH t p).length w:=hw;have US:=hw.1.len;refine aj ?_;refine aj ?_;refine af []<|kF (λ(i:Nat) (_:List Int)=>[(51,.int .i64 i)]) (λ_ N=>[(48,.vec 0 (.ints .i64 N) [])]) (λi N=>i<=p.length/\N.length=t.length/\∀j,j<i->N.getD j 0=w.getD (p.getD j 0).toNat 0) (λi _=>p.length - i) 0 (List.replicate (t.length:Int).toNat 0) ⟨ajk _,mV,λj hj=>absurd hj (aju _)⟩ ab ?_
 rintro i N ⟨hi,hN,Wo⟩;refine ae (λh2=>?_) (λh2=>?_)
 ·have h2:(i:Int)<(p.length:Int):=h2
  have ki:=dx xG.val.2 (x:=i) aa;refine aj ?_;refine ae (show 0<=p.getD i 0/\p.getD i 0<(w.length:Int) by omega) ?_;refine ae (show 0<=(i:Int)/\(i:Int)<(N.length:Int) by omega) ?_;refine aj ?_;refine aj ?_;refine nx (i+1,N.set i (w.getD (p.getD i 0).toNat 0)) ⟨aa,by rw [ajv];exact hN,λj hj=>?_⟩ (show p.length - (i+1)<p.length - i by omega) ab
  by_cases e:j=i
  ·subst e;rw [aB aa]
  ·rw [getD_set_ne (Ne.symm e)];exact Wo j aa
 ·have h2:(p.length:Int)<=(i:Int):=h2
  have eN:N=ve p w:=a6 0 (by rw [hN,qa,gw]) λj hj=>by rw [nV aa];exact Wo j aa
  subst eN;exact nx (ve p w) ⟨Lm xG hw.1,λe=>hw.2.1 ((nW xG.pt hx hy).1 e)⟩ (Ln xG hw.1 hw.2.2) ab
theorem qV(n:Nat){q:List Int}:∀(l:List (List Int)) (b:List Int),q∈dm n b l->q∈l
 |[],_,h=>h
 |p::l,b,h=>by
  unfold dm at h;split at h
  ·exact ajj _ (qV n l b h)
  ·rcases ajo.1 h with rfl|h
   ·exact ajn ..
   ·exact ajj _ (qV n l _ h)
def JQ(b:List Int)(l:List (List Int))(x y:Nat):Prop:=cE b x y/\∀p∈l,cE p x y
theorem yV{n:Nat}{b p:List Int}{l:List (List Int)}(hb:Pt n b)(hp:Pt n p){x y:Nat}(hx:x<n)(hy:y<n):JQ b (p::l) x y↔JQ (jP b p) l x y:=by
 unfold JQ;rw [eA hb hp hx hy];exact⟨λ⟨h1,h2⟩=>⟨⟨h1,h2 p (ajn ..)⟩,λq hq=>h2 q (ajj _ hq)⟩,λ⟨⟨h1,h2⟩,h3⟩=>⟨h1,λq hq=>(ajo.1 hq).elim (λe=>e▸h2) (h3 q)⟩⟩
theorem AY{n:Nat}(hn:n<=4096){b:List Int}{l:List (List Int)}(hb:Pt n b)(hp:∀p∈l,Pt n p):ao (jP b (mQ n l))=n↔IW n (JQ b l):=by
 rw [fO (hb.mt (Pt.mQ hn hp))];refine forall_congr' λx=>forall_congr' λy=>forall_congr' λhx=>forall_congr' λhy=>?_;rw [eA hb (Pt.mQ hn hp) hx hy,p5 hn hx hy hp];exact Iff.rfl
theorem wu{n:Nat}(hn:n<=4096):∀(l:List (List Int)) (b:List Int),Pt n b->(∀p∈l,Pt n p)->IW n (JQ b l)->IW n (JQ b (dm n b l))
 |[],_,_,_,h=>h
 |p::l,b,hb,hp,h=>by
  have gu:=hp p (ajn ..);have gw:∀q∈l,Pt n q:=λq hq=>hp q (ajj _ hq);unfold dm;split
  ·rename_i h1
   exact wu hn l b hb gw ((AY hn hb gw).1 h1)
  ·have ih:=wu hn l (jP b p) (hb.mt gu) gw λx y hx hy e=>h x y hx hy ((yV hb gu hx hy).2 e)
   exact λx y hx hy e=>ih x y hx hy ((yV hb gu hx hy).1 e)
theorem wv{n:Nat}(hn:n<=4096):∀(l:List (List Int)) (b:List Int),Pt n b->(∀p∈l,Pt n p)->(dm n b (dm n b l)).length=(dm n b l).length
 |[],_,_,_=>rfl
 |p::l,b,hb,hp=>by
  have gu:=hp p (ajn ..);have gw:∀q∈l,Pt n q:=λq hq=>hp q (ajj _ hq)
  by_cases h1:ao (jP b (mQ n l))=n
  ·have e:dm n b (p::l)=dm n b l:=by show(if _ then _ else _)=_;rw [ajq h1]
   rw [e];exact wv hn l b hb gw
  ·have e:dm n b (p::l)=p::dm n (jP b p) l:=by show(if _ then _ else _)=_;rw [ajm h1]
   have Wp:∀q∈dm n (jP b p) l,Pt n q:=λq hq=>gw q (qV n l _ hq);have h2:¬ao (jP b (mQ n (dm n (jP b p) l)))=n:=λh2=>h1 ((AY hn hb gw).2 λx y hx hy a=>(AY hn hb Wp).1 h2 x y hx hy ⟨a.1,λq hq=>a.2 q (qV n l _ hq)⟩);have e2:dm n b (p::dm n (jP b p) l)=p::dm n (jP b p) (dm n (jP b p) l):=by show(if _ then _ else _)=_;rw [ajm h2]
   rw [e,e2,ajY,ajY,wv hn l (jP b p) (hb.mt gu) gw]
structure Ct(t:List (List Int))(R:List (List Int)):Prop where
 YR:TP t R
 nil:R.length=0↔t.length=1
theorem UT{t K:List (List Int)}(hs:Semi t)(hk:∀p∈K,ca t p 0/\V0 (dH t p))(hd:IW t.length λx y=>∀p∈K,cE p x y):Ct t (dm t.length (List.replicate t.length 0) K):=by
 have hn:t.length<=4096:=by have:=hs.most;omega
 have h0:=hs.pos;have hT:=Pt.Cb (n:=t.length) hn;have hp:∀p∈K,Pt t.length p:=λp h=>(hk p h).1.pt;have hR:∀p∈dm t.length (List.replicate t.length 0) K,ca t p 0/\V0 (dH t p):=λp h=>hk p (qV _ _ _ h);have Jv:∀p∈dm t.length (List.replicate t.length 0) K,Pt t.length p:=λp h=>(hR p h).1.pt;have hD:=wu hn K _ hT hp λx y hx hy e=>hd x y hx hy e.2;have hm:ao (mQ t.length (dm t.length (List.replicate t.length 0) K))=t.length:=(fO (Pt.mQ hn Jv)).2 λx y hx hy e=>hD x y hx hy ⟨kX _ _ _,(p5 hn hx hy Jv).1 e⟩;have hc:TP t (dm t.length (List.replicate t.length 0) K):=G1.2 ⟨hs,λp h=>(hR p h).1,λp h=>(hR p h).2,(vc hn Jv).1 hm,(z6 hn Jv).1 (wv hn K _ hT hp)⟩;refine⟨hc,λh=>?_,λh=>by have:=hc.pZ;omega⟩;have e:=akj h;rw [e]at hD;refine ajy λh1=>?_;have:=hD 0 1 aa aa ⟨kX _ _ _,λ_ h=>absurd h akn⟩;omega
structure HC(t:List (List Int))(x:Nat)(K:List (List Int))(m:List Int):Prop where
 ok:∀p∈K,ca t p 0/\V0 (dH t p)
 mp:Pt t.length m
 xI:∀a b,a<t.length->b<t.length->(cE m a b↔∀p∈K,cE p a b)
 sep:∀a b,a<x->a<b->b<t.length->¬cE m a b
 len:K.length+1<=ao m
section
variable{t K:List (List Int)}{x y:Nat}{m p:List Int}
theorem HC.start(hs:Semi t):HC t 0 [] (List.replicate t.length 0):=
 ⟨λ_ h=>absurd h akn,Pt.Cb (by have:=hs.most;omega),λa b _ _=>⟨λ_ _ h=>absurd h akn,λ_=>kX _ a b⟩,λ_ _ h=>absurd h (aju _),by
  have:(0:Int)∈av (List.replicate t.length (0:Int)):=aL.2 (List.mem_replicate.2 ⟨by have:=hs.pos;omega,rfl⟩);exact akx this⟩
theorem HC.row(h:HC t x K m)(hn:∀b,x<b->b<t.length->¬cE m x b):HC t (x+1) K m:=
 ⟨h.ok,h.mp,h.xI,λa b ha mP hb=>by
   by_cases e:a=x
   ·subst e;exact hn b mP hb
   ·exact h.sep a b aa mP hb,h.len⟩
theorem HD(hm:Pt t.length m)(hp:Pt t.length p)(hx:x<t.length)(hy:y<t.length)(hk:cE m x y)(ha:¬cE p x y):ao m<ao (jP m p):=by
 have hM:=hm.mt hp;have hs:=lN hm.2.2 hM.2.2 (by rw [hm.1,hM.1]) λa b ha hb e=>((eA hm hp (by rw [<-hm.1];exact ha) (by rw [<-hm.1];exact hb)).1 e).1;refine Nat.lt_of_le_of_ne hs.1 λe=>?_;have e2:=hs.2 e;rw [<-e2]at hk;exact ha ((eA hm hp hx hy).1 hk).2
theorem HC.add(h:HC t x K m)(hx:x<t.length)(hy:y<t.length)(hk:cE m x y)(hp:MS t x y p):HC t x (K++[p]) (jP m p):=by
 refine⟨λq hq=>?_,h.mp.mt hp.cg.pt,λa b ha hb=>?_,λa b ha mP hb e=>?_,?_⟩
 ·rcases ajK.1 hq with hq|hq
  ·exact h.ok q hq
  ·rw [ajC.1 hq];exact⟨hp.cg,hp.V1⟩
 ·rw [eA h.mp hp.cg.pt ha hb,h.xI a b ha hb]
  exact⟨λ⟨h1,h2⟩ q hq=>(ajK.1 hq).elim (h1 q) λhq=>by rw [ajC.1 hq];exact h2,λh=>⟨λq hq=>h q (aj8 _ hq),h p (akr _ (ajC.2 rfl))⟩⟩
 ·exact h.sep a b ha mP hb ((eA h.mp hp.cg.pt aa hb).1 e).1
 ·have:=h.len
  have:=HD h.mp hp.cg.pt hx hy hk hp.ap;rw [ajp,ajx];omega
theorem HC.done(h:HC t x K m)(hs:Semi t)(hx:t.length<=x):Ct t (dm t.length (List.replicate t.length 0) K):=
 UT hs h.ok λa b ha hb e=>by
  have e:=(h.xI a b ha hb).2 e;refine ajy λbn=>?_
  by_cases mP:a<b
  ·exact h.sep a b aa mP hb e
  ·exact h.sep b a aa aa ha e.symm
theorem HC.cls(h:HC t x K m):ao m<=t.length:=by rw [<-h.mp.1];exact bp _
end
theorem Zf(t:List (List Int))(h:jC t≠0):QF 9 [.ro (.rows .i64 t)] (.cL [.ar,.int .i64 (jC t)]):=fN Tryz.func9 (by decide+kernel) rfl (ah rfl) λ_=>by
 refine Or.inl (cq (kV t) (ae rfl ag) ?_);refine ae (λ_=>?_) (λh2=>absurd h2 h);exact ae trivial (ae rfl ag)
set_option maxHeartbeats 2000000 in
theorem Uq(t:List (List Int))(hs:Semi t)(ht:t.length<=60):EF 9 [.ro (.rows .i64 t)] (λR:List (List Int)=>.cL [.ro (.rows .i64 R),.int .i64 0]) (Ct t):=Jp Tryz.func9 (by decide+kernel) rfl (ah rfl) λ_=>by
 refine Or.inl (cq (kV t) (ae rfl ag) ?_);refine ae (λh=>absurd (fx.2 hs) h) (λ_=>?_);refine Or.inl (cq (wo t.length aa) (ae rfl ag) ?_);refine af [17,8,29,31,33,35,50,9,52,55,56,57,10017,10050,10057]<|BU (λ(x:Nat) (_:List (List Int)) (m:List Int)=>[(7,.int .i64 x),(5,.vec 54),(6,.ro (.ints .i64 m))]) (λ_ K _=>[(54,.vec 0 (.rows .i64 K) [])]) (λx K m=>x<=t.length/\HC t x K m) (λx _ m=>(t.length - x)+(t.length - ao m)) 0 [] (List.replicate t.length 0) ⟨ajk _,HC.start hs⟩ ab ?_
 rintro x K m ⟨hx,hI⟩;have z8:=hI.mp.1;have ad3:=hI.cls;have hKl:=hI.len;refine ae (λh1=>?_) (λh1=>?_)
 ·have h1:(x:Int)<(t.length:Int):=h1
  refine aj ?_;refine af []<|lp (X:=Nat) (λy=>[(8,.int .i64 y)]) (λ_=>[]) (λy=>x<y/\y<=t.length/\∀b,x<b->b<y->¬cE m x b) (λy=>t.length - y) (x+1) ⟨aa,aa,λb h2 h3=>by omega⟩ ab ?_
  rintro y ⟨uB,hy,hb⟩;refine Or.inl ?_;refine af (List.replicate 15 false) (ae (by decide+kernel) ?_);refine ae (λh2=>?_) (λh2=>?_)
  ·have h2:(y:Int)<(t.length:Int):=h2
   refine ae (show 0<=(x:Int)/\(x:Int)<(m.length:Int) by omega) ?_;refine ae (show 0<=(y:Int)/\(y:Int)<(m.length:Int) by omega) ?_;refine ae (λh3=>?_) (λh3=>?_)
   ·have h3:¬cE m x y:=h3
    refine aj ?_;refine nx (y+1) ⟨aa,aa,λb h4 h5=>?_⟩ (show t.length - (y+1)<t.length - y by omega) ab
    by_cases e:b=y
    ·subst e;exact h3
    ·exact hb b h4 aa
   ·have h3:cE m x y:=h3
    refine ae (λh4=>?_) (λ_=>?_)
    ·have h4:(y:Int)=(t.length:Int):=h4
     omega
    refine Or.inr (Or.inr (ce (UR t x y hs ht aa aa aa) (ae rfl (ae rfl (ae rfl ag))) ?_));intro p hp;have hp:MS t x y p:=hp;have hKa:(K++[p]).length=K.length+1:=by simp
    refine aj ?_;refine Or.inl (cq (AU hI.mp hp.cg.pt) (ae rfl (ae rfl ag)) ?_);have XA:=hI.add aa aa h3 hp;have acq:=HD hI.mp hp.cg.pt aa aa h3 hp.ap;have mX:=XA.cls;exact nx (x,K++[p],jP m p) ⟨hx,XA⟩ (show(t.length - x)+(t.length - ao (jP m p))<(t.length - x)+(t.length - ao m) by omega) ab
  ·have h2:(t.length:Int)<=(y:Int):=h2
   refine ae (λ_=>?_) (λh4=>?_)
   ·refine aj ?_
    exact nx (x+1,K,m) ⟨aa,hI.row λb h3 h4=>hb b h3 aa⟩ (show(t.length - (x+1))+(t.length - ao m)<(t.length - x)+(t.length - ao m) by omega) ab
   ·have h4:¬(y:Int)=(t.length:Int):=h4
    omega
 ·have h1:(t.length:Int)<=(x:Int):=h1
  refine Or.inl (cq (GY t.length K hs.pos aa aa λp h=>(hI.ok p h).1.pt) (ae rfl (ae rfl ag)) ?_);refine af (dm t.length (List.replicate t.length 0) K) (ae (hI.done hs aa) ?_)
  repeat' first|refine ae ?_ ?_|exact ag|omega|exact rfl
def tU(l:List (List Int))(x:Nat):List Int:=l.map λp=>p.getD x 0
def rY(n:Nat)(l:List (List Int)):List (List Int):=(List.range n).map λx=>tU l x
theorem Cv(l:List (List Int))(x:Nat):(tU l x).length=l.length:=by simp [tU]
theorem Cu(n:Nat)(l:List (List Int)):(rY n l).length=n:=by simp [rY]
theorem qg{n:Nat}{l:List (List Int)}{x:Nat}(h:x<n):(rY n l).getD x []=tU l x:=by simp [rY,List.getD,h]
theorem qj{l:List (List Int)}{x i:Nat}(h:i<l.length):(tU l x).getD i 0=(l.getD i []).getD x 0:=by simp [tU,List.getD,h]
set_option maxHeartbeats 1000000 in
theorem Qb(t l:List (List Int))(hs:Semi t)(hc:∀p∈l,ca t p 0)(hl:l.length<=400):QF 12 [.ro (.rows .i64 t),.ro (.rows .i64 l)] (.new (.rows .i64 (rY t.length l))):=fN Tryz.func12 (by decide+kernel) rfl (ah rfl) λ_=>by
 have ko:=hs.most;refine Or.inl (cq (kV t) (ae rfl ag) ?_);refine ae (λh=>absurd (fx.2 hs) h) (λ_=>?_);refine af []<|lp (X:=Nat) (λi=>[(16,.int .i64 i)]) (λ_=>[]) (λi=>i<=l.length) (λi=>l.length - i) 0 (ajk _) ab ?_
 rintro i hi;refine ae (λh1=>?_) (λ_=>?_)
 ·have h1:(i:Int)<(l.length:Int):=h1
  refine aj ?_;refine Or.inl (cq (GW t (l.getD i []) hs) (ae rfl (ae rfl ag)) ?_);refine ae (λh2=>?_) (λ_=>?_)
  ·have h2:(!IV t (l.getD i []) 0)=true:=h2
   rw [kW.2 (hc _ (al (d:=[]) aa))]at h2;cases h2
  refine aj ?_;exact nx (i+1) (show i+1<=l.length by omega) (show l.length - (i+1)<l.length - i by omega) ab
 refine aj ?_;refine aj ?_;refine Or.inl ?_;refine af []<|kF (λ(x:Nat) (_:List (List Int))=>[(30,.int .i64 x)]) (λ_ q=>[(27,.vec 0 (.rows .i64 q) [])]) (λx q=>x<=t.length/\q.length=t.length/\∀x',x'<x->q.getD x' []=tU l x') (λx _=>t.length - x) 0 (List.replicate t.length []) ⟨ajk _,by simp,λx h=>absurd h (aju _)⟩ ab ?_
 rintro x q ⟨hx,hq,XB⟩;refine ae (λh1=>?_) (λh1=>?_)
 ·have h1:(x:Int)<((List.replicate (t.length:Int).toNat ([]:List Int)).length:Int):=h1
  rw [ajz]at h1;have uz:x<t.length:=aa;refine aj ?_;refine aj ?_;refine ae (show 0<=(x:Int)/\(x:Int)<(q.length:Int) by omega) ?_;refine aj ?_;refine af []<|kF (λ(y:Nat) (_:List Int)=>[(41,.int .i64 y)]) (λ_ r=>[(27,.vec 0 (.rows .i64 q) [((x:Int),37)]),(37,.vec 0 (.ints .i64 r) [])]) (λy r=>y<=l.length/\r.length=l.length/\∀y',y'<y->r.getD y' 0=(l.getD y' []).getD x 0) (λy _=>l.length - y) 0 (List.replicate l.length 0) ⟨ajk _,by simp,λx h=>absurd h (aju _)⟩ ab ?_
  rintro y r ⟨hy,hr,WQ⟩;refine ae (λh2=>?_) (λh2=>?_)
  ·have h2:(y:Int)<(l.length:Int):=h2
   have UQ:y<l.length:=aa;have da:=(hc _ (al (d:=[]) UQ)).len;refine aj ?_;refine Or.inl ?_;refine af (List.replicate 10 false++[true]) (ae (by decide+kernel) ?_);refine aj ?_;refine ae (λ_=>?_) (λh3=>absurd rfl h3);refine ae (by simp only [ajr];omega) ?_;refine ae (show 0<=(y:Int)/\(y:Int)<(r.length:Int) by omega) ?_;refine aj ?_;refine aj ?_;refine nx (y+1,r.set y ((l.getD y []).getD x 0)) ⟨aa,by rw [ajv];exact hr,λy' EV=>?_⟩ (show l.length - (y+1)<l.length - y by omega) ab
   by_cases e:y'=y
   ·subst e;rw [aB aa]
   ·rw [getD_set_ne (Ne.symm e)];exact WQ y' aa
  ·have h2:(l.length:Int)<=(y:Int):=h2
   have Wq:r=tU l x:=a6 0 (by rw [Cv];exact hr) λz hz=>by rw [WQ z aa,qj aa]
   refine aj ?_;refine nx (x+1,q.set x r) ⟨aa,by rw [ajv];exact hq,λx' mI=>?_⟩ (show t.length - (x+1)<t.length - x by omega) ab
   by_cases e:x'=x
   ·subst e;rw [aB aa];exact Wq
   ·rw [getD_set_ne (Ne.symm e)];exact XB x' aa
 ·have h1:((List.replicate (t.length:Int).toNat ([]:List Int)).length:Int)<=(x:Int):=h1
  rw [ajz]at h1;refine ae (ae aa ?_) trivial;refine ajs (RO.rows .i64) (a6 [] (by rw [Cu];exact hq) λz hz=>?_);rw [XB z aa,qg aa]
theorem LS{t R:List (List Int)}(hs:Semi t)(h:Ct t R){x y:Nat}(hx:x<t.length)(hy:y<t.length)(e:tU R x=tU R y):x=y:=by
 have hr:=G1.1 h.YR;have hn:=hs.most;have Sx:∀p∈R,Pt t.length p:=λp hp=>(hr.cg p hp).pt;refine(fO (kE aa Sx (ajl _))).1 hr.meet x y hx hy ((gY aa Sx hx hy (ajl _)).2 λj hj _=>?_);show(R.getD j []).getD x 0=(R.getD j []).getD y 0;rw [<-qj hj,<-qj hj,e]
section
variable{L:Nat}{F:List Bool}{N E:List (List Int)}{I:List Int}{W:List (List Int)}{Pl:List Bool}
noncomputable def xL(E:List (List Int))(I l:List Int)(i:Nat):Nat:=(cI (cZ (aP E) I) 0 ((jR l).take i)).toNat
theorem nS.W1(h:nS L F N E I W Pl){l:List Int}(hl:E3 L l){i:Nat}(hi:i<=l.length):cI (cZ (aP E) I) 0 ((jR l).take i)=(xL E I l i:Int)/\xL E I l i<E.length:=by
 have h0:=h.tm.pos;have hA:(pX F E).length=E.length:=by simp
 have:=h.YK.runT hl (q:=0) ⟨aj5 _,aa⟩ i hi;rw [hA]at this;exact⟨(Int.toNat_of_nonneg this.1).symm,by unfold xL;omega⟩
theorem nS.elN(h:nS L F N E I W Pl){l:List Int}(hl:E3 L l){i:Nat}(hi:i<l.length):0<=I.getD (l.getD i 0 - 97).toNat 0/\I.getD (l.getD i 0 - 97).toNat 0<(E.length:Int)/\xL E I l (i+1)=en (aP E) (xL E I l i) (I.getD (l.getD i 0 - 97).toNat 0).toNat:=by
 obtain⟨V5,hI⟩:=h.il;have hx:=hl i hi;have ZH:=hI (l.getD i 0 - 97).toNat aa;obtain⟨e1,e2⟩:=h.W1 hl (i:=i) aa;refine⟨ZH.1,ZH.2.1,?_⟩;show(cI (cZ (aP E) I) 0 ((jR l).take (i+1))).toNat=_;rw [nT _ _ hi,e1,ajr,uw (by rw [b7];exact e2) aa]
 rfl
theorem nS.comp(h:nS L F N E I W Pl){p:List Int}(hp:ca (aP E) p 0){l:List Int}(hl:E3 L l){i:Nat}(hi:i<l.length):
  ((dH (aP E) p).getD (p.getD (xL E I l i) 0).toNat []).getD (p.getD (I.getD (l.getD i 0 - 97).toNat 0).toNat 0).toNat 0=p.getD (xL E I l (i+1)) 0:=by
 obtain⟨g1,g2,g3⟩:=h.elN hl hi;have e2:=(h.W1 hl (i:=i) aa).2;rw [g3];exact HE h.tm.iJ.toSh hp.len hp.val.2 hp.cg (by rw [b7];exact e2) (by rw [b7];omega)
theorem nS.acc{s:Nat}{F0:List Bool}{N0:List (List Int)}{l:List Int}{R:List (List Int)}{j:Nat}{m:List Int}(h:nS L F N E I W Pl)(h2:L<=2)(hd:DV L s F0 N0)(hM:mH L s F0 N0 F N l R j m){u:List Int}(hu:E3 L u):mT F0 N0 s (jR u)=(pX F E).getD (xL E I u u.length) false:=by
 rw [<-(h.B6.trans (hM.B6 hd h2)) (jR u) (Pw hu)];unfold mT xL;rw [mU]
end
theorem IX(l:List Bool)(hl:l.length<=4096):QF 118 [.ro (.aI l)] (.new (.aI l)):=fN Tryz.func118 (by decide+kernel) rfl (ah rfl) λ_=>by
 refine ae (λh1=>?_) ?_
 ·exact ae h1 trivial
 ·refine ae (by simp;omega) ?_
  exact ae ⟨aa,by simp⟩ trivial
end Go.Proofs.YtgailjhnfghkgaaGreatDoor
end
