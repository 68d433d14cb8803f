import Derived.Test.YtgailjhnfghkgaaGreatDoorOrd
section
namespace Go.Proofs.YtgailjhnfghkgaaGreatDoor
structure Fo(n:Nat)(p:List Int)(r:Nat->Nat):Prop where
 len:p.length=n
 le:∀i,i<n->0<=p.getD i 0/\p.getD i 0<=(i:Int)
 par:∀i,i<n->r (p.getD i 0).toNat=r i
 fix:∀i,i<n->p.getD i 0=(i:Int)->r i=i
def iS(p:List Int)(i:Nat):List Int:=p.set i (p.getD (p.getD i 0).toNat 0)
def fM:Nat->List Int->Nat->List Int
 |0,p,_=>p
 |f+1,p,i=>if p.getD i 0=(i:Int) then p else fM f (iS p i) ((iS p i).getD i 0).toNat
theorem Fo.Uj{n:Nat}{p:List Int}{r:Nat->Nat}(h:Fo n p r):∀m i,i<m->i<n->r i<=i:=by
 intro m
 induction m with
 |zero=>intro i hi;omega
 |succ m ih=>
  intro i hi hn
  by_cases e:p.getD i 0=(i:Int)
  ·rw [h.fix i hn e];exact ajl _
  ·have:=h.le i hn
   have h1:=ih (p.getD i 0).toNat aa aa;rw [h.par i hn]at h1;omega
theorem Fo.root{n:Nat}{p:List Int}{r:Nat->Nat}(h:Fo n p r):∀m i,i<m->i<n->p.getD (r i) 0=(r i:Int):=by
 intro m
 induction m with
 |zero=>intro i hi;omega
 |succ m ih=>
  intro i hi hn
  by_cases e:p.getD i 0=(i:Int)
  ·rw [h.fix i hn e];exact e
  ·have:=h.le i hn
   have h1:=ih (p.getD i 0).toNat aa aa
   rwa [h.par i hn]at h1
theorem Fo.Ag{n:Nat}{p:List Int}{r:Nat->Nat}(h:Fo n p r){i:Nat}(hi:i<n):r i<n:=Nat.lt_of_le_of_lt (h.Uj (i+1) i aa hi) hi
theorem Fo.rr{n:Nat}{p:List Int}{r:Nat->Nat}(h:Fo n p r){i:Nat}(hi:i<n):r (r i)=r i:=h.fix _ (h.Ag hi) (h.root (i+1) i aa hi)
theorem Fo.half{n:Nat}{p:List Int}{r:Nat->Nat}(h:Fo n p r){i:Nat}(hi:i<n):Fo n (iS p i) r:=by
 have h0:=h.le i hi;have h1:=h.le (p.getD i 0).toNat aa;have hl:=h.len
 have hg:∀k,(iS p i).getD k 0=if k=i then p.getD (p.getD i 0).toNat 0 else p.getD k 0:=λk=>by
  unfold iS
  by_cases e:k=i
  ·subst e;rw [aB aa,ajq rfl]
  ·rw [getD_set_ne (Ne.symm e),ajm e]
 refine⟨by unfold iS;rw [ajv];exact h.len,λk hk=>?_,λk hk=>?_,λk hk e=>?_⟩
 ·rw [hg]
  by_cases e:k=i
  ·subst e;rw [ajq rfl];omega
  ·rw [ajm e];exact h.le k hk
 ·rw [hg]
  by_cases e:k=i
  ·subst e;rw [ajq rfl,h.par _ aa,h.par _ hk]
  ·rw [ajm e];exact h.par k hk
 ·rw [hg]at e
  by_cases e1:k=i
  ·subst e1;rw [ajq rfl]at e;exact h.fix k hk aa
  ·rw [ajm e1]at e;exact h.fix k hk e
theorem fv{n:Nat}{r:Nat->Nat}:∀(f:Nat) {p:List Int} {i:Nat},Fo n p r->i<n->Fo n (fM f p i) r
 |0,_,_,h,_=>h
 |f+1,p,i,h,hi=>by
  unfold fM;split
  ·exact h
  ·have:=(h.half hi).le i hi
   exact fv f (h.half hi) aa
theorem AW{n:Nat}{p:List Int}{r:Nat->Nat}(h:Fo n p r){i:Nat}(hi:i<n)(e:p.getD i 0≠(i:Int)):((iS p i).getD i 0).toNat<i:=by
 have h0:=h.le i hi;have h1:=h.le (p.getD i 0).toNat aa;have hl:=h.len;unfold iS;rw [aB aa];omega
theorem sB{n:Nat}{r:Nat->Nat}:∀(f g:Nat) {p:List Int} {i:Nat},Fo n p r->i<n->i<f->i<g->fM f p i=fM g p i
 |0,_,_,_,_,_,hf,_=>by omega
 |_+1,0,_,_,_,_,_,hg=>by omega
 |f+1,g+1,p,i,h,hi,hf,hg=>by
  unfold fM;split
  ·rfl
  ·rename_i e
   have:=AW h hi e;exact sB f g (h.half hi) aa aa aa
def vd(r:Nat->Nat)(i j:Nat):Nat->Nat:=λk=>if r k=max (r i) (r j) then min (r i) (r j) else r k
def PA(r:Nat->Nat)(p:List Int)(i j:Nat):List Int:=(fM (j+1) (fM (i+1) p i) j).set (max (r i) (r j)) ((min (r i) (r j):Nat):Int)
theorem Fo.union{n:Nat}{p:List Int}{r:Nat->Nat}(h:Fo n p r){i j:Nat}(hi:i<n)(hj:j<n):Fo n (PA r p i j) (vd r i j):=by
 have h2:=fv (j+1) (fv (i+1) h hi) hj;unfold PA
 revert h2
 generalize fM (j+1) (fM (i+1) p i) j=q;intro h2;have ri:=h2.Ag hi;have rj:=h2.Ag hj;have rri:=h2.rr hi;have rrj:=h2.rr hj;have hl:=h2.len;have hm:max (r i) (r j)<n:=aa
 have rm:r (max (r i) (r j))=max (r i) (r j):=by
  rcases Nat.le_total (r i) (r j)with e|e
  ·rw [Nat.max_eq_right e];exact rrj
  ·rw [Nat.max_eq_left e];exact rri
 have rn:r (min (r i) (r j))=min (r i) (r j):=by
  rcases Nat.le_total (r i) (r j)with e|e
  ·rw [Nat.min_eq_left e];exact rri
  ·rw [Nat.min_eq_right e];exact rrj
 have hle:min (r i) (r j)<=max (r i) (r j):=aa;generalize hM:max (r i) (r j)=M at*;generalize hN:min (r i) (r j)=N at*
 have hg:∀k,(q.set M (N:Int)).getD k 0=if k=M then (N:Int) else q.getD k 0:=λk=>by
  by_cases e:k=M
  ·subst e;rw [aB aa,ajq rfl]
  ·rw [getD_set_ne (Ne.symm e),ajm e]
 have hu:∀k,vd r i j k=if r k=M then N else r k:=λk=>by unfold vd;rw [hM,hN]
 refine⟨by rw [ajv];exact hl,λk hk=>?_,λk hk=>?_,λk hk e=>?_⟩
 ·rw [hg]
  by_cases e:k=M
  ·rw [ajq e];omega
  ·rw [ajm e];exact h2.le k hk
 ·rw [hg,hu,hu]
  by_cases e:k=M
  ·subst e
   rw [ajq rfl,ajr,rn,rm,ajq rfl];split<;>rfl
  ·rw [ajm e,h2.par k hk]
 ·rw [hg]at e
  rw [hu]
  by_cases e1:k=M
  ·subst e1
   rw [ajq rfl]at e;rw [rm,ajq rfl];omega
  ·rw [ajm e1]at e
   have:=h2.fix k hk e;rw [this,ajm e1]
def kZ(n:Nat)(r:Nat->Nat)(R:Nat->Nat->Prop):Prop:=∀a b,a<n->b<n->(r a=r b↔Eg R a b)
theorem kZ.union{n:Nat}{r:Nat->Nat}{R:Nat->Nat->Prop}(h:kZ n r R){i j:Nat}(hi:i<n)(hj:j<n):kZ n (vd r i j) (Wr R i j):=λa b ha hb=>by
 rw [Yf,<-h a b ha hb,<-h a i ha hi,<-h j b hj hb,<-h a j ha hj,<-h i b hi hb];unfold vd;have m1:max (r i) (r j)=r i/\min (r i) (r j)=r j\/max (r i) (r j)=r j/\min (r i) (r j)=r i:=aa;generalize r a=x;generalize r b=y
 revert m1
 generalize r i=u;generalize r j=v;generalize max u v=M;generalize min u v=N;intro m1;split<;>split<;>omega
theorem Fo.TV(n:Nat):Fo n (cR n) id:=
 ⟨bP n,λi hi=>by rw [dM hi];omega,λi hi=>by rw [dM hi];simp,λi _ _=>rfl⟩
theorem kZ.TV(n:Nat):kZ n id λ_ _=>False:=λa b _ _=>
 ⟨λe=>by have e:a=b:=e;subst e;exact .refl _,λe=>e.least (Q:=λa b=>id a=id b) (λ_=>rfl) (λ_ _ e=>e.symm) (λ_ _ _ e f=>e.trans f) λ_ _ f=>f.elim⟩
def MP(p:List Int):Nat->List Int
 |0=>p
 |k+1=>fM (k+1) (MP p k) k
theorem HA{n:Nat}{p:List Int}{r:Nat->Nat}(h:Fo n p r):∀k,k<=n->Fo n (MP p k) r
 |0,_=>h
 |k+1,hk=>fv (k+1) (HA h k aa) hk
def G2(n:Nat)(r:Nat->Nat):List Int:=(List.range n).map λi=>(r i:Int)
theorem p8(n:Nat)(r:Nat->Nat):(G2 n r).length=n:=by simp [G2]
theorem p9{n:Nat}{r:Nat->Nat}{i:Nat}(h:i<n):(G2 n r).getD i 0=(r i:Int):=by simp [G2,List.getD,h]
theorem kZ.xI{n:Nat}{r:Nat->Nat}{R:Nat->Nat->Prop}(h:kZ n r R):Td n (G2 n r) R:=
 ⟨p8 n r,λa b ha hb=>by rw [p9 ha,p9 hb,<-h a b ha hb];omega⟩
def K4(r:Nat->Nat):List (Int × Int)->Nat->Nat
 |[]=>r
 |x::l=>K4 (vd r x.1.toNat x.2.toNat) l
end Go.Proofs.YtgailjhnfghkgaaGreatDoor
end
section
namespace Go.Proofs.YtgailjhnfghkgaaGreatDoor
open Go Go.AM
set_option maxRecDepth 100000
theorem sR{t:List (List Int)}(h:¬400<(t.length:Int))(k:Nat)(hk:k<t.length)(hb:¬Iq t.length (t.getD k [])):4=eo t:=by
 unfold eo;rw [ajm aa,ajm aa,ajm];intro b5;exact hb (b5 _ (by simp [List.getD,hk]))
theorem Oa(t:List (List Int)):QF 62 [.ro (.rows .i64 t)] (.int .i64 (eo t)):=fN Tryz.func62 (by decide+kernel) rfl (ah rfl) λ_=>by
 refine ae (λh=>?_) (λh=>?_)
 ·refine ae (show(3:Int)=eo t from ?_) trivial
  unfold eo;rw [ajq aa]
 refine ae (λh1=>?_) (λh1=>?_)
 ·refine ae (show(4:Int)=eo t from ?_) trivial
  unfold eo;rw [ajm aa,ajq aa]
 refine af []<|lp (X:=Nat) (λk=>[(15,.int .i64 k)]) (λ_=>[]) (λk=>k<=t.length/\∀j,j<k->Iq t.length (t.getD j [])) (λk=>t.length - k) 0 ⟨ajk _,by simp⟩ ⟨⟨rfl,ag⟩,ag⟩ λk hk=>?_
 refine ae (λh2=>?_) (λh2=>?_)
 ·refine ae ⟨aa,aa⟩ ?_
  refine ae (λh3=>?_) (λh3=>?_)
  ·refine ae (show(4:Int)=eo t from ?_) trivial
   exact sR aa k aa (λhr=>h3 (by have:=hr.1;simp only [ajr];exact_mod_cast this))
  ·simp only [ajr]at h3
   refine af []<|lp (X:=Nat) (λi=>[(26,.int .i64 i)]) (λ_=>[]) (λi=>i<=t.length/\∀j,j<i->0<=(t.getD k []).getD j 0/\(t.getD k []).getD j 0<t.length) (λi=>t.length - i) 0 ⟨ajk _,by simp⟩ ⟨⟨rfl,ag⟩,ag⟩ λi hi=>?_
   refine ae (λh4=>?_) (λh4=>?_)
   ·simp only [ajr]at h4
    refine ae ⟨aa,by simp only [ajr];omega⟩ ?_;have hm:(t.getD k []).getD i 0∈t.getD k []:=al aa;refine ae (λh5=>?_) (λh5=>?_)
    ·refine ae (show(4:Int)=eo t from ?_) trivial
     refine sR aa k aa (λhr=>?_);have h6:=hr.2 _ hm;simp only [ajr]at h5;omega
    ·refine ae (λh6=>?_) (λh6=>?_)
     ·refine ae (show(4:Int)=eo t from ?_) trivial
      refine sR aa k aa (λhr=>?_);have h7:=hr.2 _ hm;simp only [ajr]at h6;omega
     ·refine ae ⟨aa,aa⟩ ?_
      refine nx (i+1) ⟨aa,λj hj=>?_⟩ (show t.length - (i+1)<t.length - i by omega) ⟨⟨rfl,ag⟩,ag⟩
      by_cases l4:j<i
      ·exact hi.2 j l4
      ·have:j=i:=aa
       subst this;exact⟨h5,h6⟩
   ·simp only [ajr]at h4
    refine ae ⟨aa,aa⟩ ?_;refine nx (k+1) ⟨aa,λj hj=>?_⟩ (show t.length - (k+1)<t.length - k by omega) ⟨⟨rfl,ag⟩,ag⟩
    by_cases dL:j<k
    ·exact hk.2 j dL
    ·have:j=k:=aa
     subst this;refine⟨aa,λx hx=>?_⟩;obtain⟨q,hq,rfl⟩:=aS 0 hx;exact hi.2 q aa
 ·refine ae (show(0:Int)=eo t from ?_) trivial
  unfold eo;rw [ajm aa,ajm aa,ajq];intro r hr;obtain⟨j,hj,rfl⟩:=aS [] hr;exact hk.2 j aa
theorem Ob{t:List (List Int)}(_hs:Sh t){gens:List Int}(_hg:∀g∈gens,0<=g/\g<t.length){k x y:Nat}(hk:k<gens.length)(hx:x<t.length)(hy:y<t.length)
  (h:en t (en t x (gens.getD k 0).toNat) y≠en t x (en t (gens.getD k 0).toNat y)):false=jM t gens:=by
 symm
 rw [BA];intro b5;exact h (b5 _ (al hk) x y hx hy)
theorem BB(t:List (List Int))(gens:List Int)(hs:Sh t)(hg:∀g∈gens,0<=g/\g<t.length)(ug:gens.length<=140737488355328):
  P7 TY SP Tryz.f63 [.ro (.rows .i64 t),.ro (.ints .i64 gens)] (.bool (.v (jM t gens))):=by
 have iu:=hs.pos;have ko:=hs.most;refine aj ?_;refine aj ?_;refine af []<|kF (λk (tr:List Bool)=>[(18,.int .i64 (k:Nat))]) (λk tr=>[(15,.vec 0 (.aI tr) [])]) (λk tr=>k<=gens.length/\tr.length=t.length/\(∀j,j<k->Lt t (gens.getD j 0).toNat)/\∀g,tr.getD g false=true->Lt t g) (λk tr=>gens.length - k) 0 (List.replicate t.length false) ?_ ⟨⟨rfl,ag⟩,⟨⟨aa,by simp⟩,rfl⟩,ag⟩ ?_
 ·exact⟨ajk _,by simp,by simp,λg h=>by simp [List.getD,List.getElem?_replicate]at h;split at h<;>simp at h⟩
 rintro k tr ⟨hk,WS,hL,hT⟩;refine ae (λh1=>?_) (λh1=>?_)
 ·refine aj ?_
  have lK:k<gens.length:=aa;have g1:0<=gens.getD (k:Int).toNat 0/\gens.getD (k:Int).toNat 0<t.length:=hg _ (al (by simp;omega));have g2:(gens.getD (k:Int).toNat 0).toNat<t.length:=aa;refine aj ?_;refine ae (λh2=>?_) (λh2=>?_)
  ·refine aj ?_
   refine nx (k+1,tr) ⟨aa,WS,λj hj=>?_,hT⟩ (show gens.length - (k+1)<gens.length - k by omega) ⟨⟨rfl,ag⟩,⟨⟨aa,aa⟩,rfl⟩,ag⟩
   by_cases dL:j<k
   ·exact hL j dL
   ·obtain rfl:j=k:=aa
    exact hT _ (by simpa using h2)
  ·refine aj ?_
   refine aj ?_;refine af []<|lp (X:=Nat) (λx=>[(31,.int .i64 x)]) (λ_=>[]) (λx=>x<=t.length/\∀x' y,x'<x->y<t.length->en t (en t x' (gens.getD (k:Int).toNat 0).toNat) y=en t x' (en t (gens.getD (k:Int).toNat 0).toNat y)) (λx=>t.length - x) 0 ⟨ajk _,aa⟩ ⟨⟨rfl,ag⟩,⟨⟨aa,by simp⟩,rfl⟩,ag⟩ ?_
   rintro x ⟨hx,hX⟩;refine ae (λh3=>?_) (λh3=>?_)
   ·have uz:x<t.length:=aa
    have mV:=hs.len uz;have a1:=hs.bF uz g2;refine aj ?_;refine ae (by simp only [ajr]at*;omega) ?_;refine ae (by simp only [ajr]at*;omega) ?_;refine aj ?_;refine af []<|lp (X:=Nat) (λy=>[(47,.int .i64 y)]) (λ_=>[]) (λy=>y<=t.length/\∀y',y'<y->en t (en t x (gens.getD (k:Int).toNat 0).toNat) y'=en t x (en t (gens.getD (k:Int).toNat 0).toNat y')) (λy=>t.length - y) 0 ⟨ajk _,aa⟩ ⟨⟨rfl,ag⟩,⟨⟨aa,by simp⟩,rfl⟩,ag⟩ ?_
    rintro y ⟨hy,hY⟩;have aeX:=hs.len g2;refine ae (λh4=>?_) (λh4=>?_)
    ·have UQ:y<t.length:=aa
     have b1:=hs.bF g2 UQ;have b2:=hs.bF a1.2 UQ;have b3:=hs.bF uz b1.2;have oO:=hs.len a1.2;refine aj ?_;refine Or.inl<|af (ai 9) (ae (by decide+kernel) ?_)
     refine ae (show 0<=(y:Int)/\(y:Int)<((t.getD (en t x (gens.getD (k:Int).toNat 0).toNat) []).length:Int) by omega) ?_;refine ae (by simp only [ajr]at*;omega) ?_;refine ae (λh5=>?_) (λh5=>?_)
     ·refine ae (Ob hs hg lK uz UQ λhe=>h5 ?_) trivial
      show(t.getD (en t x (gens.getD (k:Int).toNat 0).toNat) []).getD y 0=(t.getD x []).getD (en t (gens.getD (k:Int).toNat 0).toNat y) 0;rw [b2.1,b3.1];exact ajs _ he
     ·refine aj ?_
      refine nx (y+1) ⟨aa,λy' EV=>?_⟩ (show t.length - (y+1)<t.length - y by omega) ⟨⟨rfl,ag⟩,⟨⟨aa,aa⟩,rfl⟩,ag⟩
      by_cases hyy:y'<y
      ·exact hY y' hyy
      ·obtain rfl:y'=y:=aa
       have h5:(t.getD (en t x (gens.getD (k:Int).toNat 0).toNat) []).getD y' 0=(t.getD x []).getD (en t (gens.getD (k:Int).toNat 0).toNat y') 0:=h5;rw [b2.1,b3.1]at h5
       exact_mod_cast h5
    ·refine aj ?_
     refine nx (x+1) ⟨aa,λx' y mI hy=>?_⟩ (show t.length - (x+1)<t.length - x by omega) ⟨⟨rfl,ag⟩,⟨⟨aa,by simp⟩,rfl⟩,ag⟩
     by_cases hxx:x'<x
     ·exact hX x' y hxx hy
     ·obtain rfl:x'=x:=aa
      exact hY y aa
   ·refine aj ?_
    refine nx (k+1,tr.set (gens.getD (k:Int).toNat 0).toNat true) ⟨aa,by simp [WS],λj hj=>?_,λg hgt=>?_⟩ (show gens.length - (k+1)<gens.length - k by omega) ⟨⟨rfl,ag⟩,⟨⟨aa,aa⟩,rfl⟩,ag⟩
    ·by_cases dL:j<k
     ·exact hL j dL
     ·obtain rfl:j=k:=aa
      intro x' y' mI EV;exact hX x' y' aa EV
    ·by_cases FC:g=(gens.getD (k:Int).toNat 0).toNat
     ·subst FC
      intro x' y' mI EV;exact hX x' y' aa EV
     ·refine hT g ?_
      rwa [getD_set_ne (Ne.symm FC)]at hgt
 ·refine ae ?_ trivial
  show true=jM t gens
  symm
  rw [D7];intro g tq;obtain⟨j,hj,rfl⟩:=aS 0 tq;exact hL j aa
theorem yi(t:List (List Int))(gens:List Int)(hs:Sh t)(hg:∀g∈gens,0<=g/\g<t.length):
  QF 63 [.ro (.rows .i64 t),.ro (.ints .i64 gens)] (.bool (.v (jM t gens))):=
 fN Tryz.func63 (by decide+kernel) rfl (ah rfl) λhf=>BB t gens hs hg hf.2.1.1
def du(inn:List Bool)(made:List Int)(x:Nat):List Int:=if inn.getD x false=true then made else made++[(x:Int)]
theorem Yg(x:Nat)(inn:List Bool)(made:List Int)(wm:Nat)(hx:x<inn.length)(hm:made.length<100000)(hw:wm<=made.length):
  JH TY SP Tryz.f104 [.int .i64 x,.ptr 1000 0,.ptr 1001 0] [(1000,.box [.vec 1002]),(1002,.vec 0 (.aI inn) []),(1001,.box [.vec 501]),(501,.vec wm (.ints .i64 made) [])] (.cL [])
   [(1000,.box [.vec 1002]),(1002,.vec 0 (.aI (inn.set x true)) []),(1001,.box [.vec 501]),(501,.vec wm (.ints .i64 (du inn made x)) [])]:=by
 refine aj ?_;refine ae (λh1=>?_) (λh1=>?_)
 ·have h1:inn.getD x false=false:=by simpa using h1
  refine aj ?_;refine aj ?_;refine ae (by simp;omega) ?_;have e:du inn made x=made++[(x:Int)]:=by unfold du;rw [h1];rfl
  rw [e];refine ae ⟨⟨⟨rfl,ag,ag⟩,ag⟩,⟨⟨aa,by simp [RO.len]⟩,rfl⟩,⟨⟨rfl,ag,ag⟩,ag⟩,⟨⟨aa,by simp [RO.len];omega⟩,rfl⟩,ag⟩ trivial
 ·have h1:inn.getD x false=true:=by simpa using h1
  have e:du inn made x=made:=by unfold du;rw [h1];rfl
  have e2:inn.set x true=inn:=by
   refine List.ext_getElem? λi=>?_;rw [List.getElem?_set];split
   ·rename_i hi;subst hi
    simp [hx];rw [getD_eq hx]at h1;exact h1
   ·rfl
  rw [e,e2];refine ae ⟨⟨⟨rfl,ag,ag⟩,ag⟩,⟨⟨aa,by simp [RO.len]⟩,rfl⟩,⟨⟨rfl,ag,ag⟩,ag⟩,⟨⟨aa,by simp [RO.len];omega⟩,rfl⟩,ag⟩ trivial
theorem Gi(x:Nat)(inn:List Bool)(made:List Int)(wm:Nat)(hx:x<inn.length)(hm:made.length<100000)(hw:wm<=made.length):
  MF 104 [.int .i64 x,.ptr 1000 0,.ptr 1001 0] [(1000,.box [.vec 1002]),(1002,.vec 0 (.aI inn) []),(1001,.box [.vec 501]),(501,.vec wm (.ints .i64 made) [])] (.cL [])
   [(1000,.box [.vec 1002]),(1002,.vec 0 (.aI (inn.set x true)) []),(1001,.box [.vec 501]),(501,.vec wm (.ints .i64 (du inn made x)) [])]:=
 ui Tryz.func104 (by decide+kernel) rfl (ah rfl) λ_=>Yg x inn made wm hx hm hw
structure Km(t:List (List Int))(gens:List Int)(inn:List Bool)(made:List Int):Prop where
 len:inn.length=t.length
 gG:inn.count true=made.length
 mem:∀x,x<t.length->(inn.getD x false=true↔(x:Int)∈made)
 el:∀x∈made,0<=x/\x<t.length
 Zt:∀x∈made,Mk t gens x.toNat
theorem Km.le{t:List (List Int)}{gens:List Int}{inn:List Bool}{made:List Int}(h:Km t gens inn made):made.length<=t.length:=by
 rw [<-h.gG,<-h.len];exact List.count_le_length
theorem Km.add{t:List (List Int)}{gens:List Int}{inn:List Bool}{made:List Int}(h:Km t gens inn made){x:Nat}(hx:x<t.length)(hm:Mk t gens x):
  Km t gens (inn.set x true) (du inn made x)/\(∀y∈made,y∈du inn made x)/\(x:Int)∈du inn made x/\made.length<=(du inn made x).length:=by
 have BZ:x<inn.length:=by rw [h.len];exact hx
 cases hb:inn.getD x false with
 |true=>
  have e:du inn made x=made:=by unfold du;rw [hb];rfl
  have e2:inn.set x true=inn:=by
   refine List.ext_getElem? λi=>?_;rw [List.getElem?_set];split
   ·rename_i hi;subst hi
    simp [BZ];rw [getD_eq BZ]at hb;exact hb
   ·rfl
  rw [e,e2];exact⟨h,λ_ h=>h,(h.mem x hx).1 hb,ajl _⟩
 |false=>
  have e:du inn made x=made++[(x:Int)]:=by unfold du;rw [hb];rfl
  rw [e];refine⟨⟨by simp [h.len],?_,λy hy=>?_,λy hy=>?_,λy hy=>?_⟩,λy hy=>by simp [hy],by simp,by simp⟩
  ·rw [List.count_set BZ]
   rw [getD_eq BZ]at hb;simp [hb,h.gG]
  ·by_cases Zu:y=x
   ·subst Zu;rw [aB BZ];simp
   ·rw [getD_set_ne (Ne.symm Zu),h.mem y hy]
    simp;omega
  ·rcases ajK.1 hy with hy|hy
   ·exact h.el y hy
   ·simp at hy;omega
  ·rcases ajK.1 hy with hy|hy
   ·exact h.Zt y hy
   ·simp at hy;subst hy;simpa using hm
theorem Km.mono{t:List (List Int)}{g g':List Int}{inn:List Bool}{made:List Int}(h:Km t g inn made)(hs:∀x∈g,x∈g'):Km t g' inn made:=
 ⟨h.len,h.gG,h.mem,h.el,λx hx=>(h.Zt x hx).mono hs⟩
theorem Km.get{t:List (List Int)}{gens:List Int}{inn:List Bool}{made:List Int}(h:Km t gens inn made){j:Nat}(hj:j<made.length):made.getD j 0=((made.getD j 0).toNat:Int)/\(made.getD j 0).toNat<t.length/\Mk t gens (made.getD j 0).toNat:=by
 have hm:made.getD j 0∈made:=al hj;have h1:=h.el _ hm;exact⟨aa,aa,h.Zt _ hm⟩
theorem Ko{α:Type}{l:List α}{n i:Nat}{d:α}(h:i<n):((l.take n).drop 0).getD i d=l.getD i d:=by
 simp [List.getD,h]
set_option maxHeartbeats 1000000 in
theorem Gj(t:List (List Int))(hs:Sh t):
  Mq TY SP Tryz.f64 [.ro (.rows .i64 t)] (λg:List Int=>.ro (.ints .i64 g)) (λg=>qf t g):=by
 have iu:=hs.pos;have ko:=hs.most;refine aj ?_;refine aj ?_
 refine af []<|lp4 (λ(k:Nat) (gens:List Int) (inn:List Bool) (made:List Int)=>[(18,.int .i64 k),(3,.vec 28),(7,.int .i64 made.length)])
  (λk gens inn made=>[(28,.vec 0 (.ints .i64 gens) []),(14,.vec 0 (.aI inn) []),(40,.vec made.length (.ints .i64 made) []),(4,.box [.vec 40])])
  (λk gens inn made=>k<=t.length/\gens.length<=k/\(∀g∈gens,0<=g/\g<t.length)/\Km t gens inn made/\∀x,x<k->(x:Int)∈made) (λk _ _ _=>t.length - k) 0 [] (List.replicate t.length false) [] ?_ ?_ ?_
 ·refine⟨ajk _,ajl _,by simp,⟨by simp,by simp [List.count_replicate],λx _=>?_,by simp,by simp⟩,by simp⟩
  simp [List.getD,List.getElem?_replicate];split<;>simp
 ·repeat' first|exact ag|omega|refine ae ?_ ?_|exact rfl|simp [RO.len]
 rintro k gens inn made ⟨hk,hgk,hg,hM,b5⟩;have z8:=hM.le;have bD:=hM.len;refine ae (λh1=>?_) (λh1=>?_)
 ·refine aj ?_
  refine ae (λh2=>?_) (λh2=>?_)
  ·refine aj ?_
   refine nx (k+1,gens,inn,made) ⟨aa,aa,hg,hM,λx hx=>?_⟩ (show t.length - (k+1)<t.length - k by omega) ?_
   ·by_cases kU:x<k
    ·exact b5 x kU
    ·obtain rfl:x=k:=aa
     exact(hM.mem x aa).1 (by simpa using h2)
   ·repeat' first|refine ae ?_ ?_|exact ag|(show(_:Int)=(_:Int);omega)|omega|exact rfl|(simp only [RO.len];omega)
  ·refine ae (by simp;omega) ?_
   have hg':∀g∈gens++[(k:Int)],0<=g/\g<t.length:=λg tq=>by
    rcases ajK.1 tq with h|h
    ·exact hg g h
    ·simp at h;omega
   have hM0:=hM.mono (g':=gens++[(k:Int)]) (λx hx=>by simp [hx]);obtain⟨KM,TH,Yh,Yi⟩:=hM0.add (x:=k) aa (by have:=Mk.gen (t:=t) (gens:=gens++[(k:Int)]) (g:=k) (by simp);simpa using this);refine Or.inr (cm [] [(1000,5),(1001,4),(1002,14),(501,40)] (Gi k inn made made.length aa aa (ajl _)) ?_);refine ae ab ?_
   refine af []<|BU (λ(mu:Nat) (inn:List Bool) (made:List Int)=>[(7,.int .i64 mu)])
    (λmu inn made=>[(14,.vec 0 (.aI inn) []),(40,.vec mu (.ints .i64 made) []),(4,.box [.vec 40])])
    (λmu inn made=>mu<=made.length/\Km t (gens++[(k:Int)]) inn made/\∀x,x<k+1->(x:Int)∈made) (λmu _ _=>t.length - mu) made.length (inn.set k true) (du inn made k) ?_ ?_ ?_
   ·refine⟨Yi,KM,λx hx=>?_⟩
    by_cases kU:x<k
    ·exact TH _ (b5 x kU)
    ·obtain rfl:x=k:=aa
     exact Yh
   ·repeat' first|refine ae ?_ ?_|exact ag|(show(_:Int)=(_:Int);omega)|omega|exact rfl|(simp only [RO.len];omega)
   clear KM TH Yh Yi hM0;rintro mu inn made ⟨hmu,hM,b5⟩;have z8:=hM.le;have bD:=hM.len;refine ae (λh3=>?_) (λh3=>?_)
   ·have hX:=hM.get (j:=(mu:Int).toNat) aa
    refine aj ?_;refine aj ?_;refine aj ?_;refine Or.inl ?_
    refine af [33,38,40,42]<|BU (λ(j:Nat) (inn:List Bool) (made2:List Int)=>[(47,.int .i64 j)])
     (λj inn made2=>[(14,.vec 0 (.aI inn) []),(40,.vec (mu+1) (.ints .i64 made2) []),(4,.box [.vec 40])])
     (λj inn made2=>j<=mu+1/\Km t (gens++[(k:Int)]) inn made2/\made.length<=made2.length/\∀y∈made,y∈made2) (λj _ _=>mu+1 - j) 0 inn made ⟨ajk _,hM,ajl _,λ_ h=>h⟩ ?_ ?_
    ·repeat' first|refine ae ?_ ?_|exact ag|(show(_:Int)=(_:Int);omega)|omega|exact rfl|(simp only [RO.len];omega)
    rintro j inn2 made2 ⟨hj,V6,ae2,TI⟩;have Oc:=V6.le;have ae3:=V6.len;have hlen:((made.take ((mu:Int)+1).toNat).drop 0).length=mu+1:=by simp;omega
    refine ae (λh4=>?_) (λh4=>?_)
    ·have hY:=hM.get (j:=(j:Int).toNat) aa
     have Zv:((made.take ((mu:Int)+1).toNat).drop 0).getD (j:Int).toNat 0=made.getD (j:Int).toNat 0:=Ko aa;have e1:=hs.bF hX.2.1 hY.2.1;have e2:=hs.bF hY.2.1 hX.2.1;have l1:=hs.len hX.2.1;have l2:=hs.len hY.2.1;have A:=V6.add e1.2 (.mul hX.2.2 hY.2.2);have B:=A.1.add e2.2 (.mul hY.2.2 hX.2.2);have la:=A.1.le;have lb:=B.1.le;have ia:=A.1.len;have ae4:=A.2.2.2;have hE1:(t.getD (made.getD (mu:Int).toNat 0).toNat []).getD (((made.take ((mu:Int)+1).toNat).drop 0).getD (j:Int).toNat 0).toNat 0=(en t (made.getD (mu:Int).toNat 0).toNat (made.getD (j:Int).toNat 0).toNat:Int):=by rw [Zv];exact e1.1
     have hE2:(t.getD (((made.take ((mu:Int)+1).toNat).drop 0).getD (j:Int).toNat 0).toNat []).getD (made.getD (mu:Int).toNat 0).toNat 0=(en t (made.getD (j:Int).toNat 0).toNat (made.getD (mu:Int).toNat 0).toNat:Int):=by rw [Zv];exact e2.1
     refine aj ?_;refine aj ?_;refine ae (by rw [Zv];omega) ?_;refine Or.inr (cm [] [(1000,5),(1001,4),(1002,14),(501,40)] (Gi (en t (made.getD (mu:Int).toNat 0).toNat (made.getD (j:Int).toNat 0).toNat) inn2 made2 (mu+1) aa aa aa) ?_);refine ae (ae ab (ae hE1 (ae ⟨rfl,rfl,ag,ag⟩ (ae ⟨rfl,rfl,ag,ag⟩ trivial)))) ?_;refine aj ?_;refine ae (by rw [Zv];omega) ?_;refine Or.inr (cm [] [(1000,5),(1001,4),(1002,14),(501,40)] (Gi (en t (made.getD (j:Int).toNat 0).toNat (made.getD (mu:Int).toNat 0).toNat) (inn2.set (en t (made.getD (mu:Int).toNat 0).toNat (made.getD (j:Int).toNat 0).toNat) true) (du inn2 made2 (en t (made.getD (mu:Int).toNat 0).toNat (made.getD (j:Int).toNat 0).toNat)) (mu+1) (by rw [ia];exact e2.2) aa aa) ?_);refine ae (ae ab (ae hE2 (ae ⟨rfl,rfl,ag,ag⟩ (ae ⟨rfl,rfl,ag,ag⟩ trivial)))) ?_;refine aj ?_;refine nx (j+1,_,_) ⟨aa,B.1,aa,λy hy=>B.2.1 _ (A.2.1 _ (TI y hy))⟩ (show mu+1 - (j+1)<mu+1 - j by omega) ?_
     repeat' first|refine ae ?_ ?_|exact ag|(show(_:Int)=(_:Int);omega)|omega|exact rfl|(simp only [RO.len];omega)
    ·refine aj ?_
     refine nx (mu+1,inn2,made2) ⟨aa,V6,λx hx=>TI _ (b5 x hx)⟩ (show t.length - (mu+1)<t.length - mu by omega) ?_
     repeat' first|refine ae ?_ ?_|exact ag|(show(_:Int)=(_:Int);omega)|omega|exact rfl|(simp only [RO.len];omega)
   ·refine aj ?_
    refine nx (k+1,gens++[(k:Int)],inn,made) ⟨aa,by simp;omega,hg',hM,b5⟩ (show t.length - (k+1)<t.length - k by omega) ?_
    repeat' first|refine ae ?_ ?_|exact ag|(show(_:Int)=(_:Int);omega)|omega|exact rfl|(simp only [RO.len];omega)
 ·refine af gens (ae ⟨hg,λx hx=>?_⟩ ?_)
  ·have:=hM.Zt _ (b5 x aa);simpa using this
  ·repeat' first|refine ae ?_ ?_|exact ag|(show(_:Int)=(_:Int);omega)|omega|exact rfl|(simp only [RO.len];omega)
theorem D8(t:List (List Int))(hs:Sh t):EF 64 [.ro (.rows .i64 t)] (λg:List Int=>.ro (.ints .i64 g)) (λg=>qf t g):=
 Jp Tryz.func64 (by decide+kernel) rfl (ah rfl) λ_=>Gj t hs
theorem kV(t:List (List Int)):QF 27 [.ro (.rows .i64 t)] (.int .i64 (jC t)):=fN Tryz.func27 (by decide+kernel) rfl (ah rfl) λ_=>by
 refine Or.inl (cq (Oa t) (ae rfl ag) ?_);refine ae (λh1=>?_) (λh1=>?_)
 ·refine ae (show eo t=jC t from ?_) trivial
  unfold jC;rw [ajq h1]
 ·have hs:=pL.1 h1
  refine Or.inr (Or.inr (ce (D8 t hs) (ae rfl ag) λg hg=>?_));refine Or.inl (cq (yi t g hs hg.el) (ae rfl (ae rfl ag)) ?_);have e:=D9 hs hg;refine ae (λh2=>?_) (λh2=>?_)
  ·refine ae (show(5:Int)=jC t from ?_) trivial
   unfold jC;rw [ajm aa,ajm];intro ha;rw [e.2 ha]at h2;cases h2
  ·refine ae (show(0:Int)=jC t from ?_) trivial
   unfold jC;rw [ajm aa,ajq];refine e.1 ?_
   revert h2
   cases jM t g<;>simp
end Go.Proofs.YtgailjhnfghkgaaGreatDoor
end
