import Derived.Test.YtgailjhnfghkgaaGreatDoorOrd
section
namespace Go.Proofs.YtgailjhnfghkgaaGreatDoor
structure Fo(n:Nat)(p:List Int)(r:Nat->Nat):Prop where
 len:p.length=n
 le:∀i,i<n->0<=p.getD i 0/\p.getD i 0<=(i:Int)
 par:∀i,i<n->r (p.getD i 0).toNat=r i
 fix:∀i,i<n->p.getD i 0=(i:Int)->r i=i
def iE(p:List Int)(i:Nat):List Int:=p.set i (p.getD (p.getD i 0).toNat 0)
def fD:Nat->List Int->Nat->List Int
 |0,p,_=>p
 |f+1,p,i=>if p.getD i 0=(i:Int) then p else fD f (iE p i) ((iE p i).getD i 0).toNat
theorem Fo.Sq{n:Nat}{p:List Int}{r:Nat->Nat}(h:Fo n p r):∀m i,i<m->i<n->r i<=i:=by
 intro m
 induction m with
 |zero=>intro i hi;omega
 |succ m ih=>
  intro i hi hn
  by_cases e:p.getD i 0=(i:Int)
  ·rw [h.fix i hn e];exact Nat.le_refl _
  ·have:=h.le i hn
   have h1:=ih (p.getD i 0).toNat aa aa;rw [h.par i hn]at h1;omega
theorem Fo.root{n:Nat}{p:List Int}{r:Nat->Nat}(h:Fo n p r):∀m i,i<m->i<n->p.getD (r i) 0=(r i:Int):=by
 intro m
 induction m with
 |zero=>intro i hi;omega
 |succ m ih=>
  intro i hi hn
  by_cases e:p.getD i 0=(i:Int)
  ·rw [h.fix i hn e];exact e
  ·have:=h.le i hn
   have h1:=ih (p.getD i 0).toNat aa aa
   rwa [h.par i hn]at h1
theorem Fo.zo{n:Nat}{p:List Int}{r:Nat->Nat}(h:Fo n p r){i:Nat}(hi:i<n):r i<n:=Nat.lt_of_le_of_lt (h.Sq (i+1) i aa hi) hi
theorem Fo.rr{n:Nat}{p:List Int}{r:Nat->Nat}(h:Fo n p r){i:Nat}(hi:i<n):r (r i)=r i:=h.fix _ (h.zo hi) (h.root (i+1) i aa hi)
theorem Fo.half{n:Nat}{p:List Int}{r:Nat->Nat}(h:Fo n p r){i:Nat}(hi:i<n):Fo n (iE p i) r:=by
 have h0:=h.le i hi;have h1:=h.le (p.getD i 0).toNat aa;have hl:=h.len
 have hg:∀k,(iE p i).getD k 0=if k=i then p.getD (p.getD i 0).toNat 0 else p.getD k 0:=λ k=>by
  unfold iE
  by_cases e:k=i
  ·subst e;rw [aA aa,if_pos rfl]
  ·rw [getD_set_ne (Ne.symm e),if_neg e]
 refine⟨by unfold iE;rw [List.length_set];exact h.len,λ k hk=>?_,λ k hk=>?_,λ k hk e=>?_⟩
 ·rw [hg]
  by_cases e:k=i
  ·subst e;rw [if_pos rfl];omega
  ·rw [if_neg e];exact h.le k hk
 ·rw [hg]
  by_cases e:k=i
  ·subst e;rw [if_pos rfl,h.par _ aa,h.par _ hk]
  ·rw [if_neg e];exact h.par k hk
 ·rw [hg]at e
  by_cases e1:k=i
  ·subst e1;rw [if_pos rfl]at e;exact h.fix k hk aa
  ·rw [if_neg e1]at e;exact h.fix k hk e
theorem fh{n:Nat}{r:Nat->Nat}:∀(f:Nat) {p:List Int} {i:Nat},Fo n p r->i<n->Fo n (fD f p i) r
 |0,_,_,h,_=>h
 |f+1,p,i,h,hi=>by
  unfold fD;split
  ·exact h
  ·have:=(h.half hi).le i hi
   exact fh f (h.half hi) aa
theorem Ac{n:Nat}{p:List Int}{r:Nat->Nat}(h:Fo n p r){i:Nat}(hi:i<n)(e:p.getD i 0≠(i:Int)):((iE p i).getD i 0).toNat<i:=by
 have h0:=h.le i hi;have h1:=h.le (p.getD i 0).toNat aa;have hl:=h.len;unfold iE;rw [aA aa];omega
theorem rS{n:Nat}{r:Nat->Nat}:∀(f g:Nat) {p:List Int} {i:Nat},Fo n p r->i<n->i<f->i<g->fD f p i=fD g p i
 |0,_,_,_,_,_,hf,_=>by omega
 |_+1,0,_,_,_,_,_,hg=>by omega
 |f+1,g+1,p,i,h,hi,hf,hg=>by
  unfold fD;split
  ·rfl
  ·rename_i e
   have:=Ac h hi e;exact rS f g (h.half hi) aa aa aa
def vE(r:Nat->Nat)(i j:Nat):Nat->Nat:=λ k=>if r k=max (r i) (r j) then min (r i) (r j) else r k
def Pr(r:Nat->Nat)(p:List Int)(i j:Nat):List Int:=(fD (j+1) (fD (i+1) p i) j).set (max (r i) (r j)) ((min (r i) (r j):Nat):Int)
theorem Fo.union{n:Nat}{p:List Int}{r:Nat->Nat}(h:Fo n p r){i j:Nat}(hi:i<n)(hj:j<n):Fo n (Pr r p i j) (vE r i j):=by
 have h2:=fh (j+1) (fh (i+1) h hi) hj;unfold Pr
 revert h2
 generalize fD (j+1) (fD (i+1) p i) j=q;intro h2;have ri:=h2.zo hi;have rj:=h2.zo hj;have rri:=h2.rr hi;have rrj:=h2.rr hj;have hl:=h2.len;have hm:max (r i) (r j)<n:=aa
 have rm:r (max (r i) (r j))=max (r i) (r j):=by
  rcases Nat.le_total (r i) (r j)with e|e
  ·rw [Nat.max_eq_right e];exact rrj
  ·rw [Nat.max_eq_left e];exact rri
 have rn:r (min (r i) (r j))=min (r i) (r j):=by
  rcases Nat.le_total (r i) (r j)with e|e
  ·rw [Nat.min_eq_left e];exact rri
  ·rw [Nat.min_eq_right e];exact rrj
 have hle:min (r i) (r j)<=max (r i) (r j):=aa;generalize hM:max (r i) (r j)=M at*;generalize hN:min (r i) (r j)=N at*
 have hg:∀k,(q.set M (N:Int)).getD k 0=if k=M then (N:Int) else q.getD k 0:=λ k=>by
  by_cases e:k=M
  ·subst e;rw [aA aa,if_pos rfl]
  ·rw [getD_set_ne (Ne.symm e),if_neg e]
 have hu:∀k,vE r i j k=if r k=M then N else r k:=λ k=>by unfold vE;rw [hM,hN]
 refine⟨by rw [List.length_set];exact hl,λ k hk=>?_,λ k hk=>?_,λ k hk e=>?_⟩
 ·rw [hg]
  by_cases e:k=M
  ·rw [if_pos e];omega
  ·rw [if_neg e];exact h2.le k hk
 ·rw [hg,hu,hu]
  by_cases e:k=M
  ·subst e
   rw [if_pos rfl,Int.toNat_natCast,rn,rm,if_pos rfl];split<;>rfl
  ·rw [if_neg e,h2.par k hk]
 ·rw [hg]at e
  rw [hu]
  by_cases e1:k=M
  ·subst e1
   rw [if_pos rfl]at e;rw [rm,if_pos rfl];omega
  ·rw [if_neg e1]at e
   have:=h2.fix k hk e;rw [this,if_neg e1]
def kJ(n:Nat)(r:Nat->Nat)(R:Nat->Nat->Prop):Prop:=∀a b,a<n->b<n->(r a=r b↔Eg R a b)
theorem kJ.union{n:Nat}{r:Nat->Nat}{R:Nat->Nat->Prop}(h:kJ n r R){i j:Nat}(hi:i<n)(hj:j<n):kJ n (vE r i j) (UZ R i j):=λ a b ha hb=>by
 rw [WH,<-h a b ha hb,<-h a i ha hi,<-h j b hj hb,<-h a j ha hj,<-h i b hi hb];unfold vE;have m1:max (r i) (r j)=r i/\min (r i) (r j)=r j\/max (r i) (r j)=r j/\min (r i) (r j)=r i:=aa;generalize r a=x;generalize r b=y
 revert m1
 generalize r i=u;generalize r j=v;generalize max u v=M;generalize min u v=N;intro m1;split<;>split<;>omega
theorem Fo.Sp(n:Nat):Fo n (cV n) id:=
 ⟨bM n,λ i hi=>by rw [du hi];omega,λ i hi=>by rw [du hi];simp,λ i _ _=>rfl⟩
theorem kJ.Sp(n:Nat):kJ n id λ _ _=>False:=λ a b _ _=>
 ⟨λ e=>by have e:a=b:=e;subst e;exact .refl _,λ e=>e.least (Q:=λ a b=>id a=id b) (λ _=>rfl) (λ _ _ e=>e.symm) (λ _ _ _ e f=>e.trans f) λ _ _ f=>f.elim⟩
def Ll(p:List Int):Nat->List Int
 |0=>p
 |k+1=>fD (k+1) (Ll p k) k
theorem Gv{n:Nat}{p:List Int}{r:Nat->Nat}(h:Fo n p r):∀k,k<=n->Fo n (Ll p k) r
 |0,_=>h
 |k+1,hk=>fh (k+1) (Gv h k aa) hk
def EP(n:Nat)(r:Nat->Nat):List Int:=(List.range n).map λ i=>(r i:Int)
theorem qm(n:Nat)(r:Nat->Nat):(EP n r).length=n:=by simp [EP]
theorem qn{n:Nat}{r:Nat->Nat}{i:Nat}(h:i<n):(EP n r).getD i 0=(r i:Int):=by simp [EP,List.getD,h]
theorem kJ.xd{n:Nat}{r:Nat->Nat}{R:Nat->Nat->Prop}(h:kJ n r R):Rq n (EP n r) R:=
 ⟨qm n r,λ a b ha hb=>by rw [qn ha,qn hb,<-h a b ha hb];omega⟩
def IC(r:Nat->Nat):List (Int × Int)->Nat->Nat
 |[]=>r
 |x::l=>IC (vE r x.1.toNat x.2.toNat) l
end Go.Proofs.YtgailjhnfghkgaaGreatDoor
end
section
namespace Go.Proofs.YtgailjhnfghkgaaGreatDoor
open Go Go.AM
set_option maxRecDepth 100000
theorem sk{t:List (List Int)}(h:¬400<(t.length:Int))(k:Nat)(hk:k<t.length)(hb:¬Hk t.length (t.getD k [])):4=dV t:=by
 unfold dV;rw [if_neg aa,if_neg aa,if_neg];intro bX;exact hb (bX _ (by simp [List.getD,hk]))
theorem MG(t:List (List Int)):QF 62 [.ro (.rows .i64 t)] (.int .i64 (dV t)):=kr Tryz.func62 (by decide+kernel) rfl (ah rfl) λ _=>by
 refine ae (λ h=>?_) (λ h=>?_)
 ·refine ae (show(3:Int)=dV t from ?_) trivial
  unfold dV;rw [if_pos aa]
 refine ae (λ h1=>?_) (λ h1=>?_)
 ·refine ae (show(4:Int)=dV t from ?_) trivial
  unfold dV;rw [if_neg aa,if_pos aa]
 refine af []<|lp (X:=Nat) (λ k=>[(15,.int .i64 k)]) (λ _=>[]) (λ k=>k<=t.length/\∀j,j<k->Hk t.length (t.getD j [])) (λ k=>t.length - k) 0 ⟨Nat.zero_le _,by simp⟩ ⟨⟨rfl,ag⟩,ag⟩ λ k hk=>?_
 refine ae (λ h2=>?_) (λ h2=>?_)
 ·refine ae ⟨aa,aa⟩ ?_
  refine ae (λ h3=>?_) (λ h3=>?_)
  ·refine ae (show(4:Int)=dV t from ?_) trivial
   exact sk aa k aa (λ hr=>h3 (by have:=hr.1;simp only [Int.toNat_natCast];exact_mod_cast this))
  ·simp only [Int.toNat_natCast]at h3
   refine af []<|lp (X:=Nat) (λ i=>[(26,.int .i64 i)]) (λ _=>[]) (λ i=>i<=t.length/\∀j,j<i->0<=(t.getD k []).getD j 0/\(t.getD k []).getD j 0<t.length) (λ i=>t.length - i) 0 ⟨Nat.zero_le _,by simp⟩ ⟨⟨rfl,ag⟩,ag⟩ λ i hi=>?_
   refine ae (λ h4=>?_) (λ h4=>?_)
   ·simp only [Int.toNat_natCast]at h4
    refine ae ⟨aa,by simp only [Int.toNat_natCast];omega⟩ ?_;have hm:(t.getD k []).getD i 0∈t.getD k []:=an aa;refine ae (λ h5=>?_) (λ h5=>?_)
    ·refine ae (show(4:Int)=dV t from ?_) trivial
     refine sk aa k aa (λ hr=>?_);have h6:=hr.2 _ hm;simp only [Int.toNat_natCast]at h5;omega
    ·refine ae (λ h6=>?_) (λ h6=>?_)
     ·refine ae (show(4:Int)=dV t from ?_) trivial
      refine sk aa k aa (λ hr=>?_);have h7:=hr.2 _ hm;simp only [Int.toNat_natCast]at h6;omega
     ·refine ae ⟨aa,aa⟩ ?_
      refine nx (i+1) ⟨aa,λ j hj=>?_⟩ (show t.length - (i+1)<t.length - i by omega) ⟨⟨rfl,ag⟩,ag⟩
      by_cases lL:j<i
      ·exact hi.2 j lL
      ·have:j=i:=aa
       subst this;exact⟨h5,h6⟩
   ·simp only [Int.toNat_natCast]at h4
    refine ae ⟨aa,aa⟩ ?_;refine nx (k+1) ⟨aa,λ j hj=>?_⟩ (show t.length - (k+1)<t.length - k by omega) ⟨⟨rfl,ag⟩,ag⟩
    by_cases dM:j<k
    ·exact hk.2 j dM
    ·have:j=k:=aa
     subst this;refine⟨aa,λ x hx=>?_⟩;obtain⟨q,hq,rfl⟩:=aV 0 hx;exact hi.2 q aa
 ·refine ae (show(0:Int)=dV t from ?_) trivial
  unfold dV;rw [if_neg aa,if_neg aa,if_pos];intro r hr;obtain⟨j,hj,rfl⟩:=aV [] hr;exact hk.2 j aa
theorem MH{t:List (List Int)}(_hs:Sh t){gens:List Int}(_hg:∀g∈gens,0<=g/\g<t.length){k x y:Nat}(hk:k<gens.length)(hx:x<t.length)(hy:y<t.length)
  (h:en t (en t x (gens.getD k 0).toNat) y≠en t x (en t (gens.getD k 0).toNat y)):false=jz t gens:=by
 symm
 rw [AN];intro bX;exact h (bX _ (an hk) x y hx hy)
theorem AO(t:List (List Int))(gens:List Int)(hs:Sh t)(hg:∀g∈gens,0<=g/\g<t.length)(tz:gens.length<=140737488355328):
  SS TY SP Tryz.f63 [.ro (.rows .i64 t),.ro (.ints .i64 gens)] (.bool (.v (jz t gens))):=by
 have gV:=hs.pos;have kT:=hs.most;refine ae aa ?_;refine ae aa ?_;refine af []<|lA (λ k (tr:List Bool)=>[(18,.int .i64 (k:Nat))]) (λ k tr=>[(15,.vec 0 (.aL tr) [])]) (λ k tr=>k<=gens.length/\tr.length=t.length/\(∀j,j<k->Lt t (gens.getD j 0).toNat)/\∀g,tr.getD g false=true->Lt t g) (λ k tr=>gens.length - k) 0 (List.replicate t.length false) ?_ ⟨⟨rfl,ag⟩,⟨⟨aa,by simp⟩,rfl⟩,ag⟩ ?_
 ·exact⟨Nat.zero_le _,by simp,by simp,λ g h=>by simp [List.getD,List.getElem?_replicate]at h;split at h<;>simp at h⟩
 rintro k tr ⟨hk,Vn,hL,hT⟩;refine ae (λ h1=>?_) (λ h1=>?_)
 ·refine ae aa ?_
  have lr:k<gens.length:=aa;have g1:0<=gens.getD (k:Int).toNat 0/\gens.getD (k:Int).toNat 0<t.length:=hg _ (an (by simp;omega));have g2:(gens.getD (k:Int).toNat 0).toNat<t.length:=aa;refine ae aa ?_;refine ae (λ h2=>?_) (λ h2=>?_)
  ·refine ae aa ?_
   refine nx (k+1,tr) ⟨aa,Vn,λ j hj=>?_,hT⟩ (show gens.length - (k+1)<gens.length - k by omega) ⟨⟨rfl,ag⟩,⟨⟨aa,aa⟩,rfl⟩,ag⟩
   by_cases dM:j<k
   ·exact hL j dM
   ·obtain rfl:j=k:=aa
    exact hT _ (by simpa using h2)
  ·refine ae aa ?_
   refine ae aa ?_;refine af []<|lp (X:=Nat) (λ x=>[(31,.int .i64 x)]) (λ _=>[]) (λ x=>x<=t.length/\∀x' y,x'<x->y<t.length->en t (en t x' (gens.getD (k:Int).toNat 0).toNat) y=en t x' (en t (gens.getD (k:Int).toNat 0).toNat y)) (λ x=>t.length - x) 0 ⟨Nat.zero_le _,aa⟩ ⟨⟨rfl,ag⟩,⟨⟨aa,by simp⟩,rfl⟩,ag⟩ ?_
   rintro x ⟨hx,hX⟩;refine ae (λ h3=>?_) (λ h3=>?_)
   ·have zf:x<t.length:=aa
    have pA:=hs.len zf;have a1:=hs.bA zf g2;refine ae aa ?_;refine ae (by simp only [Int.toNat_natCast]at*;omega) ?_;refine ae (by simp only [Int.toNat_natCast]at*;omega) ?_;refine ae aa ?_;refine af []<|lp (X:=Nat) (λ y=>[(47,.int .i64 y)]) (λ _=>[]) (λ y=>y<=t.length/\∀y',y'<y->en t (en t x (gens.getD (k:Int).toNat 0).toNat) y'=en t x (en t (gens.getD (k:Int).toNat 0).toNat y')) (λ y=>t.length - y) 0 ⟨Nat.zero_le _,aa⟩ ⟨⟨rfl,ag⟩,⟨⟨aa,by simp⟩,rfl⟩,ag⟩ ?_
    rintro y ⟨hy,hY⟩;have adf:=hs.len g2;refine ae (λ h4=>?_) (λ h4=>?_)
    ·have V5:y<t.length:=aa
     have b1:=hs.bA g2 V5;have b2:=hs.bA a1.2 V5;have b3:=hs.bA zf b1.2;have ot:=hs.len a1.2;refine ae aa ?_;refine Or.inl<|af [false,false,false,false,false,false,false,false,false] (ae (by decide+kernel) ?_)
     refine ae (show 0<=(y:Int)/\(y:Int)<((t.getD (en t x (gens.getD (k:Int).toNat 0).toNat) []).length:Int) by omega) ?_;refine ae (by simp only [Int.toNat_natCast]at*;omega) ?_;refine ae (λ h5=>?_) (λ h5=>?_)
     ·refine ae (MH hs hg lr zf V5 λ he=>h5 ?_) trivial
      show(t.getD (en t x (gens.getD (k:Int).toNat 0).toNat) []).getD y 0=(t.getD x []).getD (en t (gens.getD (k:Int).toNat 0).toNat y) 0;rw [b2.1,b3.1];exact congrArg _ he
     ·refine ae aa ?_
      refine nx (y+1) ⟨aa,λ y' D7=>?_⟩ (show t.length - (y+1)<t.length - y by omega) ⟨⟨rfl,ag⟩,⟨⟨aa,aa⟩,rfl⟩,ag⟩
      by_cases hyy:y'<y
      ·exact hY y' hyy
      ·obtain rfl:y'=y:=aa
       have h5:(t.getD (en t x (gens.getD (k:Int).toNat 0).toNat) []).getD y' 0=(t.getD x []).getD (en t (gens.getD (k:Int).toNat 0).toNat y') 0:=h5;rw [b2.1,b3.1]at h5
       exact_mod_cast h5
    ·refine ae aa ?_
     refine nx (x+1) ⟨aa,λ x' y mA hy=>?_⟩ (show t.length - (x+1)<t.length - x by omega) ⟨⟨rfl,ag⟩,⟨⟨aa,by simp⟩,rfl⟩,ag⟩
     by_cases hxx:x'<x
     ·exact hX x' y hxx hy
     ·obtain rfl:x'=x:=aa
      exact hY y aa
   ·refine ae aa ?_
    refine nx (k+1,tr.set (gens.getD (k:Int).toNat 0).toNat true) ⟨aa,by simp [Vn],λ j hj=>?_,λ g hgt=>?_⟩ (show gens.length - (k+1)<gens.length - k by omega) ⟨⟨rfl,ag⟩,⟨⟨aa,aa⟩,rfl⟩,ag⟩
    ·by_cases dM:j<k
     ·exact hL j dM
     ·obtain rfl:j=k:=aa
      intro x' y' mA D7;exact hX x' y' aa D7
    ·by_cases Ez:g=(gens.getD (k:Int).toNat 0).toNat
     ·subst Ez
      intro x' y' mA D7;exact hX x' y' aa D7
     ·refine hT g ?_
      rwa [getD_set_ne (Ne.symm Ez)]at hgt
 ·refine ae ?_ trivial
  show true=jz t gens
  symm
  rw [Dc];intro g sJ;obtain⟨j,hj,rfl⟩:=aV 0 sJ;exact hL j aa
theorem xH(t:List (List Int))(gens:List Int)(hs:Sh t)(hg:∀g∈gens,0<=g/\g<t.length):
  QF 63 [.ro (.rows .i64 t),.ro (.ints .i64 gens)] (.bool (.v (jz t gens))):=
 kr Tryz.func63 (by decide+kernel) rfl (ah rfl) λ hf=>AO t gens hs hg hf.2.1.1
def dh(inn:List Bool)(made:List Int)(x:Nat):List Int:=if inn.getD x false=true then made else made++[(x:Int)]
theorem WI(x:Nat)(inn:List Bool)(made:List Int)(wm:Nat)(hx:x<inn.length)(hm:made.length<100000)(hw:wm<=made.length):
  Iu TY SP Tryz.f104 [.int .i64 x,.ptr 1000 0,.ptr 1001 0] [(1000,.box [.vec 1002]),(1002,.vec 0 (.aL inn) []),(1001,.box [.vec 501]),(501,.vec wm (.ints .i64 made) [])] (.cC [])
   [(1000,.box [.vec 1002]),(1002,.vec 0 (.aL (inn.set x true)) []),(1001,.box [.vec 501]),(501,.vec wm (.ints .i64 (dh inn made x)) [])]:=by
 refine ae aa ?_;refine ae (λ h1=>?_) (λ h1=>?_)
 ·have h1:inn.getD x false=false:=by simpa using h1
  refine ae aa ?_;refine ae aa ?_;refine ae (by simp;omega) ?_;have e:dh inn made x=made++[(x:Int)]:=by unfold dh;rw [h1];rfl
  rw [e];refine ae ⟨⟨⟨rfl,ag,ag⟩,ag⟩,⟨⟨aa,by simp [RO.len]⟩,rfl⟩,⟨⟨rfl,ag,ag⟩,ag⟩,⟨⟨aa,by simp [RO.len];omega⟩,rfl⟩,ag⟩ trivial
 ·have h1:inn.getD x false=true:=by simpa using h1
  have e:dh inn made x=made:=by unfold dh;rw [h1];rfl
  have e2:inn.set x true=inn:=by
   refine List.ext_getElem? λ i=>?_;rw [List.getElem?_set];split
   ·rename_i hi;subst hi
    simp [hx];rw [getD_eq hx]at h1;exact h1
   ·rfl
  rw [e,e2];refine ae ⟨⟨⟨rfl,ag,ag⟩,ag⟩,⟨⟨aa,by simp [RO.len]⟩,rfl⟩,⟨⟨rfl,ag,ag⟩,ag⟩,⟨⟨aa,by simp [RO.len];omega⟩,rfl⟩,ag⟩ trivial
theorem Fi(x:Nat)(inn:List Bool)(made:List Int)(wm:Nat)(hx:x<inn.length)(hm:made.length<100000)(hw:wm<=made.length):
  MF 104 [.int .i64 x,.ptr 1000 0,.ptr 1001 0] [(1000,.box [.vec 1002]),(1002,.vec 0 (.aL inn) []),(1001,.box [.vec 501]),(501,.vec wm (.ints .i64 made) [])] (.cC [])
   [(1000,.box [.vec 1002]),(1002,.vec 0 (.aL (inn.set x true)) []),(1001,.box [.vec 501]),(501,.vec wm (.ints .i64 (dh inn made x)) [])]:=
 tf Tryz.func104 (by decide+kernel) rfl (ah rfl) λ _=>WI x inn made wm hx hm hw
structure Je(t:List (List Int))(gens:List Int)(inn:List Bool)(made:List Int):Prop where
 len:inn.length=t.length
 gh:inn.count true=made.length
 mem:∀x,x<t.length->(inn.getD x false=true↔(x:Int)∈made)
 el:∀x∈made,0<=x/\x<t.length
 XX:∀x∈made,Mk t gens x.toNat
theorem Je.le{t:List (List Int)}{gens:List Int}{inn:List Bool}{made:List Int}(h:Je t gens inn made):made.length<=t.length:=by
 rw [<-h.gh,<-h.len];exact List.count_le_length
theorem Je.add{t:List (List Int)}{gens:List Int}{inn:List Bool}{made:List Int}(h:Je t gens inn made){x:Nat}(hx:x<t.length)(hm:Mk t gens x):
  Je t gens (inn.set x true) (dh inn made x)/\(∀y∈made,y∈dh inn made x)/\(x:Int)∈dh inn made x/\made.length<=(dh inn made x).length:=by
 have Bb:x<inn.length:=by rw [h.len];exact hx
 cases hb:inn.getD x false with
 |true=>
  have e:dh inn made x=made:=by unfold dh;rw [hb];rfl
  have e2:inn.set x true=inn:=by
   refine List.ext_getElem? λ i=>?_;rw [List.getElem?_set];split
   ·rename_i hi;subst hi
    simp [Bb];rw [getD_eq Bb]at hb;exact hb
   ·rfl
  rw [e,e2];exact⟨h,λ _ h=>h,(h.mem x hx).1 hb,Nat.le_refl _⟩
 |false=>
  have e:dh inn made x=made++[(x:Int)]:=by unfold dh;rw [hb];rfl
  rw [e];refine⟨⟨by simp [h.len],?_,λ y hy=>?_,λ y hy=>?_,λ y hy=>?_⟩,λ y hy=>by simp [hy],by simp,by simp⟩
  ·rw [List.count_set Bb]
   rw [getD_eq Bb]at hb;simp [hb,h.gh]
  ·by_cases XY:y=x
   ·subst XY;rw [aA Bb];simp
   ·rw [getD_set_ne (Ne.symm XY),h.mem y hy]
    simp;omega
  ·rcases List.mem_append.1 hy with hy|hy
   ·exact h.el y hy
   ·simp at hy;omega
  ·rcases List.mem_append.1 hy with hy|hy
   ·exact h.XX y hy
   ·simp at hy;subst hy;simpa using hm
theorem Je.mono{t:List (List Int)}{g g':List Int}{inn:List Bool}{made:List Int}(h:Je t g inn made)(hs:∀x∈g,x∈g'):Je t g' inn made:=
 ⟨h.len,h.gh,h.mem,h.el,λ x hx=>(h.XX x hx).mono hs⟩
theorem Je.get{t:List (List Int)}{gens:List Int}{inn:List Bool}{made:List Int}(h:Je t gens inn made){j:Nat}(hj:j<made.length):made.getD j 0=((made.getD j 0).toNat:Int)/\(made.getD j 0).toNat<t.length/\Mk t gens (made.getD j 0).toNat:=by
 have hm:made.getD j 0∈made:=an hj;have h1:=h.el _ hm;exact⟨aa,aa,h.XX _ hm⟩
theorem Jf{α:Type}{l:List α}{n i:Nat}{d:α}(h:i<n):((l.take n).drop 0).getD i d=l.getD i d:=by
 simp [List.getD,h]
set_option maxHeartbeats 1000000 in
theorem Fj(t:List (List Int))(hs:Sh t):
  KW TY SP Tryz.f64 [.ro (.rows .i64 t)] (λ g:List Int=>.ro (.ints .i64 g)) (λ g=>pL t g):=by
 have gV:=hs.pos;have kT:=hs.most;refine ae aa ?_;refine ae aa ?_
 refine af []<|YZ (λ(k:Nat) (gens:List Int) (inn:List Bool) (made:List Int)=>[(18,.int .i64 k),(3,.vec 28),(7,.int .i64 made.length)])
  (λ k gens inn made=>[(28,.vec 0 (.ints .i64 gens) []),(14,.vec 0 (.aL inn) []),(40,.vec made.length (.ints .i64 made) []),(4,.box [.vec 40])])
  (λ k gens inn made=>k<=t.length/\gens.length<=k/\(∀g∈gens,0<=g/\g<t.length)/\Je t gens inn made/\∀x,x<k->(x:Int)∈made) (λ k _ _ _=>t.length - k) 0 [] (List.replicate t.length false) [] ?_ ?_ ?_
 ·refine⟨Nat.zero_le _,Nat.le_refl _,by simp,⟨by simp,by simp [List.count_replicate],λ x _=>?_,by simp,by simp⟩,by simp⟩
  simp [List.getD,List.getElem?_replicate];split<;>simp
 ·repeat' first|exact ag|omega|refine ae ?_ ?_|exact rfl|simp [RO.len]
 rintro k gens inn made ⟨hk,hgk,hg,hM,bX⟩;have ze:=hM.le;have bL:=hM.len;refine ae (λ h1=>?_) (λ h1=>?_)
 ·refine ae aa ?_
  refine ae (λ h2=>?_) (λ h2=>?_)
  ·refine ae aa ?_
   refine nx (k+1,gens,inn,made) ⟨aa,aa,hg,hM,λ x hx=>?_⟩ (show t.length - (k+1)<t.length - k by omega) ?_
   ·by_cases kH:x<k
    ·exact bX x kH
    ·obtain rfl:x=k:=aa
     exact(hM.mem x aa).1 (by simpa using h2)
   ·repeat' first|refine ae ?_ ?_|exact ag|(show(_:Int)=(_:Int);omega)|omega|exact rfl|(simp only [RO.len];omega)
  ·refine ae (by simp;omega) ?_
   have hg':∀g∈gens++[(k:Int)],0<=g/\g<t.length:=λ g sJ=>by
    rcases List.mem_append.1 sJ with h|h
    ·exact hg g h
    ·simp at h;omega
   have hM0:=hM.mono (g':=gens++[(k:Int)]) (λ x hx=>by simp [hx]);obtain⟨N5,RP,WJ,WK⟩:=hM0.add (x:=k) aa (by have:=Mk.gen (t:=t) (gens:=gens++[(k:Int)]) (g:=k) (by simp);simpa using this);refine Or.inr (cm [] [(1000,5),(1001,4),(1002,14),(501,40)] (Fi k inn made made.length aa aa (Nat.le_refl _)) ?_);refine ae ab ?_
   refine af []<|A9 (λ(mu:Nat) (inn:List Bool) (made:List Int)=>[(7,.int .i64 mu)])
    (λ mu inn made=>[(14,.vec 0 (.aL inn) []),(40,.vec mu (.ints .i64 made) []),(4,.box [.vec 40])])
    (λ mu inn made=>mu<=made.length/\Je t (gens++[(k:Int)]) inn made/\∀x,x<k+1->(x:Int)∈made) (λ mu _ _=>t.length - mu) made.length (inn.set k true) (dh inn made k) ?_ ?_ ?_
   ·refine⟨WK,N5,λ x hx=>?_⟩
    by_cases kH:x<k
    ·exact RP _ (bX x kH)
    ·obtain rfl:x=k:=aa
     exact WJ
   ·repeat' first|refine ae ?_ ?_|exact ag|(show(_:Int)=(_:Int);omega)|omega|exact rfl|(simp only [RO.len];omega)
   clear N5 RP WJ WK hM0;rintro mu inn made ⟨hmu,hM,bX⟩;have ze:=hM.le;have bL:=hM.len;refine ae (λ h3=>?_) (λ h3=>?_)
   ·have hX:=hM.get (j:=(mu:Int).toNat) aa
    refine ae aa ?_;refine ae aa ?_;refine ae aa ?_;refine Or.inl ?_
    refine af [33,38,40,42]<|A9 (λ(j:Nat) (inn:List Bool) (made2:List Int)=>[(47,.int .i64 j)])
     (λ j inn made2=>[(14,.vec 0 (.aL inn) []),(40,.vec (mu+1) (.ints .i64 made2) []),(4,.box [.vec 40])])
     (λ j inn made2=>j<=mu+1/\Je t (gens++[(k:Int)]) inn made2/\made.length<=made2.length/\∀y∈made,y∈made2) (λ j _ _=>mu+1 - j) 0 inn made ⟨Nat.zero_le _,hM,Nat.le_refl _,λ _ h=>h⟩ ?_ ?_
    ·repeat' first|refine ae ?_ ?_|exact ag|(show(_:Int)=(_:Int);omega)|omega|exact rfl|(simp only [RO.len];omega)
    rintro j inn2 made2 ⟨hj,XZ,adk,RQ⟩;have JW:=XZ.le;have adl:=XZ.len;have hlen:((made.take ((mu:Int)+1).toNat).drop 0).length=mu+1:=by simp;omega
    refine ae (λ h4=>?_) (λ h4=>?_)
    ·have hY:=hM.get (j:=(j:Int).toNat) aa
     have X0:((made.take ((mu:Int)+1).toNat).drop 0).getD (j:Int).toNat 0=made.getD (j:Int).toNat 0:=Jf aa;have e1:=hs.bA hX.2.1 hY.2.1;have e2:=hs.bA hY.2.1 hX.2.1;have l1:=hs.len hX.2.1;have l2:=hs.len hY.2.1;have A:=XZ.add e1.2 (.mul hX.2.2 hY.2.2);have B:=A.1.add e2.2 (.mul hY.2.2 hX.2.2);have la:=A.1.le;have lb:=B.1.le;have ia:=A.1.len;have adm:=A.2.2.2;have hE1:(t.getD (made.getD (mu:Int).toNat 0).toNat []).getD (((made.take ((mu:Int)+1).toNat).drop 0).getD (j:Int).toNat 0).toNat 0=(en t (made.getD (mu:Int).toNat 0).toNat (made.getD (j:Int).toNat 0).toNat:Int):=by rw [X0];exact e1.1
     have hE2:(t.getD (((made.take ((mu:Int)+1).toNat).drop 0).getD (j:Int).toNat 0).toNat []).getD (made.getD (mu:Int).toNat 0).toNat 0=(en t (made.getD (j:Int).toNat 0).toNat (made.getD (mu:Int).toNat 0).toNat:Int):=by rw [X0];exact e2.1
     refine ae aa ?_;refine ae aa ?_;refine ae (by rw [X0];omega) ?_;refine Or.inr (cm [] [(1000,5),(1001,4),(1002,14),(501,40)] (Fi (en t (made.getD (mu:Int).toNat 0).toNat (made.getD (j:Int).toNat 0).toNat) inn2 made2 (mu+1) aa aa aa) ?_);refine ae (ae ab (ae hE1 (ae ⟨rfl,rfl,ag,ag⟩ (ae ⟨rfl,rfl,ag,ag⟩ trivial)))) ?_;refine ae aa ?_;refine ae (by rw [X0];omega) ?_;refine Or.inr (cm [] [(1000,5),(1001,4),(1002,14),(501,40)] (Fi (en t (made.getD (j:Int).toNat 0).toNat (made.getD (mu:Int).toNat 0).toNat) (inn2.set (en t (made.getD (mu:Int).toNat 0).toNat (made.getD (j:Int).toNat 0).toNat) true) (dh inn2 made2 (en t (made.getD (mu:Int).toNat 0).toNat (made.getD (j:Int).toNat 0).toNat)) (mu+1) (by rw [ia];exact e2.2) aa aa) ?_);refine ae (ae ab (ae hE2 (ae ⟨rfl,rfl,ag,ag⟩ (ae ⟨rfl,rfl,ag,ag⟩ trivial)))) ?_;refine ae aa ?_;refine nx (j+1,_,_) ⟨aa,B.1,aa,λ y hy=>B.2.1 _ (A.2.1 _ (RQ y hy))⟩ (show mu+1 - (j+1)<mu+1 - j by omega) ?_
     repeat' first|refine ae ?_ ?_|exact ag|(show(_:Int)=(_:Int);omega)|omega|exact rfl|(simp only [RO.len];omega)
    ·refine ae aa ?_
     refine nx (mu+1,inn2,made2) ⟨aa,XZ,λ x hx=>RQ _ (bX x hx)⟩ (show t.length - (mu+1)<t.length - mu by omega) ?_
     repeat' first|refine ae ?_ ?_|exact ag|(show(_:Int)=(_:Int);omega)|omega|exact rfl|(simp only [RO.len];omega)
   ·refine ae aa ?_
    refine nx (k+1,gens++[(k:Int)],inn,made) ⟨aa,by simp;omega,hg',hM,bX⟩ (show t.length - (k+1)<t.length - k by omega) ?_
    repeat' first|refine ae ?_ ?_|exact ag|(show(_:Int)=(_:Int);omega)|omega|exact rfl|(simp only [RO.len];omega)
 ·refine af gens (ae ⟨hg,λ x hx=>?_⟩ ?_)
  ·have:=hM.XX _ (bX x aa);simpa using this
  ·repeat' first|refine ae ?_ ?_|exact ag|(show(_:Int)=(_:Int);omega)|omega|exact rfl|(simp only [RO.len];omega)
theorem Dd(t:List (List Int))(hs:Sh t):EF 64 [.ro (.rows .i64 t)] (λ g:List Int=>.ro (.ints .i64 g)) (λ g=>pL t g):=
 HG Tryz.func64 (by decide+kernel) rfl (ah rfl) λ _=>Fj t hs
theorem kU(t:List (List Int)):QF 27 [.ro (.rows .i64 t)] (.int .i64 (jA t)):=kr Tryz.func27 (by decide+kernel) rfl (ah rfl) λ _=>by
 refine Or.inl (cq (MG t) (ae rfl ag) ?_);refine ae (λ h1=>?_) (λ h1=>?_)
 ·refine ae (show dV t=jA t from ?_) trivial
  unfold jA;rw [if_pos h1]
 ·have hs:=ph.1 h1
  refine Or.inr (Or.inr (ce (Dd t hs) (ae rfl ag) λ g hg=>?_));refine Or.inl (cq (xH t g hs hg.el) (ae rfl (ae rfl ag)) ?_);have e:=De hs hg;refine ae (λ h2=>?_) (λ h2=>?_)
  ·refine ae (show(5:Int)=jA t from ?_) trivial
   unfold jA;rw [if_neg aa,if_neg];intro ha;rw [e.2 ha]at h2;cases h2
  ·refine ae (show(0:Int)=jA t from ?_) trivial
   unfold jA;rw [if_neg aa,if_pos];refine e.1 ?_
   revert h2
   cases jz t g<;>simp
end Go.Proofs.YtgailjhnfghkgaaGreatDoor
end
