import Derived.Test.YtgailjhnfghkgaaGreatDoorCg
import Derived.Test.YtgailjhnfghkgaaGreatDoorMult
import Derived.Test.YtgailjhnfghkgaaGreatDoorOrd
section
namespace Go.Proofs.YtgailjhnfghkgaaGreatDoor
open Go Go.AM
section
variable{t:List (List Int)}{side:Int}
theorem PS{J:Nat->Nat->Prop}(hs:Semi t)(_hJ:∀a b,J a b->a<t.length/\b<t.length){gens:List Int}(hg:∀g∈gens,0<=g/\g<(t.length:Int))
  (hc:∀a b,J a b->∀g∈gens,(side≠2->Eg J (en t g.toNat a) (en t g.toNat b))/\(side≠1->Eg J (en t a g.toNat) (en t b g.toNat))) {s:Nat} (m:Mk t gens s):
  ∀a b,a<t.length->b<t.length->Eg J a b->(side≠2->Eg J (en t s a) (en t s b))/\(side≠1->Eg J (en t a s) (en t b s)):=by
 have hS:=hs.toSh
 have base:∀g∈gens,∀a b,Eg J a b->(side≠2->Eg J (en t g.toNat a) (en t g.toNat b))/\(side≠1->Eg J (en t a g.toNat) (en t b g.toNat)):=λg tq a b e=>
  e.least (Q:=λa b=>(side≠2->Eg J (en t g.toNat a) (en t g.toNat b))/\(side≠1->Eg J (en t a g.toNat) (en t b g.toNat))) (λ_=>⟨λ_=>.refl _,λ_=>.refl _⟩) (λ_ _ h=>⟨λh0=>(h.1 h0).symm,λh0=>(h.2 h0).symm⟩)
    (λ_ _ _ h h'=>⟨λh0=>(h.1 h0).trans (h'.1 h0),λh0=>(h.2 h0).trans (h'.2 h0)⟩) λa b h=>hc a b h g tq
 have key:∀{s:Nat},Mk t gens s->s<t.length/\∀a b,a<t.length->b<t.length->Eg J a b->(side≠2->Eg J (en t s a) (en t s b))/\(side≠1->Eg J (en t a s) (en t b s)):=λ{s} m=>by
  induction m with
  |gen h=>exact⟨by have:=hg _ h;omega,λa b _ _ e=>base _ h a b e⟩
  |mul ha hb i1 i2=>
   rename_i u v;refine⟨(hS.bF i1.1 i2.1).2,λa b B3 fB e=>⟨λh0=>?_,λh0=>?_⟩⟩
   ·rw [kP hs.assoc i1.1 i2.1 B3,kP hs.assoc i1.1 i2.1 fB]
    exact(i1.2 _ _ (hS.bF i2.1 B3).2 (hS.bF i2.1 fB).2 ((i2.2 a b B3 fB e).1 h0)).1 h0
   ·rw [<-kP hs.assoc B3 i1.1 i2.1,<-kP hs.assoc fB i1.1 i2.1]
    exact(i2.2 _ _ (hS.bF B3 i1.1).2 (hS.bF fB i1.1).2 ((i1.2 a b B3 fB e).2 h0)).2 h0
 exact(key m).2
end
def yB(r:Nat->Nat)(i:Nat):Bool:=decide (r i=i)
def dX(n:Nat)(r:Nat->Nat):Nat:=((List.range n).filter (yB r)).length
theorem GZ{P:Nat->Bool}{M:Nat}:∀{n:Nat},M<n->P M=true->((List.range n).filter λi=>P i&&decide (i≠M)).length+1=((List.range n).filter P).length:=by
 have no:∀n,n<=M->((List.range n).filter λi=>P i&&decide (i≠M))=(List.range n).filter P:=λn hn=>
  List.filter_congr λx hx=>by
   have:=ajJ.1 hx;have:x≠M:=aa;simp [this]
 intro n
 induction n with
 |zero=>intro h;omega
 |succ n ih=>
  intro h hp;rw [List.range_succ,List.filter_append,List.filter_append,ajp,ajp]
  by_cases e:M=n
  ·subst e
   rw [no M (ajl _)];simp [hp]
  ·have:=ih aa hp
   have hn:(decide (n≠M))=true:=aj3 (λh=>e h.symm)
   have:([n].filter λi=>P i&&decide (i≠M))=[n].filter P:=by
    simp only [List.filter_cons,hn,Bool.and_true,List.filter_nil]
   rw [this];omega
theorem JR{n:Nat}{p:List Int}{r:Nat->Nat}(h:Fo n p r){i j:Nat}(hi:i<n)(hj:j<n)(bn:r i≠r j):dX n (vd r i j)+1=dX n r:=by
 have hM:max (r i) (r j)<n:=by have:=h.Ag hi;have:=h.Ag hj;omega
 have hr:r (max (r i) (r j))=max (r i) (r j)/\r (min (r i) (r j))=min (r i) (r j):=by
  have h1:=h.rr hi;have h2:=h.rr hj;rcases Nat.le_total (r i) (r j)with e|e
  ·rw [Nat.max_eq_right e,Nat.min_eq_left e];exact⟨h2,h1⟩
  ·rw [Nat.max_eq_left e,Nat.min_eq_right e];exact⟨h1,h2⟩
 have aX:min (r i) (r j)<max (r i) (r j):=aa;have:=GZ (P:=yB r) hM (by unfold yB;exact aj3 hr.1);unfold dX;rw [<-this]
 congr 1
 refine ajs List.length (List.filter_congr λk hk=>?_);unfold yB vd;generalize max (r i) (r j)=M at*;generalize min (r i) (r j)=m at*
 by_cases e:r k=M
 ·rw [ajq e]
  have h1:¬m=k:=λe2=>by rw [<-e2,hr.2]at e;omega
  by_cases h2:k=M
  ·simp [h2]
   intro;omega
  ·have h3:¬r k=k:=λe2=>h2 aa
   simp [h1,h3]
 ·rw [ajm e]
  have h2:k≠M:=λe2=>e (by rw [e2];exact hr.1);simp [h2]
theorem E9(n:Nat)(r:Nat->Nat):dX n r<=n:=by
 have:=List.length_filter_le (yB r) (List.range n);rw [List.length_range]at this;exact this
theorem LD(n:Nat):dX n id=n:=by
 unfold dX;rw [List.filter_eq_self.2 λx _=>by unfold yB;exact aj3 rfl,List.length_range]
def XC(p:List Int)(i j:Nat):List Int:=fM (j+1) (fM (i+1) p i) j
theorem UU{n:Nat}{p:List Int}{r:Nat->Nat}(h:Fo n p r){i j:Nat}(hi:i<n)(hj:j<n):Fo n (XC p i j) r:=fv _ (fv _ h hi) hj
def KO(r:Nat->Nat)(p:List Int)(i j:Nat):List Int:=if r i=r j then XC p i j else PA r p i j
def Ae(r:Nat->Nat)(i j:Nat):Nat->Nat:=if r i=r j then r else vd r i j
theorem WX{n:Nat}{p:List Int}{r:Nat->Nat}(h:Fo n p r){i j:Nat}(hi:i<n)(hj:j<n):Fo n (KO r p i j) (Ae r i j):=by
 unfold KO Ae
 by_cases e:r i=r j
 ·rw [ajq e,ajq e];exact UU h hi hj
 ·rw [ajm e,ajm e];exact h.union hi hj
theorem LG{n:Nat}{r:Nat->Nat}{R:Nat->Nat->Prop}(h:kZ n r R){i j:Nat}(hi:i<n)(hj:j<n):kZ n (Ae r i j) (Wr R i j):=by
 unfold Ae
 by_cases e:r i=r j
 ·rw [ajq e]
  intro a b ha hb;rw [h a b ha hb];refine⟨λk=>k.mono λa b h=>.rel (.inl h),λk=>k.mono λa b h=>?_⟩;rcases h with h|⟨rfl,rfl⟩
  ·exact .rel h
  ·exact(h a b hi hj).1 e
 ·rw [ajm e];exact h.union hi hj
theorem LF{n:Nat}{p:List Int}{r:Nat->Nat}(h:Fo n p r){i j:Nat}(hi:i<n)(hj:j<n):dX n (Ae r i j)+(if r i=r j then 0 else 1)=dX n r:=by
 unfold Ae
 by_cases e:r i=r j
 ·rw [ajq e,ajq e,akb]
 ·rw [ajm e,ajm e];exact JR h hi hj e
def O4(n:Nat)(W:List (Int × Int)):Prop:=∀q∈W,(0<=q.1/\q.1<(n:Int))/\0<=q.2/\q.2<(n:Int)
theorem PQ{n:Nat}{V W:List (Int × Int)}:O4 n (V++W)↔O4 n V/\O4 n W:=
 ⟨λh=>⟨λq hq=>h q (aj8 _ hq),λq hq=>h q (akr _ hq)⟩,λh q hq=>(ajK.1 hq).elim (h.1 q) (h.2 q)⟩
noncomputable def Zg(R:Nat->Nat->Prop)(a b:Nat):Bool:=@decide (Eg R a b) (Classical.propDecidable _)
theorem iz{R:Nat->Nat->Prop}{a b:Nat}:Zg R a b=true↔Eg R a b:=by unfold Zg;exact @decide_eq_true_iff _ (Classical.propDecidable _)
theorem MT(n:Nat)(R:Nat->Nat->Prop):TU n (Zg R):=E7 (λx _=>iz.2 (.refl x)) λ_ _ _ _ _ _ h h'=>iz.2 ((iz.1 h).trans (iz.1 h'))
noncomputable def oA(n:Nat)(R:Nat->Nat->Prop):List Int:=tR n (Zg R)
theorem Ah{n:Nat}{R:Nat->Nat->Prop}:(oA n R).length=n:=p6 _ _
theorem yC{n:Nat}{R:Nat->Nat->Prop}:canon (oA n R)=oA n R:=fy _
theorem I7{n:Nat}{R:Nat->Nat->Prop}(h:n<=4096):bz (oA n R):=⟨by rw [Ah];exact h,yC⟩
theorem fS{n:Nat}{R:Nat->Nat->Prop}{a b:Nat}(ha:a<n)(hb:b<n):(oA n R).getD a 0=(oA n R).getD b 0↔Eg R a b:=by
 unfold oA;rw [p7 (MT n R) ha hb,iz,iz];exact⟨λh=>h.1,λh=>⟨h,h.symm⟩⟩
theorem Fc{n:Nat}{p:List Int}{R:Nat->Nat->Prop}(h:Td n p R):canon p=oA n R:=
 Dl (MT n R) h.1 λa b ha hb=>by
  rw [iz,iz,h.2 a b ha hb];exact⟨λh=>⟨h,h.symm⟩,λh=>h.1⟩
theorem kZ.congr{n:Nat}{r:Nat->Nat}{R R':Nat->Nat->Prop}(h:kZ n r R)(h1:∀a b,R a b->Eg R' a b)(h2:∀a b,R' a b->Eg R a b):kZ n r R':=
 λa b ha hb=>(h a b ha hb).trans ⟨Eg.mono h1,Eg.mono h2⟩
def dV(l:List (Int × Int))(a b:Nat):Prop:=((a:Int),(b:Int))∈l
def orR(R:Nat->Nat->Prop)(l:List (Int × Int))(a b:Nat):Prop:=R a b\/dV l a b
theorem HF{n:Nat}:∀(l:List (Int × Int)) (r:Nat->Nat) (R:Nat->Nat->Prop),kZ n r R->O4 n l->kZ n (K4 r l) (orR R l)
 |[],r,R,h,_=>h.congr (λa b h=>.rel (.inl h)) λa b h=>h.elim .rel λh=>nomatch h
 |x::l,r,R,h,hW=>by
  have hx:=hW x (by simp);have hl:O4 n l:=λq hq=>hW q (ajj _ hq);refine(HF l (vd r x.1.toNat x.2.toNat) (Wr R x.1.toNat x.2.toNat) (h.union aa aa) hl).congr (λa b h=>.rel ?_) λa b h=>.rel ?_
  ·rcases h with (h|⟨rfl,rfl⟩)|h
   ·exact .inl h
   ·refine .inr ?_
    show(_,_)∈_;rw [Int.toNat_of_nonneg hx.1.1,Int.toNat_of_nonneg hx.2.1];exact ajn
   ·exact .inr (ajj _ h)
  ·rcases h with h|h
   ·exact .inl (.inl h)
   ·rcases ajo.1 h with h|h
    ·exact .inl (.inr ⟨by rw [<-h];rfl,by rw [<-h];rfl⟩)
    ·exact .inr h
theorem JP{n:Nat}{l:List (Int × Int)}(h:O4 n l):canon (G2 n (K4 id l))=oA n (dV l):=
 Fc (((HF l id (λ_ _=>False) (kZ.TV n) h).congr (λa b h=>h.elim (λf=>f.elim) .rel) λ_a _b h=>.rel (.inr h)).xI)
theorem b9{α:Type}[DecidableEq α]:∀{A B:List α},A.Nodup->(∀x∈A,x∈B)->A.length<=B.length
 |[],_,_,_=>ajk _
 |a::A,B,hA,h=>by
  have ha:=h a (by simp);have hn:=akw.1 hA;have:=b9 (B:=B.erase a) hn.2 λx hx=>(List.mem_erase_of_ne λe=>by subst e;exact hn.1 hx).2 (h x (ajj _ hx));have hl:=List.length_erase_of_mem ha;have hp:=akx ha;simp only [ajY];omega
end Go.Proofs.YtgailjhnfghkgaaGreatDoor
end
section
namespace Go.Proofs.YtgailjhnfghkgaaGreatDoor
open Classical
theorem a6{α:Type}{l m:List α}(d:α)(hl:l.length=m.length)(h:∀i,i<l.length->l.getD i d=m.getD i d):l=m:=by
 refine List.ext_getElem hl λi h1 h2=>?_;have:=h i h1
 simpa [List.getD,h1,h2]using this
end Go.Proofs.YtgailjhnfghkgaaGreatDoor
end
section
namespace Go.Proofs.YtgailjhnfghkgaaGreatDoor
open Go Go.AM
def bG(f g:List Int):List Int:=f.map λy=>g.getD y.toNat 0
section
variable{n:Nat}{f g h:List Int}
theorem dR:(bG f g).length=f.length:=by simp [bG]
theorem ib{i:Nat}(hi:i<f.length):(bG f g).getD i 0=g.getD (f.getD i 0).toNat 0:=by simp [bG,List.getD,hi]
theorem JS{l:List Int}(hl:l.Nodup){i j:Nat}(hi:i<l.length)(hj:j<l.length)(e:l.getD i 0=l.getD j 0):i=j:=by
 rw [getD_eq hi,getD_eq hj]at e;exact(List.getElem_inj hl).1 e
end
theorem cS{α:Type}{E:List α}{x d:α}{j:Nat}(h:j<E.length):(E++[x]).getD j d=E.getD j d:=by
 simp [List.getD,List.getElem?_append_left h]
theorem iI{α:Type}{E:List α}{x d:α}:(E++[x]).getD E.length d=x:=by simp [List.getD]
structure lJ(n:Nat)(f:List Int):Prop where
 len:f.length=n
 oz:∀x∈f,0<=x/\x<(n:Int)
section
variable{n:Nat}{f g h:List Int}
theorem lJ.at(hf:lJ n f){i:Nat}(hi:i<n):0<=f.getD i 0/\f.getD i 0<(n:Int):=hf.oz _ (al (by rw [hf.len];exact hi))
theorem QT(n:Nat):lJ n (cR n):=⟨bP n,λ_ hx=>c8.1 hx⟩
theorem lJ.cmp(hf:lJ n f)(hg:lJ n g):lJ n (bG f g):=by
 refine⟨by rw [dR,hf.len],λx hx=>?_⟩;obtain⟨y,hy,rfl⟩:=ajU.1 hx;have:=hf.oz y hy;exact hg.at aa
theorem sC(hf:lJ n f)(hg:lJ n g):bG (bG f g) h=bG f (bG g h):=by
 refine a6 0 (by rw [dR,dR,dR]) λi hi=>?_;rw [dR,dR]at hi;have h1:=hf.at (i:=i) (by rw [<-hf.len];exact hi);rw [ib (by rw [dR];exact hi),ib hi,ib hi,ib (by rw [hg.len];omega)]
theorem zT(hg:lJ n g):bG (cR n) g=g:=by
 refine a6 0 (by rw [dR,bP,hg.len]) λi hi=>?_;rw [dR,bP]at hi;rw [ib (by rw [bP];exact hi),dM hi,ajr]
theorem HG(hf:lJ n f):bG f (cR n)=f:=by
 refine a6 0 (by rw [dR]) λi hi=>?_;rw [dR]at hi;have h1:=hf.at (i:=i) (by rw [<-hf.len];exact hi);rw [ib hi,dM aa];omega
end
def QU(n:Nat):Nat->List (List Int)
 |0=>[[]]
 |k+1=>(QU n k).flatMap λl=>(cR n).map λx=>x::l
theorem HH{n:Nat}:∀{l:List Int},(∀x∈l,0<=x/\x<(n:Int))->l∈QU n l.length
 |[],_=>ajC.2 rfl
 |a::l,hr=>List.mem_flatMap.2 ⟨l,HH λx hx=>hr x (ajj _ hx),ajU.2 ⟨a,c8.2 (hr a (ajn ..)),rfl⟩⟩
theorem QV:∀n,n<=3->(QU n n).length<=27:=by decide+kernel
theorem qW{n:Nat}(hn:n<=3){E:List (List Int)}(hd:E.Nodup)(hE:∀p∈E,lJ n p):E.length<=27:=by
 refine ajW (b9 hd (B:=QU n n) λp hp=>?_) (QV n hn);have:=HH (hE p hp).oz;rw [(hE p hp).len]at this;exact this
def fc:List (List Int)->List Int->Nat
 |[],_=>0|a::E,f=>if a=f then 0 else fc E f+1
theorem dr{f:List Int}:∀{E:List (List Int)},f∈E->fc E f<E.length/\E.getD (fc E f) []=f
 |a::E,h=>by
  unfold fc;split
  ·rename_i e;exact⟨ako _,e⟩
  ·rename_i e
   have:=dr ((ajo.1 h).resolve_left λe'=>e e'.symm);exact⟨Nat.succ_lt_succ this.1,this.2⟩
theorem HI{E:List (List Int)}(hd:E.Nodup){i j:Nat}(hi:i<E.length)(hj:j<E.length)(e:E.getD i []=E.getD j []):i=j:=by
 rw [getD_eq hi,getD_eq hj]at e;exact(List.getElem_inj hd).1 e
theorem wx{E:List (List Int)}(hd:E.Nodup){i:Nat}(hi:i<E.length):fc E (E.getD i [])=i:=
 have h:=dr (al (d:=[]) hi)
 HI hd h.1 hi h.2
def mapA:List (List Int)->Nat->List (List Int × Int)
 |[],_=>[]|a::E,k=>(a,(k:Int))::mapA E (k+1)
def c7(E:List (List Int)):List (List Int × Int):=mapA E 0
theorem yW{f:List Int}:∀{E:List (List Int)} {k:Nat},getM (mapA E k) f=if f∈E then some ((k+fc E f:Nat):Int) else none
 |[],_=>rfl
 |a::E,k=>by
  show(if a=f then some (k:Int) else getM (mapA E (k+1)) f)=_;unfold fc
  by_cases h:a=f
  ·rw [ajq h,ajq (by rw [h];exact ajn ..),ajq h];rfl
  ·rw [ajm h,yW,ajm h]
   by_cases hm:f∈E
   ·rw [ajq hm,ajq (ajj _ hm),Nat.add_right_comm];rfl
   ·rw [ajm hm,ajm λhc=>(ajo.1 hc).elim (λe=>h e.symm) hm]
theorem Dr{f:List Int}:∀{E:List (List Int)} {k:Nat},mapA (E++[f]) k=mapA E k++[(f,((k+E.length:Nat):Int))]
 |[],_=>rfl
 |a::E,k=>by
  show(a,(k:Int))::mapA (E++[f]) (k+1)=_;rw [Dr,show k+1+E.length=k+(a::E).length by simp;omega];rfl
theorem dC{f:List Int}{E:List (List Int)}:getM (c7 E) f=if f∈E then some (fc E f:Int) else none:=by
 unfold c7;rw [yW,ajQ]
theorem sD{f:List Int}{E:List (List Int)}(h:f∉E):lA (c7 E) f (E.length:Int)=c7 (E++[f]):=by
 rw [qX (by rw [dC,ajm h])];unfold c7;rw [Dr,ajQ]
structure pA where
 E:List (List Int)
 P:List Int
 L:List Int
 W:List (List Int)
 B:List Int
 R:List (List Int)
 U:List (List Int × List Int)
 D:Nat
 S:List Int
 Q:List Int
abbrev FQ(x:Nat):List Int:=[97+(x:Int)]
abbrev dT(R:List (List Int))(b:Int)(x:Nat):Int:=(R.getD b.toNat []).getD x 0
def Wt(G:List (List Int))(s:pA)(x:Nat):pA:=
 if G.getD x []∈s.E then { s with U:=s.U++[(FQ x,s.W.getD (fc s.E (G.getD x [])) [])],S:=s.S++[(fc s.E (G.getD x []):Int)] }
 else { s with E:=s.E++[G.getD x []],P:=s.P++[0],L:=s.L++[(x:Int)],W:=s.W++[FQ x],B:=s.B++[0],S:=s.S++[(s.E.length:Int)] }
def bgS(n:Nat):pA:=⟨[cR n],[-1],[-1],[[]],[-1],[],[],0,[],[]⟩
def iN(n:Nat)(G:List (List Int)):Nat->pA
 |0=>bgS n|k+1=>Wt G (iN n G k) k
def QW(s:pA)(x:Nat):Bool:=
 decide (s.P.getD (dT s.R (s.B.getD s.D 0) x).toNat 0=s.B.getD s.D 0)&&decide (s.L.getD (dT s.R (s.B.getD s.D 0) x).toNat 0=(x:Int))
def FR(G:List (List Int))(s:pA)(x:Nat):pA:=
 if bG (s.E.getD s.D []) (G.getD x [])∈s.E then
  { s with U:=if s.W.getD s.D []≠[]/\QW s x=true then s.U++[(s.W.getD s.D []++FQ x,s.W.getD (fc s.E (bG (s.E.getD s.D []) (G.getD x []))) [])] else s.U,Q:=s.Q.set x (fc s.E (bG (s.E.getD s.D []) (G.getD x [])):Int) }
 else { s with E:=s.E++[bG (s.E.getD s.D []) (G.getD x [])],P:=s.P++[(s.D:Int)],L:=s.L++[(x:Int)],W:=s.W++[s.W.getD s.D []++FQ x],B:=s.B++[dT s.R (s.B.getD s.D 0) x],Q:=s.Q.set x (s.E.length:Int) }
def eH(G:List (List Int))(s:pA):Nat->pA
 |0=>{ s with Q:=List.replicate G.length 0 }|k+1=>FR G (eH G s k) k
def MU(G:List (List Int))(s:pA):pA:={ eH G s G.length with R:=(eH G s G.length).R++[(eH G s G.length).Q],D:=(eH G s G.length).D+1,Q:=[] }
def K6(n:Nat)(G:List (List Int)):Nat->pA
 |0=>iN n G G.length|j+1=>MU G (K6 n G j)
section
variable{n:Nat}{G:List (List Int)}
structure oY(n:Nat)(G:List (List Int))(k:Nat)(s:pA):Prop where
 ya:∀f∈s.E,lJ n f
 nd:s.E.Nodup
 one:s.E.getD 0 []=cR n
 pos:0<s.E.length
 pl:s.P.length=s.E.length
 ll:s.L.length=s.E.length
 wl:s.W.length=s.E.length
 bl:s.B.length=s.E.length
 dl:s.D<=s.E.length
 rl:s.R.length=s.D
 sl:s.S.length=k
 row:∀i,i<s.D->(s.R.getD i []).length=G.length/\∀x,x<G.length->0<=dT s.R i x/\dT s.R i x<(s.E.length:Int)/\s.E.getD (dT s.R i x).toNat []=bG (s.E.getD i []) (G.getD x [])
 p0:s.P.getD 0 0= -1
 l0:s.L.getD 0 0= -1
 w0:s.W.getD 0 []=[]
 wd:∀i,i<s.E.length->(s.W.getD i []).length<=i
 pre:∀i,0<i->i<s.E.length->(0<=s.P.getD i 0/\s.P.getD i 0<(i:Int))/\(0<=s.L.getD i 0/\s.L.getD i 0<(G.length:Int))/\(0<=s.B.getD i 0/\s.B.getD i 0<(i:Int))/\s.E.getD i []=bG (s.E.getD (s.P.getD i 0).toNat []) (G.getD (s.L.getD i 0).toNat [])
 Wu:∀x,x<k->(0<=s.S.getD x 0/\s.S.getD x 0<(s.E.length:Int))/\G.getD x []∈s.E
theorem oY.add{k:Nat}{s:pA}(h:oY n G k s){f w:List Int}{p l b:Int}(hf:lJ n f)(dj:f∉s.E)(hp:0<=p/\p<(s.E.length:Int))(hl:0<=l/\l<(G.length:Int))(hb:0<=b/\b<(s.E.length:Int))
  (hw:w.length<=s.E.length) (he:f=bG (s.E.getD p.toNat []) (G.getD l.toNat [])):oY n G k { s with E:=s.E++[f],P:=s.P++[p],L:=s.L++[l],W:=s.W++[w],B:=s.B++[b] }:=by
 have iu:=h.pos;refine⟨λg hg=>?_,?_,by rw [<-h.one];exact cS h.pos,by simp,by simp [h.pl],by simp [h.ll],by simp [h.wl],by simp [h.bl],by have:=h.dl;simp;omega,h.rl,h.sl,λi hi=>?_,?_,?_,?_,λi hi=>?_,λi h0 hi=>?_,λx hx=>?_⟩
 ·rcases ajK.1 hg with hg|hg
  ·exact h.ya g hg
  ·rw [ajC.1 hg];exact hf
 ·rw [List.nodup_append]
  exact⟨h.nd,List.pairwise_singleton _ _,λa ha b hb e=>dj (by rw [ajC]at hb;rw [<-hb,<-e];exact ha)⟩
 ·obtain⟨h1,h2⟩:=h.row i hi
  refine⟨h1,λx hx=>?_⟩;obtain⟨h3,h4,h5⟩:=h2 x hx;have hd:=h.dl;refine⟨h3,by show dT s.R i x<((s.E++[f]).length:Int);rw [ajp,ajx];omega,?_⟩;show(s.E++[f]).getD (dT s.R i x).toNat []=bG ((s.E++[f]).getD i []) (G.getD x []);rw [cS aa,cS (by have:i<s.D:=hi;omega),h5]
 ·exact(cS (by rw [h.pl];exact iu)).trans h.p0
 ·exact(cS (by rw [h.ll];exact iu)).trans h.l0
 ·exact(cS (by rw [h.wl];exact iu)).trans h.w0
 ·show((s.W++[w]).getD i []).length<=i
  by_cases e:i=s.E.length
  ·subst e;rw [<-h.wl,iI,h.wl];exact hw
  ·have hi:i<(s.E++[f]).length:=hi
   simp at hi;rw [cS (by rw [h.wl];omega)];exact h.wd i aa
 ·have hi:i<(s.E++[f]).length:=hi
  simp at hi;show(0<=(s.P++[p]).getD i 0/\(s.P++[p]).getD i 0<(i:Int))/\(0<=(s.L++[l]).getD i 0/\(s.L++[l]).getD i 0<(G.length:Int))/\(0<=(s.B++[b]).getD i 0/\(s.B++[b]).getD i 0<(i:Int))/\(s.E++[f]).getD i []=bG ((s.E++[f]).getD ((s.P++[p]).getD i 0).toNat []) (G.getD ((s.L++[l]).getD i 0).toNat [])
  by_cases e:i=s.E.length
  ·have e1:(s.P++[p]).getD i 0=p:=by rw [e,<-h.pl];exact iI
   have e2:(s.L++[l]).getD i 0=l:=by rw [e,<-h.ll];exact iI
   have e3:(s.B++[b]).getD i 0=b:=by rw [e,<-h.bl];exact iI
   rw [e1,e2,e3,e,iI,cS aa];exact⟨hp,hl,hb,he⟩
  ·have e1:(s.P++[p]).getD i 0=s.P.getD i 0:=cS (by rw [h.pl];omega)
   have e2:(s.L++[l]).getD i 0=s.L.getD i 0:=cS (by rw [h.ll];omega);have e3:(s.B++[b]).getD i 0=s.B.getD i 0:=cS (by rw [h.bl];omega);obtain⟨h1,h2,h3,h4⟩:=h.pre i h0 aa;rw [e1,e2,e3,cS aa,cS aa];exact⟨h1,h2,h3,h4⟩
 ·obtain⟨h1,h2⟩:=h.Wu x hx
  exact⟨⟨h1.1,by show s.S.getD x 0<((s.E++[f]).length:Int);rw [ajp,ajx];omega⟩,aj8 _ h2⟩
theorem UW:oY n G 0 (bgS n):=by
 refine⟨λf hf=>?_,List.pairwise_singleton _ _,rfl,ako _,rfl,rfl,rfl,rfl,ajk _,rfl,rfl,λi hi=>absurd hi (aju _),rfl,rfl,rfl,λi hi=>?_,λi h0 hi=>?_,λx hx=>absurd hx (aju _)⟩
 ·rw [ajC.1 hf];exact QT n
 ·have hi:i<1:=hi
  obtain rfl:i=0:=aa;exact ajl _
 ·have hi:i<1:=hi
  omega
theorem oY.rul{k:Nat}{s:pA}(h:oY n G k s)(U:List (List Int × List Int)):oY n G k { s with U:=U }:=⟨h.ya,h.nd,h.one,h.pos,h.pl,h.ll,h.wl,h.bl,h.dl,h.rl,h.sl,h.row,h.p0,h.l0,h.w0,h.wd,h.pre,h.Wu⟩
theorem oY.sgl{k:Nat}{s:pA}(h:oY n G k s){i:Nat}(hi:i<s.E.length)(hg:G.getD k []∈s.E):oY n G (k+1) { s with S:=s.S++[(i:Int)] }:=by
 refine⟨h.ya,h.nd,h.one,h.pos,h.pl,h.ll,h.wl,h.bl,h.dl,h.rl,by simp [h.sl],h.row,h.p0,h.l0,h.w0,h.wd,h.pre,λx hx=>?_⟩;show(0<=(s.S++[(i:Int)]).getD x 0/\(s.S++[(i:Int)]).getD x 0<(s.E.length:Int))/\_
 by_cases e:x=k
 ·rw [e,<-h.sl,iI,h.sl];exact⟨⟨aa,aa⟩,hg⟩
 ·rw [cS (by rw [h.sl];omega)];exact h.Wu x aa
theorem oY.qq{k:Nat}{s:pA}(h:oY n G k s)(q:List Int):oY n G k { s with Q:=q }:=⟨h.ya,h.nd,h.one,h.pos,h.pl,h.ll,h.wl,h.bl,h.dl,h.rl,h.sl,h.row,h.p0,h.l0,h.w0,h.wd,h.pre,h.Wu⟩
theorem QX{G:List (List Int)}:∀k,(iN n G k).D=0/\(iN n G k).U.length<=k/\(iN n G k).R=[]/\(iN n G k).Q=[]
 |0=>⟨rfl,ajk _,rfl,rfl⟩
 |k+1=>by
  obtain⟨h1,h2,h3,h4⟩:=QX (G:=G) k;unfold iN Wt;split
  ·exact⟨h1,by simp;omega,h3,h4⟩
  ·exact⟨h1,by show(iN n G k).U.length<=k+1;omega,h3,h4⟩
theorem MV(hG:∀f∈G,lJ n f):∀k,k<=G.length->oY n G k (iN n G k)
 |0,_=>UW
 |k+1,hk=>by
  have h:=MV hG k aa;have hg:=hG _ (al (d:=[]) (l:=G) (i:=k) aa);have hl:=h.pos;unfold iN Wt;split
  ·rename_i hm
   exact(h.rul ((iN n G k).U++[(FQ k,(iN n G k).W.getD (fc (iN n G k).E (G.getD k [])) [])])).sgl (dr hm).1 hm
  ·rename_i hm
   refine oY.sgl (i:=(iN n G k).E.length) (h.add (f:=G.getD k []) (w:=FQ k) (p:=0) (l:=(k:Int)) (b:=0) hg hm ⟨aa,aa⟩ ⟨aa,aa⟩ ⟨aa,aa⟩ hl ?_) (by simp) (by simp);show G.getD k []=bG ((iN n G k).E.getD 0 []) (G.getD k []);rw [h.one,zT hg]
theorem oY.mul{s:pA}(hG:∀f∈G,lJ n f)(h:oY n G G.length s)(hD:s.D<s.E.length){x:Nat}(hx:x<G.length)(dj:bG (s.E.getD s.D []) (G.getD x [])∉s.E):
  lJ n (bG (s.E.getD s.D []) (G.getD x []))/\0<s.D/\0<=s.B.getD s.D 0/\s.B.getD s.D 0<(s.D:Int)/\0<=dT s.R (s.B.getD s.D 0) x/\dT s.R (s.B.getD s.D 0) x<(s.E.length:Int):=by
 have hg:=hG _ (al (d:=[]) hx)
 have h0:0<s.D:=by
  rcases aj1 s.D with h0|h0
  ·rw [h0,h.one,zT hg]at dj;exact absurd (h.Wu x hx).2 dj
  ·exact h0
 obtain⟨_,_,h3,_⟩:=h.pre s.D h0 hD;have hr:=(h.row (s.B.getD s.D 0).toNat aa).2 x hx;exact⟨(h.ya _ (al hD)).cmp hg,h0,h3.1,h3.2,hr.1,hr.2.1⟩
theorem oY.red{s:pA}(h:oY n G G.length s)(hD:s.D<s.E.length){x:Nat}(hx:x<G.length)(hw:s.W.getD s.D []≠[]):0<=s.B.getD s.D 0/\s.B.getD s.D 0<(s.D:Int)/\0<=dT s.R (s.B.getD s.D 0) x/\dT s.R (s.B.getD s.D 0) x<(s.E.length:Int):=by
 have h0:0<s.D:=by
  rcases aj1 s.D with h0|h0
  ·rw [h0,h.w0]at hw;exact absurd rfl hw
  ·exact h0
 obtain⟨_,_,h3,_⟩:=h.pre s.D h0 hD;have hr:=(h.row (s.B.getD s.D 0).toNat aa).2 x hx;exact⟨h3.1,h3.2,hr.1,hr.2.1⟩
structure EnQ(G:List (List Int))(k:Nat)(s:pA):Prop where
 ql:s.Q.length=G.length
 qv:∀x,x<k->0<=s.Q.getD x 0/\s.Q.getD x 0<(s.E.length:Int)/\s.E.getD (s.Q.getD x 0).toNat []=bG (s.E.getD s.D []) (G.getD x [])
theorem AZ{l:List Int}{i:Nat}{v:Int}(h:i<l.length):(l.set i v).getD i 0=v:=by simp [List.getD,h]
theorem A0{l:List Int}{i j:Nat}{v:Int}(h:j≠i):(l.set i v).getD j 0=l.getD j 0:=by simp [List.getD,List.getElem?_set_ne (Ne.symm h)]
theorem UX(hG:∀f∈G,lJ n f){s:pA}{k:Nat}(hk:k<G.length)(h:oY n G G.length s)(hD:s.D<s.E.length)(hq:EnQ G k s):
  EnQ G (k+1) (FR G s k)/\(FR G s k).D=s.D/\s.E.length<=(FR G s k).E.length/\(FR G s k).U.length<=s.U.length+1/\(FR G s k).R=s.R/\(FR G s k).S=s.S/\(FR G s k).E.getD s.D []=s.E.getD s.D []/\oY n G G.length (FR G s k):=by
 unfold FR;split
 ·rename_i hm
  have hi:=dr hm;refine⟨⟨by simp [hq.ql],λx hx=>?_⟩,rfl,ajl _,?_,rfl,rfl,rfl,(h.rul (if s.W.getD s.D []≠[]/\QW s k=true then s.U++[(s.W.getD s.D []++FQ k,s.W.getD (fc s.E (bG (s.E.getD s.D []) (G.getD k []))) [])] else s.U)).qq _⟩
  ·show 0<=(s.Q.set k _).getD x 0/\(s.Q.set k _).getD x 0<(s.E.length:Int)/\s.E.getD ((s.Q.set k _).getD x 0).toNat []=_
   by_cases e:x=k
   ·subst e
    rw [AZ (by rw [hq.ql];exact hk)];exact⟨aa,aa,hi.2⟩
   ·rw [A0 e];exact hq.qv x aa
  ·show List.length (if _ then _ else _)<=_
   split
   ·simp
   ·omega
 ·rename_i hm
  obtain⟨ht,h0,EM,j9,Wv,XD⟩:=h.mul hG hD hk hm;have hw:=h.wd s.D hD;refine⟨⟨by simp [hq.ql],λx hx=>?_⟩,rfl,by simp,by simp,rfl,rfl,cS hD,?_⟩
  ·show 0<=(s.Q.set k _).getD x 0/\(s.Q.set k _).getD x 0<((s.E++[_]).length:Int)/\(s.E++[_]).getD ((s.Q.set k _).getD x 0).toNat []=bG ((s.E++[_]).getD s.D []) _
   rw [cS hD]
   by_cases e:x=k
   ·subst e
    rw [AZ (by rw [hq.ql];exact hk)];exact⟨aa,by rw [ajp,ajx];omega,iI⟩
   ·rw [A0 e]
    obtain⟨g1,g2,g3⟩:=hq.qv x aa;exact⟨g1,by rw [ajp,ajx];omega,by rw [cS aa];exact g3⟩
  ·exact(h.add (f:=bG (s.E.getD s.D []) (G.getD k [])) (w:=s.W.getD s.D []++FQ k) (p:=(s.D:Int)) (l:=(k:Int)) (b:=dT s.R (s.B.getD s.D 0) k) ht hm ⟨aa,by have:s.D<s.E.length:=hD;omega⟩ ⟨aa,aa⟩ ⟨Wv,XD⟩ (by show(s.W.getD s.D []++FQ k).length<=s.E.length;rw [ajp,ajx];omega) (by show bG _ _=bG (s.E.getD ((s.D:Int)).toNat []) (G.getD ((k:Int)).toNat []);rw [ajr,ajr])).qq _
theorem A3(hG:∀f∈G,lJ n f){s:pA}(h:oY n G G.length s)(hD:s.D<s.E.length):∀k,k<=G.length->
  EnQ G k (eH G s k)/\(eH G s k).D=s.D/\s.E.length<=(eH G s k).E.length/\(eH G s k).U.length<=s.U.length+k/\(eH G s k).R=s.R/\(eH G s k).S=s.S/\oY n G G.length (eH G s k)
 |0,_=>⟨⟨by simp [eH],λx hx=>absurd hx (aju _)⟩,rfl,ajl _,ajl _,rfl,rfl,h.qq _⟩
 |k+1,hk=>by
  obtain⟨h1,h2,h3,h4,h5,h6,h7⟩:=A3 hG h hD k aa;obtain⟨g1,g2,g3,g4,g5,g6,_,g8⟩:=UX hG (show k<G.length by omega) h7 aa h1;exact⟨g1,g2.trans h2,by unfold eH;omega,by unfold eH;omega,g5.trans h5,g6.trans h6,g8⟩
theorem MW(hG:∀f∈G,lJ n f){s:pA}(h:oY n G G.length s)(hD:s.D<s.E.length):oY n G G.length (MU G s)/\(MU G s).D=s.D+1/\(MU G s).U.length<=s.U.length+G.length/\(MU G s).S=s.S:=by
 obtain⟨h1,h2,h3,h4,h5,h6,h7⟩:=A3 hG h hD G.length (ajl _);have mV:=h7.rl;refine⟨⟨h7.ya,h7.nd,h7.one,h7.pos,h7.pl,h7.ll,h7.wl,h7.bl,by show(eH G s G.length).D+1<=(eH G s G.length).E.length;rw [h2];exact ajW hD h3,by show List.length (_++[_])=_;rw [ajp,h7.rl];rfl,h7.sl,λi hi=>?_,h7.p0,h7.l0,h7.w0,h7.wd,h7.pre,h7.Wu⟩,by show(eH G s G.length).D+1=_;rw [h2],h4,h6⟩;have hi:i<(eH G s G.length).D+1:=hi;show(((eH G s G.length).R++[(eH G s G.length).Q]).getD i []).length=_/\∀x,x<G.length->0<=dT ((eH G s G.length).R++[(eH G s G.length).Q]) i x/\dT ((eH G s G.length).R++[(eH G s G.length).Q]) i x<((eH G s G.length).E.length:Int)/\(eH G s G.length).E.getD (dT ((eH G s G.length).R++[(eH G s G.length).Q]) i x).toNat []=bG ((eH G s G.length).E.getD i []) (G.getD x []);unfold dT
 by_cases e:i=(eH G s G.length).D
 ·have e2:((eH G s G.length).R++[(eH G s G.length).Q]).getD i []=(eH G s G.length).Q:=by rw [e,<-mV,iI]
  rw [ajr,e2];exact⟨h1.ql,λx hx=>by rw [e];exact h1.qv x hx⟩
 ·rw [ajr,cS (by rw [mV];omega)]
  exact h7.row i aa
theorem FT(hG:∀f∈G,lJ n f):∀j,(∀i,i<j->(K6 n G i).D<(K6 n G i).E.length)->oY n G G.length (K6 n G j)/\(K6 n G j).D=j/\(K6 n G j).U.length<=G.length*(j+1)
 |0,_=>by
  have h:=QX (n:=n) (G:=G) G.length;exact⟨MV hG _ (ajl _),h.1,by rw [ajQ,ajV];exact h.2.1⟩
 |j+1,hj=>by
  obtain⟨h1,h2,h3⟩:=FT hG j λi hi=>hj i aa;obtain⟨g1,g2,g3,_⟩:=MW hG h1 (hj j aa);exact⟨g1,by show(MU G (K6 n G j)).D=_;rw [g2,h2],by show(MU G (K6 n G j)).U.length<=_;rw [Nat.mul_add];omega⟩
theorem oY.closed{s:pA}(h:oY n G G.length s)(hf:s.D=s.E.length):∀f∈s.E,∀g∈s.E,bG f g∈s.E:=by
 have key:∀j,j<s.E.length->∀f∈s.E,bG f (s.E.getD j [])∈s.E:=by
  intro j
  induction j using Nat.strongRecOn with
  |ind j ih=>
   intro hj f Ww;rcases aj1 j with e|e
   ·rw [e,h.one,HG (h.ya _ Ww)];exact Ww
   ·obtain⟨h1,h2,_,h4⟩:=h.pre j e hj
    have hp:=ih (s.P.getD j 0).toNat aa aa f Ww;rw [h4,<-sC (h.ya _ Ww) (h.ya _ (al aa))];obtain⟨i,hi,e2⟩:=aS [] hp;rw [<-e2];obtain⟨g1,g2,g3⟩:=(h.row i aa).2 (s.L.getD j 0).toNat aa;rw [<-g3];exact al aa
 intro f Ww g tq;obtain⟨j,hj,rfl⟩:=aS [] tq;exact key j hj f Ww
def aP(E:List (List Int)):List (List Int):=E.map λf=>E.map λg=>(fc E (bG f g):Int)
theorem oY.bF{s:pA}(h:oY n G G.length s)(hf:s.D=s.E.length){i j:Nat}(hi:i<s.E.length)(h0:0<j)(hj:j<s.E.length):
  fc s.E (bG (s.E.getD i []) (s.E.getD (s.P.getD j 0).toNat []))<s.E.length/\(fc s.E (bG (s.E.getD i []) (s.E.getD j [])):Int)=(s.R.getD (fc s.E (bG (s.E.getD i []) (s.E.getD (s.P.getD j 0).toNat []))) []).getD (s.L.getD j 0).toNat 0:=by
 have hc:=h.closed hf;obtain⟨h1,h2,_,h4⟩:=h.pre j h0 hj;have hm:=dr (hc _ (al (d:=[]) hi) _ (al (d:=[]) (show(s.P.getD j 0).toNat<s.E.length by omega)));refine⟨hm.1,?_⟩;obtain⟨g1,g2,g3⟩:=(h.row _ (show fc s.E (bG (s.E.getD i []) (s.E.getD (s.P.getD j 0).toNat []))<s.D by rw [hf];exact hm.1)).2 (s.L.getD j 0).toNat aa;rw [hm.2,sC (h.ya _ (al hi)) (h.ya _ (al aa)),<-h4]at g3;unfold dT at g1 g2 g3;rw [ajr]at g1 g2 g3;have e3:=wx h.nd (show((s.R.getD (fc s.E (bG (s.E.getD i []) (s.E.getD (s.P.getD j 0).toNat []))) []).getD (s.L.getD j 0).toNat 0).toNat<s.E.length by omega);rw [g3]at e3;rw [e3];omega
end
end Go.Proofs.YtgailjhnfghkgaaGreatDoor
end
