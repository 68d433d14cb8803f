import Derived.Test.YtgailjhnfghkgaaGreatDoorCg
import Derived.Test.YtgailjhnfghkgaaGreatDoorMult
import Derived.Test.YtgailjhnfghkgaaGreatDoorOrd
section
namespace Go.Proofs.YtgailjhnfghkgaaGreatDoor
open Go Go.AM
section
variable{t:List (List Int)}{side:Int}
theorem OC{J:Nat->Nat->Prop}(hs:Semi t)(_hJ:∀a b,J a b->a<t.length/\b<t.length){gens:List Int}(hg:∀g∈gens,0<=g/\g<(t.length:Int))
  (hc:∀a b,J a b->∀g∈gens,(side≠2->Eg J (en t g.toNat a) (en t g.toNat b))/\(side≠1->Eg J (en t a g.toNat) (en t b g.toNat))) {s:Nat} (m:Mk t gens s):
  ∀a b,a<t.length->b<t.length->Eg J a b->(side≠2->Eg J (en t s a) (en t s b))/\(side≠1->Eg J (en t a s) (en t b s)):=by
 have hS:=hs.toSh
 have base:∀g∈gens,∀a b,Eg J a b->(side≠2->Eg J (en t g.toNat a) (en t g.toNat b))/\(side≠1->Eg J (en t a g.toNat) (en t b g.toNat)):=λ g sJ a b e=>
  e.least (Q:=λ a b=>(side≠2->Eg J (en t g.toNat a) (en t g.toNat b))/\(side≠1->Eg J (en t a g.toNat) (en t b g.toNat))) (λ _=>⟨λ _=>.refl _,λ _=>.refl _⟩) (λ _ _ h=>⟨λ h0=>(h.1 h0).symm,λ h0=>(h.2 h0).symm⟩)
    (λ _ _ _ h h'=>⟨λ h0=>(h.1 h0).trans (h'.1 h0),λ h0=>(h.2 h0).trans (h'.2 h0)⟩) λ a b h=>hc a b h g sJ
 have key:∀{s:Nat},Mk t gens s->s<t.length/\∀a b,a<t.length->b<t.length->Eg J a b->(side≠2->Eg J (en t s a) (en t s b))/\(side≠1->Eg J (en t a s) (en t b s)):=λ{s} m=>by
  induction m with
  |gen h=>exact⟨by have:=hg _ h;omega,λ a b _ _ e=>base _ h a b e⟩
  |mul ha hb i1 i2=>
   rename_i u v;refine⟨(hS.bA i1.1 i2.1).2,λ a b Bh fp e=>⟨λ h0=>?_,λ h0=>?_⟩⟩
   ·rw [ka hs.assoc i1.1 i2.1 Bh,ka hs.assoc i1.1 i2.1 fp]
    exact(i1.2 _ _ (hS.bA i2.1 Bh).2 (hS.bA i2.1 fp).2 ((i2.2 a b Bh fp e).1 h0)).1 h0
   ·rw [<-ka hs.assoc Bh i1.1 i2.1,<-ka hs.assoc fp i1.1 i2.1]
    exact(i2.2 _ _ (hS.bA Bh i1.1).2 (hS.bA fp i1.1).2 ((i1.2 a b Bh fp e).2 h0)).2 h0
 exact(key m).2
end
def xU(r:Nat->Nat)(i:Nat):Bool:=decide (r i=i)
def dR(n:Nat)(r:Nat->Nat):Nat:=((List.range n).filter (xU r)).length
theorem Gy{P:Nat->Bool}{M:Nat}:∀{n:Nat},M<n->P M=true->((List.range n).filter λ i=>P i&&decide (i≠M)).length+1=((List.range n).filter P).length:=by
 have no:∀n,n<=M->((List.range n).filter λ i=>P i&&decide (i≠M))=(List.range n).filter P:=λ n hn=>
  List.filter_congr λ x hx=>by
   have:=List.mem_range.1 hx;have:x≠M:=aa;simp [this]
 intro n
 induction n with
 |zero=>intro h;omega
 |succ n ih=>
  intro h hp;rw [List.range_succ,List.filter_append,List.filter_append,List.length_append,List.length_append]
  by_cases e:M=n
  ·subst e
   rw [no M (Nat.le_refl _)];simp [hp]
  ·have:=ih aa hp
   have hn:(decide (n≠M))=true:=decide_eq_true (λ h=>e h.symm)
   have:([n].filter λ i=>P i&&decide (i≠M))=[n].filter P:=by
    simp only [List.filter_cons,hn,Bool.and_true,List.filter_nil]
   rw [this];omega
theorem ID{n:Nat}{p:List Int}{r:Nat->Nat}(h:Fo n p r){i j:Nat}(hi:i<n)(hj:j<n)(bm:r i≠r j):dR n (vE r i j)+1=dR n r:=by
 have hM:max (r i) (r j)<n:=by have:=h.zo hi;have:=h.zo hj;omega
 have hr:r (max (r i) (r j))=max (r i) (r j)/\r (min (r i) (r j))=min (r i) (r j):=by
  have h1:=h.rr hi;have h2:=h.rr hj;rcases Nat.le_total (r i) (r j)with e|e
  ·rw [Nat.max_eq_right e,Nat.min_eq_left e];exact⟨h2,h1⟩
  ·rw [Nat.max_eq_left e,Nat.min_eq_right e];exact⟨h1,h2⟩
 have aS:min (r i) (r j)<max (r i) (r j):=aa;have:=Gy (P:=xU r) hM (by unfold xU;exact decide_eq_true hr.1);unfold dR;rw [<-this]
 congr 1
 refine congrArg List.length (List.filter_congr λ k hk=>?_);unfold xU vE;generalize max (r i) (r j)=M at*;generalize min (r i) (r j)=m at*
 by_cases e:r k=M
 ·rw [if_pos e]
  have h1:¬m=k:=λ e2=>by rw [<-e2,hr.2]at e;omega
  by_cases h2:k=M
  ·simp [h2]
   intro;omega
  ·have h3:¬r k=k:=λ e2=>h2 aa
   simp [h1,h3]
 ·rw [if_neg e]
  have h2:k≠M:=λ e2=>e (by rw [e2];exact hr.1);simp [h2]
theorem D9(n:Nat)(r:Nat->Nat):dR n r<=n:=by
 have:=List.length_filter_le (xU r) (List.range n);rw [List.length_range]at this;exact this
theorem Ka(n:Nat):dR n id=n:=by
 unfold dR;rw [List.filter_eq_self.2 λ x _=>by unfold xU;exact decide_eq_true rfl,List.length_range]
def V6(p:List Int)(i j:Nat):List Int:=fD (j+1) (fD (i+1) p i) j
theorem S9{n:Nat}{p:List Int}{r:Nat->Nat}(h:Fo n p r){i j:Nat}(hi:i<n)(hj:j<n):Fo n (V6 p i j) r:=fh _ (fh _ h hi) hj
def JC(r:Nat->Nat)(p:List Int)(i j:Nat):List Int:=if r i=r j then V6 p i j else Pr r p i j
def zn(r:Nat->Nat)(i j:Nat):Nat->Nat:=if r i=r j then r else vE r i j
theorem Vr{n:Nat}{p:List Int}{r:Nat->Nat}(h:Fo n p r){i j:Nat}(hi:i<n)(hj:j<n):Fo n (JC r p i j) (zn r i j):=by
 unfold JC zn
 by_cases e:r i=r j
 ·rw [if_pos e,if_pos e];exact S9 h hi hj
 ·rw [if_neg e,if_neg e];exact h.union hi hj
theorem Kc{n:Nat}{r:Nat->Nat}{R:Nat->Nat->Prop}(h:kJ n r R){i j:Nat}(hi:i<n)(hj:j<n):kJ n (zn r i j) (UZ R i j):=by
 unfold zn
 by_cases e:r i=r j
 ·rw [if_pos e]
  intro a b ha hb;rw [h a b ha hb];refine⟨λ k=>k.mono λ a b h=>.rel (.inl h),λ k=>k.mono λ a b h=>?_⟩;rcases h with h|⟨rfl,rfl⟩
  ·exact .rel h
  ·exact(h a b hi hj).1 e
 ·rw [if_neg e];exact h.union hi hj
theorem Kb{n:Nat}{p:List Int}{r:Nat->Nat}(h:Fo n p r){i j:Nat}(hi:i<n)(hj:j<n):dR n (zn r i j)+(if r i=r j then 0 else 1)=dR n r:=by
 unfold zn
 by_cases e:r i=r j
 ·rw [if_pos e,if_pos e,Nat.add_zero]
 ·rw [if_neg e,if_neg e];exact ID h hi hj e
def NM(n:Nat)(W:List (Int × Int)):Prop:=∀q∈W,(0<=q.1/\q.1<(n:Int))/\0<=q.2/\q.2<(n:Int)
theorem OA{n:Nat}{V W:List (Int × Int)}:NM n (V++W)↔NM n V/\NM n W:=
 ⟨λ h=>⟨λ q hq=>h q (List.mem_append_left _ hq),λ q hq=>h q (List.mem_append_right _ hq)⟩,λ h q hq=>(List.mem_append.1 hq).elim (h.1 q) (h.2 q)⟩
end Go.Proofs.YtgailjhnfghkgaaGreatDoor
end
section
namespace Go.Proofs.YtgailjhnfghkgaaGreatDoor
open Go Go.AM
noncomputable def XJ(R:Nat->Nat->Prop)(a b:Nat):Bool:=@decide (Eg R a b) (Classical.propDecidable _)
theorem hZ{R:Nat->Nat->Prop}{a b:Nat}:XJ R a b=true↔Eg R a b:=by unfold XJ;exact @decide_eq_true_iff _ (Classical.propDecidable _)
theorem Lo(n:Nat)(R:Nat->Nat->Prop):S6 n (XJ R):=EI (λ x _=>hZ.2 (.refl x)) λ _ _ _ _ _ _ h h'=>hZ.2 ((hZ.1 h).trans (hZ.1 h'))
noncomputable def nC(n:Nat)(R:Nat->Nat->Prop):List Int:=tB n (XJ R)
theorem zp{n:Nat}{R:Nat->Nat->Prop}:(nC n R).length=n:=qg _ _
theorem xV{n:Nat}{R:Nat->Nat->Prop}:canon (nC n R)=nC n R:=fq _
theorem HR{n:Nat}{R:Nat->Nat->Prop}(h:n<=4096):bp (nC n R):=⟨by rw [zp];exact h,xV⟩
theorem fG{n:Nat}{R:Nat->Nat->Prop}{a b:Nat}(ha:a<n)(hb:b<n):(nC n R).getD a 0=(nC n R).getD b 0↔Eg R a b:=by
 unfold nC;rw [qi (Lo n R) ha hb,hZ,hZ];exact⟨λ h=>h.1,λ h=>⟨h,h.symm⟩⟩
theorem Ec{n:Nat}{p:List Int}{R:Nat->Nat->Prop}(h:Rq n p R):canon p=nC n R:=
 Ck (Lo n R) h.1 λ a b ha hb=>by
  rw [hZ,hZ,h.2 a b ha hb];exact⟨λ h=>⟨h,h.symm⟩,λ h=>h.1⟩
theorem kJ.congr{n:Nat}{r:Nat->Nat}{R R':Nat->Nat->Prop}(h:kJ n r R)(h1:∀a b,R a b->Eg R' a b)(h2:∀a b,R' a b->Eg R a b):kJ n r R':=
 λ a b ha hb=>(h a b ha hb).trans ⟨Eg.mono h1,Eg.mono h2⟩
def dF(l:List (Int × Int))(a b:Nat):Prop:=((a:Int),(b:Int))∈l
def orR(R:Nat->Nat->Prop)(l:List (Int × Int))(a b:Nat):Prop:=R a b\/dF l a b
theorem Gz{n:Nat}:∀(l:List (Int × Int)) (r:Nat->Nat) (R:Nat->Nat->Prop),kJ n r R->NM n l->kJ n (IC r l) (orR R l)
 |[],r,R,h,_=>h.congr (λ a b h=>.rel (.inl h)) λ a b h=>h.elim .rel λ h=>nomatch h
 |x::l,r,R,h,hW=>by
  have hx:=hW x (by simp);have hl:NM n l:=λ q hq=>hW q (List.mem_cons_of_mem _ hq);refine(Gz l (vE r x.1.toNat x.2.toNat) (UZ R x.1.toNat x.2.toNat) (h.union aa aa) hl).congr (λ a b h=>.rel ?_) λ a b h=>.rel ?_
  ·rcases h with (h|⟨rfl,rfl⟩)|h
   ·exact .inl h
   ·refine .inr ?_
    show(_,_)∈_;rw [Int.toNat_of_nonneg hx.1.1,Int.toNat_of_nonneg hx.2.1];exact List.mem_cons_self
   ·exact .inr (List.mem_cons_of_mem _ h)
  ·rcases h with h|h
   ·exact .inl (.inl h)
   ·rcases List.mem_cons.1 h with h|h
    ·exact .inl (.inr ⟨by rw [<-h];rfl,by rw [<-h];rfl⟩)
    ·exact .inr h
theorem yn{n:Nat}{l:List (Int × Int)}(h:NM n l):canon (EP n (IC id l))=nC n (dF l):=
 Ec (((Gz l id (λ _ _=>False) (kJ.Sp n) h).congr (λ a b h=>h.elim (λ f=>f.elim) .rel) λ _a _b h=>.rel (.inr h)).xd)
end Go.Proofs.YtgailjhnfghkgaaGreatDoor
end
section
namespace Go.Proofs.YtgailjhnfghkgaaGreatDoor
open Go Go.AM
theorem cv{α:Type}[DecidableEq α]:∀{A B:List α},A.Nodup->(∀x∈A,x∈B)->A.length<=B.length
 |[],_,_,_=>Nat.zero_le _
 |a::A,B,hA,h=>by
  have ha:=h a (by simp);have hn:=List.nodup_cons.1 hA;have:=cv (B:=B.erase a) hn.2 λ x hx=>(List.mem_erase_of_ne λ e=>by subst e;exact hn.1 hx).2 (h x (List.mem_cons_of_mem _ hx));have hl:=List.length_erase_of_mem ha;have hp:=List.length_pos_of_mem ha;simp only [List.length_cons];omega
end Go.Proofs.YtgailjhnfghkgaaGreatDoor
end
section
namespace Go.Proofs.YtgailjhnfghkgaaGreatDoor
open Classical
theorem bj{α:Type}{l m:List α}(d:α)(hl:l.length=m.length)(h:∀i,i<l.length->l.getD i d=m.getD i d):l=m:=by
 refine List.ext_getElem hl λ i h1 h2=>?_;have:=h i h1
 simpa [List.getD,h1,h2]using this
end Go.Proofs.YtgailjhnfghkgaaGreatDoor
end
section
namespace Go.Proofs.YtgailjhnfghkgaaGreatDoor
open Go Go.AM
def bF(f g:List Int):List Int:=f.map λ y=>g.getD y.toNat 0
section
variable{n:Nat}{f g h:List Int}
theorem dJ:(bF f g).length=f.length:=by simp [bF]
theorem jd{i:Nat}(hi:i<f.length):(bF f g).getD i 0=g.getD (f.getD i 0).toNat 0:=by simp [bF,List.getD,hi]
theorem HI{l:List Int}(hl:l.Nodup){i j:Nat}(hi:i<l.length)(hj:j<l.length)(e:l.getD i 0=l.getD j 0):i=j:=by
 rw [getD_eq hi,getD_eq hj]at e;exact(List.getElem_inj hl).1 e
end
end Go.Proofs.YtgailjhnfghkgaaGreatDoor
end
section
namespace Go.Proofs.YtgailjhnfghkgaaGreatDoor
open Go Go.AM
theorem df{α:Type}{E:List α}{x d:α}{j:Nat}(h:j<E.length):(E++[x]).getD j d=E.getD j d:=by
 simp [List.getD,List.getElem?_append_left h]
theorem kC{α:Type}{E:List α}{x d:α}:(E++[x]).getD E.length d=x:=by simp [List.getD]
structure lu(n:Nat)(f:List Int):Prop where
 len:f.length=n
 w9:∀x∈f,0<=x/\x<(n:Int)
section
variable{n:Nat}{f g h:List Int}
theorem lu.at(hf:lu n f){i:Nat}(hi:i<n):0<=f.getD i 0/\f.getD i 0<(n:Int):=hf.w9 _ (an (by rw [hf.len];exact hi))
theorem Pu(n:Nat):lu n (cV n):=⟨bM n,λ _ hx=>fQ.1 hx⟩
theorem lu.cmp(hf:lu n f)(hg:lu n g):lu n (bF f g):=by
 refine⟨by rw [dJ,hf.len],λ x hx=>?_⟩;obtain⟨y,hy,rfl⟩:=List.mem_map.1 hx;have:=hf.w9 y hy;exact hg.at aa
theorem rT(hf:lu n f)(hg:lu n g):bF (bF f g) h=bF f (bF g h):=by
 refine bj 0 (by rw [dJ,dJ,dJ]) λ i hi=>?_;rw [dJ,dJ]at hi;have h1:=hf.at (i:=i) (by rw [<-hf.len];exact hi);rw [jd (by rw [dJ];exact hi),jd hi,jd hi,jd (by rw [hg.len];omega)]
theorem GA(hg:lu n g):bF (cV n) g=g:=by
 refine bj 0 (by rw [dJ,bM,hg.len]) λ i hi=>?_;rw [dJ,bM]at hi;rw [jd (by rw [bM];exact hi),du hi,Int.toNat_natCast]
theorem GB(hf:lu n f):bF f (cV n)=f:=by
 refine bj 0 (by rw [dJ]) λ i hi=>?_;rw [dJ]at hi;have h1:=hf.at (i:=i) (by rw [<-hf.len];exact hi);rw [jd hi,du aa];omega
end
def Lp(n:Nat):Nat->List (List Int)
 |0=>[[]]
 |k+1=>(Lp n k).flatMap λ l=>(cV n).map λ x=>x::l
theorem tZ{n:Nat}:∀{l:List Int},(∀x∈l,0<=x/\x<(n:Int))->l∈Lp n l.length
 |[],_=>List.mem_singleton.2 rfl
 |a::l,hr=>List.mem_flatMap.2 ⟨l,tZ λ x hx=>hr x (List.mem_cons_of_mem _ hx),List.mem_map.2 ⟨a,fQ.2 (hr a (List.mem_cons_self ..)),rfl⟩⟩
theorem Pv:∀n,n<=3->(Lp n n).length<=27:=by decide+kernel
theorem qp{n:Nat}(hn:n<=3){E:List (List Int)}(hd:E.Nodup)(hE:∀p∈E,lu n p):E.length<=27:=by
 refine Nat.le_trans (cv hd (B:=Lp n n) λ p hp=>?_) (Pv n hn);have:=tZ (hE p hp).w9;rw [(hE p hp).len]at this;exact this
def ff:List (List Int)->List Int->Nat
 |[],_=>0|a::E,f=>if a=f then 0 else ff E f+1
theorem eR{f:List Int}:∀{E:List (List Int)},f∈E->ff E f<E.length/\E.getD (ff E f) []=f
 |a::E,h=>by
  unfold ff;split
  ·rename_i e;exact⟨Nat.succ_pos _,e⟩
  ·rename_i e
   have:=eR ((List.mem_cons.1 h).resolve_left λ e'=>e e'.symm);exact⟨Nat.succ_lt_succ this.1,this.2⟩
theorem GC{E:List (List Int)}(hd:E.Nodup){i j:Nat}(hi:i<E.length)(hj:j<E.length)(e:E.getD i []=E.getD j []):i=j:=by
 rw [getD_eq hi,getD_eq hj]at e;exact(List.getElem_inj hd).1 e
theorem vF{E:List (List Int)}(hd:E.Nodup){i:Nat}(hi:i<E.length):ff E (E.getD i [])=i:=
 have h:=eR (an (d:=[]) hi)
 GC hd h.1 hi h.2
def mapA:List (List Int)->Nat->List (List Int × Int)
 |[],_=>[]|a::E,k=>(a,(k:Int))::mapA E (k+1)
def cS(E:List (List Int)):List (List Int × Int):=mapA E 0
theorem yo{f:List Int}:∀{E:List (List Int)} {k:Nat},getM (mapA E k) f=if f∈E then some ((k+ff E f:Nat):Int) else none
 |[],_=>rfl
 |a::E,k=>by
  show(if a=f then some (k:Int) else getM (mapA E (k+1)) f)=_;unfold ff
  by_cases h:a=f
  ·rw [if_pos h,if_pos (by rw [h];exact List.mem_cons_self ..),if_pos h];rfl
  ·rw [if_neg h,yo,if_neg h]
   by_cases hm:f∈E
   ·rw [if_pos hm,if_pos (List.mem_cons_of_mem _ hm),Nat.add_right_comm];rfl
   ·rw [if_neg hm,if_neg λ hc=>(List.mem_cons.1 hc).elim (λ e=>h e.symm) hm]
theorem Cs{f:List Int}:∀{E:List (List Int)} {k:Nat},mapA (E++[f]) k=mapA E k++[(f,((k+E.length:Nat):Int))]
 |[],_=>rfl
 |a::E,k=>by
  show(a,(k:Int))::mapA (E++[f]) (k+1)=_;rw [Cs,show k+1+E.length=k+(a::E).length by simp;omega];rfl
theorem di{f:List Int}{E:List (List Int)}:getM (cS E) f=if f∈E then some (ff E f:Int) else none:=by
 unfold cS;rw [yo,Nat.zero_add]
theorem rf{f:List Int}{E:List (List Int)}(h:f∉E):kI (cS E) f (E.length:Int)=cS (E++[f]):=by
 rw [qs (by rw [di,if_neg h])];unfold cS;rw [Cs,Nat.zero_add]
structure o6 where
 E:List (List Int)
 P:List Int
 L:List Int
 W:List (List Int)
 B:List Int
 R:List (List Int)
 U:List (List Int × List Int)
 D:Nat
 S:List Int
 Q:List Int
abbrev ER(x:Nat):List Int:=[97+(x:Int)]
abbrev dL(R:List (List Int))(b:Int)(x:Nat):Int:=(R.getD b.toNat []).getD x 0
def U1(G:List (List Int))(s:o6)(x:Nat):o6:=
 if G.getD x []∈s.E then { s with U:=s.U++[(ER x,s.W.getD (ff s.E (G.getD x [])) [])],S:=s.S++[(ff s.E (G.getD x []):Int)] }
 else { s with E:=s.E++[G.getD x []],P:=s.P++[0],L:=s.L++[(x:Int)],W:=s.W++[ER x],B:=s.B++[0],S:=s.S++[(s.E.length:Int)] }
def bgS(n:Nat):o6:=⟨[cV n],[-1],[-1],[[]],[-1],[],[],0,[],[]⟩
def iz(n:Nat)(G:List (List Int)):Nat->o6
 |0=>bgS n|k+1=>U1 G (iz n G k) k
def Pw(s:o6)(x:Nat):Bool:=
 decide (s.P.getD (dL s.R (s.B.getD s.D 0) x).toNat 0=s.B.getD s.D 0)&&decide (s.L.getD (dL s.R (s.B.getD s.D 0) x).toNat 0=(x:Int))
def ES(G:List (List Int))(s:o6)(x:Nat):o6:=
 if bF (s.E.getD s.D []) (G.getD x [])∈s.E then
  { s with U:=if s.W.getD s.D []≠[]/\Pw s x=true then s.U++[(s.W.getD s.D []++ER x,s.W.getD (ff s.E (bF (s.E.getD s.D []) (G.getD x []))) [])] else s.U,Q:=s.Q.set x (ff s.E (bF (s.E.getD s.D []) (G.getD x [])):Int) }
 else { s with E:=s.E++[bF (s.E.getD s.D []) (G.getD x [])],P:=s.P++[(s.D:Int)],L:=s.L++[(x:Int)],W:=s.W++[s.W.getD s.D []++ER x],B:=s.B++[dL s.R (s.B.getD s.D 0) x],Q:=s.Q.set x (s.E.length:Int) }
def er(G:List (List Int))(s:o6):Nat->o6
 |0=>{ s with Q:=List.replicate G.length 0 }|k+1=>ES G (er G s k) k
def Lq(G:List (List Int))(s:o6):o6:={ er G s G.length with R:=(er G s G.length).R++[(er G s G.length).Q],D:=(er G s G.length).D+1,Q:=[] }
def JQ(n:Nat)(G:List (List Int)):Nat->o6
 |0=>iz n G G.length|j+1=>Lq G (JQ n G j)
section
variable{n:Nat}{G:List (List Int)}
structure oF(n:Nat)(G:List (List Int))(k:Nat)(s:o6):Prop where
 xA:∀f∈s.E,lu n f
 nd:s.E.Nodup
 one:s.E.getD 0 []=cV n
 pos:0<s.E.length
 pl:s.P.length=s.E.length
 ll:s.L.length=s.E.length
 wl:s.W.length=s.E.length
 bl:s.B.length=s.E.length
 dl:s.D<=s.E.length
 rl:s.R.length=s.D
 sl:s.S.length=k
 row:∀i,i<s.D->(s.R.getD i []).length=G.length/\∀x,x<G.length->0<=dL s.R i x/\dL s.R i x<(s.E.length:Int)/\s.E.getD (dL s.R i x).toNat []=bF (s.E.getD i []) (G.getD x [])
 p0:s.P.getD 0 0= -1
 l0:s.L.getD 0 0= -1
 w0:s.W.getD 0 []=[]
 wd:∀i,i<s.E.length->(s.W.getD i []).length<=i
 pre:∀i,0<i->i<s.E.length->(0<=s.P.getD i 0/\s.P.getD i 0<(i:Int))/\(0<=s.L.getD i 0/\s.L.getD i 0<(G.length:Int))/\(0<=s.B.getD i 0/\s.B.getD i 0<(i:Int))/\s.E.getD i []=bF (s.E.getD (s.P.getD i 0).toNat []) (G.getD (s.L.getD i 0).toNat [])
 U2:∀x,x<k->(0<=s.S.getD x 0/\s.S.getD x 0<(s.E.length:Int))/\G.getD x []∈s.E
theorem oF.add{k:Nat}{s:o6}(h:oF n G k s){f w:List Int}{p l b:Int}(hf:lu n f)(c9:f∉s.E)(hp:0<=p/\p<(s.E.length:Int))(hl:0<=l/\l<(G.length:Int))(hb:0<=b/\b<(s.E.length:Int))
  (hw:w.length<=s.E.length) (he:f=bF (s.E.getD p.toNat []) (G.getD l.toNat [])):oF n G k { s with E:=s.E++[f],P:=s.P++[p],L:=s.L++[l],W:=s.W++[w],B:=s.B++[b] }:=by
 have gV:=h.pos;refine⟨λ g hg=>?_,?_,by rw [<-h.one];exact df h.pos,by simp,by simp [h.pl],by simp [h.ll],by simp [h.wl],by simp [h.bl],by have:=h.dl;simp;omega,h.rl,h.sl,λ i hi=>?_,?_,?_,?_,λ i hi=>?_,λ i h0 hi=>?_,λ x hx=>?_⟩
 ·rcases List.mem_append.1 hg with hg|hg
  ·exact h.xA g hg
  ·rw [List.mem_singleton.1 hg];exact hf
 ·rw [List.nodup_append]
  exact⟨h.nd,List.pairwise_singleton _ _,λ a ha b hb e=>c9 (by rw [List.mem_singleton]at hb;rw [<-hb,<-e];exact ha)⟩
 ·obtain⟨h1,h2⟩:=h.row i hi
  refine⟨h1,λ x hx=>?_⟩;obtain⟨h3,h4,h5⟩:=h2 x hx;have hd:=h.dl;refine⟨h3,by show dL s.R i x<((s.E++[f]).length:Int);rw [List.length_append,List.length_singleton];omega,?_⟩;show(s.E++[f]).getD (dL s.R i x).toNat []=bF ((s.E++[f]).getD i []) (G.getD x []);rw [df aa,df (by have:i<s.D:=hi;omega),h5]
 ·exact(df (by rw [h.pl];exact gV)).trans h.p0
 ·exact(df (by rw [h.ll];exact gV)).trans h.l0
 ·exact(df (by rw [h.wl];exact gV)).trans h.w0
 ·show((s.W++[w]).getD i []).length<=i
  by_cases e:i=s.E.length
  ·subst e;rw [<-h.wl,kC,h.wl];exact hw
  ·have hi:i<(s.E++[f]).length:=hi
   simp at hi;rw [df (by rw [h.wl];omega)];exact h.wd i aa
 ·have hi:i<(s.E++[f]).length:=hi
  simp at hi;show(0<=(s.P++[p]).getD i 0/\(s.P++[p]).getD i 0<(i:Int))/\(0<=(s.L++[l]).getD i 0/\(s.L++[l]).getD i 0<(G.length:Int))/\(0<=(s.B++[b]).getD i 0/\(s.B++[b]).getD i 0<(i:Int))/\(s.E++[f]).getD i []=bF ((s.E++[f]).getD ((s.P++[p]).getD i 0).toNat []) (G.getD ((s.L++[l]).getD i 0).toNat [])
  by_cases e:i=s.E.length
  ·have e1:(s.P++[p]).getD i 0=p:=by rw [e,<-h.pl];exact kC
   have e2:(s.L++[l]).getD i 0=l:=by rw [e,<-h.ll];exact kC
   have e3:(s.B++[b]).getD i 0=b:=by rw [e,<-h.bl];exact kC
   rw [e1,e2,e3,e,kC,df aa];exact⟨hp,hl,hb,he⟩
  ·have e1:(s.P++[p]).getD i 0=s.P.getD i 0:=df (by rw [h.pl];omega)
   have e2:(s.L++[l]).getD i 0=s.L.getD i 0:=df (by rw [h.ll];omega);have e3:(s.B++[b]).getD i 0=s.B.getD i 0:=df (by rw [h.bl];omega);obtain⟨h1,h2,h3,h4⟩:=h.pre i h0 aa;rw [e1,e2,e3,df aa,df aa];exact⟨h1,h2,h3,h4⟩
 ·obtain⟨h1,h2⟩:=h.U2 x hx
  exact⟨⟨h1.1,by show s.S.getD x 0<((s.E++[f]).length:Int);rw [List.length_append,List.length_singleton];omega⟩,List.mem_append_left _ h2⟩
theorem Ta:oF n G 0 (bgS n):=by
 refine⟨λ f hf=>?_,List.pairwise_singleton _ _,rfl,Nat.succ_pos _,rfl,rfl,rfl,rfl,Nat.zero_le _,rfl,rfl,λ i hi=>absurd hi (Nat.not_lt_zero _),rfl,rfl,rfl,λ i hi=>?_,λ i h0 hi=>?_,λ x hx=>absurd hx (Nat.not_lt_zero _)⟩
 ·rw [List.mem_singleton.1 hf];exact Pu n
 ·have hi:i<1:=hi
  obtain rfl:i=0:=aa;exact Nat.le_refl _
 ·have hi:i<1:=hi
  omega
theorem oF.rul{k:Nat}{s:o6}(h:oF n G k s)(U:List (List Int × List Int)):oF n G k { s with U:=U }:=⟨h.xA,h.nd,h.one,h.pos,h.pl,h.ll,h.wl,h.bl,h.dl,h.rl,h.sl,h.row,h.p0,h.l0,h.w0,h.wd,h.pre,h.U2⟩
theorem oF.sgl{k:Nat}{s:o6}(h:oF n G k s){i:Nat}(hi:i<s.E.length)(hg:G.getD k []∈s.E):oF n G (k+1) { s with S:=s.S++[(i:Int)] }:=by
 refine⟨h.xA,h.nd,h.one,h.pos,h.pl,h.ll,h.wl,h.bl,h.dl,h.rl,by simp [h.sl],h.row,h.p0,h.l0,h.w0,h.wd,h.pre,λ x hx=>?_⟩;show(0<=(s.S++[(i:Int)]).getD x 0/\(s.S++[(i:Int)]).getD x 0<(s.E.length:Int))/\_
 by_cases e:x=k
 ·rw [e,<-h.sl,kC,h.sl];exact⟨⟨aa,aa⟩,hg⟩
 ·rw [df (by rw [h.sl];omega)];exact h.U2 x aa
theorem oF.qq{k:Nat}{s:o6}(h:oF n G k s)(q:List Int):oF n G k { s with Q:=q }:=⟨h.xA,h.nd,h.one,h.pos,h.pl,h.ll,h.wl,h.bl,h.dl,h.rl,h.sl,h.row,h.p0,h.l0,h.w0,h.wd,h.pre,h.U2⟩
theorem Px{G:List (List Int)}:∀k,(iz n G k).D=0/\(iz n G k).U.length<=k/\(iz n G k).R=[]/\(iz n G k).Q=[]
 |0=>⟨rfl,Nat.zero_le _,rfl,rfl⟩
 |k+1=>by
  obtain⟨h1,h2,h3,h4⟩:=Px (G:=G) k;unfold iz U1;split
  ·exact⟨h1,by simp;omega,h3,h4⟩
  ·exact⟨h1,by show(iz n G k).U.length<=k+1;omega,h3,h4⟩
theorem Lr(hG:∀f∈G,lu n f):∀k,k<=G.length->oF n G k (iz n G k)
 |0,_=>Ta
 |k+1,hk=>by
  have h:=Lr hG k aa;have hg:=hG _ (an (d:=[]) (l:=G) (i:=k) aa);have hl:=h.pos;unfold iz U1;split
  ·rename_i hm
   exact(h.rul ((iz n G k).U++[(ER k,(iz n G k).W.getD (ff (iz n G k).E (G.getD k [])) [])])).sgl (eR hm).1 hm
  ·rename_i hm
   refine oF.sgl (i:=(iz n G k).E.length) (h.add (f:=G.getD k []) (w:=ER k) (p:=0) (l:=(k:Int)) (b:=0) hg hm ⟨aa,aa⟩ ⟨aa,aa⟩ ⟨aa,aa⟩ hl ?_) (by simp) (by simp);show G.getD k []=bF ((iz n G k).E.getD 0 []) (G.getD k []);rw [h.one,GA hg]
theorem oF.mul{s:o6}(hG:∀f∈G,lu n f)(h:oF n G G.length s)(hD:s.D<s.E.length){x:Nat}(hx:x<G.length)(c9:bF (s.E.getD s.D []) (G.getD x [])∉s.E):
  lu n (bF (s.E.getD s.D []) (G.getD x []))/\0<s.D/\0<=s.B.getD s.D 0/\s.B.getD s.D 0<(s.D:Int)/\0<=dL s.R (s.B.getD s.D 0) x/\dL s.R (s.B.getD s.D 0) x<(s.E.length:Int):=by
 have hg:=hG _ (an (d:=[]) hx)
 have h0:0<s.D:=by
  rcases Nat.eq_zero_or_pos s.D with h0|h0
  ·rw [h0,h.one,GA hg]at c9;exact absurd (h.U2 x hx).2 c9
  ·exact h0
 obtain⟨_,_,h3,_⟩:=h.pre s.D h0 hD;have hr:=(h.row (s.B.getD s.D 0).toNat aa).2 x hx;exact⟨(h.xA _ (an hD)).cmp hg,h0,h3.1,h3.2,hr.1,hr.2.1⟩
theorem oF.red{s:o6}(h:oF n G G.length s)(hD:s.D<s.E.length){x:Nat}(hx:x<G.length)(hw:s.W.getD s.D []≠[]):0<=s.B.getD s.D 0/\s.B.getD s.D 0<(s.D:Int)/\0<=dL s.R (s.B.getD s.D 0) x/\dL s.R (s.B.getD s.D 0) x<(s.E.length:Int):=by
 have h0:0<s.D:=by
  rcases Nat.eq_zero_or_pos s.D with h0|h0
  ·rw [h0,h.w0]at hw;exact absurd rfl hw
  ·exact h0
 obtain⟨_,_,h3,_⟩:=h.pre s.D h0 hD;have hr:=(h.row (s.B.getD s.D 0).toNat aa).2 x hx;exact⟨h3.1,h3.2,hr.1,hr.2.1⟩
structure Y0(G:List (List Int))(k:Nat)(s:o6):Prop where
 ql:s.Q.length=G.length
 qv:∀x,x<k->0<=s.Q.getD x 0/\s.Q.getD x 0<(s.E.length:Int)/\s.E.getD (s.Q.getD x 0).toNat []=bF (s.E.getD s.D []) (G.getD x [])
theorem Ad{l:List Int}{i:Nat}{v:Int}(h:i<l.length):(l.set i v).getD i 0=v:=by simp [List.getD,h]
theorem Ae{l:List Int}{i j:Nat}{v:Int}(h:j≠i):(l.set i v).getD j 0=l.getD j 0:=by simp [List.getD,List.getElem?_set_ne (Ne.symm h)]
theorem Tb(hG:∀f∈G,lu n f){s:o6}{k:Nat}(hk:k<G.length)(h:oF n G G.length s)(hD:s.D<s.E.length)(hq:Y0 G k s):
  Y0 G (k+1) (ES G s k)/\(ES G s k).D=s.D/\s.E.length<=(ES G s k).E.length/\(ES G s k).U.length<=s.U.length+1/\(ES G s k).R=s.R/\(ES G s k).S=s.S/\(ES G s k).E.getD s.D []=s.E.getD s.D []/\oF n G G.length (ES G s k):=by
 unfold ES;split
 ·rename_i hm
  have hi:=eR hm;refine⟨⟨by simp [hq.ql],λ x hx=>?_⟩,rfl,Nat.le_refl _,?_,rfl,rfl,rfl,(h.rul (if s.W.getD s.D []≠[]/\Pw s k=true then s.U++[(s.W.getD s.D []++ER k,s.W.getD (ff s.E (bF (s.E.getD s.D []) (G.getD k []))) [])] else s.U)).qq _⟩
  ·show 0<=(s.Q.set k _).getD x 0/\(s.Q.set k _).getD x 0<(s.E.length:Int)/\s.E.getD ((s.Q.set k _).getD x 0).toNat []=_
   by_cases e:x=k
   ·subst e
    rw [Ad (by rw [hq.ql];exact hk)];exact⟨aa,aa,hi.2⟩
   ·rw [Ae e];exact hq.qv x aa
  ·show List.length (if _ then _ else _)<=_
   split
   ·simp
   ·omega
 ·rename_i hm
  obtain⟨ht,h0,GD,lz,U3,V7⟩:=h.mul hG hD hk hm;have hw:=h.wd s.D hD;refine⟨⟨by simp [hq.ql],λ x hx=>?_⟩,rfl,by simp,by simp,rfl,rfl,df hD,?_⟩
  ·show 0<=(s.Q.set k _).getD x 0/\(s.Q.set k _).getD x 0<((s.E++[_]).length:Int)/\(s.E++[_]).getD ((s.Q.set k _).getD x 0).toNat []=bF ((s.E++[_]).getD s.D []) _
   rw [df hD]
   by_cases e:x=k
   ·subst e
    rw [Ad (by rw [hq.ql];exact hk)];exact⟨aa,by rw [List.length_append,List.length_singleton];omega,kC⟩
   ·rw [Ae e]
    obtain⟨g1,g2,g3⟩:=hq.qv x aa;exact⟨g1,by rw [List.length_append,List.length_singleton];omega,by rw [df aa];exact g3⟩
  ·exact(h.add (f:=bF (s.E.getD s.D []) (G.getD k [])) (w:=s.W.getD s.D []++ER k) (p:=(s.D:Int)) (l:=(k:Int)) (b:=dL s.R (s.B.getD s.D 0) k) ht hm ⟨aa,by have:s.D<s.E.length:=hD;omega⟩ ⟨aa,aa⟩ ⟨U3,V7⟩ (by show(s.W.getD s.D []++ER k).length<=s.E.length;rw [List.length_append,List.length_singleton];omega) (by show bF _ _=bF (s.E.getD ((s.D:Int)).toNat []) (G.getD ((k:Int)).toNat []);rw [Int.toNat_natCast,Int.toNat_natCast])).qq _
theorem Af(hG:∀f∈G,lu n f){s:o6}(h:oF n G G.length s)(hD:s.D<s.E.length):∀k,k<=G.length->
  Y0 G k (er G s k)/\(er G s k).D=s.D/\s.E.length<=(er G s k).E.length/\(er G s k).U.length<=s.U.length+k/\(er G s k).R=s.R/\(er G s k).S=s.S/\oF n G G.length (er G s k)
 |0,_=>⟨⟨by simp [er],λ x hx=>absurd hx (Nat.not_lt_zero _)⟩,rfl,Nat.le_refl _,Nat.le_refl _,rfl,rfl,h.qq _⟩
 |k+1,hk=>by
  obtain⟨h1,h2,h3,h4,h5,h6,h7⟩:=Af hG h hD k aa;obtain⟨g1,g2,g3,g4,g5,g6,_,g8⟩:=Tb hG (show k<G.length by omega) h7 aa h1;exact⟨g1,g2.trans h2,by unfold er;omega,by unfold er;omega,g5.trans h5,g6.trans h6,g8⟩
theorem Lu(hG:∀f∈G,lu n f){s:o6}(h:oF n G G.length s)(hD:s.D<s.E.length):oF n G G.length (Lq G s)/\(Lq G s).D=s.D+1/\(Lq G s).U.length<=s.U.length+G.length/\(Lq G s).S=s.S:=by
 obtain⟨h1,h2,h3,h4,h5,h6,h7⟩:=Af hG h hD G.length (Nat.le_refl _);have pA:=h7.rl;refine⟨⟨h7.xA,h7.nd,h7.one,h7.pos,h7.pl,h7.ll,h7.wl,h7.bl,by show(er G s G.length).D+1<=(er G s G.length).E.length;rw [h2];exact Nat.le_trans hD h3,by show List.length (_++[_])=_;rw [List.length_append,h7.rl];rfl,h7.sl,λ i hi=>?_,h7.p0,h7.l0,h7.w0,h7.wd,h7.pre,h7.U2⟩,by show(er G s G.length).D+1=_;rw [h2],h4,h6⟩;have hi:i<(er G s G.length).D+1:=hi;show(((er G s G.length).R++[(er G s G.length).Q]).getD i []).length=_/\∀x,x<G.length->0<=dL ((er G s G.length).R++[(er G s G.length).Q]) i x/\dL ((er G s G.length).R++[(er G s G.length).Q]) i x<((er G s G.length).E.length:Int)/\(er G s G.length).E.getD (dL ((er G s G.length).R++[(er G s G.length).Q]) i x).toNat []=bF ((er G s G.length).E.getD i []) (G.getD x []);unfold dL
 by_cases e:i=(er G s G.length).D
 ·have e2:((er G s G.length).R++[(er G s G.length).Q]).getD i []=(er G s G.length).Q:=by rw [e,<-pA,kC]
  rw [Int.toNat_natCast,e2];exact⟨h1.ql,λ x hx=>by rw [e];exact h1.qv x hx⟩
 ·rw [Int.toNat_natCast,df (by rw [pA];omega)]
  exact h7.row i aa
theorem ET(hG:∀f∈G,lu n f):∀j,(∀i,i<j->(JQ n G i).D<(JQ n G i).E.length)->oF n G G.length (JQ n G j)/\(JQ n G j).D=j/\(JQ n G j).U.length<=G.length*(j+1)
 |0,_=>by
  have h:=Px (n:=n) (G:=G) G.length;exact⟨Lr hG _ (Nat.le_refl _),h.1,by rw [Nat.zero_add,Nat.mul_one];exact h.2.1⟩
 |j+1,hj=>by
  obtain⟨h1,h2,h3⟩:=ET hG j λ i hi=>hj i aa;obtain⟨g1,g2,g3,_⟩:=Lu hG h1 (hj j aa);exact⟨g1,by show(Lq G (JQ n G j)).D=_;rw [g2,h2],by show(Lq G (JQ n G j)).U.length<=_;rw [Nat.mul_add];omega⟩
theorem oF.closed{s:o6}(h:oF n G G.length s)(hf:s.D=s.E.length):∀f∈s.E,∀g∈s.E,bF f g∈s.E:=by
 have key:∀j,j<s.E.length->∀f∈s.E,bF f (s.E.getD j [])∈s.E:=by
  intro j
  induction j using Nat.strongRecOn with
  |ind j ih=>
   intro hj f U4;rcases Nat.eq_zero_or_pos j with e|e
   ·rw [e,h.one,GB (h.xA _ U4)];exact U4
   ·obtain⟨h1,h2,_,h4⟩:=h.pre j e hj
    have hp:=ih (s.P.getD j 0).toNat aa aa f U4;rw [h4,<-rT (h.xA _ U4) (h.xA _ (an aa))];obtain⟨i,hi,e2⟩:=aV [] hp;rw [<-e2];obtain⟨g1,g2,g3⟩:=(h.row i aa).2 (s.L.getD j 0).toNat aa;rw [<-g3];exact an aa
 intro f U4 g sJ;obtain⟨j,hj,rfl⟩:=aV [] sJ;exact key j hj f U4
def dZ(E:List (List Int)):List (List Int):=E.map λ f=>E.map λ g=>(ff E (bF f g):Int)
theorem oF.bA{s:o6}(h:oF n G G.length s)(hf:s.D=s.E.length){i j:Nat}(hi:i<s.E.length)(h0:0<j)(hj:j<s.E.length):
  ff s.E (bF (s.E.getD i []) (s.E.getD (s.P.getD j 0).toNat []))<s.E.length/\(ff s.E (bF (s.E.getD i []) (s.E.getD j [])):Int)=(s.R.getD (ff s.E (bF (s.E.getD i []) (s.E.getD (s.P.getD j 0).toNat []))) []).getD (s.L.getD j 0).toNat 0:=by
 have hc:=h.closed hf;obtain⟨h1,h2,_,h4⟩:=h.pre j h0 hj;have hm:=eR (hc _ (an (d:=[]) hi) _ (an (d:=[]) (show(s.P.getD j 0).toNat<s.E.length by omega)));refine⟨hm.1,?_⟩;obtain⟨g1,g2,g3⟩:=(h.row _ (show ff s.E (bF (s.E.getD i []) (s.E.getD (s.P.getD j 0).toNat []))<s.D by rw [hf];exact hm.1)).2 (s.L.getD j 0).toNat aa;rw [hm.2,rT (h.xA _ (an hi)) (h.xA _ (an aa)),<-h4]at g3;unfold dL at g1 g2 g3;rw [Int.toNat_natCast]at g1 g2 g3;have e3:=vF h.nd (show((s.R.getD (ff s.E (bF (s.E.getD i []) (s.E.getD (s.P.getD j 0).toNat []))) []).getD (s.L.getD j 0).toNat 0).toNat<s.E.length by omega);rw [g3]at e3;rw [e3];omega
end
end Go.Proofs.YtgailjhnfghkgaaGreatDoor
end
