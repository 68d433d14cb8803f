import Derived.Test.YtgailjhnfghkgaaGreatDoorQuoLaw
import Derived.Test.YtgailjhnfghkgaaGreatDoorCg
import Derived.Test.YtgailjhnfghkgaaGreatDoorDfa
section
namespace Go.Proofs.YtgailjhnfghkgaaGreatDoor
open Go Go.AM
set_option maxRecDepth 100000
set_option maxHeartbeats 1000000 in
theorem Ga(t:List (List Int))(p:List Int)(h:cd t p 0):QF 10 [.ro (.rows .i64 t),.ro (.ints .i64 p)] (.cC [.new (.rows .i64 (eU t p)),.int .i64 0]):=kr Tryz.func10 (by decide+kernel) rfl (ah rfl) λ _=>by
 have hs:=h.kP;have gb:=h.len;have hp:=h.val;have hg:=h.cg;have kT:=hs.most;have UU:ak p<=p.length:=aZ _;refine Or.inl (cq (kU t) (ae rfl ag) ?_);refine ae (λ h1=>absurd (gI.2 hs) h1) (λ h1=>?_);refine Or.inl (cq (Td t p 0) (ae rfl (ae rfl (ae rfl ag))) ?_);refine ae (λ h1=>?_) (λ h1=>?_)
 ·have h1:(!N2 t p 0)=true:=h1
  rw [vH.2 h]at h1;cases h1
 refine Or.inl (cq (rU p) (ae rfl ag) ?_);have e:(if bp p then ((ak p:Nat):Int) else 0)=ak p:=if_pos hp;refine ae aa ?_;refine ae aa ?_;refine Or.inr (Or.inr ?_);refine af [36,37,38,40,41,49,52,64,10040]<|lA (λ(i:Nat) (_:List (List Int))=>[(26,.int .i64 i)]) (λ _ q=>[(23,.vec 0 (.cR .i64 q) [])]) (λ i q=>i<=p.length/\jN t p i q) (λ i _=>p.length - i) 0 (List.replicate (if bp p then ((ak p:Nat):Int) else 0).toNat []) ⟨Nat.zero_le _,by rw [e];exact jN.start⟩ ab ?_
 rintro i q ⟨hi,hq⟩;refine ae (λ h1=>?_) (λ h1=>?_)
 ·have bL:i<p.length:=aa
  have hr:=dj hp.2 bL;have xa:=hq.1;refine ae aa ?_;refine ae (show 0<=p.getD i 0/\p.getD i 0<(q.length:Int) by omega) ?_;refine ae (λ h2=>?_) (λ h2=>?_)
  ·refine ae aa ?_
   refine ae aa ?_;refine ae (show 0<=p.getD i 0/\p.getD i 0<(q.length:Int) by omega) ?_;refine ae (show((0:Nat):Int)<=p.getD i 0 by omega) ?_;refine af [36,37,38,40,41,49,52,64]<|lA (λ(j:Nat) (_:List Int)=>[(44,.int .i64 j)]) (λ _ r=>[(23,.vec 0 (.cR .i64 q) [(p.getD i 0,40)]),(40,.vec 0 (.ints .i64 r) [])]) (λ j r=>j<=p.length/\mE t p i j r) (λ j _=>p.length - j) 0 (List.replicate q.length 0) ⟨Nat.zero_le _,by rw [xa];exact mE.start⟩ ab ?_
   rintro j r ⟨hj,zw⟩;refine ae (λ h3=>?_) (λ h3=>?_)
   ·have oy:j<p.length:=aa
    have pA:=zw.1;have hc:=dj hp.2 oy;have e1:=hs.toSh.bA (x:=i) (y:=j) aa aa;have r1:=hs.toSh.len (x:=i) aa;have vl:=zw.next hs.toSh gb hp.2 hg aa oy;rw [<-Int.toNat_natCast (en t i j),<-e1.1]at vl;refine ae aa ?_;refine Or.inl ?_;refine af [false,false,false,false,false,false,false,false,false,false,false,false,false,false,false,false,true] (ae (by decide+kernel) ?_);refine ae (by simp only [Int.toNat_natCast];omega) ?_;refine ae (λ _=>?_) (λ h4=>absurd rfl h4);refine ae aa ?_;refine ae (show 0<=(j:Int)/\(j:Int)<((t.getD i []).length:Int) by omega) ?_;refine ae (show 0<=(t.getD i []).getD j 0/\(t.getD i []).getD j 0<(p.length:Int) by omega) ?_;refine ae (show 0<=p.getD j 0/\p.getD j 0<(r.length:Int) by omega) ?_;refine ae (show((0:Nat):Int)<=p.getD j 0 by omega) ?_;refine ae aa ?_;exact nx (j+1,r.set (p.getD j 0).toNat (p.getD ((t.getD i []).getD j 0).toNat 0)) ⟨aa,vl⟩ (show p.length - (j+1)<p.length - j by omega) ab
   ·refine ae aa ?_
    have X4:=zw.done hs.toSh gb hp.2 hg aa aa
    have gV:r≠[]:=λ he=>by
     have:=zw.1;rw [he]at this;simp at this;omega
    refine nx (i+1,q.set (p.getD i 0).toNat r) ⟨aa,hq.new hp.2 bL X4⟩ (show p.length - (i+1)<p.length - i by omega) ?_
    repeat' first|refine ae ?_ ?_|exact ag|exact gV|(show(_:Int)=(_:Int);omega)|omega|exact rfl
  ·refine ae ?_ (λ h0=>?_)
   ·refine ae aa ?_
    exact nx (i+1,q) ⟨aa,hq.eu hp.2 bL h2⟩ (show p.length - (i+1)<p.length - i by omega) ab
   ·exact absurd (List.eq_nil_of_length_eq_zero h0) h2
 ·refine ae (ae aa ?_) (ae rfl ag)
  show RO.rows .i64 q=RO.rows .i64 (eU t p);rw [hq.done hp.2 aa]
end Go.Proofs.YtgailjhnfghkgaaGreatDoor
end
section
namespace Go.Proofs.YtgailjhnfghkgaaGreatDoor
open Go Go.AM
set_option maxRecDepth 100000
set_option maxHeartbeats 2000000 in
theorem X8(t:List (List Int))(p:List Int)(hs:Semi t):QF 37 [.ro (.rows .i64 t),.ro (.ints .i64 p)] (.bool (.v (N2 t p 0))):=kr Tryz.func37 (by decide+kernel) rfl (ah rfl) λ _=>by
 have no:¬cd t p 0->(BE.lit false).val=(BE.v (N2 t p 0)).val:=λ h=>(yr.2 h).symm;have oC:=hs.toSh;have kT:=hs.most;refine ae (λ h3=>?_) (λ h3=>?_)
 ·refine ae (no λ h=>by have:=h.len;omega) trivial
 refine Or.inl (cq (fA p) (ae rfl ag) ?_);refine ae (λ h4=>?_) (λ h4=>?_)
 ·refine ae (no λ h=>?_) trivial
  have h4:(!decide (bp p))=true:=h4;rw [decide_eq_true h.val]at h4;cases h4
 have Cv:bp p:=by simpa using h4
 have hlen:p.length=t.length:=aa;have aU:=(gG.1 Cv).2;refine af []<|lA (λ(i:Nat) (f:List Int)=>[(22,.int .i64 i),(5,.vec 34)]) (λ _ f=>[(34,.vec 0 (.ints .i64 f) [])]) (λ i f=>i<=p.length/\iF p i f/\∀x,x<i->∀s,s<t.length->Bt t p 0 x (f.getD (p.getD x 0).toNat 0).toNat s) (λ i _=>p.length - i) 0 [] ⟨Nat.zero_le _,⟨rfl,λ c hc=>absurd hc (Nat.not_lt_zero _)⟩,λ j hj=>absurd hj (Nat.not_lt_zero _)⟩ ab ?_
 rintro i f ⟨hi,hf,ha⟩;refine ae (λ h1=>?_) (λ h1=>?_)
 ·have bL:i<p.length:=aa
  have xB:i<t.length:=aa;have c8:=aU i bL
  have Y2:f.length<=i:=by
   have:=aZ (p.take i);rw [List.length_take]at this;have:=hf.1;omega
  refine ae aa ?_;refine ae (λ h2=>?_) (λ h2=>?_)
  ·have h2:p.getD i 0=(f.length:Int):=h2
   have FP:(f++[(i:Int)]).length=f.length+1:=by simp
   have xh:(f++[(i:Int)]).getD (p.getD i 0).toNat 0=i:=by
    rw [h2,Int.toNat_natCast];simp [List.getD]
   have hn:=iF.new aU bL hf h2;refine ae aa ?_;refine ae (show 0<=p.getD i 0/\p.getD i 0<((f++[(i:Int)]).length:Int) by omega) ?_;have hy:0<=(f++[(i:Int)]).getD (p.getD i 0).toNat 0/\(f++[(i:Int)]).getD (p.getD i 0).toNat 0<(t.length:Int):=by rw [xh];omega
   have Lv:p.getD ((f++[(i:Int)]).getD (p.getD i 0).toNat 0).toNat 0=p.getD i 0:=by rw [xh,Int.toNat_natCast]
   have hold:∀x,x<i->(f++[(i:Int)]).getD (p.getD x 0).toNat 0=f.getD (p.getD x 0).toNat 0:=λ x hx=>yt (iF.eu aU aa hf hx);have vI:((f++[(i:Int)]).getD (p.getD i 0).toNat 0).toNat<t.length:=aa;refine af []<|lp (X:=Nat) (λ s=>[(41,.int .i64 s)]) (λ _=>[(34,.vec 0 (.ints .i64 (f++[(i:Int)])) [])]) (λ s=>s<=t.length/\∀s',s'<s->Bt t p 0 i ((f++[(i:Int)]).getD (p.getD i 0).toNat 0).toNat s') (λ s=>t.length - s) 0 ⟨Nat.zero_le _,λ j hj=>absurd hj (Nat.not_lt_zero _)⟩ ab ?_
   rintro s ⟨UR,HM⟩;refine ae (λ h6=>?_) (λ h6=>?_)
   ·have gi:s<t.length:=aa
    have e1:=oC.bA gi xB;have e2:=oC.bA gi vI;have e3:=oC.bA xB gi;have e4:=oC.bA vI gi;have r1:=oC.len gi;have r2:=oC.len xB;have r3:=oC.len vI;have bad1:p.getD (en t s i) 0≠p.getD (en t s ((f++[(i:Int)]).getD (p.getD i 0).toNat 0).toNat) 0->¬cd t p 0:=λ g2 h=>g2 ((h.cg i _ s xB vI gi Lv.symm).1 (by decide));have bad2:p.getD (en t i s) 0≠p.getD (en t ((f++[(i:Int)]).getD (p.getD i 0).toNat 0).toNat s) 0->¬cd t p 0:=λ g2 h=>g2 ((h.cg i _ s xB vI gi Lv.symm).2 (by decide));refine Or.inl ?_;refine af (List.replicate 44 false) (ae (by decide+kernel) ?_);refine ae aa ?_;refine ae (show 0<=(i:Int)/\(i:Int)<((t.getD s []).length:Int) by omega) ?_;refine ae (show 0<=(t.getD s []).getD i 0/\(t.getD s []).getD i 0<(p.length:Int) by omega) ?_;refine ae aa ?_;refine ae (show 0<=(f++[(i:Int)]).getD (p.getD i 0).toNat 0/\(f++[(i:Int)]).getD (p.getD i 0).toNat 0<((t.getD s []).length:Int) by omega) ?_;refine ae (show 0<=(t.getD s []).getD ((f++[(i:Int)]).getD (p.getD i 0).toNat 0).toNat 0/\(t.getD s []).getD ((f++[(i:Int)]).getD (p.getD i 0).toNat 0).toNat 0<(p.length:Int) by omega) ?_;refine ae (λ h8=>?_) (λ h8=>?_)
    ·refine ae (no (bad1 h8)) trivial
    refine ae aa ?_;refine ae (show 0<=(s:Int)/\(s:Int)<((t.getD i []).length:Int) by omega) ?_;refine ae (show 0<=(t.getD i []).getD s 0/\(t.getD i []).getD s 0<(p.length:Int) by omega) ?_;refine ae hy ?_;refine ae (show 0<=(s:Int)/\(s:Int)<((t.getD ((f++[(i:Int)]).getD (p.getD i 0).toNat 0).toNat []).length:Int) by omega) ?_;refine ae (show 0<=(t.getD ((f++[(i:Int)]).getD (p.getD i 0).toNat 0).toNat []).getD s 0/\(t.getD ((f++[(i:Int)]).getD (p.getD i 0).toNat 0).toNat []).getD s 0<(p.length:Int) by omega) ?_;refine ae (λ cu=>?_) (λ cu=>?_)
    ·refine ae (no (bad2 cu)) trivial
    refine ae aa ?_;refine nx (s+1) ⟨aa,λ s' xo=>?_⟩ (show t.length - (s+1)<t.length - s by omega) ab
    by_cases e:s'=s
    ·subst e;exact⟨λ _=>h8,λ _=>cu⟩
    ·exact HM s' aa
   ·refine ae aa ?_
    refine nx (i+1,f++[(i:Int)]) ⟨aa,hn,λ x hx s' xo=>?_⟩ (show p.length - (i+1)<p.length - i by omega) ab
    by_cases e:x=i
    ·subst e;exact HM s' aa
    ·rw [hold x aa];exact ha x aa s' xo
  ·have h2:¬p.getD i 0=(f.length:Int):=h2
   have hn:=iF.same aU bL hf h2;have aS:(p.getD i 0).toNat<f.length:=by have:=hf.1;have:=c8.1;have:=c8.2;omega
   have Y3:=hf.2 _ aS;refine ae (show 0<=p.getD i 0/\p.getD i 0<(f.length:Int) by have:=c8.1;omega) ?_;have hy:0<=f.getD (p.getD i 0).toNat 0/\f.getD (p.getD i 0).toNat 0<(t.length:Int):=aa;have Lv:p.getD (f.getD (p.getD i 0).toNat 0).toNat 0=p.getD i 0:=by have:=c8.1;rw [Y3.2.2];omega
   have hold:∀x,x<i->f.getD (p.getD x 0).toNat 0=f.getD (p.getD x 0).toNat 0:=λ _ _=>rfl;have vI:(f.getD (p.getD i 0).toNat 0).toNat<t.length:=aa;refine af []<|lp (X:=Nat) (λ s=>[(41,.int .i64 s)]) (λ _=>[(34,.vec 0 (.ints .i64 f) [])]) (λ s=>s<=t.length/\∀s',s'<s->Bt t p 0 i (f.getD (p.getD i 0).toNat 0).toNat s') (λ s=>t.length - s) 0 ⟨Nat.zero_le _,λ j hj=>absurd hj (Nat.not_lt_zero _)⟩ ab ?_
   rintro s ⟨UR,HM⟩;refine ae (λ h6=>?_) (λ h6=>?_)
   ·have gi:s<t.length:=aa
    have e1:=oC.bA gi xB;have e2:=oC.bA gi vI;have e3:=oC.bA xB gi;have e4:=oC.bA vI gi;have r1:=oC.len gi;have r2:=oC.len xB;have r3:=oC.len vI;have bad1:p.getD (en t s i) 0≠p.getD (en t s (f.getD (p.getD i 0).toNat 0).toNat) 0->¬cd t p 0:=λ g2 h=>g2 ((h.cg i _ s xB vI gi Lv.symm).1 (by decide));have bad2:p.getD (en t i s) 0≠p.getD (en t (f.getD (p.getD i 0).toNat 0).toNat s) 0->¬cd t p 0:=λ g2 h=>g2 ((h.cg i _ s xB vI gi Lv.symm).2 (by decide));refine Or.inl ?_;refine af (List.replicate 44 false) (ae (by decide+kernel) ?_);refine ae aa ?_;refine ae (show 0<=(i:Int)/\(i:Int)<((t.getD s []).length:Int) by omega) ?_;refine ae (show 0<=(t.getD s []).getD i 0/\(t.getD s []).getD i 0<(p.length:Int) by omega) ?_;refine ae aa ?_;refine ae (show 0<=f.getD (p.getD i 0).toNat 0/\f.getD (p.getD i 0).toNat 0<((t.getD s []).length:Int) by omega) ?_;refine ae (show 0<=(t.getD s []).getD (f.getD (p.getD i 0).toNat 0).toNat 0/\(t.getD s []).getD (f.getD (p.getD i 0).toNat 0).toNat 0<(p.length:Int) by omega) ?_;refine ae (λ h8=>?_) (λ h8=>?_)
    ·refine ae (no (bad1 h8)) trivial
    refine ae aa ?_;refine ae (show 0<=(s:Int)/\(s:Int)<((t.getD i []).length:Int) by omega) ?_;refine ae (show 0<=(t.getD i []).getD s 0/\(t.getD i []).getD s 0<(p.length:Int) by omega) ?_;refine ae hy ?_;refine ae (show 0<=(s:Int)/\(s:Int)<((t.getD (f.getD (p.getD i 0).toNat 0).toNat []).length:Int) by omega) ?_;refine ae (show 0<=(t.getD (f.getD (p.getD i 0).toNat 0).toNat []).getD s 0/\(t.getD (f.getD (p.getD i 0).toNat 0).toNat []).getD s 0<(p.length:Int) by omega) ?_;refine ae (λ cu=>?_) (λ cu=>?_)
    ·refine ae (no (bad2 cu)) trivial
    refine ae aa ?_;refine nx (s+1) ⟨aa,λ s' xo=>?_⟩ (show t.length - (s+1)<t.length - s by omega) ab
    by_cases e:s'=s
    ·subst e;exact⟨λ _=>h8,λ _=>cu⟩
    ·exact HM s' aa
   ·refine ae aa ?_
    refine nx (i+1,f) ⟨aa,hn,λ x hx s' xo=>?_⟩ (show p.length - (i+1)<p.length - i by omega) ab
    by_cases e:x=i
    ·subst e;exact HM s' aa
    ·rw [hold x aa];exact ha x aa s' xo
 ·refine ae ?_ trivial
  have K4:i=p.length:=aa;subst K4;refine(vH.2 ⟨hs,hlen,Cv,⟨aa,aa⟩,λ x y s hx hy gi xl=>?_⟩).symm;have h1:=ha x aa s gi;have h2:=ha y aa s gi;rw [xl]at h1;exact h1.trans h2
theorem QC(p:List Int)(hv:bp p)(h0:0<p.length):QF 84 [.ro (.ints .i64 p)] (.int .i64 ((ak p:Nat) - 1:Int)):=kr Tryz.func84 (by decide+kernel) rfl (ah rfl) λ _=>by
 have c8:=(gG.1 hv).2;have hlen:=hv.1
 have h1:(ar (p.take 1)).length=1/\p.getD 0 0=0:=by
  have a:=c8 0 h0;have b:=ib h0 (λ j hj=>absurd hj (Nat.not_lt_zero _)) a;have c:(ar (p.take 0)).length=0:=rfl;have a1:=a.1;have a2:=a.2;rw [c]at a2 b;have e:p.getD 0 0=0:=aa;split at b<;>exact⟨aa,e⟩
 refine ae (λ h2=>?_) (λ _=>?_)
 ·have h2:(p.length:Int)<1:=h2
  omega
 refine ae aa ?_;refine af []<|lA (λ(i:Nat) (c:Int)=>[(4,.int .i64 i),(3,.int .i64 c)]) (λ _ _=>[]) (λ i c=>1<=i/\i<=p.length/\c=((ar (p.take i)).length:Int) - 1) (λ i _=>p.length - i) 1 (p.getD 0 0) ⟨Nat.le_refl _,h0,by rw [h1.1,h1.2];rfl⟩ ab ?_
 rintro i c ⟨Q3,hi,hc⟩;refine ae (λ h3=>?_) (λ h3=>?_)
 ·have h3:(i:Int)<(p.length:Int):=h3
  have bL:i<p.length:=aa;have hs:=c8 i bL;have Pq:0<=p.getD i 0:=hs.1;have N1:p.getD i 0<=(ar (p.take i)).length:=hs.2;have Rr:=ib bL (λ j hj=>c8 j aa) hs;refine ae aa ?_;refine ae (show -9223372036854775808<=(i:Int)+1/\(i:Int)+1<=9223372036854775807 by omega) ?_;refine nx (i+1,((ar (p.take (i+1))).length:Int) - 1) ⟨aa,aa,rfl⟩ (show p.length - (i+1)<p.length - i by omega) ?_
  have em:max c (p.getD i 0)=((ar (p.take (i+1))).length:Int) - 1:=by
   rw [Rr,hc];split<;>omega
  repeat' first|refine ae ?_ ?_|exact ag|exact em|exact rfl
 ·have h3:(p.length:Int)<=(i:Int):=h3
  refine ae ?_ trivial;have:p.take i=p:=List.take_of_length_le aa;show c=(ak p:Nat) - 1;rw [hc,this];rfl
theorem Gu(p:List Int)(hv:bp p):QF 40 [.ro (.ints .i64 p)] (.int .i64 (ak p:Nat)):=kr Tryz.func40 (by decide+kernel) rfl (ah rfl) λ _=>by
 have hlen:=hv.1;have UU:ak p<=p.length:=aZ _;refine ae (λ h1=>?_) (λ h1=>?_)
 ·have h1:(p.length:Int)=0:=h1
  refine ae ?_ trivial;show(0:Int)=(ak p:Nat);omega
 ·have h1:¬(p.length:Int)=0:=h1
  refine Or.inl (cq (QC p hv aa) (ae rfl ag) ?_);refine ae (show -9223372036854775808<=((ak p:Nat) - 1:Int)+1/\((ak p:Nat) - 1:Int)+1<=9223372036854775807 by omega) ?_;refine ae ?_ trivial;show((ak p:Nat) - 1:Int)+1=(ak p:Nat);omega
set_option maxHeartbeats 1000000 in
theorem M7(t:List (List Int))(p:List Int)(h:cd t p 0):QF 42 [.ro (.rows .i64 t),.ro (.ints .i64 p)] (.new (.rows .i64 (eU t p))):=kr Tryz.func42 (by decide+kernel) rfl (ah rfl) λ _=>by
 have hs:=h.kP;have gb:=h.len;have hp:=h.val;have hg:=h.cg;have kT:=hs.most;have UU:ak p<=p.length:=aZ _;refine Or.inl (cq (Gu p hp) (ae rfl ag) ?_);refine ae aa ?_;refine ae aa ?_;refine Or.inr (Or.inr ?_);refine af [25,26,27,29,30,38,41,53,10029]<|lA (λ(i:Nat) (_:List (List Int))=>[(15,.int .i64 i)]) (λ _ q=>[(12,.vec 0 (.cR .i64 q) [])]) (λ i q=>i<=p.length/\jN t p i q) (λ i _=>p.length - i) 0 (List.replicate (ak p) []) ⟨Nat.zero_le _,jN.start⟩ ab ?_
 rintro i q ⟨hi,hq⟩;refine ae (λ h1=>?_) (λ h1=>?_)
 ·have bL:i<p.length:=aa
  have hr:=dj hp.2 bL;have xa:=hq.1;refine ae aa ?_;refine ae (show 0<=p.getD i 0/\p.getD i 0<(q.length:Int) by omega) ?_;refine ae (λ h2=>?_) (λ h2=>?_)
  ·refine ae aa ?_
   refine ae aa ?_;refine ae (show 0<=p.getD i 0/\p.getD i 0<(q.length:Int) by omega) ?_;refine ae (show((0:Nat):Int)<=p.getD i 0 by omega) ?_;refine af [25,26,27,29,30,38,41,53]<|lA (λ(j:Nat) (_:List Int)=>[(33,.int .i64 j)]) (λ _ r=>[(12,.vec 0 (.cR .i64 q) [(p.getD i 0,29)]),(29,.vec 0 (.ints .i64 r) [])]) (λ j r=>j<=p.length/\mE t p i j r) (λ j _=>p.length - j) 0 (List.replicate q.length 0) ⟨Nat.zero_le _,by rw [xa];exact mE.start⟩ ab ?_
   rintro j r ⟨hj,zw⟩;refine ae (λ h3=>?_) (λ h3=>?_)
   ·have oy:j<p.length:=aa
    have pA:=zw.1;have hc:=dj hp.2 oy;have e1:=hs.toSh.bA (x:=i) (y:=j) aa aa;have r1:=hs.toSh.len (x:=i) aa;have vl:=zw.next hs.toSh gb hp.2 hg aa oy;rw [<-Int.toNat_natCast (en t i j),<-e1.1]at vl;refine ae aa ?_;refine Or.inl ?_;refine af [false,false,false,false,false,false,false,false,false,false,false,false,false,false,false,false,true] (ae (by decide+kernel) ?_);refine ae (by simp only [Int.toNat_natCast];omega) ?_;refine ae (λ _=>?_) (λ h4=>absurd rfl h4);refine ae aa ?_;refine ae (show 0<=(j:Int)/\(j:Int)<((t.getD i []).length:Int) by omega) ?_;refine ae (show 0<=(t.getD i []).getD j 0/\(t.getD i []).getD j 0<(p.length:Int) by omega) ?_;refine ae (show 0<=p.getD j 0/\p.getD j 0<(r.length:Int) by omega) ?_;refine ae (show((0:Nat):Int)<=p.getD j 0 by omega) ?_;refine ae aa ?_;exact nx (j+1,r.set (p.getD j 0).toNat (p.getD ((t.getD i []).getD j 0).toNat 0)) ⟨aa,vl⟩ (show p.length - (j+1)<p.length - j by omega) ab
   ·refine ae aa ?_
    have X4:=zw.done hs.toSh gb hp.2 hg aa aa
    have gV:r≠[]:=λ he=>by
     have:=zw.1;rw [he]at this;simp at this;omega
    refine nx (i+1,q.set (p.getD i 0).toNat r) ⟨aa,hq.new hp.2 bL X4⟩ (show p.length - (i+1)<p.length - i by omega) ?_
    repeat' first|refine ae ?_ ?_|exact ag|exact gV|(show(_:Int)=(_:Int);omega)|omega|exact rfl
  ·refine ae ?_ (λ h0=>?_)
   ·refine ae aa ?_
    exact nx (i+1,q) ⟨aa,hq.eu hp.2 bL h2⟩ (show p.length - (i+1)<p.length - i by omega) ab
   ·exact absurd (List.eq_nil_of_length_eq_zero h0) h2
 ·refine ae (ae aa ?_) trivial
  show RO.rows .i64 q=RO.rows .i64 (eU t p);rw [hq.done hp.2 aa]
end Go.Proofs.YtgailjhnfghkgaaGreatDoor
end
