import Derived.Test.YtgailjhnfghkgaaGreatDoorWd
import Derived.Test.YtgailjhnfghkgaaGreatDoorCloneB
namespace Go.Proofs.YtgailjhnfghkgaaGreatDoor
open Go Go.AM
set_option maxRecDepth 100000
set_option maxHeartbeats 4000000
abbrev WO(L:Nat)(F:List Bool)(E:List (List Int))(I:List Int)(W:List (List Int))(Pl:List Bool):AV:=.agg [.int .i64 L,.ro (.rows .i64 (aP E)),.ro (.strs W),.ro (.ints .i64 I),.ro (.aI (pX F E)),.ro (.aI Pl)]
theorem G5(l:List Int)(n:Nat)(hl:l.length<=4096)(h:∀x∈l,0<=x/\x<(n:Int)):QF 117 [.ro (.ints .i64 l),.int .i64 n] (.bool (.lit true)):=fN Tryz.func117 (by decide+kernel) rfl (ah rfl) λ_=>by
 refine af []<|lp (X:=Nat) (λk=>[(9,.int .i64 k)]) (λ_=>[]) (λk=>k<=l.length) (λk=>l.length - k) 0 (ajk _) ab ?_
 rintro k hk;refine ae (λh1=>?_) (λ_=>ae rfl ag);have h1:(k:Int)<(l.length:Int):=h1;have hm:=h _ (al (d:=0) (l:=l) (i:=k) aa);refine aj ?_;refine ae (λg=>absurd (show l.getD k 0<0 from g) aa) (λ_=>?_);refine ae (λg=>absurd (show(n:Int)<=l.getD k 0 from g) aa) (λ_=>?_);refine aj ?_;exact nx (k+1) (show k+1<=l.length by omega) (show l.length - (k+1)<l.length - k by omega) ab
section
variable{L:Nat}{F:List Bool}{N E:List (List Int)}{I:List Int}{W:List (List Int)}{Pl:List Bool}
theorem PD(h:nS L F N E I W Pl):QF 79 [WO L F E I W Pl] (.bool (.lit true)):=fN Tryz.func79 (by decide+kernel) rfl (ah rfl) λ_=>by
 have hE:=b7 E;have hA:(pX F E).length=E.length:=by simp
 obtain⟨hW,hP⟩:=h.wl;obtain⟨V5,hI⟩:=h.il;have h1:=h.dv.l1;have h6:=h.dv.l6;have hp:=h.tm.pos;have hf:=h.tm.pZ;have hS:=h.tm.iJ.toSh
 have hIm:∀x∈I,0<=x/\x<(E.length:Int):=λx hx=>by
  obtain⟨i,hi,rfl⟩:=aS 0 hx;have:=hI i aa;exact⟨this.1,this.2.1⟩
 refine ae (λg=>absurd (show(L:Int)<1 from g) aa) (λ_=>?_);refine ae (λg=>absurd (show 6<(L:Int)from g) aa) (λ_=>?_);refine ae (λg=>absurd (show((aP E).length:Int)<1 from g) aa) (λ_=>?_);refine ae (λg=>absurd (show 400<((aP E).length:Int)from g) aa) (λ_=>?_);refine ae (λg=>absurd (show(W.length:Int)=((aP E).length:Int) by omega) g) (λ_=>?_);refine ae (λg=>absurd (show((pX F E).length:Int)=((aP E).length:Int) by omega) g) (λ_=>?_);refine ae (λg=>absurd (show(Pl.length:Int)=((aP E).length:Int) by omega) g) (λ_=>?_);refine ae (λg=>absurd (show(I.length:Int)=(L:Int) by omega) g) (λ_=>?_);refine af []<|lp (X:=Nat) (λk=>[(55,.int .i64 k)]) (λ_=>[]) (λk=>k<=(aP E).length) (λk=>(aP E).length - k) 0 (ajk _) ab ?_
 rintro k hk;refine ae (λg1=>?_) (λ_=>?_)
 ·have g1:(k:Int)<((aP E).length:Int):=g1
  have hr:=hS.row _ (al (d:=[]) (l:=aP E) (i:=k) aa);have mV:=hr.1;refine aj ?_;refine ae (λg=>absurd (show(((aP E).getD k []).length:Int)=((aP E).length:Int) by omega) g) (λ_=>?_);refine Or.inl (cq (G5 ((aP E).getD k []) (aP E).length aa hr.2) (ae rfl (ae rfl ag)) ?_);refine aj ?_;exact nx (k+1) (show k+1<=(aP E).length by omega) (show(aP E).length - (k+1)<(aP E).length - k by omega) ab
 ·refine Or.inl (cq (G5 I (aP E).length aa (by rw [hE];exact hIm)) (ae rfl (ae rfl ag)) ?_)
  exact ae rfl trivial
theorem PE(h:nS L F N E I W Pl):QF 80 [WO L F E I W Pl] (zU L 0 (pX F E) (cZ (aP E) I)):=fN Tryz.func80 (by decide+kernel) rfl (ah rfl) λ_=>by
 have hE:=b7 E;have hA:(pX F E).length=E.length:=by simp
 obtain⟨V5,hI⟩:=h.il;have h1:=h.dv.l1;have h6:=h.dv.l6;have hp:=h.tm.pos;have hf:=h.tm.pZ;have hS:=h.tm.iJ.toSh;refine Or.inl ?_;refine af (ai 11++[true]) (ae (by decide+kernel) ?_);refine cq (IX (pX F E) aa) (ae rfl ag) ?_;refine aj ?_;refine aj ?_;refine Or.inl ?_;have da:=u7 (aP E) I;refine af []<|kF (λ(x:Nat) (_:List (List Int))=>[(21,.int .i64 x)]) (λ_ Q=>[(16,.vec 0 (.rows .i64 Q) [])]) (λx Q=>x<=(aP E).length/\Q.length=(aP E).length/\∀y,y<x->Q.getD y []=(cZ (aP E) I).getD y []) (λx _=>(aP E).length - x) 0 (List.replicate (aP E).length []) ⟨ajk _,by simp,λy hy=>absurd hy (aju _)⟩ ab ?_
 rintro x Q ⟨hx,hQ,PF⟩;refine ae (λk1=>?_) (λk1=>?_)
 ·have k1:(x:Int)<((aP E).length:Int):=k1
  have uz:x<(aP E).length:=aa;have mV:=hS.len uz;refine aj ?_;refine Or.inl ?_;refine af (ai 7++[true]) (ae (by decide+kernel) ?_);refine aj ?_;refine aj ?_;refine aj ?_;refine aj ?_;refine af []<|kF (λ(a:Nat) (_:List Int)=>[(36,.int .i64 a)]) (λ_ r=>[(31,.vec 0 (.ints .i64 r) []),(16,.vec 0 (.rows .i64 Q) [(x,31)])]) (λa r=>a<=I.length/\r.length=L/\∀y,y<a->r.getD y 0=((cZ (aP E) I).getD x []).getD y 0) (λa _=>I.length - a) 0 (List.replicate L 0) ⟨ajk _,by simp,λy hy=>absurd hy (aju _)⟩ ab ?_
  rintro a r ⟨ha,hr,WQ⟩;refine ae (λk2=>?_) (λk2=>?_)
  ·have k2:(a:Int)<(I.length:Int):=k2
   have haL:a<L:=aa;have hIa:=hI a haL;have hv:=uw (T:=aP E) (I:=I) uz (show a<I.length by omega);refine aj ?_;refine Or.inl ?_;refine af (ai 11++[true]) (ae (by decide+kernel) ?_);refine aj ?_;refine ae (λ_=>?_) (λg=>absurd rfl g);refine ae (show 0<=I.getD a 0/\I.getD a 0<(((aP E).getD x []).length:Int) by omega) ?_;refine aj ?_;refine aj ?_;refine aj ?_;refine nx (a+1,r.set a (((aP E).getD x []).getD (I.getD a 0).toNat 0)) ⟨aa,by rw [ajv];exact hr,λy hy=>?_⟩ (show I.length - (a+1)<I.length - a by omega) ab
   by_cases e:y=a
   ·rw [e,aB aa,hv]
   ·rw [getD_set_ne (Ne.symm e)];exact WQ y aa
  ·have k2:(I.length:Int)<=(a:Int):=k2
   have aH:((cZ (aP E) I).getD x []).length=I.length:=by rw [u9 uz,ajS]
   have er:r=(cZ (aP E) I).getD x []:=a6 0 aa λy hy=>WQ y aa;refine aj ?_;refine nx (x+1,Q.set x r) ⟨aa,by rw [ajv];exact hQ,λy hy=>?_⟩ (show(aP E).length - (x+1)<(aP E).length - x by omega) ab
   by_cases e:y=x
   ·rw [e,jk aa,er]
   ·rw [ff e];exact PF y aa
 ·have k1:((aP E).length:Int)<=(x:Int):=k1
  have eQ:Q=cZ (aP E) I:=a6 [] aa λy hy=>PF y aa;rw [eQ];exact ae ab trivial
theorem PG(h:nS L F N E I W Pl){l:List Int}(hl:l.length<=2048)(hv:E3 L l):QF 39 [WO L F E I W Pl,.str l] (.int .i64 (cI (cZ (aP E) I) 0 (jR l))):=fN Tryz.func39 (by decide+kernel) rfl (ah rfl) λ_=>by
 have hE:=b7 E;have hA:(pX F E).length=E.length:=by simp
 obtain⟨V5,hI⟩:=h.il;have h1:=h.dv.l1;have h6:=h.dv.l6;have hp:=h.tm.pos;have hS:=h.tm.iJ.toSh;refine Or.inl (cq (GU L l h1 h6 hl hv) (ae rfl (ae rfl ag)) ?_);refine aj ?_;refine af []<|lp (X:=Nat) (λi=>[(14,.int .i64 i),(5,.int .i64 (cI (cZ (aP E) I) 0 ((jR l).take i)))]) (λ_=>[]) (λi=>i<=l.length) (λi=>l.length - i) 0 (ajk _) ab ?_
 rintro i hi;have WN:=h.YK.runT hv (q:=0) ⟨aj5 _,aa⟩ i hi;rw [hA]at WN;refine ae (λk1=>?_) (λk1=>?_)
 ·have k1:(i:Int)<(l.length:Int):=k1
  have bD:i<l.length:=aa;have hx:=hv i bD;have ZH:=hI (l.getD i 0 - 97).toNat aa;have mV:=hS.len (x:=(cI (cZ (aP E) I) 0 ((jR l).take i)).toNat) aa;have fD:=nT (cZ (aP E) I) 0 bD;rw [uw aa aa]at fD;refine Or.inl ?_;refine af (ai 15++[true]) (ae (by decide+kernel) ?_);refine aj ?_;refine aj ?_;refine ae (show(0:Int)<=l.getD i 0 - 97/\l.getD i 0 - 97<=255 by omega) ?_;refine ae (by simp only [ajr];omega) ?_;refine ae (by simp only [ajr];omega) ?_;refine aj ?_;exact nx (i+1) (show i+1<=l.length by omega) (show l.length - (i+1)<l.length - i by omega) (by repeat' first|refine ae ?_ ?_|exact ag|exact fD.symm|(show(_:Int)=(_:Int);omega)|omega|exact rfl)
 ·have k1:(l.length:Int)<=(i:Int):=k1
  obtain rfl:i=l.length:=aa;exact ae (mU _ 0 l) trivial
theorem Lo(a:List (List Int)):QF 82 [.ro (.strs a),.ro (.strs a)] (.bool (.lit true)):=fN Tryz.func82 (by decide+kernel) rfl (ah rfl) λhf=>by
 have ha:a.length<=140737488355328:=hf.1;refine ae (λh1=>absurd rfl h1) (λ_=>?_);refine af []<|lp (X:=Nat) (λk=>[(13,.int .i64 k)]) (λ_=>[]) (λk=>k<=a.length) (λk=>a.length - k) 0 (ajk _) ab ?_
 intro k hk;refine ae (λh2=>?_) (λh2=>ae rfl ag);refine Or.inl<|af (ai 9) (ae (by decide+kernel) ?_)
 refine aj ?_;refine aj ?_;refine ae (λh3=>?_) (λ_=>?_)
 ·have h3:(!a.getD k []==a.getD k [])=true:=h3
  simp at h3
 refine aj ?_;exact nx (k+1) (show k+1<=a.length by omega) (show a.length - (k+1)<a.length - k by omega) ab
theorem Ci(a:List Bool):QF 83 [.ro (.aI a),.ro (.aI a)] (.bool (.lit true)):=fN Tryz.func83 (by decide+kernel) rfl (ah rfl) λhf=>by
 have ha:a.length<=140737488355328:=hf.1;refine ae (λh1=>absurd rfl h1) (λ_=>?_);refine af []<|lp (X:=Nat) (λk=>[(13,.int .i64 k)]) (λ_=>[]) (λk=>k<=a.length) (λk=>a.length - k) 0 (ajk _) ab ?_
 intro k hk;refine ae (λh2=>?_) (λh2=>ae rfl ag);refine Or.inl<|af (ai 9) (ae (by decide+kernel) ?_)
 refine aj ?_;refine aj ?_;refine ae (λh3=>?_) (λ_=>?_)
 ·have h3:(!a.getD k false==a.getD k false)=true:=h3
  simp at h3
 refine aj ?_;exact nx (k+1) (show k+1<=a.length by omega) (show a.length - (k+1)<a.length - k by omega) ab
theorem PH{s j:Nat}{F0:List Bool}{N0:List (List Int)}{l m:List Int}{R:List (List Int)}(h:nS L F N E I W Pl)(h2:L<=2)(hd:DV L s F0 N0)(hM:mH L s F0 N0 F N l R j m):QF 38 [WO L F E I W Pl] (.int .i64 0):=fN Tryz.func38 (by decide+kernel) rfl (ah rfl) λ_=>by
 have hE:=b7 E;have hf:=h.tm.pZ;refine Or.inl (cq (PD h) ab ?_);refine Or.inl (cq (PE h) ab ?_);refine Or.inr (Or.inr (ce (Lp h.YK h2 (λ_ _ _ _ _ _ V6=>by rw [(h.again h2 hd hM V6).1];exact h.n3)) ab ?_));refine Uc λF' N' E' I' W' P'=>?_;rintro⟨⟨l1,R1,j1,m1,KM⟩,hx⟩;obtain⟨rfl,rfl⟩:=h.again h2 hd hM KM;obtain⟨rfl,rfl,rfl,rfl⟩:=h.uniq ⟨h.dv,h.n3,hx⟩;refine ae (λg=>absurd rfl g) (λ_=>?_);refine ae (λg=>absurd rfl g) (λ_=>?_);refine af []<|lp (X:=Nat) (λk=>[(30,.int .i64 k)]) (λ_=>[]) (λk=>k<=(aP E').length) (λk=>(aP E').length - k) 0 (ajk _) ab ?_
 rintro k hk;refine ae (λk1=>?_) (λ_=>?_)
 ·have k1:(k:Int)<((aP E').length:Int):=k1
  refine aj ?_;refine aj ?_;refine Or.inl (cq (G6 ((aP E').getD k [])) (ae rfl (ae rfl ag)) ?_);refine aj ?_;exact nx (k+1) (show k+1<=(aP E').length by omega) (show(aP E').length - (k+1)<(aP E').length - k by omega) ab
 ·refine Or.inl (cq (Lo W') (ae rfl (ae rfl ag)) ?_)
  refine Or.inl (cq (G6 I') (ae rfl (ae rfl ag)) ?_);refine Or.inl (cq (Ci (pX F' E')) (ae rfl (ae rfl ag)) ?_);refine Or.inl (cq (Ci P') (ae rfl (ae rfl ag)) ?_);exact ae rfl trivial
theorem G8{s j:Nat}{F0:List Bool}{N0:List (List Int)}{l m:List Int}{R:List (List Int)}(h:nS L F N E I W Pl)(h2:L<=2)(hd:DV L s F0 N0)(hM:mH L s F0 N0 F N l R j m){u:List Int}(hl:u.length<=2048)(hv:E3 L u):QF 13 [WO L F E I W Pl,.str u] (.int .i64 (cI (cZ (aP E) I) 0 (jR u))):=fN Tryz.func13 (by decide+kernel) rfl (ah rfl) λ_=>by
 refine Or.inl (cq (PH h h2 hd hM) ab ?_);refine ae (λg=>absurd rfl g) (λ_=>?_);refine Or.inl (cq (PG h hl hv) ab ?_);exact ae rfl trivial
end
end Go.Proofs.YtgailjhnfghkgaaGreatDoor
