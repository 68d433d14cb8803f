import Derived.Test.YtgailjhnfghkgaaGreatDoorMinsLaw
import Derived.Test.YtgailjhnfghkgaaGreatDoorDfa
import Derived.Test.YtgailjhnfghkgaaGreatDoorCgFor
import Derived.Test.YtgailjhnfghkgaaGreatDoorCgSyn
section
namespace Go.Proofs.YtgailjhnfghkgaaGreatDoor
open Go Go.AM
set_option maxRecDepth 100000
abbrev nwS(t:List (List Int))(g c:List Int)(C:List (List Nat))(lv:List Bool):ak:=[(1001,.box [.ro (.rows .i64 t),.vec 1006,.vec 1007,.vec 505,.vec 506]),(1006,.vec 0 (.ints .i64 g) []),(1007,.vec 0 (.ints .i64 c) []),(505,.vec 0 (.rows .i64 (oB C)) []),(506,.vec 0 (.aI lv) [])]
abbrev Q0(t:List (List Int))(g:List Int)(o l c:List Int)(e:List Bool)(P:List (Nat × Nat))(K:List Nat)(C:List (List Nat))(lv:List Bool)(m:Nat):ak:=[(1000,.box [.ptr 1001 0,.vec 1002,.vec 1003,.vec 503,.vec 504,.vec 1005,.int .i64 m]),(1002,.vec 0 (.ints .i64 o) []),(1003,.vec 0 (.ints .i64 l) []),(503,.vec 0 (.aW (aQ P)) []),(504,.vec 0 (.ints .i64 (ik K)) []),(1005,.vec 0 (.aI e) []),
 (1001,.box [.ro (.rows .i64 t),.vec 1006,.vec 1007,.vec 505,.vec 506]),(1006,.vec 0 (.ints .i64 g) []),(1007,.vec 0 (.ints .i64 c) []),(505,.vec 0 (.rows .i64 (oB C)) []),(506,.vec 0 (.aI lv) [])]
theorem MZ{n a b:Nat}:((a:Int)=b->(-1:Int)=SB n a b)/\((a:Int)≠b->min (a:Int) b*n+max (a:Int) b=SB n a b):=by
 unfold SB
 constructor
 ·intro h;rw [ajq aa]
 ·intro h
  rw [ajm aa,Int.natCast_add,Int.natCast_mul,show((min a b:Nat):Int)=min (a:Int) b by omega,show((max a b:Nat):Int)=max (a:Int) b by omega]
theorem U1(t:List (List Int))(g c:List Int)(C:List (List Nat))(lv:List Bool)(hs:Sh t)(hg:∀x∈g,0<=x/\x<(t.length:Int))(v k:Nat)(hv:Gp t.length v)(hk:k<2*g.length):MF 147 [.ptr 1001 0,.int .i64 v,.int .i64 k] (nwS t g c C lv) (.int .i64 (o8 t g v k)) (nwS t g c C lv):=ui Tryz.func147 (by decide+kernel) rfl (ah rfl) λ_=>by
 obtain⟨v1,v2,v3⟩:=jn hv;have lK:k / 2<g.length:=aa;have Zh:=hg _ (al (d:=0) lK);have ko:=hs.most;have ex:(v:Int) / (t.length:Int)=((v / t.length:Nat):Int):=rfl;have ey:(v:Int) % (t.length:Int)=((v % t.length:Nat):Int):=rfl;have ek:((k:Int) / 2).toNat=k / 2:=aa;have LW:(g.getD (k / 2) 0).toNat<t.length:=aa;have rz:=hs.len LW;have rx:=hs.len v1;have ry:=hs.len v2
 have fin:∀a b:Nat,a<t.length->b<t.length->(-9223372036854775808<=min (a:Int) b*(t.length:Int)/\min (a:Int) b*(t.length:Int)<=9223372036854775807)/\ -9223372036854775808<=min (a:Int) b*(t.length:Int)+max (a:Int) b/\min (a:Int) b*(t.length:Int)+max (a:Int) b<=9223372036854775807:=λa b ha hb=>by
  have h1:min a b*t.length<=400*400:=akf aa ko;have h2:min (a:Int) b*(t.length:Int)=((min a b*t.length:Nat):Int):=by rw [Int.natCast_mul,show((min a b:Nat):Int)=min (a:Int) b by omega]
  omega
 refine Or.inl ?_;refine af (ai 17) (ae (by decide+kernel) ?_);refine aj ?_;refine Or.inl ?_;refine aj ?_;refine aj ?_;refine aj ?_;refine Or.inl ?_;refine aj ?_;refine ae (λh1=>?_) (λh1=>?_)
 ·have h1:(k:Int) % 2=0:=h1
  have e1:=hs.bF LW v1;have e2:=hs.bF LW v2;have ea:gZ t (g.getD (k / 2) 0).toNat (v / t.length) k=en t (g.getD (k / 2) 0).toNat (v / t.length):=by unfold gZ;rw [ajq aa]
  have eb:gZ t (g.getD (k / 2) 0).toNat (v % t.length) k=en t (g.getD (k / 2) 0).toNat (v % t.length):=by unfold gZ;rw [ajq aa]
  have hp:=@MZ t.length (en t (g.getD (k / 2) 0).toNat (v / t.length)) (en t (g.getD (k / 2) 0).toNat (v % t.length));rw [<-e1.1,<-e2.1]at hp;have hf:=fin _ _ e1.2 e2.2;rw [<-e1.1,<-e2.1]at hf;unfold o8;rw [ea,eb];refine Or.inr (af .UK (ae (by decide+kernel) ?_));refine ae (show 0<=g.getD (k / 2) 0/\g.getD (k / 2) 0<(t.length:Int)from Zh) ?_;refine ae ⟨aku (v / t.length),show((v / t.length:Nat):Int)<((t.getD (g.getD (k / 2) 0).toNat []).length:Int)from rz.symm▸Int.ofNat_lt.2 v1⟩ ?_;refine ae (show 0<=g.getD (k / 2) 0/\g.getD (k / 2) 0<(t.length:Int)from Zh) ?_;refine ae ⟨aku (v % t.length),show((v % t.length:Nat):Int)<((t.getD (g.getD (k / 2) 0).toNat []).length:Int)from rz.symm▸Int.ofNat_lt.2 v2⟩ ?_;refine ae (λh2=>?_) (λh2=>?_)
  ·refine ae ?_ (hp.1 h2)
   repeat' first|refine ae ?_ ?_|exact ag|(show(_:Int)=(_:Int);omega)|omega|exact rfl|(simp only [RO.len];omega)
  ·have h2:(t.getD (g.getD (k / 2) 0).toNat []).getD (v / t.length) 0≠(t.getD (g.getD (k / 2) 0).toNat []).getD (v % t.length) 0:=h2
   refine ae hf.1 ?_;refine ae hf.2 ?_;refine ae ?_ (hp.2 h2)
   repeat' first|refine ae ?_ ?_|exact ag|(show(_:Int)=(_:Int);omega)|omega|exact rfl|(simp only [RO.len];omega)
 ·have h1:(k:Int) % 2≠0:=h1
  have e1:=hs.bF v1 LW;have e2:=hs.bF v2 LW;have ea:gZ t (g.getD (k / 2) 0).toNat (v / t.length) k=en t (v / t.length) (g.getD (k / 2) 0).toNat:=by unfold gZ;rw [ajm aa]
  have eb:gZ t (g.getD (k / 2) 0).toNat (v % t.length) k=en t (v % t.length) (g.getD (k / 2) 0).toNat:=by unfold gZ;rw [ajm aa]
  have hp:=@MZ t.length (en t (v / t.length) (g.getD (k / 2) 0).toNat) (en t (v % t.length) (g.getD (k / 2) 0).toNat);rw [<-e1.1,<-e2.1]at hp;have hf:=fin _ _ e1.2 e2.2;rw [<-e1.1,<-e2.1]at hf;unfold o8;rw [ea,eb];refine Or.inr (af .UK (ae (by decide+kernel) ?_));refine ae ⟨aku (v / t.length),Int.ofNat_lt.2 v1⟩ ?_;refine ae (show 0<=g.getD (k / 2) 0/\g.getD (k / 2) 0<((t.getD (v / t.length) []).length:Int)from rx.symm▸Zh) ?_;refine ae ⟨aku (v % t.length),Int.ofNat_lt.2 v2⟩ ?_;refine ae (show 0<=g.getD (k / 2) 0/\g.getD (k / 2) 0<((t.getD (v % t.length) []).length:Int)from ry.symm▸Zh) ?_;refine ae (λh2=>?_) (λh2=>?_)
  ·refine ae ?_ (hp.1 h2)
   repeat' first|refine ae ?_ ?_|exact ag|(show(_:Int)=(_:Int);omega)|omega|exact rfl|(simp only [RO.len];omega)
  ·have h2:(t.getD (v / t.length) []).getD (g.getD (k / 2) 0).toNat 0≠(t.getD (v % t.length) []).getD (g.getD (k / 2) 0).toNat 0:=h2
   refine ae hf.1 ?_;refine ae hf.2 ?_;refine ae ?_ (hp.2 h2)
   repeat' first|refine ae ?_ ?_|exact ag|(show(_:Int)=(_:Int);omega)|omega|exact rfl|(simp only [RO.len];omega)
theorem U3(t:List (List Int))(g o l c:List Int)(e:List Bool)(P:List (Nat × Nat))(K:List Nat)(C:List (List Nat))(lv:List Bool)(m:Nat)(v:Nat)(hv:v<o.length)(hl:l.length=o.length)(_ho:o.length<=160000)(hP:P.length<=160000)(hK:K.length<=160000)(hm:m<=160000):JH TY SP Tryz.f146 [.ptr 1000 0,.int .i64 v] (Q0 t g o l c e P K C lv m) (.cL []) (Q0 t g (o.set v ((m+1:Nat):Int)) (l.set v ((m+1:Nat):Int)) c e ((v,0)::P) (v::K) C lv (m+1)):=by
 have e1:aQ P++[((v:Int),0)]=aQ ((v,0)::P):=mY (v,0) P;have e2:=Lw v K;have h1:(aQ P++[((v:Int),0)]).length=P.length+1:=by rw [e1,fR];rfl
 have h2:(ik K++[(v:Int)]).length=K.length+1:=by rw [e2,qd];rfl
 refine aj ?_;refine Or.inl ?_;refine af (ai 19++[true,false,true]) (ae (by decide+kernel) ?_);refine aj ?_;refine aj ?_;refine aj ?_;refine aj ?_;refine ae (show(((ik K++[(v:Int)]).length:Nat):Int)<=17592186044416 by omega) ?_;refine ae (show(((aQ P++[((v:Int),0)]).length:Nat):Int)<=2199023255552 by omega) ?_;refine ae ?_ trivial
 repeat' first|refine ae ?_ ?_|exact ag|exact ajs RO.aW e1|exact ajs (RO.ints .i64) e2|(show(_:Int)=(_:Int);omega)|omega|exact rfl|(simp only [RO.len];omega)
theorem HJ(t:List (List Int))(g o l c:List Int)(e:List Bool)(P:List (Nat × Nat))(K:List Nat)(C:List (List Nat))(lv:List Bool)(m:Nat)(v:Nat)(hv:v<o.length)(hl:l.length=o.length)(ho:o.length<=160000)(hP:P.length<=160000)(hK:K.length<=160000)(hm:m<=160000):MF 146 [.ptr 1000 0,.int .i64 v] (Q0 t g o l c e P K C lv m) (.cL []) (Q0 t g (o.set v ((m+1:Nat):Int)) (l.set v ((m+1:Nat):Int)) c e ((v,0)::P) (v::K) C lv (m+1)):=ui Tryz.func146 (by decide+kernel) rfl (ah rfl) λ_=>U3 t g o l c e P K C lv m v hv hl ho hP hK hm
set_option maxHeartbeats 4000000 in
theorem JY(t:List (List Int))(g o l c:List Int)(e:List Bool)(P:List (Nat × Nat))(A:List Nat)(v:Nat)(B:List Nat)(C:List (List Nat))(lv:List Bool)(m:Nat)(hA:v∉A)(fg:∀u∈v::A.reverse,u<c.length/\u<e.length)(hl:A.length+B.length<4096)(hC:C.length<=160000)(WR:lv.length=C.length):
  MF 148 [.ptr 1000 0,.int .i64 v] (Q0 t g o l c e P (A++v::B) C lv m) (.cL []) (Q0 t g o l (c5 c C.length (v::A.reverse)) e P B (C++[v::A.reverse]) (lv++[mJ e (v::A.reverse)]) m):=ui Tryz.func148 (by decide+kernel) rfl (ah rfl) λ_=>by
 have hlen:(ik (A++v::B)).length=A.length+B.length+1:=by rw [qd];simp;omega
 have hdr:=Lx A v B;have uM:=Ly A v B;have xP:∀{j:Nat},j<=A.length->(ik (A++v::B)).getD (B.length+j) 0=(((v::A.reverse).getD j 0:Nat):Int):=λhj=>Ui A v B hj;have O1:(pU (v::A.reverse)).length=A.length+1:=by rw [Ad];simp
 refine aj ?_;refine af []<|lp (X:=Nat) (λj=>[(4,.int .i64 ((B.length+j:Nat):Int))]) (λ_=>[]) (λj=>j<=A.length) (λj=>j) A.length (ajl _) (by repeat' first|refine ae ?_ ?_|exact ag|(show(_:Int)=(_:Int);omega)|omega|exact rfl) ?_
 intro j hj;refine aj ?_;refine ae (λh1=>?_) (λh1=>?_)
 ·have h1:(ik (A++v::B)).getD (B.length+j) 0≠(v:Int):=h1
  have EW:j≠0:=λe1=>by subst e1;rw [xP (ajk _)]at h1;exact h1 rfl
  refine aj ?_;exact nx (j - 1) (show j - 1<=A.length by omega) (show j - 1<j by omega) ab
 ·have h1:(ik (A++v::B)).getD (B.length+j) 0=(v:Int):=h1
  have EW:j=0:=by
   rw [xP hj]at h1;cases j with
   |zero=>rfl
   |succ j=>
    exfalso;have h2:(v::A.reverse).getD (j+1) 0=v:=aa;have h3:A.reverse.getD j 0=v:=h2;have h4:A.reverse.getD j 0∈A.reverse:=al (by rw [List.length_reverse];omega);rw [h3]at h4;exact hA (List.mem_reverse.1 h4)
  subst EW;have aaA:List.drop B.length (List.take (ik (A++v::B)).length (ik (A++v::B)))=pU (v::A.reverse):=by rw [List.take_length];exact hdr
  refine aj ?_;refine Or.inl ?_;refine aj ?_;refine cq (lu (pU (v::A.reverse)) aa) (ae (by exact ajs (RO.ints .i64) aaA) ag) ?_;refine aj ?_;refine Or.inr ?_;refine af []<|lp (X:=Nat) (λi=>[(44,.int .i64 i),(6,.bool (.v (mJ e ((v::A.reverse).take i))))]) (λi=>[(1007,.vec 0 (.ints .i64 (c5 c C.length ((v::A.reverse).take i))) [])]) (λi=>i<=A.length+1) (λi=>A.length+1 - i) 0 (ajk _) (by repeat' first|refine ae ?_ ?_|exact ag|(show(_:Int)=(_:Int);omega)|omega|exact rfl) ?_
  intro i hi;have YN:∀i,i<A.length+1->(v::A.reverse).getD i 0∈v::A.reverse:=λi hi=>al (by simp;omega);refine ae (λh2=>?_) (λh2=>?_)
  ·have h2:(i:Int)<((pU (v::A.reverse)).length:Int):=h2
   have bD:i<A.length+1:=aa;have hu:=fg _ (YN i bD);have hg:(pU (v::A.reverse)).getD i 0=(((v::A.reverse).getD i 0:Nat):Int):=uA (by simp;omega)
   have XK:(v::A.reverse).take (i+1)=(v::A.reverse).take i++[(v::A.reverse).getD i 0]:=by
    rw [List.take_add_one,ajP (by simp;omega)];simp [List.getD,bD]
   have gv:=vj c C.length ((v::A.reverse).take i);have es:(c5 c C.length ((v::A.reverse).take i)).set ((pU (v::A.reverse)).getD i 0).toNat ((oB C).length:Int)=c5 c C.length ((v::A.reverse).take (i+1)):=by rw [XK,Cm,hg,vh];rfl
   have ea:mJ e ((v::A.reverse).take (i+1))=(mJ e ((v::A.reverse).take i)||e.getD ((pU (v::A.reverse)).getD i 0).toNat false):=by rw [XK,I0,hg];rfl
   refine aj ?_;refine Or.inl ?_;refine af (ai 17++[true]) (ae (by decide+kernel) ?_);refine ae (show 0<=(pU (v::A.reverse)).getD i 0/\(pU (v::A.reverse)).getD i 0<((c5 c C.length ((v::A.reverse).take i)).length:Int) by omega) ?_;refine ae (show((0:Nat):Int)<=(pU (v::A.reverse)).getD i 0 by omega) ?_;refine ae (λh3=>?_) (λh3=>?_)
   ·have h3:mJ e ((v::A.reverse).take i)=true:=h3
    rw [h3,Bool.true_or]at ea;refine aj ?_;exact nx (i+1) (show i+1<=A.length+1 by omega) (show A.length+1 - (i+1)<A.length+1 - i by omega) (by repeat' first|refine ae ?_ ?_|exact ag|exact ajs (RO.ints .i64) es|exact ea.symm|(show(_:Int)=(_:Int);omega)|omega|exact rfl)
   ·have h3:mJ e ((v::A.reverse).take i)=false:=h3
    rw [h3,Bool.false_or]at ea;refine ae (show 0<=(pU (v::A.reverse)).getD i 0/\(pU (v::A.reverse)).getD i 0<(e.length:Int) by omega) ?_;refine aj ?_;exact nx (i+1) (show i+1<=A.length+1 by omega) (show A.length+1 - (i+1)<A.length+1 - i by omega) (by repeat' first|refine ae ?_ ?_|exact ag|exact ajs (RO.ints .i64) es|exact ea.symm|(show(_:Int)=(_:Int);omega)|omega|exact rfl)
  ·have h2:((pU (v::A.reverse)).length:Int)<=(i:Int):=h2
   have et:(v::A.reverse).take i=v::A.reverse:=aj4 (by simp;omega);have s3:((oB C)++[pU (v::A.reverse)]).length=C.length+1:=by rw [ajp,vh];rfl
   have mX:(lv++[mJ e ((v::A.reverse).take i)]).length=C.length+1:=by rw [ajp,WR];rfl
   refine Or.inr (af (.fst 0 (.fst 1 (.fst 2 (.fst 4 (.fst 5 (.fst 6 (.fst 11 (.br 3 (.br 7 (.fst 8 (.fst 9 (.br 10 (.br 12 (.br 13 (.fst 14 (.fst 15 (.br 16 .done .no))) .no) .no) (.br 12 (.br 10 (.br 13 (.fst 14 (.fst 15 (.br 16 .done .no))) .no) .no) .no)))) (.br 12 (.br 7 (.fst 8 (.fst 9 (.br 10 (.br 13 (.fst 14 (.fst 15 (.br 16 .done .no))) .no) .no))) .no) .no)) (.br 7 (.fst 8 (.fst 9 (.br 3 (.br 10 (.br 12 (.br 13 (.fst 14 (.fst 15 (.br 16 .done .no))) .no) .no) (.br 12 (.br 10 (.br 13 (.fst 14 (.fst 15 (.br 16 .done .no))) .no) .no) .no)) (.br 10 (.br 3 (.br 12 (.br 13 (.fst 14 (.fst 15 (.br 16 .done .no))) .no) .no) (.br 12 (.br 3 (.br 13 (.fst 14 (.fst 15 (.br 16 .done .no))) .no) (.br 13 (.br 3 (.fst 14 (.fst 15 (.br 16 .done .no))) .no) .no)) .no)) (.br 12 (.br 3 (.br 10 (.br 13 (.fst 14 (.fst 15 (.br 16 .done .no))) .no) .no) (.br 10 (.br 3 (.br 13 (.fst 14 (.fst 15 (.br 16 .done .no))) .no) (.br 13 (.br 3 (.fst 14 (.fst 15 (.br 16 .done .no))) .no) .no)) .no)) .no))))) (.br 12 (.br 3 (.br 7 (.fst 8 (.fst 9 (.br 10 (.br 13 (.fst 14 (.fst 15 (.br 16 .done .no))) .no) .no))) .no) (.br 7 (.fst 8 (.fst 9 (.br 3 (.br 10 (.br 13 (.fst 14 (.fst 15 (.br 16 .done .no))) .no) .no) (.br 10 (.br 3 (.br 13 (.fst 14 (.fst 15 (.br 16 .done .no))) .no) (.br 13 (.br 3 (.fst 14 (.fst 15 (.br 16 .done .no))) .no) .no)) .no)))) .no)) .no)))))))))) (ae (by decide+kernel) ?_));apply pn
   ·intro K hK
    repeat' first|refine ae ?_ ?_|exact ag|exact hK|(show(((oB C++[pU (v::A.reverse)]).length:Nat):Int)<=2199023255552;omega)
   ·refine Or.inr (af (.fst 0 (.fst 1 (.fst 2 (.fst 4 (.fst 5 (.fst 6 (.fst 11 (.br 3 (.br 7 (.fst 8 (.fst 9 (.br 10 (.br 12 (.br 13 (.fst 14 (.fst 15 (.br 16 .done .no))) .no) .no) (.br 12 (.br 10 (.br 13 (.fst 14 (.fst 15 (.br 16 .done .no))) .no) .no) .no)))) (.br 12 (.br 7 (.fst 8 (.fst 9 (.br 10 (.br 13 (.fst 14 (.fst 15 (.br 16 .done .no))) .no) .no))) .no) .no)) (.br 7 (.fst 8 (.fst 9 (.br 3 (.br 10 (.br 12 (.br 13 (.fst 14 (.fst 15 (.br 16 .done .no))) .no) .no) (.br 12 (.br 10 (.br 13 (.fst 14 (.fst 15 (.br 16 .done .no))) .no) .no) .no)) (.br 10 (.br 3 (.br 12 (.br 13 (.fst 14 (.fst 15 (.br 16 .done .no))) .no) .no) (.br 12 (.br 3 (.br 13 (.fst 14 (.fst 15 (.br 16 .done .no))) .no) (.br 13 (.br 3 (.fst 14 (.fst 15 (.br 16 .done .no))) .no) .no)) .no)) (.br 12 (.br 3 (.br 10 (.br 13 (.fst 14 (.fst 15 (.br 16 .done .no))) .no) .no) (.br 10 (.br 3 (.br 13 (.fst 14 (.fst 15 (.br 16 .done .no))) .no) (.br 13 (.br 3 (.fst 14 (.fst 15 (.br 16 .done .no))) .no) .no)) .no)) .no))))) (.br 12 (.br 3 (.br 7 (.fst 8 (.fst 9 (.br 10 (.br 13 (.fst 14 (.fst 15 (.br 16 .done .no))) .no) .no))) .no) (.br 7 (.fst 8 (.fst 9 (.br 3 (.br 10 (.br 13 (.fst 14 (.fst 15 (.br 16 .done .no))) .no) .no) (.br 10 (.br 3 (.br 13 (.fst 14 (.fst 15 (.br 16 .done .no))) .no) (.br 13 (.br 3 (.fst 14 (.fst 15 (.br 16 .done .no))) .no) .no)) .no)))) .no)) .no)))))))))) (ae (by decide+kernel) ?_))
    apply pn
    ·intro K hK
     repeat' first|refine ae ?_ ?_|exact ag|exact hK|(show(((lv++[mJ e ((v::A.reverse).take i)]).length:Nat):Int)<=17592186044416;omega)
    ·have q1:c5 c C.length ((v::A.reverse).take i)=c5 c C.length (v::A.reverse):=by rw [et]
     have q2:oB C++[pU (v::A.reverse)]=oB (C++[v::A.reverse]):=PK C _;have q3:lv++[mJ e ((v::A.reverse).take i)]=lv++[mJ e (v::A.reverse)]:=by rw [et]
     refine ae ?_ trivial
     repeat' first|refine ae ?_ ?_|exact ag|exact ajs (RO.ints .i64) q1|exact ajs (RO.rows .i64) q2|exact ajs RO.aI q3|exact ajs (RO.ints .i64) uM|omega|exact rfl
set_option maxHeartbeats 4000000 in
theorem Q1(t:List (List Int))(g o0 l0 c0:List Int)(e0:List Bool)(C0:List (List Nat))(lv0:List Bool)(m0 v:Nat)(hs:Sh t)(ht:t.length<=60)(hg:∀x∈g,0<=x/\x<(t.length:Int))(ug:g.length<=t.length)(h0:Vs t g o0 l0 c0 e0 [] [] C0 lv0 m0)(hv:Gp t.length v)(ig:my o0 v=0):
  NF 106 [.ptr 1000 0,.int .i64 v] (Q0 t g o0 l0 c0 e0 [] [] C0 lv0 m0) (λ_:List Int × List Int × List Int × List Bool × List (List Nat) × List Bool × Nat=>.cL []) (Hn λo l c e C lv m=>Q0 t g o l c e [] [] C lv m) (Hn λo l c e C lv m=>VOk t g o0 v o l c e C lv m):=XL Tryz.func106 (by decide+kernel) rfl (ah rfl) λ_=>by
 have Wx:t.length*t.length<=3600:=akf ht ht;have M4:=h0.ol;have oO:=h0.ll;have EM:=h0.ZM;have Pj:=hv.1;have h1:=h0.enter hv ig (.inl ⟨rfl,rfl⟩);refine Or.inr (Or.inl (cm [] [(1000,1000),(1002,1002),(1003,1003),(503,503),(504,504),(1005,1005),(1001,1001),(1006,1006),(1007,1007),(505,505),(506,506)] (HJ t g o0 l0 c0 e0 [] [] C0 lv0 m0 v aa aa aa (ajk _) (ajk _) aa) ?_));refine ae ab ?_;refine af []<|lp9 (λ(_ _ _:List Int) (_:List Bool) (_:List (Nat × Nat)) (_:List Nat) (_:List (List Nat)) (_:List Bool) (_:Nat)=>[]) (λo l c e P K C lv m=>Q0 t g o l c e P K C lv m) (λo l c e P K C lv m=>Vs t g o l c e P K C lv m/\(∀u,my o0 u≠0->my o u≠0)/\my o v≠0) (λ_ _ _ _ P _ _ _ m=>EO (t.length*t.length) (2*g.length) P m) _ _ c0 e0 [(v,0)] [v] C0 lv0 (m0+1) ⟨h1,λu hu=>?_,?_⟩ ab ?_
 ·rw [ka aa]
  by_cases e1:u=v
  ·subst e1;rw [dW];omega
  ·rw [dh e1];exact hu
 ·rw [ka aa,dW];omega
 intro o l c e P K C lv m hi;have To:=hi.1;have qZ:=hi.2.1;have Du:=hi.2.2;have hb:=To.ZM;have aec:=To.ol;have aed:=To.ll;have aaB:=To.cl;have aee:=To.el;refine ae (λh1=>?_) (λh1=>?_)
 ·have h1:(0:Int)<((aQ P).length:Int):=h1
  rw [fR]at h1
  have hP:∃p k r,P=(p,k)::r:=by
   cases P with
   |nil=>simp at h1
   |cons q r=>exact⟨q.1,q.2,r,rfl⟩
  refine Exists.elim hP λp hP=>Exists.elim hP λk hP=>Exists.elim hP λr hP=>?_;have K7:Vs t g o l c e ((p,k)::r) K C lv m:=hP▸To;have gw:=K7.gp;have oG:=(K7.tj.rV _ (ajn ..)).2;have oG:k<=2*g.length:=oG;have hlen:(aQ P).length=r.length+1:=by rw [hP,fR];rfl
  have M5:r.length+1=P.length:=by rw [hP];rfl
  have xR:(aQ P).getD r.length (0,0)=((p:Int),(k:Int)):=by rw [hP];exact vi (p,k) r
  have etn:(((aQ P).length:Int) - 1).toNat=r.length:=aa;refine Or.inl ?_;refine af (ai 12) (ae (by decide+kernel) ?_);refine ae (show -9223372036854775808<=((aQ P).length:Int) - 1/\((aQ P).length:Int) - 1<=9223372036854775807 by omega) ?_;refine aj ?_;have ek:cB 1 ((aQ P).getD r.length (0,0))=(k:Int):=by rw [xR];rfl
  have ep:cB 0 ((aQ P).getD r.length (0,0))=(p:Int):=by rw [xR];rfl
  have O1:r.length<(aQ P).length:=aa;have ek0:cB 1 ((aQ P).getD (((aQ P).length:Int) - 1).toNat (0,0))=(k:Int):=by rw [etn];exact ek
  have ep0:cB 0 ((aQ P).getD (((aQ P).length:Int) - 1).toNat (0,0))=(p:Int):=by rw [etn];exact ep
  refine Or.inl ?_;refine af (ai 14) (ae (by decide+kernel) ?_);refine aj ?_;refine ae (λh2=>?_) (λh2=>?_)
  ·have h2:cB 1 ((aQ P).getD (((aQ P).length:Int) - 1).toNat (0,0))<2*(g.length:Int):=h2
   have hk:k<2*g.length:=aa;refine Or.inr (af (.fst 0 (.fst 1 (.fst 2 (.fst 4 (.fst 5 (.fst 6 (.fst 7 (.br 3 (.br 8 (.br 9 (.fst 10 .done) .no) .no) (.br 8 (.br 3 (.br 9 (.fst 10 .done) .no) .no) .no))))))))) (ae (by decide+kernel) ?_));apply pn
   ·intro K1 hK
    refine ae (ae (ae ?_ ag) ag) (ae (ae (ae ?_ ag) ag) ag)
    all_goals
     refine Or.inr (Or.inl (cm [] [(1001,1001),(1006,1006),(1007,1007),(505,505),(506,506)] (U1 t g c C lv hs hg p k gw.1 hk) ?_));refine ae (by repeat' first|refine ae ?_ ?_|exact ag|exact ek0|exact ep0|(show(_:Int)=(_:Int);omega)|omega|exact rfl) ?_;exact hK
   ·have eset:(aQ P).set (((aQ P).length:Int) - 1).toNat (tu 1 ((aQ P).getD (((aQ P).length:Int) - 1).toNat (0,0)) (cB 1 ((aQ P).getD (((aQ P).length:Int) - 1).toNat (0,0))+1))=aQ ((p,k+1)::r):=by
     rw [ek0,etn,xR,hP];exact PL (p,k) (p,k+1) r
    have epn:(cB 0 ((aQ P).getD (((aQ P).length:Int) - 1).toNat (0,0))).toNat=p:=by rw [ep0];rfl
    have hme:EO (t.length*t.length) (2*g.length) ((p,k+1)::r) m<EO (t.length*t.length) (2*g.length) P m:=by rw [hP];exact LA hk
    refine aj ?_;refine aj ?_;refine ae (λh3=>?_) (λh3=>?_)
    ·have h3:o8 t g p k<0:=h3
     exact nx (o,l,c,e,(p,k+1)::r,K,C,lv,m) ⟨K7.none hk h3,qZ,Du⟩ hme (by repeat' first|refine ae ?_ ?_|exact ag|exact ajs RO.aW eset|(show(_:Int)=(_:Int);omega)|omega|exact rfl)
    ·have h3:0<=o8 t g p k:=h3
     refine Exists.elim (Int.eq_ofNat_of_zero_le h3) λw hw=>?_;have hgw:=SC hs hg gw.1 hk hw;have US:=hgw.1;have ewn:(o8 t g p k).toNat=w:=aa;refine ae (show 0<=o8 t g p k/\o8 t g p k<(o.length:Int) by omega) ?_;refine ae (λh4=>?_) (λh4=>?_)
     ·have h4:o.getD (o8 t g p k).toNat 0=0:=h4
      rw [ewn]at h4;have hVe:=K7.enter hgw h4 (.inr ⟨p,k,r,rfl,hk,hw,rfl⟩);have Q2:=hb.2.1 w hgw h4;refine Or.inr (Or.inl (cm [] [(1000,1000),(1002,1002),(1003,1003),(503,503),(504,504),(1005,1005),(1001,1001),(1006,1006),(1007,1007),(505,505),(506,506)] (HJ t g o l c e ((p,k+1)::r) K C lv m w aa aa aa (by simp only [ajY];omega) aa aa) ?_));refine ae (by repeat' first|refine ae ?_ ?_|exact ag|exact hw|exact ajs RO.aW eset|(show(_:Int)=(_:Int);omega)|omega|exact rfl) ?_;refine nx (o.set w ((m+1:Nat):Int),l.set w ((m+1:Nat):Int),c,e,(w,0)::(p,k+1)::r,w::K,C,lv,m+1) ⟨hVe,λu hu=>?_,?_⟩ (by show EO (t.length*t.length) (2*g.length) ((w,0)::(p,k+1)::r) (m+1)<EO (t.length*t.length) (2*g.length) P m;rw [hP];exact I4 Q2 hk) ab
      ·show my (o.set w _) u≠0
       rw [ka aa]
       by_cases e1:u=w
       ·subst e1;rw [dW];omega
       ·rw [dh e1];exact qZ u hu
      ·show my (o.set w _) v≠0
       rw [ka aa]
       by_cases e1:v=w
       ·subst e1;rw [dW];omega
       ·rw [dh e1];exact Du
     ·have h4:o.getD (o8 t g p k).toNat 0≠0:=h4
      rw [ewn]at h4;refine ae (show 0<=o8 t g p k/\o8 t g p k<(c.length:Int) by omega) ?_;refine ae (λh5=>?_) (λh5=>?_)
      ·have h5:c.getD (o8 t g p k).toNat 0<0:=h5
       rw [ewn,yy aa]at h5;have hVb:=K7.back hk hw h4 h5;have eb:l.set (cB 0 ((aQ P).getD (((aQ P).length:Int) - 1).toNat (0,0))).toNat (min (l.getD (cB 0 ((aQ P).getD (((aQ P).length:Int) - 1).toNat (0,0))).toNat 0) (o.getD (o8 t g p k).toNat 0))=l.set p (min (l.getD p 0) (o.getD w 0)):=by rw [epn,ewn]
       refine Or.inl ?_;refine af (ai 21++[true]) (ae (by decide+kernel) ?_);refine aj ?_;refine ae (show 0<=o8 t g p k/\o8 t g p k<(o.length:Int) by omega) ?_;refine aj ?_;refine aj ?_;exact nx (o,l.set p (min (l.getD p 0) (o.getD w 0)),c,e,(p,k+1)::r,K,C,lv,m) ⟨hVb,qZ,Du⟩ hme (by repeat' first|refine ae ?_ ?_|exact ag|exact ajs RO.aW eset|exact ajs (RO.ints .i64) eb|(show(_:Int)=(_:Int);omega)|omega|exact rfl)
      ·have h5:0<=c.getD (o8 t g p k).toNat 0:=h5
       rw [ewn,yy aa]at h5;have hVa:=K7.Ud hk hw h5;have ea:e.set (cB 0 ((aQ P).getD (((aQ P).length:Int) - 1).toNat (0,0))).toNat true=e.set p true:=by rw [epn]
       refine aj ?_;refine aj ?_;exact nx (o,l,c,e.set p true,(p,k+1)::r,K,C,lv,m) ⟨hVa,qZ,Du⟩ hme (by repeat' first|refine ae ?_ ?_|exact ag|exact ajs RO.aW eset|exact ajs RO.aI ea|(show(_:Int)=(_:Int);omega)|omega|exact rfl)
  ·have h2:2*(g.length:Int)<=cB 1 ((aQ P).getD (((aQ P).length:Int) - 1).toNat (0,0)):=h2
   have hk:2*g.length<=k:=aa;refine Or.inl ?_;refine af (ai 11++[true,false,false,true]) (ae (by decide+kernel) ?_);have epn:(cB 0 ((aQ P).getD (((aQ P).length:Int) - 1).toNat (0,0))).toNat=p:=by rw [ep0];rfl
   have epop:(List.drop 0 (List.take (((aQ P).length:Int) - 1).toNat (aQ P)))=aQ r:=by rw [etn,hP];exact PM (p,k) r
   have z8:EO (t.length*t.length) (2*g.length) r m<EO (t.length*t.length) (2*g.length) P m:=by rw [hP];exact PN aa
   refine aj ?_;refine aj ?_;refine Or.inr ?_;refine Or.inl ?_;refine af (ai 15) (ae (by decide+kernel) ?_);refine aj ?_;refine aj ?_;refine ae (λh3=>?_) (λh3=>?_)
   ·have h3:l.getD (cB 0 ((aQ P).getD (((aQ P).length:Int) - 1).toNat (0,0))).toNat 0=o.getD (cB 0 ((aQ P).getD (((aQ P).length:Int) - 1).toNat (0,0))).toNat 0:=h3
    rw [epn]at h3;refine Exists.elim K7.split λA hA=>Exists.elim hA λB Tp=>?_;have eK:=Tp.1;have hVk:Vs t g o l c e ((p,k)::r) (A++p::B) C lv m:=eK▸K7;have hVc:=hVk.close hk h3 Tp.2.2.2.1 (by rw [<-eK];exact Tp.2.2.2.2.1) Tp.2.2.2.2.2 Tp.2.2.1;have hKl:K.length=A.length+B.length+1:=by rw [eK,ajp,ajY];omega
    have ecl:(c5 c C.length (p::A.reverse)).length=t.length*t.length:=hVc.cl
    have hcp:(c5 c C.length (p::A.reverse)).getD p 0=(C.length:Int):=by
     rw [yy aa,o9 λu hu=>(Tp.2.2.1 u hu).1,ajq (ajn ..)]
    refine Or.inr (Or.inl (cm [] [(1000,1000),(1002,1002),(1003,1003),(503,503),(504,504),(1005,1005),(1001,1001),(1006,1006),(1007,1007),(505,505),(506,506)] (JY t g o l c e r A p B C lv m Tp.2.1 Tp.2.2.1 aa aa hb.2.2.2.2.2) ?_));refine ae (by repeat' first|refine ae ?_ ?_|exact ag|exact ep0|exact ajs RO.aW epop|exact ajs (λz=>RO.ints .i64 (ik z)) eK|(show(_:Int)=(_:Int);omega)|omega|exact rfl) ?_;refine ae (λh4=>?_) (λh4=>?_)
    ·have h4:(0:Int)<((aQ r).length:Int):=h4
     rw [fR]at h4
     have hR:∃p2 j r2,r=(p2,j)::r2:=by
      cases r with
      |nil=>simp at h4
      |cons q r=>exact⟨q.1,q.2,r,rfl⟩
     refine Exists.elim hR λp2 hR=>Exists.elim hR λj hR=>Exists.elim hR λr2 hR=>?_;have hlr:(aQ r).length=r2.length+1:=by rw [hR,fR];rfl
     have aaG:r2.length+1=r.length:=by rw [hR];rfl
     have epar:cB 0 ((aQ r).getD (((aQ r).length:Int) - 1).toNat (0,0))=(p2:Int):=by
      rw [show(((aQ r).length:Int) - 1).toNat=r2.length by omega,hR,vi (p2,j) r2];rfl
     have GO:p2<t.length*t.length:=by
      have:=K7.tj.od _ (K7.tj.rV (p2,j) (by rw [hR];exact ajj _ (ajn ..))).1.1;exact this.1
     have eex:e.set (cB 0 ((aQ r).getD (((aQ r).length:Int) - 1).toNat (0,0))).toNat true=V7 e r:=by rw [epar,hR];rfl
     refine Or.inl ?_;refine af (ai 14) (ae (by decide+kernel) ?_);refine aj ?_;refine aj ?_;refine ae (show 0<=cB 0 ((aQ P).getD (((aQ P).length:Int) - 1).toNat (0,0))/\cB 0 ((aQ P).getD (((aQ P).length:Int) - 1).toNat (0,0))<((c5 c C.length (p::A.reverse)).length:Int) by omega) ?_;refine ae (λh5=>?_) (λh5=>?_)
     ·have h5:(c5 c C.length (p::A.reverse)).getD (cB 0 ((aQ P).getD (((aQ P).length:Int) - 1).toNat (0,0))).toNat 0<0:=h5
      rw [epn,hcp]at h5;exact absurd h5 aa
     ·refine ae (show 0<=cB 0 ((aQ r).getD (((aQ r).length:Int) - 1).toNat (0,0))/\cB 0 ((aQ r).getD (((aQ r).length:Int) - 1).toNat (0,0))<(e.length:Int) by omega) ?_
      refine ae (show((0:Nat):Int)<=cB 0 ((aQ r).getD (((aQ r).length:Int) - 1).toNat (0,0)) by omega) ?_;exact nx (o,l,c5 c C.length (p::A.reverse),V7 e r,r,B,C++[p::A.reverse],lv++[mJ e (p::A.reverse)],m) ⟨hVc,qZ,Du⟩ z8 (by repeat' first|refine ae ?_ ?_|exact ag|exact ajs RO.aI eex|(show(_:Int)=(_:Int);omega)|omega|exact rfl)
    ·have h4:((aQ r).length:Int)<=0:=h4
     rw [fR]at h4
     have eex:e=V7 e r:=by
      cases r with
      |nil=>rfl
      |cons q r=>simp at h4;omega
     exact nx (o,l,c5 c C.length (p::A.reverse),V7 e r,r,B,C++[p::A.reverse],lv++[mJ e (p::A.reverse)],m) ⟨hVc,qZ,Du⟩ z8 (by repeat' first|refine ae ?_ ?_|exact ag|exact ajs RO.aI eex|(show(_:Int)=(_:Int);omega)|omega|exact rfl)
   ·have h3:l.getD (cB 0 ((aQ P).getD (((aQ P).length:Int) - 1).toNat (0,0))).toNat 0≠o.getD (cB 0 ((aQ P).getD (((aQ P).length:Int) - 1).toNat (0,0))).toNat 0:=h3
    rw [epn]at h3;refine Exists.elim (K7.Uf hk h3) λp2 hf=>Exists.elim hf λj hf=>Exists.elim hf λr2 hf=>?_;have hR:=hf.1;have GO:=hf.2.2.1;have hVf:=hf.2.2.2;have hlr:(List.drop 0 (List.take (((aQ P).length:Int) - 1).toNat (aQ P))).length=r2.length+1:=by rw [epop,hR,fR];rfl
    have aaG:r2.length+1=r.length:=by rw [hR];rfl
    have epar:cB 0 ((List.drop 0 (List.take (((aQ P).length:Int) - 1).toNat (aQ P))).getD (((List.drop 0 (List.take (((aQ P).length:Int) - 1).toNat (aQ P))).length:Int) - 1).toNat (0,0))=(p2:Int):=by
     rw [show(((List.drop 0 (List.take (((aQ P).length:Int) - 1).toNat (aQ P))).length:Int) - 1).toNat=r2.length by omega,epop,hR,vi (p2,j) r2];rfl
    have epan:(cB 0 ((List.drop 0 (List.take (((aQ P).length:Int) - 1).toNat (aQ P))).getD (((List.drop 0 (List.take (((aQ P).length:Int) - 1).toNat (aQ P))).length:Int) - 1).toNat (0,0))).toNat=p2:=by rw [epar];rfl
    have hcp:c.getD p 0<0:=by rw [yy aa];exact(K7.tj.rV _ (ajn ..)).1.2
    have elo:l.set (cB 0 ((List.drop 0 (List.take (((aQ P).length:Int) - 1).toNat (aQ P))).getD (((List.drop 0 (List.take (((aQ P).length:Int) - 1).toNat (aQ P))).length:Int) - 1).toNat (0,0))).toNat (min (l.getD (cB 0 ((List.drop 0 (List.take (((aQ P).length:Int) - 1).toNat (aQ P))).getD (((List.drop 0 (List.take (((aQ P).length:Int) - 1).toNat (aQ P))).length:Int) - 1).toNat (0,0))).toNat 0) (l.getD (cB 0 ((aQ P).getD (((aQ P).length:Int) - 1).toNat (0,0))).toNat 0))=l.set p2 (min (l.getD p2 0) (l.getD p 0)):=by rw [epan,epn]
    refine ae (λh4=>?_) (λh4=>?_)
    ·refine Or.inl ?_
     refine af (ai 14) (ae (by decide+kernel) ?_);refine ae (show -9223372036854775808<=((List.drop 0 (List.take (((aQ P).length:Int) - 1).toNat (aQ P))).length:Int) - 1/\((List.drop 0 (List.take (((aQ P).length:Int) - 1).toNat (aQ P))).length:Int) - 1<=9223372036854775807 by omega) ?_;refine ae (show 0<=((List.drop 0 (List.take (((aQ P).length:Int) - 1).toNat (aQ P))).length:Int) - 1/\((List.drop 0 (List.take (((aQ P).length:Int) - 1).toNat (aQ P))).length:Int) - 1<((List.drop 0 (List.take (((aQ P).length:Int) - 1).toNat (aQ P))).length:Int) by omega) ?_;refine aj ?_;refine ae (λh5=>?_) (λh5=>?_)
     ·refine Or.inl ?_
      refine af (ai 21++[true]) (ae (by decide+kernel) ?_);refine aj ?_;refine aj ?_;refine aj ?_;refine aj ?_;exact nx (o,l.set p2 (min (l.getD p2 0) (l.getD p 0)),c,e,r,K,C,lv,m) ⟨hVf,qZ,Du⟩ z8 (by repeat' first|refine ae ?_ ?_|exact ag|exact ajs RO.aW epop|exact ajs (RO.ints .i64) elo|(show(_:Int)=(_:Int);omega)|omega|exact rfl)
     ·have h5:0<=c.getD (cB 0 ((aQ P).getD (((aQ P).length:Int) - 1).toNat (0,0))).toNat 0:=h5
      rw [epn]at h5;exact absurd h5 aa
    ·have h4:((List.drop 0 (List.take (((aQ P).length:Int) - 1).toNat (aQ P))).length:Int)<=0:=h4
     exact absurd h4 aa
 ·have h1:((aQ P).length:Int)<=0:=h1
  rw [fR]at h1;have hP:P=[]:=akj aa;have hK:K=[]:=(Tj.WU (hP▸To.tj)).1;have hVn:Vs t g o l c e [] [] C lv m:=by rw [<-hP];exact(hK▸To:Vs t g o l c e P [] C lv m)
  have eP:aQ P=aQ []:=by rw [hP]
  have eK:ik K=ik []:=by rw [hK]
  refine af (o,l,c,e,C,lv,m) (ae ⟨hVn,qZ,Du⟩ ?_);refine ae ?_ trivial
  repeat' first|refine ae ?_ ?_|exact ag|exact ajs RO.aW eP|exact ajs (RO.ints .i64) eK|(show(_:Int)=(_:Int);omega)|omega|exact rfl
theorem M6{TY:List cV}{F:Go.AM.Spec}{ops:List Oper}{t:Ho}{X:Type}{ok:X->Prop}{T0:List AV}{S0:ak}{T T':X->List AV}{S S':X->ak}{Q:List AV->ak->Prop}(h:∀K:List AV->ak->Prop,(∀z,ok z->K (T z) (S z))->(∀z,ok z->K (T' z) (S' z))->qD TY F ops t T0 S0 K)(hq:∀z,ok z->Q (T z) (S z))(Ac:∀z,ok z->Q (T' z) (S' z)):qD TY F ops t T0 S0 Q:=h Q hq Ac
abbrev nwF(k:Nat)(t:List (List Int))(g c:List Int)(C:List (List Nat))(lv:List Bool):ak:=[(k,.box [.ro (.rows .i64 t),.ro (.ints .i64 g),.ro (.ints .i64 c),.ro (.rows .i64 (oB C)),.ro (.aI lv)])]
set_option maxHeartbeats 4000000 in
theorem Q3(t:List (List Int))(hs:Sh t)(ht:t.length<=60):NF 66 [.ro (.rows .i64 t)] [] (λ_:List Int × List Int × List (List Nat) × List Bool=>.ptr 19 0) (B4 λg c C lv=>nwF 19 t g c C lv) (B4 λg c C lv=>cF t g c C lv):=XL Tryz.func66 (by decide+kernel) rfl (ah rfl) λ_=>by
 have Wx:t.length*t.length<=3600:=akf ht ht;have hmul:(t.length:Int)*(t.length:Int)=((t.length*t.length:Nat):Int):=by rw [Int.natCast_mul]
 refine Or.inr (af (.fst 0 (.fst 1 (.fst 3 (.fst 4 (.br 2 (.br 5 (.br 6 (.br 7 (.br 8 (.fst 9 .done) .no) .no) .no) .no) (.br 5 (.br 2 (.br 6 (.br 7 (.br 8 (.fst 9 .done) .no) .no) .no) (.br 6 (.br 2 (.br 7 (.br 8 (.fst 9 .done) .no) .no) .no) .no)) .no)))))) (ae (by decide+kernel) ?_));have XM: -9223372036854775808<=(t.length:Int)*(t.length:Int)/\(t.length:Int)*(t.length:Int)<=9223372036854775807:=aa;have zP:0<=(t.length:Int)*(t.length:Int)/\(t.length:Int)*(t.length:Int)<=(t.length:Int)*(t.length:Int):=aa;have hm3:(t.length:Int)*(t.length:Int)<=17592186044416:=aa;apply M6 (X:=List Int) (ok:=λl=>qf t l/\l.length<=t.length)
 ·intro K1 hK hK'
  refine ae ?_ (ae ?_ ag)
  ·refine Or.inr (Or.inr (ce (qT t hs) (ae rfl ag) ?_))
   intro g hg;refine ae (ae XM ?_) trivial;refine ae (ae zP (ae hm3 ?_)) trivial;refine ae (ae ?_ ag) trivial;exact hK g hg
  ·refine ae XM (ae ?_ (ae ?_ ag))
   ·refine Or.inr (Or.inr (ce (qT t hs) (ae rfl ag) ?_))
    intro g hg;refine ae (ae zP (ae hm3 ?_)) trivial;refine ae (ae ?_ ag) trivial;exact hK g hg
   ·refine ae zP (ae hm3 ?_)
    refine ae ?_ trivial;refine Or.inr (Or.inr (ce (qT t hs) (ae rfl ag) ?_));intro g hg;refine ae (ae ?_ ag) trivial;exact hK' g hg
 all_goals
  intro g hg;have Xz:=hg.1.el;refine af []<|kF (λ(k:Nat) (_:List Int)=>[(25,.int .i64 k)]) (λ_ q=>[(17,.vec 0 (.ints .i64 q) [])]) (λk q=>k<=t.length*t.length/\q.length=t.length*t.length/\∀j,j<k->q.getD j 0= -1) (λk _=>t.length*t.length - k) 0 (List.replicate ((t.length:Int)*(t.length:Int)).toNat 0) ⟨ajk _,by rw [ajz];omega,λj h=>absurd h (aju _)⟩ ab ?_
  rintro k q ⟨hk,ux,hqj⟩;refine ae (λh1=>?_) (λh1=>?_)
  ·have h1:(k:Int)<((List.replicate ((t.length:Int)*(t.length:Int)).toNat (0:Int)).length:Int):=h1
   rw [ajz]at h1;refine aj ?_;refine aj ?_;refine aj ?_;refine nx (k+1,q.set k (-1)) ⟨aa,by rw [ajv];exact ux,λj hj=>?_⟩ (show t.length*t.length - (k+1)<t.length*t.length - k by omega) ab
   by_cases e1:j=k
   ·subst e1;exact aB aa
   ·rw [getD_set_ne (Ne.symm e1)];exact hqj j aa
  ·have h1:((List.replicate ((t.length:Int)*(t.length:Int)).toNat (0:Int)).length:Int)<=(k:Int):=h1
   rw [ajz]at h1
   have Ps:gC q=λ_=> -1:=funext λv=>by
    by_cases hv:v<q.length
    ·rw [<-yy hv];exact hqj v aa
    ·unfold gC;rw [List.getD,aj0 aa];rfl
   have zr:∀(n v:Nat),(List.replicate n (0:Int)).getD v 0=0:=λn v=>by simp only [List.getD,ajH];split<;>rfl
   have zb:∀(n v:Nat),(List.replicate n false).getD v false=false:=λn v=>by simp only [List.getD,ajH];split<;>rfl
   have hV0:Vs t g (List.replicate ((t.length:Int)*(t.length:Int)).toNat 0) (List.replicate ((t.length:Int)*(t.length:Int)).toNat 0) q (List.replicate ((t.length:Int)*(t.length:Int)).toNat false) [] [] [] [] 0:=
    ⟨by rw [ajz];omega,by rw [ajz];omega,ux,by rw [ajz];omega,by
     have e1:my (List.replicate ((t.length:Int)*(t.length:Int)).toNat 0)=λ_=>0:=funext λv=>zr _ v;have e2:gB (List.replicate ((t.length:Int)*(t.length:Int)).toNat false)=λ_=>false:=funext λv=>zb _ v;rw [e1,e2,Ps];exact Tj.start⟩
   refine Or.inl ?_;refine af (ai 15++[true]) (ae (by decide+kernel) ?_);refine aj ?_;refine aj ?_;refine aj ?_;refine aj ?_;refine aj ?_;refine aj ?_;refine aj ?_;refine aj ?_;refine aj ?_;refine af []<|YU (λ(x:Nat) (_ _ _:List Int) (_:List Bool) (_:List (List Nat)) (_:List Bool) (_:Nat)=>[(50,.int .i64 x)]) (λ_ o l c e C lv m=>[(6,.box [.ptr 19 0,.vec 39,.vec 43,.vec 501,.vec 502,.vec 47,.int .i64 m]),(39,.vec 0 (.ints .i64 o) []),(43,.vec 0 (.ints .i64 l) []),(501,.vec 0 (.aW (aQ [])) []),(502,.vec 0 (.ints .i64 (ik [])) []),(47,.vec 0 (.aI e) []),(19,.box [.ro (.rows .i64 t),.vec 13,.vec 17,.vec 503,.vec 504]),(13,.vec 0 (.ints .i64 g) []),(17,.vec 0 (.ints .i64 c) []),(503,.vec 0 (.rows .i64 (oB C)) []),(504,.vec 0 (.aI lv) [])]) (λx o l c e C lv m=>x<=t.length/\Vs t g o l c e [] [] C lv m/\∀a b,a<b->b<t.length->a<x->my o (a*t.length+b)≠0) (λx _ _ _ _ _ _ _=>t.length - x) 0 _ _ q _ [] [] 0 ⟨ajk _,hV0,λa b _ _ h=>absurd h (aju _)⟩ ab ?_
   intro x o l c e C lv m hi;have hV:=hi.2.1;refine ae (λh2=>?_) (λh2=>?_)
   ·have h2:(x:Int)<(t.length:Int):=h2
    refine aj ?_;refine af []<|YU (λ(y:Nat) (_ _ _:List Int) (_:List Bool) (_:List (List Nat)) (_:List Bool) (_:Nat)=>[(8,.int .i64 y)]) (λ_ o l c e C lv m=>[(6,.box [.ptr 19 0,.vec 39,.vec 43,.vec 501,.vec 502,.vec 47,.int .i64 m]),(39,.vec 0 (.ints .i64 o) []),(43,.vec 0 (.ints .i64 l) []),(501,.vec 0 (.aW (aQ [])) []),(502,.vec 0 (.ints .i64 (ik [])) []),(47,.vec 0 (.aI e) []),(19,.box [.ro (.rows .i64 t),.vec 13,.vec 17,.vec 503,.vec 504]),(13,.vec 0 (.ints .i64 g) []),(17,.vec 0 (.ints .i64 c) []),(503,.vec 0 (.rows .i64 (oB C)) []),(504,.vec 0 (.aI lv) [])]) (λy o l c e C lv m=>x<y/\Vs t g o l c e [] [] C lv m/\∀a b,a<b->b<t.length->(a<x\/(a=x/\b<y))->my o (a*t.length+b)≠0) (λy _ _ _ _ _ _ _=>t.length - y) (x+1) o l c e C lv m ⟨aa,hV,λa b h3 h4 h5=>hi.2.2 a b h3 h4 aa⟩ ab ?_
    intro y o l c e C lv m hi;have hV:=hi.2.1;have M4:=hV.ol;have hb:=hV.ZM;refine ae (λh3=>?_) (λh3=>?_)
    ·have h3:(y:Int)<(t.length:Int):=h3
     have uB:=vg (n:=t.length) hi.1 (y:=y) aa;have Pj:=uB.1.1;have XN:(x:Int)*(t.length:Int)+(y:Int)=((x*t.length+y:Nat):Int):=by rw [Int.natCast_add,Int.natCast_mul]
     have acz:(x:Int)*(t.length:Int)=((x*t.length:Nat):Int):=by rw [Int.natCast_mul]
     have etn:((x:Int)*(t.length:Int)+(y:Int)).toNat=x*t.length+y:=aa
     have step:∀{o':List Int},(∀u,my o u≠0->my o' u≠0)->my o' (x*t.length+y)≠0->∀a b,a<b->b<t.length->(a<x\/(a=x/\b<y+1))->my o' (a*t.length+b)≠0:=λh4 h5 a b h6 h7 h8=>by
      by_cases e1:a=x/\b=y
      ·rw [e1.1,e1.2];exact h5
      ·exact h4 _ (hi.2.2 a b h6 h7 aa)
     refine aj ?_;refine aj ?_;refine aj ?_;refine ae (λh4=>?_) (λh4=>?_)
     ·have h4:o.getD ((x:Int)*(t.length:Int)+(y:Int)).toNat 0=0:=h4
      rw [etn]at h4;refine aj ?_;refine aj ?_;refine Or.inr (Or.inl (cn [] [(1000,6),(1002,39),(1003,43),(503,501),(504,502),(1005,47),(1001,19),(1006,13),(1007,17),(505,503),(506,504)] (Q1 t g o l c e C lv m (x*t.length+y) hs ht Xz hg.2 hV uB.1 h4) ?_));refine ae ab ?_;refine aab λo2 l2 c2 e2 C2 lv2 m2 hz=>?_;refine aj ?_;exact nx (y+1,o2,l2,c2,e2,C2,lv2,m2) ⟨aa,hz.1,step hz.2.1 hz.2.2⟩ (show t.length - (y+1)<t.length - y by omega) ab
     ·have h4:o.getD ((x:Int)*(t.length:Int)+(y:Int)).toNat 0≠0:=h4
      rw [etn]at h4;refine aj ?_;exact nx (y+1,o,l,c,e,C,lv,m) ⟨aa,hV,step (λ_ h=>h) h4⟩ (show t.length - (y+1)<t.length - y by omega) ab
    ·have h3:(t.length:Int)<=(y:Int):=h3
     refine aj ?_;exact nx (x+1,o,l,c,e,C,lv,m) ⟨aa,hV,λa b h4 h5 h6=>hi.2.2 a b h4 h5 aa⟩ (show t.length - (x+1)<t.length - x by omega) ab
   ·have h2:(t.length:Int)<=(x:Int):=h2
    refine af (g,c,C,lv) (ae ⟨hg.1,hg.2,hV.cl,hV.tj.toCl,λv hv=>hV.tj.WU.2 v ?_⟩ ?_)
    ·have h3:=jn hv
     have h4:=hi.2.2 (v / t.length) (v % t.length) hv.2 h3.2.1 aa;rw [show v / t.length*t.length+v % t.length=v by rw [aki];exact Nat.div_add_mod v _]at h4;have h5:=hV.tj.o0 v;omega
    ·refine ae ?_ ?_
     all_goals (repeat' first|refine ae ?_ ?_|exact ag|(show(_:Int)=(_:Int);omega)|omega|exact rfl|(simp only [RO.len];omega))
theorem HK(t:List (List Int))(g c:List Int)(C:List (List Nat))(lv:List Bool)(hp:0<t.length)(v:Nat):MF 108 [.ptr 1001 0,.int .i64 v] (nwF 1001 t g c C lv) (.agg [.int .i64 ((v / t.length:Nat):Int),.int .i64 ((v % t.length:Nat):Int)]) (nwF 1001 t g c C lv):=ui Tryz.func108 (by decide+kernel) rfl (ah rfl) λ_=>by
 refine Or.inl ?_;refine af (ai 15++[true]) (ae (by decide+kernel) ?_);refine aj ?_;refine Or.inl ?_;refine aj ?_
 repeat' first|refine ae ?_ ?_|exact ag|(show(_:Int)=(_:Int);omega)|omega|exact rfl|(simp only [RO.len];omega)
abbrev Zi(t:List (List Int))(g c:List Int)(C:List (List Nat))(lv:List Bool)(p:List Int)(m:Int):ak:=[(1000,.box [.vec 1002,.int .i64 m]),(1002,.vec 0 (.ints .i64 p) []),(1001,.box [.ro (.rows .i64 t),.ro (.ints .i64 g),.ro (.ints .i64 c),.ro (.rows .i64 (oB C)),.ro (.aI lv)])]
theorem Dv(t:List (List Int))(g c:List Int)(C:List (List Nat))(lv:List Bool)(hs:Sh t)(i:Nat)(hi:i<C.length)(hm:∀v∈C.getD i [],Gp t.length v)(Lk:(C.getD i []).length<=160000)(p:List Int)(m:Int)(gw:p.length=t.length):MF 68 [.ptr 1001 0,.ptr 1000 0,.int .i64 i] (Zi t g c C lv p m) (.vec 37)
  ((37,.vec 0 (.aW (dE t.length (C.getD i [])).2) [])::Zi t g c C lv (I6 t.length (C.getD i [])) (dX t.length (dE t.length (C.getD i [])).1)):=ui Tryz.func68 (by decide+kernel) rfl (ah rfl) λ_=>by
 have iu:=hs.pos;have ko:=hs.most;have da:=vh C;have z7:(oB C).getD i []=pU (C.getD i []):=by simp [oB,List.getD,hi]
 refine Or.inr (Or.inl (cm [] [(1000,1000),(1001,1002)] (yU t.length p m gw aa) ?_));refine ae ab ?_;refine aj ?_;refine af []<|lp (X:=Nat) (λj=>[(21,.int .i64 j),(7,.vec 37)]) (λj=>[(37,.vec 0 (.aW (dE t.length ((C.getD i []).take j)).2) []),(1000,.box [.vec 1002,.int .i64 (dX t.length (dE t.length ((C.getD i []).take j)).1:Nat)]),(1002,.vec 0 (.ints .i64 (I6 t.length ((C.getD i []).take j))) [])]) (λj=>j<=(C.getD i []).length) (λj=>(C.getD i []).length - j) 0 (ajk _) (by repeat' first|refine ae ?_ ?_|exact ag|exact ajs (Nat.cast (R:=Int)) (LD t.length).symm|(show(_:Int)=(_:Int);omega)|omega|exact rfl) ?_
 intro j hj;have ug:((oB C).getD i []).length=(C.getD i []).length:=by rw [z7,Ad]
 refine ae (λh1=>?_) (λh1=>?_)
 ·have h1:(j:Int)<(((oB C).getD i []).length:Int):=h1
  have oR:j<(C.getD i []).length:=aa;have hv:=hm _ (al (d:=0) oR);obtain⟨v1,v2,_⟩:=jn hv;have LK:((oB C).getD i []).getD j 0=(((C.getD i []).getD j 0:Nat):Int):=by rw [z7];exact uA oR
  have uM:(C.getD i []).take (j+1)=(C.getD i []).take j++[(C.getD i []).getD j 0]:=cU oR;have hO:=snO (n:=t.length) ((C.getD i []).take j) λv hv=>hm v (List.mem_of_mem_take hv);have V3:=hO.gG;have e1:I6 t.length ((C.getD i []).take (j+1))=KO (dE t.length ((C.getD i []).take j)).1 (I6 t.length ((C.getD i []).take j)) ((C.getD i []).getD j 0 / t.length) ((C.getD i []).getD j 0 % t.length):=by rw [uM,Cn]
  have e2:(dE t.length ((C.getD i []).take (j+1))).1=Ae (dE t.length ((C.getD i []).take j)).1 ((C.getD i []).getD j 0 / t.length) ((C.getD i []).getD j 0 % t.length):=by rw [uM,iq]
  have e2c:((dX t.length (Ae (dE t.length ((C.getD i []).take j)).1 ((C.getD i []).getD j 0 / t.length) ((C.getD i []).getD j 0 % t.length)):Nat):Int)=((dX t.length (dE t.length ((C.getD i []).take (j+1))).1:Nat):Int):=by rw [e2]
  have e3:(dE t.length ((C.getD i []).take (j+1))).2=if (dE t.length ((C.getD i []).take j)).1 ((C.getD i []).getD j 0 / t.length)=(dE t.length ((C.getD i []).take j)).1 ((C.getD i []).getD j 0 % t.length) then (dE t.length ((C.getD i []).take j)).2 else (dE t.length ((C.getD i []).take j)).2++[((((C.getD i []).getD j 0 / t.length:Nat):Int),(((C.getD i []).getD j 0 % t.length:Nat):Int))]:=by rw [uM,iq]
  refine aj ?_;refine Or.inr (Or.inl (cm [] [(1001,1001)] (HK t g c C lv iu ((C.getD i []).getD j 0)) ?_));refine ae (by repeat' first|refine ae ?_ ?_|exact ag|exact LK|(show(_:Int)=(_:Int);omega)|omega|exact rfl) ?_;refine aj ?_;refine ae (λ_=>?_) (ae (λh9=>absurd (show(0:Int)=1 from h9) (by decide)) ag);refine aj ?_;refine ae (λh9=>absurd (show(1:Int)=0 from h9) (by decide)) (ae (λ_=>?_) ag);refine Or.inr (Or.inl (cm [] [(1000,1000),(1001,1002)] (MR t.length (I6 t.length ((C.getD i []).take j)) (dE t.length ((C.getD i []).take j)).1 ((C.getD i []).getD j 0 / t.length) ((C.getD i []).getD j 0 % t.length) hO.fo v1 v2 aa) ?_));refine ae ab ?_;refine ae (λh2=>?_) (λh2=>?_)
  ·have h2:decide ((dE t.length ((C.getD i []).take j)).1 ((C.getD i []).getD j 0 / t.length)≠(dE t.length ((C.getD i []).take j)).1 ((C.getD i []).getD j 0 % t.length))=true:=h2
   rw [ajm (ajX h2)]at e3;refine ae (by rw [ajp,ajx];omega) ?_;refine aj ?_;exact nx (j+1) (show j+1<=(C.getD i []).length by omega) (show(C.getD i []).length - (j+1)<(C.getD i []).length - j by omega) (by repeat' first|refine ae ?_ ?_|exact ag|exact ajs RO.aW e3.symm|exact ajs (RO.ints .i64) e1.symm|exact e2c|(show(_:Int)=(_:Int);omega)|omega|exact rfl)
  ·have h2:decide ((dE t.length ((C.getD i []).take j)).1 ((C.getD i []).getD j 0 / t.length)≠(dE t.length ((C.getD i []).take j)).1 ((C.getD i []).getD j 0 % t.length))=false:=h2
   rw [ajq (ajy λbn=>of_decide_eq_false h2 bn)]at e3;refine aj ?_;exact nx (j+1) (show j+1<=(C.getD i []).length by omega) (show(C.getD i []).length - (j+1)<(C.getD i []).length - j by omega) (by repeat' first|refine ae ?_ ?_|exact ag|exact ajs RO.aW e3.symm|exact ajs (RO.ints .i64) e1.symm|exact e2c|(show(_:Int)=(_:Int);omega)|omega|exact rfl)
 ·have h1:(((oB C).getD i []).length:Int)<=(j:Int):=h1
  have et:(C.getD i []).take j=C.getD i []:=aj4 aa;have q1:(dE t.length ((C.getD i []).take j)).2=(dE t.length (C.getD i [])).2:=by rw [et]
  have q2:((dX t.length (dE t.length ((C.getD i []).take j)).1:Nat):Int)=((dX t.length (dE t.length (C.getD i [])).1:Nat):Int):=by rw [et]
  have q3:I6 t.length ((C.getD i []).take j)=I6 t.length (C.getD i []):=by rw [et]
  refine ae ?_ ?_
  all_goals (repeat' first|refine ae ?_ ?_|exact ag|exact ajs RO.aW q1|exact ajs (RO.ints .i64) q3|exact q2|(show(_:Int)=(_:Int);omega)|omega|exact rfl)
def lB(n:Nat)(ms:List Nat):List Int:=ms.flatMap λv=>[((v / n:Nat):Int),((v % n:Nat):Int)]
theorem M7(n:Nat)(ms:List Nat)(v:Nat):lB n (ms++[v])=lB n ms++[((v / n:Nat):Int),((v % n:Nat):Int)]:=by simp [lB]
def jD(T:List Int):List (List Int × Int):=T.map λx=>([x],1)
theorem wA(T:List Int)(x:Int):getM (jD T) [x]=if x∈T then some 1 else none:=by
 induction T with
 |nil=>rfl
 |cons a T ih=>
  show(if ([a]:List Int)=[x] then some 1 else getM (jD T) [x])=_
  by_cases e:a=x
  ·rw [ajq (by rw [e]),ajq (by rw [e];exact ajn ..)]
  ·rw [ajm (λh=>e (List.cons.inj h).1),ih]
   by_cases h:x∈T
   ·rw [ajq h,ajq (ajj _ h)]
   ·rw [ajm h,ajm λh2=>(ajo.1 h2).elim (λh3=>e h3.symm) h]
theorem M8{T:List Int}{x:Int}(h:x∉T):lA (jD T) [x] 1=jD (T++[x]):=by
 rw [qX (by rw [wA,ajm h])];simp [jD]
theorem Q4{L:List Int}{x:Int}(h:x∉av L):av (L++[x])=av L++[x]:=by rw [bQ,ajm λh2=>h (aL.2 h2)]
theorem Q5{L:List Int}{x:Int}(h:x∈av L):av (L++[x])=av L:=by rw [bQ,ajq (aL.1 h)]
theorem Q6(n:Nat)(ms:List Nat):(lB n ms).length=2*ms.length:=by
 unfold lB
 induction ms with
 |nil=>rfl
 |cons a ms ih=>rw [List.flatMap_cons,ajp,ih];simp;omega
theorem U4{n:Nat}{ms:List Nat}(h:∀v∈ms,Gp n v):(av (lB n ms)).length<=n:=by
 have:=b9 (fP (lB n ms)) (B:=(List.range n).map λi:Nat=>(i:Int)) λx hx=>by
  have hx:=aL.1 hx;unfold lB at hx;obtain⟨v,hv,hx⟩:=List.mem_flatMap.1 hx;have h1:=jn (h v hv);rcases ajo.1 hx with rfl|hx
  ·exact ajU.2 ⟨_,ajJ.2 h1.1,rfl⟩
  ·rw [ajC]at hx;subst hx
   exact ajU.2 ⟨_,ajJ.2 h1.2.1,rfl⟩
 simpa using this
theorem U5{n:Nat}{ms:List Nat}{a b:Nat}(h:Eg (dV (qe n ms)) a b):a=b\/((a:Int)∈lB n ms/\(b:Int)∈lB n ms):=by
 refine h.least (Q:=λa b=>a=b\/((a:Int)∈lB n ms/\(b:Int)∈lB n ms)) (λ_=>.inl rfl) (λ_ _ h=>h.imp Eq.symm λh=>⟨h.2,h.1⟩) (λa b c h h'=>?_) λa b e=>.inr ?_
 ·rcases h with rfl|h
  ·exact h'
  ·rcases h' with rfl|h'
   ·exact .inr h
   ·exact .inr ⟨h.1,h'.2⟩
 ·obtain⟨v,hv,rfl,rfl⟩:=fh.1 e
  exact⟨List.mem_flatMap.2 ⟨v,hv,ajn ..⟩,List.mem_flatMap.2 ⟨v,hv,ajj _ (ajn ..)⟩⟩
set_option maxHeartbeats 4000000 in
theorem Q7(t:List (List Int))(g c:List Int)(C:List (List Nat))(lv:List Bool)(hN:cF t g c C lv)(hs:Sh t)(ht:t.length<=60)(i:Nat)(hi:i<C.length)(hl:lv.getD i false=false)(R:List Int)(hR:R.length=C.length)(hRk:∀d,d<C.length->lv.getD d false=false->R.getD d 0=(xS t C d:Int)):
  NF 69 [.ptr 1001 0,.ptr 1000 0,.int .i64 i,.ro (.ints .i64 R)] (Zi t g c C lv (I6 t.length (C.getD i [])) (dX t.length (dE t.length (C.getD i [])).1)) (λ_:List Int=>.bool (.v (vl t c C lv i))) (λp=>Zi t g c C lv p (dX t.length (dE t.length (C.getD i [])).1)) (λp=>Fo t.length p (dE t.length (C.getD i [])).1):=XL Tryz.func69 (by decide+kernel) rfl (ah rfl) λ_=>by
 have hO:=hN.sO hi;have Wx:t.length*t.length<=3600:=akf ht ht;have z8:=hN.ml hi;have da:=vh C;have iu:=hs.pos;have z7:(oB C).getD i []=pU (C.getD i []):=by simp [oB,List.getD,hi]
 have ug:((oB C).getD i []).length=(C.getD i []).length:=by rw [z7,Ad]
 refine aj ?_;refine af []<|lp (X:=Nat) (λj=>[(35,.int .i64 j),(11,.vec 54)]) (λj=>[(26,.map (.int .i64) none (jD (av (lB t.length ((C.getD i []).take j))))),(54,.vec 0 (.ints .i64 (av (lB t.length ((C.getD i []).take j)))) [])]) (λj=>j<=(C.getD i []).length) (λj=>(C.getD i []).length - j) 0 (ajk _) ab ?_
 intro j hj;refine ae (λh1=>?_) (λh1=>?_)
 ·have h1:(j:Int)<(((oB C).getD i []).length:Int):=h1
  have oR:j<(C.getD i []).length:=aa;have hv:=(hN.gp hi (al (d:=0) oR)).1;obtain⟨v1,v2,_⟩:=jn hv;have LK:((oB C).getD i []).getD j 0=(((C.getD i []).getD j 0:Nat):Int):=by rw [z7];exact uA oR
  have uM:(C.getD i []).take (j+1)=(C.getD i []).take j++[(C.getD i []).getD j 0]:=cU oR;refine aj ?_;refine Or.inr (Or.inl (cm [] [(1001,1001)] (HK t g c C lv iu ((C.getD i []).getD j 0)) ?_));refine ae (by repeat' first|refine ae ?_ ?_|exact ag|exact LK|(show(_:Int)=(_:Int);omega)|omega|exact rfl) ?_;obtain⟨E,hE⟩:∃E,E=[((((C.getD i []).getD j 0) / t.length:Nat):Int),((((C.getD i []).getD j 0) % t.length:Nat):Int)]:=⟨_,rfl⟩;refine af []<|lp (X:=Nat) (λq=>[(42,.int .i64 q),(11,.vec 54)]) (λq=>[(26,.map (.int .i64) none (jD (av (lB t.length ((C.getD i []).take j)++E.take q)))),(54,.vec 0 (.ints .i64 (av (lB t.length ((C.getD i []).take j)++E.take q))) [])]) (λq=>q<=2) (λq=>2 - q) 0 (ajk _) (by repeat' first|refine ae ?_ ?_|exact ag|exact ajs (λz=>RO.ints .i64 (av z)) (List.append_nil _).symm|exact ajs (λz=>jD (av z)) (List.append_nil _).symm|(show(_:Int)=(_:Int);omega)|omega|exact rfl) ?_
  intro q hq
  have hlq:(lB t.length ((C.getD i []).take j)++E.take q).length<=2*j+2:=by
   rw [ajp,Q6,ajA,ajA,hE];simp;omega
  have hlf:=bp (lB t.length ((C.getD i []).take j)++E.take q)
  have hS:∀x,q<2->E.getD q 0=x->lB t.length ((C.getD i []).take j)++E.take (q+1)=(lB t.length ((C.getD i []).take j)++E.take q)++[x]:=λx GN hx=>by
   rw [cU (d:=(0:Int)) (by rw [hE];exact GN),hx,List.append_assoc]
  have XO:∀x,q<2->E.getD q 0=x->(getM (jD (av (lB t.length ((C.getD i []).take j)++E.take q))) [x]).getD 0=0->av (lB t.length ((C.getD i []).take j)++E.take q)++[x]=av (lB t.length ((C.getD i []).take j)++E.take (q+1))/\lA (jD (av (lB t.length ((C.getD i []).take j)++E.take q))) [x] 1=jD (av (lB t.length ((C.getD i []).take j)++E.take (q+1))):=λx GN hx h3=>by
   have dj:x∉av (lB t.length ((C.getD i []).take j)++E.take q):=λhm=>by rw [wA,ajq hm]at h3;exact absurd h3 (by decide)
   have eT:=Q4 dj;rw [hS x GN hx,eT];exact⟨rfl,M8 dj⟩
  have XP:∀x,q<2->E.getD q 0=x->(getM (jD (av (lB t.length ((C.getD i []).take j)++E.take q))) [x]).getD 0≠0->av (lB t.length ((C.getD i []).take j)++E.take q)=av (lB t.length ((C.getD i []).take j)++E.take (q+1)):=λx GN hx h3=>by
   have lQ:x∈av (lB t.length ((C.getD i []).take j)++E.take q):=ajy λhm=>by rw [wA,ajm hm]at h3;exact h3 rfl
   rw [hS x GN hx,Q5 lQ]
  refine ae (λh2=>?_) (λh2=>?_)
  ·have h2:(q:Int)<2:=h2
   refine aj ?_;refine ae (λUg=>?_) (ae (λIP=>?_) ag)
   ·have Ug:(q:Int)=0:=Ug
    have hx:E.getD q 0=(((C.getD i []).getD j 0 / t.length:Nat):Int):=by rw [hE,show q=0 by omega];rfl
    refine ae (λh3=>?_) (λh3=>?_)
    ·have hn:=XO _ aa hx h3
     refine ae (by rw [ajp,ajx];omega) ?_;refine aj ?_;exact nx (q+1) (show q+1<=2 by omega) (show 2 - (q+1)<2 - q by omega) (by repeat' first|refine ae ?_ ?_|exact ag|exact ajs (RO.ints .i64) hn.1|exact hn.2|(show(_:Int)=(_:Int);omega)|omega|exact rfl)
    ·have hn:=XP _ aa hx h3
     have Wh:=ajs jD hn;refine aj ?_;exact nx (q+1) (show q+1<=2 by omega) (show 2 - (q+1)<2 - q by omega) (by repeat' first|refine ae ?_ ?_|exact ag|exact ajs (RO.ints .i64) hn|exact Wh|(show(_:Int)=(_:Int);omega)|omega|exact rfl)
   ·have IP:(q:Int)=1:=IP
    have hx:E.getD q 0=(((C.getD i []).getD j 0 % t.length:Nat):Int):=by rw [hE,show q=1 by omega];rfl
    refine ae (λh3=>?_) (λh3=>?_)
    ·have hn:=XO _ aa hx h3
     refine ae (by rw [ajp,ajx];omega) ?_;refine aj ?_;exact nx (q+1) (show q+1<=2 by omega) (show 2 - (q+1)<2 - q by omega) (by repeat' first|refine ae ?_ ?_|exact ag|exact ajs (RO.ints .i64) hn.1|exact hn.2|(show(_:Int)=(_:Int);omega)|omega|exact rfl)
    ·have hn:=XP _ aa hx h3
     have Wh:=ajs jD hn;refine aj ?_;exact nx (q+1) (show q+1<=2 by omega) (show 2 - (q+1)<2 - q by omega) (by repeat' first|refine ae ?_ ?_|exact ag|exact ajs (RO.ints .i64) hn|exact Wh|(show(_:Int)=(_:Int);omega)|omega|exact rfl)
  ·have h2:(2:Int)<=(q:Int):=h2
   have e2:lB t.length ((C.getD i []).take j)++E.take q=lB t.length ((C.getD i []).take (j+1)):=by
    rw [uM,M7,show q=2 by omega,hE];rfl
   have e3:=ajs av e2;have e4:=ajs jD e3;refine aj ?_;exact nx (j+1) (show j+1<=(C.getD i []).length by omega) (show(C.getD i []).length - (j+1)<(C.getD i []).length - j by omega) (by repeat' first|refine ae ?_ ?_|exact ag|exact ajs (RO.ints .i64) e3|exact e4|(show(_:Int)=(_:Int);omega)|omega|exact rfl)
 ·have h1:(((oB C).getD i []).length:Int)<=(j:Int):=h1
  obtain⟨X,hX⟩:∃X,X=jW (av (lB t.length ((C.getD i []).take j))):=⟨_,rfl⟩;have et:(C.getD i []).take j=C.getD i []:=aj4 aa
  have hT0:0<(av (lB t.length ((C.getD i []).take j))).length:=by
   rw [et];obtain⟨v,hv,_⟩:=hN.some hi;exact akx (aL.2 (List.mem_flatMap.2 ⟨v,hv,ajn ..⟩))
  refine Or.inr (Or.inl (cm [] [(1000,54)] (Qt (av (lB t.length ((C.getD i []).take j))) hT0) ?_));refine ae ab ?_;have hXl:X.length=(av (lB t.length ((C.getD i []).take j))).length:=by rw [hX,lr]
  have aer:X.length<=t.length:=by rw [hXl,et];exact U4 λv hv=>(hN.gp hi hv).1
  have hXm:∀x,x∈X↔x∈lB t.length (C.getD i []):=λx=>by rw [hX,(n9 _).mem_iff,aL,et]
  have hXn:X.Pairwise (· <·):=by
   have h2:=CU (av (lB t.length ((C.getD i []).take j)));have h3:(jW (av (lB t.length ((C.getD i []).take j)))).Nodup:=(n9 _).nodup_iff.2 (fP _);rw [<-hX]at h2 h3;exact(List.pairwise_and_iff.2 ⟨h2,aj9.1 h3⟩).imp λh=>by omega
  have Zj:∀a,a<X.length->0<=X.getD a 0/\X.getD a 0<(t.length:Int):=λa ha=>by
   have h2:=(hXm _).1 (al (d:=0) ha);obtain⟨v,hv,h2⟩:=List.mem_flatMap.1 h2;have h3:=jn (hN.gp hi hv).1;rcases ajo.1 h2 with h2|h2
   ·rw [h2];exact⟨aku _,Int.ofNat_lt.2 h3.1⟩
   ·rw [ajC]at h2;rw [h2];exact⟨aku _,Int.ofNat_lt.2 h3.2.1⟩
  have U6:∀a b,a<b->b<X.length->X.getD a 0<X.getD b 0:=λa b mP hb=>by
   have:=aky.1 hXn a b aa hb mP
   simpa [List.getD,hb,show a<X.length by omega]using this
  have XQ:∀G:Nat->Nat->Prop,(∀a b,G a b↔((dE t.length (C.getD i [])).1 (X.getD a 0).toNat=(dE t.length (C.getD i [])).1 (X.getD b 0).toNat->lv.getD (gC c ((X.getD a 0).toNat*t.length+(X.getD b 0).toNat)).toNat false=true\/((i:Int)<=gC c ((X.getD a 0).toNat*t.length+(X.getD b 0).toNat)/\xS t C (gC c ((X.getD a 0).toNat*t.length+(X.getD b 0).toNat)).toNat=xS t C i)))->((∀a b,a<b->b<X.length->G a b)↔Fb t c C lv i):=λG hG=>by
   constructor
   ·intro h2
    refine⟨hl,λx y uB hy e=>?_⟩;have e:=(fS aa hy).1 e;have hm:=(U5 e).resolve_left aa;obtain⟨a,ha,hax⟩:=aS 0 ((hXm _).2 hm.1);obtain⟨b,hb,tY⟩:=aS 0 ((hXm _).2 hm.2)
    have mP:a<b:=by
     rcases Nat.lt_trichotomy a b with h3|h3|h3
     ·exact h3
     ·subst h3;omega
     ·have:=U6 b a h3 ha;omega
    have h4:=(hG a b).1 (h2 a b mP hb);rw [hax,tY,ajr,ajr]at h4;exact h4 ((hO.xI x y aa hy).2 e)
   ·intro h2 a b mP hb
    rw [hG];intro e;have ra:=Zj a aa;have rb:=Zj b hb;have aX:=U6 a b mP hb;exact h2.2 _ _ aa aa ((fS aa aa).2 ((hO.xI _ _ aa aa).1 e))
  obtain⟨G,hG⟩:∃G:Nat->Nat->Prop,∀a b,G a b↔((dE t.length (C.getD i [])).1 (X.getD a 0).toNat=(dE t.length (C.getD i [])).1 (X.getD b 0).toNat->lv.getD (gC c ((X.getD a 0).toNat*t.length+(X.getD b 0).toNat)).toNat false=true\/((i:Int)<=gC c ((X.getD a 0).toNat*t.length+(X.getD b 0).toNat)/\xS t C (gC c ((X.getD a 0).toNat*t.length+(X.getD b 0).toNat)).toNat=xS t C i)):=⟨_,λ_ _=>Iff.rfl⟩;have vm:=XQ G hG;refine af [10054,54,57,11,59]<|kF (λ(a:Nat) (_:List Int)=>[(61,.int .i64 a),(11,.ro (.ints .i64 X)),(59,.ro (.ints .i64 X))]) (λ_ p=>[(1002,.vec 0 (.ints .i64 p) [])]) (λa p=>a<=X.length/\Fo t.length p (dE t.length (C.getD i [])).1/\∀a' b,a'<a->a'<b->b<X.length->G a' b) (λa _=>X.length - a) 0 (I6 t.length (C.getD i [])) ⟨ajk _,hO.fo,λ_ _ h=>absurd h (aju _)⟩ (by repeat' first|refine ae ?_ ?_|exact ag|exact ajs (RO.ints .i64) hX.symm|(show(_:Int)=(_:Int);omega)|omega|exact rfl) ?_
  rintro a p ⟨ha,Wy,hGa⟩;refine ae (λh2=>?_) (λh2=>?_)
  ·have h2:(a:Int)<((jW (av (lB t.length ((C.getD i []).take j)))).length:Int):=h2
   rw [<-hX]at h2;have B3:a<X.length:=aa;have Zk:=Zj a B3;refine aj ?_;refine aj ?_;refine aj ?_;have PU:(List.drop (a+1) (List.take X.length X)).length=X.length - (a+1):=by rw [aks,ajA];omega
   refine af []<|kF (λ(q:Nat) (_:List Int)=>[(71,.int .i64 q)]) (λ_ p=>[(1002,.vec 0 (.ints .i64 p) [])]) (λq p=>q<=X.length - (a+1)/\Fo t.length p (dE t.length (C.getD i [])).1/\∀b,a<b->b<a+1+q->G a b) (λq _=>X.length - q) 0 p ⟨ajk _,Wy,λb h3 h4=>by omega⟩ ab ?_
   rintro q p ⟨hq,Wy,hGq⟩;refine ae (λh3=>?_) (λh3=>?_)
   ·have h3:(q:Int)<((List.drop (a+1) (List.take X.length X)).length:Int):=h3
    have ux:a+1+q<X.length:=aa;have SM:=Zj (a+1+q) ux
    have hy:(List.drop (a+1) (List.take X.length X)).getD q 0=X.getD (a+1+q) 0:=by
     rw [List.take_length];simp [List.getD]
    have hxc:X.getD a 0=(((X.getD a 0).toNat:Nat):Int):=aa;have hyc:(List.drop (a+1) (List.take X.length X)).getD q 0=(((X.getD (a+1+q) 0).toNat:Nat):Int):=aa;have uB:=U6 a (a+1+q) aa ux;have XR:=fv ((X.getD a 0).toNat+1) Wy (i:=(X.getD a 0).toNat) aa;have M9:=fv ((X.getD (a+1+q) 0).toNat+1) XR (i:=(X.getD (a+1+q) 0).toNat) aa;refine aj ?_;refine Or.inr (Or.inl (cm [] [(1000,1000),(1001,1002)] (qU t.length p (dE t.length (C.getD i [])).1 (dX t.length (dE t.length (C.getD i [])).1) (X.getD a 0).toNat Wy aa aa) ?_));refine ae (by repeat' first|refine ae ?_ ?_|exact ag|exact hxc|(show(_:Int)=(_:Int);omega)|omega|exact rfl) ?_;refine Or.inr (Or.inl (cm [] [(1000,1000),(1001,1002)] (qU t.length _ (dE t.length (C.getD i [])).1 (dX t.length (dE t.length (C.getD i [])).1) (X.getD (a+1+q) 0).toNat XR aa aa) ?_));refine ae (by repeat' first|refine ae ?_ ?_|exact ag|exact hyc|(show(_:Int)=(_:Int);omega)|omega|exact rfl) ?_
    have stepG:G a (a+1+q)->∀b,a<b->b<a+1+(q+1)->G a b:=λhg b h5 h6=>by
     by_cases e1:b=a+1+q
     ·rw [e1];exact hg
     ·exact hGq b h5 aa
    refine ae (λh4=>?_) (λh4=>?_)
    ·have h4:(((dE t.length (C.getD i [])).1 (X.getD a 0).toNat:Nat):Int)≠(((dE t.length (C.getD i [])).1 (X.getD (a+1+q) 0).toNat:Nat):Int):=h4
     have hg:G a (a+1+q):=(hG _ _).2 λe=>absurd (ajs (Nat.cast (R:=Int)) e) h4;refine aj ?_;exact nx (q+1,_) ⟨aa,M9,stepG hg⟩ (show X.length - (q+1)<X.length - q by omega) ab
    ·have h4:(((dE t.length (C.getD i [])).1 (X.getD a 0).toNat:Nat):Int)=(((dE t.length (C.getD i [])).1 (X.getD (a+1+q) 0).toNat:Nat):Int):=h4
     have h4:(dE t.length (C.getD i [])).1 (X.getD a 0).toNat=(dE t.length (C.getD i [])).1 (X.getD (a+1+q) 0).toNat:=aa;have Y0:=vg (n:=t.length) (x:=(X.getD a 0).toNat) (y:=(X.getD (a+1+q) 0).toNat) aa aa;have Pj:=Y0.1.1;have aev:=hN.cl;have hcd:=yy (L:=c) (v:=(X.getD a 0).toNat*t.length+(X.getD (a+1+q) 0).toNat) aa;have hd0:=hN.all _ Y0.1;have JZ:=(hN.yA.gq _ hd0).2;have XN:X.getD a 0*(t.length:Int)=(((X.getD a 0).toNat*t.length:Nat):Int):=by rw [Int.natCast_mul,<-hxc]
     have aaL:(X.getD a 0*(t.length:Int)+(List.drop (a+1) (List.take X.length X)).getD q 0).toNat=(X.getD a 0).toNat*t.length+(X.getD (a+1+q) 0).toNat:=aa;have Co:c.getD (X.getD a 0*(t.length:Int)+(List.drop (a+1) (List.take X.length X)).getD q 0).toNat 0=gC c ((X.getD a 0).toNat*t.length+(X.getD (a+1+q) 0).toNat):=by rw [aaL];exact hcd
     have aaM:=hN.yA.lvl;have hRi:=hRk i hi hl;have bad:¬G a (a+1+q)->vl t c C lv i=false:=λhg=>Bool.eq_false_iff.2 λh5=>hg (vm.2 (ld.1 h5) a (a+1+q) aa ux);refine ae (show -9223372036854775808<=X.getD a 0*(t.length:Int)/\X.getD a 0*(t.length:Int)<=9223372036854775807 by omega) ?_;refine ae (show -9223372036854775808<=(X.getD a 0*(t.length:Int)+(List.drop (a+1) (List.take X.length X)).getD q 0)/\(X.getD a 0*(t.length:Int)+(List.drop (a+1) (List.take X.length X)).getD q 0)<=9223372036854775807 by omega) ?_;refine ae (show 0<=(X.getD a 0*(t.length:Int)+(List.drop (a+1) (List.take X.length X)).getD q 0)/\(X.getD a 0*(t.length:Int)+(List.drop (a+1) (List.take X.length X)).getD q 0)<(c.length:Int) by omega) ?_;refine Or.inl ?_;refine af (ai 24) (ae (by decide+kernel) ?_);refine ae (show 0<=(c.getD (X.getD a 0*(t.length:Int)+(List.drop (a+1) (List.take X.length X)).getD q 0).toNat 0)/\(c.getD (X.getD a 0*(t.length:Int)+(List.drop (a+1) (List.take X.length X)).getD q 0).toNat 0)<(lv.length:Int) by omega) ?_;refine ae (λh5=>?_) (λh5=>?_)
     ·have h5:(!lv.getD (c.getD (X.getD a 0*(t.length:Int)+(List.drop (a+1) (List.take X.length X)).getD q 0).toNat 0).toNat false)=true:=h5
      rw [Bool.not_eq_true',Co]at h5;refine ae (λh6=>?_) (λh6=>?_)
      ·have h6:(c.getD (X.getD a 0*(t.length:Int)+(List.drop (a+1) (List.take X.length X)).getD q 0).toNat 0)<(i:Int):=h6
       rw [Co]at h6
       have KJ:=bad λhg=>by
        have h7:=(hG _ _).1 hg h4;rw [h5]at h7;have:=h7.resolve_left (by decide);omega
       refine af _ (ae M9 ?_);refine ae ?_ KJ.symm
       repeat' first|refine ae ?_ ?_|exact ag|(show(_:Int)=(_:Int);omega)|omega|exact rfl|(simp only [RO.len];omega)
      ·have h6:(i:Int)<=(c.getD (X.getD a 0*(t.length:Int)+(List.drop (a+1) (List.take X.length X)).getD q 0).toNat 0):=h6
       rw [Co]at h6;have hRd:=hRk (gC c ((X.getD a 0).toNat*t.length+(X.getD (a+1+q) 0).toNat)).toNat aa h5;refine ae (show 0<=(c.getD (X.getD a 0*(t.length:Int)+(List.drop (a+1) (List.take X.length X)).getD q 0).toNat 0)/\(c.getD (X.getD a 0*(t.length:Int)+(List.drop (a+1) (List.take X.length X)).getD q 0).toNat 0)<(R.length:Int) by omega) ?_;refine aj ?_;refine ae (λh7=>?_) (λh7=>?_)
       ·have h7:R.getD (c.getD (X.getD a 0*(t.length:Int)+(List.drop (a+1) (List.take X.length X)).getD q 0).toNat 0).toNat 0≠R.getD i 0:=h7
        rw [Co,hRd,hRi]at h7
        have KJ:=bad λhg=>by
         have h8:=(hG _ _).1 hg h4;rw [h5]at h8;have:=(h8.resolve_left (by decide)).2;omega
        refine af _ (ae M9 ?_);refine ae ?_ KJ.symm
        repeat' first|refine ae ?_ ?_|exact ag|(show(_:Int)=(_:Int);omega)|omega|exact rfl|(simp only [RO.len];omega)
       ·have h7:R.getD (c.getD (X.getD a 0*(t.length:Int)+(List.drop (a+1) (List.take X.length X)).getD q 0).toNat 0).toNat 0=R.getD i 0:=h7
        rw [Co,hRd,hRi]at h7;refine aj ?_;exact nx (q+1,_) ⟨aa,M9,stepG ((hG _ _).2 λ_=>.inr ⟨h6,aa⟩)⟩ (show X.length - (q+1)<X.length - q by omega) ab
     ·have h5:(!lv.getD (c.getD (X.getD a 0*(t.length:Int)+(List.drop (a+1) (List.take X.length X)).getD q 0).toNat 0).toNat false)=false:=h5
      rw [Bool.not_eq_false',Co]at h5;refine aj ?_;exact nx (q+1,_) ⟨aa,M9,stepG ((hG _ _).2 λ_=>.inl h5)⟩ (show X.length - (q+1)<X.length - q by omega) ab
   ·have h3:((List.drop (a+1) (List.take X.length X)).length:Int)<=(q:Int):=h3
    refine aj ?_;refine nx (a+1,p) ⟨aa,Wy,λa' b h4 h5 h6=>?_⟩ (show X.length - (a+1)<X.length - a by omega) ab
    by_cases e1:a'=a
    ·rw [e1]at h5 ⊢;exact hGq b h5 aa
    ·exact hGa a' b aa h5 h6
  ·have h2:((jW (av (lB t.length ((C.getD i []).take j)))).length:Int)<=(a:Int):=h2
   rw [<-hX]at h2;have QN:vl t c C lv i=true:=ld.2 (vm.1 λa' b h3 h4=>hGa a' b aa h3 h4);refine af p (ae Wy ?_);refine ae ?_ QN.symm
   repeat' first|refine ae ?_ ?_|exact ag|(show(_:Int)=(_:Int);omega)|omega|exact rfl|(simp only [RO.len];omega)
set_option maxHeartbeats 4000000 in
theorem Ca(t:List (List Int))(hs:Semi t)(ht:t.length<=60):EF 28 [.ro (.rows .i64 t)] (λL:List (List (Int × Int))=>.ro (.cN L)) (λL=>eu t L):=Jp Tryz.func28 (by decide+kernel) rfl (ah rfl) λ_=>by
 have hS:=hs.toSh;have Wx:t.length*t.length<=3600:=akf ht ht;refine Or.inl (cq (Na t hS) (ae rfl ag) ?_);refine Or.inr (Or.inl (cn [] [(19,14)] (Q3 t hS ht) ?_));refine ae ab ?_;refine Xk λg c C lv hN=>?_;have hN:cF t g c C lv:=hN;have da:=vh C;have hCl:=hN.yA.Fa (N:=t.length*t.length) λv hv=>hv.1;have aaM:=hN.yA.lvl;refine Or.inr (Or.inl (cm [] [(7,517),(5,515)] (QO t.length aa) ?_));refine ae ab ?_;refine aj ?_;refine aj ?_;have zr:∀n,(List.replicate n (0:Int)).length=n:=λn=>ajz;refine af []<|lp4 (λ(k:Nat) (_ _:List Int) (_:Int)=>[(29,.int .i64 k)]) (λ_ R p m=>[(23,.vec 0 (.ints .i64 R) []),(517,.box [.vec 515,.int .i64 m]),(515,.vec 0 (.ints .i64 p) [])]) (λk R p _=>k<=C.length/\R.length=C.length/\p.length=t.length/\∀d,d<k->lv.getD d false=false->R.getD d 0=(xS t C d:Int)) (λk _ _ _=>C.length - k) 0 (List.replicate (oB C).length 0) (cR t.length) t.length ⟨ajk _,by rw [zr];exact da,bP _,λd h=>absurd h (aju _)⟩ ab ?_
 intro k R p m hk;have hRl:=hk.2.1;have gw:=hk.2.2.1;refine ae (λh1=>?_) (λh1=>?_)
 ·have h1:(k:Int)<((oB C).length:Int):=h1
  have lK:k<C.length:=aa;have z8:=hN.ml lK;have aex:(dE t.length (C.getD k [])).2.length<=t.length:=by have:=(hN.sO lK).gG;omega
  refine aj ?_;refine ae (λh2=>?_) (λh2=>?_)
  ·have h2:(!lv.getD k false)=true:=h2
   rw [Bool.not_eq_true']at h2;refine Or.inr (Or.inl (cm [] [(1000,517),(1002,515),(1001,14),(37,545)] (Dv t g c C lv hS k lK (λv hv=>(hN.gp lK hv).1) aa p m gw) ?_));refine ae ab ?_;have hO:=hN.sO lK;refine aj ?_;refine aj ?_;refine aj ?_;refine nx (k+1,R.set k (((dE t.length (C.getD k [])).2.length:Nat):Int),_,_) ⟨aa,by rw [ajv];exact hRl,hO.fo.len,λd hd EP=>?_⟩ (show C.length - (k+1)<C.length - k by omega) ab
   by_cases e1:d=k
   ·rw [e1,aB aa];rfl
   ·rw [getD_set_ne (Ne.symm e1)];exact hk.2.2.2 d aa EP
  ·have h2:(!lv.getD k false)=false:=h2
   rw [Bool.not_eq_false']at h2;refine aj ?_;refine nx (k+1,R,p,m) ⟨aa,hRl,gw,λd hd EP=>?_⟩ (show C.length - (k+1)<C.length - k by omega) ab
   by_cases e1:d=k
   ·rw [e1,h2]at EP;cases EP
   ·exact hk.2.2.2 d aa EP
 ·have h1:((oB C).length:Int)<=(k:Int):=h1
  refine af [10023,23,5]<|BU (λ(i:Nat) (_:List Int) (_:Int)=>[(54,.int .i64 i),(7,.vec 76),(5,.ro (.ints .i64 R))]) (λi p m=>[(76,.vec 0 (.cN (jS t c C lv i)) []),(517,.box [.vec 515,.int .i64 m]),(515,.vec 0 (.ints .i64 p) [])]) (λi p _=>i<=C.length/\p.length=t.length) (λi _ _=>C.length - i) 0 p m ⟨ajk _,gw⟩ ab ?_
  intro i p m hi;have gw:=hi.2;refine ae (λh2=>?_) (λh2=>?_)
  ·have h2:(i:Int)<((oB C).length:Int):=h2
   have bD:i<C.length:=aa;have z8:=hN.ml bD;refine aj ?_;refine ae (λh3=>?_) (λh3=>?_)
   ·have h3:lv.getD i false=true:=h3
    have dj:vl t c C lv i=false:=Bool.eq_false_iff.2 λh4=>by have:=(ld.1 h4).1;rw [h3]at this;cases this
    have e1:jS t c C lv (i+1)=jS t c C lv i:=by unfold jS;rw [List.range_succ,List.filter_append];simp [dj]
    refine aj ?_;exact nx (i+1,p,m) ⟨aa,gw⟩ (show C.length - (i+1)<C.length - i by omega) (by repeat' first|refine ae ?_ ?_|exact ag|exact ajs RO.cN e1.symm|(show(_:Int)=(_:Int);omega)|omega|exact rfl|(simp only [RO.len];omega))
   ·have h3:lv.getD i false=false:=h3
    refine Or.inr (Or.inl (cm [] [(1000,517),(1002,515),(1001,14),(37,545)] (Dv t g c C lv hS i bD (λv hv=>(hN.gp bD hv).1) aa p m gw) ?_));refine ae ab ?_;refine Or.inr (Or.inl (cn [] [(1000,517),(1002,515),(1001,14)] (Q7 t g c C lv hN hS ht i bD h3 R hRl (λd hd=>hk.2.2.2 d aa)) ?_));refine ae ab ?_;intro p2 GO;have GO:Fo t.length p2 (dE t.length (C.getD i [])).1:=GO;have hle:(jS t c C lv i).length<=i:=by unfold jS;rw [ajS];exact ajW (List.length_filter_le _ _) (by rw [List.length_range];exact ajl _)
    have cX:∀b,vl t c C lv i=b->jS t c C lv (i+1)=if b then jS t c C lv i++[(dE t.length (C.getD i [])).2] else jS t c C lv i:=λb hb=>by unfold jS;rw [List.range_succ,List.filter_append];cases b<;>simp [hb]
    refine ae (λh4=>?_) (λh4=>?_)
    ·have h4:vl t c C lv i=true:=h4
     have e1:jS t c C lv (i+1)=jS t c C lv i++[(dE t.length (C.getD i [])).2]:=cX true h4;refine ae (by rw [ajp,ajx];omega) ?_;refine aj ?_;exact nx (i+1,p2,_) ⟨aa,GO.len⟩ (show C.length - (i+1)<C.length - i by omega) (by repeat' first|refine ae ?_ ?_|exact ag|exact ajs RO.cN e1.symm|(show(_:Int)=(_:Int);omega)|omega|exact rfl|(simp only [RO.len];omega))
    ·have h4:vl t c C lv i=false:=h4
     have e1:jS t c C lv (i+1)=jS t c C lv i:=cX false h4;refine aj ?_;exact nx (i+1,p2,_) ⟨aa,GO.len⟩ (show C.length - (i+1)<C.length - i by omega) (by repeat' first|refine ae ?_ ?_|exact ag|exact ajs RO.cN e1.symm|(show(_:Int)=(_:Int);omega)|omega|exact rfl|(simp only [RO.len];omega))
  ·have h2:((oB C).length:Int)<=(i:Int):=h2
   have ei:i=C.length:=aa;refine af (jS t c C lv C.length) (ae (hN.atoms hs) ?_);have ea:jS t c C lv i=jS t c C lv C.length:=by rw [ei]
   repeat' first|refine ae ?_ ?_|exact ag|exact ajs RO.cN ea|omega|exact rfl
end Go.Proofs.YtgailjhnfghkgaaGreatDoor
end
