import Derived.Test.YtgailjhnfghkgaaGreatDoorMinsLaw
import Derived.Test.YtgailjhnfghkgaaGreatDoorDfa
import Derived.Test.YtgailjhnfghkgaaGreatDoorCgFor
import Derived.Test.YtgailjhnfghkgaaGreatDoorCgSyn
section
namespace Go.Proofs.YtgailjhnfghkgaaGreatDoor
open Go Go.AM
set_option maxRecDepth 100000
abbrev nwS(t:List (List Int))(g c:List Int)(C:List (List Nat))(lv:List Bool):ai:=[(1001,.box [.ro (.rows .i64 t),.vec 1006,.vec 1007,.vec 505,.vec 506]),(1006,.vec 0 (.ints .i64 g) []),(1007,.vec 0 (.ints .i64 c) []),(505,.vec 0 (.rows .i64 (n5 C)) []),(506,.vec 0 (.aL lv) [])]
abbrev Pz(t:List (List Int))(g:List Int)(o l c:List Int)(e:List Bool)(P:List (Nat × Nat))(K:List Nat)(C:List (List Nat))(lv:List Bool)(m:Nat):ai:=[(1000,.box [.ptr 1001 0,.vec 1002,.vec 1003,.vec 503,.vec 504,.vec 1005,.int .i64 m]),(1002,.vec 0 (.ints .i64 o) []),(1003,.vec 0 (.ints .i64 l) []),(503,.vec 0 (.aT (aN P)) []),(504,.vec 0 (.ints .i64 (gS K)) []),(1005,.vec 0 (.aL e) []),
 (1001,.box [.ro (.rows .i64 t),.vec 1006,.vec 1007,.vec 505,.vec 506]),(1006,.vec 0 (.ints .i64 g) []),(1007,.vec 0 (.ints .i64 c) []),(505,.vec 0 (.rows .i64 (n5 C)) []),(506,.vec 0 (.aL lv) [])]
theorem Lw{n a b:Nat}:((a:Int)=b->(-1:Int)=QW n a b)/\((a:Int)≠b->min (a:Int) b*n+max (a:Int) b=QW n a b):=by
 unfold QW
 constructor
 ·intro h;rw [if_pos aa]
 ·intro h
  rw [if_neg aa,Int.natCast_add,Int.natCast_mul,show((min a b:Nat):Int)=min (a:Int) b by omega,show((max a b:Nat):Int)=max (a:Int) b by omega]
theorem Te(t:List (List Int))(g c:List Int)(C:List (List Nat))(lv:List Bool)(hs:Sh t)(hg:∀x∈g,0<=x/\x<(t.length:Int))(v k:Nat)(hv:Gp t.length v)(hk:k<2*g.length):MF 147 [.ptr 1001 0,.int .i64 v,.int .i64 k] (nwS t g c C lv) (.int .i64 (oN t g v k)) (nwS t g c C lv):=tf Tryz.func147 (by decide+kernel) rfl (ah rfl) λ _=>by
 obtain⟨v1,v2,v3⟩:=iU hv;have lr:k / 2<g.length:=aa;have XK:=hg _ (an (d:=0) lr);have kT:=hs.most;have ex:(v:Int) / (t.length:Int)=((v / t.length:Nat):Int):=rfl;have ey:(v:Int) % (t.length:Int)=((v % t.length:Nat):Int):=rfl;have ek:((k:Int) / 2).toNat=k / 2:=aa;have KO:(g.getD (k / 2) 0).toNat<t.length:=aa;have rz:=hs.len KO;have rx:=hs.len v1;have ry:=hs.len v2
 have fin:∀a b:Nat,a<t.length->b<t.length->(-9223372036854775808<=min (a:Int) b*(t.length:Int)/\min (a:Int) b*(t.length:Int)<=9223372036854775807)/\ -9223372036854775808<=min (a:Int) b*(t.length:Int)+max (a:Int) b/\min (a:Int) b*(t.length:Int)+max (a:Int) b<=9223372036854775807:=λ a b ha hb=>by
  have h1:min a b*t.length<=400*400:=Nat.mul_le_mul aa kT;have h2:min (a:Int) b*(t.length:Int)=((min a b*t.length:Nat):Int):=by rw [Int.natCast_mul,show((min a b:Nat):Int)=min (a:Int) b by omega]
  omega
 refine Or.inl ?_;refine af [false,false,false,false,false,false,false,false,false,false,false,false,false,false,false,false,false] (ae (by decide+kernel) ?_);refine ae aa ?_;refine Or.inl ?_;refine ae aa ?_;refine ae aa ?_;refine ae aa ?_;refine Or.inl ?_;refine ae aa ?_;refine ae (λ h1=>?_) (λ h1=>?_)
 ·have h1:(k:Int) % 2=0:=h1
  have e1:=hs.bA KO v1;have e2:=hs.bA KO v2;have ea:gN t (g.getD (k / 2) 0).toNat (v / t.length) k=en t (g.getD (k / 2) 0).toNat (v / t.length):=by unfold gN;rw [if_pos aa]
  have eb:gN t (g.getD (k / 2) 0).toNat (v % t.length) k=en t (g.getD (k / 2) 0).toNat (v % t.length):=by unfold gN;rw [if_pos aa]
  have hp:=@Lw t.length (en t (g.getD (k / 2) 0).toNat (v / t.length)) (en t (g.getD (k / 2) 0).toNat (v % t.length));rw [<-e1.1,<-e2.1]at hp;have hf:=fin _ _ e1.2 e2.2;rw [<-e1.1,<-e2.1]at hf;unfold oN;rw [ea,eb];refine Or.inr (af .SY (ae (by decide+kernel) ?_));refine ae (show 0<=g.getD (k / 2) 0/\g.getD (k / 2) 0<(t.length:Int)from XK) ?_;refine ae ⟨Int.natCast_nonneg (v / t.length),show((v / t.length:Nat):Int)<((t.getD (g.getD (k / 2) 0).toNat []).length:Int)from rz.symm▸Int.ofNat_lt.2 v1⟩ ?_;refine ae (show 0<=g.getD (k / 2) 0/\g.getD (k / 2) 0<(t.length:Int)from XK) ?_;refine ae ⟨Int.natCast_nonneg (v % t.length),show((v % t.length:Nat):Int)<((t.getD (g.getD (k / 2) 0).toNat []).length:Int)from rz.symm▸Int.ofNat_lt.2 v2⟩ ?_;refine ae (λ h2=>?_) (λ h2=>?_)
  ·refine ae ?_ (hp.1 h2)
   repeat' first|refine ae ?_ ?_|exact ag|(show(_:Int)=(_:Int);omega)|omega|exact rfl|(simp only [RO.len];omega)
  ·have h2:(t.getD (g.getD (k / 2) 0).toNat []).getD (v / t.length) 0≠(t.getD (g.getD (k / 2) 0).toNat []).getD (v % t.length) 0:=h2
   refine ae hf.1 ?_;refine ae hf.2 ?_;refine ae ?_ (hp.2 h2)
   repeat' first|refine ae ?_ ?_|exact ag|(show(_:Int)=(_:Int);omega)|omega|exact rfl|(simp only [RO.len];omega)
 ·have h1:(k:Int) % 2≠0:=h1
  have e1:=hs.bA v1 KO;have e2:=hs.bA v2 KO;have ea:gN t (g.getD (k / 2) 0).toNat (v / t.length) k=en t (v / t.length) (g.getD (k / 2) 0).toNat:=by unfold gN;rw [if_neg aa]
  have eb:gN t (g.getD (k / 2) 0).toNat (v % t.length) k=en t (v % t.length) (g.getD (k / 2) 0).toNat:=by unfold gN;rw [if_neg aa]
  have hp:=@Lw t.length (en t (v / t.length) (g.getD (k / 2) 0).toNat) (en t (v % t.length) (g.getD (k / 2) 0).toNat);rw [<-e1.1,<-e2.1]at hp;have hf:=fin _ _ e1.2 e2.2;rw [<-e1.1,<-e2.1]at hf;unfold oN;rw [ea,eb];refine Or.inr (af .SY (ae (by decide+kernel) ?_));refine ae ⟨Int.natCast_nonneg (v / t.length),Int.ofNat_lt.2 v1⟩ ?_;refine ae (show 0<=g.getD (k / 2) 0/\g.getD (k / 2) 0<((t.getD (v / t.length) []).length:Int)from rx.symm▸XK) ?_;refine ae ⟨Int.natCast_nonneg (v % t.length),Int.ofNat_lt.2 v2⟩ ?_;refine ae (show 0<=g.getD (k / 2) 0/\g.getD (k / 2) 0<((t.getD (v % t.length) []).length:Int)from ry.symm▸XK) ?_;refine ae (λ h2=>?_) (λ h2=>?_)
  ·refine ae ?_ (hp.1 h2)
   repeat' first|refine ae ?_ ?_|exact ag|(show(_:Int)=(_:Int);omega)|omega|exact rfl|(simp only [RO.len];omega)
  ·have h2:(t.getD (v / t.length) []).getD (g.getD (k / 2) 0).toNat 0≠(t.getD (v % t.length) []).getD (g.getD (k / 2) 0).toNat 0:=h2
   refine ae hf.1 ?_;refine ae hf.2 ?_;refine ae ?_ (hp.2 h2)
   repeat' first|refine ae ?_ ?_|exact ag|(show(_:Int)=(_:Int);omega)|omega|exact rfl|(simp only [RO.len];omega)
theorem Th(t:List (List Int))(g o l c:List Int)(e:List Bool)(P:List (Nat × Nat))(K:List Nat)(C:List (List Nat))(lv:List Bool)(m:Nat)(v:Nat)(hv:v<o.length)(hl:l.length=o.length)(_ho:o.length<=160000)(hP:P.length<=160000)(hK:K.length<=160000)(hm:m<=160000):Iu TY SP Tryz.f146 [.ptr 1000 0,.int .i64 v] (Pz t g o l c e P K C lv m) (.cC []) (Pz t g (o.set v ((m+1:Nat):Int)) (l.set v ((m+1:Nat):Int)) c e ((v,0)::P) (v::K) C lv (m+1)):=by
 have e1:aN P++[((v:Int),0)]=aN ((v,0)::P):=mG (v,0) P;have e2:=J4 v K;have h1:(aN P++[((v:Int),0)]).length=P.length+1:=by rw [e1,fF];rfl
 have h2:(gS K++[(v:Int)]).length=K.length+1:=by rw [e2,pI];rfl
 refine ae aa ?_;refine Or.inl ?_;refine af [false,false,false,false,false,false,false,false,false,false,false,false,false,false,false,false,false,false,false,true,false,true] (ae (by decide+kernel) ?_);refine ae aa ?_;refine ae aa ?_;refine ae aa ?_;refine ae aa ?_;refine ae (show(((gS K++[(v:Int)]).length:Nat):Int)<=17592186044416 by omega) ?_;refine ae (show(((aN P++[((v:Int),0)]).length:Nat):Int)<=2199023255552 by omega) ?_;refine ae ?_ trivial
 repeat' first|refine ae ?_ ?_|exact ag|exact congrArg RO.aT e1|exact congrArg (RO.ints .i64) e2|(show(_:Int)=(_:Int);omega)|omega|exact rfl|(simp only [RO.len];omega)
theorem GF(t:List (List Int))(g o l c:List Int)(e:List Bool)(P:List (Nat × Nat))(K:List Nat)(C:List (List Nat))(lv:List Bool)(m:Nat)(v:Nat)(hv:v<o.length)(hl:l.length=o.length)(ho:o.length<=160000)(hP:P.length<=160000)(hK:K.length<=160000)(hm:m<=160000):MF 146 [.ptr 1000 0,.int .i64 v] (Pz t g o l c e P K C lv m) (.cC []) (Pz t g (o.set v ((m+1:Nat):Int)) (l.set v ((m+1:Nat):Int)) c e ((v,0)::P) (v::K) C lv (m+1)):=tf Tryz.func146 (by decide+kernel) rfl (ah rfl) λ _=>Th t g o l c e P K C lv m v hv hl ho hP hK hm
end Go.Proofs.YtgailjhnfghkgaaGreatDoor
end
section
namespace Go.Proofs.YtgailjhnfghkgaaGreatDoor
open Go Go.AM
set_option maxRecDepth 100000
set_option maxHeartbeats 4000000 in
theorem IJ(t:List (List Int))(g o l c:List Int)(e:List Bool)(P:List (Nat × Nat))(A:List Nat)(v:Nat)(B:List Nat)(C:List (List Nat))(lv:List Bool)(m:Nat)(hA:v∉A)(eZ:∀u∈v::A.reverse,u<c.length/\u<e.length)(hl:A.length+B.length<4096)(hC:C.length<=160000)(Vm:lv.length=C.length):
  MF 148 [.ptr 1000 0,.int .i64 v] (Pz t g o l c e P (A++v::B) C lv m) (.cC []) (Pz t g o l (cT c C.length (v::A.reverse)) e P B (C++[v::A.reverse]) (lv++[mn e (v::A.reverse)]) m):=tf Tryz.func148 (by decide+kernel) rfl (ah rfl) λ _=>by
 have hlen:(gS (A++v::B)).length=A.length+B.length+1:=by rw [pI];simp;omega
 have hdr:=J5 A v B;have tL:=J6 A v B;have xh:∀{j:Nat},j<=A.length->(gS (A++v::B)).getD (B.length+j) 0=(((v::A.reverse).getD j 0:Nat):Int):=λ hj=>Sm A v B hj;have Ob:(pB (v::A.reverse)).length=A.length+1:=by rw [zl];simp
 refine ae aa ?_;refine af []<|lp (X:=Nat) (λ j=>[(4,.int .i64 ((B.length+j:Nat):Int))]) (λ _=>[]) (λ j=>j<=A.length) (λ j=>j) A.length (Nat.le_refl _) (by repeat' first|refine ae ?_ ?_|exact ag|(show(_:Int)=(_:Int);omega)|omega|exact rfl) ?_
 intro j hj;refine ae aa ?_;refine ae (λ h1=>?_) (λ h1=>?_)
 ·have h1:(gS (A++v::B)).getD (B.length+j) 0≠(v:Int):=h1
  have D0:j≠0:=λ e1=>by subst e1;rw [xh (Nat.zero_le _)]at h1;exact h1 rfl
  refine ae aa ?_;exact nx (j - 1) (show j - 1<=A.length by omega) (show j - 1<j by omega) ab
 ·have h1:(gS (A++v::B)).getD (B.length+j) 0=(v:Int):=h1
  have D0:j=0:=by
   rw [xh hj]at h1;cases j with
   |zero=>rfl
   |succ j=>
    exfalso;have h2:(v::A.reverse).getD (j+1) 0=v:=aa;have h3:A.reverse.getD j 0=v:=h2;have h4:A.reverse.getD j 0∈A.reverse:=an (by rw [List.length_reverse];omega);rw [h3]at h4;exact hA (List.mem_reverse.1 h4)
  subst D0;have Y4:List.drop B.length (List.take (gS (A++v::B)).length (gS (A++v::B)))=pB (v::A.reverse):=by rw [List.take_length];exact hdr
  refine ae aa ?_;refine Or.inl ?_;refine ae aa ?_;refine cq (kR (pB (v::A.reverse)) aa) (ae (by exact congrArg (RO.ints .i64) Y4) ag) ?_;refine ae aa ?_;refine Or.inr ?_;refine af []<|lp (X:=Nat) (λ i=>[(44,.int .i64 i),(6,.bool (.v (mn e ((v::A.reverse).take i))))]) (λ i=>[(1007,.vec 0 (.ints .i64 (cT c C.length ((v::A.reverse).take i))) [])]) (λ i=>i<=A.length+1) (λ i=>A.length+1 - i) 0 (Nat.zero_le _) (by repeat' first|refine ae ?_ ?_|exact ag|(show(_:Int)=(_:Int);omega)|omega|exact rfl) ?_
  intro i hi;have XL:∀i,i<A.length+1->(v::A.reverse).getD i 0∈v::A.reverse:=λ i hi=>an (by simp;omega);refine ae (λ h2=>?_) (λ h2=>?_)
  ·have h2:(i:Int)<((pB (v::A.reverse)).length:Int):=h2
   have bL:i<A.length+1:=aa;have hu:=eZ _ (XL i bL);have hg:(pB (v::A.reverse)).getD i 0=(((v::A.reverse).getD i 0:Nat):Int):=tM (by simp;omega)
   have Wc:(v::A.reverse).take (i+1)=(v::A.reverse).take i++[(v::A.reverse).getD i 0]:=by
    rw [List.take_add_one,List.getElem?_eq_getElem (by simp;omega)];simp [List.getD,bL]
   have gi:=uE c C.length ((v::A.reverse).take i);have es:(cT c C.length ((v::A.reverse).take i)).set ((pB (v::A.reverse)).getD i 0).toNat ((n5 C).length:Int)=cT c C.length ((v::A.reverse).take (i+1)):=by rw [Wc,Bq,hg,uC];rfl
   have ea:mn e ((v::A.reverse).take (i+1))=(mn e ((v::A.reverse).take i)||e.getD ((pB (v::A.reverse)).getD i 0).toNat false):=by rw [Wc,HN,hg];rfl
   refine ae aa ?_;refine Or.inl ?_;refine af [false,false,false,false,false,false,false,false,false,false,false,false,false,false,false,false,false,true] (ae (by decide+kernel) ?_);refine ae (show 0<=(pB (v::A.reverse)).getD i 0/\(pB (v::A.reverse)).getD i 0<((cT c C.length ((v::A.reverse).take i)).length:Int) by omega) ?_;refine ae (show((0:Nat):Int)<=(pB (v::A.reverse)).getD i 0 by omega) ?_;refine ae (λ h3=>?_) (λ h3=>?_)
   ·have h3:mn e ((v::A.reverse).take i)=true:=h3
    rw [h3,Bool.true_or]at ea;refine ae aa ?_;exact nx (i+1) (show i+1<=A.length+1 by omega) (show A.length+1 - (i+1)<A.length+1 - i by omega) (by repeat' first|refine ae ?_ ?_|exact ag|exact congrArg (RO.ints .i64) es|exact ea.symm|(show(_:Int)=(_:Int);omega)|omega|exact rfl)
   ·have h3:mn e ((v::A.reverse).take i)=false:=h3
    rw [h3,Bool.false_or]at ea;refine ae (show 0<=(pB (v::A.reverse)).getD i 0/\(pB (v::A.reverse)).getD i 0<(e.length:Int) by omega) ?_;refine ae aa ?_;exact nx (i+1) (show i+1<=A.length+1 by omega) (show A.length+1 - (i+1)<A.length+1 - i by omega) (by repeat' first|refine ae ?_ ?_|exact ag|exact congrArg (RO.ints .i64) es|exact ea.symm|(show(_:Int)=(_:Int);omega)|omega|exact rfl)
  ·have h2:((pB (v::A.reverse)).length:Int)<=(i:Int):=h2
   have et:(v::A.reverse).take i=v::A.reverse:=List.take_of_length_le (by simp;omega);have sw:((n5 C)++[pB (v::A.reverse)]).length=C.length+1:=by rw [List.length_append,uC];rfl
   have mF:(lv++[mn e ((v::A.reverse).take i)]).length=C.length+1:=by rw [List.length_append,Vm];rfl
   refine Or.inr (af (.fst 0 (.fst 1 (.fst 2 (.fst 4 (.fst 5 (.fst 6 (.fst 11 (.br 3 (.br 7 (.fst 8 (.fst 9 (.br 10 (.br 12 (.br 13 (.fst 14 (.fst 15 (.br 16 .done .no))) .no) .no) (.br 12 (.br 10 (.br 13 (.fst 14 (.fst 15 (.br 16 .done .no))) .no) .no) .no)))) (.br 12 (.br 7 (.fst 8 (.fst 9 (.br 10 (.br 13 (.fst 14 (.fst 15 (.br 16 .done .no))) .no) .no))) .no) .no)) (.br 7 (.fst 8 (.fst 9 (.br 3 (.br 10 (.br 12 (.br 13 (.fst 14 (.fst 15 (.br 16 .done .no))) .no) .no) (.br 12 (.br 10 (.br 13 (.fst 14 (.fst 15 (.br 16 .done .no))) .no) .no) .no)) (.br 10 (.br 3 (.br 12 (.br 13 (.fst 14 (.fst 15 (.br 16 .done .no))) .no) .no) (.br 12 (.br 3 (.br 13 (.fst 14 (.fst 15 (.br 16 .done .no))) .no) (.br 13 (.br 3 (.fst 14 (.fst 15 (.br 16 .done .no))) .no) .no)) .no)) (.br 12 (.br 3 (.br 10 (.br 13 (.fst 14 (.fst 15 (.br 16 .done .no))) .no) .no) (.br 10 (.br 3 (.br 13 (.fst 14 (.fst 15 (.br 16 .done .no))) .no) (.br 13 (.br 3 (.fst 14 (.fst 15 (.br 16 .done .no))) .no) .no)) .no)) .no))))) (.br 12 (.br 3 (.br 7 (.fst 8 (.fst 9 (.br 10 (.br 13 (.fst 14 (.fst 15 (.br 16 .done .no))) .no) .no))) .no) (.br 7 (.fst 8 (.fst 9 (.br 3 (.br 10 (.br 13 (.fst 14 (.fst 15 (.br 16 .done .no))) .no) .no) (.br 10 (.br 3 (.br 13 (.fst 14 (.fst 15 (.br 16 .done .no))) .no) (.br 13 (.br 3 (.fst 14 (.fst 15 (.br 16 .done .no))) .no) .no)) .no)))) .no)) .no)))))))))) (ae (by decide+kernel) ?_));apply oW
   ·intro K hK
    repeat' first|refine ae ?_ ?_|exact ag|exact hK|(show(((n5 C++[pB (v::A.reverse)]).length:Nat):Int)<=2199023255552;omega)
   ·refine Or.inr (af (.fst 0 (.fst 1 (.fst 2 (.fst 4 (.fst 5 (.fst 6 (.fst 11 (.br 3 (.br 7 (.fst 8 (.fst 9 (.br 10 (.br 12 (.br 13 (.fst 14 (.fst 15 (.br 16 .done .no))) .no) .no) (.br 12 (.br 10 (.br 13 (.fst 14 (.fst 15 (.br 16 .done .no))) .no) .no) .no)))) (.br 12 (.br 7 (.fst 8 (.fst 9 (.br 10 (.br 13 (.fst 14 (.fst 15 (.br 16 .done .no))) .no) .no))) .no) .no)) (.br 7 (.fst 8 (.fst 9 (.br 3 (.br 10 (.br 12 (.br 13 (.fst 14 (.fst 15 (.br 16 .done .no))) .no) .no) (.br 12 (.br 10 (.br 13 (.fst 14 (.fst 15 (.br 16 .done .no))) .no) .no) .no)) (.br 10 (.br 3 (.br 12 (.br 13 (.fst 14 (.fst 15 (.br 16 .done .no))) .no) .no) (.br 12 (.br 3 (.br 13 (.fst 14 (.fst 15 (.br 16 .done .no))) .no) (.br 13 (.br 3 (.fst 14 (.fst 15 (.br 16 .done .no))) .no) .no)) .no)) (.br 12 (.br 3 (.br 10 (.br 13 (.fst 14 (.fst 15 (.br 16 .done .no))) .no) .no) (.br 10 (.br 3 (.br 13 (.fst 14 (.fst 15 (.br 16 .done .no))) .no) (.br 13 (.br 3 (.fst 14 (.fst 15 (.br 16 .done .no))) .no) .no)) .no)) .no))))) (.br 12 (.br 3 (.br 7 (.fst 8 (.fst 9 (.br 10 (.br 13 (.fst 14 (.fst 15 (.br 16 .done .no))) .no) .no))) .no) (.br 7 (.fst 8 (.fst 9 (.br 3 (.br 10 (.br 13 (.fst 14 (.fst 15 (.br 16 .done .no))) .no) .no) (.br 10 (.br 3 (.br 13 (.fst 14 (.fst 15 (.br 16 .done .no))) .no) (.br 13 (.br 3 (.fst 14 (.fst 15 (.br 16 .done .no))) .no) .no)) .no)))) .no)) .no)))))))))) (ae (by decide+kernel) ?_))
    apply oW
    ·intro K hK
     repeat' first|refine ae ?_ ?_|exact ag|exact hK|(show(((lv++[mn e ((v::A.reverse).take i)]).length:Nat):Int)<=17592186044416;omega)
    ·have q1:cT c C.length ((v::A.reverse).take i)=cT c C.length (v::A.reverse):=by rw [et]
     have q2:n5 C++[pB (v::A.reverse)]=n5 (C++[v::A.reverse]):=Ov C _;have q3:lv++[mn e ((v::A.reverse).take i)]=lv++[mn e (v::A.reverse)]:=by rw [et]
     refine ae ?_ trivial
     repeat' first|refine ae ?_ ?_|exact ag|exact congrArg (RO.ints .i64) q1|exact congrArg (RO.rows .i64) q2|exact congrArg RO.aL q3|exact congrArg (RO.ints .i64) tL|omega|exact rfl
end Go.Proofs.YtgailjhnfghkgaaGreatDoor
end
section
namespace Go.Proofs.YtgailjhnfghkgaaGreatDoor
open Go Go.AM
set_option maxRecDepth 100000
set_option maxHeartbeats 4000000 in
theorem PA(t:List (List Int))(g o0 l0 c0:List Int)(e0:List Bool)(C0:List (List Nat))(lv0:List Bool)(m0 v:Nat)(hs:Sh t)(ht:t.length<=60)(hg:∀x∈g,0<=x/\x<(t.length:Int))(tz:g.length<=t.length)(h0:Vs t g o0 l0 c0 e0 [] [] C0 lv0 m0)(hv:Gp t.length v)(gQ:l8 o0 v=0):
  NF 106 [.ptr 1000 0,.int .i64 v] (Pz t g o0 l0 c0 e0 [] [] C0 lv0 m0) (λ _:List Int × List Int × List Int × List Bool × List (List Nat) × List Bool × Nat=>.cC []) (Ge λ o l c e C lv m=>Pz t g o l c e [] [] C lv m) (Ge λ o l c e C lv m=>VOk t g o0 v o l c e C lv m):=Vk Tryz.func106 (by decide+kernel) rfl (ah rfl) λ _=>by
 have U5:t.length*t.length<=3600:=Nat.mul_le_mul ht ht;have Lx:=h0.ol;have ot:=h0.ll;have GD:=h0.Yk;have NZ:=hv.1;have h1:=h0.enter hv gQ (.inl ⟨rfl,rfl⟩);refine Or.inr (Or.inl (cm [] [(1000,1000),(1002,1002),(1003,1003),(503,503),(504,504),(1005,1005),(1001,1001),(1006,1006),(1007,1007),(505,505),(506,506)] (GF t g o0 l0 c0 e0 [] [] C0 lv0 m0 v aa aa aa (Nat.zero_le _) (Nat.zero_le _) aa) ?_));refine ae ab ?_;refine af []<|lp9 (λ(_ _ _:List Int) (_:List Bool) (_:List (Nat × Nat)) (_:List Nat) (_:List (List Nat)) (_:List Bool) (_:Nat)=>[]) (λ o l c e P K C lv m=>Pz t g o l c e P K C lv m) (λ o l c e P K C lv m=>Vs t g o l c e P K C lv m/\(∀u,l8 o0 u≠0->l8 o u≠0)/\l8 o v≠0) (λ _ _ _ _ P _ _ _ m=>DS (t.length*t.length) (2*g.length) P m) _ _ c0 e0 [(v,0)] [v] C0 lv0 (m0+1) ⟨h1,λ u hu=>?_,?_⟩ ab ?_
 ·rw [jO aa]
  by_cases e1:u=v
  ·subst e1;rw [dQ];omega
  ·rw [db e1];exact hu
 ·rw [jO aa,dQ];omega
 intro o l c e P K C lv m hi;have Rv:=hi.1;have qu:=hi.2.1;have Cw:=hi.2.2;have hb:=Rv.Yk;have acr:=Rv.ol;have acs:=Rv.ll;have Yc:=Rv.cl;have acu:=Rv.el;refine ae (λ h1=>?_) (λ h1=>?_)
 ·have h1:(0:Int)<((aN P).length:Int):=h1
  rw [fF]at h1
  have hP:∃p k r,P=(p,k)::r:=by
   cases P with
   |nil=>simp at h1
   |cons q r=>exact⟨q.1,q.2,r,rfl⟩
  refine Exists.elim hP λ p hP=>Exists.elim hP λ k hP=>Exists.elim hP λ r hP=>?_;have JR:Vs t g o l c e ((p,k)::r) K C lv m:=hP▸Rv;have gb:=JR.gp;have oa:=(JR.tj.rh _ (List.mem_cons_self ..)).2;have oa:k<=2*g.length:=oa;have hlen:(aN P).length=r.length+1:=by rw [hP,fF];rfl
  have Ly:r.length+1=P.length:=by rw [hP];rfl
  have xj:(aN P).getD r.length (0,0)=((p:Int),(k:Int)):=by rw [hP];exact uD (p,k) r
  have etn:(((aN P).length:Int) - 1).toNat=r.length:=aa;refine Or.inl ?_;refine af [false,false,false,false,false,false,false,false,false,false,false,false] (ae (by decide+kernel) ?_);refine ae (show -9223372036854775808<=((aN P).length:Int) - 1/\((aN P).length:Int) - 1<=9223372036854775807 by omega) ?_;refine ae aa ?_;have ek:cw 1 ((aN P).getD r.length (0,0))=(k:Int):=by rw [xj];rfl
  have ep:cw 0 ((aN P).getD r.length (0,0))=(p:Int):=by rw [xj];rfl
  have Ob:r.length<(aN P).length:=aa;have ek0:cw 1 ((aN P).getD (((aN P).length:Int) - 1).toNat (0,0))=(k:Int):=by rw [etn];exact ek
  have ep0:cw 0 ((aN P).getD (((aN P).length:Int) - 1).toNat (0,0))=(p:Int):=by rw [etn];exact ep
  refine Or.inl ?_;refine af [false,false,false,false,false,false,false,false,false,false,false,false,false,false] (ae (by decide+kernel) ?_);refine ae aa ?_;refine ae (λ h2=>?_) (λ h2=>?_)
  ·have h2:cw 1 ((aN P).getD (((aN P).length:Int) - 1).toNat (0,0))<2*(g.length:Int):=h2
   have hk:k<2*g.length:=aa;refine Or.inr (af (.fst 0 (.fst 1 (.fst 2 (.fst 4 (.fst 5 (.fst 6 (.fst 7 (.br 3 (.br 8 (.br 9 (.fst 10 .done) .no) .no) (.br 8 (.br 3 (.br 9 (.fst 10 .done) .no) .no) .no))))))))) (ae (by decide+kernel) ?_));apply oW
   ·intro K1 hK
    refine ae (ae (ae ?_ ag) ag) (ae (ae (ae ?_ ag) ag) ag)
    all_goals
     refine Or.inr (Or.inl (cm [] [(1001,1001),(1006,1006),(1007,1007),(505,505),(506,506)] (Te t g c C lv hs hg p k gb.1 hk) ?_));refine ae (by repeat' first|refine ae ?_ ?_|exact ag|exact ek0|exact ep0|(show(_:Int)=(_:Int);omega)|omega|exact rfl) ?_;exact hK
   ·have eset:(aN P).set (((aN P).length:Int) - 1).toNat (sL 1 ((aN P).getD (((aN P).length:Int) - 1).toNat (0,0)) (cw 1 ((aN P).getD (((aN P).length:Int) - 1).toNat (0,0))+1))=aN ((p,k+1)::r):=by
     rw [ek0,etn,xj,hP];exact Ow (p,k) (p,k+1) r
    have epn:(cw 0 ((aN P).getD (((aN P).length:Int) - 1).toNat (0,0))).toNat=p:=by rw [ep0];rfl
    have Y5:DS (t.length*t.length) (2*g.length) ((p,k+1)::r) m<DS (t.length*t.length) (2*g.length) P m:=by rw [hP];exact J8 hk
    refine ae aa ?_;refine ae aa ?_;refine ae (λ h3=>?_) (λ h3=>?_)
    ·have h3:oN t g p k<0:=h3
     exact nx (o,l,c,e,(p,k+1)::r,K,C,lv,m) ⟨JR.none hk h3,qu,Cw⟩ Y5 (by repeat' first|refine ae ?_ ?_|exact ag|exact congrArg RO.aT eset|(show(_:Int)=(_:Int);omega)|omega|exact rfl)
    ·have h3:0<=oN t g p k:=h3
     refine Exists.elim (Int.eq_ofNat_of_zero_le h3) λ w hw=>?_;have Y6:=QX hs hg gb.1 hk hw;have Ti:=Y6.1;have ewn:(oN t g p k).toNat=w:=aa;refine ae (show 0<=oN t g p k/\oN t g p k<(o.length:Int) by omega) ?_;refine ae (λ h4=>?_) (λ h4=>?_)
     ·have h4:o.getD (oN t g p k).toNat 0=0:=h4
      rw [ewn]at h4;have hVe:=JR.enter Y6 h4 (.inr ⟨p,k,r,rfl,hk,hw,rfl⟩);have PB:=hb.2.1 w Y6 h4;refine Or.inr (Or.inl (cm [] [(1000,1000),(1002,1002),(1003,1003),(503,503),(504,504),(1005,1005),(1001,1001),(1006,1006),(1007,1007),(505,505),(506,506)] (GF t g o l c e ((p,k+1)::r) K C lv m w aa aa aa (by simp only [List.length_cons];omega) aa aa) ?_));refine ae (by repeat' first|refine ae ?_ ?_|exact ag|exact hw|exact congrArg RO.aT eset|(show(_:Int)=(_:Int);omega)|omega|exact rfl) ?_;refine nx (o.set w ((m+1:Nat):Int),l.set w ((m+1:Nat):Int),c,e,(w,0)::(p,k+1)::r,w::K,C,lv,m+1) ⟨hVe,λ u hu=>?_,?_⟩ (by show DS (t.length*t.length) (2*g.length) ((w,0)::(p,k+1)::r) (m+1)<DS (t.length*t.length) (2*g.length) P m;rw [hP];exact HO PB hk) ab
      ·show l8 (o.set w _) u≠0
       rw [jO aa]
       by_cases e1:u=w
       ·subst e1;rw [dQ];omega
       ·rw [db e1];exact qu u hu
      ·show l8 (o.set w _) v≠0
       rw [jO aa]
       by_cases e1:v=w
       ·subst e1;rw [dQ];omega
       ·rw [db e1];exact Cw
     ·have h4:o.getD (oN t g p k).toNat 0≠0:=h4
      rw [ewn]at h4;refine ae (show 0<=oN t g p k/\oN t g p k<(c.length:Int) by omega) ?_;refine ae (λ h5=>?_) (λ h5=>?_)
      ·have h5:c.getD (oN t g p k).toNat 0<0:=h5
       rw [ewn,xS aa]at h5;have hVb:=JR.back hk hw h4 h5;have eb:l.set (cw 0 ((aN P).getD (((aN P).length:Int) - 1).toNat (0,0))).toNat (min (l.getD (cw 0 ((aN P).getD (((aN P).length:Int) - 1).toNat (0,0))).toNat 0) (o.getD (oN t g p k).toNat 0))=l.set p (min (l.getD p 0) (o.getD w 0)):=by rw [epn,ewn]
       refine Or.inl ?_;refine af [false,false,false,false,false,false,false,false,false,false,false,false,false,false,false,false,false,false,false,false,false,true] (ae (by decide+kernel) ?_);refine ae aa ?_;refine ae (show 0<=oN t g p k/\oN t g p k<(o.length:Int) by omega) ?_;refine ae aa ?_;refine ae aa ?_;exact nx (o,l.set p (min (l.getD p 0) (o.getD w 0)),c,e,(p,k+1)::r,K,C,lv,m) ⟨hVb,qu,Cw⟩ Y5 (by repeat' first|refine ae ?_ ?_|exact ag|exact congrArg RO.aT eset|exact congrArg (RO.ints .i64) eb|(show(_:Int)=(_:Int);omega)|omega|exact rfl)
      ·have h5:0<=c.getD (oN t g p k).toNat 0:=h5
       rw [ewn,xS aa]at h5;have hVa:=JR.Sc hk hw h5;have ea:e.set (cw 0 ((aN P).getD (((aN P).length:Int) - 1).toNat (0,0))).toNat true=e.set p true:=by rw [epn]
       refine ae aa ?_;refine ae aa ?_;exact nx (o,l,c,e.set p true,(p,k+1)::r,K,C,lv,m) ⟨hVa,qu,Cw⟩ Y5 (by repeat' first|refine ae ?_ ?_|exact ag|exact congrArg RO.aT eset|exact congrArg RO.aL ea|(show(_:Int)=(_:Int);omega)|omega|exact rfl)
  ·have h2:2*(g.length:Int)<=cw 1 ((aN P).getD (((aN P).length:Int) - 1).toNat (0,0)):=h2
   have hk:2*g.length<=k:=aa;refine Or.inl ?_;refine af [false,false,false,false,false,false,false,false,false,false,false,true,false,false,true] (ae (by decide+kernel) ?_);have epn:(cw 0 ((aN P).getD (((aN P).length:Int) - 1).toNat (0,0))).toNat=p:=by rw [ep0];rfl
   have epop:(List.drop 0 (List.take (((aN P).length:Int) - 1).toNat (aN P)))=aN r:=by rw [etn,hP];exact Ox (p,k) r
   have ze:DS (t.length*t.length) (2*g.length) r m<DS (t.length*t.length) (2*g.length) P m:=by rw [hP];exact Oy aa
   refine ae aa ?_;refine ae aa ?_;refine Or.inr ?_;refine Or.inl ?_;refine af [false,false,false,false,false,false,false,false,false,false,false,false,false,false,false] (ae (by decide+kernel) ?_);refine ae aa ?_;refine ae aa ?_;refine ae (λ h3=>?_) (λ h3=>?_)
   ·have h3:l.getD (cw 0 ((aN P).getD (((aN P).length:Int) - 1).toNat (0,0))).toNat 0=o.getD (cw 0 ((aN P).getD (((aN P).length:Int) - 1).toNat (0,0))).toNat 0:=h3
    rw [epn]at h3;refine Exists.elim JR.split λ A hA=>Exists.elim hA λ B Rw=>?_;have eK:=Rw.1;have hVk:Vs t g o l c e ((p,k)::r) (A++p::B) C lv m:=eK▸JR;have Y7:=hVk.close hk h3 Rw.2.2.2.1 (by rw [<-eK];exact Rw.2.2.2.2.1) Rw.2.2.2.2.2 Rw.2.2.1;have hKl:K.length=A.length+B.length+1:=by rw [eK,List.length_append,List.length_cons];omega
    have ecl:(cT c C.length (p::A.reverse)).length=t.length*t.length:=Y7.cl
    have Y8:(cT c C.length (p::A.reverse)).getD p 0=(C.length:Int):=by
     rw [xS aa,oO λ u hu=>(Rw.2.2.1 u hu).1,if_pos (List.mem_cons_self ..)]
    refine Or.inr (Or.inl (cm [] [(1000,1000),(1002,1002),(1003,1003),(503,503),(504,504),(1005,1005),(1001,1001),(1006,1006),(1007,1007),(505,505),(506,506)] (IJ t g o l c e r A p B C lv m Rw.2.1 Rw.2.2.1 aa aa hb.2.2.2.2.2) ?_));refine ae (by repeat' first|refine ae ?_ ?_|exact ag|exact ep0|exact congrArg RO.aT epop|exact congrArg (λ z=>RO.ints .i64 (gS z)) eK|(show(_:Int)=(_:Int);omega)|omega|exact rfl) ?_;refine ae (λ h4=>?_) (λ h4=>?_)
    ·have h4:(0:Int)<((aN r).length:Int):=h4
     rw [fF]at h4
     have hR:∃p2 j r2,r=(p2,j)::r2:=by
      cases r with
      |nil=>simp at h4
      |cons q r=>exact⟨q.1,q.2,r,rfl⟩
     refine Exists.elim hR λ p2 hR=>Exists.elim hR λ j hR=>Exists.elim hR λ r2 hR=>?_;have hlr:(aN r).length=r2.length+1:=by rw [hR,fF];rfl
     have Y9:r2.length+1=r.length:=by rw [hR];rfl
     have epar:cw 0 ((aN r).getD (((aN r).length:Int) - 1).toNat (0,0))=(p2:Int):=by
      rw [show(((aN r).length:Int) - 1).toNat=r2.length by omega,hR,uD (p2,j) r2];rfl
     have Km:p2<t.length*t.length:=by
      have:=JR.tj.od _ (JR.tj.rh (p2,j) (by rw [hR];exact List.mem_cons_of_mem _ (List.mem_cons_self ..))).1.1;exact this.1
     have eex:e.set (cw 0 ((aN r).getD (((aN r).length:Int) - 1).toNat (0,0))).toNat true=UF e r:=by rw [epar,hR];rfl
     refine Or.inl ?_;refine af [false,false,false,false,false,false,false,false,false,false,false,false,false,false] (ae (by decide+kernel) ?_);refine ae aa ?_;refine ae aa ?_;refine ae (show 0<=cw 0 ((aN P).getD (((aN P).length:Int) - 1).toNat (0,0))/\cw 0 ((aN P).getD (((aN P).length:Int) - 1).toNat (0,0))<((cT c C.length (p::A.reverse)).length:Int) by omega) ?_;refine ae (λ h5=>?_) (λ h5=>?_)
     ·have h5:(cT c C.length (p::A.reverse)).getD (cw 0 ((aN P).getD (((aN P).length:Int) - 1).toNat (0,0))).toNat 0<0:=h5
      rw [epn,Y8]at h5;exact absurd h5 aa
     ·refine ae (show 0<=cw 0 ((aN r).getD (((aN r).length:Int) - 1).toNat (0,0))/\cw 0 ((aN r).getD (((aN r).length:Int) - 1).toNat (0,0))<(e.length:Int) by omega) ?_
      refine ae (show((0:Nat):Int)<=cw 0 ((aN r).getD (((aN r).length:Int) - 1).toNat (0,0)) by omega) ?_;exact nx (o,l,cT c C.length (p::A.reverse),UF e r,r,B,C++[p::A.reverse],lv++[mn e (p::A.reverse)],m) ⟨Y7,qu,Cw⟩ ze (by repeat' first|refine ae ?_ ?_|exact ag|exact congrArg RO.aL eex|(show(_:Int)=(_:Int);omega)|omega|exact rfl)
    ·have h4:((aN r).length:Int)<=0:=h4
     rw [fF]at h4
     have eex:e=UF e r:=by
      cases r with
      |nil=>rfl
      |cons q r=>simp at h4;omega
     exact nx (o,l,cT c C.length (p::A.reverse),UF e r,r,B,C++[p::A.reverse],lv++[mn e (p::A.reverse)],m) ⟨Y7,qu,Cw⟩ ze (by repeat' first|refine ae ?_ ?_|exact ag|exact congrArg RO.aL eex|(show(_:Int)=(_:Int);omega)|omega|exact rfl)
   ·have h3:l.getD (cw 0 ((aN P).getD (((aN P).length:Int) - 1).toNat (0,0))).toNat 0≠o.getD (cw 0 ((aN P).getD (((aN P).length:Int) - 1).toNat (0,0))).toNat 0:=h3
    rw [epn]at h3;refine Exists.elim (JR.Se hk h3) λ p2 hf=>Exists.elim hf λ j hf=>Exists.elim hf λ r2 hf=>?_;have hR:=hf.1;have Km:=hf.2.2.1;have hVf:=hf.2.2.2;have hlr:(List.drop 0 (List.take (((aN P).length:Int) - 1).toNat (aN P))).length=r2.length+1:=by rw [epop,hR,fF];rfl
    have Y9:r2.length+1=r.length:=by rw [hR];rfl
    have epar:cw 0 ((List.drop 0 (List.take (((aN P).length:Int) - 1).toNat (aN P))).getD (((List.drop 0 (List.take (((aN P).length:Int) - 1).toNat (aN P))).length:Int) - 1).toNat (0,0))=(p2:Int):=by
     rw [show(((List.drop 0 (List.take (((aN P).length:Int) - 1).toNat (aN P))).length:Int) - 1).toNat=r2.length by omega,epop,hR,uD (p2,j) r2];rfl
    have epan:(cw 0 ((List.drop 0 (List.take (((aN P).length:Int) - 1).toNat (aN P))).getD (((List.drop 0 (List.take (((aN P).length:Int) - 1).toNat (aN P))).length:Int) - 1).toNat (0,0))).toNat=p2:=by rw [epar];rfl
    have Y8:c.getD p 0<0:=by rw [xS aa];exact(JR.tj.rh _ (List.mem_cons_self ..)).1.2
    have elo:l.set (cw 0 ((List.drop 0 (List.take (((aN P).length:Int) - 1).toNat (aN P))).getD (((List.drop 0 (List.take (((aN P).length:Int) - 1).toNat (aN P))).length:Int) - 1).toNat (0,0))).toNat (min (l.getD (cw 0 ((List.drop 0 (List.take (((aN P).length:Int) - 1).toNat (aN P))).getD (((List.drop 0 (List.take (((aN P).length:Int) - 1).toNat (aN P))).length:Int) - 1).toNat (0,0))).toNat 0) (l.getD (cw 0 ((aN P).getD (((aN P).length:Int) - 1).toNat (0,0))).toNat 0))=l.set p2 (min (l.getD p2 0) (l.getD p 0)):=by rw [epan,epn]
    refine ae (λ h4=>?_) (λ h4=>?_)
    ·refine Or.inl ?_
     refine af [false,false,false,false,false,false,false,false,false,false,false,false,false,false] (ae (by decide+kernel) ?_);refine ae (show -9223372036854775808<=((List.drop 0 (List.take (((aN P).length:Int) - 1).toNat (aN P))).length:Int) - 1/\((List.drop 0 (List.take (((aN P).length:Int) - 1).toNat (aN P))).length:Int) - 1<=9223372036854775807 by omega) ?_;refine ae (show 0<=((List.drop 0 (List.take (((aN P).length:Int) - 1).toNat (aN P))).length:Int) - 1/\((List.drop 0 (List.take (((aN P).length:Int) - 1).toNat (aN P))).length:Int) - 1<((List.drop 0 (List.take (((aN P).length:Int) - 1).toNat (aN P))).length:Int) by omega) ?_;refine ae aa ?_;refine ae (λ h5=>?_) (λ h5=>?_)
     ·refine Or.inl ?_
      refine af [false,false,false,false,false,false,false,false,false,false,false,false,false,false,false,false,false,false,false,false,false,true] (ae (by decide+kernel) ?_);refine ae aa ?_;refine ae aa ?_;refine ae aa ?_;refine ae aa ?_;exact nx (o,l.set p2 (min (l.getD p2 0) (l.getD p 0)),c,e,r,K,C,lv,m) ⟨hVf,qu,Cw⟩ ze (by repeat' first|refine ae ?_ ?_|exact ag|exact congrArg RO.aT epop|exact congrArg (RO.ints .i64) elo|(show(_:Int)=(_:Int);omega)|omega|exact rfl)
     ·have h5:0<=c.getD (cw 0 ((aN P).getD (((aN P).length:Int) - 1).toNat (0,0))).toNat 0:=h5
      rw [epn]at h5;exact absurd h5 aa
    ·have h4:((List.drop 0 (List.take (((aN P).length:Int) - 1).toNat (aN P))).length:Int)<=0:=h4
     exact absurd h4 aa
 ·have h1:((aN P).length:Int)<=0:=h1
  rw [fF]at h1;have hP:P=[]:=List.eq_nil_of_length_eq_zero aa;have hK:K=[]:=(Tj.Vp (hP▸Rv.tj)).1;have hVn:Vs t g o l c e [] [] C lv m:=by rw [<-hP];exact(hK▸Rv:Vs t g o l c e P [] C lv m)
  have eP:aN P=aN []:=by rw [hP]
  have eK:gS K=gS []:=by rw [hK]
  refine af (o,l,c,e,C,lv,m) (ae ⟨hVn,qu,Cw⟩ ?_);refine ae ?_ trivial
  repeat' first|refine ae ?_ ?_|exact ag|exact congrArg RO.aT eP|exact congrArg (RO.ints .i64) eK|(show(_:Int)=(_:Int);omega)|omega|exact rfl
end Go.Proofs.YtgailjhnfghkgaaGreatDoor
end
section
namespace Go.Proofs.YtgailjhnfghkgaaGreatDoor
open Go Go.AM
set_option maxRecDepth 100000
theorem Lz{TY:List cP}{F:Go.AM.Spec}{ops:List Oper}{t:Gf}{X:Type}{ok:X->Prop}{T0:List AV}{S0:ai}{T T':X->List AV}{S S':X->ai}{Q:List AV->ai->Prop}(h:∀K:List AV->ai->Prop,(∀z,ok z->K (T z) (S z))->(∀z,ok z->K (T' z) (S' z))->p5 TY F ops t T0 S0 K)(hq:∀z,ok z->Q (T z) (S z))(zk:∀z,ok z->Q (T' z) (S' z)):p5 TY F ops t T0 S0 Q:=h Q hq zk
abbrev Za(k:Nat)(t:List (List Int))(g c:List Int)(C:List (List Nat))(lv:List Bool):ai:=[(k,.box [.ro (.rows .i64 t),.ro (.ints .i64 g),.ro (.ints .i64 c),.ro (.rows .i64 (n5 C)),.ro (.aL lv)])]
set_option maxHeartbeats 4000000 in
theorem PC(t:List (List Int))(hs:Sh t)(ht:t.length<=60):NF 66 [.ro (.rows .i64 t)] [] (λ _:List Int × List Int × List (List Nat) × List Bool=>.ptr 19 0) (Ba λ g c C lv=>Za 19 t g c C lv) (Ba λ g c C lv=>cy t g c C lv):=Vk Tryz.func66 (by decide+kernel) rfl (ah rfl) λ _=>by
 have U5:t.length*t.length<=3600:=Nat.mul_le_mul ht ht;have hmul:(t.length:Int)*(t.length:Int)=((t.length*t.length:Nat):Int):=by rw [Int.natCast_mul]
 refine Or.inr (af (.fst 0 (.fst 1 (.fst 3 (.fst 4 (.br 2 (.br 5 (.br 6 (.br 7 (.br 8 (.fst 9 .done) .no) .no) .no) .no) (.br 5 (.br 2 (.br 6 (.br 7 (.br 8 (.fst 9 .done) .no) .no) .no) (.br 6 (.br 2 (.br 7 (.br 8 (.fst 9 .done) .no) .no) .no) .no)) .no)))))) (ae (by decide+kernel) ?_));have Tl: -9223372036854775808<=(t.length:Int)*(t.length:Int)/\(t.length:Int)*(t.length:Int)<=9223372036854775807:=aa;have DU:0<=(t.length:Int)*(t.length:Int)/\(t.length:Int)*(t.length:Int)<=(t.length:Int)*(t.length:Int):=aa;have Zb:(t.length:Int)*(t.length:Int)<=17592186044416:=aa;apply Lz (X:=List Int) (ok:=λ l=>pL t l/\l.length<=t.length)
 ·intro K1 hK hK'
  refine ae ?_ (ae ?_ ag)
  ·refine Or.inr (Or.inr (ce (qj t hs) (ae rfl ag) ?_))
   intro g hg;refine ae (ae Tl ?_) trivial;refine ae (ae DU (ae Zb ?_)) trivial;refine ae (ae ?_ ag) trivial;exact hK g hg
  ·refine ae Tl (ae ?_ (ae ?_ ag))
   ·refine Or.inr (Or.inr (ce (qj t hs) (ae rfl ag) ?_))
    intro g hg;refine ae (ae DU (ae Zb ?_)) trivial;refine ae (ae ?_ ag) trivial;exact hK g hg
   ·refine ae DU (ae Zb ?_)
    refine ae ?_ trivial;refine Or.inr (Or.inr (ce (qj t hs) (ae rfl ag) ?_));intro g hg;refine ae (ae ?_ ag) trivial;exact hK' g hg
 all_goals
  intro g hg;have V4:=hg.1.el;refine af []<|lA (λ(k:Nat) (_:List Int)=>[(25,.int .i64 k)]) (λ _ q=>[(17,.vec 0 (.ints .i64 q) [])]) (λ k q=>k<=t.length*t.length/\q.length=t.length*t.length/\∀j,j<k->q.getD j 0= -1) (λ k _=>t.length*t.length - k) 0 (List.replicate ((t.length:Int)*(t.length:Int)).toNat 0) ⟨Nat.zero_le _,by rw [List.length_replicate];omega,λ j h=>absurd h (Nat.not_lt_zero _)⟩ ab ?_
  rintro k q ⟨hk,xa,Yb⟩;refine ae (λ h1=>?_) (λ h1=>?_)
  ·have h1:(k:Int)<((List.replicate ((t.length:Int)*(t.length:Int)).toNat (0:Int)).length:Int):=h1
   rw [List.length_replicate]at h1;refine ae aa ?_;refine ae aa ?_;refine ae aa ?_;refine nx (k+1,q.set k (-1)) ⟨aa,by rw [List.length_set];exact xa,λ j hj=>?_⟩ (show t.length*t.length - (k+1)<t.length*t.length - k by omega) ab
   by_cases e1:j=k
   ·subst e1;exact aA aa
   ·rw [getD_set_ne (Ne.symm e1)];exact Yb j aa
  ·have h1:((List.replicate ((t.length:Int)*(t.length:Int)).toNat (0:Int)).length:Int)<=(k:Int):=h1
   rw [List.length_replicate]at h1
   have VJ:gC q=λ _=> -1:=funext λ v=>by
    by_cases hv:v<q.length
    ·rw [<-xS hv];exact Yb v aa
    ·unfold gC;rw [List.getD,List.getElem?_eq_none aa];rfl
   have zr:∀(n v:Nat),(List.replicate n (0:Int)).getD v 0=0:=λ n v=>by simp only [List.getD,List.getElem?_replicate];split<;>rfl
   have zb:∀(n v:Nat),(List.replicate n false).getD v false=false:=λ n v=>by simp only [List.getD,List.getElem?_replicate];split<;>rfl
   have hV0:Vs t g (List.replicate ((t.length:Int)*(t.length:Int)).toNat 0) (List.replicate ((t.length:Int)*(t.length:Int)).toNat 0) q (List.replicate ((t.length:Int)*(t.length:Int)).toNat false) [] [] [] [] 0:=
    ⟨by rw [List.length_replicate];omega,by rw [List.length_replicate];omega,xa,by rw [List.length_replicate];omega,by
     have e1:l8 (List.replicate ((t.length:Int)*(t.length:Int)).toNat 0)=λ _=>0:=funext λ v=>zr _ v;have e2:gB (List.replicate ((t.length:Int)*(t.length:Int)).toNat false)=λ _=>false:=funext λ v=>zb _ v;rw [e1,e2,VJ];exact Tj.start⟩
   refine Or.inl ?_;refine af [false,false,false,false,false,false,false,false,false,false,false,false,false,false,false,true] (ae (by decide+kernel) ?_);refine ae aa ?_;refine ae aa ?_;refine ae aa ?_;refine ae aa ?_;refine ae aa ?_;refine ae aa ?_;refine ae aa ?_;refine ae aa ?_;refine ae aa ?_;refine af []<|Xp (λ(x:Nat) (_ _ _:List Int) (_:List Bool) (_:List (List Nat)) (_:List Bool) (_:Nat)=>[(50,.int .i64 x)]) (λ _ o l c e C lv m=>[(6,.box [.ptr 19 0,.vec 39,.vec 43,.vec 501,.vec 502,.vec 47,.int .i64 m]),(39,.vec 0 (.ints .i64 o) []),(43,.vec 0 (.ints .i64 l) []),(501,.vec 0 (.aT (aN [])) []),(502,.vec 0 (.ints .i64 (gS [])) []),(47,.vec 0 (.aL e) []),(19,.box [.ro (.rows .i64 t),.vec 13,.vec 17,.vec 503,.vec 504]),(13,.vec 0 (.ints .i64 g) []),(17,.vec 0 (.ints .i64 c) []),(503,.vec 0 (.rows .i64 (n5 C)) []),(504,.vec 0 (.aL lv) [])]) (λ x o l c e C lv m=>x<=t.length/\Vs t g o l c e [] [] C lv m/\∀a b,a<b->b<t.length->a<x->l8 o (a*t.length+b)≠0) (λ x _ _ _ _ _ _ _=>t.length - x) 0 _ _ q _ [] [] 0 ⟨Nat.zero_le _,hV0,λ a b _ _ h=>absurd h (Nat.not_lt_zero _)⟩ ab ?_
   intro x o l c e C lv m hi;have hV:=hi.2.1;refine ae (λ h2=>?_) (λ h2=>?_)
   ·have h2:(x:Int)<(t.length:Int):=h2
    refine ae aa ?_;refine af []<|Xp (λ(y:Nat) (_ _ _:List Int) (_:List Bool) (_:List (List Nat)) (_:List Bool) (_:Nat)=>[(8,.int .i64 y)]) (λ _ o l c e C lv m=>[(6,.box [.ptr 19 0,.vec 39,.vec 43,.vec 501,.vec 502,.vec 47,.int .i64 m]),(39,.vec 0 (.ints .i64 o) []),(43,.vec 0 (.ints .i64 l) []),(501,.vec 0 (.aT (aN [])) []),(502,.vec 0 (.ints .i64 (gS [])) []),(47,.vec 0 (.aL e) []),(19,.box [.ro (.rows .i64 t),.vec 13,.vec 17,.vec 503,.vec 504]),(13,.vec 0 (.ints .i64 g) []),(17,.vec 0 (.ints .i64 c) []),(503,.vec 0 (.rows .i64 (n5 C)) []),(504,.vec 0 (.aL lv) [])]) (λ y o l c e C lv m=>x<y/\Vs t g o l c e [] [] C lv m/\∀a b,a<b->b<t.length->(a<x\/(a=x/\b<y))->l8 o (a*t.length+b)≠0) (λ y _ _ _ _ _ _ _=>t.length - y) (x+1) o l c e C lv m ⟨aa,hV,λ a b h3 h4 h5=>hi.2.2 a b h3 h4 aa⟩ ab ?_
    intro y o l c e C lv m hi;have hV:=hi.2.1;have Lx:=hV.ol;have hb:=hV.Yk;refine ae (λ h3=>?_) (λ h3=>?_)
    ·have h3:(y:Int)<(t.length:Int):=h3
     have xl:=uB (n:=t.length) hi.1 (y:=y) aa;have NZ:=xl.1.1;have Wd:(x:Int)*(t.length:Int)+(y:Int)=((x*t.length+y:Nat):Int):=by rw [Int.natCast_add,Int.natCast_mul]
     have aaU:(x:Int)*(t.length:Int)=((x*t.length:Nat):Int):=by rw [Int.natCast_mul]
     have etn:((x:Int)*(t.length:Int)+(y:Int)).toNat=x*t.length+y:=aa
     have step:∀{o':List Int},(∀u,l8 o u≠0->l8 o' u≠0)->l8 o' (x*t.length+y)≠0->∀a b,a<b->b<t.length->(a<x\/(a=x/\b<y+1))->l8 o' (a*t.length+b)≠0:=λ h4 h5 a b h6 h7 h8=>by
      by_cases e1:a=x/\b=y
      ·rw [e1.1,e1.2];exact h5
      ·exact h4 _ (hi.2.2 a b h6 h7 aa)
     refine ae aa ?_;refine ae aa ?_;refine ae aa ?_;refine ae (λ h4=>?_) (λ h4=>?_)
     ·have h4:o.getD ((x:Int)*(t.length:Int)+(y:Int)).toNat 0=0:=h4
      rw [etn]at h4;refine ae aa ?_;refine ae aa ?_;refine Or.inr (Or.inl (cn [] [(1000,6),(1002,39),(1003,43),(503,501),(504,502),(1005,47),(1001,19),(1006,13),(1007,17),(505,503),(506,504)] (PA t g o l c e C lv m (x*t.length+y) hs ht V4 hg.2 hV xl.1 h4) ?_));refine ae ab ?_;refine YF λ o2 l2 c2 e2 C2 lv2 m2 hz=>?_;refine ae aa ?_;exact nx (y+1,o2,l2,c2,e2,C2,lv2,m2) ⟨aa,hz.1,step hz.2.1 hz.2.2⟩ (show t.length - (y+1)<t.length - y by omega) ab
     ·have h4:o.getD ((x:Int)*(t.length:Int)+(y:Int)).toNat 0≠0:=h4
      rw [etn]at h4;refine ae aa ?_;exact nx (y+1,o,l,c,e,C,lv,m) ⟨aa,hV,step (λ _ h=>h) h4⟩ (show t.length - (y+1)<t.length - y by omega) ab
    ·have h3:(t.length:Int)<=(y:Int):=h3
     refine ae aa ?_;exact nx (x+1,o,l,c,e,C,lv,m) ⟨aa,hV,λ a b h4 h5 h6=>hi.2.2 a b h4 h5 aa⟩ (show t.length - (x+1)<t.length - x by omega) ab
   ·have h2:(t.length:Int)<=(x:Int):=h2
    refine af (g,c,C,lv) (ae ⟨hg.1,hg.2,hV.cl,hV.tj.toCl,λ v hv=>hV.tj.Vp.2 v ?_⟩ ?_)
    ·have h3:=iU hv
     have h4:=hi.2.2 (v / t.length) (v % t.length) hv.2 h3.2.1 aa;rw [show v / t.length*t.length+v % t.length=v by rw [Nat.mul_comm];exact Nat.div_add_mod v _]at h4;have h5:=hV.tj.o0 v;omega
    ·refine ae ?_ ?_
     all_goals (repeat' first|refine ae ?_ ?_|exact ag|(show(_:Int)=(_:Int);omega)|omega|exact rfl|(simp only [RO.len];omega))
end Go.Proofs.YtgailjhnfghkgaaGreatDoor
end
section
namespace Go.Proofs.YtgailjhnfghkgaaGreatDoor
open Go Go.AM
set_option maxRecDepth 100000
theorem GG(t:List (List Int))(g c:List Int)(C:List (List Nat))(lv:List Bool)(hp:0<t.length)(v:Nat):MF 108 [.ptr 1001 0,.int .i64 v] (Za 1001 t g c C lv) (.agg [.int .i64 ((v / t.length:Nat):Int),.int .i64 ((v % t.length:Nat):Int)]) (Za 1001 t g c C lv):=tf Tryz.func108 (by decide+kernel) rfl (ah rfl) λ _=>by
 refine Or.inl ?_;refine af [false,false,false,false,false,false,false,false,false,false,false,false,false,false,false,true] (ae (by decide+kernel) ?_);refine ae aa ?_;refine Or.inl ?_;refine ae aa ?_
 repeat' first|refine ae ?_ ?_|exact ag|(show(_:Int)=(_:Int);omega)|omega|exact rfl|(simp only [RO.len];omega)
abbrev XM(t:List (List Int))(g c:List Int)(C:List (List Nat))(lv:List Bool)(p:List Int)(m:Int):ai:=[(1000,.box [.vec 1002,.int .i64 m]),(1002,.vec 0 (.ints .i64 p) []),(1001,.box [.ro (.rows .i64 t),.ro (.ints .i64 g),.ro (.ints .i64 c),.ro (.rows .i64 (n5 C)),.ro (.aL lv)])]
theorem Cx(t:List (List Int))(g c:List Int)(C:List (List Nat))(lv:List Bool)(hs:Sh t)(i:Nat)(hi:i<C.length)(hm:∀v∈C.getD i [],Gp t.length v)(LA:(C.getD i []).length<=160000)(p:List Int)(m:Int)(gb:p.length=t.length):MF 68 [.ptr 1001 0,.ptr 1000 0,.int .i64 i] (XM t g c C lv p m) (.vec 37)
  ((37,.vec 0 (.aT (dy t.length (C.getD i [])).2) [])::XM t g c C lv (HQ t.length (C.getD i [])) (dR t.length (dy t.length (C.getD i [])).1)):=tf Tryz.func68 (by decide+kernel) rfl (ah rfl) λ _=>by
 have gV:=hs.pos;have kT:=hs.most;have da:=uC C;have zt:(n5 C).getD i []=pB (C.getD i []):=by simp [n5,List.getD,hi]
 refine Or.inr (Or.inl (cm [] [(1000,1000),(1001,1002)] (yk t.length p m gb aa) ?_));refine ae ab ?_;refine ae aa ?_;refine af []<|lp (X:=Nat) (λ j=>[(21,.int .i64 j),(7,.vec 37)]) (λ j=>[(37,.vec 0 (.aT (dy t.length ((C.getD i []).take j)).2) []),(1000,.box [.vec 1002,.int .i64 (dR t.length (dy t.length ((C.getD i []).take j)).1:Nat)]),(1002,.vec 0 (.ints .i64 (HQ t.length ((C.getD i []).take j))) [])]) (λ j=>j<=(C.getD i []).length) (λ j=>(C.getD i []).length - j) 0 (Nat.zero_le _) (by repeat' first|refine ae ?_ ?_|exact ag|exact congrArg (Nat.cast (R:=Int)) (Ka t.length).symm|(show(_:Int)=(_:Int);omega)|omega|exact rfl) ?_
 intro j hj;have tz:((n5 C).getD i []).length=(C.getD i []).length:=by rw [zt,zl]
 refine ae (λ h1=>?_) (λ h1=>?_)
 ·have h1:(j:Int)<(((n5 C).getD i []).length:Int):=h1
  have oy:j<(C.getD i []).length:=aa;have hv:=hm _ (an (d:=0) oy);obtain⟨v1,v2,_⟩:=iU hv;have Kg:((n5 C).getD i []).getD j 0=(((C.getD i []).getD j 0:Nat):Int):=by rw [zt];exact tM oy
  have tL:(C.getD i []).take (j+1)=(C.getD i []).take j++[(C.getD i []).getD j 0]:=cN oy;have hO:=snO (n:=t.length) ((C.getD i []).take j) λ v hv=>hm v (List.mem_of_mem_take hv);have UU:=hO.gh;have e1:HQ t.length ((C.getD i []).take (j+1))=JC (dy t.length ((C.getD i []).take j)).1 (HQ t.length ((C.getD i []).take j)) ((C.getD i []).getD j 0 / t.length) ((C.getD i []).getD j 0 % t.length):=by rw [tL,Br]
  have e2:(dy t.length ((C.getD i []).take (j+1))).1=zn (dy t.length ((C.getD i []).take j)).1 ((C.getD i []).getD j 0 / t.length) ((C.getD i []).getD j 0 % t.length):=by rw [tL,gT]
  have e2c:((dR t.length (zn (dy t.length ((C.getD i []).take j)).1 ((C.getD i []).getD j 0 / t.length) ((C.getD i []).getD j 0 % t.length)):Nat):Int)=((dR t.length (dy t.length ((C.getD i []).take (j+1))).1:Nat):Int):=by rw [e2]
  have e3:(dy t.length ((C.getD i []).take (j+1))).2=if (dy t.length ((C.getD i []).take j)).1 ((C.getD i []).getD j 0 / t.length)=(dy t.length ((C.getD i []).take j)).1 ((C.getD i []).getD j 0 % t.length) then (dy t.length ((C.getD i []).take j)).2 else (dy t.length ((C.getD i []).take j)).2++[((((C.getD i []).getD j 0 / t.length:Nat):Int),(((C.getD i []).getD j 0 % t.length:Nat):Int))]:=by rw [tL,gT]
  refine ae aa ?_;refine Or.inr (Or.inl (cm [] [(1001,1001)] (GG t g c C lv gV ((C.getD i []).getD j 0)) ?_));refine ae (by repeat' first|refine ae ?_ ?_|exact ag|exact Kg|(show(_:Int)=(_:Int);omega)|omega|exact rfl) ?_;refine ae aa ?_;refine ae (λ _=>?_) (ae (λ h9=>absurd (show(0:Int)=1 from h9) (by decide)) ag);refine ae aa ?_;refine ae (λ h9=>absurd (show(1:Int)=0 from h9) (by decide)) (ae (λ _=>?_) ag);refine Or.inr (Or.inl (cm [] [(1000,1000),(1001,1002)] (Ln t.length (HQ t.length ((C.getD i []).take j)) (dy t.length ((C.getD i []).take j)).1 ((C.getD i []).getD j 0 / t.length) ((C.getD i []).getD j 0 % t.length) hO.fo v1 v2 aa) ?_));refine ae ab ?_;refine ae (λ h2=>?_) (λ h2=>?_)
  ·have h2:decide ((dy t.length ((C.getD i []).take j)).1 ((C.getD i []).getD j 0 / t.length)≠(dy t.length ((C.getD i []).take j)).1 ((C.getD i []).getD j 0 % t.length))=true:=h2
   rw [if_neg (of_decide_eq_true h2)]at e3;refine ae (by rw [List.length_append,List.length_singleton];omega) ?_;refine ae aa ?_;exact nx (j+1) (show j+1<=(C.getD i []).length by omega) (show(C.getD i []).length - (j+1)<(C.getD i []).length - j by omega) (by repeat' first|refine ae ?_ ?_|exact ag|exact congrArg RO.aT e3.symm|exact congrArg (RO.ints .i64) e1.symm|exact e2c|(show(_:Int)=(_:Int);omega)|omega|exact rfl)
  ·have h2:decide ((dy t.length ((C.getD i []).take j)).1 ((C.getD i []).getD j 0 / t.length)≠(dy t.length ((C.getD i []).take j)).1 ((C.getD i []).getD j 0 % t.length))=false:=h2
   rw [if_pos (Classical.byContradiction λ bm=>of_decide_eq_false h2 bm)]at e3;refine ae aa ?_;exact nx (j+1) (show j+1<=(C.getD i []).length by omega) (show(C.getD i []).length - (j+1)<(C.getD i []).length - j by omega) (by repeat' first|refine ae ?_ ?_|exact ag|exact congrArg RO.aT e3.symm|exact congrArg (RO.ints .i64) e1.symm|exact e2c|(show(_:Int)=(_:Int);omega)|omega|exact rfl)
 ·have h1:(((n5 C).getD i []).length:Int)<=(j:Int):=h1
  have et:(C.getD i []).take j=C.getD i []:=List.take_of_length_le aa;have q1:(dy t.length ((C.getD i []).take j)).2=(dy t.length (C.getD i [])).2:=by rw [et]
  have q2:((dR t.length (dy t.length ((C.getD i []).take j)).1:Nat):Int)=((dR t.length (dy t.length (C.getD i [])).1:Nat):Int):=by rw [et]
  have q3:HQ t.length ((C.getD i []).take j)=HQ t.length (C.getD i []):=by rw [et]
  refine ae ?_ ?_
  all_goals (repeat' first|refine ae ?_ ?_|exact ag|exact congrArg RO.aT q1|exact congrArg (RO.ints .i64) q3|exact q2|(show(_:Int)=(_:Int);omega)|omega|exact rfl)
end Go.Proofs.YtgailjhnfghkgaaGreatDoor
end
section
namespace Go.Proofs.YtgailjhnfghkgaaGreatDoor
open Go Go.AM
set_option maxRecDepth 100000
def kV(n:Nat)(ms:List Nat):List Int:=ms.flatMap λ v=>[((v / n:Nat):Int),((v % n:Nat):Int)]
theorem LC(n:Nat)(ms:List Nat)(v:Nat):kV n (ms++[v])=kV n ms++[((v / n:Nat):Int),((v % n:Nat):Int)]:=by simp [kV]
def jn(T:List Int):List (List Int × Int):=T.map λ x=>([x],1)
theorem vJ(T:List Int)(x:Int):getM (jn T) [x]=if x∈T then some 1 else none:=by
 induction T with
 |nil=>rfl
 |cons a T ih=>
  show(if ([a]:List Int)=[x] then some 1 else getM (jn T) [x])=_
  by_cases e:a=x
  ·rw [if_pos (by rw [e]),if_pos (by rw [e];exact List.mem_cons_self ..)]
  ·rw [if_neg (λ h=>e (List.cons.inj h).1),ih]
   by_cases h:x∈T
   ·rw [if_pos h,if_pos (List.mem_cons_of_mem _ h)]
   ·rw [if_neg h,if_neg λ h2=>(List.mem_cons.1 h2).elim (λ h3=>e h3.symm) h]
theorem LD{T:List Int}{x:Int}(h:x∉T):kI (jn T) [x] 1=jn (T++[x]):=by
 rw [qs (by rw [vJ,if_neg h])];simp [jn]
theorem PD{L:List Int}{x:Int}(h:x∉ar L):ar (L++[x])=ar L++[x]:=by rw [bN,if_neg λ h2=>h (aE.2 h2)]
theorem PE{L:List Int}{x:Int}(h:x∈ar L):ar (L++[x])=ar L:=by rw [bN,if_pos (aE.1 h)]
theorem PF(n:Nat)(ms:List Nat):(kV n ms).length=2*ms.length:=by
 unfold kV
 induction ms with
 |nil=>rfl
 |cons a ms ih=>rw [List.flatMap_cons,List.length_append,ih];simp;omega
theorem Tn{n:Nat}{ms:List Nat}(h:∀v∈ms,Gp n v):(ar (kV n ms)).length<=n:=by
 have:=cv (eO (kV n ms)) (B:=(List.range n).map λ i:Nat=>(i:Int)) λ x hx=>by
  have hx:=aE.1 hx;unfold kV at hx;obtain⟨v,hv,hx⟩:=List.mem_flatMap.1 hx;have h1:=iU (h v hv);rcases List.mem_cons.1 hx with rfl|hx
  ·exact List.mem_map.2 ⟨_,List.mem_range.2 h1.1,rfl⟩
  ·rw [List.mem_singleton]at hx;subst hx
   exact List.mem_map.2 ⟨_,List.mem_range.2 h1.2.1,rfl⟩
 simpa using this
theorem To{n:Nat}{ms:List Nat}{a b:Nat}(h:Eg (dF (pJ n ms)) a b):a=b\/((a:Int)∈kV n ms/\(b:Int)∈kV n ms):=by
 refine h.least (Q:=λ a b=>a=b\/((a:Int)∈kV n ms/\(b:Int)∈kV n ms)) (λ _=>.inl rfl) (λ _ _ h=>h.imp Eq.symm λ h=>⟨h.2,h.1⟩) (λ a b c h h'=>?_) λ a b e=>.inr ?_
 ·rcases h with rfl|h
  ·exact h'
  ·rcases h' with rfl|h'
   ·exact .inr h
   ·exact .inr ⟨h.1,h'.2⟩
 ·obtain⟨v,hv,rfl,rfl⟩:=e6.1 e
  exact⟨List.mem_flatMap.2 ⟨v,hv,List.mem_cons_self ..⟩,List.mem_flatMap.2 ⟨v,hv,List.mem_cons_of_mem _ (List.mem_cons_self ..)⟩⟩
set_option maxHeartbeats 4000000 in
theorem PG(t:List (List Int))(g c:List Int)(C:List (List Nat))(lv:List Bool)(hN:cy t g c C lv)(hs:Sh t)(ht:t.length<=60)(i:Nat)(hi:i<C.length)(hl:lv.getD i false=false)(R:List Int)(hR:R.length=C.length)(hRk:∀d,d<C.length->lv.getD d false=false->R.getD d 0=(xk t C d:Int)):
  NF 69 [.ptr 1001 0,.ptr 1000 0,.int .i64 i,.ro (.ints .i64 R)] (XM t g c C lv (HQ t.length (C.getD i [])) (dR t.length (dy t.length (C.getD i [])).1)) (λ _:List Int=>.bool (.v (uF t c C lv i))) (λ p=>XM t g c C lv p (dR t.length (dy t.length (C.getD i [])).1)) (λ p=>Fo t.length p (dy t.length (C.getD i [])).1):=Vk Tryz.func69 (by decide+kernel) rfl (ah rfl) λ _=>by
 have hO:=hN.sO hi;have U5:t.length*t.length<=3600:=Nat.mul_le_mul ht ht;have ze:=hN.ml hi;have da:=uC C;have gV:=hs.pos;have zt:(n5 C).getD i []=pB (C.getD i []):=by simp [n5,List.getD,hi]
 have tz:((n5 C).getD i []).length=(C.getD i []).length:=by rw [zt,zl]
 refine ae aa ?_;refine af []<|lp (X:=Nat) (λ j=>[(35,.int .i64 j),(11,.vec 54)]) (λ j=>[(26,.map (.int .i64) none (jn (ar (kV t.length ((C.getD i []).take j))))),(54,.vec 0 (.ints .i64 (ar (kV t.length ((C.getD i []).take j)))) [])]) (λ j=>j<=(C.getD i []).length) (λ j=>(C.getD i []).length - j) 0 (Nat.zero_le _) ab ?_
 intro j hj;refine ae (λ h1=>?_) (λ h1=>?_)
 ·have h1:(j:Int)<(((n5 C).getD i []).length:Int):=h1
  have oy:j<(C.getD i []).length:=aa;have hv:=(hN.gp hi (an (d:=0) oy)).1;obtain⟨v1,v2,_⟩:=iU hv;have Kg:((n5 C).getD i []).getD j 0=(((C.getD i []).getD j 0:Nat):Int):=by rw [zt];exact tM oy
  have tL:(C.getD i []).take (j+1)=(C.getD i []).take j++[(C.getD i []).getD j 0]:=cN oy;refine ae aa ?_;refine Or.inr (Or.inl (cm [] [(1001,1001)] (GG t g c C lv gV ((C.getD i []).getD j 0)) ?_));refine ae (by repeat' first|refine ae ?_ ?_|exact ag|exact Kg|(show(_:Int)=(_:Int);omega)|omega|exact rfl) ?_;obtain⟨E,hE⟩:∃E,E=[((((C.getD i []).getD j 0) / t.length:Nat):Int),((((C.getD i []).getD j 0) % t.length:Nat):Int)]:=⟨_,rfl⟩;refine af []<|lp (X:=Nat) (λ q=>[(42,.int .i64 q),(11,.vec 54)]) (λ q=>[(26,.map (.int .i64) none (jn (ar (kV t.length ((C.getD i []).take j)++E.take q)))),(54,.vec 0 (.ints .i64 (ar (kV t.length ((C.getD i []).take j)++E.take q))) [])]) (λ q=>q<=2) (λ q=>2 - q) 0 (Nat.zero_le _) (by repeat' first|refine ae ?_ ?_|exact ag|exact congrArg (λ z=>RO.ints .i64 (ar z)) (List.append_nil _).symm|exact congrArg (λ z=>jn (ar z)) (List.append_nil _).symm|(show(_:Int)=(_:Int);omega)|omega|exact rfl) ?_
  intro q hq
  have hlq:(kV t.length ((C.getD i []).take j)++E.take q).length<=2*j+2:=by
   rw [List.length_append,PF,List.length_take,List.length_take,hE];simp;omega
  have hlf:=aZ (kV t.length ((C.getD i []).take j)++E.take q)
  have hS:∀x,q<2->E.getD q 0=x->kV t.length ((C.getD i []).take j)++E.take (q+1)=(kV t.length ((C.getD i []).take j)++E.take q)++[x]:=λ x NH hx=>by
   rw [cN (d:=(0:Int)) (by rw [hE];exact NH),hx,List.append_assoc]
  have We:∀x,q<2->E.getD q 0=x->(getM (jn (ar (kV t.length ((C.getD i []).take j)++E.take q))) [x]).getD 0=0->ar (kV t.length ((C.getD i []).take j)++E.take q)++[x]=ar (kV t.length ((C.getD i []).take j)++E.take (q+1))/\kI (jn (ar (kV t.length ((C.getD i []).take j)++E.take q))) [x] 1=jn (ar (kV t.length ((C.getD i []).take j)++E.take (q+1))):=λ x NH hx h3=>by
   have c9:x∉ar (kV t.length ((C.getD i []).take j)++E.take q):=λ hm=>by rw [vJ,if_pos hm]at h3;exact absurd h3 (by decide)
   have eT:=PD c9;rw [hS x NH hx,eT];exact⟨rfl,LD c9⟩
  have Wf:∀x,q<2->E.getD q 0=x->(getM (jn (ar (kV t.length ((C.getD i []).take j)++E.take q))) [x]).getD 0≠0->ar (kV t.length ((C.getD i []).take j)++E.take q)=ar (kV t.length ((C.getD i []).take j)++E.take (q+1)):=λ x NH hx h3=>by
   have j9:x∈ar (kV t.length ((C.getD i []).take j)++E.take q):=Classical.byContradiction λ hm=>by rw [vJ,if_neg hm]at h3;exact h3 rfl
   rw [hS x NH hx,PE j9]
  refine ae (λ h2=>?_) (λ h2=>?_)
  ·have h2:(q:Int)<2:=h2
   refine ae aa ?_;refine ae (λ Sg=>?_) (ae (λ Od=>?_) ag)
   ·have Sg:(q:Int)=0:=Sg
    have hx:E.getD q 0=(((C.getD i []).getD j 0 / t.length:Nat):Int):=by rw [hE,show q=0 by omega];rfl
    refine ae (λ h3=>?_) (λ h3=>?_)
    ·have hn:=We _ aa hx h3
     refine ae (by rw [List.length_append,List.length_singleton];omega) ?_;refine ae aa ?_;exact nx (q+1) (show q+1<=2 by omega) (show 2 - (q+1)<2 - q by omega) (by repeat' first|refine ae ?_ ?_|exact ag|exact congrArg (RO.ints .i64) hn.1|exact hn.2|(show(_:Int)=(_:Int);omega)|omega|exact rfl)
    ·have hn:=Wf _ aa hx h3
     have UQ:=congrArg jn hn;refine ae aa ?_;exact nx (q+1) (show q+1<=2 by omega) (show 2 - (q+1)<2 - q by omega) (by repeat' first|refine ae ?_ ?_|exact ag|exact congrArg (RO.ints .i64) hn|exact UQ|(show(_:Int)=(_:Int);omega)|omega|exact rfl)
   ·have Od:(q:Int)=1:=Od
    have hx:E.getD q 0=(((C.getD i []).getD j 0 % t.length:Nat):Int):=by rw [hE,show q=1 by omega];rfl
    refine ae (λ h3=>?_) (λ h3=>?_)
    ·have hn:=We _ aa hx h3
     refine ae (by rw [List.length_append,List.length_singleton];omega) ?_;refine ae aa ?_;exact nx (q+1) (show q+1<=2 by omega) (show 2 - (q+1)<2 - q by omega) (by repeat' first|refine ae ?_ ?_|exact ag|exact congrArg (RO.ints .i64) hn.1|exact hn.2|(show(_:Int)=(_:Int);omega)|omega|exact rfl)
    ·have hn:=Wf _ aa hx h3
     have UQ:=congrArg jn hn;refine ae aa ?_;exact nx (q+1) (show q+1<=2 by omega) (show 2 - (q+1)<2 - q by omega) (by repeat' first|refine ae ?_ ?_|exact ag|exact congrArg (RO.ints .i64) hn|exact UQ|(show(_:Int)=(_:Int);omega)|omega|exact rfl)
  ·have h2:(2:Int)<=(q:Int):=h2
   have e2:kV t.length ((C.getD i []).take j)++E.take q=kV t.length ((C.getD i []).take (j+1)):=by
    rw [tL,LC,show q=2 by omega,hE];rfl
   have e3:=congrArg ar e2;have e4:=congrArg jn e3;refine ae aa ?_;exact nx (j+1) (show j+1<=(C.getD i []).length by omega) (show(C.getD i []).length - (j+1)<(C.getD i []).length - j by omega) (by repeat' first|refine ae ?_ ?_|exact ag|exact congrArg (RO.ints .i64) e3|exact e4|(show(_:Int)=(_:Int);omega)|omega|exact rfl)
 ·have h1:(((n5 C).getD i []).length:Int)<=(j:Int):=h1
  obtain⟨X,hX⟩:∃X,X=jJ (ar (kV t.length ((C.getD i []).take j))):=⟨_,rfl⟩;have et:(C.getD i []).take j=C.getD i []:=List.take_of_length_le aa
  have hT0:0<(ar (kV t.length ((C.getD i []).take j))).length:=by
   rw [et];obtain⟨v,hv,_⟩:=hN.some hi;exact List.length_pos_of_mem (aE.2 (List.mem_flatMap.2 ⟨v,hv,List.mem_cons_self ..⟩))
  refine Or.inr (Or.inl (cm [] [(1000,54)] (O2 (ar (kV t.length ((C.getD i []).take j))) hT0) ?_));refine ae ab ?_;have hXl:X.length=(ar (kV t.length ((C.getD i []).take j))).length:=by rw [hX,kQ]
  have acG:X.length<=t.length:=by rw [hXl,et];exact Tn λ v hv=>(hN.gp hi hv).1
  have Zc:∀x,x∈X↔x∈kV t.length (C.getD i []):=λ x=>by rw [hX,(nL _).mem_iff,aE,et]
  have hXn:X.Pairwise (· <·):=by
   have h2:=BU (ar (kV t.length ((C.getD i []).take j)));have h3:(jJ (ar (kV t.length ((C.getD i []).take j)))).Nodup:=(nL _).nodup_iff.2 (eO _);rw [<-hX]at h2 h3;exact(List.pairwise_and_iff.2 ⟨h2,List.nodup_iff_pairwise_ne.1 h3⟩).imp λ h=>by omega
  have XN:∀a,a<X.length->0<=X.getD a 0/\X.getD a 0<(t.length:Int):=λ a ha=>by
   have h2:=(Zc _).1 (an (d:=0) ha);obtain⟨v,hv,h2⟩:=List.mem_flatMap.1 h2;have h3:=iU (hN.gp hi hv).1;rcases List.mem_cons.1 h2 with h2|h2
   ·rw [h2];exact⟨Int.natCast_nonneg _,Int.ofNat_lt.2 h3.1⟩
   ·rw [List.mem_singleton]at h2;rw [h2];exact⟨Int.natCast_nonneg _,Int.ofNat_lt.2 h3.2.1⟩
  have Tp:∀a b,a<b->b<X.length->X.getD a 0<X.getD b 0:=λ a b mh hb=>by
   have:=List.pairwise_iff_getElem.1 hXn a b aa hb mh
   simpa [List.getD,hb,show a<X.length by omega]using this
  have Wg:∀G:Nat->Nat->Prop,(∀a b,G a b↔((dy t.length (C.getD i [])).1 (X.getD a 0).toNat=(dy t.length (C.getD i [])).1 (X.getD b 0).toNat->lv.getD (gC c ((X.getD a 0).toNat*t.length+(X.getD b 0).toNat)).toNat false=true\/((i:Int)<=gC c ((X.getD a 0).toNat*t.length+(X.getD b 0).toNat)/\xk t C (gC c ((X.getD a 0).toNat*t.length+(X.getD b 0).toNat)).toNat=xk t C i)))->((∀a b,a<b->b<X.length->G a b)↔Eb t c C lv i):=λ G hG=>by
   constructor
   ·intro h2
    refine⟨hl,λ x y xl hy e=>?_⟩;have e:=(fG aa hy).1 e;have hm:=(To e).resolve_left aa;obtain⟨a,ha,hax⟩:=aV 0 ((Zc _).2 hm.1);obtain⟨b,hb,tt⟩:=aV 0 ((Zc _).2 hm.2)
    have mh:a<b:=by
     rcases Nat.lt_trichotomy a b with h3|h3|h3
     ·exact h3
     ·subst h3;omega
     ·have:=Tp b a h3 ha;omega
    have h4:=(hG a b).1 (h2 a b mh hb);rw [hax,tt,Int.toNat_natCast,Int.toNat_natCast]at h4;exact h4 ((hO.xd x y aa hy).2 e)
   ·intro h2 a b mh hb
    rw [hG];intro e;have ra:=XN a aa;have rb:=XN b hb;have aS:=Tp a b mh hb;exact h2.2 _ _ aa aa ((fG aa aa).2 ((hO.xd _ _ aa aa).1 e))
  obtain⟨G,hG⟩:∃G:Nat->Nat->Prop,∀a b,G a b↔((dy t.length (C.getD i [])).1 (X.getD a 0).toNat=(dy t.length (C.getD i [])).1 (X.getD b 0).toNat->lv.getD (gC c ((X.getD a 0).toNat*t.length+(X.getD b 0).toNat)).toNat false=true\/((i:Int)<=gC c ((X.getD a 0).toNat*t.length+(X.getD b 0).toNat)/\xk t C (gC c ((X.getD a 0).toNat*t.length+(X.getD b 0).toNat)).toNat=xk t C i)):=⟨_,λ _ _=>Iff.rfl⟩;have uG:=Wg G hG;refine af [10054,54,57,11,59]<|lA (λ(a:Nat) (_:List Int)=>[(61,.int .i64 a),(11,.ro (.ints .i64 X)),(59,.ro (.ints .i64 X))]) (λ _ p=>[(1002,.vec 0 (.ints .i64 p) [])]) (λ a p=>a<=X.length/\Fo t.length p (dy t.length (C.getD i [])).1/\∀a' b,a'<a->a'<b->b<X.length->G a' b) (λ a _=>X.length - a) 0 (HQ t.length (C.getD i [])) ⟨Nat.zero_le _,hO.fo,λ _ _ h=>absurd h (Nat.not_lt_zero _)⟩ (by repeat' first|refine ae ?_ ?_|exact ag|exact congrArg (RO.ints .i64) hX.symm|(show(_:Int)=(_:Int);omega)|omega|exact rfl) ?_
  rintro a p ⟨ha,U6,hGa⟩;refine ae (λ h2=>?_) (λ h2=>?_)
  ·have h2:(a:Int)<((jJ (ar (kV t.length ((C.getD i []).take j)))).length:Int):=h2
   rw [<-hX]at h2;have Bh:a<X.length:=aa;have XO:=XN a Bh;refine ae aa ?_;refine ae aa ?_;refine ae aa ?_;have JE:(List.drop (a+1) (List.take X.length X)).length=X.length - (a+1):=by rw [List.length_drop,List.length_take];omega
   refine af []<|lA (λ(q:Nat) (_:List Int)=>[(71,.int .i64 q)]) (λ _ p=>[(1002,.vec 0 (.ints .i64 p) [])]) (λ q p=>q<=X.length - (a+1)/\Fo t.length p (dy t.length (C.getD i [])).1/\∀b,a<b->b<a+1+q->G a b) (λ q _=>X.length - q) 0 p ⟨Nat.zero_le _,U6,λ b h3 h4=>by omega⟩ ab ?_
   rintro q p ⟨hq,U6,hGq⟩;refine ae (λ h3=>?_) (λ h3=>?_)
   ·have h3:(q:Int)<((List.drop (a+1) (List.take X.length X)).length:Int):=h3
    have xa:a+1+q<X.length:=aa;have Rb:=XN (a+1+q) xa
    have hy:(List.drop (a+1) (List.take X.length X)).getD q 0=X.getD (a+1+q) 0:=by
     rw [List.take_length];simp [List.getD]
    have hxc:X.getD a 0=(((X.getD a 0).toNat:Nat):Int):=aa;have hyc:(List.drop (a+1) (List.take X.length X)).getD q 0=(((X.getD (a+1+q) 0).toNat:Nat):Int):=aa;have xl:=Tp a (a+1+q) aa xa;have Wh:=fh ((X.getD a 0).toNat+1) U6 (i:=(X.getD a 0).toNat) aa;have LF:=fh ((X.getD (a+1+q) 0).toNat+1) Wh (i:=(X.getD (a+1+q) 0).toNat) aa;refine ae aa ?_;refine Or.inr (Or.inl (cm [] [(1000,1000),(1001,1002)] (qo t.length p (dy t.length (C.getD i [])).1 (dR t.length (dy t.length (C.getD i [])).1) (X.getD a 0).toNat U6 aa aa) ?_));refine ae (by repeat' first|refine ae ?_ ?_|exact ag|exact hxc|(show(_:Int)=(_:Int);omega)|omega|exact rfl) ?_;refine Or.inr (Or.inl (cm [] [(1000,1000),(1001,1002)] (qo t.length _ (dy t.length (C.getD i [])).1 (dR t.length (dy t.length (C.getD i [])).1) (X.getD (a+1+q) 0).toNat Wh aa aa) ?_));refine ae (by repeat' first|refine ae ?_ ?_|exact ag|exact hyc|(show(_:Int)=(_:Int);omega)|omega|exact rfl) ?_
    have stepG:G a (a+1+q)->∀b,a<b->b<a+1+(q+1)->G a b:=λ hg b h5 h6=>by
     by_cases e1:b=a+1+q
     ·rw [e1];exact hg
     ·exact hGq b h5 aa
    refine ae (λ h4=>?_) (λ h4=>?_)
    ·have h4:(((dy t.length (C.getD i [])).1 (X.getD a 0).toNat:Nat):Int)≠(((dy t.length (C.getD i [])).1 (X.getD (a+1+q) 0).toNat:Nat):Int):=h4
     have hg:G a (a+1+q):=(hG _ _).2 λ e=>absurd (congrArg (Nat.cast (R:=Int)) e) h4;refine ae aa ?_;exact nx (q+1,_) ⟨aa,LF,stepG hg⟩ (show X.length - (q+1)<X.length - q by omega) ab
    ·have h4:(((dy t.length (C.getD i [])).1 (X.getD a 0).toNat:Nat):Int)=(((dy t.length (C.getD i [])).1 (X.getD (a+1+q) 0).toNat:Nat):Int):=h4
     have h4:(dy t.length (C.getD i [])).1 (X.getD a 0).toNat=(dy t.length (C.getD i [])).1 (X.getD (a+1+q) 0).toNat:=aa;have Xw:=uB (n:=t.length) (x:=(X.getD a 0).toNat) (y:=(X.getD (a+1+q) 0).toNat) aa aa;have NZ:=Xw.1.1;have acK:=hN.cl;have hcd:=xS (L:=c) (v:=(X.getD a 0).toNat*t.length+(X.getD (a+1+q) 0).toNat) aa;have hd0:=hN.all _ Xw.1;have HK:=(hN.xT.ga _ hd0).2;have Wd:X.getD a 0*(t.length:Int)=(((X.getD a 0).toNat*t.length:Nat):Int):=by rw [Int.natCast_mul,<-hxc]
     have Zd:(X.getD a 0*(t.length:Int)+(List.drop (a+1) (List.take X.length X)).getD q 0).toNat=(X.getD a 0).toNat*t.length+(X.getD (a+1+q) 0).toNat:=aa;have Bu:c.getD (X.getD a 0*(t.length:Int)+(List.drop (a+1) (List.take X.length X)).getD q 0).toNat 0=gC c ((X.getD a 0).toNat*t.length+(X.getD (a+1+q) 0).toNat):=by rw [Zd];exact hcd
     have Ze:=hN.xT.lvl;have hRi:=hRk i hi hl;have bad:¬G a (a+1+q)->uF t c C lv i=false:=λ hg=>Bool.eq_false_iff.2 λ h5=>hg (uG.2 (kK.1 h5) a (a+1+q) aa xa);refine ae (show -9223372036854775808<=X.getD a 0*(t.length:Int)/\X.getD a 0*(t.length:Int)<=9223372036854775807 by omega) ?_;refine ae (show -9223372036854775808<=(X.getD a 0*(t.length:Int)+(List.drop (a+1) (List.take X.length X)).getD q 0)/\(X.getD a 0*(t.length:Int)+(List.drop (a+1) (List.take X.length X)).getD q 0)<=9223372036854775807 by omega) ?_;refine ae (show 0<=(X.getD a 0*(t.length:Int)+(List.drop (a+1) (List.take X.length X)).getD q 0)/\(X.getD a 0*(t.length:Int)+(List.drop (a+1) (List.take X.length X)).getD q 0)<(c.length:Int) by omega) ?_;refine Or.inl ?_;refine af [false,false,false,false,false,false,false,false,false,false,false,false,false,false,false,false,false,false,false,false,false,false,false,false] (ae (by decide+kernel) ?_);refine ae (show 0<=(c.getD (X.getD a 0*(t.length:Int)+(List.drop (a+1) (List.take X.length X)).getD q 0).toNat 0)/\(c.getD (X.getD a 0*(t.length:Int)+(List.drop (a+1) (List.take X.length X)).getD q 0).toNat 0)<(lv.length:Int) by omega) ?_;refine ae (λ h5=>?_) (λ h5=>?_)
     ·have h5:(!lv.getD (c.getD (X.getD a 0*(t.length:Int)+(List.drop (a+1) (List.take X.length X)).getD q 0).toNat 0).toNat false)=true:=h5
      rw [Bool.not_eq_true',Bu]at h5;refine ae (λ h6=>?_) (λ h6=>?_)
      ·have h6:(c.getD (X.getD a 0*(t.length:Int)+(List.drop (a+1) (List.take X.length X)).getD q 0).toNat 0)<(i:Int):=h6
       rw [Bu]at h6
       have Ra:=bad λ hg=>by
        have h7:=(hG _ _).1 hg h4;rw [h5]at h7;have:=h7.resolve_left (by decide);omega
       refine af _ (ae LF ?_);refine ae ?_ Ra.symm
       repeat' first|refine ae ?_ ?_|exact ag|(show(_:Int)=(_:Int);omega)|omega|exact rfl|(simp only [RO.len];omega)
      ·have h6:(i:Int)<=(c.getD (X.getD a 0*(t.length:Int)+(List.drop (a+1) (List.take X.length X)).getD q 0).toNat 0):=h6
       rw [Bu]at h6;have hRd:=hRk (gC c ((X.getD a 0).toNat*t.length+(X.getD (a+1+q) 0).toNat)).toNat aa h5;refine ae (show 0<=(c.getD (X.getD a 0*(t.length:Int)+(List.drop (a+1) (List.take X.length X)).getD q 0).toNat 0)/\(c.getD (X.getD a 0*(t.length:Int)+(List.drop (a+1) (List.take X.length X)).getD q 0).toNat 0)<(R.length:Int) by omega) ?_;refine ae aa ?_;refine ae (λ h7=>?_) (λ h7=>?_)
       ·have h7:R.getD (c.getD (X.getD a 0*(t.length:Int)+(List.drop (a+1) (List.take X.length X)).getD q 0).toNat 0).toNat 0≠R.getD i 0:=h7
        rw [Bu,hRd,hRi]at h7
        have Ra:=bad λ hg=>by
         have h8:=(hG _ _).1 hg h4;rw [h5]at h8;have:=(h8.resolve_left (by decide)).2;omega
        refine af _ (ae LF ?_);refine ae ?_ Ra.symm
        repeat' first|refine ae ?_ ?_|exact ag|(show(_:Int)=(_:Int);omega)|omega|exact rfl|(simp only [RO.len];omega)
       ·have h7:R.getD (c.getD (X.getD a 0*(t.length:Int)+(List.drop (a+1) (List.take X.length X)).getD q 0).toNat 0).toNat 0=R.getD i 0:=h7
        rw [Bu,hRd,hRi]at h7;refine ae aa ?_;exact nx (q+1,_) ⟨aa,LF,stepG ((hG _ _).2 λ _=>.inr ⟨h6,aa⟩)⟩ (show X.length - (q+1)<X.length - q by omega) ab
     ·have h5:(!lv.getD (c.getD (X.getD a 0*(t.length:Int)+(List.drop (a+1) (List.take X.length X)).getD q 0).toNat 0).toNat false)=false:=h5
      rw [Bool.not_eq_false',Bu]at h5;refine ae aa ?_;exact nx (q+1,_) ⟨aa,LF,stepG ((hG _ _).2 λ _=>.inl h5)⟩ (show X.length - (q+1)<X.length - q by omega) ab
   ·have h3:((List.drop (a+1) (List.take X.length X)).length:Int)<=(q:Int):=h3
    refine ae aa ?_;refine nx (a+1,p) ⟨aa,U6,λ a' b h4 h5 h6=>?_⟩ (show X.length - (a+1)<X.length - a by omega) ab
    by_cases e1:a'=a
    ·rw [e1]at h5 ⊢;exact hGq b h5 aa
    ·exact hGa a' b aa h5 h6
  ·have h2:((jJ (ar (kV t.length ((C.getD i []).take j)))).length:Int)<=(a:Int):=h2
   rw [<-hX]at h2;have Pq:uF t c C lv i=true:=kK.2 (uG.1 λ a' b h3 h4=>hGa a' b aa h3 h4);refine af p (ae U6 ?_);refine ae ?_ Pq.symm
   repeat' first|refine ae ?_ ?_|exact ag|(show(_:Int)=(_:Int);omega)|omega|exact rfl|(simp only [RO.len];omega)
end Go.Proofs.YtgailjhnfghkgaaGreatDoor
end
section
namespace Go.Proofs.YtgailjhnfghkgaaGreatDoor
open Go Go.AM
set_option maxRecDepth 100000
set_option maxHeartbeats 4000000 in
theorem vK(t:List (List Int))(hs:Semi t)(ht:t.length<=60):EF 28 [.ro (.rows .i64 t)] (λ L:List (List (Int × Int))=>.ro (.cH L)) (λ L=>cW t L):=HG Tryz.func28 (by decide+kernel) rfl (ah rfl) λ _=>by
 have hS:=hs.toSh;have U5:t.length*t.length<=3600:=Nat.mul_le_mul ht ht;refine Or.inl (cq (LG t hS) (ae rfl ag) ?_);refine Or.inr (Or.inl (cn [] [(19,14)] (PC t hS ht) ?_));refine ae ab ?_;refine Vl λ g c C lv hN=>?_;have hN:cy t g c C lv:=hN;have da:=uC C;have hCl:=hN.xT.Ea (N:=t.length*t.length) λ v hv=>hv.1;have Ze:=hN.xT.lvl;refine Or.inr (Or.inl (cm [] [(7,517),(5,515)] (Ps t.length aa) ?_));refine ae ab ?_;refine ae aa ?_;refine ae aa ?_;have zr:∀n,(List.replicate n (0:Int)).length=n:=λ n=>List.length_replicate;refine af []<|YZ (λ(k:Nat) (_ _:List Int) (_:Int)=>[(29,.int .i64 k)]) (λ _ R p m=>[(23,.vec 0 (.ints .i64 R) []),(517,.box [.vec 515,.int .i64 m]),(515,.vec 0 (.ints .i64 p) [])]) (λ k R p _=>k<=C.length/\R.length=C.length/\p.length=t.length/\∀d,d<k->lv.getD d false=false->R.getD d 0=(xk t C d:Int)) (λ k _ _ _=>C.length - k) 0 (List.replicate (n5 C).length 0) (cV t.length) t.length ⟨Nat.zero_le _,by rw [zr];exact da,bM _,λ d h=>absurd h (Nat.not_lt_zero _)⟩ ab ?_
 intro k R p m hk;have Zf:=hk.2.1;have gb:=hk.2.2.1;refine ae (λ h1=>?_) (λ h1=>?_)
 ·have h1:(k:Int)<((n5 C).length:Int):=h1
  have lr:k<C.length:=aa;have ze:=hN.ml lr;have acM:(dy t.length (C.getD k [])).2.length<=t.length:=by have:=(hN.sO lr).gh;omega
  refine ae aa ?_;refine ae (λ h2=>?_) (λ h2=>?_)
  ·have h2:(!lv.getD k false)=true:=h2
   rw [Bool.not_eq_true']at h2;refine Or.inr (Or.inl (cm [] [(1000,517),(1002,515),(1001,14),(37,545)] (Cx t g c C lv hS k lr (λ v hv=>(hN.gp lr hv).1) aa p m gb) ?_));refine ae ab ?_;have hO:=hN.sO lr;refine ae aa ?_;refine ae aa ?_;refine ae aa ?_;refine nx (k+1,R.set k (((dy t.length (C.getD k [])).2.length:Nat):Int),_,_) ⟨aa,by rw [List.length_set];exact Zf,hO.fo.len,λ d hd DT=>?_⟩ (show C.length - (k+1)<C.length - k by omega) ab
   by_cases e1:d=k
   ·rw [e1,aA aa];rfl
   ·rw [getD_set_ne (Ne.symm e1)];exact hk.2.2.2 d aa DT
  ·have h2:(!lv.getD k false)=false:=h2
   rw [Bool.not_eq_false']at h2;refine ae aa ?_;refine nx (k+1,R,p,m) ⟨aa,Zf,gb,λ d hd DT=>?_⟩ (show C.length - (k+1)<C.length - k by omega) ab
   by_cases e1:d=k
   ·rw [e1,h2]at DT;cases DT
   ·exact hk.2.2.2 d aa DT
 ·have h1:((n5 C).length:Int)<=(k:Int):=h1
  refine af [10023,23,5]<|A9 (λ(i:Nat) (_:List Int) (_:Int)=>[(54,.int .i64 i),(7,.vec 76),(5,.ro (.ints .i64 R))]) (λ i p m=>[(76,.vec 0 (.cH (jG t c C lv i)) []),(517,.box [.vec 515,.int .i64 m]),(515,.vec 0 (.ints .i64 p) [])]) (λ i p _=>i<=C.length/\p.length=t.length) (λ i _ _=>C.length - i) 0 p m ⟨Nat.zero_le _,gb⟩ ab ?_
  intro i p m hi;have gb:=hi.2;refine ae (λ h2=>?_) (λ h2=>?_)
  ·have h2:(i:Int)<((n5 C).length:Int):=h2
   have bL:i<C.length:=aa;have ze:=hN.ml bL;refine ae aa ?_;refine ae (λ h3=>?_) (λ h3=>?_)
   ·have h3:lv.getD i false=true:=h3
    have c9:uF t c C lv i=false:=Bool.eq_false_iff.2 λ h4=>by have:=(kK.1 h4).1;rw [h3]at this;cases this
    have e1:jG t c C lv (i+1)=jG t c C lv i:=by unfold jG;rw [List.range_succ,List.filter_append];simp [c9]
    refine ae aa ?_;exact nx (i+1,p,m) ⟨aa,gb⟩ (show C.length - (i+1)<C.length - i by omega) (by repeat' first|refine ae ?_ ?_|exact ag|exact congrArg RO.cH e1.symm|(show(_:Int)=(_:Int);omega)|omega|exact rfl|(simp only [RO.len];omega))
   ·have h3:lv.getD i false=false:=h3
    refine Or.inr (Or.inl (cm [] [(1000,517),(1002,515),(1001,14),(37,545)] (Cx t g c C lv hS i bL (λ v hv=>(hN.gp bL hv).1) aa p m gb) ?_));refine ae ab ?_;refine Or.inr (Or.inl (cn [] [(1000,517),(1002,515),(1001,14)] (PG t g c C lv hN hS ht i bL h3 R Zf (λ d hd=>hk.2.2.2 d aa)) ?_));refine ae ab ?_;intro p2 Km;have Km:Fo t.length p2 (dy t.length (C.getD i [])).1:=Km;have hle:(jG t c C lv i).length<=i:=by unfold jG;rw [List.length_map];exact Nat.le_trans (List.length_filter_le _ _) (by rw [List.length_range];exact Nat.le_refl _)
    have c8:∀b,uF t c C lv i=b->jG t c C lv (i+1)=if b then jG t c C lv i++[(dy t.length (C.getD i [])).2] else jG t c C lv i:=λ b hb=>by unfold jG;rw [List.range_succ,List.filter_append];cases b<;>simp [hb]
    refine ae (λ h4=>?_) (λ h4=>?_)
    ·have h4:uF t c C lv i=true:=h4
     have e1:jG t c C lv (i+1)=jG t c C lv i++[(dy t.length (C.getD i [])).2]:=c8 true h4;refine ae (by rw [List.length_append,List.length_singleton];omega) ?_;refine ae aa ?_;exact nx (i+1,p2,_) ⟨aa,Km.len⟩ (show C.length - (i+1)<C.length - i by omega) (by repeat' first|refine ae ?_ ?_|exact ag|exact congrArg RO.cH e1.symm|(show(_:Int)=(_:Int);omega)|omega|exact rfl|(simp only [RO.len];omega))
    ·have h4:uF t c C lv i=false:=h4
     have e1:jG t c C lv (i+1)=jG t c C lv i:=c8 false h4;refine ae aa ?_;exact nx (i+1,p2,_) ⟨aa,Km.len⟩ (show C.length - (i+1)<C.length - i by omega) (by repeat' first|refine ae ?_ ?_|exact ag|exact congrArg RO.cH e1.symm|(show(_:Int)=(_:Int);omega)|omega|exact rfl|(simp only [RO.len];omega))
  ·have h2:((n5 C).length:Int)<=(i:Int):=h2
   have ei:i=C.length:=aa;refine af (jG t c C lv C.length) (ae (hN.atoms hs) ?_);have ea:jG t c C lv i=jG t c C lv C.length:=by rw [ei]
   repeat' first|refine ae ?_ ?_|exact ag|exact congrArg RO.cH ea|omega|exact rfl
end Go.Proofs.YtgailjhnfghkgaaGreatDoor
end
