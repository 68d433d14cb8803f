import Derived.Test.YtgailjhnfghkgaaGreatDoorOrd
import Derived.Test.YtgailjhnfghkgaaGreatDoorCmTz
import Derived.Test.YtgailjhnfghkgaaGreatDoorCmCode
import Derived.Shelf.Strings.Builder1
import Derived.Test.YtgailjhnfghkgaaGreatDoorProg
import Derived.Test.YtgailjhnfghkgaaGreatDoorMult
import Derived.Test.YtgailjhnfghkgaaGreatDoorLay
import Derived.Test.YtgailjhnfghkgaaGreatDoorEnLaw
import Derived.Test.YtgailjhnfghkgaaGreatDoorCloneB
import Derived.Test.YtgailjhnfghkgaaGreatDoorSyV
import Derived.Test.YtgailjhnfghkgaaGreatDoorSdApLaw
import Derived.Test.YtgailjhnfghkgaaGreatDoorSd
import Derived.Test.YtgailjhnfghkgaaGreatDoorDfa
import Derived.Test.YtgailjhnfghkgaaGreatDoorRows
import Derived.Deep.Matrix
import Derived.Deep.Fields
import Derived.SizedLaws
import Derived.Carry
import Derived.WideKeyArgs
import Derived.ProofKit
import Derived.OpenShut
import Derived.ChangeMaps5
section
namespace Go.Proofs.YtgailjhnfghkgaaGreatDoor
open Go Go.AM Go.CM
set_option maxRecDepth 100000
noncomputable section
def tzK(f:FuncId)(args:List CV)(s:HS):Option (CV × HS):=
 bt (Nat.beq f 138) (match args with
  |[]=>none
  |a::l=>(match l with|[]=>bo (O5 a) λp=>bt (kq p.1 .u64) (bo (I8 p.2) λn=>some (.c (.int .i64 (Lib.ctz 64 n)),s))|_::_=>none))
def ccH(k:Nat)(l:List CC)(g:Option (Nat × Nat))(s:HS):Option (CV × HS):=
 match l with
 |[]=>none
 |a::l=>(match l with
  |[]=>none
  |x::l=>(match l with
   |_::_=>none
   |[]=>(match a with
    |.dO=>(match g with|none=>none|some p=>bt (Nat.beq p.1 0) (bt (Nat.beq p.2 178) (some (.t [],s.put k (.cells [.ptr k 0,x] g)))))
    |.ptr k' o=>bt (Nat.beq k' k) (bt (Nat.beq o 0) (some (.t [],s)))
    |_=>none)))
def ccK(f:FuncId)(args:List CV)(s:HS):Option (CV × HS):=
 bt (Nat.beq f 182) (match args with
  |[]=>none
  |a::l=>(match l with|[]=>bo (Uk a) λp=>bt (Nat.beq p.2 0) (bo (jq s p.1) λq=>ccH p.1 q.1 q.2 s)|_::_=>none))
def Ul:WY:=λf args s=>match ccK f args s with|some r=>some r|none=>tzK f args s
abbrev KT:Kn:=⟨[],[(209,5)],Ul⟩
end
set_option maxHeartbeats 0 in
theorem I9:Fe (O6 Tryz.prog TY TZ KT 1000 60 6 [] ⟨.lf,0,0,[]⟩)=true:=by decide+kernel
end Go.Proofs.YtgailjhnfghkgaaGreatDoor
end
section
namespace Go.Proofs.YtgailjhnfghkgaaGreatDoor
open Go
open Go.Shelf Go.RowKit
set_option maxHeartbeats 1000000 in
set_option maxRecDepth 100000 in
theorem P3(b:Nat)(w:World)(h0:w.cell? ⟨b,0,none⟩=some (.pointer (some ⟨b,0,none⟩))):
  Calls Tryz.prog 182 #[.pointer (some ⟨b,0,none⟩)] w λe w'=>e= .returned (.tuple #[])/\w'=w:=by
 obtain⟨j,hj,_⟩:∃j,Tryz.prog.info? 178=some j/\j.size=2:=Option.map_eq_some_iff.1 (show(Tryz.prog.info? 178).map (·.size)=some 2 by kernel_rfl);have mixed:Tryz.prog.follows .mixedOrders=true:=by kernel_rfl
 have t72:=Tryz.underlying178;have a72:=Tryz.isAgg178;have z72:=Tryz.sizeOf178;have u72:=run_underlying t72;have t70:=Tryz.underlying176;have a70:=Tryz.isAgg176;have z70:=Tryz.sizeOf176;have u70:=run_underlying t70;have t4:=Tryz.underlying4;have a4:=Tryz.isAgg4;have z4:=Tryz.sizeOf4;have u4:=run_underlying t4;have t164:=Tryz.underlying239;have a164:=Tryz.isAgg239;have z164:=Tryz.sizeOf239;have u164:=run_underlying t164
 go_enter Tryz.func182,Tryz.ntmps182
 go_wp2
 rw [Lib.run_neq_ptr_same w _ t70 hj]
 go_wp2
 go_end0
 exact⟨rfl,rfl⟩
set_option maxHeartbeats 1000000 in
set_option maxRecDepth 100000 in
theorem LM(b:Nat)(w:World)(h0:w.cell? ⟨b,0,none⟩=some (.pointer none))(oS:w.shape? b=some (178,2))(hfz:w.frozen? ⟨b,0,none⟩=false):
  Calls Tryz.prog 182 #[.pointer (some ⟨b,0,none⟩)] w λe w'=>e= .returned (.tuple #[])/\w'=w.setCell ⟨b,0,none⟩ (.pointer (some ⟨b,0,none⟩)):=by
 obtain⟨j,hj,hjs⟩:∃j,Tryz.prog.info? 178=some j/\j.size=2:=Option.map_eq_some_iff.1 (show(Tryz.prog.info? 178).map (·.size)=some 2 by kernel_rfl);have mixed:Tryz.prog.follows .mixedOrders=true:=by kernel_rfl
 have lies:liesAt Tryz.prog Tryz.prog.depth 178 (2 / Tryz.prog.cellsOf 178) 0 178 1=true:=by kernel_rfl
 have t72:=Tryz.underlying178;have a72:=Tryz.isAgg178;have z72:=Tryz.sizeOf178;have u72:=run_underlying t72;have t70:=Tryz.underlying176;have a70:=Tryz.isAgg176;have z70:=Tryz.sizeOf176;have u70:=run_underlying t70;have t4:=Tryz.underlying4;have a4:=Tryz.isAgg4;have z4:=Tryz.sizeOf4;have u4:=run_underlying t4;have t164:=Tryz.underlying239;have a164:=Tryz.isAgg239;have z164:=Tryz.sizeOf239;have u164:=run_underlying t164
 go_enter Tryz.func182,Tryz.ntmps182
 go_wp2
 rw [Lib.run_to_unsafe w ⟨b,0,none⟩ t70 t164 hj (by rw [hjs];decide) oS (Nat.zero_lt_succ 1)];simp only [Result.andThen];rw [Oper.upon_value]
 go_wp2
 rw [run_callFunc_extern Tryz.func195 (by kernel_rfl) (by kernel_rfl) (by kernel_rfl) (e:=Extern.AbiNoEscape.same) (by kernel_rfl)];rw [Lib.run_noEscape];simp only [Result.andThen];rw [Oper.upon_value]
 go_wp2
 rw [Lib.run_from_unsafe w ⟨b,0,none⟩ t164 t70 hj oS lies];simp only [Result.andThen];rw [Oper.upon_value]
 go_wp2
 go_end0
 exact⟨rfl,rfl⟩
end Go.Proofs.YtgailjhnfghkgaaGreatDoor
end
section
namespace Go.Proofs.YtgailjhnfghkgaaGreatDoor
open Go Go.AM Go.CM
set_option maxRecDepth 100000
theorem zOk:xK Tryz.prog TY TZ:=Um (by decide+kernel)
theorem P4:LN Tryz.prog=true:=by decide+kernel
theorem s4{f:FuncId}{fn:Func}(h:Tryz.prog.funcs[f]? =some fn)(hn:fn.name≠ "runtime.NumGoroutine")(hb:fn.body.isSome=true):eJ Tryz.prog f:=⟨fn,h,hn,hb⟩
theorem vn:∀f x,Lib.ctzFrom f x<=f
 |0,_=>ajl _
 |f+1,x=>by
  have:=vn f (x / 2);unfold Lib.ctzFrom;split<;>omega
theorem LO(n:Nat):Lib.ctz 64 n<=64:=by
 unfold Lib.ctz;split
 ·exact ajl _
 ·exact vn 64 n
theorem Un:vo Tryz.prog tzK:=λf args s v s' h=>by
 obtain⟨h1,h⟩:=aE h;have h1:=aA.1 h1;subst h1;cases args with
 |nil=>cases h
 |cons a l=>
  cases l with
  |cons=>cases h
  |nil=>
   obtain⟨⟨k,m⟩,h2,h3⟩:=aw h;obtain⟨h4,h5⟩:=aE h3;obtain⟨n,h6,h7⟩:=aw h5;cases h7;have hk:k= .u64:=b8 h4;subst hk;refine⟨s4 Tryz.func138 (by decide) rfl,λO w vs hd hv=>?_⟩;cases vs with
   |nil=>exact hv.elim
   |cons u vs=>
    cases vs with
    |cons=>exact hv.2.elim
    |nil=>
     obtain⟨e1,i1⟩:=iX h2 hv.1
     have hm:m=(n:Int):=by
      cases m with
      |ofNat m=>cases h6;rfl
      |negSucc m=>cases h6
     subst hm
     have aX:n<18446744073709551616:=by
      have:eO .u64 (n:Int):=i1;simp [eO,IntKind.min,IntKind.max,IntKind.signed,IntKind.bits]at this;omega
     have hc:=Any7.bits_TrailingZeros64 tzL n aX w (λ_ j hj=>hd.lw j hj);have e1:u= .int .u64 (n:Int):=e1;subst e1;refine Calls.mono hc λe w' ⟨he,hw⟩=>?_;subst hw;have hz:Lib.ctz 64 n<=64:=LO n;exact⟨_,he,O,bM.refl hd,rfl,by show eO .i64 ((Lib.ctz 64 n:Nat):Int);simp [eO,IntKind.min,IntKind.max,IntKind.signed,IntKind.bits];omega⟩
theorem Ai{w:World}{b off:Nat}{cs:Array Value}{ty:TypeId}{u:Value}(hb:w.heap[b]? =some (.cells cs ty (0,0))):(w.setCell ⟨b,off,none⟩ u).heap=w.heap.setIfInBounds b (.cells (cs.setIfInBounds off u) ty (0,0)):=by
 apply Array.ext_getElem?;intro i;show(w.heap.modify b _)[i]? =_;rw [Array.getElem?_modify]
 by_cases e:b=i
 ·subst e
  have:=(ajL.1 hb).1;rw [ajq rfl,hb];simp [this]
 ·rw [ajm e,ajZ e]
theorem Uo:vo Tryz.prog ccK:=λf args s v s' h=>by
 obtain⟨h1,h⟩:=aE h;have h1:=aA.1 h1;subst h1;cases args with
 |nil=>cases h
 |cons a l=>
  cases l with
  |cons=>cases h
  |nil=>
   obtain⟨⟨k,off⟩,h2,h3⟩:=aw h;obtain⟨h4,h5⟩:=aE h3;have h4:off=0:=aA.1 h4;subst h4;obtain⟨⟨l,g⟩,h6,h7⟩:=aw h5;refine⟨s4 Tryz.func182 (by decide) rfl,λO w vs hd hv=>?_⟩;cases vs with
   |nil=>exact hv.elim
   |cons u vs=>
    cases vs with
    |cons=>exact hv.2.elim
    |nil=>
     have hu:jU O (.ptr k 0) u:=by
      obtain⟨x,x1,x2⟩:=aw h2;have:=cr x1 hv.1;cases x<;>try (cases x2;done)
      cases x2;exact this
     obtain⟨b,c,r1,r2⟩:=hu;subst r2;obtain⟨cs,ty,g5,g6,g7,g8⟩:=dP hd (bB h6) r1;have h7:ccH k l g s=some (v,s'):=h7;have g6:l.length<=cs.size:=g6;have g8:cJ O l (cs.toList.take l.length):=g8
     match l,h7,g6,g7,g8,bB h6 with
     |[],h7,_,_,_,_=>cases h7
     |[_],h7,_,_,_,_=>cases h7
     |_::_::_::_,h7,_,_,_,_=>cases h7
     |[a0,x0],h7,g6,g7,g8,eY=>
      have g6:2<=cs.size:=g6
      have bU:∃v0 v1 r,cs.toList=v0::v1::r:=by
       cases e:cs.toList with
       |nil=>have e2:cs.size=0:=by rw [<-ajw,e];rfl
             omega
       |cons v0 r=>
        cases r with
        |nil=>have e2:cs.size=1:=by rw [<-ajw,e];rfl
              omega
        |cons v1 r=>exact⟨v0,v1,r,rfl⟩
      obtain⟨v0,v1,r,bU⟩:=bU;have g8:cJ O [a0,x0] (cs.toList.take 2):=g8;rw [bU]at g8;obtain⟨q1,q2,_⟩:=g8
      have Ps:w.cell? ⟨b,0,none⟩=some v0:=by
       have:cs[0]? =some v0:=by rw [<-ajt,bU];rfl
       simp [World.cell?,g5,this]
      cases a0 with
      |ptr k' o=>
       obtain⟨m1,m2⟩:=aE h7;obtain⟨m3,m4⟩:=aE m2;cases m4;have m1:k'=k:=aA.1 m1;have m3:o=0:=aA.1 m3;subst m1;subst m3;obtain⟨b',c',z1,z2⟩:=q1;rw [r1]at z1;cases z1;subst z2;refine Calls.mono (P3 b w Ps) λe w' ⟨he,hw⟩=>?_;subst hw;exact⟨_,he,O,bM.refl hd,_,rfl,ag⟩
      |dO=>
       cases g with
       |none=>cases h7
       |some p=>
        obtain⟨z,t⟩:=p;obtain⟨m1,m2⟩:=aE h7;obtain⟨m3,m4⟩:=aE m2;cases m4;have n1:z=0:=aA.1 m1;have n3:t=178:=aA.1 m3;clear m1 m3 m2;subst n1;subst n3;have az:ty=178:=g7.1;have bu:cs.size=2:=g7.2.1 rfl;subst az;have q1:v0= .pointer none:=q1;subst q1;refine Calls.mono (LM b w Ps (by simp [World.shape?,g5,bu]) (by simp [World.frozen?,g5])) λe w' ⟨he,hw⟩=>?_;subst hw
        have hr:r=[]:=by
         have:=ajs List.length bU;rw [ajw,bu]at this;cases r with
         |nil=>rfl
         |cons=>simp at this
        subst hr;refine⟨_,he,O,bM.write hd eY r1 (Ai g5) ⟨⟨rfl,rfl⟩,rfl,ajl _⟩ ⟨_,_,rfl,by simp [bu],⟨rfl,λ_=>by simp [bu],λh=>absurd rfl h⟩,?_⟩,_,rfl,ag⟩
        have:(cs.setIfInBounds 0 (.pointer (some ⟨b,0,none⟩))).toList=[.pointer (some ⟨b,0,none⟩),v1]:=by
         rw [Array.toList_setIfInBounds,bU];rfl
        rw [this];exact⟨⟨b,c,r1,rfl⟩,q2,ag⟩
      |_=>cases h7
theorem P5:vo Tryz.prog Ul:=λf args s v s' h=>by
 unfold Ul at h;split at h
 ·rename_i r hr
  cases h;exact Uo f args s v s' hr
 ·exact Un f args s v s' h
theorem je:QF 6 [] (.bool (.lit true)):=
 P6 (K:=KT) LP zOk P5 (λ_ h=>by cases h) (λp h=>by
  have hp:p=(209,5):=by
   simp only [G9]at h;split at h
   ·rename_i h1
    rw [ajB]at h1;have a1:=aA.1 h1.1;have a2:=aA.1 h1.2;exact Prod.ext a1 a2
   ·cases h
  subst hp;exact⟨by kernel_rfl,by kernel_rfl⟩) mixed (LQ P4) I9
end Go.Proofs.YtgailjhnfghkgaaGreatDoor
end
section
namespace Go.Proofs.YtgailjhnfghkgaaGreatDoor
open Go Go.AM
set_option maxRecDepth 100000
theorem WZ(t:List (List Int))(l:List Int)(hl:l.length<=140737488355328):P7 TY SP Tryz.f15 [.ro (.rows .i64 t),.ro (.ints .i64 l)] (.bool (.v (decide (∀x∈l,0<=x/\x<t.length)))):=by
 refine af []<|lp (X:=Nat) (λi=>[(9,.int .i64 i)]) (λ_=>[]) (λi=>i<=l.length/\∀k,k<i->0<=l.getD k 0/\l.getD k 0<t.length) (λi=>l.length - i) 0 ⟨ajk _,λk hk=>absurd hk (aju _)⟩ ab ?_
 rintro i ⟨hi,hs⟩
 have no:∀{i:Nat},i<l.length->¬(0<=l.getD i 0/\l.getD i 0<t.length)->false=decide (∀x∈l,0<=x/\x<t.length):=λhi hn=>by
  symm
  rw [decide_eq_false_iff_not];exact λhh=>hn (hh _ (al hi))
 refine ae (λh1=>?_) (λh1=>?_)
 ·have bD:i<l.length:=aa
  refine aj ?_;refine ae (λh2=>?_) (λh2=>?_)
  ·have h2:l.getD i 0<0:=h2
   exact ae (no bD aa) trivial
  have h2:0<=l.getD i 0:=h2;refine ae (λh3=>?_) (λh3=>?_)
  ·have h3:(t.length:Int)<=l.getD i 0:=h3
   exact ae (no bD aa) trivial
  have h3:l.getD i 0<(t.length:Int):=h3;refine aj ?_;refine nx (i+1) ⟨aa,λk hk=>?_⟩ (show l.length - (i+1)<l.length - i by omega) ab
  by_cases SJ:k=i
  ·rw [SJ];exact⟨h2,h3⟩
  ·exact hs k aa
 ·refine ae ?_ trivial
  show true=decide (∀x∈l,0<=x/\x<(t.length:Int))
  symm
  rw [decide_eq_true_eq];intro x hx;obtain⟨k,hk,rfl⟩:=aS 0 hx;exact hs k aa
theorem Up(t:List (List Int))(l:List Int):QF 15 [.ro (.rows .i64 t),.ro (.ints .i64 l)] (.bool (.v (decide (∀x∈l,0<=x/\x<t.length)))):=fN Tryz.func15 (by decide+kernel) rfl (ah rfl) λhf=>WZ t l hf.2.1.1
set_option maxHeartbeats 8000000
theorem LR(a b:List Int):QF 16 [.ro (.ints .i64 a),.ro (.ints .i64 b)] (.bool (.v (decide (a=b)))):=fN Tryz.func16 (by decide+kernel) rfl (ah rfl) λ_=>by
 refine Or.inl (cq (P8 a b) (ae rfl (ae rfl ag)) ?_);exact ae rfl trivial
theorem P9(L s:Int)(F:List Bool)(N:List (List Int))(u v:List Int)(hu:u.length<=140737488351232)(cd:∀x∈u,cz x)(hv:v.length<=140737488351232)(hvb:∀x∈v,cz x):QF 4 [zU L s F N,.str u,.str v] (.bool (.lit true)):=fN Tryz.func4 (by decide+kernel) rfl (ah rfl) λ_=>by
 refine Or.inl (cq (Ja L s F N) ab ?_);refine ae (λh1=>?_) (λh1=>?_)
 ·exact Or.inl (cq je trivial (ae rfl ag))
 have h1:(!Qa L s F N)=false:=h1;have hs:=Cs.1 (show Qa L s F N=true by simpa using h1);obtain⟨hF3,ZT,hd⟩:=hs;obtain⟨⟨hL0,KJ⟩,hd⟩:=hd;obtain⟨L,rfl⟩:=Int.eq_ofNat_of_zero_le hL0;obtain⟨s,rfl⟩:=Int.eq_ofNat_of_zero_le KJ;rw [ajr,ajr]at hd;have rX:=hd.l1;refine aj ?_;refine aj ?_;refine aj ?_;refine ae (λh2=>?_) (λh2=>?_)
 ·exact Or.inl (cq je trivial (ae rfl ag))
 have h2:(u.length:Int)+(v.length:Int)<=60:=h2;refine Or.inl (cq (Lg L u rX aa aa cd) (ae rfl (ae rfl ag)) ?_);refine ae (λh3=>?_) (λh3=>?_)
 ·exact Or.inl (cq je trivial (ae rfl ag))
 have h3:(!O0 L u)=false:=h3;have SK:=va.1 (show O0 L u=true by simpa using h3);refine Or.inl (cq (Lg L v rX aa aa hvb) (ae rfl (ae rfl ag)) ?_);refine ae (λh4=>?_) (λh4=>?_)
 ·exact Or.inl (cq je trivial (ae rfl ag))
 have h4:(!O0 L v)=false:=h4;have YQ:=va.1 (show O0 L v=true by simpa using h4);refine Or.inr (Or.inr (ce (Lp hd aa (λ_ _ _ _ _ _ hM=>ajW (hM.dv hd).2 hF3)) ab ?_));refine Uc λF' N' E I W Pl=>?_;rintro⟨⟨l,R1,j,l',hM⟩,hx⟩;obtain⟨iK,hle⟩:=hM.dv hd;have hS:nS L F' N' E I W Pl:=⟨iK,aa,hx⟩;have hT:=hS.tm;have Jb:=hT.pZ;have iu:=hT.pos;have htl:=b7 E;have ZU:=hT.iJ;refine ae (λk=>absurd rfl k) (λ_=>?_);refine ae (λh5=>?_) (λh5=>?_)
 ·exact ae (λ_=>Or.inl (cq je trivial (ae rfl ag))) (λk=>absurd rfl k)
 have h5:((aP E).length:Int)<=9:=h5;refine Or.inr (Or.inr (ce (Uq (aP E) ZU aa) ab ?_));intro R hD;have hD:Ct (aP E) R:=hD;have xG:∀p∈R,ca (aP E) p 0:=hD.YR.cg;have hfw:=hD.YR.pZ;refine Or.inl (cq (Qb (aP E) R ZU xG aa) (ae rfl (ae rfl ag)) ?_);obtain⟨zO,Lc⟩:=hS.W1 SK (ajl _);obtain⟨BV,O7⟩:=hS.W1 YQ (ajl _);rw [mU]at zO BV;have Ff:=Cu (aP E).length R;refine Or.inl ?_;refine af (List.replicate 8 false) (ae (by decide+kernel) ?_);refine cq (G8 hS aa hd hM aa SK) ab ?_;refine cq (G8 hS aa hd hM aa YQ) ab ?_;refine ae (λk=>absurd rfl k) (λ_=>?_);refine Or.inl (cq (Py (aP E) R λ_=>by omega) (ae rfl (ae rfl ag)) ?_);refine ae (λk=>absurd (show(!IU (aP E) R)=true from k) (by rw [rU.2 hD.YR];decide)) (λ_=>?_);refine ae (λk=>absurd (show((rY (aP E).length R).length:Int)=((aP E).length:Int) by omega) k) (λ_=>?_);refine Or.inl (cq (Up (aP E) [cI (cZ (aP E) I) 0 (jR u),cI (cZ (aP E) I) 0 (jR v)]) (ae rfl (ae rfl ag)) ?_)
 have lQ:(!decide (∀x∈[cI (cZ (aP E) I) 0 (jR u),cI (cZ (aP E) I) 0 (jR v)],0<=x/\x<((aP E).length:Int)))=false:=by
  rw [aj3 (by rw [zO,BV];intro x hx;simp only [ajo,akn,or_false]at hx;omega)];rfl
 refine ae (λk=>absurd (show(!decide (∀x∈[cI (cZ (aP E) I) 0 (jR u),cI (cZ (aP E) I) 0 (jR v)],0<=x/\x<((aP E).length:Int)))=true from k) (by rw [lQ];decide)) (λ_=>?_);refine Or.inl ?_;refine af (List.replicate 23 false) (ae (by decide+kernel) ?_);refine aj ?_;refine aj ?_;refine cq (LR ((rY (aP E).length R).getD (cI (cZ (aP E) I) 0 (jR u)).toNat []) ((rY (aP E).length R).getD (cI (cZ (aP E) I) 0 (jR v)).toNat [])) (ae rfl (ae rfl ag)) ?_;have ZV:xL E I u u.length<(aP E).length:=aa;have hyE:xL E I v v.length<(aP E).length:=aa;refine ae (λh6=>?_) (λh6=>?_);have h6:decide ((rY (aP E).length R).getD (cI (cZ (aP E) I) 0 (jR u)).toNat []=(rY (aP E).length R).getD (cI (cZ (aP E) I) 0 (jR v)).toNat [])=true:=h6
 have uB:xL E I u u.length=xL E I v v.length:=LS ZU hD ZV hyE (by
  have:=ajX h6;rw [zO,BV,ajr,ajr,qg ZV,qg hyE]at this;exact this)
 refine ae (λk=>absurd (show cI (cZ (aP E) I) 0 (jR u)=cI (cZ (aP E) I) 0 (jR v) by rw [zO,BV,uB]) k) (λ_=>?_);refine cq (GV hd aa SK) ab ?_;refine cq (GV hd aa YQ) ab ?_;have tQ:(!(mT F N s (jR u)==mT F N s (jR v)))=false:=by rw [hS.acc aa hd hM SK,hS.acc aa hd hM YQ,uB];simp
 refine ae (λk=>absurd (show(!(mT F N s (jR u)==mT F N s (jR v)))=true from k) (by rw [tQ];decide)) (λ_=>?_)
 all_goals
  refine af []<|lp (X:=Nat) (λk=>[(131,.int .i64 k)]) (λ_=>[]) (λk=>k<=R.length) (λk=>R.length - k) 0 (ajk _) ab ?_
  rintro k hk;refine ae (λk1=>?_) (λ_=>Or.inl (cq je trivial (ae rfl ag)));have k1:(k:Int)<(R.length:Int):=k1;have hkR:k<R.length:=aa;have hp:=xG _ (al (d:=[]) hkR);have gw:(R.getD k []).length=(aP E).length:=hp.len;refine aj ?_;refine Or.inl (cq (Qc (aP E) (R.getD k []) hp) (ae rfl (ae rfl ag)) ?_);refine ae (λg=>absurd rfl g) (λ_=>?_);refine ae (show(0:Int)<=0/\(0:Int)<((R.getD k []).length:Int) by omega) ?_;refine af []<|lp (X:=Nat) (λi=>[(19,.int .i64 i),(18,.int .i64 ((R.getD k []).getD (xL E I u i) 0))]) (λ_=>[]) (λi=>i<=u.length) (λi=>u.length - i) 0 (ajk _) ab ?_
  rintro i hi;refine aj ?_;refine ae (λk2=>?_) (λk2=>?_)
  ·have k2:(i:Int)<(u.length:Int):=k2
   have bD:i<u.length:=aa;have hx:=SK i bD;obtain⟨g1,g2,g3⟩:=hS.elN SK bD;have e2:=(hS.W1 SK (i:=i) aa).2;have V5:=hS.il.1;have c1:=dx hp.val.2 (x:=xL E I u i) aa;have c2:=dx hp.val.2 (x:=(I.getD (u.getD i 0 - 97).toNat 0).toNat) aa;have ux:(dH (aP E) (R.getD k [])).length=ao (R.getD k []):=dw;have mV:((dH (aP E) (R.getD k [])).getD ((R.getD k []).getD (xL E I u i) 0).toNat []).length=ao (R.getD k []):=by rw [qh aa,qi]
   refine Or.inl ?_;refine af (List.replicate 18 false++[true]) (ae (by decide+kernel) ?_);refine ae (show 0<=(R.getD k []).getD (xL E I u i) 0/\(R.getD k []).getD (xL E I u i) 0<((dH (aP E) (R.getD k [])).length:Int) by omega) ?_;refine aj ?_;refine ae (show(0:Int)<=u.getD i 0 - 97/\u.getD i 0 - 97<=255 by omega) ?_;refine ae (show(-9223372036854775808:Int)<=u.getD i 0 - 97/\u.getD i 0 - 97<=9223372036854775807 by omega) ?_;refine ae (show 0<=u.getD i 0 - 97/\u.getD i 0 - 97<(I.length:Int) by omega) ?_;refine ae (show 0<=I.getD (u.getD i 0 - 97).toNat 0/\I.getD (u.getD i 0 - 97).toNat 0<((R.getD k []).length:Int) by omega) ?_;refine ae (show 0<=(R.getD k []).getD (I.getD (u.getD i 0 - 97).toNat 0).toNat 0/\(R.getD k []).getD (I.getD (u.getD i 0 - 97).toNat 0).toNat 0<(((dH (aP E) (R.getD k [])).getD ((R.getD k []).getD (xL E I u i) 0).toNat []).length:Int) by omega) ?_;refine aj ?_;exact nx (i+1) (show i+1<=u.length by omega) (show u.length - (i+1)<u.length - i by omega) (by repeat' first|refine ae ?_ ?_|exact ag|exact hS.comp hp SK bD|(show(_:Int)=(_:Int);omega)|omega|exact rfl)
  ·have k2:(u.length:Int)<=(i:Int):=k2
   obtain rfl:i=u.length:=aa;have aH:(rY (aP E).length R).getD (cI (cZ (aP E) I) 0 (jR u)).toNat []=tU R (xL E I u u.length):=by rw [zO,ajr,qg ZV]
   have mV:(tU R (xL E I u u.length)).length=R.length:=Cv _ _;have heq:((rY (aP E).length R).getD (cI (cZ (aP E) I) 0 (jR u)).toNat []).getD k 0=(R.getD k []).getD (xL E I u u.length) 0:=by rw [aH,qj hkR]
   refine aj ?_;refine ae (show 0<=(k:Int)/\(k:Int)<(((rY (aP E).length R).getD (cI (cZ (aP E) I) 0 (jR u)).toNat []).length:Int) by rw [aH,mV];omega) ?_;refine ae (λg=>absurd heq.symm g) (λ_=>?_);refine aj ?_;exact nx (k+1) (show k+1<=R.length by omega) (show R.length - (k+1)<R.length - k by omega) ab
open Go.ChangeShapes Go.WideShapes Go.ChangeAt Go.RowKit Go.Deep
def V8:a7:=λ_ _=>False
section
variable{H:Type}{enc:TypeId × Value->H}{P:Program}{w:World}
theorem LU{k:IntKind}{n:Int}(h:(Lit.int k n).wf=true):eO k n:=by
 simp only [Lit.wf,ajB,decide_eq_true_eq]at h;exact h
theorem vp{e:TypeId}{d:DataW H}{x:Nat}:∀{l:List (DataW H)},d∈l->x∈d.weights P e->x∈DataW.weightsAll P e l
 |[],h,_=>by cases h
 |c::l,h,hx=>by
  simp only [DataW.weightsAll,ajK];rcases ajo.1 h with rfl|h
  ·exact .inl hx
  ·exact .inr (vp h hx)
theorem LV{t e q:TypeId}{n:Nat}{v:Value}{y:DataW H × List MemPlace}(ht:P.underlying t=some (.slice e))(he:P.underlying e=some (.slice q))(hq:P.underlying q=some (.int .i64))(ce:P.cellsOf e=1)(cq:P.cellsOf q=1)
  (be:1<=P.bytesOf e) (bq:1<=P.bytesOf q) (h:DataW.trod enc P w 0 (λ_=>true) true n t [v]=some y) (hw:∀x∈y.1.weights P t,x<=reachBytes):∃l,aJ bh w V8 (.ro (.rows .i64 l)) v:=by
 have SM:reachBytes=140737488351232:=rfl;rcases open_int_rows ht he hq ce cq h with ⟨hv,_⟩|⟨a,len,cap,A,L,C,Z,hv,_,hl,hm,hy,Cw⟩
 ·obtain rfl:v= .slice none 0 0:=by simpa using hv
  exact⟨[],ajk _,none,0,rfl,ajl _,.inl rfl⟩
 ·obtain rfl:v= .slice (some a) len cap:=by simpa using hv
  subst hy
  have hlen:len*P.bytesOf e<=reachBytes:=by
   have:=hw ((len+(cap - len))*P.bytesOf e) (by simp [DataW.weights,ht]);exact ajW (ajO _ aa) this
  have Cx:len<=reachBytes:=ajW (by have:=Nat.mul_le_mul_left len be;omega) hlen
  have hL:∀r,r<len->L r<=reachBytes:=λr hr=>by
   obtain⟨_,h1,h2,h3,_,h4,_⟩:=Cw r aa;cases hA:A r with
   |none=>have:=h4 hA;omega
   |some a'=>
    have hx:(L r+((Z r).length - L r))*P.bytesOf q<=reachBytes:=by
     refine hw _ ?_;simp only [DataW.weights,ht,ajo,ajK];refine .inr (.inl (vp (d:=intRow .i64 (A r) (L r) (Z r)) (ajU.2 ⟨r,ajJ.2 hr,rfl⟩) ?_));rw [hA];simp [intRow,DataW.weights,he,lits]
     left
     rw [Nat.min_eq_left aa]
    have h5:L r*1<=(L r+((Z r).length - L r))*P.bytesOf q:=akf aa bq;omega
  refine⟨(List.range len).map λr=>(Z r).take (L r),?_⟩;have oO:(RO.rows .i64 ((List.range len).map λr=>(Z r).take (L r))).len=len:=by simp [RO.len]
  refine⟨by rw [oO];exact ajW Cx (by rw [SM];decide),some a,cap,by rw [oO],by rw [oO];exact hl,?_⟩
  by_cases h0:len=0
  ·exact .inl (by rw [RO.cells,oO,h0,Nat.zero_mul])
  have Aj:=(Cw 0 aa).1;obtain⟨b,off,spot⟩:=a;have Cy:spot=none:=by simpa [Addr.add]using World.cell?_spot Aj
  subst Cy;refine .inr ⟨b,off,rfl,λr hr=>?_⟩;have hr:r<len:=by simpa [RO.cells,oO,RO.sz]using hr
  obtain⟨h1,h2,h3,h4,h5,h6,h7⟩:=Cw r aa;refine⟨.slice (A r) (L r) (C r),by rw [<-add_plain];exact h1,λhh=>hh,?_⟩;have eY:((List.range len).map λr=>(Z r).take (L r)).getD r []=(Z r).take (L r):=by simp [List.getD,hr]
  show Jc w V8 .i64 (((List.range len).map λr=>(Z r).take (L r)).getD r []) _;rw [eY];have LW:((Z r).take (L r)).length=L r:=by rw [ajA];omega
  refine⟨by rw [LW];have:=hL r hr;simp only [LB];omega,A r,C r,by rw [LW],by rw [LW];exact h2,?_⟩
  by_cases Ha:L r=0
  ·exact .inl (by rw [LW,Ha])
  cases hA:A r with
  |none=>have:=h6 hA;omega
  |some a'=>
   obtain⟨h8,h9⟩:=h7 a' hA;obtain⟨b',off',spot'⟩:=a';have Cy:spot'=none:=by simpa [Addr.add]using World.cell?_spot (h9 0 aa)
   subst Cy;refine .inr ⟨b',off',rfl,λc hc=>?_⟩;rw [LW]at hc;have ER:((Z r).take (L r)).getD c 0=(Z r).getD c 0:=by simp [List.getD,hc]
   refine⟨.int .i64 ((Z r).getD c 0),by rw [<-add_plain];exact h9 c aa,λhh=>hh,by rw [ER],?_⟩;rw [ER];refine LU (h5 _ ?_);have:c<(Z r).length:=aa;simp [List.getD,this]
theorem vq{W W':World}(hs:gH (λ_ _=>False) W W'){b:Nat}(hb:b<W.heap.size):W'.heap[b]? =W.heap[b]? :=by
 rcases hs.2 b hb with h|⟨cs,cs',ty,h1,h2,h3,h4⟩|⟨_,_,_,_,_,_,h⟩
 ·exact h
 ·rw [h1,h2]
  have:cs'=cs:=Array.ext_getElem? λi=>h4 i (by simp);rw [this]
 ·exact h.elim
theorem LX{t:TypeId}(hl:laidOutB P=true)(hr:P.readableRec t=true)(aH:t<P.types.size){W W':World}{v:Value}{d:DataW H}{ps:List MemPlace}
  (h:DataW.Trod enc P W 0 (λ_=>true) true t v d ps) (hs:gH (λ_ _=>False) W W') (aX:∀x∈ps,x.block<W.heap.size) (sp:Nat->Bool) (ZW:∀x∈ps,sp x.block=true):
  DataW.Trod enc P W' 0 sp true t v d ps:=
 WideElems.Trod_stays hl hr aH h (λx hx=>by
  have hb:=aX x hx;cases x with
  |cell b o=>exact World.cell?_of_block (w:=W) (vq hs hb)
  |map b=>exact vq hs hb) ZW
theorem LY{W W':World}(hs:gH (λ_ _=>False) W W')(may:MemPlace->Prop):W.keptBut W' may:=by
 refine⟨hs.3.1.1,hs.3.1.2,λi hi=>?_⟩;rw [vq hs hi];cases W.heap[i]? with
 |none=>exact rfl
 |some o=>cases o<;>first|exact⟨rfl,rfl,rfl,λ_ _=>rfl⟩|exact .inr ⟨rfl,rfl⟩|exact rfl
theorem lg:∀{ts:List TypeId} {ds:List (DataW H)} {j:Nat} {t:TypeId} {d:DataW H} {x:Nat},ts[j]? =some t->ds[j]? =some d->x∈d.weights P t->x∈DataW.weightsEach P ts ds
 |[],_,j,_,_,_,h,_,_=>by simp at h
 |_::_,[],j,_,_,_,_,h,_=>by simp at h
 |t::ts,d::ds,0,t',d',x,h1,h2,hx=>by
  simp at h1 h2;subst h1;subst h2;simp [DataW.weightsEach,hx]
 |t::ts,d::ds,j+1,t',d',x,h1,h2,hx=>by
  have:=lg (ts:=ts) (ds:=ds) (j:=j) (by simpa using h1) (by simpa using h2) hx;simp [DataW.weightsEach,this]
end
end Go.Proofs.YtgailjhnfghkgaaGreatDoor
end
section
namespace Go.Proofs.YtgailjhnfghkgaaGreatDoor
open Go Go.AM
open Go.ChangeShapes Go.WideShapes Go.ChangeAt Go.RowKit Go.Deep
section
variable{H:Type}{enc:TypeId × Value->H}{P:Program}{w:World}
theorem Jd{t e:TypeId}{n:Nat}{v:Value}{y:DataW H × List MemPlace}(ht:P.underlying t=some (.slice e))(he:P.underlying e=some .bool)(ce:P.cellsOf e=1)
  (be:1<=P.bytesOf e) (h:DataW.trod enc P w 0 (λ_=>true) true n t [v]=some y) (hw:∀x∈y.1.weights P t,x<=reachBytes):∃l,aJ bh w V8 (.ro (.aI l)) v:=by
 have SM:reachBytes=140737488351232:=rfl;rcases DataW.trod_slice ht h with ⟨hv,_⟩|⟨a,len,cap,elems,rest,n',_,hv,rfl,_,hl,hm,hlen,Ff,_,_⟩
 ·obtain rfl:v= .slice none 0 0:=by simpa using hv
  exact⟨[],ajk _,none,0,rfl,ajl _,.inl rfl⟩
 ·obtain rfl:v= .slice (some a) len cap:=by simpa using hv
  have SO:(elems.length+rest.length)*P.bytesOf e<=reachBytes:=hw _ (by simp [DataW.weights,ht]);have Cx:len*1<=(elems.length+rest.length)*P.bytesOf e:=akf aa be
  have each:∀i,i<len->∃z:Bool,w.cell? (a.add i)=some (.bool z):=λi hi=>by
   have h1:=Ff i hi;rw [ajP aa,ce,ajV,Option.bind_eq_some_iff]at h1;obtain⟨cs,h2,h3⟩:=h1;obtain⟨_,h4,h5⟩:=World.cells?_some h2
   match cs,h4 with
   |[c0],_=>
    obtain⟨z0,e0,_⟩:=DataW.trod_bool he h3;have e0:c0= .bool z0:=by simpa using e0
    have k0:=h5 0 aa;rw [e0]at k0;exact⟨z0,by simpa [Addr.add]using k0⟩
  obtain⟨z,hz⟩:=choose_lt each;refine⟨(List.range len).map z,?_⟩;have oO:((List.range len).map z).length=len:=by simp
  refine⟨by show _<=_;simp only [RO.len,oO,LB];omega,some a,cap,by simp only [RO.len,oO],by simp only [RO.len,oO];exact hl,?_⟩
  by_cases Ha:len=0
  ·exact .inl (by simp [RO.cells,RO.len,Ha])
  obtain⟨b,off,spot⟩:=a;have Cy:spot=none:=by simpa [Addr.add]using World.cell?_spot (hz 0 aa)
  subst Cy;refine .inr ⟨b,off,rfl,λc hc=>?_⟩;have hc:c<len:=by simpa [RO.cells,RO.len,RO.sz]using hc
  have z1:=hz c hc;rw [add_plain]at z1;have hg:((List.range len).map z).getD c false=z c:=by simp [List.getD,hc]
  exact⟨_,z1,λhh=>hh,by simp only [ay,hg]⟩
theorem Qd{t tg te ti tb tl:TypeId}{r:Reach}{b0:Nat}{f0 f1 f2 f3:Field}{v:Value}{d:DataW H}{p:List MemPlace}(hs:P.underlying t=some (.struct #[f0,f1,f2,f3]))(mK:oneCellFields P #[f0,f1,f2,f3]=true)(hC:P.cellsOf t=4)
  (e0:f0.type=ti) (e1:f1.type=ti) (e2:f2.type=tl) (e3:f3.type=tg)
  (hg:P.underlying tg=some (.slice te)) (he:P.underlying te=some (.slice ti)) (hi:P.underlying ti=some (.int .i64)) (hl:P.underlying tl=some (.slice tb)) (hb:P.underlying tb=some .bool) (ce:P.cellsOf te=1) (ci:P.cellsOf ti=1) (cb:P.cellsOf tb=1) (be:1<=P.bytesOf te) (bi:1<=P.bytesOf ti) (bb:1<=P.bytesOf tb)
  (hv:Value.okWide P w r b0 t v) (h:DataW.Trod enc P w 0 (λ_=>true) true t v d p) (hw:∀x∈d.weights P t,x<=reachBytes):
  ∃L s F N,aC bh w V8 (.agg [.int .i64 L,.int .i64 s,.ro (.aI F),.ro (.rows .i64 N)]) v:=by
 obtain⟨cs,rfl,bu⟩:=okWide_struct hs hv;obtain⟨l⟩:=cs;have hl4:l.length=4:=by simpa [hC]using bu
 obtain⟨fuel,hf⟩:=h;obtain⟨xs,n,_,hx,_,hlen,ER⟩:=DataW.trod_struct hs hf;have hx4:xs.length=4:=by simpa using hlen
 have k0:=hone_of mK 0 f0 rfl;have k1:=hone_of mK 1 f1 rfl;have k2:=hone_of mK 2 f2 rfl;have k3:=hone_of mK 3 f3 rfl
 match l,hl4,xs,hx4 with
 |[c0,c1,c2,c3],_,[y0,y1,y2,y3],_=>
  have g0:DataW.trod enc P w 0 (λ_=>true) true n f0.type [c0]=some y0:=by simpa [Value.cells,k0.1,k0.2]using ER 0 f0 rfl
  have g1:DataW.trod enc P w 0 (λ_=>true) true n f1.type [c1]=some y1:=by simpa [Value.cells,k1.1,k1.2]using ER 1 f1 rfl
  have g2:DataW.trod enc P w 0 (λ_=>true) true n f2.type [c2]=some y2:=by simpa [Value.cells,k2.1,k2.2]using ER 2 f2 rfl
  have g3:DataW.trod enc P w 0 (λ_=>true) true n f3.type [c3]=some y3:=by simpa [Value.cells,k3.1,k3.2]using ER 3 f3 rfl
  simp only [Prod.mk.injEq]at hx;have hd:d= .agg [y0.1,y1.1,y2.1,y3.1]:=by simpa using hx.1
  subst hd;have V9:∀x∈DataW.weightsEach P [f0.type,f1.type,f2.type,f3.type] [y0.1,y1.1,y2.1,y3.1],x<=reachBytes:=λx W3=>hw x (by simpa [DataW.weights,hs]using W3);rw [e0]at g0 V9;rw [e1]at g1 V9;rw [e2]at g2 V9;rw [e3]at g3 V9;obtain⟨N,hN⟩:=LV hg he hi ce ci be bi g3 λx W3=>V9 x (lg (j:=3) rfl rfl W3);obtain⟨F,hF⟩:=Jd hl hb cb bb g2 λx W3=>V9 x (lg (j:=2) rfl rfl W3);obtain⟨L,hL,_,wL⟩:=DataW.trod_int hi g0;obtain⟨s,xU,_,ws⟩:=DataW.trod_int hi g1;exact⟨L,s,F,N,_,rfl,⟨by simpa using hL,LU wL⟩,⟨by simpa using xU,LU ws⟩,hF,hN,ag⟩
end
end Go.Proofs.YtgailjhnfghkgaaGreatDoor
end
section
namespace Go.Proofs.YtgailjhnfghkgaaGreatDoor
open Go Go.AM
theorem Hb{w:World}(s:ByteArray):∃l:List Int,aC bh w V8 (.str l) (.string s)/\l.length=s.data.toList.length/\∀x∈l,cz x:=by
 have hb:∀x∈s.data.toList.map λb=>(b.toNat:Int),cz x:=λx hx=>by
  obtain⟨b,_,rfl⟩:=ajU.1 hx;have:=b.toNat_lt;exact⟨aa,aa⟩
 refine⟨s.data.toList.map λb=>(b.toNat:Int),⟨?_,hb⟩,ajS _,hb⟩
 have:(s.data.toList.map λb=>(b.toNat:Int)).map (λx=>UInt8.ofNat x.toNat)=s.data.toList:=by
  rw [List.map_map]
  conv=>rhs;rw [<-List.map_id s.data.toList]
  exact List.map_congr_left λb _=>by simp
 obtain⟨⟨l⟩⟩:=s;exact ajs (λx:List UInt8=>Value.string ⟨x.toArray⟩) this.symm
end Go.Proofs.YtgailjhnfghkgaaGreatDoor
end
