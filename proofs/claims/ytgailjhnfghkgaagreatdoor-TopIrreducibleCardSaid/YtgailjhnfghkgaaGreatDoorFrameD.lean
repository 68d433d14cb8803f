import Derived.Test.YtgailjhnfghkgaaGreatDoorOrd
import Derived.Test.YtgailjhnfghkgaaGreatDoorCmTz
import Derived.Test.YtgailjhnfghkgaaGreatDoorCmCode
import Derived.Shelf.Strings.Builder1
import Derived.Test.YtgailjhnfghkgaaGreatDoorProg
import Derived.Test.YtgailjhnfghkgaaGreatDoorMult
import Derived.Test.YtgailjhnfghkgaaGreatDoorLay
import Derived.Test.YtgailjhnfghkgaaGreatDoorQuoLaw
import Derived.Test.YtgailjhnfghkgaaGreatDoorTopRLaw
import Derived.Test.YtgailjhnfghkgaaGreatDoorSdAp
import Derived.Test.YtgailjhnfghkgaaGreatDoorSd
import Derived.Test.YtgailjhnfghkgaaGreatDoorRows
import Derived.Deep.Matrix
import Derived.Deep.Fields
import Derived.SizedLaws
import Derived.Carry
import Derived.WideKeyArgs
import Derived.ProofKit
import Derived.OpenShut
section
namespace Go.Proofs.YtgailjhnfghkgaaGreatDoor
open Go Go.AM Go.CM
set_option maxRecDepth 100000
noncomputable section
def tzK(f:FuncId)(args:List CV)(s:HS):Option (CV × HS):=
 bt (Nat.beq f 138) (match args with
  |[]=>none
  |a::l=>(match l with|[]=>bo (NU a) λ p=>bt (kq p.1 .u64) (bo (H4 p.2) λ n=>some (.c (.int .i64 (Lib.ctz 64 n)),s))|_::_=>none))
def ccH(k:Nat)(l:List CC)(g:Option (Nat × Nat))(s:HS):Option (CV × HS):=
 match l with
 |[]=>none
 |a::l=>(match l with
  |[]=>none
  |x::l=>(match l with
   |_::_=>none
   |[]=>(match a with
    |.dG=>(match g with|none=>none|some p=>bt (Nat.beq p.1 0) (bt (Nat.beq p.2 178) (some (.t [],s.put k (.cells [.ptr k 0,x] g)))))
    |.ptr k' o=>bt (Nat.beq k' k) (bt (Nat.beq o 0) (some (.t [],s)))
    |_=>none)))
def ccK(f:FuncId)(args:List CV)(s:HS):Option (CV × HS):=
 bt (Nat.beq f 182) (match args with
  |[]=>none
  |a::l=>(match l with|[]=>bo (SF a) λ p=>bt (Nat.beq p.2 0) (bo (jb s p.1) λ q=>ccH p.1 q.1 q.2 s)|_::_=>none))
def SH:VI:=λ f args s=>match ccK f args s with|some r=>some r|none=>tzK f args s
abbrev KT:Kn:=⟨[],[(209,5)],SH⟩
end
set_option maxHeartbeats 0 in
theorem H5:Ep (NV Tryz.prog TY TZ KT 1000 60 6 [] ⟨.lf,0,0,[]⟩)=true:=by decide+kernel
end Go.Proofs.YtgailjhnfghkgaaGreatDoor
end
section
namespace Go.Proofs.YtgailjhnfghkgaaGreatDoor
open Go
open Go.Shelf Go.RowKit
set_option maxHeartbeats 1000000 in
set_option maxRecDepth 100000 in
theorem OV(b:Nat)(w:World)(h0:w.cell? ⟨b,0,none⟩=some (.pointer (some ⟨b,0,none⟩))):
  Calls Tryz.prog 182 #[.pointer (some ⟨b,0,none⟩)] w λ e w'=>e= .returned (.tuple #[])/\w'=w:=by
 obtain⟨j,hj,_⟩:∃j,Tryz.prog.info? 178=some j/\j.size=2:=Option.map_eq_some_iff.1 (show(Tryz.prog.info? 178).map (·.size)=some 2 by kernel_rfl);have mixed:Tryz.prog.follows .mixedOrders=true:=by kernel_rfl
 have t72:=Tryz.underlying178;have a72:=Tryz.isAgg178;have z72:=Tryz.sizeOf178;have u72:=run_underlying t72;have t70:=Tryz.underlying176;have a70:=Tryz.isAgg176;have z70:=Tryz.sizeOf176;have u70:=run_underlying t70;have t4:=Tryz.underlying4;have a4:=Tryz.isAgg4;have z4:=Tryz.sizeOf4;have u4:=run_underlying t4;have t164:=Tryz.underlying239;have a164:=Tryz.isAgg239;have z164:=Tryz.sizeOf239;have u164:=run_underlying t164
 go_enter Tryz.func182,Tryz.ntmps182
 go_wp2
 rw [Lib.run_neq_ptr_same w _ t70 hj]
 go_wp2
 go_end0
 exact⟨rfl,rfl⟩
set_option maxHeartbeats 1000000 in
set_option maxRecDepth 100000 in
theorem KC(b:Nat)(w:World)(h0:w.cell? ⟨b,0,none⟩=some (.pointer none))(oC:w.shape? b=some (178,2))(hfz:w.frozen? ⟨b,0,none⟩=false):
  Calls Tryz.prog 182 #[.pointer (some ⟨b,0,none⟩)] w λ e w'=>e= .returned (.tuple #[])/\w'=w.setCell ⟨b,0,none⟩ (.pointer (some ⟨b,0,none⟩)):=by
 obtain⟨j,hj,hjs⟩:∃j,Tryz.prog.info? 178=some j/\j.size=2:=Option.map_eq_some_iff.1 (show(Tryz.prog.info? 178).map (·.size)=some 2 by kernel_rfl);have mixed:Tryz.prog.follows .mixedOrders=true:=by kernel_rfl
 have lies:liesAt Tryz.prog Tryz.prog.depth 178 (2 / Tryz.prog.cellsOf 178) 0 178 1=true:=by kernel_rfl
 have t72:=Tryz.underlying178;have a72:=Tryz.isAgg178;have z72:=Tryz.sizeOf178;have u72:=run_underlying t72;have t70:=Tryz.underlying176;have a70:=Tryz.isAgg176;have z70:=Tryz.sizeOf176;have u70:=run_underlying t70;have t4:=Tryz.underlying4;have a4:=Tryz.isAgg4;have z4:=Tryz.sizeOf4;have u4:=run_underlying t4;have t164:=Tryz.underlying239;have a164:=Tryz.isAgg239;have z164:=Tryz.sizeOf239;have u164:=run_underlying t164
 go_enter Tryz.func182,Tryz.ntmps182
 go_wp2
 rw [Lib.run_to_unsafe w ⟨b,0,none⟩ t70 t164 hj (by rw [hjs];decide) oC (Nat.zero_lt_succ 1)];simp only [Result.andThen];rw [Oper.upon_value]
 go_wp2
 rw [run_callFunc_extern Tryz.func195 (by kernel_rfl) (by kernel_rfl) (by kernel_rfl) (e:=Extern.AbiNoEscape.same) (by kernel_rfl)];rw [Lib.run_noEscape];simp only [Result.andThen];rw [Oper.upon_value]
 go_wp2
 rw [Lib.run_from_unsafe w ⟨b,0,none⟩ t164 t70 hj oC lies];simp only [Result.andThen];rw [Oper.upon_value]
 go_wp2
 go_end0
 exact⟨rfl,rfl⟩
end Go.Proofs.YtgailjhnfghkgaaGreatDoor
end
section
namespace Go.Proofs.YtgailjhnfghkgaaGreatDoor
open Go Go.AM Go.CM
set_option maxRecDepth 100000
theorem zOk:xg Tryz.prog TY TZ:=SJ (by decide+kernel)
theorem OW:KD Tryz.prog=true:=by decide+kernel
end Go.Proofs.YtgailjhnfghkgaaGreatDoor
end
section
namespace Go.Proofs.YtgailjhnfghkgaaGreatDoor
open Go Go.AM Go.CM
set_option maxRecDepth 100000
theorem sE{f:FuncId}{fn:Func}(h:Tryz.prog.funcs[f]? =some fn)(hn:fn.name≠ "runtime.NumGoroutine")(hb:fn.body.isSome=true):eC Tryz.prog f:=⟨fn,h,hn,hb⟩
theorem u6:∀f x,Lib.ctzFrom f x<=f
 |0,_=>Nat.le_refl _
 |f+1,x=>by
  have:=u6 f (x / 2);unfold Lib.ctzFrom;split<;>omega
theorem KE(n:Nat):Lib.ctz 64 n<=64:=by
 unfold Lib.ctz;split
 ·exact Nat.le_refl _
 ·exact u6 64 n
theorem SK:u7 Tryz.prog tzK:=λ f args s v s' h=>by
 obtain⟨h1,h⟩:=aC h;have h1:=ay.1 h1;subst h1;cases args with
 |nil=>cases h
 |cons a l=>
  cases l with
  |cons=>cases h
  |nil=>
   obtain⟨⟨k,m⟩,h2,h3⟩:=au h;obtain⟨h4,h5⟩:=aC h3;obtain⟨n,h6,h7⟩:=au h5;cases h7;have hk:k= .u64:=bZ h4;subst hk;refine⟨sE Tryz.func138 (by decide) rfl,λ ρ w vs hd hv=>?_⟩;cases vs with
   |nil=>exact hv.elim
   |cons u vs=>
    cases vs with
    |cons=>exact hv.2.elim
    |nil=>
     obtain⟨e1,i1⟩:=iM h2 hv.1
     have hm:m=(n:Int):=by
      cases m with
      |ofNat m=>cases h6;rfl
      |negSucc m=>cases h6
     subst hm
     have aS:n<18446744073709551616:=by
      have:eD .u64 (n:Int):=i1;simp [eD,IntKind.min,IntKind.max,IntKind.signed,IntKind.bits]at this;omega
     have hc:=Any7.bits_TrailingZeros64 tzL n aS w (λ _ j hj=>hd.lw j hj);have e1:u= .int .u64 (n:Int):=e1;subst e1;refine Calls.mono hc λ e w' ⟨he,hw⟩=>?_;subst hw;have hz:Lib.ctz 64 n<=64:=KE n;exact⟨_,he,ρ,bI.refl hd,rfl,by show eD .i64 ((Lib.ctz 64 n:Nat):Int);simp [eD,IntKind.min,IntKind.max,IntKind.signed,IntKind.bits];omega⟩
theorem zQ{w:World}{b off:Nat}{cs:Array Value}{ty:TypeId}{u:Value}(hb:w.heap[b]? =some (.cells cs ty (0,0))):(w.setCell ⟨b,off,none⟩ u).heap=w.heap.setIfInBounds b (.cells (cs.setIfInBounds off u) ty (0,0)):=by
 apply Array.ext_getElem?;intro i;show(w.heap.modify b _)[i]? =_;rw [Array.getElem?_modify]
 by_cases e:b=i
 ·subst e
  have:=(Array.getElem?_eq_some_iff.1 hb).1;rw [if_pos rfl,hb];simp [this]
 ·rw [if_neg e,Array.getElem?_setIfInBounds_ne e]
theorem SM:u7 Tryz.prog ccK:=λ f args s v s' h=>by
 obtain⟨h1,h⟩:=aC h;have h1:=ay.1 h1;subst h1;cases args with
 |nil=>cases h
 |cons a l=>
  cases l with
  |cons=>cases h
  |nil=>
   obtain⟨⟨k,off⟩,h2,h3⟩:=au h;obtain⟨h4,h5⟩:=aC h3;have h4:off=0:=ay.1 h4;subst h4;obtain⟨⟨l,g⟩,h6,h7⟩:=au h5;refine⟨sE Tryz.func182 (by decide) rfl,λ ρ w vs hd hv=>?_⟩;cases vs with
   |nil=>exact hv.elim
   |cons u vs=>
    cases vs with
    |cons=>exact hv.2.elim
    |nil=>
     have hu:jI ρ (.ptr k 0) u:=by
      obtain⟨x,x1,x2⟩:=au h2;have:=b8 x1 hv.1;cases x<;>try (cases x2;done)
      cases x2;exact this
     obtain⟨b,c,r1,r2⟩:=hu;subst r2;obtain⟨cs,ty,g5,g6,g7,g8⟩:=dI hd (bz h6) r1;have h7:ccH k l g s=some (v,s'):=h7;have g6:l.length<=cs.size:=g6;have g8:cF ρ l (cs.toList.take l.length):=g8
     match l,h7,g6,g7,g8,bz h6 with
     |[],h7,_,_,_,_=>cases h7
     |[_],h7,_,_,_,_=>cases h7
     |_::_::_::_,h7,_,_,_,_=>cases h7
     |[a0,x0],h7,g6,g7,g8,eI=>
      have g6:2<=cs.size:=g6
      have bR:∃v0 v1 r,cs.toList=v0::v1::r:=by
       cases e:cs.toList with
       |nil=>have e2:cs.size=0:=by rw [<-Array.length_toList,e];rfl
             omega
       |cons v0 r=>
        cases r with
        |nil=>have e2:cs.size=1:=by rw [<-Array.length_toList,e];rfl
              omega
        |cons v1 r=>exact⟨v0,v1,r,rfl⟩
      obtain⟨v0,v1,r,bR⟩:=bR;have g8:cF ρ [a0,x0] (cs.toList.take 2):=g8;rw [bR]at g8;obtain⟨q1,q2,_⟩:=g8
      have VJ:w.cell? ⟨b,0,none⟩=some v0:=by
       have:cs[0]? =some v0:=by rw [<-Array.getElem?_toList,bR];rfl
       simp [World.cell?,g5,this]
      cases a0 with
      |ptr k' o=>
       obtain⟨m1,m2⟩:=aC h7;obtain⟨m3,m4⟩:=aC m2;cases m4;have m1:k'=k:=ay.1 m1;have m3:o=0:=ay.1 m3;subst m1;subst m3;obtain⟨b',c',z1,z2⟩:=q1;rw [r1]at z1;cases z1;subst z2;refine Calls.mono (OV b w VJ) λ e w' ⟨he,hw⟩=>?_;subst hw;exact⟨_,he,ρ,bI.refl hd,_,rfl,ag⟩
      |dG=>
       cases g with
       |none=>cases h7
       |some p=>
        obtain⟨z,t⟩:=p;obtain⟨m1,m2⟩:=aC h7;obtain⟨m3,m4⟩:=aC m2;cases m4;have n1:z=0:=ay.1 m1;have n3:t=178:=ay.1 m3;clear m1 m3 m2;subst n1;subst n3;have aw:ty=178:=g7.1;have bk:cs.size=2:=g7.2.1 rfl;subst aw;have q1:v0= .pointer none:=q1;subst q1;refine Calls.mono (KC b w VJ (by simp [World.shape?,g5,bk]) (by simp [World.frozen?,g5])) λ e w' ⟨he,hw⟩=>?_;subst hw
        have hr:r=[]:=by
         have:=congrArg List.length bR;rw [Array.length_toList,bk]at this;cases r with
         |nil=>rfl
         |cons=>simp at this
        subst hr;refine⟨_,he,ρ,bI.write hd eI r1 (zQ g5) ⟨⟨rfl,rfl⟩,rfl,Nat.le_refl _⟩ ⟨_,_,rfl,by simp [bk],⟨rfl,λ _=>by simp [bk],λ h=>absurd rfl h⟩,?_⟩,_,rfl,ag⟩
        have:(cs.setIfInBounds 0 (.pointer (some ⟨b,0,none⟩))).toList=[.pointer (some ⟨b,0,none⟩),v1]:=by
         rw [Array.toList_setIfInBounds,bR];rfl
        rw [this];exact⟨⟨b,c,r1,rfl⟩,q2,ag⟩
      |_=>cases h7
theorem OX:u7 Tryz.prog SH:=λ f args s v s' h=>by
 unfold SH at h;split at h
 ·rename_i r hr
  cases h;exact SM f args s v s' hr
 ·exact SK f args s v s' h
theorem nK:QF 6 [] (.bool (.lit true)):=
 OY (K:=KT) KF zOk OX (λ _ h=>by cases h) (λ p h=>by
  have hp:p=(209,5):=by
   simp only [F8]at h;split at h
   ·rename_i h1
    rw [Bool.and_eq_true]at h1;have a1:=ay.1 h1.1;have a2:=ay.1 h1.2;exact Prod.ext a1 a2
   ·cases h
  subst hp;exact⟨by kernel_rfl,by kernel_rfl⟩) mixed (KG OW) H5
end Go.Proofs.YtgailjhnfghkgaaGreatDoor
end
section
namespace Go.Proofs.YtgailjhnfghkgaaGreatDoor
open Go Go.AM
set_option maxRecDepth 100000
set_option maxHeartbeats 8000000
theorem OZ(L s:Int)(F:List Bool)(N:List (List Int)):QF 3 [DO L s F N] (.bool (.lit true)):=kr Tryz.func3 (by decide+kernel) rfl (ah rfl) λ _=>by
 refine Or.inl (cq (H6 L s F N) ab ?_);refine ae (λ h1=>?_) (λ h1=>?_)
 ·exact Or.inl (cq nK trivial (ae rfl ag))
 have h1:(!O0 L s F N)=false:=h1;have hs:=BQ.1 (show O0 L s F N=true by simpa using h1);obtain⟨hF3,YB,hd⟩:=hs;obtain⟨⟨Xo,Ra⟩,hd⟩:=hd;obtain⟨L,rfl⟩:=Int.eq_ofNat_of_zero_le Xo;obtain⟨s,rfl⟩:=Int.eq_ofNat_of_zero_le Ra;rw [Int.toNat_natCast,Int.toNat_natCast]at hd;refine Or.inr (Or.inr (ce (R9 hd aa (λ _ _ _ _ _ _ hM=>Nat.le_trans (hM.dv hd).2 hF3)) ab ?_));refine VK λ F' N' E I W Pl=>?_;rintro⟨⟨l,R1,j,l',hM⟩,P,Ls,R,U,Ws,B,S,hR,_⟩;obtain⟨iw,hle⟩:=hM.dv hd;have c8:=iw.st;have hT:=hR.tme (FT iw) aa aa;have HH:=hT.tJ;have gV:=hT.pos;have htl:=jc E;have VL:=hT.kP;refine ae (λ k=>absurd rfl k) (λ _=>?_);refine ae (λ h2=>?_) (λ h2=>?_)
 ·exact ae (λ _=>Or.inl (cq nK trivial (ae rfl ag))) (λ k=>absurd rfl k)
 have h2:((dZ E).length:Int)<=9:=h2
 by_cases hI:KH (dZ E)
 ·refine Or.inl (cq (KI (dZ E) hI aa) ab ?_)
  refine Or.inr (Or.inr (ce (KJ (dZ E) VL aa) ab ?_));intro R hD;have hD:u9 (dZ E) R:=hD;refine ae (λ k=>absurd rfl k) (λ _=>?_)
  have e0:(!((decide ((R.length:Int)=0))==(decide (((dZ E).length:Int)=1))))=false:=by
   have:=hD.nil
   by_cases e:R.length=0
   ·simp [e,this.1 e]
   ·have h1:¬(dZ E).length=1:=λ k=>e (this.2 k)
    simp [e,show ¬((dZ E).length:Int)=1 by omega]
  have e1:(!(true==decide ((R.length:Int)=1)))=false:=by
   have:=(F9 VL hD).2 hI;simp [this]
  refine ae (λ k=>absurd (show(!(true==decide ((R.length:Int)=1)))=true from k) (by rw [e1];decide)) (λ _=>?_);refine ae (λ k=>absurd (show(!((decide ((R.length:Int)=0))==(decide (((dZ E).length:Int)=1))))=true from k) (by rw [e0];decide)) (λ _=>?_);refine af []<|lp (X:=Nat) (λ k=>[(68,.int .i64 k)]) (λ _=>[]) (λ k=>k<=R.length) (λ k=>R.length - k) 0 (Nat.zero_le _) ab ?_
  rintro k hk;refine ae (λ h6=>?_) (λ h6=>?_)
  ·have h6:(k:Int)<(R.length:Int):=h6
   have hm:R.getD k []∈R:=an aa;have zq:=hD.UM.cg _ hm;have hfw:=hD.UM.tJ;refine ae aa ?_;refine Or.inl (cq (Ga (dZ E) (R.getD k []) zq) ab ?_);refine ae (λ h=>absurd rfl h) (λ _=>?_);refine ae aa ?_;exact nx (k+1) (show k+1<=R.length by omega) (show R.length - (k+1)<R.length - k by omega) ab
  ·exact Or.inl (cq nK trivial (ae rfl ag))
 ·refine Or.inl (cq (KK (dZ E) hI (λ _=>by omega)) ab ?_)
  refine Or.inr (Or.inr (ce (KJ (dZ E) VL aa) ab ?_));intro R hD;have hD:u9 (dZ E) R:=hD;refine ae (λ k=>absurd rfl k) (λ _=>?_)
  have e0:(!((decide ((R.length:Int)=0))==(decide (((dZ E).length:Int)=1))))=false:=by
   have:=hD.nil
   by_cases e:R.length=0
   ·simp [e,this.1 e]
   ·have h1:¬(dZ E).length=1:=λ k=>e (this.2 k)
    simp [e,show ¬((dZ E).length:Int)=1 by omega]
  have e1:(!(false==decide ((R.length:Int)=1)))=false:=by
   have:¬R.length=1:=λ k=>hI ((F9 VL hD).1 k);simp [show ¬(R.length:Int)=1 by omega]
  refine ae (λ k=>absurd (show(!(false==decide ((R.length:Int)=1)))=true from k) (by rw [e1];decide)) (λ _=>?_);refine ae (λ k=>absurd (show(!((decide ((R.length:Int)=0))==(decide (((dZ E).length:Int)=1))))=true from k) (by rw [e0];decide)) (λ _=>?_);refine af []<|lp (X:=Nat) (λ k=>[(68,.int .i64 k)]) (λ _=>[]) (λ k=>k<=R.length) (λ k=>R.length - k) 0 (Nat.zero_le _) ab ?_
  rintro k hk;refine ae (λ h6=>?_) (λ h6=>?_)
  ·have h6:(k:Int)<(R.length:Int):=h6
   have hm:R.getD k []∈R:=an aa;have zq:=hD.UM.cg _ hm;have hfw:=hD.UM.tJ;refine ae aa ?_;refine Or.inl (cq (Ga (dZ E) (R.getD k []) zq) ab ?_);refine ae (λ h=>absurd rfl h) (λ _=>?_);have hls:=KL VL hD hI hm;refine ae (λ h=>absurd (show((dZ E).length:Int)<=((eU (dZ E) (R.getD k [])).length:Int)from h) (by rw [cL];omega)) (λ _=>?_);refine ae aa ?_;exact nx (k+1) (show k+1<=R.length by omega) (show R.length - (k+1)<R.length - k by omega) ab
  ·exact Or.inl (cq nK trivial (ae rfl ag))
end Go.Proofs.YtgailjhnfghkgaaGreatDoor
end
section
namespace Go.Proofs.YtgailjhnfghkgaaGreatDoor
open Go Go.AM
open Go.ChangeShapes Go.WideShapes Go.ChangeAt Go.RowKit Go.Deep
def VM:aX:=λ _ _=>False
section
variable{H:Type}{enc:TypeId × Value->H}{P:Program}{w:World}
theorem KM{k:IntKind}{n:Int}(h:(Lit.int k n).wf=true):eD k n:=by
 simp only [Lit.wf,Bool.and_eq_true,decide_eq_true_eq]at h;exact h
theorem va{e:TypeId}{d:DataW H}{x:Nat}:∀{l:List (DataW H)},d∈l->x∈d.weights P e->x∈DataW.weightsAll P e l
 |[],h,_=>by cases h
 |c::l,h,hx=>by
  simp only [DataW.weightsAll,List.mem_append];rcases List.mem_cons.1 h with rfl|h
  ·exact .inl hx
  ·exact .inr (va h hx)
theorem KN{t e q:TypeId}{n:Nat}{v:Value}{y:DataW H × List MemPlace}(ht:P.underlying t=some (.slice e))(he:P.underlying e=some (.slice q))(hq:P.underlying q=some (.int .i64))(ce:P.cellsOf e=1)(cq:P.cellsOf q=1)
  (be:1<=P.bytesOf e) (bq:1<=P.bytesOf q) (h:DataW.trod enc P w 0 (λ _=>true) true n t [v]=some y) (hw:∀x∈y.1.weights P t,x<=reachBytes):∃l,aH bg w VM (.ro (.rows .i64 l)) v:=by
 have Rb:reachBytes=140737488351232:=rfl;rcases open_int_rows ht he hq ce cq h with ⟨hv,_⟩|⟨a,len,cap,A,L,C,Z,hv,_,hl,hm,hy,BR⟩
 ·obtain rfl:v= .slice none 0 0:=by simpa using hv
  exact⟨[],Nat.zero_le _,none,0,rfl,Nat.le_refl _,.inl rfl⟩
 ·obtain rfl:v= .slice (some a) len cap:=by simpa using hv
  subst hy
  have hlen:len*P.bytesOf e<=reachBytes:=by
   have:=hw ((len+(cap - len))*P.bytesOf e) (by simp [DataW.weights,ht]);exact Nat.le_trans (Nat.mul_le_mul_right _ aa) this
  have BS:len<=reachBytes:=Nat.le_trans (by have:=Nat.mul_le_mul_left len be;omega) hlen
  have hL:∀r,r<len->L r<=reachBytes:=λ r hr=>by
   obtain⟨_,h1,h2,h3,_,h4,_⟩:=BR r aa;cases hA:A r with
   |none=>have:=h4 hA;omega
   |some a'=>
    have hx:(L r+((Z r).length - L r))*P.bytesOf q<=reachBytes:=by
     refine hw _ ?_;simp only [DataW.weights,ht,List.mem_cons,List.mem_append];refine .inr (.inl (va (d:=intRow .i64 (A r) (L r) (Z r)) (List.mem_map.2 ⟨r,List.mem_range.2 hr,rfl⟩) ?_));rw [hA];simp [intRow,DataW.weights,he,lits]
     left
     rw [Nat.min_eq_left aa]
    have h5:L r*1<=(L r+((Z r).length - L r))*P.bytesOf q:=Nat.mul_le_mul aa bq;omega
  refine⟨(List.range len).map λ r=>(Z r).take (L r),?_⟩;have ot:(RO.rows .i64 ((List.range len).map λ r=>(Z r).take (L r))).len=len:=by simp [RO.len]
  refine⟨by rw [ot];exact Nat.le_trans BS (by rw [Rb];decide),some a,cap,by rw [ot],by rw [ot];exact hl,?_⟩
  by_cases h0:len=0
  ·exact .inl (by rw [RO.cells,ot,h0,Nat.zero_mul])
  have zR:=(BR 0 aa).1;obtain⟨b,off,spot⟩:=a;have BT:spot=none:=by simpa [Addr.add]using World.cell?_spot zR
  subst BT;refine .inr ⟨b,off,rfl,λ r hr=>?_⟩;have hr:r<len:=by simpa [RO.cells,ot,RO.sz]using hr
  obtain⟨h1,h2,h3,h4,h5,h6,h7⟩:=BR r aa;refine⟨.slice (A r) (L r) (C r),by rw [<-add_plain];exact h1,λ hh=>hh,?_⟩;have eI:((List.range len).map λ r=>(Z r).take (L r)).getD r []=(Z r).take (L r):=by simp [List.getD,hr]
  show H7 w VM .i64 (((List.range len).map λ r=>(Z r).take (L r)).getD r []) _;rw [eI];have KO:((Z r).take (L r)).length=L r:=by rw [List.length_take];omega
  refine⟨by rw [KO];have:=hL r hr;simp only [LB];omega,A r,C r,by rw [KO],by rw [KO];exact h2,?_⟩
  by_cases Gb:L r=0
  ·exact .inl (by rw [KO,Gb])
  cases hA:A r with
  |none=>have:=h6 hA;omega
  |some a'=>
   obtain⟨h8,h9⟩:=h7 a' hA;obtain⟨b',off',spot'⟩:=a';have BT:spot'=none:=by simpa [Addr.add]using World.cell?_spot (h9 0 aa)
   subst BT;refine .inr ⟨b',off',rfl,λ c hc=>?_⟩;rw [KO]at hc;have DX:((Z r).take (L r)).getD c 0=(Z r).getD c 0:=by simp [List.getD,hc]
   refine⟨.int .i64 ((Z r).getD c 0),by rw [<-add_plain];exact h9 c aa,λ hh=>hh,by rw [DX],?_⟩;rw [DX];refine KM (h5 _ ?_);have:c<(Z r).length:=aa;simp [List.getD,this]
theorem vb{W W':World}(hs:gk (λ _ _=>False) W W'){b:Nat}(hb:b<W.heap.size):W'.heap[b]? =W.heap[b]? :=by
 rcases hs.2 b hb with h|⟨cs,cs',ty,h1,h2,h3,h4⟩|⟨_,_,_,_,_,_,h⟩
 ·exact h
 ·rw [h1,h2]
  have:cs'=cs:=Array.ext_getElem? λ i=>h4 i (by simp);rw [this]
 ·exact h.elim
theorem KP{t:TypeId}(hl:laidOutB P=true)(hr:P.readableRec t=true)(aI:t<P.types.size){W W':World}{v:Value}{d:DataW H}{ps:List MemPlace}
  (h:DataW.Trod enc P W 0 (λ _=>true) true t v d ps) (hs:gk (λ _ _=>False) W W') (aS:∀x∈ps,x.block<W.heap.size) (sp:Nat->Bool) (YC:∀x∈ps,sp x.block=true):
  DataW.Trod enc P W' 0 sp true t v d ps:=
 WideElems.Trod_stays hl hr aI h (λ x hx=>by
  have hb:=aS x hx;cases x with
  |cell b o=>exact World.cell?_of_block (w:=W) (vb hs hb)
  |map b=>exact vb hs hb) YC
theorem KQ{W W':World}(hs:gk (λ _ _=>False) W W')(may:MemPlace->Prop):W.keptBut W' may:=by
 refine⟨hs.3.1.1,hs.3.1.2,λ i hi=>?_⟩;rw [vb hs hi];cases W.heap[i]? with
 |none=>exact rfl
 |some o=>cases o<;>first|exact⟨rfl,rfl,rfl,λ _ _=>rfl⟩|exact .inr ⟨rfl,rfl⟩|exact rfl
theorem pZ:∀{ts:List TypeId} {ds:List (DataW H)} {j:Nat} {t:TypeId} {d:DataW H} {x:Nat},ts[j]? =some t->ds[j]? =some d->x∈d.weights P t->x∈DataW.weightsEach P ts ds
 |[],_,j,_,_,_,h,_,_=>by simp at h
 |_::_,[],j,_,_,_,_,h,_=>by simp at h
 |t::ts,d::ds,0,t',d',x,h1,h2,hx=>by
  simp at h1 h2;subst h1;subst h2;simp [DataW.weightsEach,hx]
 |t::ts,d::ds,j+1,t',d',x,h1,h2,hx=>by
  have:=pZ (ts:=ts) (ds:=ds) (j:=j) (by simpa using h1) (by simpa using h2) hx;simp [DataW.weightsEach,this]
end
end Go.Proofs.YtgailjhnfghkgaaGreatDoor
end
section
namespace Go.Proofs.YtgailjhnfghkgaaGreatDoor
open Go Go.AM
open Go.ChangeShapes Go.WideShapes Go.ChangeAt Go.RowKit Go.Deep
section
variable{H:Type}{enc:TypeId × Value->H}{P:Program}{w:World}
theorem H8{t e:TypeId}{n:Nat}{v:Value}{y:DataW H × List MemPlace}(ht:P.underlying t=some (.slice e))(he:P.underlying e=some .bool)(ce:P.cellsOf e=1)
  (be:1<=P.bytesOf e) (h:DataW.trod enc P w 0 (λ _=>true) true n t [v]=some y) (hw:∀x∈y.1.weights P t,x<=reachBytes):∃l,aH bg w VM (.ro (.aL l)) v:=by
 have Rb:reachBytes=140737488351232:=rfl;rcases DataW.trod_slice ht h with ⟨hv,_⟩|⟨a,len,cap,elems,rest,n',_,hv,rfl,_,hl,hm,hlen,Gc,_,_⟩
 ·obtain rfl:v= .slice none 0 0:=by simpa using hv
  exact⟨[],Nat.zero_le _,none,0,rfl,Nat.le_refl _,.inl rfl⟩
 ·obtain rfl:v= .slice (some a) len cap:=by simpa using hv
  have Re:(elems.length+rest.length)*P.bytesOf e<=reachBytes:=hw _ (by simp [DataW.weights,ht]);have BS:len*1<=(elems.length+rest.length)*P.bytesOf e:=Nat.mul_le_mul aa be
  have each:∀i,i<len->∃z:Bool,w.cell? (a.add i)=some (.bool z):=λ i hi=>by
   have h1:=Gc i hi;rw [List.getElem?_eq_getElem aa,ce,Nat.mul_one,Option.bind_eq_some_iff]at h1;obtain⟨cs,h2,h3⟩:=h1;obtain⟨_,h4,h5⟩:=World.cells?_some h2
   match cs,h4 with
   |[c0],_=>
    obtain⟨z0,e0,_⟩:=DataW.trod_bool he h3;have e0:c0= .bool z0:=by simpa using e0
    have k0:=h5 0 aa;rw [e0]at k0;exact⟨z0,by simpa [Addr.add]using k0⟩
  obtain⟨z,hz⟩:=choose_lt each;refine⟨(List.range len).map z,?_⟩;have ot:((List.range len).map z).length=len:=by simp
  refine⟨by show _<=_;simp only [RO.len,ot,LB];omega,some a,cap,by simp only [RO.len,ot],by simp only [RO.len,ot];exact hl,?_⟩
  by_cases Gb:len=0
  ·exact .inl (by simp [RO.cells,RO.len,Gb])
  obtain⟨b,off,spot⟩:=a;have BT:spot=none:=by simpa [Addr.add]using World.cell?_spot (hz 0 aa)
  subst BT;refine .inr ⟨b,off,rfl,λ c hc=>?_⟩;have hc:c<len:=by simpa [RO.cells,RO.len,RO.sz]using hc
  have z1:=hz c hc;rw [add_plain]at z1;have hg:((List.range len).map z).getD c false=z c:=by simp [List.getD,hc]
  exact⟨_,z1,λ hh=>hh,by simp only [av,hg]⟩
theorem O1{t tg te ti tb tl:TypeId}{r:Reach}{b0:Nat}{f0 f1 f2 f3:Field}{v:Value}{d:DataW H}{p:List MemPlace}(hs:P.underlying t=some (.struct #[f0,f1,f2,f3]))(mw:oneCellFields P #[f0,f1,f2,f3]=true)(hC:P.cellsOf t=4)
  (e0:f0.type=ti) (e1:f1.type=ti) (e2:f2.type=tl) (e3:f3.type=tg)
  (hg:P.underlying tg=some (.slice te)) (he:P.underlying te=some (.slice ti)) (hi:P.underlying ti=some (.int .i64)) (hl:P.underlying tl=some (.slice tb)) (hb:P.underlying tb=some .bool) (ce:P.cellsOf te=1) (ci:P.cellsOf ti=1) (cb:P.cellsOf tb=1) (be:1<=P.bytesOf te) (bi:1<=P.bytesOf ti) (bb:1<=P.bytesOf tb)
  (hv:Value.okWide P w r b0 t v) (h:DataW.Trod enc P w 0 (λ _=>true) true t v d p) (hw:∀x∈d.weights P t,x<=reachBytes):
  ∃L s F N,az bg w VM (.agg [.int .i64 L,.int .i64 s,.ro (.aL F),.ro (.rows .i64 N)]) v:=by
 obtain⟨cs,rfl,bk⟩:=okWide_struct hs hv;obtain⟨l⟩:=cs;have hl4:l.length=4:=by simpa [hC]using bk
 obtain⟨fuel,hf⟩:=h;obtain⟨xs,n,_,hx,_,hlen,DX⟩:=DataW.trod_struct hs hf;have hx4:xs.length=4:=by simpa using hlen
 have k0:=hone_of mw 0 f0 rfl;have k1:=hone_of mw 1 f1 rfl;have k2:=hone_of mw 2 f2 rfl;have k3:=hone_of mw 3 f3 rfl
 match l,hl4,xs,hx4 with
 |[c0,c1,c2,c3],_,[y0,y1,y2,y3],_=>
  have g0:DataW.trod enc P w 0 (λ _=>true) true n f0.type [c0]=some y0:=by simpa [Value.cells,k0.1,k0.2]using DX 0 f0 rfl
  have g1:DataW.trod enc P w 0 (λ _=>true) true n f1.type [c1]=some y1:=by simpa [Value.cells,k1.1,k1.2]using DX 1 f1 rfl
  have g2:DataW.trod enc P w 0 (λ _=>true) true n f2.type [c2]=some y2:=by simpa [Value.cells,k2.1,k2.2]using DX 2 f2 rfl
  have g3:DataW.trod enc P w 0 (λ _=>true) true n f3.type [c3]=some y3:=by simpa [Value.cells,k3.1,k3.2]using DX 3 f3 rfl
  simp only [Prod.mk.injEq]at hx;have hd:d= .agg [y0.1,y1.1,y2.1,y3.1]:=by simpa using hx.1
  subst hd;have UN:∀x∈DataW.weightsEach P [f0.type,f1.type,f2.type,f3.type] [y0.1,y1.1,y2.1,y3.1],x<=reachBytes:=λ x VN=>hw x (by simpa [DataW.weights,hs]using VN);rw [e0]at g0 UN;rw [e1]at g1 UN;rw [e2]at g2 UN;rw [e3]at g3 UN;obtain⟨N,hN⟩:=KN hg he hi ce ci be bi g3 λ x VN=>UN x (pZ (j:=3) rfl rfl VN);obtain⟨F,hF⟩:=H8 hl hb cb bb g2 λ x VN=>UN x (pZ (j:=2) rfl rfl VN);obtain⟨L,hL,_,wL⟩:=DataW.trod_int hi g0;obtain⟨s,xo,_,ws⟩:=DataW.trod_int hi g1;exact⟨L,s,F,N,_,rfl,⟨by simpa using hL,KM wL⟩,⟨by simpa using xo,KM ws⟩,hF,hN,ag⟩
end
end Go.Proofs.YtgailjhnfghkgaaGreatDoor
end
