import Derived.Test.YtgailjhnfghkgaaGreatDoorFrameD
import Derived.Test.YtgailjhnfghkgaaGreatDoorCards
import Derived.Test.YtgailjhnfghkgaaGreatDoorTie
import Derived.Test.YtgailjhnfghkgaaGreatDoorLaidF
namespace Go.Proofs.YtgailjhnfghkgaaGreatDoor.topIrreducible
open Go Go.AM Go.ChangeShapes Go.WideShapes Go.ChangeAt Go.RowKit
theorem own:ownKnob Tryz.prog.godebug=none:=by kernel_rfl
theorem laidOut:laidOutB Tryz.prog=true:=by kernel_rfl
theorem ceR:Tryz.prog.cellsOf 29=1:=by kernel_rfl
theorem beR:1<=Tryz.prog.bytesOf 29:=of_decide_eq_true (by kernel_rfl)
theorem ciR:Tryz.prog.cellsOf 3=1:=by kernel_rfl
theorem biR:1<=Tryz.prog.bytesOf 3:=of_decide_eq_true (by kernel_rfl)
theorem ceB:Tryz.prog.cellsOf 4=1:=by kernel_rfl
theorem beB:1<=Tryz.prog.bytesOf 4:=of_decide_eq_true (by kernel_rfl)
theorem cD:Tryz.prog.cellsOf 25=4:=by kernel_rfl
set_option maxRecDepth 100000 in
theorem lifted(os:Os)(started:os.Started)(H:Type)(enc:TypeId × Value->H):
  ReturnsInHanded {} Tryz.checked os 3 .any (λ w args=>(Rows.topIrreducibleSpec.pre enc Tryz.prog Tryz.f3 [] false w args/\laidMetH Tryz.prog Dr w)/\sizedMet enc Tryz.prog Tryz.f3 (OpenSpec.ofChange Rows.topIrreducibleSpec) false w args) (Rows.topIrreducibleSpec.post enc Tryz.prog Tryz.f3 false true false false):=by
 refine returnsInHanded_of_change_and (C:=Tryz.checked) (X:=λ w _=>laidMetH Tryz.prog Dr w) (λ _ _ _ hh h=>h.of_heap hh) own started (by kernel_rfl) Tryz.func3
  (ChangeSpec.witness_shaped (enc:=enc) (C:=Tryz.checked) (os:=os) (X:=λ w _=>laidMetH Tryz.prog Dr w) false (World.doorLaid Tryz.prog 14 os) #[.agg #[.int .i64 0,.int .i64 0,.slice none 0 0,.slice none 0 0]] 8 rfl (World.shaped_of_RefB (by kernel_rfl) (by kernel_rfl)) (by kernel_rfl) (by kernel_rfl) (by kernel_rfl) (M5 os _)) ?_
 intro W base args ds gs before RT hW _ WZ hL _;have bk:(DataW.weightsEach Tryz.prog (Tryz.f3.params.toList++Rows.topIrreducibleSpec.plain.varTypes Tryz.prog) (ds++gs)).all (· <=reachBytes)=true:=WZ;clear WZ;have Cv:∀(j:Nat) t v,Tryz.f3.params[j]? =some t->args[j]? =some v->Value.okWide Tryz.prog W .any base t v:=RT;have ZV:=hW;obtain⟨p,q,hA0,hV,rfl,_,_⟩:=hW;have hA:DataW.TrodAll enc Tryz.prog W 0 (λ _=>true) true Tryz.f3.params.toList args.toList ds p:=hA0;rw [Tryz.params3]at hA Cv bk;obtain⟨v0,vs0,d0,ds0,p0,q0,bn,rfl,rfl,h0,r0⟩:=trodAll_cons hA;obtain⟨rfl,rfl,rfl⟩:=trodAll_nil r0;obtain rfl:args= #[v0]:=by cases args;simp_all
 obtain⟨rfl,rfl⟩:=trodVars_none hV;clear hA0 RT;simp only [List.append_nil]at ZV;have W1:∀x∈p0,x.block<W.heap.size:=λ x hx=>by simpa using ZV.lt x (by simp [hx])
 have DW:∀x∈d0.weights Tryz.prog 25,x<=reachBytes:=λ x hx=>by
  have:=List.all_eq_true.1 bk x (pZ (j:=0) (t:=25) (d:=d0) rfl rfl hx);exact of_decide_eq_true this
 obtain⟨L0,s0,F0,N0,sA⟩:=O1 (f0:=_) (f1:=_) (f2:=_) (f3:=_) Tryz.underlying25 (by kernel_rfl) cD rfl rfl rfl rfl Tryz.underlying23 Tryz.underlying29 Tryz.underlying3 Tryz.underlying22 Tryz.underlying4 ceR ciR ceB beR biR beB (Cv 0 25 v0 rfl rfl) h0 DW;refine((OZ L0 s0 F0 N0).2 VM W [v0] (Qt hL) (λ _ _ h=>h.elim) ⟨sA,ag⟩).mono λ e W' ⟨v,he,hs,hv⟩=>?_;subst he;obtain⟨_,_,_,hv⟩:=hv;obtain rfl:v= .bool true:=hv;refine⟨_,rfl,_,_,_,[],_,[],ZV,trodAll_cons_mk (shut_bool Tryz.underlying4 _) trodAll_mk0,(trodAll_cons_mk (KP laidOut (by kernel_rfl) (of_decide_eq_true (by kernel_rfl)) h0 hs W1 (λ b=>decide (b<W.heap.size)) (λ x hx=>decide_eq_true (W1 x hx))) trodAll_mk0),rfl,KQ hs _,λ h=>by cases h⟩
theorem over:Rows.topIrreducibleRow.holds Tryz.pinned (OpenSpec.ofChange Rows.topIrreducibleSpec):=
 OpenClaim.holds_of_wide 3 Tryz.f3 rfl rfl rfl rfl rfl rfl rfl ⟨rfl,rfl,rfl,rfl,rfl⟩ rfl rfl rfl rfl rfl (by kernel_rfl) Tryz.func3 (by kernel_rfl)
  (of_decide_eq_true (by kernel_rfl)) (by unfold Func.isWrapper;first|(rw [if_pos (by decide+kernel)];kernel_rfl)|(rw [if_neg (by decide+kernel)];exact⟨rfl,rfl⟩))
  (λ os started H enc _=>lifted os started H enc)
theorem proved:Rows.TopIrreducibleCardSaid:=
 Claim7.holds_tied_plain_at .later [] [.data] true Rows.topIrreducibleCard.stood.harness false over (λ _ h=>by cases h) (by kernel_rfl) (λ _ h=>by cases h) topIrreducible_row_tie rfl ⟨rfl,rfl⟩ (by kernel_rfl) rfl
  (λ f fn hf Rr=>by
   obtain rfl:f=3:=Option.some.inj ((show Tryz.prog.funcNamed "semigroup/semigrouptop.TopIrreducible"=some 3 by kernel_rfl).symm.trans hf) |>.symm
   obtain rfl:fn=Tryz.f3:=(Option.some.inj (Tryz.func3.symm.trans Rr)).symm
   exact⟨by kernel_rfl,λ j t ht=>by
    rw [Tryz.params3]at ht;have hm:t∈[25]:=by simpa using Array.mem_of_getElem? ht
    have bX:([25].all λ u=>!Tryz.prog.wantsStandIn u)=true:=by kernel_rfl
    exact(show Tryz.prog.wantsStandIn t=false by simpa using List.all_eq_true.1 bX t hm)⟩)
  (by kernel_rfl)
#print axioms proved
end Go.Proofs.YtgailjhnfghkgaaGreatDoor.topIrreducible
