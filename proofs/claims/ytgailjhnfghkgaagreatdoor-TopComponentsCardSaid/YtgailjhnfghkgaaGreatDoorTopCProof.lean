import Derived.Test.YtgailjhnfghkgaaGreatDoorFrameS
import Derived.Test.YtgailjhnfghkgaaGreatDoorCards
import Derived.Test.YtgailjhnfghkgaaGreatDoorTie
import Derived.Test.YtgailjhnfghkgaaGreatDoorLaidF
namespace Go.Proofs.YtgailjhnfghkgaaGreatDoor.topComponents
open Go Go.AM Go.ChangeShapes Go.WideShapes Go.ChangeAt Go.RowKit
theorem own:ownKnob Tryz.prog.godebug=none:=by kernel_rfl
theorem laidOut:laidOutB Tryz.prog=true:=by kernel_rfl
theorem ceR:Tryz.prog.cellsOf 29=1:=by kernel_rfl
theorem beR:1<=Tryz.prog.bytesOf 29:=ajX (by kernel_rfl)
theorem ciR:Tryz.prog.cellsOf 3=1:=by kernel_rfl
theorem biR:1<=Tryz.prog.bytesOf 3:=ajX (by kernel_rfl)
theorem ceB:Tryz.prog.cellsOf 4=1:=by kernel_rfl
theorem beB:1<=Tryz.prog.bytesOf 4:=ajX (by kernel_rfl)
theorem cD:Tryz.prog.cellsOf 25=4:=by kernel_rfl
set_option maxRecDepth 100000 in
theorem lifted(os:Os)(started:os.Started)(H:Type)(enc:TypeId × Value->H):
  ReturnsInHanded {} Tryz.checked os 4 .any (λw args=>(Rows.topComponentsSpec.pre enc Tryz.prog Tryz.f4 [] false w args/\laidMetH Tryz.prog Dt w)/\sizedMet enc Tryz.prog Tryz.f4 (OpenSpec.ofChange Rows.topComponentsSpec) false w args) (Rows.topComponentsSpec.post enc Tryz.prog Tryz.f4 false true false false):=by
 refine returnsInHanded_of_change_and (C:=Tryz.checked) (X:=λw _=>laidMetH Tryz.prog Dt w) (λ_ _ _ hh h=>h.of_heap hh) own started (by kernel_rfl) Tryz.func4
  (ChangeSpec.witness_shaped (enc:=enc) (C:=Tryz.checked) (os:=os) (X:=λw _=>laidMetH Tryz.prog Dt w) false (World.doorLaid Tryz.prog 14 os) #[.agg #[.int .i64 0,.int .i64 0,.slice none 0 0,.slice none 0 0],.string ⟨#[]⟩,.string ⟨#[]⟩] 8 rfl (World.shaped_of_RefB (by kernel_rfl) (by kernel_rfl)) (by kernel_rfl) (by kernel_rfl) (by kernel_rfl) (MY os _)) ?_
 intro W base args ds gs before Tn hW _ XI hL _;have bu:(DataW.weightsEach Tryz.prog (Tryz.f4.params.toList++Rows.topComponentsSpec.plain.varTypes Tryz.prog) (ds++gs)).all (· <=reachBytes)=true:=XI;clear XI;have yb:∀(j:Nat) t v,Tryz.f4.params[j]? =some t->args[j]? =some v->Value.okWide Tryz.prog W .any base t v:=Tn;have VZ:=hW;obtain⟨p,q,hA0,hV,rfl,_,_⟩:=hW;have hA:DataW.TrodAll enc Tryz.prog W 0 (λ_=>true) true Tryz.f4.params.toList args.toList ds p:=hA0;rw [Tryz.params4]at hA yb bu;obtain⟨v0,vs0,d0,ds0,p0,q0,bw,rfl,rfl,h0,r0⟩:=trodAll_cons hA;obtain⟨v1,vs1,d1,ds1,p1,q1,rfl,rfl,rfl,h1,r1⟩:=trodAll_cons r0;obtain⟨v2,vs2,d2,ds2,p2,q2,rfl,rfl,rfl,h2,r2⟩:=trodAll_cons r1;obtain⟨rfl,rfl,rfl⟩:=trodAll_nil r2;obtain rfl:args= #[v0,v1,v2]:=by cases args;simp_all
 obtain⟨rfl,rfl⟩:=trodVars_none hV;obtain⟨s1,rfl,rfl,rfl,z1⟩:=Go.ChangeMaps.open_string Tryz.underlying9 (yb 1 9 v1 rfl rfl) h1;have PB:s1.data.toList.length<=reachBytes:=ajX (aj7.1 bu _ (lg (j:=1) (t:=9) (d:=.lit (.string s1.data.toList)) rfl rfl (ajC.2 rfl)));obtain⟨l1,u5,rX,j9⟩:=Hb (w:=W) s1;obtain⟨s2,rfl,rfl,rfl,z2⟩:=Go.ChangeMaps.open_string Tryz.underlying9 (yb 2 9 v2 rfl rfl) h2;have ZY:s2.data.toList.length<=reachBytes:=ajX (aj7.1 bu _ (lg (j:=2) (t:=9) (d:=.lit (.string s2.data.toList)) rfl rfl (ajC.2 rfl)));obtain⟨l2,sZ,xM,Pm⟩:=Hb (w:=W) s2;clear hA0 Tn;simp only [List.append_nil]at VZ;have XJ:∀x∈p0,x.block<W.heap.size:=λx hx=>by simpa using VZ.lt x (by simp [hx])
 have ES:∀x∈d0.weights Tryz.prog 25,x<=reachBytes:=λx hx=>by
  have:=aj7.1 bu x (lg (j:=0) (t:=25) (d:=d0) rfl rfl hx);exact ajX this
 obtain⟨L0,s0,F0,N0,s7⟩:=Qd (f0:=_) (f1:=_) (f2:=_) (f3:=_) Tryz.underlying25 (by kernel_rfl) cD rfl rfl rfl rfl Tryz.underlying23 Tryz.underlying29 Tryz.underlying3 Tryz.underlying22 Tryz.underlying4 ceR ciR ceB beR biR beB (yb 0 25 v0 rfl rfl) h0 ES;refine((P9 L0 s0 F0 N0 l1 l2 (by rw [rX];exact PB) j9 (by rw [xM];exact ZY) Pm).2 V8 W [v0,.string s1,.string s2] (QZ hL) (λ_ _ h=>h.elim) ⟨s7,u5,sZ,ag⟩).mono λe W' ⟨v,he,hs,hv⟩=>?_;subst he;obtain⟨_,_,_,hv⟩:=hv;obtain rfl:v= .bool true:=hv;refine⟨_,rfl,_,_,_,[],_,[],VZ,trodAll_cons_mk (shut_bool Tryz.underlying4 _) trodAll_mk0,(trodAll_cons_mk (LX laidOut (by kernel_rfl) (ajX (by kernel_rfl)) h0 hs XJ (λb=>decide (b<W.heap.size)) (λx hx=>aj3 (XJ x hx))) (trodAll_cons_mk (Go.ChangeMaps.shut_string Tryz.underlying9 z1) (trodAll_cons_mk (Go.ChangeMaps.shut_string Tryz.underlying9 z2) trodAll_mk0))),rfl,LY hs _,λh=>by cases h⟩
theorem over:Rows.topComponentsRow.holds Tryz.pinned (OpenSpec.ofChange Rows.topComponentsSpec):=
 OpenClaim.holds_of_wide 4 Tryz.f4 rfl rfl rfl rfl rfl rfl rfl ⟨rfl,rfl,rfl,rfl,rfl⟩ rfl rfl rfl rfl rfl (by kernel_rfl) Tryz.func4 (by kernel_rfl)
  (ajX (by kernel_rfl)) (by unfold Func.isWrapper;first|(rw [ajq (by decide+kernel)];kernel_rfl)|(rw [ajm (by decide+kernel)];exact⟨rfl,rfl⟩))
  (λos started H enc _=>lifted os started H enc)
theorem proved:Rows.TopComponentsCardSaid:=
 Claim7.holds_tied_plain_at .later [] [.data] true Rows.topComponentsCard.stood.harness false over (λ_ h=>by cases h) (by kernel_rfl) (λ_ h=>by cases h) topComponents_row_tie rfl ⟨rfl,rfl⟩ (by kernel_rfl) rfl
  (λf fn hf Te=>by
   obtain rfl:f=4:=ajN ((show Tryz.prog.funcNamed "semigroup/semigrouptop.TopComponents"=some 4 by kernel_rfl).symm.trans hf) |>.symm
   obtain rfl:fn=Tryz.f4:=(ajN (Tryz.func4.symm.trans Te)).symm
   exact⟨by kernel_rfl,λj t ht=>by
    rw [Tryz.params4]at ht;have hm:t∈[25,9,9]:=by simpa using Array.mem_of_getElem? ht
    have b5:([25,9,9].all λu=>!Tryz.prog.wantsStandIn u)=true:=by kernel_rfl
    exact(show Tryz.prog.wantsStandIn t=false by simpa using aj7.1 b5 t hm)⟩)
  (by kernel_rfl)
#print axioms proved
end Go.Proofs.YtgailjhnfghkgaaGreatDoor.topComponents
