import Derived.Test.YtjabhmhhhlcopaaGreatDoorFrame
import Derived.Test.YtjabhmhhhlcopaaGreatDoorCards
import Derived.Test.YtjabhmhhhlcopaaGreatDoorTie
import Derived.Test.YtjabhmhhhlcopaaGreatDoorLaidF
namespace Go.Proofs.YtjabhmhhhlcopaaGreatDoor.topUnits
open Go Go.AM Go.ChangeShapes Go.WideShapes Go.ChangeAt Go.RowKit
theorem own:ownKnob Tryz.prog.godebug=none:=by kernel_rfl
theorem laidOut:laidOutB Tryz.prog=true:=by kernel_rfl
theorem ceR:Tryz.prog.cellsOf 26=1:=by kernel_rfl
theorem beR:1≤Tryz.prog.bytesOf 26:=of_decide_eq_true (by kernel_rfl)
theorem ciR:Tryz.prog.cellsOf 3=1:=by kernel_rfl
theorem biR:1≤Tryz.prog.bytesOf 3:=of_decide_eq_true (by kernel_rfl)
set_option maxRecDepth 100000 in
theorem lifted (os:Os) (started:os.Started) (H:Type) (enc:TypeId × Value→H):
    ReturnsInHanded {} Tryz.checked os 5 .any (fun w args=>(Rows.topUnitsSpec.pre enc Tryz.prog Tryz.f5 [] false w args∧laidMetH Tryz.prog laidL w)∧sizedMet enc Tryz.prog Tryz.f5 (OpenSpec.ofChange Rows.topUnitsSpec) false w args) (Rows.topUnitsSpec.post enc Tryz.prog Tryz.f5 false true false false):=by
  refine returnsInHanded_of_change_and (C:=Tryz.checked) (X:=fun w _=>laidMetH Tryz.prog laidL w) (fun _ _ _ hh h=>h.of_heap hh) own started (by kernel_rfl) Tryz.func5
    (ChangeSpec.witness_shaped (enc:=enc) (C:=Tryz.checked) (os:=os) (X:=fun w _=>laidMetH Tryz.prog laidL w) false (World.doorLaid Tryz.prog 14 os) #[.slice none 0 0] 8 rfl (World.shaped_of_RefB (by kernel_rfl) (by kernel_rfl)) (by kernel_rfl) (by kernel_rfl) (by kernel_rfl) (door_met os _)) ?_
  intro W base args ds gs before hval0 hW _ hsz0 hL _
  have hsz:(DataW.weightsEach Tryz.prog (Tryz.f5.params.toList++Rows.topUnitsSpec.plain.varTypes Tryz.prog) (ds++gs)).all (· ≤reachBytes)=true:=hsz0
  clear hsz0
  have hval:∀(j:Nat) t v,Tryz.f5.params[j]? =some t→args[j]? =some v→Value.okWide Tryz.prog W .any base t v:=hval0
  have hW':=hW
  obtain ⟨p,q,hA0,hV,rfl,_,_⟩:=hW
  have hA:DataW.TrodAll enc Tryz.prog W 0 (fun _=>true) true Tryz.f5.params.toList args.toList ds p:=hA0
  rw [Tryz.params5] at hA hval hsz
  obtain ⟨v0,vs0,d0,ds0,p0,q0,hargs,rfl,rfl,h0,r0⟩:=trodAll_cons hA
  obtain ⟨rfl,rfl,rfl⟩:=trodAll_nil r0
  obtain rfl:args= #[v0]:=by cases args;simp_all
  obtain ⟨rfl,rfl⟩:=trodVars_none hV
  clear hA0 hval0
  simp only [List.append_nil] at hW'
  have hlt0:∀x∈p0,x.block<W.heap.size:=fun x hx=>by simpa using hW'.lt x (by simp [hx])
  have hw0:∀x∈d0.weights Tryz.prog 22,x≤reachBytes:=fun x hx=>by
    have:=List.all_eq_true.1 hsz x (each_mem (j:=0) (t:=22) (d:=d0) rfl rfl hx)
    exact of_decide_eq_true this
  obtain ⟨l0,hr0⟩:=rows_arg Tryz.underlying22 Tryz.underlying26 Tryz.underlying3 ceR ciR beR biR (hval 0 22 v0 rfl rfl) h0 hw0
  refine ((topU_fn l0).2 noM W [v0] (lw_laid hL) (fun _ _ h=>h.elim) ⟨hr0,trivial⟩).mono fun e W' ⟨v,he,hs,hv⟩=>?_
  subst he
  obtain ⟨_,_,_,hv⟩:=hv
  obtain rfl:v= .bool true:=hv
  refine ⟨_,rfl,_,_,_,[],_,[],hW',trodAll_cons_mk (shut_bool Tryz.underlying4 _) trodAll_mk0,(trodAll_cons_mk (stp_trod laidOut (by kernel_rfl) (of_decide_eq_true (by kernel_rfl)) h0 hs hlt0 (fun b=>decide (b<W.heap.size)) (fun x hx=>decide_eq_true (hlt0 x hx))) trodAll_mk0),rfl,stp_kept hs _,fun h=>by cases h⟩
theorem over:Rows.topUnitsRow.holds Tryz.pinned (OpenSpec.ofChange Rows.topUnitsSpec):=
  OpenClaim.holds_of_wide 5 Tryz.f5 rfl rfl rfl rfl rfl rfl rfl ⟨rfl,rfl,rfl,rfl,rfl⟩ rfl rfl rfl rfl rfl (by kernel_rfl) Tryz.func5 (by kernel_rfl)
    (of_decide_eq_true (by kernel_rfl)) (by unfold Func.isWrapper;first|(rw [if_pos (by decide+kernel)];kernel_rfl)|(rw [if_neg (by decide+kernel)];exact ⟨rfl,rfl⟩))
    (fun os started H enc _=>lifted os started H enc)
theorem proved:Rows.TopUnitsCardSaid:=
  Claim7.holds_tied_plain_at .later [] [.data] true (true,laidSum) false over (fun _ h=>by cases h) (by kernel_rfl) (fun _ h=>by cases h) topUnits_row_tie rfl ⟨rfl,rfl⟩ (by kernel_rfl) rfl
    (fun f fn hf hfn=>by
      obtain rfl:f=5:=Option.some.inj ((show Tryz.prog.funcNamed "semigroup/semigrouptop.TopUnits"=some 5 by kernel_rfl).symm.trans hf) |>.symm
      obtain rfl:fn=Tryz.f5:=(Option.some.inj (Tryz.func5.symm.trans hfn)).symm
      exact ⟨by kernel_rfl,fun j t ht=>by
        rw [Tryz.params5] at ht
        have hm:t∈[22]:=by simpa using Array.mem_of_getElem? ht
        have hall:([22].all fun u=>!Tryz.prog.wantsStandIn u)=true:=by kernel_rfl
        exact (show Tryz.prog.wantsStandIn t=false by simpa using List.all_eq_true.1 hall t hm)⟩)
    (by kernel_rfl)
#print axioms proved
end Go.Proofs.YtjabhmhhhlcopaaGreatDoor.topUnits
