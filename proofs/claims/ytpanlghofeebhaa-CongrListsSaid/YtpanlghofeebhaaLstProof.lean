import Derived.Test.YtpanlghofeebhaaFrame
/- The statement CongrLists, for every input. Conditions: none beyond the given row's. -/
namespace Go.Proofs.Ytpanlghofeebhaa.congrLists
open Go Go.AM Go.ChangeShapes Go.WideShapes Go.ChangeAt Go.RowKit

theorem own : ownKnob Try.prog.godebug = none := by kernel_rfl
theorem laidOut : laidOutB Try.prog = true := by kernel_rfl
theorem ceR : Try.prog.cellsOf 27 = 1 := by kernel_rfl
theorem beR : 1 ≤ Try.prog.bytesOf 27 := of_decide_eq_true (by kernel_rfl)
theorem ciR : Try.prog.cellsOf 3 = 1 := by kernel_rfl
theorem biR : 1 ≤ Try.prog.bytesOf 3 := of_decide_eq_true (by kernel_rfl)

set_option maxRecDepth 100000 in
theorem lifted (os : Os) (started : os.Started) (H : Type) (enc : TypeId × Value → H) :
    ReturnsInHanded {} Try.checked os 5 .any (Rows.congrListsSpec.pre6 enc Try.prog Try.f5 Rows.congrListsRow.domain false) (Rows.congrListsSpec.post enc Try.prog Try.f5 false true false false) := by
  refine returnsInHanded_of_change_sized (C := Try.checked) own started (by kernel_rfl) Try.func5
    (ChangeSpec.witness6 (enc := enc) (C := Try.checked) false ⟨#[], #[.slice none 0 0], []⟩ 8 (by kernel_rfl) (by kernel_rfl) (by kernel_rfl) (by kernel_rfl)) ?_
  intro W base args ds gs before hval0 hW _ hsz0 _
  have hsz : (DataW.weightsEach Try.prog (Try.f5.params.toList ++ Rows.congrListsSpec.plain.varTypes Try.prog) (ds ++ gs)).all (· ≤ reachBytes) = true := hsz0
  clear hsz0
  have hval : ∀ (j : Nat) t v, Try.f5.params[j]? = some t → args[j]? = some v → Value.okWide Try.prog W .any base t v := hval0
  have hW' := hW
  obtain ⟨p, q, hA0, hV, rfl, _, _⟩ := hW
  have hA : DataW.TrodAll enc Try.prog W 0 (fun _ => true) true Try.f5.params.toList args.toList ds p := hA0
  rw [Try.params5] at hA hval hsz
  obtain ⟨v0, vs0, d0, ds0, p0, q0, hargs, rfl, rfl, h0, r0⟩ := trodAll_cons hA
  obtain ⟨rfl, rfl, rfl⟩ := trodAll_nil r0
  obtain rfl : args = #[v0] := by cases args; simp_all
  obtain ⟨rfl, rfl⟩ := trodVars_none hV
  clear hA0 hval0
  simp only [List.append_nil] at hW'
  have hlt0 : ∀ x ∈ p0, x.block < W.heap.size := fun x hx => by simpa using hW'.lt x (by simp [hx])
  have hw0 : ∀ x ∈ d0.weights Try.prog 22, x ≤ reachBytes := fun x hx => by
    have := List.all_eq_true.1 hsz x (each_mem (j := 0) (t := 22) (d := d0) rfl rfl hx)
    exact of_decide_eq_true this
  obtain ⟨l0, hr0⟩ := rows_arg Try.underlying22 Try.underlying27 Try.underlying3 ceR ciR beR biR (hval 0 22 v0 rfl rfl) h0 hw0
  refine ((lists_fn l0).2 noM W [v0] (fun _ _ h => h.elim) ⟨hr0, trivial⟩).mono fun e W' ⟨v, he, hs, hv⟩ => ?_
  subst he
  obtain ⟨_, _, _, hv⟩ := hv
  obtain rfl : v = .bool true := hv
  refine ⟨_, rfl, _, _, _, [], _, [], hW', trodAll_cons_mk (shut_bool Try.underlying4 _) trodAll_mk0, (trodAll_cons_mk (stp_trod laidOut (by kernel_rfl) (of_decide_eq_true (by kernel_rfl)) h0 hs hlt0 (fun b => decide (b < W.heap.size)) (fun x hx => decide_eq_true (hlt0 x hx))) trodAll_mk0), rfl, stp_kept hs _, fun h => by cases h⟩

theorem over : Rows.congrListsRow.holds Try.pinned (OpenSpec.ofChange Rows.congrListsSpec) :=
  OpenClaim.holds_of_wide 5 Try.f5 rfl rfl rfl rfl rfl rfl rfl ⟨rfl, rfl, rfl, rfl, rfl⟩ rfl rfl rfl rfl rfl (by kernel_rfl) Try.func5 (by kernel_rfl)
    (of_decide_eq_true (by kernel_rfl)) (by unfold Func.isWrapper; first | (rw [if_pos (by decide +kernel)]; kernel_rfl) | (rw [if_neg (by decide +kernel)]; exact ⟨rfl, rfl⟩))
    (fun os started H enc _ => lifted os started H enc)

/-- THE STATEMENT -/
theorem proved : Rows.CongrListsSaid := over
#print axioms proved
end Go.Proofs.Ytpanlghofeebhaa.congrLists
