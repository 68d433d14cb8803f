import Derived.Test.YtjlkhjgnfnfmgaaGreatFrame
/- The statement GroupMoves, for every input. Conditions: none beyond the given row's. -/
namespace Go.Proofs.YtjlkhjgnfnfmgaaGreat.groupMoves
open Go Go.AM Go.ChangeShapes Go.WideShapes Go.ChangeAt Go.RowKit

theorem own : ownKnob Tryz.prog.godebug = none := by kernel_rfl
theorem laidOut : laidOutB Tryz.prog = true := by kernel_rfl
theorem ceR : Tryz.prog.cellsOf 25 = 1 := by kernel_rfl
theorem beR : 1 ≤ Tryz.prog.bytesOf 25 := of_decide_eq_true (by kernel_rfl)
theorem ciR : Tryz.prog.cellsOf 3 = 1 := by kernel_rfl
theorem biR : 1 ≤ Tryz.prog.bytesOf 3 := of_decide_eq_true (by kernel_rfl)

set_option maxRecDepth 100000 in
theorem lifted (os : Os) (started : os.Started) (H : Type) (enc : TypeId × Value → H) :
    ReturnsInHanded {} Tryz.checked os 4 .any (Rows.groupMovesSpec.pre6 enc Tryz.prog Tryz.f4 Rows.groupMovesRow.domain false) (Rows.groupMovesSpec.post enc Tryz.prog Tryz.f4 false true false false) := by
  refine returnsInHanded_of_change_sized (C := Tryz.checked) own started (by kernel_rfl) Tryz.func4
    (ChangeSpec.witness6 (enc := enc) (C := Tryz.checked) false ⟨#[], #[.slice none 0 0, .int .i64 0, .int .i64 0], []⟩ 8 (by kernel_rfl) (by kernel_rfl) (by kernel_rfl) (by kernel_rfl)) ?_
  intro W base args ds gs before hval0 hW _ hsz0 _
  have hsz : (DataW.weightsEach Tryz.prog (Tryz.f4.params.toList ++ Rows.groupMovesSpec.plain.varTypes Tryz.prog) (ds ++ gs)).all (· ≤ reachBytes) = true := hsz0
  clear hsz0
  have hval : ∀ (j : Nat) t v, Tryz.f4.params[j]? = some t → args[j]? = some v → Value.okWide Tryz.prog W .any base t v := hval0
  have hW' := hW
  obtain ⟨p, q, hA0, hV, rfl, _, _⟩ := hW
  have hA : DataW.TrodAll enc Tryz.prog W 0 (fun _ => true) true Tryz.f4.params.toList args.toList ds p := hA0
  rw [Tryz.params4] at hA hval hsz
  obtain ⟨v0, vs0, d0, ds0, p0, q0, hargs, rfl, rfl, h0, r0⟩ := trodAll_cons hA
  obtain ⟨v1, vs1, d1, ds1, p1, q1, rfl, rfl, rfl, h1, r1⟩ := trodAll_cons r0
  obtain ⟨v2, vs2, d2, ds2, p2, q2, rfl, rfl, rfl, h2, r2⟩ := trodAll_cons r1
  obtain ⟨rfl, rfl, rfl⟩ := trodAll_nil r2
  obtain rfl : args = #[v0, v1, v2] := by cases args; simp_all
  obtain ⟨rfl, rfl⟩ := trodVars_none hV
  obtain ⟨a1, rfl, rfl, rfl, w1⟩ := open_int Tryz.underlying3 (hval 1 3 v1 rfl rfl) h1
  obtain ⟨a2, rfl, rfl, rfl, w2⟩ := open_int Tryz.underlying3 (hval 2 3 v2 rfl rfl) h2
  clear hA0 hval0
  simp only [List.append_nil] at hW'
  have hlt0 : ∀ x ∈ p0, x.block < W.heap.size := fun x hx => by simpa using hW'.lt x (by simp [hx])
  have hw0 : ∀ x ∈ d0.weights Tryz.prog 22, x ≤ reachBytes := fun x hx => by
    have := List.all_eq_true.1 hsz x (each_mem (j := 0) (t := 22) (d := d0) rfl rfl hx)
    exact of_decide_eq_true this
  obtain ⟨l0, hr0⟩ := rows_arg Tryz.underlying22 Tryz.underlying25 Tryz.underlying3 ceR ciR beR biR (hval 0 22 v0 rfl rfl) h0 hw0
  refine ((grpMv_fn l0 a1 a2).2 noM W [v0, .int .i64 a1, .int .i64 a2] (fun _ _ h => h.elim) ⟨hr0, ⟨rfl, wf_in w1⟩, ⟨rfl, wf_in w2⟩, trivial⟩).mono fun e W' ⟨v, he, hs, hv⟩ => ?_
  subst he
  obtain ⟨_, _, _, hv⟩ := hv
  obtain rfl : v = .bool true := hv
  refine ⟨_, rfl, _, _, _, [], _, [], hW', trodAll_cons_mk (shut_bool Tryz.underlying4 _) trodAll_mk0, (trodAll_cons_mk (stp_trod laidOut (by kernel_rfl) (of_decide_eq_true (by kernel_rfl)) h0 hs hlt0 (fun b => decide (b < W.heap.size)) (fun x hx => decide_eq_true (hlt0 x hx))) (trodAll_cons_mk (shut_int Tryz.underlying3 w1) (trodAll_cons_mk (shut_int Tryz.underlying3 w2) trodAll_mk0))), rfl, stp_kept hs _, fun h => by cases h⟩

theorem over : Rows.groupMovesRow.holds Tryz.pinned (OpenSpec.ofChange Rows.groupMovesSpec) :=
  OpenClaim.holds_of_wide 4 Tryz.f4 rfl rfl rfl rfl rfl rfl rfl ⟨rfl, rfl, rfl, rfl, rfl⟩ rfl rfl rfl rfl rfl (by kernel_rfl) Tryz.func4 (by kernel_rfl)
    (of_decide_eq_true (by kernel_rfl)) (by unfold Func.isWrapper; first | (rw [if_pos (by decide +kernel)]; kernel_rfl) | (rw [if_neg (by decide +kernel)]; exact ⟨rfl, rfl⟩))
    (fun os started H enc _ => lifted os started H enc)

/-- THE STATEMENT -/
theorem proved : Rows.GroupMovesSaid := over
#print axioms proved
end Go.Proofs.YtjlkhjgnfnfmgaaGreat.groupMoves
