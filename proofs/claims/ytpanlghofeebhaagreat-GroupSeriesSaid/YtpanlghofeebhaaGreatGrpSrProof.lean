import Derived.Test.YtpanlghofeebhaaGreatFrame
/- The statement GroupSeries, for every input. Conditions: none beyond the given row's. -/
namespace Go.Proofs.YtpanlghofeebhaaGreat.groupSeries
open Go Go.AM Go.ChangeShapes Go.WideShapes Go.ChangeAt Go.RowKit

theorem own : ownKnob Tryz.prog.godebug = none := by kernel_rfl
theorem laidOut : laidOutB Tryz.prog = true := by kernel_rfl
theorem ceR : Tryz.prog.cellsOf 35 = 1 := by kernel_rfl
theorem beR : 1 ≤ Tryz.prog.bytesOf 35 := of_decide_eq_true (by kernel_rfl)
theorem ciR : Tryz.prog.cellsOf 3 = 1 := by kernel_rfl
theorem biR : 1 ≤ Tryz.prog.bytesOf 3 := of_decide_eq_true (by kernel_rfl)

set_option maxRecDepth 100000 in
theorem lifted (os : Os) (started : os.Started) (H : Type) (enc : TypeId × Value → H) :
    ReturnsInHanded {} Tryz.checked os 3 .any (Rows.groupSeriesSpec.pre6 enc Tryz.prog Tryz.f3 Rows.groupSeriesRow.domain false) (Rows.groupSeriesSpec.post enc Tryz.prog Tryz.f3 false true false false) := by
  refine returnsInHanded_of_change_sized (C := Tryz.checked) own started (by kernel_rfl) Tryz.func3
    (ChangeSpec.witness6 (enc := enc) (C := Tryz.checked) false ⟨#[], #[.slice none 0 0, .slice none 0 0], []⟩ 8 (by kernel_rfl) (by kernel_rfl) (by kernel_rfl) (by kernel_rfl)) ?_
  intro W base args ds gs before hval0 hW _ hsz0 _
  have hsz : (DataW.weightsEach Tryz.prog (Tryz.f3.params.toList ++ Rows.groupSeriesSpec.plain.varTypes Tryz.prog) (ds ++ gs)).all (· ≤ reachBytes) = true := hsz0
  clear hsz0
  have hval : ∀ (j : Nat) t v, Tryz.f3.params[j]? = some t → args[j]? = some v → Value.okWide Tryz.prog W .any base t v := hval0
  have hW' := hW
  obtain ⟨p, q, hA0, hV, rfl, _, _⟩ := hW
  have hA : DataW.TrodAll enc Tryz.prog W 0 (fun _ => true) true Tryz.f3.params.toList args.toList ds p := hA0
  rw [Tryz.params3] at hA hval hsz
  obtain ⟨v0, vs0, d0, ds0, p0, q0, hargs, rfl, rfl, h0, r0⟩ := trodAll_cons hA
  obtain ⟨v1, vs1, d1, ds1, p1, q1, rfl, rfl, rfl, h1, r1⟩ := trodAll_cons r0
  obtain ⟨rfl, rfl, rfl⟩ := trodAll_nil r1
  obtain rfl : args = #[v0, v1] := by cases args; simp_all
  obtain ⟨rfl, rfl⟩ := trodVars_none hV
  clear hA0 hval0
  simp only [List.append_nil] at hW'
  have hlt0 : ∀ x ∈ p0, x.block < W.heap.size := fun x hx => by simpa using hW'.lt x (by simp [hx])
  have hw0 : ∀ x ∈ d0.weights Tryz.prog 22, x ≤ reachBytes := fun x hx => by
    have := List.all_eq_true.1 hsz x (each_mem (j := 0) (t := 22) (d := d0) rfl rfl hx)
    exact of_decide_eq_true this
  obtain ⟨l0, hr0⟩ := rows_arg Tryz.underlying22 Tryz.underlying35 Tryz.underlying3 ceR ciR beR biR (hval 0 22 v0 rfl rfl) h0 hw0
  have hlt1 : ∀ x ∈ p1, x.block < W.heap.size := fun x hx => by simpa using hW'.lt x (by simp [hx])
  have hw1 : ∀ x ∈ d1.weights Tryz.prog 22, x ≤ reachBytes := fun x hx => by
    have := List.all_eq_true.1 hsz x (each_mem (j := 1) (t := 22) (d := d1) rfl rfl hx)
    exact of_decide_eq_true this
  obtain ⟨l1, hr1⟩ := rows_arg Tryz.underlying22 Tryz.underlying35 Tryz.underlying3 ceR ciR beR biR (hval 1 22 v1 rfl rfl) h1 hw1
  refine ((grpSer_fn l0 l1).2 noM W [v0, v1] (fun _ _ h => h.elim) ⟨hr0, hr1, trivial⟩).mono fun e W' ⟨v, he, hs, hv⟩ => ?_
  subst he
  obtain ⟨_, _, _, hv⟩ := hv
  obtain rfl : v = .bool true := hv
  refine ⟨_, rfl, _, _, _, [], _, [], hW', trodAll_cons_mk (shut_bool Tryz.underlying4 _) trodAll_mk0, (trodAll_cons_mk (stp_trod laidOut (by kernel_rfl) (of_decide_eq_true (by kernel_rfl)) h0 hs hlt0 (fun b => decide (b < W.heap.size)) (fun x hx => decide_eq_true (hlt0 x hx))) (trodAll_cons_mk (stp_trod laidOut (by kernel_rfl) (of_decide_eq_true (by kernel_rfl)) h1 hs hlt1 (fun b => decide (b < W.heap.size)) (fun x hx => decide_eq_true (hlt1 x hx))) trodAll_mk0)), rfl, stp_kept hs _, fun h => by cases h⟩

theorem over : Rows.groupSeriesRow.holds Tryz.pinned (OpenSpec.ofChange Rows.groupSeriesSpec) :=
  OpenClaim.holds_of_wide 3 Tryz.f3 rfl rfl rfl rfl rfl rfl rfl ⟨rfl, rfl, rfl, rfl, rfl⟩ rfl rfl rfl rfl rfl (by kernel_rfl) Tryz.func3 (by kernel_rfl)
    (of_decide_eq_true (by kernel_rfl)) (by unfold Func.isWrapper; first | (rw [if_pos (by decide +kernel)]; kernel_rfl) | (rw [if_neg (by decide +kernel)]; exact ⟨rfl, rfl⟩))
    (fun os started H enc _ => lifted os started H enc)

/-- THE STATEMENT -/
theorem proved : Rows.GroupSeriesSaid := over
#print axioms proved
end Go.Proofs.YtpanlghofeebhaaGreat.groupSeries
