import Derived.Test.YtpanlghofeebhaaFrame
/- The statement CongrLattice, for every input. Conditions: none beyond the given row's. -/
namespace Go.Proofs.Ytpanlghofeebhaa.congrLattice
open Go Go.AM Go.ChangeShapes Go.WideShapes Go.ChangeAt Go.RowKit

theorem own : ownKnob Try.prog.godebug = none := by kernel_rfl
theorem laidOut : laidOutB Try.prog = true := by kernel_rfl
theorem ceR : Try.prog.cellsOf 27 = 1 := by kernel_rfl
theorem beR : 1 ≤ Try.prog.bytesOf 27 := of_decide_eq_true (by kernel_rfl)
theorem ciR : Try.prog.cellsOf 3 = 1 := by kernel_rfl
theorem biR : 1 ≤ Try.prog.bytesOf 3 := of_decide_eq_true (by kernel_rfl)

set_option maxRecDepth 100000 in
theorem lifted (os : Os) (started : os.Started) (H : Type) (enc : TypeId × Value → H) :
    ReturnsInHanded {} Try.checked os 4 .any (Rows.congrLatticeSpec.pre6 enc Try.prog Try.f4 Rows.congrLatticeRow.domain false) (Rows.congrLatticeSpec.post enc Try.prog Try.f4 false true false false) := by
  refine returnsInHanded_of_change_sized (C := Try.checked) own started (by kernel_rfl) Try.func4
    (ChangeSpec.witness6 (enc := enc) (C := Try.checked) false ⟨#[], #[.slice none 0 0, .slice none 0 0, .int .i64 0, .int .i64 0], []⟩ 8 (by kernel_rfl) (by kernel_rfl) (by kernel_rfl) (by kernel_rfl)) ?_
  intro W base args ds gs before hval0 hW _ hsz0 _
  have hsz : (DataW.weightsEach Try.prog (Try.f4.params.toList ++ Rows.congrLatticeSpec.plain.varTypes Try.prog) (ds ++ gs)).all (· ≤ reachBytes) = true := hsz0
  clear hsz0
  have hval : ∀ (j : Nat) t v, Try.f4.params[j]? = some t → args[j]? = some v → Value.okWide Try.prog W .any base t v := hval0
  have hW' := hW
  obtain ⟨p, q, hA0, hV, rfl, _, _⟩ := hW
  have hA : DataW.TrodAll enc Try.prog W 0 (fun _ => true) true Try.f4.params.toList args.toList ds p := hA0
  rw [Try.params4] at hA hval hsz
  obtain ⟨v0, vs0, d0, ds0, p0, q0, hargs, rfl, rfl, h0, r0⟩ := trodAll_cons hA
  obtain ⟨v1, vs1, d1, ds1, p1, q1, rfl, rfl, rfl, h1, r1⟩ := trodAll_cons r0
  obtain ⟨v2, vs2, d2, ds2, p2, q2, rfl, rfl, rfl, h2, r2⟩ := trodAll_cons r1
  obtain ⟨v3, vs3, d3, ds3, p3, q3, rfl, rfl, rfl, h3, r3⟩ := trodAll_cons r2
  obtain ⟨rfl, rfl, rfl⟩ := trodAll_nil r3
  obtain rfl : args = #[v0, v1, v2, v3] := by cases args; simp_all
  obtain ⟨rfl, rfl⟩ := trodVars_none hV
  obtain ⟨a2, rfl, rfl, rfl, w2⟩ := open_int Try.underlying3 (hval 2 3 v2 rfl rfl) h2
  obtain ⟨a3, rfl, rfl, rfl, w3⟩ := open_int Try.underlying3 (hval 3 3 v3 rfl rfl) h3
  clear hA0 hval0
  simp only [List.append_nil] at hW'
  have hlt0 : ∀ x ∈ p0, x.block < W.heap.size := fun x hx => by simpa using hW'.lt x (by simp [hx])
  have hw0 : ∀ x ∈ d0.weights Try.prog 22, x ≤ reachBytes := fun x hx => by
    have := List.all_eq_true.1 hsz x (each_mem (j := 0) (t := 22) (d := d0) rfl rfl hx)
    exact of_decide_eq_true this
  obtain ⟨l0, hr0⟩ := rows_arg Try.underlying22 Try.underlying27 Try.underlying3 ceR ciR beR biR (hval 0 22 v0 rfl rfl) h0 hw0
  have hlt1 : ∀ x ∈ p1, x.block < W.heap.size := fun x hx => by simpa using hW'.lt x (by simp [hx])
  have hw1 : ∀ x ∈ d1.weights Try.prog 27, x ≤ reachBytes := fun x hx => by
    have := List.all_eq_true.1 hsz x (each_mem (j := 1) (t := 27) (d := d1) rfl rfl hx)
    exact of_decide_eq_true this
  obtain ⟨l1, hr1⟩ := ints_arg Try.underlying27 Try.underlying3 ciR biR (hval 1 27 v1 rfl rfl) h1 hw1
  refine ((lat_fn l0 l1 a2 a3).2 noM W [v0, v1, .int .i64 a2, .int .i64 a3] (fun _ _ h => h.elim) ⟨hr0, hr1, ⟨rfl, wf_in w2⟩, ⟨rfl, wf_in w3⟩, trivial⟩).mono fun e W' ⟨v, he, hs, hv⟩ => ?_
  subst he
  obtain ⟨_, _, _, hv⟩ := hv
  obtain rfl : v = .bool true := hv
  refine ⟨_, rfl, _, _, _, [], _, [], hW', trodAll_cons_mk (shut_bool Try.underlying4 _) trodAll_mk0, (trodAll_cons_mk (stp_trod laidOut (by kernel_rfl) (of_decide_eq_true (by kernel_rfl)) h0 hs hlt0 (fun b => decide (b < W.heap.size)) (fun x hx => decide_eq_true (hlt0 x hx))) (trodAll_cons_mk (stp_trod laidOut (by kernel_rfl) (of_decide_eq_true (by kernel_rfl)) h1 hs hlt1 (fun b => decide (b < W.heap.size)) (fun x hx => decide_eq_true (hlt1 x hx))) (trodAll_cons_mk (shut_int Try.underlying3 w2) (trodAll_cons_mk (shut_int Try.underlying3 w3) trodAll_mk0)))), rfl, stp_kept hs _, fun h => by cases h⟩

theorem over : Rows.congrLatticeRow.holds Try.pinned (OpenSpec.ofChange Rows.congrLatticeSpec) :=
  OpenClaim.holds_of_wide 4 Try.f4 rfl rfl rfl rfl rfl rfl rfl ⟨rfl, rfl, rfl, rfl, rfl⟩ rfl rfl rfl rfl rfl (by kernel_rfl) Try.func4 (by kernel_rfl)
    (of_decide_eq_true (by kernel_rfl)) (by unfold Func.isWrapper; first | (rw [if_pos (by decide +kernel)]; kernel_rfl) | (rw [if_neg (by decide +kernel)]; exact ⟨rfl, rfl⟩))
    (fun os started H enc _ => lifted os started H enc)

/-- THE STATEMENT -/
theorem proved : Rows.CongrLatticeSaid := over
#print axioms proved
end Go.Proofs.Ytpanlghofeebhaa.congrLattice
