/- The statement CongrIdeals, for every input. Conditions: none beyond the given row's. -/
import Derived.Test.YteopelpnpdbbcaaCgIds
import Derived.Test.YteopelpnpdbbcaaUpto
namespace Go.Proofs.Yteopelpnpdbbcaa.congrIdealsUpto
open Go Go.AM Go.ChangeShapes Go.WideShapes Go.ChangeAt Go.RowKit

theorem own : ownKnob Try.prog.godebug = none := by kernel_rfl
theorem laidOut : laidOutB Try.prog = true := by kernel_rfl
theorem ceR : Try.prog.cellsOf 26 = 1 := by kernel_rfl
theorem beR : 1 ≤ Try.prog.bytesOf 26 := of_decide_eq_true (by kernel_rfl)
theorem ciR : Try.prog.cellsOf 3 = 1 := by kernel_rfl
theorem biR : 1 ≤ Try.prog.bytesOf 3 := of_decide_eq_true (by kernel_rfl)

set_option maxRecDepth 100000 in
theorem lifted (os : Os) (started : os.Started) (H : Type) (enc : TypeId × Value → H) (F : Stop.Interp) :
    ReturnsInHanded {} Try.checked os 12 .any ((Rows.OpenSpec.upto Rows.congrIdealsSpec).pre6 enc Try.prog Try.f12 Rows.congrIdealsUptoRow.domain false) (((Rows.OpenSpec.upto Rows.congrIdealsSpec).at F).post enc Try.prog Try.f12 false true false false) := by
  refine returnsInHanded_of_cond_sized (C := Try.checked) (s := Rows.OpenSpec.upto Rows.congrIdealsSpec) (k := Rows.uptoSmall) rfl own started (by kernel_rfl) Try.func12
    (OpenSpec.witness (enc := enc) (C := Try.checked) (s := Rows.OpenSpec.upto Rows.congrIdealsSpec) (k := Rows.uptoSmall) rfl false ⟨#[], #[.slice none 0 0, .slice none 0 0, .slice none 0 0], []⟩ 8 (by kernel_rfl) (by kernel_rfl) (by kernel_rfl)
      (x := ([.nil, .nil, .nil], [], [])) (by kernel_rfl) rfl (by kernel_rfl)) ?_
  intro W base args ds gs before hval0 hW _ hk hsz0 _
  have hsz : (DataW.weightsEach Try.prog (Try.f12.params.toList ++ Rows.congrIdealsSpec.plain.varTypes Try.prog) (ds ++ gs)).all (· ≤ reachBytes) = true := hsz0
  clear hsz0
  have hval : ∀ (j : Nat) t v, Try.f12.params[j]? = some t → args[j]? = some v → Value.okWide Try.prog W .any base t v := hval0
  have hW' := hW
  obtain ⟨p, q, hA0, hV, rfl, _, _⟩ := hW
  have hA : DataW.TrodAll enc Try.prog W 0 (fun _ => true) true Try.f12.params.toList args.toList ds p := hA0
  rw [Try.params12] at hA hval hsz
  obtain ⟨v0, vs0, d0, ds0, p0, q0, hargs, rfl, rfl, h0, r0⟩ := trodAll_cons hA
  obtain ⟨v1, vs1, d1, ds1, p1, q1, rfl, rfl, rfl, h1, r1⟩ := trodAll_cons r0
  obtain ⟨v2, vs2, d2, ds2, p2, q2, rfl, rfl, rfl, h2, r2⟩ := trodAll_cons r1
  obtain ⟨rfl, rfl, rfl⟩ := trodAll_nil r2
  obtain rfl : args = #[v0, v1, v2] := by cases args; simp_all
  obtain ⟨rfl, rfl⟩ := trodVars_none hV
  clear hA0 hval0
  simp only [List.append_nil] at hW' hk
  have hlt0 : ∀ x ∈ p0, x.block < W.heap.size := fun x hx => by simpa using hW'.lt x (by simp [hx])
  have hw0 : ∀ x ∈ d0.weights Try.prog 22, x ≤ reachBytes := fun x hx => by
    have := List.all_eq_true.1 hsz x (each_mem (j := 0) (t := 22) (d := d0) rfl rfl hx)
    exact of_decide_eq_true this
  obtain ⟨l0, hr0⟩ := rows_arg Try.underlying22 Try.underlying26 Try.underlying3 ceR ciR beR biR (hval 0 22 v0 rfl rfl) h0 hw0
  have hlt1 : ∀ x ∈ p1, x.block < W.heap.size := fun x hx => by simpa using hW'.lt x (by simp [hx])
  have hw1 : ∀ x ∈ d1.weights Try.prog 26, x ≤ reachBytes := fun x hx => by
    have := List.all_eq_true.1 hsz x (each_mem (j := 1) (t := 26) (d := d1) rfl rfl hx)
    exact of_decide_eq_true this
  obtain ⟨l1, hr1, hl1⟩ := ints_argU Try.underlying26 Try.underlying3 ciR biR (hval 1 26 v1 rfl rfl) h1 hw1
  have hlt2 : ∀ x ∈ p2, x.block < W.heap.size := fun x hx => by simpa using hW'.lt x (by simp [hx])
  have hw2 : ∀ x ∈ d2.weights Try.prog 26, x ≤ reachBytes := fun x hx => by
    have := List.all_eq_true.1 hsz x (each_mem (j := 2) (t := 26) (d := d2) rfl rfl hx)
    exact of_decide_eq_true this
  obtain ⟨l2, hr2, hl2⟩ := ints_argU Try.underlying26 Try.underlying3 ciR biR (hval 2 26 v2 rfl rfl) h2 hw2
  refine ((cgIds_fn l0 l1 l2 (Nat.le_trans hl1 (Nat.le_trans (bulk_part (by simp)) (bulk_bound hk))) (Nat.le_trans hl2 (Nat.le_trans (bulk_part (by simp)) (bulk_bound hk)))).2 noM W [v0, v1, v2] (fun _ _ h => h.elim) ⟨hr0, hr1, hr2, trivial⟩).mono fun e W' ⟨v, he, hs, hv⟩ => ?_
  subst he
  obtain ⟨_, _, _, hv⟩ := hv
  obtain rfl : v = .bool true := hv
  refine ⟨_, rfl, _, _, _, [], _, [], hW', trodAll_cons_mk (shut_bool Try.underlying4 _) trodAll_mk0, (trodAll_cons_mk (stp_trod laidOut (by kernel_rfl) (of_decide_eq_true (by kernel_rfl)) h0 hs hlt0 (fun b => decide (b < W.heap.size)) (fun x hx => decide_eq_true (hlt0 x hx))) (trodAll_cons_mk (stp_trod laidOut (by kernel_rfl) (of_decide_eq_true (by kernel_rfl)) h1 hs hlt1 (fun b => decide (b < W.heap.size)) (fun x hx => decide_eq_true (hlt1 x hx))) (trodAll_cons_mk (stp_trod laidOut (by kernel_rfl) (of_decide_eq_true (by kernel_rfl)) h2 hs hlt2 (fun b => decide (b < W.heap.size)) (fun x hx => decide_eq_true (hlt2 x hx))) trodAll_mk0))), rfl, stp_kept hs _, fun h => by cases h⟩

theorem over : Rows.congrIdealsUptoRow.holds Try.pinned (Rows.OpenSpec.upto Rows.congrIdealsSpec) :=
  OpenClaim.holds_of_cond 12 Try.f12 rfl rfl rfl rfl rfl rfl rfl ⟨rfl, rfl, rfl, rfl, rfl⟩ rfl rfl rfl rfl rfl (by kernel_rfl) Try.func12 (by kernel_rfl)
    (of_decide_eq_true (by kernel_rfl)) (by unfold Func.isWrapper; first | (rw [if_pos (by decide +kernel)]; kernel_rfl) | (rw [if_neg (by decide +kernel)]; exact ⟨rfl, rfl⟩))
    (fun os started H enc _ F => lifted os started H enc F)

/-- THE STATEMENT -/
theorem proved : Rows.CongrIdealsUptoSaid := over
#print axioms proved
end Go.Proofs.Yteopelpnpdbbcaa.congrIdealsUpto
