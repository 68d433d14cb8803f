/- The statement ReesSimple, for every input. Conditions: none beyond the given row's. -/
import Derived.Test.YtmdlfcjbjjifoaaReesSim
import Derived.Test.YtmdlfcjbjjifoaaFrame
namespace Go.Proofs.Ytmdlfcjbjjifoaa.reesSimple
open Go Go.AM Go.ChangeShapes Go.WideShapes Go.ChangeAt Go.RowKit

theorem own : ownKnob Try.prog.godebug = none := by kernel_rfl
theorem laidOut : laidOutB Try.prog = true := by kernel_rfl
theorem ceR : Try.prog.cellsOf 39 = 1 := by kernel_rfl
theorem ciR : Try.prog.cellsOf 3 = 1 := by kernel_rfl
theorem beR : 1 ≤ Try.prog.bytesOf 39 := of_decide_eq_true (by kernel_rfl)
theorem biR : 1 ≤ Try.prog.bytesOf 3 := of_decide_eq_true (by kernel_rfl)
theorem cR : Try.prog.cellsOf 24 = 5 := by kernel_rfl

set_option maxRecDepth 100000 in
theorem lifted (os : Os) (started : os.Started) (H : Type) (enc : TypeId × Value → H) :
    ReturnsInHanded {} Try.checked os 6 .any (Rows.reesSimpleSpec.pre6 enc Try.prog Try.f6 Rows.reesSimpleRow.domain false) (Rows.reesSimpleSpec.post enc Try.prog Try.f6 false true false false) := by
  refine returnsInHanded_of_change_sized (C := Try.checked) own started (by kernel_rfl) Try.func6
    (ChangeSpec.witness6 (enc := enc) (C := Try.checked) false ⟨#[], #[.agg #[.slice none 0 0, .int .i64 0, .int .i64 0, .slice none 0 0, .bool false]], []⟩ 8 (by kernel_rfl) (by kernel_rfl) (by kernel_rfl) (by kernel_rfl)) ?_
  intro W base args ds gs before hval0 hW _ hsz0 _
  have hsz : (DataW.weightsEach Try.prog (Try.f6.params.toList ++ Rows.reesSimpleSpec.plain.varTypes Try.prog) (ds ++ gs)).all (· ≤ reachBytes) = true := hsz0
  clear hsz0
  have hval : ∀ (j : Nat) t v, Try.f6.params[j]? = some t → args[j]? = some v → Value.okWide Try.prog W .any base t v := hval0
  have hW' := hW
  obtain ⟨p, q, hA0, hV, rfl, _, _⟩ := hW
  have hA : DataW.TrodAll enc Try.prog W 0 (fun _ => true) true Try.f6.params.toList args.toList ds p := hA0
  rw [Try.params6] at hA hval hsz
  obtain ⟨v0, vs0, d0, ds0, p0, q0, hargs, rfl, rfl, h0, r0⟩ := trodAll_cons hA
  obtain ⟨rfl, rfl, rfl⟩ := trodAll_nil r0
  obtain rfl : args = #[v0] := by cases args; simp_all
  obtain ⟨rfl, rfl⟩ := trodVars_none hV
  clear hA0 hval0
  simp only [List.append_nil] at hW'
  have hlt : ∀ x ∈ p0, x.block < W.heap.size := fun x hx => by simpa using hW'.lt x (by simp [hx])
  have hw : ∀ x ∈ d0.weights Try.prog 24, x ≤ reachBytes := fun x hx => by
    have := List.all_eq_true.1 hsz x (each_mem (j := 0) (t := 24) (d := d0) rfl rfl hx)
    exact of_decide_eq_true this
  obtain ⟨G, R, C, P, z, hr⟩ := rees_rep (f0 := _) (f1 := _) (f2 := _) (f3 := _) (f4 := _) Try.underlying24 (by kernel_rfl) cR rfl rfl rfl rfl rfl Try.underlying22 Try.underlying39 Try.underlying3 Try.underlying4 ceR ciR beR biR (hval 0 24 v0 rfl rfl) h0 hw
  refine ((reesSim_fn G R C P z).2 noM W [v0] (fun _ _ h => h.elim) ⟨hr, trivial⟩).mono fun e W' ⟨v, he, hs, hv⟩ => ?_
  subst he
  obtain ⟨_, _, _, hv⟩ := hv
  obtain rfl : v = .bool true := hv
  refine ⟨_, rfl, _, _, _, [], _, [], hW', trodAll_cons_mk (shut_bool Try.underlying4 _) trodAll_mk0, trodAll_cons_mk (stp_trod laidOut (by kernel_rfl) (of_decide_eq_true (by kernel_rfl)) h0 hs hlt (fun b => decide (b < W.heap.size)) (fun x hx => decide_eq_true (hlt x hx)))
    trodAll_mk0, rfl, stp_kept hs _, fun h => by cases h⟩

theorem over : Rows.reesSimpleRow.holds Try.pinned (OpenSpec.ofChange Rows.reesSimpleSpec) :=
  OpenClaim.holds_of_wide 6 Try.f6 rfl rfl rfl rfl rfl rfl rfl ⟨rfl, rfl, rfl, rfl, rfl⟩ rfl rfl rfl rfl rfl (by kernel_rfl) Try.func6 (by kernel_rfl)
    (of_decide_eq_true (by kernel_rfl)) (by unfold Func.isWrapper; first | (rw [if_pos (by decide +kernel)]; kernel_rfl) | (rw [if_neg (by decide +kernel)]; exact ⟨rfl, rfl⟩))
    (fun os started H enc _ => lifted os started H enc)

/-- THE STATEMENT -/
theorem proved : Rows.ReesSimpleSaid := over
#print axioms proved
end Go.Proofs.Ytmdlfcjbjjifoaa.reesSimple
