/- The statement CongrSyntactic: the walk. -/
import Derived.Test.YteopelpnpdbbcaaRefSyn
import Derived.Test.YteopelpnpdbbcaaCgRec
namespace Go.Proofs.Yteopelpnpdbbcaa
open Go Go.AM
set_option maxRecDepth 100000
theorem cgSyn_k (t : List (List Int)) (s : List Bool) (hs : Semi t) (hsl : s.length = t.length) : fnK TY SP Try.f3 [.ro (.rows .i64 t), .ro (.bools s)] (.bool (.lit true)) := by
  have hv := valid_zero.2 hs
  refine Or.inl (cq (large19_fn t 12) (And.intro rfl (And.intro rfl trivial)) ?_)
  refine And.intro (fun _ => Or.inl (cq awake19_fn trivial (And.intro rfl trivial))) (fun _ => ?_)
  refine Or.inl (cq (csyn_fn t s hs hsl) (And.intro rfl (And.intro rfl trivial)) ?_)
  refine Or.inl (cq (rvalid_fn t) (And.intro rfl trivial) ?_)
  refine And.intro (fun h1 => ?_) (fun _ => ?_)
  · have h1 : (!decide (validV t = 0)) = true := h1
    rw [decide_eq_true hv] at h1; exact absurd h1 (by decide)
  refine And.intro (fun h2 => absurd (show (s.length : Int) = (t.length : Int) by omega) h2) (fun _ => ?_)
  refine Or.inl (cq (rsyn_fn t s hs hsl) (And.intro rfl (And.intro rfl trivial)) ?_)
  refine Or.inl (cq (same_fn (synP t (lbL s)) (synP t (lbL s))) (And.intro rfl (And.intro rfl trivial)) ?_)
  refine And.intro (fun _ => Or.inl (cq awake19_fn trivial (And.intro rfl trivial))) (fun h3 => ?_)
  have h3 : decide (synP t (lbL s) = synP t (lbL s)) = false := h3
  rw [decide_eq_true rfl] at h3; cases h3
theorem cgSynN_k (t : List (List Int)) (s : List Bool) (h : ¬ (Semi t ∧ s.length = t.length)) : fnK TY SP Try.f3 [.ro (.rows .i64 t), .ro (.bools s)] (.bool (.lit true)) := by
  refine Or.inl (cq (large19_fn t 12) (And.intro rfl (And.intro rfl trivial)) ?_)
  refine And.intro (fun _ => Or.inl (cq awake19_fn trivial (And.intro rfl trivial))) (fun _ => ?_)
  refine Or.inl (cq (csynN_fn t s h) (And.intro rfl (And.intro rfl trivial)) ?_)
  refine Or.inl (cq (rvalid_fn t) (And.intro rfl trivial) ?_)
  refine And.intro (fun h1 => ?_) (fun h1 => ?_)
  · exact And.intro (fun _ => Or.inl (cq awake19_fn trivial (And.intro rfl trivial))) (fun h3 => absurd rfl h3)
  · have h1 : (!decide (validV t = 0)) = false := h1
    rw [Bool.not_eq_false'] at h1
    have h1 := of_decide_eq_true h1
    refine And.intro (fun h2 => ?_) (fun h2 => ?_)
    · exact And.intro (fun _ => Or.inl (cq awake19_fn trivial (And.intro rfl trivial))) (fun h3 => absurd rfl h3)
    · have h2 : (s.length : Int) = (t.length : Int) := h2
      exact absurd ⟨valid_zero.1 h1, by omega⟩ h
theorem cgSyn_fn (t : List (List Int)) (s : List Bool) : QF 3 [.ro (.rows .i64 t), .ro (.bools s)] (.bool (.lit true)) := mkQ Try.func3 (by decide +kernel) rfl (Nat.le_of_ble_eq_true rfl) fun _ => by
  by_cases h : Semi t ∧ s.length = t.length
  · exact cgSyn_k t s h.1 h.2
  · exact cgSynN_k t s h
end Go.Proofs.Yteopelpnpdbbcaa
