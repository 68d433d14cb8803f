import Derived.Test.YteopelpnpdbbcaaCgGnrN
import Derived.Test.YteopelpnpdbbcaaQuoLaw
import Derived.Test.YteopelpnpdbbcaaCgrLaw
import Derived.Test.YteopelpnpdbbcaaGroup
import Derived.Test.YteopelpnpdbbcaaPart
import Derived.Test.YteopelpnpdbbcaaIdealLaw
import Derived.Test.YteopelpnpdbbcaaBase
import Derived.Test.YteopelpnpdbbcaaLatLaw
import Derived.Test.YteopelpnpdbbcaaMult
import Derived.Test.YteopelpnpdbbcaaRefCg
import Derived.Test.YteopelpnpdbbcaaAwk19
import Derived.Test.YteopelpnpdbbcaaRefRees
import Derived.Test.YteopelpnpdbbcaaCgRec
import Derived.Test.YteopelpnpdbbcaaRefCgN
/- The statement CongrGenerates: the walk. -/
namespace Go.Proofs.Yteopelpnpdbbcaa
open Go Go.AM
set_option maxRecDepth 100000
theorem cgGnS_k (t : List (List Int)) (l : List (Int × Int)) (side : Int) : fnK TY SP Try.f5 [.ro (.rows .i64 t), .ro (.pairs l), .int .i64 side] (.bool (.lit true)) := by
  refine Or.inl (cq (large19_fn t 14) (And.intro rfl (And.intro rfl trivial)) ?_)
  refine And.intro (fun _ => Or.inl (cq awake19_fn trivial (And.intro rfl trivial))) (fun _ => ?_)
  refine And.intro (fun _ => Or.inl (cq awake19_fn trivial (And.intro rfl trivial))) (fun _ => ?_)
  by_cases h : Semi t ∧ inW t.length l ∧ 0 ≤ side ∧ side ≤ 2
  · have hv := valid_zero.2 h.1
    have hmost := h.1.most
    refine Or.inl (cq (cgnr_fn t l side h.1 h.2.1 h.2.2) (And.intro rfl (And.intro rfl (And.intro rfl trivial))) ?_)
    refine Or.inl (cq (rvalid_fn t) (And.intro rfl trivial) ?_)
    refine And.intro (fun h1 => ?_) (fun _ => ?_)
    · have h1 : (!decide (validV t = 0)) = true := h1
      rw [decide_eq_true hv] at h1; exact absurd h1 (by decide)
    refine And.intro (fun h2 => absurd (show side < 0 from h2) (by omega)) (fun _ => ?_)
    refine And.intro (fun h2 => absurd (show 2 < side from h2) (by omega)) (fun _ => ?_)
    refine Or.inl (cq (rmay_fn t.length (by omega) l) (And.intro rfl (And.intro rfl trivial)) ?_)
    refine And.intro (fun h3 => ?_) (fun _ => ?_)
    · have h3 : (!inWB t.length l) = true := h3
      rw [inWB_true.2 h.2.1] at h3; exact absurd h3 (by decide)
    refine Or.inl (cq (rgnr_fn t l side h.1.toSh h.2.1) (And.intro rfl (And.intro rfl (And.intro rfl trivial))) ?_)
    refine Or.inl (cq (same_fn (genP t side (relP l)) (genP t side (relP l))) (And.intro rfl (And.intro rfl trivial)) ?_)
    exact And.intro (fun _ => Or.inl (cq awake19_fn trivial (And.intro rfl trivial))) (fun h7 => absurd (of_decide_eq_false h7) (fun h8 => h8 rfl))
  · refine Or.inl (cq (cgnrN_fn t l side h) (And.intro rfl (And.intro rfl (And.intro rfl trivial))) ?_)
    refine Or.inl (cq (rvalid_fn t) (And.intro rfl trivial) ?_)
    refine And.intro (fun _ => ?_) (fun h1 => ?_)
    · exact And.intro (fun _ => Or.inl (cq awake19_fn trivial (And.intro rfl trivial))) (fun h2 => absurd rfl h2)
    have h1 : (!decide (validV t = 0)) = false := h1
    rw [Bool.not_eq_false'] at h1
    have hs := valid_zero.1 (of_decide_eq_true h1)
    have hmost := hs.most
    refine And.intro (fun _ => ?_) (fun h3 => ?_)
    · exact And.intro (fun _ => Or.inl (cq awake19_fn trivial (And.intro rfl trivial))) (fun h2 => absurd rfl h2)
    have h3 : 0 ≤ side := h3
    refine And.intro (fun _ => ?_) (fun h4 => ?_)
    · exact And.intro (fun _ => Or.inl (cq awake19_fn trivial (And.intro rfl trivial))) (fun h2 => absurd rfl h2)
    have h4 : side ≤ 2 := h4
    refine Or.inl (cq (rmay_fn t.length (by omega) l) (And.intro rfl (And.intro rfl trivial)) ?_)
    refine And.intro (fun _ => ?_) (fun h5 => ?_)
    · exact And.intro (fun _ => Or.inl (cq awake19_fn trivial (And.intro rfl trivial))) (fun h2 => absurd rfl h2)
    have h5 : (!inWB t.length l) = false := h5
    rw [Bool.not_eq_false'] at h5
    exact absurd ⟨hs, inWB_true.1 h5, h3, h4⟩ h
theorem cgGnS_fn (t : List (List Int)) (l : List (Int × Int)) (side : Int) : QF 5 [.ro (.rows .i64 t), .ro (.pairs l), .int .i64 side] (.bool (.lit true)) := mkQ Try.func5 (by decide +kernel) rfl (Nat.le_of_ble_eq_true rfl) fun _ => cgGnS_k t l side
end Go.Proofs.Yteopelpnpdbbcaa
