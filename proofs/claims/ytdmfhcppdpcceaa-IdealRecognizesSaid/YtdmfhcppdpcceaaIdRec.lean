/- IdealRecognizes, the walk: it returns true. -/
import Derived.Test.YtdmfhcppdpcceaaIdealAwake
import Derived.Test.YtdmfhcppdpcceaaRefIdeal
namespace Go.Proofs.Ytdmfhcppdpcceaa
open Go Go.AM
set_option maxRecDepth 100000
theorem idRec_k (t : List (List Int)) (l : List Int) : fnK TY SP Try.f4 [.ro (.rows .i64 t), .ro (.ints .i64 l)] (.bool (.lit true)) := by
  refine Or.inl (cq (large18_fn t 24) (And.intro rfl (And.intro rfl trivial)) ?_)
  refine And.intro (fun h1 => ?_) (fun h1 => ?_)
  · exact Or.inl (cq awake18_fn trivial (And.intro rfl trivial))
  by_cases h : Semi t
  · have hz := valid_zero.2 h
    refine Or.inl (cq (iKernel_fn t h) (And.intro rfl trivial) ?_)
    refine Or.inl (cq (rvalid_fn t) (And.intro rfl trivial) ?_)
    refine And.intro (fun h2 => ?_) (fun _ => ?_)
    · rw [decide_eq_true hz] at h2; cases h2
    refine Or.inl (cq (iIsIdeal_fn t h l) (And.intro rfl (And.intro rfl trivial)) ?_)
    refine Or.inl (cq (rIsIdeal_fn t h l) (And.intro rfl (And.intro rfl trivial)) ?_)
    refine And.intro (fun _ => ?_) (fun h3 => ?_)
    · refine Or.inl (cq (rKernel_fn t h) (And.intro rfl trivial) ?_)
      refine Or.inl (cq (same_fn (ascV t.length (kerF t)) (ascV t.length (kerF t))) (And.intro rfl (And.intro rfl trivial)) ?_)
      refine And.intro (fun _ => ?_) (fun h3 => absurd h3 (by simp))
      exact Or.inl (cq awake18_fn trivial (And.intro rfl trivial))
    · have h3 : (idB t l == idB t l) = false := h3
      simp at h3
  · have hz : validV t ≠ 0 := fun e => h (valid_zero.1 e)
    refine Or.inl (cq (iKernel_no t h) (And.intro rfl trivial) ?_)
    refine Or.inl (cq (rvalid_fn t) (And.intro rfl trivial) ?_)
    refine And.intro (fun _ => ?_) (fun h2 => ?_)
    · refine Or.inl (cq (iIsIdeal_no t h l) (And.intro rfl (And.intro rfl trivial)) ?_)
      refine And.intro (fun _ => ?_) (fun h3 => absurd rfl h3)
      exact Or.inl (cq awake18_fn trivial (And.intro rfl trivial))
    · rw [decide_eq_false hz] at h2; cases h2
theorem idRec_fn (t : List (List Int)) (l : List Int) : QF 4 [.ro (.rows .i64 t), .ro (.ints .i64 l)] (.bool (.lit true)) := mkQ Try.func4 (by decide +kernel) rfl (Nat.le_of_ble_eq_true rfl) fun _ => idRec_k t l
end Go.Proofs.Ytdmfhcppdpcceaa
