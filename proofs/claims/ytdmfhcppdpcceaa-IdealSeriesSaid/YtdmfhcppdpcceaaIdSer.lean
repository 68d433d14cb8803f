/- IdealSeries, the walk: it returns true. -/
import Derived.Test.YtdmfhcppdpcceaaIdealAwake
import Derived.Test.YtdmfhcppdpcceaaSeries
import Derived.Test.YtdmfhcppdpcceaaRefSeries
namespace Go.Proofs.Ytdmfhcppdpcceaa
open Go Go.AM
set_option maxRecDepth 100000
theorem idSer_k (t : List (List Int)) : fnK TY SP Try.f10 [.ro (.rows .i64 t)] (.bool (.lit true)) := by
  refine Or.inl (cq (large18_fn t 20) (And.intro rfl (And.intro rfl trivial)) ?_)
  refine And.intro (fun h1 => ?_) (fun h1 => ?_)
  · exact Or.inl (cq awake18_fn trivial (And.intro rfl trivial))
  by_cases h : Semi t
  · have hz := valid_zero.2 h
    refine Or.inl (cq (series_fn t h) (And.intro rfl trivial) ?_)
    refine Or.inl (cq (rvalid_fn t) (And.intro rfl trivial) ?_)
    refine And.intro (fun h2 => ?_) (fun _ => ?_)
    · rw [decide_eq_true hz] at h2; cases h2
    refine Or.inl (cq (rseries_fn t h) (And.intro rfl trivial) ?_)
    refine Or.inl (cq (sameRows_fn (serV t) (serV t)) (And.intro rfl (And.intro rfl trivial)) ?_)
    refine And.intro (fun _ => ?_) (fun h3 => absurd h3 (by simp))
    exact Or.inl (cq awake18_fn trivial (And.intro rfl trivial))
  · have hz : validV t ≠ 0 := fun e => h (valid_zero.1 e)
    refine Or.inl (cq (series_no t h) (And.intro rfl trivial) ?_)
    refine Or.inl (cq (rvalid_fn t) (And.intro rfl trivial) ?_)
    refine And.intro (fun _ => ?_) (fun h2 => ?_)
    · refine And.intro (fun _ => ?_) (fun h3 => absurd rfl h3)
      exact Or.inl (cq awake18_fn trivial (And.intro rfl trivial))
    · rw [decide_eq_false hz] at h2; cases h2
theorem idSer_fn (t : List (List Int)) : QF 10 [.ro (.rows .i64 t)] (.bool (.lit true)) := mkQ Try.func10 (by decide +kernel) rfl (Nat.le_of_ble_eq_true rfl) fun _ => idSer_k t
end Go.Proofs.Ytdmfhcppdpcceaa
