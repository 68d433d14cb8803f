/- IdealLists, the walk: it returns true. -/
import Derived.Test.YtdmfhcppdpcceaaIdealAwake
import Derived.Test.YtdmfhcppdpcceaaRefIdeals
namespace Go.Proofs.Ytdmfhcppdpcceaa
open Go Go.AM
set_option maxRecDepth 100000
theorem idLists_k (t : List (List Int)) : fnK TY SP Try.f3 [.ro (.rows .i64 t)] (.bool (.lit true)) := by
  refine Or.inl (cq (large18_fn t 9) (And.intro rfl (And.intro rfl trivial)) ?_)
  refine And.intro (fun h1 => ?_) (fun h1 => ?_)
  · exact Or.inl (cq awake18_fn trivial (And.intro rfl trivial))
  by_cases h : Semi t
  · have hn : t.length ≤ 9 := by have := not_large h1 h.toSh; omega
    have hz := valid_zero.2 h
    refine Or.inl (cq (ideals_fn t h hn) (And.intro rfl trivial) ?_)
    refine Or.inl (cq (rvalidate_fn t) (And.intro rfl trivial) ?_)
    refine And.intro (fun h1 => absurd hz h1) (fun _ => ?_)
    refine And.intro (fun _ => ?_) (fun h2 => absurd rfl h2)
    refine Or.inl (cq (rIdeals_fn t h hn) (And.intro rfl trivial) ?_)
    refine Or.inl (cq (sameRows_fn (idsL t) (idsL t)) (And.intro rfl (And.intro rfl trivial)) ?_)
    refine And.intro (fun _ => ?_) (fun h3 => absurd h3 (by simp))
    exact Or.inl (cq awake18_fn trivial (And.intro rfl trivial))
  · have hz : validV t ≠ 0 := fun e => h (valid_zero.1 e)
    refine Or.inl (cq (ideals_no t h) (And.intro rfl trivial) ?_)
    refine Or.inl (cq (rvalidate_fn t) (And.intro rfl trivial) ?_)
    refine And.intro (fun _ => ?_) (fun h1 => absurd h1 hz)
    refine And.intro (fun _ => ?_) (fun h2 => absurd rfl h2)
    refine And.intro (fun _ => ?_) (fun h3 => absurd rfl h3)
    exact Or.inl (cq awake18_fn trivial (And.intro rfl trivial))
theorem idLists_fn (t : List (List Int)) : QF 3 [.ro (.rows .i64 t)] (.bool (.lit true)) := mkQ Try.func3 (by decide +kernel) rfl (Nat.le_of_ble_eq_true rfl) fun _ => idLists_k t
end Go.Proofs.Ytdmfhcppdpcceaa
