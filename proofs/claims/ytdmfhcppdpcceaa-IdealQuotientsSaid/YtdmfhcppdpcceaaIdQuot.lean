/- IdealQuotients, the walk: it returns true. -/
import Derived.Test.YtdmfhcppdpcceaaIdealAwake
import Derived.Test.YtdmfhcppdpcceaaQuot
import Derived.Test.YtdmfhcppdpcceaaRefQuot
namespace Go.Proofs.Ytdmfhcppdpcceaa
open Go Go.AM
set_option maxRecDepth 100000
theorem idQuot_k (t : List (List Int)) (l : List Int) : fnK TY SP Try.f7 [.ro (.rows .i64 t), .ro (.ints .i64 l)] (.bool (.lit true)) := by
  refine Or.inl (cq (large18_fn t 20) (And.intro rfl (And.intro rfl trivial)) ?_)
  refine And.intro (fun h1 => ?_) (fun h1 => ?_)
  · exact Or.inl (cq awake18_fn trivial (And.intro rfl trivial))
  by_cases h : Semi t
  · by_cases hl : IdL t l
    · refine Or.inl (cq (iquot_fn t h l hl) (And.intro rfl (And.intro rfl trivial)) ?_)
      refine Or.inl (cq (rquot_fn t h l hl) (And.intro rfl (And.intro rfl trivial)) ?_)
      refine And.intro (fun _ => ?_) (fun h3 => absurd rfl h3)
      refine Or.inl (cq (sameRows_fn (quotQ t l) (quotQ t l)) (And.intro rfl (And.intro rfl trivial)) ?_)
      refine And.intro (fun _ => ?_) (fun h3 => absurd h3 (by simp))
      refine Or.inl (cq (same_fn (clsQ t l) (clsQ t l)) (And.intro rfl (And.intro rfl trivial)) ?_)
      refine And.intro (fun _ => ?_) (fun h3 => absurd h3 (by simp))
      exact Or.inl (cq awake18_fn trivial (And.intro rfl trivial))
    · refine Or.inl (cq (iquot_bad t h l hl) (And.intro rfl (And.intro rfl trivial)) ?_)
      refine Or.inl (cq (rquot_bad t h l hl) (And.intro rfl (And.intro rfl trivial)) ?_)
      refine And.intro (fun _ => ?_) (fun h3 => absurd rfl h3)
      refine Or.inl (cq (sameRows_fn [] []) (And.intro rfl (And.intro rfl trivial)) ?_)
      refine And.intro (fun _ => ?_) (fun h3 => absurd h3 (by simp))
      refine Or.inl (cq (same_fn [] []) (And.intro rfl (And.intro rfl trivial)) ?_)
      refine And.intro (fun _ => ?_) (fun h3 => absurd h3 (by simp))
      exact Or.inl (cq awake18_fn trivial (And.intro rfl trivial))
  · refine Or.inl (cq (iquot_no t h l) (And.intro rfl (And.intro rfl trivial)) ?_)
    refine Or.inl (cq (rquot_no t h l) (And.intro rfl (And.intro rfl trivial)) ?_)
    refine And.intro (fun _ => ?_) (fun h3 => absurd rfl h3)
    refine Or.inl (cq (sameRows_fn [] []) (And.intro rfl (And.intro rfl trivial)) ?_)
    refine And.intro (fun _ => ?_) (fun h3 => absurd h3 (by simp))
    refine Or.inl (cq (same_fn [] []) (And.intro rfl (And.intro rfl trivial)) ?_)
    refine And.intro (fun _ => ?_) (fun h3 => absurd h3 (by simp))
    exact Or.inl (cq awake18_fn trivial (And.intro rfl trivial))
theorem idQuot_fn (t : List (List Int)) (l : List Int) : QF 7 [.ro (.rows .i64 t), .ro (.ints .i64 l)] (.bool (.lit true)) := mkQ Try.func7 (by decide +kernel) rfl (Nat.le_of_ble_eq_true rfl) fun _ => idQuot_k t l
end Go.Proofs.Ytdmfhcppdpcceaa
