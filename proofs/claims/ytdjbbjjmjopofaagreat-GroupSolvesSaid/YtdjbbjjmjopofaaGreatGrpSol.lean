/- The statement GroupSolves: the walk. -/
import Derived.Test.YtdjbbjjmjopofaaGreatSol
import Derived.Test.YtdjbbjjmjopofaaGreatGrpEl
namespace Go.Proofs.YtdjbbjjmjopofaaGreat
open Go Go.AM
set_option maxRecDepth 100000
theorem grpSol_k (t : List (List Int)) : fnK TY SP Tryz.f4 [.ro (.rows .i64 t)] (.bool (.lit true)) := by
  refine Or.inl (cq (large16_fn t 16) (And.intro rfl (And.intro rfl trivial)) ?_)
  refine And.intro (fun _ => ?_) (fun h1 => ?_)
  · exact Or.inl (cq awake16_fn trivial (And.intro rfl trivial))
  have h1 : decide ((16 : Int) < (t.length : Int) ∧ shapeV t = 0) = false := h1
  have h1 := of_decide_eq_false h1
  refine Or.inl (cq (solv_fn t) (And.intro rfl trivial) ?_)
  refine Or.inl (cq (rsolv_fn t) (And.intro rfl trivial) ?_)
  refine And.intro (fun _ => ?_) (fun h2 => ?_)
  · refine Or.inl (cq (simple_fn t) (And.intro rfl trivial) ?_)
    by_cases hn : t.length ≤ 16
    · refine Or.inl (cq (rsimple_fn t hn) (And.intro rfl trivial) ?_)
      refine And.intro (fun _ => ?_) (fun h2 => ?_)
      · exact Or.inl (cq awake16_fn trivial (And.intro rfl trivial))
      · exact absurd (h2.symm.trans (beq_self_eq_true (simB t))) (by decide)
    · have hng : ¬ Grp t := fun hg => h1 ⟨by omega, shape_zero.2 hg.toSh⟩
      refine Or.inl (cq (rsimpleN_fn t hng) (And.intro rfl trivial) ?_)
      refine And.intro (fun _ => ?_) (fun h2 => ?_)
      · exact Or.inl (cq awake16_fn trivial (And.intro rfl trivial))
      · refine absurd ?_ (show ¬ ((simB t == false) = false) from ?_)
        · exact h2
        · unfold simB; rw [grpB_false.2 hng, Bool.false_and]; decide
  · exact absurd (h2.symm.trans (beq_self_eq_true (grpB t && solB t))) (by decide)
theorem grpSol_fn (t : List (List Int)) : QF 4 [.ro (.rows .i64 t)] (.bool (.lit true)) := mkQ Tryz.func4 (by decide +kernel) rfl (Nat.le_of_ble_eq_true rfl) fun _ => grpSol_k t
end Go.Proofs.YtdjbbjjmjopofaaGreat
