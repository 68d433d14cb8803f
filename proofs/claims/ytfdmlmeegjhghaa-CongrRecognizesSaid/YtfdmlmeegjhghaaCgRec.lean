/- The statement CongrRecognizes: the walk. -/
import Derived.Test.YtfdmlmeegjhghaaRefCg
import Derived.Test.YtfdmlmeegjhghaaAwk19
namespace Go.Proofs.Ytfdmlmeegjhghaa
open Go Go.AM
set_option maxRecDepth 100000
theorem large19_k (t : List (List Int)) (m : Int) (_ht : t.length ≤ 140737488355328) : fnK TY SP Try.f15 [.ro (.rows .i64 t), .int .i64 m] (.bool (.v (decide (m < t.length ∧ shapeV t = 0)))) := by
  refine And.intro (fun h1 => ?_) (fun h1 => ?_)
  · refine Or.inl (cq (rshape_fn t) (And.intro rfl trivial) ?_)
    refine And.intro ?_ trivial
    show decide (shapeV t = 0) = decide (m < t.length ∧ shapeV t = 0)
    simp [h1]
  · refine And.intro ?_ trivial
    show false = decide (m < t.length ∧ shapeV t = 0)
    rw [decide_eq_false (fun h => by omega)]
theorem large19_fn (t : List (List Int)) (m : Int) : QF 15 [.ro (.rows .i64 t), .int .i64 m] (.bool (.v (decide (m < t.length ∧ shapeV t = 0)))) := mkQ Try.func15 (by decide +kernel) rfl (Nat.le_of_ble_eq_true rfl) fun hf => large19_k t m hf.1.1
theorem cgRec_k (t : List (List Int)) (p : List Int) (side : Int) : fnK TY SP Try.f4 [.ro (.rows .i64 t), .ro (.ints .i64 p), .int .i64 side] (.bool (.lit true)) := by
  refine Or.inl (cq (large19_fn t 16) (And.intro rfl (And.intro rfl trivial)) ?_)
  refine And.intro (fun _ => ?_) (fun _ => ?_)
  · refine Or.inl (cq awake19_fn trivial ?_)
    exact And.intro rfl trivial
  refine Or.inl (cq (cgr_fn t p side) (And.intro rfl (And.intro rfl (And.intro rfl trivial))) ?_)
  refine Or.inl (cq (rcgr_fn t p side) (And.intro rfl (And.intro rfl (And.intro rfl trivial))) ?_)
  refine And.intro (fun _ => ?_) (fun h => ?_)
  · refine Or.inl (cq awake19_fn trivial ?_)
    exact And.intro rfl trivial
  · exact absurd (h.symm.trans (beq_self_eq_true (cgB t p side))) (by decide)
theorem cgRec_fn (t : List (List Int)) (p : List Int) (side : Int) : QF 4 [.ro (.rows .i64 t), .ro (.ints .i64 p), .int .i64 side] (.bool (.lit true)) := mkQ Try.func4 (by decide +kernel) rfl (Nat.le_of_ble_eq_true rfl) fun _ => cgRec_k t p side
end Go.Proofs.Ytfdmlmeegjhghaa
