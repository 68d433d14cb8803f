/- The statement CongrRecognizes: the walk. -/
import Derived.Test.YteopelpnpdbbcaaRefCg
import Derived.Test.YteopelpnpdbbcaaAwk19
namespace Go.Proofs.Yteopelpnpdbbcaa
open Go Go.AM
set_option maxRecDepth 100000
theorem large19_k (t : List (List Int)) (m : Int) (_ht : t.length ≤ 140737488355328) : fnK TY SP Try.f15 [.ro (.rows .i64 t), .int .i64 m] (.bool (.v (decide (m < t.length ∧ shapeV t = 0)))) := by
  refine And.intro (fun h1 => ?_) (fun h1 => ?_)
  · refine Or.inl (cq (rshape_fn t) (And.intro rfl trivial) ?_)
    refine And.intro ?_ trivial
    show decide (shapeV t = 0) = decide (m < t.length ∧ shapeV t = 0)
    simp [h1]
  · refine And.intro ?_ trivial
    show false = decide (m < t.length ∧ shapeV t = 0)
    rw [decide_eq_false (fun h => by omega)]
theorem large19_fn (t : List (List Int)) (m : Int) : QF 15 [.ro (.rows .i64 t), .int .i64 m] (.bool (.v (decide (m < t.length ∧ shapeV t = 0)))) := mkQ Try.func15 (by decide +kernel) rfl (Nat.le_of_ble_eq_true rfl) fun hf => large19_k t m hf.1.1
end Go.Proofs.Yteopelpnpdbbcaa
