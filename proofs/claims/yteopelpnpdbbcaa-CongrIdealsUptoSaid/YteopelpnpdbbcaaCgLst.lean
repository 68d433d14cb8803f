import Derived.Test.YteopelpnpdbbcaaCgGnrLaw
import Derived.Test.YteopelpnpdbbcaaSynLaw
import Derived.Test.YteopelpnpdbbcaaEqP
import Derived.Test.YteopelpnpdbbcaaForest
import Derived.Test.YteopelpnpdbbcaaCgGen
import Derived.Test.YteopelpnpdbbcaaQuoLaw
import Derived.Test.YteopelpnpdbbcaaCgrLaw
import Derived.Test.YteopelpnpdbbcaaGroup
import Derived.Test.YteopelpnpdbbcaaPart
import Derived.Test.YteopelpnpdbbcaaCollLaw
import Derived.Test.YteopelpnpdbbcaaMult
import Derived.Test.YteopelpnpdbbcaaRefCg
import Derived.Test.YteopelpnpdbbcaaAwk19
import Derived.Test.YteopelpnpdbbcaaRefRees
/- The statements CongrLeast and CongrSides: the walks. -/
namespace Go.Proofs.Yteopelpnpdbbcaa
open Go Go.AM
set_option maxRecDepth 100000
theorem small19_k (t : List (List Int)) (m : Int) : fnK TY SP Try.f35 [.ro (.rows .i64 t), .int .i64 m] (.bool (.v (decide ((t.length : Int) ≤ m ∧ validV t = 0)))) := by
  refine And.intro (fun h1 => ?_) (fun h1 => ?_)
  · have h1 : (t.length : Int) ≤ m := h1
    refine Or.inl (cq (rvalid_fn t) (And.intro rfl trivial) ?_)
    refine And.intro ?_ trivial
    show decide (validV t = 0) = decide ((t.length : Int) ≤ m ∧ validV t = 0)
    simp [h1]
  · have h1 : m < (t.length : Int) := h1
    refine And.intro ?_ trivial
    show false = decide ((t.length : Int) ≤ m ∧ validV t = 0)
    rw [decide_eq_false (fun h => by omega)]
theorem small19_fn (t : List (List Int)) (m : Int) : QF 35 [.ro (.rows .i64 t), .int .i64 m] (.bool (.v (decide ((t.length : Int) ≤ m ∧ validV t = 0)))) := mkQ Try.func35 (by decide +kernel) rfl (Nat.le_of_ble_eq_true rfl) fun _ => small19_k t m
end Go.Proofs.Yteopelpnpdbbcaa
