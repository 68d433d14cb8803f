import Derived.Test.YteopelpnpdbbcaaIdealLaw
import Derived.Test.YteopelpnpdbbcaaBase
import Derived.Test.YteopelpnpdbbcaaLatLaw
import Derived.Test.YteopelpnpdbbcaaMult
/- mult.Zero where 0 is a zero: contract. -/
namespace Go.Proofs.Yteopelpnpdbbcaa
open Go Go.AM
set_option maxRecDepth 100000
set_option maxHeartbeats 1000000
theorem mvalid_k (t : List (List Int)) : fnK TY SP Try.f76 [.ro (.rows .i64 t)] (.bool (.v (decide (validV t = 0)))) := by
  refine Or.inl (cq (valid_fn t) (And.intro rfl trivial) ?_)
  exact And.intro rfl trivial
theorem mvalid_fn (t : List (List Int)) : QF 76 [.ro (.rows .i64 t)] (.bool (.v (decide (validV t = 0)))) := mkQ Try.func76 (by decide +kernel) rfl (Nat.le_of_ble_eq_true rfl) fun _ => mvalid_k t
end Go.Proofs.Yteopelpnpdbbcaa
