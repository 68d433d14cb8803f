/- Package group: greatest normal subgroups of a subgroup, simple and solvable groups: contracts. -/
import Derived.Test.YtdjbbjjmjopofaaGreatSolLaw
import Derived.Test.YtdjbbjjmjopofaaGreatNewRo
import Derived.Test.YtdjbbjjmjopofaaGreatSgp3
import Derived.Test.YtdjbbjjmjopofaaGreatRefNrm
namespace Go.Proofs.YtdjbbjjmjopofaaGreat
open Go Go.AM
set_option maxRecDepth 100000
theorem gallR_fn (t : List (List Int)) (hn : t.length ≤ 400) : QF 72 [frA t] (.ro (.ints .i64 (allI t))) := new_ro (gall_fn t hn)
end Go.Proofs.YtdjbbjjmjopofaaGreat
