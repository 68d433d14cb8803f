/- Statements about groups: the sanity check. -/
import Derived.Test.YtdjbbjjmjopofaaGreatAwk
namespace Go.Proofs.YtdjbbjjmjopofaaGreat
open Go Go.AM Go.CM
set_option maxRecDepth 100000
theorem awake16_fn : QF 16 [] (.bool (.lit true)) := awkE (n := 1000) (d := 60) [42] (by decide +kernel) (by decide +kernel)
end Go.Proofs.YtdjbbjjmjopofaaGreat
