/- Statements about congruences: the sanity check. -/
import Derived.Test.YteopelpnpdbbcaaAwk
namespace Go.Proofs.Yteopelpnpdbbcaa
open Go Go.AM Go.CM
set_option maxRecDepth 100000
theorem awake19_fn : QF 16 [] (.bool (.lit true)) := awk (n := 1000) (d := 40) (by decide +kernel)
end Go.Proofs.Yteopelpnpdbbcaa
