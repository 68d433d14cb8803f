/- The sanity check, by computation: what every seat needs. -/
import Derived.Test.YtfdmlmeegjhghaaBase
import Derived.Test.YtfdmlmeegjhghaaCmTz
import Derived.Test.YtfdmlmeegjhghaaCmCode
namespace Go.Proofs.Ytfdmlmeegjhghaa
open Go Go.AM Go.CM
set_option maxRecDepth 100000
theorem zOk : ZOk Try.prog TY TZ := zOk_of (by decide +kernel)
theorem namesOk : namesB Try.prog = true := by decide +kernel
theorem awk {f : FuncId} {n d : Nat} (h : okTrue (evF Try.prog TY TZ n d f [] ⟨.lf, 0, 0, []⟩) = true) : QF f [] (.bool (.lit true)) := fn_true tyOk zOk mixed (names_of namesOk) h
end Go.Proofs.Ytfdmlmeegjhghaa
