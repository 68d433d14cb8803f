/- The sanity check, by computation: what every seat needs. -/
import Derived.Test.YteopelpnpdbbcaaMult
import Derived.Test.YteopelpnpdbbcaaCmTz
import Derived.Test.YteopelpnpdbbcaaCmCode
namespace Go.Proofs.Yteopelpnpdbbcaa
open Go Go.AM Go.CM
set_option maxRecDepth 100000
theorem zOk : ZOk Try.prog TY TZ := zOk_of (by decide +kernel)
theorem namesOk : namesB Try.prog = true := by decide +kernel
theorem semi_of {t : List (List Int)} (h : semiB t = true) : validV t = 0 := by
  obtain ⟨⟨h1, h2⟩, h3, h4⟩ := semiB_ok h
  exact valid_zero.2 ⟨⟨h1, h2, h3⟩, fun g hg x y hx hy => h4 x g y hx hg hy⟩
/-- What is known ahead: of a valid table Validate hands back 0. -/
noncomputable abbrev KN : Kn := ⟨[], knowV 26 semiB⟩
theorem kn_ok : CalOk Try.prog KN.know := know_ok fun t h => by have := valid_fn t; rw [semi_of h] at this; exact this
theorem kn_eq : EqOk Try.prog KN.eqs := fun _ h => by cases h
theorem awk {f : FuncId} {n d : Nat} (h : okTrue (evF Try.prog TY TZ KN n d f [] ⟨.lf, 0, 0, []⟩) = true) : QF f [] (.bool (.lit true)) := fn_true tyOk zOk kn_ok kn_eq mixed (names_of namesOk) h
end Go.Proofs.Yteopelpnpdbbcaa
