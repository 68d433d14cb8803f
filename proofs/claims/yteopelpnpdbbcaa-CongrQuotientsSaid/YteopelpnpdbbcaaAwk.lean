/- The sanity check, by computation: what every seat needs. -/
import Derived.Test.YteopelpnpdbbcaaMult
import Derived.Test.YteopelpnpdbbcaaCmTz
import Derived.Test.YteopelpnpdbbcaaCmCode
namespace Go.Proofs.Yteopelpnpdbbcaa
open Go Go.AM Go.CM
set_option maxRecDepth 100000
theorem zOk : ZOk Try.prog TY TZ := zOk_of (by decide +kernel)
theorem namesOk : namesB Try.prog = true := by decide +kernel
theorem semi_of {t : List (List Int)} (h : semiB t = true) : validV t = 0 := by
  obtain ⟨⟨h1, h2⟩, h3, h4⟩ := semiB_ok h
  exact valid_zero.2 ⟨⟨h1, h2, h3⟩, fun g hg x y hx hy => h4 x g y hx hg hy⟩
/-- What is known ahead: of a valid table Validate hands back 0. -/
noncomputable abbrev KN : Kn := ⟨[], knowV 26 semiB⟩
theorem kn_ok : CalOk Try.prog KN.know := know_ok fun t h => by have := valid_fn t; rw [semi_of h] at this; exact this
theorem kn_eq : EqOk Try.prog KN.eqs := fun _ h => by cases h
theorem awk {f : FuncId} {n d : Nat} (h : okTrue (evF Try.prog TY TZ KN n d f [] ⟨.lf, 0, 0, []⟩) = true) : QF f [] (.bool (.lit true)) := fn_true tyOk zOk kn_ok kn_eq mixed (names_of namesOk) h
/-- The same, where structs are compared. -/
def eqsB (P : Program) (eqs : List Nat) : Bool := eqs.all fun t => !P.stoodInHeld t && !P.eqGuardType P.depth t && (P.fieldsOf t).toList.all fun f => decide (f.name ≠ "_")
theorem eqs_of {P : Program} {eqs : List Nat} (h : eqsB P eqs = true) : EqOk P eqs := fun t ht => by
  have h := List.all_eq_true.1 h t (memB_iff.1 ht)
  simp only [Bool.and_eq_true, Bool.not_eq_true', List.all_eq_true, decide_eq_true_eq] at h
  exact ⟨h.1.1, h.1.2, h.2⟩
theorem awkE {f : FuncId} {n d : Nat} (eqs : List Nat) (he : eqsB Try.prog eqs = true) (h : okTrue (evF Try.prog TY TZ ⟨eqs, KN.know⟩ n d f [] ⟨.lf, 0, 0, []⟩) = true) : QF f [] (.bool (.lit true)) :=
  fn_true (K := ⟨eqs, KN.know⟩) tyOk zOk kn_ok (eqs_of he) mixed (names_of namesOk) h
end Go.Proofs.Yteopelpnpdbbcaa
