/- The principal factor of a J-class: a semigroup. Plain; no program. -/
import Derived.Test.YtdjbbjjmjopofaaGreatGreenLaw
import Derived.Test.YtdjbbjjmjopofaaGreatReesLaw
namespace Go.Proofs.YtdjbbjjmjopofaaGreat
open Go Go.AM

/-- The elements of a class; which ones they are; is it minimal? -/
def elemsJ (t : List (List Int)) (j : Nat) : List Int := (classes (numJ t) (classJ t)).getD j []
theorem elemsJ_eq {t : List (List Int)} {j : Nat} (hj : j < numJ t) : elemsJ t j = ((List.range t.length).filter fun i => (classJ t).getD i 0 = (j : Int)).map fun (i : Nat) => (i : Int) := by
  unfold elemsJ; rw [classes_getD hj, classJ_len]
section
variable {t : List (List Int)} {j : Nat} (h : Semi t) (hj : j < numJ t)
include hj

include h
end
end Go.Proofs.YtdjbbjjmjopofaaGreat
