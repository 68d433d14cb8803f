/- The table of a part that is closed: plain. -/
import Derived.Test.YteopelpnpdbbcaaLatLaw
namespace Go.Proofs.Yteopelpnpdbbcaa
open Go Go.AM

/-- A part that is closed, as an ascending list. -/
structure ClL (t : List (List Int)) (l : List Int) : Prop where
  pos : 0 < l.length
  asc : Asc l
  ins : inT t l
  cl : ∀ x y, x < t.length → y < t.length → setI l x = true → setI l y = true → setI l (en t x y) = true
/-- The i-th element. -/
def eL (l : List Int) (i : Nat) : Nat := (l.getD i 0).toNat
theorem ClL.el {t : List (List Int)} {l : List Int} (h : ClL t l) {i : Nat} (hi : i < l.length) : eL l i < t.length ∧ l.getD i 0 = (eL l i : Int) ∧ setI l (eL l i) = true := by
  have hm := getD_mem (d := 0) hi
  have hr := h.ins _ hm
  unfold eL
  exact ⟨by omega, by omega, setI_iff.2 (by rw [Int.toNat_of_nonneg hr.1]; exact hm)⟩
end Go.Proofs.Yteopelpnpdbbcaa
