/- The kernel is the least ideal; the lattice of ideals: plain. -/
import Derived.Test.YteopelpnpdbbcaaIdealsLaw
namespace Go.Proofs.Yteopelpnpdbbcaa
open Go Go.AM

theorem IdL.one {t : List (List Int)} {l : List Int} (h : IdL t l) : ∃ x, x < t.length ∧ setI l x = true := by
  have hm := getD_mem (d := 0) h.1
  have hr := h.2.2.1 _ hm
  exact ⟨(l.getD 0 0).toNat, by omega, setI_iff.2 (by rw [Int.toNat_of_nonneg hr.1]; exact hm)⟩
end Go.Proofs.Yteopelpnpdbbcaa
