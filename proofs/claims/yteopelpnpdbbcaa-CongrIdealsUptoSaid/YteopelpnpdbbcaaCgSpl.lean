import Derived.Test.YteopelpnpdbbcaaSynLaw
import Derived.Test.YteopelpnpdbbcaaBase
import Derived.Test.YteopelpnpdbbcaaAmRet
/- Package congr: the splitter: contract. -/
namespace Go.Proofs.Yteopelpnpdbbcaa
open Go Go.AM
set_option maxRecDepth 100000
/-- What the splitter asks. -/
structure SpQ (c s : List Int) (rnd : Int) (M L im : List Int) : Prop where
  n : c.length ≤ 400
  sl : s.length = c.length
  cin : ∀ x ∈ c, 0 ≤ x ∧ x < (c.length : Int)
  il : im.length = c.length
  iin : ∀ x, x < c.length → 0 ≤ im.getD x 0 ∧ im.getD x 0 < (c.length : Int)
  ml : M.length = c.length * c.length
  ll : L.length = c.length * c.length
  mlt : ∀ x ∈ M, 0 ≤ x ∧ x ≤ rnd
  lab : ∀ x ∈ L, 0 ≤ x ∧ x ≤ (c.length : Int)
  r0 : 0 ≤ rnd ∧ rnd ≤ 1000000000
/-- What the next one asks. -/
theorem SpQ.next {c s : List Int} {rnd : Int} {M L im im2 : List Int} (h : SpQ c s rnd M L im) (hr : rnd + 1 ≤ 1000000000) (hl : im2.length = c.length) (hi : ∀ x, x < c.length → 0 ≤ im2.getD x 0 ∧ im2.getD x 0 < (c.length : Int)) :
    SpQ (spC c im) c (rnd + 1) (spM c im (rnd + 1) M L c.length).1 (spM c im (rnd + 1) M L c.length).2 im2 := by
  have hr0 := h.r0
  have hst : SpI c im (rnd + 1) M L 0 := SpI.start h.ml h.ll (fun x hx => by have := h.mlt x hx; omega) (fun x hx => (h.mlt x hx).1) h.lab
  have hI := SpI.upto h.cin h.iin (by omega) hst c.length (Nat.le_refl _)
  have hle : (firsts (spP c im)).length ≤ c.length := by have := firsts_le (spP c im); rw [spP_len] at this; exact this
  refine ⟨by rw [spC_len]; exact h.n, by rw [spC_len], fun x hx => ?_, by rw [spC_len]; exact hl, fun x hx => ?_, by rw [spC_len]; exact hI.lm, by rw [spC_len]; exact hI.ll, fun x hx => ⟨hI.lo x hx, hI.hi x hx⟩, fun x hx => by rw [spC_len]; exact hI.lab x hx, by omega⟩
  · obtain ⟨j, hj, rfl⟩ := mem_getD 0 hx
    unfold spC at hj ⊢
    rw [canon_length] at hj
    have := canon_lt hj
    rw [canon_length, spP_len]; omega
  · rw [spC_len] at hx ⊢; exact hi x hx
end Go.Proofs.Yteopelpnpdbbcaa
