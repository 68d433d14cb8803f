/- The kernel is the least ideal; the lattice of ideals: plain. -/
import Derived.Test.YtdjbbjjmjopofaaGreatIdealsLaw
namespace Go.Proofs.YtdjbbjjmjopofaaGreat
open Go Go.AM

theorem IdL.one {t : List (List Int)} {l : List Int} (h : IdL t l) : ∃ x, x < t.length ∧ setI l x = true := by
  have hm := getD_mem (d := 0) h.1
  have hr := h.2.2.1 _ hm
  exact ⟨(l.getD 0 0).toNat, by omega, setI_iff.2 (by rw [Int.toNat_of_nonneg hr.1]; exact hm)⟩
theorem ascV_sub {n : Nat} {f g : Nat → Bool} (h : ∀ x, x < n → f x = true → g x = true) : (ascV n f).Sublist (ascV n g) := by
  unfold ascV memV memTo
  rw [setB_len, setB_len]
  refine List.Sublist.map _ ?_
  have e : (List.range n).filter (fun i => (setB n f).getD i false) = ((List.range n).filter (fun i => (setB n g).getD i false)).filter (fun i => (setB n f).getD i false) := by
    rw [List.filter_filter]
    refine List.filter_congr fun x hx => ?_
    have hx := List.mem_range.1 hx
    rw [setB_get hx, setB_get hx]
    cases e : f x
    · rfl
    · rw [h x hx e]; rfl
  rw [e]; exact List.filter_sublist
end Go.Proofs.YtdjbbjjmjopofaaGreat
