/- The numbers of a class's rows and columns as a sort makes them; the least idempotent of a class; the first place in a list. Plain; no program. -/
import Derived.Lib.SlicesCompact
import Derived.Test.YtdjbbjjmjopofaaGreatCooLaw
import Derived.Test.YtdjbbjjmjopofaaGreatGreen
namespace Go.Proofs.YtdjbbjjmjopofaaGreat
open Go Go.AM

/-- The integers in ascending order. -/
def srtI (l : List Int) : List Int := l.mergeSort fun x y => decide (x ≤ y)
theorem srtI_perm (l : List Int) : (srtI l).Perm l := List.mergeSort_perm l _
theorem srtI_len (l : List Int) : (srtI l).length = l.length := (srtI_perm l).length_eq
theorem srtI_sorted (l : List Int) : (srtI l).Pairwise (· ≤ ·) := by
  have := List.pairwise_mergeSort (le := fun x y : Int => decide (x ≤ y)) (fun a b c h1 h2 => decide_eq_true (Int.le_trans (of_decide_eq_true h1) (of_decide_eq_true h2))) (fun a b => by
    rcases Int.le_total a b with h | h
    · simp [h]
    · simp [h]) l
  exact this.imp fun h => of_decide_eq_true h
/-- The first place in a list of what is looked for, or -1. -/
def idxF (f : Int → Bool) (l : List Int) : Int := if l.findIdx f < l.length then ((l.findIdx f : Nat) : Int) else -1
theorem idxF_here {f : Int → Bool} {l : List Int} {i : Nat} (hi : i < l.length) (h : ∀ k, k < i → f (l.getD k 0) = false) (hf : f (l.getD i 0) = true) : idxF f l = i := by
  have : l.findIdx f = i := (List.findIdx_eq hi).2 ⟨by rw [← getD_eq (d := 0) hi]; exact hf, fun k hk => by rw [← getD_eq (d := 0) (by omega)]; exact h k hk⟩
  unfold idxF; rw [this, if_pos hi]
theorem idxF_no {f : Int → Bool} {l : List Int} (h : ∀ k, k < l.length → f (l.getD k 0) = false) : idxF f l = -1 := by
  unfold idxF; rw [if_neg]
  intro hh
  obtain ⟨x, hx, hf⟩ := List.findIdx_lt_length.1 hh
  obtain ⟨k, hk, rfl⟩ := mem_getD 0 hx
  rw [h k hk] at hf; cases hf
end Go.Proofs.YtdjbbjjmjopofaaGreat
