import Derived.Test.YtdjbbjjmjopofaaGreatIdealLaw
import Derived.Test.YtdjbbjjmjopofaaGreatOrd
import Derived.Test.YtdjbbjjmjopofaaGreatBase
/- All ideals of a small table: plain. Sets as a word of bits. -/
namespace Go.Proofs.YtdjbbjjmjopofaaGreat
open Go Go.AM
open Classical

theorem pairwise_adj {l : List Int} (h : Asc l) : l.Pairwise (· < ·) := by
  rw [List.pairwise_iff_getElem]
  have key : ∀ d i, i + d + 1 < l.length → l.getD i 0 < l.getD (i + d + 1) 0 := by
    intro d
    induction d with
    | zero => intro i hi; exact h i hi
    | succ d ih => intro i hi; have h1 := ih i (by omega); have h2 := h (i + d + 1) (by omega); rw [show i + (d + 1) + 1 = i + d + 1 + 1 by omega]; omega
  intro i j hi hj hij
  have := key (j - i - 1) i (by omega)
  rw [show i + (j - i - 1) + 1 = j by omega, getD_eq hi, getD_eq hj] at this
  exact this
theorem asc_of {l : List Int} (h : l.Pairwise (· < ·)) : Asc l := fun i hi => by
  rw [getD_eq (by omega), getD_eq hi]
  exact List.pairwise_iff_getElem.1 h i (i + 1) (by omega) hi (by omega)
theorem asc_ext {l m : List Int} (hl : Asc l) (hm : Asc m) (h : ∀ x, x ∈ l ↔ x ∈ m) : l = m := by
  have c : ∀ a b : Int, cmpI a b < 0 ↔ a < b := fun a b => by unfold cmpI; split <;> (try split) <;> omega
  exact sorted_uniq cmpI_tot ((pairwise_adj hl).imp fun hab => (c _ _).2 hab) ((pairwise_adj hm).imp fun hab => (c _ _).2 hab) h
theorem ascV_asc (n : Nat) (f : Nat → Bool) : Asc (ascV n f) := by
  refine asc_of ?_
  unfold ascV memV memTo
  rw [List.pairwise_map]
  refine List.Pairwise.imp ?_ (List.Pairwise.sublist List.filter_sublist List.pairwise_lt_range)
  intro a b h; exact_mod_cast h
/-- A list that ascends in the table is the list of its set. -/
theorem ascV_self {n : Nat} {l : List Int} (h : Asc l) (hl : ∀ x ∈ l, 0 ≤ x ∧ x < (n : Int)) : ascV n (setI l) = l := by
  refine asc_ext (ascV_asc _ _) h fun x => ?_
  rw [ascV_mem]
  constructor
  · rintro ⟨i, _, h2, rfl⟩; exact setI_iff.1 h2
  · intro hx
    have := hl x hx
    exact ⟨x.toNat, by omega, setI_iff.2 (by rw [Int.toNat_of_nonneg this.1]; exact hx), by omega⟩
theorem IdL.self {t : List (List Int)} {l : List Int} (h : IdL t l) : ascV t.length (setI l) = l := ascV_self h.2.1 h.2.2.1

/-! ### The list of all ideals -/

/-! ### Sets as words -/

end Go.Proofs.YtdjbbjjmjopofaaGreat
