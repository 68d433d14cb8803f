/- The kernel is the least ideal; the lattice of ideals: plain. -/
import Derived.Test.YtdjbbjjmjopofaaGreatIdealsLaw
namespace Go.Proofs.YtdjbbjjmjopofaaGreat
open Go Go.AM

theorem ker_has {t : List (List Int)} (h : Semi t) : kerF t (allP t t.length) = true := prF_self h (allP_lt h.toSh h.pos _ (Nat.le_refl _))
/-- An ideal with an element has the product of all elements. -/
theorem all_in {t : List (List Int)} (h : Sh t) {f : Nat → Bool} (hf : IdF t f) {x : Nat} (hx : x < t.length) (hfx : f x = true) : ∀ k, x < k → k ≤ t.length → f (allP t k) = true
  | 0, h1, _ => absurd h1 (Nat.not_lt_zero _)
  | k + 1, h1, h2 => by
    have hp := allP_lt h h.pos k (by omega)
    by_cases e : x = k
    · subst e; exact (hf x (allP t x) hx hp hfx).2
    · exact (hf (allP t k) k hp (by omega) (all_in h hf hx hfx k (by omega) (by omega))).1
/-- The kernel lies in each ideal. -/
theorem ker_min {t : List (List Int)} (h : Semi t) {f : Nat → Bool} (hf : IdF t f) {x : Nat} (hx : x < t.length) (hfx : f x = true) {y : Nat} (hy : kerF t y = true) : f y = true := by
  have ha := allP_lt h.toSh h.pos _ (Nat.le_refl t.length)
  exact id_has h hf ha (all_in h.toSh hf hx hfx _ hx (Nat.le_refl _)) ((prF_iff h ha).1 hy)
theorem IdL.one {t : List (List Int)} {l : List Int} (h : IdL t l) : ∃ x, x < t.length ∧ setI l x = true := by
  have hm := getD_mem (d := 0) h.1
  have hr := h.2.2.1 _ hm
  exact ⟨(l.getD 0 0).toNat, by omega, setI_iff.2 (by rw [Int.toNat_of_nonneg hr.1]; exact hm)⟩
theorem ascV_sub {n : Nat} {f g : Nat → Bool} (h : ∀ x, x < n → f x = true → g x = true) : (ascV n f).Sublist (ascV n g) := by
  unfold ascV memV memTo
  rw [setB_len, setB_len]
  refine List.Sublist.map _ ?_
  have e : (List.range n).filter (fun i => (setB n f).getD i false) = ((List.range n).filter (fun i => (setB n g).getD i false)).filter (fun i => (setB n f).getD i false) := by
    rw [List.filter_filter]
    refine List.filter_congr fun x hx => ?_
    have hx := List.mem_range.1 hx
    rw [setB_get hx, setB_get hx]
    cases e : f x
    · rfl
    · rw [h x hx e]; rfl
  rw [e]; exact List.filter_sublist
end Go.Proofs.YtdjbbjjmjopofaaGreat
