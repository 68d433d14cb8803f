import Derived.Test.YteopelpnpdbbcaaIdealLaw
import Derived.Test.YteopelpnpdbbcaaOrd
import Derived.Test.YteopelpnpdbbcaaBase
/- All ideals of a small table: plain. Sets as a word of bits. -/
namespace Go.Proofs.Yteopelpnpdbbcaa
open Go Go.AM
open Classical

theorem pairwise_adj {l : List Int} (h : Asc l) : l.Pairwise (· < ·) := by
  rw [List.pairwise_iff_getElem]
  have key : ∀ d i, i + d + 1 < l.length → l.getD i 0 < l.getD (i + d + 1) 0 := by
    intro d
    induction d with
    | zero => intro i hi; exact h i hi
    | succ d ih => intro i hi; have h1 := ih i (by omega); have h2 := h (i + d + 1) (by omega); rw [show i + (d + 1) + 1 = i + d + 1 + 1 by omega]; omega
  intro i j hi hj hij
  have := key (j - i - 1) i (by omega)
  rw [show i + (j - i - 1) + 1 = j by omega, getD_eq hi, getD_eq hj] at this
  exact this
theorem asc_of {l : List Int} (h : l.Pairwise (· < ·)) : Asc l := fun i hi => by
  rw [getD_eq (by omega), getD_eq hi]
  exact List.pairwise_iff_getElem.1 h i (i + 1) (by omega) hi (by omega)
theorem asc_ext {l m : List Int} (hl : Asc l) (hm : Asc m) (h : ∀ x, x ∈ l ↔ x ∈ m) : l = m := by
  have c : ∀ a b : Int, cmpI a b < 0 ↔ a < b := fun a b => by unfold cmpI; split <;> (try split) <;> omega
  exact sorted_uniq cmpI_tot ((pairwise_adj hl).imp fun hab => (c _ _).2 hab) ((pairwise_adj hm).imp fun hab => (c _ _).2 hab) h
theorem ascV_asc (n : Nat) (f : Nat → Bool) : Asc (ascV n f) := by
  refine asc_of ?_
  unfold ascV memV memTo
  rw [List.pairwise_map]
  refine List.Pairwise.imp ?_ (List.Pairwise.sublist List.filter_sublist List.pairwise_lt_range)
  intro a b h; exact_mod_cast h
theorem ascV_in {n : Nat} {f : Nat → Bool} {x : Int} (h : x ∈ ascV n f) : 0 ≤ x ∧ x < (n : Int) := by
  obtain ⟨i, h1, _, rfl⟩ := ascV_mem.1 h; omega
/-- A list that ascends in the table is the list of its set. -/
theorem ascV_self {n : Nat} {l : List Int} (h : Asc l) (hl : ∀ x ∈ l, 0 ≤ x ∧ x < (n : Int)) : ascV n (setI l) = l := by
  refine asc_ext (ascV_asc _ _) h fun x => ?_
  rw [ascV_mem]
  constructor
  · rintro ⟨i, _, h2, rfl⟩; exact setI_iff.1 h2
  · intro hx
    have := hl x hx
    exact ⟨x.toNat, by omega, setI_iff.2 (by rw [Int.toNat_of_nonneg this.1]; exact hx), by omega⟩
theorem IdL.self {t : List (List Int)} {l : List Int} (h : IdL t l) : ascV t.length (setI l) = l := ascV_self h.2.1 h.2.2.1

/-- The list of a set that is an ideal with an element. -/
theorem idL_of {t : List (List Int)} (hs : Sh t) {f : Nat → Bool} (h : IdF t f) {x : Nat} (hx : x < t.length) (hf : f x = true) : IdL t (ascV t.length f) :=
  ⟨List.length_pos_iff_exists_mem.2 ⟨_, ascV_mem.2 ⟨x, hx, hf, rfl⟩⟩, ascV_asc _ _, fun _ hy => ascV_in hy, fun y s hy hs' hyf => by
    rw [ascV_set hy] at hyf
    have := h y s hy hs' hyf
    rw [ascV_set (hs.ent hy hs').2, ascV_set (hs.ent hs' hy).2]; exact this⟩

theorem inJ_mul {t : List (List Int)} (h : Semi t) {x y s : Nat} (hx : x < t.length) (hs : s < t.length) (hy : inJB t x y = true) : inJB t x (en t y s) = true ∧ inJB t x (en t s y) = true := by
  have hy' := inJ_lt h.toSh hx hy
  have p := preJ h
  refine ⟨p.trans _ _ _ hx hy' (h.toSh.ent hy' hs).2 hy ?_, p.trans _ _ _ hx hy' (h.toSh.ent hs hy').2 hy ?_⟩
  · exact (inJB_iff h.toSh hy').2 ⟨y, hy', (inLB_iff h.toSh hy').2 (.inl rfl), (inRB_iff h.toSh hy').2 (.inr ⟨s, hs, rfl⟩)⟩
  · exact (inJB_iff h.toSh hy').2 ⟨en t s y, (h.toSh.ent hs hy').2, (inLB_iff h.toSh hy').2 (.inr ⟨s, hs, rfl⟩), (inRB_iff h.toSh (h.toSh.ent hs hy').2).2 (.inl rfl)⟩
/-! ### The list of all ideals -/

/-! ### Sets as words -/

end Go.Proofs.Yteopelpnpdbbcaa
