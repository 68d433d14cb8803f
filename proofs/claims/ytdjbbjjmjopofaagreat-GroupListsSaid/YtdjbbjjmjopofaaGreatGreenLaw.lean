/- Green's relations of a table: the ideals of its elements and their classes. Plain; no program. -/
import Derived.Test.YtdjbbjjmjopofaaGreatPartLaw
import Derived.Test.YtdjbbjjmjopofaaGreatBits
import Derived.Test.YtdjbbjjmjopofaaGreatTab
namespace Go.Proofs.YtdjbbjjmjopofaaGreat
open Go Go.AM

/-- Is x in the right (left, two-sided) ideal of y? -/
def inRB (t : List (List Int)) (y x : Nat) : Bool := decide (x = y) || (t.getD y []).contains (x : Int)
def inLB (t : List (List Int)) (y x : Nat) : Bool := decide (x = y) || t.any fun row => row.getD y 0 == (x : Int)
def inJB (t : List (List Int)) (y x : Nat) : Bool := (List.range t.length).any fun z => inLB t y z && inRB t z x

/-- The least member that x is mutual with. -/
def rep (e : Nat → Nat → Bool) (x : Nat) : Nat := ((List.range x).find? fun y => e x y && e y x).getD x
def repsL (n : Nat) (e : Nat → Nat → Bool) : List Int := (List.range n).map fun x => ((rep e x : Nat) : Int)

/-- A relation of ideals: reflexive and transitive. -/
structure Pre (n : Nat) (e : Nat → Nat → Bool) : Prop where
  refl : ∀ x, x < n → e x x = true
  trans : ∀ x y z, x < n → y < n → z < n → e x y = true → e y z = true → e x z = true

/-- The numbers of the classes. -/
def clsL (n : Nat) (e : Nat → Nat → Bool) : List Int := canon (repsL n e)
/-! ### In a semigroup -/

theorem inRB_iff {t : List (List Int)} (h : Sh t) {y x : Nat} (hy : y < t.length) : inRB t y x = true ↔ x = y ∨ ∃ s, s < t.length ∧ en t y s = x := by
  unfold inRB
  rw [Bool.or_eq_true, decide_eq_true_eq, List.contains_iff_mem]
  refine or_congr Iff.rfl ⟨fun hm => ?_, fun ⟨s, hs, he⟩ => ?_⟩
  · obtain ⟨s, hs, he⟩ := mem_getD 0 hm
    rw [h.len hy] at hs
    have := (h.ent hy hs).1
    exact ⟨s, hs, by rw [he] at this; exact_mod_cast this.symm⟩
  · have := (h.ent hy hs).1
    rw [← he, ← this]
    exact getD_mem (by rw [h.len hy]; exact hs)
theorem inLB_iff {t : List (List Int)} (h : Sh t) {y x : Nat} (hy : y < t.length) : inLB t y x = true ↔ x = y ∨ ∃ s, s < t.length ∧ en t s y = x := by
  unfold inLB
  rw [Bool.or_eq_true, decide_eq_true_eq, List.any_eq_true]
  refine or_congr Iff.rfl ⟨fun ⟨row, hm, he⟩ => ?_, fun ⟨s, hs, he⟩ => ?_⟩
  · obtain ⟨s, hs, rfl⟩ := mem_getD [] hm
    have := (h.ent hs hy).1
    have he : (t.getD s []).getD y 0 = (x : Int) := by simpa using he
    exact ⟨s, hs, by rw [he] at this; exact_mod_cast this.symm⟩
  · refine ⟨t.getD s [], getD_mem hs, ?_⟩
    have := (h.ent hs hy).1
    rw [this, he]; simp

theorem inR_lt {t : List (List Int)} (h : Sh t) {y x : Nat} (hy : y < t.length) (hx : inRB t y x = true) : x < t.length := by
  rcases (inRB_iff h hy).1 hx with rfl | ⟨s, hs, rfl⟩
  · exact hy
  · exact (h.ent hy hs).2
theorem inL_lt {t : List (List Int)} (h : Sh t) {y x : Nat} (hy : y < t.length) (hx : inLB t y x = true) : x < t.length := by
  rcases (inLB_iff h hy).1 hx with rfl | ⟨s, hs, rfl⟩
  · exact hy
  · exact (h.ent hs hy).2

theorem preR {t : List (List Int)} (h : Semi t) : Pre t.length (inRB t) where
  refl x hx := (inRB_iff h.toSh hx).2 (.inl rfl)
  trans x y z hx hy hz h1 h2 := by
    rw [inRB_iff h.toSh hx] at h1 ⊢
    rw [inRB_iff h.toSh hy] at h2
    rcases h1 with rfl | ⟨s, hs, rfl⟩
    · exact h2
    · rcases h2 with rfl | ⟨u, hu, rfl⟩
      · exact .inr ⟨s, hs, rfl⟩
      · exact .inr ⟨en t s u, (h.toSh.ent hs hu).2, (assoc3 h.assoc hx hs hu).symm⟩
theorem preL {t : List (List Int)} (h : Semi t) : Pre t.length (inLB t) where
  refl x hx := (inLB_iff h.toSh hx).2 (.inl rfl)
  trans x y z hx hy hz h1 h2 := by
    rw [inLB_iff h.toSh hx] at h1 ⊢
    rw [inLB_iff h.toSh hy] at h2
    rcases h1 with rfl | ⟨s, hs, rfl⟩
    · exact h2
    · rcases h2 with rfl | ⟨u, hu, rfl⟩
      · exact .inr ⟨s, hs, rfl⟩
      · exact .inr ⟨en t u s, (h.toSh.ent hu hs).2, assoc3 h.assoc hu hs hx⟩

theorem inJB_iff {t : List (List Int)} (_h : Sh t) {y x : Nat} (_hy : y < t.length) : inJB t y x = true ↔ ∃ z, z < t.length ∧ inLB t y z = true ∧ inRB t z x = true := by
  unfold inJB
  rw [List.any_eq_true]
  constructor
  · rintro ⟨z, hz, he⟩
    rw [Bool.and_eq_true] at he
    exact ⟨z, List.mem_range.1 hz, he⟩
  · rintro ⟨z, hz, he⟩
    exact ⟨z, List.mem_range.2 hz, by rw [Bool.and_eq_true]; exact he⟩
/-- One-sided ideals come either way round. -/
theorem swap {t : List (List Int)} (h : Semi t) {x y z : Nat} (hx : x < t.length) (h1 : inRB t x y = true) (h2 : inLB t y z = true) : ∃ w, w < t.length ∧ inLB t x w = true ∧ inRB t w z = true := by
  have hy := inR_lt h.toSh hx h1
  have hz := inL_lt h.toSh hy h2
  rw [inLB_iff h.toSh hy] at h2
  rcases h2 with rfl | ⟨s, hs, rfl⟩
  · exact ⟨x, hx, (inLB_iff h.toSh hx).2 (.inl rfl), h1⟩
  · rw [inRB_iff h.toSh hx] at h1
    rcases h1 with rfl | ⟨u, hu, rfl⟩
    · exact ⟨en t s y, hz, (inLB_iff h.toSh hx).2 (.inr ⟨s, hs, rfl⟩), (inRB_iff h.toSh hz).2 (.inl rfl)⟩
    · have hw := (h.toSh.ent hs hx).2
      exact ⟨en t s x, hw, (inLB_iff h.toSh hx).2 (.inr ⟨s, hs, rfl⟩), (inRB_iff h.toSh hw).2 (.inr ⟨u, hu, assoc3 h.assoc hs hx hu⟩)⟩
theorem preJ {t : List (List Int)} (h : Semi t) : Pre t.length (inJB t) where
  refl x hx := (inJB_iff h.toSh hx).2 ⟨x, hx, (preL h).refl x hx, (preR h).refl x hx⟩
  trans x y z hx hy hz h1 h2 := by
    rw [inJB_iff h.toSh hx] at h1 ⊢
    rw [inJB_iff h.toSh hy] at h2
    obtain ⟨a, ha, h3, h4⟩ := h1
    obtain ⟨b, hb, h5, h6⟩ := h2
    obtain ⟨c, hc, h7, h8⟩ := swap h ha h4 h5
    exact ⟨c, hc, (preL h).trans x a c hx ha hc h3 h7, (preR h).trans c b z hc hb hz h8 h6⟩
theorem inJ_lt {t : List (List Int)} (h : Sh t) {y x : Nat} (hy : y < t.length) (hx : inJB t y x = true) : x < t.length := by
  obtain ⟨z, hz, h1, h2⟩ := (inJB_iff h hy).1 hx
  exact inR_lt h hz h2

/-! ### The classes of a table -/

def classJ (t : List (List Int)) : List Int := clsL t.length (inJB t)
def numJ (t : List (List Int)) : Nat := classN (classJ t)
end Go.Proofs.YtdjbbjjmjopofaaGreat
