import Derived.Test.YteopelpnpdbbcaaPartLaw
import Derived.Test.YteopelpnpdbbcaaBase
import Derived.Test.YteopelpnpdbbcaaTab
/- Green's relations of a table: the ideals of its elements and their classes. Plain; no program. -/
namespace Go.Proofs.Yteopelpnpdbbcaa
open Go Go.AM

/-- Is x in the right (left, two-sided) ideal of y? -/
def inRB (t : List (List Int)) (y x : Nat) : Bool := decide (x = y) || (t.getD y []).contains (x : Int)
def inLB (t : List (List Int)) (y x : Nat) : Bool := decide (x = y) || t.any fun row => row.getD y 0 == (x : Int)
def inJB (t : List (List Int)) (y x : Nat) : Bool := (List.range t.length).any fun z => inLB t y z && inRB t z x

/-- The least member that x is mutual with. -/
def rep (e : Nat → Nat → Bool) (x : Nat) : Nat := ((List.range x).find? fun y => e x y && e y x).getD x
def repsL (n : Nat) (e : Nat → Nat → Bool) : List Int := (List.range n).map fun x => ((rep e x : Nat) : Int)

theorem rep_of {e : Nat → Nat → Bool} {x y : Nat} (hy : y < x) (h : (e x y && e y x) = true) (hn : ∀ z, z < y → (e x z && e z x) = false) : rep e x = y := by
  unfold rep
  have : (List.range x).find? (fun y => e x y && e y x) = some y := by
    rw [List.find?_range_eq_some]
    exact ⟨h, by rw [List.mem_range]; exact hy, fun z hz => by show (!_) = true; rw [hn z hz]; rfl⟩
  rw [this]; rfl
theorem rep_none {e : Nat → Nat → Bool} {x : Nat} (h : ∀ y, y < x → (e x y && e y x) = false) : rep e x = x := by
  unfold rep
  have : (List.range x).find? (fun y => e x y && e y x) = none := by
    rw [List.find?_range_eq_none]
    exact fun y hy => by show (!_) = true; rw [h y hy]; rfl
  rw [this]; rfl
theorem rep_cases (e : Nat → Nat → Bool) (x : Nat) : (rep e x = x ∧ ∀ y, y < x → (e x y && e y x) = false) ∨ (rep e x < x ∧ (e x (rep e x) && e (rep e x) x) = true ∧ ∀ y, y < rep e x → (e x y && e y x) = false) := by
  by_cases h : ∀ y, y < x → (e x y && e y x) = false
  · exact .inl ⟨rep_none h, h⟩
  · have : ∃ y, y < x ∧ (e x y && e y x) = true := by
      apply Classical.byContradiction
      intro hn
      exact h fun y hy => by
        cases hb : (e x y && e y x) with
        | false => rfl
        | true => exact absurd ⟨y, hy, hb⟩ hn
    -- the least one
    have least : ∀ n, (∃ y, y < n ∧ y < x ∧ (e x y && e y x) = true) → ∃ y, y < x ∧ (e x y && e y x) = true ∧ ∀ z, z < y → (e x z && e z x) = false := by
      intro n
      induction n with
      | zero => rintro ⟨y, hy, _⟩; exact absurd hy (Nat.not_lt_zero _)
      | succ n ih =>
        rintro ⟨y, hy, hyx, hb⟩
        by_cases hl : ∃ z, z < n ∧ z < x ∧ (e x z && e z x) = true
        · exact ih hl
        · refine ⟨y, hyx, hb, fun z hz => ?_⟩
          cases hzb : (e x z && e z x) with
          | false => rfl
          | true => exact absurd ⟨z, by omega, by omega, hzb⟩ hl
    obtain ⟨y, hy, hb⟩ := this
    obtain ⟨y, h1, h2, h3⟩ := least (y + 1) ⟨y, Nat.lt_succ_self _, hy, hb⟩
    have := rep_of h1 h2 h3
    exact .inr (by rw [this]; exact ⟨h1, h2, h3⟩)

theorem repsL_len (n : Nat) (e : Nat → Nat → Bool) : (repsL n e).length = n := by simp [repsL]
theorem repsL_get {n : Nat} {e : Nat → Nat → Bool} {x : Nat} (hx : x < n) : (repsL n e).getD x 0 = ((rep e x : Nat) : Int) := by
  simp only [repsL, List.getD, List.getElem?_map, List.getElem?_range hx, Option.map_some, Option.getD_some]

/-- A relation of ideals: reflexive and transitive. -/
structure Pre (n : Nat) (e : Nat → Nat → Bool) : Prop where
  refl : ∀ x, x < n → e x x = true
  trans : ∀ x y z, x < n → y < n → z < n → e x y = true → e y z = true → e x z = true

/-- Mutual ones have one representative. -/
theorem rep_iff {n : Nat} {e : Nat → Nat → Bool} (h : Pre n e) {x y : Nat} (hx : x < n) (hy : y < n) : rep e x = rep e y ↔ (e x y = true ∧ e y x = true) := by
  have muty : ∀ x, x < n → rep e x < n ∧ e x (rep e x) = true ∧ e (rep e x) x = true := fun x hx => by
    rcases rep_cases e x with ⟨h1, _⟩ | ⟨h1, h2, _⟩
    · rw [h1]; exact ⟨hx, h.refl x hx, h.refl x hx⟩
    · rw [Bool.and_eq_true] at h2; exact ⟨by omega, h2.1, h2.2⟩
  have least : ∀ x z, x < n → z < n → e x z = true → e z x = true → rep e x ≤ z := fun x z hx hz h1 h2 => by
    rcases rep_cases e x with ⟨g1, g2⟩ | ⟨g1, _, g2⟩
    · rw [g1]
      apply Nat.le_of_not_lt
      intro hlt
      have := g2 z hlt
      rw [h1, h2] at this; cases this
    · apply Nat.le_of_not_lt
      intro hlt
      have := g2 z hlt
      rw [h1, h2] at this; cases this
  obtain ⟨a1, a2, a3⟩ := muty x hx
  obtain ⟨b1, b2, b3⟩ := muty y hy
  constructor
  · intro he
    exact ⟨h.trans x (rep e x) y hx a1 hy a2 (he ▸ b3), h.trans y (rep e x) x hy a1 hx (he ▸ b2) a3⟩
  · rintro ⟨h1, h2⟩
    apply Nat.le_antisymm
    · exact least x (rep e y) hx b1 (h.trans x y _ hx hy b1 h1 b2) (h.trans _ y x b1 hy hx b3 h2)
    · exact least y (rep e x) hy a1 (h.trans y x _ hy hx a1 h2 a2) (h.trans _ x y a1 hx hy a3 h1)

/-- The numbers of the classes. -/
def clsL (n : Nat) (e : Nat → Nat → Bool) : List Int := canon (repsL n e)
theorem clsL_len (n : Nat) (e : Nat → Nat → Bool) : (clsL n e).length = n := by rw [clsL, canon_length, repsL_len]
theorem clsL_iff {n : Nat} {e : Nat → Nat → Bool} (h : Pre n e) {x y : Nat} (hx : x < n) (hy : y < n) : (clsL n e).getD x 0 = (clsL n e).getD y 0 ↔ (e x y = true ∧ e y x = true) := by
  rw [clsL, canon_eq_iff (d := 0) (by rw [repsL_len]; exact hx) (by rw [repsL_len]; exact hy), repsL_get hx, repsL_get hy, ← rep_iff h hx hy]
  exact Int.ofNat_inj
/-! ### In a semigroup -/

theorem inRB_iff {t : List (List Int)} (h : Sh t) {y x : Nat} (hy : y < t.length) : inRB t y x = true ↔ x = y ∨ ∃ s, s < t.length ∧ en t y s = x := by
  unfold inRB
  rw [Bool.or_eq_true, decide_eq_true_eq, List.contains_iff_mem]
  refine or_congr Iff.rfl ⟨fun hm => ?_, fun ⟨s, hs, he⟩ => ?_⟩
  · obtain ⟨s, hs, he⟩ := mem_getD 0 hm
    rw [h.len hy] at hs
    have := (h.ent hy hs).1
    exact ⟨s, hs, by rw [he] at this; exact_mod_cast this.symm⟩
  · have := (h.ent hy hs).1
    rw [← he, ← this]
    exact getD_mem (by rw [h.len hy]; exact hs)
theorem inLB_iff {t : List (List Int)} (h : Sh t) {y x : Nat} (hy : y < t.length) : inLB t y x = true ↔ x = y ∨ ∃ s, s < t.length ∧ en t s y = x := by
  unfold inLB
  rw [Bool.or_eq_true, decide_eq_true_eq, List.any_eq_true]
  refine or_congr Iff.rfl ⟨fun ⟨row, hm, he⟩ => ?_, fun ⟨s, hs, he⟩ => ?_⟩
  · obtain ⟨s, hs, rfl⟩ := mem_getD [] hm
    have := (h.ent hs hy).1
    have he : (t.getD s []).getD y 0 = (x : Int) := by simpa using he
    exact ⟨s, hs, by rw [he] at this; exact_mod_cast this.symm⟩
  · refine ⟨t.getD s [], getD_mem hs, ?_⟩
    have := (h.ent hs hy).1
    rw [this, he]; simp

theorem inR_lt {t : List (List Int)} (h : Sh t) {y x : Nat} (hy : y < t.length) (hx : inRB t y x = true) : x < t.length := by
  rcases (inRB_iff h hy).1 hx with rfl | ⟨s, hs, rfl⟩
  · exact hy
  · exact (h.ent hy hs).2
theorem inL_lt {t : List (List Int)} (h : Sh t) {y x : Nat} (hy : y < t.length) (hx : inLB t y x = true) : x < t.length := by
  rcases (inLB_iff h hy).1 hx with rfl | ⟨s, hs, rfl⟩
  · exact hy
  · exact (h.ent hs hy).2

theorem preR {t : List (List Int)} (h : Semi t) : Pre t.length (inRB t) where
  refl x hx := (inRB_iff h.toSh hx).2 (.inl rfl)
  trans x y z hx hy hz h1 h2 := by
    rw [inRB_iff h.toSh hx] at h1 ⊢
    rw [inRB_iff h.toSh hy] at h2
    rcases h1 with rfl | ⟨s, hs, rfl⟩
    · exact h2
    · rcases h2 with rfl | ⟨u, hu, rfl⟩
      · exact .inr ⟨s, hs, rfl⟩
      · exact .inr ⟨en t s u, (h.toSh.ent hs hu).2, (assoc3 h.assoc hx hs hu).symm⟩
theorem preL {t : List (List Int)} (h : Semi t) : Pre t.length (inLB t) where
  refl x hx := (inLB_iff h.toSh hx).2 (.inl rfl)
  trans x y z hx hy hz h1 h2 := by
    rw [inLB_iff h.toSh hx] at h1 ⊢
    rw [inLB_iff h.toSh hy] at h2
    rcases h1 with rfl | ⟨s, hs, rfl⟩
    · exact h2
    · rcases h2 with rfl | ⟨u, hu, rfl⟩
      · exact .inr ⟨s, hs, rfl⟩
      · exact .inr ⟨en t u s, (h.toSh.ent hu hs).2, assoc3 h.assoc hu hs hx⟩

theorem inJB_iff {t : List (List Int)} (_h : Sh t) {y x : Nat} (_hy : y < t.length) : inJB t y x = true ↔ ∃ z, z < t.length ∧ inLB t y z = true ∧ inRB t z x = true := by
  unfold inJB
  rw [List.any_eq_true]
  constructor
  · rintro ⟨z, hz, he⟩
    rw [Bool.and_eq_true] at he
    exact ⟨z, List.mem_range.1 hz, he⟩
  · rintro ⟨z, hz, he⟩
    exact ⟨z, List.mem_range.2 hz, by rw [Bool.and_eq_true]; exact he⟩
/-- One-sided ideals come either way round. -/
theorem swap {t : List (List Int)} (h : Semi t) {x y z : Nat} (hx : x < t.length) (h1 : inRB t x y = true) (h2 : inLB t y z = true) : ∃ w, w < t.length ∧ inLB t x w = true ∧ inRB t w z = true := by
  have hy := inR_lt h.toSh hx h1
  have hz := inL_lt h.toSh hy h2
  rw [inLB_iff h.toSh hy] at h2
  rcases h2 with rfl | ⟨s, hs, rfl⟩
  · exact ⟨x, hx, (inLB_iff h.toSh hx).2 (.inl rfl), h1⟩
  · rw [inRB_iff h.toSh hx] at h1
    rcases h1 with rfl | ⟨u, hu, rfl⟩
    · exact ⟨en t s y, hz, (inLB_iff h.toSh hx).2 (.inr ⟨s, hs, rfl⟩), (inRB_iff h.toSh hz).2 (.inl rfl)⟩
    · have hw := (h.toSh.ent hs hx).2
      exact ⟨en t s x, hw, (inLB_iff h.toSh hx).2 (.inr ⟨s, hs, rfl⟩), (inRB_iff h.toSh hw).2 (.inr ⟨u, hu, assoc3 h.assoc hs hx hu⟩)⟩
theorem preJ {t : List (List Int)} (h : Semi t) : Pre t.length (inJB t) where
  refl x hx := (inJB_iff h.toSh hx).2 ⟨x, hx, (preL h).refl x hx, (preR h).refl x hx⟩
  trans x y z hx hy hz h1 h2 := by
    rw [inJB_iff h.toSh hx] at h1 ⊢
    rw [inJB_iff h.toSh hy] at h2
    obtain ⟨a, ha, h3, h4⟩ := h1
    obtain ⟨b, hb, h5, h6⟩ := h2
    obtain ⟨c, hc, h7, h8⟩ := swap h ha h4 h5
    exact ⟨c, hc, (preL h).trans x a c hx ha hc h3 h7, (preR h).trans c b z hc hb hz h8 h6⟩
theorem inJ_lt {t : List (List Int)} (h : Sh t) {y x : Nat} (hy : y < t.length) (hx : inJB t y x = true) : x < t.length := by
  obtain ⟨z, hz, h1, h2⟩ := (inJB_iff h hy).1 hx
  exact inR_lt h hz h2

/-! ### The classes of a table -/

def classJ (t : List (List Int)) : List Int := clsL t.length (inJB t)
def numJ (t : List (List Int)) : Nat := classN (classJ t)
end Go.Proofs.Yteopelpnpdbbcaa
