import Derived.Test.YteopelpnpdbbcaaPartLaw
import Derived.Test.YteopelpnpdbbcaaBase
import Derived.Test.YteopelpnpdbbcaaTab
/- Green's relations of a table: the ideals of its elements and their classes. Plain; no program. -/
namespace Go.Proofs.Yteopelpnpdbbcaa
open Go Go.AM

/-- Is x in the right (left, two-sided) ideal of y? -/
def inRB (t : List (List Int)) (y x : Nat) : Bool := decide (x = y) || (t.getD y []).contains (x : Int)
def inLB (t : List (List Int)) (y x : Nat) : Bool := decide (x = y) || t.any fun row => row.getD y 0 == (x : Int)
def inJB (t : List (List Int)) (y x : Nat) : Bool := (List.range t.length).any fun z => inLB t y z && inRB t z x

/-- The least member that x is mutual with. -/
def rep (e : Nat → Nat → Bool) (x : Nat) : Nat := ((List.range x).find? fun y => e x y && e y x).getD x
def repsL (n : Nat) (e : Nat → Nat → Bool) : List Int := (List.range n).map fun x => ((rep e x : Nat) : Int)

theorem rep_of {e : Nat → Nat → Bool} {x y : Nat} (hy : y < x) (h : (e x y && e y x) = true) (hn : ∀ z, z < y → (e x z && e z x) = false) : rep e x = y := by
  unfold rep
  have : (List.range x).find? (fun y => e x y && e y x) = some y := by
    rw [List.find?_range_eq_some]
    exact ⟨h, by rw [List.mem_range]; exact hy, fun z hz => by show (!_) = true; rw [hn z hz]; rfl⟩
  rw [this]; rfl
theorem rep_none {e : Nat → Nat → Bool} {x : Nat} (h : ∀ y, y < x → (e x y && e y x) = false) : rep e x = x := by
  unfold rep
  have : (List.range x).find? (fun y => e x y && e y x) = none := by
    rw [List.find?_range_eq_none]
    exact fun y hy => by show (!_) = true; rw [h y hy]; rfl
  rw [this]; rfl
theorem rep_cases (e : Nat → Nat → Bool) (x : Nat) : (rep e x = x ∧ ∀ y, y < x → (e x y && e y x) = false) ∨ (rep e x < x ∧ (e x (rep e x) && e (rep e x) x) = true ∧ ∀ y, y < rep e x → (e x y && e y x) = false) := by
  by_cases h : ∀ y, y < x → (e x y && e y x) = false
  · exact .inl ⟨rep_none h, h⟩
  · have : ∃ y, y < x ∧ (e x y && e y x) = true := by
      apply Classical.byContradiction
      intro hn
      exact h fun y hy => by
        cases hb : (e x y && e y x) with
        | false => rfl
        | true => exact absurd ⟨y, hy, hb⟩ hn
    -- the least one
    have least : ∀ n, (∃ y, y < n ∧ y < x ∧ (e x y && e y x) = true) → ∃ y, y < x ∧ (e x y && e y x) = true ∧ ∀ z, z < y → (e x z && e z x) = false := by
      intro n
      induction n with
      | zero => rintro ⟨y, hy, _⟩; exact absurd hy (Nat.not_lt_zero _)
      | succ n ih =>
        rintro ⟨y, hy, hyx, hb⟩
        by_cases hl : ∃ z, z < n ∧ z < x ∧ (e x z && e z x) = true
        · exact ih hl
        · refine ⟨y, hyx, hb, fun z hz => ?_⟩
          cases hzb : (e x z && e z x) with
          | false => rfl
          | true => exact absurd ⟨z, by omega, by omega, hzb⟩ hl
    obtain ⟨y, hy, hb⟩ := this
    obtain ⟨y, h1, h2, h3⟩ := least (y + 1) ⟨y, Nat.lt_succ_self _, hy, hb⟩
    have := rep_of h1 h2 h3
    exact .inr (by rw [this]; exact ⟨h1, h2, h3⟩)

theorem repsL_len (n : Nat) (e : Nat → Nat → Bool) : (repsL n e).length = n := by simp [repsL]
theorem repsL_get {n : Nat} {e : Nat → Nat → Bool} {x : Nat} (hx : x < n) : (repsL n e).getD x 0 = ((rep e x : Nat) : Int) := by
  simp only [repsL, List.getD, List.getElem?_map, List.getElem?_range hx, Option.map_some, Option.getD_some]

/-- A relation of ideals: reflexive and transitive. -/
structure Pre (n : Nat) (e : Nat → Nat → Bool) : Prop where
  refl : ∀ x, x < n → e x x = true
  trans : ∀ x y z, x < n → y < n → z < n → e x y = true → e y z = true → e x z = true

/-- Mutual ones have one representative. -/
theorem rep_iff {n : Nat} {e : Nat → Nat → Bool} (h : Pre n e) {x y : Nat} (hx : x < n) (hy : y < n) : rep e x = rep e y ↔ (e x y = true ∧ e y x = true) := by
  have muty : ∀ x, x < n → rep e x < n ∧ e x (rep e x) = true ∧ e (rep e x) x = true := fun x hx => by
    rcases rep_cases e x with ⟨h1, _⟩ | ⟨h1, h2, _⟩
    · rw [h1]; exact ⟨hx, h.refl x hx, h.refl x hx⟩
    · rw [Bool.and_eq_true] at h2; exact ⟨by omega, h2.1, h2.2⟩
  have least : ∀ x z, x < n → z < n → e x z = true → e z x = true → rep e x ≤ z := fun x z hx hz h1 h2 => by
    rcases rep_cases e x with ⟨g1, g2⟩ | ⟨g1, _, g2⟩
    · rw [g1]
      apply Nat.le_of_not_lt
      intro hlt
      have := g2 z hlt
      rw [h1, h2] at this; cases this
    · apply Nat.le_of_not_lt
      intro hlt
      have := g2 z hlt
      rw [h1, h2] at this; cases this
  obtain ⟨a1, a2, a3⟩ := muty x hx
  obtain ⟨b1, b2, b3⟩ := muty y hy
  constructor
  · intro he
    exact ⟨h.trans x (rep e x) y hx a1 hy a2 (he ▸ b3), h.trans y (rep e x) x hy a1 hx (he ▸ b2) a3⟩
  · rintro ⟨h1, h2⟩
    apply Nat.le_antisymm
    · exact least x (rep e y) hx b1 (h.trans x y _ hx hy b1 h1 b2) (h.trans _ y x b1 hy hx b3 h2)
    · exact least y (rep e x) hy a1 (h.trans y x _ hy hx a1 h2 a2) (h.trans _ x y a1 hx hy a3 h1)

/-- The numbers of the classes. -/
def clsL (n : Nat) (e : Nat → Nat → Bool) : List Int := canon (repsL n e)
theorem clsL_len (n : Nat) (e : Nat → Nat → Bool) : (clsL n e).length = n := by rw [clsL, canon_length, repsL_len]
theorem clsL_iff {n : Nat} {e : Nat → Nat → Bool} (h : Pre n e) {x y : Nat} (hx : x < n) (hy : y < n) : (clsL n e).getD x 0 = (clsL n e).getD y 0 ↔ (e x y = true ∧ e y x = true) := by
  rw [clsL, canon_eq_iff (d := 0) (by rw [repsL_len]; exact hx) (by rw [repsL_len]; exact hy), repsL_get hx, repsL_get hy, ← rep_iff h hx hy]
  exact Int.ofNat_inj
/-! ### In a semigroup -/

/-! ### The classes of a table -/

def classJ (t : List (List Int)) : List Int := clsL t.length (inJB t)
def numJ (t : List (List Int)) : Nat := classN (classJ t)
end Go.Proofs.Yteopelpnpdbbcaa
