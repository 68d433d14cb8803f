import Derived.Test.YtdjbbjjmjopofaaGreatRefPart
import Derived.Test.YtdjbbjjmjopofaaGreatGroup
import Derived.Test.YtdjbbjjmjopofaaGreatRefReg
/- Ideals of a table: plain. -/
namespace Go.Proofs.YtdjbbjjmjopofaaGreat
open Go Go.AM
open Classical

/-- The elements of a list of numbers as a set. -/
def setI (l : List Int) (x : Nat) : Bool := l.contains (x : Int)
theorem setI_iff {l : List Int} {x : Nat} : setI l x = true ↔ (x : Int) ∈ l := List.contains_iff_mem

theorem memV_mem {l : List Bool} {x : Int} : x ∈ memV l ↔ ∃ i : Nat, i < l.length ∧ l.getD i false = true ∧ x = (i : Int) := by
  unfold memV memTo
  simp only [List.mem_map, List.mem_filter, List.mem_range]
  constructor
  · rintro ⟨i, ⟨h1, h2⟩, rfl⟩; exact ⟨i, h1, h2, rfl⟩
  · rintro ⟨i, h1, h2, rfl⟩; exact ⟨i, ⟨h1, h2⟩, rfl⟩

theorem setB_congr {n : Nat} {f g : Nat → Bool} (h : ∀ x, x < n → f x = g x) : setB n f = setB n g :=
  List.map_congr_left fun x hx => h x (List.mem_range.1 hx)

/-- A set as the ascending list of its elements. -/
def ascV (n : Nat) (f : Nat → Bool) : List Int := memV (setB n f)
theorem ascV_mem {n : Nat} {f : Nat → Bool} {x : Int} : x ∈ ascV n f ↔ ∃ i : Nat, i < n ∧ f i = true ∧ x = (i : Int) := by
  unfold ascV
  rw [memV_mem, setB_len]
  constructor
  · rintro ⟨i, h1, h2, h3⟩; rw [setB_get h1] at h2; exact ⟨i, h1, h2, h3⟩
  · rintro ⟨i, h1, h2, h3⟩; exact ⟨i, h1, by rw [setB_get h1]; exact h2, h3⟩
theorem ascV_congr {n : Nat} {f g : Nat → Bool} (h : ∀ x, x < n → f x = g x) : ascV n f = ascV n g := by unfold ascV; rw [setB_congr h]
theorem ascV_set {n : Nat} {f : Nat → Bool} {x : Nat} (hx : x < n) : setI (ascV n f) x = f x := by
  cases h : f x with
  | true => exact setI_iff.2 (ascV_mem.2 ⟨x, hx, h, rfl⟩)
  | false =>
    rw [Bool.eq_false_iff]
    intro h'
    obtain ⟨i, _, h2, h3⟩ := ascV_mem.1 (setI_iff.1 h')
    have : i = x := by omega
    rw [this, h] at h2; cases h2

theorem set_iff {r : List Bool} {n i : Nat} {Q : Nat → Prop} (hl : r.length = n) (h : ∀ x, x < n → (r.getD x false = true ↔ Q x)) (hi : i < n) : (r.set i true).length = n ∧ ∀ x, x < n → ((r.set i true).getD x false = true ↔ (Q x ∨ x = i)) :=
  ⟨by rw [List.length_set]; exact hl, fun x hx => by
    by_cases e : x = i
    · subst e; rw [getD_set_eq (by omega)]; simp
    · rw [getD_set_ne (Ne.symm e), h x hx]; simp [e]⟩
theorem setB_ofP {r : List Bool} {n : Nat} {f : Nat → Bool} (hl : r.length = n) (h : ∀ x, x < n → (r.getD x false = true ↔ f x = true)) : r = setB n f :=
  setB_of hl fun x hx => Bool.eq_iff_iff.2 (h x hx)

/-- Are all numbers elements? -/
def inT (t : List (List Int)) (l : List Int) : Prop := ∀ x ∈ l, 0 ≤ x ∧ x < (t.length : Int)
instance (t : List (List Int)) (l : List Int) : Decidable (inT t l) := by unfold inT; infer_instance

/-- A set of elements that is an ideal. -/
def IdF (t : List (List Int)) (f : Nat → Bool) : Prop := ∀ x s, x < t.length → s < t.length → f x = true → f (en t x s) = true ∧ f (en t s x) = true
/-- Strictly ascending. -/
def Asc (l : List Int) : Prop := ∀ i, i + 1 < l.length → l.getD i 0 < l.getD (i + 1) 0
/-- The list of an ideal. -/
def IdL (t : List (List Int)) (l : List Int) : Prop := 0 < l.length ∧ Asc l ∧ inT t l ∧ IdF t (setI l)

noncomputable def ascB (t : List (List Int)) (l : List Int) : Bool := decide (0 < l.length ∧ Asc l ∧ inT t l)
theorem ascB_true {t : List (List Int)} {l : List Int} : ascB t l = true ↔ 0 < l.length ∧ Asc l ∧ inT t l := by unfold ascB; exact decide_eq_true_iff
theorem ascB_false {t : List (List Int)} {l : List Int} : ascB t l = false ↔ ¬ (0 < l.length ∧ Asc l ∧ inT t l) := by unfold ascB; exact decide_eq_false_iff_not

/-- The part of a list that was looked at ascends in the table. -/
structure AscTo (t : List (List Int)) (l : List Int) (i : Nat) : Prop where
  le : i ≤ l.length
  ins : ∀ j, j < i → 0 ≤ l.getD j 0 ∧ l.getD j 0 < (t.length : Int)
  asc : ∀ j, j + 1 < i → l.getD j 0 < l.getD (j + 1) 0
theorem AscTo.start {t : List (List Int)} {l : List Int} : AscTo t l 0 := ⟨Nat.zero_le _, fun j hj => absurd hj (Nat.not_lt_zero _), fun j hj => by omega⟩
theorem AscTo.next {t : List (List Int)} {l : List Int} {i : Nat} (h : AscTo t l i) (hi : i < l.length) (h1 : 0 ≤ l.getD i 0) (h2 : l.getD i 0 < (t.length : Int)) (h3 : 0 < i → l.getD (i - 1) 0 < l.getD i 0) : AscTo t l (i + 1) :=
  ⟨hi, fun j hj => by
    by_cases e : j = i
    · subst e; exact ⟨h1, h2⟩
    · exact h.ins j (by omega), fun j hj => by
    by_cases e : j + 1 = i
    · subst e; exact h3 (by omega)
    · exact h.asc j (by omega)⟩
theorem AscTo.done {t : List (List Int)} {l : List Int} {i : Nat} (h : AscTo t l i) (hi : l.length ≤ i) : Asc l ∧ inT t l := by
  have e : i = l.length := Nat.le_antisymm h.le hi
  subst e
  refine ⟨fun j hj => h.asc j hj, fun x hx => ?_⟩
  obtain ⟨j, hj, rfl⟩ := mem_getD 0 hx
  exact h.ins j hj

end Go.Proofs.YtdjbbjjmjopofaaGreat
