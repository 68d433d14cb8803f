import Derived.Test.YteopelpnpdbbcaaRefPart
import Derived.Test.YteopelpnpdbbcaaGroup
import Derived.Test.YteopelpnpdbbcaaRefRees
/- Ideals of a table: plain. -/
namespace Go.Proofs.Yteopelpnpdbbcaa
open Go Go.AM
open Classical

/-- The elements of a list of numbers as a set. -/
def setI (l : List Int) (x : Nat) : Bool := l.contains (x : Int)
theorem setI_iff {l : List Int} {x : Nat} : setI l x = true ↔ (x : Int) ∈ l := List.contains_iff_mem

theorem setB_ofP {r : List Bool} {n : Nat} {f : Nat → Bool} (hl : r.length = n) (h : ∀ x, x < n → (r.getD x false = true ↔ f x = true)) : r = setB n f :=
  setB_of hl fun x hx => Bool.eq_iff_iff.2 (h x hx)

/-- Are all numbers elements? -/
def inT (t : List (List Int)) (l : List Int) : Prop := ∀ x ∈ l, 0 ≤ x ∧ x < (t.length : Int)
instance (t : List (List Int)) (l : List Int) : Decidable (inT t l) := by unfold inT; infer_instance

/-- A set of elements that is an ideal. -/
def IdF (t : List (List Int)) (f : Nat → Bool) : Prop := ∀ x s, x < t.length → s < t.length → f x = true → f (en t x s) = true ∧ f (en t s x) = true
/-- Strictly ascending. -/
def Asc (l : List Int) : Prop := ∀ i, i + 1 < l.length → l.getD i 0 < l.getD (i + 1) 0
/-- The list of an ideal. -/
def IdL (t : List (List Int)) (l : List Int) : Prop := 0 < l.length ∧ Asc l ∧ inT t l ∧ IdF t (setI l)

/-- The part of a list that was looked at ascends in the table. -/
structure AscTo (t : List (List Int)) (l : List Int) (i : Nat) : Prop where
  le : i ≤ l.length
  ins : ∀ j, j < i → 0 ≤ l.getD j 0 ∧ l.getD j 0 < (t.length : Int)
  asc : ∀ j, j + 1 < i → l.getD j 0 < l.getD (j + 1) 0
theorem AscTo.start {t : List (List Int)} {l : List Int} : AscTo t l 0 := ⟨Nat.zero_le _, fun j hj => absurd hj (Nat.not_lt_zero _), fun j hj => by omega⟩
theorem AscTo.next {t : List (List Int)} {l : List Int} {i : Nat} (h : AscTo t l i) (hi : i < l.length) (h1 : 0 ≤ l.getD i 0) (h2 : l.getD i 0 < (t.length : Int)) (h3 : 0 < i → l.getD (i - 1) 0 < l.getD i 0) : AscTo t l (i + 1) :=
  ⟨hi, fun j hj => by
    by_cases e : j = i
    · subst e; exact ⟨h1, h2⟩
    · exact h.ins j (by omega), fun j hj => by
    by_cases e : j + 1 = i
    · subst e; exact h3 (by omega)
    · exact h.asc j (by omega)⟩
theorem AscTo.done {t : List (List Int)} {l : List Int} {i : Nat} (h : AscTo t l i) (hi : l.length ≤ i) : Asc l ∧ inT t l := by
  have e : i = l.length := Nat.le_antisymm h.le hi
  subst e
  refine ⟨fun j hj => h.asc j hj, fun x hx => ?_⟩
  obtain ⟨j, hj, rfl⟩ := mem_getD 0 hx
  exact h.ins j hj

end Go.Proofs.Yteopelpnpdbbcaa
