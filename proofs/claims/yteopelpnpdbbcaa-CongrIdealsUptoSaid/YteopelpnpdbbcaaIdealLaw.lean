import Derived.Test.YteopelpnpdbbcaaRefPart
import Derived.Test.YteopelpnpdbbcaaGroup
import Derived.Test.YteopelpnpdbbcaaRefReg
/- Ideals of a table: plain. -/
namespace Go.Proofs.Yteopelpnpdbbcaa
open Go Go.AM
open Classical

/-- The unions of the sets S1 y, of the sets y S1, and of the sets S1 y S1, for the y of a set. -/
def lftF (t : List (List Int)) (g : Nat → Bool) (x : Nat) : Bool := (List.range t.length).any fun y => g y && inLB t y x
def rgtF (t : List (List Int)) (g : Nat → Bool) (x : Nat) : Bool := (List.range t.length).any fun y => g y && inRB t y x
def twoF (t : List (List Int)) (g : Nat → Bool) : Nat → Bool := lftF t (rgtF t g)

theorem lftF_iff {t : List (List Int)} {g : Nat → Bool} {x : Nat} : lftF t g x = true ↔ ∃ y, y < t.length ∧ g y = true ∧ inLB t y x = true := by
  unfold lftF
  rw [List.any_eq_true]
  constructor
  · rintro ⟨y, hy, h⟩
    rw [Bool.and_eq_true] at h
    exact ⟨y, List.mem_range.1 hy, h.1, h.2⟩
  · rintro ⟨y, hy, h1, h2⟩
    exact ⟨y, List.mem_range.2 hy, by rw [h1, h2]; rfl⟩
theorem rgtF_iff {t : List (List Int)} {g : Nat → Bool} {x : Nat} : rgtF t g x = true ↔ ∃ y, y < t.length ∧ g y = true ∧ inRB t y x = true := by
  unfold rgtF
  rw [List.any_eq_true]
  constructor
  · rintro ⟨y, hy, h⟩
    rw [Bool.and_eq_true] at h
    exact ⟨y, List.mem_range.1 hy, h.1, h.2⟩
  · rintro ⟨y, hy, h1, h2⟩
    exact ⟨y, List.mem_range.2 hy, by rw [h1, h2]; rfl⟩

/-- The elements of a list of numbers as a set. -/
def setI (l : List Int) (x : Nat) : Bool := l.contains (x : Int)
theorem setI_iff {l : List Int} {x : Nat} : setI l x = true ↔ (x : Int) ∈ l := List.contains_iff_mem

theorem memV_mem {l : List Bool} {x : Int} : x ∈ memV l ↔ ∃ i : Nat, i < l.length ∧ l.getD i false = true ∧ x = (i : Int) := by
  unfold memV memTo
  simp only [List.mem_map, List.mem_filter, List.mem_range]
  constructor
  · rintro ⟨i, ⟨h1, h2⟩, rfl⟩; exact ⟨i, h1, h2, rfl⟩
  · rintro ⟨i, h1, h2, rfl⟩; exact ⟨i, ⟨h1, h2⟩, rfl⟩

/-- A set as the ascending list of its elements. -/
def ascV (n : Nat) (f : Nat → Bool) : List Int := memV (setB n f)
theorem ascV_mem {n : Nat} {f : Nat → Bool} {x : Int} : x ∈ ascV n f ↔ ∃ i : Nat, i < n ∧ f i = true ∧ x = (i : Int) := by
  unfold ascV
  rw [memV_mem, setB_len]
  constructor
  · rintro ⟨i, h1, h2, h3⟩; rw [setB_get h1] at h2; exact ⟨i, h1, h2, h3⟩
  · rintro ⟨i, h1, h2, h3⟩; exact ⟨i, h1, by rw [setB_get h1]; exact h2, h3⟩
theorem ascV_set {n : Nat} {f : Nat → Bool} {x : Nat} (hx : x < n) : setI (ascV n f) x = f x := by
  cases h : f x with
  | true => exact setI_iff.2 (ascV_mem.2 ⟨x, hx, h, rfl⟩)
  | false =>
    rw [Bool.eq_false_iff]
    intro h'
    obtain ⟨i, _, h2, h3⟩ := ascV_mem.1 (setI_iff.1 h')
    have : i = x := by omega
    rw [this, h] at h2; cases h2

theorem set_iff {r : List Bool} {n i : Nat} {Q : Nat → Prop} (hl : r.length = n) (h : ∀ x, x < n → (r.getD x false = true ↔ Q x)) (hi : i < n) : (r.set i true).length = n ∧ ∀ x, x < n → ((r.set i true).getD x false = true ↔ (Q x ∨ x = i)) :=
  ⟨by rw [List.length_set]; exact hl, fun x hx => by
    by_cases e : x = i
    · subst e; rw [getD_set_eq (by omega)]; simp
    · rw [getD_set_ne (Ne.symm e), h x hx]; simp [e]⟩
theorem setB_ofP {r : List Bool} {n : Nat} {f : Nat → Bool} (hl : r.length = n) (h : ∀ x, x < n → (r.getD x false = true ↔ f x = true)) : r = setB n f :=
  setB_of hl fun x hx => Bool.eq_iff_iff.2 (h x hx)

/-- Are all numbers elements? -/
def inT (t : List (List Int)) (l : List Int) : Prop := ∀ x ∈ l, 0 ≤ x ∧ x < (t.length : Int)
instance (t : List (List Int)) (l : List Int) : Decidable (inT t l) := by unfold inT; infer_instance

/-- A set of elements that is an ideal. -/
def IdF (t : List (List Int)) (f : Nat → Bool) : Prop := ∀ x s, x < t.length → s < t.length → f x = true → f (en t x s) = true ∧ f (en t s x) = true
/-- Strictly ascending. -/
def Asc (l : List Int) : Prop := ∀ i, i + 1 < l.length → l.getD i 0 < l.getD (i + 1) 0
/-- The list of an ideal. -/
def IdL (t : List (List Int)) (l : List Int) : Prop := 0 < l.length ∧ Asc l ∧ inT t l ∧ IdF t (setI l)

noncomputable def idB (t : List (List Int)) (l : List Int) : Bool := decide (IdL t l)
theorem idB_true {t : List (List Int)} {l : List Int} : idB t l = true ↔ IdL t l := by unfold idB; exact decide_eq_true_iff
theorem idB_false {t : List (List Int)} {l : List Int} : idB t l = false ↔ ¬ IdL t l := by unfold idB; exact decide_eq_false_iff_not
/-- The part of a list that was looked at ascends in the table. -/
structure AscTo (t : List (List Int)) (l : List Int) (i : Nat) : Prop where
  le : i ≤ l.length
  ins : ∀ j, j < i → 0 ≤ l.getD j 0 ∧ l.getD j 0 < (t.length : Int)
  asc : ∀ j, j + 1 < i → l.getD j 0 < l.getD (j + 1) 0
theorem AscTo.start {t : List (List Int)} {l : List Int} : AscTo t l 0 := ⟨Nat.zero_le _, fun j hj => absurd hj (Nat.not_lt_zero _), fun j hj => by omega⟩
theorem AscTo.next {t : List (List Int)} {l : List Int} {i : Nat} (h : AscTo t l i) (hi : i < l.length) (h1 : 0 ≤ l.getD i 0) (h2 : l.getD i 0 < (t.length : Int)) (h3 : 0 < i → l.getD (i - 1) 0 < l.getD i 0) : AscTo t l (i + 1) :=
  ⟨hi, fun j hj => by
    by_cases e : j = i
    · subst e; exact ⟨h1, h2⟩
    · exact h.ins j (by omega), fun j hj => by
    by_cases e : j + 1 = i
    · subst e; exact h3 (by omega)
    · exact h.asc j (by omega)⟩
theorem AscTo.done {t : List (List Int)} {l : List Int} {i : Nat} (h : AscTo t l i) (hi : l.length ≤ i) : Asc l ∧ inT t l := by
  have e : i = l.length := Nat.le_antisymm h.le hi
  subst e
  refine ⟨fun j hj => h.asc j hj, fun x hx => ?_⟩
  obtain ⟨j, hj, rfl⟩ := mem_getD 0 hx
  exact h.ins j hj

theorem swap2 {t : List (List Int)} (h : Semi t) {x y z : Nat} (hx : x < t.length) (h1 : inLB t x y = true) (h2 : inRB t y z = true) : ∃ w, w < t.length ∧ inRB t x w = true ∧ inLB t w z = true := by
  have hy := inL_lt h.toSh hx h1
  rcases (inRB_iff h.toSh hy).1 h2 with rfl | ⟨s, hs, rfl⟩
  · exact ⟨x, hx, (inRB_iff h.toSh hx).2 (.inl rfl), h1⟩
  · rcases (inLB_iff h.toSh hx).1 h1 with rfl | ⟨r, hr, rfl⟩
    · exact ⟨en t y s, (h.toSh.ent hy hs).2, (inRB_iff h.toSh hy).2 (.inr ⟨s, hs, rfl⟩), (inLB_iff h.toSh (h.toSh.ent hy hs).2).2 (.inl rfl)⟩
    · have hw := (h.toSh.ent hx hs).2
      exact ⟨en t x s, hw, (inRB_iff h.toSh hx).2 (.inr ⟨s, hs, rfl⟩), (inLB_iff h.toSh hw).2 (.inr ⟨r, hr, (assoc3 h.assoc hr hx hs).symm⟩)⟩

theorem twoF_iff {t : List (List Int)} (h : Semi t) {g : Nat → Bool} {x : Nat} : twoF t g x = true ↔ ∃ y, y < t.length ∧ g y = true ∧ inJB t y x = true := by
  unfold twoF
  rw [lftF_iff]
  constructor
  · rintro ⟨y, hy, h1, h2⟩
    obtain ⟨z, hz, h3, h4⟩ := rgtF_iff.1 h1
    obtain ⟨w, hw, h5, h6⟩ := swap h hz h4 h2
    exact ⟨z, hz, h3, (inJB_iff h.toSh hz).2 ⟨w, hw, h5, h6⟩⟩
  · rintro ⟨y, hy, h1, h2⟩
    obtain ⟨z, hz, h3, h4⟩ := (inJB_iff h.toSh hy).1 h2
    obtain ⟨w, hw, h5, h6⟩ := swap2 h hy h3 h4
    exact ⟨w, hw, rgtF_iff.2 ⟨y, hy, h1, h5⟩, h6⟩

end Go.Proofs.Yteopelpnpdbbcaa
