/- Minimal one-sided ideals: plain. -/
import Derived.Test.YtfoemneboalddaaLatLaw
namespace Go.Proofs.Ytfoemneboalddaa
open Go Go.AM

/-- The one-sided ideal of an element. -/
def oneL (t : List (List Int)) (F : (Nat → Bool) → Nat → Bool) (x : Nat) : List Int := ascV t.length (F (setI [(x : Int)]))
/-- What the first x elements of the kernel make, each that is not yet covered. -/
def mnL (t : List (List Int)) (F : (Nat → Bool) → Nat → Bool) : Nat → List (List Int)
  | 0 => []
  | x + 1 => if kerF t x && !(mnL t F x).any (fun l => setI l x) then mnL t F x ++ [oneL t F x] else mnL t F x
def covB (L : List (List Int)) (x : Nat) : Bool := L.any fun l => setI l x
theorem mnL_yes {t : List (List Int)} {F : (Nat → Bool) → Nat → Bool} {x : Nat} (h1 : kerF t x = true) (h2 : covB (mnL t F x) x = false) : mnL t F (x + 1) = mnL t F x ++ [oneL t F x] := by
  unfold covB at h2
  simp only [mnL]; rw [h1, h2]; rfl
theorem mnL_no {t : List (List Int)} {F : (Nat → Bool) → Nat → Bool} {x : Nat} (h : kerF t x = false ∨ covB (mnL t F x) x = true) : mnL t F (x + 1) = mnL t F x := by
  simp only [mnL]
  rcases h with h | h
  · rw [h]; rfl
  · unfold covB at h; rw [h, if_neg (by simp)]
theorem mnL_len (t : List (List Int)) (F : (Nat → Bool) → Nat → Bool) : ∀ x, (mnL t F x).length ≤ x
  | 0 => Nat.le_refl _
  | x + 1 => by
    have := mnL_len t F x
    simp only [mnL]; split <;> simp <;> omega
theorem covB_snoc (L : List (List Int)) (l : List Int) (x : Nat) : covB (L ++ [l]) x = (covB L x || setI l x) := by unfold covB; rw [List.any_append]; simp
end Go.Proofs.Ytfoemneboalddaa
