/- Package green: its contracts (ideals as words, Classes, Regular). -/
import Derived.Test.YtdjbbjjmjopofaaGreatPart
import Derived.Test.YtdjbbjjmjopofaaGreatGreenLaw
import Derived.Test.YtdjbbjjmjopofaaGreatMult
import Derived.Test.YtdjbbjjmjopofaaGreatReesLaw
namespace Go.Proofs.YtdjbbjjmjopofaaGreat
open Go Go.AM
set_option maxRecDepth 100000

/-- What the loops over the elements keep. -/
def IdUpTo (n k : Nat) (e : Nat → Nat → Bool) (I : List (List Int)) : Prop := I.length = n ∧ ∀ y, y < k → ((I.getD y []).length = (n + 63) / 64 ∧ wordsOk (I.getD y [])) ∧ ∀ x, x < n → bit (I.getD y []) x = e y x
/-- One set of them, of which the members are put in one by one. -/
def WdIs (n : Nat) (f : Nat → Bool) (ws : List Int) : Prop := (ws.length = (n + 63) / 64 ∧ wordsOk ws) ∧ ∀ x, x < n → bit ws x = f x

theorem WdIs.zero (n : Nat) : WdIs n (fun _ => false) (List.replicate ((n + 63) / 64) 0) := ⟨⟨by simp, zero_ok _⟩, fun x _ => zero_bit _ x⟩
theorem WdIs.congr {n : Nat} {f g : Nat → Bool} {ws : List Int} (h : WdIs n f ws) (hfg : ∀ x, x < n → f x = g x) : WdIs n g ws := ⟨h.1, fun x hx => (h.2 x hx).trans (hfg x hx)⟩
theorem WdIs.word {n : Nat} {f : Nat → Bool} {ws : List Int} (h : WdIs n f ws) {x : Nat} (hx : x < n) : x / 64 < ws.length := by rw [h.1.1]; omega
theorem WdIs.add {n : Nat} {f : Nat → Bool} {ws : List Int} (h : WdIs n f ws) {x : Nat} (hx : x < n) (hn : n ≤ 100000) : WdIs n (fun y => f y || decide (y = x)) (addW ws x) :=
  ⟨⟨by rw [addW_len]; exact h.1.1, addW_ok h.1.2 (h.word hx) (by omega)⟩, fun y hy => by rw [addW_bit h.1.2 (h.word hx) (by omega), h.2 y hy]⟩
theorem IdUpTo.start (n : Nat) (e : Nat → Nat → Bool) : IdUpTo n 0 e (List.replicate n []) := ⟨by simp, fun y hy => absurd hy (Nat.not_lt_zero _)⟩
theorem IdUpTo.next {n k : Nat} {e : Nat → Nat → Bool} {I : List (List Int)} {ws : List Int} (h : IdUpTo n k e I) (hk : k < n) (hw : WdIs n (e k) ws) : IdUpTo n (k + 1) e (I.set k ws) := by
  refine ⟨by rw [List.length_set]; exact h.1, fun y hy => ?_⟩
  by_cases hyk : y = k
  · subst hyk; rw [getD_set_eq (by rw [h.1]; exact hk)]; exact hw
  · rw [getD_set_ne (Ne.symm hyk)]; exact h.2 y (by omega)
theorem IdUpTo.done {n k : Nat} {e : Nat → Nat → Bool} {I : List (List Int)} (h : IdUpTo n k e I) (hk : n ≤ k) : IdR n e I := ⟨h.1, fun y hy => (h.2 y (by omega)).1, fun y x hy hx => (h.2 y (by omega)).2 x hx⟩
end Go.Proofs.YtdjbbjjmjopofaaGreat
