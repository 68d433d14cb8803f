/- Zeros, 0-simple tables, minimal one-sided ideals by the kernel's list: plain. -/
import Derived.Test.YtdmfhcppdpcceaaGreatMinLaw
import Derived.Test.YtdmfhcppdpcceaaGreatCollLaw
namespace Go.Proofs.YtdmfhcppdpcceaaGreat
open Go Go.AM

/-- The least zero below k, or -1. -/
def zTo (t : List (List Int)) : Nat → Int
  | 0 => -1 | k + 1 => if 0 ≤ zTo t k then zTo t k else if isZ t k = true then (k : Int) else -1
def zeroI (t : List (List Int)) : Int := zTo t t.length
theorem zTo_no {t : List (List Int)} : ∀ {k : Nat}, (∀ z, z < k → isZ t z = false) → zTo t k = -1
  | 0, _ => rfl
  | k + 1, h => by
    rw [zTo, zTo_no (k := k) fun z hz => h z (by omega), if_neg (by omega), if_neg (by rw [h k (by omega)]; simp)]
theorem zTo_at {t : List (List Int)} {y : Nat} (h : ∀ z, z < y → isZ t z = false) (hy : isZ t y = true) : ∀ {k : Nat}, y < k → zTo t k = (y : Int)
  | 0, hk => by omega
  | k + 1, hk => by
    by_cases e : y = k
    · subst e; rw [zTo, zTo_no h, if_neg (by omega), if_pos hy]
    · rw [zTo, zTo_at h hy (k := k) (by omega), if_pos (by omega)]
theorem zTo_rng (t : List (List Int)) : ∀ k, -1 ≤ zTo t k ∧ zTo t k < (k : Int)
  | 0 => by simp [zTo]
  | k + 1 => by
    have := zTo_rng t k
    rw [zTo]; split
    · omega
    · split <;> omega
def someNZ (t : List (List Int)) : Bool := (List.range t.length).any fun x => (List.range t.length).any fun y => decide ((en t x y : Int) ≠ zeroI t)
theorem someNZ_yes {t : List (List Int)} {x y : Nat} (hx : x < t.length) (hy : y < t.length) (h : (en t x y : Int) ≠ zeroI t) : someNZ t = true :=
  List.any_eq_true.2 ⟨x, List.mem_range.2 hx, List.any_eq_true.2 ⟨y, List.mem_range.2 hy, decide_eq_true h⟩⟩
theorem someNZ_no {t : List (List Int)} (h : ∀ x y, x < t.length → y < t.length → (en t x y : Int) = zeroI t) : someNZ t = false := by
  rw [Bool.eq_false_iff]; intro hh
  obtain ⟨x, hx, hh⟩ := List.any_eq_true.1 hh
  obtain ⟨y, hy, hh⟩ := List.any_eq_true.1 hh
  exact of_decide_eq_true hh (h x y (List.mem_range.1 hx) (List.mem_range.1 hy))
def zsB (t : List (List Int)) : Bool := !decide (zeroI t < 0) && decide (numJ t = 2) && someNZ t

def stpM (t : List (List Int)) (F : (Nat → Bool) → Nat → Bool) (L : List (List Int)) (x : Int) : List (List Int) := if covB L x.toNat = true then L else L ++ [oneL t F x.toNat]
theorem stpM_yes {t : List (List Int)} {F : (Nat → Bool) → Nat → Bool} {L : List (List Int)} {x : Int} (h : covB L x.toNat = true) : stpM t F L x = L := by unfold stpM; rw [if_pos h]
theorem stpM_no {t : List (List Int)} {F : (Nat → Bool) → Nat → Bool} {L : List (List Int)} {x : Int} (h : covB L x.toNat = false) : stpM t F L x = L ++ [oneL t F x.toNat] := by unfold stpM; rw [if_neg (by simp [h])]
theorem mnL_fold (t : List (List Int)) (F : (Nat → Bool) → Nat → Bool) : ∀ k, k ≤ t.length → mnL t F k = (memTo (setB t.length (kerF t)) k).foldl (stpM t F) []
  | 0, _ => rfl
  | k + 1, hk => by
    have ih := mnL_fold t F k (by omega)
    have hg := setB_get (f := kerF t) (show k < t.length by omega)
    cases hker : kerF t k with
    | false => rw [mnL_no (Or.inl hker), memTo_no (by rw [hg, hker]), ih]
    | true =>
      rw [memTo_yes (by rw [hg, hker]), List.foldl_append, ← ih]
      show _ = stpM t F (mnL t F k) (k : Int)
      unfold stpM
      rw [Int.toNat_natCast]
      cases hc : covB (mnL t F k) k with
      | true => rw [if_pos rfl, mnL_no (Or.inr hc)]
      | false => rw [if_neg (by simp), mnL_yes hker hc]
theorem mnL_ker (t : List (List Int)) (F : (Nat → Bool) → Nat → Bool) : (ascV t.length (kerF t)).foldl (stpM t F) [] = mnL t F t.length := by
  rw [mnL_fold t F t.length (Nat.le_refl _)]; unfold ascV memV; rw [setB_len]
theorem stpM_len (t : List (List Int)) (F : (Nat → Bool) → Nat → Bool) : ∀ (l : List Int) (L : List (List Int)), (l.foldl (stpM t F) L).length ≤ L.length + l.length
  | [], L => by simp
  | x :: l, L => by
    have h := stpM_len t F l (stpM t F L x)
    have h2 : (stpM t F L x).length ≤ L.length + 1 := by unfold stpM; split <;> simp
    simp only [List.foldl_cons, List.length_cons]; omega
theorem all_len {n : Nat} {f : Nat → Bool} : (ascV n f).length = n ↔ ∀ x, x < n → f x = true := by
  constructor
  · intro h x hx
    cases hf : f x with
    | true => rfl
    | false =>
      exfalso
      have hs : ∀ k, k ≤ n → x < k → (memTo (setB n f) k).length < k := by
        intro k
        induction k with
        | zero => intro _ h; omega
        | succ k ih =>
          intro hk hxk
          by_cases e : x = k
          · subst e; rw [memTo_no (by rw [setB_get hx, hf])]; have := memTo_len (l := setB n f) (k := x); omega
          · have := ih (by omega) (by omega)
            cases hg : (setB n f).getD k false with
            | true => rw [memTo_yes hg, List.length_append, List.length_singleton]; omega
            | false => rw [memTo_no hg]; omega
      have := hs n (Nat.le_refl _) hx
      unfold ascV memV at h; rw [setB_len] at h; omega
  · intro h
    have hs : ∀ k, k ≤ n → (memTo (setB n f) k).length = k := by
      intro k
      induction k with
      | zero => intro _; rfl
      | succ k ih =>
        intro hk
        rw [memTo_yes (by rw [setB_get (by omega), h k (by omega)]), List.length_append, List.length_singleton, ih (by omega)]
    unfold ascV memV; rw [setB_len]; exact hs n (Nat.le_refl _)
end Go.Proofs.YtdmfhcppdpcceaaGreat
