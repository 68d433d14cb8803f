/- The Rees quotient is a semigroup with zero, and the map to it is a homomorphism: plain. -/
import Derived.Test.YteopelpnpdbbcaaQuotLaw
import Derived.Test.YteopelpnpdbbcaaLatLaw
namespace Go.Proofs.Yteopelpnpdbbcaa
open Go Go.AM

theorem nonTo_pos {t : List (List Int)} {l : List Int} {x : Nat} (hx : setI l x = false) : ∀ d, x + 1 + d ≤ t.length → (nonTo t l x).length < (nonTo t l (x + 1 + d)).length ∧ (nonTo t l (x + 1 + d)).getD (nonTo t l x).length 0 = (x : Int)
  | 0, h => by
    have e := nonTo_yes (t := t) (l := l) (k := x) (by omega) hx
    show _ < (nonTo t l (x + 1)).length ∧ (nonTo t l (x + 1)).getD _ 0 = _
    rw [e]; simp
  | d + 1, h => by
    have ih := nonTo_pos (t := t) hx d (by omega)
    show _ < (nonTo t l (x + 1 + d + 1)).length ∧ (nonTo t l (x + 1 + d + 1)).getD _ 0 = _
    cases hs : setI l (x + 1 + d) with
    | true => rw [nonTo_no (by omega) hs]; exact ih
    | false =>
      rw [nonTo_yes (by omega) hs]
      refine ⟨by rw [List.length_append]; omega, ?_⟩
      rw [← ih.2]; simp [List.getD, List.getElem?_append_left ih.1]
theorem nonTo_at {t : List (List Int)} {l : List Int} : ∀ k, k ≤ t.length → ∀ j, j < (nonTo t l k).length → ∃ e : Nat, (nonTo t l k).getD j 0 = (e : Int) ∧ e < k ∧ setI l e = false ∧ (nonTo t l e).length = j
  | 0, _, j, hj => absurd hj (by have := nonTo_len t l 0; omega)
  | k + 1, h, j, hj => by
    cases hs : setI l k with
    | true =>
      rw [nonTo_no (by omega) hs] at hj ⊢
      obtain ⟨e, h1, h2, h3⟩ := nonTo_at k (by omega) j hj
      exact ⟨e, h1, by omega, h3⟩
    | false =>
      rw [nonTo_yes (by omega) hs] at hj ⊢
      by_cases e1 : j < (nonTo t l k).length
      · obtain ⟨e, h1, h2, h3⟩ := nonTo_at k (by omega) j e1
        exact ⟨e, by rw [← h1]; simp [List.getD, List.getElem?_append_left e1], by omega, h3⟩
      · have e2 : j = (nonTo t l k).length := by rw [List.length_append, List.length_singleton] at hj; omega
        subst e2
        exact ⟨k, by simp, by omega, hs, rfl⟩
/-- The class of an element, the element of a class, the product of classes: as numbers. -/
def cN (t : List (List Int)) (l : List Int) (x : Nat) : Nat := if setI l x then 0 else (nonTo t l x).length + 1
def rN (t : List (List Int)) (l : List Int) (i : Nat) : Nat := ((restQ t l).getD i 0).toNat
theorem clsV_n (t : List (List Int)) (l : List Int) (x : Nat) : clsV t l x = (cN t l x : Int) := by unfold clsV cN; split <;> rfl
theorem cN_in {t : List (List Int)} {l : List Int} {x : Nat} (h : setI l x = true) : cN t l x = 0 := by unfold cN; rw [if_pos h]
theorem cN_pos {t : List (List Int)} {l : List Int} {x : Nat} (h : setI l x = false) : cN t l x = (nonTo t l x).length + 1 := by unfold cN; rw [if_neg (by simp [h])]
theorem cN_zero {t : List (List Int)} {l : List Int} {x : Nat} : cN t l x = 0 ↔ setI l x = true := by
  cases h : setI l x with
  | true => simp [cN_in h]
  | false => rw [cN_pos h]; simp
theorem rest_succ (t : List (List Int)) (l : List Int) (j : Nat) : (restQ t l).getD (j + 1) 0 = (nonTo t l t.length).getD j 0 := by simp [restQ, restTo]
theorem rest_length (t : List (List Int)) (l : List Int) : (restQ t l).length = (nonTo t l t.length).length + 1 := by simp [restQ, restTo]
/-- An element outside is the element of its class. -/
theorem cls_out {t : List (List Int)} {l : List Int} {x : Nat} (hx : x < t.length) (hs : setI l x = false) : cN t l x < (restQ t l).length ∧ rN t l (cN t l x) = x := by
  have h := nonTo_pos (t := t) hs (t.length - (x + 1)) (by omega)
  have e : x + 1 + (t.length - (x + 1)) = t.length := by omega
  rw [e] at h
  rw [cN_pos hs, rest_length]
  refine ⟨by omega, ?_⟩
  unfold rN; rw [rest_succ, h.2, Int.toNat_natCast]
theorem cN_lt {t : List (List Int)} {l : List Int} {x : Nat} (hx : x < t.length) : cN t l x < (restQ t l).length := by
  cases hs : setI l x with
  | true => rw [cN_in hs]; exact restQ_pos t l
  | false => exact (cls_out hx hs).1
theorem rN_lt {t : List (List Int)} {l : List Int} (hl : IdL t l) {i : Nat} (hi : i < (restQ t l).length) : rN t l i < t.length := by
  have := restQ_get hl hi
  unfold rN; omega
/-- The class of the element of a class. -/
theorem cls_rest {t : List (List Int)} {l : List Int} (hl : IdL t l) {i : Nat} (hi : i < (restQ t l).length) : cN t l (rN t l i) = i := by
  cases i with
  | zero => exact cN_in ((restQ_get hl hi).2.2.1 rfl)
  | succ j =>
    rw [rest_length] at hi
    obtain ⟨e, h1, h2, h3, h4⟩ := nonTo_at (t := t) (l := l) t.length (Nat.le_refl _) j (by omega)
    have h5 : rN t l (j + 1) = e := by unfold rN; rw [rest_succ, h1, Int.toNat_natCast]
    rw [h5, cN_pos h3, h4]
theorem memTo_not {n : Nat} (f : Nat → Bool) : ∀ k, k ≤ n → (memTo (setB n f) k).length + (memTo (setB n fun x => !f x) k).length = k
  | 0, _ => by simp [memTo]
  | k + 1, h => by
    have ih := memTo_not (n := n) f k (by omega)
    cases e : f k with
    | true => rw [memTo_yes (by rw [setB_get (by omega), e]), memTo_no (by rw [setB_get (by omega), e]; rfl), List.length_append, List.length_singleton]; omega
    | false => rw [memTo_no (by rw [setB_get (by omega), e]), memTo_yes (by rw [setB_get (by omega), e]; rfl), List.length_append, List.length_singleton]; omega
/-- How many classes there are. -/
theorem rest_count {t : List (List Int)} {l : List Int} (hl : IdL t l) : (restQ t l).length + l.length = t.length + 1 := by
  have h := memTo_not (n := t.length) (setI l) t.length (Nat.le_refl _)
  have e : (memTo (setB t.length (setI l)) t.length).length = l.length := by
    have := congrArg List.length hl.self
    unfold ascV memV at this
    rwa [setB_len] at this
  rw [rest_length]; unfold nonTo; omega
/-- What a set makes is an ideal. -/
theorem two_id {t : List (List Int)} (h : Semi t) {l : List Int} (hl : inT t l) (hp : 0 < l.length) : IdL t (ascV t.length (twoF t (setI l))) := by
  have hm := getD_mem (d := 0) hp
  have hr := hl _ hm
  refine idL_of h.toSh (fun x s hx hs hf => ?_) (x := (l.getD 0 0).toNat) (by omega) ?_
  · obtain ⟨y, hy, h1, h2⟩ := (twoF_iff h).1 hf
    have := inJ_mul h hy hs h2
    exact ⟨(twoF_iff h).2 ⟨y, hy, h1, this.1⟩, (twoF_iff h).2 ⟨y, hy, h1, this.2⟩⟩
  · exact (twoF_iff h).2 ⟨(l.getD 0 0).toNat, by omega, setI_iff.2 (by rw [Int.toNat_of_nonneg hr.1]; exact hm), (preJ h).refl _ (by omega)⟩
end Go.Proofs.Yteopelpnpdbbcaa
