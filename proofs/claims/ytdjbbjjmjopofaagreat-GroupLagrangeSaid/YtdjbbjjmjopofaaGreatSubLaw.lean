/- The table of a part that is closed: plain. -/
import Derived.Test.YtdjbbjjmjopofaaGreatLatLaw
namespace Go.Proofs.YtdjbbjjmjopofaaGreat
open Go Go.AM

/-- Where an element stands among the first k of a list; -1 if nowhere. -/
def posTo (l : List Int) : Nat → Nat → Int | 0, _ => -1 | k + 1, x => if l.getD k 0 = (x : Int) then (k : Int) else posTo l k x
theorem posTo_rng (l : List Int) : ∀ k x, -1 ≤ posTo l k x ∧ posTo l k x < k
  | 0, _ => by simp [posTo]
  | k + 1, x => by have := posTo_rng l k x; simp only [posTo]; split <;> omega
theorem posTo_in {l : List Int} {x : Nat} : ∀ {k : Nat}, (∃ j, j < k ∧ l.getD j 0 = (x : Int)) → 0 ≤ posTo l k x ∧ l.getD (posTo l k x).toNat 0 = (x : Int)
  | 0, ⟨j, hj, _⟩ => absurd hj (Nat.not_lt_zero _)
  | k + 1, ⟨j, hj, he⟩ => by
    simp only [posTo]
    by_cases e : l.getD k 0 = (x : Int)
    · rw [if_pos e, Int.toNat_natCast]; exact ⟨by omega, e⟩
    · rw [if_neg e]
      refine posTo_in ⟨j, ?_, he⟩
      rcases Nat.lt_or_ge j k with h | h
      · exact h
      · exact absurd (show l.getD k 0 = (x : Int) by rw [show k = j by omega]; exact he) e
theorem asc_inj {l : List Int} (h : Asc l) {i j : Nat} (hi : i < l.length) (hj : j < l.length) (he : l.getD i 0 = l.getD j 0) : i = j := by
  have hp := List.pairwise_iff_getElem.1 (pairwise_adj h)
  rw [getD_eq hi, getD_eq hj] at he
  rcases Nat.lt_trichotomy i j with h1 | h1 | h1
  · have := hp i j hi hj h1; omega
  · exact h1
  · have := hp j i hj hi h1; omega
/-- A part that is closed, as an ascending list. -/
structure ClL (t : List (List Int)) (l : List Int) : Prop where
  pos : 0 < l.length
  asc : Asc l
  ins : inT t l
  cl : ∀ x y, x < t.length → y < t.length → setI l x = true → setI l y = true → setI l (en t x y) = true
/-- The i-th element. -/
def eL (l : List Int) (i : Nat) : Nat := (l.getD i 0).toNat
theorem ClL.el {t : List (List Int)} {l : List Int} (h : ClL t l) {i : Nat} (hi : i < l.length) : eL l i < t.length ∧ l.getD i 0 = (eL l i : Int) ∧ setI l (eL l i) = true := by
  have hm := getD_mem (d := 0) hi
  have hr := h.ins _ hm
  unfold eL
  exact ⟨by omega, by omega, setI_iff.2 (by rw [Int.toNat_of_nonneg hr.1]; exact hm)⟩
def pL (l : List Int) (x : Nat) : Nat := (posTo l l.length x).toNat
theorem pL_in {l : List Int} {x : Nat} (h : setI l x = true) : posTo l l.length x = (pL l x : Int) ∧ pL l x < l.length ∧ eL l (pL l x) = x := by
  obtain ⟨j, hj, he⟩ := mem_getD 0 (setI_iff.1 h)
  have h1 := posTo_in (l := l) (x := x) ⟨j, hj, he.symm ▸ rfl⟩
  have h2 := posTo_rng l l.length x
  unfold pL eL
  refine ⟨by omega, by omega, ?_⟩
  rw [h1.2, Int.toNat_natCast]
theorem eL_inj {t : List (List Int)} {l : List Int} (h : ClL t l) {i j : Nat} (hi : i < l.length) (hj : j < l.length) (he : eL l i = eL l j) : i = j :=
  asc_inj h.asc hi hj (by rw [(h.el hi).2.1, (h.el hj).2.1, he])
theorem pL_el {t : List (List Int)} {l : List Int} (h : ClL t l) {i : Nat} (hi : i < l.length) : pL l (eL l i) = i := by
  have := pL_in (h.el hi).2.2
  exact eL_inj h this.2.1 hi this.2.2
def subV (t : List (List Int)) (l : List Int) (i j : Nat) : Int := posTo l l.length (en t (eL l i) (eL l j))
def subT (t : List (List Int)) (l : List Int) : List (List Int) := (List.range l.length).map fun i => (List.range l.length).map fun j => subV t l i j
theorem subT_len (t : List (List Int)) (l : List Int) : (subT t l).length = l.length := by simp [subT]
theorem subT_row {t : List (List Int)} {l : List Int} {i : Nat} (hi : i < l.length) : (subT t l).getD i [] = (List.range l.length).map fun j => subV t l i j := map_range_getD _ _ _ _ hi
theorem sub_in {t : List (List Int)} {l : List Int} (h : ClL t l) {i j : Nat} (hi : i < l.length) (hj : j < l.length) : setI l (en t (eL l i) (eL l j)) = true := h.cl _ _ (h.el hi).1 (h.el hj).1 (h.el hi).2.2 (h.el hj).2.2
theorem sub_en {t : List (List Int)} {l : List Int} (h : ClL t l) {i j : Nat} (hi : i < l.length) (hj : j < l.length) : en (subT t l) i j = pL l (en t (eL l i) (eL l j)) ∧ en (subT t l) i j < l.length ∧ eL l (en (subT t l) i j) = en t (eL l i) (eL l j) := by
  have hp := pL_in (sub_in h hi hj)
  have e : en (subT t l) i j = pL l (en t (eL l i) (eL l j)) := by
    unfold en; rw [subT_row hi, map_range_getD _ _ _ _ hj]; rfl
  rw [e]; exact ⟨rfl, hp.2⟩
theorem sub_semi {t : List (List Int)} (ht : Semi t) {l : List Int} (h : ClL t l) (hl : l.length ≤ t.length) : Semi (subT t l) where
  pos := by rw [subT_len]; exact h.pos
  most := by rw [subT_len]; have := ht.most; omega
  row := fun r hr => by
    obtain ⟨i, hi, rfl⟩ := mem_getD [] hr
    rw [subT_len] at hi ⊢
    rw [subT_row hi]
    refine ⟨by simp, fun x hx => ?_⟩
    obtain ⟨k, hk, rfl⟩ := List.mem_map.1 hx
    have := pL_in (sub_in h hi (List.mem_range.1 hk))
    unfold subV; omega
  assoc := fun g hg x y hx hy => by
    rw [subT_len] at hg hx hy
    have a := sub_en h hx hg
    have b := sub_en h hg hy
    have c := sub_en h a.2.1 hy
    have d := sub_en h hx b.2.1
    refine eL_inj h c.2.1 d.2.1 ?_
    rw [c.2.2, d.2.2, a.2.2, b.2.2]
    exact assoc3 ht.assoc (h.el hx).1 (h.el hg).1 (h.el hy).1
end Go.Proofs.YtdjbbjjmjopofaaGreat
