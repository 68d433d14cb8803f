/- Rees matrix semigroups, in plain words: nothing of the program stands here. -/
import Derived.Test.YteopelpnpdbbcaaTab
namespace Go.Proofs.Yteopelpnpdbbcaa
open Classical

def rowsOk (n : Nat) (R : Int) (P : List (List Int)) (z : Bool) : Prop := ∀ row ∈ P, (row.length : Int) = R ∧ ∀ g ∈ row, -1 ≤ g ∧ g < n ∧ (g < 0 → z = true)

structure Shaped (G : List (List Int)) (R C : Int) (P : List (List Int)) (z : Bool) : Prop where
  r : 1 ≤ R
  c : 1 ≤ C
  p : (P.length : Int) = C
  rows : rowsOk G.length R P z

def zI (z : Bool) : Int := if z then 1 else 0
/-- The number of elements. -/
def sizeI (n R C : Int) (z : Bool) : Int := n * R * C + zI z

structure Rees (G : List (List Int)) (R C : Int) (P : List (List Int)) (z : Bool) : Prop where
  grp : Grp G
  sh : Shaped G R C P z
  small : sizeI G.length R C z ≤ 400

theorem z_cases (z : Bool) : zI z = 0 ∨ zI z = 1 := by cases z <;> simp [zI]

/-- The parts of a valid one are small. -/
theorem Rees.le {G : List (List Int)} {R C : Int} {P : List (List Int)} {z : Bool} (h : Rees G R C P z) :
    1 ≤ (G.length : Int) ∧ (G.length : Int) ≤ 400 ∧ 1 ≤ R ∧ R ≤ 400 ∧ 1 ≤ C ∧ C ≤ 400 ∧ G.length * R ≤ 400 ∧ R * C ≤ 400 ∧ G.length * C ≤ 400 ∧ G.length * R * C ≤ 400 := by
  have hp := h.grp.pos
  have hr := h.sh.r
  have hc := h.sh.c
  have hs := h.small
  unfold sizeI at hs
  have hz := z_cases z
  have h1 : G.length * R * C ≤ 400 := by omega
  have hn : 1 ≤ (G.length : Int) := by omega
  have a1 : 0 ≤ (G.length : Int) * R := Int.mul_nonneg (by omega) (by omega)
  have a2 : (G.length : Int) * R ≤ G.length * R * C := by
    have := Int.mul_le_mul_of_nonneg_left hc a1
    rw [Int.mul_one] at this; exact this
  have a3 : (G.length : Int) ≤ G.length * R := by
    have := Int.mul_le_mul_of_nonneg_left hr (show 0 ≤ (G.length : Int) by omega)
    rw [Int.mul_one] at this; exact this
  have a4 : R ≤ G.length * R := by
    have := Int.mul_le_mul_of_nonneg_right hn (show 0 ≤ R by omega)
    rw [Int.one_mul] at this; exact this
  have a5 : R * C ≤ G.length * R * C := by
    have := Int.mul_le_mul_of_nonneg_right a4 (show 0 ≤ C by omega)
    exact this
  have a6 : C ≤ R * C := by
    have := Int.mul_le_mul_of_nonneg_right hr (show 0 ≤ C by omega)
    rw [Int.one_mul] at this; exact this
  have a7 : G.length * C ≤ G.length * R * C := by
    have := Int.mul_le_mul_of_nonneg_right a3 (show 0 ≤ C by omega)
    exact this
  exact ⟨hn, by omega, hr, by omega, hc, by omega, by omega, by omega, by omega, h1⟩

theorem map_range_getD {α : Type} (f : Nat → α) (n i : Nat) (d : α) (h : i < n) : ((List.range n).map f).getD i d = f i := by
  simp [List.getD, h]

theorem take_snoc {α : Type} {l : List α} {i : Nat} {d : α} (h : i < l.length) : l.take (i + 1) = l.take i ++ [l.getD i d] := by
  rw [List.take_succ_eq_append_getElem h]; simp [List.getD, h]
theorem ext_getD {α : Type} {l m : List α} (d : α) (hl : l.length = m.length) (h : ∀ i, i < l.length → l.getD i d = m.getD i d) : l = m := by
  refine List.ext_getElem hl fun i h1 h2 => ?_
  have := h i h1
  simpa [List.getD, h1, h2] using this
end Go.Proofs.Yteopelpnpdbbcaa
