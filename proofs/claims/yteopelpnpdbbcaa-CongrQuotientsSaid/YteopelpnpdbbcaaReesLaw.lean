/- Rees matrix semigroups, in plain words: nothing of the program stands here. -/
import Derived.Test.YteopelpnpdbbcaaTab
namespace Go.Proofs.Yteopelpnpdbbcaa
open Classical

def rowsOk (n : Nat) (R : Int) (P : List (List Int)) (z : Bool) : Prop := ∀ row ∈ P, (row.length : Int) = R ∧ ∀ g ∈ row, -1 ≤ g ∧ g < n ∧ (g < 0 → z = true)

structure Shaped (G : List (List Int)) (R C : Int) (P : List (List Int)) (z : Bool) : Prop where
  r : 1 ≤ R
  c : 1 ≤ C
  p : (P.length : Int) = C
  rows : rowsOk G.length R P z

noncomputable def shapedB (G : List (List Int)) (R C : Int) (P : List (List Int)) (z : Bool) : Bool := decide (Shaped G R C P z)
theorem shapedB_true {G : List (List Int)} {R C : Int} {P : List (List Int)} {z : Bool} : shapedB G R C P z = true ↔ Shaped G R C P z := by unfold shapedB; exact decide_eq_true_iff
theorem shapedB_false {G : List (List Int)} {R C : Int} {P : List (List Int)} {z : Bool} : shapedB G R C P z = false ↔ ¬ Shaped G R C P z := by unfold shapedB; exact decide_eq_false_iff_not

def zI (z : Bool) : Int := if z then 1 else 0
/-- The number of elements. -/
def sizeI (n R C : Int) (z : Bool) : Int := n * R * C + zI z

noncomputable def reesV (G : List (List Int)) (R C : Int) (P : List (List Int)) (z : Bool) : Int :=
  if Grp G ∧ Shaped G R C P z then (if 400 < sizeI G.length R C z then 3 else 0) else 4

structure Rees (G : List (List Int)) (R C : Int) (P : List (List Int)) (z : Bool) : Prop where
  grp : Grp G
  sh : Shaped G R C P z
  small : sizeI G.length R C z ≤ 400

theorem rees_zero {G : List (List Int)} {R C : Int} {P : List (List Int)} {z : Bool} : reesV G R C P z = 0 ↔ Rees G R C P z := by
  unfold reesV
  split
  · rename_i h
    split
    · rename_i h2; exact ⟨fun h => by omega, fun h' => absurd h'.small (by omega)⟩
    · rename_i h2; exact ⟨fun _ => ⟨h.1, h.2, by omega⟩, fun _ => rfl⟩
  · rename_i h; exact ⟨fun h => by omega, fun h' => absurd ⟨h'.grp, h'.sh⟩ h⟩

theorem z_cases (z : Bool) : zI z = 0 ∨ zI z = 1 := by cases z <;> simp [zI]

/-- The parts of a valid one are small. -/
theorem Rees.le {G : List (List Int)} {R C : Int} {P : List (List Int)} {z : Bool} (h : Rees G R C P z) :
    1 ≤ (G.length : Int) ∧ (G.length : Int) ≤ 400 ∧ 1 ≤ R ∧ R ≤ 400 ∧ 1 ≤ C ∧ C ≤ 400 ∧ G.length * R ≤ 400 ∧ R * C ≤ 400 ∧ G.length * C ≤ 400 ∧ G.length * R * C ≤ 400 := by
  have hp := h.grp.pos
  have hr := h.sh.r
  have hc := h.sh.c
  have hs := h.small
  unfold sizeI at hs
  have hz := z_cases z
  have h1 : G.length * R * C ≤ 400 := by omega
  have hn : 1 ≤ (G.length : Int) := by omega
  have a1 : 0 ≤ (G.length : Int) * R := Int.mul_nonneg (by omega) (by omega)
  have a2 : (G.length : Int) * R ≤ G.length * R * C := by
    have := Int.mul_le_mul_of_nonneg_left hc a1
    rw [Int.mul_one] at this; exact this
  have a3 : (G.length : Int) ≤ G.length * R := by
    have := Int.mul_le_mul_of_nonneg_left hr (show 0 ≤ (G.length : Int) by omega)
    rw [Int.mul_one] at this; exact this
  have a4 : R ≤ G.length * R := by
    have := Int.mul_le_mul_of_nonneg_right hn (show 0 ≤ R by omega)
    rw [Int.one_mul] at this; exact this
  have a5 : R * C ≤ G.length * R * C := by
    have := Int.mul_le_mul_of_nonneg_right a4 (show 0 ≤ C by omega)
    exact this
  have a6 : C ≤ R * C := by
    have := Int.mul_le_mul_of_nonneg_right hr (show 0 ≤ C by omega)
    rw [Int.one_mul] at this; exact this
  have a7 : G.length * C ≤ G.length * R * C := by
    have := Int.mul_le_mul_of_nonneg_right a3 (show 0 ≤ C by omega)
    exact this
  exact ⟨hn, by omega, hr, by omega, hc, by omega, by omega, by omega, by omega, h1⟩

/-- The number of a triple. -/
def numI (n C : Int) (z : Bool) (i g l : Int) : Int := (i * n + g) * C + l + zI z

/-- A product, of elements. -/
def mulI (G : List (List Int)) (C : Int) (P : List (List Int)) (z : Bool) (x y : Int) : Int :=
  if x - zI z < 0 ∨ y - zI z < 0 then 0 else
    if (P.getD ((x - zI z) % C).toNat []).getD ((y - zI z) / C / G.length).toNat 0 < 0 then 0 else
    numI G.length C z ((x - zI z) / C / G.length)
      ((G.getD ((G.getD ((x - zI z) / C % G.length).toNat []).getD ((P.getD ((x - zI z) % C).toNat []).getD ((y - zI z) / C / G.length).toNat 0).toNat 0).toNat []).getD ((y - zI z) / C % G.length).toNat 0)
      ((y - zI z) % C)

/-- An element's coordinates are what they should be. -/
theorem coord {n R C : Int} {z : Bool} {x : Int} (hn : 1 ≤ n) (_hR : 1 ≤ R) (hC : 1 ≤ C) (h0 : 0 ≤ x - zI z) (hx : x < sizeI n R C z) :
    0 ≤ (x - zI z) / C / n ∧ (x - zI z) / C / n < R ∧ 0 ≤ (x - zI z) / C % n ∧ (x - zI z) / C % n < n ∧ 0 ≤ (x - zI z) % C ∧ (x - zI z) % C < C := by
  have h1 : 0 ≤ (x - zI z) / C := Int.ediv_nonneg h0 (by omega)
  have h2 : (x - zI z) / C < n * R := by
    refine Int.ediv_lt_of_lt_mul (by omega) ?_
    unfold sizeI at hx
    omega
  refine ⟨Int.ediv_nonneg h1 (by omega), ?_, Int.emod_nonneg _ (by omega), Int.emod_lt_of_pos _ (by omega), Int.emod_nonneg _ (by omega), Int.emod_lt_of_pos _ (by omega)⟩
  refine Int.ediv_lt_of_lt_mul (by omega) ?_
  rw [Int.mul_comm]; exact h2

theorem num_lt {n R C : Int} {z : Bool} {i g l : Int} (hn : 1 ≤ n) (hC : 1 ≤ C) (hi : 0 ≤ i ∧ i < R) (hg : 0 ≤ g ∧ g < n) (hl : 0 ≤ l ∧ l < C) : zI z ≤ numI n C z i g l ∧ numI n C z i g l < sizeI n R C z := by
  unfold numI sizeI
  have a1 : 0 ≤ i * n := Int.mul_nonneg hi.1 (by omega)
  have a2 : 0 ≤ (i * n + g) * C := Int.mul_nonneg (by omega) (by omega)
  have a3 : i * n + n ≤ n * R := by
    have := Int.mul_le_mul_of_nonneg_left (show i + 1 ≤ R by omega) (show 0 ≤ n by omega)
    rw [Int.mul_add, Int.mul_one, Int.mul_comm n i] at this
    exact this
  have a4 : (i * n + g + 1) * C ≤ n * R * C := Int.mul_le_mul_of_nonneg_right (by omega) (by omega)
  rw [Int.add_mul, Int.one_mul] at a4
  omega

theorem Rees.pent {G : List (List Int)} {R C : Int} {P : List (List Int)} {z : Bool} (h : Rees G R C P z) {l i : Nat} (hl : (l : Int) < C) (hi : (i : Int) < R) :
    l < P.length ∧ i < (P.getD l []).length ∧ -1 ≤ (P.getD l []).getD i 0 ∧ (P.getD l []).getD i 0 < G.length := by
  have hp := h.sh.p
  have hlp : l < P.length := by omega
  have hm : P.getD l [] ∈ P := mem_of_getD hlp
  obtain ⟨h1, h2⟩ := h.sh.rows _ hm
  have hil : i < (P.getD l []).length := by omega
  have := h2 _ (mem_of_getD (d := 0) hil)
  exact ⟨hlp, hil, this.1, this.2.1⟩

/-- The product of two elements is one. -/
theorem mul_lt {G : List (List Int)} {R C : Int} {P : List (List Int)} {z : Bool} (h : Rees G R C P z) {x y : Int} (hx : 0 ≤ x ∧ x < sizeI G.length R C z) (hy : 0 ≤ y ∧ y < sizeI G.length R C z) :
    0 ≤ mulI G C P z x y ∧ mulI G C P z x y < sizeI G.length R C z := by
  have hle := h.le
  have hz := z_cases z
  have hpos : 1 ≤ sizeI G.length R C z := by
    have : 0 < (G.length : Int) * R * C := Int.mul_pos (Int.mul_pos (by omega) (by omega)) (by omega)
    unfold sizeI; omega
  unfold mulI
  split
  · omega
  · rename_i hn
    split
    · omega
    · rename_i hp
      have c1 := coord (z := z) (x := x) hle.1 hle.2.2.1 hle.2.2.2.2.1 (by omega) hx.2
      have c2 := coord (z := z) (x := y) hle.1 hle.2.2.1 hle.2.2.2.2.1 (by omega) hy.2
      have hpe := h.pent (l := ((x - zI z) % C).toNat) (i := ((y - zI z) / C / G.length).toNat) (by omega) (by omega)
      have e1 := h.grp.ent (x := ((x - zI z) / C % G.length).toNat) (y := ((P.getD ((x - zI z) % C).toNat []).getD ((y - zI z) / C / G.length).toNat 0).toNat) (by omega) (by omega)
      have e2 := h.grp.ent (x := ((G.getD ((x - zI z) / C % G.length).toNat []).getD ((P.getD ((x - zI z) % C).toNat []).getD ((y - zI z) / C / G.length).toNat 0).toNat 0).toNat) (y := ((y - zI z) / C % G.length).toNat) (by rw [e1.1]; simpa using e1.2) (by omega)
      have := num_lt (z := z) (R := R) hle.1 hle.2.2.2.2.1 ⟨c1.1, c1.2.1⟩ (g := (G.getD ((G.getD ((x - zI z) / C % G.length).toNat []).getD ((P.getD ((x - zI z) % C).toNat []).getD ((y - zI z) / C / G.length).toNat 0).toNat 0).toNat []).getD ((y - zI z) / C % G.length).toNat 0) (by rw [e2.1]; omega) ⟨c2.2.2.2.2.1, c2.2.2.2.2.2⟩
      omega

theorem lim_a {G : List (List Int)} {R C : Int} {P : List (List Int)} {z : Bool} (hg : Grp G) (hs : Shaped G R C P z) (h : (400 - zI z) / G.length < R) : 3 = reesV G R C P z := by
  have hn : 0 < (G.length : Int) := by have := hg.pos; omega
  have h1 := (Int.ediv_lt_iff_lt_mul hn).1 h
  have h2 : R * G.length * 1 ≤ R * G.length * C := Int.mul_le_mul_of_nonneg_left hs.c (Int.mul_nonneg (by have := hs.r; omega) (by omega))
  unfold reesV
  rw [if_pos ⟨hg, hs⟩, if_pos]
  unfold sizeI
  rw [Int.mul_comm (G.length : Int) R]
  omega
theorem lim_b {G : List (List Int)} {R C : Int} {P : List (List Int)} {z : Bool} (hg : Grp G) (hs : Shaped G R C P z) (h : (400 - zI z) / C < R * G.length) : 3 = reesV G R C P z := by
  have h1 := (Int.ediv_lt_iff_lt_mul (show 0 < C by have := hs.c; omega)).1 h
  unfold reesV
  rw [if_pos ⟨hg, hs⟩, if_pos]
  unfold sizeI
  rw [Int.mul_comm (G.length : Int) R]
  omega
theorem lim_c {G : List (List Int)} {R C : Int} {P : List (List Int)} {z : Bool} (hg : Grp G) (hs : Shaped G R C P z) (h : R * G.length ≤ (400 - zI z) / C) : 0 = reesV G R C P z := by
  have h1 := (Int.le_ediv_iff_mul_le (show 0 < C by have := hs.c; omega)).1 h
  unfold reesV
  rw [if_pos ⟨hg, hs⟩, if_neg]
  unfold sizeI
  rw [Int.mul_comm (G.length : Int) R]
  omega
theorem lim_d {n R : Int} {m : Int} (hn : 0 < n) (hR : 1 ≤ R) (hm : m ≤ 400) (h : R ≤ m / n) : 0 ≤ R * n ∧ R * n ≤ 400 := by
  have h1 := (Int.le_ediv_iff_mul_le hn).1 h
  exact ⟨Int.mul_nonneg (by omega) (by omega), by omega⟩

/-- Each row and each column has an element that is not zero. -/
def Reg (R : Int) (P : List (List Int)) : Prop := (∀ j, j < P.length → ∃ i : Nat, (i : Int) < R ∧ 0 ≤ (P.getD j []).getD i 0) ∧ ∀ i : Nat, (i : Int) < R → ∃ j, j < P.length ∧ 0 ≤ (P.getD j []).getD i 0
noncomputable def regB (R : Int) (P : List (List Int)) : Bool := decide (Reg R P)
theorem regB_true {R : Int} {P : List (List Int)} : regB R P = true ↔ Reg R P := by unfold regB; exact decide_eq_true_iff
theorem regB_false {R : Int} {P : List (List Int)} : regB R P = false ↔ ¬ Reg R P := by unfold regB; exact decide_eq_false_iff_not

/-- The table. -/
def tabI (G : List (List Int)) (C : Int) (P : List (List Int)) (z : Bool) (n : Nat) : List (List Int) := (List.range n).map fun x => (List.range n).map fun y => mulI G C P z (x : Nat) (y : Nat)

theorem map_range_getD {α : Type} (f : Nat → α) (n i : Nat) (d : α) (h : i < n) : ((List.range n).map f).getD i d = f i := by
  simp [List.getD, h]

theorem tab_len {G : List (List Int)} {C : Int} {P : List (List Int)} {z : Bool} {n : Nat} : (tabI G C P z n).length = n := by simp [tabI]
theorem tab_row {G : List (List Int)} {C : Int} {P : List (List Int)} {z : Bool} {n x : Nat} (hx : x < n) : (tabI G C P z n).getD x [] = (List.range n).map fun y => mulI G C P z (x : Nat) (y : Nat) := map_range_getD _ n x [] hx
theorem take_snoc {α : Type} {l : List α} {i : Nat} {d : α} (h : i < l.length) : l.take (i + 1) = l.take i ++ [l.getD i d] := by
  rw [List.take_succ_eq_append_getElem h]; simp [List.getD, h]
theorem ext_getD {α : Type} {l m : List α} (d : α) (hl : l.length = m.length) (h : ∀ i, i < l.length → l.getD i d = m.getD i d) : l = m := by
  refine List.ext_getElem hl fun i h1 h2 => ?_
  have := h i h1
  simpa [List.getD, h1, h2] using this
end Go.Proofs.Yteopelpnpdbbcaa
