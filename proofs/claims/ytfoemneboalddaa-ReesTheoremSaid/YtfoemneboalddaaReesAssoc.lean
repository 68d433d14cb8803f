/- A Rees matrix semigroup is a semigroup. -/
import Derived.Test.YtfoemneboalddaaReesLaw
namespace Go.Proofs.Ytfoemneboalddaa
open Classical

/-- The element with these coordinates. -/
def triI (n C : Int) (z : Bool) (i g l : Nat) : Int := numI n C z i g l

theorem tri_of {G : List (List Int)} {R C : Int} {P : List (List Int)} {z : Bool} (h : Rees G R C P z) {x : Int} (hx : zI z ≤ x ∧ x < sizeI G.length R C z) :
    ∃ i g l : Nat, (i : Int) < R ∧ g < G.length ∧ (l : Int) < C ∧ x = triI G.length C z i g l := by
  have hle := h.le
  have c := coord (z := z) (x := x) hle.1 hle.2.2.1 hle.2.2.2.2.1 (by omega) hx.2
  refine ⟨((x - zI z) / C / G.length).toNat, ((x - zI z) / C % G.length).toNat, ((x - zI z) % C).toNat, by omega, by omega, by omega, ?_⟩
  unfold triI numI
  rw [Int.toNat_of_nonneg c.1, Int.toNat_of_nonneg c.2.2.1, Int.toNat_of_nonneg c.2.2.2.2.1]
  have e1 := Int.emod_add_mul_ediv ((x - zI z) / C) G.length
  have e2 := Int.emod_add_mul_ediv (x - zI z) C
  have e3 : (x - zI z) / C / G.length * G.length + (x - zI z) / C % G.length = (x - zI z) / C := by
    rw [Int.mul_comm]; omega
  rw [e3, Int.mul_comm]
  omega

theorem tri_parts {n C : Int} {z : Bool} {i g l : Nat} (hg : (g : Int) < n) (hl : (l : Int) < C) :
    (triI n C z i g l - zI z) % C = l ∧ (triI n C z i g l - zI z) / C / n = i ∧ (triI n C z i g l - zI z) / C % n = g := by
  have e : triI n C z i g l - zI z = l + ((i : Int) * n + g) * C := by unfold triI numI; omega
  have e2 : ((l : Int) + ((i : Int) * n + g) * C) / C = g + (i : Int) * n := by
    rw [Int.add_mul_ediv_right _ _ (by omega), Int.ediv_eq_zero_of_lt (by omega) hl]
    omega
  rw [e]
  refine ⟨?_, ?_, ?_⟩
  · rw [Int.add_mul_emod_self_right, Int.emod_eq_of_lt (by omega) hl]
  · rw [e2, Int.add_mul_ediv_right _ _ (by omega), Int.ediv_eq_zero_of_lt (by omega) hg]
    omega
  · rw [e2, Int.add_mul_emod_self_right, Int.emod_eq_of_lt (by omega) hg]

theorem tri_ge {n C : Int} {z : Bool} {i g l : Nat} (hn : 0 ≤ n) (hC : 0 ≤ C) : zI z ≤ triI n C z i g l := by
  unfold triI numI
  have h1 : 0 ≤ (i : Int) * n := Int.mul_nonneg (by omega) hn
  have h2 : 0 ≤ ((i : Int) * n + g) * C := Int.mul_nonneg (by omega) hC
  omega

/-- The entry of the matrix. -/
def pe (P : List (List Int)) (l i : Nat) : Int := (P.getD l []).getD i 0

theorem mul_tri {G : List (List Int)} {R C : Int} {P : List (List Int)} {z : Bool} (h : Rees G R C P z) {i g l i' g' l' : Nat} (hg : g < G.length) (hl : (l : Int) < C) (hi' : (i' : Int) < R) (hg' : g' < G.length) (hl' : (l' : Int) < C) :
    mulI G C P z (triI G.length C z i g l) (triI G.length C z i' g' l') = if pe P l i' < 0 then 0 else triI G.length C z i (en G (en G g (pe P l i').toNat) g') l' := by
  have hle := h.le
  have c1 := tri_parts (z := z) (i := i) (n := (G.length : Int)) (show (g : Int) < G.length by omega) hl
  have c2 := tri_parts (z := z) (i := i') (n := (G.length : Int)) (show (g' : Int) < G.length by omega) hl'
  have g1 := tri_ge (z := z) (i := i) (g := g) (l := l) (n := (G.length : Int)) (C := C) (by omega) (by omega)
  have g2 := tri_ge (z := z) (i := i') (g := g') (l := l') (n := (G.length : Int)) (C := C) (by omega) (by omega)
  have hpe := h.pent hl hi'
  unfold mulI
  rw [if_neg (by omega), c1.1, c1.2.1, c1.2.2, c2.1, c2.2.1, c2.2.2]
  simp only [Int.toNat_natCast]
  unfold pe
  split
  · rfl
  · rename_i hp
    have e1 := h.grp.ent (x := g) (y := ((P.getD l []).getD i' 0).toNat) hg (by omega)
    rw [e1.1, Int.toNat_natCast]
    have e2 := h.grp.ent (x := en G g ((P.getD l []).getD i' 0).toNat) (y := g') e1.2 hg'
    rw [e2.1]
    rfl

theorem mul_zero {G : List (List Int)} {C : Int} {P : List (List Int)} {z : Bool} {x y : Int} (h : x < zI z ∨ y < zI z) : mulI G C P z x y = 0 := by
  unfold mulI
  rw [if_pos (by omega)]

theorem mul_assoc {G : List (List Int)} {R C : Int} {P : List (List Int)} {z : Bool} (h : Rees G R C P z) {x y w : Int} (hx : 0 ≤ x ∧ x < sizeI G.length R C z) (hy : 0 ≤ y ∧ y < sizeI G.length R C z) (hw : 0 ≤ w ∧ w < sizeI G.length R C z) :
    mulI G C P z (mulI G C P z x y) w = mulI G C P z x (mulI G C P z y w) := by
  have hz := z_cases z
  have hz0 : ∀ {a : Int}, 0 ≤ a → a < zI z → (0 : Int) < zI z := fun h1 h2 => by omega
  by_cases x0 : x < zI z
  · rw [mul_zero (.inl x0), mul_zero (.inl (hz0 hx.1 x0)), mul_zero (.inl x0)]
  by_cases y0 : y < zI z
  · rw [mul_zero (x := x) (.inr y0), mul_zero (y := w) (.inl y0), mul_zero (.inl (hz0 hy.1 y0)), mul_zero (.inr (hz0 hy.1 y0))]
  by_cases w0 : w < zI z
  · rw [mul_zero (y := w) (.inr w0), mul_zero (x := y) (.inr w0), mul_zero (.inr (hz0 hw.1 w0))]
  obtain ⟨i, g, l, _, hg, hl, rfl⟩ := tri_of h ⟨Int.not_lt.1 x0, hx.2⟩
  obtain ⟨i', g', l', hi', hg', hl', rfl⟩ := tri_of h ⟨Int.not_lt.1 y0, hy.2⟩
  obtain ⟨i'', g'', l'', hi'', hg'', hl'', rfl⟩ := tri_of h ⟨Int.not_lt.1 w0, hw.2⟩
  have hp := h.pent hl hi'
  have hq := h.pent hl' hi''
  have hpos : ∀ {a b : Nat}, (a : Int) < C → (b : Int) < R → pe P a b < 0 → (0 : Int) < zI z := fun {a b} ha hb hn => by
    have ha' := (h.pent ha hb).1
    have hb' := (h.pent ha hb).2.1
    have := (h.sh.rows _ (mem_of_getD (d := []) ha')).2 _ (mem_of_getD (d := 0) hb')
    rw [this.2.2 hn]; decide
  have ep : ∀ {a b : Nat}, pe P a b = (P.getD a []).getD b 0 := rfl
  rw [mul_tri h hg hl hi' hg' hl', mul_tri h hg' hl' hi'' hg'' hl'']
  by_cases p0 : pe P l i' < 0
  · rw [if_pos p0, mul_zero (.inl (hpos hl hi' p0))]
    split
    · rw [mul_zero (.inr (hpos hl hi' p0))]
    · rename_i q0
      have e1 := h.grp.ent (x := g') (y := (pe P l' i'').toNat) hg' (by rw [ep] at *; omega)
      have e2 := h.grp.ent (x := en G g' (pe P l' i'').toNat) (y := g'') e1.2 hg''
      rw [mul_tri h hg hl hi' e2.2 hl'', if_pos p0]
  · rw [if_neg p0]
    have e1 := h.grp.ent (x := g) (y := (pe P l i').toNat) hg (by rw [ep] at *; omega)
    have e2 := h.grp.ent (x := en G g (pe P l i').toNat) (y := g') e1.2 hg'
    rw [mul_tri h e2.2 hl' hi'' hg'' hl'']
    by_cases q0 : pe P l' i'' < 0
    · rw [if_pos q0, if_pos q0, mul_zero (.inr (hpos hl' hi'' q0))]
    · rw [if_neg q0, if_neg q0]
      have e3 := h.grp.ent (x := g') (y := (pe P l' i'').toNat) hg' (by rw [ep] at *; omega)
      have e4 := h.grp.ent (x := en G g' (pe P l' i'').toNat) (y := g'') e3.2 hg''
      rw [mul_tri h hg hl hi' e4.2 hl'', if_neg p0]
      congr 1
      have hA := h.grp.assoc
      have hpn : (pe P l i').toNat < G.length := by rw [ep] at *; omega
      have hqn : (pe P l' i'').toNat < G.length := by rw [ep] at *; omega
      have a1 := assoc3 hA e2.2 hqn hg''
      have a2 := assoc3 hA e1.2 hg' (h.grp.ent hqn hg'').2
      have a3 := assoc3 hA hg' hqn hg''
      rw [a1, a2, a3]

theorem tab_en {G : List (List Int)} {R C : Int} {P : List (List Int)} {z : Bool} (h : Rees G R C P z) {x y : Nat} (hx : (x : Int) < sizeI G.length R C z) (hy : (y : Int) < sizeI G.length R C z) :
    ((tabI G C P z (sizeI G.length R C z).toNat).getD x []).getD y 0 = mulI G C P z x y ∧ (en (tabI G C P z (sizeI G.length R C z).toNat) x y : Int) = mulI G C P z x y := by
  have e : ((tabI G C P z (sizeI G.length R C z).toNat).getD x []).getD y 0 = mulI G C P z x y := by
    rw [tab_row (by omega), map_range_getD _ _ _ _ (by omega)]
  refine ⟨e, ?_⟩
  unfold en
  rw [e]
  have := mul_lt h (x := x) (y := y) ⟨by omega, hx⟩ ⟨by omega, hy⟩
  omega

/-- The table of a Rees matrix semigroup is that of a semigroup. -/
theorem rees_semi {G : List (List Int)} {R C : Int} {P : List (List Int)} {z : Bool} (h : Rees G R C P z) : Semi (tabI G C P z (sizeI G.length R C z).toNat) := by
  have hle := h.le
  have hsm := h.small
  have hpos : 0 < (sizeI G.length R C z) := by
    have : 0 < (G.length : Int) * R * C := Int.mul_pos (Int.mul_pos (by omega) (by omega)) (by omega)
    have := z_cases z
    unfold sizeI; omega
  have hl : (tabI G C P z (sizeI G.length R C z).toNat).length = (sizeI G.length R C z).toNat := tab_len
  refine ⟨⟨by omega, by omega, fun r hr => ?_⟩, fun g hg x y hx hy => ?_⟩
  · obtain ⟨x, hx, rfl⟩ := List.mem_map.1 hr
    rw [hl]
    refine ⟨by simp, fun v hv => ?_⟩
    obtain ⟨y, hy, rfl⟩ := List.mem_map.1 hv
    rw [List.mem_range] at hx hy
    have := mul_lt h (x := x) (y := y) ⟨by omega, by omega⟩ ⟨by omega, by omega⟩
    omega
  · rw [hl] at hg hx hy
    have hx : (x : Int) < sizeI G.length R C z := by omega
    have hy : (y : Int) < sizeI G.length R C z := by omega
    have hg : (g : Int) < sizeI G.length R C z := by omega
    have m1 := mul_lt h (x := x) (y := g) ⟨by omega, hx⟩ ⟨by omega, hg⟩
    have m2 := mul_lt h (x := g) (y := y) ⟨by omega, hg⟩ ⟨by omega, hy⟩
    have e1 := (tab_en h hx hg).2
    have e2 := (tab_en h hg hy).2
    have e3 := (tab_en h (x := en (tabI G C P z (sizeI G.length R C z).toNat) x g) (by omega) hy).2
    have e4 := (tab_en h (y := en (tabI G C P z (sizeI G.length R C z).toNat) g y) hx (by omega)).2
    rw [e1, mul_assoc h ⟨by omega, hx⟩ ⟨by omega, hg⟩ ⟨by omega, hy⟩, ← e2] at e3
    omega
end Go.Proofs.Ytfoemneboalddaa
