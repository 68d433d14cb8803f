/- Rees coordinates of a J-class with an idempotent: valid, regular, right. Plain; no program. -/
import Derived.Test.YtfoemneboalddaaCooLaw
import Derived.Test.YtfoemneboalddaaReesAssoc
import Derived.Test.YtfoemneboalddaaChkLaw
namespace Go.Proofs.Ytfoemneboalddaa
open Go Go.AM

section
variable (t : List (List Int)) (j e : Nat)
abbrev cR : Nat := (rowsN t j).length
abbrev cC : Nat := (colsN t j).length
abbrev cH : Nat := (hLs t j e).length
def cooN (i g l : Nat) : Int := triI (cH t j e) (cC t j) (!minJ t j) i g l
open Classical in
noncomputable def cooV (x : Nat) : Int := if h : ∃ p : Nat × Nat × Nat, p.1 < cR t j ∧ p.2.1 < cH t j e ∧ p.2.2 < cC t j ∧ tri t j e p.1 p.2.1 p.2.2 = x then cooN t j e (Classical.choose h).1 (Classical.choose h).2.1 (Classical.choose h).2.2 else -1
noncomputable def cooM : List Int := (List.range t.length).map (cooV t j e)
end
theorem cooP_len (t : List (List Int)) (j e : Nat) : (cooP t j e).length = cC t j := by simp [cooP]
theorem cooP_row {t : List (List Int)} {j e l : Nat} (hl : l < cC t j) : (cooP t j e).getD l [] = (List.range (cR t j)).map fun i => posTo (hLs t j e) (hLs t j e).length (en t (qI t j e l) (rI t j e i)) := map_range_getD _ _ _ _ hl
theorem cooP_get {t : List (List Int)} {j e l i : Nat} (hl : l < cC t j) (hi : i < cR t j) : ((cooP t j e).getD l []).getD i 0 = posTo (hLs t j e) (hLs t j e).length (en t (qI t j e l) (rI t j e i)) := by
  rw [cooP_row hl, map_range_getD _ _ _ _ hi]
theorem cooM_len (t : List (List Int)) (j e : Nat) : (cooM t j e).length = t.length := by simp [cooM]
theorem posTo_no {l : List Int} {x : Nat} : ∀ {k : Nat}, (∀ i, i < k → l.getD i 0 ≠ (x : Int)) → posTo l k x = -1
  | 0, _ => rfl
  | k + 1, h => by rw [posTo, if_neg (h k (by omega)), posTo_no fun i hi => h i (by omega)]
theorem posTo_out {l : List Int} {x : Nat} (h : setI l x = false) : posTo l l.length x = -1 := posTo_no fun i hi he => by
  have := setI_iff.2 (he ▸ getD_mem (d := 0) hi)
  rw [h] at this; cases this

theorem tri_dec {R H C k : Nat} (hH : 0 < H) (hC : 0 < C) (hk : k < R * H * C) : k / C / H < R ∧ k / C % H < H ∧ k % C < C := by
  have h1 : k / C < R * H := Nat.div_lt_of_lt_mul (by rw [Nat.mul_comm]; exact hk)
  exact ⟨Nat.div_lt_of_lt_mul (by rw [Nat.mul_comm]; exact h1), Nat.mod_lt _ hH, Nat.mod_lt _ hC⟩
theorem tri_back {H C k k' : Nat} (h1 : k / C / H = k' / C / H) (h2 : k / C % H = k' / C % H) (h3 : k % C = k' % C) : k = k' := by
  have a := Nat.div_add_mod (k / C) H
  have a' := Nat.div_add_mod (k' / C) H
  have b := Nat.div_add_mod k C
  have b' := Nat.div_add_mod k' C
  rw [h1, h2, a'] at a
  rw [← a, h3, b'] at b
  exact b.symm
theorem tri_enc {R H C i g l : Nat} (hi : i < R) (hg : g < H) (hl : l < C) : ∃ k, k < R * H * C ∧ k / C / H = i ∧ k / C % H = g ∧ k % C = l := by
  refine ⟨(i * H + g) * C + l, ?_, ?_, ?_, ?_⟩
  · have h1 : i * H + g + 1 ≤ R * H := by
      have := Nat.mul_le_mul_right H (show i + 1 ≤ R from hi)
      rw [Nat.add_mul, Nat.one_mul] at this; omega
    have := Nat.mul_le_mul_right C h1
    rw [Nat.add_mul, Nat.one_mul] at this; omega
  · have e1 : ((i * H + g) * C + l) / C = i * H + g := by rw [Nat.mul_comm, Nat.mul_add_div (by omega), Nat.div_eq_of_lt hl, Nat.add_zero]
    rw [e1, Nat.mul_comm, Nat.mul_add_div (by omega), Nat.div_eq_of_lt hg, Nat.add_zero]
  · have e1 : ((i * H + g) * C + l) / C = i * H + g := by rw [Nat.mul_comm, Nat.mul_add_div (by omega), Nat.div_eq_of_lt hl, Nat.add_zero]
    rw [e1, Nat.mul_comm, Nat.mul_add_mod, Nat.mod_eq_of_lt hg]
  · rw [Nat.mul_comm, Nat.mul_add_mod, Nat.mod_eq_of_lt hl]

namespace Coo
variable {t : List (List Int)} {j e : Nat} (c : Coo t j e)
include c
theorem posR : 0 < cR t j := List.length_pos_of_mem (c.mem_rows.2 ⟨e, c.he, c.ej, rfl⟩)
theorem posC : 0 < cC t j := List.length_pos_of_mem (c.mem_cols.2 ⟨e, c.he, c.ej, rfl⟩)
theorem posH : 0 < cH t j e := c.hCl.pos
theorem cooV_tri {i g l : Nat} (hi : i < cR t j) (hg : g < cH t j e) (hl : l < cC t j) : cooV t j e (tri t j e i g l) = cooN t j e i g l := by
  have hx : ∃ p : Nat × Nat × Nat, p.1 < cR t j ∧ p.2.1 < cH t j e ∧ p.2.2 < cC t j ∧ tri t j e p.1 p.2.1 p.2.2 = tri t j e i g l := ⟨(i, g, l), hi, hg, hl, rfl⟩
  unfold cooV
  rw [dif_pos hx]
  have hs := Classical.choose_spec hx
  have := c.tri_inj hs.1 hs.2.1 hs.2.2.1 hi hg hl hs.2.2.2
  rw [this.1, this.2.1, this.2.2]
theorem cooV_out {x : Nat} (hx : jcl t x ≠ j) : cooV t j e x = -1 := by
  unfold cooV
  rw [dif_neg]
  rintro ⟨p, h1, h2, h3, h4⟩
  exact hx (h4 ▸ (c.tri_ok h1 h2 h3).2.1)
omit c in
theorem cooM_get {x : Nat} (hx : x < t.length) : (cooM t j e).getD x 0 = cooV t j e x := map_range_getD _ _ _ _ hx
theorem cooM_tri {i g l : Nat} (hi : i < cR t j) (hg : g < cH t j e) (hl : l < cC t j) : (cooM t j e).getD (tri t j e i g l) 0 = cooN t j e i g l := by rw [cooM_get (c.tri_ok hi hg hl).1, c.cooV_tri hi hg hl]

/-- The sandwich entry: in the group's box exactly if the product stays in the class. -/
theorem sand_in {i l : Nat} (hi : i < cR t j) (hl : l < cC t j) : setI (hLs t j e) (en t (qI t j e l) (rI t j e i)) = true ↔ jcl t (en t (qI t j e l) (rI t j e i)) = j := by
  have r := c.rI_ok hi
  have q := c.qI_ok hl
  have hlt := (c.semi.toSh.ent q.1 r.1).2
  constructor
  · intro h
    have := c.mem_hLs.1 h
    exact (rcl_j c.semi hlt c.he this.2.1).trans c.ej
  · intro h
    have h2 := ((c.in_iff (c.m ⟨_, q.1⟩ ⟨_, r.1⟩)).1 h).1
    have h3 := (c.inH_iff (c.m ⟨_, q.1⟩ ⟨_, r.1⟩)).2 (c.I.sand (c.hQq hl) (c.hRr hi) h2)
    exact c.mem_hLs.2 ⟨hlt, h3⟩
theorem rees_rows : rowsOk (cooG t j e).length (cR t j) (cooP t j e) (!minJ t j) := by
  intro row hrow
  obtain ⟨l, hl, rfl⟩ := mem_getD [] hrow
  rw [cooP_len] at hl
  rw [cooP_row hl]
  refine ⟨by simp, fun g hg => ?_⟩
  obtain ⟨i, hi, rfl⟩ := List.mem_map.1 hg
  have hi := List.mem_range.1 hi
  have hr := posTo_rng (hLs t j e) (hLs t j e).length (en t (qI t j e l) (rI t j e i))
  rw [glen]
  refine ⟨hr.1, by omega, fun hneg => ?_⟩
  refine Classical.byContradiction fun hn => ?_
  have hm : minJ t j = true := by simpa using hn
  have h1 := min_stays c.semi c.hj hm (c.qI_ok hl).1 (c.rI_ok hi).1 (c.qI_ok hl).2.1
  have h2 := (pL_in ((c.sand_in hi hl).2 h1)).1
  omega
/-- The class has as many elements as there are triples. -/
theorem count : (elemsJ t j).length = cR t j * cH t j e * cC t j := by
  have hnd : ((List.range (cR t j * cH t j e * cC t j)).map fun k => ((tri t j e (k / cC t j / cH t j e) (k / cC t j % cH t j e) (k % cC t j) : Nat) : Int)).Nodup := by
    refine List.pairwise_map.2 (List.nodup_range.imp_of_mem fun {a b} ha hb hab e1 => hab ?_)
    have ha := tri_dec c.posH c.posC (List.mem_range.1 ha)
    have hb := tri_dec c.posH c.posC (List.mem_range.1 hb)
    have e1 : tri t j e (a / cC t j / cH t j e) (a / cC t j % cH t j e) (a % cC t j) = tri t j e (b / cC t j / cH t j e) (b / cC t j % cH t j e) (b % cC t j) := Int.ofNat_inj.1 e1
    have := c.tri_inj ha.1 ha.2.1 ha.2.2 hb.1 hb.2.1 hb.2.2 e1
    exact tri_back this.1 this.2.1 this.2.2
  have hsub : ∀ x ∈ (List.range (cR t j * cH t j e * cC t j)).map (fun k => ((tri t j e (k / cC t j / cH t j e) (k / cC t j % cH t j e) (k % cC t j) : Nat) : Int)), x ∈ elemsJ t j := fun x hx => by
    obtain ⟨k, hk, rfl⟩ := List.mem_map.1 hx
    have hd := tri_dec c.posH c.posC (List.mem_range.1 hk)
    have := c.tri_ok hd.1 hd.2.1 hd.2.2
    exact (mem_elems c.hj).2 ⟨Int.natCast_nonneg _, Int.ofNat_lt.2 this.1, by rw [Int.toNat_natCast]; exact this.2.1⟩
  have hsup : ∀ x ∈ elemsJ t j, x ∈ (List.range (cR t j * cH t j e * cC t j)).map (fun k => ((tri t j e (k / cC t j / cH t j e) (k / cC t j % cH t j e) (k % cC t j) : Nat) : Int)) := fun x hx => by
    have hm := (mem_elems c.hj).1 hx
    obtain ⟨i, g, l, hi, hg, hl, he⟩ := c.tri_all (x := x.toNat) (by omega) hm.2.2
    obtain ⟨k, hk, e1, e2, e3⟩ := tri_enc hi hg hl
    refine List.mem_map.2 ⟨k, List.mem_range.2 hk, ?_⟩
    rw [e1, e2, e3, he]; omega
  refine Nat.le_antisymm ?_ ?_
  · have := (elems_nodup c.hj).length_le_of_subset hsup
    simpa using this
  · have := hnd.length_le_of_subset hsub
    simpa using this
theorem size : sizeI (cooG t j e).length (cR t j) (cC t j) (!minJ t j) - zI (!minJ t j) = ((elemsJ t j).length : Int) := by
  unfold sizeI; rw [glen, c.count, Nat.mul_comm (cR t j)]; simp only [cH, cR, cC]; push_cast; omega
theorem rees : Rees (cooG t j e) (cR t j) (cooP t j e).length (cooP t j e) (!minJ t j) where
  grp := c.grp
  sh := ⟨by have := c.posR; omega, by rw [cooP_len]; have := c.posC; omega, rfl, c.rees_rows⟩
  small := by
    have h1 := c.size
    have hm := c.semi.most
    rw [cooP_len]
    cases hmin : minJ t j with
    | true =>
      have := elems_le c.hj
      rw [hmin] at h1
      have hz : zI (!true) = 0 := rfl
      omega
    | false =>
      have := elems_lt c.hj hmin
      rw [hmin] at h1
      have hz : zI (!false) = 1 := rfl
      omega
end Coo
end Go.Proofs.Ytfoemneboalddaa
