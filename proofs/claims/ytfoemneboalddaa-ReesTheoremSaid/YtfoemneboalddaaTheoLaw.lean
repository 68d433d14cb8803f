/- The theorem of Rees: the numbering of the principal factor is an injective homomorphism. Plain; no program. -/
import Derived.Test.YtfoemneboalddaaCooLaw3
import Derived.Test.YtfoemneboalddaaRees
import Derived.Test.YtfoemneboalddaaPrin
namespace Go.Proofs.Ytfoemneboalddaa
open Go Go.AM

/-- The numbers of the factor's elements: the zero is 0. -/
def isoV (M : List Int) (x : Int) : Int := if x < 0 then 0 else M.getD x.toNat 0
def isoL (t : List (List Int)) (j : Nat) (M : List Int) : List Int := (prinList t j).map (isoV M)
theorem isoL_len (t : List (List Int)) (j : Nat) (M : List Int) : (isoL t j M).length = (prinList t j).length := by simp [isoL]
theorem isoL_get {t : List (List Int)} {j : Nat} {M : List Int} {x : Nat} (hx : x < (prinList t j).length) : (isoL t j M).getD x 0 = isoV M ((prinList t j).getD x 0) := by
  simp [isoL, List.getD, hx]

/-- An injective homomorphism of tables, by a list. -/
structure Mor (p u : List (List Int)) (f : List Int) : Prop where
  len : f.length = p.length
  rng : ∀ x, x < p.length → 0 ≤ f.getD x 0 ∧ f.getD x 0 < (u.length : Int)
  inj : ∀ x y, x < y → y < p.length → f.getD x 0 ≠ f.getD y 0
  hom : ∀ x y, x < p.length → y < p.length → f.getD (en p x y) 0 = ((u.getD (f.getD x 0).toNat []).getD (f.getD y 0).toNat 0)

theorem prin_len_z (t : List (List Int)) (j : Nat) : ((prinList t j).length : Int) = (elemsJ t j).length + zI (!minJ t j) := by
  unfold prinList
  rw [List.length_append]
  cases hm : minJ t j <;> simp [zI]
  omega

theorem tab_ent {G : List (List Int)} {C : Int} {P : List (List Int)} {z : Bool} {n x y : Nat} (hx : x < n) (hy : y < n) : ((tabI G C P z n).getD x []).getD y 0 = mulI G C P z (x : Nat) (y : Nat) := by
  rw [tab_row hx]; exact map_range_getD _ _ _ _ hy

theorem theo_mor {t : List (List Int)} (h : Semi t) {j : Nat} (hj : j < numJ t) {G : List (List Int)} {R C : Int} {P : List (List Int)} {z : Bool} {M : List Int} (hz : z = !minJ t j)
    (hr : Rees G R C P z) (hg : ChkGood t j G R C P z M) : Mor (prinTab t j) (tabI G C P z (sizeI G.length R C z).toNat) (isoL t j M) := by
  obtain ⟨hm, hc, hp⟩ := hg
  have hle := hr.le
  have hS : 1 ≤ sizeI G.length R C z := size_pos (by omega) (by omega) (by omega)
  have z01 := z_cases z
  have mz : ∀ x, x < (prinList t j).length → (prinList t j).getD x 0 < 0 → (prinList t j).getD x 0 = -1 ∧ minJ t j = false ∧ zI z = 1 := fun x hx h0 => by
    rcases prin_get hj hx with h1 | h1
    · exact ⟨h1.1, h1.2, by rw [hz, h1.2]; rfl⟩
    · omega
  have mp : ∀ x, x < (prinList t j).length → 0 ≤ (prinList t j).getD x 0 → ((prinList t j).getD x 0).toNat < t.length ∧ (classJ t).getD ((prinList t j).getD x 0).toNat 0 = (j : Int) := fun x hx h0 => by
    rcases prin_get hj hx with h1 | h1
    · omega
    · exact ⟨by omega, h1.2.2⟩
  have rng : ∀ x, x < (prinList t j).length → 0 ≤ isoV M ((prinList t j).getD x 0) ∧ isoV M ((prinList t j).getD x 0) < sizeI G.length R C z ∧ (0 ≤ (prinList t j).getD x 0 → zI z ≤ isoV M ((prinList t j).getD x 0)) := fun x hx => by
    unfold isoV
    by_cases h0 : (prinList t j).getD x 0 < 0
    · rw [if_pos h0]; omega
    · rw [if_neg h0]
      have h1 := mp x hx (by omega)
      have h2 := (hm _ h1.1).2 h1.2
      omega
  have zer : minJ t j = false → (isoL t j M).getD 0 0 = 0 := fun hm0 => by
    rw [isoL_get (prin_len hj).1, prin_zero hm0]; rfl
  refine ⟨by rw [isoL_len, prinTab_len], fun x hx => ?_, fun x y hxy hy => ?_, fun x y hx hy => ?_⟩
  · rw [prinTab_len] at hx
    rw [isoL_get hx, tab_len]
    have := rng x hx
    omega
  · rw [prinTab_len] at hy
    have hx : x < (prinList t j).length := by omega
    rw [isoL_get hx, isoL_get hy]
    have hne : (prinList t j).getD x 0 ≠ (prinList t j).getD y 0 := fun he => by
      rw [getD_eq hx, getD_eq hy] at he
      have e1 := (prin_nodup hj).idxOf_getElem x hx
      have e2 := (prin_nodup hj).idxOf_getElem y hy
      rw [he, e2] at e1
      omega
    intro he
    by_cases h0 : (prinList t j).getD x 0 < 0
    · have a := mz x hx h0
      by_cases h1 : (prinList t j).getD y 0 < 0
      · have b := mz y hy h1; omega
      · have b := (rng y hy).2.2 (by omega)
        have a' : isoV M ((prinList t j).getD x 0) = 0 := by unfold isoV; rw [if_pos h0]
        omega
    · have a := mp x hx (by omega)
      by_cases h1 : (prinList t j).getD y 0 < 0
      · have b := mz y hy h1
        have a' := (rng x hx).2.2 (by omega)
        have b' : isoV M ((prinList t j).getD y 0) = 0 := by unfold isoV; rw [if_pos h1]
        omega
      · have b := mp y hy (by omega)
        unfold isoV at he
        rw [if_neg h0, if_neg h1] at he
        rcases Nat.lt_trichotomy ((prinList t j).getD x 0).toNat ((prinList t j).getD y 0).toNat with hl | hl | hl
        · exact ((hm _ b.1).2 b.2).2.2 _ hl a.2 he
        · omega
        · exact ((hm _ a.1).2 a.2).2.2 _ hl b.2 he.symm
  · rw [prinTab_len] at hx hy
    rw [isoL_get hx, isoL_get hy]
    have rx := rng x hx
    have ry := rng y hy
    rw [tab_ent (by omega) (by omega)]
    have ex : ((isoV M ((prinList t j).getD x 0)).toNat : Int) = isoV M ((prinList t j).getD x 0) := by omega
    have ey : ((isoV M ((prinList t j).getD y 0)).toNat : Int) = isoV M ((prinList t j).getD y 0) := by omega
    rw [ex, ey]
    have e0 : en (prinTab t j) x y = (prinV t j ((prinList t j).getD x 0) ((prinList t j).getD y 0)).toNat := by
      show (((prinTab t j).getD x []).getD y 0).toNat = _
      rw [prinTab_get hx hy]
    rw [e0]
    by_cases hn : (prinList t j).getD x 0 < 0 ∨ (prinList t j).getD y 0 < 0
    · have hmf : minJ t j = false ∧ zI z = 1 := hn.elim (fun q => (mz x hx q).2) (fun q => (mz y hy q).2)
      rw [prinV_out fun q => by omega, mul_zero]
      · exact zer hmf.1
      · unfold isoV
        rcases hn with q | q
        · left; rw [if_pos q]; omega
        · right; rw [if_pos q]; omega
    · have ax := mp x hx (by omega)
      have ay := mp y hy (by omega)
      have hpr : pairAt t j G C P z M ((prinList t j).getD x 0).toNat ((prinList t j).getD y 0).toNat := by
        have qx : (prinList t j).getD x 0 ∈ elemsJ t j := (mem_elems hj).2 ⟨by omega, by omega, ax.2⟩
        have qy : (prinList t j).getD y 0 ∈ elemsJ t j := (mem_elems hj).2 ⟨by omega, by omega, ay.2⟩
        obtain ⟨a, ha, ea⟩ := List.getElem_of_mem qx
        obtain ⟨b, hb, eb⟩ := List.getElem_of_mem qy
        have := hp a ha b hb
        rw [getD_eq ha, getD_eq hb, ea, eb] at this
        exact this
      have ix : isoV M ((prinList t j).getD x 0) = M.getD ((prinList t j).getD x 0).toNat 0 := by unfold isoV; rw [if_neg (by omega)]
      have iy : isoV M ((prinList t j).getD y 0) = M.getD ((prinList t j).getD y 0).toNat 0 := by unfold isoV; rw [if_neg (by omega)]
      rw [ix, iy]
      by_cases hin : (classJ t).getD (en t ((prinList t j).getD x 0).toNat ((prinList t j).getD y 0).toNat) 0 = (j : Int)
      · rw [prinV_in (by omega) (by omega) hin, hpr.1 hin, Int.toNat_natCast]
        have e := h.toSh.ent ax.1 ay.1
        have hi := prin_idx hj e.2 hin
        rw [isoL_get hi.1, hi.2]
        unfold isoV
        rw [if_neg (by omega), Int.toNat_natCast]
      · have q := hpr.2 hin
        rw [prinV_out fun w => hin w.2.2, q.2]
        exact zer (by rw [hz] at q; simpa using q.1)
end Go.Proofs.Ytfoemneboalddaa
