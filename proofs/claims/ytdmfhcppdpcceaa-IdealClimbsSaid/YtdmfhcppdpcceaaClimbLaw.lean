/- The principal series climbs class by class: plain. -/
import Derived.Test.YtdmfhcppdpcceaaSerLaw
import Derived.Test.YtdmfhcppdpcceaaLatLaw
namespace Go.Proofs.Ytdmfhcppdpcceaa
open Go Go.AM

theorem memTo_not' (n : Nat) : (memTo (setB n fun _ => true) n).length = n := by
  have : ∀ k, k ≤ n → (memTo (setB n fun _ => true) k).length = k := by
    intro k
    induction k with
    | zero => intro _; simp [memTo]
    | succ k ih => intro hk; rw [memTo_yes (by rw [setB_get (by omega)]), List.length_append, List.length_singleton, ih (by omega)]
  exact this n (Nat.le_refl _)
/-- The class of an element as a number. -/
def cJ (t : List (List Int)) (x : Nat) : Nat := ((classJ t).getD x 0).toNat
theorem cJ_val {t : List (List Int)} {x : Nat} (hx : x < t.length) : (classJ t).getD x 0 = (cJ t x : Int) ∧ cJ t x < numJ t := by
  have := classJ_lt t hx; unfold cJ; omega
theorem cJ_fst {t : List (List Int)} {c : Nat} (hc : c < numJ t) : cJ t (fstC (classJ t) c) = c := by
  have := (fstJ hc).2.2.2
  unfold cJ; rw [this]; omega
theorem cJ_iff {t : List (List Int)} (h : Semi t) {x y : Nat} (hx : x < t.length) (hy : y < t.length) : cJ t x = cJ t y ↔ (inJB t x y = true ∧ inJB t y x = true) := by
  rw [← classJ_iff h hx hy, (cJ_val hx).1, (cJ_val hy).1]; omega
/-- y is in the ideal of x if its class is below. -/
theorem bel_iff {t : List (List Int)} (h : Semi t) {x y : Nat} (hx : x < t.length) (hy : y < t.length) : bel t (cJ t y) (cJ t x) = true ↔ inJB t x y = true := by
  have fx := (fstJ (cJ_val hx).2).2.2.1
  have fy := (fstJ (cJ_val hy).2).2.2.1
  have ex := (cJ_iff h hx fx).1 (cJ_fst (cJ_val hx).2).symm
  have ey := (cJ_iff h hy fy).1 (cJ_fst (cJ_val hy).2).symm
  unfold bel
  exact ⟨fun hh => (preJ h).trans _ _ _ hx fy hy ((preJ h).trans _ _ _ hx fx fy ex.1 hh) ey.2, fun hh => (preJ h).trans _ _ _ fx hy fy ((preJ h).trans _ _ _ fx hx hy ex.2 hh) ey.1⟩
/-- What has come is closed downwards. -/
theorem us_down {t : List (List Int)} (h : Semi t) : ∀ s, s ≤ numJ t → ∀ i k, i < numJ t → k < numJ t → (us t s).getD i false = true → bel t k i = true → (us t s).getD k false = true
  | 0, _, i, _, _, _, hu, _ => by rw [us_zero_get] at hu; cases hu
  | s + 1, hs, i, k, hi, hk, hu, hb => by
    have hn := us_next h (show s < numJ t by omega)
    have hl := us_len t s
    have ih := us_down h s (by omega)
    simp only [us] at hu ⊢
    by_cases e : k = nxJ t (us t s)
    · subst e; rw [getD_set_eq (by omega)]
    · rw [getD_set_ne (Ne.symm e)]
      by_cases e2 : i = nxJ t (us t s)
      · cases hk' : (us t s).getD k false with
        | true => rfl
        | false =>
          have := (okN_iff.1 hn.2.2.1).2 k hk e hk'
          rw [← e2, hb] at this; cases this
      · rw [getD_set_ne (Ne.symm e2)] at hu
        exact ih i k hi hk hu hb
theorem inS_id {t : List (List Int)} (h : Semi t) {s : Nat} (hs : s ≤ numJ t) : IdF t (inS t (us t s)) := fun x y hx hy hf => by
  have hj := inJ_mul h hx hy ((preJ h).refl x hx)
  have e1 := (h.toSh.ent hx hy).2
  have e2 := (h.toSh.ent hy hx).2
  exact ⟨us_down h s hs _ _ (cJ_val hx).2 (cJ_val e1).2 hf ((bel_iff h hx e1).2 hj.1), us_down h s hs _ _ (cJ_val hx).2 (cJ_val e2).2 hf ((bel_iff h hx e2).2 hj.2)⟩
/-- The element of the class that comes. -/
theorem inS_new {t : List (List Int)} (h : Semi t) {s : Nat} (hs : s < numJ t) : fstC (classJ t) (nxJ t (us t s)) < t.length ∧ inS t (us t (s + 1)) (fstC (classJ t) (nxJ t (us t s))) = true ∧ inS t (us t s) (fstC (classJ t) (nxJ t (us t s))) = false := by
  have hn := us_next h hs
  have hf := fstJ hn.2.1
  refine ⟨hf.2.2.1, by rw [inS_next h hs hf.2.2.1, hf.2.2.2]; simp, ?_⟩
  unfold inS; rw [hf.2.2.2, Int.toNat_natCast]; exact (okN_iff.1 hn.2.2.1).1
theorem ser_id {t : List (List Int)} (h : Semi t) {s : Nat} (hs : s < numJ t) : IdL t ((serV t).getD s []) := by
  rw [serV_get hs]
  have := inS_new h hs
  exact idL_of h.toSh (inS_id h hs) this.1 this.2.1
theorem inS_up {t : List (List Int)} (h : Semi t) {s : Nat} (hs : s < numJ t) {x : Nat} (hx : x < t.length) (hi : inS t (us t s) x = true) : inS t (us t (s + 1)) x = true := by
  rw [inS_next h hs hx, hi]; rfl
theorem numJ_pos {t : List (List Int)} (h : Semi t) : 0 < numJ t := Nat.lt_of_le_of_lt (Nat.zero_le _) (cJ_val h.pos).2
/-- The series starts with the kernel. -/
theorem ser_ker {t : List (List Int)} (h : Semi t) : (serV t).getD 0 [] = ascV t.length (kerF t) := by
  have hp := numJ_pos h
  rw [serV_get hp]
  refine ascV_congr fun x hx => ?_
  have hn := us_next h hp
  have ha := allP_lt h.toSh h.pos _ (Nat.le_refl t.length)
  have hk : ∀ y, y < t.length → inJB t y (allP t t.length) = true := fun y hy => (prF_iff h hy).1 (all_in h.toSh (prF_id h hy) hy (prF_self h hy) _ hy (Nat.le_refl _))
  have e0 : cJ t (allP t t.length) = nxJ t (us t 0) := by
    have hf := fstJ hn.2.1
    have hb := (bel_iff h hf.2.2.1 ha).2 (hk _ hf.2.2.1)
    rw [cJ_fst hn.2.1] at hb
    rcases Decidable.em (cJ t (allP t t.length) = nxJ t (us t 0)) with e | e
    · exact e
    · have := (okN_iff.1 hn.2.2.1).2 _ (cJ_val ha).2 e (us_zero_get t _)
      rw [hb] at this; cases this
  rw [inS_next h hp hx, Bool.eq_iff_iff, Bool.or_eq_true_iff, decide_eq_true_iff, ker_pr, prF_iff h ha]
  have hz : inS t (us t 0) x = false := us_zero_get t _
  rw [hz, (cJ_val hx).1, ← e0]
  constructor
  · rintro (hh | hh)
    · cases hh
    · exact ((cJ_iff h hx ha).1 (by omega)).2
  · intro hh
    have := (cJ_iff h hx ha).2 ⟨hk x hx, hh⟩
    right; omega
/-- The series ends with all elements. -/
theorem ser_end {t : List (List Int)} (h : Semi t) : ((serV t).getD (numJ t - 1) []).length = t.length := by
  have hp := numJ_pos h
  rw [serV_get (by omega)]
  have e : ascV t.length (inS t (us t (numJ t - 1 + 1))) = ascV t.length fun _ => true := ascV_congr fun x hx => by
    rw [show numJ t - 1 + 1 = numJ t by omega]; exact us_full h (cJ_val hx).2
  rw [e]
  have := memTo_not' t.length
  unfold ascV memV; rw [setB_len]; exact this
/-- What of a list was seen: how many are in the lower ideal; the class of those that are not. -/
def shN (f : Nat → Bool) (L : List Int) (k : Nat) : Nat := ((L.take k).filter fun x => f x.toNat).length
def newD (f : Nat → Bool) (c : Nat) (L : List Int) (k : Nat) : Int := if (L.take k).all fun x => f x.toNat then -1 else (c : Int)
theorem shN_le (f : Nat → Bool) (L : List Int) (k : Nat) : shN f L k ≤ k := by
  unfold shN; exact Nat.le_trans (List.length_filter_le _ _) (by rw [List.length_take]; omega)
theorem shN_succ {f : Nat → Bool} {L : List Int} {k : Nat} (hk : k < L.length) : shN f L (k + 1) = shN f L k + if f (L.getD k 0).toNat then 1 else 0 := by
  unfold shN; rw [take_snoc (d := 0) hk, List.filter_append, List.length_append]
  by_cases e : f (L.getD k 0).toNat = true
  · rw [if_pos e, List.filter_cons_of_pos (p := fun x : Int => f x.toNat) e]; rfl
  · rw [if_neg e, List.filter_cons_of_neg (p := fun x : Int => f x.toNat) e]; rfl
theorem newD_yes {f : Nat → Bool} {c : Nat} {L : List Int} {k : Nat} (hk : k < L.length) (hf : f (L.getD k 0).toNat = true) : newD f c L (k + 1) = newD f c L k := by
  unfold newD; rw [take_snoc (d := 0) hk, List.all_append]; simp only [List.all_cons, List.all_nil, hf, Bool.and_true]
theorem newD_no {f : Nat → Bool} {c : Nat} {L : List Int} {k : Nat} (hk : k < L.length) (hf : f (L.getD k 0).toNat = false) : newD f c L (k + 1) = (c : Int) := by
  unfold newD; rw [take_snoc (d := 0) hk, List.all_append]; simp only [List.all_cons, List.all_nil, hf, Bool.and_false, Bool.false_and]; simp
theorem newD_cases (f : Nat → Bool) (c : Nat) (L : List Int) (k : Nat) : newD f c L k = -1 ∨ newD f c L k = (c : Int) := by
  unfold newD; split <;> simp
/-- At the list's end. -/
theorem climb_end {t : List (List Int)} (h : Semi t) {s : Nat} (hs : s < numJ t) : shN (inS t (us t s)) (ascV t.length (inS t (us t (s + 1)))) (ascV t.length (inS t (us t (s + 1)))).length = (ascV t.length (inS t (us t s))).length ∧ newD (inS t (us t s)) (nxJ t (us t s)) (ascV t.length (inS t (us t (s + 1)))) (ascV t.length (inS t (us t (s + 1)))).length = (nxJ t (us t s) : Int) := by
  have hn := inS_new h hs
  constructor
  · unfold shN
    rw [List.take_of_length_le (Nat.le_refl _)]
    unfold ascV memV memTo
    rw [setB_len, setB_len, List.filter_map, List.length_map, List.length_map, List.filter_filter]
    congr 1
    refine List.filter_congr fun x hx => ?_
    have hx := List.mem_range.1 hx
    rw [setB_get hx, setB_get hx]
    simp only [Function.comp, Int.toNat_natCast]
    cases e : inS t (us t s) x with
    | false => rfl
    | true => rw [inS_up h hs hx e]; rfl
  · unfold newD
    rw [List.take_of_length_le (Nat.le_refl _), if_neg]
    intro hh
    have := List.all_eq_true.1 hh _ (ascV_mem.2 ⟨_, hn.1, hn.2.1, rfl⟩)
    rw [Int.toNat_natCast, hn.2.2] at this; cases this
end Go.Proofs.Ytdmfhcppdpcceaa
