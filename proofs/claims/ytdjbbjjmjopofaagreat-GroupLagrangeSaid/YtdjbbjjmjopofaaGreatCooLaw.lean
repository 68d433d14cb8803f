/- Rees coordinates of a J-class with an idempotent: what they are, and that they are right. Plain; no program. -/
import Derived.Test.YtdjbbjjmjopofaaGreatGrnLaw
import Derived.Test.YtdjbbjjmjopofaaGreatSubLaw
import Derived.Test.YtdjbbjjmjopofaaGreatReesLaw
namespace Go.Proofs.YtdjbbjjmjopofaaGreat
open Go Go.AM

section
variable (t : List (List Int)) (j e : Nat)
abbrev rcl (x : Nat) : Int := (classR t).getD x 0
abbrev lcl (x : Nat) : Int := (classL t).getD x 0
abbrev jcl (x : Nat) : Int := (classJ t).getD x 0
/-- The box of a row and a column. -/
def hitJ (a b : Int) : List Int := (elemsJ t j).filter fun x => decide (rcl t x.toNat = a) && decide (lcl t x.toNat = b)
def hLs : List Int := hitJ t j (rcl t e) (lcl t e)
def gI (g : Nat) : Nat := eL (hLs t j e) g
def cooG : List (List Int) := subT t (hLs t j e)
end

theorem elemsJ_asc {t : List (List Int)} {j : Nat} (hj : j < numJ t) : elemsJ t j = ascV t.length fun x => decide (jcl t x = (j : Int)) := by
  rw [elemsJ_eq hj]; unfold ascV memV memTo; rw [setB_len]
  congr 1
  refine List.filter_congr fun x hx => ?_
  rw [setB_get (List.mem_range.1 hx)]
theorem ascV_filter (n : Nat) (f g : Nat → Bool) : (ascV n f).filter (fun x => g x.toNat) = ascV n fun x => f x && g x := by
  unfold ascV memV memTo
  rw [setB_len, setB_len, List.filter_map, List.filter_filter]
  congr 1
  refine List.filter_congr fun x hx => ?_
  have hx := List.mem_range.1 hx
  rw [setB_get hx, setB_get hx]
  simp only [Function.comp, Int.toNat_natCast]
  rw [Bool.and_comm]
theorem hitJ_asc {t : List (List Int)} {j : Nat} (hj : j < numJ t) (a b : Int) : hitJ t j a b = ascV t.length fun x => decide (jcl t x = (j : Int)) && (decide (rcl t x = a) && decide (lcl t x = b)) := by
  unfold hitJ; rw [elemsJ_asc hj, ascV_filter t.length (fun x => decide (jcl t x = (j : Int))) (fun x => decide (rcl t x = a) && decide (lcl t x = b))]
theorem mem_hit {t : List (List Int)} {j : Nat} (hj : j < numJ t) {a b : Int} {x : Nat} : (x : Int) ∈ hitJ t j a b ↔ x < t.length ∧ jcl t x = j ∧ rcl t x = a ∧ lcl t x = b := by
  rw [hitJ_asc hj, ascV_mem]
  constructor
  · rintro ⟨i, hi, hf, e⟩
    obtain rfl : x = i := by omega
    simp only [Bool.and_eq_true, decide_eq_true_eq] at hf
    exact ⟨hi, hf.1, hf.2.1, hf.2.2⟩
  · rintro ⟨hx, h1, h2, h3⟩
    exact ⟨x, hx, by simp only [Bool.and_eq_true, decide_eq_true_eq]; exact ⟨h1, h2, h3⟩, rfl⟩
/-- A J-class with an idempotent e. -/
structure Coo (t : List (List Int)) (j e : Nat) : Prop where
  semi : Semi t
  hj : j < numJ t
  he : e < t.length
  ee : en t e e = e
  ej : jcl t e = j

theorem rcl_iff {t : List (List Int)} (h : Semi t) {x y : Nat} (hx : x < t.length) (hy : y < t.length) : rcl t x = rcl t y ↔ (inRB t x y = true ∧ inRB t y x = true) := clsL_iff (preR h) hx hy
theorem lcl_iff {t : List (List Int)} (h : Semi t) {x y : Nat} (hx : x < t.length) (hy : y < t.length) : lcl t x = lcl t y ↔ (inLB t x y = true ∧ inLB t y x = true) := clsL_iff (preL h) hx hy
theorem jR {t : List (List Int)} (h : Semi t) {x y : Nat} (hx : x < t.length) (hxy : inRB t x y = true) : inJB t x y = true := (inJB_iff h.toSh hx).2 ⟨x, hx, (preL h).refl x hx, hxy⟩
theorem rcl_j {t : List (List Int)} (h : Semi t) {x y : Nat} (hx : x < t.length) (hy : y < t.length) (he : rcl t x = rcl t y) : jcl t x = jcl t y := by
  have := (rcl_iff h hx hy).1 he
  exact (classJ_iff h hx hy).2 ⟨jR h hx this.1, jR h hy this.2⟩
namespace Coo
variable {t : List (List Int)} {j e : Nat} (c : Coo t j e)
include c
abbrev m (c : Coo t j e) := mF t c.semi.toSh
abbrev E (c : Coo t j e) : Fin t.length := ⟨e, c.he⟩
theorem I : Idm c.m c.E := idm c.semi c.he c.ee
theorem inL_iff (x : Fin t.length) : lcl t x = lcl t e ↔ InL c.m c.E x := by
  rw [lcl_iff c.semi x.2 c.he]
  constructor
  · rintro ⟨h1, h2⟩
    have h1 := (llA_iff c.semi x c.E).2 h1
    have h2 := (llA_iff c.semi c.E x).2 h2
    refine ⟨?_, h1.elim (fun hh => ⟨c.E, by rw [← hh, c.I.ee]⟩) id⟩
    rcases h2 with hh | ⟨s, hs⟩
    · rw [hh, c.I.ee]
    · rw [← hs, c.I.ac, c.I.ee]
  · rintro ⟨h1, h2⟩
    exact ⟨(llA_iff c.semi x c.E).1 (.inr h2), (llA_iff c.semi c.E x).1 (.inr ⟨x, h1⟩)⟩
theorem inR_iff (x : Fin t.length) : rcl t x = rcl t e ↔ InR c.m c.E x := by
  rw [rcl_iff c.semi x.2 c.he]
  constructor
  · rintro ⟨h1, h2⟩
    have h1 := (rrA_iff c.semi x c.E).2 h1
    have h2 := (rrA_iff c.semi c.E x).2 h2
    refine ⟨?_, h1.elim (fun hh => ⟨c.E, by rw [← hh, c.I.ee]⟩) id⟩
    rcases h2 with hh | ⟨s, hs⟩
    · rw [hh, c.I.ee]
    · rw [← hs, ← c.I.ac, c.I.ee]
  · rintro ⟨h1, h2⟩
    exact ⟨(rrA_iff c.semi x c.E).1 (.inr h2), (rrA_iff c.semi c.E x).1 (.inr ⟨x, h1⟩)⟩
theorem inH_iff (x : Fin t.length) : (rcl t x = rcl t e ∧ lcl t x = lcl t e) ↔ InH c.m c.E x := by
  rw [c.inR_iff, c.inL_iff]
  exact ⟨fun ⟨a, b⟩ => ⟨a.l, b.r, b.l, a.r⟩, fun a => ⟨⟨a.l, a.ir⟩, ⟨a.r, a.il⟩⟩⟩
theorem hLs_asc : hLs t j e = ascV t.length fun x => decide (jcl t x = (j : Int)) && (decide (rcl t x = rcl t e) && decide (lcl t x = lcl t e)) := hitJ_asc c.hj _ _
theorem mem_hLs {x : Nat} : setI (hLs t j e) x = true ↔ x < t.length ∧ rcl t x = rcl t e ∧ lcl t x = lcl t e := by
  rw [setI_iff]; unfold hLs; rw [mem_hit c.hj]
  exact ⟨fun h => ⟨h.1, h.2.2⟩, fun h => ⟨h.1, (rcl_j c.semi h.1 c.he h.2.1).trans c.ej, h.2⟩⟩
theorem hCl : ClL t (hLs t j e) where
  pos := List.length_pos_of_mem (setI_iff.1 (c.mem_hLs.2 ⟨c.he, rfl, rfl⟩))
  asc := by rw [c.hLs_asc]; exact ascV_asc _ _
  ins := fun x hx => by rw [c.hLs_asc] at hx; exact ascV_in hx
  cl := fun x y hx hy h1 h2 => by
    have h1 := (c.inH_iff ⟨x, hx⟩).1 (c.mem_hLs.1 h1).2
    have h2 := (c.inH_iff ⟨y, hy⟩).1 (c.mem_hLs.1 h2).2
    have h3 := (c.inH_iff _).2 (c.I.hmul h1 h2)
    exact c.mem_hLs.2 ⟨(c.semi.toSh.ent hx hy).2, h3⟩
theorem hlen : (hLs t j e).length ≤ t.length := by rw [c.hLs_asc]; exact ascV_len _ _
theorem gI_ok {g : Nat} (hg : g < (hLs t j e).length) : gI t j e g < t.length ∧ rcl t (gI t j e g) = rcl t e ∧ lcl t (gI t j e g) = lcl t e := by
  have := c.hCl.el hg
  have h2 := c.mem_hLs.1 this.2.2
  exact h2
theorem hH {g : Nat} (hg : g < (hLs t j e).length) : InH c.m c.E ⟨gI t j e g, (c.gI_ok hg).1⟩ := (c.inH_iff ⟨_, (c.gI_ok hg).1⟩).1 (c.gI_ok hg).2
/-- The group. -/
theorem grp : Grp (cooG t j e) := by
  refine ⟨sub_semi c.semi c.hCl c.hlen, ?_⟩
  have pe := pL_in (c.mem_hLs.2 ⟨c.he, rfl, rfl⟩)
  refine ⟨pL (hLs t j e) e, by unfold cooG; rw [subT_len]; exact pe.2.1, fun x hx => ?_, fun x hx => ?_⟩
  · unfold cooG at hx ⊢
    rw [subT_len] at hx
    have ex := c.hH hx
    have n1 : en t e (eL (hLs t j e) x) = eL (hLs t j e) x := congrArg Fin.val ex.l
    have n2 : en t (eL (hLs t j e) x) e = eL (hLs t j e) x := congrArg Fin.val ex.r
    rw [(sub_en c.hCl pe.2.1 hx).1, (sub_en c.hCl hx pe.2.1).1, pe.2.2, n1, n2, pL_el c.hCl hx]
    exact ⟨rfl, rfl⟩
  · unfold cooG at hx ⊢
    rw [subT_len] at hx
    obtain ⟨y, hy, h3, h4⟩ := c.I.hinv (c.hH hx)
    have my := (c.inH_iff y).2 hy
    have py := pL_in (c.mem_hLs.2 ⟨y.2, my⟩)
    have h3 : en t (eL (hLs t j e) x) y = e := congrArg Fin.val h3
    have h4 : en t y (eL (hLs t j e) x) = e := congrArg Fin.val h4
    refine ⟨pL (hLs t j e) y, by rw [subT_len]; exact py.2.1, ?_, ?_⟩
    · rw [(sub_en c.hCl hx py.2.1).1, py.2.2, h3]
    · rw [(sub_en c.hCl py.2.1 hx).1, py.2.2, h4]
end Coo
end Go.Proofs.YtdjbbjjmjopofaaGreat
