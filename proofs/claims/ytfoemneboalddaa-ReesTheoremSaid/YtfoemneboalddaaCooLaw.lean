/- Rees coordinates of a J-class with an idempotent: what they are, and that they are right. Plain; no program. -/
import Derived.Test.YtfoemneboalddaaGrnLaw
import Derived.Test.YtfoemneboalddaaSubLaw
import Derived.Test.YtfoemneboalddaaReesLaw
namespace Go.Proofs.Ytfoemneboalddaa
open Go Go.AM

section
variable (t : List (List Int)) (j e : Nat)
abbrev rcl (x : Nat) : Int := (classR t).getD x 0
abbrev lcl (x : Nat) : Int := (classL t).getD x 0
abbrev jcl (x : Nat) : Int := (classJ t).getD x 0
/-- The numbers of a class's rows, and of its columns. -/
def rowsN : List Int := ascV (classN (classR t)) fun c => (elemsJ t j).any fun x => decide (rcl t x.toNat = (c : Int))
def colsN : List Int := ascV (classN (classL t)) fun c => (elemsJ t j).any fun x => decide (lcl t x.toNat = (c : Int))
/-- The box of a row and a column. -/
def hitJ (a b : Int) : List Int := (elemsJ t j).filter fun x => decide (rcl t x.toNat = a) && decide (lcl t x.toNat = b)
def lstJ (a b : Int) : Nat := ((hitJ t j a b).getD 0 0).toNat
def hLs : List Int := hitJ t j (rcl t e) (lcl t e)
def rI (i : Nat) : Nat := lstJ t j ((rowsN t j).getD i 0) (lcl t e)
def qI (l : Nat) : Nat := lstJ t j (rcl t e) ((colsN t j).getD l 0)
def gI (g : Nat) : Nat := eL (hLs t j e) g
def cooG : List (List Int) := subT t (hLs t j e)
def cooP : List (List Int) := (List.range (colsN t j).length).map fun l => (List.range (rowsN t j).length).map fun i => posTo (hLs t j e) (hLs t j e).length (en t (qI t j e l) (rI t j e i))
def tri (i g l : Nat) : Nat := en t (en t (rI t j e i) (gI t j e g)) (qI t j e l)
end

theorem elemsJ_asc {t : List (List Int)} {j : Nat} (hj : j < numJ t) : elemsJ t j = ascV t.length fun x => decide (jcl t x = (j : Int)) := by
  rw [elemsJ_eq hj]; unfold ascV memV memTo; rw [setB_len]
  congr 1
  refine List.filter_congr fun x hx => ?_
  rw [setB_get (List.mem_range.1 hx)]
theorem ascV_filter (n : Nat) (f g : Nat → Bool) : (ascV n f).filter (fun x => g x.toNat) = ascV n fun x => f x && g x := by
  unfold ascV memV memTo
  rw [setB_len, setB_len, List.filter_map, List.filter_filter]
  congr 1
  refine List.filter_congr fun x hx => ?_
  have hx := List.mem_range.1 hx
  rw [setB_get hx, setB_get hx]
  simp only [Function.comp, Int.toNat_natCast]
  rw [Bool.and_comm]
theorem hitJ_asc {t : List (List Int)} {j : Nat} (hj : j < numJ t) (a b : Int) : hitJ t j a b = ascV t.length fun x => decide (jcl t x = (j : Int)) && (decide (rcl t x = a) && decide (lcl t x = b)) := by
  unfold hitJ; rw [elemsJ_asc hj, ascV_filter t.length (fun x => decide (jcl t x = (j : Int))) (fun x => decide (rcl t x = a) && decide (lcl t x = b))]
theorem mem_hit {t : List (List Int)} {j : Nat} (hj : j < numJ t) {a b : Int} {x : Nat} : (x : Int) ∈ hitJ t j a b ↔ x < t.length ∧ jcl t x = j ∧ rcl t x = a ∧ lcl t x = b := by
  rw [hitJ_asc hj, ascV_mem]
  constructor
  · rintro ⟨i, hi, hf, e⟩
    obtain rfl : x = i := by omega
    simp only [Bool.and_eq_true, decide_eq_true_eq] at hf
    exact ⟨hi, hf.1, hf.2.1, hf.2.2⟩
  · rintro ⟨hx, h1, h2, h3⟩
    exact ⟨x, hx, by simp only [Bool.and_eq_true, decide_eq_true_eq]; exact ⟨h1, h2, h3⟩, rfl⟩
theorem lst_of {t : List (List Int)} {j : Nat} (hj : j < numJ t) {a b : Int} (hne : ∃ x, x < t.length ∧ jcl t x = j ∧ rcl t x = a ∧ lcl t x = b) :
    0 < (hitJ t j a b).length ∧ (hitJ t j a b).getD 0 0 = (lstJ t j a b : Int) ∧ lstJ t j a b < t.length ∧ jcl t (lstJ t j a b) = j ∧ rcl t (lstJ t j a b) = a ∧ lcl t (lstJ t j a b) = b := by
  obtain ⟨x, hx⟩ := hne
  have hp : 0 < (hitJ t j a b).length := List.length_pos_of_mem ((mem_hit hj).2 hx)
  have h0 := getD_mem (d := 0) hp
  have hr : 0 ≤ (hitJ t j a b).getD 0 0 := by
    have := h0
    rw [hitJ_asc hj] at this ⊢
    exact (ascV_in this).1
  have e : (hitJ t j a b).getD 0 0 = (lstJ t j a b : Int) := by unfold lstJ; omega
  rw [e] at h0
  exact ⟨hp, e, (mem_hit hj).1 h0⟩

/-- A J-class with an idempotent e. -/
structure Coo (t : List (List Int)) (j e : Nat) : Prop where
  semi : Semi t
  hj : j < numJ t
  he : e < t.length
  ee : en t e e = e
  ej : jcl t e = j

theorem rcl_iff {t : List (List Int)} (h : Semi t) {x y : Nat} (hx : x < t.length) (hy : y < t.length) : rcl t x = rcl t y ↔ (inRB t x y = true ∧ inRB t y x = true) := clsL_iff (preR h) hx hy
theorem lcl_iff {t : List (List Int)} (h : Semi t) {x y : Nat} (hx : x < t.length) (hy : y < t.length) : lcl t x = lcl t y ↔ (inLB t x y = true ∧ inLB t y x = true) := clsL_iff (preL h) hx hy
theorem jR {t : List (List Int)} (h : Semi t) {x y : Nat} (hx : x < t.length) (hxy : inRB t x y = true) : inJB t x y = true := (inJB_iff h.toSh hx).2 ⟨x, hx, (preL h).refl x hx, hxy⟩
theorem jL {t : List (List Int)} (h : Semi t) {x y : Nat} (hx : x < t.length) (hxy : inLB t x y = true) : inJB t x y = true := (inJB_iff h.toSh hx).2 ⟨y, inL_lt h.toSh hx hxy, hxy, (preR h).refl y (inL_lt h.toSh hx hxy)⟩
theorem rcl_j {t : List (List Int)} (h : Semi t) {x y : Nat} (hx : x < t.length) (hy : y < t.length) (he : rcl t x = rcl t y) : jcl t x = jcl t y := by
  have := (rcl_iff h hx hy).1 he
  exact (classJ_iff h hx hy).2 ⟨jR h hx this.1, jR h hy this.2⟩
theorem lcl_j {t : List (List Int)} (h : Semi t) {x y : Nat} (hx : x < t.length) (hy : y < t.length) (he : lcl t x = lcl t y) : jcl t x = jcl t y := by
  have := (lcl_iff h hx hy).1 he
  exact (classJ_iff h hx hy).2 ⟨jL h hx this.1, jL h hy this.2⟩

namespace Coo
variable {t : List (List Int)} {j e : Nat} (c : Coo t j e)
include c
abbrev m (c : Coo t j e) := mF t c.semi.toSh
abbrev E (c : Coo t j e) : Fin t.length := ⟨e, c.he⟩
theorem I : Idm c.m c.E := idm c.semi c.he c.ee
theorem inL_iff (x : Fin t.length) : lcl t x = lcl t e ↔ InL c.m c.E x := by
  rw [lcl_iff c.semi x.2 c.he]
  constructor
  · rintro ⟨h1, h2⟩
    have h1 := (llA_iff c.semi x c.E).2 h1
    have h2 := (llA_iff c.semi c.E x).2 h2
    refine ⟨?_, h1.elim (fun hh => ⟨c.E, by rw [← hh, c.I.ee]⟩) id⟩
    rcases h2 with hh | ⟨s, hs⟩
    · rw [hh, c.I.ee]
    · rw [← hs, c.I.ac, c.I.ee]
  · rintro ⟨h1, h2⟩
    exact ⟨(llA_iff c.semi x c.E).1 (.inr h2), (llA_iff c.semi c.E x).1 (.inr ⟨x, h1⟩)⟩
theorem inR_iff (x : Fin t.length) : rcl t x = rcl t e ↔ InR c.m c.E x := by
  rw [rcl_iff c.semi x.2 c.he]
  constructor
  · rintro ⟨h1, h2⟩
    have h1 := (rrA_iff c.semi x c.E).2 h1
    have h2 := (rrA_iff c.semi c.E x).2 h2
    refine ⟨?_, h1.elim (fun hh => ⟨c.E, by rw [← hh, c.I.ee]⟩) id⟩
    rcases h2 with hh | ⟨s, hs⟩
    · rw [hh, c.I.ee]
    · rw [← hs, ← c.I.ac, c.I.ee]
  · rintro ⟨h1, h2⟩
    exact ⟨(rrA_iff c.semi x c.E).1 (.inr h2), (rrA_iff c.semi c.E x).1 (.inr ⟨x, h1⟩)⟩
theorem inH_iff (x : Fin t.length) : (rcl t x = rcl t e ∧ lcl t x = lcl t e) ↔ InH c.m c.E x := by
  rw [c.inR_iff, c.inL_iff]
  exact ⟨fun ⟨a, b⟩ => ⟨a.l, b.r, b.l, a.r⟩, fun a => ⟨⟨a.l, a.ir⟩, ⟨a.r, a.il⟩⟩⟩
/-- In the class: e comes from it, and it from e. -/
theorem in_iff (x : Fin t.length) : jcl t x = j ↔ (Up c.m c.E x ∧ ∃ a b, c.m (c.m a c.E) b = x) := by
  rw [← c.ej, classJ_iff c.semi x.2 c.he]
  constructor
  · rintro ⟨h1, h2⟩
    exact ⟨up_of c.semi c.he c.ee h1, down_of c.semi c.he c.ee h2⟩
  · rintro ⟨⟨a, b, h1⟩, ⟨a', b', h2⟩⟩
    refine ⟨?_, ?_⟩
    · have := inJ_of c.semi (a := a) (y := x) (b := b)
      rw [show mF t c.semi.toSh (mF t c.semi.toSh a x) b = c.E from h1] at this; exact this
    · have := inJ_of c.semi (a := a') (y := c.E) (b := b')
      rw [show mF t c.semi.toSh (mF t c.semi.toSh a' c.E) b' = x from h2] at this; exact this
theorem mem_rows {a : Int} : a ∈ rowsN t j ↔ ∃ x, x < t.length ∧ jcl t x = j ∧ rcl t x = a := by
  unfold rowsN; rw [ascV_mem]
  constructor
  · rintro ⟨i, hi, hf, rfl⟩
    obtain ⟨x, hx, hd⟩ := List.any_eq_true.1 hf
    have := (mem_elems c.hj).1 hx
    exact ⟨x.toNat, by omega, this.2.2, of_decide_eq_true hd⟩
  · rintro ⟨x, hx, h1, h2⟩
    have hv := (valid_range (p := classR t) (canon_idem _) (rcl t x)).2 (getD_mem (by rw [classR_len]; exact hx))
    refine ⟨(rcl t x).toNat, by omega, List.any_eq_true.2 ⟨(x : Int), (mem_elems c.hj).2 ⟨by omega, by omega, h1⟩, decide_eq_true ?_⟩, by omega⟩
    rw [Int.toNat_natCast]; omega
theorem mem_cols {a : Int} : a ∈ colsN t j ↔ ∃ x, x < t.length ∧ jcl t x = j ∧ lcl t x = a := by
  unfold colsN; rw [ascV_mem]
  constructor
  · rintro ⟨i, hi, hf, rfl⟩
    obtain ⟨x, hx, hd⟩ := List.any_eq_true.1 hf
    have := (mem_elems c.hj).1 hx
    exact ⟨x.toNat, by omega, this.2.2, of_decide_eq_true hd⟩
  · rintro ⟨x, hx, h1, h2⟩
    have hv := (valid_range (p := classL t) (canon_idem _) (lcl t x)).2 (getD_mem (by rw [classL_len]; exact hx))
    refine ⟨(lcl t x).toNat, by omega, List.any_eq_true.2 ⟨(x : Int), (mem_elems c.hj).2 ⟨by omega, by omega, h1⟩, decide_eq_true ?_⟩, by omega⟩
    rw [Int.toNat_natCast]; omega
/-- Every row meets the column of e, every column its row. -/
theorem row_meets {a : Int} (ha : a ∈ rowsN t j) : ∃ x, x < t.length ∧ jcl t x = j ∧ rcl t x = a ∧ lcl t x = lcl t e := by
  obtain ⟨x, hx, h1, h2⟩ := (c.mem_rows).1 ha
  have h3 := (c.in_iff ⟨x, hx⟩).1 h1
  obtain ⟨r, g1, g2, g3⟩ := c.I.rowOf h3.1 h3.2
  have hl := (c.inL_iff r).2 g1
  refine ⟨r, r.2, (lcl_j c.semi r.2 c.he hl).trans c.ej, ?_, hl⟩
  rw [← h2]
  exact (rcl_iff c.semi r.2 hx).2 ⟨(rrA_iff c.semi r ⟨x, hx⟩).1 g2, (rrA_iff c.semi ⟨x, hx⟩ r).1 g3⟩
theorem col_meets {a : Int} (ha : a ∈ colsN t j) : ∃ x, x < t.length ∧ jcl t x = j ∧ rcl t x = rcl t e ∧ lcl t x = a := by
  obtain ⟨x, hx, h1, h2⟩ := (c.mem_cols).1 ha
  have h3 := (c.in_iff ⟨x, hx⟩).1 h1
  obtain ⟨r, g1, g2, g3⟩ := c.I.colOf h3.1 h3.2
  have hl := (c.inR_iff r).2 g1
  refine ⟨r, r.2, (rcl_j c.semi r.2 c.he hl).trans c.ej, hl, ?_⟩
  rw [← h2]
  exact (lcl_iff c.semi r.2 hx).2 ⟨(llA_iff c.semi r ⟨x, hx⟩).1 g2, (llA_iff c.semi ⟨x, hx⟩ r).1 g3⟩
theorem rI_ok {i : Nat} (hi : i < (rowsN t j).length) : rI t j e i < t.length ∧ jcl t (rI t j e i) = j ∧ rcl t (rI t j e i) = (rowsN t j).getD i 0 ∧ lcl t (rI t j e i) = lcl t e := (lst_of c.hj (c.row_meets (getD_mem hi))).2.2
theorem qI_ok {l : Nat} (hl : l < (colsN t j).length) : qI t j e l < t.length ∧ jcl t (qI t j e l) = j ∧ rcl t (qI t j e l) = rcl t e ∧ lcl t (qI t j e l) = (colsN t j).getD l 0 := (lst_of c.hj (c.col_meets (getD_mem hl))).2.2
theorem hLs_asc : hLs t j e = ascV t.length fun x => decide (jcl t x = (j : Int)) && (decide (rcl t x = rcl t e) && decide (lcl t x = lcl t e)) := hitJ_asc c.hj _ _
theorem mem_hLs {x : Nat} : setI (hLs t j e) x = true ↔ x < t.length ∧ rcl t x = rcl t e ∧ lcl t x = lcl t e := by
  rw [setI_iff]; unfold hLs; rw [mem_hit c.hj]
  exact ⟨fun h => ⟨h.1, h.2.2⟩, fun h => ⟨h.1, (rcl_j c.semi h.1 c.he h.2.1).trans c.ej, h.2⟩⟩
theorem hCl : ClL t (hLs t j e) where
  pos := List.length_pos_of_mem (setI_iff.1 (c.mem_hLs.2 ⟨c.he, rfl, rfl⟩))
  asc := by rw [c.hLs_asc]; exact ascV_asc _ _
  ins := fun x hx => by rw [c.hLs_asc] at hx; exact ascV_in hx
  cl := fun x y hx hy h1 h2 => by
    have h1 := (c.inH_iff ⟨x, hx⟩).1 (c.mem_hLs.1 h1).2
    have h2 := (c.inH_iff ⟨y, hy⟩).1 (c.mem_hLs.1 h2).2
    have h3 := (c.inH_iff _).2 (c.I.hmul h1 h2)
    exact c.mem_hLs.2 ⟨(c.semi.toSh.ent hx hy).2, h3⟩
theorem hlen : (hLs t j e).length ≤ t.length := by rw [c.hLs_asc]; exact ascV_len _ _
theorem gI_ok {g : Nat} (hg : g < (hLs t j e).length) : gI t j e g < t.length ∧ rcl t (gI t j e g) = rcl t e ∧ lcl t (gI t j e g) = lcl t e := by
  have := c.hCl.el hg
  have h2 := c.mem_hLs.1 this.2.2
  exact h2
theorem hH {g : Nat} (hg : g < (hLs t j e).length) : InH c.m c.E ⟨gI t j e g, (c.gI_ok hg).1⟩ := (c.inH_iff ⟨_, (c.gI_ok hg).1⟩).1 (c.gI_ok hg).2
theorem hRr {i : Nat} (hi : i < (rowsN t j).length) : InL c.m c.E ⟨rI t j e i, (c.rI_ok hi).1⟩ := (c.inL_iff ⟨_, (c.rI_ok hi).1⟩).1 (c.rI_ok hi).2.2.2
theorem hQq {l : Nat} (hl : l < (colsN t j).length) : InR c.m c.E ⟨qI t j e l, (c.qI_ok hl).1⟩ := (c.inR_iff ⟨_, (c.qI_ok hl).1⟩).1 (c.qI_ok hl).2.2.1
/-- The group. -/
theorem grp : Grp (cooG t j e) := by
  refine ⟨sub_semi c.semi c.hCl c.hlen, ?_⟩
  have pe := pL_in (c.mem_hLs.2 ⟨c.he, rfl, rfl⟩)
  refine ⟨pL (hLs t j e) e, by unfold cooG; rw [subT_len]; exact pe.2.1, fun x hx => ?_, fun x hx => ?_⟩
  · unfold cooG at hx ⊢
    rw [subT_len] at hx
    have ex := c.hH hx
    have n1 : en t e (eL (hLs t j e) x) = eL (hLs t j e) x := congrArg Fin.val ex.l
    have n2 : en t (eL (hLs t j e) x) e = eL (hLs t j e) x := congrArg Fin.val ex.r
    rw [(sub_en c.hCl pe.2.1 hx).1, (sub_en c.hCl hx pe.2.1).1, pe.2.2, n1, n2, pL_el c.hCl hx]
    exact ⟨rfl, rfl⟩
  · unfold cooG at hx ⊢
    rw [subT_len] at hx
    obtain ⟨y, hy, h3, h4⟩ := c.I.hinv (c.hH hx)
    have my := (c.inH_iff y).2 hy
    have py := pL_in (c.mem_hLs.2 ⟨y.2, my⟩)
    have h3 : en t (eL (hLs t j e) x) y = e := congrArg Fin.val h3
    have h4 : en t y (eL (hLs t j e) x) = e := congrArg Fin.val h4
    refine ⟨pL (hLs t j e) y, by rw [subT_len]; exact py.2.1, ?_, ?_⟩
    · rw [(sub_en c.hCl hx py.2.1).1, py.2.2, h3]
    · rw [(sub_en c.hCl py.2.1 hx).1, py.2.2, h4]
omit c in
theorem glen : (cooG t j e).length = (hLs t j e).length := subT_len _ _

theorem tri_ok {i g l : Nat} (hi : i < (rowsN t j).length) (hg : g < (hLs t j e).length) (hl : l < (colsN t j).length) :
    tri t j e i g l < t.length ∧ jcl t (tri t j e i g l) = j ∧ rcl t (tri t j e i g l) = (rowsN t j).getD i 0 ∧ lcl t (tri t j e i g l) = (colsN t j).getD l 0 := by
  have r := c.rI_ok hi
  have q := c.qI_ok hl
  have gg := c.gI_ok hg
  obtain ⟨⟨w, h1⟩, ⟨v, h2⟩, h3⟩ := c.I.back (c.hRr hi) (c.hQq hl) (c.hH hg)
  have hlt : tri t j e i g l < t.length := (c.semi.toSh.ent (c.semi.toSh.ent r.1 gg.1).2 q.1).2
  have e1 : rcl t (tri t j e i g l) = rcl t (rI t j e i) := (rcl_iff c.semi hlt r.1).2 ⟨(rrA_iff c.semi ⟨_, hlt⟩ ⟨_, r.1⟩).1 (.inr ⟨w, h1⟩), (rrA_iff c.semi ⟨_, r.1⟩ ⟨_, hlt⟩).1 (.inr ⟨c.m ⟨_, gg.1⟩ ⟨_, q.1⟩, (c.I.ac _ _ _).symm⟩)⟩
  have e2 : lcl t (tri t j e i g l) = lcl t (qI t j e l) := (lcl_iff c.semi hlt q.1).2 ⟨(llA_iff c.semi ⟨_, hlt⟩ ⟨_, q.1⟩).1 (.inr ⟨v, h2⟩), (llA_iff c.semi ⟨_, q.1⟩ ⟨_, hlt⟩).1 (.inr ⟨c.m ⟨_, r.1⟩ ⟨_, gg.1⟩, rfl⟩)⟩
  exact ⟨hlt, (rcl_j c.semi hlt r.1 e1).trans r.2.1, e1.trans r.2.2.1, e2.trans q.2.2.2⟩
omit c in
theorem rows_asc : Asc (rowsN t j) := ascV_asc _ _
omit c in
theorem cols_asc : Asc (colsN t j) := ascV_asc _ _
theorem tri_inj {i g l i' g' l' : Nat} (hi : i < (rowsN t j).length) (hg : g < (hLs t j e).length) (hl : l < (colsN t j).length) (hi' : i' < (rowsN t j).length) (hg' : g' < (hLs t j e).length) (hl' : l' < (colsN t j).length)
    (he : tri t j e i g l = tri t j e i' g' l') : i = i' ∧ g = g' ∧ l = l' := by
  have a := c.tri_ok hi hg hl
  have b := c.tri_ok hi' hg' hl'
  have ei : i = i' := asc_inj rows_asc hi hi' (by rw [← a.2.2.1, ← b.2.2.1, he])
  have el : l = l' := asc_inj cols_asc hl hl' (by rw [← a.2.2.2, ← b.2.2.2, he])
  subst ei; subst el
  have := c.I.inj (c.hRr hi) (c.hQq hl) (c.hH hg) (c.hH hg') (Fin.ext he)
  exact ⟨rfl, eL_inj c.hCl hg hg' (congrArg Fin.val this), rfl⟩
theorem tri_all {x : Nat} (hx : x < t.length) (hc : jcl t x = j) : ∃ i g l, i < (rowsN t j).length ∧ g < (hLs t j e).length ∧ l < (colsN t j).length ∧ tri t j e i g l = x := by
  obtain ⟨i, hi, ei⟩ := mem_getD 0 (c.mem_rows.2 ⟨x, hx, hc, rfl⟩)
  obtain ⟨l, hl, el⟩ := mem_getD 0 (c.mem_cols.2 ⟨x, hx, hc, rfl⟩)
  have r := c.rI_ok hi
  have q := c.qI_ok hl
  have h3 := (c.in_iff ⟨x, hx⟩).1 hc
  have rx := (rcl_iff c.semi r.1 hx).1 (r.2.2.1.trans ei)
  have qx := (lcl_iff c.semi q.1 hx).1 (q.2.2.2.trans el)
  obtain ⟨g, hg, hgx⟩ := c.I.dec h3.1 (c.hRr hi) (c.hQq hl) ((rrA_iff c.semi ⟨_, r.1⟩ ⟨x, hx⟩).2 rx.1) ((llA_iff c.semi ⟨_, q.1⟩ ⟨x, hx⟩).2 qx.1)
  have mg := (c.inH_iff g).2 hg
  have pg := pL_in (c.mem_hLs.2 ⟨g.2, mg⟩)
  refine ⟨i, pL (hLs t j e) g, l, hi, pg.2.1, hl, ?_⟩
  unfold tri gI; rw [pg.2.2]
  exact congrArg Fin.val hgx
end Coo
end Go.Proofs.Ytfoemneboalddaa
