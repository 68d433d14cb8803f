/- Lists under way: what a filter has kept so far, the first that it keeps; the elements of a class's rows and columns. Plain; no program. -/
import Derived.Test.YtfoemneboalddaaNumLaw
import Derived.Test.YtfoemneboalddaaCooLaw3
namespace Go.Proofs.Ytfoemneboalddaa
open Go Go.AM

def fltN (f : Int → Bool) (l : List Int) (i : Nat) : Nat := ((l.take i).filter f).length
theorem flt_pre (f : Int → Bool) (l : List Int) (i : Nat) : (l.take i).filter f = (l.filter f).take (fltN f l i) := by
  have h : l.filter f = (l.take i).filter f ++ (l.drop i).filter f := by rw [← List.filter_append, List.take_append_drop]
  rw [h]; unfold fltN; rw [List.take_left]
theorem flt_le (f : Int → Bool) (l : List Int) (i : Nat) : fltN f l i ≤ (l.filter f).length := by
  have h := congrArg List.length (flt_pre f l i)
  rw [List.length_take] at h
  have h2 : ((l.take i).filter f).length = fltN f l i := rfl
  omega
theorem flt_succ {f : Int → Bool} {l : List Int} {i : Nat} (hi : i < l.length) : (l.take (i + 1)).filter f = (l.take i).filter f ++ if f (l.getD i 0) = true then [l.getD i 0] else [] := by
  rw [take_snoc (d := 0) hi, List.filter_append, List.filter_cons, List.filter_nil]
theorem flt_hit {f : Int → Bool} {l : List Int} {i : Nat} (hi : i < l.length) (hf : f (l.getD i 0) = true) : fltN f l (i + 1) = fltN f l i + 1 ∧ fltN f l i < (l.filter f).length ∧ (l.filter f).getD (fltN f l i) 0 = l.getD i 0 := by
  have h1 : fltN f l (i + 1) = fltN f l i + 1 := by unfold fltN; rw [flt_succ hi, if_pos hf, List.length_append]; rfl
  have h2 := flt_le f l (i + 1)
  have h3 : fltN f l i < (l.filter f).length := by omega
  refine ⟨h1, h3, ?_⟩
  have h4 := flt_pre f l (i + 1)
  rw [flt_succ hi, if_pos hf, h1, take_snoc (d := 0) h3, flt_pre f l i] at h4
  have h5 := List.append_cancel_left h4
  simpa using h5.symm
theorem flt_miss {f : Int → Bool} {l : List Int} {i : Nat} (hi : i < l.length) (hf : f (l.getD i 0) = false) : fltN f l (i + 1) = fltN f l i := by
  unfold fltN; rw [flt_succ hi, if_neg (by rw [hf]; exact Bool.false_ne_true), List.append_nil]
theorem flt_end {f : Int → Bool} {l : List Int} {i : Nat} (hi : l.length ≤ i) : fltN f l i = (l.filter f).length := by
  unfold fltN; rw [List.take_of_length_le hi]
theorem pos_hit {f : Int → Bool} {l P : List Int} {n i : Nat} (hP : P.length = n) (hPy : ∀ y, y < n → P.getD y 0 = posTo (l.filter f) (fltN f l i) y) (hi : i < l.length) (hf : f (l.getD i 0) = true) (h0 : 0 ≤ l.getD i 0 ∧ l.getD i 0 < (n : Int)) :
    ∀ y, y < n → (P.set (l.getD i 0).toNat ((fltN f l i : Nat) : Int)).getD y 0 = posTo (l.filter f) (fltN f l (i + 1)) y := fun y hy => by
  have hh := flt_hit hi hf
  rw [hh.1, posTo, hh.2.2]
  by_cases e : y = (l.getD i 0).toNat
  · rw [if_pos (by omega), e, getD_set_eq (by omega)]
  · rw [if_neg (by omega), getD_set_ne (Ne.symm e), hPy y hy]
theorem filter_first {f : Int → Bool} : ∀ (l : List Int) (k : Nat), k < l.length → (∀ i, i < k → f (l.getD i 0) = false) → f (l.getD k 0) = true → (l.filter f).getD 0 0 = l.getD k 0
  | [], k, h, _, _ => absurd h (Nat.not_lt_zero _)
  | a :: l, 0, _, _, h => by
    have h : f a = true := h
    rw [List.filter_cons, if_pos h]; rfl
  | a :: l, k + 1, hk, h0, h => by
    have ha : f a = false := h0 0 (by omega)
    rw [List.filter_cons, if_neg (by rw [ha]; exact Bool.false_ne_true)]
    exact filter_first l k (by simpa using hk) (fun i hi => h0 (i + 1) (by omega)) h

def lstB (p q : List Int) (c d x : Int) : Bool := decide (p.getD x.toNat 0 = c) && decide (q.getD x.toNat 0 = d)
theorem hit_flt (t : List (List Int)) (j : Nat) (a b : Int) : hitJ t j a b = (elemsJ t j).filter (lstB (classR t) (classL t) a b) := rfl
theorem lst_idx {t : List (List Int)} {j : Nat} (hj : j < numJ t) {a b : Int} (hne : ∃ x, x < t.length ∧ jcl t x = j ∧ rcl t x = a ∧ lcl t x = b) :
    ∃ k, k < (elemsJ t j).length ∧ (∀ i, i < k → lstB (classR t) (classL t) a b ((elemsJ t j).getD i 0) = false) ∧ lstB (classR t) (classL t) a b ((elemsJ t j).getD k 0) = true ∧ (elemsJ t j).getD k 0 = (lstJ t j a b : Int) := by
  obtain ⟨x, hx, h1, h2, h3⟩ := hne
  obtain ⟨i, e1, e2, e3, e4⟩ := idxF_yes (f := lstB (classR t) (classL t) a b) (l := elemsJ t j) ⟨(x : Int), (mem_elems hj).2 ⟨by omega, by omega, h1⟩, by
    unfold lstB; rw [Int.toNat_natCast, decide_eq_true h2, decide_eq_true h3]; rfl⟩
  refine ⟨i, e2, e4, e3, ?_⟩
  have e5 := filter_first _ i e2 e4 e3
  rw [← hit_flt] at e5
  rw [← e5, (lst_of hj ⟨x, hx, h1, h2, h3⟩).2.1]
theorem elems_in {t : List (List Int)} {j : Nat} (hj : j < numJ t) : ∀ x ∈ elemsJ t j, 0 ≤ x ∧ x < ((classR t).length : Int) ∧ x < ((classL t).length : Int) := fun x hx => by
  have := (mem_elems hj).1 hx
  rw [classR_len, classL_len]; omega

section
variable (t : List (List Int)) (j e : Nat)
def rIL : List Int := (List.range (cR t j)).map fun i => ((rI t j e i : Nat) : Int)
def qIL : List Int := (List.range (cC t j)).map fun l => ((qI t j e l : Nat) : Int)
end
theorem rIL_len (t : List (List Int)) (j e : Nat) : (rIL t j e).length = cR t j := by simp [rIL]
theorem qIL_len (t : List (List Int)) (j e : Nat) : (qIL t j e).length = cC t j := by simp [qIL]
theorem rIL_get {t : List (List Int)} {j e i : Nat} (hi : i < cR t j) : (rIL t j e).getD i 0 = (rI t j e i : Int) := map_range_getD _ _ _ _ hi
theorem qIL_get {t : List (List Int)} {j e i : Nat} (hi : i < cC t j) : (qIL t j e).getD i 0 = (qI t j e i : Int) := map_range_getD _ _ _ _ hi
theorem cR_le {t : List (List Int)} {j e : Nat} (c : Coo t j e) : cR t j ≤ (elemsJ t j).length := by
  rw [c.count]
  have h1 := Nat.mul_le_mul (Nat.mul_le_mul (Nat.le_refl (cR t j)) c.posH) c.posC
  omega
theorem cC_le {t : List (List Int)} {j e : Nat} (c : Coo t j e) : cC t j ≤ (elemsJ t j).length := by
  rw [c.count]
  have h1 := Nat.mul_le_mul (Nat.mul_le_mul c.posR c.posH) (Nat.le_refl (cC t j))
  omega
theorem cH_le {t : List (List Int)} {j e : Nat} : cH t j e ≤ (elemsJ t j).length := by
  unfold cH hLs hitJ; exact List.length_filter_le _ _
theorem hLs_get {t : List (List Int)} {j e : Nat} (c : Coo t j e) {g : Nat} (hg : g < cH t j e) : (hLs t j e).getD g 0 = (gI t j e g : Int) := (c.hCl.el hg).2.1
end Go.Proofs.Ytfoemneboalddaa
