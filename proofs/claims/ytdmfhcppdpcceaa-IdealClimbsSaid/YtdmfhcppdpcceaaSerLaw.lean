/- The principal series: plain. -/
import Derived.Test.YtdmfhcppdpcceaaIdealsLaw
namespace Go.Proofs.Ytdmfhcppdpcceaa
open Go Go.AM

/-- Class k is below class i. -/
def bel (t : List (List Int)) (k i : Nat) : Bool := inJB t (fstC (classJ t) i) (fstC (classJ t) k)
theorem bel_get {t : List (List Int)} {k i : Nat} (hk : k < numJ t) (hi : i < numJ t) : ((belowL t).getD k []).getD i false = bel t k i := belowL_get hk hi
theorem bel_refl {t : List (List Int)} (h : Semi t) {i : Nat} (hi : i < numJ t) : bel t i i = true := (preJ h).refl _ (fstJ hi).2.2.1
theorem bel_trans {t : List (List Int)} (h : Semi t) {a b c : Nat} (ha : a < numJ t) (hb : b < numJ t) (hc : c < numJ t) (h1 : bel t a b = true) (h2 : bel t b c = true) : bel t a c = true :=
  (preJ h).trans _ _ _ (fstJ hc).2.2.1 (fstJ hb).2.2.1 (fstJ ha).2.2.1 h2 h1
theorem bel_anti {t : List (List Int)} (h : Semi t) {a b : Nat} (ha : a < numJ t) (hb : b < numJ t) (h1 : bel t a b = true) (h2 : bel t b a = true) : a = b := by
  have e := (classJ_iff h (fstJ ha).2.2.1 (fstJ hb).2.2.1).2 ⟨h2, h1⟩
  have ea := (fstJ ha).2.2.2
  have eb := (fstJ hb).2.2.2
  rw [ea, eb] at e
  omega

/-- May the class come next? So far as the classes below k tell. -/
def okTo (t : List (List Int)) (u : List Bool) (i k : Nat) : Bool := !u.getD i false && (List.range k).all fun j => decide (j = i) || u.getD j false || !bel t j i
def okN (t : List (List Int)) (u : List Bool) (i : Nat) : Bool := okTo t u i (numJ t)
theorem okTo_zero (t : List (List Int)) (u : List Bool) (i : Nat) : okTo t u i 0 = !u.getD i false := by simp [okTo]
theorem okTo_succ (t : List (List Int)) (u : List Bool) (i k : Nat) : okTo t u i (k + 1) = (okTo t u i k && (decide (k = i) || u.getD k false || !bel t k i)) := by
  unfold okTo; rw [List.range_succ, List.all_append]; simp [Bool.and_assoc]
theorem okN_iff {t : List (List Int)} {u : List Bool} {i : Nat} : okN t u i = true ↔ u.getD i false = false ∧ ∀ j, j < numJ t → j ≠ i → u.getD j false = false → bel t j i = false := by
  unfold okN okTo
  rw [Bool.and_eq_true_iff, List.all_eq_true]
  constructor
  · rintro ⟨h1, h2⟩
    refine ⟨by simpa using h1, fun j hj hne hu => ?_⟩
    have := h2 j (List.mem_range.2 hj)
    rw [hu, decide_eq_false hne] at this
    simpa using this
  · rintro ⟨h1, h2⟩
    refine ⟨by simpa using h1, fun j hj => ?_⟩
    by_cases e : j = i
    · simp [e]
    · cases hu : u.getD j false with
      | true => simp [hu]
      | false => simp [e, hu, h2 j (List.mem_range.1 hj) e hu]
/-- The first class below i that may come next; -1 if there is none. -/
def fstOk (t : List (List Int)) (u : List Bool) : Nat → Int | 0 => -1 | i + 1 => if fstOk t u i < 0 then (if okN t u i then (i : Int) else -1) else fstOk t u i
theorem fstOk_neg {t : List (List Int)} {u : List Bool} : ∀ {i : Nat}, fstOk t u i < 0 ↔ ∀ j, j < i → okN t u j = false
  | 0 => ⟨fun _ j hj => absurd hj (Nat.not_lt_zero _), fun _ => by show (-1 : Int) < 0; decide⟩
  | i + 1 => by
    have ih := fstOk_neg (t := t) (u := u) (i := i)
    simp only [fstOk]
    by_cases e : fstOk t u i < 0
    · rw [if_pos e]
      have hj := ih.1 e
      cases hk : okN t u i with
      | true => rw [if_pos rfl]; exact ⟨fun h => by omega, fun h => by have := h i (by omega); rw [hk] at this; cases this⟩
      | false =>
        rw [if_neg (by simp)]
        exact ⟨fun _ j hj' => by
          by_cases e2 : j = i
          · subst e2; exact hk
          · exact hj j (by omega), fun _ => by decide⟩
    · rw [if_neg e]
      exact ⟨fun h => absurd h e, fun h => absurd (ih.2 fun j hj => h j (by omega)) e⟩
theorem fstOk_val {t : List (List Int)} {u : List Bool} : ∀ {i : Nat} {j : Nat}, fstOk t u i = (j : Int) → j < i ∧ okN t u j = true ∧ ∀ k, k < j → okN t u k = false
  | 0, j, h => by simp only [fstOk] at h; omega
  | i + 1, j, h => by
    simp only [fstOk] at h
    by_cases e : fstOk t u i < 0
    · rw [if_pos e] at h
      cases hk : okN t u i with
      | true =>
        rw [hk, if_pos rfl] at h
        have : i = j := by omega
        subst this
        exact ⟨by omega, hk, fstOk_neg.1 e⟩
      | false => rw [hk, if_neg (by simp)] at h; omega
    · rw [if_neg e] at h
      have := fstOk_val h
      exact ⟨by omega, this.2⟩
theorem fstOk_m1 {t : List (List Int)} {u : List Bool} : ∀ {i : Nat}, fstOk t u i < 0 → fstOk t u i = -1
  | 0, _ => rfl
  | i + 1, h => by
    simp only [fstOk] at h ⊢
    by_cases e : fstOk t u i < 0
    · rw [if_pos e] at h ⊢
      cases hk : okN t u i with
      | true => rw [hk, if_pos rfl] at h; omega
      | false => rw [if_neg (by simp)]
    · rw [if_neg e] at h; exact absurd h e
/-- The class that comes next. -/
def nxJ (t : List (List Int)) (u : List Bool) : Nat := (fstOk t u (numJ t)).toNat
/-- What has come after s rounds. -/
def us (t : List (List Int)) : Nat → List Bool | 0 => List.replicate (numJ t) false | s + 1 => (us t s).set (nxJ t (us t s)) true
theorem us_len (t : List (List Int)) : ∀ s, (us t s).length = numJ t | 0 => by simp [us] | s + 1 => by simp only [us]; rw [List.length_set]; exact us_len t s

/-- How many classes are below. -/
def dep (t : List (List Int)) (i : Nat) : Nat := ((List.range (numJ t)).filter fun k => bel t k i).length
theorem dep_lt {t : List (List Int)} (h : Semi t) {k i : Nat} (hk : k < numJ t) (hi : i < numJ t) (hne : k ≠ i) (hb : bel t k i = true) : dep t k < dep t i := by
  have e : (List.range (numJ t)).filter (fun j => bel t j k) = ((List.range (numJ t)).filter (fun j => bel t j i)).filter (fun j => bel t j k) := by
    rw [List.filter_filter]
    refine List.filter_congr fun x hx => ?_
    have hx := List.mem_range.1 hx
    cases e : bel t x k with
    | false => rfl
    | true => rw [bel_trans h hx hk hi e hb]; rfl
  have hs : ((List.range (numJ t)).filter (fun j => bel t j k)).Sublist ((List.range (numJ t)).filter (fun j => bel t j i)) := by rw [e]; exact List.filter_sublist
  refine Nat.lt_of_le_of_ne hs.length_le fun he => ?_
  have he := hs.eq_of_length he
  have hm : i ∈ (List.range (numJ t)).filter (fun j => bel t j i) := List.mem_filter.2 ⟨List.mem_range.2 hi, bel_refl h hi⟩
  rw [← he] at hm
  exact hne (bel_anti h hk hi hb (List.mem_filter.1 hm).2)
/-- As long as a class has not come, one may come next. -/
theorem ok_ex {t : List (List Int)} (h : Semi t) {u : List Bool} : ∀ (N : Nat) (i : Nat), dep t i ≤ N → i < numJ t → u.getD i false = false → ∃ j, j < numJ t ∧ okN t u j = true := by
  intro N
  induction N with
  | zero =>
    intro i hd hi hu
    have : i ∈ (List.range (numJ t)).filter (fun j => bel t j i) := List.mem_filter.2 ⟨List.mem_range.2 hi, bel_refl h hi⟩
    have := List.length_pos_of_mem this
    unfold dep at hd; omega
  | succ N ih =>
    intro i hd hi hu
    cases hk : okN t u i with
    | true => exact ⟨i, hi, hk⟩
    | false =>
      by_cases hex : ∃ k, k < numJ t ∧ k ≠ i ∧ u.getD k false = false ∧ bel t k i = true
      · obtain ⟨k, h1, h2, h3, h4⟩ := hex
        exact ih k (by have := dep_lt h h1 hi h2 h4; omega) h1 h3
      · exfalso
        have : okN t u i = true := okN_iff.2 ⟨hu, fun j hj hne hj' => by
          cases hb : bel t j i with
          | false => rfl
          | true => exact absurd ⟨j, hj, hne, hj', hb⟩ hex⟩
        rw [this] at hk; cases hk
/-- What comes next, where a class has not come. -/
theorem nx_spec {t : List (List Int)} (h : Semi t) {u : List Bool} {i : Nat} (hi : i < numJ t) (hu : u.getD i false = false) : fstOk t u (numJ t) = (nxJ t u : Int) ∧ nxJ t u < numJ t ∧ okN t u (nxJ t u) = true ∧ ∀ k, k < nxJ t u → okN t u k = false := by
  obtain ⟨j, hj, hk⟩ := ok_ex h (u := u) (dep t i) i (Nat.le_refl _) hi hu
  have hn : ¬ fstOk t u (numJ t) < 0 := fun hh => by have := fstOk_neg.1 hh j hj; rw [hk] at this; cases this
  have e : fstOk t u (numJ t) = (nxJ t u : Int) := by unfold nxJ; omega
  have := fstOk_val e
  exact ⟨e, this⟩
theorem us_count {t : List (List Int)} (h : Semi t) : ∀ s, s ≤ numJ t → (us t s).count false = numJ t - s
  | 0, _ => by simp [us]
  | s + 1, hs => by
    have ih := us_count h s (by omega)
    have hl := us_len t s
    have hm : false ∈ us t s := List.count_pos_iff.1 (by omega)
    obtain ⟨i, hi, he⟩ := mem_getD false hm
    have nx := nx_spec h (u := us t s) (i := i) (by omega) he
    have hf := (okN_iff.1 nx.2.2.1).1
    have := count_set (us t s) (nxJ t (us t s)) (by rw [List.getElem?_eq_getElem (by omega)]; simp [List.getD, List.getElem?_eq_getElem (show nxJ t (us t s) < (us t s).length by omega)] at hf; rw [hf])
    simp only [us]; omega
theorem us_free {t : List (List Int)} (h : Semi t) {s : Nat} (hs : s < numJ t) : ∃ i, i < numJ t ∧ (us t s).getD i false = false := by
  have hc := us_count h s (by omega)
  have hm : false ∈ us t s := List.count_pos_iff.1 (by omega)
  obtain ⟨i, hi, he⟩ := mem_getD false hm
  exact ⟨i, by rw [us_len] at hi; exact hi, he⟩
theorem us_full {t : List (List Int)} (h : Semi t) {i : Nat} (hi : i < numJ t) : (us t (numJ t)).getD i false = true := by
  have hc := us_count h (numJ t) (Nat.le_refl _)
  cases e : (us t (numJ t)).getD i false with
  | true => rfl
  | false =>
    have hl := us_len t (numJ t)
    have hm : false ∈ us t (numJ t) := by rw [← e]; exact getD_mem (by omega)
    have := List.count_pos_iff.2 hm
    omega
/-- The round's facts. -/
theorem us_next {t : List (List Int)} (h : Semi t) {s : Nat} (hs : s < numJ t) : fstOk t (us t s) (numJ t) = (nxJ t (us t s) : Int) ∧ nxJ t (us t s) < numJ t ∧ okN t (us t s) (nxJ t (us t s)) = true ∧ ∀ k, k < nxJ t (us t s) → okN t (us t s) k = false := by
  obtain ⟨i, hi, he⟩ := us_free h hs
  exact nx_spec h hi he
theorem us_end {t : List (List Int)} (h : Semi t) : fstOk t (us t (numJ t)) (numJ t) < 0 := fstOk_neg.2 fun j hj => by
  cases e : okN t (us t (numJ t)) j with
  | false => rfl
  | true => have := (okN_iff.1 e).1; rw [us_full h hj] at this; cases this
/-- The ideal after s rounds. -/
def inS (t : List (List Int)) (u : List Bool) (x : Nat) : Bool := u.getD ((classJ t).getD x 0).toNat false
def serV (t : List (List Int)) : List (List Int) := (List.range (numJ t)).map fun s => ascV t.length (inS t (us t (s + 1)))
theorem serV_len (t : List (List Int)) : (serV t).length = numJ t := by simp [serV]
theorem serV_get {t : List (List Int)} {s : Nat} (hs : s < numJ t) : (serV t).getD s [] = ascV t.length (inS t (us t (s + 1))) := map_range_getD _ _ _ _ hs
/-- How many classes below class i have not come, of those below k. -/
def cntO (t : List (List Int)) (u : List Bool) (i : Nat) : Nat → Nat | 0 => 0 | k + 1 => cntO t u i k + if k ≠ i ∧ u.getD k false = false ∧ bel t k i = true then 1 else 0
theorem cntO_le (t : List (List Int)) (u : List Bool) (i : Nat) : ∀ k, cntO t u i k ≤ k
  | 0 => Nat.le_refl _
  | k + 1 => by have := cntO_le t u i k; simp only [cntO]; split <;> omega
theorem cntO_zero {t : List (List Int)} {u : List Bool} {i : Nat} : ∀ {k : Nat}, cntO t u i k = 0 ↔ ∀ j, j < k → ¬ (j ≠ i ∧ u.getD j false = false ∧ bel t j i = true)
  | 0 => ⟨fun _ j hj => absurd hj (Nat.not_lt_zero _), fun _ => rfl⟩
  | k + 1 => by
    have ih := cntO_zero (t := t) (u := u) (i := i) (k := k)
    simp only [cntO]
    by_cases e : k ≠ i ∧ u.getD k false = false ∧ bel t k i = true
    · rw [if_pos e]; exact ⟨fun h => by omega, fun h => absurd e (h k (by omega))⟩
    · rw [if_neg e]
      exact ⟨fun h j hj => by
        by_cases e2 : j = k
        · subst e2; exact e
        · exact ih.1 (by omega) j (by omega), fun h => by have := ih.2 fun j hj => h j (by omega); omega⟩
theorem okN_cnt {t : List (List Int)} {u : List Bool} {i : Nat} : okN t u i = true ↔ u.getD i false = false ∧ cntO t u i (numJ t) = 0 := by
  rw [okN_iff, cntO_zero]
  constructor
  · rintro ⟨h1, h2⟩
    exact ⟨h1, fun j hj ⟨a, b, c⟩ => by rw [h2 j hj a b] at c; cases c⟩
  · rintro ⟨h1, h2⟩
    refine ⟨h1, fun j hj a b => ?_⟩
    cases e : bel t j i with
    | false => rfl
    | true => exact absurd ⟨a, b, e⟩ (h2 j hj)
theorem cntO_set {t : List (List Int)} {u : List Bool} {c i : Nat} (hc : c < u.length) (hu : u.getD c false = false) : ∀ k, cntO t (u.set c true) i k + (if c < k ∧ c ≠ i ∧ bel t c i = true then 1 else 0) = cntO t u i k
  | 0 => by simp [cntO]
  | k + 1 => by
    have ih := cntO_set (t := t) (i := i) hc hu k
    simp only [cntO]
    by_cases e : k = c
    · subst e
      rw [getD_set_eq hc, if_neg (by simp)]
      rw [if_neg (by omega)] at ih
      by_cases e2 : k ≠ i ∧ bel t k i = true
      · rw [if_pos ⟨by omega, e2.1, e2.2⟩, if_pos ⟨e2.1, hu, e2.2⟩]; omega
      · rw [if_neg (fun hh => e2 hh.2), if_neg (fun hh => e2 ⟨hh.1, hh.2.2⟩)]; omega
    · rw [getD_set_ne (fun hh => e hh.symm)]
      by_cases e2 : c < k
      · by_cases e3 : c ≠ i ∧ bel t c i = true
        · rw [if_pos ⟨e2, e3.1, e3.2⟩] at ih; rw [if_pos (show c < k + 1 ∧ c ≠ i ∧ bel t c i = true from ⟨by omega, e3.1, e3.2⟩)]; omega
        · rw [if_neg (fun hh => e3 hh.2)] at ih; rw [if_neg (fun hh : c < k + 1 ∧ c ≠ i ∧ bel t c i = true => e3 hh.2)]; omega
      · rw [if_neg (fun hh => e2 hh.1)] at ih; rw [if_neg (fun hh : c < k + 1 ∧ c ≠ i ∧ bel t c i = true => by omega)]; omega
/-- What is still open below each class. -/
def openL (t : List (List Int)) (u : List Bool) : List Int := (List.range (numJ t)).map fun i => (cntO t u i (numJ t) : Int)
theorem openL_len (t : List (List Int)) (u : List Bool) : (openL t u).length = numJ t := by simp [openL]
theorem openL_get {t : List (List Int)} {u : List Bool} {i : Nat} (hi : i < numJ t) : (openL t u).getD i 0 = (cntO t u i (numJ t) : Int) := map_range_getD _ _ _ _ hi
theorem us_zero_get (t : List (List Int)) (k : Nat) : (us t 0).getD k false = false := by
  unfold us; simp only [List.getD, List.getElem?_replicate]; split <;> rfl
theorem inS_next {t : List (List Int)} (h : Semi t) {s : Nat} (hs : s < numJ t) {x : Nat} (hx : x < t.length) : inS t (us t (s + 1)) x = (inS t (us t s) x || decide ((classJ t).getD x 0 = (nxJ t (us t s) : Int))) := by
  have hn := us_next h hs
  have hl := us_len t s
  have hc := classJ_lt t hx
  unfold inS
  simp only [us]
  by_cases e : (classJ t).getD x 0 = (nxJ t (us t s) : Int)
  · rw [e, Int.toNat_natCast, getD_set_eq (by omega)]; simp
  · rw [getD_set_ne (by omega), decide_eq_false e]; simp
end Go.Proofs.Ytdmfhcppdpcceaa
