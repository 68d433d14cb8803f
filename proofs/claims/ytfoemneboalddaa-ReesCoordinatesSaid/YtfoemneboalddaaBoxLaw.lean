/- The box of a class: its cells; the least idempotent as a search through the cells finds it. Plain; no program. -/
import Derived.Test.YtfoemneboalddaaNumLaw2
namespace Go.Proofs.Ytfoemneboalddaa
open Go Go.AM

section
variable (t : List (List Int)) (j : Nat)
def cellR (a : Int) : List (List Int) := (colsN t j).map fun b => hitJ t j a b
def grpR (a : Int) : List Bool := (colsN t j).map fun b => (hitJ t j a b).any (idmB t)
def cellsL : List (List (List Int)) := (rowsN t j).map (cellR t j)
def grpsL : List (List Bool) := (rowsN t j).map (grpR t j)
end
theorem map_get {α β : Type} {l : List α} {f : α → β} {i : Nat} (d : α) (e : β) (hi : i < l.length) : (l.map f).getD i e = f (l.getD i d) := by
  rw [getD_eq (by rw [List.length_map]; exact hi), List.getElem_map, getD_eq (d := d) hi]
theorem cellsL_len (t : List (List Int)) (j : Nat) : (cellsL t j).length = (rowsN t j).length := by simp [cellsL]
theorem grpsL_len (t : List (List Int)) (j : Nat) : (grpsL t j).length = (rowsN t j).length := by simp [grpsL]
theorem cellR_len (t : List (List Int)) (j : Nat) (a : Int) : (cellR t j a).length = (colsN t j).length := by simp [cellR]
theorem grpR_len (t : List (List Int)) (j : Nat) (a : Int) : (grpR t j a).length = (colsN t j).length := by simp [grpR]
theorem cellsL_get {t : List (List Int)} {j i : Nat} (hi : i < (rowsN t j).length) : (cellsL t j).getD i [] = cellR t j ((rowsN t j).getD i 0) := map_get 0 [] hi
theorem grpsL_get {t : List (List Int)} {j i : Nat} (hi : i < (rowsN t j).length) : (grpsL t j).getD i [] = grpR t j ((rowsN t j).getD i 0) := map_get 0 [] hi
theorem cellR_get {t : List (List Int)} {j l : Nat} {a : Int} (hl : l < (colsN t j).length) : (cellR t j a).getD l [] = hitJ t j a ((colsN t j).getD l 0) := map_get 0 [] hl
theorem grpR_get {t : List (List Int)} {j l : Nat} {a : Int} (hl : l < (colsN t j).length) : (grpR t j a).getD l false = (hitJ t j a ((colsN t j).getD l 0)).any (idmB t) := map_get 0 false hl
theorem hit_le (t : List (List Int)) (j : Nat) (a b : Int) : (hitJ t j a b).length ≤ (elemsJ t j).length := List.length_filter_le _ _
theorem rowsN_le {t : List (List Int)} {j : Nat} (h : Semi t) (hj : j < numJ t) : (rowsN t j).length ≤ t.length ∧ (colsN t j).length ≤ t.length := by
  have h1 := num_rows h hj
  have h2 := num_cols h hj
  have e := elems_le hj
  refine ⟨?_, ?_⟩
  · rw [← h1]; have := cpI_len (srtI (numL (classR t) (elemsJ t j))); rw [srtI_len, numL_len] at this; omega
  · rw [← h2]; have := cpI_len (srtI (numL (classL t) (elemsJ t j))); rw [srtI_len, numL_len] at this; omega
theorem in_rows {t : List (List Int)} {j x : Nat} (h : Semi t) (hj : j < numJ t) (hx : x < t.length) (hc : jcl t x = j) : ∃ a, a < (rowsN t j).length ∧ (rowsN t j).getD a 0 = rcl t x := by
  refine mem_getD 0 ?_
  rw [← num_rows h hj, cpsrt_mem]
  exact List.mem_map.2 ⟨(x : Int), (mem_elems hj).2 ⟨by omega, by omega, by rw [Int.toNat_natCast]; exact hc⟩, by rw [Int.toNat_natCast]⟩
theorem in_cols {t : List (List Int)} {j x : Nat} (h : Semi t) (hj : j < numJ t) (hx : x < t.length) (hc : jcl t x = j) : ∃ a, a < (colsN t j).length ∧ (colsN t j).getD a 0 = lcl t x := by
  refine mem_getD 0 ?_
  rw [← num_cols h hj, cpsrt_mem]
  exact List.mem_map.2 ⟨(x : Int), (mem_elems hj).2 ⟨by omega, by omega, by rw [Int.toNat_natCast]; exact hc⟩, by rw [Int.toNat_natCast]⟩

/-- The search so far: of the elements that V tells the least idempotent, and its row and column. -/
structure MinTo (t : List (List Int)) (j : Nat) (V : Nat → Prop) (e r c : Int) : Prop where
  no : e < 0 → e = -1 ∧ r = 0 ∧ c = 0 ∧ ∀ x, V x → en t x x ≠ x
  yes : 0 ≤ e → e < t.length ∧ jcl t e.toNat = j ∧ en t e.toNat e.toNat = e.toNat ∧ (0 ≤ r ∧ r < (rowsN t j).length ∧ (rowsN t j).getD r.toNat 0 = rcl t e.toNat) ∧ (0 ≤ c ∧ c < (colsN t j).length ∧ (colsN t j).getD c.toNat 0 = lcl t e.toNat) ∧ ∀ x, V x → en t x x = x → e.toNat ≤ x
theorem MinTo.start (t : List (List Int)) (j : Nat) {V : Nat → Prop} (h : ∀ x, ¬ V x) : MinTo t j V (-1) 0 0 := ⟨fun _ => ⟨rfl, rfl, rfl, fun x hx => absurd hx (h x)⟩, fun h => by omega⟩
theorem MinTo.sub {t : List (List Int)} {j : Nat} {V V' : Nat → Prop} {e r c : Int} (h : MinTo t j V e r c) (hs : ∀ x, V' x → V x) : MinTo t j V' e r c :=
  ⟨fun h0 => ⟨(h.no h0).1, (h.no h0).2.1, (h.no h0).2.2.1, fun x hx => (h.no h0).2.2.2 x (hs x hx)⟩, fun h0 => ⟨(h.yes h0).1, (h.yes h0).2.1, (h.yes h0).2.2.1, (h.yes h0).2.2.2.1, (h.yes h0).2.2.2.2.1, fun x hx => (h.yes h0).2.2.2.2.2 x (hs x hx)⟩⟩
theorem MinTo.skip {t : List (List Int)} {j : Nat} {V V' : Nat → Prop} {e r c : Int} {y : Nat} (h : MinTo t j V e r c) (hs : ∀ x, V' x → V x ∨ x = y) (hy : en t y y = y → 0 ≤ e ∧ e ≤ y) : MinTo t j V' e r c :=
  ⟨fun h0 => ⟨(h.no h0).1, (h.no h0).2.1, (h.no h0).2.2.1, fun x hx => (hs x hx).elim ((h.no h0).2.2.2 x) fun e1 e2 => by subst e1; have := hy e2; omega⟩,
   fun h0 => ⟨(h.yes h0).1, (h.yes h0).2.1, (h.yes h0).2.2.1, (h.yes h0).2.2.2.1, (h.yes h0).2.2.2.2.1, fun x hx => (hs x hx).elim ((h.yes h0).2.2.2.2.2 x) fun e1 e2 => by subst e1; have := hy e2; omega⟩⟩
theorem MinTo.take {t : List (List Int)} {j : Nat} {V V' : Nat → Prop} {e r c : Int} {y a b : Nat} (h : MinTo t j V e r c) (hs : ∀ x, V' x → V x ∨ x = y) (hy : y < t.length) (hc : jcl t y = j) (hi : en t y y = y) (hlt : e < 0 ∨ (y : Int) < e)
    (ha : a < (rowsN t j).length) (ha2 : (rowsN t j).getD a 0 = rcl t y) (hb : b < (colsN t j).length) (hb2 : (colsN t j).getD b 0 = lcl t y) : MinTo t j V' (y : Int) (a : Int) (b : Int) :=
  ⟨fun h0 => by omega, fun _ => ⟨by omega, by rw [Int.toNat_natCast]; exact hc, by rw [Int.toNat_natCast]; exact hi, ⟨by omega, by omega, by rw [Int.toNat_natCast, Int.toNat_natCast]; exact ha2⟩, ⟨by omega, by omega, by rw [Int.toNat_natCast, Int.toNat_natCast]; exact hb2⟩, fun x hx hix => by
    rw [Int.toNat_natCast]
    rcases hs x hx with h1 | h1
    · rcases hlt with h2 | h2
      · exact absurd hix ((h.no h2).2.2.2 x h1)
      · have := (h.yes (by omega)).2.2.2.2.2 x h1 hix
        omega
    · omega⟩⟩
/-- What has been looked at. -/
def VisI (t : List (List Int)) (j i x : Nat) : Prop := x < t.length ∧ jcl t x = j ∧ ∃ a, a < i ∧ (rowsN t j).getD a 0 = rcl t x
def VisL (t : List (List Int)) (j i l x : Nat) : Prop := VisI t j i x ∨ (x < t.length ∧ jcl t x = j ∧ (rowsN t j).getD i 0 = rcl t x ∧ ∃ b, b < l ∧ (colsN t j).getD b 0 = lcl t x)
def VisK (t : List (List Int)) (j i l k x : Nat) : Prop := VisL t j i l x ∨ ((x : Int) ∈ (hitJ t j ((rowsN t j).getD i 0) ((colsN t j).getD l 0)).take k)
theorem visL_0 {t : List (List Int)} {j i x : Nat} (h : VisL t j i 0 x) : VisI t j i x := h.elim id fun ⟨_, _, _, b, hb, _⟩ => absurd hb (Nat.not_lt_zero _)
theorem visK_0 {t : List (List Int)} {j i l x : Nat} (h : VisK t j i l 0 x) : VisL t j i l x := h.elim id fun h => by simp at h
theorem visK_s {t : List (List Int)} {j i l k x : Nat} {y : Nat} (hk : k < (hitJ t j ((rowsN t j).getD i 0) ((colsN t j).getD l 0)).length) (hy : (hitJ t j ((rowsN t j).getD i 0) ((colsN t j).getD l 0)).getD k 0 = (y : Int)) (h : VisK t j i l (k + 1) x) : VisK t j i l k x ∨ x = y := by
  rcases h with h | h
  · exact .inl (.inl h)
  · rw [take_snoc (d := 0) hk, List.mem_append] at h
    rcases h with h | h
    · exact .inl (.inr h)
    · rw [hy] at h
      exact .inr (Int.ofNat_inj.1 (by simpa using h))
theorem visL_s {t : List (List Int)} {j i l k x : Nat} (hj : j < numJ t) (hk : (hitJ t j ((rowsN t j).getD i 0) ((colsN t j).getD l 0)).length ≤ k) (h : VisL t j i (l + 1) x) : VisK t j i l k x := by
  rcases h with h | ⟨h1, h2, h3, b, hb, h4⟩
  · exact .inl (.inl h)
  · by_cases e : b = l
    · subst e
      refine .inr ?_
      rw [List.take_of_length_le hk, mem_hit hj]
      exact ⟨h1, h2, h3.symm, h4.symm⟩
    · exact .inl (.inr ⟨h1, h2, h3, b, by omega, h4⟩)
theorem visI_s {t : List (List Int)} {j i l x : Nat} (h : Semi t) (hj : j < numJ t) (hl : (colsN t j).length ≤ l) (hv : VisI t j (i + 1) x) : VisL t j i l x := by
  obtain ⟨h1, h2, a, ha, h3⟩ := hv
  by_cases e : a = i
  · subst e
    obtain ⟨b, hb, h4⟩ := in_cols h hj h1 h2
    exact .inr ⟨h1, h2, h3, b, by omega, h4⟩
  · exact .inl ⟨h1, h2, a, by omega, h3⟩
theorem vis_all {t : List (List Int)} {j i x : Nat} (h : Semi t) (hj : j < numJ t) (hi : (rowsN t j).length ≤ i) (h1 : x < t.length) (h2 : jcl t x = j) : VisI t j i x := by
  obtain ⟨a, ha, h3⟩ := in_rows h hj h1 h2
  exact ⟨h1, h2, a, by omega, h3⟩
theorem MinTo.none {t : List (List Int)} {j i : Nat} {e r c : Int} (h : Semi t) (hj : j < numJ t) (hi : (rowsN t j).length ≤ i) (H : MinTo t j (VisI t j i) e r c) (hr : (regL t).getD j false = false) : e < 0 := by
  rcases Int.lt_or_le e 0 with h0 | h0
  · exact h0
  · have := H.yes h0
    have h2 := (regL_iff hj).2 ⟨e.toNat, by omega, this.2.1, this.2.2.1⟩
    rw [hr] at h2; cases h2
theorem MinTo.done {t : List (List Int)} {j i : Nat} {e r c : Int} (h : Semi t) (hj : j < numJ t) (hi : (rowsN t j).length ≤ i) (H : MinTo t j (VisI t j i) e r c) (hr : (regL t).getD j false = true) :
    ¬ e < 0 ∧ (0 ≤ r ∧ r < (rowsN t j).length ∧ (rowsN t j).getD r.toNat 0 = rcl t (eJ t j)) ∧ (0 ≤ c ∧ c < (colsN t j).length ∧ (colsN t j).getD c.toNat 0 = lcl t (eJ t j)) := by
  obtain ⟨_, _, _, hC, hmin⟩ := eJ_ok h hj hr
  have h0 : ¬ e < 0 := fun h0 => (H.no h0).2.2.2 (eJ t j) (vis_all h hj hi hC.he hC.ej) hC.ee
  have h1 := H.yes (by omega)
  have h2 := h1.2.2.2.2.2 (eJ t j) (vis_all h hj hi hC.he hC.ej) hC.ee
  have h3 := hmin e.toNat (by omega) h1.2.1 h1.2.2.1
  have h4 : e.toNat = eJ t j := by omega
  rw [h4] at h1
  exact ⟨h0, h1.2.2.2.1, h1.2.2.2.2.1⟩
end Go.Proofs.Ytfoemneboalddaa
