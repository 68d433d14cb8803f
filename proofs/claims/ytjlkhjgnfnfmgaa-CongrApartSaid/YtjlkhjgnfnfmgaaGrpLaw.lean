section
/- Multiplication tables, in plain words: nothing of the program stands here. -/
namespace Go.Proofs.Ytjlkhjgnfnfmgaa
open Classical
theorem mem_of_getD {α : Type} {l : List α} {i : Nat} {d : α} (h : i < l.length) : l.getD i d ∈ l := by
  simp [List.getD, h]
def en (t : List (List Int)) (x y : Nat) : Nat := ((t.getD x []).getD y 0).toNat
def rowOk (n : Nat) (r : List Int) : Prop := r.length = n ∧ ∀ x ∈ r, 0 ≤ x ∧ x < n
structure Sh (t : List (List Int)) : Prop where
  pos : 0 < t.length
  most : t.length ≤ 400
  row : ∀ r ∈ t, rowOk t.length r
noncomputable def shapeV (t : List (List Int)) : Int := if t.length > 400 then 3 else if t.length = 0 then 4 else if ∀ r ∈ t, rowOk t.length r then 0 else 4
theorem shape_zero {t : List (List Int)} : shapeV t = 0 ↔ Sh t := by
  unfold shapeV
  split
  · exact ⟨fun h => by omega, fun h => absurd h.most (by omega)⟩
  · split
    · exact ⟨fun h => by omega, fun h => absurd h.pos (by omega)⟩
    · split
      · rename_i h1 h2 h3; exact ⟨fun _ => ⟨by omega, by omega, h3⟩, fun _ => rfl⟩
      · rename_i h3; exact ⟨fun h => by omega, fun h => absurd h.row h3⟩
theorem Sh.len {t : List (List Int)} (h : Sh t) {x : Nat} (hx : x < t.length) : (t.getD x []).length = t.length := by
  refine (h.row _ ?_).1
  simp [List.getD, hx]
theorem Sh.ent {t : List (List Int)} (h : Sh t) {x y : Nat} (hx : x < t.length) (hy : y < t.length) : (t.getD x []).getD y 0 = (en t x y : Int) ∧ en t x y < t.length := by
  have hm : t.getD x [] ∈ t := by simp [List.getD, hx]
  obtain ⟨hl, hall⟩ := h.row _ hm
  have hy' : y < (t.getD x []).length := by rw [hl]; exact hy
  have hmem : (t.getD x []).getD y 0 ∈ t.getD x [] := mem_of_getD hy'
  have := hall _ hmem
  unfold en
  omega
def Lt (t : List (List Int)) (g : Nat) : Prop := ∀ x y, x < t.length → y < t.length → en t (en t x g) y = en t x (en t g y)
def Assoc (t : List (List Int)) : Prop := ∀ g, g < t.length → Lt t g
theorem assoc3 {t : List (List Int)} (h : Assoc t) {x y z : Nat} (hx : x < t.length) (hy : y < t.length) (hz : z < t.length) : en t (en t x y) z = en t x (en t y z) := h y hy x z hx hz
noncomputable def lightB (t : List (List Int)) (gens : List Int) : Bool := decide (∀ g ∈ gens, Lt t g.toNat)
theorem lightB_true {t : List (List Int)} {gens : List Int} : lightB t gens = true ↔ ∀ g ∈ gens, Lt t g.toNat := by unfold lightB; exact decide_eq_true_iff
theorem lightB_false {t : List (List Int)} {gens : List Int} : lightB t gens = false ↔ ¬ ∀ g ∈ gens, Lt t g.toNat := by unfold lightB; exact decide_eq_false_iff_not
inductive Mk (t : List (List Int)) (gens : List Int) : Nat → Prop
  | gen {g : Int} (h : g ∈ gens) : Mk t gens g.toNat
  | mul {a b : Nat} (ha : Mk t gens a) (hb : Mk t gens b) : Mk t gens (en t a b)
theorem Mk.mono {t : List (List Int)} {g h : List Int} (hs : ∀ x ∈ g, x ∈ h) {a : Nat} (m : Mk t g a) : Mk t h a := by
  induction m with
  | gen hm => exact .gen (hs _ hm)
  | mul _ _ ih1 ih2 => exact .mul ih1 ih2
structure Spans (t : List (List Int)) (gens : List Int) : Prop where
  el : ∀ g ∈ gens, 0 ≤ g ∧ g < t.length
  all : ∀ x, x < t.length → Mk t gens x
theorem Mk.lt {t : List (List Int)} {gens : List Int} (h : Sh t) (hg : ∀ g ∈ gens, 0 ≤ g ∧ g < t.length) {a : Nat} (m : Mk t gens a) : a < t.length := by
  induction m with
  | gen hm => have := hg _ hm; omega
  | mul _ _ h1 h2 => exact (h.ent h1 h2).2
theorem Mk.light {t : List (List Int)} {gens : List Int} (h : Sh t) (hg : ∀ g ∈ gens, 0 ≤ g ∧ g < t.length) (hl : ∀ g ∈ gens, Lt t g.toNat) {a : Nat} (m : Mk t gens a) : Lt t a := by
  induction m with
  | gen hm => exact hl _ hm
  | mul h1 h2 ih1 ih2 =>
    rename_i a b
    intro x y hx hy
    have ha := h1.lt h hg
    have hb := h2.lt h hg
    rw [← ih1 x b hx hb, ih2 (en t x a) y (h.ent hx ha).2 hy, ih1 x (en t b y) hx (h.ent hb hy).2, ← ih2 a y ha hy]
theorem light_assoc {t : List (List Int)} {gens : List Int} (h : Sh t) (hs : Spans t gens) : lightB t gens = true ↔ Assoc t := by
  unfold lightB
  rw [decide_eq_true_iff]
  constructor
  · intro hl g hg; exact (hs.all g hg).light h hs.el hl
  · intro ha g hg; exact ha _ (by have := hs.el g hg; omega)
noncomputable def validV (t : List (List Int)) : Int := if shapeV t ≠ 0 then shapeV t else if Assoc t then 0 else 5
structure Semi (t : List (List Int)) : Prop extends Sh t where
  assoc : Assoc t
theorem valid_zero {t : List (List Int)} : validV t = 0 ↔ Semi t := by
  unfold validV
  split
  · rename_i h; exact ⟨fun h' => absurd h' h, fun h' => absurd (shape_zero.2 h'.toSh) h⟩
  · rename_i h
    have h : shapeV t = 0 := Classical.byContradiction h
    split
    · rename_i ha; exact ⟨fun _ => ⟨shape_zero.1 h, ha⟩, fun _ => rfl⟩
    · rename_i ha; exact ⟨fun h' => by omega, fun h' => absurd h'.assoc ha⟩
/-! ### Identities and groups -/
end Go.Proofs.Ytjlkhjgnfnfmgaa
end
section
/- Plain: groups: the identity, inverses, powers and orders of elements. -/
namespace Go.Proofs.Ytjlkhjgnfnfmgaa
section
variable {t : List (List Int)}
def pwN (t : List (List Int)) (x : Nat) : Nat → Nat
  | 0 => x | k + 1 => en t (pwN t x k) x
theorem pwN_lt (h : Semi t) {x : Nat} (hx : x < t.length) : ∀ k, pwN t x k < t.length
  | 0 => hx | k + 1 => (h.toSh.ent (pwN_lt h hx k) hx).2
theorem pwN_add (h : Semi t) {x : Nat} (hx : x < t.length) (i : Nat) : ∀ j, en t (pwN t x i) (pwN t x j) = pwN t x (i + j + 1)
  | 0 => rfl
  | j + 1 => by
    show en t (pwN t x i) (en t (pwN t x j) x) = en t (pwN t x (i + j + 1)) x
    rw [← assoc3 h.assoc (pwN_lt h hx i) (pwN_lt h hx j) hx, pwN_add h hx i j]
theorem least_ex {p : Nat → Prop} : ∀ {n : Nat}, (∃ k, k < n ∧ p k) → ∃ k, k < n ∧ p k ∧ ∀ j, j < k → ¬ p j
  | 0, ⟨_, h, _⟩ => absurd h (Nat.not_lt_zero _)
  | n + 1, ⟨k, h1, h2⟩ => by
    by_cases h : ∃ k, k < n ∧ p k
    · obtain ⟨j, h3, h4, h5⟩ := least_ex h
      exact ⟨j, by omega, h4, h5⟩
    · refine ⟨k, h1, h2, fun j hj hp => h ⟨j, by omega, hp⟩⟩
end
end Go.Proofs.Ytjlkhjgnfnfmgaa
end
