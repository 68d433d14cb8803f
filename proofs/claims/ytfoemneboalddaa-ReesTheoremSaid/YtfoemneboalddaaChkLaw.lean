/- Is a numbering of a J-class an isomorphism onto a matrix semigroup? Plain; no program. -/
import Derived.Test.YtfoemneboalddaaPrinLaw
namespace Go.Proofs.Ytfoemneboalddaa
open Go Go.AM
attribute [local instance] Classical.propDecidable

/-- The number of one element is well: out of the class -1, else in range and new. -/
def mapAt (t : List (List Int)) (j : Nat) (b S : Int) (m : List Int) (x : Nat) : Prop :=
  ((classJ t).getD x 0 ≠ (j : Int) → m.getD x 0 = -1) ∧
  ((classJ t).getD x 0 = (j : Int) → b ≤ m.getD x 0 ∧ m.getD x 0 < S ∧ ∀ y, y < x → (classJ t).getD y 0 = (j : Int) → m.getD y 0 ≠ m.getD x 0)
/-- The numbers of one pair multiply as the pair does. -/
def pairAt (t : List (List Int)) (j : Nat) (G : List (List Int)) (C : Int) (P : List (List Int)) (z : Bool) (m : List Int) (x y : Nat) : Prop :=
  ((classJ t).getD (en t x y) 0 = (j : Int) → mulI G C P z (m.getD x 0) (m.getD y 0) = m.getD (en t x y) 0) ∧
  ((classJ t).getD (en t x y) 0 ≠ (j : Int) → z = true ∧ mulI G C P z (m.getD x 0) (m.getD y 0) = 0)
def ChkPre (t : List (List Int)) (j : Int) (G : List (List Int)) (R C : Int) (P : List (List Int)) (z : Bool) (m : List Int) : Prop :=
  (validV t = 0 ∧ 0 ≤ j ∧ j < numJ t) ∧ reesV G R C P z = 0 ∧ z ≠ minJ t j.toNat ∧ m.length = t.length
def PairsTo (t : List (List Int)) (j : Nat) (G : List (List Int)) (C : Int) (P : List (List Int)) (z : Bool) (m : List Int) (k : Nat) : Prop :=
  ∀ a, a < k → ∀ b, b < (elemsJ t j).length → pairAt t j G C P z m ((elemsJ t j).getD a 0).toNat ((elemsJ t j).getD b 0).toNat
def ChkGood (t : List (List Int)) (j : Nat) (G : List (List Int)) (R C : Int) (P : List (List Int)) (z : Bool) (m : List Int) : Prop :=
  (∀ x, x < t.length → mapAt t j (zI z) (sizeI G.length R C z) m x) ∧ ((elemsJ t j).length : Int) = sizeI G.length R C z - zI z ∧ PairsTo t j G C P z m (elemsJ t j).length
noncomputable def chkB (t : List (List Int)) (j : Int) (G : List (List Int)) (R C : Int) (P : List (List Int)) (z : Bool) (m : List Int) : Bool :=
  decide (ChkPre t j G R C P z m ∧ ChkGood t j.toNat G R C P z m)

variable {t : List (List Int)} {j : Nat} {G : List (List Int)} {R C : Int} {P : List (List Int)} {z : Bool} {m : List Int}

theorem chk_pre {j : Int} (h : ¬ ChkPre t j G R C P z m) : false = chkB t j G R C P z m := by
  unfold chkB; rw [eq_comm, decide_eq_false_iff_not]; exact fun hh => h hh.1
theorem chk_bad (h : ¬ ChkGood t j G R C P z m) : false = chkB t (j : Int) G R C P z m := by
  unfold chkB; rw [eq_comm, decide_eq_false_iff_not, Int.toNat_natCast]; exact fun hh => h hh.2
theorem chk_map {x : Nat} (hx : x < t.length) (h : ¬ mapAt t j (zI z) (sizeI G.length R C z) m x) : false = chkB t (j : Int) G R C P z m := chk_bad fun hh => h (hh.1 x hx)
theorem chk_cnt (h : ((elemsJ t j).length : Int) ≠ sizeI G.length R C z - zI z) : false = chkB t (j : Int) G R C P z m := chk_bad fun hh => h hh.2.1
theorem chk_pair {a b : Nat} (ha : a < (elemsJ t j).length) (hb : b < (elemsJ t j).length) (h : ¬ pairAt t j G C P z m ((elemsJ t j).getD a 0).toNat ((elemsJ t j).getD b 0).toNat) : false = chkB t (j : Int) G R C P z m := chk_bad fun hh => h (hh.2.2 a ha b hb)
theorem chk_yes (hp : ChkPre t (j : Int) G R C P z m) (h : ChkGood t j G R C P z m) : true = chkB t (j : Int) G R C P z m := by
  unfold chkB; rw [eq_comm, decide_eq_true_iff, Int.toNat_natCast]; exact ⟨hp, h⟩

/-- The loop over the elements: what is met. -/
structure ChkInv (t : List (List Int)) (j : Nat) (b S : Int) (m : List Int) (i : Nat) (q : List Bool) : Prop where
  le : i ≤ t.length
  len : (q.length : Int) = S
  ok : ∀ x, x < i → mapAt t j b S m x
  met : ∀ v : Nat, v < q.length → (q.getD v false = true ↔ ∃ x, x < i ∧ (classJ t).getD x 0 = (j : Int) ∧ m.getD x 0 = v)
theorem ChkInv.start (b : Int) {S : Int} (hS : 0 ≤ S) : ChkInv t j b S m 0 (List.replicate S.toNat false) :=
  ⟨Nat.zero_le _, by rw [List.length_replicate]; omega, fun x hx => absurd hx (Nat.not_lt_zero _), fun v hv => by
    rw [List.length_replicate] at hv
    have : (List.replicate S.toNat false).getD v false = false := by simp [List.getD, hv]
    rw [this]
    exact ⟨fun h => Bool.noConfusion h, fun ⟨x, hx, _⟩ => absurd hx (Nat.not_lt_zero _)⟩⟩
theorem ChkInv.skip {b S : Int} {i : Nat} {q : List Bool} (h : ChkInv t j b S m i q) (hi : i < t.length) (hc : (classJ t).getD i 0 ≠ (j : Int)) (hm : m.getD i 0 = -1) : ChkInv t j b S m (i + 1) q :=
  ⟨by omega, h.len, fun x hx => by
    by_cases hxi : x = i
    · subst hxi; exact ⟨fun _ => hm, fun hh => absurd hh hc⟩
    · exact h.ok x (by omega), fun v hv => by
    rw [h.met v hv]
    constructor
    · rintro ⟨x, h1, h2, h3⟩; exact ⟨x, by omega, h2, h3⟩
    · rintro ⟨x, h1, h2, h3⟩
      refine ⟨x, ?_, h2, h3⟩
      have : x ≠ i := fun e => hc (e ▸ h2)
      omega⟩
theorem ChkInv.no1 {b S : Int} {i : Nat} (hc : (classJ t).getD i 0 ≠ (j : Int)) (hm : m.getD i 0 ≠ -1) : ¬ mapAt t j b S m i := fun h => hm (h.1 hc)
theorem ChkInv.no2 {b S : Int} {i : Nat} (hc : (classJ t).getD i 0 = (j : Int)) (hm : m.getD i 0 < b ∨ S ≤ m.getD i 0) : ¬ mapAt t j b S m i := fun h => by have := h.2 hc; omega
theorem ChkInv.no3 {b S : Int} (hb : 0 ≤ b) {i : Nat} {q : List Bool} (h : ChkInv t j b S m i q) (hc : (classJ t).getD i 0 = (j : Int)) (h1 : b ≤ m.getD i 0) (h2 : m.getD i 0 < S) (hq : q.getD (m.getD i 0).toNat false = true) : ¬ mapAt t j b S m i := fun hh => by
  have hl := h.len
  obtain ⟨x, hx, hcx, hmx⟩ := (h.met (m.getD i 0).toNat (by omega)).1 hq
  exact (hh.2 hc).2.2 x hx hcx (by omega)
theorem ChkInv.put {b S : Int} (hb : 0 ≤ b) {i : Nat} {q : List Bool} (h : ChkInv t j b S m i q) (hi : i < t.length) (hc : (classJ t).getD i 0 = (j : Int)) (h1 : b ≤ m.getD i 0) (h2 : m.getD i 0 < S) (hq : q.getD (m.getD i 0).toNat false = false) : ChkInv t j b S m (i + 1) (q.set (m.getD i 0).toNat true) := by
  have hl := h.len
  refine ⟨by omega, by rw [List.length_set]; exact hl, fun x hx => ?_, fun v hv => ?_⟩
  · by_cases hxi : x = i
    · subst hxi
      refine ⟨fun hh => absurd hc hh, fun _ => ⟨h1, h2, fun y hy hcy he => ?_⟩⟩
      have := (h.met (m.getD x 0).toNat (by omega)).2 ⟨y, hy, hcy, by omega⟩
      rw [hq] at this; cases this
    · exact h.ok x (by omega)
  · rw [List.length_set] at hv
    by_cases hvi : v = (m.getD i 0).toNat
    · subst hvi
      rw [getD_set_eq (by omega)]
      exact ⟨fun _ => ⟨i, by omega, hc, by omega⟩, fun _ => rfl⟩
    · rw [getD_set_ne (Ne.symm hvi), h.met v hv]
      constructor
      · rintro ⟨x, g1, g2, g3⟩; exact ⟨x, by omega, g2, g3⟩
      · rintro ⟨x, g1, g2, g3⟩
        refine ⟨x, ?_, g2, g3⟩
        have : x ≠ i := fun e => hvi (by subst e; omega)
        omega
theorem elems_get {a : Nat} (hj : j < numJ t) (ha : a < (elemsJ t j).length) : 0 ≤ (elemsJ t j).getD a 0 ∧ (elemsJ t j).getD a 0 < t.length ∧ (classJ t).getD ((elemsJ t j).getD a 0).toNat 0 = (j : Int) := (mem_elems hj).1 (getD_mem ha)
end Go.Proofs.Ytfoemneboalddaa
