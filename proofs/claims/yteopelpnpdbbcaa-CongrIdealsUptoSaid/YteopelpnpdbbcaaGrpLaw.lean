/- Plain: groups: the identity, inverses, powers and orders of elements. -/
import Derived.Test.YteopelpnpdbbcaaTab
namespace Go.Proofs.Yteopelpnpdbbcaa

noncomputable def oneN (t : List (List Int)) : Nat := (idV t).toNat
noncomputable def invN (t : List (List Int)) (x : Nat) : Nat := open Classical in if h : ∃ y, y < t.length ∧ Inv t (oneN t) x y then Classical.choose h else 0
section
variable {t : List (List Int)}
theorem Grp.one (h : Grp t) : oneN t < t.length ∧ Neutral t (oneN t) ∧ idV t = (oneN t : Int) := by
  obtain ⟨e, he, hn, _⟩ := h.inv
  have := id_of he hn
  unfold oneN
  rw [this, Int.toNat_natCast]
  exact ⟨he, hn, rfl⟩
theorem Grp.ninv (h : Grp t) {x : Nat} (hx : x < t.length) : invN t x < t.length ∧ Inv t (oneN t) x (invN t x) := by
  obtain ⟨e, he, hn, hi⟩ := h.inv
  have e1 : oneN t = e := neutral_unique h.one.1 he h.one.2.1 hn
  have hex : ∃ y, y < t.length ∧ Inv t (oneN t) x y := by rw [e1]; exact hi x hx
  unfold invN
  rw [dif_pos hex]
  exact Classical.choose_spec hex
theorem Grp.inv_uniq (h : Grp t) {x y : Nat} (hx : x < t.length) (hy : y < t.length) (hr : en t x y = oneN t) : y = invN t x :=
  inv_right h.toSemi h.one.2.1 hx hy (h.ninv hx).1 (h.ninv hx).2 hr
theorem Grp.cancelR (h : Grp t) {a b c : Nat} (ha : a < t.length) (hb : b < t.length) (hc : c < t.length) (he : en t a c = en t b c) : a = b := by
  have hi := h.ninv hc
  have h1 := assoc3 h.assoc ha hc hi.1
  have h2 := assoc3 h.assoc hb hc hi.1
  rw [he, h2] at h1
  rw [hi.2.1, (h.one.2.1 a ha).2, (h.one.2.1 b hb).2] at h1
  exact h1.symm
/-- The power x^(k+1). -/
def pwN (t : List (List Int)) (x : Nat) : Nat → Nat
  | 0 => x | k + 1 => en t (pwN t x k) x
theorem pwN_lt (h : Semi t) {x : Nat} (hx : x < t.length) : ∀ k, pwN t x k < t.length
  | 0 => hx | k + 1 => (h.toSh.ent (pwN_lt h hx k) hx).2
theorem pwN_add (h : Semi t) {x : Nat} (hx : x < t.length) (i : Nat) : ∀ j, en t (pwN t x i) (pwN t x j) = pwN t x (i + j + 1)
  | 0 => rfl
  | j + 1 => by
    show en t (pwN t x i) (en t (pwN t x j) x) = en t (pwN t x (i + j + 1)) x
    rw [← assoc3 h.assoc (pwN_lt h hx i) (pwN_lt h hx j) hx, pwN_add h hx i j]
/-- Two powers that are equal: the difference is the identity. -/
theorem pwN_eq (h : Grp t) {x i j : Nat} (hx : x < t.length) (hij : i < j) (he : pwN t x i = pwN t x j) : pwN t x (j - i - 1) = oneN t := by
  have h1 := pwN_add h.toSemi hx (j - i - 1) i
  rw [show j - i - 1 + i + 1 = j by omega, ← he] at h1
  exact h.cancelR (pwN_lt h.toSemi hx _) h.one.1 (pwN_lt h.toSemi hx i) (h1.trans (h.one.2.1 _ (pwN_lt h.toSemi hx i)).1.symm)
theorem ord_ex (h : Grp t) {x : Nat} (hx : x < t.length) : ∃ k, k < t.length ∧ pwN t x k = oneN t := by
  refine Classical.byContradiction fun hno => ?_
  have hne : ∀ k, k < t.length → pwN t x k ≠ oneN t := fun k hk he => hno ⟨k, hk, he⟩
  have hn : ((List.range (t.length + 1)).map (pwN t x)).Nodup := by
    refine List.pairwise_map.2 (List.nodup_range.imp_of_mem fun {a b} ha hb hab e => ?_)
    have ha := List.mem_range.1 ha
    have hb := List.mem_range.1 hb
    rcases Nat.lt_or_ge a b with hlt | hge
    · exact hne _ (by omega) (pwN_eq h hx hlt e)
    · have hab : a ≠ b := hab
      exact hne _ (by omega) (pwN_eq h hx (show b < a by omega) e.symm)
  have := hn.length_le_of_subset (l₂ := List.range t.length) fun y hy => by
    obtain ⟨k, _, rfl⟩ := List.mem_map.1 hy
    exact List.mem_range.2 (pwN_lt h.toSemi hx k)
  simp at this
  omega
/-- The least number with a property, below a bound. -/
theorem least_ex {p : Nat → Prop} : ∀ {n : Nat}, (∃ k, k < n ∧ p k) → ∃ k, k < n ∧ p k ∧ ∀ j, j < k → ¬ p j
  | 0, ⟨_, h, _⟩ => absurd h (Nat.not_lt_zero _)
  | n + 1, ⟨k, h1, h2⟩ => by
    by_cases h : ∃ k, k < n ∧ p k
    · obtain ⟨j, h3, h4, h5⟩ := least_ex h
      exact ⟨j, by omega, h4, h5⟩
    · refine ⟨k, h1, h2, fun j hj hp => h ⟨j, by omega, hp⟩⟩
/-- The order of an element, less one. -/
noncomputable def ordN (t : List (List Int)) (x : Nat) : Nat := open Classical in if h : ∃ k, k < t.length ∧ pwN t x k = oneN t ∧ ∀ j, j < k → pwN t x j ≠ oneN t then Classical.choose h else 0
theorem ord_spec (h : Grp t) {x : Nat} (hx : x < t.length) : ordN t x < t.length ∧ pwN t x (ordN t x) = oneN t ∧ ∀ j, j < ordN t x → pwN t x j ≠ oneN t := by
  have hex : ∃ k, k < t.length ∧ pwN t x k = oneN t ∧ ∀ j, j < k → pwN t x j ≠ oneN t := least_ex (ord_ex h hx)
  unfold ordN
  rw [dif_pos hex]
  exact Classical.choose_spec hex
end
end Go.Proofs.Yteopelpnpdbbcaa
