/- Plain: how the reference closes a partition under products. -/
import Derived.Test.YteopelpnpdbbcaaEqP
namespace Go.Proofs.Yteopelpnpdbbcaa
open Go Go.AM
theorem nodup_sub {α : Type} [DecidableEq α] : ∀ {A B : List α}, A.Nodup → (∀ x ∈ A, x ∈ B) → A.length ≤ B.length
  | [], _, _, _ => Nat.zero_le _
  | a :: A, B, hA, h => by
    have ha := h a (by simp)
    have hn := List.nodup_cons.1 hA
    have := nodup_sub (B := B.erase a) hn.2 fun x hx => (List.mem_erase_of_ne fun e => by subst e; exact hn.1 hx).2 (h x (List.mem_cons_of_mem _ hx))
    have hl := List.length_erase_of_mem ha
    have hp := List.length_pos_of_mem ha
    simp only [List.length_cons]; omega
theorem mrg_less {p : List Int} {a b : Nat} (ha : a < p.length) (hb : b < p.length) (hne : p.getD a 0 ≠ p.getD b 0) : classN (mrgL p a b) < classN p := by
  have hm : ∀ x ∈ mrgL p a b, x ∈ p ∧ x ≠ p.getD b 0 := fun x hx => by
    obtain ⟨k, hk, rfl⟩ := mem_getD 0 hx
    rw [mrgL_len] at hk
    rw [mrgL_get hk]
    by_cases e : p.getD k 0 = p.getD b 0
    · rw [if_pos e]; exact ⟨getD_mem ha, hne⟩
    · rw [if_neg e]; exact ⟨getD_mem hk, e⟩
  have := nodup_sub (A := p.getD b 0 :: firsts (mrgL p a b)) (B := firsts p) (List.nodup_cons.2 ⟨fun h => (hm _ (mem_firsts.1 h)).2 rfl, firsts_nodup _⟩) fun x hx => by
    rcases List.mem_cons.1 hx with rfl | hx
    · exact mem_firsts.2 (getD_mem hb)
    · exact mem_firsts.2 (hm x (mem_firsts.1 hx)).1
  simp only [List.length_cons] at this
  exact this
/-- Between R and the congruence that it generates. -/
structure RcB (t : List (List Int)) (side : Int) (R : Nat → Nat → Prop) (p : List Int) : Prop where
  len : p.length = t.length
  up : ∀ a b, a < t.length → b < t.length → p.getD a 0 = p.getD b 0 → Cgr t side R a b
  lo : ∀ a b, R a b → a < t.length ∧ b < t.length ∧ p.getD a 0 = p.getD b 0
section
variable {t : List (List Int)} {side : Int} {R : Nat → Nat → Prop} {p p0 : List Int} {ch : Bool} {x y s : Nat}
theorem RcB.mrg (h : RcB t side R p) {a b : Nat} (ha : a < t.length) (hb : b < t.length) (e : Cgr t side R a b) : RcB t side R (mrgL p a b) := by
  have hl := h.len
  refine ⟨by rw [mrgL_len]; exact hl, fun i j hi hj e2 => ?_, fun i j hR => ?_⟩
  · rw [mrgL_get (by omega), mrgL_get (by omega)] at e2
    by_cases e3 : p.getD i 0 = p.getD b 0 <;> by_cases e4 : p.getD j 0 = p.getD b 0
    · exact (h.up i b hi hb e3).trans (h.up j b hj hb e4).symm
    · rw [if_pos e3, if_neg e4] at e2
      exact (h.up i b hi hb e3).trans (e.symm.trans (h.up a j ha hj e2))
    · rw [if_neg e3, if_pos e4] at e2
      exact (h.up i a hi ha e2).trans (e.trans (h.up b j hb hj e4.symm))
    · rw [if_neg e3, if_neg e4] at e2
      exact h.up i j hi hj e2
  · have k := h.lo i j hR
    refine ⟨k.1, k.2.1, ?_⟩
    rw [mrgL_get (by omega), mrgL_get (by omega), k.2.2]
/-- One round: what is done before (x, y, s). -/
structure RcI (t : List (List Int)) (side : Int) (R : Nat → Nat → Prop) (p0 p : List Int) (ch : Bool) (x y s : Nat) : Prop where
  b : RcB t side R p
  cd : ch = true → classN p < classN p0
  eq : ch = false → p = p0
  cl : ch = false → ∀ x' y' s', x' < t.length → y' < x' → s' < t.length → (x' < x ∨ (x' = x ∧ y' < y) ∨ (x' = x ∧ y' = y ∧ s' < s)) → p0.getD x' 0 = p0.getD y' 0 → CgA t p0 side x' y' s'
theorem RcI.start (h : RcB t side R p) : RcI t side R p p false 0 0 0 := ⟨h, (fun h => by cases h), fun _ => rfl, fun _ x' y' s' _ _ _ h => by omega⟩
theorem RcI.le (h : RcI t side R p0 p ch x y s) : classN p ≤ classN p0 := by
  cases hc : ch with
  | true => exact Nat.le_of_lt (h.cd hc)
  | false => rw [h.eq hc]; exact Nat.le_refl _
/-- Two classes made one. -/
theorem RcI.mrg (h : RcI t side R p0 p ch x y s) {a b : Nat} (ha : a < t.length) (hb : b < t.length) (e : Cgr t side R a b) (hne : p.getD a 0 ≠ p.getD b 0) (x' y' s' : Nat) : RcI t side R p0 (mrgL p a b) true x' y' s' :=
  ⟨h.b.mrg ha hb e, fun _ => Nat.lt_of_lt_of_le (mrg_less (by rw [h.b.len]; exact ha) (by rw [h.b.len]; exact hb) hne) h.le, fun h => (by cases h), fun h => (by cases h)⟩
theorem RcI.chd (h : RcI t side R p0 p true x y s) (x' y' s' : Nat) : RcI t side R p0 p true x' y' s' := ⟨h.b, h.cd, h.eq, fun h => (by cases h)⟩
/-- Nothing was to be done for s. -/
theorem RcI.okS (h : RcI t side R p0 p ch x y s) (hg : CgA t p side x y s) : RcI t side R p0 p ch x y (s + 1) :=
  ⟨h.b, h.cd, h.eq, fun hc x' y' s' h1 h2 h3 h4 h5 => by
    by_cases e : x' = x ∧ y' = y ∧ s' = s
    · obtain ⟨rfl, rfl, rfl⟩ := e
      rw [← h.eq hc]; exact hg
    · exact h.cl hc x' y' s' h1 h2 h3 (by omega) h5⟩
theorem RcI.endS (h : RcI t side R p0 p ch x y s) (hs : t.length ≤ s ∨ p.getD x 0 ≠ p.getD y 0) : RcI t side R p0 p ch x (y + 1) 0 :=
  ⟨h.b, h.cd, h.eq, fun hc x' y' s' h1 h2 h3 h4 h5 => by
    by_cases e : x' = x ∧ y' = y
    · rcases hs with hs | hs
      · exact h.cl hc x' y' s' h1 h2 h3 (by omega) h5
      · rw [e.1, e.2, ← h.eq hc] at h5; exact absurd h5 hs
    · exact h.cl hc x' y' s' h1 h2 h3 (by omega) h5⟩
theorem RcI.endY (h : RcI t side R p0 p ch x y 0) (hy : x ≤ y) : RcI t side R p0 p ch (x + 1) 0 0 :=
  ⟨h.b, h.cd, h.eq, fun hc x' y' s' h1 h2 h3 h4 h5 => h.cl hc x' y' s' h1 h2 h3 (by omega) h5⟩
/-- A round that changed nothing: the generated congruence. -/
theorem RcI.done (h : RcI t side R p0 p false x y 0) (hx : t.length ≤ x) : canon p = genP t side R := by
  have e := h.eq rfl
  subst e
  refine genP_of h.b.len h.b.up (fun a b hR => (h.b.lo a b hR).2.2) fun a b s ha hb hs e => ?_
  have key : ∀ a b, a < t.length → b < a → p.getD a 0 = p.getD b 0 → CgA t p side a b s := fun a b ha hb e => h.cl rfl a b s ha hb hs (.inl (by omega)) e
  rcases Nat.lt_trichotomy a b with hab | hab | hab
  · have := key b a hb hab e.symm
    exact ⟨fun h0 => (this.1 h0).symm, fun h0 => (this.2 h0).symm⟩
  · subst hab; exact ⟨fun _ => rfl, fun _ => rfl⟩
  · exact key a b ha hab e
theorem RcB.ofPairs {l : List (Int × Int)} (hl : inW t.length l) : RcB t side (relP l) (eqP t.length (relP l)) :=
  ⟨eqP_len, fun a b ha hb e => ((eqP_iff ha hb).1 e).least .refl (fun _ _ => .symm) (fun _ _ _ => .trans) fun a b h => .rel h,
    fun a b hR => by have := relP_lt hl hR; exact ⟨this.1, this.2, (eqP_iff this.1 this.2).2 (.rel hR)⟩⟩
end
end Go.Proofs.Yteopelpnpdbbcaa
