/- Plain: how the reference closes a partition under products. -/
import Derived.Test.YteopelpnpdbbcaaEqP
namespace Go.Proofs.Yteopelpnpdbbcaa
open Go Go.AM
theorem nodup_sub {α : Type} [DecidableEq α] : ∀ {A B : List α}, A.Nodup → (∀ x ∈ A, x ∈ B) → A.length ≤ B.length
  | [], _, _, _ => Nat.zero_le _
  | a :: A, B, hA, h => by
    have ha := h a (by simp)
    have hn := List.nodup_cons.1 hA
    have := nodup_sub (B := B.erase a) hn.2 fun x hx => (List.mem_erase_of_ne fun e => by subst e; exact hn.1 hx).2 (h x (List.mem_cons_of_mem _ hx))
    have hl := List.length_erase_of_mem ha
    have hp := List.length_pos_of_mem ha
    simp only [List.length_cons]; omega
/-- Between R and the congruence that it generates. -/
structure RcB (t : List (List Int)) (side : Int) (R : Nat → Nat → Prop) (p : List Int) : Prop where
  len : p.length = t.length
  up : ∀ a b, a < t.length → b < t.length → p.getD a 0 = p.getD b 0 → Cgr t side R a b
  lo : ∀ a b, R a b → a < t.length ∧ b < t.length ∧ p.getD a 0 = p.getD b 0
section
variable {t : List (List Int)} {side : Int} {R : Nat → Nat → Prop} {p p0 : List Int} {ch : Bool} {x y s : Nat}
/-- One round: what is done before (x, y, s). -/
structure RcI (t : List (List Int)) (side : Int) (R : Nat → Nat → Prop) (p0 p : List Int) (ch : Bool) (x y s : Nat) : Prop where
  b : RcB t side R p
  cd : ch = true → classN p < classN p0
  eq : ch = false → p = p0
  cl : ch = false → ∀ x' y' s', x' < t.length → y' < x' → s' < t.length → (x' < x ∨ (x' = x ∧ y' < y) ∨ (x' = x ∧ y' = y ∧ s' < s)) → p0.getD x' 0 = p0.getD y' 0 → CgA t p0 side x' y' s'
theorem RcI.start (h : RcB t side R p) : RcI t side R p p false 0 0 0 := ⟨h, (fun h => by cases h), fun _ => rfl, fun _ x' y' s' _ _ _ h => by omega⟩
theorem RcI.le (h : RcI t side R p0 p ch x y s) : classN p ≤ classN p0 := by
  cases hc : ch with
  | true => exact Nat.le_of_lt (h.cd hc)
  | false => rw [h.eq hc]; exact Nat.le_refl _
/-- A round that changed nothing: the generated congruence. -/
theorem RcI.done (h : RcI t side R p0 p false x y 0) (hx : t.length ≤ x) : canon p = genP t side R := by
  have e := h.eq rfl
  subst e
  refine genP_of h.b.len h.b.up (fun a b hR => (h.b.lo a b hR).2.2) fun a b s ha hb hs e => ?_
  have key : ∀ a b, a < t.length → b < a → p.getD a 0 = p.getD b 0 → CgA t p side a b s := fun a b ha hb e => h.cl rfl a b s ha hb hs (.inl (by omega)) e
  rcases Nat.lt_trichotomy a b with hab | hab | hab
  · have := key b a hb hab e.symm
    exact ⟨fun h0 => (this.1 h0).symm, fun h0 => (this.2 h0).symm⟩
  · subst hab; exact ⟨fun _ => rfl, fun _ => rfl⟩
  · exact key a b ha hab e
end
end Go.Proofs.Yteopelpnpdbbcaa
