/- Plain: equivalences that pairs generate; classes made one; canonical numbers of classes. -/
import Derived.Test.YtdjbbjjmjopofaaGreatGreenLaw
namespace Go.Proofs.YtdjbbjjmjopofaaGreat

/-- The least equivalence that R is in. -/
inductive Eg (R : Nat → Nat → Prop) : Nat → Nat → Prop
  | rel {a b : Nat} (h : R a b) : Eg R a b
  | refl (a : Nat) : Eg R a a
  | symm {a b : Nat} (h : Eg R a b) : Eg R b a
  | trans {a b c : Nat} (h : Eg R a b) (h' : Eg R b c) : Eg R a c
theorem Eg.least {R Q : Nat → Nat → Prop} (hr : ∀ a, Q a a) (hs : ∀ a b, Q a b → Q b a) (ht : ∀ a b c, Q a b → Q b c → Q a c) (h : ∀ a b, R a b → Q a b) {a b : Nat} (e : Eg R a b) : Q a b := by
  induction e with
  | rel h1 => exact h _ _ h1
  | refl a => exact hr a
  | symm _ ih => exact hs _ _ ih
  | trans _ _ i1 i2 => exact ht _ _ _ i1 i2
theorem Eg.mono {R R' : Nat → Nat → Prop} (h : ∀ a b, R a b → Eg R' a b) {a b : Nat} (e : Eg R a b) : Eg R' a b :=
  e.least .refl (fun _ _ => .symm) (fun _ _ _ => .trans) h
/-- p has one number for each class of R. -/
def KerOf (n : Nat) (p : List Int) (R : Nat → Nat → Prop) : Prop := p.length = n ∧ ∀ a b, a < n → b < n → (p.getD a 0 = p.getD b 0 ↔ Eg R a b)
theorem KerOf.congr {n : Nat} {p : List Int} {R R' : Nat → Nat → Prop} (h : KerOf n p R) (h1 : ∀ a b, R a b → Eg R' a b) (h2 : ∀ a b, R' a b → Eg R a b) : KerOf n p R' :=
  ⟨h.1, fun a b ha hb => (h.2 a b ha hb).trans ⟨Eg.mono h1, Eg.mono h2⟩⟩
/-- Nothing is joined. -/
def disI (n : Nat) : List Int := (List.range n).map fun i : Nat => (i : Int)
theorem disI_len (n : Nat) : (disI n).length = n := by simp [disI]
theorem disI_get {n i : Nat} (h : i < n) : (disI n).getD i 0 = (i : Int) := by simp [disI, List.getD, h]
theorem mem_disI {n : Nat} {x : Int} : x ∈ disI n ↔ 0 ≤ x ∧ x < (n : Int) := by
  unfold disI
  rw [List.mem_map]
  constructor
  · rintro ⟨i, hi, rfl⟩; have := List.mem_range.1 hi; omega
  · intro h; exact ⟨x.toNat, List.mem_range.2 (by omega), by omega⟩
end Go.Proofs.YtdjbbjjmjopofaaGreat
