/- Plain: equivalences that pairs generate; classes made one; canonical numbers of classes. -/
import Derived.Test.YteopelpnpdbbcaaGreenLaw
namespace Go.Proofs.Yteopelpnpdbbcaa

/-- The least equivalence that R is in. -/
inductive Eg (R : Nat → Nat → Prop) : Nat → Nat → Prop
  | rel {a b : Nat} (h : R a b) : Eg R a b
  | refl (a : Nat) : Eg R a a
  | symm {a b : Nat} (h : Eg R a b) : Eg R b a
  | trans {a b c : Nat} (h : Eg R a b) (h' : Eg R b c) : Eg R a c
theorem Eg.least {R Q : Nat → Nat → Prop} (hr : ∀ a, Q a a) (hs : ∀ a b, Q a b → Q b a) (ht : ∀ a b c, Q a b → Q b c → Q a c) (h : ∀ a b, R a b → Q a b) {a b : Nat} (e : Eg R a b) : Q a b := by
  induction e with
  | rel h1 => exact h _ _ h1
  | refl a => exact hr a
  | symm _ ih => exact hs _ _ ih
  | trans _ _ i1 i2 => exact ht _ _ _ i1 i2
theorem Eg.mono {R R' : Nat → Nat → Prop} (h : ∀ a b, R a b → Eg R' a b) {a b : Nat} (e : Eg R a b) : Eg R' a b :=
  e.least .refl (fun _ _ => .symm) (fun _ _ _ => .trans) h
/-- One pair more. -/
def orP (R : Nat → Nat → Prop) (i j : Nat) : Nat → Nat → Prop := fun a b => R a b ∨ (a = i ∧ b = j)
theorem eg_or {R : Nat → Nat → Prop} {i j a b : Nat} : Eg (orP R i j) a b ↔ Eg R a b ∨ (Eg R a i ∧ Eg R j b) ∨ (Eg R a j ∧ Eg R i b) := by
  constructor
  · intro e
    refine e.least (Q := fun a b => Eg R a b ∨ (Eg R a i ∧ Eg R j b) ∨ (Eg R a j ∧ Eg R i b)) (fun a => .inl (.refl a)) ?_ ?_ ?_
    · rintro a b (h | ⟨h1, h2⟩ | ⟨h1, h2⟩)
      · exact .inl h.symm
      · exact .inr (.inr ⟨h2.symm, h1.symm⟩)
      · exact .inr (.inl ⟨h2.symm, h1.symm⟩)
    · rintro a b c (h | ⟨h1, h2⟩ | ⟨h1, h2⟩) (h' | ⟨h3, h4⟩ | ⟨h3, h4⟩)
      · exact .inl (h.trans h')
      · exact .inr (.inl ⟨h.trans h3, h4⟩)
      · exact .inr (.inr ⟨h.trans h3, h4⟩)
      · exact .inr (.inl ⟨h1, h2.trans h'⟩)
      · exact .inr (.inl ⟨h1, h4⟩)
      · exact .inl (h1.trans h4)
      · exact .inr (.inr ⟨h1, h2.trans h'⟩)
      · exact .inl (h1.trans h4)
      · exact .inr (.inr ⟨h1, h4⟩)
    · rintro a b (h | ⟨rfl, rfl⟩)
      · exact .inl (.rel h)
      · exact .inr (.inl ⟨.refl _, .refl _⟩)
  · have up : ∀ {a b}, Eg R a b → Eg (orP R i j) a b := fun e => e.mono fun a b h => .rel (.inl h)
    have ij : Eg (orP R i j) i j := .rel (.inr ⟨rfl, rfl⟩)
    rintro (h | ⟨h1, h2⟩ | ⟨h1, h2⟩)
    · exact up h
    · exact (up h1).trans (ij.trans (up h2))
    · exact (up h1).trans (ij.symm.trans (up h2))

/-- p has one number for each class of R. -/
def KerOf (n : Nat) (p : List Int) (R : Nat → Nat → Prop) : Prop := p.length = n ∧ ∀ a b, a < n → b < n → (p.getD a 0 = p.getD b 0 ↔ Eg R a b)
theorem KerOf.congr {n : Nat} {p : List Int} {R R' : Nat → Nat → Prop} (h : KerOf n p R) (h1 : ∀ a b, R a b → Eg R' a b) (h2 : ∀ a b, R' a b → Eg R a b) : KerOf n p R' :=
  ⟨h.1, fun a b ha hb => (h.2 a b ha hb).trans ⟨Eg.mono h1, Eg.mono h2⟩⟩
/-- Nothing is joined. -/
def disI (n : Nat) : List Int := (List.range n).map fun i : Nat => (i : Int)
theorem disI_len (n : Nat) : (disI n).length = n := by simp [disI]
theorem disI_get {n i : Nat} (h : i < n) : (disI n).getD i 0 = (i : Int) := by simp [disI, List.getD, h]
theorem mem_disI {n : Nat} {x : Int} : x ∈ disI n ↔ 0 ≤ x ∧ x < (n : Int) := by
  unfold disI
  rw [List.mem_map]
  constructor
  · rintro ⟨i, hi, rfl⟩; have := List.mem_range.1 hi; omega
  · intro h; exact ⟨x.toNat, List.mem_range.2 (by omega), by omega⟩
theorem eg_none {R : Nat → Nat → Prop} (h : ∀ a b, ¬ R a b) {a b : Nat} : Eg R a b ↔ a = b :=
  ⟨fun e => e.least (fun _ => rfl) (fun _ _ h => h.symm) (fun _ _ _ h h' => h.trans h') fun a b hr => absurd hr (h a b), fun e => e ▸ .refl a⟩
theorem KerOf.dis {n : Nat} {R : Nat → Nat → Prop} (h : ∀ a b, ¬ R a b) : KerOf n (disI n) R :=
  ⟨disI_len n, fun a b ha hb => by rw [disI_get ha, disI_get hb, eg_none h]; omega⟩

/-- The canonical numbers of an equivalence that can be decided. -/
theorem ker_canon {n : Nat} {p q : List Int} (hp : p.length = n) (hq : q.length = n) (h : ∀ a b, a < n → b < n → (p.getD a 0 = p.getD b 0 ↔ q.getD a 0 = q.getD b 0)) : canon p = canon q :=
  canon_congr (d := 0) (e := 0) (by rw [hp, hq]) fun i j hi hj => h i j (by omega) (by omega)
theorem pre_of {n : Nat} {e : Nat → Nat → Bool} (hr : ∀ x, x < n → e x x = true) (ht : ∀ x y z, x < n → y < n → z < n → e x y = true → e y z = true → e x z = true) : Pre n e := ⟨hr, ht⟩
theorem ker_clsL {n : Nat} {p : List Int} {e : Nat → Nat → Bool} (he : Pre n e) (hp : p.length = n) (h : ∀ a b, a < n → b < n → (p.getD a 0 = p.getD b 0 ↔ (e a b = true ∧ e b a = true))) : canon p = clsL n e := by
  rw [← canon_idem p]
  have h1 : canon (clsL n e) = clsL n e := canon_idem _
  rw [← h1, canon_idem p]
  exact ker_canon hp (clsL_len n e) fun a b ha hb => by rw [h a b ha hb, clsL_iff he ha hb]

end Go.Proofs.Yteopelpnpdbbcaa
