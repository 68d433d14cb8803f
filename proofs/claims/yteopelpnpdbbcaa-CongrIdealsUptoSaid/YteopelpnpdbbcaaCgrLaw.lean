import Derived.Test.YteopelpnpdbbcaaRefCg
import Derived.Test.YteopelpnpdbbcaaForLaw
/- Plain: the congruence that pairs generate; how the forest of congr makes it. -/
namespace Go.Proofs.Yteopelpnpdbbcaa
open Go Go.AM

/-- The least congruence (on the sides that count) that R is in. -/
inductive Cgr (t : List (List Int)) (side : Int) (R : Nat → Nat → Prop) : Nat → Nat → Prop
  | rel {a b : Nat} (h : R a b) : Cgr t side R a b
  | refl (a : Nat) : Cgr t side R a a
  | symm {a b : Nat} (h : Cgr t side R a b) : Cgr t side R b a
  | trans {a b c : Nat} (h : Cgr t side R a b) (h' : Cgr t side R b c) : Cgr t side R a c
  | left {a b s : Nat} (h0 : side ≠ 2) (hs : s < t.length) (ha : a < t.length) (hb : b < t.length) (h : Cgr t side R a b) : Cgr t side R (en t s a) (en t s b)
  | right {a b s : Nat} (h0 : side ≠ 1) (hs : s < t.length) (ha : a < t.length) (hb : b < t.length) (h : Cgr t side R a b) : Cgr t side R (en t a s) (en t b s)
theorem Cgr.least {t : List (List Int)} {side : Int} {R Q : Nat → Nat → Prop} (hr : ∀ a, Q a a) (hs : ∀ a b, Q a b → Q b a) (ht : ∀ a b c, Q a b → Q b c → Q a c) (h : ∀ a b, R a b → Q a b)
    (hl : side ≠ 2 → ∀ a b s, s < t.length → a < t.length → b < t.length → Q a b → Q (en t s a) (en t s b)) (hR : side ≠ 1 → ∀ a b s, s < t.length → a < t.length → b < t.length → Q a b → Q (en t a s) (en t b s)) {a b : Nat} (e : Cgr t side R a b) : Q a b := by
  induction e with
  | rel h1 => exact h _ _ h1
  | refl a => exact hr a
  | symm _ ih => exact hs _ _ ih
  | trans _ _ i1 i2 => exact ht _ _ _ i1 i2
  | left h0 h1 h2 h3 _ ih => exact hl h0 _ _ _ h1 h2 h3 ih
  | right h0 h1 h2 h3 _ ih => exact hR h0 _ _ _ h1 h2 h3 ih
theorem Cgr.mono {t : List (List Int)} {side : Int} {R R' : Nat → Nat → Prop} (h : ∀ a b, R a b → Cgr t side R' a b) {a b : Nat} (e : Cgr t side R a b) : Cgr t side R' a b :=
  e.least .refl (fun _ _ => .symm) (fun _ _ _ => .trans) h (fun h0 _ _ _ h1 h2 h3 h4 => .left h0 h1 h2 h3 h4) (fun h0 _ _ _ h1 h2 h3 h4 => .right h0 h1 h2 h3 h4)
noncomputable def cgrB (t : List (List Int)) (side : Int) (R : Nat → Nat → Prop) (a b : Nat) : Bool := @decide (Cgr t side R a b) (Classical.propDecidable _)
theorem cgrB_true {t : List (List Int)} {side : Int} {R : Nat → Nat → Prop} {a b : Nat} : cgrB t side R a b = true ↔ Cgr t side R a b := by unfold cgrB; exact @decide_eq_true_iff _ (Classical.propDecidable _)
theorem cgr_pre (t : List (List Int)) (side : Int) (R : Nat → Nat → Prop) : Pre t.length (cgrB t side R) :=
  pre_of (fun x _ => cgrB_true.2 (.refl x)) fun _ _ _ _ _ _ h h' => cgrB_true.2 ((cgrB_true.1 h).trans (cgrB_true.1 h'))
/-- The generated congruence's numbers. -/
noncomputable def genP (t : List (List Int)) (side : Int) (R : Nat → Nat → Prop) : List Int := clsL t.length (cgrB t side R)
section
variable {t : List (List Int)} {side : Int} {R : Nat → Nat → Prop}
/-- A congruence that has all pairs of R has the generated one. -/
theorem Cgr.sub {p : List Int} (hR : ∀ a b, R a b → p.getD a 0 = p.getD b 0) (hg : Cg t p side) {a b : Nat} (e : Cgr t side R a b) : p.getD a 0 = p.getD b 0 :=
  e.least (Q := fun a b => p.getD a 0 = p.getD b 0) (fun _ => rfl) (fun _ _ h => h.symm) (fun _ _ _ h h' => h.trans h') hR
    (fun h0 a b s hs ha hb h => (hg a b s ha hb hs h).1 h0) (fun h0 a b s hs ha hb h => (hg a b s ha hb hs h).2 h0)
/-- Numbers that join no more and are a congruence with all pairs: those of the generated one. -/
theorem genP_of {p : List Int} (hl : p.length = t.length) (h1 : ∀ a b, a < t.length → b < t.length → p.getD a 0 = p.getD b 0 → Cgr t side R a b) (hR : ∀ a b, R a b → p.getD a 0 = p.getD b 0) (hg : Cg t p side) : canon p = genP t side R := by
  refine ker_clsL (cgr_pre t side R) hl fun a b ha hb => ?_
  rw [cgrB_true, cgrB_true]
  exact ⟨fun e => ⟨h1 a b ha hb e, (h1 a b ha hb e).symm⟩, fun e => e.1.sub hR hg⟩
end

/-! ### From generators to all elements -/
section
variable {t : List (List Int)} {side : Int}
theorem eg_gens {J : Nat → Nat → Prop} (hs : Semi t) (hJ : ∀ a b, J a b → a < t.length ∧ b < t.length) {gens : List Int} (hg : ∀ g ∈ gens, 0 ≤ g ∧ g < (t.length : Int))
    (hc : ∀ a b, J a b → ∀ g ∈ gens, (side ≠ 2 → Eg J (en t g.toNat a) (en t g.toNat b)) ∧ (side ≠ 1 → Eg J (en t a g.toNat) (en t b g.toNat))) {s : Nat} (m : Mk t gens s) :
    ∀ a b, a < t.length → b < t.length → Eg J a b → (side ≠ 2 → Eg J (en t s a) (en t s b)) ∧ (side ≠ 1 → Eg J (en t a s) (en t b s)) := by
  have hS := hs.toSh
  have base : ∀ g ∈ gens, ∀ a b, Eg J a b → (side ≠ 2 → Eg J (en t g.toNat a) (en t g.toNat b)) ∧ (side ≠ 1 → Eg J (en t a g.toNat) (en t b g.toNat)) := fun g hgm a b e =>
    e.least (Q := fun a b => (side ≠ 2 → Eg J (en t g.toNat a) (en t g.toNat b)) ∧ (side ≠ 1 → Eg J (en t a g.toNat) (en t b g.toNat))) (fun _ => ⟨fun _ => .refl _, fun _ => .refl _⟩) (fun _ _ h => ⟨fun h0 => (h.1 h0).symm, fun h0 => (h.2 h0).symm⟩)
      (fun _ _ _ h h' => ⟨fun h0 => (h.1 h0).trans (h'.1 h0), fun h0 => (h.2 h0).trans (h'.2 h0)⟩) fun a b h => hc a b h g hgm
  have key : ∀ {s : Nat}, Mk t gens s → s < t.length ∧ ∀ a b, a < t.length → b < t.length → Eg J a b → (side ≠ 2 → Eg J (en t s a) (en t s b)) ∧ (side ≠ 1 → Eg J (en t a s) (en t b s)) := fun {s} m => by
    induction m with
    | gen h => exact ⟨by have := hg _ h; omega, fun a b _ _ e => base _ h a b e⟩
    | mul ha hb i1 i2 =>
      rename_i u v
      refine ⟨(hS.ent i1.1 i2.1).2, fun a b hal hbl e => ⟨fun h0 => ?_, fun h0 => ?_⟩⟩
      · rw [assoc3 hs.assoc i1.1 i2.1 hal, assoc3 hs.assoc i1.1 i2.1 hbl]
        exact (i1.2 _ _ (hS.ent i2.1 hal).2 (hS.ent i2.1 hbl).2 ((i2.2 a b hal hbl e).1 h0)).1 h0
      · rw [← assoc3 hs.assoc hal i1.1 i2.1, ← assoc3 hs.assoc hbl i1.1 i2.1]
        exact (i2.2 _ _ (hS.ent hal i1.1).2 (hS.ent hbl i1.1).2 ((i1.2 a b hal hbl e).2 h0)).2 h0
  exact (key m).2
end

/-! ### The forest: joined or not; the number of classes -/
/-- The parents after a search from i and one from j. -/
def fn2L (p : List Int) (i j : Nat) : List Int := fndL (j + 1) (fndL (i + 1) p i) j
theorem fn2_fo {n : Nat} {p : List Int} {r : Nat → Nat} (h : Fo n p r) {i j : Nat} (hi : i < n) (hj : j < n) : Fo n (fn2L p i j) r := fndL_fo _ (fndL_fo _ h hi) hj
/-- After joining: the parents and the least elements. -/
def jnP (r : Nat → Nat) (p : List Int) (i j : Nat) : List Int := if r i = r j then fn2L p i j else ufL r p i j
def jnR (r : Nat → Nat) (i j : Nat) : Nat → Nat := if r i = r j then r else ufR r i j
theorem jn_fo {n : Nat} {p : List Int} {r : Nat → Nat} (h : Fo n p r) {i j : Nat} (hi : i < n) (hj : j < n) : Fo n (jnP r p i j) (jnR r i j) := by
  unfold jnP jnR
  by_cases e : r i = r j
  · rw [if_pos e, if_pos e]; exact fn2_fo h hi hj
  · rw [if_neg e, if_neg e]; exact h.union hi hj
theorem jn_ker {n : Nat} {r : Nat → Nat} {R : Nat → Nat → Prop} (h : KerR n r R) {i j : Nat} (hi : i < n) (hj : j < n) : KerR n (jnR r i j) (orP R i j) := by
  unfold jnR
  by_cases e : r i = r j
  · rw [if_pos e]
    intro a b ha hb
    rw [h a b ha hb]
    refine ⟨fun k => k.mono fun a b h => .rel (.inl h), fun k => k.mono fun a b h => ?_⟩
    rcases h with h | ⟨rfl, rfl⟩
    · exact .rel h
    · exact (h a b hi hj).1 e
  · rw [if_neg e]; exact h.union hi hj
/-! ### The spreading of joined pairs -/
/-- What is put on the stack for a pair. -/
def puL (t : List (List Int)) (side : Int) (x y : Nat) (gens : List Int) : List (Int × Int) :=
  gens.flatMap fun g => (if side ≠ 2 then [((en t g.toNat x : Int), (en t g.toNat y : Int))] else []) ++ (if side ≠ 1 then [((en t x g.toNat : Int), (en t y g.toNat : Int))] else [])
theorem mem_puL {t : List (List Int)} {side : Int} {x y : Nat} {gens : List Int} {q : Int × Int} : q ∈ puL t side x y gens ↔ ∃ g ∈ gens, (side ≠ 2 ∧ q = ((en t g.toNat x : Int), (en t g.toNat y : Int))) ∨ (side ≠ 1 ∧ q = ((en t x g.toNat : Int), (en t y g.toNat : Int))) := by
  unfold puL
  rw [List.mem_flatMap]
  refine exists_congr fun g => and_congr Iff.rfl ?_
  rw [List.mem_append]
  refine or_congr ?_ ?_
  · split
    · rename_i h; rw [List.mem_singleton]; exact ⟨fun e => ⟨h, e⟩, fun e => e.2⟩
    · rename_i h; exact ⟨fun e => (nomatch e), fun e => absurd e.1 h⟩
  · split
    · rename_i h; rw [List.mem_singleton]; exact ⟨fun e => ⟨h, e⟩, fun e => e.2⟩
    · rename_i h; exact ⟨fun e => (nomatch e), fun e => absurd e.1 h⟩
/-- The run of spread: k rounds from parents p, least elements r and a stack W to q and u. -/
inductive Sp (t : List (List Int)) (gens : List Int) (side : Int) (q : List Int) (u : Nat → Nat) : Nat → List Int → (Nat → Nat) → List (Int × Int) → Prop
  | done : Sp t gens side q u 0 q u []
  | step {k : Nat} {p : List Int} {r : Nat → Nat} {W : List (Int × Int)} {x y : Nat} (h : Sp t gens side q u k (jnP r p x y) (jnR r x y) (W ++ (if r x = r y then [] else puL t side x y gens))) : Sp t gens side q u (k + 1) p r (W ++ [((x : Int), (y : Int))])
theorem Sp.inv {t : List (List Int)} {gens : List Int} {side : Int} {q p : List Int} {u r : Nat → Nat} {k : Nat} {W : List (Int × Int)} (h : Sp t gens side q u k p r W) :
    (W = [] ∧ p = q ∧ r = u) ∨ ∃ (j x y : Nat) (V : List (Int × Int)), k = j + 1 ∧ W = V ++ [((x : Int), (y : Int))] ∧ Sp t gens side q u j (jnP r p x y) (jnR r x y) (V ++ (if r x = r y then [] else puL t side x y gens)) := by
  cases h with
  | done => exact .inl ⟨rfl, rfl, rfl⟩
  | step h => exact .inr ⟨_, _, _, _, rfl, rfl, h⟩
def inW (n : Nat) (W : List (Int × Int)) : Prop := ∀ q ∈ W, (0 ≤ q.1 ∧ q.1 < (n : Int)) ∧ 0 ≤ q.2 ∧ q.2 < (n : Int)
theorem puL_in {t : List (List Int)} {side : Int} {x y : Nat} {gens : List Int} (hs : Sh t) (hg : ∀ g ∈ gens, 0 ≤ g ∧ g < (t.length : Int)) (hx : x < t.length) (hy : y < t.length) : inW t.length (puL t side x y gens) := fun q hq => by
  obtain ⟨g, hgm, h⟩ := mem_puL.1 hq
  have hgl := hg g hgm
  have e1 := (hs.ent (x := g.toNat) (by omega) hx).2
  have e2 := (hs.ent (x := g.toNat) (by omega) hy).2
  have e3 := (hs.ent (y := g.toNat) hx (by omega)).2
  have e4 := (hs.ent (y := g.toNat) hy (by omega)).2
  rcases h with ⟨_, rfl⟩ | ⟨_, rfl⟩
  · exact ⟨⟨by omega, by omega⟩, by omega, by omega⟩
  · exact ⟨⟨by omega, by omega⟩, by omega, by omega⟩
theorem inW_app {n : Nat} {V W : List (Int × Int)} : inW n (V ++ W) ↔ inW n V ∧ inW n W :=
  ⟨fun h => ⟨fun q hq => h q (List.mem_append_left _ hq), fun q hq => h q (List.mem_append_right _ hq)⟩, fun h q hq => (List.mem_append.1 hq).elim (h.1 q) (h.2 q)⟩
section
variable {t : List (List Int)} {gens : List Int} {side : Int}
/-- What spread makes: a forest of a relation J that has all pairs of the stack, and of which products with generators are pairs of it. -/
theorem Sp.law {Q : Nat → Nat → Prop} (hs : Sh t) (hg : ∀ g ∈ gens, 0 ≤ g ∧ g < (t.length : Int)) {q : List Int} {u : Nat → Nat} {k : Nat} {p : List Int} {r : Nat → Nat} {W : List (Int × Int)} (h : Sp t gens side q u k p r W) :
    ∀ J : Nat → Nat → Prop, Fo t.length p r → inW t.length W → KerR t.length r J → (∀ a b, J a b → a < t.length ∧ b < t.length ∧ Cgr t side Q a b) → (∀ w ∈ W, Cgr t side Q w.1.toNat w.2.toNat) →
      (∀ a b, J a b → ∀ g ∈ gens, (side ≠ 2 → Eg (fun a b => J a b ∨ ((a : Int), (b : Int)) ∈ W) (en t g.toNat a) (en t g.toNat b)) ∧ (side ≠ 1 → Eg (fun a b => J a b ∨ ((a : Int), (b : Int)) ∈ W) (en t a g.toNat) (en t b g.toNat))) →
      Fo t.length q u ∧ ∃ J' : Nat → Nat → Prop, KerR t.length u J' ∧ (∀ a b, J a b → J' a b) ∧ (∀ a b : Nat, ((a : Int), (b : Int)) ∈ W → Eg J' a b) ∧ (∀ a b, J' a b → a < t.length ∧ b < t.length ∧ Cgr t side Q a b) ∧
        (∀ a b, J' a b → ∀ g ∈ gens, (side ≠ 2 → Eg J' (en t g.toNat a) (en t g.toNat b)) ∧ (side ≠ 1 → Eg J' (en t a g.toNat) (en t b g.toNat))) := by
  induction h with
  | done =>
    intro J hf _ hk hJ _ hc
    refine ⟨hf, J, hk, fun _ _ h => h, fun a b h => (nomatch h), hJ, fun a b h g hgm => ?_⟩
    have := hc a b h g hgm
    have e : (fun a b : Nat => J a b ∨ ((a : Int), (b : Int)) ∈ ([] : List (Int × Int))) = J := by
      funext a b; simp
    rwa [e] at this
  | step h ih =>
    rename_i k p r W x y
    intro J hf hW hk hJ hQ hc
    have hxy := hW ((x : Int), (y : Int)) (by simp)
    have hx : x < t.length := by have := hxy.1.2; simp at this; omega
    have hy : y < t.length := by have := hxy.2.2; simp at this; omega
    have hQxy : Cgr t side Q x y := by simpa using hQ ((x : Int), (y : Int)) (by simp)
    have hWl := (inW_app.1 hW).1
    by_cases e : r x = r y
    · have hJxy : Eg J x y := (hk x y hx hy).1 e
      have e1 : jnR r x y = r := if_pos e
      rw [e1, if_pos e, List.append_nil] at ih
      rw [e1] at h
      have hf' := jn_fo hf hx hy
      rw [e1] at hf'
      have up : ∀ a b, Eg (fun a b => J a b ∨ ((a : Int), (b : Int)) ∈ W ++ [((x : Int), (y : Int))]) a b → Eg (fun a b => J a b ∨ ((a : Int), (b : Int)) ∈ W) a b := fun a b k => k.mono fun a b h => by
        rcases h with h | h
        · exact .rel (.inl h)
        · rcases List.mem_append.1 h with h | h
          · exact .rel (.inr h)
          · rw [List.mem_singleton] at h
            have : a = x ∧ b = y := by rw [Prod.mk.injEq] at h; omega
            obtain ⟨rfl, rfl⟩ := this
            exact hJxy.mono fun a b h => .rel (.inl h)
      obtain ⟨hfo, J', h1, h2, h3, h4, h5⟩ := ih J hf' hWl hk hJ (fun w hw => hQ w (List.mem_append_left _ hw)) fun a b h g hgm => ⟨fun h0 => up _ _ ((hc a b h g hgm).1 h0), fun h0 => up _ _ ((hc a b h g hgm).2 h0)⟩
      refine ⟨hfo, J', h1, h2, fun a b h => ?_, h4, h5⟩
      rcases List.mem_append.1 h with h | h
      · exact h3 a b h
      · rw [List.mem_singleton] at h
        have : a = x ∧ b = y := by rw [Prod.mk.injEq] at h; omega
        obtain ⟨rfl, rfl⟩ := this
        exact hJxy.mono fun a b h => .rel (h2 a b h)
    · rw [if_neg e] at ih
      have hin : inW t.length (W ++ puL t side x y gens) := inW_app.2 ⟨hWl, puL_in hs hg hx hy⟩
      have up : ∀ a b, Eg (fun a b => J a b ∨ ((a : Int), (b : Int)) ∈ W ++ [((x : Int), (y : Int))]) a b → Eg (fun a b => orP J x y a b ∨ ((a : Int), (b : Int)) ∈ W ++ puL t side x y gens) a b := fun a b k => k.mono fun a b h => by
        rcases h with h | h
        · exact .rel (.inl (.inl h))
        · rcases List.mem_append.1 h with h | h
          · exact .rel (.inr (List.mem_append_left _ h))
          · rw [List.mem_singleton] at h
            have : a = x ∧ b = y := by rw [Prod.mk.injEq] at h; omega
            exact .rel (.inl (.inr this))
      obtain ⟨hfo, J', h1, h2, h3, h4, h5⟩ := ih (orP J x y) (jn_fo hf hx hy) hin (jn_ker hk hx hy) (fun a b h => by
          rcases h with h | ⟨rfl, rfl⟩
          · exact hJ a b h
          · exact ⟨hx, hy, hQxy⟩) (fun w hw => by
          rcases List.mem_append.1 hw with hw | hw
          · exact hQ w (List.mem_append_left _ hw)
          · obtain ⟨g, hgm, h⟩ := mem_puL.1 hw
            have hgl := hg g hgm
            rcases h with ⟨h0, rfl⟩ | ⟨h0, rfl⟩
            · simpa using Cgr.left h0 (by omega) hx hy hQxy
            · simpa using Cgr.right h0 (by omega) hx hy hQxy) fun a b h g hgm => by
          rcases h with h | ⟨rfl, rfl⟩
          · exact ⟨fun h0 => up _ _ ((hc a b h g hgm).1 h0), fun h0 => up _ _ ((hc a b h g hgm).2 h0)⟩
          · exact ⟨fun h0 => .rel (.inr (List.mem_append_right _ (mem_puL.2 ⟨g, hgm, .inl ⟨h0, rfl⟩⟩))), fun h0 => .rel (.inr (List.mem_append_right _ (mem_puL.2 ⟨g, hgm, .inr ⟨h0, rfl⟩⟩)))⟩
      refine ⟨hfo, J', h1, fun a b h => h2 a b (.inl h), fun a b h => ?_, h4, h5⟩
      rcases List.mem_append.1 h with h | h
      · exact h3 a b (List.mem_append_left _ h)
      · rw [List.mem_singleton] at h
        have : a = x ∧ b = y := by rw [Prod.mk.injEq] at h; omega
        obtain ⟨rfl, rfl⟩ := this
        exact .rel (h2 a b (.inr ⟨rfl, rfl⟩))
end
end Go.Proofs.Yteopelpnpdbbcaa
