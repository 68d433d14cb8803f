/- Plain: congr.Generated makes the generated congruence. -/
import Derived.Test.YteopelpnpdbbcaaEqP
namespace Go.Proofs.Yteopelpnpdbbcaa
open Go Go.AM
/-- After i pairs. -/
structure GrI (t : List (List Int)) (gens : List Int) (side : Int) (l : List (Int × Int)) (i : Nat) (p : List Int) (r : Nat → Nat) : Prop where
  fo : Fo t.length p r
  ex : ∃ J : Nat → Nat → Prop, KerR t.length r J ∧ (∀ a b, J a b → a < t.length ∧ b < t.length ∧ Cgr t side (relP l) a b) ∧
    (∀ a b, J a b → ∀ g ∈ gens, (side ≠ 2 → Eg J (en t g.toNat a) (en t g.toNat b)) ∧ (side ≠ 1 → Eg J (en t a g.toNat) (en t b g.toNat))) ∧ ∀ q ∈ l.take i, Eg J q.1.toNat q.2.toNat
section
variable {t : List (List Int)} {gens : List Int} {side : Int} {l : List (Int × Int)} {i : Nat} {p : List Int} {r : Nat → Nat}
theorem GrI.start (t : List (List Int)) (gens : List Int) (side : Int) (l : List (Int × Int)) : GrI t gens side l 0 (disI t.length) id :=
  ⟨Fo.dis _, fun _ _ => False, KerR.dis _, fun _ _ h => h.elim, fun _ _ h => h.elim, fun q hq => by simp at hq⟩
theorem GrI.next (hs : Sh t) (hg : ∀ g ∈ gens, 0 ≤ g ∧ g < (t.length : Int)) (hl : inW t.length l) (h : GrI t gens side l i p r) (hi : i < l.length) {q : List Int} {u : Nat → Nat} {k : Nat} (hsp : Sp t gens side q u k p r [l.getD i (0, 0)]) : GrI t gens side l (i + 1) q u := by
  obtain ⟨J, h1, h2, h3, h4⟩ := h.ex
  have hm : l.getD i (0, 0) ∈ l := getD_mem hi
  have hq := hl _ hm
  have hrel : relP l (l.getD i (0, 0)).1.toNat (l.getD i (0, 0)).2.toNat := by
    show (_, _) ∈ l
    rw [Int.toNat_of_nonneg hq.1.1, Int.toNat_of_nonneg hq.2.1]; exact hm
  have up : ∀ {a b : Nat}, Eg J a b → Eg (fun a b => J a b ∨ ((a : Int), (b : Int)) ∈ [l.getD i (0, 0)]) a b := fun e => e.mono fun a b h => .rel (.inl h)
  obtain ⟨hfo, J', k1, k2, k3, k4, k5⟩ := hsp.law (Q := relP l) hs hg J h.fo (fun z hz => by rw [List.mem_singleton] at hz; subst hz; exact hq) h1 h2 (fun w hw => by rw [List.mem_singleton] at hw; subst hw; exact .rel hrel)
    fun a b hJ g hgm => ⟨fun h0 => up ((h3 a b hJ g hgm).1 h0), fun h0 => up ((h3 a b hJ g hgm).2 h0)⟩
  refine ⟨hfo, J', k1, k4, k5, fun z hz => ?_⟩
  rw [take_get (d := (0, 0)) hi] at hz
  rcases List.mem_append.1 hz with hz | hz
  · exact (h4 z hz).mono fun a b h => .rel (k2 a b h)
  · rw [List.mem_singleton] at hz
    subst hz
    exact k3 _ _ (by rw [Int.toNat_of_nonneg hq.1.1, Int.toNat_of_nonneg hq.2.1]; simp)
theorem GrI.done (hs : Semi t) (hg : Spans t gens) (hl : inW t.length l) (h : GrI t gens side l i p r) (hi : l.length ≤ i) : canon (rtL t.length r) = genP t side (relP l) := by
  obtain ⟨J, h1, h2, h3, h4⟩ := h.ex
  have hS := hs.toSh
  have key : ∀ a b, a < t.length → b < t.length → ((rtL t.length r).getD a 0 = (rtL t.length r).getD b 0 ↔ Eg J a b) := h1.ker.2
  refine genP_of (rtL_len _ _) (fun a b ha hb e => ?_) (fun a b hR => ?_) fun x y s hx hy hsl e => ?_
  · exact ((key a b ha hb).1 e).least .refl (fun _ _ => .symm) (fun _ _ _ => .trans) fun a b h => (h2 a b h).2.2
  · have hlt := relP_lt hl hR
    refine (key a b hlt.1 hlt.2).2 ?_
    have := h4 _ (by rw [List.take_of_length_le hi]; exact hR)
    simpa using this
  · have e := (key x y hx hy).1 e
    have hc := eg_gens hs (fun a b h => ⟨(h2 a b h).1, (h2 a b h).2.1⟩) hg.el h3 (hg.all s hsl) x y hx hy e
    exact ⟨fun h0 => (key _ _ (hS.ent hsl hx).2 (hS.ent hsl hy).2).2 (hc.1 h0), fun h0 => (key _ _ (hS.ent hx hsl).2 (hS.ent hy hsl).2).2 (hc.2 h0)⟩
end
end Go.Proofs.Yteopelpnpdbbcaa
