import Derived.Test.YteopelpnpdbbcaaSat
import Derived.Test.YteopelpnpdbbcaaCgGnrLaw
import Derived.Test.YteopelpnpdbbcaaSynLaw
import Derived.Test.YteopelpnpdbbcaaEqP
import Derived.Test.YteopelpnpdbbcaaForLaw
import Derived.Test.YteopelpnpdbbcaaEqvLaw
import Derived.Test.YteopelpnpdbbcaaRefPart
import Derived.Test.YteopelpnpdbbcaaPart
import Derived.Test.YteopelpnpdbbcaaCgGen
import Derived.Test.YteopelpnpdbbcaaQuoLaw
import Derived.Test.YteopelpnpdbbcaaCgrLaw
import Derived.Test.YteopelpnpdbbcaaGroup
import Derived.Test.YteopelpnpdbbcaaIdealLaw
import Derived.Test.YteopelpnpdbbcaaBase
import Derived.Test.YteopelpnpdbbcaaLatLaw
import Derived.Test.YteopelpnpdbbcaaMult
import Derived.Test.YteopelpnpdbbcaaRefCg
import Derived.Test.YteopelpnpdbbcaaAwk19
import Derived.Test.YteopelpnpdbbcaaRefRees
/- The reference of the syntactic congruence: its walk. -/
namespace Go.Proofs.Yteopelpnpdbbcaa
open Go Go.AM
set_option maxRecDepth 100000
/-- What the reference asks of one factor. -/
def Uc (t : List (List Int)) (s : List Bool) (x y u : Nat) : Prop := (s.getD (en t u x) false = s.getD (en t u y) false ∧ s.getD (en t x u) false = s.getD (en t y u) false) ∧ ∀ v, v < t.length → s.getD (en t (en t u x) v) false = s.getD (en t (en t u y) v) false
theorem syn_uc {t : List (List Int)} {s : List Bool} {x y : Nat} (h : Sh t) (hsl : s.length = t.length) (hx : x < t.length) (hy : y < t.length) : Syn t (lbL s) x y ↔ s.getD x false = s.getD y false ∧ ∀ u, u < t.length → Uc t s x y u := by
  constructor
  · intro e
    refine ⟨(lbL_iff (by omega) (by omega)).1 e.own, fun u hu => ⟨⟨?_, ?_⟩, fun v hv => ?_⟩⟩
    · exact (lbL_iff (by rw [hsl]; exact (h.ent hu hx).2) (by rw [hsl]; exact (h.ent hu hy).2)).1 (e.one u hu).1
    · exact (lbL_iff (by rw [hsl]; exact (h.ent hx hu).2) (by rw [hsl]; exact (h.ent hy hu).2)).1 (e.one u hu).2
    · exact (lbL_iff (by rw [hsl]; exact (h.ent (h.ent hu hx).2 hv).2) (by rw [hsl]; exact (h.ent (h.ent hu hy).2 hv).2)).1 (e.two u v hu hv)
  · intro e
    refine ⟨(lbL_iff (by omega) (by omega)).2 e.1, fun u hu => ⟨?_, ?_⟩, fun u v hu hv => ?_⟩
    · exact (lbL_iff (by rw [hsl]; exact (h.ent hu hx).2) (by rw [hsl]; exact (h.ent hu hy).2)).2 (e.2 u hu).1.1
    · exact (lbL_iff (by rw [hsl]; exact (h.ent hx hu).2) (by rw [hsl]; exact (h.ent hy hu).2)).2 (e.2 u hu).1.2
    · exact (lbL_iff (by rw [hsl]; exact (h.ent (h.ent hu hx).2 hv).2) (by rw [hsl]; exact (h.ent (h.ent hu hy).2 hv).2)).2 ((e.2 u hu).2 v hv)
/-- The classes among the first x. -/
def RsI (t : List (List Int)) (s : List Bool) (L : List Int) (x : Nat) : Prop := L.length = t.length ∧ (∀ i, i < x → L.getD i 0 ≤ i) ∧ ∀ i j, i < x → j < x → (L.getD i 0 = L.getD j 0 ↔ Syn t (lbL s) i j)
/-- One more, of which the first y are asked. -/
def RsY (t : List (List Int)) (s : List Bool) (L : List Int) (x y : Nat) : Prop := RsI t s L x ∧ ((L.getD x 0 = x ∧ ∀ y', y' < y → ¬ Syn t (lbL s) x y') ∨ ∃ y', y' < x ∧ Syn t (lbL s) x y' ∧ L.getD x 0 = L.getD y' 0)
theorem RsI.upd {t : List (List Int)} {s : List Bool} {L : List Int} {x : Nat} {a : Int} (h : RsI t s L x) : RsI t s (L.set x a) x := by
  refine ⟨by rw [List.length_set]; exact h.1, fun i hi => ?_, fun i j hi hj => ?_⟩
  · rw [getD_set_ne (by omega)]; exact h.2.1 i hi
  · rw [getD_set_ne (by omega), getD_set_ne (by omega)]; exact h.2.2 i j hi hj
theorem RsY.done {t : List (List Int)} {s : List Bool} {L : List Int} {x y : Nat} (h : RsY t s L x y) (he : y = x ∨ L.getD x 0 ≠ x) : RsI t s L (x + 1) := by
  have h0 := h.1
  have key : L.getD x 0 ≤ x ∧ ∀ j, j < x → (L.getD x 0 = L.getD j 0 ↔ Syn t (lbL s) x j) := by
    refine Or.elim h.2 (fun h1 => ?_) (fun h1 => ?_)
    · have hy : y = x := Or.elim he id fun h2 => absurd h1.1 h2
      refine ⟨by rw [h1.1]; omega, fun j hj => ⟨fun e => ?_, fun e => absurd e (h1.2 j (by omega))⟩⟩
      have := h0.2.1 j hj
      rw [← e, h1.1] at this; omega
    · obtain ⟨y', hy', hs, e⟩ := h1
      have := h0.2.1 y' hy'
      refine ⟨by omega, fun j hj => ?_⟩
      rw [e, h0.2.2 y' j hy' hj]
      exact ⟨fun e2 => hs.trans e2, fun e2 => hs.symm.trans e2⟩
  refine ⟨h0.1, fun i hi => ?_, fun i j hi hj => ?_⟩
  · by_cases e : i = x
    · subst e; exact key.1
    · exact h0.2.1 i (by omega)
  · by_cases e : i = x
    · by_cases e2 : j = x
      · subst e; subst e2; exact ⟨fun _ => Syn.refl _, fun _ => rfl⟩
      · subst e; exact key.2 j (by omega)
    · by_cases e2 : j = x
      · subst e2
        constructor
        · exact fun e3 => ((key.2 i (by omega)).1 e3.symm).symm
        · exact fun e3 => ((key.2 i (by omega)).2 e3.symm).symm
      · exact h0.2.2 i j (by omega) (by omega)
theorem RsI.all {t : List (List Int)} {s : List Bool} {L : List Int} (h : RsI t s L t.length) : canon L = synP t (lbL s) := by
  rw [← synP_canon]
  exact canon_congr (d := 0) (e := 0) (by rw [h.1, synP_len]) fun i j hi hj => by
    rw [h.1] at hi hj
    rw [h.2.2 i j hi hj, synP_iff hi hj]
set_option maxHeartbeats 4000000 in
theorem rsyn_k (t : List (List Int)) (s : List Bool) (hs : Semi t) (hsl : s.length = t.length) : fnK TY SP Try.f20 [.ro (.rows .i64 t), .ro (.bools s)] (.new (.ints .i64 (synP t (lbL s)))) := by
  have hmost := hs.most
  have hS := hs.toSh
  refine And.intro (by omega) ?_
  refine And.intro (by omega) ?_
  refine Exists.intro [] <| lp2 (fun (x : Nat) (_ : List Int) => [(16, .int .i64 x)]) (fun _ L => [(13, .vec 0 (.ints .i64 L) [])]) (fun x L => x ≤ t.length ∧ RsI t s L x) (fun x _ => t.length - x) 0 (List.replicate t.length 0) ⟨Nat.zero_le _, by simp, fun i h => absurd h (Nat.not_lt_zero _), fun i j h => absurd h (Nat.not_lt_zero _)⟩ (by repeat' first | refine And.intro ?_ ?_ | exact True.intro | (show (_ : Int) = (_ : Int); omega) | omega | exact rfl | (simp only [RO.len]; omega)) ?_
  rintro x L0 ⟨hx, hR⟩
  have hL0 := hR.1
  refine And.intro (fun h2 => ?_) (fun h2 => ?_)
  · have h2 : (x : Int) < (t.length : Int) := h2
    have hxl : x < t.length := by omega
    refine And.intro (by omega) ?_
    refine And.intro (by omega) ?_
    refine Exists.intro [] <| lp2 (fun (y : Nat) (_ : List Int) => [(7, .int .i64 y)]) (fun _ L => [(13, .vec 0 (.ints .i64 L) [])]) (fun y L => y ≤ x ∧ RsY t s L x y) (fun y _ => x - y) 0 (L0.set x x) ⟨Nat.zero_le _, hR.upd, Or.inl ⟨getD_set_eq (by omega), fun y h => absurd h (Nat.not_lt_zero _)⟩⟩ (by repeat' first | refine And.intro ?_ ?_ | exact True.intro | (show (_ : Int) = (_ : Int); omega) | omega | exact rfl | (simp only [RO.len]; omega)) ?_
    rintro y L ⟨hy, hY⟩
    have hL := hY.1.1
    refine And.intro (fun h1 => ?_) (fun h1 => ?_)
    · have h1 : (y : Int) < (x : Int) := h1
      have hyl : y < t.length := by omega
      refine And.intro (by omega) ?_
      refine And.intro (fun h3 => ?_) (fun h3 => ?_)
      · have h3 : L.getD x 0 = x := h3
        refine Or.inl ?_
        refine Exists.intro [false, false, false, false, false, false, false, false, false, false] (And.intro (by decide +kernel) ?_)
        refine And.intro (by omega) ?_
        refine And.intro (by omega) ?_
        refine Exists.intro [] <| lp2 (fun (u : Nat) (b : Bool) => [(47, .int .i64 u), (8, .bool (.v b))]) (fun _ _ => []) (fun u b => u ≤ t.length ∧ (b = true ↔ s.getD x false = s.getD y false ∧ ∀ u', u' < u → Uc t s x y u')) (fun u _ => t.length - u) 0 (s.getD x false == s.getD y false) ⟨Nat.zero_le _, by rw [beq_iff_eq]; exact ⟨fun h => ⟨h, fun u h => absurd h (Nat.not_lt_zero _)⟩, fun h => h.1⟩⟩ (by repeat' first | refine And.intro ?_ ?_ | exact True.intro | (show (_ : Int) = (_ : Int); omega) | omega | exact rfl | (simp only [RO.len]; omega)) ?_
        rintro u b ⟨hu, hb⟩
        refine And.intro (fun h4 => ?_) (fun h4 => ?_)
        · have h4 : (u : Int) < (t.length : Int) := h4
          have hul : u < t.length := by omega
          have eux := hS.ent hul hxl
          have euy := hS.ent hul hyl
          have exu := hS.ent hxl hul
          have eyu := hS.ent hyl hul
          have lu := hS.len hul
          have lx := hS.len hxl
          have ly := hS.len hyl
          refine Or.inl ?_
          refine Exists.intro [false, false, false, false, false, false, false, false, false, false, false, false, false, false, false, false, false, false, false, false, false, false, false, false, false, false, false, false, false, false, false, false, false, false, false, false, false, false, false, false, false, false, false, false, false, false, false, true] (And.intro (by decide +kernel) ?_)
          refine And.intro (fun h5 => ?_) (fun h5 => ?_)
          · have h5 : b = true := h5
            refine And.intro (show 0 ≤ (u : Int) ∧ (u : Int) < (t.length : Int) by omega) ?_
            refine And.intro (show 0 ≤ (x : Int) ∧ (x : Int) < ((t.getD u []).length : Int) by omega) ?_
            refine And.intro (show 0 ≤ (t.getD u []).getD x 0 ∧ (t.getD u []).getD x 0 < (s.length : Int) by omega) ?_
            refine And.intro (show 0 ≤ (u : Int) ∧ (u : Int) < (t.length : Int) by omega) ?_
            refine And.intro (show 0 ≤ (y : Int) ∧ (y : Int) < ((t.getD u []).length : Int) by omega) ?_
            refine And.intro (show 0 ≤ (t.getD u []).getD y 0 ∧ (t.getD u []).getD y 0 < (s.length : Int) by omega) ?_
            refine And.intro (fun h6 => ?_) (fun h6 => ?_)
            · have h6 : (s.getD (en t u x) false == s.getD (en t u y) false) = true := h6
              rw [beq_iff_eq] at h6
              refine And.intro (show 0 ≤ (x : Int) ∧ (x : Int) < (t.length : Int) by omega) ?_
              refine And.intro (show 0 ≤ (u : Int) ∧ (u : Int) < ((t.getD x []).length : Int) by omega) ?_
              refine And.intro (show 0 ≤ (t.getD x []).getD u 0 ∧ (t.getD x []).getD u 0 < (s.length : Int) by omega) ?_
              refine And.intro (show 0 ≤ (y : Int) ∧ (y : Int) < (t.length : Int) by omega) ?_
              refine And.intro (show 0 ≤ (u : Int) ∧ (u : Int) < ((t.getD y []).length : Int) by omega) ?_
              refine And.intro (show 0 ≤ (t.getD y []).getD u 0 ∧ (t.getD y []).getD u 0 < (s.length : Int) by omega) ?_
              refine Exists.intro [] <| lp2 (fun (v : Nat) (b : Bool) => [(10, .int .i64 v), (8, .bool (.v b))]) (fun _ _ => []) (fun v b => v ≤ t.length ∧ (b = true ↔ s.getD (en t x u) false = s.getD (en t y u) false ∧ ∀ v', v' < v → s.getD (en t (en t u x) v') false = s.getD (en t (en t u y) v') false)) (fun v _ => t.length - v) 0 (s.getD (en t x u) false == s.getD (en t y u) false) ⟨Nat.zero_le _, by rw [beq_iff_eq]; exact ⟨fun h => ⟨h, fun u h => absurd h (Nat.not_lt_zero _)⟩, fun h => h.1⟩⟩ (by repeat' first | refine And.intro ?_ ?_ | exact True.intro | (show (_ : Int) = (_ : Int); omega) | omega | exact rfl | (simp only [RO.len]; omega)) ?_
              rintro v c ⟨hv, hc⟩
              have fin : v = t.length ∨ c = false → (c = true ↔ s.getD x false = s.getD y false ∧ ∀ u', u' < u + 1 → Uc t s x y u') := fun hfin => by
                have hb2 := hb.1 h5
                constructor
                · intro e
                  have hvv : v = t.length := Or.elim hfin id fun h => by rw [h] at e; cases e
                  refine ⟨hb2.1, fun u' hu' => ?_⟩
                  by_cases e2 : u' = u
                  · subst e2
                    have := hc.1 e
                    exact ⟨⟨h6, this.1⟩, fun v' hv' => this.2 v' (by omega)⟩
                  · exact hb2.2 u' (by omega)
                · intro e
                  have := e.2 u (by omega)
                  exact hc.2 ⟨this.1.2, fun v' hv' => this.2 v' (by omega)⟩
              refine And.intro (fun h7 => ?_) (fun h7 => ?_)
              · have h7 : (v : Int) < (t.length : Int) := h7
                refine And.intro (fun h8 => ?_) (fun h8 => ?_)
                · have h8 : c = true := h8
                  have hvl : v < t.length := by omega
                  have e1 := hS.ent eux.2 hvl
                  have e2 := hS.ent euy.2 hvl
                  have l1 := hS.len eux.2
                  have l2 := hS.len euy.2
                  have t1 : ((t.getD u []).getD x 0).toNat = en t u x := rfl
                  have t2 : ((t.getD u []).getD y 0).toNat = en t u y := rfl
                  refine Or.inl ?_
                  refine Exists.intro [false, false, false, false, false, false, false, false, false, false, false, false, false, false, false, false, false, false, false, false, false, false, false, false, false, false, false, false, false, false, false, false, false, false] (And.intro (by decide +kernel) ?_)
                  refine And.intro (show 0 ≤ (u : Int) ∧ (u : Int) < (t.length : Int) by omega) ?_
                  refine And.intro (show 0 ≤ (x : Int) ∧ (x : Int) < ((t.getD u []).length : Int) by omega) ?_
                  refine And.intro (show 0 ≤ (t.getD u []).getD x 0 ∧ (t.getD u []).getD x 0 < (t.length : Int) by omega) ?_
                  refine And.intro (show 0 ≤ (v : Int) ∧ (v : Int) < ((t.getD (en t u x) []).length : Int) by omega) ?_
                  refine And.intro (show 0 ≤ (t.getD (en t u x) []).getD v 0 ∧ (t.getD (en t u x) []).getD v 0 < (s.length : Int) by omega) ?_
                  refine And.intro (show 0 ≤ (u : Int) ∧ (u : Int) < (t.length : Int) by omega) ?_
                  refine And.intro (show 0 ≤ (y : Int) ∧ (y : Int) < ((t.getD u []).length : Int) by omega) ?_
                  refine And.intro (show 0 ≤ (t.getD u []).getD y 0 ∧ (t.getD u []).getD y 0 < (t.length : Int) by omega) ?_
                  refine And.intro (show 0 ≤ (v : Int) ∧ (v : Int) < ((t.getD (en t u y) []).length : Int) by omega) ?_
                  refine And.intro (show 0 ≤ (t.getD (en t u y) []).getD v 0 ∧ (t.getD (en t u y) []).getD v 0 < (s.length : Int) by omega) ?_
                  refine And.intro (by omega) ?_
                  refine nx (v + 1, (s.getD (en t (en t u x) v) false == s.getD (en t (en t u y) v) false)) ⟨show v + 1 ≤ t.length by omega, ?_⟩ (show t.length - (v + 1) < t.length - v by omega) (by repeat' first | refine And.intro ?_ ?_ | exact True.intro | (show (_ : Int) = (_ : Int); omega) | omega | exact rfl | (simp only [RO.len]; omega))
                  have hc2 := hc.1 h8
                  rw [beq_iff_eq]
                  refine ⟨fun e => ⟨hc2.1, fun v' hv' => ?_⟩, fun e => e.2 v (by omega)⟩
                  by_cases e3 : v' = v
                  · subst e3; exact e
                  · exact hc2.2 v' (by omega)
                · have h8 : c = false := h8
                  refine And.intro (by omega) ?_
                  exact nx (u + 1, c) ⟨show u + 1 ≤ t.length by omega, fin (Or.inr h8)⟩ (show t.length - (u + 1) < t.length - u by omega) (by repeat' first | refine And.intro ?_ ?_ | exact True.intro | (show (_ : Int) = (_ : Int); omega) | omega | exact rfl | (simp only [RO.len]; omega))
              · have h7 : (t.length : Int) ≤ (v : Int) := h7
                refine And.intro (by omega) ?_
                exact nx (u + 1, c) ⟨show u + 1 ≤ t.length by omega, fin (Or.inl (by omega))⟩ (show t.length - (u + 1) < t.length - u by omega) (by repeat' first | refine And.intro ?_ ?_ | exact True.intro | (show (_ : Int) = (_ : Int); omega) | omega | exact rfl | (simp only [RO.len]; omega))
            · have h6 : (s.getD (en t u x) false == s.getD (en t u y) false) = false := h6
              rw [beq_eq_false_iff_ne] at h6
              have fin : ((false : Bool) = true ↔ s.getD x false = s.getD y false ∧ ∀ u', u' < u + 1 → Uc t s x y u') := ⟨fun h => by (cases h), fun h => absurd (h.2 u (by omega)).1.1 h6⟩
              refine Exists.intro [] <| lp2 (fun (v : Nat) (b : Bool) => [(10, .int .i64 v), (8, .bool (.v b))]) (fun _ _ => []) (fun v b => v = 0 ∧ b = false) (fun v _ => t.length - v) 0 false ⟨rfl, rfl⟩ (by repeat' first | refine And.intro ?_ ?_ | exact True.intro | (show (_ : Int) = (_ : Int); omega) | omega | exact rfl | (simp only [RO.len]; omega)) ?_
              rintro v c ⟨hv, hc⟩
              refine And.intro (fun h7 => ?_) (fun h7 => ?_)
              · refine And.intro (fun h8 => absurd (show c = true from h8) (by rw [hc]; decide)) (fun h8 => ?_)
                refine And.intro (by omega) ?_
                exact nx (u + 1, c) ⟨show u + 1 ≤ t.length by omega, by rw [hc]; exact fin⟩ (show t.length - (u + 1) < t.length - u by omega) (by repeat' first | refine And.intro ?_ ?_ | exact True.intro | (show (_ : Int) = (_ : Int); omega) | omega | exact rfl | (simp only [RO.len]; omega))
              · refine And.intro (by omega) ?_
                exact nx (u + 1, c) ⟨show u + 1 ≤ t.length by omega, by rw [hc]; exact fin⟩ (show t.length - (u + 1) < t.length - u by omega) (by repeat' first | refine And.intro ?_ ?_ | exact True.intro | (show (_ : Int) = (_ : Int); omega) | omega | exact rfl | (simp only [RO.len]; omega))
          · have h5 : b = false := h5
            have fin : ((false : Bool) = true ↔ s.getD x false = s.getD y false ∧ ∀ u', u' < u + 1 → Uc t s x y u') := ⟨fun h => by (cases h), fun h => absurd (hb.2 ⟨h.1, fun u' hu' => h.2 u' (by omega)⟩) (by rw [h5]; decide)⟩
            refine Exists.intro [] <| lp2 (fun (v : Nat) (b : Bool) => [(10, .int .i64 v), (8, .bool (.v b))]) (fun _ _ => []) (fun v b => v = 0 ∧ b = false) (fun v _ => t.length - v) 0 false ⟨rfl, rfl⟩ (by repeat' first | refine And.intro ?_ ?_ | exact True.intro | (show (_ : Int) = (_ : Int); omega) | omega | exact rfl | (simp only [RO.len]; omega)) ?_
            rintro v c ⟨hv, hc⟩
            refine And.intro (fun h7 => ?_) (fun h7 => ?_)
            · refine And.intro (fun h8 => absurd (show c = true from h8) (by rw [hc]; decide)) (fun h8 => ?_)
              refine And.intro (by omega) ?_
              exact nx (u + 1, c) ⟨show u + 1 ≤ t.length by omega, by rw [hc]; exact fin⟩ (show t.length - (u + 1) < t.length - u by omega) (by repeat' first | refine And.intro ?_ ?_ | exact True.intro | (show (_ : Int) = (_ : Int); omega) | omega | exact rfl | (simp only [RO.len]; omega))
            · refine And.intro (by omega) ?_
              exact nx (u + 1, c) ⟨show u + 1 ≤ t.length by omega, by rw [hc]; exact fin⟩ (show t.length - (u + 1) < t.length - u by omega) (by repeat' first | refine And.intro ?_ ?_ | exact True.intro | (show (_ : Int) = (_ : Int); omega) | omega | exact rfl | (simp only [RO.len]; omega))
        · have h4 : (t.length : Int) ≤ (u : Int) := h4
          have hue : u = t.length := by omega
          have hsyn : b = true ↔ Syn t (lbL s) x y := by rw [syn_uc hS hsl hxl hyl, hb, hue]
          refine And.intro (fun h5 => ?_) (fun h5 => ?_)
          · have h5 : b = true := h5
            refine And.intro (by omega) ?_
            refine And.intro (by omega) ?_
            refine And.intro (by omega) ?_
            refine And.intro (by omega) ?_
            refine nx (y + 1, L.set x (L.getD y 0)) ⟨show y + 1 ≤ x by omega, hY.1.upd, Or.inr ⟨y, by omega, hsyn.1 h5, ?_⟩⟩ (show x - (y + 1) < x - y by omega) (by repeat' first | refine And.intro ?_ ?_ | exact True.intro | (show (_ : Int) = (_ : Int); omega) | omega | exact rfl | (simp only [RO.len]; omega))
            rw [getD_set_eq (by omega), getD_set_ne (by omega)]
          · have h5 : b = false := h5
            refine And.intro (by omega) ?_
            refine nx (y + 1, L) ⟨show y + 1 ≤ x by omega, hY.1, Or.inl ⟨h3, fun y' hy' => ?_⟩⟩ (show x - (y + 1) < x - y by omega) (by repeat' first | refine And.intro ?_ ?_ | exact True.intro | (show (_ : Int) = (_ : Int); omega) | omega | exact rfl | (simp only [RO.len]; omega))
            by_cases e : y' = y
            · subst e
              exact fun h => by rw [hsyn.2 h] at h5; cases h5
            · refine Or.elim hY.2 (fun h => h.2 y' (by omega)) (fun h => ?_)
              exact Exists.elim h fun z hz => by
                have := hY.1.2.1 z hz.1
                rw [← hz.2.2, h3] at this; omega
      · have h3 : L.getD x 0 ≠ x := h3
        refine And.intro (by omega) ?_
        exact nx (x + 1, L) ⟨show x + 1 ≤ _ by omega, hY.done (Or.inr h3)⟩ (show t.length - (x + 1) < t.length - x by omega) (by repeat' first | refine And.intro ?_ ?_ | exact True.intro | (show (_ : Int) = (_ : Int); omega) | omega | exact rfl | (simp only [RO.len]; omega))
    · have h1 : (x : Int) ≤ (y : Int) := h1
      refine And.intro (by omega) ?_
      exact nx (x + 1, L) ⟨show x + 1 ≤ _ by omega, hY.done (Or.inl (by omega))⟩ (show t.length - (x + 1) < t.length - x by omega) (by repeat' first | refine And.intro ?_ ?_ | exact True.intro | (show (_ : Int) = (_ : Int); omega) | omega | exact rfl | (simp only [RO.len]; omega))
  · have h2 : (t.length : Int) ≤ (x : Int) := h2
    have hxe : x = t.length := by omega
    rw [hxe] at hR
    have ec : (if L0.length ≤ 4096 then canon L0 else []) = synP t (lbL s) := by rw [if_pos (by omega), hR.all]
    refine Or.inl (cq (rcanon_fn L0) (And.intro rfl trivial) ?_)
    rw [ec]
    exact And.intro (And.intro (by omega) rfl) trivial
theorem rsyn_fn (t : List (List Int)) (s : List Bool) (hs : Semi t) (hsl : s.length = t.length) : QF 20 [.ro (.rows .i64 t), .ro (.bools s)] (.new (.ints .i64 (synP t (lbL s)))) := mkQ Try.func20 (by decide +kernel) rfl (Nat.le_of_ble_eq_true rfl) fun _ => rsyn_k t s hs hsl
end Go.Proofs.Yteopelpnpdbbcaa
