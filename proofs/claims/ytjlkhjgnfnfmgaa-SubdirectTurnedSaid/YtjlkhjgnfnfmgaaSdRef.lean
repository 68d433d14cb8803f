import Derived.Test.YtjlkhjgnfnfmgaaLp
import Derived.Test.YtjlkhjgnfnfmgaaRefCgG
import Derived.Test.YtjlkhjgnfnfmgaaQuoLaw
import Derived.Test.YtjlkhjgnfnfmgaaSynLaw
import Derived.Test.YtjlkhjgnfnfmgaaGroup
import Derived.Test.YtjlkhjgnfnfmgaaRefRees
import Derived.Test.YtjlkhjgnfnfmgaaReesLaw
import Derived.Test.YtjlkhjgnfnfmgaaMinsLaw
import Derived.Test.YtjlkhjgnfnfmgaaSort
section
/- The reference's generated congruence: contract. -/
namespace Go.Proofs.Ytjlkhjgnfnfmgaa
open Go Go.AM
set_option maxRecDepth 100000
def b1 (b : Bool) : Nat := match b with | true => 1 | false => 0
set_option maxHeartbeats 2000000 in
theorem rgnr_fn (t : List (List Int)) (l : List (Int × Int)) (side : Int) (hs : Sh t) (hl : inW t.length l) : QF 155 [.ro (.rows .i64 t), .ro (.pairs l), .int .i64 side] (.new (.ints .i64 (genP t side (relP l)))) := mkQ Try.func155 (by decide +kernel) rfl (Nat.le_of_ble_eq_true rfl) fun _ => by
  have hmost := hs.most
  refine Or.inl (cq (rpairs_fn t.length (by omega) l hl) (And.intro rfl (And.intro rfl trivial)) ?_)
  refine Exists.intro [] <| lp2 (fun (_ : List Int) (ch : Bool) => [(8, .bool (.v ch))]) (fun p _ => [(19, .vec 0 (.ints .i64 p) [])]) (fun p ch => RcB t side (relP l) p ∧ (ch = false → canon p = genP t side (relP l))) (fun p ch => classN p + b1 ch) (eqP t.length (relP l)) true ⟨RcB.ofPairs hl, fun h => by cases h⟩ (by repeat' first | refine And.intro ?_ ?_ | exact True.intro | (show (_ : Int) = (_ : Int); omega) | omega | exact rfl | (simp only [RO.len]; omega)) ?_
  rintro p0 ch0 ⟨hB, hdone⟩
  have hp0 := hB.len
  refine And.intro (fun h1 => ?_) (fun h1 => ?_)
  · have h1 : ch0 = true := h1
    refine Exists.intro [] <| lp3 (fun (x : Nat) (_ : List Int) (ch : Bool) => [(23, .int .i64 x), (8, .bool (.v ch))]) (fun _ p _ => [(19, .vec 0 (.ints .i64 p) [])]) (fun x p ch => x ≤ t.length ∧ RcI t side (relP l) p0 p ch x 0 0) (fun x _ _ => t.length - x) 0 p0 false ⟨Nat.zero_le _, RcI.start hB⟩ (by repeat' first | refine And.intro ?_ ?_ | exact True.intro | (show (_ : Int) = (_ : Int); omega) | omega | exact rfl | (simp only [RO.len]; omega)) ?_
    rintro x p1 ch1 ⟨hx, hI1⟩
    refine And.intro (fun h2 => ?_) (fun h2 => ?_)
    · have h2 : (x : Int) < (t.length : Int) := h2
      have hxl : x < t.length := by omega
      refine Exists.intro [] <| lp3 (fun (y : Nat) (_ : List Int) (ch : Bool) => [(10, .int .i64 y), (8, .bool (.v ch))]) (fun _ p _ => [(19, .vec 0 (.ints .i64 p) [])]) (fun y p ch => y ≤ x ∧ RcI t side (relP l) p0 p ch x y 0) (fun y _ _ => x - y) 0 p1 ch1 ⟨Nat.zero_le _, hI1⟩ (by repeat' first | refine And.intro ?_ ?_ | exact True.intro | (show (_ : Int) = (_ : Int); omega) | omega | exact rfl | (simp only [RO.len]; omega)) ?_
      rintro y p2 ch2 ⟨hy, hI2⟩
      refine And.intro (fun h3 => ?_) (fun h3 => ?_)
      · have h3 : (y : Int) < (x : Int) := h3
        have hyl : y < t.length := by omega
        refine Exists.intro [] <| lp3 (fun (s : Nat) (_ : List Int) (ch : Bool) => [(11, .int .i64 s), (8, .bool (.v ch))]) (fun _ p _ => [(19, .vec 0 (.ints .i64 p) [])]) (fun s p ch => s ≤ t.length ∧ RcI t side (relP l) p0 p ch x y s) (fun s _ _ => t.length - s) 0 p2 ch2 ⟨Nat.zero_le _, hI2⟩ (by repeat' first | refine And.intro ?_ ?_ | exact True.intro | (show (_ : Int) = (_ : Int); omega) | omega | exact rfl | (simp only [RO.len]; omega)) ?_
        rintro s p ch ⟨hsn, hI⟩
        have hpl := hI.b.len
        refine Or.inl ?_
        refine Exists.intro [false, false, false, false, false, false, false, false, false, false, false, false, false, false, false] (And.intro (by decide +kernel) ?_)
        refine And.intro (fun h4 => ?_) (fun h4 => ?_)
        · have h4 : (s : Int) < (t.length : Int) := h4
          have hsl : s < t.length := by omega
          refine And.intro (show 0 ≤ (x : Int) ∧ (x : Int) < (p.length : Int) by omega) ?_
          refine And.intro (show 0 ≤ (y : Int) ∧ (y : Int) < (p.length : Int) by omega) ?_
          refine And.intro (fun h5 => ?_) (fun h5 => ?_)
          · have h5 : p.getD x 0 = p.getD y 0 := h5
            have hxy := hI.b.up x y hxl hyl h5
            have e1 := hs.ent hsl hxl
            have e2 := hs.ent hsl hyl
            have e3 := hs.ent hxl hsl
            have e4 := hs.ent hyl hsl
            have r1 := hs.len hsl
            have r2 := hs.len hxl
            have r3 := hs.len hyl
            refine Or.inl ?_
            refine Exists.intro [false, false, false, false, false, false, false, false, false, false, false, false, false, false, false, false] (And.intro (by decide +kernel) ?_)
            refine And.intro (by omega) ?_
            refine And.intro (show 0 ≤ (x : Int) ∧ (x : Int) < ((t.getD s []).length : Int) by omega) ?_
            refine And.intro (by omega) ?_
            refine And.intro (show 0 ≤ (y : Int) ∧ (y : Int) < ((t.getD s []).length : Int) by omega) ?_
            refine Or.inl ?_
            refine Exists.intro [false, false, false, false, false, false, false, false, false, false, false, false, false] (And.intro (by decide +kernel) ?_)
            refine And.intro (fun h6 => ?_) (fun h6 => ?_)
            · have h6 : side ≠ 2 := h6
              refine And.intro (show 0 ≤ (t.getD s []).getD x 0 ∧ (t.getD s []).getD x 0 < (p.length : Int) by omega) ?_
              refine And.intro (show 0 ≤ (t.getD s []).getD y 0 ∧ (t.getD s []).getD y 0 < (p.length : Int) by omega) ?_
              refine And.intro (fun h7 => ?_) (fun h7 => ?_)
              · have h7 : p.getD ((t.getD s []).getD x 0).toNat 0 ≠ p.getD ((t.getD s []).getD y 0).toNat 0 := h7
                rw [e1.1, e2.1, Int.toNat_natCast, Int.toNat_natCast] at h7
                have hm := merge_fn p (en t s x) (en t s y) (by omega) (by omega) (by omega)
                rw [← e1.1, ← e2.1] at hm
                have hI1 := hI.mrg e1.2 e2.2 (.left h6 hsl hxl hyl hxy) h7 x y s
                refine Or.inr (Or.inl (cm [] [(1000, 19)] hm ?_))
                refine And.intro (by repeat' first | refine And.intro ?_ ?_ | exact True.intro | (show (_ : Int) = (_ : Int); omega) | omega | exact rfl | (simp only [RO.len]; omega)) ?_
                have hpl1 : (mrgL p (en t s x) (en t s y)).length = t.length := by rw [mrgL_len]; exact hpl
                refine Or.inl ?_
                refine Exists.intro [false, false, false, false, false, false, false, false, false, false, false, false, false, false, false, false] (And.intro (by decide +kernel) ?_)
                refine And.intro (by omega) ?_
                refine And.intro (show 0 ≤ (s : Int) ∧ (s : Int) < ((t.getD x []).length : Int) by omega) ?_
                refine And.intro (by omega) ?_
                refine And.intro (show 0 ≤ (s : Int) ∧ (s : Int) < ((t.getD y []).length : Int) by omega) ?_
                refine Or.inl ?_
                refine Exists.intro [false, false, false, false, false, false, false, false, false, false, false, false, false] (And.intro (by decide +kernel) ?_)
                refine And.intro (fun h8 => ?_) (fun h8 => ?_)
                · have h8 : side ≠ 1 := h8
                  refine And.intro (show 0 ≤ (t.getD x []).getD s 0 ∧ (t.getD x []).getD s 0 < ((mrgL p (en t s x) (en t s y)).length : Int) by omega) ?_
                  refine And.intro (show 0 ≤ (t.getD y []).getD s 0 ∧ (t.getD y []).getD s 0 < ((mrgL p (en t s x) (en t s y)).length : Int) by omega) ?_
                  refine And.intro (fun h9 => ?_) (fun h9 => ?_)
                  · have h9 : (mrgL p (en t s x) (en t s y)).getD ((t.getD x []).getD s 0).toNat 0 ≠ (mrgL p (en t s x) (en t s y)).getD ((t.getD y []).getD s 0).toNat 0 := h9
                    rw [e3.1, e4.1, Int.toNat_natCast, Int.toNat_natCast] at h9
                    have hm := merge_fn (mrgL p (en t s x) (en t s y)) (en t x s) (en t y s) (by omega) (by omega) (by omega)
                    rw [← e3.1, ← e4.1] at hm
                    refine Or.inr (Or.inl (cm [] [(1000, 19)] hm ?_))
                    refine And.intro (by repeat' first | refine And.intro ?_ ?_ | exact True.intro | (show (_ : Int) = (_ : Int); omega) | omega | exact rfl | (simp only [RO.len]; omega)) ?_
                    refine And.intro (by omega) ?_
                    exact nx (s + 1, mrgL (mrgL p (en t s x) (en t s y)) (en t x s) (en t y s), true) ⟨by omega, hI1.mrg e3.2 e4.2 (.right h8 hsl hxl hyl hxy) h9 x y (s + 1)⟩ (show t.length - (s + 1) < t.length - s by omega) (by repeat' first | refine And.intro ?_ ?_ | exact True.intro | (show (_ : Int) = (_ : Int); omega) | omega | exact rfl | (simp only [RO.len]; omega))
                  · have h9 : (mrgL p (en t s x) (en t s y)).getD ((t.getD x []).getD s 0).toNat 0 = (mrgL p (en t s x) (en t s y)).getD ((t.getD y []).getD s 0).toNat 0 := h9
                    rw [e3.1, e4.1, Int.toNat_natCast, Int.toNat_natCast] at h9
                    refine And.intro (by omega) ?_
                    exact nx (s + 1, mrgL p (en t s x) (en t s y), true) ⟨by omega, hI1.chd x y (s + 1)⟩ (show t.length - (s + 1) < t.length - s by omega) (by repeat' first | refine And.intro ?_ ?_ | exact True.intro | (show (_ : Int) = (_ : Int); omega) | omega | exact rfl | (simp only [RO.len]; omega))
                · have h8 : side = 1 := h8
                  refine And.intro (by omega) ?_
                  exact nx (s + 1, mrgL p (en t s x) (en t s y), true) ⟨by omega, hI1.chd x y (s + 1)⟩ (show t.length - (s + 1) < t.length - s by omega) (by repeat' first | refine And.intro ?_ ?_ | exact True.intro | (show (_ : Int) = (_ : Int); omega) | omega | exact rfl | (simp only [RO.len]; omega))
              · have h7 : p.getD ((t.getD s []).getD x 0).toNat 0 = p.getD ((t.getD s []).getD y 0).toNat 0 := h7
                rw [e1.1, e2.1, Int.toNat_natCast, Int.toNat_natCast] at h7
                have hLok : side ≠ 2 → p.getD (en t s x) 0 = p.getD (en t s y) 0 := fun _ => h7
                have hpl1 : (p).length = t.length := by exact hpl
                refine Or.inl ?_
                refine Exists.intro [false, false, false, false, false, false, false, false, false, false, false, false, false, false, false, false] (And.intro (by decide +kernel) ?_)
                refine And.intro (by omega) ?_
                refine And.intro (show 0 ≤ (s : Int) ∧ (s : Int) < ((t.getD x []).length : Int) by omega) ?_
                refine And.intro (by omega) ?_
                refine And.intro (show 0 ≤ (s : Int) ∧ (s : Int) < ((t.getD y []).length : Int) by omega) ?_
                refine Or.inl ?_
                refine Exists.intro [false, false, false, false, false, false, false, false, false, false, false, false, false] (And.intro (by decide +kernel) ?_)
                refine And.intro (fun h8 => ?_) (fun h8 => ?_)
                · have h8 : side ≠ 1 := h8
                  refine And.intro (show 0 ≤ (t.getD x []).getD s 0 ∧ (t.getD x []).getD s 0 < ((p).length : Int) by omega) ?_
                  refine And.intro (show 0 ≤ (t.getD y []).getD s 0 ∧ (t.getD y []).getD s 0 < ((p).length : Int) by omega) ?_
                  refine And.intro (fun h9 => ?_) (fun h9 => ?_)
                  · have h9 : (p).getD ((t.getD x []).getD s 0).toNat 0 ≠ (p).getD ((t.getD y []).getD s 0).toNat 0 := h9
                    rw [e3.1, e4.1, Int.toNat_natCast, Int.toNat_natCast] at h9
                    have hm := merge_fn (p) (en t x s) (en t y s) (by omega) (by omega) (by omega)
                    rw [← e3.1, ← e4.1] at hm
                    refine Or.inr (Or.inl (cm [] [(1000, 19)] hm ?_))
                    refine And.intro (by repeat' first | refine And.intro ?_ ?_ | exact True.intro | (show (_ : Int) = (_ : Int); omega) | omega | exact rfl | (simp only [RO.len]; omega)) ?_
                    refine And.intro (by omega) ?_
                    exact nx (s + 1, mrgL (p) (en t x s) (en t y s), true) ⟨by omega, hI.mrg e3.2 e4.2 (.right h8 hsl hxl hyl hxy) h9 x y (s + 1)⟩ (show t.length - (s + 1) < t.length - s by omega) (by repeat' first | refine And.intro ?_ ?_ | exact True.intro | (show (_ : Int) = (_ : Int); omega) | omega | exact rfl | (simp only [RO.len]; omega))
                  · have h9 : (p).getD ((t.getD x []).getD s 0).toNat 0 = (p).getD ((t.getD y []).getD s 0).toNat 0 := h9
                    rw [e3.1, e4.1, Int.toNat_natCast, Int.toNat_natCast] at h9
                    refine And.intro (by omega) ?_
                    exact nx (s + 1, p, ch) ⟨by omega, hI.okS ⟨hLok, fun _ => h9⟩⟩ (show t.length - (s + 1) < t.length - s by omega) (by repeat' first | refine And.intro ?_ ?_ | exact True.intro | (show (_ : Int) = (_ : Int); omega) | omega | exact rfl | (simp only [RO.len]; omega))
                · have h8 : side = 1 := h8
                  refine And.intro (by omega) ?_
                  exact nx (s + 1, p, ch) ⟨by omega, hI.okS ⟨hLok, fun h => absurd h8 h⟩⟩ (show t.length - (s + 1) < t.length - s by omega) (by repeat' first | refine And.intro ?_ ?_ | exact True.intro | (show (_ : Int) = (_ : Int); omega) | omega | exact rfl | (simp only [RO.len]; omega))
            · have h6 : side = 2 := h6
              have hLok : side ≠ 2 → p.getD (en t s x) 0 = p.getD (en t s y) 0 := fun h => absurd h6 h
              have hpl1 : (p).length = t.length := by exact hpl
              refine Or.inl ?_
              refine Exists.intro [false, false, false, false, false, false, false, false, false, false, false, false, false, false, false, false] (And.intro (by decide +kernel) ?_)
              refine And.intro (by omega) ?_
              refine And.intro (show 0 ≤ (s : Int) ∧ (s : Int) < ((t.getD x []).length : Int) by omega) ?_
              refine And.intro (by omega) ?_
              refine And.intro (show 0 ≤ (s : Int) ∧ (s : Int) < ((t.getD y []).length : Int) by omega) ?_
              refine Or.inl ?_
              refine Exists.intro [false, false, false, false, false, false, false, false, false, false, false, false, false] (And.intro (by decide +kernel) ?_)
              refine And.intro (fun h8 => ?_) (fun h8 => ?_)
              · have h8 : side ≠ 1 := h8
                refine And.intro (show 0 ≤ (t.getD x []).getD s 0 ∧ (t.getD x []).getD s 0 < ((p).length : Int) by omega) ?_
                refine And.intro (show 0 ≤ (t.getD y []).getD s 0 ∧ (t.getD y []).getD s 0 < ((p).length : Int) by omega) ?_
                refine And.intro (fun h9 => ?_) (fun h9 => ?_)
                · have h9 : (p).getD ((t.getD x []).getD s 0).toNat 0 ≠ (p).getD ((t.getD y []).getD s 0).toNat 0 := h9
                  rw [e3.1, e4.1, Int.toNat_natCast, Int.toNat_natCast] at h9
                  have hm := merge_fn (p) (en t x s) (en t y s) (by omega) (by omega) (by omega)
                  rw [← e3.1, ← e4.1] at hm
                  refine Or.inr (Or.inl (cm [] [(1000, 19)] hm ?_))
                  refine And.intro (by repeat' first | refine And.intro ?_ ?_ | exact True.intro | (show (_ : Int) = (_ : Int); omega) | omega | exact rfl | (simp only [RO.len]; omega)) ?_
                  refine And.intro (by omega) ?_
                  exact nx (s + 1, mrgL (p) (en t x s) (en t y s), true) ⟨by omega, hI.mrg e3.2 e4.2 (.right h8 hsl hxl hyl hxy) h9 x y (s + 1)⟩ (show t.length - (s + 1) < t.length - s by omega) (by repeat' first | refine And.intro ?_ ?_ | exact True.intro | (show (_ : Int) = (_ : Int); omega) | omega | exact rfl | (simp only [RO.len]; omega))
                · have h9 : (p).getD ((t.getD x []).getD s 0).toNat 0 = (p).getD ((t.getD y []).getD s 0).toNat 0 := h9
                  rw [e3.1, e4.1, Int.toNat_natCast, Int.toNat_natCast] at h9
                  refine And.intro (by omega) ?_
                  exact nx (s + 1, p, ch) ⟨by omega, hI.okS ⟨hLok, fun _ => h9⟩⟩ (show t.length - (s + 1) < t.length - s by omega) (by repeat' first | refine And.intro ?_ ?_ | exact True.intro | (show (_ : Int) = (_ : Int); omega) | omega | exact rfl | (simp only [RO.len]; omega))
              · have h8 : side = 1 := h8
                refine And.intro (by omega) ?_
                exact nx (s + 1, p, ch) ⟨by omega, hI.okS ⟨hLok, fun h => absurd h8 h⟩⟩ (show t.length - (s + 1) < t.length - s by omega) (by repeat' first | refine And.intro ?_ ?_ | exact True.intro | (show (_ : Int) = (_ : Int); omega) | omega | exact rfl | (simp only [RO.len]; omega))
          · have h5 : p.getD x 0 ≠ p.getD y 0 := h5
            refine And.intro (by omega) ?_
            exact nx (y + 1, p, ch) ⟨by omega, hI.endS (.inr h5)⟩ (show x - (y + 1) < x - y by omega) (by repeat' first | refine And.intro ?_ ?_ | exact True.intro | (show (_ : Int) = (_ : Int); omega) | omega | exact rfl | (simp only [RO.len]; omega))
        · have h4 : (t.length : Int) ≤ (s : Int) := h4
          refine And.intro (by omega) ?_
          exact nx (y + 1, p, ch) ⟨by omega, hI.endS (.inl (by omega))⟩ (show x - (y + 1) < x - y by omega) (by repeat' first | refine And.intro ?_ ?_ | exact True.intro | (show (_ : Int) = (_ : Int); omega) | omega | exact rfl | (simp only [RO.len]; omega))
      · have h3 : (x : Int) ≤ (y : Int) := h3
        refine And.intro (by omega) ?_
        exact nx (x + 1, p2, ch2) ⟨by omega, hI2.endY (by omega)⟩ (show t.length - (x + 1) < t.length - x by omega) (by repeat' first | refine And.intro ?_ ?_ | exact True.intro | (show (_ : Int) = (_ : Int); omega) | omega | exact rfl | (simp only [RO.len]; omega))
    · have h2 : (t.length : Int) ≤ (x : Int) := h2
      refine nx (p1, ch1) ⟨hI1.b, fun h => by subst h; exact hI1.done (by omega)⟩ ?_ (by repeat' first | refine And.intro ?_ ?_ | exact True.intro | (show (_ : Int) = (_ : Int); omega) | omega | exact rfl | (simp only [RO.len]; omega))
      show classN p1 + b1 ch1 < classN p0 + b1 ch0
      rw [h1]
      have hle := hI1.le
      cases hc : ch1 with
      | true => have := hI1.cd hc; show classN p1 + 1 < classN p0 + 1; omega
      | false => show classN p1 + 0 < classN p0 + 1; omega
  · have h1 : ch0 = false := h1
    have e : (if p0.length ≤ 4096 then canon p0 else []) = genP t side (relP l) := by rw [if_pos (by omega)]; exact hdone h1
    refine Or.inl (cq (rcanon_fn p0) (And.intro rfl trivial) ?_)
    exact And.intro (And.intro (by omega) (congrArg (RO.ints .i64) e)) trivial
end Go.Proofs.Ytjlkhjgnfnfmgaa
end
section
/- Package partition: Refines; mult.Opposite: contracts. -/
namespace Go.Proofs.Ytjlkhjgnfnfmgaa
open Go Go.AM
set_option maxRecDepth 100000
def Rf (p q : List Int) : Prop := ∀ i j, i < p.length → j < p.length → p.getD i 0 = p.getD j 0 → q.getD i 0 = q.getD j 0
noncomputable def rfB (p q : List Int) : Bool := @decide (Rf p q) (Classical.propDecidable _)
theorem rfB_true {p q : List Int} : rfB p q = true ↔ Rf p q := by unfold rfB; exact @decide_eq_true_iff _ (Classical.propDecidable _)
theorem rfB_false {p q : List Int} : rfB p q = false ↔ ¬ Rf p q := by unfold rfB; exact @decide_eq_false_iff_not _ (Classical.propDecidable _)
/-! ### The opposite semigroup -/
end Go.Proofs.Ytjlkhjgnfnfmgaa
end
section
/- The reference's minimal congruences: contracts. -/
namespace Go.Proofs.Ytjlkhjgnfnfmgaa
open Go Go.AM
set_option maxRecDepth 100000
theorem insRow_fn (l : List (List Int)) (x : List Int) (hl : l.length ≤ 100000) (hs0 : Srt cmpL l) : QF 94 [.ro (.rows .i64 l), .ro (.ints .i64 x)] (.ro (.rows .i64 (insC cmpL l x))) := mkQ Try.func94 (by decide +kernel) rfl (Nat.le_of_ble_eq_true rfl) fun _ => by
  refine Exists.intro [] <| lp (X := Nat) (fun i => [(5, .int .i64 i)]) (fun _ => []) (fun i => i ≤ l.length ∧ ∀ j, i ≤ j → j < l.length → cmpL x (l.getD j []) < 0) (fun i => i) l.length (by simp; omega) (by repeat' first | refine And.intro ?_ ?_ | exact True.intro | (show (_ : Int) = (_ : Int); omega) | omega | exact rfl | (simp only [RO.len]; omega)) ?_
  rintro i ⟨hi, hs⟩
  have e0 : ((i : Int) - 1).toNat = i - 1 := by omega
  refine And.intro (fun h1 => ?_) (fun h1 => ?_)
  · refine And.intro (by omega) ?_
    refine And.intro (by omega) ?_
    refine Or.inl (cq (rLess_fn x (l.getD ((i : Int) - 1).toNat [])) (And.intro rfl (And.intro rfl trivial)) ?_)
    refine And.intro (fun h2 => ?_) (fun h2 => ?_)
    · have h2 : cmpL x (l.getD ((i : Int) - 1).toNat []) < 0 := of_decide_eq_true h2
      rw [e0] at h2
      refine And.intro (by omega) ?_
      refine nx (i - 1) ⟨by omega, fun j hj hjl => ?_⟩ (show i - 1 < i by omega) (by repeat' first | refine And.intro ?_ ?_ | exact True.intro | (show (_ : Int) = (_ : Int); omega) | omega | exact rfl | (simp only [RO.len]; omega))
      by_cases e : j = i - 1
      · rw [e]; exact h2
      · exact hs j (by omega) hjl
    · have h2 : ¬ cmpL x (l.getD ((i : Int) - 1).toNat []) < 0 := of_decide_eq_false h2
      rw [e0] at h2
      refine And.intro (fun h3 => ?_) (fun h3 => by omega)
      refine And.intro (by omega) ?_
      refine And.intro (by omega) ?_
      refine Or.inl (cq (same_fn (l.getD ((i : Int) - 1).toNat []) x) (And.intro rfl (And.intro rfl trivial)) ?_)
      refine And.intro (fun h4 => ?_) (fun h4 => ?_)
      · have h4 : l.getD ((i : Int) - 1).toNat [] = x := of_decide_eq_true h4
        rw [e0] at h4
        refine And.intro ?_ trivial
        refine congrArg (RO.rows .i64) (insC_in ?_).symm
        rw [← h4]
        exact getD_mem (by omega)
      · have h4 : ¬ l.getD ((i : Int) - 1).toNat [] = x := of_decide_eq_false h4
        rw [e0] at h4
        have hlt : cmpL (l.getD (i - 1) []) x < 0 := by
          have := cmpL_tot.swap (l.getD (i - 1) []) x
          have := mt (cmpL_tot.eq (l.getD (i - 1) []) x) h4
          omega
        have fin := insC_at cmpL_tot (d := []) hs0 hi hs fun _ => hlt
        refine Or.inr (Exists.intro insSch (And.intro (by decide +kernel) ?_))
        refine And.intro (by omega) ?_
        refine And.intro (by omega) ?_
        repeat' first | exact trivial | refine And.intro ?_ ?_
        all_goals first | (simp; omega) | exact congrArg (RO.rows .i64) (by rw [← fin]; simp)
  · refine And.intro (fun h3 => by omega) (fun h3 => ?_)
    have fin := insC_at cmpL_tot (d := []) hs0 hi hs fun h => by omega
    refine Or.inr (Exists.intro insSch (And.intro (by decide +kernel) ?_))
    refine And.intro (by omega) ?_
    refine And.intro (by omega) ?_
    repeat' first | exact trivial | refine And.intro ?_ ?_
    all_goals first | (simp; omega) | exact congrArg (RO.rows .i64) (by rw [← fin]; simp)
set_option maxHeartbeats 1000000 in
theorem rrefn_fn (p q : List Int) (hl : p.length = q.length) : QF 96 [.ro (.ints .i64 p), .ro (.ints .i64 q)] (.bool (.v (rfB p q))) := mkQ Try.func96 (by decide +kernel) rfl (Nat.le_of_ble_eq_true rfl) fun hf => by
  have hpl : p.length ≤ 140737488355328 := hf.1.1
  refine Exists.intro [] <| lp (X := Nat) (fun i => [(9, .int .i64 i)]) (fun _ => []) (fun i => i ≤ p.length ∧ ∀ x, x < i → ∀ y, y < p.length → p.getD x 0 = p.getD y 0 → q.getD x 0 = q.getD y 0) (fun i => p.length - i) 0 ⟨Nat.zero_le _, fun j hj => absurd hj (Nat.not_lt_zero _)⟩ (by repeat' first | refine And.intro ?_ ?_ | exact True.intro | (show (_ : Int) = (_ : Int); omega) | omega | exact rfl | (simp only [RO.len]; omega)) ?_
  rintro i ⟨hi, hx⟩
  refine And.intro (fun h1 => ?_) (fun h1 => ?_)
  · have h1 : (i : Int) < (p.length : Int) := h1
    refine Exists.intro [] <| lp (X := Nat) (fun j => [(14, .int .i64 j)]) (fun _ => []) (fun j => j ≤ p.length ∧ ∀ y, y < j → p.getD i 0 = p.getD y 0 → q.getD i 0 = q.getD y 0) (fun j => p.length - j) 0 ⟨Nat.zero_le _, fun j hj => absurd hj (Nat.not_lt_zero _)⟩ (by repeat' first | refine And.intro ?_ ?_ | exact True.intro | (show (_ : Int) = (_ : Int); omega) | omega | exact rfl | (simp only [RO.len]; omega)) ?_
    rintro j ⟨hj, hy⟩
    refine And.intro (fun h2 => ?_) (fun h2 => ?_)
    · have h2 : (j : Int) < (p.length : Int) := h2
      refine Or.inl ?_
      refine Exists.intro (List.replicate 20 false) (And.intro (by decide +kernel) ?_)
      refine And.intro (by omega) ?_
      refine And.intro (by omega) ?_
      refine And.intro (fun h3 => ?_) (fun h3 => ?_)
      · have h3 : p.getD i 0 = p.getD j 0 := h3
        refine And.intro (show 0 ≤ (i : Int) ∧ (i : Int) < (q.length : Int) by omega) ?_
        refine And.intro (show 0 ≤ (j : Int) ∧ (j : Int) < (q.length : Int) by omega) ?_
        refine And.intro (fun h4 => ?_) (fun h4 => ?_)
        · have h4 : ¬ q.getD i 0 = q.getD j 0 := h4
          refine And.intro ?_ trivial
          exact (rfB_false.2 fun h => h4 (h i j (by omega) (by omega) h3)).symm
        · have h4 : q.getD i 0 = q.getD j 0 := h4
          refine And.intro (by omega) ?_
          refine nx (j + 1) ⟨by omega, fun y hyj e => ?_⟩ (show p.length - (j + 1) < p.length - j by omega) (by repeat' first | refine And.intro ?_ ?_ | exact True.intro | (show (_ : Int) = (_ : Int); omega) | omega | exact rfl | (simp only [RO.len]; omega))
          by_cases ey : y = j
          · subst ey; exact h4
          · exact hy y (by omega) e
      · have h3 : ¬ p.getD i 0 = p.getD j 0 := h3
        refine And.intro (by omega) ?_
        refine nx (j + 1) ⟨by omega, fun y hyj e => ?_⟩ (show p.length - (j + 1) < p.length - j by omega) (by repeat' first | refine And.intro ?_ ?_ | exact True.intro | (show (_ : Int) = (_ : Int); omega) | omega | exact rfl | (simp only [RO.len]; omega))
        by_cases ey : y = j
        · subst ey; exact absurd e h3
        · exact hy y (by omega) e
    · have h2 : (p.length : Int) ≤ (j : Int) := h2
      refine And.intro (by omega) ?_
      refine nx (i + 1) ⟨by omega, fun x hxi y hyp e => ?_⟩ (show p.length - (i + 1) < p.length - i by omega) (by repeat' first | refine And.intro ?_ ?_ | exact True.intro | (show (_ : Int) = (_ : Int); omega) | omega | exact rfl | (simp only [RO.len]; omega))
      by_cases ex : x = i
      · subst ex; exact hy y (by omega) e
      · exact hx x (by omega) y hyp e
  · have h1 : (p.length : Int) ≤ (i : Int) := h1
    refine And.intro ?_ trivial
    exact (rfB_true.2 fun x y hxp hyp e => hx x (by omega) y hyp e).symm
end Go.Proofs.Ytjlkhjgnfnfmgaa
end
section
/- The reference's principal and minimal congruences: contracts. -/
namespace Go.Proofs.Ytjlkhjgnfnfmgaa
open Go Go.AM
set_option maxRecDepth 100000
noncomputable def prnG (t : List (List Int)) (x y : Nat) : List Int := genP t 0 (relP [((x : Int), (y : Int))])
noncomputable def prnL (t : List (List Int)) : List (List Int) := srt cmpL (firsts ((List.range t.length).flatMap fun x => (List.range x).map fun y => prnG t x y))
theorem prnL_srt (t : List (List Int)) : Srt cmpL (prnL t) := srt_srt cmpL_tot (firsts_nodup _)
theorem mem_prnL {t : List (List Int)} {p : List Int} : p ∈ prnL t ↔ ∃ x y, y < x ∧ x < t.length ∧ p = prnG t x y := by
  unfold prnL
  rw [srt_mem, mem_firsts, List.mem_flatMap]
  constructor
  · rintro ⟨x, hx, h⟩
    obtain ⟨y, hy, rfl⟩ := List.mem_map.1 h
    exact ⟨x, y, List.mem_range.1 hy, List.mem_range.1 hx, rfl⟩
  · rintro ⟨x, y, h1, h2, rfl⟩
    exact ⟨x, List.mem_range.2 h2, List.mem_map.2 ⟨y, List.mem_range.2 h1, rfl⟩⟩
structure PrI (t : List (List Int)) (x y : Nat) (L : List (List Int)) : Prop where
  srt : Srt cmpL L
  mem : ∀ p, p ∈ L ↔ ∃ a b, b < a ∧ (a < x ∨ a = x ∧ b < y) ∧ p = prnG t a b
  len : L.length ≤ x * 60 + y
theorem PrI.start (t : List (List Int)) : PrI t 0 0 [] := ⟨List.Pairwise.nil, fun p => ⟨fun h => absurd h List.not_mem_nil, fun ⟨a, b, _, h, _⟩ => by omega⟩, Nat.le_refl _⟩
theorem PrI.next {t : List (List Int)} {x y : Nat} {L : List (List Int)} (h : PrI t x y L) (hy : y < x) : PrI t x (y + 1) (insC cmpL L (prnG t x y)) := by
  refine ⟨insC_srt cmpL_tot h.srt, fun p => ?_, ?_⟩
  · rw [insC_mem, h.mem]
    constructor
    · rintro (rfl | ⟨a, b, h1, h2, rfl⟩)
      · exact ⟨x, y, hy, by omega, rfl⟩
      · exact ⟨a, b, h1, by omega, rfl⟩
    · rintro ⟨a, b, h1, h2, rfl⟩
      by_cases e : a = x ∧ b = y
      · obtain ⟨rfl, rfl⟩ := e; exact .inl rfl
      · exact .inr ⟨a, b, h1, by omega, rfl⟩
  · have := insC_len (c := cmpL) L (prnG t x y)
    have := h.len
    omega
theorem PrI.row {t : List (List Int)} {x y : Nat} {L : List (List Int)} (h : PrI t x y L) (hy : x ≤ y) (hx : y ≤ 60) : PrI t (x + 1) 0 L :=
  ⟨h.srt, fun p => (h.mem p).trans ⟨fun ⟨a, b, h1, h2, h3⟩ => ⟨a, b, h1, by omega, h3⟩, fun ⟨a, b, h1, h2, h3⟩ => ⟨a, b, h1, by omega, h3⟩⟩, by have := h.len; omega⟩
theorem PrI.done {t : List (List Int)} {x : Nat} {L : List (List Int)} (h : PrI t x 0 L) (hx : x = t.length) : L = prnL t := by
  refine sorted_uniq cmpL_tot h.srt (prnL_srt t) fun p => ?_
  rw [h.mem, mem_prnL]
  exact ⟨fun ⟨a, b, h1, h2, h3⟩ => ⟨a, b, h1, by omega, h3⟩, fun ⟨a, b, h1, h2, h3⟩ => ⟨a, b, h1, by omega, h3⟩⟩
set_option maxHeartbeats 1000000 in
theorem rprn_fn (t : List (List Int)) (hs : Sh t) (ht : t.length ≤ 60) : QF 93 [.ro (.rows .i64 t)] (.ro (.rows .i64 (prnL t))) := mkQ Try.func93 (by decide +kernel) rfl (Nat.le_of_ble_eq_true rfl) fun _ => by
  refine Exists.intro [20, 21, 22, 10021, 10022] <| lp2 (fun (x : Nat) (L : List (List Int)) => [(8, .int .i64 x), (3, .ro (.rows .i64 L))]) (fun _ _ => []) (fun x L => x ≤ t.length ∧ PrI t x 0 L) (fun x _ => t.length - x) 0 [] ⟨Nat.zero_le _, .start t⟩ (by repeat' first | refine And.intro ?_ ?_ | exact True.intro | (show (_ : Int) = (_ : Int); omega) | omega | exact rfl | (simp only [RO.len]; omega)) ?_
  rintro x L0 ⟨hx, h0⟩
  refine And.intro (fun h1 => ?_) (fun h1 => ?_)
  · have h1 : (x : Int) < (t.length : Int) := h1
    refine Exists.intro [20, 21, 22, 10021, 10022] <| lp2 (fun (y : Nat) (L : List (List Int)) => [(5, .int .i64 y), (3, .ro (.rows .i64 L))]) (fun _ _ => []) (fun y L => y ≤ x ∧ PrI t x y L) (fun y _ => x - y) 0 L0 ⟨Nat.zero_le _, h0⟩ (by repeat' first | refine And.intro ?_ ?_ | exact True.intro | (show (_ : Int) = (_ : Int); omega) | omega | exact rfl | (simp only [RO.len]; omega)) ?_
    rintro y L ⟨hy, hI⟩
    have hLl := hI.len
    refine And.intro (fun h2 => ?_) (fun h2 => ?_)
    · have h2 : (y : Int) < (x : Int) := h2
      have hin : inW t.length [((x : Int), (y : Int))] := fun q hq => by rw [List.mem_singleton] at hq; subst hq; exact ⟨⟨by omega, h1⟩, by omega, by show (y : Int) < (t.length : Int); omega⟩
      refine Or.inl (cq (rgnr_fn t [((x : Int), (y : Int))] 0 hs hin) (And.intro rfl (And.intro rfl (And.intro rfl trivial))) ?_)
      refine Or.inl (cq (insRow_fn L (prnG t x y) (by omega) hI.srt) (And.intro rfl (And.intro rfl trivial)) ?_)
      refine And.intro (by omega) ?_
      exact nx (y + 1, insC cmpL L (prnG t x y)) ⟨by omega, hI.next (by omega)⟩ (show x - (y + 1) < x - y by omega) (by repeat' first | refine And.intro ?_ ?_ | exact True.intro | (show (_ : Int) = (_ : Int); omega) | omega | exact rfl | (simp only [RO.len]; omega))
    · have h2 : (x : Int) ≤ (y : Int) := h2
      refine And.intro (by omega) ?_
      exact nx (x + 1, L) ⟨by omega, hI.row (by omega) (by omega)⟩ (show t.length - (x + 1) < t.length - x by omega) (by repeat' first | refine And.intro ?_ ?_ | exact True.intro | (show (_ : Int) = (_ : Int); omega) | omega | exact rfl | (simp only [RO.len]; omega))
  · have h1 : (t.length : Int) ≤ (x : Int) := h1
    refine And.intro ?_ trivial
    exact congrArg (RO.rows .i64) (h0.done (by omega))
noncomputable def mcB (l : List (List Int)) (p : List Int) : Bool := l.all fun q => decide (p = q) || !rfB q p
noncomputable def mcL (l : List (List Int)) : List (List Int) := l.filter (mcB l)
theorem mcB_true {l : List (List Int)} {p : List Int} : mcB l p = true ↔ ∀ q ∈ l, rfB q p = true → p = q := by
  unfold mcB
  rw [List.all_eq_true]
  refine forall_congr' fun q => forall_congr' fun _ => ?_
  rw [Bool.or_eq_true, decide_eq_true_iff, Bool.not_eq_true']
  cases rfB q p <;> simp
theorem prnG_is {t : List (List Int)} (h : Semi t) (x y : Nat) : IsCg t (prnG t x y) 0 := genP_is h (by decide)
theorem prnG_eq {t : List (List Int)} {x y : Nat} (hx : x < t.length) (hy : y < t.length) : (prnG t x y).getD x 0 = (prnG t x y).getD y 0 :=
  (genP_iff hx hy).2 (.rel (List.mem_singleton.2 rfl))
theorem prnG_sub {t : List (List Int)} {x y : Nat} {q : List Int} (hq : IsCg t q 0) (e : q.getD x 0 = q.getD y 0) : Sub t.length (prnG t x y) q := fun a b ha hb h => by
  refine Cgr.sub (fun c d hcd => ?_) hq.cg ((genP_iff ha hb).1 h)
  have := List.mem_singleton.1 hcd
  injection this with h1 h2
  have h1 : c = x := by omega
  have h2 : d = y := by omega
  rw [h1, h2]; exact e
theorem rf_sub2 {p q : List Int} {n : Nat} (hp : p.length = n) : rfB p q = true ↔ Sub n p q := by
  rw [rfB_true, ← hp]; exact Iff.rfl
theorem Joins.gen {t : List (List Int)} {q : List Int} (hj : Joins t.length q) : ∃ x y, y < x ∧ x < t.length ∧ q.getD x 0 = q.getD y 0 := by
  obtain ⟨a, b, ha, hb, hne, e⟩ := hj
  by_cases h : b < a
  · exact ⟨a, b, h, ha, e⟩
  · exact ⟨b, a, by omega, hb, e.symm⟩
theorem mc_min {t : List (List Int)} (h : Semi t) (p : List Int) : p ∈ mcL (prnL t) ↔ MinC t p := by
  unfold mcL
  rw [List.mem_filter, mcB_true]
  constructor
  · rintro ⟨hp, hm⟩
    obtain ⟨x, y, hy, hx, rfl⟩ := mem_prnL.1 hp
    refine ⟨prnG_is h x y, ⟨x, y, hx, by omega, by omega, prnG_eq hx (by omega)⟩, fun q hq hj hs => ?_⟩
    obtain ⟨a, b, hb, ha, e⟩ := hj.gen
    have h1 := prnG_sub (x := a) (y := b) hq e
    have h2 := hm (prnG t a b) (mem_prnL.2 ⟨a, b, hb, ha, rfl⟩) ((rf_sub2 (prnG_is h a b).len).2 fun c d hc hd e2 => hs c d hc hd (h1 c d hc hd e2))
    rw [h2]; exact h1
  · intro hm
    obtain ⟨a, b, hb, ha, e⟩ := hm.jo.gen
    have h1 := prnG_sub (x := a) (y := b) hm.cg e
    have hj : Joins t.length (prnG t a b) := ⟨a, b, ha, by omega, by omega, prnG_eq ha (by omega)⟩
    have h2 := sub_eq hm.cg.len (prnG_is h a b).len hm.cg.val.2 (prnG_is h a b).val.2 (hm.mi _ (prnG_is h a b) hj h1) h1
    refine ⟨mem_prnL.2 ⟨a, b, hb, ha, h2⟩, fun q hq hr => ?_⟩
    obtain ⟨c, d, hd, hc, rfl⟩ := mem_prnL.1 hq
    have h3 := (rf_sub2 (prnG_is h c d).len).1 hr
    exact sub_eq hm.cg.len (prnG_is h c d).len hm.cg.val.2 (prnG_is h c d).val.2 (hm.mi _ (prnG_is h c d) ⟨c, d, hc, by omega, by omega, prnG_eq hc (by omega)⟩ h3) h3
theorem mc_mins {t : List (List Int)} (h : Semi t) : minsL t = mcL (prnL t) := mins_of ((prnL_srt t).filter _) (mc_min h)
theorem mins_mem {t : List (List Int)} (h : Semi t) (p : List Int) : p ∈ minsL t ↔ MinC t p := by rw [mc_mins h]; exact mc_min h p
theorem prnL_len {t : List (List Int)} : (prnL t).length ≤ t.length * t.length := by
  unfold prnL
  rw [srt_len]
  refine Nat.le_trans (firsts_le _) ?_
  rw [List.length_flatMap]
  have : ∀ n, ((List.range n).map fun x => ((List.range x).map fun y => prnG t x y).length).sum ≤ n * t.length ∨ t.length < n := fun n => by
    induction n with
    | zero => exact .inl (by simp)
    | succ n ih =>
      by_cases hn : t.length < n + 1
      · exact .inr hn
      · refine .inl ?_
        rcases ih with ih | ih
        · rw [List.range_succ, List.map_append, List.sum_append, Nat.succ_mul]
          simp only [List.map_cons, List.map_nil, List.sum_cons, List.sum_nil, List.length_map, List.length_range]
          simp only [List.length_map, List.length_range] at ih
          omega
        · omega
  rcases this t.length with h | h
  · exact h
  · omega
set_option maxHeartbeats 1000000 in
theorem rmin_fn (t : List (List Int)) (hs : Semi t) (ht : t.length ≤ 60) : QF 34 [.ro (.rows .i64 t)] (.ro (.rows .i64 (minsL t))) := mkQ Try.func34 (by decide +kernel) rfl (Nat.le_of_ble_eq_true rfl) fun _ => by
  have hl : ∀ p ∈ prnL t, p.length = t.length := fun p hp => by
    obtain ⟨x, y, _, _, rfl⟩ := mem_prnL.1 hp
    exact genP_len
  have hpl : (prnL t).length ≤ 3600 := Nat.le_trans prnL_len (Nat.mul_le_mul ht ht)
  refine Or.inl (cq (rprn_fn t hs.toSh ht) (And.intro rfl trivial) ?_)
  refine Exists.intro [] <| lp2 (fun (i : Nat) (_ : List (List Int)) => [(14, .int .i64 i), (3, .vec 41)]) (fun _ O => [(41, .vec 0 (.rows .i64 O) [])]) (fun i O => i ≤ (prnL t).length ∧ O = ((prnL t).take i).filter (mcB (prnL t))) (fun i _ => (prnL t).length - i) 0 [] ⟨Nat.zero_le _, rfl⟩ (by repeat' first | refine And.intro ?_ ?_ | exact True.intro | (show (_ : Int) = (_ : Int); omega) | omega | exact rfl | (simp only [RO.len]; omega)) ?_
  rintro i O ⟨hi, hO⟩
  have hOl : O.length ≤ i := by rw [hO]; refine Nat.le_trans (List.length_filter_le _ _) ?_; rw [List.length_take]; omega
  refine And.intro (fun h1 => ?_) (fun h1 => ?_)
  · have h1 : (i : Int) < ((prnL t).length : Int) := h1
    have hil : i < (prnL t).length := by omega
    have hpi := hl _ (getD_mem (d := []) hil)
    have hst : ((prnL t).take (i + 1)).filter (mcB (prnL t)) = O ++ (if mcB (prnL t) ((prnL t).getD i []) then [(prnL t).getD i []] else []) := by
      rw [hO, List.take_succ_eq_append_getElem hil, List.filter_append, getD_eq hil]
      cases h : mcB (prnL t) (prnL t)[i] <;> simp [h]
    refine And.intro (by omega) ?_
    refine Exists.intro [] <| lp2 (fun (j : Nat) (b : Bool) => [(20, .int .i64 j), (7, .bool (.v b))]) (fun _ _ => []) (fun j b => j ≤ (prnL t).length ∧ b = ((prnL t).take j).all fun q => decide ((prnL t).getD i [] = q) || !rfB q ((prnL t).getD i [])) (fun j _ => (prnL t).length - j) 0 true ⟨Nat.zero_le _, rfl⟩ (by repeat' first | refine And.intro ?_ ?_ | exact True.intro | (show (_ : Int) = (_ : Int); omega) | omega | exact rfl | (simp only [RO.len]; omega)) ?_
    rintro j b ⟨hj, hb⟩
    refine And.intro (fun h2 => ?_) (fun h2 => ?_)
    · have h2 : (j : Int) < ((prnL t).length : Int) := h2
      have hjl : j < (prnL t).length := by omega
      have hpj := hl _ (getD_mem (d := []) hjl)
      have hsb : (((prnL t).take (j + 1)).all fun q => decide ((prnL t).getD i [] = q) || !rfB q ((prnL t).getD i [])) = (b && (decide ((prnL t).getD i [] = (prnL t).getD j []) || !rfB ((prnL t).getD j []) ((prnL t).getD i []))) := by
        rw [hb, List.take_succ_eq_append_getElem hjl, List.all_append, getD_eq hjl]; simp
      refine And.intro (by omega) ?_
      refine And.intro (fun h3 => ?_) (fun h3 => ?_)
      · have h3 : b = true := h3
        refine Or.inl (cq (same_fn ((prnL t).getD i []) ((prnL t).getD j [])) (And.intro rfl (And.intro rfl trivial)) ?_)
        refine And.intro (fun h4 => ?_) (fun h4 => ?_)
        · have h4 : decide ((prnL t).getD i [] = (prnL t).getD j []) = true := h4
          refine And.intro (by omega) ?_
          exact nx (j + 1, true) ⟨by omega, by rw [hsb, h3, h4]; rfl⟩ (show (prnL t).length - (j + 1) < (prnL t).length - j by omega) (by repeat' first | refine And.intro ?_ ?_ | exact True.intro | (show (_ : Int) = (_ : Int); omega) | omega | exact rfl | (simp only [RO.len]; omega))
        · have h4 : decide ((prnL t).getD i [] = (prnL t).getD j []) = false := h4
          refine Or.inl (cq (rrefn_fn ((prnL t).getD j []) ((prnL t).getD i []) (by omega)) (And.intro rfl (And.intro rfl trivial)) ?_)
          refine And.intro (by omega) ?_
          exact nx (j + 1, !rfB ((prnL t).getD j []) ((prnL t).getD i [])) ⟨by omega, by rw [hsb, h3, h4]; rfl⟩ (show (prnL t).length - (j + 1) < (prnL t).length - j by omega) (by repeat' first | refine And.intro ?_ ?_ | exact True.intro | (show (_ : Int) = (_ : Int); omega) | omega | exact rfl | (simp only [RO.len]; omega))
      · have h3 : b = false := h3
        refine And.intro (by omega) ?_
        exact nx (j + 1, false) ⟨by omega, by rw [hsb, h3]; rfl⟩ (show (prnL t).length - (j + 1) < (prnL t).length - j by omega) (by repeat' first | refine And.intro ?_ ?_ | exact True.intro | (show (_ : Int) = (_ : Int); omega) | omega | exact rfl | (simp only [RO.len]; omega))
    · have h2 : ((prnL t).length : Int) ≤ (j : Int) := h2
      have eb : b = mcB (prnL t) ((prnL t).getD i []) := by rw [hb, List.take_of_length_le (by omega)]; rfl
      refine And.intro (fun h3 => ?_) (fun h3 => ?_)
      · have h3 : b = true := h3
        have hOa : (O ++ [(prnL t).getD (i : Int).toNat []]).length = O.length + 1 := by simp
        refine And.intro (by omega) ?_
        refine And.intro (by omega) ?_
        exact nx (i + 1, O ++ [(prnL t).getD i []]) ⟨by omega, by rw [hst, ← eb, h3]; rfl⟩ (show (prnL t).length - (i + 1) < (prnL t).length - i by omega) (by repeat' first | refine And.intro ?_ ?_ | exact True.intro | (show (_ : Int) = (_ : Int); omega) | omega | exact rfl | (simp only [RO.len]; omega))
      · have h3 : b = false := h3
        refine And.intro (by omega) ?_
        exact nx (i + 1, O) ⟨by omega, by rw [hst, ← eb, h3]; simp⟩ (show (prnL t).length - (i + 1) < (prnL t).length - i by omega) (by repeat' first | refine And.intro ?_ ?_ | exact True.intro | (show (_ : Int) = (_ : Int); omega) | omega | exact rfl | (simp only [RO.len]; omega))
  · have h1 : ((prnL t).length : Int) ≤ (i : Int) := h1
    refine And.intro ?_ trivial
    refine And.intro trivial ?_
    refine congrArg (RO.rows .i64) ?_
    rw [hO, List.take_of_length_le (by omega), mc_mins hs]; rfl
end Go.Proofs.Ytjlkhjgnfnfmgaa
end
section
/- The law's guards; the reference's Irreducible: contracts. -/
namespace Go.Proofs.Ytjlkhjgnfnfmgaa
open Go Go.AM
set_option maxRecDepth 100000
theorem small22_fn (t : List (List Int)) (m : Int) : QF 9 [.ro (.rows .i64 t), .int .i64 m] (.bool (.v (decide ((t.length : Int) ≤ m ∧ validV t = 0)))) := mkQ Try.func9 (by decide +kernel) rfl (Nat.le_of_ble_eq_true rfl) fun _ => by
  refine And.intro (fun h1 => ?_) (fun h1 => ?_)
  · refine Or.inl (cq (rvalid_fn t) (And.intro rfl trivial) ?_)
    refine And.intro ?_ trivial
    show decide (validV t = 0) = decide ((t.length : Int) ≤ m ∧ validV t = 0)
    have h1 : (t.length : Int) ≤ m := h1
    simp [h1]
  · refine And.intro ?_ trivial
    show false = decide ((t.length : Int) ≤ m ∧ validV t = 0)
    have h1 : m < (t.length : Int) := h1
    have : ¬ (t.length : Int) ≤ m := by omega
    simp [this]
theorem Irr.two {t : List (List Int)} (h : Irr t) : 2 ≤ t.length := by
  have hm := getD_mem (d := []) (l := minsL t) (i := 0) (by rw [h.2]; decide)
  obtain ⟨x, y, hx, hy, hne, _⟩ := ((mins_mem h.1 _).1 hm).jo
  omega
theorem rirr1_fn (t : List (List Int)) (h : Irr t) (ht : t.length ≤ 60) : QF 59 [.ro (.rows .i64 t)] (.tup [.ro (.ints .i64 ((minsL t).getD 0 [])), .bool (.lit true)]) := mkQ Try.func59 (by decide +kernel) rfl (Nat.le_of_ble_eq_true rfl) fun _ => by
  have h2 := h.two
  obtain ⟨hs, h1⟩ := h
  refine Or.inl (cq (rvalid_fn t) (And.intro rfl trivial) ?_)
  refine And.intro (fun h3 => ?_) (fun _ => ?_)
  · have h3 : (!decide (validV t = 0)) = true := h3
    rw [decide_eq_true (valid_zero.2 hs)] at h3; cases h3
  refine And.intro (fun h3 => ?_) (fun _ => ?_)
  · have h3 : (t.length : Int) < 2 := h3
    omega
  refine Or.inl (cq (rmin_fn t hs ht) (And.intro rfl trivial) ?_)
  refine And.intro (fun h3 => ?_) (fun _ => ?_)
  · have h3 : ¬ ((minsL t).length : Int) = 1 := h3
    omega
  refine And.intro (show 0 ≤ (0 : Int) ∧ (0 : Int) < ((minsL t).length : Int) by omega) ?_
  exact And.intro rfl (And.intro rfl trivial)
theorem rirr0_fn (t : List (List Int)) (h : ¬ Irr t) (ht : Semi t → t.length ≤ 60) : QF 59 [.ro (.rows .i64 t)] (.tup [.nils, .bool (.lit false)]) := mkQ Try.func59 (by decide +kernel) rfl (Nat.le_of_ble_eq_true rfl) fun _ => by
  refine Or.inl (cq (rvalid_fn t) (And.intro rfl trivial) ?_)
  refine And.intro (fun _ => ?_) (fun h3 => ?_)
  · exact And.intro trivial (And.intro rfl trivial)
  have h3 : (!decide (validV t = 0)) = false := h3
  have hs : Semi t := valid_zero.1 (by simpa using h3)
  refine And.intro (fun _ => ?_) (fun h4 => ?_)
  · exact And.intro trivial (And.intro rfl trivial)
  refine Or.inl (cq (rmin_fn t hs (ht hs)) (And.intro rfl trivial) ?_)
  refine And.intro (fun _ => ?_) (fun h3 => ?_)
  · exact And.intro trivial (And.intro rfl trivial)
  · have h3 : ((minsL t).length : Int) = 1 := h3
    exact absurd ⟨hs, by omega⟩ h
end Go.Proofs.Ytjlkhjgnfnfmgaa
end
