import Derived.Test.YtagdbfklniiabaaIdpLaw
import Derived.Test.YtagdbfklniiabaaRefCgG
import Derived.Test.YtagdbfklniiabaaReesLaw
import Derived.Test.YtagdbfklniiabaaEqvLaw
import Derived.Test.YtagdbfklniiabaaGrpLaw
section
/- The reference's generated congruence: contract. -/
namespace Go.Proofs.Ytagdbfklniiabaa
open Go Go.AM
set_option maxRecDepth 100000
def b1 (b : Bool) : Nat := match b with | true => 1 | false => 0
set_option maxHeartbeats 2000000 in
theorem rgnr_fn (t : List (List Int)) (l : List (Int × Int)) (side : Int) (hs : Sh t) (hl : inW t.length l) : QF 81 [.ro (.rows .i64 t), .ro (.pairs l), .int .i64 side] (.new (.ints .i64 (genP t side (relP l)))) := mkQ Try.func81 (by decide +kernel) rfl (Nat.le_of_ble_eq_true rfl) fun _ => by
  have hmost := hs.most
  refine Or.inl (cq (rpairs_fn t.length (by omega) l hl) (And.intro rfl (And.intro rfl trivial)) ?_)
  refine Exists.intro [] <| lp2 (fun (_ : List Int) (ch : Bool) => [(8, .bool (.v ch))]) (fun p _ => [(19, .vec 0 (.ints .i64 p) [])]) (fun p ch => RcB t side (relP l) p ∧ (ch = false → canon p = genP t side (relP l))) (fun p ch => classN p + b1 ch) (eqP t.length (relP l)) true ⟨RcB.ofPairs hl, fun h => by cases h⟩ (by repeat' first | refine And.intro ?_ ?_ | exact True.intro | (show (_ : Int) = (_ : Int); omega) | omega | exact rfl | (simp only [RO.len]; omega)) ?_
  rintro p0 ch0 ⟨hB, hdone⟩
  have hp0 := hB.len
  refine And.intro (fun h1 => ?_) (fun h1 => ?_)
  · have h1 : ch0 = true := h1
    refine Exists.intro [] <| lp3 (fun (x : Nat) (_ : List Int) (ch : Bool) => [(23, .int .i64 x), (8, .bool (.v ch))]) (fun _ p _ => [(19, .vec 0 (.ints .i64 p) [])]) (fun x p ch => x ≤ t.length ∧ RcI t side (relP l) p0 p ch x 0 0) (fun x _ _ => t.length - x) 0 p0 false ⟨Nat.zero_le _, RcI.start hB⟩ (by repeat' first | refine And.intro ?_ ?_ | exact True.intro | (show (_ : Int) = (_ : Int); omega) | omega | exact rfl | (simp only [RO.len]; omega)) ?_
    rintro x p1 ch1 ⟨hx, hI1⟩
    refine And.intro (fun h2 => ?_) (fun h2 => ?_)
    · have h2 : (x : Int) < (t.length : Int) := h2
      have hxl : x < t.length := by omega
      refine Exists.intro [] <| lp3 (fun (y : Nat) (_ : List Int) (ch : Bool) => [(10, .int .i64 y), (8, .bool (.v ch))]) (fun _ p _ => [(19, .vec 0 (.ints .i64 p) [])]) (fun y p ch => y ≤ x ∧ RcI t side (relP l) p0 p ch x y 0) (fun y _ _ => x - y) 0 p1 ch1 ⟨Nat.zero_le _, hI1⟩ (by repeat' first | refine And.intro ?_ ?_ | exact True.intro | (show (_ : Int) = (_ : Int); omega) | omega | exact rfl | (simp only [RO.len]; omega)) ?_
      rintro y p2 ch2 ⟨hy, hI2⟩
      refine And.intro (fun h3 => ?_) (fun h3 => ?_)
      · have h3 : (y : Int) < (x : Int) := h3
        have hyl : y < t.length := by omega
        refine Exists.intro [] <| lp3 (fun (s : Nat) (_ : List Int) (ch : Bool) => [(11, .int .i64 s), (8, .bool (.v ch))]) (fun _ p _ => [(19, .vec 0 (.ints .i64 p) [])]) (fun s p ch => s ≤ t.length ∧ RcI t side (relP l) p0 p ch x y s) (fun s _ _ => t.length - s) 0 p2 ch2 ⟨Nat.zero_le _, hI2⟩ (by repeat' first | refine And.intro ?_ ?_ | exact True.intro | (show (_ : Int) = (_ : Int); omega) | omega | exact rfl | (simp only [RO.len]; omega)) ?_
        rintro s p ch ⟨hsn, hI⟩
        have hpl := hI.b.len
        refine Or.inl ?_
        refine Exists.intro [false, false, false, false, false, false, false, false, false, false, false, false, false, false, false] (And.intro (by decide +kernel) ?_)
        refine And.intro (fun h4 => ?_) (fun h4 => ?_)
        · have h4 : (s : Int) < (t.length : Int) := h4
          have hsl : s < t.length := by omega
          refine And.intro (show 0 ≤ (x : Int) ∧ (x : Int) < (p.length : Int) by omega) ?_
          refine And.intro (show 0 ≤ (y : Int) ∧ (y : Int) < (p.length : Int) by omega) ?_
          refine And.intro (fun h5 => ?_) (fun h5 => ?_)
          · have h5 : p.getD x 0 = p.getD y 0 := h5
            have hxy := hI.b.up x y hxl hyl h5
            have e1 := hs.ent hsl hxl
            have e2 := hs.ent hsl hyl
            have e3 := hs.ent hxl hsl
            have e4 := hs.ent hyl hsl
            have r1 := hs.len hsl
            have r2 := hs.len hxl
            have r3 := hs.len hyl
            refine Or.inl ?_
            refine Exists.intro [false, false, false, false, false, false, false, false, false, false, false, false, false, false, false, false] (And.intro (by decide +kernel) ?_)
            refine And.intro (by omega) ?_
            refine And.intro (show 0 ≤ (x : Int) ∧ (x : Int) < ((t.getD s []).length : Int) by omega) ?_
            refine And.intro (by omega) ?_
            refine And.intro (show 0 ≤ (y : Int) ∧ (y : Int) < ((t.getD s []).length : Int) by omega) ?_
            refine Or.inl ?_
            refine Exists.intro [false, false, false, false, false, false, false, false, false, false, false, false, false] (And.intro (by decide +kernel) ?_)
            refine And.intro (fun h6 => ?_) (fun h6 => ?_)
            · have h6 : side ≠ 2 := h6
              refine And.intro (show 0 ≤ (t.getD s []).getD x 0 ∧ (t.getD s []).getD x 0 < (p.length : Int) by omega) ?_
              refine And.intro (show 0 ≤ (t.getD s []).getD y 0 ∧ (t.getD s []).getD y 0 < (p.length : Int) by omega) ?_
              refine And.intro (fun h7 => ?_) (fun h7 => ?_)
              · have h7 : p.getD ((t.getD s []).getD x 0).toNat 0 ≠ p.getD ((t.getD s []).getD y 0).toNat 0 := h7
                rw [e1.1, e2.1, Int.toNat_natCast, Int.toNat_natCast] at h7
                have hm := merge_fn p (en t s x) (en t s y) (by omega) (by omega) (by omega)
                rw [← e1.1, ← e2.1] at hm
                have hI1 := hI.mrg e1.2 e2.2 (.left h6 hsl hxl hyl hxy) h7 x y s
                refine Or.inr (Or.inl (cm [] [(1000, 19)] hm ?_))
                refine And.intro (by repeat' first | refine And.intro ?_ ?_ | exact True.intro | (show (_ : Int) = (_ : Int); omega) | omega | exact rfl | (simp only [RO.len]; omega)) ?_
                have hpl1 : (mrgL p (en t s x) (en t s y)).length = t.length := by rw [mrgL_len]; exact hpl
                refine Or.inl ?_
                refine Exists.intro [false, false, false, false, false, false, false, false, false, false, false, false, false, false, false, false] (And.intro (by decide +kernel) ?_)
                refine And.intro (by omega) ?_
                refine And.intro (show 0 ≤ (s : Int) ∧ (s : Int) < ((t.getD x []).length : Int) by omega) ?_
                refine And.intro (by omega) ?_
                refine And.intro (show 0 ≤ (s : Int) ∧ (s : Int) < ((t.getD y []).length : Int) by omega) ?_
                refine Or.inl ?_
                refine Exists.intro [false, false, false, false, false, false, false, false, false, false, false, false, false] (And.intro (by decide +kernel) ?_)
                refine And.intro (fun h8 => ?_) (fun h8 => ?_)
                · have h8 : side ≠ 1 := h8
                  refine And.intro (show 0 ≤ (t.getD x []).getD s 0 ∧ (t.getD x []).getD s 0 < ((mrgL p (en t s x) (en t s y)).length : Int) by omega) ?_
                  refine And.intro (show 0 ≤ (t.getD y []).getD s 0 ∧ (t.getD y []).getD s 0 < ((mrgL p (en t s x) (en t s y)).length : Int) by omega) ?_
                  refine And.intro (fun h9 => ?_) (fun h9 => ?_)
                  · have h9 : (mrgL p (en t s x) (en t s y)).getD ((t.getD x []).getD s 0).toNat 0 ≠ (mrgL p (en t s x) (en t s y)).getD ((t.getD y []).getD s 0).toNat 0 := h9
                    rw [e3.1, e4.1, Int.toNat_natCast, Int.toNat_natCast] at h9
                    have hm := merge_fn (mrgL p (en t s x) (en t s y)) (en t x s) (en t y s) (by omega) (by omega) (by omega)
                    rw [← e3.1, ← e4.1] at hm
                    refine Or.inr (Or.inl (cm [] [(1000, 19)] hm ?_))
                    refine And.intro (by repeat' first | refine And.intro ?_ ?_ | exact True.intro | (show (_ : Int) = (_ : Int); omega) | omega | exact rfl | (simp only [RO.len]; omega)) ?_
                    refine And.intro (by omega) ?_
                    exact nx (s + 1, mrgL (mrgL p (en t s x) (en t s y)) (en t x s) (en t y s), true) ⟨by omega, hI1.mrg e3.2 e4.2 (.right h8 hsl hxl hyl hxy) h9 x y (s + 1)⟩ (show t.length - (s + 1) < t.length - s by omega) (by repeat' first | refine And.intro ?_ ?_ | exact True.intro | (show (_ : Int) = (_ : Int); omega) | omega | exact rfl | (simp only [RO.len]; omega))
                  · have h9 : (mrgL p (en t s x) (en t s y)).getD ((t.getD x []).getD s 0).toNat 0 = (mrgL p (en t s x) (en t s y)).getD ((t.getD y []).getD s 0).toNat 0 := h9
                    rw [e3.1, e4.1, Int.toNat_natCast, Int.toNat_natCast] at h9
                    refine And.intro (by omega) ?_
                    exact nx (s + 1, mrgL p (en t s x) (en t s y), true) ⟨by omega, hI1.chd x y (s + 1)⟩ (show t.length - (s + 1) < t.length - s by omega) (by repeat' first | refine And.intro ?_ ?_ | exact True.intro | (show (_ : Int) = (_ : Int); omega) | omega | exact rfl | (simp only [RO.len]; omega))
                · have h8 : side = 1 := h8
                  refine And.intro (by omega) ?_
                  exact nx (s + 1, mrgL p (en t s x) (en t s y), true) ⟨by omega, hI1.chd x y (s + 1)⟩ (show t.length - (s + 1) < t.length - s by omega) (by repeat' first | refine And.intro ?_ ?_ | exact True.intro | (show (_ : Int) = (_ : Int); omega) | omega | exact rfl | (simp only [RO.len]; omega))
              · have h7 : p.getD ((t.getD s []).getD x 0).toNat 0 = p.getD ((t.getD s []).getD y 0).toNat 0 := h7
                rw [e1.1, e2.1, Int.toNat_natCast, Int.toNat_natCast] at h7
                have hLok : side ≠ 2 → p.getD (en t s x) 0 = p.getD (en t s y) 0 := fun _ => h7
                have hpl1 : (p).length = t.length := by exact hpl
                refine Or.inl ?_
                refine Exists.intro [false, false, false, false, false, false, false, false, false, false, false, false, false, false, false, false] (And.intro (by decide +kernel) ?_)
                refine And.intro (by omega) ?_
                refine And.intro (show 0 ≤ (s : Int) ∧ (s : Int) < ((t.getD x []).length : Int) by omega) ?_
                refine And.intro (by omega) ?_
                refine And.intro (show 0 ≤ (s : Int) ∧ (s : Int) < ((t.getD y []).length : Int) by omega) ?_
                refine Or.inl ?_
                refine Exists.intro [false, false, false, false, false, false, false, false, false, false, false, false, false] (And.intro (by decide +kernel) ?_)
                refine And.intro (fun h8 => ?_) (fun h8 => ?_)
                · have h8 : side ≠ 1 := h8
                  refine And.intro (show 0 ≤ (t.getD x []).getD s 0 ∧ (t.getD x []).getD s 0 < ((p).length : Int) by omega) ?_
                  refine And.intro (show 0 ≤ (t.getD y []).getD s 0 ∧ (t.getD y []).getD s 0 < ((p).length : Int) by omega) ?_
                  refine And.intro (fun h9 => ?_) (fun h9 => ?_)
                  · have h9 : (p).getD ((t.getD x []).getD s 0).toNat 0 ≠ (p).getD ((t.getD y []).getD s 0).toNat 0 := h9
                    rw [e3.1, e4.1, Int.toNat_natCast, Int.toNat_natCast] at h9
                    have hm := merge_fn (p) (en t x s) (en t y s) (by omega) (by omega) (by omega)
                    rw [← e3.1, ← e4.1] at hm
                    refine Or.inr (Or.inl (cm [] [(1000, 19)] hm ?_))
                    refine And.intro (by repeat' first | refine And.intro ?_ ?_ | exact True.intro | (show (_ : Int) = (_ : Int); omega) | omega | exact rfl | (simp only [RO.len]; omega)) ?_
                    refine And.intro (by omega) ?_
                    exact nx (s + 1, mrgL (p) (en t x s) (en t y s), true) ⟨by omega, hI.mrg e3.2 e4.2 (.right h8 hsl hxl hyl hxy) h9 x y (s + 1)⟩ (show t.length - (s + 1) < t.length - s by omega) (by repeat' first | refine And.intro ?_ ?_ | exact True.intro | (show (_ : Int) = (_ : Int); omega) | omega | exact rfl | (simp only [RO.len]; omega))
                  · have h9 : (p).getD ((t.getD x []).getD s 0).toNat 0 = (p).getD ((t.getD y []).getD s 0).toNat 0 := h9
                    rw [e3.1, e4.1, Int.toNat_natCast, Int.toNat_natCast] at h9
                    refine And.intro (by omega) ?_
                    exact nx (s + 1, p, ch) ⟨by omega, hI.okS ⟨hLok, fun _ => h9⟩⟩ (show t.length - (s + 1) < t.length - s by omega) (by repeat' first | refine And.intro ?_ ?_ | exact True.intro | (show (_ : Int) = (_ : Int); omega) | omega | exact rfl | (simp only [RO.len]; omega))
                · have h8 : side = 1 := h8
                  refine And.intro (by omega) ?_
                  exact nx (s + 1, p, ch) ⟨by omega, hI.okS ⟨hLok, fun h => absurd h8 h⟩⟩ (show t.length - (s + 1) < t.length - s by omega) (by repeat' first | refine And.intro ?_ ?_ | exact True.intro | (show (_ : Int) = (_ : Int); omega) | omega | exact rfl | (simp only [RO.len]; omega))
            · have h6 : side = 2 := h6
              have hLok : side ≠ 2 → p.getD (en t s x) 0 = p.getD (en t s y) 0 := fun h => absurd h6 h
              have hpl1 : (p).length = t.length := by exact hpl
              refine Or.inl ?_
              refine Exists.intro [false, false, false, false, false, false, false, false, false, false, false, false, false, false, false, false] (And.intro (by decide +kernel) ?_)
              refine And.intro (by omega) ?_
              refine And.intro (show 0 ≤ (s : Int) ∧ (s : Int) < ((t.getD x []).length : Int) by omega) ?_
              refine And.intro (by omega) ?_
              refine And.intro (show 0 ≤ (s : Int) ∧ (s : Int) < ((t.getD y []).length : Int) by omega) ?_
              refine Or.inl ?_
              refine Exists.intro [false, false, false, false, false, false, false, false, false, false, false, false, false] (And.intro (by decide +kernel) ?_)
              refine And.intro (fun h8 => ?_) (fun h8 => ?_)
              · have h8 : side ≠ 1 := h8
                refine And.intro (show 0 ≤ (t.getD x []).getD s 0 ∧ (t.getD x []).getD s 0 < ((p).length : Int) by omega) ?_
                refine And.intro (show 0 ≤ (t.getD y []).getD s 0 ∧ (t.getD y []).getD s 0 < ((p).length : Int) by omega) ?_
                refine And.intro (fun h9 => ?_) (fun h9 => ?_)
                · have h9 : (p).getD ((t.getD x []).getD s 0).toNat 0 ≠ (p).getD ((t.getD y []).getD s 0).toNat 0 := h9
                  rw [e3.1, e4.1, Int.toNat_natCast, Int.toNat_natCast] at h9
                  have hm := merge_fn (p) (en t x s) (en t y s) (by omega) (by omega) (by omega)
                  rw [← e3.1, ← e4.1] at hm
                  refine Or.inr (Or.inl (cm [] [(1000, 19)] hm ?_))
                  refine And.intro (by repeat' first | refine And.intro ?_ ?_ | exact True.intro | (show (_ : Int) = (_ : Int); omega) | omega | exact rfl | (simp only [RO.len]; omega)) ?_
                  refine And.intro (by omega) ?_
                  exact nx (s + 1, mrgL (p) (en t x s) (en t y s), true) ⟨by omega, hI.mrg e3.2 e4.2 (.right h8 hsl hxl hyl hxy) h9 x y (s + 1)⟩ (show t.length - (s + 1) < t.length - s by omega) (by repeat' first | refine And.intro ?_ ?_ | exact True.intro | (show (_ : Int) = (_ : Int); omega) | omega | exact rfl | (simp only [RO.len]; omega))
                · have h9 : (p).getD ((t.getD x []).getD s 0).toNat 0 = (p).getD ((t.getD y []).getD s 0).toNat 0 := h9
                  rw [e3.1, e4.1, Int.toNat_natCast, Int.toNat_natCast] at h9
                  refine And.intro (by omega) ?_
                  exact nx (s + 1, p, ch) ⟨by omega, hI.okS ⟨hLok, fun _ => h9⟩⟩ (show t.length - (s + 1) < t.length - s by omega) (by repeat' first | refine And.intro ?_ ?_ | exact True.intro | (show (_ : Int) = (_ : Int); omega) | omega | exact rfl | (simp only [RO.len]; omega))
              · have h8 : side = 1 := h8
                refine And.intro (by omega) ?_
                exact nx (s + 1, p, ch) ⟨by omega, hI.okS ⟨hLok, fun h => absurd h8 h⟩⟩ (show t.length - (s + 1) < t.length - s by omega) (by repeat' first | refine And.intro ?_ ?_ | exact True.intro | (show (_ : Int) = (_ : Int); omega) | omega | exact rfl | (simp only [RO.len]; omega))
          · have h5 : p.getD x 0 ≠ p.getD y 0 := h5
            refine And.intro (by omega) ?_
            exact nx (y + 1, p, ch) ⟨by omega, hI.endS (.inr h5)⟩ (show x - (y + 1) < x - y by omega) (by repeat' first | refine And.intro ?_ ?_ | exact True.intro | (show (_ : Int) = (_ : Int); omega) | omega | exact rfl | (simp only [RO.len]; omega))
        · have h4 : (t.length : Int) ≤ (s : Int) := h4
          refine And.intro (by omega) ?_
          exact nx (y + 1, p, ch) ⟨by omega, hI.endS (.inl (by omega))⟩ (show x - (y + 1) < x - y by omega) (by repeat' first | refine And.intro ?_ ?_ | exact True.intro | (show (_ : Int) = (_ : Int); omega) | omega | exact rfl | (simp only [RO.len]; omega))
      · have h3 : (x : Int) ≤ (y : Int) := h3
        refine And.intro (by omega) ?_
        exact nx (x + 1, p2, ch2) ⟨by omega, hI2.endY (by omega)⟩ (show t.length - (x + 1) < t.length - x by omega) (by repeat' first | refine And.intro ?_ ?_ | exact True.intro | (show (_ : Int) = (_ : Int); omega) | omega | exact rfl | (simp only [RO.len]; omega))
    · have h2 : (t.length : Int) ≤ (x : Int) := h2
      refine nx (p1, ch1) ⟨hI1.b, fun h => by subst h; exact hI1.done (by omega)⟩ ?_ (by repeat' first | refine And.intro ?_ ?_ | exact True.intro | (show (_ : Int) = (_ : Int); omega) | omega | exact rfl | (simp only [RO.len]; omega))
      show classN p1 + b1 ch1 < classN p0 + b1 ch0
      rw [h1]
      have hle := hI1.le
      cases hc : ch1 with
      | true => have := hI1.cd hc; show classN p1 + 1 < classN p0 + 1; omega
      | false => show classN p1 + 0 < classN p0 + 1; omega
  · have h1 : ch0 = false := h1
    have e : (if p0.length ≤ 4096 then canon p0 else []) = genP t side (relP l) := by rw [if_pos (by omega)]; exact hdone h1
    refine Or.inl (cq (rcanon_fn p0) (And.intro rfl trivial) ?_)
    exact And.intro (And.intro (by omega) (congrArg (RO.ints .i64) e)) trivial
end Go.Proofs.Ytagdbfklniiabaa
end
section
/- Plain: the quotient of a table by a congruence. -/
namespace Go.Proofs.Ytagdbfklniiabaa
open Go Go.AM
section
variable {t : List (List Int)} {p : List Int}
theorem cls_lt (hp : canon p = p) {x : Nat} (hx : x < p.length) : 0 ≤ p.getD x 0 ∧ (p.getD x 0).toNat < classN p ∧ p.getD x 0 = ((p.getD x 0).toNat : Int) := by
  have := (valid_range hp (p.getD x 0)).2 (getD_mem hx)
  omega
theorem cls_some (hs : Sh t) (hl : p.length = t.length) : 0 < classN p := by
  have := hs.pos
  cases p with
  | nil => simp at hl; omega
  | cons a l =>
    have hm : a ∈ firsts (a :: l) := mem_firsts.2 (by simp)
    exact List.length_pos_of_mem hm
/-! ### How the rows are filled -/
end
end Go.Proofs.Ytagdbfklniiabaa
end
section
/- The reference's relations of Green (semigroupref15): contracts; the class of a table (semigroupref17). -/
namespace Go.Proofs.Ytagdbfklniiabaa
open Go Go.AM
set_option maxRecDepth 100000
def rowsB (n : Nat) (e : Nat → Nat → Bool) : List (List Bool) := (List.range n).map fun x => setB n (e x)
end Go.Proofs.Ytagdbfklniiabaa
end
section
/- The members of a set; regular matrices, by the reference. -/
namespace Go.Proofs.Ytagdbfklniiabaa
open Go Go.AM
set_option maxRecDepth 100000
def memTo (l : List Bool) (k : Nat) : List Int := ((List.range k).filter fun i => l.getD i false).map fun i : Nat => (i : Int)
def memV (l : List Bool) : List Int := memTo l l.length
theorem memTo_yes {l : List Bool} {k : Nat} (h : l.getD k false = true) : memTo l (k + 1) = memTo l k ++ [(k : Int)] := by
  unfold memTo; rw [List.range_succ, List.filter_append, List.map_append, List.filter_cons_of_pos (p := fun i => l.getD i false) h]; rfl
theorem memTo_no {l : List Bool} {k : Nat} (h : l.getD k false = false) : memTo l (k + 1) = memTo l k := by
  unfold memTo; rw [List.range_succ, List.filter_append, List.map_append, List.filter_cons_of_neg (p := fun i => l.getD i false) (by rw [h]; decide)]; exact List.append_nil _
theorem memTo_len {l : List Bool} {k : Nat} : (memTo l k).length ≤ k := by
  unfold memTo; rw [List.length_map]
  exact Nat.le_trans (List.length_filter_le _ _) (by simp)
end Go.Proofs.Ytagdbfklniiabaa
end
section
/- Ideals of a table: plain. -/
namespace Go.Proofs.Ytagdbfklniiabaa
open Go Go.AM
open Classical
def setI (l : List Int) (x : Nat) : Bool := l.contains (x : Int)
theorem setI_iff {l : List Int} {x : Nat} : setI l x = true ↔ (x : Int) ∈ l := List.contains_iff_mem
theorem memV_mem {l : List Bool} {x : Int} : x ∈ memV l ↔ ∃ i : Nat, i < l.length ∧ l.getD i false = true ∧ x = (i : Int) := by
  unfold memV memTo
  simp only [List.mem_map, List.mem_filter, List.mem_range]
  constructor
  · rintro ⟨i, ⟨h1, h2⟩, rfl⟩; exact ⟨i, h1, h2, rfl⟩
  · rintro ⟨i, h1, h2, rfl⟩; exact ⟨i, ⟨h1, h2⟩, rfl⟩
def ascV (n : Nat) (f : Nat → Bool) : List Int := memV (setB n f)
theorem ascV_mem {n : Nat} {f : Nat → Bool} {x : Int} : x ∈ ascV n f ↔ ∃ i : Nat, i < n ∧ f i = true ∧ x = (i : Int) := by
  unfold ascV
  rw [memV_mem, setB_len]
  constructor
  · rintro ⟨i, h1, h2, h3⟩; rw [setB_get h1] at h2; exact ⟨i, h1, h2, h3⟩
  · rintro ⟨i, h1, h2, h3⟩; exact ⟨i, h1, by rw [setB_get h1]; exact h2, h3⟩
theorem ascV_len (n : Nat) (f : Nat → Bool) : (ascV n f).length ≤ n := by
  have h := memTo_len (l := setB n f) (k := (setB n f).length)
  rw [setB_len] at h
  unfold ascV memV
  rw [setB_len]; exact h
theorem set_iff {r : List Bool} {n i : Nat} {Q : Nat → Prop} (hl : r.length = n) (h : ∀ x, x < n → (r.getD x false = true ↔ Q x)) (hi : i < n) : (r.set i true).length = n ∧ ∀ x, x < n → ((r.set i true).getD x false = true ↔ (Q x ∨ x = i)) :=
  ⟨by rw [List.length_set]; exact hl, fun x hx => by
    by_cases e : x = i
    · subst e; rw [getD_set_eq (by omega)]; simp
    · rw [getD_set_ne (Ne.symm e), h x hx]; simp [e]⟩
theorem setB_ofP {r : List Bool} {n : Nat} {f : Nat → Bool} (hl : r.length = n) (h : ∀ x, x < n → (r.getD x false = true ↔ f x = true)) : r = setB n f :=
  setB_of hl fun x hx => Bool.eq_iff_iff.2 (h x hx)
def inT (t : List (List Int)) (l : List Int) : Prop := ∀ x ∈ l, 0 ≤ x ∧ x < (t.length : Int)
instance (t : List (List Int)) (l : List Int) : Decidable (inT t l) := by unfold inT; infer_instance
def IdF (t : List (List Int)) (f : Nat → Bool) : Prop := ∀ x s, x < t.length → s < t.length → f x = true → f (en t x s) = true ∧ f (en t s x) = true
def Asc (l : List Int) : Prop := ∀ i, i + 1 < l.length → l.getD i 0 < l.getD (i + 1) 0
def IdL (t : List (List Int)) (l : List Int) : Prop := 0 < l.length ∧ Asc l ∧ inT t l ∧ IdF t (setI l)
noncomputable def idB (t : List (List Int)) (l : List Int) : Bool := decide (IdL t l)
theorem idB_true {t : List (List Int)} {l : List Int} : idB t l = true ↔ IdL t l := by unfold idB; exact decide_eq_true_iff
theorem idB_false {t : List (List Int)} {l : List Int} : idB t l = false ↔ ¬ IdL t l := by unfold idB; exact decide_eq_false_iff_not
noncomputable def ascB (t : List (List Int)) (l : List Int) : Bool := decide (0 < l.length ∧ Asc l ∧ inT t l)
theorem ascB_true {t : List (List Int)} {l : List Int} : ascB t l = true ↔ 0 < l.length ∧ Asc l ∧ inT t l := by unfold ascB; exact decide_eq_true_iff
theorem ascB_false {t : List (List Int)} {l : List Int} : ascB t l = false ↔ ¬ (0 < l.length ∧ Asc l ∧ inT t l) := by unfold ascB; exact decide_eq_false_iff_not
structure AscTo (t : List (List Int)) (l : List Int) (i : Nat) : Prop where
  le : i ≤ l.length
  ins : ∀ j, j < i → 0 ≤ l.getD j 0 ∧ l.getD j 0 < (t.length : Int)
  asc : ∀ j, j + 1 < i → l.getD j 0 < l.getD (j + 1) 0
theorem AscTo.start {t : List (List Int)} {l : List Int} : AscTo t l 0 := ⟨Nat.zero_le _, fun j hj => absurd hj (Nat.not_lt_zero _), fun j hj => by omega⟩
theorem AscTo.next {t : List (List Int)} {l : List Int} {i : Nat} (h : AscTo t l i) (hi : i < l.length) (h1 : 0 ≤ l.getD i 0) (h2 : l.getD i 0 < (t.length : Int)) (h3 : 0 < i → l.getD (i - 1) 0 < l.getD i 0) : AscTo t l (i + 1) :=
  ⟨hi, fun j hj => by
    by_cases e : j = i
    · subst e; exact ⟨h1, h2⟩
    · exact h.ins j (by omega), fun j hj => by
    by_cases e : j + 1 = i
    · subst e; exact h3 (by omega)
    · exact h.asc j (by omega)⟩
theorem AscTo.done {t : List (List Int)} {l : List Int} {i : Nat} (h : AscTo t l i) (hi : l.length ≤ i) : Asc l ∧ inT t l := by
  have e : i = l.length := Nat.le_antisymm h.le hi
  subst e
  refine ⟨fun j hj => h.asc j hj, fun x hx => ?_⟩
  obtain ⟨j, hj, rfl⟩ := mem_getD 0 hx
  exact h.ins j hj
end Go.Proofs.Ytagdbfklniiabaa
end
section
/- Orders by a comparison; sorted lists; the lexicographic order and the order by size. Plain. -/
namespace Go.Proofs.Ytagdbfklniiabaa
open Go Go.AM
structure TotC {α : Type} (c : α → α → Int) : Prop where
  swap : ∀ a b, c b a = - c a b
  eq : ∀ a b, c a b = 0 → a = b
  trans : ∀ a b d, c a b < 0 → c b d < 0 → c a d < 0
theorem TotC.self {α : Type} {c : α → α → Int} (h : TotC c) (a : α) : c a a = 0 := by have := h.swap a a; omega
def cmpI (a b : Int) : Int := if a < b then -1 else if b < a then 1 else 0
theorem cmpI_tot : TotC cmpI where
  swap a b := by unfold cmpI; split <;> split <;> (try split) <;> omega
  eq a b := by unfold cmpI; split <;> (try split) <;> omega
  trans a b d := by unfold cmpI; intro h1 h2; split at h1 <;> (try split at h1) <;> split at h2 <;> (try split at h2) <;> first | omega | (rw [if_pos (by omega)]; omega)
def cmpL : List Int → List Int → Int
  | [], [] => 0 | [], _ :: _ => -1 | _ :: _, [] => 1 | a :: l, b :: m => if cmpI a b ≠ 0 then cmpI a b else cmpL l m
theorem cmpL_swap : ∀ a b : List Int, cmpL b a = - cmpL a b
  | [], [] => rfl
  | [], _ :: _ => rfl
  | _ :: _, [] => rfl
  | a :: l, b :: m => by
    have e := cmpI_tot.swap a b
    have ih := cmpL_swap l m
    simp only [cmpL]
    by_cases h : cmpI a b = 0
    · rw [if_neg (by omega), if_neg (by omega), ih]
    · rw [if_pos (by omega), if_pos h, e]
theorem cmpL_eq : ∀ a b : List Int, cmpL a b = 0 → a = b
  | [], [], _ => rfl
  | [], _ :: _, h => by simp [cmpL] at h
  | _ :: _, [], h => by simp [cmpL] at h
  | a :: l, b :: m, h => by
    simp only [cmpL] at h
    by_cases h0 : cmpI a b = 0
    · rw [if_neg (by omega)] at h
      rw [cmpI_tot.eq a b h0, cmpL_eq l m h]
    · rw [if_pos h0] at h; exact absurd h h0
theorem cmpL_trans : ∀ a b d : List Int, cmpL a b < 0 → cmpL b d < 0 → cmpL a d < 0
  | [], [], _, h, _ => by simp [cmpL] at h
  | [], _ :: _, [], _, h => by simp [cmpL] at h
  | [], _ :: _, _ :: _, _, _ => by simp [cmpL]
  | _ :: _, [], _, h, _ => by simp [cmpL] at h
  | _ :: _, _ :: _, [], _, h => by simp [cmpL] at h
  | a :: l, b :: m, d :: n, h1, h2 => by
    simp only [cmpL] at h1 h2 ⊢
    have ih := cmpL_trans l m n
    by_cases e1 : cmpI a b = 0
    · rw [if_neg (by omega)] at h1
      obtain rfl := cmpI_tot.eq a b e1
      by_cases e2 : cmpI a d = 0
      · rw [if_neg (by omega)] at h2 ⊢; exact ih h1 h2
      · rw [if_pos e2] at h2 ⊢; exact h2
    · rw [if_pos e1] at h1
      by_cases e2 : cmpI b d = 0
      · obtain rfl := cmpI_tot.eq b d e2
        rw [if_pos e1]; exact h1
      · rw [if_pos e2] at h2
        have := cmpI_tot.trans a b d h1 h2
        rw [if_pos (by omega)]; exact this
theorem cmpL_tot : TotC cmpL := ⟨cmpL_swap, cmpL_eq, cmpL_trans⟩
def Srt {α : Type} (c : α → α → Int) (l : List α) : Prop := l.Pairwise fun a b => c a b < 0
def srt {α : Type} (c : α → α → Int) (l : List α) : List α := l.mergeSort fun a b => decide (c a b ≤ 0)
section
variable {α : Type} {c : α → α → Int}
theorem Srt.nodup (h : TotC c) {l : List α} (hs : Srt c l) : l.Nodup := hs.imp fun {a b} hab e => by subst e; have := h.self a; omega
theorem le_trans' (h : TotC c) {a b d : α} (h1 : c a b ≤ 0) (h2 : c b d ≤ 0) : c a d ≤ 0 := by
  by_cases e1 : c a b = 0
  · obtain rfl := h.eq _ _ e1; exact h2
  · by_cases e2 : c b d = 0
    · obtain rfl := h.eq _ _ e2; exact h1
    · have := h.trans a b d (by omega) (by omega); omega
theorem srt_perm (l : List α) : (srt c l).Perm l := List.mergeSort_perm _ _
theorem srt_mem {l : List α} {x : α} : x ∈ srt c l ↔ x ∈ l := (srt_perm l).mem_iff
theorem srt_len (l : List α) : (srt c l).length = l.length := (srt_perm l).length_eq
theorem srt_le (h : TotC c) (l : List α) : (srt c l).Pairwise fun a b => c a b ≤ 0 := by
  have := List.pairwise_mergeSort (le := fun a b => decide (c a b ≤ 0)) (fun a b d h1 h2 => decide_eq_true (le_trans' h (of_decide_eq_true h1) (of_decide_eq_true h2)))
    (fun a b => by
      have := h.swap a b
      by_cases h0 : c a b ≤ 0
      · simp [h0]
      · have : c b a ≤ 0 := by omega
        simp [this]) l
  exact this.imp fun {a b} hab => of_decide_eq_true hab
theorem srt_srt (h : TotC c) {l : List α} (hn : l.Nodup) : Srt c (srt c l) := by
  have h1 := srt_le h l
  have h2 : (srt c l).Nodup := (srt_perm l).nodup_iff.2 hn
  have := h1.and h2
  refine this.imp fun {a b} hab => ?_
  have : c a b ≠ 0 := fun e => hab.2 (h.eq _ _ e)
  omega
theorem perm_sorted (h : TotC c) : ∀ {l m : List α}, l.Pairwise (fun a b => c a b ≤ 0) → m.Pairwise (fun a b => c a b ≤ 0) → l.Perm m → l = m
  | [], m, _, _, hp => by rw [List.nil_perm.1 hp]
  | a :: l, [], _, _, hp => by have := hp.length_eq; simp at this
  | a :: l, b :: m, h1, h2, hp => by
    have h1' := List.pairwise_cons.1 h1
    have h2' := List.pairwise_cons.1 h2
    have e : a = b := by
      have ha : a ∈ b :: m := hp.mem_iff.1 (by simp)
      have hb : b ∈ a :: l := hp.mem_iff.2 (by simp)
      rcases List.mem_cons.1 ha with e | ha
      · exact e
      · rcases List.mem_cons.1 hb with e | hb
        · exact e.symm
        · have g1 := h2'.1 a ha
          have g2 := h1'.1 b hb
          have := h.swap a b
          exact h.eq _ _ (by omega)
    subst e
    rw [perm_sorted h h1'.2 h2'.2 hp.cons_inv]
theorem sorted_uniq (h : TotC c) {l m : List α} (hl : Srt c l) (hm : Srt c m) (he : ∀ x, x ∈ l ↔ x ∈ m) : l = m :=
  perm_sorted h (hl.imp fun h => by omega) (hm.imp fun h => by omega) ((List.perm_ext_iff_of_nodup (hl.nodup h) (hm.nodup h)).2 he)
end
theorem cmpL_at : ∀ {a b : List Int} {i : Nat}, (∀ j, j < i → a.getD j 0 = b.getD j 0) → i ≤ a.length → i ≤ b.length → cmpL a b = cmpL (a.drop i) (b.drop i)
  | a, b, 0, _, _, _ => by simp
  | [], _, i + 1, _, h, _ => by simp at h
  | _ :: _, [], i + 1, _, _, h => by simp at h
  | x :: a, y :: b, i + 1, h, h1, h2 => by
    have e : x = y := by simpa using h 0 (by omega)
    subst e
    rw [List.drop_succ_cons, List.drop_succ_cons, ← cmpL_at (a := a) (b := b) (i := i) (fun j hj => by simpa using h (j + 1) (by omega)) (by simpa using h1) (by simpa using h2)]
    simp [cmpL, cmpI_tot.self]
theorem cmpL_here {a b : List Int} {i : Nat} (h : ∀ j, j < i → a.getD j 0 = b.getD j 0) (h1 : i < a.length) (h2 : i < b.length) (hne : a.getD i 0 ≠ b.getD i 0) : cmpL a b = cmpI (a.getD i 0) (b.getD i 0) := by
  rw [cmpL_at h (by omega) (by omega), List.drop_eq_getElem_cons h1, List.drop_eq_getElem_cons h2]
  rw [getD_eq h1, getD_eq h2] at *
  simp only [cmpL]
  rw [if_pos fun e => hne (cmpI_tot.eq _ _ e)]
theorem cmpL_end {a b : List Int} {i : Nat} (h : ∀ j, j < i → a.getD j 0 = b.getD j 0) (h1 : i ≤ a.length) (h2 : i ≤ b.length) (he : i = a.length ∨ i = b.length) : cmpL a b = cmpI a.length b.length := by
  rw [cmpL_at h h1 h2]
  unfold cmpI
  rcases he with he | he
  · rw [List.drop_of_length_le (by omega)]
    cases hb : b.drop i with
    | nil =>
      have := congrArg List.length hb
      simp at this
      rw [if_neg (by omega), if_neg (by omega)]; rfl
    | cons =>
      have := congrArg List.length hb
      simp at this
      rw [if_pos (by omega)]; rfl
  · rw [show b.drop i = [] from List.drop_of_length_le (by omega)]
    cases ha : a.drop i with
    | nil =>
      have := congrArg List.length ha
      simp at this
      rw [if_neg (by omega), if_neg (by omega)]; rfl
    | cons =>
      have := congrArg List.length ha
      simp at this
      rw [if_neg (by omega), if_pos (by omega)]; rfl
noncomputable def insC {α : Type} (c : α → α → Int) (l : List α) (x : α) : List α := open Classical in if x ∈ l then l else srt c (x :: l)
section
variable {α : Type} {c : α → α → Int}
theorem insC_mem {l : List α} {x y : α} : y ∈ insC c l x ↔ y = x ∨ y ∈ l := by
  unfold insC
  split
  · rename_i h; exact ⟨.inr, fun h' => h'.elim (fun e => by rw [e]; exact h) id⟩
  · rw [srt_mem, List.mem_cons]
theorem insC_srt (h : TotC c) {l : List α} {x : α} (hl : Srt c l) : Srt c (insC c l x) := by
  unfold insC
  split
  · exact hl
  · rename_i hx; exact srt_srt h (List.nodup_cons.2 ⟨hx, hl.nodup h⟩)
theorem insC_len (l : List α) (x : α) : (insC c l x).length ≤ l.length + 1 := by
  unfold insC
  split
  · omega
  · rw [srt_len]; simp
theorem insC_at (h : TotC c) {l : List α} {x d : α} (hl : Srt c l) {i : Nat} (hi : i ≤ l.length) (h1 : ∀ j, i ≤ j → j < l.length → c x (l.getD j d) < 0) (h2 : 0 < i → c (l.getD (i - 1) d) x < 0) : l.take i ++ [x] ++ l.drop i = insC c l x := by
  have low : ∀ j, j < i → c (l.getD j d) x < 0 := fun j hj => by
    by_cases e : j = i - 1
    · rw [e]; exact h2 (by omega)
    · have hp := List.pairwise_iff_getElem.1 hl j (i - 1) (by omega) (by omega) (by omega)
      rw [getD_eq (by omega)]
      have := h2 (by omega)
      rw [getD_eq (by omega)] at this
      exact h.trans _ _ _ hp this
  refine sorted_uniq h ?_ (insC_srt h hl) fun y => ?_
  · unfold Srt
    rw [List.append_assoc, List.pairwise_append]
    refine ⟨hl.sublist (List.take_sublist _ _), ?_, fun a ha b hb => ?_⟩
    · rw [List.singleton_append, List.pairwise_cons]
      refine ⟨fun b hb => ?_, hl.sublist (List.drop_sublist _ _)⟩
      obtain ⟨j, hj, e⟩ := mem_getD d hb
      rw [List.length_drop] at hj
      have := h1 (i + j) (by omega) (by omega)
      rw [← e]
      simpa [List.getD] using this
    · obtain ⟨j, hj, e⟩ := mem_getD d ha
      rw [List.length_take] at hj
      have hx := low j (by omega)
      have ea : a = l.getD j d := by rw [← e]; simp [List.getD, show j < i by omega]
      rw [ea]
      rw [List.singleton_append, List.mem_cons] at hb
      rcases hb with rfl | hb
      · exact hx
      · obtain ⟨k, hk, e'⟩ := mem_getD d hb
        rw [List.length_drop] at hk
        have := h1 (i + k) (by omega) (by omega)
        rw [← e']
        have e2 : (l.drop i).getD k d = l.getD (i + k) d := by simp [List.getD]
        rw [e2]
        exact h.trans _ _ _ hx this
  · rw [insC_mem, List.append_assoc, List.mem_append, List.singleton_append, List.mem_cons]
    have := List.take_append_drop i l
    constructor
    · rintro (hy | rfl | hy)
      · exact .inr (List.mem_of_mem_take hy)
      · exact .inl rfl
      · exact .inr (List.mem_of_mem_drop hy)
    · rintro (rfl | hy)
      · exact .inr (.inl rfl)
      · rw [← this, List.mem_append] at hy
        exact hy.elim .inl fun hy => .inr (.inr hy)
theorem insC_in {l : List α} {x : α} (h : x ∈ l) : insC c l x = l := by unfold insC; rw [if_pos h]
end
end Go.Proofs.Ytagdbfklniiabaa
end
section
/- All ideals of a small table: plain. Sets as a word of bits. -/
namespace Go.Proofs.Ytagdbfklniiabaa
open Go Go.AM
open Classical
theorem pairwise_adj {l : List Int} (h : Asc l) : l.Pairwise (· < ·) := by
  rw [List.pairwise_iff_getElem]
  have key : ∀ d i, i + d + 1 < l.length → l.getD i 0 < l.getD (i + d + 1) 0 := by
    intro d
    induction d with
    | zero => intro i hi; exact h i hi
    | succ d ih => intro i hi; have h1 := ih i (by omega); have h2 := h (i + d + 1) (by omega); rw [show i + (d + 1) + 1 = i + d + 1 + 1 by omega]; omega
  intro i j hi hj hij
  have := key (j - i - 1) i (by omega)
  rw [show i + (j - i - 1) + 1 = j by omega, getD_eq hi, getD_eq hj] at this
  exact this
theorem asc_of {l : List Int} (h : l.Pairwise (· < ·)) : Asc l := fun i hi => by
  rw [getD_eq (by omega), getD_eq hi]
  exact List.pairwise_iff_getElem.1 h i (i + 1) (by omega) hi (by omega)
theorem asc_ext {l m : List Int} (hl : Asc l) (hm : Asc m) (h : ∀ x, x ∈ l ↔ x ∈ m) : l = m := by
  have c : ∀ a b : Int, cmpI a b < 0 ↔ a < b := fun a b => by unfold cmpI; split <;> (try split) <;> omega
  exact sorted_uniq cmpI_tot ((pairwise_adj hl).imp fun hab => (c _ _).2 hab) ((pairwise_adj hm).imp fun hab => (c _ _).2 hab) h
theorem ascV_asc (n : Nat) (f : Nat → Bool) : Asc (ascV n f) := by
  refine asc_of ?_
  unfold ascV memV memTo
  rw [List.pairwise_map]
  refine List.Pairwise.imp ?_ (List.Pairwise.sublist List.filter_sublist List.pairwise_lt_range)
  intro a b h; exact_mod_cast h
theorem ascV_self {n : Nat} {l : List Int} (h : Asc l) (hl : ∀ x ∈ l, 0 ≤ x ∧ x < (n : Int)) : ascV n (setI l) = l := by
  refine asc_ext (ascV_asc _ _) h fun x => ?_
  rw [ascV_mem]
  constructor
  · rintro ⟨i, _, h2, rfl⟩; exact setI_iff.1 h2
  · intro hx
    have := hl x hx
    exact ⟨x.toNat, by omega, setI_iff.2 (by rw [Int.toNat_of_nonneg this.1]; exact hx), by omega⟩
theorem IdL.self {t : List (List Int)} {l : List Int} (h : IdL t l) : ascV t.length (setI l) = l := ascV_self h.2.1 h.2.2.1
/-! ### The list of all ideals -/
/-! ### Sets as words -/
end Go.Proofs.Ytagdbfklniiabaa
end
section
/- The Rees quotient of a table by an ideal: plain. -/
namespace Go.Proofs.Ytagdbfklniiabaa
open Go Go.AM
def nonTo (t : List (List Int)) (l : List Int) (k : Nat) : List Int := memTo (setB t.length fun x => !setI l x) k
def restTo (t : List (List Int)) (l : List Int) (k : Nat) : List Int := l.getD 0 0 :: nonTo t l k
def restQ (t : List (List Int)) (l : List Int) : List Int := restTo t l t.length
end Go.Proofs.Ytagdbfklniiabaa
end
section
/- The Rees quotient is a semigroup with zero, and the map to it is a homomorphism: plain. -/
namespace Go.Proofs.Ytagdbfklniiabaa
open Go Go.AM
theorem rest_length (t : List (List Int)) (l : List Int) : (restQ t l).length = (nonTo t l t.length).length + 1 := by simp [restQ, restTo]
theorem memTo_not {n : Nat} (f : Nat → Bool) : ∀ k, k ≤ n → (memTo (setB n f) k).length + (memTo (setB n fun x => !f x) k).length = k
  | 0, _ => by simp [memTo]
  | k + 1, h => by
    have ih := memTo_not (n := n) f k (by omega)
    cases e : f k with
    | true => rw [memTo_yes (by rw [setB_get (by omega), e]), memTo_no (by rw [setB_get (by omega), e]; rfl), List.length_append, List.length_singleton]; omega
    | false => rw [memTo_no (by rw [setB_get (by omega), e]), memTo_yes (by rw [setB_get (by omega), e]; rfl), List.length_append, List.length_singleton]; omega
theorem rest_count {t : List (List Int)} {l : List Int} (hl : IdL t l) : (restQ t l).length + l.length = t.length + 1 := by
  have h := memTo_not (n := t.length) (setI l) t.length (Nat.le_refl _)
  have e : (memTo (setB t.length (setI l)) t.length).length = l.length := by
    have := congrArg List.length hl.self
    unfold ascV memV at this
    rwa [setB_len] at this
  rw [rest_length]; unfold nonTo; omega
end Go.Proofs.Ytagdbfklniiabaa
end
section
/- Plain: subgroups, what elements generate, conjugates, cosets. -/
namespace Go.Proofs.Ytagdbfklniiabaa
section
/-! ### Subgroups -/
end
/-! ### Generating, step by step -/
theorem nodup_len {n : Nat} {l : List Int} (hn : l.Nodup) (h : ∀ x ∈ l, 0 ≤ x ∧ x < (n : Int)) : l.length ≤ n := by
  have := hn.length_le_of_subset (l₂ := disI n) fun x hx => mem_disI.2 (h x hx)
  rwa [disI_len] at this
/-! ### What was collected -/
/-! ### Closing under products, pass by pass -/
/-! ### The reference's lists -/
end Go.Proofs.Ytagdbfklniiabaa
end
