/- The reference's generated congruence: contract. -/
import Derived.Test.YteopelpnpdbbcaaRefCgL
import Derived.Test.YteopelpnpdbbcaaRefCgG
namespace Go.Proofs.Yteopelpnpdbbcaa
open Go Go.AM
set_option maxRecDepth 100000
def b1 (b : Bool) : Nat := match b with | true => 1 | false => 0
set_option maxHeartbeats 2000000 in
theorem rgnr_k (t : List (List Int)) (l : List (Int × Int)) (side : Int) (hs : Sh t) (hl : inW t.length l) : fnK TY SP Try.f29 [.ro (.rows .i64 t), .ro (.pairs l), .int .i64 side] (.new (.ints .i64 (genP t side (relP l)))) := by
  have hmost := hs.most
  refine Or.inl (cq (rpairs_fn t.length (by omega) l hl) (And.intro rfl (And.intro rfl trivial)) ?_)
  refine Exists.intro [] <| lp2 (fun (_ : List Int) (ch : Bool) => [(8, .bool (.v ch))]) (fun p _ => [(19, .vec 0 (.ints .i64 p) [])]) (fun p ch => RcB t side (relP l) p ∧ (ch = false → canon p = genP t side (relP l))) (fun p ch => classN p + b1 ch) (eqP t.length (relP l)) true ⟨RcB.ofPairs hl, fun h => by cases h⟩ (by repeat' first | refine And.intro ?_ ?_ | exact True.intro | (show (_ : Int) = (_ : Int); omega) | omega | exact rfl | (simp only [RO.len]; omega)) ?_
  rintro p0 ch0 ⟨hB, hdone⟩
  have hp0 := hB.len
  refine And.intro (fun h1 => ?_) (fun h1 => ?_)
  · have h1 : ch0 = true := h1
    refine Exists.intro [] <| lp3 (fun (x : Nat) (_ : List Int) (ch : Bool) => [(23, .int .i64 x), (8, .bool (.v ch))]) (fun _ p _ => [(19, .vec 0 (.ints .i64 p) [])]) (fun x p ch => x ≤ t.length ∧ RcI t side (relP l) p0 p ch x 0 0) (fun x _ _ => t.length - x) 0 p0 false ⟨Nat.zero_le _, RcI.start hB⟩ (by repeat' first | refine And.intro ?_ ?_ | exact True.intro | (show (_ : Int) = (_ : Int); omega) | omega | exact rfl | (simp only [RO.len]; omega)) ?_
    rintro x p1 ch1 ⟨hx, hI1⟩
    refine And.intro (fun h2 => ?_) (fun h2 => ?_)
    · have h2 : (x : Int) < (t.length : Int) := h2
      have hxl : x < t.length := by omega
      refine Exists.intro [] <| lp3 (fun (y : Nat) (_ : List Int) (ch : Bool) => [(10, .int .i64 y), (8, .bool (.v ch))]) (fun _ p _ => [(19, .vec 0 (.ints .i64 p) [])]) (fun y p ch => y ≤ x ∧ RcI t side (relP l) p0 p ch x y 0) (fun y _ _ => x - y) 0 p1 ch1 ⟨Nat.zero_le _, hI1⟩ (by repeat' first | refine And.intro ?_ ?_ | exact True.intro | (show (_ : Int) = (_ : Int); omega) | omega | exact rfl | (simp only [RO.len]; omega)) ?_
      rintro y p2 ch2 ⟨hy, hI2⟩
      refine And.intro (fun h3 => ?_) (fun h3 => ?_)
      · have h3 : (y : Int) < (x : Int) := h3
        have hyl : y < t.length := by omega
        refine Exists.intro [] <| lp3 (fun (s : Nat) (_ : List Int) (ch : Bool) => [(11, .int .i64 s), (8, .bool (.v ch))]) (fun _ p _ => [(19, .vec 0 (.ints .i64 p) [])]) (fun s p ch => s ≤ t.length ∧ RcI t side (relP l) p0 p ch x y s) (fun s _ _ => t.length - s) 0 p2 ch2 ⟨Nat.zero_le _, hI2⟩ (by repeat' first | refine And.intro ?_ ?_ | exact True.intro | (show (_ : Int) = (_ : Int); omega) | omega | exact rfl | (simp only [RO.len]; omega)) ?_
        rintro s p ch ⟨hsn, hI⟩
        have hpl := hI.b.len
        refine Or.inl ?_
        refine Exists.intro [false, false, false, false, false, false, false, false, false, false, false, false, false, false, false] (And.intro (by decide +kernel) ?_)
        refine And.intro (fun h4 => ?_) (fun h4 => ?_)
        · have h4 : (s : Int) < (t.length : Int) := h4
          have hsl : s < t.length := by omega
          refine And.intro (show 0 ≤ (x : Int) ∧ (x : Int) < (p.length : Int) by omega) ?_
          refine And.intro (show 0 ≤ (y : Int) ∧ (y : Int) < (p.length : Int) by omega) ?_
          refine And.intro (fun h5 => ?_) (fun h5 => ?_)
          · have h5 : p.getD x 0 = p.getD y 0 := h5
            have hxy := hI.b.up x y hxl hyl h5
            have e1 := hs.ent hsl hxl
            have e2 := hs.ent hsl hyl
            have e3 := hs.ent hxl hsl
            have e4 := hs.ent hyl hsl
            have r1 := hs.len hsl
            have r2 := hs.len hxl
            have r3 := hs.len hyl
            refine Or.inl ?_
            refine Exists.intro [false, false, false, false, false, false, false, false, false, false, false, false, false, false, false, false] (And.intro (by decide +kernel) ?_)
            refine And.intro (by omega) ?_
            refine And.intro (show 0 ≤ (x : Int) ∧ (x : Int) < ((t.getD s []).length : Int) by omega) ?_
            refine And.intro (by omega) ?_
            refine And.intro (show 0 ≤ (y : Int) ∧ (y : Int) < ((t.getD s []).length : Int) by omega) ?_
            refine Or.inl ?_
            refine Exists.intro [false, false, false, false, false, false, false, false, false, false, false, false, false] (And.intro (by decide +kernel) ?_)
            refine And.intro (fun h6 => ?_) (fun h6 => ?_)
            · have h6 : side ≠ 2 := h6
              refine And.intro (show 0 ≤ (t.getD s []).getD x 0 ∧ (t.getD s []).getD x 0 < (p.length : Int) by omega) ?_
              refine And.intro (show 0 ≤ (t.getD s []).getD y 0 ∧ (t.getD s []).getD y 0 < (p.length : Int) by omega) ?_
              refine And.intro (fun h7 => ?_) (fun h7 => ?_)
              · have h7 : p.getD ((t.getD s []).getD x 0).toNat 0 ≠ p.getD ((t.getD s []).getD y 0).toNat 0 := h7
                rw [e1.1, e2.1, Int.toNat_natCast, Int.toNat_natCast] at h7
                have hm := merge_fn p (en t s x) (en t s y) (by omega) (by omega) (by omega)
                rw [← e1.1, ← e2.1] at hm
                have hI1 := hI.mrg e1.2 e2.2 (.left h6 hsl hxl hyl hxy) h7 x y s
                refine Or.inr (Or.inl (cm [] [(1000, 19)] hm ?_))
                refine And.intro (by repeat' first | refine And.intro ?_ ?_ | exact True.intro | (show (_ : Int) = (_ : Int); omega) | omega | exact rfl | (simp only [RO.len]; omega)) ?_
                have hpl1 : (mrgL p (en t s x) (en t s y)).length = t.length := by rw [mrgL_len]; exact hpl
                refine Or.inl ?_
                refine Exists.intro [false, false, false, false, false, false, false, false, false, false, false, false, false, false, false, false] (And.intro (by decide +kernel) ?_)
                refine And.intro (by omega) ?_
                refine And.intro (show 0 ≤ (s : Int) ∧ (s : Int) < ((t.getD x []).length : Int) by omega) ?_
                refine And.intro (by omega) ?_
                refine And.intro (show 0 ≤ (s : Int) ∧ (s : Int) < ((t.getD y []).length : Int) by omega) ?_
                refine Or.inl ?_
                refine Exists.intro [false, false, false, false, false, false, false, false, false, false, false, false, false] (And.intro (by decide +kernel) ?_)
                refine And.intro (fun h8 => ?_) (fun h8 => ?_)
                · have h8 : side ≠ 1 := h8
                  refine And.intro (show 0 ≤ (t.getD x []).getD s 0 ∧ (t.getD x []).getD s 0 < ((mrgL p (en t s x) (en t s y)).length : Int) by omega) ?_
                  refine And.intro (show 0 ≤ (t.getD y []).getD s 0 ∧ (t.getD y []).getD s 0 < ((mrgL p (en t s x) (en t s y)).length : Int) by omega) ?_
                  refine And.intro (fun h9 => ?_) (fun h9 => ?_)
                  · have h9 : (mrgL p (en t s x) (en t s y)).getD ((t.getD x []).getD s 0).toNat 0 ≠ (mrgL p (en t s x) (en t s y)).getD ((t.getD y []).getD s 0).toNat 0 := h9
                    rw [e3.1, e4.1, Int.toNat_natCast, Int.toNat_natCast] at h9
                    have hm := merge_fn (mrgL p (en t s x) (en t s y)) (en t x s) (en t y s) (by omega) (by omega) (by omega)
                    rw [← e3.1, ← e4.1] at hm
                    refine Or.inr (Or.inl (cm [] [(1000, 19)] hm ?_))
                    refine And.intro (by repeat' first | refine And.intro ?_ ?_ | exact True.intro | (show (_ : Int) = (_ : Int); omega) | omega | exact rfl | (simp only [RO.len]; omega)) ?_
                    refine And.intro (by omega) ?_
                    exact nx (s + 1, mrgL (mrgL p (en t s x) (en t s y)) (en t x s) (en t y s), true) ⟨by omega, hI1.mrg e3.2 e4.2 (.right h8 hsl hxl hyl hxy) h9 x y (s + 1)⟩ (show t.length - (s + 1) < t.length - s by omega) (by repeat' first | refine And.intro ?_ ?_ | exact True.intro | (show (_ : Int) = (_ : Int); omega) | omega | exact rfl | (simp only [RO.len]; omega))
                  · have h9 : (mrgL p (en t s x) (en t s y)).getD ((t.getD x []).getD s 0).toNat 0 = (mrgL p (en t s x) (en t s y)).getD ((t.getD y []).getD s 0).toNat 0 := h9
                    rw [e3.1, e4.1, Int.toNat_natCast, Int.toNat_natCast] at h9
                    refine And.intro (by omega) ?_
                    exact nx (s + 1, mrgL p (en t s x) (en t s y), true) ⟨by omega, hI1.chd x y (s + 1)⟩ (show t.length - (s + 1) < t.length - s by omega) (by repeat' first | refine And.intro ?_ ?_ | exact True.intro | (show (_ : Int) = (_ : Int); omega) | omega | exact rfl | (simp only [RO.len]; omega))
                · have h8 : side = 1 := h8
                  refine And.intro (by omega) ?_
                  exact nx (s + 1, mrgL p (en t s x) (en t s y), true) ⟨by omega, hI1.chd x y (s + 1)⟩ (show t.length - (s + 1) < t.length - s by omega) (by repeat' first | refine And.intro ?_ ?_ | exact True.intro | (show (_ : Int) = (_ : Int); omega) | omega | exact rfl | (simp only [RO.len]; omega))
              · have h7 : p.getD ((t.getD s []).getD x 0).toNat 0 = p.getD ((t.getD s []).getD y 0).toNat 0 := h7
                rw [e1.1, e2.1, Int.toNat_natCast, Int.toNat_natCast] at h7
                have hLok : side ≠ 2 → p.getD (en t s x) 0 = p.getD (en t s y) 0 := fun _ => h7
                have hpl1 : (p).length = t.length := by exact hpl
                refine Or.inl ?_
                refine Exists.intro [false, false, false, false, false, false, false, false, false, false, false, false, false, false, false, false] (And.intro (by decide +kernel) ?_)
                refine And.intro (by omega) ?_
                refine And.intro (show 0 ≤ (s : Int) ∧ (s : Int) < ((t.getD x []).length : Int) by omega) ?_
                refine And.intro (by omega) ?_
                refine And.intro (show 0 ≤ (s : Int) ∧ (s : Int) < ((t.getD y []).length : Int) by omega) ?_
                refine Or.inl ?_
                refine Exists.intro [false, false, false, false, false, false, false, false, false, false, false, false, false] (And.intro (by decide +kernel) ?_)
                refine And.intro (fun h8 => ?_) (fun h8 => ?_)
                · have h8 : side ≠ 1 := h8
                  refine And.intro (show 0 ≤ (t.getD x []).getD s 0 ∧ (t.getD x []).getD s 0 < ((p).length : Int) by omega) ?_
                  refine And.intro (show 0 ≤ (t.getD y []).getD s 0 ∧ (t.getD y []).getD s 0 < ((p).length : Int) by omega) ?_
                  refine And.intro (fun h9 => ?_) (fun h9 => ?_)
                  · have h9 : (p).getD ((t.getD x []).getD s 0).toNat 0 ≠ (p).getD ((t.getD y []).getD s 0).toNat 0 := h9
                    rw [e3.1, e4.1, Int.toNat_natCast, Int.toNat_natCast] at h9
                    have hm := merge_fn (p) (en t x s) (en t y s) (by omega) (by omega) (by omega)
                    rw [← e3.1, ← e4.1] at hm
                    refine Or.inr (Or.inl (cm [] [(1000, 19)] hm ?_))
                    refine And.intro (by repeat' first | refine And.intro ?_ ?_ | exact True.intro | (show (_ : Int) = (_ : Int); omega) | omega | exact rfl | (simp only [RO.len]; omega)) ?_
                    refine And.intro (by omega) ?_
                    exact nx (s + 1, mrgL (p) (en t x s) (en t y s), true) ⟨by omega, hI.mrg e3.2 e4.2 (.right h8 hsl hxl hyl hxy) h9 x y (s + 1)⟩ (show t.length - (s + 1) < t.length - s by omega) (by repeat' first | refine And.intro ?_ ?_ | exact True.intro | (show (_ : Int) = (_ : Int); omega) | omega | exact rfl | (simp only [RO.len]; omega))
                  · have h9 : (p).getD ((t.getD x []).getD s 0).toNat 0 = (p).getD ((t.getD y []).getD s 0).toNat 0 := h9
                    rw [e3.1, e4.1, Int.toNat_natCast, Int.toNat_natCast] at h9
                    refine And.intro (by omega) ?_
                    exact nx (s + 1, p, ch) ⟨by omega, hI.okS ⟨hLok, fun _ => h9⟩⟩ (show t.length - (s + 1) < t.length - s by omega) (by repeat' first | refine And.intro ?_ ?_ | exact True.intro | (show (_ : Int) = (_ : Int); omega) | omega | exact rfl | (simp only [RO.len]; omega))
                · have h8 : side = 1 := h8
                  refine And.intro (by omega) ?_
                  exact nx (s + 1, p, ch) ⟨by omega, hI.okS ⟨hLok, fun h => absurd h8 h⟩⟩ (show t.length - (s + 1) < t.length - s by omega) (by repeat' first | refine And.intro ?_ ?_ | exact True.intro | (show (_ : Int) = (_ : Int); omega) | omega | exact rfl | (simp only [RO.len]; omega))
            · have h6 : side = 2 := h6
              have hLok : side ≠ 2 → p.getD (en t s x) 0 = p.getD (en t s y) 0 := fun h => absurd h6 h
              have hpl1 : (p).length = t.length := by exact hpl
              refine Or.inl ?_
              refine Exists.intro [false, false, false, false, false, false, false, false, false, false, false, false, false, false, false, false] (And.intro (by decide +kernel) ?_)
              refine And.intro (by omega) ?_
              refine And.intro (show 0 ≤ (s : Int) ∧ (s : Int) < ((t.getD x []).length : Int) by omega) ?_
              refine And.intro (by omega) ?_
              refine And.intro (show 0 ≤ (s : Int) ∧ (s : Int) < ((t.getD y []).length : Int) by omega) ?_
              refine Or.inl ?_
              refine Exists.intro [false, false, false, false, false, false, false, false, false, false, false, false, false] (And.intro (by decide +kernel) ?_)
              refine And.intro (fun h8 => ?_) (fun h8 => ?_)
              · have h8 : side ≠ 1 := h8
                refine And.intro (show 0 ≤ (t.getD x []).getD s 0 ∧ (t.getD x []).getD s 0 < ((p).length : Int) by omega) ?_
                refine And.intro (show 0 ≤ (t.getD y []).getD s 0 ∧ (t.getD y []).getD s 0 < ((p).length : Int) by omega) ?_
                refine And.intro (fun h9 => ?_) (fun h9 => ?_)
                · have h9 : (p).getD ((t.getD x []).getD s 0).toNat 0 ≠ (p).getD ((t.getD y []).getD s 0).toNat 0 := h9
                  rw [e3.1, e4.1, Int.toNat_natCast, Int.toNat_natCast] at h9
                  have hm := merge_fn (p) (en t x s) (en t y s) (by omega) (by omega) (by omega)
                  rw [← e3.1, ← e4.1] at hm
                  refine Or.inr (Or.inl (cm [] [(1000, 19)] hm ?_))
                  refine And.intro (by repeat' first | refine And.intro ?_ ?_ | exact True.intro | (show (_ : Int) = (_ : Int); omega) | omega | exact rfl | (simp only [RO.len]; omega)) ?_
                  refine And.intro (by omega) ?_
                  exact nx (s + 1, mrgL (p) (en t x s) (en t y s), true) ⟨by omega, hI.mrg e3.2 e4.2 (.right h8 hsl hxl hyl hxy) h9 x y (s + 1)⟩ (show t.length - (s + 1) < t.length - s by omega) (by repeat' first | refine And.intro ?_ ?_ | exact True.intro | (show (_ : Int) = (_ : Int); omega) | omega | exact rfl | (simp only [RO.len]; omega))
                · have h9 : (p).getD ((t.getD x []).getD s 0).toNat 0 = (p).getD ((t.getD y []).getD s 0).toNat 0 := h9
                  rw [e3.1, e4.1, Int.toNat_natCast, Int.toNat_natCast] at h9
                  refine And.intro (by omega) ?_
                  exact nx (s + 1, p, ch) ⟨by omega, hI.okS ⟨hLok, fun _ => h9⟩⟩ (show t.length - (s + 1) < t.length - s by omega) (by repeat' first | refine And.intro ?_ ?_ | exact True.intro | (show (_ : Int) = (_ : Int); omega) | omega | exact rfl | (simp only [RO.len]; omega))
              · have h8 : side = 1 := h8
                refine And.intro (by omega) ?_
                exact nx (s + 1, p, ch) ⟨by omega, hI.okS ⟨hLok, fun h => absurd h8 h⟩⟩ (show t.length - (s + 1) < t.length - s by omega) (by repeat' first | refine And.intro ?_ ?_ | exact True.intro | (show (_ : Int) = (_ : Int); omega) | omega | exact rfl | (simp only [RO.len]; omega))
          · have h5 : p.getD x 0 ≠ p.getD y 0 := h5
            refine And.intro (by omega) ?_
            exact nx (y + 1, p, ch) ⟨by omega, hI.endS (.inr h5)⟩ (show x - (y + 1) < x - y by omega) (by repeat' first | refine And.intro ?_ ?_ | exact True.intro | (show (_ : Int) = (_ : Int); omega) | omega | exact rfl | (simp only [RO.len]; omega))
        · have h4 : (t.length : Int) ≤ (s : Int) := h4
          refine And.intro (by omega) ?_
          exact nx (y + 1, p, ch) ⟨by omega, hI.endS (.inl (by omega))⟩ (show x - (y + 1) < x - y by omega) (by repeat' first | refine And.intro ?_ ?_ | exact True.intro | (show (_ : Int) = (_ : Int); omega) | omega | exact rfl | (simp only [RO.len]; omega))
      · have h3 : (x : Int) ≤ (y : Int) := h3
        refine And.intro (by omega) ?_
        exact nx (x + 1, p2, ch2) ⟨by omega, hI2.endY (by omega)⟩ (show t.length - (x + 1) < t.length - x by omega) (by repeat' first | refine And.intro ?_ ?_ | exact True.intro | (show (_ : Int) = (_ : Int); omega) | omega | exact rfl | (simp only [RO.len]; omega))
    · have h2 : (t.length : Int) ≤ (x : Int) := h2
      refine nx (p1, ch1) ⟨hI1.b, fun h => by subst h; exact hI1.done (by omega)⟩ ?_ (by repeat' first | refine And.intro ?_ ?_ | exact True.intro | (show (_ : Int) = (_ : Int); omega) | omega | exact rfl | (simp only [RO.len]; omega))
      show classN p1 + b1 ch1 < classN p0 + b1 ch0
      rw [h1]
      have hle := hI1.le
      cases hc : ch1 with
      | true => have := hI1.cd hc; show classN p1 + 1 < classN p0 + 1; omega
      | false => show classN p1 + 0 < classN p0 + 1; omega
  · have h1 : ch0 = false := h1
    have e : (if p0.length ≤ 4096 then canon p0 else []) = genP t side (relP l) := by rw [if_pos (by omega)]; exact hdone h1
    refine Or.inl (cq (rcanon_fn p0) (And.intro rfl trivial) ?_)
    exact And.intro (And.intro (by omega) (congrArg (RO.ints .i64) e)) trivial
theorem rgnr_fn (t : List (List Int)) (l : List (Int × Int)) (side : Int) (hs : Sh t) (hl : inW t.length l) : QF 29 [.ro (.rows .i64 t), .ro (.pairs l), .int .i64 side] (.new (.ints .i64 (genP t side (relP l)))) := mkQ Try.func29 (by decide +kernel) rfl (Nat.le_of_ble_eq_true rfl) fun _ => rgnr_k t l side hs hl
end Go.Proofs.Yteopelpnpdbbcaa
