/- The references of chapters 3 and 19: valid partitions, congruences: contracts. -/
import Derived.Test.YtfdmlmeegjhghaaCg
import Derived.Test.YtfdmlmeegjhghaaRefPart
import Derived.Test.YtfdmlmeegjhghaaRefRees
namespace Go.Proofs.Ytfdmlmeegjhghaa
open Go Go.AM
set_option maxRecDepth 100000
theorem rpvalid_k (p : List Int) : fnK TY SP Try.f56 [.ro (.ints .i64 p)] (.bool (.v (decide (validP p)))) := by
  refine And.intro (fun h1 => ?_) (fun h1 => ?_)
  · have h1 : (p.length : Int) ≤ 4096 := h1
    refine Or.inl (cq (rcanon_fn p) (And.intro rfl trivial) ?_)
    refine Or.inl (cq (same_fn p (if p.length ≤ 4096 then canon p else [])) (And.intro rfl (And.intro rfl trivial)) ?_)
    refine And.intro ?_ trivial
    show decide (p = if p.length ≤ 4096 then canon p else []) = decide (validP p)
    rw [if_pos (by omega : p.length ≤ 4096)]
    exact decide_eq_decide.2 ⟨fun h => ⟨by omega, h.symm⟩, fun h => h.2.symm⟩
  · have h1 : ¬ (p.length : Int) ≤ 4096 := by have h1 : (4096 : Int) < p.length := h1; omega
    refine And.intro ?_ trivial
    show false = decide (validP p)
    exact (decide_eq_false fun h => h1 (by have := h.1; omega)).symm
theorem rpvalid_fn (p : List Int) : QF 56 [.ro (.ints .i64 p)] (.bool (.v (decide (validP p)))) := mkQ Try.func56 (by decide +kernel) rfl (Nat.le_of_ble_eq_true rfl) fun _ => rpvalid_k p
set_option maxHeartbeats 2000000 in
theorem rcgr_k (t : List (List Int)) (p : List Int) (side : Int) (hl : p.length ≤ 140737488355328) : fnK TY SP Try.f22 [.ro (.rows .i64 t), .ro (.ints .i64 p), .int .i64 side] (.bool (.v (cgB t p side))) := by
  have no : ¬ IsCg t p side → (BE.lit false).val = (BE.v (cgB t p side)).val := fun h => (cgB_false.2 h).symm
  refine Or.inl (cq (rvalid_fn t) (And.intro rfl trivial) ?_)
  refine And.intro (fun h1 => ?_) (fun h1 => ?_)
  · refine And.intro (no fun h => ?_) trivial
    have h1 : (!decide (validV t = 0)) = true := h1
    rw [decide_eq_true (valid_zero.2 h.semi)] at h1; cases h1
  refine And.intro (fun h2 => ?_) (fun h2 => ?_)
  · refine And.intro (no fun h => by have := h.len; omega) trivial
  refine Or.inl (cq (rpvalid_fn p) (And.intro rfl trivial) ?_)
  refine And.intro (fun h3 => ?_) (fun h3 => ?_)
  · refine And.intro (no fun h => ?_) trivial
    have h3 : (!decide (validP p)) = true := h3
    rw [decide_eq_true h.val] at h3; cases h3
  refine And.intro (fun h4 => ?_) (fun h4 => ?_)
  · refine And.intro (no fun h => by have := h.sd; omega) trivial
  refine And.intro (fun h5 => ?_) (fun h5 => ?_)
  · refine And.intro (no fun h => by have := h.sd; omega) trivial
  have hs : Semi t := valid_zero.1 (by simpa using h1)
  have hsh := hs.toSh
  have hmost := hs.most
  have hval : validP p := by simpa using h3
  have hlen : p.length = t.length := by omega
  refine Exists.intro [] <| lp (X := Nat) (fun x => [(35, .int .i64 x)]) (fun _ => []) (fun x => x ≤ t.length ∧ ∀ x' y s, x' < x → y < t.length → s < t.length → p.getD x' 0 = p.getD y 0 → CgA t p side x' y s) (fun x => t.length - x) 0 ⟨Nat.zero_le _, fun x' y s hx => absurd hx (Nat.not_lt_zero _)⟩ (by repeat' first | refine And.intro ?_ ?_ | exact True.intro | (show (_ : Int) = (_ : Int); omega) | omega | exact rfl | (simp only [RO.len]; omega)) ?_
  rintro x ⟨hx, hxx⟩
  refine And.intro (fun h6 => ?_) (fun h6 => ?_)
  · have hxt : x < t.length := by omega
    refine Exists.intro [] <| lp (X := Nat) (fun y => [(40, .int .i64 y)]) (fun _ => []) (fun y => y ≤ t.length ∧ ∀ y' s, y' < y → s < t.length → p.getD x 0 = p.getD y' 0 → CgA t p side x y' s) (fun y => t.length - y) 0 ⟨Nat.zero_le _, fun y' s hy => absurd hy (Nat.not_lt_zero _)⟩ (by repeat' first | refine And.intro ?_ ?_ | exact True.intro | (show (_ : Int) = (_ : Int); omega) | omega | exact rfl | (simp only [RO.len]; omega)) ?_
    rintro y ⟨hy, hyy⟩
    refine And.intro (fun h7 => ?_) (fun h7 => ?_)
    · have hyt : y < t.length := by omega
      refine Exists.intro [] <| lp (X := Nat) (fun s => [(45, .int .i64 s)]) (fun _ => []) (fun s => s ≤ t.length ∧ ∀ s', s' < s → p.getD x 0 = p.getD y 0 → CgA t p side x y s') (fun s => t.length - s) 0 ⟨Nat.zero_le _, fun s' hs' => absurd hs' (Nat.not_lt_zero _)⟩ (by repeat' first | refine And.intro ?_ ?_ | exact True.intro | (show (_ : Int) = (_ : Int); omega) | omega | exact rfl | (simp only [RO.len]; omega)) ?_
      rintro s ⟨hsn, hss⟩
      refine And.intro (fun h8 => ?_) (fun h8 => ?_)
      · have hsl : s < t.length := by omega
        have e1 := hsh.ent hsl hxt
        have e2 := hsh.ent hsl hyt
        have e3 := hsh.ent hxt hsl
        have e4 := hsh.ent hyt hsl
        have r1 := hsh.len hsl
        have r2 := hsh.len hxt
        have r3 := hsh.len hyt
        have nxt : (p.getD x 0 = p.getD y 0 → CgA t p side x y s) → s + 1 ≤ t.length ∧ ∀ s', s' < s + 1 → p.getD x 0 = p.getD y 0 → CgA t p side x y s' := fun hc => ⟨by omega, fun s' hs' hpq => by
          by_cases e : s' = s
          · subst e; exact hc hpq
          · exact hss s' (by omega) hpq⟩
        have bad1 : p.getD x 0 = p.getD y 0 → side ≠ 2 → p.getD (en t s x) 0 ≠ p.getD (en t s y) 0 → ¬ IsCg t p side := fun g0 g1 g2 h => g2 ((h.cg x y s hxt hyt hsl g0).1 g1)
        have bad2 : p.getD x 0 = p.getD y 0 → side ≠ 1 → p.getD (en t x s) 0 ≠ p.getD (en t y s) 0 → ¬ IsCg t p side := fun g0 g1 g2 h => g2 ((h.cg x y s hxt hyt hsl g0).2 g1)
        refine Or.inl ?_
        refine Exists.intro (List.replicate 63 false) (And.intro (by decide +kernel) ?_)
        refine And.intro (by omega) ?_
        refine And.intro (by omega) ?_
        refine And.intro (fun g0 => ?_) (fun g0 => ?_)
        · refine And.intro (fun g1 => ?_) (fun g1 => ?_)
          · refine And.intro (by omega) ?_
            refine And.intro (by simp only [Int.toNat_natCast]; omega) ?_
            refine And.intro (by simp only [Int.toNat_natCast]; omega) ?_
            refine And.intro (by omega) ?_
            refine And.intro (by simp only [Int.toNat_natCast]; omega) ?_
            refine And.intro (by simp only [Int.toNat_natCast]; omega) ?_
            refine And.intro (fun g2 => ?_) (fun g2 => ?_)
            · refine And.intro (no (bad1 g0 g1 g2)) trivial
            refine And.intro (fun g3 => ?_) (fun g3 => ?_)
            · refine And.intro (by omega) ?_
              refine And.intro (by simp only [Int.toNat_natCast]; omega) ?_
              refine And.intro (by simp only [Int.toNat_natCast]; omega) ?_
              refine And.intro (by omega) ?_
              refine And.intro (by simp only [Int.toNat_natCast]; omega) ?_
              refine And.intro (by simp only [Int.toNat_natCast]; omega) ?_
              refine And.intro (fun g4 => ?_) (fun g4 => ?_)
              · refine And.intro (no (bad2 g0 g3 g4)) trivial
              refine And.intro (by omega) ?_
              exact nx (s + 1) (nxt fun _ => ⟨fun _ => g2, fun _ => g4⟩) (show t.length - (s + 1) < t.length - s by omega) (by repeat' first | refine And.intro ?_ ?_ | exact True.intro | (show (_ : Int) = (_ : Int); omega) | omega | exact rfl | (simp only [RO.len]; omega))
            · refine And.intro (by omega) ?_
              exact nx (s + 1) (nxt fun _ => ⟨fun _ => g2, fun g => absurd g3 g⟩) (show t.length - (s + 1) < t.length - s by omega) (by repeat' first | refine And.intro ?_ ?_ | exact True.intro | (show (_ : Int) = (_ : Int); omega) | omega | exact rfl | (simp only [RO.len]; omega))
          · refine And.intro (fun g3 => ?_) (fun g3 => ?_)
            · refine And.intro (by omega) ?_
              refine And.intro (by simp only [Int.toNat_natCast]; omega) ?_
              refine And.intro (by simp only [Int.toNat_natCast]; omega) ?_
              refine And.intro (by omega) ?_
              refine And.intro (by simp only [Int.toNat_natCast]; omega) ?_
              refine And.intro (by simp only [Int.toNat_natCast]; omega) ?_
              refine And.intro (fun g4 => ?_) (fun g4 => ?_)
              · refine And.intro (no (bad2 g0 g3 g4)) trivial
              refine And.intro (by omega) ?_
              exact nx (s + 1) (nxt fun _ => ⟨fun g => absurd g1 g, fun _ => g4⟩) (show t.length - (s + 1) < t.length - s by omega) (by repeat' first | refine And.intro ?_ ?_ | exact True.intro | (show (_ : Int) = (_ : Int); omega) | omega | exact rfl | (simp only [RO.len]; omega))
            · exact absurd (g1.symm.trans g3) (by decide)
        · refine And.intro (by omega) ?_
          exact nx (s + 1) (nxt fun g => absurd g g0) (show t.length - (s + 1) < t.length - s by omega) (by repeat' first | refine And.intro ?_ ?_ | exact True.intro | (show (_ : Int) = (_ : Int); omega) | omega | exact rfl | (simp only [RO.len]; omega))
      · refine And.intro (by omega) ?_
        exact nx (y + 1) ⟨by omega, fun y' s' hy' hs' hpq => by
          by_cases e : y' = y
          · subst e; exact hss s' (by omega) hpq
          · exact hyy y' s' (by omega) hs' hpq⟩ (show t.length - (y + 1) < t.length - y by omega) (by repeat' first | refine And.intro ?_ ?_ | exact True.intro | (show (_ : Int) = (_ : Int); omega) | omega | exact rfl | (simp only [RO.len]; omega))
    · refine And.intro (by omega) ?_
      exact nx (x + 1) ⟨by omega, fun x' y' s' hx' hy' hs' hpq => by
        by_cases e : x' = x
        · subst e; exact hyy y' s' (by omega) hs' hpq
        · exact hxx x' y' s' (by omega) hy' hs' hpq⟩ (show t.length - (x + 1) < t.length - x by omega) (by repeat' first | refine And.intro ?_ ?_ | exact True.intro | (show (_ : Int) = (_ : Int); omega) | omega | exact rfl | (simp only [RO.len]; omega))
  · refine And.intro ?_ trivial
    exact (cgB_true.2 ⟨hs, hlen, hval, ⟨by omega, by omega⟩, fun x' y s hx' hy hs' hpq => hxx x' y s (by omega) hy hs' hpq⟩).symm
theorem rcgr_fn (t : List (List Int)) (p : List Int) (side : Int) : QF 22 [.ro (.rows .i64 t), .ro (.ints .i64 p), .int .i64 side] (.bool (.v (cgB t p side))) := mkQ Try.func22 (by decide +kernel) rfl (Nat.le_of_ble_eq_true rfl) fun hf => rcgr_k t p side hf.2.1.1
end Go.Proofs.Ytfdmlmeegjhghaa
