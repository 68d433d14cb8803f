/- Statements about ideals: the sanity check, small and large tables. -/
import Derived.Test.YtdmfhcppdpcceaaGreatIdealsW
import Derived.Test.YtdmfhcppdpcceaaGreatGroup
namespace Go.Proofs.YtdmfhcppdpcceaaGreat
open Go Go.AM
set_option maxRecDepth 100000

/-- Is it the table of a semigroup? -/
def semiC (t : List (List Int)) : Bool :=
  decide (0 < t.length) && decide (t.length ≤ 400) && (t.all fun r => decide (r.length = t.length) && r.all fun x => decide (0 ≤ x) && decide (x < (t.length : Int))) &&
    (List.range t.length).all fun g => (List.range t.length).all fun x => (List.range t.length).all fun y => decide (en t (en t x g) y = en t x (en t g y))
theorem semiC_ok {t : List (List Int)} (h : semiC t = true) : Semi t := by
  unfold semiC at h
  simp only [Bool.and_eq_true, decide_eq_true_eq, List.all_eq_true, List.mem_range] at h
  obtain ⟨⟨⟨h1, h2⟩, h3⟩, h4⟩ := h
  exact { pos := h1, most := h2, row := fun r hr => ⟨(h3 r hr).1, fun x hx => (h3 r hr).2 x hx⟩, assoc := fun g hg x y hx hy => h4 g hg x hx y hy }

abbrev chainT : List (List Int) := [[0, 1, 2], [1, 2, 2], [2, 2, 2]]
theorem chain_semi : Semi chainT := semiC_ok (by decide +kernel)
theorem chain_ids : idsL chainT = [[2], [1, 2], [0, 1, 2]] := by
  have p0 : prL chainT 0 = [0, 1, 2] := by decide +kernel
  have p1 : prL chainT 1 = [1, 2] := by decide +kernel
  have p2 : prL chainT 2 = [2] := by decide +kernel
  refine sorted_uniq cmpS_tot (idsL_srt _) (by unfold Srt; decide +kernel) fun l => ?_
  rw [idsL_mem]
  constructor
  · intro hl
    have hself := hl.self
    have hid := hl.2.2.2
    have c01 := hid 0 1 (by decide) (by decide)
    have c11 := hid 1 1 (by decide) (by decide)
    rw [show en chainT 0 1 = 1 from by decide, show en chainT 1 0 = 1 from by decide] at c01
    rw [show en chainT 1 1 = 2 from by decide] at c11
    have key : ∀ f : Nat → Bool, (∀ y, y < 3 → setI l y = f y) → l = ascV 3 f := fun f hf => by
      rw [← hself]; exact ascV_congr hf
    by_cases h0 : setI l 0 = true
    · have h1 := (c01 h0).1
      have h2 := (c11 h1).1
      have := key (fun _ => true) fun y hy => by
        match y, hy with
        | 0, _ => exact h0
        | 1, _ => exact h1
        | 2, _ => exact h2
      rw [this, show ascV 3 (fun _ => true) = [0, 1, 2] from by decide +kernel]; simp
    · by_cases h1 : setI l 1 = true
      · have h2 := (c11 h1).1
        have := key (fun y => decide (1 ≤ y)) fun y hy => by
          match y, hy with
          | 0, _ => simpa using h0
          | 1, _ => exact h1
          | 2, _ => exact h2
        rw [this, show ascV 3 (fun y => decide (1 ≤ y)) = [1, 2] from by decide +kernel]; simp
      · by_cases h2 : setI l 2 = true
        · have := key (fun y => decide (2 ≤ y)) fun y hy => by
            match y, hy with
            | 0, _ => simpa using h0
            | 1, _ => simpa using h1
            | 2, _ => exact h2
          rw [this, show ascV 3 (fun y => decide (2 ≤ y)) = [2] from by decide +kernel]; simp
        · have := key (fun _ => false) fun y hy => by
            match y, hy with
            | 0, _ => simpa using h0
            | 1, _ => simpa using h1
            | 2, _ => simpa using h2
          have h3 := hl.1
          rw [this, show ascV 3 (fun _ => false) = [] from by decide +kernel] at h3
          simp at h3
  · intro hm
    simp only [List.mem_cons, List.not_mem_nil, or_false] at hm
    rcases hm with rfl | rfl | rfl
    · rw [← p2]; exact prL_id chain_semi (by decide)
    · rw [← p1]; exact prL_id chain_semi (by decide)
    · rw [← p0]; exact prL_id chain_semi (by decide)

theorem chain18_k : fnK TY SP Tryz.f18 [] (.ro (.rows .i64 chainT)) := ⟨⟨trivial, rfl⟩, trivial⟩
theorem chain18_fn : QF 18 [] (.ro (.rows .i64 chainT)) := mkQ Tryz.func18 (by decide +kernel) rfl (Nat.le_of_ble_eq_true rfl) fun _ => chain18_k
theorem awake18_k : fnK TY SP Tryz.f5 [] (.bool (.lit true)) := by
  refine Or.inl (cq chain18_fn trivial ?_)
  refine Or.inl (cq (ideals_fn chainT chain_semi (by decide)) (And.intro rfl trivial) ?_)
  refine And.intro (fun _ => ?_) (fun h => absurd rfl h)
  refine And.intro (fun _ => ?_) (fun h => absurd (show ((idsL chainT).length : Int) = 3 by rw [chain_ids]; rfl) h)
  refine Or.inl (cq chain18_fn trivial ?_)
  refine Or.inl (cq (iKernel_fn chainT chain_semi) (And.intro rfl trivial) ?_)
  refine Or.inl (cq (same_fn (ascV 3 (kerF chainT)) [2]) (And.intro rfl (And.intro rfl trivial)) ?_)
  refine And.intro ?_ trivial
  exact decide_eq_true (show ascV 3 (kerF chainT) = [2] by decide +kernel)
theorem awake18_fn : QF 5 [] (.bool (.lit true)) := mkQ Tryz.func5 (by decide +kernel) rfl (Nat.le_of_ble_eq_true rfl) fun _ => awake18_k

theorem large18_k (t : List (List Int)) (m : Int) (_ht : t.length ≤ 140737488355328) : fnK TY SP Tryz.f4 [.ro (.rows .i64 t), .int .i64 m] (.bool (.v (decide (m < t.length ∧ shapeV t = 0)))) := by
  refine And.intro (fun h1 => ?_) (fun h1 => ?_)
  · refine Or.inl (cq (rshape_fn t) (And.intro rfl trivial) ?_)
    refine And.intro ?_ trivial
    show decide (shapeV t = 0) = decide (m < t.length ∧ shapeV t = 0)
    simp [h1]
  · refine And.intro ?_ trivial
    show false = decide (m < t.length ∧ shapeV t = 0)
    rw [decide_eq_false (fun h => by omega)]
theorem large18_fn (t : List (List Int)) (m : Int) : QF 4 [.ro (.rows .i64 t), .int .i64 m] (.bool (.v (decide (m < t.length ∧ shapeV t = 0)))) := mkQ Tryz.func4 (by decide +kernel) rfl (Nat.le_of_ble_eq_true rfl) fun hf => large18_k t m hf.1.1
/-- Not too large, and valid: few elements. -/
theorem not_large {t : List (List Int)} {m : Int} (h1 : decide (m < (t.length : Int) ∧ shapeV t = 0) = false) (h : Sh t) : (t.length : Int) ≤ m := by
  have h1 := of_decide_eq_false h1
  have h2 := shape_zero.2 h
  by_cases h3 : (t.length : Int) ≤ m
  · exact h3
  · exact absurd ⟨by omega, h2⟩ h1
end Go.Proofs.YtdmfhcppdpcceaaGreat
