/- The statement GroupElements: the walk. -/
import Derived.Test.YtdjbbjjmjopofaaGreatGrpEl0
import Derived.Test.YtdjbbjjmjopofaaGreatIn
import Derived.Test.YtdjbbjjmjopofaaGreatAwk16
namespace Go.Proofs.YtdjbbjjmjopofaaGreat
open Go Go.AM
set_option maxRecDepth 100000
theorem large16_k (t : List (List Int)) (m : Int) (_ht : t.length ≤ 140737488355328) : fnK TY SP Tryz.f15 [.ro (.rows .i64 t), .int .i64 m] (.bool (.v (decide (m < t.length ∧ shapeV t = 0)))) := by
  refine And.intro (fun h1 => ?_) (fun h1 => ?_)
  · refine Or.inl (cq (rshape_fn t) (And.intro rfl trivial) ?_)
    refine And.intro ?_ trivial
    show decide (shapeV t = 0) = decide (m < t.length ∧ shapeV t = 0)
    simp [h1]
  · refine And.intro ?_ trivial
    show false = decide (m < t.length ∧ shapeV t = 0)
    rw [decide_eq_false (fun h => by omega)]
theorem large16_fn (t : List (List Int)) (m : Int) : QF 15 [.ro (.rows .i64 t), .int .i64 m] (.bool (.v (decide (m < t.length ∧ shapeV t = 0)))) := mkQ Tryz.func15 (by decide +kernel) rfl (Nat.le_of_ble_eq_true rfl) fun hf => large16_k t m hf.1.1
theorem ne_self (b : Bool) : ¬ (!b == b) = true := by cases b <;> decide
theorem grpElY_k (t : List (List Int)) (k : Nat) (hg : Grp t) (hk : k < t.length) : fnK TY SP Tryz.f3 [.ro (.rows .i64 t), .int .i64 k] (.bool (.lit true)) := by
  have hB : grpB t = true := grpB_true.2 hg
  refine Or.inl (cq (large16_fn t 24) (And.intro rfl (And.intro rfl trivial)) ?_)
  refine And.intro (fun _ => ?_) (fun _ => ?_)
  · exact Or.inl (cq awake16_fn trivial (And.intro rfl trivial))
  refine Or.inl (cq (isgroup_fn t) (And.intro rfl trivial) ?_)
  refine Or.inl (cq (ginv_fn t hg k hk) (And.intro rfl (And.intro rfl trivial)) ?_)
  refine Or.inl (cq (gord_fn t hg k hk) (And.intro rfl (And.intro rfl trivial)) ?_)
  refine Or.inl (cq (rgroup_fn t) (And.intro rfl trivial) ?_)
  refine And.intro (fun h2 => absurd h2 (by cases grpB t <;> decide)) (fun _ => ?_)
  refine And.intro (fun h3 => ?_) (fun _ => ?_)
  · have h3 : (!grpB t) = true := h3
    rw [hB] at h3; cases h3
  refine Or.inl (cq (rin_fn t [(k : Int)]) (And.intro rfl (And.intro rfl trivial)) ?_)
  refine And.intro (fun h4 => ?_) (fun _ => ?_)
  · have h4 : (!decide (∀ x ∈ [(k : Int)], 0 ≤ x ∧ x < (t.length : Int))) = true := h4
    rw [decide_eq_true (by intro x hx; have := List.mem_singleton.1 hx; omega)] at h4; cases h4
  refine Or.inl (cq (rinvQ_fn t hg k hk) (And.intro rfl (And.intro rfl trivial)) ?_)
  refine And.intro (fun _ => ?_) (fun h5 => ?_)
  · refine Or.inl (cq (rord_fn t hg k hk) (And.intro rfl (And.intro rfl trivial)) ?_)
    refine And.intro (fun _ => ?_) (fun h5 => ?_)
    · exact Or.inl (cq awake16_fn trivial (And.intro rfl trivial))
    · exact absurd rfl h5
  · exact absurd rfl h5
theorem grpElN_k (t : List (List Int)) (x : Int) (hn : ¬ (Grp t ∧ 0 ≤ x ∧ x < (t.length : Int))) : fnK TY SP Tryz.f3 [.ro (.rows .i64 t), .int .i64 x] (.bool (.lit true)) := by
  refine Or.inl (cq (large16_fn t 24) (And.intro rfl (And.intro rfl trivial)) ?_)
  refine And.intro (fun _ => ?_) (fun _ => ?_)
  · exact Or.inl (cq awake16_fn trivial (And.intro rfl trivial))
  refine Or.inl (cq (isgroup_fn t) (And.intro rfl trivial) ?_)
  refine Or.inl (cq (ginvN_fn t x hn) (And.intro rfl (And.intro rfl trivial)) ?_)
  refine Or.inl (cq (gordN_fn t x hn) (And.intro rfl (And.intro rfl trivial)) ?_)
  refine Or.inl (cq (rgroup_fn t) (And.intro rfl trivial) ?_)
  refine And.intro (fun h2 => absurd h2 (by cases grpB t <;> decide)) (fun _ => ?_)
  refine And.intro (fun _ => ?_) (fun h3 => ?_)
  · refine And.intro (fun _ => ?_) (fun h => absurd rfl h)
    refine And.intro (fun _ => ?_) (fun h => absurd rfl h)
    exact Or.inl (cq awake16_fn trivial (And.intro rfl trivial))
  refine Or.inl (cq (rin_fn t [x]) (And.intro rfl (And.intro rfl trivial)) ?_)
  refine And.intro (fun _ => ?_) (fun h4 => ?_)
  · refine And.intro (fun _ => ?_) (fun h => absurd rfl h)
    refine And.intro (fun _ => ?_) (fun h => absurd rfl h)
    exact Or.inl (cq awake16_fn trivial (And.intro rfl trivial))
  have h3 : (!grpB t) = false := h3
  have h4 : (!decide (∀ y ∈ [x], 0 ≤ y ∧ y < (t.length : Int))) = false := h4
  have h5 := (of_decide_eq_true (by simpa using h4 : decide (∀ y ∈ [x], 0 ≤ y ∧ y < (t.length : Int)) = true)) x (by simp)
  exact absurd ⟨grpB_true.1 (by simpa using h3), h5.1, h5.2⟩ hn
theorem grpEl_fn (t : List (List Int)) (x : Int) : QF 3 [.ro (.rows .i64 t), .int .i64 x] (.bool (.lit true)) := by
  by_cases h : Grp t ∧ 0 ≤ x ∧ x < (t.length : Int)
  · obtain ⟨k, rfl⟩ := Int.eq_ofNat_of_zero_le h.2.1
    exact mkQ Tryz.func3 (by decide +kernel) rfl (Nat.le_of_ble_eq_true rfl) fun _ => grpElY_k t k h.1 (by omega)
  · exact mkQ Tryz.func3 (by decide +kernel) rfl (Nat.le_of_ble_eq_true rfl) fun _ => grpElN_k t x h
end Go.Proofs.YtdjbbjjmjopofaaGreat
