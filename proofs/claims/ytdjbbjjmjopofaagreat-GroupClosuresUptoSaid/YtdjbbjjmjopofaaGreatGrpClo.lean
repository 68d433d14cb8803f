/- The statement GroupClosures: the walk, for lists of generators of at most 2^20 members. -/
import Derived.Test.YtdjbbjjmjopofaaGreatRefClo
import Derived.Test.YtdjbbjjmjopofaaGreatSgp4
import Derived.Test.YtdjbbjjmjopofaaGreatGrpEl
namespace Go.Proofs.YtdjbbjjmjopofaaGreat
open Go Go.AM
set_option maxRecDepth 100000
theorem grpCloN_k (t : List (List Int)) (g : List Int) (h : ¬ Grp t) : fnK TY SP Tryz.f5 [.ro (.rows .i64 t), .ro (.ints .i64 g)] (.bool (.lit true)) := by
  refine Or.inl (cq (large16_fn t 20) (And.intro rfl (And.intro rfl trivial)) ?_)
  refine And.intro (fun _ => ?_) (fun _ => ?_)
  · exact Or.inl (cq awake16_fn trivial (And.intro rfl trivial))
  refine Or.inl (cq (gCloN_fn t g fun hh => h hh.1) (And.intro rfl (And.intro rfl trivial)) ?_)
  refine Or.inl (cq (gDerN_fn t h) (And.intro rfl trivial) ?_)
  refine Or.inl (cq (rgroup_fn t) (And.intro rfl trivial) ?_)
  refine And.intro (fun _ => ?_) (fun h3 => ?_)
  · refine And.intro (fun _ => ?_) (fun h4 => absurd rfl h4)
    refine And.intro (fun _ => ?_) (fun h4 => absurd rfl h4)
    exact Or.inl (cq awake16_fn trivial (And.intro rfl trivial))
  · have h3 : (!grpB t) = false := h3
    rw [grpB_false.2 h] at h3; cases h3
theorem grpCloO_k (t : List (List Int)) (g : List Int) (h : Grp t) (hn : ¬ inT t g) : fnK TY SP Tryz.f5 [.ro (.rows .i64 t), .ro (.ints .i64 g)] (.bool (.lit true)) := by
  have hm := h.most
  refine Or.inl (cq (large16_fn t 20) (And.intro rfl (And.intro rfl trivial)) ?_)
  refine And.intro (fun _ => ?_) (fun _ => ?_)
  · exact Or.inl (cq awake16_fn trivial (And.intro rfl trivial))
  refine Or.inl (cq (gCloN_fn t g fun hh => hn hh.2) (And.intro rfl (And.intro rfl trivial)) ?_)
  refine Or.inl (cq (gDer_fn t h) (And.intro rfl trivial) ?_)
  refine Or.inl (cq (rgroup_fn t) (And.intro rfl trivial) ?_)
  refine And.intro (fun h3 => ?_) (fun _ => ?_)
  · have h3 : (!grpB t) = true := h3
    rw [grpB_true.2 h] at h3; cases h3
  refine Or.inl (cq (rAll_fn t hm) (And.intro rfl trivial) ?_)
  refine Or.inl (cq (rDer_fn t (allI t) h (allI_in t) (by rw [disI_len]; exact h.pos) (by rw [disI_len]; exact hm)) (And.intro rfl (And.intro rfl trivial)) ?_)
  refine Or.inl (cq (same_fn (ascV t.length (derF t (allI t))) (ascV t.length (derF t (allI t)))) (And.intro rfl (And.intro rfl trivial)) ?_)
  refine And.intro (fun h4 => ?_) (fun _ => ?_)
  · have h4 : (!decide (ascV t.length (derF t (allI t)) = ascV t.length (derF t (allI t)))) = true := h4
    rw [decide_eq_true rfl] at h4; cases h4
  refine Or.inl (cq (rin_fn t g) (And.intro rfl (And.intro rfl trivial)) ?_)
  refine And.intro (fun _ => ?_) (fun h5 => ?_)
  · refine And.intro (fun _ => ?_) (fun h4 => absurd rfl h4)
    exact Or.inl (cq awake16_fn trivial (And.intro rfl trivial))
  · have h5 : (!decide (∀ x ∈ g, 0 ≤ x ∧ x < (t.length : Int))) = false := h5
    exact absurd (of_decide_eq_true (by simpa using h5 : decide (∀ x ∈ g, 0 ≤ x ∧ x < (t.length : Int)) = true)) hn
theorem grpCloY_k (t : List (List Int)) (g : List Int) (h : Grp t) (hg : inT t g) (hlg : g.length ≤ 1048576) : fnK TY SP Tryz.f5 [.ro (.rows .i64 t), .ro (.ints .i64 g)] (.bool (.lit true)) := by
  have hm := h.most
  refine Or.inl (cq (large16_fn t 20) (And.intro rfl (And.intro rfl trivial)) ?_)
  refine And.intro (fun _ => ?_) (fun _ => ?_)
  · exact Or.inl (cq awake16_fn trivial (And.intro rfl trivial))
  refine Or.inl (cq (gClo_fn t g h hg) (And.intro rfl (And.intro rfl trivial)) ?_)
  refine Or.inl (cq (gDer_fn t h) (And.intro rfl trivial) ?_)
  refine Or.inl (cq (rgroup_fn t) (And.intro rfl trivial) ?_)
  refine And.intro (fun h3 => ?_) (fun _ => ?_)
  · have h3 : (!grpB t) = true := h3
    rw [grpB_true.2 h] at h3; cases h3
  refine Or.inl (cq (rAll_fn t hm) (And.intro rfl trivial) ?_)
  refine Or.inl (cq (rDer_fn t (allI t) h (allI_in t) (by rw [disI_len]; exact h.pos) (by rw [disI_len]; exact hm)) (And.intro rfl (And.intro rfl trivial)) ?_)
  refine Or.inl (cq (same_fn (ascV t.length (derF t (allI t))) (ascV t.length (derF t (allI t)))) (And.intro rfl (And.intro rfl trivial)) ?_)
  refine And.intro (fun h4 => ?_) (fun _ => ?_)
  · have h4 : (!decide (ascV t.length (derF t (allI t)) = ascV t.length (derF t (allI t)))) = true := h4
    rw [decide_eq_true rfl] at h4; cases h4
  refine Or.inl (cq (rin_fn t g) (And.intro rfl (And.intro rfl trivial)) ?_)
  refine And.intro (fun h5 => ?_) (fun _ => ?_)
  · have h5 : (!decide (∀ x ∈ g, 0 ≤ x ∧ x < (t.length : Int))) = true := h5
    rw [decide_eq_true (show ∀ x ∈ g, 0 ≤ x ∧ x < (t.length : Int) from hg)] at h5; cases h5
  refine Or.inl (cq (rClo_fn t g h hg hlg) (And.intro rfl (And.intro rfl trivial)) ?_)
  refine Or.inl (cq (same_fn (ascV t.length (cloF t (allI t) g)) (ascV t.length (cloF t (allI t) g))) (And.intro rfl (And.intro rfl trivial)) ?_)
  refine And.intro (fun _ => ?_) (fun h6 => ?_)
  · exact Or.inl (cq awake16_fn trivial (And.intro rfl trivial))
  · have h6 : decide (ascV t.length (cloF t (allI t) g) = ascV t.length (cloF t (allI t) g)) = false := h6
    exact absurd h6 (by simp)
theorem grpClo_fn (t : List (List Int)) (g : List Int) (hlg : g.length ≤ 1048576) : QF 5 [.ro (.rows .i64 t), .ro (.ints .i64 g)] (.bool (.lit true)) := by
  by_cases h : Grp t
  · by_cases hg : inT t g
    · exact mkQ Tryz.func5 (by decide +kernel) rfl (Nat.le_of_ble_eq_true rfl) fun _ => grpCloY_k t g h hg hlg
    · exact mkQ Tryz.func5 (by decide +kernel) rfl (Nat.le_of_ble_eq_true rfl) fun _ => grpCloO_k t g h hg
  · exact mkQ Tryz.func5 (by decide +kernel) rfl (Nat.le_of_ble_eq_true rfl) fun _ => grpCloN_k t g h
end Go.Proofs.YtdjbbjjmjopofaaGreat
