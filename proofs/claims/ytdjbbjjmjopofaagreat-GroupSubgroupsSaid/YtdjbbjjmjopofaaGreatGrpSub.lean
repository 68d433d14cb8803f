/- The statement GroupSubgroups: the walk. -/
import Derived.Test.YtdjbbjjmjopofaaGreatRefSgp
import Derived.Test.YtdjbbjjmjopofaaGreatSgp4
import Derived.Test.YtdjbbjjmjopofaaGreatGrpEl
namespace Go.Proofs.YtdjbbjjmjopofaaGreat
open Go Go.AM
set_option maxRecDepth 100000
theorem grpSubY_k (t : List (List Int)) (l : List Int) (h : Grp t) (hl : ClL t l) : fnK TY SP Tryz.f6 [.ro (.rows .i64 t), .ro (.ints .i64 l)] (.bool (.lit true)) := by
  have hB : (grpB t && clB t l) = true := by rw [grpB_true.2 h, clB_true.2 hl]; rfl
  refine Or.inl (cq (large16_fn t 20) (And.intro rfl (And.intro rfl trivial)) ?_)
  refine And.intro (fun _ => ?_) (fun _ => ?_)
  · exact Or.inl (cq awake16_fn trivial (And.intro rfl trivial))
  refine Or.inl (cq (gIsSub_fn t l) (And.intro rfl (And.intro rfl trivial)) ?_)
  refine Or.inl (cq (gNrm_fn t l) (And.intro rfl (And.intro rfl trivial)) ?_)
  refine Or.inl (cq (gCos_fn t l h hl) (And.intro rfl (And.intro rfl trivial)) ?_)
  refine Or.inl (cq (rSub_fn t l) (And.intro rfl (And.intro rfl trivial)) ?_)
  refine And.intro (fun h2 => absurd h2 (by cases (grpB t && clB t l) <;> decide)) (fun _ => ?_)
  refine Or.inl (cq (rNrm_fn t l) (And.intro rfl (And.intro rfl trivial)) ?_)
  refine And.intro (fun h2 => absurd h2 (by cases (grpB t && (clB t l && nrmB t (allI t) l)) <;> decide)) (fun _ => ?_)
  refine And.intro (fun h3 => ?_) (fun _ => ?_)
  · have h3 : (!(grpB t && clB t l)) = true := h3
    rw [hB] at h3; cases h3
  refine Or.inl (cq (rCos_fn t l h hl) (And.intro rfl (And.intro rfl trivial)) ?_)
  refine Or.inl (cq (same_fn (cosL t l) (cosL t l)) (And.intro rfl (And.intro rfl trivial)) ?_)
  refine And.intro (fun _ => ?_) (fun h4 => ?_)
  · exact Or.inl (cq awake16_fn trivial (And.intro rfl trivial))
  · have h4 : decide (cosL t l = cosL t l) = false := h4
    exact absurd h4 (by simp)
theorem grpSubN_k (t : List (List Int)) (l : List Int) (hn : ¬ (Grp t ∧ ClL t l)) : fnK TY SP Tryz.f6 [.ro (.rows .i64 t), .ro (.ints .i64 l)] (.bool (.lit true)) := by
  have hB : (grpB t && clB t l) = false := by
    rw [Bool.eq_false_iff]
    intro hh
    have hh : grpB t = true ∧ clB t l = true := by simpa using hh
    exact hn ⟨grpB_true.1 hh.1, clB_true.1 hh.2⟩
  refine Or.inl (cq (large16_fn t 20) (And.intro rfl (And.intro rfl trivial)) ?_)
  refine And.intro (fun _ => ?_) (fun _ => ?_)
  · exact Or.inl (cq awake16_fn trivial (And.intro rfl trivial))
  refine Or.inl (cq (gIsSub_fn t l) (And.intro rfl (And.intro rfl trivial)) ?_)
  refine Or.inl (cq (gNrm_fn t l) (And.intro rfl (And.intro rfl trivial)) ?_)
  refine Or.inl (cq (gCosN_fn t l hn) (And.intro rfl (And.intro rfl trivial)) ?_)
  refine Or.inl (cq (rSub_fn t l) (And.intro rfl (And.intro rfl trivial)) ?_)
  refine And.intro (fun h2 => absurd h2 (by cases (grpB t && clB t l) <;> decide)) (fun _ => ?_)
  refine Or.inl (cq (rNrm_fn t l) (And.intro rfl (And.intro rfl trivial)) ?_)
  refine And.intro (fun h2 => absurd h2 (by cases (grpB t && (clB t l && nrmB t (allI t) l)) <;> decide)) (fun _ => ?_)
  refine And.intro (fun _ => ?_) (fun h3 => ?_)
  · refine And.intro (fun _ => ?_) (fun h4 => absurd rfl h4)
    exact Or.inl (cq awake16_fn trivial (And.intro rfl trivial))
  · have h3 : (!(grpB t && clB t l)) = false := h3
    rw [hB] at h3; cases h3
theorem grpSub_fn (t : List (List Int)) (l : List Int) : QF 6 [.ro (.rows .i64 t), .ro (.ints .i64 l)] (.bool (.lit true)) := by
  by_cases h : Grp t ∧ ClL t l
  · exact mkQ Tryz.func6 (by decide +kernel) rfl (Nat.le_of_ble_eq_true rfl) fun _ => grpSubY_k t l h.1 h.2
  · exact mkQ Tryz.func6 (by decide +kernel) rfl (Nat.le_of_ble_eq_true rfl) fun _ => grpSubN_k t l h
end Go.Proofs.YtdjbbjjmjopofaaGreat
