/- The statement GroupQuotients: the walk. -/
import Derived.Test.YtdjbbjjmjopofaaGreatRefQuo16
import Derived.Test.YtdjbbjjmjopofaaGreatGrpEl
import Derived.Test.YtdjbbjjmjopofaaGreatRefRees
namespace Go.Proofs.YtdjbbjjmjopofaaGreat
open Go Go.AM
set_option maxRecDepth 100000
theorem grpQuo_k (t : List (List Int)) (l : List Int) (h : NmS t l) (hn : t.length ≤ 20) : fnK TY SP Tryz.f11 [.ro (.rows .i64 t), .ro (.ints .i64 l)] (.bool (.lit true)) := by
  have hv : validV t = 0 := valid_zero.2 h.1.toSemi
  have hpl := cosL_len t l
  have hlag := lagrange h.1 h.2.1
  have hql : (quoL t (cosL t l)).length = classN (cosL t l) := quoL_len
  have hgq : Grp (quoL t (cosL t l)) := quo_grp h.1 hpl (cosL_canon t l) (nrm_cg h.1 h.2.1 h.2.2)
  have hmul : ((quoL t (cosL t l)).length : Int) * (l.length : Int) = (t.length : Int) := by rw [hql, hlag]; simp
  refine Or.inl (cq (large16_fn t 20) (And.intro rfl (And.intro rfl trivial)) ?_)
  refine And.intro (fun _ => Or.inl (cq awake16_fn trivial (And.intro rfl trivial))) (fun _ => ?_)
  refine Or.inl (cq (gQuo_fn t l h) (And.intro rfl (And.intro rfl trivial)) ?_)
  refine Or.inl (cq (rvalidate_fn t) (And.intro rfl trivial) ?_)
  refine And.intro (fun h2 => absurd hv h2) (fun _ => ?_)
  refine Or.inl (cq (rgroup_fn t) (And.intro rfl trivial) ?_)
  refine And.intro (fun h3 => ?_) (fun _ => ?_)
  · have h3 : (!grpB t) = true := h3
    rw [grpB_true.2 h.1] at h3; exact absurd h3 (by decide)
  refine Or.inl (cq (rNrm_fn t l) (And.intro rfl (And.intro rfl trivial)) ?_)
  refine And.intro (fun h4 => ?_) (fun _ => ?_)
  · have h4 : (!(grpB t && (clB t l && nrmB t (allI t) l))) = true := h4
    rw [grpB_true.2 h.1, clB_true.2 h.2.1, nrmB_true.2 h.2.2] at h4; exact absurd h4 (by decide)
  refine And.intro (fun h5 => absurd hv h5) (fun _ => ?_)
  refine And.intro (fun _ => ?_) (fun h6 => absurd rfl h6)
  refine Or.inl (cq (rQuo_fn t l h) (And.intro rfl (And.intro rfl trivial)) ?_)
  refine Or.inl (cq (sameRows_fn (quoL t (cosL t l)) (quoL t (cosL t l))) (And.intro rfl (And.intro rfl trivial)) ?_)
  refine And.intro (fun _ => ?_) (fun h7 => absurd (of_decide_eq_false h7) (fun h8 => h8 rfl))
  refine Or.inl (cq (isgroup_fn (quoL t (cosL t l))) (And.intro rfl trivial) ?_)
  refine And.intro (fun _ => ?_) (fun h9 => ?_)
  · refine And.intro (by rw [hmul]; omega) ?_
    refine And.intro (fun _ => ?_) (fun h10 => absurd hmul h10)
    exact Or.inl (cq awake16_fn trivial (And.intro rfl trivial))
  · have h9 : grpB (quoL t (cosL t l)) = false := h9
    rw [grpB_true.2 hgq] at h9; exact absurd h9 (by decide)
theorem grpQuoN_k (t : List (List Int)) (l : List Int) (h : ¬ NmS t l) : fnK TY SP Tryz.f11 [.ro (.rows .i64 t), .ro (.ints .i64 l)] (.bool (.lit true)) := by
  refine Or.inl (cq (large16_fn t 20) (And.intro rfl (And.intro rfl trivial)) ?_)
  refine And.intro (fun _ => Or.inl (cq awake16_fn trivial (And.intro rfl trivial))) (fun _ => ?_)
  refine Or.inl (cq (gQuoN_fn t l h) (And.intro rfl (And.intro rfl trivial)) ?_)
  refine Or.inl (cq (rvalidate_fn t) (And.intro rfl trivial) ?_)
  refine And.intro (fun h2 => ?_) (fun h2 => ?_)
  · have h2 : validV t ≠ 0 := h2
    refine And.intro (fun _ => ?_) (fun h3 => absurd h3 h2)
    refine And.intro (fun _ => ?_) (fun h4 => absurd (if_pos h2) h4)
    refine And.intro (fun _ => ?_) (fun h5 => absurd rfl h5)
    exact Or.inl (cq awake16_fn trivial (And.intro rfl trivial))
  · have h2 : validV t = 0 := h2
    refine Or.inl (cq (rgroup_fn t) (And.intro rfl trivial) ?_)
    refine And.intro (fun h3 => ?_) (fun h3 => ?_)
    · have h3 : (!grpB t) = true := h3
      have hf : gQuoE t = 4 := by unfold gQuoE; rw [if_neg (fun h4 => h4 h2)]; rw [Bool.not_eq_true'] at h3; rw [h3]; rfl
      refine And.intro (fun _ => ?_) (fun h4 => absurd h4 (by decide))
      refine And.intro (fun _ => ?_) (fun h5 => absurd hf h5)
      refine And.intro (fun _ => ?_) (fun h6 => absurd rfl h6)
      exact Or.inl (cq awake16_fn trivial (And.intro rfl trivial))
    · have h3 : (!grpB t) = false := h3
      rw [Bool.not_eq_false'] at h3
      have hf : gQuoE t = 1 := by unfold gQuoE; rw [if_neg (fun h4 => h4 h2), h3]; rfl
      refine Or.inl (cq (rNrm_fn t l) (And.intro rfl (And.intro rfl trivial)) ?_)
      refine And.intro (fun _ => ?_) (fun h4 => ?_)
      · refine And.intro (fun _ => ?_) (fun h4 => absurd h4 (by decide))
        refine And.intro (fun _ => ?_) (fun h5 => absurd hf h5)
        refine And.intro (fun _ => ?_) (fun h6 => absurd rfl h6)
        exact Or.inl (cq awake16_fn trivial (And.intro rfl trivial))
      · have h4 : (!(grpB t && (clB t l && nrmB t (allI t) l))) = false := h4
        rw [Bool.not_eq_false', Bool.and_eq_true, Bool.and_eq_true] at h4
        exact absurd ⟨grpB_true.1 h4.1, clB_true.1 h4.2.1, nrmB_true.1 h4.2.2⟩ h
theorem grpQuoL_k (t : List (List Int)) (l : List Int) (h : NmS t l) (hn : 20 < t.length) : fnK TY SP Tryz.f11 [.ro (.rows .i64 t), .ro (.ints .i64 l)] (.bool (.lit true)) := by
  refine Or.inl (cq (large16_fn t 20) (And.intro rfl (And.intro rfl trivial)) ?_)
  refine And.intro (fun _ => Or.inl (cq awake16_fn trivial (And.intro rfl trivial))) (fun h1 => ?_)
  exact absurd ⟨by omega, shape_zero.2 h.1.toSh⟩ (of_decide_eq_false (show decide ((20 : Int) < (t.length : Int) ∧ shapeV t = 0) = false from h1))
theorem grpQuo_fn (t : List (List Int)) (l : List Int) : QF 11 [.ro (.rows .i64 t), .ro (.ints .i64 l)] (.bool (.lit true)) :=
  mkQ Tryz.func11 (by decide +kernel) rfl (Nat.le_of_ble_eq_true rfl) fun _ => by
    by_cases h : NmS t l
    · rcases Nat.lt_or_ge 20 t.length with hn | hn
      · exact grpQuoL_k t l h hn
      · exact grpQuo_k t l h hn
    · exact grpQuoN_k t l h
end Go.Proofs.YtdjbbjjmjopofaaGreat
