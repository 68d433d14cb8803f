import Derived.Test.YtdjbbjjmjopofaaGreatNrm
import Derived.Test.YtdjbbjjmjopofaaGreatGrpEl
import Derived.Test.YtdjbbjjmjopofaaGreatSgp3
import Derived.Test.YtdjbbjjmjopofaaGreatRefRees
/- The statements GroupNormals and GroupLists: the walks. -/
namespace Go.Proofs.YtdjbbjjmjopofaaGreat
open Go Go.AM
set_option maxRecDepth 100000
theorem grpNrm_k (t : List (List Int)) : fnK TY SP Tryz.f7 [.ro (.rows .i64 t)] (.bool (.lit true)) := by
  refine Or.inl (cq (large16_fn t 16) (And.intro rfl (And.intro rfl trivial)) ?_)
  refine And.intro (fun _ => ?_) (fun h1 => ?_)
  · exact Or.inl (cq awake16_fn trivial (And.intro rfl trivial))
  have h1 : decide ((16 : Int) < (t.length : Int) ∧ shapeV t = 0) = false := h1
  have h1 := of_decide_eq_false h1
  by_cases h : Grp t
  · have hn : t.length ≤ 16 := Nat.le_of_not_lt fun hl => h1 ⟨by omega, shape_zero.2 h.toSh⟩
    have hv : validV t = 0 := valid_zero.2 h.toSemi
    refine Or.inl (cq (gNrms_fn t h hn) (And.intro rfl trivial) ?_)
    refine Or.inl (cq (rvalidate_fn t) (And.intro rfl trivial) ?_)
    refine And.intro (fun h2 => ?_) (fun h2 => ?_)
    · exact absurd (show validV t ≠ 0 from h2) (fun h3 => h3 hv)
    · refine Or.inl (cq (rgroup_fn t) (And.intro rfl trivial) ?_)
      refine And.intro (fun h3 => ?_) (fun _ => ?_)
      · have h3 : (!grpB t) = true := h3
        rw [grpB_true.2 h] at h3; exact absurd h3 (by decide)
      refine And.intro (fun _ => ?_) (fun h4 => absurd rfl h4)
      refine Or.inl (cq (rNrms_fn t h hn) (And.intro rfl trivial) ?_)
      refine Or.inl (cq (sameRows_fn (nsL t) (nsL t)) (And.intro rfl (And.intro rfl trivial)) ?_)
      refine And.intro (fun _ => ?_) (fun h5 => ?_)
      · exact Or.inl (cq awake16_fn trivial (And.intro rfl trivial))
      · exact absurd (of_decide_eq_false h5) (fun h6 => h6 rfl)
  · refine Or.inl (cq (gNrmsN_fn t h) (And.intro rfl trivial) ?_)
    refine Or.inl (cq (rvalidate_fn t) (And.intro rfl trivial) ?_)
    refine And.intro (fun h2 => ?_) (fun h2 => ?_)
    · have h2 : validV t ≠ 0 := h2
      refine And.intro (fun h3 => absurd h3 h2) (fun _ => ?_)
      refine And.intro (fun _ => ?_) (fun h4 => absurd (if_pos h2) h4)
      refine And.intro (fun _ => ?_) (fun h5 => absurd rfl h5)
      exact Or.inl (cq awake16_fn trivial (And.intro rfl trivial))
    · have h2 : validV t = 0 := h2
      have hf : (if validV t ≠ 0 then validV t else 4) = 4 := if_neg fun h3 => h3 h2
      refine Or.inl (cq (rgroup_fn t) (And.intro rfl trivial) ?_)
      refine And.intro (fun _ => ?_) (fun h3 => ?_)
      · refine And.intro (fun _ => ?_) (fun h4 => absurd h2 h4)
        refine And.intro (fun _ => ?_) (fun h4 => absurd hf h4)
        refine And.intro (fun _ => ?_) (fun h5 => absurd rfl h5)
        exact Or.inl (cq awake16_fn trivial (And.intro rfl trivial))
      · have h3 : (!grpB t) = false := h3
        rw [grpB_false.2 h] at h3; exact absurd h3 (by decide)
theorem grpNrm_fn (t : List (List Int)) : QF 7 [.ro (.rows .i64 t)] (.bool (.lit true)) := mkQ Tryz.func7 (by decide +kernel) rfl (Nat.le_of_ble_eq_true rfl) fun _ => grpNrm_k t
variable {t : List (List Int)}
end Go.Proofs.YtdjbbjjmjopofaaGreat
