/- IdealMinimal, the walk: it returns true. -/
import Derived.Test.YtdmfhcppdpcceaaGreatIdealAwake
import Derived.Test.YtdmfhcppdpcceaaGreatMin3
namespace Go.Proofs.YtdmfhcppdpcceaaGreat
open Go Go.AM
set_option maxRecDepth 100000
set_option maxHeartbeats 1000000
theorem idMin_k (t : List (List Int)) : fnK TY SP Tryz.f3 [.ro (.rows .i64 t)] (.bool (.lit true)) := by
  refine Or.inl (cq (large18_fn t 20) (And.intro rfl (And.intro rfl trivial)) ?_)
  refine And.intro (fun h1 => ?_) (fun h1 => ?_)
  · exact Or.inl (cq awake18_fn trivial (And.intro rfl trivial))
  by_cases h : Semi t
  · have hz := valid_zero.2 h
    refine Or.inl (cq (minL_fn t h) (And.intro rfl trivial) ?_)
    refine Or.inl (cq (minR_fn t h) (And.intro rfl trivial) ?_)
    refine Or.inl (cq (simple_fn t) (And.intro rfl trivial) ?_)
    refine Or.inl (cq (zsimple_fn t h) (And.intro rfl trivial) ?_)
    refine Or.inl (cq (rvalid_fn t) (And.intro rfl trivial) ?_)
    refine And.intro (fun h2 => ?_) (fun _ => ?_)
    · rw [decide_eq_true hz] at h2; cases h2
    refine Or.inl (cq (rminlF_fn t h) (And.intro rfl trivial) ?_)
    refine Or.inl (cq (sameRows_fn (mnL t (lftF t) t.length) (mnL t (lftF t) t.length)) (And.intro rfl (And.intro rfl trivial)) ?_)
    refine And.intro (fun _ => ?_) (fun h3 => absurd h3 (by simp))
    refine Or.inl (cq (rminrF_fn t h) (And.intro rfl trivial) ?_)
    refine Or.inl (cq (sameRows_fn (mnL t (rgtF t) t.length) (mnL t (rgtF t) t.length)) (And.intro rfl (And.intro rfl trivial)) ?_)
    refine And.intro (fun _ => ?_) (fun h3 => absurd h3 (by simp))
    refine Or.inl (cq (rKernel_fn t h) (And.intro rfl trivial) ?_)
    refine And.intro (fun _ => ?_) (fun h3 => ?_)
    · refine Or.inl (cq (rzsimple_fn t h) (And.intro rfl trivial) ?_)
      refine And.intro (fun _ => ?_) (fun h4 => ?_)
      · exact Or.inl (cq awake18_fn trivial (And.intro rfl trivial))
      · exfalso
        have h4 : (zsB t == zsB t) = false := h4
        simp at h4
    · exfalso
      have h3 : ((decide (validV t = 0) && decide ((ascV t.length (kerF t)).length = t.length)) == decide (((ascV t.length (kerF t)).length : Int) = (t.length : Int))) = false := h3
      rw [decide_eq_true hz, Bool.true_and] at h3
      by_cases e : (ascV t.length (kerF t)).length = t.length
      · rw [decide_eq_true e, decide_eq_true (p := ((ascV t.length (kerF t)).length : Int) = (t.length : Int)) (by omega)] at h3; cases h3
      · rw [decide_eq_false e, decide_eq_false (p := ((ascV t.length (kerF t)).length : Int) = (t.length : Int)) (by omega)] at h3; cases h3
  · have hz : validV t ≠ 0 := fun e => h (valid_zero.1 e)
    refine Or.inl (cq (minL_no t h) (And.intro rfl trivial) ?_)
    refine Or.inl (cq (minR_no t h) (And.intro rfl trivial) ?_)
    refine Or.inl (cq (simple_fn t) (And.intro rfl trivial) ?_)
    refine Or.inl (cq (zsimple_no t h) (And.intro rfl trivial) ?_)
    refine Or.inl (cq (rvalid_fn t) (And.intro rfl trivial) ?_)
    refine And.intro (fun _ => ?_) (fun h2 => ?_)
    · refine And.intro (fun _ => ?_) (fun h3 => absurd rfl h3)
      refine And.intro (fun _ => ?_) (fun h3 => absurd rfl h3)
      refine And.intro (fun _ => ?_) (fun h3 => ?_)
      · exact Or.inl (cq awake18_fn trivial (And.intro rfl trivial))
      · exfalso
        have h3 : (!(decide (validV t = 0) && decide ((ascV t.length (kerF t)).length = t.length))) = false := h3
        rw [decide_eq_false hz] at h3; cases h3
    · rw [decide_eq_false hz] at h2; cases h2
theorem idMin_fn (t : List (List Int)) : QF 3 [.ro (.rows .i64 t)] (.bool (.lit true)) := mkQ Tryz.func3 (by decide +kernel) rfl (Nat.le_of_ble_eq_true rfl) fun _ => idMin_k t
end Go.Proofs.YtdmfhcppdpcceaaGreat
