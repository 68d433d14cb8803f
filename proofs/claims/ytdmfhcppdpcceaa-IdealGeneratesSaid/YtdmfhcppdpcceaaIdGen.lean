/- IdealGenerates, the walk: it returns true. -/
import Derived.Test.YtdmfhcppdpcceaaIdealAwake
import Derived.Test.YtdmfhcppdpcceaaRefIdeal
import Derived.Test.YtdmfhcppdpcceaaIn
namespace Go.Proofs.Ytdmfhcppdpcceaa
open Go Go.AM
set_option maxRecDepth 100000
theorem idGen_k (t : List (List Int)) (l : List Int) : fnK TY SP Try.f6 [.ro (.rows .i64 t), .ro (.ints .i64 l)] (.bool (.lit true)) := by
  refine Or.inl (cq (large18_fn t 24) (And.intro rfl (And.intro rfl trivial)) ?_)
  refine And.intro (fun h1 => ?_) (fun h1 => ?_)
  · exact Or.inl (cq awake18_fn trivial (And.intro rfl trivial))
  by_cases h : inT t l ∧ Semi t
  · have hz := valid_zero.2 h.2
    refine Or.inl (cq (iLeft_fn t l h.2 h.1) (And.intro rfl (And.intro rfl trivial)) ?_)
    refine Or.inl (cq (iRight_fn t l h.2 h.1) (And.intro rfl (And.intro rfl trivial)) ?_)
    refine Or.inl (cq (iTwo_fn t l h.2 h.1) (And.intro rfl (And.intro rfl trivial)) ?_)
    refine Or.inl (cq (rvalid_fn t) (And.intro rfl trivial) ?_)
    refine And.intro (fun h2 => ?_) (fun _ => ?_)
    · rw [decide_eq_true hz] at h2; cases h2
    refine Or.inl (cq (rin_fn t l) (And.intro rfl (And.intro rfl trivial)) ?_)
    refine And.intro (fun h2 => ?_) (fun _ => ?_)
    · have h2 : (!decide (inT t l)) = true := h2
      rw [decide_eq_true h.1] at h2; cases h2
    refine Or.inl (cq (rLeft_fn t l h.2 h.1) (And.intro rfl (And.intro rfl trivial)) ?_)
    refine Or.inl (cq (same_fn (ascV t.length (lftF t (setI l))) (ascV t.length (lftF t (setI l)))) (And.intro rfl (And.intro rfl trivial)) ?_)
    refine And.intro (fun _ => ?_) (fun h3 => absurd h3 (by simp))
    refine Or.inl (cq (rRight_fn t l h.2 h.1) (And.intro rfl (And.intro rfl trivial)) ?_)
    refine Or.inl (cq (same_fn (ascV t.length (rgtF t (setI l))) (ascV t.length (rgtF t (setI l)))) (And.intro rfl (And.intro rfl trivial)) ?_)
    refine And.intro (fun _ => ?_) (fun h3 => absurd h3 (by simp))
    refine Or.inl (cq (rTwo_fn t l h.2 h.1) (And.intro rfl (And.intro rfl trivial)) ?_)
    refine Or.inl (cq (same_fn (ascV t.length (twoF t (setI l))) (ascV t.length (twoF t (setI l)))) (And.intro rfl (And.intro rfl trivial)) ?_)
    refine And.intro (fun _ => ?_) (fun h3 => absurd h3 (by simp))
    exact Or.inl (cq awake18_fn trivial (And.intro rfl trivial))
  · refine Or.inl (cq (iLeft_no t l h) (And.intro rfl (And.intro rfl trivial)) ?_)
    refine Or.inl (cq (iRight_no t l h) (And.intro rfl (And.intro rfl trivial)) ?_)
    refine Or.inl (cq (iTwo_no t l h) (And.intro rfl (And.intro rfl trivial)) ?_)
    refine Or.inl (cq (rvalid_fn t) (And.intro rfl trivial) ?_)
    refine And.intro (fun h2 => ?_) (fun h2 => ?_)
    · refine And.intro (fun _ => ?_) (fun h3 => absurd rfl h3)
      refine And.intro (fun _ => ?_) (fun h3 => absurd rfl h3)
      refine And.intro (fun _ => ?_) (fun h3 => absurd rfl h3)
      exact Or.inl (cq awake18_fn trivial (And.intro rfl trivial))
    · refine Or.inl (cq (rin_fn t l) (And.intro rfl (And.intro rfl trivial)) ?_)
      refine And.intro (fun h3 => ?_) (fun h3 => ?_)
      · refine And.intro (fun _ => ?_) (fun h3 => absurd rfl h3)
        refine And.intro (fun _ => ?_) (fun h3 => absurd rfl h3)
        refine And.intro (fun _ => ?_) (fun h3 => absurd rfl h3)
        exact Or.inl (cq awake18_fn trivial (And.intro rfl trivial))
      · exfalso
        have h3 : (!decide (inT t l)) = false := h3
        have h2 : (!decide (validV t = 0)) = false := h2
        refine h ⟨?_, valid_zero.1 ?_⟩
        · exact of_decide_eq_true (by simpa using h3)
        · simpa using h2
theorem idGen_fn (t : List (List Int)) (l : List Int) : QF 6 [.ro (.rows .i64 t), .ro (.ints .i64 l)] (.bool (.lit true)) := mkQ Try.func6 (by decide +kernel) rfl (Nat.le_of_ble_eq_true rfl) fun _ => idGen_k t l
end Go.Proofs.Ytdmfhcppdpcceaa
