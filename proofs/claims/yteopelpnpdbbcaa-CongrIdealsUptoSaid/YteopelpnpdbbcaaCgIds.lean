/- The statement CongrIdeals: the walk. -/
import Derived.Test.YteopelpnpdbbcaaReeLaw
import Derived.Test.YteopelpnpdbbcaaJoin
import Derived.Test.YteopelpnpdbbcaaCgQuo
import Derived.Test.YteopelpnpdbbcaaCgLst
import Derived.Test.YteopelpnpdbbcaaQuot
import Derived.Test.YteopelpnpdbbcaaIn
namespace Go.Proofs.Yteopelpnpdbbcaa
open Go Go.AM
set_option maxRecDepth 100000
theorem cgIds_k (t : List (List Int)) (g m : List Int) (hs : Semi t) (hn : t.length ≤ 12) (hg : inT t g) (hm : inT t m) (hgp : 0 < g.length) (hmp : 0 < m.length) (hgl : g.length ≤ 1048576) (hml : m.length ≤ 1048576) : fnK TY SP Try.f12 [.ro (.rows .i64 t), .ro (.ints .i64 g), .ro (.ints .i64 m)] (.bool (.lit true)) := by
  have hv := valid_zero.2 hs
  have hS := hs.toSh
  refine Or.inl (cq (small19_fn t 12) (And.intro rfl (And.intro rfl trivial)) ?_)
  refine And.intro (fun h1 => ?_) (fun _ => ?_)
  · have h1 : (!decide ((t.length : Int) ≤ 12 ∧ validV t = 0)) = true := h1
    rw [decide_eq_true ⟨by omega, hv⟩] at h1; exact absurd h1 (by decide)
  refine Or.inl (cq (rin_fn t g) (And.intro rfl (And.intro rfl trivial)) ?_)
  refine And.intro (fun h1 => ?_) (fun _ => ?_)
  · have h1 : (!decide (∀ x ∈ g, 0 ≤ x ∧ x < (t.length : Int))) = true := h1
    rw [Bool.not_eq_true'] at h1; exact absurd hg (of_decide_eq_false h1)
  refine Or.inl (cq (rin_fn t m) (And.intro rfl (And.intro rfl trivial)) ?_)
  refine And.intro (fun h1 => ?_) (fun _ => ?_)
  · have h1 : (!decide (∀ x ∈ m, 0 ≤ x ∧ x < (t.length : Int))) = true := h1
    rw [Bool.not_eq_true'] at h1; exact absurd hm (of_decide_eq_false h1)
  refine And.intro (fun h1 => absurd (show (g.length : Int) = 0 from h1) (by omega)) (fun _ => ?_)
  refine And.intro (fun h1 => absurd (show (m.length : Int) = 0 from h1) (by omega)) (fun _ => ?_)
  refine Or.inl (cq (iTwo_fn t g hs hg) (And.intro rfl (And.intro rfl trivial)) ?_)
  refine Or.inl (cq (iTwo_fn t m hs hm) (And.intro rfl (And.intro rfl trivial)) ?_)
  have hgm : inT t (g ++ m) := fun x hx => Or.elim (List.mem_append.1 hx) (hg x) (hm x)
  have ia := two_id hs hg hgp
  have ib := two_id hs hm hmp
  have ic := two_id hs hgm (by rw [List.length_append]; omega)
  have pa := ree_is hs ia
  have pb := ree_is hs ib
  have hjoin := ree_join hS ia ib ic fun x _ => two_app hs
  have hcl := ree_count ia
  refine And.intro (show ((([] : List Int) ++ g).length : Int) ≤ 17592186044416 by rw [List.nil_append]; omega) ?_
  refine And.intro (show ((([] : List Int) ++ g ++ m).length : Int) ≤ 17592186044416 by rw [List.nil_append, List.length_append]; omega) ?_
  refine Or.inl (cq (iTwo_fn t (g ++ m) hs hgm) (And.intro rfl (And.intro rfl trivial)) ?_)
  refine Or.inl (cq (crees_fn t _ hs ia) (And.intro rfl (And.intro rfl trivial)) ?_)
  refine Or.inl (cq (crees_fn t _ hs ib) (And.intro rfl (And.intro rfl trivial)) ?_)
  refine Or.inl (cq (iquot_fn t hs _ ia) (And.intro rfl (And.intro rfl trivial)) ?_)
  refine Or.inl (cq (cQuo_fn t _ pa) (And.intro rfl (And.intro rfl trivial)) ?_)
  refine And.intro (fun _ => ?_) (fun h1 => absurd rfl h1)
  refine And.intro (fun _ => ?_) (fun h2 => absurd rfl h2)
  refine And.intro (fun _ => ?_) (fun h3 => absurd (by rw [quotQ_len, quoL_len, hcl]) h3)
  refine And.intro (fun _ => ?_) (fun h4 => absurd (by rw [pa.len]) h4)
  have hpj := pjoin_fn _ _ ⟨by rw [pa.len, pb.len], pa.val, pb.val⟩
  rw [pa.len, hjoin] at hpj
  refine Or.inl (cq hpj (And.intro rfl (And.intro rfl trivial)) ?_)
  refine Or.inl (cq (crees_fn t _ hs ic) (And.intro rfl (And.intro rfl trivial)) ?_)
  refine Or.inl (cq (same_fn _ _) (And.intro rfl (And.intro rfl trivial)) ?_)
  refine And.intro (fun _ => Or.inl (cq awake19_fn trivial (And.intro rfl trivial))) (fun h5 => absurd rfl (of_decide_eq_false h5))
theorem cgIdsN_k (t : List (List Int)) (g m : List Int) (h : ¬ (Semi t ∧ t.length ≤ 12 ∧ inT t g ∧ inT t m ∧ 0 < g.length ∧ 0 < m.length)) : fnK TY SP Try.f12 [.ro (.rows .i64 t), .ro (.ints .i64 g), .ro (.ints .i64 m)] (.bool (.lit true)) := by
  refine Or.inl (cq (small19_fn t 12) (And.intro rfl (And.intro rfl trivial)) ?_)
  refine And.intro (fun _ => Or.inl (cq awake19_fn trivial (And.intro rfl trivial))) (fun h1 => ?_)
  have h1 : (!decide ((t.length : Int) ≤ 12 ∧ validV t = 0)) = false := h1
  rw [Bool.not_eq_false'] at h1
  have h1 := of_decide_eq_true h1
  refine Or.inl (cq (rin_fn t g) (And.intro rfl (And.intro rfl trivial)) ?_)
  refine And.intro (fun _ => Or.inl (cq awake19_fn trivial (And.intro rfl trivial))) (fun h2 => ?_)
  have h2 : (!decide (∀ x ∈ g, 0 ≤ x ∧ x < (t.length : Int))) = false := h2
  rw [Bool.not_eq_false'] at h2
  have h2 := of_decide_eq_true h2
  refine Or.inl (cq (rin_fn t m) (And.intro rfl (And.intro rfl trivial)) ?_)
  refine And.intro (fun _ => Or.inl (cq awake19_fn trivial (And.intro rfl trivial))) (fun h3 => ?_)
  have h3 : (!decide (∀ x ∈ m, 0 ≤ x ∧ x < (t.length : Int))) = false := h3
  rw [Bool.not_eq_false'] at h3
  have h3 := of_decide_eq_true h3
  refine And.intro (fun _ => Or.inl (cq awake19_fn trivial (And.intro rfl trivial))) (fun h4 => ?_)
  have h4 : (g.length : Int) ≠ 0 := h4
  refine And.intro (fun _ => Or.inl (cq awake19_fn trivial (And.intro rfl trivial))) (fun h5 => ?_)
  have h5 : (m.length : Int) ≠ 0 := h5
  exact absurd ⟨valid_zero.1 h1.2, by omega, h2, h3, by omega, by omega⟩ h
theorem cgIds_fn (t : List (List Int)) (g m : List Int) (hgl : g.length ≤ 1048576) (hml : m.length ≤ 1048576) : QF 12 [.ro (.rows .i64 t), .ro (.ints .i64 g), .ro (.ints .i64 m)] (.bool (.lit true)) := mkQ Try.func12 (by decide +kernel) rfl (Nat.le_of_ble_eq_true rfl) fun _ => by
  by_cases h : Semi t ∧ t.length ≤ 12 ∧ inT t g ∧ inT t m ∧ 0 < g.length ∧ 0 < m.length
  · exact cgIds_k t g m h.1 h.2.1 h.2.2.1 h.2.2.2.1 h.2.2.2.2.1 h.2.2.2.2.2 hgl hml
  · exact cgIdsN_k t g m h
end Go.Proofs.Yteopelpnpdbbcaa
