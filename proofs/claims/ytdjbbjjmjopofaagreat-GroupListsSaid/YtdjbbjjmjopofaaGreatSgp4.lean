/- Package group: its functions over subgroups: contracts. -/
import Derived.Test.YtdjbbjjmjopofaaGreatSgp3
namespace Go.Proofs.YtdjbbjjmjopofaaGreat
open Go Go.AM
set_option maxRecDepth 100000
theorem gNrm_k (t : List (List Int)) (l : List Int) (h : Grp t) : fnK TY SP Tryz.f35 [.ro (.rows .i64 t), .ro (.ints .i64 l)] (.bool (.v (clB t l && nrmB t (allI t) l))) := by
  refine Or.inl (cq (openY_fn t h) (And.intro rfl trivial) ?_)
  refine Or.inl ?_
  refine Exists.intro [false, false, false, false, false, false, false, false, false, false, false, false, false, false] (And.intro (by decide +kernel) ?_)
  refine cq (gsub_fn t l h) (And.intro (by repeat' first | refine And.intro ?_ ?_ | exact True.intro | (show (_ : Int) = (_ : Int); omega) | omega | exact rfl | (simp only [RO.len]; omega)) (And.intro rfl trivial)) ?_
  refine And.intro (fun h1 => ?_) (fun h1 => ?_)
  · have h1 : clB t l = true := h1
    refine cq (gall_fn t h.most) (And.intro (by repeat' first | refine And.intro ?_ ?_ | exact True.intro | (show (_ : Int) = (_ : Int); omega) | omega | exact rfl | (simp only [RO.len]; omega)) trivial) ?_
    refine cq (gnrm_fn t (allI t) l h (allI_in t) (clB_true.1 h1).ins) (And.intro (by repeat' first | refine And.intro ?_ ?_ | exact True.intro | (show (_ : Int) = (_ : Int); omega) | omega | exact rfl | (simp only [RO.len]; omega)) (And.intro rfl (And.intro rfl trivial))) ?_
    refine And.intro ?_ trivial
    show nrmB t (allI t) l = (clB t l && nrmB t (allI t) l)
    rw [h1]; rfl
  · have h1 : clB t l = false := h1
    refine And.intro ?_ trivial
    show false = (clB t l && nrmB t (allI t) l)
    rw [h1]; rfl
theorem gNrmN_k (t : List (List Int)) (l : List Int) (h : ¬ Grp t) : fnK TY SP Tryz.f35 [.ro (.rows .i64 t), .ro (.ints .i64 l)] (.bool (.lit false)) := by
  refine Or.inl (cq (open_fn t) (And.intro rfl trivial) ?_)
  refine Or.inl ?_
  refine Exists.intro [false, false, false, false, false, false, false, false, false, false, false, false, false, false] (And.intro (by decide +kernel) ?_)
  refine And.intro (fun h1 => absurd (grpB_true.1 h1) h) (fun h1 => ?_)
  exact And.intro rfl trivial

theorem gNrm_fn (t : List (List Int)) (l : List Int) : QF 35 [.ro (.rows .i64 t), .ro (.ints .i64 l)] (.bool (.v (grpB t && (clB t l && nrmB t (allI t) l)))) := by
  by_cases h : Grp t
  · rw [grpB_true.2 h, Bool.true_and]; exact mkQ Tryz.func35 (by decide +kernel) rfl (Nat.le_of_ble_eq_true rfl) fun _ => gNrm_k t l h
  · rw [grpB_false.2 h, Bool.false_and]; exact mkQ Tryz.func35 (by decide +kernel) rfl (Nat.le_of_ble_eq_true rfl) fun _ => gNrmN_k t l h
end Go.Proofs.YtdjbbjjmjopofaaGreat
