/- ReesPrincipal, the walk: it returns true. -/
import Derived.Test.YtmdlfcjbjjifoaaReesAwake
import Derived.Test.YtmdlfcjbjjifoaaRefRees
import Derived.Test.YtmdlfcjbjjifoaaPrin
namespace Go.Proofs.Ytmdlfcjbjjifoaa
open Go Go.AM
set_option maxRecDepth 100000

theorem reesPr_k (t : List (List Int)) (j : Int) : fnK TY SP Try.f7 [.ro (.rows .i64 t), .int .i64 j] (.bool (.lit true)) := by
  refine Or.inl (cq (large_fn t 20) (And.intro rfl (And.intro rfl trivial)) ?_)
  refine And.intro (fun h1 => ?_) (fun h1 => ?_)
  · exact Or.inl (cq awake_fn trivial (And.intro rfl trivial))
  by_cases hv : validV t = 0 ∧ 0 ≤ j ∧ j < numJ t
  · obtain ⟨n, rfl⟩ : ∃ n : Nat, j = n := ⟨j.toNat, by omega⟩
    have h := valid_zero.1 hv.1
    have hn : n < numJ t := by omega
    refine Or.inl (cq (prin_fn t h n hn) (And.intro rfl (And.intro rfl trivial)) ?_)
    refine Or.inl (cq (rprin_fn t h n hn) (And.intro rfl (And.intro rfl trivial)) ?_)
    refine And.intro (fun _ => ?_) (fun h => absurd rfl h)
    refine Or.inl (cq (sameRows_fn (prinTab t n) (prinTab t n)) (And.intro rfl (And.intro rfl trivial)) ?_)
    refine And.intro (fun _ => ?_) (fun h => absurd h (by simp))
    refine Or.inl (cq (same_fn (prinList t n) (prinList t n)) (And.intro rfl (And.intro rfl trivial)) ?_)
    refine And.intro (fun _ => ?_) (fun h => absurd h (by simp))
    exact Or.inl (cq awake_fn trivial (And.intro rfl trivial))
  · refine Or.inl (cq (prin_no t j hv) (And.intro rfl (And.intro rfl trivial)) ?_)
    refine Or.inl (cq (rprin_no t j hv) (And.intro rfl (And.intro rfl trivial)) ?_)
    refine And.intro (fun _ => ?_) (fun h => absurd rfl h)
    refine Or.inl (cq (sameRows_fn [] []) (And.intro rfl (And.intro rfl trivial)) ?_)
    refine And.intro (fun _ => ?_) (fun h => absurd h (by simp))
    refine Or.inl (cq (same_fn [] []) (And.intro rfl (And.intro rfl trivial)) ?_)
    refine And.intro (fun _ => ?_) (fun h => absurd h (by simp))
    exact Or.inl (cq awake_fn trivial (And.intro rfl trivial))
theorem reesPr_fn (t : List (List Int)) (j : Int) : QF 7 [.ro (.rows .i64 t), .int .i64 j] (.bool (.lit true)) := mkQ Try.func7 (by decide +kernel) rfl (Nat.le_of_ble_eq_true rfl) fun _ => reesPr_k t j
end Go.Proofs.Ytmdlfcjbjjifoaa
