import Derived.Test.YteopelpnpdbbcaaGroup
import Derived.Test.YteopelpnpdbbcaaReesLaw
/- The reference of Rees matrix semigroups: its contracts. -/
namespace Go.Proofs.Yteopelpnpdbbcaa
open Go Go.AM
set_option maxRecDepth 100000

theorem same_k (a b : List Int) (ha : a.length ≤ 140737488355328) (_hb : b.length ≤ 140737488355328) : fnK TY SP Try.f19 [.ro (.ints .i64 a), .ro (.ints .i64 b)] (.bool (.v (decide (a = b)))) := by
  refine And.intro (fun h1 => ?_) (fun h1 => ?_)
  · refine And.intro ?_ trivial
    show false = decide (a = b)
    rw [decide_eq_false (fun e => h1 (by rw [e]))]
  refine Exists.intro [] <| lp (X := Nat) (fun k => [(13, .int .i64 k)]) (fun _ => []) (fun k => k ≤ a.length ∧ ∀ j, j < k → a.getD j 0 = b.getD j 0) (fun k => a.length - k) 0 ⟨Nat.zero_le _, by omega⟩ (by repeat' first | refine And.intro ?_ ?_ | exact True.intro | (show (_ : Int) = (_ : Int); omega) | omega | exact rfl | (simp only [RO.len]; omega)) ?_
  intro k hk
  refine And.intro (fun h2 => ?_) (fun h2 => ?_)
  · refine Or.inl <| Exists.intro [false, false, false, false, false, false, false, false, false] (And.intro (by decide +kernel) ?_)
    refine And.intro (by omega) ?_
    refine And.intro (by omega) ?_
    refine And.intro (fun h3 => ?_) (fun h3 => ?_)
    · refine And.intro ?_ trivial
      show false = decide (a = b)
      rw [decide_eq_false (fun e => h3 (by rw [e]))]
    · refine And.intro (by omega) ?_
      refine nx (k + 1) ⟨by omega, fun j hj => ?_⟩ (show a.length - (k + 1) < a.length - k by omega) (by repeat' first | refine And.intro ?_ ?_ | exact True.intro | (show (_ : Int) = (_ : Int); omega) | omega | exact rfl | (simp only [RO.len]; omega))
      by_cases hjk : j < k
      · exact hk.2 j hjk
      · have : j = k := by omega
        rw [this]; exact h3
  · refine And.intro ?_ trivial
    show true = decide (a = b)
    rw [decide_eq_true (ext_getD 0 (by omega) fun i hi => hk.2 i (by omega))]
theorem same_fn (a b : List Int) : QF 19 [.ro (.ints .i64 a), .ro (.ints .i64 b)] (.bool (.v (decide (a = b)))) := mkQ Try.func19 (by decide +kernel) rfl (Nat.le_of_ble_eq_true rfl) fun hf => same_k a b hf.1.1 hf.2.1.1

end Go.Proofs.Yteopelpnpdbbcaa
