/- The law's comparison of two Rees matrix semigroups, where they are equal: contract. -/
import Derived.Test.YtfoemneboalddaaReesAwake
import Derived.Test.YtfoemneboalddaaRefRees
namespace Go.Proofs.Ytfoemneboalddaa
open Go Go.AM
set_option maxRecDepth 100000
set_option maxHeartbeats 1000000
theorem rsame_k (G : List (List Int)) (R C : Int) (P : List (List Int)) (z : Bool) (hR : -9223372036854775808 ≤ R ∧ R ≤ 9223372036854775807) (hC : -9223372036854775808 ≤ C ∧ C ≤ 9223372036854775807) : fnK TY SP Try.f10 [rav G R C P z, rav G R C P z] (.bool (.lit true)) := by
  refine Or.inl (cq (sameRows_fn G G) (And.intro rfl (And.intro rfl trivial)) ?_)
  refine And.intro (fun _ => ?_) (fun h => absurd h (by simp))
  refine And.intro (fun _ => ?_) (fun h => absurd rfl h)
  refine And.intro (fun _ => ?_) (fun h => absurd rfl h)
  refine Or.inl (cq (sameRows_fn P P) (And.intro rfl (And.intro rfl trivial)) ?_)
  refine And.intro (fun _ => ?_) (fun h => absurd h (by simp))
  refine And.intro ?_ trivial
  show (z == z) = true
  cases z <;> rfl
theorem rsame_fn (G : List (List Int)) (R C : Int) (P : List (List Int)) (z : Bool) (hR : -9223372036854775808 ≤ R ∧ R ≤ 9223372036854775807) (hC : -9223372036854775808 ≤ C ∧ C ≤ 9223372036854775807) : QF 10 [rav G R C P z, rav G R C P z] (.bool (.lit true)) := mkQ Try.func10 (by decide +kernel) rfl (Nat.le_of_ble_eq_true rfl) fun _ => rsame_k G R C P z hR hC
end Go.Proofs.Ytfoemneboalddaa
