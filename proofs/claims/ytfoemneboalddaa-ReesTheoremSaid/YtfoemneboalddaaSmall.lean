/- The law's guard: valid and of few elements: contract. -/
import Derived.Test.YtfoemneboalddaaGroup
namespace Go.Proofs.Ytfoemneboalddaa
open Go Go.AM
set_option maxRecDepth 100000

theorem small_k (t : List (List Int)) (m : Int) : fnK TY SP Try.f12 [.ro (.rows .i64 t), .int .i64 m] (.bool (.v (decide (t.length ≤ m ∧ validV t = 0)))) := by
  refine And.intro (fun h1 => ?_) (fun h1 => ?_)
  · refine Or.inl (cq (rvalid_fn t) (And.intro rfl trivial) ?_)
    refine And.intro ?_ trivial
    show decide (validV t = 0) = decide ((t.length : Int) ≤ m ∧ validV t = 0)
    have h1 : (t.length : Int) ≤ m := h1
    simp [h1]
  · refine And.intro ?_ trivial
    show false = decide ((t.length : Int) ≤ m ∧ validV t = 0)
    have h1 : m < (t.length : Int) := h1
    have : ¬ (t.length : Int) ≤ m := by omega
    simp [this]
theorem small_fn (t : List (List Int)) (m : Int) : QF 12 [.ro (.rows .i64 t), .int .i64 m] (.bool (.v (decide (t.length ≤ m ∧ validV t = 0)))) := mkQ Try.func12 (by decide +kernel) rfl (Nat.le_of_ble_eq_true rfl) fun _ => small_k t m

end Go.Proofs.Ytfoemneboalddaa
