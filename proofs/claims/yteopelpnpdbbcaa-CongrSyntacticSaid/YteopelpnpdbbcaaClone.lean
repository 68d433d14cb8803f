/- slices.Clone of integers: contract. -/
import Derived.Test.YteopelpnpdbbcaaBase
namespace Go.Proofs.Yteopelpnpdbbcaa
open Go Go.AM
set_option maxRecDepth 100000
theorem cloneI_k (l : List Int) (hl : l.length ≤ 4096) : fnK TY SP Try.f104 [.ro (.ints .i64 l)] (.new (.ints .i64 l)) := by
  refine And.intro (fun h1 => ?_) ?_
  · exact And.intro h1 trivial
  · refine And.intro (by simp; omega) ?_
    exact And.intro ⟨by omega, by simp⟩ trivial
theorem cloneI_fn (l : List Int) (hl : l.length ≤ 4096) : QF 104 [.ro (.ints .i64 l)] (.new (.ints .i64 l)) := mkQ Try.func104 (by decide +kernel) rfl (Nat.le_of_ble_eq_true rfl) fun _ => cloneI_k l hl

end Go.Proofs.Yteopelpnpdbbcaa
