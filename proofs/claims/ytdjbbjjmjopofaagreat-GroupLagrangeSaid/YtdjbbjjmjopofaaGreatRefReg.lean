/- The members of a set; regular matrices, by the reference. -/
import Derived.Test.YtdjbbjjmjopofaaGreatRefRees
namespace Go.Proofs.YtdjbbjjmjopofaaGreat
open Go Go.AM
set_option maxRecDepth 100000

/-- The members below k of a set, in order. -/
def memTo (l : List Bool) (k : Nat) : List Int := ((List.range k).filter fun i => l.getD i false).map fun i : Nat => (i : Int)
def memV (l : List Bool) : List Int := memTo l l.length
theorem memTo_len {l : List Bool} {k : Nat} : (memTo l k).length ≤ k := by
  unfold memTo; rw [List.length_map]
  exact Nat.le_trans (List.length_filter_le _ _) (by simp)
end Go.Proofs.YtdjbbjjmjopofaaGreat
