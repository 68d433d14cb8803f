/- The members of a set; regular matrices, by the reference. -/
import Derived.Test.YteopelpnpdbbcaaRefRees
namespace Go.Proofs.Yteopelpnpdbbcaa
open Go Go.AM
set_option maxRecDepth 100000

/-- The members below k of a set, in order. -/
def memTo (l : List Bool) (k : Nat) : List Int := ((List.range k).filter fun i => l.getD i false).map fun i : Nat => (i : Int)
def memV (l : List Bool) : List Int := memTo l l.length
theorem memTo_yes {l : List Bool} {k : Nat} (h : l.getD k false = true) : memTo l (k + 1) = memTo l k ++ [(k : Int)] := by
  unfold memTo; rw [List.range_succ, List.filter_append, List.map_append, List.filter_cons_of_pos (p := fun i => l.getD i false) h]; rfl
theorem memTo_no {l : List Bool} {k : Nat} (h : l.getD k false = false) : memTo l (k + 1) = memTo l k := by
  unfold memTo; rw [List.range_succ, List.filter_append, List.map_append, List.filter_cons_of_neg (p := fun i => l.getD i false) (by rw [h]; decide)]; exact List.append_nil _
theorem memTo_len {l : List Bool} {k : Nat} : (memTo l k).length ≤ k := by
  unfold memTo; rw [List.length_map]
  exact Nat.le_trans (List.length_filter_le _ _) (by simp)
end Go.Proofs.Yteopelpnpdbbcaa
