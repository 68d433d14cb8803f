/- The reference's relations of Green (semigroupref15): contracts; the class of a table (semigroupref17). -/
import Derived.Test.YtdjbbjjmjopofaaGreatRefPart
import Derived.Test.YtdjbbjjmjopofaaGreatGroup
namespace Go.Proofs.YtdjbbjjmjopofaaGreat
open Go Go.AM
set_option maxRecDepth 100000

/-- A relation as rows of bools. -/
def rowsB (n : Nat) (e : Nat → Nat → Bool) : List (List Bool) := (List.range n).map fun x => setB n (e x)
theorem rowsB_len (n : Nat) (e : Nat → Nat → Bool) : (rowsB n e).length = n := by simp [rowsB]
theorem rowsB_row {n : Nat} {e : Nat → Nat → Bool} {x : Nat} (hx : x < n) : (rowsB n e).getD x [] = setB n (e x) := by
  unfold rowsB
  rw [List.getD, List.getElem?_map, List.getElem?_range hx]; rfl
theorem rowsB_get {n : Nat} {e : Nat → Nat → Bool} {x y : Nat} (hx : x < n) (hy : y < n) : ((rowsB n e).getD x []).getD y false = e x y := by rw [rowsB_row hx, setB_get hy]
theorem rowsB_take {n k : Nat} {e : Nat → Nat → Bool} (hk : k < n) : (rowsB n e).take (k + 1) = (rowsB n e).take k ++ [setB n (e k)] := by
  rw [take_snoc (d := []) (by rw [rowsB_len]; exact hk), rowsB_row hk]

end Go.Proofs.YtdjbbjjmjopofaaGreat
