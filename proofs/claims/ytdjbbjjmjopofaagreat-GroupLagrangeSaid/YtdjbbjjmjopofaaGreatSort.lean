/- slices.SortFunc over rows of integers: from the shelf's contract to the abstract machine's. -/
import Derived.Shelf.SlSortCmp.Whole1
import Derived.Test.YtdjbbjjmjopofaaGreatLay
import Derived.Test.YtdjbbjjmjopofaaGreatOrd
namespace Go.Proofs.YtdjbbjjmjopofaaGreat
open Go Go.AM Go.Sort Go.Lib

/-- A slice value that reads as integers. -/
def RowV (w : World) (M : Msk) : Type := { v : Value // ∃ m : List Int, SlI w M .i64 m v }
instance (w : World) (M : Msk) : Inhabited (RowV w M) := ⟨⟨.slice none 0 0, [], Nat.zero_le _, none, 0, rfl, Nat.le_refl _, .inl rfl⟩⟩
noncomputable def RowV.row {w : World} {M : Msk} (x : RowV w M) : List Int := Classical.choose x.2
section
variable {w : World} {M : Msk} {b : Nat} {cs : Array Value} {ty : TypeId} (hb : w.heap[b]? = some (.cells cs ty (0, 0)))
include hb

end

end Go.Proofs.YtdjbbjjmjopofaaGreat
