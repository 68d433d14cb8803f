import Derived.Shelf.SlSortCmp.Whole1
import Derived.Test.YtkbhgnbnnbengaaLay
import Derived.Test.YtkbhgnbnnbengaaSgpLaw
/- slices.SortFunc over rows of integers: from the shelf's contract to the abstract machine's. -/
namespace Go.Proofs.Ytkbhgnbnnbengaa
open Go Go.AM Go.Sort Go.Lib
def RowV (w : World) (M : Msk) : Type := { v : Value // ∃ m : List Int, SlI w M .i64 m v }
instance (w : World) (M : Msk) : Inhabited (RowV w M) := ⟨⟨.slice none 0 0, [], Nat.zero_le _, none, 0, rfl, Nat.le_refl _, .inl rfl⟩⟩
end Go.Proofs.Ytkbhgnbnnbengaa
