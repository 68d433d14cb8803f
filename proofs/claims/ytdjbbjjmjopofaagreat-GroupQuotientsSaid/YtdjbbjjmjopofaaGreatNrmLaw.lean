/- Plain: normal subgroups: closures, joins, how many subgroups a small group has, the list of all. -/
import Derived.Test.YtdjbbjjmjopofaaGreatSgpLaw
import Derived.Test.YtdjbbjjmjopofaaGreatLatLaw
namespace Go.Proofs.YtdjbbjjmjopofaaGreat

/-- A normal subgroup, as an ascending list. -/
structure NS (t : List (List Int)) (l : List Int) : Prop where
  cl : ClL t l
  nrm : NrmIn t (allI t) l
theorem ClL.self {t : List (List Int)} {l : List Int} (h : ClL t l) : ascV t.length (setI l) = l := ascV_self h.asc h.ins
section
variable {t : List (List Int)}
theorem NS.sub (_h : Grp t) {l m : List Int} (hl : NS t l) (hs : ∀ x, x < t.length → setI l x = true → setI m x = true) : ∀ x ∈ l, x ∈ m := fun x hx => by
  have hi := hl.cl.ins x hx
  have := setI_iff.1 (hs x.toNat (by omega) (setI_iff.2 (by rw [Int.toNat_of_nonneg hi.1]; exact hx)))
  rwa [Int.toNat_of_nonneg hi.1] at this
/-! ### How many -/

end
end Go.Proofs.YtdjbbjjmjopofaaGreat
