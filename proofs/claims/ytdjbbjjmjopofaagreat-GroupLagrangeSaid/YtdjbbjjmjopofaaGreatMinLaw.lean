/- Minimal one-sided ideals: plain. -/
import Derived.Test.YtdjbbjjmjopofaaGreatLatLaw
namespace Go.Proofs.YtdjbbjjmjopofaaGreat
open Go Go.AM

def covB (L : List (List Int)) (x : Nat) : Bool := L.any fun l => setI l x
end Go.Proofs.YtdjbbjjmjopofaaGreat
