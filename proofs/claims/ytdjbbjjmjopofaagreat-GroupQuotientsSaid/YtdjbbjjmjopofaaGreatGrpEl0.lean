/- The reference's inverses, as a plain contract. -/
import Derived.Test.YtdjbbjjmjopofaaGreatGrp
namespace Go.Proofs.YtdjbbjjmjopofaaGreat
open Go Go.AM
set_option maxRecDepth 100000
theorem qOfE {f : FuncId} {args : List AV} {X : Type} {out : X → AV} {c : X} (h : EF f args out (fun v => v = c)) : QF f args (out c) := ⟨h.1, fun M w vs hM hv => (h.2 M w vs hM hv).mono fun e w' ⟨x, hx, v, r⟩ => ⟨v, by subst hx; exact r⟩⟩
theorem rinvQ_fn (t : List (List Int)) (h : Grp t) (x : Nat) (hx : x < t.length) : QF 22 [.ro (.rows .i64 t), .int .i64 x] (.int .i64 (invN t x)) := qOfE (out := fun v : Int => .int .i64 v) (rinvY_fn t h x hx)
end Go.Proofs.YtdjbbjjmjopofaaGreat
