/- Plain: congruences of a table. -/
import Derived.Test.YtfdmlmeegjhghaaPartLaw
import Derived.Test.YtfdmlmeegjhghaaTab
namespace Go.Proofs.Ytfdmlmeegjhghaa

/-- Elements of one class have products in one class, on the sides that count. -/
def CgA (t : List (List Int)) (p : List Int) (side : Int) (x y s : Nat) : Prop :=
  (side ≠ 2 → p.getD (en t s x) 0 = p.getD (en t s y) 0) ∧ (side ≠ 1 → p.getD (en t x s) 0 = p.getD (en t y s) 0)
def Cg (t : List (List Int)) (p : List Int) (side : Int) : Prop := ∀ x y s, x < t.length → y < t.length → s < t.length → p.getD x 0 = p.getD y 0 → CgA t p side x y s
/-- A partition of the table's elements that is a congruence of this kind. -/
structure IsCg (t : List (List Int)) (p : List Int) (side : Int) : Prop where
  semi : Semi t
  len : p.length = t.length
  val : validP p
  sd : 0 ≤ side ∧ side ≤ 2
  cg : Cg t p side
noncomputable def cgB (t : List (List Int)) (p : List Int) (side : Int) : Bool := @decide (IsCg t p side) (Classical.propDecidable _)
theorem cgB_true {t : List (List Int)} {p : List Int} {side : Int} : cgB t p side = true ↔ IsCg t p side := by unfold cgB; exact @decide_eq_true_iff _ (Classical.propDecidable _)
theorem cgB_false {t : List (List Int)} {p : List Int} {side : Int} : cgB t p side = false ↔ ¬ IsCg t p side := by unfold cgB; exact @decide_eq_false_iff_not _ (Classical.propDecidable _)
theorem CgA.trans {t : List (List Int)} {p : List Int} {side : Int} {x y z s : Nat} (h : CgA t p side x y s) (h' : CgA t p side z y s) : CgA t p side x z s :=
  ⟨fun hs => (h.1 hs).trans (h'.1 hs).symm, fun hs => (h.2 hs).trans (h'.2 hs).symm⟩
end Go.Proofs.Ytfdmlmeegjhghaa
