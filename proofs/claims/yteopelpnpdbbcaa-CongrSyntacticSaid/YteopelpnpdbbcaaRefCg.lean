import Derived.Test.YteopelpnpdbbcaaPartLaw
import Derived.Test.YteopelpnpdbbcaaTab
import Derived.Test.YteopelpnpdbbcaaGroup
import Derived.Test.YteopelpnpdbbcaaPart
import Derived.Test.YteopelpnpdbbcaaRefPart
import Derived.Test.YteopelpnpdbbcaaRefRees
section
/- Plain: congruences of a table. -/
namespace Go.Proofs.Yteopelpnpdbbcaa

/-- Elements of one class have products in one class, on the sides that count. -/
def CgA (t : List (List Int)) (p : List Int) (side : Int) (x y s : Nat) : Prop :=
  (side ≠ 2 → p.getD (en t s x) 0 = p.getD (en t s y) 0) ∧ (side ≠ 1 → p.getD (en t x s) 0 = p.getD (en t y s) 0)
def Cg (t : List (List Int)) (p : List Int) (side : Int) : Prop := ∀ x y s, x < t.length → y < t.length → s < t.length → p.getD x 0 = p.getD y 0 → CgA t p side x y s
theorem CgA.trans {t : List (List Int)} {p : List Int} {side : Int} {x y z s : Nat} (h : CgA t p side x y s) (h' : CgA t p side z y s) : CgA t p side x z s :=
  ⟨fun hs => (h.1 hs).trans (h'.1 hs).symm, fun hs => (h.2 hs).trans (h'.2 hs).symm⟩
end Go.Proofs.Yteopelpnpdbbcaa
end
section
/- Package congr: which partitions are congruences: contract. -/
namespace Go.Proofs.Yteopelpnpdbbcaa
open Go Go.AM
set_option maxRecDepth 100000
def FstOk (p : List Int) (i : Nat) (f : List Int) : Prop := f.length = (firsts (p.take i)).length ∧ ∀ c, c < f.length → 0 ≤ f.getD c 0 ∧ (f.getD c 0).toNat < i ∧ p.getD (f.getD c 0).toNat 0 = c
theorem valid_upto {p : List Int} {i : Nat} (hi : i < p.length) (hok : ∀ j, j < p.length → stepOk p j) : (firsts (p.take (i + 1))).length = if p.getD i 0 = (firsts (p.take i)).length then (firsts (p.take i)).length + 1 else (firsts (p.take i)).length :=
  firsts_next hi (fun j hj => hok j (by omega)) (hok i hi)
theorem FstOk.new {p : List Int} {i : Nat} {f : List Int} (hok : ∀ j, j < p.length → stepOk p j) (hi : i < p.length) (hf : FstOk p i f) (h : p.getD i 0 = (f.length : Int)) : FstOk p (i + 1) (f ++ [(i : Int)]) := by
  refine ⟨by rw [valid_upto hi hok, if_pos (by rw [h, hf.1]), ← hf.1]; simp, fun c hc => ?_⟩
  by_cases e : c < f.length
  · have h1 := hf.2 c e
    have h2 : (f ++ [(i : Int)]).getD c 0 = f.getD c 0 := by simp [List.getD, List.getElem?_append_left e]
    rw [h2]; exact ⟨h1.1, by omega, h1.2.2⟩
  · have h1 : c = f.length := by simp at hc; omega
    subst h1
    have h2 : (f ++ [(i : Int)]).getD f.length 0 = i := by simp [List.getD]
    rw [h2]; exact ⟨by omega, by omega, by rw [Int.toNat_natCast, h]⟩
end Go.Proofs.Yteopelpnpdbbcaa
end
section
/- The references of chapters 3 and 19: valid partitions, congruences: contracts. -/
namespace Go.Proofs.Yteopelpnpdbbcaa
open Go Go.AM
set_option maxRecDepth 100000
end Go.Proofs.Yteopelpnpdbbcaa
end
