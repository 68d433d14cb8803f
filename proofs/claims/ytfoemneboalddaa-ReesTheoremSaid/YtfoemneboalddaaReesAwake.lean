/- The Brandt semigroup of order five; tables that are too large for a statement. -/
import Derived.Test.YtfoemneboalddaaRees
namespace Go.Proofs.Ytfoemneboalddaa
open Go Go.AM
set_option maxRecDepth 100000

theorem large_k (t : List (List Int)) (m : Int) (_ht : t.length ≤ 140737488355328) : fnK TY SP Try.f6 [.ro (.rows .i64 t), .int .i64 m] (.bool (.v (decide (m < t.length ∧ shapeV t = 0)))) := by
  refine And.intro (fun h1 => ?_) (fun h1 => ?_)
  · refine Or.inl (cq (rshape_fn t) (And.intro rfl trivial) ?_)
    refine And.intro ?_ trivial
    show decide (shapeV t = 0) = decide (m < t.length ∧ shapeV t = 0)
    simp [h1]
  · refine And.intro ?_ trivial
    show false = decide (m < t.length ∧ shapeV t = 0)
    rw [decide_eq_false (fun h => by omega)]
theorem large_fn (t : List (List Int)) (m : Int) : QF 6 [.ro (.rows .i64 t), .int .i64 m] (.bool (.v (decide (m < t.length ∧ shapeV t = 0)))) := mkQ Try.func6 (by decide +kernel) rfl (Nat.le_of_ble_eq_true rfl) fun hf => large_k t m hf.1.1

theorem brandt_k : fnK TY SP Try.f22 [] (rav [[0]] 2 2 [[0, -1], [-1, 0]] true) :=
  ⟨⟨⟨trivial, rfl⟩, rfl, rfl, ⟨trivial, rfl⟩, rfl, trivial⟩, trivial⟩
theorem brandt_fn : QF 22 [] (rav [[0]] 2 2 [[0, -1], [-1, 0]] true) := mkQ Try.func22 (by decide +kernel) rfl (Nat.le_of_ble_eq_true rfl) fun _ => brandt_k

theorem brandt_ok : Rees [[0]] 2 2 [[0, -1], [-1, 0]] true := by
  have hs : Sh [[0]] := ⟨by decide, by decide, fun r hr => by simp at hr; subst hr; exact ⟨rfl, fun x hx => by simp at hx; subst hx; decide⟩⟩
  have e0 : ∀ x y : Nat, x < 1 → y < 1 → en [[0]] x y = 0 := fun x y hx hy => by
    have : x = 0 := by omega
    have : y = 0 := by omega
    subst x; subst y; rfl
  refine ⟨⟨⟨hs, fun g hg x y hx hy => ?_⟩, 0, by decide, fun x hx => ?_, fun x hx => ⟨0, by decide, ?_⟩⟩, ⟨by decide, by decide, by decide, fun row hrow => ?_⟩, by decide⟩
  · have hg : g < 1 := hg
    have hx : x < 1 := hx
    have hy : y < 1 := hy
    rw [e0 x g hx hg, e0 g y hg hy, e0 0 y (by omega) hy, e0 x 0 hx (by omega)]
  · have hx : x < 1 := hx
    rw [e0 0 x (by omega) hx, e0 x 0 hx (by omega)]; omega
  · have hx : x < 1 := hx
    exact ⟨e0 x 0 hx (by omega), e0 0 x (by omega) hx⟩
  · simp at hrow
    rcases hrow with rfl | rfl
    · exact ⟨rfl, fun g hg => by simp at hg; rcases hg with rfl | rfl <;> decide⟩
    · exact ⟨rfl, fun g hg => by simp at hg; rcases hg with rfl | rfl <;> decide⟩
theorem brandt_reg : Reg 2 [[0, -1], [-1, 0]] := by
  refine ⟨fun j hj => ?_, fun i hi => ?_⟩
  · have hj : j < 2 := hj
    rcases Nat.lt_or_ge j 1 with h | h
    · have : j = 0 := by omega
      subst this; exact ⟨0, by decide, by decide⟩
    · have : j = 1 := by omega
      subst this; exact ⟨1, by decide, by decide⟩
  · rcases Nat.lt_or_ge i 1 with h | h
    · have : i = 0 := by omega
      subst this; exact ⟨0, by decide, by decide⟩
    · have : i = 1 := by omega
      subst this; exact ⟨1, by decide, by decide⟩

theorem awake_k : fnK TY SP Try.f7 [] (.bool (.lit true)) := by
  refine Or.inl (cq brandt_fn trivial ?_)
  refine Or.inl (cq (table_fn _ _ _ _ _ brandt_ok) (And.intro (by repeat' first | refine And.intro ?_ ?_ | exact True.intro | (show (_ : Int) = (_ : Int); omega) | omega | exact rfl | (simp only [RO.len]; omega)) trivial) ?_)
  refine And.intro (fun _ => ?_) (fun h => absurd rfl h)
  refine And.intro (fun _ => ?_) (fun h => absurd (show ((tabI [[0]] 2 [[0, -1], [-1, 0]] true 5).length : Int) = 5 by decide) h)
  refine Or.inl (cq brandt_fn trivial ?_)
  refine Or.inl (cq (reg_fn _ _ _ _ _ brandt_ok) (And.intro (by repeat' first | refine And.intro ?_ ?_ | exact True.intro | (show (_ : Int) = (_ : Int); omega) | omega | exact rfl | (simp only [RO.len]; omega)) trivial) ?_)
  refine And.intro (fun _ => ?_) (fun h => absurd (h.symm.trans (regB_true.2 brandt_reg)) (by decide))
  refine And.intro (by omega) ?_
  refine And.intro (by decide +kernel) ?_
  refine And.intro (fun _ => ?_) (fun h => absurd (show ((tabI [[0]] 2 [[0, -1], [-1, 0]] true 5).getD 1 []).getD 1 0 = 1 by decide +kernel) h)
  refine And.intro (by omega) ?_
  refine And.intro (by decide +kernel) ?_
  refine And.intro ?_ trivial
  show decide (((tabI [[0]] 2 [[0, -1], [-1, 0]] true 5).getD 1 []).getD 4 0 = 0) = true
  decide +kernel
theorem awake_fn : QF 7 [] (.bool (.lit true)) := mkQ Try.func7 (by decide +kernel) rfl (Nat.le_of_ble_eq_true rfl) fun _ => awake_k
end Go.Proofs.Ytfoemneboalddaa
