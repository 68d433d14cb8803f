/- ReesMultiplies, the walk: it returns true. -/
import Derived.Test.YtmdlfcjbjjifoaaReesAwake
import Derived.Test.YtmdlfcjbjjifoaaRefRees
namespace Go.Proofs.Ytmdlfcjbjjifoaa
open Go Go.AM
set_option maxRecDepth 100000

theorem and_if {p q : Prop} [Decidable p] [Decidable q] {a b : Int} (h : p) : (if p ∧ q then a else b) = if q then a else b := by
  simp [h]
theorem reesMul_k (G : List (List Int)) (R C : Int) (P : List (List Int)) (z : Bool) (row g col x y : Int) : fnK TY SP Try.f5 [rav G R C P z, .int .i64 row, .int .i64 g, .int .i64 col, .int .i64 x, .int .i64 y] (.bool (.lit true)) := by
  refine Or.inl (cq (large_fn G 16) (And.intro (by repeat' first | refine And.intro ?_ ?_ | exact True.intro | (show (_ : Int) = (_ : Int); omega) | omega | exact rfl | (simp only [RO.len]; omega)) (And.intro rfl trivial)) ?_)
  refine And.intro (fun h1 => ?_) (fun h1 => ?_)
  · exact Or.inl (cq awake_fn trivial (And.intro rfl trivial))
  refine Exists.intro [false, false, false, false, false, false, false, false, false, false, false] (And.intro (by decide +kernel) ?_)
  refine cq (numf_fn G R C P z row g col) (And.intro (by repeat' first | refine And.intro ?_ ?_ | exact True.intro | (show (_ : Int) = (_ : Int); omega) | omega | exact rfl | (simp only [RO.len]; omega)) (And.intro rfl (And.intro rfl (And.intro rfl trivial)))) ?_
  refine cq (mulf_fn G R C P z x y) (And.intro (by repeat' first | refine And.intro ?_ ?_ | exact True.intro | (show (_ : Int) = (_ : Int); omega) | omega | exact rfl | (simp only [RO.len]; omega)) (And.intro rfl (And.intro rfl trivial))) ?_
  refine Or.inl (cq (rval_fn G R C P z) (And.intro (by repeat' first | refine And.intro ?_ ?_ | exact True.intro | (show (_ : Int) = (_ : Int); omega) | omega | exact rfl | (simp only [RO.len]; omega)) trivial) ?_)
  refine And.intro (fun h2 => ?_) (fun h2 => ?_)
  · rw [if_neg (fun h => h2 h.1), if_neg (fun h => h2 h.1)]
    refine And.intro (fun _ => ?_) (fun h => absurd rfl h)
    refine And.intro (fun _ => ?_) (fun h => absurd rfl h)
    exact Or.inl (cq awake_fn trivial (And.intro rfl trivial))
  have h := rees_zero.1 h2
  refine Or.inl (cq (rnum_fn G R C P z h row g col) (And.intro (by repeat' first | refine And.intro ?_ ?_ | exact True.intro | (show (_ : Int) = (_ : Int); omega) | omega | exact rfl | (simp only [RO.len]; omega)) (And.intro rfl (And.intro rfl (And.intro rfl trivial)))) ?_)
  refine And.intro (fun _ => ?_) (fun h3 => absurd (and_if h2) h3)
  refine Or.inl (cq (rmul_fn G R C P z h x y) (And.intro (by repeat' first | refine And.intro ?_ ?_ | exact True.intro | (show (_ : Int) = (_ : Int); omega) | omega | exact rfl | (simp only [RO.len]; omega)) (And.intro rfl (And.intro rfl trivial))) ?_)
  refine And.intro (fun _ => ?_) (fun h3 => absurd (and_if h2) h3)
  exact Or.inl (cq awake_fn trivial (And.intro rfl trivial))
theorem reesMul_fn (G : List (List Int)) (R C : Int) (P : List (List Int)) (z : Bool) (row g col x y : Int) : QF 5 [rav G R C P z, .int .i64 row, .int .i64 g, .int .i64 col, .int .i64 x, .int .i64 y] (.bool (.lit true)) :=
  mkQ Try.func5 (by decide +kernel) rfl (Nat.le_of_ble_eq_true rfl) fun _ => reesMul_k G R C P z row g col x y
end Go.Proofs.Ytmdlfcjbjjifoaa
