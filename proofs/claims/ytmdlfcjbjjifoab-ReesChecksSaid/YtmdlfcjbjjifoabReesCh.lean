/- ReesChecks, the walk: it returns true. -/
import Derived.Test.YtmdlfcjbjjifoabReesAwake
import Derived.Test.YtmdlfcjbjjifoabChk
import Derived.Test.YtmdlfcjbjjifoabRefChk
namespace Go.Proofs.Ytmdlfcjbjjifoab
open Go Go.AM
set_option maxRecDepth 100000

theorem reesCh_k (t : List (List Int)) (j : Int) (G : List (List Int)) (R C : Int) (P : List (List Int)) (z : Bool) (m : List Int) :
    fnK TY SP Try.f3 [.ro (.rows .i64 t), .int .i64 j, rav G R C P z, .ro (.ints .i64 m)] (.bool (.lit true)) := by
  refine Or.inl (cq (large_fn t 16) (And.intro rfl (And.intro rfl trivial)) ?_)
  refine And.intro (fun h1 => ?_) (fun h1 => ?_)
  · exact Or.inl (cq awake_fn trivial (And.intro rfl trivial))
  refine Or.inl (cq (large_fn G 8) (And.intro rfl (And.intro rfl trivial)) ?_)
  refine And.intro (fun h2 => ?_) (fun h2 => ?_)
  · exact Or.inl (cq awake_fn trivial (And.intro rfl trivial))
  refine Exists.intro [false, false, false, false, false, false, false, false, false, false, false, false, false, false, false] (And.intro (by decide +kernel) ?_)
  refine cq (chk_fn t j G R C P z m) (And.intro rfl (And.intro rfl (And.intro (by repeat' first | refine And.intro ?_ ?_ | exact True.intro | (show (_ : Int) = (_ : Int); omega) | omega | exact rfl | (simp only [RO.len]; omega)) (And.intro rfl trivial)))) ?_
  refine cq (rchk_fn t j G R C P z m) (And.intro rfl (And.intro rfl (And.intro (by repeat' first | refine And.intro ?_ ?_ | exact True.intro | (show (_ : Int) = (_ : Int); omega) | omega | exact rfl | (simp only [RO.len]; omega)) (And.intro rfl trivial)))) ?_
  refine And.intro (fun h3 => ?_) (fun h3 => absurd h3 (by simp [BE.val]))
  refine cq awake_fn trivial ?_
  exact And.intro rfl trivial
theorem reesCh_fn (t : List (List Int)) (j : Int) (G : List (List Int)) (R C : Int) (P : List (List Int)) (z : Bool) (m : List Int) :
    QF 3 [.ro (.rows .i64 t), .int .i64 j, rav G R C P z, .ro (.ints .i64 m)] (.bool (.lit true)) :=
  mkQ Try.func3 (by decide +kernel) rfl (Nat.le_of_ble_eq_true rfl) fun _ => reesCh_k t j G R C P z m
end Go.Proofs.Ytmdlfcjbjjifoab
