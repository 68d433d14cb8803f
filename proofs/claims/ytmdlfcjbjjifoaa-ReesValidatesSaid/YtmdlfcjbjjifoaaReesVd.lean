/- ReesValidates, the walk: it returns true. -/
import Derived.Test.YtmdlfcjbjjifoaaReesAwake
import Derived.Test.YtmdlfcjbjjifoaaRefReg
namespace Go.Proofs.Ytmdlfcjbjjifoaa
open Go Go.AM
set_option maxRecDepth 100000

theorem reesVd_k (G : List (List Int)) (R C : Int) (P : List (List Int)) (z : Bool) : fnK TY SP Try.f4 [rav G R C P z] (.bool (.lit true)) := by
  refine Or.inl (cq (large_fn G 16) (And.intro (by repeat' first | refine And.intro ?_ ?_ | exact True.intro | (show (_ : Int) = (_ : Int); omega) | omega | exact rfl | (simp only [RO.len]; omega)) (And.intro rfl trivial)) ?_)
  refine And.intro (fun h1 => ?_) (fun h1 => ?_)
  · exact Or.inl (cq awake_fn trivial (And.intro rfl trivial))
  refine Or.inl (cq (rval_fn G R C P z) (And.intro (by repeat' first | refine And.intro ?_ ?_ | exact True.intro | (show (_ : Int) = (_ : Int); omega) | omega | exact rfl | (simp only [RO.len]; omega)) trivial) ?_)
  refine And.intro (fun h2 => ?_) (fun h2 => ?_)
  · have h2 : reesV G R C P z ≠ 0 := h2
    refine Or.inl (cq (rvalid2_fn G R C P z) (And.intro (by repeat' first | refine And.intro ?_ ?_ | exact True.intro | (show (_ : Int) = (_ : Int); omega) | omega | exact rfl | (simp only [RO.len]; omega)) trivial) ?_)
    refine And.intro (fun h5 => ?_) (fun h5 => absurd rfl h5)
    refine Or.inl (cq (sizef_fn G R C P z) (And.intro (by repeat' first | refine And.intro ?_ ?_ | exact True.intro | (show (_ : Int) = (_ : Int); omega) | omega | exact rfl | (simp only [RO.len]; omega)) trivial) ?_)
    rw [if_neg h2]
    refine And.intro (fun h5 => ?_) (fun h5 => absurd rfl h5)
    refine Or.inl (cq (reg_no G R C P z h2) (And.intro (by repeat' first | refine And.intro ?_ ?_ | exact True.intro | (show (_ : Int) = (_ : Int); omega) | omega | exact rfl | (simp only [RO.len]; omega)) trivial) ?_)
    exact Or.inl (cq awake_fn trivial (And.intro rfl trivial))
  · have h2 : reesV G R C P z = 0 := h2
    have h := rees_zero.1 h2
    refine Exists.intro [false, false, false, false, false, false, false, false, false, false, false, false, false, false, false, false, false, false, false, false, false, false] (And.intro (by decide +kernel) ?_)
    refine cq (rvalid2_fn G R C P z) (And.intro (by repeat' first | refine And.intro ?_ ?_ | exact True.intro | (show (_ : Int) = (_ : Int); omega) | omega | exact rfl | (simp only [RO.len]; omega)) trivial) ?_
    refine And.intro (fun h5 => ?_) (fun h5 => absurd rfl h5)
    refine cq (sizef_fn G R C P z) (And.intro (by repeat' first | refine And.intro ?_ ?_ | exact True.intro | (show (_ : Int) = (_ : Int); omega) | omega | exact rfl | (simp only [RO.len]; omega)) trivial) ?_
    rw [if_pos h2]
    refine cq (rsize_fn G R C P z h) (And.intro (by repeat' first | refine And.intro ?_ ?_ | exact True.intro | (show (_ : Int) = (_ : Int); omega) | omega | exact rfl | (simp only [RO.len]; omega)) trivial) ?_
    refine And.intro (fun h6 => ?_) (fun h6 => absurd rfl h6)
    refine cq (reg_fn G R C P z h) (And.intro (by repeat' first | refine And.intro ?_ ?_ | exact True.intro | (show (_ : Int) = (_ : Int); omega) | omega | exact rfl | (simp only [RO.len]; omega)) trivial) ?_
    refine cq (rreg_fn G R C P z h) (And.intro (by repeat' first | refine And.intro ?_ ?_ | exact True.intro | (show (_ : Int) = (_ : Int); omega) | omega | exact rfl | (simp only [RO.len]; omega)) trivial) ?_
    refine And.intro (fun h7 => ?_) (fun h7 => absurd h7 (by simp [BE.val]))
    refine cq awake_fn trivial ?_
    exact And.intro rfl trivial
theorem reesVd_fn (G : List (List Int)) (R C : Int) (P : List (List Int)) (z : Bool) : QF 4 [rav G R C P z] (.bool (.lit true)) :=
  mkQ Try.func4 (by decide +kernel) rfl (Nat.le_of_ble_eq_true rfl) fun _ => reesVd_k G R C P z
end Go.Proofs.Ytmdlfcjbjjifoaa
