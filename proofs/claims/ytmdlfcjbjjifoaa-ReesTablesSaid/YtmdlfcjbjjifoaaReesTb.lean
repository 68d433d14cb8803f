/- ReesTables, the walk: it returns true. -/
import Derived.Test.YtmdlfcjbjjifoaaReesAwake
import Derived.Test.YtmdlfcjbjjifoaaRefRees
import Derived.Test.YtmdlfcjbjjifoaaReesAssoc
namespace Go.Proofs.Ytmdlfcjbjjifoaa
open Go Go.AM
set_option maxRecDepth 100000

theorem reesTb_k (G : List (List Int)) (R C : Int) (P : List (List Int)) (z : Bool) : fnK TY SP Try.f3 [rav G R C P z] (.bool (.lit true)) := by
  refine Or.inl (cq (large_fn G 16) (And.intro (by repeat' first | refine And.intro ?_ ?_ | exact True.intro | (show (_ : Int) = (_ : Int); omega) | omega | exact rfl | (simp only [RO.len]; omega)) (And.intro rfl trivial)) ?_)
  refine And.intro (fun h1 => ?_) (fun h1 => ?_)
  · exact Or.inl (cq awake_fn trivial (And.intro rfl trivial))
  refine Or.inl (cq (rval_fn G R C P z) (And.intro (by repeat' first | refine And.intro ?_ ?_ | exact True.intro | (show (_ : Int) = (_ : Int); omega) | omega | exact rfl | (simp only [RO.len]; omega)) trivial) ?_)
  refine And.intro (fun h2 => ?_) (fun h2 => ?_)
  · have h2 : reesV G R C P z = 0 := h2
    have h := rees_zero.1 h2
    refine Or.inl (cq (rsize_fn G R C P z h) (And.intro (by repeat' first | refine And.intro ?_ ?_ | exact True.intro | (show (_ : Int) = (_ : Int); omega) | omega | exact rfl | (simp only [RO.len]; omega)) trivial) ?_)
    refine And.intro (fun h3 => ?_) (fun h3 => ?_)
    · exact Or.inl (cq awake_fn trivial (And.intro rfl trivial))
    refine Or.inl (cq (table_fn G R C P z h) (And.intro (by repeat' first | refine And.intro ?_ ?_ | exact True.intro | (show (_ : Int) = (_ : Int); omega) | omega | exact rfl | (simp only [RO.len]; omega)) trivial) ?_)
    refine And.intro (fun h4 => absurd h2 h4) (fun h4 => ?_)
    refine And.intro (fun h5 => ?_) (fun h5 => absurd rfl h5)
    refine Or.inl (cq (rtable_fn G R C P z h) (And.intro (by repeat' first | refine And.intro ?_ ?_ | exact True.intro | (show (_ : Int) = (_ : Int); omega) | omega | exact rfl | (simp only [RO.len]; omega)) trivial) ?_)
    refine Or.inl (cq (sameRows_fn (tabI G C P z (sizeI G.length R C z).toNat) (tabI G C P z (sizeI G.length R C z).toNat)) (And.intro rfl (And.intro rfl trivial)) ?_)
    refine And.intro (fun h6 => ?_) (fun h6 => absurd h6 (by simp))
    refine Or.inl (cq (valid_fn (tabI G C P z (sizeI G.length R C z).toNat)) (And.intro rfl trivial) ?_)
    refine And.intro (fun h7 => ?_) (fun h7 => absurd (valid_zero.2 (rees_semi h)) h7)
    exact Or.inl (cq awake_fn trivial (And.intro rfl trivial))
  · have h2 : reesV G R C P z ≠ 0 := h2
    refine Or.inl (cq (table_no G R C P z h2) (And.intro (by repeat' first | refine And.intro ?_ ?_ | exact True.intro | (show (_ : Int) = (_ : Int); omega) | omega | exact rfl | (simp only [RO.len]; omega)) trivial) ?_)
    refine And.intro (fun h4 => ?_) (fun h4 => absurd h4 h2)
    refine And.intro (fun h5 => ?_) (fun h5 => absurd rfl h5)
    refine And.intro (fun h6 => ?_) (fun h6 => absurd rfl h6)
    exact Or.inl (cq awake_fn trivial (And.intro rfl trivial))
theorem reesTb_fn (G : List (List Int)) (R C : Int) (P : List (List Int)) (z : Bool) : QF 3 [rav G R C P z] (.bool (.lit true)) :=
  mkQ Try.func3 (by decide +kernel) rfl (Nat.le_of_ble_eq_true rfl) fun _ => reesTb_k G R C P z
end Go.Proofs.Ytmdlfcjbjjifoaa
