/- ReesCoordinates, the walk: it returns true. -/
import Derived.Test.YtfoemneboalddaaReesSame
import Derived.Test.YtfoemneboalddaaCoo
import Derived.Test.YtfoemneboalddaaRefCoo
namespace Go.Proofs.Ytfoemneboalddaa
open Go Go.AM
set_option maxRecDepth 100000
set_option maxHeartbeats 1000000
theorem reesCo_k (t : List (List Int)) (j : Int) : fnK TY SP Try.f3 [.ro (.rows .i64 t), .int .i64 j] (.bool (.lit true)) := by
  refine Or.inl (cq (large_fn t 20) (And.intro rfl (And.intro rfl trivial)) ?_)
  refine And.intro (fun h1 => ?_) (fun h1 => ?_)
  · exact Or.inl (cq awake_fn trivial (And.intro rfl trivial))
  by_cases hv : validV t = 0 ∧ 0 ≤ j ∧ j < numJ t
  · obtain ⟨n, rfl⟩ : ∃ n : Nat, j = n := ⟨j.toNat, by omega⟩
    have h := valid_zero.1 hv.1
    have hn : n < numJ t := by omega
    cases hr : (regL t).getD n false with
    | true =>
      have c := (eJ_ok h hn hr).2.2.2.1
      have hcr := cR_le c
      have hcc := cC_le c
      have hel := elems_le hn
      have hmost := h.most
      refine Or.inl (cq (coo_fn t h n hn hr) (And.intro rfl (And.intro rfl trivial)) ?_)
      refine Or.inl (cq (rcoo_fn t h n hn hr) (And.intro rfl (And.intro rfl trivial)) ?_)
      refine And.intro (fun _ => ?_) (fun h => absurd rfl h)
      refine Or.inl (cq (rsame_fn _ _ _ _ _ ⟨by omega, by omega⟩ ⟨by omega, by omega⟩) (And.intro (And.intro rfl (And.intro rfl (And.intro rfl (And.intro rfl (And.intro rfl trivial))))) (And.intro (And.intro rfl (And.intro rfl (And.intro rfl (And.intro rfl (And.intro rfl trivial))))) trivial)) ?_)
      refine Or.inl (cq (same_fn (cooM t n (eJ t n)) (cooM t n (eJ t n))) (And.intro rfl (And.intro rfl trivial)) ?_)
      refine And.intro (fun _ => ?_) (fun h => absurd h (by simp))
      exact Or.inl (cq awake_fn trivial (And.intro rfl trivial))
    | false =>
      refine Or.inl (cq (coo_none t h n hn hr) (And.intro rfl (And.intro rfl trivial)) ?_)
      refine Or.inl (cq (rcoo_none t h n hn hr) (And.intro rfl (And.intro rfl trivial)) ?_)
      refine And.intro (fun _ => ?_) (fun h => absurd rfl h)
      refine Or.inl (cq (rsame_fn [] 0 0 [] false ⟨by omega, by omega⟩ ⟨by omega, by omega⟩) (And.intro (And.intro rfl (And.intro rfl (And.intro rfl (And.intro rfl (And.intro rfl trivial))))) (And.intro (And.intro rfl (And.intro rfl (And.intro rfl (And.intro rfl (And.intro rfl trivial))))) trivial)) ?_)
      refine Or.inl (cq (same_fn [] []) (And.intro rfl (And.intro rfl trivial)) ?_)
      refine And.intro (fun _ => ?_) (fun h => absurd h (by simp))
      exact Or.inl (cq awake_fn trivial (And.intro rfl trivial))
  · refine Or.inl (cq (coo_no t j hv) (And.intro rfl (And.intro rfl trivial)) ?_)
    refine Or.inl (cq (rcoo_no t j hv) (And.intro rfl (And.intro rfl trivial)) ?_)
    refine And.intro (fun _ => ?_) (fun h => absurd rfl h)
    refine Or.inl (cq (rsame_fn [] 0 0 [] false ⟨by omega, by omega⟩ ⟨by omega, by omega⟩) (And.intro (And.intro rfl (And.intro rfl (And.intro rfl (And.intro rfl (And.intro rfl trivial))))) (And.intro (And.intro rfl (And.intro rfl (And.intro rfl (And.intro rfl (And.intro rfl trivial))))) trivial)) ?_)
    refine Or.inl (cq (same_fn [] []) (And.intro rfl (And.intro rfl trivial)) ?_)
    refine And.intro (fun _ => ?_) (fun h => absurd h (by simp))
    exact Or.inl (cq awake_fn trivial (And.intro rfl trivial))
theorem reesCo_fn (t : List (List Int)) (j : Int) : QF 3 [.ro (.rows .i64 t), .int .i64 j] (.bool (.lit true)) := mkQ Try.func3 (by decide +kernel) rfl (Nat.le_of_ble_eq_true rfl) fun _ => reesCo_k t j
end Go.Proofs.Ytfoemneboalddaa
