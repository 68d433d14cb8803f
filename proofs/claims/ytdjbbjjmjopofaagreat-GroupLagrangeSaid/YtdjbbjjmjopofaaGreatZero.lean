import Derived.Test.YtdjbbjjmjopofaaGreatIdealsLaw
import Derived.Test.YtdjbbjjmjopofaaGreatLatLaw
import Derived.Test.YtdjbbjjmjopofaaGreatMult
/- mult.Zero where 0 is a zero: contract. -/
namespace Go.Proofs.YtdjbbjjmjopofaaGreat
open Go Go.AM
set_option maxRecDepth 100000
set_option maxHeartbeats 1000000
def elemsL (n : Nat) : List Int := (List.range n).map fun i : Nat => (i : Int)
theorem elems_k (t : List (List Int)) (hn : t.length ≤ 400) : fnK TY SP Tryz.f116 [.ro (.rows .i64 t)] (.new (.ints .i64 (elemsL t.length))) := by
  refine And.intro (by omega) ?_
  refine And.intro (by omega) ?_
  refine Exists.intro [] <| lp2 (fun (k : Nat) (_ : List Int) => [(10, .int .i64 k)]) (fun _ L => [(7, .vec 0 (.ints .i64 L) [])]) (fun k L => k ≤ t.length ∧ L.length = t.length ∧ ∀ j, j < k → L.getD j 0 = (j : Int)) (fun k _ => t.length - k) 0 (List.replicate t.length 0) ⟨Nat.zero_le _, by simp, by omega⟩ (by repeat' first | refine And.intro ?_ ?_ | exact True.intro | (show (_ : Int) = (_ : Int); omega) | omega | exact rfl | (simp; omega)) ?_
  rintro k L ⟨hk, hL, hj⟩
  refine And.intro (fun h1 => ?_) (fun h1 => ?_)
  · have h1 : (k : Int) < ((List.replicate ((t.length : Nat) : Int).toNat (0 : Int)).length : Int) := h1
    rw [List.length_replicate, Int.toNat_natCast] at h1
    have hkl : k < t.length := by omega
    refine And.intro (show 0 ≤ (k : Int) ∧ (k : Int) < (L.length : Int) by omega) ?_
    refine And.intro (by omega) ?_
    refine And.intro (by omega) ?_
    refine nx (k + 1, L.set k (k : Int)) ⟨by omega, by rw [List.length_set]; exact hL, fun j hj' => ?_⟩ (show t.length - (k + 1) < t.length - k by omega) (by repeat' first | refine And.intro ?_ ?_ | exact True.intro | (show (_ : Int) = (_ : Int); omega) | omega | exact rfl | (simp only [RO.len]; omega))
    by_cases e : j = k
    · subst e; rw [getD_set_eq (by omega)]
    · rw [getD_set_ne (Ne.symm e)]; exact hj j (by omega)
  · have h1 : ((List.replicate ((t.length : Nat) : Int).toNat (0 : Int)).length : Int) ≤ (k : Int) := h1
    rw [List.length_replicate, Int.toNat_natCast] at h1
    refine And.intro (And.intro (by omega) ?_) trivial
    refine congrArg (RO.ints .i64) (ext_getD 0 (by simp [elemsL]; exact hL) fun j hj' => ?_)
    rw [hj j (by omega)]; unfold elemsL; rw [map_range_getD _ _ _ _ (by omega)]
theorem elems_fn (t : List (List Int)) (hn : t.length ≤ 400) : QF 116 [.ro (.rows .i64 t)] (.new (.ints .i64 (elemsL t.length))) := mkQ Tryz.func116 (by decide +kernel) rfl (Nat.le_of_ble_eq_true rfl) fun _ => elems_k t hn
theorem mvalid_k (t : List (List Int)) : fnK TY SP Tryz.f114 [.ro (.rows .i64 t)] (.bool (.v (decide (validV t = 0)))) := by
  refine Or.inl (cq (valid_fn t) (And.intro rfl trivial) ?_)
  exact And.intro rfl trivial
theorem mvalid_fn (t : List (List Int)) : QF 114 [.ro (.rows .i64 t)] (.bool (.v (decide (validV t = 0)))) := mkQ Tryz.func114 (by decide +kernel) rfl (Nat.le_of_ble_eq_true rfl) fun _ => mvalid_k t
end Go.Proofs.YtdjbbjjmjopofaaGreat
