/- The reference: classes made one; nothing joined: contracts. -/
import Derived.Test.YteopelpnpdbbcaaEqvLaw
import Derived.Test.YteopelpnpdbbcaaRefPart
namespace Go.Proofs.Yteopelpnpdbbcaa
open Go Go.AM
set_option maxRecDepth 100000
theorem merge_k (p : List Int) (i j : Nat) (hi : i < p.length) (hj : j < p.length) (hp : p.length ≤ 4096) : fnMK TY SP Try.f68 [.vec 1000, .int .i64 i, .int .i64 j] [(1000, .vec 0 (.ints .i64 p) [])] (.tup []) [(1000, .vec 0 (.ints .i64 (mrgL p i j)) [])] := by
  refine Or.inl ?_
  refine Exists.intro [false, false, false, false, false, false, false, false, false, false] (And.intro (by decide +kernel) ?_)
  refine And.intro (by omega) ?_
  refine And.intro (by omega) ?_
  refine Exists.intro [] <| lp2 (fun (k : Nat) (_ : List Int) => [(19, .int .i64 k)]) (fun _ q => [(1000, .vec 0 (.ints .i64 q) [])]) (fun k q => k ≤ p.length ∧ q.length = p.length ∧ ∀ x, x < p.length → q.getD x 0 = if x < k then (mrgL p i j).getD x 0 else p.getD x 0) (fun k _ => p.length - k) 0 p ⟨Nat.zero_le _, rfl, fun x hx => by rw [if_neg (Nat.not_lt_zero _)]⟩ (by repeat' first | refine And.intro ?_ ?_ | exact True.intro | (show (_ : Int) = (_ : Int); omega) | omega | exact rfl | (simp only [RO.len]; omega)) ?_
  rintro k q ⟨hk, hq, hv⟩
  refine And.intro (fun h1 => ?_) (fun h1 => ?_)
  · have h1 : (k : Int) < (p.length : Int) := h1
    have hkl : k < p.length := by omega
    have hqk := hv k hkl
    rw [if_neg (Nat.lt_irrefl k)] at hqk
    have hmk := mrgL_get (p := p) (i := i) (j := j) hkl
    have nxt : ∀ (r : List Int), (∀ x, x < p.length → r.getD x 0 = if x = k then (mrgL p i j).getD k 0 else q.getD x 0) → ∀ x, x < p.length → r.getD x 0 = if x < k + 1 then (mrgL p i j).getD x 0 else p.getD x 0 := fun r hr x hx => by
      rw [hr x hx]
      by_cases e : x = k
      · subst e; rw [if_pos rfl, if_pos (by omega)]
      · rw [if_neg e, hv x hx]
        by_cases e2 : x < k
        · rw [if_pos e2, if_pos (by omega)]
        · rw [if_neg e2, if_neg (by omega)]
    refine And.intro (show 0 ≤ (k : Int) ∧ (k : Int) < (q.length : Int) by omega) ?_
    refine And.intro (fun h2 => ?_) (fun h2 => ?_)
    · have h2 : q.getD k 0 = p.getD j 0 := h2
      refine And.intro (show 0 ≤ (k : Int) ∧ (k : Int) < (q.length : Int) by omega) ?_
      refine And.intro (by omega) ?_
      refine And.intro (by omega) ?_
      refine nx (k + 1, q.set k (p.getD i 0)) ⟨by omega, by rw [List.length_set]; exact hq, nxt _ fun x hx => ?_⟩ (show p.length - (k + 1) < p.length - k by omega) (by repeat' first | refine And.intro ?_ ?_ | exact True.intro | (show (_ : Int) = (_ : Int); omega) | omega | exact rfl | (simp only [RO.len]; omega))
      by_cases e : x = k
      · subst e; rw [getD_set_eq (by omega), if_pos rfl, hmk, if_pos (hqk ▸ h2)]
      · rw [getD_set_ne (Ne.symm e), if_neg e]
    · have h2 : q.getD k 0 ≠ p.getD j 0 := h2
      refine And.intro (by omega) ?_
      refine nx (k + 1, q) ⟨by omega, hq, nxt _ fun x hx => ?_⟩ (show p.length - (k + 1) < p.length - k by omega) (by repeat' first | refine And.intro ?_ ?_ | exact True.intro | (show (_ : Int) = (_ : Int); omega) | omega | exact rfl | (simp only [RO.len]; omega))
      by_cases e : x = k
      · subst e; rw [if_pos rfl, hmk, if_neg (hqk ▸ h2)]; exact hqk
      · rw [if_neg e]
  · have h1 : (p.length : Int) ≤ (k : Int) := h1
    refine And.intro ?_ trivial
    refine And.intro (And.intro (by omega) ?_) trivial
    refine congrArg (RO.ints .i64) (ext_getD 0 (by rw [mrgL_len]; exact hq) fun x hx => ?_)
    rw [hv x (by omega), if_pos (by omega)]
theorem merge_fn (p : List Int) (i j : Nat) (hi : i < p.length) (hj : j < p.length) (hp : p.length ≤ 4096) : MF 68 [.vec 1000, .int .i64 i, .int .i64 j] [(1000, .vec 0 (.ints .i64 p) [])] (.tup []) [(1000, .vec 0 (.ints .i64 (mrgL p i j)) [])] := mkM Try.func68 (by decide +kernel) rfl (Nat.le_of_ble_eq_true rfl) fun _ => merge_k p i j hi hj hp

theorem rdis_k (n : Nat) (hn : n ≤ 4096) : fnK TY SP Try.f70 [.int .i64 n] (.new (.ints .i64 (disI n))) := by
  refine And.intro (by omega) ?_
  refine And.intro (by omega) ?_
  refine Exists.intro [] <| lp2 (fun (k : Nat) (_ : List Int) => [(9, .int .i64 k)]) (fun _ L => [(6, .vec 0 (.ints .i64 L) [])]) (fun k L => k ≤ n ∧ L.length = n ∧ ∀ j, j < k → L.getD j 0 = (j : Int)) (fun k _ => n - k) 0 (List.replicate n 0) ⟨Nat.zero_le _, by simp, by omega⟩ (by repeat' first | refine And.intro ?_ ?_ | exact True.intro | (show (_ : Int) = (_ : Int); omega) | omega | exact rfl | (simp; omega)) ?_
  rintro k L ⟨hk, hL, hj⟩
  refine And.intro (fun h1 => ?_) (fun h1 => ?_)
  · have h1 : (k : Int) < ((List.replicate ((n : Nat) : Int).toNat (0 : Int)).length : Int) := h1
    rw [List.length_replicate, Int.toNat_natCast] at h1
    have hkl : k < n := by omega
    refine And.intro (show 0 ≤ (k : Int) ∧ (k : Int) < (L.length : Int) by omega) ?_
    refine And.intro (by omega) ?_
    refine And.intro (by omega) ?_
    refine nx (k + 1, L.set k (k : Int)) ⟨by omega, by rw [List.length_set]; exact hL, fun j hj' => ?_⟩ (show n - (k + 1) < n - k by omega) (by repeat' first | refine And.intro ?_ ?_ | exact True.intro | (show (_ : Int) = (_ : Int); omega) | omega | exact rfl | (simp only [RO.len]; omega))
    by_cases e : j = k
    · subst e; rw [getD_set_eq (by omega)]
    · rw [getD_set_ne (Ne.symm e)]; exact hj j (by omega)
  · have h1 : ((List.replicate ((n : Nat) : Int).toNat (0 : Int)).length : Int) ≤ (k : Int) := h1
    rw [List.length_replicate, Int.toNat_natCast] at h1
    refine And.intro (And.intro (by omega) ?_) trivial
    refine congrArg (RO.ints .i64) (ext_getD 0 (by rw [disI_len]; exact hL) fun j hj' => ?_)
    rw [hj j (by omega), disI_get (by omega)]
theorem rdis_fn (n : Nat) (hn : n ≤ 4096) : QF 70 [.int .i64 n] (.new (.ints .i64 (disI n))) := mkQ Try.func70 (by decide +kernel) rfl (Nat.le_of_ble_eq_true rfl) fun _ => rdis_k n hn
end Go.Proofs.Yteopelpnpdbbcaa
