import Derived.Test.YtpanlghofeebhaaGroup
import Derived.Test.YtpanlghofeebhaaEqvLaw
import Derived.Test.YtpanlghofeebhaaRefRees
import Derived.Test.YtpanlghofeebhaaSynLaw
import Derived.Test.YtpanlghofeebhaaSgpLaw
section
/- The forest of partition: root, union, partition; FromPairs; Discrete: contracts. -/
namespace Go.Proofs.Ytpanlghofeebhaa
open Go Go.AM
set_option maxRecDepth 100000
theorem froot_fn (n : Nat) (p : List Int) (r : Nat → Nat) (i : Nat) (h : Fo n p r) (hi : i < n) (hn : n ≤ 4096) : MF 104 [.vec 1000, .int .i64 i] [(1000, .vec 0 (.ints .i64 p) [])] (.int .i64 (r i : Nat)) [(1000, .vec 0 (.ints .i64 (fndL (i + 1) p i)) [])] := mkM Try.func104 (by decide +kernel) rfl (Nat.le_of_ble_eq_true rfl) fun _ => by
  refine Exists.intro [] <| lp2 (fun (j : Nat) (_ : List Int) => [(1, .int .i64 j)]) (fun _ q => [(1000, .vec 0 (.ints .i64 q) [])]) (fun j q => j < n ∧ Fo n q r ∧ r j = r i ∧ fndL (j + 1) q j = fndL (i + 1) p i) (fun j _ => j) i p ⟨hi, h, rfl, rfl⟩ (by repeat' first | refine And.intro ?_ ?_ | exact True.intro | (show (_ : Int) = (_ : Int); omega) | omega | exact rfl | (simp only [RO.len]; omega)) ?_
  rintro j q ⟨hj, hq, hr, hf⟩
  have hjl := hq.len
  have hle := hq.le j hj
  have hgg := hq.le (q.getD j 0).toNat (by omega)
  refine And.intro (by omega) ?_
  refine And.intro (fun h1 => ?_) (fun h1 => ?_)
  · have h1 : q.getD j 0 ≠ (j : Int) := h1
    have hl := half_lt hq hj h1
    have hqh := hq.half hj
    have hlh := hqh.le j hj
    have hlen := hqh.len
    refine And.intro (by omega) ?_
    refine And.intro (show 0 ≤ q.getD j 0 ∧ q.getD j 0 < (q.length : Int) by omega) ?_
    refine And.intro (by omega) ?_
    refine And.intro (by omega) ?_
    refine And.intro (show 0 ≤ (j : Int) ∧ (j : Int) < ((q.set j (q.getD (q.getD j 0).toNat 0)).length : Int) by rw [List.length_set]; omega) ?_
    have ej : (((halfL q j).getD j 0).toNat : Int) = (halfL q j).getD j 0 := by omega
    refine nx (((halfL q j).getD j 0).toNat, halfL q j) ⟨by omega, hqh, (hqh.par j hj).trans hr, ?_⟩ hl (by repeat' first | refine And.intro ?_ ?_ | exact True.intro | exact ej.symm | exact rfl | repeat' first | refine And.intro ?_ ?_ | exact True.intro | (show (_ : Int) = (_ : Int); omega) | omega | exact rfl | (simp only [RO.len]; omega))
    rw [← hf, fndL.eq_2 q j j, if_neg h1]
    exact fndL_fuel _ _ hqh (by omega) (by omega) (by omega)
  · have h1 : q.getD j 0 = (j : Int) := h1
    refine And.intro ?_ ?_
    · refine And.intro (And.intro (by omega) ?_) trivial
      rw [← hf]; unfold fndL; rw [if_pos h1]
    · show (j : Int) = (r i : Nat)
      rw [← hr, hq.fix j hj h1]
theorem funion_fn (n : Nat) (p : List Int) (r : Nat → Nat) (i j : Nat) (h : Fo n p r) (hi : i < n) (hj : j < n) (hn : n ≤ 4096) : MF 63 [.vec 1000, .int .i64 i, .int .i64 j] [(1000, .vec 0 (.ints .i64 p) [])] (.tup []) [(1000, .vec 0 (.ints .i64 (ufL r p i j)) [])] := mkM Try.func63 (by decide +kernel) rfl (Nat.le_of_ble_eq_true rfl) fun _ => by
  have h1 := fndL_fo (i + 1) h hi
  refine Or.inr (Or.inl (cm [] [(1000, 1000)] (froot_fn n p r i h hi hn) ?_))
  refine And.intro (by repeat' first | refine And.intro ?_ ?_ | exact True.intro | (show (_ : Int) = (_ : Int); omega) | omega | exact rfl | (simp only [RO.len]; omega)) ?_
  refine Or.inr (Or.inl (cm [] [(1000, 1000)] (froot_fn n (fndL (i + 1) p i) r j h1 hj hn) ?_))
  refine And.intro (by repeat' first | refine And.intro ?_ ?_ | exact True.intro | (show (_ : Int) = (_ : Int); omega) | omega | exact rfl | (simp only [RO.len]; omega)) ?_
  have h2 := fndL_fo (j + 1) h1 hj
  have hl := h2.len
  have ri := h.rlt hi
  have rj := h.rlt hj
  refine And.intro (by omega) ?_
  refine And.intro (by omega) ?_
  refine And.intro (And.intro (And.intro (by omega) ?_) trivial) trivial
  refine congrArg (RO.ints .i64) ?_
  unfold ufL
  rw [show (max (r i : Int) (r j : Int)).toNat = max (r i) (r j) by omega, show min (r i : Int) (r j : Int) = ((min (r i) (r j) : Nat) : Int) by omega]
theorem fpart_fn (n : Nat) (p : List Int) (r : Nat → Nat) (h : Fo n p r) (hn : n ≤ 4096) : MF 64 [.vec 1000] [(1000, .vec 0 (.ints .i64 p) [])] (.vec 21) [(21, .vec 0 (.ints .i64 (canon (rtL n r))) []), (1000, .vec 0 (.ints .i64 (fndA p n)) [])] := mkM Try.func64 (by decide +kernel) rfl (Nat.le_of_ble_eq_true rfl) fun _ => by
  have hpl := h.len
  refine And.intro (by omega) ?_
  refine And.intro (by omega) ?_
  refine Exists.intro [] <| lp2 (fun (k : Nat) (_ : List Int) => [(10, .int .i64 k)]) (fun k L => [(1000, .vec 0 (.ints .i64 (fndA p k)) []), (7, .vec 0 (.ints .i64 L) [])]) (fun k L => k ≤ n ∧ L.length = n ∧ ∀ j, j < k → L.getD j 0 = (r j : Int)) (fun k _ => n - k) 0 (List.replicate n 0) ⟨Nat.zero_le _, by simp, by omega⟩ (by repeat' first | refine And.intro ?_ ?_ | exact True.intro | (show (_ : Int) = (_ : Int); omega) | omega | exact rfl | (simp; omega)) ?_
  rintro k L ⟨hk, hL, hj⟩
  have hfo := fndA_fo h k hk
  have hfl := hfo.len
  refine And.intro (fun h1 => ?_) (fun h1 => ?_)
  · have h1 : (k : Int) < (p.length : Int) := h1
    have hkl : k < n := by omega
    refine Or.inr (Or.inl (cm [] [(1000, 1000)] (froot_fn n (fndA p k) r k hfo hkl hn) ?_))
    refine And.intro (by repeat' first | refine And.intro ?_ ?_ | exact True.intro | (show (_ : Int) = (_ : Int); omega) | omega | exact rfl | (simp only [RO.len]; omega)) ?_
    refine And.intro (by omega) ?_
    refine And.intro (by omega) ?_
    refine And.intro (by omega) ?_
    refine nx (k + 1, L.set k (r k : Int)) ⟨by omega, by rw [List.length_set]; exact hL, fun j hj' => ?_⟩ (show n - (k + 1) < n - k by omega) (by repeat' first | refine And.intro ?_ ?_ | exact True.intro | (show (_ : Int) = (_ : Int); omega) | omega | exact rfl | (simp only [RO.len]; omega))
    by_cases e : j = k
    · subst e; rw [getD_set_eq (by omega)]
    · rw [getD_set_ne (Ne.symm e)]; exact hj j (by omega)
  · have h1 : (p.length : Int) ≤ (k : Int) := h1
    obtain rfl : k = n := by omega
    have eL : L = rtL k r := ext_getD 0 (by rw [rtL_len]; exact hL) fun x hx => by rw [hj x (by omega), rtL_get (by omega)]
    subst eL
    refine Or.inl (cq (canonI_fn (rtL k r) (by rw [rtL_len]; omega)) (And.intro rfl trivial) ?_)
    exact And.intro (And.intro (And.intro (by omega) rfl) (And.intro (And.intro (by omega) rfl) trivial)) (And.intro (by omega) (And.intro trivial trivial))
theorem pdis_fn (n : Nat) (hn : n ≤ 4096) : QF 102 [.int .i64 n] (.new (.ints .i64 (disI n))) := mkQ Try.func102 (by decide +kernel) rfl (Nat.le_of_ble_eq_true rfl) fun _ => by
  refine And.intro (fun h1 => absurd (show (n : Int) < 0 from h1) (by omega)) (fun _ => ?_)
  refine And.intro (fun h1 => absurd (show (4096 : Int) < (n : Int) from h1) (by omega)) (fun _ => ?_)
  refine And.intro (by omega) ?_
  refine And.intro (by omega) ?_
  refine Exists.intro [] <| lp2 (fun (k : Nat) (_ : List Int) => [(14, .int .i64 k)]) (fun _ L => [(12, .vec 0 (.ints .i64 L) [])]) (fun k L => k ≤ n ∧ L.length = n ∧ ∀ j, j < k → L.getD j 0 = (j : Int)) (fun k _ => n - k) 0 (List.replicate n 0) ⟨Nat.zero_le _, by simp, by omega⟩ (by repeat' first | refine And.intro ?_ ?_ | exact True.intro | (show (_ : Int) = (_ : Int); omega) | omega | exact rfl | (simp; omega)) ?_
  rintro k L ⟨hk, hL, hj⟩
  refine And.intro (fun h1 => ?_) (fun h1 => ?_)
  · have h1 : (k : Int) < (n : Int) := h1
    have hkl : k < n := by omega
    refine And.intro (show 0 ≤ (k : Int) ∧ (k : Int) < (L.length : Int) by omega) ?_
    refine And.intro (by omega) ?_
    refine And.intro (by omega) ?_
    refine nx (k + 1, L.set k (k : Int)) ⟨by omega, by rw [List.length_set]; exact hL, fun j hj' => ?_⟩ (show n - (k + 1) < n - k by omega) (by repeat' first | refine And.intro ?_ ?_ | exact True.intro | (show (_ : Int) = (_ : Int); omega) | omega | exact rfl | (simp only [RO.len]; omega))
    by_cases e : j = k
    · subst e; rw [getD_set_eq (by omega)]
    · rw [getD_set_ne (Ne.symm e)]; exact hj j (by omega)
  · have h1 : (n : Int) ≤ (k : Int) := h1
    refine And.intro (And.intro (by omega) ?_) trivial
    refine congrArg (RO.ints .i64) (ext_getD 0 (by rw [disI_len]; exact hL) fun j hj' => ?_)
    rw [hj j (by omega), disI_get (by omega)]
theorem fnew_fn (n : Nat) (hn : n ≤ 4096) : QF 61 [.int .i64 n] (.new (.ints .i64 (disI n))) := mkQ Try.func61 (by decide +kernel) rfl (Nat.le_of_ble_eq_true rfl) fun _ => by
  refine Or.inl (cq (pdis_fn n hn) (And.intro rfl trivial) ?_)
  exact And.intro (And.intro (by omega) rfl) trivial
end Go.Proofs.Ytpanlghofeebhaa
end
section
/- Package congr: the forest: contracts. -/
namespace Go.Proofs.Ytpanlghofeebhaa
open Go Go.AM
set_option maxRecDepth 100000
abbrev foS (p : List Int) (c : Int) : Store := [(1000, .box [.vec 1001, .int .i64 c]), (1001, .vec 0 (.ints .i64 p) [])]
theorem cfind_fn (n : Nat) (p : List Int) (r : Nat → Nat) (c : Int) (i : Nat) (h : Fo n p r) (hi : i < n) (hn : n ≤ 4096) : MF 98 [.ptr 1000 0, .int .i64 i] (foS p c) (.int .i64 (r i : Nat)) (foS (fndL (i + 1) p i) c) := mkM Try.func98 (by decide +kernel) rfl (Nat.le_of_ble_eq_true rfl) fun _ => by
  refine Exists.intro [] <| lp2 (fun (j : Nat) (_ : List Int) => [(1, .int .i64 j)]) (fun _ q => [(1001, .vec 0 (.ints .i64 q) [])]) (fun j q => j < n ∧ Fo n q r ∧ r j = r i ∧ fndL (j + 1) q j = fndL (i + 1) p i) (fun j _ => j) i p ⟨hi, h, rfl, rfl⟩ (by repeat' first | refine And.intro ?_ ?_ | exact True.intro | (show (_ : Int) = (_ : Int); omega) | omega | exact rfl | (simp only [RO.len]; omega)) ?_
  rintro j q ⟨hj, hq, hr, hf⟩
  have hjl := hq.len
  have hle := hq.le j hj
  have hgg := hq.le (q.getD j 0).toNat (by omega)
  refine And.intro (by omega) ?_
  refine And.intro (fun h1 => ?_) (fun h1 => ?_)
  · have h1 : q.getD j 0 ≠ (j : Int) := h1
    have hl := half_lt hq hj h1
    have hqh := hq.half hj
    have hlh := hqh.le j hj
    have hlen := hqh.len
    refine Or.inl ?_
    refine Exists.intro [false, false, false, false, false, false, false, false, false, false, false, false, false, false, false, false, false, false, false, true] (And.intro (by decide +kernel) ?_)
    refine And.intro (by omega) ?_
    refine And.intro (by simp only [Int.toNat_natCast]; omega) ?_
    refine And.intro (by omega) ?_
    refine And.intro (by omega) ?_
    refine And.intro (by simp; omega) ?_
    have ej : (((halfL q j).getD j 0).toNat : Int) = (halfL q j).getD j 0 := by omega
    refine nx (((halfL q j).getD j 0).toNat, halfL q j) ⟨by omega, hqh, (hqh.par j hj).trans hr, ?_⟩ hl (by repeat' first | refine And.intro ?_ ?_ | exact True.intro | exact ej.symm | exact rfl | repeat' first | refine And.intro ?_ ?_ | exact True.intro | (show (_ : Int) = (_ : Int); omega) | omega | exact rfl | (simp only [RO.len]; omega))
    rw [← hf, fndL.eq_2 q j j, if_neg h1]
    exact fndL_fuel _ _ hqh (by omega) (by omega) (by omega)
  · have h1 : q.getD j 0 = (j : Int) := h1
    have e : q = fndL (i + 1) p i := by rw [← hf]; unfold fndL; rw [if_pos h1]
    refine And.intro (And.intro (by repeat' first | refine And.intro ?_ ?_ | exact True.intro | (show (_ : Int) = (_ : Int); omega) | omega | exact rfl | (simp only [RO.len]; omega)) (And.intro (And.intro (by omega) (congrArg (RO.ints .i64) e)) trivial)) ?_
    · show (j : Int) = (r i : Nat)
      rw [← hr, hq.fix j hj h1]
theorem cjoin_fn (n : Nat) (p : List Int) (r : Nat → Nat) (i j : Nat) (h : Fo n p r) (hi : i < n) (hj : j < n) (hn : n ≤ 4096) : MF 55 [.ptr 1000 0, .int .i64 i, .int .i64 j] (foS p (cntR n r)) (.bool (.v (decide (r i ≠ r j)))) (foS (jnP r p i j) (cntR n (jnR r i j))) := mkM Try.func55 (by decide +kernel) rfl (Nat.le_of_ble_eq_true rfl) fun _ => by
  have h1 := fndL_fo (i + 1) h hi
  have h2 := fndL_fo (j + 1) h1 hj
  have hl := h2.len
  have ri := h.rlt hi
  have rj := h.rlt hj
  have hc := jn_cnt h hi hj
  have hcl := cnt_le n r
  refine Or.inr (Or.inl (cm [] [(1000, 1000), (1001, 1001)] (cfind_fn n p r (cntR n r) i h hi hn) ?_))
  refine And.intro (by repeat' first | refine And.intro ?_ ?_ | exact True.intro | (show (_ : Int) = (_ : Int); omega) | omega | exact rfl | (simp only [RO.len]; omega)) ?_
  refine Or.inr (Or.inl (cm [] [(1000, 1000), (1001, 1001)] (cfind_fn n (fndL (i + 1) p i) r (cntR n r) j h1 hj hn) ?_))
  refine And.intro (by repeat' first | refine And.intro ?_ ?_ | exact True.intro | (show (_ : Int) = (_ : Int); omega) | omega | exact rfl | (simp only [RO.len]; omega)) ?_
  refine And.intro (fun h1 => ?_) (fun h1 => ?_)
  · have h1 : (r i : Int) = (r j : Int) := h1
    have h1 : r i = r j := by omega
    rw [if_pos h1] at hc
    have e : fndL (j + 1) (fndL (i + 1) p i) j = jnP r p i j := (if_pos h1).symm
    refine And.intro (And.intro (And.intro (by repeat' first | refine And.intro ?_ ?_ | exact True.intro | (show (_ : Int) = (_ : Int); omega) | omega | exact rfl | (simp only [RO.len]; omega)) (And.intro ?_ trivial)) (And.intro (And.intro (by omega) (congrArg (RO.ints .i64) e)) trivial)) ?_
    · show (cntR n r : Int) = (cntR n (jnR r i j) : Int)
      omega
    · exact (decide_eq_false fun h2 => h2 h1).symm
  · have h1 : (r i : Int) ≠ (r j : Int) := h1
    have h1 : r i ≠ r j := by omega
    rw [if_neg h1] at hc
    have e : (fndL (j + 1) (fndL (i + 1) p i) j).set (max (r i : Int) (r j : Int)).toNat (min (r i : Int) (r j : Int)) = jnP r p i j := by
      unfold jnP ufL
      rw [if_neg h1, show (max (r i : Int) (r j : Int)).toNat = max (r i) (r j) by omega, show min (r i : Int) (r j : Int) = ((min (r i) (r j) : Nat) : Int) by omega]
    refine And.intro (by omega) ?_
    refine And.intro (by omega) ?_
    refine And.intro (by omega) ?_
    refine And.intro (And.intro (And.intro (by repeat' first | refine And.intro ?_ ?_ | exact True.intro | (show (_ : Int) = (_ : Int); omega) | omega | exact rfl | (simp only [RO.len]; omega)) (And.intro ?_ trivial)) (And.intro (And.intro (by omega) (congrArg (RO.ints .i64) e)) trivial)) ?_
    · show (cntR n r : Int) - 1 = (cntR n (jnR r i j) : Int)
      omega
    · exact (decide_eq_true h1).symm
theorem creset_fn (n : Nat) (p : List Int) (c : Int) (hl : p.length = n) (hn : n ≤ 4096) : MF 67 [.ptr 1000 0] (foS p c) (.tup []) (foS (disI n) n) := mkM Try.func67 (by decide +kernel) rfl (Nat.le_of_ble_eq_true rfl) fun _ => by
  refine Exists.intro [] <| lp2 (fun (j : Nat) (_ : List Int) => [(8, .int .i64 j)]) (fun _ q => [(1001, .vec 0 (.ints .i64 q) [])]) (fun j q => j ≤ n ∧ q.length = n ∧ ∀ k, k < j → q.getD k 0 = (k : Int)) (fun j _ => n - j) 0 p ⟨Nat.zero_le _, hl, fun k h => by omega⟩ (by repeat' first | refine And.intro ?_ ?_ | exact True.intro | (show (_ : Int) = (_ : Int); omega) | omega | exact rfl | (simp only [RO.len]; omega)) ?_
  rintro j q ⟨hj, hq, hk⟩
  refine And.intro (fun h1 => ?_) (fun h1 => ?_)
  · have h1 : (j : Int) < (p.length : Int) := h1
    refine And.intro (by omega) ?_
    refine And.intro (by omega) ?_
    refine And.intro (by omega) ?_
    refine nx (j + 1, q.set j (j : Int)) ⟨by omega, by rw [List.length_set]; exact hq, fun k hkj => ?_⟩ (show n - (j + 1) < n - j by omega) (by repeat' first | refine And.intro ?_ ?_ | exact True.intro | (show (_ : Int) = (_ : Int); omega) | omega | exact rfl | (simp only [RO.len]; omega))
    by_cases e : k = j
    · subst e; rw [getD_set_eq (by omega)]
    · rw [getD_set_ne (Ne.symm e)]; exact hk k (by omega)
  · have h1 : (p.length : Int) ≤ (j : Int) := h1
    have e : q = disI n := ext_getD 0 (by rw [disI_len]; exact hq) fun k hk' => by rw [hk k (by omega), disI_get (by omega)]
    refine And.intro (And.intro (And.intro (by repeat' first | refine And.intro ?_ ?_ | exact True.intro | (show (_ : Int) = (_ : Int); omega) | omega | exact rfl | (simp only [RO.len]; omega)) (And.intro (show (q.length : Int) = (n : Int) by omega) trivial)) (And.intro (And.intro (by omega) (congrArg (RO.ints .i64) e)) trivial)) trivial
theorem cnew_fn (n : Nat) (hn : n ≤ 4096) : MF 49 [.int .i64 n] [] (.ptr 7 0) [(7, .box [.vec 5, .int .i64 n]), (5, .vec 0 (.ints .i64 (disI n)) [])] := mkM Try.func49 (by decide +kernel) rfl (Nat.le_of_ble_eq_true rfl) fun _ => by
  refine And.intro (by omega) ?_
  refine And.intro (by omega) ?_
  refine Or.inr (Or.inl (cm [] [(1000, 7), (1001, 5)] (creset_fn n (List.replicate n 0) 0 (by simp) hn) ?_))
  refine And.intro (by repeat' first | refine And.intro ?_ ?_ | exact True.intro | (show (_ : Int) = (_ : Int); omega) | omega | exact rfl | (simp only [RO.len]; omega)) ?_
  exact And.intro (And.intro (And.intro (by repeat' first | refine And.intro ?_ ?_ | exact True.intro | (show (_ : Int) = (_ : Int); omega) | omega | exact rfl | (simp only [RO.len]; omega)) (And.intro rfl trivial)) (And.intro (And.intro (by omega) rfl) trivial)) (by repeat' first | refine And.intro ?_ ?_ | exact True.intro | (show (_ : Int) = (_ : Int); omega) | omega | exact rfl | (simp only [RO.len]; omega))
theorem cpart_fn (n : Nat) (p : List Int) (r : Nat → Nat) (c : Int) (h : Fo n p r) (hn : n ≤ 4096) : MF 53 [.ptr 1000 0] (foS p c) (.vec 12) ((12, .vec 0 (.ints .i64 (canon (rtL n r))) []) :: foS (fndA p n) c) := mkM Try.func53 (by decide +kernel) rfl (Nat.le_of_ble_eq_true rfl) fun _ => by
  have hpl := h.len
  have hrl := rtL_len n r
  refine And.intro (by omega) ?_
  refine And.intro (by omega) ?_
  refine Exists.intro [] <| lp2 (fun (k : Nat) (_ : List Int) => [(15, .int .i64 k), (4, .int .i64 ((firsts ((rtL n r).take k)).length : Int))]) (fun k L => [(1001, .vec 0 (.ints .i64 (fndA p k)) []), (12, .vec 0 (.ints .i64 L) [])]) (fun k L => k ≤ n ∧ L.length = n ∧ ∀ j, j < k → L.getD j 0 = (canon (rtL n r)).getD j 0) (fun k _ => n - k) 0 (List.replicate n 0) ⟨Nat.zero_le _, by simp, by omega⟩ (by repeat' first | refine And.intro ?_ ?_ | exact True.intro | (show (_ : Int) = (_ : Int); omega) | omega | exact rfl | (simp; omega)) ?_
  rintro k L ⟨hk, hL, hj⟩
  have hfo := fndA_fo h k hk
  have hfl := hfo.len
  have hfs : (firsts ((rtL n r).take k)).length ≤ k := by
    have := firsts_le ((rtL n r).take k)
    rw [List.length_take] at this; omega
  refine And.intro (fun h1 => ?_) (fun h1 => ?_)
  · have h1 : (k : Int) < ((List.replicate (p.length : Int).toNat (0 : Int)).length : Int) := h1
    rw [List.length_replicate] at h1
    have hkl : k < n := by omega
    have hle := h.rle (k + 1) k (by omega) hkl
    have hgk := rtL_get (r := r) hkl
    have htk := take_get (d := (0 : Int)) (l := rtL n r) (i := k) (by omega)
    refine Or.inr (Or.inl (cm [] [(1000, 1000), (1001, 1001)] (cfind_fn n (fndA p k) r c k hfo hkl hn) ?_))
    refine And.intro (by repeat' first | refine And.intro ?_ ?_ | exact True.intro | (show (_ : Int) = (_ : Int); omega) | omega | exact rfl | (simp only [RO.len]; omega)) ?_
    refine And.intro (fun h1 => ?_) (fun h1 => ?_)
    · have h1 : (r k : Int) = (k : Int) := h1
      have hrk : r k = k := by omega
      have hno : (rtL n r).getD k 0 ∉ (rtL n r).take k := fun hm => by
        obtain ⟨z, hz, hv⟩ := mem_getD 0 hm
        rw [List.length_take] at hz
        have hzk : z < k := by omega
        have hv : (rtL n r).getD z 0 = (rtL n r).getD k 0 := by rw [← hv]; simp [List.getD, hzk]
        rw [rtL_get (by omega), hgk] at hv
        have := h.rle (z + 1) z (by omega) (by omega)
        omega
      have hc1 := canon_out (d := (0 : Int)) (l := rtL n r) (i := k) (by omega) hno
      have hf1 : (firsts ((rtL n r).take (k + 1))).length = (firsts ((rtL n r).take k)).length + 1 := by rw [htk, firsts_out hno]; simp
      refine And.intro (by omega) ?_
      refine And.intro (by omega) ?_
      refine And.intro (by omega) ?_
      refine And.intro (by omega) ?_
      refine nx (k + 1, L.set k ((firsts ((rtL n r).take k)).length : Int)) ⟨by omega, by rw [List.length_set]; exact hL, fun j hjk => ?_⟩ (show n - (k + 1) < n - k by omega) (by repeat' first | refine And.intro ?_ ?_ | exact True.intro | (show (_ : Int) = (_ : Int); omega) | omega | exact rfl | (simp only [RO.len]; omega))
      by_cases e : j = k
      · subst e; rw [getD_set_eq (by omega)]; exact hc1.symm
      · rw [getD_set_ne (Ne.symm e)]; exact hj j (by omega)
    · have h1 : (r k : Int) ≠ (k : Int) := h1
      have hrk : r k < k := by omega
      have hgr := rtL_get (r := r) (i := r k) (n := n) (by omega)
      have hrr := h.rr hkl
      have hin : (rtL n r).getD k 0 ∈ (rtL n r).take k := by
        have : ((rtL n r).take k).getD (r k) 0 = (rtL n r).getD k 0 := by
          rw [hgk, ← hrr, ← hgr]; simp [List.getD, hrk, hrr]
        rw [← this]
        exact getD_mem (by rw [List.length_take]; omega)
      have hf1 : (firsts ((rtL n r).take (k + 1))).length = (firsts ((rtL n r).take k)).length := by rw [htk, firsts_in hin]
      have hc1 : (canon (rtL n r)).getD (r k) 0 = (canon (rtL n r)).getD k 0 := (canon_eq_iff (d := 0) (by omega) (by omega)).2 (by rw [hgr, hgk, hrr])
      refine And.intro (by omega) ?_
      refine And.intro (by omega) ?_
      refine And.intro (by omega) ?_
      refine And.intro (by omega) ?_
      refine nx (k + 1, L.set k (L.getD (r k) 0)) ⟨by omega, by rw [List.length_set]; exact hL, fun j hjk => ?_⟩ (show n - (k + 1) < n - k by omega) (by repeat' first | refine And.intro ?_ ?_ | exact True.intro | (show (_ : Int) = (_ : Int); omega) | omega | exact rfl | (simp only [RO.len]; omega))
      by_cases e : j = k
      · subst e; rw [getD_set_eq (by omega), hj _ hrk]; exact hc1
      · rw [getD_set_ne (Ne.symm e)]; exact hj j (by omega)
  · have h1 : ((List.replicate (p.length : Int).toNat (0 : Int)).length : Int) ≤ (k : Int) := h1
    rw [List.length_replicate] at h1
    obtain rfl : k = n := by omega
    have e : L = canon (rtL k r) := ext_getD 0 (by rw [canon_length, rtL_len]; exact hL) fun x hx => hj x (by omega)
    refine And.intro (And.intro (And.intro (by omega) (congrArg (RO.ints .i64) e)) (And.intro (And.intro (by repeat' first | refine And.intro ?_ ?_ | exact True.intro | (show (_ : Int) = (_ : Int); omega) | omega | exact rfl | (simp only [RO.len]; omega)) (And.intro rfl trivial)) (And.intro (And.intro (by omega) rfl) trivial))) (by repeat' first | refine And.intro ?_ ?_ | exact True.intro | (show (_ : Int) = (_ : Int); omega) | omega | exact rfl | (simp only [RO.len]; omega))
end Go.Proofs.Ytpanlghofeebhaa
end
section
/- Plain: the quotient of a table by a congruence. -/
namespace Go.Proofs.Ytpanlghofeebhaa
open Go Go.AM
def hdN (p : List Int) (c : Nat) : Nat := (((classes (classN p) p).getD c []).getD 0 0).toNat
section
variable {t : List (List Int)} {p : List Int}
theorem cls_pos (hp : canon p = p) {c : Nat} (hc : c < classN p) : 0 < ((classes (classN p) p).getD c []).length := by
  have hm := (valid_range hp (c : Int)).1 ⟨by omega, by omega⟩
  obtain ⟨i, hi, he⟩ := mem_getD 0 hm
  have := (mem_classes (p := p) hc (x := (i : Int))).2 ⟨by omega, by omega, by rw [Int.toNat_natCast]; exact he⟩
  exact List.length_pos_of_mem this
theorem hd_at (hp : canon p = p) {c : Nat} (hc : c < classN p) : hdN p c < p.length ∧ p.getD (hdN p c) 0 = (c : Int) ∧ ((classes (classN p) p).getD c []).getD 0 0 = (hdN p c : Int) := by
  have hm := (mem_classes hc).1 (getD_mem (d := 0) (cls_pos hp hc))
  unfold hdN
  exact ⟨by omega, hm.2.2, by omega⟩
theorem cls_lt (hp : canon p = p) {x : Nat} (hx : x < p.length) : 0 ≤ p.getD x 0 ∧ (p.getD x 0).toNat < classN p ∧ p.getD x 0 = ((p.getD x 0).toNat : Int) := by
  have := (valid_range hp (p.getD x 0)).2 (getD_mem hx)
  omega
theorem cls_some (hs : Sh t) (hl : p.length = t.length) : 0 < classN p := by
  have := hs.pos
  cases p with
  | nil => simp at hl; omega
  | cons a l =>
    have hm : a ∈ firsts (a :: l) := mem_firsts.2 (by simp)
    exact List.length_pos_of_mem hm
/-! ### How the rows are filled -/
end
end Go.Proofs.Ytpanlghofeebhaa
end
