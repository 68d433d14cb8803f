import Derived.Test.YtkbhgnbnnbengaaForLaw
import Derived.Test.YtkbhgnbnnbengaaRefPart
import Derived.Test.YtkbhgnbnnbengaaIdealLaw
section
/- The forest of partition: root, union, partition; FromPairs; Discrete: contracts. -/
namespace Go.Proofs.Ytkbhgnbnnbengaa
open Go Go.AM
set_option maxRecDepth 100000
theorem froot_fn (n : Nat) (p : List Int) (r : Nat → Nat) (i : Nat) (h : Fo n p r) (hi : i < n) (hn : n ≤ 4096) : MF 95 [.vec 1000, .int .i64 i] [(1000, .vec 0 (.ints .i64 p) [])] (.int .i64 (r i : Nat)) [(1000, .vec 0 (.ints .i64 (fndL (i + 1) p i)) [])] := mkM Try.func95 (by decide +kernel) rfl (Nat.le_of_ble_eq_true rfl) fun _ => by
  refine Exists.intro [] <| lp2 (fun (j : Nat) (_ : List Int) => [(1, .int .i64 j)]) (fun _ q => [(1000, .vec 0 (.ints .i64 q) [])]) (fun j q => j < n ∧ Fo n q r ∧ r j = r i ∧ fndL (j + 1) q j = fndL (i + 1) p i) (fun j _ => j) i p ⟨hi, h, rfl, rfl⟩ (by repeat' first | refine And.intro ?_ ?_ | exact True.intro | (show (_ : Int) = (_ : Int); omega) | omega | exact rfl | (simp only [RO.len]; omega)) ?_
  rintro j q ⟨hj, hq, hr, hf⟩
  have hjl := hq.len
  have hle := hq.le j hj
  have hgg := hq.le (q.getD j 0).toNat (by omega)
  refine And.intro (by omega) ?_
  refine And.intro (fun h1 => ?_) (fun h1 => ?_)
  · have h1 : q.getD j 0 ≠ (j : Int) := h1
    have hl := half_lt hq hj h1
    have hqh := hq.half hj
    have hlh := hqh.le j hj
    have hlen := hqh.len
    refine And.intro (by omega) ?_
    refine And.intro (show 0 ≤ q.getD j 0 ∧ q.getD j 0 < (q.length : Int) by omega) ?_
    refine And.intro (by omega) ?_
    refine And.intro (by omega) ?_
    refine And.intro (show 0 ≤ (j : Int) ∧ (j : Int) < ((q.set j (q.getD (q.getD j 0).toNat 0)).length : Int) by rw [List.length_set]; omega) ?_
    have ej : (((halfL q j).getD j 0).toNat : Int) = (halfL q j).getD j 0 := by omega
    refine nx (((halfL q j).getD j 0).toNat, halfL q j) ⟨by omega, hqh, (hqh.par j hj).trans hr, ?_⟩ hl (by repeat' first | refine And.intro ?_ ?_ | exact True.intro | exact ej.symm | exact rfl | repeat' first | refine And.intro ?_ ?_ | exact True.intro | (show (_ : Int) = (_ : Int); omega) | omega | exact rfl | (simp only [RO.len]; omega))
    rw [← hf, fndL.eq_2 q j j, if_neg h1]
    exact fndL_fuel _ _ hqh (by omega) (by omega) (by omega)
  · have h1 : q.getD j 0 = (j : Int) := h1
    refine And.intro ?_ ?_
    · refine And.intro (And.intro (by omega) ?_) trivial
      rw [← hf]; unfold fndL; rw [if_pos h1]
    · show (j : Int) = (r i : Nat)
      rw [← hr, hq.fix j hj h1]
theorem funion_fn (n : Nat) (p : List Int) (r : Nat → Nat) (i j : Nat) (h : Fo n p r) (hi : i < n) (hj : j < n) (hn : n ≤ 4096) : MF 76 [.vec 1000, .int .i64 i, .int .i64 j] [(1000, .vec 0 (.ints .i64 p) [])] (.tup []) [(1000, .vec 0 (.ints .i64 (ufL r p i j)) [])] := mkM Try.func76 (by decide +kernel) rfl (Nat.le_of_ble_eq_true rfl) fun _ => by
  have h1 := fndL_fo (i + 1) h hi
  refine Or.inr (Or.inl (cm [] [(1000, 1000)] (froot_fn n p r i h hi hn) ?_))
  refine And.intro (by repeat' first | refine And.intro ?_ ?_ | exact True.intro | (show (_ : Int) = (_ : Int); omega) | omega | exact rfl | (simp only [RO.len]; omega)) ?_
  refine Or.inr (Or.inl (cm [] [(1000, 1000)] (froot_fn n (fndL (i + 1) p i) r j h1 hj hn) ?_))
  refine And.intro (by repeat' first | refine And.intro ?_ ?_ | exact True.intro | (show (_ : Int) = (_ : Int); omega) | omega | exact rfl | (simp only [RO.len]; omega)) ?_
  have h2 := fndL_fo (j + 1) h1 hj
  have hl := h2.len
  have ri := h.rlt hi
  have rj := h.rlt hj
  refine And.intro (by omega) ?_
  refine And.intro (by omega) ?_
  refine And.intro (And.intro (And.intro (by omega) ?_) trivial) trivial
  refine congrArg (RO.ints .i64) ?_
  unfold ufL
  rw [show (max (r i : Int) (r j : Int)).toNat = max (r i) (r j) by omega, show min (r i : Int) (r j : Int) = ((min (r i) (r j) : Nat) : Int) by omega]
theorem fpart_fn (n : Nat) (p : List Int) (r : Nat → Nat) (h : Fo n p r) (hn : n ≤ 4096) : MF 77 [.vec 1000] [(1000, .vec 0 (.ints .i64 p) [])] (.vec 21) [(21, .vec 0 (.ints .i64 (canon (rtL n r))) []), (1000, .vec 0 (.ints .i64 (fndA p n)) [])] := mkM Try.func77 (by decide +kernel) rfl (Nat.le_of_ble_eq_true rfl) fun _ => by
  have hpl := h.len
  refine And.intro (by omega) ?_
  refine And.intro (by omega) ?_
  refine Exists.intro [] <| lp2 (fun (k : Nat) (_ : List Int) => [(10, .int .i64 k)]) (fun k L => [(1000, .vec 0 (.ints .i64 (fndA p k)) []), (7, .vec 0 (.ints .i64 L) [])]) (fun k L => k ≤ n ∧ L.length = n ∧ ∀ j, j < k → L.getD j 0 = (r j : Int)) (fun k _ => n - k) 0 (List.replicate n 0) ⟨Nat.zero_le _, by simp, by omega⟩ (by repeat' first | refine And.intro ?_ ?_ | exact True.intro | (show (_ : Int) = (_ : Int); omega) | omega | exact rfl | (simp; omega)) ?_
  rintro k L ⟨hk, hL, hj⟩
  have hfo := fndA_fo h k hk
  have hfl := hfo.len
  refine And.intro (fun h1 => ?_) (fun h1 => ?_)
  · have h1 : (k : Int) < (p.length : Int) := h1
    have hkl : k < n := by omega
    refine Or.inr (Or.inl (cm [] [(1000, 1000)] (froot_fn n (fndA p k) r k hfo hkl hn) ?_))
    refine And.intro (by repeat' first | refine And.intro ?_ ?_ | exact True.intro | (show (_ : Int) = (_ : Int); omega) | omega | exact rfl | (simp only [RO.len]; omega)) ?_
    refine And.intro (by omega) ?_
    refine And.intro (by omega) ?_
    refine And.intro (by omega) ?_
    refine nx (k + 1, L.set k (r k : Int)) ⟨by omega, by rw [List.length_set]; exact hL, fun j hj' => ?_⟩ (show n - (k + 1) < n - k by omega) (by repeat' first | refine And.intro ?_ ?_ | exact True.intro | (show (_ : Int) = (_ : Int); omega) | omega | exact rfl | (simp only [RO.len]; omega))
    by_cases e : j = k
    · subst e; rw [getD_set_eq (by omega)]
    · rw [getD_set_ne (Ne.symm e)]; exact hj j (by omega)
  · have h1 : (p.length : Int) ≤ (k : Int) := h1
    obtain rfl : k = n := by omega
    have eL : L = rtL k r := ext_getD 0 (by rw [rtL_len]; exact hL) fun x hx => by rw [hj x (by omega), rtL_get (by omega)]
    subst eL
    refine Or.inl (cq (canonI_fn (rtL k r) (by rw [rtL_len]; omega)) (And.intro rfl trivial) ?_)
    exact And.intro (And.intro (And.intro (by omega) rfl) (And.intro (And.intro (by omega) rfl) trivial)) (And.intro (by omega) (And.intro trivial trivial))
theorem pdis_fn (n : Nat) (hn : n ≤ 4096) : QF 94 [.int .i64 n] (.new (.ints .i64 (disI n))) := mkQ Try.func94 (by decide +kernel) rfl (Nat.le_of_ble_eq_true rfl) fun _ => by
  refine And.intro (fun h1 => absurd (show (n : Int) < 0 from h1) (by omega)) (fun _ => ?_)
  refine And.intro (fun h1 => absurd (show (4096 : Int) < (n : Int) from h1) (by omega)) (fun _ => ?_)
  refine And.intro (by omega) ?_
  refine And.intro (by omega) ?_
  refine Exists.intro [] <| lp2 (fun (k : Nat) (_ : List Int) => [(14, .int .i64 k)]) (fun _ L => [(12, .vec 0 (.ints .i64 L) [])]) (fun k L => k ≤ n ∧ L.length = n ∧ ∀ j, j < k → L.getD j 0 = (j : Int)) (fun k _ => n - k) 0 (List.replicate n 0) ⟨Nat.zero_le _, by simp, by omega⟩ (by repeat' first | refine And.intro ?_ ?_ | exact True.intro | (show (_ : Int) = (_ : Int); omega) | omega | exact rfl | (simp; omega)) ?_
  rintro k L ⟨hk, hL, hj⟩
  refine And.intro (fun h1 => ?_) (fun h1 => ?_)
  · have h1 : (k : Int) < (n : Int) := h1
    have hkl : k < n := by omega
    refine And.intro (show 0 ≤ (k : Int) ∧ (k : Int) < (L.length : Int) by omega) ?_
    refine And.intro (by omega) ?_
    refine And.intro (by omega) ?_
    refine nx (k + 1, L.set k (k : Int)) ⟨by omega, by rw [List.length_set]; exact hL, fun j hj' => ?_⟩ (show n - (k + 1) < n - k by omega) (by repeat' first | refine And.intro ?_ ?_ | exact True.intro | (show (_ : Int) = (_ : Int); omega) | omega | exact rfl | (simp only [RO.len]; omega))
    by_cases e : j = k
    · subst e; rw [getD_set_eq (by omega)]
    · rw [getD_set_ne (Ne.symm e)]; exact hj j (by omega)
  · have h1 : (n : Int) ≤ (k : Int) := h1
    refine And.intro (And.intro (by omega) ?_) trivial
    refine congrArg (RO.ints .i64) (ext_getD 0 (by rw [disI_len]; exact hL) fun j hj' => ?_)
    rw [hj j (by omega), disI_get (by omega)]
theorem fnew_fn (n : Nat) (hn : n ≤ 4096) : QF 75 [.int .i64 n] (.new (.ints .i64 (disI n))) := mkQ Try.func75 (by decide +kernel) rfl (Nat.le_of_ble_eq_true rfl) fun _ => by
  refine Or.inl (cq (pdis_fn n hn) (And.intro rfl trivial) ?_)
  exact And.intro (And.intro (by omega) rfl) trivial
theorem prR_snoc : ∀ (l : List (Int × Int)) (r : Nat → Nat) (x : Int × Int), prR r (l ++ [x]) = ufR (prR r l) x.1.toNat x.2.toNat
  | [], _, _ => rfl
  | _ :: l, _, x => prR_snoc l _ x
theorem fpairs_k (n : Nat) (hn : n ≤ 4096) (l : List (Int × Int)) (hll : l.length ≤ 140737488355328) (hl : ∀ x ∈ l, 0 ≤ x.1 ∧ x.1 < (n : Int) ∧ 0 ≤ x.2 ∧ x.2 < (n : Int)) : fnK TY SP Try.f40 [.int .i64 n, .ro (.pairs l)] (.new (.ints .i64 (canon (rtL n (prR id l))))) := by
  refine And.intro (fun h1 => absurd (show (n : Int) < 0 from h1) (by omega)) (fun _ => ?_)
  refine And.intro (fun h1 => absurd (show (4096 : Int) < (n : Int) from h1) (by omega)) (fun _ => ?_)
  refine Or.inl (cq (fnew_fn n hn) (And.intro rfl trivial) ?_)
  refine Exists.intro [] <| lp2 (fun (k : Nat) (_ : List Int) => [(18, .int .i64 k)]) (fun _ p => [(15, .vec 0 (.ints .i64 p) [])]) (fun k p => k ≤ l.length ∧ Fo n p (prR id (l.take k))) (fun k _ => l.length - k) 0 (disI n) ⟨Nat.zero_le _, by rw [List.take_zero]; exact Fo.dis n⟩ (by repeat' first | refine And.intro ?_ ?_ | exact True.intro | (show (_ : Int) = (_ : Int); omega) | omega | exact rfl | (simp only [RO.len]; omega)) ?_
  rintro k p ⟨hk, hp⟩
  have hpl := hp.len
  refine And.intro (fun h1 => ?_) (fun h1 => ?_)
  · have h1 : (k : Int) < (l.length : Int) := h1
    have hkl : k < l.length := by omega
    have hx := hl (l.getD k (0, 0)) (getD_mem hkl)
    have e1 : ((l.getD k (0, 0)).1.toNat : Int) = (l.getD k (0, 0)).1 := by omega
    have e2 : ((l.getD k (0, 0)).2.toNat : Int) = (l.getD k (0, 0)).2 := by omega
    have funion := funion_fn n p (prR id (l.take k)) (l.getD k (0, 0)).1.toNat (l.getD k (0, 0)).2.toNat hp (by omega) (by omega) hn
    rw [e1, e2] at funion
    have n10 : ¬ (1 : Int) = ((0 : Nat) : Int) := by omega
    have n01 : ¬ (0 : Int) = ((0 + 1 : Nat) : Int) := by omega
    refine And.intro (by omega) ?_
    refine And.intro (by omega) ?_
    refine And.intro (fun _ => ?_) (And.intro (fun h => absurd h n01) trivial)
    refine And.intro (by omega) ?_
    refine And.intro (fun h => absurd h n10) (And.intro (fun _ => ?_) trivial)
    refine And.intro (fun h4 => ?_) (fun _ => ?_)
    · have h4 : min (l.getD k (0, 0)).1 (l.getD k (0, 0)).2 < 0 := h4
      omega
    refine And.intro (by omega) ?_
    refine And.intro (fun _ => ?_) (And.intro (fun h => absurd h n01) trivial)
    refine And.intro (by omega) ?_
    refine And.intro (fun h => absurd h n10) (And.intro (fun _ => ?_) trivial)
    refine And.intro (fun h4 => ?_) (fun _ => ?_)
    · have h4 : (n : Int) ≤ max (l.getD k (0, 0)).1 (l.getD k (0, 0)).2 := h4
      omega
    refine And.intro (by omega) ?_
    refine And.intro (fun _ => ?_) (And.intro (fun h => absurd h n01) trivial)
    refine And.intro (by omega) ?_
    refine And.intro (fun h => absurd h n10) (And.intro (fun _ => ?_) trivial)
    refine Or.inr (Or.inl (cm [] [(1000, 15)] funion ?_))
    refine And.intro (by repeat' first | refine And.intro ?_ ?_ | exact True.intro | (show (_ : Int) = (_ : Int); omega) | omega | exact rfl | (simp only [RO.len]; omega)) ?_
    refine And.intro (by omega) ?_
    refine nx (k + 1, ufL (prR id (l.take k)) p (l.getD k (0, 0)).1.toNat (l.getD k (0, 0)).2.toNat) ⟨by omega, ?_⟩ (show l.length - (k + 1) < l.length - k by omega) (by repeat' first | refine And.intro ?_ ?_ | exact True.intro | (show (_ : Int) = (_ : Int); omega) | omega | exact rfl | (simp only [RO.len]; omega))
    rw [List.take_add_one, List.getElem?_eq_getElem hkl]
    rw [show (some l[k]).toList = [l[k]] from rfl, prR_snoc]
    have eg : l[k] = l.getD k (0, 0) := by rw [List.getD_eq_getElem?_getD, List.getElem?_eq_getElem hkl]; rfl
    rw [eg]
    exact hp.union (by omega) (by omega)
  · have h1 : (l.length : Int) ≤ (k : Int) := h1
    rw [List.take_of_length_le (by omega)] at hp
    refine Or.inr (Or.inl (cm [] [(1000, 15), (21, 301)] (fpart_fn n p (prR id l) hp hn) ?_))
    refine And.intro (by repeat' first | refine And.intro ?_ ?_ | exact True.intro | (show (_ : Int) = (_ : Int); omega) | omega | exact rfl | (simp only [RO.len]; omega)) ?_
    exact And.intro (And.intro (by omega) rfl) trivial
theorem fpairs_fn (n : Nat) (hn : n ≤ 4096) (l : List (Int × Int)) (hl : ∀ x ∈ l, 0 ≤ x.1 ∧ x.1 < (n : Int) ∧ 0 ≤ x.2 ∧ x.2 < (n : Int)) : QF 40 [.int .i64 n, .ro (.pairs l)] (.new (.ints .i64 (canon (rtL n (prR id l))))) := mkQ Try.func40 (by decide +kernel) rfl (Nat.le_of_ble_eq_true rfl) fun hf => fpairs_k n hn l hf.2.1.1 hl
end Go.Proofs.Ytkbhgnbnnbengaa
end
section
/- Package congr: the forest: contracts. -/
namespace Go.Proofs.Ytkbhgnbnnbengaa
open Go Go.AM
set_option maxRecDepth 100000
abbrev foS (p : List Int) (c : Int) : Store := [(1000, .box [.vec 1001, .int .i64 c]), (1001, .vec 0 (.ints .i64 p) [])]
theorem cfind_fn (n : Nat) (p : List Int) (r : Nat → Nat) (c : Int) (i : Nat) (h : Fo n p r) (hi : i < n) (hn : n ≤ 4096) : MF 86 [.ptr 1000 0, .int .i64 i] (foS p c) (.int .i64 (r i : Nat)) (foS (fndL (i + 1) p i) c) := mkM Try.func86 (by decide +kernel) rfl (Nat.le_of_ble_eq_true rfl) fun _ => by
  refine Exists.intro [] <| lp2 (fun (j : Nat) (_ : List Int) => [(1, .int .i64 j)]) (fun _ q => [(1001, .vec 0 (.ints .i64 q) [])]) (fun j q => j < n ∧ Fo n q r ∧ r j = r i ∧ fndL (j + 1) q j = fndL (i + 1) p i) (fun j _ => j) i p ⟨hi, h, rfl, rfl⟩ (by repeat' first | refine And.intro ?_ ?_ | exact True.intro | (show (_ : Int) = (_ : Int); omega) | omega | exact rfl | (simp only [RO.len]; omega)) ?_
  rintro j q ⟨hj, hq, hr, hf⟩
  have hjl := hq.len
  have hle := hq.le j hj
  have hgg := hq.le (q.getD j 0).toNat (by omega)
  refine And.intro (by omega) ?_
  refine And.intro (fun h1 => ?_) (fun h1 => ?_)
  · have h1 : q.getD j 0 ≠ (j : Int) := h1
    have hl := half_lt hq hj h1
    have hqh := hq.half hj
    have hlh := hqh.le j hj
    have hlen := hqh.len
    refine Or.inl ?_
    refine Exists.intro [false, false, false, false, false, false, false, false, false, false, false, false, false, false, false, false, false, false, false, true] (And.intro (by decide +kernel) ?_)
    refine And.intro (by omega) ?_
    refine And.intro (by simp only [Int.toNat_natCast]; omega) ?_
    refine And.intro (by omega) ?_
    refine And.intro (by omega) ?_
    refine And.intro (by simp; omega) ?_
    have ej : (((halfL q j).getD j 0).toNat : Int) = (halfL q j).getD j 0 := by omega
    refine nx (((halfL q j).getD j 0).toNat, halfL q j) ⟨by omega, hqh, (hqh.par j hj).trans hr, ?_⟩ hl (by repeat' first | refine And.intro ?_ ?_ | exact True.intro | exact ej.symm | exact rfl | repeat' first | refine And.intro ?_ ?_ | exact True.intro | (show (_ : Int) = (_ : Int); omega) | omega | exact rfl | (simp only [RO.len]; omega))
    rw [← hf, fndL.eq_2 q j j, if_neg h1]
    exact fndL_fuel _ _ hqh (by omega) (by omega) (by omega)
  · have h1 : q.getD j 0 = (j : Int) := h1
    have e : q = fndL (i + 1) p i := by rw [← hf]; unfold fndL; rw [if_pos h1]
    refine And.intro (And.intro (by repeat' first | refine And.intro ?_ ?_ | exact True.intro | (show (_ : Int) = (_ : Int); omega) | omega | exact rfl | (simp only [RO.len]; omega)) (And.intro (And.intro (by omega) (congrArg (RO.ints .i64) e)) trivial)) ?_
    · show (j : Int) = (r i : Nat)
      rw [← hr, hq.fix j hj h1]
theorem cjoin_fn (n : Nat) (p : List Int) (r : Nat → Nat) (i j : Nat) (h : Fo n p r) (hi : i < n) (hj : j < n) (hn : n ≤ 4096) : MF 61 [.ptr 1000 0, .int .i64 i, .int .i64 j] (foS p (cntR n r)) (.bool (.v (decide (r i ≠ r j)))) (foS (jnP r p i j) (cntR n (jnR r i j))) := mkM Try.func61 (by decide +kernel) rfl (Nat.le_of_ble_eq_true rfl) fun _ => by
  have h1 := fndL_fo (i + 1) h hi
  have h2 := fndL_fo (j + 1) h1 hj
  have hl := h2.len
  have ri := h.rlt hi
  have rj := h.rlt hj
  have hc := jn_cnt h hi hj
  have hcl := cnt_le n r
  refine Or.inr (Or.inl (cm [] [(1000, 1000), (1001, 1001)] (cfind_fn n p r (cntR n r) i h hi hn) ?_))
  refine And.intro (by repeat' first | refine And.intro ?_ ?_ | exact True.intro | (show (_ : Int) = (_ : Int); omega) | omega | exact rfl | (simp only [RO.len]; omega)) ?_
  refine Or.inr (Or.inl (cm [] [(1000, 1000), (1001, 1001)] (cfind_fn n (fndL (i + 1) p i) r (cntR n r) j h1 hj hn) ?_))
  refine And.intro (by repeat' first | refine And.intro ?_ ?_ | exact True.intro | (show (_ : Int) = (_ : Int); omega) | omega | exact rfl | (simp only [RO.len]; omega)) ?_
  refine And.intro (fun h1 => ?_) (fun h1 => ?_)
  · have h1 : (r i : Int) = (r j : Int) := h1
    have h1 : r i = r j := by omega
    rw [if_pos h1] at hc
    have e : fndL (j + 1) (fndL (i + 1) p i) j = jnP r p i j := (if_pos h1).symm
    refine And.intro (And.intro (And.intro (by repeat' first | refine And.intro ?_ ?_ | exact True.intro | (show (_ : Int) = (_ : Int); omega) | omega | exact rfl | (simp only [RO.len]; omega)) (And.intro ?_ trivial)) (And.intro (And.intro (by omega) (congrArg (RO.ints .i64) e)) trivial)) ?_
    · show (cntR n r : Int) = (cntR n (jnR r i j) : Int)
      omega
    · exact (decide_eq_false fun h2 => h2 h1).symm
  · have h1 : (r i : Int) ≠ (r j : Int) := h1
    have h1 : r i ≠ r j := by omega
    rw [if_neg h1] at hc
    have e : (fndL (j + 1) (fndL (i + 1) p i) j).set (max (r i : Int) (r j : Int)).toNat (min (r i : Int) (r j : Int)) = jnP r p i j := by
      unfold jnP ufL
      rw [if_neg h1, show (max (r i : Int) (r j : Int)).toNat = max (r i) (r j) by omega, show min (r i : Int) (r j : Int) = ((min (r i) (r j) : Nat) : Int) by omega]
    refine And.intro (by omega) ?_
    refine And.intro (by omega) ?_
    refine And.intro (by omega) ?_
    refine And.intro (And.intro (And.intro (by repeat' first | refine And.intro ?_ ?_ | exact True.intro | (show (_ : Int) = (_ : Int); omega) | omega | exact rfl | (simp only [RO.len]; omega)) (And.intro ?_ trivial)) (And.intro (And.intro (by omega) (congrArg (RO.ints .i64) e)) trivial)) ?_
    · show (cntR n r : Int) - 1 = (cntR n (jnR r i j) : Int)
      omega
    · exact (decide_eq_true h1).symm
theorem creset_fn (n : Nat) (p : List Int) (c : Int) (hl : p.length = n) (hn : n ≤ 4096) : MF 60 [.ptr 1000 0] (foS p c) (.tup []) (foS (disI n) n) := mkM Try.func60 (by decide +kernel) rfl (Nat.le_of_ble_eq_true rfl) fun _ => by
  refine Exists.intro [] <| lp2 (fun (j : Nat) (_ : List Int) => [(8, .int .i64 j)]) (fun _ q => [(1001, .vec 0 (.ints .i64 q) [])]) (fun j q => j ≤ n ∧ q.length = n ∧ ∀ k, k < j → q.getD k 0 = (k : Int)) (fun j _ => n - j) 0 p ⟨Nat.zero_le _, hl, fun k h => by omega⟩ (by repeat' first | refine And.intro ?_ ?_ | exact True.intro | (show (_ : Int) = (_ : Int); omega) | omega | exact rfl | (simp only [RO.len]; omega)) ?_
  rintro j q ⟨hj, hq, hk⟩
  refine And.intro (fun h1 => ?_) (fun h1 => ?_)
  · have h1 : (j : Int) < (p.length : Int) := h1
    refine And.intro (by omega) ?_
    refine And.intro (by omega) ?_
    refine And.intro (by omega) ?_
    refine nx (j + 1, q.set j (j : Int)) ⟨by omega, by rw [List.length_set]; exact hq, fun k hkj => ?_⟩ (show n - (j + 1) < n - j by omega) (by repeat' first | refine And.intro ?_ ?_ | exact True.intro | (show (_ : Int) = (_ : Int); omega) | omega | exact rfl | (simp only [RO.len]; omega))
    by_cases e : k = j
    · subst e; rw [getD_set_eq (by omega)]
    · rw [getD_set_ne (Ne.symm e)]; exact hk k (by omega)
  · have h1 : (p.length : Int) ≤ (j : Int) := h1
    have e : q = disI n := ext_getD 0 (by rw [disI_len]; exact hq) fun k hk' => by rw [hk k (by omega), disI_get (by omega)]
    refine And.intro (And.intro (And.intro (by repeat' first | refine And.intro ?_ ?_ | exact True.intro | (show (_ : Int) = (_ : Int); omega) | omega | exact rfl | (simp only [RO.len]; omega)) (And.intro (show (q.length : Int) = (n : Int) by omega) trivial)) (And.intro (And.intro (by omega) (congrArg (RO.ints .i64) e)) trivial)) trivial
theorem cnew_fn (n : Nat) (hn : n ≤ 4096) : MF 59 [.int .i64 n] [] (.ptr 7 0) [(7, .box [.vec 5, .int .i64 n]), (5, .vec 0 (.ints .i64 (disI n)) [])] := mkM Try.func59 (by decide +kernel) rfl (Nat.le_of_ble_eq_true rfl) fun _ => by
  refine And.intro (by omega) ?_
  refine And.intro (by omega) ?_
  refine Or.inr (Or.inl (cm [] [(1000, 7), (1001, 5)] (creset_fn n (List.replicate n 0) 0 (by simp) hn) ?_))
  refine And.intro (by repeat' first | refine And.intro ?_ ?_ | exact True.intro | (show (_ : Int) = (_ : Int); omega) | omega | exact rfl | (simp only [RO.len]; omega)) ?_
  exact And.intro (And.intro (And.intro (by repeat' first | refine And.intro ?_ ?_ | exact True.intro | (show (_ : Int) = (_ : Int); omega) | omega | exact rfl | (simp only [RO.len]; omega)) (And.intro rfl trivial)) (And.intro (And.intro (by omega) rfl) trivial)) (by repeat' first | refine And.intro ?_ ?_ | exact True.intro | (show (_ : Int) = (_ : Int); omega) | omega | exact rfl | (simp only [RO.len]; omega))
theorem cpart_fn (n : Nat) (p : List Int) (r : Nat → Nat) (c : Int) (h : Fo n p r) (hn : n ≤ 4096) : MF 62 [.ptr 1000 0] (foS p c) (.vec 12) ((12, .vec 0 (.ints .i64 (canon (rtL n r))) []) :: foS (fndA p n) c) := mkM Try.func62 (by decide +kernel) rfl (Nat.le_of_ble_eq_true rfl) fun _ => by
  have hpl := h.len
  have hrl := rtL_len n r
  refine And.intro (by omega) ?_
  refine And.intro (by omega) ?_
  refine Exists.intro [] <| lp2 (fun (k : Nat) (_ : List Int) => [(15, .int .i64 k), (4, .int .i64 ((firsts ((rtL n r).take k)).length : Int))]) (fun k L => [(1001, .vec 0 (.ints .i64 (fndA p k)) []), (12, .vec 0 (.ints .i64 L) [])]) (fun k L => k ≤ n ∧ L.length = n ∧ ∀ j, j < k → L.getD j 0 = (canon (rtL n r)).getD j 0) (fun k _ => n - k) 0 (List.replicate n 0) ⟨Nat.zero_le _, by simp, by omega⟩ (by repeat' first | refine And.intro ?_ ?_ | exact True.intro | (show (_ : Int) = (_ : Int); omega) | omega | exact rfl | (simp; omega)) ?_
  rintro k L ⟨hk, hL, hj⟩
  have hfo := fndA_fo h k hk
  have hfl := hfo.len
  have hfs : (firsts ((rtL n r).take k)).length ≤ k := by
    have := firsts_le ((rtL n r).take k)
    rw [List.length_take] at this; omega
  refine And.intro (fun h1 => ?_) (fun h1 => ?_)
  · have h1 : (k : Int) < ((List.replicate (p.length : Int).toNat (0 : Int)).length : Int) := h1
    rw [List.length_replicate] at h1
    have hkl : k < n := by omega
    have hle := h.rle (k + 1) k (by omega) hkl
    have hgk := rtL_get (r := r) hkl
    have htk := take_get (d := (0 : Int)) (l := rtL n r) (i := k) (by omega)
    refine Or.inr (Or.inl (cm [] [(1000, 1000), (1001, 1001)] (cfind_fn n (fndA p k) r c k hfo hkl hn) ?_))
    refine And.intro (by repeat' first | refine And.intro ?_ ?_ | exact True.intro | (show (_ : Int) = (_ : Int); omega) | omega | exact rfl | (simp only [RO.len]; omega)) ?_
    refine And.intro (fun h1 => ?_) (fun h1 => ?_)
    · have h1 : (r k : Int) = (k : Int) := h1
      have hrk : r k = k := by omega
      have hno : (rtL n r).getD k 0 ∉ (rtL n r).take k := fun hm => by
        obtain ⟨z, hz, hv⟩ := mem_getD 0 hm
        rw [List.length_take] at hz
        have hzk : z < k := by omega
        have hv : (rtL n r).getD z 0 = (rtL n r).getD k 0 := by rw [← hv]; simp [List.getD, hzk]
        rw [rtL_get (by omega), hgk] at hv
        have := h.rle (z + 1) z (by omega) (by omega)
        omega
      have hc1 := canon_out (d := (0 : Int)) (l := rtL n r) (i := k) (by omega) hno
      have hf1 : (firsts ((rtL n r).take (k + 1))).length = (firsts ((rtL n r).take k)).length + 1 := by rw [htk, firsts_out hno]; simp
      refine And.intro (by omega) ?_
      refine And.intro (by omega) ?_
      refine And.intro (by omega) ?_
      refine And.intro (by omega) ?_
      refine nx (k + 1, L.set k ((firsts ((rtL n r).take k)).length : Int)) ⟨by omega, by rw [List.length_set]; exact hL, fun j hjk => ?_⟩ (show n - (k + 1) < n - k by omega) (by repeat' first | refine And.intro ?_ ?_ | exact True.intro | (show (_ : Int) = (_ : Int); omega) | omega | exact rfl | (simp only [RO.len]; omega))
      by_cases e : j = k
      · subst e; rw [getD_set_eq (by omega)]; exact hc1.symm
      · rw [getD_set_ne (Ne.symm e)]; exact hj j (by omega)
    · have h1 : (r k : Int) ≠ (k : Int) := h1
      have hrk : r k < k := by omega
      have hgr := rtL_get (r := r) (i := r k) (n := n) (by omega)
      have hrr := h.rr hkl
      have hin : (rtL n r).getD k 0 ∈ (rtL n r).take k := by
        have : ((rtL n r).take k).getD (r k) 0 = (rtL n r).getD k 0 := by
          rw [hgk, ← hrr, ← hgr]; simp [List.getD, hrk, hrr]
        rw [← this]
        exact getD_mem (by rw [List.length_take]; omega)
      have hf1 : (firsts ((rtL n r).take (k + 1))).length = (firsts ((rtL n r).take k)).length := by rw [htk, firsts_in hin]
      have hc1 : (canon (rtL n r)).getD (r k) 0 = (canon (rtL n r)).getD k 0 := (canon_eq_iff (d := 0) (by omega) (by omega)).2 (by rw [hgr, hgk, hrr])
      refine And.intro (by omega) ?_
      refine And.intro (by omega) ?_
      refine And.intro (by omega) ?_
      refine And.intro (by omega) ?_
      refine nx (k + 1, L.set k (L.getD (r k) 0)) ⟨by omega, by rw [List.length_set]; exact hL, fun j hjk => ?_⟩ (show n - (k + 1) < n - k by omega) (by repeat' first | refine And.intro ?_ ?_ | exact True.intro | (show (_ : Int) = (_ : Int); omega) | omega | exact rfl | (simp only [RO.len]; omega))
      by_cases e : j = k
      · subst e; rw [getD_set_eq (by omega), hj _ hrk]; exact hc1
      · rw [getD_set_ne (Ne.symm e)]; exact hj j (by omega)
  · have h1 : ((List.replicate (p.length : Int).toNat (0 : Int)).length : Int) ≤ (k : Int) := h1
    rw [List.length_replicate] at h1
    obtain rfl : k = n := by omega
    have e : L = canon (rtL k r) := ext_getD 0 (by rw [canon_length, rtL_len]; exact hL) fun x hx => hj x (by omega)
    refine And.intro (And.intro (And.intro (by omega) (congrArg (RO.ints .i64) e)) (And.intro (And.intro (by repeat' first | refine And.intro ?_ ?_ | exact True.intro | (show (_ : Int) = (_ : Int); omega) | omega | exact rfl | (simp only [RO.len]; omega)) (And.intro rfl trivial)) (And.intro (And.intro (by omega) rfl) trivial))) (by repeat' first | refine And.intro ?_ ?_ | exact True.intro | (show (_ : Int) = (_ : Int); omega) | omega | exact rfl | (simp only [RO.len]; omega))
end Go.Proofs.Ytkbhgnbnnbengaa
end
