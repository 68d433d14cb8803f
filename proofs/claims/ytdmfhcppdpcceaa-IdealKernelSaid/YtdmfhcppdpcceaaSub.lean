/- mult.Sub of a closed part: contract. -/
import Derived.Test.YtdmfhcppdpcceaaSubLaw
import Derived.Test.YtdmfhcppdpcceaaMult
namespace Go.Proofs.Ytdmfhcppdpcceaa
open Go Go.AM
set_option maxRecDepth 100000
set_option maxHeartbeats 2000000
theorem areEl_k (t : List (List Int)) (l : List Int) (hl : inT t l) (hll : l.length ≤ 140737488355328) : fnK TY SP Try.f72 [.ro (.rows .i64 t), .ro (.ints .i64 l)] (.bool (.lit true)) := by
  refine Exists.intro [] <| lp (X := Nat) (fun k => [(9, .int .i64 k)]) (fun _ => []) (fun k => k ≤ l.length) (fun k => l.length - k) 0 (Nat.zero_le _) (by repeat' first | refine And.intro ?_ ?_ | exact True.intro | (show (_ : Int) = (_ : Int); omega) | omega | exact rfl | (simp only [RO.len]; omega)) ?_
  intro k hk
  refine And.intro (fun h1 => ?_) (fun h1 => ?_)
  · have hkl : k < l.length := by omega
    have hr := hl _ (getD_mem (d := 0) hkl)
    have h2 : 0 ≤ l.getD k 0 ∧ l.getD k 0 < (t.length : Int) := hr
    refine And.intro (by omega) ?_
    refine And.intro (fun h3 => ?_) (fun _ => ?_)
    · have h3 : l.getD k 0 < 0 := h3
      omega
    refine And.intro (fun h3 => ?_) (fun _ => ?_)
    · have h3 : (t.length : Int) ≤ l.getD k 0 := h3
      omega
    refine And.intro (by omega) ?_
    exact nx (k + 1) (show k + 1 ≤ l.length by omega) (show l.length - (k + 1) < l.length - k by omega) (by repeat' first | refine And.intro ?_ ?_ | exact True.intro | (show (_ : Int) = (_ : Int); omega) | omega | exact rfl | (simp only [RO.len]; omega))
  · exact ⟨rfl, trivial⟩
theorem areEl_fn (t : List (List Int)) (l : List Int) (hl : inT t l) : QF 72 [.ro (.rows .i64 t), .ro (.ints .i64 l)] (.bool (.lit true)) := mkQ Try.func72 (by decide +kernel) rfl (Nat.le_of_ble_eq_true rfl) fun hf => areEl_k t l hl hf.2.1.1
theorem sub_k (t : List (List Int)) (h : Semi t) (l : List Int) (hl : ClL t l) (hln : l.length ≤ t.length) : fnK TY SP Try.f38 [.ro (.rows .i64 t), .ro (.ints .i64 l)] (.tup [.ro (.rows .i64 (subT t l)), .int .i64 0]) := by
  have hmost := h.most
  have hpos := hl.pos
  refine Or.inl (cq (valid_fn t) (And.intro rfl trivial) ?_)
  refine And.intro (fun h1 => absurd (valid_zero.2 h) h1) (fun _ => ?_)
  refine And.intro (fun h1 => ?_) (fun _ => ?_)
  · have h1 : (l.length : Int) = 0 := h1
    omega
  refine Or.inl (cq (areEl_fn t l hl.ins) (And.intro rfl (And.intro rfl trivial)) ?_)
  refine And.intro (by omega) ?_
  refine And.intro (by omega) ?_
  refine Exists.intro [] <| lp2 (fun (k : Nat) (_ : List Int) => [(35, .int .i64 k)]) (fun _ P => [(32, .vec 0 (.ints .i64 P) [])]) (fun k P => k ≤ t.length ∧ P.length = t.length ∧ ∀ y, y < k → P.getD y 0 = -1) (fun k _ => t.length - k) 0 (List.replicate t.length 0) ⟨Nat.zero_le _, by simp, by omega⟩ (by repeat' first | refine And.intro ?_ ?_ | exact True.intro | (show (_ : Int) = (_ : Int); omega) | omega | exact rfl | (simp; omega)) ?_
  rintro k P ⟨hk, hP, hPy⟩
  refine And.intro (fun h1 => ?_) (fun h1 => ?_)
  · have h1 : (k : Int) < ((List.replicate ((t.length : Nat) : Int).toNat (0 : Int)).length : Int) := h1
    rw [List.length_replicate, Int.toNat_natCast] at h1
    have hkl : k < t.length := by omega
    refine And.intro (by omega) ?_
    refine And.intro (by omega) ?_
    refine And.intro (by omega) ?_
    refine nx (k + 1, P.set k (-1)) ⟨by omega, by rw [List.length_set]; exact hP, fun y hy => ?_⟩ (show t.length - (k + 1) < t.length - k by omega) (by repeat' first | refine And.intro ?_ ?_ | exact True.intro | (show (_ : Int) = (_ : Int); omega) | omega | exact rfl | (simp only [RO.len]; omega))
    by_cases e : y = k
    · subst e; rw [getD_set_eq (by omega)]
    · rw [getD_set_ne (Ne.symm e)]; exact hPy y (by omega)
  · have h1 : ((List.replicate ((t.length : Nat) : Int).toNat (0 : Int)).length : Int) ≤ (k : Int) := h1
    rw [List.length_replicate, Int.toNat_natCast] at h1
    refine Exists.intro [] <| lp2 (fun (k : Nat) (_ : List Int) => [(44, .int .i64 k)]) (fun _ P => [(32, .vec 0 (.ints .i64 P) [])]) (fun k P => k ≤ l.length ∧ P.length = t.length ∧ ∀ y, y < t.length → P.getD y 0 = posTo l k y) (fun k _ => l.length - k) 0 P ⟨Nat.zero_le _, hP, fun y hy => hPy y (by omega)⟩ (by repeat' first | refine And.intro ?_ ?_ | exact True.intro | (show (_ : Int) = (_ : Int); omega) | omega | exact rfl | (simp only [RO.len]; omega)) ?_
    rintro k P ⟨hk, hP, hPy⟩
    refine And.intro (fun h2 => ?_) (fun h2 => ?_)
    · have h2 : (k : Int) < (l.length : Int) := h2
      have hkl : k < l.length := by omega
      have hr : 0 ≤ l.getD k 0 ∧ l.getD k 0 < (t.length : Int) := hl.ins _ (getD_mem (d := 0) hkl)
      have nxt : ∀ y, y < t.length → (P.set (l.getD k 0).toNat (k : Int)).getD y 0 = posTo l (k + 1) y := fun y hy => by
        simp only [posTo]
        by_cases e : y = (l.getD k 0).toNat
        · rw [if_pos (by omega), e, getD_set_eq (by omega)]
        · rw [if_neg (by omega), getD_set_ne (Ne.symm e), hPy y hy]
      refine And.intro (by omega) ?_
      refine And.intro (fun h3 => ?_) (fun h3 => ?_)
      · have h3 : (0 : Int) < (k : Int) := h3
        refine And.intro (by omega) ?_
        refine And.intro (by omega) ?_
        refine And.intro (fun h4 => ?_) (fun _ => ?_)
        · exfalso
          have h4 : l.getD k 0 ≤ l.getD ((k : Int) - 1).toNat 0 := h4
          have ha := hl.asc (k - 1) (by omega)
          rw [show ((k : Int) - 1).toNat = k - 1 by omega] at h4
          rw [show k - 1 + 1 = k by omega] at ha
          omega
        refine And.intro (by simp only [Int.toNat_natCast]; omega) ?_
        refine And.intro (by simp only [Int.toNat_natCast]; omega) ?_
        refine And.intro (by omega) ?_
        exact nx (k + 1, P.set (l.getD k 0).toNat (k : Int)) ⟨by omega, by rw [List.length_set]; exact hP, nxt⟩ (show l.length - (k + 1) < l.length - k by omega) (by repeat' first | refine And.intro ?_ ?_ | exact True.intro | (show (_ : Int) = (_ : Int); omega) | omega | exact rfl | (simp only [RO.len]; omega))
      · refine And.intro (by simp only [Int.toNat_natCast]; omega) ?_
        refine And.intro (by simp only [Int.toNat_natCast]; omega) ?_
        refine And.intro (by omega) ?_
        exact nx (k + 1, P.set (l.getD k 0).toNat (k : Int)) ⟨by omega, by rw [List.length_set]; exact hP, nxt⟩ (show l.length - (k + 1) < l.length - k by omega) (by repeat' first | refine And.intro ?_ ?_ | exact True.intro | (show (_ : Int) = (_ : Int); omega) | omega | exact rfl | (simp only [RO.len]; omega))
    · have h2 : (l.length : Int) ≤ (k : Int) := h2
      have hkl : k = l.length := by omega
      have hst := subT_len t l
      refine And.intro (by omega) ?_
      refine And.intro (by omega) ?_
      refine Or.inl ?_
      refine Exists.intro [] <| lp2 (fun (i : Nat) (_ : List (List Int)) => [(70, .int .i64 i)]) (fun _ Q => [(67, .vec 0 (.rows .i64 Q) [])]) (fun i Q => i ≤ l.length ∧ Q.length = l.length ∧ ∀ j, j < i → Q.getD j [] = (subT t l).getD j []) (fun i _ => l.length - i) 0 (List.replicate l.length []) ⟨Nat.zero_le _, by simp, fun k hk => absurd hk (Nat.not_lt_zero _)⟩ (by repeat' first | refine And.intro ?_ ?_ | exact True.intro | (show (_ : Int) = (_ : Int); omega) | omega | exact rfl | (simp only [RO.len]; omega)) ?_
      rintro i Q ⟨hi, hQ, hQj⟩
      refine And.intro (fun h5 => ?_) (fun h5 => ?_)
      · have h5 : (i : Int) < (l.length : Int) := h5
        have hil : i < l.length := by omega
        have ei := hl.el hil
        have hrow := subT_row (t := t) hil
        refine And.intro (by omega) ?_
        refine And.intro (by omega) ?_
        refine And.intro (by omega) ?_
        refine And.intro (by omega) ?_
        refine And.intro (by omega) ?_
        refine Exists.intro [] <| lp2 (fun (j : Nat) (_ : List Int) => [(83, .int .i64 j)]) (fun _ r => [(79, .vec 0 (.ints .i64 r) []), (67, .vec 0 (.rows .i64 Q) [(i, 79)])]) (fun j r => j ≤ l.length ∧ r.length = l.length ∧ ∀ y, y < j → r.getD y 0 = subV t l i y) (fun j _ => l.length - j) 0 (List.replicate l.length 0) ⟨Nat.zero_le _, by simp, fun k hk => absurd hk (Nat.not_lt_zero _)⟩ (by repeat' first | refine And.intro ?_ ?_ | exact True.intro | (show (_ : Int) = (_ : Int); omega) | omega | exact rfl | (simp only [RO.len]; omega)) ?_
        rintro j r ⟨hj, hr, hrj⟩
        refine And.intro (fun h6 => ?_) (fun h6 => ?_)
        · have h6 : (j : Int) < (l.length : Int) := h6
          have hjl : j < l.length := by omega
          have ej := hl.el hjl
          have he := h.toSh.ent ei.1 ej.1
          have hrw := h.toSh.len ei.1
          have hv : P.getD ((t.getD (eL l i) []).getD (eL l j) 0).toNat 0 = subV t l i j := by
            rw [he.1, Int.toNat_natCast, hPy _ he.2, hkl]; rfl
          have hp := pL_in (sub_in hl hil hjl)
          have hvp : 0 ≤ subV t l i j := by show 0 ≤ posTo l l.length _; omega
          have hset : (r.set j (P.getD ((t.getD (eL l i) []).getD (eL l j) 0).toNat 0)).getD j 0 = subV t l i j := by rw [getD_set_eq (by omega), hv]
          refine And.intro (by omega) ?_
          refine Or.inl ?_
          refine Exists.intro [false, false, false, false, false, false, false, false, false, false, false, false, false, false, false, false, true] (And.intro (by decide +kernel) ?_)
          refine And.intro (by omega) ?_
          refine And.intro (fun _ => ?_) (fun h7 => absurd rfl h7)
          refine And.intro (by simp only [Int.toNat_natCast]; omega) ?_
          refine And.intro (show 0 ≤ l.getD j 0 ∧ l.getD j 0 < ((t.getD (eL l i) []).length : Int) by omega) ?_
          refine And.intro (show 0 ≤ (t.getD (eL l i) []).getD (eL l j) 0 ∧ (t.getD (eL l i) []).getD (eL l j) 0 < (P.length : Int) by omega) ?_
          refine And.intro (by omega) ?_
          refine And.intro (by omega) ?_
          refine And.intro (by omega) ?_
          refine And.intro (fun _ => ?_) (fun h7 => absurd rfl h7)
          refine And.intro (by simp; omega) ?_
          refine And.intro (fun h7 => ?_) (fun _ => ?_)
          · exfalso
            have h7 : (r.set j (P.getD ((t.getD (eL l i) []).getD (eL l j) 0).toNat 0)).getD j 0 < 0 := h7
            rw [hset] at h7; omega
          refine And.intro (by omega) ?_
          refine nx (j + 1, r.set j (P.getD ((t.getD (eL l i) []).getD (eL l j) 0).toNat 0)) ⟨by omega, by rw [List.length_set]; exact hr, fun y hy => ?_⟩ (show l.length - (j + 1) < l.length - j by omega) (by repeat' first | refine And.intro ?_ ?_ | exact True.intro | (show (_ : Int) = (_ : Int); omega) | omega | exact rfl | (simp only [RO.len]; omega))
          by_cases e1 : y = j
          · subst e1; exact hset
          · rw [getD_set_ne (Ne.symm e1)]; exact hrj y (by omega)
        · have h6 : (l.length : Int) ≤ (j : Int) := h6
          have e : r = (subT t l).getD i [] := by
            rw [hrow]
            refine ext_getD 0 (by simp; exact hr) fun y hy => ?_
            rw [hrj y (by omega), map_range_getD _ _ _ _ (by omega)]
          refine And.intro (by omega) ?_
          refine nx (i + 1, Q.set i r) ⟨by omega, by rw [List.length_set]; exact hQ, fun y hy => ?_⟩ (show l.length - (i + 1) < l.length - i by omega) (by repeat' first | refine And.intro ?_ ?_ | exact True.intro | (show (_ : Int) = (_ : Int); omega) | omega | exact rfl | (simp only [RO.len]; omega))
          by_cases e1 : y = i
          · subst e1; rw [getD_set_eq (by omega), e]
          · rw [getD_set_ne (Ne.symm e1)]; exact hQj y (by omega)
      · have h5 : (l.length : Int) ≤ (i : Int) := h5
        have e : Q = subT t l := ext_getD [] (by rw [subT_len]; exact hQ) fun y hy => hQj y (by omega)
        subst e
        exact ⟨⟨trivial, rfl⟩, rfl, trivial⟩
theorem sub_fn (t : List (List Int)) (h : Semi t) (l : List Int) (hl : ClL t l) (hln : l.length ≤ t.length) : QF 38 [.ro (.rows .i64 t), .ro (.ints .i64 l)] (.tup [.ro (.rows .i64 (subT t l)), .int .i64 0]) := mkQ Try.func38 (by decide +kernel) rfl (Nat.le_of_ble_eq_true rfl) fun _ => sub_k t h l hl hln
end Go.Proofs.Ytdmfhcppdpcceaa
