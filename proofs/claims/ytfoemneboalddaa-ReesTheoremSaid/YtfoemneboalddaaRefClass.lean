/- The reference's classes (semigroupref15.Classes, Minimal, semigroupref17.class) and the program's (rees.open): contracts. -/
import Derived.Test.YtfoemneboalddaaRefGreen
import Derived.Test.YtfoemneboalddaaGreen
namespace Go.Proofs.Ytfoemneboalddaa
open Go Go.AM
set_option maxRecDepth 100000

theorem cls_range {n : Nat} {e : Nat → Nat → Bool} (hn : n ≤ 400) : ∀ i, i < (clsL n e).length → 0 ≤ (clsL n e).getD i 0 ∧ (clsL n e).getD i 0 < 4096 := fun i hi => by
  have h1 := (valid_range (canon_idem (repsL n e)) ((clsL n e).getD i 0)).2 (getD_mem hi)
  have h2 := firsts_le (canon (repsL n e))
  rw [canon_length, repsL_len] at h2
  have h3 : classN (clsL n e) ≤ n := h2
  have h4 : (clsL n e).getD i 0 < classN (clsL n e) := h1.2
  exact ⟨h1.1, by omega⟩

theorem rgreen_k (t : List (List Int)) (h : Semi t) : fnK TY SP Try.f48 [.ro (.rows .i64 t)] (greenA t) := by
  have hpos := h.pos
  have hmost := h.most
  refine Or.inl (cq (ridealsR_fn t h.toSh) (And.intro rfl (And.intro rfl trivial)) ?_)
  refine Or.inl (cq (rmutual_fn t.length hmost _ (preR h)) (And.intro rfl trivial) ?_)
  refine Or.inl (cq (ridealsL_fn t h.toSh) (And.intro rfl (And.intro rfl trivial)) ?_)
  refine Or.inl (cq (rmutual_fn t.length hmost _ (preL h)) (And.intro rfl trivial) ?_)
  refine Or.inl (cq (ridealsJ_fn t h.toSh) (And.intro rfl (And.intro rfl trivial)) ?_)
  refine Or.inl (cq (rmutual_fn t.length hmost _ (preJ h)) (And.intro rfl trivial) ?_)
  refine Or.inl (cq (rmeet_fn (classR t) (classL t) (by rw [classR_len, classL_len]) (by rw [classR_len]; omega) (cls_range hmost) (cls_range hmost)) (And.intro rfl (And.intro rfl trivial)) ?_)
  refine Or.inl (cq (rclasses_fn (classJ t) (clsL_valid (by omega))) (And.intro rfl trivial) ?_)
  have hcl := classes_length (classN (classJ t)) (classJ t)
  have hnj : classN (classJ t) = numJ t := rfl
  have hle := numJ_le t
  have hbl := belowL_len t
  refine Exists.intro [] <| lp (X := Nat) (fun i => [(34, .int .i64 i)]) (fun i => [(63, .vec 0 (.brows ((belowL t).take i)) []), (3, .box [.vec 13, .vec 16, .ro (.ints .i64 (classJ t)), .vec 27, .vec 63])]) (fun i => i ≤ numJ t) (fun i => numJ t - i) 0 (Nat.zero_le _) (by repeat' first | refine And.intro ?_ ?_ | exact True.intro | (show (_ : Int) = (_ : Int); omega) | omega | exact rfl | (simp only [RO.len]; omega)) ?_
  intro i hi
  have hti : ((belowL t).take i).length = i := by rw [List.length_take, hbl]; omega
  refine And.intro (fun h1 => ?_) (fun h1 => ?_)
  · have hin : i < numJ t := by omega
    have hrow := belowL_row hin
    have hrl : ((belowL t).getD i []).length = numJ t := by rw [hrow]; simp
    refine And.intro (by omega) ?_
    refine Exists.intro [] <| lp (X := Nat) (fun j => [(40, .int .i64 j), (8, .vec 57)]) (fun j => [(57, .vec 0 (.bools (((belowL t).getD i []).take j)) [])]) (fun j => j ≤ numJ t) (fun j => numJ t - j) 0 (Nat.zero_le _) (by repeat' first | refine And.intro ?_ ?_ | exact True.intro | (show (_ : Int) = (_ : Int); omega) | omega | exact rfl | (simp only [RO.len]; omega)) ?_
    intro j hj
    have htj : (((belowL t).getD i []).take j).length = j := by rw [List.length_take, hrl]; omega
    refine And.intro (fun h2 => ?_) (fun h2 => ?_)
    · have hjn : j < numJ t := by omega
      have fi := fstJ hin
      have fj := fstJ hjn
      have hb := rowsB_len t.length (inJB t)
      have hr := setB_len t.length (inJB t (fstC (classJ t) j))
      rw [← rowsB_row fj.2.2.1] at hr
      refine And.intro (by omega) ?_
      refine Or.inl <| Exists.intro [false, false, false, false, false, false, false, false, false, false, false, false, false, true, true] (And.intro (by decide +kernel) ?_)
      refine And.intro (show 0 ≤ (0 : Int) ∧ (0 : Int) < (((classes (numJ t) (classJ t)).getD j []).length : Int) by omega) ?_
      refine And.intro (show 0 ≤ ((classes (numJ t) (classJ t)).getD j []).getD 0 0 ∧ ((classes (numJ t) (classJ t)).getD j []).getD 0 0 < ((rowsB t.length (inJB t)).length : Int) by omega) ?_
      refine And.intro (show 0 ≤ (0 : Int) ∧ (0 : Int) < (((classes (numJ t) (classJ t)).getD i []).length : Int) by omega) ?_
      refine And.intro (show 0 ≤ ((classes (numJ t) (classJ t)).getD i []).getD 0 0 ∧ ((classes (numJ t) (classJ t)).getD i []).getD 0 0 < (((rowsB t.length (inJB t)).getD (fstC (classJ t) j) []).length : Int) by omega) ?_
      refine And.intro (by rw [List.length_append, htj]; simp; omega) ?_
      refine And.intro (by omega) ?_
      refine nx (j + 1) (show j + 1 ≤ numJ t by omega) (show numJ t - (j + 1) < numJ t - j by omega) ?_
      refine And.intro (And.intro rfl (And.intro (And.intro rfl (And.intro trivial trivial)) trivial)) ?_
      have hv : ((rowsB t.length (inJB t)).getD (((classes (numJ t) (classJ t)).getD j []).getD 0 0).toNat []).getD (((classes (numJ t) (classJ t)).getD i []).getD 0 0).toNat false = ((belowL t).getD i []).getD j false := by
        rw [belowL_get hin hjn]
        exact rowsB_get fj.2.2.1 fi.2.2.1
      refine And.intro ?_ ?_
      · refine And.intro (And.intro (Nat.le_refl _) (Nat.zero_le _)) ?_
        show RO.bools (((belowL t).getD i []).take j ++ [((rowsB t.length (inJB t)).getD (((classes (numJ t) (classJ t)).getD j []).getD 0 0).toNat []).getD (((classes (numJ t) (classJ t)).getD i []).getD 0 0).toNat false]) = _
        rw [hv, ← take_snoc (by omega)]
      · repeat' first | refine And.intro ?_ ?_ | exact True.intro | (show (_ : Int) = (_ : Int); omega) | omega | exact rfl | (simp only [RO.len]; omega)
    · refine And.intro (by rw [List.length_append, hti]; simp; omega) ?_
      refine And.intro (by omega) ?_
      refine nx (i + 1) (show i + 1 ≤ numJ t by omega) (show numJ t - (i + 1) < numJ t - i by omega) ?_
      refine And.intro (And.intro rfl trivial) ?_
      have hrw : ((belowL t).getD i []).take j = (belowL t).getD i [] := List.take_of_length_le (by omega)
      refine And.intro ?_ ?_
      · refine And.intro (And.intro (Nat.le_refl _) (Nat.zero_le _)) ?_
        show RO.brows ((belowL t).take i ++ [((belowL t).getD i []).take j]) = _
        rw [hrw, ← take_snoc (by omega)]
      · repeat' first | refine And.intro ?_ ?_ | exact True.intro | (show (_ : Int) = (_ : Int); omega) | omega | exact rfl | (simp only [RO.len]; omega)
  · have hBB : (belowL t).take i = belowL t := List.take_of_length_le (by omega)
    refine And.intro ?_ trivial
    refine And.intro (And.intro trivial rfl) ?_
    refine And.intro (And.intro trivial rfl) ?_
    refine And.intro rfl ?_
    refine And.intro (And.intro trivial rfl) ?_
    refine And.intro (And.intro trivial ?_) trivial
    rw [hBB]
theorem rgreen_fn (t : List (List Int)) (h : Semi t) : QF 48 [.ro (.rows .i64 t)] (greenA t) := mkQ Try.func48 (by decide +kernel) rfl (Nat.le_of_ble_eq_true rfl) fun _ => rgreen_k t h

theorem rmin_k (t : List (List Int)) (hm : t.length ≤ 400) (j : Nat) (hj : j < numJ t) : fnK TY SP Try.f50 [greenA t, .int .i64 j] (.bool (.v (minJ t j))) := by
  have hbl := belowL_len t
  have hle := numJ_le t
  refine Exists.intro [] <| lp (X := Nat) (fun i => [(9, .int .i64 i)]) (fun _ => []) (fun i => i ≤ numJ t ∧ ∀ k, k < i → k ≠ j → inJB t (fstC (classJ t) j) (fstC (classJ t) k) = false) (fun i => numJ t - i) 0 ⟨Nat.zero_le _, fun k hk => absurd hk (Nat.not_lt_zero _)⟩ (by repeat' first | refine And.intro ?_ ?_ | exact True.intro | (show (_ : Int) = (_ : Int); omega) | omega | exact rfl | (simp only [RO.len]; omega)) ?_
  rintro i ⟨hi, hs⟩
  refine And.intro (fun h1 => ?_) (fun h1 => ?_)
  · have hin : i < numJ t := by omega
    have hrl : ((belowL t).getD i []).length = numJ t := by rw [belowL_row hin]; simp
    have hg := belowL_get (t := t) hin hj
    refine And.intro (fun h2 => ?_) (fun h2 => ?_)
    · have hij : i ≠ j := fun e => h2 (by rw [e])
      refine And.intro (by omega) ?_
      refine And.intro (show 0 ≤ (j : Int) ∧ (j : Int) < (((belowL t).getD i []).length : Int) by omega) ?_
      refine And.intro (fun h3 => ?_) (fun h3 => ?_)
      · have h3 : ((belowL t).getD i []).getD j false = true := h3
        rw [hg] at h3
        refine And.intro ?_ trivial
        show false = minJ t j
        cases hm : minJ t j
        · rfl
        · rw [minJ_iff.1 hm i hin hij] at h3; cases h3
      · have h3 : ((belowL t).getD i []).getD j false = false := h3
        rw [hg] at h3
        refine And.intro (by omega) ?_
        refine nx (i + 1) ⟨by omega, fun k hk hkj => ?_⟩ (show numJ t - (i + 1) < numJ t - i by omega) (by repeat' first | refine And.intro ?_ ?_ | exact True.intro | (show (_ : Int) = (_ : Int); omega) | omega | exact rfl | (simp only [RO.len]; omega))
        by_cases hki : k = i
        · rw [hki]; exact h3
        · exact hs k (by omega) hkj
    · have h2 : (i : Int) = (j : Int) := h2
      refine And.intro (by omega) ?_
      refine nx (i + 1) ⟨by omega, fun k hk hkj => ?_⟩ (show numJ t - (i + 1) < numJ t - i by omega) (by repeat' first | refine And.intro ?_ ?_ | exact True.intro | (show (_ : Int) = (_ : Int); omega) | omega | exact rfl | (simp only [RO.len]; omega))
      exact hs k (by omega) hkj
  · refine And.intro ?_ trivial
    show true = minJ t j
    exact (minJ_iff.2 fun k hk hkj => hs k (by omega) hkj).symm
theorem rmin_fn (t : List (List Int)) (hm : t.length ≤ 400) (j : Nat) (hj : j < numJ t) : QF 50 [greenA t, .int .i64 j] (.bool (.v (minJ t j))) := mkQ Try.func50 (by decide +kernel) rfl (Nat.le_of_ble_eq_true rfl) fun _ => rmin_k t hm j hj

theorem rclass_k (t : List (List Int)) (h : Semi t) (j : Nat) (hj : j < numJ t) : fnK TY SP Try.f29 [.ro (.rows .i64 t), .int .i64 j] (.tup [.ro (.ints .i64 (elemsJ t j)), .bool (.v (minJ t j)), .int .i64 0]) := by
  have hbl := belowL_len t
  have hmost := h.most
  refine Or.inl (cq (rvalidate_fn t) (And.intro rfl trivial) ?_)
  refine And.intro (fun h1 => absurd (valid_zero.2 h) h1) (fun h1 => ?_)
  refine Or.inl (cq (rgreen_fn t h) (And.intro rfl trivial) ?_)
  refine And.intro (fun h2 => by have h2 : (j : Int) < 0 := h2; omega) (fun h2 => ?_)
  refine And.intro (fun h3 => by have h3 : ((belowL t).length : Int) ≤ j := h3; omega) (fun h3 => ?_)
  refine Or.inl <| Exists.intro [false, false, false, false, false, false, false, false, false, false, false, false] (And.intro (by decide +kernel) ?_)
  refine cq (rclasses_fn (classJ t) (clsL_valid (by omega))) (And.intro rfl trivial) ?_
  have hcl := classes_length (classN (classJ t)) (classJ t)
  have hnj : classN (classJ t) = numJ t := rfl
  refine And.intro (by omega) ?_
  refine cq (rmin_fn t hmost j hj) (And.intro (by repeat' first | refine And.intro ?_ ?_ | exact True.intro | (show (_ : Int) = (_ : Int); omega) | omega | exact rfl | (simp only [RO.len]; omega)) (And.intro rfl trivial)) ?_
  exact And.intro rfl (And.intro rfl (And.intro rfl trivial))
theorem rclass_fn (t : List (List Int)) (h : Semi t) (j : Nat) (hj : j < numJ t) : QF 29 [.ro (.rows .i64 t), .int .i64 j] (.tup [.ro (.ints .i64 (elemsJ t j)), .bool (.v (minJ t j)), .int .i64 0]) := mkQ Try.func29 (by decide +kernel) rfl (Nat.le_of_ble_eq_true rfl) fun _ => rclass_k t h j hj

/-- What is said of a table and a class before anything else: the error. -/
noncomputable def openV (t : List (List Int)) (j : Int) : Int := if validV t = 0 then 1 else validV t
theorem openV_ne (t : List (List Int)) (j : Int) : openV t j ≠ 0 := by
  unfold openV
  split
  · decide
  · assumption

theorem rclass_no_k (t : List (List Int)) (j : Int) (h : ¬ (validV t = 0 ∧ 0 ≤ j ∧ j < numJ t)) : fnK TY SP Try.f29 [.ro (.rows .i64 t), .int .i64 j] (.tup [.nils, .bool (.lit false), .int .i64 (openV t j)]) := by
  have hbl := belowL_len t
  refine Or.inl (cq (rvalidate_fn t) (And.intro rfl trivial) ?_)
  refine And.intro (fun h1 => ?_) (fun h1 => ?_)
  · have e : openV t j = validV t := by unfold openV; rw [if_neg h1]
    exact And.intro trivial (And.intro rfl (And.intro e.symm trivial))
  have h1 : validV t = 0 := h1
  have hs := valid_zero.1 h1
  have e : openV t j = 1 := by unfold openV; rw [if_pos h1]
  refine Or.inl (cq (rgreen_fn t hs) (And.intro rfl trivial) ?_)
  refine And.intro (fun h2 => ?_) (fun h2 => ?_)
  · exact And.intro trivial (And.intro rfl (And.intro e.symm trivial))
  refine And.intro (fun h3 => ?_) (fun h3 => ?_)
  · exact And.intro trivial (And.intro rfl (And.intro e.symm trivial))
  · have h3 : j < ((belowL t).length : Int) := h3
    exact absurd ⟨h1, h2, by omega⟩ h
theorem rclass_no (t : List (List Int)) (j : Int) (h : ¬ (validV t = 0 ∧ 0 ≤ j ∧ j < numJ t)) : QF 29 [.ro (.rows .i64 t), .int .i64 j] (.tup [.nils, .bool (.lit false), .int .i64 (openV t j)]) := mkQ Try.func29 (by decide +kernel) rfl (Nat.le_of_ble_eq_true rfl) fun _ => rclass_no_k t j h

/-- The class of a table, as the program opens it. -/
abbrev openA (t : List (List Int)) (j : Nat) : AV := .agg [.ro (.ints .i64 (classR t)), .ro (.ints .i64 (classL t)), .ro (.ints .i64 (classJ t)), .ro (.ints .i64 (classH t)), .ro (.brows (belowL t)), .ro (.ints .i64 (elemsJ t j)), .ro (.bools (inJ t j)), .bool (.v (minJ t j))]

theorem copen_no_k (t : List (List Int)) (j : Int) (h : ¬ (validV t = 0 ∧ 0 ≤ j ∧ j < numJ t)) : fnK TY SP Try.f23 [.ro (.rows .i64 t), .int .i64 j] (.tup [.agg [.nils, .nils, .nils, .nils, .nils, .nils, .nils, .bool (.lit false)], .int .i64 (openV t j)]) := by
  have hbl := belowL_len t
  refine Or.inl (cq (valid_fn t) (And.intro rfl trivial) ?_)
  refine And.intro (fun h1 => ?_) (fun h1 => ?_)
  · have e : openV t j = validV t := by unfold openV; rw [if_neg h1]
    exact And.intro (And.intro trivial (And.intro trivial (And.intro trivial (And.intro trivial (And.intro trivial (And.intro trivial (And.intro trivial (And.intro rfl trivial)))))))) (And.intro e.symm trivial)
  have h1 : validV t = 0 := h1
  have hs := valid_zero.1 h1
  have hmost := hs.most
  have e : openV t j = 1 := by unfold openV; rw [if_pos h1]
  refine Or.inl <| Exists.intro [false, false, false, false, false, false, false, true] (And.intro (by decide +kernel) ?_)
  refine cq (green_fn t hs) (And.intro rfl trivial) ?_
  refine And.intro (by omega) ?_
  refine And.intro (by omega) ?_
  refine And.intro (fun h2 => ?_) (fun h2 => ?_)
  · exact And.intro (And.intro trivial (And.intro trivial (And.intro trivial (And.intro trivial (And.intro trivial (And.intro trivial (And.intro trivial (And.intro rfl trivial)))))))) (And.intro e.symm trivial)
  refine And.intro (fun h3 => ?_) (fun h3 => ?_)
  · exact And.intro (And.intro trivial (And.intro trivial (And.intro trivial (And.intro trivial (And.intro trivial (And.intro trivial (And.intro trivial (And.intro rfl trivial)))))))) (And.intro e.symm trivial)
  · have h3 : j < ((belowL t).length : Int) := h3
    exact absurd ⟨h1, h2, by omega⟩ h
theorem copen_no (t : List (List Int)) (j : Int) (h : ¬ (validV t = 0 ∧ 0 ≤ j ∧ j < numJ t)) : QF 23 [.ro (.rows .i64 t), .int .i64 j] (.tup [.agg [.nils, .nils, .nils, .nils, .nils, .nils, .nils, .bool (.lit false)], .int .i64 (openV t j)]) := mkQ Try.func23 (by decide +kernel) rfl (Nat.le_of_ble_eq_true rfl) fun _ => copen_no_k t j h

theorem elems_upTo {t : List (List Int)} {j : Nat} (hj : j < numJ t) : elemsJ t j = upTo (classJ t) t.length j := by
  rw [elemsJ_eq hj]; rfl

theorem copen_k (t : List (List Int)) (h : Semi t) (j : Nat) (hj : j < numJ t) : fnK TY SP Try.f23 [.ro (.rows .i64 t), .int .i64 j] (.tup [openA t j, .int .i64 0]) := by
  have hpos := h.pos
  have hmost := h.most
  have hbl := belowL_len t
  have hjl := classJ_len t
  have hle := numJ_le t
  refine Or.inl (cq (valid_fn t) (And.intro rfl trivial) ?_)
  refine And.intro (fun h1 => absurd (valid_zero.2 h) h1) (fun h1 => ?_)
  refine Or.inl <| Exists.intro [false, false, false, false, false, false, false, true] (And.intro (by decide +kernel) ?_)
  refine cq (green_fn t h) (And.intro rfl trivial) ?_
  refine And.intro (by omega) ?_
  refine And.intro (by omega) ?_
  refine And.intro (fun h2 => by have h2 : (j : Int) < 0 := h2; omega) (fun h2 => ?_)
  refine And.intro (fun h3 => by have h3 : ((belowL t).length : Int) ≤ j := h3; omega) (fun h3 => ?_)
  refine Exists.intro [] <| lp2 (fun (i : Nat) (_ : List Bool) => [(39, .int .i64 i)]) (fun i b => [(51, .vec 0 (.ints .i64 (upTo (classJ t) i j)) []), (22, .vec 0 (.bools b) []), (7, .box [.ro (.ints .i64 (classR t)), .ro (.ints .i64 (classL t)), .ro (.ints .i64 (classJ t)), .ro (.ints .i64 (classH t)), .ro (.brows (belowL t)), .vec 51, .vec 22, .bool (.lit true)])])
    (fun i b => i ≤ t.length ∧ b.length = t.length ∧ ∀ x, x < t.length → b.getD x false = (decide (x < i) && decide ((classJ t).getD x 0 = (j : Int)))) (fun i _ => t.length - i) 0 (List.replicate t.length false) ⟨Nat.zero_le _, by simp, fun x hx => by rw [rep_false]; simp⟩ (by repeat' first | refine And.intro ?_ ?_ | exact True.intro | (show (_ : Int) = (_ : Int); omega) | omega | exact rfl | (simp only [RO.len]; omega)) ?_
  rintro i b ⟨hi, hb, hs⟩
  have hul := upTo_le (classJ t) i j
  refine And.intro (fun h4 => ?_) (fun h4 => ?_)
  · have hil : i < t.length := by omega
    refine And.intro (by omega) ?_
    refine And.intro (fun h5 => ?_) (fun h5 => ?_)
    · have h5 : (classJ t).getD i 0 = (j : Int) := h5
      refine And.intro (by rw [List.length_append]; simp; omega) ?_
      refine And.intro (by omega) ?_
      refine And.intro (by omega) ?_
      refine And.intro (by omega) ?_
      refine nx (i + 1, b.set i true) ⟨by omega, by rw [List.length_set]; exact hb, fun x hx => ?_⟩ (show t.length - (i + 1) < t.length - i by omega) ?_
      · by_cases hxi : x = i
        · subst hxi; rw [getD_set_eq (by omega)]; simp only [h5, decide_true, Bool.and_true, Nat.lt_succ_self]
        · rw [getD_set_ne (Ne.symm hxi), hs x hx]
          have : (x < i + 1) ↔ x < i := by omega
          simp only [this]
      · refine And.intro (And.intro rfl trivial) ?_
        refine And.intro (And.intro (And.intro (by omega) (by simp only [RO.len]; omega)) ?_) ?_
        · exact congrArg (RO.ints .i64) (upTo_here h5).symm
        · repeat' first | refine And.intro ?_ ?_ | exact True.intro | (show (_ : Int) = (_ : Int); omega) | omega | exact rfl | (simp only [RO.len]; omega)
    · have h5 : (classJ t).getD i 0 ≠ (j : Int) := h5
      refine And.intro (by omega) ?_
      refine nx (i + 1, b) ⟨by omega, hb, fun x hx => ?_⟩ (show t.length - (i + 1) < t.length - i by omega) ?_
      · rw [hs x hx]
        by_cases hxi : x = i
        · subst hxi; simp only [h5, decide_false, Bool.and_false]
        · have : (x < i + 1) ↔ x < i := by omega
          simp only [this]
      · refine And.intro (And.intro rfl trivial) ?_
        refine And.intro (And.intro (And.intro (by omega) (by simp only [RO.len]; omega)) ?_) ?_
        · exact congrArg (RO.ints .i64) (upTo_there h5).symm
        · repeat' first | refine And.intro ?_ ?_ | exact True.intro | (show (_ : Int) = (_ : Int); omega) | omega | exact rfl | (simp only [RO.len]; omega)
  have hii : i = t.length := by omega
  have hbb : b = inJ t j := by
    refine List.ext_getElem (by rw [hb, inJ_len]) fun q h6 h7 => ?_
    rw [← getD_eq (d := false) h6, ← getD_eq (d := false) h7, hs q (by omega), inJ_get (by omega)]
    simp only [show q < i by omega, decide_true, Bool.true_and]
  have hee : upTo (classJ t) i j = elemsJ t j := by rw [elems_upTo hj, hii]
  refine Exists.intro [] <| lp (X := Nat) (fun k => [(62, .int .i64 k)]) (fun k => [(7, .box [.ro (.ints .i64 (classR t)), .ro (.ints .i64 (classL t)), .ro (.ints .i64 (classJ t)), .ro (.ints .i64 (classH t)), .ro (.brows (belowL t)), .vec 51, .vec 22, .bool (.v ((List.range k).all fun k => decide (k = j) || !(inJB t (fstC (classJ t) j) (fstC (classJ t) k))))])]) (fun k => k ≤ numJ t) (fun k => numJ t - k) 0 (Nat.zero_le _) (by repeat' first | refine And.intro ?_ ?_ | exact True.intro | (show (_ : Int) = (_ : Int); omega) | omega | exact rfl | (simp only [RO.len]; omega)) ?_
  intro k hk
  refine And.intro (fun h6 => ?_) (fun h6 => ?_)
  · have hkn : k < numJ t := by omega
    have hrl : ((belowL t).getD k []).length = numJ t := by rw [belowL_row hkn]; simp
    have hg := belowL_get (t := t) hkn hj
    have step : ∀ (b : Bool), (b = (decide (k = j) || !(inJB t (fstC (classJ t) j) (fstC (classJ t) k)))) → (List.range (k + 1)).all (fun k => decide (k = j) || !(inJB t (fstC (classJ t) j) (fstC (classJ t) k))) = ((List.range k).all (fun k => decide (k = j) || !(inJB t (fstC (classJ t) j) (fstC (classJ t) k))) && b) := fun b hb => by
      rw [List.range_succ, List.all_append, hb]; simp
    refine And.intro (by omega) ?_
    refine And.intro (fun h7 => ?_) (fun h7 => ?_)
    · have hkj : k ≠ j := fun e => h7 (by rw [e])
      refine And.intro (show 0 ≤ (j : Int) ∧ (j : Int) < (((belowL t).getD k []).length : Int) by omega) ?_
      refine And.intro (fun h8 => ?_) (fun h8 => ?_)
      · have h8 : ((belowL t).getD k []).getD j false = true := h8
        rw [hg] at h8
        refine And.intro (by omega) ?_
        have e := step false (by simp [hkj, h8])
        refine nx (k + 1) (show k + 1 ≤ numJ t by omega) (show numJ t - (k + 1) < numJ t - k by omega) ?_
        refine And.intro (And.intro rfl trivial) ?_
        refine And.intro (by repeat' first | refine And.intro ?_ ?_ | exact True.intro | (show (_ : Int) = (_ : Int); omega) | omega | exact rfl | (simp only [RO.len]; omega)) (And.intro ?_ (by repeat' first | refine And.intro ?_ ?_ | exact True.intro | (show (_ : Int) = (_ : Int); omega) | omega | exact rfl | (simp only [RO.len]; omega)))
        refine And.intro rfl (And.intro rfl (And.intro rfl (And.intro rfl (And.intro rfl (And.intro (And.intro rfl (And.intro trivial trivial)) (And.intro (And.intro rfl (And.intro trivial trivial)) (And.intro ?_ trivial)))))))
        show false = (List.range (k + 1)).all _
        rw [e]; simp
      · have h8 : ((belowL t).getD k []).getD j false = false := h8
        rw [hg] at h8
        refine And.intro (by omega) ?_
        have e := step true (by simp [h8])
        refine nx (k + 1) (show k + 1 ≤ numJ t by omega) (show numJ t - (k + 1) < numJ t - k by omega) ?_
        refine And.intro (And.intro rfl trivial) ?_
        refine And.intro (by repeat' first | refine And.intro ?_ ?_ | exact True.intro | (show (_ : Int) = (_ : Int); omega) | omega | exact rfl | (simp only [RO.len]; omega)) (And.intro ?_ (by repeat' first | refine And.intro ?_ ?_ | exact True.intro | (show (_ : Int) = (_ : Int); omega) | omega | exact rfl | (simp only [RO.len]; omega)))
        refine And.intro rfl (And.intro rfl (And.intro rfl (And.intro rfl (And.intro rfl (And.intro (And.intro rfl (And.intro trivial trivial)) (And.intro (And.intro rfl (And.intro trivial trivial)) (And.intro ?_ trivial)))))))
        show (List.range k).all _ = (List.range (k + 1)).all _
        rw [e]; simp
    · have h7 : (k : Int) = (j : Int) := h7
      refine And.intro (by omega) ?_
      have e := step true (by simp [show k = j by omega])
      refine nx (k + 1) (show k + 1 ≤ numJ t by omega) (show numJ t - (k + 1) < numJ t - k by omega) ?_
      refine And.intro (And.intro rfl trivial) ?_
      refine And.intro (by repeat' first | refine And.intro ?_ ?_ | exact True.intro | (show (_ : Int) = (_ : Int); omega) | omega | exact rfl | (simp only [RO.len]; omega)) (And.intro ?_ (by repeat' first | refine And.intro ?_ ?_ | exact True.intro | (show (_ : Int) = (_ : Int); omega) | omega | exact rfl | (simp only [RO.len]; omega)))
      refine And.intro rfl (And.intro rfl (And.intro rfl (And.intro rfl (And.intro rfl (And.intro (And.intro rfl (And.intro trivial trivial)) (And.intro (And.intro rfl (And.intro trivial trivial)) (And.intro ?_ trivial)))))))
      show (List.range k).all _ = (List.range (k + 1)).all _
      rw [e]; simp
  · have hkk : k = numJ t := by omega
    subst hkk
    refine And.intro ?_ (And.intro rfl trivial)
    refine And.intro rfl (And.intro rfl (And.intro rfl (And.intro rfl (And.intro rfl (And.intro (And.intro trivial ?_) (And.intro (And.intro trivial ?_) (And.intro rfl trivial)))))))
    · rw [hee]
    · rw [hbb]
theorem copen_fn (t : List (List Int)) (h : Semi t) (j : Nat) (hj : j < numJ t) : QF 23 [.ro (.rows .i64 t), .int .i64 j] (.tup [openA t j, .int .i64 0]) := mkQ Try.func23 (by decide +kernel) rfl (Nat.le_of_ble_eq_true rfl) fun _ => copen_k t h j hj
end Go.Proofs.Ytfoemneboalddaa
