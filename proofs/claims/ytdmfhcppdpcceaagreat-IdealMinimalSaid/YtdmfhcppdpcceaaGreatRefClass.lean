/- The reference's classes (semigroupref15.Classes, Minimal, semigroupref17.class) and the program's (rees.open): contracts. -/
import Derived.Test.YtdmfhcppdpcceaaGreatRefGreen
import Derived.Test.YtdmfhcppdpcceaaGreatGreen
namespace Go.Proofs.YtdmfhcppdpcceaaGreat
open Go Go.AM
set_option maxRecDepth 100000

theorem cls_range {n : Nat} {e : Nat → Nat → Bool} (hn : n ≤ 400) : ∀ i, i < (clsL n e).length → 0 ≤ (clsL n e).getD i 0 ∧ (clsL n e).getD i 0 < 4096 := fun i hi => by
  have h1 := (valid_range (canon_idem (repsL n e)) ((clsL n e).getD i 0)).2 (getD_mem hi)
  have h2 := firsts_le (canon (repsL n e))
  rw [canon_length, repsL_len] at h2
  have h3 : classN (clsL n e) ≤ n := h2
  have h4 : (clsL n e).getD i 0 < classN (clsL n e) := h1.2
  exact ⟨h1.1, by omega⟩

theorem rgreen_k (t : List (List Int)) (h : Semi t) : fnK TY SP Tryz.f33 [.ro (.rows .i64 t)] (greenA t) := by
  have hpos := h.pos
  have hmost := h.most
  refine Or.inl (cq (ridealsR_fn t h.toSh) (And.intro rfl (And.intro rfl trivial)) ?_)
  refine Or.inl (cq (rmutual_fn t.length hmost _ (preR h)) (And.intro rfl trivial) ?_)
  refine Or.inl (cq (ridealsL_fn t h.toSh) (And.intro rfl (And.intro rfl trivial)) ?_)
  refine Or.inl (cq (rmutual_fn t.length hmost _ (preL h)) (And.intro rfl trivial) ?_)
  refine Or.inl (cq (ridealsJ_fn t h.toSh) (And.intro rfl (And.intro rfl trivial)) ?_)
  refine Or.inl (cq (rmutual_fn t.length hmost _ (preJ h)) (And.intro rfl trivial) ?_)
  refine Or.inl (cq (rmeet_fn (classR t) (classL t) (by rw [classR_len, classL_len]) (by rw [classR_len]; omega) (cls_range hmost) (cls_range hmost)) (And.intro rfl (And.intro rfl trivial)) ?_)
  refine Or.inl (cq (rclasses_fn (classJ t) (clsL_valid (by omega))) (And.intro rfl trivial) ?_)
  have hcl := classes_length (classN (classJ t)) (classJ t)
  have hnj : classN (classJ t) = numJ t := rfl
  have hle := numJ_le t
  have hbl := belowL_len t
  refine Exists.intro [] <| lp (X := Nat) (fun i => [(34, .int .i64 i)]) (fun i => [(63, .vec 0 (.brows ((belowL t).take i)) []), (3, .box [.vec 13, .vec 16, .ro (.ints .i64 (classJ t)), .vec 27, .vec 63])]) (fun i => i ≤ numJ t) (fun i => numJ t - i) 0 (Nat.zero_le _) (by repeat' first | refine And.intro ?_ ?_ | exact True.intro | (show (_ : Int) = (_ : Int); omega) | omega | exact rfl | (simp only [RO.len]; omega)) ?_
  intro i hi
  have hti : ((belowL t).take i).length = i := by rw [List.length_take, hbl]; omega
  refine And.intro (fun h1 => ?_) (fun h1 => ?_)
  · have hin : i < numJ t := by omega
    have hrow := belowL_row hin
    have hrl : ((belowL t).getD i []).length = numJ t := by rw [hrow]; simp
    refine And.intro (by omega) ?_
    refine Exists.intro [] <| lp (X := Nat) (fun j => [(40, .int .i64 j), (8, .vec 57)]) (fun j => [(57, .vec 0 (.bools (((belowL t).getD i []).take j)) [])]) (fun j => j ≤ numJ t) (fun j => numJ t - j) 0 (Nat.zero_le _) (by repeat' first | refine And.intro ?_ ?_ | exact True.intro | (show (_ : Int) = (_ : Int); omega) | omega | exact rfl | (simp only [RO.len]; omega)) ?_
    intro j hj
    have htj : (((belowL t).getD i []).take j).length = j := by rw [List.length_take, hrl]; omega
    refine And.intro (fun h2 => ?_) (fun h2 => ?_)
    · have hjn : j < numJ t := by omega
      have fi := fstJ hin
      have fj := fstJ hjn
      have hb := rowsB_len t.length (inJB t)
      have hr := setB_len t.length (inJB t (fstC (classJ t) j))
      rw [← rowsB_row fj.2.2.1] at hr
      refine And.intro (by omega) ?_
      refine Or.inl <| Exists.intro [false, false, false, false, false, false, false, false, false, false, false, false, false, true, true] (And.intro (by decide +kernel) ?_)
      refine And.intro (show 0 ≤ (0 : Int) ∧ (0 : Int) < (((classes (numJ t) (classJ t)).getD j []).length : Int) by omega) ?_
      refine And.intro (show 0 ≤ ((classes (numJ t) (classJ t)).getD j []).getD 0 0 ∧ ((classes (numJ t) (classJ t)).getD j []).getD 0 0 < ((rowsB t.length (inJB t)).length : Int) by omega) ?_
      refine And.intro (show 0 ≤ (0 : Int) ∧ (0 : Int) < (((classes (numJ t) (classJ t)).getD i []).length : Int) by omega) ?_
      refine And.intro (show 0 ≤ ((classes (numJ t) (classJ t)).getD i []).getD 0 0 ∧ ((classes (numJ t) (classJ t)).getD i []).getD 0 0 < (((rowsB t.length (inJB t)).getD (fstC (classJ t) j) []).length : Int) by omega) ?_
      refine And.intro (by rw [List.length_append, htj]; simp; omega) ?_
      refine And.intro (by omega) ?_
      refine nx (j + 1) (show j + 1 ≤ numJ t by omega) (show numJ t - (j + 1) < numJ t - j by omega) ?_
      refine And.intro (And.intro rfl (And.intro (And.intro rfl (And.intro trivial trivial)) trivial)) ?_
      have hv : ((rowsB t.length (inJB t)).getD (((classes (numJ t) (classJ t)).getD j []).getD 0 0).toNat []).getD (((classes (numJ t) (classJ t)).getD i []).getD 0 0).toNat false = ((belowL t).getD i []).getD j false := by
        rw [belowL_get hin hjn]
        exact rowsB_get fj.2.2.1 fi.2.2.1
      refine And.intro ?_ ?_
      · refine And.intro (And.intro (Nat.le_refl _) (Nat.zero_le _)) ?_
        show RO.bools (((belowL t).getD i []).take j ++ [((rowsB t.length (inJB t)).getD (((classes (numJ t) (classJ t)).getD j []).getD 0 0).toNat []).getD (((classes (numJ t) (classJ t)).getD i []).getD 0 0).toNat false]) = _
        rw [hv, ← take_snoc (by omega)]
      · repeat' first | refine And.intro ?_ ?_ | exact True.intro | (show (_ : Int) = (_ : Int); omega) | omega | exact rfl | (simp only [RO.len]; omega)
    · refine And.intro (by rw [List.length_append, hti]; simp; omega) ?_
      refine And.intro (by omega) ?_
      refine nx (i + 1) (show i + 1 ≤ numJ t by omega) (show numJ t - (i + 1) < numJ t - i by omega) ?_
      refine And.intro (And.intro rfl trivial) ?_
      have hrw : ((belowL t).getD i []).take j = (belowL t).getD i [] := List.take_of_length_le (by omega)
      refine And.intro ?_ ?_
      · refine And.intro (And.intro (Nat.le_refl _) (Nat.zero_le _)) ?_
        show RO.brows ((belowL t).take i ++ [((belowL t).getD i []).take j]) = _
        rw [hrw, ← take_snoc (by omega)]
      · repeat' first | refine And.intro ?_ ?_ | exact True.intro | (show (_ : Int) = (_ : Int); omega) | omega | exact rfl | (simp only [RO.len]; omega)
  · have hBB : (belowL t).take i = belowL t := List.take_of_length_le (by omega)
    refine And.intro ?_ trivial
    refine And.intro (And.intro trivial rfl) ?_
    refine And.intro (And.intro trivial rfl) ?_
    refine And.intro rfl ?_
    refine And.intro (And.intro trivial rfl) ?_
    refine And.intro (And.intro trivial ?_) trivial
    rw [hBB]
theorem rgreen_fn (t : List (List Int)) (h : Semi t) : QF 33 [.ro (.rows .i64 t)] (greenA t) := mkQ Tryz.func33 (by decide +kernel) rfl (Nat.le_of_ble_eq_true rfl) fun _ => rgreen_k t h

/-- What is said of a table and a class before anything else: the error. -/
noncomputable def openV (t : List (List Int)) (j : Int) : Int := if validV t = 0 then 1 else validV t
theorem openV_ne (t : List (List Int)) (j : Int) : openV t j ≠ 0 := by
  unfold openV
  split
  · decide
  · assumption

/-- The class of a table, as the program opens it. -/
abbrev openA (t : List (List Int)) (j : Nat) : AV := .agg [.ro (.ints .i64 (classR t)), .ro (.ints .i64 (classL t)), .ro (.ints .i64 (classJ t)), .ro (.ints .i64 (classH t)), .ro (.brows (belowL t)), .ro (.ints .i64 (elemsJ t j)), .ro (.bools (inJ t j)), .bool (.v (minJ t j))]

theorem elems_upTo {t : List (List Int)} {j : Nat} (hj : j < numJ t) : elemsJ t j = upTo (classJ t) t.length j := by
  rw [elemsJ_eq hj]; rfl

end Go.Proofs.YtdmfhcppdpcceaaGreat
