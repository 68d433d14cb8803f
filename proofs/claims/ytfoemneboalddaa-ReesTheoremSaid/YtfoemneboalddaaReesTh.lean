/- ReesTheorem, the walk: it returns true. -/
import Derived.Test.YtfoemneboalddaaMorph
import Derived.Test.YtfoemneboalddaaSmall
import Derived.Test.YtfoemneboalddaaReesAwake
import Derived.Test.YtfoemneboalddaaCoo
import Derived.Test.YtfoemneboalddaaChk
namespace Go.Proofs.Ytfoemneboalddaa
open Go Go.AM
set_option maxRecDepth 100000
set_option maxHeartbeats 1000000
theorem reesTh_k (t : List (List Int)) : fnK TY SP Try.f5 [.ro (.rows .i64 t)] (.bool (.lit true)) := by
  refine Or.inl (cq (small_fn t 14) (And.intro rfl (And.intro rfl trivial)) ?_)
  refine And.intro (fun h1 => ?_) (fun h1 => ?_)
  · exact Or.inl (cq awake_fn trivial (And.intro rfl trivial))
  have hv : (t.length : Int) ≤ 14 ∧ validV t = 0 := by
    by_cases hh : (t.length : Int) ≤ 14 ∧ validV t = 0
    · exact hh
    · rw [decide_eq_false hh] at h1; cases h1
  have h := valid_zero.1 hv.2
  have hle := numJ_le t
  have hrl := regL_len t
  have hpos : 0 < numJ t := by have := classJ_lt t h.pos; omega
  refine Or.inl (cq (regular_fn t h) (And.intro rfl trivial) ?_)
  refine Exists.intro [] <| lp (X := Nat) (fun j => [(25, .int .i64 j)]) (fun _ => []) (fun j => j ≤ numJ t) (fun j => numJ t - j) 0 (Nat.zero_le _) (by repeat' first | refine And.intro ?_ ?_ | exact True.intro | (show (_ : Int) = (_ : Int); omega) | omega | exact rfl | (simp only [RO.len]; omega)) ?_
  intro j hjn
  refine And.intro (fun h2 => ?_) (fun h2 => ?_)
  · have h2 : (j : Int) < ((regL t).length : Int) := h2
    have hj : j < numJ t := by omega
    refine And.intro (by omega) ?_
    refine Or.elim (Bool.eq_false_or_eq_true ((regL t).getD j false)) (fun hr => ?_) (fun hr => ?_)
    · have c := (eJ_ok h hj hr).2.2.2.1
      have hre := c.rees
      rw [cooP_len] at hre
      have hmor := theo_mor h hj (z := !minJ t j) rfl hre c.good
      have hchk := c.chk
      have hregB := regB_true.2 c.reg
      have hpl := prin_len hj
      have hpt := prinTab_len (t := t) (j := j)
      have hle2 := hre.le
      have hS : 1 ≤ sizeI (cooG t j (eJ t j)).length (cR t j) (cC t j) (!minJ t j) := size_pos (by omega) (by omega) (by omega)
      have hsl := c.good.2.1
      have hpz := prin_len_z t j
      have hul : (tabI (cooG t j (eJ t j)) (cC t j) (cooP t j (eJ t j)) (!minJ t j) (sizeI (cooG t j (eJ t j)).length (cR t j) (cC t j) (!minJ t j)).toNat).length = (prinTab t j).length := by rw [tab_len, hpt]; omega
      have hml := cooM_len t j (eJ t j)
      refine Or.inl (cq (coo_fn t h j hj hr) (And.intro rfl (And.intro rfl trivial)) ?_)
      refine And.intro (fun h3 => absurd (hr.symm.trans (show (regL t).getD j false = false by simpa using h3)) (by simp)) (fun _ => ?_)
      refine And.intro (fun h => absurd rfl h) (fun _ => ?_)
      refine Or.inl (cq (chk_fn t j (cooG t j (eJ t j)) (cR t j) (cC t j) (cooP t j (eJ t j)) (!minJ t j) (cooM t j (eJ t j))) (And.intro rfl (And.intro rfl (And.intro (And.intro rfl (And.intro rfl (And.intro rfl (And.intro rfl (And.intro rfl trivial))))) (And.intro rfl trivial)))) ?_)
      rw [hchk]
      refine And.intro (fun h => absurd h (by simp)) (fun _ => ?_)
      refine Or.inl (cq (reg_fn _ _ _ _ _ hre) (And.intro (And.intro rfl (And.intro rfl (And.intro rfl (And.intro rfl (And.intro rfl trivial))))) trivial) ?_)
      rw [hregB]
      refine And.intro (fun h => absurd h (by simp)) (fun _ => ?_)
      refine Or.inl (cq (table_fn _ _ _ _ _ hre) (And.intro (And.intro rfl (And.intro rfl (And.intro rfl (And.intro rfl (And.intro rfl trivial))))) trivial) ?_)
      refine Or.inl (cq (prin_fn t h j hj) (And.intro rfl (And.intro rfl trivial)) ?_)
      refine And.intro (fun h => absurd rfl h) (fun _ => ?_)
      refine And.intro (fun h => absurd rfl h) (fun _ => ?_)
      refine And.intro (fun h => absurd (congrArg (fun n : Nat => (n : Int)) hul) h) (fun _ => ?_)
      have hil := isoL_len t j (cooM t j (eJ t j))
      refine Exists.intro [] <| lp (X := Nat) (fun i => [(83, .int .i64 i), (14, .vec 91)]) (fun i => [(91, .vec 0 (.ints .i64 ((isoL t j (cooM t j (eJ t j))).take i)) [])]) (fun i => i ≤ (prinList t j).length) (fun i => (prinList t j).length - i) 0 (Nat.zero_le _) (by repeat' first | refine And.intro ?_ ?_ | exact True.intro | (show (_ : Int) = (_ : Int); omega) | omega | exact rfl | (simp only [RO.len]; omega)) ?_
      intro i hi
      refine And.intro (fun h4 => ?_) (fun h4 => ?_)
      · have h4 : (i : Int) < ((prinList t j).length : Int) := h4
        have hil2 : i < (prinList t j).length := by omega
        have hg := prin_get hj hil2
        have hsn := take_snoc (l := isoL t j (cooM t j (eJ t j))) (i := i) (d := 0) (by omega)
        rw [isoL_get hil2] at hsn
        have htl : ((isoL t j (cooM t j (eJ t j))).take i).length ≤ 400 := by rw [List.length_take]; omega
        refine And.intro (by omega) ?_
        refine And.intro (fun h5 => ?_) (fun h5 => ?_)
        · have h5 : (prinList t j).getD i 0 < 0 := h5
          have e : RO.ints .i64 ((isoL t j (cooM t j (eJ t j))).take i ++ [0]) = RO.ints .i64 ((isoL t j (cooM t j (eJ t j))).take (i + 1)) := by
            rw [hsn]; unfold isoV; rw [if_pos h5]
          refine And.intro (by simp; omega) ?_
          refine And.intro (by omega) ?_
          exact nx (i + 1) (show i + 1 ≤ (prinList t j).length by omega) (show (prinList t j).length - (i + 1) < (prinList t j).length - i by omega) (by repeat' first | refine And.intro ?_ ?_ | exact True.intro | exact e | (show (_ : Int) = (_ : Int); omega) | omega | exact rfl)
        · have h5 : 0 ≤ (prinList t j).getD i 0 := h5
          have e : RO.ints .i64 ((isoL t j (cooM t j (eJ t j))).take i ++ [(cooM t j (eJ t j)).getD ((prinList t j).getD i 0).toNat 0]) = RO.ints .i64 ((isoL t j (cooM t j (eJ t j))).take (i + 1)) := by
            rw [hsn]; unfold isoV; rw [if_neg (by omega)]
          refine And.intro (show 0 ≤ (prinList t j).getD i 0 ∧ (prinList t j).getD i 0 < ((cooM t j (eJ t j)).length : Int) by omega) ?_
          refine And.intro (by simp; omega) ?_
          refine And.intro (by omega) ?_
          exact nx (i + 1) (show i + 1 ≤ (prinList t j).length by omega) (show (prinList t j).length - (i + 1) < (prinList t j).length - i by omega) (by repeat' first | refine And.intro ?_ ?_ | exact True.intro | exact e | (show (_ : Int) = (_ : Int); omega) | omega | exact rfl)
      · have h4 : ((prinList t j).length : Int) ≤ (i : Int) := h4
        have hta : (isoL t j (cooM t j (eJ t j))).take i = isoL t j (cooM t j (eJ t j)) := List.take_of_length_le (by omega)
        rw [hta]
        refine Or.inl (cq (morph_fn _ _ _ (prin_sh h hj) (rees_semi hre).toSh hmor) (And.intro rfl (And.intro rfl (And.intro rfl trivial))) ?_)
        refine And.intro (by omega) ?_
        exact nx (j + 1) (show j + 1 ≤ numJ t by omega) (show numJ t - (j + 1) < numJ t - j by omega) (by repeat' first | refine And.intro ?_ ?_ | exact True.intro | (show (_ : Int) = (_ : Int); omega) | omega | exact rfl | (simp only [RO.len]; omega))
    · refine Or.inl (cq (coo_none t h j hj hr) (And.intro rfl (And.intro rfl trivial)) ?_)
      refine And.intro (fun _ => ?_) (fun h3 => absurd (hr.symm.trans (show (regL t).getD j false = true by simpa using h3)) (by simp))
      refine And.intro (fun h => absurd rfl h) (fun _ => ?_)
      refine And.intro (by omega) ?_
      exact nx (j + 1) (show j + 1 ≤ numJ t by omega) (show numJ t - (j + 1) < numJ t - j by omega) (by repeat' first | refine And.intro ?_ ?_ | exact True.intro | (show (_ : Int) = (_ : Int); omega) | omega | exact rfl | (simp only [RO.len]; omega))
  · refine And.intro (fun h3 => ?_) (fun h3 => absurd (show ((regL t).length : Int) ≤ 0 from h3) (by omega))
    exact Or.inl (cq awake_fn trivial (And.intro rfl trivial))
theorem reesTh_fn (t : List (List Int)) : QF 5 [.ro (.rows .i64 t)] (.bool (.lit true)) := mkQ Try.func5 (by decide +kernel) rfl (Nat.le_of_ble_eq_true rfl) fun _ => reesTh_k t
end Go.Proofs.Ytfoemneboalddaa
