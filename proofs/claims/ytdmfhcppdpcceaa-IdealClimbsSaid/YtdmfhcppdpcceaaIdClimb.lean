/- IdealClimbs, the walk: it returns true. -/
import Derived.Test.YtdmfhcppdpcceaaClimbLaw
import Derived.Test.YtdmfhcppdpcceaaSeries
import Derived.Test.YtdmfhcppdpcceaaIdealAwake
namespace Go.Proofs.Ytdmfhcppdpcceaa
open Go Go.AM
set_option maxRecDepth 100000
set_option maxHeartbeats 2000000
theorem idClimb_k (t : List (List Int)) : fnK TY SP Try.f11 [.ro (.rows .i64 t)] (.bool (.lit true)) := by
  refine Or.inl (cq (small18_fn t 16) (And.intro rfl (And.intro rfl trivial)) ?_)
  refine And.intro (fun _ => ?_) (fun h1 => ?_)
  · exact Or.inl (cq awake18_fn trivial (And.intro rfl trivial))
  have h1 : (!decide ((t.length : Int) ≤ 16 ∧ validV t = 0)) = false := h1
  have h1 : (t.length : Int) ≤ 16 ∧ validV t = 0 := by simpa using h1
  have h : Semi t := valid_zero.1 h1.2
  have hp := numJ_pos h
  have hJ := numJ_le t
  have hbl := belowL_len t
  have hsv := serV_len t
  have hcl := classJ_len t
  have hker := ser_ker h
  have hend := ser_end h
  refine Or.inl (cq (series_fn t h) (And.intro rfl trivial) ?_)
  refine Or.inl (cq (green_fn t h) (And.intro rfl trivial) ?_)
  refine Or.inl ?_
  refine Exists.intro [false, false, false, false, false, false, false, false, false, false, false, false, false, false, false, false, false, false, false, false, false, false, false, false, false, false, false, false, false, false, false, false, false, false, false, false, false, false, false, false] (And.intro (by decide +kernel) ?_)
  refine And.intro (fun h2 => ?_) (fun _ => ?_)
  · have h2 : ((serV t).length : Int) ≠ ((belowL t).length : Int) := h2
    omega
  refine And.intro (fun h2 => ?_) (fun _ => ?_)
  · have h2 : ((serV t).length : Int) < 1 := h2
    omega
  refine And.intro (by omega) ?_
  refine cq (iKernel_fn t h) (And.intro rfl trivial) ?_
  refine cq (same_fn ((serV t).getD 0 []) (ascV t.length (kerF t))) (And.intro rfl (And.intro rfl trivial)) ?_
  refine And.intro (fun h2 => ?_) (fun _ => ?_)
  · rw [hker] at h2; simp at h2
  have e1 : (((serV t).length : Int) - 1).toNat = numJ t - 1 := by omega
  have hend2 : (((serV t).getD (((serV t).length : Int) - 1).toNat []).length : Int) = (t.length : Int) := by rw [e1, hend]
  refine And.intro (by omega) ?_
  refine And.intro (by omega) ?_
  refine And.intro (fun h2 => absurd hend2 h2) (fun _ => ?_)
  refine And.intro (fun h2 => ?_) (fun _ => ?_)
  · have h2 : ((classJ t).length : Int) ≠ (t.length : Int) := h2
    omega
  refine Exists.intro [] <| lp (X := Nat) (fun s => [(5, .int .i64 ((s + 1 : Nat) : Int))]) (fun _ => []) (fun s => s + 1 ≤ numJ t) (fun s => numJ t - s) 0 hp (by repeat' first | refine And.intro ?_ ?_ | exact True.intro | (show (_ : Int) = (_ : Int); omega) | omega | exact rfl | (simp only [RO.len]; omega)) ?_
  intro s hs
  refine And.intro (fun h3 => ?_) (fun h3 => ?_)
  · have h3 : ((s + 1 : Nat) : Int) < ((serV t).length : Int) := h3
    have hsl : s + 1 < numJ t := by omega
    have hid := ser_id h hsl
    have el : ((serV t).getD (((s + 1 : Nat) : Int) - 1).toNat []) = ascV t.length (inS t (us t (s + 1))) := by rw [show (((s + 1 : Nat) : Int) - 1).toNat = s by omega, serV_get (by omega)]
    have eL : ((serV t).getD (s + 1) []) = ascV t.length (inS t (us t (s + 1 + 1))) := serV_get hsl
    have hce := climb_end h hsl
    rw [← eL] at hce
    have hsb : (setB t.length fun x => ((serV t).getD (((s + 1 : Nat) : Int) - 1).toNat []).contains (x : Int)).length = t.length := setB_len _ _
    have hget : ∀ x, x < t.length → (setB t.length fun x => ((serV t).getD (((s + 1 : Nat) : Int) - 1).toNat []).contains (x : Int)).getD x false = (inS t (us t (s + 1))) x := fun x hx => by
      have e2 : (setB t.length fun x => ((serV t).getD (((s + 1 : Nat) : Int) - 1).toNat []).contains (x : Int)).getD x false = setI ((serV t).getD (((s + 1 : Nat) : Int) - 1).toNat []) x := setB_get (f := setI ((serV t).getD (((s + 1 : Nat) : Int) - 1).toNat [])) hx
      rw [e2, el, ascV_set hx]
    have hLm : ∀ q, q < ((serV t).getD (s + 1) []).length → 0 ≤ ((serV t).getD (s + 1) []).getD q 0 ∧ ((serV t).getD (s + 1) []).getD q 0 < (t.length : Int) := fun q hq => hid.2.2.1 _ (getD_mem hq)
    have hLc : ∀ q, q < ((serV t).getD (s + 1) []).length → (inS t (us t (s + 1))) (((serV t).getD (s + 1) []).getD q 0).toNat = false → (classJ t).getD (((serV t).getD (s + 1) []).getD q 0).toNat 0 = ((nxJ t (us t (s + 1))) : Int) := fun q hq hf => by
      have hr := hLm q hq
      have hi : setI ((serV t).getD (s + 1) []) (((serV t).getD (s + 1) []).getD q 0).toNat = true := setI_iff.2 (by rw [Int.toNat_of_nonneg hr.1]; exact getD_mem hq)
      have hx : (((serV t).getD (s + 1) []).getD q 0).toNat < t.length := by omega
      have hi2 : inS t (us t (s + 1 + 1)) (((serV t).getD (s + 1) []).getD q 0).toNat = true := by
        have : setI (ascV t.length (inS t (us t (s + 1 + 1)))) (((serV t).getD (s + 1) []).getD q 0).toNat = true := by rw [← eL]; exact hi
        rwa [ascV_set hx] at this
      rw [inS_next h hsl hx, hf] at hi2
      simpa using hi2
    refine And.intro (by omega) ?_
    refine Or.inl (cq (iIsIdeal_fn t h ((serV t).getD (s + 1) [])) (And.intro rfl (And.intro rfl trivial)) ?_)
    refine And.intro (fun h4 => ?_) (fun _ => ?_)
    · rw [idB_true.2 hid] at h4; cases h4
    refine And.intro (by omega) ?_
    refine And.intro (by omega) ?_
    refine Or.inl (cq (rset_fn ((serV t).getD (((s + 1 : Nat) : Int) - 1).toNat []) t.length (by omega)) (And.intro rfl (And.intro rfl trivial)) ?_)
    refine And.intro (by omega) ?_
    refine Exists.intro [] <| lp (X := Nat) (fun q => [(85, .int .i64 q), (7, .int .i64 (newD (inS t (us t (s + 1))) (nxJ t (us t (s + 1))) ((serV t).getD (s + 1) []) q)), (8, .int .i64 (shN (inS t (us t (s + 1))) ((serV t).getD (s + 1) []) q))]) (fun _ => []) (fun q => q ≤ ((serV t).getD (s + 1) []).length) (fun q => ((serV t).getD (s + 1) []).length - q) 0 (Nat.zero_le _) (by repeat' first | refine And.intro ?_ ?_ | exact True.intro | (show (_ : Int) = (_ : Int); omega) | omega | exact rfl | (simp only [RO.len]; omega)) ?_
    intro q hq
    refine And.intro (fun h4 => ?_) (fun h4 => ?_)
    · have h4 : (q : Int) < (((serV t).getD (s + 1) []).length : Int) := h4
      have hql : q < ((serV t).getD (s + 1) []).length := by omega
      have hr := hLm q hql
      have hx : (((serV t).getD (s + 1) []).getD q 0).toNat < t.length := by omega
      have hg := hget _ hx
      have hle := shN_le (inS t (us t (s + 1))) ((serV t).getD (s + 1) []) q
      have hLl : ((serV t).getD (s + 1) []).length ≤ t.length := by rw [eL]; exact ascV_len _ _
      have hss := shN_succ (f := (inS t (us t (s + 1)))) hql
      have hcx := cJ_val hx
      refine And.intro (by omega) ?_
      refine And.intro (by simp only [Int.toNat_natCast]; omega) ?_
      refine And.intro (fun h5 => ?_) (fun h5 => ?_)
      · have h5 : (setB t.length fun x => ((serV t).getD (((s + 1 : Nat) : Int) - 1).toNat []).contains (x : Int)).getD (((serV t).getD (s + 1) []).getD q 0).toNat false = true := h5
        rw [hg] at h5
        rw [if_pos h5] at hss
        have ed : newD (inS t (us t (s + 1))) (nxJ t (us t (s + 1))) ((serV t).getD (s + 1) []) q = newD (inS t (us t (s + 1))) (nxJ t (us t (s + 1))) ((serV t).getD (s + 1) []) (q + 1) := (newD_yes hql h5).symm
        have en : ((shN (inS t (us t (s + 1))) ((serV t).getD (s + 1) []) q : Nat) : Int) + 1 = ((shN (inS t (us t (s + 1))) ((serV t).getD (s + 1) []) (q + 1) : Nat) : Int) := by omega
        refine And.intro (by omega) ?_
        refine And.intro (by omega) ?_
        refine nx (q + 1) (show q + 1 ≤ ((serV t).getD (s + 1) []).length by omega) (show ((serV t).getD (s + 1) []).length - (q + 1) < ((serV t).getD (s + 1) []).length - q by omega) ?_
        repeat' first | refine And.intro ?_ ?_ | exact True.intro | exact ed | exact en | (show (_ : Int) = (_ : Int); omega) | omega | exact rfl
      · have h5 : (setB t.length fun x => ((serV t).getD (((s + 1 : Nat) : Int) - 1).toNat []).contains (x : Int)).getD (((serV t).getD (s + 1) []).getD q 0).toNat false = false := h5
        rw [hg] at h5
        rw [if_neg (by rw [h5]; simp)] at hss
        have hJx := hLc q hql h5
        have ed : (classJ t).getD (((serV t).getD (s + 1) []).getD q 0).toNat 0 = newD (inS t (us t (s + 1))) (nxJ t (us t (s + 1))) ((serV t).getD (s + 1) []) (q + 1) := by rw [hJx, newD_no hql h5]
        have en : ((shN (inS t (us t (s + 1))) ((serV t).getD (s + 1) []) q : Nat) : Int) = ((shN (inS t (us t (s + 1))) ((serV t).getD (s + 1) []) (q + 1) : Nat) : Int) := by omega
        refine And.intro (fun h6 => ?_) (fun h6 => ?_)
        · have h6 : 0 ≤ newD (inS t (us t (s + 1))) (nxJ t (us t (s + 1))) ((serV t).getD (s + 1) []) q := h6
          have hnd : newD (inS t (us t (s + 1))) (nxJ t (us t (s + 1))) ((serV t).getD (s + 1) []) q = ((nxJ t (us t (s + 1))) : Int) := by
            rcases newD_cases (inS t (us t (s + 1))) (nxJ t (us t (s + 1))) ((serV t).getD (s + 1) []) q with e | e
            · omega
            · exact e
          refine And.intro (by simp only [Int.toNat_natCast]; omega) ?_
          refine And.intro (fun h7 => ?_) (fun _ => ?_)
          · exact absurd (hJx.trans hnd.symm) h7
          refine And.intro (by simp only [Int.toNat_natCast]; omega) ?_
          refine And.intro (by omega) ?_
          refine nx (q + 1) (show q + 1 ≤ ((serV t).getD (s + 1) []).length by omega) (show ((serV t).getD (s + 1) []).length - (q + 1) < ((serV t).getD (s + 1) []).length - q by omega) ?_
          repeat' first | refine And.intro ?_ ?_ | exact True.intro | exact ed | exact en | (show (_ : Int) = (_ : Int); omega) | omega | exact rfl
        · refine And.intro (by simp only [Int.toNat_natCast]; omega) ?_
          refine And.intro (by omega) ?_
          refine nx (q + 1) (show q + 1 ≤ ((serV t).getD (s + 1) []).length by omega) (show ((serV t).getD (s + 1) []).length - (q + 1) < ((serV t).getD (s + 1) []).length - q by omega) ?_
          repeat' first | refine And.intro ?_ ?_ | exact True.intro | exact ed | exact en | (show (_ : Int) = (_ : Int); omega) | omega | exact rfl
    · have h4 : (((serV t).getD (s + 1) []).length : Int) ≤ (q : Int) := h4
      have hqe : q = ((serV t).getD (s + 1) []).length := by omega
      subst hqe
      have hn0 := hce.2
      have hn1 := hce.1
      have hlen : (((shN (inS t (us t (s + 1))) ((serV t).getD (s + 1) []) ((serV t).getD (s + 1) []).length : Nat)) : Int) = (((serV t).getD (((s + 1 : Nat) : Int) - 1).toNat []).length : Int) := by rw [el, hn1]
      refine And.intro (fun h5 => ?_) (fun _ => ?_)
      · have h5 : newD (inS t (us t (s + 1))) (nxJ t (us t (s + 1))) ((serV t).getD (s + 1) []) ((serV t).getD (s + 1) []).length < 0 := h5
        omega
      refine And.intro (by omega) ?_
      refine And.intro (by omega) ?_
      refine And.intro (fun h5 => absurd hlen h5) (fun _ => ?_)
      refine And.intro (by omega) ?_
      refine nx (s + 1) (show s + 1 + 1 ≤ numJ t by omega) (show numJ t - (s + 1) < numJ t - s by omega) (by repeat' first | refine And.intro ?_ ?_ | exact True.intro | (show (_ : Int) = (_ : Int); omega) | omega | exact rfl | (simp only [RO.len]; omega))
  · exact Or.inl (cq awake18_fn trivial (And.intro rfl trivial))
theorem idClimb_fn (t : List (List Int)) : QF 11 [.ro (.rows .i64 t)] (.bool (.lit true)) := mkQ Try.func11 (by decide +kernel) rfl (Nat.le_of_ble_eq_true rfl) fun _ => idClimb_k t
end Go.Proofs.Ytdmfhcppdpcceaa
