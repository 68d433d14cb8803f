/- IdealKernel, the walk: it returns true. -/
import Derived.Test.YtdmfhcppdpcceaaKerLaw
import Derived.Test.YtdmfhcppdpcceaaMin
import Derived.Test.YtdmfhcppdpcceaaSub
import Derived.Test.YtdmfhcppdpcceaaIn
import Derived.Test.YtdmfhcppdpcceaaIdealAwake
namespace Go.Proofs.Ytdmfhcppdpcceaa
open Go Go.AM
set_option maxRecDepth 100000
set_option maxHeartbeats 2000000
theorem idKer_k (t : List (List Int)) : fnK TY SP Try.f8 [.ro (.rows .i64 t)] (.bool (.lit true)) := by
  refine Or.inl (cq (small18_fn t 16) (And.intro rfl (And.intro rfl trivial)) ?_)
  refine And.intro (fun _ => ?_) (fun h1 => ?_)
  · exact Or.inl (cq awake18_fn trivial (And.intro rfl trivial))
  have h1 : (!decide ((t.length : Int) ≤ 16 ∧ validV t = 0)) = false := h1
  have h1 : (t.length : Int) ≤ 16 ∧ validV t = 0 := by simpa using h1
  have h : Semi t := valid_zero.1 h1.2
  have oL := oneL_l h
  have oR := oneL_r h
  have mL := mn_ok oL t.length (Nat.le_refl _)
  have mR := mn_ok oR t.length (Nat.le_refl _)
  have pL := mL.pos h
  have pR := mR.pos h
  have bL := mnL_len t (lftF t) t.length
  have bR := mnL_len t (rgtF t) t.length
  refine Or.inl (cq (minL_fn t h) (And.intro rfl trivial) ?_)
  refine Or.inl (cq (minR_fn t h) (And.intro rfl trivial) ?_)
  refine Or.inl (cq (iKernel_fn t h) (And.intro rfl trivial) ?_)
  refine Or.inl (cq (rset_fn (ascV t.length (kerF t)) t.length (by omega)) (And.intro rfl (And.intro rfl trivial)) ?_)
  have hsl : (setB t.length fun x => (ascV t.length (kerF t)).contains (x : Int)).length = t.length := setB_len _ _
  have hget : ∀ x, x < t.length → (setB t.length fun x => (ascV t.length (kerF t)).contains (x : Int)).getD x false = kerF t x := fun x hx => by
    have e2 : (setB t.length fun x => (ascV t.length (kerF t)).contains (x : Int)).getD x false = setI (ascV t.length (kerF t)) x := setB_get (f := setI (ascV t.length (kerF t))) hx
    rw [e2, ascV_set hx]
  have e0 : List.replicate ((t.length : Nat) : Int).toNat false = setB t.length (covB ((mnL t (lftF t) t.length).take 0)) := by
    refine ext_getD false (by simp [setB]) fun x hx => ?_
    rw [Int.toNat_natCast, List.length_replicate] at hx
    rw [setB_get hx, Int.toNat_natCast]; unfold covB; simp [hx]
  refine And.intro (by omega) ?_
  refine And.intro (by omega) ?_
  refine Exists.intro [] <| lp (X := Nat) (fun i => [(38, .int .i64 i)]) (fun i => [(35, .vec 0 (.bools (setB t.length (covB ((mnL t (lftF t) t.length).take i)))) [])]) (fun i => i ≤ (mnL t (lftF t) t.length).length) (fun i => (mnL t (lftF t) t.length).length - i) 0 (Nat.zero_le _) (by repeat' first | refine And.intro ?_ ?_ | exact True.intro | exact congrArg RO.bools e0 | (show (_ : Int) = (_ : Int); omega) | omega | exact rfl) ?_
  intro i hi
  refine And.intro (fun h2 => ?_) (fun h2 => ?_)
  · have h2 : (i : Int) < ((mnL t (lftF t) t.length).length : Int) := h2
    have hil : i < (mnL t (lftF t) t.length).length := by omega
    have hnew := fun z (hz : setI ((mnL t (lftF t) t.length).getD i []) z = true) => mL.new hil hz
    refine Exists.elim (mL.row _ (getD_mem (d := []) hil)) fun a hA => ?_
    have hAl : ((mnL t (lftF t) t.length).getD i []).length ≤ t.length := by rw [hA.2.2]; exact ascV_len _ _
    have hAm : ∀ q, q < ((mnL t (lftF t) t.length).getD i []).length → (0 ≤ ((mnL t (lftF t) t.length).getD i []).getD q 0 ∧ ((mnL t (lftF t) t.length).getD i []).getD q 0 < (t.length : Int)) ∧ setI ((mnL t (lftF t) t.length).getD i []) (((mnL t (lftF t) t.length).getD i []).getD q 0).toNat = true ∧ kerF t (((mnL t (lftF t) t.length).getD i []).getD q 0).toNat = true := fun q hq => by
      have hm := getD_mem (d := 0) hq
      have hr : 0 ≤ ((mnL t (lftF t) t.length).getD i []).getD q 0 ∧ ((mnL t (lftF t) t.length).getD i []).getD q 0 < (t.length : Int) := ascV_in (n := t.length) (f := inLB t a) (by rw [← hA.2.2]; exact hm)
      have hx : (((mnL t (lftF t) t.length).getD i []).getD q 0).toNat < t.length := by omega
      have hi2 : setI ((mnL t (lftF t) t.length).getD i []) (((mnL t (lftF t) t.length).getD i []).getD q 0).toNat = true := setI_iff.2 (by rw [Int.toNat_of_nonneg hr.1]; exact hm)
      refine ⟨hr, hi2, ?_⟩
      have hi3 := hi2
      rw [hA.2.2, ascV_set (by rw [← hA.2.2]; exact hx), ← hA.2.2] at hi3
      exact ker_L h hA.1 hA.2.1 hi3
    have hasc : Asc ((mnL t (lftF t) t.length).getD i []) := by rw [hA.2.2]; exact ascV_asc _ _
    have hcovl := setB_len t.length (covB ((mnL t (lftF t) t.length).take i))
    refine And.intro (by omega) ?_
    refine Exists.intro [] <| lp2 (fun (q : Nat) (_ : List Bool) => [(44, .int .i64 q)]) (fun _ D => [(35, .vec 0 (.bools D) [])]) (fun q D => q ≤ ((mnL t (lftF t) t.length).getD i []).length ∧ D.length = t.length ∧ ∀ y, y < t.length → D.getD y false = (covB ((mnL t (lftF t) t.length).take i) y || (((mnL t (lftF t) t.length).getD i []).take q).contains (y : Int))) (fun q _ => ((mnL t (lftF t) t.length).getD i []).length - q) 0 (setB t.length (covB ((mnL t (lftF t) t.length).take i))) ⟨Nat.zero_le _, hcovl, fun y hy => by rw [setB_get hy]; simp⟩ (by repeat' first | refine And.intro ?_ ?_ | exact True.intro | (show (_ : Int) = (_ : Int); omega) | omega | exact rfl | (simp only [RO.len]; omega)) ?_
    rintro q D ⟨hq, hD, hDy⟩
    refine And.intro (fun h3 => ?_) (fun h3 => ?_)
    · have h3 : (q : Int) < (((mnL t (lftF t) t.length).getD i []).length : Int) := h3
      have hql : q < ((mnL t (lftF t) t.length).getD i []).length := by omega
      have hAq := hAm q hql
      have hx : (((mnL t (lftF t) t.length).getD i []).getD q 0).toNat < t.length := by omega
      have hinq : ∀ x ∈ [((mnL t (lftF t) t.length).getD i []).getD q 0], 0 ≤ x ∧ x < (t.length : Int) := fun x hx => by rw [List.mem_singleton] at hx; rw [hx]; exact hAq.1
      have hkq := hget _ hx
      have hfree : D.getD (((mnL t (lftF t) t.length).getD i []).getD q 0).toNat false = false := by
        rw [hDy _ hx, hnew _ hAq.2.1, Bool.false_or, Bool.eq_false_iff]
        intro hh
        have hm := List.contains_iff_mem.1 hh
        rw [Int.toNat_of_nonneg hAq.1.1] at hm
        obtain ⟨j, hj, he⟩ := List.mem_iff_getElem.1 hm
        rw [List.length_take] at hj
        rw [List.getElem_take] at he
        have := asc_inj hasc (i := j) (j := q) (by omega) hql (by rw [getD_eq (by omega), he])
        omega
      refine And.intro (by omega) ?_
      refine Or.inl (cq (rin_fn t [((mnL t (lftF t) t.length).getD i []).getD q 0]) (And.intro rfl (And.intro rfl trivial)) ?_)
      refine And.intro (fun h4 => ?_) (fun _ => ?_)
      · rw [decide_eq_true hinq] at h4; cases h4
      refine And.intro (by simp only [Int.toNat_natCast]; omega) ?_
      refine And.intro (fun h4 => ?_) (fun _ => ?_)
      · exfalso
        have h4 : (!(setB t.length fun x => (ascV t.length (kerF t)).contains (x : Int)).getD (((mnL t (lftF t) t.length).getD i []).getD q 0).toNat false) = true := h4
        rw [hkq, hAq.2.2] at h4; cases h4
      refine And.intro (by simp only [Int.toNat_natCast]; omega) ?_
      refine And.intro (fun h4 => ?_) (fun _ => ?_)
      · exfalso
        have h4 : D.getD (((mnL t (lftF t) t.length).getD i []).getD q 0).toNat false = true := h4
        rw [hfree] at h4; cases h4
      refine And.intro (by simp only [Int.toNat_natCast]; omega) ?_
      refine And.intro (by simp only [Int.toNat_natCast]; omega) ?_
      refine And.intro (by omega) ?_
      refine nx (q + 1, D.set (((mnL t (lftF t) t.length).getD i []).getD q 0).toNat true) ⟨by omega, by rw [List.length_set]; exact hD, fun y hy => ?_⟩ (show ((mnL t (lftF t) t.length).getD i []).length - (q + 1) < ((mnL t (lftF t) t.length).getD i []).length - q by omega) (by repeat' first | refine And.intro ?_ ?_ | exact True.intro | (show (_ : Int) = (_ : Int); omega) | omega | exact rfl | (simp only [RO.len]; omega))
      have ec : (((mnL t (lftF t) t.length).getD i []).take (q + 1)).contains (y : Int) = ((((mnL t (lftF t) t.length).getD i []).take q).contains (y : Int) || decide (((mnL t (lftF t) t.length).getD i []).getD q 0 = (y : Int))) := by
        rw [take_snoc (d := 0) hql, Bool.eq_iff_iff, Bool.or_eq_true_iff, List.contains_iff_mem, List.contains_iff_mem, List.mem_append, List.mem_singleton, decide_eq_true_iff, @eq_comm _ (y : Int)]
      by_cases e : y = (((mnL t (lftF t) t.length).getD i []).getD q 0).toNat
      · rw [e, getD_set_eq (by omega), ← e, ec, decide_eq_true (show ((mnL t (lftF t) t.length).getD i []).getD q 0 = (y : Int) by omega)]; simp
      · rw [getD_set_ne (Ne.symm e), hDy y hy, ec, decide_eq_false (show ¬ ((mnL t (lftF t) t.length).getD i []).getD q 0 = (y : Int) by omega), Bool.or_false]
    · have h3 : (((mnL t (lftF t) t.length).getD i []).length : Int) ≤ (q : Int) := h3
      have eD : D = setB t.length (covB ((mnL t (lftF t) t.length).take (i + 1))) := ext_getD false (by rw [setB_len]; exact hD) fun y hy => by
        rw [hDy y (by omega), setB_get (by omega), take_snoc (d := []) hil, covB_snoc, List.take_of_length_le (l := ((mnL t (lftF t) t.length).getD i [])) (by omega)]; rfl
      subst eD
      refine Exists.intro [] <| lp (X := Nat) (fun j => [(72, .int .i64 j)]) (fun _ => []) (fun j => j ≤ (mnL t (rgtF t) t.length).length) (fun j => (mnL t (rgtF t) t.length).length - j) 0 (Nat.zero_le _) (by repeat' first | refine And.intro ?_ ?_ | exact True.intro | (show (_ : Int) = (_ : Int); omega) | omega | exact rfl | (simp only [RO.len]; omega)) ?_
      intro j hj
      refine And.intro (fun h4 => ?_) (fun h4 => ?_)
      · have h4 : (j : Int) < ((mnL t (rgtF t) t.length).length : Int) := h4
        have hjl : j < (mnL t (rgtF t) t.length).length := by omega
        refine Exists.elim (mR.row _ (getD_mem (d := []) hjl)) fun b hB => ?_
        have mg : MetG t a b := ⟨h, hA.1, hB.1, hA.2.1, hB.2.1⟩
        have hbl := setB_len t.length fun x => ((mnL t (rgtF t) t.length).getD j []).contains (x : Int)
        have hbg : ∀ x, x < t.length → (setB t.length fun x => ((mnL t (rgtF t) t.length).getD j []).contains (x : Int)).getD x false = setI ((mnL t (rgtF t) t.length).getD j []) x := fun x hx => setB_get (f := setI ((mnL t (rgtF t) t.length).getD j [])) hx
        refine And.intro (by omega) ?_
        refine Or.inl (cq (rset_fn ((mnL t (rgtF t) t.length).getD j []) t.length (by omega)) (And.intro rfl (And.intro rfl trivial)) ?_)
        refine Exists.intro [] <| lp (X := Nat) (fun q => [(82, .int .i64 q), (13, .vec 93)]) (fun q => [(93, .vec 0 (.ints .i64 ((((mnL t (lftF t) t.length).getD i []).take q).filter fun x => setI ((mnL t (rgtF t) t.length).getD j []) x.toNat)) [])]) (fun q => q ≤ ((mnL t (lftF t) t.length).getD i []).length) (fun q => ((mnL t (lftF t) t.length).getD i []).length - q) 0 (Nat.zero_le _) (by repeat' first | refine And.intro ?_ ?_ | exact True.intro | (show (_ : Int) = (_ : Int); omega) | omega | exact rfl | (simp only [RO.len]; omega)) ?_
        intro q hq
        have hfl : ((((mnL t (lftF t) t.length).getD i []).take q).filter fun x => setI ((mnL t (rgtF t) t.length).getD j []) x.toNat).length ≤ q := Nat.le_trans (List.length_filter_le _ _) (by rw [List.length_take]; omega)
        refine And.intro (fun h5 => ?_) (fun h5 => ?_)
        · have h5 : (q : Int) < (((mnL t (lftF t) t.length).getD i []).length : Int) := h5
          have hql : q < ((mnL t (lftF t) t.length).getD i []).length := by omega
          have hAq := hAm q hql
          have hx : (((mnL t (lftF t) t.length).getD i []).getD q 0).toNat < t.length := by omega
          have hg := hbg _ hx
          refine And.intro (by omega) ?_
          refine And.intro (by simp only [Int.toNat_natCast]; omega) ?_
          refine And.intro (fun h6 => ?_) (fun h6 => ?_)
          · have h6 : (setB t.length fun x => ((mnL t (rgtF t) t.length).getD j []).contains (x : Int)).getD (((mnL t (lftF t) t.length).getD i []).getD q 0).toNat false = true := h6
            rw [hg] at h6
            have ek : ((((mnL t (lftF t) t.length).getD i []).take q).filter fun x => setI ((mnL t (rgtF t) t.length).getD j []) x.toNat) ++ [((mnL t (lftF t) t.length).getD i []).getD q 0] = ((((mnL t (lftF t) t.length).getD i []).take (q + 1)).filter fun x => setI ((mnL t (rgtF t) t.length).getD j []) x.toNat) := by
              rw [take_snoc (d := 0) hql, List.filter_append, List.filter_cons_of_pos (p := fun x : Int => setI ((mnL t (rgtF t) t.length).getD j []) x.toNat) h6]; rfl
            refine And.intro (by rw [List.length_append, List.length_singleton]; omega) ?_
            refine And.intro (by omega) ?_
            refine nx (q + 1) (show q + 1 ≤ ((mnL t (lftF t) t.length).getD i []).length by omega) (show ((mnL t (lftF t) t.length).getD i []).length - (q + 1) < ((mnL t (lftF t) t.length).getD i []).length - q by omega) ?_
            repeat' first | refine And.intro ?_ ?_ | exact True.intro | exact congrArg (RO.ints .i64) ek | (show (_ : Int) = (_ : Int); omega) | omega | exact rfl
          · have h6 : (setB t.length fun x => ((mnL t (rgtF t) t.length).getD j []).contains (x : Int)).getD (((mnL t (lftF t) t.length).getD i []).getD q 0).toNat false = false := h6
            rw [hg] at h6
            have ek : ((((mnL t (lftF t) t.length).getD i []).take q).filter fun x => setI ((mnL t (rgtF t) t.length).getD j []) x.toNat) = ((((mnL t (lftF t) t.length).getD i []).take (q + 1)).filter fun x => setI ((mnL t (rgtF t) t.length).getD j []) x.toNat) := by
              rw [take_snoc (d := 0) hql, List.filter_append, List.filter_cons_of_neg (p := fun x : Int => setI ((mnL t (rgtF t) t.length).getD j []) x.toNat) (by rw [h6]; simp)]; simp
            refine And.intro (by omega) ?_
            refine nx (q + 1) (show q + 1 ≤ ((mnL t (lftF t) t.length).getD i []).length by omega) (show ((mnL t (lftF t) t.length).getD i []).length - (q + 1) < ((mnL t (lftF t) t.length).getD i []).length - q by omega) ?_
            repeat' first | refine And.intro ?_ ?_ | exact True.intro | exact congrArg (RO.ints .i64) ek | (show (_ : Int) = (_ : Int); omega) | omega | exact rfl
        · have h5 : (((mnL t (lftF t) t.length).getD i []).length : Int) ≤ (q : Int) := h5
          have em : (((mnL t (lftF t) t.length).getD i []).take q).filter (fun x => setI ((mnL t (rgtF t) t.length).getD j []) x.toNat) = ascV t.length (metF t a b) := by
            rw [List.take_of_length_le (by omega), hA.2.2, hB.2.2]; exact met_list
          have hcl : ClL t ((((mnL t (lftF t) t.length).getD i []).take q).filter fun x => setI ((mnL t (rgtF t) t.length).getD j []) x.toNat) := by rw [em]; exact mg.cl
          have hgr : Grp (subT t ((((mnL t (lftF t) t.length).getD i []).take q).filter fun x => setI ((mnL t (rgtF t) t.length).getD j []) x.toNat)) := by rw [em]; exact mg.group
          refine Or.inl (cq (sub_fn t h ((((mnL t (lftF t) t.length).getD i []).take q).filter fun x => setI ((mnL t (rgtF t) t.length).getD j []) x.toNat) hcl (by omega)) (And.intro rfl (And.intro rfl trivial)) ?_)
          refine And.intro (fun h6 => absurd rfl h6) (fun _ => ?_)
          refine Or.inl (cq (rgroup_fn (subT t ((((mnL t (lftF t) t.length).getD i []).take q).filter fun x => setI ((mnL t (rgtF t) t.length).getD j []) x.toNat))) (And.intro rfl trivial) ?_)
          refine And.intro (fun h6 => ?_) (fun _ => ?_)
          · rw [grpB_true.2 hgr] at h6; cases h6
          refine And.intro (by omega) ?_
          exact nx (j + 1) (show j + 1 ≤ (mnL t (rgtF t) t.length).length by omega) (show (mnL t (rgtF t) t.length).length - (j + 1) < (mnL t (rgtF t) t.length).length - j by omega) (by repeat' first | refine And.intro ?_ ?_ | exact True.intro | (show (_ : Int) = (_ : Int); omega) | omega | exact rfl | (simp only [RO.len]; omega))
      · refine And.intro (by omega) ?_
        exact nx (i + 1) (show i + 1 ≤ (mnL t (lftF t) t.length).length by omega) (show (mnL t (lftF t) t.length).length - (i + 1) < (mnL t (lftF t) t.length).length - i by omega) (by repeat' first | refine And.intro ?_ ?_ | exact True.intro | (show (_ : Int) = (_ : Int); omega) | omega | exact rfl | (simp only [RO.len]; omega))
  · have h2 : ((mnL t (lftF t) t.length).length : Int) ≤ (i : Int) := h2
    refine Exists.intro [] <| lp (X := Nat) (fun x => [(112, .int .i64 x)]) (fun _ => []) (fun x => x ≤ t.length) (fun x => t.length - x) 0 (Nat.zero_le _) (by repeat' first | refine And.intro ?_ ?_ | exact True.intro | (show (_ : Int) = (_ : Int); omega) | omega | exact rfl | (simp only [RO.len]; omega)) ?_
    intro x hx
    have hcovl := setB_len t.length (covB ((mnL t (lftF t) t.length).take i))
    refine And.intro (fun h3 => ?_) (fun h3 => ?_)
    · have hxl : x < t.length := by omega
      have hg := hget x hxl
      have hcv : (setB t.length (covB ((mnL t (lftF t) t.length).take i))).getD x false = kerF t x := by
        rw [setB_get hxl, List.take_of_length_le (by omega)]; exact mL.all oL hxl
      refine Or.inl ?_
      refine Exists.intro [false, false, false, false, false, false, false, false, false] (And.intro (by decide +kernel) ?_)
      refine And.intro (by omega) ?_
      refine And.intro (by omega) ?_
      refine And.intro (fun h4 => ?_) (fun _ => ?_)
      · exfalso
        have h4 : (!((setB t.length (covB ((mnL t (lftF t) t.length).take i))).getD x false == (setB t.length fun x => (ascV t.length (kerF t)).contains (x : Int)).getD x false)) = true := h4
        rw [hcv, hg] at h4; simp at h4
      refine And.intro (by omega) ?_
      exact nx (x + 1) (show x + 1 ≤ t.length by omega) (show t.length - (x + 1) < t.length - x by omega) (by repeat' first | refine And.intro ?_ ?_ | exact True.intro | (show (_ : Int) = (_ : Int); omega) | omega | exact rfl | (simp only [RO.len]; omega))
    · refine And.intro (fun _ => ?_) (fun h4 => ?_)
      · refine And.intro (fun _ => ?_) (fun h5 => ?_)
        · exact Or.inl (cq awake18_fn trivial (And.intro rfl trivial))
        · have h5 : ((mnL t (rgtF t) t.length).length : Int) ≤ 0 := h5
          omega
      · have h4 : ((mnL t (lftF t) t.length).length : Int) ≤ 0 := h4
        omega
theorem idKer_fn (t : List (List Int)) : QF 8 [.ro (.rows .i64 t)] (.bool (.lit true)) := mkQ Try.func8 (by decide +kernel) rfl (Nat.le_of_ble_eq_true rfl) fun _ => idKer_k t
end Go.Proofs.Ytdmfhcppdpcceaa
