import Derived.Test.YtpanlghofeebhaaGreatCenter
import Derived.Test.YtpanlghofeebhaaGreatMerge
import Derived.Test.YtpanlghofeebhaaGreatCmp
import Derived.Test.YtpanlghofeebhaaGreatRefNrm
import Derived.Test.YtpanlghofeebhaaGreatSol
section
/- The reference's Center, CheckSeries, Factors: contracts. -/
namespace Go.Proofs.YtpanlghofeebhaaGreat
open Go Go.AM
set_option maxRecDepth 100000
theorem rcen14_fn (t : List (List Int)) (hs : Sh t) : QF 40 [.ro (.rows .i64 t)] (.ro (.ints .i64 (ascV t.length (cenB t)))) := mkQ Tryz.func40 (by decide +kernel) rfl (Nat.le_of_ble_eq_true rfl) fun _ => by
  have hm := hs.most
  refine Exists.intro [] <| lp (X := Nat) (fun i => [(9, .int .i64 i), (3, .vec 40)]) (fun i => [(40, .vec 0 (.ints .i64 (flP (cenB t) i)) [])]) (fun i => i ≤ t.length) (fun i => t.length - i) 0 (Nat.zero_le _) (by repeat' first | refine And.intro ?_ ?_ | exact True.intro | (show (_ : Int) = (_ : Int); omega) | omega | exact rfl | (simp only [RO.len]; omega)) ?_
  intro i hi
  have hfl := flP_len (cenB t) i
  refine And.intro (fun h1 => ?_) (fun h1 => ?_)
  · have h1 : (i : Int) < (t.length : Int) := h1
    have hil : i < t.length := by omega
    refine Exists.intro [] <| lp2 (fun (j : Nat) (b : Bool) => [(14, .int .i64 j), (5, .bool (.v b))]) (fun _ _ => []) (fun j b => j ≤ t.length ∧ (b = true ↔ ∀ y, y < j → en t i y = en t y i)) (fun j _ => t.length - j) 0 true ⟨Nat.zero_le _, by simp⟩ (by repeat' first | refine And.intro ?_ ?_ | exact True.intro | (show (_ : Int) = (_ : Int); omega) | omega | exact rfl | (simp only [RO.len]; omega)) ?_
    rintro j b ⟨hj, hb⟩
    refine And.intro (fun h2 => ?_) (fun h2 => ?_)
    · have h2 : (j : Int) < (t.length : Int) := h2
      have hjl : j < t.length := by omega
      have r1 := hs.len hil
      have r2 := hs.len hjl
      have e1 := hs.ent hil hjl
      have e2 := hs.ent hjl hil
      refine Or.inl ?_
      refine Exists.intro (List.replicate 18 false ++ [true]) (And.intro (by decide +kernel) ?_)
      refine And.intro (fun h3 => ?_) (fun h3 => ?_)
      · have h3 : b = true := h3
        have hb' := hb.1 h3
        refine And.intro (by omega) ?_
        refine And.intro (by rw [Int.toNat_natCast]; omega) ?_
        refine And.intro (by omega) ?_
        refine And.intro (by rw [Int.toNat_natCast]; omega) ?_
        refine And.intro (by omega) ?_
        refine nx (j + 1, decide ((t.getD i []).getD j 0 = (t.getD j []).getD i 0)) ⟨by omega, ?_⟩ (show t.length - (j + 1) < t.length - j by omega) (by repeat' first | refine And.intro ?_ ?_ | exact True.intro | (show (_ : Int) = (_ : Int); omega) | omega | exact rfl | (simp only [RO.len]; omega))
        rw [decide_eq_true_iff, e1.1, e2.1]
        constructor
        · intro e y hy
          by_cases hyj : y = j
          · rw [hyj]; omega
          · exact hb' y (by omega)
        · intro hh; rw [hh j (by omega)]
      · have h3 : b = false := h3
        refine And.intro (by omega) ?_
        refine nx (j + 1, false) ⟨by omega, ?_⟩ (show t.length - (j + 1) < t.length - j by omega) (by repeat' first | refine And.intro ?_ ?_ | exact True.intro | (show (_ : Int) = (_ : Int); omega) | omega | exact rfl | (simp only [RO.len]; omega))
        constructor
        · intro e; cases e
        · intro hh
          have := hb.2 fun y hy => hh y (by omega)
          rw [h3] at this; cases this
    · have h2 : (t.length : Int) ≤ (j : Int) := h2
      have hbc : b = cenB t i := by
        rw [Bool.eq_iff_iff, cenB_true]
        exact hb.trans ⟨fun hh y hy => hh y (by omega), fun hh y hy => hh y (by omega)⟩
      refine And.intro (fun h3 => ?_) (fun h3 => ?_)
      · have h3 : b = true := h3
        have e : flP (cenB t) i ++ [(i : Int)] = flP (cenB t) (i + 1) := (flP_yes (by rw [← hbc]; exact h3)).symm
        refine And.intro (by rw [List.length_append, List.length_singleton]; omega) ?_
        refine And.intro (by omega) ?_
        exact nx (i + 1) (show i + 1 ≤ t.length by omega) (show t.length - (i + 1) < t.length - i by omega) (by repeat' first | refine And.intro ?_ ?_ | exact True.intro | exact congrArg (RO.ints .i64) e | (show (_ : Int) = (_ : Int); omega) | omega | exact rfl)
      · have h3 : b = false := h3
        have e : flP (cenB t) i = flP (cenB t) (i + 1) := (flP_no (by rw [← hbc]; exact h3)).symm
        refine And.intro (by omega) ?_
        exact nx (i + 1) (show i + 1 ≤ t.length by omega) (show t.length - (i + 1) < t.length - i by omega) (by repeat' first | refine And.intro ?_ ?_ | exact True.intro | exact congrArg (RO.ints .i64) e | (show (_ : Int) = (_ : Int); omega) | omega | exact rfl)
  · have h1 : (t.length : Int) ≤ (i : Int) := h1
    have ei : i = t.length := by omega
    rw [ei, flP_asc]
    exact And.intro (by repeat' first | refine And.intro ?_ ?_ | exact True.intro | (show (_ : Int) = (_ : Int); omega) | omega | exact rfl | (simp only [RO.len]; omega)) trivial
theorem rQuoR_fn (t : List (List Int)) (l : List Int) (h : NmS t l) : QF 35 [.ro (.rows .i64 t), .ro (.ints .i64 l)] (.ro (.rows .i64 (quoL t (cosL t l)))) := new_ro (rQuo_fn t l h)
theorem rAllR_fn (t : List (List Int)) (hm : t.length ≤ 400) : QF 30 [.ro (.rows .i64 t)] (.ro (.ints .i64 (allI t))) := new_ro (rAll_fn t hm)
set_option maxHeartbeats 8000000 in
theorem rChk_k (t : List (List Int)) (S : List (List Int)) (h : Grp t) (hn : t.length ≤ 16) (hS : S.length ≤ 140737488355328) : fnK TY SP Tryz.f9 [.ro (.rows .i64 t), .ro (.rows .i64 S)] (.bool (.v (chSB t S))) := by
  have hm := h.most
  have hg : grpB t = true := grpB_true.2 h
  refine Or.inl ?_
  refine Exists.intro (List.replicate 27 false) (And.intro (by decide +kernel) ?_)
  refine cq (rgroup_fn t) (And.intro rfl trivial) ?_
  refine And.intro (fun h1 => ?_) (fun h1 => ?_)
  · have h1 : (!grpB t) = true := h1
    rw [hg] at h1; cases h1
  refine And.intro (fun h1 => ?_) (fun h1 => ?_)
  · have h1 : (S.length : Int) = 0 := h1
    exact And.intro (chSB_false.2 fun hh => by have := hh.pos; omega).symm trivial
  have h1 : (S.length : Int) ≠ 0 := h1
  refine And.intro (by omega) ?_
  refine cq (rAllR_fn t hm) (And.intro rfl trivial) ?_
  refine cq (same_fn (S.getD 0 []) (allI t)) (And.intro rfl (And.intro rfl trivial)) ?_
  refine And.intro (fun h2 => ?_) (fun h2 => ?_)
  · have h2 : (!decide (S.getD 0 [] = allI t)) = true := h2
    exact And.intro (chSB_false.2 fun hh => by rw [decide_eq_true hh.top] at h2; cases h2).symm trivial
  have h2 : (!decide (S.getD 0 [] = allI t)) = false := h2
  have htop : S.getD 0 [] = allI t := by simpa using h2
  refine And.intro (by omega) ?_
  refine And.intro (by omega) ?_
  have el : ((S.length : Int) - 1).toNat = S.length - 1 := by omega
  refine And.intro (fun h3 => ?_) (fun h3 => ?_)
  · have h3 : ((S.getD ((S.length : Int) - 1).toNat []).length : Int) ≠ 1 := h3
    rw [el] at h3
    exact And.intro (chSB_false.2 fun hh => by have := hh.last; omega).symm trivial
  have h3 : ((S.getD ((S.length : Int) - 1).toNat []).length : Int) = 1 := h3
  rw [el] at h3
  refine Exists.intro [] <| lp (X := Nat) (fun k => [(44, .int .i64 k)]) (fun _ => []) (fun k => k ≤ S.length ∧ (∀ i, i < k → ClL t (S.getD i [])) ∧ ∀ i, i + 1 < k → StepG t (S.getD i []) (S.getD (i + 1) [])) (fun k => S.length - k) 0 ⟨Nat.zero_le _, by omega, by omega⟩ (by repeat' first | refine And.intro ?_ ?_ | exact True.intro | (show (_ : Int) = (_ : Int); omega) | omega | exact rfl | (simp only [RO.len]; omega)) ?_
  rintro k ⟨hk, hC, hP⟩
  refine And.intro (fun h4 => ?_) (fun h4 => ?_)
  · have h4 : (k : Int) < (S.length : Int) := h4
    have hkl : k < S.length := by omega
    refine And.intro (by omega) ?_
    refine Or.inl (cq (rSub_fn t (S.getD k [])) (And.intro rfl (And.intro rfl trivial)) ?_)
    refine And.intro (fun h5 => ?_) (fun h5 => ?_)
    · have h5 : (!(grpB t && clB t (S.getD k []))) = true := h5
      exact And.intro (chSB_false.2 fun hh => by rw [hg, clB_true.2 (hh.cl k hkl)] at h5; cases h5).symm trivial
    have h5 : (!(grpB t && clB t (S.getD k []))) = false := h5
    have ck : ClL t (S.getD k []) := clB_true.1 (by rw [hg] at h5; simpa using h5)
    refine And.intro (fun h6 => ?_) (fun h6 => ?_)
    · have h6 : (k : Int) = 0 := h6
      refine And.intro (by omega) ?_
      refine nx (k + 1) ⟨by omega, fun i hi => ?_, fun i hi => by omega⟩ (show S.length - (k + 1) < S.length - k by omega) (by repeat' first | refine And.intro ?_ ?_ | exact True.intro | (show (_ : Int) = (_ : Int); omega) | omega | exact rfl | (simp only [RO.len]; omega))
      rw [show i = k by omega]; exact ck
    have h6 : (k : Int) ≠ 0 := h6
    have e6 : ((k : Int) - 1).toNat = k - 1 := by omega
    obtain ⟨A, hA⟩ : ∃ A, A = S.getD ((k : Int) - 1).toNat [] := ⟨_, rfl⟩
    have eA : A = S.getD (k - 1) [] := by rw [hA, e6]
    have ca : ClL t A := by rw [eA]; exact hC (k - 1) (by omega)
    have hal := ascV_len t.length (setI A)
    rw [ca.self] at hal
    have hkl2 := ascV_len t.length (setI (S.getD k []))
    rw [ck.self] at hkl2
    have hsg := sub_grp h ca
    have ek : k - 1 + 1 = k := by omega
    have bad : ¬ StepG t A (S.getD k []) → (BE.lit false).val = (BE.v (chSB t S)).val := fun hn => (chSB_false.2 fun hh => hn (by have := hh.step (k - 1) (by omega); rw [ek] at this; rw [eA]; exact this)).symm
    refine And.intro (by omega) ?_
    refine And.intro (by omega) ?_
    refine Or.inl (cq (rsub_fn t h.toSemi A ca hal) (And.intro rfl (And.intro (congrArg (RO.ints .i64) hA.symm) trivial)) ?_)
    refine And.intro (fun h7 => absurd rfl h7) (fun _ => ?_)
    obtain ⟨s, hs'⟩ : ∃ s, s = S.getD k [] := ⟨_, rfl⟩
    rw [← hs'] at ck hkl2 bad
    have hpl := plL_len A s
    refine Exists.intro [] <| lp (X := Nat) (fun p => [(69, .int .i64 p), (9, .vec 92)]) (fun p => [(92, .vec 0 (.ints .i64 ((plL A s).take p)) [])]) (fun p => p ≤ s.length) (fun p => s.length - p) 0 (Nat.zero_le _) (by repeat' first | refine And.intro ?_ ?_ | exact True.intro | (show (_ : Int) = (_ : Int); omega) | omega | exact rfl | (simp only [RO.len]; omega)) ?_
    intro p hp
    refine And.intro (fun h8 => ?_) (fun h8 => ?_)
    · have h8 : (p : Int) < ((S.getD k []).length : Int) := h8
      rw [← hs'] at h8
      have hpl2 : p < s.length := by omega
      have hsp := ck.ins _ (getD_mem (d := 0) hpl2)
      obtain ⟨x, hx⟩ : ∃ x : Nat, s.getD p 0 = (x : Int) := ⟨(s.getD p 0).toNat, by omega⟩
      refine And.intro (show 0 ≤ (p : Int) ∧ (p : Int) < ((S.getD k []).length : Int) by rw [← hs']; omega) ?_
      refine And.intro (by omega) ?_
      refine And.intro (by omega) ?_
      refine Exists.intro [] <| lp (X := Nat) (fun q => [(79, .int .i64 q), (12, .int .i64 (posTo A q x))]) (fun _ => []) (fun q => q ≤ A.length) (fun q => A.length - q) 0 (Nat.zero_le _) (by repeat' first | refine And.intro ?_ ?_ | exact True.intro | (show (_ : Int) = (_ : Int); omega) | omega | exact rfl | (simp only [RO.len]; omega)) ?_
      intro q hq
      refine And.intro (fun h9 => ?_) (fun h9 => ?_)
      · have h9 : (q : Int) < ((S.getD ((k : Int) - 1).toNat []).length : Int) := h9
        rw [← hA] at h9
        refine And.intro (by rw [← hA]; omega) ?_
        refine And.intro (fun h10 => ?_) (fun h10 => ?_)
        · have h10 : (S.getD k []).getD p 0 = (S.getD ((k : Int) - 1).toNat []).getD q 0 := h10
          rw [← hs', ← hA, hx] at h10
          refine And.intro (by omega) ?_
          exact nx (q + 1) (show q + 1 ≤ A.length by omega) (show A.length - (q + 1) < A.length - q by omega) (by
            have e : posTo A (q + 1) x = (q : Int) := by rw [posTo, if_pos h10.symm]
            repeat' first | refine And.intro ?_ ?_ | exact True.intro | exact e.symm | (show (_ : Int) = (_ : Int); omega) | omega | exact rfl)
        · have h10 : (S.getD k []).getD p 0 ≠ (S.getD ((k : Int) - 1).toNat []).getD q 0 := h10
          rw [← hs', ← hA, hx] at h10
          refine And.intro (by omega) ?_
          exact nx (q + 1) (show q + 1 ≤ A.length by omega) (show A.length - (q + 1) < A.length - q by omega) (by
            have e : posTo A (q + 1) x = posTo A q x := by rw [posTo, if_neg (Ne.symm h10)]
            repeat' first | refine And.intro ?_ ?_ | exact True.intro | exact e.symm | (show (_ : Int) = (_ : Int); omega) | omega | exact rfl)
      · have h9 : ((S.getD ((k : Int) - 1).toNat []).length : Int) ≤ (q : Int) := h9
        rw [← hA] at h9
        have eq : q = A.length := by omega
        have e : (plL A s).take p ++ [posTo A q x] = (plL A s).take (p + 1) := by
          have hh : p < (plL A s).length := by omega
          rw [List.take_succ_eq_append_getElem hh, ← getD_eq (d := 0) hh, plL_get hpl2, eq, hx, Int.toNat_natCast]
        refine And.intro (by rw [List.length_append, List.length_singleton, List.length_take]; omega) ?_
        refine And.intro (by omega) ?_
        exact nx (p + 1) (show p + 1 ≤ s.length by omega) (show s.length - (p + 1) < s.length - p by omega) (by repeat' first | refine And.intro ?_ ?_ | exact True.intro | exact congrArg (RO.ints .i64) e | (show (_ : Int) = (_ : Int); omega) | omega | exact rfl)
    · have h8 : ((S.getD k []).length : Int) ≤ (p : Int) := h8
      rw [← hs'] at h8
      have ep : (plL A s).take p = plL A s := List.take_of_length_le (by omega)
      rw [ep]
      refine Or.inl (cq (rNrm_fn (subT t A) (plL A s)) (And.intro rfl (And.intro rfl trivial)) ?_)
      have hga : grpB (subT t A) = true := grpB_true.2 hsg
      have hstep := step_ref h ca ck
      refine And.intro (fun h9 => ?_) (fun h9 => ?_)
      · have h9 : (!(grpB (subT t A) && (clB (subT t A) (plL A s) && nrmB (subT t A) (allI (subT t A)) (plL A s)))) = true := h9
        refine And.intro (bad fun hh => ?_) trivial
        have := hstep.1 hh
        rw [hga, clB_true.2 this.1, nrmB_true.2 this.2.1] at h9; cases h9
      have h9 : (!(grpB (subT t A) && (clB (subT t A) (plL A s) && nrmB (subT t A) (allI (subT t A)) (plL A s)))) = false := h9
      rw [hga] at h9
      have h9 : clB (subT t A) (plL A s) = true ∧ nrmB (subT t A) (allI (subT t A)) (plL A s) = true := by simpa using h9
      have c1 := clB_true.1 h9.1
      have c2 := nrmB_true.1 h9.2
      refine And.intro (fun h10 => ?_) (fun h10 => ?_)
      · have h10 : ((plL A s).length : Int) = ((subT t A).length : Int) := h10
        exact And.intro (bad fun hh => (hstep.1 hh).2.2.1 (by omega)) trivial
      have h10 : ((plL A s).length : Int) ≠ ((subT t A).length : Int) := h10
      refine Or.inl (cq (rQuoR_fn (subT t A) (plL A s) ⟨hsg, c1, c2⟩) (And.intro rfl (And.intro rfl trivial)) ?_)
      have hqg : Grp (quoL (subT t A) (cosL (subT t A) (plL A s))) := quo_grp hsg (cosL_len _ _) (cosL_canon _ _) (nrm_cg hsg c1 c2)
      have hql : (quoL (subT t A) (cosL (subT t A) (plL A s))).length ≤ 16 := by
        rw [quoL_len]
        have : classN (cosL (subT t A) (plL A s)) ≤ (cosL (subT t A) (plL A s)).length := firsts_le _
        rw [cosL_len, subT_len] at this
        omega
      refine Or.inl (cq (rsimple_fn (quoL (subT t A) (cosL (subT t A) (plL A s))) hql) (And.intro rfl trivial) ?_)
      refine And.intro (fun h11 => ?_) (fun h11 => ?_)
      · have h11 : (!simB (quoL (subT t A) (cosL (subT t A) (plL A s)))) = true := h11
        refine And.intro (bad fun hh => ?_) trivial
        have := (hstep.1 hh).2.2.2
        unfold simB at h11
        rw [grpB_true.2 hqg, decide_eq_true this] at h11; cases h11
      have h11 : (!simB (quoL (subT t A) (cosL (subT t A) (plL A s)))) = false := h11
      have good : StepG t A s := hstep.2 ⟨c1, c2, fun e => h10 (by omega), by
        unfold simB at h11
        rw [grpB_true.2 hqg, Bool.true_and] at h11
        exact of_decide_eq_true (by simpa only [Bool.not_eq_false'] using h11)⟩
      refine And.intro (by omega) ?_
      refine nx (k + 1) ⟨by omega, fun i hi => ?_, fun i hi => ?_⟩ (show S.length - (k + 1) < S.length - k by omega) (by repeat' first | refine And.intro ?_ ?_ | exact True.intro | (show (_ : Int) = (_ : Int); omega) | omega | exact rfl | (simp only [RO.len]; omega))
      · by_cases e : i = k
        · rw [e, ← hs']; exact ck
        · exact hC i (by omega)
      · by_cases e : i + 1 = k
        · rw [show i + 1 = k from e, show i = k - 1 by omega, ← eA, ← hs']; exact good
        · exact hP i (by omega)
  · have h4 : (S.length : Int) ≤ (k : Int) := h4
    exact And.intro (chSB_true.2 ⟨h, by omega, htop, fun i hi => hP i (by omega), by omega⟩).symm trivial
theorem rChkN_k (t : List (List Int)) (S : List (List Int)) (h : ¬ Grp t) : fnK TY SP Tryz.f9 [.ro (.rows .i64 t), .ro (.rows .i64 S)] (.bool (.v (chSB t S))) := by
  rw [chSB_false.2 fun hh => h hh.grp]
  refine Or.inl ?_
  refine Exists.intro (List.replicate 27 false) (And.intro (by decide +kernel) ?_)
  refine cq (rgroup_fn t) (And.intro rfl trivial) ?_
  rw [grpB_false.2 h]
  refine And.intro (fun h1 => ?_) (fun h1 => ?_)
  · exact And.intro rfl trivial
  · have h1 : (!false) = false := h1
    cases h1
theorem rChk_fn (t : List (List Int)) (S : List (List Int)) (hn : Grp t → t.length ≤ 16) : QF 9 [.ro (.rows .i64 t), .ro (.rows .i64 S)] (.bool (.v (chSB t S))) := by
  by_cases h : Grp t
  · exact mkQ Tryz.func9 (by decide +kernel) rfl (Nat.le_of_ble_eq_true rfl) fun hf => rChk_k t S h (hn h) hf.2.1.1
  · exact mkQ Tryz.func9 (by decide +kernel) rfl (Nat.le_of_ble_eq_true rfl) fun _ => rChkN_k t S h
end Go.Proofs.YtpanlghofeebhaaGreat
end
section
/- Package group: series: contracts. -/
namespace Go.Proofs.YtpanlghofeebhaaGreat
open Go Go.AM
set_option maxRecDepth 100000
theorem gmemR_fn (t : List (List Int)) (l : List Int) (hn : t.length ≤ 400) (hl : inT t l) : QF 46 [frA t, .ro (.ints .i64 l)] (.ro (.bools (setB t.length (setI l)))) := new_ro (gmem_fn t l hn hl)
theorem gcloR_fn (t : List (List Int)) (w gens : List Int) (h : Grp t) (hw : ClL t w) (hg : inT t gens) : QF 52 [frA t, .ro (.ints .i64 w), .ro (.ints .i64 gens)] (.ro (.bools (setB t.length (cloF t w gens)))) := new_ro (gclo_fn t w gens h hw hg)
theorem glistQ_fn (n : Nat) (hn : n ≤ 400) (f : Nat → Bool) : QF 54 [.ro (.bools (setB n f))] (.ro (.ints .i64 (ascV n f))) := new_ro (glist_fn (setB n f) (by rw [setB_len]; omega))
theorem gcon_k (t : List (List Int)) (a s : List Int) (hn : t.length ≤ 400) (ha : inT t a) (hs : inT t s) (hsl : s.length ≤ 140737488355328) : fnK TY SP Tryz.f26 [frA t, .ro (.ints .i64 a), .ro (.ints .i64 s)] (.bool (.v (decide (∀ x ∈ s, x ∈ a)))) := by
  refine Or.inl (cq (gmemR_fn t a hn ha) (And.intro (by repeat' first | refine And.intro ?_ ?_ | exact True.intro | (show (_ : Int) = (_ : Int); omega) | omega | exact rfl | (simp only [RO.len]; omega)) (And.intro rfl trivial)) ?_)
  refine Exists.intro [] <| lp (X := Nat) (fun k => [(15, .int .i64 k)]) (fun _ => []) (fun k => k ≤ s.length ∧ ∀ i, i < k → s.getD i 0 ∈ a) (fun k => s.length - k) 0 ⟨Nat.zero_le _, by omega⟩ (by repeat' first | refine And.intro ?_ ?_ | exact True.intro | (show (_ : Int) = (_ : Int); omega) | omega | exact rfl | (simp only [RO.len]; omega)) ?_
  rintro k ⟨hk, hP⟩
  have hbl := setB_len t.length (setI a)
  refine And.intro (fun h1 => ?_) (fun h1 => ?_)
  · have h1 : (k : Int) < (s.length : Int) := h1
    have hkl : k < s.length := by omega
    have hx := hs _ (getD_mem (d := 0) hkl)
    have g1 : (setB t.length (setI a)).getD (s.getD k 0).toNat false = true ↔ s.getD k 0 ∈ a := by
      rw [setB_get (by omega), setI_iff, Int.toNat_of_nonneg hx.1]
    refine And.intro (by omega) ?_
    refine And.intro (show 0 ≤ s.getD k 0 ∧ s.getD k 0 < ((setB t.length (setI a)).length : Int) by omega) ?_
    refine And.intro (fun h2 => ?_) (fun h2 => ?_)
    · have h2 : (!(setB t.length (setI a)).getD (s.getD k 0).toNat false) = true := h2
      refine And.intro (decide_eq_false fun hh => ?_).symm trivial
      rw [g1.2 (hh _ (getD_mem hkl))] at h2; cases h2
    · have h2 : (!(setB t.length (setI a)).getD (s.getD k 0).toNat false) = false := h2
      refine And.intro (by omega) ?_
      refine nx (k + 1) ⟨by omega, fun i hi => ?_⟩ (show s.length - (k + 1) < s.length - k by omega) (by repeat' first | refine And.intro ?_ ?_ | exact True.intro | (show (_ : Int) = (_ : Int); omega) | omega | exact rfl | (simp only [RO.len]; omega))
      by_cases e : i = k
      · subst e; exact g1.1 (by simpa using h2)
      · exact hP i (by omega)
  · refine And.intro (decide_eq_true fun x hx => ?_).symm trivial
    have h1 : (s.length : Int) ≤ (k : Int) := h1
    obtain ⟨i, hi, rfl⟩ := mem_getD 0 hx
    exact hP i (by omega)
theorem gcon_fn (t : List (List Int)) (a s : List Int) (hn : t.length ≤ 400) (ha : inT t a) (hs : inT t s) : QF 26 [frA t, .ro (.ints .i64 a), .ro (.ints .i64 s)] (.bool (.v (decide (∀ x ∈ s, x ∈ a)))) := mkQ Tryz.func26 (by decide +kernel) rfl (Nat.le_of_ble_eq_true rfl) fun hf => gcon_k t a s hn ha hs hf.2.2.1.1
noncomputable def abB (t : List (List Int)) (a s : List Int) : Bool := @decide (AbT t a s) (Classical.propDecidable _)
theorem abB_true {t : List (List Int)} {a s : List Int} : abB t a s = true ↔ AbT t a s := by unfold abB; exact @decide_eq_true_iff _ (Classical.propDecidable _)
theorem abB_false {t : List (List Int)} {a s : List Int} : abB t a s = false ↔ ¬ AbT t a s := by unfold abB; exact @decide_eq_false_iff_not _ (Classical.propDecidable _)
theorem gab_fn (t : List (List Int)) (a s : List Int) (h : Grp t) (ha : ClL t a) (hs : ClL t s) : QF 17 [frA t, .ro (.ints .i64 a), .ro (.ints .i64 s)] (.bool (.v (abB t a s))) := mkQ Tryz.func17 (by decide +kernel) rfl (Nat.le_of_ble_eq_true rfl) fun _ => by
  have hS := h.toSh
  have hbl := setB_len t.length (setI s)
  have hal := ascV_len t.length (setI a)
  rw [ha.self] at hal
  have hm := h.most
  refine Or.inl (cq (gmemR_fn t s h.most hs.ins) (And.intro (by repeat' first | refine And.intro ?_ ?_ | exact True.intro | (show (_ : Int) = (_ : Int); omega) | omega | exact rfl | (simp only [RO.len]; omega)) (And.intro rfl trivial)) ?_)
  refine Exists.intro [] <| lp (X := Nat) (fun i => [(17, .int .i64 i)]) (fun _ => []) (fun i => i ≤ a.length ∧ ∀ p q, p < i → q < a.length → setI s (cmN t (a.getD p 0).toNat (a.getD q 0).toNat) = true) (fun i => a.length - i) 0 ⟨Nat.zero_le _, by omega⟩ (by repeat' first | refine And.intro ?_ ?_ | exact True.intro | (show (_ : Int) = (_ : Int); omega) | omega | exact rfl | (simp only [RO.len]; omega)) ?_
  rintro i ⟨hi, hP⟩
  refine And.intro (fun h3 => ?_) (fun h3 => ?_)
  · have h3 : (i : Int) < (a.length : Int) := h3
    have hil : i < a.length := by omega
    have hi1 := ha.ins _ (getD_mem (d := 0) hil)
    refine And.intro (by omega) ?_
    refine Exists.intro [] <| lp (X := Nat) (fun j => [(23, .int .i64 j)]) (fun _ => []) (fun j => j ≤ a.length ∧ ∀ q, q < j → setI s (cmN t (a.getD i 0).toNat (a.getD q 0).toNat) = true) (fun j => a.length - j) 0 ⟨Nat.zero_le _, by omega⟩ (by repeat' first | refine And.intro ?_ ?_ | exact True.intro | (show (_ : Int) = (_ : Int); omega) | omega | exact rfl | (simp only [RO.len]; omega)) ?_
    rintro j ⟨hj, hQ⟩
    refine And.intro (fun h4 => ?_) (fun h4 => ?_)
    · have h4 : (j : Int) < (a.length : Int) := h4
      have hjl : j < a.length := by omega
      have hj1 := ha.ins _ (getD_mem (d := 0) hjl)
      obtain ⟨x, hx⟩ : ∃ x : Nat, a.getD i 0 = (x : Int) := ⟨(a.getD i 0).toNat, by omega⟩
      obtain ⟨y, hy⟩ : ∃ y : Nat, a.getD j 0 = (y : Int) := ⟨(a.getD j 0).toNat, by omega⟩
      have hxt : x < t.length := by omega
      have hyt : y < t.length := by omega
      have rc := cjN_lt h hxt hyt
      have r1 := hS.len rc
      have iv := h.ninv hyt
      have e1 := hS.ent rc iv.1
      have il := invL_len (t := t)
      have ig := invL_get hyt
      refine And.intro (by omega) ?_
      refine Or.inl ?_
      refine Exists.intro (List.replicate 19 false) (And.intro (by decide +kernel) ?_)
      refine cq (gcj_fn t h x y hxt hyt) (And.intro (by repeat' first | refine And.intro ?_ ?_ | exact True.intro | (show (_ : Int) = (_ : Int); omega) | omega | exact rfl | (simp only [RO.len]; omega)) (And.intro hx (And.intro hy trivial))) ?_
      refine And.intro (by omega) ?_
      refine And.intro (show 0 ≤ a.getD j 0 ∧ a.getD j 0 < ((invL t).length : Int) by omega) ?_
      have g0 : (invL t).getD (a.getD j 0).toNat 0 = (invN t y : Int) := by rw [hy, Int.toNat_natCast]; exact ig
      refine And.intro (show 0 ≤ (invL t).getD (a.getD j 0).toNat 0 ∧ (invL t).getD (a.getD j 0).toNat 0 < ((t.getD ((cjN t x y : Nat) : Int).toNat []).length : Int) by rw [g0, Int.toNat_natCast]; omega) ?_
      have g1 : (t.getD ((cjN t x y : Nat) : Int).toNat []).getD ((invL t).getD (a.getD j 0).toNat 0).toNat 0 = (cmN t x y : Int) := by
        rw [g0, Int.toNat_natCast, Int.toNat_natCast]; exact e1.1
      have hcm := cmN_lt h hxt hyt
      refine And.intro (show 0 ≤ (t.getD ((cjN t x y : Nat) : Int).toNat []).getD ((invL t).getD (a.getD j 0).toNat 0).toNat 0 ∧ (t.getD ((cjN t x y : Nat) : Int).toNat []).getD ((invL t).getD (a.getD j 0).toNat 0).toNat 0 < ((setB t.length (setI s)).length : Int) by rw [g1]; omega) ?_
      have g2 : (setB t.length (setI s)).getD ((t.getD ((cjN t x y : Nat) : Int).toNat []).getD ((invL t).getD (a.getD j 0).toNat 0).toNat 0).toNat false = setI s (cmN t x y) := by
        rw [g1, Int.toNat_natCast, setB_get hcm]
      refine And.intro (fun h5 => ?_) (fun h5 => ?_)
      · have h5 : (!(setB t.length (setI s)).getD ((t.getD ((cjN t x y : Nat) : Int).toNat []).getD ((invL t).getD (a.getD j 0).toNat 0).toNat 0).toNat false) = true := h5
        rw [g2] at h5
        refine And.intro (abB_false.2 fun hh => ?_).symm trivial
        rw [hh x y (setI_iff.2 (by rw [← hx]; exact getD_mem hil)) (setI_iff.2 (by rw [← hy]; exact getD_mem hjl))] at h5
        cases h5
      · have h5 : (!(setB t.length (setI s)).getD ((t.getD ((cjN t x y : Nat) : Int).toNat []).getD ((invL t).getD (a.getD j 0).toNat 0).toNat 0).toNat false) = false := h5
        rw [g2] at h5
        have h6 : setI s (cmN t x y) = true := by simpa using h5
        refine And.intro (by omega) ?_
        refine nx (j + 1) ⟨by omega, fun q hq => ?_⟩ (show a.length - (j + 1) < a.length - j by omega) (by repeat' first | refine And.intro ?_ ?_ | exact True.intro | (show (_ : Int) = (_ : Int); omega) | omega | exact rfl | (simp only [RO.len]; omega))
        by_cases e : q = j
        · rw [e, hx, hy, Int.toNat_natCast, Int.toNat_natCast]; exact h6
        · exact hQ q (by omega)
    · have h4 : (a.length : Int) ≤ (j : Int) := h4
      refine And.intro (by omega) ?_
      refine nx (i + 1) ⟨by omega, fun p q hp hq => ?_⟩ (show a.length - (i + 1) < a.length - i by omega) (by repeat' first | refine And.intro ?_ ?_ | exact True.intro | (show (_ : Int) = (_ : Int); omega) | omega | exact rfl | (simp only [RO.len]; omega))
      by_cases e : p = i
      · subst e; exact hQ q (by omega)
      · exact hP p q (by omega) hq
  · have h3 : (a.length : Int) ≤ (i : Int) := h3
    refine And.intro (abB_true.2 fun x y hx hy => ?_).symm trivial
    obtain ⟨p, hp, hpv⟩ := mem_getD 0 (setI_iff.1 hx)
    obtain ⟨q, hq, hqv⟩ := mem_getD 0 (setI_iff.1 hy)
    have := hP p q (by omega) hq
    rwa [hpv, hqv, Int.toNat_natCast, Int.toNat_natCast] at this
set_option maxHeartbeats 4000000 in
theorem gmax_fn (t : List (List Int)) (w : List Int) (h : Grp t) (hw : ClL t w) (h2 : 1 < w.length) : EF 45 [frA t, .ro (.ints .i64 w)] (fun s : List Int => .ro (.ints .i64 s)) (fun s => StepG t w s) := mkE Tryz.func45 (by decide +kernel) rfl (Nat.le_of_ble_eq_true rfl) fun _ => by
  have hs := h.toSh
  have hm := hs.most
  have hwl := ascV_len t.length (setI w)
  rw [hw.self] at hwl
  have hone := one_ns h
  refine Or.inl (cq (gmemR_fn t [(oneN t : Int)] hm hone.cl.ins) (And.intro (by repeat' first | refine And.intro ?_ ?_ | exact True.intro | (show (_ : Int) = (_ : Int); omega) | omega | exact rfl | (simp only [RO.len]; omega)) (And.intro rfl trivial)) ?_)
  refine Exists.intro [] <| lp2 (fun (k : Nat) (s : List Int) => [(19, .int .i64 k), (5, .ro (.ints .i64 s)), (6, .ro (.bools (setB t.length (setI s))))]) (fun _ _ => []) (fun k s => k ≤ w.length ∧ MaxI t w k s) (fun k _ => w.length - k) 0 [(oneN t : Int)] ⟨Nat.zero_le _, MaxI.start h hw h2⟩ (by repeat' first | refine And.intro ?_ ?_ | exact True.intro | (show (_ : Int) = (_ : Int); omega) | omega | exact rfl | (simp only [RO.len]; omega)) ?_
  rintro k s ⟨hk, H⟩
  have hbl := setB_len t.length (setI s)
  refine And.intro (fun h3 => ?_) (fun h3 => ?_)
  · have h3 : (k : Int) < (w.length : Int) := h3
    have hkl : k < w.length := by omega
    have hwk := hw.ins _ (getD_mem (d := 0) hkl)
    refine And.intro (by omega) ?_
    refine And.intro (show 0 ≤ w.getD k 0 ∧ w.getD k 0 < ((setB t.length (setI s)).length : Int) by omega) ?_
    refine And.intro (fun h4 => ?_) (fun h4 => ?_)
    · have h4 : (setB t.length (setI s)).getD (w.getD k 0).toNat false = true := h4
      rw [setB_get (by omega), setI_iff, Int.toNat_of_nonneg hwk.1] at h4
      refine And.intro (by omega) ?_
      exact nx (k + 1, s) ⟨by omega, H.old h4⟩ (show w.length - (k + 1) < w.length - k by omega) (by repeat' first | refine And.intro ?_ ?_ | exact True.intro | (show (_ : Int) = (_ : Int); omega) | omega | exact rfl | (simp only [RO.len]; omega))
    have hsl : s.length ≤ 400 := by have := H.lt; omega
    have hgin : inT t (s ++ [w.getD k 0]) := fun y hy => hw.ins y (H.gens hkl y hy)
    have hap : ((s ++ [w.getD k 0]).length : Int) ≤ 17592186044416 := by rw [List.length_append, List.length_singleton]; omega
    refine Or.inr (Exists.intro (.fst 1 (.fst 2 (.fst 4 (.br 0 (.br 3 (.br 5 (.br 6 (.br 7 (.fst 8 .done) .no) .no) .no) (.br 5 (.br 3 (.br 6 (.br 7 (.fst 8 .done) .no) .no) .no) .no)) (.br 3 (.br 0 (.br 5 (.br 6 (.br 7 (.fst 8 .done) .no) .no) .no) (.br 5 (.br 0 (.br 6 (.br 7 (.fst 8 .done) .no) .no) (.br 6 (.br 0 (.br 7 (.fst 8 .done) .no) .no) .no)) .no)) (.br 5 (.br 0 (.br 3 (.br 6 (.br 7 (.fst 8 .done) .no) .no) .no) (.br 3 (.br 0 (.br 6 (.br 7 (.fst 8 .done) .no) .no) (.br 6 (.br 0 (.br 7 (.fst 8 .done) .no) .no) .no)) .no)) .no)))))) (And.intro (by decide +kernel) ?_))
    have hsame : setB t.length (cloF t w (s ++ [w.getD k 0])) = setB t.length (setI (clN t w s k)) := setB_congr fun x hx => (ascV_set hx).symm
    have big : ((clN t w s k).length : Int) < (w.length : Int) → ((k + 1 : Nat) : Int) = (k : Int) + 1 := fun _ => by omega
    have hk1 : -9223372036854775808 ≤ (k : Int) + 1 ∧ (k : Int) + 1 ≤ 9223372036854775807 := by omega
    have hd : w.length - (k + 1) < w.length - k := by omega
    repeat' first
      | exact True.intro
      | exact hap
      | refine Or.inl (cq (cloneI_fn s (by omega)) (And.intro rfl trivial) ?_)
      | refine Or.inl (cq (gcloR_fn t w (s ++ [w.getD k 0]) h hw hgin) (And.intro (by repeat' first | refine And.intro ?_ ?_ | exact True.intro | (show (_ : Int) = (_ : Int); omega) | omega | exact rfl | (simp only [RO.len]; omega)) (And.intro rfl (And.intro rfl trivial))) ?_)
      | (refine Or.inl (cq (glistQ_fn t.length hm (cloF t w (s ++ [w.getD k 0]))) (And.intro rfl trivial) ?_)
         refine And.intro (fun h5 => And.intro hk1 (nx (k + 1, clN t w s k) ⟨by omega, H.more h hw hkl (Int.ofNat_lt.1 h5)⟩ hd (by repeat' first | refine And.intro ?_ ?_ | exact True.intro | exact congrArg RO.bools hsame | (show (_ : Int) = (_ : Int); omega) | omega | exact rfl))) (fun h5 => And.intro hk1 (nx (k + 1, s) ⟨by omega, H.full h hw hkl (Int.ofNat_le.1 h5)⟩ hd (by repeat' first | refine And.intro ?_ ?_ | exact True.intro | (show (_ : Int) = (_ : Int); omega) | omega | exact rfl | (simp only [RO.len]; omega)))))
      | refine And.intro ?_ ?_
  · have h3 : (w.length : Int) ≤ (k : Int) := h3
    exact Exists.intro s (And.intro (H.done (by omega)) (by repeat' first | refine And.intro ?_ ?_ | exact True.intro | (show (_ : Int) = (_ : Int); omega) | omega | exact rfl | (simp only [RO.len]; omega)))
end Go.Proofs.YtpanlghofeebhaaGreat
end
