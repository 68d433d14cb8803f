/- The reference's zero, minimal one-sided ideals and 0-simple tables: contracts. -/
import Derived.Test.YtdmfhcppdpcceaaGreatMin2
namespace Go.Proofs.YtdmfhcppdpcceaaGreat
open Go Go.AM
set_option maxRecDepth 100000
set_option maxHeartbeats 1000000
theorem rzero_k (t : List (List Int)) (h : Semi t) : fnK TY SP Tryz.f32 [.ro (.rows .i64 t)] (.int .i64 (zeroI t)) := by
  have hm := h.most
  refine Exists.intro [] <| lp (X := Nat) (fun x => [(8, .int .i64 x)]) (fun _ => []) (fun x => x ≤ t.length ∧ ∀ z, z < x → isZ t z = false) (fun x => t.length - x) 0 ⟨Nat.zero_le _, by omega⟩ (by repeat' first | refine And.intro ?_ ?_ | exact True.intro | (show (_ : Int) = (_ : Int); omega) | omega | exact rfl | (simp only [RO.len]; omega)) ?_
  rintro x ⟨hx, hz⟩
  refine And.intro (fun h1 => ?_) (fun h1 => ?_)
  · have h1 : (x : Int) < (t.length : Int) := h1
    have hxl : x < t.length := by omega
    have hrx := h.toSh.len hxl
    refine Exists.intro [] <| lp2 (fun (y : Nat) (b : Bool) => [(13, .int .i64 y), (4, .bool (.v b))]) (fun _ _ => []) (fun y b => y ≤ t.length ∧ (b = true ↔ ∀ z, z < y → en t x z = x ∧ en t z x = x)) (fun y _ => t.length - y) 0 true ⟨Nat.zero_le _, by simp⟩ (by repeat' first | refine And.intro ?_ ?_ | exact True.intro | (show (_ : Int) = (_ : Int); omega) | omega | exact rfl | (simp only [RO.len]; omega)) ?_
    rintro y b ⟨hy, hb⟩
    refine And.intro (fun h2 => ?_) (fun h2 => ?_)
    · have h2 : (y : Int) < (t.length : Int) := h2
      have hyl : y < t.length := by omega
      have hry := h.toSh.len hyl
      have e1 := h.toSh.ent hxl hyl
      have e2 := h.toSh.ent hyl hxl
      have bad : (¬ (en t x y = x ∧ en t y x = x)) → (false = true ↔ ∀ z, z < y + 1 → en t x z = x ∧ en t z x = x) := fun hn => ⟨fun e => by (cases e), fun hh => absurd (hh y (by omega)) hn⟩
      refine And.intro (fun h3 => ?_) (fun h3 => ?_)
      · have h3 : b = true := h3
        refine And.intro (by omega) ?_
        refine And.intro (by simp only [Int.toNat_natCast]; omega) ?_
        refine And.intro (fun h4 => ?_) (fun h4 => ?_)
        · have h4 : (t.getD x []).getD y 0 = (x : Int) := h4
          refine And.intro (by omega) ?_
          refine And.intro (by simp only [Int.toNat_natCast]; omega) ?_
          refine And.intro (by omega) ?_
          refine nx (y + 1, decide ((t.getD y []).getD x 0 = (x : Int))) ⟨by omega, ?_⟩ (show t.length - (y + 1) < t.length - y by omega) (by repeat' first | refine And.intro ?_ ?_ | exact True.intro | (show (_ : Int) = (_ : Int); omega) | omega | exact rfl | (simp only [RO.len]; omega))
          rw [decide_eq_true_iff]
          constructor
          · intro h5 z hz'
            by_cases e : z = y
            · rw [e]; omega
            · exact hb.1 h3 z (by omega)
          · intro hh; have := (hh y (by omega)).2; omega
        · have h4 : (t.getD x []).getD y 0 ≠ (x : Int) := h4
          refine And.intro (by omega) ?_
          exact nx (y + 1, false) ⟨by omega, bad (by omega)⟩ (show t.length - (y + 1) < t.length - y by omega) (by repeat' first | refine And.intro ?_ ?_ | exact True.intro | (show (_ : Int) = (_ : Int); omega) | omega | exact rfl | (simp only [RO.len]; omega))
      · have h3 : b = false := h3
        refine And.intro (by omega) ?_
        refine nx (y + 1, false) ⟨by omega, ⟨fun e => by (cases e), fun hh => ?_⟩⟩ (show t.length - (y + 1) < t.length - y by omega) (by repeat' first | refine And.intro ?_ ?_ | exact True.intro | (show (_ : Int) = (_ : Int); omega) | omega | exact rfl | (simp only [RO.len]; omega))
        rw [← h3]; exact hb.2 fun z hz' => hh z (by omega)
    · have h2 : (t.length : Int) ≤ (y : Int) := h2
      have ey : y = t.length := by omega
      subst ey
      refine And.intro (fun h3 => ?_) (fun h3 => ?_)
      · have h3 : b = true := h3
        have e1 : (x : Int) = zeroI t := (zTo_at hz (isZ_iff.2 (hb.1 h3)) hxl).symm
        exact And.intro e1 trivial
      · have h3 : b = false := h3
        refine And.intro (by omega) ?_
        refine nx (x + 1) ⟨by omega, fun z hz' => ?_⟩ (show t.length - (x + 1) < t.length - x by omega) (by repeat' first | refine And.intro ?_ ?_ | exact True.intro | (show (_ : Int) = (_ : Int); omega) | omega | exact rfl | (simp only [RO.len]; omega))
        by_cases e : z = x
        · rw [e, Bool.eq_false_iff]; intro hh
          have := hb.2 (isZ_iff.1 hh); rw [h3] at this; cases this
        · exact hz z (by omega)
  · have h1 : (t.length : Int) ≤ (x : Int) := h1
    have e1 : (-1 : Int) = zeroI t := (zTo_no fun z hz' => hz z (by omega)).symm
    exact And.intro e1 trivial
theorem rzero_fn (t : List (List Int)) (h : Semi t) : QF 32 [.ro (.rows .i64 t)] (.int .i64 (zeroI t)) := mkQ Tryz.func32 (by decide +kernel) rfl (Nat.le_of_ble_eq_true rfl) fun _ => rzero_k t h
theorem rminl_k (t : List (List Int)) (h : Semi t) : fnK TY SP Tryz.f30 [.ro (.rows .i64 t), .bool (.lit true)] (.ro (.rows .i64 (mnL t (lftF t) t.length))) := by
  have hm := h.most
  refine And.intro (by omega) ?_
  refine And.intro (by omega) ?_
  refine Or.inl (cq (rKernel_fn t h) (And.intro rfl trivial) ?_)
  have hkl : (ascV t.length (kerF t)).length ≤ t.length := ascV_len _ _
  have e0 : List.replicate ((t.length : Nat) : Int).toNat false = setB t.length (covB (((ascV t.length (kerF t)).take 0).foldl (stpM t (lftF t)) [])) := by
    refine ext_getD false (by simp [setB]) fun x hx => ?_
    rw [Int.toNat_natCast, List.length_replicate] at hx
    rw [setB_get hx, Int.toNat_natCast]; unfold covB; simp [hx]
  refine Exists.intro [] <| lp (X := Nat) (fun i => [(18, .int .i64 i), (5, .vec 48)]) (fun i => [(14, .vec 0 (.bools (setB t.length (covB (((ascV t.length (kerF t)).take i).foldl (stpM t (lftF t)) [])))) []), (48, .vec 0 (.rows .i64 (((ascV t.length (kerF t)).take i).foldl (stpM t (lftF t)) [])) [])]) (fun i => i ≤ (ascV t.length (kerF t)).length) (fun i => (ascV t.length (kerF t)).length - i) 0 (Nat.zero_le _) (by repeat' first | refine And.intro ?_ ?_ | exact True.intro | exact congrArg RO.bools e0 | (show (_ : Int) = (_ : Int); omega) | omega | exact rfl) ?_
  intro i hi
  have hfl : (((ascV t.length (kerF t)).take i).foldl (stpM t (lftF t)) []).length ≤ i := by
    have := stpM_len t (lftF t) ((ascV t.length (kerF t)).take i) []
    rw [List.length_take] at this; simp only [List.length_nil] at this; omega
  refine And.intro (fun h1 => ?_) (fun h1 => ?_)
  · have h1 : (i : Int) < ((ascV t.length (kerF t)).length : Int) := h1
    have hil : i < (ascV t.length (kerF t)).length := by omega
    have hK : 0 ≤ (ascV t.length (kerF t)).getD i 0 ∧ (ascV t.length (kerF t)).getD i 0 < (t.length : Int) := ascV_in (n := t.length) (getD_mem (d := 0) hil)
    have hx : ((ascV t.length (kerF t)).getD i 0).toNat < t.length := by omega
    have hcl := setB_len t.length (covB (((ascV t.length (kerF t)).take i).foldl (stpM t (lftF t)) []))
    have hin : inT t [(ascV t.length (kerF t)).getD i 0] := fun y hy => by rw [List.mem_singleton] at hy; rw [hy]; exact hK
    have eo : (oneL t (lftF t) ((ascV t.length (kerF t)).getD i 0).toNat) = ascV t.length (lftF t (setI [(ascV t.length (kerF t)).getD i 0])) := by unfold oneL; rw [Int.toNat_of_nonneg hK.1]
    have estep : ((ascV t.length (kerF t)).take (i + 1)).foldl (stpM t (lftF t)) [] = stpM t (lftF t) (((ascV t.length (kerF t)).take i).foldl (stpM t (lftF t)) []) ((ascV t.length (kerF t)).getD i 0) := by rw [take_snoc (d := 0) hil, List.foldl_append]; rfl
    have hcg := setB_get (f := covB (((ascV t.length (kerF t)).take i).foldl (stpM t (lftF t)) [])) hx
    refine And.intro (by omega) ?_
    refine And.intro (show 0 ≤ (ascV t.length (kerF t)).getD i 0 ∧ (ascV t.length (kerF t)).getD i 0 < ((setB t.length (covB (((ascV t.length (kerF t)).take i).foldl (stpM t (lftF t)) []))).length : Int) by rw [hcl]; exact hK) ?_
    refine And.intro (fun h2 => ?_) (fun h2 => ?_)
    · have h2 : (setB t.length (covB (((ascV t.length (kerF t)).take i).foldl (stpM t (lftF t)) []))).getD ((ascV t.length (kerF t)).getD i 0).toNat false = true := h2
      rw [hcg] at h2
      have ek : ((ascV t.length (kerF t)).take i).foldl (stpM t (lftF t)) [] = ((ascV t.length (kerF t)).take (i + 1)).foldl (stpM t (lftF t)) [] := by rw [estep, stpM_yes h2]
      have ed : setB t.length (covB (((ascV t.length (kerF t)).take i).foldl (stpM t (lftF t)) [])) = setB t.length (covB (((ascV t.length (kerF t)).take (i + 1)).foldl (stpM t (lftF t)) [])) := by rw [ek]
      refine And.intro (by omega) ?_
      refine nx (i + 1) (show i + 1 ≤ (ascV t.length (kerF t)).length by omega) (show (ascV t.length (kerF t)).length - (i + 1) < (ascV t.length (kerF t)).length - i by omega) ?_
      repeat' first | refine And.intro ?_ ?_ | exact True.intro | exact congrArg (RO.rows .i64) ek | exact congrArg RO.bools ed | (show (_ : Int) = (_ : Int); omega) | omega | exact rfl
    have h2 : (setB t.length (covB (((ascV t.length (kerF t)).take i).foldl (stpM t (lftF t)) []))).getD ((ascV t.length (kerF t)).getD i 0).toNat false = false := h2
    rw [hcg] at h2
    have ek : (((ascV t.length (kerF t)).take i).foldl (stpM t (lftF t)) []) ++ [ascV t.length (lftF t (setI [(ascV t.length (kerF t)).getD i 0]))] = ((ascV t.length (kerF t)).take (i + 1)).foldl (stpM t (lftF t)) [] := by rw [estep, ← eo, stpM_no h2]
    have hol : (ascV t.length (lftF t (setI [(ascV t.length (kerF t)).getD i 0]))).length ≤ t.length := ascV_len _ _
    refine Or.inl (cq (rRight_fn t [(ascV t.length (kerF t)).getD i 0] h hin) (And.intro rfl (And.intro rfl trivial)) ?_)
    refine Or.inl (cq (rLeft_fn t [(ascV t.length (kerF t)).getD i 0] h hin) (And.intro rfl (And.intro rfl trivial)) ?_)
    refine Exists.intro [] <| lp2 (fun (q : Nat) (_ : List Bool) => [(37, .int .i64 q)]) (fun _ D => [(14, .vec 0 (.bools D) [])]) (fun q D => q ≤ (ascV t.length (lftF t (setI [(ascV t.length (kerF t)).getD i 0]))).length ∧ D.length = t.length ∧ ∀ y, y < t.length → D.getD y false = (covB (((ascV t.length (kerF t)).take i).foldl (stpM t (lftF t)) []) y || ((ascV t.length (lftF t (setI [(ascV t.length (kerF t)).getD i 0]))).take q).contains (y : Int))) (fun q _ => (ascV t.length (lftF t (setI [(ascV t.length (kerF t)).getD i 0]))).length - q) 0 (setB t.length (covB (((ascV t.length (kerF t)).take i).foldl (stpM t (lftF t)) []))) ⟨Nat.zero_le _, hcl, fun y hy => by rw [setB_get hy]; simp⟩ (by repeat' first | refine And.intro ?_ ?_ | exact True.intro | (show (_ : Int) = (_ : Int); omega) | omega | exact rfl | (simp only [RO.len]; omega)) ?_
    rintro q D ⟨hq, hD, hDy⟩
    refine And.intro (fun h4 => ?_) (fun h4 => ?_)
    · have h4 : (q : Int) < ((ascV t.length (lftF t (setI [(ascV t.length (kerF t)).getD i 0]))).length : Int) := h4
      have hql : q < (ascV t.length (lftF t (setI [(ascV t.length (kerF t)).getD i 0]))).length := by omega
      have hr : 0 ≤ (ascV t.length (lftF t (setI [(ascV t.length (kerF t)).getD i 0]))).getD q 0 ∧ (ascV t.length (lftF t (setI [(ascV t.length (kerF t)).getD i 0]))).getD q 0 < (t.length : Int) := ascV_in (n := t.length) (getD_mem (d := 0) hql)
      refine And.intro (by omega) ?_
      refine And.intro (show 0 ≤ (ascV t.length (lftF t (setI [(ascV t.length (kerF t)).getD i 0]))).getD q 0 ∧ (ascV t.length (lftF t (setI [(ascV t.length (kerF t)).getD i 0]))).getD q 0 < (D.length : Int) by omega) ?_
      refine And.intro (show (0 : Int) ≤ (ascV t.length (lftF t (setI [(ascV t.length (kerF t)).getD i 0]))).getD q 0 from hr.1) ?_
      refine And.intro (by omega) ?_
      refine nx (q + 1, D.set ((ascV t.length (lftF t (setI [(ascV t.length (kerF t)).getD i 0]))).getD q 0).toNat true) ⟨by omega, by rw [List.length_set]; exact hD, fun y hy => ?_⟩ (show (ascV t.length (lftF t (setI [(ascV t.length (kerF t)).getD i 0]))).length - (q + 1) < (ascV t.length (lftF t (setI [(ascV t.length (kerF t)).getD i 0]))).length - q by omega) (by repeat' first | refine And.intro ?_ ?_ | exact True.intro | (show (_ : Int) = (_ : Int); omega) | omega | exact rfl | (simp only [RO.len]; omega))
      have ec : ((ascV t.length (lftF t (setI [(ascV t.length (kerF t)).getD i 0]))).take (q + 1)).contains (y : Int) = (((ascV t.length (lftF t (setI [(ascV t.length (kerF t)).getD i 0]))).take q).contains (y : Int) || decide ((ascV t.length (lftF t (setI [(ascV t.length (kerF t)).getD i 0]))).getD q 0 = (y : Int))) := by
        rw [take_snoc (d := 0) hql, Bool.eq_iff_iff, Bool.or_eq_true_iff, List.contains_iff_mem, List.contains_iff_mem, List.mem_append, List.mem_singleton, decide_eq_true_iff, @eq_comm _ (y : Int)]
      by_cases e : y = ((ascV t.length (lftF t (setI [(ascV t.length (kerF t)).getD i 0]))).getD q 0).toNat
      · rw [e, getD_set_eq (by omega), ← e, ec, decide_eq_true (show (ascV t.length (lftF t (setI [(ascV t.length (kerF t)).getD i 0]))).getD q 0 = (y : Int) by omega)]; simp
      · rw [getD_set_ne (Ne.symm e), hDy y hy, ec, decide_eq_false (show ¬ (ascV t.length (lftF t (setI [(ascV t.length (kerF t)).getD i 0]))).getD q 0 = (y : Int) by omega), Bool.or_false]
    · have h4 : ((ascV t.length (lftF t (setI [(ascV t.length (kerF t)).getD i 0]))).length : Int) ≤ (q : Int) := h4
      have ed : D = setB t.length (covB (((ascV t.length (kerF t)).take (i + 1)).foldl (stpM t (lftF t)) [])) := ext_getD false (by rw [setB_len]; exact hD) fun y hy => by
        rw [hDy y (by omega), setB_get (by omega), ← ek, covB_snoc, List.take_of_length_le (l := ascV t.length (lftF t (setI [(ascV t.length (kerF t)).getD i 0]))) (by omega)]; rfl
      subst ed
      refine And.intro (by rw [List.length_append, List.length_singleton]; omega) ?_
      refine And.intro (by omega) ?_
      refine nx (i + 1) (show i + 1 ≤ (ascV t.length (kerF t)).length by omega) (show (ascV t.length (kerF t)).length - (i + 1) < (ascV t.length (kerF t)).length - i by omega) ?_
      repeat' first | refine And.intro ?_ ?_ | exact True.intro | exact congrArg (RO.rows .i64) ek | (show (_ : Int) = (_ : Int); omega) | omega | exact rfl
  · have h1 : ((ascV t.length (kerF t)).length : Int) ≤ (i : Int) := h1
    refine And.intro (And.intro trivial ?_) trivial
    show RO.rows .i64 (((ascV t.length (kerF t)).take i).foldl (stpM t (lftF t)) []) = RO.rows .i64 (mnL t (lftF t) t.length)
    rw [List.take_of_length_le (by omega), mnL_ker]
theorem rminl_fn (t : List (List Int)) (h : Semi t) : QF 30 [.ro (.rows .i64 t), .bool (.lit true)] (.ro (.rows .i64 (mnL t (lftF t) t.length))) := mkQ Tryz.func30 (by decide +kernel) rfl (Nat.le_of_ble_eq_true rfl) fun _ => rminl_k t h
theorem rminr_k (t : List (List Int)) (h : Semi t) : fnK TY SP Tryz.f30 [.ro (.rows .i64 t), .bool (.lit false)] (.ro (.rows .i64 (mnL t (rgtF t) t.length))) := by
  have hm := h.most
  refine And.intro (by omega) ?_
  refine And.intro (by omega) ?_
  refine Or.inl (cq (rKernel_fn t h) (And.intro rfl trivial) ?_)
  have hkl : (ascV t.length (kerF t)).length ≤ t.length := ascV_len _ _
  have e0 : List.replicate ((t.length : Nat) : Int).toNat false = setB t.length (covB (((ascV t.length (kerF t)).take 0).foldl (stpM t (rgtF t)) [])) := by
    refine ext_getD false (by simp [setB]) fun x hx => ?_
    rw [Int.toNat_natCast, List.length_replicate] at hx
    rw [setB_get hx, Int.toNat_natCast]; unfold covB; simp [hx]
  refine Exists.intro [] <| lp (X := Nat) (fun i => [(18, .int .i64 i), (5, .vec 48)]) (fun i => [(14, .vec 0 (.bools (setB t.length (covB (((ascV t.length (kerF t)).take i).foldl (stpM t (rgtF t)) [])))) []), (48, .vec 0 (.rows .i64 (((ascV t.length (kerF t)).take i).foldl (stpM t (rgtF t)) [])) [])]) (fun i => i ≤ (ascV t.length (kerF t)).length) (fun i => (ascV t.length (kerF t)).length - i) 0 (Nat.zero_le _) (by repeat' first | refine And.intro ?_ ?_ | exact True.intro | exact congrArg RO.bools e0 | (show (_ : Int) = (_ : Int); omega) | omega | exact rfl) ?_
  intro i hi
  have hfl : (((ascV t.length (kerF t)).take i).foldl (stpM t (rgtF t)) []).length ≤ i := by
    have := stpM_len t (rgtF t) ((ascV t.length (kerF t)).take i) []
    rw [List.length_take] at this; simp only [List.length_nil] at this; omega
  refine And.intro (fun h1 => ?_) (fun h1 => ?_)
  · have h1 : (i : Int) < ((ascV t.length (kerF t)).length : Int) := h1
    have hil : i < (ascV t.length (kerF t)).length := by omega
    have hK : 0 ≤ (ascV t.length (kerF t)).getD i 0 ∧ (ascV t.length (kerF t)).getD i 0 < (t.length : Int) := ascV_in (n := t.length) (getD_mem (d := 0) hil)
    have hx : ((ascV t.length (kerF t)).getD i 0).toNat < t.length := by omega
    have hcl := setB_len t.length (covB (((ascV t.length (kerF t)).take i).foldl (stpM t (rgtF t)) []))
    have hin : inT t [(ascV t.length (kerF t)).getD i 0] := fun y hy => by rw [List.mem_singleton] at hy; rw [hy]; exact hK
    have eo : (oneL t (rgtF t) ((ascV t.length (kerF t)).getD i 0).toNat) = ascV t.length (rgtF t (setI [(ascV t.length (kerF t)).getD i 0])) := by unfold oneL; rw [Int.toNat_of_nonneg hK.1]
    have estep : ((ascV t.length (kerF t)).take (i + 1)).foldl (stpM t (rgtF t)) [] = stpM t (rgtF t) (((ascV t.length (kerF t)).take i).foldl (stpM t (rgtF t)) []) ((ascV t.length (kerF t)).getD i 0) := by rw [take_snoc (d := 0) hil, List.foldl_append]; rfl
    have hcg := setB_get (f := covB (((ascV t.length (kerF t)).take i).foldl (stpM t (rgtF t)) [])) hx
    refine And.intro (by omega) ?_
    refine And.intro (show 0 ≤ (ascV t.length (kerF t)).getD i 0 ∧ (ascV t.length (kerF t)).getD i 0 < ((setB t.length (covB (((ascV t.length (kerF t)).take i).foldl (stpM t (rgtF t)) []))).length : Int) by rw [hcl]; exact hK) ?_
    refine And.intro (fun h2 => ?_) (fun h2 => ?_)
    · have h2 : (setB t.length (covB (((ascV t.length (kerF t)).take i).foldl (stpM t (rgtF t)) []))).getD ((ascV t.length (kerF t)).getD i 0).toNat false = true := h2
      rw [hcg] at h2
      have ek : ((ascV t.length (kerF t)).take i).foldl (stpM t (rgtF t)) [] = ((ascV t.length (kerF t)).take (i + 1)).foldl (stpM t (rgtF t)) [] := by rw [estep, stpM_yes h2]
      have ed : setB t.length (covB (((ascV t.length (kerF t)).take i).foldl (stpM t (rgtF t)) [])) = setB t.length (covB (((ascV t.length (kerF t)).take (i + 1)).foldl (stpM t (rgtF t)) [])) := by rw [ek]
      refine And.intro (by omega) ?_
      refine nx (i + 1) (show i + 1 ≤ (ascV t.length (kerF t)).length by omega) (show (ascV t.length (kerF t)).length - (i + 1) < (ascV t.length (kerF t)).length - i by omega) ?_
      repeat' first | refine And.intro ?_ ?_ | exact True.intro | exact congrArg (RO.rows .i64) ek | exact congrArg RO.bools ed | (show (_ : Int) = (_ : Int); omega) | omega | exact rfl
    have h2 : (setB t.length (covB (((ascV t.length (kerF t)).take i).foldl (stpM t (rgtF t)) []))).getD ((ascV t.length (kerF t)).getD i 0).toNat false = false := h2
    rw [hcg] at h2
    have ek : (((ascV t.length (kerF t)).take i).foldl (stpM t (rgtF t)) []) ++ [ascV t.length (rgtF t (setI [(ascV t.length (kerF t)).getD i 0]))] = ((ascV t.length (kerF t)).take (i + 1)).foldl (stpM t (rgtF t)) [] := by rw [estep, ← eo, stpM_no h2]
    have hol : (ascV t.length (rgtF t (setI [(ascV t.length (kerF t)).getD i 0]))).length ≤ t.length := ascV_len _ _
    refine Or.inl (cq (rRight_fn t [(ascV t.length (kerF t)).getD i 0] h hin) (And.intro rfl (And.intro rfl trivial)) ?_)
    refine Exists.intro [] <| lp2 (fun (q : Nat) (_ : List Bool) => [(37, .int .i64 q)]) (fun _ D => [(14, .vec 0 (.bools D) [])]) (fun q D => q ≤ (ascV t.length (rgtF t (setI [(ascV t.length (kerF t)).getD i 0]))).length ∧ D.length = t.length ∧ ∀ y, y < t.length → D.getD y false = (covB (((ascV t.length (kerF t)).take i).foldl (stpM t (rgtF t)) []) y || ((ascV t.length (rgtF t (setI [(ascV t.length (kerF t)).getD i 0]))).take q).contains (y : Int))) (fun q _ => (ascV t.length (rgtF t (setI [(ascV t.length (kerF t)).getD i 0]))).length - q) 0 (setB t.length (covB (((ascV t.length (kerF t)).take i).foldl (stpM t (rgtF t)) []))) ⟨Nat.zero_le _, hcl, fun y hy => by rw [setB_get hy]; simp⟩ (by repeat' first | refine And.intro ?_ ?_ | exact True.intro | (show (_ : Int) = (_ : Int); omega) | omega | exact rfl | (simp only [RO.len]; omega)) ?_
    rintro q D ⟨hq, hD, hDy⟩
    refine And.intro (fun h4 => ?_) (fun h4 => ?_)
    · have h4 : (q : Int) < ((ascV t.length (rgtF t (setI [(ascV t.length (kerF t)).getD i 0]))).length : Int) := h4
      have hql : q < (ascV t.length (rgtF t (setI [(ascV t.length (kerF t)).getD i 0]))).length := by omega
      have hr : 0 ≤ (ascV t.length (rgtF t (setI [(ascV t.length (kerF t)).getD i 0]))).getD q 0 ∧ (ascV t.length (rgtF t (setI [(ascV t.length (kerF t)).getD i 0]))).getD q 0 < (t.length : Int) := ascV_in (n := t.length) (getD_mem (d := 0) hql)
      refine And.intro (by omega) ?_
      refine And.intro (show 0 ≤ (ascV t.length (rgtF t (setI [(ascV t.length (kerF t)).getD i 0]))).getD q 0 ∧ (ascV t.length (rgtF t (setI [(ascV t.length (kerF t)).getD i 0]))).getD q 0 < (D.length : Int) by omega) ?_
      refine And.intro (show (0 : Int) ≤ (ascV t.length (rgtF t (setI [(ascV t.length (kerF t)).getD i 0]))).getD q 0 from hr.1) ?_
      refine And.intro (by omega) ?_
      refine nx (q + 1, D.set ((ascV t.length (rgtF t (setI [(ascV t.length (kerF t)).getD i 0]))).getD q 0).toNat true) ⟨by omega, by rw [List.length_set]; exact hD, fun y hy => ?_⟩ (show (ascV t.length (rgtF t (setI [(ascV t.length (kerF t)).getD i 0]))).length - (q + 1) < (ascV t.length (rgtF t (setI [(ascV t.length (kerF t)).getD i 0]))).length - q by omega) (by repeat' first | refine And.intro ?_ ?_ | exact True.intro | (show (_ : Int) = (_ : Int); omega) | omega | exact rfl | (simp only [RO.len]; omega))
      have ec : ((ascV t.length (rgtF t (setI [(ascV t.length (kerF t)).getD i 0]))).take (q + 1)).contains (y : Int) = (((ascV t.length (rgtF t (setI [(ascV t.length (kerF t)).getD i 0]))).take q).contains (y : Int) || decide ((ascV t.length (rgtF t (setI [(ascV t.length (kerF t)).getD i 0]))).getD q 0 = (y : Int))) := by
        rw [take_snoc (d := 0) hql, Bool.eq_iff_iff, Bool.or_eq_true_iff, List.contains_iff_mem, List.contains_iff_mem, List.mem_append, List.mem_singleton, decide_eq_true_iff, @eq_comm _ (y : Int)]
      by_cases e : y = ((ascV t.length (rgtF t (setI [(ascV t.length (kerF t)).getD i 0]))).getD q 0).toNat
      · rw [e, getD_set_eq (by omega), ← e, ec, decide_eq_true (show (ascV t.length (rgtF t (setI [(ascV t.length (kerF t)).getD i 0]))).getD q 0 = (y : Int) by omega)]; simp
      · rw [getD_set_ne (Ne.symm e), hDy y hy, ec, decide_eq_false (show ¬ (ascV t.length (rgtF t (setI [(ascV t.length (kerF t)).getD i 0]))).getD q 0 = (y : Int) by omega), Bool.or_false]
    · have h4 : ((ascV t.length (rgtF t (setI [(ascV t.length (kerF t)).getD i 0]))).length : Int) ≤ (q : Int) := h4
      have ed : D = setB t.length (covB (((ascV t.length (kerF t)).take (i + 1)).foldl (stpM t (rgtF t)) [])) := ext_getD false (by rw [setB_len]; exact hD) fun y hy => by
        rw [hDy y (by omega), setB_get (by omega), ← ek, covB_snoc, List.take_of_length_le (l := ascV t.length (rgtF t (setI [(ascV t.length (kerF t)).getD i 0]))) (by omega)]; rfl
      subst ed
      refine And.intro (by rw [List.length_append, List.length_singleton]; omega) ?_
      refine And.intro (by omega) ?_
      refine nx (i + 1) (show i + 1 ≤ (ascV t.length (kerF t)).length by omega) (show (ascV t.length (kerF t)).length - (i + 1) < (ascV t.length (kerF t)).length - i by omega) ?_
      repeat' first | refine And.intro ?_ ?_ | exact True.intro | exact congrArg (RO.rows .i64) ek | (show (_ : Int) = (_ : Int); omega) | omega | exact rfl
  · have h1 : ((ascV t.length (kerF t)).length : Int) ≤ (i : Int) := h1
    refine And.intro (And.intro trivial ?_) trivial
    show RO.rows .i64 (((ascV t.length (kerF t)).take i).foldl (stpM t (rgtF t)) []) = RO.rows .i64 (mnL t (rgtF t) t.length)
    rw [List.take_of_length_le (by omega), mnL_ker]
theorem rminr_fn (t : List (List Int)) (h : Semi t) : QF 30 [.ro (.rows .i64 t), .bool (.lit false)] (.ro (.rows .i64 (mnL t (rgtF t) t.length))) := mkQ Tryz.func30 (by decide +kernel) rfl (Nat.le_of_ble_eq_true rfl) fun _ => rminr_k t h
theorem rminlF_k (t : List (List Int)) (h : Semi t) : fnK TY SP Tryz.f12 [.ro (.rows .i64 t)] (.ro (.rows .i64 (mnL t (lftF t) t.length))) := by
  refine Or.inl (cq (rminl_fn t h) (And.intro rfl (And.intro rfl trivial)) ?_)
  exact And.intro rfl trivial
theorem rminlF_fn (t : List (List Int)) (h : Semi t) : QF 12 [.ro (.rows .i64 t)] (.ro (.rows .i64 (mnL t (lftF t) t.length))) := mkQ Tryz.func12 (by decide +kernel) rfl (Nat.le_of_ble_eq_true rfl) fun _ => rminlF_k t h
theorem rminrF_k (t : List (List Int)) (h : Semi t) : fnK TY SP Tryz.f13 [.ro (.rows .i64 t)] (.ro (.rows .i64 (mnL t (rgtF t) t.length))) := by
  refine Or.inl (cq (rminr_fn t h) (And.intro rfl (And.intro rfl trivial)) ?_)
  exact And.intro rfl trivial
theorem rminrF_fn (t : List (List Int)) (h : Semi t) : QF 13 [.ro (.rows .i64 t)] (.ro (.rows .i64 (mnL t (rgtF t) t.length))) := mkQ Tryz.func13 (by decide +kernel) rfl (Nat.le_of_ble_eq_true rfl) fun _ => rminrF_k t h
theorem rzsimple_k (t : List (List Int)) (h : Semi t) : fnK TY SP Tryz.f15 [.ro (.rows .i64 t)] (.bool (.v (zsB t))) := by
  have hm := h.most
  have hbl := belowL_len t
  refine Or.inl (cq (rzero_fn t h) (And.intro rfl trivial) ?_)
  refine And.intro (fun h1 => ?_) (fun h1 => ?_)
  · have h1 : zeroI t < 0 := h1
    refine And.intro ?_ trivial
    show false = zsB t
    unfold zsB; rw [decide_eq_true h1]; rfl
  have h1 : 0 ≤ zeroI t := h1
  refine Or.inl (cq (rgreen_fn t h) (And.intro rfl trivial) ?_)
  refine And.intro (fun h2 => ?_) (fun h2 => ?_)
  · have h2 : ((belowL t).length : Int) ≠ 2 := h2
    refine And.intro ?_ trivial
    show false = zsB t
    unfold zsB; rw [decide_eq_false (p := numJ t = 2) (by omega), Bool.and_false, Bool.false_and]
  have h2 : ((belowL t).length : Int) = 2 := h2
  have ez : zsB t = someNZ t := by
    unfold zsB; rw [decide_eq_true (p := numJ t = 2) (by omega), decide_eq_false (p := zeroI t < 0) (by omega)]; simp
  rw [ez]
  refine Exists.intro [] <| lp (X := Nat) (fun x => [(20, .int .i64 x)]) (fun _ => []) (fun x => x ≤ t.length ∧ ∀ a b, a < x → b < t.length → (en t a b : Int) = zeroI t) (fun x => t.length - x) 0 ⟨Nat.zero_le _, by omega⟩ (by repeat' first | refine And.intro ?_ ?_ | exact True.intro | (show (_ : Int) = (_ : Int); omega) | omega | exact rfl | (simp only [RO.len]; omega)) ?_
  rintro x ⟨hx, hxa⟩
  refine And.intro (fun h3 => ?_) (fun h3 => ?_)
  · have h3 : (x : Int) < (t.length : Int) := h3
    have hxl : x < t.length := by omega
    have hr := h.toSh.len hxl
    refine And.intro (by omega) ?_
    refine Exists.intro [] <| lp (X := Nat) (fun y => [(28, .int .i64 y)]) (fun _ => []) (fun y => y ≤ t.length ∧ ∀ b, b < y → (en t x b : Int) = zeroI t) (fun y => t.length - y) 0 ⟨Nat.zero_le _, by omega⟩ (by repeat' first | refine And.intro ?_ ?_ | exact True.intro | (show (_ : Int) = (_ : Int); omega) | omega | exact rfl | (simp only [RO.len]; omega)) ?_
    rintro y ⟨hy, hyb⟩
    refine And.intro (fun h4 => ?_) (fun h4 => ?_)
    · have h4 : (y : Int) < ((t.getD x []).length : Int) := h4
      have hyl : y < t.length := by omega
      have he := (h.toSh.ent hxl hyl).1
      refine And.intro (by omega) ?_
      refine And.intro (fun h5 => ?_) (fun h5 => ?_)
      · have h5 : (t.getD x []).getD y 0 ≠ zeroI t := h5
        refine And.intro ?_ trivial
        exact (someNZ_yes hxl hyl (by rw [← he]; exact h5)).symm
      · have h5 : (t.getD x []).getD y 0 = zeroI t := h5
        refine And.intro (by omega) ?_
        refine nx (y + 1) ⟨by omega, fun b hb => ?_⟩ (show t.length - (y + 1) < t.length - y by omega) (by repeat' first | refine And.intro ?_ ?_ | exact True.intro | (show (_ : Int) = (_ : Int); omega) | omega | exact rfl | (simp only [RO.len]; omega))
        by_cases e : b = y
        · rw [e, ← he, h5]
        · exact hyb b (by omega)
    · have h4 : ((t.getD x []).length : Int) ≤ (y : Int) := h4
      refine And.intro (by omega) ?_
      refine nx (x + 1) ⟨by omega, fun a b ha hb => ?_⟩ (show t.length - (x + 1) < t.length - x by omega) (by repeat' first | refine And.intro ?_ ?_ | exact True.intro | (show (_ : Int) = (_ : Int); omega) | omega | exact rfl | (simp only [RO.len]; omega))
      by_cases e : a = x
      · rw [e]; exact hyb b (by omega)
      · exact hxa a b (by omega) hb
  · have h3 : (t.length : Int) ≤ (x : Int) := h3
    refine And.intro ?_ trivial
    exact (someNZ_no fun a b ha hb => hxa a b (by omega) hb).symm
theorem rzsimple_fn (t : List (List Int)) (h : Semi t) : QF 15 [.ro (.rows .i64 t)] (.bool (.v (zsB t))) := mkQ Tryz.func15 (by decide +kernel) rfl (Nat.le_of_ble_eq_true rfl) fun _ => rzsimple_k t h
end Go.Proofs.YtdmfhcppdpcceaaGreat
