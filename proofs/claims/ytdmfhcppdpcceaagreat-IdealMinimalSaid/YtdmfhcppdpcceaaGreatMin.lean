/- ideal.minimal, MinimalLeft, MinimalRight: contracts. -/
import Derived.Test.YtdmfhcppdpcceaaGreatMinLaw
import Derived.Test.YtdmfhcppdpcceaaGreatIdeal
namespace Go.Proofs.YtdmfhcppdpcceaaGreat
open Go Go.AM
set_option maxRecDepth 100000
set_option maxHeartbeats 2000000
theorem minimal_k (t : List (List Int)) (h : Semi t) (g : FuncId) (F : (Nat → Bool) → Nat → Bool) (hg : ∀ f, QF g [.ro (.rows .i64 t), .ro (.bools (setB t.length f))] (.new (.bools (setB t.length (F f))))) :
    fnK TY SP Tryz.f22 [.ro (.rows .i64 t), .fn g []] (.ro (.rows .i64 (mnL t F t.length))) := by
  have hmost := h.most
  refine And.intro (by omega) ?_
  refine And.intro (by omega) ?_
  refine Or.inl (cq (kernel_fn t h.toSh h.pos) (And.intro rfl trivial) ?_)
  have hkl := setB_len t.length (kerF t)
  have e0 : List.replicate ((t.length : Nat) : Int).toNat false = setB t.length (covB (mnL t F 0)) := by
    refine ext_getD false (by simp [setB]) fun x hx => ?_
    rw [Int.toNat_natCast, List.length_replicate] at hx
    rw [setB_get hx, Int.toNat_natCast]; unfold covB mnL; simp [hx]
  refine Exists.intro [] <| lp (X := Nat) (fun x => [(18, .int .i64 x), (5, .vec 53)]) (fun x => [(14, .vec 0 (.bools (setB t.length (covB (mnL t F x)))) []), (53, .vec 0 (.rows .i64 (mnL t F x)) [])]) (fun x => x ≤ t.length) (fun x => t.length - x) 0 (Nat.zero_le _) (by repeat' first | refine And.intro ?_ ?_ | exact True.intro | exact congrArg RO.bools e0 | (show (_ : Int) = (_ : Int); omega) | omega | exact rfl) ?_
  intro x hx
  have hml := mnL_len t F x
  have hcl := setB_len t.length (covB (mnL t F x))
  refine And.intro (fun h1 => ?_) (fun h1 => ?_)
  · have h1 : (x : Int) < ((setB t.length (kerF t)).length : Int) := h1
    have hxl : x < t.length := by omega
    refine And.intro (by omega) ?_
    refine And.intro (fun h2 => ?_) (fun h2 => ?_)
    · have h2 : (!(setB t.length (kerF t)).getD x false) = true := h2
      rw [setB_get hxl] at h2
      have ek : mnL t F x = mnL t F (x + 1) := (mnL_no (Or.inl (by simpa using h2))).symm
      have ed : setB t.length (covB (mnL t F x)) = setB t.length (covB (mnL t F (x + 1))) := by rw [ek]
      refine And.intro (by omega) ?_
      refine nx (x + 1) (show x + 1 ≤ t.length by omega) (show t.length - (x + 1) < t.length - x by omega) ?_
      repeat' first | refine And.intro ?_ ?_ | exact True.intro | exact congrArg (RO.rows .i64) ek | exact congrArg RO.bools ed | (show (_ : Int) = (_ : Int); omega) | omega | exact rfl
    have h2 : (!(setB t.length (kerF t)).getD x false) = false := h2
    rw [setB_get hxl] at h2
    refine And.intro (by omega) ?_
    refine And.intro (fun h3 => ?_) (fun h3 => ?_)
    · have h3 : (setB t.length (covB (mnL t F x))).getD x false = true := h3
      rw [setB_get hxl] at h3
      have ek : mnL t F x = mnL t F (x + 1) := (mnL_no (Or.inr h3)).symm
      have ed : setB t.length (covB (mnL t F x)) = setB t.length (covB (mnL t F (x + 1))) := by rw [ek]
      refine And.intro (by omega) ?_
      refine nx (x + 1) (show x + 1 ≤ t.length by omega) (show t.length - (x + 1) < t.length - x by omega) ?_
      repeat' first | refine And.intro ?_ ?_ | exact True.intro | exact congrArg (RO.rows .i64) ek | exact congrArg RO.bools ed | (show (_ : Int) = (_ : Int); omega) | omega | exact rfl
    have h3 : (setB t.length (covB (mnL t F x))).getD x false = false := h3
    rw [setB_get hxl] at h3
    have ek : mnL t F x ++ [oneL t F x] = mnL t F (x + 1) := (mnL_yes (by simpa using h2) h3).symm
    refine Or.inl (cq (marked_fn t.length [(x : Int)] hmost (fun y hy => by rw [List.mem_singleton] at hy; omega)) (And.intro rfl (And.intro rfl trivial)) ?_)
    refine Or.inl (cq (hg (setI [(x : Int)])) (And.intro rfl (And.intro rfl trivial)) ?_)
    refine Or.inl (cq (ilist_fn (setB t.length (F (setI [(x : Int)]))) (by rw [setB_len]; omega)) (And.intro rfl trivial) ?_)
    have hol : (oneL t F x).length ≤ t.length := ascV_len _ _
    refine Exists.intro [] <| lp2 (fun (q : Nat) (_ : List Bool) => [(42, .int .i64 q)]) (fun _ D => [(14, .vec 0 (.bools D) [])]) (fun q D => q ≤ (oneL t F x).length ∧ D.length = t.length ∧ ∀ y, y < t.length → D.getD y false = (covB (mnL t F x) y || ((oneL t F x).take q).contains (y : Int))) (fun q _ => (oneL t F x).length - q) 0 (setB t.length (covB (mnL t F x))) ⟨Nat.zero_le _, hcl, fun y hy => by rw [setB_get hy]; simp⟩ (by repeat' first | refine And.intro ?_ ?_ | exact True.intro | (show (_ : Int) = (_ : Int); omega) | omega | exact rfl | (simp only [RO.len]; omega)) ?_
    rintro q D ⟨hq, hD, hDy⟩
    refine And.intro (fun h4 => ?_) (fun h4 => ?_)
    · have h4 : (q : Int) < ((oneL t F x).length : Int) := h4
      have hql : q < (oneL t F x).length := by omega
      have hr := ascV_in (n := t.length) (getD_mem (d := 0) hql)
      have hr : 0 ≤ (oneL t F x).getD q 0 ∧ (oneL t F x).getD q 0 < (t.length : Int) := hr
      refine And.intro (by omega) ?_
      refine And.intro (show 0 ≤ (oneL t F x).getD q 0 ∧ (oneL t F x).getD q 0 < (D.length : Int) by omega) ?_
      refine And.intro (show (0 : Int) ≤ (oneL t F x).getD q 0 from hr.1) ?_
      refine And.intro (by omega) ?_
      refine nx (q + 1, D.set ((oneL t F x).getD q 0).toNat true) ⟨by omega, by rw [List.length_set]; exact hD, fun y hy => ?_⟩ (show (oneL t F x).length - (q + 1) < (oneL t F x).length - q by omega) (by repeat' first | refine And.intro ?_ ?_ | exact True.intro | (show (_ : Int) = (_ : Int); omega) | omega | exact rfl | (simp only [RO.len]; omega))
      have ec : ((oneL t F x).take (q + 1)).contains (y : Int) = (((oneL t F x).take q).contains (y : Int) || decide ((oneL t F x).getD q 0 = (y : Int))) := by
        rw [take_snoc (d := 0) hql, Bool.eq_iff_iff, Bool.or_eq_true_iff, List.contains_iff_mem, List.contains_iff_mem, List.mem_append, List.mem_singleton, decide_eq_true_iff, @eq_comm _ (y : Int)]
      by_cases e : y = ((oneL t F x).getD q 0).toNat
      · subst e
        rw [getD_set_eq (by omega), ec, decide_eq_true (show (oneL t F x).getD q 0 = (((oneL t F x).getD q 0).toNat : Int) by omega)]; simp
      · rw [getD_set_ne (Ne.symm e), hDy y hy, ec, decide_eq_false (show ¬ (oneL t F x).getD q 0 = (y : Int) by omega), Bool.or_false]
    · have h4 : ((oneL t F x).length : Int) ≤ (q : Int) := h4
      have ed : D = setB t.length (covB (mnL t F (x + 1))) := ext_getD false (by rw [setB_len]; exact hD) fun y hy => by
        rw [hDy y (by omega), setB_get (by omega), ← ek, covB_snoc, List.take_of_length_le (by omega)]; rfl
      subst ed
      refine And.intro (by simp; omega) ?_
      refine And.intro (by omega) ?_
      refine nx (x + 1) (show x + 1 ≤ t.length by omega) (show t.length - (x + 1) < t.length - x by omega) ?_
      repeat' first | refine And.intro ?_ ?_ | exact True.intro | exact congrArg (RO.rows .i64) ek | (show (_ : Int) = (_ : Int); omega) | omega | exact rfl
  · have h1 : ((setB t.length (kerF t)).length : Int) ≤ (x : Int) := h1
    refine And.intro (And.intro trivial ?_) trivial
    show RO.rows .i64 (mnL t F x) = RO.rows .i64 (mnL t F t.length)
    rw [show x = t.length by omega]
theorem minimal_fn (t : List (List Int)) (h : Semi t) (g : FuncId) (F : (Nat → Bool) → Nat → Bool) (hg : ∀ f, QF g [.ro (.rows .i64 t), .ro (.bools (setB t.length f))] (.new (.bools (setB t.length (F f))))) :
    QF 22 [.ro (.rows .i64 t), .fn g []] (.ro (.rows .i64 (mnL t F t.length))) := mkQ Tryz.func22 (by decide +kernel) rfl (Nat.le_of_ble_eq_true rfl) fun _ => minimal_k t h g F hg
theorem minL_k (t : List (List Int)) (h : Semi t) : fnK TY SP Tryz.f6 [.ro (.rows .i64 t)] (.ro (.rows .i64 (mnL t (lftF t) t.length))) := by
  refine Or.inl (cq (valid_fn t) (And.intro rfl trivial) ?_)
  refine And.intro (fun h1 => absurd (valid_zero.2 h) h1) (fun _ => ?_)
  refine Or.inl (cq (minimal_fn t h 23 (lftF t) (left_fn t h.toSh)) (And.intro rfl (And.intro (by repeat' first | refine And.intro ?_ ?_ | exact True.intro | (show (_ : Int) = (_ : Int); omega) | omega | exact rfl | (simp only [RO.len]; omega)) trivial)) ?_)
  exact And.intro rfl trivial
theorem minL_fn (t : List (List Int)) (h : Semi t) : QF 6 [.ro (.rows .i64 t)] (.ro (.rows .i64 (mnL t (lftF t) t.length))) := mkQ Tryz.func6 (by decide +kernel) rfl (Nat.le_of_ble_eq_true rfl) fun _ => minL_k t h
theorem minR_k (t : List (List Int)) (h : Semi t) : fnK TY SP Tryz.f7 [.ro (.rows .i64 t)] (.ro (.rows .i64 (mnL t (rgtF t) t.length))) := by
  refine Or.inl (cq (valid_fn t) (And.intro rfl trivial) ?_)
  refine And.intro (fun h1 => absurd (valid_zero.2 h) h1) (fun _ => ?_)
  refine Or.inl (cq (minimal_fn t h 24 (rgtF t) (right_fn t h.toSh)) (And.intro rfl (And.intro (by repeat' first | refine And.intro ?_ ?_ | exact True.intro | (show (_ : Int) = (_ : Int); omega) | omega | exact rfl | (simp only [RO.len]; omega)) trivial)) ?_)
  exact And.intro rfl trivial
theorem minR_fn (t : List (List Int)) (h : Semi t) : QF 7 [.ro (.rows .i64 t)] (.ro (.rows .i64 (mnL t (rgtF t) t.length))) := mkQ Tryz.func7 (by decide +kernel) rfl (Nat.le_of_ble_eq_true rfl) fun _ => minR_k t h
end Go.Proofs.YtdmfhcppdpcceaaGreat
