import Derived.Test.YteopelpnpdbbcaaCgGnrN
import Derived.Test.YteopelpnpdbbcaaRefn
import Derived.Test.YteopelpnpdbbcaaRefCg
import Derived.Test.YteopelpnpdbbcaaAwk19
import Derived.Test.YteopelpnpdbbcaaGroup
import Derived.Test.YteopelpnpdbbcaaReesLaw
/- The statements CongrLeast and CongrSides: the walks. -/
namespace Go.Proofs.Yteopelpnpdbbcaa
open Go Go.AM
set_option maxRecDepth 100000
theorem small19_k (t : List (List Int)) (m : Int) : fnK TY SP Try.f35 [.ro (.rows .i64 t), .int .i64 m] (.bool (.v (decide ((t.length : Int) ≤ m ∧ validV t = 0)))) := by
  refine And.intro (fun h1 => ?_) (fun h1 => ?_)
  · have h1 : (t.length : Int) ≤ m := h1
    refine Or.inl (cq (rvalid_fn t) (And.intro rfl trivial) ?_)
    refine And.intro ?_ trivial
    show decide (validV t = 0) = decide ((t.length : Int) ≤ m ∧ validV t = 0)
    simp [h1]
  · have h1 : m < (t.length : Int) := h1
    refine And.intro ?_ trivial
    show false = decide ((t.length : Int) ≤ m ∧ validV t = 0)
    rw [decide_eq_false (fun h => by omega)]
theorem small19_fn (t : List (List Int)) (m : Int) : QF 35 [.ro (.rows .i64 t), .int .i64 m] (.bool (.v (decide ((t.length : Int) ≤ m ∧ validV t = 0)))) := mkQ Try.func35 (by decide +kernel) rfl (Nat.le_of_ble_eq_true rfl) fun _ => small19_k t m
set_option maxHeartbeats 1000000 in
theorem cgLst_k (t : List (List Int)) (l : List (Int × Int)) (side : Int) (q : List Int) (hs : Semi t) (hn : t.length ≤ 10) (hl : inW t.length l) (hll : l.length ≤ 10) (h0 : 0 ≤ side ∧ side ≤ 2) : fnK TY SP Try.f8 [.ro (.rows .i64 t), .ro (.pairs l), .int .i64 side, .ro (.ints .i64 q)] (.bool (.lit true)) := by
  have hv := valid_zero.2 hs
  have hgi := cgB_true.2 (genP_is (R := relP l) hs h0)
  have hgl : (genP t side (relP l)).length = t.length := genP_len
  have n10 : ¬ (1 : Int) = ((0 : Nat) : Int) := by omega
  have n01 : ¬ (0 : Int) = ((0 + 1 : Nat) : Int) := by omega
  refine Or.inl (cq (small19_fn t 10) (And.intro rfl (And.intro rfl trivial)) ?_)
  refine And.intro (fun h1 => ?_) (fun _ => ?_)
  · have h1 : (!decide ((t.length : Int) ≤ 10 ∧ validV t = 0)) = true := h1
    rw [decide_eq_true ⟨by omega, hv⟩] at h1; exact absurd h1 (by decide)
  refine And.intro (fun h2 => absurd (show (10 : Int) < (l.length : Int) from h2) (by omega)) (fun _ => ?_)
  refine And.intro (fun h2 => absurd (show side < 0 from h2) (by omega)) (fun _ => ?_)
  refine And.intro (fun h2 => absurd (show 2 < side from h2) (by omega)) (fun _ => ?_)
  refine Or.inl (cq (rmay_fn t.length (by omega) l) (And.intro rfl (And.intro rfl trivial)) ?_)
  refine And.intro (fun h3 => ?_) (fun _ => ?_)
  · have h3 : (!inWB t.length l) = true := h3
    rw [inWB_true.2 hl] at h3; exact absurd h3 (by decide)
  refine Or.inl (cq (cgnr_fn t l side hs hl h0) (And.intro rfl (And.intro rfl (And.intro rfl trivial))) ?_)
  refine Or.inl (cq (cgr_fn t (genP t side (relP l)) side) (And.intro rfl (And.intro rfl (And.intro rfl trivial))) ?_)
  refine And.intro (fun h4 => ?_) (fun _ => ?_)
  · have h4 : (!cgB t (genP t side (relP l)) side) = true := h4
    rw [hgi] at h4; exact absurd h4 (by decide)
  refine And.intro (fun h5 => absurd (show ((genP t side (relP l)).length : Int) = (t.length : Int) by rw [hgl]) h5) (fun _ => ?_)
  refine Or.inl (cq (cgr_fn t q side) (And.intro rfl (And.intro rfl (And.intro rfl trivial))) ?_)
  refine And.intro (fun h6 => ?_) (fun h6 => ?_)
  · have h6 : cgB t q side = true := h6
    have h6 := cgB_true.1 h6
    refine Exists.intro [] <| lp2 (fun (k : Nat) (b : Bool) => [(66, .int .i64 k), (10, .bool (.v b))]) (fun _ _ => []) (fun k b => k ≤ l.length ∧ (b = true → IsCg t q side ∧ ∀ z ∈ l.take k, q.getD z.1.toNat 0 = q.getD z.2.toNat 0)) (fun k _ => l.length - k) 0 (decide ((q.length : Int) = (t.length : Int))) ⟨Nat.zero_le _, fun _ => ⟨h6, fun z hz => by simp at hz⟩⟩ (by repeat' first | refine And.intro ?_ ?_ | exact True.intro | (show (_ : Int) = (_ : Int); omega) | omega | exact rfl | (simp only [RO.len]; omega)) ?_
    rintro k b ⟨hk, hb⟩
    refine And.intro (fun h7 => ?_) (fun h7 => ?_)
    · have h7 : (k : Int) < (l.length : Int) := h7
      have hkl : k < l.length := by omega
      have hz := hl _ (getD_mem (d := ((0 : Int), (0 : Int))) hkl)
      have hm : l.getD k (0, 0) ∈ l := getD_mem hkl
      have hj : (genP t side (relP l)).getD (l.getD k (0, 0)).1.toNat 0 = (genP t side (relP l)).getD (l.getD k (0, 0)).2.toNat 0 := (genP_iff (by omega) (by omega)).2 (.rel (by
        show (_, _) ∈ l
        rw [Int.toNat_of_nonneg hz.1.1, Int.toNat_of_nonneg hz.2.1]; exact hm))
      refine And.intro (by omega) ?_
      refine Or.inl ?_
      refine Exists.intro [false, false, false, false, false, false, false, false, false, false, false] (And.intro (by decide +kernel) ?_)
      refine And.intro (by omega) ?_
      refine And.intro (fun _ => ?_) (And.intro (fun h => absurd h n01) trivial)
      refine And.intro (show 0 ≤ (l.getD k (0, 0)).1 ∧ (l.getD k (0, 0)).1 < ((genP t side (relP l)).length : Int) by omega) ?_
      refine And.intro (by omega) ?_
      refine And.intro (fun h => absurd h n10) (And.intro (fun _ => ?_) trivial)
      refine And.intro (show 0 ≤ (l.getD k (0, 0)).2 ∧ (l.getD k (0, 0)).2 < ((genP t side (relP l)).length : Int) by omega) ?_
      refine And.intro (fun h8 => absurd hj h8) (fun _ => ?_)
      refine Or.inl ?_
      refine Exists.intro [false, false, false, false, false, false, false, false, false, false, false, false, false, false, true] (And.intro (by decide +kernel) ?_)
      refine And.intro (fun h9 => ?_) (fun h9 => ?_)
      · have h9 : b = true := h9
        have hbb := hb h9
        have hql := hbb.1.len
        refine And.intro (by omega) ?_
        refine And.intro (fun _ => ?_) (And.intro (fun h => absurd h n01) trivial)
        refine And.intro (show 0 ≤ (l.getD k (0, 0)).1 ∧ (l.getD k (0, 0)).1 < (q.length : Int) by omega) ?_
        refine And.intro (by omega) ?_
        refine And.intro (fun h => absurd h n10) (And.intro (fun _ => ?_) trivial)
        refine And.intro (show 0 ≤ (l.getD k (0, 0)).2 ∧ (l.getD k (0, 0)).2 < (q.length : Int) by omega) ?_
        refine And.intro (by omega) ?_
        refine nx (k + 1, decide (q.getD (l.getD k (0, 0)).1.toNat 0 = q.getD (l.getD k (0, 0)).2.toNat 0)) ⟨by omega, fun hd => ⟨hbb.1, fun z hz => ?_⟩⟩ (show l.length - (k + 1) < l.length - k by omega) (by repeat' first | refine And.intro ?_ ?_ | exact True.intro | (show (_ : Int) = (_ : Int); omega) | omega | exact rfl | (simp only [RO.len]; omega))
        rw [take_get (d := (0, 0)) hkl] at hz
        rcases List.mem_append.1 hz with hz | hz
        · exact hbb.2 z hz
        · rw [List.mem_singleton] at hz
          subst hz
          exact of_decide_eq_true hd
      · have h9 : b = false := h9
        refine And.intro (by omega) ?_
        exact nx (k + 1, false) ⟨by omega, fun h => by cases h⟩ (show l.length - (k + 1) < l.length - k by omega) (by repeat' first | refine And.intro ?_ ?_ | exact True.intro | (show (_ : Int) = (_ : Int); omega) | omega | exact rfl | (simp only [RO.len]; omega))
    · have h7 : (l.length : Int) ≤ (k : Int) := h7
      refine And.intro (fun _ => Or.inl (cq awake19_fn trivial (And.intro rfl trivial))) (fun h8 => ?_)
      have h8 : (!b) = false := h8
      rw [Bool.not_eq_false'] at h8
      have hbb := hb h8
      rw [List.take_of_length_le (by omega)] at hbb
      have hrf : rfB (genP t side (relP l)) q = true := rfB_true.2 fun i j hi hj e => by
        rw [hgl] at hi hj
        exact ((genP_iff hi hj).1 e).sub (fun a b hR => by have := hbb.2 _ hR; simpa using this) hbb.1.cg
      refine Or.inl (cq (prefn_fn (genP t side (relP l)) q (genP_valid hs.toSh) hbb.1.val (by rw [hgl, hbb.1.len])) (And.intro rfl (And.intro rfl trivial)) ?_)
      refine And.intro (fun _ => Or.inl (cq awake19_fn trivial (And.intro rfl trivial))) (fun h10 => ?_)
      have h10 : rfB (genP t side (relP l)) q = false := h10
      rw [hrf] at h10; cases h10
  · refine Exists.intro [] <| lp2 (fun (k : Nat) (b : Bool) => [(66, .int .i64 k), (10, .bool (.v b))]) (fun _ _ => []) (fun k b => k ≤ l.length ∧ (b = true → IsCg t q side ∧ ∀ z ∈ l.take k, q.getD z.1.toNat 0 = q.getD z.2.toNat 0)) (fun k _ => l.length - k) 0 false ⟨Nat.zero_le _, fun h => by cases h⟩ (by repeat' first | refine And.intro ?_ ?_ | exact True.intro | (show (_ : Int) = (_ : Int); omega) | omega | exact rfl | (simp only [RO.len]; omega)) ?_
    rintro k b ⟨hk, hb⟩
    refine And.intro (fun h7 => ?_) (fun h7 => ?_)
    · have h7 : (k : Int) < (l.length : Int) := h7
      have hkl : k < l.length := by omega
      have hz := hl _ (getD_mem (d := ((0 : Int), (0 : Int))) hkl)
      have hm : l.getD k (0, 0) ∈ l := getD_mem hkl
      have hj : (genP t side (relP l)).getD (l.getD k (0, 0)).1.toNat 0 = (genP t side (relP l)).getD (l.getD k (0, 0)).2.toNat 0 := (genP_iff (by omega) (by omega)).2 (.rel (by
        show (_, _) ∈ l
        rw [Int.toNat_of_nonneg hz.1.1, Int.toNat_of_nonneg hz.2.1]; exact hm))
      refine And.intro (by omega) ?_
      refine Or.inl ?_
      refine Exists.intro [false, false, false, false, false, false, false, false, false, false, false] (And.intro (by decide +kernel) ?_)
      refine And.intro (by omega) ?_
      refine And.intro (fun _ => ?_) (And.intro (fun h => absurd h n01) trivial)
      refine And.intro (show 0 ≤ (l.getD k (0, 0)).1 ∧ (l.getD k (0, 0)).1 < ((genP t side (relP l)).length : Int) by omega) ?_
      refine And.intro (by omega) ?_
      refine And.intro (fun h => absurd h n10) (And.intro (fun _ => ?_) trivial)
      refine And.intro (show 0 ≤ (l.getD k (0, 0)).2 ∧ (l.getD k (0, 0)).2 < ((genP t side (relP l)).length : Int) by omega) ?_
      refine And.intro (fun h8 => absurd hj h8) (fun _ => ?_)
      refine Or.inl ?_
      refine Exists.intro [false, false, false, false, false, false, false, false, false, false, false, false, false, false, true] (And.intro (by decide +kernel) ?_)
      refine And.intro (fun h9 => ?_) (fun h9 => ?_)
      · have h9 : b = true := h9
        have hbb := hb h9
        have hql := hbb.1.len
        refine And.intro (by omega) ?_
        refine And.intro (fun _ => ?_) (And.intro (fun h => absurd h n01) trivial)
        refine And.intro (show 0 ≤ (l.getD k (0, 0)).1 ∧ (l.getD k (0, 0)).1 < (q.length : Int) by omega) ?_
        refine And.intro (by omega) ?_
        refine And.intro (fun h => absurd h n10) (And.intro (fun _ => ?_) trivial)
        refine And.intro (show 0 ≤ (l.getD k (0, 0)).2 ∧ (l.getD k (0, 0)).2 < (q.length : Int) by omega) ?_
        refine And.intro (by omega) ?_
        refine nx (k + 1, decide (q.getD (l.getD k (0, 0)).1.toNat 0 = q.getD (l.getD k (0, 0)).2.toNat 0)) ⟨by omega, fun hd => ⟨hbb.1, fun z hz => ?_⟩⟩ (show l.length - (k + 1) < l.length - k by omega) (by repeat' first | refine And.intro ?_ ?_ | exact True.intro | (show (_ : Int) = (_ : Int); omega) | omega | exact rfl | (simp only [RO.len]; omega))
        rw [take_get (d := (0, 0)) hkl] at hz
        rcases List.mem_append.1 hz with hz | hz
        · exact hbb.2 z hz
        · rw [List.mem_singleton] at hz
          subst hz
          exact of_decide_eq_true hd
      · have h9 : b = false := h9
        refine And.intro (by omega) ?_
        exact nx (k + 1, false) ⟨by omega, fun h => by cases h⟩ (show l.length - (k + 1) < l.length - k by omega) (by repeat' first | refine And.intro ?_ ?_ | exact True.intro | (show (_ : Int) = (_ : Int); omega) | omega | exact rfl | (simp only [RO.len]; omega))
    · have h7 : (l.length : Int) ≤ (k : Int) := h7
      refine And.intro (fun _ => Or.inl (cq awake19_fn trivial (And.intro rfl trivial))) (fun h8 => ?_)
      have h8 : (!b) = false := h8
      rw [Bool.not_eq_false'] at h8
      have hbb := hb h8
      rw [List.take_of_length_le (by omega)] at hbb
      have hrf : rfB (genP t side (relP l)) q = true := rfB_true.2 fun i j hi hj e => by
        rw [hgl] at hi hj
        exact ((genP_iff hi hj).1 e).sub (fun a b hR => by have := hbb.2 _ hR; simpa using this) hbb.1.cg
      refine Or.inl (cq (prefn_fn (genP t side (relP l)) q (genP_valid hs.toSh) hbb.1.val (by rw [hgl, hbb.1.len])) (And.intro rfl (And.intro rfl trivial)) ?_)
      refine And.intro (fun _ => Or.inl (cq awake19_fn trivial (And.intro rfl trivial))) (fun h10 => ?_)
      have h10 : rfB (genP t side (relP l)) q = false := h10
      rw [hrf] at h10; cases h10
theorem cgLstN_k (t : List (List Int)) (l : List (Int × Int)) (side : Int) (q : List Int) (hno : ¬ (Semi t ∧ t.length ≤ 10 ∧ inW t.length l ∧ l.length ≤ 10 ∧ 0 ≤ side ∧ side ≤ 2)) : fnK TY SP Try.f8 [.ro (.rows .i64 t), .ro (.pairs l), .int .i64 side, .ro (.ints .i64 q)] (.bool (.lit true)) := by
  refine Or.inl (cq (small19_fn t 10) (And.intro rfl (And.intro rfl trivial)) ?_)
  refine And.intro (fun _ => Or.inl (cq awake19_fn trivial (And.intro rfl trivial))) (fun h1 => ?_)
  have h1 : (!decide ((t.length : Int) ≤ 10 ∧ validV t = 0)) = false := h1
  rw [Bool.not_eq_false'] at h1
  have h1 := of_decide_eq_true h1
  refine And.intro (fun _ => Or.inl (cq awake19_fn trivial (And.intro rfl trivial))) (fun h2 => ?_)
  have h2 : (l.length : Int) ≤ 10 := h2
  refine And.intro (fun _ => Or.inl (cq awake19_fn trivial (And.intro rfl trivial))) (fun h4 => ?_)
  have h4 : 0 ≤ side := h4
  refine And.intro (fun _ => Or.inl (cq awake19_fn trivial (And.intro rfl trivial))) (fun h5 => ?_)
  have h5 : side ≤ 2 := h5
  refine Or.inl (cq (rmay_fn t.length (by omega) l) (And.intro rfl (And.intro rfl trivial)) ?_)
  refine And.intro (fun _ => Or.inl (cq awake19_fn trivial (And.intro rfl trivial))) (fun h3 => ?_)
  have h3 : (!inWB t.length l) = false := h3
  rw [Bool.not_eq_false'] at h3
  exact absurd ⟨valid_zero.1 h1.2, by omega, inWB_true.1 h3, by omega, h4, h5⟩ hno
theorem cgLst_fn (t : List (List Int)) (l : List (Int × Int)) (side : Int) (q : List Int) : QF 8 [.ro (.rows .i64 t), .ro (.pairs l), .int .i64 side, .ro (.ints .i64 q)] (.bool (.lit true)) :=
  mkQ Try.func8 (by decide +kernel) rfl (Nat.le_of_ble_eq_true rfl) fun _ => by
    by_cases h : Semi t ∧ t.length ≤ 10 ∧ inW t.length l ∧ l.length ≤ 10 ∧ 0 ≤ side ∧ side ≤ 2
    · exact cgLst_k t l side q h.1 h.2.1 h.2.2.1 h.2.2.2.1 h.2.2.2.2
    · exact cgLstN_k t l side q h
end Go.Proofs.Yteopelpnpdbbcaa
