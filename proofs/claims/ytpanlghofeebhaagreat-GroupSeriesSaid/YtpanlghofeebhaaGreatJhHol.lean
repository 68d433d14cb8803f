import Derived.Shelf.SlSortCmp.Whole1
import Derived.Test.YtpanlghofeebhaaGreatLay
import Derived.Test.YtpanlghofeebhaaGreatCmp
import Derived.Test.YtpanlghofeebhaaGreatCenter
import Derived.Test.YtpanlghofeebhaaGreatGSer
section
/- Sorting factors: the comparison, insertion sort, bits.Len: contracts. -/
namespace Go.Proofs.YtpanlghofeebhaaGreat
open Go Go.AM
set_option maxRecDepth 100000
theorem blen_fn (n : Nat) (hn : n ≤ 1000) : QF 49 [.int .u64 n] (.int .i64 (Lib.bitLen n : Nat)) := by
  refine ⟨⟨_, Tryz.func49, by decide +kernel, rfl⟩, fun M w vs hM hv => ?_⟩
  match vs, hv with
  | [v0], ⟨h0, _⟩ =>
  obtain ⟨rfl, _⟩ := h0
  have h := Any.bits_Len (SlLaysF0.n15.bits { sortL with }) (n : Int) w (by omega) (by omega)
  refine Calls.mono h fun e w' ⟨he, hw⟩ => ?_
  subst hw
  rw [Int.toNat_natCast] at he
  have hb : Lib.bitLen n < 64 := by have := Lib.bitLen_le n 10 (by omega) (by omega); omega
  have e1 : IntKind.i64.min = -9223372036854775808 := by decide
  have e2 : IntKind.i64.max = 9223372036854775807 := by decide
  exact ⟨_, he, Stp.refl _ _, M, fun _ _ _ => Iff.rfl, hM, rfl, by show IntKind.i64.min ≤ _ ∧ _ ≤ IntKind.i64.max; omega⟩
theorem cmpB_fn (a b : Bool) : QF 22 [.bool (.v a), .bool (.v b)] (.int .i64 (if a = b then 0 else if b = true then -1 else 1)) := mkQ Tryz.func22 (by decide +kernel) rfl (Nat.le_of_ble_eq_true rfl) fun _ => by
  refine And.intro (fun h1 => ?_) (fun h1 => ?_)
  · have e : a = b := by have h1 : (a == b) = true := h1; simpa using h1
    exact And.intro (by show (0 : Int) = _; rw [if_pos e]) trivial
  · have e : ¬ a = b := by have h1 : (a == b) = false := h1; simpa using h1
    refine And.intro (fun h2 => ?_) (fun h2 => ?_)
    · exact And.intro (by show (-1 : Int) = _; rw [if_neg e, if_pos h2]) trivial
    · exact And.intro (by show (1 : Int) = _; rw [if_neg e, if_neg (by rw [h2]; decide)]) trivial
theorem facC_fn (a b : Int × Bool) : QF 19 [.agg [.int .i64 a.1, .bool (.v a.2)], .agg [.int .i64 b.1, .bool (.v b.2)]] (.int .i64 (cmpF a b)) := mkQ Tryz.func19 (by decide +kernel) rfl (Nat.le_of_ble_eq_true rfl) fun _ => by
  refine Or.inl ?_
  refine Exists.intro [false, false, false, false, false, false, false, false, false, false, true, false, false] (And.intro (by decide +kernel) ?_)
  refine cq (compare_fn a.1 b.1) (And.intro rfl (And.intro rfl trivial)) ?_
  refine cq (cmpB_fn a.2 b.2) (And.intro rfl (And.intro rfl trivial)) ?_
  refine cq (or2_fn (cmpI a.1 b.1) (if a.2 = b.2 then 0 else if b.2 = true then -1 else 1)) (And.intro rfl trivial) ?_
  exact And.intro rfl trivial
set_option maxHeartbeats 2000000 in
theorem insF_fn (l : List (Int × Bool)) (n : Nat) (hn : l.length = n) (hb : n ≤ 12) : MF 75 [.vec 1000, .int .i64 0, .int .i64 n, .fn 19 []] [(1000, .vec 0 (.facs l) [])] (.tup []) [(1000, .vec 0 (.facs (srt cmpF l)) [])] := mkM Tryz.func75 (by decide +kernel) rfl (Nat.le_of_ble_eq_true rfl) fun _ => by
  refine And.intro (by omega) ?_
  refine Exists.intro [] <| lp2 (fun (i : Nat) (_ : List (Int × Bool)) => [(8, .int .i64 i)]) (fun _ D => [(1000, .vec 0 (.facs D) [])]) (fun i D => (1 ≤ i ∧ (i ≤ n ∨ n = 0 ∧ i = 1)) ∧ D.Perm l ∧ SrtTo cmpF (0, false) D i) (fun i _ => n - i) 1 l ⟨by omega, .refl _, fun p q h1 h2 => by omega⟩ (by repeat' first | refine And.intro ?_ ?_ | exact True.intro | (show (_ : Int) = (_ : Int); omega) | omega | exact rfl | (simp only [RO.len]; omega)) ?_
  intro i D hk
  have hlen := hk.2.1.length_eq
  refine And.intro (fun h1 => ?_) (fun h1 => ?_)
  · have h1 : (i : Int) < (n : Int) := h1
    refine Exists.intro [] <| lp2 (fun (j : Nat) (_ : List (Int × Bool)) => [(9, .int .i64 j)]) (fun _ D => [(1000, .vec 0 (.facs D) [])]) (fun j D => InsI cmpF (0, false) l D i j) (fun j _ => j) i D (InsI.start hk.2.1 (by omega) hk.2.2) (by repeat' first | refine And.intro ?_ ?_ | exact True.intro | (show (_ : Int) = (_ : Int); omega) | omega | exact rfl | (simp only [RO.len]; omega)) ?_
    intro j E hj
    have hle := hj.perm.length_eq
    have hji := hj.ji
    refine Or.inl ?_
    refine Exists.intro (List.replicate 14 false ++ [true, false, false]) (And.intro (by decide +kernel) ?_)
    refine And.intro (fun h2 => ?_) (fun h2 => ?_)
    · have h2 : (0 : Int) < (j : Int) := h2
      refine And.intro (by omega) ?_
      refine And.intro (by omega) ?_
      refine And.intro (by omega) ?_
      refine Or.inl (cq (facC_fn (E.getD j (0, false)) (E.getD ((j : Int) - 1).toNat (0, false))) (And.intro (by repeat' first | refine And.intro ?_ ?_ | exact True.intro | (show (_ : Int) = (_ : Int); omega) | omega | exact rfl | (simp only [RO.len]; omega)) (And.intro (by repeat' first | refine And.intro ?_ ?_ | exact True.intro | (show (_ : Int) = (_ : Int); omega) | omega | exact rfl | (simp only [RO.len]; omega)) trivial)) ?_)
      have e1 : ((j : Int) - 1).toNat = j - 1 := by omega
      refine And.intro (fun h3 => ?_) (fun h3 => ?_)
      · have h3 : cmpF (E.getD j (0, false)) (E.getD (j - 1) (0, false)) < 0 := by rw [← e1]; exact h3
        have a1 : -9223372036854775808 ≤ (j : Int) - 1 := by omega
        have a2 : (j : Int) - 1 ≤ 9223372036854775807 := by omega
        have a3 : 0 ≤ (j : Int) - 1 := by omega
        have a4 : (j : Int) - 1 < (E.length : Int) := by omega
        have a5 : 0 ≤ (j : Int) := by omega
        have a6 : (j : Int) < (E.length : Int) := by omega
        have a7 : ((0 : Nat) : Int) ≤ (j : Int) := by omega
        have a8 : ((0 : Nat) : Int) ≤ (j : Int) - 1 := by omega
        have a9 : (j : Int) - 1 < ((E.set (j : Int).toNat (E.getD ((j : Int) - 1).toNat (0, false))).length : Int) := by rw [List.length_set]; exact a4
        refine Or.inr (Exists.intro (.fst 0 (.fst 1 (.fst 2 (.fst 3 (.fst 5 (.fst 6 (.fst 10 (.fst 11 (.br 4 (.br 7 (.br 8 (.br 9 (.br 12 (.br 13 (.br 14 (.br 15 (.br 16 (.br 17 .done .no) .no) .no) .no) .no) .no) (.br 12 (.br 9 (.br 13 (.br 14 (.br 15 (.br 16 (.br 17 .done .no) .no) .no) .no) .no) (.br 13 (.br 9 (.br 14 (.br 15 (.br 16 (.br 17 .done .no) .no) .no) .no) .no) .no)) .no)) (.br 12 (.br 8 (.br 9 (.br 13 (.br 14 (.br 15 (.br 16 (.br 17 .done .no) .no) .no) .no) .no) (.br 13 (.br 9 (.br 14 (.br 15 (.br 16 (.br 17 .done .no) .no) .no) .no) .no) .no)) (.br 13 (.br 8 (.br 9 (.br 14 (.br 15 (.br 16 (.br 17 .done .no) .no) .no) .no) .no) .no) .no)) .no)) (.br 12 (.br 7 (.br 8 (.br 9 (.br 13 (.br 14 (.br 15 (.br 16 (.br 17 .done .no) .no) .no) .no) .no) (.br 13 (.br 9 (.br 14 (.br 15 (.br 16 (.br 17 .done .no) .no) .no) .no) .no) .no)) (.br 13 (.br 8 (.br 9 (.br 14 (.br 15 (.br 16 (.br 17 .done .no) .no) .no) .no) .no) .no) .no)) (.br 13 (.br 7 (.br 8 (.br 9 (.br 14 (.br 15 (.br 16 (.br 17 .done .no) .no) .no) .no) .no) .no) .no) .no)) .no)) (.br 7 (.br 4 (.br 8 (.br 9 (.br 12 (.br 13 (.br 14 (.br 15 (.br 16 (.br 17 .done .no) .no) .no) .no) .no) .no) (.br 12 (.br 9 (.br 13 (.br 14 (.br 15 (.br 16 (.br 17 .done .no) .no) .no) .no) .no) (.br 13 (.br 9 (.br 14 (.br 15 (.br 16 (.br 17 .done .no) .no) .no) .no) .no) .no)) .no)) (.br 12 (.br 8 (.br 9 (.br 13 (.br 14 (.br 15 (.br 16 (.br 17 .done .no) .no) .no) .no) .no) (.br 13 (.br 9 (.br 14 (.br 15 (.br 16 (.br 17 .done .no) .no) .no) .no) .no) .no)) (.br 13 (.br 8 (.br 9 (.br 14 (.br 15 (.br 16 (.br 17 .done .no) .no) .no) .no) .no) .no) .no)) .no)) (.br 8 (.br 4 (.br 9 (.br 12 (.br 13 (.br 14 (.br 15 (.br 16 (.br 17 .done .no) .no) .no) .no) .no) .no) (.br 12 (.br 9 (.br 13 (.br 14 (.br 15 (.br 16 (.br 17 .done .no) .no) .no) .no) .no) (.br 13 (.br 9 (.br 14 (.br 15 (.br 16 (.br 17 .done .no) .no) .no) .no) .no) .no)) .no)) (.br 9 (.br 4 (.br 12 (.br 13 (.br 14 (.br 15 (.br 16 (.br 17 .done .no) .no) .no) .no) .no) .no) (.br 12 (.br 4 (.br 13 (.br 14 (.br 15 (.br 16 (.br 17 .done .no) .no) .no) .no) .no) (.br 13 (.br 4 (.br 14 (.br 15 (.br 16 (.br 17 .done .no) .no) .no) .no) (.br 14 (.br 4 (.br 15 (.br 16 (.br 17 .done .no) .no) .no) (.br 15 (.br 4 (.br 16 (.br 17 .done .no) .no) .no) .no)) .no)) .no)) .no)) (.br 12 (.br 4 (.br 9 (.br 13 (.br 14 (.br 15 (.br 16 (.br 17 .done .no) .no) .no) .no) .no) (.br 13 (.br 9 (.br 14 (.br 15 (.br 16 (.br 17 .done .no) .no) .no) .no) .no) .no)) (.br 9 (.br 4 (.br 13 (.br 14 (.br 15 (.br 16 (.br 17 .done .no) .no) .no) .no) .no) (.br 13 (.br 4 (.br 14 (.br 15 (.br 16 (.br 17 .done .no) .no) .no) .no) (.br 14 (.br 4 (.br 15 (.br 16 (.br 17 .done .no) .no) .no) (.br 15 (.br 4 (.br 16 (.br 17 .done .no) .no) .no) .no)) .no)) .no)) (.br 13 (.br 4 (.br 9 (.br 14 (.br 15 (.br 16 (.br 17 .done .no) .no) .no) .no) .no) (.br 9 (.br 4 (.br 14 (.br 15 (.br 16 (.br 17 .done .no) .no) .no) .no) (.br 14 (.br 4 (.br 15 (.br 16 (.br 17 .done .no) .no) .no) (.br 15 (.br 4 (.br 16 (.br 17 .done .no) .no) .no) .no)) .no)) .no)) .no))) .no))) (.br 12 (.br 4 (.br 8 (.br 9 (.br 13 (.br 14 (.br 15 (.br 16 (.br 17 .done .no) .no) .no) .no) .no) (.br 13 (.br 9 (.br 14 (.br 15 (.br 16 (.br 17 .done .no) .no) .no) .no) .no) .no)) (.br 13 (.br 8 (.br 9 (.br 14 (.br 15 (.br 16 (.br 17 .done .no) .no) .no) .no) .no) .no) .no)) (.br 8 (.br 4 (.br 9 (.br 13 (.br 14 (.br 15 (.br 16 (.br 17 .done .no) .no) .no) .no) .no) (.br 13 (.br 9 (.br 14 (.br 15 (.br 16 (.br 17 .done .no) .no) .no) .no) .no) .no)) (.br 9 (.br 4 (.br 13 (.br 14 (.br 15 (.br 16 (.br 17 .done .no) .no) .no) .no) .no) (.br 13 (.br 4 (.br 14 (.br 15 (.br 16 (.br 17 .done .no) .no) .no) .no) (.br 14 (.br 4 (.br 15 (.br 16 (.br 17 .done .no) .no) .no) (.br 15 (.br 4 (.br 16 (.br 17 .done .no) .no) .no) .no)) .no)) .no)) (.br 13 (.br 4 (.br 9 (.br 14 (.br 15 (.br 16 (.br 17 .done .no) .no) .no) .no) .no) (.br 9 (.br 4 (.br 14 (.br 15 (.br 16 (.br 17 .done .no) .no) .no) .no) (.br 14 (.br 4 (.br 15 (.br 16 (.br 17 .done .no) .no) .no) (.br 15 (.br 4 (.br 16 (.br 17 .done .no) .no) .no) .no)) .no)) .no)) .no))) (.br 13 (.br 4 (.br 8 (.br 9 (.br 14 (.br 15 (.br 16 (.br 17 .done .no) .no) .no) .no) .no) .no) (.br 8 (.br 4 (.br 9 (.br 14 (.br 15 (.br 16 (.br 17 .done .no) .no) .no) .no) .no) (.br 9 (.br 4 (.br 14 (.br 15 (.br 16 (.br 17 .done .no) .no) .no) .no) (.br 14 (.br 4 (.br 15 (.br 16 (.br 17 .done .no) .no) .no) (.br 15 (.br 4 (.br 16 (.br 17 .done .no) .no) .no) .no)) .no)) .no)) .no)) .no))) .no))) (.br 12 (.br 4 (.br 7 (.br 8 (.br 9 (.br 13 (.br 14 (.br 15 (.br 16 (.br 17 .done .no) .no) .no) .no) .no) (.br 13 (.br 9 (.br 14 (.br 15 (.br 16 (.br 17 .done .no) .no) .no) .no) .no) .no)) (.br 13 (.br 8 (.br 9 (.br 14 (.br 15 (.br 16 (.br 17 .done .no) .no) .no) .no) .no) .no) .no)) (.br 13 (.br 7 (.br 8 (.br 9 (.br 14 (.br 15 (.br 16 (.br 17 .done .no) .no) .no) .no) .no) .no) .no) .no)) (.br 7 (.br 4 (.br 8 (.br 9 (.br 13 (.br 14 (.br 15 (.br 16 (.br 17 .done .no) .no) .no) .no) .no) (.br 13 (.br 9 (.br 14 (.br 15 (.br 16 (.br 17 .done .no) .no) .no) .no) .no) .no)) (.br 13 (.br 8 (.br 9 (.br 14 (.br 15 (.br 16 (.br 17 .done .no) .no) .no) .no) .no) .no) .no)) (.br 8 (.br 4 (.br 9 (.br 13 (.br 14 (.br 15 (.br 16 (.br 17 .done .no) .no) .no) .no) .no) (.br 13 (.br 9 (.br 14 (.br 15 (.br 16 (.br 17 .done .no) .no) .no) .no) .no) .no)) (.br 9 (.br 4 (.br 13 (.br 14 (.br 15 (.br 16 (.br 17 .done .no) .no) .no) .no) .no) (.br 13 (.br 4 (.br 14 (.br 15 (.br 16 (.br 17 .done .no) .no) .no) .no) (.br 14 (.br 4 (.br 15 (.br 16 (.br 17 .done .no) .no) .no) (.br 15 (.br 4 (.br 16 (.br 17 .done .no) .no) .no) .no)) .no)) .no)) (.br 13 (.br 4 (.br 9 (.br 14 (.br 15 (.br 16 (.br 17 .done .no) .no) .no) .no) .no) (.br 9 (.br 4 (.br 14 (.br 15 (.br 16 (.br 17 .done .no) .no) .no) .no) (.br 14 (.br 4 (.br 15 (.br 16 (.br 17 .done .no) .no) .no) (.br 15 (.br 4 (.br 16 (.br 17 .done .no) .no) .no) .no)) .no)) .no)) .no))) (.br 13 (.br 4 (.br 8 (.br 9 (.br 14 (.br 15 (.br 16 (.br 17 .done .no) .no) .no) .no) .no) .no) (.br 8 (.br 4 (.br 9 (.br 14 (.br 15 (.br 16 (.br 17 .done .no) .no) .no) .no) .no) (.br 9 (.br 4 (.br 14 (.br 15 (.br 16 (.br 17 .done .no) .no) .no) .no) (.br 14 (.br 4 (.br 15 (.br 16 (.br 17 .done .no) .no) .no) (.br 15 (.br 4 (.br 16 (.br 17 .done .no) .no) .no) .no)) .no)) .no)) .no)) .no))) (.br 13 (.br 4 (.br 7 (.br 8 (.br 9 (.br 14 (.br 15 (.br 16 (.br 17 .done .no) .no) .no) .no) .no) .no) .no) (.br 7 (.br 4 (.br 8 (.br 9 (.br 14 (.br 15 (.br 16 (.br 17 .done .no) .no) .no) .no) .no) .no) (.br 8 (.br 4 (.br 9 (.br 14 (.br 15 (.br 16 (.br 17 .done .no) .no) .no) .no) .no) (.br 9 (.br 4 (.br 14 (.br 15 (.br 16 (.br 17 .done .no) .no) .no) .no) (.br 14 (.br 4 (.br 15 (.br 16 (.br 17 .done .no) .no) .no) (.br 15 (.br 4 (.br 16 (.br 17 .done .no) .no) .no) .no)) .no)) .no)) .no)) .no)) .no))) .no))))))))))) (And.intro (by decide +kernel) ?_))
        apply schShr
        · intro K hK
          repeat' first | refine And.intro ?_ ?_ | exact a3 | exact a4 | exact a1 | exact a2 | exact a5 | exact a6 | exact a7 | exact a8 | exact a9 | exact True.intro | exact hK
        · refine And.intro (by omega) ?_
          have eS : (E.set (j : Int).toNat (E.getD ((j : Int) - 1).toNat (0, false))).set ((j : Int) - 1).toNat (E.getD (j : Int).toNat (0, false)) = swpD (0, false) E j := by rw [e1]; rfl
          exact nx (j - 1, swpD (0, false) E j) (hj.next cmpF_tot (by omega) h3) (show j - 1 < j by omega) (by repeat' first | refine And.intro ?_ ?_ | exact True.intro | exact congrArg RO.facs eS | (show (_ : Int) = (_ : Int); omega) | omega | exact rfl)
      · have h3 : 0 ≤ cmpF (E.getD j (0, false)) (E.getD (j - 1) (0, false)) := by rw [← e1]; exact h3
        refine And.intro (by omega) ?_
        exact nx (i + 1, E) ⟨⟨by omega, by omega⟩, hj.perm, hj.stop cmpF_tot (.inr h3)⟩ (show n - (i + 1) < n - i by omega) (by repeat' first | refine And.intro ?_ ?_ | exact True.intro | (show (_ : Int) = (_ : Int); omega) | omega | exact rfl | (simp only [RO.len]; omega))
    · have h2 : (j : Int) ≤ 0 := h2
      refine And.intro (by omega) ?_
      exact nx (i + 1, E) ⟨⟨by omega, by omega⟩, hj.perm, hj.stop cmpF_tot (.inl (by omega))⟩ (show n - (i + 1) < n - i by omega) (by repeat' first | refine And.intro ?_ ?_ | exact True.intro | (show (_ : Int) = (_ : Int); omega) | omega | exact rfl | (simp only [RO.len]; omega))
  · have hni : n ≤ i := by have h1 : (n : Int) ≤ (i : Int) := h1; omega
    have hs : SrtTo cmpF (0, false) D D.length := fun p q h1 h2 => hk.2.2 p q h1 (by omega)
    rw [SrtTo.done cmpF_tot hk.2.1 hs]
    exact And.intro (And.intro (And.intro (by omega) rfl) trivial) trivial
end Go.Proofs.YtpanlghofeebhaaGreat
end
section
/- Sorting factors. -/
namespace Go.Proofs.YtpanlghofeebhaaGreat
open Go Go.AM
set_option maxRecDepth 100000
theorem pdqF_fn (l : List (Int × Bool)) (n : Nat) (m : Int) (hn : l.length = n) (hb : n ≤ 12) : MF 48 [.vec 1000, .int .i64 0, .int .i64 n, .int .i64 m, .fn 19 []] [(1000, .vec 0 (.facs l) [])] (.tup []) [(1000, .vec 0 (.facs (srt cmpF l)) [])] := mkM Tryz.func48 (by decide +kernel) rfl (Nat.le_of_ble_eq_true rfl) fun _ => by
  refine Exists.intro [] <| lp (X := Nat) (fun _ => [(1, .int .i64 0), (2, .int .i64 n), (3, .int .i64 m)]) (fun _ => [(1000, .vec 0 (.facs l) [])]) (fun _ => True) (fun _ => 0) 0 trivial (by repeat' first | refine And.intro ?_ ?_ | exact True.intro | (show (_ : Int) = (_ : Int); omega) | omega | exact rfl | (simp only [RO.len]; omega)) ?_
  intro _ _
  refine And.intro (by omega) ?_
  refine And.intro (fun h1 => ?_) (fun h1 => ?_)
  · refine Or.inr (Or.inl (cm [] [(1000, 1000)] (insF_fn l n hn hb) (And.intro (by repeat' first | refine And.intro ?_ ?_ | exact True.intro | (show (_ : Int) = (_ : Int); omega) | omega | exact rfl | (simp only [RO.len]; omega)) ?_)))
    exact And.intro (And.intro (And.intro (by omega) rfl) trivial) trivial
  · have h1 : (12 : Int) < (n : Int) - 0 := h1
    omega
theorem srtF_fn (l : List (Int × Bool)) (hb : l.length ≤ 12) : MF 18 [.vec 1000, .fn 19 []] [(1000, .vec 0 (.facs l) [])] (.tup []) [(1000, .vec 0 (.facs (srt cmpF l)) [])] := mkM Tryz.func18 (by decide +kernel) rfl (Nat.le_of_ble_eq_true rfl) fun _ => by
  refine And.intro (by omega) ?_
  refine Or.inl (cq (blen_fn l.length (by omega)) (And.intro rfl trivial) ?_)
  refine Or.inr (Or.inl (cm [] [(1000, 1000)] (pdqF_fn l l.length _ rfl hb) (And.intro (by repeat' first | refine And.intro ?_ ?_ | exact True.intro | (show (_ : Int) = (_ : Int); omega) | omega | exact rfl | (simp only [RO.len]; omega)) ?_)))
  exact And.intro (And.intro (And.intro (by omega) rfl) trivial) trivial
end Go.Proofs.YtpanlghofeebhaaGreat
end
section
/- Package group: Series, Factors: contracts. -/
namespace Go.Proofs.YtpanlghofeebhaaGreat
open Go Go.AM
set_option maxRecDepth 100000
structure SrI (t : List (List Int)) (F : List (List Int)) : Prop where
  pos : 0 < F.length
  top : F.getD 0 [] = allI t
  step : ∀ i, i + 1 < F.length → StepG t (F.getD i []) (F.getD (i + 1) [])
  few : F.length + (F.getD (F.length - 1) []).length ≤ t.length + 1
theorem getD_snoc {α : Type} (l : List α) (x d : α) (i : Nat) : (l ++ [x]).getD i d = if i < l.length then l.getD i d else if i = l.length then x else d := by
  rw [getD_app]
  by_cases h : i < l.length
  · rw [if_pos h, if_pos h]
  · rw [if_neg h, if_neg h]
    by_cases e : i = l.length
    · rw [if_pos e, e, Nat.sub_self]; rfl
    · rw [if_neg e]
      have : ∃ k, i - l.length = k + 1 := ⟨i - l.length - 1, by omega⟩
      obtain ⟨k, hk⟩ := this
      rw [hk]; rfl
theorem SrI.cl {t : List (List Int)} (h : Grp t) {F : List (List Int)} (H : SrI t F) : ClL t (F.getD (F.length - 1) []) := by
  have hp := H.pos
  rcases Nat.lt_or_ge 1 F.length with h1 | h1
  · have := (H.step (F.length - 2) (by omega)).cl
    rwa [show F.length - 2 + 1 = F.length - 1 by omega] at this
  · rw [show F.length - 1 = 0 by omega, H.top]; exact allI_cl h.toSh
theorem SrI.start {t : List (List Int)} : SrI t [allI t] := ⟨by simp, rfl, fun i hi => by simp at hi, by
  show 1 + (allI t).length ≤ t.length + 1
  have : (allI t).length = t.length := disI_len _
  omega⟩
theorem SrI.next {t : List (List Int)} (h : Grp t) {F : List (List Int)} (H : SrI t F) {s : List Int} (hs : StepG t (F.getD (F.length - 1) []) s) : SrI t (F ++ [s]) := by
  have hp := H.pos
  have hf := H.few
  have hlt := hs.lt h (H.cl h)
  refine ⟨by simp, by rw [getD_snoc, if_pos hp]; exact H.top, fun i hi => ?_, ?_⟩
  · rw [List.length_append, List.length_singleton] at hi
    rw [getD_snoc, getD_snoc, if_pos (by omega)]
    by_cases e : i + 1 < F.length
    · rw [if_pos e]; exact H.step i e
    · rw [if_neg e, if_pos (by omega), show i = F.length - 1 by omega]; exact hs
  · rw [List.length_append, List.length_singleton, show F.length + 1 - 1 = F.length by omega, getD_snoc, if_neg (by omega), if_pos rfl]
    omega
theorem SrI.done {t : List (List Int)} (h : Grp t) {F : List (List Int)} (H : SrI t F) (hl : (F.getD (F.length - 1) []).length ≤ 1) : ChkS t F :=
  ⟨h, H.pos, H.top, H.step, by have := (H.cl h).pos; omega⟩
theorem gser_fn (t : List (List Int)) (h : Grp t) : EF 16 [frA t] (fun F : List (List Int) => .ro (.rows .i64 F)) (fun F => ChkS t F) := mkE Tryz.func16 (by decide +kernel) rfl (Nat.le_of_ble_eq_true rfl) fun _ => by
  have hm := h.most
  refine Or.inl (cq (gallR_fn t hm) (And.intro (by repeat' first | refine And.intro ?_ ?_ | exact True.intro | (show (_ : Int) = (_ : Int); omega) | omega | exact rfl | (simp only [RO.len]; omega)) trivial) ?_)
  refine And.intro (by simp) ?_
  refine Exists.intro [7, 8, 9] <| lp (X := List (List Int)) (fun F => [(3, .vec 7), (4, .ro (.ints .i64 (F.getD (F.length - 1) [])))]) (fun F => [(7, .vec 0 (.rows .i64 F) [])]) (fun F => SrI t F) (fun F => (F.getD (F.length - 1) []).length) [allI t] SrI.start (by repeat' first | refine And.intro ?_ ?_ | exact True.intro | (show (_ : Int) = (_ : Int); omega) | omega | exact rfl | (simp only [RO.len]; omega)) ?_
  intro F H
  have hf := H.few
  have hp := H.pos
  refine And.intro (fun h1 => ?_) (fun h1 => ?_)
  · have h1 : (1 : Int) < ((F.getD (F.length - 1) []).length : Int) := h1
    refine Or.inr (Or.inr (ce (gmax_fn t (F.getD (F.length - 1) []) h (H.cl h) (by omega)) (And.intro (by repeat' first | refine And.intro ?_ ?_ | exact True.intro | (show (_ : Int) = (_ : Int); omega) | omega | exact rfl | (simp only [RO.len]; omega)) (And.intro rfl trivial)) ?_))
    intro s hs
    have hlt := hs.lt h (H.cl h)
    have e1 : (F ++ [s]).getD ((F ++ [s]).length - 1) [] = s := by
      rw [List.length_append, List.length_singleton, show F.length + 1 - 1 = F.length by omega, getD_snoc, if_neg (by omega), if_pos rfl]
    refine And.intro (show ((F ++ [s]).length : Int) ≤ 2199023255552 by rw [List.length_append, List.length_singleton]; omega) ?_
    exact nx (F ++ [s]) (H.next h hs) (show ((F ++ [s]).getD ((F ++ [s]).length - 1) []).length < (F.getD (F.length - 1) []).length by rw [e1]; exact hlt) (by repeat' first | refine And.intro ?_ ?_ | exact True.intro | exact congrArg (RO.ints .i64) e1.symm | (show (_ : Int) = (_ : Int); omega) | omega | exact rfl)
  · have h1 : ((F.getD (F.length - 1) []).length : Int) ≤ 1 := h1
    exact Exists.intro F (And.intro (H.done h (by omega)) (by repeat' first | refine And.intro ?_ ?_ | exact True.intro | (show (_ : Int) = (_ : Int); omega) | omega | exact rfl | (simp only [RO.len]; omega)))
theorem gSer_fn (t : List (List Int)) (h : Grp t) : EF 6 [.ro (.rows .i64 t)] (fun F : List (List Int) => .ro (.rows .i64 F)) (fun F => ChkS t F) := mkE Tryz.func6 (by decide +kernel) rfl (Nat.le_of_ble_eq_true rfl) fun _ => by
  refine Or.inl (cq (openY_fn t h) (And.intro rfl trivial) ?_)
  refine Or.inr (Or.inr (ce (gser_fn t h) (And.intro (by repeat' first | refine And.intro ?_ ?_ | exact True.intro | (show (_ : Int) = (_ : Int); omega) | omega | exact rfl | (simp only [RO.len]; omega)) trivial) ?_))
  intro F hF
  exact Exists.intro F (And.intro hF (by repeat' first | refine And.intro ?_ ?_ | exact True.intro | (show (_ : Int) = (_ : Int); omega) | omega | exact rfl | (simp only [RO.len]; omega)))
theorem gSerN_fn (t : List (List Int)) (h : ¬ Grp t) : QF 6 [.ro (.rows .i64 t)] .nils := mkQ Tryz.func6 (by decide +kernel) rfl (Nat.le_of_ble_eq_true rfl) fun _ => by
  refine Or.inl (cq (open_fn t) (And.intro rfl trivial) ?_)
  refine And.intro (fun h1 => ?_) (fun h1 => ?_)
  · exact And.intro trivial trivial
  · have h1 : (!grpB t) = false := h1
    exact absurd (grpB_true.1 (by simpa using h1)) h
theorem gFacN_fn (t : List (List Int)) (h : ¬ Grp t) : QF 7 [.ro (.rows .i64 t)] .nils := mkQ Tryz.func7 (by decide +kernel) rfl (Nat.le_of_ble_eq_true rfl) fun _ => by
  refine Or.inl (cq (open_fn t) (And.intro rfl trivial) ?_)
  refine And.intro (fun h1 => ?_) (fun h1 => ?_)
  · exact And.intro trivial trivial
  · have h1 : (!grpB t) = false := h1
    exact absurd (grpB_true.1 (by simpa using h1)) h
def fI (p : Nat × Bool) : Int × Bool := ((p.1 : Int), p.2)
theorem two_pw : ∀ {l : List (Nat × Bool)}, (∀ f ∈ l, 2 ≤ f.1) → 2 ^ l.length ≤ prodL l
  | [], _ => Nat.le_refl _
  | f :: l, h => by
    have h1 := two_pw fun g hg => h g (List.mem_cons_of_mem _ hg)
    have h2 := h f List.mem_cons_self
    rw [List.length_cons, Nat.pow_succ, Nat.mul_comm]
    exact Nat.mul_le_mul h2 h1
theorem few_fac {t : List (List Int)} {F : List (List Int)} (H : ChkS t F) (hn : t.length ≤ 16) : F.length ≤ 5 := by
  have hs := H.ser
  have e1 := ser_prod (elT t.length) hs
  have e2 := two_pw (ser_two (elT t.length) hs)
  have e3 : szS (List.finRange t.length) (fun _ : Fin t.length => True) = t.length := by
    rw [← pS_all, szT (allI_cl H.grp.toSh)]; exact disI_len _
  rw [facL_len, e1, e3] at e2
  rcases Nat.lt_or_ge 5 F.length with h | h
  · have := Nat.pow_le_pow_right (show 0 < 2 by omega) (show 5 ≤ F.length - 1 by omega)
    omega
  · exact h
noncomputable def facT (t : List (List Int)) (F : List (List Int)) (k : Nat) : List (Int × Bool) := ((facL t F).map fI).take k
theorem facT_next {t : List (List Int)} {F : List (List Int)} {k : Nat} (hk : k + 1 < F.length) : facT t F k ++ [fI (facS t (F.getD k []) (F.getD (k + 1) []))] = facT t F (k + 1) := by
  unfold facT
  have hl : k < ((facL t F).map fI).length := by rw [List.length_map, facL_len]; omega
  rw [List.take_succ_eq_append_getElem hl]
  congr 1
  simp [facL]
theorem facT_all {t : List (List Int)} {F : List (List Int)} {k : Nat} (hk : F.length ≤ k + 1) : facT t F k = (facL t F).map fI :=
  List.take_of_length_le (by rw [List.length_map, facL_len]; omega)
set_option maxHeartbeats 1000000 in
theorem gFac_fn (t : List (List Int)) (h : Grp t) (hn : t.length ≤ 16) : EF 7 [.ro (.rows .i64 t)] (fun L : List (Int × Bool) => .new (.facs L)) (fun L => ∃ F, ChkS t F ∧ L = srt cmpF ((facL t F).map fI)) := mkE Tryz.func7 (by decide +kernel) rfl (Nat.le_of_ble_eq_true rfl) fun _ => by
  refine Or.inl (cq (openY_fn t h) (And.intro rfl trivial) ?_)
  refine Or.inr (Or.inr (ce (gser_fn t h) (And.intro (by repeat' first | refine And.intro ?_ ?_ | exact True.intro | (show (_ : Int) = (_ : Int); omega) | omega | exact rfl | (simp only [RO.len]; omega)) trivial) ?_))
  intro F hF
  have h5 := few_fac hF hn
  have hp := hF.pos
  refine And.intro (by omega) ?_
  have hd : ∀ i, ((F.take ((F.length : Nat) : Int).toNat).drop (Int.toNat 1)).getD i [] = F.getD (i + 1) [] := fun i => by
    rw [Int.toNat_natCast, List.take_length, show Int.toNat 1 = 1 from rfl]
    simp [List.getD, Nat.add_comm]
  have hdl : ((F.take ((F.length : Nat) : Int).toNat).drop (Int.toNat 1)).length = F.length - 1 := by
    rw [Int.toNat_natCast, List.take_length, List.length_drop]; rfl
  refine Exists.intro [] <| lp (X := Nat) (fun k => [(21, .int .i64 k), (6, .vec 44)]) (fun k => [(44, .vec 0 (.facs (facT t F k)) [])]) (fun k => k ≤ F.length - 1) (fun k => F.length - 1 - k) 0 (Nat.zero_le _) (by repeat' first | refine And.intro ?_ ?_ | exact True.intro | (show (_ : Int) = (_ : Int); omega) | omega | exact rfl | (simp only [RO.len]; omega)) ?_
  intro k hk
  refine And.intro (fun h1 => ?_) (fun h1 => ?_)
  · have h1 : (k : Int) < (((F.take ((F.length : Nat) : Int).toNat).drop (Int.toNat 1)).length : Int) := h1
    rw [hdl] at h1
    have hkl : k + 1 < F.length := by omega
    have ca := hF.cl k (by omega)
    have cs := hF.cl (k + 1) hkl
    have hq : 0 ≤ ((F.getD k []).length : Int) ∧ 0 < ((((F.take ((F.length : Nat) : Int).toNat).drop (Int.toNat 1)).getD k []).length : Int) := by
      have := cs.pos
      rw [hd k]; omega
    have hfl : (facT t F k).length ≤ 4 := by unfold facT; rw [List.length_take, List.length_map, facL_len]; omega
    refine And.intro (by omega) ?_
    refine Or.inl ?_
    refine Exists.intro (List.replicate 18 false ++ [true, true]) (And.intro (by decide +kernel) ?_)
    refine And.intro (by omega) ?_
    refine And.intro hq ?_
    refine And.intro (by omega) ?_
    refine cq (gab_fn t (F.getD k []) (F.getD (k + 1) []) h ca cs) (And.intro (by repeat' first | refine And.intro ?_ ?_ | exact True.intro | (show (_ : Int) = (_ : Int); omega) | omega | exact rfl | (simp only [RO.len]; omega)) (And.intro rfl (And.intro (congrArg (RO.ints .i64) (hd k)) trivial))) ?_
    have eF : facT t F k ++ [(((F.getD k []).length : Int) / ((((F.take ((F.length : Nat) : Int).toNat).drop (Int.toNat 1)).getD k []).length : Int), abB t (F.getD k []) (F.getD (k + 1) []))] = facT t F (k + 1) := by
      rw [← facT_next hkl, hd k]; rfl
    refine And.intro (by rw [List.length_append, List.length_singleton]; omega) ?_
    refine And.intro (by omega) ?_
    exact nx (k + 1) (show k + 1 ≤ F.length - 1 by omega) (show F.length - 1 - (k + 1) < F.length - 1 - k by omega) (by repeat' first | refine And.intro ?_ ?_ | exact True.intro | exact congrArg RO.facs eF | (show (_ : Int) = (_ : Int); omega) | omega | exact rfl)
  · have h1 : (((F.take ((F.length : Nat) : Int).toNat).drop (Int.toNat 1)).length : Int) ≤ (k : Int) := h1
    rw [hdl] at h1
    have eA : facT t F k = (facL t F).map fI := facT_all (by omega)
    have hl12 : ((facL t F).map fI).length ≤ 12 := by rw [List.length_map, facL_len]; omega
    rw [eA]
    refine Or.inr (Or.inl (cm [] [(1000, 44)] (srtF_fn ((facL t F).map fI) hl12) (And.intro (by repeat' first | refine And.intro ?_ ?_ | exact True.intro | (show (_ : Int) = (_ : Int); omega) | omega | exact rfl | (simp only [RO.len]; omega)) ?_)))
    exact Exists.intro _ (And.intro (Exists.intro F (And.intro hF rfl)) (by repeat' first | refine And.intro ?_ ?_ | exact True.intro | (show (_ : Int) = (_ : Int); omega) | omega | exact rfl | (simp only [RO.len]; omega)))
end Go.Proofs.YtpanlghofeebhaaGreat
end
section
/- Plain: the factors of a group: their number, their product, solvable and simple groups. -/
namespace Go.Proofs.YtpanlghofeebhaaGreat
section
variable {t : List (List Int)} {F : List (List Int)}
theorem ChkS.sol (H : ChkS t F) : (∀ f ∈ facL t F, f.2 = true) ↔ solB t = true := (ser_sol H.ser).trans (sol_iff H.grp)
theorem ChkS.prod (H : ChkS t F) : prodL (facL t F) = t.length := by
  rw [ser_prod (elT t.length) H.ser, ← pS_all, szT (allI_cl H.grp.toSh)]; exact disI_len _
theorem ChkS.two (H : ChkS t F) : ∀ f ∈ facL t F, 2 ≤ f.1 := ser_two (elT t.length) H.ser
theorem ChkS.sim (H : ChkS t F) : (nsL t).length = 2 ↔ F.length = 2 := by
  have h := H.grp
  have hp := H.pos
  have h1 : ((nsL t).length = 2) ↔ (gpT h).Mx (fun _ => True) (fun x => x = (gpT h).one) := by
    have e := simple_iff h
    rw [Bool.eq_iff_iff, mxB_true, decide_eq_true_iff] at e
    rw [← e, mxT h (allI_cl h.toSh) (one_ns h).cl (fun x hx => mem_disI.2 ((one_ns h).cl.ins x hx)) (fun x hx y hy => (one_ns h).nrm x hx y hy), pS_all, pS_one h]
  rw [h1]
  constructor
  · intro hm
    have hs := SerG.cons (el := List.finRange t.length) hm (.nil fun x => Iff.rfl)
    have := (jordan (elT t.length) _ _ (Nat.le_refl _) _ _ H.ser hs).length_eq
    rw [facL_len] at this
    simp only [List.length_cons, List.length_nil] at this
    omega
  · intro e
    have hl : (facL t F).length = 1 := by rw [facL_len]; omega
    rcases ser_inv H.ser with ⟨h2, _⟩ | ⟨S, m, h2, h3, h4⟩
    · rw [h2] at hl; cases hl
    · rw [h2] at hl
      have hm : m = [] := by cases m with | nil => rfl | cons a m => simp at hl
      rw [hm] at h4
      rcases ser_inv h4 with ⟨_, h5⟩ | ⟨_, _, h5, _⟩
      · rwa [show S = fun x => x = (gpT h).one from funext fun x => propext (h5 x)] at h3
      · cases h5
end
end Go.Proofs.YtpanlghofeebhaaGreat
end
