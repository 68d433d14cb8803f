/- Comparisons of numbers and of lists: contracts. -/
import Derived.Test.YtdjbbjjmjopofaaGreatOrd
import Derived.Test.YtdjbbjjmjopofaaGreatRefRees
namespace Go.Proofs.YtdjbbjjmjopofaaGreat
open Go Go.AM
set_option maxRecDepth 100000
theorem isNaN_k (a : Int) : fnK TY SP Tryz.f142 [.int .i64 a] (.bool (.lit false)) := by
  refine And.intro ?_ trivial
  show decide (a ≠ a) = false
  simp
theorem isNaN_fn (a : Int) : QF 142 [.int .i64 a] (.bool (.lit false)) := mkQ Tryz.func142 (by decide +kernel) rfl (Nat.le_of_ble_eq_true rfl) fun _ => isNaN_k a
theorem compare_k (a b : Int) : fnK TY SP Tryz.f97 [.int .i64 a, .int .i64 b] (.int .i64 (cmpI a b)) := by
  refine Or.inl (cq (isNaN_fn a) (And.intro rfl trivial) ?_)
  refine Or.inl (cq (isNaN_fn b) (And.intro rfl trivial) ?_)
  unfold cmpI
  refine And.intro (fun h1 => ?_) (fun h1 => ?_)
  · exact And.intro (by rw [if_pos h1]; rfl) trivial
  · refine And.intro (fun h2 => ?_) (fun h2 => ?_)
    · exact And.intro (by rw [if_neg (by omega), if_pos h2]; rfl) trivial
    · exact And.intro (by rw [if_neg (by omega), if_neg (by omega)]; rfl) trivial
theorem compare_fn (a b : Int) : QF 97 [.int .i64 a, .int .i64 b] (.int .i64 (cmpI a b)) := mkQ Tryz.func97 (by decide +kernel) rfl (Nat.le_of_ble_eq_true rfl) fun _ => compare_k a b
theorem or2_k (a b : Int) : fnK TY SP Tryz.f96 [.ro (.ints .i64 [a, b])] (.int .i64 (if a ≠ 0 then a else b)) := by
  refine Exists.intro [] <| lp (X := Nat) (fun i => [(8, .int .i64 i)]) (fun _ => []) (fun i => i ≤ 2 ∧ (0 < i → a = 0) ∧ (1 < i → b = 0)) (fun i => 2 - i) 0 (by omega) (by repeat' first | refine And.intro ?_ ?_ | exact True.intro | (show (_ : Int) = (_ : Int); omega) | omega | exact rfl | (simp only [RO.len]; omega)) ?_
  rintro i ⟨hi, h1, h2⟩
  refine And.intro (fun h3 => ?_) (fun h3 => ?_)
  · have h3 : (i : Int) < 2 := h3
    have hi' : i = 0 ∨ i = 1 := by omega
    refine And.intro (by omega) ?_
    refine And.intro (fun h4 => ?_) (fun h4 => ?_)
    · refine And.intro ?_ trivial
      rcases hi' with rfl | rfl
      · have h4 : a ≠ 0 := h4
        show a = if a ≠ 0 then a else b
        rw [if_pos h4]
      · show b = if a ≠ 0 then a else b
        rw [if_neg (by simp [h1 (by omega)])]
    · refine And.intro (by omega) ?_
      refine nx (i + 1) ⟨by omega, fun _ => ?_, fun hh => ?_⟩ (show 2 - (i + 1) < 2 - i by omega) (by repeat' first | refine And.intro ?_ ?_ | exact True.intro | (show (_ : Int) = (_ : Int); omega) | omega | exact rfl | (simp only [RO.len]; omega))
      · rcases hi' with rfl | rfl
        · exact h4
        · exact h1 (by omega)
      · rcases hi' with rfl | rfl
        · omega
        · exact h4
  · have h3 : (2 : Int) ≤ (i : Int) := h3
    refine And.intro ?_ trivial
    show 0 = if a ≠ 0 then a else b
    rw [if_neg (by simp [h1 (by omega)]), h2 (by omega)]
theorem or2_fn (a b : Int) : QF 96 [.ro (.ints .i64 [a, b])] (.int .i64 (if a ≠ 0 then a else b)) := mkQ Tryz.func96 (by decide +kernel) rfl (Nat.le_of_ble_eq_true rfl) fun _ => or2_k a b
theorem compareL_k (a b : List Int) (ha : a.length ≤ 140737488355328) (hb : b.length ≤ 140737488355328) : fnK TY SP Tryz.f138 [.ro (.ints .i64 a), .ro (.ints .i64 b)] (.int .i64 (cmpL a b)) := by
  refine Exists.intro [] <| lp (X := Nat) (fun i => [(11, .int .i64 i)]) (fun _ => []) (fun i => (i ≤ a.length ∧ i ≤ b.length) ∧ ∀ j, j < i → a.getD j 0 = b.getD j 0) (fun i => a.length - i) 0 (by simp) (by repeat' first | refine And.intro ?_ ?_ | exact True.intro | (show (_ : Int) = (_ : Int); omega) | omega | exact rfl | (simp only [RO.len]; omega)) ?_
  rintro i ⟨⟨hi, hi2⟩, hs⟩
  refine And.intro (fun h1 => ?_) (fun h1 => ?_)
  · refine And.intro (by omega) ?_
    refine And.intro (fun h2 => ?_) (fun h2 => ?_)
    · refine And.intro ?_ trivial
      rw [cmpL_end hs hi hi2 (.inr (by omega))]
      unfold cmpI; rw [if_neg (by omega), if_pos (by omega)]; rfl
    · refine And.intro (by omega) ?_
      refine Or.inl (cq (compare_fn (a.getD i 0) (b.getD i 0)) (And.intro rfl (And.intro rfl trivial)) ?_)
      refine And.intro (fun h3 => ?_) (fun h3 => ?_)
      · refine And.intro ?_ trivial
        exact (cmpL_here hs (by omega) (by omega) fun e => h3 (by rw [e]; exact cmpI_tot.self _)).symm
      · refine And.intro (by omega) ?_
        refine nx (i + 1) ⟨⟨by omega, by omega⟩, fun j hj => ?_⟩ (show a.length - (i + 1) < a.length - i by omega) (by repeat' first | refine And.intro ?_ ?_ | exact True.intro | (show (_ : Int) = (_ : Int); omega) | omega | exact rfl | (simp only [RO.len]; omega))
        by_cases e : j = i
        · subst e; exact cmpI_tot.eq _ _ h3
        · exact hs j (by omega)
  · have e := cmpL_end hs hi hi2 (.inl (by omega))
    refine And.intro (fun h2 => ?_) (fun h2 => ?_)
    · refine And.intro ?_ trivial
      rw [e]; unfold cmpI; rw [if_pos h2]; rfl
    · refine And.intro ?_ trivial
      rw [e]; unfold cmpI; rw [if_neg (by omega), if_neg (by omega)]; rfl
theorem compareL_fn (a b : List Int) : QF 138 [.ro (.ints .i64 a), .ro (.ints .i64 b)] (.int .i64 (cmpL a b)) := mkQ Tryz.func138 (by decide +kernel) rfl (Nat.le_of_ble_eq_true rfl) fun hf => compareL_k a b hf.1.1 hf.2.1.1
theorem rLess_k (a b : List Int) (ha : a.length ≤ 140737488355328) (hb : b.length ≤ 140737488355328) : fnK TY SP Tryz.f57 [.ro (.ints .i64 a), .ro (.ints .i64 b)] (.bool (.v (decide (cmpL a b < 0)))) := by
  refine Exists.intro [] <| lp (X := Nat) (fun i => [(5, .int .i64 i)]) (fun _ => []) (fun i => (i ≤ a.length ∧ i ≤ b.length) ∧ ∀ j, j < i → a.getD j 0 = b.getD j 0) (fun i => a.length - i) 0 (by simp) (by repeat' first | refine And.intro ?_ ?_ | exact True.intro | (show (_ : Int) = (_ : Int); omega) | omega | exact rfl | (simp only [RO.len]; omega)) ?_
  rintro i ⟨⟨hi, hi2⟩, hs⟩
  have fin : i = a.length ∨ i = b.length → decide ((a.length : Int) < (b.length : Int)) = decide (cmpL a b < 0) := fun he => by
    rw [cmpL_end hs hi hi2 he]
    unfold cmpI
    refine decide_eq_decide.2 ?_
    split <;> (try split) <;> omega
  refine And.intro (fun h1 => ?_) (fun h1 => ?_)
  · refine And.intro (fun h2 => ?_) (fun h2 => ?_)
    · refine Or.inl <| Exists.intro [false, false, false, false, false, false, false, false, false] (And.intro (by decide +kernel) ?_)
      refine And.intro (by omega) ?_
      refine And.intro (by omega) ?_
      refine And.intro (fun h3 => ?_) (fun h3 => ?_)
      · have h3 : a.getD i 0 ≠ b.getD i 0 := h3
        refine Or.inl <| Exists.intro [false, false, false, false, false, false, false, false, false, false] (And.intro (by decide +kernel) ?_)
        refine And.intro (by omega) ?_
        refine And.intro (by omega) ?_
        refine And.intro ?_ trivial
        show decide (a.getD i 0 < b.getD i 0) = decide (cmpL a b < 0)
        rw [cmpL_here hs (by omega) (by omega) h3]
        unfold cmpI
        refine decide_eq_decide.2 ?_
        split <;> (try split) <;> omega
      · have h3 : a.getD i 0 = b.getD i 0 := h3
        refine And.intro (by omega) ?_
        refine nx (i + 1) ⟨⟨by omega, by omega⟩, fun j hj => ?_⟩ (show a.length - (i + 1) < a.length - i by omega) (by repeat' first | refine And.intro ?_ ?_ | exact True.intro | (show (_ : Int) = (_ : Int); omega) | omega | exact rfl | (simp only [RO.len]; omega))
        by_cases e : j = i
        · subst e; exact h3
        · exact hs j (by omega)
    · exact And.intro (fin (.inr (by omega))) trivial
  · exact And.intro (fin (.inl (by omega))) trivial
theorem rLess_fn (a b : List Int) : QF 57 [.ro (.ints .i64 a), .ro (.ints .i64 b)] (.bool (.v (decide (cmpL a b < 0)))) := mkQ Tryz.func57 (by decide +kernel) rfl (Nat.le_of_ble_eq_true rfl) fun hf => rLess_k a b hf.1.1 hf.2.1.1
end Go.Proofs.YtdjbbjjmjopofaaGreat
