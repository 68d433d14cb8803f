import Derived.Test.YteopelpnpdbbcaaGroup
import Derived.Test.YteopelpnpdbbcaaReesLaw
/- Are all numbers elements? The reference. -/
namespace Go.Proofs.Yteopelpnpdbbcaa
open Go Go.AM
set_option maxRecDepth 100000
theorem rin_k (t : List (List Int)) (l : List Int) (hl : l.length ≤ 140737488355328) : fnK TY SP Try.f45 [.ro (.rows .i64 t), .ro (.ints .i64 l)] (.bool (.v (decide (∀ x ∈ l, 0 ≤ x ∧ x < t.length)))) := by
  refine Exists.intro [] <| lp (X := Nat) (fun i => [(9, .int .i64 i)]) (fun _ => []) (fun i => i ≤ l.length ∧ ∀ k, k < i → 0 ≤ l.getD k 0 ∧ l.getD k 0 < t.length) (fun i => l.length - i) 0 ⟨Nat.zero_le _, fun k hk => absurd hk (Nat.not_lt_zero _)⟩ (by repeat' first | refine And.intro ?_ ?_ | exact True.intro | (show (_ : Int) = (_ : Int); omega) | omega | exact rfl | (simp only [RO.len]; omega)) ?_
  rintro i ⟨hi, hs⟩
  have no : ∀ {i : Nat}, i < l.length → ¬ (0 ≤ l.getD i 0 ∧ l.getD i 0 < t.length) → false = decide (∀ x ∈ l, 0 ≤ x ∧ x < t.length) := fun hi hn => by
    symm
    rw [decide_eq_false_iff_not]
    exact fun hh => hn (hh _ (getD_mem hi))
  refine And.intro (fun h1 => ?_) (fun h1 => ?_)
  · have hil : i < l.length := by omega
    refine And.intro (by omega) ?_
    refine And.intro (fun h2 => ?_) (fun h2 => ?_)
    · have h2 : l.getD i 0 < 0 := h2
      exact And.intro (no hil (by omega)) trivial
    have h2 : 0 ≤ l.getD i 0 := h2
    refine And.intro (fun h3 => ?_) (fun h3 => ?_)
    · have h3 : (t.length : Int) ≤ l.getD i 0 := h3
      exact And.intro (no hil (by omega)) trivial
    have h3 : l.getD i 0 < (t.length : Int) := h3
    refine And.intro (by omega) ?_
    refine nx (i + 1) ⟨by omega, fun k hk => ?_⟩ (show l.length - (i + 1) < l.length - i by omega) (by repeat' first | refine And.intro ?_ ?_ | exact True.intro | (show (_ : Int) = (_ : Int); omega) | omega | exact rfl | (simp only [RO.len]; omega))
    by_cases hki : k = i
    · rw [hki]; exact ⟨h2, h3⟩
    · exact hs k (by omega)
  · refine And.intro ?_ trivial
    show true = decide (∀ x ∈ l, 0 ≤ x ∧ x < (t.length : Int))
    symm
    rw [decide_eq_true_eq]
    intro x hx
    obtain ⟨k, hk, rfl⟩ := mem_getD 0 hx
    exact hs k (by omega)
theorem rin_fn (t : List (List Int)) (l : List Int) : QF 45 [.ro (.rows .i64 t), .ro (.ints .i64 l)] (.bool (.v (decide (∀ x ∈ l, 0 ≤ x ∧ x < t.length)))) := mkQ Try.func45 (by decide +kernel) rfl (Nat.le_of_ble_eq_true rfl) fun hf => rin_k t l hf.2.1.1

end Go.Proofs.Yteopelpnpdbbcaa
