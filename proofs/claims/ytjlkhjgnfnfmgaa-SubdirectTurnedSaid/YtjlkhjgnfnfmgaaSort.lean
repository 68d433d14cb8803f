import Derived.Test.YtjlkhjgnfnfmgaaLp
import Derived.Test.YtjlkhjgnfnfmgaaRefRees
import Derived.Shelf.SlSortCmp.Whole1
import Derived.Test.YtjlkhjgnfnfmgaaLay
section
/- Comparisons of numbers and of lists: contracts. -/
namespace Go.Proofs.Ytjlkhjgnfnfmgaa
open Go Go.AM
set_option maxRecDepth 100000
theorem isNaN_fn (a : Int) : QF 193 [.int .i64 a] (.bool (.lit false)) := mkQ Try.func193 (by decide +kernel) rfl (Nat.le_of_ble_eq_true rfl) fun _ => by
  refine And.intro ?_ trivial
  show decide (a ≠ a) = false
  simp
theorem compare_fn (a b : Int) : QF 152 [.int .i64 a, .int .i64 b] (.int .i64 (cmpI a b)) := mkQ Try.func152 (by decide +kernel) rfl (Nat.le_of_ble_eq_true rfl) fun _ => by
  refine Or.inl (cq (isNaN_fn a) (And.intro rfl trivial) ?_)
  refine Or.inl (cq (isNaN_fn b) (And.intro rfl trivial) ?_)
  unfold cmpI
  refine And.intro (fun h1 => ?_) (fun h1 => ?_)
  · exact And.intro (by rw [if_pos h1]; rfl) trivial
  · refine And.intro (fun h2 => ?_) (fun h2 => ?_)
    · exact And.intro (by rw [if_neg (by omega), if_pos h2]; rfl) trivial
    · exact And.intro (by rw [if_neg (by omega), if_neg (by omega)]; rfl) trivial
theorem compareL_k (a b : List Int) (ha : a.length ≤ 140737488355328) (hb : b.length ≤ 140737488355328) : fnK TY SP Try.f83 [.ro (.ints .i64 a), .ro (.ints .i64 b)] (.int .i64 (cmpL a b)) := by
  refine Exists.intro [] <| lp (X := Nat) (fun i => [(11, .int .i64 i)]) (fun _ => []) (fun i => (i ≤ a.length ∧ i ≤ b.length) ∧ ∀ j, j < i → a.getD j 0 = b.getD j 0) (fun i => a.length - i) 0 (by simp) (by repeat' first | refine And.intro ?_ ?_ | exact True.intro | (show (_ : Int) = (_ : Int); omega) | omega | exact rfl | (simp only [RO.len]; omega)) ?_
  rintro i ⟨⟨hi, hi2⟩, hs⟩
  refine And.intro (fun h1 => ?_) (fun h1 => ?_)
  · refine And.intro (by omega) ?_
    refine And.intro (fun h2 => ?_) (fun h2 => ?_)
    · refine And.intro ?_ trivial
      rw [cmpL_end hs hi hi2 (.inr (by omega))]
      unfold cmpI; rw [if_neg (by omega), if_pos (by omega)]; rfl
    · refine And.intro (by omega) ?_
      refine Or.inl (cq (compare_fn (a.getD i 0) (b.getD i 0)) (And.intro rfl (And.intro rfl trivial)) ?_)
      refine And.intro (fun h3 => ?_) (fun h3 => ?_)
      · refine And.intro ?_ trivial
        exact (cmpL_here hs (by omega) (by omega) fun e => h3 (by rw [e]; exact cmpI_tot.self _)).symm
      · refine And.intro (by omega) ?_
        refine nx (i + 1) ⟨⟨by omega, by omega⟩, fun j hj => ?_⟩ (show a.length - (i + 1) < a.length - i by omega) (by repeat' first | refine And.intro ?_ ?_ | exact True.intro | (show (_ : Int) = (_ : Int); omega) | omega | exact rfl | (simp only [RO.len]; omega))
        by_cases e : j = i
        · subst e; exact cmpI_tot.eq _ _ h3
        · exact hs j (by omega)
  · have e := cmpL_end hs hi hi2 (.inl (by omega))
    refine And.intro (fun h2 => ?_) (fun h2 => ?_)
    · refine And.intro ?_ trivial
      rw [e]; unfold cmpI; rw [if_pos h2]; rfl
    · refine And.intro ?_ trivial
      rw [e]; unfold cmpI; rw [if_neg (by omega), if_neg (by omega)]; rfl
theorem rLess_k (a b : List Int) (ha : a.length ≤ 140737488355328) (hb : b.length ≤ 140737488355328) : fnK TY SP Try.f24 [.ro (.ints .i64 a), .ro (.ints .i64 b)] (.bool (.v (decide (cmpL a b < 0)))) := by
  refine Exists.intro [] <| lp (X := Nat) (fun i => [(5, .int .i64 i)]) (fun _ => []) (fun i => (i ≤ a.length ∧ i ≤ b.length) ∧ ∀ j, j < i → a.getD j 0 = b.getD j 0) (fun i => a.length - i) 0 (by simp) (by repeat' first | refine And.intro ?_ ?_ | exact True.intro | (show (_ : Int) = (_ : Int); omega) | omega | exact rfl | (simp only [RO.len]; omega)) ?_
  rintro i ⟨⟨hi, hi2⟩, hs⟩
  have fin : i = a.length ∨ i = b.length → decide ((a.length : Int) < (b.length : Int)) = decide (cmpL a b < 0) := fun he => by
    rw [cmpL_end hs hi hi2 he]
    unfold cmpI
    refine decide_eq_decide.2 ?_
    split <;> (try split) <;> omega
  refine And.intro (fun h1 => ?_) (fun h1 => ?_)
  · refine And.intro (fun h2 => ?_) (fun h2 => ?_)
    · refine Or.inl <| Exists.intro [false, false, false, false, false, false, false, false, false] (And.intro (by decide +kernel) ?_)
      refine And.intro (by omega) ?_
      refine And.intro (by omega) ?_
      refine And.intro (fun h3 => ?_) (fun h3 => ?_)
      · have h3 : a.getD i 0 ≠ b.getD i 0 := h3
        refine Or.inl <| Exists.intro [false, false, false, false, false, false, false, false, false, false] (And.intro (by decide +kernel) ?_)
        refine And.intro (by omega) ?_
        refine And.intro (by omega) ?_
        refine And.intro ?_ trivial
        show decide (a.getD i 0 < b.getD i 0) = decide (cmpL a b < 0)
        rw [cmpL_here hs (by omega) (by omega) h3]
        unfold cmpI
        refine decide_eq_decide.2 ?_
        split <;> (try split) <;> omega
      · have h3 : a.getD i 0 = b.getD i 0 := h3
        refine And.intro (by omega) ?_
        refine nx (i + 1) ⟨⟨by omega, by omega⟩, fun j hj => ?_⟩ (show a.length - (i + 1) < a.length - i by omega) (by repeat' first | refine And.intro ?_ ?_ | exact True.intro | (show (_ : Int) = (_ : Int); omega) | omega | exact rfl | (simp only [RO.len]; omega))
        by_cases e : j = i
        · subst e; exact h3
        · exact hs j (by omega)
    · exact And.intro (fin (.inr (by omega))) trivial
  · exact And.intro (fin (.inl (by omega))) trivial
theorem rLess_fn (a b : List Int) : QF 24 [.ro (.ints .i64 a), .ro (.ints .i64 b)] (.bool (.v (decide (cmpL a b < 0)))) := mkQ Try.func24 (by decide +kernel) rfl (Nat.le_of_ble_eq_true rfl) fun hf => rLess_k a b hf.1.1 hf.2.1.1
def insSch : Sch :=
  let F : Sch := .br 7 (.br 11 (.fst 12 .done) .no) .no
  let A6 : Sch := .br 4 F .no
  .fst 1 (.fst 2 (.fst 3 (.fst 5 (.fst 8 (.fst 9 (.fst 10 (.br 0 (.br 4 (.br 6 F .no) (.br 6 A6 .no)) (.br 6 (.br 0 A6 .no) .no))))))))
end Go.Proofs.Ytjlkhjgnfnfmgaa
end
section
/- slices.SortFunc over rows of integers: from the shelf's contract to the abstract machine's. -/
namespace Go.Proofs.Ytjlkhjgnfnfmgaa
open Go Go.AM Go.Sort Go.Lib
def RowV (w : World) (M : Msk) : Type := { v : Value // ∃ m : List Int, SlI w M .i64 m v }
instance (w : World) (M : Msk) : Inhabited (RowV w M) := ⟨⟨.slice none 0 0, [], Nat.zero_le _, none, 0, rfl, Nat.le_refl _, .inl rfl⟩⟩
end Go.Proofs.Ytjlkhjgnfnfmgaa
end
