/- Package congr: Generated where nothing is generated; the reference's MayPairs: contracts. -/
import Derived.Test.YteopelpnpdbbcaaCgGnr
namespace Go.Proofs.Yteopelpnpdbbcaa
open Go Go.AM
set_option maxRecDepth 100000
theorem inW_take {n : Nat} {l : List (Int × Int)} {i : Nat} (hi : i < l.length) (h : inW n (l.take i)) (hq : (0 ≤ (l.getD i (0, 0)).1 ∧ (l.getD i (0, 0)).1 < (n : Int)) ∧ 0 ≤ (l.getD i (0, 0)).2 ∧ (l.getD i (0, 0)).2 < (n : Int)) : inW n (l.take (i + 1)) := by
  rw [take_get (d := (0, 0)) hi]
  refine inW_app.2 ⟨h, fun z hz => ?_⟩
  rw [List.mem_singleton] at hz
  subst hz; exact hq
noncomputable def inWB (n : Nat) (l : List (Int × Int)) : Bool := @decide (inW n l) (Classical.propDecidable _)
theorem inWB_true {n : Nat} {l : List (Int × Int)} : inWB n l = true ↔ inW n l := by unfold inWB; exact @decide_eq_true_iff _ (Classical.propDecidable _)
theorem inWB_false {n : Nat} {l : List (Int × Int)} : inWB n l = false ↔ ¬ inW n l := by unfold inWB; exact @decide_eq_false_iff_not _ (Classical.propDecidable _)
theorem rmay_k (n : Nat) (hn : n ≤ 4096) (l : List (Int × Int)) (hll : l.length ≤ 140737488355328) : fnK TY SP Try.f28 [.int .i64 n, .ro (.pairs l)] (.bool (.v (inWB n l))) := by
  have n10 : ¬ (1 : Int) = ((0 : Nat) : Int) := by omega
  have n01 : ¬ (0 : Int) = ((0 + 1 : Nat) : Int) := by omega
  refine And.intro (fun h1 => absurd (show (n : Int) < 0 from h1) (by omega)) (fun _ => ?_)
  refine And.intro (fun h1 => absurd (show (4096 : Int) < (n : Int) from h1) (by omega)) (fun _ => ?_)
  have no : ∀ i, i < l.length → ¬ ((0 ≤ (l.getD i (0, 0)).1 ∧ (l.getD i (0, 0)).1 < (n : Int)) ∧ 0 ≤ (l.getD i (0, 0)).2 ∧ (l.getD i (0, 0)).2 < (n : Int)) → (BE.lit false).val = (BE.v (inWB n l)).val := fun i hi h => (inWB_false.2 fun h2 => h (h2 _ (getD_mem hi))).symm
  refine Exists.intro [] <| lp (X := Nat) (fun i => [(15, .int .i64 i)]) (fun _ => []) (fun i => i ≤ l.length ∧ inW n (l.take i)) (fun i => l.length - i) 0 ⟨Nat.zero_le _, fun z hz => by simp at hz⟩ (by repeat' first | refine And.intro ?_ ?_ | exact True.intro | (show (_ : Int) = (_ : Int); omega) | omega | exact rfl | (simp only [RO.len]; omega)) ?_
  intro i ⟨hi, hW⟩
  refine And.intro (fun h1 => ?_) (fun h1 => ?_)
  · have h1 : (i : Int) < (l.length : Int) := h1
    have no := no i (by omega)
    refine And.intro (by omega) ?_
    refine And.intro (by omega) ?_
    refine And.intro (fun _ => ?_) (And.intro (fun h => absurd h n01) trivial)
    refine And.intro (fun h2 => ?_) (fun h2 => ?_)
    · have h2 : (l.getD i (0, 0)).1 < 0 := h2
      exact And.intro (no fun h => by omega) trivial
    have h2 : 0 ≤ (l.getD i (0, 0)).1 := h2
    refine And.intro (by omega) ?_
    refine And.intro (fun _ => ?_) (And.intro (fun h => absurd h n01) trivial)
    refine And.intro (fun h3 => ?_) (fun h3 => ?_)
    · have h3 : (n : Int) ≤ (l.getD i (0, 0)).1 := h3
      exact And.intro (no fun h => by omega) trivial
    have h3 : (l.getD i (0, 0)).1 < (n : Int) := h3
    refine And.intro (by omega) ?_
    refine And.intro (fun h => absurd h n10) (And.intro (fun _ => ?_) trivial)
    refine And.intro (fun h4 => ?_) (fun h4 => ?_)
    · have h4 : (l.getD i (0, 0)).2 < 0 := h4
      exact And.intro (no fun h => by omega) trivial
    have h4 : 0 ≤ (l.getD i (0, 0)).2 := h4
    refine And.intro (by omega) ?_
    refine And.intro (fun h => absurd h n10) (And.intro (fun _ => ?_) trivial)
    refine And.intro (fun h5 => ?_) (fun h5 => ?_)
    · have h5 : (n : Int) ≤ (l.getD i (0, 0)).2 := h5
      exact And.intro (no fun h => by omega) trivial
    have h5 : (l.getD i (0, 0)).2 < (n : Int) := h5
    refine And.intro (by omega) ?_
    exact nx (i + 1) ⟨show i + 1 ≤ _ by omega, inW_take (by omega) hW ⟨⟨h2, h3⟩, h4, h5⟩⟩ (show l.length - (i + 1) < l.length - i by omega) (by repeat' first | refine And.intro ?_ ?_ | exact True.intro | (show (_ : Int) = (_ : Int); omega) | omega | exact rfl | (simp only [RO.len]; omega))
  · have h1 : (l.length : Int) ≤ (i : Int) := h1
    rw [List.take_of_length_le (by omega)] at hW
    refine And.intro ?_ trivial
    exact (inWB_true.2 hW).symm
theorem rmay_fn (n : Nat) (hn : n ≤ 4096) (l : List (Int × Int)) : QF 28 [.int .i64 n, .ro (.pairs l)] (.bool (.v (inWB n l))) := mkQ Try.func28 (by decide +kernel) rfl (Nat.le_of_ble_eq_true rfl) fun hf => rmay_k n hn l hf.2.1.1
end Go.Proofs.Yteopelpnpdbbcaa
