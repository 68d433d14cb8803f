/- Package partition: its contracts (Valid, canonical, Canonical, matching, Count, Classes, Meet). -/
import Derived.Test.YteopelpnpdbbcaaPartLaw
namespace Go.Proofs.Yteopelpnpdbbcaa
open Go Go.AM
set_option maxRecDepth 100000

theorem validP_iff {p : List Int} : validP p ↔ p.length ≤ 4096 ∧ ∀ i, i < p.length → stepOk p i := by
  unfold validP; rw [canon_fix]

theorem valid_no {p : List Int} {i : Nat} (hi : i < p.length) (h : ¬ stepOk p i) : (BE.lit false).val = (BE.v (decide (validP p))).val := by
  show false = decide (validP p)
  symm
  rw [decide_eq_false_iff_not, validP_iff]
  exact fun hv => h (hv.2 i hi)

theorem step_next {p : List Int} {i : Nat} (_hi : i < p.length) (hs : ∀ j, j < i → stepOk p j) (h : stepOk p i) : ∀ j, j < i + 1 → stepOk p j := fun j hj => by
  by_cases hji : j < i
  · exact hs j hji
  · have : j = i := by omega
    rw [this]; exact h

theorem firsts_next {p : List Int} {i : Nat} (hi : i < p.length) (hs : ∀ j, j < i → stepOk p j) (h : stepOk p i) : (firsts (p.take (i + 1))).length = if p.getD i 0 = (firsts (p.take i)).length then (firsts (p.take i)).length + 1 else (firsts (p.take i)).length := by
  have hf := firsts_valid (Nat.le_of_lt hi) hs
  have hr := firsts_range hf (p.getD i 0)
  rw [take_get (d := 0) hi, firsts_snoc]
  have h1 := h.1
  have h2 := h.2
  by_cases hm : p.getD i 0 ∈ p.take i
  · rw [if_pos hm, if_neg]
    have := (hr.2 hm).2
    omega
  · rw [if_neg hm, if_pos]
    · simp
    · by_cases hlt : p.getD i 0 < (firsts (p.take i)).length
      · exact absurd (hr.1 ⟨h1, hlt⟩) hm
      · omega

theorem pvalid_k (p : List Int) : fnK TY SP Try.f75 [.ro (.ints .i64 p)] (.bool (.v (decide (validP p)))) := by
  refine And.intro (fun h1 => ?_) (fun h1 => ?_)
  · refine And.intro ?_ trivial
    show false = decide (validP p)
    symm
    rw [decide_eq_false_iff_not]
    exact fun hv => by have := hv.1; omega
  refine Exists.intro [] <| lp2 (fun (i : Nat) (c : Nat) => [(11, .int .i64 i), (3, .int .i64 c)]) (fun _ _ => []) (fun i c => i ≤ p.length ∧ c = (firsts (p.take i)).length ∧ ∀ j, j < i → stepOk p j) (fun i _ => p.length - i) 0 0 ⟨Nat.zero_le _, by simp [firsts], fun j hj => absurd hj (Nat.not_lt_zero _)⟩ (by repeat' first | refine And.intro ?_ ?_ | exact True.intro | (show (_ : Int) = (_ : Int); omega) | omega | exact rfl | (simp only [RO.len]; omega)) ?_
  rintro i c ⟨hi, hc, hs⟩
  refine And.intro (fun h1 => ?_) (fun h1 => ?_)
  · have hil : i < p.length := by omega
    refine And.intro (by omega) ?_
    refine And.intro (fun h2 => ?_) (fun h2 => ?_)
    · refine And.intro ?_ trivial
      have h2 : p.getD i 0 < 0 := h2
      exact valid_no hil fun h => by have := h.1; omega
    refine And.intro (fun h3 => ?_) (fun h3 => ?_)
    · refine And.intro ?_ trivial
      have h3 : (c : Int) < p.getD i 0 := h3
      exact valid_no hil fun h => by have := h.2; omega
    have h2 : 0 ≤ p.getD i 0 := h2
    have h3 : p.getD i 0 ≤ (c : Int) := h3
    have hok : stepOk p i := ⟨h2, by rw [← hc]; exact h3⟩
    have hfn := firsts_next hil hs hok
    have hle : c ≤ p.length := by
      have := firsts_le (p.take i)
      rw [List.length_take] at this; omega
    refine And.intro (fun h4 => ?_) (fun h4 => ?_)
    · have h4 : p.getD i 0 = (c : Int) := h4
      refine And.intro (by omega) ?_
      refine And.intro (by omega) ?_
      refine nx (i + 1, c + 1) ⟨by omega, ?_, step_next hil hs hok⟩ (show p.length - (i + 1) < p.length - i by omega) (by repeat' first | refine And.intro ?_ ?_ | exact True.intro | (show (_ : Int) = (_ : Int); omega) | omega | exact rfl | (simp only [RO.len]; omega))
      rw [hfn, if_pos (by rw [h4, hc]), hc]
    · have h4 : p.getD i 0 ≠ (c : Int) := h4
      refine And.intro (by omega) ?_
      refine nx (i + 1, c) ⟨by omega, ?_, step_next hil hs hok⟩ (show p.length - (i + 1) < p.length - i by omega) (by repeat' first | refine And.intro ?_ ?_ | exact True.intro | (show (_ : Int) = (_ : Int); omega) | omega | exact rfl | (simp only [RO.len]; omega))
      rw [hfn, if_neg (by rw [← hc]; exact h4), hc]
  · refine And.intro ?_ trivial
    show true = decide (validP p)
    symm
    rw [decide_eq_true_eq, validP_iff]
    exact ⟨by omega, fun j hj => hs j (by omega)⟩
theorem pvalid_fn (p : List Int) : QF 75 [.ro (.ints .i64 p)] (.bool (.v (decide (validP p)))) := mkQ Try.func75 (by decide +kernel) rfl (Nat.le_of_ble_eq_true rfl) fun _ => pvalid_k p

/-- What the numbering's loop keeps. -/
structure CanInv {α : Type} [DecidableEq α] (key : α → List Int) (d : α) (p : List α) (i : Nat) (q : List Int) (m : List (List Int × Int)) : Prop where
  le : i ≤ p.length
  len : q.length = p.length
  map : m = mapOf key 0 (firsts (p.take i))
  val : ∀ j, j < i → q.getD j 0 = (canon p).getD j 0

section
variable {α : Type} [DecidableEq α] {key : α → List Int} {d : α} {p : List α} {i : Nat} {q : List Int} {m : List (List Int × Int)}
theorem CanInv.start : CanInv key d p 0 (List.replicate p.length 0) [] := ⟨Nat.zero_le _, by simp, by simp [firsts, mapOf], fun j hj => absurd hj (Nat.not_lt_zero _)⟩
theorem CanInv.next (h : CanInv key d p i q m) (hi : i < p.length) {v : Int} {m' : List (List Int × Int)} (hm : m' = mapOf key 0 (firsts (p.take (i + 1)))) (hv : v = (canon p).getD i 0) : CanInv key d p (i + 1) (q.set i v) m' :=
  ⟨by omega, by rw [List.length_set]; exact h.len, hm, fun j hj => by
    by_cases hji : j = i
    · subst hji; rw [getD_set_eq (by rw [h.len]; exact hi), hv]
    · rw [getD_set_ne (Ne.symm hji)]; exact h.val j (by omega)⟩
theorem CanInv.done (h : CanInv key d p i q m) (hi : p.length ≤ i) : q = canon p := by
  refine List.ext_getElem (by rw [h.len, canon_length]) fun j h1 h2 => ?_
  have := h.val j (by have := h.len; omega)
  rwa [getD_eq h1, getD_eq h2] at this
end

end Go.Proofs.Yteopelpnpdbbcaa
