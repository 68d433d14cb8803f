import Derived.Test.YtjlkhjgnfnfmgaaForLaw
import Derived.Test.YtjlkhjgnfnfmgaaGrpLaw
import Derived.Test.YtjlkhjgnfnfmgaaGroup
section
/- Package partition: its contracts (Valid, canonical, Canonical, matching, Count, Classes, Meet). -/
namespace Go.Proofs.Ytjlkhjgnfnfmgaa
open Go Go.AM
set_option maxRecDepth 100000
theorem validP_iff {p : List Int} : validP p ↔ p.length ≤ 4096 ∧ ∀ i, i < p.length → stepOk p i := by
  unfold validP; rw [canon_fix]
theorem valid_no {p : List Int} {i : Nat} (hi : i < p.length) (h : ¬ stepOk p i) : (BE.lit false).val = (BE.v (decide (validP p))).val := by
  show false = decide (validP p)
  symm
  rw [decide_eq_false_iff_not, validP_iff]
  exact fun hv => h (hv.2 i hi)
theorem step_next {p : List Int} {i : Nat} (_hi : i < p.length) (hs : ∀ j, j < i → stepOk p j) (h : stepOk p i) : ∀ j, j < i + 1 → stepOk p j := fun j hj => by
  by_cases hji : j < i
  · exact hs j hji
  · have : j = i := by omega
    rw [this]; exact h
theorem firsts_next {p : List Int} {i : Nat} (hi : i < p.length) (hs : ∀ j, j < i → stepOk p j) (h : stepOk p i) : (firsts (p.take (i + 1))).length = if p.getD i 0 = (firsts (p.take i)).length then (firsts (p.take i)).length + 1 else (firsts (p.take i)).length := by
  have hf := firsts_valid (Nat.le_of_lt hi) hs
  have hr := firsts_range hf (p.getD i 0)
  rw [take_get (d := 0) hi, firsts_snoc]
  have h1 := h.1
  have h2 := h.2
  by_cases hm : p.getD i 0 ∈ p.take i
  · rw [if_pos hm, if_neg]
    have := (hr.2 hm).2
    omega
  · rw [if_neg hm, if_pos]
    · simp
    · by_cases hlt : p.getD i 0 < (firsts (p.take i)).length
      · exact absurd (hr.1 ⟨h1, hlt⟩) hm
      · omega
theorem pvalid_fn (p : List Int) : QF 84 [.ro (.ints .i64 p)] (.bool (.v (decide (validP p)))) := mkQ Try.func84 (by decide +kernel) rfl (Nat.le_of_ble_eq_true rfl) fun _ => by
  refine And.intro (fun h1 => ?_) (fun h1 => ?_)
  · refine And.intro ?_ trivial
    show false = decide (validP p)
    symm
    rw [decide_eq_false_iff_not]
    exact fun hv => by have := hv.1; omega
  refine Exists.intro [] <| lp2 (fun (i : Nat) (c : Nat) => [(11, .int .i64 i), (3, .int .i64 c)]) (fun _ _ => []) (fun i c => i ≤ p.length ∧ c = (firsts (p.take i)).length ∧ ∀ j, j < i → stepOk p j) (fun i _ => p.length - i) 0 0 ⟨Nat.zero_le _, by simp [firsts], fun j hj => absurd hj (Nat.not_lt_zero _)⟩ (by repeat' first | refine And.intro ?_ ?_ | exact True.intro | (show (_ : Int) = (_ : Int); omega) | omega | exact rfl | (simp only [RO.len]; omega)) ?_
  rintro i c ⟨hi, hc, hs⟩
  refine And.intro (fun h1 => ?_) (fun h1 => ?_)
  · have hil : i < p.length := by omega
    refine And.intro (by omega) ?_
    refine And.intro (fun h2 => ?_) (fun h2 => ?_)
    · refine And.intro ?_ trivial
      have h2 : p.getD i 0 < 0 := h2
      exact valid_no hil fun h => by have := h.1; omega
    refine And.intro (fun h3 => ?_) (fun h3 => ?_)
    · refine And.intro ?_ trivial
      have h3 : (c : Int) < p.getD i 0 := h3
      exact valid_no hil fun h => by have := h.2; omega
    have h2 : 0 ≤ p.getD i 0 := h2
    have h3 : p.getD i 0 ≤ (c : Int) := h3
    have hok : stepOk p i := ⟨h2, by rw [← hc]; exact h3⟩
    have hfn := firsts_next hil hs hok
    have hle : c ≤ p.length := by
      have := firsts_le (p.take i)
      rw [List.length_take] at this; omega
    refine And.intro (fun h4 => ?_) (fun h4 => ?_)
    · have h4 : p.getD i 0 = (c : Int) := h4
      refine And.intro (by omega) ?_
      refine And.intro (by omega) ?_
      refine nx (i + 1, c + 1) ⟨by omega, ?_, step_next hil hs hok⟩ (show p.length - (i + 1) < p.length - i by omega) (by repeat' first | refine And.intro ?_ ?_ | exact True.intro | (show (_ : Int) = (_ : Int); omega) | omega | exact rfl | (simp only [RO.len]; omega))
      rw [hfn, if_pos (by rw [h4, hc]), hc]
    · have h4 : p.getD i 0 ≠ (c : Int) := h4
      refine And.intro (by omega) ?_
      refine nx (i + 1, c) ⟨by omega, ?_, step_next hil hs hok⟩ (show p.length - (i + 1) < p.length - i by omega) (by repeat' first | refine And.intro ?_ ?_ | exact True.intro | (show (_ : Int) = (_ : Int); omega) | omega | exact rfl | (simp only [RO.len]; omega))
      rw [hfn, if_neg (by rw [← hc]; exact h4), hc]
  · refine And.intro ?_ trivial
    show true = decide (validP p)
    symm
    rw [decide_eq_true_eq, validP_iff]
    exact ⟨by omega, fun j hj => hs j (by omega)⟩
structure CanInv {α : Type} [DecidableEq α] (key : α → List Int) (d : α) (p : List α) (i : Nat) (q : List Int) (m : List (List Int × Int)) : Prop where
  le : i ≤ p.length
  len : q.length = p.length
  map : m = mapOf key 0 (firsts (p.take i))
  val : ∀ j, j < i → q.getD j 0 = (canon p).getD j 0
section
variable {α : Type} [DecidableEq α] {key : α → List Int} {d : α} {p : List α} {i : Nat} {q : List Int} {m : List (List Int × Int)}
theorem CanInv.start : CanInv key d p 0 (List.replicate p.length 0) [] := ⟨Nat.zero_le _, by simp, by simp [firsts, mapOf], fun j hj => absurd hj (Nat.not_lt_zero _)⟩
theorem CanInv.mlen (h : CanInv key d p i q m) : m.length = (firsts (p.take i)).length := by rw [h.map, mapOf_length]
theorem CanInv.mle (h : CanInv key d p i q m) : m.length ≤ p.length := by
  rw [h.mlen]
  have := firsts_le (p.take i)
  rw [List.length_take] at this; omega
theorem CanInv.next (h : CanInv key d p i q m) (hi : i < p.length) {v : Int} {m' : List (List Int × Int)} (hm : m' = mapOf key 0 (firsts (p.take (i + 1)))) (hv : v = (canon p).getD i 0) : CanInv key d p (i + 1) (q.set i v) m' :=
  ⟨by omega, by rw [List.length_set]; exact h.len, hm, fun j hj => by
    by_cases hji : j = i
    · subst hji; rw [getD_set_eq (by rw [h.len]; exact hi), hv]
    · rw [getD_set_ne (Ne.symm hji)]; exact h.val j (by omega)⟩
theorem CanInv.isNew (hk : ∀ a b, key a = key b → a = b) (h : CanInv key d p i q m) (hi : i < p.length) (hn : (!(getM m (key (p.getD i d))).isSome) = true) :
    setM m (key (p.getD i d)) m.length = mapOf key 0 (firsts (p.take (i + 1))) ∧ (m.length : Int) = (canon p).getD i 0 := by
  have hg := getM_mapOf hk (fs := firsts (p.take i)) (n := 0) (x := p.getD i d)
  rw [← h.map] at hg
  have hnone : p.getD i d ∉ p.take i := fun hm => by rw [if_pos (mem_firsts.2 hm)] at hg; rw [hg] at hn; cases hn
  rw [if_neg (fun hm => hnone (mem_firsts.1 hm))] at hg
  have hat := canon_at (d := d) hi
  rw [if_neg hnone] at hat
  refine ⟨?_, by rw [hat, h.mlen]⟩
  rw [setM_new hg, take_get (d := d) hi, firsts_snoc, if_neg hnone, mapOf_snoc, h.map, mapOf_length]
theorem CanInv.isOld (hk : ∀ a b, key a = key b → a = b) (h : CanInv key d p i q m) (hi : i < p.length) (hn : (!(getM m (key (p.getD i d))).isSome) = false) :
    m = mapOf key 0 (firsts (p.take (i + 1))) ∧ (getM m (key (p.getD i d))).getD 0 = (canon p).getD i 0 := by
  have hg := getM_mapOf hk (fs := firsts (p.take i)) (n := 0) (x := p.getD i d)
  rw [← h.map] at hg
  have hin : p.getD i d ∈ p.take i := by
    by_cases hm : p.getD i d ∈ p.take i
    · exact hm
    · rw [if_neg (fun h => hm (mem_firsts.1 h))] at hg; rw [hg] at hn; cases hn
  rw [if_pos (mem_firsts.2 hin)] at hg
  have hat := canon_at (d := d) hi
  rw [if_pos hin] at hat
  refine ⟨by rw [take_get (d := d) hi, firsts_snoc, if_pos hin, h.map], by rw [hg, hat]; simp⟩
theorem CanInv.done (h : CanInv key d p i q m) (hi : p.length ≤ i) : q = canon p := by
  refine List.ext_getElem (by rw [h.len, canon_length]) fun j h1 h2 => ?_
  have := h.val j (by have := h.len; omega)
  rwa [getD_eq h1, getD_eq h2] at this
end
theorem key1 : ∀ a b : Int, [a] = [b] → a = b := fun a b h => by cases h; rfl
theorem canonI_fn (p : List Int) (h : p.length ≤ 17592186044416) : QF 138 [.ro (.ints .i64 p)] (.new (.ints .i64 (canon p))) := mkQ Try.func138 (by decide +kernel) rfl (Nat.le_of_ble_eq_true rfl) fun _ => by
  refine And.intro (by omega) ?_
  refine And.intro (by omega) ?_
  refine Exists.intro [] <| lp3 (fun (i : Nat) (_ : List Int) (_ : List (List Int × Int)) => [(15, .int .i64 i)]) (fun _ q m => [(11, .vec 0 (.ints .i64 q) []), (12, .map (.int .i64) (some .i64) m)]) (fun i q m => CanInv (fun x => [x]) 0 p i q m) (fun i _ _ => p.length - i) 0 (List.replicate p.length 0) [] .start (by repeat' first | refine And.intro ?_ ?_ | exact True.intro | (show (_ : Int) = (_ : Int); omega) | omega | exact rfl | (simp only [RO.len]; omega)) ?_
  intro i q m H
  have hle := H.le
  have hlen := H.len
  have hml := H.mle
  refine And.intro (fun h1 => ?_) (fun h1 => ?_)
  · have hil : i < p.length := by omega
    refine And.intro (by omega) ?_
    refine And.intro (fun h2 => ?_) (fun h2 => ?_)
    · obtain ⟨e1, e2⟩ := H.isNew key1 hil h2
      refine And.intro (by omega) ?_
      refine And.intro (by omega) ?_
      refine And.intro (by omega) ?_
      refine And.intro (by omega) ?_
      exact nx (i + 1, q.set i m.length, _) (H.next hil e1 e2) (show p.length - (i + 1) < p.length - i by omega) (by repeat' first | refine And.intro ?_ ?_ | exact True.intro | (show (_ : Int) = (_ : Int); omega) | omega | exact rfl | (simp only [RO.len]; omega))
    · obtain ⟨e1, e2⟩ := H.isOld key1 hil h2
      refine And.intro (by omega) ?_
      refine And.intro (by omega) ?_
      refine And.intro (by omega) ?_
      exact nx (i + 1, q.set i _, m) (H.next hil e1 e2) (show p.length - (i + 1) < p.length - i by omega) (by repeat' first | refine And.intro ?_ ?_ | exact True.intro | (show (_ : Int) = (_ : Int); omega) | omega | exact rfl | (simp only [RO.len]; omega))
  · refine And.intro ?_ trivial
    refine And.intro (by omega) ?_
    rw [H.done (by omega)]
theorem Canonical_fn (p : List Int) : QF 65 [.ro (.ints .i64 p)] (.new (.ints .i64 (if p.length ≤ 4096 then canon p else []))) := mkQ Try.func65 (by decide +kernel) rfl (Nat.le_of_ble_eq_true rfl) fun _ => by
  refine And.intro (fun h1 => ?_) (fun h1 => ?_)
  · refine And.intro ?_ trivial
    rw [if_neg (by omega)]; rfl
  · refine Or.inl (cq (canonI_fn p (by omega)) (And.intro rfl trivial) ?_)
    refine And.intro ?_ trivial
    rw [if_pos (by omega)]
    exact And.intro rfl rfl
abbrev matchP (p q : List Int) : Prop := p.length = q.length ∧ validP p ∧ validP q
theorem pmatch_fn (p q : List Int) : QF 73 [.ro (.ints .i64 p), .ro (.ints .i64 q)] (.bool (.v (decide (matchP p q)))) := mkQ Try.func73 (by decide +kernel) rfl (Nat.le_of_ble_eq_true rfl) fun _ => by
  refine And.intro (fun h1 => ?_) (fun h1 => ?_)
  · refine Or.inl (cq (pvalid_fn p) (And.intro rfl trivial) ?_)
    refine And.intro (fun h2 => ?_) (fun h2 => ?_)
    · refine Or.inl (cq (pvalid_fn q) (And.intro rfl trivial) ?_)
      refine And.intro ?_ trivial
      show decide (validP q) = decide (matchP p q)
      have h2 := of_decide_eq_true h2
      have h3 : p.length = q.length := by omega
      simp [matchP, h2, h3]
    · refine And.intro ?_ trivial
      show false = decide (matchP p q)
      have h2 := of_decide_eq_false h2
      simp [matchP, h2]
  · refine And.intro ?_ trivial
    show false = decide (matchP p q)
    have h3 : p.length ≠ q.length := by omega
    simp [matchP, h3]
theorem pcount_fn (p : List Int) : QF 70 [.ro (.ints .i64 p)] (.int .i64 (if validP p then classN p else 0)) := mkQ Try.func70 (by decide +kernel) rfl (Nat.le_of_ble_eq_true rfl) fun _ => by
  refine Or.inl (cq (pvalid_fn p) (And.intro rfl trivial) ?_)
  refine And.intro (fun h1 => ?_) (fun h1 => ?_)
  · refine And.intro ?_ trivial
    have h1 : ¬ validP p := by simpa using h1
    rw [if_neg h1]; exact rfl
  have hv : validP p := by simpa using h1
  rw [if_pos hv]
  have hst := (validP_iff.1 hv).2
  have hlen := hv.1
  refine Exists.intro [] <| lp2 (fun (i : Nat) (c : Nat) => [(11, .int .i64 i), (3, .int .i64 c)]) (fun _ _ => []) (fun i c => i ≤ p.length ∧ c = (firsts (p.take i)).length) (fun i _ => p.length - i) 0 0 ⟨Nat.zero_le _, by simp [firsts]⟩ (by repeat' first | refine And.intro ?_ ?_ | exact True.intro | (show (_ : Int) = (_ : Int); omega) | omega | exact rfl | (simp only [RO.len]; omega)) ?_
  rintro i c ⟨hi, hc⟩
  refine And.intro (fun h1 => ?_) (fun h1 => ?_)
  · have hil : i < p.length := by omega
    have hs := hst i hil
    have hs1 : 0 ≤ p.getD i 0 := hs.1
    have hs2 : p.getD i 0 ≤ (firsts (p.take i)).length := hs.2
    have hfn := firsts_next hil (fun j hj => hst j (by omega)) hs
    have hle := firsts_le (p.take i)
    rw [List.length_take] at hle
    refine And.intro (by omega) ?_
    refine And.intro (show -9223372036854775808 ≤ p.getD i 0 + 1 ∧ p.getD i 0 + 1 ≤ 9223372036854775807 by omega) ?_
    refine And.intro (show -9223372036854775808 ≤ (i : Int) + 1 ∧ (i : Int) + 1 ≤ 9223372036854775807 by omega) ?_
    refine nx (i + 1, (firsts (p.take (i + 1))).length) ⟨by omega, rfl⟩ (show p.length - (i + 1) < p.length - i by omega) ?_
    refine And.intro (And.intro rfl ?_) trivial
    refine And.intro ?_ trivial
    show max (c : Int) (p.getD i 0 + 1) = ((firsts (p.take (i + 1))).length : Nat)
    rw [hfn]
    split <;> omega
  · refine And.intro ?_ trivial
    show (c : Int) = classN p
    have : p.take i = p := List.take_of_length_le (by omega)
    rw [hc, this]; rfl
def upTo (p : List Int) (i c : Nat) : List Int := ((List.range i).filter fun i => p.getD i 0 = (c : Int)).map fun (i : Nat) => (i : Int)
theorem upTo_zero (p : List Int) (c : Nat) : upTo p 0 c = [] := rfl
theorem upTo_le (p : List Int) (i c : Nat) : (upTo p i c).length ≤ i := by
  unfold upTo
  rw [List.length_map]
  exact Nat.le_trans (List.length_filter_le _ _) (by simp)
theorem upTo_here {p : List Int} {i c : Nat} (h : p.getD i 0 = c) : upTo p (i + 1) c = upTo p i c ++ [(i : Int)] := by
  unfold upTo
  rw [List.range_succ, List.filter_append, List.filter_cons, if_pos (by simpa using h)]
  simp
theorem upTo_there {p : List Int} {i c : Nat} (h : p.getD i 0 ≠ c) : upTo p (i + 1) c = upTo p i c := by
  unfold upTo
  rw [List.range_succ, List.filter_append, List.filter_cons, if_neg (by simpa using h)]
  simp
theorem rows_done {p : List Int} {n i : Nat} {l : List (List Int)} (hl : l.length = n) (h : ∀ k, k < n → l.getD k [] = upTo p i k) (hi : i = p.length) : l = classes n p := by
  refine List.ext_getElem (by rw [hl, classes_length]) fun j h1 h2 => ?_
  have := h j (by omega)
  rw [getD_eq h1] at this
  rw [this, ← getD_eq (d := []) h2, classes_getD (by omega), hi]; rfl
theorem rows_next {p : List Int} {n i : Nat} {l : List (List Int)} (hl : l.length = n) (h : ∀ k, k < n → l.getD k [] = upTo p i k) (hr : 0 ≤ p.getD i 0 ∧ p.getD i 0 < n) :
    ∀ k, k < n → (l.set (p.getD i 0).toNat (l.getD (p.getD i 0).toNat [] ++ [(i : Int)])).getD k [] = upTo p (i + 1) k := fun k hk => by
  by_cases hkc : k = (p.getD i 0).toNat
  · rw [← hkc, getD_set_eq (by omega), h k hk, upTo_here (by omega)]
  · rw [getD_set_ne (Ne.symm hkc), h k hk, upTo_there (by omega)]
theorem pclasses_no (p : List Int) (h : ¬ validP p) : QF 74 [.ro (.ints .i64 p)] .nils := mkQ Try.func74 (by decide +kernel) rfl (Nat.le_of_ble_eq_true rfl) fun _ => by
  refine Or.inl (cq (pvalid_fn p) (And.intro rfl trivial) ?_)
  refine And.intro (fun h1 => ?_) (fun h1 => ?_)
  · exact And.intro trivial trivial
  · have : validP p := by simpa using h1
    exact absurd this h
theorem pclasses_fn (p : List Int) (h : validP p) : QF 74 [.ro (.ints .i64 p)] (.ro (.rows .i64 (classes (classN p) p))) := mkQ Try.func74 (by decide +kernel) rfl (Nat.le_of_ble_eq_true rfl) fun _ => by
  have hlen := h.1
  have hrange : ∀ i, i < p.length → 0 ≤ p.getD i 0 ∧ p.getD i 0 < classN p := fun i hi => (valid_range h.2 _).2 (getD_mem hi)
  have hn : classN p ≤ p.length := firsts_le p
  refine Or.inl (cq (pvalid_fn p) (And.intro rfl trivial) ?_)
  refine And.intro (fun h1 => ?_) (fun h1 => ?_)
  · have : ¬ validP p := by simpa using h1
    exact absurd h this
  refine Or.inl (cq (pcount_fn p) (And.intro rfl trivial) ?_)
  rw [if_pos h]
  refine And.intro (by omega) ?_
  refine And.intro (by omega) ?_
  refine Or.inr (Or.inl ?_)
  refine Exists.intro [] <| lp2 (fun (i : Nat) (_ : List (List Int)) => [(14, .int .i64 i)]) (fun _ c => [(11, .deep (.rows .i64 c) none)]) (fun i c => i ≤ p.length ∧ c.length = classN p ∧ ∀ k, k < classN p → c.getD k [] = upTo p i k) (fun i _ => p.length - i) 0 (List.replicate (classN p) []) ⟨Nat.zero_le _, by simp, fun k hk => by rw [upTo_zero]; simp [List.getD, hk]⟩ (by repeat' first | refine And.intro ?_ ?_ | exact True.intro | (show (_ : Int) = (_ : Int); omega) | omega | exact rfl | (simp only [RO.len]; omega)) ?_
  rintro i c ⟨hi, hc, hs⟩
  refine And.intro (fun h1 => ?_) (fun h1 => ?_)
  · have hil : i < p.length := by omega
    have hr := hrange i hil
    have hle := upTo_le p i (p.getD i 0).toNat
    rw [← hs (p.getD i 0).toNat (by omega)] at hle
    refine And.intro (by omega) ?_
    refine And.intro (show 0 ≤ p.getD i 0 ∧ p.getD i 0 < (c.length : Int) by omega) ?_
    refine And.intro (show ((c.getD (p.getD i 0).toNat [] ++ [(i : Int)]).length : Int) ≤ 17592186044416 by rw [List.length_append, List.length_singleton]; omega) ?_
    refine And.intro (show 0 ≤ p.getD i 0 ∧ p.getD i 0 < (c.length : Int) by omega) ?_
    refine And.intro rfl ?_
    refine And.intro (show -9223372036854775808 ≤ (i : Int) + 1 ∧ (i : Int) + 1 ≤ 9223372036854775807 by omega) ?_
    exact nx (i + 1, c.set (p.getD i 0).toNat (c.getD (p.getD i 0).toNat [] ++ [(i : Int)])) ⟨by omega, by rw [List.length_set]; exact hc, rows_next hc hs hr⟩ (show p.length - (i + 1) < p.length - i by omega) (by repeat' first | refine And.intro ?_ ?_ | exact True.intro | (show (_ : Int) = (_ : Int); omega) | omega | exact rfl | (simp only [RO.len]; omega))
  · refine And.intro ?_ trivial
    refine And.intro trivial ?_
    rw [rows_done hc hs (by omega)]
end Go.Proofs.Ytjlkhjgnfnfmgaa
end
section
/- Rees matrix semigroups, in plain words: nothing of the program stands here. -/
namespace Go.Proofs.Ytjlkhjgnfnfmgaa
open Classical
theorem map_range_getD {α : Type} (f : Nat → α) (n i : Nat) (d : α) (h : i < n) : ((List.range n).map f).getD i d = f i := by
  simp [List.getD, h]
theorem ext_getD {α : Type} {l m : List α} (d : α) (hl : l.length = m.length) (h : ∀ i, i < l.length → l.getD i d = m.getD i d) : l = m := by
  refine List.ext_getElem hl fun i h1 h2 => ?_
  have := h i h1
  simpa [List.getD, h1, h2] using this
end Go.Proofs.Ytjlkhjgnfnfmgaa
end
section
/- The reference's partitions (semigroupref03) and relations of Green (semigroupref15): contracts. -/
namespace Go.Proofs.Ytjlkhjgnfnfmgaa
open Go Go.AM
set_option maxRecDepth 100000
def setB (n : Nat) (f : Nat → Bool) : List Bool := (List.range n).map f
theorem setB_len (n : Nat) (f : Nat → Bool) : (setB n f).length = n := by simp [setB]
theorem setB_get {n : Nat} {f : Nat → Bool} {x : Nat} (hx : x < n) : (setB n f).getD x false = f x := by
  unfold setB
  rw [List.getD, List.getElem?_map, List.getElem?_range hx]; rfl
end Go.Proofs.Ytjlkhjgnfnfmgaa
end
section
section
/- Plain: congruences of a table. -/
namespace Go.Proofs.Ytjlkhjgnfnfmgaa
def CgA (t : List (List Int)) (p : List Int) (side : Int) (x y s : Nat) : Prop :=
  (side ≠ 2 → p.getD (en t s x) 0 = p.getD (en t s y) 0) ∧ (side ≠ 1 → p.getD (en t x s) 0 = p.getD (en t y s) 0)
def Cg (t : List (List Int)) (p : List Int) (side : Int) : Prop := ∀ x y s, x < t.length → y < t.length → s < t.length → p.getD x 0 = p.getD y 0 → CgA t p side x y s
structure IsCg (t : List (List Int)) (p : List Int) (side : Int) : Prop where
  semi : Semi t
  len : p.length = t.length
  val : validP p
  sd : 0 ≤ side ∧ side ≤ 2
  cg : Cg t p side
noncomputable def cgB (t : List (List Int)) (p : List Int) (side : Int) : Bool := @decide (IsCg t p side) (Classical.propDecidable _)
theorem cgB_true {t : List (List Int)} {p : List Int} {side : Int} : cgB t p side = true ↔ IsCg t p side := by unfold cgB; exact @decide_eq_true_iff _ (Classical.propDecidable _)
theorem cgB_false {t : List (List Int)} {p : List Int} {side : Int} : cgB t p side = false ↔ ¬ IsCg t p side := by unfold cgB; exact @decide_eq_false_iff_not _ (Classical.propDecidable _)
theorem CgA.trans {t : List (List Int)} {p : List Int} {side : Int} {x y z s : Nat} (h : CgA t p side x y s) (h' : CgA t p side z y s) : CgA t p side x z s :=
  ⟨fun hs => (h.1 hs).trans (h'.1 hs).symm, fun hs => (h.2 hs).trans (h'.2 hs).symm⟩
end Go.Proofs.Ytjlkhjgnfnfmgaa
end
section
/- Package congr: which partitions are congruences: contract. -/
namespace Go.Proofs.Ytjlkhjgnfnfmgaa
open Go Go.AM
set_option maxRecDepth 100000
def FstOk (p : List Int) (i : Nat) (f : List Int) : Prop := f.length = (firsts (p.take i)).length ∧ ∀ c, c < f.length → 0 ≤ f.getD c 0 ∧ (f.getD c 0).toNat < i ∧ p.getD (f.getD c 0).toNat 0 = c
theorem valid_upto {p : List Int} {i : Nat} (hi : i < p.length) (hok : ∀ j, j < p.length → stepOk p j) : (firsts (p.take (i + 1))).length = if p.getD i 0 = (firsts (p.take i)).length then (firsts (p.take i)).length + 1 else (firsts (p.take i)).length :=
  firsts_next hi (fun j hj => hok j (by omega)) (hok i hi)
theorem firsts_mono {p : List Int} (hok : ∀ j, j < p.length → stepOk p j) : ∀ {i x : Nat}, i ≤ p.length → x < i → p.getD x 0 < ((firsts (p.take i)).length : Int)
  | 0, x, _, h => absurd h (Nat.not_lt_zero _)
  | i + 1, x, hi, h => by
    have h1 := valid_upto hi hok
    have h2 := hok i hi
    by_cases e : x = i
    · subst e
      rw [h1]
      have := h2.2
      split <;> omega
    · have := firsts_mono hok (by omega : i ≤ p.length) (by omega : x < i)
      rw [h1]
      split <;> omega
theorem FstOk.old {p : List Int} {i x : Nat} {f : List Int} (hok : ∀ j, j < p.length → stepOk p j) (hi : i ≤ p.length) (hf : FstOk p i f) (hx : x < i) : (p.getD x 0).toNat < f.length := by
  have := firsts_mono hok hi hx
  have := (hok x (by omega)).1
  rw [hf.1]; omega
theorem FstOk.new {p : List Int} {i : Nat} {f : List Int} (hok : ∀ j, j < p.length → stepOk p j) (hi : i < p.length) (hf : FstOk p i f) (h : p.getD i 0 = (f.length : Int)) : FstOk p (i + 1) (f ++ [(i : Int)]) := by
  refine ⟨by rw [valid_upto hi hok, if_pos (by rw [h, hf.1]), ← hf.1]; simp, fun c hc => ?_⟩
  by_cases e : c < f.length
  · have h1 := hf.2 c e
    have h2 : (f ++ [(i : Int)]).getD c 0 = f.getD c 0 := by simp [List.getD, List.getElem?_append_left e]
    rw [h2]; exact ⟨h1.1, by omega, h1.2.2⟩
  · have h1 : c = f.length := by simp at hc; omega
    subst h1
    have h2 : (f ++ [(i : Int)]).getD f.length 0 = i := by simp [List.getD]
    rw [h2]; exact ⟨by omega, by omega, by rw [Int.toNat_natCast, h]⟩
theorem FstOk.same {p : List Int} {i : Nat} {f : List Int} (hok : ∀ j, j < p.length → stepOk p j) (hi : i < p.length) (hf : FstOk p i f) (h : ¬ p.getD i 0 = (f.length : Int)) : FstOk p (i + 1) f := by
  refine ⟨by rw [valid_upto hi hok, if_neg (by rw [← hf.1]; exact h), ← hf.1], fun c hc => ?_⟩
  have h1 := hf.2 c hc
  exact ⟨h1.1, by omega, h1.2.2⟩
theorem getD_appL {l m : List Int} {k : Nat} (h : k < l.length) : (l ++ m).getD k 0 = l.getD k 0 := by simp [List.getD, List.getElem?_append_left h]
set_option maxHeartbeats 2000000 in
theorem cgr_k (t : List (List Int)) (p : List Int) (side : Int) (hl : p.length ≤ 140737488355328) : fnK TY SP Try.f26 [.ro (.rows .i64 t), .ro (.ints .i64 p), .int .i64 side] (.bool (.v (cgB t p side))) := by
  have no : ¬ IsCg t p side → (BE.lit false).val = (BE.v (cgB t p side)).val := fun h => (cgB_false.2 h).symm
  refine And.intro (fun h1 => ?_) (fun h1 => ?_)
  · refine And.intro (no fun h => by have := h.sd; omega) trivial
  refine And.intro (fun h2 => ?_) (fun h2 => ?_)
  · refine And.intro (no fun h => by have := h.sd; omega) trivial
  refine And.intro (fun h3 => ?_) (fun h3 => ?_)
  · refine And.intro (no fun h => by have := h.len; omega) trivial
  refine Or.inl (cq (pvalid_fn p) (And.intro rfl trivial) ?_)
  refine And.intro (fun h4 => ?_) (fun h4 => ?_)
  · refine And.intro (no fun h => ?_) trivial
    have h4 : (!decide (validP p)) = true := h4
    rw [decide_eq_true h.val] at h4; cases h4
  refine Or.inl (cq (valid_fn t) (And.intro rfl trivial) ?_)
  refine And.intro (fun h5 => ?_) (fun h5 => ?_)
  · refine And.intro (no fun h => h5 (valid_zero.2 h.semi)) trivial
  have hs := valid_zero.1 h5
  have hsh := hs.toSh
  have hmost := hs.most
  have hval : validP p := by simpa using h4
  have hlen : p.length = t.length := by omega
  have hok := (validP_iff.1 hval).2
  refine Exists.intro [] <| lp2 (fun (i : Nat) (f : List Int) => [(37, .int .i64 i), (7, .vec 49)]) (fun _ f => [(49, .vec 0 (.ints .i64 f) [])]) (fun i f => i ≤ p.length ∧ FstOk p i f ∧ ∀ x, x < i → ∀ s, s < t.length → CgA t p side x (f.getD (p.getD x 0).toNat 0).toNat s) (fun i _ => p.length - i) 0 [] ⟨Nat.zero_le _, ⟨rfl, fun c hc => absurd hc (Nat.not_lt_zero _)⟩, fun j hj => absurd hj (Nat.not_lt_zero _)⟩ (by repeat' first | refine And.intro ?_ ?_ | exact True.intro | (show (_ : Int) = (_ : Int); omega) | omega | exact rfl | (simp only [RO.len]; omega)) ?_
  rintro i f ⟨hi, hf, ha⟩
  refine And.intro (fun h1 => ?_) (fun h1 => ?_)
  · have hil : i < p.length := by omega
    have hit : i < t.length := by omega
    have hst := hok i hil
    have hfle : f.length ≤ i := by
      have := firsts_le (p.take i)
      rw [List.length_take] at this
      have := hf.1
      omega
    refine And.intro (by omega) ?_
    refine And.intro (fun h2 => ?_) (fun h2 => ?_)
    · have h2 : p.getD i 0 = (f.length : Int) := h2
      have hfl : (f ++ [(i : Int)]).length = f.length + 1 := by simp
      have hat : (f ++ [(i : Int)]).getD (p.getD i 0).toNat 0 = i := by
        rw [h2, Int.toNat_natCast]; simp [List.getD]
      have hn := FstOk.new hok hil hf h2
      refine And.intro (by omega) ?_
      refine And.intro (show 0 ≤ p.getD i 0 ∧ p.getD i 0 < ((f ++ [(i : Int)]).length : Int) by omega) ?_
      have hy : 0 ≤ (f ++ [(i : Int)]).getD (p.getD i 0).toNat 0 ∧ (f ++ [(i : Int)]).getD (p.getD i 0).toNat 0 < (t.length : Int) := by rw [hat]; omega
      have hpy : p.getD ((f ++ [(i : Int)]).getD (p.getD i 0).toNat 0).toNat 0 = p.getD i 0 := by rw [hat, Int.toNat_natCast]
      have hold : ∀ x, x < i → (f ++ [(i : Int)]).getD (p.getD x 0).toNat 0 = f.getD (p.getD x 0).toNat 0 := fun x hx => by
        have := FstOk.old hok (by omega) hf hx
        exact getD_appL this
      have hyN : ((f ++ [(i : Int)]).getD (p.getD i 0).toNat 0).toNat < t.length := by omega
      refine Exists.intro [] <| lp (X := Nat) (fun s => [(56, .int .i64 s)]) (fun _ => [(49, .vec 0 (.ints .i64 (f ++ [(i : Int)])) [])]) (fun s => s ≤ t.length ∧ ∀ s', s' < s → CgA t p side i ((f ++ [(i : Int)]).getD (p.getD i 0).toNat 0).toNat s') (fun s => t.length - s) 0 ⟨Nat.zero_le _, fun j hj => absurd hj (Nat.not_lt_zero _)⟩ (by repeat' first | refine And.intro ?_ ?_ | exact True.intro | (show (_ : Int) = (_ : Int); omega) | omega | exact rfl | (simp only [RO.len]; omega)) ?_
      rintro s ⟨hsn, hss⟩
      refine And.intro (fun h6 => ?_) (fun h6 => ?_)
      · have hsl : s < t.length := by omega
        have e1 := hsh.ent hsl hit
        have e2 := hsh.ent hsl hyN
        have e3 := hsh.ent hit hsl
        have e4 := hsh.ent hyN hsl
        have r1 := hsh.len hsl
        have r2 := hsh.len hit
        have r3 := hsh.len hyN
        have nxt : CgA t p side i ((f ++ [(i : Int)]).getD (p.getD i 0).toNat 0).toNat s → s + 1 ≤ t.length ∧ ∀ s', s' < s + 1 → CgA t p side i ((f ++ [(i : Int)]).getD (p.getD i 0).toNat 0).toNat s' := fun hc => ⟨by omega, fun s' hs' => by
          by_cases e : s' = s
          · subst e; exact hc
          · exact hss s' (by omega)⟩
        have bad1 : side ≠ 2 → p.getD (en t s i) 0 ≠ p.getD (en t s ((f ++ [(i : Int)]).getD (p.getD i 0).toNat 0).toNat) 0 → ¬ IsCg t p side := fun g1 g2 h => g2 ((h.cg i _ s hit hyN hsl hpy.symm).1 g1)
        have bad2 : side ≠ 1 → p.getD (en t i s) 0 ≠ p.getD (en t ((f ++ [(i : Int)]).getD (p.getD i 0).toNat 0).toNat s) 0 → ¬ IsCg t p side := fun g1 g2 h => g2 ((h.cg i _ s hit hyN hsl hpy.symm).2 g1)
        refine Or.inl ?_
        refine Exists.intro (List.replicate 52 false) (And.intro (by decide +kernel) ?_)
        refine And.intro (fun h7 => ?_) (fun h7 => ?_)
        · refine And.intro (by omega) ?_
          refine And.intro (show 0 ≤ (i : Int) ∧ (i : Int) < ((t.getD s []).length : Int) by omega) ?_
          refine And.intro (show 0 ≤ (t.getD s []).getD i 0 ∧ (t.getD s []).getD i 0 < (p.length : Int) by omega) ?_
          refine And.intro (by omega) ?_
          refine And.intro (show 0 ≤ (f ++ [(i : Int)]).getD (p.getD i 0).toNat 0 ∧ (f ++ [(i : Int)]).getD (p.getD i 0).toNat 0 < ((t.getD s []).length : Int) by omega) ?_
          refine And.intro (show 0 ≤ (t.getD s []).getD ((f ++ [(i : Int)]).getD (p.getD i 0).toNat 0).toNat 0 ∧ (t.getD s []).getD ((f ++ [(i : Int)]).getD (p.getD i 0).toNat 0).toNat 0 < (p.length : Int) by omega) ?_
          refine And.intro (fun h8 => ?_) (fun h8 => ?_)
          · refine And.intro (no (bad1 h7 h8)) trivial
          refine And.intro (fun h9 => ?_) (fun h9 => ?_)
          · refine And.intro (by omega) ?_
            refine And.intro (show 0 ≤ (s : Int) ∧ (s : Int) < ((t.getD i []).length : Int) by omega) ?_
            refine And.intro (show 0 ≤ (t.getD i []).getD s 0 ∧ (t.getD i []).getD s 0 < (p.length : Int) by omega) ?_
            refine And.intro hy ?_
            refine And.intro (show 0 ≤ (s : Int) ∧ (s : Int) < ((t.getD ((f ++ [(i : Int)]).getD (p.getD i 0).toNat 0).toNat []).length : Int) by omega) ?_
            refine And.intro (show 0 ≤ (t.getD ((f ++ [(i : Int)]).getD (p.getD i 0).toNat 0).toNat []).getD s 0 ∧ (t.getD ((f ++ [(i : Int)]).getD (p.getD i 0).toNat 0).toNat []).getD s 0 < (p.length : Int) by omega) ?_
            refine And.intro (fun h10 => ?_) (fun h10 => ?_)
            · refine And.intro (no (bad2 h9 h10)) trivial
            refine And.intro (by omega) ?_
            exact nx (s + 1) (nxt ⟨fun _ => h8, fun _ => h10⟩) (show t.length - (s + 1) < t.length - s by omega) (by repeat' first | refine And.intro ?_ ?_ | exact True.intro | (show (_ : Int) = (_ : Int); omega) | omega | exact rfl | (simp only [RO.len]; omega))
          · refine And.intro (by omega) ?_
            exact nx (s + 1) (nxt ⟨fun _ => h8, fun g => absurd h9 g⟩) (show t.length - (s + 1) < t.length - s by omega) (by repeat' first | refine And.intro ?_ ?_ | exact True.intro | (show (_ : Int) = (_ : Int); omega) | omega | exact rfl | (simp only [RO.len]; omega))
        · refine And.intro (fun h9 => ?_) (fun h9 => ?_)
          · refine And.intro (by omega) ?_
            refine And.intro (show 0 ≤ (s : Int) ∧ (s : Int) < ((t.getD i []).length : Int) by omega) ?_
            refine And.intro (show 0 ≤ (t.getD i []).getD s 0 ∧ (t.getD i []).getD s 0 < (p.length : Int) by omega) ?_
            refine And.intro hy ?_
            refine And.intro (show 0 ≤ (s : Int) ∧ (s : Int) < ((t.getD ((f ++ [(i : Int)]).getD (p.getD i 0).toNat 0).toNat []).length : Int) by omega) ?_
            refine And.intro (show 0 ≤ (t.getD ((f ++ [(i : Int)]).getD (p.getD i 0).toNat 0).toNat []).getD s 0 ∧ (t.getD ((f ++ [(i : Int)]).getD (p.getD i 0).toNat 0).toNat []).getD s 0 < (p.length : Int) by omega) ?_
            refine And.intro (fun h10 => ?_) (fun h10 => ?_)
            · refine And.intro (no (bad2 h9 h10)) trivial
            refine And.intro (by omega) ?_
            exact nx (s + 1) (nxt ⟨fun g => absurd h7 g, fun _ => h10⟩) (show t.length - (s + 1) < t.length - s by omega) (by repeat' first | refine And.intro ?_ ?_ | exact True.intro | (show (_ : Int) = (_ : Int); omega) | omega | exact rfl | (simp only [RO.len]; omega))
          · exact absurd (h7.symm.trans h9) (by decide)
      · refine And.intro (by omega) ?_
        refine nx (i + 1, (f ++ [(i : Int)])) ⟨by omega, hn, fun x hx s' hs' => ?_⟩ (show p.length - (i + 1) < p.length - i by omega) (by repeat' first | refine And.intro ?_ ?_ | exact True.intro | (show (_ : Int) = (_ : Int); omega) | omega | exact rfl | (simp only [RO.len]; omega))
        by_cases e : x = i
        · subst e; exact hss s' (by omega)
        · rw [hold x (by omega)]; exact ha x (by omega) s' hs'
    · have h2 : ¬ p.getD i 0 = (f.length : Int) := h2
      have hn := FstOk.same hok hil hf h2
      have hlt : (p.getD i 0).toNat < f.length := by have := hf.1; have := hst.1; have := hst.2; omega
      have h1y := hf.2 _ hlt
      refine And.intro (show 0 ≤ p.getD i 0 ∧ p.getD i 0 < (f.length : Int) by have := hst.1; omega) ?_
      have hy : 0 ≤ f.getD (p.getD i 0).toNat 0 ∧ f.getD (p.getD i 0).toNat 0 < (t.length : Int) := by omega
      have hpy : p.getD (f.getD (p.getD i 0).toNat 0).toNat 0 = p.getD i 0 := by have := hst.1; rw [h1y.2.2]; omega
      have hold : ∀ x, x < i → f.getD (p.getD x 0).toNat 0 = f.getD (p.getD x 0).toNat 0 := fun _ _ => rfl
      have hyN : (f.getD (p.getD i 0).toNat 0).toNat < t.length := by omega
      refine Exists.intro [] <| lp (X := Nat) (fun s => [(56, .int .i64 s)]) (fun _ => [(49, .vec 0 (.ints .i64 f) [])]) (fun s => s ≤ t.length ∧ ∀ s', s' < s → CgA t p side i (f.getD (p.getD i 0).toNat 0).toNat s') (fun s => t.length - s) 0 ⟨Nat.zero_le _, fun j hj => absurd hj (Nat.not_lt_zero _)⟩ (by repeat' first | refine And.intro ?_ ?_ | exact True.intro | (show (_ : Int) = (_ : Int); omega) | omega | exact rfl | (simp only [RO.len]; omega)) ?_
      rintro s ⟨hsn, hss⟩
      refine And.intro (fun h6 => ?_) (fun h6 => ?_)
      · have hsl : s < t.length := by omega
        have e1 := hsh.ent hsl hit
        have e2 := hsh.ent hsl hyN
        have e3 := hsh.ent hit hsl
        have e4 := hsh.ent hyN hsl
        have r1 := hsh.len hsl
        have r2 := hsh.len hit
        have r3 := hsh.len hyN
        have nxt : CgA t p side i (f.getD (p.getD i 0).toNat 0).toNat s → s + 1 ≤ t.length ∧ ∀ s', s' < s + 1 → CgA t p side i (f.getD (p.getD i 0).toNat 0).toNat s' := fun hc => ⟨by omega, fun s' hs' => by
          by_cases e : s' = s
          · subst e; exact hc
          · exact hss s' (by omega)⟩
        have bad1 : side ≠ 2 → p.getD (en t s i) 0 ≠ p.getD (en t s (f.getD (p.getD i 0).toNat 0).toNat) 0 → ¬ IsCg t p side := fun g1 g2 h => g2 ((h.cg i _ s hit hyN hsl hpy.symm).1 g1)
        have bad2 : side ≠ 1 → p.getD (en t i s) 0 ≠ p.getD (en t (f.getD (p.getD i 0).toNat 0).toNat s) 0 → ¬ IsCg t p side := fun g1 g2 h => g2 ((h.cg i _ s hit hyN hsl hpy.symm).2 g1)
        refine Or.inl ?_
        refine Exists.intro (List.replicate 52 false) (And.intro (by decide +kernel) ?_)
        refine And.intro (fun h7 => ?_) (fun h7 => ?_)
        · refine And.intro (by omega) ?_
          refine And.intro (show 0 ≤ (i : Int) ∧ (i : Int) < ((t.getD s []).length : Int) by omega) ?_
          refine And.intro (show 0 ≤ (t.getD s []).getD i 0 ∧ (t.getD s []).getD i 0 < (p.length : Int) by omega) ?_
          refine And.intro (by omega) ?_
          refine And.intro (show 0 ≤ f.getD (p.getD i 0).toNat 0 ∧ f.getD (p.getD i 0).toNat 0 < ((t.getD s []).length : Int) by omega) ?_
          refine And.intro (show 0 ≤ (t.getD s []).getD (f.getD (p.getD i 0).toNat 0).toNat 0 ∧ (t.getD s []).getD (f.getD (p.getD i 0).toNat 0).toNat 0 < (p.length : Int) by omega) ?_
          refine And.intro (fun h8 => ?_) (fun h8 => ?_)
          · refine And.intro (no (bad1 h7 h8)) trivial
          refine And.intro (fun h9 => ?_) (fun h9 => ?_)
          · refine And.intro (by omega) ?_
            refine And.intro (show 0 ≤ (s : Int) ∧ (s : Int) < ((t.getD i []).length : Int) by omega) ?_
            refine And.intro (show 0 ≤ (t.getD i []).getD s 0 ∧ (t.getD i []).getD s 0 < (p.length : Int) by omega) ?_
            refine And.intro hy ?_
            refine And.intro (show 0 ≤ (s : Int) ∧ (s : Int) < ((t.getD (f.getD (p.getD i 0).toNat 0).toNat []).length : Int) by omega) ?_
            refine And.intro (show 0 ≤ (t.getD (f.getD (p.getD i 0).toNat 0).toNat []).getD s 0 ∧ (t.getD (f.getD (p.getD i 0).toNat 0).toNat []).getD s 0 < (p.length : Int) by omega) ?_
            refine And.intro (fun h10 => ?_) (fun h10 => ?_)
            · refine And.intro (no (bad2 h9 h10)) trivial
            refine And.intro (by omega) ?_
            exact nx (s + 1) (nxt ⟨fun _ => h8, fun _ => h10⟩) (show t.length - (s + 1) < t.length - s by omega) (by repeat' first | refine And.intro ?_ ?_ | exact True.intro | (show (_ : Int) = (_ : Int); omega) | omega | exact rfl | (simp only [RO.len]; omega))
          · refine And.intro (by omega) ?_
            exact nx (s + 1) (nxt ⟨fun _ => h8, fun g => absurd h9 g⟩) (show t.length - (s + 1) < t.length - s by omega) (by repeat' first | refine And.intro ?_ ?_ | exact True.intro | (show (_ : Int) = (_ : Int); omega) | omega | exact rfl | (simp only [RO.len]; omega))
        · refine And.intro (fun h9 => ?_) (fun h9 => ?_)
          · refine And.intro (by omega) ?_
            refine And.intro (show 0 ≤ (s : Int) ∧ (s : Int) < ((t.getD i []).length : Int) by omega) ?_
            refine And.intro (show 0 ≤ (t.getD i []).getD s 0 ∧ (t.getD i []).getD s 0 < (p.length : Int) by omega) ?_
            refine And.intro hy ?_
            refine And.intro (show 0 ≤ (s : Int) ∧ (s : Int) < ((t.getD (f.getD (p.getD i 0).toNat 0).toNat []).length : Int) by omega) ?_
            refine And.intro (show 0 ≤ (t.getD (f.getD (p.getD i 0).toNat 0).toNat []).getD s 0 ∧ (t.getD (f.getD (p.getD i 0).toNat 0).toNat []).getD s 0 < (p.length : Int) by omega) ?_
            refine And.intro (fun h10 => ?_) (fun h10 => ?_)
            · refine And.intro (no (bad2 h9 h10)) trivial
            refine And.intro (by omega) ?_
            exact nx (s + 1) (nxt ⟨fun g => absurd h7 g, fun _ => h10⟩) (show t.length - (s + 1) < t.length - s by omega) (by repeat' first | refine And.intro ?_ ?_ | exact True.intro | (show (_ : Int) = (_ : Int); omega) | omega | exact rfl | (simp only [RO.len]; omega))
          · exact absurd (h7.symm.trans h9) (by decide)
      · refine And.intro (by omega) ?_
        refine nx (i + 1, f) ⟨by omega, hn, fun x hx s' hs' => ?_⟩ (show p.length - (i + 1) < p.length - i by omega) (by repeat' first | refine And.intro ?_ ?_ | exact True.intro | (show (_ : Int) = (_ : Int); omega) | omega | exact rfl | (simp only [RO.len]; omega))
        by_cases e : x = i
        · subst e; exact hss s' (by omega)
        · rw [hold x (by omega)]; exact ha x (by omega) s' hs'
  · refine And.intro ?_ trivial
    have hip : i = p.length := by omega
    subst hip
    refine (cgB_true.2 ⟨hs, hlen, hval, ⟨by omega, by omega⟩, fun x y s hx hy hsl hxy => ?_⟩).symm
    have h1 := ha x (by omega) s hsl
    have h2 := ha y (by omega) s hsl
    rw [hxy] at h1
    exact h1.trans h2
theorem cgr_fn (t : List (List Int)) (p : List Int) (side : Int) : QF 26 [.ro (.rows .i64 t), .ro (.ints .i64 p), .int .i64 side] (.bool (.v (cgB t p side))) := mkQ Try.func26 (by decide +kernel) rfl (Nat.le_of_ble_eq_true rfl) fun hf => cgr_k t p side hf.2.1.1
end Go.Proofs.Ytjlkhjgnfnfmgaa
end
section
/- The references of chapters 3 and 19: valid partitions, congruences: contracts. -/
namespace Go.Proofs.Ytjlkhjgnfnfmgaa
open Go Go.AM
set_option maxRecDepth 100000
end Go.Proofs.Ytjlkhjgnfnfmgaa
end
end
