import Derived.Test.YtpanlghofeebhaaEqvLaw
import Derived.Test.YtpanlghofeebhaaGroup
section
/- Package partition: its contracts (Valid, canonical, Canonical, matching, Count, Classes, Meet). -/
namespace Go.Proofs.Ytpanlghofeebhaa
open Go Go.AM
set_option maxRecDepth 100000
theorem validP_iff {p : List Int} : validP p ↔ p.length ≤ 4096 ∧ ∀ i, i < p.length → stepOk p i := by
  unfold validP; rw [canon_fix]
theorem valid_no {p : List Int} {i : Nat} (hi : i < p.length) (h : ¬ stepOk p i) : (BE.lit false).val = (BE.v (decide (validP p))).val := by
  show false = decide (validP p)
  symm
  rw [decide_eq_false_iff_not, validP_iff]
  exact fun hv => h (hv.2 i hi)
theorem step_next {p : List Int} {i : Nat} (_hi : i < p.length) (hs : ∀ j, j < i → stepOk p j) (h : stepOk p i) : ∀ j, j < i + 1 → stepOk p j := fun j hj => by
  by_cases hji : j < i
  · exact hs j hji
  · have : j = i := by omega
    rw [this]; exact h
theorem firsts_next {p : List Int} {i : Nat} (hi : i < p.length) (hs : ∀ j, j < i → stepOk p j) (h : stepOk p i) : (firsts (p.take (i + 1))).length = if p.getD i 0 = (firsts (p.take i)).length then (firsts (p.take i)).length + 1 else (firsts (p.take i)).length := by
  have hf := firsts_valid (Nat.le_of_lt hi) hs
  have hr := firsts_range hf (p.getD i 0)
  rw [take_get (d := 0) hi, firsts_snoc]
  have h1 := h.1
  have h2 := h.2
  by_cases hm : p.getD i 0 ∈ p.take i
  · rw [if_pos hm, if_neg]
    have := (hr.2 hm).2
    omega
  · rw [if_neg hm, if_pos]
    · simp
    · by_cases hlt : p.getD i 0 < (firsts (p.take i)).length
      · exact absurd (hr.1 ⟨h1, hlt⟩) hm
      · omega
theorem pvalid_fn (p : List Int) : QF 58 [.ro (.ints .i64 p)] (.bool (.v (decide (validP p)))) := mkQ Try.func58 (by decide +kernel) rfl (Nat.le_of_ble_eq_true rfl) fun _ => by
  refine And.intro (fun h1 => ?_) (fun h1 => ?_)
  · refine And.intro ?_ trivial
    show false = decide (validP p)
    symm
    rw [decide_eq_false_iff_not]
    exact fun hv => by have := hv.1; omega
  refine Exists.intro [] <| lp2 (fun (i : Nat) (c : Nat) => [(11, .int .i64 i), (3, .int .i64 c)]) (fun _ _ => []) (fun i c => i ≤ p.length ∧ c = (firsts (p.take i)).length ∧ ∀ j, j < i → stepOk p j) (fun i _ => p.length - i) 0 0 ⟨Nat.zero_le _, by simp [firsts], fun j hj => absurd hj (Nat.not_lt_zero _)⟩ (by repeat' first | refine And.intro ?_ ?_ | exact True.intro | (show (_ : Int) = (_ : Int); omega) | omega | exact rfl | (simp only [RO.len]; omega)) ?_
  rintro i c ⟨hi, hc, hs⟩
  refine And.intro (fun h1 => ?_) (fun h1 => ?_)
  · have hil : i < p.length := by omega
    refine And.intro (by omega) ?_
    refine And.intro (fun h2 => ?_) (fun h2 => ?_)
    · refine And.intro ?_ trivial
      have h2 : p.getD i 0 < 0 := h2
      exact valid_no hil fun h => by have := h.1; omega
    refine And.intro (fun h3 => ?_) (fun h3 => ?_)
    · refine And.intro ?_ trivial
      have h3 : (c : Int) < p.getD i 0 := h3
      exact valid_no hil fun h => by have := h.2; omega
    have h2 : 0 ≤ p.getD i 0 := h2
    have h3 : p.getD i 0 ≤ (c : Int) := h3
    have hok : stepOk p i := ⟨h2, by rw [← hc]; exact h3⟩
    have hfn := firsts_next hil hs hok
    have hle : c ≤ p.length := by
      have := firsts_le (p.take i)
      rw [List.length_take] at this; omega
    refine And.intro (fun h4 => ?_) (fun h4 => ?_)
    · have h4 : p.getD i 0 = (c : Int) := h4
      refine And.intro (by omega) ?_
      refine And.intro (by omega) ?_
      refine nx (i + 1, c + 1) ⟨by omega, ?_, step_next hil hs hok⟩ (show p.length - (i + 1) < p.length - i by omega) (by repeat' first | refine And.intro ?_ ?_ | exact True.intro | (show (_ : Int) = (_ : Int); omega) | omega | exact rfl | (simp only [RO.len]; omega))
      rw [hfn, if_pos (by rw [h4, hc]), hc]
    · have h4 : p.getD i 0 ≠ (c : Int) := h4
      refine And.intro (by omega) ?_
      refine nx (i + 1, c) ⟨by omega, ?_, step_next hil hs hok⟩ (show p.length - (i + 1) < p.length - i by omega) (by repeat' first | refine And.intro ?_ ?_ | exact True.intro | (show (_ : Int) = (_ : Int); omega) | omega | exact rfl | (simp only [RO.len]; omega))
      rw [hfn, if_neg (by rw [← hc]; exact h4), hc]
  · refine And.intro ?_ trivial
    show true = decide (validP p)
    symm
    rw [decide_eq_true_eq, validP_iff]
    exact ⟨by omega, fun j hj => hs j (by omega)⟩
structure CanInv {α : Type} [DecidableEq α] (key : α → List Int) (d : α) (p : List α) (i : Nat) (q : List Int) (m : List (List Int × Int)) : Prop where
  le : i ≤ p.length
  len : q.length = p.length
  map : m = mapOf key 0 (firsts (p.take i))
  val : ∀ j, j < i → q.getD j 0 = (canon p).getD j 0
section
variable {α : Type} [DecidableEq α] {key : α → List Int} {d : α} {p : List α} {i : Nat} {q : List Int} {m : List (List Int × Int)}
theorem CanInv.start : CanInv key d p 0 (List.replicate p.length 0) [] := ⟨Nat.zero_le _, by simp, by simp [firsts, mapOf], fun j hj => absurd hj (Nat.not_lt_zero _)⟩
theorem CanInv.mlen (h : CanInv key d p i q m) : m.length = (firsts (p.take i)).length := by rw [h.map, mapOf_length]
theorem CanInv.mle (h : CanInv key d p i q m) : m.length ≤ p.length := by
  rw [h.mlen]
  have := firsts_le (p.take i)
  rw [List.length_take] at this; omega
theorem CanInv.next (h : CanInv key d p i q m) (hi : i < p.length) {v : Int} {m' : List (List Int × Int)} (hm : m' = mapOf key 0 (firsts (p.take (i + 1)))) (hv : v = (canon p).getD i 0) : CanInv key d p (i + 1) (q.set i v) m' :=
  ⟨by omega, by rw [List.length_set]; exact h.len, hm, fun j hj => by
    by_cases hji : j = i
    · subst hji; rw [getD_set_eq (by rw [h.len]; exact hi), hv]
    · rw [getD_set_ne (Ne.symm hji)]; exact h.val j (by omega)⟩
theorem CanInv.isNew (hk : ∀ a b, key a = key b → a = b) (h : CanInv key d p i q m) (hi : i < p.length) (hn : (!(getM m (key (p.getD i d))).isSome) = true) :
    setM m (key (p.getD i d)) m.length = mapOf key 0 (firsts (p.take (i + 1))) ∧ (m.length : Int) = (canon p).getD i 0 := by
  have hg := getM_mapOf hk (fs := firsts (p.take i)) (n := 0) (x := p.getD i d)
  rw [← h.map] at hg
  have hnone : p.getD i d ∉ p.take i := fun hm => by rw [if_pos (mem_firsts.2 hm)] at hg; rw [hg] at hn; cases hn
  rw [if_neg (fun hm => hnone (mem_firsts.1 hm))] at hg
  have hat := canon_at (d := d) hi
  rw [if_neg hnone] at hat
  refine ⟨?_, by rw [hat, h.mlen]⟩
  rw [setM_new hg, take_get (d := d) hi, firsts_snoc, if_neg hnone, mapOf_snoc, h.map, mapOf_length]
theorem CanInv.isOld (hk : ∀ a b, key a = key b → a = b) (h : CanInv key d p i q m) (hi : i < p.length) (hn : (!(getM m (key (p.getD i d))).isSome) = false) :
    m = mapOf key 0 (firsts (p.take (i + 1))) ∧ (getM m (key (p.getD i d))).getD 0 = (canon p).getD i 0 := by
  have hg := getM_mapOf hk (fs := firsts (p.take i)) (n := 0) (x := p.getD i d)
  rw [← h.map] at hg
  have hin : p.getD i d ∈ p.take i := by
    by_cases hm : p.getD i d ∈ p.take i
    · exact hm
    · rw [if_neg (fun h => hm (mem_firsts.1 h))] at hg; rw [hg] at hn; cases hn
  rw [if_pos (mem_firsts.2 hin)] at hg
  have hat := canon_at (d := d) hi
  rw [if_pos hin] at hat
  refine ⟨by rw [take_get (d := d) hi, firsts_snoc, if_pos hin, h.map], by rw [hg, hat]; simp⟩
theorem CanInv.done (h : CanInv key d p i q m) (hi : p.length ≤ i) : q = canon p := by
  refine List.ext_getElem (by rw [h.len, canon_length]) fun j h1 h2 => ?_
  have := h.val j (by have := h.len; omega)
  rwa [getD_eq h1, getD_eq h2] at this
end
theorem key1 : ∀ a b : Int, [a] = [b] → a = b := fun a b h => by cases h; rfl
theorem canonI_fn (p : List Int) (h : p.length ≤ 17592186044416) : QF 105 [.ro (.ints .i64 p)] (.new (.ints .i64 (canon p))) := mkQ Try.func105 (by decide +kernel) rfl (Nat.le_of_ble_eq_true rfl) fun _ => by
  refine And.intro (by omega) ?_
  refine And.intro (by omega) ?_
  refine Exists.intro [] <| lp3 (fun (i : Nat) (_ : List Int) (_ : List (List Int × Int)) => [(15, .int .i64 i)]) (fun _ q m => [(11, .vec 0 (.ints .i64 q) []), (12, .map (.int .i64) (some .i64) m)]) (fun i q m => CanInv (fun x => [x]) 0 p i q m) (fun i _ _ => p.length - i) 0 (List.replicate p.length 0) [] .start (by repeat' first | refine And.intro ?_ ?_ | exact True.intro | (show (_ : Int) = (_ : Int); omega) | omega | exact rfl | (simp only [RO.len]; omega)) ?_
  intro i q m H
  have hle := H.le
  have hlen := H.len
  have hml := H.mle
  refine And.intro (fun h1 => ?_) (fun h1 => ?_)
  · have hil : i < p.length := by omega
    refine And.intro (by omega) ?_
    refine And.intro (fun h2 => ?_) (fun h2 => ?_)
    · obtain ⟨e1, e2⟩ := H.isNew key1 hil h2
      refine And.intro (by omega) ?_
      refine And.intro (by omega) ?_
      refine And.intro (by omega) ?_
      refine And.intro (by omega) ?_
      exact nx (i + 1, q.set i m.length, _) (H.next hil e1 e2) (show p.length - (i + 1) < p.length - i by omega) (by repeat' first | refine And.intro ?_ ?_ | exact True.intro | (show (_ : Int) = (_ : Int); omega) | omega | exact rfl | (simp only [RO.len]; omega))
    · obtain ⟨e1, e2⟩ := H.isOld key1 hil h2
      refine And.intro (by omega) ?_
      refine And.intro (by omega) ?_
      refine And.intro (by omega) ?_
      exact nx (i + 1, q.set i _, m) (H.next hil e1 e2) (show p.length - (i + 1) < p.length - i by omega) (by repeat' first | refine And.intro ?_ ?_ | exact True.intro | (show (_ : Int) = (_ : Int); omega) | omega | exact rfl | (simp only [RO.len]; omega))
  · refine And.intro ?_ trivial
    refine And.intro (by omega) ?_
    rw [H.done (by omega)]
theorem Canonical_fn (p : List Int) : QF 86 [.ro (.ints .i64 p)] (.new (.ints .i64 (if p.length ≤ 4096 then canon p else []))) := mkQ Try.func86 (by decide +kernel) rfl (Nat.le_of_ble_eq_true rfl) fun _ => by
  refine And.intro (fun h1 => ?_) (fun h1 => ?_)
  · refine And.intro ?_ trivial
    rw [if_neg (by omega)]; rfl
  · refine Or.inl (cq (canonI_fn p (by omega)) (And.intro rfl trivial) ?_)
    refine And.intro ?_ trivial
    rw [if_pos (by omega)]
    exact And.intro rfl rfl
theorem pcount_fn (p : List Int) : QF 103 [.ro (.ints .i64 p)] (.int .i64 (if validP p then classN p else 0)) := mkQ Try.func103 (by decide +kernel) rfl (Nat.le_of_ble_eq_true rfl) fun _ => by
  refine Or.inl (cq (pvalid_fn p) (And.intro rfl trivial) ?_)
  refine And.intro (fun h1 => ?_) (fun h1 => ?_)
  · refine And.intro ?_ trivial
    have h1 : ¬ validP p := by simpa using h1
    rw [if_neg h1]; exact rfl
  have hv : validP p := by simpa using h1
  rw [if_pos hv]
  have hst := (validP_iff.1 hv).2
  have hlen := hv.1
  refine Exists.intro [] <| lp2 (fun (i : Nat) (c : Nat) => [(11, .int .i64 i), (3, .int .i64 c)]) (fun _ _ => []) (fun i c => i ≤ p.length ∧ c = (firsts (p.take i)).length) (fun i _ => p.length - i) 0 0 ⟨Nat.zero_le _, by simp [firsts]⟩ (by repeat' first | refine And.intro ?_ ?_ | exact True.intro | (show (_ : Int) = (_ : Int); omega) | omega | exact rfl | (simp only [RO.len]; omega)) ?_
  rintro i c ⟨hi, hc⟩
  refine And.intro (fun h1 => ?_) (fun h1 => ?_)
  · have hil : i < p.length := by omega
    have hs := hst i hil
    have hs1 : 0 ≤ p.getD i 0 := hs.1
    have hs2 : p.getD i 0 ≤ (firsts (p.take i)).length := hs.2
    have hfn := firsts_next hil (fun j hj => hst j (by omega)) hs
    have hle := firsts_le (p.take i)
    rw [List.length_take] at hle
    refine And.intro (by omega) ?_
    refine And.intro (show -9223372036854775808 ≤ p.getD i 0 + 1 ∧ p.getD i 0 + 1 ≤ 9223372036854775807 by omega) ?_
    refine And.intro (show -9223372036854775808 ≤ (i : Int) + 1 ∧ (i : Int) + 1 ≤ 9223372036854775807 by omega) ?_
    refine nx (i + 1, (firsts (p.take (i + 1))).length) ⟨by omega, rfl⟩ (show p.length - (i + 1) < p.length - i by omega) ?_
    refine And.intro (And.intro rfl ?_) trivial
    refine And.intro ?_ trivial
    show max (c : Int) (p.getD i 0 + 1) = ((firsts (p.take (i + 1))).length : Nat)
    rw [hfn]
    split <;> omega
  · refine And.intro ?_ trivial
    show (c : Int) = classN p
    have : p.take i = p := List.take_of_length_le (by omega)
    rw [hc, this]; rfl
end Go.Proofs.Ytpanlghofeebhaa
end
section
/- Rees matrix semigroups, in plain words: nothing of the program stands here. -/
namespace Go.Proofs.Ytpanlghofeebhaa
open Classical
theorem ext_getD {α : Type} {l m : List α} (d : α) (hl : l.length = m.length) (h : ∀ i, i < l.length → l.getD i d = m.getD i d) : l = m := by
  refine List.ext_getElem hl fun i h1 h2 => ?_
  have := h i h1
  simpa [List.getD, h1, h2] using this
end Go.Proofs.Ytpanlghofeebhaa
end
section
/- The reference's partitions (semigroupref03) and relations of Green (semigroupref15): contracts. -/
namespace Go.Proofs.Ytpanlghofeebhaa
open Go Go.AM
set_option maxRecDepth 100000
theorem rcanon_fn (p : List Int) : QF 110 [.ro (.ints .i64 p)] (.new (.ints .i64 (if p.length ≤ 4096 then canon p else []))) := mkQ Try.func110 (by decide +kernel) rfl (Nat.le_of_ble_eq_true rfl) fun _ => by
  refine And.intro (fun h1 => ?_) (fun h1 => ?_)
  · refine And.intro ?_ trivial
    rw [if_neg (by omega)]; rfl
  rw [if_pos (by omega)]
  refine And.intro (by omega) ?_
  refine And.intro (by omega) ?_
  refine Exists.intro [] <| lp3 (fun (i : Nat) (_ : List Int) (m : List (List Int × Int)) => [(19, .int .i64 i), (4, .int .i64 m.length)]) (fun _ q m => [(15, .vec 0 (.ints .i64 q) []), (16, .map (.int .i64) (some .i64) m)]) (fun i q m => CanInv (fun x => [x]) 0 p i q m) (fun i _ _ => p.length - i) 0 (List.replicate p.length 0) [] .start (by repeat' first | refine And.intro ?_ ?_ | exact True.intro | (show (_ : Int) = (_ : Int); omega) | omega | exact rfl | (simp only [RO.len]; omega)) ?_
  intro i q m H
  have hle := H.le
  have hlen := H.len
  have hml := H.mle
  refine And.intro (fun h2 => ?_) (fun h2 => ?_)
  · have hil : i < p.length := by omega
    refine And.intro (by omega) ?_
    refine And.intro (fun h3 => ?_) (fun h3 => ?_)
    · obtain ⟨e1, e2⟩ := H.isNew key1 hil h3
      have e3 : (setM m [p.getD i 0] m.length).length = m.length + 1 := by
        have : getM m [p.getD i 0] = none := by
          have h3 : (!(getM m [p.getD i 0]).isSome) = true := h3
          cases hg : getM m [p.getD i 0] with
          | none => rfl
          | some v => rw [hg] at h3; cases h3
        rw [setM_new this]; simp
      refine And.intro (by omega) ?_
      refine And.intro (by omega) ?_
      refine And.intro (by omega) ?_
      refine And.intro (by omega) ?_
      refine nx (i + 1, q.set i m.length, setM m [p.getD i 0] m.length) (H.next hil e1 e2) (show p.length - (i + 1) < p.length - i by omega) ?_
      refine And.intro (And.intro rfl (And.intro ?_ trivial)) ?_
      · show (m.length : Int) + 1 = ((setM m [p.getD i 0] m.length).length : Int)
        rw [e3]; rfl
      · repeat' first | refine And.intro ?_ ?_ | exact True.intro | (show (_ : Int) = (_ : Int); omega) | omega | exact rfl | (simp only [RO.len]; omega)
    · obtain ⟨e1, e2⟩ := H.isOld key1 hil h3
      refine And.intro (by omega) ?_
      refine And.intro (by omega) ?_
      refine And.intro (by omega) ?_
      exact nx (i + 1, q.set i _, m) (H.next hil e1 e2) (show p.length - (i + 1) < p.length - i by omega) (by repeat' first | refine And.intro ?_ ?_ | exact True.intro | (show (_ : Int) = (_ : Int); omega) | omega | exact rfl | (simp only [RO.len]; omega))
  · refine And.intro ?_ trivial
    refine And.intro (by omega) ?_
    rw [H.done (by omega)]
def setB (n : Nat) (f : Nat → Bool) : List Bool := (List.range n).map f
end Go.Proofs.Ytpanlghofeebhaa
end
section
/- The reference of Rees matrix semigroups: its contracts. -/
namespace Go.Proofs.Ytpanlghofeebhaa
open Go Go.AM
set_option maxRecDepth 100000
theorem same_k (a b : List Int) (ha : a.length ≤ 140737488355328) (_hb : b.length ≤ 140737488355328) : fnK TY SP Try.f16 [.ro (.ints .i64 a), .ro (.ints .i64 b)] (.bool (.v (decide (a = b)))) := by
  refine And.intro (fun h1 => ?_) (fun h1 => ?_)
  · refine And.intro ?_ trivial
    show false = decide (a = b)
    rw [decide_eq_false (fun e => h1 (by rw [e]))]
  refine Exists.intro [] <| lp (X := Nat) (fun k => [(13, .int .i64 k)]) (fun _ => []) (fun k => k ≤ a.length ∧ ∀ j, j < k → a.getD j 0 = b.getD j 0) (fun k => a.length - k) 0 ⟨Nat.zero_le _, by omega⟩ (by repeat' first | refine And.intro ?_ ?_ | exact True.intro | (show (_ : Int) = (_ : Int); omega) | omega | exact rfl | (simp only [RO.len]; omega)) ?_
  intro k hk
  refine And.intro (fun h2 => ?_) (fun h2 => ?_)
  · refine Or.inl <| Exists.intro [false, false, false, false, false, false, false, false, false] (And.intro (by decide +kernel) ?_)
    refine And.intro (by omega) ?_
    refine And.intro (by omega) ?_
    refine And.intro (fun h3 => ?_) (fun h3 => ?_)
    · refine And.intro ?_ trivial
      show false = decide (a = b)
      rw [decide_eq_false (fun e => h3 (by rw [e]))]
    · refine And.intro (by omega) ?_
      refine nx (k + 1) ⟨by omega, fun j hj => ?_⟩ (show a.length - (k + 1) < a.length - k by omega) (by repeat' first | refine And.intro ?_ ?_ | exact True.intro | (show (_ : Int) = (_ : Int); omega) | omega | exact rfl | (simp only [RO.len]; omega))
      by_cases hjk : j < k
      · exact hk.2 j hjk
      · have : j = k := by omega
        rw [this]; exact h3
  · refine And.intro ?_ trivial
    show true = decide (a = b)
    rw [decide_eq_true (ext_getD 0 (by omega) fun i hi => hk.2 i (by omega))]
theorem same_fn (a b : List Int) : QF 16 [.ro (.ints .i64 a), .ro (.ints .i64 b)] (.bool (.v (decide (a = b)))) := mkQ Try.func16 (by decide +kernel) rfl (Nat.le_of_ble_eq_true rfl) fun hf => same_k a b hf.1.1 hf.2.1.1
theorem sameRows_k (a b : List (List Int)) (ha : a.length ≤ 140737488355328) (_hb : b.length ≤ 140737488355328) : fnK TY SP Try.f23 [.ro (.rows .i64 a), .ro (.rows .i64 b)] (.bool (.v (decide (a = b)))) := by
  refine And.intro (fun h1 => ?_) (fun h1 => ?_)
  · refine And.intro ?_ trivial
    show false = decide (a = b)
    rw [decide_eq_false (fun e => h1 (by rw [e]))]
  refine Exists.intro [] <| lp (X := Nat) (fun k => [(13, .int .i64 k)]) (fun _ => []) (fun k => k ≤ a.length ∧ ∀ j, j < k → a.getD j [] = b.getD j []) (fun k => a.length - k) 0 ⟨Nat.zero_le _, by omega⟩ (by repeat' first | refine And.intro ?_ ?_ | exact True.intro | (show (_ : Int) = (_ : Int); omega) | omega | exact rfl | (simp only [RO.len]; omega)) ?_
  intro k hk
  refine And.intro (fun h2 => ?_) (fun h2 => ?_)
  · refine Or.inl <| Exists.intro [false, false, false, false, false, false, false, false, false, false] (And.intro (by decide +kernel) ?_)
    refine And.intro (by omega) ?_
    refine And.intro (by omega) ?_
    refine cq (same_fn (a.getD k []) (b.getD k [])) (And.intro rfl (And.intro rfl trivial)) ?_
    refine And.intro (fun h3 => ?_) (fun h3 => ?_)
    · refine And.intro ?_ trivial
      show false = decide (a = b)
      rw [decide_eq_false (fun e => by rw [e] at h3; simp at h3)]
    · refine And.intro (by omega) ?_
      refine nx (k + 1) ⟨by omega, fun j hj => ?_⟩ (show a.length - (k + 1) < a.length - k by omega) (by repeat' first | refine And.intro ?_ ?_ | exact True.intro | (show (_ : Int) = (_ : Int); omega) | omega | exact rfl | (simp only [RO.len]; omega))
      by_cases hjk : j < k
      · exact hk.2 j hjk
      · have : j = k := by omega
        rw [this]; simpa using h3
  · refine And.intro ?_ trivial
    show true = decide (a = b)
    rw [decide_eq_true (ext_getD [] (by omega) fun i hi => hk.2 i (by omega))]
theorem sameRows_fn (a b : List (List Int)) : QF 23 [.ro (.rows .i64 a), .ro (.rows .i64 b)] (.bool (.v (decide (a = b)))) := mkQ Try.func23 (by decide +kernel) rfl (Nat.le_of_ble_eq_true rfl) fun hf => sameRows_k a b hf.1.1 hf.2.1.1
end Go.Proofs.Ytpanlghofeebhaa
end
section
section
/- Plain: congruences of a table. -/
namespace Go.Proofs.Ytpanlghofeebhaa
def CgA (t : List (List Int)) (p : List Int) (side : Int) (x y s : Nat) : Prop :=
  (side ≠ 2 → p.getD (en t s x) 0 = p.getD (en t s y) 0) ∧ (side ≠ 1 → p.getD (en t x s) 0 = p.getD (en t y s) 0)
def Cg (t : List (List Int)) (p : List Int) (side : Int) : Prop := ∀ x y s, x < t.length → y < t.length → s < t.length → p.getD x 0 = p.getD y 0 → CgA t p side x y s
structure IsCg (t : List (List Int)) (p : List Int) (side : Int) : Prop where
  semi : Semi t
  len : p.length = t.length
  val : validP p
  sd : 0 ≤ side ∧ side ≤ 2
  cg : Cg t p side
end Go.Proofs.Ytpanlghofeebhaa
end
section
/- Package congr: which partitions are congruences: contract. -/
namespace Go.Proofs.Ytpanlghofeebhaa
open Go Go.AM
set_option maxRecDepth 100000
theorem valid_upto {p : List Int} {i : Nat} (hi : i < p.length) (hok : ∀ j, j < p.length → stepOk p j) : (firsts (p.take (i + 1))).length = if p.getD i 0 = (firsts (p.take i)).length then (firsts (p.take i)).length + 1 else (firsts (p.take i)).length :=
  firsts_next hi (fun j hj => hok j (by omega)) (hok i hi)
theorem firsts_mono {p : List Int} (hok : ∀ j, j < p.length → stepOk p j) : ∀ {i x : Nat}, i ≤ p.length → x < i → p.getD x 0 < ((firsts (p.take i)).length : Int)
  | 0, x, _, h => absurd h (Nat.not_lt_zero _)
  | i + 1, x, hi, h => by
    have h1 := valid_upto hi hok
    have h2 := hok i hi
    by_cases e : x = i
    · subst e
      rw [h1]
      have := h2.2
      split <;> omega
    · have := firsts_mono hok (by omega : i ≤ p.length) (by omega : x < i)
      rw [h1]
      split <;> omega
end Go.Proofs.Ytpanlghofeebhaa
end
section
/- The references of chapters 3 and 19: valid partitions, congruences: contracts. -/
namespace Go.Proofs.Ytpanlghofeebhaa
open Go Go.AM
set_option maxRecDepth 100000
end Go.Proofs.Ytpanlghofeebhaa
end
end
section
/- Plain: the congruence that pairs generate; how the forest of congr makes it. -/
namespace Go.Proofs.Ytpanlghofeebhaa
open Go Go.AM
inductive Cgr (t : List (List Int)) (side : Int) (R : Nat → Nat → Prop) : Nat → Nat → Prop
  | rel {a b : Nat} (h : R a b) : Cgr t side R a b
  | refl (a : Nat) : Cgr t side R a a
  | symm {a b : Nat} (h : Cgr t side R a b) : Cgr t side R b a
  | trans {a b c : Nat} (h : Cgr t side R a b) (h' : Cgr t side R b c) : Cgr t side R a c
  | left {a b s : Nat} (h0 : side ≠ 2) (hs : s < t.length) (ha : a < t.length) (hb : b < t.length) (h : Cgr t side R a b) : Cgr t side R (en t s a) (en t s b)
  | right {a b s : Nat} (h0 : side ≠ 1) (hs : s < t.length) (ha : a < t.length) (hb : b < t.length) (h : Cgr t side R a b) : Cgr t side R (en t a s) (en t b s)
theorem Cgr.least {t : List (List Int)} {side : Int} {R Q : Nat → Nat → Prop} (hr : ∀ a, Q a a) (hs : ∀ a b, Q a b → Q b a) (ht : ∀ a b c, Q a b → Q b c → Q a c) (h : ∀ a b, R a b → Q a b)
    (hl : side ≠ 2 → ∀ a b s, s < t.length → a < t.length → b < t.length → Q a b → Q (en t s a) (en t s b)) (hR : side ≠ 1 → ∀ a b s, s < t.length → a < t.length → b < t.length → Q a b → Q (en t a s) (en t b s)) {a b : Nat} (e : Cgr t side R a b) : Q a b := by
  induction e with
  | rel h1 => exact h _ _ h1
  | refl a => exact hr a
  | symm _ ih => exact hs _ _ ih
  | trans _ _ i1 i2 => exact ht _ _ _ i1 i2
  | left h0 h1 h2 h3 _ ih => exact hl h0 _ _ _ h1 h2 h3 ih
  | right h0 h1 h2 h3 _ ih => exact hR h0 _ _ _ h1 h2 h3 ih
noncomputable def cgrB (t : List (List Int)) (side : Int) (R : Nat → Nat → Prop) (a b : Nat) : Bool := @decide (Cgr t side R a b) (Classical.propDecidable _)
theorem cgrB_true {t : List (List Int)} {side : Int} {R : Nat → Nat → Prop} {a b : Nat} : cgrB t side R a b = true ↔ Cgr t side R a b := by unfold cgrB; exact @decide_eq_true_iff _ (Classical.propDecidable _)
theorem cgr_pre (t : List (List Int)) (side : Int) (R : Nat → Nat → Prop) : Pre t.length (cgrB t side R) :=
  pre_of (fun x _ => cgrB_true.2 (.refl x)) fun _ _ _ _ _ _ h h' => cgrB_true.2 ((cgrB_true.1 h).trans (cgrB_true.1 h'))
noncomputable def genP (t : List (List Int)) (side : Int) (R : Nat → Nat → Prop) : List Int := clsL t.length (cgrB t side R)
section
variable {t : List (List Int)} {side : Int} {R : Nat → Nat → Prop}
theorem genP_len : (genP t side R).length = t.length := clsL_len _ _
theorem genP_canon : canon (genP t side R) = genP t side R := canon_idem _
theorem genP_iff {a b : Nat} (ha : a < t.length) (hb : b < t.length) : (genP t side R).getD a 0 = (genP t side R).getD b 0 ↔ Cgr t side R a b := by
  unfold genP
  rw [clsL_iff (cgr_pre t side R) ha hb, cgrB_true, cgrB_true]
  exact ⟨fun h => h.1, fun h => ⟨h, h.symm⟩⟩
theorem genP_cg (hs : Sh t) : Cg t (genP t side R) side := fun x y s hx hy hsl e => by
  have e := (genP_iff hx hy).1 e
  exact ⟨fun h0 => (genP_iff (hs.ent hsl hx).2 (hs.ent hsl hy).2).2 (.left h0 hsl hx hy e), fun h0 => (genP_iff (hs.ent hx hsl).2 (hs.ent hy hsl).2).2 (.right h0 hsl hx hy e)⟩
theorem genP_valid (hs : Sh t) : validP (genP t side R) := ⟨by rw [genP_len]; have := hs.most; omega, genP_canon⟩
theorem genP_is (h : Semi t) (h0 : 0 ≤ side ∧ side ≤ 2) : IsCg t (genP t side R) side := ⟨h, genP_len, genP_valid h.toSh, h0, genP_cg h.toSh⟩
theorem Cgr.sub {p : List Int} (hR : ∀ a b, R a b → p.getD a 0 = p.getD b 0) (hg : Cg t p side) {a b : Nat} (e : Cgr t side R a b) : p.getD a 0 = p.getD b 0 :=
  e.least (Q := fun a b => p.getD a 0 = p.getD b 0) (fun _ => rfl) (fun _ _ h => h.symm) (fun _ _ _ h h' => h.trans h') hR
    (fun h0 a b s hs ha hb h => (hg a b s ha hb hs h).1 h0) (fun h0 a b s hs ha hb h => (hg a b s ha hb hs h).2 h0)
theorem genP_of {p : List Int} (hl : p.length = t.length) (h1 : ∀ a b, a < t.length → b < t.length → p.getD a 0 = p.getD b 0 → Cgr t side R a b) (hR : ∀ a b, R a b → p.getD a 0 = p.getD b 0) (hg : Cg t p side) : canon p = genP t side R := by
  refine ker_clsL (cgr_pre t side R) hl fun a b ha hb => ?_
  rw [cgrB_true, cgrB_true]
  exact ⟨fun e => ⟨h1 a b ha hb e, (h1 a b ha hb e).symm⟩, fun e => e.1.sub hR hg⟩
end
/-! ### From generators to all elements -/
section
variable {t : List (List Int)} {side : Int}
theorem eg_gens {J : Nat → Nat → Prop} (hs : Semi t) (_hJ : ∀ a b, J a b → a < t.length ∧ b < t.length) {gens : List Int} (hg : ∀ g ∈ gens, 0 ≤ g ∧ g < (t.length : Int))
    (hc : ∀ a b, J a b → ∀ g ∈ gens, (side ≠ 2 → Eg J (en t g.toNat a) (en t g.toNat b)) ∧ (side ≠ 1 → Eg J (en t a g.toNat) (en t b g.toNat))) {s : Nat} (m : Mk t gens s) :
    ∀ a b, a < t.length → b < t.length → Eg J a b → (side ≠ 2 → Eg J (en t s a) (en t s b)) ∧ (side ≠ 1 → Eg J (en t a s) (en t b s)) := by
  have hS := hs.toSh
  have base : ∀ g ∈ gens, ∀ a b, Eg J a b → (side ≠ 2 → Eg J (en t g.toNat a) (en t g.toNat b)) ∧ (side ≠ 1 → Eg J (en t a g.toNat) (en t b g.toNat)) := fun g hgm a b e =>
    e.least (Q := fun a b => (side ≠ 2 → Eg J (en t g.toNat a) (en t g.toNat b)) ∧ (side ≠ 1 → Eg J (en t a g.toNat) (en t b g.toNat))) (fun _ => ⟨fun _ => .refl _, fun _ => .refl _⟩) (fun _ _ h => ⟨fun h0 => (h.1 h0).symm, fun h0 => (h.2 h0).symm⟩)
      (fun _ _ _ h h' => ⟨fun h0 => (h.1 h0).trans (h'.1 h0), fun h0 => (h.2 h0).trans (h'.2 h0)⟩) fun a b h => hc a b h g hgm
  have key : ∀ {s : Nat}, Mk t gens s → s < t.length ∧ ∀ a b, a < t.length → b < t.length → Eg J a b → (side ≠ 2 → Eg J (en t s a) (en t s b)) ∧ (side ≠ 1 → Eg J (en t a s) (en t b s)) := fun {s} m => by
    induction m with
    | gen h => exact ⟨by have := hg _ h; omega, fun a b _ _ e => base _ h a b e⟩
    | mul ha hb i1 i2 =>
      rename_i u v
      refine ⟨(hS.ent i1.1 i2.1).2, fun a b hal hbl e => ⟨fun h0 => ?_, fun h0 => ?_⟩⟩
      · rw [assoc3 hs.assoc i1.1 i2.1 hal, assoc3 hs.assoc i1.1 i2.1 hbl]
        exact (i1.2 _ _ (hS.ent i2.1 hal).2 (hS.ent i2.1 hbl).2 ((i2.2 a b hal hbl e).1 h0)).1 h0
      · rw [← assoc3 hs.assoc hal i1.1 i2.1, ← assoc3 hs.assoc hbl i1.1 i2.1]
        exact (i2.2 _ _ (hS.ent hal i1.1).2 (hS.ent hbl i1.1).2 ((i1.2 a b hal hbl e).2 h0)).2 h0
  exact (key m).2
end
/-! ### The forest: joined or not; the number of classes -/
def rtB (r : Nat → Nat) (i : Nat) : Bool := decide (r i = i)
def cntR (n : Nat) (r : Nat → Nat) : Nat := ((List.range n).filter (rtB r)).length
theorem cnt_del {P : Nat → Bool} {M : Nat} : ∀ {n : Nat}, M < n → P M = true → ((List.range n).filter fun i => P i && decide (i ≠ M)).length + 1 = ((List.range n).filter P).length := by
  have no : ∀ n, n ≤ M → ((List.range n).filter fun i => P i && decide (i ≠ M)) = (List.range n).filter P := fun n hn =>
    List.filter_congr fun x hx => by
      have := List.mem_range.1 hx
      have : x ≠ M := by omega
      simp [this]
  intro n
  induction n with
  | zero => intro h; omega
  | succ n ih =>
    intro h hp
    rw [List.range_succ, List.filter_append, List.filter_append, List.length_append, List.length_append]
    by_cases e : M = n
    · subst e
      rw [no M (Nat.le_refl _)]
      simp [hp]
    · have := ih (by omega) hp
      have hn : (decide (n ≠ M)) = true := decide_eq_true (fun h => e h.symm)
      have : ([n].filter fun i => P i && decide (i ≠ M)) = [n].filter P := by
        simp only [List.filter_cons, hn, Bool.and_true, List.filter_nil]
      rw [this]; omega
theorem cnt_union {n : Nat} {p : List Int} {r : Nat → Nat} (h : Fo n p r) {i j : Nat} (hi : i < n) (hj : j < n) (hne : r i ≠ r j) : cntR n (ufR r i j) + 1 = cntR n r := by
  have hM : max (r i) (r j) < n := by have := h.rlt hi; have := h.rlt hj; omega
  have hr : r (max (r i) (r j)) = max (r i) (r j) ∧ r (min (r i) (r j)) = min (r i) (r j) := by
    have h1 := h.rr hi
    have h2 := h.rr hj
    rcases Nat.le_total (r i) (r j) with e | e
    · rw [Nat.max_eq_right e, Nat.min_eq_left e]; exact ⟨h2, h1⟩
    · rw [Nat.max_eq_left e, Nat.min_eq_right e]; exact ⟨h1, h2⟩
  have hlt : min (r i) (r j) < max (r i) (r j) := by omega
  have := cnt_del (P := rtB r) hM (by unfold rtB; exact decide_eq_true hr.1)
  unfold cntR
  rw [← this]
  congr 1
  refine congrArg List.length (List.filter_congr fun k hk => ?_)
  unfold rtB ufR
  generalize max (r i) (r j) = M at *
  generalize min (r i) (r j) = m at *
  by_cases e : r k = M
  · rw [if_pos e]
    have h1 : ¬ m = k := fun e2 => by rw [← e2, hr.2] at e; omega
    by_cases h2 : k = M
    · simp [h2]
      intro; omega
    · have h3 : ¬ r k = k := fun e2 => h2 (by omega)
      simp [h1, h3]
  · rw [if_neg e]
    have h2 : k ≠ M := fun e2 => e (by rw [e2]; exact hr.1)
    simp [h2]
theorem cnt_le (n : Nat) (r : Nat → Nat) : cntR n r ≤ n := by
  have := List.length_filter_le (rtB r) (List.range n)
  rw [List.length_range] at this
  exact this
theorem cnt_id (n : Nat) : cntR n id = n := by
  unfold cntR
  rw [List.filter_eq_self.2 fun x _ => by unfold rtB; exact decide_eq_true rfl, List.length_range]
def fn2L (p : List Int) (i j : Nat) : List Int := fndL (j + 1) (fndL (i + 1) p i) j
theorem fn2_fo {n : Nat} {p : List Int} {r : Nat → Nat} (h : Fo n p r) {i j : Nat} (hi : i < n) (hj : j < n) : Fo n (fn2L p i j) r := fndL_fo _ (fndL_fo _ h hi) hj
def jnP (r : Nat → Nat) (p : List Int) (i j : Nat) : List Int := if r i = r j then fn2L p i j else ufL r p i j
def jnR (r : Nat → Nat) (i j : Nat) : Nat → Nat := if r i = r j then r else ufR r i j
theorem jn_fo {n : Nat} {p : List Int} {r : Nat → Nat} (h : Fo n p r) {i j : Nat} (hi : i < n) (hj : j < n) : Fo n (jnP r p i j) (jnR r i j) := by
  unfold jnP jnR
  by_cases e : r i = r j
  · rw [if_pos e, if_pos e]; exact fn2_fo h hi hj
  · rw [if_neg e, if_neg e]; exact h.union hi hj
theorem jn_ker {n : Nat} {r : Nat → Nat} {R : Nat → Nat → Prop} (h : KerR n r R) {i j : Nat} (hi : i < n) (hj : j < n) : KerR n (jnR r i j) (orP R i j) := by
  unfold jnR
  by_cases e : r i = r j
  · rw [if_pos e]
    intro a b ha hb
    rw [h a b ha hb]
    refine ⟨fun k => k.mono fun a b h => .rel (.inl h), fun k => k.mono fun a b h => ?_⟩
    rcases h with h | ⟨rfl, rfl⟩
    · exact .rel h
    · exact (h a b hi hj).1 e
  · rw [if_neg e]; exact h.union hi hj
theorem jn_cnt {n : Nat} {p : List Int} {r : Nat → Nat} (h : Fo n p r) {i j : Nat} (hi : i < n) (hj : j < n) : cntR n (jnR r i j) + (if r i = r j then 0 else 1) = cntR n r := by
  unfold jnR
  by_cases e : r i = r j
  · rw [if_pos e, if_pos e, Nat.add_zero]
  · rw [if_neg e, if_neg e]; exact cnt_union h hi hj e
/-! ### The spreading of joined pairs -/
def inW (n : Nat) (W : List (Int × Int)) : Prop := ∀ q ∈ W, (0 ≤ q.1 ∧ q.1 < (n : Int)) ∧ 0 ≤ q.2 ∧ q.2 < (n : Int)
theorem inW_app {n : Nat} {V W : List (Int × Int)} : inW n (V ++ W) ↔ inW n V ∧ inW n W :=
  ⟨fun h => ⟨fun q hq => h q (List.mem_append_left _ hq), fun q hq => h q (List.mem_append_right _ hq)⟩, fun h q hq => (List.mem_append.1 hq).elim (h.1 q) (h.2 q)⟩
end Go.Proofs.Ytpanlghofeebhaa
end
section
/- Plain: the partition that a relation generates; lists of pairs. -/
namespace Go.Proofs.Ytpanlghofeebhaa
open Go Go.AM
noncomputable def egB (R : Nat → Nat → Prop) (a b : Nat) : Bool := @decide (Eg R a b) (Classical.propDecidable _)
theorem egB_true {R : Nat → Nat → Prop} {a b : Nat} : egB R a b = true ↔ Eg R a b := by unfold egB; exact @decide_eq_true_iff _ (Classical.propDecidable _)
theorem eg_pre (n : Nat) (R : Nat → Nat → Prop) : Pre n (egB R) := pre_of (fun x _ => egB_true.2 (.refl x)) fun _ _ _ _ _ _ h h' => egB_true.2 ((egB_true.1 h).trans (egB_true.1 h'))
noncomputable def eqP (n : Nat) (R : Nat → Nat → Prop) : List Int := clsL n (egB R)
theorem eqP_len {n : Nat} {R : Nat → Nat → Prop} : (eqP n R).length = n := clsL_len _ _
theorem eqP_canon {n : Nat} {R : Nat → Nat → Prop} : canon (eqP n R) = eqP n R := canon_idem _
theorem eqP_valid {n : Nat} {R : Nat → Nat → Prop} (h : n ≤ 4096) : validP (eqP n R) := ⟨by rw [eqP_len]; exact h, eqP_canon⟩
theorem eqP_iff {n : Nat} {R : Nat → Nat → Prop} {a b : Nat} (ha : a < n) (hb : b < n) : (eqP n R).getD a 0 = (eqP n R).getD b 0 ↔ Eg R a b := by
  unfold eqP
  rw [clsL_iff (eg_pre n R) ha hb, egB_true, egB_true]
  exact ⟨fun h => h.1, fun h => ⟨h, h.symm⟩⟩
theorem eqP_of {n : Nat} {p : List Int} {R : Nat → Nat → Prop} (h : KerOf n p R) : canon p = eqP n R :=
  ker_clsL (eg_pre n R) h.1 fun a b ha hb => by
    rw [egB_true, egB_true, h.2 a b ha hb]
    exact ⟨fun h => ⟨h, h.symm⟩, fun h => h.1⟩
theorem KerR.congr {n : Nat} {r : Nat → Nat} {R R' : Nat → Nat → Prop} (h : KerR n r R) (h1 : ∀ a b, R a b → Eg R' a b) (h2 : ∀ a b, R' a b → Eg R a b) : KerR n r R' :=
  fun a b ha hb => (h a b ha hb).trans ⟨Eg.mono h1, Eg.mono h2⟩
def relP (l : List (Int × Int)) (a b : Nat) : Prop := ((a : Int), (b : Int)) ∈ l
def orR (R : Nat → Nat → Prop) (l : List (Int × Int)) (a b : Nat) : Prop := R a b ∨ relP l a b
theorem relP_lt {n : Nat} {l : List (Int × Int)} (h : inW n l) {a b : Nat} (hr : relP l a b) : a < n ∧ b < n := by
  have := h _ hr
  simp only at this
  omega
end Go.Proofs.Ytpanlghofeebhaa
end
section
/- Plain: how the reference closes a partition under products. -/
namespace Go.Proofs.Ytpanlghofeebhaa
open Go Go.AM
theorem nodup_sub {α : Type} [DecidableEq α] : ∀ {A B : List α}, A.Nodup → (∀ x ∈ A, x ∈ B) → A.length ≤ B.length
  | [], _, _, _ => Nat.zero_le _
  | a :: A, B, hA, h => by
    have ha := h a (by simp)
    have hn := List.nodup_cons.1 hA
    have := nodup_sub (B := B.erase a) hn.2 fun x hx => (List.mem_erase_of_ne fun e => by subst e; exact hn.1 hx).2 (h x (List.mem_cons_of_mem _ hx))
    have hl := List.length_erase_of_mem ha
    have hp := List.length_pos_of_mem ha
    simp only [List.length_cons]; omega
theorem mrg_less {p : List Int} {a b : Nat} (ha : a < p.length) (hb : b < p.length) (hne : p.getD a 0 ≠ p.getD b 0) : classN (mrgL p a b) < classN p := by
  have hm : ∀ x ∈ mrgL p a b, x ∈ p ∧ x ≠ p.getD b 0 := fun x hx => by
    obtain ⟨k, hk, rfl⟩ := mem_getD 0 hx
    rw [mrgL_len] at hk
    rw [mrgL_get hk]
    by_cases e : p.getD k 0 = p.getD b 0
    · rw [if_pos e]; exact ⟨getD_mem ha, hne⟩
    · rw [if_neg e]; exact ⟨getD_mem hk, e⟩
  have := nodup_sub (A := p.getD b 0 :: firsts (mrgL p a b)) (B := firsts p) (List.nodup_cons.2 ⟨fun h => (hm _ (mem_firsts.1 h)).2 rfl, firsts_nodup _⟩) fun x hx => by
    rcases List.mem_cons.1 hx with rfl | hx
    · exact mem_firsts.2 (getD_mem hb)
    · exact mem_firsts.2 (hm x (mem_firsts.1 hx)).1
  simp only [List.length_cons] at this
  exact this
structure RcB (t : List (List Int)) (side : Int) (R : Nat → Nat → Prop) (p : List Int) : Prop where
  len : p.length = t.length
  up : ∀ a b, a < t.length → b < t.length → p.getD a 0 = p.getD b 0 → Cgr t side R a b
  lo : ∀ a b, R a b → a < t.length ∧ b < t.length ∧ p.getD a 0 = p.getD b 0
section
variable {t : List (List Int)} {side : Int} {R : Nat → Nat → Prop} {p p0 : List Int} {ch : Bool} {x y s : Nat}
theorem RcB.mrg (h : RcB t side R p) {a b : Nat} (ha : a < t.length) (hb : b < t.length) (e : Cgr t side R a b) : RcB t side R (mrgL p a b) := by
  have hl := h.len
  refine ⟨by rw [mrgL_len]; exact hl, fun i j hi hj e2 => ?_, fun i j hR => ?_⟩
  · rw [mrgL_get (by omega), mrgL_get (by omega)] at e2
    by_cases e3 : p.getD i 0 = p.getD b 0 <;> by_cases e4 : p.getD j 0 = p.getD b 0
    · exact (h.up i b hi hb e3).trans (h.up j b hj hb e4).symm
    · rw [if_pos e3, if_neg e4] at e2
      exact (h.up i b hi hb e3).trans (e.symm.trans (h.up a j ha hj e2))
    · rw [if_neg e3, if_pos e4] at e2
      exact (h.up i a hi ha e2).trans (e.trans (h.up b j hb hj e4.symm))
    · rw [if_neg e3, if_neg e4] at e2
      exact h.up i j hi hj e2
  · have k := h.lo i j hR
    refine ⟨k.1, k.2.1, ?_⟩
    rw [mrgL_get (by omega), mrgL_get (by omega), k.2.2]
structure RcI (t : List (List Int)) (side : Int) (R : Nat → Nat → Prop) (p0 p : List Int) (ch : Bool) (x y s : Nat) : Prop where
  b : RcB t side R p
  cd : ch = true → classN p < classN p0
  eq : ch = false → p = p0
  cl : ch = false → ∀ x' y' s', x' < t.length → y' < x' → s' < t.length → (x' < x ∨ (x' = x ∧ y' < y) ∨ (x' = x ∧ y' = y ∧ s' < s)) → p0.getD x' 0 = p0.getD y' 0 → CgA t p0 side x' y' s'
theorem RcI.start (h : RcB t side R p) : RcI t side R p p false 0 0 0 := ⟨h, (fun h => by cases h), fun _ => rfl, fun _ x' y' s' _ _ _ h => by omega⟩
theorem RcI.le (h : RcI t side R p0 p ch x y s) : classN p ≤ classN p0 := by
  cases hc : ch with
  | true => exact Nat.le_of_lt (h.cd hc)
  | false => rw [h.eq hc]; exact Nat.le_refl _
theorem RcI.mrg (h : RcI t side R p0 p ch x y s) {a b : Nat} (ha : a < t.length) (hb : b < t.length) (e : Cgr t side R a b) (hne : p.getD a 0 ≠ p.getD b 0) (x' y' s' : Nat) : RcI t side R p0 (mrgL p a b) true x' y' s' :=
  ⟨h.b.mrg ha hb e, fun _ => Nat.lt_of_lt_of_le (mrg_less (by rw [h.b.len]; exact ha) (by rw [h.b.len]; exact hb) hne) h.le, fun h => (by cases h), fun h => (by cases h)⟩
theorem RcI.chd (h : RcI t side R p0 p true x y s) (x' y' s' : Nat) : RcI t side R p0 p true x' y' s' := ⟨h.b, h.cd, h.eq, fun h => (by cases h)⟩
theorem RcI.okS (h : RcI t side R p0 p ch x y s) (hg : CgA t p side x y s) : RcI t side R p0 p ch x y (s + 1) :=
  ⟨h.b, h.cd, h.eq, fun hc x' y' s' h1 h2 h3 h4 h5 => by
    by_cases e : x' = x ∧ y' = y ∧ s' = s
    · obtain ⟨rfl, rfl, rfl⟩ := e
      rw [← h.eq hc]; exact hg
    · exact h.cl hc x' y' s' h1 h2 h3 (by omega) h5⟩
theorem RcI.endS (h : RcI t side R p0 p ch x y s) (hs : t.length ≤ s ∨ p.getD x 0 ≠ p.getD y 0) : RcI t side R p0 p ch x (y + 1) 0 :=
  ⟨h.b, h.cd, h.eq, fun hc x' y' s' h1 h2 h3 h4 h5 => by
    by_cases e : x' = x ∧ y' = y
    · rcases hs with hs | hs
      · exact h.cl hc x' y' s' h1 h2 h3 (by omega) h5
      · rw [e.1, e.2, ← h.eq hc] at h5; exact absurd h5 hs
    · exact h.cl hc x' y' s' h1 h2 h3 (by omega) h5⟩
theorem RcI.endY (h : RcI t side R p0 p ch x y 0) (hy : x ≤ y) : RcI t side R p0 p ch (x + 1) 0 0 :=
  ⟨h.b, h.cd, h.eq, fun hc x' y' s' h1 h2 h3 h4 h5 => h.cl hc x' y' s' h1 h2 h3 (by omega) h5⟩
theorem RcI.done (h : RcI t side R p0 p false x y 0) (hx : t.length ≤ x) : canon p = genP t side R := by
  have e := h.eq rfl
  subst e
  refine genP_of h.b.len h.b.up (fun a b hR => (h.b.lo a b hR).2.2) fun a b s ha hb hs e => ?_
  have key : ∀ a b, a < t.length → b < a → p.getD a 0 = p.getD b 0 → CgA t p side a b s := fun a b ha hb e => h.cl rfl a b s ha hb hs (.inl (by omega)) e
  rcases Nat.lt_trichotomy a b with hab | hab | hab
  · have := key b a hb hab e.symm
    exact ⟨fun h0 => (this.1 h0).symm, fun h0 => (this.2 h0).symm⟩
  · subst hab; exact ⟨fun _ => rfl, fun _ => rfl⟩
  · exact key a b ha hab e
theorem RcB.ofPairs {l : List (Int × Int)} (hl : inW t.length l) : RcB t side (relP l) (eqP t.length (relP l)) :=
  ⟨eqP_len, fun a b ha hb e => ((eqP_iff ha hb).1 e).least .refl (fun _ _ => .symm) (fun _ _ _ => .trans) fun a b h => .rel h,
    fun a b hR => by have := relP_lt hl hR; exact ⟨this.1, this.2, (eqP_iff this.1 this.2).2 (.rel hR)⟩⟩
end
end Go.Proofs.Ytpanlghofeebhaa
end
section
/- The reference's relations of Green (semigroupref15): contracts; the class of a table (semigroupref17). -/
namespace Go.Proofs.Ytpanlghofeebhaa
open Go Go.AM
set_option maxRecDepth 100000
def rowsB (n : Nat) (e : Nat → Nat → Bool) : List (List Bool) := (List.range n).map fun x => setB n (e x)
end Go.Proofs.Ytpanlghofeebhaa
end
section
/- Ideals of a table: plain. -/
namespace Go.Proofs.Ytpanlghofeebhaa
open Go Go.AM
open Classical
def inT (t : List (List Int)) (l : List Int) : Prop := ∀ x ∈ l, 0 ≤ x ∧ x < (t.length : Int)
instance (t : List (List Int)) (l : List Int) : Decidable (inT t l) := by unfold inT; infer_instance
end Go.Proofs.Ytpanlghofeebhaa
end
