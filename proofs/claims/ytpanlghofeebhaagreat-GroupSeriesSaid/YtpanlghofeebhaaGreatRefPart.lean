import Derived.Test.YtpanlghofeebhaaGreatEqvLaw
section
/- Package partition: its contracts (Valid, canonical, Canonical, matching, Count, Classes, Meet). -/
namespace Go.Proofs.YtpanlghofeebhaaGreat
open Go Go.AM
set_option maxRecDepth 100000
theorem validP_iff {p : List Int} : validP p ↔ p.length ≤ 4096 ∧ ∀ i, i < p.length → stepOk p i := by
  unfold validP; rw [canon_fix]
theorem firsts_next {p : List Int} {i : Nat} (hi : i < p.length) (hs : ∀ j, j < i → stepOk p j) (h : stepOk p i) : (firsts (p.take (i + 1))).length = if p.getD i 0 = (firsts (p.take i)).length then (firsts (p.take i)).length + 1 else (firsts (p.take i)).length := by
  have hf := firsts_valid (Nat.le_of_lt hi) hs
  have hr := firsts_range hf (p.getD i 0)
  rw [take_get (d := 0) hi, firsts_snoc]
  have h1 := h.1
  have h2 := h.2
  by_cases hm : p.getD i 0 ∈ p.take i
  · rw [if_pos hm, if_neg]
    have := (hr.2 hm).2
    omega
  · rw [if_neg hm, if_pos]
    · simp
    · by_cases hlt : p.getD i 0 < (firsts (p.take i)).length
      · exact absurd (hr.1 ⟨h1, hlt⟩) hm
      · omega
structure CanInv {α : Type} [DecidableEq α] (key : α → List Int) (d : α) (p : List α) (i : Nat) (q : List Int) (m : List (List Int × Int)) : Prop where
  le : i ≤ p.length
  len : q.length = p.length
  map : m = mapOf key 0 (firsts (p.take i))
  val : ∀ j, j < i → q.getD j 0 = (canon p).getD j 0
section
variable {α : Type} [DecidableEq α] {key : α → List Int} {d : α} {p : List α} {i : Nat} {q : List Int} {m : List (List Int × Int)}
theorem CanInv.start : CanInv key d p 0 (List.replicate p.length 0) [] := ⟨Nat.zero_le _, by simp, by simp [firsts, mapOf], fun j hj => absurd hj (Nat.not_lt_zero _)⟩
theorem CanInv.mlen (h : CanInv key d p i q m) : m.length = (firsts (p.take i)).length := by rw [h.map, mapOf_length]
theorem CanInv.mle (h : CanInv key d p i q m) : m.length ≤ p.length := by
  rw [h.mlen]
  have := firsts_le (p.take i)
  rw [List.length_take] at this; omega
theorem CanInv.next (h : CanInv key d p i q m) (hi : i < p.length) {v : Int} {m' : List (List Int × Int)} (hm : m' = mapOf key 0 (firsts (p.take (i + 1)))) (hv : v = (canon p).getD i 0) : CanInv key d p (i + 1) (q.set i v) m' :=
  ⟨by omega, by rw [List.length_set]; exact h.len, hm, fun j hj => by
    by_cases hji : j = i
    · subst hji; rw [getD_set_eq (by rw [h.len]; exact hi), hv]
    · rw [getD_set_ne (Ne.symm hji)]; exact h.val j (by omega)⟩
theorem CanInv.isNew (hk : ∀ a b, key a = key b → a = b) (h : CanInv key d p i q m) (hi : i < p.length) (hn : (!(getM m (key (p.getD i d))).isSome) = true) :
    setM m (key (p.getD i d)) m.length = mapOf key 0 (firsts (p.take (i + 1))) ∧ (m.length : Int) = (canon p).getD i 0 := by
  have hg := getM_mapOf hk (fs := firsts (p.take i)) (n := 0) (x := p.getD i d)
  rw [← h.map] at hg
  have hnone : p.getD i d ∉ p.take i := fun hm => by rw [if_pos (mem_firsts.2 hm)] at hg; rw [hg] at hn; cases hn
  rw [if_neg (fun hm => hnone (mem_firsts.1 hm))] at hg
  have hat := canon_at (d := d) hi
  rw [if_neg hnone] at hat
  refine ⟨?_, by rw [hat, h.mlen]⟩
  rw [setM_new hg, take_get (d := d) hi, firsts_snoc, if_neg hnone, mapOf_snoc, h.map, mapOf_length]
theorem CanInv.isOld (hk : ∀ a b, key a = key b → a = b) (h : CanInv key d p i q m) (hi : i < p.length) (hn : (!(getM m (key (p.getD i d))).isSome) = false) :
    m = mapOf key 0 (firsts (p.take (i + 1))) ∧ (getM m (key (p.getD i d))).getD 0 = (canon p).getD i 0 := by
  have hg := getM_mapOf hk (fs := firsts (p.take i)) (n := 0) (x := p.getD i d)
  rw [← h.map] at hg
  have hin : p.getD i d ∈ p.take i := by
    by_cases hm : p.getD i d ∈ p.take i
    · exact hm
    · rw [if_neg (fun h => hm (mem_firsts.1 h))] at hg; rw [hg] at hn; cases hn
  rw [if_pos (mem_firsts.2 hin)] at hg
  have hat := canon_at (d := d) hi
  rw [if_pos hin] at hat
  refine ⟨by rw [take_get (d := d) hi, firsts_snoc, if_pos hin, h.map], by rw [hg, hat]; simp⟩
theorem CanInv.done (h : CanInv key d p i q m) (hi : p.length ≤ i) : q = canon p := by
  refine List.ext_getElem (by rw [h.len, canon_length]) fun j h1 h2 => ?_
  have := h.val j (by have := h.len; omega)
  rwa [getD_eq h1, getD_eq h2] at this
end
theorem key1 : ∀ a b : Int, [a] = [b] → a = b := fun a b h => by cases h; rfl
def upTo (p : List Int) (i c : Nat) : List Int := ((List.range i).filter fun i => p.getD i 0 = (c : Int)).map fun (i : Nat) => (i : Int)
theorem upTo_zero (p : List Int) (c : Nat) : upTo p 0 c = [] := rfl
theorem upTo_le (p : List Int) (i c : Nat) : (upTo p i c).length ≤ i := by
  unfold upTo
  rw [List.length_map]
  exact Nat.le_trans (List.length_filter_le _ _) (by simp)
theorem upTo_here {p : List Int} {i c : Nat} (h : p.getD i 0 = c) : upTo p (i + 1) c = upTo p i c ++ [(i : Int)] := by
  unfold upTo
  rw [List.range_succ, List.filter_append, List.filter_cons, if_pos (by simpa using h)]
  simp
theorem upTo_there {p : List Int} {i c : Nat} (h : p.getD i 0 ≠ c) : upTo p (i + 1) c = upTo p i c := by
  unfold upTo
  rw [List.range_succ, List.filter_append, List.filter_cons, if_neg (by simpa using h)]
  simp
theorem rows_done {p : List Int} {n i : Nat} {l : List (List Int)} (hl : l.length = n) (h : ∀ k, k < n → l.getD k [] = upTo p i k) (hi : i = p.length) : l = classes n p := by
  refine List.ext_getElem (by rw [hl, classes_length]) fun j h1 h2 => ?_
  have := h j (by omega)
  rw [getD_eq h1] at this
  rw [this, ← getD_eq (d := []) h2, classes_getD (by omega), hi]; rfl
theorem rows_next {p : List Int} {n i : Nat} {l : List (List Int)} (hl : l.length = n) (h : ∀ k, k < n → l.getD k [] = upTo p i k) (hr : 0 ≤ p.getD i 0 ∧ p.getD i 0 < n) :
    ∀ k, k < n → (l.set (p.getD i 0).toNat (l.getD (p.getD i 0).toNat [] ++ [(i : Int)])).getD k [] = upTo p (i + 1) k := fun k hk => by
  by_cases hkc : k = (p.getD i 0).toNat
  · rw [← hkc, getD_set_eq (by omega), h k hk, upTo_here (by omega)]
  · rw [getD_set_ne (Ne.symm hkc), h k hk, upTo_there (by omega)]
end Go.Proofs.YtpanlghofeebhaaGreat
end
section
/- Rees matrix semigroups, in plain words: nothing of the program stands here. -/
namespace Go.Proofs.YtpanlghofeebhaaGreat
open Classical
theorem map_range_getD {α : Type} (f : Nat → α) (n i : Nat) (d : α) (h : i < n) : ((List.range n).map f).getD i d = f i := by
  simp [List.getD, h]
theorem take_snoc {α : Type} {l : List α} {i : Nat} {d : α} (h : i < l.length) : l.take (i + 1) = l.take i ++ [l.getD i d] := by
  rw [List.take_succ_eq_append_getElem h]; simp [List.getD, h]
theorem ext_getD {α : Type} {l m : List α} (d : α) (hl : l.length = m.length) (h : ∀ i, i < l.length → l.getD i d = m.getD i d) : l = m := by
  refine List.ext_getElem hl fun i h1 h2 => ?_
  have := h i h1
  simpa [List.getD, h1, h2] using this
end Go.Proofs.YtpanlghofeebhaaGreat
end
section
/- The principal factor of a J-class: a semigroup. Plain; no program. -/
namespace Go.Proofs.YtpanlghofeebhaaGreat
open Go Go.AM
def elemsJ (t : List (List Int)) (j : Nat) : List Int := (classes (numJ t) (classJ t)).getD j []
end Go.Proofs.YtpanlghofeebhaaGreat
end
section
/- The reference's partitions (semigroupref03) and relations of Green (semigroupref15): contracts. -/
namespace Go.Proofs.YtpanlghofeebhaaGreat
open Go Go.AM
set_option maxRecDepth 100000
theorem rcanon_fn (p : List Int) : QF 89 [.ro (.ints .i64 p)] (.new (.ints .i64 (if p.length ≤ 4096 then canon p else []))) := mkQ Tryz.func89 (by decide +kernel) rfl (Nat.le_of_ble_eq_true rfl) fun _ => by
  refine And.intro (fun h1 => ?_) (fun h1 => ?_)
  · refine And.intro ?_ trivial
    rw [if_neg (by omega)]; rfl
  rw [if_pos (by omega)]
  refine And.intro (by omega) ?_
  refine And.intro (by omega) ?_
  refine Exists.intro [] <| lp3 (fun (i : Nat) (_ : List Int) (m : List (List Int × Int)) => [(19, .int .i64 i), (4, .int .i64 m.length)]) (fun _ q m => [(15, .vec 0 (.ints .i64 q) []), (16, .map (.int .i64) (some .i64) m)]) (fun i q m => CanInv (fun x => [x]) 0 p i q m) (fun i _ _ => p.length - i) 0 (List.replicate p.length 0) [] .start (by repeat' first | refine And.intro ?_ ?_ | exact True.intro | (show (_ : Int) = (_ : Int); omega) | omega | exact rfl | (simp only [RO.len]; omega)) ?_
  intro i q m H
  have hle := H.le
  have hlen := H.len
  have hml := H.mle
  refine And.intro (fun h2 => ?_) (fun h2 => ?_)
  · have hil : i < p.length := by omega
    refine And.intro (by omega) ?_
    refine And.intro (fun h3 => ?_) (fun h3 => ?_)
    · obtain ⟨e1, e2⟩ := H.isNew key1 hil h3
      have e3 : (setM m [p.getD i 0] m.length).length = m.length + 1 := by
        have : getM m [p.getD i 0] = none := by
          have h3 : (!(getM m [p.getD i 0]).isSome) = true := h3
          cases hg : getM m [p.getD i 0] with
          | none => rfl
          | some v => rw [hg] at h3; cases h3
        rw [setM_new this]; simp
      refine And.intro (by omega) ?_
      refine And.intro (by omega) ?_
      refine And.intro (by omega) ?_
      refine And.intro (by omega) ?_
      refine nx (i + 1, q.set i m.length, setM m [p.getD i 0] m.length) (H.next hil e1 e2) (show p.length - (i + 1) < p.length - i by omega) ?_
      refine And.intro (And.intro rfl (And.intro ?_ trivial)) ?_
      · show (m.length : Int) + 1 = ((setM m [p.getD i 0] m.length).length : Int)
        rw [e3]; rfl
      · repeat' first | refine And.intro ?_ ?_ | exact True.intro | (show (_ : Int) = (_ : Int); omega) | omega | exact rfl | (simp only [RO.len]; omega)
    · obtain ⟨e1, e2⟩ := H.isOld key1 hil h3
      refine And.intro (by omega) ?_
      refine And.intro (by omega) ?_
      refine And.intro (by omega) ?_
      exact nx (i + 1, q.set i _, m) (H.next hil e1 e2) (show p.length - (i + 1) < p.length - i by omega) (by repeat' first | refine And.intro ?_ ?_ | exact True.intro | (show (_ : Int) = (_ : Int); omega) | omega | exact rfl | (simp only [RO.len]; omega))
  · refine And.intro ?_ trivial
    refine And.intro (by omega) ?_
    rw [H.done (by omega)]
theorem rcount_fn (p : List Int) (hv : validP p) : QF 90 [.ro (.ints .i64 p)] (.int .i64 (classN p)) := mkQ Tryz.func90 (by decide +kernel) rfl (Nat.le_of_ble_eq_true rfl) fun _ => by
  have hst := (validP_iff.1 hv).2
  have hlen := hv.1
  refine Exists.intro [] <| lp2 (fun (i : Nat) (c : Nat) => [(8, .int .i64 i), (3, .int .i64 c)]) (fun _ _ => []) (fun i c => i ≤ p.length ∧ c = (firsts (p.take i)).length) (fun i _ => p.length - i) 0 0 ⟨Nat.zero_le _, by simp [firsts]⟩ (by repeat' first | refine And.intro ?_ ?_ | exact True.intro | (show (_ : Int) = (_ : Int); omega) | omega | exact rfl | (simp only [RO.len]; omega)) ?_
  rintro i c ⟨hi, hc⟩
  refine And.intro (fun h1 => ?_) (fun h1 => ?_)
  · have hil : i < p.length := by omega
    have hs := hst i hil
    have hs1 : 0 ≤ p.getD i 0 := hs.1
    have hs2 : p.getD i 0 ≤ (firsts (p.take i)).length := hs.2
    have hfn := firsts_next hil (fun j hj => hst j (by omega)) hs
    have hle := firsts_le (p.take i)
    rw [List.length_take] at hle
    refine And.intro (by omega) ?_
    refine And.intro (show -9223372036854775808 ≤ p.getD i 0 + 1 ∧ p.getD i 0 + 1 ≤ 9223372036854775807 by omega) ?_
    refine And.intro (show -9223372036854775808 ≤ (i : Int) + 1 ∧ (i : Int) + 1 ≤ 9223372036854775807 by omega) ?_
    refine nx (i + 1, (firsts (p.take (i + 1))).length) ⟨by omega, rfl⟩ (show p.length - (i + 1) < p.length - i by omega) ?_
    refine And.intro (And.intro rfl ?_) trivial
    refine And.intro ?_ trivial
    show max (c : Int) (p.getD i 0 + 1) = ((firsts (p.take (i + 1))).length : Nat)
    rw [hfn]
    split <;> omega
  · refine And.intro ?_ trivial
    show (c : Int) = classN p
    have : p.take i = p := List.take_of_length_le (by omega)
    rw [hc, this]; rfl
theorem rclasses_fn (p : List Int) (h : validP p) : QF 61 [.ro (.ints .i64 p)] (.ro (.rows .i64 (classes (classN p) p))) := mkQ Tryz.func61 (by decide +kernel) rfl (Nat.le_of_ble_eq_true rfl) fun _ => by
  have hlen := h.1
  have hrange : ∀ i, i < p.length → 0 ≤ p.getD i 0 ∧ p.getD i 0 < classN p := fun i hi => (valid_range h.2 _).2 (getD_mem hi)
  have hn : classN p ≤ p.length := firsts_le p
  refine Or.inl (cq (rcount_fn p h) (And.intro rfl trivial) ?_)
  refine And.intro (by omega) ?_
  refine And.intro (by omega) ?_
  refine Or.inr (Or.inl ?_)
  refine Exists.intro [] <| lp2 (fun (i : Nat) (_ : List (List Int)) => [(11, .int .i64 i)]) (fun _ c => [(8, .deep (.rows .i64 c) none)]) (fun i c => i ≤ p.length ∧ c.length = classN p ∧ ∀ k, k < classN p → c.getD k [] = upTo p i k) (fun i _ => p.length - i) 0 (List.replicate (classN p) []) ⟨Nat.zero_le _, by simp, fun k hk => by rw [upTo_zero]; simp [List.getD, hk]⟩ (by repeat' first | refine And.intro ?_ ?_ | exact True.intro | (show (_ : Int) = (_ : Int); omega) | omega | exact rfl | (simp only [RO.len]; omega)) ?_
  rintro i c ⟨hi, hc, hs⟩
  refine And.intro (fun h1 => ?_) (fun h1 => ?_)
  · have hil : i < p.length := by omega
    have hr := hrange i hil
    have hle := upTo_le p i (p.getD i 0).toNat
    rw [← hs (p.getD i 0).toNat (by omega)] at hle
    refine And.intro (by omega) ?_
    refine And.intro (show 0 ≤ p.getD i 0 ∧ p.getD i 0 < (c.length : Int) by omega) ?_
    refine And.intro (show ((c.getD (p.getD i 0).toNat [] ++ [(i : Int)]).length : Int) ≤ 17592186044416 by rw [List.length_append, List.length_singleton]; omega) ?_
    refine And.intro (show 0 ≤ p.getD i 0 ∧ p.getD i 0 < (c.length : Int) by omega) ?_
    refine And.intro rfl ?_
    refine And.intro (show -9223372036854775808 ≤ (i : Int) + 1 ∧ (i : Int) + 1 ≤ 9223372036854775807 by omega) ?_
    exact nx (i + 1, c.set (p.getD i 0).toNat (c.getD (p.getD i 0).toNat [] ++ [(i : Int)])) ⟨by omega, by rw [List.length_set]; exact hc, rows_next hc hs hr⟩ (show p.length - (i + 1) < p.length - i by omega) (by repeat' first | refine And.intro ?_ ?_ | exact True.intro | (show (_ : Int) = (_ : Int); omega) | omega | exact rfl | (simp only [RO.len]; omega))
  · refine And.intro ?_ trivial
    refine And.intro trivial ?_
    rw [rows_done hc hs (by omega)]
def setB (n : Nat) (f : Nat → Bool) : List Bool := (List.range n).map f
theorem setB_len (n : Nat) (f : Nat → Bool) : (setB n f).length = n := by simp [setB]
theorem setB_get {n : Nat} {f : Nat → Bool} {x : Nat} (hx : x < n) : (setB n f).getD x false = f x := by
  unfold setB
  rw [List.getD, List.getElem?_map, List.getElem?_range hx]; rfl
theorem setB_of {n : Nat} {f : Nat → Bool} {r : List Bool} (hl : r.length = n) (h : ∀ x, x < n → r.getD x false = f x) : r = setB n f := by
  refine List.ext_getElem (by rw [hl, setB_len]) fun j h1 h2 => ?_
  rw [← getD_eq (d := false) h1, ← getD_eq (d := false) h2, h j (by omega), setB_get (by omega)]
theorem setB_next {n i : Nat} {f : Nat → Bool} {r : List Bool} (hl : r.length = n) (h : ∀ x, x < n → r.getD x false = f x) (hi : i < n) : (r.set i true).length = n ∧ ∀ x, x < n → (r.set i true).getD x false = (f x || decide (x = i)) := by
  refine ⟨by rw [List.length_set]; exact hl, fun x hx => ?_⟩
  by_cases hxi : x = i
  · subst hxi; rw [getD_set_eq (by omega)]; simp
  · rw [getD_set_ne (Ne.symm hxi), h x hx]; simp [hxi]
theorem rep_false (n x : Nat) : (List.replicate n false).getD x false = false := by
  simp only [List.getD, List.getElem?_replicate]; split <;> rfl
theorem rset_k (l : List Int) (n : Nat) (hn : n ≤ 400) (hl : l.length ≤ 140737488355328) : fnK TY SP Tryz.f59 [.ro (.ints .i64 l), .int .i64 n] (.new (.bools (setB n fun x => l.contains (x : Int)))) := by
  refine And.intro (by omega) ?_
  refine And.intro (by omega) ?_
  refine Exists.intro [] <| lp2 (fun (i : Nat) (_ : List Bool) => [(12, .int .i64 i)]) (fun _ r => [(9, .vec 0 (.bools r) [])]) (fun i r => i ≤ l.length ∧ r.length = n ∧ ∀ x, x < n → r.getD x false = (l.take i).contains (x : Int)) (fun i _ => l.length - i) 0 (List.replicate n false) ⟨Nat.zero_le _, by simp, fun x hx => by rw [rep_false]; simp⟩ (by repeat' first | refine And.intro ?_ ?_ | exact True.intro | (show (_ : Int) = (_ : Int); omega) | omega | exact rfl | (simp only [RO.len]; omega)) ?_
  rintro i r ⟨hi, hr, hs⟩
  refine And.intro (fun h1 => ?_) (fun h1 => ?_)
  · have hil : i < l.length := by omega
    have skip : ¬ (0 ≤ l.getD i 0 ∧ l.getD i 0 < n) → ∀ x, x < n → r.getD x false = (l.take (i + 1)).contains (x : Int) := fun hno x hx => by
      rw [hs x hx, take_snoc (d := 0) hil, Bool.eq_iff_iff]
      simp only [List.contains_iff_mem, List.mem_append, List.mem_singleton]
      constructor
      · exact .inl
      · rintro (h | h)
        · exact h
        · omega
    refine And.intro (by omega) ?_
    refine And.intro (fun h2 => ?_) (fun h2 => ?_)
    · have h2 : 0 ≤ l.getD i 0 := h2
      refine And.intro (fun h3 => ?_) (fun h3 => ?_)
      · have h3 : l.getD i 0 < (n : Int) := h3
        refine And.intro (show 0 ≤ l.getD i 0 ∧ l.getD i 0 < (r.length : Int) by omega) ?_
        refine And.intro (show (0 : Int) ≤ l.getD i 0 by omega) ?_
        refine And.intro (by omega) ?_
        have hnx := setB_next hr hs (i := (l.getD i 0).toNat) (by omega)
        refine nx (i + 1, r.set (l.getD i 0).toNat true) ⟨by omega, hnx.1, fun x hx => ?_⟩ (show l.length - (i + 1) < l.length - i by omega) (by repeat' first | refine And.intro ?_ ?_ | exact True.intro | (show (_ : Int) = (_ : Int); omega) | omega | exact rfl | (simp only [RO.len]; omega))
        rw [hnx.2 x hx, take_snoc (d := 0) hil, Bool.eq_iff_iff]
        simp only [Bool.or_eq_true, decide_eq_true_eq, List.contains_iff_mem, List.mem_append, List.mem_singleton]
        exact or_congr Iff.rfl ⟨fun h => by omega, fun h => by omega⟩
      · have h3 : (n : Int) ≤ l.getD i 0 := h3
        refine And.intro (by omega) ?_
        exact nx (i + 1, r) ⟨by omega, hr, skip (by omega)⟩ (show l.length - (i + 1) < l.length - i by omega) (by repeat' first | refine And.intro ?_ ?_ | exact True.intro | (show (_ : Int) = (_ : Int); omega) | omega | exact rfl | (simp only [RO.len]; omega))
    · have h2 : l.getD i 0 < 0 := h2
      refine And.intro (by omega) ?_
      exact nx (i + 1, r) ⟨by omega, hr, skip (by omega)⟩ (show l.length - (i + 1) < l.length - i by omega) (by repeat' first | refine And.intro ?_ ?_ | exact True.intro | (show (_ : Int) = (_ : Int); omega) | omega | exact rfl | (simp only [RO.len]; omega))
  · refine And.intro ?_ trivial
    refine And.intro rfl ?_
    rw [setB_of hr fun x hx => by rw [hs x hx, List.take_of_length_le (by omega)]]
theorem rset_fn (l : List Int) (n : Nat) (hn : n ≤ 400) : QF 59 [.ro (.ints .i64 l), .int .i64 n] (.new (.bools (setB n fun x => l.contains (x : Int)))) := mkQ Tryz.func59 (by decide +kernel) rfl (Nat.le_of_ble_eq_true rfl) fun hf => rset_k l n hn hf.1.1
end Go.Proofs.YtpanlghofeebhaaGreat
end
