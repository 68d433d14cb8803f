import Derived.Test.YtjlkhjgnfnfmgaaGreatOrd
import Derived.Test.YtjlkhjgnfnfmgaaGreatPermLaw
section
/- Package partition: its contracts (Valid, canonical, Canonical, matching, Count, Classes, Meet). -/
namespace Go.Proofs.YtjlkhjgnfnfmgaaGreat
open Go Go.AM
set_option maxRecDepth 100000
theorem validP_iff {p : List Int} : validP p ↔ p.length ≤ 4096 ∧ ∀ i, i < p.length → stepOk p i := by
  unfold validP; rw [canon_fix]
theorem valid_no {p : List Int} {i : Nat} (hi : i < p.length) (h : ¬ stepOk p i) : (BE.lit false).val = (BE.v (decide (validP p))).val := by
  show false = decide (validP p)
  symm
  rw [decide_eq_false_iff_not, validP_iff]
  exact fun hv => h (hv.2 i hi)
theorem step_next {p : List Int} {i : Nat} (_hi : i < p.length) (hs : ∀ j, j < i → stepOk p j) (h : stepOk p i) : ∀ j, j < i + 1 → stepOk p j := fun j hj => by
  by_cases hji : j < i
  · exact hs j hji
  · have : j = i := by omega
    rw [this]; exact h
theorem firsts_next {p : List Int} {i : Nat} (hi : i < p.length) (hs : ∀ j, j < i → stepOk p j) (h : stepOk p i) : (firsts (p.take (i + 1))).length = if p.getD i 0 = (firsts (p.take i)).length then (firsts (p.take i)).length + 1 else (firsts (p.take i)).length := by
  have hf := firsts_valid (Nat.le_of_lt hi) hs
  have hr := firsts_range hf (p.getD i 0)
  rw [take_get (d := 0) hi, firsts_snoc]
  have h1 := h.1
  have h2 := h.2
  by_cases hm : p.getD i 0 ∈ p.take i
  · rw [if_pos hm, if_neg]
    have := (hr.2 hm).2
    omega
  · rw [if_neg hm, if_pos]
    · simp
    · by_cases hlt : p.getD i 0 < (firsts (p.take i)).length
      · exact absurd (hr.1 ⟨h1, hlt⟩) hm
      · omega
theorem pvalid_k (p : List Int) : fnK TY SP Tryz.f124 [.ro (.ints .i64 p)] (.bool (.v (decide (validP p)))) := by
  refine And.intro (fun h1 => ?_) (fun h1 => ?_)
  · refine And.intro ?_ trivial
    show false = decide (validP p)
    symm
    rw [decide_eq_false_iff_not]
    exact fun hv => by have := hv.1; omega
  refine Exists.intro [] <| lp2 (fun (i : Nat) (c : Nat) => [(11, .int .i64 i), (3, .int .i64 c)]) (fun _ _ => []) (fun i c => i ≤ p.length ∧ c = (firsts (p.take i)).length ∧ ∀ j, j < i → stepOk p j) (fun i _ => p.length - i) 0 0 ⟨Nat.zero_le _, by simp [firsts], fun j hj => absurd hj (Nat.not_lt_zero _)⟩ (by repeat' first | refine And.intro ?_ ?_ | exact True.intro | (show (_ : Int) = (_ : Int); omega) | omega | exact rfl | (simp only [RO.len]; omega)) ?_
  rintro i c ⟨hi, hc, hs⟩
  refine And.intro (fun h1 => ?_) (fun h1 => ?_)
  · have hil : i < p.length := by omega
    refine And.intro (by omega) ?_
    refine And.intro (fun h2 => ?_) (fun h2 => ?_)
    · refine And.intro ?_ trivial
      have h2 : p.getD i 0 < 0 := h2
      exact valid_no hil fun h => by have := h.1; omega
    refine And.intro (fun h3 => ?_) (fun h3 => ?_)
    · refine And.intro ?_ trivial
      have h3 : (c : Int) < p.getD i 0 := h3
      exact valid_no hil fun h => by have := h.2; omega
    have h2 : 0 ≤ p.getD i 0 := h2
    have h3 : p.getD i 0 ≤ (c : Int) := h3
    have hok : stepOk p i := ⟨h2, by rw [← hc]; exact h3⟩
    have hfn := firsts_next hil hs hok
    have hle : c ≤ p.length := by
      have := firsts_le (p.take i)
      rw [List.length_take] at this; omega
    refine And.intro (fun h4 => ?_) (fun h4 => ?_)
    · have h4 : p.getD i 0 = (c : Int) := h4
      refine And.intro (by omega) ?_
      refine And.intro (by omega) ?_
      refine nx (i + 1, c + 1) ⟨by omega, ?_, step_next hil hs hok⟩ (show p.length - (i + 1) < p.length - i by omega) (by repeat' first | refine And.intro ?_ ?_ | exact True.intro | (show (_ : Int) = (_ : Int); omega) | omega | exact rfl | (simp only [RO.len]; omega))
      rw [hfn, if_pos (by rw [h4, hc]), hc]
    · have h4 : p.getD i 0 ≠ (c : Int) := h4
      refine And.intro (by omega) ?_
      refine nx (i + 1, c) ⟨by omega, ?_, step_next hil hs hok⟩ (show p.length - (i + 1) < p.length - i by omega) (by repeat' first | refine And.intro ?_ ?_ | exact True.intro | (show (_ : Int) = (_ : Int); omega) | omega | exact rfl | (simp only [RO.len]; omega))
      rw [hfn, if_neg (by rw [← hc]; exact h4), hc]
  · refine And.intro ?_ trivial
    show true = decide (validP p)
    symm
    rw [decide_eq_true_eq, validP_iff]
    exact ⟨by omega, fun j hj => hs j (by omega)⟩
structure CanInv {α : Type} [DecidableEq α] (key : α → List Int) (d : α) (p : List α) (i : Nat) (q : List Int) (m : List (List Int × Int)) : Prop where
  le : i ≤ p.length
  len : q.length = p.length
  map : m = mapOf key 0 (firsts (p.take i))
  val : ∀ j, j < i → q.getD j 0 = (canon p).getD j 0
section
variable {α : Type} [DecidableEq α] {key : α → List Int} {d : α} {p : List α} {i : Nat} {q : List Int} {m : List (List Int × Int)}
theorem CanInv.start : CanInv key d p 0 (List.replicate p.length 0) [] := ⟨Nat.zero_le _, by simp, by simp [firsts, mapOf], fun j hj => absurd hj (Nat.not_lt_zero _)⟩
theorem CanInv.mlen (h : CanInv key d p i q m) : m.length = (firsts (p.take i)).length := by rw [h.map, mapOf_length]
theorem CanInv.mle (h : CanInv key d p i q m) : m.length ≤ p.length := by
  rw [h.mlen]
  have := firsts_le (p.take i)
  rw [List.length_take] at this; omega
theorem CanInv.next (h : CanInv key d p i q m) (hi : i < p.length) {v : Int} {m' : List (List Int × Int)} (hm : m' = mapOf key 0 (firsts (p.take (i + 1)))) (hv : v = (canon p).getD i 0) : CanInv key d p (i + 1) (q.set i v) m' :=
  ⟨by omega, by rw [List.length_set]; exact h.len, hm, fun j hj => by
    by_cases hji : j = i
    · subst hji; rw [getD_set_eq (by rw [h.len]; exact hi), hv]
    · rw [getD_set_ne (Ne.symm hji)]; exact h.val j (by omega)⟩
theorem CanInv.isNew (hk : ∀ a b, key a = key b → a = b) (h : CanInv key d p i q m) (hi : i < p.length) (hn : (!(getM m (key (p.getD i d))).isSome) = true) :
    setM m (key (p.getD i d)) m.length = mapOf key 0 (firsts (p.take (i + 1))) ∧ (m.length : Int) = (canon p).getD i 0 := by
  have hg := getM_mapOf hk (fs := firsts (p.take i)) (n := 0) (x := p.getD i d)
  rw [← h.map] at hg
  have hnone : p.getD i d ∉ p.take i := fun hm => by rw [if_pos (mem_firsts.2 hm)] at hg; rw [hg] at hn; cases hn
  rw [if_neg (fun hm => hnone (mem_firsts.1 hm))] at hg
  have hat := canon_at (d := d) hi
  rw [if_neg hnone] at hat
  refine ⟨?_, by rw [hat, h.mlen]⟩
  rw [setM_new hg, take_get (d := d) hi, firsts_snoc, if_neg hnone, mapOf_snoc, h.map, mapOf_length]
theorem CanInv.isOld (hk : ∀ a b, key a = key b → a = b) (h : CanInv key d p i q m) (hi : i < p.length) (hn : (!(getM m (key (p.getD i d))).isSome) = false) :
    m = mapOf key 0 (firsts (p.take (i + 1))) ∧ (getM m (key (p.getD i d))).getD 0 = (canon p).getD i 0 := by
  have hg := getM_mapOf hk (fs := firsts (p.take i)) (n := 0) (x := p.getD i d)
  rw [← h.map] at hg
  have hin : p.getD i d ∈ p.take i := by
    by_cases hm : p.getD i d ∈ p.take i
    · exact hm
    · rw [if_neg (fun h => hm (mem_firsts.1 h))] at hg; rw [hg] at hn; cases hn
  rw [if_pos (mem_firsts.2 hin)] at hg
  have hat := canon_at (d := d) hi
  rw [if_pos hin] at hat
  refine ⟨by rw [take_get (d := d) hi, firsts_snoc, if_pos hin, h.map], by rw [hg, hat]; simp⟩
theorem CanInv.done (h : CanInv key d p i q m) (hi : p.length ≤ i) : q = canon p := by
  refine List.ext_getElem (by rw [h.len, canon_length]) fun j h1 h2 => ?_
  have := h.val j (by have := h.len; omega)
  rwa [getD_eq h1, getD_eq h2] at this
end
theorem key1 : ∀ a b : Int, [a] = [b] → a = b := fun a b h => by cases h; rfl
theorem canonI_fn (p : List Int) (h : p.length ≤ 17592186044416) : QF 114 [.ro (.ints .i64 p)] (.new (.ints .i64 (canon p))) := mkQ Tryz.func114 (by decide +kernel) rfl (Nat.le_of_ble_eq_true rfl) fun _ => by
  refine And.intro (by omega) ?_
  refine And.intro (by omega) ?_
  refine Exists.intro [] <| lp3 (fun (i : Nat) (_ : List Int) (_ : List (List Int × Int)) => [(15, .int .i64 i)]) (fun _ q m => [(11, .vec 0 (.ints .i64 q) []), (12, .map (.int .i64) (some .i64) m)]) (fun i q m => CanInv (fun x => [x]) 0 p i q m) (fun i _ _ => p.length - i) 0 (List.replicate p.length 0) [] .start (by repeat' first | refine And.intro ?_ ?_ | exact True.intro | (show (_ : Int) = (_ : Int); omega) | omega | exact rfl | (simp only [RO.len]; omega)) ?_
  intro i q m H
  have hle := H.le
  have hlen := H.len
  have hml := H.mle
  refine And.intro (fun h1 => ?_) (fun h1 => ?_)
  · have hil : i < p.length := by omega
    refine And.intro (by omega) ?_
    refine And.intro (fun h2 => ?_) (fun h2 => ?_)
    · obtain ⟨e1, e2⟩ := H.isNew key1 hil h2
      refine And.intro (by omega) ?_
      refine And.intro (by omega) ?_
      refine And.intro (by omega) ?_
      refine And.intro (by omega) ?_
      exact nx (i + 1, q.set i m.length, _) (H.next hil e1 e2) (show p.length - (i + 1) < p.length - i by omega) (by repeat' first | refine And.intro ?_ ?_ | exact True.intro | (show (_ : Int) = (_ : Int); omega) | omega | exact rfl | (simp only [RO.len]; omega))
    · obtain ⟨e1, e2⟩ := H.isOld key1 hil h2
      refine And.intro (by omega) ?_
      refine And.intro (by omega) ?_
      refine And.intro (by omega) ?_
      exact nx (i + 1, q.set i _, m) (H.next hil e1 e2) (show p.length - (i + 1) < p.length - i by omega) (by repeat' first | refine And.intro ?_ ?_ | exact True.intro | (show (_ : Int) = (_ : Int); omega) | omega | exact rfl | (simp only [RO.len]; omega))
  · refine And.intro ?_ trivial
    refine And.intro (by omega) ?_
    rw [H.done (by omega)]
end Go.Proofs.YtjlkhjgnfnfmgaaGreat
end
section
/- The reference's partitions (semigroupref03) and relations of Green (semigroupref15): contracts. -/
namespace Go.Proofs.YtjlkhjgnfnfmgaaGreat
open Go Go.AM
set_option maxRecDepth 100000
def setB (n : Nat) (f : Nat → Bool) : List Bool := (List.range n).map f
theorem setB_len (n : Nat) (f : Nat → Bool) : (setB n f).length = n := by simp [setB]
theorem setB_get {n : Nat} {f : Nat → Bool} {x : Nat} (hx : x < n) : (setB n f).getD x false = f x := by
  unfold setB
  rw [List.getD, List.getElem?_map, List.getElem?_range hx]; rfl
theorem setB_of {n : Nat} {f : Nat → Bool} {r : List Bool} (hl : r.length = n) (h : ∀ x, x < n → r.getD x false = f x) : r = setB n f := by
  refine List.ext_getElem (by rw [hl, setB_len]) fun j h1 h2 => ?_
  rw [← getD_eq (d := false) h1, ← getD_eq (d := false) h2, h j (by omega), setB_get (by omega)]
theorem setB_next {n i : Nat} {f : Nat → Bool} {r : List Bool} (hl : r.length = n) (h : ∀ x, x < n → r.getD x false = f x) (hi : i < n) : (r.set i true).length = n ∧ ∀ x, x < n → (r.set i true).getD x false = (f x || decide (x = i)) := by
  refine ⟨by rw [List.length_set]; exact hl, fun x hx => ?_⟩
  by_cases hxi : x = i
  · subst hxi; rw [getD_set_eq (by omega)]; simp
  · rw [getD_set_ne (Ne.symm hxi), h x hx]; simp [hxi]
theorem rep_false (n x : Nat) : (List.replicate n false).getD x false = false := by
  simp only [List.getD, List.getElem?_replicate]; split <;> rfl
theorem rset_k (l : List Int) (n : Nat) (hn : n ≤ 400) (hl : l.length ≤ 140737488355328) : fnK TY SP Tryz.f34 [.ro (.ints .i64 l), .int .i64 n] (.new (.bools (setB n fun x => l.contains (x : Int)))) := by
  refine And.intro (by omega) ?_
  refine And.intro (by omega) ?_
  refine Exists.intro [] <| lp2 (fun (i : Nat) (_ : List Bool) => [(12, .int .i64 i)]) (fun _ r => [(9, .vec 0 (.bools r) [])]) (fun i r => i ≤ l.length ∧ r.length = n ∧ ∀ x, x < n → r.getD x false = (l.take i).contains (x : Int)) (fun i _ => l.length - i) 0 (List.replicate n false) ⟨Nat.zero_le _, by simp, fun x hx => by rw [rep_false]; simp⟩ (by repeat' first | refine And.intro ?_ ?_ | exact True.intro | (show (_ : Int) = (_ : Int); omega) | omega | exact rfl | (simp only [RO.len]; omega)) ?_
  rintro i r ⟨hi, hr, hs⟩
  refine And.intro (fun h1 => ?_) (fun h1 => ?_)
  · have hil : i < l.length := by omega
    have skip : ¬ (0 ≤ l.getD i 0 ∧ l.getD i 0 < n) → ∀ x, x < n → r.getD x false = (l.take (i + 1)).contains (x : Int) := fun hno x hx => by
      rw [hs x hx, take_snoc (d := 0) hil, Bool.eq_iff_iff]
      simp only [List.contains_iff_mem, List.mem_append, List.mem_singleton]
      constructor
      · exact .inl
      · rintro (h | h)
        · exact h
        · omega
    refine And.intro (by omega) ?_
    refine And.intro (fun h2 => ?_) (fun h2 => ?_)
    · have h2 : 0 ≤ l.getD i 0 := h2
      refine And.intro (fun h3 => ?_) (fun h3 => ?_)
      · have h3 : l.getD i 0 < (n : Int) := h3
        refine And.intro (show 0 ≤ l.getD i 0 ∧ l.getD i 0 < (r.length : Int) by omega) ?_
        refine And.intro (show (0 : Int) ≤ l.getD i 0 by omega) ?_
        refine And.intro (by omega) ?_
        have hnx := setB_next hr hs (i := (l.getD i 0).toNat) (by omega)
        refine nx (i + 1, r.set (l.getD i 0).toNat true) ⟨by omega, hnx.1, fun x hx => ?_⟩ (show l.length - (i + 1) < l.length - i by omega) (by repeat' first | refine And.intro ?_ ?_ | exact True.intro | (show (_ : Int) = (_ : Int); omega) | omega | exact rfl | (simp only [RO.len]; omega))
        rw [hnx.2 x hx, take_snoc (d := 0) hil, Bool.eq_iff_iff]
        simp only [Bool.or_eq_true, decide_eq_true_eq, List.contains_iff_mem, List.mem_append, List.mem_singleton]
        exact or_congr Iff.rfl ⟨fun h => by omega, fun h => by omega⟩
      · have h3 : (n : Int) ≤ l.getD i 0 := h3
        refine And.intro (by omega) ?_
        exact nx (i + 1, r) ⟨by omega, hr, skip (by omega)⟩ (show l.length - (i + 1) < l.length - i by omega) (by repeat' first | refine And.intro ?_ ?_ | exact True.intro | (show (_ : Int) = (_ : Int); omega) | omega | exact rfl | (simp only [RO.len]; omega))
    · have h2 : l.getD i 0 < 0 := h2
      refine And.intro (by omega) ?_
      exact nx (i + 1, r) ⟨by omega, hr, skip (by omega)⟩ (show l.length - (i + 1) < l.length - i by omega) (by repeat' first | refine And.intro ?_ ?_ | exact True.intro | (show (_ : Int) = (_ : Int); omega) | omega | exact rfl | (simp only [RO.len]; omega))
  · refine And.intro ?_ trivial
    refine And.intro rfl ?_
    rw [setB_of hr fun x hx => by rw [hs x hx, List.take_of_length_le (by omega)]]
theorem rset_fn (l : List Int) (n : Nat) (hn : n ≤ 400) : QF 34 [.ro (.ints .i64 l), .int .i64 n] (.new (.bools (setB n fun x => l.contains (x : Int)))) := mkQ Tryz.func34 (by decide +kernel) rfl (Nat.le_of_ble_eq_true rfl) fun hf => rset_k l n hn hf.1.1
end Go.Proofs.YtjlkhjgnfnfmgaaGreat
end
section
/- Package mult: its contracts. -/
namespace Go.Proofs.YtjlkhjgnfnfmgaaGreat
open Go Go.AM
set_option maxRecDepth 100000
theorem shape_bad {t : List (List Int)} (h : ¬ 400 < (t.length : Int)) (k : Nat) (hk : k < t.length) (hb : ¬ rowOk t.length (t.getD k [])) : 4 = shapeV t := by
  unfold shapeV
  rw [if_neg (by omega), if_neg (by omega), if_neg]
  intro hall
  exact hb (hall _ (by simp [List.getD, hk]))
theorem shape_k (t : List (List Int)) : fnK TY SP Tryz.f115 [.ro (.rows .i64 t)] (.int .i64 (shapeV t)) := by
  refine And.intro (fun h => ?_) (fun h => ?_)
  · refine And.intro (show (3 : Int) = shapeV t from ?_) trivial
    unfold shapeV; rw [if_pos (by omega)]
  refine And.intro (fun h1 => ?_) (fun h1 => ?_)
  · refine And.intro (show (4 : Int) = shapeV t from ?_) trivial
    unfold shapeV; rw [if_neg (by omega), if_pos (by omega)]
  refine Exists.intro [] <| lp (X := Nat) (fun k => [(15, .int .i64 k)]) (fun _ => []) (fun k => k ≤ t.length ∧ ∀ j, j < k → rowOk t.length (t.getD j [])) (fun k => t.length - k) 0 ⟨Nat.zero_le _, by simp⟩ ⟨⟨rfl, trivial⟩, trivial⟩ fun k hk => ?_
  refine And.intro (fun h2 => ?_) (fun h2 => ?_)
  · refine And.intro ⟨by omega, by omega⟩ ?_
    refine And.intro (fun h3 => ?_) (fun h3 => ?_)
    · refine And.intro (show (4 : Int) = shapeV t from ?_) trivial
      exact shape_bad (by omega) k (by omega) (fun hr => h3 (by have := hr.1; simp only [Int.toNat_natCast]; exact_mod_cast this))
    · simp only [Int.toNat_natCast] at h3
      refine Exists.intro [] <| lp (X := Nat) (fun i => [(26, .int .i64 i)]) (fun _ => []) (fun i => i ≤ t.length ∧ ∀ j, j < i → 0 ≤ (t.getD k []).getD j 0 ∧ (t.getD k []).getD j 0 < t.length) (fun i => t.length - i) 0 ⟨Nat.zero_le _, by simp⟩ ⟨⟨rfl, trivial⟩, trivial⟩ fun i hi => ?_
      refine And.intro (fun h4 => ?_) (fun h4 => ?_)
      · simp only [Int.toNat_natCast] at h4
        refine And.intro ⟨by omega, by simp only [Int.toNat_natCast]; omega⟩ ?_
        have hm : (t.getD k []).getD i 0 ∈ t.getD k [] := getD_mem (by omega)
        refine And.intro (fun h5 => ?_) (fun h5 => ?_)
        · refine And.intro (show (4 : Int) = shapeV t from ?_) trivial
          refine shape_bad (by omega) k (by omega) (fun hr => ?_)
          have h6 := hr.2 _ hm
          simp only [Int.toNat_natCast] at h5
          omega
        · refine And.intro (fun h6 => ?_) (fun h6 => ?_)
          · refine And.intro (show (4 : Int) = shapeV t from ?_) trivial
            refine shape_bad (by omega) k (by omega) (fun hr => ?_)
            have h7 := hr.2 _ hm
            simp only [Int.toNat_natCast] at h6
            omega
          · refine And.intro ⟨by omega, by omega⟩ ?_
            refine nx (i + 1) ⟨by omega, fun j hj => ?_⟩ (show t.length - (i + 1) < t.length - i by omega) ⟨⟨rfl, trivial⟩, trivial⟩
            by_cases hji : j < i
            · exact hi.2 j hji
            · have : j = i := by omega
              subst this
              exact ⟨h5, h6⟩
      · simp only [Int.toNat_natCast] at h4
        refine And.intro ⟨by omega, by omega⟩ ?_
        refine nx (k + 1) ⟨by omega, fun j hj => ?_⟩ (show t.length - (k + 1) < t.length - k by omega) ⟨⟨rfl, trivial⟩, trivial⟩
        by_cases hjk : j < k
        · exact hk.2 j hjk
        · have : j = k := by omega
          subst this
          refine ⟨by omega, fun x hx => ?_⟩
          obtain ⟨q, hq, rfl⟩ := mem_getD 0 hx
          exact hi.2 q (by omega)
  · refine And.intro (show (0 : Int) = shapeV t from ?_) trivial
    unfold shapeV
    rw [if_neg (by omega), if_neg (by omega), if_pos]
    intro r hr
    obtain ⟨j, hj, rfl⟩ := mem_getD [] hr
    exact hk.2 j (by omega)
theorem shape_fn (t : List (List Int)) : QF 115 [.ro (.rows .i64 t)] (.int .i64 (shapeV t)) := mkQ Tryz.func115 (by decide +kernel) rfl (Nat.le_of_ble_eq_true rfl) fun _ => shape_k t
theorem light_no {t : List (List Int)} (_hs : Sh t) {gens : List Int} (_hg : ∀ g ∈ gens, 0 ≤ g ∧ g < t.length) {k x y : Nat} (hk : k < gens.length) (hx : x < t.length) (hy : y < t.length)
    (h : en t (en t x (gens.getD k 0).toNat) y ≠ en t x (en t (gens.getD k 0).toNat y)) : false = lightB t gens := by
  symm
  rw [lightB_false]
  intro hall
  exact h (hall _ (getD_mem hk) x y hx hy)
theorem associates_k (t : List (List Int)) (gens : List Int) (hs : Sh t) (hg : ∀ g ∈ gens, 0 ≤ g ∧ g < t.length) (hgl : gens.length ≤ 140737488355328) :
    fnK TY SP Tryz.f116 [.ro (.rows .i64 t), .ro (.ints .i64 gens)] (.bool (.v (lightB t gens))) := by
  have hpos := hs.pos
  have hmost := hs.most
  refine And.intro (by omega) ?_
  refine And.intro (by omega) ?_
  refine Exists.intro [] <| lp2 (fun k (tr : List Bool) => [(18, .int .i64 (k : Nat))]) (fun k tr => [(15, .vec 0 (.bools tr) [])]) (fun k tr => k ≤ gens.length ∧ tr.length = t.length ∧ (∀ j, j < k → Lt t (gens.getD j 0).toNat) ∧ ∀ g, tr.getD g false = true → Lt t g) (fun k tr => gens.length - k) 0 (List.replicate t.length false) ?_ ⟨⟨rfl, trivial⟩, ⟨⟨by omega, by simp⟩, rfl⟩, trivial⟩ ?_
  · exact ⟨Nat.zero_le _, by simp, by simp, fun g h => by simp [List.getD, List.getElem?_replicate] at h; split at h <;> simp at h⟩
  rintro k tr ⟨hk, htr, hL, hT⟩
  refine And.intro (fun h1 => ?_) (fun h1 => ?_)
  · refine And.intro (by omega) ?_
    have hkl : k < gens.length := by omega
    have g1 : 0 ≤ gens.getD (k : Int).toNat 0 ∧ gens.getD (k : Int).toNat 0 < t.length := hg _ (getD_mem (by simp; omega))
    have g2 : (gens.getD (k : Int).toNat 0).toNat < t.length := by omega
    refine And.intro (by omega) ?_
    refine And.intro (fun h2 => ?_) (fun h2 => ?_)
    · refine And.intro (by omega) ?_
      refine nx (k + 1, tr) ⟨by omega, htr, fun j hj => ?_, hT⟩ (show gens.length - (k + 1) < gens.length - k by omega) ⟨⟨rfl, trivial⟩, ⟨⟨by omega, by omega⟩, rfl⟩, trivial⟩
      by_cases hjk : j < k
      · exact hL j hjk
      · obtain rfl : j = k := by omega
        exact hT _ (by simpa using h2)
    · refine And.intro (by omega) ?_
      refine And.intro (by omega) ?_
      refine Exists.intro [] <| lp (X := Nat) (fun x => [(31, .int .i64 x)]) (fun _ => []) (fun x => x ≤ t.length ∧ ∀ x' y, x' < x → y < t.length → en t (en t x' (gens.getD (k : Int).toNat 0).toNat) y = en t x' (en t (gens.getD (k : Int).toNat 0).toNat y)) (fun x => t.length - x) 0 ⟨Nat.zero_le _, by omega⟩ ⟨⟨rfl, trivial⟩, ⟨⟨by omega, by simp⟩, rfl⟩, trivial⟩ ?_
      rintro x ⟨hx, hX⟩
      refine And.intro (fun h3 => ?_) (fun h3 => ?_)
      · have hxl : x < t.length := by omega
        have hrl := hs.len hxl
        have a1 := hs.ent hxl g2
        refine And.intro (by omega) ?_
        refine And.intro (by simp only [Int.toNat_natCast] at *; omega) ?_
        refine And.intro (by simp only [Int.toNat_natCast] at *; omega) ?_
        refine And.intro (by omega) ?_
        refine Exists.intro [] <| lp (X := Nat) (fun y => [(47, .int .i64 y)]) (fun _ => []) (fun y => y ≤ t.length ∧ ∀ y', y' < y → en t (en t x (gens.getD (k : Int).toNat 0).toNat) y' = en t x (en t (gens.getD (k : Int).toNat 0).toNat y')) (fun y => t.length - y) 0 ⟨Nat.zero_le _, by omega⟩ ⟨⟨rfl, trivial⟩, ⟨⟨by omega, by simp⟩, rfl⟩, trivial⟩ ?_
        rintro y ⟨hy, hY⟩
        have hgl2 := hs.len g2
        refine And.intro (fun h4 => ?_) (fun h4 => ?_)
        · have hyl : y < t.length := by omega
          have b1 := hs.ent g2 hyl
          have b2 := hs.ent a1.2 hyl
          have b3 := hs.ent hxl b1.2
          have hll := hs.len a1.2
          refine And.intro (by omega) ?_
          refine Or.inl <| Exists.intro [false, false, false, false, false, false, false, false, false] (And.intro (by decide +kernel) ?_)
          refine And.intro (show 0 ≤ (y : Int) ∧ (y : Int) < ((t.getD (en t x (gens.getD (k : Int).toNat 0).toNat) []).length : Int) by omega) ?_
          refine And.intro (by simp only [Int.toNat_natCast] at *; omega) ?_
          refine And.intro (fun h5 => ?_) (fun h5 => ?_)
          · refine And.intro (light_no hs hg hkl hxl hyl fun he => h5 ?_) trivial
            show (t.getD (en t x (gens.getD (k : Int).toNat 0).toNat) []).getD y 0 = (t.getD x []).getD (en t (gens.getD (k : Int).toNat 0).toNat y) 0
            rw [b2.1, b3.1]
            exact congrArg _ he
          · refine And.intro (by omega) ?_
            refine nx (y + 1) ⟨by omega, fun y' hy' => ?_⟩ (show t.length - (y + 1) < t.length - y by omega) ⟨⟨rfl, trivial⟩, ⟨⟨by omega, by omega⟩, rfl⟩, trivial⟩
            by_cases hyy : y' < y
            · exact hY y' hyy
            · obtain rfl : y' = y := by omega
              have h5 : (t.getD (en t x (gens.getD (k : Int).toNat 0).toNat) []).getD y' 0 = (t.getD x []).getD (en t (gens.getD (k : Int).toNat 0).toNat y') 0 := h5
              rw [b2.1, b3.1] at h5
              exact_mod_cast h5
        · refine And.intro (by omega) ?_
          refine nx (x + 1) ⟨by omega, fun x' y hx' hy => ?_⟩ (show t.length - (x + 1) < t.length - x by omega) ⟨⟨rfl, trivial⟩, ⟨⟨by omega, by simp⟩, rfl⟩, trivial⟩
          by_cases hxx : x' < x
          · exact hX x' y hxx hy
          · obtain rfl : x' = x := by omega
            exact hY y (by omega)
      · refine And.intro (by omega) ?_
        refine nx (k + 1, tr.set (gens.getD (k : Int).toNat 0).toNat true) ⟨by omega, by simp [htr], fun j hj => ?_, fun g hgt => ?_⟩ (show gens.length - (k + 1) < gens.length - k by omega) ⟨⟨rfl, trivial⟩, ⟨⟨by omega, by omega⟩, rfl⟩, trivial⟩
        · by_cases hjk : j < k
          · exact hL j hjk
          · obtain rfl : j = k := by omega
            intro x' y' hx' hy'
            exact hX x' y' (by omega) hy'
        · by_cases hge : g = (gens.getD (k : Int).toNat 0).toNat
          · subst hge
            intro x' y' hx' hy'
            exact hX x' y' (by omega) hy'
          · refine hT g ?_
            rwa [getD_set_ne (Ne.symm hge)] at hgt
  · refine And.intro ?_ trivial
    show true = lightB t gens
    symm
    rw [lightB_true]
    intro g hgm
    obtain ⟨j, hj, rfl⟩ := mem_getD 0 hgm
    exact hL j (by omega)
theorem associates_fn (t : List (List Int)) (gens : List Int) (hs : Sh t) (hg : ∀ g ∈ gens, 0 ≤ g ∧ g < t.length) :
    QF 116 [.ro (.rows .i64 t), .ro (.ints .i64 gens)] (.bool (.v (lightB t gens))) :=
  mkQ Tryz.func116 (by decide +kernel) rfl (Nat.le_of_ble_eq_true rfl) fun hf => associates_k t gens hs hg hf.2.1.1
def addMade (inn : List Bool) (made : List Int) (x : Nat) : List Int := if inn.getD x false = true then made else made ++ [(x : Int)]
theorem add_k (x : Nat) (inn : List Bool) (made : List Int) (wm : Nat) (hx : x < inn.length) (hm : made.length < 100000) (hw : wm ≤ made.length) :
    fnMK TY SP Tryz.f153 [.int .i64 x, .ptr 1000 0, .ptr 1001 0] [(1000, .box [.vec 1002]), (1002, .vec 0 (.bools inn) []), (1001, .box [.vec 501]), (501, .vec wm (.ints .i64 made) [])] (.tup [])
      [(1000, .box [.vec 1002]), (1002, .vec 0 (.bools (inn.set x true)) []), (1001, .box [.vec 501]), (501, .vec wm (.ints .i64 (addMade inn made x)) [])] := by
  refine And.intro (by omega) ?_
  refine And.intro (fun h1 => ?_) (fun h1 => ?_)
  · have h1 : inn.getD x false = false := by simpa using h1
    refine And.intro (by omega) ?_
    refine And.intro (by omega) ?_
    refine And.intro (by simp; omega) ?_
    have e : addMade inn made x = made ++ [(x : Int)] := by unfold addMade; rw [h1]; rfl
    rw [e]
    refine And.intro ⟨⟨⟨rfl, trivial, trivial⟩, trivial⟩, ⟨⟨by omega, by simp [RO.len]⟩, rfl⟩, ⟨⟨rfl, trivial, trivial⟩, trivial⟩, ⟨⟨by omega, by simp [RO.len]; omega⟩, rfl⟩, trivial⟩ trivial
  · have h1 : inn.getD x false = true := by simpa using h1
    have e : addMade inn made x = made := by unfold addMade; rw [h1]; rfl
    have e2 : inn.set x true = inn := by
      refine List.ext_getElem? fun i => ?_
      rw [List.getElem?_set]
      split
      · rename_i hi; subst hi
        simp [hx]
        rw [getD_eq hx] at h1
        exact h1
      · rfl
    rw [e, e2]
    refine And.intro ⟨⟨⟨rfl, trivial, trivial⟩, trivial⟩, ⟨⟨by omega, by simp [RO.len]⟩, rfl⟩, ⟨⟨rfl, trivial, trivial⟩, trivial⟩, ⟨⟨by omega, by simp [RO.len]; omega⟩, rfl⟩, trivial⟩ trivial
theorem add_fn (x : Nat) (inn : List Bool) (made : List Int) (wm : Nat) (hx : x < inn.length) (hm : made.length < 100000) (hw : wm ≤ made.length) :
    MF 153 [.int .i64 x, .ptr 1000 0, .ptr 1001 0] [(1000, .box [.vec 1002]), (1002, .vec 0 (.bools inn) []), (1001, .box [.vec 501]), (501, .vec wm (.ints .i64 made) [])] (.tup [])
      [(1000, .box [.vec 1002]), (1002, .vec 0 (.bools (inn.set x true)) []), (1001, .box [.vec 501]), (501, .vec wm (.ints .i64 (addMade inn made x)) [])] :=
  mkM Tryz.func153 (by decide +kernel) rfl (Nat.le_of_ble_eq_true rfl) fun _ => add_k x inn made wm hx hm hw
structure Mkd (t : List (List Int)) (gens : List Int) (inn : List Bool) (made : List Int) : Prop where
  len : inn.length = t.length
  cnt : inn.count true = made.length
  mem : ∀ x, x < t.length → (inn.getD x false = true ↔ (x : Int) ∈ made)
  el : ∀ x ∈ made, 0 ≤ x ∧ x < t.length
  mkd : ∀ x ∈ made, Mk t gens x.toNat
theorem Mkd.le {t : List (List Int)} {gens : List Int} {inn : List Bool} {made : List Int} (h : Mkd t gens inn made) : made.length ≤ t.length := by
  rw [← h.cnt, ← h.len]; exact List.count_le_length
theorem Mkd.add {t : List (List Int)} {gens : List Int} {inn : List Bool} {made : List Int} (h : Mkd t gens inn made) {x : Nat} (hx : x < t.length) (hm : Mk t gens x) :
    Mkd t gens (inn.set x true) (addMade inn made x) ∧ (∀ y ∈ made, y ∈ addMade inn made x) ∧ (x : Int) ∈ addMade inn made x ∧ made.length ≤ (addMade inn made x).length := by
  have hxi : x < inn.length := by rw [h.len]; exact hx
  cases hb : inn.getD x false with
  | true =>
    have e : addMade inn made x = made := by unfold addMade; rw [hb]; rfl
    have e2 : inn.set x true = inn := by
      refine List.ext_getElem? fun i => ?_
      rw [List.getElem?_set]
      split
      · rename_i hi; subst hi
        simp [hxi]
        rw [getD_eq hxi] at hb
        exact hb
      · rfl
    rw [e, e2]
    exact ⟨h, fun _ h => h, (h.mem x hx).1 hb, Nat.le_refl _⟩
  | false =>
    have e : addMade inn made x = made ++ [(x : Int)] := by unfold addMade; rw [hb]; rfl
    rw [e]
    refine ⟨⟨by simp [h.len], ?_, fun y hy => ?_, fun y hy => ?_, fun y hy => ?_⟩, fun y hy => by simp [hy], by simp, by simp⟩
    · rw [List.count_set hxi]
      rw [getD_eq hxi] at hb
      simp [hb, h.cnt]
    · by_cases hyx : y = x
      · subst hyx; rw [getD_set_eq hxi]; simp
      · rw [getD_set_ne (Ne.symm hyx), h.mem y hy]
        simp; omega
    · rcases List.mem_append.1 hy with hy | hy
      · exact h.el y hy
      · simp at hy; omega
    · rcases List.mem_append.1 hy with hy | hy
      · exact h.mkd y hy
      · simp at hy; subst hy; simpa using hm
theorem Mkd.mono {t : List (List Int)} {g g' : List Int} {inn : List Bool} {made : List Int} (h : Mkd t g inn made) (hs : ∀ x ∈ g, x ∈ g') : Mkd t g' inn made :=
  ⟨h.len, h.cnt, h.mem, h.el, fun x hx => (h.mkd x hx).mono hs⟩
theorem Mkd.get {t : List (List Int)} {gens : List Int} {inn : List Bool} {made : List Int} (h : Mkd t gens inn made) {j : Nat} (hj : j < made.length) : made.getD j 0 = ((made.getD j 0).toNat : Int) ∧ (made.getD j 0).toNat < t.length ∧ Mk t gens (made.getD j 0).toNat := by
  have hm : made.getD j 0 ∈ made := getD_mem hj
  have h1 := h.el _ hm
  exact ⟨by omega, by omega, h.mkd _ hm⟩
theorem take_getD {α : Type} {l : List α} {n i : Nat} {d : α} (h : i < n) : ((l.take n).drop 0).getD i d = l.getD i d := by
  simp [List.getD, h]
set_option maxHeartbeats 1000000 in
theorem spanning_k (t : List (List Int)) (hs : Sh t) :
    fnEK TY SP Tryz.f117 [.ro (.rows .i64 t)] (fun g : List Int => .ro (.ints .i64 g)) (fun g => Spans t g) := by
  have hpos := hs.pos
  have hmost := hs.most
  refine And.intro (by omega) ?_
  refine And.intro (by omega) ?_
  refine Exists.intro [] <| lp4 (fun (k : Nat) (gens : List Int) (inn : List Bool) (made : List Int) => [(18, .int .i64 k), (3, .vec 28), (7, .int .i64 made.length)])
    (fun k gens inn made => [(28, .vec 0 (.ints .i64 gens) []), (14, .vec 0 (.bools inn) []), (40, .vec made.length (.ints .i64 made) []), (4, .box [.vec 40])])
    (fun k gens inn made => k ≤ t.length ∧ gens.length ≤ k ∧ (∀ g ∈ gens, 0 ≤ g ∧ g < t.length) ∧ Mkd t gens inn made ∧ ∀ x, x < k → (x : Int) ∈ made) (fun k _ _ _ => t.length - k) 0 [] (List.replicate t.length false) [] ?_ ?_ ?_
  · refine ⟨Nat.zero_le _, Nat.le_refl _, by simp, ⟨by simp, by simp [List.count_replicate], fun x _ => ?_, by simp, by simp⟩, by simp⟩
    simp [List.getD, List.getElem?_replicate]
    split <;> simp
  · repeat' first | exact True.intro | omega | refine And.intro ?_ ?_ | exact rfl | simp [RO.len]
  rintro k gens inn made ⟨hk, hgk, hg, hM, hall⟩
  have hml := hM.le
  have hil := hM.len
  refine And.intro (fun h1 => ?_) (fun h1 => ?_)
  · refine And.intro (by omega) ?_
    refine And.intro (fun h2 => ?_) (fun h2 => ?_)
    · refine And.intro (by omega) ?_
      refine nx (k + 1, gens, inn, made) ⟨by omega, by omega, hg, hM, fun x hx => ?_⟩ (show t.length - (k + 1) < t.length - k by omega) ?_
      · by_cases hxk : x < k
        · exact hall x hxk
        · obtain rfl : x = k := by omega
          exact (hM.mem x (by omega)).1 (by simpa using h2)
      · repeat' first | refine And.intro ?_ ?_ | exact True.intro | (show (_ : Int) = (_ : Int); omega) | omega | exact rfl | (simp only [RO.len]; omega)
    · refine And.intro (by simp; omega) ?_
      have hg' : ∀ g ∈ gens ++ [(k : Int)], 0 ≤ g ∧ g < t.length := fun g hgm => by
        rcases List.mem_append.1 hgm with h | h
        · exact hg g h
        · simp at h; omega
      have hM0 := hM.mono (g' := gens ++ [(k : Int)]) (fun x hx => by simp [hx])
      obtain ⟨hM1, hsub1, hin1, hle1⟩ := hM0.add (x := k) (by omega) (by have := Mk.gen (t := t) (gens := gens ++ [(k : Int)]) (g := k) (by simp); simpa using this)
      refine Or.inr (cm [] [(1000, 5), (1001, 4), (1002, 14), (501, 40)] (add_fn k inn made made.length (by omega) (by omega) (Nat.le_refl _)) ?_)
      refine And.intro (by repeat' first | refine And.intro ?_ ?_ | exact True.intro | (show (_ : Int) = (_ : Int); omega) | omega | exact rfl | (simp only [RO.len]; omega)) ?_
      refine Exists.intro [] <| lp3 (fun (mu : Nat) (inn : List Bool) (made : List Int) => [(7, .int .i64 mu)])
        (fun mu inn made => [(14, .vec 0 (.bools inn) []), (40, .vec mu (.ints .i64 made) []), (4, .box [.vec 40])])
        (fun mu inn made => mu ≤ made.length ∧ Mkd t (gens ++ [(k : Int)]) inn made ∧ ∀ x, x < k + 1 → (x : Int) ∈ made) (fun mu _ _ => t.length - mu) made.length (inn.set k true) (addMade inn made k) ?_ ?_ ?_
      · refine ⟨hle1, hM1, fun x hx => ?_⟩
        by_cases hxk : x < k
        · exact hsub1 _ (hall x hxk)
        · obtain rfl : x = k := by omega
          exact hin1
      · repeat' first | refine And.intro ?_ ?_ | exact True.intro | (show (_ : Int) = (_ : Int); omega) | omega | exact rfl | (simp only [RO.len]; omega)
      clear hM1 hsub1 hin1 hle1 hM0
      rintro mu inn made ⟨hmu, hM, hall⟩
      have hml := hM.le
      have hil := hM.len
      refine And.intro (fun h3 => ?_) (fun h3 => ?_)
      · have hX := hM.get (j := (mu : Int).toNat) (by omega)
        refine And.intro (by omega) ?_
        refine And.intro (by omega) ?_
        refine And.intro (by omega) ?_
        refine Or.inl ?_
        refine Exists.intro [33, 38, 40, 42] <| lp3 (fun (j : Nat) (inn : List Bool) (made2 : List Int) => [(47, .int .i64 j)])
          (fun j inn made2 => [(14, .vec 0 (.bools inn) []), (40, .vec (mu + 1) (.ints .i64 made2) []), (4, .box [.vec 40])])
          (fun j inn made2 => j ≤ mu + 1 ∧ Mkd t (gens ++ [(k : Int)]) inn made2 ∧ made.length ≤ made2.length ∧ ∀ y ∈ made, y ∈ made2) (fun j _ _ => mu + 1 - j) 0 inn made ⟨Nat.zero_le _, hM, Nat.le_refl _, fun _ h => h⟩ ?_ ?_
        · repeat' first | refine And.intro ?_ ?_ | exact True.intro | (show (_ : Int) = (_ : Int); omega) | omega | exact rfl | (simp only [RO.len]; omega)
        rintro j inn2 made2 ⟨hj, hM2, hle2, hsub2⟩
        have hml2 := hM2.le
        have hil2 := hM2.len
        have hlen : ((made.take ((mu : Int) + 1).toNat).drop 0).length = mu + 1 := by simp; omega
        refine And.intro (fun h4 => ?_) (fun h4 => ?_)
        · have hY := hM.get (j := (j : Int).toNat) (by omega)
          have hY' : ((made.take ((mu : Int) + 1).toNat).drop 0).getD (j : Int).toNat 0 = made.getD (j : Int).toNat 0 := take_getD (by omega)
          have e1 := hs.ent hX.2.1 hY.2.1
          have e2 := hs.ent hY.2.1 hX.2.1
          have l1 := hs.len hX.2.1
          have l2 := hs.len hY.2.1
          have A := hM2.add e1.2 (.mul hX.2.2 hY.2.2)
          have B := A.1.add e2.2 (.mul hY.2.2 hX.2.2)
          have la := A.1.le
          have lb := B.1.le
          have ia := A.1.len
          have hle3 := A.2.2.2
          have hE1 : (t.getD (made.getD (mu : Int).toNat 0).toNat []).getD (((made.take ((mu : Int) + 1).toNat).drop 0).getD (j : Int).toNat 0).toNat 0 = (en t (made.getD (mu : Int).toNat 0).toNat (made.getD (j : Int).toNat 0).toNat : Int) := by rw [hY']; exact e1.1
          have hE2 : (t.getD (((made.take ((mu : Int) + 1).toNat).drop 0).getD (j : Int).toNat 0).toNat []).getD (made.getD (mu : Int).toNat 0).toNat 0 = (en t (made.getD (j : Int).toNat 0).toNat (made.getD (mu : Int).toNat 0).toNat : Int) := by rw [hY']; exact e2.1
          refine And.intro (by omega) ?_
          refine And.intro (by omega) ?_
          refine And.intro (by rw [hY']; omega) ?_
          refine Or.inr (cm [] [(1000, 5), (1001, 4), (1002, 14), (501, 40)] (add_fn (en t (made.getD (mu : Int).toNat 0).toNat (made.getD (j : Int).toNat 0).toNat) inn2 made2 (mu + 1) (by omega) (by omega) (by omega)) ?_)
          refine And.intro (And.intro (by repeat' first | refine And.intro ?_ ?_ | exact True.intro | (show (_ : Int) = (_ : Int); omega) | omega | exact rfl | (simp only [RO.len]; omega)) (And.intro hE1 (And.intro ⟨rfl, rfl, trivial, trivial⟩ (And.intro ⟨rfl, rfl, trivial, trivial⟩ trivial)))) ?_
          refine And.intro (by omega) ?_
          refine And.intro (by rw [hY']; omega) ?_
          refine Or.inr (cm [] [(1000, 5), (1001, 4), (1002, 14), (501, 40)] (add_fn (en t (made.getD (j : Int).toNat 0).toNat (made.getD (mu : Int).toNat 0).toNat) (inn2.set (en t (made.getD (mu : Int).toNat 0).toNat (made.getD (j : Int).toNat 0).toNat) true) (addMade inn2 made2 (en t (made.getD (mu : Int).toNat 0).toNat (made.getD (j : Int).toNat 0).toNat)) (mu + 1) (by rw [ia]; exact e2.2) (by omega) (by omega)) ?_)
          refine And.intro (And.intro (by repeat' first | refine And.intro ?_ ?_ | exact True.intro | (show (_ : Int) = (_ : Int); omega) | omega | exact rfl | (simp only [RO.len]; omega)) (And.intro hE2 (And.intro ⟨rfl, rfl, trivial, trivial⟩ (And.intro ⟨rfl, rfl, trivial, trivial⟩ trivial)))) ?_
          refine And.intro (by omega) ?_
          refine nx (j + 1, _, _) ⟨by omega, B.1, by omega, fun y hy => B.2.1 _ (A.2.1 _ (hsub2 y hy))⟩ (show mu + 1 - (j + 1) < mu + 1 - j by omega) ?_
          repeat' first | refine And.intro ?_ ?_ | exact True.intro | (show (_ : Int) = (_ : Int); omega) | omega | exact rfl | (simp only [RO.len]; omega)
        · refine And.intro (by omega) ?_
          refine nx (mu + 1, inn2, made2) ⟨by omega, hM2, fun x hx => hsub2 _ (hall x hx)⟩ (show t.length - (mu + 1) < t.length - mu by omega) ?_
          repeat' first | refine And.intro ?_ ?_ | exact True.intro | (show (_ : Int) = (_ : Int); omega) | omega | exact rfl | (simp only [RO.len]; omega)
      · refine And.intro (by omega) ?_
        refine nx (k + 1, gens ++ [(k : Int)], inn, made) ⟨by omega, by simp; omega, hg', hM, hall⟩ (show t.length - (k + 1) < t.length - k by omega) ?_
        repeat' first | refine And.intro ?_ ?_ | exact True.intro | (show (_ : Int) = (_ : Int); omega) | omega | exact rfl | (simp only [RO.len]; omega)
  · refine Exists.intro gens (And.intro ⟨hg, fun x hx => ?_⟩ ?_)
    · have := hM.mkd _ (hall x (by omega)); simpa using this
    · repeat' first | refine And.intro ?_ ?_ | exact True.intro | (show (_ : Int) = (_ : Int); omega) | omega | exact rfl | (simp only [RO.len]; omega)
theorem spanning_fn (t : List (List Int)) (hs : Sh t) : EF 117 [.ro (.rows .i64 t)] (fun g : List Int => .ro (.ints .i64 g)) (fun g => Spans t g) :=
  mkE Tryz.func117 (by decide +kernel) rfl (Nat.le_of_ble_eq_true rfl) fun _ => spanning_k t hs
theorem valid_fn (t : List (List Int)) : QF 79 [.ro (.rows .i64 t)] (.int .i64 (validV t)) := mkQ Tryz.func79 (by decide +kernel) rfl (Nat.le_of_ble_eq_true rfl) fun _ => by
  refine Or.inl (cq (shape_fn t) (And.intro rfl trivial) ?_)
  refine And.intro (fun h1 => ?_) (fun h1 => ?_)
  · refine And.intro (show shapeV t = validV t from ?_) trivial
    unfold validV; rw [if_pos h1]
  · have hs := shape_zero.1 h1
    refine Or.inr (Or.inr (ce (spanning_fn t hs) (And.intro rfl trivial) fun g hg => ?_))
    refine Or.inl (cq (associates_fn t g hs hg.el) (And.intro rfl (And.intro rfl trivial)) ?_)
    have e := light_assoc hs hg
    refine And.intro (fun h2 => ?_) (fun h2 => ?_)
    · refine And.intro (show (5 : Int) = validV t from ?_) trivial
      unfold validV
      rw [if_neg (by omega), if_neg]
      intro ha
      rw [e.2 ha] at h2
      cases h2
    · refine And.intro (show (0 : Int) = validV t from ?_) trivial
      unfold validV
      rw [if_neg (by omega), if_pos]
      refine e.1 ?_
      revert h2
      cases lightB t g <;> simp
end Go.Proofs.YtjlkhjgnfnfmgaaGreat
end
section
/- The reference's relations of Green (semigroupref15): contracts; the class of a table (semigroupref17). -/
namespace Go.Proofs.YtjlkhjgnfnfmgaaGreat
open Go Go.AM
set_option maxRecDepth 100000
def rowsB (n : Nat) (e : Nat → Nat → Bool) : List (List Bool) := (List.range n).map fun x => setB n (e x)
end Go.Proofs.YtjlkhjgnfnfmgaaGreat
end
section
/- The members of a set; regular matrices, by the reference. -/
namespace Go.Proofs.YtjlkhjgnfnfmgaaGreat
open Go Go.AM
set_option maxRecDepth 100000
def memTo (l : List Bool) (k : Nat) : List Int := ((List.range k).filter fun i => l.getD i false).map fun i : Nat => (i : Int)
def memV (l : List Bool) : List Int := memTo l l.length
theorem memTo_yes {l : List Bool} {k : Nat} (h : l.getD k false = true) : memTo l (k + 1) = memTo l k ++ [(k : Int)] := by
  unfold memTo; rw [List.range_succ, List.filter_append, List.map_append, List.filter_cons_of_pos (p := fun i => l.getD i false) h]; rfl
theorem memTo_no {l : List Bool} {k : Nat} (h : l.getD k false = false) : memTo l (k + 1) = memTo l k := by
  unfold memTo; rw [List.range_succ, List.filter_append, List.map_append, List.filter_cons_of_neg (p := fun i => l.getD i false) (by rw [h]; decide)]; exact List.append_nil _
theorem memTo_len {l : List Bool} {k : Nat} : (memTo l k).length ≤ k := by
  unfold memTo; rw [List.length_map]
  exact Nat.le_trans (List.length_filter_le _ _) (by simp)
theorem members_fn (l : List Bool) (hl : l.length ≤ 4096) : QF 127 [.ro (.bools l)] (.new (.ints .i64 (memV l))) := mkQ Tryz.func127 (by decide +kernel) rfl (Nat.le_of_ble_eq_true rfl) fun _ => by
  refine Exists.intro [] <| lp (X := Nat) (fun k => [(8, .int .i64 k), (3, .vec 17)]) (fun k => [(17, .vec 0 (.ints .i64 (memTo l k)) [])]) (fun k => k ≤ l.length) (fun k => l.length - k) 0 (Nat.zero_le _) (by repeat' first | refine And.intro ?_ ?_ | exact True.intro | (show (_ : Int) = (_ : Int); omega) | omega | exact rfl | (simp only [RO.len]; omega)) ?_
  intro k hk
  have hm := memTo_len (l := l) (k := k)
  refine And.intro (fun h1 => ?_) (fun h1 => ?_)
  · refine And.intro (by omega) ?_
    refine And.intro (fun h2 => ?_) (fun h2 => ?_)
    · have h2 : l.getD k false = true := h2
      refine And.intro (by rw [List.length_append, List.length_singleton]; omega) ?_
      refine And.intro (by omega) ?_
      refine nx (k + 1) (by omega) (show l.length - (k + 1) < l.length - k by omega) ?_
      refine And.intro (by repeat' first | refine And.intro ?_ ?_ | exact True.intro | (show (_ : Int) = (_ : Int); omega) | omega | exact rfl | (simp only [RO.len]; omega)) (And.intro (And.intro (And.intro (by omega) (Nat.zero_le _)) (congrArg (RO.ints .i64) (memTo_yes h2).symm)) ?_)
      repeat' first | refine And.intro ?_ ?_ | exact True.intro | (show (_ : Int) = (_ : Int); omega) | omega | exact rfl | (simp only [RO.len]; omega)
    · have h2 : l.getD k false = false := h2
      refine And.intro (by omega) ?_
      refine nx (k + 1) (by omega) (show l.length - (k + 1) < l.length - k by omega) ?_
      refine And.intro (by repeat' first | refine And.intro ?_ ?_ | exact True.intro | (show (_ : Int) = (_ : Int); omega) | omega | exact rfl | (simp only [RO.len]; omega)) (And.intro (And.intro (And.intro (by omega) (Nat.zero_le _)) (congrArg (RO.ints .i64) (memTo_no h2).symm)) ?_)
      repeat' first | refine And.intro ?_ ?_ | exact True.intro | (show (_ : Int) = (_ : Int); omega) | omega | exact rfl | (simp only [RO.len]; omega)
  · have h1 : k = l.length := by omega
    refine And.intro ?_ trivial
    refine And.intro rfl ?_
    show RO.ints .i64 (memTo l k) = RO.ints .i64 (memTo l l.length)
    rw [h1]
end Go.Proofs.YtjlkhjgnfnfmgaaGreat
end
section
/- Ideals of a table: plain. -/
namespace Go.Proofs.YtjlkhjgnfnfmgaaGreat
open Go Go.AM
open Classical
def inT (t : List (List Int)) (l : List Int) : Prop := ∀ x ∈ l, 0 ≤ x ∧ x < (t.length : Int)
instance (t : List (List Int)) (l : List Int) : Decidable (inT t l) := by unfold inT; infer_instance
end Go.Proofs.YtjlkhjgnfnfmgaaGreat
end
