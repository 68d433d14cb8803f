/- The reference's partitions (semigroupref03) and relations of Green (semigroupref15): contracts. -/
import Derived.Test.YteopelpnpdbbcaaPart
import Derived.Test.YteopelpnpdbbcaaPrinLaw
namespace Go.Proofs.Yteopelpnpdbbcaa
open Go Go.AM
set_option maxRecDepth 100000

theorem rcanon_k (p : List Int) : fnK TY SP Try.f56 [.ro (.ints .i64 p)] (.new (.ints .i64 (if p.length ≤ 4096 then canon p else []))) := by
  refine And.intro (fun h1 => ?_) (fun h1 => ?_)
  · refine And.intro ?_ trivial
    rw [if_neg (by omega)]; rfl
  rw [if_pos (by omega)]
  refine And.intro (by omega) ?_
  refine And.intro (by omega) ?_
  refine Exists.intro [] <| lp3 (fun (i : Nat) (_ : List Int) (m : List (List Int × Int)) => [(19, .int .i64 i), (4, .int .i64 m.length)]) (fun _ q m => [(15, .vec 0 (.ints .i64 q) []), (16, .map (.int .i64) (some .i64) m)]) (fun i q m => CanInv (fun x => [x]) 0 p i q m) (fun i _ _ => p.length - i) 0 (List.replicate p.length 0) [] .start (by repeat' first | refine And.intro ?_ ?_ | exact True.intro | (show (_ : Int) = (_ : Int); omega) | omega | exact rfl | (simp only [RO.len]; omega)) ?_
  intro i q m H
  have hle := H.le
  have hlen := H.len
  have hml := H.mle
  refine And.intro (fun h2 => ?_) (fun h2 => ?_)
  · have hil : i < p.length := by omega
    refine And.intro (by omega) ?_
    refine And.intro (fun h3 => ?_) (fun h3 => ?_)
    · obtain ⟨e1, e2⟩ := H.isNew key1 hil h3
      have e3 : (setM m [p.getD i 0] m.length).length = m.length + 1 := by
        have : getM m [p.getD i 0] = none := by
          have h3 : (!(getM m [p.getD i 0]).isSome) = true := h3
          cases hg : getM m [p.getD i 0] with
          | none => rfl
          | some v => rw [hg] at h3; cases h3
        rw [setM_new this]; simp
      refine And.intro (by omega) ?_
      refine And.intro (by omega) ?_
      refine And.intro (by omega) ?_
      refine And.intro (by omega) ?_
      refine nx (i + 1, q.set i m.length, setM m [p.getD i 0] m.length) (H.next hil e1 e2) (show p.length - (i + 1) < p.length - i by omega) ?_
      refine And.intro (And.intro rfl (And.intro ?_ trivial)) ?_
      · show (m.length : Int) + 1 = ((setM m [p.getD i 0] m.length).length : Int)
        rw [e3]; rfl
      · repeat' first | refine And.intro ?_ ?_ | exact True.intro | (show (_ : Int) = (_ : Int); omega) | omega | exact rfl | (simp only [RO.len]; omega)
    · obtain ⟨e1, e2⟩ := H.isOld key1 hil h3
      refine And.intro (by omega) ?_
      refine And.intro (by omega) ?_
      refine And.intro (by omega) ?_
      exact nx (i + 1, q.set i _, m) (H.next hil e1 e2) (show p.length - (i + 1) < p.length - i by omega) (by repeat' first | refine And.intro ?_ ?_ | exact True.intro | (show (_ : Int) = (_ : Int); omega) | omega | exact rfl | (simp only [RO.len]; omega))
  · refine And.intro ?_ trivial
    refine And.intro (by omega) ?_
    rw [H.done (by omega)]
theorem rcanon_fn (p : List Int) : QF 56 [.ro (.ints .i64 p)] (.new (.ints .i64 (if p.length ≤ 4096 then canon p else []))) := mkQ Try.func56 (by decide +kernel) rfl (Nat.le_of_ble_eq_true rfl) fun _ => rcanon_k p

theorem rcount_k (p : List Int) (hv : validP p) : fnK TY SP Try.f107 [.ro (.ints .i64 p)] (.int .i64 (classN p)) := by
  have hst := (validP_iff.1 hv).2
  have hlen := hv.1
  refine Exists.intro [] <| lp2 (fun (i : Nat) (c : Nat) => [(8, .int .i64 i), (3, .int .i64 c)]) (fun _ _ => []) (fun i c => i ≤ p.length ∧ c = (firsts (p.take i)).length) (fun i _ => p.length - i) 0 0 ⟨Nat.zero_le _, by simp [firsts]⟩ (by repeat' first | refine And.intro ?_ ?_ | exact True.intro | (show (_ : Int) = (_ : Int); omega) | omega | exact rfl | (simp only [RO.len]; omega)) ?_
  rintro i c ⟨hi, hc⟩
  refine And.intro (fun h1 => ?_) (fun h1 => ?_)
  · have hil : i < p.length := by omega
    have hs := hst i hil
    have hs1 : 0 ≤ p.getD i 0 := hs.1
    have hs2 : p.getD i 0 ≤ (firsts (p.take i)).length := hs.2
    have hfn := firsts_next hil (fun j hj => hst j (by omega)) hs
    have hle := firsts_le (p.take i)
    rw [List.length_take] at hle
    refine And.intro (by omega) ?_
    refine And.intro (show -9223372036854775808 ≤ p.getD i 0 + 1 ∧ p.getD i 0 + 1 ≤ 9223372036854775807 by omega) ?_
    refine And.intro (show -9223372036854775808 ≤ (i : Int) + 1 ∧ (i : Int) + 1 ≤ 9223372036854775807 by omega) ?_
    refine nx (i + 1, (firsts (p.take (i + 1))).length) ⟨by omega, rfl⟩ (show p.length - (i + 1) < p.length - i by omega) ?_
    refine And.intro (And.intro rfl ?_) trivial
    refine And.intro ?_ trivial
    show max (c : Int) (p.getD i 0 + 1) = ((firsts (p.take (i + 1))).length : Nat)
    rw [hfn]
    split <;> omega
  · refine And.intro ?_ trivial
    show (c : Int) = classN p
    have : p.take i = p := List.take_of_length_le (by omega)
    rw [hc, this]; rfl
theorem rcount_fn (p : List Int) (hv : validP p) : QF 107 [.ro (.ints .i64 p)] (.int .i64 (classN p)) := mkQ Try.func107 (by decide +kernel) rfl (Nat.le_of_ble_eq_true rfl) fun _ => rcount_k p hv

theorem rclasses_k (p : List Int) (h : validP p) : fnK TY SP Try.f59 [.ro (.ints .i64 p)] (.ro (.rows .i64 (classes (classN p) p))) := by
  have hlen := h.1
  have hrange : ∀ i, i < p.length → 0 ≤ p.getD i 0 ∧ p.getD i 0 < classN p := fun i hi => (valid_range h.2 _).2 (getD_mem hi)
  have hn : classN p ≤ p.length := firsts_le p
  refine Or.inl (cq (rcount_fn p h) (And.intro rfl trivial) ?_)
  refine And.intro (by omega) ?_
  refine And.intro (by omega) ?_
  refine Or.inr (Or.inl ?_)
  refine Exists.intro [] <| lp2 (fun (i : Nat) (_ : List (List Int)) => [(11, .int .i64 i)]) (fun _ c => [(8, .deep (.rows .i64 c) none)]) (fun i c => i ≤ p.length ∧ c.length = classN p ∧ ∀ k, k < classN p → c.getD k [] = upTo p i k) (fun i _ => p.length - i) 0 (List.replicate (classN p) []) ⟨Nat.zero_le _, by simp, fun k hk => by rw [upTo_zero]; simp [List.getD, hk]⟩ (by repeat' first | refine And.intro ?_ ?_ | exact True.intro | (show (_ : Int) = (_ : Int); omega) | omega | exact rfl | (simp only [RO.len]; omega)) ?_
  rintro i c ⟨hi, hc, hs⟩
  refine And.intro (fun h1 => ?_) (fun h1 => ?_)
  · have hil : i < p.length := by omega
    have hr := hrange i hil
    have hle := upTo_le p i (p.getD i 0).toNat
    rw [← hs (p.getD i 0).toNat (by omega)] at hle
    refine And.intro (by omega) ?_
    refine And.intro (show 0 ≤ p.getD i 0 ∧ p.getD i 0 < (c.length : Int) by omega) ?_
    refine And.intro (show ((c.getD (p.getD i 0).toNat [] ++ [(i : Int)]).length : Int) ≤ 17592186044416 by rw [List.length_append, List.length_singleton]; omega) ?_
    refine And.intro (show 0 ≤ p.getD i 0 ∧ p.getD i 0 < (c.length : Int) by omega) ?_
    refine And.intro rfl ?_
    refine And.intro (show -9223372036854775808 ≤ (i : Int) + 1 ∧ (i : Int) + 1 ≤ 9223372036854775807 by omega) ?_
    exact nx (i + 1, c.set (p.getD i 0).toNat (c.getD (p.getD i 0).toNat [] ++ [(i : Int)])) ⟨by omega, by rw [List.length_set]; exact hc, rows_next hc hs hr⟩ (show p.length - (i + 1) < p.length - i by omega) (by repeat' first | refine And.intro ?_ ?_ | exact True.intro | (show (_ : Int) = (_ : Int); omega) | omega | exact rfl | (simp only [RO.len]; omega))
  · refine And.intro ?_ trivial
    refine And.intro trivial ?_
    rw [rows_done hc hs (by omega)]
theorem rclasses_fn (p : List Int) (h : validP p) : QF 59 [.ro (.ints .i64 p)] (.ro (.rows .i64 (classes (classN p) p))) := mkQ Try.func59 (by decide +kernel) rfl (Nat.le_of_ble_eq_true rfl) fun _ => rclasses_k p h

/-- Two numberings written as one. -/
theorem canon_pairs {p q : List Int} (hl : p.length = q.length) (hq : ∀ i, i < q.length → 0 ≤ q.getD i 0 ∧ q.getD i 0 < 4096) {l : List Int} (hll : l.length = p.length) (h : ∀ i, i < p.length → l.getD i 0 = p.getD i 0 * 4096 + q.getD i 0) : canon l = canon (p.zip q) := by
  have hz : (p.zip q).length = p.length := by simp [hl]
  have zg : ∀ i, i < p.length → (p.zip q).getD i (0, 0) = (p.getD i 0, q.getD i 0) := fun i hi => by
    rw [getD_eq (by omega), getD_eq hi, getD_eq (by omega)]; simp
  refine canon_congr (d := 0) (e := (0, 0)) (by omega) fun i j hi hj => ?_
  rw [h i (by omega), h j (by omega), zg i (by omega), zg j (by omega)]
  have h1 := hq i (by omega)
  have h2 := hq j (by omega)
  constructor
  · intro he
    have e1 : p.getD i 0 = p.getD j 0 := by omega
    have e2 : q.getD i 0 = q.getD j 0 := by omega
    rw [e1, e2]
  · intro he
    have e1 := congrArg Prod.fst he
    have e2 := congrArg Prod.snd he
    simp only at e1 e2
    rw [e1, e2]

/-- The set of numbers below n as bools. -/
def setB (n : Nat) (f : Nat → Bool) : List Bool := (List.range n).map f
theorem setB_len (n : Nat) (f : Nat → Bool) : (setB n f).length = n := by simp [setB]
theorem setB_get {n : Nat} {f : Nat → Bool} {x : Nat} (hx : x < n) : (setB n f).getD x false = f x := by
  unfold setB
  rw [List.getD, List.getElem?_map, List.getElem?_range hx]; rfl
theorem setB_of {n : Nat} {f : Nat → Bool} {r : List Bool} (hl : r.length = n) (h : ∀ x, x < n → r.getD x false = f x) : r = setB n f := by
  refine List.ext_getElem (by rw [hl, setB_len]) fun j h1 h2 => ?_
  rw [← getD_eq (d := false) h1, ← getD_eq (d := false) h2, h j (by omega), setB_get (by omega)]
/-- One more member. -/
theorem setB_next {n i : Nat} {f : Nat → Bool} {r : List Bool} (hl : r.length = n) (h : ∀ x, x < n → r.getD x false = f x) (hi : i < n) : (r.set i true).length = n ∧ ∀ x, x < n → (r.set i true).getD x false = (f x || decide (x = i)) := by
  refine ⟨by rw [List.length_set]; exact hl, fun x hx => ?_⟩
  by_cases hxi : x = i
  · subst hxi; rw [getD_set_eq (by omega)]; simp
  · rw [getD_set_ne (Ne.symm hxi), h x hx]; simp [hxi]
theorem rep_false (n x : Nat) : (List.replicate n false).getD x false = false := by
  simp only [List.getD, List.getElem?_replicate]; split <;> rfl

theorem rset_k (l : List Int) (n : Nat) (hn : n ≤ 400) (hl : l.length ≤ 140737488355328) : fnK TY SP Try.f112 [.ro (.ints .i64 l), .int .i64 n] (.new (.bools (setB n fun x => l.contains (x : Int)))) := by
  refine And.intro (by omega) ?_
  refine And.intro (by omega) ?_
  refine Exists.intro [] <| lp2 (fun (i : Nat) (_ : List Bool) => [(12, .int .i64 i)]) (fun _ r => [(9, .vec 0 (.bools r) [])]) (fun i r => i ≤ l.length ∧ r.length = n ∧ ∀ x, x < n → r.getD x false = (l.take i).contains (x : Int)) (fun i _ => l.length - i) 0 (List.replicate n false) ⟨Nat.zero_le _, by simp, fun x hx => by rw [rep_false]; simp⟩ (by repeat' first | refine And.intro ?_ ?_ | exact True.intro | (show (_ : Int) = (_ : Int); omega) | omega | exact rfl | (simp only [RO.len]; omega)) ?_
  rintro i r ⟨hi, hr, hs⟩
  refine And.intro (fun h1 => ?_) (fun h1 => ?_)
  · have hil : i < l.length := by omega
    have skip : ¬ (0 ≤ l.getD i 0 ∧ l.getD i 0 < n) → ∀ x, x < n → r.getD x false = (l.take (i + 1)).contains (x : Int) := fun hno x hx => by
      rw [hs x hx, take_snoc (d := 0) hil, Bool.eq_iff_iff]
      simp only [List.contains_iff_mem, List.mem_append, List.mem_singleton]
      constructor
      · exact .inl
      · rintro (h | h)
        · exact h
        · omega
    refine And.intro (by omega) ?_
    refine And.intro (fun h2 => ?_) (fun h2 => ?_)
    · have h2 : 0 ≤ l.getD i 0 := h2
      refine And.intro (fun h3 => ?_) (fun h3 => ?_)
      · have h3 : l.getD i 0 < (n : Int) := h3
        refine And.intro (show 0 ≤ l.getD i 0 ∧ l.getD i 0 < (r.length : Int) by omega) ?_
        refine And.intro (show (0 : Int) ≤ l.getD i 0 by omega) ?_
        refine And.intro (by omega) ?_
        have hnx := setB_next hr hs (i := (l.getD i 0).toNat) (by omega)
        refine nx (i + 1, r.set (l.getD i 0).toNat true) ⟨by omega, hnx.1, fun x hx => ?_⟩ (show l.length - (i + 1) < l.length - i by omega) (by repeat' first | refine And.intro ?_ ?_ | exact True.intro | (show (_ : Int) = (_ : Int); omega) | omega | exact rfl | (simp only [RO.len]; omega))
        rw [hnx.2 x hx, take_snoc (d := 0) hil, Bool.eq_iff_iff]
        simp only [Bool.or_eq_true, decide_eq_true_eq, List.contains_iff_mem, List.mem_append, List.mem_singleton]
        exact or_congr Iff.rfl ⟨fun h => by omega, fun h => by omega⟩
      · have h3 : (n : Int) ≤ l.getD i 0 := h3
        refine And.intro (by omega) ?_
        exact nx (i + 1, r) ⟨by omega, hr, skip (by omega)⟩ (show l.length - (i + 1) < l.length - i by omega) (by repeat' first | refine And.intro ?_ ?_ | exact True.intro | (show (_ : Int) = (_ : Int); omega) | omega | exact rfl | (simp only [RO.len]; omega))
    · have h2 : l.getD i 0 < 0 := h2
      refine And.intro (by omega) ?_
      exact nx (i + 1, r) ⟨by omega, hr, skip (by omega)⟩ (show l.length - (i + 1) < l.length - i by omega) (by repeat' first | refine And.intro ?_ ?_ | exact True.intro | (show (_ : Int) = (_ : Int); omega) | omega | exact rfl | (simp only [RO.len]; omega))
  · refine And.intro ?_ trivial
    refine And.intro rfl ?_
    rw [setB_of hr fun x hx => by rw [hs x hx, List.take_of_length_le (by omega)]]
theorem rset_fn (l : List Int) (n : Nat) (hn : n ≤ 400) : QF 112 [.ro (.ints .i64 l), .int .i64 n] (.new (.bools (setB n fun x => l.contains (x : Int)))) := mkQ Try.func112 (by decide +kernel) rfl (Nat.le_of_ble_eq_true rfl) fun hf => rset_k l n hn hf.1.1
end Go.Proofs.Yteopelpnpdbbcaa
