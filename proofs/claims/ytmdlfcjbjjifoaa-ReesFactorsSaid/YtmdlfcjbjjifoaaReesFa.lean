/- ReesFactors, the walk: it returns true. -/
import Derived.Test.YtmdlfcjbjjifoaaReesAwake
import Derived.Test.YtmdlfcjbjjifoaaRefRees
import Derived.Test.YtmdlfcjbjjifoaaPrin
namespace Go.Proofs.Ytmdlfcjbjjifoaa
open Go Go.AM
set_option maxRecDepth 100000

theorem small_k (t : List (List Int)) (m : Int) : fnK TY SP Try.f30 [.ro (.rows .i64 t), .int .i64 m] (.bool (.v (decide (t.length ≤ m ∧ validV t = 0)))) := by
  refine And.intro (fun h1 => ?_) (fun h1 => ?_)
  · refine Or.inl (cq (rvalid_fn t) (And.intro rfl trivial) ?_)
    refine And.intro ?_ trivial
    show decide (validV t = 0) = decide ((t.length : Int) ≤ m ∧ validV t = 0)
    have h1 : (t.length : Int) ≤ m := h1
    simp [h1]
  · refine And.intro ?_ trivial
    show false = decide ((t.length : Int) ≤ m ∧ validV t = 0)
    have h1 : m < (t.length : Int) := h1
    have : ¬ (t.length : Int) ≤ m := by omega
    simp [this]
theorem small_fn (t : List (List Int)) (m : Int) : QF 30 [.ro (.rows .i64 t), .int .i64 m] (.bool (.v (decide (t.length ≤ m ∧ validV t = 0)))) := mkQ Try.func30 (by decide +kernel) rfl (Nat.le_of_ble_eq_true rfl) fun _ => small_k t m

theorem rin_k (t : List (List Int)) (l : List Int) (hl : l.length ≤ 140737488355328) : fnK TY SP Try.f31 [.ro (.rows .i64 t), .ro (.ints .i64 l)] (.bool (.v (decide (∀ x ∈ l, 0 ≤ x ∧ x < t.length)))) := by
  refine Exists.intro [] <| lp (X := Nat) (fun i => [(9, .int .i64 i)]) (fun _ => []) (fun i => i ≤ l.length ∧ ∀ k, k < i → 0 ≤ l.getD k 0 ∧ l.getD k 0 < t.length) (fun i => l.length - i) 0 ⟨Nat.zero_le _, fun k hk => absurd hk (Nat.not_lt_zero _)⟩ (by repeat' first | refine And.intro ?_ ?_ | exact True.intro | (show (_ : Int) = (_ : Int); omega) | omega | exact rfl | (simp only [RO.len]; omega)) ?_
  rintro i ⟨hi, hs⟩
  have no : ∀ {i : Nat}, i < l.length → ¬ (0 ≤ l.getD i 0 ∧ l.getD i 0 < t.length) → false = decide (∀ x ∈ l, 0 ≤ x ∧ x < t.length) := fun hi hn => by
    symm
    rw [decide_eq_false_iff_not]
    exact fun hh => hn (hh _ (getD_mem hi))
  refine And.intro (fun h1 => ?_) (fun h1 => ?_)
  · have hil : i < l.length := by omega
    refine And.intro (by omega) ?_
    refine And.intro (fun h2 => ?_) (fun h2 => ?_)
    · have h2 : l.getD i 0 < 0 := h2
      exact And.intro (no hil (by omega)) trivial
    have h2 : 0 ≤ l.getD i 0 := h2
    refine And.intro (fun h3 => ?_) (fun h3 => ?_)
    · have h3 : (t.length : Int) ≤ l.getD i 0 := h3
      exact And.intro (no hil (by omega)) trivial
    have h3 : l.getD i 0 < (t.length : Int) := h3
    refine And.intro (by omega) ?_
    refine nx (i + 1) ⟨by omega, fun k hk => ?_⟩ (show l.length - (i + 1) < l.length - i by omega) (by repeat' first | refine And.intro ?_ ?_ | exact True.intro | (show (_ : Int) = (_ : Int); omega) | omega | exact rfl | (simp only [RO.len]; omega))
    by_cases hki : k = i
    · rw [hki]; exact ⟨h2, h3⟩
    · exact hs k (by omega)
  · refine And.intro ?_ trivial
    show true = decide (∀ x ∈ l, 0 ≤ x ∧ x < (t.length : Int))
    symm
    rw [decide_eq_true_eq]
    intro x hx
    obtain ⟨k, hk, rfl⟩ := mem_getD 0 hx
    exact hs k (by omega)
theorem rin_fn (t : List (List Int)) (l : List Int) : QF 31 [.ro (.rows .i64 t), .ro (.ints .i64 l)] (.bool (.v (decide (∀ x ∈ l, 0 ≤ x ∧ x < t.length)))) := mkQ Try.func31 (by decide +kernel) rfl (Nat.le_of_ble_eq_true rfl) fun hf => rin_k t l hf.2.1.1

theorem prin_first {t : List (List Int)} {j x : Nat} (hj : j < numJ t) (hx : x < (prinList t j).length) (h : (prinList t j).getD x 0 < 0) : x = 0 := by
  rcases prin_get hj hx with ⟨h1, h2⟩ | h1
  · have h0 := (prin_len hj).1
    have z := prin_zero (t := t) (j := j) h2
    have e1 := (prin_nodup hj).idxOf_getElem x hx
    have e2 := (prin_nodup hj).idxOf_getElem 0 h0
    rw [← getD_eq (d := 0) hx, h1] at e1
    rw [← getD_eq (d := 0) h0, z] at e2
    omega
  · omega

theorem prin_mul2 {t : List (List Int)} (h : Semi t) {j x y : Nat} (hj : j < numJ t) (hx : x < (prinList t j).length) (hy : y < (prinList t j).length) (h5 : 0 ≤ (prinList t j).getD x 0) (h6 : 0 ≤ (prinList t j).getD y 0) :
    ((classJ t).getD (en t ((prinList t j).getD x 0).toNat ((prinList t j).getD y 0).toNat) 0 = (j : Int) ∧ (prinList t j).getD (en (prinTab t j) x y) 0 = (en t ((prinList t j).getD x 0).toNat ((prinList t j).getD y 0).toNat : Nat)) ∨
    ((classJ t).getD (en t ((prinList t j).getD x 0).toNat ((prinList t j).getD y 0).toNat) 0 ≠ (j : Int) ∧ (prinList t j).getD (en (prinTab t j) x y) 0 = -1) := by
  rcases prin_mul h hj hx hy with ⟨a, b, ha, hb, va, vb, ca, cb, pm⟩ | ⟨p0, _⟩
  · have ea : ((prinList t j).getD x 0).toNat = a := by omega
    have eb : ((prinList t j).getD y 0).toNat = b := by omega
    rw [ea, eb]
    rcases pm with ⟨q1, _, q3⟩ | ⟨q1, q2, q3⟩
    · exact Or.inl ⟨q1, q3⟩
    · exact Or.inr ⟨q1, by rw [q3]; exact prin_zero q2⟩
  · omega

set_option maxHeartbeats 1000000 in
theorem reesFa_k (t : List (List Int)) : fnK TY SP Try.f8 [.ro (.rows .i64 t)] (.bool (.lit true)) := by
  refine Or.inl (cq (small_fn t 14) (And.intro rfl (And.intro rfl trivial)) ?_)
  refine And.intro (fun h1 => ?_) (fun h1 => ?_)
  · exact Or.inl (cq awake_fn trivial (And.intro rfl trivial))
  have hv : (t.length : Int) ≤ 14 ∧ validV t = 0 := by
    by_cases hh : (t.length : Int) ≤ 14 ∧ validV t = 0
    · exact hh
    · rw [decide_eq_false hh] at h1; cases h1
  have h := valid_zero.1 hv.2
  have hbl := belowL_len t
  have hjl := classJ_len t
  have hle := numJ_le t
  refine Or.inl (cq (green_fn t h) (And.intro rfl trivial) ?_)
  refine Exists.intro [] <| lp (X := Nat) (fun j => [(23, .int .i64 j)]) (fun _ => []) (fun j => j ≤ numJ t) (fun j => numJ t - j) 0 (Nat.zero_le _) (by repeat' first | refine And.intro ?_ ?_ | exact True.intro | (show (_ : Int) = (_ : Int); omega) | omega | exact rfl | (simp only [RO.len]; omega)) ?_
  intro j hjn
  refine And.intro (fun h2 => ?_) (fun h2 => ?_)
  · have hj : j < numJ t := by omega
    have hpl := prin_len hj
    have hps := prin_semi h hj
    have hpt := prinTab_len (t := t) (j := j)
    refine Or.inl (cq (prin_fn t h j hj) (And.intro rfl (And.intro rfl trivial)) ?_)
    refine And.intro (fun h => absurd rfl h) (fun _ => ?_)
    refine Or.inl (cq (valid_fn (prinTab t j)) (And.intro rfl trivial) ?_)
    refine And.intro (fun h => absurd (valid_zero.2 hps) h) (fun _ => ?_)
    refine And.intro (fun h => absurd (show ((prinList t j).length : Int) = ((prinTab t j).length : Int) by omega) h) (fun _ => ?_)
    refine Exists.intro [] <| lp (X := Nat) (fun x => [(49, .int .i64 x)]) (fun _ => []) (fun x => x ≤ (prinList t j).length) (fun x => (prinList t j).length - x) 0 (Nat.zero_le _) (by repeat' first | refine And.intro ?_ ?_ | exact True.intro | (show (_ : Int) = (_ : Int); omega) | omega | exact rfl | (simp only [RO.len]; omega)) ?_
    intro x hxn
    refine And.intro (fun h3 => ?_) (fun h3 => ?_)
    · have hx : x < (prinList t j).length := by omega
      have gx := prin_get hj hx
      have hpr := hps.toSh.len (show x < (prinTab t j).length by omega)
      refine And.intro (by omega) ?_
      refine Exists.intro [] <| lp (X := Nat) (fun y => [(56, .int .i64 y)]) (fun _ => []) (fun y => y ≤ (prinList t j).length) (fun y => (prinList t j).length - y) 0 (Nat.zero_le _) (by repeat' first | refine And.intro ?_ ?_ | exact True.intro | (show (_ : Int) = (_ : Int); omega) | omega | exact rfl | (simp only [RO.len]; omega)) ?_
      intro y hyn
      refine And.intro (fun h4 => ?_) (fun h4 => ?_)
      · have hy : y < (prinList t j).length := by omega
        have gy := prin_get hj hy
        have hpe := prinTab_get (t := t) (j := j) hx hy
        refine And.intro (by omega) ?_
        refine And.intro (fun h5 => ?_) (fun h5 => ?_)
        · have h5 : (prinList t j).getD x 0 < 0 := h5
          have hv0 := prinV_out (t := t) (j := j) (a := (prinList t j).getD x 0) (b := (prinList t j).getD y 0) fun hh => by omega
          have hx0 := prin_first hj hx h5
          refine And.intro (by omega) ?_
          refine And.intro (show 0 ≤ (y : Int) ∧ (y : Int) < (((prinTab t j).getD x []).length : Int) by omega) ?_
          refine And.intro (fun h6 => absurd (show ((prinTab t j).getD x []).getD y 0 = 0 from hpe.trans hv0) h6) (fun _ => ?_)
          refine And.intro (fun _ => ?_) (fun h6 => absurd (show 0 ≤ (prinList t j).getD x 0 from h6) (by omega))
          refine And.intro (fun h6 => absurd (show (x : Int) = 0 by omega) h6) (fun _ => ?_)
          refine And.intro (by omega) ?_
          exact nx (y + 1) (show y + 1 ≤ (prinList t j).length by omega) (show (prinList t j).length - (y + 1) < (prinList t j).length - y by omega) (by repeat' first | refine And.intro ?_ ?_ | exact True.intro | (show (_ : Int) = (_ : Int); omega) | omega | exact rfl | (simp only [RO.len]; omega))
        have h5 : 0 ≤ (prinList t j).getD x 0 := h5
        refine And.intro (fun h6 => ?_) (fun h6 => ?_)
        · have h6 : (prinList t j).getD y 0 < 0 := h6
          have hv0 := prinV_out (t := t) (j := j) (a := (prinList t j).getD x 0) (b := (prinList t j).getD y 0) fun hh => by omega
          refine And.intro (by omega) ?_
          refine And.intro (show 0 ≤ (y : Int) ∧ (y : Int) < (((prinTab t j).getD x []).length : Int) by omega) ?_
          refine And.intro (fun h7 => absurd (show ((prinTab t j).getD x []).getD y 0 = 0 from hpe.trans hv0) h7) (fun _ => ?_)
          refine And.intro (fun h7 => absurd (show (prinList t j).getD x 0 < 0 from h7) (by omega)) (fun _ => ?_)
          refine And.intro (by omega) ?_
          exact nx (y + 1) (show y + 1 ≤ (prinList t j).length by omega) (show (prinList t j).length - (y + 1) < (prinList t j).length - y by omega) (by repeat' first | refine And.intro ?_ ?_ | exact True.intro | (show (_ : Int) = (_ : Int); omega) | omega | exact rfl | (simp only [RO.len]; omega))
        have h6 : 0 ≤ (prinList t j).getD y 0 := h6
        have ax : ((prinList t j).getD x 0).toNat < t.length := by omega
        have ay : ((prinList t j).getD y 0).toNat < t.length := by omega
        have e1 := h.toSh.ent ax ay
        have hrl := h.toSh.len ax
        have hin : ∀ v ∈ [(prinList t j).getD x 0, (prinList t j).getD y 0], 0 ≤ v ∧ v < (t.length : Int) := fun v hvm => by
          simp only [List.mem_cons, List.not_mem_nil, or_false] at hvm
          rcases hvm with rfl | rfl <;> omega
        have e2 := hps.toSh.ent (show x < (prinTab t j).length by omega) (show y < (prinTab t j).length by omega)
        refine Or.inl (cq (rin_fn t [(prinList t j).getD x 0, (prinList t j).getD y 0]) (And.intro rfl (And.intro rfl trivial)) ?_)
        refine And.intro (fun h7 => absurd h7 (by rw [decide_eq_true hin]; simp)) (fun _ => ?_)
        refine And.intro (show 0 ≤ (prinList t j).getD x 0 ∧ (prinList t j).getD x 0 < ((classJ t).length : Int) by omega) ?_
        refine And.intro (fun h7 => absurd (show (classJ t).getD ((prinList t j).getD x 0).toNat 0 = (j : Int) by omega) h7) (fun _ => ?_)
        refine Exists.intro [false, false, false, false, false, false, false, false, false, false, false, false, false, false, false, false] (And.intro (by decide +kernel) ?_)
        refine And.intro (show 0 ≤ (prinList t j).getD x 0 ∧ (prinList t j).getD x 0 < (t.length : Int) by omega) ?_
        refine And.intro (show 0 ≤ (prinList t j).getD y 0 ∧ (prinList t j).getD y 0 < ((t.getD ((prinList t j).getD x 0).toNat []).length : Int) by omega) ?_
        refine And.intro (by omega) ?_
        refine And.intro (show 0 ≤ (y : Int) ∧ (y : Int) < (((prinTab t j).getD x []).length : Int) by omega) ?_
        have hcb : 0 ≤ (t.getD ((prinList t j).getD x 0).toNat []).getD ((prinList t j).getD y 0).toNat 0 ∧ (t.getD ((prinList t j).getD x 0).toNat []).getD ((prinList t j).getD y 0).toNat 0 < ((classJ t).length : Int) := by omega
        have hzb : 0 ≤ ((prinTab t j).getD x []).getD y 0 ∧ ((prinTab t j).getD x []).getD y 0 < ((prinList t j).length : Int) := by omega
        refine Or.elim (prin_mul2 h hj hx hy h5 h6) (fun pq => ?_) (fun pq => ?_)
        · have g1 : (classJ t).getD ((t.getD ((prinList t j).getD x 0).toNat []).getD ((prinList t j).getD y 0).toNat 0).toNat 0 = (j : Int) := pq.1
          have g2 : (prinList t j).getD (((prinTab t j).getD x []).getD y 0).toNat 0 = (t.getD ((prinList t j).getD x 0).toNat []).getD ((prinList t j).getD y 0).toNat 0 := pq.2.trans e1.1.symm
          refine And.intro hcb ?_
          refine And.intro (fun _ => ?_) (fun h7 => absurd g1 h7)
          refine And.intro hzb ?_
          refine And.intro (fun h7 => absurd g2 h7) (fun _ => ?_)
          refine And.intro hcb ?_
          refine And.intro (fun h7 => absurd g1 h7) (fun _ => ?_)
          refine And.intro (by omega) ?_
          exact nx (y + 1) (show y + 1 ≤ (prinList t j).length by omega) (show (prinList t j).length - (y + 1) < (prinList t j).length - y by omega) (by repeat' first | refine And.intro ?_ ?_ | exact True.intro | (show (_ : Int) = (_ : Int); omega) | omega | exact rfl | (simp only [RO.len]; omega))
        · have g1 : (classJ t).getD ((t.getD ((prinList t j).getD x 0).toNat []).getD ((prinList t j).getD y 0).toNat 0).toNat 0 ≠ (j : Int) := pq.1
          have g2 : (prinList t j).getD (((prinTab t j).getD x []).getD y 0).toNat 0 = -1 := pq.2
          refine And.intro hcb ?_
          refine And.intro (fun h7 => absurd h7 g1) (fun _ => ?_)
          refine And.intro hcb ?_
          refine And.intro (fun _ => ?_) (fun h7 => absurd h7 g1)
          refine And.intro hzb ?_
          refine And.intro (fun h7 => absurd g2 h7) (fun _ => ?_)
          refine And.intro (by omega) ?_
          exact nx (y + 1) (show y + 1 ≤ (prinList t j).length by omega) (show (prinList t j).length - (y + 1) < (prinList t j).length - y by omega) (by repeat' first | refine And.intro ?_ ?_ | exact True.intro | (show (_ : Int) = (_ : Int); omega) | omega | exact rfl | (simp only [RO.len]; omega))
      · refine And.intro (by omega) ?_
        exact nx (x + 1) (show x + 1 ≤ (prinList t j).length by omega) (show (prinList t j).length - (x + 1) < (prinList t j).length - x by omega) (by repeat' first | refine And.intro ?_ ?_ | exact True.intro | (show (_ : Int) = (_ : Int); omega) | omega | exact rfl | (simp only [RO.len]; omega))
    · refine And.intro (by omega) ?_
      exact nx (j + 1) (show j + 1 ≤ numJ t by omega) (show numJ t - (j + 1) < numJ t - j by omega) (by repeat' first | refine And.intro ?_ ?_ | exact True.intro | (show (_ : Int) = (_ : Int); omega) | omega | exact rfl | (simp only [RO.len]; omega))
  · have hpos : 0 < numJ t := mem_numJ.2 ⟨0, h.pos, by rw [classJ_zero h.pos]; rfl⟩
    refine And.intro (fun _ => ?_) (fun h7 => absurd (show ((belowL t).length : Int) ≤ 0 from h7) (by omega))
    exact Or.inl (cq awake_fn trivial (And.intro rfl trivial))
theorem reesFa_fn (t : List (List Int)) : QF 8 [.ro (.rows .i64 t)] (.bool (.lit true)) := mkQ Try.func8 (by decide +kernel) rfl (Nat.le_of_ble_eq_true rfl) fun _ => reesFa_k t
end Go.Proofs.Ytmdlfcjbjjifoaa
