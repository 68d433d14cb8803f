import Derived.Test.YteopelpnpdbbcaaCgSyn
import Derived.Test.YteopelpnpdbbcaaAmStk
import Derived.Test.YteopelpnpdbbcaaGroup
import Derived.Test.YteopelpnpdbbcaaRefCg
import Derived.Test.YteopelpnpdbbcaaEqvLaw
import Derived.Test.YteopelpnpdbbcaaCgGnr
import Derived.Test.YteopelpnpdbbcaaCgMin
import Derived.Test.YteopelpnpdbbcaaRows
import Derived.Deep.Matrix
import Derived.Deep.Fields
import Derived.SizedLaws
import Derived.Carry
import Derived.WideKeyArgs
import Derived.ProofKit
import Derived.OpenShut
section
/- Package partition: Refines; mult.Opposite: contracts. -/
namespace Go.Proofs.Yteopelpnpdbbcaa
open Go Go.AM
set_option maxRecDepth 100000
def Rf (p q : List Int) : Prop := ∀ i j, i < p.length → j < p.length → p.getD i 0 = p.getD j 0 → q.getD i 0 = q.getD j 0
noncomputable def rfB (p q : List Int) : Bool := @decide (Rf p q) (Classical.propDecidable _)
theorem rfB_true {p q : List Int} : rfB p q = true ↔ Rf p q := by unfold rfB; exact @decide_eq_true_iff _ (Classical.propDecidable _)
theorem rfB_false {p q : List Int} : rfB p q = false ↔ ¬ Rf p q := by unfold rfB; exact @decide_eq_false_iff_not _ (Classical.propDecidable _)
theorem prefn_fn (p q : List Int) (hp : validP p) (hq : validP q) (hl : p.length = q.length) : QF 38 [.ro (.ints .i64 p), .ro (.ints .i64 q)] (.bool (.v (rfB p q))) := mkQ Try.func38 (by decide +kernel) rfl (Nat.le_of_ble_eq_true rfl) fun _ => by
  have hm : matchP p q := ⟨hl, hp, hq⟩
  have hcl : (classes (classN p) p).length = classN p := by simp [classes]
  have hcn : classN p ≤ p.length := firsts_le p
  have hpl := hp.1
  refine Or.inl (cq (pmatch_fn p q) (And.intro rfl (And.intro rfl trivial)) ?_)
  refine And.intro (fun h1 => ?_) (fun _ => ?_)
  · have h1 : (!decide (matchP p q)) = true := h1
    rw [decide_eq_true hm] at h1; cases h1
  refine Or.inl (cq (pclasses_fn p hp) (And.intro rfl trivial) ?_)
  refine Exists.intro [] <| lp (X := Nat) (fun c => [(16, .int .i64 c)]) (fun _ => []) (fun c => c ≤ classN p ∧ ∀ c', c' < c → ∀ x ∈ (classes (classN p) p).getD c' [], q.getD x.toNat 0 = q.getD (hdN p c') 0) (fun c => classN p - c) 0 ⟨Nat.zero_le _, fun c h => absurd h (Nat.not_lt_zero _)⟩ (by repeat' first | refine And.intro ?_ ?_ | exact True.intro | (show (_ : Int) = (_ : Int); omega) | omega | exact rfl | (simp only [RO.len]; omega)) ?_
  intro c ⟨hc, hci⟩
  refine And.intro (fun h1 => ?_) (fun h1 => ?_)
  · have h1 : (c : Int) < ((classes (classN p) p).length : Int) := h1
    have hcl2 : c < classN p := by omega
    have k := hd_at hp.2 hcl2
    have kp := cls_pos hp.2 hcl2
    have hcll : ((classes (classN p) p).getD c []).length ≤ p.length := by
      rw [classes_getD hcl2, List.length_map]
      have := List.length_filter_le (fun i => decide (p.getD i 0 = (c : Int))) (List.range p.length)
      rw [List.length_range] at this; exact this
    refine And.intro (by omega) ?_
    refine Exists.intro [] <| lp (X := Nat) (fun m => [(22, .int .i64 m)]) (fun _ => []) (fun m => m ≤ ((classes (classN p) p).getD c []).length ∧ ∀ m', m' < m → q.getD (((classes (classN p) p).getD c []).getD m' 0).toNat 0 = q.getD (hdN p c) 0) (fun m => ((classes (classN p) p).getD c []).length - m) 0 ⟨Nat.zero_le _, fun m h => absurd h (Nat.not_lt_zero _)⟩ (by repeat' first | refine And.intro ?_ ?_ | exact True.intro | (show (_ : Int) = (_ : Int); omega) | omega | exact rfl | (simp only [RO.len]; omega)) ?_
    intro m ⟨hm, hmi⟩
    refine And.intro (fun h2 => ?_) (fun h2 => ?_)
    · have h2 : (m : Int) < (((classes (classN p) p).getD c []).length : Int) := h2
      have hml : m < ((classes (classN p) p).getD c []).length := by omega
      have hx := (mem_classes (p := p) hcl2).1 (getD_mem (d := 0) hml)
      have th : (((classes (classN p) p).getD c []).getD 0 0).toNat = hdN p c := by rw [k.2.2]; exact Int.toNat_natCast _
      refine And.intro (by omega) ?_
      refine Or.inl ?_
      refine Exists.intro [false, false, false, false, false, false, false, false, false, false, false] (And.intro (by decide +kernel) ?_)
      refine And.intro (show 0 ≤ ((classes (classN p) p).getD c []).getD m 0 ∧ ((classes (classN p) p).getD c []).getD m 0 < (q.length : Int) by omega) ?_
      refine And.intro (by simp only [Int.toNat_natCast]; omega) ?_
      refine And.intro (show 0 ≤ ((classes (classN p) p).getD c []).getD 0 0 ∧ ((classes (classN p) p).getD c []).getD 0 0 < (q.length : Int) by omega) ?_
      refine And.intro (fun h3 => ?_) (fun h3 => ?_)
      · have h3 : q.getD (((classes (classN p) p).getD c []).getD m 0).toNat 0 ≠ q.getD (((classes (classN p) p).getD c []).getD 0 0).toNat 0 := h3
        rw [th] at h3
        refine And.intro ?_ trivial
        refine (rfB_false.2 fun h4 => h3 (h4 _ _ (by omega) (by omega) ?_)).symm
        rw [hx.2.2, k.2.1]
      · have h3 : q.getD (((classes (classN p) p).getD c []).getD m 0).toNat 0 = q.getD (((classes (classN p) p).getD c []).getD 0 0).toNat 0 := h3
        rw [th] at h3
        refine And.intro (by omega) ?_
        refine nx (m + 1) ⟨show m + 1 ≤ _ by omega, fun m' hm' => ?_⟩ (show ((classes (classN p) p).getD c []).length - (m + 1) < ((classes (classN p) p).getD c []).length - m by omega) (by repeat' first | refine And.intro ?_ ?_ | exact True.intro | (show (_ : Int) = (_ : Int); omega) | omega | exact rfl | (simp only [RO.len]; omega))
        by_cases e : m' = m
        · subst e; exact h3
        · exact hmi m' (by omega)
    · have h2 : (((classes (classN p) p).getD c []).length : Int) ≤ (m : Int) := h2
      refine And.intro (by omega) ?_
      refine nx (c + 1) ⟨show c + 1 ≤ _ by omega, fun c' hc' x hx => ?_⟩ (show classN p - (c + 1) < classN p - c by omega) (by repeat' first | refine And.intro ?_ ?_ | exact True.intro | (show (_ : Int) = (_ : Int); omega) | omega | exact rfl | (simp only [RO.len]; omega))
      by_cases e : c' = c
      · subst e
        obtain ⟨m', hm', rfl⟩ := mem_getD 0 hx
        exact hmi m' (by omega)
      · exact hci c' (by omega) x hx
  · have h1 : ((classes (classN p) p).length : Int) ≤ (c : Int) := h1
    refine And.intro ?_ trivial
    refine (rfB_true.2 fun i j hi hj e => ?_).symm
    have ki := cls_lt hp.2 hi
    have mi := (mem_classes (p := p) ki.2.1 (x := (i : Int))).2 ⟨by omega, by omega, by rw [Int.toNat_natCast]; exact ki.2.2⟩
    have mj := (mem_classes (p := p) ki.2.1 (x := (j : Int))).2 ⟨by omega, by omega, by rw [Int.toNat_natCast, ← e]; exact ki.2.2⟩
    have e1 := hci _ (by omega) _ mi
    have e2 := hci _ (by omega) _ mj
    rw [Int.toNat_natCast] at e1 e2
    rw [e1, e2]
/-! ### The opposite semigroup -/
end Go.Proofs.Yteopelpnpdbbcaa
end
section
/- The statements CongrLeast and CongrSides: the walks. -/
namespace Go.Proofs.Yteopelpnpdbbcaa
open Go Go.AM
set_option maxRecDepth 100000
theorem small19_fn (t : List (List Int)) (m : Int) : QF 35 [.ro (.rows .i64 t), .int .i64 m] (.bool (.v (decide ((t.length : Int) ≤ m ∧ validV t = 0)))) := mkQ Try.func35 (by decide +kernel) rfl (Nat.le_of_ble_eq_true rfl) fun _ => by
  refine And.intro (fun h1 => ?_) (fun h1 => ?_)
  · have h1 : (t.length : Int) ≤ m := h1
    refine Or.inl (cq (rvalid_fn t) (And.intro rfl trivial) ?_)
    refine And.intro ?_ trivial
    show decide (validV t = 0) = decide ((t.length : Int) ≤ m ∧ validV t = 0)
    simp [h1]
  · have h1 : m < (t.length : Int) := h1
    refine And.intro ?_ trivial
    show false = decide ((t.length : Int) ≤ m ∧ validV t = 0)
    rw [decide_eq_false (fun h => by omega)]
end Go.Proofs.Yteopelpnpdbbcaa
end
section
/- Are all numbers elements? The reference. -/
namespace Go.Proofs.Yteopelpnpdbbcaa
open Go Go.AM
set_option maxRecDepth 100000
theorem rin_k (t : List (List Int)) (l : List Int) (hl : l.length ≤ 140737488355328) : fnK TY SP Try.f45 [.ro (.rows .i64 t), .ro (.ints .i64 l)] (.bool (.v (decide (∀ x ∈ l, 0 ≤ x ∧ x < t.length)))) := by
  refine Exists.intro [] <| lp (X := Nat) (fun i => [(9, .int .i64 i)]) (fun _ => []) (fun i => i ≤ l.length ∧ ∀ k, k < i → 0 ≤ l.getD k 0 ∧ l.getD k 0 < t.length) (fun i => l.length - i) 0 ⟨Nat.zero_le _, fun k hk => absurd hk (Nat.not_lt_zero _)⟩ (by repeat' first | refine And.intro ?_ ?_ | exact True.intro | (show (_ : Int) = (_ : Int); omega) | omega | exact rfl | (simp only [RO.len]; omega)) ?_
  rintro i ⟨hi, hs⟩
  have no : ∀ {i : Nat}, i < l.length → ¬ (0 ≤ l.getD i 0 ∧ l.getD i 0 < t.length) → false = decide (∀ x ∈ l, 0 ≤ x ∧ x < t.length) := fun hi hn => by
    symm
    rw [decide_eq_false_iff_not]
    exact fun hh => hn (hh _ (getD_mem hi))
  refine And.intro (fun h1 => ?_) (fun h1 => ?_)
  · have hil : i < l.length := by omega
    refine And.intro (by omega) ?_
    refine And.intro (fun h2 => ?_) (fun h2 => ?_)
    · have h2 : l.getD i 0 < 0 := h2
      exact And.intro (no hil (by omega)) trivial
    have h2 : 0 ≤ l.getD i 0 := h2
    refine And.intro (fun h3 => ?_) (fun h3 => ?_)
    · have h3 : (t.length : Int) ≤ l.getD i 0 := h3
      exact And.intro (no hil (by omega)) trivial
    have h3 : l.getD i 0 < (t.length : Int) := h3
    refine And.intro (by omega) ?_
    refine nx (i + 1) ⟨by omega, fun k hk => ?_⟩ (show l.length - (i + 1) < l.length - i by omega) (by repeat' first | refine And.intro ?_ ?_ | exact True.intro | (show (_ : Int) = (_ : Int); omega) | omega | exact rfl | (simp only [RO.len]; omega))
    by_cases hki : k = i
    · rw [hki]; exact ⟨h2, h3⟩
    · exact hs k (by omega)
  · refine And.intro ?_ trivial
    show true = decide (∀ x ∈ l, 0 ≤ x ∧ x < (t.length : Int))
    symm
    rw [decide_eq_true_eq]
    intro x hx
    obtain ⟨k, hk, rfl⟩ := mem_getD 0 hx
    exact hs k (by omega)
theorem rin_fn (t : List (List Int)) (l : List Int) : QF 45 [.ro (.rows .i64 t), .ro (.ints .i64 l)] (.bool (.v (decide (∀ x ∈ l, 0 ≤ x ∧ x < t.length)))) := mkQ Try.func45 (by decide +kernel) rfl (Nat.le_of_ble_eq_true rfl) fun hf => rin_k t l hf.2.1.1
end Go.Proofs.Yteopelpnpdbbcaa
end
section
/- The statement CongrAtoms: the walk. -/
namespace Go.Proofs.Yteopelpnpdbbcaa
open Go Go.AM
set_option maxRecDepth 100000
theorem rf_sub {p q : List Int} {n : Nat} (hp : p.length = n) : rfB p q = true ↔ Sub n p q := by
  rw [rfB_true, ← hp]; exact Iff.rfl
theorem cls_inj {n : Nat} {p : List Int} (hp : p.length = n) (hc : classN p = n) {a b : Nat} (ha : a < n) (hb : b < n) (e : p.getD a 0 = p.getD b 0) : a = b := Classical.byContradiction fun hne => by
  have h1 := cnt_del (P := fun _ => true) (M := b) (n := n) hb rfl
  have h2 := nodup_sub (firsts_nodup p) (B := ((List.range n).filter fun i => true && decide (i ≠ b)).map fun i => p.getD i 0) fun x hx => by
    obtain ⟨j, hj, rfl⟩ := mem_getD 0 (mem_firsts.1 hx)
    by_cases e1 : j = b
    · exact List.mem_map.2 ⟨a, List.mem_filter.2 ⟨List.mem_range.2 ha, by simp [hne]⟩, by rw [e1]; exact e⟩
    · exact List.mem_map.2 ⟨j, List.mem_filter.2 ⟨List.mem_range.2 (by omega), by simp [e1]⟩, rfl⟩
  rw [List.length_map] at h2
  have h3 : ((List.range n).filter fun _ => true).length = n := by rw [List.filter_eq_self.2 (fun _ _ => rfl), List.length_range]
  unfold classN at hc
  omega
def abvB (M : List (List Int)) (p : List Int) (k : Nat) : Prop := ∃ i, i < k ∧ rfB (M.getD i []) p = true
noncomputable def abv (M : List (List Int)) (p : List Int) (k : Nat) : Bool := @decide (abvB M p k) (Classical.propDecidable _)
theorem abv_true {M : List (List Int)} {p : List Int} {k : Nat} : abv M p k = true ↔ abvB M p k := by unfold abv; exact @decide_eq_true_iff _ (Classical.propDecidable _)
theorem abv_zero (M : List (List Int)) (p : List Int) : abv M p 0 = false := Bool.eq_false_iff.2 fun h => by obtain ⟨i, hi, _⟩ := abv_true.1 h; omega
theorem abv_succ {M : List (List Int)} {p : List Int} {k : Nat} : abv M p (k + 1) = (abv M p k || rfB (M.getD k []) p) := by
  rw [Bool.eq_iff_iff, Bool.or_eq_true, abv_true, abv_true]
  constructor
  · rintro ⟨i, hi, h⟩
    by_cases e : i = k
    · rw [e] at h; exact .inr h
    · exact .inl ⟨i, by omega, h⟩
  · rintro (⟨i, hi, h⟩ | h)
    · exact ⟨i, by omega, h⟩
    · exact ⟨k, by omega, h⟩
set_option maxHeartbeats 2000000 in
theorem cgAtm_k (t : List (List Int)) (x y : Int) (hs : Semi t) (hn : t.length ≤ 8) (hx : 0 ≤ x ∧ x < (t.length : Int)) (hy : 0 ≤ y ∧ y < (t.length : Int)) (hne : x ≠ y) : fnK TY SP Try.f14 [.ro (.rows .i64 t), .int .i64 x, .int .i64 y] (.bool (.lit true)) := by
  have hv := valid_zero.2 hs
  have hS := hs.toSh
  have h64 : t.length * t.length ≤ 64 := Nat.mul_le_mul hn hn
  have hin : inW t.length [(x, y)] := fun q hq => by rw [List.mem_singleton] at hq; subst hq; exact ⟨hx, hy⟩
  have hgl : (genP t 0 (relP [(x, y)])).length = t.length := genP_len
  refine Or.inl (cq (small19_fn t 8) (And.intro rfl (And.intro rfl trivial)) ?_)
  refine And.intro (fun h1 => ?_) (fun _ => ?_)
  · have h1 : (!decide ((t.length : Int) ≤ 8 ∧ validV t = 0)) = true := h1
    rw [decide_eq_true ⟨by omega, hv⟩] at h1; exact absurd h1 (by decide)
  refine Or.inl (cq (rin_fn t [x, y]) (And.intro rfl (And.intro rfl trivial)) ?_)
  refine And.intro (fun h1 => ?_) (fun _ => ?_)
  · have h1 : (!decide (∀ z ∈ [x, y], 0 ≤ z ∧ z < (t.length : Int))) = true := h1
    rw [Bool.not_eq_true'] at h1
    exact absurd (fun z hz => by rcases List.mem_cons.1 hz with rfl | hz; exact hx; rw [List.mem_singleton] at hz; subst hz; exact hy) (of_decide_eq_false h1)
  refine And.intro (fun h1 => absurd (show x = y from h1) hne) (fun _ => ?_)
  refine Or.inr (Or.inr (ce (cminE_fn t hs (by omega) (by omega)) (And.intro rfl trivial) ?_))
  intro _ hM
  have hM : MinsOk t := hM
  have hMl := hM.le
  refine Or.inl (cq (cgnr_fn t [(x, y)] 0 hs hin (by omega)) (And.intro rfl (And.intro rfl (And.intro rfl trivial))) ?_)
  refine And.intro (fun h1 => absurd (show ((genP t 0 (relP [(x, y)])).length : Int) = (t.length : Int) by omega) h1) (fun _ => ?_)
  refine Exists.intro [] <| lp (X := Nat) (fun k => [(46, .int .i64 k), (9, .bool (.v (abv (minsL t) (genP t 0 (relP [(x, y)])) k)))]) (fun _ => []) (fun k => k ≤ (minsL t).length) (fun k => (minsL t).length - k) 0 (Nat.zero_le _) (by repeat' first | refine And.intro ?_ ?_ | exact True.intro | exact (abv_zero _ _).symm | (show (_ : Int) = (_ : Int); omega) | omega | exact rfl) ?_
  intro k hk
  refine And.intro (fun h3 => ?_) (fun h3 => ?_)
  · have h3 : (k : Int) < ((minsL t).length : Int) := h3
    have hkl : k < (minsL t).length := by omega
    have hmk := (hM.mem _).1 (getD_mem (d := []) hkl)
    have hml := hmk.cg.len
    have hval := hmk.cg.val
    have hcgt := cgB_true.2 hmk.cg
    refine And.intro (by omega) ?_
    refine Or.inl (cq (cgr_fn t ((minsL t).getD k []) 0) (And.intro rfl (And.intro rfl (And.intro rfl trivial))) ?_)
    refine And.intro (fun h4 => ?_) (fun _ => ?_)
    · have h4 : (!cgB t ((minsL t).getD k []) 0) = true := h4
      rw [hcgt] at h4; exact absurd h4 (by decide)
    refine Or.inl (cq (pcount_fn ((minsL t).getD k [])) (And.intro rfl trivial) ?_)
    have hcnt : (if validP ((minsL t).getD k []) then ((classN ((minsL t).getD k []) : Nat) : Int) else 0) ≠ (t.length : Int) := by
      rw [if_pos hval]
      intro e
      obtain ⟨a, b, ha, hb, hab, e2⟩ := hmk.jo
      exact hab (cls_inj hml (by omega) ha hb e2)
    refine And.intro (fun h4 => absurd h4 hcnt) (fun _ => ?_)
    have hstep := @abv_succ (minsL t) (genP t 0 (relP [(x, y)])) k
    refine And.intro (fun h4 => ?_) (fun h4 => ?_)
    · have h4 : abv (minsL t) (genP t 0 (relP [(x, y)])) k = true := h4
      rw [h4, Bool.true_or] at hstep
      refine Exists.intro [] <| lp (X := Nat) (fun q => [(70, .int .i64 q)]) (fun _ => []) (fun q => q ≤ (minsL t).length) (fun q => (minsL t).length - q) 0 (Nat.zero_le _) (by repeat' first | refine And.intro ?_ ?_ | exact True.intro | (show (_ : Int) = (_ : Int); omega) | omega | exact rfl | (simp only [RO.len]; omega)) ?_
      intro q hq
      refine And.intro (fun h5 => ?_) (fun h5 => ?_)
      · have h5 : (q : Int) < ((minsL t).length : Int) := h5
        have hql : q < (minsL t).length := by omega
        have hmq := (hM.mem _).1 (getD_mem (d := []) hql)
        have hmql := hmq.cg.len
        refine And.intro (by omega) ?_
        refine And.intro (fun h6 => ?_) (fun h6 => ?_)
        · have h6 : (k : Int) ≠ (q : Int) := h6
          refine Or.inl (cq (prefn_fn ((minsL t).getD k []) ((minsL t).getD q []) hval hmq.cg.val (by omega)) (And.intro rfl (And.intro rfl trivial)) ?_)
          refine And.intro (fun h7 => ?_) (fun _ => ?_)
          · have h7 : rfB ((minsL t).getD k []) ((minsL t).getD q []) = true := h7
            exact absurd (congrArg (Nat.cast (R := Int)) (hM.apart hkl hql ((rf_sub hml).1 h7))) h6
          · refine And.intro (by omega) ?_
            exact nx (q + 1) (show q + 1 ≤ (minsL t).length by omega) (show (minsL t).length - (q + 1) < (minsL t).length - q by omega) (by repeat' first | refine And.intro ?_ ?_ | exact True.intro | (show (_ : Int) = (_ : Int); omega) | omega | exact rfl | (simp only [RO.len]; omega))
        · refine And.intro (by omega) ?_
          exact nx (q + 1) (show q + 1 ≤ (minsL t).length by omega) (show (minsL t).length - (q + 1) < (minsL t).length - q by omega) (by repeat' first | refine And.intro ?_ ?_ | exact True.intro | (show (_ : Int) = (_ : Int); omega) | omega | exact rfl | (simp only [RO.len]; omega))
      · refine And.intro (by omega) ?_
        exact nx (k + 1) (show k + 1 ≤ (minsL t).length by omega) (show (minsL t).length - (k + 1) < (minsL t).length - k by omega) (by repeat' first | refine And.intro ?_ ?_ | exact True.intro | exact hstep.symm | (show (_ : Int) = (_ : Int); omega) | omega | exact rfl | (simp only [RO.len]; omega))
    · have h4 : abv (minsL t) (genP t 0 (relP [(x, y)])) k = false := h4
      rw [h4, Bool.false_or] at hstep
      refine Or.inl (cq (prefn_fn ((minsL t).getD k []) (genP t 0 (relP [(x, y)])) hval (genP_valid hS) (by omega)) (And.intro rfl (And.intro rfl trivial)) ?_)
      refine Exists.intro [] <| lp (X := Nat) (fun q => [(70, .int .i64 q)]) (fun _ => []) (fun q => q ≤ (minsL t).length) (fun q => (minsL t).length - q) 0 (Nat.zero_le _) (by repeat' first | refine And.intro ?_ ?_ | exact True.intro | (show (_ : Int) = (_ : Int); omega) | omega | exact rfl | (simp only [RO.len]; omega)) ?_
      intro q hq
      refine And.intro (fun h5 => ?_) (fun h5 => ?_)
      · have h5 : (q : Int) < ((minsL t).length : Int) := h5
        have hql : q < (minsL t).length := by omega
        have hmq := (hM.mem _).1 (getD_mem (d := []) hql)
        have hmql := hmq.cg.len
        refine And.intro (by omega) ?_
        refine And.intro (fun h6 => ?_) (fun h6 => ?_)
        · have h6 : (k : Int) ≠ (q : Int) := h6
          refine Or.inl (cq (prefn_fn ((minsL t).getD k []) ((minsL t).getD q []) hval hmq.cg.val (by omega)) (And.intro rfl (And.intro rfl trivial)) ?_)
          refine And.intro (fun h7 => ?_) (fun _ => ?_)
          · have h7 : rfB ((minsL t).getD k []) ((minsL t).getD q []) = true := h7
            exact absurd (congrArg (Nat.cast (R := Int)) (hM.apart hkl hql ((rf_sub hml).1 h7))) h6
          · refine And.intro (by omega) ?_
            exact nx (q + 1) (show q + 1 ≤ (minsL t).length by omega) (show (minsL t).length - (q + 1) < (minsL t).length - q by omega) (by repeat' first | refine And.intro ?_ ?_ | exact True.intro | (show (_ : Int) = (_ : Int); omega) | omega | exact rfl | (simp only [RO.len]; omega))
        · refine And.intro (by omega) ?_
          exact nx (q + 1) (show q + 1 ≤ (minsL t).length by omega) (show (minsL t).length - (q + 1) < (minsL t).length - q by omega) (by repeat' first | refine And.intro ?_ ?_ | exact True.intro | (show (_ : Int) = (_ : Int); omega) | omega | exact rfl | (simp only [RO.len]; omega))
      · refine And.intro (by omega) ?_
        exact nx (k + 1) (show k + 1 ≤ (minsL t).length by omega) (show (minsL t).length - (k + 1) < (minsL t).length - k by omega) (by repeat' first | refine And.intro ?_ ?_ | exact True.intro | exact hstep.symm | (show (_ : Int) = (_ : Int); omega) | omega | exact rfl | (simp only [RO.len]; omega))
  · have h3 : ((minsL t).length : Int) ≤ (k : Int) := h3
    refine And.intro (fun h4 => Or.inl (cq awake19_fn trivial (And.intro rfl trivial))) (fun h4 => ?_)
    have h4 : abv (minsL t) (genP t 0 (relP [(x, y)])) k = false := h4
    exfalso
    obtain ⟨p, hp, hsub⟩ := hM.bel _ (genP_is hs (R := relP [(x, y)]) (side := 0) (by decide)) ⟨x.toNat, y.toNat, by omega, by omega, by omega, (genP_iff (by omega) (by omega)).2 (.rel (by show (_, _) ∈ _; rw [Int.toNat_of_nonneg hx.1, Int.toNat_of_nonneg hy.1]; exact List.mem_cons_self ..))⟩
    obtain ⟨i, hi, rfl⟩ := mem_getD [] hp
    have : abv (minsL t) (genP t 0 (relP [(x, y)])) k = true := abv_true.2 ⟨i, by omega, (rf_sub ((hM.mem _).1 (getD_mem (d := []) hi)).cg.len).2 hsub⟩
    rw [h4] at this; cases this
theorem cgAtmN_k (t : List (List Int)) (x y : Int) (h : ¬ (Semi t ∧ t.length ≤ 8 ∧ (0 ≤ x ∧ x < (t.length : Int)) ∧ (0 ≤ y ∧ y < (t.length : Int)) ∧ x ≠ y)) : fnK TY SP Try.f14 [.ro (.rows .i64 t), .int .i64 x, .int .i64 y] (.bool (.lit true)) := by
  refine Or.inl (cq (small19_fn t 8) (And.intro rfl (And.intro rfl trivial)) ?_)
  refine And.intro (fun _ => Or.inl (cq awake19_fn trivial (And.intro rfl trivial))) (fun h1 => ?_)
  have h1 : (!decide ((t.length : Int) ≤ 8 ∧ validV t = 0)) = false := h1
  rw [Bool.not_eq_false'] at h1
  have h1 := of_decide_eq_true h1
  refine Or.inl (cq (rin_fn t [x, y]) (And.intro rfl (And.intro rfl trivial)) ?_)
  refine And.intro (fun _ => Or.inl (cq awake19_fn trivial (And.intro rfl trivial))) (fun h2 => ?_)
  have h2 : (!decide (∀ z ∈ [x, y], 0 ≤ z ∧ z < (t.length : Int))) = false := h2
  rw [Bool.not_eq_false'] at h2
  have h2 := of_decide_eq_true h2
  refine And.intro (fun _ => Or.inl (cq awake19_fn trivial (And.intro rfl trivial))) (fun h3 => ?_)
  have h3 : x ≠ y := h3
  exact absurd ⟨valid_zero.1 h1.2, by omega, h2 x (List.mem_cons_self ..), h2 y (List.mem_cons_of_mem _ (List.mem_cons_self ..)), h3⟩ h
theorem cgAtm_fn (t : List (List Int)) (x y : Int) : QF 14 [.ro (.rows .i64 t), .int .i64 x, .int .i64 y] (.bool (.lit true)) := mkQ Try.func14 (by decide +kernel) rfl (Nat.le_of_ble_eq_true rfl) fun _ => by
  by_cases h : Semi t ∧ t.length ≤ 8 ∧ (0 ≤ x ∧ x < (t.length : Int)) ∧ (0 ≤ y ∧ y < (t.length : Int)) ∧ x ≠ y
  · exact cgAtm_k t x y h.1 h.2.1 h.2.2.1 h.2.2.2.1 h.2.2.2.2
  · exact cgAtmN_k t x y h
end Go.Proofs.Yteopelpnpdbbcaa
end
section
/- From contracts to the given statements: how the arguments read, before and after. -/
namespace Go.Proofs.Yteopelpnpdbbcaa
open Go Go.AM
open Go.ChangeShapes Go.WideShapes Go.ChangeAt Go.RowKit Go.Deep
def noM : Msk := fun _ _ => False
section
variable {H : Type} {enc : TypeId × Value → H} {P : Program} {w : World}
theorem wf_in {k : IntKind} {n : Int} (h : (Lit.int k n).wf = true) : inK k n := by
  simp only [Lit.wf, Bool.and_eq_true, decide_eq_true_eq] at h
  exact h
theorem weight_mem {e : TypeId} {d : DataW H} {x : Nat} : ∀ {l : List (DataW H)}, d ∈ l → x ∈ d.weights P e → x ∈ DataW.weightsAll P e l
  | [], h, _ => by cases h
  | c :: l, h, hx => by
    simp only [DataW.weightsAll, List.mem_append]
    rcases List.mem_cons.1 h with rfl | h
    · exact .inl hx
    · exact .inr (weight_mem h hx)
theorem rows_rep {t e q : TypeId} {n : Nat} {v : Value} {y : DataW H × List MemPlace} (ht : P.underlying t = some (.slice e)) (he : P.underlying e = some (.slice q)) (hq : P.underlying q = some (.int .i64)) (ce : P.cellsOf e = 1) (cq : P.cellsOf q = 1)
    (be : 1 ≤ P.bytesOf e) (bq : 1 ≤ P.bytesOf q) (h : DataW.trod enc P w 0 (fun _ => true) true n t [v] = some y) (hw : ∀ x ∈ y.1.weights P t, x ≤ reachBytes) : ∃ l, RepC noEnv w noM (.ro (.rows .i64 l)) v := by
  have hrb : reachBytes = 140737488351232 := rfl
  rcases open_int_rows ht he hq ce cq h with ⟨hv, _⟩ | ⟨a, len, cap, A, L, C, Z, hv, _, hl, hm, hy, hrows⟩
  · obtain rfl : v = .slice none 0 0 := by simpa using hv
    exact ⟨[], Nat.zero_le _, none, 0, rfl, Nat.le_refl _, .inl rfl⟩
  · obtain rfl : v = .slice (some a) len cap := by simpa using hv
    subst hy
    have hlen : len * P.bytesOf e ≤ reachBytes := by
      have := hw ((len + (cap - len)) * P.bytesOf e) (by simp [DataW.weights, ht])
      exact Nat.le_trans (Nat.mul_le_mul_right _ (by omega)) this
    have hlen1 : len ≤ reachBytes := Nat.le_trans (by have := Nat.mul_le_mul_left len be; omega) hlen
    have hL : ∀ r, r < len → L r ≤ reachBytes := fun r hr => by
      obtain ⟨_, h1, h2, h3, _, h4, _⟩ := hrows r (by omega)
      cases hA : A r with
      | none => have := h4 hA; omega
      | some a' =>
        have hx : (L r + ((Z r).length - L r)) * P.bytesOf q ≤ reachBytes := by
          refine hw _ ?_
          simp only [DataW.weights, ht, List.mem_cons, List.mem_append]
          refine .inr (.inl (weight_mem (d := intRow .i64 (A r) (L r) (Z r)) (List.mem_map.2 ⟨r, List.mem_range.2 hr, rfl⟩) ?_))
          rw [hA]
          simp [intRow, DataW.weights, he, lits]
          left
          rw [Nat.min_eq_left (by omega)]
        have h5 : L r * 1 ≤ (L r + ((Z r).length - L r)) * P.bytesOf q := Nat.mul_le_mul (by omega) bq
        omega
    refine ⟨(List.range len).map fun r => (Z r).take (L r), ?_⟩
    have hll : (RO.rows .i64 ((List.range len).map fun r => (Z r).take (L r))).len = len := by simp [RO.len]
    refine ⟨by rw [hll]; exact Nat.le_trans hlen1 (by rw [hrb]; decide), some a, cap, by rw [hll], by rw [hll]; exact hl, ?_⟩
    by_cases h0 : len = 0
    · exact .inl (by rw [RO.cells, hll, h0, Nat.zero_mul])
    have hcell0 := (hrows 0 (by omega)).1
    obtain ⟨b, off, spot⟩ := a
    have hspot : spot = none := by simpa [Addr.add] using World.cell?_spot hcell0
    subst hspot
    refine .inr ⟨b, off, rfl, fun r hr => ?_⟩
    have hr : r < len := by simpa [RO.cells, hll, RO.sz] using hr
    obtain ⟨h1, h2, h3, h4, h5, h6, h7⟩ := hrows r (by omega)
    refine ⟨.slice (A r) (L r) (C r), by rw [← add_plain]; exact h1, fun hh => hh, ?_⟩
    have hget : ((List.range len).map fun r => (Z r).take (L r)).getD r [] = (Z r).take (L r) := by simp [List.getD, hr]
    show SlI w noM .i64 (((List.range len).map fun r => (Z r).take (L r)).getD r []) _
    rw [hget]
    have hzl : ((Z r).take (L r)).length = L r := by rw [List.length_take]; omega
    refine ⟨by rw [hzl]; have := hL r hr; simp only [LB]; omega, A r, C r, by rw [hzl], by rw [hzl]; exact h2, ?_⟩
    by_cases hl0 : L r = 0
    · exact .inl (by rw [hzl, hl0])
    cases hA : A r with
    | none => have := h6 hA; omega
    | some a' =>
      obtain ⟨h8, h9⟩ := h7 a' hA
      obtain ⟨b', off', spot'⟩ := a'
      have hspot : spot' = none := by simpa [Addr.add] using World.cell?_spot (h9 0 (by omega))
      subst hspot
      refine .inr ⟨b', off', rfl, fun c hc => ?_⟩
      rw [hzl] at hc
      have hg2 : ((Z r).take (L r)).getD c 0 = (Z r).getD c 0 := by simp [List.getD, hc]
      refine ⟨.int .i64 ((Z r).getD c 0), by rw [← add_plain]; exact h9 c (by omega), fun hh => hh, by rw [hg2], ?_⟩
      rw [hg2]
      refine wf_in (h5 _ ?_)
      have : c < (Z r).length := by omega
      simp [List.getD, this]
theorem stp_heap {W W' : World} (hs : Stp (fun _ _ => False) W W') {b : Nat} (hb : b < W.heap.size) : W'.heap[b]? = W.heap[b]? := by
  rcases hs.2 b hb with h | ⟨cs, cs', ty, h1, h2, h3, h4⟩ | ⟨_, _, _, _, _, _, h⟩
  · exact h
  · rw [h1, h2]
    have : cs' = cs := Array.ext_getElem? fun i => h4 i (by simp)
    rw [this]
  · exact h.elim
theorem stp_trod {t : TypeId} (hl : laidOutB P = true) (hr : P.readableRec t = true) (hrow : t < P.types.size) {W W' : World} {v : Value} {d : DataW H} {ps : List MemPlace}
    (h : DataW.Trod enc P W 0 (fun _ => true) true t v d ps) (hs : Stp (fun _ _ => False) W W') (hlt : ∀ x ∈ ps, x.block < W.heap.size) (sp : Nat → Bool) (hsp : ∀ x ∈ ps, sp x.block = true) :
    DataW.Trod enc P W' 0 sp true t v d ps :=
  WideElems.Trod_stays hl hr hrow h (fun x hx => by
    have hb := hlt x hx
    cases x with
    | cell b o => exact World.cell?_of_block (w := W) (stp_heap hs hb)
    | map b => exact stp_heap hs hb) hsp
theorem stp_kept {W W' : World} (hs : Stp (fun _ _ => False) W W') (may : MemPlace → Prop) : W.keptBut W' may := by
  refine ⟨hs.3.1.1, hs.3.1.2, fun i hi => ?_⟩
  rw [stp_heap hs hi]
  cases W.heap[i]? with
  | none => exact rfl
  | some o => cases o <;> first | exact ⟨rfl, rfl, rfl, fun _ _ => rfl⟩ | exact .inr ⟨rfl, rfl⟩ | exact rfl
theorem each_mem : ∀ {ts : List TypeId} {ds : List (DataW H)} {j : Nat} {t : TypeId} {d : DataW H} {x : Nat}, ts[j]? = some t → ds[j]? = some d → x ∈ d.weights P t → x ∈ DataW.weightsEach P ts ds
  | [], _, j, _, _, _, h, _, _ => by simp at h
  | _ :: _, [], j, _, _, _, _, h, _ => by simp at h
  | t :: ts, d :: ds, 0, t', d', x, h1, h2, hx => by
    simp at h1 h2
    subst h1; subst h2
    simp [DataW.weightsEach, hx]
  | t :: ts, d :: ds, j + 1, t', d', x, h1, h2, hx => by
    have := each_mem (ts := ts) (ds := ds) (j := j) (by simpa using h1) (by simpa using h2) hx
    simp [DataW.weightsEach, this]
theorem rows_arg {t e q : TypeId} {r : Reach} {b0 : Nat} {v : Value} {d : DataW H} {p : List MemPlace} (ht : P.underlying t = some (.slice e)) (he : P.underlying e = some (.slice q)) (hq : P.underlying q = some (.int .i64)) (ce : P.cellsOf e = 1) (cq : P.cellsOf q = 1)
    (be : 1 ≤ P.bytesOf e) (bq : 1 ≤ P.bytesOf q) (hv : Value.okWide P w r b0 t v) (h : DataW.Trod enc P w 0 (fun _ => true) true t v d p) (hw : ∀ x ∈ d.weights P t, x ≤ reachBytes) : ∃ l, RepT noEnv w noM (.ro (.rows .i64 l)) v := by
  obtain ⟨a, len, cap, rfl⟩ := okWide_slice ht hv
  obtain ⟨fuel, hf⟩ := h
  exact rows_rep ht he hq ce cq be bq (y := (d, p)) hf hw
end
end Go.Proofs.Yteopelpnpdbbcaa
end
