import Derived.Test.YtjlkhjgnfnfmgaaGreatLatLaw
import Derived.Test.YtjlkhjgnfnfmgaaGreatRefPart
import Derived.Test.YtjlkhjgnfnfmgaaGreatNewRo
import Derived.Test.YtjlkhjgnfnfmgaaGreatSgp3
import Derived.Test.YtjlkhjgnfnfmgaaGreatGrp
section
/- Comparisons of numbers and of lists: contracts. -/
namespace Go.Proofs.YtjlkhjgnfnfmgaaGreat
open Go Go.AM
set_option maxRecDepth 100000
theorem isNaN_fn (a : Int) : QF 101 [.int .i64 a] (.bool (.lit false)) := mkQ Tryz.func101 (by decide +kernel) rfl (Nat.le_of_ble_eq_true rfl) fun _ => by
  refine And.intro ?_ trivial
  show decide (a ≠ a) = false
  simp
theorem compare_fn (a b : Int) : QF 56 [.int .i64 a, .int .i64 b] (.int .i64 (cmpI a b)) := mkQ Tryz.func56 (by decide +kernel) rfl (Nat.le_of_ble_eq_true rfl) fun _ => by
  refine Or.inl (cq (isNaN_fn a) (And.intro rfl trivial) ?_)
  refine Or.inl (cq (isNaN_fn b) (And.intro rfl trivial) ?_)
  unfold cmpI
  refine And.intro (fun h1 => ?_) (fun h1 => ?_)
  · exact And.intro (by rw [if_pos h1]; rfl) trivial
  · refine And.intro (fun h2 => ?_) (fun h2 => ?_)
    · exact And.intro (by rw [if_neg (by omega), if_pos h2]; rfl) trivial
    · exact And.intro (by rw [if_neg (by omega), if_neg (by omega)]; rfl) trivial
theorem or2_fn (a b : Int) : QF 55 [.ro (.ints .i64 [a, b])] (.int .i64 (if a ≠ 0 then a else b)) := mkQ Tryz.func55 (by decide +kernel) rfl (Nat.le_of_ble_eq_true rfl) fun _ => by
  refine Exists.intro [] <| lp (X := Nat) (fun i => [(8, .int .i64 i)]) (fun _ => []) (fun i => i ≤ 2 ∧ (0 < i → a = 0) ∧ (1 < i → b = 0)) (fun i => 2 - i) 0 (by omega) (by repeat' first | refine And.intro ?_ ?_ | exact True.intro | (show (_ : Int) = (_ : Int); omega) | omega | exact rfl | (simp only [RO.len]; omega)) ?_
  rintro i ⟨hi, h1, h2⟩
  refine And.intro (fun h3 => ?_) (fun h3 => ?_)
  · have h3 : (i : Int) < 2 := h3
    have hi' : i = 0 ∨ i = 1 := by omega
    refine And.intro (by omega) ?_
    refine And.intro (fun h4 => ?_) (fun h4 => ?_)
    · refine And.intro ?_ trivial
      rcases hi' with rfl | rfl
      · have h4 : a ≠ 0 := h4
        show a = if a ≠ 0 then a else b
        rw [if_pos h4]
      · show b = if a ≠ 0 then a else b
        rw [if_neg (by simp [h1 (by omega)])]
    · refine And.intro (by omega) ?_
      refine nx (i + 1) ⟨by omega, fun _ => ?_, fun hh => ?_⟩ (show 2 - (i + 1) < 2 - i by omega) (by repeat' first | refine And.intro ?_ ?_ | exact True.intro | (show (_ : Int) = (_ : Int); omega) | omega | exact rfl | (simp only [RO.len]; omega))
      · rcases hi' with rfl | rfl
        · exact h4
        · exact h1 (by omega)
      · rcases hi' with rfl | rfl
        · omega
        · exact h4
  · have h3 : (2 : Int) ≤ (i : Int) := h3
    refine And.intro ?_ trivial
    show 0 = if a ≠ 0 then a else b
    rw [if_neg (by simp [h1 (by omega)]), h2 (by omega)]
end Go.Proofs.YtjlkhjgnfnfmgaaGreat
end
section
/- slices.Clone of integers: contract. -/
namespace Go.Proofs.YtjlkhjgnfnfmgaaGreat
open Go Go.AM
set_option maxRecDepth 100000
theorem cloneI_fn (l : List Int) (hl : l.length ≤ 4096) : QF 104 [.ro (.ints .i64 l)] (.new (.ints .i64 l)) := mkQ Tryz.func104 (by decide +kernel) rfl (Nat.le_of_ble_eq_true rfl) fun _ => by
  refine And.intro (fun h1 => ?_) ?_
  · exact And.intro h1 trivial
  · refine And.intro (by simp; omega) ?_
    exact And.intro ⟨by omega, by simp⟩ trivial
end Go.Proofs.YtjlkhjgnfnfmgaaGreat
end
section
/- Package group: greatest normal subgroups of a subgroup, simple and solvable groups: contracts. -/
namespace Go.Proofs.YtjlkhjgnfnfmgaaGreat
open Go Go.AM
set_option maxRecDepth 100000
def MxI (t : List (List Int)) (w s : List Int) (C : List Bool) : Prop := C.length = t.length ∧ (∀ y, y < t.length → C.getD y false = true → setI s y = true ∨ Gd t w s y) ∧ ∀ y, y < t.length → setI s y = true → C.getD y false = true
theorem MxI.mark {t : List (List Int)} {w s : List Int} {C : List Bool} (h : MxI t w s C) {z : Nat} (hz : z < t.length) (hg : setI s z = true ∨ Gd t w s z) : MxI t w s (C.set z true) := by
  obtain ⟨h1, h2, h3⟩ := h
  refine ⟨by rw [List.length_set]; exact h1, fun y hy hc => ?_, fun y hy hc => ?_⟩
  · by_cases e : y = z
    · subst e; exact hg
    · rw [getD_set_ne (Ne.symm e)] at hc; exact h2 y hy hc
  · by_cases e : y = z
    · subst e; rw [getD_set_eq (by omega)]
    · rw [getD_set_ne (Ne.symm e)]; exact h3 y hy hc
set_option maxHeartbeats 4000000 in
theorem mx_k (t : List (List Int)) (w s : List Int) (h : Grp t) (hw : ClL t w) (hs' : ClL t s) (hsw : ∀ x ∈ s, x ∈ w) : fnK TY SP Tryz.f63 [frA t, .ro (.ints .i64 w), .ro (.ints .i64 s)] (.bool (.v (mxB t w s))) := by
  have hs := h.toSh
  have hm := hs.most
  have hwl := ascV_len t.length (setI w)
  rw [hw.self] at hwl
  have hsl := ascV_len t.length (setI s)
  rw [hs'.self] at hsl
  refine And.intro (fun h1 => ?_) (fun h1 => ?_)
  · have h1 : (s.length : Int) = (w.length : Int) := h1
    exact And.intro (mxB_false.2 fun hh => hh.1 (by omega)).symm trivial
  have h1 : (s.length : Int) ≠ (w.length : Int) := h1
  refine Or.inl (cq (gmem_fn t s hm hs'.ins) (And.intro (by repeat' first | refine And.intro ?_ ?_ | exact True.intro | (show (_ : Int) = (_ : Int); omega) | omega | exact rfl | (simp only [RO.len]; omega)) (And.intro rfl trivial)) ?_)
  refine Exists.intro [] <| lp2 (fun (k : Nat) (_ : List Bool) => [(23, .int .i64 k)]) (fun _ C => [(20, .vec 0 (.bools C) [])]) (fun k C => k ≤ w.length ∧ MxI t w s C ∧ ∀ i, i < k → setI s (w.getD i 0).toNat = true ∨ Gd t w s (w.getD i 0).toNat) (fun k _ => w.length - k) 0 (setB t.length (setI s)) ⟨Nat.zero_le _, ⟨setB_len _ _, fun y hy hc => by rw [setB_get hy] at hc; exact .inl hc, fun y hy hc => by rw [setB_get hy]; exact hc⟩, fun i hi => absurd hi (Nat.not_lt_zero _)⟩ (by repeat' first | refine And.intro ?_ ?_ | exact True.intro | (show (_ : Int) = (_ : Int); omega) | omega | exact rfl | (simp only [RO.len]; omega)) ?_
  rintro k C ⟨hk, hI, hdone⟩
  have hC := hI.1
  refine And.intro (fun h2 => ?_) (fun h2 => ?_)
  · have h2 : (k : Int) < (w.length : Int) := h2
    have hkl : k < w.length := by omega
    have hwk := hw.ins _ (getD_mem (d := 0) hkl)
    refine And.intro (by omega) ?_
    refine And.intro (show 0 ≤ w.getD k 0 ∧ w.getD k 0 < (C.length : Int) by omega) ?_
    have hx : (w.getD k 0).toNat < t.length := by omega
    refine And.intro (fun h3 => ?_) (fun h3 => ?_)
    · have h3 : C.getD (w.getD k 0).toNat false = true := h3
      refine And.intro (by omega) ?_
      refine nx (k + 1, C) ⟨by omega, hI, fun i hi => ?_⟩ (show w.length - (k + 1) < w.length - k by omega) (by repeat' first | refine And.intro ?_ ?_ | exact True.intro | (show (_ : Int) = (_ : Int); omega) | omega | exact rfl | (simp only [RO.len]; omega))
      by_cases e : i = k
      · subst e; exact hI.2.1 _ hx h3
      · exact hdone i (by omega)
    have h3 : C.getD (w.getD k 0).toNat false = false := h3
    have hxin : w.getD k 0 ∈ w := getD_mem hkl
    have hgin : inT t (s ++ [w.getD k 0]) := fun y hy => (List.mem_append.1 hy).elim (hs'.ins y) fun hy => by rw [List.mem_singleton] at hy; rw [hy]; exact hwk
    have hxs : w.getD k 0 ∉ s := fun hh => by rw [hI.2.2 _ hx (hs'.iset hh)] at h3; cases h3
    have good : ((memV (setB t.length (cloF t w (s ++ [w.getD k 0])))).length : Int) = (w.length : Int) → Gd t w s (w.getD k 0).toNat := fun e => (gd_iff h hw hsw hxin).2 (by
      have e : ((ascV t.length (cloF t w (s ++ [w.getD k 0]))).length : Int) = (w.length : Int) := e
      omega)
    have bad : ((memV (setB t.length (cloF t w (s ++ [w.getD k 0])))).length : Int) ≠ (w.length : Int) → (BE.lit false).val = (BE.v (mxB t w s)).val := fun e => (mxB_false.2 fun hh => e (by
      have := (gd_iff h hw hsw hxin).1 (hh.2 _ hxin hxs)
      show ((ascV t.length (cloF t w (s ++ [w.getD k 0]))).length : Int) = (w.length : Int)
      omega)).symm
    have hap : ((s ++ [w.getD k 0]).length : Int) ≤ 17592186044416 := by rw [List.length_append, List.length_singleton]; omega
    refine Or.inr (Exists.intro (.fst 1 (.fst 2 (.fst 4 (.br 0 (.br 3 (.br 5 (.br 6 (.br 7 (.fst 8 .done) .no) .no) .no) (.br 5 (.br 3 (.br 6 (.br 7 (.fst 8 .done) .no) .no) .no) .no)) (.br 3 (.br 0 (.br 5 (.br 6 (.br 7 (.fst 8 .done) .no) .no) .no) (.br 5 (.br 0 (.br 6 (.br 7 (.fst 8 .done) .no) .no) (.br 6 (.br 0 (.br 7 (.fst 8 .done) .no) .no) .no)) .no)) (.br 5 (.br 0 (.br 3 (.br 6 (.br 7 (.fst 8 .done) .no) .no) .no) (.br 3 (.br 0 (.br 6 (.br 7 (.fst 8 .done) .no) .no) (.br 6 (.br 0 (.br 7 (.fst 8 .done) .no) .no) .no)) .no)) .no)))))) (And.intro (by decide +kernel) ?_))
    refine And.intro ?_ ?_
    · refine And.intro ?_ ?_
      · refine Or.inl (cq (cloneI_fn s (by omega)) (And.intro rfl trivial) ?_)
        refine And.intro ?_ trivial
        refine And.intro ?_ trivial
        refine And.intro hap ?_
        refine And.intro ?_ trivial
        refine Or.inl (cq (gclo_fn t w (s ++ [w.getD k 0]) h hw hgin) (And.intro (by repeat' first | refine And.intro ?_ ?_ | exact True.intro | (show (_ : Int) = (_ : Int); omega) | omega | exact rfl | (simp only [RO.len]; omega)) (And.intro rfl (And.intro rfl trivial))) ?_)
        refine Or.inl (cq (glist_fn (setB t.length (cloF t w (s ++ [w.getD k 0]))) (by rw [setB_len]; omega)) (And.intro rfl trivial) ?_)
        refine And.intro (fun h4 => And.intro (bad h4) trivial) (fun h4 => ?_)
        have hG := good h4
        refine Exists.intro [] <| lp2 (fun (j : Nat) (_ : List Bool) => [(47, .int .i64 j)]) (fun _ C => [(20, .vec 0 (.bools C) [])]) (fun j C => j ≤ s.length ∧ MxI t w s C) (fun j _ => s.length - j) 0 C ⟨Nat.zero_le _, hI⟩ (by repeat' first | refine And.intro ?_ ?_ | exact True.intro | (show (_ : Int) = (_ : Int); omega) | omega | exact rfl | (simp only [RO.len]; omega)) ?_
        rintro j C' ⟨hj, hI'⟩
        have hC' := hI'.1
        refine And.intro (fun h5 => ?_) (fun h5 => ?_)
        · have h5 : (j : Int) < (s.length : Int) := h5
          have hjl : j < s.length := by omega
          have hsj := hs'.ins _ (getD_mem (d := 0) hjl)
          have hy : (s.getD j 0).toNat < t.length := by omega
          have r1 := hs.len hx
          have e1 := hs.ent hx hy
          refine And.intro (by omega) ?_
          refine And.intro (show 0 ≤ w.getD k 0 ∧ w.getD k 0 < (t.length : Int) by omega) ?_
          refine And.intro (show 0 ≤ s.getD j 0 ∧ s.getD j 0 < ((t.getD (w.getD k 0).toNat []).length : Int) by omega) ?_
          refine And.intro (show 0 ≤ (t.getD (w.getD k 0).toNat []).getD (s.getD j 0).toNat 0 ∧ (t.getD (w.getD k 0).toNat []).getD (s.getD j 0).toNat 0 < (C'.length : Int) by omega) ?_
          refine And.intro (show 0 ≤ (t.getD (w.getD k 0).toNat []).getD (s.getD j 0).toNat 0 by omega) ?_
          refine And.intro (by omega) ?_
          exact nx (j + 1, C'.set ((t.getD (w.getD k 0).toNat []).getD (s.getD j 0).toNat 0).toNat true) ⟨by omega, hI'.mark e1.2 (.inr (gd_coset h hw hs' hx (hs'.iset (getD_mem hjl)) hG))⟩ (show s.length - (j + 1) < s.length - j by omega) (by repeat' first | refine And.intro ?_ ?_ | exact True.intro | (show (_ : Int) = (_ : Int); omega) | omega | exact rfl | (simp only [RO.len]; omega))
        · have h5 : (s.length : Int) ≤ (j : Int) := h5
          refine And.intro (by omega) ?_
          refine nx (k + 1, C') ⟨by omega, hI', fun i hi => ?_⟩ (show w.length - (k + 1) < w.length - k by omega) (by repeat' first | refine And.intro ?_ ?_ | exact True.intro | (show (_ : Int) = (_ : Int); omega) | omega | exact rfl | (simp only [RO.len]; omega))
          by_cases e : i = k
          · subst e; exact .inr hG
          · exact hdone i (by omega)
      · refine And.intro ?_ trivial
        refine And.intro ?_ trivial
        refine Or.inl (cq (cloneI_fn s (by omega)) (And.intro rfl trivial) ?_)
        refine And.intro ?_ trivial
        refine And.intro hap ?_
        refine And.intro ?_ trivial
        refine Or.inl (cq (gclo_fn t w (s ++ [w.getD k 0]) h hw hgin) (And.intro (by repeat' first | refine And.intro ?_ ?_ | exact True.intro | (show (_ : Int) = (_ : Int); omega) | omega | exact rfl | (simp only [RO.len]; omega)) (And.intro rfl (And.intro rfl trivial))) ?_)
        refine Or.inl (cq (glist_fn (setB t.length (cloF t w (s ++ [w.getD k 0]))) (by rw [setB_len]; omega)) (And.intro rfl trivial) ?_)
        refine And.intro (fun h4 => And.intro (bad h4) trivial) (fun h4 => ?_)
        have hG := good h4
        refine Exists.intro [] <| lp2 (fun (j : Nat) (_ : List Bool) => [(47, .int .i64 j)]) (fun _ C => [(20, .vec 0 (.bools C) [])]) (fun j C => j ≤ s.length ∧ MxI t w s C) (fun j _ => s.length - j) 0 C ⟨Nat.zero_le _, hI⟩ (by repeat' first | refine And.intro ?_ ?_ | exact True.intro | (show (_ : Int) = (_ : Int); omega) | omega | exact rfl | (simp only [RO.len]; omega)) ?_
        rintro j C' ⟨hj, hI'⟩
        have hC' := hI'.1
        refine And.intro (fun h5 => ?_) (fun h5 => ?_)
        · have h5 : (j : Int) < (s.length : Int) := h5
          have hjl : j < s.length := by omega
          have hsj := hs'.ins _ (getD_mem (d := 0) hjl)
          have hy : (s.getD j 0).toNat < t.length := by omega
          have r1 := hs.len hx
          have e1 := hs.ent hx hy
          refine And.intro (by omega) ?_
          refine And.intro (show 0 ≤ w.getD k 0 ∧ w.getD k 0 < (t.length : Int) by omega) ?_
          refine And.intro (show 0 ≤ s.getD j 0 ∧ s.getD j 0 < ((t.getD (w.getD k 0).toNat []).length : Int) by omega) ?_
          refine And.intro (show 0 ≤ (t.getD (w.getD k 0).toNat []).getD (s.getD j 0).toNat 0 ∧ (t.getD (w.getD k 0).toNat []).getD (s.getD j 0).toNat 0 < (C'.length : Int) by omega) ?_
          refine And.intro (show 0 ≤ (t.getD (w.getD k 0).toNat []).getD (s.getD j 0).toNat 0 by omega) ?_
          refine And.intro (by omega) ?_
          exact nx (j + 1, C'.set ((t.getD (w.getD k 0).toNat []).getD (s.getD j 0).toNat 0).toNat true) ⟨by omega, hI'.mark e1.2 (.inr (gd_coset h hw hs' hx (hs'.iset (getD_mem hjl)) hG))⟩ (show s.length - (j + 1) < s.length - j by omega) (by repeat' first | refine And.intro ?_ ?_ | exact True.intro | (show (_ : Int) = (_ : Int); omega) | omega | exact rfl | (simp only [RO.len]; omega))
        · have h5 : (s.length : Int) ≤ (j : Int) := h5
          refine And.intro (by omega) ?_
          refine nx (k + 1, C') ⟨by omega, hI', fun i hi => ?_⟩ (show w.length - (k + 1) < w.length - k by omega) (by repeat' first | refine And.intro ?_ ?_ | exact True.intro | (show (_ : Int) = (_ : Int); omega) | omega | exact rfl | (simp only [RO.len]; omega))
          by_cases e : i = k
          · subst e; exact .inr hG
          · exact hdone i (by omega)
    · refine And.intro ?_ ?_
      · refine Or.inl (cq (cloneI_fn s (by omega)) (And.intro rfl trivial) ?_)
        refine And.intro ?_ ?_
        · refine And.intro ?_ trivial
          refine And.intro ?_ trivial
          refine And.intro hap ?_
          refine And.intro ?_ trivial
          refine Or.inl (cq (gclo_fn t w (s ++ [w.getD k 0]) h hw hgin) (And.intro (by repeat' first | refine And.intro ?_ ?_ | exact True.intro | (show (_ : Int) = (_ : Int); omega) | omega | exact rfl | (simp only [RO.len]; omega)) (And.intro rfl (And.intro rfl trivial))) ?_)
          refine Or.inl (cq (glist_fn (setB t.length (cloF t w (s ++ [w.getD k 0]))) (by rw [setB_len]; omega)) (And.intro rfl trivial) ?_)
          refine And.intro (fun h4 => And.intro (bad h4) trivial) (fun h4 => ?_)
          have hG := good h4
          refine Exists.intro [] <| lp2 (fun (j : Nat) (_ : List Bool) => [(47, .int .i64 j)]) (fun _ C => [(20, .vec 0 (.bools C) [])]) (fun j C => j ≤ s.length ∧ MxI t w s C) (fun j _ => s.length - j) 0 C ⟨Nat.zero_le _, hI⟩ (by repeat' first | refine And.intro ?_ ?_ | exact True.intro | (show (_ : Int) = (_ : Int); omega) | omega | exact rfl | (simp only [RO.len]; omega)) ?_
          rintro j C' ⟨hj, hI'⟩
          have hC' := hI'.1
          refine And.intro (fun h5 => ?_) (fun h5 => ?_)
          · have h5 : (j : Int) < (s.length : Int) := h5
            have hjl : j < s.length := by omega
            have hsj := hs'.ins _ (getD_mem (d := 0) hjl)
            have hy : (s.getD j 0).toNat < t.length := by omega
            have r1 := hs.len hx
            have e1 := hs.ent hx hy
            refine And.intro (by omega) ?_
            refine And.intro (show 0 ≤ w.getD k 0 ∧ w.getD k 0 < (t.length : Int) by omega) ?_
            refine And.intro (show 0 ≤ s.getD j 0 ∧ s.getD j 0 < ((t.getD (w.getD k 0).toNat []).length : Int) by omega) ?_
            refine And.intro (show 0 ≤ (t.getD (w.getD k 0).toNat []).getD (s.getD j 0).toNat 0 ∧ (t.getD (w.getD k 0).toNat []).getD (s.getD j 0).toNat 0 < (C'.length : Int) by omega) ?_
            refine And.intro (show 0 ≤ (t.getD (w.getD k 0).toNat []).getD (s.getD j 0).toNat 0 by omega) ?_
            refine And.intro (by omega) ?_
            exact nx (j + 1, C'.set ((t.getD (w.getD k 0).toNat []).getD (s.getD j 0).toNat 0).toNat true) ⟨by omega, hI'.mark e1.2 (.inr (gd_coset h hw hs' hx (hs'.iset (getD_mem hjl)) hG))⟩ (show s.length - (j + 1) < s.length - j by omega) (by repeat' first | refine And.intro ?_ ?_ | exact True.intro | (show (_ : Int) = (_ : Int); omega) | omega | exact rfl | (simp only [RO.len]; omega))
          · have h5 : (s.length : Int) ≤ (j : Int) := h5
            refine And.intro (by omega) ?_
            refine nx (k + 1, C') ⟨by omega, hI', fun i hi => ?_⟩ (show w.length - (k + 1) < w.length - k by omega) (by repeat' first | refine And.intro ?_ ?_ | exact True.intro | (show (_ : Int) = (_ : Int); omega) | omega | exact rfl | (simp only [RO.len]; omega))
            by_cases e : i = k
            · subst e; exact .inr hG
            · exact hdone i (by omega)
        · refine And.intro ?_ trivial
          refine And.intro ?_ ?_
          · refine And.intro ?_ trivial
            refine And.intro hap ?_
            refine And.intro ?_ trivial
            refine Or.inl (cq (gclo_fn t w (s ++ [w.getD k 0]) h hw hgin) (And.intro (by repeat' first | refine And.intro ?_ ?_ | exact True.intro | (show (_ : Int) = (_ : Int); omega) | omega | exact rfl | (simp only [RO.len]; omega)) (And.intro rfl (And.intro rfl trivial))) ?_)
            refine Or.inl (cq (glist_fn (setB t.length (cloF t w (s ++ [w.getD k 0]))) (by rw [setB_len]; omega)) (And.intro rfl trivial) ?_)
            refine And.intro (fun h4 => And.intro (bad h4) trivial) (fun h4 => ?_)
            have hG := good h4
            refine Exists.intro [] <| lp2 (fun (j : Nat) (_ : List Bool) => [(47, .int .i64 j)]) (fun _ C => [(20, .vec 0 (.bools C) [])]) (fun j C => j ≤ s.length ∧ MxI t w s C) (fun j _ => s.length - j) 0 C ⟨Nat.zero_le _, hI⟩ (by repeat' first | refine And.intro ?_ ?_ | exact True.intro | (show (_ : Int) = (_ : Int); omega) | omega | exact rfl | (simp only [RO.len]; omega)) ?_
            rintro j C' ⟨hj, hI'⟩
            have hC' := hI'.1
            refine And.intro (fun h5 => ?_) (fun h5 => ?_)
            · have h5 : (j : Int) < (s.length : Int) := h5
              have hjl : j < s.length := by omega
              have hsj := hs'.ins _ (getD_mem (d := 0) hjl)
              have hy : (s.getD j 0).toNat < t.length := by omega
              have r1 := hs.len hx
              have e1 := hs.ent hx hy
              refine And.intro (by omega) ?_
              refine And.intro (show 0 ≤ w.getD k 0 ∧ w.getD k 0 < (t.length : Int) by omega) ?_
              refine And.intro (show 0 ≤ s.getD j 0 ∧ s.getD j 0 < ((t.getD (w.getD k 0).toNat []).length : Int) by omega) ?_
              refine And.intro (show 0 ≤ (t.getD (w.getD k 0).toNat []).getD (s.getD j 0).toNat 0 ∧ (t.getD (w.getD k 0).toNat []).getD (s.getD j 0).toNat 0 < (C'.length : Int) by omega) ?_
              refine And.intro (show 0 ≤ (t.getD (w.getD k 0).toNat []).getD (s.getD j 0).toNat 0 by omega) ?_
              refine And.intro (by omega) ?_
              exact nx (j + 1, C'.set ((t.getD (w.getD k 0).toNat []).getD (s.getD j 0).toNat 0).toNat true) ⟨by omega, hI'.mark e1.2 (.inr (gd_coset h hw hs' hx (hs'.iset (getD_mem hjl)) hG))⟩ (show s.length - (j + 1) < s.length - j by omega) (by repeat' first | refine And.intro ?_ ?_ | exact True.intro | (show (_ : Int) = (_ : Int); omega) | omega | exact rfl | (simp only [RO.len]; omega))
            · have h5 : (s.length : Int) ≤ (j : Int) := h5
              refine And.intro (by omega) ?_
              refine nx (k + 1, C') ⟨by omega, hI', fun i hi => ?_⟩ (show w.length - (k + 1) < w.length - k by omega) (by repeat' first | refine And.intro ?_ ?_ | exact True.intro | (show (_ : Int) = (_ : Int); omega) | omega | exact rfl | (simp only [RO.len]; omega))
              by_cases e : i = k
              · subst e; exact .inr hG
              · exact hdone i (by omega)
          · refine And.intro ?_ trivial
            refine And.intro hap ?_
            refine And.intro ?_ trivial
            refine And.intro ?_ trivial
            refine Or.inl (cq (gclo_fn t w (s ++ [w.getD k 0]) h hw hgin) (And.intro (by repeat' first | refine And.intro ?_ ?_ | exact True.intro | (show (_ : Int) = (_ : Int); omega) | omega | exact rfl | (simp only [RO.len]; omega)) (And.intro rfl (And.intro rfl trivial))) ?_)
            refine Or.inl (cq (glist_fn (setB t.length (cloF t w (s ++ [w.getD k 0]))) (by rw [setB_len]; omega)) (And.intro rfl trivial) ?_)
            refine And.intro (fun h4 => And.intro (bad h4) trivial) (fun h4 => ?_)
            have hG := good h4
            refine Exists.intro [] <| lp2 (fun (j : Nat) (_ : List Bool) => [(47, .int .i64 j)]) (fun _ C => [(20, .vec 0 (.bools C) [])]) (fun j C => j ≤ s.length ∧ MxI t w s C) (fun j _ => s.length - j) 0 C ⟨Nat.zero_le _, hI⟩ (by repeat' first | refine And.intro ?_ ?_ | exact True.intro | (show (_ : Int) = (_ : Int); omega) | omega | exact rfl | (simp only [RO.len]; omega)) ?_
            rintro j C' ⟨hj, hI'⟩
            have hC' := hI'.1
            refine And.intro (fun h5 => ?_) (fun h5 => ?_)
            · have h5 : (j : Int) < (s.length : Int) := h5
              have hjl : j < s.length := by omega
              have hsj := hs'.ins _ (getD_mem (d := 0) hjl)
              have hy : (s.getD j 0).toNat < t.length := by omega
              have r1 := hs.len hx
              have e1 := hs.ent hx hy
              refine And.intro (by omega) ?_
              refine And.intro (show 0 ≤ w.getD k 0 ∧ w.getD k 0 < (t.length : Int) by omega) ?_
              refine And.intro (show 0 ≤ s.getD j 0 ∧ s.getD j 0 < ((t.getD (w.getD k 0).toNat []).length : Int) by omega) ?_
              refine And.intro (show 0 ≤ (t.getD (w.getD k 0).toNat []).getD (s.getD j 0).toNat 0 ∧ (t.getD (w.getD k 0).toNat []).getD (s.getD j 0).toNat 0 < (C'.length : Int) by omega) ?_
              refine And.intro (show 0 ≤ (t.getD (w.getD k 0).toNat []).getD (s.getD j 0).toNat 0 by omega) ?_
              refine And.intro (by omega) ?_
              exact nx (j + 1, C'.set ((t.getD (w.getD k 0).toNat []).getD (s.getD j 0).toNat 0).toNat true) ⟨by omega, hI'.mark e1.2 (.inr (gd_coset h hw hs' hx (hs'.iset (getD_mem hjl)) hG))⟩ (show s.length - (j + 1) < s.length - j by omega) (by repeat' first | refine And.intro ?_ ?_ | exact True.intro | (show (_ : Int) = (_ : Int); omega) | omega | exact rfl | (simp only [RO.len]; omega))
            · have h5 : (s.length : Int) ≤ (j : Int) := h5
              refine And.intro (by omega) ?_
              refine nx (k + 1, C') ⟨by omega, hI', fun i hi => ?_⟩ (show w.length - (k + 1) < w.length - k by omega) (by repeat' first | refine And.intro ?_ ?_ | exact True.intro | (show (_ : Int) = (_ : Int); omega) | omega | exact rfl | (simp only [RO.len]; omega))
              by_cases e : i = k
              · subst e; exact .inr hG
              · exact hdone i (by omega)
      · refine And.intro ?_ trivial
        refine And.intro ?_ ?_
        · refine And.intro ?_ trivial
          refine Or.inl (cq (cloneI_fn s (by omega)) (And.intro rfl trivial) ?_)
          refine And.intro ?_ trivial
          refine And.intro hap ?_
          refine And.intro ?_ trivial
          refine Or.inl (cq (gclo_fn t w (s ++ [w.getD k 0]) h hw hgin) (And.intro (by repeat' first | refine And.intro ?_ ?_ | exact True.intro | (show (_ : Int) = (_ : Int); omega) | omega | exact rfl | (simp only [RO.len]; omega)) (And.intro rfl (And.intro rfl trivial))) ?_)
          refine Or.inl (cq (glist_fn (setB t.length (cloF t w (s ++ [w.getD k 0]))) (by rw [setB_len]; omega)) (And.intro rfl trivial) ?_)
          refine And.intro (fun h4 => And.intro (bad h4) trivial) (fun h4 => ?_)
          have hG := good h4
          refine Exists.intro [] <| lp2 (fun (j : Nat) (_ : List Bool) => [(47, .int .i64 j)]) (fun _ C => [(20, .vec 0 (.bools C) [])]) (fun j C => j ≤ s.length ∧ MxI t w s C) (fun j _ => s.length - j) 0 C ⟨Nat.zero_le _, hI⟩ (by repeat' first | refine And.intro ?_ ?_ | exact True.intro | (show (_ : Int) = (_ : Int); omega) | omega | exact rfl | (simp only [RO.len]; omega)) ?_
          rintro j C' ⟨hj, hI'⟩
          have hC' := hI'.1
          refine And.intro (fun h5 => ?_) (fun h5 => ?_)
          · have h5 : (j : Int) < (s.length : Int) := h5
            have hjl : j < s.length := by omega
            have hsj := hs'.ins _ (getD_mem (d := 0) hjl)
            have hy : (s.getD j 0).toNat < t.length := by omega
            have r1 := hs.len hx
            have e1 := hs.ent hx hy
            refine And.intro (by omega) ?_
            refine And.intro (show 0 ≤ w.getD k 0 ∧ w.getD k 0 < (t.length : Int) by omega) ?_
            refine And.intro (show 0 ≤ s.getD j 0 ∧ s.getD j 0 < ((t.getD (w.getD k 0).toNat []).length : Int) by omega) ?_
            refine And.intro (show 0 ≤ (t.getD (w.getD k 0).toNat []).getD (s.getD j 0).toNat 0 ∧ (t.getD (w.getD k 0).toNat []).getD (s.getD j 0).toNat 0 < (C'.length : Int) by omega) ?_
            refine And.intro (show 0 ≤ (t.getD (w.getD k 0).toNat []).getD (s.getD j 0).toNat 0 by omega) ?_
            refine And.intro (by omega) ?_
            exact nx (j + 1, C'.set ((t.getD (w.getD k 0).toNat []).getD (s.getD j 0).toNat 0).toNat true) ⟨by omega, hI'.mark e1.2 (.inr (gd_coset h hw hs' hx (hs'.iset (getD_mem hjl)) hG))⟩ (show s.length - (j + 1) < s.length - j by omega) (by repeat' first | refine And.intro ?_ ?_ | exact True.intro | (show (_ : Int) = (_ : Int); omega) | omega | exact rfl | (simp only [RO.len]; omega))
          · have h5 : (s.length : Int) ≤ (j : Int) := h5
            refine And.intro (by omega) ?_
            refine nx (k + 1, C') ⟨by omega, hI', fun i hi => ?_⟩ (show w.length - (k + 1) < w.length - k by omega) (by repeat' first | refine And.intro ?_ ?_ | exact True.intro | (show (_ : Int) = (_ : Int); omega) | omega | exact rfl | (simp only [RO.len]; omega))
            by_cases e : i = k
            · subst e; exact .inr hG
            · exact hdone i (by omega)
        · refine And.intro ?_ trivial
          refine Or.inl (cq (cloneI_fn s (by omega)) (And.intro rfl trivial) ?_)
          refine And.intro ?_ ?_
          · refine And.intro ?_ trivial
            refine And.intro hap ?_
            refine And.intro ?_ trivial
            refine Or.inl (cq (gclo_fn t w (s ++ [w.getD k 0]) h hw hgin) (And.intro (by repeat' first | refine And.intro ?_ ?_ | exact True.intro | (show (_ : Int) = (_ : Int); omega) | omega | exact rfl | (simp only [RO.len]; omega)) (And.intro rfl (And.intro rfl trivial))) ?_)
            refine Or.inl (cq (glist_fn (setB t.length (cloF t w (s ++ [w.getD k 0]))) (by rw [setB_len]; omega)) (And.intro rfl trivial) ?_)
            refine And.intro (fun h4 => And.intro (bad h4) trivial) (fun h4 => ?_)
            have hG := good h4
            refine Exists.intro [] <| lp2 (fun (j : Nat) (_ : List Bool) => [(47, .int .i64 j)]) (fun _ C => [(20, .vec 0 (.bools C) [])]) (fun j C => j ≤ s.length ∧ MxI t w s C) (fun j _ => s.length - j) 0 C ⟨Nat.zero_le _, hI⟩ (by repeat' first | refine And.intro ?_ ?_ | exact True.intro | (show (_ : Int) = (_ : Int); omega) | omega | exact rfl | (simp only [RO.len]; omega)) ?_
            rintro j C' ⟨hj, hI'⟩
            have hC' := hI'.1
            refine And.intro (fun h5 => ?_) (fun h5 => ?_)
            · have h5 : (j : Int) < (s.length : Int) := h5
              have hjl : j < s.length := by omega
              have hsj := hs'.ins _ (getD_mem (d := 0) hjl)
              have hy : (s.getD j 0).toNat < t.length := by omega
              have r1 := hs.len hx
              have e1 := hs.ent hx hy
              refine And.intro (by omega) ?_
              refine And.intro (show 0 ≤ w.getD k 0 ∧ w.getD k 0 < (t.length : Int) by omega) ?_
              refine And.intro (show 0 ≤ s.getD j 0 ∧ s.getD j 0 < ((t.getD (w.getD k 0).toNat []).length : Int) by omega) ?_
              refine And.intro (show 0 ≤ (t.getD (w.getD k 0).toNat []).getD (s.getD j 0).toNat 0 ∧ (t.getD (w.getD k 0).toNat []).getD (s.getD j 0).toNat 0 < (C'.length : Int) by omega) ?_
              refine And.intro (show 0 ≤ (t.getD (w.getD k 0).toNat []).getD (s.getD j 0).toNat 0 by omega) ?_
              refine And.intro (by omega) ?_
              exact nx (j + 1, C'.set ((t.getD (w.getD k 0).toNat []).getD (s.getD j 0).toNat 0).toNat true) ⟨by omega, hI'.mark e1.2 (.inr (gd_coset h hw hs' hx (hs'.iset (getD_mem hjl)) hG))⟩ (show s.length - (j + 1) < s.length - j by omega) (by repeat' first | refine And.intro ?_ ?_ | exact True.intro | (show (_ : Int) = (_ : Int); omega) | omega | exact rfl | (simp only [RO.len]; omega))
            · have h5 : (s.length : Int) ≤ (j : Int) := h5
              refine And.intro (by omega) ?_
              refine nx (k + 1, C') ⟨by omega, hI', fun i hi => ?_⟩ (show w.length - (k + 1) < w.length - k by omega) (by repeat' first | refine And.intro ?_ ?_ | exact True.intro | (show (_ : Int) = (_ : Int); omega) | omega | exact rfl | (simp only [RO.len]; omega))
              by_cases e : i = k
              · subst e; exact .inr hG
              · exact hdone i (by omega)
          · refine And.intro ?_ trivial
            refine And.intro hap ?_
            refine And.intro ?_ trivial
            refine And.intro ?_ trivial
            refine Or.inl (cq (gclo_fn t w (s ++ [w.getD k 0]) h hw hgin) (And.intro (by repeat' first | refine And.intro ?_ ?_ | exact True.intro | (show (_ : Int) = (_ : Int); omega) | omega | exact rfl | (simp only [RO.len]; omega)) (And.intro rfl (And.intro rfl trivial))) ?_)
            refine Or.inl (cq (glist_fn (setB t.length (cloF t w (s ++ [w.getD k 0]))) (by rw [setB_len]; omega)) (And.intro rfl trivial) ?_)
            refine And.intro (fun h4 => And.intro (bad h4) trivial) (fun h4 => ?_)
            have hG := good h4
            refine Exists.intro [] <| lp2 (fun (j : Nat) (_ : List Bool) => [(47, .int .i64 j)]) (fun _ C => [(20, .vec 0 (.bools C) [])]) (fun j C => j ≤ s.length ∧ MxI t w s C) (fun j _ => s.length - j) 0 C ⟨Nat.zero_le _, hI⟩ (by repeat' first | refine And.intro ?_ ?_ | exact True.intro | (show (_ : Int) = (_ : Int); omega) | omega | exact rfl | (simp only [RO.len]; omega)) ?_
            rintro j C' ⟨hj, hI'⟩
            have hC' := hI'.1
            refine And.intro (fun h5 => ?_) (fun h5 => ?_)
            · have h5 : (j : Int) < (s.length : Int) := h5
              have hjl : j < s.length := by omega
              have hsj := hs'.ins _ (getD_mem (d := 0) hjl)
              have hy : (s.getD j 0).toNat < t.length := by omega
              have r1 := hs.len hx
              have e1 := hs.ent hx hy
              refine And.intro (by omega) ?_
              refine And.intro (show 0 ≤ w.getD k 0 ∧ w.getD k 0 < (t.length : Int) by omega) ?_
              refine And.intro (show 0 ≤ s.getD j 0 ∧ s.getD j 0 < ((t.getD (w.getD k 0).toNat []).length : Int) by omega) ?_
              refine And.intro (show 0 ≤ (t.getD (w.getD k 0).toNat []).getD (s.getD j 0).toNat 0 ∧ (t.getD (w.getD k 0).toNat []).getD (s.getD j 0).toNat 0 < (C'.length : Int) by omega) ?_
              refine And.intro (show 0 ≤ (t.getD (w.getD k 0).toNat []).getD (s.getD j 0).toNat 0 by omega) ?_
              refine And.intro (by omega) ?_
              exact nx (j + 1, C'.set ((t.getD (w.getD k 0).toNat []).getD (s.getD j 0).toNat 0).toNat true) ⟨by omega, hI'.mark e1.2 (.inr (gd_coset h hw hs' hx (hs'.iset (getD_mem hjl)) hG))⟩ (show s.length - (j + 1) < s.length - j by omega) (by repeat' first | refine And.intro ?_ ?_ | exact True.intro | (show (_ : Int) = (_ : Int); omega) | omega | exact rfl | (simp only [RO.len]; omega))
            · have h5 : (s.length : Int) ≤ (j : Int) := h5
              refine And.intro (by omega) ?_
              refine nx (k + 1, C') ⟨by omega, hI', fun i hi => ?_⟩ (show w.length - (k + 1) < w.length - k by omega) (by repeat' first | refine And.intro ?_ ?_ | exact True.intro | (show (_ : Int) = (_ : Int); omega) | omega | exact rfl | (simp only [RO.len]; omega))
              by_cases e : i = k
              · subst e; exact .inr hG
              · exact hdone i (by omega)
  · have h2 : (w.length : Int) ≤ (k : Int) := h2
    refine And.intro (mxB_true.2 ⟨by omega, fun x hx hxs => ?_⟩).symm trivial
    obtain ⟨i, hi, rfl⟩ := mem_getD 0 hx
    rcases hdone i (by omega) with hd | hd
    · exact absurd (by have := setI_iff.1 hd; rwa [Int.toNat_of_nonneg (hw.ins _ hx).1] at this) hxs
    · exact hd
theorem mx_fn (t : List (List Int)) (w s : List Int) (h : Grp t) (hw : ClL t w) (hs' : ClL t s) (hsw : ∀ x ∈ s, x ∈ w) : QF 63 [frA t, .ro (.ints .i64 w), .ro (.ints .i64 s)] (.bool (.v (mxB t w s))) := mkQ Tryz.func63 (by decide +kernel) rfl (Nat.le_of_ble_eq_true rfl) fun _ => mx_k t w s h hw hs' hsw
theorem simple_k (t : List (List Int)) (h : Grp t) : fnK TY SP Tryz.f24 [.ro (.rows .i64 t)] (.bool (.v (decide ((nsL t).length = 2)))) := by
  have hm := h.most
  rw [← simple_iff h]
  refine Or.inl (cq (openY_fn t h) (And.intro rfl trivial) ?_)
  refine Or.inl ?_
  refine Exists.intro [false, false, false, false, false, false, false, false, false, false, false] (And.intro (by decide +kernel) ?_)
  refine cq (gall_fn t hm) (And.intro (by repeat' first | refine And.intro ?_ ?_ | exact True.intro | (show (_ : Int) = (_ : Int); omega) | omega | exact rfl | (simp only [RO.len]; omega)) trivial) ?_
  refine cq (mx_fn t (allI t) [(oneN t : Int)] h (allI_cl h.toSh) (one_ns h).cl fun x hx => mem_disI.2 ((one_ns h).cl.ins x hx)) (And.intro (by repeat' first | refine And.intro ?_ ?_ | exact True.intro | (show (_ : Int) = (_ : Int); omega) | omega | exact rfl | (simp only [RO.len]; omega)) (And.intro rfl (And.intro rfl trivial))) ?_
  exact And.intro rfl trivial
theorem simpleN_k (t : List (List Int)) (h : ¬ Grp t) : fnK TY SP Tryz.f24 [.ro (.rows .i64 t)] (.bool (.lit false)) := by
  refine Or.inl (cq (open_fn t) (And.intro rfl trivial) ?_)
  refine Or.inl ?_
  refine Exists.intro [false, false, false, false, false, false, false, false, false, false, false] (And.intro (by decide +kernel) ?_)
  refine And.intro (fun h1 => absurd (grpB_true.1 h1) h) (fun h1 => ?_)
  exact And.intro rfl trivial
noncomputable def simB (t : List (List Int)) : Bool := grpB t && decide ((nsL t).length = 2)
theorem simple_fn (t : List (List Int)) : QF 24 [.ro (.rows .i64 t)] (.bool (.v (simB t))) := by
  unfold simB
  by_cases h : Grp t
  · rw [grpB_true.2 h, Bool.true_and]; exact mkQ Tryz.func24 (by decide +kernel) rfl (Nat.le_of_ble_eq_true rfl) fun _ => simple_k t h
  · rw [grpB_false.2 h, Bool.false_and]; exact mkQ Tryz.func24 (by decide +kernel) rfl (Nat.le_of_ble_eq_true rfl) fun _ => simpleN_k t h
theorem gallR_fn (t : List (List Int)) (hn : t.length ≤ 400) : QF 59 [frA t] (.ro (.ints .i64 (allI t))) := new_ro (gall_fn t hn)
theorem gderR_fn (t : List (List Int)) (w : List Int) (h : Grp t) (hw : inT t w) : QF 75 [frA t, .ro (.ints .i64 w)] (.ro (.ints .i64 (derL t w))) := new_ro (gder_fn t w h hw)
theorem solv_k (t : List (List Int)) (h : Grp t) : fnK TY SP Tryz.f23 [.ro (.rows .i64 t)] (.bool (.v (solB t))) := by
  have hm := h.most
  have hp := h.pos
  refine Or.inl (cq (openY_fn t h) (And.intro rfl trivial) ?_)
  refine Or.inl (cq (gallR_fn t hm) (And.intro (by repeat' first | refine And.intro ?_ ?_ | exact True.intro | (show (_ : Int) = (_ : Int); omega) | omega | exact rfl | (simp only [RO.len]; omega)) trivial) ?_)
  refine Exists.intro [] <| lp (X := Nat) (fun k => [(5, .ro (.ints .i64 (dS t k)))]) (fun _ => []) (fun k => k + (dS t k).length ≤ t.length) (fun k => t.length - k) 0 (by rw [Nat.zero_add]; exact Nat.le_of_eq (disI_len _)) (by repeat' first | refine And.intro ?_ ?_ | exact True.intro | (show (_ : Int) = (_ : Int); omega) | omega | exact rfl | (simp only [RO.len]; omega)) ?_
  intro k hk
  have hcl := dS_cl h k
  have hp1 := hcl.pos
  have hle := dS_le h k
  refine And.intro (fun h1 => ?_) (fun h1 => ?_)
  · have h1 : (1 : Int) < ((dS t k).length : Int) := h1
    refine Or.inl (cq (gderR_fn t (dS t k) h hcl.ins) (And.intro (by repeat' first | refine And.intro ?_ ?_ | exact True.intro | (show (_ : Int) = (_ : Int); omega) | omega | exact rfl | (simp only [RO.len]; omega)) (And.intro rfl trivial)) ?_)
    refine And.intro (fun h2 => ?_) (fun h2 => ?_)
    · have h2 : ((dS t (k + 1)).length : Int) = ((dS t k).length : Int) := h2
      refine And.intro ?_ trivial
      have hst := dS_stop h (k := k) (by omega) (t.length - k)
      rw [show k + (t.length - k) = t.length by omega] at hst
      show false = solB t
      unfold solB
      rw [hst]
      exact (decide_eq_false (by omega)).symm
    · have h2 : ((dS t (k + 1)).length : Int) ≠ ((dS t k).length : Int) := h2
      exact nx (k + 1) (show k + 1 + (dS t (k + 1)).length ≤ t.length by omega) (show t.length - (k + 1) < t.length - k by omega) (by repeat' first | refine And.intro ?_ ?_ | exact True.intro | (show (_ : Int) = (_ : Int); omega) | omega | exact rfl | (simp only [RO.len]; omega))
  · have h1 : ((dS t k).length : Int) ≤ 1 := h1
    refine And.intro ?_ trivial
    have hst := dS_one h (k := k) (by omega) (t.length - k)
    rw [show k + (t.length - k) = t.length by omega] at hst
    show true = solB t
    unfold solB
    exact (decide_eq_true hst).symm
theorem solvN_k (t : List (List Int)) (h : ¬ Grp t) : fnK TY SP Tryz.f23 [.ro (.rows .i64 t)] (.bool (.lit false)) := by
  refine Or.inl (cq (open_fn t) (And.intro rfl trivial) ?_)
  refine And.intro (fun h1 => ?_) (fun h1 => ?_)
  · exact And.intro rfl trivial
  · have h1 : (!grpB t) = false := h1
    exact absurd (grpB_true.1 (by simpa using h1)) h
theorem solv_fn (t : List (List Int)) : QF 23 [.ro (.rows .i64 t)] (.bool (.v (grpB t && solB t))) := by
  by_cases h : Grp t
  · rw [grpB_true.2 h, Bool.true_and]; exact mkQ Tryz.func23 (by decide +kernel) rfl (Nat.le_of_ble_eq_true rfl) fun _ => solv_k t h
  · rw [grpB_false.2 h, Bool.false_and]; exact mkQ Tryz.func23 (by decide +kernel) rfl (Nat.le_of_ble_eq_true rfl) fun _ => solvN_k t h
end Go.Proofs.YtjlkhjgnfnfmgaaGreat
end
