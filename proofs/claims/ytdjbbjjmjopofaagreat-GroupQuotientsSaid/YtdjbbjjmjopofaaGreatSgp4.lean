import Derived.Test.YtdjbbjjmjopofaaGreatSgpLaw
import Derived.Test.YtdjbbjjmjopofaaGreatGrp
import Derived.Test.YtdjbbjjmjopofaaGreatRefIdeal
section
/- Package group: parts of a group, subgroups, conjugates: contracts. -/
namespace Go.Proofs.YtdjbbjjmjopofaaGreat
open Go Go.AM
set_option maxRecDepth 100000

noncomputable def ascT (t : List (List Int)) (l : List Int) : Bool := @decide (Asc l ∧ inT t l) (Classical.propDecidable _)
theorem ascT_true {t : List (List Int)} {l : List Int} : ascT t l = true ↔ Asc l ∧ inT t l := by unfold ascT; exact @decide_eq_true_iff _ (Classical.propDecidable _)
theorem ascT_false {t : List (List Int)} {l : List Int} : ascT t l = false ↔ ¬ (Asc l ∧ inT t l) := by unfold ascT; exact @decide_eq_false_iff_not _ (Classical.propDecidable _)
theorem gasc_k (t : List (List Int)) (l : List Int) (hll : l.length ≤ 140737488355328) : fnK TY SP Tryz.f126 [frA t, .ro (.ints .i64 l)] (.bool (.v (ascT t l))) := by
  refine Exists.intro [] <| lp (X := Nat) (fun i => [(9, .int .i64 i)]) (fun _ => []) (fun i => AscTo t l i) (fun i => l.length - i) 0 .start (by repeat' first | refine And.intro ?_ ?_ | exact True.intro | (show (_ : Int) = (_ : Int); omega) | omega | exact rfl | (simp only [RO.len]; omega)) ?_
  intro i H
  have hi := H.le
  refine And.intro (fun h1 => ?_) (fun h1 => ?_)
  · have hil : i < l.length := by omega
    have no : ¬ (0 ≤ l.getD i 0 ∧ l.getD i 0 < (t.length : Int)) → false = ascT t l := fun hn => (ascT_false.2 fun hh => hn (hh.2 _ (getD_mem hil))).symm
    refine And.intro (by omega) ?_
    refine And.intro (fun h2 => ?_) (fun h2 => ?_)
    · have h2 : l.getD i 0 < 0 := h2
      exact And.intro (no (by omega)) trivial
    · have h2 : 0 ≤ l.getD i 0 := h2
      refine And.intro (fun h3 => ?_) (fun h3 => ?_)
      · have h3 : (t.length : Int) ≤ l.getD i 0 := h3
        exact And.intro (no (by omega)) trivial
      · have h3 : l.getD i 0 < (t.length : Int) := h3
        refine And.intro (fun h4 => ?_) (fun h4 => ?_)
        · refine And.intro (by omega) ?_
          refine And.intro (by omega) ?_
          have e1 : ((i : Int) - 1).toNat = i - 1 := by omega
          refine And.intro (fun h5 => ?_) (fun h5 => ?_)
          · have h5 : l.getD i 0 ≤ l.getD ((i : Int) - 1).toNat 0 := h5
            rw [e1] at h5
            refine And.intro ?_ trivial
            refine (ascT_false.2 fun hh => ?_).symm
            have := hh.1 (i - 1) (by omega)
            rw [show i - 1 + 1 = i by omega] at this
            omega
          · have h5 : l.getD ((i : Int) - 1).toNat 0 < l.getD i 0 := h5
            rw [e1] at h5
            refine And.intro (by omega) ?_
            exact nx (i + 1) (H.next hil h2 h3 fun _ => h5) (show l.length - (i + 1) < l.length - i by omega) (by repeat' first | refine And.intro ?_ ?_ | exact True.intro | (show (_ : Int) = (_ : Int); omega) | omega | exact rfl | (simp only [RO.len]; omega))
        · refine And.intro (by omega) ?_
          exact nx (i + 1) (H.next hil h2 h3 fun _ => by omega) (show l.length - (i + 1) < l.length - i by omega) (by repeat' first | refine And.intro ?_ ?_ | exact True.intro | (show (_ : Int) = (_ : Int); omega) | omega | exact rfl | (simp only [RO.len]; omega))
  · refine And.intro ?_ trivial
    exact (ascT_true.2 (H.done (by omega))).symm
theorem gasc_fn (t : List (List Int)) (l : List Int) : QF 126 [frA t, .ro (.ints .i64 l)] (.bool (.v (ascT t l))) := mkQ Tryz.func126 (by decide +kernel) rfl (Nat.le_of_ble_eq_true rfl) fun hf => gasc_k t l hf.2.1.1

theorem gmem_k (t : List (List Int)) (l : List Int) (hn : t.length ≤ 400) (hl : inT t l) (hll : l.length ≤ 140737488355328) : fnK TY SP Tryz.f123 [frA t, .ro (.ints .i64 l)] (.new (.bools (setB t.length (setI l)))) := by
  refine And.intro (by omega) ?_
  refine And.intro (by omega) ?_
  refine Exists.intro [] <| lp2 (fun (i : Nat) (_ : List Bool) => [(14, .int .i64 i)]) (fun _ r => [(11, .vec 0 (.bools r) [])]) (fun i r => i ≤ l.length ∧ r.length = t.length ∧ ∀ x, x < t.length → (r.getD x false = true ↔ (x : Int) ∈ l.take i)) (fun i _ => l.length - i) 0 (List.replicate t.length false) ⟨Nat.zero_le _, by simp, fun x hx => by rw [rep_false]; simp⟩ (by repeat' first | refine And.intro ?_ ?_ | exact True.intro | (show (_ : Int) = (_ : Int); omega) | omega | exact rfl | (simp only [RO.len]; omega)) ?_
  rintro i r ⟨hi, hr, hs⟩
  refine And.intro (fun h1 => ?_) (fun h1 => ?_)
  · have hil : i < l.length := by omega
    have hm := hl _ (getD_mem (d := 0) hil)
    refine And.intro (by omega) ?_
    refine And.intro (show 0 ≤ l.getD i 0 ∧ l.getD i 0 < (r.length : Int) by omega) ?_
    refine And.intro (show (0 : Int) ≤ l.getD i 0 by omega) ?_
    refine And.intro (by omega) ?_
    have hnx := set_iff hr hs (i := (l.getD i 0).toNat) (by omega)
    refine nx (i + 1, r.set (l.getD i 0).toNat true) ⟨by omega, hnx.1, fun x hx => ?_⟩ (show l.length - (i + 1) < l.length - i by omega) (by repeat' first | refine And.intro ?_ ?_ | exact True.intro | (show (_ : Int) = (_ : Int); omega) | omega | exact rfl | (simp only [RO.len]; omega))
    rw [hnx.2 x hx, take_snoc (d := 0) hil, List.mem_append, List.mem_singleton]
    exact or_congr Iff.rfl ⟨fun h => by omega, fun h => by omega⟩
  · refine And.intro ?_ trivial
    refine And.intro rfl ?_
    exact congrArg RO.bools (setB_ofP hr fun x hx => by rw [hs x hx, List.take_of_length_le (by omega), setI_iff])
theorem gmem_fn (t : List (List Int)) (l : List Int) (hn : t.length ≤ 400) (hl : inT t l) : QF 123 [frA t, .ro (.ints .i64 l)] (.new (.bools (setB t.length (setI l)))) := mkQ Tryz.func123 (by decide +kernel) rfl (Nat.le_of_ble_eq_true rfl) fun hf => gmem_k t l hn hl hf.2.1.1

theorem gcj_k (t : List (List Int)) (h : Grp t) (x y : Nat) (hx : x < t.length) (hy : y < t.length) : fnK TY SP Tryz.f121 [frA t, .int .i64 x, .int .i64 y] (.int .i64 (cjN t x y)) := by
  have hs := h.toSh
  have hm := hs.most
  have r1 := hs.len hx
  have e1 := hs.ent hx hy
  have r2 := hs.len e1.2
  have hi := h.ninv hx
  have e2 := hs.ent e1.2 hi.1
  have il := invL_len (t := t)
  have ig := invL_get hx
  refine Or.inl ?_
  refine Exists.intro [false, false, false, false, false, false, false, false, false, false, false, false, false, false, false, false, false, false, false, false] (And.intro (by decide +kernel) ?_)
  refine And.intro (by omega) ?_
  refine And.intro (by rw [Int.toNat_natCast]; omega) ?_
  refine And.intro (by simp only [Int.toNat_natCast]; omega) ?_
  refine And.intro (by omega) ?_
  refine And.intro (by simp only [Int.toNat_natCast, ig, e1.1, r2]; omega) ?_
  refine And.intro ?_ trivial
  simp only [Int.toNat_natCast, ig, e1.1]
  exact e2.1
theorem gcj_fn (t : List (List Int)) (h : Grp t) (x y : Nat) (hx : x < t.length) (hy : y < t.length) : QF 121 [frA t, .int .i64 x, .int .i64 y] (.int .i64 (cjN t x y)) := mkQ Tryz.func121 (by decide +kernel) rfl (Nat.le_of_ble_eq_true rfl) fun _ => gcj_k t h x y hx hy

theorem gall_k (t : List (List Int)) (hn : t.length ≤ 400) : fnK TY SP Tryz.f72 [frA t] (.new (.ints .i64 (allI t))) := by
  refine And.intro (by omega) ?_
  refine And.intro (by omega) ?_
  refine Exists.intro [] <| lp2 (fun (k : Nat) (_ : List Int) => [(11, .int .i64 k)]) (fun _ L => [(8, .vec 0 (.ints .i64 L) [])]) (fun k L => k ≤ t.length ∧ L.length = t.length ∧ ∀ j, j < k → L.getD j 0 = (j : Int)) (fun k _ => t.length - k) 0 (List.replicate t.length 0) ⟨Nat.zero_le _, by simp, by omega⟩ (by repeat' first | refine And.intro ?_ ?_ | exact True.intro | (show (_ : Int) = (_ : Int); omega) | omega | exact rfl | (simp; omega)) ?_
  rintro k L ⟨hk, hL, hj⟩
  refine And.intro (fun h1 => ?_) (fun h1 => ?_)
  · have h1 : (k : Int) < ((List.replicate ((t.length : Nat) : Int).toNat (0 : Int)).length : Int) := h1
    rw [List.length_replicate, Int.toNat_natCast] at h1
    have hkl : k < t.length := by omega
    refine And.intro (show 0 ≤ (k : Int) ∧ (k : Int) < (L.length : Int) by omega) ?_
    refine And.intro (by omega) ?_
    refine And.intro (by omega) ?_
    refine nx (k + 1, L.set k (k : Int)) ⟨by omega, by rw [List.length_set]; exact hL, fun j hj' => ?_⟩ (show t.length - (k + 1) < t.length - k by omega) (by repeat' first | refine And.intro ?_ ?_ | exact True.intro | (show (_ : Int) = (_ : Int); omega) | omega | exact rfl | (simp only [RO.len]; omega))
    by_cases e : j = k
    · subst e; rw [getD_set_eq (by omega)]
    · rw [getD_set_ne (Ne.symm e)]; exact hj j (by omega)
  · have h1 : ((List.replicate ((t.length : Nat) : Int).toNat (0 : Int)).length : Int) ≤ (k : Int) := h1
    rw [List.length_replicate, Int.toNat_natCast] at h1
    refine And.intro (And.intro (by omega) ?_) trivial
    refine congrArg (RO.ints .i64) (ext_getD 0 (by rw [disI_len]; exact hL) fun j hj' => ?_)
    rw [hj j (by omega), disI_get (by omega)]
theorem gall_fn (t : List (List Int)) (hn : t.length ≤ 400) : QF 72 [frA t] (.new (.ints .i64 (allI t))) := mkQ Tryz.func72 (by decide +kernel) rfl (Nat.le_of_ble_eq_true rfl) fun _ => gall_k t hn

theorem gsub_k (t : List (List Int)) (l : List Int) (h : Grp t) (hll : l.length ≤ 140737488355328) : fnK TY SP Tryz.f79 [frA t, .ro (.ints .i64 l)] (.bool (.v (clB t l))) := by
  have hs := h.toSh
  have hm := hs.most
  refine And.intro (fun h1 => ?_) (fun h1 => ?_)
  · exact And.intro (clB_false.2 fun hh => by have := hh.pos; omega).symm trivial
  refine Or.inl (cq (gasc_fn t l) (And.intro (by repeat' first | refine And.intro ?_ ?_ | exact True.intro | (show (_ : Int) = (_ : Int); omega) | omega | exact rfl | (simp only [RO.len]; omega)) (And.intro rfl trivial)) ?_)
  refine And.intro (fun h2 => ?_) (fun h2 => ?_)
  · have h2 : (!ascT t l) = true := h2
    exact And.intro (clB_false.2 fun hh => by rw [ascT_true.2 ⟨hh.asc, hh.ins⟩] at h2; cases h2).symm trivial
  have h2 : (!ascT t l) = false := h2
  have hasc := ascT_true.1 (by simpa using h2)
  refine Or.inl (cq (gmem_fn t l hm hasc.2) (And.intro (by repeat' first | refine And.intro ?_ ?_ | exact True.intro | (show (_ : Int) = (_ : Int); omega) | omega | exact rfl | (simp only [RO.len]; omega)) (And.intro rfl trivial)) ?_)
  refine Exists.intro [] <| lp (X := Nat) (fun i => [(24, .int .i64 i)]) (fun _ => []) (fun i => i ≤ l.length ∧ ∀ a b, a < i → b < l.length → setI l (en t (l.getD a 0).toNat (l.getD b 0).toNat) = true) (fun i => l.length - i) 0 ⟨Nat.zero_le _, by omega⟩ (by repeat' first | refine And.intro ?_ ?_ | exact True.intro | (show (_ : Int) = (_ : Int); omega) | omega | exact rfl | (simp only [RO.len]; omega)) ?_
  rintro i ⟨hi, hP⟩
  have hsl := setB_len t.length (setI l)
  refine And.intro (fun h3 => ?_) (fun h3 => ?_)
  · have hil : i < l.length := by omega
    have hi1 := hasc.2 _ (getD_mem (d := 0) hil)
    refine And.intro (by omega) ?_
    refine Exists.intro [] <| lp (X := Nat) (fun j => [(30, .int .i64 j)]) (fun _ => []) (fun j => j ≤ l.length ∧ ∀ b, b < j → setI l (en t (l.getD i 0).toNat (l.getD b 0).toNat) = true) (fun j => l.length - j) 0 ⟨Nat.zero_le _, by omega⟩ (by repeat' first | refine And.intro ?_ ?_ | exact True.intro | (show (_ : Int) = (_ : Int); omega) | omega | exact rfl | (simp only [RO.len]; omega)) ?_
    rintro j ⟨hj, hQ⟩
    refine And.intro (fun h4 => ?_) (fun h4 => ?_)
    · have hjl : j < l.length := by omega
      have hj1 := hasc.2 _ (getD_mem (d := 0) hjl)
      have hx : (l.getD i 0).toNat < t.length := by omega
      have hy : (l.getD j 0).toNat < t.length := by omega
      have r1 := hs.len hx
      have e1 := hs.ent hx hy
      have g1 : (setB t.length (setI l)).getD ((t.getD (l.getD i 0).toNat []).getD (l.getD j 0).toNat 0).toNat false = setI l (en t (l.getD i 0).toNat (l.getD j 0).toNat) := by
        rw [e1.1, Int.toNat_natCast, setB_get e1.2]
      refine And.intro (by omega) ?_
      refine And.intro (show 0 ≤ l.getD i 0 ∧ l.getD i 0 < (t.length : Int) by omega) ?_
      refine And.intro (show 0 ≤ l.getD j 0 ∧ l.getD j 0 < ((t.getD (l.getD i 0).toNat []).length : Int) by omega) ?_
      refine And.intro (show 0 ≤ (t.getD (l.getD i 0).toNat []).getD (l.getD j 0).toNat 0 ∧ (t.getD (l.getD i 0).toNat []).getD (l.getD j 0).toNat 0 < ((setB t.length (setI l)).length : Int) by omega) ?_
      refine And.intro (fun h5 => ?_) (fun h5 => ?_)
      · have h5 : (!(setB t.length (setI l)).getD ((t.getD (l.getD i 0).toNat []).getD (l.getD j 0).toNat 0).toNat false) = true := h5
        rw [g1] at h5
        refine And.intro (clB_false.2 fun hh => ?_).symm trivial
        rw [hh.cl _ _ hx hy (setI_iff.2 (by rw [Int.toNat_of_nonneg hi1.1]; exact getD_mem hil)) (setI_iff.2 (by rw [Int.toNat_of_nonneg hj1.1]; exact getD_mem hjl))] at h5
        cases h5
      · have h5 : (!(setB t.length (setI l)).getD ((t.getD (l.getD i 0).toNat []).getD (l.getD j 0).toNat 0).toNat false) = false := h5
        rw [g1] at h5
        refine And.intro (by omega) ?_
        refine nx (j + 1) ⟨by omega, fun b hb => ?_⟩ (show l.length - (j + 1) < l.length - j by omega) (by repeat' first | refine And.intro ?_ ?_ | exact True.intro | (show (_ : Int) = (_ : Int); omega) | omega | exact rfl | (simp only [RO.len]; omega))
        by_cases e : b = j
        · subst e; simpa using h5
        · exact hQ b (by omega)
    · refine And.intro (by omega) ?_
      refine nx (i + 1) ⟨by omega, fun a b ha hb => ?_⟩ (show l.length - (i + 1) < l.length - i by omega) (by repeat' first | refine And.intro ?_ ?_ | exact True.intro | (show (_ : Int) = (_ : Int); omega) | omega | exact rfl | (simp only [RO.len]; omega))
      by_cases e : a = i
      · subst e; exact hQ b (by omega)
      · exact hP a b (by omega) hb
  · refine And.intro (clB_true.2 ⟨by omega, hasc.1, hasc.2, fun x y hx hy hmx hmy => ?_⟩).symm trivial
    obtain ⟨a, ha, hav⟩ := mem_getD 0 (setI_iff.1 hmx)
    obtain ⟨b, hb, hbv⟩ := mem_getD 0 (setI_iff.1 hmy)
    have := hP a b (by omega) hb
    rw [hav, hbv, Int.toNat_natCast, Int.toNat_natCast] at this
    exact this
theorem gsub_fn (t : List (List Int)) (l : List Int) (h : Grp t) : QF 79 [frA t, .ro (.ints .i64 l)] (.bool (.v (clB t l))) := mkQ Tryz.func79 (by decide +kernel) rfl (Nat.le_of_ble_eq_true rfl) fun hf => gsub_k t l h hf.2.1.1

theorem gnrm_k (t : List (List Int)) (w l : List Int) (h : Grp t) (hw : inT t w) (hl : inT t l) (hlw : w.length ≤ 140737488355328) (hll : l.length ≤ 140737488355328) : fnK TY SP Tryz.f80 [frA t, .ro (.ints .i64 w), .ro (.ints .i64 l)] (.bool (.v (nrmB t w l))) := by
  have hs := h.toSh
  have hm := hs.most
  refine Or.inl (cq (gmem_fn t l hm hl) (And.intro (by repeat' first | refine And.intro ?_ ?_ | exact True.intro | (show (_ : Int) = (_ : Int); omega) | omega | exact rfl | (simp only [RO.len]; omega)) (And.intro rfl trivial)) ?_)
  have hsl := setB_len t.length (setI l)
  refine Exists.intro [] <| lp (X := Nat) (fun i => [(17, .int .i64 i)]) (fun _ => []) (fun i => i ≤ w.length ∧ ∀ a b, a < i → b < l.length → setI l (cjN t (w.getD a 0).toNat (l.getD b 0).toNat) = true) (fun i => w.length - i) 0 ⟨Nat.zero_le _, by omega⟩ (by repeat' first | refine And.intro ?_ ?_ | exact True.intro | (show (_ : Int) = (_ : Int); omega) | omega | exact rfl | (simp only [RO.len]; omega)) ?_
  rintro i ⟨hi, hP⟩
  refine And.intro (fun h3 => ?_) (fun h3 => ?_)
  · have hil : i < w.length := by omega
    have hi1 := hw _ (getD_mem (d := 0) hil)
    refine And.intro (by omega) ?_
    refine Exists.intro [] <| lp (X := Nat) (fun j => [(23, .int .i64 j)]) (fun _ => []) (fun j => j ≤ l.length ∧ ∀ b, b < j → setI l (cjN t (w.getD i 0).toNat (l.getD b 0).toNat) = true) (fun j => l.length - j) 0 ⟨Nat.zero_le _, by omega⟩ (by repeat' first | refine And.intro ?_ ?_ | exact True.intro | (show (_ : Int) = (_ : Int); omega) | omega | exact rfl | (simp only [RO.len]; omega)) ?_
    rintro j ⟨hj, hQ⟩
    refine And.intro (fun h3 => ?_) (fun h3 => ?_)
    · have hjl : j < l.length := by omega
      have hj1 := hl _ (getD_mem (d := 0) hjl)
      refine And.intro (by omega) ?_
      have hx : (w.getD i 0).toNat < t.length := by omega
      have hy : (l.getD j 0).toNat < t.length := by omega
      have hc := cjN_lt h hx hy
      refine Or.inl (cq (gcj_fn t h (w.getD i 0).toNat (l.getD j 0).toNat hx hy) (And.intro (by repeat' first | refine And.intro ?_ ?_ | exact True.intro | (show (_ : Int) = (_ : Int); omega) | omega | exact rfl | (simp only [RO.len]; omega)) (And.intro (Int.toNat_of_nonneg hi1.1).symm (And.intro (Int.toNat_of_nonneg hj1.1).symm trivial))) ?_)
      refine And.intro (by omega) ?_
      have g1 : (setB t.length (setI l)).getD ((cjN t (w.getD i 0).toNat (l.getD j 0).toNat : Nat) : Int).toNat false = setI l (cjN t (w.getD i 0).toNat (l.getD j 0).toNat) := by
        rw [Int.toNat_natCast, setB_get hc]
      refine And.intro (fun h5 => ?_) (fun h5 => ?_)
      · have h5 : (!(setB t.length (setI l)).getD ((cjN t (w.getD i 0).toNat (l.getD j 0).toNat : Nat) : Int).toNat false) = true := h5
        rw [g1] at h5
        refine And.intro (nrmB_false.2 fun hh => ?_).symm trivial
        rw [hh _ (getD_mem hil) _ (getD_mem hjl)] at h5
        cases h5
      · have h5 : (!(setB t.length (setI l)).getD ((cjN t (w.getD i 0).toNat (l.getD j 0).toNat : Nat) : Int).toNat false) = false := h5
        rw [g1] at h5
        refine And.intro (by omega) ?_
        refine nx (j + 1) ⟨by omega, fun b hb => ?_⟩ (show l.length - (j + 1) < l.length - j by omega) (by repeat' first | refine And.intro ?_ ?_ | exact True.intro | (show (_ : Int) = (_ : Int); omega) | omega | exact rfl | (simp only [RO.len]; omega))
        by_cases e : b = j
        · subst e; simpa using h5
        · exact hQ b (by omega)
    · refine And.intro (by omega) ?_
      refine nx (i + 1) ⟨by omega, fun a b ha hb => ?_⟩ (show w.length - (i + 1) < w.length - i by omega) (by repeat' first | refine And.intro ?_ ?_ | exact True.intro | (show (_ : Int) = (_ : Int); omega) | omega | exact rfl | (simp only [RO.len]; omega))
      by_cases e : a = i
      · subst e; exact hQ b (by omega)
      · exact hP a b (by omega) hb
  · refine And.intro (nrmB_true.2 fun x hx y hy => ?_).symm trivial
    obtain ⟨a, ha, rfl⟩ := mem_getD 0 hx
    obtain ⟨b, hb, rfl⟩ := mem_getD 0 hy
    exact hP a b (by omega) hb
theorem gnrm_fn (t : List (List Int)) (w l : List Int) (h : Grp t) (hw : inT t w) (hl : inT t l) : QF 80 [frA t, .ro (.ints .i64 w), .ro (.ints .i64 l)] (.bool (.v (nrmB t w l))) := mkQ Tryz.func80 (by decide +kernel) rfl (Nat.le_of_ble_eq_true rfl) fun hf => gnrm_k t w l h hw hl hf.2.1.1 hf.2.2.1.1
end Go.Proofs.YtdjbbjjmjopofaaGreat
end
section
/- Package group: cosets, what elements generate, normal closures, commutators: contracts. -/
namespace Go.Proofs.YtdjbbjjmjopofaaGreat
open Go Go.AM
set_option maxRecDepth 100000

theorem gcos_k (t : List (List Int)) (l : List Int) (h : Grp t) (hl : ClL t l) (hll : l.length ≤ 140737488355328) : fnK TY SP Tryz.f81 [frA t, .ro (.ints .i64 l)] (.new (.ints .i64 (cosL t l))) := by
  have hs := h.toSh
  have hm := hs.most
  have hpre := cos_pre hl h
  have hCl := cosL_len t l
  have hc0 := cntC_zero t.length (cosE t l)
  have hC0 : ∀ y, y < t.length → 0 ≤ (cosL t l).getD y 0 := fun y hy => by
    have := canon_lt (l := repsL t.length (cosE t l)) (i := y) (by rw [repsL_len]; exact hy)
    exact this.1
  refine And.intro (by omega) ?_
  refine And.intro (by omega) ?_
  refine Exists.intro [] <| lp2 (fun (k : Nat) (_ : List Int) => [(17, .int .i64 k)]) (fun _ L => [(14, .vec 0 (.ints .i64 L) [])]) (fun k L => k ≤ t.length ∧ L.length = t.length ∧ ∀ j, j < k → L.getD j 0 = -1) (fun k _ => t.length - k) 0 (List.replicate t.length 0) ⟨Nat.zero_le _, by simp, by omega⟩ (by repeat' first | refine And.intro ?_ ?_ | exact True.intro | (show (_ : Int) = (_ : Int); omega) | omega | exact rfl | (simp; omega)) ?_
  rintro k L ⟨hk, hL, hj⟩
  refine And.intro (fun h1 => ?_) (fun h1 => ?_)
  · have h1 : (k : Int) < ((List.replicate ((t.length : Nat) : Int).toNat (0 : Int)).length : Int) := h1
    rw [List.length_replicate, Int.toNat_natCast] at h1
    have hkl : k < t.length := by omega
    refine And.intro (show 0 ≤ (k : Int) ∧ (k : Int) < (L.length : Int) by omega) ?_
    refine And.intro (by omega) ?_
    refine And.intro (by omega) ?_
    refine nx (k + 1, L.set k (-1)) ⟨by omega, by rw [List.length_set]; exact hL, fun j hj' => ?_⟩ (show t.length - (k + 1) < t.length - k by omega) (by repeat' first | refine And.intro ?_ ?_ | exact True.intro | (show (_ : Int) = (_ : Int); omega) | omega | exact rfl | (simp only [RO.len]; omega))
    by_cases e : j = k
    · subst e; rw [getD_set_eq (by omega)]
    · rw [getD_set_ne (Ne.symm e)]; exact hj j (by omega)
  have h1 : ((List.replicate ((t.length : Nat) : Int).toNat (0 : Int)).length : Int) ≤ (k : Int) := h1
  rw [List.length_replicate, Int.toNat_natCast] at h1
  refine Exists.intro [] <| lp2 (fun (x : Nat) (_ : List Int) => [(26, .int .i64 x), (7, .int .i64 (cntC t.length (cosE t l) x))]) (fun _ L => [(14, .vec 0 (.ints .i64 L) [])]) (fun x L => x ≤ t.length ∧ L.length = t.length ∧ ∀ y, y < t.length → ((∃ z, z < x ∧ cosE t l z y = true) → L.getD y 0 = (cosL t l).getD y 0) ∧ (¬ (∃ z, z < x ∧ cosE t l z y = true) → L.getD y 0 = -1)) (fun x _ => t.length - x) 0 L ⟨Nat.zero_le _, hL, fun y hy => ⟨fun ⟨z, hz, _⟩ => absurd hz (Nat.not_lt_zero _), fun _ => hj y (by omega)⟩⟩ (by repeat' first | refine And.intro ?_ ?_ | exact True.intro | (show (_ : Int) = (_ : Int); omega) | omega | exact rfl | (simp only [RO.len]; omega)) ?_
  rintro x M ⟨hx, hM, hP⟩
  have hcx := cntC_le t.length (cosE t l) x
  refine And.intro (fun h2 => ?_) (fun h2 => ?_)
  · have h2 : (x : Int) < (L.length : Int) := h2
    have hxl : x < t.length := by omega
    have hPx := hP x hxl
    refine And.intro (show 0 ≤ (x : Int) ∧ (x : Int) < (M.length : Int) by omega) ?_
    refine And.intro (fun h3 => ?_) (fun h3 => ?_)
    · have h3 : 0 ≤ M.getD x 0 := h3
      have hex : ∃ z, z < x ∧ cosE t l z x = true := Classical.byContradiction fun hn => by have := hPx.2 hn; omega
      obtain ⟨z0, hz0, he0⟩ := hex
      have hcnt := cls_old hpre hxl hz0 ⟨cos_symm hl h (by omega) hxl he0, he0⟩
      refine And.intro (by omega) ?_
      refine nx (x + 1, M) ⟨by omega, hM, fun y hy => ⟨fun ⟨z, hz, he⟩ => ?_, fun hn => (hP y hy).2 fun ⟨z, hz, he⟩ => hn ⟨z, by omega, he⟩⟩⟩ (show t.length - (x + 1) < t.length - x by omega) (by repeat' first | refine And.intro ?_ ?_ | exact True.intro | (show (_ : Int) = (_ : Int); omega) | omega | exact rfl | (simp only [RO.len]; omega))
      by_cases e : z = x
      · rw [e] at he
        exact (hP y hy).1 ⟨z0, hz0, hpre.2 z0 x y (by omega) hxl hy he0 he⟩
      · exact (hP y hy).1 ⟨z, by omega, he⟩
    · have h3 : M.getD x 0 < 0 := h3
      have hno : ¬ ∃ z, z < x ∧ cosE t l z x = true := fun hn => by have := hPx.1 hn; have := hC0 x hxl; omega
      obtain ⟨hval, hcnt⟩ := cls_new hpre hxl fun z hz he => hno ⟨z, hz, he.2⟩
      have hCx : (cosL t l).getD x 0 = (cntC t.length (cosE t l) x : Int) := hval
      refine Exists.intro [] <| lp2 (fun (m : Nat) (_ : List Int) => [(36, .int .i64 m)]) (fun _ L => [(14, .vec 0 (.ints .i64 L) [])]) (fun m L => m ≤ l.length ∧ L.length = t.length ∧ ∀ y, y < t.length → (((∃ z, z < x ∧ cosE t l z y = true) ∨ ∃ j, j < m ∧ en t x (l.getD j 0).toNat = y) → L.getD y 0 = (cosL t l).getD y 0) ∧ (¬ ((∃ z, z < x ∧ cosE t l z y = true) ∨ ∃ j, j < m ∧ en t x (l.getD j 0).toNat = y) → L.getD y 0 = -1)) (fun m _ => l.length - m) 0 M ⟨Nat.zero_le _, hM, fun y hy => ⟨fun hh => (hP y hy).1 (hh.elim id fun ⟨j, hj, _⟩ => absurd hj (Nat.not_lt_zero _)), fun hh => (hP y hy).2 fun hq => hh (.inl hq)⟩⟩ (by repeat' first | refine And.intro ?_ ?_ | exact True.intro | (show (_ : Int) = (_ : Int); omega) | omega | exact rfl | (simp only [RO.len]; omega)) ?_
      rintro m Q ⟨hml, hQ, hR⟩
      refine And.intro (fun h4 => ?_) (fun h4 => ?_)
      · have h4 : (m : Int) < (l.length : Int) := h4
        have hml' : m < l.length := by omega
        have hi1 := hl.ins _ (getD_mem (d := 0) hml')
        have hy : (l.getD m 0).toNat < t.length := by omega
        have r1 := hs.len hxl
        have e1 := hs.ent hxl hy
        refine And.intro (by omega) ?_
        refine And.intro (show 0 ≤ (x : Int) ∧ (x : Int) < (t.length : Int) by omega) ?_
        refine And.intro (show 0 ≤ l.getD m 0 ∧ l.getD m 0 < ((t.getD x []).length : Int) by omega) ?_
        refine And.intro (show 0 ≤ (t.getD x []).getD (l.getD m 0).toNat 0 ∧ (t.getD x []).getD (l.getD m 0).toNat 0 < (Q.length : Int) by omega) ?_
        refine And.intro (show 0 ≤ (t.getD x []).getD (l.getD m 0).toNat 0 by omega) ?_
        refine And.intro (by omega) ?_
        have hN : ((t.getD x []).getD (l.getD m 0).toNat 0).toNat = en t x (l.getD m 0).toNat := rfl
        refine nx (m + 1, Q.set ((t.getD x []).getD (l.getD m 0).toNat 0).toNat (cntC t.length (cosE t l) x : Int)) ⟨by omega, by rw [List.length_set]; exact hQ, fun y hy' => ?_⟩ (show l.length - (m + 1) < l.length - m by omega) (by repeat' first | refine And.intro ?_ ?_ | exact True.intro | (show (_ : Int) = (_ : Int); omega) | omega | exact rfl | (simp only [RO.len]; omega))
        by_cases e : en t x (l.getD m 0).toNat = y
        · refine ⟨fun _ => ?_, fun hn => absurd (.inr ⟨m, by omega, e⟩) hn⟩
          rw [hN, e, getD_set_eq (by omega), ← hCx]
          rw [← e]
          refine (cosL_iff hl h hxl e1.2).2 ((cosE_iff h hxl e1.2).2 ⟨_, hy, setI_iff.2 (by rw [Int.toNat_of_nonneg hi1.1]; exact getD_mem hml'), rfl⟩)
        · rw [hN, getD_set_ne e]
          refine ⟨fun hh => (hR y hy').1 (hh.imp id fun ⟨j, hj, he⟩ => ⟨j, ?_, he⟩), fun hh => (hR y hy').2 fun hq => hh (hq.imp id fun ⟨j, hj, he⟩ => ⟨j, by omega, he⟩)⟩
          by_cases ej : j = m
          · rw [ej] at he; exact absurd he e
          · omega
      · have h4 : (l.length : Int) ≤ (m : Int) := h4
        refine And.intro (by omega) ?_
        refine And.intro (by omega) ?_
        refine nx (x + 1, Q) ⟨by omega, hQ, fun y hy => ?_⟩ (show t.length - (x + 1) < t.length - x by omega) (by repeat' first | refine And.intro ?_ ?_ | exact True.intro | (show (_ : Int) = (_ : Int); omega) | omega | exact rfl | (simp only [RO.len]; omega))
        have hiff : (∃ z, z < x + 1 ∧ cosE t l z y = true) ↔ ((∃ z, z < x ∧ cosE t l z y = true) ∨ ∃ j, j < m ∧ en t x (l.getD j 0).toNat = y) := by
          constructor
          · rintro ⟨z, hz, he⟩
            by_cases ez : z = x
            · rw [ez] at he
              obtain ⟨a, ha, hma, hv⟩ := (cosE_iff h hxl hy).1 he
              obtain ⟨j, hj, hjv⟩ := mem_getD 0 (setI_iff.1 hma)
              exact .inr ⟨j, by omega, by rw [hjv, Int.toNat_natCast]; exact hv⟩
            · exact .inl ⟨z, by omega, he⟩
          · rintro (⟨z, hz, he⟩ | ⟨j, hj, he⟩)
            · exact ⟨z, by omega, he⟩
            · have hjl : j < l.length := by omega
              have hi1 := hl.ins _ (getD_mem (d := 0) hjl)
              exact ⟨x, by omega, (cosE_iff h hxl hy).2 ⟨_, by omega, setI_iff.2 (by rw [Int.toNat_of_nonneg hi1.1]; exact getD_mem hjl), he⟩⟩
        rw [hiff]; exact hR y hy
  · have h2 : (L.length : Int) ≤ (x : Int) := h2
    refine And.intro (And.intro (by omega) ?_) trivial
    refine congrArg (RO.ints .i64) (ext_getD 0 (by rw [hCl]; exact hM) fun y hy => ?_)
    exact (hP y (by omega)).1 ⟨y, by omega, hpre.1 y (by omega)⟩
theorem gcos_fn (t : List (List Int)) (l : List Int) (h : Grp t) (hl : ClL t l) : QF 81 [frA t, .ro (.ints .i64 l)] (.new (.ints .i64 (cosL t l))) := mkQ Tryz.func81 (by decide +kernel) rfl (Nat.le_of_ble_eq_true rfl) fun hf => gcos_k t l h hl hf.2.1.1

end Go.Proofs.YtdjbbjjmjopofaaGreat
end
section
/- Package group: normal closures, commutators: contracts. -/
namespace Go.Proofs.YtdjbbjjmjopofaaGreat
open Go Go.AM
set_option maxRecDepth 100000

end Go.Proofs.YtdjbbjjmjopofaaGreat
end
section
/- Package group: its functions over subgroups: contracts. -/
namespace Go.Proofs.YtdjbbjjmjopofaaGreat
open Go Go.AM
set_option maxRecDepth 100000
end Go.Proofs.YtdjbbjjmjopofaaGreat
end
