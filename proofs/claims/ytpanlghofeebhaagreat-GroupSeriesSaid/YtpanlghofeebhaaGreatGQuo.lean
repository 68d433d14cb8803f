import Derived.Test.YtpanlghofeebhaaGreatSgpLaw
import Derived.Test.YtpanlghofeebhaaGreatCmp
import Derived.Test.YtpanlghofeebhaaGreatMerge
import Derived.Test.YtpanlghofeebhaaGreatJhSer
section
section
/- Package group: parts of a group, subgroups, conjugates: contracts. -/
namespace Go.Proofs.YtpanlghofeebhaaGreat
open Go Go.AM
set_option maxRecDepth 100000
noncomputable def ascT (t : List (List Int)) (l : List Int) : Bool := @decide (Asc l ∧ inT t l) (Classical.propDecidable _)
theorem ascT_true {t : List (List Int)} {l : List Int} : ascT t l = true ↔ Asc l ∧ inT t l := by unfold ascT; exact @decide_eq_true_iff _ (Classical.propDecidable _)
theorem ascT_false {t : List (List Int)} {l : List Int} : ascT t l = false ↔ ¬ (Asc l ∧ inT t l) := by unfold ascT; exact @decide_eq_false_iff_not _ (Classical.propDecidable _)
theorem gasc_k (t : List (List Int)) (l : List Int) (hll : l.length ≤ 140737488355328) : fnK TY SP Tryz.f51 [frA t, .ro (.ints .i64 l)] (.bool (.v (ascT t l))) := by
  refine Exists.intro [] <| lp (X := Nat) (fun i => [(9, .int .i64 i)]) (fun _ => []) (fun i => AscTo t l i) (fun i => l.length - i) 0 .start (by repeat' first | refine And.intro ?_ ?_ | exact True.intro | (show (_ : Int) = (_ : Int); omega) | omega | exact rfl | (simp only [RO.len]; omega)) ?_
  intro i H
  have hi := H.le
  refine And.intro (fun h1 => ?_) (fun h1 => ?_)
  · have hil : i < l.length := by omega
    have no : ¬ (0 ≤ l.getD i 0 ∧ l.getD i 0 < (t.length : Int)) → false = ascT t l := fun hn => (ascT_false.2 fun hh => hn (hh.2 _ (getD_mem hil))).symm
    refine And.intro (by omega) ?_
    refine And.intro (fun h2 => ?_) (fun h2 => ?_)
    · have h2 : l.getD i 0 < 0 := h2
      exact And.intro (no (by omega)) trivial
    · have h2 : 0 ≤ l.getD i 0 := h2
      refine And.intro (fun h3 => ?_) (fun h3 => ?_)
      · have h3 : (t.length : Int) ≤ l.getD i 0 := h3
        exact And.intro (no (by omega)) trivial
      · have h3 : l.getD i 0 < (t.length : Int) := h3
        refine And.intro (fun h4 => ?_) (fun h4 => ?_)
        · refine And.intro (by omega) ?_
          refine And.intro (by omega) ?_
          have e1 : ((i : Int) - 1).toNat = i - 1 := by omega
          refine And.intro (fun h5 => ?_) (fun h5 => ?_)
          · have h5 : l.getD i 0 ≤ l.getD ((i : Int) - 1).toNat 0 := h5
            rw [e1] at h5
            refine And.intro ?_ trivial
            refine (ascT_false.2 fun hh => ?_).symm
            have := hh.1 (i - 1) (by omega)
            rw [show i - 1 + 1 = i by omega] at this
            omega
          · have h5 : l.getD ((i : Int) - 1).toNat 0 < l.getD i 0 := h5
            rw [e1] at h5
            refine And.intro (by omega) ?_
            exact nx (i + 1) (H.next hil h2 h3 fun _ => h5) (show l.length - (i + 1) < l.length - i by omega) (by repeat' first | refine And.intro ?_ ?_ | exact True.intro | (show (_ : Int) = (_ : Int); omega) | omega | exact rfl | (simp only [RO.len]; omega))
        · refine And.intro (by omega) ?_
          exact nx (i + 1) (H.next hil h2 h3 fun _ => by omega) (show l.length - (i + 1) < l.length - i by omega) (by repeat' first | refine And.intro ?_ ?_ | exact True.intro | (show (_ : Int) = (_ : Int); omega) | omega | exact rfl | (simp only [RO.len]; omega))
  · refine And.intro ?_ trivial
    exact (ascT_true.2 (H.done (by omega))).symm
theorem gasc_fn (t : List (List Int)) (l : List Int) : QF 51 [frA t, .ro (.ints .i64 l)] (.bool (.v (ascT t l))) := mkQ Tryz.func51 (by decide +kernel) rfl (Nat.le_of_ble_eq_true rfl) fun hf => gasc_k t l hf.2.1.1
theorem gmem_k (t : List (List Int)) (l : List Int) (hn : t.length ≤ 400) (hl : inT t l) (hll : l.length ≤ 140737488355328) : fnK TY SP Tryz.f46 [frA t, .ro (.ints .i64 l)] (.new (.bools (setB t.length (setI l)))) := by
  refine And.intro (by omega) ?_
  refine And.intro (by omega) ?_
  refine Exists.intro [] <| lp2 (fun (i : Nat) (_ : List Bool) => [(14, .int .i64 i)]) (fun _ r => [(11, .vec 0 (.bools r) [])]) (fun i r => i ≤ l.length ∧ r.length = t.length ∧ ∀ x, x < t.length → (r.getD x false = true ↔ (x : Int) ∈ l.take i)) (fun i _ => l.length - i) 0 (List.replicate t.length false) ⟨Nat.zero_le _, by simp, fun x hx => by rw [rep_false]; simp⟩ (by repeat' first | refine And.intro ?_ ?_ | exact True.intro | (show (_ : Int) = (_ : Int); omega) | omega | exact rfl | (simp only [RO.len]; omega)) ?_
  rintro i r ⟨hi, hr, hs⟩
  refine And.intro (fun h1 => ?_) (fun h1 => ?_)
  · have hil : i < l.length := by omega
    have hm := hl _ (getD_mem (d := 0) hil)
    refine And.intro (by omega) ?_
    refine And.intro (show 0 ≤ l.getD i 0 ∧ l.getD i 0 < (r.length : Int) by omega) ?_
    refine And.intro (show (0 : Int) ≤ l.getD i 0 by omega) ?_
    refine And.intro (by omega) ?_
    have hnx := set_iff hr hs (i := (l.getD i 0).toNat) (by omega)
    refine nx (i + 1, r.set (l.getD i 0).toNat true) ⟨by omega, hnx.1, fun x hx => ?_⟩ (show l.length - (i + 1) < l.length - i by omega) (by repeat' first | refine And.intro ?_ ?_ | exact True.intro | (show (_ : Int) = (_ : Int); omega) | omega | exact rfl | (simp only [RO.len]; omega))
    rw [hnx.2 x hx, take_snoc (d := 0) hil, List.mem_append, List.mem_singleton]
    exact or_congr Iff.rfl ⟨fun h => by omega, fun h => by omega⟩
  · refine And.intro ?_ trivial
    refine And.intro rfl ?_
    exact congrArg RO.bools (setB_ofP hr fun x hx => by rw [hs x hx, List.take_of_length_le (by omega), setI_iff])
theorem gmem_fn (t : List (List Int)) (l : List Int) (hn : t.length ≤ 400) (hl : inT t l) : QF 46 [frA t, .ro (.ints .i64 l)] (.new (.bools (setB t.length (setI l)))) := mkQ Tryz.func46 (by decide +kernel) rfl (Nat.le_of_ble_eq_true rfl) fun hf => gmem_k t l hn hl hf.2.1.1
theorem glist_k (l : List Bool) (hl : l.length ≤ 4096) : fnK TY SP Tryz.f54 [.ro (.bools l)] (.new (.ints .i64 (memV l))) := members_k l hl
theorem glist_fn (l : List Bool) (hl : l.length ≤ 4096) : QF 54 [.ro (.bools l)] (.new (.ints .i64 (memV l))) := mkQ Tryz.func54 (by decide +kernel) rfl (Nat.le_of_ble_eq_true rfl) fun _ => glist_k l hl
theorem gcj_fn (t : List (List Int)) (h : Grp t) (x y : Nat) (hx : x < t.length) (hy : y < t.length) : QF 47 [frA t, .int .i64 x, .int .i64 y] (.int .i64 (cjN t x y)) := mkQ Tryz.func47 (by decide +kernel) rfl (Nat.le_of_ble_eq_true rfl) fun _ => by
  have hs := h.toSh
  have hm := hs.most
  have r1 := hs.len hx
  have e1 := hs.ent hx hy
  have r2 := hs.len e1.2
  have hi := h.ninv hx
  have e2 := hs.ent e1.2 hi.1
  have il := invL_len (t := t)
  have ig := invL_get hx
  refine Or.inl ?_
  refine Exists.intro [false, false, false, false, false, false, false, false, false, false, false, false, false, false, false, false, false, false, false, false] (And.intro (by decide +kernel) ?_)
  refine And.intro (by omega) ?_
  refine And.intro (by rw [Int.toNat_natCast]; omega) ?_
  refine And.intro (by simp only [Int.toNat_natCast]; omega) ?_
  refine And.intro (by omega) ?_
  refine And.intro (by simp only [Int.toNat_natCast, ig, e1.1, r2]; omega) ?_
  refine And.intro ?_ trivial
  simp only [Int.toNat_natCast, ig, e1.1]
  exact e2.1
theorem gall_fn (t : List (List Int)) (hn : t.length ≤ 400) : QF 24 [frA t] (.new (.ints .i64 (allI t))) := mkQ Tryz.func24 (by decide +kernel) rfl (Nat.le_of_ble_eq_true rfl) fun _ => by
  refine And.intro (by omega) ?_
  refine And.intro (by omega) ?_
  refine Exists.intro [] <| lp2 (fun (k : Nat) (_ : List Int) => [(11, .int .i64 k)]) (fun _ L => [(8, .vec 0 (.ints .i64 L) [])]) (fun k L => k ≤ t.length ∧ L.length = t.length ∧ ∀ j, j < k → L.getD j 0 = (j : Int)) (fun k _ => t.length - k) 0 (List.replicate t.length 0) ⟨Nat.zero_le _, by simp, by omega⟩ (by repeat' first | refine And.intro ?_ ?_ | exact True.intro | (show (_ : Int) = (_ : Int); omega) | omega | exact rfl | (simp; omega)) ?_
  rintro k L ⟨hk, hL, hj⟩
  refine And.intro (fun h1 => ?_) (fun h1 => ?_)
  · have h1 : (k : Int) < ((List.replicate ((t.length : Nat) : Int).toNat (0 : Int)).length : Int) := h1
    rw [List.length_replicate, Int.toNat_natCast] at h1
    have hkl : k < t.length := by omega
    refine And.intro (show 0 ≤ (k : Int) ∧ (k : Int) < (L.length : Int) by omega) ?_
    refine And.intro (by omega) ?_
    refine And.intro (by omega) ?_
    refine nx (k + 1, L.set k (k : Int)) ⟨by omega, by rw [List.length_set]; exact hL, fun j hj' => ?_⟩ (show t.length - (k + 1) < t.length - k by omega) (by repeat' first | refine And.intro ?_ ?_ | exact True.intro | (show (_ : Int) = (_ : Int); omega) | omega | exact rfl | (simp only [RO.len]; omega))
    by_cases e : j = k
    · subst e; rw [getD_set_eq (by omega)]
    · rw [getD_set_ne (Ne.symm e)]; exact hj j (by omega)
  · have h1 : ((List.replicate ((t.length : Nat) : Int).toNat (0 : Int)).length : Int) ≤ (k : Int) := h1
    rw [List.length_replicate, Int.toNat_natCast] at h1
    refine And.intro (And.intro (by omega) ?_) trivial
    refine congrArg (RO.ints .i64) (ext_getD 0 (by rw [disI_len]; exact hL) fun j hj' => ?_)
    rw [hj j (by omega), disI_get (by omega)]
theorem gsub_k (t : List (List Int)) (l : List Int) (h : Grp t) (hll : l.length ≤ 140737488355328) : fnK TY SP Tryz.f25 [frA t, .ro (.ints .i64 l)] (.bool (.v (clB t l))) := by
  have hs := h.toSh
  have hm := hs.most
  refine And.intro (fun h1 => ?_) (fun h1 => ?_)
  · exact And.intro (clB_false.2 fun hh => by have := hh.pos; omega).symm trivial
  refine Or.inl (cq (gasc_fn t l) (And.intro (by repeat' first | refine And.intro ?_ ?_ | exact True.intro | (show (_ : Int) = (_ : Int); omega) | omega | exact rfl | (simp only [RO.len]; omega)) (And.intro rfl trivial)) ?_)
  refine And.intro (fun h2 => ?_) (fun h2 => ?_)
  · have h2 : (!ascT t l) = true := h2
    exact And.intro (clB_false.2 fun hh => by rw [ascT_true.2 ⟨hh.asc, hh.ins⟩] at h2; cases h2).symm trivial
  have h2 : (!ascT t l) = false := h2
  have hasc := ascT_true.1 (by simpa using h2)
  refine Or.inl (cq (gmem_fn t l hm hasc.2) (And.intro (by repeat' first | refine And.intro ?_ ?_ | exact True.intro | (show (_ : Int) = (_ : Int); omega) | omega | exact rfl | (simp only [RO.len]; omega)) (And.intro rfl trivial)) ?_)
  refine Exists.intro [] <| lp (X := Nat) (fun i => [(24, .int .i64 i)]) (fun _ => []) (fun i => i ≤ l.length ∧ ∀ a b, a < i → b < l.length → setI l (en t (l.getD a 0).toNat (l.getD b 0).toNat) = true) (fun i => l.length - i) 0 ⟨Nat.zero_le _, by omega⟩ (by repeat' first | refine And.intro ?_ ?_ | exact True.intro | (show (_ : Int) = (_ : Int); omega) | omega | exact rfl | (simp only [RO.len]; omega)) ?_
  rintro i ⟨hi, hP⟩
  have hsl := setB_len t.length (setI l)
  refine And.intro (fun h3 => ?_) (fun h3 => ?_)
  · have hil : i < l.length := by omega
    have hi1 := hasc.2 _ (getD_mem (d := 0) hil)
    refine And.intro (by omega) ?_
    refine Exists.intro [] <| lp (X := Nat) (fun j => [(30, .int .i64 j)]) (fun _ => []) (fun j => j ≤ l.length ∧ ∀ b, b < j → setI l (en t (l.getD i 0).toNat (l.getD b 0).toNat) = true) (fun j => l.length - j) 0 ⟨Nat.zero_le _, by omega⟩ (by repeat' first | refine And.intro ?_ ?_ | exact True.intro | (show (_ : Int) = (_ : Int); omega) | omega | exact rfl | (simp only [RO.len]; omega)) ?_
    rintro j ⟨hj, hQ⟩
    refine And.intro (fun h4 => ?_) (fun h4 => ?_)
    · have hjl : j < l.length := by omega
      have hj1 := hasc.2 _ (getD_mem (d := 0) hjl)
      have hx : (l.getD i 0).toNat < t.length := by omega
      have hy : (l.getD j 0).toNat < t.length := by omega
      have r1 := hs.len hx
      have e1 := hs.ent hx hy
      have g1 : (setB t.length (setI l)).getD ((t.getD (l.getD i 0).toNat []).getD (l.getD j 0).toNat 0).toNat false = setI l (en t (l.getD i 0).toNat (l.getD j 0).toNat) := by
        rw [e1.1, Int.toNat_natCast, setB_get e1.2]
      refine And.intro (by omega) ?_
      refine And.intro (show 0 ≤ l.getD i 0 ∧ l.getD i 0 < (t.length : Int) by omega) ?_
      refine And.intro (show 0 ≤ l.getD j 0 ∧ l.getD j 0 < ((t.getD (l.getD i 0).toNat []).length : Int) by omega) ?_
      refine And.intro (show 0 ≤ (t.getD (l.getD i 0).toNat []).getD (l.getD j 0).toNat 0 ∧ (t.getD (l.getD i 0).toNat []).getD (l.getD j 0).toNat 0 < ((setB t.length (setI l)).length : Int) by omega) ?_
      refine And.intro (fun h5 => ?_) (fun h5 => ?_)
      · have h5 : (!(setB t.length (setI l)).getD ((t.getD (l.getD i 0).toNat []).getD (l.getD j 0).toNat 0).toNat false) = true := h5
        rw [g1] at h5
        refine And.intro (clB_false.2 fun hh => ?_).symm trivial
        rw [hh.cl _ _ hx hy (setI_iff.2 (by rw [Int.toNat_of_nonneg hi1.1]; exact getD_mem hil)) (setI_iff.2 (by rw [Int.toNat_of_nonneg hj1.1]; exact getD_mem hjl))] at h5
        cases h5
      · have h5 : (!(setB t.length (setI l)).getD ((t.getD (l.getD i 0).toNat []).getD (l.getD j 0).toNat 0).toNat false) = false := h5
        rw [g1] at h5
        refine And.intro (by omega) ?_
        refine nx (j + 1) ⟨by omega, fun b hb => ?_⟩ (show l.length - (j + 1) < l.length - j by omega) (by repeat' first | refine And.intro ?_ ?_ | exact True.intro | (show (_ : Int) = (_ : Int); omega) | omega | exact rfl | (simp only [RO.len]; omega))
        by_cases e : b = j
        · subst e; simpa using h5
        · exact hQ b (by omega)
    · refine And.intro (by omega) ?_
      refine nx (i + 1) ⟨by omega, fun a b ha hb => ?_⟩ (show l.length - (i + 1) < l.length - i by omega) (by repeat' first | refine And.intro ?_ ?_ | exact True.intro | (show (_ : Int) = (_ : Int); omega) | omega | exact rfl | (simp only [RO.len]; omega))
      by_cases e : a = i
      · subst e; exact hQ b (by omega)
      · exact hP a b (by omega) hb
  · refine And.intro (clB_true.2 ⟨by omega, hasc.1, hasc.2, fun x y hx hy hmx hmy => ?_⟩).symm trivial
    obtain ⟨a, ha, hav⟩ := mem_getD 0 (setI_iff.1 hmx)
    obtain ⟨b, hb, hbv⟩ := mem_getD 0 (setI_iff.1 hmy)
    have := hP a b (by omega) hb
    rw [hav, hbv, Int.toNat_natCast, Int.toNat_natCast] at this
    exact this
theorem gsub_fn (t : List (List Int)) (l : List Int) (h : Grp t) : QF 25 [frA t, .ro (.ints .i64 l)] (.bool (.v (clB t l))) := mkQ Tryz.func25 (by decide +kernel) rfl (Nat.le_of_ble_eq_true rfl) fun hf => gsub_k t l h hf.2.1.1
theorem gnrm_k (t : List (List Int)) (w l : List Int) (h : Grp t) (hw : inT t w) (hl : inT t l) (hlw : w.length ≤ 140737488355328) (hll : l.length ≤ 140737488355328) : fnK TY SP Tryz.f27 [frA t, .ro (.ints .i64 w), .ro (.ints .i64 l)] (.bool (.v (nrmB t w l))) := by
  have hs := h.toSh
  have hm := hs.most
  refine Or.inl (cq (gmem_fn t l hm hl) (And.intro (by repeat' first | refine And.intro ?_ ?_ | exact True.intro | (show (_ : Int) = (_ : Int); omega) | omega | exact rfl | (simp only [RO.len]; omega)) (And.intro rfl trivial)) ?_)
  have hsl := setB_len t.length (setI l)
  refine Exists.intro [] <| lp (X := Nat) (fun i => [(17, .int .i64 i)]) (fun _ => []) (fun i => i ≤ w.length ∧ ∀ a b, a < i → b < l.length → setI l (cjN t (w.getD a 0).toNat (l.getD b 0).toNat) = true) (fun i => w.length - i) 0 ⟨Nat.zero_le _, by omega⟩ (by repeat' first | refine And.intro ?_ ?_ | exact True.intro | (show (_ : Int) = (_ : Int); omega) | omega | exact rfl | (simp only [RO.len]; omega)) ?_
  rintro i ⟨hi, hP⟩
  refine And.intro (fun h3 => ?_) (fun h3 => ?_)
  · have hil : i < w.length := by omega
    have hi1 := hw _ (getD_mem (d := 0) hil)
    refine And.intro (by omega) ?_
    refine Exists.intro [] <| lp (X := Nat) (fun j => [(23, .int .i64 j)]) (fun _ => []) (fun j => j ≤ l.length ∧ ∀ b, b < j → setI l (cjN t (w.getD i 0).toNat (l.getD b 0).toNat) = true) (fun j => l.length - j) 0 ⟨Nat.zero_le _, by omega⟩ (by repeat' first | refine And.intro ?_ ?_ | exact True.intro | (show (_ : Int) = (_ : Int); omega) | omega | exact rfl | (simp only [RO.len]; omega)) ?_
    rintro j ⟨hj, hQ⟩
    refine And.intro (fun h3 => ?_) (fun h3 => ?_)
    · have hjl : j < l.length := by omega
      have hj1 := hl _ (getD_mem (d := 0) hjl)
      refine And.intro (by omega) ?_
      have hx : (w.getD i 0).toNat < t.length := by omega
      have hy : (l.getD j 0).toNat < t.length := by omega
      have hc := cjN_lt h hx hy
      refine Or.inl (cq (gcj_fn t h (w.getD i 0).toNat (l.getD j 0).toNat hx hy) (And.intro (by repeat' first | refine And.intro ?_ ?_ | exact True.intro | (show (_ : Int) = (_ : Int); omega) | omega | exact rfl | (simp only [RO.len]; omega)) (And.intro (Int.toNat_of_nonneg hi1.1).symm (And.intro (Int.toNat_of_nonneg hj1.1).symm trivial))) ?_)
      refine And.intro (by omega) ?_
      have g1 : (setB t.length (setI l)).getD ((cjN t (w.getD i 0).toNat (l.getD j 0).toNat : Nat) : Int).toNat false = setI l (cjN t (w.getD i 0).toNat (l.getD j 0).toNat) := by
        rw [Int.toNat_natCast, setB_get hc]
      refine And.intro (fun h5 => ?_) (fun h5 => ?_)
      · have h5 : (!(setB t.length (setI l)).getD ((cjN t (w.getD i 0).toNat (l.getD j 0).toNat : Nat) : Int).toNat false) = true := h5
        rw [g1] at h5
        refine And.intro (nrmB_false.2 fun hh => ?_).symm trivial
        rw [hh _ (getD_mem hil) _ (getD_mem hjl)] at h5
        cases h5
      · have h5 : (!(setB t.length (setI l)).getD ((cjN t (w.getD i 0).toNat (l.getD j 0).toNat : Nat) : Int).toNat false) = false := h5
        rw [g1] at h5
        refine And.intro (by omega) ?_
        refine nx (j + 1) ⟨by omega, fun b hb => ?_⟩ (show l.length - (j + 1) < l.length - j by omega) (by repeat' first | refine And.intro ?_ ?_ | exact True.intro | (show (_ : Int) = (_ : Int); omega) | omega | exact rfl | (simp only [RO.len]; omega))
        by_cases e : b = j
        · subst e; simpa using h5
        · exact hQ b (by omega)
    · refine And.intro (by omega) ?_
      refine nx (i + 1) ⟨by omega, fun a b ha hb => ?_⟩ (show w.length - (i + 1) < w.length - i by omega) (by repeat' first | refine And.intro ?_ ?_ | exact True.intro | (show (_ : Int) = (_ : Int); omega) | omega | exact rfl | (simp only [RO.len]; omega))
      by_cases e : a = i
      · subst e; exact hQ b (by omega)
      · exact hP a b (by omega) hb
  · refine And.intro (nrmB_true.2 fun x hx y hy => ?_).symm trivial
    obtain ⟨a, ha, rfl⟩ := mem_getD 0 hx
    obtain ⟨b, hb, rfl⟩ := mem_getD 0 hy
    exact hP a b (by omega) hb
theorem gnrm_fn (t : List (List Int)) (w l : List Int) (h : Grp t) (hw : inT t w) (hl : inT t l) : QF 27 [frA t, .ro (.ints .i64 w), .ro (.ints .i64 l)] (.bool (.v (nrmB t w l))) := mkQ Tryz.func27 (by decide +kernel) rfl (Nat.le_of_ble_eq_true rfl) fun hf => gnrm_k t w l h hw hl hf.2.1.1 hf.2.2.1.1
end Go.Proofs.YtpanlghofeebhaaGreat
end
section
/- Package group: cosets, what elements generate, normal closures, commutators: contracts. -/
namespace Go.Proofs.YtpanlghofeebhaaGreat
open Go Go.AM
set_option maxRecDepth 100000
set_option maxHeartbeats 1000000 in
theorem ggen_k (t : List (List Int)) (gens : List Int) (h : Grp t) (hg : inT t gens) (hll : gens.length ≤ 140737488355328) : fnK TY SP Tryz.f85 [frA t, .ro (.ints .i64 gens)] (.new (.bools (setB t.length (genF t ((oneN t : Int) :: gens))))) := by
  have hs := h.toSh
  have hm := hs.most
  have ho := h.one.1
  refine And.intro (by omega) ?_
  refine And.intro (by omega) ?_
  refine And.intro (show 0 ≤ (oneN t : Int) ∧ (oneN t : Int) < ((List.replicate ((t.length : Nat) : Int).toNat false).length : Int) by rw [List.length_replicate]; omega) ?_
  refine And.intro (by omega) ?_
  refine Exists.intro [24] <| lp4 (fun (k : Nat) (_ : List Bool) (_ _ : List Int) => [(27, .int .i64 k), (7, .vec 38), (6, .vec 24)]) (fun _ I r u => [(17, .vec 0 (.bools I) []), (24, .vec 0 (.ints .i64 r) []), (38, .vec 0 (.ints .i64 u) [])])
    (fun k I r u => k ≤ gens.length ∧ GenI t gens k I r u ∧ (∀ x ∈ r, ∀ g ∈ u, ((en t x.toNat g.toNat : Nat) : Int) ∈ r) ∧ (∀ g ∈ gens.take k, g ∈ r) ∧ u.Nodup) (fun k _ _ _ => gens.length - k) 0 ((List.replicate t.length false).set (oneN t) true) [(oneN t : Int)] [] ⟨Nat.zero_le _, .start h, fun x _ g hg => (by cases hg), fun g hg => (by simp at hg), .nil⟩ (by repeat' first | refine And.intro ?_ ?_ | exact True.intro | (show (_ : Int) = (_ : Int); omega) | omega | exact rfl | (simp only [RO.len]; omega)) ?_
  rintro k I r u ⟨hk, hI, hc, ha, hnd⟩
  have hle := hI.le
  have hil := hI.len
  refine And.intro (fun h1 => ?_) (fun h1 => ?_)
  · have h1 : (k : Int) < (gens.length : Int) := h1
    have hkl : k < gens.length := by omega
    have hgk := hg _ (getD_mem (d := 0) hkl)
    have hgi : (gens.getD k 0).toNat < t.length := by omega
    have hgc : (((gens.getD k 0).toNat : Nat) : Int) = gens.getD k 0 := Int.toNat_of_nonneg hgk.1
    have hmk := hI.mem _ hgi
    rw [hgc] at hmk
    refine And.intro (by omega) ?_
    refine And.intro (show 0 ≤ gens.getD k 0 ∧ gens.getD k 0 < (I.length : Int) by omega) ?_
    refine And.intro (fun h2 => ?_) (fun h2 => ?_)
    · have h2 : I.getD (gens.getD k 0).toNat false = true := h2
      refine And.intro (by omega) ?_
      refine nx (k + 1, I, r, u) ⟨by omega, hI.skip hkl, hc, fun g hg' => ?_, hnd⟩ (show gens.length - (k + 1) < gens.length - k by omega) (by repeat' first | refine And.intro ?_ ?_ | exact True.intro | (show (_ : Int) = (_ : Int); omega) | omega | exact rfl | (simp only [RO.len]; omega))
      rw [take_get (d := 0) hkl] at hg'
      rcases List.mem_append.1 hg' with hg' | hg'
      · exact ha g hg'
      · rw [List.mem_singleton] at hg'; rw [hg']; exact hmk.1 h2
    · have h2 : I.getD (gens.getD k 0).toNat false = false := h2
      have hgr : gens.getD k 0 ∉ r := fun hh => by rw [hmk.2 hh] at h2; cases h2
      have hI1 := hI.more hkl
      have hnd1 : (u ++ [gens.getD k 0]).Nodup := by
        rw [List.nodup_append]
        refine ⟨hnd, by simp, fun a ha' b hb => ?_⟩
        rw [List.mem_singleton] at hb
        rintro rfl
        rw [hb] at ha'
        exact hgr (ha _ (hI.use _ ha'))
      have hul := nodup_len hnd1 fun x hx => hg x (List.mem_of_mem_take (hI1.use x hx))
      have hul1 : u.length + 1 ≤ t.length := by rw [List.length_append, List.length_singleton] at hul; exact hul
      refine And.intro (by rw [List.length_append, List.length_singleton]; omega) ?_
      refine Exists.intro [] <| lp3 (fun (i : Nat) (_ : List Bool) (_ : List Int) => [(10, .int .i64 i), (6, .vec 24)]) (fun _ I r => [(17, .vec 0 (.bools I) []), (24, .vec 0 (.ints .i64 r) [])])
        (fun i I r => i ≤ r.length ∧ GenI t gens (k + 1) I r (u ++ [gens.getD k 0]) ∧ (∀ j, j < i → ∀ g ∈ u ++ [gens.getD k 0], ((en t (r.getD j 0).toNat g.toNat : Nat) : Int) ∈ r) ∧ ∀ g ∈ gens.take k, g ∈ r) (fun i _ _ => t.length - i) 0 I r ⟨Nat.zero_le _, hI1, fun j hj => absurd hj (Nat.not_lt_zero _), ha⟩ (by repeat' first | refine And.intro ?_ ?_ | exact True.intro | (show (_ : Int) = (_ : Int); omega) | omega | exact rfl | (simp only [RO.len]; omega)) ?_
      rintro i I r ⟨hi, hI, hc, ha⟩
      have hle := hI.le
      refine And.intro (fun h3 => ?_) (fun h3 => ?_)
      · have h3 : (i : Int) < (r.length : Int) := h3
        have hir : i < r.length := by omega
        have hri := hI.ins _ (getD_mem (d := 0) hir)
        refine Exists.intro [40] <| lp3 (fun (m : Nat) (_ : List Bool) (_ : List Int) => [(47, .int .i64 m), (6, .vec 24)]) (fun _ I r => [(17, .vec 0 (.bools I) []), (24, .vec 0 (.ints .i64 r) [])])
          (fun m I' r' => m ≤ (u ++ [gens.getD k 0]).length ∧ GenI t gens (k + 1) I' r' (u ++ [gens.getD k 0]) ∧ (∃ z, r' = r ++ z) ∧ ∀ j, j < m → ((en t (r.getD i 0).toNat ((u ++ [gens.getD k 0]).getD j 0).toNat : Nat) : Int) ∈ r') (fun m _ _ => (u ++ [gens.getD k 0]).length - m) 0 I r ⟨Nat.zero_le _, hI, ⟨[], by simp⟩, fun j hj => absurd hj (Nat.not_lt_zero _)⟩ (by repeat' first | refine And.intro ?_ ?_ | exact True.intro | (show (_ : Int) = (_ : Int); omega) | omega | exact rfl | (simp only [RO.len]; omega)) ?_
        rintro m I' r' ⟨hm', hI', hz, hd⟩
        have hle' := hI'.le
        have hil' := hI'.len
        refine And.intro (fun h4 => ?_) (fun h4 => ?_)
        · have h4 : (m : Int) < ((u ++ [gens.getD k 0]).length : Int) := h4
          have hmu : m < (u ++ [gens.getD k 0]).length := by omega
          obtain ⟨z, hz⟩ := hz
          have hgm := hg _ (List.mem_of_mem_take (hI'.use _ (getD_mem (d := 0) hmu)))
          have hir' : i < r'.length := by rw [hz, List.length_append]; omega
          have hrr : r'.getD i 0 = r.getD i 0 := by rw [hz]; exact getD_appl hir
          have hx : (r.getD i 0).toNat < t.length := by omega
          have hy : ((u ++ [gens.getD k 0]).getD m 0).toNat < t.length := by omega
          have r1 := hs.len hx
          have e1 := hs.ent hx hy
          refine And.intro (by omega) ?_
          refine Or.inl ?_
          refine Exists.intro [false, false, false, false, false, false, false, false, false, false, false, false] (And.intro (by decide +kernel) ?_)
          refine And.intro (by omega) ?_
          refine And.intro (show 0 ≤ r'.getD i 0 ∧ r'.getD i 0 < (t.length : Int) by omega) ?_
          refine And.intro (show 0 ≤ (u ++ [gens.getD k 0]).getD m 0 ∧ (u ++ [gens.getD k 0]).getD m 0 < ((t.getD (r'.getD i 0).toNat []).length : Int) by rw [hrr]; omega) ?_
          refine And.intro (show 0 ≤ (t.getD (r'.getD i 0).toNat []).getD ((u ++ [gens.getD k 0]).getD m 0).toNat 0 ∧ (t.getD (r'.getD i 0).toNat []).getD ((u ++ [gens.getD k 0]).getD m 0).toNat 0 < (I'.length : Int) by rw [hrr]; omega) ?_
          refine And.intro (fun h5 => ?_) (fun h5 => ?_)
          · have h5 : (!I'.getD ((t.getD (r'.getD i 0).toNat []).getD ((u ++ [gens.getD k 0]).getD m 0).toNat 0).toNat false) = true := h5
            rw [hrr] at h5
            have h5 : I'.getD (en t (r'.getD i 0).toNat ((u ++ [gens.getD k 0]).getD m 0).toNat) false = false := by rw [hrr]; simpa [en] using h5
            have hp := hI'.push hs hir' hmu hg h5
            have hle2 := hp.le
            rw [List.length_append, List.length_singleton] at hle2
            have hyc : (t.getD (r'.getD i 0).toNat []).getD ((u ++ [gens.getD k 0]).getD m 0).toNat 0 = ((en t (r'.getD i 0).toNat ((u ++ [gens.getD k 0]).getD m 0).toNat : Nat) : Int) := by rw [hrr]; exact e1.1
            refine And.intro (show 0 ≤ (t.getD (r'.getD i 0).toNat []).getD ((u ++ [gens.getD k 0]).getD m 0).toNat 0 ∧ (t.getD (r'.getD i 0).toNat []).getD ((u ++ [gens.getD k 0]).getD m 0).toNat 0 < (I'.length : Int) by rw [hrr]; omega) ?_
            refine And.intro (show 0 ≤ (t.getD (r'.getD i 0).toNat []).getD ((u ++ [gens.getD k 0]).getD m 0).toNat 0 by rw [hyc]; omega) ?_
            refine And.intro (by rw [List.length_append, List.length_singleton]; omega) ?_
            refine And.intro (by omega) ?_
            refine nx (m + 1, _, r' ++ [(t.getD (r'.getD i 0).toNat []).getD ((u ++ [gens.getD k 0]).getD m 0).toNat 0]) ⟨by omega, by rw [hyc]; exact hp, ⟨z ++ [(t.getD (r'.getD i 0).toNat []).getD ((u ++ [gens.getD k 0]).getD m 0).toNat 0], by rw [hz, List.append_assoc]⟩, fun j hj => ?_⟩ (show (u ++ [gens.getD k 0]).length - (m + 1) < (u ++ [gens.getD k 0]).length - m by omega) (by repeat' first | refine And.intro ?_ ?_ | exact True.intro | (show (_ : Int) = (_ : Int); omega) | omega | exact rfl | (simp only [RO.len]; omega))
            rw [List.mem_append, List.mem_singleton]
            by_cases e : j = m
            · subst e; right; rw [hyc, hrr]
            · left; exact hd j (by omega)
          · have h5 : (!I'.getD ((t.getD (r'.getD i 0).toNat []).getD ((u ++ [gens.getD k 0]).getD m 0).toNat 0).toNat false) = false := h5
            rw [hrr] at h5
            have h5 : I'.getD (en t (r.getD i 0).toNat ((u ++ [gens.getD k 0]).getD m 0).toNat) false = true := by simpa [en] using h5
            refine And.intro (by omega) ?_
            refine nx (m + 1, I', r') ⟨by omega, hI', ⟨z, hz⟩, fun j hj => ?_⟩ (show (u ++ [gens.getD k 0]).length - (m + 1) < (u ++ [gens.getD k 0]).length - m by omega) (by repeat' first | refine And.intro ?_ ?_ | exact True.intro | (show (_ : Int) = (_ : Int); omega) | omega | exact rfl | (simp only [RO.len]; omega))
            by_cases e : j = m
            · subst e; exact (hI'.mem _ e1.2).1 h5
            · exact hd j (by omega)
        · have h4 : ((u ++ [gens.getD k 0]).length : Int) ≤ (m : Int) := h4
          obtain ⟨z, hz⟩ := hz
          have hir' : i < r'.length := by rw [hz, List.length_append]; omega
          have sub : ∀ x ∈ r, x ∈ r' := fun x hx => by rw [hz]; exact List.mem_append_left _ hx
          refine And.intro (by omega) ?_
          refine nx (i + 1, I', r') ⟨by omega, hI', fun j hj g hg' => ?_, fun g hg' => sub _ (ha g hg')⟩ (show t.length - (i + 1) < t.length - i by omega) (by repeat' first | refine And.intro ?_ ?_ | exact True.intro | (show (_ : Int) = (_ : Int); omega) | omega | exact rfl | (simp only [RO.len]; omega))
          have hrr : ∀ j, j < r.length → r'.getD j 0 = r.getD j 0 := fun j hj => by rw [hz]; exact getD_appl hj
          by_cases e : j = i
          · subst e
            rw [hrr j hir]
            obtain ⟨q, hq, rfl⟩ := mem_getD 0 hg'
            exact hd q (by omega)
          · rw [hrr j (by omega)]
            exact sub _ (hc j (by omega) g hg')
      · have h3 : (r.length : Int) ≤ (i : Int) := h3
        have hcl : ∀ x ∈ r, ∀ g ∈ u ++ [gens.getD k 0], ((en t x.toNat g.toNat : Nat) : Int) ∈ r := fun x hx g hg' => by
          obtain ⟨j, hj, rfl⟩ := mem_getD 0 hx
          exact hc j (by omega) g hg'
        have hgin : gens.getD k 0 ∈ r := by
          have := hcl _ hI.one (gens.getD k 0) (by simp)
          rw [Int.toNat_natCast, (h.one.2.1 _ hgi).1, hgc] at this
          exact this
        refine And.intro (by omega) ?_
        refine nx (k + 1, I, r, u ++ [gens.getD k 0]) ⟨by omega, hI, hcl, fun g hg' => ?_, hnd1⟩ (show gens.length - (k + 1) < gens.length - k by omega) (by repeat' first | refine And.intro ?_ ?_ | exact True.intro | (show (_ : Int) = (_ : Int); omega) | omega | exact rfl | (simp only [RO.len]; omega))
        rw [take_get (d := 0) hkl] at hg'
        rcases List.mem_append.1 hg' with hg' | hg'
        · exact ha g hg'
        · rw [List.mem_singleton] at hg'; rw [hg']; exact hgin
  · have h1 : (gens.length : Int) ≤ (k : Int) := h1
    refine And.intro (And.intro (by omega) ?_) trivial
    exact congrArg RO.bools (hI.done h (by omega) hg hc ha)
theorem ggen_fn (t : List (List Int)) (gens : List Int) (h : Grp t) (hg : inT t gens) : QF 85 [frA t, .ro (.ints .i64 gens)] (.new (.bools (setB t.length (genF t ((oneN t : Int) :: gens))))) := mkQ Tryz.func85 (by decide +kernel) rfl (Nat.le_of_ble_eq_true rfl) fun hf => ggen_k t gens h hg hf.2.1.1
end Go.Proofs.YtpanlghofeebhaaGreat
end
section
/- Package group: normal closures, commutators: contracts. -/
namespace Go.Proofs.YtpanlghofeebhaaGreat
open Go Go.AM
set_option maxRecDepth 100000
set_option maxHeartbeats 1000000 in
theorem gclo_k (t : List (List Int)) (w gens : List Int) (h : Grp t) (hw : ClL t w) (hg : inT t gens) (hlw : w.length ≤ 140737488355328) (hll : gens.length ≤ 140737488355328) : fnK TY SP Tryz.f52 [frA t, .ro (.ints .i64 w), .ro (.ints .i64 gens)] (.new (.bools (setB t.length (cloF t w gens)))) := by
  have hs := h.toSh
  have hm := hs.most
  refine And.intro (by omega) ?_
  refine And.intro (by omega) ?_
  refine Exists.intro [] <| lp3 (fun (k : Nat) (_ : List Bool) (_ : List Int) => [(20, .int .i64 k), (8, .vec 49)]) (fun _ I c => [(17, .vec 0 (.bools I) []), (49, .vec 0 (.ints .i64 c) [])])
    (fun k I c => k ≤ gens.length ∧ ColI t.length I c ∧ (∀ y, y ∈ c ↔ y ∈ cjL t w (gens.take k))) (fun k _ _ => gens.length - k) 0 (List.replicate t.length false) [] ⟨Nat.zero_le _, .start _, fun y => by simp [cjL]⟩ (by repeat' first | refine And.intro ?_ ?_ | exact True.intro | (show (_ : Int) = (_ : Int); omega) | omega | exact rfl | (simp only [RO.len]; omega)) ?_
  rintro k I c ⟨hk, hI, hc⟩
  have hil := hI.len
  refine And.intro (fun h1 => ?_) (fun h1 => ?_)
  · have h1 : (k : Int) < (gens.length : Int) := h1
    have hkl : k < gens.length := by omega
    have hgk := hg _ (getD_mem (d := 0) hkl)
    have hgi : (gens.getD k 0).toNat < t.length := by omega
    have hgc : (((gens.getD k 0).toNat : Nat) : Int) = gens.getD k 0 := Int.toNat_of_nonneg hgk.1
    have hmk := hI.mem _ hgi
    rw [hgc] at hmk
    refine And.intro (by omega) ?_
    refine And.intro (show 0 ≤ gens.getD k 0 ∧ gens.getD k 0 < (I.length : Int) by omega) ?_
    refine And.intro (fun h2 => ?_) (fun h2 => ?_)
    · have h2 : I.getD (gens.getD k 0).toNat false = true := h2
      refine And.intro (by omega) ?_
      refine nx (k + 1, I, c) ⟨by omega, hI, fun y => ?_⟩ (show gens.length - (k + 1) < gens.length - k by omega) (by repeat' first | refine And.intro ?_ ?_ | exact True.intro | (show (_ : Int) = (_ : Int); omega) | omega | exact rfl | (simp only [RO.len]; omega))
      rw [hc y, mem_cjL, mem_cjL, take_get (d := 0) hkl]
      constructor
      · rintro ⟨g, hg', hx⟩; exact ⟨g, List.mem_append_left _ hg', hx⟩
      · rintro ⟨g, hg', x, hx, e⟩
        rcases List.mem_append.1 hg' with hg' | hg'
        · exact ⟨g, hg', x, hx, e⟩
        · rw [List.mem_singleton] at hg'
          subst hg'
          obtain ⟨g0, hg0, x0, hx0, e0⟩ := mem_cjL.1 ((hc _).1 (hmk.1 h2))
          have a1 := hw.ins x hx
          have a2 := hw.ins x0 hx0
          have a3 := hg g0 (List.mem_of_mem_take hg0)
          have hxx : setI w (en t x.toNat x0.toNat) = true := hw.cl _ _ (by omega) (by omega) (setI_iff.2 (by rw [Int.toNat_of_nonneg a1.1]; exact hx)) (setI_iff.2 (by rw [Int.toNat_of_nonneg a2.1]; exact hx0))
          refine ⟨g0, hg0, _, setI_iff.1 hxx, ?_⟩
          rw [e, e0, Int.toNat_natCast, Int.toNat_natCast, cj_cj h (by omega) (by omega) (by omega)]
    · refine Exists.intro [] <| lp3 (fun (j : Nat) (_ : List Bool) (_ : List Int) => [(30, .int .i64 j), (8, .vec 49)]) (fun _ I c => [(17, .vec 0 (.bools I) []), (49, .vec 0 (.ints .i64 c) [])])
        (fun j I c => j ≤ w.length ∧ ColI t.length I c ∧ (∀ y, y ∈ c ↔ y ∈ cjL t w (gens.take k) ∨ ∃ i, i < j ∧ y = ((cjN t (w.getD i 0).toNat (gens.getD k 0).toNat : Nat) : Int))) (fun j _ _ => w.length - j) 0 I c ⟨Nat.zero_le _, hI, fun y => by rw [hc y]; exact ⟨.inl, fun hh => hh.elim id fun ⟨i, hi, _⟩ => absurd hi (Nat.not_lt_zero _)⟩⟩ (by repeat' first | refine And.intro ?_ ?_ | exact True.intro | (show (_ : Int) = (_ : Int); omega) | omega | exact rfl | (simp only [RO.len]; omega)) ?_
      rintro j I c ⟨hj, hI, hc⟩
      have hil := hI.len
      have hle := hI.le
      refine And.intro (fun h3 => ?_) (fun h3 => ?_)
      · have h3 : (j : Int) < (w.length : Int) := h3
        have hjl : j < w.length := by omega
        have hwj := hw.ins _ (getD_mem (d := 0) hjl)
        have hwi : (w.getD j 0).toNat < t.length := by omega
        have hcj := cjN_lt h hwi hgi
        have hmj := hI.mem _ hcj
        refine And.intro (by omega) ?_
        refine Or.inl (cq (gcj_fn t h (w.getD j 0).toNat (gens.getD k 0).toNat hwi hgi) (And.intro (by repeat' first | refine And.intro ?_ ?_ | exact True.intro | (show (_ : Int) = (_ : Int); omega) | omega | exact rfl | (simp only [RO.len]; omega)) (And.intro (Int.toNat_of_nonneg hwj.1).symm (And.intro hgc.symm trivial))) ?_)
        have hidx : 0 ≤ ((cjN t (w.getD j 0).toNat (gens.getD k 0).toNat : Nat) : Int) ∧ ((cjN t (w.getD j 0).toNat (gens.getD k 0).toNat : Nat) : Int) < (I.length : Int) := by omega
        have step : ∀ {y : Int}, (∃ i, i < j + 1 ∧ y = ((cjN t (w.getD i 0).toNat (gens.getD k 0).toNat : Nat) : Int)) ↔ (∃ i, i < j ∧ y = ((cjN t (w.getD i 0).toNat (gens.getD k 0).toNat : Nat) : Int)) ∨ y = ((cjN t (w.getD j 0).toNat (gens.getD k 0).toNat : Nat) : Int) := fun {y} => by
          constructor
          · rintro ⟨i, hi, e⟩
            by_cases ei : i = j
            · subst ei; exact .inr e
            · exact .inl ⟨i, by omega, e⟩
          · rintro (⟨i, hi, e⟩ | e)
            · exact ⟨i, by omega, e⟩
            · exact ⟨j, by omega, e⟩
        refine And.intro hidx ?_
        refine And.intro (fun h4 => ?_) (fun h4 => ?_)
        · have h4 : (!I.getD (((cjN t (w.getD j 0).toNat (gens.getD k 0).toNat : Nat) : Int)).toNat false) = true := h4
          rw [Int.toNat_natCast] at h4
          have hp := hI.push hcj (by simpa using h4)
          have hle2 := hp.le
          rw [List.length_append, List.length_singleton] at hle2
          refine And.intro hidx ?_
          refine And.intro hidx.1 ?_
          refine And.intro (by rw [List.length_append, List.length_singleton]; omega) ?_
          refine And.intro (by omega) ?_
          refine nx (j + 1, _, c ++ [((cjN t (w.getD j 0).toNat (gens.getD k 0).toNat : Nat) : Int)]) ⟨by omega, hp, fun y => ?_⟩ (show w.length - (j + 1) < w.length - j by omega) (by repeat' first | refine And.intro ?_ ?_ | exact True.intro | (show (_ : Int) = (_ : Int); omega) | omega | exact rfl | (simp only [RO.len]; omega))
          rw [List.mem_append, List.mem_singleton, hc y, step, or_assoc]
        · have h4 : (!I.getD (((cjN t (w.getD j 0).toNat (gens.getD k 0).toNat : Nat) : Int)).toNat false) = false := h4
          rw [Int.toNat_natCast] at h4
          have hin := hmj.1 (by simpa using h4)
          refine And.intro (by omega) ?_
          refine nx (j + 1, I, c) ⟨by omega, hI, fun y => ?_⟩ (show w.length - (j + 1) < w.length - j by omega) (by repeat' first | refine And.intro ?_ ?_ | exact True.intro | (show (_ : Int) = (_ : Int); omega) | omega | exact rfl | (simp only [RO.len]; omega))
          rw [hc y, step, ← or_assoc]
          exact ⟨.inl, fun hh => hh.elim id fun e => by rw [e]; exact (hc _).1 hin⟩
      · have h3 : (w.length : Int) ≤ (j : Int) := h3
        refine And.intro (by omega) ?_
        refine nx (k + 1, I, c) ⟨by omega, hI, fun y => ?_⟩ (show gens.length - (k + 1) < gens.length - k by omega) (by repeat' first | refine And.intro ?_ ?_ | exact True.intro | (show (_ : Int) = (_ : Int); omega) | omega | exact rfl | (simp only [RO.len]; omega))
        rw [hc y, mem_cjL, mem_cjL, take_get (d := 0) hkl]
        constructor
        · rintro (⟨g, hg', hx⟩ | ⟨i, hi, e⟩)
          · exact ⟨g, List.mem_append_left _ hg', hx⟩
          · exact ⟨gens.getD k 0, by simp, w.getD i 0, getD_mem (by omega), e⟩
        · rintro ⟨g, hg', x, hx, e⟩
          rcases List.mem_append.1 hg' with hg' | hg'
          · exact .inl ⟨g, hg', x, hx, e⟩
          · rw [List.mem_singleton] at hg'
            subst hg'
            obtain ⟨i, hi, rfl⟩ := mem_getD 0 hx
            exact .inr ⟨i, by omega, e⟩
  · have h1 : (gens.length : Int) ≤ (k : Int) := h1
    have hlec := hI.le
    refine Or.inl (cq (ggen_fn t c h hI.ins) (And.intro (by repeat' first | refine And.intro ?_ ?_ | exact True.intro | (show (_ : Int) = (_ : Int); omega) | omega | exact rfl | (simp only [RO.len]; omega)) (And.intro rfl trivial)) ?_)
    refine And.intro (And.intro rfl ?_) trivial
    have e : genF t ((oneN t : Int) :: c) = cloF t w gens := genF_congr (mk_same fun y => by
      rw [List.mem_cons, List.mem_cons, hc y, List.take_of_length_le (by omega)])
    rw [e]
theorem gclo_fn (t : List (List Int)) (w gens : List Int) (h : Grp t) (hw : ClL t w) (hg : inT t gens) : QF 52 [frA t, .ro (.ints .i64 w), .ro (.ints .i64 gens)] (.new (.bools (setB t.length (cloF t w gens)))) := mkQ Tryz.func52 (by decide +kernel) rfl (Nat.le_of_ble_eq_true rfl) fun hf => gclo_k t w gens h hw hg hf.2.1.1 hf.2.2.1.1
end Go.Proofs.YtpanlghofeebhaaGreat
end
section
/- Package group: its functions over subgroups: contracts. -/
namespace Go.Proofs.YtpanlghofeebhaaGreat
open Go Go.AM
set_option maxRecDepth 100000
end Go.Proofs.YtpanlghofeebhaaGreat
end
end
section
/- Package group: the quotient by a normal subgroup: contract. -/
namespace Go.Proofs.YtpanlghofeebhaaGreat
open Go Go.AM
set_option maxRecDepth 100000
def NmS (t : List (List Int)) (l : List Int) : Prop := Grp t ∧ ClL t l ∧ NrmIn t (allI t) l
end Go.Proofs.YtpanlghofeebhaaGreat
end
