/- Package group: cosets, what elements generate, normal closures, commutators: contracts. -/
import Derived.Test.YtdjbbjjmjopofaaGreatSgp
namespace Go.Proofs.YtdjbbjjmjopofaaGreat
open Go Go.AM
set_option maxRecDepth 100000

theorem gcos_k (t : List (List Int)) (l : List Int) (h : Grp t) (hl : ClL t l) (hll : l.length ≤ 140737488355328) : fnK TY SP Tryz.f81 [frA t, .ro (.ints .i64 l)] (.new (.ints .i64 (cosL t l))) := by
  have hs := h.toSh
  have hm := hs.most
  have hpre := cos_pre hl h
  have hCl := cosL_len t l
  have hc0 := cntC_zero t.length (cosE t l)
  have hC0 : ∀ y, y < t.length → 0 ≤ (cosL t l).getD y 0 := fun y hy => by
    have := canon_lt (l := repsL t.length (cosE t l)) (i := y) (by rw [repsL_len]; exact hy)
    exact this.1
  refine And.intro (by omega) ?_
  refine And.intro (by omega) ?_
  refine Exists.intro [] <| lp2 (fun (k : Nat) (_ : List Int) => [(17, .int .i64 k)]) (fun _ L => [(14, .vec 0 (.ints .i64 L) [])]) (fun k L => k ≤ t.length ∧ L.length = t.length ∧ ∀ j, j < k → L.getD j 0 = -1) (fun k _ => t.length - k) 0 (List.replicate t.length 0) ⟨Nat.zero_le _, by simp, by omega⟩ (by repeat' first | refine And.intro ?_ ?_ | exact True.intro | (show (_ : Int) = (_ : Int); omega) | omega | exact rfl | (simp; omega)) ?_
  rintro k L ⟨hk, hL, hj⟩
  refine And.intro (fun h1 => ?_) (fun h1 => ?_)
  · have h1 : (k : Int) < ((List.replicate ((t.length : Nat) : Int).toNat (0 : Int)).length : Int) := h1
    rw [List.length_replicate, Int.toNat_natCast] at h1
    have hkl : k < t.length := by omega
    refine And.intro (show 0 ≤ (k : Int) ∧ (k : Int) < (L.length : Int) by omega) ?_
    refine And.intro (by omega) ?_
    refine And.intro (by omega) ?_
    refine nx (k + 1, L.set k (-1)) ⟨by omega, by rw [List.length_set]; exact hL, fun j hj' => ?_⟩ (show t.length - (k + 1) < t.length - k by omega) (by repeat' first | refine And.intro ?_ ?_ | exact True.intro | (show (_ : Int) = (_ : Int); omega) | omega | exact rfl | (simp only [RO.len]; omega))
    by_cases e : j = k
    · subst e; rw [getD_set_eq (by omega)]
    · rw [getD_set_ne (Ne.symm e)]; exact hj j (by omega)
  have h1 : ((List.replicate ((t.length : Nat) : Int).toNat (0 : Int)).length : Int) ≤ (k : Int) := h1
  rw [List.length_replicate, Int.toNat_natCast] at h1
  refine Exists.intro [] <| lp2 (fun (x : Nat) (_ : List Int) => [(26, .int .i64 x), (7, .int .i64 (cntC t.length (cosE t l) x))]) (fun _ L => [(14, .vec 0 (.ints .i64 L) [])]) (fun x L => x ≤ t.length ∧ L.length = t.length ∧ ∀ y, y < t.length → ((∃ z, z < x ∧ cosE t l z y = true) → L.getD y 0 = (cosL t l).getD y 0) ∧ (¬ (∃ z, z < x ∧ cosE t l z y = true) → L.getD y 0 = -1)) (fun x _ => t.length - x) 0 L ⟨Nat.zero_le _, hL, fun y hy => ⟨fun ⟨z, hz, _⟩ => absurd hz (Nat.not_lt_zero _), fun _ => hj y (by omega)⟩⟩ (by repeat' first | refine And.intro ?_ ?_ | exact True.intro | (show (_ : Int) = (_ : Int); omega) | omega | exact rfl | (simp only [RO.len]; omega)) ?_
  rintro x M ⟨hx, hM, hP⟩
  have hcx := cntC_le t.length (cosE t l) x
  refine And.intro (fun h2 => ?_) (fun h2 => ?_)
  · have h2 : (x : Int) < (L.length : Int) := h2
    have hxl : x < t.length := by omega
    have hPx := hP x hxl
    refine And.intro (show 0 ≤ (x : Int) ∧ (x : Int) < (M.length : Int) by omega) ?_
    refine And.intro (fun h3 => ?_) (fun h3 => ?_)
    · have h3 : 0 ≤ M.getD x 0 := h3
      have hex : ∃ z, z < x ∧ cosE t l z x = true := Classical.byContradiction fun hn => by have := hPx.2 hn; omega
      obtain ⟨z0, hz0, he0⟩ := hex
      have hcnt := cls_old hpre hxl hz0 ⟨cos_symm hl h (by omega) hxl he0, he0⟩
      refine And.intro (by omega) ?_
      refine nx (x + 1, M) ⟨by omega, hM, fun y hy => ⟨fun ⟨z, hz, he⟩ => ?_, fun hn => (hP y hy).2 fun ⟨z, hz, he⟩ => hn ⟨z, by omega, he⟩⟩⟩ (show t.length - (x + 1) < t.length - x by omega) (by repeat' first | refine And.intro ?_ ?_ | exact True.intro | (show (_ : Int) = (_ : Int); omega) | omega | exact rfl | (simp only [RO.len]; omega))
      by_cases e : z = x
      · rw [e] at he
        exact (hP y hy).1 ⟨z0, hz0, hpre.2 z0 x y (by omega) hxl hy he0 he⟩
      · exact (hP y hy).1 ⟨z, by omega, he⟩
    · have h3 : M.getD x 0 < 0 := h3
      have hno : ¬ ∃ z, z < x ∧ cosE t l z x = true := fun hn => by have := hPx.1 hn; have := hC0 x hxl; omega
      obtain ⟨hval, hcnt⟩ := cls_new hpre hxl fun z hz he => hno ⟨z, hz, he.2⟩
      have hCx : (cosL t l).getD x 0 = (cntC t.length (cosE t l) x : Int) := hval
      refine Exists.intro [] <| lp2 (fun (m : Nat) (_ : List Int) => [(36, .int .i64 m)]) (fun _ L => [(14, .vec 0 (.ints .i64 L) [])]) (fun m L => m ≤ l.length ∧ L.length = t.length ∧ ∀ y, y < t.length → (((∃ z, z < x ∧ cosE t l z y = true) ∨ ∃ j, j < m ∧ en t x (l.getD j 0).toNat = y) → L.getD y 0 = (cosL t l).getD y 0) ∧ (¬ ((∃ z, z < x ∧ cosE t l z y = true) ∨ ∃ j, j < m ∧ en t x (l.getD j 0).toNat = y) → L.getD y 0 = -1)) (fun m _ => l.length - m) 0 M ⟨Nat.zero_le _, hM, fun y hy => ⟨fun hh => (hP y hy).1 (hh.elim id fun ⟨j, hj, _⟩ => absurd hj (Nat.not_lt_zero _)), fun hh => (hP y hy).2 fun hq => hh (.inl hq)⟩⟩ (by repeat' first | refine And.intro ?_ ?_ | exact True.intro | (show (_ : Int) = (_ : Int); omega) | omega | exact rfl | (simp only [RO.len]; omega)) ?_
      rintro m Q ⟨hml, hQ, hR⟩
      refine And.intro (fun h4 => ?_) (fun h4 => ?_)
      · have h4 : (m : Int) < (l.length : Int) := h4
        have hml' : m < l.length := by omega
        have hi1 := hl.ins _ (getD_mem (d := 0) hml')
        have hy : (l.getD m 0).toNat < t.length := by omega
        have r1 := hs.len hxl
        have e1 := hs.ent hxl hy
        refine And.intro (by omega) ?_
        refine And.intro (show 0 ≤ (x : Int) ∧ (x : Int) < (t.length : Int) by omega) ?_
        refine And.intro (show 0 ≤ l.getD m 0 ∧ l.getD m 0 < ((t.getD x []).length : Int) by omega) ?_
        refine And.intro (show 0 ≤ (t.getD x []).getD (l.getD m 0).toNat 0 ∧ (t.getD x []).getD (l.getD m 0).toNat 0 < (Q.length : Int) by omega) ?_
        refine And.intro (show 0 ≤ (t.getD x []).getD (l.getD m 0).toNat 0 by omega) ?_
        refine And.intro (by omega) ?_
        have hN : ((t.getD x []).getD (l.getD m 0).toNat 0).toNat = en t x (l.getD m 0).toNat := rfl
        refine nx (m + 1, Q.set ((t.getD x []).getD (l.getD m 0).toNat 0).toNat (cntC t.length (cosE t l) x : Int)) ⟨by omega, by rw [List.length_set]; exact hQ, fun y hy' => ?_⟩ (show l.length - (m + 1) < l.length - m by omega) (by repeat' first | refine And.intro ?_ ?_ | exact True.intro | (show (_ : Int) = (_ : Int); omega) | omega | exact rfl | (simp only [RO.len]; omega))
        by_cases e : en t x (l.getD m 0).toNat = y
        · refine ⟨fun _ => ?_, fun hn => absurd (.inr ⟨m, by omega, e⟩) hn⟩
          rw [hN, e, getD_set_eq (by omega), ← hCx]
          rw [← e]
          refine (cosL_iff hl h hxl e1.2).2 ((cosE_iff h hxl e1.2).2 ⟨_, hy, setI_iff.2 (by rw [Int.toNat_of_nonneg hi1.1]; exact getD_mem hml'), rfl⟩)
        · rw [hN, getD_set_ne e]
          refine ⟨fun hh => (hR y hy').1 (hh.imp id fun ⟨j, hj, he⟩ => ⟨j, ?_, he⟩), fun hh => (hR y hy').2 fun hq => hh (hq.imp id fun ⟨j, hj, he⟩ => ⟨j, by omega, he⟩)⟩
          by_cases ej : j = m
          · rw [ej] at he; exact absurd he e
          · omega
      · have h4 : (l.length : Int) ≤ (m : Int) := h4
        refine And.intro (by omega) ?_
        refine And.intro (by omega) ?_
        refine nx (x + 1, Q) ⟨by omega, hQ, fun y hy => ?_⟩ (show t.length - (x + 1) < t.length - x by omega) (by repeat' first | refine And.intro ?_ ?_ | exact True.intro | (show (_ : Int) = (_ : Int); omega) | omega | exact rfl | (simp only [RO.len]; omega))
        have hiff : (∃ z, z < x + 1 ∧ cosE t l z y = true) ↔ ((∃ z, z < x ∧ cosE t l z y = true) ∨ ∃ j, j < m ∧ en t x (l.getD j 0).toNat = y) := by
          constructor
          · rintro ⟨z, hz, he⟩
            by_cases ez : z = x
            · rw [ez] at he
              obtain ⟨a, ha, hma, hv⟩ := (cosE_iff h hxl hy).1 he
              obtain ⟨j, hj, hjv⟩ := mem_getD 0 (setI_iff.1 hma)
              exact .inr ⟨j, by omega, by rw [hjv, Int.toNat_natCast]; exact hv⟩
            · exact .inl ⟨z, by omega, he⟩
          · rintro (⟨z, hz, he⟩ | ⟨j, hj, he⟩)
            · exact ⟨z, by omega, he⟩
            · have hjl : j < l.length := by omega
              have hi1 := hl.ins _ (getD_mem (d := 0) hjl)
              exact ⟨x, by omega, (cosE_iff h hxl hy).2 ⟨_, by omega, setI_iff.2 (by rw [Int.toNat_of_nonneg hi1.1]; exact getD_mem hjl), he⟩⟩
        rw [hiff]; exact hR y hy
  · have h2 : (L.length : Int) ≤ (x : Int) := h2
    refine And.intro (And.intro (by omega) ?_) trivial
    refine congrArg (RO.ints .i64) (ext_getD 0 (by rw [hCl]; exact hM) fun y hy => ?_)
    exact (hP y (by omega)).1 ⟨y, by omega, hpre.1 y (by omega)⟩
theorem gcos_fn (t : List (List Int)) (l : List Int) (h : Grp t) (hl : ClL t l) : QF 81 [frA t, .ro (.ints .i64 l)] (.new (.ints .i64 (cosL t l))) := mkQ Tryz.func81 (by decide +kernel) rfl (Nat.le_of_ble_eq_true rfl) fun hf => gcos_k t l h hl hf.2.1.1

set_option maxHeartbeats 1000000 in
theorem ggen_k (t : List (List Int)) (gens : List Int) (h : Grp t) (hg : inT t gens) (hll : gens.length ≤ 140737488355328) : fnK TY SP Tryz.f122 [frA t, .ro (.ints .i64 gens)] (.new (.bools (setB t.length (genF t ((oneN t : Int) :: gens))))) := by
  have hs := h.toSh
  have hm := hs.most
  have ho := h.one.1
  refine And.intro (by omega) ?_
  refine And.intro (by omega) ?_
  refine And.intro (show 0 ≤ (oneN t : Int) ∧ (oneN t : Int) < ((List.replicate ((t.length : Nat) : Int).toNat false).length : Int) by rw [List.length_replicate]; omega) ?_
  refine And.intro (by omega) ?_
  refine Exists.intro [24] <| lp4 (fun (k : Nat) (_ : List Bool) (_ _ : List Int) => [(27, .int .i64 k), (7, .vec 38), (6, .vec 24)]) (fun _ I r u => [(17, .vec 0 (.bools I) []), (24, .vec 0 (.ints .i64 r) []), (38, .vec 0 (.ints .i64 u) [])])
    (fun k I r u => k ≤ gens.length ∧ GenI t gens k I r u ∧ (∀ x ∈ r, ∀ g ∈ u, ((en t x.toNat g.toNat : Nat) : Int) ∈ r) ∧ (∀ g ∈ gens.take k, g ∈ r) ∧ u.Nodup) (fun k _ _ _ => gens.length - k) 0 ((List.replicate t.length false).set (oneN t) true) [(oneN t : Int)] [] ⟨Nat.zero_le _, .start h, fun x _ g hg => (by cases hg), fun g hg => (by simp at hg), .nil⟩ (by repeat' first | refine And.intro ?_ ?_ | exact True.intro | (show (_ : Int) = (_ : Int); omega) | omega | exact rfl | (simp only [RO.len]; omega)) ?_
  rintro k I r u ⟨hk, hI, hc, ha, hnd⟩
  have hle := hI.le
  have hil := hI.len
  refine And.intro (fun h1 => ?_) (fun h1 => ?_)
  · have h1 : (k : Int) < (gens.length : Int) := h1
    have hkl : k < gens.length := by omega
    have hgk := hg _ (getD_mem (d := 0) hkl)
    have hgi : (gens.getD k 0).toNat < t.length := by omega
    have hgc : (((gens.getD k 0).toNat : Nat) : Int) = gens.getD k 0 := Int.toNat_of_nonneg hgk.1
    have hmk := hI.mem _ hgi
    rw [hgc] at hmk
    refine And.intro (by omega) ?_
    refine And.intro (show 0 ≤ gens.getD k 0 ∧ gens.getD k 0 < (I.length : Int) by omega) ?_
    refine And.intro (fun h2 => ?_) (fun h2 => ?_)
    · have h2 : I.getD (gens.getD k 0).toNat false = true := h2
      refine And.intro (by omega) ?_
      refine nx (k + 1, I, r, u) ⟨by omega, hI.skip hkl, hc, fun g hg' => ?_, hnd⟩ (show gens.length - (k + 1) < gens.length - k by omega) (by repeat' first | refine And.intro ?_ ?_ | exact True.intro | (show (_ : Int) = (_ : Int); omega) | omega | exact rfl | (simp only [RO.len]; omega))
      rw [take_get (d := 0) hkl] at hg'
      rcases List.mem_append.1 hg' with hg' | hg'
      · exact ha g hg'
      · rw [List.mem_singleton] at hg'; rw [hg']; exact hmk.1 h2
    · have h2 : I.getD (gens.getD k 0).toNat false = false := h2
      have hgr : gens.getD k 0 ∉ r := fun hh => by rw [hmk.2 hh] at h2; cases h2
      have hI1 := hI.more hkl
      have hnd1 : (u ++ [gens.getD k 0]).Nodup := by
        rw [List.nodup_append]
        refine ⟨hnd, by simp, fun a ha' b hb => ?_⟩
        rw [List.mem_singleton] at hb
        rintro rfl
        rw [hb] at ha'
        exact hgr (ha _ (hI.use _ ha'))
      have hul := nodup_len hnd1 fun x hx => hg x (List.mem_of_mem_take (hI1.use x hx))
      have hul1 : u.length + 1 ≤ t.length := by rw [List.length_append, List.length_singleton] at hul; exact hul
      refine And.intro (by rw [List.length_append, List.length_singleton]; omega) ?_
      refine Exists.intro [] <| lp3 (fun (i : Nat) (_ : List Bool) (_ : List Int) => [(10, .int .i64 i), (6, .vec 24)]) (fun _ I r => [(17, .vec 0 (.bools I) []), (24, .vec 0 (.ints .i64 r) [])])
        (fun i I r => i ≤ r.length ∧ GenI t gens (k + 1) I r (u ++ [gens.getD k 0]) ∧ (∀ j, j < i → ∀ g ∈ u ++ [gens.getD k 0], ((en t (r.getD j 0).toNat g.toNat : Nat) : Int) ∈ r) ∧ ∀ g ∈ gens.take k, g ∈ r) (fun i _ _ => t.length - i) 0 I r ⟨Nat.zero_le _, hI1, fun j hj => absurd hj (Nat.not_lt_zero _), ha⟩ (by repeat' first | refine And.intro ?_ ?_ | exact True.intro | (show (_ : Int) = (_ : Int); omega) | omega | exact rfl | (simp only [RO.len]; omega)) ?_
      rintro i I r ⟨hi, hI, hc, ha⟩
      have hle := hI.le
      refine And.intro (fun h3 => ?_) (fun h3 => ?_)
      · have h3 : (i : Int) < (r.length : Int) := h3
        have hir : i < r.length := by omega
        have hri := hI.ins _ (getD_mem (d := 0) hir)
        refine Exists.intro [40] <| lp3 (fun (m : Nat) (_ : List Bool) (_ : List Int) => [(47, .int .i64 m), (6, .vec 24)]) (fun _ I r => [(17, .vec 0 (.bools I) []), (24, .vec 0 (.ints .i64 r) [])])
          (fun m I' r' => m ≤ (u ++ [gens.getD k 0]).length ∧ GenI t gens (k + 1) I' r' (u ++ [gens.getD k 0]) ∧ (∃ z, r' = r ++ z) ∧ ∀ j, j < m → ((en t (r.getD i 0).toNat ((u ++ [gens.getD k 0]).getD j 0).toNat : Nat) : Int) ∈ r') (fun m _ _ => (u ++ [gens.getD k 0]).length - m) 0 I r ⟨Nat.zero_le _, hI, ⟨[], by simp⟩, fun j hj => absurd hj (Nat.not_lt_zero _)⟩ (by repeat' first | refine And.intro ?_ ?_ | exact True.intro | (show (_ : Int) = (_ : Int); omega) | omega | exact rfl | (simp only [RO.len]; omega)) ?_
        rintro m I' r' ⟨hm', hI', hz, hd⟩
        have hle' := hI'.le
        have hil' := hI'.len
        refine And.intro (fun h4 => ?_) (fun h4 => ?_)
        · have h4 : (m : Int) < ((u ++ [gens.getD k 0]).length : Int) := h4
          have hmu : m < (u ++ [gens.getD k 0]).length := by omega
          obtain ⟨z, hz⟩ := hz
          have hgm := hg _ (List.mem_of_mem_take (hI'.use _ (getD_mem (d := 0) hmu)))
          have hir' : i < r'.length := by rw [hz, List.length_append]; omega
          have hrr : r'.getD i 0 = r.getD i 0 := by rw [hz]; exact getD_appl hir
          have hx : (r.getD i 0).toNat < t.length := by omega
          have hy : ((u ++ [gens.getD k 0]).getD m 0).toNat < t.length := by omega
          have r1 := hs.len hx
          have e1 := hs.ent hx hy
          refine And.intro (by omega) ?_
          refine Or.inl ?_
          refine Exists.intro [false, false, false, false, false, false, false, false, false, false, false, false] (And.intro (by decide +kernel) ?_)
          refine And.intro (by omega) ?_
          refine And.intro (show 0 ≤ r'.getD i 0 ∧ r'.getD i 0 < (t.length : Int) by omega) ?_
          refine And.intro (show 0 ≤ (u ++ [gens.getD k 0]).getD m 0 ∧ (u ++ [gens.getD k 0]).getD m 0 < ((t.getD (r'.getD i 0).toNat []).length : Int) by rw [hrr]; omega) ?_
          refine And.intro (show 0 ≤ (t.getD (r'.getD i 0).toNat []).getD ((u ++ [gens.getD k 0]).getD m 0).toNat 0 ∧ (t.getD (r'.getD i 0).toNat []).getD ((u ++ [gens.getD k 0]).getD m 0).toNat 0 < (I'.length : Int) by rw [hrr]; omega) ?_
          refine And.intro (fun h5 => ?_) (fun h5 => ?_)
          · have h5 : (!I'.getD ((t.getD (r'.getD i 0).toNat []).getD ((u ++ [gens.getD k 0]).getD m 0).toNat 0).toNat false) = true := h5
            rw [hrr] at h5
            have h5 : I'.getD (en t (r'.getD i 0).toNat ((u ++ [gens.getD k 0]).getD m 0).toNat) false = false := by rw [hrr]; simpa [en] using h5
            have hp := hI'.push hs hir' hmu hg h5
            have hle2 := hp.le
            rw [List.length_append, List.length_singleton] at hle2
            have hyc : (t.getD (r'.getD i 0).toNat []).getD ((u ++ [gens.getD k 0]).getD m 0).toNat 0 = ((en t (r'.getD i 0).toNat ((u ++ [gens.getD k 0]).getD m 0).toNat : Nat) : Int) := by rw [hrr]; exact e1.1
            refine And.intro (show 0 ≤ (t.getD (r'.getD i 0).toNat []).getD ((u ++ [gens.getD k 0]).getD m 0).toNat 0 ∧ (t.getD (r'.getD i 0).toNat []).getD ((u ++ [gens.getD k 0]).getD m 0).toNat 0 < (I'.length : Int) by rw [hrr]; omega) ?_
            refine And.intro (show 0 ≤ (t.getD (r'.getD i 0).toNat []).getD ((u ++ [gens.getD k 0]).getD m 0).toNat 0 by rw [hyc]; omega) ?_
            refine And.intro (by rw [List.length_append, List.length_singleton]; omega) ?_
            refine And.intro (by omega) ?_
            refine nx (m + 1, _, r' ++ [(t.getD (r'.getD i 0).toNat []).getD ((u ++ [gens.getD k 0]).getD m 0).toNat 0]) ⟨by omega, by rw [hyc]; exact hp, ⟨z ++ [(t.getD (r'.getD i 0).toNat []).getD ((u ++ [gens.getD k 0]).getD m 0).toNat 0], by rw [hz, List.append_assoc]⟩, fun j hj => ?_⟩ (show (u ++ [gens.getD k 0]).length - (m + 1) < (u ++ [gens.getD k 0]).length - m by omega) (by repeat' first | refine And.intro ?_ ?_ | exact True.intro | (show (_ : Int) = (_ : Int); omega) | omega | exact rfl | (simp only [RO.len]; omega))
            rw [List.mem_append, List.mem_singleton]
            by_cases e : j = m
            · subst e; right; rw [hyc, hrr]
            · left; exact hd j (by omega)
          · have h5 : (!I'.getD ((t.getD (r'.getD i 0).toNat []).getD ((u ++ [gens.getD k 0]).getD m 0).toNat 0).toNat false) = false := h5
            rw [hrr] at h5
            have h5 : I'.getD (en t (r.getD i 0).toNat ((u ++ [gens.getD k 0]).getD m 0).toNat) false = true := by simpa [en] using h5
            refine And.intro (by omega) ?_
            refine nx (m + 1, I', r') ⟨by omega, hI', ⟨z, hz⟩, fun j hj => ?_⟩ (show (u ++ [gens.getD k 0]).length - (m + 1) < (u ++ [gens.getD k 0]).length - m by omega) (by repeat' first | refine And.intro ?_ ?_ | exact True.intro | (show (_ : Int) = (_ : Int); omega) | omega | exact rfl | (simp only [RO.len]; omega))
            by_cases e : j = m
            · subst e; exact (hI'.mem _ e1.2).1 h5
            · exact hd j (by omega)
        · have h4 : ((u ++ [gens.getD k 0]).length : Int) ≤ (m : Int) := h4
          obtain ⟨z, hz⟩ := hz
          have hir' : i < r'.length := by rw [hz, List.length_append]; omega
          have sub : ∀ x ∈ r, x ∈ r' := fun x hx => by rw [hz]; exact List.mem_append_left _ hx
          refine And.intro (by omega) ?_
          refine nx (i + 1, I', r') ⟨by omega, hI', fun j hj g hg' => ?_, fun g hg' => sub _ (ha g hg')⟩ (show t.length - (i + 1) < t.length - i by omega) (by repeat' first | refine And.intro ?_ ?_ | exact True.intro | (show (_ : Int) = (_ : Int); omega) | omega | exact rfl | (simp only [RO.len]; omega))
          have hrr : ∀ j, j < r.length → r'.getD j 0 = r.getD j 0 := fun j hj => by rw [hz]; exact getD_appl hj
          by_cases e : j = i
          · subst e
            rw [hrr j hir]
            obtain ⟨q, hq, rfl⟩ := mem_getD 0 hg'
            exact hd q (by omega)
          · rw [hrr j (by omega)]
            exact sub _ (hc j (by omega) g hg')
      · have h3 : (r.length : Int) ≤ (i : Int) := h3
        have hcl : ∀ x ∈ r, ∀ g ∈ u ++ [gens.getD k 0], ((en t x.toNat g.toNat : Nat) : Int) ∈ r := fun x hx g hg' => by
          obtain ⟨j, hj, rfl⟩ := mem_getD 0 hx
          exact hc j (by omega) g hg'
        have hgin : gens.getD k 0 ∈ r := by
          have := hcl _ hI.one (gens.getD k 0) (by simp)
          rw [Int.toNat_natCast, (h.one.2.1 _ hgi).1, hgc] at this
          exact this
        refine And.intro (by omega) ?_
        refine nx (k + 1, I, r, u ++ [gens.getD k 0]) ⟨by omega, hI, hcl, fun g hg' => ?_, hnd1⟩ (show gens.length - (k + 1) < gens.length - k by omega) (by repeat' first | refine And.intro ?_ ?_ | exact True.intro | (show (_ : Int) = (_ : Int); omega) | omega | exact rfl | (simp only [RO.len]; omega))
        rw [take_get (d := 0) hkl] at hg'
        rcases List.mem_append.1 hg' with hg' | hg'
        · exact ha g hg'
        · rw [List.mem_singleton] at hg'; rw [hg']; exact hgin
  · have h1 : (gens.length : Int) ≤ (k : Int) := h1
    refine And.intro (And.intro (by omega) ?_) trivial
    exact congrArg RO.bools (hI.done h (by omega) hg hc ha)
theorem ggen_fn (t : List (List Int)) (gens : List Int) (h : Grp t) (hg : inT t gens) : QF 122 [frA t, .ro (.ints .i64 gens)] (.new (.bools (setB t.length (genF t ((oneN t : Int) :: gens))))) := mkQ Tryz.func122 (by decide +kernel) rfl (Nat.le_of_ble_eq_true rfl) fun hf => ggen_k t gens h hg hf.2.1.1
end Go.Proofs.YtdjbbjjmjopofaaGreat
