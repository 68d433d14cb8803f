/- Package group: cosets, what elements generate, normal closures, commutators: contracts. -/
import Derived.Test.YtdjbbjjmjopofaaGreatSgp
namespace Go.Proofs.YtdjbbjjmjopofaaGreat
open Go Go.AM
set_option maxRecDepth 100000

set_option maxHeartbeats 1000000 in
theorem ggen_k (t : List (List Int)) (gens : List Int) (h : Grp t) (hg : inT t gens) (hll : gens.length ≤ 140737488355328) : fnK TY SP Tryz.f122 [frA t, .ro (.ints .i64 gens)] (.new (.bools (setB t.length (genF t ((oneN t : Int) :: gens))))) := by
  have hs := h.toSh
  have hm := hs.most
  have ho := h.one.1
  refine And.intro (by omega) ?_
  refine And.intro (by omega) ?_
  refine And.intro (show 0 ≤ (oneN t : Int) ∧ (oneN t : Int) < ((List.replicate ((t.length : Nat) : Int).toNat false).length : Int) by rw [List.length_replicate]; omega) ?_
  refine And.intro (by omega) ?_
  refine Exists.intro [24] <| lp4 (fun (k : Nat) (_ : List Bool) (_ _ : List Int) => [(27, .int .i64 k), (7, .vec 38), (6, .vec 24)]) (fun _ I r u => [(17, .vec 0 (.bools I) []), (24, .vec 0 (.ints .i64 r) []), (38, .vec 0 (.ints .i64 u) [])])
    (fun k I r u => k ≤ gens.length ∧ GenI t gens k I r u ∧ (∀ x ∈ r, ∀ g ∈ u, ((en t x.toNat g.toNat : Nat) : Int) ∈ r) ∧ (∀ g ∈ gens.take k, g ∈ r) ∧ u.Nodup) (fun k _ _ _ => gens.length - k) 0 ((List.replicate t.length false).set (oneN t) true) [(oneN t : Int)] [] ⟨Nat.zero_le _, .start h, fun x _ g hg => (by cases hg), fun g hg => (by simp at hg), .nil⟩ (by repeat' first | refine And.intro ?_ ?_ | exact True.intro | (show (_ : Int) = (_ : Int); omega) | omega | exact rfl | (simp only [RO.len]; omega)) ?_
  rintro k I r u ⟨hk, hI, hc, ha, hnd⟩
  have hle := hI.le
  have hil := hI.len
  refine And.intro (fun h1 => ?_) (fun h1 => ?_)
  · have h1 : (k : Int) < (gens.length : Int) := h1
    have hkl : k < gens.length := by omega
    have hgk := hg _ (getD_mem (d := 0) hkl)
    have hgi : (gens.getD k 0).toNat < t.length := by omega
    have hgc : (((gens.getD k 0).toNat : Nat) : Int) = gens.getD k 0 := Int.toNat_of_nonneg hgk.1
    have hmk := hI.mem _ hgi
    rw [hgc] at hmk
    refine And.intro (by omega) ?_
    refine And.intro (show 0 ≤ gens.getD k 0 ∧ gens.getD k 0 < (I.length : Int) by omega) ?_
    refine And.intro (fun h2 => ?_) (fun h2 => ?_)
    · have h2 : I.getD (gens.getD k 0).toNat false = true := h2
      refine And.intro (by omega) ?_
      refine nx (k + 1, I, r, u) ⟨by omega, hI.skip hkl, hc, fun g hg' => ?_, hnd⟩ (show gens.length - (k + 1) < gens.length - k by omega) (by repeat' first | refine And.intro ?_ ?_ | exact True.intro | (show (_ : Int) = (_ : Int); omega) | omega | exact rfl | (simp only [RO.len]; omega))
      rw [take_get (d := 0) hkl] at hg'
      rcases List.mem_append.1 hg' with hg' | hg'
      · exact ha g hg'
      · rw [List.mem_singleton] at hg'; rw [hg']; exact hmk.1 h2
    · have h2 : I.getD (gens.getD k 0).toNat false = false := h2
      have hgr : gens.getD k 0 ∉ r := fun hh => by rw [hmk.2 hh] at h2; cases h2
      have hI1 := hI.more hkl
      have hnd1 : (u ++ [gens.getD k 0]).Nodup := by
        rw [List.nodup_append]
        refine ⟨hnd, by simp, fun a ha' b hb => ?_⟩
        rw [List.mem_singleton] at hb
        rintro rfl
        rw [hb] at ha'
        exact hgr (ha _ (hI.use _ ha'))
      have hul := nodup_len hnd1 fun x hx => hg x (List.mem_of_mem_take (hI1.use x hx))
      have hul1 : u.length + 1 ≤ t.length := by rw [List.length_append, List.length_singleton] at hul; exact hul
      refine And.intro (by rw [List.length_append, List.length_singleton]; omega) ?_
      refine Exists.intro [] <| lp3 (fun (i : Nat) (_ : List Bool) (_ : List Int) => [(10, .int .i64 i), (6, .vec 24)]) (fun _ I r => [(17, .vec 0 (.bools I) []), (24, .vec 0 (.ints .i64 r) [])])
        (fun i I r => i ≤ r.length ∧ GenI t gens (k + 1) I r (u ++ [gens.getD k 0]) ∧ (∀ j, j < i → ∀ g ∈ u ++ [gens.getD k 0], ((en t (r.getD j 0).toNat g.toNat : Nat) : Int) ∈ r) ∧ ∀ g ∈ gens.take k, g ∈ r) (fun i _ _ => t.length - i) 0 I r ⟨Nat.zero_le _, hI1, fun j hj => absurd hj (Nat.not_lt_zero _), ha⟩ (by repeat' first | refine And.intro ?_ ?_ | exact True.intro | (show (_ : Int) = (_ : Int); omega) | omega | exact rfl | (simp only [RO.len]; omega)) ?_
      rintro i I r ⟨hi, hI, hc, ha⟩
      have hle := hI.le
      refine And.intro (fun h3 => ?_) (fun h3 => ?_)
      · have h3 : (i : Int) < (r.length : Int) := h3
        have hir : i < r.length := by omega
        have hri := hI.ins _ (getD_mem (d := 0) hir)
        refine Exists.intro [40] <| lp3 (fun (m : Nat) (_ : List Bool) (_ : List Int) => [(47, .int .i64 m), (6, .vec 24)]) (fun _ I r => [(17, .vec 0 (.bools I) []), (24, .vec 0 (.ints .i64 r) [])])
          (fun m I' r' => m ≤ (u ++ [gens.getD k 0]).length ∧ GenI t gens (k + 1) I' r' (u ++ [gens.getD k 0]) ∧ (∃ z, r' = r ++ z) ∧ ∀ j, j < m → ((en t (r.getD i 0).toNat ((u ++ [gens.getD k 0]).getD j 0).toNat : Nat) : Int) ∈ r') (fun m _ _ => (u ++ [gens.getD k 0]).length - m) 0 I r ⟨Nat.zero_le _, hI, ⟨[], by simp⟩, fun j hj => absurd hj (Nat.not_lt_zero _)⟩ (by repeat' first | refine And.intro ?_ ?_ | exact True.intro | (show (_ : Int) = (_ : Int); omega) | omega | exact rfl | (simp only [RO.len]; omega)) ?_
        rintro m I' r' ⟨hm', hI', hz, hd⟩
        have hle' := hI'.le
        have hil' := hI'.len
        refine And.intro (fun h4 => ?_) (fun h4 => ?_)
        · have h4 : (m : Int) < ((u ++ [gens.getD k 0]).length : Int) := h4
          have hmu : m < (u ++ [gens.getD k 0]).length := by omega
          obtain ⟨z, hz⟩ := hz
          have hgm := hg _ (List.mem_of_mem_take (hI'.use _ (getD_mem (d := 0) hmu)))
          have hir' : i < r'.length := by rw [hz, List.length_append]; omega
          have hrr : r'.getD i 0 = r.getD i 0 := by rw [hz]; exact getD_appl hir
          have hx : (r.getD i 0).toNat < t.length := by omega
          have hy : ((u ++ [gens.getD k 0]).getD m 0).toNat < t.length := by omega
          have r1 := hs.len hx
          have e1 := hs.ent hx hy
          refine And.intro (by omega) ?_
          refine Or.inl ?_
          refine Exists.intro [false, false, false, false, false, false, false, false, false, false, false, false] (And.intro (by decide +kernel) ?_)
          refine And.intro (by omega) ?_
          refine And.intro (show 0 ≤ r'.getD i 0 ∧ r'.getD i 0 < (t.length : Int) by omega) ?_
          refine And.intro (show 0 ≤ (u ++ [gens.getD k 0]).getD m 0 ∧ (u ++ [gens.getD k 0]).getD m 0 < ((t.getD (r'.getD i 0).toNat []).length : Int) by rw [hrr]; omega) ?_
          refine And.intro (show 0 ≤ (t.getD (r'.getD i 0).toNat []).getD ((u ++ [gens.getD k 0]).getD m 0).toNat 0 ∧ (t.getD (r'.getD i 0).toNat []).getD ((u ++ [gens.getD k 0]).getD m 0).toNat 0 < (I'.length : Int) by rw [hrr]; omega) ?_
          refine And.intro (fun h5 => ?_) (fun h5 => ?_)
          · have h5 : (!I'.getD ((t.getD (r'.getD i 0).toNat []).getD ((u ++ [gens.getD k 0]).getD m 0).toNat 0).toNat false) = true := h5
            rw [hrr] at h5
            have h5 : I'.getD (en t (r'.getD i 0).toNat ((u ++ [gens.getD k 0]).getD m 0).toNat) false = false := by rw [hrr]; simpa [en] using h5
            have hp := hI'.push hs hir' hmu hg h5
            have hle2 := hp.le
            rw [List.length_append, List.length_singleton] at hle2
            have hyc : (t.getD (r'.getD i 0).toNat []).getD ((u ++ [gens.getD k 0]).getD m 0).toNat 0 = ((en t (r'.getD i 0).toNat ((u ++ [gens.getD k 0]).getD m 0).toNat : Nat) : Int) := by rw [hrr]; exact e1.1
            refine And.intro (show 0 ≤ (t.getD (r'.getD i 0).toNat []).getD ((u ++ [gens.getD k 0]).getD m 0).toNat 0 ∧ (t.getD (r'.getD i 0).toNat []).getD ((u ++ [gens.getD k 0]).getD m 0).toNat 0 < (I'.length : Int) by rw [hrr]; omega) ?_
            refine And.intro (show 0 ≤ (t.getD (r'.getD i 0).toNat []).getD ((u ++ [gens.getD k 0]).getD m 0).toNat 0 by rw [hyc]; omega) ?_
            refine And.intro (by rw [List.length_append, List.length_singleton]; omega) ?_
            refine And.intro (by omega) ?_
            refine nx (m + 1, _, r' ++ [(t.getD (r'.getD i 0).toNat []).getD ((u ++ [gens.getD k 0]).getD m 0).toNat 0]) ⟨by omega, by rw [hyc]; exact hp, ⟨z ++ [(t.getD (r'.getD i 0).toNat []).getD ((u ++ [gens.getD k 0]).getD m 0).toNat 0], by rw [hz, List.append_assoc]⟩, fun j hj => ?_⟩ (show (u ++ [gens.getD k 0]).length - (m + 1) < (u ++ [gens.getD k 0]).length - m by omega) (by repeat' first | refine And.intro ?_ ?_ | exact True.intro | (show (_ : Int) = (_ : Int); omega) | omega | exact rfl | (simp only [RO.len]; omega))
            rw [List.mem_append, List.mem_singleton]
            by_cases e : j = m
            · subst e; right; rw [hyc, hrr]
            · left; exact hd j (by omega)
          · have h5 : (!I'.getD ((t.getD (r'.getD i 0).toNat []).getD ((u ++ [gens.getD k 0]).getD m 0).toNat 0).toNat false) = false := h5
            rw [hrr] at h5
            have h5 : I'.getD (en t (r.getD i 0).toNat ((u ++ [gens.getD k 0]).getD m 0).toNat) false = true := by simpa [en] using h5
            refine And.intro (by omega) ?_
            refine nx (m + 1, I', r') ⟨by omega, hI', ⟨z, hz⟩, fun j hj => ?_⟩ (show (u ++ [gens.getD k 0]).length - (m + 1) < (u ++ [gens.getD k 0]).length - m by omega) (by repeat' first | refine And.intro ?_ ?_ | exact True.intro | (show (_ : Int) = (_ : Int); omega) | omega | exact rfl | (simp only [RO.len]; omega))
            by_cases e : j = m
            · subst e; exact (hI'.mem _ e1.2).1 h5
            · exact hd j (by omega)
        · have h4 : ((u ++ [gens.getD k 0]).length : Int) ≤ (m : Int) := h4
          obtain ⟨z, hz⟩ := hz
          have hir' : i < r'.length := by rw [hz, List.length_append]; omega
          have sub : ∀ x ∈ r, x ∈ r' := fun x hx => by rw [hz]; exact List.mem_append_left _ hx
          refine And.intro (by omega) ?_
          refine nx (i + 1, I', r') ⟨by omega, hI', fun j hj g hg' => ?_, fun g hg' => sub _ (ha g hg')⟩ (show t.length - (i + 1) < t.length - i by omega) (by repeat' first | refine And.intro ?_ ?_ | exact True.intro | (show (_ : Int) = (_ : Int); omega) | omega | exact rfl | (simp only [RO.len]; omega))
          have hrr : ∀ j, j < r.length → r'.getD j 0 = r.getD j 0 := fun j hj => by rw [hz]; exact getD_appl hj
          by_cases e : j = i
          · subst e
            rw [hrr j hir]
            obtain ⟨q, hq, rfl⟩ := mem_getD 0 hg'
            exact hd q (by omega)
          · rw [hrr j (by omega)]
            exact sub _ (hc j (by omega) g hg')
      · have h3 : (r.length : Int) ≤ (i : Int) := h3
        have hcl : ∀ x ∈ r, ∀ g ∈ u ++ [gens.getD k 0], ((en t x.toNat g.toNat : Nat) : Int) ∈ r := fun x hx g hg' => by
          obtain ⟨j, hj, rfl⟩ := mem_getD 0 hx
          exact hc j (by omega) g hg'
        have hgin : gens.getD k 0 ∈ r := by
          have := hcl _ hI.one (gens.getD k 0) (by simp)
          rw [Int.toNat_natCast, (h.one.2.1 _ hgi).1, hgc] at this
          exact this
        refine And.intro (by omega) ?_
        refine nx (k + 1, I, r, u ++ [gens.getD k 0]) ⟨by omega, hI, hcl, fun g hg' => ?_, hnd1⟩ (show gens.length - (k + 1) < gens.length - k by omega) (by repeat' first | refine And.intro ?_ ?_ | exact True.intro | (show (_ : Int) = (_ : Int); omega) | omega | exact rfl | (simp only [RO.len]; omega))
        rw [take_get (d := 0) hkl] at hg'
        rcases List.mem_append.1 hg' with hg' | hg'
        · exact ha g hg'
        · rw [List.mem_singleton] at hg'; rw [hg']; exact hgin
  · have h1 : (gens.length : Int) ≤ (k : Int) := h1
    refine And.intro (And.intro (by omega) ?_) trivial
    exact congrArg RO.bools (hI.done h (by omega) hg hc ha)
theorem ggen_fn (t : List (List Int)) (gens : List Int) (h : Grp t) (hg : inT t gens) : QF 122 [frA t, .ro (.ints .i64 gens)] (.new (.bools (setB t.length (genF t ((oneN t : Int) :: gens))))) := mkQ Tryz.func122 (by decide +kernel) rfl (Nat.le_of_ble_eq_true rfl) fun hf => ggen_k t gens h hg hf.2.1.1
end Go.Proofs.YtdjbbjjmjopofaaGreat
