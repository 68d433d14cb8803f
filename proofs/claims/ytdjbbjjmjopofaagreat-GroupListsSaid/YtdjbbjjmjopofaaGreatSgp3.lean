/- Package group: normal closures, commutators: contracts. -/
import Derived.Test.YtdjbbjjmjopofaaGreatSgp2
namespace Go.Proofs.YtdjbbjjmjopofaaGreat
open Go Go.AM
set_option maxRecDepth 100000

set_option maxHeartbeats 1000000 in
theorem gclo_k (t : List (List Int)) (w gens : List Int) (h : Grp t) (hw : ClL t w) (hg : inT t gens) (hlw : w.length ≤ 140737488355328) (hll : gens.length ≤ 140737488355328) : fnK TY SP Tryz.f76 [frA t, .ro (.ints .i64 w), .ro (.ints .i64 gens)] (.new (.bools (setB t.length (cloF t w gens)))) := by
  have hs := h.toSh
  have hm := hs.most
  refine And.intro (by omega) ?_
  refine And.intro (by omega) ?_
  refine Exists.intro [] <| lp3 (fun (k : Nat) (_ : List Bool) (_ : List Int) => [(20, .int .i64 k), (8, .vec 49)]) (fun _ I c => [(17, .vec 0 (.bools I) []), (49, .vec 0 (.ints .i64 c) [])])
    (fun k I c => k ≤ gens.length ∧ ColI t.length I c ∧ (∀ y, y ∈ c ↔ y ∈ cjL t w (gens.take k))) (fun k _ _ => gens.length - k) 0 (List.replicate t.length false) [] ⟨Nat.zero_le _, .start _, fun y => by simp [cjL]⟩ (by repeat' first | refine And.intro ?_ ?_ | exact True.intro | (show (_ : Int) = (_ : Int); omega) | omega | exact rfl | (simp only [RO.len]; omega)) ?_
  rintro k I c ⟨hk, hI, hc⟩
  have hil := hI.len
  refine And.intro (fun h1 => ?_) (fun h1 => ?_)
  · have h1 : (k : Int) < (gens.length : Int) := h1
    have hkl : k < gens.length := by omega
    have hgk := hg _ (getD_mem (d := 0) hkl)
    have hgi : (gens.getD k 0).toNat < t.length := by omega
    have hgc : (((gens.getD k 0).toNat : Nat) : Int) = gens.getD k 0 := Int.toNat_of_nonneg hgk.1
    have hmk := hI.mem _ hgi
    rw [hgc] at hmk
    refine And.intro (by omega) ?_
    refine And.intro (show 0 ≤ gens.getD k 0 ∧ gens.getD k 0 < (I.length : Int) by omega) ?_
    refine And.intro (fun h2 => ?_) (fun h2 => ?_)
    · have h2 : I.getD (gens.getD k 0).toNat false = true := h2
      refine And.intro (by omega) ?_
      refine nx (k + 1, I, c) ⟨by omega, hI, fun y => ?_⟩ (show gens.length - (k + 1) < gens.length - k by omega) (by repeat' first | refine And.intro ?_ ?_ | exact True.intro | (show (_ : Int) = (_ : Int); omega) | omega | exact rfl | (simp only [RO.len]; omega))
      rw [hc y, mem_cjL, mem_cjL, take_get (d := 0) hkl]
      constructor
      · rintro ⟨g, hg', hx⟩; exact ⟨g, List.mem_append_left _ hg', hx⟩
      · rintro ⟨g, hg', x, hx, e⟩
        rcases List.mem_append.1 hg' with hg' | hg'
        · exact ⟨g, hg', x, hx, e⟩
        · rw [List.mem_singleton] at hg'
          subst hg'
          obtain ⟨g0, hg0, x0, hx0, e0⟩ := mem_cjL.1 ((hc _).1 (hmk.1 h2))
          have a1 := hw.ins x hx
          have a2 := hw.ins x0 hx0
          have a3 := hg g0 (List.mem_of_mem_take hg0)
          have hxx : setI w (en t x.toNat x0.toNat) = true := hw.cl _ _ (by omega) (by omega) (setI_iff.2 (by rw [Int.toNat_of_nonneg a1.1]; exact hx)) (setI_iff.2 (by rw [Int.toNat_of_nonneg a2.1]; exact hx0))
          refine ⟨g0, hg0, _, setI_iff.1 hxx, ?_⟩
          rw [e, e0, Int.toNat_natCast, Int.toNat_natCast, cj_cj h (by omega) (by omega) (by omega)]
    · refine Exists.intro [] <| lp3 (fun (j : Nat) (_ : List Bool) (_ : List Int) => [(30, .int .i64 j), (8, .vec 49)]) (fun _ I c => [(17, .vec 0 (.bools I) []), (49, .vec 0 (.ints .i64 c) [])])
        (fun j I c => j ≤ w.length ∧ ColI t.length I c ∧ (∀ y, y ∈ c ↔ y ∈ cjL t w (gens.take k) ∨ ∃ i, i < j ∧ y = ((cjN t (w.getD i 0).toNat (gens.getD k 0).toNat : Nat) : Int))) (fun j _ _ => w.length - j) 0 I c ⟨Nat.zero_le _, hI, fun y => by rw [hc y]; exact ⟨.inl, fun hh => hh.elim id fun ⟨i, hi, _⟩ => absurd hi (Nat.not_lt_zero _)⟩⟩ (by repeat' first | refine And.intro ?_ ?_ | exact True.intro | (show (_ : Int) = (_ : Int); omega) | omega | exact rfl | (simp only [RO.len]; omega)) ?_
      rintro j I c ⟨hj, hI, hc⟩
      have hil := hI.len
      have hle := hI.le
      refine And.intro (fun h3 => ?_) (fun h3 => ?_)
      · have h3 : (j : Int) < (w.length : Int) := h3
        have hjl : j < w.length := by omega
        have hwj := hw.ins _ (getD_mem (d := 0) hjl)
        have hwi : (w.getD j 0).toNat < t.length := by omega
        have hcj := cjN_lt h hwi hgi
        have hmj := hI.mem _ hcj
        refine And.intro (by omega) ?_
        refine Or.inl (cq (gcj_fn t h (w.getD j 0).toNat (gens.getD k 0).toNat hwi hgi) (And.intro (by repeat' first | refine And.intro ?_ ?_ | exact True.intro | (show (_ : Int) = (_ : Int); omega) | omega | exact rfl | (simp only [RO.len]; omega)) (And.intro (Int.toNat_of_nonneg hwj.1).symm (And.intro hgc.symm trivial))) ?_)
        have hidx : 0 ≤ ((cjN t (w.getD j 0).toNat (gens.getD k 0).toNat : Nat) : Int) ∧ ((cjN t (w.getD j 0).toNat (gens.getD k 0).toNat : Nat) : Int) < (I.length : Int) := by omega
        have step : ∀ {y : Int}, (∃ i, i < j + 1 ∧ y = ((cjN t (w.getD i 0).toNat (gens.getD k 0).toNat : Nat) : Int)) ↔ (∃ i, i < j ∧ y = ((cjN t (w.getD i 0).toNat (gens.getD k 0).toNat : Nat) : Int)) ∨ y = ((cjN t (w.getD j 0).toNat (gens.getD k 0).toNat : Nat) : Int) := fun {y} => by
          constructor
          · rintro ⟨i, hi, e⟩
            by_cases ei : i = j
            · subst ei; exact .inr e
            · exact .inl ⟨i, by omega, e⟩
          · rintro (⟨i, hi, e⟩ | e)
            · exact ⟨i, by omega, e⟩
            · exact ⟨j, by omega, e⟩
        refine And.intro hidx ?_
        refine And.intro (fun h4 => ?_) (fun h4 => ?_)
        · have h4 : (!I.getD (((cjN t (w.getD j 0).toNat (gens.getD k 0).toNat : Nat) : Int)).toNat false) = true := h4
          rw [Int.toNat_natCast] at h4
          have hp := hI.push hcj (by simpa using h4)
          have hle2 := hp.le
          rw [List.length_append, List.length_singleton] at hle2
          refine And.intro hidx ?_
          refine And.intro hidx.1 ?_
          refine And.intro (by rw [List.length_append, List.length_singleton]; omega) ?_
          refine And.intro (by omega) ?_
          refine nx (j + 1, _, c ++ [((cjN t (w.getD j 0).toNat (gens.getD k 0).toNat : Nat) : Int)]) ⟨by omega, hp, fun y => ?_⟩ (show w.length - (j + 1) < w.length - j by omega) (by repeat' first | refine And.intro ?_ ?_ | exact True.intro | (show (_ : Int) = (_ : Int); omega) | omega | exact rfl | (simp only [RO.len]; omega))
          rw [List.mem_append, List.mem_singleton, hc y, step, or_assoc]
        · have h4 : (!I.getD (((cjN t (w.getD j 0).toNat (gens.getD k 0).toNat : Nat) : Int)).toNat false) = false := h4
          rw [Int.toNat_natCast] at h4
          have hin := hmj.1 (by simpa using h4)
          refine And.intro (by omega) ?_
          refine nx (j + 1, I, c) ⟨by omega, hI, fun y => ?_⟩ (show w.length - (j + 1) < w.length - j by omega) (by repeat' first | refine And.intro ?_ ?_ | exact True.intro | (show (_ : Int) = (_ : Int); omega) | omega | exact rfl | (simp only [RO.len]; omega))
          rw [hc y, step, ← or_assoc]
          exact ⟨.inl, fun hh => hh.elim id fun e => by rw [e]; exact (hc _).1 hin⟩
      · have h3 : (w.length : Int) ≤ (j : Int) := h3
        refine And.intro (by omega) ?_
        refine nx (k + 1, I, c) ⟨by omega, hI, fun y => ?_⟩ (show gens.length - (k + 1) < gens.length - k by omega) (by repeat' first | refine And.intro ?_ ?_ | exact True.intro | (show (_ : Int) = (_ : Int); omega) | omega | exact rfl | (simp only [RO.len]; omega))
        rw [hc y, mem_cjL, mem_cjL, take_get (d := 0) hkl]
        constructor
        · rintro (⟨g, hg', hx⟩ | ⟨i, hi, e⟩)
          · exact ⟨g, List.mem_append_left _ hg', hx⟩
          · exact ⟨gens.getD k 0, by simp, w.getD i 0, getD_mem (by omega), e⟩
        · rintro ⟨g, hg', x, hx, e⟩
          rcases List.mem_append.1 hg' with hg' | hg'
          · exact .inl ⟨g, hg', x, hx, e⟩
          · rw [List.mem_singleton] at hg'
            subst hg'
            obtain ⟨i, hi, rfl⟩ := mem_getD 0 hx
            exact .inr ⟨i, by omega, e⟩
  · have h1 : (gens.length : Int) ≤ (k : Int) := h1
    have hlec := hI.le
    refine Or.inl (cq (ggen_fn t c h hI.ins) (And.intro (by repeat' first | refine And.intro ?_ ?_ | exact True.intro | (show (_ : Int) = (_ : Int); omega) | omega | exact rfl | (simp only [RO.len]; omega)) (And.intro rfl trivial)) ?_)
    refine And.intro (And.intro rfl ?_) trivial
    have e : genF t ((oneN t : Int) :: c) = cloF t w gens := genF_congr (mk_same fun y => by
      rw [List.mem_cons, List.mem_cons, hc y, List.take_of_length_le (by omega)])
    rw [e]
theorem gclo_fn (t : List (List Int)) (w gens : List Int) (h : Grp t) (hw : ClL t w) (hg : inT t gens) : QF 76 [frA t, .ro (.ints .i64 w), .ro (.ints .i64 gens)] (.new (.bools (setB t.length (cloF t w gens)))) := mkQ Tryz.func76 (by decide +kernel) rfl (Nat.le_of_ble_eq_true rfl) fun hf => gclo_k t w gens h hw hg hf.2.1.1 hf.2.2.1.1

end Go.Proofs.YtdjbbjjmjopofaaGreat
