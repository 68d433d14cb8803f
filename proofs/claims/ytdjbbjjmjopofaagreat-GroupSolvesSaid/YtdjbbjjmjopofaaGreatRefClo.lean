/- The reference of groups: normal closures, commutator subgroups: contracts. -/
import Derived.Test.YtdjbbjjmjopofaaGreatRefGen
import Derived.Test.YtdjbbjjmjopofaaGreatMerge
import Derived.Test.YtdjbbjjmjopofaaGreatGrpEl0
namespace Go.Proofs.YtdjbbjjmjopofaaGreat
open Go Go.AM
set_option maxRecDepth 100000
theorem rAll_k (t : List (List Int)) (hm : t.length ≤ 400) : fnK TY SP Tryz.f32 [.ro (.rows .i64 t)] (.new (.ints .i64 (allI t))) := by
  refine Or.inl (cq (rdis_fn t.length (by omega)) (And.intro rfl trivial) ?_)
  exact And.intro (And.intro (by omega) rfl) trivial
theorem rAll_fn (t : List (List Int)) (hm : t.length ≤ 400) : QF 32 [.ro (.rows .i64 t)] (.new (.ints .i64 (allI t))) := mkQ Tryz.func32 (by decide +kernel) rfl (Nat.le_of_ble_eq_true rfl) fun _ => rAll_k t hm

theorem rDer_k (t : List (List Int)) (w : List Int) (h : Grp t) (hw : inT t w) (h0 : 0 < w.length) (hlw : w.length ≤ 400) : fnK TY SP Tryz.f31 [.ro (.rows .i64 t), .ro (.ints .i64 w)] (.new (.ints .i64 (ascV t.length (derF t w)))) := by
  have hs := h.toSh
  have hm := hs.most
  refine Exists.intro [] <| lp2 (fun (k : Nat) (_ : List Int) => [(12, .int .i64 k), (5, .vec 47)]) (fun _ c => [(47, .vec 0 (.ints .i64 c) [])])
    (fun k c => k ≤ w.length ∧ c.length = k * w.length ∧ (∀ y, y ∈ c ↔ ∃ a b, a < k ∧ b < w.length ∧ y = ((cmN t (w.getD a 0).toNat (w.getD b 0).toNat : Nat) : Int))) (fun k _ => w.length - k) 0 [] ⟨Nat.zero_le _, by simp, fun y => ⟨fun hh => (by cases hh), fun ⟨a, _, ha, _⟩ => absurd ha (Nat.not_lt_zero _)⟩⟩ (by repeat' first | refine And.intro ?_ ?_ | exact True.intro | (show (_ : Int) = (_ : Int); omega) | omega | exact rfl | (simp only [RO.len]; omega)) ?_
  rintro k c ⟨hk, hlc, hc⟩
  refine And.intro (fun h1 => ?_) (fun h1 => ?_)
  · have h1 : (k : Int) < (w.length : Int) := h1
    have hkl : k < w.length := by omega
    have hgk := hw _ (getD_mem (d := 0) hkl)
    have hgi : (w.getD k 0).toNat < t.length := by omega
    refine And.intro (by omega) ?_
    refine Exists.intro [] <| lp2 (fun (j : Nat) (_ : List Int) => [(18, .int .i64 j), (5, .vec 47)]) (fun _ c => [(47, .vec 0 (.ints .i64 c) [])])
      (fun j c => j ≤ w.length ∧ c.length = k * w.length + j ∧ (∀ y, y ∈ c ↔ (∃ a b, a < k ∧ b < w.length ∧ y = ((cmN t (w.getD a 0).toNat (w.getD b 0).toNat : Nat) : Int)) ∨ ∃ b, b < j ∧ y = ((cmN t (w.getD k 0).toNat (w.getD b 0).toNat : Nat) : Int))) (fun j _ => w.length - j) 0 c ⟨Nat.zero_le _, hlc, fun y => by rw [hc y]; exact ⟨.inl, fun hh => hh.elim id fun ⟨i, hi, _⟩ => absurd hi (Nat.not_lt_zero _)⟩⟩ (by repeat' first | refine And.intro ?_ ?_ | exact True.intro | (show (_ : Int) = (_ : Int); omega) | omega | exact rfl | (simp only [RO.len]; omega)) ?_
    rintro j c ⟨hj, hlc, hc⟩
    have hbig : k * w.length ≤ 400 * 400 := Nat.mul_le_mul (by omega) hlw
    refine And.intro (fun h3 => ?_) (fun h3 => ?_)
    · have h3 : (j : Int) < (w.length : Int) := h3
      have hjl : j < w.length := by omega
      have hwj := hw _ (getD_mem (d := 0) hjl)
      have hwi : (w.getD j 0).toNat < t.length := by omega
      refine And.intro (by omega) ?_
      have r1 := hs.len hgi
      have e1 := hs.ent hgi hwi
      have i1 := h.ninv hgi
      have i2 := h.ninv hwi
      have e2 := hs.ent i1.1 i2.1
      have r2 := hs.len i1.1
      have r3 := hs.len e1.2
      have e3 := hs.ent e1.2 e2.2
      refine Or.inl ?_
      refine Exists.intro [false, false, false, false, false, false, false, false, false, false, false, false, false, false, false, false, false, false, false, false, false, false, false, false, false, true, true] (And.intro (by decide +kernel) ?_)
      refine And.intro (show 0 ≤ w.getD k 0 ∧ w.getD k 0 < (t.length : Int) by omega) ?_
      refine And.intro (show 0 ≤ w.getD j 0 ∧ w.getD j 0 < ((t.getD (w.getD k 0).toNat []).length : Int) by omega) ?_
      refine And.intro (show 0 ≤ (t.getD (w.getD k 0).toNat []).getD (w.getD j 0).toNat 0 ∧ (t.getD (w.getD k 0).toNat []).getD (w.getD j 0).toNat 0 < (t.length : Int) by omega) ?_
      refine cq (rinvQ_fn t h (w.getD k 0).toNat hgi) (And.intro rfl (And.intro (Int.toNat_of_nonneg hgk.1).symm trivial)) ?_
      refine And.intro (by omega) ?_
      refine cq (rinvQ_fn t h (w.getD j 0).toNat hwi) (And.intro rfl (And.intro (Int.toNat_of_nonneg hwj.1).symm trivial)) ?_
      have v2 : (t.getD (((invN t (w.getD k 0).toNat : Nat) : Int)).toNat []).getD (((invN t (w.getD j 0).toNat : Nat) : Int)).toNat 0 = ((en t (invN t (w.getD k 0).toNat) (invN t (w.getD j 0).toNat) : Nat) : Int) := by
        rw [Int.toNat_natCast, Int.toNat_natCast]; exact e2.1
      have v3 : (t.getD ((t.getD (w.getD k 0).toNat []).getD (w.getD j 0).toNat 0).toNat []).getD ((t.getD (((invN t (w.getD k 0).toNat : Nat) : Int)).toNat []).getD (((invN t (w.getD j 0).toNat : Nat) : Int)).toNat 0).toNat 0 = ((cmN t (w.getD k 0).toNat (w.getD j 0).toNat : Nat) : Int) := by
        rw [v2, Int.toNat_natCast, ← cmN_alt h hgi hwi]; exact e3.1
      have step : ∀ {y : Int}, (∃ i, i < j + 1 ∧ y = ((cmN t (w.getD k 0).toNat (w.getD i 0).toNat : Nat) : Int)) ↔ (∃ i, i < j ∧ y = ((cmN t (w.getD k 0).toNat (w.getD i 0).toNat : Nat) : Int)) ∨ y = ((cmN t (w.getD k 0).toNat (w.getD j 0).toNat : Nat) : Int) := fun {y} => by
        constructor
        · rintro ⟨i, hi, e⟩
          by_cases ei : i = j
          · subst ei; exact .inr e
          · exact .inl ⟨i, by omega, e⟩
        · rintro (⟨i, hi, e⟩ | e)
          · exact ⟨i, by omega, e⟩
          · exact ⟨j, by omega, e⟩
      refine And.intro (by rw [Int.toNat_natCast]; omega) ?_
      refine And.intro (by
        show 0 ≤ (t.getD (((invN t (w.getD k 0).toNat : Nat) : Int)).toNat []).getD (((invN t (w.getD j 0).toNat : Nat) : Int)).toNat 0 ∧ (t.getD (((invN t (w.getD k 0).toNat : Nat) : Int)).toNat []).getD (((invN t (w.getD j 0).toNat : Nat) : Int)).toNat 0 < ((t.getD (en t (w.getD k 0).toNat (w.getD j 0).toNat) []).length : Int)
        rw [v2]; omega) ?_
      refine And.intro (by rw [List.length_append, List.length_singleton]; omega) ?_
      refine And.intro (by omega) ?_
      refine nx (j + 1, c ++ [(t.getD ((t.getD (w.getD k 0).toNat []).getD (w.getD j 0).toNat 0).toNat []).getD ((t.getD (((invN t (w.getD k 0).toNat : Nat) : Int)).toNat []).getD (((invN t (w.getD j 0).toNat : Nat) : Int)).toNat 0).toNat 0]) ⟨by omega, by rw [List.length_append, List.length_singleton]; omega, fun y => ?_⟩ (show w.length - (j + 1) < w.length - j by omega) (by repeat' first | refine And.intro ?_ ?_ | exact True.intro | (show (_ : Int) = (_ : Int); omega) | omega | exact rfl | (simp only [RO.len]; omega))
      rw [v3, List.mem_append, List.mem_singleton, hc y, step, or_assoc]
    · have h3 : (w.length : Int) ≤ (j : Int) := h3
      refine And.intro (by omega) ?_
      refine nx (k + 1, c) ⟨by omega, by rw [hlc, Nat.add_mul, Nat.one_mul]; omega, fun y => ?_⟩ (show w.length - (k + 1) < w.length - k by omega) (by repeat' first | refine And.intro ?_ ?_ | exact True.intro | (show (_ : Int) = (_ : Int); omega) | omega | exact rfl | (simp only [RO.len]; omega))
      rw [hc y]
      constructor
      · rintro (⟨a, b, ha, hb, e⟩ | ⟨b, hb, e⟩)
        · exact ⟨a, b, by omega, hb, e⟩
        · exact ⟨k, b, by omega, by omega, e⟩
      · rintro ⟨a, b, ha, hb, e⟩
        by_cases ea : a = k
        · subst ea; exact .inr ⟨b, by omega, e⟩
        · exact .inl ⟨a, b, by omega, hb, e⟩
  · have h1 : (w.length : Int) ≤ (k : Int) := h1
    have hmem : ∀ y, y ∈ c ↔ y ∈ cmL t w := fun y => by
      rw [hc y, mem_cmL]
      refine ⟨fun ⟨a, b, ha, hb, e⟩ => ⟨_, getD_mem (by omega), _, getD_mem hb, e⟩, fun ⟨a, ha, b, hb, e⟩ => ?_⟩
      obtain ⟨i, hi, rfl⟩ := mem_getD 0 ha
      obtain ⟨j, hj, rfl⟩ := mem_getD 0 hb
      exact ⟨i, j, by omega, hj, e⟩
    have hcin : inT t c := fun y hy => by
      obtain ⟨a, ha, b, hb, rfl⟩ := mem_cmL.1 ((hmem y).1 hy)
      have := hw a ha
      have := hw b hb
      have := cmN_lt h (x := a.toNat) (y := b.toNat) (by omega) (by omega)
      omega
    refine Or.inl (cq (rgen_fn t c hs hcin) (And.intro rfl (And.intro rfl trivial)) ?_)
    refine And.intro (And.intro rfl ?_) trivial
    show RO.ints .i64 (genL t c) = RO.ints .i64 (ascV t.length (derF t w))
    rw [← der_noone h hw h0, genF_congr (mk_same fun y => (hmem y).symm)]; rfl
theorem rDer_fn (t : List (List Int)) (w : List Int) (h : Grp t) (hw : inT t w) (h0 : 0 < w.length) (hlw : w.length ≤ 400) : QF 31 [.ro (.rows .i64 t), .ro (.ints .i64 w)] (.new (.ints .i64 (ascV t.length (derF t w)))) := mkQ Tryz.func31 (by decide +kernel) rfl (Nat.le_of_ble_eq_true rfl) fun _ => rDer_k t w h hw h0 hlw

theorem rClo_k (t : List (List Int)) (g : List Int) (h : Grp t) (hg : inT t g) (hlg : g.length ≤ 1048576) : fnK TY SP Tryz.f33 [.ro (.rows .i64 t), .ro (.ints .i64 g)] (.new (.ints .i64 (ascV t.length (cloF t (allI t) g)))) := by
  have hs := h.toSh
  have hm := hs.most
  have ho := h.one
  refine Or.inl (cq (rid_fn t hs) (And.intro rfl trivial) ?_)
  refine Exists.intro [12] <| lp2 (fun (k : Nat) (_ : List Int) => [(15, .int .i64 k), (5, .vec 12)]) (fun _ c => [(12, .vec 0 (.ints .i64 c) [])])
    (fun k c => k ≤ t.length ∧ c.length = 1 + k * g.length ∧ (∀ y, y ∈ c ↔ y = (oneN t : Int) ∨ ∃ a b, a < k ∧ b < g.length ∧ y = ((cjN t a (g.getD b 0).toNat : Nat) : Int))) (fun k _ => t.length - k) 0 [idV t] ⟨Nat.zero_le _, by simp, fun y => by rw [ho.2.2, List.mem_singleton]; exact ⟨.inl, fun hh => hh.elim id fun ⟨a, _, ha, _⟩ => absurd ha (Nat.not_lt_zero _)⟩⟩ (by repeat' first | refine And.intro ?_ ?_ | exact True.intro | (show (_ : Int) = (_ : Int); omega) | omega | exact rfl | (simp only [RO.len]; omega)) ?_
  rintro k c ⟨hk, hlc, hc⟩
  refine And.intro (fun h1 => ?_) (fun h1 => ?_)
  · have h1 : (k : Int) < (t.length : Int) := h1
    have hkl : k < t.length := by omega
    have r1 := hs.len hkl
    have hi := h.ninv hkl
    refine Or.inl (cq (rinvQ_fn t h k hkl) (And.intro rfl (And.intro rfl trivial)) ?_)
    refine Exists.intro [] <| lp2 (fun (j : Nat) (_ : List Int) => [(23, .int .i64 j), (5, .vec 12)]) (fun _ c => [(12, .vec 0 (.ints .i64 c) [])])
      (fun j c => j ≤ g.length ∧ c.length = 1 + k * g.length + j ∧ (∀ y, y ∈ c ↔ (y = (oneN t : Int) ∨ ∃ a b, a < k ∧ b < g.length ∧ y = ((cjN t a (g.getD b 0).toNat : Nat) : Int)) ∨ ∃ b, b < j ∧ y = ((cjN t k (g.getD b 0).toNat : Nat) : Int))) (fun j _ => g.length - j) 0 c ⟨Nat.zero_le _, hlc, fun y => by rw [hc y]; exact ⟨.inl, fun hh => hh.elim id fun ⟨i, hi, _⟩ => absurd hi (Nat.not_lt_zero _)⟩⟩ (by repeat' first | refine And.intro ?_ ?_ | exact True.intro | (show (_ : Int) = (_ : Int); omega) | omega | exact rfl | (simp only [RO.len]; omega)) ?_
    rintro j c ⟨hj, hlc, hc⟩
    have hbig : k * g.length ≤ 400 * 1048576 := Nat.mul_le_mul (by omega) hlg
    refine And.intro (fun h3 => ?_) (fun h3 => ?_)
    · have h3 : (j : Int) < (g.length : Int) := h3
      have hjl : j < g.length := by omega
      have hwj := hg _ (getD_mem (d := 0) hjl)
      have hwi : (g.getD j 0).toNat < t.length := by omega
      have e1 := hs.ent hkl hwi
      have r2 := hs.len e1.2
      have e2 := hs.ent e1.2 hi.1
      have hN : ((t.getD k []).getD (g.getD j 0).toNat 0).toNat = en t k (g.getD j 0).toNat := rfl
      have hv : (t.getD ((t.getD k []).getD (g.getD j 0).toNat 0).toNat []).getD (invN t k) 0 = ((cjN t k (g.getD j 0).toNat : Nat) : Int) := by rw [hN]; exact e2.1
      have step : ∀ {y : Int}, (∃ i, i < j + 1 ∧ y = ((cjN t k (g.getD i 0).toNat : Nat) : Int)) ↔ (∃ i, i < j ∧ y = ((cjN t k (g.getD i 0).toNat : Nat) : Int)) ∨ y = ((cjN t k (g.getD j 0).toNat : Nat) : Int) := fun {y} => by
        constructor
        · rintro ⟨i, hi, e⟩
          by_cases ei : i = j
          · subst ei; exact .inr e
          · exact .inl ⟨i, by omega, e⟩
        · rintro (⟨i, hi, e⟩ | e)
          · exact ⟨i, by omega, e⟩
          · exact ⟨j, by omega, e⟩
      refine And.intro (by omega) ?_
      refine And.intro (show 0 ≤ (k : Int) ∧ (k : Int) < (t.length : Int) by omega) ?_
      refine And.intro (show 0 ≤ g.getD j 0 ∧ g.getD j 0 < ((t.getD k []).length : Int) by omega) ?_
      refine And.intro (show 0 ≤ (t.getD k []).getD (g.getD j 0).toNat 0 ∧ (t.getD k []).getD (g.getD j 0).toNat 0 < (t.length : Int) by omega) ?_
      refine And.intro (show 0 ≤ ((invN t k : Nat) : Int) ∧ ((invN t k : Nat) : Int) < ((t.getD ((t.getD k []).getD (g.getD j 0).toNat 0).toNat []).length : Int) by rw [hN]; omega) ?_
      refine And.intro (by rw [List.length_append, List.length_singleton]; omega) ?_
      refine And.intro (by omega) ?_
      refine nx (j + 1, c ++ [(t.getD ((t.getD k []).getD (g.getD j 0).toNat 0).toNat []).getD (invN t k) 0]) ⟨by omega, by rw [List.length_append, List.length_singleton]; omega, fun y => ?_⟩ (show g.length - (j + 1) < g.length - j by omega) (by repeat' first | refine And.intro ?_ ?_ | exact True.intro | (show (_ : Int) = (_ : Int); omega) | omega | exact rfl | (simp only [RO.len]; omega))
      rw [hv, List.mem_append, List.mem_singleton, hc y, step, or_assoc]
    · have h3 : (g.length : Int) ≤ (j : Int) := h3
      refine And.intro (by omega) ?_
      refine nx (k + 1, c) ⟨by omega, by rw [hlc, Nat.add_mul, Nat.one_mul]; omega, fun y => ?_⟩ (show t.length - (k + 1) < t.length - k by omega) (by repeat' first | refine And.intro ?_ ?_ | exact True.intro | (show (_ : Int) = (_ : Int); omega) | omega | exact rfl | (simp only [RO.len]; omega))
      rw [hc y, or_assoc]
      refine or_congr Iff.rfl ?_
      constructor
      · rintro (⟨a, b, ha, hb, e⟩ | ⟨b, hb, e⟩)
        · exact ⟨a, b, by omega, hb, e⟩
        · exact ⟨k, b, by omega, by omega, e⟩
      · rintro ⟨a, b, ha, hb, e⟩
        by_cases ea : a = k
        · subst ea; exact .inr ⟨b, by omega, e⟩
        · exact .inl ⟨a, b, by omega, hb, e⟩
  · have h1 : (t.length : Int) ≤ (k : Int) := h1
    have hmem : ∀ y, y ∈ c ↔ y ∈ (oneN t : Int) :: cjL t (allI t) g := fun y => by
      rw [hc y, List.mem_cons, mem_cjL]
      refine or_congr Iff.rfl ⟨fun ⟨a, b, ha, hb, e⟩ => ⟨_, getD_mem hb, (a : Int), mem_disI.2 (by omega), by rw [Int.toNat_natCast]; exact e⟩, fun ⟨b, hb, a, ha, e⟩ => ?_⟩
      obtain ⟨j, hj, rfl⟩ := mem_getD 0 hb
      have := mem_disI.1 ha
      exact ⟨a.toNat, j, by omega, hj, e⟩
    have hcin : inT t c := fun y hy => by
      rcases List.mem_cons.1 ((hmem y).1 hy) with rfl | hy
      · omega
      · obtain ⟨b, hb, a, ha, rfl⟩ := mem_cjL.1 hy
        have := mem_disI.1 ha
        have := hg b hb
        have := cjN_lt h (x := a.toNat) (y := b.toNat) (by omega) (by omega)
        omega
    refine Or.inl (cq (rgen_fn t c hs hcin) (And.intro rfl (And.intro rfl trivial)) ?_)
    refine And.intro (And.intro rfl ?_) trivial
    show RO.ints .i64 (genL t c) = RO.ints .i64 (ascV t.length (cloF t (allI t) g))
    unfold genL cloF
    rw [genF_congr (mk_same hmem)]
theorem rClo_fn (t : List (List Int)) (g : List Int) (h : Grp t) (hg : inT t g) (hlg : g.length ≤ 1048576) : QF 33 [.ro (.rows .i64 t), .ro (.ints .i64 g)] (.new (.ints .i64 (ascV t.length (cloF t (allI t) g)))) := mkQ Tryz.func33 (by decide +kernel) rfl (Nat.le_of_ble_eq_true rfl) fun _ => rClo_k t g h hg hlg
end Go.Proofs.YtdjbbjjmjopofaaGreat
