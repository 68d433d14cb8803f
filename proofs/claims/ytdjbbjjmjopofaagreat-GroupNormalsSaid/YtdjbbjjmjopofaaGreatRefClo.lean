import Derived.Test.YtdjbbjjmjopofaaGreatRefGen
import Derived.Test.YtdjbbjjmjopofaaGreatEqvLaw
import Derived.Test.YtdjbbjjmjopofaaGreatRefPart
import Derived.Test.YtdjbbjjmjopofaaGreatGrpEl0
/- The reference of groups: normal closures, commutator subgroups: contracts. -/
namespace Go.Proofs.YtdjbbjjmjopofaaGreat
open Go Go.AM
set_option maxRecDepth 100000
theorem rClo_k (t : List (List Int)) (g : List Int) (h : Grp t) (hg : inT t g) (hlg : g.length ≤ 1048576) : fnK TY SP Tryz.f33 [.ro (.rows .i64 t), .ro (.ints .i64 g)] (.new (.ints .i64 (ascV t.length (cloF t (allI t) g)))) := by
  have hs := h.toSh
  have hm := hs.most
  have ho := h.one
  refine Or.inl (cq (rid_fn t hs) (And.intro rfl trivial) ?_)
  refine Exists.intro [12] <| lp2 (fun (k : Nat) (_ : List Int) => [(15, .int .i64 k), (5, .vec 12)]) (fun _ c => [(12, .vec 0 (.ints .i64 c) [])])
    (fun k c => k ≤ t.length ∧ c.length = 1 + k * g.length ∧ (∀ y, y ∈ c ↔ y = (oneN t : Int) ∨ ∃ a b, a < k ∧ b < g.length ∧ y = ((cjN t a (g.getD b 0).toNat : Nat) : Int))) (fun k _ => t.length - k) 0 [idV t] ⟨Nat.zero_le _, by simp, fun y => by rw [ho.2.2, List.mem_singleton]; exact ⟨.inl, fun hh => hh.elim id fun ⟨a, _, ha, _⟩ => absurd ha (Nat.not_lt_zero _)⟩⟩ (by repeat' first | refine And.intro ?_ ?_ | exact True.intro | (show (_ : Int) = (_ : Int); omega) | omega | exact rfl | (simp only [RO.len]; omega)) ?_
  rintro k c ⟨hk, hlc, hc⟩
  refine And.intro (fun h1 => ?_) (fun h1 => ?_)
  · have h1 : (k : Int) < (t.length : Int) := h1
    have hkl : k < t.length := by omega
    have r1 := hs.len hkl
    have hi := h.ninv hkl
    refine Or.inl (cq (rinvQ_fn t h k hkl) (And.intro rfl (And.intro rfl trivial)) ?_)
    refine Exists.intro [] <| lp2 (fun (j : Nat) (_ : List Int) => [(23, .int .i64 j), (5, .vec 12)]) (fun _ c => [(12, .vec 0 (.ints .i64 c) [])])
      (fun j c => j ≤ g.length ∧ c.length = 1 + k * g.length + j ∧ (∀ y, y ∈ c ↔ (y = (oneN t : Int) ∨ ∃ a b, a < k ∧ b < g.length ∧ y = ((cjN t a (g.getD b 0).toNat : Nat) : Int)) ∨ ∃ b, b < j ∧ y = ((cjN t k (g.getD b 0).toNat : Nat) : Int))) (fun j _ => g.length - j) 0 c ⟨Nat.zero_le _, hlc, fun y => by rw [hc y]; exact ⟨.inl, fun hh => hh.elim id fun ⟨i, hi, _⟩ => absurd hi (Nat.not_lt_zero _)⟩⟩ (by repeat' first | refine And.intro ?_ ?_ | exact True.intro | (show (_ : Int) = (_ : Int); omega) | omega | exact rfl | (simp only [RO.len]; omega)) ?_
    rintro j c ⟨hj, hlc, hc⟩
    have hbig : k * g.length ≤ 400 * 1048576 := Nat.mul_le_mul (by omega) hlg
    refine And.intro (fun h3 => ?_) (fun h3 => ?_)
    · have h3 : (j : Int) < (g.length : Int) := h3
      have hjl : j < g.length := by omega
      have hwj := hg _ (getD_mem (d := 0) hjl)
      have hwi : (g.getD j 0).toNat < t.length := by omega
      have e1 := hs.ent hkl hwi
      have r2 := hs.len e1.2
      have e2 := hs.ent e1.2 hi.1
      have hN : ((t.getD k []).getD (g.getD j 0).toNat 0).toNat = en t k (g.getD j 0).toNat := rfl
      have hv : (t.getD ((t.getD k []).getD (g.getD j 0).toNat 0).toNat []).getD (invN t k) 0 = ((cjN t k (g.getD j 0).toNat : Nat) : Int) := by rw [hN]; exact e2.1
      have step : ∀ {y : Int}, (∃ i, i < j + 1 ∧ y = ((cjN t k (g.getD i 0).toNat : Nat) : Int)) ↔ (∃ i, i < j ∧ y = ((cjN t k (g.getD i 0).toNat : Nat) : Int)) ∨ y = ((cjN t k (g.getD j 0).toNat : Nat) : Int) := fun {y} => by
        constructor
        · rintro ⟨i, hi, e⟩
          by_cases ei : i = j
          · subst ei; exact .inr e
          · exact .inl ⟨i, by omega, e⟩
        · rintro (⟨i, hi, e⟩ | e)
          · exact ⟨i, by omega, e⟩
          · exact ⟨j, by omega, e⟩
      refine And.intro (by omega) ?_
      refine And.intro (show 0 ≤ (k : Int) ∧ (k : Int) < (t.length : Int) by omega) ?_
      refine And.intro (show 0 ≤ g.getD j 0 ∧ g.getD j 0 < ((t.getD k []).length : Int) by omega) ?_
      refine And.intro (show 0 ≤ (t.getD k []).getD (g.getD j 0).toNat 0 ∧ (t.getD k []).getD (g.getD j 0).toNat 0 < (t.length : Int) by omega) ?_
      refine And.intro (show 0 ≤ ((invN t k : Nat) : Int) ∧ ((invN t k : Nat) : Int) < ((t.getD ((t.getD k []).getD (g.getD j 0).toNat 0).toNat []).length : Int) by rw [hN]; omega) ?_
      refine And.intro (by rw [List.length_append, List.length_singleton]; omega) ?_
      refine And.intro (by omega) ?_
      refine nx (j + 1, c ++ [(t.getD ((t.getD k []).getD (g.getD j 0).toNat 0).toNat []).getD (invN t k) 0]) ⟨by omega, by rw [List.length_append, List.length_singleton]; omega, fun y => ?_⟩ (show g.length - (j + 1) < g.length - j by omega) (by repeat' first | refine And.intro ?_ ?_ | exact True.intro | (show (_ : Int) = (_ : Int); omega) | omega | exact rfl | (simp only [RO.len]; omega))
      rw [hv, List.mem_append, List.mem_singleton, hc y, step, or_assoc]
    · have h3 : (g.length : Int) ≤ (j : Int) := h3
      refine And.intro (by omega) ?_
      refine nx (k + 1, c) ⟨by omega, by rw [hlc, Nat.add_mul, Nat.one_mul]; omega, fun y => ?_⟩ (show t.length - (k + 1) < t.length - k by omega) (by repeat' first | refine And.intro ?_ ?_ | exact True.intro | (show (_ : Int) = (_ : Int); omega) | omega | exact rfl | (simp only [RO.len]; omega))
      rw [hc y, or_assoc]
      refine or_congr Iff.rfl ?_
      constructor
      · rintro (⟨a, b, ha, hb, e⟩ | ⟨b, hb, e⟩)
        · exact ⟨a, b, by omega, hb, e⟩
        · exact ⟨k, b, by omega, by omega, e⟩
      · rintro ⟨a, b, ha, hb, e⟩
        by_cases ea : a = k
        · subst ea; exact .inr ⟨b, by omega, e⟩
        · exact .inl ⟨a, b, by omega, hb, e⟩
  · have h1 : (t.length : Int) ≤ (k : Int) := h1
    have hmem : ∀ y, y ∈ c ↔ y ∈ (oneN t : Int) :: cjL t (allI t) g := fun y => by
      rw [hc y, List.mem_cons, mem_cjL]
      refine or_congr Iff.rfl ⟨fun ⟨a, b, ha, hb, e⟩ => ⟨_, getD_mem hb, (a : Int), mem_disI.2 (by omega), by rw [Int.toNat_natCast]; exact e⟩, fun ⟨b, hb, a, ha, e⟩ => ?_⟩
      obtain ⟨j, hj, rfl⟩ := mem_getD 0 hb
      have := mem_disI.1 ha
      exact ⟨a.toNat, j, by omega, hj, e⟩
    have hcin : inT t c := fun y hy => by
      rcases List.mem_cons.1 ((hmem y).1 hy) with rfl | hy
      · omega
      · obtain ⟨b, hb, a, ha, rfl⟩ := mem_cjL.1 hy
        have := mem_disI.1 ha
        have := hg b hb
        have := cjN_lt h (x := a.toNat) (y := b.toNat) (by omega) (by omega)
        omega
    refine Or.inl (cq (rgen_fn t c hs hcin) (And.intro rfl (And.intro rfl trivial)) ?_)
    refine And.intro (And.intro rfl ?_) trivial
    show RO.ints .i64 (genL t c) = RO.ints .i64 (ascV t.length (cloF t (allI t) g))
    unfold genL cloF
    rw [genF_congr (mk_same hmem)]
theorem rClo_fn (t : List (List Int)) (g : List Int) (h : Grp t) (hg : inT t g) (hlg : g.length ≤ 1048576) : QF 33 [.ro (.rows .i64 t), .ro (.ints .i64 g)] (.new (.ints .i64 (ascV t.length (cloF t (allI t) g)))) := mkQ Tryz.func33 (by decide +kernel) rfl (Nat.le_of_ble_eq_true rfl) fun _ => rClo_k t g h hg hlg
end Go.Proofs.YtdjbbjjmjopofaaGreat
