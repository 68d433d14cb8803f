import Derived.Test.YteopelpnpdbbcaaQuoLaw
import Derived.Test.YteopelpnpdbbcaaCgrLaw
import Derived.Test.YteopelpnpdbbcaaGroup
import Derived.Test.YteopelpnpdbbcaaPart
import Derived.Test.YteopelpnpdbbcaaIdealLaw
import Derived.Test.YteopelpnpdbbcaaBase
import Derived.Test.YteopelpnpdbbcaaLatLaw
import Derived.Test.YteopelpnpdbbcaaMult
/- Package partition: Refines; mult.Opposite: contracts. -/
namespace Go.Proofs.Yteopelpnpdbbcaa
open Go Go.AM
set_option maxRecDepth 100000
def Rf (p q : List Int) : Prop := ∀ i j, i < p.length → j < p.length → p.getD i 0 = p.getD j 0 → q.getD i 0 = q.getD j 0
noncomputable def rfB (p q : List Int) : Bool := @decide (Rf p q) (Classical.propDecidable _)
theorem rfB_true {p q : List Int} : rfB p q = true ↔ Rf p q := by unfold rfB; exact @decide_eq_true_iff _ (Classical.propDecidable _)
theorem rfB_false {p q : List Int} : rfB p q = false ↔ ¬ Rf p q := by unfold rfB; exact @decide_eq_false_iff_not _ (Classical.propDecidable _)
theorem prefn_k (p q : List Int) (hp : validP p) (hq : validP q) (hl : p.length = q.length) : fnK TY SP Try.f38 [.ro (.ints .i64 p), .ro (.ints .i64 q)] (.bool (.v (rfB p q))) := by
  have hm : matchP p q := ⟨hl, hp, hq⟩
  have hcl : (classes (classN p) p).length = classN p := by simp [classes]
  have hcn : classN p ≤ p.length := firsts_le p
  have hpl := hp.1
  refine Or.inl (cq (pmatch_fn p q) (And.intro rfl (And.intro rfl trivial)) ?_)
  refine And.intro (fun h1 => ?_) (fun _ => ?_)
  · have h1 : (!decide (matchP p q)) = true := h1
    rw [decide_eq_true hm] at h1; cases h1
  refine Or.inl (cq (pclasses_fn p hp) (And.intro rfl trivial) ?_)
  refine Exists.intro [] <| lp (X := Nat) (fun c => [(16, .int .i64 c)]) (fun _ => []) (fun c => c ≤ classN p ∧ ∀ c', c' < c → ∀ x ∈ (classes (classN p) p).getD c' [], q.getD x.toNat 0 = q.getD (hdN p c') 0) (fun c => classN p - c) 0 ⟨Nat.zero_le _, fun c h => absurd h (Nat.not_lt_zero _)⟩ (by repeat' first | refine And.intro ?_ ?_ | exact True.intro | (show (_ : Int) = (_ : Int); omega) | omega | exact rfl | (simp only [RO.len]; omega)) ?_
  intro c ⟨hc, hci⟩
  refine And.intro (fun h1 => ?_) (fun h1 => ?_)
  · have h1 : (c : Int) < ((classes (classN p) p).length : Int) := h1
    have hcl2 : c < classN p := by omega
    have k := hd_at hp.2 hcl2
    have kp := cls_pos hp.2 hcl2
    have hcll : ((classes (classN p) p).getD c []).length ≤ p.length := by
      rw [classes_getD hcl2, List.length_map]
      have := List.length_filter_le (fun i => decide (p.getD i 0 = (c : Int))) (List.range p.length)
      rw [List.length_range] at this; exact this
    refine And.intro (by omega) ?_
    refine Exists.intro [] <| lp (X := Nat) (fun m => [(22, .int .i64 m)]) (fun _ => []) (fun m => m ≤ ((classes (classN p) p).getD c []).length ∧ ∀ m', m' < m → q.getD (((classes (classN p) p).getD c []).getD m' 0).toNat 0 = q.getD (hdN p c) 0) (fun m => ((classes (classN p) p).getD c []).length - m) 0 ⟨Nat.zero_le _, fun m h => absurd h (Nat.not_lt_zero _)⟩ (by repeat' first | refine And.intro ?_ ?_ | exact True.intro | (show (_ : Int) = (_ : Int); omega) | omega | exact rfl | (simp only [RO.len]; omega)) ?_
    intro m ⟨hm, hmi⟩
    refine And.intro (fun h2 => ?_) (fun h2 => ?_)
    · have h2 : (m : Int) < (((classes (classN p) p).getD c []).length : Int) := h2
      have hml : m < ((classes (classN p) p).getD c []).length := by omega
      have hx := (mem_classes (p := p) hcl2).1 (getD_mem (d := 0) hml)
      have th : (((classes (classN p) p).getD c []).getD 0 0).toNat = hdN p c := by rw [k.2.2]; exact Int.toNat_natCast _
      refine And.intro (by omega) ?_
      refine Or.inl ?_
      refine Exists.intro [false, false, false, false, false, false, false, false, false, false, false] (And.intro (by decide +kernel) ?_)
      refine And.intro (show 0 ≤ ((classes (classN p) p).getD c []).getD m 0 ∧ ((classes (classN p) p).getD c []).getD m 0 < (q.length : Int) by omega) ?_
      refine And.intro (by simp only [Int.toNat_natCast]; omega) ?_
      refine And.intro (show 0 ≤ ((classes (classN p) p).getD c []).getD 0 0 ∧ ((classes (classN p) p).getD c []).getD 0 0 < (q.length : Int) by omega) ?_
      refine And.intro (fun h3 => ?_) (fun h3 => ?_)
      · have h3 : q.getD (((classes (classN p) p).getD c []).getD m 0).toNat 0 ≠ q.getD (((classes (classN p) p).getD c []).getD 0 0).toNat 0 := h3
        rw [th] at h3
        refine And.intro ?_ trivial
        refine (rfB_false.2 fun h4 => h3 (h4 _ _ (by omega) (by omega) ?_)).symm
        rw [hx.2.2, k.2.1]
      · have h3 : q.getD (((classes (classN p) p).getD c []).getD m 0).toNat 0 = q.getD (((classes (classN p) p).getD c []).getD 0 0).toNat 0 := h3
        rw [th] at h3
        refine And.intro (by omega) ?_
        refine nx (m + 1) ⟨show m + 1 ≤ _ by omega, fun m' hm' => ?_⟩ (show ((classes (classN p) p).getD c []).length - (m + 1) < ((classes (classN p) p).getD c []).length - m by omega) (by repeat' first | refine And.intro ?_ ?_ | exact True.intro | (show (_ : Int) = (_ : Int); omega) | omega | exact rfl | (simp only [RO.len]; omega))
        by_cases e : m' = m
        · subst e; exact h3
        · exact hmi m' (by omega)
    · have h2 : (((classes (classN p) p).getD c []).length : Int) ≤ (m : Int) := h2
      refine And.intro (by omega) ?_
      refine nx (c + 1) ⟨show c + 1 ≤ _ by omega, fun c' hc' x hx => ?_⟩ (show classN p - (c + 1) < classN p - c by omega) (by repeat' first | refine And.intro ?_ ?_ | exact True.intro | (show (_ : Int) = (_ : Int); omega) | omega | exact rfl | (simp only [RO.len]; omega))
      by_cases e : c' = c
      · subst e
        obtain ⟨m', hm', rfl⟩ := mem_getD 0 hx
        exact hmi m' (by omega)
      · exact hci c' (by omega) x hx
  · have h1 : ((classes (classN p) p).length : Int) ≤ (c : Int) := h1
    refine And.intro ?_ trivial
    refine (rfB_true.2 fun i j hi hj e => ?_).symm
    have ki := cls_lt hp.2 hi
    have mi := (mem_classes (p := p) ki.2.1 (x := (i : Int))).2 ⟨by omega, by omega, by rw [Int.toNat_natCast]; exact ki.2.2⟩
    have mj := (mem_classes (p := p) ki.2.1 (x := (j : Int))).2 ⟨by omega, by omega, by rw [Int.toNat_natCast, ← e]; exact ki.2.2⟩
    have e1 := hci _ (by omega) _ mi
    have e2 := hci _ (by omega) _ mj
    rw [Int.toNat_natCast] at e1 e2
    rw [e1, e2]
theorem prefn_fn (p q : List Int) (hp : validP p) (hq : validP q) (hl : p.length = q.length) : QF 38 [.ro (.ints .i64 p), .ro (.ints .i64 q)] (.bool (.v (rfB p q))) := mkQ Try.func38 (by decide +kernel) rfl (Nat.le_of_ble_eq_true rfl) fun _ => prefn_k p q hp hq hl

/-! ### The opposite semigroup -/
end Go.Proofs.Yteopelpnpdbbcaa
