/- Package group: the quotient by a normal subgroup: contract. -/
import Derived.Test.YtdjbbjjmjopofaaGreatGQuoLaw
import Derived.Test.YtdjbbjjmjopofaaGreatSgp4
namespace Go.Proofs.YtdjbbjjmjopofaaGreat
open Go Go.AM
set_option maxRecDepth 100000
set_option maxHeartbeats 1000000 in
theorem gQuo_k (t : List (List Int)) (l : List Int) (h : Grp t) (hl : ClL t l) (hn : nrmB t (allI t) l = true) (hp : validP (cosL t l)) (hg : Cg t (cosL t l) 0) : fnK TY SP Tryz.f55 [.ro (.rows .i64 t), .ro (.ints .i64 l)] (.tup [.new (.rows .i64 (quoL t (cosL t l))), .int .i64 0]) := by
  have hpl : (cosL t l).length = t.length := cosL_len t l
  have hmost := h.most
  have hcl : clB t l = true := clB_true.2 hl
  have hcn : classN (cosL t l) ≤ (cosL t l).length := firsts_le _
  refine Or.inl (cq (valid_fn t) (And.intro rfl trivial) ?_)
  refine And.intro (fun h1 => absurd (valid_zero.2 h.toSemi) h1) (fun h1 => ?_)
  refine Or.inl (cq (buildY_fn t h) (And.intro rfl trivial) ?_)
  refine Or.inl ?_
  refine Exists.intro [false, false, false, false, false, false, false, false, false, false, false, false] (And.intro (by decide +kernel) ?_)
  refine cq (gsub_fn t l h) (And.intro (by repeat' first | refine And.intro ?_ ?_ | exact True.intro | (show (_ : Int) = (_ : Int); omega) | omega | exact rfl | (simp only [RO.len]; omega)) (And.intro rfl trivial)) ?_
  refine And.intro (fun h1 => ?_) (fun h1 => ?_)
  · have h1 : (!clB t l) = true := h1
    rw [hcl] at h1; cases h1
  refine cq (gall_fn t h.most) (And.intro (by repeat' first | refine And.intro ?_ ?_ | exact True.intro | (show (_ : Int) = (_ : Int); omega) | omega | exact rfl | (simp only [RO.len]; omega)) trivial) ?_
  refine cq (gnrm_fn t (allI t) l h (allI_in t) hl.ins) (And.intro (by repeat' first | refine And.intro ?_ ?_ | exact True.intro | (show (_ : Int) = (_ : Int); omega) | omega | exact rfl | (simp only [RO.len]; omega)) (And.intro rfl (And.intro rfl trivial))) ?_
  refine And.intro (fun h1 => ?_) (fun h1 => ?_)
  · have h1 : (!nrmB t (allI t) l) = true := h1
    rw [hn] at h1; cases h1
  refine Or.inl (cq (gcos_fn t l h hl) (And.intro (by repeat' first | refine And.intro ?_ ?_ | exact True.intro | (show (_ : Int) = (_ : Int); omega) | omega | exact rfl | (simp only [RO.len]; omega)) (And.intro rfl trivial)) ?_)
  refine Or.inl (cq (pcount_fn (cosL t l)) (And.intro rfl trivial) ?_)
  have e : (if validP (cosL t l) then ((classN (cosL t l) : Nat) : Int) else 0) = classN (cosL t l) := if_pos hp
  refine And.intro (by omega) ?_
  refine And.intro (by omega) ?_
  refine Or.inr (Or.inr ?_)
  refine Exists.intro [57, 58, 59, 61, 62, 70, 73, 85, 10061] <| lp2 (fun (i : Nat) (_ : List (List Int)) => [(47, .int .i64 i)]) (fun _ q => [(44, .vec 0 (.nrows .i64 q) [])]) (fun i q => i ≤ (cosL t l).length ∧ QuoIn t (cosL t l) i q) (fun i _ => (cosL t l).length - i) 0 (List.replicate (if validP (cosL t l) then ((classN (cosL t l) : Nat) : Int) else 0).toNat []) ⟨Nat.zero_le _, by rw [e]; exact QuoIn.start⟩ (by repeat' first | refine And.intro ?_ ?_ | exact True.intro | (show (_ : Int) = (_ : Int); omega) | omega | exact rfl | (simp only [RO.len]; omega)) ?_
  rintro i q ⟨hi, hq⟩
  refine And.intro (fun h1 => ?_) (fun h1 => ?_)
  · have hil : i < (cosL t l).length := by omega
    have hr := cls_lt hp.2 hil
    have hql := hq.1
    refine And.intro (by omega) ?_
    refine And.intro (show 0 ≤ (cosL t l).getD i 0 ∧ (cosL t l).getD i 0 < (q.length : Int) by omega) ?_
    refine And.intro (fun h2 => ?_) (fun h2 => ?_)
    · refine And.intro (by omega) ?_
      refine And.intro (by omega) ?_
      refine And.intro (show 0 ≤ (cosL t l).getD i 0 ∧ (cosL t l).getD i 0 < (q.length : Int) by omega) ?_
      refine And.intro (show ((0 : Nat) : Int) ≤ (cosL t l).getD i 0 by omega) ?_
      refine Exists.intro [57, 58, 59, 61, 62, 70, 73, 85] <| lp2 (fun (j : Nat) (_ : List Int) => [(65, .int .i64 j)]) (fun _ r => [(44, .vec 0 (.nrows .i64 q) [((cosL t l).getD i 0, 61)]), (61, .vec 0 (.ints .i64 r) [])]) (fun j r => j ≤ (cosL t l).length ∧ RowIn t (cosL t l) i j r) (fun j _ => (cosL t l).length - j) 0 (List.replicate q.length 0) ⟨Nat.zero_le _, by rw [hql]; exact RowIn.start⟩ (by repeat' first | refine And.intro ?_ ?_ | exact True.intro | (show (_ : Int) = (_ : Int); omega) | omega | exact rfl | (simp only [RO.len]; omega)) ?_
      rintro j r ⟨hj, hr2⟩
      refine And.intro (fun h3 => ?_) (fun h3 => ?_)
      · have hjl : j < (cosL t l).length := by omega
        have hrl := hr2.1
        have hc := cls_lt hp.2 hjl
        have e1 := h.toSh.ent (x := i) (y := j) (by omega) (by omega)
        have r1 := h.toSh.len (x := i) (by omega)
        have hnext := hr2.next h.toSh hpl hp.2 hg (by omega) hjl
        rw [← Int.toNat_natCast (en t i j), ← e1.1] at hnext
        refine And.intro (by omega) ?_
        refine Or.inl ?_
        refine Exists.intro [false, false, false, false, false, false, false, false, false, false, false, false, false, false, false, false, true] (And.intro (by decide +kernel) ?_)
        refine And.intro (by simp only [Int.toNat_natCast]; omega) ?_
        refine And.intro (fun _ => ?_) (fun h4 => absurd rfl h4)
        refine And.intro (by omega) ?_
        refine And.intro (show 0 ≤ (j : Int) ∧ (j : Int) < ((t.getD i []).length : Int) by omega) ?_
        refine And.intro (show 0 ≤ (t.getD i []).getD j 0 ∧ (t.getD i []).getD j 0 < ((cosL t l).length : Int) by omega) ?_
        refine And.intro (show 0 ≤ (cosL t l).getD j 0 ∧ (cosL t l).getD j 0 < (r.length : Int) by omega) ?_
        refine And.intro (show ((0 : Nat) : Int) ≤ (cosL t l).getD j 0 by omega) ?_
        refine And.intro (by omega) ?_
        exact nx (j + 1, r.set ((cosL t l).getD j 0).toNat ((cosL t l).getD ((t.getD i []).getD j 0).toNat 0)) ⟨by omega, hnext⟩ (show (cosL t l).length - (j + 1) < (cosL t l).length - j by omega) (by repeat' first | refine And.intro ?_ ?_ | exact True.intro | (show (_ : Int) = (_ : Int); omega) | omega | exact rfl | (simp only [RO.len]; omega))
      · refine And.intro (by omega) ?_
        have hrd := hr2.done h.toSh hpl hp.2 hg (by omega) (by omega)
        have hpos : r ≠ [] := fun he => by
          have := hr2.1
          rw [he] at this
          simp at this; omega
        refine nx (i + 1, q.set ((cosL t l).getD i 0).toNat r) ⟨by omega, hq.new hp.2 hil hrd⟩ (show (cosL t l).length - (i + 1) < (cosL t l).length - i by omega) ?_
        repeat' first | refine And.intro ?_ ?_ | exact True.intro | exact hpos | (show (_ : Int) = (_ : Int); omega) | omega | exact rfl
    · refine And.intro ?_ (fun h0 => ?_)
      · refine And.intro (by omega) ?_
        exact nx (i + 1, q) ⟨by omega, hq.old hp.2 hil h2⟩ (show (cosL t l).length - (i + 1) < (cosL t l).length - i by omega) (by repeat' first | refine And.intro ?_ ?_ | exact True.intro | (show (_ : Int) = (_ : Int); omega) | omega | exact rfl | (simp only [RO.len]; omega))
      · exact absurd (List.eq_nil_of_length_eq_zero h0) h2
  · refine And.intro (And.intro (by omega) ?_) (And.intro rfl trivial)
    show RO.rows .i64 q = RO.rows .i64 (quoL t (cosL t l))
    rw [hq.done hp.2 (by omega)]
/-- Where there is no quotient: the error. -/
noncomputable def gQuoE (t : List (List Int)) : Int := if validV t ≠ 0 then validV t else if grpB t then 1 else 4
theorem gQuoN1_k (t : List (List Int)) (l : List Int) (h : ¬ Semi t) : fnK TY SP Tryz.f55 [.ro (.rows .i64 t), .ro (.ints .i64 l)] (.tup [.nils, .int .i64 (gQuoE t)]) := by
  refine Or.inl (cq (valid_fn t) (And.intro rfl trivial) ?_)
  refine And.intro (fun h1 => ?_) (fun h1 => absurd (valid_zero.1 h1) h)
  refine And.intro trivial (And.intro ?_ trivial)
  exact (if_pos h1).symm
theorem gQuoN2_k (t : List (List Int)) (l : List Int) (hs : Semi t) (h : ¬ Grp t) : fnK TY SP Tryz.f55 [.ro (.rows .i64 t), .ro (.ints .i64 l)] (.tup [.nils, .int .i64 (gQuoE t)]) := by
  refine Or.inl (cq (valid_fn t) (And.intro rfl trivial) ?_)
  refine And.intro (fun h1 => absurd (valid_zero.2 hs) h1) (fun h1 => ?_)
  refine Or.inl (cq (build_fn t hs) (And.intro rfl trivial) ?_)
  refine And.intro (fun h2 => ?_) (fun h2 => ?_)
  · refine And.intro trivial (And.intro ?_ trivial)
    show (4 : Int) = gQuoE t
    unfold gQuoE
    rw [if_neg (fun h3 => h3 h1), grpB_false.2 h]; rfl
  · have h2 : (!grpB t) = false := h2
    rw [grpB_false.2 h] at h2; cases h2
theorem gQuoN3_k (t : List (List Int)) (l : List Int) (h : Grp t) (hc : ¬ ClL t l) : fnK TY SP Tryz.f55 [.ro (.rows .i64 t), .ro (.ints .i64 l)] (.tup [.nils, .int .i64 (gQuoE t)]) := by
  refine Or.inl (cq (valid_fn t) (And.intro rfl trivial) ?_)
  refine And.intro (fun h1 => absurd (valid_zero.2 h.toSemi) h1) (fun h1 => ?_)
  refine Or.inl (cq (buildY_fn t h) (And.intro rfl trivial) ?_)
  refine Or.inl ?_
  refine Exists.intro [false, false, false, false, false, false, false, false, false, false, false, false] (And.intro (by decide +kernel) ?_)
  refine cq (gsub_fn t l h) (And.intro (by repeat' first | refine And.intro ?_ ?_ | exact True.intro | (show (_ : Int) = (_ : Int); omega) | omega | exact rfl | (simp only [RO.len]; omega)) (And.intro rfl trivial)) ?_
  refine And.intro (fun h2 => ?_) (fun h2 => ?_)
  · refine And.intro trivial (And.intro ?_ trivial)
    show (1 : Int) = gQuoE t
    unfold gQuoE
    rw [if_neg (fun h3 => h3 h1), grpB_true.2 h]; rfl
  · have h2 : (!clB t l) = false := h2
    rw [clB_false.2 hc] at h2; cases h2
theorem gQuoN4_k (t : List (List Int)) (l : List Int) (h : Grp t) (hc : ClL t l) (hn : nrmB t (allI t) l = false) : fnK TY SP Tryz.f55 [.ro (.rows .i64 t), .ro (.ints .i64 l)] (.tup [.nils, .int .i64 (gQuoE t)]) := by
  refine Or.inl (cq (valid_fn t) (And.intro rfl trivial) ?_)
  refine And.intro (fun h1 => absurd (valid_zero.2 h.toSemi) h1) (fun h1 => ?_)
  refine Or.inl (cq (buildY_fn t h) (And.intro rfl trivial) ?_)
  refine Or.inl ?_
  refine Exists.intro [false, false, false, false, false, false, false, false, false, false, false, false] (And.intro (by decide +kernel) ?_)
  refine cq (gsub_fn t l h) (And.intro (by repeat' first | refine And.intro ?_ ?_ | exact True.intro | (show (_ : Int) = (_ : Int); omega) | omega | exact rfl | (simp only [RO.len]; omega)) (And.intro rfl trivial)) ?_
  refine And.intro (fun h2 => ?_) (fun h2 => ?_)
  · have h2 : (!clB t l) = true := h2
    rw [clB_true.2 hc] at h2; cases h2
  refine cq (gall_fn t h.most) (And.intro (by repeat' first | refine And.intro ?_ ?_ | exact True.intro | (show (_ : Int) = (_ : Int); omega) | omega | exact rfl | (simp only [RO.len]; omega)) trivial) ?_
  refine cq (gnrm_fn t (allI t) l h (allI_in t) hc.ins) (And.intro (by repeat' first | refine And.intro ?_ ?_ | exact True.intro | (show (_ : Int) = (_ : Int); omega) | omega | exact rfl | (simp only [RO.len]; omega)) (And.intro rfl (And.intro rfl trivial))) ?_
  refine And.intro (fun h2 => ?_) (fun h2 => ?_)
  · refine And.intro trivial (And.intro ?_ trivial)
    show (1 : Int) = gQuoE t
    unfold gQuoE
    rw [if_neg (fun h3 => h3 h1), grpB_true.2 h]; rfl
  · have h2 : (!nrmB t (allI t) l) = false := h2
    rw [hn] at h2; cases h2
/-- A normal subgroup of the group t. -/
def NmS (t : List (List Int)) (l : List Int) : Prop := Grp t ∧ ClL t l ∧ NrmIn t (allI t) l
theorem gQuo_fn (t : List (List Int)) (l : List Int) (h : NmS t l) : QF 55 [.ro (.rows .i64 t), .ro (.ints .i64 l)] (.tup [.new (.rows .i64 (quoL t (cosL t l))), .int .i64 0]) :=
  mkQ Tryz.func55 (by decide +kernel) rfl (Nat.le_of_ble_eq_true rfl) fun _ => gQuo_k t l h.1 h.2.1 (nrmB_true.2 h.2.2) ⟨by rw [cosL_len]; have := h.1.most; omega, cosL_canon _ _⟩ (nrm_cg h.1 h.2.1 h.2.2)
theorem gQuoN_fn (t : List (List Int)) (l : List Int) (h : ¬ NmS t l) : QF 55 [.ro (.rows .i64 t), .ro (.ints .i64 l)] (.tup [.nils, .int .i64 (gQuoE t)]) :=
  mkQ Tryz.func55 (by decide +kernel) rfl (Nat.le_of_ble_eq_true rfl) fun _ => by
    by_cases h1 : Semi t
    · by_cases h2 : Grp t
      · by_cases h3 : ClL t l
        · exact gQuoN4_k t l h2 h3 (nrmB_false.2 fun h4 => h ⟨h2, h3, h4⟩)
        · exact gQuoN3_k t l h2 h3
      · exact gQuoN2_k t l h1 h2
    · exact gQuoN1_k t l h1
end Go.Proofs.YtdjbbjjmjopofaaGreat
