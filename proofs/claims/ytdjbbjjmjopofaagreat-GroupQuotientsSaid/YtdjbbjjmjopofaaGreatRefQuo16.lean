/- Reference of package group: the quotient: contract. -/
import Derived.Test.YtdjbbjjmjopofaaGreatGQuo
import Derived.Test.YtdjbbjjmjopofaaGreatRefSgp
import Derived.Test.YtdjbbjjmjopofaaGreatRefPart
namespace Go.Proofs.YtdjbbjjmjopofaaGreat
open Go Go.AM
set_option maxRecDepth 100000
theorem take_map_succ {α : Type} {f : Nat → α} {n i : Nat} (h : i < n) : ((List.range n).map f).take (i + 1) = ((List.range n).map f).take i ++ [f i] := by
  rw [List.take_add_one]; simp [h]
set_option maxHeartbeats 1000000 in
theorem rQuo_k (t : List (List Int)) (l : List Int) (h : NmS t l) : fnK TY SP Tryz.f56 [.ro (.rows .i64 t), .ro (.ints .i64 l)] (.new (.rows .i64 (quoL t (cosL t l)))) := by
  have hv : validP (cosL t l) := ⟨by rw [cosL_len]; have := h.1.most; omega, cosL_canon _ _⟩
  have hpl := cosL_len t l
  have hmost := h.1.most
  have hsh := h.1.toSh
  have hcl : (classes (classN (cosL t l)) (cosL t l)).length = classN (cosL t l) := by simp [classes]
  have hcn : classN (cosL t l) ≤ t.length := by have := firsts_le (cosL t l); rw [hpl] at this; exact this
  refine Or.inl (cq (rCos_fn t l h.1 h.2.1) (And.intro rfl (And.intro rfl trivial)) ?_)
  refine Or.inl (cq (rclasses_fn (cosL t l) hv) (And.intro rfl trivial) ?_)
  refine Exists.intro [] <| lp2 (fun (i : Nat) (q : List (List Int)) => [(20, .int .i64 i), (7, .vec 51)]) (fun _ q => [(51, .vec 0 (.rows .i64 q) [])]) (fun i q => i ≤ classN (cosL t l) ∧ q = (quoL t (cosL t l)).take i) (fun i _ => classN (cosL t l) - i) 0 [] ⟨Nat.zero_le _, rfl⟩ (by repeat' first | refine And.intro ?_ ?_ | exact True.intro | (show (_ : Int) = (_ : Int); omega) | omega | exact rfl | (simp only [RO.len]; omega)) ?_
  rintro i q ⟨hi, hq⟩
  have hql : q.length = i := by rw [hq, List.length_take, quoL_len]; omega
  refine And.intro (fun h1 => ?_) (fun h1 => ?_)
  · have h1 : (i : Int) < ((classes (classN (cosL t l)) (cosL t l)).length : Int) := h1
    have hil : i < classN (cosL t l) := by omega
    have ki := hd_at hv.2 hil
    have pi := cls_pos hv.2 hil
    refine And.intro (by omega) ?_
    refine Exists.intro [] <| lp2 (fun (j : Nat) (r : List Int) => [(26, .int .i64 j), (10, .vec 46)]) (fun _ r => [(46, .vec 0 (.ints .i64 r) [])]) (fun j r => j ≤ classN (cosL t l) ∧ r = (quoR t (cosL t l) i).take j) (fun j _ => classN (cosL t l) - j) 0 [] ⟨Nat.zero_le _, rfl⟩ (by repeat' first | refine And.intro ?_ ?_ | exact True.intro | (show (_ : Int) = (_ : Int); omega) | omega | exact rfl | (simp only [RO.len]; omega)) ?_
    rintro j r ⟨hj, hr⟩
    have hrl : r.length = j := by rw [hr, List.length_take, quoR_len]; omega
    refine And.intro (fun h2 => ?_) (fun h2 => ?_)
    · have h2 : (j : Int) < ((classes (classN (cosL t l)) (cosL t l)).length : Int) := h2
      have hjl : j < classN (cosL t l) := by omega
      have kj := hd_at hv.2 hjl
      have pj := cls_pos hv.2 hjl
      have e1 := hsh.ent (x := hdN (cosL t l) i) (y := hdN (cosL t l) j) (by omega) (by omega)
      have r1 := hsh.len (x := hdN (cosL t l) i) (by omega)
      have ti : (((classes (classN (cosL t l)) (cosL t l)).getD i []).getD 0 0).toNat = hdN (cosL t l) i := by rw [ki.2.2]; exact Int.toNat_natCast _
      have tj : (((classes (classN (cosL t l)) (cosL t l)).getD j []).getD 0 0).toNat = hdN (cosL t l) j := by rw [kj.2.2]; exact Int.toNat_natCast _
      refine And.intro (by omega) ?_
      refine Or.inl ?_
      refine Exists.intro [false, false, false, false, false, false, false, false, false, false, false, false, false, false, false, false, true, true] (And.intro (by decide +kernel) ?_)
      refine And.intro (by simp only [Int.toNat_natCast]; omega) ?_
      refine And.intro (show 0 ≤ ((classes (classN (cosL t l)) (cosL t l)).getD i []).getD 0 0 ∧ ((classes (classN (cosL t l)) (cosL t l)).getD i []).getD 0 0 < (t.length : Int) by omega) ?_
      refine And.intro (by simp only [Int.toNat_natCast]; omega) ?_
      refine And.intro (show 0 ≤ ((classes (classN (cosL t l)) (cosL t l)).getD j []).getD 0 0 ∧ ((classes (classN (cosL t l)) (cosL t l)).getD j []).getD 0 0 < ((t.getD (((classes (classN (cosL t l)) (cosL t l)).getD i []).getD 0 0).toNat []).length : Int) by rw [ti]; omega) ?_
      refine And.intro (show 0 ≤ (t.getD (((classes (classN (cosL t l)) (cosL t l)).getD i []).getD 0 0).toNat []).getD (((classes (classN (cosL t l)) (cosL t l)).getD j []).getD 0 0).toNat 0 ∧ (t.getD (((classes (classN (cosL t l)) (cosL t l)).getD i []).getD 0 0).toNat []).getD (((classes (classN (cosL t l)) (cosL t l)).getD j []).getD 0 0).toNat 0 < ((cosL t l).length : Int) by rw [ti, tj]; omega) ?_
      refine And.intro (by simp; omega) ?_
      refine And.intro (by omega) ?_
      refine nx (j + 1, r ++ [(cosL t l).getD ((t.getD (((classes (classN (cosL t l)) (cosL t l)).getD i []).getD 0 0).toNat []).getD (((classes (classN (cosL t l)) (cosL t l)).getD j []).getD 0 0).toNat 0).toNat 0]) ⟨by omega, ?_⟩ (show classN (cosL t l) - (j + 1) < classN (cosL t l) - j by omega) (by repeat' first | refine And.intro ?_ ?_ | exact True.intro | (show (_ : Int) = (_ : Int); omega) | omega | exact rfl | (simp only [RO.len]; omega))
      show _ = (quoR t (cosL t l) i).take (j + 1)
      rw [ti, tj, e1.1, Int.toNat_natCast, hr]
      unfold quoR
      rw [take_map_succ hjl]
    · have h2 : ((classes (classN (cosL t l)) (cosL t l)).length : Int) ≤ (j : Int) := h2
      refine And.intro (by simp; omega) ?_
      refine And.intro (by omega) ?_
      have hr2 : r = quoR t (cosL t l) i := by rw [hr, List.take_of_length_le (by rw [quoR_len]; omega)]
      refine nx (i + 1, q ++ [r]) ⟨by omega, ?_⟩ (show classN (cosL t l) - (i + 1) < classN (cosL t l) - i by omega) (by repeat' first | refine And.intro ?_ ?_ | exact True.intro | (show (_ : Int) = (_ : Int); omega) | omega | exact rfl | (simp only [RO.len]; omega))
      show _ = (quoL t (cosL t l)).take (i + 1)
      rw [hr2, hq]
      unfold quoL
      rw [take_map_succ hil]
  · have h1 : ((classes (classN (cosL t l)) (cosL t l)).length : Int) ≤ (i : Int) := h1
    refine And.intro (And.intro (by omega) ?_) trivial
    show RO.rows .i64 q = RO.rows .i64 (quoL t (cosL t l))
    rw [hq, List.take_of_length_le (by rw [quoL_len]; omega)]
theorem rQuo_fn (t : List (List Int)) (l : List Int) (h : NmS t l) : QF 56 [.ro (.rows .i64 t), .ro (.ints .i64 l)] (.new (.rows .i64 (quoL t (cosL t l)))) := mkQ Tryz.func56 (by decide +kernel) rfl (Nat.le_of_ble_eq_true rfl) fun _ => rQuo_k t l h
end Go.Proofs.YtdjbbjjmjopofaaGreat
