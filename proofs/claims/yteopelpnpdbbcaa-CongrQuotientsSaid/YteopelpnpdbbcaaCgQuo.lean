import Derived.Test.YteopelpnpdbbcaaQuoLaw
import Derived.Test.YteopelpnpdbbcaaRefCg
import Derived.Test.YteopelpnpdbbcaaRefPart
/- Package congr: the quotient: contract; the reference's. -/
namespace Go.Proofs.Yteopelpnpdbbcaa
open Go Go.AM
set_option maxRecDepth 100000
set_option maxHeartbeats 1000000 in
theorem cQuo_k (t : List (List Int)) (p : List Int) (h : IsCg t p 0) : fnK TY SP Try.f21 [.ro (.rows .i64 t), .ro (.ints .i64 p)] (.tup [.new (.rows .i64 (quoL t p)), .int .i64 0]) := by
  have hs := h.semi
  have hpl := h.len
  have hp := h.val
  have hg := h.cg
  have hmost := hs.most
  have hcn : classN p ≤ p.length := firsts_le _
  refine Or.inl (cq (valid_fn t) (And.intro rfl trivial) ?_)
  refine And.intro (fun h1 => absurd (valid_zero.2 hs) h1) (fun h1 => ?_)
  refine Or.inl (cq (cgr_fn t p 0) (And.intro rfl (And.intro rfl (And.intro rfl trivial))) ?_)
  refine And.intro (fun h1 => ?_) (fun h1 => ?_)
  · have h1 : (!cgB t p 0) = true := h1
    rw [cgB_true.2 h] at h1; cases h1
  refine Or.inl (cq (pcount_fn p) (And.intro rfl trivial) ?_)
  have e : (if validP p then ((classN p : Nat) : Int) else 0) = classN p := if_pos hp
  refine And.intro (by omega) ?_
  refine And.intro (by omega) ?_
  refine Or.inr (Or.inr ?_)
  refine Exists.intro [36, 37, 38, 40, 41, 49, 52, 64, 10040] <| lp2 (fun (i : Nat) (_ : List (List Int)) => [(26, .int .i64 i)]) (fun _ q => [(23, .vec 0 (.nrows .i64 q) [])]) (fun i q => i ≤ p.length ∧ QuoIn t p i q) (fun i _ => p.length - i) 0 (List.replicate (if validP p then ((classN p : Nat) : Int) else 0).toNat []) ⟨Nat.zero_le _, by rw [e]; exact QuoIn.start⟩ (by repeat' first | refine And.intro ?_ ?_ | exact True.intro | (show (_ : Int) = (_ : Int); omega) | omega | exact rfl | (simp only [RO.len]; omega)) ?_
  rintro i q ⟨hi, hq⟩
  refine And.intro (fun h1 => ?_) (fun h1 => ?_)
  · have hil : i < p.length := by omega
    have hr := cls_lt hp.2 hil
    have hql := hq.1
    refine And.intro (by omega) ?_
    refine And.intro (show 0 ≤ p.getD i 0 ∧ p.getD i 0 < (q.length : Int) by omega) ?_
    refine And.intro (fun h2 => ?_) (fun h2 => ?_)
    · refine And.intro (by omega) ?_
      refine And.intro (by omega) ?_
      refine And.intro (show 0 ≤ p.getD i 0 ∧ p.getD i 0 < (q.length : Int) by omega) ?_
      refine And.intro (show ((0 : Nat) : Int) ≤ p.getD i 0 by omega) ?_
      refine Exists.intro [36, 37, 38, 40, 41, 49, 52, 64] <| lp2 (fun (j : Nat) (_ : List Int) => [(44, .int .i64 j)]) (fun _ r => [(23, .vec 0 (.nrows .i64 q) [(p.getD i 0, 40)]), (40, .vec 0 (.ints .i64 r) [])]) (fun j r => j ≤ p.length ∧ RowIn t p i j r) (fun j _ => p.length - j) 0 (List.replicate q.length 0) ⟨Nat.zero_le _, by rw [hql]; exact RowIn.start⟩ (by repeat' first | refine And.intro ?_ ?_ | exact True.intro | (show (_ : Int) = (_ : Int); omega) | omega | exact rfl | (simp only [RO.len]; omega)) ?_
      rintro j r ⟨hj, hr2⟩
      refine And.intro (fun h3 => ?_) (fun h3 => ?_)
      · have hjl : j < p.length := by omega
        have hrl := hr2.1
        have hc := cls_lt hp.2 hjl
        have e1 := hs.toSh.ent (x := i) (y := j) (by omega) (by omega)
        have r1 := hs.toSh.len (x := i) (by omega)
        have hnext := hr2.next hs.toSh hpl hp.2 hg (by omega) hjl
        rw [← Int.toNat_natCast (en t i j), ← e1.1] at hnext
        refine And.intro (by omega) ?_
        refine Or.inl ?_
        refine Exists.intro [false, false, false, false, false, false, false, false, false, false, false, false, false, false, false, false, true] (And.intro (by decide +kernel) ?_)
        refine And.intro (by simp only [Int.toNat_natCast]; omega) ?_
        refine And.intro (fun _ => ?_) (fun h4 => absurd rfl h4)
        refine And.intro (by omega) ?_
        refine And.intro (show 0 ≤ (j : Int) ∧ (j : Int) < ((t.getD i []).length : Int) by omega) ?_
        refine And.intro (show 0 ≤ (t.getD i []).getD j 0 ∧ (t.getD i []).getD j 0 < (p.length : Int) by omega) ?_
        refine And.intro (show 0 ≤ p.getD j 0 ∧ p.getD j 0 < (r.length : Int) by omega) ?_
        refine And.intro (show ((0 : Nat) : Int) ≤ p.getD j 0 by omega) ?_
        refine And.intro (by omega) ?_
        exact nx (j + 1, r.set (p.getD j 0).toNat (p.getD ((t.getD i []).getD j 0).toNat 0)) ⟨by omega, hnext⟩ (show p.length - (j + 1) < p.length - j by omega) (by repeat' first | refine And.intro ?_ ?_ | exact True.intro | (show (_ : Int) = (_ : Int); omega) | omega | exact rfl | (simp only [RO.len]; omega))
      · refine And.intro (by omega) ?_
        have hrd := hr2.done hs.toSh hpl hp.2 hg (by omega) (by omega)
        have hpos : r ≠ [] := fun he => by
          have := hr2.1
          rw [he] at this
          simp at this; omega
        refine nx (i + 1, q.set (p.getD i 0).toNat r) ⟨by omega, hq.new hp.2 hil hrd⟩ (show p.length - (i + 1) < p.length - i by omega) ?_
        repeat' first | refine And.intro ?_ ?_ | exact True.intro | exact hpos | (show (_ : Int) = (_ : Int); omega) | omega | exact rfl
    · refine And.intro ?_ (fun h0 => ?_)
      · refine And.intro (by omega) ?_
        exact nx (i + 1, q) ⟨by omega, hq.old hp.2 hil h2⟩ (show p.length - (i + 1) < p.length - i by omega) (by repeat' first | refine And.intro ?_ ?_ | exact True.intro | (show (_ : Int) = (_ : Int); omega) | omega | exact rfl | (simp only [RO.len]; omega))
      · exact absurd (List.eq_nil_of_length_eq_zero h0) h2
  · refine And.intro (And.intro (by omega) ?_) (And.intro rfl trivial)
    show RO.rows .i64 q = RO.rows .i64 (quoL t p)
    rw [hq.done hp.2 (by omega)]
theorem cQuo_fn (t : List (List Int)) (p : List Int) (h : IsCg t p 0) : QF 21 [.ro (.rows .i64 t), .ro (.ints .i64 p)] (.tup [.new (.rows .i64 (quoL t p)), .int .i64 0]) := mkQ Try.func21 (by decide +kernel) rfl (Nat.le_of_ble_eq_true rfl) fun _ => cQuo_k t p h
noncomputable def cQuoE (t : List (List Int)) : Int := if validV t ≠ 0 then validV t else 1
theorem cQuoN_k (t : List (List Int)) (p : List Int) (h : ¬ IsCg t p 0) : fnK TY SP Try.f21 [.ro (.rows .i64 t), .ro (.ints .i64 p)] (.tup [.nils, .int .i64 (cQuoE t)]) := by
  refine Or.inl (cq (valid_fn t) (And.intro rfl trivial) ?_)
  refine And.intro (fun h1 => ?_) (fun h1 => ?_)
  · refine And.intro trivial (And.intro ?_ trivial)
    exact (if_pos h1).symm
  refine Or.inl (cq (cgr_fn t p 0) (And.intro rfl (And.intro rfl (And.intro rfl trivial))) ?_)
  refine And.intro (fun h2 => ?_) (fun h2 => ?_)
  · refine And.intro trivial (And.intro ?_ trivial)
    show (1 : Int) = cQuoE t
    unfold cQuoE
    rw [if_neg (fun h3 => h3 h1)]
  · have h2 : (!cgB t p 0) = false := h2
    rw [cgB_false.2 h] at h2; cases h2
theorem cQuoN_fn (t : List (List Int)) (p : List Int) (h : ¬ IsCg t p 0) : QF 21 [.ro (.rows .i64 t), .ro (.ints .i64 p)] (.tup [.nils, .int .i64 (cQuoE t)]) := mkQ Try.func21 (by decide +kernel) rfl (Nat.le_of_ble_eq_true rfl) fun _ => cQuoN_k t p h
theorem take_map_suc {α : Type} {f : Nat → α} {n i : Nat} (h : i < n) : ((List.range n).map f).take (i + 1) = ((List.range n).map f).take i ++ [f i] := by
  rw [List.take_add_one]; simp [h]
set_option maxHeartbeats 1000000 in
theorem rcQuo_k (t : List (List Int)) (p : List Int) (hs : Semi t) (hpl : p.length = t.length) (hv : validP p) : fnK TY SP Try.f25 [.ro (.rows .i64 t), .ro (.ints .i64 p)] (.new (.rows .i64 (quoL t p))) := by
  have hmost := hs.most
  have hsh := hs.toSh
  have hcl : (classes (classN p) p).length = classN p := by simp [classes]
  have hcn : classN p ≤ t.length := by have := firsts_le p; rw [hpl] at this; exact this
  refine Or.inl (cq (rclasses_fn p hv) (And.intro rfl trivial) ?_)
  refine Exists.intro [] <| lp2 (fun (i : Nat) (q : List (List Int)) => [(16, .int .i64 i), (6, .vec 47)]) (fun _ q => [(47, .vec 0 (.rows .i64 q) [])]) (fun i q => i ≤ classN p ∧ q = (quoL t p).take i) (fun i _ => classN p - i) 0 [] ⟨Nat.zero_le _, rfl⟩ (by repeat' first | refine And.intro ?_ ?_ | exact True.intro | (show (_ : Int) = (_ : Int); omega) | omega | exact rfl | (simp only [RO.len]; omega)) ?_
  rintro i q ⟨hi, hq⟩
  have hql : q.length = i := by rw [hq, List.length_take, quoL_len]; omega
  refine And.intro (fun h1 => ?_) (fun h1 => ?_)
  · have h1 : (i : Int) < ((classes (classN p) p).length : Int) := h1
    have hil : i < classN p := by omega
    have ki := hd_at hv.2 hil
    have pi := cls_pos hv.2 hil
    refine And.intro (by omega) ?_
    refine Exists.intro [] <| lp2 (fun (j : Nat) (r : List Int) => [(22, .int .i64 j), (9, .vec 42)]) (fun _ r => [(42, .vec 0 (.ints .i64 r) [])]) (fun j r => j ≤ classN p ∧ r = (quoR t p i).take j) (fun j _ => classN p - j) 0 [] ⟨Nat.zero_le _, rfl⟩ (by repeat' first | refine And.intro ?_ ?_ | exact True.intro | (show (_ : Int) = (_ : Int); omega) | omega | exact rfl | (simp only [RO.len]; omega)) ?_
    rintro j r ⟨hj, hr⟩
    have hrl : r.length = j := by rw [hr, List.length_take, quoR_len]; omega
    refine And.intro (fun h2 => ?_) (fun h2 => ?_)
    · have h2 : (j : Int) < ((classes (classN p) p).length : Int) := h2
      have hjl : j < classN p := by omega
      have kj := hd_at hv.2 hjl
      have pj := cls_pos hv.2 hjl
      have e1 := hsh.ent (x := hdN p i) (y := hdN p j) (by omega) (by omega)
      have r1 := hsh.len (x := hdN p i) (by omega)
      have ti : (((classes (classN p) p).getD i []).getD 0 0).toNat = hdN p i := by rw [ki.2.2]; exact Int.toNat_natCast _
      have tj : (((classes (classN p) p).getD j []).getD 0 0).toNat = hdN p j := by rw [kj.2.2]; exact Int.toNat_natCast _
      refine And.intro (by omega) ?_
      refine Or.inl ?_
      refine Exists.intro [false, false, false, false, false, false, false, false, false, false, false, false, false, false, false, false, true, true] (And.intro (by decide +kernel) ?_)
      refine And.intro (by simp only [Int.toNat_natCast]; omega) ?_
      refine And.intro (show 0 ≤ ((classes (classN p) p).getD i []).getD 0 0 ∧ ((classes (classN p) p).getD i []).getD 0 0 < (t.length : Int) by omega) ?_
      refine And.intro (by simp only [Int.toNat_natCast]; omega) ?_
      refine And.intro (show 0 ≤ ((classes (classN p) p).getD j []).getD 0 0 ∧ ((classes (classN p) p).getD j []).getD 0 0 < ((t.getD (((classes (classN p) p).getD i []).getD 0 0).toNat []).length : Int) by rw [ti]; omega) ?_
      refine And.intro (show 0 ≤ (t.getD (((classes (classN p) p).getD i []).getD 0 0).toNat []).getD (((classes (classN p) p).getD j []).getD 0 0).toNat 0 ∧ (t.getD (((classes (classN p) p).getD i []).getD 0 0).toNat []).getD (((classes (classN p) p).getD j []).getD 0 0).toNat 0 < (p.length : Int) by rw [ti, tj]; omega) ?_
      refine And.intro (by simp; omega) ?_
      refine And.intro (by omega) ?_
      refine nx (j + 1, r ++ [p.getD ((t.getD (((classes (classN p) p).getD i []).getD 0 0).toNat []).getD (((classes (classN p) p).getD j []).getD 0 0).toNat 0).toNat 0]) ⟨by omega, ?_⟩ (show classN p - (j + 1) < classN p - j by omega) (by repeat' first | refine And.intro ?_ ?_ | exact True.intro | (show (_ : Int) = (_ : Int); omega) | omega | exact rfl | (simp only [RO.len]; omega))
      show _ = (quoR t p i).take (j + 1)
      rw [ti, tj, e1.1, Int.toNat_natCast, hr]
      unfold quoR
      rw [take_map_suc hjl]
    · have h2 : ((classes (classN p) p).length : Int) ≤ (j : Int) := h2
      refine And.intro (by simp; omega) ?_
      refine And.intro (by omega) ?_
      have hr2 : r = quoR t p i := by rw [hr, List.take_of_length_le (by rw [quoR_len]; omega)]
      refine nx (i + 1, q ++ [r]) ⟨by omega, ?_⟩ (show classN p - (i + 1) < classN p - i by omega) (by repeat' first | refine And.intro ?_ ?_ | exact True.intro | (show (_ : Int) = (_ : Int); omega) | omega | exact rfl | (simp only [RO.len]; omega))
      show _ = (quoL t p).take (i + 1)
      rw [hr2, hq]
      unfold quoL
      rw [take_map_suc hil]
  · have h1 : ((classes (classN p) p).length : Int) ≤ (i : Int) := h1
    refine And.intro (And.intro (by omega) ?_) trivial
    show RO.rows .i64 q = RO.rows .i64 (quoL t p)
    rw [hq, List.take_of_length_le (by rw [quoL_len]; omega)]
theorem rcQuo_fn (t : List (List Int)) (p : List Int) (hs : Semi t) (hpl : p.length = t.length) (hv : validP p) : QF 25 [.ro (.rows .i64 t), .ro (.ints .i64 p)] (.new (.rows .i64 (quoL t p))) := mkQ Try.func25 (by decide +kernel) rfl (Nat.le_of_ble_eq_true rfl) fun _ => rcQuo_k t p hs hpl hv
end Go.Proofs.Yteopelpnpdbbcaa
