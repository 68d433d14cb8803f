import Derived.Test.YteopelpnpdbbcaaQuoLaw
import Derived.Test.YteopelpnpdbbcaaRefCg
import Derived.Test.YteopelpnpdbbcaaRefPart
/- Package congr: the quotient: contract; the reference's. -/
namespace Go.Proofs.Yteopelpnpdbbcaa
open Go Go.AM
set_option maxRecDepth 100000
set_option maxHeartbeats 1000000 in
theorem cQuo_k (t : List (List Int)) (p : List Int) (h : IsCg t p 0) : fnK TY SP Try.f21 [.ro (.rows .i64 t), .ro (.ints .i64 p)] (.tup [.new (.rows .i64 (quoL t p)), .int .i64 0]) := by
  have hs := h.semi
  have hpl := h.len
  have hp := h.val
  have hg := h.cg
  have hmost := hs.most
  have hcn : classN p ≤ p.length := firsts_le _
  refine Or.inl (cq (valid_fn t) (And.intro rfl trivial) ?_)
  refine And.intro (fun h1 => absurd (valid_zero.2 hs) h1) (fun h1 => ?_)
  refine Or.inl (cq (cgr_fn t p 0) (And.intro rfl (And.intro rfl (And.intro rfl trivial))) ?_)
  refine And.intro (fun h1 => ?_) (fun h1 => ?_)
  · have h1 : (!cgB t p 0) = true := h1
    rw [cgB_true.2 h] at h1; cases h1
  refine Or.inl (cq (pcount_fn p) (And.intro rfl trivial) ?_)
  have e : (if validP p then ((classN p : Nat) : Int) else 0) = classN p := if_pos hp
  refine And.intro (by omega) ?_
  refine And.intro (by omega) ?_
  refine Or.inr (Or.inr ?_)
  refine Exists.intro [36, 37, 38, 40, 41, 49, 52, 64, 10040] <| lp2 (fun (i : Nat) (_ : List (List Int)) => [(26, .int .i64 i)]) (fun _ q => [(23, .vec 0 (.nrows .i64 q) [])]) (fun i q => i ≤ p.length ∧ QuoIn t p i q) (fun i _ => p.length - i) 0 (List.replicate (if validP p then ((classN p : Nat) : Int) else 0).toNat []) ⟨Nat.zero_le _, by rw [e]; exact QuoIn.start⟩ (by repeat' first | refine And.intro ?_ ?_ | exact True.intro | (show (_ : Int) = (_ : Int); omega) | omega | exact rfl | (simp only [RO.len]; omega)) ?_
  rintro i q ⟨hi, hq⟩
  refine And.intro (fun h1 => ?_) (fun h1 => ?_)
  · have hil : i < p.length := by omega
    have hr := cls_lt hp.2 hil
    have hql := hq.1
    refine And.intro (by omega) ?_
    refine And.intro (show 0 ≤ p.getD i 0 ∧ p.getD i 0 < (q.length : Int) by omega) ?_
    refine And.intro (fun h2 => ?_) (fun h2 => ?_)
    · refine And.intro (by omega) ?_
      refine And.intro (by omega) ?_
      refine And.intro (show 0 ≤ p.getD i 0 ∧ p.getD i 0 < (q.length : Int) by omega) ?_
      refine And.intro (show ((0 : Nat) : Int) ≤ p.getD i 0 by omega) ?_
      refine Exists.intro [36, 37, 38, 40, 41, 49, 52, 64] <| lp2 (fun (j : Nat) (_ : List Int) => [(44, .int .i64 j)]) (fun _ r => [(23, .vec 0 (.nrows .i64 q) [(p.getD i 0, 40)]), (40, .vec 0 (.ints .i64 r) [])]) (fun j r => j ≤ p.length ∧ RowIn t p i j r) (fun j _ => p.length - j) 0 (List.replicate q.length 0) ⟨Nat.zero_le _, by rw [hql]; exact RowIn.start⟩ (by repeat' first | refine And.intro ?_ ?_ | exact True.intro | (show (_ : Int) = (_ : Int); omega) | omega | exact rfl | (simp only [RO.len]; omega)) ?_
      rintro j r ⟨hj, hr2⟩
      refine And.intro (fun h3 => ?_) (fun h3 => ?_)
      · have hjl : j < p.length := by omega
        have hrl := hr2.1
        have hc := cls_lt hp.2 hjl
        have e1 := hs.toSh.ent (x := i) (y := j) (by omega) (by omega)
        have r1 := hs.toSh.len (x := i) (by omega)
        have hnext := hr2.next hs.toSh hpl hp.2 hg (by omega) hjl
        rw [← Int.toNat_natCast (en t i j), ← e1.1] at hnext
        refine And.intro (by omega) ?_
        refine Or.inl ?_
        refine Exists.intro [false, false, false, false, false, false, false, false, false, false, false, false, false, false, false, false, true] (And.intro (by decide +kernel) ?_)
        refine And.intro (by simp only [Int.toNat_natCast]; omega) ?_
        refine And.intro (fun _ => ?_) (fun h4 => absurd rfl h4)
        refine And.intro (by omega) ?_
        refine And.intro (show 0 ≤ (j : Int) ∧ (j : Int) < ((t.getD i []).length : Int) by omega) ?_
        refine And.intro (show 0 ≤ (t.getD i []).getD j 0 ∧ (t.getD i []).getD j 0 < (p.length : Int) by omega) ?_
        refine And.intro (show 0 ≤ p.getD j 0 ∧ p.getD j 0 < (r.length : Int) by omega) ?_
        refine And.intro (show ((0 : Nat) : Int) ≤ p.getD j 0 by omega) ?_
        refine And.intro (by omega) ?_
        exact nx (j + 1, r.set (p.getD j 0).toNat (p.getD ((t.getD i []).getD j 0).toNat 0)) ⟨by omega, hnext⟩ (show p.length - (j + 1) < p.length - j by omega) (by repeat' first | refine And.intro ?_ ?_ | exact True.intro | (show (_ : Int) = (_ : Int); omega) | omega | exact rfl | (simp only [RO.len]; omega))
      · refine And.intro (by omega) ?_
        have hrd := hr2.done hs.toSh hpl hp.2 hg (by omega) (by omega)
        have hpos : r ≠ [] := fun he => by
          have := hr2.1
          rw [he] at this
          simp at this; omega
        refine nx (i + 1, q.set (p.getD i 0).toNat r) ⟨by omega, hq.new hp.2 hil hrd⟩ (show p.length - (i + 1) < p.length - i by omega) ?_
        repeat' first | refine And.intro ?_ ?_ | exact True.intro | exact hpos | (show (_ : Int) = (_ : Int); omega) | omega | exact rfl
    · refine And.intro ?_ (fun h0 => ?_)
      · refine And.intro (by omega) ?_
        exact nx (i + 1, q) ⟨by omega, hq.old hp.2 hil h2⟩ (show p.length - (i + 1) < p.length - i by omega) (by repeat' first | refine And.intro ?_ ?_ | exact True.intro | (show (_ : Int) = (_ : Int); omega) | omega | exact rfl | (simp only [RO.len]; omega))
      · exact absurd (List.eq_nil_of_length_eq_zero h0) h2
  · refine And.intro (And.intro (by omega) ?_) (And.intro rfl trivial)
    show RO.rows .i64 q = RO.rows .i64 (quoL t p)
    rw [hq.done hp.2 (by omega)]
theorem cQuo_fn (t : List (List Int)) (p : List Int) (h : IsCg t p 0) : QF 21 [.ro (.rows .i64 t), .ro (.ints .i64 p)] (.tup [.new (.rows .i64 (quoL t p)), .int .i64 0]) := mkQ Try.func21 (by decide +kernel) rfl (Nat.le_of_ble_eq_true rfl) fun _ => cQuo_k t p h
end Go.Proofs.Yteopelpnpdbbcaa
