/- The statement CongrQuotients: the walk. -/
import Derived.Test.YteopelpnpdbbcaaCgQuo
import Derived.Test.YteopelpnpdbbcaaCgRec
import Derived.Test.YteopelpnpdbbcaaRefCg
import Derived.Test.YteopelpnpdbbcaaRefRees
namespace Go.Proofs.Yteopelpnpdbbcaa
open Go Go.AM
set_option maxRecDepth 100000
theorem cgQuS_k (t : List (List Int)) (p : List Int) (h : IsCg t p 0) : fnK TY SP Try.f4 [.ro (.rows .i64 t), .ro (.ints .i64 p)] (.bool (.lit true)) := by
  have hs := h.semi
  have hv := valid_zero.2 hs
  have hmost := hs.most
  have hpl := h.len
  have hS := hs.toSh
  have hq := quo_semi hs hpl h.val.2 h.cg
  have hql : (quoL t p).length = classN p := quoL_len
  refine Or.inl (cq (large19_fn t 14) (And.intro rfl (And.intro rfl trivial)) ?_)
  refine And.intro (fun _ => Or.inl (cq awake19_fn trivial (And.intro rfl trivial))) (fun _ => ?_)
  refine Or.inl (cq (cQuo_fn t p h) (And.intro rfl (And.intro rfl trivial)) ?_)
  refine Or.inl (cq (rvalidate_fn t) (And.intro rfl trivial) ?_)
  refine And.intro (fun _ => ?_) (fun h2 => absurd hv h2)
  refine Or.inl (cq (rcgr_fn t p 0) (And.intro rfl (And.intro rfl (And.intro rfl trivial))) ?_)
  refine And.intro (fun h3 => ?_) (fun _ => ?_)
  · have h3 : (!cgB t p 0) = true := h3
    rw [cgB_true.2 h] at h3; exact absurd h3 (by decide)
  refine And.intro (fun h4 => absurd hv h4) (fun _ => ?_)
  refine And.intro (fun h5 => absurd rfl h5) (fun _ => ?_)
  refine Or.inl (cq (rcQuo_fn t p hs hpl h.val) (And.intro rfl (And.intro rfl trivial)) ?_)
  refine Or.inl (cq (sameRows_fn (quoL t p) (quoL t p)) (And.intro rfl (And.intro rfl trivial)) ?_)
  refine And.intro (fun h6 => ?_) (fun _ => ?_)
  · have h6 : (!decide (quoL t p = quoL t p)) = true := h6
    rw [decide_eq_true rfl] at h6; exact absurd h6 (by decide)
  refine Or.inl (cq (valid_fn (quoL t p)) (And.intro rfl trivial) ?_)
  refine And.intro (fun h7 => absurd (valid_zero.2 hq) h7) (fun _ => ?_)
  refine Exists.intro [] <| lp (X := Nat) (fun x => [(59, .int .i64 x)]) (fun _ => []) (fun x => x ≤ t.length) (fun x => t.length - x) 0 (Nat.zero_le _) (by repeat' first | refine And.intro ?_ ?_ | exact True.intro | (show (_ : Int) = (_ : Int); omega) | omega | exact rfl | (simp only [RO.len]; omega)) ?_
  intro x hx
  refine And.intro (fun h8 => ?_) (fun h8 => ?_)
  · have h8 : (x : Int) < (t.length : Int) := h8
    have hxl : x < t.length := by omega
    refine Exists.intro [] <| lp (X := Nat) (fun y => [(64, .int .i64 y)]) (fun _ => []) (fun y => y ≤ t.length) (fun y => t.length - y) 0 (Nat.zero_le _) (by repeat' first | refine And.intro ?_ ?_ | exact True.intro | (show (_ : Int) = (_ : Int); omega) | omega | exact rfl | (simp only [RO.len]; omega)) ?_
    intro y hy
    refine And.intro (fun h9 => ?_) (fun h9 => ?_)
    · have h9 : (y : Int) < (t.length : Int) := h9
      have hyl : y < t.length := by omega
      have e1 := hS.ent hxl hyl
      have r1 := hS.len hxl
      have k1 := cls_lt h.val.2 (x := x) (by omega)
      have k2 := cls_lt h.val.2 (x := y) (by omega)
      have hrow : ((quoL t p).getD (p.getD x 0).toNat []).length = classN p := by rw [quoL_get k1.2.1]; exact quoR_len
      have hom := quo_hom hS hpl h.val.2 h.cg hxl hyl
      have hen : ((t.getD x []).getD y 0).toNat = en t x y := by omega
      refine Or.inl ?_
      refine Exists.intro [false, false, false, false, false, false, false, false, false, false, false, false, false, false, false, false, false, false, false, false, false, false, false, false] (And.intro (by decide +kernel) ?_)
      refine And.intro (by omega) ?_
      refine And.intro (show 0 ≤ (y : Int) ∧ (y : Int) < ((t.getD x []).length : Int) by omega) ?_
      refine And.intro (show 0 ≤ (t.getD x []).getD y 0 ∧ (t.getD x []).getD y 0 < (p.length : Int) by omega) ?_
      refine And.intro (by omega) ?_
      refine And.intro (show 0 ≤ p.getD x 0 ∧ p.getD x 0 < ((quoL t p).length : Int) by omega) ?_
      refine And.intro (by omega) ?_
      refine And.intro (show 0 ≤ p.getD y 0 ∧ p.getD y 0 < (((quoL t p).getD (p.getD x 0).toNat []).length : Int) by omega) ?_
      refine And.intro (fun h10 => ?_) (fun _ => ?_)
      · have h10 : p.getD ((t.getD x []).getD y 0).toNat 0 ≠ ((quoL t p).getD (p.getD x 0).toNat []).getD (p.getD y 0).toNat 0 := h10
        rw [hen, hom] at h10
        exact absurd rfl h10
      refine And.intro (by omega) ?_
      exact nx (y + 1) (show y + 1 ≤ _ by omega) (show t.length - (y + 1) < t.length - y by omega) (by repeat' first | refine And.intro ?_ ?_ | exact True.intro | (show (_ : Int) = (_ : Int); omega) | omega | exact rfl | (simp only [RO.len]; omega))
    · refine And.intro (by omega) ?_
      exact nx (x + 1) (show x + 1 ≤ _ by omega) (show t.length - (x + 1) < t.length - x by omega) (by repeat' first | refine And.intro ?_ ?_ | exact True.intro | (show (_ : Int) = (_ : Int); omega) | omega | exact rfl | (simp only [RO.len]; omega))
  · exact Or.inl (cq awake19_fn trivial (And.intro rfl trivial))
theorem cgQuSN_k (t : List (List Int)) (p : List Int) (h : ¬ IsCg t p 0) : fnK TY SP Try.f4 [.ro (.rows .i64 t), .ro (.ints .i64 p)] (.bool (.lit true)) := by
  refine Or.inl (cq (large19_fn t 14) (And.intro rfl (And.intro rfl trivial)) ?_)
  refine And.intro (fun _ => Or.inl (cq awake19_fn trivial (And.intro rfl trivial))) (fun _ => ?_)
  refine Or.inl (cq (cQuoN_fn t p h) (And.intro rfl (And.intro rfl trivial)) ?_)
  refine Or.inl (cq (rvalidate_fn t) (And.intro rfl trivial) ?_)
  refine And.intro (fun h2 => ?_) (fun h2 => ?_)
  · have h2 : validV t = 0 := h2
    have hf : cQuoE t = 1 := by unfold cQuoE; rw [if_neg (fun h4 => h4 h2)]
    refine Or.inl (cq (rcgr_fn t p 0) (And.intro rfl (And.intro rfl (And.intro rfl trivial))) ?_)
    refine And.intro (fun _ => ?_) (fun h3 => ?_)
    · refine And.intro (fun _ => ?_) (fun h4 => absurd h4 (by decide))
      refine And.intro (fun _ => ?_) (fun h5 => absurd hf h5)
      refine And.intro (fun _ => ?_) (fun h6 => absurd rfl h6)
      exact Or.inl (cq awake19_fn trivial (And.intro rfl trivial))
    · have h3 : (!cgB t p 0) = false := h3
      rw [cgB_false.2 h] at h3; exact absurd h3 (by decide)
  · have h2 : validV t ≠ 0 := h2
    refine And.intro (fun _ => ?_) (fun h4 => absurd h4 h2)
    refine And.intro (fun _ => ?_) (fun h5 => absurd (if_pos h2) h5)
    refine And.intro (fun _ => ?_) (fun h6 => absurd rfl h6)
    exact Or.inl (cq awake19_fn trivial (And.intro rfl trivial))
theorem cgQuS_fn (t : List (List Int)) (p : List Int) : QF 4 [.ro (.rows .i64 t), .ro (.ints .i64 p)] (.bool (.lit true)) :=
  mkQ Try.func4 (by decide +kernel) rfl (Nat.le_of_ble_eq_true rfl) fun _ => by
    by_cases h : IsCg t p 0
    · exact cgQuS_k t p h
    · exact cgQuSN_k t p h
end Go.Proofs.Yteopelpnpdbbcaa
