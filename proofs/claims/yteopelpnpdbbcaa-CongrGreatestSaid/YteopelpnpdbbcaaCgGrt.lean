/- The statement CongrGreatest: the walk. -/
import Derived.Test.YteopelpnpdbbcaaSat
import Derived.Test.YteopelpnpdbbcaaCgLst
namespace Go.Proofs.Yteopelpnpdbbcaa
open Go Go.AM
set_option maxRecDepth 100000
theorem cgGrt_k (t : List (List Int)) (s : List Bool) (l : List (Int × Int)) (hs : Semi t) (hn : t.length ≤ 10) (hsl : s.length = t.length) (hl : inW t.length l) (hll : l.length ≤ 6) : fnK TY SP Try.f10 [.ro (.rows .i64 t), .ro (.bools s), .ro (.pairs l)] (.bool (.lit true)) := by
  have hv := valid_zero.2 hs
  have hS := hs.toSh
  have hpi := cgB_true.2 (synP_is (p := lbL s) hs)
  have hpl : (synP t (lbL s)).length = t.length := synP_len
  have hgl : (genP t 0 (relP l)).length = t.length := genP_len
  have hps : satB (synP t (lbL s)) s = true := satB_true.2 fun i j hi hj e => (lbL_iff (by omega) (by omega)).1 ((synP_iff (by omega) (by omega)).1 e).own
  refine Or.inl (cq (small19_fn t 10) (And.intro rfl (And.intro rfl trivial)) ?_)
  refine And.intro (fun h1 => ?_) (fun _ => ?_)
  · have h1 : (!decide ((t.length : Int) ≤ 10 ∧ validV t = 0)) = true := h1
    rw [decide_eq_true ⟨by omega, hv⟩] at h1; exact absurd h1 (by decide)
  refine And.intro (fun h2 => absurd (show (s.length : Int) = (t.length : Int) by omega) h2) (fun _ => ?_)
  refine And.intro (fun h2 => absurd (show (6 : Int) < (l.length : Int) from h2) (by omega)) (fun _ => ?_)
  refine Or.inl (cq (rmay_fn t.length (by omega) l) (And.intro rfl (And.intro rfl trivial)) ?_)
  refine And.intro (fun h3 => ?_) (fun _ => ?_)
  · have h3 : (!inWB t.length l) = true := h3
    rw [inWB_true.2 hl] at h3; exact absurd h3 (by decide)
  refine Or.inl (cq (csyn_fn t s hs hsl) (And.intro rfl (And.intro rfl trivial)) ?_)
  refine Or.inl (cq (cgnr_fn t l 0 hs hl (by omega)) (And.intro rfl (And.intro rfl (And.intro rfl trivial))) ?_)
  refine Or.inl (cq (cgr_fn t (synP t (lbL s)) 0) (And.intro rfl (And.intro rfl (And.intro rfl trivial))) ?_)
  refine And.intro (fun _ => ?_) (fun h4 => ?_)
  · refine Or.inl (cq (psat_fn (synP t (lbL s)) s (synP_valid hS) (by omega)) (And.intro rfl (And.intro rfl trivial)) ?_)
    refine And.intro (fun _ => ?_) (fun h5 => ?_)
    · refine Or.inl (cq (psat_fn (genP t 0 (relP l)) s (genP_valid hS) (by omega)) (And.intro rfl (And.intro rfl trivial)) ?_)
      refine And.intro (fun _ => Or.inl (cq awake19_fn trivial (And.intro rfl trivial))) (fun h6 => ?_)
      have h6 : (!satB (genP t 0 (relP l)) s) = false := h6
      rw [Bool.not_eq_false'] at h6
      have h6 := satB_true.1 h6
      have hrf : rfB (genP t 0 (relP l)) (synP t (lbL s)) = true := rfB_true.2 fun i j hi hj e => by
        rw [hgl] at hi hj
        refine (synP_iff hi hj).2 (syn_great hS (genP_cg hS) (fun x y hx hy e2 => ?_) hi hj e)
        exact (lbL_iff (by omega) (by omega)).2 (h6 x y (by omega) (by omega) e2)
      refine Or.inl (cq (prefn_fn (genP t 0 (relP l)) (synP t (lbL s)) (genP_valid hS) (synP_valid hS) (by omega)) (And.intro rfl (And.intro rfl trivial)) ?_)
      refine And.intro (fun _ => Or.inl (cq awake19_fn trivial (And.intro rfl trivial))) (fun h7 => ?_)
      have h7 : rfB (genP t 0 (relP l)) (synP t (lbL s)) = false := h7
      rw [hrf] at h7; cases h7
    · have h5 : satB (synP t (lbL s)) s = false := h5
      rw [hps] at h5; cases h5
  · have h4 : cgB t (synP t (lbL s)) 0 = false := h4
    rw [hpi] at h4; cases h4
theorem cgGrtN_k (t : List (List Int)) (s : List Bool) (l : List (Int × Int)) (hno : ¬ (Semi t ∧ t.length ≤ 10 ∧ s.length = t.length ∧ inW t.length l ∧ l.length ≤ 6)) : fnK TY SP Try.f10 [.ro (.rows .i64 t), .ro (.bools s), .ro (.pairs l)] (.bool (.lit true)) := by
  refine Or.inl (cq (small19_fn t 10) (And.intro rfl (And.intro rfl trivial)) ?_)
  refine And.intro (fun _ => Or.inl (cq awake19_fn trivial (And.intro rfl trivial))) (fun h1 => ?_)
  have h1 : (!decide ((t.length : Int) ≤ 10 ∧ validV t = 0)) = false := h1
  rw [Bool.not_eq_false'] at h1
  have h1 := of_decide_eq_true h1
  refine And.intro (fun _ => Or.inl (cq awake19_fn trivial (And.intro rfl trivial))) (fun h2 => ?_)
  have h2 : (s.length : Int) = (t.length : Int) := h2
  refine And.intro (fun _ => Or.inl (cq awake19_fn trivial (And.intro rfl trivial))) (fun h4 => ?_)
  have h4 : (l.length : Int) ≤ 6 := h4
  refine Or.inl (cq (rmay_fn t.length (by omega) l) (And.intro rfl (And.intro rfl trivial)) ?_)
  refine And.intro (fun _ => Or.inl (cq awake19_fn trivial (And.intro rfl trivial))) (fun h3 => ?_)
  have h3 : (!inWB t.length l) = false := h3
  rw [Bool.not_eq_false'] at h3
  exact absurd ⟨valid_zero.1 h1.2, by omega, by omega, inWB_true.1 h3, by omega⟩ hno
theorem cgGrt_fn (t : List (List Int)) (s : List Bool) (l : List (Int × Int)) : QF 10 [.ro (.rows .i64 t), .ro (.bools s), .ro (.pairs l)] (.bool (.lit true)) :=
  mkQ Try.func10 (by decide +kernel) rfl (Nat.le_of_ble_eq_true rfl) fun _ => by
    by_cases h : Semi t ∧ t.length ≤ 10 ∧ s.length = t.length ∧ inW t.length l ∧ l.length ≤ 6
    · exact cgGrt_k t s l h.1 h.2.1 h.2.2.1 h.2.2.2.1 h.2.2.2.2
    · exact cgGrtN_k t s l h
end Go.Proofs.Yteopelpnpdbbcaa
