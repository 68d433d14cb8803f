import Derived.Test.YteopelpnpdbbcaaCgGnrN
import Derived.Test.YteopelpnpdbbcaaRefn
import Derived.Test.YteopelpnpdbbcaaRefCg
import Derived.Test.YteopelpnpdbbcaaAwk19
import Derived.Test.YteopelpnpdbbcaaRefRees
/- The statements CongrLeast and CongrSides: the walks. -/
namespace Go.Proofs.Yteopelpnpdbbcaa
open Go Go.AM
set_option maxRecDepth 100000
theorem small19_k (t : List (List Int)) (m : Int) : fnK TY SP Try.f35 [.ro (.rows .i64 t), .int .i64 m] (.bool (.v (decide ((t.length : Int) ≤ m ∧ validV t = 0)))) := by
  refine And.intro (fun h1 => ?_) (fun h1 => ?_)
  · have h1 : (t.length : Int) ≤ m := h1
    refine Or.inl (cq (rvalid_fn t) (And.intro rfl trivial) ?_)
    refine And.intro ?_ trivial
    show decide (validV t = 0) = decide ((t.length : Int) ≤ m ∧ validV t = 0)
    simp [h1]
  · have h1 : m < (t.length : Int) := h1
    refine And.intro ?_ trivial
    show false = decide ((t.length : Int) ≤ m ∧ validV t = 0)
    rw [decide_eq_false (fun h => by omega)]
theorem small19_fn (t : List (List Int)) (m : Int) : QF 35 [.ro (.rows .i64 t), .int .i64 m] (.bool (.v (decide ((t.length : Int) ≤ m ∧ validV t = 0)))) := mkQ Try.func35 (by decide +kernel) rfl (Nat.le_of_ble_eq_true rfl) fun _ => small19_k t m
/-- A congruence of both kinds is one on both sides. -/
theorem cg_sides {t : List (List Int)} {p : List Int} : cgB t p 0 = (cgB t p 1 && cgB t p 2) := by
  by_cases h : IsCg t p 0
  · have h1 : IsCg t p 1 := ⟨h.semi, h.len, h.val, by omega, fun x y s hx hy hs e => ⟨fun _ => (h.cg x y s hx hy hs e).1 (by decide), fun h0 => absurd rfl h0⟩⟩
    have h2 : IsCg t p 2 := ⟨h.semi, h.len, h.val, by omega, fun x y s hx hy hs e => ⟨fun h0 => absurd rfl h0, fun _ => (h.cg x y s hx hy hs e).2 (by decide)⟩⟩
    rw [cgB_true.2 h, cgB_true.2 h1, cgB_true.2 h2]; rfl
  · rw [cgB_false.2 h]
    cases h1 : cgB t p 1 with
    | false => rfl
    | true =>
      cases h2 : cgB t p 2 with
      | false => rfl
      | true =>
        have k1 := cgB_true.1 h1
        have k2 := cgB_true.1 h2
        exact absurd ⟨k1.semi, k1.len, k1.val, by omega, fun x y s hx hy hs e => ⟨fun _ => (k1.cg x y s hx hy hs e).1 (by decide), fun _ => (k2.cg x y s hx hy hs e).2 (by decide)⟩⟩ h
theorem cgSid_k (t : List (List Int)) (p : List Int) (l : List (Int × Int)) (hs : Semi t) (hn : t.length ≤ 10) (hl : inW t.length l) (hll : l.length ≤ 10) : fnK TY SP Try.f7 [.ro (.rows .i64 t), .ro (.ints .i64 p), .ro (.pairs l)] (.bool (.lit true)) := by
  have hv := valid_zero.2 hs
  have hlo : inW (oppL t).length l := by rw [oppL_len]; exact hl
  refine Or.inl (cq (small19_fn t 10) (And.intro rfl (And.intro rfl trivial)) ?_)
  refine And.intro (fun h1 => ?_) (fun _ => ?_)
  · have h1 : (!decide ((t.length : Int) ≤ 10 ∧ validV t = 0)) = true := h1
    rw [decide_eq_true ⟨by omega, hv⟩] at h1; exact absurd h1 (by decide)
  refine And.intro (fun h2 => absurd (show (10 : Int) < (l.length : Int) from h2) (by omega)) (fun _ => ?_)
  refine Or.inl (cq (rmay_fn t.length (by omega) l) (And.intro rfl (And.intro rfl trivial)) ?_)
  refine And.intro (fun h3 => ?_) (fun _ => ?_)
  · have h3 : (!inWB t.length l) = true := h3
    rw [inWB_true.2 hl] at h3; exact absurd h3 (by decide)
  refine Or.inl (cq (cgr_fn t p 1) (And.intro rfl (And.intro rfl (And.intro rfl trivial))) ?_)
  refine Or.inl (cq (cgr_fn t p 2) (And.intro rfl (And.intro rfl (And.intro rfl trivial))) ?_)
  refine Or.inl (cq (cgnr_fn t l 1 hs hl (by omega)) (And.intro rfl (And.intro rfl (And.intro rfl trivial))) ?_)
  refine Or.inl (cq (mopp_fn t hs) (And.intro rfl trivial) ?_)
  refine Or.inl (cq (cgnr_fn (oppL t) l 2 (opp_semi hs) hlo (by omega)) (And.intro rfl (And.intro rfl (And.intro rfl trivial))) ?_)
  refine Or.inl (cq (cgr_fn t p 0) (And.intro rfl (And.intro rfl (And.intro rfl trivial))) ?_)
  have hcs := cg_sides (t := t) (p := p)
  refine And.intro (fun h4 => ?_) (fun h4 => ?_)
  · have h4 : cgB t p 1 = true := h4
    rw [h4, Bool.true_and] at hcs
    refine And.intro (fun _ => ?_) (fun h5 => ?_)
    · refine And.intro (fun _ => ?_) (fun h6 => absurd (show ((genP t 1 (relP l)).length : Int) = (t.length : Int) by rw [genP_len]) h6)
      refine Or.inl (cq (same_fn (genP t 1 (relP l)) (genP (oppL t) 2 (relP l))) (And.intro rfl (And.intro rfl trivial)) ?_)
      refine And.intro (fun _ => Or.inl (cq awake19_fn trivial (And.intro rfl trivial))) (fun h7 => absurd (of_decide_eq_false h7) (fun h8 => h8 (opp_genP hs.toSh (relP l))))
    · have h5 : (cgB t p 0 == cgB t p 2) = false := h5
      rw [hcs] at h5; simp at h5
  · have h4 : cgB t p 1 = false := h4
    rw [h4, Bool.false_and] at hcs
    refine And.intro (fun _ => ?_) (fun h5 => ?_)
    · refine And.intro (fun _ => ?_) (fun h6 => absurd (show ((genP t 1 (relP l)).length : Int) = (t.length : Int) by rw [genP_len]) h6)
      refine Or.inl (cq (same_fn (genP t 1 (relP l)) (genP (oppL t) 2 (relP l))) (And.intro rfl (And.intro rfl trivial)) ?_)
      refine And.intro (fun _ => Or.inl (cq awake19_fn trivial (And.intro rfl trivial))) (fun h7 => absurd (of_decide_eq_false h7) (fun h8 => h8 (opp_genP hs.toSh (relP l))))
    · have h5 : (cgB t p 0 == false) = false := h5
      rw [hcs] at h5; simp at h5
theorem cgSidN_k (t : List (List Int)) (p : List Int) (l : List (Int × Int)) (hno : ¬ (Semi t ∧ t.length ≤ 10 ∧ inW t.length l ∧ l.length ≤ 10)) : fnK TY SP Try.f7 [.ro (.rows .i64 t), .ro (.ints .i64 p), .ro (.pairs l)] (.bool (.lit true)) := by
  refine Or.inl (cq (small19_fn t 10) (And.intro rfl (And.intro rfl trivial)) ?_)
  refine And.intro (fun _ => Or.inl (cq awake19_fn trivial (And.intro rfl trivial))) (fun h1 => ?_)
  have h1 : (!decide ((t.length : Int) ≤ 10 ∧ validV t = 0)) = false := h1
  rw [Bool.not_eq_false'] at h1
  have h1 := of_decide_eq_true h1
  refine And.intro (fun _ => Or.inl (cq awake19_fn trivial (And.intro rfl trivial))) (fun h2 => ?_)
  have h2 : (l.length : Int) ≤ 10 := h2
  refine Or.inl (cq (rmay_fn t.length (by omega) l) (And.intro rfl (And.intro rfl trivial)) ?_)
  refine And.intro (fun _ => Or.inl (cq awake19_fn trivial (And.intro rfl trivial))) (fun h3 => ?_)
  have h3 : (!inWB t.length l) = false := h3
  rw [Bool.not_eq_false'] at h3
  exact absurd ⟨valid_zero.1 h1.2, by omega, inWB_true.1 h3, by omega⟩ hno
theorem cgSid_fn (t : List (List Int)) (p : List Int) (l : List (Int × Int)) : QF 7 [.ro (.rows .i64 t), .ro (.ints .i64 p), .ro (.pairs l)] (.bool (.lit true)) :=
  mkQ Try.func7 (by decide +kernel) rfl (Nat.le_of_ble_eq_true rfl) fun _ => by
    by_cases h : Semi t ∧ t.length ≤ 10 ∧ inW t.length l ∧ l.length ≤ 10
    · exact cgSid_k t p l h.1 h.2.1 h.2.2.1 h.2.2.2
    · exact cgSidN_k t p l h
end Go.Proofs.Yteopelpnpdbbcaa
