import Derived.Test.YtpanlghofeebhaaSgpLaw
import Derived.Test.YtpanlghofeebhaaRefRees
import Derived.Test.YtpanlghofeebhaaEqvLaw
import Derived.Test.YtpanlghofeebhaaSynLaw
import Derived.Test.YtpanlghofeebhaaQuoLaw
import Derived.Test.YtpanlghofeebhaaGroup
import Derived.Test.YtpanlghofeebhaaMinsLaw
section
/- Comparisons of numbers and of lists: contracts. -/
namespace Go.Proofs.Ytpanlghofeebhaa
open Go Go.AM
set_option maxRecDepth 100000
theorem isNaN_fn (a : Int) : QF 141 [.int .i64 a] (.bool (.lit false)) := mkQ Try.func141 (by decide +kernel) rfl (Nat.le_of_ble_eq_true rfl) fun _ => by
  refine And.intro ?_ trivial
  show decide (a ≠ a) = false
  simp
theorem compare_fn (a b : Int) : QF 101 [.int .i64 a, .int .i64 b] (.int .i64 (cmpI a b)) := mkQ Try.func101 (by decide +kernel) rfl (Nat.le_of_ble_eq_true rfl) fun _ => by
  refine Or.inl (cq (isNaN_fn a) (And.intro rfl trivial) ?_)
  refine Or.inl (cq (isNaN_fn b) (And.intro rfl trivial) ?_)
  unfold cmpI
  refine And.intro (fun h1 => ?_) (fun h1 => ?_)
  · exact And.intro (by rw [if_pos h1]; rfl) trivial
  · refine And.intro (fun h2 => ?_) (fun h2 => ?_)
    · exact And.intro (by rw [if_neg (by omega), if_pos h2]; rfl) trivial
    · exact And.intro (by rw [if_neg (by omega), if_neg (by omega)]; rfl) trivial
theorem compareL_k (a b : List Int) (ha : a.length ≤ 140737488355328) (hb : b.length ≤ 140737488355328) : fnK TY SP Try.f57 [.ro (.ints .i64 a), .ro (.ints .i64 b)] (.int .i64 (cmpL a b)) := by
  refine Exists.intro [] <| lp (X := Nat) (fun i => [(11, .int .i64 i)]) (fun _ => []) (fun i => (i ≤ a.length ∧ i ≤ b.length) ∧ ∀ j, j < i → a.getD j 0 = b.getD j 0) (fun i => a.length - i) 0 (by simp) (by repeat' first | refine And.intro ?_ ?_ | exact True.intro | (show (_ : Int) = (_ : Int); omega) | omega | exact rfl | (simp only [RO.len]; omega)) ?_
  rintro i ⟨⟨hi, hi2⟩, hs⟩
  refine And.intro (fun h1 => ?_) (fun h1 => ?_)
  · refine And.intro (by omega) ?_
    refine And.intro (fun h2 => ?_) (fun h2 => ?_)
    · refine And.intro ?_ trivial
      rw [cmpL_end hs hi hi2 (.inr (by omega))]
      unfold cmpI; rw [if_neg (by omega), if_pos (by omega)]; rfl
    · refine And.intro (by omega) ?_
      refine Or.inl (cq (compare_fn (a.getD i 0) (b.getD i 0)) (And.intro rfl (And.intro rfl trivial)) ?_)
      refine And.intro (fun h3 => ?_) (fun h3 => ?_)
      · refine And.intro ?_ trivial
        exact (cmpL_here hs (by omega) (by omega) fun e => h3 (by rw [e]; exact cmpI_tot.self _)).symm
      · refine And.intro (by omega) ?_
        refine nx (i + 1) ⟨⟨by omega, by omega⟩, fun j hj => ?_⟩ (show a.length - (i + 1) < a.length - i by omega) (by repeat' first | refine And.intro ?_ ?_ | exact True.intro | (show (_ : Int) = (_ : Int); omega) | omega | exact rfl | (simp only [RO.len]; omega))
        by_cases e : j = i
        · subst e; exact cmpI_tot.eq _ _ h3
        · exact hs j (by omega)
  · have e := cmpL_end hs hi hi2 (.inl (by omega))
    refine And.intro (fun h2 => ?_) (fun h2 => ?_)
    · refine And.intro ?_ trivial
      rw [e]; unfold cmpI; rw [if_pos h2]; rfl
    · refine And.intro ?_ trivial
      rw [e]; unfold cmpI; rw [if_neg (by omega), if_neg (by omega)]; rfl
theorem compareL_fn (a b : List Int) : QF 57 [.ro (.ints .i64 a), .ro (.ints .i64 b)] (.int .i64 (cmpL a b)) := mkQ Try.func57 (by decide +kernel) rfl (Nat.le_of_ble_eq_true rfl) fun hf => compareL_k a b hf.1.1 hf.2.1.1
theorem rLess_k (a b : List Int) (ha : a.length ≤ 140737488355328) (hb : b.length ≤ 140737488355328) : fnK TY SP Try.f15 [.ro (.ints .i64 a), .ro (.ints .i64 b)] (.bool (.v (decide (cmpL a b < 0)))) := by
  refine Exists.intro [] <| lp (X := Nat) (fun i => [(5, .int .i64 i)]) (fun _ => []) (fun i => (i ≤ a.length ∧ i ≤ b.length) ∧ ∀ j, j < i → a.getD j 0 = b.getD j 0) (fun i => a.length - i) 0 (by simp) (by repeat' first | refine And.intro ?_ ?_ | exact True.intro | (show (_ : Int) = (_ : Int); omega) | omega | exact rfl | (simp only [RO.len]; omega)) ?_
  rintro i ⟨⟨hi, hi2⟩, hs⟩
  have fin : i = a.length ∨ i = b.length → decide ((a.length : Int) < (b.length : Int)) = decide (cmpL a b < 0) := fun he => by
    rw [cmpL_end hs hi hi2 he]
    unfold cmpI
    refine decide_eq_decide.2 ?_
    split <;> (try split) <;> omega
  refine And.intro (fun h1 => ?_) (fun h1 => ?_)
  · refine And.intro (fun h2 => ?_) (fun h2 => ?_)
    · refine Or.inl <| Exists.intro [false, false, false, false, false, false, false, false, false] (And.intro (by decide +kernel) ?_)
      refine And.intro (by omega) ?_
      refine And.intro (by omega) ?_
      refine And.intro (fun h3 => ?_) (fun h3 => ?_)
      · have h3 : a.getD i 0 ≠ b.getD i 0 := h3
        refine Or.inl <| Exists.intro [false, false, false, false, false, false, false, false, false, false] (And.intro (by decide +kernel) ?_)
        refine And.intro (by omega) ?_
        refine And.intro (by omega) ?_
        refine And.intro ?_ trivial
        show decide (a.getD i 0 < b.getD i 0) = decide (cmpL a b < 0)
        rw [cmpL_here hs (by omega) (by omega) h3]
        unfold cmpI
        refine decide_eq_decide.2 ?_
        split <;> (try split) <;> omega
      · have h3 : a.getD i 0 = b.getD i 0 := h3
        refine And.intro (by omega) ?_
        refine nx (i + 1) ⟨⟨by omega, by omega⟩, fun j hj => ?_⟩ (show a.length - (i + 1) < a.length - i by omega) (by repeat' first | refine And.intro ?_ ?_ | exact True.intro | (show (_ : Int) = (_ : Int); omega) | omega | exact rfl | (simp only [RO.len]; omega))
        by_cases e : j = i
        · subst e; exact h3
        · exact hs j (by omega)
    · exact And.intro (fin (.inr (by omega))) trivial
  · exact And.intro (fin (.inl (by omega))) trivial
theorem rLess_fn (a b : List Int) : QF 15 [.ro (.ints .i64 a), .ro (.ints .i64 b)] (.bool (.v (decide (cmpL a b < 0)))) := mkQ Try.func15 (by decide +kernel) rfl (Nat.le_of_ble_eq_true rfl) fun hf => rLess_k a b hf.1.1 hf.2.1.1
end Go.Proofs.Ytpanlghofeebhaa
end
section
/- The reference's principal and minimal congruences: contracts. -/
namespace Go.Proofs.Ytpanlghofeebhaa
open Go Go.AM
set_option maxRecDepth 100000
noncomputable def prnG (t : List (List Int)) (x y : Nat) : List Int := genP t 0 (relP [((x : Int), (y : Int))])
noncomputable def prnL (t : List (List Int)) : List (List Int) := srt cmpL (firsts ((List.range t.length).flatMap fun x => (List.range x).map fun y => prnG t x y))
theorem mem_prnL {t : List (List Int)} {p : List Int} : p ∈ prnL t ↔ ∃ x y, y < x ∧ x < t.length ∧ p = prnG t x y := by
  unfold prnL
  rw [srt_mem, mem_firsts, List.mem_flatMap]
  constructor
  · rintro ⟨x, hx, h⟩
    obtain ⟨y, hy, rfl⟩ := List.mem_map.1 h
    exact ⟨x, y, List.mem_range.1 hy, List.mem_range.1 hx, rfl⟩
  · rintro ⟨x, y, h1, h2, rfl⟩
    exact ⟨x, List.mem_range.2 h2, List.mem_map.2 ⟨y, List.mem_range.2 h1, rfl⟩⟩
theorem prnG_is {t : List (List Int)} (h : Semi t) (x y : Nat) : IsCg t (prnG t x y) 0 := genP_is h (by decide)
theorem prnG_eq {t : List (List Int)} {x y : Nat} (hx : x < t.length) (hy : y < t.length) : (prnG t x y).getD x 0 = (prnG t x y).getD y 0 :=
  (genP_iff hx hy).2 (.rel (List.mem_singleton.2 rfl))
theorem prnG_sub {t : List (List Int)} {x y : Nat} {q : List Int} (hq : IsCg t q 0) (e : q.getD x 0 = q.getD y 0) : Sub t.length (prnG t x y) q := fun a b ha hb h => by
  refine Cgr.sub (fun c d hcd => ?_) hq.cg ((genP_iff ha hb).1 h)
  have := List.mem_singleton.1 hcd
  injection this with h1 h2
  have h1 : c = x := by omega
  have h2 : d = y := by omega
  rw [h1, h2]; exact e
end Go.Proofs.Ytpanlghofeebhaa
end
section
/- Package subdirect: the meets of a list's ends, and the list without what is superfluous: contracts. -/
namespace Go.Proofs.Ytpanlghofeebhaa
open Go Go.AM
set_option maxRecDepth 100000
def Pt (n : Nat) (p : List Int) : Prop := p.length = n ∧ validP p
def mtP (p q : List Int) : List Int := canon (p.zip q)
theorem Pt.mt {n : Nat} {p q : List Int} (hp : Pt n p) (hq : Pt n q) : Pt n (mtP p q) := by
  have hl : (mtP p q).length = n := by unfold mtP; rw [canon_length, List.length_zip, hp.1, hq.1]; omega
  exact ⟨hl, by rw [hl]; have := hp.2.1; have := hp.1; omega, canon_idemG (0, 0) _⟩
theorem pmt_fn {n : Nat} {p q : List Int} (hp : Pt n p) (hq : Pt n q) : QF 18 [.ro (.ints .i64 p), .ro (.ints .i64 q)] (.new (.ints .i64 (mtP p q))) := by
  have h := pmeet_fn p q
  rw [if_pos ⟨hp.1.trans hq.1.symm, hp.2, hq.2⟩] at h
  exact h
end Go.Proofs.Ytpanlghofeebhaa
end
