import Derived.Test.YtkbhgnbnnbengaaRefn
import Derived.Test.YtkbhgnbnnbengaaMinsLaw
import Derived.Test.YtkbhgnbnnbengaaSort
import Derived.Test.YtkbhgnbnnbengaaReesLaw
import Derived.Test.YtkbhgnbnnbengaaRows
import Derived.Deep.Matrix
import Derived.Deep.Fields
import Derived.SizedLaws
import Derived.Carry
import Derived.WideKeyArgs
import Derived.ProofKit
import Derived.OpenShut
section
/- The reference's minimal congruences: contracts. -/
namespace Go.Proofs.Ytkbhgnbnnbengaa
open Go Go.AM
set_option maxRecDepth 100000
theorem insRow_fn (l : List (List Int)) (x : List Int) (hl : l.length ≤ 100000) (hs0 : Srt cmpL l) : QF 96 [.ro (.rows .i64 l), .ro (.ints .i64 x)] (.ro (.rows .i64 (insC cmpL l x))) := mkQ Try.func96 (by decide +kernel) rfl (Nat.le_of_ble_eq_true rfl) fun _ => by
  refine Exists.intro [] <| lp (X := Nat) (fun i => [(5, .int .i64 i)]) (fun _ => []) (fun i => i ≤ l.length ∧ ∀ j, i ≤ j → j < l.length → cmpL x (l.getD j []) < 0) (fun i => i) l.length (by simp; omega) (by repeat' first | refine And.intro ?_ ?_ | exact True.intro | (show (_ : Int) = (_ : Int); omega) | omega | exact rfl | (simp only [RO.len]; omega)) ?_
  rintro i ⟨hi, hs⟩
  have e0 : ((i : Int) - 1).toNat = i - 1 := by omega
  refine And.intro (fun h1 => ?_) (fun h1 => ?_)
  · refine And.intro (by omega) ?_
    refine And.intro (by omega) ?_
    refine Or.inl (cq (rLess_fn x (l.getD ((i : Int) - 1).toNat [])) (And.intro rfl (And.intro rfl trivial)) ?_)
    refine And.intro (fun h2 => ?_) (fun h2 => ?_)
    · have h2 : cmpL x (l.getD ((i : Int) - 1).toNat []) < 0 := of_decide_eq_true h2
      rw [e0] at h2
      refine And.intro (by omega) ?_
      refine nx (i - 1) ⟨by omega, fun j hj hjl => ?_⟩ (show i - 1 < i by omega) (by repeat' first | refine And.intro ?_ ?_ | exact True.intro | (show (_ : Int) = (_ : Int); omega) | omega | exact rfl | (simp only [RO.len]; omega))
      by_cases e : j = i - 1
      · rw [e]; exact h2
      · exact hs j (by omega) hjl
    · have h2 : ¬ cmpL x (l.getD ((i : Int) - 1).toNat []) < 0 := of_decide_eq_false h2
      rw [e0] at h2
      refine And.intro (fun h3 => ?_) (fun h3 => by omega)
      refine And.intro (by omega) ?_
      refine And.intro (by omega) ?_
      refine Or.inl (cq (same_fn (l.getD ((i : Int) - 1).toNat []) x) (And.intro rfl (And.intro rfl trivial)) ?_)
      refine And.intro (fun h4 => ?_) (fun h4 => ?_)
      · have h4 : l.getD ((i : Int) - 1).toNat [] = x := of_decide_eq_true h4
        rw [e0] at h4
        refine And.intro ?_ trivial
        refine congrArg (RO.rows .i64) (insC_in ?_).symm
        rw [← h4]
        exact getD_mem (by omega)
      · have h4 : ¬ l.getD ((i : Int) - 1).toNat [] = x := of_decide_eq_false h4
        rw [e0] at h4
        have hlt : cmpL (l.getD (i - 1) []) x < 0 := by
          have := cmpL_tot.swap (l.getD (i - 1) []) x
          have := mt (cmpL_tot.eq (l.getD (i - 1) []) x) h4
          omega
        have fin := insC_at cmpL_tot (d := []) hs0 hi hs fun _ => hlt
        refine Or.inr (Exists.intro insSch (And.intro (by decide +kernel) ?_))
        refine And.intro (by omega) ?_
        refine And.intro (by omega) ?_
        repeat' first | exact trivial | refine And.intro ?_ ?_
        all_goals first | (simp; omega) | exact congrArg (RO.rows .i64) (by rw [← fin]; simp)
  · refine And.intro (fun h3 => by omega) (fun h3 => ?_)
    have fin := insC_at cmpL_tot (d := []) hs0 hi hs fun h => by omega
    refine Or.inr (Exists.intro insSch (And.intro (by decide +kernel) ?_))
    refine And.intro (by omega) ?_
    refine And.intro (by omega) ?_
    repeat' first | exact trivial | refine And.intro ?_ ?_
    all_goals first | (simp; omega) | exact congrArg (RO.rows .i64) (by rw [← fin]; simp)
set_option maxHeartbeats 1000000 in
theorem rrefn_fn (p q : List Int) (hl : p.length = q.length) : QF 79 [.ro (.ints .i64 p), .ro (.ints .i64 q)] (.bool (.v (rfB p q))) := mkQ Try.func79 (by decide +kernel) rfl (Nat.le_of_ble_eq_true rfl) fun hf => by
  have hpl : p.length ≤ 140737488355328 := hf.1.1
  refine Exists.intro [] <| lp (X := Nat) (fun i => [(9, .int .i64 i)]) (fun _ => []) (fun i => i ≤ p.length ∧ ∀ x, x < i → ∀ y, y < p.length → p.getD x 0 = p.getD y 0 → q.getD x 0 = q.getD y 0) (fun i => p.length - i) 0 ⟨Nat.zero_le _, fun j hj => absurd hj (Nat.not_lt_zero _)⟩ (by repeat' first | refine And.intro ?_ ?_ | exact True.intro | (show (_ : Int) = (_ : Int); omega) | omega | exact rfl | (simp only [RO.len]; omega)) ?_
  rintro i ⟨hi, hx⟩
  refine And.intro (fun h1 => ?_) (fun h1 => ?_)
  · have h1 : (i : Int) < (p.length : Int) := h1
    refine Exists.intro [] <| lp (X := Nat) (fun j => [(14, .int .i64 j)]) (fun _ => []) (fun j => j ≤ p.length ∧ ∀ y, y < j → p.getD i 0 = p.getD y 0 → q.getD i 0 = q.getD y 0) (fun j => p.length - j) 0 ⟨Nat.zero_le _, fun j hj => absurd hj (Nat.not_lt_zero _)⟩ (by repeat' first | refine And.intro ?_ ?_ | exact True.intro | (show (_ : Int) = (_ : Int); omega) | omega | exact rfl | (simp only [RO.len]; omega)) ?_
    rintro j ⟨hj, hy⟩
    refine And.intro (fun h2 => ?_) (fun h2 => ?_)
    · have h2 : (j : Int) < (p.length : Int) := h2
      refine Or.inl ?_
      refine Exists.intro (List.replicate 20 false) (And.intro (by decide +kernel) ?_)
      refine And.intro (by omega) ?_
      refine And.intro (by omega) ?_
      refine And.intro (fun h3 => ?_) (fun h3 => ?_)
      · have h3 : p.getD i 0 = p.getD j 0 := h3
        refine And.intro (show 0 ≤ (i : Int) ∧ (i : Int) < (q.length : Int) by omega) ?_
        refine And.intro (show 0 ≤ (j : Int) ∧ (j : Int) < (q.length : Int) by omega) ?_
        refine And.intro (fun h4 => ?_) (fun h4 => ?_)
        · have h4 : ¬ q.getD i 0 = q.getD j 0 := h4
          refine And.intro ?_ trivial
          exact (rfB_false.2 fun h => h4 (h i j (by omega) (by omega) h3)).symm
        · have h4 : q.getD i 0 = q.getD j 0 := h4
          refine And.intro (by omega) ?_
          refine nx (j + 1) ⟨by omega, fun y hyj e => ?_⟩ (show p.length - (j + 1) < p.length - j by omega) (by repeat' first | refine And.intro ?_ ?_ | exact True.intro | (show (_ : Int) = (_ : Int); omega) | omega | exact rfl | (simp only [RO.len]; omega))
          by_cases ey : y = j
          · subst ey; exact h4
          · exact hy y (by omega) e
      · have h3 : ¬ p.getD i 0 = p.getD j 0 := h3
        refine And.intro (by omega) ?_
        refine nx (j + 1) ⟨by omega, fun y hyj e => ?_⟩ (show p.length - (j + 1) < p.length - j by omega) (by repeat' first | refine And.intro ?_ ?_ | exact True.intro | (show (_ : Int) = (_ : Int); omega) | omega | exact rfl | (simp only [RO.len]; omega))
        by_cases ey : y = j
        · subst ey; exact absurd e h3
        · exact hy y (by omega) e
    · have h2 : (p.length : Int) ≤ (j : Int) := h2
      refine And.intro (by omega) ?_
      refine nx (i + 1) ⟨by omega, fun x hxi y hyp e => ?_⟩ (show p.length - (i + 1) < p.length - i by omega) (by repeat' first | refine And.intro ?_ ?_ | exact True.intro | (show (_ : Int) = (_ : Int); omega) | omega | exact rfl | (simp only [RO.len]; omega))
      by_cases ex : x = i
      · subst ex; exact hy y (by omega) e
      · exact hx x (by omega) y hyp e
  · have h1 : (p.length : Int) ≤ (i : Int) := h1
    refine And.intro ?_ trivial
    exact (rfB_true.2 fun x y hxp hyp e => hx x (by omega) y hyp e).symm
end Go.Proofs.Ytkbhgnbnnbengaa
end
section
/- The reference's principal and minimal congruences: contracts. -/
namespace Go.Proofs.Ytkbhgnbnnbengaa
open Go Go.AM
set_option maxRecDepth 100000
noncomputable def prnG (t : List (List Int)) (x y : Nat) : List Int := genP t 0 (relP [((x : Int), (y : Int))])
noncomputable def prnL (t : List (List Int)) : List (List Int) := srt cmpL (firsts ((List.range t.length).flatMap fun x => (List.range x).map fun y => prnG t x y))
theorem prnL_srt (t : List (List Int)) : Srt cmpL (prnL t) := srt_srt cmpL_tot (firsts_nodup _)
theorem mem_prnL {t : List (List Int)} {p : List Int} : p ∈ prnL t ↔ ∃ x y, y < x ∧ x < t.length ∧ p = prnG t x y := by
  unfold prnL
  rw [srt_mem, mem_firsts, List.mem_flatMap]
  constructor
  · rintro ⟨x, hx, h⟩
    obtain ⟨y, hy, rfl⟩ := List.mem_map.1 h
    exact ⟨x, y, List.mem_range.1 hy, List.mem_range.1 hx, rfl⟩
  · rintro ⟨x, y, h1, h2, rfl⟩
    exact ⟨x, List.mem_range.2 h2, List.mem_map.2 ⟨y, List.mem_range.2 h1, rfl⟩⟩
structure PrI (t : List (List Int)) (x y : Nat) (L : List (List Int)) : Prop where
  srt : Srt cmpL L
  mem : ∀ p, p ∈ L ↔ ∃ a b, b < a ∧ (a < x ∨ a = x ∧ b < y) ∧ p = prnG t a b
  len : L.length ≤ x * 60 + y
theorem PrI.start (t : List (List Int)) : PrI t 0 0 [] := ⟨List.Pairwise.nil, fun p => ⟨fun h => absurd h List.not_mem_nil, fun ⟨a, b, _, h, _⟩ => by omega⟩, Nat.le_refl _⟩
theorem PrI.next {t : List (List Int)} {x y : Nat} {L : List (List Int)} (h : PrI t x y L) (hy : y < x) : PrI t x (y + 1) (insC cmpL L (prnG t x y)) := by
  refine ⟨insC_srt cmpL_tot h.srt, fun p => ?_, ?_⟩
  · rw [insC_mem, h.mem]
    constructor
    · rintro (rfl | ⟨a, b, h1, h2, rfl⟩)
      · exact ⟨x, y, hy, by omega, rfl⟩
      · exact ⟨a, b, h1, by omega, rfl⟩
    · rintro ⟨a, b, h1, h2, rfl⟩
      by_cases e : a = x ∧ b = y
      · obtain ⟨rfl, rfl⟩ := e; exact .inl rfl
      · exact .inr ⟨a, b, h1, by omega, rfl⟩
  · have := insC_len (c := cmpL) L (prnG t x y)
    have := h.len
    omega
theorem PrI.row {t : List (List Int)} {x y : Nat} {L : List (List Int)} (h : PrI t x y L) (hy : x ≤ y) (hx : y ≤ 60) : PrI t (x + 1) 0 L :=
  ⟨h.srt, fun p => (h.mem p).trans ⟨fun ⟨a, b, h1, h2, h3⟩ => ⟨a, b, h1, by omega, h3⟩, fun ⟨a, b, h1, h2, h3⟩ => ⟨a, b, h1, by omega, h3⟩⟩, by have := h.len; omega⟩
theorem PrI.done {t : List (List Int)} {x : Nat} {L : List (List Int)} (h : PrI t x 0 L) (hx : x = t.length) : L = prnL t := by
  refine sorted_uniq cmpL_tot h.srt (prnL_srt t) fun p => ?_
  rw [h.mem, mem_prnL]
  exact ⟨fun ⟨a, b, h1, h2, h3⟩ => ⟨a, b, h1, by omega, h3⟩, fun ⟨a, b, h1, h2, h3⟩ => ⟨a, b, h1, by omega, h3⟩⟩
set_option maxHeartbeats 1000000 in
theorem rprn_fn (t : List (List Int)) (hs : Sh t) (ht : t.length ≤ 60) : QF 78 [.ro (.rows .i64 t)] (.ro (.rows .i64 (prnL t))) := mkQ Try.func78 (by decide +kernel) rfl (Nat.le_of_ble_eq_true rfl) fun _ => by
  refine Exists.intro [20, 21, 22, 10021, 10022] <| lp2 (fun (x : Nat) (L : List (List Int)) => [(8, .int .i64 x), (3, .ro (.rows .i64 L))]) (fun _ _ => []) (fun x L => x ≤ t.length ∧ PrI t x 0 L) (fun x _ => t.length - x) 0 [] ⟨Nat.zero_le _, .start t⟩ (by repeat' first | refine And.intro ?_ ?_ | exact True.intro | (show (_ : Int) = (_ : Int); omega) | omega | exact rfl | (simp only [RO.len]; omega)) ?_
  rintro x L0 ⟨hx, h0⟩
  refine And.intro (fun h1 => ?_) (fun h1 => ?_)
  · have h1 : (x : Int) < (t.length : Int) := h1
    refine Exists.intro [20, 21, 22, 10021, 10022] <| lp2 (fun (y : Nat) (L : List (List Int)) => [(5, .int .i64 y), (3, .ro (.rows .i64 L))]) (fun _ _ => []) (fun y L => y ≤ x ∧ PrI t x y L) (fun y _ => x - y) 0 L0 ⟨Nat.zero_le _, h0⟩ (by repeat' first | refine And.intro ?_ ?_ | exact True.intro | (show (_ : Int) = (_ : Int); omega) | omega | exact rfl | (simp only [RO.len]; omega)) ?_
    rintro y L ⟨hy, hI⟩
    have hLl := hI.len
    refine And.intro (fun h2 => ?_) (fun h2 => ?_)
    · have h2 : (y : Int) < (x : Int) := h2
      have hin : inW t.length [((x : Int), (y : Int))] := fun q hq => by rw [List.mem_singleton] at hq; subst hq; exact ⟨⟨by omega, h1⟩, by omega, by show (y : Int) < (t.length : Int); omega⟩
      refine Or.inl (cq (rgnr_fn t [((x : Int), (y : Int))] 0 hs hin) (And.intro rfl (And.intro rfl (And.intro rfl trivial))) ?_)
      refine Or.inl (cq (insRow_fn L (prnG t x y) (by omega) hI.srt) (And.intro rfl (And.intro rfl trivial)) ?_)
      refine And.intro (by omega) ?_
      exact nx (y + 1, insC cmpL L (prnG t x y)) ⟨by omega, hI.next (by omega)⟩ (show x - (y + 1) < x - y by omega) (by repeat' first | refine And.intro ?_ ?_ | exact True.intro | (show (_ : Int) = (_ : Int); omega) | omega | exact rfl | (simp only [RO.len]; omega))
    · have h2 : (x : Int) ≤ (y : Int) := h2
      refine And.intro (by omega) ?_
      exact nx (x + 1, L) ⟨by omega, hI.row (by omega) (by omega)⟩ (show t.length - (x + 1) < t.length - x by omega) (by repeat' first | refine And.intro ?_ ?_ | exact True.intro | (show (_ : Int) = (_ : Int); omega) | omega | exact rfl | (simp only [RO.len]; omega))
  · have h1 : (t.length : Int) ≤ (x : Int) := h1
    refine And.intro ?_ trivial
    exact congrArg (RO.rows .i64) (h0.done (by omega))
noncomputable def mcB (l : List (List Int)) (p : List Int) : Bool := l.all fun q => decide (p = q) || !rfB q p
noncomputable def mcL (l : List (List Int)) : List (List Int) := l.filter (mcB l)
theorem mcB_true {l : List (List Int)} {p : List Int} : mcB l p = true ↔ ∀ q ∈ l, rfB q p = true → p = q := by
  unfold mcB
  rw [List.all_eq_true]
  refine forall_congr' fun q => forall_congr' fun _ => ?_
  rw [Bool.or_eq_true, decide_eq_true_iff, Bool.not_eq_true']
  cases rfB q p <;> simp
theorem prnG_is {t : List (List Int)} (h : Semi t) (x y : Nat) : IsCg t (prnG t x y) 0 := genP_is h (by decide)
theorem prnG_eq {t : List (List Int)} {x y : Nat} (hx : x < t.length) (hy : y < t.length) : (prnG t x y).getD x 0 = (prnG t x y).getD y 0 :=
  (genP_iff hx hy).2 (.rel (List.mem_singleton.2 rfl))
theorem prnG_sub {t : List (List Int)} {x y : Nat} {q : List Int} (hq : IsCg t q 0) (e : q.getD x 0 = q.getD y 0) : Sub t.length (prnG t x y) q := fun a b ha hb h => by
  refine Cgr.sub (fun c d hcd => ?_) hq.cg ((genP_iff ha hb).1 h)
  have := List.mem_singleton.1 hcd
  injection this with h1 h2
  have h1 : c = x := by omega
  have h2 : d = y := by omega
  rw [h1, h2]; exact e
theorem rf_sub2 {p q : List Int} {n : Nat} (hp : p.length = n) : rfB p q = true ↔ Sub n p q := by
  rw [rfB_true, ← hp]; exact Iff.rfl
theorem Joins.gen {t : List (List Int)} {q : List Int} (hj : Joins t.length q) : ∃ x y, y < x ∧ x < t.length ∧ q.getD x 0 = q.getD y 0 := by
  obtain ⟨a, b, ha, hb, hne, e⟩ := hj
  by_cases h : b < a
  · exact ⟨a, b, h, ha, e⟩
  · exact ⟨b, a, by omega, hb, e.symm⟩
theorem mc_min {t : List (List Int)} (h : Semi t) (p : List Int) : p ∈ mcL (prnL t) ↔ MinC t p := by
  unfold mcL
  rw [List.mem_filter, mcB_true]
  constructor
  · rintro ⟨hp, hm⟩
    obtain ⟨x, y, hy, hx, rfl⟩ := mem_prnL.1 hp
    refine ⟨prnG_is h x y, ⟨x, y, hx, by omega, by omega, prnG_eq hx (by omega)⟩, fun q hq hj hs => ?_⟩
    obtain ⟨a, b, hb, ha, e⟩ := hj.gen
    have h1 := prnG_sub (x := a) (y := b) hq e
    have h2 := hm (prnG t a b) (mem_prnL.2 ⟨a, b, hb, ha, rfl⟩) ((rf_sub2 (prnG_is h a b).len).2 fun c d hc hd e2 => hs c d hc hd (h1 c d hc hd e2))
    rw [h2]; exact h1
  · intro hm
    obtain ⟨a, b, hb, ha, e⟩ := hm.jo.gen
    have h1 := prnG_sub (x := a) (y := b) hm.cg e
    have hj : Joins t.length (prnG t a b) := ⟨a, b, ha, by omega, by omega, prnG_eq ha (by omega)⟩
    have h2 := sub_eq hm.cg.len (prnG_is h a b).len hm.cg.val.2 (prnG_is h a b).val.2 (hm.mi _ (prnG_is h a b) hj h1) h1
    refine ⟨mem_prnL.2 ⟨a, b, hb, ha, h2⟩, fun q hq hr => ?_⟩
    obtain ⟨c, d, hd, hc, rfl⟩ := mem_prnL.1 hq
    have h3 := (rf_sub2 (prnG_is h c d).len).1 hr
    exact sub_eq hm.cg.len (prnG_is h c d).len hm.cg.val.2 (prnG_is h c d).val.2 (hm.mi _ (prnG_is h c d) ⟨c, d, hc, by omega, by omega, prnG_eq hc (by omega)⟩ h3) h3
theorem mc_mins {t : List (List Int)} (h : Semi t) : minsL t = mcL (prnL t) := mins_of ((prnL_srt t).filter _) (mc_min h)
theorem mins_mem {t : List (List Int)} (h : Semi t) (p : List Int) : p ∈ minsL t ↔ MinC t p := by rw [mc_mins h]; exact mc_min h p
theorem prnL_len {t : List (List Int)} : (prnL t).length ≤ t.length * t.length := by
  unfold prnL
  rw [srt_len]
  refine Nat.le_trans (firsts_le _) ?_
  rw [List.length_flatMap]
  have : ∀ n, ((List.range n).map fun x => ((List.range x).map fun y => prnG t x y).length).sum ≤ n * t.length ∨ t.length < n := fun n => by
    induction n with
    | zero => exact .inl (by simp)
    | succ n ih =>
      by_cases hn : t.length < n + 1
      · exact .inr hn
      · refine .inl ?_
        rcases ih with ih | ih
        · rw [List.range_succ, List.map_append, List.sum_append, Nat.succ_mul]
          simp only [List.map_cons, List.map_nil, List.sum_cons, List.sum_nil, List.length_map, List.length_range]
          simp only [List.length_map, List.length_range] at ih
          omega
        · omega
  rcases this t.length with h | h
  · exact h
  · omega
set_option maxHeartbeats 1000000 in
theorem rmin_fn (t : List (List Int)) (hs : Semi t) (ht : t.length ≤ 60) : QF 41 [.ro (.rows .i64 t)] (.ro (.rows .i64 (minsL t))) := mkQ Try.func41 (by decide +kernel) rfl (Nat.le_of_ble_eq_true rfl) fun _ => by
  have hl : ∀ p ∈ prnL t, p.length = t.length := fun p hp => by
    obtain ⟨x, y, _, _, rfl⟩ := mem_prnL.1 hp
    exact genP_len
  have hpl : (prnL t).length ≤ 3600 := Nat.le_trans prnL_len (Nat.mul_le_mul ht ht)
  refine Or.inl (cq (rprn_fn t hs.toSh ht) (And.intro rfl trivial) ?_)
  refine Exists.intro [] <| lp2 (fun (i : Nat) (_ : List (List Int)) => [(14, .int .i64 i), (3, .vec 41)]) (fun _ O => [(41, .vec 0 (.rows .i64 O) [])]) (fun i O => i ≤ (prnL t).length ∧ O = ((prnL t).take i).filter (mcB (prnL t))) (fun i _ => (prnL t).length - i) 0 [] ⟨Nat.zero_le _, rfl⟩ (by repeat' first | refine And.intro ?_ ?_ | exact True.intro | (show (_ : Int) = (_ : Int); omega) | omega | exact rfl | (simp only [RO.len]; omega)) ?_
  rintro i O ⟨hi, hO⟩
  have hOl : O.length ≤ i := by rw [hO]; refine Nat.le_trans (List.length_filter_le _ _) ?_; rw [List.length_take]; omega
  refine And.intro (fun h1 => ?_) (fun h1 => ?_)
  · have h1 : (i : Int) < ((prnL t).length : Int) := h1
    have hil : i < (prnL t).length := by omega
    have hpi := hl _ (getD_mem (d := []) hil)
    have hst : ((prnL t).take (i + 1)).filter (mcB (prnL t)) = O ++ (if mcB (prnL t) ((prnL t).getD i []) then [(prnL t).getD i []] else []) := by
      rw [hO, List.take_succ_eq_append_getElem hil, List.filter_append, getD_eq hil]
      cases h : mcB (prnL t) (prnL t)[i] <;> simp [h]
    refine And.intro (by omega) ?_
    refine Exists.intro [] <| lp2 (fun (j : Nat) (b : Bool) => [(20, .int .i64 j), (7, .bool (.v b))]) (fun _ _ => []) (fun j b => j ≤ (prnL t).length ∧ b = ((prnL t).take j).all fun q => decide ((prnL t).getD i [] = q) || !rfB q ((prnL t).getD i [])) (fun j _ => (prnL t).length - j) 0 true ⟨Nat.zero_le _, rfl⟩ (by repeat' first | refine And.intro ?_ ?_ | exact True.intro | (show (_ : Int) = (_ : Int); omega) | omega | exact rfl | (simp only [RO.len]; omega)) ?_
    rintro j b ⟨hj, hb⟩
    refine And.intro (fun h2 => ?_) (fun h2 => ?_)
    · have h2 : (j : Int) < ((prnL t).length : Int) := h2
      have hjl : j < (prnL t).length := by omega
      have hpj := hl _ (getD_mem (d := []) hjl)
      have hsb : (((prnL t).take (j + 1)).all fun q => decide ((prnL t).getD i [] = q) || !rfB q ((prnL t).getD i [])) = (b && (decide ((prnL t).getD i [] = (prnL t).getD j []) || !rfB ((prnL t).getD j []) ((prnL t).getD i []))) := by
        rw [hb, List.take_succ_eq_append_getElem hjl, List.all_append, getD_eq hjl]; simp
      refine And.intro (by omega) ?_
      refine And.intro (fun h3 => ?_) (fun h3 => ?_)
      · have h3 : b = true := h3
        refine Or.inl (cq (same_fn ((prnL t).getD i []) ((prnL t).getD j [])) (And.intro rfl (And.intro rfl trivial)) ?_)
        refine And.intro (fun h4 => ?_) (fun h4 => ?_)
        · have h4 : decide ((prnL t).getD i [] = (prnL t).getD j []) = true := h4
          refine And.intro (by omega) ?_
          exact nx (j + 1, true) ⟨by omega, by rw [hsb, h3, h4]; rfl⟩ (show (prnL t).length - (j + 1) < (prnL t).length - j by omega) (by repeat' first | refine And.intro ?_ ?_ | exact True.intro | (show (_ : Int) = (_ : Int); omega) | omega | exact rfl | (simp only [RO.len]; omega))
        · have h4 : decide ((prnL t).getD i [] = (prnL t).getD j []) = false := h4
          refine Or.inl (cq (rrefn_fn ((prnL t).getD j []) ((prnL t).getD i []) (by omega)) (And.intro rfl (And.intro rfl trivial)) ?_)
          refine And.intro (by omega) ?_
          exact nx (j + 1, !rfB ((prnL t).getD j []) ((prnL t).getD i [])) ⟨by omega, by rw [hsb, h3, h4]; rfl⟩ (show (prnL t).length - (j + 1) < (prnL t).length - j by omega) (by repeat' first | refine And.intro ?_ ?_ | exact True.intro | (show (_ : Int) = (_ : Int); omega) | omega | exact rfl | (simp only [RO.len]; omega))
      · have h3 : b = false := h3
        refine And.intro (by omega) ?_
        exact nx (j + 1, false) ⟨by omega, by rw [hsb, h3]; rfl⟩ (show (prnL t).length - (j + 1) < (prnL t).length - j by omega) (by repeat' first | refine And.intro ?_ ?_ | exact True.intro | (show (_ : Int) = (_ : Int); omega) | omega | exact rfl | (simp only [RO.len]; omega))
    · have h2 : ((prnL t).length : Int) ≤ (j : Int) := h2
      have eb : b = mcB (prnL t) ((prnL t).getD i []) := by rw [hb, List.take_of_length_le (by omega)]; rfl
      refine And.intro (fun h3 => ?_) (fun h3 => ?_)
      · have h3 : b = true := h3
        have hOa : (O ++ [(prnL t).getD (i : Int).toNat []]).length = O.length + 1 := by simp
        refine And.intro (by omega) ?_
        refine And.intro (by omega) ?_
        exact nx (i + 1, O ++ [(prnL t).getD i []]) ⟨by omega, by rw [hst, ← eb, h3]; rfl⟩ (show (prnL t).length - (i + 1) < (prnL t).length - i by omega) (by repeat' first | refine And.intro ?_ ?_ | exact True.intro | (show (_ : Int) = (_ : Int); omega) | omega | exact rfl | (simp only [RO.len]; omega))
      · have h3 : b = false := h3
        refine And.intro (by omega) ?_
        exact nx (i + 1, O) ⟨by omega, by rw [hst, ← eb, h3]; simp⟩ (show (prnL t).length - (i + 1) < (prnL t).length - i by omega) (by repeat' first | refine And.intro ?_ ?_ | exact True.intro | (show (_ : Int) = (_ : Int); omega) | omega | exact rfl | (simp only [RO.len]; omega))
  · have h1 : ((prnL t).length : Int) ≤ (i : Int) := h1
    refine And.intro ?_ trivial
    refine And.intro trivial ?_
    refine congrArg (RO.rows .i64) ?_
    rw [hO, List.take_of_length_le (by omega), mc_mins hs]; rfl
end Go.Proofs.Ytkbhgnbnnbengaa
end
section
/- The law's guards; the reference's Irreducible: contracts. -/
namespace Go.Proofs.Ytkbhgnbnnbengaa
open Go Go.AM
set_option maxRecDepth 100000
theorem large22_fn (t : List (List Int)) (m : Int) : QF 10 [.ro (.rows .i64 t), .int .i64 m] (.bool (.v (decide (m < t.length ∧ shapeV t = 0)))) := mkQ Try.func10 (by decide +kernel) rfl (Nat.le_of_ble_eq_true rfl) fun hf => by
  have _ht : t.length ≤ 140737488355328 := hf.1.1
  refine And.intro (fun h1 => ?_) (fun h1 => ?_)
  · refine Or.inl (cq (rshape_fn t) (And.intro rfl trivial) ?_)
    refine And.intro ?_ trivial
    show decide (shapeV t = 0) = decide (m < t.length ∧ shapeV t = 0)
    simp [h1]
  · refine And.intro ?_ trivial
    show false = decide (m < t.length ∧ shapeV t = 0)
    rw [decide_eq_false (fun h => by omega)]
theorem Irr.two {t : List (List Int)} (h : Irr t) : 2 ≤ t.length := by
  have hm := getD_mem (d := []) (l := minsL t) (i := 0) (by rw [h.2]; decide)
  obtain ⟨x, y, hx, hy, hne, _⟩ := ((mins_mem h.1 _).1 hm).jo
  omega
theorem rirr1_fn (t : List (List Int)) (h : Irr t) (ht : t.length ≤ 60) : QF 13 [.ro (.rows .i64 t)] (.tup [.ro (.ints .i64 ((minsL t).getD 0 [])), .bool (.lit true)]) := mkQ Try.func13 (by decide +kernel) rfl (Nat.le_of_ble_eq_true rfl) fun _ => by
  have h2 := h.two
  obtain ⟨hs, h1⟩ := h
  refine Or.inl (cq (rvalid_fn t) (And.intro rfl trivial) ?_)
  refine And.intro (fun h3 => ?_) (fun _ => ?_)
  · have h3 : (!decide (validV t = 0)) = true := h3
    rw [decide_eq_true (valid_zero.2 hs)] at h3; cases h3
  refine And.intro (fun h3 => ?_) (fun _ => ?_)
  · have h3 : (t.length : Int) < 2 := h3
    omega
  refine Or.inl (cq (rmin_fn t hs ht) (And.intro rfl trivial) ?_)
  refine And.intro (fun h3 => ?_) (fun _ => ?_)
  · have h3 : ¬ ((minsL t).length : Int) = 1 := h3
    omega
  refine And.intro (show 0 ≤ (0 : Int) ∧ (0 : Int) < ((minsL t).length : Int) by omega) ?_
  exact And.intro rfl (And.intro rfl trivial)
theorem rirr0_fn (t : List (List Int)) (h : ¬ Irr t) (ht : Semi t → t.length ≤ 60) : QF 13 [.ro (.rows .i64 t)] (.tup [.nils, .bool (.lit false)]) := mkQ Try.func13 (by decide +kernel) rfl (Nat.le_of_ble_eq_true rfl) fun _ => by
  refine Or.inl (cq (rvalid_fn t) (And.intro rfl trivial) ?_)
  refine And.intro (fun _ => ?_) (fun h3 => ?_)
  · exact And.intro trivial (And.intro rfl trivial)
  have h3 : (!decide (validV t = 0)) = false := h3
  have hs : Semi t := valid_zero.1 (by simpa using h3)
  refine And.intro (fun _ => ?_) (fun h4 => ?_)
  · exact And.intro trivial (And.intro rfl trivial)
  refine Or.inl (cq (rmin_fn t hs (ht hs)) (And.intro rfl trivial) ?_)
  refine And.intro (fun _ => ?_) (fun h3 => ?_)
  · exact And.intro trivial (And.intro rfl trivial)
  · have h3 : ((minsL t).length : Int) = 1 := h3
    exact absurd ⟨hs, by omega⟩ h
theorem large_no {t : List (List Int)} {m : Nat} (h : decide ((m : Int) < t.length ∧ shapeV t = 0) = false) (hs : Semi t) : t.length ≤ m := by
  have h := of_decide_eq_false h
  refine Classical.byContradiction fun h2 => h ⟨by omega, shape_zero.2 hs.toSh⟩
theorem sdIrr_fn (t : List (List Int)) : QF 3 [.ro (.rows .i64 t)] (.bool (.lit true)) := mkQ Try.func3 (by decide +kernel) rfl (Nat.le_of_ble_eq_true rfl) fun _ => by
  refine Or.inl (cq (large22_fn t 9) (And.intro rfl (And.intro rfl trivial)) ?_)
  refine And.intro (fun _ => ?_) (fun h1 => ?_)
  · refine Or.inl (cq awake22_fn trivial ?_)
    exact And.intro rfl trivial
  have hn : Semi t → t.length ≤ 60 := fun hs => Nat.le_trans (large_no (m := 9) h1 hs) (by decide)
  by_cases hI : Irr t
  · refine Or.inl (cq (sirr1_fn t hI (hn hI.1)) (And.intro rfl trivial) ?_)
    refine Or.inl (cq (rirr1_fn t hI (hn hI.1)) (And.intro rfl trivial) ?_)
    refine And.intro (fun _ => ?_) (fun h => absurd h (by decide))
    refine Or.inl (cq (same_fn ((minsL t).getD 0 []) ((minsL t).getD 0 [])) (And.intro rfl (And.intro rfl trivial)) ?_)
    refine And.intro (fun _ => ?_) (fun h => absurd h (by show ¬ decide _ = false; rw [decide_eq_true rfl]; decide))
    refine Or.inl (cq awake22_fn trivial ?_)
    exact And.intro rfl trivial
  · refine Or.inl (cq (sirr0_fn t hI hn) (And.intro rfl trivial) ?_)
    refine Or.inl (cq (rirr0_fn t hI hn) (And.intro rfl trivial) ?_)
    refine And.intro (fun _ => ?_) (fun h => absurd h (by decide))
    refine Or.inl (cq (same_fn [] []) (And.intro rfl (And.intro rfl trivial)) ?_)
    refine And.intro (fun _ => ?_) (fun h => absurd h (by decide))
    refine Or.inl (cq awake22_fn trivial ?_)
    exact And.intro rfl trivial
end Go.Proofs.Ytkbhgnbnnbengaa
end
section
/- From contracts to the given statements: how the arguments read, before and after. -/
namespace Go.Proofs.Ytkbhgnbnnbengaa
open Go Go.AM
open Go.ChangeShapes Go.WideShapes Go.ChangeAt Go.RowKit Go.Deep
def noM : Msk := fun _ _ => False
section
variable {H : Type} {enc : TypeId × Value → H} {P : Program} {w : World}
theorem wf_in {k : IntKind} {n : Int} (h : (Lit.int k n).wf = true) : inK k n := by
  simp only [Lit.wf, Bool.and_eq_true, decide_eq_true_eq] at h
  exact h
theorem weight_mem {e : TypeId} {d : DataW H} {x : Nat} : ∀ {l : List (DataW H)}, d ∈ l → x ∈ d.weights P e → x ∈ DataW.weightsAll P e l
  | [], h, _ => by cases h
  | c :: l, h, hx => by
    simp only [DataW.weightsAll, List.mem_append]
    rcases List.mem_cons.1 h with rfl | h
    · exact .inl hx
    · exact .inr (weight_mem h hx)
theorem rows_rep {t e q : TypeId} {n : Nat} {v : Value} {y : DataW H × List MemPlace} (ht : P.underlying t = some (.slice e)) (he : P.underlying e = some (.slice q)) (hq : P.underlying q = some (.int .i64)) (ce : P.cellsOf e = 1) (cq : P.cellsOf q = 1)
    (be : 1 ≤ P.bytesOf e) (bq : 1 ≤ P.bytesOf q) (h : DataW.trod enc P w 0 (fun _ => true) true n t [v] = some y) (hw : ∀ x ∈ y.1.weights P t, x ≤ reachBytes) : ∃ l, RepC noEnv w noM (.ro (.rows .i64 l)) v := by
  have hrb : reachBytes = 140737488351232 := rfl
  rcases open_int_rows ht he hq ce cq h with ⟨hv, _⟩ | ⟨a, len, cap, A, L, C, Z, hv, _, hl, hm, hy, hrows⟩
  · obtain rfl : v = .slice none 0 0 := by simpa using hv
    exact ⟨[], Nat.zero_le _, none, 0, rfl, Nat.le_refl _, .inl rfl⟩
  · obtain rfl : v = .slice (some a) len cap := by simpa using hv
    subst hy
    have hlen : len * P.bytesOf e ≤ reachBytes := by
      have := hw ((len + (cap - len)) * P.bytesOf e) (by simp [DataW.weights, ht])
      exact Nat.le_trans (Nat.mul_le_mul_right _ (by omega)) this
    have hlen1 : len ≤ reachBytes := Nat.le_trans (by have := Nat.mul_le_mul_left len be; omega) hlen
    have hL : ∀ r, r < len → L r ≤ reachBytes := fun r hr => by
      obtain ⟨_, h1, h2, h3, _, h4, _⟩ := hrows r (by omega)
      cases hA : A r with
      | none => have := h4 hA; omega
      | some a' =>
        have hx : (L r + ((Z r).length - L r)) * P.bytesOf q ≤ reachBytes := by
          refine hw _ ?_
          simp only [DataW.weights, ht, List.mem_cons, List.mem_append]
          refine .inr (.inl (weight_mem (d := intRow .i64 (A r) (L r) (Z r)) (List.mem_map.2 ⟨r, List.mem_range.2 hr, rfl⟩) ?_))
          rw [hA]
          simp [intRow, DataW.weights, he, lits]
          left
          rw [Nat.min_eq_left (by omega)]
        have h5 : L r * 1 ≤ (L r + ((Z r).length - L r)) * P.bytesOf q := Nat.mul_le_mul (by omega) bq
        omega
    refine ⟨(List.range len).map fun r => (Z r).take (L r), ?_⟩
    have hll : (RO.rows .i64 ((List.range len).map fun r => (Z r).take (L r))).len = len := by simp [RO.len]
    refine ⟨by rw [hll]; exact Nat.le_trans hlen1 (by rw [hrb]; decide), some a, cap, by rw [hll], by rw [hll]; exact hl, ?_⟩
    by_cases h0 : len = 0
    · exact .inl (by rw [RO.cells, hll, h0, Nat.zero_mul])
    have hcell0 := (hrows 0 (by omega)).1
    obtain ⟨b, off, spot⟩ := a
    have hspot : spot = none := by simpa [Addr.add] using World.cell?_spot hcell0
    subst hspot
    refine .inr ⟨b, off, rfl, fun r hr => ?_⟩
    have hr : r < len := by simpa [RO.cells, hll, RO.sz] using hr
    obtain ⟨h1, h2, h3, h4, h5, h6, h7⟩ := hrows r (by omega)
    refine ⟨.slice (A r) (L r) (C r), by rw [← add_plain]; exact h1, fun hh => hh, ?_⟩
    have hget : ((List.range len).map fun r => (Z r).take (L r)).getD r [] = (Z r).take (L r) := by simp [List.getD, hr]
    show SlI w noM .i64 (((List.range len).map fun r => (Z r).take (L r)).getD r []) _
    rw [hget]
    have hzl : ((Z r).take (L r)).length = L r := by rw [List.length_take]; omega
    refine ⟨by rw [hzl]; have := hL r hr; simp only [LB]; omega, A r, C r, by rw [hzl], by rw [hzl]; exact h2, ?_⟩
    by_cases hl0 : L r = 0
    · exact .inl (by rw [hzl, hl0])
    cases hA : A r with
    | none => have := h6 hA; omega
    | some a' =>
      obtain ⟨h8, h9⟩ := h7 a' hA
      obtain ⟨b', off', spot'⟩ := a'
      have hspot : spot' = none := by simpa [Addr.add] using World.cell?_spot (h9 0 (by omega))
      subst hspot
      refine .inr ⟨b', off', rfl, fun c hc => ?_⟩
      rw [hzl] at hc
      have hg2 : ((Z r).take (L r)).getD c 0 = (Z r).getD c 0 := by simp [List.getD, hc]
      refine ⟨.int .i64 ((Z r).getD c 0), by rw [← add_plain]; exact h9 c (by omega), fun hh => hh, by rw [hg2], ?_⟩
      rw [hg2]
      refine wf_in (h5 _ ?_)
      have : c < (Z r).length := by omega
      simp [List.getD, this]
theorem stp_heap {W W' : World} (hs : Stp (fun _ _ => False) W W') {b : Nat} (hb : b < W.heap.size) : W'.heap[b]? = W.heap[b]? := by
  rcases hs.2 b hb with h | ⟨cs, cs', ty, h1, h2, h3, h4⟩ | ⟨_, _, _, _, _, _, h⟩
  · exact h
  · rw [h1, h2]
    have : cs' = cs := Array.ext_getElem? fun i => h4 i (by simp)
    rw [this]
  · exact h.elim
theorem stp_trod {t : TypeId} (hl : laidOutB P = true) (hr : P.readableRec t = true) (hrow : t < P.types.size) {W W' : World} {v : Value} {d : DataW H} {ps : List MemPlace}
    (h : DataW.Trod enc P W 0 (fun _ => true) true t v d ps) (hs : Stp (fun _ _ => False) W W') (hlt : ∀ x ∈ ps, x.block < W.heap.size) (sp : Nat → Bool) (hsp : ∀ x ∈ ps, sp x.block = true) :
    DataW.Trod enc P W' 0 sp true t v d ps :=
  WideElems.Trod_stays hl hr hrow h (fun x hx => by
    have hb := hlt x hx
    cases x with
    | cell b o => exact World.cell?_of_block (w := W) (stp_heap hs hb)
    | map b => exact stp_heap hs hb) hsp
theorem stp_kept {W W' : World} (hs : Stp (fun _ _ => False) W W') (may : MemPlace → Prop) : W.keptBut W' may := by
  refine ⟨hs.3.1.1, hs.3.1.2, fun i hi => ?_⟩
  rw [stp_heap hs hi]
  cases W.heap[i]? with
  | none => exact rfl
  | some o => cases o <;> first | exact ⟨rfl, rfl, rfl, fun _ _ => rfl⟩ | exact .inr ⟨rfl, rfl⟩ | exact rfl
theorem each_mem : ∀ {ts : List TypeId} {ds : List (DataW H)} {j : Nat} {t : TypeId} {d : DataW H} {x : Nat}, ts[j]? = some t → ds[j]? = some d → x ∈ d.weights P t → x ∈ DataW.weightsEach P ts ds
  | [], _, j, _, _, _, h, _, _ => by simp at h
  | _ :: _, [], j, _, _, _, _, h, _ => by simp at h
  | t :: ts, d :: ds, 0, t', d', x, h1, h2, hx => by
    simp at h1 h2
    subst h1; subst h2
    simp [DataW.weightsEach, hx]
  | t :: ts, d :: ds, j + 1, t', d', x, h1, h2, hx => by
    have := each_mem (ts := ts) (ds := ds) (j := j) (by simpa using h1) (by simpa using h2) hx
    simp [DataW.weightsEach, this]
theorem rows_arg {t e q : TypeId} {r : Reach} {b0 : Nat} {v : Value} {d : DataW H} {p : List MemPlace} (ht : P.underlying t = some (.slice e)) (he : P.underlying e = some (.slice q)) (hq : P.underlying q = some (.int .i64)) (ce : P.cellsOf e = 1) (cq : P.cellsOf q = 1)
    (be : 1 ≤ P.bytesOf e) (bq : 1 ≤ P.bytesOf q) (hv : Value.okWide P w r b0 t v) (h : DataW.Trod enc P w 0 (fun _ => true) true t v d p) (hw : ∀ x ∈ d.weights P t, x ≤ reachBytes) : ∃ l, RepT noEnv w noM (.ro (.rows .i64 l)) v := by
  obtain ⟨a, len, cap, rfl⟩ := okWide_slice ht hv
  obtain ⟨fuel, hf⟩ := h
  exact rows_rep ht he hq ce cq be bq (y := (d, p)) hf hw
end
end Go.Proofs.Ytkbhgnbnnbengaa
end
