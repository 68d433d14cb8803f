import Derived.Test.YtkbhgnbnnbengaaRefn
import Derived.Test.YtkbhgnbnnbengaaMinsLaw
import Derived.Test.YtkbhgnbnnbengaaSort
section
/- The reference's minimal congruences: contracts. -/
namespace Go.Proofs.Ytkbhgnbnnbengaa
open Go Go.AM
set_option maxRecDepth 100000
theorem insRow_fn (l : List (List Int)) (x : List Int) (hl : l.length ≤ 100000) (hs0 : Srt cmpL l) : QF 96 [.ro (.rows .i64 l), .ro (.ints .i64 x)] (.ro (.rows .i64 (insC cmpL l x))) := mkQ Try.func96 (by decide +kernel) rfl (Nat.le_of_ble_eq_true rfl) fun _ => by
  refine Exists.intro [] <| lp (X := Nat) (fun i => [(5, .int .i64 i)]) (fun _ => []) (fun i => i ≤ l.length ∧ ∀ j, i ≤ j → j < l.length → cmpL x (l.getD j []) < 0) (fun i => i) l.length (by simp; omega) (by repeat' first | refine And.intro ?_ ?_ | exact True.intro | (show (_ : Int) = (_ : Int); omega) | omega | exact rfl | (simp only [RO.len]; omega)) ?_
  rintro i ⟨hi, hs⟩
  have e0 : ((i : Int) - 1).toNat = i - 1 := by omega
  refine And.intro (fun h1 => ?_) (fun h1 => ?_)
  · refine And.intro (by omega) ?_
    refine And.intro (by omega) ?_
    refine Or.inl (cq (rLess_fn x (l.getD ((i : Int) - 1).toNat [])) (And.intro rfl (And.intro rfl trivial)) ?_)
    refine And.intro (fun h2 => ?_) (fun h2 => ?_)
    · have h2 : cmpL x (l.getD ((i : Int) - 1).toNat []) < 0 := of_decide_eq_true h2
      rw [e0] at h2
      refine And.intro (by omega) ?_
      refine nx (i - 1) ⟨by omega, fun j hj hjl => ?_⟩ (show i - 1 < i by omega) (by repeat' first | refine And.intro ?_ ?_ | exact True.intro | (show (_ : Int) = (_ : Int); omega) | omega | exact rfl | (simp only [RO.len]; omega))
      by_cases e : j = i - 1
      · rw [e]; exact h2
      · exact hs j (by omega) hjl
    · have h2 : ¬ cmpL x (l.getD ((i : Int) - 1).toNat []) < 0 := of_decide_eq_false h2
      rw [e0] at h2
      refine And.intro (fun h3 => ?_) (fun h3 => by omega)
      refine And.intro (by omega) ?_
      refine And.intro (by omega) ?_
      refine Or.inl (cq (same_fn (l.getD ((i : Int) - 1).toNat []) x) (And.intro rfl (And.intro rfl trivial)) ?_)
      refine And.intro (fun h4 => ?_) (fun h4 => ?_)
      · have h4 : l.getD ((i : Int) - 1).toNat [] = x := of_decide_eq_true h4
        rw [e0] at h4
        refine And.intro ?_ trivial
        refine congrArg (RO.rows .i64) (insC_in ?_).symm
        rw [← h4]
        exact getD_mem (by omega)
      · have h4 : ¬ l.getD ((i : Int) - 1).toNat [] = x := of_decide_eq_false h4
        rw [e0] at h4
        have hlt : cmpL (l.getD (i - 1) []) x < 0 := by
          have := cmpL_tot.swap (l.getD (i - 1) []) x
          have := mt (cmpL_tot.eq (l.getD (i - 1) []) x) h4
          omega
        have fin := insC_at cmpL_tot (d := []) hs0 hi hs fun _ => hlt
        refine Or.inr (Exists.intro insSch (And.intro (by decide +kernel) ?_))
        refine And.intro (by omega) ?_
        refine And.intro (by omega) ?_
        repeat' first | exact trivial | refine And.intro ?_ ?_
        all_goals first | (simp; omega) | exact congrArg (RO.rows .i64) (by rw [← fin]; simp)
  · refine And.intro (fun h3 => by omega) (fun h3 => ?_)
    have fin := insC_at cmpL_tot (d := []) hs0 hi hs fun h => by omega
    refine Or.inr (Exists.intro insSch (And.intro (by decide +kernel) ?_))
    refine And.intro (by omega) ?_
    refine And.intro (by omega) ?_
    repeat' first | exact trivial | refine And.intro ?_ ?_
    all_goals first | (simp; omega) | exact congrArg (RO.rows .i64) (by rw [← fin]; simp)
set_option maxHeartbeats 1000000 in
theorem rrefn_fn (p q : List Int) (hl : p.length = q.length) : QF 79 [.ro (.ints .i64 p), .ro (.ints .i64 q)] (.bool (.v (rfB p q))) := mkQ Try.func79 (by decide +kernel) rfl (Nat.le_of_ble_eq_true rfl) fun hf => by
  have hpl : p.length ≤ 140737488355328 := hf.1.1
  refine Exists.intro [] <| lp (X := Nat) (fun i => [(9, .int .i64 i)]) (fun _ => []) (fun i => i ≤ p.length ∧ ∀ x, x < i → ∀ y, y < p.length → p.getD x 0 = p.getD y 0 → q.getD x 0 = q.getD y 0) (fun i => p.length - i) 0 ⟨Nat.zero_le _, fun j hj => absurd hj (Nat.not_lt_zero _)⟩ (by repeat' first | refine And.intro ?_ ?_ | exact True.intro | (show (_ : Int) = (_ : Int); omega) | omega | exact rfl | (simp only [RO.len]; omega)) ?_
  rintro i ⟨hi, hx⟩
  refine And.intro (fun h1 => ?_) (fun h1 => ?_)
  · have h1 : (i : Int) < (p.length : Int) := h1
    refine Exists.intro [] <| lp (X := Nat) (fun j => [(14, .int .i64 j)]) (fun _ => []) (fun j => j ≤ p.length ∧ ∀ y, y < j → p.getD i 0 = p.getD y 0 → q.getD i 0 = q.getD y 0) (fun j => p.length - j) 0 ⟨Nat.zero_le _, fun j hj => absurd hj (Nat.not_lt_zero _)⟩ (by repeat' first | refine And.intro ?_ ?_ | exact True.intro | (show (_ : Int) = (_ : Int); omega) | omega | exact rfl | (simp only [RO.len]; omega)) ?_
    rintro j ⟨hj, hy⟩
    refine And.intro (fun h2 => ?_) (fun h2 => ?_)
    · have h2 : (j : Int) < (p.length : Int) := h2
      refine Or.inl ?_
      refine Exists.intro (List.replicate 20 false) (And.intro (by decide +kernel) ?_)
      refine And.intro (by omega) ?_
      refine And.intro (by omega) ?_
      refine And.intro (fun h3 => ?_) (fun h3 => ?_)
      · have h3 : p.getD i 0 = p.getD j 0 := h3
        refine And.intro (show 0 ≤ (i : Int) ∧ (i : Int) < (q.length : Int) by omega) ?_
        refine And.intro (show 0 ≤ (j : Int) ∧ (j : Int) < (q.length : Int) by omega) ?_
        refine And.intro (fun h4 => ?_) (fun h4 => ?_)
        · have h4 : ¬ q.getD i 0 = q.getD j 0 := h4
          refine And.intro ?_ trivial
          exact (rfB_false.2 fun h => h4 (h i j (by omega) (by omega) h3)).symm
        · have h4 : q.getD i 0 = q.getD j 0 := h4
          refine And.intro (by omega) ?_
          refine nx (j + 1) ⟨by omega, fun y hyj e => ?_⟩ (show p.length - (j + 1) < p.length - j by omega) (by repeat' first | refine And.intro ?_ ?_ | exact True.intro | (show (_ : Int) = (_ : Int); omega) | omega | exact rfl | (simp only [RO.len]; omega))
          by_cases ey : y = j
          · subst ey; exact h4
          · exact hy y (by omega) e
      · have h3 : ¬ p.getD i 0 = p.getD j 0 := h3
        refine And.intro (by omega) ?_
        refine nx (j + 1) ⟨by omega, fun y hyj e => ?_⟩ (show p.length - (j + 1) < p.length - j by omega) (by repeat' first | refine And.intro ?_ ?_ | exact True.intro | (show (_ : Int) = (_ : Int); omega) | omega | exact rfl | (simp only [RO.len]; omega))
        by_cases ey : y = j
        · subst ey; exact absurd e h3
        · exact hy y (by omega) e
    · have h2 : (p.length : Int) ≤ (j : Int) := h2
      refine And.intro (by omega) ?_
      refine nx (i + 1) ⟨by omega, fun x hxi y hyp e => ?_⟩ (show p.length - (i + 1) < p.length - i by omega) (by repeat' first | refine And.intro ?_ ?_ | exact True.intro | (show (_ : Int) = (_ : Int); omega) | omega | exact rfl | (simp only [RO.len]; omega))
      by_cases ex : x = i
      · subst ex; exact hy y (by omega) e
      · exact hx x (by omega) y hyp e
  · have h1 : (p.length : Int) ≤ (i : Int) := h1
    refine And.intro ?_ trivial
    exact (rfB_true.2 fun x y hxp hyp e => hx x (by omega) y hyp e).symm
end Go.Proofs.Ytkbhgnbnnbengaa
end
section
/- The reference's principal and minimal congruences: contracts. -/
namespace Go.Proofs.Ytkbhgnbnnbengaa
open Go Go.AM
set_option maxRecDepth 100000
noncomputable def prnG (t : List (List Int)) (x y : Nat) : List Int := genP t 0 (relP [((x : Int), (y : Int))])
noncomputable def prnL (t : List (List Int)) : List (List Int) := srt cmpL (firsts ((List.range t.length).flatMap fun x => (List.range x).map fun y => prnG t x y))
theorem prnL_srt (t : List (List Int)) : Srt cmpL (prnL t) := srt_srt cmpL_tot (firsts_nodup _)
theorem mem_prnL {t : List (List Int)} {p : List Int} : p ∈ prnL t ↔ ∃ x y, y < x ∧ x < t.length ∧ p = prnG t x y := by
  unfold prnL
  rw [srt_mem, mem_firsts, List.mem_flatMap]
  constructor
  · rintro ⟨x, hx, h⟩
    obtain ⟨y, hy, rfl⟩ := List.mem_map.1 h
    exact ⟨x, y, List.mem_range.1 hy, List.mem_range.1 hx, rfl⟩
  · rintro ⟨x, y, h1, h2, rfl⟩
    exact ⟨x, List.mem_range.2 h2, List.mem_map.2 ⟨y, List.mem_range.2 h1, rfl⟩⟩
structure PrI (t : List (List Int)) (x y : Nat) (L : List (List Int)) : Prop where
  srt : Srt cmpL L
  mem : ∀ p, p ∈ L ↔ ∃ a b, b < a ∧ (a < x ∨ a = x ∧ b < y) ∧ p = prnG t a b
  len : L.length ≤ x * 60 + y
theorem PrI.start (t : List (List Int)) : PrI t 0 0 [] := ⟨List.Pairwise.nil, fun p => ⟨fun h => absurd h List.not_mem_nil, fun ⟨a, b, _, h, _⟩ => by omega⟩, Nat.le_refl _⟩
theorem PrI.next {t : List (List Int)} {x y : Nat} {L : List (List Int)} (h : PrI t x y L) (hy : y < x) : PrI t x (y + 1) (insC cmpL L (prnG t x y)) := by
  refine ⟨insC_srt cmpL_tot h.srt, fun p => ?_, ?_⟩
  · rw [insC_mem, h.mem]
    constructor
    · rintro (rfl | ⟨a, b, h1, h2, rfl⟩)
      · exact ⟨x, y, hy, by omega, rfl⟩
      · exact ⟨a, b, h1, by omega, rfl⟩
    · rintro ⟨a, b, h1, h2, rfl⟩
      by_cases e : a = x ∧ b = y
      · obtain ⟨rfl, rfl⟩ := e; exact .inl rfl
      · exact .inr ⟨a, b, h1, by omega, rfl⟩
  · have := insC_len (c := cmpL) L (prnG t x y)
    have := h.len
    omega
theorem PrI.row {t : List (List Int)} {x y : Nat} {L : List (List Int)} (h : PrI t x y L) (hy : x ≤ y) (hx : y ≤ 60) : PrI t (x + 1) 0 L :=
  ⟨h.srt, fun p => (h.mem p).trans ⟨fun ⟨a, b, h1, h2, h3⟩ => ⟨a, b, h1, by omega, h3⟩, fun ⟨a, b, h1, h2, h3⟩ => ⟨a, b, h1, by omega, h3⟩⟩, by have := h.len; omega⟩
theorem PrI.done {t : List (List Int)} {x : Nat} {L : List (List Int)} (h : PrI t x 0 L) (hx : x = t.length) : L = prnL t := by
  refine sorted_uniq cmpL_tot h.srt (prnL_srt t) fun p => ?_
  rw [h.mem, mem_prnL]
  exact ⟨fun ⟨a, b, h1, h2, h3⟩ => ⟨a, b, h1, by omega, h3⟩, fun ⟨a, b, h1, h2, h3⟩ => ⟨a, b, h1, by omega, h3⟩⟩
set_option maxHeartbeats 1000000 in
theorem rprn_fn (t : List (List Int)) (hs : Sh t) (ht : t.length ≤ 60) : QF 78 [.ro (.rows .i64 t)] (.ro (.rows .i64 (prnL t))) := mkQ Try.func78 (by decide +kernel) rfl (Nat.le_of_ble_eq_true rfl) fun _ => by
  refine Exists.intro [20, 21, 22, 10021, 10022] <| lp2 (fun (x : Nat) (L : List (List Int)) => [(8, .int .i64 x), (3, .ro (.rows .i64 L))]) (fun _ _ => []) (fun x L => x ≤ t.length ∧ PrI t x 0 L) (fun x _ => t.length - x) 0 [] ⟨Nat.zero_le _, .start t⟩ (by repeat' first | refine And.intro ?_ ?_ | exact True.intro | (show (_ : Int) = (_ : Int); omega) | omega | exact rfl | (simp only [RO.len]; omega)) ?_
  rintro x L0 ⟨hx, h0⟩
  refine And.intro (fun h1 => ?_) (fun h1 => ?_)
  · have h1 : (x : Int) < (t.length : Int) := h1
    refine Exists.intro [20, 21, 22, 10021, 10022] <| lp2 (fun (y : Nat) (L : List (List Int)) => [(5, .int .i64 y), (3, .ro (.rows .i64 L))]) (fun _ _ => []) (fun y L => y ≤ x ∧ PrI t x y L) (fun y _ => x - y) 0 L0 ⟨Nat.zero_le _, h0⟩ (by repeat' first | refine And.intro ?_ ?_ | exact True.intro | (show (_ : Int) = (_ : Int); omega) | omega | exact rfl | (simp only [RO.len]; omega)) ?_
    rintro y L ⟨hy, hI⟩
    have hLl := hI.len
    refine And.intro (fun h2 => ?_) (fun h2 => ?_)
    · have h2 : (y : Int) < (x : Int) := h2
      have hin : inW t.length [((x : Int), (y : Int))] := fun q hq => by rw [List.mem_singleton] at hq; subst hq; exact ⟨⟨by omega, h1⟩, by omega, by show (y : Int) < (t.length : Int); omega⟩
      refine Or.inl (cq (rgnr_fn t [((x : Int), (y : Int))] 0 hs hin) (And.intro rfl (And.intro rfl (And.intro rfl trivial))) ?_)
      refine Or.inl (cq (insRow_fn L (prnG t x y) (by omega) hI.srt) (And.intro rfl (And.intro rfl trivial)) ?_)
      refine And.intro (by omega) ?_
      exact nx (y + 1, insC cmpL L (prnG t x y)) ⟨by omega, hI.next (by omega)⟩ (show x - (y + 1) < x - y by omega) (by repeat' first | refine And.intro ?_ ?_ | exact True.intro | (show (_ : Int) = (_ : Int); omega) | omega | exact rfl | (simp only [RO.len]; omega))
    · have h2 : (x : Int) ≤ (y : Int) := h2
      refine And.intro (by omega) ?_
      exact nx (x + 1, L) ⟨by omega, hI.row (by omega) (by omega)⟩ (show t.length - (x + 1) < t.length - x by omega) (by repeat' first | refine And.intro ?_ ?_ | exact True.intro | (show (_ : Int) = (_ : Int); omega) | omega | exact rfl | (simp only [RO.len]; omega))
  · have h1 : (t.length : Int) ≤ (x : Int) := h1
    refine And.intro ?_ trivial
    exact congrArg (RO.rows .i64) (h0.done (by omega))
noncomputable def mcB (l : List (List Int)) (p : List Int) : Bool := l.all fun q => decide (p = q) || !rfB q p
noncomputable def mcL (l : List (List Int)) : List (List Int) := l.filter (mcB l)
theorem mcB_true {l : List (List Int)} {p : List Int} : mcB l p = true ↔ ∀ q ∈ l, rfB q p = true → p = q := by
  unfold mcB
  rw [List.all_eq_true]
  refine forall_congr' fun q => forall_congr' fun _ => ?_
  rw [Bool.or_eq_true, decide_eq_true_iff, Bool.not_eq_true']
  cases rfB q p <;> simp
theorem prnG_is {t : List (List Int)} (h : Semi t) (x y : Nat) : IsCg t (prnG t x y) 0 := genP_is h (by decide)
theorem prnG_eq {t : List (List Int)} {x y : Nat} (hx : x < t.length) (hy : y < t.length) : (prnG t x y).getD x 0 = (prnG t x y).getD y 0 :=
  (genP_iff hx hy).2 (.rel (List.mem_singleton.2 rfl))
theorem prnG_sub {t : List (List Int)} {x y : Nat} {q : List Int} (hq : IsCg t q 0) (e : q.getD x 0 = q.getD y 0) : Sub t.length (prnG t x y) q := fun a b ha hb h => by
  refine Cgr.sub (fun c d hcd => ?_) hq.cg ((genP_iff ha hb).1 h)
  have := List.mem_singleton.1 hcd
  injection this with h1 h2
  have h1 : c = x := by omega
  have h2 : d = y := by omega
  rw [h1, h2]; exact e
theorem rf_sub2 {p q : List Int} {n : Nat} (hp : p.length = n) : rfB p q = true ↔ Sub n p q := by
  rw [rfB_true, ← hp]; exact Iff.rfl
theorem Joins.gen {t : List (List Int)} {q : List Int} (hj : Joins t.length q) : ∃ x y, y < x ∧ x < t.length ∧ q.getD x 0 = q.getD y 0 := by
  obtain ⟨a, b, ha, hb, hne, e⟩ := hj
  by_cases h : b < a
  · exact ⟨a, b, h, ha, e⟩
  · exact ⟨b, a, by omega, hb, e.symm⟩
theorem mc_min {t : List (List Int)} (h : Semi t) (p : List Int) : p ∈ mcL (prnL t) ↔ MinC t p := by
  unfold mcL
  rw [List.mem_filter, mcB_true]
  constructor
  · rintro ⟨hp, hm⟩
    obtain ⟨x, y, hy, hx, rfl⟩ := mem_prnL.1 hp
    refine ⟨prnG_is h x y, ⟨x, y, hx, by omega, by omega, prnG_eq hx (by omega)⟩, fun q hq hj hs => ?_⟩
    obtain ⟨a, b, hb, ha, e⟩ := hj.gen
    have h1 := prnG_sub (x := a) (y := b) hq e
    have h2 := hm (prnG t a b) (mem_prnL.2 ⟨a, b, hb, ha, rfl⟩) ((rf_sub2 (prnG_is h a b).len).2 fun c d hc hd e2 => hs c d hc hd (h1 c d hc hd e2))
    rw [h2]; exact h1
  · intro hm
    obtain ⟨a, b, hb, ha, e⟩ := hm.jo.gen
    have h1 := prnG_sub (x := a) (y := b) hm.cg e
    have hj : Joins t.length (prnG t a b) := ⟨a, b, ha, by omega, by omega, prnG_eq ha (by omega)⟩
    have h2 := sub_eq hm.cg.len (prnG_is h a b).len hm.cg.val.2 (prnG_is h a b).val.2 (hm.mi _ (prnG_is h a b) hj h1) h1
    refine ⟨mem_prnL.2 ⟨a, b, hb, ha, h2⟩, fun q hq hr => ?_⟩
    obtain ⟨c, d, hd, hc, rfl⟩ := mem_prnL.1 hq
    have h3 := (rf_sub2 (prnG_is h c d).len).1 hr
    exact sub_eq hm.cg.len (prnG_is h c d).len hm.cg.val.2 (prnG_is h c d).val.2 (hm.mi _ (prnG_is h c d) ⟨c, d, hc, by omega, by omega, prnG_eq hc (by omega)⟩ h3) h3
theorem mc_mins {t : List (List Int)} (h : Semi t) : minsL t = mcL (prnL t) := mins_of ((prnL_srt t).filter _) (mc_min h)
theorem mins_mem {t : List (List Int)} (h : Semi t) (p : List Int) : p ∈ minsL t ↔ MinC t p := by rw [mc_mins h]; exact mc_min h p
theorem prnL_len {t : List (List Int)} : (prnL t).length ≤ t.length * t.length := by
  unfold prnL
  rw [srt_len]
  refine Nat.le_trans (firsts_le _) ?_
  rw [List.length_flatMap]
  have : ∀ n, ((List.range n).map fun x => ((List.range x).map fun y => prnG t x y).length).sum ≤ n * t.length ∨ t.length < n := fun n => by
    induction n with
    | zero => exact .inl (by simp)
    | succ n ih =>
      by_cases hn : t.length < n + 1
      · exact .inr hn
      · refine .inl ?_
        rcases ih with ih | ih
        · rw [List.range_succ, List.map_append, List.sum_append, Nat.succ_mul]
          simp only [List.map_cons, List.map_nil, List.sum_cons, List.sum_nil, List.length_map, List.length_range]
          simp only [List.length_map, List.length_range] at ih
          omega
        · omega
  rcases this t.length with h | h
  · exact h
  · omega
set_option maxHeartbeats 1000000 in
theorem rmin_fn (t : List (List Int)) (hs : Semi t) (ht : t.length ≤ 60) : QF 41 [.ro (.rows .i64 t)] (.ro (.rows .i64 (minsL t))) := mkQ Try.func41 (by decide +kernel) rfl (Nat.le_of_ble_eq_true rfl) fun _ => by
  have hl : ∀ p ∈ prnL t, p.length = t.length := fun p hp => by
    obtain ⟨x, y, _, _, rfl⟩ := mem_prnL.1 hp
    exact genP_len
  have hpl : (prnL t).length ≤ 3600 := Nat.le_trans prnL_len (Nat.mul_le_mul ht ht)
  refine Or.inl (cq (rprn_fn t hs.toSh ht) (And.intro rfl trivial) ?_)
  refine Exists.intro [] <| lp2 (fun (i : Nat) (_ : List (List Int)) => [(14, .int .i64 i), (3, .vec 41)]) (fun _ O => [(41, .vec 0 (.rows .i64 O) [])]) (fun i O => i ≤ (prnL t).length ∧ O = ((prnL t).take i).filter (mcB (prnL t))) (fun i _ => (prnL t).length - i) 0 [] ⟨Nat.zero_le _, rfl⟩ (by repeat' first | refine And.intro ?_ ?_ | exact True.intro | (show (_ : Int) = (_ : Int); omega) | omega | exact rfl | (simp only [RO.len]; omega)) ?_
  rintro i O ⟨hi, hO⟩
  have hOl : O.length ≤ i := by rw [hO]; refine Nat.le_trans (List.length_filter_le _ _) ?_; rw [List.length_take]; omega
  refine And.intro (fun h1 => ?_) (fun h1 => ?_)
  · have h1 : (i : Int) < ((prnL t).length : Int) := h1
    have hil : i < (prnL t).length := by omega
    have hpi := hl _ (getD_mem (d := []) hil)
    have hst : ((prnL t).take (i + 1)).filter (mcB (prnL t)) = O ++ (if mcB (prnL t) ((prnL t).getD i []) then [(prnL t).getD i []] else []) := by
      rw [hO, List.take_succ_eq_append_getElem hil, List.filter_append, getD_eq hil]
      cases h : mcB (prnL t) (prnL t)[i] <;> simp [h]
    refine And.intro (by omega) ?_
    refine Exists.intro [] <| lp2 (fun (j : Nat) (b : Bool) => [(20, .int .i64 j), (7, .bool (.v b))]) (fun _ _ => []) (fun j b => j ≤ (prnL t).length ∧ b = ((prnL t).take j).all fun q => decide ((prnL t).getD i [] = q) || !rfB q ((prnL t).getD i [])) (fun j _ => (prnL t).length - j) 0 true ⟨Nat.zero_le _, rfl⟩ (by repeat' first | refine And.intro ?_ ?_ | exact True.intro | (show (_ : Int) = (_ : Int); omega) | omega | exact rfl | (simp only [RO.len]; omega)) ?_
    rintro j b ⟨hj, hb⟩
    refine And.intro (fun h2 => ?_) (fun h2 => ?_)
    · have h2 : (j : Int) < ((prnL t).length : Int) := h2
      have hjl : j < (prnL t).length := by omega
      have hpj := hl _ (getD_mem (d := []) hjl)
      have hsb : (((prnL t).take (j + 1)).all fun q => decide ((prnL t).getD i [] = q) || !rfB q ((prnL t).getD i [])) = (b && (decide ((prnL t).getD i [] = (prnL t).getD j []) || !rfB ((prnL t).getD j []) ((prnL t).getD i []))) := by
        rw [hb, List.take_succ_eq_append_getElem hjl, List.all_append, getD_eq hjl]; simp
      refine And.intro (by omega) ?_
      refine And.intro (fun h3 => ?_) (fun h3 => ?_)
      · have h3 : b = true := h3
        refine Or.inl (cq (same_fn ((prnL t).getD i []) ((prnL t).getD j [])) (And.intro rfl (And.intro rfl trivial)) ?_)
        refine And.intro (fun h4 => ?_) (fun h4 => ?_)
        · have h4 : decide ((prnL t).getD i [] = (prnL t).getD j []) = true := h4
          refine And.intro (by omega) ?_
          exact nx (j + 1, true) ⟨by omega, by rw [hsb, h3, h4]; rfl⟩ (show (prnL t).length - (j + 1) < (prnL t).length - j by omega) (by repeat' first | refine And.intro ?_ ?_ | exact True.intro | (show (_ : Int) = (_ : Int); omega) | omega | exact rfl | (simp only [RO.len]; omega))
        · have h4 : decide ((prnL t).getD i [] = (prnL t).getD j []) = false := h4
          refine Or.inl (cq (rrefn_fn ((prnL t).getD j []) ((prnL t).getD i []) (by omega)) (And.intro rfl (And.intro rfl trivial)) ?_)
          refine And.intro (by omega) ?_
          exact nx (j + 1, !rfB ((prnL t).getD j []) ((prnL t).getD i [])) ⟨by omega, by rw [hsb, h3, h4]; rfl⟩ (show (prnL t).length - (j + 1) < (prnL t).length - j by omega) (by repeat' first | refine And.intro ?_ ?_ | exact True.intro | (show (_ : Int) = (_ : Int); omega) | omega | exact rfl | (simp only [RO.len]; omega))
      · have h3 : b = false := h3
        refine And.intro (by omega) ?_
        exact nx (j + 1, false) ⟨by omega, by rw [hsb, h3]; rfl⟩ (show (prnL t).length - (j + 1) < (prnL t).length - j by omega) (by repeat' first | refine And.intro ?_ ?_ | exact True.intro | (show (_ : Int) = (_ : Int); omega) | omega | exact rfl | (simp only [RO.len]; omega))
    · have h2 : ((prnL t).length : Int) ≤ (j : Int) := h2
      have eb : b = mcB (prnL t) ((prnL t).getD i []) := by rw [hb, List.take_of_length_le (by omega)]; rfl
      refine And.intro (fun h3 => ?_) (fun h3 => ?_)
      · have h3 : b = true := h3
        have hOa : (O ++ [(prnL t).getD (i : Int).toNat []]).length = O.length + 1 := by simp
        refine And.intro (by omega) ?_
        refine And.intro (by omega) ?_
        exact nx (i + 1, O ++ [(prnL t).getD i []]) ⟨by omega, by rw [hst, ← eb, h3]; rfl⟩ (show (prnL t).length - (i + 1) < (prnL t).length - i by omega) (by repeat' first | refine And.intro ?_ ?_ | exact True.intro | (show (_ : Int) = (_ : Int); omega) | omega | exact rfl | (simp only [RO.len]; omega))
      · have h3 : b = false := h3
        refine And.intro (by omega) ?_
        exact nx (i + 1, O) ⟨by omega, by rw [hst, ← eb, h3]; simp⟩ (show (prnL t).length - (i + 1) < (prnL t).length - i by omega) (by repeat' first | refine And.intro ?_ ?_ | exact True.intro | (show (_ : Int) = (_ : Int); omega) | omega | exact rfl | (simp only [RO.len]; omega))
  · have h1 : ((prnL t).length : Int) ≤ (i : Int) := h1
    refine And.intro ?_ trivial
    refine And.intro trivial ?_
    refine congrArg (RO.rows .i64) ?_
    rw [hO, List.take_of_length_le (by omega), mc_mins hs]; rfl
end Go.Proofs.Ytkbhgnbnnbengaa
end
section
/- The law's guards; the reference's Irreducible: contracts. -/
namespace Go.Proofs.Ytkbhgnbnnbengaa
open Go Go.AM
set_option maxRecDepth 100000
theorem large22_fn (t : List (List Int)) (m : Int) : QF 10 [.ro (.rows .i64 t), .int .i64 m] (.bool (.v (decide (m < t.length ∧ shapeV t = 0)))) := mkQ Try.func10 (by decide +kernel) rfl (Nat.le_of_ble_eq_true rfl) fun hf => by
  have _ht : t.length ≤ 140737488355328 := hf.1.1
  refine And.intro (fun h1 => ?_) (fun h1 => ?_)
  · refine Or.inl (cq (rshape_fn t) (And.intro rfl trivial) ?_)
    refine And.intro ?_ trivial
    show decide (shapeV t = 0) = decide (m < t.length ∧ shapeV t = 0)
    simp [h1]
  · refine And.intro ?_ trivial
    show false = decide (m < t.length ∧ shapeV t = 0)
    rw [decide_eq_false (fun h => by omega)]
theorem Irr.two {t : List (List Int)} (h : Irr t) : 2 ≤ t.length := by
  have hm := getD_mem (d := []) (l := minsL t) (i := 0) (by rw [h.2]; decide)
  obtain ⟨x, y, hx, hy, hne, _⟩ := ((mins_mem h.1 _).1 hm).jo
  omega
theorem rirr1_fn (t : List (List Int)) (h : Irr t) (ht : t.length ≤ 60) : QF 13 [.ro (.rows .i64 t)] (.tup [.ro (.ints .i64 ((minsL t).getD 0 [])), .bool (.lit true)]) := mkQ Try.func13 (by decide +kernel) rfl (Nat.le_of_ble_eq_true rfl) fun _ => by
  have h2 := h.two
  obtain ⟨hs, h1⟩ := h
  refine Or.inl (cq (rvalid_fn t) (And.intro rfl trivial) ?_)
  refine And.intro (fun h3 => ?_) (fun _ => ?_)
  · have h3 : (!decide (validV t = 0)) = true := h3
    rw [decide_eq_true (valid_zero.2 hs)] at h3; cases h3
  refine And.intro (fun h3 => ?_) (fun _ => ?_)
  · have h3 : (t.length : Int) < 2 := h3
    omega
  refine Or.inl (cq (rmin_fn t hs ht) (And.intro rfl trivial) ?_)
  refine And.intro (fun h3 => ?_) (fun _ => ?_)
  · have h3 : ¬ ((minsL t).length : Int) = 1 := h3
    omega
  refine And.intro (show 0 ≤ (0 : Int) ∧ (0 : Int) < ((minsL t).length : Int) by omega) ?_
  exact And.intro rfl (And.intro rfl trivial)
theorem rirr0_fn (t : List (List Int)) (h : ¬ Irr t) (ht : Semi t → t.length ≤ 60) : QF 13 [.ro (.rows .i64 t)] (.tup [.nils, .bool (.lit false)]) := mkQ Try.func13 (by decide +kernel) rfl (Nat.le_of_ble_eq_true rfl) fun _ => by
  refine Or.inl (cq (rvalid_fn t) (And.intro rfl trivial) ?_)
  refine And.intro (fun _ => ?_) (fun h3 => ?_)
  · exact And.intro trivial (And.intro rfl trivial)
  have h3 : (!decide (validV t = 0)) = false := h3
  have hs : Semi t := valid_zero.1 (by simpa using h3)
  refine And.intro (fun _ => ?_) (fun h4 => ?_)
  · exact And.intro trivial (And.intro rfl trivial)
  refine Or.inl (cq (rmin_fn t hs (ht hs)) (And.intro rfl trivial) ?_)
  refine And.intro (fun _ => ?_) (fun h3 => ?_)
  · exact And.intro trivial (And.intro rfl trivial)
  · have h3 : ((minsL t).length : Int) = 1 := h3
    exact absurd ⟨hs, by omega⟩ h
theorem large_no {t : List (List Int)} {m : Nat} (h : decide ((m : Int) < t.length ∧ shapeV t = 0) = false) (hs : Semi t) : t.length ≤ m := by
  have h := of_decide_eq_false h
  refine Classical.byContradiction fun h2 => h ⟨by omega, shape_zero.2 hs.toSh⟩
end Go.Proofs.Ytkbhgnbnnbengaa
end
section
/- Subdirect decompositions, in plain words: when a list holds nothing superfluous. -/
namespace Go.Proofs.Ytkbhgnbnnbengaa
open Go Go.AM
def Disc (n : Nat) (R : Nat → Nat → Prop) : Prop := ∀ x y, x < n → y < n → R x y → x = y
def kerP (p : List Int) (x y : Nat) : Prop := p.getD x 0 = p.getD y 0
theorem mtP_ker {n : Nat} {p q : List Int} (hp : Pt n p) (hq : Pt n q) {x y : Nat} (hx : x < n) (hy : y < n) : kerP (mtP p q) x y ↔ kerP p x y ∧ kerP q x y := by
  have hz : (p.zip q).length = n := by simp [hp.1, hq.1]
  have zg : ∀ i, i < n → (p.zip q).getD i (0, 0) = (p.getD i 0, q.getD i 0) := fun i hi => by
    have := hp.1
    have := hq.1
    rw [getD_eq (by omega), getD_eq (by omega), getD_eq (by omega)]; simp
  unfold kerP mtP
  rw [canon_eq_iff (d := (0, 0)) (by omega) (by omega), zg x hx, zg y hy]
  constructor
  · intro h
    injection h with h1 h2
    exact ⟨h1, h2⟩
  · rintro ⟨h1, h2⟩; rw [h1, h2]
theorem triv_ker (n x y : Nat) : kerP (List.replicate n 0) x y := by unfold kerP; rw [triv_get, triv_get]
theorem mtL_ker {n : Nat} (hn : n ≤ 4096) {x y : Nat} (hx : x < n) (hy : y < n) : ∀ {l : List (List Int)}, (∀ p ∈ l, Pt n p) → (kerP (mtL n l) x y ↔ ∀ p ∈ l, kerP p x y)
  | [], _ => ⟨fun _ _ h => absurd h List.not_mem_nil, fun _ => triv_ker n x y⟩
  | q :: l, h => by
    have ih := mtL_ker hn hx hy (l := l) fun p hp => h p (List.mem_cons_of_mem _ hp)
    have e := mtP_ker (h q (List.mem_cons_self ..)) (Pt.mtL hn fun p hp => h p (List.mem_cons_of_mem _ hp)) hx hy (q := mtL n l)
    show kerP (mtP q (mtL n l)) x y ↔ _
    rw [e, ih]
    exact ⟨fun ⟨h1, h2⟩ p hp => (List.mem_cons.1 hp).elim (fun e => e ▸ h1) (h2 p), fun h => ⟨h q (List.mem_cons_self ..), fun p hp => h p (List.mem_cons_of_mem _ hp)⟩⟩
theorem cls_disc {n : Nat} {p : List Int} (hp : Pt n p) : classN p = n ↔ Disc n (kerP p) := by
  constructor
  · intro hc a b ha hb e
    refine Classical.byContradiction fun hne => ?_
    have h1 := cnt_del (P := fun _ => true) (M := b) (n := n) hb rfl
    have h2 := nodup_sub (firsts_nodup p) (B := ((List.range n).filter fun i => true && decide (i ≠ b)).map fun i => p.getD i 0) fun x hx => by
      obtain ⟨j, hj, rfl⟩ := mem_getD 0 (mem_firsts.1 hx)
      have hj : j < n := by rw [← hp.1]; exact hj
      by_cases e1 : j = b
      · exact List.mem_map.2 ⟨a, List.mem_filter.2 ⟨List.mem_range.2 ha, by simp [hne]⟩, by rw [e1]; exact e⟩
      · exact List.mem_map.2 ⟨j, List.mem_filter.2 ⟨List.mem_range.2 hj, by simp [e1]⟩, rfl⟩
    rw [List.length_map] at h2
    have h3 : ((List.range n).filter fun _ => true).length = n := by rw [List.filter_eq_self.2 (fun _ _ => rfl), List.length_range]
    unfold classN at hc
    omega
  · intro h
    have hd : p.Nodup := List.nodup_iff_pairwise_ne.2 (List.pairwise_iff_getElem.2 fun i j hi hj hij e => by
      have := h i j (by rw [← hp.1]; exact hi) (by rw [← hp.1]; exact hj) (by unfold kerP; rw [getD_eq hi, getD_eq hj]; exact e)
      omega)
    have h1 := nodup_sub hd (B := firsts p) fun x hx => mem_firsts.2 hx
    have h2 : classN p ≤ p.length := firsts_le p
    have h3 := hp.1
    unfold classN at *
    omega
def rmt (n : Nat) (l : List (List Int)) (but : Int) : Nat → List Int
  | 0 => List.replicate n 0
  | k + 1 => if (k : Int) ≠ but then mtP (rmt n l but k) (l.getD k []) else rmt n l but k
theorem rmt_pt {n : Nat} {l : List (List Int)} {but : Int} (hn : n ≤ 4096) (hp : ∀ p ∈ l, Pt n p) : ∀ {k : Nat}, k ≤ l.length → Pt n (rmt n l but k)
  | 0, _ => Pt.triv hn
  | k + 1, h => by
    unfold rmt
    split
    · exact (rmt_pt hn hp (by omega)).mt (hp _ (getD_mem (d := []) (by omega)))
    · exact rmt_pt hn hp (by omega)
theorem rmt_ker {n : Nat} {l : List (List Int)} {but : Int} (hn : n ≤ 4096) (hp : ∀ p ∈ l, Pt n p) {x y : Nat} (hx : x < n) (hy : y < n) : ∀ {k : Nat}, k ≤ l.length → (kerP (rmt n l but k) x y ↔ ∀ j, j < k → (j : Int) ≠ but → kerP (l.getD j []) x y)
  | 0, _ => ⟨fun _ j h => absurd h (Nat.not_lt_zero _), fun _ => triv_ker n x y⟩
  | k + 1, h => by
    have ih := rmt_ker (but := but) hn hp hx hy (k := k) (by omega)
    unfold rmt
    split
    · rename_i hb
      rw [mtP_ker (rmt_pt hn hp (by omega)) (hp _ (getD_mem (d := []) (by omega))) hx hy, ih]
      refine ⟨fun ⟨h1, h2⟩ j hj hjb => ?_, fun h => ⟨fun j hj => h j (by omega), h k (by omega) hb⟩⟩
      by_cases e : j = k
      · subst e; exact h2
      · exact h1 j (by omega) hjb
    · rename_i hb
      rw [ih]
      refine ⟨fun h j hj hjb => ?_, fun h j hj => h j (by omega)⟩
      by_cases e : j = k
      · subst e; exact absurd hjb hb
      · exact h j (by omega) hjb
theorem redL_le (n : Nat) : ∀ (l : List (List Int)) (b : List Int), (redL n b l).length ≤ l.length
  | [], _ => Nat.le_refl _
  | p :: l, b => by
    unfold redL
    split
    · exact Nat.le_trans (redL_le n l b) (by simp)
    · simp only [List.length_cons]; exact Nat.succ_le_succ (redL_le n l _)
theorem redL_all (n : Nat) : ∀ (l : List (List Int)) (b : List Int), (redL n b l).length = l.length ↔ ∀ i, i < l.length → classN (mtP ((l.take i).foldl mtP b) (mtL n (l.drop (i + 1)))) ≠ n
  | [], _ => ⟨fun _ i h => absurd h (Nat.not_lt_zero _), fun _ => rfl⟩
  | p :: l, b => by
    unfold redL
    split
    · rename_i h
      constructor
      · intro e
        have := redL_le n l b
        simp only [List.length_cons] at e
        omega
      · intro e
        exact absurd h (e 0 (by simp))
    · rename_i h
      have ih := redL_all n l (mtP b p)
      simp only [List.length_cons]
      constructor
      · intro e i hi
        cases i with
        | zero => exact h
        | succ i => exact ih.1 (by omega) i (by omega)
      · intro e
        rw [ih.2 fun i hi => e (i + 1) (by omega)]
theorem fold_pt {n : Nat} : ∀ {l : List (List Int)} {b : List Int}, (∀ p ∈ l, Pt n p) → Pt n b → Pt n (l.foldl mtP b)
  | [], _, _, hb => hb
  | p :: l, b, h, hb => fold_pt (l := l) (b := mtP b p) (fun q hq => h q (List.mem_cons_of_mem _ hq)) (hb.mt (h p (List.mem_cons_self ..)))
theorem fold_ker {n : Nat} {x y : Nat} (hx : x < n) (hy : y < n) : ∀ {l : List (List Int)} {b : List Int}, (∀ p ∈ l, Pt n p) → Pt n b → (kerP (l.foldl mtP b) x y ↔ kerP b x y ∧ ∀ p ∈ l, kerP p x y)
  | [], _, _, _ => ⟨fun h => ⟨h, fun _ h => absurd h List.not_mem_nil⟩, fun h => h.1⟩
  | p :: l, b, h, hb => by
    have h1 := h p (List.mem_cons_self ..)
    have ih := fold_ker hx hy (l := l) (b := mtP b p) (fun q hq => h q (List.mem_cons_of_mem _ hq)) (hb.mt h1)
    rw [List.foldl_cons, ih, mtP_ker hb h1 hx hy]
    exact ⟨fun ⟨⟨h1, h2⟩, h3⟩ => ⟨h1, fun q hq => (List.mem_cons.1 hq).elim (fun e => e ▸ h2) (h3 q)⟩, fun ⟨h1, h2⟩ => ⟨⟨h1, h2 p (List.mem_cons_self ..)⟩, fun q hq => h2 q (List.mem_cons_of_mem _ hq)⟩⟩
theorem mem_but {l : List (List Int)} {i : Nat} (hi : i < l.length) {P : List Int → Prop} : ((∀ p ∈ l.take i, P p) ∧ ∀ p ∈ l.drop (i + 1), P p) ↔ ∀ j, j < l.length → (j : Int) ≠ (i : Int) → P (l.getD j []) := by
  constructor
  · rintro ⟨h1, h2⟩ j hj hne
    by_cases e : j < i
    · refine h1 _ ?_
      rw [getD_eq hj]
      exact List.mem_take_iff_getElem.2 ⟨j, by omega, rfl⟩
    · refine h2 _ ?_
      rw [getD_eq hj]
      exact List.mem_drop_iff_getElem.2 ⟨j - (i + 1), by omega, by congr 1; omega⟩
  · intro h
    refine ⟨fun p hp => ?_, fun p hp => ?_⟩
    · obtain ⟨j, hj, rfl⟩ := List.mem_take_iff_getElem.1 hp
      rw [← getD_eq (d := []) (by omega)]
      exact h j (by omega) (by omega)
    · obtain ⟨j, hj, rfl⟩ := List.mem_drop_iff_getElem.1 hp
      rw [← getD_eq (d := []) (by omega)]
      exact h _ (by omega) (by omega)
theorem red_iff {n : Nat} {l : List (List Int)} (hn : n ≤ 4096) (hp : ∀ p ∈ l, Pt n p) : (redL n (List.replicate n 0) l).length = l.length ↔ ∀ i, i < l.length → classN (rmt n l i l.length) ≠ n := by
  rw [redL_all]
  refine forall_congr' fun i => forall_congr' fun hi => not_congr ?_
  have ht : ∀ p ∈ l.take i, Pt n p := fun p h => hp p (List.mem_of_mem_take h)
  have hd : ∀ p ∈ l.drop (i + 1), Pt n p := fun p h => hp p (List.mem_of_mem_drop h)
  have hf := fold_pt ht (Pt.triv hn)
  rw [cls_disc (hf.mt (Pt.mtL hn hd)), cls_disc (rmt_pt hn hp (Nat.le_refl _))]
  refine forall_congr' fun x => forall_congr' fun y => forall_congr' fun hx => forall_congr' fun hy => ?_
  rw [mtP_ker hf (Pt.mtL hn hd) hx hy, fold_ker hx hy ht (Pt.triv hn), mtL_ker hn hx hy hd, rmt_ker hn hp hx hy (Nat.le_refl _), ← mem_but hi (P := fun p => kerP p x y)]
  exact ⟨fun h a => h ⟨⟨triv_ker n x y, a.1⟩, a.2⟩, fun h a => h ⟨a.1.2, a.2⟩⟩
theorem meet_iff {n : Nat} {l : List (List Int)} (hn : n ≤ 4096) (hp : ∀ p ∈ l, Pt n p) : classN (mtL n l) = n ↔ classN (rmt n l (-1) l.length) = n := by
  rw [cls_disc (Pt.mtL hn hp), cls_disc (rmt_pt hn hp (Nat.le_refl _))]
  refine forall_congr' fun x => forall_congr' fun y => forall_congr' fun hx => forall_congr' fun hy => ?_
  rw [mtL_ker hn hx hy hp, rmt_ker hn hp hx hy (Nat.le_refl _)]
  refine ⟨fun h a => h fun p hp => ?_, fun h a => h fun j hj _ => a _ (getD_mem (d := []) hj)⟩
  obtain ⟨j, hj, rfl⟩ := mem_getD [] hp
  exact a j hj (by omega)
theorem few_of {n : Nat} {l : List (List Int)} (h0 : 0 < n) (hn : n ≤ 4096) (hp : ∀ p ∈ l, Pt n p) (hm : classN (rmt n l (-1) l.length) = n) (hr : ∀ i, i < l.length → classN (rmt n l i l.length) ≠ n) : l.length < n := by
  have key : ∀ k, k ≤ l.length → k + 1 ≤ classN (rmt n l (-1) k) := fun k => by
    induction k with
    | zero =>
      intro _
      show 1 ≤ classN (List.replicate n (0 : Int))
      have : (0 : Int) ∈ firsts (List.replicate n (0 : Int)) := mem_firsts.2 (by simp; omega)
      exact List.length_pos_of_mem this
    | succ k ih =>
      intro hk
      have ih := ih (by omega)
      have hP := rmt_pt (but := -1) hn hp (k := k) (by omega)
      have hP2 := rmt_pt (but := -1) hn hp (k := k + 1) hk
      have hs := same_count hP.2.2 hP2.2.2 (by rw [hP.1, hP2.1]) fun x y hx hy e => by
        have hx : x < n := by rw [← hP.1]; exact hx
        have hy : y < n := by rw [← hP.1]; exact hy
        exact (rmt_ker hn hp hx hy (by omega)).2 fun j hj hb => (rmt_ker hn hp hx hy hk).1 e j (by omega) hb
      have hne : classN (rmt n l (-1) k) ≠ classN (rmt n l (-1) (k + 1)) := fun e => by
        have e2 := hs.2 e
        refine hr k (by omega) ((cls_disc (rmt_pt hn hp (Nat.le_refl _))).2 fun x y hx hy h => (cls_disc (rmt_pt hn hp (Nat.le_refl _))).1 hm x y hx hy ?_)
        have h := (rmt_ker hn hp hx hy (Nat.le_refl _)).1 h
        refine (rmt_ker hn hp hx hy (Nat.le_refl _)).2 fun j hj hb => ?_
        by_cases ej : j = k
        · subst ej
          have h3 : kerP (rmt n l (-1) j) x y := (rmt_ker hn hp hx hy (by omega)).2 fun i hi _ => h i (by omega) (by omega)
          rw [← e2] at h3
          exact (rmt_ker hn hp hx hy hk).1 h3 j (by omega) hb
        · exact h j hj (by omega)
      omega
  have := key l.length (Nat.le_refl _)
  omega
structure RChk (t : List (List Int)) (l : List (List Int)) : Prop where
  semi : Semi t
  cg : ∀ p ∈ l, IsCg t p 0
  irr : ∀ p ∈ l, Irr (quoL t p)
  meet : classN (rmt t.length l (-1) l.length) = t.length
  red : ∀ i, i < l.length → classN (rmt t.length l i l.length) ≠ t.length
theorem chk_iff {t l : List (List Int)} : Chk t l ↔ RChk t l := by
  constructor
  · intro h
    have hn := h.semi.most
    have hp : ∀ p ∈ l, Pt t.length p := fun p hp => (h.cg p hp).pt
    exact ⟨h.semi, h.cg, fun p hp => ⟨(h.cg p hp).quo, h.irr p hp⟩, (meet_iff (by omega) hp).1 h.meet, (red_iff (by omega) hp).1 h.red⟩
  · intro h
    have hn := h.semi.most
    have h0 := h.semi.pos
    have hp : ∀ p ∈ l, Pt t.length p := fun p hp => (h.cg p hp).pt
    exact ⟨h.semi, few_of h0 (by omega) hp h.meet h.red, h.cg, (meet_iff (by omega) hp).2 h.meet, (red_iff (by omega) hp).2 h.red, fun p hp => (h.irr p hp).2⟩
end Go.Proofs.Ytkbhgnbnnbengaa
end
