import Derived.Test.YtkbhgnbnnbengaaCgQuo
import Derived.Test.YtkbhgnbnnbengaaRefRees
section
/- Package subdirect: congruences, the number of classes, quotients: contracts. -/
namespace Go.Proofs.Ytkbhgnbnnbengaa
open Go Go.AM
set_option maxRecDepth 100000
set_option maxHeartbeats 2000000 in
theorem sdcg_fn (t : List (List Int)) (p : List Int) (hs : Semi t) : QF 42 [.ro (.rows .i64 t), .ro (.ints .i64 p)] (.bool (.v (cgB t p 0))) := mkQ Try.func42 (by decide +kernel) rfl (Nat.le_of_ble_eq_true rfl) fun _ => by
  have no : ¬ IsCg t p 0 → (BE.lit false).val = (BE.v (cgB t p 0)).val := fun h => (cgB_false.2 h).symm
  have hsh := hs.toSh
  have hmost := hs.most
  refine And.intro (fun h3 => ?_) (fun h3 => ?_)
  · refine And.intro (no fun h => by have := h.len; omega) trivial
  refine Or.inl (cq (pvalid_fn p) (And.intro rfl trivial) ?_)
  refine And.intro (fun h4 => ?_) (fun h4 => ?_)
  · refine And.intro (no fun h => ?_) trivial
    have h4 : (!decide (validP p)) = true := h4
    rw [decide_eq_true h.val] at h4; cases h4
  have hval : validP p := by simpa using h4
  have hlen : p.length = t.length := by omega
  have hok := (validP_iff.1 hval).2
  refine Exists.intro [] <| lp2 (fun (i : Nat) (f : List Int) => [(22, .int .i64 i), (5, .vec 34)]) (fun _ f => [(34, .vec 0 (.ints .i64 f) [])]) (fun i f => i ≤ p.length ∧ FstOk p i f ∧ ∀ x, x < i → ∀ s, s < t.length → CgA t p 0 x (f.getD (p.getD x 0).toNat 0).toNat s) (fun i _ => p.length - i) 0 [] ⟨Nat.zero_le _, ⟨rfl, fun c hc => absurd hc (Nat.not_lt_zero _)⟩, fun j hj => absurd hj (Nat.not_lt_zero _)⟩ (by repeat' first | refine And.intro ?_ ?_ | exact True.intro | (show (_ : Int) = (_ : Int); omega) | omega | exact rfl | (simp only [RO.len]; omega)) ?_
  rintro i f ⟨hi, hf, ha⟩
  refine And.intro (fun h1 => ?_) (fun h1 => ?_)
  · have hil : i < p.length := by omega
    have hit : i < t.length := by omega
    have hst := hok i hil
    have hfle : f.length ≤ i := by
      have := firsts_le (p.take i)
      rw [List.length_take] at this
      have := hf.1
      omega
    refine And.intro (by omega) ?_
    refine And.intro (fun h2 => ?_) (fun h2 => ?_)
    · have h2 : p.getD i 0 = (f.length : Int) := h2
      have hfl : (f ++ [(i : Int)]).length = f.length + 1 := by simp
      have hat : (f ++ [(i : Int)]).getD (p.getD i 0).toNat 0 = i := by
        rw [h2, Int.toNat_natCast]; simp [List.getD]
      have hn := FstOk.new hok hil hf h2
      refine And.intro (by omega) ?_
      refine And.intro (show 0 ≤ p.getD i 0 ∧ p.getD i 0 < ((f ++ [(i : Int)]).length : Int) by omega) ?_
      have hy : 0 ≤ (f ++ [(i : Int)]).getD (p.getD i 0).toNat 0 ∧ (f ++ [(i : Int)]).getD (p.getD i 0).toNat 0 < (t.length : Int) := by rw [hat]; omega
      have hpy : p.getD ((f ++ [(i : Int)]).getD (p.getD i 0).toNat 0).toNat 0 = p.getD i 0 := by rw [hat, Int.toNat_natCast]
      have hold : ∀ x, x < i → (f ++ [(i : Int)]).getD (p.getD x 0).toNat 0 = f.getD (p.getD x 0).toNat 0 := fun x hx => getD_appL (FstOk.old hok (by omega) hf hx)
      have hyN : ((f ++ [(i : Int)]).getD (p.getD i 0).toNat 0).toNat < t.length := by omega
      refine Exists.intro [] <| lp (X := Nat) (fun s => [(41, .int .i64 s)]) (fun _ => [(34, .vec 0 (.ints .i64 (f ++ [(i : Int)])) [])]) (fun s => s ≤ t.length ∧ ∀ s', s' < s → CgA t p 0 i ((f ++ [(i : Int)]).getD (p.getD i 0).toNat 0).toNat s') (fun s => t.length - s) 0 ⟨Nat.zero_le _, fun j hj => absurd hj (Nat.not_lt_zero _)⟩ (by repeat' first | refine And.intro ?_ ?_ | exact True.intro | (show (_ : Int) = (_ : Int); omega) | omega | exact rfl | (simp only [RO.len]; omega)) ?_
      rintro s ⟨hsn, hss⟩
      refine And.intro (fun h6 => ?_) (fun h6 => ?_)
      · have hsl : s < t.length := by omega
        have e1 := hsh.ent hsl hit
        have e2 := hsh.ent hsl hyN
        have e3 := hsh.ent hit hsl
        have e4 := hsh.ent hyN hsl
        have r1 := hsh.len hsl
        have r2 := hsh.len hit
        have r3 := hsh.len hyN
        have bad1 : p.getD (en t s i) 0 ≠ p.getD (en t s ((f ++ [(i : Int)]).getD (p.getD i 0).toNat 0).toNat) 0 → ¬ IsCg t p 0 := fun g2 h => g2 ((h.cg i _ s hit hyN hsl hpy.symm).1 (by decide))
        have bad2 : p.getD (en t i s) 0 ≠ p.getD (en t ((f ++ [(i : Int)]).getD (p.getD i 0).toNat 0).toNat s) 0 → ¬ IsCg t p 0 := fun g2 h => g2 ((h.cg i _ s hit hyN hsl hpy.symm).2 (by decide))
        refine Or.inl ?_
        refine Exists.intro (List.replicate 44 false) (And.intro (by decide +kernel) ?_)
        refine And.intro (by omega) ?_
        refine And.intro (show 0 ≤ (i : Int) ∧ (i : Int) < ((t.getD s []).length : Int) by omega) ?_
        refine And.intro (show 0 ≤ (t.getD s []).getD i 0 ∧ (t.getD s []).getD i 0 < (p.length : Int) by omega) ?_
        refine And.intro (by omega) ?_
        refine And.intro (show 0 ≤ (f ++ [(i : Int)]).getD (p.getD i 0).toNat 0 ∧ (f ++ [(i : Int)]).getD (p.getD i 0).toNat 0 < ((t.getD s []).length : Int) by omega) ?_
        refine And.intro (show 0 ≤ (t.getD s []).getD ((f ++ [(i : Int)]).getD (p.getD i 0).toNat 0).toNat 0 ∧ (t.getD s []).getD ((f ++ [(i : Int)]).getD (p.getD i 0).toNat 0).toNat 0 < (p.length : Int) by omega) ?_
        refine And.intro (fun h8 => ?_) (fun h8 => ?_)
        · refine And.intro (no (bad1 h8)) trivial
        refine And.intro (by omega) ?_
        refine And.intro (show 0 ≤ (s : Int) ∧ (s : Int) < ((t.getD i []).length : Int) by omega) ?_
        refine And.intro (show 0 ≤ (t.getD i []).getD s 0 ∧ (t.getD i []).getD s 0 < (p.length : Int) by omega) ?_
        refine And.intro hy ?_
        refine And.intro (show 0 ≤ (s : Int) ∧ (s : Int) < ((t.getD ((f ++ [(i : Int)]).getD (p.getD i 0).toNat 0).toNat []).length : Int) by omega) ?_
        refine And.intro (show 0 ≤ (t.getD ((f ++ [(i : Int)]).getD (p.getD i 0).toNat 0).toNat []).getD s 0 ∧ (t.getD ((f ++ [(i : Int)]).getD (p.getD i 0).toNat 0).toNat []).getD s 0 < (p.length : Int) by omega) ?_
        refine And.intro (fun h10 => ?_) (fun h10 => ?_)
        · refine And.intro (no (bad2 h10)) trivial
        refine And.intro (by omega) ?_
        refine nx (s + 1) ⟨by omega, fun s' hs' => ?_⟩ (show t.length - (s + 1) < t.length - s by omega) (by repeat' first | refine And.intro ?_ ?_ | exact True.intro | (show (_ : Int) = (_ : Int); omega) | omega | exact rfl | (simp only [RO.len]; omega))
        by_cases e : s' = s
        · subst e; exact ⟨fun _ => h8, fun _ => h10⟩
        · exact hss s' (by omega)
      · refine And.intro (by omega) ?_
        refine nx (i + 1, f ++ [(i : Int)]) ⟨by omega, hn, fun x hx s' hs' => ?_⟩ (show p.length - (i + 1) < p.length - i by omega) (by repeat' first | refine And.intro ?_ ?_ | exact True.intro | (show (_ : Int) = (_ : Int); omega) | omega | exact rfl | (simp only [RO.len]; omega))
        by_cases e : x = i
        · subst e; exact hss s' (by omega)
        · rw [hold x (by omega)]; exact ha x (by omega) s' hs'
    · have h2 : ¬ p.getD i 0 = (f.length : Int) := h2
      have hn := FstOk.same hok hil hf h2
      have hlt : (p.getD i 0).toNat < f.length := by have := hf.1; have := hst.1; have := hst.2; omega
      have h1y := hf.2 _ hlt
      refine And.intro (show 0 ≤ p.getD i 0 ∧ p.getD i 0 < (f.length : Int) by have := hst.1; omega) ?_
      have hy : 0 ≤ f.getD (p.getD i 0).toNat 0 ∧ f.getD (p.getD i 0).toNat 0 < (t.length : Int) := by omega
      have hpy : p.getD (f.getD (p.getD i 0).toNat 0).toNat 0 = p.getD i 0 := by have := hst.1; rw [h1y.2.2]; omega
      have hold : ∀ x, x < i → f.getD (p.getD x 0).toNat 0 = f.getD (p.getD x 0).toNat 0 := fun _ _ => rfl
      have hyN : (f.getD (p.getD i 0).toNat 0).toNat < t.length := by omega
      refine Exists.intro [] <| lp (X := Nat) (fun s => [(41, .int .i64 s)]) (fun _ => [(34, .vec 0 (.ints .i64 f) [])]) (fun s => s ≤ t.length ∧ ∀ s', s' < s → CgA t p 0 i (f.getD (p.getD i 0).toNat 0).toNat s') (fun s => t.length - s) 0 ⟨Nat.zero_le _, fun j hj => absurd hj (Nat.not_lt_zero _)⟩ (by repeat' first | refine And.intro ?_ ?_ | exact True.intro | (show (_ : Int) = (_ : Int); omega) | omega | exact rfl | (simp only [RO.len]; omega)) ?_
      rintro s ⟨hsn, hss⟩
      refine And.intro (fun h6 => ?_) (fun h6 => ?_)
      · have hsl : s < t.length := by omega
        have e1 := hsh.ent hsl hit
        have e2 := hsh.ent hsl hyN
        have e3 := hsh.ent hit hsl
        have e4 := hsh.ent hyN hsl
        have r1 := hsh.len hsl
        have r2 := hsh.len hit
        have r3 := hsh.len hyN
        have bad1 : p.getD (en t s i) 0 ≠ p.getD (en t s (f.getD (p.getD i 0).toNat 0).toNat) 0 → ¬ IsCg t p 0 := fun g2 h => g2 ((h.cg i _ s hit hyN hsl hpy.symm).1 (by decide))
        have bad2 : p.getD (en t i s) 0 ≠ p.getD (en t (f.getD (p.getD i 0).toNat 0).toNat s) 0 → ¬ IsCg t p 0 := fun g2 h => g2 ((h.cg i _ s hit hyN hsl hpy.symm).2 (by decide))
        refine Or.inl ?_
        refine Exists.intro (List.replicate 44 false) (And.intro (by decide +kernel) ?_)
        refine And.intro (by omega) ?_
        refine And.intro (show 0 ≤ (i : Int) ∧ (i : Int) < ((t.getD s []).length : Int) by omega) ?_
        refine And.intro (show 0 ≤ (t.getD s []).getD i 0 ∧ (t.getD s []).getD i 0 < (p.length : Int) by omega) ?_
        refine And.intro (by omega) ?_
        refine And.intro (show 0 ≤ f.getD (p.getD i 0).toNat 0 ∧ f.getD (p.getD i 0).toNat 0 < ((t.getD s []).length : Int) by omega) ?_
        refine And.intro (show 0 ≤ (t.getD s []).getD (f.getD (p.getD i 0).toNat 0).toNat 0 ∧ (t.getD s []).getD (f.getD (p.getD i 0).toNat 0).toNat 0 < (p.length : Int) by omega) ?_
        refine And.intro (fun h8 => ?_) (fun h8 => ?_)
        · refine And.intro (no (bad1 h8)) trivial
        refine And.intro (by omega) ?_
        refine And.intro (show 0 ≤ (s : Int) ∧ (s : Int) < ((t.getD i []).length : Int) by omega) ?_
        refine And.intro (show 0 ≤ (t.getD i []).getD s 0 ∧ (t.getD i []).getD s 0 < (p.length : Int) by omega) ?_
        refine And.intro hy ?_
        refine And.intro (show 0 ≤ (s : Int) ∧ (s : Int) < ((t.getD (f.getD (p.getD i 0).toNat 0).toNat []).length : Int) by omega) ?_
        refine And.intro (show 0 ≤ (t.getD (f.getD (p.getD i 0).toNat 0).toNat []).getD s 0 ∧ (t.getD (f.getD (p.getD i 0).toNat 0).toNat []).getD s 0 < (p.length : Int) by omega) ?_
        refine And.intro (fun h10 => ?_) (fun h10 => ?_)
        · refine And.intro (no (bad2 h10)) trivial
        refine And.intro (by omega) ?_
        refine nx (s + 1) ⟨by omega, fun s' hs' => ?_⟩ (show t.length - (s + 1) < t.length - s by omega) (by repeat' first | refine And.intro ?_ ?_ | exact True.intro | (show (_ : Int) = (_ : Int); omega) | omega | exact rfl | (simp only [RO.len]; omega))
        by_cases e : s' = s
        · subst e; exact ⟨fun _ => h8, fun _ => h10⟩
        · exact hss s' (by omega)
      · refine And.intro (by omega) ?_
        refine nx (i + 1, f) ⟨by omega, hn, fun x hx s' hs' => ?_⟩ (show p.length - (i + 1) < p.length - i by omega) (by repeat' first | refine And.intro ?_ ?_ | exact True.intro | (show (_ : Int) = (_ : Int); omega) | omega | exact rfl | (simp only [RO.len]; omega))
        by_cases e : x = i
        · subst e; exact hss s' (by omega)
        · rw [hold x (by omega)]; exact ha x (by omega) s' hs'
  · refine And.intro ?_ trivial
    have hip : i = p.length := by omega
    subst hip
    refine (cgB_true.2 ⟨hs, hlen, hval, ⟨by omega, by omega⟩, fun x y s hx hy hsl hxy => ?_⟩).symm
    have h1 := ha x (by omega) s hsl
    have h2 := ha y (by omega) s hsl
    rw [hxy] at h1
    exact h1.trans h2
theorem smax_fn (p : List Int) (hv : validP p) (h0 : 0 < p.length) : QF 80 [.ro (.ints .i64 p)] (.int .i64 ((classN p : Nat) - 1 : Int)) := mkQ Try.func80 (by decide +kernel) rfl (Nat.le_of_ble_eq_true rfl) fun _ => by
  have hst := (validP_iff.1 hv).2
  have hlen := hv.1
  have h1 : (firsts (p.take 1)).length = 1 ∧ p.getD 0 0 = 0 := by
    have a := hst 0 h0
    have b := firsts_next h0 (fun j hj => absurd hj (Nat.not_lt_zero _)) a
    have c : (firsts (p.take 0)).length = 0 := rfl
    have a1 := a.1
    have a2 := a.2
    rw [c] at a2 b
    have e : p.getD 0 0 = 0 := by omega
    split at b <;> exact ⟨by omega, e⟩
  refine And.intro (fun h2 => ?_) (fun _ => ?_)
  · have h2 : (p.length : Int) < 1 := h2
    omega
  refine And.intro (by omega) ?_
  refine Exists.intro [] <| lp2 (fun (i : Nat) (c : Int) => [(4, .int .i64 i), (3, .int .i64 c)]) (fun _ _ => []) (fun i c => 1 ≤ i ∧ i ≤ p.length ∧ c = ((firsts (p.take i)).length : Int) - 1) (fun i _ => p.length - i) 1 (p.getD 0 0) ⟨Nat.le_refl _, h0, by rw [h1.1, h1.2]; rfl⟩ (by repeat' first | refine And.intro ?_ ?_ | exact True.intro | (show (_ : Int) = (_ : Int); omega) | omega | exact rfl | (simp only [RO.len]; omega)) ?_
  rintro i c ⟨hi1, hi, hc⟩
  refine And.intro (fun h3 => ?_) (fun h3 => ?_)
  · have h3 : (i : Int) < (p.length : Int) := h3
    have hil : i < p.length := by omega
    have hs := hst i hil
    have hs1 : 0 ≤ p.getD i 0 := hs.1
    have hs2 : p.getD i 0 ≤ (firsts (p.take i)).length := hs.2
    have hfn := firsts_next hil (fun j hj => hst j (by omega)) hs
    refine And.intro (by omega) ?_
    refine And.intro (show -9223372036854775808 ≤ (i : Int) + 1 ∧ (i : Int) + 1 ≤ 9223372036854775807 by omega) ?_
    refine nx (i + 1, ((firsts (p.take (i + 1))).length : Int) - 1) ⟨by omega, by omega, rfl⟩ (show p.length - (i + 1) < p.length - i by omega) ?_
    have em : max c (p.getD i 0) = ((firsts (p.take (i + 1))).length : Int) - 1 := by
      rw [hfn, hc]
      split <;> omega
    repeat' first | refine And.intro ?_ ?_ | exact True.intro | exact em | exact rfl
  · have h3 : (p.length : Int) ≤ (i : Int) := h3
    refine And.intro ?_ trivial
    have : p.take i = p := List.take_of_length_le (by omega)
    show c = (classN p : Nat) - 1
    rw [hc, this]; rfl
theorem scnt_fn (p : List Int) (hv : validP p) : QF 43 [.ro (.ints .i64 p)] (.int .i64 (classN p : Nat)) := mkQ Try.func43 (by decide +kernel) rfl (Nat.le_of_ble_eq_true rfl) fun _ => by
  have hlen := hv.1
  have hcn : classN p ≤ p.length := firsts_le _
  refine And.intro (fun h1 => ?_) (fun h1 => ?_)
  · have h1 : (p.length : Int) = 0 := h1
    refine And.intro ?_ trivial
    show (0 : Int) = (classN p : Nat)
    omega
  · have h1 : ¬ (p.length : Int) = 0 := h1
    refine Or.inl (cq (smax_fn p hv (by omega)) (And.intro rfl trivial) ?_)
    refine And.intro (show -9223372036854775808 ≤ ((classN p : Nat) - 1 : Int) + 1 ∧ ((classN p : Nat) - 1 : Int) + 1 ≤ 9223372036854775807 by omega) ?_
    refine And.intro ?_ trivial
    show ((classN p : Nat) - 1 : Int) + 1 = (classN p : Nat)
    omega
set_option maxHeartbeats 1000000 in
theorem sdquo_fn (t : List (List Int)) (p : List Int) (h : IsCg t p 0) : QF 46 [.ro (.rows .i64 t), .ro (.ints .i64 p)] (.new (.rows .i64 (quoL t p))) := mkQ Try.func46 (by decide +kernel) rfl (Nat.le_of_ble_eq_true rfl) fun _ => by
  have hs := h.semi
  have hpl := h.len
  have hp := h.val
  have hg := h.cg
  have hmost := hs.most
  have hcn : classN p ≤ p.length := firsts_le _
  refine Or.inl (cq (scnt_fn p hp) (And.intro rfl trivial) ?_)
  refine And.intro (by omega) ?_
  refine And.intro (by omega) ?_
  refine Or.inr (Or.inr ?_)
  refine Exists.intro [25, 26, 27, 29, 30, 38, 41, 53, 10029] <| lp2 (fun (i : Nat) (_ : List (List Int)) => [(15, .int .i64 i)]) (fun _ q => [(12, .vec 0 (.nrows .i64 q) [])]) (fun i q => i ≤ p.length ∧ QuoIn t p i q) (fun i _ => p.length - i) 0 (List.replicate (classN p) []) ⟨Nat.zero_le _, QuoIn.start⟩ (by repeat' first | refine And.intro ?_ ?_ | exact True.intro | (show (_ : Int) = (_ : Int); omega) | omega | exact rfl | (simp only [RO.len]; omega)) ?_
  rintro i q ⟨hi, hq⟩
  refine And.intro (fun h1 => ?_) (fun h1 => ?_)
  · have hil : i < p.length := by omega
    have hr := cls_lt hp.2 hil
    have hql := hq.1
    refine And.intro (by omega) ?_
    refine And.intro (show 0 ≤ p.getD i 0 ∧ p.getD i 0 < (q.length : Int) by omega) ?_
    refine And.intro (fun h2 => ?_) (fun h2 => ?_)
    · refine And.intro (by omega) ?_
      refine And.intro (by omega) ?_
      refine And.intro (show 0 ≤ p.getD i 0 ∧ p.getD i 0 < (q.length : Int) by omega) ?_
      refine And.intro (show ((0 : Nat) : Int) ≤ p.getD i 0 by omega) ?_
      refine Exists.intro [25, 26, 27, 29, 30, 38, 41, 53] <| lp2 (fun (j : Nat) (_ : List Int) => [(33, .int .i64 j)]) (fun _ r => [(12, .vec 0 (.nrows .i64 q) [(p.getD i 0, 29)]), (29, .vec 0 (.ints .i64 r) [])]) (fun j r => j ≤ p.length ∧ RowIn t p i j r) (fun j _ => p.length - j) 0 (List.replicate q.length 0) ⟨Nat.zero_le _, by rw [hql]; exact RowIn.start⟩ (by repeat' first | refine And.intro ?_ ?_ | exact True.intro | (show (_ : Int) = (_ : Int); omega) | omega | exact rfl | (simp only [RO.len]; omega)) ?_
      rintro j r ⟨hj, hr2⟩
      refine And.intro (fun h3 => ?_) (fun h3 => ?_)
      · have hjl : j < p.length := by omega
        have hrl := hr2.1
        have hc := cls_lt hp.2 hjl
        have e1 := hs.toSh.ent (x := i) (y := j) (by omega) (by omega)
        have r1 := hs.toSh.len (x := i) (by omega)
        have hnext := hr2.next hs.toSh hpl hp.2 hg (by omega) hjl
        rw [← Int.toNat_natCast (en t i j), ← e1.1] at hnext
        refine And.intro (by omega) ?_
        refine Or.inl ?_
        refine Exists.intro [false, false, false, false, false, false, false, false, false, false, false, false, false, false, false, false, true] (And.intro (by decide +kernel) ?_)
        refine And.intro (by simp only [Int.toNat_natCast]; omega) ?_
        refine And.intro (fun _ => ?_) (fun h4 => absurd rfl h4)
        refine And.intro (by omega) ?_
        refine And.intro (show 0 ≤ (j : Int) ∧ (j : Int) < ((t.getD i []).length : Int) by omega) ?_
        refine And.intro (show 0 ≤ (t.getD i []).getD j 0 ∧ (t.getD i []).getD j 0 < (p.length : Int) by omega) ?_
        refine And.intro (show 0 ≤ p.getD j 0 ∧ p.getD j 0 < (r.length : Int) by omega) ?_
        refine And.intro (show ((0 : Nat) : Int) ≤ p.getD j 0 by omega) ?_
        refine And.intro (by omega) ?_
        exact nx (j + 1, r.set (p.getD j 0).toNat (p.getD ((t.getD i []).getD j 0).toNat 0)) ⟨by omega, hnext⟩ (show p.length - (j + 1) < p.length - j by omega) (by repeat' first | refine And.intro ?_ ?_ | exact True.intro | (show (_ : Int) = (_ : Int); omega) | omega | exact rfl | (simp only [RO.len]; omega))
      · refine And.intro (by omega) ?_
        have hrd := hr2.done hs.toSh hpl hp.2 hg (by omega) (by omega)
        have hpos : r ≠ [] := fun he => by
          have := hr2.1
          rw [he] at this
          simp at this; omega
        refine nx (i + 1, q.set (p.getD i 0).toNat r) ⟨by omega, hq.new hp.2 hil hrd⟩ (show p.length - (i + 1) < p.length - i by omega) ?_
        repeat' first | refine And.intro ?_ ?_ | exact True.intro | exact hpos | (show (_ : Int) = (_ : Int); omega) | omega | exact rfl
    · refine And.intro ?_ (fun h0 => ?_)
      · refine And.intro (by omega) ?_
        exact nx (i + 1, q) ⟨by omega, hq.old hp.2 hil h2⟩ (show p.length - (i + 1) < p.length - i by omega) (by repeat' first | refine And.intro ?_ ?_ | exact True.intro | (show (_ : Int) = (_ : Int); omega) | omega | exact rfl | (simp only [RO.len]; omega))
      · exact absurd (List.eq_nil_of_length_eq_zero h0) h2
  · refine And.intro (And.intro (by omega) ?_) trivial
    show RO.rows .i64 q = RO.rows .i64 (quoL t p)
    rw [hq.done hp.2 (by omega)]
end Go.Proofs.Ytkbhgnbnnbengaa
end
section
/- Plain: equivalences that pairs generate; classes made one; canonical numbers of classes. -/
namespace Go.Proofs.Ytkbhgnbnnbengaa
inductive Eg (R : Nat → Nat → Prop) : Nat → Nat → Prop
  | rel {a b : Nat} (h : R a b) : Eg R a b
  | refl (a : Nat) : Eg R a a
  | symm {a b : Nat} (h : Eg R a b) : Eg R b a
  | trans {a b c : Nat} (h : Eg R a b) (h' : Eg R b c) : Eg R a c
theorem Eg.least {R Q : Nat → Nat → Prop} (hr : ∀ a, Q a a) (hs : ∀ a b, Q a b → Q b a) (ht : ∀ a b c, Q a b → Q b c → Q a c) (h : ∀ a b, R a b → Q a b) {a b : Nat} (e : Eg R a b) : Q a b := by
  induction e with
  | rel h1 => exact h _ _ h1
  | refl a => exact hr a
  | symm _ ih => exact hs _ _ ih
  | trans _ _ i1 i2 => exact ht _ _ _ i1 i2
theorem Eg.mono {R R' : Nat → Nat → Prop} (h : ∀ a b, R a b → Eg R' a b) {a b : Nat} (e : Eg R a b) : Eg R' a b :=
  e.least .refl (fun _ _ => .symm) (fun _ _ _ => .trans) h
def orP (R : Nat → Nat → Prop) (i j : Nat) : Nat → Nat → Prop := fun a b => R a b ∨ (a = i ∧ b = j)
theorem eg_or {R : Nat → Nat → Prop} {i j a b : Nat} : Eg (orP R i j) a b ↔ Eg R a b ∨ (Eg R a i ∧ Eg R j b) ∨ (Eg R a j ∧ Eg R i b) := by
  constructor
  · intro e
    refine e.least (Q := fun a b => Eg R a b ∨ (Eg R a i ∧ Eg R j b) ∨ (Eg R a j ∧ Eg R i b)) (fun a => .inl (.refl a)) ?_ ?_ ?_
    · rintro a b (h | ⟨h1, h2⟩ | ⟨h1, h2⟩)
      · exact .inl h.symm
      · exact .inr (.inr ⟨h2.symm, h1.symm⟩)
      · exact .inr (.inl ⟨h2.symm, h1.symm⟩)
    · rintro a b c (h | ⟨h1, h2⟩ | ⟨h1, h2⟩) (h' | ⟨h3, h4⟩ | ⟨h3, h4⟩)
      · exact .inl (h.trans h')
      · exact .inr (.inl ⟨h.trans h3, h4⟩)
      · exact .inr (.inr ⟨h.trans h3, h4⟩)
      · exact .inr (.inl ⟨h1, h2.trans h'⟩)
      · exact .inr (.inl ⟨h1, h4⟩)
      · exact .inl (h1.trans h4)
      · exact .inr (.inr ⟨h1, h2.trans h'⟩)
      · exact .inl (h1.trans h4)
      · exact .inr (.inr ⟨h1, h4⟩)
    · rintro a b (h | ⟨rfl, rfl⟩)
      · exact .inl (.rel h)
      · exact .inr (.inl ⟨.refl _, .refl _⟩)
  · have up : ∀ {a b}, Eg R a b → Eg (orP R i j) a b := fun e => e.mono fun a b h => .rel (.inl h)
    have ij : Eg (orP R i j) i j := .rel (.inr ⟨rfl, rfl⟩)
    rintro (h | ⟨h1, h2⟩ | ⟨h1, h2⟩)
    · exact up h
    · exact (up h1).trans (ij.trans (up h2))
    · exact (up h1).trans (ij.symm.trans (up h2))
def KerOf (n : Nat) (p : List Int) (R : Nat → Nat → Prop) : Prop := p.length = n ∧ ∀ a b, a < n → b < n → (p.getD a 0 = p.getD b 0 ↔ Eg R a b)
def disI (n : Nat) : List Int := (List.range n).map fun i : Nat => (i : Int)
theorem disI_len (n : Nat) : (disI n).length = n := by simp [disI]
theorem disI_get {n i : Nat} (h : i < n) : (disI n).getD i 0 = (i : Int) := by simp [disI, List.getD, h]
theorem mem_disI {n : Nat} {x : Int} : x ∈ disI n ↔ 0 ≤ x ∧ x < (n : Int) := by
  unfold disI
  rw [List.mem_map]
  constructor
  · rintro ⟨i, hi, rfl⟩; have := List.mem_range.1 hi; omega
  · intro h; exact ⟨x.toNat, List.mem_range.2 (by omega), by omega⟩
theorem ker_canon {n : Nat} {p q : List Int} (hp : p.length = n) (hq : q.length = n) (h : ∀ a b, a < n → b < n → (p.getD a 0 = p.getD b 0 ↔ q.getD a 0 = q.getD b 0)) : canon p = canon q :=
  canon_congr (d := 0) (e := 0) (by rw [hp, hq]) fun i j hi hj => h i j (by omega) (by omega)
theorem pre_of {n : Nat} {e : Nat → Nat → Bool} (hr : ∀ x, x < n → e x x = true) (ht : ∀ x y z, x < n → y < n → z < n → e x y = true → e y z = true → e x z = true) : Pre n e := ⟨hr, ht⟩
theorem ker_clsL {n : Nat} {p : List Int} {e : Nat → Nat → Bool} (he : Pre n e) (hp : p.length = n) (h : ∀ a b, a < n → b < n → (p.getD a 0 = p.getD b 0 ↔ (e a b = true ∧ e b a = true))) : canon p = clsL n e := by
  rw [← canon_idem p]
  have h1 : canon (clsL n e) = clsL n e := canon_idem _
  rw [← h1, canon_idem p]
  exact ker_canon hp (clsL_len n e) fun a b ha hb => by rw [h a b ha hb, clsL_iff he ha hb]
end Go.Proofs.Ytkbhgnbnnbengaa
end
section
/- Plain: a forest of parents, none above its child's number: roots, halving, union. -/
namespace Go.Proofs.Ytkbhgnbnnbengaa
structure Fo (n : Nat) (p : List Int) (r : Nat → Nat) : Prop where
  len : p.length = n
  le : ∀ i, i < n → 0 ≤ p.getD i 0 ∧ p.getD i 0 ≤ (i : Int)
  par : ∀ i, i < n → r (p.getD i 0).toNat = r i
  fix : ∀ i, i < n → p.getD i 0 = (i : Int) → r i = i
def halfL (p : List Int) (i : Nat) : List Int := p.set i (p.getD (p.getD i 0).toNat 0)
def fndL : Nat → List Int → Nat → List Int
  | 0, p, _ => p
  | f + 1, p, i => if p.getD i 0 = (i : Int) then p else fndL f (halfL p i) ((halfL p i).getD i 0).toNat
theorem Fo.rle {n : Nat} {p : List Int} {r : Nat → Nat} (h : Fo n p r) : ∀ m i, i < m → i < n → r i ≤ i := by
  intro m
  induction m with
  | zero => intro i hi; omega
  | succ m ih =>
    intro i hi hn
    by_cases e : p.getD i 0 = (i : Int)
    · rw [h.fix i hn e]; exact Nat.le_refl _
    · have := h.le i hn
      have h1 := ih (p.getD i 0).toNat (by omega) (by omega)
      rw [h.par i hn] at h1; omega
theorem Fo.root {n : Nat} {p : List Int} {r : Nat → Nat} (h : Fo n p r) : ∀ m i, i < m → i < n → p.getD (r i) 0 = (r i : Int) := by
  intro m
  induction m with
  | zero => intro i hi; omega
  | succ m ih =>
    intro i hi hn
    by_cases e : p.getD i 0 = (i : Int)
    · rw [h.fix i hn e]; exact e
    · have := h.le i hn
      have h1 := ih (p.getD i 0).toNat (by omega) (by omega)
      rwa [h.par i hn] at h1
theorem Fo.rlt {n : Nat} {p : List Int} {r : Nat → Nat} (h : Fo n p r) {i : Nat} (hi : i < n) : r i < n := Nat.lt_of_le_of_lt (h.rle (i + 1) i (by omega) hi) hi
theorem Fo.rr {n : Nat} {p : List Int} {r : Nat → Nat} (h : Fo n p r) {i : Nat} (hi : i < n) : r (r i) = r i := h.fix _ (h.rlt hi) (h.root (i + 1) i (by omega) hi)
theorem Fo.half {n : Nat} {p : List Int} {r : Nat → Nat} (h : Fo n p r) {i : Nat} (hi : i < n) : Fo n (halfL p i) r := by
  have h0 := h.le i hi
  have h1 := h.le (p.getD i 0).toNat (by omega)
  have hl := h.len
  have hg : ∀ k, (halfL p i).getD k 0 = if k = i then p.getD (p.getD i 0).toNat 0 else p.getD k 0 := fun k => by
    unfold halfL
    by_cases e : k = i
    · subst e; rw [getD_set_eq (by omega), if_pos rfl]
    · rw [getD_set_ne (Ne.symm e), if_neg e]
  refine ⟨by unfold halfL; rw [List.length_set]; exact h.len, fun k hk => ?_, fun k hk => ?_, fun k hk e => ?_⟩
  · rw [hg]
    by_cases e : k = i
    · subst e; rw [if_pos rfl]; omega
    · rw [if_neg e]; exact h.le k hk
  · rw [hg]
    by_cases e : k = i
    · subst e; rw [if_pos rfl, h.par _ (by omega), h.par _ hk]
    · rw [if_neg e]; exact h.par k hk
  · rw [hg] at e
    by_cases e1 : k = i
    · subst e1; rw [if_pos rfl] at e; exact h.fix k hk (by omega)
    · rw [if_neg e1] at e; exact h.fix k hk e
theorem fndL_fo {n : Nat} {r : Nat → Nat} : ∀ (f : Nat) {p : List Int} {i : Nat}, Fo n p r → i < n → Fo n (fndL f p i) r
  | 0, _, _, h, _ => h
  | f + 1, p, i, h, hi => by
    unfold fndL
    split
    · exact h
    · have := (h.half hi).le i hi
      exact fndL_fo f (h.half hi) (by omega)
theorem half_lt {n : Nat} {p : List Int} {r : Nat → Nat} (h : Fo n p r) {i : Nat} (hi : i < n) (e : p.getD i 0 ≠ (i : Int)) : ((halfL p i).getD i 0).toNat < i := by
  have h0 := h.le i hi
  have h1 := h.le (p.getD i 0).toNat (by omega)
  have hl := h.len
  unfold halfL
  rw [getD_set_eq (by omega)]; omega
theorem fndL_fuel {n : Nat} {r : Nat → Nat} : ∀ (f g : Nat) {p : List Int} {i : Nat}, Fo n p r → i < n → i < f → i < g → fndL f p i = fndL g p i
  | 0, _, _, _, _, _, hf, _ => by omega
  | _ + 1, 0, _, _, _, _, _, hg => by omega
  | f + 1, g + 1, p, i, h, hi, hf, hg => by
    unfold fndL
    split
    · rfl
    · rename_i e
      have := half_lt h hi e
      exact fndL_fuel f g (h.half hi) (by omega) (by omega) (by omega)
def ufR (r : Nat → Nat) (i j : Nat) : Nat → Nat := fun k => if r k = max (r i) (r j) then min (r i) (r j) else r k
def ufL (r : Nat → Nat) (p : List Int) (i j : Nat) : List Int := (fndL (j + 1) (fndL (i + 1) p i) j).set (max (r i) (r j)) ((min (r i) (r j) : Nat) : Int)
theorem Fo.union {n : Nat} {p : List Int} {r : Nat → Nat} (h : Fo n p r) {i j : Nat} (hi : i < n) (hj : j < n) : Fo n (ufL r p i j) (ufR r i j) := by
  have h2 := fndL_fo (j + 1) (fndL_fo (i + 1) h hi) hj
  unfold ufL
  revert h2
  generalize fndL (j + 1) (fndL (i + 1) p i) j = q
  intro h2
  have ri := h2.rlt hi
  have rj := h2.rlt hj
  have rri := h2.rr hi
  have rrj := h2.rr hj
  have hl := h2.len
  have hm : max (r i) (r j) < n := by omega
  have rm : r (max (r i) (r j)) = max (r i) (r j) := by
    rcases Nat.le_total (r i) (r j) with e | e
    · rw [Nat.max_eq_right e]; exact rrj
    · rw [Nat.max_eq_left e]; exact rri
  have rn : r (min (r i) (r j)) = min (r i) (r j) := by
    rcases Nat.le_total (r i) (r j) with e | e
    · rw [Nat.min_eq_left e]; exact rri
    · rw [Nat.min_eq_right e]; exact rrj
  have hle : min (r i) (r j) ≤ max (r i) (r j) := by omega
  generalize hM : max (r i) (r j) = M at *
  generalize hN : min (r i) (r j) = N at *
  have hg : ∀ k, (q.set M (N : Int)).getD k 0 = if k = M then (N : Int) else q.getD k 0 := fun k => by
    by_cases e : k = M
    · subst e; rw [getD_set_eq (by omega), if_pos rfl]
    · rw [getD_set_ne (Ne.symm e), if_neg e]
  have hu : ∀ k, ufR r i j k = if r k = M then N else r k := fun k => by unfold ufR; rw [hM, hN]
  refine ⟨by rw [List.length_set]; exact hl, fun k hk => ?_, fun k hk => ?_, fun k hk e => ?_⟩
  · rw [hg]
    by_cases e : k = M
    · rw [if_pos e]; omega
    · rw [if_neg e]; exact h2.le k hk
  · rw [hg, hu, hu]
    by_cases e : k = M
    · subst e
      rw [if_pos rfl, Int.toNat_natCast, rn, rm, if_pos rfl]
      split <;> rfl
    · rw [if_neg e, h2.par k hk]
  · rw [hg] at e
    rw [hu]
    by_cases e1 : k = M
    · subst e1
      rw [if_pos rfl] at e
      rw [rm, if_pos rfl]; omega
    · rw [if_neg e1] at e
      have := h2.fix k hk e
      rw [this, if_neg e1]
def KerR (n : Nat) (r : Nat → Nat) (R : Nat → Nat → Prop) : Prop := ∀ a b, a < n → b < n → (r a = r b ↔ Eg R a b)
theorem KerR.union {n : Nat} {r : Nat → Nat} {R : Nat → Nat → Prop} (h : KerR n r R) {i j : Nat} (hi : i < n) (hj : j < n) : KerR n (ufR r i j) (orP R i j) := fun a b ha hb => by
  rw [eg_or, ← h a b ha hb, ← h a i ha hi, ← h j b hj hb, ← h a j ha hj, ← h i b hi hb]
  unfold ufR
  have m1 : max (r i) (r j) = r i ∧ min (r i) (r j) = r j ∨ max (r i) (r j) = r j ∧ min (r i) (r j) = r i := by omega
  generalize r a = x; generalize r b = y
  revert m1
  generalize r i = u; generalize r j = v; generalize max u v = M; generalize min u v = N
  intro m1
  split <;> split <;> omega
theorem Fo.dis (n : Nat) : Fo n (disI n) id :=
  ⟨disI_len n, fun i hi => by rw [disI_get hi]; omega, fun i hi => by rw [disI_get hi]; simp, fun i _ _ => rfl⟩
theorem KerR.dis (n : Nat) : KerR n id fun _ _ => False := fun a b _ _ =>
  ⟨fun e => by have e : a = b := e; subst e; exact .refl _, fun e => e.least (Q := fun a b => id a = id b) (fun _ => rfl) (fun _ _ e => e.symm) (fun _ _ _ e f => e.trans f) fun _ _ f => f.elim⟩
def fndA (p : List Int) : Nat → List Int
  | 0 => p
  | k + 1 => fndL (k + 1) (fndA p k) k
theorem fndA_fo {n : Nat} {p : List Int} {r : Nat → Nat} (h : Fo n p r) : ∀ k, k ≤ n → Fo n (fndA p k) r
  | 0, _ => h
  | k + 1, hk => fndL_fo (k + 1) (fndA_fo h k (by omega)) hk
def rtL (n : Nat) (r : Nat → Nat) : List Int := (List.range n).map fun i => (r i : Int)
theorem rtL_len (n : Nat) (r : Nat → Nat) : (rtL n r).length = n := by simp [rtL]
theorem rtL_get {n : Nat} {r : Nat → Nat} {i : Nat} (h : i < n) : (rtL n r).getD i 0 = (r i : Int) := by simp [rtL, List.getD, h]
theorem KerR.ker {n : Nat} {r : Nat → Nat} {R : Nat → Nat → Prop} (h : KerR n r R) : KerOf n (rtL n r) R :=
  ⟨rtL_len n r, fun a b ha hb => by rw [rtL_get ha, rtL_get hb, ← h a b ha hb]; omega⟩
def prR (r : Nat → Nat) : List (Int × Int) → Nat → Nat
  | [] => r
  | x :: l => prR (ufR r x.1.toNat x.2.toNat) l
end Go.Proofs.Ytkbhgnbnnbengaa
end
section
/- Plain: the congruence that pairs generate; how the forest of congr makes it. -/
namespace Go.Proofs.Ytkbhgnbnnbengaa
open Go Go.AM
/-! ### From generators to all elements -/
section
variable {t : List (List Int)} {side : Int}
theorem eg_gens {J : Nat → Nat → Prop} (hs : Semi t) (hJ : ∀ a b, J a b → a < t.length ∧ b < t.length) {gens : List Int} (hg : ∀ g ∈ gens, 0 ≤ g ∧ g < (t.length : Int))
    (hc : ∀ a b, J a b → ∀ g ∈ gens, (side ≠ 2 → Eg J (en t g.toNat a) (en t g.toNat b)) ∧ (side ≠ 1 → Eg J (en t a g.toNat) (en t b g.toNat))) {s : Nat} (m : Mk t gens s) :
    ∀ a b, a < t.length → b < t.length → Eg J a b → (side ≠ 2 → Eg J (en t s a) (en t s b)) ∧ (side ≠ 1 → Eg J (en t a s) (en t b s)) := by
  have hS := hs.toSh
  have base : ∀ g ∈ gens, ∀ a b, Eg J a b → (side ≠ 2 → Eg J (en t g.toNat a) (en t g.toNat b)) ∧ (side ≠ 1 → Eg J (en t a g.toNat) (en t b g.toNat)) := fun g hgm a b e =>
    e.least (Q := fun a b => (side ≠ 2 → Eg J (en t g.toNat a) (en t g.toNat b)) ∧ (side ≠ 1 → Eg J (en t a g.toNat) (en t b g.toNat))) (fun _ => ⟨fun _ => .refl _, fun _ => .refl _⟩) (fun _ _ h => ⟨fun h0 => (h.1 h0).symm, fun h0 => (h.2 h0).symm⟩)
      (fun _ _ _ h h' => ⟨fun h0 => (h.1 h0).trans (h'.1 h0), fun h0 => (h.2 h0).trans (h'.2 h0)⟩) fun a b h => hc a b h g hgm
  have key : ∀ {s : Nat}, Mk t gens s → s < t.length ∧ ∀ a b, a < t.length → b < t.length → Eg J a b → (side ≠ 2 → Eg J (en t s a) (en t s b)) ∧ (side ≠ 1 → Eg J (en t a s) (en t b s)) := fun {s} m => by
    induction m with
    | gen h => exact ⟨by have := hg _ h; omega, fun a b _ _ e => base _ h a b e⟩
    | mul ha hb i1 i2 =>
      rename_i u v
      refine ⟨(hS.ent i1.1 i2.1).2, fun a b hal hbl e => ⟨fun h0 => ?_, fun h0 => ?_⟩⟩
      · rw [assoc3 hs.assoc i1.1 i2.1 hal, assoc3 hs.assoc i1.1 i2.1 hbl]
        exact (i1.2 _ _ (hS.ent i2.1 hal).2 (hS.ent i2.1 hbl).2 ((i2.2 a b hal hbl e).1 h0)).1 h0
      · rw [← assoc3 hs.assoc hal i1.1 i2.1, ← assoc3 hs.assoc hbl i1.1 i2.1]
        exact (i2.2 _ _ (hS.ent hal i1.1).2 (hS.ent hbl i1.1).2 ((i1.2 a b hal hbl e).2 h0)).2 h0
  exact (key m).2
end
/-! ### The forest: joined or not; the number of classes -/
def rtB (r : Nat → Nat) (i : Nat) : Bool := decide (r i = i)
def cntR (n : Nat) (r : Nat → Nat) : Nat := ((List.range n).filter (rtB r)).length
theorem cnt_del {P : Nat → Bool} {M : Nat} : ∀ {n : Nat}, M < n → P M = true → ((List.range n).filter fun i => P i && decide (i ≠ M)).length + 1 = ((List.range n).filter P).length := by
  have no : ∀ n, n ≤ M → ((List.range n).filter fun i => P i && decide (i ≠ M)) = (List.range n).filter P := fun n hn =>
    List.filter_congr fun x hx => by
      have := List.mem_range.1 hx
      have : x ≠ M := by omega
      simp [this]
  intro n
  induction n with
  | zero => intro h; omega
  | succ n ih =>
    intro h hp
    rw [List.range_succ, List.filter_append, List.filter_append, List.length_append, List.length_append]
    by_cases e : M = n
    · subst e
      rw [no M (Nat.le_refl _)]
      simp [hp]
    · have := ih (by omega) hp
      have hn : (decide (n ≠ M)) = true := decide_eq_true (fun h => e h.symm)
      have : ([n].filter fun i => P i && decide (i ≠ M)) = [n].filter P := by
        simp only [List.filter_cons, hn, Bool.and_true, List.filter_nil]
      rw [this]; omega
theorem cnt_union {n : Nat} {p : List Int} {r : Nat → Nat} (h : Fo n p r) {i j : Nat} (hi : i < n) (hj : j < n) (hne : r i ≠ r j) : cntR n (ufR r i j) + 1 = cntR n r := by
  have hM : max (r i) (r j) < n := by have := h.rlt hi; have := h.rlt hj; omega
  have hr : r (max (r i) (r j)) = max (r i) (r j) ∧ r (min (r i) (r j)) = min (r i) (r j) := by
    have h1 := h.rr hi
    have h2 := h.rr hj
    rcases Nat.le_total (r i) (r j) with e | e
    · rw [Nat.max_eq_right e, Nat.min_eq_left e]; exact ⟨h2, h1⟩
    · rw [Nat.max_eq_left e, Nat.min_eq_right e]; exact ⟨h1, h2⟩
  have hlt : min (r i) (r j) < max (r i) (r j) := by omega
  have := cnt_del (P := rtB r) hM (by unfold rtB; exact decide_eq_true hr.1)
  unfold cntR
  rw [← this]
  congr 1
  refine congrArg List.length (List.filter_congr fun k hk => ?_)
  unfold rtB ufR
  generalize max (r i) (r j) = M at *
  generalize min (r i) (r j) = m at *
  by_cases e : r k = M
  · rw [if_pos e]
    have h1 : ¬ m = k := fun e2 => by rw [← e2, hr.2] at e; omega
    by_cases h2 : k = M
    · simp [h1, h2]
      intro; omega
    · have h3 : ¬ r k = k := fun e2 => h2 (by omega)
      simp [h1, h3]
  · rw [if_neg e]
    have h2 : k ≠ M := fun e2 => e (by rw [e2]; exact hr.1)
    simp [h2]
theorem cnt_le (n : Nat) (r : Nat → Nat) : cntR n r ≤ n := by
  have := List.length_filter_le (rtB r) (List.range n)
  rw [List.length_range] at this
  exact this
theorem cnt_id (n : Nat) : cntR n id = n := by
  unfold cntR
  rw [List.filter_eq_self.2 fun x _ => by unfold rtB; exact decide_eq_true rfl, List.length_range]
def fn2L (p : List Int) (i j : Nat) : List Int := fndL (j + 1) (fndL (i + 1) p i) j
theorem fn2_fo {n : Nat} {p : List Int} {r : Nat → Nat} (h : Fo n p r) {i j : Nat} (hi : i < n) (hj : j < n) : Fo n (fn2L p i j) r := fndL_fo _ (fndL_fo _ h hi) hj
def jnP (r : Nat → Nat) (p : List Int) (i j : Nat) : List Int := if r i = r j then fn2L p i j else ufL r p i j
def jnR (r : Nat → Nat) (i j : Nat) : Nat → Nat := if r i = r j then r else ufR r i j
theorem jn_fo {n : Nat} {p : List Int} {r : Nat → Nat} (h : Fo n p r) {i j : Nat} (hi : i < n) (hj : j < n) : Fo n (jnP r p i j) (jnR r i j) := by
  unfold jnP jnR
  by_cases e : r i = r j
  · rw [if_pos e, if_pos e]; exact fn2_fo h hi hj
  · rw [if_neg e, if_neg e]; exact h.union hi hj
theorem jn_ker {n : Nat} {r : Nat → Nat} {R : Nat → Nat → Prop} (h : KerR n r R) {i j : Nat} (hi : i < n) (hj : j < n) : KerR n (jnR r i j) (orP R i j) := by
  unfold jnR
  by_cases e : r i = r j
  · rw [if_pos e]
    intro a b ha hb
    rw [h a b ha hb]
    refine ⟨fun k => k.mono fun a b h => .rel (.inl h), fun k => k.mono fun a b h => ?_⟩
    rcases h with h | ⟨rfl, rfl⟩
    · exact .rel h
    · exact (h a b hi hj).1 e
  · rw [if_neg e]; exact h.union hi hj
theorem jn_cnt {n : Nat} {p : List Int} {r : Nat → Nat} (h : Fo n p r) {i j : Nat} (hi : i < n) (hj : j < n) : cntR n (jnR r i j) + (if r i = r j then 0 else 1) = cntR n r := by
  unfold jnR
  by_cases e : r i = r j
  · rw [if_pos e, if_pos e, Nat.add_zero]
  · rw [if_neg e, if_neg e]; exact cnt_union h hi hj e
/-! ### The spreading of joined pairs -/
def inW (n : Nat) (W : List (Int × Int)) : Prop := ∀ q ∈ W, (0 ≤ q.1 ∧ q.1 < (n : Int)) ∧ 0 ≤ q.2 ∧ q.2 < (n : Int)
theorem inW_app {n : Nat} {V W : List (Int × Int)} : inW n (V ++ W) ↔ inW n V ∧ inW n W :=
  ⟨fun h => ⟨fun q hq => h q (List.mem_append_left _ hq), fun q hq => h q (List.mem_append_right _ hq)⟩, fun h q hq => (List.mem_append.1 hq).elim (h.1 q) (h.2 q)⟩
end Go.Proofs.Ytkbhgnbnnbengaa
end
