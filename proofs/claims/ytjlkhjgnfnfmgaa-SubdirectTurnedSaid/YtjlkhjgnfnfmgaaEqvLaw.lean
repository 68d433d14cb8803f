import Derived.Test.YtjlkhjgnfnfmgaaQuoLaw
import Derived.Test.YtjlkhjgnfnfmgaaRefRees
section
/- Package congr: the quotient: contract; the reference's. -/
namespace Go.Proofs.Ytjlkhjgnfnfmgaa
open Go Go.AM
set_option maxRecDepth 100000
set_option maxHeartbeats 1000000 in
theorem cQuo_k (t : List (List Int)) (p : List Int) (h : IsCg t p 0) : fnK TY SP Try.f20 [.ro (.rows .i64 t), .ro (.ints .i64 p)] (.tup [.new (.rows .i64 (quoL t p)), .int .i64 0]) := by
  have hs := h.semi
  have hpl := h.len
  have hp := h.val
  have hg := h.cg
  have hmost := hs.most
  have hcn : classN p ≤ p.length := firsts_le _
  refine Or.inl (cq (valid_fn t) (And.intro rfl trivial) ?_)
  refine And.intro (fun h1 => absurd (valid_zero.2 hs) h1) (fun h1 => ?_)
  refine Or.inl (cq (cgr_fn t p 0) (And.intro rfl (And.intro rfl (And.intro rfl trivial))) ?_)
  refine And.intro (fun h1 => ?_) (fun h1 => ?_)
  · have h1 : (!cgB t p 0) = true := h1
    rw [cgB_true.2 h] at h1; cases h1
  refine Or.inl (cq (pcount_fn p) (And.intro rfl trivial) ?_)
  have e : (if validP p then ((classN p : Nat) : Int) else 0) = classN p := if_pos hp
  refine And.intro (by omega) ?_
  refine And.intro (by omega) ?_
  refine Or.inr (Or.inr ?_)
  refine Exists.intro [36, 37, 38, 40, 41, 49, 52, 64, 10040] <| lp2 (fun (i : Nat) (_ : List (List Int)) => [(26, .int .i64 i)]) (fun _ q => [(23, .vec 0 (.nrows .i64 q) [])]) (fun i q => i ≤ p.length ∧ QuoIn t p i q) (fun i _ => p.length - i) 0 (List.replicate (if validP p then ((classN p : Nat) : Int) else 0).toNat []) ⟨Nat.zero_le _, by rw [e]; exact QuoIn.start⟩ (by repeat' first | refine And.intro ?_ ?_ | exact True.intro | (show (_ : Int) = (_ : Int); omega) | omega | exact rfl | (simp only [RO.len]; omega)) ?_
  rintro i q ⟨hi, hq⟩
  refine And.intro (fun h1 => ?_) (fun h1 => ?_)
  · have hil : i < p.length := by omega
    have hr := cls_lt hp.2 hil
    have hql := hq.1
    refine And.intro (by omega) ?_
    refine And.intro (show 0 ≤ p.getD i 0 ∧ p.getD i 0 < (q.length : Int) by omega) ?_
    refine And.intro (fun h2 => ?_) (fun h2 => ?_)
    · refine And.intro (by omega) ?_
      refine And.intro (by omega) ?_
      refine And.intro (show 0 ≤ p.getD i 0 ∧ p.getD i 0 < (q.length : Int) by omega) ?_
      refine And.intro (show ((0 : Nat) : Int) ≤ p.getD i 0 by omega) ?_
      refine Exists.intro [36, 37, 38, 40, 41, 49, 52, 64] <| lp2 (fun (j : Nat) (_ : List Int) => [(44, .int .i64 j)]) (fun _ r => [(23, .vec 0 (.nrows .i64 q) [(p.getD i 0, 40)]), (40, .vec 0 (.ints .i64 r) [])]) (fun j r => j ≤ p.length ∧ RowIn t p i j r) (fun j _ => p.length - j) 0 (List.replicate q.length 0) ⟨Nat.zero_le _, by rw [hql]; exact RowIn.start⟩ (by repeat' first | refine And.intro ?_ ?_ | exact True.intro | (show (_ : Int) = (_ : Int); omega) | omega | exact rfl | (simp only [RO.len]; omega)) ?_
      rintro j r ⟨hj, hr2⟩
      refine And.intro (fun h3 => ?_) (fun h3 => ?_)
      · have hjl : j < p.length := by omega
        have hrl := hr2.1
        have hc := cls_lt hp.2 hjl
        have e1 := hs.toSh.ent (x := i) (y := j) (by omega) (by omega)
        have r1 := hs.toSh.len (x := i) (by omega)
        have hnext := hr2.next hs.toSh hpl hp.2 hg (by omega) hjl
        rw [← Int.toNat_natCast (en t i j), ← e1.1] at hnext
        refine And.intro (by omega) ?_
        refine Or.inl ?_
        refine Exists.intro [false, false, false, false, false, false, false, false, false, false, false, false, false, false, false, false, true] (And.intro (by decide +kernel) ?_)
        refine And.intro (by simp only [Int.toNat_natCast]; omega) ?_
        refine And.intro (fun _ => ?_) (fun h4 => absurd rfl h4)
        refine And.intro (by omega) ?_
        refine And.intro (show 0 ≤ (j : Int) ∧ (j : Int) < ((t.getD i []).length : Int) by omega) ?_
        refine And.intro (show 0 ≤ (t.getD i []).getD j 0 ∧ (t.getD i []).getD j 0 < (p.length : Int) by omega) ?_
        refine And.intro (show 0 ≤ p.getD j 0 ∧ p.getD j 0 < (r.length : Int) by omega) ?_
        refine And.intro (show ((0 : Nat) : Int) ≤ p.getD j 0 by omega) ?_
        refine And.intro (by omega) ?_
        exact nx (j + 1, r.set (p.getD j 0).toNat (p.getD ((t.getD i []).getD j 0).toNat 0)) ⟨by omega, hnext⟩ (show p.length - (j + 1) < p.length - j by omega) (by repeat' first | refine And.intro ?_ ?_ | exact True.intro | (show (_ : Int) = (_ : Int); omega) | omega | exact rfl | (simp only [RO.len]; omega))
      · refine And.intro (by omega) ?_
        have hrd := hr2.done hs.toSh hpl hp.2 hg (by omega) (by omega)
        have hpos : r ≠ [] := fun he => by
          have := hr2.1
          rw [he] at this
          simp at this; omega
        refine nx (i + 1, q.set (p.getD i 0).toNat r) ⟨by omega, hq.new hp.2 hil hrd⟩ (show p.length - (i + 1) < p.length - i by omega) ?_
        repeat' first | refine And.intro ?_ ?_ | exact True.intro | exact hpos | (show (_ : Int) = (_ : Int); omega) | omega | exact rfl
    · refine And.intro ?_ (fun h0 => ?_)
      · refine And.intro (by omega) ?_
        exact nx (i + 1, q) ⟨by omega, hq.old hp.2 hil h2⟩ (show p.length - (i + 1) < p.length - i by omega) (by repeat' first | refine And.intro ?_ ?_ | exact True.intro | (show (_ : Int) = (_ : Int); omega) | omega | exact rfl | (simp only [RO.len]; omega))
      · exact absurd (List.eq_nil_of_length_eq_zero h0) h2
  · refine And.intro (And.intro (by omega) ?_) (And.intro rfl trivial)
    show RO.rows .i64 q = RO.rows .i64 (quoL t p)
    rw [hq.done hp.2 (by omega)]
theorem take_map_suc {α : Type} {f : Nat → α} {n i : Nat} (h : i < n) : ((List.range n).map f).take (i + 1) = ((List.range n).map f).take i ++ [f i] := by
  rw [List.take_add_one]; simp [h]
set_option maxHeartbeats 1000000 in
theorem rcQuo_fn (t : List (List Int)) (p : List Int) (hs : Semi t) (hpl : p.length = t.length) (hv : validP p) : QF 60 [.ro (.rows .i64 t), .ro (.ints .i64 p)] (.new (.rows .i64 (quoL t p))) := mkQ Try.func60 (by decide +kernel) rfl (Nat.le_of_ble_eq_true rfl) fun _ => by
  have hmost := hs.most
  have hsh := hs.toSh
  have hcl : (classes (classN p) p).length = classN p := by simp [classes]
  have hcn : classN p ≤ t.length := by have := firsts_le p; rw [hpl] at this; exact this
  refine Or.inl (cq (rclasses_fn p hv) (And.intro rfl trivial) ?_)
  refine Exists.intro [] <| lp2 (fun (i : Nat) (q : List (List Int)) => [(16, .int .i64 i), (6, .vec 47)]) (fun _ q => [(47, .vec 0 (.rows .i64 q) [])]) (fun i q => i ≤ classN p ∧ q = (quoL t p).take i) (fun i _ => classN p - i) 0 [] ⟨Nat.zero_le _, rfl⟩ (by repeat' first | refine And.intro ?_ ?_ | exact True.intro | (show (_ : Int) = (_ : Int); omega) | omega | exact rfl | (simp only [RO.len]; omega)) ?_
  rintro i q ⟨hi, hq⟩
  have hql : q.length = i := by rw [hq, List.length_take, quoL_len]; omega
  refine And.intro (fun h1 => ?_) (fun h1 => ?_)
  · have h1 : (i : Int) < ((classes (classN p) p).length : Int) := h1
    have hil : i < classN p := by omega
    have ki := hd_at hv.2 hil
    have pi := cls_pos hv.2 hil
    refine And.intro (by omega) ?_
    refine Exists.intro [] <| lp2 (fun (j : Nat) (r : List Int) => [(22, .int .i64 j), (9, .vec 42)]) (fun _ r => [(42, .vec 0 (.ints .i64 r) [])]) (fun j r => j ≤ classN p ∧ r = (quoR t p i).take j) (fun j _ => classN p - j) 0 [] ⟨Nat.zero_le _, rfl⟩ (by repeat' first | refine And.intro ?_ ?_ | exact True.intro | (show (_ : Int) = (_ : Int); omega) | omega | exact rfl | (simp only [RO.len]; omega)) ?_
    rintro j r ⟨hj, hr⟩
    have hrl : r.length = j := by rw [hr, List.length_take, quoR_len]; omega
    refine And.intro (fun h2 => ?_) (fun h2 => ?_)
    · have h2 : (j : Int) < ((classes (classN p) p).length : Int) := h2
      have hjl : j < classN p := by omega
      have kj := hd_at hv.2 hjl
      have pj := cls_pos hv.2 hjl
      have e1 := hsh.ent (x := hdN p i) (y := hdN p j) (by omega) (by omega)
      have r1 := hsh.len (x := hdN p i) (by omega)
      have ti : (((classes (classN p) p).getD i []).getD 0 0).toNat = hdN p i := by rw [ki.2.2]; exact Int.toNat_natCast _
      have tj : (((classes (classN p) p).getD j []).getD 0 0).toNat = hdN p j := by rw [kj.2.2]; exact Int.toNat_natCast _
      refine And.intro (by omega) ?_
      refine Or.inl ?_
      refine Exists.intro [false, false, false, false, false, false, false, false, false, false, false, false, false, false, false, false, true, true] (And.intro (by decide +kernel) ?_)
      refine And.intro (by simp only [Int.toNat_natCast]; omega) ?_
      refine And.intro (show 0 ≤ ((classes (classN p) p).getD i []).getD 0 0 ∧ ((classes (classN p) p).getD i []).getD 0 0 < (t.length : Int) by omega) ?_
      refine And.intro (by simp only [Int.toNat_natCast]; omega) ?_
      refine And.intro (show 0 ≤ ((classes (classN p) p).getD j []).getD 0 0 ∧ ((classes (classN p) p).getD j []).getD 0 0 < ((t.getD (((classes (classN p) p).getD i []).getD 0 0).toNat []).length : Int) by rw [ti]; omega) ?_
      refine And.intro (show 0 ≤ (t.getD (((classes (classN p) p).getD i []).getD 0 0).toNat []).getD (((classes (classN p) p).getD j []).getD 0 0).toNat 0 ∧ (t.getD (((classes (classN p) p).getD i []).getD 0 0).toNat []).getD (((classes (classN p) p).getD j []).getD 0 0).toNat 0 < (p.length : Int) by rw [ti, tj]; omega) ?_
      refine And.intro (by simp; omega) ?_
      refine And.intro (by omega) ?_
      refine nx (j + 1, r ++ [p.getD ((t.getD (((classes (classN p) p).getD i []).getD 0 0).toNat []).getD (((classes (classN p) p).getD j []).getD 0 0).toNat 0).toNat 0]) ⟨by omega, ?_⟩ (show classN p - (j + 1) < classN p - j by omega) (by repeat' first | refine And.intro ?_ ?_ | exact True.intro | (show (_ : Int) = (_ : Int); omega) | omega | exact rfl | (simp only [RO.len]; omega))
      show _ = (quoR t p i).take (j + 1)
      rw [ti, tj, e1.1, Int.toNat_natCast, hr]
      unfold quoR
      rw [take_map_suc hjl]
    · have h2 : ((classes (classN p) p).length : Int) ≤ (j : Int) := h2
      refine And.intro (by simp; omega) ?_
      refine And.intro (by omega) ?_
      have hr2 : r = quoR t p i := by rw [hr, List.take_of_length_le (by rw [quoR_len]; omega)]
      refine nx (i + 1, q ++ [r]) ⟨by omega, ?_⟩ (show classN p - (i + 1) < classN p - i by omega) (by repeat' first | refine And.intro ?_ ?_ | exact True.intro | (show (_ : Int) = (_ : Int); omega) | omega | exact rfl | (simp only [RO.len]; omega))
      show _ = (quoL t p).take (i + 1)
      rw [hr2, hq]
      unfold quoL
      rw [take_map_suc hil]
  · have h1 : ((classes (classN p) p).length : Int) ≤ (i : Int) := h1
    refine And.intro (And.intro (by omega) ?_) trivial
    show RO.rows .i64 q = RO.rows .i64 (quoL t p)
    rw [hq, List.take_of_length_le (by rw [quoL_len]; omega)]
end Go.Proofs.Ytjlkhjgnfnfmgaa
end
section
/- Package subdirect: congruences, the number of classes, quotients: contracts. -/
namespace Go.Proofs.Ytjlkhjgnfnfmgaa
open Go Go.AM
set_option maxRecDepth 100000
set_option maxHeartbeats 2000000 in
theorem sdcg_fn (t : List (List Int)) (p : List Int) (hs : Semi t) : QF 53 [.ro (.rows .i64 t), .ro (.ints .i64 p)] (.bool (.v (cgB t p 0))) := mkQ Try.func53 (by decide +kernel) rfl (Nat.le_of_ble_eq_true rfl) fun _ => by
  have no : ¬ IsCg t p 0 → (BE.lit false).val = (BE.v (cgB t p 0)).val := fun h => (cgB_false.2 h).symm
  have hsh := hs.toSh
  have hmost := hs.most
  refine And.intro (fun h3 => ?_) (fun h3 => ?_)
  · refine And.intro (no fun h => by have := h.len; omega) trivial
  refine Or.inl (cq (pvalid_fn p) (And.intro rfl trivial) ?_)
  refine And.intro (fun h4 => ?_) (fun h4 => ?_)
  · refine And.intro (no fun h => ?_) trivial
    have h4 : (!decide (validP p)) = true := h4
    rw [decide_eq_true h.val] at h4; cases h4
  have hval : validP p := by simpa using h4
  have hlen : p.length = t.length := by omega
  have hok := (validP_iff.1 hval).2
  refine Exists.intro [] <| lp2 (fun (i : Nat) (f : List Int) => [(22, .int .i64 i), (5, .vec 34)]) (fun _ f => [(34, .vec 0 (.ints .i64 f) [])]) (fun i f => i ≤ p.length ∧ FstOk p i f ∧ ∀ x, x < i → ∀ s, s < t.length → CgA t p 0 x (f.getD (p.getD x 0).toNat 0).toNat s) (fun i _ => p.length - i) 0 [] ⟨Nat.zero_le _, ⟨rfl, fun c hc => absurd hc (Nat.not_lt_zero _)⟩, fun j hj => absurd hj (Nat.not_lt_zero _)⟩ (by repeat' first | refine And.intro ?_ ?_ | exact True.intro | (show (_ : Int) = (_ : Int); omega) | omega | exact rfl | (simp only [RO.len]; omega)) ?_
  rintro i f ⟨hi, hf, ha⟩
  refine And.intro (fun h1 => ?_) (fun h1 => ?_)
  · have hil : i < p.length := by omega
    have hit : i < t.length := by omega
    have hst := hok i hil
    have hfle : f.length ≤ i := by
      have := firsts_le (p.take i)
      rw [List.length_take] at this
      have := hf.1
      omega
    refine And.intro (by omega) ?_
    refine And.intro (fun h2 => ?_) (fun h2 => ?_)
    · have h2 : p.getD i 0 = (f.length : Int) := h2
      have hfl : (f ++ [(i : Int)]).length = f.length + 1 := by simp
      have hat : (f ++ [(i : Int)]).getD (p.getD i 0).toNat 0 = i := by
        rw [h2, Int.toNat_natCast]; simp [List.getD]
      have hn := FstOk.new hok hil hf h2
      refine And.intro (by omega) ?_
      refine And.intro (show 0 ≤ p.getD i 0 ∧ p.getD i 0 < ((f ++ [(i : Int)]).length : Int) by omega) ?_
      have hy : 0 ≤ (f ++ [(i : Int)]).getD (p.getD i 0).toNat 0 ∧ (f ++ [(i : Int)]).getD (p.getD i 0).toNat 0 < (t.length : Int) := by rw [hat]; omega
      have hpy : p.getD ((f ++ [(i : Int)]).getD (p.getD i 0).toNat 0).toNat 0 = p.getD i 0 := by rw [hat, Int.toNat_natCast]
      have hold : ∀ x, x < i → (f ++ [(i : Int)]).getD (p.getD x 0).toNat 0 = f.getD (p.getD x 0).toNat 0 := fun x hx => getD_appL (FstOk.old hok (by omega) hf hx)
      have hyN : ((f ++ [(i : Int)]).getD (p.getD i 0).toNat 0).toNat < t.length := by omega
      refine Exists.intro [] <| lp (X := Nat) (fun s => [(41, .int .i64 s)]) (fun _ => [(34, .vec 0 (.ints .i64 (f ++ [(i : Int)])) [])]) (fun s => s ≤ t.length ∧ ∀ s', s' < s → CgA t p 0 i ((f ++ [(i : Int)]).getD (p.getD i 0).toNat 0).toNat s') (fun s => t.length - s) 0 ⟨Nat.zero_le _, fun j hj => absurd hj (Nat.not_lt_zero _)⟩ (by repeat' first | refine And.intro ?_ ?_ | exact True.intro | (show (_ : Int) = (_ : Int); omega) | omega | exact rfl | (simp only [RO.len]; omega)) ?_
      rintro s ⟨hsn, hss⟩
      refine And.intro (fun h6 => ?_) (fun h6 => ?_)
      · have hsl : s < t.length := by omega
        have e1 := hsh.ent hsl hit
        have e2 := hsh.ent hsl hyN
        have e3 := hsh.ent hit hsl
        have e4 := hsh.ent hyN hsl
        have r1 := hsh.len hsl
        have r2 := hsh.len hit
        have r3 := hsh.len hyN
        have bad1 : p.getD (en t s i) 0 ≠ p.getD (en t s ((f ++ [(i : Int)]).getD (p.getD i 0).toNat 0).toNat) 0 → ¬ IsCg t p 0 := fun g2 h => g2 ((h.cg i _ s hit hyN hsl hpy.symm).1 (by decide))
        have bad2 : p.getD (en t i s) 0 ≠ p.getD (en t ((f ++ [(i : Int)]).getD (p.getD i 0).toNat 0).toNat s) 0 → ¬ IsCg t p 0 := fun g2 h => g2 ((h.cg i _ s hit hyN hsl hpy.symm).2 (by decide))
        refine Or.inl ?_
        refine Exists.intro (List.replicate 44 false) (And.intro (by decide +kernel) ?_)
        refine And.intro (by omega) ?_
        refine And.intro (show 0 ≤ (i : Int) ∧ (i : Int) < ((t.getD s []).length : Int) by omega) ?_
        refine And.intro (show 0 ≤ (t.getD s []).getD i 0 ∧ (t.getD s []).getD i 0 < (p.length : Int) by omega) ?_
        refine And.intro (by omega) ?_
        refine And.intro (show 0 ≤ (f ++ [(i : Int)]).getD (p.getD i 0).toNat 0 ∧ (f ++ [(i : Int)]).getD (p.getD i 0).toNat 0 < ((t.getD s []).length : Int) by omega) ?_
        refine And.intro (show 0 ≤ (t.getD s []).getD ((f ++ [(i : Int)]).getD (p.getD i 0).toNat 0).toNat 0 ∧ (t.getD s []).getD ((f ++ [(i : Int)]).getD (p.getD i 0).toNat 0).toNat 0 < (p.length : Int) by omega) ?_
        refine And.intro (fun h8 => ?_) (fun h8 => ?_)
        · refine And.intro (no (bad1 h8)) trivial
        refine And.intro (by omega) ?_
        refine And.intro (show 0 ≤ (s : Int) ∧ (s : Int) < ((t.getD i []).length : Int) by omega) ?_
        refine And.intro (show 0 ≤ (t.getD i []).getD s 0 ∧ (t.getD i []).getD s 0 < (p.length : Int) by omega) ?_
        refine And.intro hy ?_
        refine And.intro (show 0 ≤ (s : Int) ∧ (s : Int) < ((t.getD ((f ++ [(i : Int)]).getD (p.getD i 0).toNat 0).toNat []).length : Int) by omega) ?_
        refine And.intro (show 0 ≤ (t.getD ((f ++ [(i : Int)]).getD (p.getD i 0).toNat 0).toNat []).getD s 0 ∧ (t.getD ((f ++ [(i : Int)]).getD (p.getD i 0).toNat 0).toNat []).getD s 0 < (p.length : Int) by omega) ?_
        refine And.intro (fun h10 => ?_) (fun h10 => ?_)
        · refine And.intro (no (bad2 h10)) trivial
        refine And.intro (by omega) ?_
        refine nx (s + 1) ⟨by omega, fun s' hs' => ?_⟩ (show t.length - (s + 1) < t.length - s by omega) (by repeat' first | refine And.intro ?_ ?_ | exact True.intro | (show (_ : Int) = (_ : Int); omega) | omega | exact rfl | (simp only [RO.len]; omega))
        by_cases e : s' = s
        · subst e; exact ⟨fun _ => h8, fun _ => h10⟩
        · exact hss s' (by omega)
      · refine And.intro (by omega) ?_
        refine nx (i + 1, f ++ [(i : Int)]) ⟨by omega, hn, fun x hx s' hs' => ?_⟩ (show p.length - (i + 1) < p.length - i by omega) (by repeat' first | refine And.intro ?_ ?_ | exact True.intro | (show (_ : Int) = (_ : Int); omega) | omega | exact rfl | (simp only [RO.len]; omega))
        by_cases e : x = i
        · subst e; exact hss s' (by omega)
        · rw [hold x (by omega)]; exact ha x (by omega) s' hs'
    · have h2 : ¬ p.getD i 0 = (f.length : Int) := h2
      have hn := FstOk.same hok hil hf h2
      have hlt : (p.getD i 0).toNat < f.length := by have := hf.1; have := hst.1; have := hst.2; omega
      have h1y := hf.2 _ hlt
      refine And.intro (show 0 ≤ p.getD i 0 ∧ p.getD i 0 < (f.length : Int) by have := hst.1; omega) ?_
      have hy : 0 ≤ f.getD (p.getD i 0).toNat 0 ∧ f.getD (p.getD i 0).toNat 0 < (t.length : Int) := by omega
      have hpy : p.getD (f.getD (p.getD i 0).toNat 0).toNat 0 = p.getD i 0 := by have := hst.1; rw [h1y.2.2]; omega
      have hold : ∀ x, x < i → f.getD (p.getD x 0).toNat 0 = f.getD (p.getD x 0).toNat 0 := fun _ _ => rfl
      have hyN : (f.getD (p.getD i 0).toNat 0).toNat < t.length := by omega
      refine Exists.intro [] <| lp (X := Nat) (fun s => [(41, .int .i64 s)]) (fun _ => [(34, .vec 0 (.ints .i64 f) [])]) (fun s => s ≤ t.length ∧ ∀ s', s' < s → CgA t p 0 i (f.getD (p.getD i 0).toNat 0).toNat s') (fun s => t.length - s) 0 ⟨Nat.zero_le _, fun j hj => absurd hj (Nat.not_lt_zero _)⟩ (by repeat' first | refine And.intro ?_ ?_ | exact True.intro | (show (_ : Int) = (_ : Int); omega) | omega | exact rfl | (simp only [RO.len]; omega)) ?_
      rintro s ⟨hsn, hss⟩
      refine And.intro (fun h6 => ?_) (fun h6 => ?_)
      · have hsl : s < t.length := by omega
        have e1 := hsh.ent hsl hit
        have e2 := hsh.ent hsl hyN
        have e3 := hsh.ent hit hsl
        have e4 := hsh.ent hyN hsl
        have r1 := hsh.len hsl
        have r2 := hsh.len hit
        have r3 := hsh.len hyN
        have bad1 : p.getD (en t s i) 0 ≠ p.getD (en t s (f.getD (p.getD i 0).toNat 0).toNat) 0 → ¬ IsCg t p 0 := fun g2 h => g2 ((h.cg i _ s hit hyN hsl hpy.symm).1 (by decide))
        have bad2 : p.getD (en t i s) 0 ≠ p.getD (en t (f.getD (p.getD i 0).toNat 0).toNat s) 0 → ¬ IsCg t p 0 := fun g2 h => g2 ((h.cg i _ s hit hyN hsl hpy.symm).2 (by decide))
        refine Or.inl ?_
        refine Exists.intro (List.replicate 44 false) (And.intro (by decide +kernel) ?_)
        refine And.intro (by omega) ?_
        refine And.intro (show 0 ≤ (i : Int) ∧ (i : Int) < ((t.getD s []).length : Int) by omega) ?_
        refine And.intro (show 0 ≤ (t.getD s []).getD i 0 ∧ (t.getD s []).getD i 0 < (p.length : Int) by omega) ?_
        refine And.intro (by omega) ?_
        refine And.intro (show 0 ≤ f.getD (p.getD i 0).toNat 0 ∧ f.getD (p.getD i 0).toNat 0 < ((t.getD s []).length : Int) by omega) ?_
        refine And.intro (show 0 ≤ (t.getD s []).getD (f.getD (p.getD i 0).toNat 0).toNat 0 ∧ (t.getD s []).getD (f.getD (p.getD i 0).toNat 0).toNat 0 < (p.length : Int) by omega) ?_
        refine And.intro (fun h8 => ?_) (fun h8 => ?_)
        · refine And.intro (no (bad1 h8)) trivial
        refine And.intro (by omega) ?_
        refine And.intro (show 0 ≤ (s : Int) ∧ (s : Int) < ((t.getD i []).length : Int) by omega) ?_
        refine And.intro (show 0 ≤ (t.getD i []).getD s 0 ∧ (t.getD i []).getD s 0 < (p.length : Int) by omega) ?_
        refine And.intro hy ?_
        refine And.intro (show 0 ≤ (s : Int) ∧ (s : Int) < ((t.getD (f.getD (p.getD i 0).toNat 0).toNat []).length : Int) by omega) ?_
        refine And.intro (show 0 ≤ (t.getD (f.getD (p.getD i 0).toNat 0).toNat []).getD s 0 ∧ (t.getD (f.getD (p.getD i 0).toNat 0).toNat []).getD s 0 < (p.length : Int) by omega) ?_
        refine And.intro (fun h10 => ?_) (fun h10 => ?_)
        · refine And.intro (no (bad2 h10)) trivial
        refine And.intro (by omega) ?_
        refine nx (s + 1) ⟨by omega, fun s' hs' => ?_⟩ (show t.length - (s + 1) < t.length - s by omega) (by repeat' first | refine And.intro ?_ ?_ | exact True.intro | (show (_ : Int) = (_ : Int); omega) | omega | exact rfl | (simp only [RO.len]; omega))
        by_cases e : s' = s
        · subst e; exact ⟨fun _ => h8, fun _ => h10⟩
        · exact hss s' (by omega)
      · refine And.intro (by omega) ?_
        refine nx (i + 1, f) ⟨by omega, hn, fun x hx s' hs' => ?_⟩ (show p.length - (i + 1) < p.length - i by omega) (by repeat' first | refine And.intro ?_ ?_ | exact True.intro | (show (_ : Int) = (_ : Int); omega) | omega | exact rfl | (simp only [RO.len]; omega))
        by_cases e : x = i
        · subst e; exact hss s' (by omega)
        · rw [hold x (by omega)]; exact ha x (by omega) s' hs'
  · refine And.intro ?_ trivial
    have hip : i = p.length := by omega
    subst hip
    refine (cgB_true.2 ⟨hs, hlen, hval, ⟨by omega, by omega⟩, fun x y s hx hy hsl hxy => ?_⟩).symm
    have h1 := ha x (by omega) s hsl
    have h2 := ha y (by omega) s hsl
    rw [hxy] at h1
    exact h1.trans h2
theorem smax_fn (p : List Int) (hv : validP p) (h0 : 0 < p.length) : QF 129 [.ro (.ints .i64 p)] (.int .i64 ((classN p : Nat) - 1 : Int)) := mkQ Try.func129 (by decide +kernel) rfl (Nat.le_of_ble_eq_true rfl) fun _ => by
  have hst := (validP_iff.1 hv).2
  have hlen := hv.1
  have h1 : (firsts (p.take 1)).length = 1 ∧ p.getD 0 0 = 0 := by
    have a := hst 0 h0
    have b := firsts_next h0 (fun j hj => absurd hj (Nat.not_lt_zero _)) a
    have c : (firsts (p.take 0)).length = 0 := rfl
    have a1 := a.1
    have a2 := a.2
    rw [c] at a2 b
    have e : p.getD 0 0 = 0 := by omega
    split at b <;> exact ⟨by omega, e⟩
  refine And.intro (fun h2 => ?_) (fun _ => ?_)
  · have h2 : (p.length : Int) < 1 := h2
    omega
  refine And.intro (by omega) ?_
  refine Exists.intro [] <| lp2 (fun (i : Nat) (c : Int) => [(4, .int .i64 i), (3, .int .i64 c)]) (fun _ _ => []) (fun i c => 1 ≤ i ∧ i ≤ p.length ∧ c = ((firsts (p.take i)).length : Int) - 1) (fun i _ => p.length - i) 1 (p.getD 0 0) ⟨Nat.le_refl _, h0, by rw [h1.1, h1.2]; rfl⟩ (by repeat' first | refine And.intro ?_ ?_ | exact True.intro | (show (_ : Int) = (_ : Int); omega) | omega | exact rfl | (simp only [RO.len]; omega)) ?_
  rintro i c ⟨hi1, hi, hc⟩
  refine And.intro (fun h3 => ?_) (fun h3 => ?_)
  · have h3 : (i : Int) < (p.length : Int) := h3
    have hil : i < p.length := by omega
    have hs := hst i hil
    have hs1 : 0 ≤ p.getD i 0 := hs.1
    have hs2 : p.getD i 0 ≤ (firsts (p.take i)).length := hs.2
    have hfn := firsts_next hil (fun j hj => hst j (by omega)) hs
    refine And.intro (by omega) ?_
    refine And.intro (show -9223372036854775808 ≤ (i : Int) + 1 ∧ (i : Int) + 1 ≤ 9223372036854775807 by omega) ?_
    refine nx (i + 1, ((firsts (p.take (i + 1))).length : Int) - 1) ⟨by omega, by omega, rfl⟩ (show p.length - (i + 1) < p.length - i by omega) ?_
    have em : max c (p.getD i 0) = ((firsts (p.take (i + 1))).length : Int) - 1 := by
      rw [hfn, hc]
      split <;> omega
    repeat' first | refine And.intro ?_ ?_ | exact True.intro | exact em | exact rfl
  · have h3 : (p.length : Int) ≤ (i : Int) := h3
    refine And.intro ?_ trivial
    have : p.take i = p := List.take_of_length_le (by omega)
    show c = (classN p : Nat) - 1
    rw [hc, this]; rfl
theorem scnt_fn (p : List Int) (hv : validP p) : QF 54 [.ro (.ints .i64 p)] (.int .i64 (classN p : Nat)) := mkQ Try.func54 (by decide +kernel) rfl (Nat.le_of_ble_eq_true rfl) fun _ => by
  have hlen := hv.1
  have hcn : classN p ≤ p.length := firsts_le _
  refine And.intro (fun h1 => ?_) (fun h1 => ?_)
  · have h1 : (p.length : Int) = 0 := h1
    refine And.intro ?_ trivial
    show (0 : Int) = (classN p : Nat)
    omega
  · have h1 : ¬ (p.length : Int) = 0 := h1
    refine Or.inl (cq (smax_fn p hv (by omega)) (And.intro rfl trivial) ?_)
    refine And.intro (show -9223372036854775808 ≤ ((classN p : Nat) - 1 : Int) + 1 ∧ ((classN p : Nat) - 1 : Int) + 1 ≤ 9223372036854775807 by omega) ?_
    refine And.intro ?_ trivial
    show ((classN p : Nat) - 1 : Int) + 1 = (classN p : Nat)
    omega
set_option maxHeartbeats 1000000 in
theorem sdquo_fn (t : List (List Int)) (p : List Int) (h : IsCg t p 0) : QF 57 [.ro (.rows .i64 t), .ro (.ints .i64 p)] (.new (.rows .i64 (quoL t p))) := mkQ Try.func57 (by decide +kernel) rfl (Nat.le_of_ble_eq_true rfl) fun _ => by
  have hs := h.semi
  have hpl := h.len
  have hp := h.val
  have hg := h.cg
  have hmost := hs.most
  have hcn : classN p ≤ p.length := firsts_le _
  refine Or.inl (cq (scnt_fn p hp) (And.intro rfl trivial) ?_)
  refine And.intro (by omega) ?_
  refine And.intro (by omega) ?_
  refine Or.inr (Or.inr ?_)
  refine Exists.intro [25, 26, 27, 29, 30, 38, 41, 53, 10029] <| lp2 (fun (i : Nat) (_ : List (List Int)) => [(15, .int .i64 i)]) (fun _ q => [(12, .vec 0 (.nrows .i64 q) [])]) (fun i q => i ≤ p.length ∧ QuoIn t p i q) (fun i _ => p.length - i) 0 (List.replicate (classN p) []) ⟨Nat.zero_le _, QuoIn.start⟩ (by repeat' first | refine And.intro ?_ ?_ | exact True.intro | (show (_ : Int) = (_ : Int); omega) | omega | exact rfl | (simp only [RO.len]; omega)) ?_
  rintro i q ⟨hi, hq⟩
  refine And.intro (fun h1 => ?_) (fun h1 => ?_)
  · have hil : i < p.length := by omega
    have hr := cls_lt hp.2 hil
    have hql := hq.1
    refine And.intro (by omega) ?_
    refine And.intro (show 0 ≤ p.getD i 0 ∧ p.getD i 0 < (q.length : Int) by omega) ?_
    refine And.intro (fun h2 => ?_) (fun h2 => ?_)
    · refine And.intro (by omega) ?_
      refine And.intro (by omega) ?_
      refine And.intro (show 0 ≤ p.getD i 0 ∧ p.getD i 0 < (q.length : Int) by omega) ?_
      refine And.intro (show ((0 : Nat) : Int) ≤ p.getD i 0 by omega) ?_
      refine Exists.intro [25, 26, 27, 29, 30, 38, 41, 53] <| lp2 (fun (j : Nat) (_ : List Int) => [(33, .int .i64 j)]) (fun _ r => [(12, .vec 0 (.nrows .i64 q) [(p.getD i 0, 29)]), (29, .vec 0 (.ints .i64 r) [])]) (fun j r => j ≤ p.length ∧ RowIn t p i j r) (fun j _ => p.length - j) 0 (List.replicate q.length 0) ⟨Nat.zero_le _, by rw [hql]; exact RowIn.start⟩ (by repeat' first | refine And.intro ?_ ?_ | exact True.intro | (show (_ : Int) = (_ : Int); omega) | omega | exact rfl | (simp only [RO.len]; omega)) ?_
      rintro j r ⟨hj, hr2⟩
      refine And.intro (fun h3 => ?_) (fun h3 => ?_)
      · have hjl : j < p.length := by omega
        have hrl := hr2.1
        have hc := cls_lt hp.2 hjl
        have e1 := hs.toSh.ent (x := i) (y := j) (by omega) (by omega)
        have r1 := hs.toSh.len (x := i) (by omega)
        have hnext := hr2.next hs.toSh hpl hp.2 hg (by omega) hjl
        rw [← Int.toNat_natCast (en t i j), ← e1.1] at hnext
        refine And.intro (by omega) ?_
        refine Or.inl ?_
        refine Exists.intro [false, false, false, false, false, false, false, false, false, false, false, false, false, false, false, false, true] (And.intro (by decide +kernel) ?_)
        refine And.intro (by simp only [Int.toNat_natCast]; omega) ?_
        refine And.intro (fun _ => ?_) (fun h4 => absurd rfl h4)
        refine And.intro (by omega) ?_
        refine And.intro (show 0 ≤ (j : Int) ∧ (j : Int) < ((t.getD i []).length : Int) by omega) ?_
        refine And.intro (show 0 ≤ (t.getD i []).getD j 0 ∧ (t.getD i []).getD j 0 < (p.length : Int) by omega) ?_
        refine And.intro (show 0 ≤ p.getD j 0 ∧ p.getD j 0 < (r.length : Int) by omega) ?_
        refine And.intro (show ((0 : Nat) : Int) ≤ p.getD j 0 by omega) ?_
        refine And.intro (by omega) ?_
        exact nx (j + 1, r.set (p.getD j 0).toNat (p.getD ((t.getD i []).getD j 0).toNat 0)) ⟨by omega, hnext⟩ (show p.length - (j + 1) < p.length - j by omega) (by repeat' first | refine And.intro ?_ ?_ | exact True.intro | (show (_ : Int) = (_ : Int); omega) | omega | exact rfl | (simp only [RO.len]; omega))
      · refine And.intro (by omega) ?_
        have hrd := hr2.done hs.toSh hpl hp.2 hg (by omega) (by omega)
        have hpos : r ≠ [] := fun he => by
          have := hr2.1
          rw [he] at this
          simp at this; omega
        refine nx (i + 1, q.set (p.getD i 0).toNat r) ⟨by omega, hq.new hp.2 hil hrd⟩ (show p.length - (i + 1) < p.length - i by omega) ?_
        repeat' first | refine And.intro ?_ ?_ | exact True.intro | exact hpos | (show (_ : Int) = (_ : Int); omega) | omega | exact rfl
    · refine And.intro ?_ (fun h0 => ?_)
      · refine And.intro (by omega) ?_
        exact nx (i + 1, q) ⟨by omega, hq.old hp.2 hil h2⟩ (show p.length - (i + 1) < p.length - i by omega) (by repeat' first | refine And.intro ?_ ?_ | exact True.intro | (show (_ : Int) = (_ : Int); omega) | omega | exact rfl | (simp only [RO.len]; omega))
      · exact absurd (List.eq_nil_of_length_eq_zero h0) h2
  · refine And.intro (And.intro (by omega) ?_) trivial
    show RO.rows .i64 q = RO.rows .i64 (quoL t p)
    rw [hq.done hp.2 (by omega)]
end Go.Proofs.Ytjlkhjgnfnfmgaa
end
section
/- Plain: equivalences that pairs generate; classes made one; canonical numbers of classes. -/
namespace Go.Proofs.Ytjlkhjgnfnfmgaa
inductive Eg (R : Nat → Nat → Prop) : Nat → Nat → Prop
  | rel {a b : Nat} (h : R a b) : Eg R a b
  | refl (a : Nat) : Eg R a a
  | symm {a b : Nat} (h : Eg R a b) : Eg R b a
  | trans {a b c : Nat} (h : Eg R a b) (h' : Eg R b c) : Eg R a c
theorem Eg.least {R Q : Nat → Nat → Prop} (hr : ∀ a, Q a a) (hs : ∀ a b, Q a b → Q b a) (ht : ∀ a b c, Q a b → Q b c → Q a c) (h : ∀ a b, R a b → Q a b) {a b : Nat} (e : Eg R a b) : Q a b := by
  induction e with
  | rel h1 => exact h _ _ h1
  | refl a => exact hr a
  | symm _ ih => exact hs _ _ ih
  | trans _ _ i1 i2 => exact ht _ _ _ i1 i2
theorem Eg.mono {R R' : Nat → Nat → Prop} (h : ∀ a b, R a b → Eg R' a b) {a b : Nat} (e : Eg R a b) : Eg R' a b :=
  e.least .refl (fun _ _ => .symm) (fun _ _ _ => .trans) h
def orP (R : Nat → Nat → Prop) (i j : Nat) : Nat → Nat → Prop := fun a b => R a b ∨ (a = i ∧ b = j)
theorem eg_or {R : Nat → Nat → Prop} {i j a b : Nat} : Eg (orP R i j) a b ↔ Eg R a b ∨ (Eg R a i ∧ Eg R j b) ∨ (Eg R a j ∧ Eg R i b) := by
  constructor
  · intro e
    refine e.least (Q := fun a b => Eg R a b ∨ (Eg R a i ∧ Eg R j b) ∨ (Eg R a j ∧ Eg R i b)) (fun a => .inl (.refl a)) ?_ ?_ ?_
    · rintro a b (h | ⟨h1, h2⟩ | ⟨h1, h2⟩)
      · exact .inl h.symm
      · exact .inr (.inr ⟨h2.symm, h1.symm⟩)
      · exact .inr (.inl ⟨h2.symm, h1.symm⟩)
    · rintro a b c (h | ⟨h1, h2⟩ | ⟨h1, h2⟩) (h' | ⟨h3, h4⟩ | ⟨h3, h4⟩)
      · exact .inl (h.trans h')
      · exact .inr (.inl ⟨h.trans h3, h4⟩)
      · exact .inr (.inr ⟨h.trans h3, h4⟩)
      · exact .inr (.inl ⟨h1, h2.trans h'⟩)
      · exact .inr (.inl ⟨h1, h4⟩)
      · exact .inl (h1.trans h4)
      · exact .inr (.inr ⟨h1, h2.trans h'⟩)
      · exact .inl (h1.trans h4)
      · exact .inr (.inr ⟨h1, h4⟩)
    · rintro a b (h | ⟨rfl, rfl⟩)
      · exact .inl (.rel h)
      · exact .inr (.inl ⟨.refl _, .refl _⟩)
  · have up : ∀ {a b}, Eg R a b → Eg (orP R i j) a b := fun e => e.mono fun a b h => .rel (.inl h)
    have ij : Eg (orP R i j) i j := .rel (.inr ⟨rfl, rfl⟩)
    rintro (h | ⟨h1, h2⟩ | ⟨h1, h2⟩)
    · exact up h
    · exact (up h1).trans (ij.trans (up h2))
    · exact (up h1).trans (ij.symm.trans (up h2))
def mrgL (p : List Int) (i j : Nat) : List Int := p.map fun v => if v = p.getD j 0 then p.getD i 0 else v
theorem mrgL_len (p : List Int) (i j : Nat) : (mrgL p i j).length = p.length := by simp [mrgL]
theorem mrgL_get {p : List Int} {i j k : Nat} (hk : k < p.length) : (mrgL p i j).getD k 0 = if p.getD k 0 = p.getD j 0 then p.getD i 0 else p.getD k 0 := by
  simp [mrgL, List.getD, hk]
  first | rfl | (split <;> simp_all)
def KerOf (n : Nat) (p : List Int) (R : Nat → Nat → Prop) : Prop := p.length = n ∧ ∀ a b, a < n → b < n → (p.getD a 0 = p.getD b 0 ↔ Eg R a b)
theorem KerOf.mrg {n : Nat} {p : List Int} {R : Nat → Nat → Prop} (h : KerOf n p R) {i j : Nat} (hi : i < n) (hj : j < n) : KerOf n (mrgL p i j) (orP R i j) := by
  refine ⟨by rw [mrgL_len]; exact h.1, fun a b ha hb => ?_⟩
  have hl := h.1
  rw [mrgL_get (by omega), mrgL_get (by omega), eg_or, ← h.2 a b ha hb, ← h.2 a i ha hi, ← h.2 j b hj hb, ← h.2 a j ha hj, ← h.2 i b hi hb]
  by_cases h1 : p.getD a 0 = p.getD j 0 <;> by_cases h2 : p.getD b 0 = p.getD j 0
  · rw [if_pos h1, if_pos h2]; exact ⟨fun _ => .inl (h1.trans h2.symm), fun _ => rfl⟩
  · rw [if_pos h1, if_neg h2]
    exact ⟨fun e => .inr (.inr ⟨h1, e⟩), fun e => e.elim (fun e => absurd (e.symm.trans h1) h2) fun e => e.elim (fun e => absurd e.2.symm h2) fun e => e.2⟩
  · rw [if_neg h1, if_pos h2]
    exact ⟨fun e => .inr (.inl ⟨e, h2.symm⟩), fun e => e.elim (fun e => absurd (e.trans h2) h1) fun e => e.elim (fun e => e.1) fun e => absurd e.1 h1⟩
  · rw [if_neg h1, if_neg h2]
    exact ⟨fun e => .inl e, fun e => e.elim id fun e => e.elim (fun e => absurd e.2.symm h2) fun e => absurd e.1 h1⟩
theorem KerOf.congr {n : Nat} {p : List Int} {R R' : Nat → Nat → Prop} (h : KerOf n p R) (h1 : ∀ a b, R a b → Eg R' a b) (h2 : ∀ a b, R' a b → Eg R a b) : KerOf n p R' :=
  ⟨h.1, fun a b ha hb => (h.2 a b ha hb).trans ⟨Eg.mono h1, Eg.mono h2⟩⟩
def disI (n : Nat) : List Int := (List.range n).map fun i : Nat => (i : Int)
theorem disI_len (n : Nat) : (disI n).length = n := by simp [disI]
theorem disI_get {n i : Nat} (h : i < n) : (disI n).getD i 0 = (i : Int) := by simp [disI, List.getD, h]
theorem mem_disI {n : Nat} {x : Int} : x ∈ disI n ↔ 0 ≤ x ∧ x < (n : Int) := by
  unfold disI
  rw [List.mem_map]
  constructor
  · rintro ⟨i, hi, rfl⟩; have := List.mem_range.1 hi; omega
  · intro h; exact ⟨x.toNat, List.mem_range.2 (by omega), by omega⟩
theorem eg_none {R : Nat → Nat → Prop} (h : ∀ a b, ¬ R a b) {a b : Nat} : Eg R a b ↔ a = b :=
  ⟨fun e => e.least (fun _ => rfl) (fun _ _ h => h.symm) (fun _ _ _ h h' => h.trans h') fun a b hr => absurd hr (h a b), fun e => e ▸ .refl a⟩
theorem KerOf.dis {n : Nat} {R : Nat → Nat → Prop} (h : ∀ a b, ¬ R a b) : KerOf n (disI n) R :=
  ⟨disI_len n, fun a b ha hb => by rw [disI_get ha, disI_get hb, eg_none h]; omega⟩
theorem ker_canon {n : Nat} {p q : List Int} (hp : p.length = n) (hq : q.length = n) (h : ∀ a b, a < n → b < n → (p.getD a 0 = p.getD b 0 ↔ q.getD a 0 = q.getD b 0)) : canon p = canon q :=
  canon_congr (d := 0) (e := 0) (by rw [hp, hq]) fun i j hi hj => h i j (by omega) (by omega)
theorem pre_of {n : Nat} {e : Nat → Nat → Bool} (hr : ∀ x, x < n → e x x = true) (ht : ∀ x y z, x < n → y < n → z < n → e x y = true → e y z = true → e x z = true) : Pre n e := ⟨hr, ht⟩
theorem ker_clsL {n : Nat} {p : List Int} {e : Nat → Nat → Bool} (he : Pre n e) (hp : p.length = n) (h : ∀ a b, a < n → b < n → (p.getD a 0 = p.getD b 0 ↔ (e a b = true ∧ e b a = true))) : canon p = clsL n e := by
  rw [← canon_idem p]
  have h1 : canon (clsL n e) = clsL n e := canon_idem _
  rw [← h1, canon_idem p]
  exact ker_canon hp (clsL_len n e) fun a b ha hb => by rw [h a b ha hb, clsL_iff he ha hb]
end Go.Proofs.Ytjlkhjgnfnfmgaa
end
