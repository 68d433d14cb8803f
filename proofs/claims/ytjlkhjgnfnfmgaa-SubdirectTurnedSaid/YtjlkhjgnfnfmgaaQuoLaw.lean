import Derived.Test.YtjlkhjgnfnfmgaaReesLaw
import Derived.Test.YtjlkhjgnfnfmgaaGroup
import Derived.Test.YtjlkhjgnfnfmgaaRefRees
section
section
/- Plain: congruences of a table. -/
namespace Go.Proofs.Ytjlkhjgnfnfmgaa
def CgA (t : List (List Int)) (p : List Int) (side : Int) (x y s : Nat) : Prop :=
  (side ≠ 2 → p.getD (en t s x) 0 = p.getD (en t s y) 0) ∧ (side ≠ 1 → p.getD (en t x s) 0 = p.getD (en t y s) 0)
def Cg (t : List (List Int)) (p : List Int) (side : Int) : Prop := ∀ x y s, x < t.length → y < t.length → s < t.length → p.getD x 0 = p.getD y 0 → CgA t p side x y s
structure IsCg (t : List (List Int)) (p : List Int) (side : Int) : Prop where
  semi : Semi t
  len : p.length = t.length
  val : validP p
  sd : 0 ≤ side ∧ side ≤ 2
  cg : Cg t p side
noncomputable def cgB (t : List (List Int)) (p : List Int) (side : Int) : Bool := @decide (IsCg t p side) (Classical.propDecidable _)
theorem cgB_true {t : List (List Int)} {p : List Int} {side : Int} : cgB t p side = true ↔ IsCg t p side := by unfold cgB; exact @decide_eq_true_iff _ (Classical.propDecidable _)
theorem cgB_false {t : List (List Int)} {p : List Int} {side : Int} : cgB t p side = false ↔ ¬ IsCg t p side := by unfold cgB; exact @decide_eq_false_iff_not _ (Classical.propDecidable _)
theorem CgA.trans {t : List (List Int)} {p : List Int} {side : Int} {x y z s : Nat} (h : CgA t p side x y s) (h' : CgA t p side z y s) : CgA t p side x z s :=
  ⟨fun hs => (h.1 hs).trans (h'.1 hs).symm, fun hs => (h.2 hs).trans (h'.2 hs).symm⟩
end Go.Proofs.Ytjlkhjgnfnfmgaa
end
section
/- Package congr: which partitions are congruences: contract. -/
namespace Go.Proofs.Ytjlkhjgnfnfmgaa
open Go Go.AM
set_option maxRecDepth 100000
def FstOk (p : List Int) (i : Nat) (f : List Int) : Prop := f.length = (firsts (p.take i)).length ∧ ∀ c, c < f.length → 0 ≤ f.getD c 0 ∧ (f.getD c 0).toNat < i ∧ p.getD (f.getD c 0).toNat 0 = c
theorem valid_upto {p : List Int} {i : Nat} (hi : i < p.length) (hok : ∀ j, j < p.length → stepOk p j) : (firsts (p.take (i + 1))).length = if p.getD i 0 = (firsts (p.take i)).length then (firsts (p.take i)).length + 1 else (firsts (p.take i)).length :=
  firsts_next hi (fun j hj => hok j (by omega)) (hok i hi)
theorem firsts_mono {p : List Int} (hok : ∀ j, j < p.length → stepOk p j) : ∀ {i x : Nat}, i ≤ p.length → x < i → p.getD x 0 < ((firsts (p.take i)).length : Int)
  | 0, x, _, h => absurd h (Nat.not_lt_zero _)
  | i + 1, x, hi, h => by
    have h1 := valid_upto hi hok
    have h2 := hok i hi
    by_cases e : x = i
    · subst e
      rw [h1]
      have := h2.2
      split <;> omega
    · have := firsts_mono hok (by omega : i ≤ p.length) (by omega : x < i)
      rw [h1]
      split <;> omega
theorem FstOk.old {p : List Int} {i x : Nat} {f : List Int} (hok : ∀ j, j < p.length → stepOk p j) (hi : i ≤ p.length) (hf : FstOk p i f) (hx : x < i) : (p.getD x 0).toNat < f.length := by
  have := firsts_mono hok hi hx
  have := (hok x (by omega)).1
  rw [hf.1]; omega
theorem FstOk.new {p : List Int} {i : Nat} {f : List Int} (hok : ∀ j, j < p.length → stepOk p j) (hi : i < p.length) (hf : FstOk p i f) (h : p.getD i 0 = (f.length : Int)) : FstOk p (i + 1) (f ++ [(i : Int)]) := by
  refine ⟨by rw [valid_upto hi hok, if_pos (by rw [h, hf.1]), ← hf.1]; simp, fun c hc => ?_⟩
  by_cases e : c < f.length
  · have h1 := hf.2 c e
    have h2 : (f ++ [(i : Int)]).getD c 0 = f.getD c 0 := by simp [List.getD, List.getElem?_append_left e]
    rw [h2]; exact ⟨h1.1, by omega, h1.2.2⟩
  · have h1 : c = f.length := by simp at hc; omega
    subst h1
    have h2 : (f ++ [(i : Int)]).getD f.length 0 = i := by simp [List.getD]
    rw [h2]; exact ⟨by omega, by omega, by rw [Int.toNat_natCast, h]⟩
theorem FstOk.same {p : List Int} {i : Nat} {f : List Int} (hok : ∀ j, j < p.length → stepOk p j) (hi : i < p.length) (hf : FstOk p i f) (h : ¬ p.getD i 0 = (f.length : Int)) : FstOk p (i + 1) f := by
  refine ⟨by rw [valid_upto hi hok, if_neg (by rw [← hf.1]; exact h), ← hf.1], fun c hc => ?_⟩
  have h1 := hf.2 c hc
  exact ⟨h1.1, by omega, h1.2.2⟩
theorem getD_appL {l m : List Int} {k : Nat} (h : k < l.length) : (l ++ m).getD k 0 = l.getD k 0 := by simp [List.getD, List.getElem?_append_left h]
set_option maxHeartbeats 2000000 in
theorem cgr_k (t : List (List Int)) (p : List Int) (side : Int) (hl : p.length ≤ 140737488355328) : fnK TY SP Try.f26 [.ro (.rows .i64 t), .ro (.ints .i64 p), .int .i64 side] (.bool (.v (cgB t p side))) := by
  have no : ¬ IsCg t p side → (BE.lit false).val = (BE.v (cgB t p side)).val := fun h => (cgB_false.2 h).symm
  refine And.intro (fun h1 => ?_) (fun h1 => ?_)
  · refine And.intro (no fun h => by have := h.sd; omega) trivial
  refine And.intro (fun h2 => ?_) (fun h2 => ?_)
  · refine And.intro (no fun h => by have := h.sd; omega) trivial
  refine And.intro (fun h3 => ?_) (fun h3 => ?_)
  · refine And.intro (no fun h => by have := h.len; omega) trivial
  refine Or.inl (cq (pvalid_fn p) (And.intro rfl trivial) ?_)
  refine And.intro (fun h4 => ?_) (fun h4 => ?_)
  · refine And.intro (no fun h => ?_) trivial
    have h4 : (!decide (validP p)) = true := h4
    rw [decide_eq_true h.val] at h4; cases h4
  refine Or.inl (cq (valid_fn t) (And.intro rfl trivial) ?_)
  refine And.intro (fun h5 => ?_) (fun h5 => ?_)
  · refine And.intro (no fun h => h5 (valid_zero.2 h.semi)) trivial
  have hs := valid_zero.1 h5
  have hsh := hs.toSh
  have hmost := hs.most
  have hval : validP p := by simpa using h4
  have hlen : p.length = t.length := by omega
  have hok := (validP_iff.1 hval).2
  refine Exists.intro [] <| lp2 (fun (i : Nat) (f : List Int) => [(37, .int .i64 i), (7, .vec 49)]) (fun _ f => [(49, .vec 0 (.ints .i64 f) [])]) (fun i f => i ≤ p.length ∧ FstOk p i f ∧ ∀ x, x < i → ∀ s, s < t.length → CgA t p side x (f.getD (p.getD x 0).toNat 0).toNat s) (fun i _ => p.length - i) 0 [] ⟨Nat.zero_le _, ⟨rfl, fun c hc => absurd hc (Nat.not_lt_zero _)⟩, fun j hj => absurd hj (Nat.not_lt_zero _)⟩ (by repeat' first | refine And.intro ?_ ?_ | exact True.intro | (show (_ : Int) = (_ : Int); omega) | omega | exact rfl | (simp only [RO.len]; omega)) ?_
  rintro i f ⟨hi, hf, ha⟩
  refine And.intro (fun h1 => ?_) (fun h1 => ?_)
  · have hil : i < p.length := by omega
    have hit : i < t.length := by omega
    have hst := hok i hil
    have hfle : f.length ≤ i := by
      have := firsts_le (p.take i)
      rw [List.length_take] at this
      have := hf.1
      omega
    refine And.intro (by omega) ?_
    refine And.intro (fun h2 => ?_) (fun h2 => ?_)
    · have h2 : p.getD i 0 = (f.length : Int) := h2
      have hfl : (f ++ [(i : Int)]).length = f.length + 1 := by simp
      have hat : (f ++ [(i : Int)]).getD (p.getD i 0).toNat 0 = i := by
        rw [h2, Int.toNat_natCast]; simp [List.getD]
      have hn := FstOk.new hok hil hf h2
      refine And.intro (by omega) ?_
      refine And.intro (show 0 ≤ p.getD i 0 ∧ p.getD i 0 < ((f ++ [(i : Int)]).length : Int) by omega) ?_
      have hy : 0 ≤ (f ++ [(i : Int)]).getD (p.getD i 0).toNat 0 ∧ (f ++ [(i : Int)]).getD (p.getD i 0).toNat 0 < (t.length : Int) := by rw [hat]; omega
      have hpy : p.getD ((f ++ [(i : Int)]).getD (p.getD i 0).toNat 0).toNat 0 = p.getD i 0 := by rw [hat, Int.toNat_natCast]
      have hold : ∀ x, x < i → (f ++ [(i : Int)]).getD (p.getD x 0).toNat 0 = f.getD (p.getD x 0).toNat 0 := fun x hx => by
        have := FstOk.old hok (by omega) hf hx
        exact getD_appL this
      have hyN : ((f ++ [(i : Int)]).getD (p.getD i 0).toNat 0).toNat < t.length := by omega
      refine Exists.intro [] <| lp (X := Nat) (fun s => [(56, .int .i64 s)]) (fun _ => [(49, .vec 0 (.ints .i64 (f ++ [(i : Int)])) [])]) (fun s => s ≤ t.length ∧ ∀ s', s' < s → CgA t p side i ((f ++ [(i : Int)]).getD (p.getD i 0).toNat 0).toNat s') (fun s => t.length - s) 0 ⟨Nat.zero_le _, fun j hj => absurd hj (Nat.not_lt_zero _)⟩ (by repeat' first | refine And.intro ?_ ?_ | exact True.intro | (show (_ : Int) = (_ : Int); omega) | omega | exact rfl | (simp only [RO.len]; omega)) ?_
      rintro s ⟨hsn, hss⟩
      refine And.intro (fun h6 => ?_) (fun h6 => ?_)
      · have hsl : s < t.length := by omega
        have e1 := hsh.ent hsl hit
        have e2 := hsh.ent hsl hyN
        have e3 := hsh.ent hit hsl
        have e4 := hsh.ent hyN hsl
        have r1 := hsh.len hsl
        have r2 := hsh.len hit
        have r3 := hsh.len hyN
        have nxt : CgA t p side i ((f ++ [(i : Int)]).getD (p.getD i 0).toNat 0).toNat s → s + 1 ≤ t.length ∧ ∀ s', s' < s + 1 → CgA t p side i ((f ++ [(i : Int)]).getD (p.getD i 0).toNat 0).toNat s' := fun hc => ⟨by omega, fun s' hs' => by
          by_cases e : s' = s
          · subst e; exact hc
          · exact hss s' (by omega)⟩
        have bad1 : side ≠ 2 → p.getD (en t s i) 0 ≠ p.getD (en t s ((f ++ [(i : Int)]).getD (p.getD i 0).toNat 0).toNat) 0 → ¬ IsCg t p side := fun g1 g2 h => g2 ((h.cg i _ s hit hyN hsl hpy.symm).1 g1)
        have bad2 : side ≠ 1 → p.getD (en t i s) 0 ≠ p.getD (en t ((f ++ [(i : Int)]).getD (p.getD i 0).toNat 0).toNat s) 0 → ¬ IsCg t p side := fun g1 g2 h => g2 ((h.cg i _ s hit hyN hsl hpy.symm).2 g1)
        refine Or.inl ?_
        refine Exists.intro (List.replicate 52 false) (And.intro (by decide +kernel) ?_)
        refine And.intro (fun h7 => ?_) (fun h7 => ?_)
        · refine And.intro (by omega) ?_
          refine And.intro (show 0 ≤ (i : Int) ∧ (i : Int) < ((t.getD s []).length : Int) by omega) ?_
          refine And.intro (show 0 ≤ (t.getD s []).getD i 0 ∧ (t.getD s []).getD i 0 < (p.length : Int) by omega) ?_
          refine And.intro (by omega) ?_
          refine And.intro (show 0 ≤ (f ++ [(i : Int)]).getD (p.getD i 0).toNat 0 ∧ (f ++ [(i : Int)]).getD (p.getD i 0).toNat 0 < ((t.getD s []).length : Int) by omega) ?_
          refine And.intro (show 0 ≤ (t.getD s []).getD ((f ++ [(i : Int)]).getD (p.getD i 0).toNat 0).toNat 0 ∧ (t.getD s []).getD ((f ++ [(i : Int)]).getD (p.getD i 0).toNat 0).toNat 0 < (p.length : Int) by omega) ?_
          refine And.intro (fun h8 => ?_) (fun h8 => ?_)
          · refine And.intro (no (bad1 h7 h8)) trivial
          refine And.intro (fun h9 => ?_) (fun h9 => ?_)
          · refine And.intro (by omega) ?_
            refine And.intro (show 0 ≤ (s : Int) ∧ (s : Int) < ((t.getD i []).length : Int) by omega) ?_
            refine And.intro (show 0 ≤ (t.getD i []).getD s 0 ∧ (t.getD i []).getD s 0 < (p.length : Int) by omega) ?_
            refine And.intro hy ?_
            refine And.intro (show 0 ≤ (s : Int) ∧ (s : Int) < ((t.getD ((f ++ [(i : Int)]).getD (p.getD i 0).toNat 0).toNat []).length : Int) by omega) ?_
            refine And.intro (show 0 ≤ (t.getD ((f ++ [(i : Int)]).getD (p.getD i 0).toNat 0).toNat []).getD s 0 ∧ (t.getD ((f ++ [(i : Int)]).getD (p.getD i 0).toNat 0).toNat []).getD s 0 < (p.length : Int) by omega) ?_
            refine And.intro (fun h10 => ?_) (fun h10 => ?_)
            · refine And.intro (no (bad2 h9 h10)) trivial
            refine And.intro (by omega) ?_
            exact nx (s + 1) (nxt ⟨fun _ => h8, fun _ => h10⟩) (show t.length - (s + 1) < t.length - s by omega) (by repeat' first | refine And.intro ?_ ?_ | exact True.intro | (show (_ : Int) = (_ : Int); omega) | omega | exact rfl | (simp only [RO.len]; omega))
          · refine And.intro (by omega) ?_
            exact nx (s + 1) (nxt ⟨fun _ => h8, fun g => absurd h9 g⟩) (show t.length - (s + 1) < t.length - s by omega) (by repeat' first | refine And.intro ?_ ?_ | exact True.intro | (show (_ : Int) = (_ : Int); omega) | omega | exact rfl | (simp only [RO.len]; omega))
        · refine And.intro (fun h9 => ?_) (fun h9 => ?_)
          · refine And.intro (by omega) ?_
            refine And.intro (show 0 ≤ (s : Int) ∧ (s : Int) < ((t.getD i []).length : Int) by omega) ?_
            refine And.intro (show 0 ≤ (t.getD i []).getD s 0 ∧ (t.getD i []).getD s 0 < (p.length : Int) by omega) ?_
            refine And.intro hy ?_
            refine And.intro (show 0 ≤ (s : Int) ∧ (s : Int) < ((t.getD ((f ++ [(i : Int)]).getD (p.getD i 0).toNat 0).toNat []).length : Int) by omega) ?_
            refine And.intro (show 0 ≤ (t.getD ((f ++ [(i : Int)]).getD (p.getD i 0).toNat 0).toNat []).getD s 0 ∧ (t.getD ((f ++ [(i : Int)]).getD (p.getD i 0).toNat 0).toNat []).getD s 0 < (p.length : Int) by omega) ?_
            refine And.intro (fun h10 => ?_) (fun h10 => ?_)
            · refine And.intro (no (bad2 h9 h10)) trivial
            refine And.intro (by omega) ?_
            exact nx (s + 1) (nxt ⟨fun g => absurd h7 g, fun _ => h10⟩) (show t.length - (s + 1) < t.length - s by omega) (by repeat' first | refine And.intro ?_ ?_ | exact True.intro | (show (_ : Int) = (_ : Int); omega) | omega | exact rfl | (simp only [RO.len]; omega))
          · exact absurd (h7.symm.trans h9) (by decide)
      · refine And.intro (by omega) ?_
        refine nx (i + 1, (f ++ [(i : Int)])) ⟨by omega, hn, fun x hx s' hs' => ?_⟩ (show p.length - (i + 1) < p.length - i by omega) (by repeat' first | refine And.intro ?_ ?_ | exact True.intro | (show (_ : Int) = (_ : Int); omega) | omega | exact rfl | (simp only [RO.len]; omega))
        by_cases e : x = i
        · subst e; exact hss s' (by omega)
        · rw [hold x (by omega)]; exact ha x (by omega) s' hs'
    · have h2 : ¬ p.getD i 0 = (f.length : Int) := h2
      have hn := FstOk.same hok hil hf h2
      have hlt : (p.getD i 0).toNat < f.length := by have := hf.1; have := hst.1; have := hst.2; omega
      have h1y := hf.2 _ hlt
      refine And.intro (show 0 ≤ p.getD i 0 ∧ p.getD i 0 < (f.length : Int) by have := hst.1; omega) ?_
      have hy : 0 ≤ f.getD (p.getD i 0).toNat 0 ∧ f.getD (p.getD i 0).toNat 0 < (t.length : Int) := by omega
      have hpy : p.getD (f.getD (p.getD i 0).toNat 0).toNat 0 = p.getD i 0 := by have := hst.1; rw [h1y.2.2]; omega
      have hold : ∀ x, x < i → f.getD (p.getD x 0).toNat 0 = f.getD (p.getD x 0).toNat 0 := fun _ _ => rfl
      have hyN : (f.getD (p.getD i 0).toNat 0).toNat < t.length := by omega
      refine Exists.intro [] <| lp (X := Nat) (fun s => [(56, .int .i64 s)]) (fun _ => [(49, .vec 0 (.ints .i64 f) [])]) (fun s => s ≤ t.length ∧ ∀ s', s' < s → CgA t p side i (f.getD (p.getD i 0).toNat 0).toNat s') (fun s => t.length - s) 0 ⟨Nat.zero_le _, fun j hj => absurd hj (Nat.not_lt_zero _)⟩ (by repeat' first | refine And.intro ?_ ?_ | exact True.intro | (show (_ : Int) = (_ : Int); omega) | omega | exact rfl | (simp only [RO.len]; omega)) ?_
      rintro s ⟨hsn, hss⟩
      refine And.intro (fun h6 => ?_) (fun h6 => ?_)
      · have hsl : s < t.length := by omega
        have e1 := hsh.ent hsl hit
        have e2 := hsh.ent hsl hyN
        have e3 := hsh.ent hit hsl
        have e4 := hsh.ent hyN hsl
        have r1 := hsh.len hsl
        have r2 := hsh.len hit
        have r3 := hsh.len hyN
        have nxt : CgA t p side i (f.getD (p.getD i 0).toNat 0).toNat s → s + 1 ≤ t.length ∧ ∀ s', s' < s + 1 → CgA t p side i (f.getD (p.getD i 0).toNat 0).toNat s' := fun hc => ⟨by omega, fun s' hs' => by
          by_cases e : s' = s
          · subst e; exact hc
          · exact hss s' (by omega)⟩
        have bad1 : side ≠ 2 → p.getD (en t s i) 0 ≠ p.getD (en t s (f.getD (p.getD i 0).toNat 0).toNat) 0 → ¬ IsCg t p side := fun g1 g2 h => g2 ((h.cg i _ s hit hyN hsl hpy.symm).1 g1)
        have bad2 : side ≠ 1 → p.getD (en t i s) 0 ≠ p.getD (en t (f.getD (p.getD i 0).toNat 0).toNat s) 0 → ¬ IsCg t p side := fun g1 g2 h => g2 ((h.cg i _ s hit hyN hsl hpy.symm).2 g1)
        refine Or.inl ?_
        refine Exists.intro (List.replicate 52 false) (And.intro (by decide +kernel) ?_)
        refine And.intro (fun h7 => ?_) (fun h7 => ?_)
        · refine And.intro (by omega) ?_
          refine And.intro (show 0 ≤ (i : Int) ∧ (i : Int) < ((t.getD s []).length : Int) by omega) ?_
          refine And.intro (show 0 ≤ (t.getD s []).getD i 0 ∧ (t.getD s []).getD i 0 < (p.length : Int) by omega) ?_
          refine And.intro (by omega) ?_
          refine And.intro (show 0 ≤ f.getD (p.getD i 0).toNat 0 ∧ f.getD (p.getD i 0).toNat 0 < ((t.getD s []).length : Int) by omega) ?_
          refine And.intro (show 0 ≤ (t.getD s []).getD (f.getD (p.getD i 0).toNat 0).toNat 0 ∧ (t.getD s []).getD (f.getD (p.getD i 0).toNat 0).toNat 0 < (p.length : Int) by omega) ?_
          refine And.intro (fun h8 => ?_) (fun h8 => ?_)
          · refine And.intro (no (bad1 h7 h8)) trivial
          refine And.intro (fun h9 => ?_) (fun h9 => ?_)
          · refine And.intro (by omega) ?_
            refine And.intro (show 0 ≤ (s : Int) ∧ (s : Int) < ((t.getD i []).length : Int) by omega) ?_
            refine And.intro (show 0 ≤ (t.getD i []).getD s 0 ∧ (t.getD i []).getD s 0 < (p.length : Int) by omega) ?_
            refine And.intro hy ?_
            refine And.intro (show 0 ≤ (s : Int) ∧ (s : Int) < ((t.getD (f.getD (p.getD i 0).toNat 0).toNat []).length : Int) by omega) ?_
            refine And.intro (show 0 ≤ (t.getD (f.getD (p.getD i 0).toNat 0).toNat []).getD s 0 ∧ (t.getD (f.getD (p.getD i 0).toNat 0).toNat []).getD s 0 < (p.length : Int) by omega) ?_
            refine And.intro (fun h10 => ?_) (fun h10 => ?_)
            · refine And.intro (no (bad2 h9 h10)) trivial
            refine And.intro (by omega) ?_
            exact nx (s + 1) (nxt ⟨fun _ => h8, fun _ => h10⟩) (show t.length - (s + 1) < t.length - s by omega) (by repeat' first | refine And.intro ?_ ?_ | exact True.intro | (show (_ : Int) = (_ : Int); omega) | omega | exact rfl | (simp only [RO.len]; omega))
          · refine And.intro (by omega) ?_
            exact nx (s + 1) (nxt ⟨fun _ => h8, fun g => absurd h9 g⟩) (show t.length - (s + 1) < t.length - s by omega) (by repeat' first | refine And.intro ?_ ?_ | exact True.intro | (show (_ : Int) = (_ : Int); omega) | omega | exact rfl | (simp only [RO.len]; omega))
        · refine And.intro (fun h9 => ?_) (fun h9 => ?_)
          · refine And.intro (by omega) ?_
            refine And.intro (show 0 ≤ (s : Int) ∧ (s : Int) < ((t.getD i []).length : Int) by omega) ?_
            refine And.intro (show 0 ≤ (t.getD i []).getD s 0 ∧ (t.getD i []).getD s 0 < (p.length : Int) by omega) ?_
            refine And.intro hy ?_
            refine And.intro (show 0 ≤ (s : Int) ∧ (s : Int) < ((t.getD (f.getD (p.getD i 0).toNat 0).toNat []).length : Int) by omega) ?_
            refine And.intro (show 0 ≤ (t.getD (f.getD (p.getD i 0).toNat 0).toNat []).getD s 0 ∧ (t.getD (f.getD (p.getD i 0).toNat 0).toNat []).getD s 0 < (p.length : Int) by omega) ?_
            refine And.intro (fun h10 => ?_) (fun h10 => ?_)
            · refine And.intro (no (bad2 h9 h10)) trivial
            refine And.intro (by omega) ?_
            exact nx (s + 1) (nxt ⟨fun g => absurd h7 g, fun _ => h10⟩) (show t.length - (s + 1) < t.length - s by omega) (by repeat' first | refine And.intro ?_ ?_ | exact True.intro | (show (_ : Int) = (_ : Int); omega) | omega | exact rfl | (simp only [RO.len]; omega))
          · exact absurd (h7.symm.trans h9) (by decide)
      · refine And.intro (by omega) ?_
        refine nx (i + 1, f) ⟨by omega, hn, fun x hx s' hs' => ?_⟩ (show p.length - (i + 1) < p.length - i by omega) (by repeat' first | refine And.intro ?_ ?_ | exact True.intro | (show (_ : Int) = (_ : Int); omega) | omega | exact rfl | (simp only [RO.len]; omega))
        by_cases e : x = i
        · subst e; exact hss s' (by omega)
        · rw [hold x (by omega)]; exact ha x (by omega) s' hs'
  · refine And.intro ?_ trivial
    have hip : i = p.length := by omega
    subst hip
    refine (cgB_true.2 ⟨hs, hlen, hval, ⟨by omega, by omega⟩, fun x y s hx hy hsl hxy => ?_⟩).symm
    have h1 := ha x (by omega) s hsl
    have h2 := ha y (by omega) s hsl
    rw [hxy] at h1
    exact h1.trans h2
theorem cgr_fn (t : List (List Int)) (p : List Int) (side : Int) : QF 26 [.ro (.rows .i64 t), .ro (.ints .i64 p), .int .i64 side] (.bool (.v (cgB t p side))) := mkQ Try.func26 (by decide +kernel) rfl (Nat.le_of_ble_eq_true rfl) fun hf => cgr_k t p side hf.2.1.1
end Go.Proofs.Ytjlkhjgnfnfmgaa
end
section
/- The references of chapters 3 and 19: valid partitions, congruences: contracts. -/
namespace Go.Proofs.Ytjlkhjgnfnfmgaa
open Go Go.AM
set_option maxRecDepth 100000
theorem rpvalid_fn (p : List Int) : QF 133 [.ro (.ints .i64 p)] (.bool (.v (decide (validP p)))) := mkQ Try.func133 (by decide +kernel) rfl (Nat.le_of_ble_eq_true rfl) fun _ => by
  refine And.intro (fun h1 => ?_) (fun h1 => ?_)
  · have h1 : (p.length : Int) ≤ 4096 := h1
    refine Or.inl (cq (rcanon_fn p) (And.intro rfl trivial) ?_)
    refine Or.inl (cq (same_fn p (if p.length ≤ 4096 then canon p else [])) (And.intro rfl (And.intro rfl trivial)) ?_)
    refine And.intro ?_ trivial
    show decide (p = if p.length ≤ 4096 then canon p else []) = decide (validP p)
    rw [if_pos (by omega : p.length ≤ 4096)]
    exact decide_eq_decide.2 ⟨fun h => ⟨by omega, h.symm⟩, fun h => h.2.symm⟩
  · have h1 : ¬ (p.length : Int) ≤ 4096 := by have h1 : (4096 : Int) < p.length := h1; omega
    refine And.intro ?_ trivial
    show false = decide (validP p)
    exact (decide_eq_false fun h => h1 (by have := h.1; omega)).symm
set_option maxHeartbeats 2000000 in
theorem rcgr_k (t : List (List Int)) (p : List Int) (side : Int) (hl : p.length ≤ 140737488355328) : fnK TY SP Try.f58 [.ro (.rows .i64 t), .ro (.ints .i64 p), .int .i64 side] (.bool (.v (cgB t p side))) := by
  have no : ¬ IsCg t p side → (BE.lit false).val = (BE.v (cgB t p side)).val := fun h => (cgB_false.2 h).symm
  refine Or.inl (cq (rvalid_fn t) (And.intro rfl trivial) ?_)
  refine And.intro (fun h1 => ?_) (fun h1 => ?_)
  · refine And.intro (no fun h => ?_) trivial
    have h1 : (!decide (validV t = 0)) = true := h1
    rw [decide_eq_true (valid_zero.2 h.semi)] at h1; cases h1
  refine And.intro (fun h2 => ?_) (fun h2 => ?_)
  · refine And.intro (no fun h => by have := h.len; omega) trivial
  refine Or.inl (cq (rpvalid_fn p) (And.intro rfl trivial) ?_)
  refine And.intro (fun h3 => ?_) (fun h3 => ?_)
  · refine And.intro (no fun h => ?_) trivial
    have h3 : (!decide (validP p)) = true := h3
    rw [decide_eq_true h.val] at h3; cases h3
  refine And.intro (fun h4 => ?_) (fun h4 => ?_)
  · refine And.intro (no fun h => by have := h.sd; omega) trivial
  refine And.intro (fun h5 => ?_) (fun h5 => ?_)
  · refine And.intro (no fun h => by have := h.sd; omega) trivial
  have hs : Semi t := valid_zero.1 (by simpa using h1)
  have hsh := hs.toSh
  have hmost := hs.most
  have hval : validP p := by simpa using h3
  have hlen : p.length = t.length := by omega
  refine Exists.intro [] <| lp (X := Nat) (fun x => [(35, .int .i64 x)]) (fun _ => []) (fun x => x ≤ t.length ∧ ∀ x' y s, x' < x → y < t.length → s < t.length → p.getD x' 0 = p.getD y 0 → CgA t p side x' y s) (fun x => t.length - x) 0 ⟨Nat.zero_le _, fun x' y s hx => absurd hx (Nat.not_lt_zero _)⟩ (by repeat' first | refine And.intro ?_ ?_ | exact True.intro | (show (_ : Int) = (_ : Int); omega) | omega | exact rfl | (simp only [RO.len]; omega)) ?_
  rintro x ⟨hx, hxx⟩
  refine And.intro (fun h6 => ?_) (fun h6 => ?_)
  · have hxt : x < t.length := by omega
    refine Exists.intro [] <| lp (X := Nat) (fun y => [(40, .int .i64 y)]) (fun _ => []) (fun y => y ≤ t.length ∧ ∀ y' s, y' < y → s < t.length → p.getD x 0 = p.getD y' 0 → CgA t p side x y' s) (fun y => t.length - y) 0 ⟨Nat.zero_le _, fun y' s hy => absurd hy (Nat.not_lt_zero _)⟩ (by repeat' first | refine And.intro ?_ ?_ | exact True.intro | (show (_ : Int) = (_ : Int); omega) | omega | exact rfl | (simp only [RO.len]; omega)) ?_
    rintro y ⟨hy, hyy⟩
    refine And.intro (fun h7 => ?_) (fun h7 => ?_)
    · have hyt : y < t.length := by omega
      refine Exists.intro [] <| lp (X := Nat) (fun s => [(45, .int .i64 s)]) (fun _ => []) (fun s => s ≤ t.length ∧ ∀ s', s' < s → p.getD x 0 = p.getD y 0 → CgA t p side x y s') (fun s => t.length - s) 0 ⟨Nat.zero_le _, fun s' hs' => absurd hs' (Nat.not_lt_zero _)⟩ (by repeat' first | refine And.intro ?_ ?_ | exact True.intro | (show (_ : Int) = (_ : Int); omega) | omega | exact rfl | (simp only [RO.len]; omega)) ?_
      rintro s ⟨hsn, hss⟩
      refine And.intro (fun h8 => ?_) (fun h8 => ?_)
      · have hsl : s < t.length := by omega
        have e1 := hsh.ent hsl hxt
        have e2 := hsh.ent hsl hyt
        have e3 := hsh.ent hxt hsl
        have e4 := hsh.ent hyt hsl
        have r1 := hsh.len hsl
        have r2 := hsh.len hxt
        have r3 := hsh.len hyt
        have nxt : (p.getD x 0 = p.getD y 0 → CgA t p side x y s) → s + 1 ≤ t.length ∧ ∀ s', s' < s + 1 → p.getD x 0 = p.getD y 0 → CgA t p side x y s' := fun hc => ⟨by omega, fun s' hs' hpq => by
          by_cases e : s' = s
          · subst e; exact hc hpq
          · exact hss s' (by omega) hpq⟩
        have bad1 : p.getD x 0 = p.getD y 0 → side ≠ 2 → p.getD (en t s x) 0 ≠ p.getD (en t s y) 0 → ¬ IsCg t p side := fun g0 g1 g2 h => g2 ((h.cg x y s hxt hyt hsl g0).1 g1)
        have bad2 : p.getD x 0 = p.getD y 0 → side ≠ 1 → p.getD (en t x s) 0 ≠ p.getD (en t y s) 0 → ¬ IsCg t p side := fun g0 g1 g2 h => g2 ((h.cg x y s hxt hyt hsl g0).2 g1)
        refine Or.inl ?_
        refine Exists.intro (List.replicate 63 false) (And.intro (by decide +kernel) ?_)
        refine And.intro (by omega) ?_
        refine And.intro (by omega) ?_
        refine And.intro (fun g0 => ?_) (fun g0 => ?_)
        · refine And.intro (fun g1 => ?_) (fun g1 => ?_)
          · refine And.intro (by omega) ?_
            refine And.intro (by simp only [Int.toNat_natCast]; omega) ?_
            refine And.intro (by simp only [Int.toNat_natCast]; omega) ?_
            refine And.intro (by omega) ?_
            refine And.intro (by simp only [Int.toNat_natCast]; omega) ?_
            refine And.intro (by simp only [Int.toNat_natCast]; omega) ?_
            refine And.intro (fun g2 => ?_) (fun g2 => ?_)
            · refine And.intro (no (bad1 g0 g1 g2)) trivial
            refine And.intro (fun g3 => ?_) (fun g3 => ?_)
            · refine And.intro (by omega) ?_
              refine And.intro (by simp only [Int.toNat_natCast]; omega) ?_
              refine And.intro (by simp only [Int.toNat_natCast]; omega) ?_
              refine And.intro (by omega) ?_
              refine And.intro (by simp only [Int.toNat_natCast]; omega) ?_
              refine And.intro (by simp only [Int.toNat_natCast]; omega) ?_
              refine And.intro (fun g4 => ?_) (fun g4 => ?_)
              · refine And.intro (no (bad2 g0 g3 g4)) trivial
              refine And.intro (by omega) ?_
              exact nx (s + 1) (nxt fun _ => ⟨fun _ => g2, fun _ => g4⟩) (show t.length - (s + 1) < t.length - s by omega) (by repeat' first | refine And.intro ?_ ?_ | exact True.intro | (show (_ : Int) = (_ : Int); omega) | omega | exact rfl | (simp only [RO.len]; omega))
            · refine And.intro (by omega) ?_
              exact nx (s + 1) (nxt fun _ => ⟨fun _ => g2, fun g => absurd g3 g⟩) (show t.length - (s + 1) < t.length - s by omega) (by repeat' first | refine And.intro ?_ ?_ | exact True.intro | (show (_ : Int) = (_ : Int); omega) | omega | exact rfl | (simp only [RO.len]; omega))
          · refine And.intro (fun g3 => ?_) (fun g3 => ?_)
            · refine And.intro (by omega) ?_
              refine And.intro (by simp only [Int.toNat_natCast]; omega) ?_
              refine And.intro (by simp only [Int.toNat_natCast]; omega) ?_
              refine And.intro (by omega) ?_
              refine And.intro (by simp only [Int.toNat_natCast]; omega) ?_
              refine And.intro (by simp only [Int.toNat_natCast]; omega) ?_
              refine And.intro (fun g4 => ?_) (fun g4 => ?_)
              · refine And.intro (no (bad2 g0 g3 g4)) trivial
              refine And.intro (by omega) ?_
              exact nx (s + 1) (nxt fun _ => ⟨fun g => absurd g1 g, fun _ => g4⟩) (show t.length - (s + 1) < t.length - s by omega) (by repeat' first | refine And.intro ?_ ?_ | exact True.intro | (show (_ : Int) = (_ : Int); omega) | omega | exact rfl | (simp only [RO.len]; omega))
            · exact absurd (g1.symm.trans g3) (by decide)
        · refine And.intro (by omega) ?_
          exact nx (s + 1) (nxt fun g => absurd g g0) (show t.length - (s + 1) < t.length - s by omega) (by repeat' first | refine And.intro ?_ ?_ | exact True.intro | (show (_ : Int) = (_ : Int); omega) | omega | exact rfl | (simp only [RO.len]; omega))
      · refine And.intro (by omega) ?_
        exact nx (y + 1) ⟨by omega, fun y' s' hy' hs' hpq => by
          by_cases e : y' = y
          · subst e; exact hss s' (by omega) hpq
          · exact hyy y' s' (by omega) hs' hpq⟩ (show t.length - (y + 1) < t.length - y by omega) (by repeat' first | refine And.intro ?_ ?_ | exact True.intro | (show (_ : Int) = (_ : Int); omega) | omega | exact rfl | (simp only [RO.len]; omega))
    · refine And.intro (by omega) ?_
      exact nx (x + 1) ⟨by omega, fun x' y' s' hx' hy' hs' hpq => by
        by_cases e : x' = x
        · subst e; exact hyy y' s' (by omega) hs' hpq
        · exact hxx x' y' s' (by omega) hy' hs' hpq⟩ (show t.length - (x + 1) < t.length - x by omega) (by repeat' first | refine And.intro ?_ ?_ | exact True.intro | (show (_ : Int) = (_ : Int); omega) | omega | exact rfl | (simp only [RO.len]; omega))
  · refine And.intro ?_ trivial
    exact (cgB_true.2 ⟨hs, hlen, hval, ⟨by omega, by omega⟩, fun x' y s hx' hy hs' hpq => hxx x' y s (by omega) hy hs' hpq⟩).symm
theorem rcgr_fn (t : List (List Int)) (p : List Int) (side : Int) : QF 58 [.ro (.rows .i64 t), .ro (.ints .i64 p), .int .i64 side] (.bool (.v (cgB t p side))) := mkQ Try.func58 (by decide +kernel) rfl (Nat.le_of_ble_eq_true rfl) fun hf => rcgr_k t p side hf.2.1.1
end Go.Proofs.Ytjlkhjgnfnfmgaa
end
end
section
/- Plain: the quotient of a table by a congruence. -/
namespace Go.Proofs.Ytjlkhjgnfnfmgaa
open Go Go.AM
def hdN (p : List Int) (c : Nat) : Nat := (((classes (classN p) p).getD c []).getD 0 0).toNat
def quoR (t : List (List Int)) (p : List Int) (c : Nat) : List Int := (List.range (classN p)).map fun d => p.getD (en t (hdN p c) (hdN p d)) 0
def quoL (t : List (List Int)) (p : List Int) : List (List Int) := (List.range (classN p)).map fun c => quoR t p c
section
variable {t : List (List Int)} {p : List Int}
theorem cls_pos (hp : canon p = p) {c : Nat} (hc : c < classN p) : 0 < ((classes (classN p) p).getD c []).length := by
  have hm := (valid_range hp (c : Int)).1 ⟨by omega, by omega⟩
  obtain ⟨i, hi, he⟩ := mem_getD 0 hm
  have := (mem_classes (p := p) hc (x := (i : Int))).2 ⟨by omega, by omega, by rw [Int.toNat_natCast]; exact he⟩
  exact List.length_pos_of_mem this
theorem hd_at (hp : canon p = p) {c : Nat} (hc : c < classN p) : hdN p c < p.length ∧ p.getD (hdN p c) 0 = (c : Int) ∧ ((classes (classN p) p).getD c []).getD 0 0 = (hdN p c : Int) := by
  have hm := (mem_classes hc).1 (getD_mem (d := 0) (cls_pos hp hc))
  unfold hdN
  exact ⟨by omega, hm.2.2, by omega⟩
theorem cls_lt (hp : canon p = p) {x : Nat} (hx : x < p.length) : 0 ≤ p.getD x 0 ∧ (p.getD x 0).toNat < classN p ∧ p.getD x 0 = ((p.getD x 0).toNat : Int) := by
  have := (valid_range hp (p.getD x 0)).2 (getD_mem hx)
  omega
theorem quoR_len {c : Nat} : (quoR t p c).length = classN p := by simp [quoR]
theorem quoR_get {c d : Nat} (hd : d < classN p) : (quoR t p c).getD d 0 = p.getD (en t (hdN p c) (hdN p d)) 0 := by simp [quoR, List.getD, hd]
theorem quoL_len : (quoL t p).length = classN p := by simp [quoL]
theorem quoL_get {c : Nat} (hc : c < classN p) : (quoL t p).getD c [] = quoR t p c := by simp [quoL, List.getD, hc]
theorem cg_both (_hs : Sh t) (_hl : p.length = t.length) (hg : Cg t p 0) {x y x' y' : Nat} (hx : x < t.length) (hy : y < t.length) (hx' : x' < t.length) (hy' : y' < t.length) (h1 : p.getD x 0 = p.getD x' 0) (h2 : p.getD y 0 = p.getD y' 0) :
    p.getD (en t x y) 0 = p.getD (en t x' y') 0 :=
  ((hg x x' y hx hx' hy h1).2 (by decide)).trans ((hg y y' x' hy hy' hx' h2).1 (by decide))
theorem quo_hom (hs : Sh t) (hl : p.length = t.length) (hp : canon p = p) (hg : Cg t p 0) {x y : Nat} (hx : x < t.length) (hy : y < t.length) :
    ((quoL t p).getD (p.getD x 0).toNat []).getD (p.getD y 0).toNat 0 = p.getD (en t x y) 0 := by
  have h1 := cls_lt hp (x := x) (by omega)
  have h2 := cls_lt hp (x := y) (by omega)
  have k1 := hd_at hp h1.2.1
  have k2 := hd_at hp h2.2.1
  rw [quoL_get h1.2.1, quoR_get h2.2.1]
  exact (cg_both hs hl hg hx hy (by omega) (by omega) (by omega) (by omega)).symm
theorem quo_en_hom (hs : Sh t) (hl : p.length = t.length) (hp : canon p = p) (hg : Cg t p 0) {x y : Nat} (hx : x < t.length) (hy : y < t.length) :
    en (quoL t p) (p.getD x 0).toNat (p.getD y 0).toNat = (p.getD (en t x y) 0).toNat := by
  unfold en; rw [quo_hom hs hl hp hg hx hy]; rfl
theorem cls_some (hs : Sh t) (hl : p.length = t.length) : 0 < classN p := by
  have := hs.pos
  cases p with
  | nil => simp at hl; omega
  | cons a l =>
    have hm : a ∈ firsts (a :: l) := mem_firsts.2 (by simp)
    exact List.length_pos_of_mem hm
theorem quo_sh (hs : Sh t) (hl : p.length = t.length) (hp : canon p = p) : Sh (quoL t p) := by
  have hle : classN p ≤ p.length := firsts_le p
  have hm := hs.most
  refine ⟨by rw [quoL_len]; exact cls_some hs hl, by rw [quoL_len]; omega, fun r hr => ?_⟩
  obtain ⟨c, hc, rfl⟩ := mem_getD [] hr
  rw [quoL_len] at hc
  rw [quoL_get hc]
  refine ⟨by rw [quoR_len, quoL_len], fun x hx => ?_⟩
  obtain ⟨d, hd, rfl⟩ := mem_getD 0 hx
  rw [quoR_len] at hd
  rw [quoR_get hd, quoL_len]
  have k1 := hd_at hp hc
  have k2 := hd_at hp hd
  have k3 := cls_lt hp (x := en t (hdN p c) (hdN p d)) (by rw [hl]; exact (hs.ent (by omega) (by omega)).2)
  omega
theorem cls_rep (hl : p.length = t.length) (hp : canon p = p) {c : Nat} (hc : c < classN p) : ∃ x, x < t.length ∧ (p.getD x 0).toNat = c := by
  have k := hd_at hp hc
  exact ⟨hdN p c, by omega, by omega⟩
theorem quo_semi (hs : Semi t) (hl : p.length = t.length) (hp : canon p = p) (hg : Cg t p 0) : Semi (quoL t p) := by
  refine ⟨quo_sh hs.toSh hl hp, fun b hb a c ha hc => ?_⟩
  rw [quoL_len] at hb ha hc
  obtain ⟨x, hx, rfl⟩ := cls_rep hl hp ha
  obtain ⟨y, hy, rfl⟩ := cls_rep hl hp hb
  obtain ⟨z, hz, rfl⟩ := cls_rep hl hp hc
  have hS := hs.toSh
  rw [quo_en_hom hS hl hp hg hx hy, quo_en_hom hS hl hp hg hy hz, quo_en_hom hS hl hp hg (hS.ent hx hy).2 hz, quo_en_hom hS hl hp hg hx (hS.ent hy hz).2, assoc3 hs.assoc hx hy hz]
/-! ### How the rows are filled -/
def QuoIn (t : List (List Int)) (p : List Int) (i : Nat) (l : List (List Int)) : Prop :=
  l.length = classN p ∧ ∀ c, c < classN p → ((∃ x, x < i ∧ p.getD x 0 = (c : Int)) → l.getD c [] = quoR t p c) ∧ ((∀ x, x < i → p.getD x 0 ≠ (c : Int)) → l.getD c [] = [])
theorem QuoIn.start : QuoIn t p 0 (List.replicate (classN p) []) := ⟨by simp, fun c hc => ⟨fun ⟨x, hx, _⟩ => absurd hx (Nat.not_lt_zero _), fun _ => by simp [List.getD, hc]⟩⟩
theorem QuoIn.old (hp : canon p = p) {i : Nat} {l : List (List Int)} (h : QuoIn t p i l) (hi : i < p.length) (hn : l.getD (p.getD i 0).toNat [] ≠ []) : QuoIn t p (i + 1) l := by
  have hc := cls_lt hp hi
  have hsome : ∃ x, x < i ∧ p.getD x 0 = p.getD i 0 := Classical.byContradiction fun hne => hn ((h.2 _ hc.2.1).2 fun x hx e => hne ⟨x, hx, by rw [e]; exact hc.2.2.symm⟩)
  refine ⟨h.1, fun c hcc => ⟨fun ⟨x, hx, he⟩ => (h.2 c hcc).1 ?_, fun hno => (h.2 c hcc).2 fun x hx => hno x (by omega)⟩⟩
  by_cases hxi : x < i
  · exact ⟨x, hxi, he⟩
  · have : x = i := by omega
    subst this
    obtain ⟨y, hy, hye⟩ := hsome
    exact ⟨y, hy, hye.trans he⟩
theorem QuoIn.new (hp : canon p = p) {i : Nat} {l : List (List Int)} (h : QuoIn t p i l) (hi : i < p.length) {r : List Int} (hr : r = quoR t p (p.getD i 0).toNat) : QuoIn t p (i + 1) (l.set (p.getD i 0).toNat r) := by
  have hc := cls_lt hp hi
  have hlt : (p.getD i 0).toNat < l.length := by rw [h.1]; exact hc.2.1
  refine ⟨by rw [List.length_set]; exact h.1, fun c hcc => ?_⟩
  rw [getD_set _ _ _ _ _ hlt]
  by_cases e : c = (p.getD i 0).toNat
  · subst e
    rw [if_pos rfl]
    exact ⟨fun _ => hr, fun hno => absurd hc.2.2 (hno i (by omega))⟩
  · rw [if_neg e]
    refine ⟨fun ⟨x, hx, he⟩ => (h.2 c hcc).1 ⟨x, ?_, he⟩, fun hno => (h.2 c hcc).2 fun x hx => hno x (by omega)⟩
    rcases Nat.lt_or_ge x i with hxi | hxi
    · exact hxi
    · have : x = i := by omega
      subst this
      omega
theorem QuoIn.done (hp : canon p = p) {l : List (List Int)} {i : Nat} (h : QuoIn t p i l) (hi : p.length ≤ i) : l = quoL t p := by
  refine ext_getD [] (by rw [h.1, quoL_len]) fun c hc => ?_
  rw [h.1] at hc
  rw [quoL_get hc]
  have k := hd_at hp hc
  exact (h.2 c hc).1 ⟨hdN p c, by omega, k.2.1⟩
def RowIn (t : List (List Int)) (p : List Int) (i j : Nat) (r : List Int) : Prop :=
  r.length = classN p ∧ ∀ d, d < classN p → (∃ y, y < j ∧ p.getD y 0 = (d : Int)) → r.getD d 0 = p.getD (en t i (hdN p d)) 0
theorem RowIn.start {i : Nat} : RowIn t p i 0 (List.replicate (classN p) 0) := ⟨by simp, fun d _ ⟨y, hy, _⟩ => absurd hy (Nat.not_lt_zero _)⟩
theorem RowIn.next (hs : Sh t) (hl : p.length = t.length) (hp : canon p = p) (hg : Cg t p 0) {i j : Nat} {r : List Int} (h : RowIn t p i j r) (hi : i < t.length) (hj : j < p.length) : RowIn t p i (j + 1) (r.set (p.getD j 0).toNat (p.getD (en t i j) 0)) := by
  have hc := cls_lt hp hj
  have hlt : (p.getD j 0).toNat < r.length := by rw [h.1]; exact hc.2.1
  refine ⟨by rw [List.length_set]; exact h.1, fun d hd ⟨y, hy, he⟩ => ?_⟩
  rw [getD_set _ _ _ _ _ hlt]
  by_cases e : d = (p.getD j 0).toNat
  · subst e
    rw [if_pos rfl]
    have k := hd_at hp hd
    exact cg_both hs hl hg hi (by omega) hi (by omega) rfl (by rw [k.2.1]; exact hc.2.2)
  · rw [if_neg e]
    refine h.2 d hd ⟨y, ?_, he⟩
    rcases Nat.lt_or_ge y j with hyj | hyj
    · exact hyj
    · have : y = j := by omega
      subst this
      omega
theorem RowIn.done (hs : Sh t) (hl : p.length = t.length) (hp : canon p = p) (hg : Cg t p 0) {i j : Nat} {r : List Int} (h : RowIn t p i j r) (hi : i < t.length) (hj : p.length ≤ j) : r = quoR t p (p.getD i 0).toNat := by
  have hc := cls_lt hp (x := i) (by omega)
  refine ext_getD 0 (by rw [h.1, quoR_len]) fun d hd => ?_
  rw [h.1] at hd
  have k := hd_at hp hd
  have k2 := hd_at hp hc.2.1
  rw [h.2 d hd ⟨hdN p d, by omega, k.2.1⟩, quoR_get hd]
  exact cg_both hs hl hg hi (by omega) (by omega) (by omega) (by rw [k2.2.1]; exact hc.2.2) rfl
end
end Go.Proofs.Ytjlkhjgnfnfmgaa
end
