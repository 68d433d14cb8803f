import Derived.Test.YtpanlghofeebhaaEqvLaw
import Derived.Test.YtpanlghofeebhaaGroup
import Derived.Test.YtpanlghofeebhaaRefRees
section
section
/- Plain: congruences of a table. -/
namespace Go.Proofs.Ytpanlghofeebhaa
def CgA (t : List (List Int)) (p : List Int) (side : Int) (x y s : Nat) : Prop :=
  (side ≠ 2 → p.getD (en t s x) 0 = p.getD (en t s y) 0) ∧ (side ≠ 1 → p.getD (en t x s) 0 = p.getD (en t y s) 0)
def Cg (t : List (List Int)) (p : List Int) (side : Int) : Prop := ∀ x y s, x < t.length → y < t.length → s < t.length → p.getD x 0 = p.getD y 0 → CgA t p side x y s
structure IsCg (t : List (List Int)) (p : List Int) (side : Int) : Prop where
  semi : Semi t
  len : p.length = t.length
  val : validP p
  sd : 0 ≤ side ∧ side ≤ 2
  cg : Cg t p side
noncomputable def cgB (t : List (List Int)) (p : List Int) (side : Int) : Bool := @decide (IsCg t p side) (Classical.propDecidable _)
theorem cgB_true {t : List (List Int)} {p : List Int} {side : Int} : cgB t p side = true ↔ IsCg t p side := by unfold cgB; exact @decide_eq_true_iff _ (Classical.propDecidable _)
theorem cgB_false {t : List (List Int)} {p : List Int} {side : Int} : cgB t p side = false ↔ ¬ IsCg t p side := by unfold cgB; exact @decide_eq_false_iff_not _ (Classical.propDecidable _)
theorem CgA.trans {t : List (List Int)} {p : List Int} {side : Int} {x y z s : Nat} (h : CgA t p side x y s) (h' : CgA t p side z y s) : CgA t p side x z s :=
  ⟨fun hs => (h.1 hs).trans (h'.1 hs).symm, fun hs => (h.2 hs).trans (h'.2 hs).symm⟩
end Go.Proofs.Ytpanlghofeebhaa
end
section
/- Package congr: which partitions are congruences: contract. -/
namespace Go.Proofs.Ytpanlghofeebhaa
open Go Go.AM
set_option maxRecDepth 100000
def FstOk (p : List Int) (i : Nat) (f : List Int) : Prop := f.length = (firsts (p.take i)).length ∧ ∀ c, c < f.length → 0 ≤ f.getD c 0 ∧ (f.getD c 0).toNat < i ∧ p.getD (f.getD c 0).toNat 0 = c
theorem valid_upto {p : List Int} {i : Nat} (hi : i < p.length) (hok : ∀ j, j < p.length → stepOk p j) : (firsts (p.take (i + 1))).length = if p.getD i 0 = (firsts (p.take i)).length then (firsts (p.take i)).length + 1 else (firsts (p.take i)).length :=
  firsts_next hi (fun j hj => hok j (by omega)) (hok i hi)
theorem firsts_mono {p : List Int} (hok : ∀ j, j < p.length → stepOk p j) : ∀ {i x : Nat}, i ≤ p.length → x < i → p.getD x 0 < ((firsts (p.take i)).length : Int)
  | 0, x, _, h => absurd h (Nat.not_lt_zero _)
  | i + 1, x, hi, h => by
    have h1 := valid_upto hi hok
    have h2 := hok i hi
    by_cases e : x = i
    · subst e
      rw [h1]
      have := h2.2
      split <;> omega
    · have := firsts_mono hok (by omega : i ≤ p.length) (by omega : x < i)
      rw [h1]
      split <;> omega
theorem FstOk.old {p : List Int} {i x : Nat} {f : List Int} (hok : ∀ j, j < p.length → stepOk p j) (hi : i ≤ p.length) (hf : FstOk p i f) (hx : x < i) : (p.getD x 0).toNat < f.length := by
  have := firsts_mono hok hi hx
  have := (hok x (by omega)).1
  rw [hf.1]; omega
theorem FstOk.new {p : List Int} {i : Nat} {f : List Int} (hok : ∀ j, j < p.length → stepOk p j) (hi : i < p.length) (hf : FstOk p i f) (h : p.getD i 0 = (f.length : Int)) : FstOk p (i + 1) (f ++ [(i : Int)]) := by
  refine ⟨by rw [valid_upto hi hok, if_pos (by rw [h, hf.1]), ← hf.1]; simp, fun c hc => ?_⟩
  by_cases e : c < f.length
  · have h1 := hf.2 c e
    have h2 : (f ++ [(i : Int)]).getD c 0 = f.getD c 0 := by simp [List.getD, List.getElem?_append_left e]
    rw [h2]; exact ⟨h1.1, by omega, h1.2.2⟩
  · have h1 : c = f.length := by simp at hc; omega
    subst h1
    have h2 : (f ++ [(i : Int)]).getD f.length 0 = i := by simp [List.getD]
    rw [h2]; exact ⟨by omega, by omega, by rw [Int.toNat_natCast, h]⟩
theorem FstOk.same {p : List Int} {i : Nat} {f : List Int} (hok : ∀ j, j < p.length → stepOk p j) (hi : i < p.length) (hf : FstOk p i f) (h : ¬ p.getD i 0 = (f.length : Int)) : FstOk p (i + 1) f := by
  refine ⟨by rw [valid_upto hi hok, if_neg (by rw [← hf.1]; exact h), ← hf.1], fun c hc => ?_⟩
  have h1 := hf.2 c hc
  exact ⟨h1.1, by omega, h1.2.2⟩
theorem getD_appL {l m : List Int} {k : Nat} (h : k < l.length) : (l ++ m).getD k 0 = l.getD k 0 := by simp [List.getD, List.getElem?_append_left h]
set_option maxHeartbeats 2000000 in
theorem cgr_k (t : List (List Int)) (p : List Int) (side : Int) (hl : p.length ≤ 140737488355328) : fnK TY SP Try.f17 [.ro (.rows .i64 t), .ro (.ints .i64 p), .int .i64 side] (.bool (.v (cgB t p side))) := by
  have no : ¬ IsCg t p side → (BE.lit false).val = (BE.v (cgB t p side)).val := fun h => (cgB_false.2 h).symm
  refine And.intro (fun h1 => ?_) (fun h1 => ?_)
  · refine And.intro (no fun h => by have := h.sd; omega) trivial
  refine And.intro (fun h2 => ?_) (fun h2 => ?_)
  · refine And.intro (no fun h => by have := h.sd; omega) trivial
  refine And.intro (fun h3 => ?_) (fun h3 => ?_)
  · refine And.intro (no fun h => by have := h.len; omega) trivial
  refine Or.inl (cq (pvalid_fn p) (And.intro rfl trivial) ?_)
  refine And.intro (fun h4 => ?_) (fun h4 => ?_)
  · refine And.intro (no fun h => ?_) trivial
    have h4 : (!decide (validP p)) = true := h4
    rw [decide_eq_true h.val] at h4; cases h4
  refine Or.inl (cq (valid_fn t) (And.intro rfl trivial) ?_)
  refine And.intro (fun h5 => ?_) (fun h5 => ?_)
  · refine And.intro (no fun h => h5 (valid_zero.2 h.semi)) trivial
  have hs := valid_zero.1 h5
  have hsh := hs.toSh
  have hmost := hs.most
  have hval : validP p := by simpa using h4
  have hlen : p.length = t.length := by omega
  have hok := (validP_iff.1 hval).2
  refine Exists.intro [] <| lp2 (fun (i : Nat) (f : List Int) => [(37, .int .i64 i), (7, .vec 49)]) (fun _ f => [(49, .vec 0 (.ints .i64 f) [])]) (fun i f => i ≤ p.length ∧ FstOk p i f ∧ ∀ x, x < i → ∀ s, s < t.length → CgA t p side x (f.getD (p.getD x 0).toNat 0).toNat s) (fun i _ => p.length - i) 0 [] ⟨Nat.zero_le _, ⟨rfl, fun c hc => absurd hc (Nat.not_lt_zero _)⟩, fun j hj => absurd hj (Nat.not_lt_zero _)⟩ (by repeat' first | refine And.intro ?_ ?_ | exact True.intro | (show (_ : Int) = (_ : Int); omega) | omega | exact rfl | (simp only [RO.len]; omega)) ?_
  rintro i f ⟨hi, hf, ha⟩
  refine And.intro (fun h1 => ?_) (fun h1 => ?_)
  · have hil : i < p.length := by omega
    have hit : i < t.length := by omega
    have hst := hok i hil
    have hfle : f.length ≤ i := by
      have := firsts_le (p.take i)
      rw [List.length_take] at this
      have := hf.1
      omega
    refine And.intro (by omega) ?_
    refine And.intro (fun h2 => ?_) (fun h2 => ?_)
    · have h2 : p.getD i 0 = (f.length : Int) := h2
      have hfl : (f ++ [(i : Int)]).length = f.length + 1 := by simp
      have hat : (f ++ [(i : Int)]).getD (p.getD i 0).toNat 0 = i := by
        rw [h2, Int.toNat_natCast]; simp [List.getD]
      have hn := FstOk.new hok hil hf h2
      refine And.intro (by omega) ?_
      refine And.intro (show 0 ≤ p.getD i 0 ∧ p.getD i 0 < ((f ++ [(i : Int)]).length : Int) by omega) ?_
      have hy : 0 ≤ (f ++ [(i : Int)]).getD (p.getD i 0).toNat 0 ∧ (f ++ [(i : Int)]).getD (p.getD i 0).toNat 0 < (t.length : Int) := by rw [hat]; omega
      have hpy : p.getD ((f ++ [(i : Int)]).getD (p.getD i 0).toNat 0).toNat 0 = p.getD i 0 := by rw [hat, Int.toNat_natCast]
      have hold : ∀ x, x < i → (f ++ [(i : Int)]).getD (p.getD x 0).toNat 0 = f.getD (p.getD x 0).toNat 0 := fun x hx => by
        have := FstOk.old hok (by omega) hf hx
        exact getD_appL this
      have hyN : ((f ++ [(i : Int)]).getD (p.getD i 0).toNat 0).toNat < t.length := by omega
      refine Exists.intro [] <| lp (X := Nat) (fun s => [(56, .int .i64 s)]) (fun _ => [(49, .vec 0 (.ints .i64 (f ++ [(i : Int)])) [])]) (fun s => s ≤ t.length ∧ ∀ s', s' < s → CgA t p side i ((f ++ [(i : Int)]).getD (p.getD i 0).toNat 0).toNat s') (fun s => t.length - s) 0 ⟨Nat.zero_le _, fun j hj => absurd hj (Nat.not_lt_zero _)⟩ (by repeat' first | refine And.intro ?_ ?_ | exact True.intro | (show (_ : Int) = (_ : Int); omega) | omega | exact rfl | (simp only [RO.len]; omega)) ?_
      rintro s ⟨hsn, hss⟩
      refine And.intro (fun h6 => ?_) (fun h6 => ?_)
      · have hsl : s < t.length := by omega
        have e1 := hsh.ent hsl hit
        have e2 := hsh.ent hsl hyN
        have e3 := hsh.ent hit hsl
        have e4 := hsh.ent hyN hsl
        have r1 := hsh.len hsl
        have r2 := hsh.len hit
        have r3 := hsh.len hyN
        have nxt : CgA t p side i ((f ++ [(i : Int)]).getD (p.getD i 0).toNat 0).toNat s → s + 1 ≤ t.length ∧ ∀ s', s' < s + 1 → CgA t p side i ((f ++ [(i : Int)]).getD (p.getD i 0).toNat 0).toNat s' := fun hc => ⟨by omega, fun s' hs' => by
          by_cases e : s' = s
          · subst e; exact hc
          · exact hss s' (by omega)⟩
        have bad1 : side ≠ 2 → p.getD (en t s i) 0 ≠ p.getD (en t s ((f ++ [(i : Int)]).getD (p.getD i 0).toNat 0).toNat) 0 → ¬ IsCg t p side := fun g1 g2 h => g2 ((h.cg i _ s hit hyN hsl hpy.symm).1 g1)
        have bad2 : side ≠ 1 → p.getD (en t i s) 0 ≠ p.getD (en t ((f ++ [(i : Int)]).getD (p.getD i 0).toNat 0).toNat s) 0 → ¬ IsCg t p side := fun g1 g2 h => g2 ((h.cg i _ s hit hyN hsl hpy.symm).2 g1)
        refine Or.inl ?_
        refine Exists.intro (List.replicate 52 false) (And.intro (by decide +kernel) ?_)
        refine And.intro (fun h7 => ?_) (fun h7 => ?_)
        · refine And.intro (by omega) ?_
          refine And.intro (show 0 ≤ (i : Int) ∧ (i : Int) < ((t.getD s []).length : Int) by omega) ?_
          refine And.intro (show 0 ≤ (t.getD s []).getD i 0 ∧ (t.getD s []).getD i 0 < (p.length : Int) by omega) ?_
          refine And.intro (by omega) ?_
          refine And.intro (show 0 ≤ (f ++ [(i : Int)]).getD (p.getD i 0).toNat 0 ∧ (f ++ [(i : Int)]).getD (p.getD i 0).toNat 0 < ((t.getD s []).length : Int) by omega) ?_
          refine And.intro (show 0 ≤ (t.getD s []).getD ((f ++ [(i : Int)]).getD (p.getD i 0).toNat 0).toNat 0 ∧ (t.getD s []).getD ((f ++ [(i : Int)]).getD (p.getD i 0).toNat 0).toNat 0 < (p.length : Int) by omega) ?_
          refine And.intro (fun h8 => ?_) (fun h8 => ?_)
          · refine And.intro (no (bad1 h7 h8)) trivial
          refine And.intro (fun h9 => ?_) (fun h9 => ?_)
          · refine And.intro (by omega) ?_
            refine And.intro (show 0 ≤ (s : Int) ∧ (s : Int) < ((t.getD i []).length : Int) by omega) ?_
            refine And.intro (show 0 ≤ (t.getD i []).getD s 0 ∧ (t.getD i []).getD s 0 < (p.length : Int) by omega) ?_
            refine And.intro hy ?_
            refine And.intro (show 0 ≤ (s : Int) ∧ (s : Int) < ((t.getD ((f ++ [(i : Int)]).getD (p.getD i 0).toNat 0).toNat []).length : Int) by omega) ?_
            refine And.intro (show 0 ≤ (t.getD ((f ++ [(i : Int)]).getD (p.getD i 0).toNat 0).toNat []).getD s 0 ∧ (t.getD ((f ++ [(i : Int)]).getD (p.getD i 0).toNat 0).toNat []).getD s 0 < (p.length : Int) by omega) ?_
            refine And.intro (fun h10 => ?_) (fun h10 => ?_)
            · refine And.intro (no (bad2 h9 h10)) trivial
            refine And.intro (by omega) ?_
            exact nx (s + 1) (nxt ⟨fun _ => h8, fun _ => h10⟩) (show t.length - (s + 1) < t.length - s by omega) (by repeat' first | refine And.intro ?_ ?_ | exact True.intro | (show (_ : Int) = (_ : Int); omega) | omega | exact rfl | (simp only [RO.len]; omega))
          · refine And.intro (by omega) ?_
            exact nx (s + 1) (nxt ⟨fun _ => h8, fun g => absurd h9 g⟩) (show t.length - (s + 1) < t.length - s by omega) (by repeat' first | refine And.intro ?_ ?_ | exact True.intro | (show (_ : Int) = (_ : Int); omega) | omega | exact rfl | (simp only [RO.len]; omega))
        · refine And.intro (fun h9 => ?_) (fun h9 => ?_)
          · refine And.intro (by omega) ?_
            refine And.intro (show 0 ≤ (s : Int) ∧ (s : Int) < ((t.getD i []).length : Int) by omega) ?_
            refine And.intro (show 0 ≤ (t.getD i []).getD s 0 ∧ (t.getD i []).getD s 0 < (p.length : Int) by omega) ?_
            refine And.intro hy ?_
            refine And.intro (show 0 ≤ (s : Int) ∧ (s : Int) < ((t.getD ((f ++ [(i : Int)]).getD (p.getD i 0).toNat 0).toNat []).length : Int) by omega) ?_
            refine And.intro (show 0 ≤ (t.getD ((f ++ [(i : Int)]).getD (p.getD i 0).toNat 0).toNat []).getD s 0 ∧ (t.getD ((f ++ [(i : Int)]).getD (p.getD i 0).toNat 0).toNat []).getD s 0 < (p.length : Int) by omega) ?_
            refine And.intro (fun h10 => ?_) (fun h10 => ?_)
            · refine And.intro (no (bad2 h9 h10)) trivial
            refine And.intro (by omega) ?_
            exact nx (s + 1) (nxt ⟨fun g => absurd h7 g, fun _ => h10⟩) (show t.length - (s + 1) < t.length - s by omega) (by repeat' first | refine And.intro ?_ ?_ | exact True.intro | (show (_ : Int) = (_ : Int); omega) | omega | exact rfl | (simp only [RO.len]; omega))
          · exact absurd (h7.symm.trans h9) (by decide)
      · refine And.intro (by omega) ?_
        refine nx (i + 1, (f ++ [(i : Int)])) ⟨by omega, hn, fun x hx s' hs' => ?_⟩ (show p.length - (i + 1) < p.length - i by omega) (by repeat' first | refine And.intro ?_ ?_ | exact True.intro | (show (_ : Int) = (_ : Int); omega) | omega | exact rfl | (simp only [RO.len]; omega))
        by_cases e : x = i
        · subst e; exact hss s' (by omega)
        · rw [hold x (by omega)]; exact ha x (by omega) s' hs'
    · have h2 : ¬ p.getD i 0 = (f.length : Int) := h2
      have hn := FstOk.same hok hil hf h2
      have hlt : (p.getD i 0).toNat < f.length := by have := hf.1; have := hst.1; have := hst.2; omega
      have h1y := hf.2 _ hlt
      refine And.intro (show 0 ≤ p.getD i 0 ∧ p.getD i 0 < (f.length : Int) by have := hst.1; omega) ?_
      have hy : 0 ≤ f.getD (p.getD i 0).toNat 0 ∧ f.getD (p.getD i 0).toNat 0 < (t.length : Int) := by omega
      have hpy : p.getD (f.getD (p.getD i 0).toNat 0).toNat 0 = p.getD i 0 := by have := hst.1; rw [h1y.2.2]; omega
      have hold : ∀ x, x < i → f.getD (p.getD x 0).toNat 0 = f.getD (p.getD x 0).toNat 0 := fun _ _ => rfl
      have hyN : (f.getD (p.getD i 0).toNat 0).toNat < t.length := by omega
      refine Exists.intro [] <| lp (X := Nat) (fun s => [(56, .int .i64 s)]) (fun _ => [(49, .vec 0 (.ints .i64 f) [])]) (fun s => s ≤ t.length ∧ ∀ s', s' < s → CgA t p side i (f.getD (p.getD i 0).toNat 0).toNat s') (fun s => t.length - s) 0 ⟨Nat.zero_le _, fun j hj => absurd hj (Nat.not_lt_zero _)⟩ (by repeat' first | refine And.intro ?_ ?_ | exact True.intro | (show (_ : Int) = (_ : Int); omega) | omega | exact rfl | (simp only [RO.len]; omega)) ?_
      rintro s ⟨hsn, hss⟩
      refine And.intro (fun h6 => ?_) (fun h6 => ?_)
      · have hsl : s < t.length := by omega
        have e1 := hsh.ent hsl hit
        have e2 := hsh.ent hsl hyN
        have e3 := hsh.ent hit hsl
        have e4 := hsh.ent hyN hsl
        have r1 := hsh.len hsl
        have r2 := hsh.len hit
        have r3 := hsh.len hyN
        have nxt : CgA t p side i (f.getD (p.getD i 0).toNat 0).toNat s → s + 1 ≤ t.length ∧ ∀ s', s' < s + 1 → CgA t p side i (f.getD (p.getD i 0).toNat 0).toNat s' := fun hc => ⟨by omega, fun s' hs' => by
          by_cases e : s' = s
          · subst e; exact hc
          · exact hss s' (by omega)⟩
        have bad1 : side ≠ 2 → p.getD (en t s i) 0 ≠ p.getD (en t s (f.getD (p.getD i 0).toNat 0).toNat) 0 → ¬ IsCg t p side := fun g1 g2 h => g2 ((h.cg i _ s hit hyN hsl hpy.symm).1 g1)
        have bad2 : side ≠ 1 → p.getD (en t i s) 0 ≠ p.getD (en t (f.getD (p.getD i 0).toNat 0).toNat s) 0 → ¬ IsCg t p side := fun g1 g2 h => g2 ((h.cg i _ s hit hyN hsl hpy.symm).2 g1)
        refine Or.inl ?_
        refine Exists.intro (List.replicate 52 false) (And.intro (by decide +kernel) ?_)
        refine And.intro (fun h7 => ?_) (fun h7 => ?_)
        · refine And.intro (by omega) ?_
          refine And.intro (show 0 ≤ (i : Int) ∧ (i : Int) < ((t.getD s []).length : Int) by omega) ?_
          refine And.intro (show 0 ≤ (t.getD s []).getD i 0 ∧ (t.getD s []).getD i 0 < (p.length : Int) by omega) ?_
          refine And.intro (by omega) ?_
          refine And.intro (show 0 ≤ f.getD (p.getD i 0).toNat 0 ∧ f.getD (p.getD i 0).toNat 0 < ((t.getD s []).length : Int) by omega) ?_
          refine And.intro (show 0 ≤ (t.getD s []).getD (f.getD (p.getD i 0).toNat 0).toNat 0 ∧ (t.getD s []).getD (f.getD (p.getD i 0).toNat 0).toNat 0 < (p.length : Int) by omega) ?_
          refine And.intro (fun h8 => ?_) (fun h8 => ?_)
          · refine And.intro (no (bad1 h7 h8)) trivial
          refine And.intro (fun h9 => ?_) (fun h9 => ?_)
          · refine And.intro (by omega) ?_
            refine And.intro (show 0 ≤ (s : Int) ∧ (s : Int) < ((t.getD i []).length : Int) by omega) ?_
            refine And.intro (show 0 ≤ (t.getD i []).getD s 0 ∧ (t.getD i []).getD s 0 < (p.length : Int) by omega) ?_
            refine And.intro hy ?_
            refine And.intro (show 0 ≤ (s : Int) ∧ (s : Int) < ((t.getD (f.getD (p.getD i 0).toNat 0).toNat []).length : Int) by omega) ?_
            refine And.intro (show 0 ≤ (t.getD (f.getD (p.getD i 0).toNat 0).toNat []).getD s 0 ∧ (t.getD (f.getD (p.getD i 0).toNat 0).toNat []).getD s 0 < (p.length : Int) by omega) ?_
            refine And.intro (fun h10 => ?_) (fun h10 => ?_)
            · refine And.intro (no (bad2 h9 h10)) trivial
            refine And.intro (by omega) ?_
            exact nx (s + 1) (nxt ⟨fun _ => h8, fun _ => h10⟩) (show t.length - (s + 1) < t.length - s by omega) (by repeat' first | refine And.intro ?_ ?_ | exact True.intro | (show (_ : Int) = (_ : Int); omega) | omega | exact rfl | (simp only [RO.len]; omega))
          · refine And.intro (by omega) ?_
            exact nx (s + 1) (nxt ⟨fun _ => h8, fun g => absurd h9 g⟩) (show t.length - (s + 1) < t.length - s by omega) (by repeat' first | refine And.intro ?_ ?_ | exact True.intro | (show (_ : Int) = (_ : Int); omega) | omega | exact rfl | (simp only [RO.len]; omega))
        · refine And.intro (fun h9 => ?_) (fun h9 => ?_)
          · refine And.intro (by omega) ?_
            refine And.intro (show 0 ≤ (s : Int) ∧ (s : Int) < ((t.getD i []).length : Int) by omega) ?_
            refine And.intro (show 0 ≤ (t.getD i []).getD s 0 ∧ (t.getD i []).getD s 0 < (p.length : Int) by omega) ?_
            refine And.intro hy ?_
            refine And.intro (show 0 ≤ (s : Int) ∧ (s : Int) < ((t.getD (f.getD (p.getD i 0).toNat 0).toNat []).length : Int) by omega) ?_
            refine And.intro (show 0 ≤ (t.getD (f.getD (p.getD i 0).toNat 0).toNat []).getD s 0 ∧ (t.getD (f.getD (p.getD i 0).toNat 0).toNat []).getD s 0 < (p.length : Int) by omega) ?_
            refine And.intro (fun h10 => ?_) (fun h10 => ?_)
            · refine And.intro (no (bad2 h9 h10)) trivial
            refine And.intro (by omega) ?_
            exact nx (s + 1) (nxt ⟨fun g => absurd h7 g, fun _ => h10⟩) (show t.length - (s + 1) < t.length - s by omega) (by repeat' first | refine And.intro ?_ ?_ | exact True.intro | (show (_ : Int) = (_ : Int); omega) | omega | exact rfl | (simp only [RO.len]; omega))
          · exact absurd (h7.symm.trans h9) (by decide)
      · refine And.intro (by omega) ?_
        refine nx (i + 1, f) ⟨by omega, hn, fun x hx s' hs' => ?_⟩ (show p.length - (i + 1) < p.length - i by omega) (by repeat' first | refine And.intro ?_ ?_ | exact True.intro | (show (_ : Int) = (_ : Int); omega) | omega | exact rfl | (simp only [RO.len]; omega))
        by_cases e : x = i
        · subst e; exact hss s' (by omega)
        · rw [hold x (by omega)]; exact ha x (by omega) s' hs'
  · refine And.intro ?_ trivial
    have hip : i = p.length := by omega
    subst hip
    refine (cgB_true.2 ⟨hs, hlen, hval, ⟨by omega, by omega⟩, fun x y s hx hy hsl hxy => ?_⟩).symm
    have h1 := ha x (by omega) s hsl
    have h2 := ha y (by omega) s hsl
    rw [hxy] at h1
    exact h1.trans h2
theorem cgr_fn (t : List (List Int)) (p : List Int) (side : Int) : QF 17 [.ro (.rows .i64 t), .ro (.ints .i64 p), .int .i64 side] (.bool (.v (cgB t p side))) := mkQ Try.func17 (by decide +kernel) rfl (Nat.le_of_ble_eq_true rfl) fun hf => cgr_k t p side hf.2.1.1
end Go.Proofs.Ytpanlghofeebhaa
end
section
/- The references of chapters 3 and 19: valid partitions, congruences: contracts. -/
namespace Go.Proofs.Ytpanlghofeebhaa
open Go Go.AM
set_option maxRecDepth 100000
end Go.Proofs.Ytpanlghofeebhaa
end
end
section
/- Plain: the congruence that pairs generate; how the forest of congr makes it. -/
namespace Go.Proofs.Ytpanlghofeebhaa
open Go Go.AM
inductive Cgr (t : List (List Int)) (side : Int) (R : Nat → Nat → Prop) : Nat → Nat → Prop
  | rel {a b : Nat} (h : R a b) : Cgr t side R a b
  | refl (a : Nat) : Cgr t side R a a
  | symm {a b : Nat} (h : Cgr t side R a b) : Cgr t side R b a
  | trans {a b c : Nat} (h : Cgr t side R a b) (h' : Cgr t side R b c) : Cgr t side R a c
  | left {a b s : Nat} (h0 : side ≠ 2) (hs : s < t.length) (ha : a < t.length) (hb : b < t.length) (h : Cgr t side R a b) : Cgr t side R (en t s a) (en t s b)
  | right {a b s : Nat} (h0 : side ≠ 1) (hs : s < t.length) (ha : a < t.length) (hb : b < t.length) (h : Cgr t side R a b) : Cgr t side R (en t a s) (en t b s)
theorem Cgr.least {t : List (List Int)} {side : Int} {R Q : Nat → Nat → Prop} (hr : ∀ a, Q a a) (hs : ∀ a b, Q a b → Q b a) (ht : ∀ a b c, Q a b → Q b c → Q a c) (h : ∀ a b, R a b → Q a b)
    (hl : side ≠ 2 → ∀ a b s, s < t.length → a < t.length → b < t.length → Q a b → Q (en t s a) (en t s b)) (hR : side ≠ 1 → ∀ a b s, s < t.length → a < t.length → b < t.length → Q a b → Q (en t a s) (en t b s)) {a b : Nat} (e : Cgr t side R a b) : Q a b := by
  induction e with
  | rel h1 => exact h _ _ h1
  | refl a => exact hr a
  | symm _ ih => exact hs _ _ ih
  | trans _ _ i1 i2 => exact ht _ _ _ i1 i2
  | left h0 h1 h2 h3 _ ih => exact hl h0 _ _ _ h1 h2 h3 ih
  | right h0 h1 h2 h3 _ ih => exact hR h0 _ _ _ h1 h2 h3 ih
noncomputable def cgrB (t : List (List Int)) (side : Int) (R : Nat → Nat → Prop) (a b : Nat) : Bool := @decide (Cgr t side R a b) (Classical.propDecidable _)
theorem cgrB_true {t : List (List Int)} {side : Int} {R : Nat → Nat → Prop} {a b : Nat} : cgrB t side R a b = true ↔ Cgr t side R a b := by unfold cgrB; exact @decide_eq_true_iff _ (Classical.propDecidable _)
theorem cgr_pre (t : List (List Int)) (side : Int) (R : Nat → Nat → Prop) : Pre t.length (cgrB t side R) :=
  pre_of (fun x _ => cgrB_true.2 (.refl x)) fun _ _ _ _ _ _ h h' => cgrB_true.2 ((cgrB_true.1 h).trans (cgrB_true.1 h'))
noncomputable def genP (t : List (List Int)) (side : Int) (R : Nat → Nat → Prop) : List Int := clsL t.length (cgrB t side R)
section
variable {t : List (List Int)} {side : Int} {R : Nat → Nat → Prop}
theorem genP_len : (genP t side R).length = t.length := clsL_len _ _
theorem genP_canon : canon (genP t side R) = genP t side R := canon_idem _
theorem genP_iff {a b : Nat} (ha : a < t.length) (hb : b < t.length) : (genP t side R).getD a 0 = (genP t side R).getD b 0 ↔ Cgr t side R a b := by
  unfold genP
  rw [clsL_iff (cgr_pre t side R) ha hb, cgrB_true, cgrB_true]
  exact ⟨fun h => h.1, fun h => ⟨h, h.symm⟩⟩
theorem genP_cg (hs : Sh t) : Cg t (genP t side R) side := fun x y s hx hy hsl e => by
  have e := (genP_iff hx hy).1 e
  exact ⟨fun h0 => (genP_iff (hs.ent hsl hx).2 (hs.ent hsl hy).2).2 (.left h0 hsl hx hy e), fun h0 => (genP_iff (hs.ent hx hsl).2 (hs.ent hy hsl).2).2 (.right h0 hsl hx hy e)⟩
theorem genP_valid (hs : Sh t) : validP (genP t side R) := ⟨by rw [genP_len]; have := hs.most; omega, genP_canon⟩
theorem genP_is (h : Semi t) (h0 : 0 ≤ side ∧ side ≤ 2) : IsCg t (genP t side R) side := ⟨h, genP_len, genP_valid h.toSh, h0, genP_cg h.toSh⟩
theorem Cgr.sub {p : List Int} (hR : ∀ a b, R a b → p.getD a 0 = p.getD b 0) (hg : Cg t p side) {a b : Nat} (e : Cgr t side R a b) : p.getD a 0 = p.getD b 0 :=
  e.least (Q := fun a b => p.getD a 0 = p.getD b 0) (fun _ => rfl) (fun _ _ h => h.symm) (fun _ _ _ h h' => h.trans h') hR
    (fun h0 a b s hs ha hb h => (hg a b s ha hb hs h).1 h0) (fun h0 a b s hs ha hb h => (hg a b s ha hb hs h).2 h0)
end
/-! ### From generators to all elements -/
section
variable {t : List (List Int)} {side : Int}
theorem eg_gens {J : Nat → Nat → Prop} (hs : Semi t) (_hJ : ∀ a b, J a b → a < t.length ∧ b < t.length) {gens : List Int} (hg : ∀ g ∈ gens, 0 ≤ g ∧ g < (t.length : Int))
    (hc : ∀ a b, J a b → ∀ g ∈ gens, (side ≠ 2 → Eg J (en t g.toNat a) (en t g.toNat b)) ∧ (side ≠ 1 → Eg J (en t a g.toNat) (en t b g.toNat))) {s : Nat} (m : Mk t gens s) :
    ∀ a b, a < t.length → b < t.length → Eg J a b → (side ≠ 2 → Eg J (en t s a) (en t s b)) ∧ (side ≠ 1 → Eg J (en t a s) (en t b s)) := by
  have hS := hs.toSh
  have base : ∀ g ∈ gens, ∀ a b, Eg J a b → (side ≠ 2 → Eg J (en t g.toNat a) (en t g.toNat b)) ∧ (side ≠ 1 → Eg J (en t a g.toNat) (en t b g.toNat)) := fun g hgm a b e =>
    e.least (Q := fun a b => (side ≠ 2 → Eg J (en t g.toNat a) (en t g.toNat b)) ∧ (side ≠ 1 → Eg J (en t a g.toNat) (en t b g.toNat))) (fun _ => ⟨fun _ => .refl _, fun _ => .refl _⟩) (fun _ _ h => ⟨fun h0 => (h.1 h0).symm, fun h0 => (h.2 h0).symm⟩)
      (fun _ _ _ h h' => ⟨fun h0 => (h.1 h0).trans (h'.1 h0), fun h0 => (h.2 h0).trans (h'.2 h0)⟩) fun a b h => hc a b h g hgm
  have key : ∀ {s : Nat}, Mk t gens s → s < t.length ∧ ∀ a b, a < t.length → b < t.length → Eg J a b → (side ≠ 2 → Eg J (en t s a) (en t s b)) ∧ (side ≠ 1 → Eg J (en t a s) (en t b s)) := fun {s} m => by
    induction m with
    | gen h => exact ⟨by have := hg _ h; omega, fun a b _ _ e => base _ h a b e⟩
    | mul ha hb i1 i2 =>
      rename_i u v
      refine ⟨(hS.ent i1.1 i2.1).2, fun a b hal hbl e => ⟨fun h0 => ?_, fun h0 => ?_⟩⟩
      · rw [assoc3 hs.assoc i1.1 i2.1 hal, assoc3 hs.assoc i1.1 i2.1 hbl]
        exact (i1.2 _ _ (hS.ent i2.1 hal).2 (hS.ent i2.1 hbl).2 ((i2.2 a b hal hbl e).1 h0)).1 h0
      · rw [← assoc3 hs.assoc hal i1.1 i2.1, ← assoc3 hs.assoc hbl i1.1 i2.1]
        exact (i2.2 _ _ (hS.ent hal i1.1).2 (hS.ent hbl i1.1).2 ((i1.2 a b hal hbl e).2 h0)).2 h0
  exact (key m).2
end
/-! ### The forest: joined or not; the number of classes -/
def rtB (r : Nat → Nat) (i : Nat) : Bool := decide (r i = i)
def cntR (n : Nat) (r : Nat → Nat) : Nat := ((List.range n).filter (rtB r)).length
theorem cnt_del {P : Nat → Bool} {M : Nat} : ∀ {n : Nat}, M < n → P M = true → ((List.range n).filter fun i => P i && decide (i ≠ M)).length + 1 = ((List.range n).filter P).length := by
  have no : ∀ n, n ≤ M → ((List.range n).filter fun i => P i && decide (i ≠ M)) = (List.range n).filter P := fun n hn =>
    List.filter_congr fun x hx => by
      have := List.mem_range.1 hx
      have : x ≠ M := by omega
      simp [this]
  intro n
  induction n with
  | zero => intro h; omega
  | succ n ih =>
    intro h hp
    rw [List.range_succ, List.filter_append, List.filter_append, List.length_append, List.length_append]
    by_cases e : M = n
    · subst e
      rw [no M (Nat.le_refl _)]
      simp [hp]
    · have := ih (by omega) hp
      have hn : (decide (n ≠ M)) = true := decide_eq_true (fun h => e h.symm)
      have : ([n].filter fun i => P i && decide (i ≠ M)) = [n].filter P := by
        simp only [List.filter_cons, hn, Bool.and_true, List.filter_nil]
      rw [this]; omega
theorem cnt_union {n : Nat} {p : List Int} {r : Nat → Nat} (h : Fo n p r) {i j : Nat} (hi : i < n) (hj : j < n) (hne : r i ≠ r j) : cntR n (ufR r i j) + 1 = cntR n r := by
  have hM : max (r i) (r j) < n := by have := h.rlt hi; have := h.rlt hj; omega
  have hr : r (max (r i) (r j)) = max (r i) (r j) ∧ r (min (r i) (r j)) = min (r i) (r j) := by
    have h1 := h.rr hi
    have h2 := h.rr hj
    rcases Nat.le_total (r i) (r j) with e | e
    · rw [Nat.max_eq_right e, Nat.min_eq_left e]; exact ⟨h2, h1⟩
    · rw [Nat.max_eq_left e, Nat.min_eq_right e]; exact ⟨h1, h2⟩
  have hlt : min (r i) (r j) < max (r i) (r j) := by omega
  have := cnt_del (P := rtB r) hM (by unfold rtB; exact decide_eq_true hr.1)
  unfold cntR
  rw [← this]
  congr 1
  refine congrArg List.length (List.filter_congr fun k hk => ?_)
  unfold rtB ufR
  generalize max (r i) (r j) = M at *
  generalize min (r i) (r j) = m at *
  by_cases e : r k = M
  · rw [if_pos e]
    have h1 : ¬ m = k := fun e2 => by rw [← e2, hr.2] at e; omega
    by_cases h2 : k = M
    · simp [h2]
      intro; omega
    · have h3 : ¬ r k = k := fun e2 => h2 (by omega)
      simp [h1, h3]
  · rw [if_neg e]
    have h2 : k ≠ M := fun e2 => e (by rw [e2]; exact hr.1)
    simp [h2]
theorem cnt_le (n : Nat) (r : Nat → Nat) : cntR n r ≤ n := by
  have := List.length_filter_le (rtB r) (List.range n)
  rw [List.length_range] at this
  exact this
theorem cnt_id (n : Nat) : cntR n id = n := by
  unfold cntR
  rw [List.filter_eq_self.2 fun x _ => by unfold rtB; exact decide_eq_true rfl, List.length_range]
def fn2L (p : List Int) (i j : Nat) : List Int := fndL (j + 1) (fndL (i + 1) p i) j
theorem fn2_fo {n : Nat} {p : List Int} {r : Nat → Nat} (h : Fo n p r) {i j : Nat} (hi : i < n) (hj : j < n) : Fo n (fn2L p i j) r := fndL_fo _ (fndL_fo _ h hi) hj
def jnP (r : Nat → Nat) (p : List Int) (i j : Nat) : List Int := if r i = r j then fn2L p i j else ufL r p i j
def jnR (r : Nat → Nat) (i j : Nat) : Nat → Nat := if r i = r j then r else ufR r i j
theorem jn_fo {n : Nat} {p : List Int} {r : Nat → Nat} (h : Fo n p r) {i j : Nat} (hi : i < n) (hj : j < n) : Fo n (jnP r p i j) (jnR r i j) := by
  unfold jnP jnR
  by_cases e : r i = r j
  · rw [if_pos e, if_pos e]; exact fn2_fo h hi hj
  · rw [if_neg e, if_neg e]; exact h.union hi hj
theorem jn_ker {n : Nat} {r : Nat → Nat} {R : Nat → Nat → Prop} (h : KerR n r R) {i j : Nat} (hi : i < n) (hj : j < n) : KerR n (jnR r i j) (orP R i j) := by
  unfold jnR
  by_cases e : r i = r j
  · rw [if_pos e]
    intro a b ha hb
    rw [h a b ha hb]
    refine ⟨fun k => k.mono fun a b h => .rel (.inl h), fun k => k.mono fun a b h => ?_⟩
    rcases h with h | ⟨rfl, rfl⟩
    · exact .rel h
    · exact (h a b hi hj).1 e
  · rw [if_neg e]; exact h.union hi hj
theorem jn_cnt {n : Nat} {p : List Int} {r : Nat → Nat} (h : Fo n p r) {i j : Nat} (hi : i < n) (hj : j < n) : cntR n (jnR r i j) + (if r i = r j then 0 else 1) = cntR n r := by
  unfold jnR
  by_cases e : r i = r j
  · rw [if_pos e, if_pos e, Nat.add_zero]
  · rw [if_neg e, if_neg e]; exact cnt_union h hi hj e
/-! ### The spreading of joined pairs -/
def inW (n : Nat) (W : List (Int × Int)) : Prop := ∀ q ∈ W, (0 ≤ q.1 ∧ q.1 < (n : Int)) ∧ 0 ≤ q.2 ∧ q.2 < (n : Int)
theorem inW_app {n : Nat} {V W : List (Int × Int)} : inW n (V ++ W) ↔ inW n V ∧ inW n W :=
  ⟨fun h => ⟨fun q hq => h q (List.mem_append_left _ hq), fun q hq => h q (List.mem_append_right _ hq)⟩, fun h q hq => (List.mem_append.1 hq).elim (h.1 q) (h.2 q)⟩
end Go.Proofs.Ytpanlghofeebhaa
end
section
/- Plain: the partition that a relation generates; lists of pairs. -/
namespace Go.Proofs.Ytpanlghofeebhaa
open Go Go.AM
noncomputable def egB (R : Nat → Nat → Prop) (a b : Nat) : Bool := @decide (Eg R a b) (Classical.propDecidable _)
theorem egB_true {R : Nat → Nat → Prop} {a b : Nat} : egB R a b = true ↔ Eg R a b := by unfold egB; exact @decide_eq_true_iff _ (Classical.propDecidable _)
theorem eg_pre (n : Nat) (R : Nat → Nat → Prop) : Pre n (egB R) := pre_of (fun x _ => egB_true.2 (.refl x)) fun _ _ _ _ _ _ h h' => egB_true.2 ((egB_true.1 h).trans (egB_true.1 h'))
noncomputable def eqP (n : Nat) (R : Nat → Nat → Prop) : List Int := clsL n (egB R)
theorem eqP_len {n : Nat} {R : Nat → Nat → Prop} : (eqP n R).length = n := clsL_len _ _
theorem eqP_canon {n : Nat} {R : Nat → Nat → Prop} : canon (eqP n R) = eqP n R := canon_idem _
theorem eqP_valid {n : Nat} {R : Nat → Nat → Prop} (h : n ≤ 4096) : validP (eqP n R) := ⟨by rw [eqP_len]; exact h, eqP_canon⟩
theorem eqP_iff {n : Nat} {R : Nat → Nat → Prop} {a b : Nat} (ha : a < n) (hb : b < n) : (eqP n R).getD a 0 = (eqP n R).getD b 0 ↔ Eg R a b := by
  unfold eqP
  rw [clsL_iff (eg_pre n R) ha hb, egB_true, egB_true]
  exact ⟨fun h => h.1, fun h => ⟨h, h.symm⟩⟩
theorem eqP_of {n : Nat} {p : List Int} {R : Nat → Nat → Prop} (h : KerOf n p R) : canon p = eqP n R :=
  ker_clsL (eg_pre n R) h.1 fun a b ha hb => by
    rw [egB_true, egB_true, h.2 a b ha hb]
    exact ⟨fun h => ⟨h, h.symm⟩, fun h => h.1⟩
theorem KerR.congr {n : Nat} {r : Nat → Nat} {R R' : Nat → Nat → Prop} (h : KerR n r R) (h1 : ∀ a b, R a b → Eg R' a b) (h2 : ∀ a b, R' a b → Eg R a b) : KerR n r R' :=
  fun a b ha hb => (h a b ha hb).trans ⟨Eg.mono h1, Eg.mono h2⟩
def relP (l : List (Int × Int)) (a b : Nat) : Prop := ((a : Int), (b : Int)) ∈ l
def orR (R : Nat → Nat → Prop) (l : List (Int × Int)) (a b : Nat) : Prop := R a b ∨ relP l a b
theorem relP_lt {n : Nat} {l : List (Int × Int)} (h : inW n l) {a b : Nat} (hr : relP l a b) : a < n ∧ b < n := by
  have := h _ hr
  simp only at this
  omega
end Go.Proofs.Ytpanlghofeebhaa
end
section
/- Plain: how the reference closes a partition under products. -/
namespace Go.Proofs.Ytpanlghofeebhaa
open Go Go.AM
theorem nodup_sub {α : Type} [DecidableEq α] : ∀ {A B : List α}, A.Nodup → (∀ x ∈ A, x ∈ B) → A.length ≤ B.length
  | [], _, _, _ => Nat.zero_le _
  | a :: A, B, hA, h => by
    have ha := h a (by simp)
    have hn := List.nodup_cons.1 hA
    have := nodup_sub (B := B.erase a) hn.2 fun x hx => (List.mem_erase_of_ne fun e => by subst e; exact hn.1 hx).2 (h x (List.mem_cons_of_mem _ hx))
    have hl := List.length_erase_of_mem ha
    have hp := List.length_pos_of_mem ha
    simp only [List.length_cons]; omega
end Go.Proofs.Ytpanlghofeebhaa
end
section
/- The reference's relations of Green (semigroupref15): contracts; the class of a table (semigroupref17). -/
namespace Go.Proofs.Ytpanlghofeebhaa
open Go Go.AM
set_option maxRecDepth 100000
def rowsB (n : Nat) (e : Nat → Nat → Bool) : List (List Bool) := (List.range n).map fun x => setB n (e x)
end Go.Proofs.Ytpanlghofeebhaa
end
section
/- Ideals of a table: plain. -/
namespace Go.Proofs.Ytpanlghofeebhaa
open Go Go.AM
open Classical
def inT (t : List (List Int)) (l : List Int) : Prop := ∀ x ∈ l, 0 ≤ x ∧ x < (t.length : Int)
instance (t : List (List Int)) (l : List Int) : Decidable (inT t l) := by unfold inT; infer_instance
end Go.Proofs.Ytpanlghofeebhaa
end
section
/- Orders by a comparison; sorted lists; the lexicographic order and the order by size. Plain. -/
namespace Go.Proofs.Ytpanlghofeebhaa
open Go Go.AM
structure TotC {α : Type} (c : α → α → Int) : Prop where
  swap : ∀ a b, c b a = - c a b
  eq : ∀ a b, c a b = 0 → a = b
  trans : ∀ a b d, c a b < 0 → c b d < 0 → c a d < 0
theorem TotC.self {α : Type} {c : α → α → Int} (h : TotC c) (a : α) : c a a = 0 := by have := h.swap a a; omega
def cmpI (a b : Int) : Int := if a < b then -1 else if b < a then 1 else 0
theorem cmpI_tot : TotC cmpI where
  swap a b := by unfold cmpI; split <;> split <;> (try split) <;> omega
  eq a b := by unfold cmpI; split <;> (try split) <;> omega
  trans a b d := by unfold cmpI; intro h1 h2; split at h1 <;> (try split at h1) <;> split at h2 <;> (try split at h2) <;> first | omega | (rw [if_pos (by omega)]; omega)
def cmpL : List Int → List Int → Int
  | [], [] => 0 | [], _ :: _ => -1 | _ :: _, [] => 1 | a :: l, b :: m => if cmpI a b ≠ 0 then cmpI a b else cmpL l m
theorem cmpL_swap : ∀ a b : List Int, cmpL b a = - cmpL a b
  | [], [] => rfl
  | [], _ :: _ => rfl
  | _ :: _, [] => rfl
  | a :: l, b :: m => by
    have e := cmpI_tot.swap a b
    have ih := cmpL_swap l m
    simp only [cmpL]
    by_cases h : cmpI a b = 0
    · rw [if_neg (by omega), if_neg (by omega), ih]
    · rw [if_pos (by omega), if_pos h, e]
theorem cmpL_eq : ∀ a b : List Int, cmpL a b = 0 → a = b
  | [], [], _ => rfl
  | [], _ :: _, h => by simp [cmpL] at h
  | _ :: _, [], h => by simp [cmpL] at h
  | a :: l, b :: m, h => by
    simp only [cmpL] at h
    by_cases h0 : cmpI a b = 0
    · rw [if_neg (by omega)] at h
      rw [cmpI_tot.eq a b h0, cmpL_eq l m h]
    · rw [if_pos h0] at h; exact absurd h h0
theorem cmpL_trans : ∀ a b d : List Int, cmpL a b < 0 → cmpL b d < 0 → cmpL a d < 0
  | [], [], _, h, _ => by simp [cmpL] at h
  | [], _ :: _, [], _, h => by simp [cmpL] at h
  | [], _ :: _, _ :: _, _, _ => by simp [cmpL]
  | _ :: _, [], _, h, _ => by simp [cmpL] at h
  | _ :: _, _ :: _, [], _, h => by simp [cmpL] at h
  | a :: l, b :: m, d :: n, h1, h2 => by
    simp only [cmpL] at h1 h2 ⊢
    have ih := cmpL_trans l m n
    by_cases e1 : cmpI a b = 0
    · rw [if_neg (by omega)] at h1
      obtain rfl := cmpI_tot.eq a b e1
      by_cases e2 : cmpI a d = 0
      · rw [if_neg (by omega)] at h2 ⊢; exact ih h1 h2
      · rw [if_pos e2] at h2 ⊢; exact h2
    · rw [if_pos e1] at h1
      by_cases e2 : cmpI b d = 0
      · obtain rfl := cmpI_tot.eq b d e2
        rw [if_pos e1]; exact h1
      · rw [if_pos e2] at h2
        have := cmpI_tot.trans a b d h1 h2
        rw [if_pos (by omega)]; exact this
theorem cmpL_tot : TotC cmpL := ⟨cmpL_swap, cmpL_eq, cmpL_trans⟩
def Srt {α : Type} (c : α → α → Int) (l : List α) : Prop := l.Pairwise fun a b => c a b < 0
def srt {α : Type} (c : α → α → Int) (l : List α) : List α := l.mergeSort fun a b => decide (c a b ≤ 0)
section
variable {α : Type} {c : α → α → Int}
theorem Srt.nodup (h : TotC c) {l : List α} (hs : Srt c l) : l.Nodup := hs.imp fun {a b} hab e => by subst e; have := h.self a; omega
theorem le_trans' (h : TotC c) {a b d : α} (h1 : c a b ≤ 0) (h2 : c b d ≤ 0) : c a d ≤ 0 := by
  by_cases e1 : c a b = 0
  · obtain rfl := h.eq _ _ e1; exact h2
  · by_cases e2 : c b d = 0
    · obtain rfl := h.eq _ _ e2; exact h1
    · have := h.trans a b d (by omega) (by omega); omega
theorem srt_perm (l : List α) : (srt c l).Perm l := List.mergeSort_perm _ _
theorem srt_mem {l : List α} {x : α} : x ∈ srt c l ↔ x ∈ l := (srt_perm l).mem_iff
theorem srt_len (l : List α) : (srt c l).length = l.length := (srt_perm l).length_eq
theorem srt_le (h : TotC c) (l : List α) : (srt c l).Pairwise fun a b => c a b ≤ 0 := by
  have := List.pairwise_mergeSort (le := fun a b => decide (c a b ≤ 0)) (fun a b d h1 h2 => decide_eq_true (le_trans' h (of_decide_eq_true h1) (of_decide_eq_true h2)))
    (fun a b => by
      have := h.swap a b
      by_cases h0 : c a b ≤ 0
      · simp [h0]
      · have : c b a ≤ 0 := by omega
        simp [this]) l
  exact this.imp fun {a b} hab => of_decide_eq_true hab
theorem srt_srt (h : TotC c) {l : List α} (hn : l.Nodup) : Srt c (srt c l) := by
  have h1 := srt_le h l
  have h2 : (srt c l).Nodup := (srt_perm l).nodup_iff.2 hn
  have := h1.and h2
  refine this.imp fun {a b} hab => ?_
  have : c a b ≠ 0 := fun e => hab.2 (h.eq _ _ e)
  omega
theorem perm_sorted (h : TotC c) : ∀ {l m : List α}, l.Pairwise (fun a b => c a b ≤ 0) → m.Pairwise (fun a b => c a b ≤ 0) → l.Perm m → l = m
  | [], m, _, _, hp => by rw [List.nil_perm.1 hp]
  | a :: l, [], _, _, hp => by have := hp.length_eq; simp at this
  | a :: l, b :: m, h1, h2, hp => by
    have h1' := List.pairwise_cons.1 h1
    have h2' := List.pairwise_cons.1 h2
    have e : a = b := by
      have ha : a ∈ b :: m := hp.mem_iff.1 (by simp)
      have hb : b ∈ a :: l := hp.mem_iff.2 (by simp)
      rcases List.mem_cons.1 ha with e | ha
      · exact e
      · rcases List.mem_cons.1 hb with e | hb
        · exact e.symm
        · have g1 := h2'.1 a ha
          have g2 := h1'.1 b hb
          have := h.swap a b
          exact h.eq _ _ (by omega)
    subst e
    rw [perm_sorted h h1'.2 h2'.2 hp.cons_inv]
theorem srt_uniq (h : TotC c) {l m : List α} (hm : m.Pairwise fun a b => c a b ≤ 0) (hp : m.Perm l) : srt c l = m :=
  perm_sorted h (srt_le h l) hm ((srt_perm l).trans hp.symm)
theorem sorted_uniq (h : TotC c) {l m : List α} (hl : Srt c l) (hm : Srt c m) (he : ∀ x, x ∈ l ↔ x ∈ m) : l = m :=
  perm_sorted h (hl.imp fun h => by omega) (hm.imp fun h => by omega) ((List.perm_ext_iff_of_nodup (hl.nodup h) (hm.nodup h)).2 he)
end
theorem cmpL_at : ∀ {a b : List Int} {i : Nat}, (∀ j, j < i → a.getD j 0 = b.getD j 0) → i ≤ a.length → i ≤ b.length → cmpL a b = cmpL (a.drop i) (b.drop i)
  | a, b, 0, _, _, _ => by simp
  | [], _, i + 1, _, h, _ => by simp at h
  | _ :: _, [], i + 1, _, _, h => by simp at h
  | x :: a, y :: b, i + 1, h, h1, h2 => by
    have e : x = y := by simpa using h 0 (by omega)
    subst e
    rw [List.drop_succ_cons, List.drop_succ_cons, ← cmpL_at (a := a) (b := b) (i := i) (fun j hj => by simpa using h (j + 1) (by omega)) (by simpa using h1) (by simpa using h2)]
    simp [cmpL, cmpI_tot.self]
theorem cmpL_here {a b : List Int} {i : Nat} (h : ∀ j, j < i → a.getD j 0 = b.getD j 0) (h1 : i < a.length) (h2 : i < b.length) (hne : a.getD i 0 ≠ b.getD i 0) : cmpL a b = cmpI (a.getD i 0) (b.getD i 0) := by
  rw [cmpL_at h (by omega) (by omega), List.drop_eq_getElem_cons h1, List.drop_eq_getElem_cons h2]
  rw [getD_eq h1, getD_eq h2] at *
  simp only [cmpL]
  rw [if_pos fun e => hne (cmpI_tot.eq _ _ e)]
theorem cmpL_end {a b : List Int} {i : Nat} (h : ∀ j, j < i → a.getD j 0 = b.getD j 0) (h1 : i ≤ a.length) (h2 : i ≤ b.length) (he : i = a.length ∨ i = b.length) : cmpL a b = cmpI a.length b.length := by
  rw [cmpL_at h h1 h2]
  unfold cmpI
  rcases he with he | he
  · rw [List.drop_of_length_le (by omega)]
    cases hb : b.drop i with
    | nil =>
      have := congrArg List.length hb
      simp at this
      rw [if_neg (by omega), if_neg (by omega)]; rfl
    | cons =>
      have := congrArg List.length hb
      simp at this
      rw [if_pos (by omega)]; rfl
  · rw [show b.drop i = [] from List.drop_of_length_le (by omega)]
    cases ha : a.drop i with
    | nil =>
      have := congrArg List.length ha
      simp at this
      rw [if_neg (by omega), if_neg (by omega)]; rfl
    | cons =>
      have := congrArg List.length ha
      simp at this
      rw [if_neg (by omega), if_pos (by omega)]; rfl
end Go.Proofs.Ytpanlghofeebhaa
end
section
/- Plain: groups: the identity, inverses, powers and orders of elements. -/
namespace Go.Proofs.Ytpanlghofeebhaa
section
variable {t : List (List Int)}
def pwN (t : List (List Int)) (x : Nat) : Nat → Nat
  | 0 => x | k + 1 => en t (pwN t x k) x
theorem pwN_lt (h : Semi t) {x : Nat} (hx : x < t.length) : ∀ k, pwN t x k < t.length
  | 0 => hx | k + 1 => (h.toSh.ent (pwN_lt h hx k) hx).2
theorem pwN_add (h : Semi t) {x : Nat} (hx : x < t.length) (i : Nat) : ∀ j, en t (pwN t x i) (pwN t x j) = pwN t x (i + j + 1)
  | 0 => rfl
  | j + 1 => by
    show en t (pwN t x i) (en t (pwN t x j) x) = en t (pwN t x (i + j + 1)) x
    rw [← assoc3 h.assoc (pwN_lt h hx i) (pwN_lt h hx j) hx, pwN_add h hx i j]
end
end Go.Proofs.Ytpanlghofeebhaa
end
section
/- Plain: subgroups, what elements generate, conjugates, cosets. -/
namespace Go.Proofs.Ytpanlghofeebhaa
section
/-! ### Subgroups -/
end
/-! ### Generating, step by step -/
theorem nodup_len {n : Nat} {l : List Int} (hn : l.Nodup) (h : ∀ x ∈ l, 0 ≤ x ∧ x < (n : Int)) : l.length ≤ n := by
  have := hn.length_le_of_subset (l₂ := disI n) fun x hx => mem_disI.2 (h x hx)
  rwa [disI_len] at this
/-! ### What was collected -/
/-! ### Closing under products, pass by pass -/
/-! ### The reference's lists -/
end Go.Proofs.Ytpanlghofeebhaa
end
