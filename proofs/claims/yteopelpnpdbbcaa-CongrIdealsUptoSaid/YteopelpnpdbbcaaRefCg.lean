import Derived.Test.YteopelpnpdbbcaaPartLaw
import Derived.Test.YteopelpnpdbbcaaTab
import Derived.Test.YteopelpnpdbbcaaGroup
import Derived.Test.YteopelpnpdbbcaaPart
import Derived.Test.YteopelpnpdbbcaaRefPart
import Derived.Test.YteopelpnpdbbcaaRefRees
section
/- Plain: congruences of a table. -/
namespace Go.Proofs.Yteopelpnpdbbcaa

/-- Elements of one class have products in one class, on the sides that count. -/
def CgA (t : List (List Int)) (p : List Int) (side : Int) (x y s : Nat) : Prop :=
  (side ≠ 2 → p.getD (en t s x) 0 = p.getD (en t s y) 0) ∧ (side ≠ 1 → p.getD (en t x s) 0 = p.getD (en t y s) 0)
def Cg (t : List (List Int)) (p : List Int) (side : Int) : Prop := ∀ x y s, x < t.length → y < t.length → s < t.length → p.getD x 0 = p.getD y 0 → CgA t p side x y s
/-- A partition of the table's elements that is a congruence of this kind. -/
structure IsCg (t : List (List Int)) (p : List Int) (side : Int) : Prop where
  semi : Semi t
  len : p.length = t.length
  val : validP p
  sd : 0 ≤ side ∧ side ≤ 2
  cg : Cg t p side
noncomputable def cgB (t : List (List Int)) (p : List Int) (side : Int) : Bool := @decide (IsCg t p side) (Classical.propDecidable _)
theorem cgB_true {t : List (List Int)} {p : List Int} {side : Int} : cgB t p side = true ↔ IsCg t p side := by unfold cgB; exact @decide_eq_true_iff _ (Classical.propDecidable _)
theorem cgB_false {t : List (List Int)} {p : List Int} {side : Int} : cgB t p side = false ↔ ¬ IsCg t p side := by unfold cgB; exact @decide_eq_false_iff_not _ (Classical.propDecidable _)
theorem CgA.trans {t : List (List Int)} {p : List Int} {side : Int} {x y z s : Nat} (h : CgA t p side x y s) (h' : CgA t p side z y s) : CgA t p side x z s :=
  ⟨fun hs => (h.1 hs).trans (h'.1 hs).symm, fun hs => (h.2 hs).trans (h'.2 hs).symm⟩
end Go.Proofs.Yteopelpnpdbbcaa
end
section
/- Package congr: which partitions are congruences: contract. -/
namespace Go.Proofs.Yteopelpnpdbbcaa
open Go Go.AM
set_option maxRecDepth 100000
def FstOk (p : List Int) (i : Nat) (f : List Int) : Prop := f.length = (firsts (p.take i)).length ∧ ∀ c, c < f.length → 0 ≤ f.getD c 0 ∧ (f.getD c 0).toNat < i ∧ p.getD (f.getD c 0).toNat 0 = c
theorem valid_upto {p : List Int} {i : Nat} (hi : i < p.length) (hok : ∀ j, j < p.length → stepOk p j) : (firsts (p.take (i + 1))).length = if p.getD i 0 = (firsts (p.take i)).length then (firsts (p.take i)).length + 1 else (firsts (p.take i)).length :=
  firsts_next hi (fun j hj => hok j (by omega)) (hok i hi)
theorem firsts_mono {p : List Int} (hok : ∀ j, j < p.length → stepOk p j) : ∀ {i x : Nat}, i ≤ p.length → x < i → p.getD x 0 < ((firsts (p.take i)).length : Int)
  | 0, x, _, h => absurd h (Nat.not_lt_zero _)
  | i + 1, x, hi, h => by
    have h1 := valid_upto hi hok
    have h2 := hok i hi
    by_cases e : x = i
    · subst e
      rw [h1]
      have := h2.2
      split <;> omega
    · have := firsts_mono hok (by omega : i ≤ p.length) (by omega : x < i)
      rw [h1]
      split <;> omega
theorem FstOk.old {p : List Int} {i x : Nat} {f : List Int} (hok : ∀ j, j < p.length → stepOk p j) (hi : i ≤ p.length) (hf : FstOk p i f) (hx : x < i) : (p.getD x 0).toNat < f.length := by
  have := firsts_mono hok hi hx
  have := (hok x (by omega)).1
  rw [hf.1]; omega
theorem FstOk.new {p : List Int} {i : Nat} {f : List Int} (hok : ∀ j, j < p.length → stepOk p j) (hi : i < p.length) (hf : FstOk p i f) (h : p.getD i 0 = (f.length : Int)) : FstOk p (i + 1) (f ++ [(i : Int)]) := by
  refine ⟨by rw [valid_upto hi hok, if_pos (by rw [h, hf.1]), ← hf.1]; simp, fun c hc => ?_⟩
  by_cases e : c < f.length
  · have h1 := hf.2 c e
    have h2 : (f ++ [(i : Int)]).getD c 0 = f.getD c 0 := by simp [List.getD, List.getElem?_append_left e]
    rw [h2]; exact ⟨h1.1, by omega, h1.2.2⟩
  · have h1 : c = f.length := by simp at hc; omega
    subst h1
    have h2 : (f ++ [(i : Int)]).getD f.length 0 = i := by simp [List.getD]
    rw [h2]; exact ⟨by omega, by omega, by rw [Int.toNat_natCast, h]⟩
theorem FstOk.same {p : List Int} {i : Nat} {f : List Int} (hok : ∀ j, j < p.length → stepOk p j) (hi : i < p.length) (hf : FstOk p i f) (h : ¬ p.getD i 0 = (f.length : Int)) : FstOk p (i + 1) f := by
  refine ⟨by rw [valid_upto hi hok, if_neg (by rw [← hf.1]; exact h), ← hf.1], fun c hc => ?_⟩
  have h1 := hf.2 c hc
  exact ⟨h1.1, by omega, h1.2.2⟩
theorem getD_appL {l m : List Int} {k : Nat} (h : k < l.length) : (l ++ m).getD k 0 = l.getD k 0 := by simp [List.getD, List.getElem?_append_left h]
set_option maxHeartbeats 2000000 in
theorem cgr_k (t : List (List Int)) (p : List Int) (side : Int) (hl : p.length ≤ 140737488355328) : fnK TY SP Try.f36 [.ro (.rows .i64 t), .ro (.ints .i64 p), .int .i64 side] (.bool (.v (cgB t p side))) := by
  have no : ¬ IsCg t p side → (BE.lit false).val = (BE.v (cgB t p side)).val := fun h => (cgB_false.2 h).symm
  refine And.intro (fun h1 => ?_) (fun h1 => ?_)
  · refine And.intro (no fun h => by have := h.sd; omega) trivial
  refine And.intro (fun h2 => ?_) (fun h2 => ?_)
  · refine And.intro (no fun h => by have := h.sd; omega) trivial
  refine And.intro (fun h3 => ?_) (fun h3 => ?_)
  · refine And.intro (no fun h => by have := h.len; omega) trivial
  refine Or.inl (cq (pvalid_fn p) (And.intro rfl trivial) ?_)
  refine And.intro (fun h4 => ?_) (fun h4 => ?_)
  · refine And.intro (no fun h => ?_) trivial
    have h4 : (!decide (validP p)) = true := h4
    rw [decide_eq_true h.val] at h4; cases h4
  refine Or.inl (cq (valid_fn t) (And.intro rfl trivial) ?_)
  refine And.intro (fun h5 => ?_) (fun h5 => ?_)
  · refine And.intro (no fun h => h5 (valid_zero.2 h.semi)) trivial
  have hs := valid_zero.1 h5
  have hsh := hs.toSh
  have hmost := hs.most
  have hval : validP p := by simpa using h4
  have hlen : p.length = t.length := by omega
  have hok := (validP_iff.1 hval).2
  refine Exists.intro [] <| lp2 (fun (i : Nat) (f : List Int) => [(37, .int .i64 i), (7, .vec 49)]) (fun _ f => [(49, .vec 0 (.ints .i64 f) [])]) (fun i f => i ≤ p.length ∧ FstOk p i f ∧ ∀ x, x < i → ∀ s, s < t.length → CgA t p side x (f.getD (p.getD x 0).toNat 0).toNat s) (fun i _ => p.length - i) 0 [] ⟨Nat.zero_le _, ⟨rfl, fun c hc => absurd hc (Nat.not_lt_zero _)⟩, fun j hj => absurd hj (Nat.not_lt_zero _)⟩ (by repeat' first | refine And.intro ?_ ?_ | exact True.intro | (show (_ : Int) = (_ : Int); omega) | omega | exact rfl | (simp only [RO.len]; omega)) ?_
  rintro i f ⟨hi, hf, ha⟩
  refine And.intro (fun h1 => ?_) (fun h1 => ?_)
  · have hil : i < p.length := by omega
    have hit : i < t.length := by omega
    have hst := hok i hil
    have hfle : f.length ≤ i := by
      have := firsts_le (p.take i)
      rw [List.length_take] at this
      have := hf.1
      omega
    refine And.intro (by omega) ?_
    refine And.intro (fun h2 => ?_) (fun h2 => ?_)
    · have h2 : p.getD i 0 = (f.length : Int) := h2
      have hfl : (f ++ [(i : Int)]).length = f.length + 1 := by simp
      have hat : (f ++ [(i : Int)]).getD (p.getD i 0).toNat 0 = i := by
        rw [h2, Int.toNat_natCast]; simp [List.getD]
      have hn := FstOk.new hok hil hf h2
      refine And.intro (by omega) ?_
      refine And.intro (show 0 ≤ p.getD i 0 ∧ p.getD i 0 < ((f ++ [(i : Int)]).length : Int) by omega) ?_
      have hy : 0 ≤ (f ++ [(i : Int)]).getD (p.getD i 0).toNat 0 ∧ (f ++ [(i : Int)]).getD (p.getD i 0).toNat 0 < (t.length : Int) := by rw [hat]; omega
      have hpy : p.getD ((f ++ [(i : Int)]).getD (p.getD i 0).toNat 0).toNat 0 = p.getD i 0 := by rw [hat, Int.toNat_natCast]
      have hold : ∀ x, x < i → (f ++ [(i : Int)]).getD (p.getD x 0).toNat 0 = f.getD (p.getD x 0).toNat 0 := fun x hx => by
        have := FstOk.old hok (by omega) hf hx
        exact getD_appL this
      have hyN : ((f ++ [(i : Int)]).getD (p.getD i 0).toNat 0).toNat < t.length := by omega
      refine Exists.intro [] <| lp (X := Nat) (fun s => [(56, .int .i64 s)]) (fun _ => [(49, .vec 0 (.ints .i64 (f ++ [(i : Int)])) [])]) (fun s => s ≤ t.length ∧ ∀ s', s' < s → CgA t p side i ((f ++ [(i : Int)]).getD (p.getD i 0).toNat 0).toNat s') (fun s => t.length - s) 0 ⟨Nat.zero_le _, fun j hj => absurd hj (Nat.not_lt_zero _)⟩ (by repeat' first | refine And.intro ?_ ?_ | exact True.intro | (show (_ : Int) = (_ : Int); omega) | omega | exact rfl | (simp only [RO.len]; omega)) ?_
      rintro s ⟨hsn, hss⟩
      refine And.intro (fun h6 => ?_) (fun h6 => ?_)
      · have hsl : s < t.length := by omega
        have e1 := hsh.ent hsl hit
        have e2 := hsh.ent hsl hyN
        have e3 := hsh.ent hit hsl
        have e4 := hsh.ent hyN hsl
        have r1 := hsh.len hsl
        have r2 := hsh.len hit
        have r3 := hsh.len hyN
        have nxt : CgA t p side i ((f ++ [(i : Int)]).getD (p.getD i 0).toNat 0).toNat s → s + 1 ≤ t.length ∧ ∀ s', s' < s + 1 → CgA t p side i ((f ++ [(i : Int)]).getD (p.getD i 0).toNat 0).toNat s' := fun hc => ⟨by omega, fun s' hs' => by
          by_cases e : s' = s
          · subst e; exact hc
          · exact hss s' (by omega)⟩
        have bad1 : side ≠ 2 → p.getD (en t s i) 0 ≠ p.getD (en t s ((f ++ [(i : Int)]).getD (p.getD i 0).toNat 0).toNat) 0 → ¬ IsCg t p side := fun g1 g2 h => g2 ((h.cg i _ s hit hyN hsl hpy.symm).1 g1)
        have bad2 : side ≠ 1 → p.getD (en t i s) 0 ≠ p.getD (en t ((f ++ [(i : Int)]).getD (p.getD i 0).toNat 0).toNat s) 0 → ¬ IsCg t p side := fun g1 g2 h => g2 ((h.cg i _ s hit hyN hsl hpy.symm).2 g1)
        refine Or.inl ?_
        refine Exists.intro (List.replicate 52 false) (And.intro (by decide +kernel) ?_)
        refine And.intro (fun h7 => ?_) (fun h7 => ?_)
        · refine And.intro (by omega) ?_
          refine And.intro (show 0 ≤ (i : Int) ∧ (i : Int) < ((t.getD s []).length : Int) by omega) ?_
          refine And.intro (show 0 ≤ (t.getD s []).getD i 0 ∧ (t.getD s []).getD i 0 < (p.length : Int) by omega) ?_
          refine And.intro (by omega) ?_
          refine And.intro (show 0 ≤ (f ++ [(i : Int)]).getD (p.getD i 0).toNat 0 ∧ (f ++ [(i : Int)]).getD (p.getD i 0).toNat 0 < ((t.getD s []).length : Int) by omega) ?_
          refine And.intro (show 0 ≤ (t.getD s []).getD ((f ++ [(i : Int)]).getD (p.getD i 0).toNat 0).toNat 0 ∧ (t.getD s []).getD ((f ++ [(i : Int)]).getD (p.getD i 0).toNat 0).toNat 0 < (p.length : Int) by omega) ?_
          refine And.intro (fun h8 => ?_) (fun h8 => ?_)
          · refine And.intro (no (bad1 h7 h8)) trivial
          refine And.intro (fun h9 => ?_) (fun h9 => ?_)
          · refine And.intro (by omega) ?_
            refine And.intro (show 0 ≤ (s : Int) ∧ (s : Int) < ((t.getD i []).length : Int) by omega) ?_
            refine And.intro (show 0 ≤ (t.getD i []).getD s 0 ∧ (t.getD i []).getD s 0 < (p.length : Int) by omega) ?_
            refine And.intro hy ?_
            refine And.intro (show 0 ≤ (s : Int) ∧ (s : Int) < ((t.getD ((f ++ [(i : Int)]).getD (p.getD i 0).toNat 0).toNat []).length : Int) by omega) ?_
            refine And.intro (show 0 ≤ (t.getD ((f ++ [(i : Int)]).getD (p.getD i 0).toNat 0).toNat []).getD s 0 ∧ (t.getD ((f ++ [(i : Int)]).getD (p.getD i 0).toNat 0).toNat []).getD s 0 < (p.length : Int) by omega) ?_
            refine And.intro (fun h10 => ?_) (fun h10 => ?_)
            · refine And.intro (no (bad2 h9 h10)) trivial
            refine And.intro (by omega) ?_
            exact nx (s + 1) (nxt ⟨fun _ => h8, fun _ => h10⟩) (show t.length - (s + 1) < t.length - s by omega) (by repeat' first | refine And.intro ?_ ?_ | exact True.intro | (show (_ : Int) = (_ : Int); omega) | omega | exact rfl | (simp only [RO.len]; omega))
          · refine And.intro (by omega) ?_
            exact nx (s + 1) (nxt ⟨fun _ => h8, fun g => absurd h9 g⟩) (show t.length - (s + 1) < t.length - s by omega) (by repeat' first | refine And.intro ?_ ?_ | exact True.intro | (show (_ : Int) = (_ : Int); omega) | omega | exact rfl | (simp only [RO.len]; omega))
        · refine And.intro (fun h9 => ?_) (fun h9 => ?_)
          · refine And.intro (by omega) ?_
            refine And.intro (show 0 ≤ (s : Int) ∧ (s : Int) < ((t.getD i []).length : Int) by omega) ?_
            refine And.intro (show 0 ≤ (t.getD i []).getD s 0 ∧ (t.getD i []).getD s 0 < (p.length : Int) by omega) ?_
            refine And.intro hy ?_
            refine And.intro (show 0 ≤ (s : Int) ∧ (s : Int) < ((t.getD ((f ++ [(i : Int)]).getD (p.getD i 0).toNat 0).toNat []).length : Int) by omega) ?_
            refine And.intro (show 0 ≤ (t.getD ((f ++ [(i : Int)]).getD (p.getD i 0).toNat 0).toNat []).getD s 0 ∧ (t.getD ((f ++ [(i : Int)]).getD (p.getD i 0).toNat 0).toNat []).getD s 0 < (p.length : Int) by omega) ?_
            refine And.intro (fun h10 => ?_) (fun h10 => ?_)
            · refine And.intro (no (bad2 h9 h10)) trivial
            refine And.intro (by omega) ?_
            exact nx (s + 1) (nxt ⟨fun g => absurd h7 g, fun _ => h10⟩) (show t.length - (s + 1) < t.length - s by omega) (by repeat' first | refine And.intro ?_ ?_ | exact True.intro | (show (_ : Int) = (_ : Int); omega) | omega | exact rfl | (simp only [RO.len]; omega))
          · exact absurd (h7.symm.trans h9) (by decide)
      · refine And.intro (by omega) ?_
        refine nx (i + 1, (f ++ [(i : Int)])) ⟨by omega, hn, fun x hx s' hs' => ?_⟩ (show p.length - (i + 1) < p.length - i by omega) (by repeat' first | refine And.intro ?_ ?_ | exact True.intro | (show (_ : Int) = (_ : Int); omega) | omega | exact rfl | (simp only [RO.len]; omega))
        by_cases e : x = i
        · subst e; exact hss s' (by omega)
        · rw [hold x (by omega)]; exact ha x (by omega) s' hs'
    · have h2 : ¬ p.getD i 0 = (f.length : Int) := h2
      have hn := FstOk.same hok hil hf h2
      have hlt : (p.getD i 0).toNat < f.length := by have := hf.1; have := hst.1; have := hst.2; omega
      have h1y := hf.2 _ hlt
      refine And.intro (show 0 ≤ p.getD i 0 ∧ p.getD i 0 < (f.length : Int) by have := hst.1; omega) ?_
      have hy : 0 ≤ f.getD (p.getD i 0).toNat 0 ∧ f.getD (p.getD i 0).toNat 0 < (t.length : Int) := by omega
      have hpy : p.getD (f.getD (p.getD i 0).toNat 0).toNat 0 = p.getD i 0 := by have := hst.1; rw [h1y.2.2]; omega
      have hold : ∀ x, x < i → f.getD (p.getD x 0).toNat 0 = f.getD (p.getD x 0).toNat 0 := fun _ _ => rfl
      have hyN : (f.getD (p.getD i 0).toNat 0).toNat < t.length := by omega
      refine Exists.intro [] <| lp (X := Nat) (fun s => [(56, .int .i64 s)]) (fun _ => [(49, .vec 0 (.ints .i64 f) [])]) (fun s => s ≤ t.length ∧ ∀ s', s' < s → CgA t p side i (f.getD (p.getD i 0).toNat 0).toNat s') (fun s => t.length - s) 0 ⟨Nat.zero_le _, fun j hj => absurd hj (Nat.not_lt_zero _)⟩ (by repeat' first | refine And.intro ?_ ?_ | exact True.intro | (show (_ : Int) = (_ : Int); omega) | omega | exact rfl | (simp only [RO.len]; omega)) ?_
      rintro s ⟨hsn, hss⟩
      refine And.intro (fun h6 => ?_) (fun h6 => ?_)
      · have hsl : s < t.length := by omega
        have e1 := hsh.ent hsl hit
        have e2 := hsh.ent hsl hyN
        have e3 := hsh.ent hit hsl
        have e4 := hsh.ent hyN hsl
        have r1 := hsh.len hsl
        have r2 := hsh.len hit
        have r3 := hsh.len hyN
        have nxt : CgA t p side i (f.getD (p.getD i 0).toNat 0).toNat s → s + 1 ≤ t.length ∧ ∀ s', s' < s + 1 → CgA t p side i (f.getD (p.getD i 0).toNat 0).toNat s' := fun hc => ⟨by omega, fun s' hs' => by
          by_cases e : s' = s
          · subst e; exact hc
          · exact hss s' (by omega)⟩
        have bad1 : side ≠ 2 → p.getD (en t s i) 0 ≠ p.getD (en t s (f.getD (p.getD i 0).toNat 0).toNat) 0 → ¬ IsCg t p side := fun g1 g2 h => g2 ((h.cg i _ s hit hyN hsl hpy.symm).1 g1)
        have bad2 : side ≠ 1 → p.getD (en t i s) 0 ≠ p.getD (en t (f.getD (p.getD i 0).toNat 0).toNat s) 0 → ¬ IsCg t p side := fun g1 g2 h => g2 ((h.cg i _ s hit hyN hsl hpy.symm).2 g1)
        refine Or.inl ?_
        refine Exists.intro (List.replicate 52 false) (And.intro (by decide +kernel) ?_)
        refine And.intro (fun h7 => ?_) (fun h7 => ?_)
        · refine And.intro (by omega) ?_
          refine And.intro (show 0 ≤ (i : Int) ∧ (i : Int) < ((t.getD s []).length : Int) by omega) ?_
          refine And.intro (show 0 ≤ (t.getD s []).getD i 0 ∧ (t.getD s []).getD i 0 < (p.length : Int) by omega) ?_
          refine And.intro (by omega) ?_
          refine And.intro (show 0 ≤ f.getD (p.getD i 0).toNat 0 ∧ f.getD (p.getD i 0).toNat 0 < ((t.getD s []).length : Int) by omega) ?_
          refine And.intro (show 0 ≤ (t.getD s []).getD (f.getD (p.getD i 0).toNat 0).toNat 0 ∧ (t.getD s []).getD (f.getD (p.getD i 0).toNat 0).toNat 0 < (p.length : Int) by omega) ?_
          refine And.intro (fun h8 => ?_) (fun h8 => ?_)
          · refine And.intro (no (bad1 h7 h8)) trivial
          refine And.intro (fun h9 => ?_) (fun h9 => ?_)
          · refine And.intro (by omega) ?_
            refine And.intro (show 0 ≤ (s : Int) ∧ (s : Int) < ((t.getD i []).length : Int) by omega) ?_
            refine And.intro (show 0 ≤ (t.getD i []).getD s 0 ∧ (t.getD i []).getD s 0 < (p.length : Int) by omega) ?_
            refine And.intro hy ?_
            refine And.intro (show 0 ≤ (s : Int) ∧ (s : Int) < ((t.getD (f.getD (p.getD i 0).toNat 0).toNat []).length : Int) by omega) ?_
            refine And.intro (show 0 ≤ (t.getD (f.getD (p.getD i 0).toNat 0).toNat []).getD s 0 ∧ (t.getD (f.getD (p.getD i 0).toNat 0).toNat []).getD s 0 < (p.length : Int) by omega) ?_
            refine And.intro (fun h10 => ?_) (fun h10 => ?_)
            · refine And.intro (no (bad2 h9 h10)) trivial
            refine And.intro (by omega) ?_
            exact nx (s + 1) (nxt ⟨fun _ => h8, fun _ => h10⟩) (show t.length - (s + 1) < t.length - s by omega) (by repeat' first | refine And.intro ?_ ?_ | exact True.intro | (show (_ : Int) = (_ : Int); omega) | omega | exact rfl | (simp only [RO.len]; omega))
          · refine And.intro (by omega) ?_
            exact nx (s + 1) (nxt ⟨fun _ => h8, fun g => absurd h9 g⟩) (show t.length - (s + 1) < t.length - s by omega) (by repeat' first | refine And.intro ?_ ?_ | exact True.intro | (show (_ : Int) = (_ : Int); omega) | omega | exact rfl | (simp only [RO.len]; omega))
        · refine And.intro (fun h9 => ?_) (fun h9 => ?_)
          · refine And.intro (by omega) ?_
            refine And.intro (show 0 ≤ (s : Int) ∧ (s : Int) < ((t.getD i []).length : Int) by omega) ?_
            refine And.intro (show 0 ≤ (t.getD i []).getD s 0 ∧ (t.getD i []).getD s 0 < (p.length : Int) by omega) ?_
            refine And.intro hy ?_
            refine And.intro (show 0 ≤ (s : Int) ∧ (s : Int) < ((t.getD (f.getD (p.getD i 0).toNat 0).toNat []).length : Int) by omega) ?_
            refine And.intro (show 0 ≤ (t.getD (f.getD (p.getD i 0).toNat 0).toNat []).getD s 0 ∧ (t.getD (f.getD (p.getD i 0).toNat 0).toNat []).getD s 0 < (p.length : Int) by omega) ?_
            refine And.intro (fun h10 => ?_) (fun h10 => ?_)
            · refine And.intro (no (bad2 h9 h10)) trivial
            refine And.intro (by omega) ?_
            exact nx (s + 1) (nxt ⟨fun g => absurd h7 g, fun _ => h10⟩) (show t.length - (s + 1) < t.length - s by omega) (by repeat' first | refine And.intro ?_ ?_ | exact True.intro | (show (_ : Int) = (_ : Int); omega) | omega | exact rfl | (simp only [RO.len]; omega))
          · exact absurd (h7.symm.trans h9) (by decide)
      · refine And.intro (by omega) ?_
        refine nx (i + 1, f) ⟨by omega, hn, fun x hx s' hs' => ?_⟩ (show p.length - (i + 1) < p.length - i by omega) (by repeat' first | refine And.intro ?_ ?_ | exact True.intro | (show (_ : Int) = (_ : Int); omega) | omega | exact rfl | (simp only [RO.len]; omega))
        by_cases e : x = i
        · subst e; exact hss s' (by omega)
        · rw [hold x (by omega)]; exact ha x (by omega) s' hs'
  · refine And.intro ?_ trivial
    have hip : i = p.length := by omega
    subst hip
    refine (cgB_true.2 ⟨hs, hlen, hval, ⟨by omega, by omega⟩, fun x y s hx hy hsl hxy => ?_⟩).symm
    have h1 := ha x (by omega) s hsl
    have h2 := ha y (by omega) s hsl
    rw [hxy] at h1
    exact h1.trans h2
theorem cgr_fn (t : List (List Int)) (p : List Int) (side : Int) : QF 36 [.ro (.rows .i64 t), .ro (.ints .i64 p), .int .i64 side] (.bool (.v (cgB t p side))) := mkQ Try.func36 (by decide +kernel) rfl (Nat.le_of_ble_eq_true rfl) fun hf => cgr_k t p side hf.2.1.1
end Go.Proofs.Yteopelpnpdbbcaa
end
section
/- The references of chapters 3 and 19: valid partitions, congruences: contracts. -/
namespace Go.Proofs.Yteopelpnpdbbcaa
open Go Go.AM
set_option maxRecDepth 100000
end Go.Proofs.Yteopelpnpdbbcaa
end
