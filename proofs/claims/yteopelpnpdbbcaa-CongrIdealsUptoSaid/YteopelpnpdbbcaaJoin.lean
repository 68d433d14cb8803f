import Derived.Test.YteopelpnpdbbcaaForLaw
import Derived.Test.YteopelpnpdbbcaaForest
import Derived.Test.YteopelpnpdbbcaaPart
import Derived.Test.YteopelpnpdbbcaaQuoLaw
section
/- The join of two partitions by a forest: plain laws. -/
namespace Go.Proofs.Yteopelpnpdbbcaa
theorem ufR_up {r : Nat → Nat} {i j a b : Nat} (e : r a = r b) : ufR r i j a = ufR r i j b := by unfold ufR; rw [e]
theorem ufR_ij {r : Nat → Nat} {i j : Nat} : ufR r i j i = ufR r i j j := by
  unfold ufR; split <;> split <;> omega
theorem ufR_so {n : Nat} {R : Nat → Nat → Prop} {r : Nat → Nat} {i j : Nat} (h : ∀ a b, a < n → b < n → r a = r b → Eg R a b) (hi : i < n) (hj : j < n) (e : Eg R i j) : ∀ a b, a < n → b < n → ufR r i j a = ufR r i j b → Eg R a b := by
  intro a b ha hb e2
  have key : ∀ k, k < n → r k = r i ∨ r k = r j → Eg R k i := fun k hk e3 => Or.elim e3 (fun e4 => h k i hk hi e4) fun e4 => (h k j hk hj e4).trans e.symm
  unfold ufR at e2
  by_cases e3 : r a = max (r i) (r j) <;> by_cases e4 : r b = max (r i) (r j)
  · exact h a b ha hb (by omega)
  · rw [if_pos e3, if_neg e4] at e2
    exact (key a ha (by omega)).trans (key b hb (by omega)).symm
  · rw [if_neg e3, if_pos e4] at e2
    exact (key a ha (by omega)).trans (key b hb (by omega)).symm
  · rw [if_neg e3, if_neg e4] at e2
    exact h a b ha hb e2
/-- What two partitions join at once. -/
def JoR (n : Nat) (p q : List Int) (a b : Nat) : Prop := a < n ∧ b < n ∧ (p.getD a 0 = p.getD b 0 ∨ q.getD a 0 = q.getD b 0)
/-- The forest on the way: it joins nothing too much. -/
def JoI (n : Nat) (p q F : List Int) (r : Nat → Nat) : Prop := Fo n F r ∧ ∀ a b, a < n → b < n → r a = r b → Eg (JoR n p q) a b
theorem JoI.union {n : Nat} {p q F : List Int} {r : Nat → Nat} {i j : Nat} (h : JoI n p q F r) (e : JoR n p q i j) : JoI n p q (ufL r F i j) (ufR r i j) :=
  ⟨h.1.union e.1 e.2.1, ufR_so h.2 e.1 e.2.1 (.rel e)⟩
noncomputable def joB (n : Nat) (p q : List Int) (a b : Nat) : Bool := @decide (Eg (JoR n p q) a b) (Classical.propDecidable _)
theorem joB_true {n : Nat} {p q : List Int} {a b : Nat} : joB n p q a b = true ↔ Eg (JoR n p q) a b := by unfold joB; exact @decide_eq_true_iff _ (Classical.propDecidable _)
noncomputable def joP (n : Nat) (p q : List Int) : List Int := clsL n (joB n p q)
theorem jo_pre (n : Nat) (p q : List Int) : Pre n (joB n p q) :=
  pre_of (fun x _ => joB_true.2 (.refl x)) fun _ _ _ _ _ _ h h' => joB_true.2 ((joB_true.1 h).trans (joB_true.1 h'))
theorem joP_len {n : Nat} {p q : List Int} : (joP n p q).length = n := clsL_len _ _
theorem joP_canon {n : Nat} {p q : List Int} : canon (joP n p q) = joP n p q := canon_idem _
theorem joP_iff {n : Nat} {p q : List Int} {a b : Nat} (ha : a < n) (hb : b < n) : (joP n p q).getD a 0 = (joP n p q).getD b 0 ↔ Eg (JoR n p q) a b := by
  unfold joP
  rw [clsL_iff (jo_pre n p q) ha hb, joB_true, joB_true]
  exact ⟨fun h => h.1, fun h => ⟨h, h.symm⟩⟩
theorem JoI.done {n : Nat} {p q F : List Int} {r : Nat → Nat} (h : JoI n p q F r) (hp : ∀ a b, a < n → b < n → p.getD a 0 = p.getD b 0 → r a = r b) (hq : ∀ a b, a < n → b < n → q.getD a 0 = q.getD b 0 → r a = r b) : canon (rtL n r) = joP n p q := by
  rw [← joP_canon]
  refine canon_congr (d := 0) (e := 0) (by rw [rtL_len, joP_len]) fun i j hi hj => ?_
  rw [rtL_len] at hi hj
  rw [rtL_get hi, rtL_get hj, joP_iff hi hj]
  refine ⟨fun e => h.2 i j hi hj (by omega), fun e => ?_⟩
  have : r i = r j := e.least (Q := fun a b => r a = r b) (fun _ => rfl) (fun _ _ e => e.symm) (fun _ _ _ e e' => e.trans e') (fun a b e => Or.elim e.2.2 (hp a b e.1 e.2.1) (hq a b e.1 e.2.1))
  rw [this]
end Go.Proofs.Yteopelpnpdbbcaa
end
section
/- partition.Join: its contract. -/
namespace Go.Proofs.Yteopelpnpdbbcaa
open Go Go.AM
set_option maxRecDepth 100000
/-- All that a partition joins is joined. -/
def Clo (n : Nat) (p : List Int) (r : Nat → Nat) : Prop := ∀ a b, a < n → b < n → p.getD a 0 = p.getD b 0 → r a = r b
theorem Clo.up {n : Nat} {p : List Int} {r : Nat → Nat} {i j : Nat} (h : Clo n p r) : Clo n p (ufR r i j) := fun a b ha hb e => ufR_up (h a b ha hb e)
set_option maxHeartbeats 4000000 in
theorem pjoin_k (p q : List Int) (h : matchP p q) : fnK TY SP Try.f42 [.ro (.ints .i64 p), .ro (.ints .i64 q)] (.new (.ints .i64 (joP p.length p q))) := by
  have hp := h.2.1
  have hq := h.2.2
  have hpl := hp.1
  have hpq : ∀ i, i < 2 → validP (([p, q] : List (List Int)).getD i []) ∧ (([p, q] : List (List Int)).getD i []).length = p.length ∧ ∀ a b, a < p.length → b < p.length → (([p, q] : List (List Int)).getD i []).getD a 0 = (([p, q] : List (List Int)).getD i []).getD b 0 → JoR p.length p q a b := fun i hi => by
    match i, hi with
    | 0, _ => exact ⟨hp, rfl, fun a b ha hb e => ⟨ha, hb, Or.inl e⟩⟩
    | 1, _ => exact ⟨hq, h.1.symm, fun a b ha hb e => ⟨ha, hb, Or.inr e⟩⟩
  refine Or.inl (cq (pmatch_fn p q) (And.intro rfl (And.intro rfl trivial)) ?_)
  refine And.intro (fun h1 => ?_) (fun _ => ?_)
  · have h1 : (!decide (matchP p q)) = true := h1
    rw [decide_eq_true h] at h1; exact absurd h1 (by decide)
  refine Or.inl (cq (fnew_fn p.length (by omega)) (And.intro rfl trivial) ?_)
  refine Exists.intro [] <| lp3 (fun (i : Nat) (_ : List Int) (_ : Nat → Nat) => [(23, .int .i64 i)]) (fun _ F _ => [(18, .vec 0 (.ints .i64 F) [])]) (fun i F r => i ≤ 2 ∧ JoI p.length p q F r ∧ ∀ i', i' < i → Clo p.length (([p, q] : List (List Int)).getD i' []) r) (fun i _ _ => 2 - i) 0 (disI p.length) id ⟨Nat.zero_le _, ⟨Fo.dis p.length, fun a b _ _ e => by rw [show a = b from e]; exact .refl b⟩, fun i h => absurd h (Nat.not_lt_zero _)⟩ (by repeat' first | refine And.intro ?_ ?_ | exact True.intro | (show (_ : Int) = (_ : Int); omega) | omega | exact rfl | (simp only [RO.len]; omega)) ?_
  rintro i F r ⟨hi, hJ, hC⟩
  refine And.intro (fun h1 => ?_) (fun h1 => ?_)
  · have h1 : (i : Int) < 2 := h1
    have hP := hpq i (by omega)
    have hPl := hP.2.1
    have hcl : (classes (classN (([p, q] : List (List Int)).getD i [])) (([p, q] : List (List Int)).getD i [])).length = classN (([p, q] : List (List Int)).getD i []) := by simp [classes]
    have hcn : classN (([p, q] : List (List Int)).getD i []) ≤ (([p, q] : List (List Int)).getD i []).length := firsts_le _
    refine And.intro (by omega) ?_
    refine Or.inl (cq (pclasses_fn (([p, q] : List (List Int)).getD i []) hP.1) (And.intro rfl trivial) ?_)
    refine Exists.intro [] <| lp3 (fun (c : Nat) (_ : List Int) (_ : Nat → Nat) => [(30, .int .i64 c)]) (fun _ F _ => [(18, .vec 0 (.ints .i64 F) [])]) (fun c F r => c ≤ classN (([p, q] : List (List Int)).getD i []) ∧ JoI p.length p q F r ∧ (∀ i', i' < i → Clo p.length (([p, q] : List (List Int)).getD i' []) r) ∧ ∀ c', c' < c → ∀ x ∈ (classes (classN (([p, q] : List (List Int)).getD i [])) (([p, q] : List (List Int)).getD i [])).getD c' [], r x.toNat = r (hdN (([p, q] : List (List Int)).getD i []) c')) (fun c _ _ => classN (([p, q] : List (List Int)).getD i []) - c) 0 F r ⟨Nat.zero_le _, hJ, hC, fun c h => absurd h (Nat.not_lt_zero _)⟩ (by repeat' first | refine And.intro ?_ ?_ | exact True.intro | (show (_ : Int) = (_ : Int); omega) | omega | exact rfl | (simp only [RO.len]; omega)) ?_
    rintro c F r ⟨hc, hJ, hC, hci⟩
    refine And.intro (fun h2 => ?_) (fun h2 => ?_)
    · have h2 : (c : Int) < ((classes (classN (([p, q] : List (List Int)).getD i [])) (([p, q] : List (List Int)).getD i [])).length : Int) := h2
      have hcl2 : c < classN (([p, q] : List (List Int)).getD i []) := by omega
      have k := hd_at hP.1.2 hcl2
      have kp := cls_pos hP.1.2 hcl2
      have hcll : ((classes (classN (([p, q] : List (List Int)).getD i [])) (([p, q] : List (List Int)).getD i [])).getD c []).length ≤ (([p, q] : List (List Int)).getD i []).length := by
        rw [classes_getD hcl2, List.length_map]
        have := List.length_filter_le (fun i' => decide ((([p, q] : List (List Int)).getD i []).getD i' 0 = (c : Int))) (List.range (([p, q] : List (List Int)).getD i []).length)
        rw [List.length_range] at this; exact this
      refine And.intro (by omega) ?_
      refine Exists.intro [] <| lp3 (fun (m : Nat) (_ : List Int) (_ : Nat → Nat) => [(36, .int .i64 m)]) (fun _ F _ => [(18, .vec 0 (.ints .i64 F) [])]) (fun m F r => m ≤ ((classes (classN (([p, q] : List (List Int)).getD i [])) (([p, q] : List (List Int)).getD i [])).getD c []).length ∧ JoI p.length p q F r ∧ (∀ i', i' < i → Clo p.length (([p, q] : List (List Int)).getD i' []) r) ∧ (∀ c', c' < c → ∀ x ∈ (classes (classN (([p, q] : List (List Int)).getD i [])) (([p, q] : List (List Int)).getD i [])).getD c' [], r x.toNat = r (hdN (([p, q] : List (List Int)).getD i []) c')) ∧ ∀ m', m' < m → r (((classes (classN (([p, q] : List (List Int)).getD i [])) (([p, q] : List (List Int)).getD i [])).getD c []).getD m' 0).toNat = r (hdN (([p, q] : List (List Int)).getD i []) c)) (fun m _ _ => ((classes (classN (([p, q] : List (List Int)).getD i [])) (([p, q] : List (List Int)).getD i [])).getD c []).length - m) 0 F r ⟨Nat.zero_le _, hJ, hC, hci, fun m h => absurd h (Nat.not_lt_zero _)⟩ (by repeat' first | refine And.intro ?_ ?_ | exact True.intro | (show (_ : Int) = (_ : Int); omega) | omega | exact rfl | (simp only [RO.len]; omega)) ?_
      rintro m F r ⟨hm, hJ, hC, hci, hmi⟩
      refine And.intro (fun h3 => ?_) (fun h3 => ?_)
      · have h3 : (m : Int) < (((classes (classN (([p, q] : List (List Int)).getD i [])) (([p, q] : List (List Int)).getD i [])).getD c []).length : Int) := h3
        have hml : m < ((classes (classN (([p, q] : List (List Int)).getD i [])) (([p, q] : List (List Int)).getD i [])).getD c []).length := by omega
        have hx := (mem_classes (p := ([p, q] : List (List Int)).getD i []) hcl2).1 (getD_mem (d := 0) hml)
        have e1 : ((hdN (([p, q] : List (List Int)).getD i []) c : Nat) : Int) = ((classes (classN (([p, q] : List (List Int)).getD i [])) (([p, q] : List (List Int)).getD i [])).getD c []).getD 0 0 := k.2.2.symm
        have e2 : (((((classes (classN (([p, q] : List (List Int)).getD i [])) (([p, q] : List (List Int)).getD i [])).getD c []).getD m 0).toNat : Nat) : Int) = ((classes (classN (([p, q] : List (List Int)).getD i [])) (([p, q] : List (List Int)).getD i [])).getD c []).getD m 0 := Int.toNat_of_nonneg hx.1
        have hjo : JoR p.length p q (hdN (([p, q] : List (List Int)).getD i []) c) (((classes (classN (([p, q] : List (List Int)).getD i [])) (([p, q] : List (List Int)).getD i [])).getD c []).getD m 0).toNat := hP.2.2 _ _ (by omega) (by omega) (by rw [k.2.1, hx.2.2])
        have funion := funion_fn p.length F r (hdN (([p, q] : List (List Int)).getD i []) c) (((classes (classN (([p, q] : List (List Int)).getD i [])) (([p, q] : List (List Int)).getD i [])).getD c []).getD m 0).toNat hJ.1 hjo.1 hjo.2.1 (by omega)
        rw [e1, e2] at funion
        refine And.intro (by omega) ?_
        refine And.intro (by omega) ?_
        refine Or.inr (Or.inl (cm [] [(1000, 18)] funion ?_))
        refine And.intro (by repeat' first | refine And.intro ?_ ?_ | exact True.intro | (show (_ : Int) = (_ : Int); omega) | omega | exact rfl | (simp only [RO.len]; omega)) ?_
        refine And.intro (by omega) ?_
        refine nx (m + 1, ufL r F (hdN (([p, q] : List (List Int)).getD i []) c) (((classes (classN (([p, q] : List (List Int)).getD i [])) (([p, q] : List (List Int)).getD i [])).getD c []).getD m 0).toNat, ufR r (hdN (([p, q] : List (List Int)).getD i []) c) (((classes (classN (([p, q] : List (List Int)).getD i [])) (([p, q] : List (List Int)).getD i [])).getD c []).getD m 0).toNat) ⟨show m + 1 ≤ _ by omega, hJ.union hjo, fun i' hi' => (hC i' hi').up, fun c' hc' x hx' => ufR_up (hci c' hc' x hx'), fun m' hm' => ?_⟩ (show ((classes (classN (([p, q] : List (List Int)).getD i [])) (([p, q] : List (List Int)).getD i [])).getD c []).length - (m + 1) < ((classes (classN (([p, q] : List (List Int)).getD i [])) (([p, q] : List (List Int)).getD i [])).getD c []).length - m by omega) (by repeat' first | refine And.intro ?_ ?_ | exact True.intro | (show (_ : Int) = (_ : Int); omega) | omega | exact rfl | (simp only [RO.len]; omega))
        by_cases e : m' = m
        · subst e; exact ufR_ij.symm
        · exact ufR_up (hmi m' (by omega))
      · have h3 : (((classes (classN (([p, q] : List (List Int)).getD i [])) (([p, q] : List (List Int)).getD i [])).getD c []).length : Int) ≤ (m : Int) := h3
        refine And.intro (by omega) ?_
        refine nx (c + 1, F, r) ⟨show c + 1 ≤ _ by omega, hJ, hC, fun c' hc' x hx => ?_⟩ (show classN (([p, q] : List (List Int)).getD i []) - (c + 1) < classN (([p, q] : List (List Int)).getD i []) - c by omega) (by repeat' first | refine And.intro ?_ ?_ | exact True.intro | (show (_ : Int) = (_ : Int); omega) | omega | exact rfl | (simp only [RO.len]; omega))
        by_cases e : c' = c
        · subst e
          exact Exists.elim (mem_getD 0 hx) fun m' hm' => by rw [← hm'.2]; exact hmi m' (by omega)
        · exact hci c' (by omega) x hx
    · have h2 : ((classes (classN (([p, q] : List (List Int)).getD i [])) (([p, q] : List (List Int)).getD i [])).length : Int) ≤ (c : Int) := h2
      refine And.intro (by omega) ?_
      refine nx (i + 1, F, r) ⟨show i + 1 ≤ 2 by omega, hJ, fun i' hi' => ?_⟩ (show 2 - (i + 1) < 2 - i by omega) (by repeat' first | refine And.intro ?_ ?_ | exact True.intro | (show (_ : Int) = (_ : Int); omega) | omega | exact rfl | (simp only [RO.len]; omega))
      by_cases e : i' = i
      · subst e
        intro a b ha hb e5
        have ki := cls_lt hP.1.2 (x := a) (by omega)
        have mi := (mem_classes (p := ([p, q] : List (List Int)).getD i' []) ki.2.1 (x := (a : Int))).2 ⟨by omega, by omega, by rw [Int.toNat_natCast]; exact ki.2.2⟩
        have mj := (mem_classes (p := ([p, q] : List (List Int)).getD i' []) ki.2.1 (x := (b : Int))).2 ⟨by omega, by omega, by rw [Int.toNat_natCast, ← e5]; exact ki.2.2⟩
        have e1 := hci _ (by omega) _ mi
        have e2 := hci _ (by omega) _ mj
        rw [Int.toNat_natCast] at e1 e2
        rw [e1, e2]
      · exact hC i' (by omega)
  · have h1 : 2 ≤ (i : Int) := h1
    have ed : canon (rtL p.length r) = joP p.length p q := hJ.done (hC 0 (by omega)) (hC 1 (by omega))
    have hpa := fpart_fn p.length F r hJ.1 (by omega)
    rw [ed] at hpa
    refine Or.inr (Or.inl (cm [] [(1000, 18), (21, 301)] hpa ?_))
    refine And.intro (by repeat' first | refine And.intro ?_ ?_ | exact True.intro | (show (_ : Int) = (_ : Int); omega) | omega | exact rfl | (simp only [RO.len]; omega)) ?_
    exact And.intro (And.intro (by omega) rfl) trivial
theorem pjoin_fn (p q : List Int) (h : matchP p q) : QF 42 [.ro (.ints .i64 p), .ro (.ints .i64 q)] (.new (.ints .i64 (joP p.length p q))) := mkQ Try.func42 (by decide +kernel) rfl (Nat.le_of_ble_eq_true rfl) fun _ => pjoin_k p q h
end Go.Proofs.Yteopelpnpdbbcaa
end
