import Derived.Test.YtkbhgnbnnbengaaCgrLaw
import Derived.Test.YtkbhgnbnnbengaaCgFor
import Derived.Test.YtkbhgnbnnbengaaRefPart
import Derived.Test.YtkbhgnbnnbengaaQuoLaw
import Derived.Test.YtkbhgnbnnbengaaSdLaw
import Derived.Test.YtkbhgnbnnbengaaCgSyn
section
section
/- The join of two partitions by a forest: plain laws. -/
namespace Go.Proofs.Ytkbhgnbnnbengaa
theorem ufR_up {r : Nat → Nat} {i j a b : Nat} (e : r a = r b) : ufR r i j a = ufR r i j b := by unfold ufR; rw [e]
theorem ufR_ij {r : Nat → Nat} {i j : Nat} : ufR r i j i = ufR r i j j := by
  unfold ufR; split <;> split <;> omega
theorem ufR_so {n : Nat} {R : Nat → Nat → Prop} {r : Nat → Nat} {i j : Nat} (h : ∀ a b, a < n → b < n → r a = r b → Eg R a b) (hi : i < n) (hj : j < n) (e : Eg R i j) : ∀ a b, a < n → b < n → ufR r i j a = ufR r i j b → Eg R a b := by
  intro a b ha hb e2
  have key : ∀ k, k < n → r k = r i ∨ r k = r j → Eg R k i := fun k hk e3 => Or.elim e3 (fun e4 => h k i hk hi e4) fun e4 => (h k j hk hj e4).trans e.symm
  unfold ufR at e2
  by_cases e3 : r a = max (r i) (r j) <;> by_cases e4 : r b = max (r i) (r j)
  · exact h a b ha hb (by omega)
  · rw [if_pos e3, if_neg e4] at e2
    exact (key a ha (by omega)).trans (key b hb (by omega)).symm
  · rw [if_neg e3, if_pos e4] at e2
    exact (key a ha (by omega)).trans (key b hb (by omega)).symm
  · rw [if_neg e3, if_neg e4] at e2
    exact h a b ha hb e2
def JoR (n : Nat) (p q : List Int) (a b : Nat) : Prop := a < n ∧ b < n ∧ (p.getD a 0 = p.getD b 0 ∨ q.getD a 0 = q.getD b 0)
def JoI (n : Nat) (p q F : List Int) (r : Nat → Nat) : Prop := Fo n F r ∧ ∀ a b, a < n → b < n → r a = r b → Eg (JoR n p q) a b
theorem JoI.union {n : Nat} {p q F : List Int} {r : Nat → Nat} {i j : Nat} (h : JoI n p q F r) (e : JoR n p q i j) : JoI n p q (ufL r F i j) (ufR r i j) :=
  ⟨h.1.union e.1 e.2.1, ufR_so h.2 e.1 e.2.1 (.rel e)⟩
noncomputable def joB (n : Nat) (p q : List Int) (a b : Nat) : Bool := @decide (Eg (JoR n p q) a b) (Classical.propDecidable _)
theorem joB_true {n : Nat} {p q : List Int} {a b : Nat} : joB n p q a b = true ↔ Eg (JoR n p q) a b := by unfold joB; exact @decide_eq_true_iff _ (Classical.propDecidable _)
noncomputable def joP (n : Nat) (p q : List Int) : List Int := clsL n (joB n p q)
theorem jo_pre (n : Nat) (p q : List Int) : Pre n (joB n p q) :=
  pre_of (fun x _ => joB_true.2 (.refl x)) fun _ _ _ _ _ _ h h' => joB_true.2 ((joB_true.1 h).trans (joB_true.1 h'))
theorem joP_len {n : Nat} {p q : List Int} : (joP n p q).length = n := clsL_len _ _
theorem joP_canon {n : Nat} {p q : List Int} : canon (joP n p q) = joP n p q := canon_idem _
theorem joP_iff {n : Nat} {p q : List Int} {a b : Nat} (ha : a < n) (hb : b < n) : (joP n p q).getD a 0 = (joP n p q).getD b 0 ↔ Eg (JoR n p q) a b := by
  unfold joP
  rw [clsL_iff (jo_pre n p q) ha hb, joB_true, joB_true]
  exact ⟨fun h => h.1, fun h => ⟨h, h.symm⟩⟩
theorem JoI.done {n : Nat} {p q F : List Int} {r : Nat → Nat} (h : JoI n p q F r) (hp : ∀ a b, a < n → b < n → p.getD a 0 = p.getD b 0 → r a = r b) (hq : ∀ a b, a < n → b < n → q.getD a 0 = q.getD b 0 → r a = r b) : canon (rtL n r) = joP n p q := by
  rw [← joP_canon]
  refine canon_congr (d := 0) (e := 0) (by rw [rtL_len, joP_len]) fun i j hi hj => ?_
  rw [rtL_len] at hi hj
  rw [rtL_get hi, rtL_get hj, joP_iff hi hj]
  refine ⟨fun e => h.2 i j hi hj (by omega), fun e => ?_⟩
  have : r i = r j := e.least (Q := fun a b => r a = r b) (fun _ => rfl) (fun _ _ e => e.symm) (fun _ _ _ e e' => e.trans e') (fun a b e => Or.elim e.2.2 (hp a b e.1 e.2.1) (hq a b e.1 e.2.1))
  rw [this]
end Go.Proofs.Ytkbhgnbnnbengaa
end
section
/- partition.Join: its contract. -/
namespace Go.Proofs.Ytkbhgnbnnbengaa
open Go Go.AM
set_option maxRecDepth 100000
def Clo (n : Nat) (p : List Int) (r : Nat → Nat) : Prop := ∀ a b, a < n → b < n → p.getD a 0 = p.getD b 0 → r a = r b
theorem Clo.up {n : Nat} {p : List Int} {r : Nat → Nat} {i j : Nat} (h : Clo n p r) : Clo n p (ufR r i j) := fun a b ha hb e => ufR_up (h a b ha hb e)
set_option maxHeartbeats 4000000 in
theorem pjoin_fn (p q : List Int) (h : matchP p q) : QF 100 [.ro (.ints .i64 p), .ro (.ints .i64 q)] (.new (.ints .i64 (joP p.length p q))) := mkQ Try.func100 (by decide +kernel) rfl (Nat.le_of_ble_eq_true rfl) fun _ => by
  have hp := h.2.1
  have hq := h.2.2
  have hpl := hp.1
  have hpq : ∀ i, i < 2 → validP (([p, q] : List (List Int)).getD i []) ∧ (([p, q] : List (List Int)).getD i []).length = p.length ∧ ∀ a b, a < p.length → b < p.length → (([p, q] : List (List Int)).getD i []).getD a 0 = (([p, q] : List (List Int)).getD i []).getD b 0 → JoR p.length p q a b := fun i hi => by
    match i, hi with
    | 0, _ => exact ⟨hp, rfl, fun a b ha hb e => ⟨ha, hb, Or.inl e⟩⟩
    | 1, _ => exact ⟨hq, h.1.symm, fun a b ha hb e => ⟨ha, hb, Or.inr e⟩⟩
  refine Or.inl (cq (pmatch_fn p q) (And.intro rfl (And.intro rfl trivial)) ?_)
  refine And.intro (fun h1 => ?_) (fun _ => ?_)
  · have h1 : (!decide (matchP p q)) = true := h1
    rw [decide_eq_true h] at h1; exact absurd h1 (by decide)
  refine Or.inl (cq (fnew_fn p.length (by omega)) (And.intro rfl trivial) ?_)
  refine Exists.intro [] <| lp3 (fun (i : Nat) (_ : List Int) (_ : Nat → Nat) => [(23, .int .i64 i)]) (fun _ F _ => [(18, .vec 0 (.ints .i64 F) [])]) (fun i F r => i ≤ 2 ∧ JoI p.length p q F r ∧ ∀ i', i' < i → Clo p.length (([p, q] : List (List Int)).getD i' []) r) (fun i _ _ => 2 - i) 0 (disI p.length) id ⟨Nat.zero_le _, ⟨Fo.dis p.length, fun a b _ _ e => by rw [show a = b from e]; exact .refl b⟩, fun i h => absurd h (Nat.not_lt_zero _)⟩ (by repeat' first | refine And.intro ?_ ?_ | exact True.intro | (show (_ : Int) = (_ : Int); omega) | omega | exact rfl | (simp only [RO.len]; omega)) ?_
  rintro i F r ⟨hi, hJ, hC⟩
  refine And.intro (fun h1 => ?_) (fun h1 => ?_)
  · have h1 : (i : Int) < 2 := h1
    have hP := hpq i (by omega)
    have hPl := hP.2.1
    have hcl : (classes (classN (([p, q] : List (List Int)).getD i [])) (([p, q] : List (List Int)).getD i [])).length = classN (([p, q] : List (List Int)).getD i []) := by simp [classes]
    have hcn : classN (([p, q] : List (List Int)).getD i []) ≤ (([p, q] : List (List Int)).getD i []).length := firsts_le _
    refine And.intro (by omega) ?_
    refine Or.inl (cq (pclasses_fn (([p, q] : List (List Int)).getD i []) hP.1) (And.intro rfl trivial) ?_)
    refine Exists.intro [] <| lp3 (fun (c : Nat) (_ : List Int) (_ : Nat → Nat) => [(30, .int .i64 c)]) (fun _ F _ => [(18, .vec 0 (.ints .i64 F) [])]) (fun c F r => c ≤ classN (([p, q] : List (List Int)).getD i []) ∧ JoI p.length p q F r ∧ (∀ i', i' < i → Clo p.length (([p, q] : List (List Int)).getD i' []) r) ∧ ∀ c', c' < c → ∀ x ∈ (classes (classN (([p, q] : List (List Int)).getD i [])) (([p, q] : List (List Int)).getD i [])).getD c' [], r x.toNat = r (hdN (([p, q] : List (List Int)).getD i []) c')) (fun c _ _ => classN (([p, q] : List (List Int)).getD i []) - c) 0 F r ⟨Nat.zero_le _, hJ, hC, fun c h => absurd h (Nat.not_lt_zero _)⟩ (by repeat' first | refine And.intro ?_ ?_ | exact True.intro | (show (_ : Int) = (_ : Int); omega) | omega | exact rfl | (simp only [RO.len]; omega)) ?_
    rintro c F r ⟨hc, hJ, hC, hci⟩
    refine And.intro (fun h2 => ?_) (fun h2 => ?_)
    · have h2 : (c : Int) < ((classes (classN (([p, q] : List (List Int)).getD i [])) (([p, q] : List (List Int)).getD i [])).length : Int) := h2
      have hcl2 : c < classN (([p, q] : List (List Int)).getD i []) := by omega
      have k := hd_at hP.1.2 hcl2
      have kp := cls_pos hP.1.2 hcl2
      have hcll : ((classes (classN (([p, q] : List (List Int)).getD i [])) (([p, q] : List (List Int)).getD i [])).getD c []).length ≤ (([p, q] : List (List Int)).getD i []).length := by
        rw [classes_getD hcl2, List.length_map]
        have := List.length_filter_le (fun i' => decide ((([p, q] : List (List Int)).getD i []).getD i' 0 = (c : Int))) (List.range (([p, q] : List (List Int)).getD i []).length)
        rw [List.length_range] at this; exact this
      refine And.intro (by omega) ?_
      refine Exists.intro [] <| lp3 (fun (m : Nat) (_ : List Int) (_ : Nat → Nat) => [(36, .int .i64 m)]) (fun _ F _ => [(18, .vec 0 (.ints .i64 F) [])]) (fun m F r => m ≤ ((classes (classN (([p, q] : List (List Int)).getD i [])) (([p, q] : List (List Int)).getD i [])).getD c []).length ∧ JoI p.length p q F r ∧ (∀ i', i' < i → Clo p.length (([p, q] : List (List Int)).getD i' []) r) ∧ (∀ c', c' < c → ∀ x ∈ (classes (classN (([p, q] : List (List Int)).getD i [])) (([p, q] : List (List Int)).getD i [])).getD c' [], r x.toNat = r (hdN (([p, q] : List (List Int)).getD i []) c')) ∧ ∀ m', m' < m → r (((classes (classN (([p, q] : List (List Int)).getD i [])) (([p, q] : List (List Int)).getD i [])).getD c []).getD m' 0).toNat = r (hdN (([p, q] : List (List Int)).getD i []) c)) (fun m _ _ => ((classes (classN (([p, q] : List (List Int)).getD i [])) (([p, q] : List (List Int)).getD i [])).getD c []).length - m) 0 F r ⟨Nat.zero_le _, hJ, hC, hci, fun m h => absurd h (Nat.not_lt_zero _)⟩ (by repeat' first | refine And.intro ?_ ?_ | exact True.intro | (show (_ : Int) = (_ : Int); omega) | omega | exact rfl | (simp only [RO.len]; omega)) ?_
      rintro m F r ⟨hm, hJ, hC, hci, hmi⟩
      refine And.intro (fun h3 => ?_) (fun h3 => ?_)
      · have h3 : (m : Int) < (((classes (classN (([p, q] : List (List Int)).getD i [])) (([p, q] : List (List Int)).getD i [])).getD c []).length : Int) := h3
        have hml : m < ((classes (classN (([p, q] : List (List Int)).getD i [])) (([p, q] : List (List Int)).getD i [])).getD c []).length := by omega
        have hx := (mem_classes (p := ([p, q] : List (List Int)).getD i []) hcl2).1 (getD_mem (d := 0) hml)
        have e1 : ((hdN (([p, q] : List (List Int)).getD i []) c : Nat) : Int) = ((classes (classN (([p, q] : List (List Int)).getD i [])) (([p, q] : List (List Int)).getD i [])).getD c []).getD 0 0 := k.2.2.symm
        have e2 : (((((classes (classN (([p, q] : List (List Int)).getD i [])) (([p, q] : List (List Int)).getD i [])).getD c []).getD m 0).toNat : Nat) : Int) = ((classes (classN (([p, q] : List (List Int)).getD i [])) (([p, q] : List (List Int)).getD i [])).getD c []).getD m 0 := Int.toNat_of_nonneg hx.1
        have hjo : JoR p.length p q (hdN (([p, q] : List (List Int)).getD i []) c) (((classes (classN (([p, q] : List (List Int)).getD i [])) (([p, q] : List (List Int)).getD i [])).getD c []).getD m 0).toNat := hP.2.2 _ _ (by omega) (by omega) (by rw [k.2.1, hx.2.2])
        have funion := funion_fn p.length F r (hdN (([p, q] : List (List Int)).getD i []) c) (((classes (classN (([p, q] : List (List Int)).getD i [])) (([p, q] : List (List Int)).getD i [])).getD c []).getD m 0).toNat hJ.1 hjo.1 hjo.2.1 (by omega)
        rw [e1, e2] at funion
        refine And.intro (by omega) ?_
        refine And.intro (by omega) ?_
        refine Or.inr (Or.inl (cm [] [(1000, 18)] funion ?_))
        refine And.intro (by repeat' first | refine And.intro ?_ ?_ | exact True.intro | (show (_ : Int) = (_ : Int); omega) | omega | exact rfl | (simp only [RO.len]; omega)) ?_
        refine And.intro (by omega) ?_
        refine nx (m + 1, ufL r F (hdN (([p, q] : List (List Int)).getD i []) c) (((classes (classN (([p, q] : List (List Int)).getD i [])) (([p, q] : List (List Int)).getD i [])).getD c []).getD m 0).toNat, ufR r (hdN (([p, q] : List (List Int)).getD i []) c) (((classes (classN (([p, q] : List (List Int)).getD i [])) (([p, q] : List (List Int)).getD i [])).getD c []).getD m 0).toNat) ⟨show m + 1 ≤ _ by omega, hJ.union hjo, fun i' hi' => (hC i' hi').up, fun c' hc' x hx' => ufR_up (hci c' hc' x hx'), fun m' hm' => ?_⟩ (show ((classes (classN (([p, q] : List (List Int)).getD i [])) (([p, q] : List (List Int)).getD i [])).getD c []).length - (m + 1) < ((classes (classN (([p, q] : List (List Int)).getD i [])) (([p, q] : List (List Int)).getD i [])).getD c []).length - m by omega) (by repeat' first | refine And.intro ?_ ?_ | exact True.intro | (show (_ : Int) = (_ : Int); omega) | omega | exact rfl | (simp only [RO.len]; omega))
        by_cases e : m' = m
        · subst e; exact ufR_ij.symm
        · exact ufR_up (hmi m' (by omega))
      · have h3 : (((classes (classN (([p, q] : List (List Int)).getD i [])) (([p, q] : List (List Int)).getD i [])).getD c []).length : Int) ≤ (m : Int) := h3
        refine And.intro (by omega) ?_
        refine nx (c + 1, F, r) ⟨show c + 1 ≤ _ by omega, hJ, hC, fun c' hc' x hx => ?_⟩ (show classN (([p, q] : List (List Int)).getD i []) - (c + 1) < classN (([p, q] : List (List Int)).getD i []) - c by omega) (by repeat' first | refine And.intro ?_ ?_ | exact True.intro | (show (_ : Int) = (_ : Int); omega) | omega | exact rfl | (simp only [RO.len]; omega))
        by_cases e : c' = c
        · subst e
          exact Exists.elim (mem_getD 0 hx) fun m' hm' => by rw [← hm'.2]; exact hmi m' (by omega)
        · exact hci c' (by omega) x hx
    · have h2 : ((classes (classN (([p, q] : List (List Int)).getD i [])) (([p, q] : List (List Int)).getD i [])).length : Int) ≤ (c : Int) := h2
      refine And.intro (by omega) ?_
      refine nx (i + 1, F, r) ⟨show i + 1 ≤ 2 by omega, hJ, fun i' hi' => ?_⟩ (show 2 - (i + 1) < 2 - i by omega) (by repeat' first | refine And.intro ?_ ?_ | exact True.intro | (show (_ : Int) = (_ : Int); omega) | omega | exact rfl | (simp only [RO.len]; omega))
      by_cases e : i' = i
      · subst e
        intro a b ha hb e5
        have ki := cls_lt hP.1.2 (x := a) (by omega)
        have mi := (mem_classes (p := ([p, q] : List (List Int)).getD i' []) ki.2.1 (x := (a : Int))).2 ⟨by omega, by omega, by rw [Int.toNat_natCast]; exact ki.2.2⟩
        have mj := (mem_classes (p := ([p, q] : List (List Int)).getD i' []) ki.2.1 (x := (b : Int))).2 ⟨by omega, by omega, by rw [Int.toNat_natCast, ← e5]; exact ki.2.2⟩
        have e1 := hci _ (by omega) _ mi
        have e2 := hci _ (by omega) _ mj
        rw [Int.toNat_natCast] at e1 e2
        rw [e1, e2]
      · exact hC i' (by omega)
  · have h1 : 2 ≤ (i : Int) := h1
    have ed : canon (rtL p.length r) = joP p.length p q := hJ.done (hC 0 (by omega)) (hC 1 (by omega))
    have hpa := fpart_fn p.length F r hJ.1 (by omega)
    rw [ed] at hpa
    refine Or.inr (Or.inl (cm [] [(1000, 18), (21, 301)] hpa ?_))
    refine And.intro (by repeat' first | refine And.intro ?_ ?_ | exact True.intro | (show (_ : Int) = (_ : Int); omega) | omega | exact rfl | (simp only [RO.len]; omega)) ?_
    exact And.intro (And.intro (by omega) rfl) trivial
end Go.Proofs.Ytkbhgnbnnbengaa
end
end
section
/- Coarser congruences with irreducible quotients: plain laws. -/
namespace Go.Proofs.Ytkbhgnbnnbengaa
open Go Go.AM
theorem Eg.map {R S : Nat → Nat → Prop} {f : Nat → Nat} (h : ∀ a b, R a b → Eg S (f a) (f b)) {a b : Nat} (e : Eg R a b) : Eg S (f a) (f b) :=
  Eg.least (Q := fun a b => Eg S (f a) (f b)) (fun a => .refl (f a)) (fun _ _ h => h.symm) (fun _ _ _ h h' => h.trans h') h e
section
variable {t : List (List Int)} {p q : List Int}
theorem joP_cg (hp : IsCg t p 0) (hq : IsCg t q 0) : IsCg t (joP t.length p q) 0 := by
  have hS := hp.semi.toSh
  refine ⟨hp.semi, joP_len, ⟨by rw [joP_len]; have := hS.most; omega, joP_canon⟩, by decide, fun x y s hx hy hs e => ?_⟩
  have e := (joP_iff hx hy).1 e
  have step : ∀ {f : Nat → Nat}, (∀ a, a < t.length → f a < t.length) → (∀ a b, a < t.length → b < t.length → p.getD a 0 = p.getD b 0 → p.getD (f a) 0 = p.getD (f b) 0) → (∀ a b, a < t.length → b < t.length → q.getD a 0 = q.getD b 0 → q.getD (f a) 0 = q.getD (f b) 0) → Eg (JoR t.length p q) (f x) (f y) := fun hf h1 h2 =>
    Eg.map (fun a b ⟨ha, hb, h⟩ => .rel ⟨hf a ha, hf b hb, h.imp (h1 a b ha hb) (h2 a b ha hb)⟩) e
  refine ⟨fun _ => (joP_iff (hS.ent hs hx).2 (hS.ent hs hy).2).2 ?_, fun _ => (joP_iff (hS.ent hx hs).2 (hS.ent hy hs).2).2 ?_⟩
  · exact step (f := fun a => en t s a) (fun a ha => (hS.ent hs ha).2) (fun a b ha hb h => (hp.cg a b s ha hb hs h).1 (by decide)) fun a b ha hb h => (hq.cg a b s ha hb hs h).1 (by decide)
  · exact step (f := fun a => en t a s) (fun a ha => (hS.ent ha hs).2) (fun a b ha hb h => (hp.cg a b s ha hb hs h).2 (by decide)) fun a b ha hb h => (hq.cg a b s ha hb hs h).2 (by decide)
theorem mtP_cg (hp : IsCg t p 0) (hq : IsCg t q 0) : IsCg t (mtP p q) 0 := by
  have hS := hp.semi.toSh
  have hm := hp.pt.mt hq.pt
  refine ⟨hp.semi, hm.1, hm.2, by decide, fun x y s hx hy hs e => ?_⟩
  have e := (mtP_ker hp.pt hq.pt hx hy).1 e
  exact ⟨fun _ => (mtP_ker hp.pt hq.pt (hS.ent hs hx).2 (hS.ent hs hy).2).2 ⟨(hp.cg x y s hx hy hs e.1).1 (by decide), (hq.cg x y s hx hy hs e.2).1 (by decide)⟩, fun _ => (mtP_ker hp.pt hq.pt (hS.ent hx hs).2 (hS.ent hy hs).2).2 ⟨(hp.cg x y s hx hy hs e.1).2 (by decide), (hq.cg x y s hx hy hs e.2).2 (by decide)⟩⟩
theorem dis_ker {n x y : Nat} (hx : x < n) (hy : y < n) (e : kerP (disI n) x y) : x = y := by
  unfold kerP at e
  rw [disI_get hx, disI_get hy] at e
  omega
theorem dis_pt {n : Nat} (hn : n ≤ 4096) : Pt n (disI n) := ⟨disI_len n, by rw [disI_len]; exact hn, by
  refine canon_fix.2 fun i hi => ?_
  rw [disI_len] at hi
  refine ⟨by rw [disI_get hi]; omega, ?_⟩
  rw [disI_get hi]
  have hd : ((disI n).take i).Nodup := by
    refine List.nodup_iff_pairwise_ne.2 (List.pairwise_iff_getElem.2 fun a b ha hb hab => ?_)
    simp [disI]
    omega
  have := nodup_sub hd (B := firsts ((disI n).take i)) fun v hv => mem_firsts.2 hv
  rw [List.length_take, disI_len] at this
  omega⟩
theorem dis_cg (h : Semi t) : IsCg t (disI t.length) 0 :=
  ⟨h, disI_len _, (dis_pt (by have := h.most; omega)).2, by decide, fun x y s hx hy _ e => by
    obtain rfl := dis_ker hx hy e
    exact ⟨fun _ => rfl, fun _ => rfl⟩⟩
def nxtP (p w : List Int) : List Int := p.map fun c => w.getD c.toNat 0
theorem nxt_len (p w : List Int) : (nxtP p w).length = p.length := by simp [nxtP]
theorem nxt_get {w : List Int} {x : Nat} (hx : x < p.length) : (nxtP p w).getD x 0 = w.getD (p.getD x 0).toNat 0 := by simp [nxtP, List.getD, hx]
theorem nxt_pt {n : Nat} {w : List Int} (hp : Pt n p) (hw : Pt (classN p) w) : Pt n (nxtP p w) := by
  have hl : (nxtP p w).length = n := by rw [nxt_len, hp.1]
  refine ⟨hl, by rw [hl]; have := hp.2.1; have := hp.1; omega, canon_fix.2 fun i hi => ?_⟩
  rw [nxt_len] at hi
  have hpo := canon_fix.1 hp.2.2
  have hwo := canon_fix.1 hw.2.2
  have k := cls_lt hp.2.2 hi
  have hw1 := hwo (p.getD i 0).toNat (by rw [hw.1]; exact k.2.1)
  refine ⟨by rw [nxt_get hi]; exact hw1.1, ?_⟩
  rw [nxt_get hi]
  refine Int.le_trans hw1.2 (Int.ofNat_le.2 (nodup_sub (firsts_nodup _) fun v hv => mem_firsts.2 ?_))
  obtain ⟨d, hd, rfl⟩ := List.mem_take_iff_getElem.1 (mem_firsts.1 hv)
  have hfv := firsts_valid (p := p) (i := i) (by omega) fun j hj => hpo j (by omega)
  have hdm : (d : Int) ∈ firsts (p.take i) := by
    rw [hfv]
    refine List.mem_map.2 ⟨d, List.mem_range.2 ?_, rfl⟩
    have := (hpo i hi).2
    omega
  obtain ⟨j, hj, hje⟩ := List.mem_take_iff_getElem.1 (mem_firsts.1 hdm)
  refine List.mem_take_iff_getElem.2 ⟨j, by rw [nxt_len]; exact hj, ?_⟩
  have hjp : j < p.length := by omega
  have e1 : p.getD j 0 = (d : Int) := by rw [getD_eq hjp]; exact hje
  have e2 := nxt_get (w := w) hjp
  rw [getD_eq (by rw [nxt_len]; exact hjp), e1, Int.toNat_natCast, getD_eq (by omega)] at e2
  exact e2
theorem nxt_ker {n : Nat} {w : List Int} (hp : Pt n p) {x y : Nat} (hx : x < n) (hy : y < n) : kerP (nxtP p w) x y ↔ kerP w (p.getD x 0).toNat (p.getD y 0).toNat := by
  have := hp.1
  unfold kerP
  rw [nxt_get (by omega), nxt_get (by omega)]
theorem nxt_cg {w : List Int} (hp : IsCg t p 0) (hw : IsCg (quoL t p) w 0) : IsCg t (nxtP p w) 0 := by
  have hS := hp.semi.toSh
  have hwp : Pt (classN p) w := by have := hw.pt; rw [quoL_len] at this; exact this
  have hn := nxt_pt hp.pt hwp
  have hlt : ∀ x, x < t.length → (p.getD x 0).toNat < (quoL t p).length := fun x hx => by rw [quoL_len]; exact (cls_lt hp.val.2 (by rw [hp.len]; exact hx)).2.1
  refine ⟨hp.semi, hn.1, hn.2, by decide, fun x y s hx hy hs e => ?_⟩
  have e := (nxt_ker hp.pt hx hy).1 e
  have g := hw.cg _ _ _ (hlt x hx) (hlt y hy) (hlt s hs) e
  have q1 := fun {a b : Nat} (ha : a < t.length) (hb : b < t.length) => quo_en_hom hS hp.len hp.val.2 hp.cg ha hb
  unfold CgA at g
  rw [q1 hs hx, q1 hs hy, q1 hx hs, q1 hy hs] at g
  exact ⟨fun _ => (nxt_ker hp.pt (hS.ent hs hx).2 (hS.ent hs hy).2).2 (g.1 (by decide)), fun _ => (nxt_ker hp.pt (hS.ent hx hs).2 (hS.ent hy hs).2).2 (g.2 (by decide))⟩
theorem nxt_less {w : List Int} (hp : IsCg t p 0) (hw : IsCg (quoL t p) w 0) (hj : Joins (quoL t p).length w) : classN (nxtP p w) < classN p := by
  have hn := nxt_cg hp hw
  have hs := same_count hn.val.2 hp.val.2 (by rw [hn.len, hp.len]) fun x y hx hy e => (nxt_ker hp.pt (by rw [← hn.len]; exact hx) (by rw [← hn.len]; exact hy)).2 (by unfold kerP; rw [e])
  refine Nat.lt_of_le_of_ne hs.1 fun e => ?_
  have e2 := hs.2 e
  obtain ⟨c, d, hc, hd, hne, h⟩ := hj
  rw [quoL_len] at hc hd
  obtain ⟨x, hx, rfl⟩ := cls_rep hp.len hp.val.2 hc
  obtain ⟨y, hy, rfl⟩ := cls_rep hp.len hp.val.2 hd
  have h3 := (nxt_ker hp.pt hx hy).2 h
  rw [← e2] at h3
  exact hne (congrArg Int.toNat h3)
end
structure CoI (q : List (List Int)) (L : List (List (Int × Int))) (x y k : Nat) (p : List Int) : Prop where
  cg : IsCg q p 0
  ap : ¬ kerP p x y
  jo : Joins q.length p ∨ Disc q.length (kerP p) ∧ ∀ j, j < k → kerP (eqP q.length (relP (L.getD j []))) x y
section
variable {q : List (List Int)} {L : List (List (Int × Int))} {x y k : Nat} {p : List Int}
theorem CoI.start (h : Semi q) (hx : x < q.length) (hy : y < q.length) (hne : x ≠ y) : CoI q L x y 0 (disI q.length) :=
  ⟨dis_cg h, fun e => hne (dis_ker hx hy e), .inr ⟨fun _ _ ha hb e => dis_ker ha hb e, fun _ h => absurd h (Nat.not_lt_zero _)⟩⟩
theorem CoI.take (h : CoI q L x y k p) (hL : AtomsOk q L) (hk : k < L.length) (ha : ¬ kerP (joP q.length p (eqP q.length (relP (L.getD k [])))) x y) : CoI q L x y (k + 1) (joP q.length p (eqP q.length (relP (L.getD k [])))) := by
  have hm := hL.mi _ (getD_mem (d := []) hk)
  obtain ⟨a, b, h1, h2, h3, h4⟩ := hm.jo
  exact ⟨joP_cg h.cg hm.cg, ha, .inl ⟨a, b, h1, h2, h3, (joP_iff h1 h2).2 (.rel ⟨h1, h2, .inr h4⟩)⟩⟩
theorem CoI.skip (h : CoI q L x y k p) (hx : x < q.length) (hy : y < q.length) (ha : kerP (joP q.length p (eqP q.length (relP (L.getD k [])))) x y) : CoI q L x y (k + 1) p := by
  refine ⟨h.cg, h.ap, h.jo.imp id fun ⟨h1, h2⟩ => ⟨h1, fun j hj => ?_⟩⟩
  by_cases e : j = k
  · subst e
    exact Eg.least (Q := kerP (eqP q.length (relP (L.getD j [])))) (fun _ => rfl) (fun _ _ h => h.symm) (fun _ _ _ h h' => h.trans h') (fun a b ⟨ha, hb, h⟩ => h.elim (fun h => by rw [h1 a b ha hb h]; rfl) id) ((joP_iff hx hy).1 ha)
  · exact h2 j (by omega)
theorem CoI.done (h : CoI q L x y k p) (hL : AtomsOk q L) (h2 : 2 ≤ L.length) (hk : L.length ≤ k) (hx : x < q.length) (hy : y < q.length) (hne : x ≠ y) : Joins q.length p := by
  rcases h.jo with h | ⟨_, h⟩
  · exact h
  · have m0 := hL.mi _ (getD_mem (d := []) (show 0 < L.length by omega))
    have m1 := hL.mi _ (getD_mem (d := []) (show 1 < L.length by omega))
    have hM := mtP_cg m0.cg m1.cg
    have ker := fun {a b : Nat} (ha : a < q.length) (hb : b < q.length) => mtP_ker m0.cg.pt m1.cg.pt ha hb
    have hMj : Joins q.length (mtP (eqP q.length (relP (L.getD 0 []))) (eqP q.length (relP (L.getD 1 [])))) := ⟨x, y, hx, hy, hne, (ker hx hy).2 ⟨h 0 (by omega), h 1 (by omega)⟩⟩
    have s0 := m0.mi _ hM hMj fun a b ha hb e => ((ker ha hb).1 e).1
    have s1 := m1.mi _ hM hMj fun a b ha hb e => ((ker ha hb).1 e).2
    have e := sub_eq m0.cg.len m1.cg.len m0.cg.val.2 m1.cg.val.2 (fun a b ha hb e => ((ker ha hb).1 (s0 a b ha hb e)).2) fun a b ha hb e => ((ker ha hb).1 (s1 a b ha hb e)).1
    have hnd := List.pairwise_iff_getElem.1 (List.nodup_iff_pairwise_ne.1 hL.nd) 0 1 (by rw [List.length_map]; omega) (by rw [List.length_map]; omega) (by omega)
    refine absurd ?_ hnd
    rw [List.getElem_map, List.getElem_map, ← getD_eq (d := []), ← getD_eq (d := [])]
    exact e
end
end Go.Proofs.Ytkbhgnbnnbengaa
end
section
/- Package subdirect: coarser, apart: contracts. -/
namespace Go.Proofs.Ytkbhgnbnnbengaa
open Go Go.AM
set_option maxRecDepth 100000
set_option maxHeartbeats 1000000 in
theorem coar_fn (q : List (List Int)) (L : List (List (Int × Int))) (x y : Nat) (hq : Semi q) (hL : AtomsOk q L) (h2 : 2 ≤ L.length) (hx : x < q.length) (hy : y < q.length) (hne : x ≠ y) : EF 84 [.int .i64 q.length, .ro (.prows L), .int .i64 x, .int .i64 y] (fun w : List Int => .ro (.ints .i64 w)) (fun w => IsCg q w 0 ∧ ¬ kerP w x y ∧ Joins q.length w) := mkE Try.func84 (by decide +kernel) rfl (Nat.le_of_ble_eq_true rfl) fun _ => by
  have hn := hq.most
  have hLl : L.length ≤ 160000 := Nat.le_trans hL.le (Nat.mul_le_mul hn hn)
  refine Or.inl (cq (pdis_fn q.length (by omega)) (And.intro rfl trivial) ?_)
  refine Exists.intro [14, 21, 24, 25, 26, 28, 30, 32, 35, 12, 10014, 10024, 10025] <| lp2 (fun (k : Nat) (p : List Int) => [(17, .int .i64 k), (9, .ro (.ints .i64 p))]) (fun _ _ => []) (fun k p => k ≤ L.length ∧ CoI q L x y k p) (fun k _ => L.length - k) 0 (disI q.length) ⟨Nat.zero_le _, CoI.start hq hx hy hne⟩ (by repeat' first | refine And.intro ?_ ?_ | exact True.intro | (show (_ : Int) = (_ : Int); omega) | omega | exact rfl | (simp only [RO.len]; omega)) ?_
  rintro k p ⟨hk, hI⟩
  have hpl := hI.cg.len
  refine And.intro (fun h1 => ?_) (fun h1 => ?_)
  · have h1 : (k : Int) < (L.length : Int) := h1
    have hkl : k < L.length := by omega
    have hin := hL.inw _ (getD_mem (d := []) hkl)
    have hm := hL.mi _ (getD_mem (d := []) hkl)
    have hE : canon (rtL q.length (prR id (L.getD k []))) = eqP q.length (relP (L.getD k [])) := pairs_eqP hin
    have hfp := fpairs_fn q.length (by omega) (L.getD k []) fun z hz => ⟨(hin z hz).1.1, (hin z hz).1.2, (hin z hz).2.1, (hin z hz).2.2⟩
    rw [hE] at hfp
    have hjn := pjoin_fn p (eqP q.length (relP (L.getD k []))) ⟨by rw [hpl, hm.cg.len], hI.cg.val, hm.cg.val⟩
    rw [hpl] at hjn
    have hjl : (joP q.length p (eqP q.length (relP (L.getD k [])))).length = q.length := joP_len
    refine And.intro (by omega) ?_
    refine Or.inl (cq hfp (And.intro rfl (And.intro rfl trivial)) ?_)
    refine Or.inl (cq hjn (And.intro rfl (And.intro rfl trivial)) ?_)
    refine Or.inl ?_
    refine Exists.intro (List.replicate 9 false) (And.intro (by decide +kernel) ?_)
    refine And.intro (show 0 ≤ (x : Int) ∧ (x : Int) < ((joP q.length p (eqP q.length (relP (L.getD k [])))).length : Int) by omega) ?_
    refine And.intro (show 0 ≤ (y : Int) ∧ (y : Int) < ((joP q.length p (eqP q.length (relP (L.getD k [])))).length : Int) by omega) ?_
    refine And.intro (fun h3 => ?_) (fun h3 => ?_)
    · have h3 : ¬ kerP (joP q.length p (eqP q.length (relP (L.getD k [])))) x y := h3
      refine And.intro (by omega) ?_
      exact nx (k + 1, _) ⟨by omega, hI.take hL hkl h3⟩ (show L.length - (k + 1) < L.length - k by omega) (by repeat' first | refine And.intro ?_ ?_ | exact True.intro | (show (_ : Int) = (_ : Int); omega) | omega | exact rfl | (simp only [RO.len]; omega))
    · have h3 : kerP (joP q.length p (eqP q.length (relP (L.getD k [])))) x y := h3
      refine And.intro (by omega) ?_
      exact nx (k + 1, p) ⟨by omega, hI.skip hx hy h3⟩ (show L.length - (k + 1) < L.length - k by omega) (by repeat' first | refine And.intro ?_ ?_ | exact True.intro | (show (_ : Int) = (_ : Int); omega) | omega | exact rfl | (simp only [RO.len]; omega))
  · have h1 : (L.length : Int) ≤ (k : Int) := h1
    refine Exists.intro p (And.intro ⟨hI.cg, hI.ap, hI.done hL h2 (by omega) hx hy hne⟩ ?_)
    repeat' first | refine And.intro ?_ ?_ | exact True.intro | omega | exact rfl
end Go.Proofs.Ytkbhgnbnnbengaa
end
section
/- Package subdirect: apart: contract. -/
namespace Go.Proofs.Ytkbhgnbnnbengaa
open Go Go.AM
set_option maxRecDepth 100000
structure AptOk (t : List (List Int)) (x y : Nat) (p : List Int) : Prop where
  cg : IsCg t p 0
  irr : Irr (quoL t p)
  ap : ¬ kerP p x y
def labX (n x : Nat) : List Int := (List.replicate n 0).set x 1
theorem labX_ne {n x y : Nat} (hx : x < n) (hy : y < n) (hne : x ≠ y) : (canon (labX n x)).getD x 0 ≠ (canon (labX n x)).getD y 0 := fun e => by
  have hl : (labX n x).length = n := by simp [labX]
  have e := (canon_eq_iff (d := 0) (by omega) (by omega)).1 e
  unfold labX at e
  rw [getD_set_eq (by simp; omega), getD_set_ne hne, triv_get] at e
  exact absurd e (by decide)
theorem irr_of_few {t p : List (List Int)} {L : List (List (Int × Int))} (_ : p = t) (hs : Semi t) (hL : AtomsOk t L) (h2 : 2 ≤ t.length) (hf : L.length < 2) : Irr t := ⟨hs, by have := hL.num; have := hL.pos hs h2; omega⟩
set_option maxHeartbeats 1000000 in
theorem apt_fn (t : List (List Int)) (x y : Nat) (hs : Semi t) (ht : t.length ≤ 60) (hx : x < t.length) (hy : y < t.length) (hne : x ≠ y) : EF 50 [.ro (.rows .i64 t), .int .i64 x, .int .i64 y] (fun p : List Int => .ro (.ints .i64 p)) (AptOk t x y) := mkE Try.func50 (by decide +kernel) rfl (Nat.le_of_ble_eq_true rfl) fun _ => by
  have hll : (labX t.length x).length = t.length := by simp [labX]
  have hcl : (canon (labX t.length x)).length = t.length := by rw [canon_length, hll]
  have hcv : validP (canon (labX t.length x)) := ⟨by rw [hcl]; omega, canon_idem _⟩
  refine And.intro (by omega) ?_
  refine And.intro (by omega) ?_
  have hrl : (List.replicate (t.length : Int).toNat (0 : Int)).length = t.length := by simp
  refine And.intro (show 0 ≤ (x : Int) ∧ (x : Int) < ((List.replicate (t.length : Int).toNat (0 : Int)).length : Int) by omega) ?_
  refine And.intro (by omega) ?_
  have hcan := Canonical_fn (labX t.length x)
  rw [if_pos (by omega)] at hcan
  refine Or.inl (cq hcan (And.intro rfl trivial) ?_)
  refine Or.inl (cq (ccoa_fn t (canon (labX t.length x)) hs hcl hcv) (And.intro rfl (And.intro rfl trivial)) ?_)
  refine Exists.intro [7, 17, 18, 20, 22, 23, 24, 26, 27, 9, 28, 10, 29, 11, 12, 34, 36, 37, 41, 45, 48, 49, 56, 58, 60, 62, 64, 10017, 10023, 10024, 10027, 10045, 10048] <| lp (X := List Int) (fun p => [(8, .ro (.ints .i64 p))]) (fun _ => []) (fun p => IsCg t p 0 ∧ ¬ kerP p x y) (fun p => classN p) (synP t (canon (labX t.length x))) ⟨synP_is hs, fun e => labX_ne hx hy hne ((synP_iff hx hy).1 e).own⟩ (by repeat' first | refine And.intro ?_ ?_ | exact True.intro | (show (_ : Int) = (_ : Int); omega) | omega | exact rfl | (simp only [RO.len]; omega)) ?_
  rintro p ⟨hcg, hap⟩
  have hpl := hcg.len
  have hql := hcg.quo_le
  have kx := cls_lt hcg.val.2 (x := x) (by omega)
  have ky := cls_lt hcg.val.2 (x := y) (by omega)
  have hqn : (quoL t p).length = classN p := quoL_len
  have hne2 : (p.getD x 0).toNat ≠ (p.getD y 0).toNat := fun e => hap (by unfold kerP; omega)
  refine Or.inl (cq (sdquo_fn t p hcg) (And.intro rfl (And.intro rfl trivial)) ?_)
  refine Or.inr (Or.inr (ce (atoms_fn (quoL t p) hcg.quo (by omega)) (And.intro rfl trivial) ?_))
  intro L hL
  have hL : AtomsOk (quoL t p) L := hL
  refine And.intro (fun h1 => ?_) (fun h1 => ?_)
  · have h1 : (L.length : Int) < 2 := h1
    refine Exists.intro p (And.intro ⟨hcg, irr_of_few rfl hcg.quo hL (by omega) (by omega), hap⟩ ?_)
    repeat' first | refine And.intro ?_ ?_ | exact True.intro | omega | exact rfl
  have h1 : 2 ≤ (L.length : Int) := h1
  refine Or.inl ?_
  refine Exists.intro (List.replicate 11 false ++ [true, false]) (And.intro (by decide +kernel) ?_)
  refine And.intro (show 0 ≤ (x : Int) ∧ (x : Int) < (p.length : Int) by omega) ?_
  refine And.intro (show 0 ≤ (y : Int) ∧ (y : Int) < (p.length : Int) by omega) ?_
  refine Or.inr (Or.inr (ce (coar_fn (quoL t p) L (p.getD x 0).toNat (p.getD y 0).toNat hcg.quo hL (by omega) (by omega) (by omega) hne2) ?_ ?_))
  · repeat' first | refine And.intro ?_ ?_ | exact True.intro | exact kx.2.2 | exact ky.2.2 | exact rfl
  intro w hw
  have hw : IsCg (quoL t p) w 0 ∧ ¬ kerP w (p.getD x 0).toNat (p.getD y 0).toNat ∧ Joins (quoL t p).length w := hw
  have hwl := hw.1.len
  refine And.intro (by omega) ?_
  refine And.intro (by omega) ?_
  refine Exists.intro [] <| lp2 (fun (i : Nat) (_ : List Int) => [(51, .int .i64 i)]) (fun _ N => [(48, .vec 0 (.ints .i64 N) [])]) (fun i N => i ≤ p.length ∧ N.length = t.length ∧ ∀ j, j < i → N.getD j 0 = w.getD (p.getD j 0).toNat 0) (fun i _ => p.length - i) 0 (List.replicate (t.length : Int).toNat 0) ⟨Nat.zero_le _, hrl, fun j hj => absurd hj (Nat.not_lt_zero _)⟩ (by repeat' first | refine And.intro ?_ ?_ | exact True.intro | (show (_ : Int) = (_ : Int); omega) | omega | exact rfl | (simp only [RO.len]; omega)) ?_
  rintro i N ⟨hi, hN, hNj⟩
  refine And.intro (fun h2 => ?_) (fun h2 => ?_)
  · have h2 : (i : Int) < (p.length : Int) := h2
    have ki := cls_lt hcg.val.2 (x := i) (by omega)
    refine And.intro (by omega) ?_
    refine And.intro (show 0 ≤ p.getD i 0 ∧ p.getD i 0 < (w.length : Int) by omega) ?_
    refine And.intro (show 0 ≤ (i : Int) ∧ (i : Int) < (N.length : Int) by omega) ?_
    refine And.intro (by omega) ?_
    refine And.intro (by omega) ?_
    refine nx (i + 1, N.set i (w.getD (p.getD i 0).toNat 0)) ⟨by omega, by rw [List.length_set]; exact hN, fun j hj => ?_⟩ (show p.length - (i + 1) < p.length - i by omega) (by repeat' first | refine And.intro ?_ ?_ | exact True.intro | (show (_ : Int) = (_ : Int); omega) | omega | exact rfl | (simp only [RO.len]; omega))
    by_cases e : j = i
    · subst e; rw [getD_set_eq (by omega)]
    · rw [getD_set_ne (Ne.symm e)]; exact hNj j (by omega)
  · have h2 : (p.length : Int) ≤ (i : Int) := h2
    have eN : N = nxtP p w := ext_getD 0 (by rw [hN, nxt_len, hpl]) fun j hj => by rw [nxt_get (by omega)]; exact hNj j (by omega)
    subst eN
    exact nx (nxtP p w) ⟨nxt_cg hcg hw.1, fun e => hw.2.1 ((nxt_ker hcg.pt hx hy).1 e)⟩ (nxt_less hcg hw.1 hw.2.2) (by repeat' first | refine And.intro ?_ ?_ | exact True.intro | (show (_ : Int) = (_ : Int); omega) | omega | exact rfl | (simp only [RO.len]; omega))
end Go.Proofs.Ytkbhgnbnnbengaa
end
