import Derived.Test.YtpanlghofeebhaaSdM
import Derived.Test.YtpanlghofeebhaaCgMin
import Derived.Test.YtpanlghofeebhaaGroup
import Derived.Test.YtpanlghofeebhaaQuoLaw
import Derived.Test.YtpanlghofeebhaaRefRees
section
/- Package subdirect: Irreducible, Check: contracts. -/
namespace Go.Proofs.Ytpanlghofeebhaa
open Go Go.AM
set_option maxRecDepth 100000
theorem IsCg.pt {t : List (List Int)} {p : List Int} (h : IsCg t p 0) : Pt t.length p := ⟨h.len, h.val⟩
end Go.Proofs.Ytpanlghofeebhaa
end
section
/- Subdirect decompositions, in plain words: when a list holds nothing superfluous. -/
namespace Go.Proofs.Ytpanlghofeebhaa
open Go Go.AM
def kerP (p : List Int) (x y : Nat) : Prop := p.getD x 0 = p.getD y 0
theorem mtP_ker {n : Nat} {p q : List Int} (hp : Pt n p) (hq : Pt n q) {x y : Nat} (hx : x < n) (hy : y < n) : kerP (mtP p q) x y ↔ kerP p x y ∧ kerP q x y := by
  have hz : (p.zip q).length = n := by simp [hp.1, hq.1]
  have zg : ∀ i, i < n → (p.zip q).getD i (0, 0) = (p.getD i 0, q.getD i 0) := fun i hi => by
    have := hp.1
    have := hq.1
    rw [getD_eq (by omega), getD_eq (by omega), getD_eq (by omega)]; simp
  unfold kerP mtP
  rw [canon_eq_iff (d := (0, 0)) (by omega) (by omega), zg x hx, zg y hy]
  constructor
  · intro h
    injection h with h1 h2
    exact ⟨h1, h2⟩
  · rintro ⟨h1, h2⟩; rw [h1, h2]
end Go.Proofs.Ytpanlghofeebhaa
end
section
section
/- The join of two partitions by a forest: plain laws. -/
namespace Go.Proofs.Ytpanlghofeebhaa
theorem ufR_up {r : Nat → Nat} {i j a b : Nat} (e : r a = r b) : ufR r i j a = ufR r i j b := by unfold ufR; rw [e]
theorem ufR_ij {r : Nat → Nat} {i j : Nat} : ufR r i j i = ufR r i j j := by
  unfold ufR; split <;> split <;> omega
theorem ufR_so {n : Nat} {R : Nat → Nat → Prop} {r : Nat → Nat} {i j : Nat} (h : ∀ a b, a < n → b < n → r a = r b → Eg R a b) (hi : i < n) (hj : j < n) (e : Eg R i j) : ∀ a b, a < n → b < n → ufR r i j a = ufR r i j b → Eg R a b := by
  intro a b ha hb e2
  have key : ∀ k, k < n → r k = r i ∨ r k = r j → Eg R k i := fun k hk e3 => Or.elim e3 (fun e4 => h k i hk hi e4) fun e4 => (h k j hk hj e4).trans e.symm
  unfold ufR at e2
  by_cases e3 : r a = max (r i) (r j) <;> by_cases e4 : r b = max (r i) (r j)
  · exact h a b ha hb (by omega)
  · rw [if_pos e3, if_neg e4] at e2
    exact (key a ha (by omega)).trans (key b hb (by omega)).symm
  · rw [if_neg e3, if_pos e4] at e2
    exact (key a ha (by omega)).trans (key b hb (by omega)).symm
  · rw [if_neg e3, if_neg e4] at e2
    exact h a b ha hb e2
def JoR (n : Nat) (p q : List Int) (a b : Nat) : Prop := a < n ∧ b < n ∧ (p.getD a 0 = p.getD b 0 ∨ q.getD a 0 = q.getD b 0)
def JoI (n : Nat) (p q F : List Int) (r : Nat → Nat) : Prop := Fo n F r ∧ ∀ a b, a < n → b < n → r a = r b → Eg (JoR n p q) a b
theorem JoI.union {n : Nat} {p q F : List Int} {r : Nat → Nat} {i j : Nat} (h : JoI n p q F r) (e : JoR n p q i j) : JoI n p q (ufL r F i j) (ufR r i j) :=
  ⟨h.1.union e.1 e.2.1, ufR_so h.2 e.1 e.2.1 (.rel e)⟩
noncomputable def joB (n : Nat) (p q : List Int) (a b : Nat) : Bool := @decide (Eg (JoR n p q) a b) (Classical.propDecidable _)
theorem joB_true {n : Nat} {p q : List Int} {a b : Nat} : joB n p q a b = true ↔ Eg (JoR n p q) a b := by unfold joB; exact @decide_eq_true_iff _ (Classical.propDecidable _)
noncomputable def joP (n : Nat) (p q : List Int) : List Int := clsL n (joB n p q)
theorem jo_pre (n : Nat) (p q : List Int) : Pre n (joB n p q) :=
  pre_of (fun x _ => joB_true.2 (.refl x)) fun _ _ _ _ _ _ h h' => joB_true.2 ((joB_true.1 h).trans (joB_true.1 h'))
theorem joP_len {n : Nat} {p q : List Int} : (joP n p q).length = n := clsL_len _ _
theorem joP_canon {n : Nat} {p q : List Int} : canon (joP n p q) = joP n p q := canon_idem _
theorem joP_iff {n : Nat} {p q : List Int} {a b : Nat} (ha : a < n) (hb : b < n) : (joP n p q).getD a 0 = (joP n p q).getD b 0 ↔ Eg (JoR n p q) a b := by
  unfold joP
  rw [clsL_iff (jo_pre n p q) ha hb, joB_true, joB_true]
  exact ⟨fun h => h.1, fun h => ⟨h, h.symm⟩⟩
theorem JoI.done {n : Nat} {p q F : List Int} {r : Nat → Nat} (h : JoI n p q F r) (hp : ∀ a b, a < n → b < n → p.getD a 0 = p.getD b 0 → r a = r b) (hq : ∀ a b, a < n → b < n → q.getD a 0 = q.getD b 0 → r a = r b) : canon (rtL n r) = joP n p q := by
  rw [← joP_canon]
  refine canon_congr (d := 0) (e := 0) (by rw [rtL_len, joP_len]) fun i j hi hj => ?_
  rw [rtL_len] at hi hj
  rw [rtL_get hi, rtL_get hj, joP_iff hi hj]
  refine ⟨fun e => h.2 i j hi hj (by omega), fun e => ?_⟩
  have : r i = r j := e.least (Q := fun a b => r a = r b) (fun _ => rfl) (fun _ _ e => e.symm) (fun _ _ _ e e' => e.trans e') (fun a b e => Or.elim e.2.2 (hp a b e.1 e.2.1) (hq a b e.1 e.2.1))
  rw [this]
end Go.Proofs.Ytpanlghofeebhaa
end
section
/- partition.Join: its contract. -/
namespace Go.Proofs.Ytpanlghofeebhaa
open Go Go.AM
set_option maxRecDepth 100000
def Clo (n : Nat) (p : List Int) (r : Nat → Nat) : Prop := ∀ a b, a < n → b < n → p.getD a 0 = p.getD b 0 → r a = r b
theorem Clo.up {n : Nat} {p : List Int} {r : Nat → Nat} {i j : Nat} (h : Clo n p r) : Clo n p (ufR r i j) := fun a b ha hb e => ufR_up (h a b ha hb e)
set_option maxHeartbeats 4000000 in
theorem pjoin_fn (p q : List Int) (h : matchP p q) : QF 19 [.ro (.ints .i64 p), .ro (.ints .i64 q)] (.new (.ints .i64 (joP p.length p q))) := mkQ Try.func19 (by decide +kernel) rfl (Nat.le_of_ble_eq_true rfl) fun _ => by
  have hp := h.2.1
  have hq := h.2.2
  have hpl := hp.1
  have hpq : ∀ i, i < 2 → validP (([p, q] : List (List Int)).getD i []) ∧ (([p, q] : List (List Int)).getD i []).length = p.length ∧ ∀ a b, a < p.length → b < p.length → (([p, q] : List (List Int)).getD i []).getD a 0 = (([p, q] : List (List Int)).getD i []).getD b 0 → JoR p.length p q a b := fun i hi => by
    match i, hi with
    | 0, _ => exact ⟨hp, rfl, fun a b ha hb e => ⟨ha, hb, Or.inl e⟩⟩
    | 1, _ => exact ⟨hq, h.1.symm, fun a b ha hb e => ⟨ha, hb, Or.inr e⟩⟩
  refine Or.inl (cq (pmatch_fn p q) (And.intro rfl (And.intro rfl trivial)) ?_)
  refine And.intro (fun h1 => ?_) (fun _ => ?_)
  · have h1 : (!decide (matchP p q)) = true := h1
    rw [decide_eq_true h] at h1; exact absurd h1 (by decide)
  refine Or.inl (cq (fnew_fn p.length (by omega)) (And.intro rfl trivial) ?_)
  refine Exists.intro [] <| lp3 (fun (i : Nat) (_ : List Int) (_ : Nat → Nat) => [(23, .int .i64 i)]) (fun _ F _ => [(18, .vec 0 (.ints .i64 F) [])]) (fun i F r => i ≤ 2 ∧ JoI p.length p q F r ∧ ∀ i', i' < i → Clo p.length (([p, q] : List (List Int)).getD i' []) r) (fun i _ _ => 2 - i) 0 (disI p.length) id ⟨Nat.zero_le _, ⟨Fo.dis p.length, fun a b _ _ e => by rw [show a = b from e]; exact .refl b⟩, fun i h => absurd h (Nat.not_lt_zero _)⟩ (by repeat' first | refine And.intro ?_ ?_ | exact True.intro | (show (_ : Int) = (_ : Int); omega) | omega | exact rfl | (simp only [RO.len]; omega)) ?_
  rintro i F r ⟨hi, hJ, hC⟩
  refine And.intro (fun h1 => ?_) (fun h1 => ?_)
  · have h1 : (i : Int) < 2 := h1
    have hP := hpq i (by omega)
    have hPl := hP.2.1
    have hcl : (classes (classN (([p, q] : List (List Int)).getD i [])) (([p, q] : List (List Int)).getD i [])).length = classN (([p, q] : List (List Int)).getD i []) := by simp [classes]
    have hcn : classN (([p, q] : List (List Int)).getD i []) ≤ (([p, q] : List (List Int)).getD i []).length := firsts_le _
    refine And.intro (by omega) ?_
    refine Or.inl (cq (pclasses_fn (([p, q] : List (List Int)).getD i []) hP.1) (And.intro rfl trivial) ?_)
    refine Exists.intro [] <| lp3 (fun (c : Nat) (_ : List Int) (_ : Nat → Nat) => [(30, .int .i64 c)]) (fun _ F _ => [(18, .vec 0 (.ints .i64 F) [])]) (fun c F r => c ≤ classN (([p, q] : List (List Int)).getD i []) ∧ JoI p.length p q F r ∧ (∀ i', i' < i → Clo p.length (([p, q] : List (List Int)).getD i' []) r) ∧ ∀ c', c' < c → ∀ x ∈ (classes (classN (([p, q] : List (List Int)).getD i [])) (([p, q] : List (List Int)).getD i [])).getD c' [], r x.toNat = r (hdN (([p, q] : List (List Int)).getD i []) c')) (fun c _ _ => classN (([p, q] : List (List Int)).getD i []) - c) 0 F r ⟨Nat.zero_le _, hJ, hC, fun c h => absurd h (Nat.not_lt_zero _)⟩ (by repeat' first | refine And.intro ?_ ?_ | exact True.intro | (show (_ : Int) = (_ : Int); omega) | omega | exact rfl | (simp only [RO.len]; omega)) ?_
    rintro c F r ⟨hc, hJ, hC, hci⟩
    refine And.intro (fun h2 => ?_) (fun h2 => ?_)
    · have h2 : (c : Int) < ((classes (classN (([p, q] : List (List Int)).getD i [])) (([p, q] : List (List Int)).getD i [])).length : Int) := h2
      have hcl2 : c < classN (([p, q] : List (List Int)).getD i []) := by omega
      have k := hd_at hP.1.2 hcl2
      have kp := cls_pos hP.1.2 hcl2
      have hcll : ((classes (classN (([p, q] : List (List Int)).getD i [])) (([p, q] : List (List Int)).getD i [])).getD c []).length ≤ (([p, q] : List (List Int)).getD i []).length := by
        rw [classes_getD hcl2, List.length_map]
        have := List.length_filter_le (fun i' => decide ((([p, q] : List (List Int)).getD i []).getD i' 0 = (c : Int))) (List.range (([p, q] : List (List Int)).getD i []).length)
        rw [List.length_range] at this; exact this
      refine And.intro (by omega) ?_
      refine Exists.intro [] <| lp3 (fun (m : Nat) (_ : List Int) (_ : Nat → Nat) => [(36, .int .i64 m)]) (fun _ F _ => [(18, .vec 0 (.ints .i64 F) [])]) (fun m F r => m ≤ ((classes (classN (([p, q] : List (List Int)).getD i [])) (([p, q] : List (List Int)).getD i [])).getD c []).length ∧ JoI p.length p q F r ∧ (∀ i', i' < i → Clo p.length (([p, q] : List (List Int)).getD i' []) r) ∧ (∀ c', c' < c → ∀ x ∈ (classes (classN (([p, q] : List (List Int)).getD i [])) (([p, q] : List (List Int)).getD i [])).getD c' [], r x.toNat = r (hdN (([p, q] : List (List Int)).getD i []) c')) ∧ ∀ m', m' < m → r (((classes (classN (([p, q] : List (List Int)).getD i [])) (([p, q] : List (List Int)).getD i [])).getD c []).getD m' 0).toNat = r (hdN (([p, q] : List (List Int)).getD i []) c)) (fun m _ _ => ((classes (classN (([p, q] : List (List Int)).getD i [])) (([p, q] : List (List Int)).getD i [])).getD c []).length - m) 0 F r ⟨Nat.zero_le _, hJ, hC, hci, fun m h => absurd h (Nat.not_lt_zero _)⟩ (by repeat' first | refine And.intro ?_ ?_ | exact True.intro | (show (_ : Int) = (_ : Int); omega) | omega | exact rfl | (simp only [RO.len]; omega)) ?_
      rintro m F r ⟨hm, hJ, hC, hci, hmi⟩
      refine And.intro (fun h3 => ?_) (fun h3 => ?_)
      · have h3 : (m : Int) < (((classes (classN (([p, q] : List (List Int)).getD i [])) (([p, q] : List (List Int)).getD i [])).getD c []).length : Int) := h3
        have hml : m < ((classes (classN (([p, q] : List (List Int)).getD i [])) (([p, q] : List (List Int)).getD i [])).getD c []).length := by omega
        have hx := (mem_classes (p := ([p, q] : List (List Int)).getD i []) hcl2).1 (getD_mem (d := 0) hml)
        have e1 : ((hdN (([p, q] : List (List Int)).getD i []) c : Nat) : Int) = ((classes (classN (([p, q] : List (List Int)).getD i [])) (([p, q] : List (List Int)).getD i [])).getD c []).getD 0 0 := k.2.2.symm
        have e2 : (((((classes (classN (([p, q] : List (List Int)).getD i [])) (([p, q] : List (List Int)).getD i [])).getD c []).getD m 0).toNat : Nat) : Int) = ((classes (classN (([p, q] : List (List Int)).getD i [])) (([p, q] : List (List Int)).getD i [])).getD c []).getD m 0 := Int.toNat_of_nonneg hx.1
        have hjo : JoR p.length p q (hdN (([p, q] : List (List Int)).getD i []) c) (((classes (classN (([p, q] : List (List Int)).getD i [])) (([p, q] : List (List Int)).getD i [])).getD c []).getD m 0).toNat := hP.2.2 _ _ (by omega) (by omega) (by rw [k.2.1, hx.2.2])
        have funion := funion_fn p.length F r (hdN (([p, q] : List (List Int)).getD i []) c) (((classes (classN (([p, q] : List (List Int)).getD i [])) (([p, q] : List (List Int)).getD i [])).getD c []).getD m 0).toNat hJ.1 hjo.1 hjo.2.1 (by omega)
        rw [e1, e2] at funion
        refine And.intro (by omega) ?_
        refine And.intro (by omega) ?_
        refine Or.inr (Or.inl (cm [] [(1000, 18)] funion ?_))
        refine And.intro (by repeat' first | refine And.intro ?_ ?_ | exact True.intro | (show (_ : Int) = (_ : Int); omega) | omega | exact rfl | (simp only [RO.len]; omega)) ?_
        refine And.intro (by omega) ?_
        refine nx (m + 1, ufL r F (hdN (([p, q] : List (List Int)).getD i []) c) (((classes (classN (([p, q] : List (List Int)).getD i [])) (([p, q] : List (List Int)).getD i [])).getD c []).getD m 0).toNat, ufR r (hdN (([p, q] : List (List Int)).getD i []) c) (((classes (classN (([p, q] : List (List Int)).getD i [])) (([p, q] : List (List Int)).getD i [])).getD c []).getD m 0).toNat) ⟨show m + 1 ≤ _ by omega, hJ.union hjo, fun i' hi' => (hC i' hi').up, fun c' hc' x hx' => ufR_up (hci c' hc' x hx'), fun m' hm' => ?_⟩ (show ((classes (classN (([p, q] : List (List Int)).getD i [])) (([p, q] : List (List Int)).getD i [])).getD c []).length - (m + 1) < ((classes (classN (([p, q] : List (List Int)).getD i [])) (([p, q] : List (List Int)).getD i [])).getD c []).length - m by omega) (by repeat' first | refine And.intro ?_ ?_ | exact True.intro | (show (_ : Int) = (_ : Int); omega) | omega | exact rfl | (simp only [RO.len]; omega))
        by_cases e : m' = m
        · subst e; exact ufR_ij.symm
        · exact ufR_up (hmi m' (by omega))
      · have h3 : (((classes (classN (([p, q] : List (List Int)).getD i [])) (([p, q] : List (List Int)).getD i [])).getD c []).length : Int) ≤ (m : Int) := h3
        refine And.intro (by omega) ?_
        refine nx (c + 1, F, r) ⟨show c + 1 ≤ _ by omega, hJ, hC, fun c' hc' x hx => ?_⟩ (show classN (([p, q] : List (List Int)).getD i []) - (c + 1) < classN (([p, q] : List (List Int)).getD i []) - c by omega) (by repeat' first | refine And.intro ?_ ?_ | exact True.intro | (show (_ : Int) = (_ : Int); omega) | omega | exact rfl | (simp only [RO.len]; omega))
        by_cases e : c' = c
        · subst e
          exact Exists.elim (mem_getD 0 hx) fun m' hm' => by rw [← hm'.2]; exact hmi m' (by omega)
        · exact hci c' (by omega) x hx
    · have h2 : ((classes (classN (([p, q] : List (List Int)).getD i [])) (([p, q] : List (List Int)).getD i [])).length : Int) ≤ (c : Int) := h2
      refine And.intro (by omega) ?_
      refine nx (i + 1, F, r) ⟨show i + 1 ≤ 2 by omega, hJ, fun i' hi' => ?_⟩ (show 2 - (i + 1) < 2 - i by omega) (by repeat' first | refine And.intro ?_ ?_ | exact True.intro | (show (_ : Int) = (_ : Int); omega) | omega | exact rfl | (simp only [RO.len]; omega))
      by_cases e : i' = i
      · subst e
        intro a b ha hb e5
        have ki := cls_lt hP.1.2 (x := a) (by omega)
        have mi := (mem_classes (p := ([p, q] : List (List Int)).getD i' []) ki.2.1 (x := (a : Int))).2 ⟨by omega, by omega, by rw [Int.toNat_natCast]; exact ki.2.2⟩
        have mj := (mem_classes (p := ([p, q] : List (List Int)).getD i' []) ki.2.1 (x := (b : Int))).2 ⟨by omega, by omega, by rw [Int.toNat_natCast, ← e5]; exact ki.2.2⟩
        have e1 := hci _ (by omega) _ mi
        have e2 := hci _ (by omega) _ mj
        rw [Int.toNat_natCast] at e1 e2
        rw [e1, e2]
      · exact hC i' (by omega)
  · have h1 : 2 ≤ (i : Int) := h1
    have ed : canon (rtL p.length r) = joP p.length p q := hJ.done (hC 0 (by omega)) (hC 1 (by omega))
    have hpa := fpart_fn p.length F r hJ.1 (by omega)
    rw [ed] at hpa
    refine Or.inr (Or.inl (cm [] [(1000, 18), (21, 301)] hpa ?_))
    refine And.intro (by repeat' first | refine And.intro ?_ ?_ | exact True.intro | (show (_ : Int) = (_ : Int); omega) | omega | exact rfl | (simp only [RO.len]; omega)) ?_
    exact And.intro (And.intro (by omega) rfl) trivial
end Go.Proofs.Ytpanlghofeebhaa
end
end
section
/- Coarser congruences with irreducible quotients: plain laws. -/
namespace Go.Proofs.Ytpanlghofeebhaa
open Go Go.AM
theorem Eg.map {R S : Nat → Nat → Prop} {f : Nat → Nat} (h : ∀ a b, R a b → Eg S (f a) (f b)) {a b : Nat} (e : Eg R a b) : Eg S (f a) (f b) :=
  Eg.least (Q := fun a b => Eg S (f a) (f b)) (fun a => .refl (f a)) (fun _ _ h => h.symm) (fun _ _ _ h h' => h.trans h') h e
section
variable {t : List (List Int)} {p q : List Int}
theorem joP_cg (hp : IsCg t p 0) (hq : IsCg t q 0) : IsCg t (joP t.length p q) 0 := by
  have hS := hp.semi.toSh
  refine ⟨hp.semi, joP_len, ⟨by rw [joP_len]; have := hS.most; omega, joP_canon⟩, by decide, fun x y s hx hy hs e => ?_⟩
  have e := (joP_iff hx hy).1 e
  have step : ∀ {f : Nat → Nat}, (∀ a, a < t.length → f a < t.length) → (∀ a b, a < t.length → b < t.length → p.getD a 0 = p.getD b 0 → p.getD (f a) 0 = p.getD (f b) 0) → (∀ a b, a < t.length → b < t.length → q.getD a 0 = q.getD b 0 → q.getD (f a) 0 = q.getD (f b) 0) → Eg (JoR t.length p q) (f x) (f y) := fun hf h1 h2 =>
    Eg.map (fun a b ⟨ha, hb, h⟩ => .rel ⟨hf a ha, hf b hb, h.imp (h1 a b ha hb) (h2 a b ha hb)⟩) e
  refine ⟨fun _ => (joP_iff (hS.ent hs hx).2 (hS.ent hs hy).2).2 ?_, fun _ => (joP_iff (hS.ent hx hs).2 (hS.ent hy hs).2).2 ?_⟩
  · exact step (f := fun a => en t s a) (fun a ha => (hS.ent hs ha).2) (fun a b ha hb h => (hp.cg a b s ha hb hs h).1 (by decide)) fun a b ha hb h => (hq.cg a b s ha hb hs h).1 (by decide)
  · exact step (f := fun a => en t a s) (fun a ha => (hS.ent ha hs).2) (fun a b ha hb h => (hp.cg a b s ha hb hs h).2 (by decide)) fun a b ha hb h => (hq.cg a b s ha hb hs h).2 (by decide)
theorem mtP_cg (hp : IsCg t p 0) (hq : IsCg t q 0) : IsCg t (mtP p q) 0 := by
  have hS := hp.semi.toSh
  have hm := hp.pt.mt hq.pt
  refine ⟨hp.semi, hm.1, hm.2, by decide, fun x y s hx hy hs e => ?_⟩
  have e := (mtP_ker hp.pt hq.pt hx hy).1 e
  exact ⟨fun _ => (mtP_ker hp.pt hq.pt (hS.ent hs hx).2 (hS.ent hs hy).2).2 ⟨(hp.cg x y s hx hy hs e.1).1 (by decide), (hq.cg x y s hx hy hs e.2).1 (by decide)⟩, fun _ => (mtP_ker hp.pt hq.pt (hS.ent hx hs).2 (hS.ent hy hs).2).2 ⟨(hp.cg x y s hx hy hs e.1).2 (by decide), (hq.cg x y s hx hy hs e.2).2 (by decide)⟩⟩
theorem dis_ker {n x y : Nat} (hx : x < n) (hy : y < n) (e : kerP (disI n) x y) : x = y := by
  unfold kerP at e
  rw [disI_get hx, disI_get hy] at e
  omega
theorem dis_pt {n : Nat} (hn : n ≤ 4096) : Pt n (disI n) := ⟨disI_len n, by rw [disI_len]; exact hn, by
  refine canon_fix.2 fun i hi => ?_
  rw [disI_len] at hi
  refine ⟨by rw [disI_get hi]; omega, ?_⟩
  rw [disI_get hi]
  have hd : ((disI n).take i).Nodup := by
    refine List.nodup_iff_pairwise_ne.2 (List.pairwise_iff_getElem.2 fun a b ha hb hab => ?_)
    simp [disI]
    omega
  have := nodup_sub hd (B := firsts ((disI n).take i)) fun v hv => mem_firsts.2 hv
  rw [List.length_take, disI_len] at this
  omega⟩
theorem dis_cg (h : Semi t) : IsCg t (disI t.length) 0 :=
  ⟨h, disI_len _, (dis_pt (by have := h.most; omega)).2, by decide, fun x y s hx hy _ e => by
    obtain rfl := dis_ker hx hy e
    exact ⟨fun _ => rfl, fun _ => rfl⟩⟩
end
end Go.Proofs.Ytpanlghofeebhaa
end
section
/- Plain: all congruences are joins of principal ones; lists that are closed under such joins; there are at most 720 partitions of six. -/
namespace Go.Proofs.Ytpanlghofeebhaa
open Go Go.AM
/-! ### Few partitions -/
def ptnsN : Nat → List (List Int)
  | 0 => [[]] | k + 1 => (ptnsN k).flatMap fun p => (List.range (k + 1)).map fun c : Nat => p ++ [(c : Int)]
theorem ptns_len {n : Nat} (h : n ≤ 6) : (ptnsN n).length ≤ 720 := by
  have : ∀ m, m < 7 → (ptnsN m).length ≤ 720 := by decide +kernel
  exact this n (by omega)
theorem mem_ptns (p : List Int) : (∀ i, i < p.length → 0 ≤ p.getD i 0 ∧ p.getD i 0 ≤ (i : Int)) → p ∈ ptnsN p.length := by
  refine snoc_ind (P := fun p => (∀ i, i < p.length → 0 ≤ p.getD i 0 ∧ p.getD i 0 ≤ (i : Int)) → p ∈ ptnsN p.length) (fun _ => List.mem_singleton.2 rfl) (fun q x ih h => ?_) p
  have hl : (q ++ [x]).length = q.length + 1 := by simp
  rw [hl]
  have hq : q ∈ ptnsN q.length := ih fun i hi => by
    have := h i (by omega)
    rw [getD_app, if_pos hi] at this
    exact this
  have hx := h q.length (by omega)
  rw [getD_app, if_neg (by omega), Nat.sub_self] at hx
  have hx : 0 ≤ x ∧ x ≤ (q.length : Int) := hx
  exact List.mem_flatMap.2 ⟨q, hq, List.mem_map.2 ⟨x.toNat, List.mem_range.2 (by omega), by rw [Int.toNat_of_nonneg hx.1]⟩⟩
theorem canon_le {p : List Int} (h : canon p = p) {i : Nat} (hi : i < p.length) : 0 ≤ p.getD i 0 ∧ p.getD i 0 ≤ (i : Int) := by
  have h1 := canon_fix.1 h i hi
  have h2 := firsts_le (p.take i)
  rw [List.length_take] at h2
  unfold stepOk at h1
  omega
theorem ptns_few {F : List (List Int)} {n : Nat} (hn : n ≤ 6) (h : F.Nodup) (hF : ∀ p ∈ F, p.length = n ∧ canon p = p) : F.length ≤ 720 :=
  Nat.le_trans (nodup_sub h (B := ptnsN n) fun p hp => by
    obtain ⟨h1, h2⟩ := hF p hp
    rw [← h1]
    exact mem_ptns p fun i hi => canon_le h2 hi) (ptns_len hn)
/-! ### From principal ones to all -/
section
variable {t : List (List Int)} {p q : List Int}
theorem sub_dis {n : Nat} {q : List Int} : Sub n (disI n) q := fun x y hx hy e => by rw [dis_ker hx hy e]
theorem joP_comm {n : Nat} : joP n p q = joP n q p :=
  sub_eq joP_len joP_len joP_canon joP_canon (fun _x _y hx hy e => (joP_iff hx hy).2 (((joP_iff hx hy).1 e).mono fun _ _ ⟨ha, hb, h⟩ => .rel ⟨ha, hb, h.symm⟩))
    (fun _x _y hx hy e => (joP_iff hx hy).2 (((joP_iff hx hy).1 e).mono fun _ _ ⟨ha, hb, h⟩ => .rel ⟨ha, hb, h.symm⟩))
theorem joP_sub {n : Nat} {c : List Int} (hp : Sub n p c) (hq : Sub n q c) : Sub n (joP n p q) c := fun _x _y hx hy e =>
  Eg.least (Q := fun a b => c.getD a 0 = c.getD b 0) (fun _ => rfl) (fun _ _ h => h.symm) (fun _ _ _ h h' => h.trans h') (fun a b ⟨ha, hb, h⟩ => h.elim (hp a b ha hb) (hq a b ha hb)) ((joP_iff hx hy).1 e)
theorem joP_left {n : Nat} : Sub n p (joP n p q) := fun _ _ hx hy e => (joP_iff hx hy).2 (.rel ⟨hx, hy, .inl e⟩)
theorem joP_right {n : Nat} : Sub n q (joP n p q) := fun _ _ hx hy e => (joP_iff hx hy).2 (.rel ⟨hx, hy, .inr e⟩)
theorem joP_abs {n : Nat} (hl : p.length = n) (hc : canon p = p) (h : Sub n q p) : joP n p q = p :=
  sub_eq joP_len hl joP_canon hc (joP_sub (fun _ _ _ _ e => e) h) joP_left
noncomputable def subB (n : Nat) (p q : List Int) : Bool := @decide (Sub n p q) (Classical.propDecidable _)
theorem subB_true {n : Nat} : subB n p q = true ↔ Sub n p q := by unfold subB; exact @decide_eq_true_iff _ (Classical.propDecidable _)
noncomputable def allJ (t : List (List Int)) (q : List Int) : Nat → List Int
  | 0 => disI t.length
  | k + 1 => match subB t.length ((prnL t).getD k []) q with | true => joP t.length (allJ t q k) ((prnL t).getD k []) | false => allJ t q k
theorem allJ_is (h : Semi t) (q : List Int) : ∀ k, k ≤ (prnL t).length → IsCg t (allJ t q k) 0
  | 0, _ => dis_cg h
  | k + 1, hk => by
    have ih := allJ_is h q k (by omega)
    unfold allJ
    split
    · obtain ⟨x, y, _, _, e⟩ := mem_prnL.1 (getD_mem (d := []) (l := prnL t) (i := k) (by omega))
      exact joP_cg ih (e ▸ prnG_is h x y)
    · exact ih
theorem allJ_step (q : List Int) {k : Nat} : Sub t.length (allJ t q k) (allJ t q (k + 1)) := by
  show Sub _ _ (match subB t.length ((prnL t).getD k []) q with | true => joP t.length (allJ t q k) ((prnL t).getD k []) | false => allJ t q k)
  split
  · exact joP_left
  · exact fun _ _ _ _ e => e
theorem allJ_mono (q : List Int) {j : Nat} : ∀ k, j ≤ k → Sub t.length (allJ t q j) (allJ t q k)
  | 0, hj => by obtain rfl : j = 0 := by omega
                exact fun _ _ _ _ e => e
  | k + 1, hj => by
    by_cases e : j = k + 1
    · subst e; exact fun _ _ _ _ e => e
    · exact fun x y hx hy e => allJ_step q x y hx hy (allJ_mono q k (by omega) x y hx hy e)
theorem allJ_sub (q : List Int) : ∀ k, Sub t.length (allJ t q k) q
  | 0 => sub_dis
  | k + 1 => by
    have ih := allJ_sub q k
    unfold allJ
    split
    · rename_i hb; exact joP_sub ih (subB_true.1 hb)
    · exact ih
theorem allJ_done (h : Semi t) (hq : IsCg t q 0) : allJ t q (prnL t).length = q := by
  have hJ := allJ_is h q _ (Nat.le_refl _)
  refine sub_eq hJ.len hq.len hJ.val.2 hq.val.2 (allJ_sub q _) fun x y hx hy e => ?_
  have key : ∀ x y, y < x → x < t.length → q.getD x 0 = q.getD y 0 → (allJ t q (prnL t).length).getD x 0 = (allJ t q (prnL t).length).getD y 0 := fun x y hxy hx e => by
    have hm : prnG t x y ∈ prnL t := mem_prnL.2 ⟨x, y, hxy, hx, rfl⟩
    obtain ⟨i, hi, ei⟩ := mem_getD [] hm
    have h1 : (allJ t q (i + 1)).getD x 0 = (allJ t q (i + 1)).getD y 0 := by
      have hb : subB t.length ((prnL t).getD i []) q = true := subB_true.2 (ei ▸ prnG_sub hq e)
      unfold allJ; rw [hb]
      exact joP_right x y hx (by omega) (by rw [ei]; exact prnG_eq hx (by omega))
    exact allJ_mono q (prnL t).length (by omega) x y hx (by omega) h1
  by_cases hxy : x = y
  · rw [hxy]
  · rcases Nat.lt_or_ge y x with h1 | h1
    · exact key x y h1 hx e
    · exact (key y x (by omega) hy e.symm).symm
noncomputable def cgsL (t : List (List Int)) : List (List Int) := @dite _ (∃ M, Srt cmpL M ∧ ∀ p, p ∈ M ↔ IsCg t p 0) (Classical.propDecidable _) (fun h => h.choose) fun _ => []
theorem cgs_of {M : List (List Int)} (hs : Srt cmpL M) (hm : ∀ p, p ∈ M ↔ IsCg t p 0) : cgsL t = M := by
  have h : ∃ M, Srt cmpL M ∧ ∀ p, p ∈ M ↔ IsCg t p 0 := ⟨M, hs, hm⟩
  unfold cgsL
  rw [dif_pos h]
  exact sorted_uniq cmpL_tot h.choose_spec.1 hs fun p => (h.choose_spec.2 p).trans (hm p).symm
structure AllC (t : List (List Int)) (F : List (List Int)) : Prop where
  nd : F.Nodup
  is : ∀ p ∈ F, IsCg t p 0
  dis : disI t.length ∈ F
  jo : ∀ p ∈ F, ∀ e ∈ prnL t, joP t.length p e ∈ F
theorem AllC.all {F : List (List Int)} (c : AllC t F) (h : Semi t) (hq : IsCg t q 0) : q ∈ F := by
  have key : ∀ k, k ≤ (prnL t).length → allJ t q k ∈ F := fun k => by
    induction k with
    | zero => exact fun _ => c.dis
    | succ k ih =>
      intro hk
      have ih := ih (by omega)
      unfold allJ
      split
      · exact c.jo _ ih _ (getD_mem (by omega))
      · exact ih
  have := key _ (Nat.le_refl _)
  rwa [allJ_done h hq] at this
theorem AllC.cgs {F : List (List Int)} (c : AllC t F) (h : Semi t) : cgsL t = srt cmpL F :=
  cgs_of (srt_srt cmpL_tot c.nd) fun p => srt_mem.trans ⟨c.is p, fun hp => c.all h hp⟩
/-! ### The reference's list: after each principal congruence -/
structure RaI (t : List (List Int)) (k m : Nat) (N A : List (List Int)) : Prop where
  srt : Srt cmpL A
  is : ∀ p ∈ A, IsCg t p 0
  now : ∀ p ∈ N, p ∈ A
  nis : ∀ p ∈ N, IsCg t p 0
  has : ∀ q, allJ t q k ∈ N
  jo : ∀ j, j < m → joP t.length ((prnL t).getD k []) (N.getD j []) ∈ A
theorem RaI.start {A : List (List Int)} {k : Nat} (hs : Srt cmpL A) (hi : ∀ p ∈ A, IsCg t p 0) (hh : ∀ q, allJ t q k ∈ A) : RaI t k 0 A A := ⟨hs, hi, fun _ h => h, hi, hh, fun j hj => by omega⟩
theorem RaI.done {k m : Nat} {N A : List (List Int)} (h : RaI t k m N A) (hm : N.length ≤ m) : ∀ q, allJ t q (k + 1) ∈ A := fun q => by
  unfold allJ
  split
  · obtain ⟨j, hj, e⟩ := mem_getD [] (h.has q)
    have := h.jo j (by omega)
    rw [e, joP_comm] at this
    exact this
  · exact h.now _ (h.has q)
/-! ### The list of principal congruences as pairs -/
structure PrnOk (t : List (List Int)) (e : Prn) : Prop where
  gen : ∃ x y : Nat, e.1 = ((x : Int), (y : Int)) ∧ x < y ∧ y < t.length ∧ e.2.1 = prnG t x y
  inw : inW t.length e.2.2
  cls : e.2.1 = eqP t.length (relP e.2.2)
  pl : e.2.2.length ≤ t.length
structure PrL (t : List (List Int)) (L : List Prn) : Prop where
  ok : ∀ e ∈ L, PrnOk t e
  nd : (L.map fun e => e.2.1).Nodup
  all : ∀ x y, x < y → y < t.length → ∃ e ∈ L, e.2.1 = prnG t x y
theorem prnG_comm (h : Semi t) {x y : Nat} (hx : x < t.length) (hy : y < t.length) : prnG t x y = prnG t y x :=
  sub_eq (prnG_is h x y).len (prnG_is h y x).len (prnG_is h x y).val.2 (prnG_is h y x).val.2 (prnG_sub (prnG_is h y x) (prnG_eq hy hx).symm) (prnG_sub (prnG_is h x y) (prnG_eq hx hy).symm)
theorem PrL.prn {L : List Prn} (h : PrL t L) (hs : Semi t) {p : List Int} (hp : p ∈ prnL t) : ∃ e ∈ L, e.2.1 = p := by
  obtain ⟨x, y, hy, hx, rfl⟩ := mem_prnL.1 hp
  obtain ⟨e, he, e1⟩ := h.all y x hy hx
  exact ⟨e, he, by rw [e1]; exact prnG_comm hs (by omega) hx⟩
theorem PrnOk.is {e : Prn} (h : PrnOk t e) (hs : Semi t) : IsCg t e.2.1 0 := by
  obtain ⟨x, y, _, _, _, e1⟩ := h.gen
  rw [e1]; exact prnG_is hs x y
/-! ### The run of All -/
structure AlI (t : List (List Int)) (L : List Prn) (i k : Nat) (F : List (List Int)) : Prop where
  nd : F.Nodup
  is : ∀ p ∈ F, IsCg t p 0
  dis : disI t.length ∈ F
  old : ∀ j, j < i → ∀ e ∈ L, joP t.length (F.getD j []) e.2.1 ∈ F
  cur : ∀ m, m < k → joP t.length (F.getD i []) (L.getD m (prn0)).2.1 ∈ F
theorem AlI.start (h : Semi t) (L : List Prn) : AlI t L 0 0 [disI t.length] :=
  ⟨(by simp), fun p hp => by rw [List.mem_singleton.1 hp]; exact dis_cg h, List.mem_singleton.2 rfl, fun j hj => by omega, fun j hj => by omega⟩
theorem AlI.few {L : List Prn} {i k : Nat} {F : List (List Int)} (h : AlI t L i k F) (hn : t.length ≤ 6) : F.length ≤ 720 := ptns_few hn h.nd fun p hp => ⟨(h.is p hp).len, (h.is p hp).val.2⟩
theorem AlI.same {L : List Prn} {i k : Nat} {F : List (List Int)} (h : AlI t L i k F) (hj : joP t.length (F.getD i []) (L.getD k prn0).2.1 ∈ F) : AlI t L i (k + 1) F :=
  ⟨h.nd, h.is, h.dis, h.old, fun m hm => by
    by_cases e : m = k
    · subst e; exact hj
    · exact h.cur m (by omega)⟩
theorem AlI.skip {L : List Prn} {i k : Nat} {F : List (List Int)} (h : AlI t L i k F) (hL : PrL t L) (hi : i < F.length) (hk : k < L.length) (e : (F.getD i []).getD (L.getD k prn0).1.1.toNat 0 = (F.getD i []).getD (L.getD k prn0).1.2.toNat 0) : AlI t L i (k + 1) F := by
  refine h.same ?_
  have hp := h.is _ (getD_mem (d := []) hi)
  obtain ⟨x, y, e1, hxy, hy, e2⟩ := (hL.ok _ (getD_mem (d := prn0) hk)).gen
  rw [e1] at e
  rw [joP_abs hp.len hp.val.2 (by rw [e2]; exact prnG_sub hp (by simpa using e))]
  exact getD_mem hi
theorem AlI.add {L : List Prn} {i k : Nat} {F : List (List Int)} (h : AlI t L i k F) (hs : Semi t) (hL : PrL t L) (hi : i < F.length) (hk : k < L.length) (hn : joP t.length (F.getD i []) (L.getD k prn0).2.1 ∉ F) : AlI t L i (k + 1) (F ++ [joP t.length (F.getD i []) (L.getD k prn0).2.1]) := by
  have hp := h.is _ (getD_mem (d := []) hi)
  have he := (hL.ok _ (getD_mem (d := prn0) hk)).is hs
  have hg : ∀ j, j < F.length → (F ++ [joP t.length (F.getD i []) (L.getD k prn0).2.1]).getD j [] = F.getD j [] := fun j hj => by rw [getD_app, if_pos hj]
  refine ⟨List.nodup_append.2 ⟨h.nd, (by simp), fun a ha b hb e => hn (by rw [← List.mem_singleton.1 hb, ← e]; exact ha)⟩, fun p hp' => ?_, List.mem_append.2 (.inl h.dis), fun j hj e hm => ?_, fun m hm => ?_⟩
  · rcases List.mem_append.1 hp' with hp' | hp'
    · exact h.is p hp'
    · rw [List.mem_singleton.1 hp']; exact joP_cg hp he
  · rw [hg j (by omega)]; exact List.mem_append.2 (.inl (h.old j hj e hm))
  · rw [hg i hi]
    by_cases e : m = k
    · subst e; exact List.mem_append.2 (.inr (List.mem_singleton.2 rfl))
    · exact List.mem_append.2 (.inl (h.cur m (by omega)))
theorem AlI.row {L : List Prn} {i k : Nat} {F : List (List Int)} (h : AlI t L i k F) (hk : L.length ≤ k) : AlI t L (i + 1) 0 F :=
  ⟨h.nd, h.is, h.dis, fun j hj e he => by
    by_cases e1 : j = i
    · subst e1
      obtain ⟨m, hm, rfl⟩ := mem_getD prn0 he
      exact h.cur m (by omega)
    · exact h.old j (by omega) e he, fun m hm => by omega⟩
theorem AlI.done {L : List Prn} {i : Nat} {F : List (List Int)} (h : AlI t L i 0 F) (hs : Semi t) (hL : PrL t L) (hi : F.length ≤ i) : AllC t F :=
  ⟨h.nd, h.is, h.dis, fun p hp e he => by
    obtain ⟨j, hj, rfl⟩ := mem_getD [] hp
    obtain ⟨x, hx, rfl⟩ := hL.prn hs he
    exact h.old j (by omega) x hx⟩
theorem join_item {n : Nat} {p : List Int} {r : Nat → Nat} {W : List (Int × Int)} (hr : KerR n r (orR (fun a b => a < n ∧ b < n ∧ p.getD a 0 = p.getD b 0) W)) (hW : inW n W) : canon (rtL n r) = joP n p (eqP n (relP W)) := by
  rw [← joP_canon (n := n) (p := p) (q := eqP n (relP W))]
  refine ker_canon (rtL_len n r) joP_len fun a b ha hb => ?_
  rw [hr.ker.2 a b ha hb, joP_iff ha hb]
  constructor
  · refine Eg.mono fun a b h => ?_
    rcases h with ⟨h1, h2, h3⟩ | h
    · exact .rel ⟨h1, h2, .inl h3⟩
    · have := relP_lt hW h
      exact .rel ⟨this.1, this.2, .inr ((eqP_iff this.1 this.2).2 (.rel h))⟩
  · refine Eg.mono fun a b h => ?_
    obtain ⟨h1, h2, h3 | h3⟩ := h
    · exact .rel (.inl ⟨h1, h2, h3⟩)
    · exact ((eqP_iff h1 h2).1 h3).mono fun a b h => .rel (.inr h)
end
end Go.Proofs.Ytpanlghofeebhaa
end
