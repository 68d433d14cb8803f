/- Green's relations about an idempotent of a finite semigroup. Plain; no program. -/
import Derived.Test.YtfoemneboalddaaKerLaw
import Derived.Test.YtfoemneboalddaaPrinLaw
namespace Go.Proofs.Ytfoemneboalddaa
open Go Go.AM

section
variable {S : Type} (m : S → S → S)
def LlA (y x : S) : Prop := x = y ∨ ∃ s, m s y = x
def RrA (y x : S) : Prop := x = y ∨ ∃ s, m y s = x
/-- What a finite semigroup with an idempotent gives. -/
structure Idm (e : S) : Prop where
  ac : ∀ x y z, m (m x y) z = m x (m y z)
  ee : m e e = e
  sL : ∀ x y, LlA m x y → (∃ a b, m (m a y) b = x) → LlA m y x
  sR : ∀ x y, RrA m x y → (∃ a b, m (m a y) b = x) → RrA m y x
structure InL (e x : S) : Prop where
  r : m x e = x
  l : ∃ s, m s x = e
structure InR (e x : S) : Prop where
  l : m e x = x
  r : ∃ s, m x s = e
structure InH (e g : S) : Prop where
  l : m e g = g
  r : m g e = g
  il : ∃ s, m s g = e
  ir : ∃ s, m g s = e
/-- e lies in the ideal of x. -/
def Up (e x : S) : Prop := ∃ a b, m (m a x) b = e

variable {m} {e : S} (I : Idm m e)
include I
theorem Idm.lr {a b : S} (ha : InL m e a) (hb : InR m e b) : Up m e (m a b) := by
  obtain ⟨s, hs⟩ := ha.l
  obtain ⟨s', hs'⟩ := hb.r
  refine ⟨s, s', ?_⟩
  rw [← I.ac, hs, I.ac, hs', I.ee]
theorem Idm.hmul {g h : S} (hg : InH m e g) (hh : InH m e h) : InH m e (m g h) := by
  obtain ⟨a, ha⟩ := hg.il
  obtain ⟨b, hb⟩ := hg.ir
  obtain ⟨c, hc⟩ := hh.il
  obtain ⟨d, hd⟩ := hh.ir
  refine ⟨by rw [← I.ac, hg.l], by rw [I.ac, hh.r], ⟨m c a, ?_⟩, ⟨m d b, ?_⟩⟩
  · rw [← I.ac, I.ac c a g, ha, I.ac c e h, hh.l, hc]
  · rw [I.ac, ← I.ac h d b, hd, ← I.ac, hg.r, hb]
theorem Idm.hone : InH m e e := ⟨I.ee, I.ee, ⟨e, I.ee⟩, ⟨e, I.ee⟩⟩
theorem Idm.hinv {g : S} (hg : InH m e g) : ∃ y, InH m e y ∧ m g y = e ∧ m y g = e := by
  obtain ⟨a, ha⟩ := hg.il
  obtain ⟨b, hb⟩ := hg.ir
  have h1 : m (m (m e a) e) g = e := by rw [I.ac, hg.l, I.ac, ha, I.ee]
  have h2 : m g (m (m e b) e) = e := by rw [← I.ac, ← I.ac, hg.r, hb, I.ee]
  have h3 : m (m e a) e = m (m e b) e := by
    have e1 : m (m (m e a) e) (m g (m (m e b) e)) = m (m e a) e := by rw [h2, I.ac, I.ee]
    have e2 : m (m (m e a) e) (m g (m (m e b) e)) = m (m e b) e := by rw [← I.ac, h1, ← I.ac, ← I.ac, I.ee]
    rw [← e1, e2]
  refine ⟨m (m e a) e, ⟨by rw [← I.ac, ← I.ac, I.ee], by rw [I.ac, I.ee], ⟨g, by rw [h3]; exact h2⟩, ⟨g, h1⟩⟩, by rw [h3]; exact h2, h1⟩
theorem Idm.hof {g : S} (h1 : m e g = g) (h2 : m g e = g) (h3 : Up m e g) : InH m e g := by
  refine ⟨h1, h2, ?_, ?_⟩
  · rcases I.sL e g (.inr ⟨g, h2⟩) h3 with h | h
    · exact ⟨e, by rw [← h, I.ee]⟩
    · exact h
  · rcases I.sR e g (.inr ⟨g, h1⟩) h3 with h | h
    · exact ⟨e, by rw [← h, I.ee]⟩
    · exact h
theorem Idm.dec {x r q : S} (hx : Up m e x) (hr : InL m e r) (hq : InR m e q) (rx : RrA m r x) (qx : LlA m q x) : ∃ g, InH m e g ∧ m (m r g) q = x := by
  have hu : ∃ u, m r u = x := rx.elim (fun h => ⟨e, by rw [hr.r, h]⟩) id
  have hv : ∃ v, m v q = x := qx.elim (fun h => ⟨e, by rw [hq.l, h]⟩) id
  obtain ⟨u, hu⟩ := hu
  obtain ⟨v, hv⟩ := hv
  obtain ⟨r', hr'⟩ := hr.l
  obtain ⟨q', hq'⟩ := hq.r
  have k1 : m r (m r' x) = x := by
    have : m (m r r') r = r := by rw [I.ac, hr', hr.r]
    rw [← I.ac, ← hu, ← I.ac, this]
  have k2 : m (m x q') q = x := by
    have : m q' q = m q' q := rfl
    have h3 : m (m q q') q = q := by rw [hq', hq.l]
    rw [I.ac, ← hv, I.ac, ← I.ac q q' q, h3]
  have k3 : m (m r (m (m e (m (m r' x) q')) e)) q = x := by
    rw [I.ac r, I.ac (m e (m (m r' x) q')) e q, hq.l, I.ac e, ← I.ac r e, hr.r, I.ac (m r' x) q' q, I.ac r' x, ← I.ac x q' q, k2, k1]
  have h1 : m e (m (m e (m (m r' x) q')) e) = m (m e (m (m r' x) q')) e := by rw [← I.ac, ← I.ac, I.ee]
  have h2 : m (m (m e (m (m r' x) q')) e) e = m (m e (m (m r' x) q')) e := by rw [I.ac, I.ee]
  refine ⟨_, I.hof h1 h2 ?_, k3⟩
  obtain ⟨a, b, hab⟩ := hx
  refine ⟨m a r, m q b, ?_⟩
  have gen : ∀ g, m (m (m a r) g) (m q b) = m (m a (m (m r g) q)) b := fun g => by simp only [I.ac]
  rw [gen, k3, hab]
theorem Idm.inj {r q g h : S} (hr : InL m e r) (hq : InR m e q) (hg : InH m e g) (hh : InH m e h) (he : m (m r g) q = m (m r h) q) : g = h := by
  obtain ⟨r', hr'⟩ := hr.l
  obtain ⟨q', hq'⟩ := hq.r
  have key : ∀ g, InH m e g → m r' (m (m (m r g) q) q') = g := fun g hg => by
    rw [I.ac (m r g) q q', hq', I.ac r g e, hg.r, ← I.ac, hr', hg.l]
  rw [← key g hg, he, key h hh]
/-- A product comes back to its left end, and to its right one. -/
theorem Idm.back {r q g : S} (hr : InL m e r) (hq : InR m e q) (hg : InH m e g) : (∃ w, m (m (m r g) q) w = r) ∧ (∃ w, m w (m (m r g) q) = q) ∧ Up m e (m (m r g) q) := by
  obtain ⟨r', hr'⟩ := hr.l
  obtain ⟨q', hq'⟩ := hq.r
  obtain ⟨y, _, h1, h2⟩ := I.hinv hg
  refine ⟨⟨m q' y, ?_⟩, ⟨m y r', ?_⟩, ⟨m y r', q', ?_⟩⟩
  · rw [I.ac (m r g) q, ← I.ac q q' y, hq', I.ac r g, ← I.ac g e y, hg.r, h1, hr.r]
  · rw [← I.ac (m y r') (m r g) q, ← I.ac (m y r') r g, I.ac y r' r, hr', I.ac y e g, hg.l, h2, hq.l]
  · rw [← I.ac (m y r') (m r g) q, ← I.ac (m y r') r g, I.ac y r' r, hr', I.ac y e g, hg.l, h2, hq.l, hq']
theorem Idm.sand {q r : S} (hq : InR m e q) (hr : InL m e r) (h : Up m e (m q r)) : InH m e (m q r) := I.hof (by rw [← I.ac, hq.l]) (by rw [I.ac, hr.r]) h
theorem Idm.mul3 (r g q s h p : S) : m (m (m r g) q) (m (m s h) p) = m (m r (m (m g (m q s)) h)) p := by simp only [I.ac]
theorem Idm.mulUp {r g q s h p : S} (hu : Up m e (m (m (m r g) q) (m (m s h) p))) : Up m e (m q s) := by
  obtain ⟨a, b, hab⟩ := hu
  exact ⟨m a (m r g), m h (m p b), by rw [← hab]; simp only [I.ac]⟩
theorem Idm.rowOf {x : S} (hx : Up m e x) (hd : ∃ a b, m (m a e) b = x) : ∃ r, InL m e r ∧ RrA m r x ∧ RrA m x r := by
  obtain ⟨a, b, hab⟩ := hx
  obtain ⟨c, d, hcd⟩ := hd
  have h1 : m a (m x b) = e := by rw [← I.ac]; exact hab
  have h2 : LlA m e (m x b) := I.sL (m x b) e (.inr ⟨a, h1⟩) ⟨c, m d b, by rw [← I.ac, hcd]⟩
  have h3 : m (m x b) e = m x b := h2.elim (fun h => by rw [h, I.ee]) fun ⟨s, hs⟩ => by rw [← hs, I.ac, I.ee]
  exact ⟨m x b, ⟨h3, a, h1⟩, I.sR x (m x b) (.inr ⟨b, rfl⟩) ⟨m c a, d, by rw [I.ac c a, h1]; exact hcd⟩, .inr ⟨b, rfl⟩⟩
theorem Idm.colOf {x : S} (hx : Up m e x) (hd : ∃ a b, m (m a e) b = x) : ∃ q, InR m e q ∧ LlA m q x ∧ LlA m x q := by
  obtain ⟨a, b, hab⟩ := hx
  obtain ⟨c, d, hcd⟩ := hd
  have h2 : RrA m e (m a x) := I.sR (m a x) e (.inr ⟨b, hab⟩) ⟨m a c, d, by rw [I.ac a c e, I.ac a, hcd]⟩
  have h3 : m e (m a x) = m a x := h2.elim (fun h => by rw [h, I.ee]) fun ⟨s, hs⟩ => by rw [← hs, ← I.ac, I.ee]
  exact ⟨m a x, ⟨h3, b, hab⟩, I.sL x (m a x) (.inr ⟨a, rfl⟩) ⟨c, m b d, by rw [I.ac c, ← I.ac (m a x) b d, hab, ← I.ac]; exact hcd⟩, .inr ⟨a, rfl⟩⟩
theorem Idm.reg {q : S} (hq : InR m e q) : ∃ y, InL m e y ∧ m q y = e := by
  obtain ⟨s, hs⟩ := hq.r
  have : m q (m s e) = e := by rw [← I.ac, hs, I.ee]
  exact ⟨m s e, ⟨by rw [I.ac, I.ee], q, this⟩, this⟩
theorem Idm.regL {r : S} (hr : InL m e r) : ∃ y, InR m e y ∧ m y r = e := by
  obtain ⟨s, hs⟩ := hr.l
  have : m (m e s) r = e := by rw [I.ac, hs, I.ee]
  exact ⟨m e s, ⟨by rw [← I.ac, I.ee], r, this⟩, this⟩
end

/-! ### In a table -/
def mF (t : List (List Int)) (h : Sh t) (x y : Fin t.length) : Fin t.length := ⟨en t x y, (h.ent x.2 y.2).2⟩
theorem stabLJ {t : List (List Int)} (h : Semi t) {x y : Nat} (hx : x < t.length) (hxy : inLB t x y = true) (hj : inJB t y x = true) : inLB t y x = true := by
  have hy := inL_lt h.toSh hx hxy
  obtain ⟨z, hz, h1, h2⟩ := (inJB_iff h.toSh hy).1 hj
  rcases (inRB_iff h.toSh hz).1 h2 with e | ⟨b, hb, e⟩
  · rw [e]; exact h1
  · have l1 : (elS t.length (inLB t x)).length ≤ (elS t.length (inLB t z)).length := card_map (fun w => en t w b) fun w hw hxw => by
      rcases (inLB_iff h.toSh hx).1 hxw with e2 | ⟨s, hs, e2⟩
      · exact ⟨z, hz, (preL h).refl z hz, by rw [e2, e]⟩
      · exact ⟨en t s z, (h.toSh.ent hs hz).2, (inLB_iff h.toSh hz).2 (.inr ⟨s, hs, rfl⟩), by rw [← e2, ← e, assoc3 h.assoc hs hz hb]⟩
    have l2 : (elS t.length (inLB t z)).length ≤ (elS t.length (inLB t y)).length := card_le fun w hw hzw => (preL h).trans _ _ _ hy hz hw h1 hzw
    exact card_eq (f := inLB t y) (g := inLB t x) (fun w hw hyw => (preL h).trans _ _ _ hx hy hw hxy hyw) (Nat.le_trans l1 l2) hx ((preL h).refl x hx)
theorem stabRJ {t : List (List Int)} (h : Semi t) {x y : Nat} (hx : x < t.length) (hxy : inRB t x y = true) (hj : inJB t y x = true) : inRB t y x = true := by
  have hy := inR_lt h.toSh hx hxy
  obtain ⟨z0, hz0, h10, h20⟩ := (inJB_iff h.toSh hy).1 hj
  obtain ⟨z, hz, h1, h2⟩ := swap2 h hy h10 h20
  rcases (inLB_iff h.toSh hz).1 h2 with e | ⟨b, hb, e⟩
  · rw [e]; exact h1
  · have l1 : (elS t.length (inRB t x)).length ≤ (elS t.length (inRB t z)).length := card_map (fun w => en t b w) fun w hw hxw => by
      rcases (inRB_iff h.toSh hx).1 hxw with e2 | ⟨s, hs, e2⟩
      · exact ⟨z, hz, (preR h).refl z hz, by rw [e2, e]⟩
      · exact ⟨en t z s, (h.toSh.ent hz hs).2, (inRB_iff h.toSh hz).2 (.inr ⟨s, hs, rfl⟩), by rw [← e2, ← e, assoc3 h.assoc hb hz hs]⟩
    have l2 : (elS t.length (inRB t z)).length ≤ (elS t.length (inRB t y)).length := card_le fun w hw hzw => (preR h).trans _ _ _ hy hz hw h1 hzw
    exact card_eq (f := inRB t y) (g := inRB t x) (fun w hw hyw => (preR h).trans _ _ _ hx hy hw hxy hyw) (Nat.le_trans l1 l2) hx ((preR h).refl x hx)
section
variable {t : List (List Int)} (h : Semi t)
include h
theorem llA_iff (y x : Fin t.length) : LlA (mF t h.toSh) y x ↔ inLB t y x = true := by
  rw [inLB_iff h.toSh y.2]
  exact or_congr ⟨fun e => by rw [e], fun e => Fin.ext e⟩ ⟨fun ⟨s, hs⟩ => ⟨s, s.2, congrArg Fin.val hs⟩, fun ⟨s, hs, e⟩ => ⟨⟨s, hs⟩, Fin.ext e⟩⟩
theorem rrA_iff (y x : Fin t.length) : RrA (mF t h.toSh) y x ↔ inRB t y x = true := by
  rw [inRB_iff h.toSh y.2]
  exact or_congr ⟨fun e => by rw [e], fun e => Fin.ext e⟩ ⟨fun ⟨s, hs⟩ => ⟨s, s.2, congrArg Fin.val hs⟩, fun ⟨s, hs, e⟩ => ⟨⟨s, hs⟩, Fin.ext e⟩⟩
theorem inJ_of {a y b : Fin t.length} : inJB t y (mF t h.toSh (mF t h.toSh a y) b) = true :=
  (inJB_iff h.toSh y.2).2 ⟨_, (mF t h.toSh a y).2, (inLB_iff h.toSh y.2).2 (.inr ⟨a, a.2, rfl⟩), (inRB_iff h.toSh (mF t h.toSh a y).2).2 (.inr ⟨b, b.2, rfl⟩)⟩
theorem idm {e : Nat} (he : e < t.length) (hi : en t e e = e) : Idm (mF t h.toSh) ⟨e, he⟩ where
  ac x y z := Fin.ext (assoc3 h.assoc x.2 y.2 z.2)
  ee := Fin.ext hi
  sL x y hxy hj := by
    rw [llA_iff h] at hxy ⊢
    obtain ⟨a, b, hj⟩ := hj
    exact stabLJ h x.2 hxy (by rw [← hj]; exact inJ_of h)
  sR x y hxy hj := by
    rw [rrA_iff h] at hxy ⊢
    obtain ⟨a, b, hj⟩ := hj
    exact stabRJ h x.2 hxy (by rw [← hj]; exact inJ_of h)
/-- From the ideal of y comes an idempotent e: e = a y b. -/
theorem up_of {e : Nat} (he : e < t.length) (hi : en t e e = e) {y : Fin t.length} (hj : inJB t y e = true) : Up (mF t h.toSh) ⟨e, he⟩ y := by
  have I := idm h he hi
  obtain ⟨z, hz, h1, h2⟩ := (inJB_iff h.toSh y.2).1 hj
  have h1 := (llA_iff h y ⟨z, hz⟩).2 h1
  have h2 := (rrA_iff h ⟨z, hz⟩ ⟨e, he⟩).2 h2
  have hz' : ∃ b, mF t h.toSh ⟨z, hz⟩ b = ⟨e, he⟩ := h2.elim (fun e1 => ⟨⟨e, he⟩, by rw [← e1, I.ee]⟩) id
  obtain ⟨b, hb⟩ := hz'
  rcases h1 with e1 | ⟨a, ha⟩
  · rw [e1] at hb
    -- e = y b = (y b) (y b)
    refine ⟨⟨e, he⟩, b, ?_⟩
    rw [I.ac, hb, I.ee]
  · exact ⟨a, b, by rw [ha, hb]⟩
theorem down_of {e : Nat} (he : e < t.length) (hi : en t e e = e) {x : Fin t.length} (hj : inJB t e x = true) : ∃ a b, mF t h.toSh (mF t h.toSh a ⟨e, he⟩) b = x := by
  have I := idm h he hi
  obtain ⟨z, hz, h1, h2⟩ := (inJB_iff h.toSh he).1 hj
  have h1 := (llA_iff h ⟨e, he⟩ ⟨z, hz⟩).2 h1
  have h2 := (rrA_iff h ⟨z, hz⟩ x).2 h2
  have ha : ∃ a, mF t h.toSh a ⟨e, he⟩ = ⟨z, hz⟩ := h1.elim (fun e1 => ⟨⟨e, he⟩, by rw [e1, I.ee]⟩) id
  obtain ⟨a, ha⟩ := ha
  rcases h2 with e1 | ⟨b, hb⟩
  · exact ⟨a, ⟨e, he⟩, by rw [I.ac, I.ee, ha, e1]⟩
  · exact ⟨a, b, by rw [ha, hb]⟩
end
end Go.Proofs.Ytfoemneboalddaa
