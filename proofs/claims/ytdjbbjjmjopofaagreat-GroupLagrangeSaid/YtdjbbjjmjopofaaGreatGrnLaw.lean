/- Green's relations about an idempotent of a finite semigroup. Plain; no program. -/
import Derived.Test.YtdjbbjjmjopofaaGreatKerLaw
import Derived.Test.YtdjbbjjmjopofaaGreatPrinLaw
namespace Go.Proofs.YtdjbbjjmjopofaaGreat
open Go Go.AM

section
variable {S : Type} (m : S → S → S)
def LlA (y x : S) : Prop := x = y ∨ ∃ s, m s y = x
def RrA (y x : S) : Prop := x = y ∨ ∃ s, m y s = x
/-- What a finite semigroup with an idempotent gives. -/
structure Idm (e : S) : Prop where
  ac : ∀ x y z, m (m x y) z = m x (m y z)
  ee : m e e = e
  sL : ∀ x y, LlA m x y → (∃ a b, m (m a y) b = x) → LlA m y x
  sR : ∀ x y, RrA m x y → (∃ a b, m (m a y) b = x) → RrA m y x
structure InL (e x : S) : Prop where
  r : m x e = x
  l : ∃ s, m s x = e
structure InR (e x : S) : Prop where
  l : m e x = x
  r : ∃ s, m x s = e
structure InH (e g : S) : Prop where
  l : m e g = g
  r : m g e = g
  il : ∃ s, m s g = e
  ir : ∃ s, m g s = e
variable {m} {e : S} (I : Idm m e)
include I
theorem Idm.hmul {g h : S} (hg : InH m e g) (hh : InH m e h) : InH m e (m g h) := by
  obtain ⟨a, ha⟩ := hg.il
  obtain ⟨b, hb⟩ := hg.ir
  obtain ⟨c, hc⟩ := hh.il
  obtain ⟨d, hd⟩ := hh.ir
  refine ⟨by rw [← I.ac, hg.l], by rw [I.ac, hh.r], ⟨m c a, ?_⟩, ⟨m d b, ?_⟩⟩
  · rw [← I.ac, I.ac c a g, ha, I.ac c e h, hh.l, hc]
  · rw [I.ac, ← I.ac h d b, hd, ← I.ac, hg.r, hb]
theorem Idm.hone : InH m e e := ⟨I.ee, I.ee, ⟨e, I.ee⟩, ⟨e, I.ee⟩⟩
theorem Idm.hinv {g : S} (hg : InH m e g) : ∃ y, InH m e y ∧ m g y = e ∧ m y g = e := by
  obtain ⟨a, ha⟩ := hg.il
  obtain ⟨b, hb⟩ := hg.ir
  have h1 : m (m (m e a) e) g = e := by rw [I.ac, hg.l, I.ac, ha, I.ee]
  have h2 : m g (m (m e b) e) = e := by rw [← I.ac, ← I.ac, hg.r, hb, I.ee]
  have h3 : m (m e a) e = m (m e b) e := by
    have e1 : m (m (m e a) e) (m g (m (m e b) e)) = m (m e a) e := by rw [h2, I.ac, I.ee]
    have e2 : m (m (m e a) e) (m g (m (m e b) e)) = m (m e b) e := by rw [← I.ac, h1, ← I.ac, ← I.ac, I.ee]
    rw [← e1, e2]
  refine ⟨m (m e a) e, ⟨by rw [← I.ac, ← I.ac, I.ee], by rw [I.ac, I.ee], ⟨g, by rw [h3]; exact h2⟩, ⟨g, h1⟩⟩, by rw [h3]; exact h2, h1⟩
theorem Idm.inj {r q g h : S} (hr : InL m e r) (hq : InR m e q) (hg : InH m e g) (hh : InH m e h) (he : m (m r g) q = m (m r h) q) : g = h := by
  obtain ⟨r', hr'⟩ := hr.l
  obtain ⟨q', hq'⟩ := hq.r
  have key : ∀ g, InH m e g → m r' (m (m (m r g) q) q') = g := fun g hg => by
    rw [I.ac (m r g) q q', hq', I.ac r g e, hg.r, ← I.ac, hr', hg.l]
  rw [← key g hg, he, key h hh]
end

/-! ### In a table -/
def mF (t : List (List Int)) (h : Sh t) (x y : Fin t.length) : Fin t.length := ⟨en t x y, (h.ent x.2 y.2).2⟩
theorem stabLJ {t : List (List Int)} (h : Semi t) {x y : Nat} (hx : x < t.length) (hxy : inLB t x y = true) (hj : inJB t y x = true) : inLB t y x = true := by
  have hy := inL_lt h.toSh hx hxy
  obtain ⟨z, hz, h1, h2⟩ := (inJB_iff h.toSh hy).1 hj
  rcases (inRB_iff h.toSh hz).1 h2 with e | ⟨b, hb, e⟩
  · rw [e]; exact h1
  · have l1 : (elS t.length (inLB t x)).length ≤ (elS t.length (inLB t z)).length := card_map (fun w => en t w b) fun w hw hxw => by
      rcases (inLB_iff h.toSh hx).1 hxw with e2 | ⟨s, hs, e2⟩
      · exact ⟨z, hz, (preL h).refl z hz, by rw [e2, e]⟩
      · exact ⟨en t s z, (h.toSh.ent hs hz).2, (inLB_iff h.toSh hz).2 (.inr ⟨s, hs, rfl⟩), by rw [← e2, ← e, assoc3 h.assoc hs hz hb]⟩
    have l2 : (elS t.length (inLB t z)).length ≤ (elS t.length (inLB t y)).length := card_le fun w hw hzw => (preL h).trans _ _ _ hy hz hw h1 hzw
    exact card_eq (f := inLB t y) (g := inLB t x) (fun w hw hyw => (preL h).trans _ _ _ hx hy hw hxy hyw) (Nat.le_trans l1 l2) hx ((preL h).refl x hx)
theorem stabRJ {t : List (List Int)} (h : Semi t) {x y : Nat} (hx : x < t.length) (hxy : inRB t x y = true) (hj : inJB t y x = true) : inRB t y x = true := by
  have hy := inR_lt h.toSh hx hxy
  obtain ⟨z0, hz0, h10, h20⟩ := (inJB_iff h.toSh hy).1 hj
  obtain ⟨z, hz, h1, h2⟩ := swap2 h hy h10 h20
  rcases (inLB_iff h.toSh hz).1 h2 with e | ⟨b, hb, e⟩
  · rw [e]; exact h1
  · have l1 : (elS t.length (inRB t x)).length ≤ (elS t.length (inRB t z)).length := card_map (fun w => en t b w) fun w hw hxw => by
      rcases (inRB_iff h.toSh hx).1 hxw with e2 | ⟨s, hs, e2⟩
      · exact ⟨z, hz, (preR h).refl z hz, by rw [e2, e]⟩
      · exact ⟨en t z s, (h.toSh.ent hz hs).2, (inRB_iff h.toSh hz).2 (.inr ⟨s, hs, rfl⟩), by rw [← e2, ← e, assoc3 h.assoc hb hz hs]⟩
    have l2 : (elS t.length (inRB t z)).length ≤ (elS t.length (inRB t y)).length := card_le fun w hw hzw => (preR h).trans _ _ _ hy hz hw h1 hzw
    exact card_eq (f := inRB t y) (g := inRB t x) (fun w hw hyw => (preR h).trans _ _ _ hx hy hw hxy hyw) (Nat.le_trans l1 l2) hx ((preR h).refl x hx)
section
variable {t : List (List Int)} (h : Semi t)
include h
theorem llA_iff (y x : Fin t.length) : LlA (mF t h.toSh) y x ↔ inLB t y x = true := by
  rw [inLB_iff h.toSh y.2]
  exact or_congr ⟨fun e => by rw [e], fun e => Fin.ext e⟩ ⟨fun ⟨s, hs⟩ => ⟨s, s.2, congrArg Fin.val hs⟩, fun ⟨s, hs, e⟩ => ⟨⟨s, hs⟩, Fin.ext e⟩⟩
theorem rrA_iff (y x : Fin t.length) : RrA (mF t h.toSh) y x ↔ inRB t y x = true := by
  rw [inRB_iff h.toSh y.2]
  exact or_congr ⟨fun e => by rw [e], fun e => Fin.ext e⟩ ⟨fun ⟨s, hs⟩ => ⟨s, s.2, congrArg Fin.val hs⟩, fun ⟨s, hs, e⟩ => ⟨⟨s, hs⟩, Fin.ext e⟩⟩
theorem inJ_of {a y b : Fin t.length} : inJB t y (mF t h.toSh (mF t h.toSh a y) b) = true :=
  (inJB_iff h.toSh y.2).2 ⟨_, (mF t h.toSh a y).2, (inLB_iff h.toSh y.2).2 (.inr ⟨a, a.2, rfl⟩), (inRB_iff h.toSh (mF t h.toSh a y).2).2 (.inr ⟨b, b.2, rfl⟩)⟩
theorem idm {e : Nat} (he : e < t.length) (hi : en t e e = e) : Idm (mF t h.toSh) ⟨e, he⟩ where
  ac x y z := Fin.ext (assoc3 h.assoc x.2 y.2 z.2)
  ee := Fin.ext hi
  sL x y hxy hj := by
    rw [llA_iff h] at hxy ⊢
    obtain ⟨a, b, hj⟩ := hj
    exact stabLJ h x.2 hxy (by rw [← hj]; exact inJ_of h)
  sR x y hxy hj := by
    rw [rrA_iff h] at hxy ⊢
    obtain ⟨a, b, hj⟩ := hj
    exact stabRJ h x.2 hxy (by rw [← hj]; exact inJ_of h)
end
end Go.Proofs.YtdjbbjjmjopofaaGreat
