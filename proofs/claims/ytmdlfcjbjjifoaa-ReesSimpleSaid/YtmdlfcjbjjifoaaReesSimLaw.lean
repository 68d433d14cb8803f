/- Rees matrix semigroups and Green's relations: when they are regular. Plain; no program. -/
import Derived.Test.YtmdlfcjbjjifoaaReesAssoc
import Derived.Test.YtmdlfcjbjjifoaaGreenLaw
namespace Go.Proofs.Ytmdlfcjbjjifoaa
open Go Go.AM

theorem grp_solve {G : List (List Int)} (h : Grp G) {u v : Nat} (hu : u < G.length) (hv : v < G.length) : ∃ w, w < G.length ∧ en G u w = v := by
  obtain ⟨e, he, hn, hi⟩ := h.inv
  obtain ⟨y, hy, h1, h2⟩ := hi u hu
  refine ⟨en G y v, (h.ent hy hv).2, ?_⟩
  rw [← assoc3 h.assoc hu hy hv, h1, (hn v hv).1]

section
variable {G : List (List Int)} {R C : Int} {P : List (List Int)} {z : Bool} (h : Rees G R C P z)
include h

/-- The table, as a list of lists. -/
abbrev tabR (G : List (List Int)) (R C : Int) (P : List (List Int)) (z : Bool) : List (List Int) := tabI G C P z (sizeI G.length R C z).toNat

omit h in
theorem tabR_len : (tabR G R C P z).length = (sizeI G.length R C z).toNat := tab_len

/-- The element with these coordinates, as a number. -/
def tr (G : List (List Int)) (C : Int) (z : Bool) (i g l : Nat) : Nat := (triI G.length C z i g l).toNat

theorem tr_int (i g l : Nat) : ((tr G C z i g l : Nat) : Int) = triI G.length C z i g l := by
  have hle := h.le
  have := tri_ge (z := z) (i := i) (g := g) (l := l) (n := (G.length : Int)) (C := C) (by omega) (by omega)
  have := z_cases z
  unfold tr; omega
theorem tr_lt {i g l : Nat} (hi : (i : Int) < R) (hg : g < G.length) (hl : (l : Int) < C) : tr G C z i g l < (tabR G R C P z).length ∧ zI z ≤ (tr G C z i g l : Int) := by
  have hle := h.le
  have hn := num_lt (z := z) (n := (G.length : Int)) (i := i) (g := g) (l := l) hle.1 hle.2.2.2.2.1 ⟨by omega, hi⟩ ⟨by omega, by omega⟩ ⟨by omega, hl⟩
  have := tr_int h i g l
  rw [tabR_len]
  unfold triI at this
  omega
theorem tr_of {x : Nat} (hx : x < (tabR G R C P z).length) (hz : zI z ≤ (x : Int)) : ∃ i g l : Nat, (i : Int) < R ∧ g < G.length ∧ (l : Int) < C ∧ x = tr G C z i g l := by
  rw [tabR_len] at hx
  obtain ⟨i, g, l, h1, h2, h3, h4⟩ := tri_of h (x := (x : Int)) ⟨hz, by omega⟩
  exact ⟨i, g, l, h1, h2, h3, by have := tr_int h i g l; omega⟩
theorem tr_inj {i g l i' g' l' : Nat} (hg : g < G.length) (hl : (l : Int) < C) (hg' : g' < G.length) (hl' : (l' : Int) < C) (he : tr G C z i g l = tr G C z i' g' l') : i = i' ∧ g = g' ∧ l = l' := by
  have e1 := tr_int h i g l
  have e2 := tr_int h i' g' l'
  have e : triI G.length C z i g l = triI G.length C z i' g' l' := by omega
  have c1 := tri_parts (z := z) (i := i) (n := (G.length : Int)) (show (g : Int) < G.length by omega) hl
  have c2 := tri_parts (z := z) (i := i') (n := (G.length : Int)) (show (g' : Int) < G.length by omega) hl'
  rw [e] at c1
  omega

theorem pent2 {l i : Nat} (hl : (l : Int) < C) (hi : (i : Int) < R) : -1 ≤ pe P l i ∧ pe P l i < G.length ∧ (pe P l i < 0 → z = true) := by
  have e := h.pent hl hi
  exact (h.sh.rows _ (getD_mem (d := []) e.1)).2 _ (getD_mem (d := 0) e.2.1)

theorem en_tr {i g l i' g' l' : Nat} (hi : (i : Int) < R) (hg : g < G.length) (hl : (l : Int) < C) (hi' : (i' : Int) < R) (hg' : g' < G.length) (hl' : (l' : Int) < C) :
    (pe P l i' < 0 → en (tabR G R C P z) (tr G C z i g l) (tr G C z i' g' l') = 0 ∧ z = true) ∧ (0 ≤ pe P l i' → en G (en G g (pe P l i').toNat) g' < G.length ∧ en (tabR G R C P z) (tr G C z i g l) (tr G C z i' g' l') = tr G C z i (en G (en G g (pe P l i').toNat) g') l') := by
  have t1 := tr_lt h hi hg hl
  have t2 := tr_lt h hi' hg' hl'
  rw [tabR_len] at t1 t2
  have e := (tab_en h (x := tr G C z i g l) (y := tr G C z i' g' l') (by omega) (by omega)).2
  rw [tr_int h, tr_int h, mul_tri h hg hl hi' hg' hl'] at e
  have hpe := pent2 h hl hi'
  refine ⟨fun hp => ?_, fun hp => ?_⟩
  · rw [if_pos hp] at e
    exact ⟨by exact_mod_cast e, hpe.2.2 hp⟩
  · rw [if_neg (by omega)] at e
    have hp' : pe P l i' < G.length := hpe.2.1
    have e1 := h.grp.ent (x := g) (y := (pe P l i').toNat) hg (by omega)
    have e2 := h.grp.ent (x := en G g (pe P l i').toNat) (y := g') e1.2 hg'
    refine ⟨e2.2, ?_⟩
    rw [← tr_int h] at e
    exact_mod_cast e

/-- The zero. -/
theorem en_zero (hz : z = true) {y : Nat} (hy : y < (tabR G R C P z).length) : en (tabR G R C P z) 0 y = 0 ∧ en (tabR G R C P z) y 0 = 0 := by
  rw [tabR_len] at hy
  have hzi : zI z = 1 := by rw [hz]; rfl
  have e1 := (tab_en h (x := 0) (y := y) (by omega) (by omega)).2
  have e2 := (tab_en h (x := y) (y := 0) (by omega) (by omega)).2
  rw [mul_zero (.inl (by omega))] at e1
  rw [mul_zero (.inr (by omega))] at e2
  exact ⟨by exact_mod_cast e1, by exact_mod_cast e2⟩

/-- The regular ones: all elements but the zero lie in each other's ideals. -/
theorem reg_J (hr : Reg R P) {x y : Nat} (hx : x < (tabR G R C P z).length) (hx2 : zI z ≤ (x : Int)) (hy : y < (tabR G R C P z).length) (hy2 : zI z ≤ (y : Int)) : inJB (tabR G R C P z) x y = true := by
  have hsm := rees_semi h
  have hle := h.le
  have hP := h.sh.p
  obtain ⟨i, g, l, h1, h2, h3, rfl⟩ := tr_of h hx hx2
  obtain ⟨k, v, m, h4, h5, h6, rfl⟩ := tr_of h hy hy2
  obtain ⟨l1, hl1, hp1⟩ := hr.2 i h1
  obtain ⟨i2, hi2, hp2⟩ := hr.1 l (by omega)
  have hl1C : (l1 : Int) < C := by omega
  have pe1 := pent2 h hl1C h1
  have hv0 : 0 < G.length := by omega
  -- from the left
  have a := (en_tr h (i := k) (g := 0) (l := l1) (i' := i) (g' := g) (l' := l) h4 hv0 hl1C h1 h2 h3).2 hp1
  obtain ⟨a1, a2⟩ := a
  have tl := tr_lt h (i := k) (g := 0) (l := l1) h4 hv0 hl1C
  have tw := tr_lt h (i := k) (l := l) h4 a1 h3
  -- from the right
  have p2 := pent2 h h3 hi2
  have hq : (pe P l i2).toNat < G.length := by
    have : pe P l i2 < G.length := p2.2.1
    have : 0 ≤ pe P l i2 := hp2
    omega
  obtain ⟨w, hw1, hw2⟩ := grp_solve h.grp (u := en G (en G (en G 0 (pe P l1 i).toNat) g) (pe P l i2).toNat) (v := v) (h.grp.ent a1 hq).2 h5
  have b := (en_tr h (i := k) (g := en G (en G 0 (pe P l1 i).toNat) g) (l := l) (i' := i2) (g' := w) (l' := m) h4 a1 h3 hi2 hw1 h6).2 hp2
  obtain ⟨b1, b2⟩ := b
  rw [hw2] at b2
  have tb := tr_lt h (i := i2) (g := w) (l := m) hi2 hw1 h6
  refine (inJB_iff hsm.toSh hx).2 ⟨_, tw.1, (inLB_iff hsm.toSh hx).2 (.inr ⟨_, tl.1, a2⟩), (inRB_iff hsm.toSh tw.1).2 (.inr ⟨_, tb.1, b2⟩)⟩

theorem reg_idem (hr : Reg R P) : ∃ x, x < (tabR G R C P z).length ∧ zI z ≤ (x : Int) ∧ en (tabR G R C P z) x x = x := by
  have hle := h.le
  have hP := h.sh.p
  obtain ⟨i, hi, hp⟩ := hr.1 0 (by omega)
  have hp : 0 ≤ pe P 0 i := hp
  have p2 := pent2 h (l := 0) (by omega) hi
  have hq : (pe P 0 i).toNat < G.length := by
    have : pe P 0 i < G.length := p2.2.1
    omega
  obtain ⟨e, he, hn, hinv⟩ := h.grp.inv
  obtain ⟨y, hy, hy1, hy2⟩ := hinv _ hq
  have t := tr_lt h (i := i) (g := y) (l := 0) hi hy (by omega)
  have b := (en_tr h (i := i) (g := y) (l := 0) (i' := i) (g' := y) (l' := 0) hi hy (by omega) hi hy (by omega)).2 hp
  refine ⟨_, t.1, t.2, ?_⟩
  rw [b.2, hy2, (hn y hy).1]

/-- Without zero they all are. -/
theorem reg_nozero (hz : z = false) : Reg R P := by
  have hle := h.le
  have hP := h.sh.p
  have nn : ∀ {l i : Nat}, (l : Int) < C → (i : Int) < R → 0 ≤ (P.getD l []).getD i 0 := fun {l i} hl hi => by
    have := pent2 h hl hi
    apply Int.not_lt.1
    intro hlt
    have := this.2.2 hlt
    rw [hz] at this; cases this
  exact ⟨fun j hj => ⟨0, by omega, nn (by omega) (by omega)⟩, fun i hi => ⟨0, by omega, nn (by omega) hi⟩⟩

theorem size_pos2 : 1 + zI z ≤ ((tabR G R C P z).length : Int) := by
  have hle := h.le
  have : 0 < (G.length : Int) * R * C := Int.mul_pos (Int.mul_pos (by omega) (by omega)) (by omega)
  have hz := z_cases z
  rw [tabR_len]
  unfold sizeI; omega

omit h in
theorem classJ_zero {t : List (List Int)} (ht : 0 < t.length) : (classJ t).getD 0 0 = 0 := by
  have := (canon_fix.1 (classJ_canon t)) 0 (by rw [classJ_len]; exact ht)
  unfold stepOk at this
  simp [firsts] at this
  simp only [List.getD]
  omega
omit h in
theorem classJ_one {t : List (List Int)} (ht : 1 < t.length) : (classJ t).getD 1 0 ≤ 1 := by
  have := (canon_fix.1 (classJ_canon t)) 1 (by rw [classJ_len]; exact ht)
  unfold stepOk at this
  have h2 := firsts_le ((classJ t).take 1)
  rw [List.length_take] at h2
  omega
omit h in
theorem mem_numJ {t : List (List Int)} {c : Nat} : c < numJ t ↔ ∃ x, x < t.length ∧ (classJ t).getD x 0 = c := by
  have := valid_range (classJ_canon t) (c : Int)
  constructor
  · intro hc
    obtain ⟨x, hx, he⟩ := mem_getD 0 (this.1 ⟨by omega, by unfold numJ at hc; omega⟩)
    exact ⟨x, by rw [classJ_len] at hx; exact hx, he⟩
  · rintro ⟨x, hx, he⟩
    have hm : (c : Int) ∈ classJ t := by rw [← he]; exact getD_mem (by rw [classJ_len]; exact hx)
    have := this.2 hm
    unfold numJ; omega

/-- Without zero: a single class, with an idempotent. -/
theorem simple_nozero (hz : z = false) : numJ (tabR G R C P z) = 1 ∧ Reg R P ∧ ∃ x, x < (tabR G R C P z).length ∧ (classJ (tabR G R C P z)).getD x 0 = 0 ∧ en (tabR G R C P z) x x = x := by
  have hsm := rees_semi h
  have hr := reg_nozero h hz
  have hzi : zI z = 0 := by rw [hz]; rfl
  have hpos := size_pos2 h
  have h0 : 0 < (tabR G R C P z).length := by omega
  have all : ∀ x, x < (tabR G R C P z).length → (classJ (tabR G R C P z)).getD x 0 = 0 := fun x hx => by
    exact ((classJ_iff hsm hx h0).2 ⟨reg_J h hr hx (by omega) h0 (by omega), reg_J h hr h0 (by omega) hx (by omega)⟩).trans (classJ_zero h0)
  refine ⟨?_, hr, ?_⟩
  · have h1 : 0 < numJ (tabR G R C P z) := mem_numJ.2 ⟨0, h0, by rw [classJ_zero h0]; rfl⟩
    have h2 : ¬ 1 < numJ (tabR G R C P z) := fun hc => by
      obtain ⟨x, hx, he⟩ := mem_numJ.1 hc
      rw [all x hx] at he; cases he
    omega
  · obtain ⟨x, hx, _, he⟩ := reg_idem h hr
    exact ⟨x, hx, all x hx, he⟩

theorem zero_alone (hz : z = true) {x : Nat} (hj : inJB (tabR G R C P z) 0 x = true) : x = 0 := by
  have hsm := rees_semi h
  have h0 : 0 < (tabR G R C P z).length := hsm.pos
  obtain ⟨w, hw, h1, h2⟩ := (inJB_iff hsm.toSh h0).1 hj
  have hw0 : w = 0 := by
    rcases (inLB_iff hsm.toSh h0).1 h1 with e | ⟨s, hs, e⟩
    · exact e
    · rw [← e]; exact (en_zero h hz hs).2
  subst hw0
  rcases (inRB_iff hsm.toSh h0).1 h2 with e | ⟨s, hs, e⟩
  · exact e
  · rw [← e]; exact (en_zero h hz hs).1

/-- With zero: two classes, both with idempotents, exactly if regular. -/
theorem simple_zero (hz : z = true) : (numJ (tabR G R C P z) = 2 ∧ (∃ x, x < (tabR G R C P z).length ∧ (classJ (tabR G R C P z)).getD x 0 = 0 ∧ en (tabR G R C P z) x x = x) ∧ (∃ x, x < (tabR G R C P z).length ∧ (classJ (tabR G R C P z)).getD x 0 = 1 ∧ en (tabR G R C P z) x x = x) ∧ (classJ (tabR G R C P z)).getD 1 0 ≠ (classJ (tabR G R C P z)).getD 0 0) ↔ Reg R P := by
  have hsm := rees_semi h
  have hzi : zI z = 1 := by rw [hz]; rfl
  have hpos := size_pos2 h
  have h0 : 0 < (tabR G R C P z).length := by omega
  have h1 : 1 < (tabR G R C P z).length := by omega
  have j0 := classJ_zero h0
  have j1 := classJ_one h1
  have nz : ∀ x, x < (tabR G R C P z).length → (classJ (tabR G R C P z)).getD x 0 = 0 → x = 0 := fun x hx he => by
    exact zero_alone h hz ((classJ_iff hsm hx h0).1 (he.trans j0.symm)).2
  have ne1 : (classJ (tabR G R C P z)).getD 1 0 = 1 := by
    have h2 := (classJ_lt (tabR G R C P z) h1).1
    have h3 : (classJ (tabR G R C P z)).getD 1 0 ≠ 0 := fun e => by cases nz 1 h1 e
    omega
  constructor
  · rintro ⟨hn, _, ⟨x, hx, hj, hid⟩, _⟩
    have hle := h.le
    have hP := h.sh.p
    have hx0 : x ≠ 0 := fun e => by subst e; omega
    obtain ⟨i, g, l, a1, a2, a3, rfl⟩ := tr_of h hx (by omega)
    have hp : 0 ≤ pe P l i := by
      apply Int.not_lt.1
      intro hlt
      have := ((en_tr h a1 a2 a3 a1 a2 a3).1 hlt).1
      rw [hid] at this; exact hx0 this
    -- all others are of this class
    have all : ∀ y, y < (tabR G R C P z).length → y ≠ 0 → inJB (tabR G R C P z) y (tr G C z i g l) = true := fun y hy hy0 => by
      have hy1 := classJ_lt (tabR G R C P z) hy
      have : (classJ (tabR G R C P z)).getD y 0 ≠ 0 := fun e => hy0 (nz y hy e)
      have e1 : (classJ (tabR G R C P z)).getD y 0 = 1 := by omega
      exact ((classJ_iff hsm hy hx).1 (e1.trans hj.symm)).1
    refine ⟨fun j hjl => ?_, fun i' hi' => ?_⟩
    · have t := tr_lt h (i := i) (g := g) (l := j) a1 a2 (by omega)
      obtain ⟨w, hw, b1, b2⟩ := (inJB_iff hsm.toSh t.1).1 (all _ t.1 (by omega))
      have hw0 : w ≠ 0 := fun e => by
        subst e
        rcases (inRB_iff hsm.toSh h0).1 b2 with e | ⟨s, hs, e⟩
        · exact hx0 e
        · rw [(en_zero h hz hs).1] at e; exact hx0 e.symm
      -- w ends in j
      have hwj : ∃ i2 g2 : Nat, (i2 : Int) < R ∧ g2 < G.length ∧ w = tr G C z i2 g2 j := by
        rcases (inLB_iff hsm.toSh t.1).1 b1 with e | ⟨s, hs, e⟩
        · exact ⟨i, g, a1, a2, e⟩
        · have hs0 : s ≠ 0 := fun e0 => by subst e0; rw [(en_zero h hz t.1).1] at e; exact hw0 e.symm
          obtain ⟨i3, g3, l3, c1, c2, c3, rfl⟩ := tr_of h hs (by omega)
          have hpp : 0 ≤ pe P l3 i := by
            apply Int.not_lt.1
            intro hlt
            have := ((en_tr h c1 c2 c3 a1 a2 (show (j : Int) < C by omega)).1 hlt).1
            rw [e] at this; exact hw0 this
          have := (en_tr h c1 c2 c3 a1 a2 (show (j : Int) < C by omega)).2 hpp
          exact ⟨i3, _, c1, this.1, by rw [← e, this.2]⟩
      obtain ⟨i2, g2, d1, d2, rfl⟩ := hwj
      rcases (inRB_iff hsm.toSh hw).1 b2 with e | ⟨s, hs, e⟩
      · have := tr_inj h a2 a3 d2 (by omega) e
        exact ⟨i, a1, by rw [← this.2.2]; exact hp⟩
      · have hs0 : s ≠ 0 := fun e0 => by subst e0; rw [(en_zero h hz hw).2] at e; exact hx0 e.symm
        obtain ⟨i3, g3, l3, c1, c2, c3, rfl⟩ := tr_of h hs (by omega)
        refine ⟨i3, c1, ?_⟩
        apply Int.not_lt.1
        intro hlt
        have := ((en_tr h d1 d2 (show (j : Int) < C by omega) c1 c2 c3).1 hlt).1
        rw [e] at this; exact hx0 this
    · have t := tr_lt h (i := i') (g := g) (l := l) hi' a2 a3
      obtain ⟨w, hw, b1, b2⟩ := (inJB_iff hsm.toSh t.1).1 (all _ t.1 (by omega))
      have hw0 : w ≠ 0 := fun e => by
        subst e
        rcases (inRB_iff hsm.toSh h0).1 b2 with e | ⟨s, hs, e⟩
        · exact hx0 e
        · rw [(en_zero h hz hs).1] at e; exact hx0 e.symm
      rcases (inLB_iff hsm.toSh t.1).1 b1 with e | ⟨s, hs, e⟩
      · subst e
        rcases (inRB_iff hsm.toSh hw).1 b2 with e | ⟨s, hs, e⟩
        · have := tr_inj h a2 a3 a2 a3 e
          exact ⟨l, by omega, by rw [← this.1]; exact hp⟩
        · have hs0 : s ≠ 0 := fun e0 => by subst e0; rw [(en_zero h hz hw).2] at e; exact hx0 e.symm
          obtain ⟨i3, g3, l3, c1, c2, c3, rfl⟩ := tr_of h hs (by omega)
          have hpp : 0 ≤ pe P l i3 := by
            apply Int.not_lt.1
            intro hlt
            have := ((en_tr h hi' a2 a3 c1 c2 c3).1 hlt).1
            rw [e] at this; exact hx0 this
          have hh := (en_tr h hi' a2 a3 c1 c2 c3).2 hpp
          rw [e] at hh
          have := tr_inj h a2 a3 hh.1 c3 hh.2
          exact ⟨l, by omega, by rw [← this.1]; exact hp⟩
      · have hs0 : s ≠ 0 := fun e0 => by subst e0; rw [(en_zero h hz t.1).1] at e; exact hw0 e.symm
        obtain ⟨i3, g3, l3, c1, c2, c3, rfl⟩ := tr_of h hs (by omega)
        refine ⟨l3, by omega, ?_⟩
        apply Int.not_lt.1
        intro hlt
        have := ((en_tr h c1 c2 c3 hi' a2 a3).1 hlt).1
        rw [e] at this; exact hw0 this
  · intro hr
    have one : ∀ x, x < (tabR G R C P z).length → x ≠ 0 → (classJ (tabR G R C P z)).getD x 0 = 1 := fun x hx hx0 => by
      exact ((classJ_iff hsm hx h1).2 ⟨reg_J h hr hx (by omega) h1 (by omega), reg_J h hr h1 (by omega) hx (by omega)⟩).trans ne1
    refine ⟨?_, ⟨0, h0, j0, (en_zero h hz h0).1⟩, ?_, by omega⟩
    · have g1 : 1 < numJ (tabR G R C P z) := mem_numJ.2 ⟨1, h1, by rw [ne1]; rfl⟩
      have g2 : ¬ 2 < numJ (tabR G R C P z) := fun hc => by
        obtain ⟨x, hx, he⟩ := mem_numJ.1 hc
        by_cases hx0 : x = 0
        · subst hx0; rw [j0] at he; cases he
        · rw [one x hx hx0] at he; cases he
      omega
    · obtain ⟨x, hx, hx2, he⟩ := reg_idem h hr
      exact ⟨x, hx, one x hx (by omega), he⟩
end
end Go.Proofs.Ytmdlfcjbjjifoaa
