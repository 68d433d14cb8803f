/- Rees coordinates of a J-class with an idempotent: regular, right; the numbering as loops make it. Plain; no program. -/
import Derived.Test.YtfoemneboalddaaCooLaw2
namespace Go.Proofs.Ytfoemneboalddaa
open Go Go.AM

namespace Coo
variable {t : List (List Int)} {j e : Nat} (c : Coo t j e)
include c
theorem stay {x y : Fin t.length} (hx : jcl t x = j) (hu : Up c.m c.E (c.m x y)) : jcl t (en t x y) = j := by
  obtain ⟨_, a, b, hab⟩ := (c.in_iff x).1 hx
  exact (c.in_iff (c.m x y)).2 ⟨hu, a, c.m b y, by rw [← c.I.ac, hab]⟩
theorem stay2 {x y : Fin t.length} (hy : jcl t y = j) (hu : Up c.m c.E (c.m x y)) : jcl t (en t x y) = j := by
  obtain ⟨_, a, b, hab⟩ := (c.in_iff y).1 hy
  exact (c.in_iff (c.m x y)).2 ⟨hu, c.m x a, b, by rw [c.I.ac x a, c.I.ac x, hab]⟩
omit c in
theorem pe_get {l i : Nat} (hl : l < cC t j) (hi : i < cR t j) : pe (cooP t j e) l i = posTo (hLs t j e) (hLs t j e).length (en t (qI t j e l) (rI t j e i)) := cooP_get hl hi
theorem pe_yes {l i : Nat} (hl : l < cC t j) (hi : i < cR t j) (h : jcl t (en t (qI t j e l) (rI t j e i)) = j) : 0 ≤ pe (cooP t j e) l i := by
  have := (pL_in ((c.sand_in hi hl).2 h)).1
  rw [Coo.pe_get hl hi]; omega
theorem reg : Reg (cR t j) (cooP t j e) := by
  refine ⟨fun l hl => ?_, fun i hi => ?_⟩
  · rw [cooP_len] at hl
    obtain ⟨y, hy, hqy⟩ := c.I.reg (c.hQq hl)
    have ly := (c.inL_iff y).2 hy
    have jy := (lcl_j c.semi y.2 c.he ly).trans c.ej
    obtain ⟨i, hi, ei⟩ := mem_getD 0 (c.mem_rows.2 ⟨y, y.2, jy, rfl⟩)
    have r := c.rI_ok hi
    have rx := (rrA_iff c.semi ⟨_, r.1⟩ y).2 ((rcl_iff c.semi r.1 y.2).1 (r.2.2.1.trans ei)).1
    have hu : ∃ u, c.m ⟨_, r.1⟩ u = y := rx.elim (fun hh => ⟨c.E, by rw [(c.hRr hi).r, hh]⟩) id
    obtain ⟨u, hu⟩ := hu
    refine ⟨i, Int.ofNat_lt.2 hi, c.pe_yes hl hi (c.stay (x := ⟨_, (c.qI_ok hl).1⟩) (y := ⟨_, r.1⟩) (c.qI_ok hl).2.1 ⟨c.E, u, ?_⟩)⟩
    rw [c.I.ac c.E, c.I.ac _ _ u, hu, hqy, c.I.ee]
  · have hi : i < cR t j := by omega
    obtain ⟨y, hy, hyr⟩ := c.I.regL (c.hRr hi)
    have ly := (c.inR_iff y).2 hy
    have jy := (rcl_j c.semi y.2 c.he ly).trans c.ej
    obtain ⟨l, hl, el⟩ := mem_getD 0 (c.mem_cols.2 ⟨y, y.2, jy, rfl⟩)
    have q := c.qI_ok hl
    have qx := (llA_iff c.semi ⟨_, q.1⟩ y).2 ((lcl_iff c.semi q.1 y.2).1 (q.2.2.2.trans el)).1
    have hv : ∃ v, c.m v ⟨_, q.1⟩ = y := qx.elim (fun hh => ⟨c.E, by rw [(c.hQq hl).l, hh]⟩) id
    obtain ⟨v, hv⟩ := hv
    refine ⟨l, by rw [cooP_len]; exact hl, c.pe_yes hl hi (c.stay (x := ⟨_, q.1⟩) (y := ⟨_, (c.rI_ok hi).1⟩) q.2.1 ⟨v, c.E, ?_⟩)⟩
    rw [← c.I.ac v, hv, hyr, c.I.ee]
theorem tri_fin {i g l : Nat} (hi : i < cR t j) (hg : g < cH t j e) (hl : l < cC t j) : (⟨tri t j e i g l, (c.tri_ok hi hg hl).1⟩ : Fin t.length) = c.m (c.m ⟨_, (c.rI_ok hi).1⟩ ⟨_, (c.gI_ok hg).1⟩) ⟨_, (c.qI_ok hl).1⟩ := rfl
/-- The product of two triples. -/
theorem prod_yes {i g l i' g' l' : Nat} (hi : i < cR t j) (hg : g < cH t j e) (hl : l < cC t j) (hi' : i' < cR t j) (hg' : g' < cH t j e) (hl' : l' < cC t j) (hp : 0 ≤ pe (cooP t j e) l i') :
    en (cooG t j e) (en (cooG t j e) g (pe (cooP t j e) l i').toNat) g' < cH t j e ∧ en t (tri t j e i g l) (tri t j e i' g' l') = tri t j e i (en (cooG t j e) (en (cooG t j e) g (pe (cooP t j e) l i').toNat) g') l' := by
  have hin : setI (hLs t j e) (en t (qI t j e l) (rI t j e i')) = true := by
    cases hs : setI (hLs t j e) (en t (qI t j e l) (rI t j e i')) with
    | true => rfl
    | false => rw [Coo.pe_get hl hi', posTo_out hs] at hp; omega
  have pp := pL_in hin
  have ep : (pe (cooP t j e) l i').toNat = pL (hLs t j e) (en t (qI t j e l) (rI t j e i')) := by rw [Coo.pe_get hl hi', pp.1]; exact Int.toNat_natCast _
  have s1 := sub_en c.hCl hg pp.2.1
  have s2 := sub_en c.hCl s1.2.1 hg'
  rw [ep]
  unfold cooG
  refine ⟨s2.2.1, ?_⟩
  unfold tri gI
  rw [s2.2.2, s1.2.2, pp.2.2]
  exact congrArg Fin.val (c.I.mul3 ⟨_, (c.rI_ok hi).1⟩ ⟨_, (c.gI_ok hg).1⟩ ⟨_, (c.qI_ok hl).1⟩ ⟨_, (c.rI_ok hi').1⟩ ⟨_, (c.gI_ok hg').1⟩ ⟨_, (c.qI_ok hl').1⟩)
theorem prod_no {i g l i' g' l' : Nat} (hi : i < cR t j) (hg : g < cH t j e) (hl : l < cC t j) (hi' : i' < cR t j) (hg' : g' < cH t j e) (hl' : l' < cC t j) (hp : pe (cooP t j e) l i' < 0) :
    jcl t (en t (tri t j e i g l) (tri t j e i' g' l')) ≠ j := by
  intro hj
  have a := c.tri_ok hi hg hl
  have b := c.tri_ok hi' hg' hl'
  have hu := ((c.in_iff (c.m ⟨_, a.1⟩ ⟨_, b.1⟩)).1 hj).1
  rw [c.tri_fin hi hg hl, c.tri_fin hi' hg' hl'] at hu
  have hu2 := c.I.mulUp hu
  have := c.pe_yes hl hi' (c.stay (x := ⟨_, (c.qI_ok hl).1⟩) (y := ⟨_, (c.rI_ok hi').1⟩) (c.qI_ok hl).2.1 hu2)
  omega
theorem num_rng {i g l : Nat} (hi : i < cR t j) (hg : g < cH t j e) (hl : l < cC t j) : zI (!minJ t j) ≤ cooN t j e i g l ∧ cooN t j e i g l < sizeI (cooG t j e).length (cR t j) (cC t j) (!minJ t j) := by
  unfold cooN triI
  rw [glen]
  have := c.posH; have := c.posC
  exact num_lt (by omega) (by omega) ⟨by omega, by omega⟩ ⟨by omega, by omega⟩ ⟨by omega, by omega⟩
omit c in
theorem num_inj {i g l i' g' l' : Nat} (hg : g < cH t j e) (hl : l < cC t j) (hg' : g' < cH t j e) (hl' : l' < cC t j) (he : cooN t j e i g l = cooN t j e i' g' l') : i = i' ∧ g = g' ∧ l = l' := by
  have a := tri_parts (z := !minJ t j) (i := i) (n := (cH t j e : Int)) (C := (cC t j : Int)) (g := g) (l := l) (by omega) (by omega)
  have b := tri_parts (z := !minJ t j) (i := i') (n := (cH t j e : Int)) (C := (cC t j : Int)) (g := g') (l := l') (by omega) (by omega)
  unfold cooN at he
  rw [he] at a
  omega
theorem good : ChkGood t j (cooG t j e) (cR t j) (cC t j) (cooP t j e) (!minJ t j) (cooM t j e) := by
  refine ⟨fun x hx => ⟨fun hc => by rw [cooM_get hx]; exact c.cooV_out hc, fun hc => ?_⟩, by rw [c.size], fun a ha b hb => ?_⟩
  · obtain ⟨i, g, l, hi, hg, hl, rfl⟩ := c.tri_all hx hc
    rw [c.cooM_tri hi hg hl]
    have hr := c.num_rng hi hg hl
    refine ⟨hr.1, hr.2, fun y hy hcy he => ?_⟩
    obtain ⟨i', g', l', hi', hg', hl', rfl⟩ := c.tri_all (by omega) hcy
    rw [c.cooM_tri hi' hg' hl'] at he
    have := num_inj hg' hl' hg hl he
    rw [this.1, this.2.1, this.2.2] at hy
    omega
  · have ma := (mem_elems c.hj).1 (getD_mem (d := 0) ha)
    have mb := (mem_elems c.hj).1 (getD_mem (d := 0) hb)
    obtain ⟨i, g, l, hi, hg, hl, ea⟩ := c.tri_all (x := ((elemsJ t j).getD a 0).toNat) (by omega) ma.2.2
    obtain ⟨i', g', l', hi', hg', hl', eb⟩ := c.tri_all (x := ((elemsJ t j).getD b 0).toNat) (by omega) mb.2.2
    rw [← ea, ← eb]
    have hm := mul_tri c.rees (i := i) (g := g) (l := l) (i' := i') (g' := g') (l' := l') (by rw [glen]; exact hg) (by rw [cooP_len]; exact Int.ofNat_lt.2 hl) (Int.ofNat_lt.2 hi') (by rw [glen]; exact hg') (by rw [cooP_len]; exact Int.ofNat_lt.2 hl')
    rw [glen, cooP_len] at hm
    have hm : mulI (cooG t j e) (cC t j) (cooP t j e) (!minJ t j) (cooN t j e i g l) (cooN t j e i' g' l') = if pe (cooP t j e) l i' < 0 then 0 else cooN t j e i (en (cooG t j e) (en (cooG t j e) g (pe (cooP t j e) l i').toNat) g') l' := hm
    unfold pairAt
    rw [c.cooM_tri hi hg hl, c.cooM_tri hi' hg' hl', hm]
    by_cases hp : pe (cooP t j e) l i' < 0
    · rw [if_pos hp]
      have hno := c.prod_no hi hg hl hi' hg' hl' hp
      refine ⟨fun hc => absurd hc hno, fun _ => ⟨?_, rfl⟩⟩
      have := c.rees_rows ((cooP t j e).getD l []) (getD_mem (by rw [cooP_len]; exact hl))
      exact (this.2 _ (getD_mem (d := 0) (i := i') (by have h9 := this.1; have h8 : ((i' : Nat) : Int) < ((cR t j : Nat) : Int) := Int.ofNat_lt.2 hi'; omega))).2.2 hp
    · rw [if_neg hp]
      have hy := c.prod_yes hi hg hl hi' hg' hl' (by omega)
      rw [hy.2, c.cooM_tri hi hy.1 hl']
      exact ⟨fun _ => rfl, fun hc => absurd (c.tri_ok hi hy.1 hl').2.1 hc⟩
theorem chk : chkB t (j : Int) (cooG t j e) (cR t j) (cC t j) (cooP t j e) (!minJ t j) (cooM t j e) = true := by
  have h := c.good
  refine (chk_yes ⟨⟨valid_zero.2 c.semi, by omega, by have := c.hj; omega⟩, ?_, ?_, cooM_len _ _ _⟩ h).symm
  · have := rees_zero.2 c.rees
    rw [cooP_len] at this; exact this
  · rw [Int.toNat_natCast]; cases minJ t j <;> simp
end Coo

/-- The numbering under way: what is numbered so far. -/
structure CooTo (t : List (List Int)) (j e : Nat) (M : List Int) (D : Nat → Nat → Nat → Prop) : Prop where
  len : M.length = t.length
  set : ∀ i g l, i < cR t j → g < cH t j e → l < cC t j → D i g l → M.getD (tri t j e i g l) 0 = cooN t j e i g l
  rest : ∀ x, x < t.length → (∀ i g l, i < cR t j → g < cH t j e → l < cC t j → D i g l → tri t j e i g l ≠ x) → M.getD x 0 = -1
theorem CooTo.start {t : List (List Int)} {j e : Nat} {M : List Int} (hl : M.length = t.length) (h : ∀ x, x < t.length → M.getD x 0 = -1) {D : Nat → Nat → Nat → Prop} (hD : ∀ i g l, ¬ D i g l) : CooTo t j e M D :=
  ⟨hl, fun i g l _ _ _ h => absurd h (hD _ _ _), fun x hx _ => h x hx⟩
theorem CooTo.congr {t : List (List Int)} {j e : Nat} {M : List Int} {D D' : Nat → Nat → Nat → Prop} (H : CooTo t j e M D) (h : ∀ i g l, i < cR t j → g < cH t j e → l < cC t j → (D' i g l ↔ D i g l)) : CooTo t j e M D' :=
  ⟨H.len, fun i g l hi hg hl hd => H.set i g l hi hg hl ((h i g l hi hg hl).1 hd), fun x hx hn => H.rest x hx fun i g l hi hg hl hd => hn i g l hi hg hl ((h i g l hi hg hl).2 hd)⟩
theorem CooTo.step {t : List (List Int)} {j e : Nat} (c : Coo t j e) {M : List Int} {D D' : Nat → Nat → Nat → Prop} (H : CooTo t j e M D) {i g l : Nat} (hi : i < cR t j) (hg : g < cH t j e) (hl : l < cC t j)
    (hD : ∀ a b d, a < cR t j → b < cH t j e → d < cC t j → (D' a b d ↔ (D a b d ∨ (a = i ∧ b = g ∧ d = l)))) : CooTo t j e (M.set (tri t j e i g l) (cooN t j e i g l)) D' where
  len := by rw [List.length_set]; exact H.len
  set a b d ha hb hd hdd := by
    by_cases he : tri t j e a b d = tri t j e i g l
    · have := c.tri_inj ha hb hd hi hg hl he
      rw [this.1, this.2.1, this.2.2, getD_set_eq (by rw [H.len]; exact (c.tri_ok hi hg hl).1)]
    · rw [getD_set_ne (Ne.symm he)]
      rcases (hD a b d ha hb hd).1 hdd with h | ⟨rfl, rfl, rfl⟩
      · exact H.set a b d ha hb hd h
      · exact absurd rfl he
  rest x hx hn := by
    have h1 := hn i g l hi hg hl ((hD i g l hi hg hl).2 (.inr ⟨rfl, rfl, rfl⟩))
    rw [getD_set_ne h1]
    exact H.rest x hx fun a b d ha hb hd hdd => hn a b d ha hb hd ((hD a b d ha hb hd).2 (.inl hdd))
theorem CooTo.done {t : List (List Int)} {j e : Nat} (c : Coo t j e) {M : List Int} {D : Nat → Nat → Nat → Prop} (H : CooTo t j e M D) (hD : ∀ i g l, i < cR t j → g < cH t j e → l < cC t j → D i g l) : M = cooM t j e := by
  refine ext_getD 0 (by rw [H.len, cooM_len]) fun x hx => ?_
  rw [H.len] at hx
  by_cases hc : jcl t x = j
  · obtain ⟨i, g, l, hi, hg, hl, rfl⟩ := c.tri_all hx hc
    rw [H.set i g l hi hg hl (hD i g l hi hg hl), c.cooM_tri hi hg hl]
  · rw [Coo.cooM_get hx, c.cooV_out hc]
    exact H.rest x hx fun i g l hi hg hl _ he => hc (he ▸ (c.tri_ok hi hg hl).2.1)
end Go.Proofs.Ytfoemneboalddaa
