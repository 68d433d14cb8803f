import Derived.Test.YtpanlghofeebhaaCooLaw
import Derived.Test.YtpanlghofeebhaaChkLaw
import Derived.Test.YtpanlghofeebhaaNumLaw
section
/- Rees coordinates of a J-class with an idempotent: valid, regular, right. Plain; no program. -/
namespace Go.Proofs.Ytpanlghofeebhaa
open Go Go.AM
section
variable (t : List (List Int)) (j e : Nat)
abbrev cR : Nat := (rowsN t j).length
abbrev cC : Nat := (colsN t j).length
abbrev cH : Nat := (hLs t j e).length
def cooN (i g l : Nat) : Int := triI (cH t j e) (cC t j) (!minJ t j) i g l
open Classical in
noncomputable def cooV (x : Nat) : Int := if h : ∃ p : Nat × Nat × Nat, p.1 < cR t j ∧ p.2.1 < cH t j e ∧ p.2.2 < cC t j ∧ tri t j e p.1 p.2.1 p.2.2 = x then cooN t j e (Classical.choose h).1 (Classical.choose h).2.1 (Classical.choose h).2.2 else -1
noncomputable def cooM : List Int := (List.range t.length).map (cooV t j e)
end
theorem cooP_len (t : List (List Int)) (j e : Nat) : (cooP t j e).length = cC t j := by simp [cooP]
theorem cooP_row {t : List (List Int)} {j e l : Nat} (hl : l < cC t j) : (cooP t j e).getD l [] = (List.range (cR t j)).map fun i => posTo (hLs t j e) (hLs t j e).length (en t (qI t j e l) (rI t j e i)) := map_range_getD _ _ _ _ hl
theorem cooM_len (t : List (List Int)) (j e : Nat) : (cooM t j e).length = t.length := by simp [cooM]
theorem tri_dec {R H C k : Nat} (hH : 0 < H) (hC : 0 < C) (hk : k < R * H * C) : k / C / H < R ∧ k / C % H < H ∧ k % C < C := by
  have h1 : k / C < R * H := Nat.div_lt_of_lt_mul (by rw [Nat.mul_comm]; exact hk)
  exact ⟨Nat.div_lt_of_lt_mul (by rw [Nat.mul_comm]; exact h1), Nat.mod_lt _ hH, Nat.mod_lt _ hC⟩
theorem tri_back {H C k k' : Nat} (h1 : k / C / H = k' / C / H) (h2 : k / C % H = k' / C % H) (h3 : k % C = k' % C) : k = k' := by
  have a := Nat.div_add_mod (k / C) H
  have a' := Nat.div_add_mod (k' / C) H
  have b := Nat.div_add_mod k C
  have b' := Nat.div_add_mod k' C
  rw [h1, h2, a'] at a
  rw [← a, h3, b'] at b
  exact b.symm
theorem tri_enc {R H C i g l : Nat} (hi : i < R) (hg : g < H) (hl : l < C) : ∃ k, k < R * H * C ∧ k / C / H = i ∧ k / C % H = g ∧ k % C = l := by
  refine ⟨(i * H + g) * C + l, ?_, ?_, ?_, ?_⟩
  · have h1 : i * H + g + 1 ≤ R * H := by
      have := Nat.mul_le_mul_right H (show i + 1 ≤ R from hi)
      rw [Nat.add_mul, Nat.one_mul] at this; omega
    have := Nat.mul_le_mul_right C h1
    rw [Nat.add_mul, Nat.one_mul] at this; omega
  · have e1 : ((i * H + g) * C + l) / C = i * H + g := by rw [Nat.mul_comm, Nat.mul_add_div (by omega), Nat.div_eq_of_lt hl, Nat.add_zero]
    rw [e1, Nat.mul_comm, Nat.mul_add_div (by omega), Nat.div_eq_of_lt hg, Nat.add_zero]
  · have e1 : ((i * H + g) * C + l) / C = i * H + g := by rw [Nat.mul_comm, Nat.mul_add_div (by omega), Nat.div_eq_of_lt hl, Nat.add_zero]
    rw [e1, Nat.mul_comm, Nat.mul_add_mod, Nat.mod_eq_of_lt hg]
  · rw [Nat.mul_comm, Nat.mul_add_mod, Nat.mod_eq_of_lt hl]
namespace Coo
variable {t : List (List Int)} {j e : Nat} (c : Coo t j e)
include c
theorem posR : 0 < cR t j := List.length_pos_of_mem (c.mem_rows.2 ⟨e, c.he, c.ej, rfl⟩)
theorem posC : 0 < cC t j := List.length_pos_of_mem (c.mem_cols.2 ⟨e, c.he, c.ej, rfl⟩)
theorem posH : 0 < cH t j e := c.hCl.pos
theorem cooV_tri {i g l : Nat} (hi : i < cR t j) (hg : g < cH t j e) (hl : l < cC t j) : cooV t j e (tri t j e i g l) = cooN t j e i g l := by
  have hx : ∃ p : Nat × Nat × Nat, p.1 < cR t j ∧ p.2.1 < cH t j e ∧ p.2.2 < cC t j ∧ tri t j e p.1 p.2.1 p.2.2 = tri t j e i g l := ⟨(i, g, l), hi, hg, hl, rfl⟩
  unfold cooV
  rw [dif_pos hx]
  have hs := Classical.choose_spec hx
  have := c.tri_inj hs.1 hs.2.1 hs.2.2.1 hi hg hl hs.2.2.2
  rw [this.1, this.2.1, this.2.2]
theorem cooV_out {x : Nat} (hx : jcl t x ≠ j) : cooV t j e x = -1 := by
  unfold cooV
  rw [dif_neg]
  rintro ⟨p, h1, h2, h3, h4⟩
  exact hx (h4 ▸ (c.tri_ok h1 h2 h3).2.1)
omit c in
theorem cooM_get {x : Nat} (hx : x < t.length) : (cooM t j e).getD x 0 = cooV t j e x := map_range_getD _ _ _ _ hx
theorem cooM_tri {i g l : Nat} (hi : i < cR t j) (hg : g < cH t j e) (hl : l < cC t j) : (cooM t j e).getD (tri t j e i g l) 0 = cooN t j e i g l := by rw [cooM_get (c.tri_ok hi hg hl).1, c.cooV_tri hi hg hl]
theorem sand_in {i l : Nat} (hi : i < cR t j) (hl : l < cC t j) : setI (hLs t j e) (en t (qI t j e l) (rI t j e i)) = true ↔ jcl t (en t (qI t j e l) (rI t j e i)) = j := by
  have r := c.rI_ok hi
  have q := c.qI_ok hl
  have hlt := (c.semi.toSh.ent q.1 r.1).2
  constructor
  · intro h
    have := c.mem_hLs.1 h
    exact (rcl_j c.semi hlt c.he this.2.1).trans c.ej
  · intro h
    have h2 := ((c.in_iff (c.m ⟨_, q.1⟩ ⟨_, r.1⟩)).1 h).1
    have h3 := (c.inH_iff (c.m ⟨_, q.1⟩ ⟨_, r.1⟩)).2 (c.I.sand (c.hQq hl) (c.hRr hi) h2)
    exact c.mem_hLs.2 ⟨hlt, h3⟩
theorem rees_rows : rowsOk (cooG t j e).length (cR t j) (cooP t j e) (!minJ t j) := by
  intro row hrow
  obtain ⟨l, hl, rfl⟩ := mem_getD [] hrow
  rw [cooP_len] at hl
  rw [cooP_row hl]
  refine ⟨by simp, fun g hg => ?_⟩
  obtain ⟨i, hi, rfl⟩ := List.mem_map.1 hg
  have hi := List.mem_range.1 hi
  have hr := posTo_rng (hLs t j e) (hLs t j e).length (en t (qI t j e l) (rI t j e i))
  rw [glen]
  refine ⟨hr.1, by omega, fun hneg => ?_⟩
  refine Classical.byContradiction fun hn => ?_
  have hm : minJ t j = true := by simpa using hn
  have h1 := min_stays c.semi c.hj hm (c.qI_ok hl).1 (c.rI_ok hi).1 (c.qI_ok hl).2.1
  have h2 := (pL_in ((c.sand_in hi hl).2 h1)).1
  omega
theorem count : (elemsJ t j).length = cR t j * cH t j e * cC t j := by
  have hnd : ((List.range (cR t j * cH t j e * cC t j)).map fun k => ((tri t j e (k / cC t j / cH t j e) (k / cC t j % cH t j e) (k % cC t j) : Nat) : Int)).Nodup := by
    refine List.pairwise_map.2 (List.nodup_range.imp_of_mem fun {a b} ha hb hab e1 => hab ?_)
    have ha := tri_dec c.posH c.posC (List.mem_range.1 ha)
    have hb := tri_dec c.posH c.posC (List.mem_range.1 hb)
    have e1 : tri t j e (a / cC t j / cH t j e) (a / cC t j % cH t j e) (a % cC t j) = tri t j e (b / cC t j / cH t j e) (b / cC t j % cH t j e) (b % cC t j) := Int.ofNat_inj.1 e1
    have := c.tri_inj ha.1 ha.2.1 ha.2.2 hb.1 hb.2.1 hb.2.2 e1
    exact tri_back this.1 this.2.1 this.2.2
  have hsub : ∀ x ∈ (List.range (cR t j * cH t j e * cC t j)).map (fun k => ((tri t j e (k / cC t j / cH t j e) (k / cC t j % cH t j e) (k % cC t j) : Nat) : Int)), x ∈ elemsJ t j := fun x hx => by
    obtain ⟨k, hk, rfl⟩ := List.mem_map.1 hx
    have hd := tri_dec c.posH c.posC (List.mem_range.1 hk)
    have := c.tri_ok hd.1 hd.2.1 hd.2.2
    exact (mem_elems c.hj).2 ⟨Int.natCast_nonneg _, Int.ofNat_lt.2 this.1, by rw [Int.toNat_natCast]; exact this.2.1⟩
  have hsup : ∀ x ∈ elemsJ t j, x ∈ (List.range (cR t j * cH t j e * cC t j)).map (fun k => ((tri t j e (k / cC t j / cH t j e) (k / cC t j % cH t j e) (k % cC t j) : Nat) : Int)) := fun x hx => by
    have hm := (mem_elems c.hj).1 hx
    obtain ⟨i, g, l, hi, hg, hl, he⟩ := c.tri_all (x := x.toNat) (by omega) hm.2.2
    obtain ⟨k, hk, e1, e2, e3⟩ := tri_enc hi hg hl
    refine List.mem_map.2 ⟨k, List.mem_range.2 hk, ?_⟩
    rw [e1, e2, e3, he]; omega
  refine Nat.le_antisymm ?_ ?_
  · have := (elems_nodup c.hj).length_le_of_subset hsup
    simpa using this
  · have := hnd.length_le_of_subset hsub
    simpa using this
theorem size : sizeI (cooG t j e).length (cR t j) (cC t j) (!minJ t j) - zI (!minJ t j) = ((elemsJ t j).length : Int) := by
  unfold sizeI; rw [glen, c.count, Nat.mul_comm (cR t j)]; simp only [cH, cR, cC]; push_cast; omega
theorem rees : Rees (cooG t j e) (cR t j) (cooP t j e).length (cooP t j e) (!minJ t j) where
  grp := c.grp
  sh := ⟨by have := c.posR; omega, by rw [cooP_len]; have := c.posC; omega, rfl, c.rees_rows⟩
  small := by
    have h1 := c.size
    have hm := c.semi.most
    rw [cooP_len]
    cases hmin : minJ t j with
    | true =>
      have := elems_le c.hj
      rw [hmin] at h1
      have hz : zI (!true) = 0 := rfl
      omega
    | false =>
      have := elems_lt c.hj hmin
      rw [hmin] at h1
      have hz : zI (!false) = 1 := rfl
      omega
end Coo
end Go.Proofs.Ytpanlghofeebhaa
end
section
/- Rees coordinates of a J-class with an idempotent: regular, right; the numbering as loops make it. Plain; no program. -/
namespace Go.Proofs.Ytpanlghofeebhaa
open Go Go.AM
namespace Coo
end Coo
structure CooTo (t : List (List Int)) (j e : Nat) (M : List Int) (D : Nat → Nat → Nat → Prop) : Prop where
  len : M.length = t.length
  set : ∀ i g l, i < cR t j → g < cH t j e → l < cC t j → D i g l → M.getD (tri t j e i g l) 0 = cooN t j e i g l
  rest : ∀ x, x < t.length → (∀ i g l, i < cR t j → g < cH t j e → l < cC t j → D i g l → tri t j e i g l ≠ x) → M.getD x 0 = -1
theorem CooTo.start {t : List (List Int)} {j e : Nat} {M : List Int} (hl : M.length = t.length) (h : ∀ x, x < t.length → M.getD x 0 = -1) {D : Nat → Nat → Nat → Prop} (hD : ∀ i g l, ¬ D i g l) : CooTo t j e M D :=
  ⟨hl, fun i g l _ _ _ h => absurd h (hD _ _ _), fun x hx _ => h x hx⟩
theorem CooTo.congr {t : List (List Int)} {j e : Nat} {M : List Int} {D D' : Nat → Nat → Nat → Prop} (H : CooTo t j e M D) (h : ∀ i g l, i < cR t j → g < cH t j e → l < cC t j → (D' i g l ↔ D i g l)) : CooTo t j e M D' :=
  ⟨H.len, fun i g l hi hg hl hd => H.set i g l hi hg hl ((h i g l hi hg hl).1 hd), fun x hx hn => H.rest x hx fun i g l hi hg hl hd => hn i g l hi hg hl ((h i g l hi hg hl).2 hd)⟩
theorem CooTo.step {t : List (List Int)} {j e : Nat} (c : Coo t j e) {M : List Int} {D D' : Nat → Nat → Nat → Prop} (H : CooTo t j e M D) {i g l : Nat} (hi : i < cR t j) (hg : g < cH t j e) (hl : l < cC t j)
    (hD : ∀ a b d, a < cR t j → b < cH t j e → d < cC t j → (D' a b d ↔ (D a b d ∨ (a = i ∧ b = g ∧ d = l)))) : CooTo t j e (M.set (tri t j e i g l) (cooN t j e i g l)) D' where
  len := by rw [List.length_set]; exact H.len
  set a b d ha hb hd hdd := by
    by_cases he : tri t j e a b d = tri t j e i g l
    · have := c.tri_inj ha hb hd hi hg hl he
      rw [this.1, this.2.1, this.2.2, getD_set_eq (by rw [H.len]; exact (c.tri_ok hi hg hl).1)]
    · rw [getD_set_ne (Ne.symm he)]
      rcases (hD a b d ha hb hd).1 hdd with h | ⟨rfl, rfl, rfl⟩
      · exact H.set a b d ha hb hd h
      · exact absurd rfl he
  rest x hx hn := by
    have h1 := hn i g l hi hg hl ((hD i g l hi hg hl).2 (.inr ⟨rfl, rfl, rfl⟩))
    rw [getD_set_ne h1]
    exact H.rest x hx fun a b d ha hb hd hdd => hn a b d ha hb hd ((hD a b d ha hb hd).2 (.inl hdd))
theorem CooTo.done {t : List (List Int)} {j e : Nat} (c : Coo t j e) {M : List Int} {D : Nat → Nat → Nat → Prop} (H : CooTo t j e M D) (hD : ∀ i g l, i < cR t j → g < cH t j e → l < cC t j → D i g l) : M = cooM t j e := by
  refine ext_getD 0 (by rw [H.len, cooM_len]) fun x hx => ?_
  rw [H.len] at hx
  by_cases hc : jcl t x = j
  · obtain ⟨i, g, l, hi, hg, hl, rfl⟩ := c.tri_all hx hc
    rw [H.set i g l hi hg hl (hD i g l hi hg hl), c.cooM_tri hi hg hl]
  · rw [Coo.cooM_get hx, c.cooV_out hc]
    exact H.rest x hx fun i g l hi hg hl _ he => hc (he ▸ (c.tri_ok hi hg hl).2.1)
end Go.Proofs.Ytpanlghofeebhaa
end
section
/- Lists under way: what a filter has kept so far, the first that it keeps; the elements of a class's rows and columns. Plain; no program. -/
namespace Go.Proofs.Ytpanlghofeebhaa
open Go Go.AM
def fltN (f : Int → Bool) (l : List Int) (i : Nat) : Nat := ((l.take i).filter f).length
theorem flt_pre (f : Int → Bool) (l : List Int) (i : Nat) : (l.take i).filter f = (l.filter f).take (fltN f l i) := by
  have h : l.filter f = (l.take i).filter f ++ (l.drop i).filter f := by rw [← List.filter_append, List.take_append_drop]
  rw [h]; unfold fltN; rw [List.take_left]
theorem flt_le (f : Int → Bool) (l : List Int) (i : Nat) : fltN f l i ≤ (l.filter f).length := by
  have h := congrArg List.length (flt_pre f l i)
  rw [List.length_take] at h
  have h2 : ((l.take i).filter f).length = fltN f l i := rfl
  omega
theorem flt_succ {f : Int → Bool} {l : List Int} {i : Nat} (hi : i < l.length) : (l.take (i + 1)).filter f = (l.take i).filter f ++ if f (l.getD i 0) = true then [l.getD i 0] else [] := by
  rw [take_snoc (d := 0) hi, List.filter_append, List.filter_cons, List.filter_nil]
theorem flt_hit {f : Int → Bool} {l : List Int} {i : Nat} (hi : i < l.length) (hf : f (l.getD i 0) = true) : fltN f l (i + 1) = fltN f l i + 1 ∧ fltN f l i < (l.filter f).length ∧ (l.filter f).getD (fltN f l i) 0 = l.getD i 0 := by
  have h1 : fltN f l (i + 1) = fltN f l i + 1 := by unfold fltN; rw [flt_succ hi, if_pos hf, List.length_append]; rfl
  have h2 := flt_le f l (i + 1)
  have h3 : fltN f l i < (l.filter f).length := by omega
  refine ⟨h1, h3, ?_⟩
  have h4 := flt_pre f l (i + 1)
  rw [flt_succ hi, if_pos hf, h1, take_snoc (d := 0) h3, flt_pre f l i] at h4
  have h5 := List.append_cancel_left h4
  simpa using h5.symm
theorem flt_miss {f : Int → Bool} {l : List Int} {i : Nat} (hi : i < l.length) (hf : f (l.getD i 0) = false) : fltN f l (i + 1) = fltN f l i := by
  unfold fltN; rw [flt_succ hi, if_neg (by rw [hf]; exact Bool.false_ne_true), List.append_nil]
theorem flt_end {f : Int → Bool} {l : List Int} {i : Nat} (hi : l.length ≤ i) : fltN f l i = (l.filter f).length := by
  unfold fltN; rw [List.take_of_length_le hi]
theorem pos_hit {f : Int → Bool} {l P : List Int} {n i : Nat} (hP : P.length = n) (hPy : ∀ y, y < n → P.getD y 0 = posTo (l.filter f) (fltN f l i) y) (hi : i < l.length) (hf : f (l.getD i 0) = true) (h0 : 0 ≤ l.getD i 0 ∧ l.getD i 0 < (n : Int)) :
    ∀ y, y < n → (P.set (l.getD i 0).toNat ((fltN f l i : Nat) : Int)).getD y 0 = posTo (l.filter f) (fltN f l (i + 1)) y := fun y hy => by
  have hh := flt_hit hi hf
  rw [hh.1, posTo, hh.2.2]
  by_cases e : y = (l.getD i 0).toNat
  · rw [if_pos (by omega), e, getD_set_eq (by omega)]
  · rw [if_neg (by omega), getD_set_ne (Ne.symm e), hPy y hy]
theorem filter_first {f : Int → Bool} : ∀ (l : List Int) (k : Nat), k < l.length → (∀ i, i < k → f (l.getD i 0) = false) → f (l.getD k 0) = true → (l.filter f).getD 0 0 = l.getD k 0
  | [], k, h, _, _ => absurd h (Nat.not_lt_zero _)
  | a :: l, 0, _, _, h => by
    have h : f a = true := h
    rw [List.filter_cons, if_pos h]; rfl
  | a :: l, k + 1, hk, h0, h => by
    have ha : f a = false := h0 0 (by omega)
    rw [List.filter_cons, if_neg (by rw [ha]; exact Bool.false_ne_true)]
    exact filter_first l k (by simpa using hk) (fun i hi => h0 (i + 1) (by omega)) h
def lstB (p q : List Int) (c d x : Int) : Bool := decide (p.getD x.toNat 0 = c) && decide (q.getD x.toNat 0 = d)
theorem hit_flt (t : List (List Int)) (j : Nat) (a b : Int) : hitJ t j a b = (elemsJ t j).filter (lstB (classR t) (classL t) a b) := rfl
theorem lst_idx {t : List (List Int)} {j : Nat} (hj : j < numJ t) {a b : Int} (hne : ∃ x, x < t.length ∧ jcl t x = j ∧ rcl t x = a ∧ lcl t x = b) :
    ∃ k, k < (elemsJ t j).length ∧ (∀ i, i < k → lstB (classR t) (classL t) a b ((elemsJ t j).getD i 0) = false) ∧ lstB (classR t) (classL t) a b ((elemsJ t j).getD k 0) = true ∧ (elemsJ t j).getD k 0 = (lstJ t j a b : Int) := by
  obtain ⟨x, hx, h1, h2, h3⟩ := hne
  obtain ⟨i, e1, e2, e3, e4⟩ := idxF_yes (f := lstB (classR t) (classL t) a b) (l := elemsJ t j) ⟨(x : Int), (mem_elems hj).2 ⟨by omega, by omega, h1⟩, by
    unfold lstB; rw [Int.toNat_natCast, decide_eq_true h2, decide_eq_true h3]; rfl⟩
  refine ⟨i, e2, e4, e3, ?_⟩
  have e5 := filter_first _ i e2 e4 e3
  rw [← hit_flt] at e5
  rw [← e5, (lst_of hj ⟨x, hx, h1, h2, h3⟩).2.1]
theorem elems_in {t : List (List Int)} {j : Nat} (hj : j < numJ t) : ∀ x ∈ elemsJ t j, 0 ≤ x ∧ x < ((classR t).length : Int) ∧ x < ((classL t).length : Int) := fun x hx => by
  have := (mem_elems hj).1 hx
  rw [classR_len, classL_len]; omega
section
variable (t : List (List Int)) (j e : Nat)
def rIL : List Int := (List.range (cR t j)).map fun i => ((rI t j e i : Nat) : Int)
def qIL : List Int := (List.range (cC t j)).map fun l => ((qI t j e l : Nat) : Int)
end
theorem rIL_len (t : List (List Int)) (j e : Nat) : (rIL t j e).length = cR t j := by simp [rIL]
theorem qIL_len (t : List (List Int)) (j e : Nat) : (qIL t j e).length = cC t j := by simp [qIL]
theorem rIL_get {t : List (List Int)} {j e i : Nat} (hi : i < cR t j) : (rIL t j e).getD i 0 = (rI t j e i : Int) := map_range_getD _ _ _ _ hi
theorem qIL_get {t : List (List Int)} {j e i : Nat} (hi : i < cC t j) : (qIL t j e).getD i 0 = (qI t j e i : Int) := map_range_getD _ _ _ _ hi
theorem cR_le {t : List (List Int)} {j e : Nat} (c : Coo t j e) : cR t j ≤ (elemsJ t j).length := by
  rw [c.count]
  have h1 := Nat.mul_le_mul (Nat.mul_le_mul (Nat.le_refl (cR t j)) c.posH) c.posC
  omega
theorem cC_le {t : List (List Int)} {j e : Nat} (c : Coo t j e) : cC t j ≤ (elemsJ t j).length := by
  rw [c.count]
  have h1 := Nat.mul_le_mul (Nat.mul_le_mul c.posR c.posH) (Nat.le_refl (cC t j))
  omega
theorem cH_le {t : List (List Int)} {j e : Nat} : cH t j e ≤ (elemsJ t j).length := by
  unfold cH hLs hitJ; exact List.length_filter_le _ _
theorem hLs_get {t : List (List Int)} {j e : Nat} (c : Coo t j e) {g : Nat} (hg : g < cH t j e) : (hLs t j e).getD g 0 = (gI t j e g : Int) := (c.hCl.el hg).2.1
end Go.Proofs.Ytpanlghofeebhaa
end
section
/- rees.numbers, least and the search for an idempotent: contracts. -/
namespace Go.Proofs.Ytpanlghofeebhaa
open Go Go.AM
set_option maxRecDepth 100000
set_option maxHeartbeats 1000000
abbrev lstS (p q : List Int) (c d : Int) : Store := [(1000, .box [.ro (.ints .i64 p)]), (1001, .box [.int .i64 c]), (1002, .box [.ro (.ints .i64 q)]), (1003, .box [.int .i64 d])]
theorem leastC_k (p q : List Int) (c d x : Int) (hx : 0 ≤ x) (hxp : x < p.length) (hxq : x < q.length) :
    fnMK TY SP Try.f118 [.int .i64 x, .ptr 1000 0, .ptr 1001 0, .ptr 1002 0, .ptr 1003 0] (lstS p q c d) (.bool (.v (lstB p q c d x))) (lstS p q c d) := by
  refine Or.inl <| Exists.intro [false, false, false, false, false, false, false, false, false, false, false, false, false, false, false] (And.intro (by decide +kernel) ?_)
  refine And.intro (by omega) ?_
  refine And.intro (fun h1 => ?_) (fun h1 => ?_)
  · have h1 : p.getD x.toNat 0 = c := h1
    refine And.intro (by omega) ?_
    refine And.intro (by repeat' first | refine And.intro ?_ ?_ | exact True.intro | (show (_ : Int) = (_ : Int); omega) | omega | exact rfl | (simp only [RO.len]; omega)) ?_
    show decide (q.getD x.toNat 0 = d) = lstB p q c d x
    unfold lstB; rw [decide_eq_true h1, Bool.true_and]
  · have h1 : p.getD x.toNat 0 ≠ c := h1
    refine And.intro (by repeat' first | refine And.intro ?_ ?_ | exact True.intro | (show (_ : Int) = (_ : Int); omega) | omega | exact rfl | (simp only [RO.len]; omega)) ?_
    show false = lstB p q c d x
    unfold lstB; rw [decide_eq_false h1, Bool.false_and]
theorem leastC_fn (p q : List Int) (c d x : Int) (hx : 0 ≤ x) (hxp : x < p.length) (hxq : x < q.length) : MF 118 [.int .i64 x, .ptr 1000 0, .ptr 1001 0, .ptr 1002 0, .ptr 1003 0] (lstS p q c d) (.bool (.v (lstB p q c d x))) (lstS p q c d) :=
  mkM Try.func118 (by decide +kernel) rfl (Nat.le_of_ble_eq_true rfl) fun _ => leastC_k p q c d x hx hxp hxq
theorem idxLeast_k (p q l : List Int) (c d : Int) (hl : ∀ x ∈ l, 0 ≤ x ∧ x < (p.length : Int) ∧ x < (q.length : Int)) (hll : l.length ≤ 400) (i : Nat) (hi : i < l.length) (hi0 : ∀ k, k < i → lstB p q c d (l.getD k 0) = false) (hi1 : lstB p q c d (l.getD i 0) = true) :
    fnMK TY SP Try.f31 [.ro (.ints .i64 l), .fn 118 [.ptr 1000 0, .ptr 1001 0, .ptr 1002 0, .ptr 1003 0]] (lstS p q c d) (.int .i64 i) (lstS p q c d) := by
  refine Exists.intro [] <| lp (X := Nat) (fun y => [(8, .int .i64 y)]) (fun _ => []) (fun y => y ≤ i) (fun y => i - y) 0 (Nat.zero_le _) (by repeat' first | refine And.intro ?_ ?_ | exact True.intro | (show (_ : Int) = (_ : Int); omega) | omega | exact rfl | (simp only [RO.len]; omega)) ?_
  intro y hy
  refine And.intro (fun h1 => ?_) (fun h1 => ?_)
  · have hyl : y < l.length := by omega
    have hm := hl _ (getD_mem (d := 0) hyl)
    refine And.intro (by omega) ?_
    refine Or.inr (cm [] [(1000, 1000), (1001, 1001), (1002, 1002), (1003, 1003)] (leastC_fn p q c d (l.getD y 0) hm.1 hm.2.1 hm.2.2) ?_)
    refine And.intro (by repeat' first | refine And.intro ?_ ?_ | exact True.intro | (show (_ : Int) = (_ : Int); omega) | omega | exact rfl | (simp only [RO.len]; omega)) ?_
    refine And.intro (fun h2 => ?_) (fun h2 => ?_)
    · have h2 : lstB p q c d (l.getD y 0) = true := h2
      have e : y = i := by
        rcases Nat.lt_or_ge y i with h | h
        · rw [hi0 y h] at h2; cases h2
        · omega
      subst e
      exact And.intro (by repeat' first | refine And.intro ?_ ?_ | exact True.intro | (show (_ : Int) = (_ : Int); omega) | omega | exact rfl | (simp only [RO.len]; omega)) (by repeat' first | refine And.intro ?_ ?_ | exact True.intro | (show (_ : Int) = (_ : Int); omega) | omega | exact rfl | (simp only [RO.len]; omega))
    · have h2 : lstB p q c d (l.getD y 0) = false := h2
      have e : y ≠ i := fun e => by rw [e, hi1] at h2; cases h2
      refine And.intro (by omega) ?_
      exact nx (y + 1) (show y + 1 ≤ i by omega) (show i - (y + 1) < i - y by omega) (by repeat' first | refine And.intro ?_ ?_ | exact True.intro | (show (_ : Int) = (_ : Int); omega) | omega | exact rfl | (simp only [RO.len]; omega))
  · exfalso
    have h1 : (l.length : Int) ≤ (y : Int) := h1
    omega
theorem idxLeast_fn (p q l : List Int) (c d : Int) (hl : ∀ x ∈ l, 0 ≤ x ∧ x < (p.length : Int) ∧ x < (q.length : Int)) (hll : l.length ≤ 400) (i : Nat) (hi : i < l.length) (hi0 : ∀ k, k < i → lstB p q c d (l.getD k 0) = false) (hi1 : lstB p q c d (l.getD i 0) = true) :
    MF 31 [.ro (.ints .i64 l), .fn 118 [.ptr 1000 0, .ptr 1001 0, .ptr 1002 0, .ptr 1003 0]] (lstS p q c d) (.int .i64 i) (lstS p q c d) :=
  mkM Try.func31 (by decide +kernel) rfl (Nat.le_of_ble_eq_true rfl) fun _ => idxLeast_k p q l c d hl hll i hi hi0 hi1
theorem least_k (p q l : List Int) (c d : Int) (hl : ∀ x ∈ l, 0 ≤ x ∧ x < (p.length : Int) ∧ x < (q.length : Int)) (hll : l.length ≤ 400) (i : Nat) (hi : i < l.length) (hi0 : ∀ k, k < i → lstB p q c d (l.getD k 0) = false) (hi1 : lstB p q c d (l.getD i 0) = true) :
    fnK TY SP Try.f76 [.ro (.ints .i64 l), .ro (.ints .i64 p), .int .i64 c, .ro (.ints .i64 q), .int .i64 d] (.int .i64 (l.getD i 0)) := by
  refine Or.inr (Or.inl (cm [] [(1000, 6), (1001, 7), (1002, 8), (1003, 9)] (idxLeast_fn p q l c d hl hll i hi hi0 hi1) ?_))
  refine And.intro (by repeat' first | refine And.intro ?_ ?_ | exact True.intro | (show (_ : Int) = (_ : Int); omega) | omega | exact rfl | (simp only [RO.len]; omega)) ?_
  refine And.intro (by omega) ?_
  exact And.intro (by repeat' first | refine And.intro ?_ ?_ | exact True.intro | (show (_ : Int) = (_ : Int); omega) | omega | exact rfl | (simp only [RO.len]; omega)) trivial
theorem least_fn (p q l : List Int) (c d : Int) (hl : ∀ x ∈ l, 0 ≤ x ∧ x < (p.length : Int) ∧ x < (q.length : Int)) (hll : l.length ≤ 400) (i : Nat) (hi : i < l.length) (hi0 : ∀ k, k < i → lstB p q c d (l.getD k 0) = false) (hi1 : lstB p q c d (l.getD i 0) = true) :
    QF 76 [.ro (.ints .i64 l), .ro (.ints .i64 p), .int .i64 c, .ro (.ints .i64 q), .int .i64 d] (.int .i64 (l.getD i 0)) :=
  mkQ Try.func76 (by decide +kernel) rfl (Nat.le_of_ble_eq_true rfl) fun _ => least_k p q l c d hl hll i hi hi0 hi1
theorem numL_snoc {p l : List Int} {i : Nat} (hi : i < l.length) : (numL p l).take (i + 1) = (numL p l).take i ++ [p.getD (l.getD i 0).toNat 0] := by
  rw [take_snoc (d := 0) (by rw [numL_len]; exact hi)]
  congr 2
  unfold numL
  rw [getD_eq (by rw [List.length_map]; exact hi), List.getElem_map, getD_eq (d := 0) hi]
theorem numbers_k (p l : List Int) (hl : 0 < l.length) (hll : l.length ≤ 400) (hp : ∀ x ∈ l, 0 ≤ x ∧ x < (p.length : Int)) : fnK TY SP Try.f75 [.ro (.ints .i64 p), .ro (.ints .i64 l)] (.new (.ints .i64 (cpI (srtI (numL p l))))) := by
  have hnl := numL_len p l
  refine Exists.intro [] <| lp2 (fun (i : Nat) (_ : Nat) => [(10, .int .i64 i), (5, .vec 20)]) (fun i _ => [(20, .vec 0 (.ints .i64 ((numL p l).take i)) [])]) (fun i _ => i ≤ l.length) (fun i _ => l.length - i) 0 0 (Nat.zero_le _) (by repeat' first | refine And.intro ?_ ?_ | exact True.intro | (show (_ : Int) = (_ : Int); omega) | omega | exact rfl | (simp only [RO.len]; omega)) ?_
  rintro i _ hi
  have hil : ((numL p l).take i).length = i := by rw [List.length_take, hnl]; omega
  refine And.intro (fun h1 => ?_) (fun h1 => ?_)
  · have hk : i < l.length := by omega
    have hm := hp _ (getD_mem (d := 0) hk)
    refine And.intro (by omega) ?_
    refine And.intro (show 0 ≤ l.getD i 0 ∧ l.getD i 0 < (p.length : Int) by omega) ?_
    refine And.intro (by rw [List.length_append, hil]; simp; omega) ?_
    refine And.intro (by omega) ?_
    refine nx (i + 1, 0) (show i + 1 ≤ l.length by omega) (show l.length - (i + 1) < l.length - i by omega) ?_
    have e := numL_snoc (p := p) hk
    repeat' first | refine And.intro ?_ ?_ | exact True.intro | exact congrArg (RO.ints .i64) e.symm | (show (_ : Int) = (_ : Int); omega) | omega | exact rfl
  · have h1 : (l.length : Int) ≤ (i : Int) := h1
    have hii : (numL p l).take i = numL p l := List.take_of_length_le (by omega)
    rw [hii]
    refine Or.inr (Or.inl (cm [] [(1000, 20)] (sortI_m (numL p l) (by omega)) ?_))
    refine And.intro (by repeat' first | refine And.intro ?_ ?_ | exact True.intro | (show (_ : Int) = (_ : Int); omega) | omega | exact rfl | (simp only [RO.len]; omega)) ?_
    refine Or.inr (Or.inl (cm [] [(1, 20)] (compactI_m (srtI (numL p l)) (by rw [srtI_len]; omega)) ?_))
    refine And.intro (by repeat' first | refine And.intro ?_ ?_ | exact True.intro | (show (_ : Int) = (_ : Int); omega) | omega | exact rfl | (simp only [RO.len]; omega)) ?_
    exact And.intro (by repeat' first | refine And.intro ?_ ?_ | exact True.intro | (show (_ : Int) = (_ : Int); omega) | omega | exact rfl | (simp only [RO.len]; omega)) (by repeat' first | refine And.intro ?_ ?_ | exact True.intro | (show (_ : Int) = (_ : Int); omega) | omega | exact rfl | (simp only [RO.len]; omega))
theorem numbers_fn (p l : List Int) (hl : 0 < l.length) (hll : l.length ≤ 400) (hp : ∀ x ∈ l, 0 ≤ x ∧ x < (p.length : Int)) : QF 75 [.ro (.ints .i64 p), .ro (.ints .i64 l)] (.new (.ints .i64 (cpI (srtI (numL p l))))) :=
  mkQ Try.func75 (by decide +kernel) rfl (Nat.le_of_ble_eq_true rfl) fun _ => numbers_k p l hl hll hp
end Go.Proofs.Ytpanlghofeebhaa
end
