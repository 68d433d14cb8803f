/- The principal factor of a J-class: a semigroup. Plain; no program. -/
import Derived.Test.YteopelpnpdbbcaaGreenLaw
import Derived.Test.YteopelpnpdbbcaaReesLaw
namespace Go.Proofs.Yteopelpnpdbbcaa
open Go Go.AM

/-- The elements of a class; which ones they are; is it minimal? -/
def elemsJ (t : List (List Int)) (j : Nat) : List Int := (classes (numJ t) (classJ t)).getD j []
def inJ (t : List (List Int)) (j : Nat) : List Bool := (List.range t.length).map fun x => decide ((classJ t).getD x 0 = (j : Int))
def minJ (t : List (List Int)) (j : Nat) : Bool := (List.range (numJ t)).all fun k => decide (k = j) || !(inJB t (fstC (classJ t) j) (fstC (classJ t) k))

theorem inJ_len (t : List (List Int)) (j : Nat) : (inJ t j).length = t.length := by simp [inJ]
theorem inJ_get {t : List (List Int)} {j x : Nat} (hx : x < t.length) : (inJ t j).getD x false = decide ((classJ t).getD x 0 = (j : Int)) := by
  unfold inJ
  rw [List.getD, List.getElem?_map, List.getElem?_range hx]
  rfl

theorem elemsJ_eq {t : List (List Int)} {j : Nat} (hj : j < numJ t) : elemsJ t j = ((List.range t.length).filter fun i => (classJ t).getD i 0 = (j : Int)).map fun (i : Nat) => (i : Int) := by
  unfold elemsJ; rw [classes_getD hj, classJ_len]
theorem mem_elems {t : List (List Int)} {j : Nat} (hj : j < numJ t) {x : Int} : x ∈ elemsJ t j ↔ 0 ≤ x ∧ x < t.length ∧ (classJ t).getD x.toNat 0 = j := by
  unfold elemsJ; rw [mem_classes hj, classJ_len]
theorem elems_nodup {t : List (List Int)} {j : Nat} (hj : j < numJ t) : (elemsJ t j).Nodup := by
  rw [elemsJ_eq hj, List.Nodup, List.pairwise_map]
  refine List.Pairwise.imp ?_ (List.Pairwise.sublist List.filter_sublist List.nodup_range)
  intro a b h e
  exact h (by exact_mod_cast e)
theorem elems_le {t : List (List Int)} {j : Nat} (hj : j < numJ t) : (elemsJ t j).length ≤ t.length := by
  rw [elemsJ_eq hj, List.length_map]
  exact Nat.le_trans (List.length_filter_le _ _) (by simp)
theorem elems_pos {t : List (List Int)} {j : Nat} (hj : j < numJ t) : 0 < (elemsJ t j).length := (fstJ hj).1

theorem minJ_iff {t : List (List Int)} {j : Nat} : minJ t j = true ↔ ∀ k, k < numJ t → k ≠ j → inJB t (fstC (classJ t) j) (fstC (classJ t) k) = false := by
  unfold minJ
  rw [List.all_eq_true]
  constructor
  · intro h k hk hkj
    have := h k (List.mem_range.2 hk)
    simpa [hkj] using this
  · intro h k hk
    have hk := List.mem_range.1 hk
    by_cases hkj : k = j
    · simp [hkj]
    · simp [h k hk hkj]
theorem elems_lt {t : List (List Int)} {j : Nat} (hj : j < numJ t) (hm : minJ t j = false) : (elemsJ t j).length < t.length := by
  have : ∃ k, k < numJ t ∧ k ≠ j := by
    apply Classical.byContradiction
    intro hn
    have : minJ t j = true := minJ_iff.2 fun k hk hkj => absurd ⟨k, hk, hkj⟩ hn
    rw [this] at hm; cases hm
  obtain ⟨k, hk, hkj⟩ := this
  have f := fstJ hk
  rw [elemsJ_eq hj, List.length_map]
  have h1 := List.length_filter_lt_length_iff_exists (l := List.range t.length) (p := fun i => (classJ t).getD i 0 = (j : Int))
  rw [List.length_range] at h1
  refine h1.2 ⟨fstC (classJ t) k, List.mem_range.2 f.2.2.1, ?_⟩
  rw [f.2.2.2]
  simp
  omega

/-- The elements of the factor: those of the class, and a zero where it isn't minimal. -/
def prinList (t : List (List Int)) (j : Nat) : List Int := (if minJ t j = true then [] else [-1]) ++ elemsJ t j
noncomputable def prinV (t : List (List Int)) (j : Nat) (a b : Int) : Int := open Classical in
  if 0 ≤ a ∧ 0 ≤ b ∧ (classJ t).getD (en t a.toNat b.toNat) 0 = (j : Int) then (((prinList t j).idxOf ((en t a.toNat b.toNat : Nat) : Int) : Nat) : Int) else 0
noncomputable def prinTab (t : List (List Int)) (j : Nat) : List (List Int) := (prinList t j).map fun a => (prinList t j).map fun b => prinV t j a b

section
variable {t : List (List Int)} {j : Nat} (h : Semi t) (hj : j < numJ t)
include hj

theorem mem_prin {x : Int} : x ∈ prinList t j ↔ (x = -1 ∧ minJ t j = false) ∨ (0 ≤ x ∧ x < t.length ∧ (classJ t).getD x.toNat 0 = j) := by
  unfold prinList
  rw [List.mem_append, mem_elems hj]
  cases hm : minJ t j <;> simp
theorem prin_len : 0 < (prinList t j).length ∧ (prinList t j).length ≤ t.length := by
  have h1 := elems_pos hj
  have h2 := elems_le hj
  unfold prinList
  rw [List.length_append]
  cases hm : minJ t j
  · have := elems_lt hj hm
    simp; omega
  · simp; omega
theorem prin_nodup : (prinList t j).Nodup := by
  unfold prinList
  have hn := elems_nodup hj
  cases hm : minJ t j
  · simp only [Bool.false_eq_true, if_false, List.singleton_append, List.nodup_cons]
    refine ⟨fun hx => ?_, hn⟩
    have := (mem_elems hj).1 hx
    omega
  · simpa using hn
omit hj in
theorem prin_zero (hm : minJ t j = false) : (prinList t j).getD 0 0 = -1 := by
  unfold prinList; simp [hm]
theorem prin_get {x : Nat} (hx : x < (prinList t j).length) : ((prinList t j).getD x 0 = -1 ∧ minJ t j = false) ∨ (0 ≤ (prinList t j).getD x 0 ∧ (prinList t j).getD x 0 < t.length ∧ (classJ t).getD ((prinList t j).getD x 0).toNat 0 = j) :=
  (mem_prin hj).1 (getD_mem hx)
theorem prin_idx {e : Nat} (he : e < t.length) (hc : (classJ t).getD e 0 = j) : (prinList t j).idxOf (e : Int) < (prinList t j).length ∧ (prinList t j).getD ((prinList t j).idxOf (e : Int)) 0 = e := by
  have hm : (e : Int) ∈ prinList t j := (mem_prin hj).2 (.inr ⟨by omega, by omega, by simpa using hc⟩)
  have hl := List.idxOf_lt_length_of_mem hm
  refine ⟨hl, ?_⟩
  rw [getD_eq hl, List.getElem_idxOf hl]

omit hj in
theorem prinTab_len : (prinTab t j).length = (prinList t j).length := by simp [prinTab]
omit hj in
theorem prinTab_row {x : Nat} (hx : x < (prinList t j).length) : (prinTab t j).getD x [] = (prinList t j).map fun b => prinV t j ((prinList t j).getD x 0) b := by
  simp [prinTab, List.getD, hx]
omit hj in
theorem prinTab_get {x y : Nat} (hx : x < (prinList t j).length) (hy : y < (prinList t j).length) : ((prinTab t j).getD x []).getD y 0 = prinV t j ((prinList t j).getD x 0) ((prinList t j).getD y 0) := by
  rw [prinTab_row hx]
  simp [List.getD, hy]

include h
theorem prinV_range (a b : Int) (ha : 0 ≤ a → a < t.length) (hb : 0 ≤ b → b < t.length) : 0 ≤ prinV t j a b ∧ prinV t j a b < (prinList t j).length := by
  have := prin_len hj
  unfold prinV
  split
  · rename_i hc
    have e := h.toSh.ent (x := a.toNat) (y := b.toNat) (by have := ha hc.1; omega) (by have := hb hc.2.1; omega)
    have := (prin_idx hj e.2 hc.2.2).1
    omega
  · omega

theorem prin_sh : Sh (prinTab t j) := by
  have hl := prin_len hj
  have hm := h.most
  refine ⟨by rw [prinTab_len]; exact hl.1, by rw [prinTab_len]; omega, fun r hr => ?_⟩
  obtain ⟨a, ha, rfl⟩ := List.mem_map.1 hr
  refine ⟨by rw [prinTab_len]; simp, fun v hv => ?_⟩
  obtain ⟨b, hb, rfl⟩ := List.mem_map.1 hv
  rw [prinTab_len]
  exact prinV_range h hj a b (fun h0 => by rcases (mem_prin hj).1 ha with h1 | h1 <;> omega) (fun h0 => by rcases (mem_prin hj).1 hb with h1 | h1 <;> omega)

omit hj in
/-- Products lie below their factors. -/
theorem below_r {a b : Nat} (ha : a < t.length) (hb : b < t.length) : inJB t a (en t a b) = true :=
  (inJB_iff h.toSh ha).2 ⟨a, ha, (preL h).refl a ha, (inRB_iff h.toSh ha).2 (.inr ⟨b, hb, rfl⟩)⟩
omit hj in
theorem below_l {a b : Nat} (ha : a < t.length) (hb : b < t.length) : inJB t b (en t a b) = true :=
  (inJB_iff h.toSh hb).2 ⟨en t a b, (h.toSh.ent ha hb).2, (inLB_iff h.toSh hb).2 (.inr ⟨a, ha, rfl⟩), (preR h).refl _ (h.toSh.ent ha hb).2⟩

/-- In a minimal class products stay. -/
theorem min_stays (hm : minJ t j = true) {a b : Nat} (ha : a < t.length) (hb : b < t.length) (hc : (classJ t).getD a 0 = j) : (classJ t).getD (en t a b) 0 = j := by
  have hab := (h.toSh.ent ha hb).2
  have hr := classJ_lt t hab
  obtain ⟨k, hk⟩ : ∃ k : Nat, (classJ t).getD (en t a b) 0 = k := ⟨((classJ t).getD (en t a b) 0).toNat, by omega⟩
  have hkn : k < numJ t := by omega
  have fj := fstJ hj
  have fk := fstJ hkn
  have h1 := (classJ_iff h fj.2.2.1 ha).1 (fj.2.2.2.trans hc.symm)
  have h2 := (classJ_iff h hab fk.2.2.1).1 (hk.trans fk.2.2.2.symm)
  have h3 := (preJ h).trans _ _ _ fj.2.2.1 ha hab h1.1 (below_r h ha hb)
  have h4 := (preJ h).trans _ _ _ fj.2.2.1 hab fk.2.2.1 h3 h2.1
  by_cases hkj : k = j
  · rw [hk, hkj]
  · rw [minJ_iff.1 hm k hkn hkj] at h4; cases h4

omit hj in
/-- A product of three that stays in the class has its halves there. -/
theorem halves {a b c : Nat} (ha : a < t.length) (hb : b < t.length) (hc : c < t.length) (ca : (classJ t).getD a 0 = j) (cc : (classJ t).getD c 0 = j) (hp : (classJ t).getD (en t (en t a b) c) 0 = j) : (classJ t).getD (en t a b) 0 = j ∧ (classJ t).getD (en t b c) 0 = j := by
  have hab := (h.toSh.ent ha hb).2
  have hbc := (h.toSh.ent hb hc).2
  have habc := (h.toSh.ent hab hc).2
  have e := assoc3 h.assoc ha hb hc
  constructor
  · rw [← ca]
    refine (classJ_iff h hab ha).2 ⟨?_, below_r h ha hb⟩
    exact (preJ h).trans _ _ _ hab habc ha (below_r h hab hc) ((classJ_iff h habc ha).1 (hp.trans ca.symm)).1
  · rw [← cc]
    refine (classJ_iff h hbc hc).2 ⟨?_, below_l h hb hc⟩
    have h1 : inJB t (en t b c) (en t (en t a b) c) = true := by rw [e]; exact below_l h ha hbc
    exact (preJ h).trans _ _ _ hbc habc hc h1 ((classJ_iff h habc hc).1 (hp.trans cc.symm)).1

/-- What a product in the factor is. -/
theorem prin_mul {x y : Nat} (hx : x < (prinList t j).length) (hy : y < (prinList t j).length) :
    (∃ a b : Nat, a < t.length ∧ b < t.length ∧ (prinList t j).getD x 0 = a ∧ (prinList t j).getD y 0 = b ∧ (classJ t).getD a 0 = j ∧ (classJ t).getD b 0 = j ∧
      (((classJ t).getD (en t a b) 0 = j ∧ en (prinTab t j) x y = (prinList t j).idxOf ((en t a b : Nat) : Int) ∧ (prinList t j).getD (en (prinTab t j) x y) 0 = en t a b) ∨ ((classJ t).getD (en t a b) 0 ≠ j ∧ minJ t j = false ∧ en (prinTab t j) x y = 0))) ∨
    (((prinList t j).getD x 0 = -1 ∨ (prinList t j).getD y 0 = -1) ∧ minJ t j = false ∧ en (prinTab t j) x y = 0) := by
  have hen : (en (prinTab t j) x y : Int) = prinV t j ((prinList t j).getD x 0) ((prinList t j).getD y 0) := by
    rw [← (prin_sh h hj).ent (by rw [prinTab_len]; exact hx) (by rw [prinTab_len]; exact hy) |>.1, prinTab_get hx hy]
  rcases prin_get hj hx with ⟨h1, h2⟩ | ⟨h1, h2, h3⟩
  · refine .inr ⟨.inl h1, h2, ?_⟩
    unfold prinV at hen
    rw [if_neg (by omega)] at hen
    exact_mod_cast hen
  · rcases prin_get hj hy with ⟨g1, g2⟩ | ⟨g1, g2, g3⟩
    · refine .inr ⟨.inr g1, g2, ?_⟩
      unfold prinV at hen
      rw [if_neg (by omega)] at hen
      exact_mod_cast hen
    · refine .inl ⟨((prinList t j).getD x 0).toNat, ((prinList t j).getD y 0).toNat, by omega, by omega, by omega, by omega, h3, g3, ?_⟩
      have hab := (h.toSh.ent (x := ((prinList t j).getD x 0).toNat) (y := ((prinList t j).getD y 0).toNat) (by omega) (by omega)).2
      by_cases hc : (classJ t).getD (en t ((prinList t j).getD x 0).toNat ((prinList t j).getD y 0).toNat) 0 = j
      · refine .inl ⟨hc, ?_⟩
        unfold prinV at hen
        rw [if_pos ⟨h1, g1, hc⟩] at hen
        have hen : en (prinTab t j) x y = (prinList t j).idxOf ((en t ((prinList t j).getD x 0).toNat ((prinList t j).getD y 0).toNat : Nat) : Int) := by exact_mod_cast hen
        exact ⟨hen, by rw [hen]; exact (prin_idx hj hab hc).2⟩
      · refine .inr ⟨hc, ?_, ?_⟩
        · cases hm : minJ t j
          · rfl
          · exact absurd (min_stays h hj hm (by omega) (by omega) h3) hc
        · unfold prinV at hen
          rw [if_neg (fun hh => hc hh.2.2)] at hen
          exact_mod_cast hen

/-- Products of the zero. -/
theorem prin_mul0 (hm : minJ t j = false) {x : Nat} (hx : x < (prinList t j).length) : en (prinTab t j) 0 x = 0 ∧ en (prinTab t j) x 0 = 0 := by
  have h0 := (prin_len hj).1
  have z := prin_zero hm
  constructor
  · rcases prin_mul h hj h0 hx with ⟨a, b, _, _, h1, _⟩ | ⟨_, _, h1⟩
    · omega
    · exact h1
  · rcases prin_mul h hj hx h0 with ⟨a, b, _, _, _, h1, _⟩ | ⟨_, _, h1⟩
    · omega
    · exact h1

theorem prin_semi : Semi (prinTab t j) := by
  have hsh := prin_sh h hj
  refine ⟨hsh, fun g hg x y hx hy => ?_⟩
  rw [prinTab_len] at hg hx hy
  have lt : ∀ {x y : Nat}, x < (prinList t j).length → y < (prinList t j).length → en (prinTab t j) x y < (prinList t j).length := fun {x y} hx hy => by
    have := (hsh.ent (x := x) (y := y) (by rw [prinTab_len]; exact hx) (by rw [prinTab_len]; exact hy)).2
    rwa [prinTab_len] at this
  have hxg := lt hx hg
  have hgy := lt hg hy
  -- (x g) y against x (g y)
  rcases prin_mul h hj hx hg with ⟨a, b, ha, hb, va, vb, ca, cb, p1⟩ | ⟨p0, hm, p1⟩
  · rcases prin_mul h hj hg hy with ⟨b', c, _, hc, vb', vc, _, cc, p2⟩ | ⟨p0, hm, p2⟩
    · have hbb : b' = b := by omega
      subst hbb
      have hab := (h.toSh.ent ha hb).2
      have hbc := (h.toSh.ent hb hc).2
      have e := assoc3 h.assoc ha hb hc
      by_cases hp : (classJ t).getD (en t (en t a b') c) 0 = j
      · obtain ⟨q1, q2⟩ := halves h ha hb hc ca cc hp
        obtain ⟨_, r1, r2⟩ := p1.resolve_right (fun hh => hh.1 q1)
        obtain ⟨_, s1, s2⟩ := p2.resolve_right (fun hh => hh.1 q2)
        rcases prin_mul h hj hxg hy with ⟨u, v, _, _, vu, vv, _, _, p3⟩ | ⟨p0, _, _⟩
        · rcases prin_mul h hj hx hgy with ⟨u', v', _, _, vu', vv', _, _, p4⟩ | ⟨p0, _, _⟩
          · have e1 : u = en t a b' := by omega
            have e2 : v = c := by omega
            have e3 : u' = a := by omega
            have e4 : v' = en t b' c := by omega
            subst e1; subst e2; subst e3; subst e4
            have hp' := hp
            rw [e] at hp'
            rw [(p3.resolve_right (fun hh => hh.1 hp)).2.1, (p4.resolve_right (fun hh => hh.1 hp')).2.1, e]
          · omega
        · omega
      · have hm : minJ t j = false := by
          cases hm : minJ t j
          · rfl
          · exact absurd (min_stays h hj hm hab hc (min_stays h hj hm ha hb ca)) hp
        have z := prin_zero hm
        have left : en (prinTab t j) (en (prinTab t j) x g) y = 0 := by
          rcases p1 with ⟨_, r1, r2⟩ | ⟨_, _, r1⟩
          · rcases prin_mul h hj hxg hy with ⟨u, v, _, _, vu, vv, _, _, p3⟩ | ⟨_, _, p3⟩
            · have e1 : u = en t a b' := by omega
              have e2 : v = c := by omega
              subst e1; subst e2
              exact (p3.resolve_left (fun hh => hp hh.1)).2.2
            · exact p3
          · rw [r1]; exact (prin_mul0 h hj hm hy).1
        have right : en (prinTab t j) x (en (prinTab t j) g y) = 0 := by
          rcases p2 with ⟨_, r1, r2⟩ | ⟨_, _, r1⟩
          · rcases prin_mul h hj hx hgy with ⟨u, v, _, _, vu, vv, _, _, p3⟩ | ⟨_, _, p3⟩
            · have e1 : u = a := by omega
              have e2 : v = en t b' c := by omega
              subst e1; subst e2
              rw [e] at hp
              exact (p3.resolve_left (fun hh => hp hh.1)).2.2
            · exact p3
          · rw [r1]; exact (prin_mul0 h hj hm hx).2
        rw [left, right]
    · rw [p2, (prin_mul0 h hj hm hx).2]
      rcases p1 with ⟨_, r1, r2⟩ | ⟨_, _, r1⟩
      · rcases prin_mul h hj hxg hy with ⟨u, v, _, _, vu, vv, _, _, p3⟩ | ⟨_, _, p3⟩
        · omega
        · exact p3
      · rw [r1]; exact (prin_mul0 h hj hm hy).1
  · rw [p1, (prin_mul0 h hj hm hy).1]
    symm
    rcases p0 with p0 | p0
    · rcases prin_mul h hj hx hgy with ⟨u, v, _, _, vu, vv, _, _, p3⟩ | ⟨_, _, p3⟩
      · omega
      · exact p3
    · rcases prin_mul h hj hg hy with ⟨u, v, _, _, vu, vv, _, _, p3⟩ | ⟨_, _, p3⟩
      · omega
      · rw [p3]; exact (prin_mul0 h hj hm hx).2
end
end Go.Proofs.Yteopelpnpdbbcaa
