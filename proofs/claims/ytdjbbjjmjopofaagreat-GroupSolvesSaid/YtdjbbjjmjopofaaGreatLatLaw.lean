/- The kernel is the least ideal; the lattice of ideals: plain. -/
import Derived.Test.YtdjbbjjmjopofaaGreatIdealsLaw
namespace Go.Proofs.YtdjbbjjmjopofaaGreat
open Go Go.AM

theorem ker_pr (t : List (List Int)) : kerF t = prF t (allP t t.length) := rfl
theorem ker_id {t : List (List Int)} (h : Semi t) : IdL t (ascV t.length (kerF t)) := prL_id h (allP_lt h.toSh h.pos _ (Nat.le_refl _))
theorem ker_F {t : List (List Int)} (h : Semi t) : IdF t (kerF t) := prF_id h (allP_lt h.toSh h.pos _ (Nat.le_refl _))
theorem ker_has {t : List (List Int)} (h : Semi t) : kerF t (allP t t.length) = true := prF_self h (allP_lt h.toSh h.pos _ (Nat.le_refl _))
/-- An ideal with an element has the product of all elements. -/
theorem all_in {t : List (List Int)} (h : Sh t) {f : Nat → Bool} (hf : IdF t f) {x : Nat} (hx : x < t.length) (hfx : f x = true) : ∀ k, x < k → k ≤ t.length → f (allP t k) = true
  | 0, h1, _ => absurd h1 (Nat.not_lt_zero _)
  | k + 1, h1, h2 => by
    have hp := allP_lt h h.pos k (by omega)
    by_cases e : x = k
    · subst e; exact (hf x (allP t x) hx hp hfx).2
    · exact (hf (allP t k) k hp (by omega) (all_in h hf hx hfx k (by omega) (by omega))).1
/-- The kernel lies in each ideal. -/
theorem ker_min {t : List (List Int)} (h : Semi t) {f : Nat → Bool} (hf : IdF t f) {x : Nat} (hx : x < t.length) (hfx : f x = true) {y : Nat} (hy : kerF t y = true) : f y = true := by
  have ha := allP_lt h.toSh h.pos _ (Nat.le_refl t.length)
  exact id_has h hf ha (all_in h.toSh hf hx hfx _ hx (Nat.le_refl _)) ((prF_iff h ha).1 hy)
theorem IdL.one {t : List (List Int)} {l : List Int} (h : IdL t l) : ∃ x, x < t.length ∧ setI l x = true := by
  have hm := getD_mem (d := 0) h.1
  have hr := h.2.2.1 _ hm
  exact ⟨(l.getD 0 0).toNat, by omega, setI_iff.2 (by rw [Int.toNat_of_nonneg hr.1]; exact hm)⟩
theorem ker_sub {t : List (List Int)} (h : Semi t) {l : List Int} (hl : IdL t l) {y : Nat} (hy : kerF t y = true) : setI l y = true := by
  obtain ⟨x, hx, hfx⟩ := hl.one
  exact ker_min h hl.2.2.2 hx hfx hy
theorem ascV_sub {n : Nat} {f g : Nat → Bool} (h : ∀ x, x < n → f x = true → g x = true) : (ascV n f).Sublist (ascV n g) := by
  unfold ascV memV memTo
  rw [setB_len, setB_len]
  refine List.Sublist.map _ ?_
  have e : (List.range n).filter (fun i => (setB n f).getD i false) = ((List.range n).filter (fun i => (setB n g).getD i false)).filter (fun i => (setB n f).getD i false) := by
    rw [List.filter_filter]
    refine List.filter_congr fun x hx => ?_
    have hx := List.mem_range.1 hx
    rw [setB_get hx, setB_get hx]
    cases e : f x
    · rfl
    · rw [h x hx e]; rfl
  rw [e]; exact List.filter_sublist
/-- The kernel stands first in the list of all ideals. -/
theorem ids_head {t : List (List Int)} (h : Semi t) : 0 < (idsL t).length ∧ (idsL t).getD 0 [] = ascV t.length (kerF t) := by
  have hk := idsL_mem.2 (ker_id h)
  have hs := idsL_srt t
  have hm : ∀ l ∈ idsL t, IdL t l := fun l hl => idsL_mem.1 hl
  revert hk hs hm
  generalize idsL t = F
  intro hk hs hm
  cases F with
  | nil => cases hk
  | cons a F =>
    refine ⟨by simp, ?_⟩
    show a = _
    rcases List.mem_cons.1 hk with e | hk
    · exact e.symm
    · have hlt : cmpS a (ascV t.length (kerF t)) < 0 := (List.pairwise_cons.1 hs).1 _ hk
      have ha := hm a (List.mem_cons_self ..)
      have hsub : (ascV t.length (kerF t)).Sublist a := by
        have := ascV_sub (n := t.length) (f := kerF t) (g := setI a) fun y _ hy => ker_sub h ha hy
        rwa [ha.self] at this
      have hle := hsub.length_le
      by_cases e : (ascV t.length (kerF t)).length = a.length
      · exact (hsub.eq_of_length e).symm
      · exfalso
        have e1 : cmpI (a.length : Int) ((ascV t.length (kerF t)).length : Int) = 1 := by unfold cmpI; rw [if_neg (by omega), if_pos (by omega)]
        unfold cmpS at hlt
        rw [e1, if_pos (by decide)] at hlt
        exact absurd hlt (by decide)
/-- Union and meet of ideals. -/
theorem IdF.join {t : List (List Int)} {f g : Nat → Bool} (hf : IdF t f) (hg : IdF t g) : IdF t fun x => f x || g x := fun x s hx hs hh => by
  rcases Bool.or_eq_true_iff.1 hh with h1 | h1
  · have := hf x s hx hs h1; simp [this.1, this.2]
  · have := hg x s hx hs h1; simp [this.1, this.2]
theorem IdF.meet {t : List (List Int)} {f g : Nat → Bool} (hf : IdF t f) (hg : IdF t g) : IdF t fun x => f x && g x := fun x s hx hs hh => by
  have hh := (Bool.and_eq_true_iff).1 hh
  have h1 := hf x s hx hs hh.1
  have h2 := hg x s hx hs hh.2
  simp [h1.1, h1.2, h2.1, h2.2]
theorem join_id {t : List (List Int)} (h : Semi t) {a b : List Int} (ha : IdL t a) (hb : IdL t b) : IdL t (ascV t.length fun x => setI a x || setI b x) := by
  obtain ⟨x, hx, hf⟩ := ha.one
  exact idL_of h.toSh (ha.2.2.2.join hb.2.2.2) hx (by simp [hf])
theorem meet_id {t : List (List Int)} (h : Semi t) {a b : List Int} (ha : IdL t a) (hb : IdL t b) : IdL t (ascV t.length fun x => setI a x && setI b x) := by
  have hx := allP_lt h.toSh h.pos _ (Nat.le_refl t.length)
  exact idL_of h.toSh (ha.2.2.2.meet hb.2.2.2) hx (by rw [ker_sub h ha (ker_has h), ker_sub h hb (ker_has h)]; rfl)
/-- A set below a bound. -/
def preB (n : Nat) (f : Nat → Bool) (x : Nat) : List Bool := setB n fun y => decide (y < x) && f y
theorem preB_len (n : Nat) (f : Nat → Bool) (x : Nat) : (preB n f x).length = n := setB_len _ _
theorem preB_zero (n : Nat) (f : Nat → Bool) : List.replicate n false = preB n f 0 := by
  refine ext_getD false (by rw [preB_len, List.length_replicate]) fun i hi => ?_
  rw [List.length_replicate] at hi
  unfold preB; rw [setB_get hi]; simp [hi]
theorem preB_set {n x : Nat} {f : Nat → Bool} (hx : x < n) : (preB n f x).set x (f x) = preB n f (x + 1) := by
  refine ext_getD false (by rw [List.length_set, preB_len, preB_len]) fun i hi => ?_
  rw [List.length_set, preB_len] at hi
  by_cases e : i = x
  · subst e; rw [getD_set_eq (by rw [preB_len]; exact hi)]; unfold preB; rw [setB_get hi]; simp
  · rw [getD_set_ne (Ne.symm e)]; unfold preB; rw [setB_get hi, setB_get hi]
    congr 1; exact decide_eq_decide.2 (by omega)
theorem preB_all (n : Nat) (f : Nat → Bool) : preB n f n = setB n f := setB_congr fun x hx => by simp [hx]
theorem tmod_rng {a n : Int} (hn : 0 < n) : -n < a.tmod n ∧ a.tmod n < n := ⟨Int.lt_tmod_of_pos a hn, Int.tmod_lt_of_pos a hn⟩
/-- The list that a number picks. -/
def pickL (F : List (List Int)) (a : Int) : List Int := F.getD ((a.tmod F.length + F.length) % F.length).toNat []
theorem pickL_rng (F : List (List Int)) (hF : 0 < F.length) (a : Int) : 0 ≤ (a.tmod F.length + F.length) % F.length ∧ (a.tmod F.length + F.length) % F.length < F.length :=
  ⟨Int.emod_nonneg _ (by omega), Int.emod_lt_of_pos _ (by omega)⟩
theorem pickL_mem {F : List (List Int)} (hF : 0 < F.length) (a : Int) : pickL F a ∈ F := by
  have := pickL_rng F hF a
  exact getD_mem (by omega)
end Go.Proofs.YtdjbbjjmjopofaaGreat
