/- All ideals of a small table: plain. Sets as a word of bits. -/
import Derived.Test.YtdjbbjjmjopofaaGreatIdealLaw
import Derived.Test.YtdjbbjjmjopofaaGreatOrd
import Derived.Test.YtdjbbjjmjopofaaGreatBits
namespace Go.Proofs.YtdjbbjjmjopofaaGreat
open Go Go.AM
open Classical

theorem pairwise_adj {l : List Int} (h : Asc l) : l.Pairwise (· < ·) := by
  rw [List.pairwise_iff_getElem]
  have key : ∀ d i, i + d + 1 < l.length → l.getD i 0 < l.getD (i + d + 1) 0 := by
    intro d
    induction d with
    | zero => intro i hi; exact h i hi
    | succ d ih => intro i hi; have h1 := ih i (by omega); have h2 := h (i + d + 1) (by omega); rw [show i + (d + 1) + 1 = i + d + 1 + 1 by omega]; omega
  intro i j hi hj hij
  have := key (j - i - 1) i (by omega)
  rw [show i + (j - i - 1) + 1 = j by omega, getD_eq hi, getD_eq hj] at this
  exact this
theorem asc_of {l : List Int} (h : l.Pairwise (· < ·)) : Asc l := fun i hi => by
  rw [getD_eq (by omega), getD_eq hi]
  exact List.pairwise_iff_getElem.1 h i (i + 1) (by omega) hi (by omega)
theorem asc_ext {l m : List Int} (hl : Asc l) (hm : Asc m) (h : ∀ x, x ∈ l ↔ x ∈ m) : l = m := by
  have c : ∀ a b : Int, cmpI a b < 0 ↔ a < b := fun a b => by unfold cmpI; split <;> (try split) <;> omega
  exact sorted_uniq cmpI_tot ((pairwise_adj hl).imp fun hab => (c _ _).2 hab) ((pairwise_adj hm).imp fun hab => (c _ _).2 hab) h
theorem ascV_asc (n : Nat) (f : Nat → Bool) : Asc (ascV n f) := by
  refine asc_of ?_
  unfold ascV memV memTo
  rw [List.pairwise_map]
  refine List.Pairwise.imp ?_ (List.Pairwise.sublist List.filter_sublist List.pairwise_lt_range)
  intro a b h; exact_mod_cast h
theorem ascV_in {n : Nat} {f : Nat → Bool} {x : Int} (h : x ∈ ascV n f) : 0 ≤ x ∧ x < (n : Int) := by
  obtain ⟨i, h1, _, rfl⟩ := ascV_mem.1 h; omega
/-- A list that ascends in the table is the list of its set. -/
theorem ascV_self {n : Nat} {l : List Int} (h : Asc l) (hl : ∀ x ∈ l, 0 ≤ x ∧ x < (n : Int)) : ascV n (setI l) = l := by
  refine asc_ext (ascV_asc _ _) h fun x => ?_
  rw [ascV_mem]
  constructor
  · rintro ⟨i, _, h2, rfl⟩; exact setI_iff.1 h2
  · intro hx
    have := hl x hx
    exact ⟨x.toNat, by omega, setI_iff.2 (by rw [Int.toNat_of_nonneg this.1]; exact hx), by omega⟩
theorem IdL.self {t : List (List Int)} {l : List Int} (h : IdL t l) : ascV t.length (setI l) = l := ascV_self h.2.1 h.2.2.1

/-- The list of a set that is an ideal with an element. -/
theorem idL_of {t : List (List Int)} (hs : Sh t) {f : Nat → Bool} (h : IdF t f) {x : Nat} (hx : x < t.length) (hf : f x = true) : IdL t (ascV t.length f) :=
  ⟨List.length_pos_iff_exists_mem.2 ⟨_, ascV_mem.2 ⟨x, hx, hf, rfl⟩⟩, ascV_asc _ _, fun _ hy => ascV_in hy, fun y s hy hs' hyf => by
    rw [ascV_set hy] at hyf
    have := h y s hy hs' hyf
    rw [ascV_set (hs.ent hy hs').2, ascV_set (hs.ent hs' hy).2]; exact this⟩

/-- The ideal of an element. -/
def prF (t : List (List Int)) (x : Nat) : Nat → Bool := twoF t (setI [(x : Int)])
def prL (t : List (List Int)) (x : Nat) : List Int := ascV t.length (prF t x)
theorem prF_iff {t : List (List Int)} (h : Semi t) {x y : Nat} (hx : x < t.length) : prF t x y = true ↔ inJB t x y = true := by
  unfold prF
  rw [twoF_iff h]
  constructor
  · rintro ⟨z, _, h1, h2⟩
    have h1 := setI_iff.1 h1
    rw [List.mem_singleton] at h1
    have : z = x := by omega
    rw [← this]; exact h2
  · intro h1; exact ⟨x, hx, setI_iff.2 (by simp), h1⟩
theorem inJ_mul {t : List (List Int)} (h : Semi t) {x y s : Nat} (hx : x < t.length) (hs : s < t.length) (hy : inJB t x y = true) : inJB t x (en t y s) = true ∧ inJB t x (en t s y) = true := by
  have hy' := inJ_lt h.toSh hx hy
  have p := preJ h
  refine ⟨p.trans _ _ _ hx hy' (h.toSh.ent hy' hs).2 hy ?_, p.trans _ _ _ hx hy' (h.toSh.ent hs hy').2 hy ?_⟩
  · exact (inJB_iff h.toSh hy').2 ⟨y, hy', (inLB_iff h.toSh hy').2 (.inl rfl), (inRB_iff h.toSh hy').2 (.inr ⟨s, hs, rfl⟩)⟩
  · exact (inJB_iff h.toSh hy').2 ⟨en t s y, (h.toSh.ent hs hy').2, (inLB_iff h.toSh hy').2 (.inr ⟨s, hs, rfl⟩), (inRB_iff h.toSh (h.toSh.ent hs hy').2).2 (.inl rfl)⟩
theorem prF_id {t : List (List Int)} (h : Semi t) {x : Nat} (hx : x < t.length) : IdF t (prF t x) := fun y s _ hs hf => by
  rw [prF_iff h hx] at hf ⊢
  rw [prF_iff h hx]
  exact inJ_mul h hx hs hf
theorem prF_self {t : List (List Int)} (h : Semi t) {x : Nat} (hx : x < t.length) : prF t x x = true := (prF_iff h hx).2 ((preJ h).refl _ hx)
theorem prL_id {t : List (List Int)} (h : Semi t) {x : Nat} (hx : x < t.length) : IdL t (prL t x) := idL_of h.toSh (prF_id h hx) hx (prF_self h hx)
theorem id_has {t : List (List Int)} (h : Semi t) {f : Nat → Bool} (hf : IdF t f) {x y : Nat} (hx : x < t.length) (hfx : f x = true) (hy : inJB t x y = true) : f y = true := by
  obtain ⟨z, hz, h1, h2⟩ := (inJB_iff h.toSh hx).1 hy
  have hz' : f z = true := by
    rcases (inLB_iff h.toSh hx).1 h1 with rfl | ⟨s, hs, rfl⟩
    · exact hfx
    · exact (hf x s hx hs hfx).2
  rcases (inRB_iff h.toSh hz).1 h2 with rfl | ⟨s, hs, rfl⟩
  · exact hz'
  · exact (hf z s hz hs hz').1

/-- The union of two sets, as a list. -/
def unL (n : Nat) (a b : List Int) : List Int := ascV n fun y => setI a y || setI b y
theorem unL_id {t : List (List Int)} (hs : Sh t) {a b : List Int} (ha : IdL t a) (hb : IdL t b) : IdL t (unL t.length a b) := by
  obtain ⟨x, hx⟩ := List.exists_mem_of_length_pos ha.1
  have hx' := ha.2.2.1 x hx
  refine idL_of hs (x := x.toNat) (fun y s hy hs' hf => ?_) (by omega) (by rw [setI_iff.2 (by rw [Int.toNat_of_nonneg hx'.1]; exact hx)]; rfl)
  rw [Bool.or_eq_true] at hf ⊢
  rw [Bool.or_eq_true]
  rcases hf with hf | hf
  · have := ha.2.2.2 y s hy hs' hf; exact ⟨.inl this.1, .inl this.2⟩
  · have := hb.2.2.2 y s hy hs' hf; exact ⟨.inr this.1, .inr this.2⟩
/-- What has the ideals of the elements, and with each one its unions with these, has all ideals. -/
theorem all_of_closed {t : List (List Int)} (h : Semi t) {F : List (List Int)} (hb : ∀ x, x < t.length → prL t x ∈ F) (hc : ∀ a ∈ F, ∀ x, x < t.length → unL t.length a (prL t x) ∈ F) : ∀ l, IdL t l → l ∈ F := by
  intro l hl
  have key : ∀ k, k < l.length → ascV t.length (fun y => (List.range (k + 1)).any fun i => prF t (l.getD i 0).toNat y) ∈ F := by
    intro k
    induction k with
    | zero =>
      intro hk
      have hx := hl.2.2.1 _ (getD_mem (d := 0) hk)
      have := hb (l.getD 0 0).toNat (by omega)
      have e : ascV t.length (fun y => (List.range (0 + 1)).any fun i => prF t (l.getD i 0).toNat y) = prL t (l.getD 0 0).toNat := ascV_congr fun y _ => by simp
      rw [e]; exact this
    | succ k ih =>
      intro hk
      have hx := hl.2.2.1 _ (getD_mem (d := 0) hk)
      have := hc _ (ih (by omega)) (l.getD (k + 1) 0).toNat (by omega)
      have e : ascV t.length (fun y => (List.range (k + 1 + 1)).any fun i => prF t (l.getD i 0).toNat y) = unL t.length (ascV t.length (fun y => (List.range (k + 1)).any fun i => prF t (l.getD i 0).toNat y)) (prL t (l.getD (k + 1) 0).toNat) := by
        refine ascV_congr fun y hy => ?_
        unfold prL
        rw [ascV_set hy, ascV_set hy, List.range_succ (n := k + 1)]
        simp
      rw [e]; exact this
  have e : l = ascV t.length (fun y => (List.range (l.length - 1 + 1)).any fun i => prF t (l.getD i 0).toNat y) := by
    conv => lhs; rw [← hl.self]
    refine ascV_congr fun y hy => Bool.eq_iff_iff.2 ?_
    rw [List.any_eq_true]
    have h0 := hl.1
    constructor
    · intro hy'
      obtain ⟨i, hi, he⟩ := mem_getD 0 (setI_iff.1 hy')
      refine ⟨i, List.mem_range.2 (by omega), ?_⟩
      rw [he, Int.toNat_natCast]
      exact prF_self h hy
    · rintro ⟨i, hi, hp⟩
      have hi := List.mem_range.1 hi
      have hx := hl.2.2.1 _ (getD_mem (d := 0) (show i < l.length by omega))
      have hm : setI l (l.getD i 0).toNat = true := setI_iff.2 (by rw [Int.toNat_of_nonneg hx.1]; exact getD_mem (by omega))
      exact id_has h hl.2.2.2 (by omega) hm ((prF_iff h (by omega)).1 hp)
  rw [e]
  have h0 := hl.1
  exact key (l.length - 1) (by omega)

/-! ### The list of all ideals -/

theorem bits_of (f : Nat → Bool) : ∀ n, ∃ m, m < 2 ^ n ∧ ∀ i, i < n → m.testBit i = f i
  | 0 => ⟨0, by simp, fun i hi => absurd hi (Nat.not_lt_zero _)⟩
  | n + 1 => by
    obtain ⟨m, h1, h2⟩ := bits_of f n
    cases hf : f n with
    | false =>
      refine ⟨m, by rw [Nat.pow_succ]; omega, fun i hi => ?_⟩
      by_cases e : i = n
      · subst e; rw [Nat.testBit_lt_two_pow h1, hf]
      · exact h2 i (by omega)
    | true =>
      refine ⟨2 ^ n + m, by rw [Nat.pow_succ]; omega, fun i hi => ?_⟩
      by_cases e : i = n
      · subst e
        rw [Nat.testBit_two_pow_add_eq, Nat.testBit_lt_two_pow h1, hf]; rfl
      · rw [Nat.testBit_two_pow_add_gt (by omega)]; exact h2 i (by omega)
/-- All sets. -/
def allSets (n : Nat) : List (List Int) := (List.range (2 ^ n)).map fun m => ascV n m.testBit
theorem allSets_mem {n : Nat} {l : List Int} (h : ascV n (setI l) = l) : l ∈ allSets n := by
  obtain ⟨m, h1, h2⟩ := bits_of (setI l) n
  exact List.mem_map.2 ⟨m, List.mem_range.2 h1, by rw [ascV_congr h2, h]⟩
noncomputable def idsL (t : List (List Int)) : List (List Int) := srt cmpS (firsts ((allSets t.length).filter fun l => idB t l))
theorem idsL_mem {t : List (List Int)} {l : List Int} : l ∈ idsL t ↔ IdL t l := by
  unfold idsL
  rw [srt_mem, mem_firsts, List.mem_filter, idB_true]
  exact ⟨fun h => h.2, fun h => ⟨allSets_mem h.self, h⟩⟩
theorem idsL_srt (t : List (List Int)) : Srt cmpS (idsL t) := srt_srt cmpS_tot (firsts_nodup _)
theorem ids_le {t : List (List Int)} {F : List (List Int)} (hn : F.Nodup) (hF : ∀ l ∈ F, IdL t l) (ht : t.length ≤ 9) : F.length ≤ 512 := by
  have h1 : F.length ≤ (allSets t.length).length := hn.length_le_of_subset fun l hl => allSets_mem (hF l hl).self
  have h2 : (allSets t.length).length = 2 ^ t.length := by simp [allSets]
  have h3 : 2 ^ t.length ≤ 2 ^ 9 := Nat.pow_le_pow_right (by decide) ht
  omega
theorem idsL_of {t : List (List Int)} {F : List (List Int)} (hn : F.Nodup) (hF : ∀ l, l ∈ F ↔ IdL t l) : srt cmpS F = idsL t :=
  srt_of cmpS_tot hn (idsL_srt t) fun l => by rw [hF, idsL_mem]

/-! ### Sets as words -/

end Go.Proofs.YtdjbbjjmjopofaaGreat
