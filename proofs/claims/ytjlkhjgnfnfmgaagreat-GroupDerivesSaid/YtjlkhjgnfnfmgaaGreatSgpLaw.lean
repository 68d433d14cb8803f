import Derived.Test.YtjlkhjgnfnfmgaaGreatOrd
import Derived.Test.YtjlkhjgnfnfmgaaGreatPart
section
/- All ideals of a small table: plain. Sets as a word of bits. -/
namespace Go.Proofs.YtjlkhjgnfnfmgaaGreat
open Go Go.AM
open Classical
theorem pairwise_adj {l : List Int} (h : Asc l) : l.Pairwise (· < ·) := by
  rw [List.pairwise_iff_getElem]
  have key : ∀ d i, i + d + 1 < l.length → l.getD i 0 < l.getD (i + d + 1) 0 := by
    intro d
    induction d with
    | zero => intro i hi; exact h i hi
    | succ d ih => intro i hi; have h1 := ih i (by omega); have h2 := h (i + d + 1) (by omega); rw [show i + (d + 1) + 1 = i + d + 1 + 1 by omega]; omega
  intro i j hi hj hij
  have := key (j - i - 1) i (by omega)
  rw [show i + (j - i - 1) + 1 = j by omega, getD_eq hi, getD_eq hj] at this
  exact this
theorem asc_of {l : List Int} (h : l.Pairwise (· < ·)) : Asc l := fun i hi => by
  rw [getD_eq (by omega), getD_eq hi]
  exact List.pairwise_iff_getElem.1 h i (i + 1) (by omega) hi (by omega)
theorem asc_ext {l m : List Int} (hl : Asc l) (hm : Asc m) (h : ∀ x, x ∈ l ↔ x ∈ m) : l = m := by
  have c : ∀ a b : Int, cmpI a b < 0 ↔ a < b := fun a b => by unfold cmpI; split <;> (try split) <;> omega
  exact sorted_uniq cmpI_tot ((pairwise_adj hl).imp fun hab => (c _ _).2 hab) ((pairwise_adj hm).imp fun hab => (c _ _).2 hab) h
theorem ascV_asc (n : Nat) (f : Nat → Bool) : Asc (ascV n f) := by
  refine asc_of ?_
  unfold ascV memV memTo
  rw [List.pairwise_map]
  refine List.Pairwise.imp ?_ (List.Pairwise.sublist List.filter_sublist List.pairwise_lt_range)
  intro a b h; exact_mod_cast h
theorem ascV_in {n : Nat} {f : Nat → Bool} {x : Int} (h : x ∈ ascV n f) : 0 ≤ x ∧ x < (n : Int) := by
  obtain ⟨i, h1, _, rfl⟩ := ascV_mem.1 h; omega
theorem ascV_self {n : Nat} {l : List Int} (h : Asc l) (hl : ∀ x ∈ l, 0 ≤ x ∧ x < (n : Int)) : ascV n (setI l) = l := by
  refine asc_ext (ascV_asc _ _) h fun x => ?_
  rw [ascV_mem]
  constructor
  · rintro ⟨i, _, h2, rfl⟩; exact setI_iff.1 h2
  · intro hx
    have := hl x hx
    exact ⟨x.toNat, by omega, setI_iff.2 (by rw [Int.toNat_of_nonneg this.1]; exact hx), by omega⟩
/-! ### The list of all ideals -/
theorem bits_of (f : Nat → Bool) : ∀ n, ∃ m, m < 2 ^ n ∧ ∀ i, i < n → m.testBit i = f i
  | 0 => ⟨0, by simp, fun i hi => absurd hi (Nat.not_lt_zero _)⟩
  | n + 1 => by
    obtain ⟨m, h1, h2⟩ := bits_of f n
    cases hf : f n with
    | false =>
      refine ⟨m, by rw [Nat.pow_succ]; omega, fun i hi => ?_⟩
      by_cases e : i = n
      · subst e; rw [Nat.testBit_lt_two_pow h1, hf]
      · exact h2 i (by omega)
    | true =>
      refine ⟨2 ^ n + m, by rw [Nat.pow_succ]; omega, fun i hi => ?_⟩
      by_cases e : i = n
      · subst e
        rw [Nat.testBit_two_pow_add_eq, Nat.testBit_lt_two_pow h1, hf]; rfl
      · rw [Nat.testBit_two_pow_add_gt (by omega)]; exact h2 i (by omega)
def allSets (n : Nat) : List (List Int) := (List.range (2 ^ n)).map fun m => ascV n m.testBit
theorem allSets_mem {n : Nat} {l : List Int} (h : ascV n (setI l) = l) : l ∈ allSets n := by
  obtain ⟨m, h1, h2⟩ := bits_of (setI l) n
  exact List.mem_map.2 ⟨m, List.mem_range.2 h1, by rw [ascV_congr h2, h]⟩
/-! ### Sets as words -/
def wd (f : Nat → Bool) : Nat → Nat | 0 => 0 | k + 1 => if f k then wd f k ||| 2 ^ k else wd f k
theorem wd_bit (f : Nat → Bool) : ∀ k x, (wd f k).testBit x = (decide (x < k) && f x)
  | 0, x => by simp [wd]
  | k + 1, x => by
    have ih := wd_bit f k x
    simp only [wd]
    by_cases hk : f k = true
    · rw [if_pos hk, Nat.testBit_or, ih, Nat.testBit_two_pow]
      by_cases e : k = x
      · subst e; simp [hk]
      · simp only [e, decide_false, Bool.or_false]
        congr 1
        exact decide_eq_decide.2 (by omega)
    · rw [if_neg hk, ih]
      by_cases e : x = k
      · subst e; simp [hk]
      · congr 1
        exact decide_eq_decide.2 (by omega)
theorem wd_lt (f : Nat → Bool) (k : Nat) : wd f k < 2 ^ k := Nat.lt_pow_two_of_testBit _ fun i hi => by rw [wd_bit]; simp; omega
theorem wd_ok (f : Nat → Bool) {k : Nat} (hk : k ≤ 63) : isW ((wd f k : Nat) : Int) := by
  have h1 := wd_lt f k
  have h2 : 2 ^ k ≤ 2 ^ 63 := Nat.pow_le_pow_right (by decide) hk
  constructor
  · omega
  · show ((wd f k : Nat) : Int) ≤ 18446744073709551615
    omega
theorem wd_inj {f g : Nat → Bool} {k : Nat} (h : wd f k = wd g k) : ∀ x, x < k → f x = g x := fun x hx => by
  have := congrArg (fun w => w.testBit x) h
  simpa [wd_bit, hx] using this
theorem wd_congr {f g : Nat → Bool} {k : Nat} (h : ∀ x, x < k → f x = g x) : wd f k = wd g k := Nat.eq_of_testBit_eq fun x => by
  rw [wd_bit, wd_bit]
  by_cases hx : x < k
  · rw [h x hx]
  · simp [hx]
theorem wd_add (f : Nat → Bool) {k : Nat} (hk : k ≤ 62) : orI .u64 ((wd f k : Nat) : Int) (shlI .u64 1 ((k : Nat) : Int)) = ((wd f k ||| 2 ^ k : Nat) : Int) := by
  rw [one_shl (by omega), or_w (wd_ok f (by omega)) ⟨Int.natCast_nonneg _, by
    have : 2 ^ k ≤ 2 ^ 62 := Nat.pow_le_pow_right (by decide) hk
    show ((2 ^ k : Nat) : Int) ≤ 18446744073709551615
    omega⟩, Int.toNat_natCast, Int.toNat_natCast]
def mkI (n : Nat) (s : List Int) : List Int := [((wd (setI s) n : Nat) : Int), 0, 0, 0, 0, 0, 0]
theorem mkI_inj {n : Nat} {a b : List Int} (ha : ascV n (setI a) = a) (hb : ascV n (setI b) = b) (h : mkI n a = mkI n b) : a = b := by
  unfold mkI at h
  have h : wd (setI a) n = wd (setI b) n := by injection h with h; omega
  rw [← ha, ← hb]
  exact ascV_congr (wd_inj h)
end Go.Proofs.YtjlkhjgnfnfmgaaGreat
end
section
/- The kernel is the least ideal; the lattice of ideals: plain. -/
namespace Go.Proofs.YtjlkhjgnfnfmgaaGreat
open Go Go.AM
theorem ascV_sub {n : Nat} {f g : Nat → Bool} (h : ∀ x, x < n → f x = true → g x = true) : (ascV n f).Sublist (ascV n g) := by
  unfold ascV memV memTo
  rw [setB_len, setB_len]
  refine List.Sublist.map _ ?_
  have e : (List.range n).filter (fun i => (setB n f).getD i false) = ((List.range n).filter (fun i => (setB n g).getD i false)).filter (fun i => (setB n f).getD i false) := by
    rw [List.filter_filter]
    refine List.filter_congr fun x hx => ?_
    have hx := List.mem_range.1 hx
    rw [setB_get hx, setB_get hx]
    cases e : f x
    · rfl
    · rw [h x hx e]; rfl
  rw [e]; exact List.filter_sublist
end Go.Proofs.YtjlkhjgnfnfmgaaGreat
end
section
/- The table of a part that is closed: plain. -/
namespace Go.Proofs.YtjlkhjgnfnfmgaaGreat
open Go Go.AM
structure ClL (t : List (List Int)) (l : List Int) : Prop where
  pos : 0 < l.length
  asc : Asc l
  ins : inT t l
  cl : ∀ x y, x < t.length → y < t.length → setI l x = true → setI l y = true → setI l (en t x y) = true
def eL (l : List Int) (i : Nat) : Nat := (l.getD i 0).toNat
theorem ClL.el {t : List (List Int)} {l : List Int} (h : ClL t l) {i : Nat} (hi : i < l.length) : eL l i < t.length ∧ l.getD i 0 = (eL l i : Int) ∧ setI l (eL l i) = true := by
  have hm := getD_mem (d := 0) hi
  have hr := h.ins _ hm
  unfold eL
  exact ⟨by omega, by omega, setI_iff.2 (by rw [Int.toNat_of_nonneg hr.1]; exact hm)⟩
end Go.Proofs.YtjlkhjgnfnfmgaaGreat
end
section
/- Plain: groups: the identity, inverses, powers and orders of elements. -/
namespace Go.Proofs.YtjlkhjgnfnfmgaaGreat
noncomputable def oneN (t : List (List Int)) : Nat := (idV t).toNat
noncomputable def invN (t : List (List Int)) (x : Nat) : Nat := open Classical in if h : ∃ y, y < t.length ∧ Inv t (oneN t) x y then Classical.choose h else 0
noncomputable def invL (t : List (List Int)) : List Int := (List.range t.length).map fun x => ((invN t x : Nat) : Int)
section
variable {t : List (List Int)}
theorem Grp.one (h : Grp t) : oneN t < t.length ∧ Neutral t (oneN t) ∧ idV t = (oneN t : Int) := by
  obtain ⟨e, he, hn, _⟩ := h.inv
  have := id_of he hn
  unfold oneN
  rw [this, Int.toNat_natCast]
  exact ⟨he, hn, rfl⟩
theorem Grp.ninv (h : Grp t) {x : Nat} (hx : x < t.length) : invN t x < t.length ∧ Inv t (oneN t) x (invN t x) := by
  obtain ⟨e, he, hn, hi⟩ := h.inv
  have e1 : oneN t = e := neutral_unique h.one.1 he h.one.2.1 hn
  have hex : ∃ y, y < t.length ∧ Inv t (oneN t) x y := by rw [e1]; exact hi x hx
  unfold invN
  rw [dif_pos hex]
  exact Classical.choose_spec hex
theorem Grp.inv_uniq (h : Grp t) {x y : Nat} (hx : x < t.length) (hy : y < t.length) (hr : en t x y = oneN t) : y = invN t x :=
  inv_right h.toSemi h.one.2.1 hx hy (h.ninv hx).1 (h.ninv hx).2 hr
theorem Grp.cancelR (h : Grp t) {a b c : Nat} (ha : a < t.length) (hb : b < t.length) (hc : c < t.length) (he : en t a c = en t b c) : a = b := by
  have hi := h.ninv hc
  have h1 := assoc3 h.assoc ha hc hi.1
  have h2 := assoc3 h.assoc hb hc hi.1
  rw [he, h2] at h1
  rw [hi.2.1, (h.one.2.1 a ha).2, (h.one.2.1 b hb).2] at h1
  exact h1.symm
theorem Grp.cancelL (h : Grp t) {a b c : Nat} (ha : a < t.length) (hb : b < t.length) (hc : c < t.length) (he : en t c a = en t c b) : a = b := by
  have hi := h.ninv hc
  have h1 := assoc3 h.assoc hi.1 hc ha
  have h2 := assoc3 h.assoc hi.1 hc hb
  rw [← he, ← h1] at h2
  rw [hi.2.2, (h.one.2.1 a ha).1, (h.one.2.1 b hb).1] at h2
  exact h2.symm
theorem invL_len : (invL t).length = t.length := by simp [invL]
theorem invL_get {x : Nat} (hx : x < t.length) : (invL t).getD x 0 = (invN t x : Int) := by simp [invL, List.getD, hx]
def pwN (t : List (List Int)) (x : Nat) : Nat → Nat
  | 0 => x | k + 1 => en t (pwN t x k) x
theorem pwN_lt (h : Semi t) {x : Nat} (hx : x < t.length) : ∀ k, pwN t x k < t.length
  | 0 => hx | k + 1 => (h.toSh.ent (pwN_lt h hx k) hx).2
theorem pwN_add (h : Semi t) {x : Nat} (hx : x < t.length) (i : Nat) : ∀ j, en t (pwN t x i) (pwN t x j) = pwN t x (i + j + 1)
  | 0 => rfl
  | j + 1 => by
    show en t (pwN t x i) (en t (pwN t x j) x) = en t (pwN t x (i + j + 1)) x
    rw [← assoc3 h.assoc (pwN_lt h hx i) (pwN_lt h hx j) hx, pwN_add h hx i j]
theorem pwN_eq (h : Grp t) {x i j : Nat} (hx : x < t.length) (hij : i < j) (he : pwN t x i = pwN t x j) : pwN t x (j - i - 1) = oneN t := by
  have h1 := pwN_add h.toSemi hx (j - i - 1) i
  rw [show j - i - 1 + i + 1 = j by omega, ← he] at h1
  exact h.cancelR (pwN_lt h.toSemi hx _) h.one.1 (pwN_lt h.toSemi hx i) (h1.trans (h.one.2.1 _ (pwN_lt h.toSemi hx i)).1.symm)
theorem ord_ex (h : Grp t) {x : Nat} (hx : x < t.length) : ∃ k, k < t.length ∧ pwN t x k = oneN t := by
  refine Classical.byContradiction fun hno => ?_
  have hne : ∀ k, k < t.length → pwN t x k ≠ oneN t := fun k hk he => hno ⟨k, hk, he⟩
  have hn : ((List.range (t.length + 1)).map (pwN t x)).Nodup := by
    refine List.pairwise_map.2 (List.nodup_range.imp_of_mem fun {a b} ha hb hab e => ?_)
    have ha := List.mem_range.1 ha
    have hb := List.mem_range.1 hb
    rcases Nat.lt_or_ge a b with hlt | hge
    · exact hne _ (by omega) (pwN_eq h hx hlt e)
    · have hab : a ≠ b := hab
      exact hne _ (by omega) (pwN_eq h hx (show b < a by omega) e.symm)
  have := hn.length_le_of_subset (l₂ := List.range t.length) fun y hy => by
    obtain ⟨k, _, rfl⟩ := List.mem_map.1 hy
    exact List.mem_range.2 (pwN_lt h.toSemi hx k)
  simp at this
  omega
theorem least_ex {p : Nat → Prop} : ∀ {n : Nat}, (∃ k, k < n ∧ p k) → ∃ k, k < n ∧ p k ∧ ∀ j, j < k → ¬ p j
  | 0, ⟨_, h, _⟩ => absurd h (Nat.not_lt_zero _)
  | n + 1, ⟨k, h1, h2⟩ => by
    by_cases h : ∃ k, k < n ∧ p k
    · obtain ⟨j, h3, h4, h5⟩ := least_ex h
      exact ⟨j, by omega, h4, h5⟩
    · refine ⟨k, h1, h2, fun j hj hp => h ⟨j, by omega, hp⟩⟩
noncomputable def ordN (t : List (List Int)) (x : Nat) : Nat := open Classical in if h : ∃ k, k < t.length ∧ pwN t x k = oneN t ∧ ∀ j, j < k → pwN t x j ≠ oneN t then Classical.choose h else 0
theorem ord_spec (h : Grp t) {x : Nat} (hx : x < t.length) : ordN t x < t.length ∧ pwN t x (ordN t x) = oneN t ∧ ∀ j, j < ordN t x → pwN t x j ≠ oneN t := by
  have hex : ∃ k, k < t.length ∧ pwN t x k = oneN t ∧ ∀ j, j < k → pwN t x j ≠ oneN t := least_ex (ord_ex h hx)
  unfold ordN
  rw [dif_pos hex]
  exact Classical.choose_spec hex
end
end Go.Proofs.YtjlkhjgnfnfmgaaGreat
end
section
/- Plain: subgroups, what elements generate, conjugates, cosets. -/
namespace Go.Proofs.YtjlkhjgnfnfmgaaGreat
theorem mk_least {t : List (List Int)} {l : List Int} {S : Nat → Prop} (hg : ∀ g ∈ l, S g.toNat) (hc : ∀ a b, S a → S b → S (en t a b)) {x : Nat} (m : Mk t l x) : S x := by
  induction m with
  | gen h => exact hg _ h
  | mul _ _ i1 i2 => exact hc _ _ i1 i2
noncomputable def genF (t : List (List Int)) (l : List Int) (x : Nat) : Bool := @decide (Mk t l x) (Classical.propDecidable _)
theorem genF_iff {t : List (List Int)} {l : List Int} {x : Nat} : genF t l x = true ↔ Mk t l x := by unfold genF; exact @decide_eq_true_iff _ (Classical.propDecidable _)
noncomputable def genL (t : List (List Int)) (l : List Int) : List Int := ascV t.length (genF t l)
theorem genF_congr {t : List (List Int)} {l m : List Int} (h : ∀ x, Mk t l x ↔ Mk t m x) : genF t l = genF t m := by
  funext x
  rw [Bool.eq_iff_iff, genF_iff, genF_iff]; exact h x
noncomputable def cjN (t : List (List Int)) (x y : Nat) : Nat := en t (en t x y) (invN t x)
abbrev allI (t : List (List Int)) : List Int := disI t.length
def NrmIn (t : List (List Int)) (whole sub : List Int) : Prop := ∀ x ∈ whole, ∀ h ∈ sub, setI sub (cjN t x.toNat h.toNat) = true
noncomputable def nrmB (t : List (List Int)) (whole sub : List Int) : Bool := @decide (NrmIn t whole sub) (Classical.propDecidable _)
theorem nrmB_true {t : List (List Int)} {whole sub : List Int} : nrmB t whole sub = true ↔ NrmIn t whole sub := by unfold nrmB; exact @decide_eq_true_iff _ (Classical.propDecidable _)
theorem nrmB_false {t : List (List Int)} {whole sub : List Int} : nrmB t whole sub = false ↔ ¬ NrmIn t whole sub := by unfold nrmB; exact @decide_eq_false_iff_not _ (Classical.propDecidable _)
noncomputable def clB (t : List (List Int)) (l : List Int) : Bool := @decide (ClL t l) (Classical.propDecidable _)
theorem clB_true {t : List (List Int)} {l : List Int} : clB t l = true ↔ ClL t l := by unfold clB; exact @decide_eq_true_iff _ (Classical.propDecidable _)
theorem clB_false {t : List (List Int)} {l : List Int} : clB t l = false ↔ ¬ ClL t l := by unfold clB; exact @decide_eq_false_iff_not _ (Classical.propDecidable _)
section
variable {t : List (List Int)}
theorem cjN_lt (h : Grp t) {x y : Nat} (hx : x < t.length) (hy : y < t.length) : cjN t x y < t.length := (h.toSh.ent (h.toSh.ent hx hy).2 (h.ninv hx).1).2
theorem gen_done (h : Grp t) {S : Nat → Prop} {used gens : List Int} (hlt : ∀ x, S x → x < t.length) (h1 : S (oneN t)) (hu : ∀ g ∈ used, g ∈ gens) (hin : ∀ g ∈ gens, 0 ≤ g ∧ g < (t.length : Int))
    (hcl : ∀ x, S x → ∀ g ∈ used, S (en t x g.toNat)) (hmk : ∀ x, S x → Mk t ((oneN t : Int) :: used) x) (hg : ∀ g ∈ gens, S g.toNat) (x : Nat) : S x ↔ Mk t ((oneN t : Int) :: gens) x := by
  have hs := h.toSemi
  constructor
  · intro hx
    refine (hmk x hx).mono fun g hg => ?_
    rcases List.mem_cons.1 hg with rfl | hg
    · exact List.mem_cons_self
    · exact List.mem_cons_of_mem _ (hu g hg)
  · intro m
    let R : Nat → Prop := fun y => y < t.length ∧ ∀ x, S x → S (en t x y)
    have r1 : R (oneN t) := ⟨h.one.1, fun x hx => by rw [(h.one.2.1 x (hlt x hx)).2]; exact hx⟩
    have rm : ∀ a b, R a → R b → R (en t a b) := fun a b ha hb => ⟨(hs.toSh.ent ha.1 hb.1).2, fun x hx => by
      rw [← assoc3 hs.assoc (hlt x hx) ha.1 hb.1]
      exact hb.2 _ (ha.2 x hx)⟩
    have ru : ∀ {y}, Mk t ((oneN t : Int) :: used) y → R y := fun m => mk_least (fun g hg => by
      rcases List.mem_cons.1 hg with rfl | hg
      · rw [Int.toNat_natCast]; exact r1
      · have := hin g (hu g hg)
        exact ⟨by omega, fun x hx => hcl x hx g hg⟩) rm m
    have rx : R x := mk_least (fun g hg' => by
      rcases List.mem_cons.1 hg' with rfl | hg'
      · rw [Int.toNat_natCast]; exact r1
      · exact ru (hmk _ (hg g hg'))) rm m
    have := rx.2 _ h1
    rwa [(h.one.2.1 x rx.1).1] at this
/-! ### Subgroups -/
theorem ClL.pw {l : List Int} (h : ClL t l) (hs : Semi t) {x : Nat} (hx : x < t.length) (hm : setI l x = true) : ∀ k, setI l (pwN t x k) = true
  | 0 => hm
  | k + 1 => h.cl _ _ (pwN_lt hs hx k) hx (h.pw hs hx hm k) hm
theorem ClL.lt {l : List Int} (h : ClL t l) {x : Nat} (hm : setI l x = true) : x < t.length := by have := h.ins _ (setI_iff.1 hm); omega
theorem ClL.one {l : List Int} (h : ClL t l) (hg : Grp t) : setI l (oneN t) = true := by
  have h0 := h.el h.pos
  have := h.pw hg.toSemi h0.1 h0.2.2 (ordN t (eL l 0))
  rwa [(ord_spec hg h0.1).2.1] at this
theorem ClL.inv {l : List Int} (h : ClL t l) (hg : Grp t) {x : Nat} (hm : setI l x = true) : setI l (invN t x) = true := by
  have hx := h.lt hm
  have ho := ord_spec hg hx
  cases hk : ordN t x with
  | zero =>
    rw [hk] at ho
    have e : x = oneN t := ho.2.1
    have : x = invN t x := hg.inv_uniq hx hx (by
      rw [(congrArg (fun z => en t z x) e : en t x x = en t (oneN t) x), (hg.one.2.1 x hx).1]; exact e)
    rw [← this]; exact hm
  | succ k =>
    rw [hk] at ho
    have hp := pwN_lt hg.toSemi hx k
    have e : en t (pwN t x k) x = oneN t := ho.2.1
    have hi := hg.ninv hx
    have : pwN t x k = invN t x := hg.cancelR hp hi.1 hx (e.trans hi.2.2.symm)
    rw [← this]; exact h.pw hg.toSemi hx hm k
noncomputable def cosE (t : List (List Int)) (l : List Int) (x y : Nat) : Bool := setI l (en t (invN t x) y)
theorem inv_inv (h : Grp t) {x : Nat} (hx : x < t.length) : invN t (invN t x) = x := by
  have hi := h.ninv hx
  exact (h.inv_uniq hi.1 hx hi.2.2).symm
theorem inv_mul (h : Grp t) {x y : Nat} (hx : x < t.length) (hy : y < t.length) : invN t (en t x y) = en t (invN t y) (invN t x) := by
  have hi := h.ninv hx
  have hj := h.ninv hy
  have hs := h.toSh
  have hij := hs.ent hj.1 hi.1
  have hxy := hs.ent hx hy
  refine (h.inv_uniq hxy.2 hij.2 ?_).symm
  rw [assoc3 h.assoc hx hy hij.2, ← assoc3 h.assoc hy hj.1 hi.1, hj.2.1, (h.one.2.1 _ hi.1).1, hi.2.1]
theorem mul_inv_cancel (h : Grp t) {x y : Nat} (hx : x < t.length) (hy : y < t.length) : en t x (en t (invN t x) y) = y := by
  have hi := h.ninv hx
  rw [← assoc3 h.assoc hx hi.1 hy, hi.2.1, (h.one.2.1 y hy).1]
theorem inv_mul_cancel (h : Grp t) {x y : Nat} (hx : x < t.length) (hy : y < t.length) : en t (invN t x) (en t x y) = y := by
  have hi := h.ninv hx
  rw [← assoc3 h.assoc hi.1 hx hy, hi.2.2, (h.one.2.1 y hy).1]
theorem cosE_iff {l : List Int} (hg : Grp t) {x y : Nat} (hx : x < t.length) (hy : y < t.length) : cosE t l x y = true ↔ ∃ a, a < t.length ∧ setI l a = true ∧ en t x a = y := by
  constructor
  · intro h; exact ⟨_, (hg.toSh.ent (hg.ninv hx).1 hy).2, h, mul_inv_cancel hg hx hy⟩
  · rintro ⟨a, ha, hm, rfl⟩; unfold cosE; rw [inv_mul_cancel hg hx ha]; exact hm
theorem cos_symm {l : List Int} (h : ClL t l) (hg : Grp t) {x y : Nat} (hx : x < t.length) (hy : y < t.length) (e : cosE t l x y = true) : cosE t l y x = true := by
  have := h.inv hg e
  rw [inv_mul hg (hg.ninv hx).1 hy, inv_inv hg hx] at this
  exact this
theorem cos_pre {l : List Int} (h : ClL t l) (hg : Grp t) : Pre t.length (cosE t l) := pre_of
  (fun x hx => by unfold cosE; rw [(hg.ninv hx).2.2]; exact h.one hg)
  (fun x y z hx hy hz h1 h2 => by
    obtain ⟨a, ha, hm, rfl⟩ := (cosE_iff hg hx hy).1 h1
    obtain ⟨b, hb, hn, rfl⟩ := (cosE_iff hg hy hz).1 h2
    exact (cosE_iff hg hx hz).2 ⟨en t a b, (hg.toSh.ent ha hb).2, h.cl a b ha hb hm hn, (assoc3 hg.assoc hx ha hb).symm⟩)
noncomputable def cosL (t : List (List Int)) (l : List Int) : List Int := clsL t.length (cosE t l)
theorem cosL_len (t : List (List Int)) (l : List Int) : (cosL t l).length = t.length := clsL_len _ _
theorem cosL_iff {l : List Int} (h : ClL t l) (hg : Grp t) {x y : Nat} (hx : x < t.length) (hy : y < t.length) : (cosL t l).getD x 0 = (cosL t l).getD y 0 ↔ cosE t l x y = true := by
  unfold cosL
  rw [clsL_iff (cos_pre h hg) hx hy]
  exact ⟨fun h => h.1, fun e => ⟨e, cos_symm h hg hx hy e⟩⟩
end
/-! ### Generating, step by step -/
theorem getD_appl {l m : List Int} {k : Nat} (h : k < l.length) : (l ++ m).getD k 0 = l.getD k 0 := by simp [List.getD, List.getElem?_append_left h]
structure GenI (t : List (List Int)) (gens : List Int) (k : Nat) (I : List Bool) (r u : List Int) : Prop where
  len : I.length = t.length
  nd : r.Nodup
  mem : ∀ y, y < t.length → (I.getD y false = true ↔ (y : Int) ∈ r)
  ins : ∀ x ∈ r, 0 ≤ x ∧ x < (t.length : Int)
  one : (oneN t : Int) ∈ r
  use : ∀ g ∈ u, g ∈ gens.take k
  made : ∀ x ∈ r, Mk t ((oneN t : Int) :: u) x.toNat
theorem nodup_len {n : Nat} {l : List Int} (hn : l.Nodup) (h : ∀ x ∈ l, 0 ≤ x ∧ x < (n : Int)) : l.length ≤ n := by
  have := hn.length_le_of_subset (l₂ := disI n) fun x hx => mem_disI.2 (h x hx)
  rwa [disI_len] at this
section
variable {t : List (List Int)} {gens : List Int} {k : Nat} {I : List Bool} {r u : List Int}
theorem GenI.le (h : GenI t gens k I r u) : r.length ≤ t.length := nodup_len h.nd h.ins
theorem GenI.start (h : Grp t) : GenI t gens 0 ((List.replicate t.length false).set (oneN t) true) [(oneN t : Int)] [] := by
  have ho := h.one.1
  refine ⟨by simp, by simp, fun y hy => ?_, fun x hx => ?_, by simp, by simp, fun x hx => ?_⟩
  · by_cases e : y = oneN t
    · subst e; rw [getD_set_eq (by simpa using ho)]; simp
    · rw [getD_set_ne (Ne.symm e), rep_false]
      simp only [List.mem_singleton]
      exact ⟨fun h' => absurd h' (by simp), fun h' => absurd h' (by omega)⟩
  · rw [List.mem_singleton] at hx; omega
  · rw [List.mem_singleton] at hx; subst hx
    exact .gen (by simp)
theorem GenI.more (h : GenI t gens k I r u) (hk : k < gens.length) : GenI t gens (k + 1) I r (u ++ [gens.getD k 0]) := by
  have hm : gens.getD k 0 ∈ gens.take (k + 1) := by rw [take_get (d := 0) hk]; simp
  refine ⟨h.len, h.nd, h.mem, h.ins, h.one, fun g hg => ?_, fun x hx => (h.made x hx).mono fun g hg => ?_⟩
  · rcases List.mem_append.1 hg with hg | hg
    · rw [take_get (d := 0) hk]; exact List.mem_append_left _ (h.use g hg)
    · rw [List.mem_singleton] at hg; rw [hg]; exact hm
  · rcases List.mem_cons.1 hg with rfl | hg
    · exact List.mem_cons_self
    · exact List.mem_cons_of_mem _ (List.mem_append_left _ hg)
theorem GenI.skip (h : GenI t gens k I r u) (hk : k < gens.length) : GenI t gens (k + 1) I r u :=
  ⟨h.len, h.nd, h.mem, h.ins, h.one, fun g hg => by rw [take_get (d := 0) hk]; exact List.mem_append_left _ (h.use g hg), h.made⟩
theorem GenI.push (h : GenI t gens k I r u) (hs : Sh t) {i m : Nat} (hi : i < r.length) (hm : m < u.length) (hg : ∀ g ∈ gens, 0 ≤ g ∧ g < (t.length : Int)) (hn : I.getD (en t (r.getD i 0).toNat (u.getD m 0).toNat) false = false) :
    GenI t gens k (I.set (en t (r.getD i 0).toNat (u.getD m 0).toNat) true) (r ++ [((en t (r.getD i 0).toNat (u.getD m 0).toNat : Nat) : Int)]) u := by
  have hri := h.ins _ (getD_mem (d := 0) hi)
  have hum := hg _ (List.mem_of_mem_take (h.use _ (getD_mem (d := 0) hm)))
  have he := (hs.ent (x := (r.getD i 0).toNat) (y := (u.getD m 0).toNat) (by omega) (by omega)).2
  generalize hy : en t (r.getD i 0).toNat (u.getD m 0).toNat = y at hn he
  refine ⟨by rw [List.length_set]; exact h.len, ?_, fun z hz => ?_, fun x hx => ?_, List.mem_append_left _ h.one, h.use, fun x hx => ?_⟩
  · rw [List.nodup_append]
    refine ⟨h.nd, by simp, fun a ha b hb => ?_⟩
    rw [List.mem_singleton] at hb
    rintro rfl
    rw [hb] at ha
    have := (h.mem y he).2 ha
    rw [hn] at this; cases this
  · rw [List.mem_append, List.mem_singleton]
    have hl := h.len
    by_cases e : z = y
    · subst e; rw [getD_set_eq (by omega)]; simp
    · rw [getD_set_ne (Ne.symm e), h.mem z hz]
      exact ⟨.inl, fun hh => hh.resolve_right fun e' => e (by omega)⟩
  · rcases List.mem_append.1 hx with hx | hx
    · exact h.ins x hx
    · rw [List.mem_singleton] at hx; omega
  · rcases List.mem_append.1 hx with hx | hx
    · exact h.made x hx
    · rw [List.mem_singleton] at hx; subst hx
      rw [Int.toNat_natCast, ← hy]
      exact .mul (h.made _ (getD_mem hi)) (.gen (List.mem_cons_of_mem _ (getD_mem hm)))
theorem GenI.done (h : GenI t gens k I r u) (hgr : Grp t) (hk : gens.length ≤ k) (hg : ∀ g ∈ gens, 0 ≤ g ∧ g < (t.length : Int)) (hc : ∀ x ∈ r, ∀ g ∈ u, ((en t x.toNat g.toNat : Nat) : Int) ∈ r) (ha : ∀ g ∈ gens.take k, g ∈ r) : I = setB t.length (genF t ((oneN t : Int) :: gens)) := by
  refine setB_ofP h.len fun y hy => ?_
  rw [h.mem y hy, genF_iff]
  have htk : gens.take k = gens := List.take_of_length_le hk
  rw [htk] at ha
  have hu : ∀ g ∈ u, g ∈ gens := fun g hg => List.mem_of_mem_take (h.use g hg)
  refine gen_done hgr (S := fun x => (x : Int) ∈ r) (used := u) (fun x hx => by have := h.ins _ hx; omega) h.one hu hg (fun x hx g hgu => by have := hc _ hx g hgu; rwa [Int.toNat_natCast] at this) (fun x hx => by have := h.made _ hx; rwa [Int.toNat_natCast] at this) (fun g hgg => ?_) y
  have := hg g hgg
  rw [Int.toNat_of_nonneg this.1]; exact ha g hgg
end
/-! ### What was collected -/
structure ColI (n : Nat) (I : List Bool) (c : List Int) : Prop where
  len : I.length = n
  nd : c.Nodup
  mem : ∀ y, y < n → (I.getD y false = true ↔ (y : Int) ∈ c)
  ins : ∀ x ∈ c, 0 ≤ x ∧ x < (n : Int)
section
variable {n : Nat} {I : List Bool} {c : List Int}
theorem ColI.le (h : ColI n I c) : c.length ≤ n := nodup_len h.nd h.ins
theorem ColI.start (n : Nat) : ColI n (List.replicate n false) [] := ⟨by simp, .nil, fun y hy => by rw [rep_false]; simp, fun x hx => by cases hx⟩
theorem ColI.push (h : ColI n I c) {y : Nat} (he : y < n) (hn : I.getD y false = false) : ColI n (I.set y true) (c ++ [(y : Int)]) := by
  refine ⟨by rw [List.length_set]; exact h.len, ?_, fun z hz => ?_, fun x hx => ?_⟩
  · rw [List.nodup_append]
    refine ⟨h.nd, by simp, fun a ha b hb => ?_⟩
    rw [List.mem_singleton] at hb
    rintro rfl
    rw [hb] at ha
    have := (h.mem y he).2 ha
    rw [hn] at this; cases this
  · rw [List.mem_append, List.mem_singleton]
    have hl := h.len
    by_cases e : z = y
    · subst e; rw [getD_set_eq (by omega)]; simp
    · rw [getD_set_ne (Ne.symm e), h.mem z hz]
      exact ⟨.inl, fun hh => hh.resolve_right fun e' => e (by omega)⟩
  · rcases List.mem_append.1 hx with hx | hx
    · exact h.ins x hx
    · rw [List.mem_singleton] at hx; omega
end
theorem mk_same {t : List (List Int)} {l m : List Int} (h : ∀ x, x ∈ l ↔ x ∈ m) (x : Nat) : Mk t l x ↔ Mk t m x := ⟨fun k => k.mono fun a ha => (h a).1 ha, fun k => k.mono fun a ha => (h a).2 ha⟩
noncomputable def cjL (t : List (List Int)) (whole gens : List Int) : List Int := gens.flatMap fun g => whole.map fun x => ((cjN t x.toNat g.toNat : Nat) : Int)
theorem mem_cjL {t : List (List Int)} {whole gens : List Int} {y : Int} : y ∈ cjL t whole gens ↔ ∃ g ∈ gens, ∃ x ∈ whole, y = ((cjN t x.toNat g.toNat : Nat) : Int) := by
  unfold cjL
  simp only [List.mem_flatMap, List.mem_map]
  exact ⟨fun ⟨g, hg, x, hx, e⟩ => ⟨g, hg, x, hx, e.symm⟩, fun ⟨g, hg, x, hx, e⟩ => ⟨g, hg, x, hx, e.symm⟩⟩
noncomputable def cmN (t : List (List Int)) (x y : Nat) : Nat := en t (cjN t x y) (invN t y)
noncomputable def cmL (t : List (List Int)) (whole : List Int) : List Int := whole.flatMap fun x => whole.map fun y => ((cmN t x.toNat y.toNat : Nat) : Int)
theorem mem_cmL {t : List (List Int)} {whole : List Int} {y : Int} : y ∈ cmL t whole ↔ ∃ a ∈ whole, ∃ b ∈ whole, y = ((cmN t a.toNat b.toNat : Nat) : Int) := by
  unfold cmL
  simp only [List.mem_flatMap, List.mem_map]
  exact ⟨fun ⟨g, hg, x, hx, e⟩ => ⟨g, hg, x, hx, e.symm⟩, fun ⟨g, hg, x, hx, e⟩ => ⟨g, hg, x, hx, e.symm⟩⟩
theorem cmN_lt {t : List (List Int)} (h : Grp t) {x y : Nat} (hx : x < t.length) (hy : y < t.length) : cmN t x y < t.length := (h.toSh.ent (cjN_lt h hx hy) (h.ninv hy).1).2
theorem cj_cj {t : List (List Int)} (h : Grp t) {x y g : Nat} (hx : x < t.length) (hy : y < t.length) (hg : g < t.length) : cjN t x (cjN t y g) = cjN t (en t x y) g := by
  have hs := h.toSh
  have ix := (h.ninv hx).1
  have iy := (h.ninv hy).1
  have hyg := (hs.ent hy hg).2
  have hxy := (hs.ent hx hy).2
  unfold cjN
  rw [inv_mul h hx hy, ← assoc3 h.assoc hx hyg iy, ← assoc3 h.assoc hx hy hg, assoc3 h.assoc (hs.ent hxy hg).2 iy ix]
noncomputable def cloF (t : List (List Int)) (whole gens : List Int) : Nat → Bool := genF t ((oneN t : Int) :: cjL t whole gens)
noncomputable def derF (t : List (List Int)) (whole : List Int) : Nat → Bool := genF t ((oneN t : Int) :: cmL t whole)
theorem allI_in (t : List (List Int)) : inT t (allI t) := fun _x hx => mem_disI.1 hx
theorem allI_set {t : List (List Int)} {x : Nat} : setI (allI t) x = true ↔ x < t.length := by
  rw [setI_iff, mem_disI]; omega
theorem allI_cl {t : List (List Int)} (h : Sh t) : ClL t (allI t) := by
  have hp := h.pos
  refine ⟨by rw [disI_len]; exact hp, fun i hi => ?_, allI_in t, fun x y hx hy _ _ => allI_set.2 (h.ent hx hy).2⟩
  rw [disI_len] at hi
  rw [disI_get (by omega), disI_get hi]; omega
/-! ### Closing under products, pass by pass -/
/-! ### The reference's lists -/
theorem cmN_self {t : List (List Int)} (h : Grp t) {x : Nat} (hx : x < t.length) : cmN t x x = oneN t := by
  have hi := h.ninv hx
  unfold cmN cjN
  rw [assoc3 h.assoc hx hx hi.1, hi.2.1, (h.one.2.1 x hx).2, hi.2.1]
theorem der_noone {t : List (List Int)} (h : Grp t) {w : List Int} (hw : inT t w) (h0 : 0 < w.length) : genF t (cmL t w) = derF t w := genF_congr (mk_same fun y => by
  rw [List.mem_cons]
  refine ⟨.inr, fun hh => hh.elim (fun e => ?_) id⟩
  have hx := hw _ (getD_mem (d := 0) h0)
  rw [mem_cmL]
  exact ⟨_, getD_mem (d := 0) h0, _, getD_mem (d := 0) h0, by rw [e, cmN_self h (by omega)]⟩)
end Go.Proofs.YtjlkhjgnfnfmgaaGreat
end
