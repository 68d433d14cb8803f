import Derived.Test.YtjlkhjgnfnfmgaaGreatLatLaw
import Derived.Test.YtjlkhjgnfnfmgaaGreatRefPart
section
/- The table of a part that is closed: plain. -/
namespace Go.Proofs.YtjlkhjgnfnfmgaaGreat
open Go Go.AM
structure ClL (t : List (List Int)) (l : List Int) : Prop where
  pos : 0 < l.length
  asc : Asc l
  ins : inT t l
  cl : ∀ x y, x < t.length → y < t.length → setI l x = true → setI l y = true → setI l (en t x y) = true
def eL (l : List Int) (i : Nat) : Nat := (l.getD i 0).toNat
theorem ClL.el {t : List (List Int)} {l : List Int} (h : ClL t l) {i : Nat} (hi : i < l.length) : eL l i < t.length ∧ l.getD i 0 = (eL l i : Int) ∧ setI l (eL l i) = true := by
  have hm := getD_mem (d := 0) hi
  have hr := h.ins _ hm
  unfold eL
  exact ⟨by omega, by omega, setI_iff.2 (by rw [Int.toNat_of_nonneg hr.1]; exact hm)⟩
end Go.Proofs.YtjlkhjgnfnfmgaaGreat
end
section
/- Plain: groups: the identity, inverses, powers and orders of elements. -/
namespace Go.Proofs.YtjlkhjgnfnfmgaaGreat
noncomputable def oneN (t : List (List Int)) : Nat := (idV t).toNat
noncomputable def invN (t : List (List Int)) (x : Nat) : Nat := open Classical in if h : ∃ y, y < t.length ∧ Inv t (oneN t) x y then Classical.choose h else 0
noncomputable def invL (t : List (List Int)) : List Int := (List.range t.length).map fun x => ((invN t x : Nat) : Int)
section
variable {t : List (List Int)}
theorem Grp.one (h : Grp t) : oneN t < t.length ∧ Neutral t (oneN t) ∧ idV t = (oneN t : Int) := by
  obtain ⟨e, he, hn, _⟩ := h.inv
  have := id_of he hn
  unfold oneN
  rw [this, Int.toNat_natCast]
  exact ⟨he, hn, rfl⟩
theorem Grp.ninv (h : Grp t) {x : Nat} (hx : x < t.length) : invN t x < t.length ∧ Inv t (oneN t) x (invN t x) := by
  obtain ⟨e, he, hn, hi⟩ := h.inv
  have e1 : oneN t = e := neutral_unique h.one.1 he h.one.2.1 hn
  have hex : ∃ y, y < t.length ∧ Inv t (oneN t) x y := by rw [e1]; exact hi x hx
  unfold invN
  rw [dif_pos hex]
  exact Classical.choose_spec hex
theorem Grp.inv_uniq (h : Grp t) {x y : Nat} (hx : x < t.length) (hy : y < t.length) (hr : en t x y = oneN t) : y = invN t x :=
  inv_right h.toSemi h.one.2.1 hx hy (h.ninv hx).1 (h.ninv hx).2 hr
theorem Grp.cancelR (h : Grp t) {a b c : Nat} (ha : a < t.length) (hb : b < t.length) (hc : c < t.length) (he : en t a c = en t b c) : a = b := by
  have hi := h.ninv hc
  have h1 := assoc3 h.assoc ha hc hi.1
  have h2 := assoc3 h.assoc hb hc hi.1
  rw [he, h2] at h1
  rw [hi.2.1, (h.one.2.1 a ha).2, (h.one.2.1 b hb).2] at h1
  exact h1.symm
theorem invL_len : (invL t).length = t.length := by simp [invL]
theorem invL_get {x : Nat} (hx : x < t.length) : (invL t).getD x 0 = (invN t x : Int) := by simp [invL, List.getD, hx]
def pwN (t : List (List Int)) (x : Nat) : Nat → Nat
  | 0 => x | k + 1 => en t (pwN t x k) x
theorem pwN_lt (h : Semi t) {x : Nat} (hx : x < t.length) : ∀ k, pwN t x k < t.length
  | 0 => hx | k + 1 => (h.toSh.ent (pwN_lt h hx k) hx).2
theorem pwN_add (h : Semi t) {x : Nat} (hx : x < t.length) (i : Nat) : ∀ j, en t (pwN t x i) (pwN t x j) = pwN t x (i + j + 1)
  | 0 => rfl
  | j + 1 => by
    show en t (pwN t x i) (en t (pwN t x j) x) = en t (pwN t x (i + j + 1)) x
    rw [← assoc3 h.assoc (pwN_lt h hx i) (pwN_lt h hx j) hx, pwN_add h hx i j]
theorem pwN_eq (h : Grp t) {x i j : Nat} (hx : x < t.length) (hij : i < j) (he : pwN t x i = pwN t x j) : pwN t x (j - i - 1) = oneN t := by
  have h1 := pwN_add h.toSemi hx (j - i - 1) i
  rw [show j - i - 1 + i + 1 = j by omega, ← he] at h1
  exact h.cancelR (pwN_lt h.toSemi hx _) h.one.1 (pwN_lt h.toSemi hx i) (h1.trans (h.one.2.1 _ (pwN_lt h.toSemi hx i)).1.symm)
theorem ord_ex (h : Grp t) {x : Nat} (hx : x < t.length) : ∃ k, k < t.length ∧ pwN t x k = oneN t := by
  refine Classical.byContradiction fun hno => ?_
  have hne : ∀ k, k < t.length → pwN t x k ≠ oneN t := fun k hk he => hno ⟨k, hk, he⟩
  have hn : ((List.range (t.length + 1)).map (pwN t x)).Nodup := by
    refine List.pairwise_map.2 (List.nodup_range.imp_of_mem fun {a b} ha hb hab e => ?_)
    have ha := List.mem_range.1 ha
    have hb := List.mem_range.1 hb
    rcases Nat.lt_or_ge a b with hlt | hge
    · exact hne _ (by omega) (pwN_eq h hx hlt e)
    · have hab : a ≠ b := hab
      exact hne _ (by omega) (pwN_eq h hx (show b < a by omega) e.symm)
  have := hn.length_le_of_subset (l₂ := List.range t.length) fun y hy => by
    obtain ⟨k, _, rfl⟩ := List.mem_map.1 hy
    exact List.mem_range.2 (pwN_lt h.toSemi hx k)
  simp at this
  omega
theorem least_ex {p : Nat → Prop} : ∀ {n : Nat}, (∃ k, k < n ∧ p k) → ∃ k, k < n ∧ p k ∧ ∀ j, j < k → ¬ p j
  | 0, ⟨_, h, _⟩ => absurd h (Nat.not_lt_zero _)
  | n + 1, ⟨k, h1, h2⟩ => by
    by_cases h : ∃ k, k < n ∧ p k
    · obtain ⟨j, h3, h4, h5⟩ := least_ex h
      exact ⟨j, by omega, h4, h5⟩
    · refine ⟨k, h1, h2, fun j hj hp => h ⟨j, by omega, hp⟩⟩
noncomputable def ordN (t : List (List Int)) (x : Nat) : Nat := open Classical in if h : ∃ k, k < t.length ∧ pwN t x k = oneN t ∧ ∀ j, j < k → pwN t x j ≠ oneN t then Classical.choose h else 0
theorem ord_spec (h : Grp t) {x : Nat} (hx : x < t.length) : ordN t x < t.length ∧ pwN t x (ordN t x) = oneN t ∧ ∀ j, j < ordN t x → pwN t x j ≠ oneN t := by
  have hex : ∃ k, k < t.length ∧ pwN t x k = oneN t ∧ ∀ j, j < k → pwN t x j ≠ oneN t := least_ex (ord_ex h hx)
  unfold ordN
  rw [dif_pos hex]
  exact Classical.choose_spec hex
end
end Go.Proofs.YtjlkhjgnfnfmgaaGreat
end
section
/- Plain: subgroups, what elements generate, conjugates, cosets. -/
namespace Go.Proofs.YtjlkhjgnfnfmgaaGreat
theorem mk_least {t : List (List Int)} {l : List Int} {S : Nat → Prop} (hg : ∀ g ∈ l, S g.toNat) (hc : ∀ a b, S a → S b → S (en t a b)) {x : Nat} (m : Mk t l x) : S x := by
  induction m with
  | gen h => exact hg _ h
  | mul _ _ i1 i2 => exact hc _ _ i1 i2
noncomputable def genF (t : List (List Int)) (l : List Int) (x : Nat) : Bool := @decide (Mk t l x) (Classical.propDecidable _)
theorem genF_iff {t : List (List Int)} {l : List Int} {x : Nat} : genF t l x = true ↔ Mk t l x := by unfold genF; exact @decide_eq_true_iff _ (Classical.propDecidable _)
noncomputable def genL (t : List (List Int)) (l : List Int) : List Int := ascV t.length (genF t l)
theorem genF_congr {t : List (List Int)} {l m : List Int} (h : ∀ x, Mk t l x ↔ Mk t m x) : genF t l = genF t m := by
  funext x
  rw [Bool.eq_iff_iff, genF_iff, genF_iff]; exact h x
noncomputable def cjN (t : List (List Int)) (x y : Nat) : Nat := en t (en t x y) (invN t x)
abbrev allI (t : List (List Int)) : List Int := disI t.length
def NrmIn (t : List (List Int)) (whole sub : List Int) : Prop := ∀ x ∈ whole, ∀ h ∈ sub, setI sub (cjN t x.toNat h.toNat) = true
noncomputable def nrmB (t : List (List Int)) (whole sub : List Int) : Bool := @decide (NrmIn t whole sub) (Classical.propDecidable _)
theorem nrmB_true {t : List (List Int)} {whole sub : List Int} : nrmB t whole sub = true ↔ NrmIn t whole sub := by unfold nrmB; exact @decide_eq_true_iff _ (Classical.propDecidable _)
theorem nrmB_false {t : List (List Int)} {whole sub : List Int} : nrmB t whole sub = false ↔ ¬ NrmIn t whole sub := by unfold nrmB; exact @decide_eq_false_iff_not _ (Classical.propDecidable _)
noncomputable def clB (t : List (List Int)) (l : List Int) : Bool := @decide (ClL t l) (Classical.propDecidable _)
theorem clB_true {t : List (List Int)} {l : List Int} : clB t l = true ↔ ClL t l := by unfold clB; exact @decide_eq_true_iff _ (Classical.propDecidable _)
theorem clB_false {t : List (List Int)} {l : List Int} : clB t l = false ↔ ¬ ClL t l := by unfold clB; exact @decide_eq_false_iff_not _ (Classical.propDecidable _)
section
variable {t : List (List Int)}
theorem cjN_lt (h : Grp t) {x y : Nat} (hx : x < t.length) (hy : y < t.length) : cjN t x y < t.length := (h.toSh.ent (h.toSh.ent hx hy).2 (h.ninv hx).1).2
theorem gen_done (h : Grp t) {S : Nat → Prop} {used gens : List Int} (hlt : ∀ x, S x → x < t.length) (h1 : S (oneN t)) (hu : ∀ g ∈ used, g ∈ gens) (hin : ∀ g ∈ gens, 0 ≤ g ∧ g < (t.length : Int))
    (hcl : ∀ x, S x → ∀ g ∈ used, S (en t x g.toNat)) (hmk : ∀ x, S x → Mk t ((oneN t : Int) :: used) x) (hg : ∀ g ∈ gens, S g.toNat) (x : Nat) : S x ↔ Mk t ((oneN t : Int) :: gens) x := by
  have hs := h.toSemi
  constructor
  · intro hx
    refine (hmk x hx).mono fun g hg => ?_
    rcases List.mem_cons.1 hg with rfl | hg
    · exact List.mem_cons_self
    · exact List.mem_cons_of_mem _ (hu g hg)
  · intro m
    let R : Nat → Prop := fun y => y < t.length ∧ ∀ x, S x → S (en t x y)
    have r1 : R (oneN t) := ⟨h.one.1, fun x hx => by rw [(h.one.2.1 x (hlt x hx)).2]; exact hx⟩
    have rm : ∀ a b, R a → R b → R (en t a b) := fun a b ha hb => ⟨(hs.toSh.ent ha.1 hb.1).2, fun x hx => by
      rw [← assoc3 hs.assoc (hlt x hx) ha.1 hb.1]
      exact hb.2 _ (ha.2 x hx)⟩
    have ru : ∀ {y}, Mk t ((oneN t : Int) :: used) y → R y := fun m => mk_least (fun g hg => by
      rcases List.mem_cons.1 hg with rfl | hg
      · rw [Int.toNat_natCast]; exact r1
      · have := hin g (hu g hg)
        exact ⟨by omega, fun x hx => hcl x hx g hg⟩) rm m
    have rx : R x := mk_least (fun g hg' => by
      rcases List.mem_cons.1 hg' with rfl | hg'
      · rw [Int.toNat_natCast]; exact r1
      · exact ru (hmk _ (hg g hg'))) rm m
    have := rx.2 _ h1
    rwa [(h.one.2.1 x rx.1).1] at this
/-! ### Subgroups -/
theorem ClL.pw {l : List Int} (h : ClL t l) (hs : Semi t) {x : Nat} (hx : x < t.length) (hm : setI l x = true) : ∀ k, setI l (pwN t x k) = true
  | 0 => hm
  | k + 1 => h.cl _ _ (pwN_lt hs hx k) hx (h.pw hs hx hm k) hm
theorem ClL.lt {l : List Int} (h : ClL t l) {x : Nat} (hm : setI l x = true) : x < t.length := by have := h.ins _ (setI_iff.1 hm); omega
theorem ClL.one {l : List Int} (h : ClL t l) (hg : Grp t) : setI l (oneN t) = true := by
  have h0 := h.el h.pos
  have := h.pw hg.toSemi h0.1 h0.2.2 (ordN t (eL l 0))
  rwa [(ord_spec hg h0.1).2.1] at this
theorem ClL.inv {l : List Int} (h : ClL t l) (hg : Grp t) {x : Nat} (hm : setI l x = true) : setI l (invN t x) = true := by
  have hx := h.lt hm
  have ho := ord_spec hg hx
  cases hk : ordN t x with
  | zero =>
    rw [hk] at ho
    have e : x = oneN t := ho.2.1
    have : x = invN t x := hg.inv_uniq hx hx (by
      rw [(congrArg (fun z => en t z x) e : en t x x = en t (oneN t) x), (hg.one.2.1 x hx).1]; exact e)
    rw [← this]; exact hm
  | succ k =>
    rw [hk] at ho
    have hp := pwN_lt hg.toSemi hx k
    have e : en t (pwN t x k) x = oneN t := ho.2.1
    have hi := hg.ninv hx
    have : pwN t x k = invN t x := hg.cancelR hp hi.1 hx (e.trans hi.2.2.symm)
    rw [← this]; exact h.pw hg.toSemi hx hm k
noncomputable def cosE (t : List (List Int)) (l : List Int) (x y : Nat) : Bool := setI l (en t (invN t x) y)
theorem inv_inv (h : Grp t) {x : Nat} (hx : x < t.length) : invN t (invN t x) = x := by
  have hi := h.ninv hx
  exact (h.inv_uniq hi.1 hx hi.2.2).symm
theorem inv_mul (h : Grp t) {x y : Nat} (hx : x < t.length) (hy : y < t.length) : invN t (en t x y) = en t (invN t y) (invN t x) := by
  have hi := h.ninv hx
  have hj := h.ninv hy
  have hs := h.toSh
  have hij := hs.ent hj.1 hi.1
  have hxy := hs.ent hx hy
  refine (h.inv_uniq hxy.2 hij.2 ?_).symm
  rw [assoc3 h.assoc hx hy hij.2, ← assoc3 h.assoc hy hj.1 hi.1, hj.2.1, (h.one.2.1 _ hi.1).1, hi.2.1]
theorem mul_inv_cancel (h : Grp t) {x y : Nat} (hx : x < t.length) (hy : y < t.length) : en t x (en t (invN t x) y) = y := by
  have hi := h.ninv hx
  rw [← assoc3 h.assoc hx hi.1 hy, hi.2.1, (h.one.2.1 y hy).1]
theorem inv_mul_cancel (h : Grp t) {x y : Nat} (hx : x < t.length) (hy : y < t.length) : en t (invN t x) (en t x y) = y := by
  have hi := h.ninv hx
  rw [← assoc3 h.assoc hi.1 hx hy, hi.2.2, (h.one.2.1 y hy).1]
theorem cosE_iff {l : List Int} (hg : Grp t) {x y : Nat} (hx : x < t.length) (hy : y < t.length) : cosE t l x y = true ↔ ∃ a, a < t.length ∧ setI l a = true ∧ en t x a = y := by
  constructor
  · intro h; exact ⟨_, (hg.toSh.ent (hg.ninv hx).1 hy).2, h, mul_inv_cancel hg hx hy⟩
  · rintro ⟨a, ha, hm, rfl⟩; unfold cosE; rw [inv_mul_cancel hg hx ha]; exact hm
theorem cos_symm {l : List Int} (h : ClL t l) (hg : Grp t) {x y : Nat} (hx : x < t.length) (hy : y < t.length) (e : cosE t l x y = true) : cosE t l y x = true := by
  have := h.inv hg e
  rw [inv_mul hg (hg.ninv hx).1 hy, inv_inv hg hx] at this
  exact this
theorem cos_pre {l : List Int} (h : ClL t l) (hg : Grp t) : Pre t.length (cosE t l) := pre_of
  (fun x hx => by unfold cosE; rw [(hg.ninv hx).2.2]; exact h.one hg)
  (fun x y z hx hy hz h1 h2 => by
    obtain ⟨a, ha, hm, rfl⟩ := (cosE_iff hg hx hy).1 h1
    obtain ⟨b, hb, hn, rfl⟩ := (cosE_iff hg hy hz).1 h2
    exact (cosE_iff hg hx hz).2 ⟨en t a b, (hg.toSh.ent ha hb).2, h.cl a b ha hb hm hn, (assoc3 hg.assoc hx ha hb).symm⟩)
noncomputable def cosL (t : List (List Int)) (l : List Int) : List Int := clsL t.length (cosE t l)
theorem cosL_len (t : List (List Int)) (l : List Int) : (cosL t l).length = t.length := clsL_len _ _
theorem cosL_iff {l : List Int} (h : ClL t l) (hg : Grp t) {x y : Nat} (hx : x < t.length) (hy : y < t.length) : (cosL t l).getD x 0 = (cosL t l).getD y 0 ↔ cosE t l x y = true := by
  unfold cosL
  rw [clsL_iff (cos_pre h hg) hx hy]
  exact ⟨fun h => h.1, fun e => ⟨e, cos_symm h hg hx hy e⟩⟩
end
/-! ### Generating, step by step -/
theorem getD_appl {l m : List Int} {k : Nat} (h : k < l.length) : (l ++ m).getD k 0 = l.getD k 0 := by simp [List.getD, List.getElem?_append_left h]
structure GenI (t : List (List Int)) (gens : List Int) (k : Nat) (I : List Bool) (r u : List Int) : Prop where
  len : I.length = t.length
  nd : r.Nodup
  mem : ∀ y, y < t.length → (I.getD y false = true ↔ (y : Int) ∈ r)
  ins : ∀ x ∈ r, 0 ≤ x ∧ x < (t.length : Int)
  one : (oneN t : Int) ∈ r
  use : ∀ g ∈ u, g ∈ gens.take k
  made : ∀ x ∈ r, Mk t ((oneN t : Int) :: u) x.toNat
theorem nodup_len {n : Nat} {l : List Int} (hn : l.Nodup) (h : ∀ x ∈ l, 0 ≤ x ∧ x < (n : Int)) : l.length ≤ n := by
  have := hn.length_le_of_subset (l₂ := disI n) fun x hx => mem_disI.2 (h x hx)
  rwa [disI_len] at this
section
variable {t : List (List Int)} {gens : List Int} {k : Nat} {I : List Bool} {r u : List Int}
theorem GenI.le (h : GenI t gens k I r u) : r.length ≤ t.length := nodup_len h.nd h.ins
theorem GenI.start (h : Grp t) : GenI t gens 0 ((List.replicate t.length false).set (oneN t) true) [(oneN t : Int)] [] := by
  have ho := h.one.1
  refine ⟨by simp, by simp, fun y hy => ?_, fun x hx => ?_, by simp, by simp, fun x hx => ?_⟩
  · by_cases e : y = oneN t
    · subst e; rw [getD_set_eq (by simpa using ho)]; simp
    · rw [getD_set_ne (Ne.symm e), rep_false]
      simp only [List.mem_singleton]
      exact ⟨fun h' => absurd h' (by simp), fun h' => absurd h' (by omega)⟩
  · rw [List.mem_singleton] at hx; omega
  · rw [List.mem_singleton] at hx; subst hx
    exact .gen (by simp)
theorem GenI.more (h : GenI t gens k I r u) (hk : k < gens.length) : GenI t gens (k + 1) I r (u ++ [gens.getD k 0]) := by
  have hm : gens.getD k 0 ∈ gens.take (k + 1) := by rw [take_get (d := 0) hk]; simp
  refine ⟨h.len, h.nd, h.mem, h.ins, h.one, fun g hg => ?_, fun x hx => (h.made x hx).mono fun g hg => ?_⟩
  · rcases List.mem_append.1 hg with hg | hg
    · rw [take_get (d := 0) hk]; exact List.mem_append_left _ (h.use g hg)
    · rw [List.mem_singleton] at hg; rw [hg]; exact hm
  · rcases List.mem_cons.1 hg with rfl | hg
    · exact List.mem_cons_self
    · exact List.mem_cons_of_mem _ (List.mem_append_left _ hg)
theorem GenI.skip (h : GenI t gens k I r u) (hk : k < gens.length) : GenI t gens (k + 1) I r u :=
  ⟨h.len, h.nd, h.mem, h.ins, h.one, fun g hg => by rw [take_get (d := 0) hk]; exact List.mem_append_left _ (h.use g hg), h.made⟩
theorem GenI.push (h : GenI t gens k I r u) (hs : Sh t) {i m : Nat} (hi : i < r.length) (hm : m < u.length) (hg : ∀ g ∈ gens, 0 ≤ g ∧ g < (t.length : Int)) (hn : I.getD (en t (r.getD i 0).toNat (u.getD m 0).toNat) false = false) :
    GenI t gens k (I.set (en t (r.getD i 0).toNat (u.getD m 0).toNat) true) (r ++ [((en t (r.getD i 0).toNat (u.getD m 0).toNat : Nat) : Int)]) u := by
  have hri := h.ins _ (getD_mem (d := 0) hi)
  have hum := hg _ (List.mem_of_mem_take (h.use _ (getD_mem (d := 0) hm)))
  have he := (hs.ent (x := (r.getD i 0).toNat) (y := (u.getD m 0).toNat) (by omega) (by omega)).2
  generalize hy : en t (r.getD i 0).toNat (u.getD m 0).toNat = y at hn he
  refine ⟨by rw [List.length_set]; exact h.len, ?_, fun z hz => ?_, fun x hx => ?_, List.mem_append_left _ h.one, h.use, fun x hx => ?_⟩
  · rw [List.nodup_append]
    refine ⟨h.nd, by simp, fun a ha b hb => ?_⟩
    rw [List.mem_singleton] at hb
    rintro rfl
    rw [hb] at ha
    have := (h.mem y he).2 ha
    rw [hn] at this; cases this
  · rw [List.mem_append, List.mem_singleton]
    have hl := h.len
    by_cases e : z = y
    · subst e; rw [getD_set_eq (by omega)]; simp
    · rw [getD_set_ne (Ne.symm e), h.mem z hz]
      exact ⟨.inl, fun hh => hh.resolve_right fun e' => e (by omega)⟩
  · rcases List.mem_append.1 hx with hx | hx
    · exact h.ins x hx
    · rw [List.mem_singleton] at hx; omega
  · rcases List.mem_append.1 hx with hx | hx
    · exact h.made x hx
    · rw [List.mem_singleton] at hx; subst hx
      rw [Int.toNat_natCast, ← hy]
      exact .mul (h.made _ (getD_mem hi)) (.gen (List.mem_cons_of_mem _ (getD_mem hm)))
theorem GenI.done (h : GenI t gens k I r u) (hgr : Grp t) (hk : gens.length ≤ k) (hg : ∀ g ∈ gens, 0 ≤ g ∧ g < (t.length : Int)) (hc : ∀ x ∈ r, ∀ g ∈ u, ((en t x.toNat g.toNat : Nat) : Int) ∈ r) (ha : ∀ g ∈ gens.take k, g ∈ r) : I = setB t.length (genF t ((oneN t : Int) :: gens)) := by
  refine setB_ofP h.len fun y hy => ?_
  rw [h.mem y hy, genF_iff]
  have htk : gens.take k = gens := List.take_of_length_le hk
  rw [htk] at ha
  have hu : ∀ g ∈ u, g ∈ gens := fun g hg => List.mem_of_mem_take (h.use g hg)
  refine gen_done hgr (S := fun x => (x : Int) ∈ r) (used := u) (fun x hx => by have := h.ins _ hx; omega) h.one hu hg (fun x hx g hgu => by have := hc _ hx g hgu; rwa [Int.toNat_natCast] at this) (fun x hx => by have := h.made _ hx; rwa [Int.toNat_natCast] at this) (fun g hgg => ?_) y
  have := hg g hgg
  rw [Int.toNat_of_nonneg this.1]; exact ha g hgg
end
/-! ### What was collected -/
structure ColI (n : Nat) (I : List Bool) (c : List Int) : Prop where
  len : I.length = n
  nd : c.Nodup
  mem : ∀ y, y < n → (I.getD y false = true ↔ (y : Int) ∈ c)
  ins : ∀ x ∈ c, 0 ≤ x ∧ x < (n : Int)
section
variable {n : Nat} {I : List Bool} {c : List Int}
theorem ColI.le (h : ColI n I c) : c.length ≤ n := nodup_len h.nd h.ins
theorem ColI.start (n : Nat) : ColI n (List.replicate n false) [] := ⟨by simp, .nil, fun y hy => by rw [rep_false]; simp, fun x hx => by cases hx⟩
theorem ColI.push (h : ColI n I c) {y : Nat} (he : y < n) (hn : I.getD y false = false) : ColI n (I.set y true) (c ++ [(y : Int)]) := by
  refine ⟨by rw [List.length_set]; exact h.len, ?_, fun z hz => ?_, fun x hx => ?_⟩
  · rw [List.nodup_append]
    refine ⟨h.nd, by simp, fun a ha b hb => ?_⟩
    rw [List.mem_singleton] at hb
    rintro rfl
    rw [hb] at ha
    have := (h.mem y he).2 ha
    rw [hn] at this; cases this
  · rw [List.mem_append, List.mem_singleton]
    have hl := h.len
    by_cases e : z = y
    · subst e; rw [getD_set_eq (by omega)]; simp
    · rw [getD_set_ne (Ne.symm e), h.mem z hz]
      exact ⟨.inl, fun hh => hh.resolve_right fun e' => e (by omega)⟩
  · rcases List.mem_append.1 hx with hx | hx
    · exact h.ins x hx
    · rw [List.mem_singleton] at hx; omega
end
theorem mk_same {t : List (List Int)} {l m : List Int} (h : ∀ x, x ∈ l ↔ x ∈ m) (x : Nat) : Mk t l x ↔ Mk t m x := ⟨fun k => k.mono fun a ha => (h a).1 ha, fun k => k.mono fun a ha => (h a).2 ha⟩
noncomputable def cjL (t : List (List Int)) (whole gens : List Int) : List Int := gens.flatMap fun g => whole.map fun x => ((cjN t x.toNat g.toNat : Nat) : Int)
theorem mem_cjL {t : List (List Int)} {whole gens : List Int} {y : Int} : y ∈ cjL t whole gens ↔ ∃ g ∈ gens, ∃ x ∈ whole, y = ((cjN t x.toNat g.toNat : Nat) : Int) := by
  unfold cjL
  simp only [List.mem_flatMap, List.mem_map]
  exact ⟨fun ⟨g, hg, x, hx, e⟩ => ⟨g, hg, x, hx, e.symm⟩, fun ⟨g, hg, x, hx, e⟩ => ⟨g, hg, x, hx, e.symm⟩⟩
noncomputable def cmN (t : List (List Int)) (x y : Nat) : Nat := en t (cjN t x y) (invN t y)
noncomputable def cmL (t : List (List Int)) (whole : List Int) : List Int := whole.flatMap fun x => whole.map fun y => ((cmN t x.toNat y.toNat : Nat) : Int)
theorem mem_cmL {t : List (List Int)} {whole : List Int} {y : Int} : y ∈ cmL t whole ↔ ∃ a ∈ whole, ∃ b ∈ whole, y = ((cmN t a.toNat b.toNat : Nat) : Int) := by
  unfold cmL
  simp only [List.mem_flatMap, List.mem_map]
  exact ⟨fun ⟨g, hg, x, hx, e⟩ => ⟨g, hg, x, hx, e.symm⟩, fun ⟨g, hg, x, hx, e⟩ => ⟨g, hg, x, hx, e.symm⟩⟩
theorem cmN_lt {t : List (List Int)} (h : Grp t) {x y : Nat} (hx : x < t.length) (hy : y < t.length) : cmN t x y < t.length := (h.toSh.ent (cjN_lt h hx hy) (h.ninv hy).1).2
theorem cj_cj {t : List (List Int)} (h : Grp t) {x y g : Nat} (hx : x < t.length) (hy : y < t.length) (hg : g < t.length) : cjN t x (cjN t y g) = cjN t (en t x y) g := by
  have hs := h.toSh
  have ix := (h.ninv hx).1
  have iy := (h.ninv hy).1
  have hyg := (hs.ent hy hg).2
  have hxy := (hs.ent hx hy).2
  unfold cjN
  rw [inv_mul h hx hy, ← assoc3 h.assoc hx hyg iy, ← assoc3 h.assoc hx hy hg, assoc3 h.assoc (hs.ent hxy hg).2 iy ix]
noncomputable def cloF (t : List (List Int)) (whole gens : List Int) : Nat → Bool := genF t ((oneN t : Int) :: cjL t whole gens)
noncomputable def derF (t : List (List Int)) (whole : List Int) : Nat → Bool := genF t ((oneN t : Int) :: cmL t whole)
theorem allI_in (t : List (List Int)) : inT t (allI t) := fun _x hx => mem_disI.1 hx
theorem allI_set {t : List (List Int)} {x : Nat} : setI (allI t) x = true ↔ x < t.length := by
  rw [setI_iff, mem_disI]; omega
theorem allI_cl {t : List (List Int)} (h : Sh t) : ClL t (allI t) := by
  have hp := h.pos
  refine ⟨by rw [disI_len]; exact hp, fun i hi => ?_, allI_in t, fun x y hx hy _ _ => allI_set.2 (h.ent hx hy).2⟩
  rw [disI_len] at hi
  rw [disI_get (by omega), disI_get hi]; omega
/-! ### Closing under products, pass by pass -/
/-! ### The reference's lists -/
end Go.Proofs.YtjlkhjgnfnfmgaaGreat
end
section
/- Plain: normal subgroups: closures, joins, how many subgroups a small group has, the list of all. -/
namespace Go.Proofs.YtjlkhjgnfnfmgaaGreat
structure NS (t : List (List Int)) (l : List Int) : Prop where
  cl : ClL t l
  nrm : NrmIn t (allI t) l
theorem ClL.self {t : List (List Int)} {l : List Int} (h : ClL t l) : ascV t.length (setI l) = l := ascV_self h.asc h.ins
noncomputable def nsB (t : List (List Int)) (l : List Int) : Bool := @decide (NS t l) (Classical.propDecidable _)
theorem nsB_true {t : List (List Int)} {l : List Int} : nsB t l = true ↔ NS t l := by unfold nsB; exact @decide_eq_true_iff _ (Classical.propDecidable _)
noncomputable def nsL (t : List (List Int)) : List (List Int) := srt cmpS (firsts ((allSets t.length).filter fun l => nsB t l))
theorem nsL_mem {t : List (List Int)} {l : List Int} : l ∈ nsL t ↔ NS t l := by
  unfold nsL
  rw [srt_mem, mem_firsts, List.mem_filter, nsB_true]
  exact ⟨fun h => h.2, fun h => ⟨allSets_mem h.cl.self, h⟩⟩
theorem nsL_srt (t : List (List Int)) : Srt cmpS (nsL t) := srt_srt cmpS_tot (firsts_nodup _)
section
variable {t : List (List Int)}
theorem asc_mem_ext {l m : List Int} (hl : ClL t l) (hm : ClL t m) (h : ∀ x, x < t.length → (setI l x = true ↔ setI m x = true)) : l = m := by
  rw [← hl.self, ← hm.self]
  exact ascV_congr fun x hx => Bool.eq_iff_iff.2 (h x hx)
theorem genL_set {l : List Int} {x : Nat} (hx : x < t.length) : setI (genL t l) x = true ↔ Mk t l x := by
  unfold genL; rw [ascV_set hx, genF_iff]
theorem genL_cl (hs : Sh t) {l : List Int} (hl : inT t l) (h0 : 0 < l.length) : ClL t (genL t l) := by
  refine ⟨?_, ascV_asc _ _, fun x hx => ascV_in hx, fun x y hx hy h1 h2 => ?_⟩
  · have hg := hl _ (getD_mem (d := 0) h0)
    have : setI (genL t l) (l.getD 0 0).toNat = true := (genL_set (by omega)).2 (.gen (getD_mem h0))
    exact List.length_pos_of_mem (setI_iff.1 this)
  · exact (genL_set (hs.ent hx hy).2).2 (.mul ((genL_set hx).1 h1) ((genL_set hy).1 h2))
theorem ClL.has {l m : List Int} (h : ClL t l) (hm : ∀ x ∈ m, x ∈ l) {x : Nat} (k : Mk t m x) : setI l x = true :=
  mk_least (S := fun x => setI l x = true) (fun g hg => by
    have := h.ins g (hm g hg)
    exact setI_iff.2 (by rw [Int.toNat_of_nonneg this.1]; exact hm g hg)) (fun a b ha hb => h.cl a b (h.lt ha) (h.lt hb) ha hb) k
theorem cj_one (h : Grp t) {x : Nat} (hx : x < t.length) : cjN t x (oneN t) = oneN t := by
  unfold cjN
  rw [(h.one.2.1 x hx).2, (h.ninv hx).2.1]
theorem one_cj (h : Grp t) {x : Nat} (hx : x < t.length) : cjN t (oneN t) x = x := by
  have e : invN t (oneN t) = oneN t := (h.inv_uniq h.one.1 h.one.1 (h.one.2.1 _ h.one.1).1).symm
  unfold cjN
  rw [(h.one.2.1 x hx).1, e, (h.one.2.1 x hx).2]
theorem cj_mul (h : Grp t) {x a b : Nat} (hx : x < t.length) (ha : a < t.length) (hb : b < t.length) : cjN t x (en t a b) = en t (cjN t x a) (cjN t x b) := by
  have hs := h.toSh
  have hi := (h.ninv hx)
  have hxa := (hs.ent hx ha).2
  have hxb := (hs.ent hx hb).2
  have hib := (hs.ent hi.1 (hs.ent hxb hi.1).2).2
  unfold cjN
  rw [assoc3 h.assoc hxa hi.1 (hs.ent hxb hi.1).2, assoc3 h.assoc hx hb hi.1, ← assoc3 h.assoc hi.1 hx (hs.ent hb hi.1).2, hi.2.2, (h.one.2.1 _ (hs.ent hb hi.1).2).1, ← assoc3 h.assoc hxa hb hi.1, assoc3 h.assoc hx ha hb]
theorem gen_nrm (h : Grp t) {l : List Int} (hl : inT t l) (hc : ∀ x g, x < t.length → g ∈ l → Mk t l (cjN t x g.toNat)) : NrmIn t (allI t) (genL t l) := fun x hx y hy => by
  have hx := mem_disI.1 hx
  have hy' := ascV_in hy
  have hxl : x.toNat < t.length := by omega
  have m : Mk t l y.toNat := (genL_set (by omega)).1 (setI_iff.2 (by rw [Int.toNat_of_nonneg hy'.1]; exact hy))
  have : y.toNat < t.length ∧ Mk t l (cjN t x.toNat y.toNat) := mk_least (S := fun y => y < t.length ∧ Mk t l (cjN t x.toNat y)) (fun g hg => by
    have := hl g hg
    exact ⟨by omega, hc _ g hxl hg⟩) (fun a b ha hb => ⟨(h.toSh.ent ha.1 hb.1).2, by rw [cj_mul h hxl ha.1 hb.1]; exact .mul ha.2 hb.2⟩) m
  exact (genL_set (cjN_lt h hxl this.1)).2 this.2
noncomputable abbrev cloL (t : List (List Int)) (g : List Int) : List Int := genL t ((oneN t : Int) :: cjL t (allI t) g)
theorem clo_in (h : Grp t) {g : List Int} (hg : inT t g) : inT t ((oneN t : Int) :: cjL t (allI t) g) := fun y hy => by
  rcases List.mem_cons.1 hy with rfl | hy
  · have := h.one.1; omega
  · obtain ⟨b, hb, a, ha, rfl⟩ := mem_cjL.1 hy
    have := mem_disI.1 ha
    have := hg b hb
    have := cjN_lt h (x := a.toNat) (y := b.toNat) (by omega) (by omega)
    omega
theorem clo_ns (h : Grp t) {g : List Int} (hg : inT t g) : NS t (cloL t g) := by
  have hin := clo_in h hg
  refine ⟨genL_cl h.toSh hin (by simp), gen_nrm h hin fun x y hx hy => ?_⟩
  rcases List.mem_cons.1 hy with rfl | hy
  · rw [Int.toNat_natCast, cj_one h hx]
    have := Mk.gen (t := t) (List.mem_cons_self (a := (oneN t : Int)) (l := cjL t (allI t) g))
    rwa [Int.toNat_natCast] at this
  · obtain ⟨b, hb, a, ha, rfl⟩ := mem_cjL.1 hy
    have ha := mem_disI.1 ha
    have hb' := hg b hb
    rw [Int.toNat_natCast, cj_cj h hx (by omega) (by omega)]
    have := Mk.gen (t := t) (List.mem_cons_of_mem (oneN t : Int) ((mem_cjL (t := t)).2 ⟨b, hb, ((en t x a.toNat : Nat) : Int), (mem_disI (n := t.length)).2 (by have := (h.toSh.ent hx (y := a.toNat) (by omega)).2; omega), rfl⟩))
    rwa [Int.toNat_natCast, Int.toNat_natCast] at this
theorem clo_has (h : Grp t) {g : List Int} (hg : inT t g) : ∀ x ∈ g, x ∈ cloL t g := fun x hx => by
  have hx' := hg x hx
  have : setI (cloL t g) x.toNat = true := (genL_set (by omega)).2 (by
    have := Mk.gen (t := t) (List.mem_cons_of_mem (oneN t : Int) ((mem_cjL (t := t)).2 ⟨x, hx, (oneN t : Int), (mem_disI (n := t.length)).2 (by have := h.one.1; omega), rfl⟩))
    rwa [Int.toNat_natCast, Int.toNat_natCast, one_cj h (by omega)] at this)
  have := setI_iff.1 this
  rwa [Int.toNat_of_nonneg hx'.1] at this
theorem NS.has_clo (h : Grp t) {l g : List Int} (hl : NS t l) (hg : ∀ x ∈ g, x ∈ l) : ∀ x, x < t.length → setI (cloL t g) x = true → setI l x = true := fun x hx hm => by
  refine hl.cl.has (m := (oneN t : Int) :: cjL t (allI t) g) (fun y hy => ?_) ((genL_set hx).1 hm)
  rcases List.mem_cons.1 hy with rfl | hy
  · exact setI_iff.1 (hl.cl.one h)
  · obtain ⟨b, hb, a, ha, rfl⟩ := mem_cjL.1 hy
    exact setI_iff.1 (hl.nrm a ha b (hg b hb))
theorem one_ns (h : Grp t) : NS t [(oneN t : Int)] := by
  have ho := h.one
  have he : ∀ {x}, setI [(oneN t : Int)] x = true ↔ x = oneN t := fun {x} => by rw [setI_iff, List.mem_singleton]; omega
  refine ⟨⟨by simp, fun i hi => by simp at hi, fun x hx => by rw [List.mem_singleton] at hx; omega, fun x y hx hy h1 h2 => ?_⟩, fun x hx y hy => ?_⟩
  · rw [he] at h1 h2 ⊢
    rw [h1, h2]; exact (ho.2.1 _ ho.1).1
  · rw [List.mem_singleton] at hy
    have := mem_disI.1 hx
    rw [hy, Int.toNat_natCast, cj_one h (by omega)]; exact he.2 rfl
/-! ### How many -/
end
end Go.Proofs.YtjlkhjgnfnfmgaaGreat
end
section
/- Plain: the derived series; greatest normal subgroups of a subgroup; simple groups. -/
namespace Go.Proofs.YtjlkhjgnfnfmgaaGreat
section
variable {t : List (List Int)}
theorem asc_sub_len {l m : List Int} (hl : ClL t l) (hm : ClL t m) (h : ∀ x, x < t.length → setI l x = true → setI m x = true) : l.length ≤ m.length ∧ (l.length = m.length → l = m) := by
  have hs : l.Sublist m := by
    have := ascV_sub (n := t.length) (f := setI l) (g := setI m) h
    rwa [hl.self, hm.self] at this
  exact ⟨hs.length_le, fun e => hs.eq_of_length e⟩
noncomputable abbrev derL (t : List (List Int)) (w : List Int) : List Int := ascV t.length (derF t w)
theorem der_in (h : Grp t) {w : List Int} (hw : inT t w) : inT t ((oneN t : Int) :: cmL t w) := fun y hy => by
  rcases List.mem_cons.1 hy with rfl | hy
  · have := h.one.1; omega
  · obtain ⟨a, ha, b, hb, rfl⟩ := mem_cmL.1 hy
    have := hw a ha
    have := hw b hb
    have := cmN_lt h (x := a.toNat) (y := b.toNat) (by omega) (by omega)
    omega
theorem der_cl (h : Grp t) {w : List Int} (hw : inT t w) : ClL t (derL t w) := genL_cl h.toSh (der_in h hw) (by simp)
theorem ClL.iset {l : List Int} (h : ClL t l) {x : Int} (hx : x ∈ l) : setI l x.toNat = true := setI_iff.2 (by rw [Int.toNat_of_nonneg (h.ins x hx).1]; exact hx)
theorem ClL.cj {w : List Int} (hw : ClL t w) (h : Grp t) {a b : Nat} (ha : setI w a = true) (hb : setI w b = true) : setI w (cjN t a b) = true := by
  have la := hw.lt ha
  have lb := hw.lt hb
  exact hw.cl _ _ (h.toSh.ent la lb).2 (h.ninv la).1 (hw.cl _ _ la lb ha hb) (hw.inv h ha)
theorem ClL.cm {w : List Int} (hw : ClL t w) (h : Grp t) {a b : Nat} (ha : setI w a = true) (hb : setI w b = true) : setI w (cmN t a b) = true := by
  have la := hw.lt ha
  have lb := hw.lt hb
  exact hw.cl _ _ (cjN_lt h la lb) (h.ninv lb).1 (hw.cj h ha hb) (hw.inv h hb)
theorem der_sub (h : Grp t) {w : List Int} (hw : ClL t w) : ∀ x, x < t.length → setI (derL t w) x = true → setI w x = true := fun x hx hm => by
  refine hw.has (m := (oneN t : Int) :: cmL t w) (fun y hy => ?_) ((genL_set hx).1 hm)
  rcases List.mem_cons.1 hy with rfl | hy
  · exact setI_iff.1 (hw.one h)
  · obtain ⟨a, ha, b, hb, rfl⟩ := mem_cmL.1 hy
    exact setI_iff.1 (hw.cm h (hw.iset ha) (hw.iset hb))
noncomputable def dS (t : List (List Int)) : Nat → List Int | 0 => allI t | k + 1 => derL t (dS t k)
theorem dS_cl (h : Grp t) : ∀ k, ClL t (dS t k)
  | 0 => allI_cl h.toSh
  | k + 1 => der_cl h (dS_cl h k).ins
theorem dS_le (h : Grp t) (k : Nat) : (dS t (k + 1)).length ≤ (dS t k).length ∧ ((dS t (k + 1)).length = (dS t k).length → dS t (k + 1) = dS t k) :=
  asc_sub_len (dS_cl h (k + 1)) (dS_cl h k) (der_sub h (dS_cl h k))
theorem dS_stop (h : Grp t) {k : Nat} (he : (dS t (k + 1)).length = (dS t k).length) : ∀ j, dS t (k + j) = dS t k
  | 0 => rfl
  | j + 1 => by
    have ih := dS_stop h he j
    show derL t (dS t (k + j)) = _
    rw [ih]
    exact (dS_le h k).2 he
theorem dS_one (h : Grp t) {k : Nat} (he : (dS t k).length = 1) : ∀ j, (dS t (k + j)).length = 1
  | 0 => he
  | j + 1 => by
    have ih := dS_one h he j
    have h1 := (dS_le h (k + j)).1
    have h2 := (dS_cl h (k + j + 1)).pos
    show (dS t (k + j + 1)).length = 1
    omega
noncomputable def solB (t : List (List Int)) : Bool := decide ((dS t t.length).length = 1)
/-! ### Greatest normal subgroups -/
def Gd (t : List (List Int)) (w s : List Int) (x : Nat) : Prop := ∀ y ∈ w, Mk t ((oneN t : Int) :: cjL t w (s ++ [(x : Int)])) y.toNat
def Mx (t : List (List Int)) (w s : List Int) : Prop := s.length ≠ w.length ∧ ∀ x ∈ w, x ∉ s → Gd t w s x.toNat
noncomputable def mxB (t : List (List Int)) (w s : List Int) : Bool := @decide (Mx t w s) (Classical.propDecidable _)
theorem mxB_true {w s : List Int} : mxB t w s = true ↔ Mx t w s := by unfold mxB; exact @decide_eq_true_iff _ (Classical.propDecidable _)
theorem mxB_false {w s : List Int} : mxB t w s = false ↔ ¬ Mx t w s := by unfold mxB; exact @decide_eq_false_iff_not _ (Classical.propDecidable _)
theorem cloW_in (h : Grp t) {w g : List Int} (hw : inT t w) (hg : inT t g) : inT t ((oneN t : Int) :: cjL t w g) := fun y hy => by
  rcases List.mem_cons.1 hy with rfl | hy
  · have := h.one.1; omega
  · obtain ⟨b, hb, a, ha, rfl⟩ := mem_cjL.1 hy
    have := hw a ha
    have := hg b hb
    have := cjN_lt h (x := a.toNat) (y := b.toNat) (by omega) (by omega)
    omega
theorem cloW_cl (h : Grp t) {w g : List Int} (hw : inT t w) (hg : inT t g) : ClL t (ascV t.length (cloF t w g)) := genL_cl h.toSh (cloW_in h hw hg) (by simp)
theorem cloW_sub (h : Grp t) {w g : List Int} (hw : ClL t w) (hg : ∀ x ∈ g, x ∈ w) : ∀ x, x < t.length → setI (ascV t.length (cloF t w g)) x = true → setI w x = true := fun x hx hm => by
  refine hw.has (m := (oneN t : Int) :: cjL t w g) (fun y hy => ?_) ((genL_set hx).1 hm)
  rcases List.mem_cons.1 hy with rfl | hy
  · exact setI_iff.1 (hw.one h)
  · obtain ⟨b, hb, a, ha, rfl⟩ := mem_cjL.1 hy
    exact setI_iff.1 (hw.cj h (hw.iset ha) (hw.iset (hg b hb)))
theorem gd_iff (h : Grp t) {w s : List Int} (hw : ClL t w) (hs : ∀ x ∈ s, x ∈ w) {x : Int} (hx : x ∈ w) : Gd t w s x.toNat ↔ (ascV t.length (cloF t w (s ++ [x]))).length = w.length := by
  have hx' := hw.ins x hx
  have hxc : ((x.toNat : Nat) : Int) = x := Int.toNat_of_nonneg hx'.1
  have hg : ∀ y ∈ s ++ [x], y ∈ w := fun y hy => (List.mem_append.1 hy).elim (hs y) fun hy => by rw [List.mem_singleton] at hy; rw [hy]; exact hx
  have hcl := cloW_cl h hw.ins (g := s ++ [x]) (fun y hy => hw.ins y (hg y hy))
  have hle := asc_sub_len hcl hw (cloW_sub h hw hg)
  unfold Gd
  rw [hxc]
  constructor
  · intro hall
    have := asc_sub_len hw hcl fun y hy hm => (genL_set hy).2 (by
      have := hall (y : Int) (setI_iff.1 hm)
      rwa [Int.toNat_natCast] at this)
    omega
  · intro he y hy
    have e := hle.2 he
    have hy' := hw.ins y hy
    refine (genL_set (t := t) (l := (oneN t : Int) :: cjL t w (s ++ [x])) (by omega)).1 ?_
    show setI (ascV t.length (cloF t w (s ++ [x]))) y.toNat = true
    rw [e]; exact hw.iset hy
theorem gd_coset (h : Grp t) {w s : List Int} (hw : ClL t w) (hs : ClL t s) {x a : Nat} (hx : x < t.length) (ha : setI s a = true) (hg : Gd t w s x) : Gd t w s (en t x a) := fun y hy => by
  have la := hs.lt ha
  have ia := h.ninv la
  have hai := hs.inv h ha
  have hxa := (h.toSh.ent hx la).2
  have gen : ∀ g ∈ s ++ [((en t x a : Nat) : Int)], ∀ b ∈ w, Mk t ((oneN t : Int) :: cjL t w (s ++ [((en t x a : Nat) : Int)])) (cjN t b.toNat g.toNat) := fun g hg b hb => by
    have := Mk.gen (t := t) (List.mem_cons_of_mem (oneN t : Int) ((mem_cjL (t := t)).2 ⟨g, hg, b, hb, rfl⟩))
    rwa [Int.toNat_natCast] at this
  refine mk_least (S := fun z => Mk t ((oneN t : Int) :: cjL t w (s ++ [((en t x a : Nat) : Int)])) z) (fun g hg' => ?_) (fun _ _ => .mul) (hg y hy)
  rcases List.mem_cons.1 hg' with rfl | hg'
  · exact .gen List.mem_cons_self
  · obtain ⟨g0, hg0, b, hb, rfl⟩ := mem_cjL.1 hg'
    rw [Int.toNat_natCast]
    rcases List.mem_append.1 hg0 with hg0 | hg0
    · exact gen g0 (List.mem_append_left _ hg0) b hb
    · rw [List.mem_singleton] at hg0
      subst hg0
      rw [Int.toNat_natCast]
      have hb' := hw.ins b hb
      have e : x = en t (en t x a) (invN t a) := by rw [assoc3 h.assoc hx la ia.1, ia.2.1, (h.one.2.1 x hx).2]
      have e2 : cjN t b.toNat x = en t (cjN t b.toNat (en t x a)) (cjN t b.toNat (invN t a)) := by
        rw [← cj_mul h (by omega) hxa ia.1, ← e]
      rw [e2]
      have m1 := gen ((en t x a : Nat) : Int) (by simp) b hb
      have m2 := gen ((invN t a : Nat) : Int) (List.mem_append_left _ (setI_iff.1 hai)) b hb
      rw [Int.toNat_natCast] at m1 m2
      exact .mul m1 m2
theorem all_ns (h : Grp t) : NS t (allI t) := ⟨allI_cl h.toSh, fun x hx y hy => allI_set.2 (by
  have := mem_disI.1 hx
  have := mem_disI.1 hy
  exact cjN_lt h (by omega) (by omega))⟩
theorem simple_iff (h : Grp t) : mxB t (allI t) [(oneN t : Int)] = decide ((nsL t).length = 2) := by
  have hnd := (nsL_srt t).nodup cmpS_tot
  have h1 := nsL_mem.2 (one_ns h)
  have h2 := nsL_mem.2 (all_ns h)
  have hal : (allI t).length = t.length := disI_len _
  have hp := h.pos
  have hset1 : ∀ {x}, setI [(oneN t : Int)] x = true ↔ x = oneN t := fun {x} => by rw [setI_iff, List.mem_singleton]; omega
  rw [Bool.eq_iff_iff, mxB_true, decide_eq_true_eq]
  constructor
  · rintro ⟨hne, hgd⟩
    have hne' : [(oneN t : Int)] ≠ allI t := fun e => hne (by rw [← e])
    have hsub : ∀ l ∈ nsL t, l ∈ [[(oneN t : Int)], allI t] := fun l hl => by
      have hl := nsL_mem.1 hl
      by_cases hex : ∃ x, setI l x = true ∧ x ≠ oneN t
      · obtain ⟨x, hx, hxo⟩ := hex
        have hxl := hl.cl.lt hx
        have hg := hgd (x : Int) (mem_disI.2 (by omega)) (by rw [List.mem_singleton]; omega)
        rw [Int.toNat_natCast] at hg
        have : l = allI t := asc_mem_ext hl.cl (all_ns h).cl fun y hy => ⟨fun _ => allI_set.2 hy, fun _ => by
          have m := hg (y : Int) (mem_disI.2 (by omega))
          rw [Int.toNat_natCast] at m
          refine hl.has_clo h (g := [(oneN t : Int)] ++ [(x : Int)]) (fun z hz => ?_) y hy ((genL_set hy).2 m)
          rcases List.mem_append.1 hz with hz | hz
          · rw [List.mem_singleton] at hz; rw [hz]; exact setI_iff.1 (hl.cl.one h)
          · rw [List.mem_singleton] at hz; rw [hz]; exact setI_iff.1 hx⟩
        rw [this]; simp
      · have : l = [(oneN t : Int)] := asc_mem_ext hl.cl (one_ns h).cl fun y hy => ⟨fun hm => hset1.2 (Classical.byContradiction fun hno => hex ⟨y, hm, hno⟩), fun hm => by rw [hset1.1 hm]; exact hl.cl.one h⟩
        rw [this]; simp
    have l1 := hnd.length_le_of_subset hsub
    have l2 := (List.nodup_cons.2 ⟨by simpa using hne', by simp⟩ : [[(oneN t : Int)], allI t].Nodup).length_le_of_subset (l₂ := nsL t) fun l hl => by
      rcases List.mem_cons.1 hl with rfl | hl
      · exact h1
      · rw [List.mem_singleton] at hl; rw [hl]; exact h2
    simp at l1 l2
    omega
  · intro he
    have hne : [(oneN t : Int)] ≠ allI t := fun e => by
      have hsub : ∀ l ∈ nsL t, l ∈ [allI t] := fun l hl => by
        have hl := nsL_mem.1 hl
        have hn1 : t.length = 1 := by rw [← hal, ← e]; rfl
        have : l = allI t := asc_mem_ext hl.cl (all_ns h).cl fun y hy => ⟨fun _ => allI_set.2 hy, fun _ => by
          have : y = oneN t := by have := h.one.1; omega
          rw [this]; exact hl.cl.one h⟩
        rw [this]; simp
      have := hnd.length_le_of_subset hsub
      simp at this; omega
    refine ⟨fun hl => hne ?_, fun x hx hxo => ?_⟩
    · exact (asc_sub_len (one_ns h).cl (all_ns h).cl fun y hy _ => allI_set.2 hy).2 hl
    · have hx' := mem_disI.1 hx
      have hxn : x.toNat ≠ oneN t := fun e => hxo (by rw [List.mem_singleton]; omega)
      have hgin : inT t ([(oneN t : Int)] ++ [x]) := fun z hz => by
        rcases List.mem_append.1 hz with hz | hz
        · rw [List.mem_singleton] at hz; have := h.one.1; omega
        · rw [List.mem_singleton] at hz; omega
      have hc := clo_ns h hgin
      have hc3 : cloL t ([(oneN t : Int)] ++ [x]) = allI t := Classical.byContradiction fun hno => by
        have hno1 : cloL t ([(oneN t : Int)] ++ [x]) ≠ [(oneN t : Int)] := fun e => by
          have := clo_has h hgin x (by simp)
          rw [e, List.mem_singleton] at this; omega
        have := (List.nodup_cons.2 ⟨by simp only [List.mem_cons, List.not_mem_nil, or_false, not_or]; exact ⟨hno1, hno⟩, List.nodup_cons.2 ⟨by simpa using hne, by simp⟩⟩ : [cloL t ([(oneN t : Int)] ++ [x]), [(oneN t : Int)], allI t].Nodup).length_le_of_subset (l₂ := nsL t) fun l hl => by
          rcases List.mem_cons.1 hl with rfl | hl
          · exact nsL_mem.2 hc
          · rcases List.mem_cons.1 hl with rfl | hl
            · exact h1
            · rw [List.mem_singleton] at hl; rw [hl]; exact h2
        simp at this; omega
      refine (gd_iff h (all_ns h).cl (fun y hy => mem_disI.2 ((one_ns h).cl.ins y hy)) hx).2 ?_
      show (cloL t ([(oneN t : Int)] ++ [x])).length = _
      rw [hc3]
end
end Go.Proofs.YtjlkhjgnfnfmgaaGreat
end
section
/- What is handed over as owned may be taken as read only. -/
namespace Go.Proofs.YtjlkhjgnfnfmgaaGreat
open Go Go.AM
theorem new_ro {f : FuncId} {args : List AV} {r : RO} (h : QF f args (.new r)) : QF f args (.ro r) := by
  refine ⟨h.1, fun M w vs hM hv => (h.2 M w vs hM hv).mono fun e w' ⟨v, he, hs, M', h1, h2, hr⟩ => ?_⟩
  obtain ⟨o, rfl, hV, hf⟩ := hr
  obtain ⟨e1, e2, e3, _, hb⟩ := hV
  refine ⟨_, he, hs, fun b off => M' b off ∧ o.blk ≠ some b, fun b off hlt => ?_, fun b off hm => h2 b off hm.1, ?_⟩
  · rw [← h1 b off hlt]
    exact ⟨fun hh => hh.1, fun hh => ⟨hh, fun e => by have := hf b e; omega⟩⟩
  · have hk : Keep w' M' w' fun b off => M' b off ∧ o.blk ≠ some b := fun b off c hc hn => ⟨hc, fun hh => hn hh.1⟩
    show RepRO w' _ r o.val
    cases ho : o.blk with
    | none =>
      rw [ho] at hb
      obtain ⟨b1, b2⟩ := hb
      exact ⟨e3, none, o.cap, by unfold Sl.val; rw [ho, e1]; rfl, by omega, .inl (by unfold RO.cells; rw [b1, Nat.zero_mul])⟩
    | some b =>
      rw [ho] at hb
      obtain ⟨b1, cs, ty, b2, b3, b4, b5⟩ := hb
      refine ⟨e3, some ⟨b, 0, none⟩, o.cap, by unfold Sl.val; rw [ho, e1]; rfl, by omega, .inr ⟨b, 0, rfl, fun q hq => ?_⟩⟩
      obtain ⟨c, c1, c2⟩ := b5 q hq
      have hkc : Keep w' M' w' fun b' off => M' b' off ∧ some b ≠ some b' := by rw [← ho]; exact hk
      exact ⟨c, by rw [cell_of_heap b2, Nat.zero_add]; exact c1, fun hh => hh.2 rfl, c2.keep hkc⟩
end Go.Proofs.YtjlkhjgnfnfmgaaGreat
end
