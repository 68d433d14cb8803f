import Derived.Test.YtpanlghofeebhaaGreatEqvLaw
import Derived.Test.YtpanlghofeebhaaGreatGrpLaw
/- Plain: subgroups, what elements generate, conjugates, cosets. -/
namespace Go.Proofs.YtpanlghofeebhaaGreat
theorem mk_least {t : List (List Int)} {l : List Int} {S : Nat → Prop} (hg : ∀ g ∈ l, S g.toNat) (hc : ∀ a b, S a → S b → S (en t a b)) {x : Nat} (m : Mk t l x) : S x := by
  induction m with
  | gen h => exact hg _ h
  | mul _ _ i1 i2 => exact hc _ _ i1 i2
noncomputable def genF (t : List (List Int)) (l : List Int) (x : Nat) : Bool := @decide (Mk t l x) (Classical.propDecidable _)
theorem genF_iff {t : List (List Int)} {l : List Int} {x : Nat} : genF t l x = true ↔ Mk t l x := by unfold genF; exact @decide_eq_true_iff _ (Classical.propDecidable _)
noncomputable def genL (t : List (List Int)) (l : List Int) : List Int := ascV t.length (genF t l)
theorem genF_congr {t : List (List Int)} {l m : List Int} (h : ∀ x, Mk t l x ↔ Mk t m x) : genF t l = genF t m := by
  funext x
  rw [Bool.eq_iff_iff, genF_iff, genF_iff]; exact h x
noncomputable def cjN (t : List (List Int)) (x y : Nat) : Nat := en t (en t x y) (invN t x)
abbrev allI (t : List (List Int)) : List Int := disI t.length
def NrmIn (t : List (List Int)) (whole sub : List Int) : Prop := ∀ x ∈ whole, ∀ h ∈ sub, setI sub (cjN t x.toNat h.toNat) = true
noncomputable def nrmB (t : List (List Int)) (whole sub : List Int) : Bool := @decide (NrmIn t whole sub) (Classical.propDecidable _)
theorem nrmB_true {t : List (List Int)} {whole sub : List Int} : nrmB t whole sub = true ↔ NrmIn t whole sub := by unfold nrmB; exact @decide_eq_true_iff _ (Classical.propDecidable _)
theorem nrmB_false {t : List (List Int)} {whole sub : List Int} : nrmB t whole sub = false ↔ ¬ NrmIn t whole sub := by unfold nrmB; exact @decide_eq_false_iff_not _ (Classical.propDecidable _)
noncomputable def clB (t : List (List Int)) (l : List Int) : Bool := @decide (ClL t l) (Classical.propDecidable _)
theorem clB_true {t : List (List Int)} {l : List Int} : clB t l = true ↔ ClL t l := by unfold clB; exact @decide_eq_true_iff _ (Classical.propDecidable _)
theorem clB_false {t : List (List Int)} {l : List Int} : clB t l = false ↔ ¬ ClL t l := by unfold clB; exact @decide_eq_false_iff_not _ (Classical.propDecidable _)
section
variable {t : List (List Int)}
theorem cjN_lt (h : Grp t) {x y : Nat} (hx : x < t.length) (hy : y < t.length) : cjN t x y < t.length := (h.toSh.ent (h.toSh.ent hx hy).2 (h.ninv hx).1).2
theorem gen_done (h : Grp t) {S : Nat → Prop} {used gens : List Int} (hlt : ∀ x, S x → x < t.length) (h1 : S (oneN t)) (hu : ∀ g ∈ used, g ∈ gens) (hin : ∀ g ∈ gens, 0 ≤ g ∧ g < (t.length : Int))
    (hcl : ∀ x, S x → ∀ g ∈ used, S (en t x g.toNat)) (hmk : ∀ x, S x → Mk t ((oneN t : Int) :: used) x) (hg : ∀ g ∈ gens, S g.toNat) (x : Nat) : S x ↔ Mk t ((oneN t : Int) :: gens) x := by
  have hs := h.toSemi
  constructor
  · intro hx
    refine (hmk x hx).mono fun g hg => ?_
    rcases List.mem_cons.1 hg with rfl | hg
    · exact List.mem_cons_self
    · exact List.mem_cons_of_mem _ (hu g hg)
  · intro m
    let R : Nat → Prop := fun y => y < t.length ∧ ∀ x, S x → S (en t x y)
    have r1 : R (oneN t) := ⟨h.one.1, fun x hx => by rw [(h.one.2.1 x (hlt x hx)).2]; exact hx⟩
    have rm : ∀ a b, R a → R b → R (en t a b) := fun a b ha hb => ⟨(hs.toSh.ent ha.1 hb.1).2, fun x hx => by
      rw [← assoc3 hs.assoc (hlt x hx) ha.1 hb.1]
      exact hb.2 _ (ha.2 x hx)⟩
    have ru : ∀ {y}, Mk t ((oneN t : Int) :: used) y → R y := fun m => mk_least (fun g hg => by
      rcases List.mem_cons.1 hg with rfl | hg
      · rw [Int.toNat_natCast]; exact r1
      · have := hin g (hu g hg)
        exact ⟨by omega, fun x hx => hcl x hx g hg⟩) rm m
    have rx : R x := mk_least (fun g hg' => by
      rcases List.mem_cons.1 hg' with rfl | hg'
      · rw [Int.toNat_natCast]; exact r1
      · exact ru (hmk _ (hg g hg'))) rm m
    have := rx.2 _ h1
    rwa [(h.one.2.1 x rx.1).1] at this
/-! ### Subgroups -/
theorem ClL.pw {l : List Int} (h : ClL t l) (hs : Semi t) {x : Nat} (hx : x < t.length) (hm : setI l x = true) : ∀ k, setI l (pwN t x k) = true
  | 0 => hm
  | k + 1 => h.cl _ _ (pwN_lt hs hx k) hx (h.pw hs hx hm k) hm
theorem ClL.lt {l : List Int} (h : ClL t l) {x : Nat} (hm : setI l x = true) : x < t.length := by have := h.ins _ (setI_iff.1 hm); omega
theorem ClL.one {l : List Int} (h : ClL t l) (hg : Grp t) : setI l (oneN t) = true := by
  have h0 := h.el h.pos
  have := h.pw hg.toSemi h0.1 h0.2.2 (ordN t (eL l 0))
  rwa [(ord_spec hg h0.1).2.1] at this
theorem ClL.inv {l : List Int} (h : ClL t l) (hg : Grp t) {x : Nat} (hm : setI l x = true) : setI l (invN t x) = true := by
  have hx := h.lt hm
  have ho := ord_spec hg hx
  cases hk : ordN t x with
  | zero =>
    rw [hk] at ho
    have e : x = oneN t := ho.2.1
    have : x = invN t x := hg.inv_uniq hx hx (by
      rw [(congrArg (fun z => en t z x) e : en t x x = en t (oneN t) x), (hg.one.2.1 x hx).1]; exact e)
    rw [← this]; exact hm
  | succ k =>
    rw [hk] at ho
    have hp := pwN_lt hg.toSemi hx k
    have e : en t (pwN t x k) x = oneN t := ho.2.1
    have hi := hg.ninv hx
    have : pwN t x k = invN t x := hg.cancelR hp hi.1 hx (e.trans hi.2.2.symm)
    rw [← this]; exact h.pw hg.toSemi hx hm k
noncomputable def cosE (t : List (List Int)) (l : List Int) (x y : Nat) : Bool := setI l (en t (invN t x) y)
theorem inv_inv (h : Grp t) {x : Nat} (hx : x < t.length) : invN t (invN t x) = x := by
  have hi := h.ninv hx
  exact (h.inv_uniq hi.1 hx hi.2.2).symm
theorem inv_mul (h : Grp t) {x y : Nat} (hx : x < t.length) (hy : y < t.length) : invN t (en t x y) = en t (invN t y) (invN t x) := by
  have hi := h.ninv hx
  have hj := h.ninv hy
  have hs := h.toSh
  have hij := hs.ent hj.1 hi.1
  have hxy := hs.ent hx hy
  refine (h.inv_uniq hxy.2 hij.2 ?_).symm
  rw [assoc3 h.assoc hx hy hij.2, ← assoc3 h.assoc hy hj.1 hi.1, hj.2.1, (h.one.2.1 _ hi.1).1, hi.2.1]
theorem mul_inv_cancel (h : Grp t) {x y : Nat} (hx : x < t.length) (hy : y < t.length) : en t x (en t (invN t x) y) = y := by
  have hi := h.ninv hx
  rw [← assoc3 h.assoc hx hi.1 hy, hi.2.1, (h.one.2.1 y hy).1]
theorem inv_mul_cancel (h : Grp t) {x y : Nat} (hx : x < t.length) (hy : y < t.length) : en t (invN t x) (en t x y) = y := by
  have hi := h.ninv hx
  rw [← assoc3 h.assoc hi.1 hx hy, hi.2.2, (h.one.2.1 y hy).1]
theorem cosE_iff {l : List Int} (hg : Grp t) {x y : Nat} (hx : x < t.length) (hy : y < t.length) : cosE t l x y = true ↔ ∃ a, a < t.length ∧ setI l a = true ∧ en t x a = y := by
  constructor
  · intro h; exact ⟨_, (hg.toSh.ent (hg.ninv hx).1 hy).2, h, mul_inv_cancel hg hx hy⟩
  · rintro ⟨a, ha, hm, rfl⟩; unfold cosE; rw [inv_mul_cancel hg hx ha]; exact hm
theorem cos_symm {l : List Int} (h : ClL t l) (hg : Grp t) {x y : Nat} (hx : x < t.length) (hy : y < t.length) (e : cosE t l x y = true) : cosE t l y x = true := by
  have := h.inv hg e
  rw [inv_mul hg (hg.ninv hx).1 hy, inv_inv hg hx] at this
  exact this
theorem cos_pre {l : List Int} (h : ClL t l) (hg : Grp t) : Pre t.length (cosE t l) := pre_of
  (fun x hx => by unfold cosE; rw [(hg.ninv hx).2.2]; exact h.one hg)
  (fun x y z hx hy hz h1 h2 => by
    obtain ⟨a, ha, hm, rfl⟩ := (cosE_iff hg hx hy).1 h1
    obtain ⟨b, hb, hn, rfl⟩ := (cosE_iff hg hy hz).1 h2
    exact (cosE_iff hg hx hz).2 ⟨en t a b, (hg.toSh.ent ha hb).2, h.cl a b ha hb hm hn, (assoc3 hg.assoc hx ha hb).symm⟩)
noncomputable def cosL (t : List (List Int)) (l : List Int) : List Int := clsL t.length (cosE t l)
theorem cosL_len (t : List (List Int)) (l : List Int) : (cosL t l).length = t.length := clsL_len _ _
theorem cosL_iff {l : List Int} (h : ClL t l) (hg : Grp t) {x y : Nat} (hx : x < t.length) (hy : y < t.length) : (cosL t l).getD x 0 = (cosL t l).getD y 0 ↔ cosE t l x y = true := by
  unfold cosL
  rw [clsL_iff (cos_pre h hg) hx hy]
  exact ⟨fun h => h.1, fun e => ⟨e, cos_symm h hg hx hy e⟩⟩
theorem genL_self {l : List Int} (h : ClL t l) : genL t l = l := by
  unfold genL
  rw [ascV_congr (g := setI l) fun x hx => ?_]
  · exact ascV_self h.asc h.ins
  · rw [Bool.eq_iff_iff, genF_iff]
    constructor
    · intro m
      have : x < t.length ∧ setI l x = true := mk_least (S := fun x => x < t.length ∧ setI l x = true) (fun g hg => ?_) (fun a b ha hb => ?_) m
      · exact this.2
      · have := h.ins g hg
        exact ⟨by omega, setI_iff.2 (by rw [Int.toNat_of_nonneg this.1]; exact hg)⟩
      · have := h.cl a b ha.1 hb.1 ha.2 hb.2
        exact ⟨h.lt this, this⟩
    · intro hm
      have := Mk.gen (t := t) (setI_iff.1 hm)
      rwa [Int.toNat_natCast] at this
theorem cl_of_gen (hs : Sh t) {l : List Int} (h0 : 0 < l.length) (ha : Asc l) (hin : inT t l) (h : genL t l = l) : ClL t l := by
  refine ⟨h0, ha, hin, fun x y hx hy h1 h2 => ?_⟩
  have g : ∀ {x}, setI l x = true → Mk t l x := fun {x} h1 => by
    have := Mk.gen (t := t) (setI_iff.1 h1)
    rwa [Int.toNat_natCast] at this
  have hxy := (hs.ent hx hy).2
  have : setI (genL t l) (en t x y) = true := by
    unfold genL
    rw [ascV_set hxy, genF_iff]
    exact .mul (g h1) (g h2)
  rwa [h] at this
end
/-! ### Generating, step by step -/
theorem getD_appl {l m : List Int} {k : Nat} (h : k < l.length) : (l ++ m).getD k 0 = l.getD k 0 := by simp [List.getD, List.getElem?_append_left h]
structure GenI (t : List (List Int)) (gens : List Int) (k : Nat) (I : List Bool) (r u : List Int) : Prop where
  len : I.length = t.length
  nd : r.Nodup
  mem : ∀ y, y < t.length → (I.getD y false = true ↔ (y : Int) ∈ r)
  ins : ∀ x ∈ r, 0 ≤ x ∧ x < (t.length : Int)
  one : (oneN t : Int) ∈ r
  use : ∀ g ∈ u, g ∈ gens.take k
  made : ∀ x ∈ r, Mk t ((oneN t : Int) :: u) x.toNat
theorem nodup_len {n : Nat} {l : List Int} (hn : l.Nodup) (h : ∀ x ∈ l, 0 ≤ x ∧ x < (n : Int)) : l.length ≤ n := by
  have := hn.length_le_of_subset (l₂ := disI n) fun x hx => mem_disI.2 (h x hx)
  rwa [disI_len] at this
section
variable {t : List (List Int)} {gens : List Int} {k : Nat} {I : List Bool} {r u : List Int}
theorem GenI.le (h : GenI t gens k I r u) : r.length ≤ t.length := nodup_len h.nd h.ins
theorem GenI.start (h : Grp t) : GenI t gens 0 ((List.replicate t.length false).set (oneN t) true) [(oneN t : Int)] [] := by
  have ho := h.one.1
  refine ⟨by simp, by simp, fun y hy => ?_, fun x hx => ?_, by simp, by simp, fun x hx => ?_⟩
  · by_cases e : y = oneN t
    · subst e; rw [getD_set_eq (by simpa using ho)]; simp
    · rw [getD_set_ne (Ne.symm e), rep_false]
      simp only [List.mem_singleton]
      exact ⟨fun h' => absurd h' (by simp), fun h' => absurd h' (by omega)⟩
  · rw [List.mem_singleton] at hx; omega
  · rw [List.mem_singleton] at hx; subst hx
    exact .gen (by simp)
theorem GenI.more (h : GenI t gens k I r u) (hk : k < gens.length) : GenI t gens (k + 1) I r (u ++ [gens.getD k 0]) := by
  have hm : gens.getD k 0 ∈ gens.take (k + 1) := by rw [take_get (d := 0) hk]; simp
  refine ⟨h.len, h.nd, h.mem, h.ins, h.one, fun g hg => ?_, fun x hx => (h.made x hx).mono fun g hg => ?_⟩
  · rcases List.mem_append.1 hg with hg | hg
    · rw [take_get (d := 0) hk]; exact List.mem_append_left _ (h.use g hg)
    · rw [List.mem_singleton] at hg; rw [hg]; exact hm
  · rcases List.mem_cons.1 hg with rfl | hg
    · exact List.mem_cons_self
    · exact List.mem_cons_of_mem _ (List.mem_append_left _ hg)
theorem GenI.skip (h : GenI t gens k I r u) (hk : k < gens.length) : GenI t gens (k + 1) I r u :=
  ⟨h.len, h.nd, h.mem, h.ins, h.one, fun g hg => by rw [take_get (d := 0) hk]; exact List.mem_append_left _ (h.use g hg), h.made⟩
theorem GenI.push (h : GenI t gens k I r u) (hs : Sh t) {i m : Nat} (hi : i < r.length) (hm : m < u.length) (hg : ∀ g ∈ gens, 0 ≤ g ∧ g < (t.length : Int)) (hn : I.getD (en t (r.getD i 0).toNat (u.getD m 0).toNat) false = false) :
    GenI t gens k (I.set (en t (r.getD i 0).toNat (u.getD m 0).toNat) true) (r ++ [((en t (r.getD i 0).toNat (u.getD m 0).toNat : Nat) : Int)]) u := by
  have hri := h.ins _ (getD_mem (d := 0) hi)
  have hum := hg _ (List.mem_of_mem_take (h.use _ (getD_mem (d := 0) hm)))
  have he := (hs.ent (x := (r.getD i 0).toNat) (y := (u.getD m 0).toNat) (by omega) (by omega)).2
  generalize hy : en t (r.getD i 0).toNat (u.getD m 0).toNat = y at hn he
  refine ⟨by rw [List.length_set]; exact h.len, ?_, fun z hz => ?_, fun x hx => ?_, List.mem_append_left _ h.one, h.use, fun x hx => ?_⟩
  · rw [List.nodup_append]
    refine ⟨h.nd, by simp, fun a ha b hb => ?_⟩
    rw [List.mem_singleton] at hb
    rintro rfl
    rw [hb] at ha
    have := (h.mem y he).2 ha
    rw [hn] at this; cases this
  · rw [List.mem_append, List.mem_singleton]
    have hl := h.len
    by_cases e : z = y
    · subst e; rw [getD_set_eq (by omega)]; simp
    · rw [getD_set_ne (Ne.symm e), h.mem z hz]
      exact ⟨.inl, fun hh => hh.resolve_right fun e' => e (by omega)⟩
  · rcases List.mem_append.1 hx with hx | hx
    · exact h.ins x hx
    · rw [List.mem_singleton] at hx; omega
  · rcases List.mem_append.1 hx with hx | hx
    · exact h.made x hx
    · rw [List.mem_singleton] at hx; subst hx
      rw [Int.toNat_natCast, ← hy]
      exact .mul (h.made _ (getD_mem hi)) (.gen (List.mem_cons_of_mem _ (getD_mem hm)))
theorem GenI.done (h : GenI t gens k I r u) (hgr : Grp t) (hk : gens.length ≤ k) (hg : ∀ g ∈ gens, 0 ≤ g ∧ g < (t.length : Int)) (hc : ∀ x ∈ r, ∀ g ∈ u, ((en t x.toNat g.toNat : Nat) : Int) ∈ r) (ha : ∀ g ∈ gens.take k, g ∈ r) : I = setB t.length (genF t ((oneN t : Int) :: gens)) := by
  refine setB_ofP h.len fun y hy => ?_
  rw [h.mem y hy, genF_iff]
  have htk : gens.take k = gens := List.take_of_length_le hk
  rw [htk] at ha
  have hu : ∀ g ∈ u, g ∈ gens := fun g hg => List.mem_of_mem_take (h.use g hg)
  refine gen_done hgr (S := fun x => (x : Int) ∈ r) (used := u) (fun x hx => by have := h.ins _ hx; omega) h.one hu hg (fun x hx g hgu => by have := hc _ hx g hgu; rwa [Int.toNat_natCast] at this) (fun x hx => by have := h.made _ hx; rwa [Int.toNat_natCast] at this) (fun g hgg => ?_) y
  have := hg g hgg
  rw [Int.toNat_of_nonneg this.1]; exact ha g hgg
end
/-! ### What was collected -/
structure ColI (n : Nat) (I : List Bool) (c : List Int) : Prop where
  len : I.length = n
  nd : c.Nodup
  mem : ∀ y, y < n → (I.getD y false = true ↔ (y : Int) ∈ c)
  ins : ∀ x ∈ c, 0 ≤ x ∧ x < (n : Int)
section
variable {n : Nat} {I : List Bool} {c : List Int}
theorem ColI.le (h : ColI n I c) : c.length ≤ n := nodup_len h.nd h.ins
theorem ColI.start (n : Nat) : ColI n (List.replicate n false) [] := ⟨by simp, .nil, fun y hy => by rw [rep_false]; simp, fun x hx => by cases hx⟩
theorem ColI.push (h : ColI n I c) {y : Nat} (he : y < n) (hn : I.getD y false = false) : ColI n (I.set y true) (c ++ [(y : Int)]) := by
  refine ⟨by rw [List.length_set]; exact h.len, ?_, fun z hz => ?_, fun x hx => ?_⟩
  · rw [List.nodup_append]
    refine ⟨h.nd, by simp, fun a ha b hb => ?_⟩
    rw [List.mem_singleton] at hb
    rintro rfl
    rw [hb] at ha
    have := (h.mem y he).2 ha
    rw [hn] at this; cases this
  · rw [List.mem_append, List.mem_singleton]
    have hl := h.len
    by_cases e : z = y
    · subst e; rw [getD_set_eq (by omega)]; simp
    · rw [getD_set_ne (Ne.symm e), h.mem z hz]
      exact ⟨.inl, fun hh => hh.resolve_right fun e' => e (by omega)⟩
  · rcases List.mem_append.1 hx with hx | hx
    · exact h.ins x hx
    · rw [List.mem_singleton] at hx; omega
end
theorem mk_same {t : List (List Int)} {l m : List Int} (h : ∀ x, x ∈ l ↔ x ∈ m) (x : Nat) : Mk t l x ↔ Mk t m x := ⟨fun k => k.mono fun a ha => (h a).1 ha, fun k => k.mono fun a ha => (h a).2 ha⟩
noncomputable def cjL (t : List (List Int)) (whole gens : List Int) : List Int := gens.flatMap fun g => whole.map fun x => ((cjN t x.toNat g.toNat : Nat) : Int)
theorem mem_cjL {t : List (List Int)} {whole gens : List Int} {y : Int} : y ∈ cjL t whole gens ↔ ∃ g ∈ gens, ∃ x ∈ whole, y = ((cjN t x.toNat g.toNat : Nat) : Int) := by
  unfold cjL
  simp only [List.mem_flatMap, List.mem_map]
  exact ⟨fun ⟨g, hg, x, hx, e⟩ => ⟨g, hg, x, hx, e.symm⟩, fun ⟨g, hg, x, hx, e⟩ => ⟨g, hg, x, hx, e.symm⟩⟩
noncomputable def cmN (t : List (List Int)) (x y : Nat) : Nat := en t (cjN t x y) (invN t y)
noncomputable def cmL (t : List (List Int)) (whole : List Int) : List Int := whole.flatMap fun x => whole.map fun y => ((cmN t x.toNat y.toNat : Nat) : Int)
theorem mem_cmL {t : List (List Int)} {whole : List Int} {y : Int} : y ∈ cmL t whole ↔ ∃ a ∈ whole, ∃ b ∈ whole, y = ((cmN t a.toNat b.toNat : Nat) : Int) := by
  unfold cmL
  simp only [List.mem_flatMap, List.mem_map]
  exact ⟨fun ⟨g, hg, x, hx, e⟩ => ⟨g, hg, x, hx, e.symm⟩, fun ⟨g, hg, x, hx, e⟩ => ⟨g, hg, x, hx, e.symm⟩⟩
theorem cmN_lt {t : List (List Int)} (h : Grp t) {x y : Nat} (hx : x < t.length) (hy : y < t.length) : cmN t x y < t.length := (h.toSh.ent (cjN_lt h hx hy) (h.ninv hy).1).2
theorem cj_cj {t : List (List Int)} (h : Grp t) {x y g : Nat} (hx : x < t.length) (hy : y < t.length) (hg : g < t.length) : cjN t x (cjN t y g) = cjN t (en t x y) g := by
  have hs := h.toSh
  have ix := (h.ninv hx).1
  have iy := (h.ninv hy).1
  have hyg := (hs.ent hy hg).2
  have hxy := (hs.ent hx hy).2
  unfold cjN
  rw [inv_mul h hx hy, ← assoc3 h.assoc hx hyg iy, ← assoc3 h.assoc hx hy hg, assoc3 h.assoc (hs.ent hxy hg).2 iy ix]
noncomputable def cloF (t : List (List Int)) (whole gens : List Int) : Nat → Bool := genF t ((oneN t : Int) :: cjL t whole gens)
noncomputable def derF (t : List (List Int)) (whole : List Int) : Nat → Bool := genF t ((oneN t : Int) :: cmL t whole)
theorem allI_in (t : List (List Int)) : inT t (allI t) := fun _x hx => mem_disI.1 hx
theorem allI_set {t : List (List Int)} {x : Nat} : setI (allI t) x = true ↔ x < t.length := by
  rw [setI_iff, mem_disI]; omega
theorem allI_cl {t : List (List Int)} (h : Sh t) : ClL t (allI t) := by
  have hp := h.pos
  refine ⟨by rw [disI_len]; exact hp, fun i hi => ?_, allI_in t, fun x y hx hy _ _ => allI_set.2 (h.ent hx hy).2⟩
  rw [disI_len] at hi
  rw [disI_get (by omega), disI_get hi]; omega
/-! ### Closing under products, pass by pass -/
theorem cnt_set : ∀ {l : List Bool} {i : Nat}, i < l.length → l.getD i false = false → (l.set i true).countP id = l.countP id + 1
  | [], i, h, _ => absurd h (Nat.not_lt_zero _)
  | b :: l, 0, _, h => by have h : b = false := h; subst h; simp
  | b :: l, i + 1, h, h' => by
    have ih := cnt_set (l := l) (i := i) (by simpa using h) h'
    rw [List.set_cons_succ, List.countP_cons, List.countP_cons, ih]; omega
structure GnP (t : List (List Int)) (l : List Int) (I : List Bool) : Prop where
  len : I.length = t.length
  sub : ∀ y, y < t.length → I.getD y false = true → Mk t l y
  sup : ∀ g ∈ l, I.getD g.toNat false = true
structure GnQ (t : List (List Int)) (l : List Int) (I0 : List Bool) (x y : Nat) (I : List Bool) (ch : Bool) : Prop where
  ok : GnP t l I
  no : ch = false → I = I0 ∧ ∀ a b, (a < x ∨ (a = x ∧ b < y)) → b < t.length → I.getD a false = true → I.getD b false = true → I.getD (en t a b) false = true
  yes : ch = true → I0.countP id < I.countP id
section
variable {t : List (List Int)} {l : List Int} {I0 I : List Bool} {x y : Nat} {ch : Bool}
theorem GnQ.start (h : GnP t l I) : GnQ t l I 0 0 I false := ⟨h, fun _ => ⟨rfl, fun a b hab => by omega⟩, fun h => by cases h⟩
theorem GnQ.old (h : GnQ t l I0 x y I ch) (hc : I.getD x false = true → I.getD y false = true → I.getD (en t x y) false = true) : GnQ t l I0 x (y + 1) I ch :=
  ⟨h.ok, fun hh => ⟨(h.no hh).1, fun a b hab hb h1 h2 => by
    by_cases e : a = x ∧ b = y
    · obtain ⟨rfl, rfl⟩ := e; exact hc h1 h2
    · exact (h.no hh).2 a b (by omega) hb h1 h2⟩, h.yes⟩
theorem GnQ.row (h : GnQ t l I0 x y I ch) (hy : t.length ≤ y) : GnQ t l I0 (x + 1) 0 I ch :=
  ⟨h.ok, fun hh => ⟨(h.no hh).1, fun a b hab hb h1 h2 => (h.no hh).2 a b (by omega) hb h1 h2⟩, h.yes⟩
theorem GnQ.push (h : GnQ t l I0 x y I ch) (hs : Sh t) (hx : x < t.length) (hy : y < t.length) (h1 : I.getD x false = true) (h2 : I.getD y false = true) (hn : I.getD (en t x y) false = false) : GnQ t l I0 x (y + 1) (I.set (en t x y) true) true := by
  have he := (hs.ent hx hy).2
  have hl := h.ok.len
  have hc := cnt_set (l := I) (i := en t x y) (by omega) hn
  have get : ∀ z, z < t.length → ((I.set (en t x y) true).getD z false = true ↔ I.getD z false = true ∨ z = en t x y) := fun z hz => by
    by_cases e : z = en t x y
    · rw [e, getD_set_eq (by omega)]; simp
    · rw [getD_set_ne (Ne.symm e)]; simp [e]
  refine ⟨⟨by rw [List.length_set]; exact hl, fun z hz hh => ?_, fun g hg => ?_⟩, fun hh => (by cases hh), fun _ => ?_⟩
  · rcases (get z hz).1 hh with hh | rfl
    · exact h.ok.sub z hz hh
    · exact .mul (h.ok.sub x hx h1) (h.ok.sub y hy h2)
  · have := h.ok.sup g hg
    by_cases e : g.toNat = en t x y
    · rw [e, getD_set_eq (by omega)]
    · rw [getD_set_ne (Ne.symm e)]; exact this
  · cases ch with
    | false => rw [hc, (h.no rfl).1]; omega
    | true => have := h.yes rfl; omega
theorem GnP.done (h : GnP t l I) (hs : Sh t) (hl : inT t l) (hc : ∀ a b, a < t.length → b < t.length → I.getD a false = true → I.getD b false = true → I.getD (en t a b) false = true) : I = setB t.length (genF t l) := by
  refine setB_ofP h.len fun y hy => ?_
  rw [genF_iff]
  refine ⟨h.sub y hy, fun m => ?_⟩
  have : y < t.length ∧ I.getD y false = true := mk_least (S := fun y => y < t.length ∧ I.getD y false = true) (fun g hg => by
    have := hl g hg
    exact ⟨by omega, h.sup g hg⟩) (fun a b ha hb => ⟨(hs.ent ha.1 hb.1).2, hc a b ha.1 hb.1 ha.2 hb.2⟩) m
  exact this.2
end
/-! ### The reference's lists -/
end Go.Proofs.YtpanlghofeebhaaGreat
