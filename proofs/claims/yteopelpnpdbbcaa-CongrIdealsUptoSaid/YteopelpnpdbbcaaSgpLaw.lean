/- Plain: subgroups, what elements generate, conjugates, cosets. -/
import Derived.Test.YteopelpnpdbbcaaEqvLaw
import Derived.Test.YteopelpnpdbbcaaSubLaw
import Derived.Test.YteopelpnpdbbcaaGrpLaw
namespace Go.Proofs.Yteopelpnpdbbcaa

theorem mk_least {t : List (List Int)} {l : List Int} {S : Nat → Prop} (hg : ∀ g ∈ l, S g.toNat) (hc : ∀ a b, S a → S b → S (en t a b)) {x : Nat} (m : Mk t l x) : S x := by
  induction m with
  | gen h => exact hg _ h
  | mul _ _ i1 i2 => exact hc _ _ i1 i2
/-- What the elements of a list generate. -/
noncomputable def genF (t : List (List Int)) (l : List Int) (x : Nat) : Bool := @decide (Mk t l x) (Classical.propDecidable _)
theorem genF_iff {t : List (List Int)} {l : List Int} {x : Nat} : genF t l x = true ↔ Mk t l x := by unfold genF; exact @decide_eq_true_iff _ (Classical.propDecidable _)
section
variable {t : List (List Int)}
/-- A set with the identity that is closed under products with some of the generators, which reach all of them. -/
theorem gen_done (h : Grp t) {S : Nat → Prop} {used gens : List Int} (hlt : ∀ x, S x → x < t.length) (h1 : S (oneN t)) (hu : ∀ g ∈ used, g ∈ gens) (hin : ∀ g ∈ gens, 0 ≤ g ∧ g < (t.length : Int))
    (hcl : ∀ x, S x → ∀ g ∈ used, S (en t x g.toNat)) (hmk : ∀ x, S x → Mk t ((oneN t : Int) :: used) x) (hg : ∀ g ∈ gens, S g.toNat) (x : Nat) : S x ↔ Mk t ((oneN t : Int) :: gens) x := by
  have hs := h.toSemi
  constructor
  · intro hx
    refine (hmk x hx).mono fun g hg => ?_
    rcases List.mem_cons.1 hg with rfl | hg
    · exact List.mem_cons_self
    · exact List.mem_cons_of_mem _ (hu g hg)
  · intro m
    let R : Nat → Prop := fun y => y < t.length ∧ ∀ x, S x → S (en t x y)
    have r1 : R (oneN t) := ⟨h.one.1, fun x hx => by rw [(h.one.2.1 x (hlt x hx)).2]; exact hx⟩
    have rm : ∀ a b, R a → R b → R (en t a b) := fun a b ha hb => ⟨(hs.toSh.ent ha.1 hb.1).2, fun x hx => by
      rw [← assoc3 hs.assoc (hlt x hx) ha.1 hb.1]
      exact hb.2 _ (ha.2 x hx)⟩
    have ru : ∀ {y}, Mk t ((oneN t : Int) :: used) y → R y := fun m => mk_least (fun g hg => by
      rcases List.mem_cons.1 hg with rfl | hg
      · rw [Int.toNat_natCast]; exact r1
      · have := hin g (hu g hg)
        exact ⟨by omega, fun x hx => hcl x hx g hg⟩) rm m
    have rx : R x := mk_least (fun g hg' => by
      rcases List.mem_cons.1 hg' with rfl | hg'
      · rw [Int.toNat_natCast]; exact r1
      · exact ru (hmk _ (hg g hg'))) rm m
    have := rx.2 _ h1
    rwa [(h.one.2.1 x rx.1).1] at this

/-! ### Subgroups -/
theorem ClL.pw {l : List Int} (h : ClL t l) (hs : Semi t) {x : Nat} (hx : x < t.length) (hm : setI l x = true) : ∀ k, setI l (pwN t x k) = true
  | 0 => hm
  | k + 1 => h.cl _ _ (pwN_lt hs hx k) hx (h.pw hs hx hm k) hm
theorem ClL.lt {l : List Int} (h : ClL t l) {x : Nat} (hm : setI l x = true) : x < t.length := by have := h.ins _ (setI_iff.1 hm); omega
theorem ClL.one {l : List Int} (h : ClL t l) (hg : Grp t) : setI l (oneN t) = true := by
  have h0 := h.el h.pos
  have := h.pw hg.toSemi h0.1 h0.2.2 (ordN t (eL l 0))
  rwa [(ord_spec hg h0.1).2.1] at this
theorem ClL.inv {l : List Int} (h : ClL t l) (hg : Grp t) {x : Nat} (hm : setI l x = true) : setI l (invN t x) = true := by
  have hx := h.lt hm
  have ho := ord_spec hg hx
  cases hk : ordN t x with
  | zero =>
    rw [hk] at ho
    have e : x = oneN t := ho.2.1
    have : x = invN t x := hg.inv_uniq hx hx (by
      rw [(congrArg (fun z => en t z x) e : en t x x = en t (oneN t) x), (hg.one.2.1 x hx).1]; exact e)
    rw [← this]; exact hm
  | succ k =>
    rw [hk] at ho
    have hp := pwN_lt hg.toSemi hx k
    have e : en t (pwN t x k) x = oneN t := ho.2.1
    have hi := hg.ninv hx
    have : pwN t x k = invN t x := hg.cancelR hp hi.1 hx (e.trans hi.2.2.symm)
    rw [← this]; exact h.pw hg.toSemi hx hm k

end

/-! ### Generating, step by step -/
/-- What has been reached: I marks it, used are the generators in use. -/
structure GenI (t : List (List Int)) (gens : List Int) (k : Nat) (I : List Bool) (r u : List Int) : Prop where
  len : I.length = t.length
  nd : r.Nodup
  mem : ∀ y, y < t.length → (I.getD y false = true ↔ (y : Int) ∈ r)
  ins : ∀ x ∈ r, 0 ≤ x ∧ x < (t.length : Int)
  one : (oneN t : Int) ∈ r
  use : ∀ g ∈ u, g ∈ gens.take k
  made : ∀ x ∈ r, Mk t ((oneN t : Int) :: u) x.toNat
theorem nodup_len {n : Nat} {l : List Int} (hn : l.Nodup) (h : ∀ x ∈ l, 0 ≤ x ∧ x < (n : Int)) : l.length ≤ n := by
  have := hn.length_le_of_subset (l₂ := disI n) fun x hx => mem_disI.2 (h x hx)
  rwa [disI_len] at this
section
variable {t : List (List Int)} {gens : List Int} {k : Nat} {I : List Bool} {r u : List Int}
theorem GenI.le (h : GenI t gens k I r u) : r.length ≤ t.length := nodup_len h.nd h.ins
theorem GenI.start (h : Grp t) : GenI t gens 0 ((List.replicate t.length false).set (oneN t) true) [(oneN t : Int)] [] := by
  have ho := h.one.1
  refine ⟨by simp, by simp, fun y hy => ?_, fun x hx => ?_, by simp, by simp, fun x hx => ?_⟩
  · by_cases e : y = oneN t
    · subst e; rw [getD_set_eq (by simpa using ho)]; simp
    · rw [getD_set_ne (Ne.symm e), rep_false]
      simp only [List.mem_singleton]
      exact ⟨fun h' => absurd h' (by simp), fun h' => absurd h' (by omega)⟩
  · rw [List.mem_singleton] at hx; omega
  · rw [List.mem_singleton] at hx; subst hx
    exact .gen (by simp)
theorem GenI.done (h : GenI t gens k I r u) (hgr : Grp t) (hk : gens.length ≤ k) (hg : ∀ g ∈ gens, 0 ≤ g ∧ g < (t.length : Int)) (hc : ∀ x ∈ r, ∀ g ∈ u, ((en t x.toNat g.toNat : Nat) : Int) ∈ r) (ha : ∀ g ∈ gens.take k, g ∈ r) : I = setB t.length (genF t ((oneN t : Int) :: gens)) := by
  refine setB_ofP h.len fun y hy => ?_
  rw [h.mem y hy, genF_iff]
  have htk : gens.take k = gens := List.take_of_length_le hk
  rw [htk] at ha
  have hu : ∀ g ∈ u, g ∈ gens := fun g hg => List.mem_of_mem_take (h.use g hg)
  refine gen_done hgr (S := fun x => (x : Int) ∈ r) (used := u) (fun x hx => by have := h.ins _ hx; omega) h.one hu hg (fun x hx g hgu => by have := hc _ hx g hgu; rwa [Int.toNat_natCast] at this) (fun x hx => by have := h.made _ hx; rwa [Int.toNat_natCast] at this) (fun g hgg => ?_) y
  have := hg g hgg
  rw [Int.toNat_of_nonneg this.1]; exact ha g hgg
end

/-! ### What was collected -/

/-- c: without repetition, I marks it. -/
structure ColI (n : Nat) (I : List Bool) (c : List Int) : Prop where
  len : I.length = n
  nd : c.Nodup
  mem : ∀ y, y < n → (I.getD y false = true ↔ (y : Int) ∈ c)
  ins : ∀ x ∈ c, 0 ≤ x ∧ x < (n : Int)
section
variable {n : Nat} {I : List Bool} {c : List Int}
theorem ColI.le (h : ColI n I c) : c.length ≤ n := nodup_len h.nd h.ins
theorem ColI.start (n : Nat) : ColI n (List.replicate n false) [] := ⟨by simp, .nil, fun y hy => by rw [rep_false]; simp, fun x hx => by cases hx⟩
end
/-! ### Closing under products, pass by pass -/
structure GnP (t : List (List Int)) (l : List Int) (I : List Bool) : Prop where
  len : I.length = t.length
  sub : ∀ y, y < t.length → I.getD y false = true → Mk t l y
  sup : ∀ g ∈ l, I.getD g.toNat false = true
/-- Within a pass: from I0 on, the pairs before (x, y) looked at. -/
structure GnQ (t : List (List Int)) (l : List Int) (I0 : List Bool) (x y : Nat) (I : List Bool) (ch : Bool) : Prop where
  ok : GnP t l I
  no : ch = false → I = I0 ∧ ∀ a b, (a < x ∨ (a = x ∧ b < y)) → b < t.length → I.getD a false = true → I.getD b false = true → I.getD (en t a b) false = true
  yes : ch = true → I0.countP id < I.countP id
section
variable {t : List (List Int)} {l : List Int} {I0 I : List Bool} {x y : Nat} {ch : Bool}
theorem GnQ.start (h : GnP t l I) : GnQ t l I 0 0 I false := ⟨h, fun _ => ⟨rfl, fun a b hab => by omega⟩, fun h => by cases h⟩
theorem GnQ.old (h : GnQ t l I0 x y I ch) (hc : I.getD x false = true → I.getD y false = true → I.getD (en t x y) false = true) : GnQ t l I0 x (y + 1) I ch :=
  ⟨h.ok, fun hh => ⟨(h.no hh).1, fun a b hab hb h1 h2 => by
    by_cases e : a = x ∧ b = y
    · obtain ⟨rfl, rfl⟩ := e; exact hc h1 h2
    · exact (h.no hh).2 a b (by omega) hb h1 h2⟩, h.yes⟩
theorem GnQ.row (h : GnQ t l I0 x y I ch) (hy : t.length ≤ y) : GnQ t l I0 (x + 1) 0 I ch :=
  ⟨h.ok, fun hh => ⟨(h.no hh).1, fun a b hab hb h1 h2 => (h.no hh).2 a b (by omega) hb h1 h2⟩, h.yes⟩
/-- Closed: what the list generates. -/
theorem GnP.done (h : GnP t l I) (hs : Sh t) (hl : inT t l) (hc : ∀ a b, a < t.length → b < t.length → I.getD a false = true → I.getD b false = true → I.getD (en t a b) false = true) : I = setB t.length (genF t l) := by
  refine setB_ofP h.len fun y hy => ?_
  rw [genF_iff]
  refine ⟨h.sub y hy, fun m => ?_⟩
  have : y < t.length ∧ I.getD y false = true := mk_least (S := fun y => y < t.length ∧ I.getD y false = true) (fun g hg => by
    have := hl g hg
    exact ⟨by omega, h.sup g hg⟩) (fun a b ha hb => ⟨(hs.ent ha.1 hb.1).2, hc a b ha.1 hb.1 ha.2 hb.2⟩) m
  exact this.2
end

/-! ### The reference's lists -/
end Go.Proofs.Yteopelpnpdbbcaa
