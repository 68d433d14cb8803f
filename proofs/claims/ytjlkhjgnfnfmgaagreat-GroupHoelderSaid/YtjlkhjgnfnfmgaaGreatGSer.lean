import Derived.Test.YtjlkhjgnfnfmgaaGreatJhFac
import Derived.Test.YtjlkhjgnfnfmgaaGreatRefPart
import Derived.Test.YtjlkhjgnfnfmgaaGreatAmRet
import Derived.Test.YtjlkhjgnfnfmgaaGreatSol
section
/- Plain: composition series of a group as lists of subgroups; their factors; solvable groups. -/
namespace Go.Proofs.YtjlkhjgnfnfmgaaGreat
section
variable {t : List (List Int)}
structure StepG (t : List (List Int)) (a s : List Int) : Prop where
  cl : ClL t s
  sub : ∀ x ∈ s, x ∈ a
  nrm : NrmIn t a s
  mx : Mx t a s
structure ChkS (t : List (List Int)) (S : List (List Int)) : Prop where
  grp : Grp t
  pos : 0 < S.length
  top : S.getD 0 [] = allI t
  step : ∀ i, i + 1 < S.length → StepG t (S.getD i []) (S.getD (i + 1) [])
  last : (S.getD (S.length - 1) []).length = 1
noncomputable def chSB (t : List (List Int)) (S : List (List Int)) : Bool := @decide (ChkS t S) (Classical.propDecidable _)
theorem chSB_true {S : List (List Int)} : chSB t S = true ↔ ChkS t S := by unfold chSB; exact @decide_eq_true_iff _ (Classical.propDecidable _)
theorem chSB_false {S : List (List Int)} : chSB t S = false ↔ ¬ ChkS t S := by unfold chSB; exact @decide_eq_false_iff_not _ (Classical.propDecidable _)
noncomputable def facS (t : List (List Int)) (a s : List Int) : Nat × Bool := (a.length / s.length, @decide (AbT t a s) (Classical.propDecidable _))
theorem facS_eq (h : Grp t) {a s : List Int} (ha : ClL t a) (hs : ClL t s) : facG (gpT h) (List.finRange t.length) (pS a) (pS s) = facS t a s := by
  unfold facG facS
  rw [szT ha, szT hs]
  exact congrArg (Prod.mk _) (decide_eq_decide.2 (abT h ha).symm)
theorem one_of_len (h : Grp t) {l : List Int} (hl : ClL t l) (h1 : l.length = 1) : l = [(oneN t : Int)] := by
  match l, h1 with
  | [a], _ =>
    have := setI_iff.1 (hl.one h)
    rw [List.mem_singleton] at this
    rw [this]
noncomputable def facL (t : List (List Int)) (S : List (List Int)) : List (Nat × Bool) := (List.range (S.length - 1)).map fun i => facS t (S.getD i []) (S.getD (i + 1) [])
theorem facL_len (S : List (List Int)) : (facL t S).length = S.length - 1 := by simp [facL]
theorem ChkS.cl {S : List (List Int)} (H : ChkS t S) : ∀ i, i < S.length → ClL t (S.getD i [])
  | 0, _ => by rw [H.top]; exact allI_cl H.grp.toSh
  | i + 1, hi => (H.step i hi).cl
theorem ChkS.ser {S : List (List Int)} (H : ChkS t S) : SerG (gpT H.grp) (List.finRange t.length) (fun _ => True) (facL t S) := by
  have key : ∀ n i, i + n + 1 = S.length → SerG (gpT H.grp) (List.finRange t.length) (pS (S.getD i [])) ((List.range' i n).map fun j => facS t (S.getD j []) (S.getD (j + 1) [])) := by
    intro n
    induction n with
    | zero =>
      intro i hi
      have hl := H.last
      rw [show S.length - 1 = i by omega] at hl
      have e := one_of_len H.grp (H.cl i (by omega)) hl
      rw [e, pS_one H.grp]
      exact .nil fun x => Iff.rfl
    | succ n ih =>
      intro i hi
      have st := H.step i (by omega)
      have ca := H.cl i (by omega)
      rw [List.range'_succ, List.map_cons, ← facS_eq H.grp ca st.cl]
      exact .cons ((mxT H.grp ca st.cl st.sub st.nrm).1 st.mx) (ih (i + 1) (by omega))
  have hp := H.pos
  have := key (S.length - 1) 0 (by omega)
  rw [H.top, pS_all, ← List.range_eq_range'] at this
  exact this
/-! ### Solvable groups -/
theorem sol_iff (h : Grp t) : SolG (gpT h) (fun _ => True) ↔ solB t = true := by
  have hone : ∀ k, (dS t k).length = 1 → ∀ x, pS (dS t k) x → x = (gpT h).one := fun k hk x hx => by
    rw [one_of_len h (dS_cl h k) hk, pS_one h] at hx; exact hx
  constructor
  · intro hs
    have key : ∀ W : Fin t.length → Prop, SolG (gpT h) W → ∀ k, (∀ x, pS (dS t k) x → W x) → ∃ m, (dS t (k + m)).length = 1 := by
      intro W hW
      induction hW with
      | one hw =>
        intro k hk
        refine ⟨0, ?_⟩
        have hc := dS_cl h k
        have e : dS t k = [(oneN t : Int)] := asc_mem_ext hc (one_ns h).cl fun x hx => by
          have a1 : setI [(oneN t : Int)] x = true ↔ x = oneN t := by rw [setI_iff, List.mem_singleton]; omega
          rw [a1]
          constructor
          · intro hm; exact congrArg Fin.val (hw ⟨x, hx⟩ (hk ⟨x, hx⟩ hm))
          · intro e; rw [e]; exact hc.one h
        show (dS t k).length = 1
        rw [e]; rfl
      | @step W S hS hsub hc _ ih =>
        intro k hk
        have hcl := dS_cl h k
        obtain ⟨m, hm⟩ := ih (k + 1) fun x hx => by
          have hm : Mk t ((oneN t : Int) :: cmL t (dS t k)) x.1 := (genL_set x.2).1 hx
          refine (mk_least (S := fun z => ∃ hz : z < t.length, S ⟨z, hz⟩) (fun a ha => ?_) (fun a b ⟨ha, la⟩ ⟨hb, lb⟩ => ⟨(h.toSh.ent ha hb).2, hS.mul _ _ la lb⟩) hm).2
          rcases List.mem_cons.1 ha with rfl | ha
          · exact ⟨by rw [Int.toNat_natCast]; exact h.one.1, hS.one⟩
          · obtain ⟨b, hb, c, hcc, rfl⟩ := mem_cmL.1 ha
            have b1 := hcl.ins b hb
            have c1 := hcl.ins c hcc
            have bl : b.toNat < t.length := by omega
            have cl : c.toNat < t.length := by omega
            rw [Int.toNat_natCast]
            exact ⟨cmN_lt h bl cl, hc ⟨_, bl⟩ ⟨_, cl⟩ (hk ⟨_, bl⟩ (hcl.iset hb)) (hk ⟨_, cl⟩ (hcl.iset hcc))⟩
        exact ⟨m + 1, by rw [show k + (m + 1) = k + 1 + m by omega]; exact hm⟩
    obtain ⟨m, hm⟩ := key _ hs 0 fun _ _ => trivial
    rw [Nat.zero_add] at hm
    refine decide_eq_true ?_
    refine Classical.byContradiction fun hne => ?_
    have hex : ∃ k, k < t.length ∧ (dS t (k + 1)).length = (dS t k).length := Classical.byContradiction fun hno => by
      have dn : ∀ k, k ≤ t.length → k + (dS t k).length ≤ t.length := by
        intro k
        induction k with
        | zero => intro _; rw [Nat.zero_add]; exact Nat.le_of_eq (disI_len _)
        | succ k ih =>
          intro hk
          have h1 := ih (by omega)
          have h2 := (dS_le h k).1
          have h3 : (dS t (k + 1)).length ≠ (dS t k).length := fun e => hno ⟨k, by omega, e⟩
          omega
      have h1 := dn _ (Nat.le_refl _)
      have h2 := (dS_cl h t.length).pos
      omega
    obtain ⟨k, hk, he⟩ := hex
    have st := dS_stop h he
    have s1 := st (t.length - k)
    rw [show k + (t.length - k) = t.length by omega] at s1
    rcases Nat.le_total m t.length with hmn | hmn
    · have := dS_one h hm (t.length - m)
      rw [show m + (t.length - m) = t.length by omega] at this
      exact hne this
    · have s2 := st (m - k)
      rw [show k + (m - k) = m by omega] at s2
      rw [s1, ← s2] at hne
      exact hne hm
  · intro hs
    have hs : (dS t t.length).length = 1 := of_decide_eq_true hs
    have key : ∀ j, j ≤ t.length → SolG (gpT h) (pS (dS t (t.length - j))) := by
      intro j
      induction j with
      | zero => intro _; exact .one (hone _ hs)
      | succ j ih =>
        intro hj
        have ih := ih (by omega)
        have e : dS t (t.length - j) = derL t (dS t (t.length - (j + 1))) := by
          rw [show t.length - j = (t.length - (j + 1)) + 1 by omega]; rfl
        have hc := dS_cl h (t.length - (j + 1))
        rw [e] at ih
        refine .step (S := pS (derL t (dS t (t.length - (j + 1))))) (sgT h (der_cl h hc.ins)) (fun x hx => der_sub h hc x.1 x.2 hx) ((abT h hc).1 fun x y hx hy => ?_) ih
        have lx := hc.lt hx
        have ly := hc.lt hy
        refine (genL_set (cmN_lt h lx ly)).2 ?_
        have := Mk.gen (t := t) (List.mem_cons_of_mem (oneN t : Int) ((mem_cmL (t := t)).2 ⟨_, setI_iff.1 hx, _, setI_iff.1 hy, rfl⟩))
        simpa only [Int.toNat_natCast] using this
    have := key t.length (Nat.le_refl _)
    rw [Nat.sub_self] at this
    have e : (pS (dS t 0) : Fin t.length → Prop) = fun _ => True := pS_all t
    rw [← e]; exact this
/-! ### The greatest normal subgroup that the code finds -/
structure MaxI (t : List (List Int)) (w : List Int) (k : Nat) (s : List Int) : Prop where
  cl : ClL t s
  sub : ∀ x ∈ s, x ∈ w
  nrm : NrmIn t w s
  lt : s.length < w.length
  mx : ∀ i, i < k → w.getD i 0 ∈ s ∨ Gd t w s (w.getD i 0).toNat
theorem MaxI.start (h : Grp t) {w : List Int} (hw : ClL t w) (h2 : 1 < w.length) : MaxI t w 0 [(oneN t : Int)] := by
  have hn := one_ns h
  exact ⟨hn.cl, fun x hx => by rw [List.mem_singleton.1 hx]; exact setI_iff.1 (hw.one h), fun x hx y hy => hn.nrm x (mem_disI.2 (hw.ins x hx)) y hy, h2, fun i hi => absurd hi (Nat.not_lt_zero _)⟩
theorem MaxI.old {w s : List Int} {k : Nat} (H : MaxI t w k s) (hm : w.getD k 0 ∈ s) : MaxI t w (k + 1) s :=
  ⟨H.cl, H.sub, H.nrm, H.lt, fun i hi => by
    rcases Nat.lt_or_ge i k with h1 | h1
    · exact H.mx i h1
    · rw [show i = k by omega]; exact .inl hm⟩
noncomputable abbrev clN (t : List (List Int)) (w s : List Int) (k : Nat) : List Int := ascV t.length (cloF t w (s ++ [w.getD k 0]))
theorem MaxI.gens {w s : List Int} {k : Nat} (H : MaxI t w k s) (hk : k < w.length) : ∀ x ∈ s ++ [w.getD k 0], x ∈ w := fun x hx => by
  rcases List.mem_append.1 hx with hx | hx
  · exact H.sub x hx
  · rw [List.mem_singleton.1 hx]; exact getD_mem hk
theorem MaxI.full (h : Grp t) {w s : List Int} {k : Nat} (H : MaxI t w k s) (hw : ClL t w) (hk : k < w.length) (hl : w.length ≤ (clN t w s k).length) : MaxI t w (k + 1) s :=
  ⟨H.cl, H.sub, H.nrm, H.lt, fun i hi => by
    rcases Nat.lt_or_ge i k with h1 | h1
    · exact H.mx i h1
    · rw [show i = k by omega]
      refine .inr ((gd_iff h hw H.sub (getD_mem hk)).2 ?_)
      have hg := H.gens hk
      have hcl := cloW_cl h hw.ins (g := s ++ [w.getD k 0]) (fun y hy => hw.ins y (hg y hy))
      have := (asc_sub_len hcl hw (cloW_sub h hw hg)).1
      exact Nat.le_antisymm this hl⟩
theorem MaxI.more (h : Grp t) {w s : List Int} {k : Nat} (H : MaxI t w k s) (hw : ClL t w) (hk : k < w.length) (hl : (clN t w s k).length < w.length) : MaxI t w (k + 1) (clN t w s k) := by
  have hg := H.gens hk
  have hgi : inT t (s ++ [w.getD k 0]) := fun y hy => hw.ins y (hg y hy)
  have hcl := cloW_cl h hw.ins hgi
  have hhas : ∀ x ∈ s ++ [w.getD k 0], x ∈ clN t w s k := fun x hx => by
    have := setI_iff.1 (cloW_has h hw hgi x hx)
    rwa [Int.toNat_of_nonneg (hgi x hx).1] at this
  refine ⟨hcl, fun x hx => ?_, cloW_nm h hw hgi, hl, fun i hi => ?_⟩
  · have hx' := hcl.ins x hx
    have := setI_iff.1 (cloW_sub h hw hg x.toNat (by omega) (hcl.iset hx))
    rwa [Int.toNat_of_nonneg hx'.1] at this
  · rcases Nat.lt_or_ge i k with h1 | h1
    · rcases H.mx i h1 with h2 | h2
      · exact .inl (hhas _ (List.mem_append_left _ h2))
      · refine .inr fun y hy => (h2 y hy).mono fun z hz => ?_
        rcases List.mem_cons.1 hz with rfl | hz
        · exact List.mem_cons_self
        · refine List.mem_cons_of_mem _ ?_
          obtain ⟨g, hg, x, hx, rfl⟩ := mem_cjL.1 hz
          refine mem_cjL.2 ⟨g, ?_, x, hx, rfl⟩
          rcases List.mem_append.1 hg with hg | hg
          · exact List.mem_append_left _ (hhas _ (List.mem_append_left _ hg))
          · exact List.mem_append_right _ hg
    · rw [show i = k by omega]
      exact .inl (hhas _ (by simp))
theorem MaxI.done {w s : List Int} {k : Nat} (H : MaxI t w k s) (hk : w.length ≤ k) : StepG t w s :=
  ⟨H.cl, H.sub, H.nrm, Nat.ne_of_lt H.lt, fun x hx hn => by
    obtain ⟨i, hi, rfl⟩ := mem_getD 0 hx
    exact (H.mx i (by omega)).resolve_left hn⟩
theorem StepG.lt (h : Grp t) {w s : List Int} (hw : ClL t w) (H : StepG t w s) : s.length < w.length := by
  have hle := asc_sub_len H.cl hw fun x _ hm => setI_iff.2 (H.sub _ (setI_iff.1 hm))
  exact Nat.lt_of_le_of_ne hle.1 H.mx.1
end
end Go.Proofs.YtjlkhjgnfnfmgaaGreat
end
section
/- Plain: the reference's test of a series; lists of factors, sorted and by insertion. -/
namespace Go.Proofs.YtjlkhjgnfnfmgaaGreat
/-! ### Insertion -/
section
variable {α : Type} {c : α → α → Int} {d : α}
theorem pw_getD {R : α → α → Prop} {l : List α} (d : α) : l.Pairwise R ↔ ∀ i j, i < j → j < l.length → R (l.getD i d) (l.getD j d) := by
  rw [List.pairwise_iff_getElem]
  constructor
  · intro h i j hij hj
    rw [getD_eq (show i < l.length by omega), getD_eq hj]; exact h i j (by omega) hj hij
  · intro h i j hi hj hij
    have := h i j hij hj
    rwa [getD_eq hi, getD_eq hj] at this
/-! ### Insertion sort in place -/
structure InsI (c : α → α → Int) (d : α) (l D : List α) (i j : Nat) : Prop where
  perm : D.Perm l
  ji : j ≤ i
  il : i < l.length
  oth : ∀ p q, p < q → q ≤ i → p ≠ j → q ≠ j → c (D.getD p d) (D.getD q d) ≤ 0
  up : ∀ q, j < q → q ≤ i → c (D.getD j d) (D.getD q d) ≤ 0
def SrtTo (c : α → α → Int) (d : α) (D : List α) (i : Nat) : Prop := ∀ p q, p < q → q < i → c (D.getD p d) (D.getD q d) ≤ 0
theorem InsI.start {l D : List α} {i : Nat} (hp : D.Perm l) (hi : i < l.length) (h : SrtTo c d D i) : InsI c d l D i i :=
  ⟨hp, Nat.le_refl _, hi, fun p q hpq hq _ hqi => h p q hpq (by omega), fun q h1 h2 => by omega⟩
theorem InsI.stop (hc : TotC c) {l D : List α} {i j : Nat} (H : InsI c d l D i j) (h : j = 0 ∨ 0 ≤ c (D.getD j d) (D.getD (j - 1) d)) : SrtTo c d D (i + 1) := fun p q hpq hq => by
  by_cases h1 : p = j
  · rw [h1]; exact H.up q (by omega) (by omega)
  · by_cases h2 : q = j
    · have h3 := h.resolve_left (by omega)
      have h4 := hc.swap (D.getD j d) (D.getD (j - 1) d)
      rw [h2]
      rcases Nat.lt_or_ge p (j - 1) with h5 | h5
      · exact le_trans' hc (H.oth p (j - 1) h5 (by have := H.ji; omega) h1 (by omega)) (by omega)
      · rw [show p = j - 1 by omega]; omega
    · exact H.oth p q hpq (by omega) h1 h2
def swpD (d : α) (D : List α) (j : Nat) : List α := (D.set j (D.getD (j - 1) d)).set (j - 1) (D.getD j d)
theorem swpD_get {D : List α} {j q : Nat} (h0 : 0 < j) (hj : j < D.length) : (swpD d D j).getD q d = if q = j then D.getD (j - 1) d else if q = j - 1 then D.getD j d else D.getD q d := by
  unfold swpD
  by_cases h1 : q = j
  · rw [if_pos h1, h1, getD_set_ne (by omega), getD_set_eq hj]
  · rw [if_neg h1]
    by_cases h2 : q = j - 1
    · rw [if_pos h2, h2, getD_set_eq (by rw [List.length_set]; omega)]
    · rw [if_neg h2, getD_set_ne (by omega), getD_set_ne (by omega)]
theorem swpD_perm {D : List α} {j : Nat} (h0 : 0 < j) (hj : j < D.length) : (swpD d D j).Perm D := by
  unfold swpD
  rw [getD_eq (show j - 1 < D.length by omega), getD_eq hj]
  exact List.set_set_perm hj (by omega)
theorem InsI.next (hc : TotC c) {l D : List α} {i j : Nat} (H : InsI c d l D i j) (h0 : 0 < j) (h : c (D.getD j d) (D.getD (j - 1) d) < 0) : InsI c d l (swpD d D j) i (j - 1) := by
  have hlen := H.perm.length_eq
  have hil := H.il
  have hji := H.ji
  have g : ∀ q, (swpD d D j).getD q d = if q = j then D.getD (j - 1) d else if q = j - 1 then D.getD j d else D.getD q d := fun q => swpD_get h0 (by omega)
  refine ⟨(swpD_perm h0 (by omega)).trans H.perm, by omega, hil, fun p q hpq hq h1 h2 => ?_, fun q h1 h2 => ?_⟩
  · rw [g p, g q]
    by_cases e1 : p = j
    · rw [if_pos e1, if_neg (by omega), if_neg h2]
      exact H.oth (j - 1) q (by omega) hq (by omega) (by omega)
    · rw [if_neg e1, if_neg h1]
      by_cases e2 : q = j
      · rw [if_pos e2]
        exact H.oth p (j - 1) (by omega) (by omega) e1 (by omega)
      · rw [if_neg e2, if_neg h2]
        exact H.oth p q hpq hq e1 e2
  · rw [g (j - 1), g q, if_neg (by omega), if_pos rfl]
    by_cases e2 : q = j
    · rw [if_pos e2]; omega
    · rw [if_neg e2, if_neg (by omega)]
      exact H.up q (by omega) h2
theorem SrtTo.done (hc : TotC c) {l D : List α} (hp : D.Perm l) (h : SrtTo c d D D.length) : srt c l = D :=
  srt_uniq hc ((pw_getD d).2 fun i j hij hj => h i j hij hj) hp
end
end Go.Proofs.YtjlkhjgnfnfmgaaGreat
end
section
/- More idioms of stepping: loops with five to nine things that change. -/
namespace Go.Proofs.YtjlkhjgnfnfmgaaGreat
open Go Go.AM
theorem schShr {TY : List TyE} {F : Go.AM.Spec} {ops : List Oper} {t : Sch} {T0 T : List AV} {S0 S : Store} {Q : List AV → Store → Prop} (h : ∀ K : List AV → Store → Prop, K T S → schK TY F ops t T0 S0 K) (hq : Q T S) : schK TY F ops t T0 S0 Q := h Q hq
end Go.Proofs.YtjlkhjgnfnfmgaaGreat
end
section
/- Package group: series: contracts. -/
namespace Go.Proofs.YtjlkhjgnfnfmgaaGreat
open Go Go.AM
set_option maxRecDepth 100000
theorem gmemR_fn (t : List (List Int)) (l : List Int) (hn : t.length ≤ 400) (hl : inT t l) : QF 98 [frA t, .ro (.ints .i64 l)] (.ro (.bools (setB t.length (setI l)))) := new_ro (gmem_fn t l hn hl)
theorem gcloR_fn (t : List (List Int)) (w gens : List Int) (h : Grp t) (hw : ClL t w) (hg : inT t gens) : QF 103 [frA t, .ro (.ints .i64 w), .ro (.ints .i64 gens)] (.ro (.bools (setB t.length (cloF t w gens)))) := new_ro (gclo_fn t w gens h hw hg)
theorem glistQ_fn (n : Nat) (hn : n ≤ 400) (f : Nat → Bool) : QF 105 [.ro (.bools (setB n f))] (.ro (.ints .i64 (ascV n f))) := new_ro (glist_fn (setB n f) (by rw [setB_len]; omega))
theorem gcon_k (t : List (List Int)) (a s : List Int) (hn : t.length ≤ 400) (ha : inT t a) (hs : inT t s) (hsl : s.length ≤ 140737488355328) : fnK TY SP Tryz.f61 [frA t, .ro (.ints .i64 a), .ro (.ints .i64 s)] (.bool (.v (decide (∀ x ∈ s, x ∈ a)))) := by
  refine Or.inl (cq (gmemR_fn t a hn ha) (And.intro (by repeat' first | refine And.intro ?_ ?_ | exact True.intro | (show (_ : Int) = (_ : Int); omega) | omega | exact rfl | (simp only [RO.len]; omega)) (And.intro rfl trivial)) ?_)
  refine Exists.intro [] <| lp (X := Nat) (fun k => [(15, .int .i64 k)]) (fun _ => []) (fun k => k ≤ s.length ∧ ∀ i, i < k → s.getD i 0 ∈ a) (fun k => s.length - k) 0 ⟨Nat.zero_le _, by omega⟩ (by repeat' first | refine And.intro ?_ ?_ | exact True.intro | (show (_ : Int) = (_ : Int); omega) | omega | exact rfl | (simp only [RO.len]; omega)) ?_
  rintro k ⟨hk, hP⟩
  have hbl := setB_len t.length (setI a)
  refine And.intro (fun h1 => ?_) (fun h1 => ?_)
  · have h1 : (k : Int) < (s.length : Int) := h1
    have hkl : k < s.length := by omega
    have hx := hs _ (getD_mem (d := 0) hkl)
    have g1 : (setB t.length (setI a)).getD (s.getD k 0).toNat false = true ↔ s.getD k 0 ∈ a := by
      rw [setB_get (by omega), setI_iff, Int.toNat_of_nonneg hx.1]
    refine And.intro (by omega) ?_
    refine And.intro (show 0 ≤ s.getD k 0 ∧ s.getD k 0 < ((setB t.length (setI a)).length : Int) by omega) ?_
    refine And.intro (fun h2 => ?_) (fun h2 => ?_)
    · have h2 : (!(setB t.length (setI a)).getD (s.getD k 0).toNat false) = true := h2
      refine And.intro (decide_eq_false fun hh => ?_).symm trivial
      rw [g1.2 (hh _ (getD_mem hkl))] at h2; cases h2
    · have h2 : (!(setB t.length (setI a)).getD (s.getD k 0).toNat false) = false := h2
      refine And.intro (by omega) ?_
      refine nx (k + 1) ⟨by omega, fun i hi => ?_⟩ (show s.length - (k + 1) < s.length - k by omega) (by repeat' first | refine And.intro ?_ ?_ | exact True.intro | (show (_ : Int) = (_ : Int); omega) | omega | exact rfl | (simp only [RO.len]; omega))
      by_cases e : i = k
      · subst e; exact g1.1 (by simpa using h2)
      · exact hP i (by omega)
  · refine And.intro (decide_eq_true fun x hx => ?_).symm trivial
    have h1 : (s.length : Int) ≤ (k : Int) := h1
    obtain ⟨i, hi, rfl⟩ := mem_getD 0 hx
    exact hP i (by omega)
theorem gcon_fn (t : List (List Int)) (a s : List Int) (hn : t.length ≤ 400) (ha : inT t a) (hs : inT t s) : QF 61 [frA t, .ro (.ints .i64 a), .ro (.ints .i64 s)] (.bool (.v (decide (∀ x ∈ s, x ∈ a)))) := mkQ Tryz.func61 (by decide +kernel) rfl (Nat.le_of_ble_eq_true rfl) fun hf => gcon_k t a s hn ha hs hf.2.2.1.1
noncomputable def abB (t : List (List Int)) (a s : List Int) : Bool := @decide (AbT t a s) (Classical.propDecidable _)
theorem abB_true {t : List (List Int)} {a s : List Int} : abB t a s = true ↔ AbT t a s := by unfold abB; exact @decide_eq_true_iff _ (Classical.propDecidable _)
theorem abB_false {t : List (List Int)} {a s : List Int} : abB t a s = false ↔ ¬ AbT t a s := by unfold abB; exact @decide_eq_false_iff_not _ (Classical.propDecidable _)
theorem gab_fn (t : List (List Int)) (a s : List Int) (h : Grp t) (ha : ClL t a) (hs : ClL t s) : QF 52 [frA t, .ro (.ints .i64 a), .ro (.ints .i64 s)] (.bool (.v (abB t a s))) := mkQ Tryz.func52 (by decide +kernel) rfl (Nat.le_of_ble_eq_true rfl) fun _ => by
  have hS := h.toSh
  have hbl := setB_len t.length (setI s)
  have hal := ascV_len t.length (setI a)
  rw [ha.self] at hal
  have hm := h.most
  refine Or.inl (cq (gmemR_fn t s h.most hs.ins) (And.intro (by repeat' first | refine And.intro ?_ ?_ | exact True.intro | (show (_ : Int) = (_ : Int); omega) | omega | exact rfl | (simp only [RO.len]; omega)) (And.intro rfl trivial)) ?_)
  refine Exists.intro [] <| lp (X := Nat) (fun i => [(17, .int .i64 i)]) (fun _ => []) (fun i => i ≤ a.length ∧ ∀ p q, p < i → q < a.length → setI s (cmN t (a.getD p 0).toNat (a.getD q 0).toNat) = true) (fun i => a.length - i) 0 ⟨Nat.zero_le _, by omega⟩ (by repeat' first | refine And.intro ?_ ?_ | exact True.intro | (show (_ : Int) = (_ : Int); omega) | omega | exact rfl | (simp only [RO.len]; omega)) ?_
  rintro i ⟨hi, hP⟩
  refine And.intro (fun h3 => ?_) (fun h3 => ?_)
  · have h3 : (i : Int) < (a.length : Int) := h3
    have hil : i < a.length := by omega
    have hi1 := ha.ins _ (getD_mem (d := 0) hil)
    refine And.intro (by omega) ?_
    refine Exists.intro [] <| lp (X := Nat) (fun j => [(23, .int .i64 j)]) (fun _ => []) (fun j => j ≤ a.length ∧ ∀ q, q < j → setI s (cmN t (a.getD i 0).toNat (a.getD q 0).toNat) = true) (fun j => a.length - j) 0 ⟨Nat.zero_le _, by omega⟩ (by repeat' first | refine And.intro ?_ ?_ | exact True.intro | (show (_ : Int) = (_ : Int); omega) | omega | exact rfl | (simp only [RO.len]; omega)) ?_
    rintro j ⟨hj, hQ⟩
    refine And.intro (fun h4 => ?_) (fun h4 => ?_)
    · have h4 : (j : Int) < (a.length : Int) := h4
      have hjl : j < a.length := by omega
      have hj1 := ha.ins _ (getD_mem (d := 0) hjl)
      obtain ⟨x, hx⟩ : ∃ x : Nat, a.getD i 0 = (x : Int) := ⟨(a.getD i 0).toNat, by omega⟩
      obtain ⟨y, hy⟩ : ∃ y : Nat, a.getD j 0 = (y : Int) := ⟨(a.getD j 0).toNat, by omega⟩
      have hxt : x < t.length := by omega
      have hyt : y < t.length := by omega
      have rc := cjN_lt h hxt hyt
      have r1 := hS.len rc
      have iv := h.ninv hyt
      have e1 := hS.ent rc iv.1
      have il := invL_len (t := t)
      have ig := invL_get hyt
      refine And.intro (by omega) ?_
      refine Or.inl ?_
      refine Exists.intro (List.replicate 19 false) (And.intro (by decide +kernel) ?_)
      refine cq (gcj_fn t h x y hxt hyt) (And.intro (by repeat' first | refine And.intro ?_ ?_ | exact True.intro | (show (_ : Int) = (_ : Int); omega) | omega | exact rfl | (simp only [RO.len]; omega)) (And.intro hx (And.intro hy trivial))) ?_
      refine And.intro (by omega) ?_
      refine And.intro (show 0 ≤ a.getD j 0 ∧ a.getD j 0 < ((invL t).length : Int) by omega) ?_
      have g0 : (invL t).getD (a.getD j 0).toNat 0 = (invN t y : Int) := by rw [hy, Int.toNat_natCast]; exact ig
      refine And.intro (show 0 ≤ (invL t).getD (a.getD j 0).toNat 0 ∧ (invL t).getD (a.getD j 0).toNat 0 < ((t.getD ((cjN t x y : Nat) : Int).toNat []).length : Int) by rw [g0, Int.toNat_natCast]; omega) ?_
      have g1 : (t.getD ((cjN t x y : Nat) : Int).toNat []).getD ((invL t).getD (a.getD j 0).toNat 0).toNat 0 = (cmN t x y : Int) := by
        rw [g0, Int.toNat_natCast, Int.toNat_natCast]; exact e1.1
      have hcm := cmN_lt h hxt hyt
      refine And.intro (show 0 ≤ (t.getD ((cjN t x y : Nat) : Int).toNat []).getD ((invL t).getD (a.getD j 0).toNat 0).toNat 0 ∧ (t.getD ((cjN t x y : Nat) : Int).toNat []).getD ((invL t).getD (a.getD j 0).toNat 0).toNat 0 < ((setB t.length (setI s)).length : Int) by rw [g1]; omega) ?_
      have g2 : (setB t.length (setI s)).getD ((t.getD ((cjN t x y : Nat) : Int).toNat []).getD ((invL t).getD (a.getD j 0).toNat 0).toNat 0).toNat false = setI s (cmN t x y) := by
        rw [g1, Int.toNat_natCast, setB_get hcm]
      refine And.intro (fun h5 => ?_) (fun h5 => ?_)
      · have h5 : (!(setB t.length (setI s)).getD ((t.getD ((cjN t x y : Nat) : Int).toNat []).getD ((invL t).getD (a.getD j 0).toNat 0).toNat 0).toNat false) = true := h5
        rw [g2] at h5
        refine And.intro (abB_false.2 fun hh => ?_).symm trivial
        rw [hh x y (setI_iff.2 (by rw [← hx]; exact getD_mem hil)) (setI_iff.2 (by rw [← hy]; exact getD_mem hjl))] at h5
        cases h5
      · have h5 : (!(setB t.length (setI s)).getD ((t.getD ((cjN t x y : Nat) : Int).toNat []).getD ((invL t).getD (a.getD j 0).toNat 0).toNat 0).toNat false) = false := h5
        rw [g2] at h5
        have h6 : setI s (cmN t x y) = true := by simpa using h5
        refine And.intro (by omega) ?_
        refine nx (j + 1) ⟨by omega, fun q hq => ?_⟩ (show a.length - (j + 1) < a.length - j by omega) (by repeat' first | refine And.intro ?_ ?_ | exact True.intro | (show (_ : Int) = (_ : Int); omega) | omega | exact rfl | (simp only [RO.len]; omega))
        by_cases e : q = j
        · rw [e, hx, hy, Int.toNat_natCast, Int.toNat_natCast]; exact h6
        · exact hQ q (by omega)
    · have h4 : (a.length : Int) ≤ (j : Int) := h4
      refine And.intro (by omega) ?_
      refine nx (i + 1) ⟨by omega, fun p q hp hq => ?_⟩ (show a.length - (i + 1) < a.length - i by omega) (by repeat' first | refine And.intro ?_ ?_ | exact True.intro | (show (_ : Int) = (_ : Int); omega) | omega | exact rfl | (simp only [RO.len]; omega))
      by_cases e : p = i
      · subst e; exact hQ q (by omega)
      · exact hP p q (by omega) hq
  · have h3 : (a.length : Int) ≤ (i : Int) := h3
    refine And.intro (abB_true.2 fun x y hx hy => ?_).symm trivial
    obtain ⟨p, hp, hpv⟩ := mem_getD 0 (setI_iff.1 hx)
    obtain ⟨q, hq, hqv⟩ := mem_getD 0 (setI_iff.1 hy)
    have := hP p q (by omega) hq
    rwa [hpv, hqv, Int.toNat_natCast, Int.toNat_natCast] at this
set_option maxHeartbeats 4000000 in
theorem gmax_fn (t : List (List Int)) (w : List Int) (h : Grp t) (hw : ClL t w) (h2 : 1 < w.length) : EF 97 [frA t, .ro (.ints .i64 w)] (fun s : List Int => .ro (.ints .i64 s)) (fun s => StepG t w s) := mkE Tryz.func97 (by decide +kernel) rfl (Nat.le_of_ble_eq_true rfl) fun _ => by
  have hs := h.toSh
  have hm := hs.most
  have hwl := ascV_len t.length (setI w)
  rw [hw.self] at hwl
  have hone := one_ns h
  refine Or.inl (cq (gmemR_fn t [(oneN t : Int)] hm hone.cl.ins) (And.intro (by repeat' first | refine And.intro ?_ ?_ | exact True.intro | (show (_ : Int) = (_ : Int); omega) | omega | exact rfl | (simp only [RO.len]; omega)) (And.intro rfl trivial)) ?_)
  refine Exists.intro [] <| lp2 (fun (k : Nat) (s : List Int) => [(19, .int .i64 k), (5, .ro (.ints .i64 s)), (6, .ro (.bools (setB t.length (setI s))))]) (fun _ _ => []) (fun k s => k ≤ w.length ∧ MaxI t w k s) (fun k _ => w.length - k) 0 [(oneN t : Int)] ⟨Nat.zero_le _, MaxI.start h hw h2⟩ (by repeat' first | refine And.intro ?_ ?_ | exact True.intro | (show (_ : Int) = (_ : Int); omega) | omega | exact rfl | (simp only [RO.len]; omega)) ?_
  rintro k s ⟨hk, H⟩
  have hbl := setB_len t.length (setI s)
  refine And.intro (fun h3 => ?_) (fun h3 => ?_)
  · have h3 : (k : Int) < (w.length : Int) := h3
    have hkl : k < w.length := by omega
    have hwk := hw.ins _ (getD_mem (d := 0) hkl)
    refine And.intro (by omega) ?_
    refine And.intro (show 0 ≤ w.getD k 0 ∧ w.getD k 0 < ((setB t.length (setI s)).length : Int) by omega) ?_
    refine And.intro (fun h4 => ?_) (fun h4 => ?_)
    · have h4 : (setB t.length (setI s)).getD (w.getD k 0).toNat false = true := h4
      rw [setB_get (by omega), setI_iff, Int.toNat_of_nonneg hwk.1] at h4
      refine And.intro (by omega) ?_
      exact nx (k + 1, s) ⟨by omega, H.old h4⟩ (show w.length - (k + 1) < w.length - k by omega) (by repeat' first | refine And.intro ?_ ?_ | exact True.intro | (show (_ : Int) = (_ : Int); omega) | omega | exact rfl | (simp only [RO.len]; omega))
    have hsl : s.length ≤ 400 := by have := H.lt; omega
    have hgin : inT t (s ++ [w.getD k 0]) := fun y hy => hw.ins y (H.gens hkl y hy)
    have hap : ((s ++ [w.getD k 0]).length : Int) ≤ 17592186044416 := by rw [List.length_append, List.length_singleton]; omega
    refine Or.inr (Exists.intro (.fst 1 (.fst 2 (.fst 4 (.br 0 (.br 3 (.br 5 (.br 6 (.br 7 (.fst 8 .done) .no) .no) .no) (.br 5 (.br 3 (.br 6 (.br 7 (.fst 8 .done) .no) .no) .no) .no)) (.br 3 (.br 0 (.br 5 (.br 6 (.br 7 (.fst 8 .done) .no) .no) .no) (.br 5 (.br 0 (.br 6 (.br 7 (.fst 8 .done) .no) .no) (.br 6 (.br 0 (.br 7 (.fst 8 .done) .no) .no) .no)) .no)) (.br 5 (.br 0 (.br 3 (.br 6 (.br 7 (.fst 8 .done) .no) .no) .no) (.br 3 (.br 0 (.br 6 (.br 7 (.fst 8 .done) .no) .no) (.br 6 (.br 0 (.br 7 (.fst 8 .done) .no) .no) .no)) .no)) .no)))))) (And.intro (by decide +kernel) ?_))
    have hsame : setB t.length (cloF t w (s ++ [w.getD k 0])) = setB t.length (setI (clN t w s k)) := setB_congr fun x hx => (ascV_set hx).symm
    have big : ((clN t w s k).length : Int) < (w.length : Int) → ((k + 1 : Nat) : Int) = (k : Int) + 1 := fun _ => by omega
    have hk1 : -9223372036854775808 ≤ (k : Int) + 1 ∧ (k : Int) + 1 ≤ 9223372036854775807 := by omega
    have hd : w.length - (k + 1) < w.length - k := by omega
    repeat' first
      | exact True.intro
      | exact hap
      | refine Or.inl (cq (cloneI_fn s (by omega)) (And.intro rfl trivial) ?_)
      | refine Or.inl (cq (gcloR_fn t w (s ++ [w.getD k 0]) h hw hgin) (And.intro (by repeat' first | refine And.intro ?_ ?_ | exact True.intro | (show (_ : Int) = (_ : Int); omega) | omega | exact rfl | (simp only [RO.len]; omega)) (And.intro rfl (And.intro rfl trivial))) ?_)
      | (refine Or.inl (cq (glistQ_fn t.length hm (cloF t w (s ++ [w.getD k 0]))) (And.intro rfl trivial) ?_)
         refine And.intro (fun h5 => And.intro hk1 (nx (k + 1, clN t w s k) ⟨by omega, H.more h hw hkl (Int.ofNat_lt.1 h5)⟩ hd (by repeat' first | refine And.intro ?_ ?_ | exact True.intro | exact congrArg RO.bools hsame | (show (_ : Int) = (_ : Int); omega) | omega | exact rfl))) (fun h5 => And.intro hk1 (nx (k + 1, s) ⟨by omega, H.full h hw hkl (Int.ofNat_le.1 h5)⟩ hd (by repeat' first | refine And.intro ?_ ?_ | exact True.intro | (show (_ : Int) = (_ : Int); omega) | omega | exact rfl | (simp only [RO.len]; omega)))))
      | refine And.intro ?_ ?_
  · have h3 : (w.length : Int) ≤ (k : Int) := h3
    exact Exists.intro s (And.intro (H.done (by omega)) (by repeat' first | refine And.intro ?_ ?_ | exact True.intro | (show (_ : Int) = (_ : Int); omega) | omega | exact rfl | (simp only [RO.len]; omega)))
end Go.Proofs.YtjlkhjgnfnfmgaaGreat
end
