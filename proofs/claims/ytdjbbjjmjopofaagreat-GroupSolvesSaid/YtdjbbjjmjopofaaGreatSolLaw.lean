/- Plain: the derived series; greatest normal subgroups of a subgroup; simple groups. -/
import Derived.Test.YtdjbbjjmjopofaaGreatNrmLaw
namespace Go.Proofs.YtdjbbjjmjopofaaGreat

section
variable {t : List (List Int)}
theorem asc_sub_len {l m : List Int} (hl : ClL t l) (hm : ClL t m) (h : ∀ x, x < t.length → setI l x = true → setI m x = true) : l.length ≤ m.length ∧ (l.length = m.length → l = m) := by
  have hs : l.Sublist m := by
    have := ascV_sub (n := t.length) (f := setI l) (g := setI m) h
    rwa [hl.self, hm.self] at this
  exact ⟨hs.length_le, fun e => hs.eq_of_length e⟩
noncomputable abbrev derL (t : List (List Int)) (w : List Int) : List Int := ascV t.length (derF t w)
theorem der_in (h : Grp t) {w : List Int} (hw : inT t w) : inT t ((oneN t : Int) :: cmL t w) := fun y hy => by
  rcases List.mem_cons.1 hy with rfl | hy
  · have := h.one.1; omega
  · obtain ⟨a, ha, b, hb, rfl⟩ := mem_cmL.1 hy
    have := hw a ha
    have := hw b hb
    have := cmN_lt h (x := a.toNat) (y := b.toNat) (by omega) (by omega)
    omega
theorem der_cl (h : Grp t) {w : List Int} (hw : inT t w) : ClL t (derL t w) := genL_cl h.toSh (der_in h hw) (by simp)
theorem ClL.iset {l : List Int} (h : ClL t l) {x : Int} (hx : x ∈ l) : setI l x.toNat = true := setI_iff.2 (by rw [Int.toNat_of_nonneg (h.ins x hx).1]; exact hx)
theorem ClL.cj {w : List Int} (hw : ClL t w) (h : Grp t) {a b : Nat} (ha : setI w a = true) (hb : setI w b = true) : setI w (cjN t a b) = true := by
  have la := hw.lt ha
  have lb := hw.lt hb
  exact hw.cl _ _ (h.toSh.ent la lb).2 (h.ninv la).1 (hw.cl _ _ la lb ha hb) (hw.inv h ha)
theorem ClL.cm {w : List Int} (hw : ClL t w) (h : Grp t) {a b : Nat} (ha : setI w a = true) (hb : setI w b = true) : setI w (cmN t a b) = true := by
  have la := hw.lt ha
  have lb := hw.lt hb
  exact hw.cl _ _ (cjN_lt h la lb) (h.ninv lb).1 (hw.cj h ha hb) (hw.inv h hb)
theorem der_sub (h : Grp t) {w : List Int} (hw : ClL t w) : ∀ x, x < t.length → setI (derL t w) x = true → setI w x = true := fun x hx hm => by
  refine hw.has (m := (oneN t : Int) :: cmL t w) (fun y hy => ?_) ((genL_set hx).1 hm)
  rcases List.mem_cons.1 hy with rfl | hy
  · exact setI_iff.1 (hw.one h)
  · obtain ⟨a, ha, b, hb, rfl⟩ := mem_cmL.1 hy
    exact setI_iff.1 (hw.cm h (hw.iset ha) (hw.iset hb))
/-- The derived series. -/
noncomputable def dS (t : List (List Int)) : Nat → List Int | 0 => allI t | k + 1 => derL t (dS t k)
theorem dS_cl (h : Grp t) : ∀ k, ClL t (dS t k)
  | 0 => allI_cl h.toSh
  | k + 1 => der_cl h (dS_cl h k).ins
theorem dS_le (h : Grp t) (k : Nat) : (dS t (k + 1)).length ≤ (dS t k).length ∧ ((dS t (k + 1)).length = (dS t k).length → dS t (k + 1) = dS t k) :=
  asc_sub_len (dS_cl h (k + 1)) (dS_cl h k) (der_sub h (dS_cl h k))
theorem dS_stop (h : Grp t) {k : Nat} (he : (dS t (k + 1)).length = (dS t k).length) : ∀ j, dS t (k + j) = dS t k
  | 0 => rfl
  | j + 1 => by
    have ih := dS_stop h he j
    show derL t (dS t (k + j)) = _
    rw [ih]
    exact (dS_le h k).2 he
theorem dS_one (h : Grp t) {k : Nat} (he : (dS t k).length = 1) : ∀ j, (dS t (k + j)).length = 1
  | 0 => he
  | j + 1 => by
    have ih := dS_one h he j
    have h1 := (dS_le h (k + j)).1
    have h2 := (dS_cl h (k + j + 1)).pos
    show (dS t (k + j + 1)).length = 1
    omega
noncomputable def solB (t : List (List Int)) : Bool := decide ((dS t t.length).length = 1)

/-! ### Greatest normal subgroups -/
/-- With x, all of w is generated. -/
def Gd (t : List (List Int)) (w s : List Int) (x : Nat) : Prop := ∀ y ∈ w, Mk t ((oneN t : Int) :: cjL t w (s ++ [(x : Int)])) y.toNat
def Mx (t : List (List Int)) (w s : List Int) : Prop := s.length ≠ w.length ∧ ∀ x ∈ w, x ∉ s → Gd t w s x.toNat
noncomputable def mxB (t : List (List Int)) (w s : List Int) : Bool := @decide (Mx t w s) (Classical.propDecidable _)
theorem mxB_true {w s : List Int} : mxB t w s = true ↔ Mx t w s := by unfold mxB; exact @decide_eq_true_iff _ (Classical.propDecidable _)
theorem mxB_false {w s : List Int} : mxB t w s = false ↔ ¬ Mx t w s := by unfold mxB; exact @decide_eq_false_iff_not _ (Classical.propDecidable _)
theorem cloW_in (h : Grp t) {w g : List Int} (hw : inT t w) (hg : inT t g) : inT t ((oneN t : Int) :: cjL t w g) := fun y hy => by
  rcases List.mem_cons.1 hy with rfl | hy
  · have := h.one.1; omega
  · obtain ⟨b, hb, a, ha, rfl⟩ := mem_cjL.1 hy
    have := hw a ha
    have := hg b hb
    have := cjN_lt h (x := a.toNat) (y := b.toNat) (by omega) (by omega)
    omega
theorem cloW_cl (h : Grp t) {w g : List Int} (hw : inT t w) (hg : inT t g) : ClL t (ascV t.length (cloF t w g)) := genL_cl h.toSh (cloW_in h hw hg) (by simp)
theorem cloW_sub (h : Grp t) {w g : List Int} (hw : ClL t w) (hg : ∀ x ∈ g, x ∈ w) : ∀ x, x < t.length → setI (ascV t.length (cloF t w g)) x = true → setI w x = true := fun x hx hm => by
  refine hw.has (m := (oneN t : Int) :: cjL t w g) (fun y hy => ?_) ((genL_set hx).1 hm)
  rcases List.mem_cons.1 hy with rfl | hy
  · exact setI_iff.1 (hw.one h)
  · obtain ⟨b, hb, a, ha, rfl⟩ := mem_cjL.1 hy
    exact setI_iff.1 (hw.cj h (hw.iset ha) (hw.iset (hg b hb)))
theorem gd_iff (h : Grp t) {w s : List Int} (hw : ClL t w) (hs : ∀ x ∈ s, x ∈ w) {x : Int} (hx : x ∈ w) : Gd t w s x.toNat ↔ (ascV t.length (cloF t w (s ++ [x]))).length = w.length := by
  have hx' := hw.ins x hx
  have hxc : ((x.toNat : Nat) : Int) = x := Int.toNat_of_nonneg hx'.1
  have hg : ∀ y ∈ s ++ [x], y ∈ w := fun y hy => (List.mem_append.1 hy).elim (hs y) fun hy => by rw [List.mem_singleton] at hy; rw [hy]; exact hx
  have hcl := cloW_cl h hw.ins (g := s ++ [x]) (fun y hy => hw.ins y (hg y hy))
  have hle := asc_sub_len hcl hw (cloW_sub h hw hg)
  unfold Gd
  rw [hxc]
  constructor
  · intro hall
    have := asc_sub_len hw hcl fun y hy hm => (genL_set hy).2 (by
      have := hall (y : Int) (setI_iff.1 hm)
      rwa [Int.toNat_natCast] at this)
    omega
  · intro he y hy
    have e := hle.2 he
    have hy' := hw.ins y hy
    refine (genL_set (t := t) (l := (oneN t : Int) :: cjL t w (s ++ [x])) (by omega)).1 ?_
    show setI (ascV t.length (cloF t w (s ++ [x]))) y.toNat = true
    rw [e]; exact hw.iset hy
theorem gd_coset (h : Grp t) {w s : List Int} (hw : ClL t w) (hs : ClL t s) {x a : Nat} (hx : x < t.length) (ha : setI s a = true) (hg : Gd t w s x) : Gd t w s (en t x a) := fun y hy => by
  have la := hs.lt ha
  have ia := h.ninv la
  have hai := hs.inv h ha
  have hxa := (h.toSh.ent hx la).2
  have gen : ∀ g ∈ s ++ [((en t x a : Nat) : Int)], ∀ b ∈ w, Mk t ((oneN t : Int) :: cjL t w (s ++ [((en t x a : Nat) : Int)])) (cjN t b.toNat g.toNat) := fun g hg b hb => by
    have := Mk.gen (t := t) (List.mem_cons_of_mem (oneN t : Int) ((mem_cjL (t := t)).2 ⟨g, hg, b, hb, rfl⟩))
    rwa [Int.toNat_natCast] at this
  refine mk_least (S := fun z => Mk t ((oneN t : Int) :: cjL t w (s ++ [((en t x a : Nat) : Int)])) z) (fun g hg' => ?_) (fun _ _ => .mul) (hg y hy)
  rcases List.mem_cons.1 hg' with rfl | hg'
  · exact .gen List.mem_cons_self
  · obtain ⟨g0, hg0, b, hb, rfl⟩ := mem_cjL.1 hg'
    rw [Int.toNat_natCast]
    rcases List.mem_append.1 hg0 with hg0 | hg0
    · exact gen g0 (List.mem_append_left _ hg0) b hb
    · rw [List.mem_singleton] at hg0
      subst hg0
      rw [Int.toNat_natCast]
      have hb' := hw.ins b hb
      have e : x = en t (en t x a) (invN t a) := by rw [assoc3 h.assoc hx la ia.1, ia.2.1, (h.one.2.1 x hx).2]
      have e2 : cjN t b.toNat x = en t (cjN t b.toNat (en t x a)) (cjN t b.toNat (invN t a)) := by
        rw [← cj_mul h (by omega) hxa ia.1, ← e]
      rw [e2]
      have m1 := gen ((en t x a : Nat) : Int) (by simp) b hb
      have m2 := gen ((invN t a : Nat) : Int) (List.mem_append_left _ (setI_iff.1 hai)) b hb
      rw [Int.toNat_natCast] at m1 m2
      exact .mul m1 m2
theorem all_ns (h : Grp t) : NS t (allI t) := ⟨allI_cl h.toSh, fun x hx y hy => allI_set.2 (by
  have := mem_disI.1 hx
  have := mem_disI.1 hy
  exact cjN_lt h (by omega) (by omega))⟩
theorem simple_iff (h : Grp t) : mxB t (allI t) [(oneN t : Int)] = decide ((nsL t).length = 2) := by
  have hnd := (nsL_srt t).nodup cmpS_tot
  have h1 := nsL_mem.2 (one_ns h)
  have h2 := nsL_mem.2 (all_ns h)
  have hal : (allI t).length = t.length := disI_len _
  have hp := h.pos
  have hset1 : ∀ {x}, setI [(oneN t : Int)] x = true ↔ x = oneN t := fun {x} => by rw [setI_iff, List.mem_singleton]; omega
  rw [Bool.eq_iff_iff, mxB_true, decide_eq_true_eq]
  constructor
  · rintro ⟨hne, hgd⟩
    have hne' : [(oneN t : Int)] ≠ allI t := fun e => hne (by rw [← e])
    have hsub : ∀ l ∈ nsL t, l ∈ [[(oneN t : Int)], allI t] := fun l hl => by
      have hl := nsL_mem.1 hl
      by_cases hex : ∃ x, setI l x = true ∧ x ≠ oneN t
      · obtain ⟨x, hx, hxo⟩ := hex
        have hxl := hl.cl.lt hx
        have hg := hgd (x : Int) (mem_disI.2 (by omega)) (by rw [List.mem_singleton]; omega)
        rw [Int.toNat_natCast] at hg
        have : l = allI t := asc_mem_ext hl.cl (all_ns h).cl fun y hy => ⟨fun _ => allI_set.2 hy, fun _ => by
          have m := hg (y : Int) (mem_disI.2 (by omega))
          rw [Int.toNat_natCast] at m
          refine hl.has_clo h (g := [(oneN t : Int)] ++ [(x : Int)]) (fun z hz => ?_) y hy ((genL_set hy).2 m)
          rcases List.mem_append.1 hz with hz | hz
          · rw [List.mem_singleton] at hz; rw [hz]; exact setI_iff.1 (hl.cl.one h)
          · rw [List.mem_singleton] at hz; rw [hz]; exact setI_iff.1 hx⟩
        rw [this]; simp
      · have : l = [(oneN t : Int)] := asc_mem_ext hl.cl (one_ns h).cl fun y hy => ⟨fun hm => hset1.2 (Classical.byContradiction fun hno => hex ⟨y, hm, hno⟩), fun hm => by rw [hset1.1 hm]; exact hl.cl.one h⟩
        rw [this]; simp
    have l1 := hnd.length_le_of_subset hsub
    have l2 := (List.nodup_cons.2 ⟨by simpa using hne', by simp⟩ : [[(oneN t : Int)], allI t].Nodup).length_le_of_subset (l₂ := nsL t) fun l hl => by
      rcases List.mem_cons.1 hl with rfl | hl
      · exact h1
      · rw [List.mem_singleton] at hl; rw [hl]; exact h2
    simp at l1 l2
    omega
  · intro he
    have hne : [(oneN t : Int)] ≠ allI t := fun e => by
      have hsub : ∀ l ∈ nsL t, l ∈ [allI t] := fun l hl => by
        have hl := nsL_mem.1 hl
        have hn1 : t.length = 1 := by rw [← hal, ← e]; rfl
        have : l = allI t := asc_mem_ext hl.cl (all_ns h).cl fun y hy => ⟨fun _ => allI_set.2 hy, fun _ => by
          have : y = oneN t := by have := h.one.1; omega
          rw [this]; exact hl.cl.one h⟩
        rw [this]; simp
      have := hnd.length_le_of_subset hsub
      simp at this; omega
    refine ⟨fun hl => hne ?_, fun x hx hxo => ?_⟩
    · exact (asc_sub_len (one_ns h).cl (all_ns h).cl fun y hy _ => allI_set.2 hy).2 hl
    · have hx' := mem_disI.1 hx
      have hxn : x.toNat ≠ oneN t := fun e => hxo (by rw [List.mem_singleton]; omega)
      have hgin : inT t ([(oneN t : Int)] ++ [x]) := fun z hz => by
        rcases List.mem_append.1 hz with hz | hz
        · rw [List.mem_singleton] at hz; have := h.one.1; omega
        · rw [List.mem_singleton] at hz; omega
      have hc := clo_ns h hgin
      have hc3 : cloL t ([(oneN t : Int)] ++ [x]) = allI t := Classical.byContradiction fun hno => by
        have hno1 : cloL t ([(oneN t : Int)] ++ [x]) ≠ [(oneN t : Int)] := fun e => by
          have := clo_has h hgin x (by simp)
          rw [e, List.mem_singleton] at this; omega
        have := (List.nodup_cons.2 ⟨by simp only [List.mem_cons, List.not_mem_nil, or_false, not_or]; exact ⟨hno1, hno⟩, List.nodup_cons.2 ⟨by simpa using hne, by simp⟩⟩ : [cloL t ([(oneN t : Int)] ++ [x]), [(oneN t : Int)], allI t].Nodup).length_le_of_subset (l₂ := nsL t) fun l hl => by
          rcases List.mem_cons.1 hl with rfl | hl
          · exact nsL_mem.2 hc
          · rcases List.mem_cons.1 hl with rfl | hl
            · exact h1
            · rw [List.mem_singleton] at hl; rw [hl]; exact h2
        simp at this; omega
      refine (gd_iff h (all_ns h).cl (fun y hy => mem_disI.2 ((one_ns h).cl.ins y hy)) hx).2 ?_
      show (cloL t ([(oneN t : Int)] ++ [x])).length = _
      rw [hc3]
end
end Go.Proofs.YtdjbbjjmjopofaaGreat
