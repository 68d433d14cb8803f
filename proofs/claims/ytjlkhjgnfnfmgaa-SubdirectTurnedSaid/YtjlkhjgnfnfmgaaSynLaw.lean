import Derived.Test.YtjlkhjgnfnfmgaaEqvLaw
import Derived.Test.YtjlkhjgnfnfmgaaQuoLaw
import Derived.Test.YtjlkhjgnfnfmgaaReesLaw
section
/- Plain: a forest of parents, none above its child's number: roots, halving, union. -/
namespace Go.Proofs.Ytjlkhjgnfnfmgaa
structure Fo (n : Nat) (p : List Int) (r : Nat → Nat) : Prop where
  len : p.length = n
  le : ∀ i, i < n → 0 ≤ p.getD i 0 ∧ p.getD i 0 ≤ (i : Int)
  par : ∀ i, i < n → r (p.getD i 0).toNat = r i
  fix : ∀ i, i < n → p.getD i 0 = (i : Int) → r i = i
def halfL (p : List Int) (i : Nat) : List Int := p.set i (p.getD (p.getD i 0).toNat 0)
def fndL : Nat → List Int → Nat → List Int
  | 0, p, _ => p
  | f + 1, p, i => if p.getD i 0 = (i : Int) then p else fndL f (halfL p i) ((halfL p i).getD i 0).toNat
theorem Fo.rle {n : Nat} {p : List Int} {r : Nat → Nat} (h : Fo n p r) : ∀ m i, i < m → i < n → r i ≤ i := by
  intro m
  induction m with
  | zero => intro i hi; omega
  | succ m ih =>
    intro i hi hn
    by_cases e : p.getD i 0 = (i : Int)
    · rw [h.fix i hn e]; exact Nat.le_refl _
    · have := h.le i hn
      have h1 := ih (p.getD i 0).toNat (by omega) (by omega)
      rw [h.par i hn] at h1; omega
theorem Fo.root {n : Nat} {p : List Int} {r : Nat → Nat} (h : Fo n p r) : ∀ m i, i < m → i < n → p.getD (r i) 0 = (r i : Int) := by
  intro m
  induction m with
  | zero => intro i hi; omega
  | succ m ih =>
    intro i hi hn
    by_cases e : p.getD i 0 = (i : Int)
    · rw [h.fix i hn e]; exact e
    · have := h.le i hn
      have h1 := ih (p.getD i 0).toNat (by omega) (by omega)
      rwa [h.par i hn] at h1
theorem Fo.rlt {n : Nat} {p : List Int} {r : Nat → Nat} (h : Fo n p r) {i : Nat} (hi : i < n) : r i < n := Nat.lt_of_le_of_lt (h.rle (i + 1) i (by omega) hi) hi
theorem Fo.rr {n : Nat} {p : List Int} {r : Nat → Nat} (h : Fo n p r) {i : Nat} (hi : i < n) : r (r i) = r i := h.fix _ (h.rlt hi) (h.root (i + 1) i (by omega) hi)
theorem Fo.half {n : Nat} {p : List Int} {r : Nat → Nat} (h : Fo n p r) {i : Nat} (hi : i < n) : Fo n (halfL p i) r := by
  have h0 := h.le i hi
  have h1 := h.le (p.getD i 0).toNat (by omega)
  have hl := h.len
  have hg : ∀ k, (halfL p i).getD k 0 = if k = i then p.getD (p.getD i 0).toNat 0 else p.getD k 0 := fun k => by
    unfold halfL
    by_cases e : k = i
    · subst e; rw [getD_set_eq (by omega), if_pos rfl]
    · rw [getD_set_ne (Ne.symm e), if_neg e]
  refine ⟨by unfold halfL; rw [List.length_set]; exact h.len, fun k hk => ?_, fun k hk => ?_, fun k hk e => ?_⟩
  · rw [hg]
    by_cases e : k = i
    · subst e; rw [if_pos rfl]; omega
    · rw [if_neg e]; exact h.le k hk
  · rw [hg]
    by_cases e : k = i
    · subst e; rw [if_pos rfl, h.par _ (by omega), h.par _ hk]
    · rw [if_neg e]; exact h.par k hk
  · rw [hg] at e
    by_cases e1 : k = i
    · subst e1; rw [if_pos rfl] at e; exact h.fix k hk (by omega)
    · rw [if_neg e1] at e; exact h.fix k hk e
theorem fndL_fo {n : Nat} {r : Nat → Nat} : ∀ (f : Nat) {p : List Int} {i : Nat}, Fo n p r → i < n → Fo n (fndL f p i) r
  | 0, _, _, h, _ => h
  | f + 1, p, i, h, hi => by
    unfold fndL
    split
    · exact h
    · have := (h.half hi).le i hi
      exact fndL_fo f (h.half hi) (by omega)
theorem half_lt {n : Nat} {p : List Int} {r : Nat → Nat} (h : Fo n p r) {i : Nat} (hi : i < n) (e : p.getD i 0 ≠ (i : Int)) : ((halfL p i).getD i 0).toNat < i := by
  have h0 := h.le i hi
  have h1 := h.le (p.getD i 0).toNat (by omega)
  have hl := h.len
  unfold halfL
  rw [getD_set_eq (by omega)]; omega
theorem fndL_fuel {n : Nat} {r : Nat → Nat} : ∀ (f g : Nat) {p : List Int} {i : Nat}, Fo n p r → i < n → i < f → i < g → fndL f p i = fndL g p i
  | 0, _, _, _, _, _, hf, _ => by omega
  | _ + 1, 0, _, _, _, _, _, hg => by omega
  | f + 1, g + 1, p, i, h, hi, hf, hg => by
    unfold fndL
    split
    · rfl
    · rename_i e
      have := half_lt h hi e
      exact fndL_fuel f g (h.half hi) (by omega) (by omega) (by omega)
def ufR (r : Nat → Nat) (i j : Nat) : Nat → Nat := fun k => if r k = max (r i) (r j) then min (r i) (r j) else r k
def ufL (r : Nat → Nat) (p : List Int) (i j : Nat) : List Int := (fndL (j + 1) (fndL (i + 1) p i) j).set (max (r i) (r j)) ((min (r i) (r j) : Nat) : Int)
theorem Fo.union {n : Nat} {p : List Int} {r : Nat → Nat} (h : Fo n p r) {i j : Nat} (hi : i < n) (hj : j < n) : Fo n (ufL r p i j) (ufR r i j) := by
  have h2 := fndL_fo (j + 1) (fndL_fo (i + 1) h hi) hj
  unfold ufL
  revert h2
  generalize fndL (j + 1) (fndL (i + 1) p i) j = q
  intro h2
  have ri := h2.rlt hi
  have rj := h2.rlt hj
  have rri := h2.rr hi
  have rrj := h2.rr hj
  have hl := h2.len
  have hm : max (r i) (r j) < n := by omega
  have rm : r (max (r i) (r j)) = max (r i) (r j) := by
    rcases Nat.le_total (r i) (r j) with e | e
    · rw [Nat.max_eq_right e]; exact rrj
    · rw [Nat.max_eq_left e]; exact rri
  have rn : r (min (r i) (r j)) = min (r i) (r j) := by
    rcases Nat.le_total (r i) (r j) with e | e
    · rw [Nat.min_eq_left e]; exact rri
    · rw [Nat.min_eq_right e]; exact rrj
  have hle : min (r i) (r j) ≤ max (r i) (r j) := by omega
  generalize hM : max (r i) (r j) = M at *
  generalize hN : min (r i) (r j) = N at *
  have hg : ∀ k, (q.set M (N : Int)).getD k 0 = if k = M then (N : Int) else q.getD k 0 := fun k => by
    by_cases e : k = M
    · subst e; rw [getD_set_eq (by omega), if_pos rfl]
    · rw [getD_set_ne (Ne.symm e), if_neg e]
  have hu : ∀ k, ufR r i j k = if r k = M then N else r k := fun k => by unfold ufR; rw [hM, hN]
  refine ⟨by rw [List.length_set]; exact hl, fun k hk => ?_, fun k hk => ?_, fun k hk e => ?_⟩
  · rw [hg]
    by_cases e : k = M
    · rw [if_pos e]; omega
    · rw [if_neg e]; exact h2.le k hk
  · rw [hg, hu, hu]
    by_cases e : k = M
    · subst e
      rw [if_pos rfl, Int.toNat_natCast, rn, rm, if_pos rfl]
      split <;> rfl
    · rw [if_neg e, h2.par k hk]
  · rw [hg] at e
    rw [hu]
    by_cases e1 : k = M
    · subst e1
      rw [if_pos rfl] at e
      rw [rm, if_pos rfl]; omega
    · rw [if_neg e1] at e
      have := h2.fix k hk e
      rw [this, if_neg e1]
def KerR (n : Nat) (r : Nat → Nat) (R : Nat → Nat → Prop) : Prop := ∀ a b, a < n → b < n → (r a = r b ↔ Eg R a b)
theorem KerR.union {n : Nat} {r : Nat → Nat} {R : Nat → Nat → Prop} (h : KerR n r R) {i j : Nat} (hi : i < n) (hj : j < n) : KerR n (ufR r i j) (orP R i j) := fun a b ha hb => by
  rw [eg_or, ← h a b ha hb, ← h a i ha hi, ← h j b hj hb, ← h a j ha hj, ← h i b hi hb]
  unfold ufR
  have m1 : max (r i) (r j) = r i ∧ min (r i) (r j) = r j ∨ max (r i) (r j) = r j ∧ min (r i) (r j) = r i := by omega
  generalize r a = x; generalize r b = y
  revert m1
  generalize r i = u; generalize r j = v; generalize max u v = M; generalize min u v = N
  intro m1
  split <;> split <;> omega
theorem Fo.dis (n : Nat) : Fo n (disI n) id :=
  ⟨disI_len n, fun i hi => by rw [disI_get hi]; omega, fun i hi => by rw [disI_get hi]; simp, fun i _ _ => rfl⟩
theorem KerR.dis (n : Nat) : KerR n id fun _ _ => False := fun a b _ _ =>
  ⟨fun e => by have e : a = b := e; subst e; exact .refl _, fun e => e.least (Q := fun a b => id a = id b) (fun _ => rfl) (fun _ _ e => e.symm) (fun _ _ _ e f => e.trans f) fun _ _ f => f.elim⟩
def fndA (p : List Int) : Nat → List Int
  | 0 => p
  | k + 1 => fndL (k + 1) (fndA p k) k
theorem fndA_fo {n : Nat} {p : List Int} {r : Nat → Nat} (h : Fo n p r) : ∀ k, k ≤ n → Fo n (fndA p k) r
  | 0, _ => h
  | k + 1, hk => fndL_fo (k + 1) (fndA_fo h k (by omega)) hk
def rtL (n : Nat) (r : Nat → Nat) : List Int := (List.range n).map fun i => (r i : Int)
theorem rtL_len (n : Nat) (r : Nat → Nat) : (rtL n r).length = n := by simp [rtL]
theorem rtL_get {n : Nat} {r : Nat → Nat} {i : Nat} (h : i < n) : (rtL n r).getD i 0 = (r i : Int) := by simp [rtL, List.getD, h]
theorem KerR.ker {n : Nat} {r : Nat → Nat} {R : Nat → Nat → Prop} (h : KerR n r R) : KerOf n (rtL n r) R :=
  ⟨rtL_len n r, fun a b ha hb => by rw [rtL_get ha, rtL_get hb, ← h a b ha hb]; omega⟩
def prR (r : Nat → Nat) : List (Int × Int) → Nat → Nat
  | [] => r
  | x :: l => prR (ufR r x.1.toNat x.2.toNat) l
end Go.Proofs.Ytjlkhjgnfnfmgaa
end
section
/- Plain: the congruence that pairs generate; how the forest of congr makes it. -/
namespace Go.Proofs.Ytjlkhjgnfnfmgaa
open Go Go.AM
inductive Cgr (t : List (List Int)) (side : Int) (R : Nat → Nat → Prop) : Nat → Nat → Prop
  | rel {a b : Nat} (h : R a b) : Cgr t side R a b
  | refl (a : Nat) : Cgr t side R a a
  | symm {a b : Nat} (h : Cgr t side R a b) : Cgr t side R b a
  | trans {a b c : Nat} (h : Cgr t side R a b) (h' : Cgr t side R b c) : Cgr t side R a c
  | left {a b s : Nat} (h0 : side ≠ 2) (hs : s < t.length) (ha : a < t.length) (hb : b < t.length) (h : Cgr t side R a b) : Cgr t side R (en t s a) (en t s b)
  | right {a b s : Nat} (h0 : side ≠ 1) (hs : s < t.length) (ha : a < t.length) (hb : b < t.length) (h : Cgr t side R a b) : Cgr t side R (en t a s) (en t b s)
theorem Cgr.least {t : List (List Int)} {side : Int} {R Q : Nat → Nat → Prop} (hr : ∀ a, Q a a) (hs : ∀ a b, Q a b → Q b a) (ht : ∀ a b c, Q a b → Q b c → Q a c) (h : ∀ a b, R a b → Q a b)
    (hl : side ≠ 2 → ∀ a b s, s < t.length → a < t.length → b < t.length → Q a b → Q (en t s a) (en t s b)) (hR : side ≠ 1 → ∀ a b s, s < t.length → a < t.length → b < t.length → Q a b → Q (en t a s) (en t b s)) {a b : Nat} (e : Cgr t side R a b) : Q a b := by
  induction e with
  | rel h1 => exact h _ _ h1
  | refl a => exact hr a
  | symm _ ih => exact hs _ _ ih
  | trans _ _ i1 i2 => exact ht _ _ _ i1 i2
  | left h0 h1 h2 h3 _ ih => exact hl h0 _ _ _ h1 h2 h3 ih
  | right h0 h1 h2 h3 _ ih => exact hR h0 _ _ _ h1 h2 h3 ih
noncomputable def cgrB (t : List (List Int)) (side : Int) (R : Nat → Nat → Prop) (a b : Nat) : Bool := @decide (Cgr t side R a b) (Classical.propDecidable _)
theorem cgrB_true {t : List (List Int)} {side : Int} {R : Nat → Nat → Prop} {a b : Nat} : cgrB t side R a b = true ↔ Cgr t side R a b := by unfold cgrB; exact @decide_eq_true_iff _ (Classical.propDecidable _)
theorem cgr_pre (t : List (List Int)) (side : Int) (R : Nat → Nat → Prop) : Pre t.length (cgrB t side R) :=
  pre_of (fun x _ => cgrB_true.2 (.refl x)) fun _ _ _ _ _ _ h h' => cgrB_true.2 ((cgrB_true.1 h).trans (cgrB_true.1 h'))
noncomputable def genP (t : List (List Int)) (side : Int) (R : Nat → Nat → Prop) : List Int := clsL t.length (cgrB t side R)
section
variable {t : List (List Int)} {side : Int} {R : Nat → Nat → Prop}
theorem genP_len : (genP t side R).length = t.length := clsL_len _ _
theorem genP_canon : canon (genP t side R) = genP t side R := canon_idem _
theorem genP_iff {a b : Nat} (ha : a < t.length) (hb : b < t.length) : (genP t side R).getD a 0 = (genP t side R).getD b 0 ↔ Cgr t side R a b := by
  unfold genP
  rw [clsL_iff (cgr_pre t side R) ha hb, cgrB_true, cgrB_true]
  exact ⟨fun h => h.1, fun h => ⟨h, h.symm⟩⟩
theorem genP_cg (hs : Sh t) : Cg t (genP t side R) side := fun x y s hx hy hsl e => by
  have e := (genP_iff hx hy).1 e
  exact ⟨fun h0 => (genP_iff (hs.ent hsl hx).2 (hs.ent hsl hy).2).2 (.left h0 hsl hx hy e), fun h0 => (genP_iff (hs.ent hx hsl).2 (hs.ent hy hsl).2).2 (.right h0 hsl hx hy e)⟩
theorem genP_valid (hs : Sh t) : validP (genP t side R) := ⟨by rw [genP_len]; have := hs.most; omega, genP_canon⟩
theorem genP_is (h : Semi t) (h0 : 0 ≤ side ∧ side ≤ 2) : IsCg t (genP t side R) side := ⟨h, genP_len, genP_valid h.toSh, h0, genP_cg h.toSh⟩
theorem Cgr.sub {p : List Int} (hR : ∀ a b, R a b → p.getD a 0 = p.getD b 0) (hg : Cg t p side) {a b : Nat} (e : Cgr t side R a b) : p.getD a 0 = p.getD b 0 :=
  e.least (Q := fun a b => p.getD a 0 = p.getD b 0) (fun _ => rfl) (fun _ _ h => h.symm) (fun _ _ _ h h' => h.trans h') hR
    (fun h0 a b s hs ha hb h => (hg a b s ha hb hs h).1 h0) (fun h0 a b s hs ha hb h => (hg a b s ha hb hs h).2 h0)
theorem genP_of {p : List Int} (hl : p.length = t.length) (h1 : ∀ a b, a < t.length → b < t.length → p.getD a 0 = p.getD b 0 → Cgr t side R a b) (hR : ∀ a b, R a b → p.getD a 0 = p.getD b 0) (hg : Cg t p side) : canon p = genP t side R := by
  refine ker_clsL (cgr_pre t side R) hl fun a b ha hb => ?_
  rw [cgrB_true, cgrB_true]
  exact ⟨fun e => ⟨h1 a b ha hb e, (h1 a b ha hb e).symm⟩, fun e => e.1.sub hR hg⟩
end
/-! ### From generators to all elements -/
section
variable {t : List (List Int)} {side : Int}
theorem eg_gens {J : Nat → Nat → Prop} (hs : Semi t) (_hJ : ∀ a b, J a b → a < t.length ∧ b < t.length) {gens : List Int} (hg : ∀ g ∈ gens, 0 ≤ g ∧ g < (t.length : Int))
    (hc : ∀ a b, J a b → ∀ g ∈ gens, (side ≠ 2 → Eg J (en t g.toNat a) (en t g.toNat b)) ∧ (side ≠ 1 → Eg J (en t a g.toNat) (en t b g.toNat))) {s : Nat} (m : Mk t gens s) :
    ∀ a b, a < t.length → b < t.length → Eg J a b → (side ≠ 2 → Eg J (en t s a) (en t s b)) ∧ (side ≠ 1 → Eg J (en t a s) (en t b s)) := by
  have hS := hs.toSh
  have base : ∀ g ∈ gens, ∀ a b, Eg J a b → (side ≠ 2 → Eg J (en t g.toNat a) (en t g.toNat b)) ∧ (side ≠ 1 → Eg J (en t a g.toNat) (en t b g.toNat)) := fun g hgm a b e =>
    e.least (Q := fun a b => (side ≠ 2 → Eg J (en t g.toNat a) (en t g.toNat b)) ∧ (side ≠ 1 → Eg J (en t a g.toNat) (en t b g.toNat))) (fun _ => ⟨fun _ => .refl _, fun _ => .refl _⟩) (fun _ _ h => ⟨fun h0 => (h.1 h0).symm, fun h0 => (h.2 h0).symm⟩)
      (fun _ _ _ h h' => ⟨fun h0 => (h.1 h0).trans (h'.1 h0), fun h0 => (h.2 h0).trans (h'.2 h0)⟩) fun a b h => hc a b h g hgm
  have key : ∀ {s : Nat}, Mk t gens s → s < t.length ∧ ∀ a b, a < t.length → b < t.length → Eg J a b → (side ≠ 2 → Eg J (en t s a) (en t s b)) ∧ (side ≠ 1 → Eg J (en t a s) (en t b s)) := fun {s} m => by
    induction m with
    | gen h => exact ⟨by have := hg _ h; omega, fun a b _ _ e => base _ h a b e⟩
    | mul ha hb i1 i2 =>
      rename_i u v
      refine ⟨(hS.ent i1.1 i2.1).2, fun a b hal hbl e => ⟨fun h0 => ?_, fun h0 => ?_⟩⟩
      · rw [assoc3 hs.assoc i1.1 i2.1 hal, assoc3 hs.assoc i1.1 i2.1 hbl]
        exact (i1.2 _ _ (hS.ent i2.1 hal).2 (hS.ent i2.1 hbl).2 ((i2.2 a b hal hbl e).1 h0)).1 h0
      · rw [← assoc3 hs.assoc hal i1.1 i2.1, ← assoc3 hs.assoc hbl i1.1 i2.1]
        exact (i2.2 _ _ (hS.ent hal i1.1).2 (hS.ent hbl i1.1).2 ((i1.2 a b hal hbl e).2 h0)).2 h0
  exact (key m).2
end
/-! ### The forest: joined or not; the number of classes -/
def rtB (r : Nat → Nat) (i : Nat) : Bool := decide (r i = i)
def cntR (n : Nat) (r : Nat → Nat) : Nat := ((List.range n).filter (rtB r)).length
theorem cnt_del {P : Nat → Bool} {M : Nat} : ∀ {n : Nat}, M < n → P M = true → ((List.range n).filter fun i => P i && decide (i ≠ M)).length + 1 = ((List.range n).filter P).length := by
  have no : ∀ n, n ≤ M → ((List.range n).filter fun i => P i && decide (i ≠ M)) = (List.range n).filter P := fun n hn =>
    List.filter_congr fun x hx => by
      have := List.mem_range.1 hx
      have : x ≠ M := by omega
      simp [this]
  intro n
  induction n with
  | zero => intro h; omega
  | succ n ih =>
    intro h hp
    rw [List.range_succ, List.filter_append, List.filter_append, List.length_append, List.length_append]
    by_cases e : M = n
    · subst e
      rw [no M (Nat.le_refl _)]
      simp [hp]
    · have := ih (by omega) hp
      have hn : (decide (n ≠ M)) = true := decide_eq_true (fun h => e h.symm)
      have : ([n].filter fun i => P i && decide (i ≠ M)) = [n].filter P := by
        simp only [List.filter_cons, hn, Bool.and_true, List.filter_nil]
      rw [this]; omega
theorem cnt_union {n : Nat} {p : List Int} {r : Nat → Nat} (h : Fo n p r) {i j : Nat} (hi : i < n) (hj : j < n) (hne : r i ≠ r j) : cntR n (ufR r i j) + 1 = cntR n r := by
  have hM : max (r i) (r j) < n := by have := h.rlt hi; have := h.rlt hj; omega
  have hr : r (max (r i) (r j)) = max (r i) (r j) ∧ r (min (r i) (r j)) = min (r i) (r j) := by
    have h1 := h.rr hi
    have h2 := h.rr hj
    rcases Nat.le_total (r i) (r j) with e | e
    · rw [Nat.max_eq_right e, Nat.min_eq_left e]; exact ⟨h2, h1⟩
    · rw [Nat.max_eq_left e, Nat.min_eq_right e]; exact ⟨h1, h2⟩
  have hlt : min (r i) (r j) < max (r i) (r j) := by omega
  have := cnt_del (P := rtB r) hM (by unfold rtB; exact decide_eq_true hr.1)
  unfold cntR
  rw [← this]
  congr 1
  refine congrArg List.length (List.filter_congr fun k hk => ?_)
  unfold rtB ufR
  generalize max (r i) (r j) = M at *
  generalize min (r i) (r j) = m at *
  by_cases e : r k = M
  · rw [if_pos e]
    have h1 : ¬ m = k := fun e2 => by rw [← e2, hr.2] at e; omega
    by_cases h2 : k = M
    · simp [h2]
      intro; omega
    · have h3 : ¬ r k = k := fun e2 => h2 (by omega)
      simp [h1, h3]
  · rw [if_neg e]
    have h2 : k ≠ M := fun e2 => e (by rw [e2]; exact hr.1)
    simp [h2]
theorem cnt_le (n : Nat) (r : Nat → Nat) : cntR n r ≤ n := by
  have := List.length_filter_le (rtB r) (List.range n)
  rw [List.length_range] at this
  exact this
theorem cnt_id (n : Nat) : cntR n id = n := by
  unfold cntR
  rw [List.filter_eq_self.2 fun x _ => by unfold rtB; exact decide_eq_true rfl, List.length_range]
def fn2L (p : List Int) (i j : Nat) : List Int := fndL (j + 1) (fndL (i + 1) p i) j
theorem fn2_fo {n : Nat} {p : List Int} {r : Nat → Nat} (h : Fo n p r) {i j : Nat} (hi : i < n) (hj : j < n) : Fo n (fn2L p i j) r := fndL_fo _ (fndL_fo _ h hi) hj
def jnP (r : Nat → Nat) (p : List Int) (i j : Nat) : List Int := if r i = r j then fn2L p i j else ufL r p i j
def jnR (r : Nat → Nat) (i j : Nat) : Nat → Nat := if r i = r j then r else ufR r i j
theorem jn_fo {n : Nat} {p : List Int} {r : Nat → Nat} (h : Fo n p r) {i j : Nat} (hi : i < n) (hj : j < n) : Fo n (jnP r p i j) (jnR r i j) := by
  unfold jnP jnR
  by_cases e : r i = r j
  · rw [if_pos e, if_pos e]; exact fn2_fo h hi hj
  · rw [if_neg e, if_neg e]; exact h.union hi hj
theorem jn_ker {n : Nat} {r : Nat → Nat} {R : Nat → Nat → Prop} (h : KerR n r R) {i j : Nat} (hi : i < n) (hj : j < n) : KerR n (jnR r i j) (orP R i j) := by
  unfold jnR
  by_cases e : r i = r j
  · rw [if_pos e]
    intro a b ha hb
    rw [h a b ha hb]
    refine ⟨fun k => k.mono fun a b h => .rel (.inl h), fun k => k.mono fun a b h => ?_⟩
    rcases h with h | ⟨rfl, rfl⟩
    · exact .rel h
    · exact (h a b hi hj).1 e
  · rw [if_neg e]; exact h.union hi hj
theorem jn_cnt {n : Nat} {p : List Int} {r : Nat → Nat} (h : Fo n p r) {i j : Nat} (hi : i < n) (hj : j < n) : cntR n (jnR r i j) + (if r i = r j then 0 else 1) = cntR n r := by
  unfold jnR
  by_cases e : r i = r j
  · rw [if_pos e, if_pos e, Nat.add_zero]
  · rw [if_neg e, if_neg e]; exact cnt_union h hi hj e
/-! ### The spreading of joined pairs -/
def inW (n : Nat) (W : List (Int × Int)) : Prop := ∀ q ∈ W, (0 ≤ q.1 ∧ q.1 < (n : Int)) ∧ 0 ≤ q.2 ∧ q.2 < (n : Int)
theorem inW_app {n : Nat} {V W : List (Int × Int)} : inW n (V ++ W) ↔ inW n V ∧ inW n W :=
  ⟨fun h => ⟨fun q hq => h q (List.mem_append_left _ hq), fun q hq => h q (List.mem_append_right _ hq)⟩, fun h q hq => (List.mem_append.1 hq).elim (h.1 q) (h.2 q)⟩
end Go.Proofs.Ytjlkhjgnfnfmgaa
end
section
/- Plain: the greatest congruence in a partition; how the splitter of congr makes it. -/
namespace Go.Proofs.Ytjlkhjgnfnfmgaa
open Go Go.AM
section
variable {t : List (List Int)} {p : List Int}
structure Syn (t : List (List Int)) (p : List Int) (x y : Nat) : Prop where
  own : p.getD x 0 = p.getD y 0
  one : ∀ u, u < t.length → p.getD (en t u x) 0 = p.getD (en t u y) 0 ∧ p.getD (en t x u) 0 = p.getD (en t y u) 0
  two : ∀ u v, u < t.length → v < t.length → p.getD (en t (en t u x) v) 0 = p.getD (en t (en t u y) v) 0
theorem Syn.refl (x : Nat) : Syn t p x x := ⟨rfl, fun _ _ => ⟨rfl, rfl⟩, fun _ _ _ _ => rfl⟩
theorem Syn.symm {x y : Nat} (h : Syn t p x y) : Syn t p y x := ⟨h.own.symm, fun u hu => ⟨(h.one u hu).1.symm, (h.one u hu).2.symm⟩, fun u v hu hv => (h.two u v hu hv).symm⟩
theorem Syn.trans {x y z : Nat} (h : Syn t p x y) (h' : Syn t p y z) : Syn t p x z :=
  ⟨h.own.trans h'.own, fun u hu => ⟨(h.one u hu).1.trans (h'.one u hu).1, (h.one u hu).2.trans (h'.one u hu).2⟩, fun u v hu hv => (h.two u v hu hv).trans (h'.two u v hu hv)⟩
noncomputable def synB (t : List (List Int)) (p : List Int) (x y : Nat) : Bool := @decide (Syn t p x y) (Classical.propDecidable _)
theorem synB_true {x y : Nat} : synB t p x y = true ↔ Syn t p x y := by unfold synB; exact @decide_eq_true_iff _ (Classical.propDecidable _)
theorem syn_pre (t : List (List Int)) (p : List Int) : Pre t.length (synB t p) :=
  pre_of (fun x _ => synB_true.2 (.refl x)) fun _ _ _ _ _ _ h h' => synB_true.2 ((synB_true.1 h).trans (synB_true.1 h'))
noncomputable def synP (t : List (List Int)) (p : List Int) : List Int := clsL t.length (synB t p)
theorem synP_len : (synP t p).length = t.length := clsL_len _ _
theorem synP_canon : canon (synP t p) = synP t p := canon_idem _
theorem synP_iff {a b : Nat} (ha : a < t.length) (hb : b < t.length) : (synP t p).getD a 0 = (synP t p).getD b 0 ↔ Syn t p a b := by
  unfold synP
  rw [clsL_iff (syn_pre t p) ha hb, synB_true, synB_true]
  exact ⟨fun h => h.1, fun h => ⟨h, h.symm⟩⟩
theorem syn_cg (h : Semi t) {x y s : Nat} (hx : x < t.length) (hy : y < t.length) (hs : s < t.length) (e : Syn t p x y) : Syn t p (en t s x) (en t s y) ∧ Syn t p (en t x s) (en t y s) := by
  have hS := h.toSh
  have a3 := fun {x y z : Nat} => assoc3 h.assoc (x := x) (y := y) (z := z)
  refine ⟨⟨(e.one s hs).1, fun u hu => ⟨?_, ?_⟩, fun u v hu hv => ?_⟩, ⟨(e.one s hs).2, fun u hu => ⟨?_, ?_⟩, fun u v hu hv => ?_⟩⟩
  · rw [← a3 hu hs hx, ← a3 hu hs hy]; exact (e.one _ (hS.ent hu hs).2).1
  · exact e.two s u hs hu
  · rw [← a3 hu hs hx, ← a3 hu hs hy]; exact e.two _ v (hS.ent hu hs).2 hv
  · rw [← a3 hu hx hs, ← a3 hu hy hs]; exact e.two u s hu hs
  · rw [a3 hx hs hu, a3 hy hs hu]; exact (e.one _ (hS.ent hs hu).2).2
  · rw [← a3 hu hx hs, ← a3 hu hy hs, a3 (hS.ent hu hx).2 hs hv, a3 (hS.ent hu hy).2 hs hv]; exact e.two u _ hu (hS.ent hs hv).2
theorem synP_cg (h : Semi t) : Cg t (synP t p) 0 := fun x y s hx hy hs e => by
  have hS := h.toSh
  have := syn_cg (p := p) h hx hy hs ((synP_iff hx hy).1 e)
  exact ⟨fun _ => (synP_iff (hS.ent hs hx).2 (hS.ent hs hy).2).2 this.1, fun _ => (synP_iff (hS.ent hx hs).2 (hS.ent hy hs).2).2 this.2⟩
theorem synP_valid (hs : Sh t) : validP (synP t p) := ⟨by rw [synP_len]; have := hs.most; omega, synP_canon⟩
theorem synP_is (h : Semi t) : IsCg t (synP t p) 0 := ⟨h, synP_len, synP_valid h.toSh, ⟨by omega, by omega⟩, synP_cg h⟩
theorem syn_great (hs : Sh t) {q : List Int} (hq : Cg t q 0) (hr : ∀ x y, x < t.length → y < t.length → q.getD x 0 = q.getD y 0 → p.getD x 0 = p.getD y 0) {x y : Nat} (hx : x < t.length) (hy : y < t.length) (e : q.getD x 0 = q.getD y 0) : Syn t p x y := by
  have l := fun {x y s : Nat} (hx : x < t.length) (hy : y < t.length) (hs : s < t.length) e => (hq x y s hx hy hs e).1 (by decide)
  have r := fun {x y s : Nat} (hx : x < t.length) (hy : y < t.length) (hs : s < t.length) e => (hq x y s hx hy hs e).2 (by decide)
  exact ⟨hr x y hx hy e, fun u hu => ⟨hr _ _ (hs.ent hu hx).2 (hs.ent hu hy).2 (l hx hy hu e), hr _ _ (hs.ent hx hu).2 (hs.ent hy hu).2 (r hx hy hu e)⟩,
    fun u v hu hv => hr _ _ (hs.ent (hs.ent hu hx).2 hv).2 (hs.ent (hs.ent hu hy).2 hv).2 (r (hs.ent hu hx).2 (hs.ent hu hy).2 hv (l hx hy hu e))⟩
theorem synP_of (h : Semi t) {c : List Int} (hl : c.length = t.length) (h1 : ∀ x y, x < t.length → y < t.length → c.getD x 0 = c.getD y 0 → p.getD x 0 = p.getD y 0) (h2 : ∀ x y, x < t.length → y < t.length → Syn t p x y → c.getD x 0 = c.getD y 0) (h3 : Cg t c 0) : canon c = synP t p := by
  refine ker_clsL (syn_pre t p) hl fun a b ha hb => ?_
  rw [synB_true, synB_true]
  exact ⟨fun e => ⟨syn_great h.toSh h3 h1 ha hb e, (syn_great h.toSh h3 h1 ha hb e).symm⟩, fun e => h2 a b ha hb e.1⟩
end
/-! ### The splitter -/
section
variable {α : Type} [DecidableEq α]
def idxD (l : List α) (q : α) : Nat := l.idxOf q
theorem firsts_in {l : List α} {x : α} (h : x ∈ l) : firsts (l ++ [x]) = firsts l := by rw [firsts_snoc, if_pos h]
theorem firsts_out {l : List α} {x : α} (h : x ∉ l) : firsts (l ++ [x]) = firsts l ++ [x] := by rw [firsts_snoc, if_neg h]
theorem canon_in {l : List α} {d : α} {i : Nat} (h : i < l.length) (hm : l.getD i d ∈ l.take i) : (canon l).getD i 0 = (idxD (firsts (l.take i)) (l.getD i d) : Nat) := by rw [canon_at (d := d) h, if_pos hm]; rfl
theorem canon_out {l : List α} {d : α} {i : Nat} (h : i < l.length) (hm : l.getD i d ∉ l.take i) : (canon l).getD i 0 = ((firsts (l.take i)).length : Nat) := by rw [canon_at (d := d) h, if_neg hm]
theorem idxD_in {l m : List α} {q : α} (h : q ∈ l) : idxD (l ++ m) q = idxD l q := by unfold idxD; rw [List.idxOf_append, if_pos h]
theorem idxD_out {l : List α} {q : α} (h : q ∉ l) : idxD (l ++ [q]) q = l.length := by unfold idxD; rw [List.idxOf_append, if_neg h]; simp
end
def spP (c im : List Int) : List (Int × Int) := (List.range c.length).map fun x => (c.getD x 0, c.getD (im.getD x 0).toNat 0)
def spC (c im : List Int) : List Int := canon (spP c im)
theorem spP_len (c im : List Int) : (spP c im).length = c.length := by simp [spP]
theorem spC_len (c im : List Int) : (spC c im).length = c.length := by unfold spC; rw [canon_length, spP_len]
theorem spP_get {c im : List Int} {x : Nat} (h : x < c.length) : (spP c im).getD x (0, 0) = (c.getD x 0, c.getD (im.getD x 0).toNat 0) := by simp [spP, List.getD, h]
theorem spC_iff {c im : List Int} {x y : Nat} (hx : x < c.length) (hy : y < c.length) : (spC c im).getD x 0 = (spC c im).getD y 0 ↔ c.getD x 0 = c.getD y 0 ∧ c.getD (im.getD x 0).toNat 0 = c.getD (im.getD y 0).toNat 0 := by
  unfold spC
  rw [canon_eq_iff (d := (0, 0)) (by rw [spP_len]; exact hx) (by rw [spP_len]; exact hy), spP_get hx, spP_get hy, Prod.mk.injEq]
def spF (c im : List Int) (k : Nat) : List (Int × Int) := firsts ((spP c im).take k)
def codN (n : Nat) (q : Int × Int) : Nat := (q.1 * n + q.2).toNat
def spM (c im : List Int) (round : Int) (M L : List Int) : Nat → List Int × List Int
  | 0 => (M, L)
  | k + 1 => if (spM c im round M L k).1.getD (codN c.length ((spP c im).getD k (0, 0))) 0 = round then spM c im round M L k
    else ((spM c im round M L k).1.set (codN c.length ((spP c im).getD k (0, 0))) round, (spM c im round M L k).2.set (codN c.length ((spP c im).getD k (0, 0))) ((spF c im k).length : Int))
theorem cod_inj {n : Nat} {q q' : Int × Int} (h : 0 ≤ q.1 ∧ 0 ≤ q.2 ∧ q.2 < (n : Int)) (h' : 0 ≤ q'.1 ∧ 0 ≤ q'.2 ∧ q'.2 < (n : Int)) (e : codN n q = codN n q') : q = q' := by
  unfold codN at e
  have p1 : 0 ≤ q.1 * (n : Int) := Int.mul_nonneg h.1 (by omega)
  have p2 : 0 ≤ q'.1 * (n : Int) := Int.mul_nonneg h'.1 (by omega)
  have e : q.1 * (n : Int) + q.2 = q'.1 * (n : Int) + q'.2 := by omega
  have hn : (n : Int) ≠ 0 := by omega
  have e1 : (q.1 * (n : Int) + q.2) / (n : Int) = q.1 := by
    rw [Int.add_comm, Int.add_mul_ediv_right _ _ hn, Int.ediv_eq_zero_of_lt h.2.1 h.2.2]; omega
  have e2 : (q'.1 * (n : Int) + q'.2) / (n : Int) = q'.1 := by
    rw [Int.add_comm, Int.add_mul_ediv_right _ _ hn, Int.ediv_eq_zero_of_lt h'.2.1 h'.2.2]; omega
  have e3 : q.1 = q'.1 := by rw [← e1, ← e2, e]
  rw [e3] at e
  exact Prod.ext e3 (by omega)
structure SpI (c im : List Int) (round : Int) (M L : List Int) (k : Nat) : Prop where
  lm : M.length = c.length * c.length
  ll : L.length = c.length * c.length
  hi : ∀ x ∈ M, x ≤ round
  lo : ∀ x ∈ M, 0 ≤ x
  lab : ∀ x ∈ L, 0 ≤ x ∧ x ≤ (c.length : Int)
  mar : ∀ q : Int × Int, 0 ≤ q.1 → q.1 < (c.length : Int) → 0 ≤ q.2 → q.2 < (c.length : Int) → (M.getD (codN c.length q) 0 = round ↔ q ∈ (spP c im).take k)
  la : ∀ q : Int × Int, q ∈ (spP c im).take k → L.getD (codN c.length q) 0 = (idxD (spF c im k) q : Nat)
section
variable {c im : List Int} {round : Int} {M L : List Int} {k : Nat}
theorem cod_lt {n : Nat} {q : Int × Int} (h1 : 0 ≤ q.1) (h2 : q.1 < (n : Int)) (h3 : 0 ≤ q.2) (h4 : q.2 < (n : Int)) : codN n q < n * n ∧ (codN n q : Int) = q.1 * n + q.2 := by
  unfold codN
  have p1 : 0 ≤ q.1 * (n : Int) := Int.mul_nonneg h1 (by omega)
  have p2 : q.1 * (n : Int) ≤ ((n : Int) - 1) * n := Int.mul_le_mul_of_nonneg_right (by omega) (by omega)
  rw [Int.sub_mul] at p2
  have : ((n * n : Nat) : Int) = (n : Int) * n := by exact Int.natCast_mul n n
  omega
theorem SpI.start (hm : M.length = c.length * c.length) (hl : L.length = c.length * c.length) (hlt : ∀ x ∈ M, x < round) (hlo : ∀ x ∈ M, 0 ≤ x) (hL : ∀ x ∈ L, 0 ≤ x ∧ x ≤ (c.length : Int)) : SpI c im round M L 0 := by
  refine ⟨hm, hl, fun x hx => by have := hlt x hx; omega, hlo, hL, fun q h1 h2 h3 h4 => ?_, fun q h => by simp at h⟩
  have := hlt _ (getD_mem (d := 0) (i := codN c.length q) (l := M) (by rw [hm]; exact (cod_lt h1 h2 h3 h4).1))
  simp only [List.take_zero, List.not_mem_nil, iff_false]
  omega
theorem spP_in (hc : ∀ x ∈ c, 0 ≤ x ∧ x < (c.length : Int)) (him : ∀ x, x < c.length → 0 ≤ im.getD x 0 ∧ im.getD x 0 < (c.length : Int)) {q : Int × Int} (h : q ∈ spP c im) : (0 ≤ q.1 ∧ q.1 < (c.length : Int)) ∧ 0 ≤ q.2 ∧ q.2 < (c.length : Int) := by
  obtain ⟨x, hx, rfl⟩ := mem_getD (0, 0) h
  rw [spP_len] at hx
  rw [spP_get hx]
  have := him x hx
  exact ⟨hc _ (getD_mem hx), hc _ (getD_mem (by omega))⟩
theorem SpI.next (hc : ∀ x ∈ c, 0 ≤ x ∧ x < (c.length : Int)) (him : ∀ x, x < c.length → 0 ≤ im.getD x 0 ∧ im.getD x 0 < (c.length : Int)) (hr : 0 ≤ round) (h : SpI c im round (spM c im round M L k).1 (spM c im round M L k).2 k) (hk : k < c.length) :
    SpI c im round (spM c im round M L (k + 1)).1 (spM c im round M L (k + 1)).2 (k + 1) ∧ (spM c im round M L (k + 1)).2.getD (codN c.length ((spP c im).getD k (0, 0))) 0 = (spC c im).getD k 0 ∧
      ((spM c im round M L k).1.getD (codN c.length ((spP c im).getD k (0, 0))) 0 = round → spF c im (k + 1) = spF c im k) ∧ ((spM c im round M L k).1.getD (codN c.length ((spP c im).getD k (0, 0))) 0 ≠ round → (spF c im (k + 1)).length = (spF c im k).length + 1) := by
  have hkl : k < (spP c im).length := by rw [spP_len]; exact hk
  have hq := spP_in hc him (getD_mem (d := (0, 0)) hkl)
  have htk := take_get (d := ((0 : Int), (0 : Int))) hkl
  have hcan := canon_in (d := ((0 : Int), (0 : Int))) hkl
  have hcan' := canon_out (d := ((0 : Int), (0 : Int))) hkl
  have hmk := h.mar _ hq.1.1 hq.1.2 hq.2.1 hq.2.2
  have hcod := cod_lt hq.1.1 hq.1.2 hq.2.1 hq.2.2
  have hF : (spP c im).getD k (0, 0) ∈ (spP c im).take k → spF c im (k + 1) = spF c im k := fun h => by
    show firsts ((spP c im).take (k + 1)) = _
    rw [htk, firsts_in h]; rfl
  have hF' : (spP c im).getD k (0, 0) ∉ (spP c im).take k → spF c im (k + 1) = spF c im k ++ [(spP c im).getD k (0, 0)] := fun h => by
    show firsts ((spP c im).take (k + 1)) = _
    rw [htk, firsts_out h]; rfl
  have hFl : (spF c im k).length ≤ c.length := by
    have := firsts_le ((spP c im).take k)
    rw [List.length_take, spP_len] at this
    unfold spF; omega
  have hsub : ∀ q : Int × Int, q ∈ (spP c im).take k → (0 ≤ q.1 ∧ q.1 < (c.length : Int)) ∧ 0 ≤ q.2 ∧ q.2 < (c.length : Int) := fun q h => spP_in hc him (List.mem_of_mem_take h)
  revert hcan hcan' hmk hcod hF hF'
  generalize hqk : (spP c im).getD k (0, 0) = qk at *
  intro hcan hcan' hmk hcod hF hF'
  by_cases e : (spM c im round M L k).1.getD (codN c.length qk) 0 = round
  · have hin := hmk.1 e
    have e1 : spM c im round M L (k + 1) = spM c im round M L k := by
      show (if _ then _ else _) = _
      rw [hqk, if_pos e]
    have hF := hF hin
    have hcan := hcan hin
    rw [e1]
    have hm : ∀ q, q ∈ (spP c im).take (k + 1) ↔ q ∈ (spP c im).take k := fun q => by
      rw [htk, List.mem_append, List.mem_singleton]
      exact ⟨fun h => h.elim id fun h => h ▸ hin, .inl⟩
    refine ⟨⟨h.lm, h.ll, h.hi, h.lo, h.lab, fun q h1 h2 h3 h4 => (h.mar q h1 h2 h3 h4).trans (hm q).symm, fun q hq => ?_⟩, ?_, fun _ => hF, fun h => absurd e h⟩
    · rw [hF]; exact h.la q ((hm q).1 hq)
    · unfold spC; rw [h.la _ hin]; exact hcan.symm
  · have hin : ¬ qk ∈ (spP c im).take k := fun h => e (hmk.2 h)
    have e1 : spM c im round M L (k + 1) = ((spM c im round M L k).1.set (codN c.length qk) round, (spM c im round M L k).2.set (codN c.length qk) ((spF c im k).length : Int)) := by
      show (if _ then _ else _) = _
      rw [hqk, if_neg e]
    have hF := hF' hin
    have hcan := hcan' hin
    rw [e1]
    have hm : ∀ q, q ∈ (spP c im).take (k + 1) ↔ q ∈ (spP c im).take k ∨ q = qk := fun q => by
      rw [htk, List.mem_append, List.mem_singleton]
    have hlm := h.lm
    have hll := h.ll
    have hset : ∀ (l : List Int) (v : Int), l.length = c.length * c.length → ∀ q : Int × Int, 0 ≤ q.1 → q.1 < (c.length : Int) → 0 ≤ q.2 → q.2 < (c.length : Int) → (l.set (codN c.length qk) v).getD (codN c.length q) 0 = if q = qk then v else l.getD (codN c.length q) 0 := fun l v hl q h1 h2 h3 h4 => by
      by_cases e2 : q = qk
      · subst e2; rw [getD_set_eq (by rw [hl]; exact hcod.1), if_pos rfl]
      · rw [getD_set_ne (fun e3 => e2 (cod_inj ⟨h1, h3, h4⟩ ⟨hq.1.1, hq.2.1, hq.2.2⟩ e3.symm)), if_neg e2]
    refine ⟨⟨by rw [List.length_set]; exact hlm, by rw [List.length_set]; exact hll, fun x hx => ?_, fun x hx => ?_, fun x hx => ?_, fun q h1 h2 h3 h4 => ?_, fun q hqm => ?_⟩, ?_, fun h => absurd h e, fun _ => by rw [hF]; simp⟩
    · rcases List.mem_or_eq_of_mem_set hx with hx | rfl
      · exact h.hi x hx
      · omega
    · rcases List.mem_or_eq_of_mem_set hx with hx | rfl
      · exact h.lo x hx
      · omega
    · rcases List.mem_or_eq_of_mem_set hx with hx | rfl
      · exact h.lab x hx
      · omega
    · rw [hset _ _ hlm q h1 h2 h3 h4, hm]
      by_cases e2 : q = qk
      · rw [if_pos e2]; exact ⟨fun _ => .inr e2, fun _ => rfl⟩
      · rw [if_neg e2, h.mar q h1 h2 h3 h4]; exact ⟨.inl, fun h => h.elim id fun h => absurd h e2⟩
    · have hr : (0 ≤ q.1 ∧ q.1 < (c.length : Int)) ∧ 0 ≤ q.2 ∧ q.2 < (c.length : Int) := ((hm q).1 hqm).elim (hsub q) fun h => h ▸ hq
      rw [hset _ _ hll q hr.1.1 hr.1.2 hr.2.1 hr.2.2, hF]
      by_cases e2 : q = qk
      · subst e2
        rw [if_pos rfl, idxD_out (l := spF c im k) (fun h => hin (mem_firsts.1 h))]
      · rw [if_neg e2]
        have hm2 := ((hm q).1 hqm).elim id fun h => absurd h e2
        rw [h.la q hm2, idxD_in (l := spF c im k) (mem_firsts.2 hm2)]
    · rw [hset _ _ hll qk hq.1.1 hq.1.2 hq.2.1 hq.2.2, if_pos rfl]
      unfold spC; exact hcan.symm
theorem SpI.upto (hc : ∀ x ∈ c, 0 ≤ x ∧ x < (c.length : Int)) (him : ∀ x, x < c.length → 0 ≤ im.getD x 0 ∧ im.getD x 0 < (c.length : Int)) (hr : 0 ≤ round) (h : SpI c im round M L 0) : ∀ k, k ≤ c.length → SpI c im round (spM c im round M L k).1 (spM c im round M L k).2 k
  | 0, _ => h
  | k + 1, hk => (SpI.next hc him hr (SpI.upto hc him hr h k (by omega)) (by omega)).1
end
/-! ### Counting -/
theorem canon_idemG {α : Type} [DecidableEq α] (d : α) (l : List α) : canon (canon l) = canon l :=
  canon_congr (d := 0) (e := d) (canon_length l) fun i j hi hj => by
    rw [canon_length] at hi hj
    exact canon_eq_iff hi hj
theorem classN_canonG {α : Type} [DecidableEq α] (d : α) (l : List α) : classN (canon l) = (firsts l).length := by
  have hv := valid_range (canon_idemG d l)
  have h1 : classN (canon l) ≤ (firsts l).length := by
    rcases Nat.eq_zero_or_pos (classN (canon l)) with e | e
    · omega
    · have hm := (hv ((classN (canon l) : Int) - 1)).1 ⟨by omega, by omega⟩
      obtain ⟨i, hi, hx⟩ := mem_getD 0 hm
      rw [canon_length] at hi
      have := canon_lt hi
      omega
  have h2 : (firsts l).length ≤ classN (canon l) := by
    rcases Nat.eq_zero_or_pos (firsts l).length with e | e
    · omega
    · have hm : (firsts l)[(firsts l).length - 1] ∈ l := mem_firsts.1 (List.getElem_mem _)
      have hx : (((firsts l).length - 1 : Nat) : Int) ∈ canon l := by
        unfold canon
        refine List.mem_map.2 ⟨_, hm, ?_⟩
        rw [(firsts_nodup l).idxOf_getElem]
      have := (hv _).2 hx
      omega
  omega
theorem spF_all (c im : List Int) : (spF c im c.length).length = classN (spC c im) := by
  unfold spF spC
  rw [List.take_of_length_le (by rw [spP_len]; exact Nat.le_refl _), classN_canonG (0, 0)]
theorem spC_canon (c im : List Int) : canon (spC c im) = spC c im := canon_idemG (0, 0) _
theorem same_count {c d : List Int} (hc : canon c = c) (hd : canon d = d) (hl : c.length = d.length) (hr : ∀ x y, x < c.length → y < c.length → d.getD x 0 = d.getD y 0 → c.getD x 0 = c.getD y 0) : classN c ≤ classN d ∧ (classN c = classN d → d = c) := by
  have hle : ∀ i, i ≤ c.length → (firsts (c.take i)).length ≤ (firsts (d.take i)).length ∧ ((firsts (c.take i)).length = (firsts (d.take i)).length → ∀ x y, x < i → y < i → c.getD x 0 = c.getD y 0 → d.getD x 0 = d.getD y 0) := by
    intro i
    induction i with
    | zero => intro _; exact ⟨by simp [firsts], fun _ x y hx => absurd hx (Nat.not_lt_zero _)⟩
    | succ i ih =>
      intro hi
      have ih := ih (by omega)
      have tc := take_get (d := (0 : Int)) (l := c) (i := i) (by omega)
      have td := take_get (d := (0 : Int)) (l := d) (i := i) (by omega)
      have memt : ∀ {l : List Int} {v : Int}, i < l.length → (v ∈ l.take i ↔ ∃ j, j < i ∧ l.getD j 0 = v) := fun {l v} hil => by
        constructor
        · intro h
          obtain ⟨j, hj, he⟩ := mem_getD 0 h
          rw [List.length_take] at hj
          have hji : j < i := by omega
          exact ⟨j, hji, by rw [← he]; simp [List.getD, hji]⟩
        · rintro ⟨j, hj, rfl⟩
          have : (l.take i).getD j 0 = l.getD j 0 := by simp [List.getD, hj]
          rw [← this]; exact getD_mem (by rw [List.length_take]; omega)
      rw [tc, td, firsts_snoc, firsts_snoc]
      by_cases h1 : d.getD i 0 ∈ d.take i
      · obtain ⟨j, hj, he⟩ := (memt (by omega)).1 h1
        have h2 : c.getD i 0 ∈ c.take i := (memt (by omega)).2 ⟨j, hj, hr j i (by omega) (by omega) he⟩
        rw [if_pos h1, if_pos h2]
        refine ⟨ih.1, fun e x y hx hy hxy => ?_⟩
        have hcj := hr j i (by omega) (by omega) he
        have step : ∀ z, z < i → c.getD z 0 = c.getD i 0 → d.getD z 0 = d.getD i 0 := fun z hz hzi => (ih.2 e z j hz hj (hzi.trans hcj.symm)).trans he
        rcases Nat.lt_or_ge x i with hxi | hxi <;> rcases Nat.lt_or_ge y i with hyi | hyi
        · exact ih.2 e x y hxi hyi hxy
        · obtain rfl : y = i := by omega
          exact step x hxi hxy
        · obtain rfl : x = i := by omega
          exact (step y hyi hxy.symm).symm
        · obtain rfl : x = i := by omega
          obtain rfl : y = x := by omega
          rfl
      · rw [if_neg h1]
        by_cases h2 : c.getD i 0 ∈ c.take i
        · rw [if_pos h2, List.length_append, List.length_singleton]
          exact ⟨by omega, fun e => by omega⟩
        · rw [if_neg h2]
          simp only [List.length_append, List.length_singleton]
          refine ⟨by omega, fun e x y hx hy hxy => ?_⟩
          have ih2 := ih.2 (by omega)
          have no : ∀ z, z < i → c.getD z 0 ≠ c.getD i 0 := fun z hz hzi => h2 ((memt (by omega)).2 ⟨z, hz, hzi⟩)
          rcases Nat.lt_or_ge x i with hxi | hxi <;> rcases Nat.lt_or_ge y i with hyi | hyi
          · exact ih2 x y hxi hyi hxy
          · obtain rfl : y = i := by omega
            exact absurd hxy (no x hxi)
          · obtain rfl : x = i := by omega
            exact absurd hxy.symm (no y hyi)
          · obtain rfl : x = i := by omega
            obtain rfl : y = x := by omega
            rfl
  have := hle c.length (Nat.le_refl _)
  rw [List.take_length, hl, List.take_length] at this
  refine ⟨this.1, fun e => ?_⟩
  rw [← hc, ← hd]
  exact (canon_congr (d := 0) (e := 0) hl fun i j hi hj => ⟨fun h => this.2 e i j (by omega) (by omega) h, fun h => hr i j hi hj h⟩).symm
end Go.Proofs.Ytjlkhjgnfnfmgaa
end
