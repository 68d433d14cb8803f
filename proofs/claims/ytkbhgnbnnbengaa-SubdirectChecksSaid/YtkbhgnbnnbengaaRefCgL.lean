import Derived.Test.YtkbhgnbnnbengaaEqvLaw
import Derived.Test.YtkbhgnbnnbengaaQuoLaw
import Derived.Test.YtkbhgnbnnbengaaReesLaw
section
/- Plain: a forest of parents, none above its child's number: roots, halving, union. -/
namespace Go.Proofs.Ytkbhgnbnnbengaa
structure Fo (n : Nat) (p : List Int) (r : Nat → Nat) : Prop where
  len : p.length = n
  le : ∀ i, i < n → 0 ≤ p.getD i 0 ∧ p.getD i 0 ≤ (i : Int)
  par : ∀ i, i < n → r (p.getD i 0).toNat = r i
  fix : ∀ i, i < n → p.getD i 0 = (i : Int) → r i = i
def halfL (p : List Int) (i : Nat) : List Int := p.set i (p.getD (p.getD i 0).toNat 0)
def fndL : Nat → List Int → Nat → List Int
  | 0, p, _ => p
  | f + 1, p, i => if p.getD i 0 = (i : Int) then p else fndL f (halfL p i) ((halfL p i).getD i 0).toNat
theorem Fo.rle {n : Nat} {p : List Int} {r : Nat → Nat} (h : Fo n p r) : ∀ m i, i < m → i < n → r i ≤ i := by
  intro m
  induction m with
  | zero => intro i hi; omega
  | succ m ih =>
    intro i hi hn
    by_cases e : p.getD i 0 = (i : Int)
    · rw [h.fix i hn e]; exact Nat.le_refl _
    · have := h.le i hn
      have h1 := ih (p.getD i 0).toNat (by omega) (by omega)
      rw [h.par i hn] at h1; omega
theorem Fo.root {n : Nat} {p : List Int} {r : Nat → Nat} (h : Fo n p r) : ∀ m i, i < m → i < n → p.getD (r i) 0 = (r i : Int) := by
  intro m
  induction m with
  | zero => intro i hi; omega
  | succ m ih =>
    intro i hi hn
    by_cases e : p.getD i 0 = (i : Int)
    · rw [h.fix i hn e]; exact e
    · have := h.le i hn
      have h1 := ih (p.getD i 0).toNat (by omega) (by omega)
      rwa [h.par i hn] at h1
theorem Fo.rlt {n : Nat} {p : List Int} {r : Nat → Nat} (h : Fo n p r) {i : Nat} (hi : i < n) : r i < n := Nat.lt_of_le_of_lt (h.rle (i + 1) i (by omega) hi) hi
theorem Fo.rr {n : Nat} {p : List Int} {r : Nat → Nat} (h : Fo n p r) {i : Nat} (hi : i < n) : r (r i) = r i := h.fix _ (h.rlt hi) (h.root (i + 1) i (by omega) hi)
theorem Fo.half {n : Nat} {p : List Int} {r : Nat → Nat} (h : Fo n p r) {i : Nat} (hi : i < n) : Fo n (halfL p i) r := by
  have h0 := h.le i hi
  have h1 := h.le (p.getD i 0).toNat (by omega)
  have hl := h.len
  have hg : ∀ k, (halfL p i).getD k 0 = if k = i then p.getD (p.getD i 0).toNat 0 else p.getD k 0 := fun k => by
    unfold halfL
    by_cases e : k = i
    · subst e; rw [getD_set_eq (by omega), if_pos rfl]
    · rw [getD_set_ne (Ne.symm e), if_neg e]
  refine ⟨by unfold halfL; rw [List.length_set]; exact h.len, fun k hk => ?_, fun k hk => ?_, fun k hk e => ?_⟩
  · rw [hg]
    by_cases e : k = i
    · subst e; rw [if_pos rfl]; omega
    · rw [if_neg e]; exact h.le k hk
  · rw [hg]
    by_cases e : k = i
    · subst e; rw [if_pos rfl, h.par _ (by omega), h.par _ hk]
    · rw [if_neg e]; exact h.par k hk
  · rw [hg] at e
    by_cases e1 : k = i
    · subst e1; rw [if_pos rfl] at e; exact h.fix k hk (by omega)
    · rw [if_neg e1] at e; exact h.fix k hk e
theorem fndL_fo {n : Nat} {r : Nat → Nat} : ∀ (f : Nat) {p : List Int} {i : Nat}, Fo n p r → i < n → Fo n (fndL f p i) r
  | 0, _, _, h, _ => h
  | f + 1, p, i, h, hi => by
    unfold fndL
    split
    · exact h
    · have := (h.half hi).le i hi
      exact fndL_fo f (h.half hi) (by omega)
theorem half_lt {n : Nat} {p : List Int} {r : Nat → Nat} (h : Fo n p r) {i : Nat} (hi : i < n) (e : p.getD i 0 ≠ (i : Int)) : ((halfL p i).getD i 0).toNat < i := by
  have h0 := h.le i hi
  have h1 := h.le (p.getD i 0).toNat (by omega)
  have hl := h.len
  unfold halfL
  rw [getD_set_eq (by omega)]; omega
theorem fndL_fuel {n : Nat} {r : Nat → Nat} : ∀ (f g : Nat) {p : List Int} {i : Nat}, Fo n p r → i < n → i < f → i < g → fndL f p i = fndL g p i
  | 0, _, _, _, _, _, hf, _ => by omega
  | _ + 1, 0, _, _, _, _, _, hg => by omega
  | f + 1, g + 1, p, i, h, hi, hf, hg => by
    unfold fndL
    split
    · rfl
    · rename_i e
      have := half_lt h hi e
      exact fndL_fuel f g (h.half hi) (by omega) (by omega) (by omega)
def ufR (r : Nat → Nat) (i j : Nat) : Nat → Nat := fun k => if r k = max (r i) (r j) then min (r i) (r j) else r k
def ufL (r : Nat → Nat) (p : List Int) (i j : Nat) : List Int := (fndL (j + 1) (fndL (i + 1) p i) j).set (max (r i) (r j)) ((min (r i) (r j) : Nat) : Int)
theorem Fo.union {n : Nat} {p : List Int} {r : Nat → Nat} (h : Fo n p r) {i j : Nat} (hi : i < n) (hj : j < n) : Fo n (ufL r p i j) (ufR r i j) := by
  have h2 := fndL_fo (j + 1) (fndL_fo (i + 1) h hi) hj
  unfold ufL
  revert h2
  generalize fndL (j + 1) (fndL (i + 1) p i) j = q
  intro h2
  have ri := h2.rlt hi
  have rj := h2.rlt hj
  have rri := h2.rr hi
  have rrj := h2.rr hj
  have hl := h2.len
  have hm : max (r i) (r j) < n := by omega
  have rm : r (max (r i) (r j)) = max (r i) (r j) := by
    rcases Nat.le_total (r i) (r j) with e | e
    · rw [Nat.max_eq_right e]; exact rrj
    · rw [Nat.max_eq_left e]; exact rri
  have rn : r (min (r i) (r j)) = min (r i) (r j) := by
    rcases Nat.le_total (r i) (r j) with e | e
    · rw [Nat.min_eq_left e]; exact rri
    · rw [Nat.min_eq_right e]; exact rrj
  have hle : min (r i) (r j) ≤ max (r i) (r j) := by omega
  generalize hM : max (r i) (r j) = M at *
  generalize hN : min (r i) (r j) = N at *
  have hg : ∀ k, (q.set M (N : Int)).getD k 0 = if k = M then (N : Int) else q.getD k 0 := fun k => by
    by_cases e : k = M
    · subst e; rw [getD_set_eq (by omega), if_pos rfl]
    · rw [getD_set_ne (Ne.symm e), if_neg e]
  have hu : ∀ k, ufR r i j k = if r k = M then N else r k := fun k => by unfold ufR; rw [hM, hN]
  refine ⟨by rw [List.length_set]; exact hl, fun k hk => ?_, fun k hk => ?_, fun k hk e => ?_⟩
  · rw [hg]
    by_cases e : k = M
    · rw [if_pos e]; omega
    · rw [if_neg e]; exact h2.le k hk
  · rw [hg, hu, hu]
    by_cases e : k = M
    · subst e
      rw [if_pos rfl, Int.toNat_natCast, rn, rm, if_pos rfl]
      split <;> rfl
    · rw [if_neg e, h2.par k hk]
  · rw [hg] at e
    rw [hu]
    by_cases e1 : k = M
    · subst e1
      rw [if_pos rfl] at e
      rw [rm, if_pos rfl]; omega
    · rw [if_neg e1] at e
      have := h2.fix k hk e
      rw [this, if_neg e1]
def KerR (n : Nat) (r : Nat → Nat) (R : Nat → Nat → Prop) : Prop := ∀ a b, a < n → b < n → (r a = r b ↔ Eg R a b)
theorem KerR.union {n : Nat} {r : Nat → Nat} {R : Nat → Nat → Prop} (h : KerR n r R) {i j : Nat} (hi : i < n) (hj : j < n) : KerR n (ufR r i j) (orP R i j) := fun a b ha hb => by
  rw [eg_or, ← h a b ha hb, ← h a i ha hi, ← h j b hj hb, ← h a j ha hj, ← h i b hi hb]
  unfold ufR
  have m1 : max (r i) (r j) = r i ∧ min (r i) (r j) = r j ∨ max (r i) (r j) = r j ∧ min (r i) (r j) = r i := by omega
  generalize r a = x; generalize r b = y
  revert m1
  generalize r i = u; generalize r j = v; generalize max u v = M; generalize min u v = N
  intro m1
  split <;> split <;> omega
theorem Fo.dis (n : Nat) : Fo n (disI n) id :=
  ⟨disI_len n, fun i hi => by rw [disI_get hi]; omega, fun i hi => by rw [disI_get hi]; simp, fun i _ _ => rfl⟩
theorem KerR.dis (n : Nat) : KerR n id fun _ _ => False := fun a b _ _ =>
  ⟨fun e => by have e : a = b := e; subst e; exact .refl _, fun e => e.least (Q := fun a b => id a = id b) (fun _ => rfl) (fun _ _ e => e.symm) (fun _ _ _ e f => e.trans f) fun _ _ f => f.elim⟩
def fndA (p : List Int) : Nat → List Int
  | 0 => p
  | k + 1 => fndL (k + 1) (fndA p k) k
theorem fndA_fo {n : Nat} {p : List Int} {r : Nat → Nat} (h : Fo n p r) : ∀ k, k ≤ n → Fo n (fndA p k) r
  | 0, _ => h
  | k + 1, hk => fndL_fo (k + 1) (fndA_fo h k (by omega)) hk
def rtL (n : Nat) (r : Nat → Nat) : List Int := (List.range n).map fun i => (r i : Int)
theorem rtL_len (n : Nat) (r : Nat → Nat) : (rtL n r).length = n := by simp [rtL]
theorem rtL_get {n : Nat} {r : Nat → Nat} {i : Nat} (h : i < n) : (rtL n r).getD i 0 = (r i : Int) := by simp [rtL, List.getD, h]
theorem KerR.ker {n : Nat} {r : Nat → Nat} {R : Nat → Nat → Prop} (h : KerR n r R) : KerOf n (rtL n r) R :=
  ⟨rtL_len n r, fun a b ha hb => by rw [rtL_get ha, rtL_get hb, ← h a b ha hb]; omega⟩
def prR (r : Nat → Nat) : List (Int × Int) → Nat → Nat
  | [] => r
  | x :: l => prR (ufR r x.1.toNat x.2.toNat) l
end Go.Proofs.Ytkbhgnbnnbengaa
end
section
/- Plain: the congruence that pairs generate; how the forest of congr makes it. -/
namespace Go.Proofs.Ytkbhgnbnnbengaa
open Go Go.AM
inductive Cgr (t : List (List Int)) (side : Int) (R : Nat → Nat → Prop) : Nat → Nat → Prop
  | rel {a b : Nat} (h : R a b) : Cgr t side R a b
  | refl (a : Nat) : Cgr t side R a a
  | symm {a b : Nat} (h : Cgr t side R a b) : Cgr t side R b a
  | trans {a b c : Nat} (h : Cgr t side R a b) (h' : Cgr t side R b c) : Cgr t side R a c
  | left {a b s : Nat} (h0 : side ≠ 2) (hs : s < t.length) (ha : a < t.length) (hb : b < t.length) (h : Cgr t side R a b) : Cgr t side R (en t s a) (en t s b)
  | right {a b s : Nat} (h0 : side ≠ 1) (hs : s < t.length) (ha : a < t.length) (hb : b < t.length) (h : Cgr t side R a b) : Cgr t side R (en t a s) (en t b s)
theorem Cgr.least {t : List (List Int)} {side : Int} {R Q : Nat → Nat → Prop} (hr : ∀ a, Q a a) (hs : ∀ a b, Q a b → Q b a) (ht : ∀ a b c, Q a b → Q b c → Q a c) (h : ∀ a b, R a b → Q a b)
    (hl : side ≠ 2 → ∀ a b s, s < t.length → a < t.length → b < t.length → Q a b → Q (en t s a) (en t s b)) (hR : side ≠ 1 → ∀ a b s, s < t.length → a < t.length → b < t.length → Q a b → Q (en t a s) (en t b s)) {a b : Nat} (e : Cgr t side R a b) : Q a b := by
  induction e with
  | rel h1 => exact h _ _ h1
  | refl a => exact hr a
  | symm _ ih => exact hs _ _ ih
  | trans _ _ i1 i2 => exact ht _ _ _ i1 i2
  | left h0 h1 h2 h3 _ ih => exact hl h0 _ _ _ h1 h2 h3 ih
  | right h0 h1 h2 h3 _ ih => exact hR h0 _ _ _ h1 h2 h3 ih
noncomputable def cgrB (t : List (List Int)) (side : Int) (R : Nat → Nat → Prop) (a b : Nat) : Bool := @decide (Cgr t side R a b) (Classical.propDecidable _)
theorem cgrB_true {t : List (List Int)} {side : Int} {R : Nat → Nat → Prop} {a b : Nat} : cgrB t side R a b = true ↔ Cgr t side R a b := by unfold cgrB; exact @decide_eq_true_iff _ (Classical.propDecidable _)
theorem cgr_pre (t : List (List Int)) (side : Int) (R : Nat → Nat → Prop) : Pre t.length (cgrB t side R) :=
  pre_of (fun x _ => cgrB_true.2 (.refl x)) fun _ _ _ _ _ _ h h' => cgrB_true.2 ((cgrB_true.1 h).trans (cgrB_true.1 h'))
noncomputable def genP (t : List (List Int)) (side : Int) (R : Nat → Nat → Prop) : List Int := clsL t.length (cgrB t side R)
section
variable {t : List (List Int)} {side : Int} {R : Nat → Nat → Prop}
theorem genP_len : (genP t side R).length = t.length := clsL_len _ _
theorem genP_canon : canon (genP t side R) = genP t side R := canon_idem _
theorem genP_iff {a b : Nat} (ha : a < t.length) (hb : b < t.length) : (genP t side R).getD a 0 = (genP t side R).getD b 0 ↔ Cgr t side R a b := by
  unfold genP
  rw [clsL_iff (cgr_pre t side R) ha hb, cgrB_true, cgrB_true]
  exact ⟨fun h => h.1, fun h => ⟨h, h.symm⟩⟩
theorem genP_cg (hs : Sh t) : Cg t (genP t side R) side := fun x y s hx hy hsl e => by
  have e := (genP_iff hx hy).1 e
  exact ⟨fun h0 => (genP_iff (hs.ent hsl hx).2 (hs.ent hsl hy).2).2 (.left h0 hsl hx hy e), fun h0 => (genP_iff (hs.ent hx hsl).2 (hs.ent hy hsl).2).2 (.right h0 hsl hx hy e)⟩
theorem genP_valid (hs : Sh t) : validP (genP t side R) := ⟨by rw [genP_len]; have := hs.most; omega, genP_canon⟩
theorem genP_is (h : Semi t) (h0 : 0 ≤ side ∧ side ≤ 2) : IsCg t (genP t side R) side := ⟨h, genP_len, genP_valid h.toSh, h0, genP_cg h.toSh⟩
theorem Cgr.sub {p : List Int} (hR : ∀ a b, R a b → p.getD a 0 = p.getD b 0) (hg : Cg t p side) {a b : Nat} (e : Cgr t side R a b) : p.getD a 0 = p.getD b 0 :=
  e.least (Q := fun a b => p.getD a 0 = p.getD b 0) (fun _ => rfl) (fun _ _ h => h.symm) (fun _ _ _ h h' => h.trans h') hR
    (fun h0 a b s hs ha hb h => (hg a b s ha hb hs h).1 h0) (fun h0 a b s hs ha hb h => (hg a b s ha hb hs h).2 h0)
theorem genP_of {p : List Int} (hl : p.length = t.length) (h1 : ∀ a b, a < t.length → b < t.length → p.getD a 0 = p.getD b 0 → Cgr t side R a b) (hR : ∀ a b, R a b → p.getD a 0 = p.getD b 0) (hg : Cg t p side) : canon p = genP t side R := by
  refine ker_clsL (cgr_pre t side R) hl fun a b ha hb => ?_
  rw [cgrB_true, cgrB_true]
  exact ⟨fun e => ⟨h1 a b ha hb e, (h1 a b ha hb e).symm⟩, fun e => e.1.sub hR hg⟩
end
/-! ### From generators to all elements -/
section
variable {t : List (List Int)} {side : Int}
theorem eg_gens {J : Nat → Nat → Prop} (hs : Semi t) (hJ : ∀ a b, J a b → a < t.length ∧ b < t.length) {gens : List Int} (hg : ∀ g ∈ gens, 0 ≤ g ∧ g < (t.length : Int))
    (hc : ∀ a b, J a b → ∀ g ∈ gens, (side ≠ 2 → Eg J (en t g.toNat a) (en t g.toNat b)) ∧ (side ≠ 1 → Eg J (en t a g.toNat) (en t b g.toNat))) {s : Nat} (m : Mk t gens s) :
    ∀ a b, a < t.length → b < t.length → Eg J a b → (side ≠ 2 → Eg J (en t s a) (en t s b)) ∧ (side ≠ 1 → Eg J (en t a s) (en t b s)) := by
  have hS := hs.toSh
  have base : ∀ g ∈ gens, ∀ a b, Eg J a b → (side ≠ 2 → Eg J (en t g.toNat a) (en t g.toNat b)) ∧ (side ≠ 1 → Eg J (en t a g.toNat) (en t b g.toNat)) := fun g hgm a b e =>
    e.least (Q := fun a b => (side ≠ 2 → Eg J (en t g.toNat a) (en t g.toNat b)) ∧ (side ≠ 1 → Eg J (en t a g.toNat) (en t b g.toNat))) (fun _ => ⟨fun _ => .refl _, fun _ => .refl _⟩) (fun _ _ h => ⟨fun h0 => (h.1 h0).symm, fun h0 => (h.2 h0).symm⟩)
      (fun _ _ _ h h' => ⟨fun h0 => (h.1 h0).trans (h'.1 h0), fun h0 => (h.2 h0).trans (h'.2 h0)⟩) fun a b h => hc a b h g hgm
  have key : ∀ {s : Nat}, Mk t gens s → s < t.length ∧ ∀ a b, a < t.length → b < t.length → Eg J a b → (side ≠ 2 → Eg J (en t s a) (en t s b)) ∧ (side ≠ 1 → Eg J (en t a s) (en t b s)) := fun {s} m => by
    induction m with
    | gen h => exact ⟨by have := hg _ h; omega, fun a b _ _ e => base _ h a b e⟩
    | mul ha hb i1 i2 =>
      rename_i u v
      refine ⟨(hS.ent i1.1 i2.1).2, fun a b hal hbl e => ⟨fun h0 => ?_, fun h0 => ?_⟩⟩
      · rw [assoc3 hs.assoc i1.1 i2.1 hal, assoc3 hs.assoc i1.1 i2.1 hbl]
        exact (i1.2 _ _ (hS.ent i2.1 hal).2 (hS.ent i2.1 hbl).2 ((i2.2 a b hal hbl e).1 h0)).1 h0
      · rw [← assoc3 hs.assoc hal i1.1 i2.1, ← assoc3 hs.assoc hbl i1.1 i2.1]
        exact (i2.2 _ _ (hS.ent hal i1.1).2 (hS.ent hbl i1.1).2 ((i1.2 a b hal hbl e).2 h0)).2 h0
  exact (key m).2
end
/-! ### The forest: joined or not; the number of classes -/
def rtB (r : Nat → Nat) (i : Nat) : Bool := decide (r i = i)
def cntR (n : Nat) (r : Nat → Nat) : Nat := ((List.range n).filter (rtB r)).length
theorem cnt_del {P : Nat → Bool} {M : Nat} : ∀ {n : Nat}, M < n → P M = true → ((List.range n).filter fun i => P i && decide (i ≠ M)).length + 1 = ((List.range n).filter P).length := by
  have no : ∀ n, n ≤ M → ((List.range n).filter fun i => P i && decide (i ≠ M)) = (List.range n).filter P := fun n hn =>
    List.filter_congr fun x hx => by
      have := List.mem_range.1 hx
      have : x ≠ M := by omega
      simp [this]
  intro n
  induction n with
  | zero => intro h; omega
  | succ n ih =>
    intro h hp
    rw [List.range_succ, List.filter_append, List.filter_append, List.length_append, List.length_append]
    by_cases e : M = n
    · subst e
      rw [no M (Nat.le_refl _)]
      simp [hp]
    · have := ih (by omega) hp
      have hn : (decide (n ≠ M)) = true := decide_eq_true (fun h => e h.symm)
      have : ([n].filter fun i => P i && decide (i ≠ M)) = [n].filter P := by
        simp only [List.filter_cons, hn, Bool.and_true, List.filter_nil]
      rw [this]; omega
theorem cnt_union {n : Nat} {p : List Int} {r : Nat → Nat} (h : Fo n p r) {i j : Nat} (hi : i < n) (hj : j < n) (hne : r i ≠ r j) : cntR n (ufR r i j) + 1 = cntR n r := by
  have hM : max (r i) (r j) < n := by have := h.rlt hi; have := h.rlt hj; omega
  have hr : r (max (r i) (r j)) = max (r i) (r j) ∧ r (min (r i) (r j)) = min (r i) (r j) := by
    have h1 := h.rr hi
    have h2 := h.rr hj
    rcases Nat.le_total (r i) (r j) with e | e
    · rw [Nat.max_eq_right e, Nat.min_eq_left e]; exact ⟨h2, h1⟩
    · rw [Nat.max_eq_left e, Nat.min_eq_right e]; exact ⟨h1, h2⟩
  have hlt : min (r i) (r j) < max (r i) (r j) := by omega
  have := cnt_del (P := rtB r) hM (by unfold rtB; exact decide_eq_true hr.1)
  unfold cntR
  rw [← this]
  congr 1
  refine congrArg List.length (List.filter_congr fun k hk => ?_)
  unfold rtB ufR
  generalize max (r i) (r j) = M at *
  generalize min (r i) (r j) = m at *
  by_cases e : r k = M
  · rw [if_pos e]
    have h1 : ¬ m = k := fun e2 => by rw [← e2, hr.2] at e; omega
    by_cases h2 : k = M
    · simp [h1, h2]
      intro; omega
    · have h3 : ¬ r k = k := fun e2 => h2 (by omega)
      simp [h1, h3]
  · rw [if_neg e]
    have h2 : k ≠ M := fun e2 => e (by rw [e2]; exact hr.1)
    simp [h2]
theorem cnt_le (n : Nat) (r : Nat → Nat) : cntR n r ≤ n := by
  have := List.length_filter_le (rtB r) (List.range n)
  rw [List.length_range] at this
  exact this
theorem cnt_id (n : Nat) : cntR n id = n := by
  unfold cntR
  rw [List.filter_eq_self.2 fun x _ => by unfold rtB; exact decide_eq_true rfl, List.length_range]
def fn2L (p : List Int) (i j : Nat) : List Int := fndL (j + 1) (fndL (i + 1) p i) j
theorem fn2_fo {n : Nat} {p : List Int} {r : Nat → Nat} (h : Fo n p r) {i j : Nat} (hi : i < n) (hj : j < n) : Fo n (fn2L p i j) r := fndL_fo _ (fndL_fo _ h hi) hj
def jnP (r : Nat → Nat) (p : List Int) (i j : Nat) : List Int := if r i = r j then fn2L p i j else ufL r p i j
def jnR (r : Nat → Nat) (i j : Nat) : Nat → Nat := if r i = r j then r else ufR r i j
theorem jn_fo {n : Nat} {p : List Int} {r : Nat → Nat} (h : Fo n p r) {i j : Nat} (hi : i < n) (hj : j < n) : Fo n (jnP r p i j) (jnR r i j) := by
  unfold jnP jnR
  by_cases e : r i = r j
  · rw [if_pos e, if_pos e]; exact fn2_fo h hi hj
  · rw [if_neg e, if_neg e]; exact h.union hi hj
theorem jn_ker {n : Nat} {r : Nat → Nat} {R : Nat → Nat → Prop} (h : KerR n r R) {i j : Nat} (hi : i < n) (hj : j < n) : KerR n (jnR r i j) (orP R i j) := by
  unfold jnR
  by_cases e : r i = r j
  · rw [if_pos e]
    intro a b ha hb
    rw [h a b ha hb]
    refine ⟨fun k => k.mono fun a b h => .rel (.inl h), fun k => k.mono fun a b h => ?_⟩
    rcases h with h | ⟨rfl, rfl⟩
    · exact .rel h
    · exact (h a b hi hj).1 e
  · rw [if_neg e]; exact h.union hi hj
theorem jn_cnt {n : Nat} {p : List Int} {r : Nat → Nat} (h : Fo n p r) {i j : Nat} (hi : i < n) (hj : j < n) : cntR n (jnR r i j) + (if r i = r j then 0 else 1) = cntR n r := by
  unfold jnR
  by_cases e : r i = r j
  · rw [if_pos e, if_pos e, Nat.add_zero]
  · rw [if_neg e, if_neg e]; exact cnt_union h hi hj e
/-! ### The spreading of joined pairs -/
def inW (n : Nat) (W : List (Int × Int)) : Prop := ∀ q ∈ W, (0 ≤ q.1 ∧ q.1 < (n : Int)) ∧ 0 ≤ q.2 ∧ q.2 < (n : Int)
theorem inW_app {n : Nat} {V W : List (Int × Int)} : inW n (V ++ W) ↔ inW n V ∧ inW n W :=
  ⟨fun h => ⟨fun q hq => h q (List.mem_append_left _ hq), fun q hq => h q (List.mem_append_right _ hq)⟩, fun h q hq => (List.mem_append.1 hq).elim (h.1 q) (h.2 q)⟩
end Go.Proofs.Ytkbhgnbnnbengaa
end
section
/- Plain: the greatest congruence in a partition; how the splitter of congr makes it. -/
namespace Go.Proofs.Ytkbhgnbnnbengaa
open Go Go.AM
/-! ### The splitter -/
/-! ### Counting -/
theorem canon_idemG {α : Type} [DecidableEq α] (d : α) (l : List α) : canon (canon l) = canon l :=
  canon_congr (d := 0) (e := d) (canon_length l) fun i j hi hj => by
    rw [canon_length] at hi hj
    exact canon_eq_iff hi hj
theorem same_count {c d : List Int} (hc : canon c = c) (hd : canon d = d) (hl : c.length = d.length) (hr : ∀ x y, x < c.length → y < c.length → d.getD x 0 = d.getD y 0 → c.getD x 0 = c.getD y 0) : classN c ≤ classN d ∧ (classN c = classN d → d = c) := by
  have hle : ∀ i, i ≤ c.length → (firsts (c.take i)).length ≤ (firsts (d.take i)).length ∧ ((firsts (c.take i)).length = (firsts (d.take i)).length → ∀ x y, x < i → y < i → c.getD x 0 = c.getD y 0 → d.getD x 0 = d.getD y 0) := by
    intro i
    induction i with
    | zero => intro _; exact ⟨by simp [firsts], fun _ x y hx => absurd hx (Nat.not_lt_zero _)⟩
    | succ i ih =>
      intro hi
      have ih := ih (by omega)
      have tc := take_get (d := (0 : Int)) (l := c) (i := i) (by omega)
      have td := take_get (d := (0 : Int)) (l := d) (i := i) (by omega)
      have memt : ∀ {l : List Int} {v : Int}, i < l.length → (v ∈ l.take i ↔ ∃ j, j < i ∧ l.getD j 0 = v) := fun {l v} hil => by
        constructor
        · intro h
          obtain ⟨j, hj, he⟩ := mem_getD 0 h
          rw [List.length_take] at hj
          have hji : j < i := by omega
          exact ⟨j, hji, by rw [← he]; simp [List.getD, hji]⟩
        · rintro ⟨j, hj, rfl⟩
          have : (l.take i).getD j 0 = l.getD j 0 := by simp [List.getD, hj]
          rw [← this]; exact getD_mem (by rw [List.length_take]; omega)
      rw [tc, td, firsts_snoc, firsts_snoc]
      by_cases h1 : d.getD i 0 ∈ d.take i
      · obtain ⟨j, hj, he⟩ := (memt (by omega)).1 h1
        have h2 : c.getD i 0 ∈ c.take i := (memt (by omega)).2 ⟨j, hj, hr j i (by omega) (by omega) he⟩
        rw [if_pos h1, if_pos h2]
        refine ⟨ih.1, fun e x y hx hy hxy => ?_⟩
        have hcj := hr j i (by omega) (by omega) he
        have step : ∀ z, z < i → c.getD z 0 = c.getD i 0 → d.getD z 0 = d.getD i 0 := fun z hz hzi => (ih.2 e z j hz hj (hzi.trans hcj.symm)).trans he
        rcases Nat.lt_or_ge x i with hxi | hxi <;> rcases Nat.lt_or_ge y i with hyi | hyi
        · exact ih.2 e x y hxi hyi hxy
        · obtain rfl : y = i := by omega
          exact step x hxi hxy
        · obtain rfl : x = i := by omega
          exact (step y hyi hxy.symm).symm
        · obtain rfl : x = i := by omega
          obtain rfl : y = x := by omega
          rfl
      · rw [if_neg h1]
        by_cases h2 : c.getD i 0 ∈ c.take i
        · rw [if_pos h2, List.length_append, List.length_singleton]
          exact ⟨by omega, fun e => by omega⟩
        · rw [if_neg h2]
          simp only [List.length_append, List.length_singleton]
          refine ⟨by omega, fun e x y hx hy hxy => ?_⟩
          have ih2 := ih.2 (by omega)
          have no : ∀ z, z < i → c.getD z 0 ≠ c.getD i 0 := fun z hz hzi => h2 ((memt (by omega)).2 ⟨z, hz, hzi⟩)
          rcases Nat.lt_or_ge x i with hxi | hxi <;> rcases Nat.lt_or_ge y i with hyi | hyi
          · exact ih2 x y hxi hyi hxy
          · obtain rfl : y = i := by omega
            exact absurd hxy (no x hxi)
          · obtain rfl : x = i := by omega
            exact absurd hxy.symm (no y hyi)
          · obtain rfl : x = i := by omega
            obtain rfl : y = x := by omega
            rfl
  have := hle c.length (Nat.le_refl _)
  rw [List.take_length, hl, List.take_length] at this
  refine ⟨this.1, fun e => ?_⟩
  rw [← hc, ← hd]
  exact (canon_congr (d := 0) (e := 0) hl fun i j hi hj => ⟨fun h => this.2 e i j (by omega) (by omega) h, fun h => hr i j hi hj h⟩).symm
end Go.Proofs.Ytkbhgnbnnbengaa
end
section
/- Package subdirect: the meets of a list's ends, and the list without what is superfluous: contracts. -/
namespace Go.Proofs.Ytkbhgnbnnbengaa
open Go Go.AM
set_option maxRecDepth 100000
theorem ptriv_fn (n : Nat) (hn : n ≤ 4096) : QF 22 [.int .i64 n] (.new (.ints .i64 (List.replicate n 0))) := mkQ Try.func22 (by decide +kernel) rfl (Nat.le_of_ble_eq_true rfl) fun _ => by
  refine And.intro (fun h1 => ?_) (fun _ => ?_)
  · have h1 : (n : Int) < 0 := h1
    omega
  refine And.intro (fun h1 => ?_) (fun _ => ?_)
  · have h1 : 4096 < (n : Int) := h1
    omega
  refine And.intro (by omega) ?_
  refine And.intro (by omega) ?_
  refine And.intro (And.intro (by simp [RO.len]) ?_) trivial
  show RO.ints .i64 (List.replicate (n : Int).toNat 0) = RO.ints .i64 (List.replicate n 0)
  rw [Int.toNat_natCast]
def Pt (n : Nat) (p : List Int) : Prop := p.length = n ∧ validP p
def mtP (p q : List Int) : List Int := canon (p.zip q)
def mtL (n : Nat) (l : List (List Int)) : List Int := l.foldr mtP (List.replicate n 0)
theorem Pt.triv {n : Nat} (hn : n ≤ 4096) : Pt n (List.replicate n 0) :=
  ⟨List.length_replicate, by rw [List.length_replicate]; omega, canon_fix.2 fun i _ => by
    have : (List.replicate n (0 : Int)).getD i 0 = 0 := by simp only [List.getD, List.getElem?_replicate]; split <;> rfl
    unfold stepOk; rw [this]; omega⟩
theorem Pt.mt {n : Nat} {p q : List Int} (hp : Pt n p) (hq : Pt n q) : Pt n (mtP p q) := by
  have hl : (mtP p q).length = n := by unfold mtP; rw [canon_length, List.length_zip, hp.1, hq.1]; omega
  exact ⟨hl, by rw [hl]; have := hp.2.1; have := hp.1; omega, canon_idemG (0, 0) _⟩
theorem Pt.mtL {n : Nat} (hn : n ≤ 4096) : ∀ {l : List (List Int)}, (∀ p ∈ l, Pt n p) → Pt n (mtL n l)
  | [], _ => Pt.triv hn
  | _ :: _, h => (h _ (List.mem_cons_self ..)).mt (Pt.mtL hn fun q hq => h q (List.mem_cons_of_mem _ hq))
theorem pmt_fn {n : Nat} {p q : List Int} (hp : Pt n p) (hq : Pt n q) : QF 23 [.ro (.ints .i64 p), .ro (.ints .i64 q)] (.new (.ints .i64 (mtP p q))) := by
  have h := pmeet_fn p q
  rw [if_pos ⟨hp.1.trans hq.1.symm, hp.2, hq.2⟩] at h
  exact h
def sfxL (n : Nat) (l : List (List Int)) : List (List Int) := (List.range (l.length + 1)).map fun i => mtL n (l.drop i)
theorem sfx_len (n : Nat) (l : List (List Int)) : (sfxL n l).length = l.length + 1 := by simp [sfxL]
theorem sfx_get (n : Nat) (l : List (List Int)) {i : Nat} (hi : i ≤ l.length) : (sfxL n l).getD i [] = mtL n (l.drop i) := by
  have : i < l.length + 1 := by omega
  simp [sfxL, List.getD, this]
theorem mtL_drop (n : Nat) (l : List (List Int)) {i : Nat} (hi : i < l.length) : mtL n (l.drop i) = mtP (l.getD i []) (mtL n (l.drop (i + 1))) := by
  rw [List.drop_eq_getElem_cons hi, getD_eq hi]; rfl
set_option maxHeartbeats 1000000 in
theorem ssfx_fn (n : Nat) (l : List (List Int)) (h0 : 0 < n) (hn : n ≤ 4096) (hl : l.length ≤ 4096) (hp : ∀ p ∈ l, Pt n p) : QF 44 [.int .i64 n, .ro (.rows .i64 l)] (.new (.rows .i64 (sfxL n l))) := mkQ Try.func44 (by decide +kernel) rfl (Nat.le_of_ble_eq_true rfl) fun _ => by
  have hd : ∀ i, ∀ p ∈ l.drop i, Pt n p := fun i p h => hp p (List.mem_of_mem_drop h)
  refine And.intro (by omega) ?_
  refine And.intro (by omega) ?_
  refine And.intro (by omega) ?_
  refine Or.inr (Or.inr ?_)
  refine Or.inl (cq (ptriv_fn n hn) (And.intro rfl trivial) ?_)
  have hr : (List.replicate ((l.length : Int) + 1).toNat ([] : List Int)).length = l.length + 1 := by rw [List.length_replicate]; omega
  refine And.intro (show 0 ≤ (l.length : Int) ∧ (l.length : Int) < ((List.replicate ((l.length : Int) + 1).toNat ([] : List Int)).length : Int) by omega) ?_
  refine And.intro (by omega) ?_
  refine And.intro (by omega) ?_
  have hne : ∀ p, Pt n p → p ≠ [] := fun p h e => by have := h.1; rw [e] at this; simp at this; omega
  refine Exists.intro [11, 15, 16, 24, 30, 35, 36, 10015, 10035] <| lp2 (fun (k : Nat) (_ : List (List Int)) => [(6, .int .i64 ((k : Int) - 1))]) (fun _ M => [(10, .vec 0 (.nrows .i64 M) [])]) (fun k M => k ≤ l.length ∧ M.length = l.length + 1 ∧ ∀ j, k ≤ j → j ≤ l.length → M.getD j [] = mtL n (l.drop j)) (fun k _ => k) l.length ((List.replicate ((l.length : Int) + 1).toNat []).set l.length (List.replicate n 0)) ⟨Nat.le_refl _, by rw [List.length_set]; exact hr, fun j h1 h2 => ?_⟩ ?_ ?_
  · have e : j = l.length := by omega
    subst e
    rw [getD_set_eq (by omega), List.drop_length]; rfl
  · repeat' first | refine And.intro ?_ ?_ | exact True.intro | exact hne _ (Pt.triv hn) | (show (_ : Int) = (_ : Int); omega) | omega | exact rfl
  rintro k M ⟨hk, hM, hMj⟩
  refine And.intro (fun h1 => ?_) (fun h1 => ?_)
  · have h1 : 0 ≤ (k : Int) - 1 := h1
    have hkl : k - 1 < l.length := by omega
    have ek : ((k : Int) - 1).toNat = k - 1 := by omega
    have ek2 : ((k : Int) - 1 + 1).toNat = k := by omega
    have hMk := hMj k (Nat.le_refl _) hk
    have hPk : Pt n (mtL n (l.drop k)) := Pt.mtL hn (hd k)
    have hPp : Pt n (l.getD (k - 1) []) := hp _ (getD_mem (d := []) hkl)
    refine Or.inl ?_
    refine Exists.intro (List.replicate 11 false ++ [true, false, true]) (And.intro (by decide +kernel) ?_)
    refine And.intro (show 0 ≤ (k : Int) - 1 ∧ (k : Int) - 1 < (l.length : Int) by omega) ?_
    refine And.intro (show -9223372036854775808 ≤ (k : Int) - 1 + 1 ∧ (k : Int) - 1 + 1 ≤ 9223372036854775807 by omega) ?_
    refine And.intro (show 0 ≤ (k : Int) - 1 + 1 ∧ (k : Int) - 1 + 1 < (M.length : Int) by omega) ?_
    refine And.intro (fun h2 => ?_) (fun _ => ?_)
    · have h2 : M.getD ((k : Int) - 1 + 1).toNat [] = [] := h2
      rw [ek2, hMk] at h2
      exact absurd h2 (hne _ hPk)
    refine Or.inl (cq (pmt_fn (n := n) (p := l.getD ((k : Int) - 1).toNat []) (q := M.getD ((k : Int) - 1 + 1).toNat []) (by rw [ek]; exact hPp) (by rw [ek2, hMk]; exact hPk)) (And.intro rfl (And.intro rfl trivial)) ?_)
    refine And.intro (show 0 ≤ (k : Int) - 1 ∧ (k : Int) - 1 < (M.length : Int) by omega) ?_
    refine And.intro (by omega) ?_
    refine And.intro (by omega) ?_
    have em : mtP (l.getD ((k : Int) - 1).toNat []) (M.getD ((k : Int) - 1 + 1).toNat []) = mtL n (l.drop (k - 1)) := by
      rw [ek, ek2, hMk, mtL_drop n l hkl, show k - 1 + 1 = k by omega]
    refine nx (k - 1, M.set ((k : Int) - 1).toNat (mtP (l.getD ((k : Int) - 1).toNat []) (M.getD ((k : Int) - 1 + 1).toNat []))) ⟨by omega, by rw [List.length_set]; exact hM, fun j h2 h3 => ?_⟩ (show k - 1 < k by omega) ?_
    · rw [em, ek]
      by_cases e : j = k - 1
      · subst e; rw [getD_set_eq (by omega)]
      · rw [getD_set_ne (Ne.symm e)]; exact hMj j (by omega) h3
    · repeat' first | refine And.intro ?_ ?_ | exact True.intro | (rw [em]; exact hne _ (Pt.mtL hn (hd _))) | (show (_ : Int) = (_ : Int); omega) | omega | exact rfl
  · have h1 : (k : Int) - 1 < 0 := h1
    refine And.intro (And.intro (by omega) ?_) trivial
    show RO.rows .i64 M = RO.rows .i64 (sfxL n l)
    congr 1
    refine ext_getD [] (by rw [hM, sfx_len]) fun i hi => ?_
    rw [sfx_get n l (by omega)]
    exact hMj i (by omega) (by omega)
def redL (n : Nat) : List Int → List (List Int) → List (List Int)
  | _, [] => []
  | b, p :: l => if classN (mtP b (mtL n l)) = n then redL n b l else p :: redL n (mtP b p) l
theorem redL_drop (n : Nat) (b : List Int) (l : List (List Int)) {i : Nat} (hi : i < l.length) : redL n b (l.drop i) = if classN (mtP b (mtL n (l.drop (i + 1)))) = n then redL n b (l.drop (i + 1)) else l.getD i [] :: redL n (mtP b (l.getD i [])) (l.drop (i + 1)) := by
  rw [List.drop_eq_getElem_cons hi, getD_eq hi]; rfl
set_option maxHeartbeats 1000000 in
theorem sred_fn (n : Nat) (l : List (List Int)) (h0 : 0 < n) (hn : n ≤ 4096) (hl : l.length ≤ 4096) (hp : ∀ p ∈ l, Pt n p) : QF 45 [.int .i64 n, .ro (.rows .i64 l)] (.ro (.rows .i64 (redL n (List.replicate n 0) l))) := mkQ Try.func45 (by decide +kernel) rfl (Nat.le_of_ble_eq_true rfl) fun _ => by
  have hd : ∀ i, ∀ p ∈ l.drop i, Pt n p := fun i p h => hp p (List.mem_of_mem_drop h)
  refine Or.inl (cq (ssfx_fn n l h0 hn hl hp) (And.intro rfl (And.intro rfl trivial)) ?_)
  refine Or.inl (cq (ptriv_fn n hn) (And.intro rfl trivial) ?_)
  refine Exists.intro [14, 22, 28, 36, 38, 10014, 10028, 10038] <| lp3 (fun (i : Nat) (_ : List (List Int)) (b : List Int) => [(17, .int .i64 i), (5, .vec 35), (7, .ro (.ints .i64 b))]) (fun _ K _ => [(35, .vec 0 (.rows .i64 K) [])]) (fun i K b => i ≤ l.length ∧ K.length ≤ i ∧ Pt n b ∧ K ++ redL n b (l.drop i) = redL n (List.replicate n 0) l) (fun i _ _ => l.length - i) 0 [] (List.replicate n 0) ⟨Nat.zero_le _, Nat.le_refl _, Pt.triv hn, rfl⟩ (by repeat' first | refine And.intro ?_ ?_ | exact True.intro | (show (_ : Int) = (_ : Int); omega) | omega | exact rfl | (simp only [RO.len]; omega)) ?_
  rintro i K b ⟨hi, hK, hb, he⟩
  refine And.intro (fun h1 => ?_) (fun h1 => ?_)
  · have h1 : (i : Int) < (l.length : Int) := h1
    have hil : i < l.length := by omega
    have hPp : Pt n (l.getD i []) := hp _ (getD_mem (d := []) hil)
    have hst := redL_drop n b l hil
    have hs1 := sfx_get n l (i := i + 1) (by omega)
    have hsl := sfx_len n l
    have hPs : Pt n (mtL n (l.drop (i + 1))) := Pt.mtL hn (hd _)
    have ei : ((i : Int) + 1).toNat = i + 1 := by omega
    have hPs2 : Pt n ((sfxL n l).getD ((i : Int) + 1).toNat []) := by rw [ei, hs1]; exact hPs
    have hcn : classN (mtP b ((sfxL n l).getD ((i : Int) + 1).toNat [])) ≤ n := by
      have := firsts_le (mtP b ((sfxL n l).getD ((i : Int) + 1).toNat []))
      rw [(hb.mt hPs2).1] at this; exact this
    have hKl : (K ++ [l.getD (i : Int).toNat []]).length = K.length + 1 := by simp
    refine And.intro (by omega) ?_
    refine And.intro (show -9223372036854775808 ≤ (i : Int) + 1 ∧ (i : Int) + 1 ≤ 9223372036854775807 by omega) ?_
    refine And.intro (show 0 ≤ (i : Int) + 1 ∧ (i : Int) + 1 < ((sfxL n l).length : Int) by omega) ?_
    refine Or.inl (cq (pmt_fn hb hPs2) (And.intro rfl (And.intro rfl trivial)) ?_)
    refine Or.inl (cq (scnt_fn _ (hb.mt hPs2).2) (And.intro rfl trivial) ?_)
    refine And.intro (fun h2 => ?_) (fun h2 => ?_)
    · have h2 : ((classN (mtP b ((sfxL n l).getD ((i : Int) + 1).toNat [])) : Nat) : Int) = (n : Int) := h2
      rw [ei, hs1] at h2
      rw [if_pos (by omega)] at hst
      refine And.intro (by omega) ?_
      exact nx (i + 1, K, b) ⟨by omega, by omega, hb, by rw [← he, hst]⟩ (show l.length - (i + 1) < l.length - i by omega) (by repeat' first | refine And.intro ?_ ?_ | exact True.intro | (show (_ : Int) = (_ : Int); omega) | omega | exact rfl | (simp only [RO.len]; omega))
    · have h2 : ¬ ((classN (mtP b ((sfxL n l).getD ((i : Int) + 1).toNat [])) : Nat) : Int) = (n : Int) := h2
      rw [ei, hs1] at h2
      rw [if_neg (by omega)] at hst
      refine And.intro (by omega) ?_
      refine Or.inl (cq (pmt_fn hb hPp) (And.intro rfl (And.intro rfl trivial)) ?_)
      refine And.intro (by omega) ?_
      exact nx (i + 1, K ++ [l.getD i []], mtP b (l.getD i [])) ⟨by omega, by rw [List.length_append, List.length_singleton]; omega, hb.mt hPp, by rw [← he, hst, List.append_assoc]; rfl⟩ (show l.length - (i + 1) < l.length - i by omega) (by repeat' first | refine And.intro ?_ ?_ | exact True.intro | (show (_ : Int) = (_ : Int); omega) | omega | exact rfl | (simp only [RO.len]; omega))
  · have h1 : (l.length : Int) ≤ (i : Int) := h1
    have e : K = redL n (List.replicate n 0) l := by rw [← he, List.drop_of_length_le (by omega)]; simp [redL]
    refine And.intro ?_ trivial
    refine And.intro trivial ?_
    show RO.rows .i64 K = RO.rows .i64 _
    rw [e]
end Go.Proofs.Ytkbhgnbnnbengaa
end
section
/- Plain: the partition that a relation generates; lists of pairs. -/
namespace Go.Proofs.Ytkbhgnbnnbengaa
open Go Go.AM
noncomputable def egB (R : Nat → Nat → Prop) (a b : Nat) : Bool := @decide (Eg R a b) (Classical.propDecidable _)
theorem egB_true {R : Nat → Nat → Prop} {a b : Nat} : egB R a b = true ↔ Eg R a b := by unfold egB; exact @decide_eq_true_iff _ (Classical.propDecidable _)
theorem eg_pre (n : Nat) (R : Nat → Nat → Prop) : Pre n (egB R) := pre_of (fun x _ => egB_true.2 (.refl x)) fun _ _ _ _ _ _ h h' => egB_true.2 ((egB_true.1 h).trans (egB_true.1 h'))
noncomputable def eqP (n : Nat) (R : Nat → Nat → Prop) : List Int := clsL n (egB R)
theorem eqP_len {n : Nat} {R : Nat → Nat → Prop} : (eqP n R).length = n := clsL_len _ _
theorem eqP_canon {n : Nat} {R : Nat → Nat → Prop} : canon (eqP n R) = eqP n R := canon_idem _
theorem eqP_valid {n : Nat} {R : Nat → Nat → Prop} (h : n ≤ 4096) : validP (eqP n R) := ⟨by rw [eqP_len]; exact h, eqP_canon⟩
theorem eqP_iff {n : Nat} {R : Nat → Nat → Prop} {a b : Nat} (ha : a < n) (hb : b < n) : (eqP n R).getD a 0 = (eqP n R).getD b 0 ↔ Eg R a b := by
  unfold eqP
  rw [clsL_iff (eg_pre n R) ha hb, egB_true, egB_true]
  exact ⟨fun h => h.1, fun h => ⟨h, h.symm⟩⟩
theorem eqP_of {n : Nat} {p : List Int} {R : Nat → Nat → Prop} (h : KerOf n p R) : canon p = eqP n R :=
  ker_clsL (eg_pre n R) h.1 fun a b ha hb => by
    rw [egB_true, egB_true, h.2 a b ha hb]
    exact ⟨fun h => ⟨h, h.symm⟩, fun h => h.1⟩
theorem KerR.congr {n : Nat} {r : Nat → Nat} {R R' : Nat → Nat → Prop} (h : KerR n r R) (h1 : ∀ a b, R a b → Eg R' a b) (h2 : ∀ a b, R' a b → Eg R a b) : KerR n r R' :=
  fun a b ha hb => (h a b ha hb).trans ⟨Eg.mono h1, Eg.mono h2⟩
def relP (l : List (Int × Int)) (a b : Nat) : Prop := ((a : Int), (b : Int)) ∈ l
def orR (R : Nat → Nat → Prop) (l : List (Int × Int)) (a b : Nat) : Prop := R a b ∨ relP l a b
theorem relP_lt {n : Nat} {l : List (Int × Int)} (h : inW n l) {a b : Nat} (hr : relP l a b) : a < n ∧ b < n := by
  have := h _ hr
  simp only at this
  omega
theorem prR_ker {n : Nat} : ∀ (l : List (Int × Int)) (r : Nat → Nat) (R : Nat → Nat → Prop), KerR n r R → inW n l → KerR n (prR r l) (orR R l)
  | [], r, R, h, _ => h.congr (fun a b h => .rel (.inl h)) fun a b h => h.elim .rel fun h => nomatch h
  | x :: l, r, R, h, hW => by
    have hx := hW x (by simp)
    have hl : inW n l := fun q hq => hW q (List.mem_cons_of_mem _ hq)
    refine (prR_ker l (ufR r x.1.toNat x.2.toNat) (orP R x.1.toNat x.2.toNat) (h.union (by omega) (by omega)) hl).congr (fun a b h => .rel ?_) fun a b h => .rel ?_
    · rcases h with (h | ⟨rfl, rfl⟩) | h
      · exact .inl h
      · refine .inr ?_
        show (_, _) ∈ _
        rw [Int.toNat_of_nonneg hx.1.1, Int.toNat_of_nonneg hx.2.1]
        exact List.mem_cons_self
      · exact .inr (List.mem_cons_of_mem _ h)
    · rcases h with h | h
      · exact .inl (.inl h)
      · rcases List.mem_cons.1 h with h | h
        · exact .inl (.inr ⟨by rw [← h]; rfl, by rw [← h]; rfl⟩)
        · exact .inr h
theorem pairs_eqP {n : Nat} {l : List (Int × Int)} (h : inW n l) : canon (rtL n (prR id l)) = eqP n (relP l) :=
  eqP_of (((prR_ker l id (fun _ _ => False) (KerR.dis n) h).congr (fun a b h => h.elim (fun f => f.elim) .rel) fun a b h => .rel (.inr h)).ker)
end Go.Proofs.Ytkbhgnbnnbengaa
end
section
/- Plain: how the reference closes a partition under products. -/
namespace Go.Proofs.Ytkbhgnbnnbengaa
open Go Go.AM
theorem nodup_sub {α : Type} [DecidableEq α] : ∀ {A B : List α}, A.Nodup → (∀ x ∈ A, x ∈ B) → A.length ≤ B.length
  | [], _, _, _ => Nat.zero_le _
  | a :: A, B, hA, h => by
    have ha := h a (by simp)
    have hn := List.nodup_cons.1 hA
    have := nodup_sub (B := B.erase a) hn.2 fun x hx => (List.mem_erase_of_ne fun e => by subst e; exact hn.1 hx).2 (h x (List.mem_cons_of_mem _ hx))
    have hl := List.length_erase_of_mem ha
    have hp := List.length_pos_of_mem ha
    simp only [List.length_cons]; omega
theorem mrg_less {p : List Int} {a b : Nat} (ha : a < p.length) (hb : b < p.length) (hne : p.getD a 0 ≠ p.getD b 0) : classN (mrgL p a b) < classN p := by
  have hm : ∀ x ∈ mrgL p a b, x ∈ p ∧ x ≠ p.getD b 0 := fun x hx => by
    obtain ⟨k, hk, rfl⟩ := mem_getD 0 hx
    rw [mrgL_len] at hk
    rw [mrgL_get hk]
    by_cases e : p.getD k 0 = p.getD b 0
    · rw [if_pos e]; exact ⟨getD_mem ha, hne⟩
    · rw [if_neg e]; exact ⟨getD_mem hk, e⟩
  have := nodup_sub (A := p.getD b 0 :: firsts (mrgL p a b)) (B := firsts p) (List.nodup_cons.2 ⟨fun h => (hm _ (mem_firsts.1 h)).2 rfl, firsts_nodup _⟩) fun x hx => by
    rcases List.mem_cons.1 hx with rfl | hx
    · exact mem_firsts.2 (getD_mem hb)
    · exact mem_firsts.2 (hm x (mem_firsts.1 hx)).1
  simp only [List.length_cons] at this
  exact this
structure RcB (t : List (List Int)) (side : Int) (R : Nat → Nat → Prop) (p : List Int) : Prop where
  len : p.length = t.length
  up : ∀ a b, a < t.length → b < t.length → p.getD a 0 = p.getD b 0 → Cgr t side R a b
  lo : ∀ a b, R a b → a < t.length ∧ b < t.length ∧ p.getD a 0 = p.getD b 0
section
variable {t : List (List Int)} {side : Int} {R : Nat → Nat → Prop} {p p0 : List Int} {ch : Bool} {x y s : Nat}
theorem RcB.mrg (h : RcB t side R p) {a b : Nat} (ha : a < t.length) (hb : b < t.length) (e : Cgr t side R a b) : RcB t side R (mrgL p a b) := by
  have hl := h.len
  refine ⟨by rw [mrgL_len]; exact hl, fun i j hi hj e2 => ?_, fun i j hR => ?_⟩
  · rw [mrgL_get (by omega), mrgL_get (by omega)] at e2
    by_cases e3 : p.getD i 0 = p.getD b 0 <;> by_cases e4 : p.getD j 0 = p.getD b 0
    · exact (h.up i b hi hb e3).trans (h.up j b hj hb e4).symm
    · rw [if_pos e3, if_neg e4] at e2
      exact (h.up i b hi hb e3).trans (e.symm.trans (h.up a j ha hj e2))
    · rw [if_neg e3, if_pos e4] at e2
      exact (h.up i a hi ha e2).trans (e.trans (h.up b j hb hj e4.symm))
    · rw [if_neg e3, if_neg e4] at e2
      exact h.up i j hi hj e2
  · have k := h.lo i j hR
    refine ⟨k.1, k.2.1, ?_⟩
    rw [mrgL_get (by omega), mrgL_get (by omega), k.2.2]
structure RcI (t : List (List Int)) (side : Int) (R : Nat → Nat → Prop) (p0 p : List Int) (ch : Bool) (x y s : Nat) : Prop where
  b : RcB t side R p
  cd : ch = true → classN p < classN p0
  eq : ch = false → p = p0
  cl : ch = false → ∀ x' y' s', x' < t.length → y' < x' → s' < t.length → (x' < x ∨ (x' = x ∧ y' < y) ∨ (x' = x ∧ y' = y ∧ s' < s)) → p0.getD x' 0 = p0.getD y' 0 → CgA t p0 side x' y' s'
theorem RcI.start (h : RcB t side R p) : RcI t side R p p false 0 0 0 := ⟨h, (fun h => by cases h), fun _ => rfl, fun _ x' y' s' _ _ _ h => by omega⟩
theorem RcI.le (h : RcI t side R p0 p ch x y s) : classN p ≤ classN p0 := by
  cases hc : ch with
  | true => exact Nat.le_of_lt (h.cd hc)
  | false => rw [h.eq hc]; exact Nat.le_refl _
theorem RcI.mrg (h : RcI t side R p0 p ch x y s) {a b : Nat} (ha : a < t.length) (hb : b < t.length) (e : Cgr t side R a b) (hne : p.getD a 0 ≠ p.getD b 0) (x' y' s' : Nat) : RcI t side R p0 (mrgL p a b) true x' y' s' :=
  ⟨h.b.mrg ha hb e, fun _ => Nat.lt_of_lt_of_le (mrg_less (by rw [h.b.len]; exact ha) (by rw [h.b.len]; exact hb) hne) h.le, fun h => (by cases h), fun h => (by cases h)⟩
theorem RcI.chd (h : RcI t side R p0 p true x y s) (x' y' s' : Nat) : RcI t side R p0 p true x' y' s' := ⟨h.b, h.cd, h.eq, fun h => (by cases h)⟩
theorem RcI.okS (h : RcI t side R p0 p ch x y s) (hg : CgA t p side x y s) : RcI t side R p0 p ch x y (s + 1) :=
  ⟨h.b, h.cd, h.eq, fun hc x' y' s' h1 h2 h3 h4 h5 => by
    by_cases e : x' = x ∧ y' = y ∧ s' = s
    · obtain ⟨rfl, rfl, rfl⟩ := e
      rw [← h.eq hc]; exact hg
    · exact h.cl hc x' y' s' h1 h2 h3 (by omega) h5⟩
theorem RcI.endS (h : RcI t side R p0 p ch x y s) (hs : t.length ≤ s ∨ p.getD x 0 ≠ p.getD y 0) : RcI t side R p0 p ch x (y + 1) 0 :=
  ⟨h.b, h.cd, h.eq, fun hc x' y' s' h1 h2 h3 h4 h5 => by
    by_cases e : x' = x ∧ y' = y
    · rcases hs with hs | hs
      · exact h.cl hc x' y' s' h1 h2 h3 (by omega) h5
      · rw [e.1, e.2, ← h.eq hc] at h5; exact absurd h5 hs
    · exact h.cl hc x' y' s' h1 h2 h3 (by omega) h5⟩
theorem RcI.endY (h : RcI t side R p0 p ch x y 0) (hy : x ≤ y) : RcI t side R p0 p ch (x + 1) 0 0 :=
  ⟨h.b, h.cd, h.eq, fun hc x' y' s' h1 h2 h3 h4 h5 => h.cl hc x' y' s' h1 h2 h3 (by omega) h5⟩
theorem RcI.done (h : RcI t side R p0 p false x y 0) (hx : t.length ≤ x) : canon p = genP t side R := by
  have e := h.eq rfl
  subst e
  refine genP_of h.b.len h.b.up (fun a b hR => (h.b.lo a b hR).2.2) fun a b s ha hb hs e => ?_
  have key : ∀ a b, a < t.length → b < a → p.getD a 0 = p.getD b 0 → CgA t p side a b s := fun a b ha hb e => h.cl rfl a b s ha hb hs (.inl (by omega)) e
  rcases Nat.lt_trichotomy a b with hab | hab | hab
  · have := key b a hb hab e.symm
    exact ⟨fun h0 => (this.1 h0).symm, fun h0 => (this.2 h0).symm⟩
  · subst hab; exact ⟨fun _ => rfl, fun _ => rfl⟩
  · exact key a b ha hab e
theorem RcB.ofPairs {l : List (Int × Int)} (hl : inW t.length l) : RcB t side (relP l) (eqP t.length (relP l)) :=
  ⟨eqP_len, fun a b ha hb e => ((eqP_iff ha hb).1 e).least .refl (fun _ _ => .symm) (fun _ _ _ => .trans) fun a b h => .rel h,
    fun a b hR => by have := relP_lt hl hR; exact ⟨this.1, this.2, (eqP_iff this.1 this.2).2 (.rel hR)⟩⟩
end
end Go.Proofs.Ytkbhgnbnnbengaa
end
