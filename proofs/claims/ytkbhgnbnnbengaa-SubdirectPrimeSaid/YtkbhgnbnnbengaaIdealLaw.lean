import Derived.Test.YtkbhgnbnnbengaaRefPart
import Derived.Test.YtkbhgnbnnbengaaForLaw
import Derived.Test.YtkbhgnbnnbengaaReesLaw
import Derived.Test.YtkbhgnbnnbengaaGroup
section
/- Plain: the congruence that pairs generate; how the forest of congr makes it. -/
namespace Go.Proofs.Ytkbhgnbnnbengaa
open Go Go.AM
inductive Cgr (t : List (List Int)) (side : Int) (R : Nat → Nat → Prop) : Nat → Nat → Prop
  | rel {a b : Nat} (h : R a b) : Cgr t side R a b
  | refl (a : Nat) : Cgr t side R a a
  | symm {a b : Nat} (h : Cgr t side R a b) : Cgr t side R b a
  | trans {a b c : Nat} (h : Cgr t side R a b) (h' : Cgr t side R b c) : Cgr t side R a c
  | left {a b s : Nat} (h0 : side ≠ 2) (hs : s < t.length) (ha : a < t.length) (hb : b < t.length) (h : Cgr t side R a b) : Cgr t side R (en t s a) (en t s b)
  | right {a b s : Nat} (h0 : side ≠ 1) (hs : s < t.length) (ha : a < t.length) (hb : b < t.length) (h : Cgr t side R a b) : Cgr t side R (en t a s) (en t b s)
theorem Cgr.least {t : List (List Int)} {side : Int} {R Q : Nat → Nat → Prop} (hr : ∀ a, Q a a) (hs : ∀ a b, Q a b → Q b a) (ht : ∀ a b c, Q a b → Q b c → Q a c) (h : ∀ a b, R a b → Q a b)
    (hl : side ≠ 2 → ∀ a b s, s < t.length → a < t.length → b < t.length → Q a b → Q (en t s a) (en t s b)) (hR : side ≠ 1 → ∀ a b s, s < t.length → a < t.length → b < t.length → Q a b → Q (en t a s) (en t b s)) {a b : Nat} (e : Cgr t side R a b) : Q a b := by
  induction e with
  | rel h1 => exact h _ _ h1
  | refl a => exact hr a
  | symm _ ih => exact hs _ _ ih
  | trans _ _ i1 i2 => exact ht _ _ _ i1 i2
  | left h0 h1 h2 h3 _ ih => exact hl h0 _ _ _ h1 h2 h3 ih
  | right h0 h1 h2 h3 _ ih => exact hR h0 _ _ _ h1 h2 h3 ih
noncomputable def cgrB (t : List (List Int)) (side : Int) (R : Nat → Nat → Prop) (a b : Nat) : Bool := @decide (Cgr t side R a b) (Classical.propDecidable _)
theorem cgrB_true {t : List (List Int)} {side : Int} {R : Nat → Nat → Prop} {a b : Nat} : cgrB t side R a b = true ↔ Cgr t side R a b := by unfold cgrB; exact @decide_eq_true_iff _ (Classical.propDecidable _)
theorem cgr_pre (t : List (List Int)) (side : Int) (R : Nat → Nat → Prop) : Pre t.length (cgrB t side R) :=
  pre_of (fun x _ => cgrB_true.2 (.refl x)) fun _ _ _ _ _ _ h h' => cgrB_true.2 ((cgrB_true.1 h).trans (cgrB_true.1 h'))
noncomputable def genP (t : List (List Int)) (side : Int) (R : Nat → Nat → Prop) : List Int := clsL t.length (cgrB t side R)
section
variable {t : List (List Int)} {side : Int} {R : Nat → Nat → Prop}
theorem genP_len : (genP t side R).length = t.length := clsL_len _ _
theorem genP_canon : canon (genP t side R) = genP t side R := canon_idem _
theorem genP_iff {a b : Nat} (ha : a < t.length) (hb : b < t.length) : (genP t side R).getD a 0 = (genP t side R).getD b 0 ↔ Cgr t side R a b := by
  unfold genP
  rw [clsL_iff (cgr_pre t side R) ha hb, cgrB_true, cgrB_true]
  exact ⟨fun h => h.1, fun h => ⟨h, h.symm⟩⟩
theorem genP_cg (hs : Sh t) : Cg t (genP t side R) side := fun x y s hx hy hsl e => by
  have e := (genP_iff hx hy).1 e
  exact ⟨fun h0 => (genP_iff (hs.ent hsl hx).2 (hs.ent hsl hy).2).2 (.left h0 hsl hx hy e), fun h0 => (genP_iff (hs.ent hx hsl).2 (hs.ent hy hsl).2).2 (.right h0 hsl hx hy e)⟩
theorem genP_valid (hs : Sh t) : validP (genP t side R) := ⟨by rw [genP_len]; have := hs.most; omega, genP_canon⟩
theorem genP_is (h : Semi t) (h0 : 0 ≤ side ∧ side ≤ 2) : IsCg t (genP t side R) side := ⟨h, genP_len, genP_valid h.toSh, h0, genP_cg h.toSh⟩
theorem Cgr.sub {p : List Int} (hR : ∀ a b, R a b → p.getD a 0 = p.getD b 0) (hg : Cg t p side) {a b : Nat} (e : Cgr t side R a b) : p.getD a 0 = p.getD b 0 :=
  e.least (Q := fun a b => p.getD a 0 = p.getD b 0) (fun _ => rfl) (fun _ _ h => h.symm) (fun _ _ _ h h' => h.trans h') hR
    (fun h0 a b s hs ha hb h => (hg a b s ha hb hs h).1 h0) (fun h0 a b s hs ha hb h => (hg a b s ha hb hs h).2 h0)
theorem genP_of {p : List Int} (hl : p.length = t.length) (h1 : ∀ a b, a < t.length → b < t.length → p.getD a 0 = p.getD b 0 → Cgr t side R a b) (hR : ∀ a b, R a b → p.getD a 0 = p.getD b 0) (hg : Cg t p side) : canon p = genP t side R := by
  refine ker_clsL (cgr_pre t side R) hl fun a b ha hb => ?_
  rw [cgrB_true, cgrB_true]
  exact ⟨fun e => ⟨h1 a b ha hb e, (h1 a b ha hb e).symm⟩, fun e => e.1.sub hR hg⟩
end
/-! ### From generators to all elements -/
section
variable {t : List (List Int)} {side : Int}
theorem eg_gens {J : Nat → Nat → Prop} (hs : Semi t) (hJ : ∀ a b, J a b → a < t.length ∧ b < t.length) {gens : List Int} (hg : ∀ g ∈ gens, 0 ≤ g ∧ g < (t.length : Int))
    (hc : ∀ a b, J a b → ∀ g ∈ gens, (side ≠ 2 → Eg J (en t g.toNat a) (en t g.toNat b)) ∧ (side ≠ 1 → Eg J (en t a g.toNat) (en t b g.toNat))) {s : Nat} (m : Mk t gens s) :
    ∀ a b, a < t.length → b < t.length → Eg J a b → (side ≠ 2 → Eg J (en t s a) (en t s b)) ∧ (side ≠ 1 → Eg J (en t a s) (en t b s)) := by
  have hS := hs.toSh
  have base : ∀ g ∈ gens, ∀ a b, Eg J a b → (side ≠ 2 → Eg J (en t g.toNat a) (en t g.toNat b)) ∧ (side ≠ 1 → Eg J (en t a g.toNat) (en t b g.toNat)) := fun g hgm a b e =>
    e.least (Q := fun a b => (side ≠ 2 → Eg J (en t g.toNat a) (en t g.toNat b)) ∧ (side ≠ 1 → Eg J (en t a g.toNat) (en t b g.toNat))) (fun _ => ⟨fun _ => .refl _, fun _ => .refl _⟩) (fun _ _ h => ⟨fun h0 => (h.1 h0).symm, fun h0 => (h.2 h0).symm⟩)
      (fun _ _ _ h h' => ⟨fun h0 => (h.1 h0).trans (h'.1 h0), fun h0 => (h.2 h0).trans (h'.2 h0)⟩) fun a b h => hc a b h g hgm
  have key : ∀ {s : Nat}, Mk t gens s → s < t.length ∧ ∀ a b, a < t.length → b < t.length → Eg J a b → (side ≠ 2 → Eg J (en t s a) (en t s b)) ∧ (side ≠ 1 → Eg J (en t a s) (en t b s)) := fun {s} m => by
    induction m with
    | gen h => exact ⟨by have := hg _ h; omega, fun a b _ _ e => base _ h a b e⟩
    | mul ha hb i1 i2 =>
      rename_i u v
      refine ⟨(hS.ent i1.1 i2.1).2, fun a b hal hbl e => ⟨fun h0 => ?_, fun h0 => ?_⟩⟩
      · rw [assoc3 hs.assoc i1.1 i2.1 hal, assoc3 hs.assoc i1.1 i2.1 hbl]
        exact (i1.2 _ _ (hS.ent i2.1 hal).2 (hS.ent i2.1 hbl).2 ((i2.2 a b hal hbl e).1 h0)).1 h0
      · rw [← assoc3 hs.assoc hal i1.1 i2.1, ← assoc3 hs.assoc hbl i1.1 i2.1]
        exact (i2.2 _ _ (hS.ent hal i1.1).2 (hS.ent hbl i1.1).2 ((i1.2 a b hal hbl e).2 h0)).2 h0
  exact (key m).2
end
/-! ### The forest: joined or not; the number of classes -/
def rtB (r : Nat → Nat) (i : Nat) : Bool := decide (r i = i)
def cntR (n : Nat) (r : Nat → Nat) : Nat := ((List.range n).filter (rtB r)).length
theorem cnt_del {P : Nat → Bool} {M : Nat} : ∀ {n : Nat}, M < n → P M = true → ((List.range n).filter fun i => P i && decide (i ≠ M)).length + 1 = ((List.range n).filter P).length := by
  have no : ∀ n, n ≤ M → ((List.range n).filter fun i => P i && decide (i ≠ M)) = (List.range n).filter P := fun n hn =>
    List.filter_congr fun x hx => by
      have := List.mem_range.1 hx
      have : x ≠ M := by omega
      simp [this]
  intro n
  induction n with
  | zero => intro h; omega
  | succ n ih =>
    intro h hp
    rw [List.range_succ, List.filter_append, List.filter_append, List.length_append, List.length_append]
    by_cases e : M = n
    · subst e
      rw [no M (Nat.le_refl _)]
      simp [hp]
    · have := ih (by omega) hp
      have hn : (decide (n ≠ M)) = true := decide_eq_true (fun h => e h.symm)
      have : ([n].filter fun i => P i && decide (i ≠ M)) = [n].filter P := by
        simp only [List.filter_cons, hn, Bool.and_true, List.filter_nil]
      rw [this]; omega
theorem cnt_union {n : Nat} {p : List Int} {r : Nat → Nat} (h : Fo n p r) {i j : Nat} (hi : i < n) (hj : j < n) (hne : r i ≠ r j) : cntR n (ufR r i j) + 1 = cntR n r := by
  have hM : max (r i) (r j) < n := by have := h.rlt hi; have := h.rlt hj; omega
  have hr : r (max (r i) (r j)) = max (r i) (r j) ∧ r (min (r i) (r j)) = min (r i) (r j) := by
    have h1 := h.rr hi
    have h2 := h.rr hj
    rcases Nat.le_total (r i) (r j) with e | e
    · rw [Nat.max_eq_right e, Nat.min_eq_left e]; exact ⟨h2, h1⟩
    · rw [Nat.max_eq_left e, Nat.min_eq_right e]; exact ⟨h1, h2⟩
  have hlt : min (r i) (r j) < max (r i) (r j) := by omega
  have := cnt_del (P := rtB r) hM (by unfold rtB; exact decide_eq_true hr.1)
  unfold cntR
  rw [← this]
  congr 1
  refine congrArg List.length (List.filter_congr fun k hk => ?_)
  unfold rtB ufR
  generalize max (r i) (r j) = M at *
  generalize min (r i) (r j) = m at *
  by_cases e : r k = M
  · rw [if_pos e]
    have h1 : ¬ m = k := fun e2 => by rw [← e2, hr.2] at e; omega
    by_cases h2 : k = M
    · simp [h1, h2]
      intro; omega
    · have h3 : ¬ r k = k := fun e2 => h2 (by omega)
      simp [h1, h3]
  · rw [if_neg e]
    have h2 : k ≠ M := fun e2 => e (by rw [e2]; exact hr.1)
    simp [h2]
theorem cnt_le (n : Nat) (r : Nat → Nat) : cntR n r ≤ n := by
  have := List.length_filter_le (rtB r) (List.range n)
  rw [List.length_range] at this
  exact this
theorem cnt_id (n : Nat) : cntR n id = n := by
  unfold cntR
  rw [List.filter_eq_self.2 fun x _ => by unfold rtB; exact decide_eq_true rfl, List.length_range]
def fn2L (p : List Int) (i j : Nat) : List Int := fndL (j + 1) (fndL (i + 1) p i) j
theorem fn2_fo {n : Nat} {p : List Int} {r : Nat → Nat} (h : Fo n p r) {i j : Nat} (hi : i < n) (hj : j < n) : Fo n (fn2L p i j) r := fndL_fo _ (fndL_fo _ h hi) hj
def jnP (r : Nat → Nat) (p : List Int) (i j : Nat) : List Int := if r i = r j then fn2L p i j else ufL r p i j
def jnR (r : Nat → Nat) (i j : Nat) : Nat → Nat := if r i = r j then r else ufR r i j
theorem jn_fo {n : Nat} {p : List Int} {r : Nat → Nat} (h : Fo n p r) {i j : Nat} (hi : i < n) (hj : j < n) : Fo n (jnP r p i j) (jnR r i j) := by
  unfold jnP jnR
  by_cases e : r i = r j
  · rw [if_pos e, if_pos e]; exact fn2_fo h hi hj
  · rw [if_neg e, if_neg e]; exact h.union hi hj
theorem jn_ker {n : Nat} {r : Nat → Nat} {R : Nat → Nat → Prop} (h : KerR n r R) {i j : Nat} (hi : i < n) (hj : j < n) : KerR n (jnR r i j) (orP R i j) := by
  unfold jnR
  by_cases e : r i = r j
  · rw [if_pos e]
    intro a b ha hb
    rw [h a b ha hb]
    refine ⟨fun k => k.mono fun a b h => .rel (.inl h), fun k => k.mono fun a b h => ?_⟩
    rcases h with h | ⟨rfl, rfl⟩
    · exact .rel h
    · exact (h a b hi hj).1 e
  · rw [if_neg e]; exact h.union hi hj
theorem jn_cnt {n : Nat} {p : List Int} {r : Nat → Nat} (h : Fo n p r) {i j : Nat} (hi : i < n) (hj : j < n) : cntR n (jnR r i j) + (if r i = r j then 0 else 1) = cntR n r := by
  unfold jnR
  by_cases e : r i = r j
  · rw [if_pos e, if_pos e, Nat.add_zero]
  · rw [if_neg e, if_neg e]; exact cnt_union h hi hj e
/-! ### The spreading of joined pairs -/
def puL (t : List (List Int)) (side : Int) (x y : Nat) (gens : List Int) : List (Int × Int) :=
  gens.flatMap fun g => (if side ≠ 2 then [((en t g.toNat x : Int), (en t g.toNat y : Int))] else []) ++ (if side ≠ 1 then [((en t x g.toNat : Int), (en t y g.toNat : Int))] else [])
theorem puL_snoc (t : List (List Int)) (side : Int) (x y : Nat) (gens : List Int) (g : Int) : puL t side x y (gens ++ [g]) = puL t side x y gens ++ ((if side ≠ 2 then [((en t g.toNat x : Int), (en t g.toNat y : Int))] else []) ++ (if side ≠ 1 then [((en t x g.toNat : Int), (en t y g.toNat : Int))] else [])) := by
  simp [puL]
theorem puL_len (t : List (List Int)) (side : Int) (x y : Nat) (gens : List Int) : (puL t side x y gens).length ≤ 2 * gens.length := by
  induction gens with
  | nil => simp [puL]
  | cons g l ih =>
    have e : puL t side x y (g :: l) = ((if side ≠ 2 then [((en t g.toNat x : Int), (en t g.toNat y : Int))] else []) ++ (if side ≠ 1 then [((en t x g.toNat : Int), (en t y g.toNat : Int))] else [])) ++ puL t side x y l := by simp [puL]
    rw [e, List.length_append, List.length_append, List.length_cons]
    have h1 : (if side ≠ 2 then [((en t g.toNat x : Int), (en t g.toNat y : Int))] else []).length ≤ 1 := by split <;> simp
    have h2 : (if side ≠ 1 then [((en t x g.toNat : Int), (en t y g.toNat : Int))] else []).length ≤ 1 := by split <;> simp
    omega
theorem mem_puL {t : List (List Int)} {side : Int} {x y : Nat} {gens : List Int} {q : Int × Int} : q ∈ puL t side x y gens ↔ ∃ g ∈ gens, (side ≠ 2 ∧ q = ((en t g.toNat x : Int), (en t g.toNat y : Int))) ∨ (side ≠ 1 ∧ q = ((en t x g.toNat : Int), (en t y g.toNat : Int))) := by
  unfold puL
  rw [List.mem_flatMap]
  refine exists_congr fun g => and_congr Iff.rfl ?_
  rw [List.mem_append]
  refine or_congr ?_ ?_
  · split
    · rename_i h; rw [List.mem_singleton]; exact ⟨fun e => ⟨h, e⟩, fun e => e.2⟩
    · rename_i h; exact ⟨fun e => (nomatch e), fun e => absurd e.1 h⟩
  · split
    · rename_i h; rw [List.mem_singleton]; exact ⟨fun e => ⟨h, e⟩, fun e => e.2⟩
    · rename_i h; exact ⟨fun e => (nomatch e), fun e => absurd e.1 h⟩
inductive Sp (t : List (List Int)) (gens : List Int) (side : Int) (q : List Int) (u : Nat → Nat) : Nat → List Int → (Nat → Nat) → List (Int × Int) → Prop
  | done : Sp t gens side q u 0 q u []
  | step {k : Nat} {p : List Int} {r : Nat → Nat} {W : List (Int × Int)} {x y : Nat} (h : Sp t gens side q u k (jnP r p x y) (jnR r x y) (W ++ (if r x = r y then [] else puL t side x y gens))) : Sp t gens side q u (k + 1) p r (W ++ [((x : Int), (y : Int))])
theorem Sp.inv {t : List (List Int)} {gens : List Int} {side : Int} {q p : List Int} {u r : Nat → Nat} {k : Nat} {W : List (Int × Int)} (h : Sp t gens side q u k p r W) :
    (W = [] ∧ p = q ∧ r = u) ∨ ∃ (j x y : Nat) (V : List (Int × Int)), k = j + 1 ∧ W = V ++ [((x : Int), (y : Int))] ∧ Sp t gens side q u j (jnP r p x y) (jnR r x y) (V ++ (if r x = r y then [] else puL t side x y gens)) := by
  cases h with
  | done => exact .inl ⟨rfl, rfl, rfl⟩
  | step h => exact .inr ⟨_, _, _, _, rfl, rfl, h⟩
theorem Sp.top {t : List (List Int)} {gens : List Int} {side : Int} {q p : List Int} {u r : Nat → Nat} {k : Nat} {W : List (Int × Int)} (h : Sp t gens side q u k p r W) (h0 : 0 < W.length) :
    ∃ j, k = j + 1 ∧ Sp t gens side q u j (jnP r p (W.getD (W.length - 1) (0, 0)).1.toNat (W.getD (W.length - 1) (0, 0)).2.toNat) (jnR r (W.getD (W.length - 1) (0, 0)).1.toNat (W.getD (W.length - 1) (0, 0)).2.toNat)
      (W.take (W.length - 1) ++ (if r (W.getD (W.length - 1) (0, 0)).1.toNat = r (W.getD (W.length - 1) (0, 0)).2.toNat then [] else puL t side (W.getD (W.length - 1) (0, 0)).1.toNat (W.getD (W.length - 1) (0, 0)).2.toNat gens)) := by
  rcases h.inv with ⟨rfl, _⟩ | ⟨j, x, y, V, hk, rfl, hs⟩
  · simp at h0
  · have e1 : (V ++ [((x : Int), (y : Int))]).length - 1 = V.length := by simp
    have e2 : (V ++ [((x : Int), (y : Int))]).getD V.length (0, 0) = ((x : Int), (y : Int)) := by simp [List.getD]
    have e3 : (V ++ [((x : Int), (y : Int))]).take V.length = V := by simp
    rw [e1, e2, e3]
    exact ⟨j, hk, by simpa using hs⟩
theorem Sp.bot {t : List (List Int)} {gens : List Int} {side : Int} {q p : List Int} {u r : Nat → Nat} {k : Nat} {W : List (Int × Int)} (h : Sp t gens side q u k p r W) (h0 : W.length = 0) : p = q ∧ r = u := by
  rcases h.inv with ⟨_, h1, h2⟩ | ⟨j, x, y, V, hk, rfl, hs⟩
  · exact ⟨h1, h2⟩
  · simp at h0
def inW (n : Nat) (W : List (Int × Int)) : Prop := ∀ q ∈ W, (0 ≤ q.1 ∧ q.1 < (n : Int)) ∧ 0 ≤ q.2 ∧ q.2 < (n : Int)
theorem puL_in {t : List (List Int)} {side : Int} {x y : Nat} {gens : List Int} (hs : Sh t) (hg : ∀ g ∈ gens, 0 ≤ g ∧ g < (t.length : Int)) (hx : x < t.length) (hy : y < t.length) : inW t.length (puL t side x y gens) := fun q hq => by
  obtain ⟨g, hgm, h⟩ := mem_puL.1 hq
  have hgl := hg g hgm
  have e1 := (hs.ent (x := g.toNat) (by omega) hx).2
  have e2 := (hs.ent (x := g.toNat) (by omega) hy).2
  have e3 := (hs.ent (y := g.toNat) hx (by omega)).2
  have e4 := (hs.ent (y := g.toNat) hy (by omega)).2
  rcases h with ⟨_, rfl⟩ | ⟨_, rfl⟩
  · exact ⟨⟨by omega, by omega⟩, by omega, by omega⟩
  · exact ⟨⟨by omega, by omega⟩, by omega, by omega⟩
theorem inW_app {n : Nat} {V W : List (Int × Int)} : inW n (V ++ W) ↔ inW n V ∧ inW n W :=
  ⟨fun h => ⟨fun q hq => h q (List.mem_append_left _ hq), fun q hq => h q (List.mem_append_right _ hq)⟩, fun h q hq => (List.mem_append.1 hq).elim (h.1 q) (h.2 q)⟩
theorem snoc_cases {α : Type} : ∀ (W : List α), W = [] ∨ ∃ V x, W = V ++ [x]
  | [] => .inl rfl
  | a :: l => .inr ⟨(a :: l).dropLast, (a :: l).getLast (by simp), (List.dropLast_concat_getLast (by simp)).symm⟩
section
variable {t : List (List Int)} {gens : List Int} {side : Int}
theorem sp_ex (hs : Sh t) (hg : ∀ g ∈ gens, 0 ≤ g ∧ g < (t.length : Int)) : ∀ (m : Nat) (p : List Int) (r : Nat → Nat) (W : List (Int × Int)), Fo t.length p r → inW t.length W → (2 * gens.length + 1) * cntR t.length r + W.length ≤ m → ∃ q u k, Sp t gens side q u k p r W := by
  intro m
  induction m with
  | zero =>
    intro p r W hf hW hm
    have := List.eq_nil_of_length_eq_zero (show W.length = 0 by omega)
    subst this
    exact ⟨p, r, 0, .done⟩
  | succ m ih =>
    intro p r W hf hW hm
    rcases snoc_cases W with rfl | ⟨V, ⟨a, b⟩, rfl⟩
    · exact ⟨p, r, 0, .done⟩
    have hq := hW (a, b) (by simp)
    have hq : (0 ≤ a ∧ a < (t.length : Int)) ∧ 0 ≤ b ∧ b < (t.length : Int) := hq
    obtain ⟨x, rfl⟩ : ∃ x : Nat, a = (x : Int) := ⟨a.toNat, by omega⟩
    obtain ⟨y, rfl⟩ : ∃ y : Nat, b = (y : Int) := ⟨b.toNat, by omega⟩
    have hx : x < t.length := by omega
    have hy : y < t.length := by omega
    have hc := jn_cnt hf hx hy
    have hV := (inW_app.1 hW).1
    rw [List.length_append, List.length_singleton] at hm
    have hp := puL_len t side x y gens
    obtain ⟨q, u, k, h⟩ := ih (jnP r p x y) (jnR r x y) (V ++ (if r x = r y then [] else puL t side x y gens)) (jn_fo hf hx hy) (inW_app.2 ⟨hV, by
      split
      · intro q hq; cases hq
      · exact puL_in hs hg hx hy⟩) (by
      rw [List.length_append]
      by_cases e : r x = r y
      · rw [if_pos e] at hc ⊢
        rw [Nat.add_zero] at hc
        rw [hc]; simp; omega
      · rw [if_neg e] at hc ⊢
        rw [← hc, Nat.mul_add] at hm
        omega)
    exact ⟨q, u, k + 1, .step h⟩
theorem Sp.law {Q : Nat → Nat → Prop} (hs : Sh t) (hg : ∀ g ∈ gens, 0 ≤ g ∧ g < (t.length : Int)) {q : List Int} {u : Nat → Nat} {k : Nat} {p : List Int} {r : Nat → Nat} {W : List (Int × Int)} (h : Sp t gens side q u k p r W) :
    ∀ J : Nat → Nat → Prop, Fo t.length p r → inW t.length W → KerR t.length r J → (∀ a b, J a b → a < t.length ∧ b < t.length ∧ Cgr t side Q a b) → (∀ w ∈ W, Cgr t side Q w.1.toNat w.2.toNat) →
      (∀ a b, J a b → ∀ g ∈ gens, (side ≠ 2 → Eg (fun a b => J a b ∨ ((a : Int), (b : Int)) ∈ W) (en t g.toNat a) (en t g.toNat b)) ∧ (side ≠ 1 → Eg (fun a b => J a b ∨ ((a : Int), (b : Int)) ∈ W) (en t a g.toNat) (en t b g.toNat))) →
      Fo t.length q u ∧ ∃ J' : Nat → Nat → Prop, KerR t.length u J' ∧ (∀ a b, J a b → J' a b) ∧ (∀ a b : Nat, ((a : Int), (b : Int)) ∈ W → Eg J' a b) ∧ (∀ a b, J' a b → a < t.length ∧ b < t.length ∧ Cgr t side Q a b) ∧
        (∀ a b, J' a b → ∀ g ∈ gens, (side ≠ 2 → Eg J' (en t g.toNat a) (en t g.toNat b)) ∧ (side ≠ 1 → Eg J' (en t a g.toNat) (en t b g.toNat))) := by
  induction h with
  | done =>
    intro J hf _ hk hJ _ hc
    refine ⟨hf, J, hk, fun _ _ h => h, fun a b h => (nomatch h), hJ, fun a b h g hgm => ?_⟩
    have := hc a b h g hgm
    have e : (fun a b : Nat => J a b ∨ ((a : Int), (b : Int)) ∈ ([] : List (Int × Int))) = J := by
      funext a b; simp
    rwa [e] at this
  | step h ih =>
    rename_i k p r W x y
    intro J hf hW hk hJ hQ hc
    have hxy := hW ((x : Int), (y : Int)) (by simp)
    have hx : x < t.length := by have := hxy.1.2; simp at this; omega
    have hy : y < t.length := by have := hxy.2.2; simp at this; omega
    have hQxy : Cgr t side Q x y := by simpa using hQ ((x : Int), (y : Int)) (by simp)
    have hWl := (inW_app.1 hW).1
    by_cases e : r x = r y
    · have hJxy : Eg J x y := (hk x y hx hy).1 e
      have e1 : jnR r x y = r := if_pos e
      rw [e1, if_pos e, List.append_nil] at ih
      rw [e1] at h
      have hf' := jn_fo hf hx hy
      rw [e1] at hf'
      have up : ∀ a b, Eg (fun a b => J a b ∨ ((a : Int), (b : Int)) ∈ W ++ [((x : Int), (y : Int))]) a b → Eg (fun a b => J a b ∨ ((a : Int), (b : Int)) ∈ W) a b := fun a b k => k.mono fun a b h => by
        rcases h with h | h
        · exact .rel (.inl h)
        · rcases List.mem_append.1 h with h | h
          · exact .rel (.inr h)
          · rw [List.mem_singleton] at h
            have : a = x ∧ b = y := by rw [Prod.mk.injEq] at h; omega
            obtain ⟨rfl, rfl⟩ := this
            exact hJxy.mono fun a b h => .rel (.inl h)
      obtain ⟨hfo, J', h1, h2, h3, h4, h5⟩ := ih J hf' hWl hk hJ (fun w hw => hQ w (List.mem_append_left _ hw)) fun a b h g hgm => ⟨fun h0 => up _ _ ((hc a b h g hgm).1 h0), fun h0 => up _ _ ((hc a b h g hgm).2 h0)⟩
      refine ⟨hfo, J', h1, h2, fun a b h => ?_, h4, h5⟩
      rcases List.mem_append.1 h with h | h
      · exact h3 a b h
      · rw [List.mem_singleton] at h
        have : a = x ∧ b = y := by rw [Prod.mk.injEq] at h; omega
        obtain ⟨rfl, rfl⟩ := this
        exact hJxy.mono fun a b h => .rel (h2 a b h)
    · rw [if_neg e] at ih
      have hin : inW t.length (W ++ puL t side x y gens) := inW_app.2 ⟨hWl, puL_in hs hg hx hy⟩
      have up : ∀ a b, Eg (fun a b => J a b ∨ ((a : Int), (b : Int)) ∈ W ++ [((x : Int), (y : Int))]) a b → Eg (fun a b => orP J x y a b ∨ ((a : Int), (b : Int)) ∈ W ++ puL t side x y gens) a b := fun a b k => k.mono fun a b h => by
        rcases h with h | h
        · exact .rel (.inl (.inl h))
        · rcases List.mem_append.1 h with h | h
          · exact .rel (.inr (List.mem_append_left _ h))
          · rw [List.mem_singleton] at h
            have : a = x ∧ b = y := by rw [Prod.mk.injEq] at h; omega
            exact .rel (.inl (.inr this))
      obtain ⟨hfo, J', h1, h2, h3, h4, h5⟩ := ih (orP J x y) (jn_fo hf hx hy) hin (jn_ker hk hx hy) (fun a b h => by
          rcases h with h | ⟨rfl, rfl⟩
          · exact hJ a b h
          · exact ⟨hx, hy, hQxy⟩) (fun w hw => by
          rcases List.mem_append.1 hw with hw | hw
          · exact hQ w (List.mem_append_left _ hw)
          · obtain ⟨g, hgm, h⟩ := mem_puL.1 hw
            have hgl := hg g hgm
            rcases h with ⟨h0, rfl⟩ | ⟨h0, rfl⟩
            · simpa using Cgr.left h0 (by omega) hx hy hQxy
            · simpa using Cgr.right h0 (by omega) hx hy hQxy) fun a b h g hgm => by
          rcases h with h | ⟨rfl, rfl⟩
          · exact ⟨fun h0 => up _ _ ((hc a b h g hgm).1 h0), fun h0 => up _ _ ((hc a b h g hgm).2 h0)⟩
          · exact ⟨fun h0 => .rel (.inr (List.mem_append_right _ (mem_puL.2 ⟨g, hgm, .inl ⟨h0, rfl⟩⟩))), fun h0 => .rel (.inr (List.mem_append_right _ (mem_puL.2 ⟨g, hgm, .inr ⟨h0, rfl⟩⟩)))⟩
      refine ⟨hfo, J', h1, fun a b h => h2 a b (.inl h), fun a b h => ?_, h4, h5⟩
      rcases List.mem_append.1 h with h | h
      · exact h3 a b (List.mem_append_left _ h)
      · rw [List.mem_singleton] at h
        have : a = x ∧ b = y := by rw [Prod.mk.injEq] at h; omega
        obtain ⟨rfl, rfl⟩ := this
        exact .rel (h2 a b (.inr ⟨rfl, rfl⟩))
end
end Go.Proofs.Ytkbhgnbnnbengaa
end
section
/- Plain: the greatest congruence in a partition; how the splitter of congr makes it. -/
namespace Go.Proofs.Ytkbhgnbnnbengaa
open Go Go.AM
/-! ### The splitter -/
section
variable {α : Type} [DecidableEq α]
theorem firsts_in {l : List α} {x : α} (h : x ∈ l) : firsts (l ++ [x]) = firsts l := by rw [firsts_snoc, if_pos h]
theorem firsts_out {l : List α} {x : α} (h : x ∉ l) : firsts (l ++ [x]) = firsts l ++ [x] := by rw [firsts_snoc, if_neg h]
theorem canon_out {l : List α} {d : α} {i : Nat} (h : i < l.length) (hm : l.getD i d ∉ l.take i) : (canon l).getD i 0 = ((firsts (l.take i)).length : Nat) := by rw [canon_at (d := d) h, if_neg hm]
end
/-! ### Counting -/
theorem canon_idemG {α : Type} [DecidableEq α] (d : α) (l : List α) : canon (canon l) = canon l :=
  canon_congr (d := 0) (e := d) (canon_length l) fun i j hi hj => by
    rw [canon_length] at hi hj
    exact canon_eq_iff hi hj
end Go.Proofs.Ytkbhgnbnnbengaa
end
section
/- Package subdirect: the meets of a list's ends, and the list without what is superfluous: contracts. -/
namespace Go.Proofs.Ytkbhgnbnnbengaa
open Go Go.AM
set_option maxRecDepth 100000
theorem ptriv_fn (n : Nat) (hn : n ≤ 4096) : QF 22 [.int .i64 n] (.new (.ints .i64 (List.replicate n 0))) := mkQ Try.func22 (by decide +kernel) rfl (Nat.le_of_ble_eq_true rfl) fun _ => by
  refine And.intro (fun h1 => ?_) (fun _ => ?_)
  · have h1 : (n : Int) < 0 := h1
    omega
  refine And.intro (fun h1 => ?_) (fun _ => ?_)
  · have h1 : 4096 < (n : Int) := h1
    omega
  refine And.intro (by omega) ?_
  refine And.intro (by omega) ?_
  refine And.intro (And.intro (by simp [RO.len]) ?_) trivial
  show RO.ints .i64 (List.replicate (n : Int).toNat 0) = RO.ints .i64 (List.replicate n 0)
  rw [Int.toNat_natCast]
def Pt (n : Nat) (p : List Int) : Prop := p.length = n ∧ validP p
def mtP (p q : List Int) : List Int := canon (p.zip q)
def mtL (n : Nat) (l : List (List Int)) : List Int := l.foldr mtP (List.replicate n 0)
theorem Pt.triv {n : Nat} (hn : n ≤ 4096) : Pt n (List.replicate n 0) :=
  ⟨List.length_replicate, by rw [List.length_replicate]; omega, canon_fix.2 fun i _ => by
    have : (List.replicate n (0 : Int)).getD i 0 = 0 := by simp only [List.getD, List.getElem?_replicate]; split <;> rfl
    unfold stepOk; rw [this]; omega⟩
theorem Pt.mt {n : Nat} {p q : List Int} (hp : Pt n p) (hq : Pt n q) : Pt n (mtP p q) := by
  have hl : (mtP p q).length = n := by unfold mtP; rw [canon_length, List.length_zip, hp.1, hq.1]; omega
  exact ⟨hl, by rw [hl]; have := hp.2.1; have := hp.1; omega, canon_idemG (0, 0) _⟩
theorem Pt.mtL {n : Nat} (hn : n ≤ 4096) : ∀ {l : List (List Int)}, (∀ p ∈ l, Pt n p) → Pt n (mtL n l)
  | [], _ => Pt.triv hn
  | _ :: _, h => (h _ (List.mem_cons_self ..)).mt (Pt.mtL hn fun q hq => h q (List.mem_cons_of_mem _ hq))
theorem pmt_fn {n : Nat} {p q : List Int} (hp : Pt n p) (hq : Pt n q) : QF 23 [.ro (.ints .i64 p), .ro (.ints .i64 q)] (.new (.ints .i64 (mtP p q))) := by
  have h := pmeet_fn p q
  rw [if_pos ⟨hp.1.trans hq.1.symm, hp.2, hq.2⟩] at h
  exact h
def sfxL (n : Nat) (l : List (List Int)) : List (List Int) := (List.range (l.length + 1)).map fun i => mtL n (l.drop i)
theorem sfx_len (n : Nat) (l : List (List Int)) : (sfxL n l).length = l.length + 1 := by simp [sfxL]
theorem sfx_get (n : Nat) (l : List (List Int)) {i : Nat} (hi : i ≤ l.length) : (sfxL n l).getD i [] = mtL n (l.drop i) := by
  have : i < l.length + 1 := by omega
  simp [sfxL, List.getD, this]
theorem mtL_drop (n : Nat) (l : List (List Int)) {i : Nat} (hi : i < l.length) : mtL n (l.drop i) = mtP (l.getD i []) (mtL n (l.drop (i + 1))) := by
  rw [List.drop_eq_getElem_cons hi, getD_eq hi]; rfl
set_option maxHeartbeats 1000000 in
theorem ssfx_fn (n : Nat) (l : List (List Int)) (h0 : 0 < n) (hn : n ≤ 4096) (hl : l.length ≤ 4096) (hp : ∀ p ∈ l, Pt n p) : QF 44 [.int .i64 n, .ro (.rows .i64 l)] (.new (.rows .i64 (sfxL n l))) := mkQ Try.func44 (by decide +kernel) rfl (Nat.le_of_ble_eq_true rfl) fun _ => by
  have hd : ∀ i, ∀ p ∈ l.drop i, Pt n p := fun i p h => hp p (List.mem_of_mem_drop h)
  refine And.intro (by omega) ?_
  refine And.intro (by omega) ?_
  refine And.intro (by omega) ?_
  refine Or.inr (Or.inr ?_)
  refine Or.inl (cq (ptriv_fn n hn) (And.intro rfl trivial) ?_)
  have hr : (List.replicate ((l.length : Int) + 1).toNat ([] : List Int)).length = l.length + 1 := by rw [List.length_replicate]; omega
  refine And.intro (show 0 ≤ (l.length : Int) ∧ (l.length : Int) < ((List.replicate ((l.length : Int) + 1).toNat ([] : List Int)).length : Int) by omega) ?_
  refine And.intro (by omega) ?_
  refine And.intro (by omega) ?_
  have hne : ∀ p, Pt n p → p ≠ [] := fun p h e => by have := h.1; rw [e] at this; simp at this; omega
  refine Exists.intro [11, 15, 16, 24, 30, 35, 36, 10015, 10035] <| lp2 (fun (k : Nat) (_ : List (List Int)) => [(6, .int .i64 ((k : Int) - 1))]) (fun _ M => [(10, .vec 0 (.nrows .i64 M) [])]) (fun k M => k ≤ l.length ∧ M.length = l.length + 1 ∧ ∀ j, k ≤ j → j ≤ l.length → M.getD j [] = mtL n (l.drop j)) (fun k _ => k) l.length ((List.replicate ((l.length : Int) + 1).toNat []).set l.length (List.replicate n 0)) ⟨Nat.le_refl _, by rw [List.length_set]; exact hr, fun j h1 h2 => ?_⟩ ?_ ?_
  · have e : j = l.length := by omega
    subst e
    rw [getD_set_eq (by omega), List.drop_length]; rfl
  · repeat' first | refine And.intro ?_ ?_ | exact True.intro | exact hne _ (Pt.triv hn) | (show (_ : Int) = (_ : Int); omega) | omega | exact rfl
  rintro k M ⟨hk, hM, hMj⟩
  refine And.intro (fun h1 => ?_) (fun h1 => ?_)
  · have h1 : 0 ≤ (k : Int) - 1 := h1
    have hkl : k - 1 < l.length := by omega
    have ek : ((k : Int) - 1).toNat = k - 1 := by omega
    have ek2 : ((k : Int) - 1 + 1).toNat = k := by omega
    have hMk := hMj k (Nat.le_refl _) hk
    have hPk : Pt n (mtL n (l.drop k)) := Pt.mtL hn (hd k)
    have hPp : Pt n (l.getD (k - 1) []) := hp _ (getD_mem (d := []) hkl)
    refine Or.inl ?_
    refine Exists.intro (List.replicate 11 false ++ [true, false, true]) (And.intro (by decide +kernel) ?_)
    refine And.intro (show 0 ≤ (k : Int) - 1 ∧ (k : Int) - 1 < (l.length : Int) by omega) ?_
    refine And.intro (show -9223372036854775808 ≤ (k : Int) - 1 + 1 ∧ (k : Int) - 1 + 1 ≤ 9223372036854775807 by omega) ?_
    refine And.intro (show 0 ≤ (k : Int) - 1 + 1 ∧ (k : Int) - 1 + 1 < (M.length : Int) by omega) ?_
    refine And.intro (fun h2 => ?_) (fun _ => ?_)
    · have h2 : M.getD ((k : Int) - 1 + 1).toNat [] = [] := h2
      rw [ek2, hMk] at h2
      exact absurd h2 (hne _ hPk)
    refine Or.inl (cq (pmt_fn (n := n) (p := l.getD ((k : Int) - 1).toNat []) (q := M.getD ((k : Int) - 1 + 1).toNat []) (by rw [ek]; exact hPp) (by rw [ek2, hMk]; exact hPk)) (And.intro rfl (And.intro rfl trivial)) ?_)
    refine And.intro (show 0 ≤ (k : Int) - 1 ∧ (k : Int) - 1 < (M.length : Int) by omega) ?_
    refine And.intro (by omega) ?_
    refine And.intro (by omega) ?_
    have em : mtP (l.getD ((k : Int) - 1).toNat []) (M.getD ((k : Int) - 1 + 1).toNat []) = mtL n (l.drop (k - 1)) := by
      rw [ek, ek2, hMk, mtL_drop n l hkl, show k - 1 + 1 = k by omega]
    refine nx (k - 1, M.set ((k : Int) - 1).toNat (mtP (l.getD ((k : Int) - 1).toNat []) (M.getD ((k : Int) - 1 + 1).toNat []))) ⟨by omega, by rw [List.length_set]; exact hM, fun j h2 h3 => ?_⟩ (show k - 1 < k by omega) ?_
    · rw [em, ek]
      by_cases e : j = k - 1
      · subst e; rw [getD_set_eq (by omega)]
      · rw [getD_set_ne (Ne.symm e)]; exact hMj j (by omega) h3
    · repeat' first | refine And.intro ?_ ?_ | exact True.intro | (rw [em]; exact hne _ (Pt.mtL hn (hd _))) | (show (_ : Int) = (_ : Int); omega) | omega | exact rfl
  · have h1 : (k : Int) - 1 < 0 := h1
    refine And.intro (And.intro (by omega) ?_) trivial
    show RO.rows .i64 M = RO.rows .i64 (sfxL n l)
    congr 1
    refine ext_getD [] (by rw [hM, sfx_len]) fun i hi => ?_
    rw [sfx_get n l (by omega)]
    exact hMj i (by omega) (by omega)
def redL (n : Nat) : List Int → List (List Int) → List (List Int)
  | _, [] => []
  | b, p :: l => if classN (mtP b (mtL n l)) = n then redL n b l else p :: redL n (mtP b p) l
theorem redL_drop (n : Nat) (b : List Int) (l : List (List Int)) {i : Nat} (hi : i < l.length) : redL n b (l.drop i) = if classN (mtP b (mtL n (l.drop (i + 1)))) = n then redL n b (l.drop (i + 1)) else l.getD i [] :: redL n (mtP b (l.getD i [])) (l.drop (i + 1)) := by
  rw [List.drop_eq_getElem_cons hi, getD_eq hi]; rfl
set_option maxHeartbeats 1000000 in
theorem sred_fn (n : Nat) (l : List (List Int)) (h0 : 0 < n) (hn : n ≤ 4096) (hl : l.length ≤ 4096) (hp : ∀ p ∈ l, Pt n p) : QF 45 [.int .i64 n, .ro (.rows .i64 l)] (.ro (.rows .i64 (redL n (List.replicate n 0) l))) := mkQ Try.func45 (by decide +kernel) rfl (Nat.le_of_ble_eq_true rfl) fun _ => by
  have hd : ∀ i, ∀ p ∈ l.drop i, Pt n p := fun i p h => hp p (List.mem_of_mem_drop h)
  refine Or.inl (cq (ssfx_fn n l h0 hn hl hp) (And.intro rfl (And.intro rfl trivial)) ?_)
  refine Or.inl (cq (ptriv_fn n hn) (And.intro rfl trivial) ?_)
  refine Exists.intro [14, 22, 28, 36, 38, 10014, 10028, 10038] <| lp3 (fun (i : Nat) (_ : List (List Int)) (b : List Int) => [(17, .int .i64 i), (5, .vec 35), (7, .ro (.ints .i64 b))]) (fun _ K _ => [(35, .vec 0 (.rows .i64 K) [])]) (fun i K b => i ≤ l.length ∧ K.length ≤ i ∧ Pt n b ∧ K ++ redL n b (l.drop i) = redL n (List.replicate n 0) l) (fun i _ _ => l.length - i) 0 [] (List.replicate n 0) ⟨Nat.zero_le _, Nat.le_refl _, Pt.triv hn, rfl⟩ (by repeat' first | refine And.intro ?_ ?_ | exact True.intro | (show (_ : Int) = (_ : Int); omega) | omega | exact rfl | (simp only [RO.len]; omega)) ?_
  rintro i K b ⟨hi, hK, hb, he⟩
  refine And.intro (fun h1 => ?_) (fun h1 => ?_)
  · have h1 : (i : Int) < (l.length : Int) := h1
    have hil : i < l.length := by omega
    have hPp : Pt n (l.getD i []) := hp _ (getD_mem (d := []) hil)
    have hst := redL_drop n b l hil
    have hs1 := sfx_get n l (i := i + 1) (by omega)
    have hsl := sfx_len n l
    have hPs : Pt n (mtL n (l.drop (i + 1))) := Pt.mtL hn (hd _)
    have ei : ((i : Int) + 1).toNat = i + 1 := by omega
    have hPs2 : Pt n ((sfxL n l).getD ((i : Int) + 1).toNat []) := by rw [ei, hs1]; exact hPs
    have hcn : classN (mtP b ((sfxL n l).getD ((i : Int) + 1).toNat [])) ≤ n := by
      have := firsts_le (mtP b ((sfxL n l).getD ((i : Int) + 1).toNat []))
      rw [(hb.mt hPs2).1] at this; exact this
    have hKl : (K ++ [l.getD (i : Int).toNat []]).length = K.length + 1 := by simp
    refine And.intro (by omega) ?_
    refine And.intro (show -9223372036854775808 ≤ (i : Int) + 1 ∧ (i : Int) + 1 ≤ 9223372036854775807 by omega) ?_
    refine And.intro (show 0 ≤ (i : Int) + 1 ∧ (i : Int) + 1 < ((sfxL n l).length : Int) by omega) ?_
    refine Or.inl (cq (pmt_fn hb hPs2) (And.intro rfl (And.intro rfl trivial)) ?_)
    refine Or.inl (cq (scnt_fn _ (hb.mt hPs2).2) (And.intro rfl trivial) ?_)
    refine And.intro (fun h2 => ?_) (fun h2 => ?_)
    · have h2 : ((classN (mtP b ((sfxL n l).getD ((i : Int) + 1).toNat [])) : Nat) : Int) = (n : Int) := h2
      rw [ei, hs1] at h2
      rw [if_pos (by omega)] at hst
      refine And.intro (by omega) ?_
      exact nx (i + 1, K, b) ⟨by omega, by omega, hb, by rw [← he, hst]⟩ (show l.length - (i + 1) < l.length - i by omega) (by repeat' first | refine And.intro ?_ ?_ | exact True.intro | (show (_ : Int) = (_ : Int); omega) | omega | exact rfl | (simp only [RO.len]; omega))
    · have h2 : ¬ ((classN (mtP b ((sfxL n l).getD ((i : Int) + 1).toNat [])) : Nat) : Int) = (n : Int) := h2
      rw [ei, hs1] at h2
      rw [if_neg (by omega)] at hst
      refine And.intro (by omega) ?_
      refine Or.inl (cq (pmt_fn hb hPp) (And.intro rfl (And.intro rfl trivial)) ?_)
      refine And.intro (by omega) ?_
      exact nx (i + 1, K ++ [l.getD i []], mtP b (l.getD i [])) ⟨by omega, by rw [List.length_append, List.length_singleton]; omega, hb.mt hPp, by rw [← he, hst, List.append_assoc]; rfl⟩ (show l.length - (i + 1) < l.length - i by omega) (by repeat' first | refine And.intro ?_ ?_ | exact True.intro | (show (_ : Int) = (_ : Int); omega) | omega | exact rfl | (simp only [RO.len]; omega))
  · have h1 : (l.length : Int) ≤ (i : Int) := h1
    have e : K = redL n (List.replicate n 0) l := by rw [← he, List.drop_of_length_le (by omega)]; simp [redL]
    refine And.intro ?_ trivial
    refine And.intro trivial ?_
    show RO.rows .i64 K = RO.rows .i64 _
    rw [e]
end Go.Proofs.Ytkbhgnbnnbengaa
end
section
/- Plain: the partition that a relation generates; lists of pairs. -/
namespace Go.Proofs.Ytkbhgnbnnbengaa
open Go Go.AM
noncomputable def egB (R : Nat → Nat → Prop) (a b : Nat) : Bool := @decide (Eg R a b) (Classical.propDecidable _)
theorem egB_true {R : Nat → Nat → Prop} {a b : Nat} : egB R a b = true ↔ Eg R a b := by unfold egB; exact @decide_eq_true_iff _ (Classical.propDecidable _)
theorem eg_pre (n : Nat) (R : Nat → Nat → Prop) : Pre n (egB R) := pre_of (fun x _ => egB_true.2 (.refl x)) fun _ _ _ _ _ _ h h' => egB_true.2 ((egB_true.1 h).trans (egB_true.1 h'))
noncomputable def eqP (n : Nat) (R : Nat → Nat → Prop) : List Int := clsL n (egB R)
theorem eqP_len {n : Nat} {R : Nat → Nat → Prop} : (eqP n R).length = n := clsL_len _ _
theorem eqP_canon {n : Nat} {R : Nat → Nat → Prop} : canon (eqP n R) = eqP n R := canon_idem _
theorem eqP_valid {n : Nat} {R : Nat → Nat → Prop} (h : n ≤ 4096) : validP (eqP n R) := ⟨by rw [eqP_len]; exact h, eqP_canon⟩
theorem eqP_iff {n : Nat} {R : Nat → Nat → Prop} {a b : Nat} (ha : a < n) (hb : b < n) : (eqP n R).getD a 0 = (eqP n R).getD b 0 ↔ Eg R a b := by
  unfold eqP
  rw [clsL_iff (eg_pre n R) ha hb, egB_true, egB_true]
  exact ⟨fun h => h.1, fun h => ⟨h, h.symm⟩⟩
theorem eqP_of {n : Nat} {p : List Int} {R : Nat → Nat → Prop} (h : KerOf n p R) : canon p = eqP n R :=
  ker_clsL (eg_pre n R) h.1 fun a b ha hb => by
    rw [egB_true, egB_true, h.2 a b ha hb]
    exact ⟨fun h => ⟨h, h.symm⟩, fun h => h.1⟩
theorem KerR.congr {n : Nat} {r : Nat → Nat} {R R' : Nat → Nat → Prop} (h : KerR n r R) (h1 : ∀ a b, R a b → Eg R' a b) (h2 : ∀ a b, R' a b → Eg R a b) : KerR n r R' :=
  fun a b ha hb => (h a b ha hb).trans ⟨Eg.mono h1, Eg.mono h2⟩
def relP (l : List (Int × Int)) (a b : Nat) : Prop := ((a : Int), (b : Int)) ∈ l
def orR (R : Nat → Nat → Prop) (l : List (Int × Int)) (a b : Nat) : Prop := R a b ∨ relP l a b
theorem relP_lt {n : Nat} {l : List (Int × Int)} (h : inW n l) {a b : Nat} (hr : relP l a b) : a < n ∧ b < n := by
  have := h _ hr
  simp only at this
  omega
theorem prR_ker {n : Nat} : ∀ (l : List (Int × Int)) (r : Nat → Nat) (R : Nat → Nat → Prop), KerR n r R → inW n l → KerR n (prR r l) (orR R l)
  | [], r, R, h, _ => h.congr (fun a b h => .rel (.inl h)) fun a b h => h.elim .rel fun h => nomatch h
  | x :: l, r, R, h, hW => by
    have hx := hW x (by simp)
    have hl : inW n l := fun q hq => hW q (List.mem_cons_of_mem _ hq)
    refine (prR_ker l (ufR r x.1.toNat x.2.toNat) (orP R x.1.toNat x.2.toNat) (h.union (by omega) (by omega)) hl).congr (fun a b h => .rel ?_) fun a b h => .rel ?_
    · rcases h with (h | ⟨rfl, rfl⟩) | h
      · exact .inl h
      · refine .inr ?_
        show (_, _) ∈ _
        rw [Int.toNat_of_nonneg hx.1.1, Int.toNat_of_nonneg hx.2.1]
        exact List.mem_cons_self
      · exact .inr (List.mem_cons_of_mem _ h)
    · rcases h with h | h
      · exact .inl (.inl h)
      · rcases List.mem_cons.1 h with h | h
        · exact .inl (.inr ⟨by rw [← h]; rfl, by rw [← h]; rfl⟩)
        · exact .inr h
theorem pairs_eqP {n : Nat} {l : List (Int × Int)} (h : inW n l) : canon (rtL n (prR id l)) = eqP n (relP l) :=
  eqP_of (((prR_ker l id (fun _ _ => False) (KerR.dis n) h).congr (fun a b h => h.elim (fun f => f.elim) .rel) fun a b h => .rel (.inr h)).ker)
end Go.Proofs.Ytkbhgnbnnbengaa
end
section
/- Plain: how the reference closes a partition under products. -/
namespace Go.Proofs.Ytkbhgnbnnbengaa
open Go Go.AM
theorem nodup_sub {α : Type} [DecidableEq α] : ∀ {A B : List α}, A.Nodup → (∀ x ∈ A, x ∈ B) → A.length ≤ B.length
  | [], _, _, _ => Nat.zero_le _
  | a :: A, B, hA, h => by
    have ha := h a (by simp)
    have hn := List.nodup_cons.1 hA
    have := nodup_sub (B := B.erase a) hn.2 fun x hx => (List.mem_erase_of_ne fun e => by subst e; exact hn.1 hx).2 (h x (List.mem_cons_of_mem _ hx))
    have hl := List.length_erase_of_mem ha
    have hp := List.length_pos_of_mem ha
    simp only [List.length_cons]; omega
end Go.Proofs.Ytkbhgnbnnbengaa
end
section
/- The reference's relations of Green (semigroupref15): contracts; the class of a table (semigroupref17). -/
namespace Go.Proofs.Ytkbhgnbnnbengaa
open Go Go.AM
set_option maxRecDepth 100000
def rowsB (n : Nat) (e : Nat → Nat → Bool) : List (List Bool) := (List.range n).map fun x => setB n (e x)
end Go.Proofs.Ytkbhgnbnnbengaa
end
section
/- The reference of Rees matrix semigroups: its contracts. -/
namespace Go.Proofs.Ytkbhgnbnnbengaa
open Go Go.AM
set_option maxRecDepth 100000
theorem same_k (a b : List Int) (ha : a.length ≤ 140737488355328) (_hb : b.length ≤ 140737488355328) : fnK TY SP Try.f14 [.ro (.ints .i64 a), .ro (.ints .i64 b)] (.bool (.v (decide (a = b)))) := by
  refine And.intro (fun h1 => ?_) (fun h1 => ?_)
  · refine And.intro ?_ trivial
    show false = decide (a = b)
    rw [decide_eq_false (fun e => h1 (by rw [e]))]
  refine Exists.intro [] <| lp (X := Nat) (fun k => [(13, .int .i64 k)]) (fun _ => []) (fun k => k ≤ a.length ∧ ∀ j, j < k → a.getD j 0 = b.getD j 0) (fun k => a.length - k) 0 ⟨Nat.zero_le _, by omega⟩ (by repeat' first | refine And.intro ?_ ?_ | exact True.intro | (show (_ : Int) = (_ : Int); omega) | omega | exact rfl | (simp only [RO.len]; omega)) ?_
  intro k hk
  refine And.intro (fun h2 => ?_) (fun h2 => ?_)
  · refine Or.inl <| Exists.intro [false, false, false, false, false, false, false, false, false] (And.intro (by decide +kernel) ?_)
    refine And.intro (by omega) ?_
    refine And.intro (by omega) ?_
    refine And.intro (fun h3 => ?_) (fun h3 => ?_)
    · refine And.intro ?_ trivial
      show false = decide (a = b)
      rw [decide_eq_false (fun e => h3 (by rw [e]))]
    · refine And.intro (by omega) ?_
      refine nx (k + 1) ⟨by omega, fun j hj => ?_⟩ (show a.length - (k + 1) < a.length - k by omega) (by repeat' first | refine And.intro ?_ ?_ | exact True.intro | (show (_ : Int) = (_ : Int); omega) | omega | exact rfl | (simp only [RO.len]; omega))
      by_cases hjk : j < k
      · exact hk.2 j hjk
      · have : j = k := by omega
        rw [this]; exact h3
  · refine And.intro ?_ trivial
    show true = decide (a = b)
    rw [decide_eq_true (ext_getD 0 (by omega) fun i hi => hk.2 i (by omega))]
theorem same_fn (a b : List Int) : QF 14 [.ro (.ints .i64 a), .ro (.ints .i64 b)] (.bool (.v (decide (a = b)))) := mkQ Try.func14 (by decide +kernel) rfl (Nat.le_of_ble_eq_true rfl) fun hf => same_k a b hf.1.1 hf.2.1.1
end Go.Proofs.Ytkbhgnbnnbengaa
end
section
/- Ideals of a table: plain. -/
namespace Go.Proofs.Ytkbhgnbnnbengaa
open Go Go.AM
open Classical
def inT (t : List (List Int)) (l : List Int) : Prop := ∀ x ∈ l, 0 ≤ x ∧ x < (t.length : Int)
instance (t : List (List Int)) (l : List Int) : Decidable (inT t l) := by unfold inT; infer_instance
end Go.Proofs.Ytkbhgnbnnbengaa
end
