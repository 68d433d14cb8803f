import Derived.Test.YtjlkhjgnfnfmgaaRefCg
import Derived.Test.YtjlkhjgnfnfmgaaForLaw
import Derived.Test.YtjlkhjgnfnfmgaaGrpLaw
section
/- Plain: the congruence that pairs generate; how the forest of congr makes it. -/
namespace Go.Proofs.Ytjlkhjgnfnfmgaa
open Go Go.AM
inductive Cgr (t : List (List Int)) (side : Int) (R : Nat → Nat → Prop) : Nat → Nat → Prop
  | rel {a b : Nat} (h : R a b) : Cgr t side R a b
  | refl (a : Nat) : Cgr t side R a a
  | symm {a b : Nat} (h : Cgr t side R a b) : Cgr t side R b a
  | trans {a b c : Nat} (h : Cgr t side R a b) (h' : Cgr t side R b c) : Cgr t side R a c
  | left {a b s : Nat} (h0 : side ≠ 2) (hs : s < t.length) (ha : a < t.length) (hb : b < t.length) (h : Cgr t side R a b) : Cgr t side R (en t s a) (en t s b)
  | right {a b s : Nat} (h0 : side ≠ 1) (hs : s < t.length) (ha : a < t.length) (hb : b < t.length) (h : Cgr t side R a b) : Cgr t side R (en t a s) (en t b s)
theorem Cgr.least {t : List (List Int)} {side : Int} {R Q : Nat → Nat → Prop} (hr : ∀ a, Q a a) (hs : ∀ a b, Q a b → Q b a) (ht : ∀ a b c, Q a b → Q b c → Q a c) (h : ∀ a b, R a b → Q a b)
    (hl : side ≠ 2 → ∀ a b s, s < t.length → a < t.length → b < t.length → Q a b → Q (en t s a) (en t s b)) (hR : side ≠ 1 → ∀ a b s, s < t.length → a < t.length → b < t.length → Q a b → Q (en t a s) (en t b s)) {a b : Nat} (e : Cgr t side R a b) : Q a b := by
  induction e with
  | rel h1 => exact h _ _ h1
  | refl a => exact hr a
  | symm _ ih => exact hs _ _ ih
  | trans _ _ i1 i2 => exact ht _ _ _ i1 i2
  | left h0 h1 h2 h3 _ ih => exact hl h0 _ _ _ h1 h2 h3 ih
  | right h0 h1 h2 h3 _ ih => exact hR h0 _ _ _ h1 h2 h3 ih
noncomputable def cgrB (t : List (List Int)) (side : Int) (R : Nat → Nat → Prop) (a b : Nat) : Bool := @decide (Cgr t side R a b) (Classical.propDecidable _)
theorem cgrB_true {t : List (List Int)} {side : Int} {R : Nat → Nat → Prop} {a b : Nat} : cgrB t side R a b = true ↔ Cgr t side R a b := by unfold cgrB; exact @decide_eq_true_iff _ (Classical.propDecidable _)
theorem cgr_pre (t : List (List Int)) (side : Int) (R : Nat → Nat → Prop) : Pre t.length (cgrB t side R) :=
  pre_of (fun x _ => cgrB_true.2 (.refl x)) fun _ _ _ _ _ _ h h' => cgrB_true.2 ((cgrB_true.1 h).trans (cgrB_true.1 h'))
noncomputable def genP (t : List (List Int)) (side : Int) (R : Nat → Nat → Prop) : List Int := clsL t.length (cgrB t side R)
section
variable {t : List (List Int)} {side : Int} {R : Nat → Nat → Prop}
theorem genP_len : (genP t side R).length = t.length := clsL_len _ _
theorem genP_canon : canon (genP t side R) = genP t side R := canon_idem _
theorem genP_iff {a b : Nat} (ha : a < t.length) (hb : b < t.length) : (genP t side R).getD a 0 = (genP t side R).getD b 0 ↔ Cgr t side R a b := by
  unfold genP
  rw [clsL_iff (cgr_pre t side R) ha hb, cgrB_true, cgrB_true]
  exact ⟨fun h => h.1, fun h => ⟨h, h.symm⟩⟩
theorem genP_cg (hs : Sh t) : Cg t (genP t side R) side := fun x y s hx hy hsl e => by
  have e := (genP_iff hx hy).1 e
  exact ⟨fun h0 => (genP_iff (hs.ent hsl hx).2 (hs.ent hsl hy).2).2 (.left h0 hsl hx hy e), fun h0 => (genP_iff (hs.ent hx hsl).2 (hs.ent hy hsl).2).2 (.right h0 hsl hx hy e)⟩
theorem genP_valid (hs : Sh t) : validP (genP t side R) := ⟨by rw [genP_len]; have := hs.most; omega, genP_canon⟩
theorem Cgr.sub {p : List Int} (hR : ∀ a b, R a b → p.getD a 0 = p.getD b 0) (hg : Cg t p side) {a b : Nat} (e : Cgr t side R a b) : p.getD a 0 = p.getD b 0 :=
  e.least (Q := fun a b => p.getD a 0 = p.getD b 0) (fun _ => rfl) (fun _ _ h => h.symm) (fun _ _ _ h h' => h.trans h') hR
    (fun h0 a b s hs ha hb h => (hg a b s ha hb hs h).1 h0) (fun h0 a b s hs ha hb h => (hg a b s ha hb hs h).2 h0)
theorem genP_of {p : List Int} (hl : p.length = t.length) (h1 : ∀ a b, a < t.length → b < t.length → p.getD a 0 = p.getD b 0 → Cgr t side R a b) (hR : ∀ a b, R a b → p.getD a 0 = p.getD b 0) (hg : Cg t p side) : canon p = genP t side R := by
  refine ker_clsL (cgr_pre t side R) hl fun a b ha hb => ?_
  rw [cgrB_true, cgrB_true]
  exact ⟨fun e => ⟨h1 a b ha hb e, (h1 a b ha hb e).symm⟩, fun e => e.1.sub hR hg⟩
end
/-! ### From generators to all elements -/
section
variable {t : List (List Int)} {side : Int}
theorem eg_gens {J : Nat → Nat → Prop} (hs : Semi t) (_hJ : ∀ a b, J a b → a < t.length ∧ b < t.length) {gens : List Int} (hg : ∀ g ∈ gens, 0 ≤ g ∧ g < (t.length : Int))
    (hc : ∀ a b, J a b → ∀ g ∈ gens, (side ≠ 2 → Eg J (en t g.toNat a) (en t g.toNat b)) ∧ (side ≠ 1 → Eg J (en t a g.toNat) (en t b g.toNat))) {s : Nat} (m : Mk t gens s) :
    ∀ a b, a < t.length → b < t.length → Eg J a b → (side ≠ 2 → Eg J (en t s a) (en t s b)) ∧ (side ≠ 1 → Eg J (en t a s) (en t b s)) := by
  have hS := hs.toSh
  have base : ∀ g ∈ gens, ∀ a b, Eg J a b → (side ≠ 2 → Eg J (en t g.toNat a) (en t g.toNat b)) ∧ (side ≠ 1 → Eg J (en t a g.toNat) (en t b g.toNat)) := fun g hgm a b e =>
    e.least (Q := fun a b => (side ≠ 2 → Eg J (en t g.toNat a) (en t g.toNat b)) ∧ (side ≠ 1 → Eg J (en t a g.toNat) (en t b g.toNat))) (fun _ => ⟨fun _ => .refl _, fun _ => .refl _⟩) (fun _ _ h => ⟨fun h0 => (h.1 h0).symm, fun h0 => (h.2 h0).symm⟩)
      (fun _ _ _ h h' => ⟨fun h0 => (h.1 h0).trans (h'.1 h0), fun h0 => (h.2 h0).trans (h'.2 h0)⟩) fun a b h => hc a b h g hgm
  have key : ∀ {s : Nat}, Mk t gens s → s < t.length ∧ ∀ a b, a < t.length → b < t.length → Eg J a b → (side ≠ 2 → Eg J (en t s a) (en t s b)) ∧ (side ≠ 1 → Eg J (en t a s) (en t b s)) := fun {s} m => by
    induction m with
    | gen h => exact ⟨by have := hg _ h; omega, fun a b _ _ e => base _ h a b e⟩
    | mul ha hb i1 i2 =>
      rename_i u v
      refine ⟨(hS.ent i1.1 i2.1).2, fun a b hal hbl e => ⟨fun h0 => ?_, fun h0 => ?_⟩⟩
      · rw [assoc3 hs.assoc i1.1 i2.1 hal, assoc3 hs.assoc i1.1 i2.1 hbl]
        exact (i1.2 _ _ (hS.ent i2.1 hal).2 (hS.ent i2.1 hbl).2 ((i2.2 a b hal hbl e).1 h0)).1 h0
      · rw [← assoc3 hs.assoc hal i1.1 i2.1, ← assoc3 hs.assoc hbl i1.1 i2.1]
        exact (i2.2 _ _ (hS.ent hal i1.1).2 (hS.ent hbl i1.1).2 ((i1.2 a b hal hbl e).2 h0)).2 h0
  exact (key m).2
end
/-! ### The forest: joined or not; the number of classes -/
def rtB (r : Nat → Nat) (i : Nat) : Bool := decide (r i = i)
def cntR (n : Nat) (r : Nat → Nat) : Nat := ((List.range n).filter (rtB r)).length
theorem cnt_del {P : Nat → Bool} {M : Nat} : ∀ {n : Nat}, M < n → P M = true → ((List.range n).filter fun i => P i && decide (i ≠ M)).length + 1 = ((List.range n).filter P).length := by
  have no : ∀ n, n ≤ M → ((List.range n).filter fun i => P i && decide (i ≠ M)) = (List.range n).filter P := fun n hn =>
    List.filter_congr fun x hx => by
      have := List.mem_range.1 hx
      have : x ≠ M := by omega
      simp [this]
  intro n
  induction n with
  | zero => intro h; omega
  | succ n ih =>
    intro h hp
    rw [List.range_succ, List.filter_append, List.filter_append, List.length_append, List.length_append]
    by_cases e : M = n
    · subst e
      rw [no M (Nat.le_refl _)]
      simp [hp]
    · have := ih (by omega) hp
      have hn : (decide (n ≠ M)) = true := decide_eq_true (fun h => e h.symm)
      have : ([n].filter fun i => P i && decide (i ≠ M)) = [n].filter P := by
        simp only [List.filter_cons, hn, Bool.and_true, List.filter_nil]
      rw [this]; omega
theorem cnt_union {n : Nat} {p : List Int} {r : Nat → Nat} (h : Fo n p r) {i j : Nat} (hi : i < n) (hj : j < n) (hne : r i ≠ r j) : cntR n (ufR r i j) + 1 = cntR n r := by
  have hM : max (r i) (r j) < n := by have := h.rlt hi; have := h.rlt hj; omega
  have hr : r (max (r i) (r j)) = max (r i) (r j) ∧ r (min (r i) (r j)) = min (r i) (r j) := by
    have h1 := h.rr hi
    have h2 := h.rr hj
    rcases Nat.le_total (r i) (r j) with e | e
    · rw [Nat.max_eq_right e, Nat.min_eq_left e]; exact ⟨h2, h1⟩
    · rw [Nat.max_eq_left e, Nat.min_eq_right e]; exact ⟨h1, h2⟩
  have hlt : min (r i) (r j) < max (r i) (r j) := by omega
  have := cnt_del (P := rtB r) hM (by unfold rtB; exact decide_eq_true hr.1)
  unfold cntR
  rw [← this]
  congr 1
  refine congrArg List.length (List.filter_congr fun k hk => ?_)
  unfold rtB ufR
  generalize max (r i) (r j) = M at *
  generalize min (r i) (r j) = m at *
  by_cases e : r k = M
  · rw [if_pos e]
    have h1 : ¬ m = k := fun e2 => by rw [← e2, hr.2] at e; omega
    by_cases h2 : k = M
    · simp [h2]
      intro; omega
    · have h3 : ¬ r k = k := fun e2 => h2 (by omega)
      simp [h1, h3]
  · rw [if_neg e]
    have h2 : k ≠ M := fun e2 => e (by rw [e2]; exact hr.1)
    simp [h2]
theorem cnt_le (n : Nat) (r : Nat → Nat) : cntR n r ≤ n := by
  have := List.length_filter_le (rtB r) (List.range n)
  rw [List.length_range] at this
  exact this
theorem cnt_id (n : Nat) : cntR n id = n := by
  unfold cntR
  rw [List.filter_eq_self.2 fun x _ => by unfold rtB; exact decide_eq_true rfl, List.length_range]
def fn2L (p : List Int) (i j : Nat) : List Int := fndL (j + 1) (fndL (i + 1) p i) j
theorem fn2_fo {n : Nat} {p : List Int} {r : Nat → Nat} (h : Fo n p r) {i j : Nat} (hi : i < n) (hj : j < n) : Fo n (fn2L p i j) r := fndL_fo _ (fndL_fo _ h hi) hj
def jnP (r : Nat → Nat) (p : List Int) (i j : Nat) : List Int := if r i = r j then fn2L p i j else ufL r p i j
def jnR (r : Nat → Nat) (i j : Nat) : Nat → Nat := if r i = r j then r else ufR r i j
theorem jn_fo {n : Nat} {p : List Int} {r : Nat → Nat} (h : Fo n p r) {i j : Nat} (hi : i < n) (hj : j < n) : Fo n (jnP r p i j) (jnR r i j) := by
  unfold jnP jnR
  by_cases e : r i = r j
  · rw [if_pos e, if_pos e]; exact fn2_fo h hi hj
  · rw [if_neg e, if_neg e]; exact h.union hi hj
theorem jn_ker {n : Nat} {r : Nat → Nat} {R : Nat → Nat → Prop} (h : KerR n r R) {i j : Nat} (hi : i < n) (hj : j < n) : KerR n (jnR r i j) (orP R i j) := by
  unfold jnR
  by_cases e : r i = r j
  · rw [if_pos e]
    intro a b ha hb
    rw [h a b ha hb]
    refine ⟨fun k => k.mono fun a b h => .rel (.inl h), fun k => k.mono fun a b h => ?_⟩
    rcases h with h | ⟨rfl, rfl⟩
    · exact .rel h
    · exact (h a b hi hj).1 e
  · rw [if_neg e]; exact h.union hi hj
theorem jn_cnt {n : Nat} {p : List Int} {r : Nat → Nat} (h : Fo n p r) {i j : Nat} (hi : i < n) (hj : j < n) : cntR n (jnR r i j) + (if r i = r j then 0 else 1) = cntR n r := by
  unfold jnR
  by_cases e : r i = r j
  · rw [if_pos e, if_pos e, Nat.add_zero]
  · rw [if_neg e, if_neg e]; exact cnt_union h hi hj e
/-! ### The spreading of joined pairs -/
def puL (t : List (List Int)) (side : Int) (x y : Nat) (gens : List Int) : List (Int × Int) :=
  gens.flatMap fun g => (if side ≠ 2 then [((en t g.toNat x : Int), (en t g.toNat y : Int))] else []) ++ (if side ≠ 1 then [((en t x g.toNat : Int), (en t y g.toNat : Int))] else [])
theorem puL_snoc (t : List (List Int)) (side : Int) (x y : Nat) (gens : List Int) (g : Int) : puL t side x y (gens ++ [g]) = puL t side x y gens ++ ((if side ≠ 2 then [((en t g.toNat x : Int), (en t g.toNat y : Int))] else []) ++ (if side ≠ 1 then [((en t x g.toNat : Int), (en t y g.toNat : Int))] else [])) := by
  simp [puL]
theorem puL_len (t : List (List Int)) (side : Int) (x y : Nat) (gens : List Int) : (puL t side x y gens).length ≤ 2 * gens.length := by
  induction gens with
  | nil => simp [puL]
  | cons g l ih =>
    have e : puL t side x y (g :: l) = ((if side ≠ 2 then [((en t g.toNat x : Int), (en t g.toNat y : Int))] else []) ++ (if side ≠ 1 then [((en t x g.toNat : Int), (en t y g.toNat : Int))] else [])) ++ puL t side x y l := by simp [puL]
    rw [e, List.length_append, List.length_append, List.length_cons]
    have h1 : (if side ≠ 2 then [((en t g.toNat x : Int), (en t g.toNat y : Int))] else []).length ≤ 1 := by split <;> simp
    have h2 : (if side ≠ 1 then [((en t x g.toNat : Int), (en t y g.toNat : Int))] else []).length ≤ 1 := by split <;> simp
    omega
theorem mem_puL {t : List (List Int)} {side : Int} {x y : Nat} {gens : List Int} {q : Int × Int} : q ∈ puL t side x y gens ↔ ∃ g ∈ gens, (side ≠ 2 ∧ q = ((en t g.toNat x : Int), (en t g.toNat y : Int))) ∨ (side ≠ 1 ∧ q = ((en t x g.toNat : Int), (en t y g.toNat : Int))) := by
  unfold puL
  rw [List.mem_flatMap]
  refine exists_congr fun g => and_congr Iff.rfl ?_
  rw [List.mem_append]
  refine or_congr ?_ ?_
  · split
    · rename_i h; rw [List.mem_singleton]; exact ⟨fun e => ⟨h, e⟩, fun e => e.2⟩
    · rename_i h; exact ⟨fun e => (nomatch e), fun e => absurd e.1 h⟩
  · split
    · rename_i h; rw [List.mem_singleton]; exact ⟨fun e => ⟨h, e⟩, fun e => e.2⟩
    · rename_i h; exact ⟨fun e => (nomatch e), fun e => absurd e.1 h⟩
inductive Sp (t : List (List Int)) (gens : List Int) (side : Int) (q : List Int) (u : Nat → Nat) : Nat → List Int → (Nat → Nat) → List (Int × Int) → Prop
  | done : Sp t gens side q u 0 q u []
  | step {k : Nat} {p : List Int} {r : Nat → Nat} {W : List (Int × Int)} {x y : Nat} (h : Sp t gens side q u k (jnP r p x y) (jnR r x y) (W ++ (if r x = r y then [] else puL t side x y gens))) : Sp t gens side q u (k + 1) p r (W ++ [((x : Int), (y : Int))])
theorem Sp.inv {t : List (List Int)} {gens : List Int} {side : Int} {q p : List Int} {u r : Nat → Nat} {k : Nat} {W : List (Int × Int)} (h : Sp t gens side q u k p r W) :
    (W = [] ∧ p = q ∧ r = u) ∨ ∃ (j x y : Nat) (V : List (Int × Int)), k = j + 1 ∧ W = V ++ [((x : Int), (y : Int))] ∧ Sp t gens side q u j (jnP r p x y) (jnR r x y) (V ++ (if r x = r y then [] else puL t side x y gens)) := by
  cases h with
  | done => exact .inl ⟨rfl, rfl, rfl⟩
  | step h => exact .inr ⟨_, _, _, _, rfl, rfl, h⟩
theorem Sp.top {t : List (List Int)} {gens : List Int} {side : Int} {q p : List Int} {u r : Nat → Nat} {k : Nat} {W : List (Int × Int)} (h : Sp t gens side q u k p r W) (h0 : 0 < W.length) :
    ∃ j, k = j + 1 ∧ Sp t gens side q u j (jnP r p (W.getD (W.length - 1) (0, 0)).1.toNat (W.getD (W.length - 1) (0, 0)).2.toNat) (jnR r (W.getD (W.length - 1) (0, 0)).1.toNat (W.getD (W.length - 1) (0, 0)).2.toNat)
      (W.take (W.length - 1) ++ (if r (W.getD (W.length - 1) (0, 0)).1.toNat = r (W.getD (W.length - 1) (0, 0)).2.toNat then [] else puL t side (W.getD (W.length - 1) (0, 0)).1.toNat (W.getD (W.length - 1) (0, 0)).2.toNat gens)) := by
  rcases h.inv with ⟨rfl, _⟩ | ⟨j, x, y, V, hk, rfl, hs⟩
  · simp at h0
  · have e1 : (V ++ [((x : Int), (y : Int))]).length - 1 = V.length := by simp
    have e2 : (V ++ [((x : Int), (y : Int))]).getD V.length (0, 0) = ((x : Int), (y : Int)) := by simp [List.getD]
    have e3 : (V ++ [((x : Int), (y : Int))]).take V.length = V := by simp
    rw [e1, e2, e3]
    exact ⟨j, hk, by simpa using hs⟩
theorem Sp.bot {t : List (List Int)} {gens : List Int} {side : Int} {q p : List Int} {u r : Nat → Nat} {k : Nat} {W : List (Int × Int)} (h : Sp t gens side q u k p r W) (h0 : W.length = 0) : p = q ∧ r = u := by
  rcases h.inv with ⟨_, h1, h2⟩ | ⟨j, x, y, V, hk, rfl, hs⟩
  · exact ⟨h1, h2⟩
  · simp at h0
def inW (n : Nat) (W : List (Int × Int)) : Prop := ∀ q ∈ W, (0 ≤ q.1 ∧ q.1 < (n : Int)) ∧ 0 ≤ q.2 ∧ q.2 < (n : Int)
theorem puL_in {t : List (List Int)} {side : Int} {x y : Nat} {gens : List Int} (hs : Sh t) (hg : ∀ g ∈ gens, 0 ≤ g ∧ g < (t.length : Int)) (hx : x < t.length) (hy : y < t.length) : inW t.length (puL t side x y gens) := fun q hq => by
  obtain ⟨g, hgm, h⟩ := mem_puL.1 hq
  have hgl := hg g hgm
  have e1 := (hs.ent (x := g.toNat) (by omega) hx).2
  have e2 := (hs.ent (x := g.toNat) (by omega) hy).2
  have e3 := (hs.ent (y := g.toNat) hx (by omega)).2
  have e4 := (hs.ent (y := g.toNat) hy (by omega)).2
  rcases h with ⟨_, rfl⟩ | ⟨_, rfl⟩
  · exact ⟨⟨by omega, by omega⟩, by omega, by omega⟩
  · exact ⟨⟨by omega, by omega⟩, by omega, by omega⟩
theorem inW_app {n : Nat} {V W : List (Int × Int)} : inW n (V ++ W) ↔ inW n V ∧ inW n W :=
  ⟨fun h => ⟨fun q hq => h q (List.mem_append_left _ hq), fun q hq => h q (List.mem_append_right _ hq)⟩, fun h q hq => (List.mem_append.1 hq).elim (h.1 q) (h.2 q)⟩
theorem snoc_cases {α : Type} : ∀ (W : List α), W = [] ∨ ∃ V x, W = V ++ [x]
  | [] => .inl rfl
  | a :: l => .inr ⟨(a :: l).dropLast, (a :: l).getLast (by simp), (List.dropLast_concat_getLast (by simp)).symm⟩
section
variable {t : List (List Int)} {gens : List Int} {side : Int}
theorem sp_ex (hs : Sh t) (hg : ∀ g ∈ gens, 0 ≤ g ∧ g < (t.length : Int)) : ∀ (m : Nat) (p : List Int) (r : Nat → Nat) (W : List (Int × Int)), Fo t.length p r → inW t.length W → (2 * gens.length + 1) * cntR t.length r + W.length ≤ m → ∃ q u k, Sp t gens side q u k p r W := by
  intro m
  induction m with
  | zero =>
    intro p r W hf hW hm
    have := List.eq_nil_of_length_eq_zero (show W.length = 0 by omega)
    subst this
    exact ⟨p, r, 0, .done⟩
  | succ m ih =>
    intro p r W hf hW hm
    rcases snoc_cases W with rfl | ⟨V, ⟨a, b⟩, rfl⟩
    · exact ⟨p, r, 0, .done⟩
    have hq := hW (a, b) (by simp)
    have hq : (0 ≤ a ∧ a < (t.length : Int)) ∧ 0 ≤ b ∧ b < (t.length : Int) := hq
    obtain ⟨x, rfl⟩ : ∃ x : Nat, a = (x : Int) := ⟨a.toNat, by omega⟩
    obtain ⟨y, rfl⟩ : ∃ y : Nat, b = (y : Int) := ⟨b.toNat, by omega⟩
    have hx : x < t.length := by omega
    have hy : y < t.length := by omega
    have hc := jn_cnt hf hx hy
    have hV := (inW_app.1 hW).1
    rw [List.length_append, List.length_singleton] at hm
    have hp := puL_len t side x y gens
    obtain ⟨q, u, k, h⟩ := ih (jnP r p x y) (jnR r x y) (V ++ (if r x = r y then [] else puL t side x y gens)) (jn_fo hf hx hy) (inW_app.2 ⟨hV, by
      split
      · intro q hq; cases hq
      · exact puL_in hs hg hx hy⟩) (by
      rw [List.length_append]
      by_cases e : r x = r y
      · rw [if_pos e] at hc ⊢
        rw [Nat.add_zero] at hc
        rw [hc]; simp; omega
      · rw [if_neg e] at hc ⊢
        rw [← hc, Nat.mul_add] at hm
        omega)
    exact ⟨q, u, k + 1, .step h⟩
theorem Sp.law {Q : Nat → Nat → Prop} (hs : Sh t) (hg : ∀ g ∈ gens, 0 ≤ g ∧ g < (t.length : Int)) {q : List Int} {u : Nat → Nat} {k : Nat} {p : List Int} {r : Nat → Nat} {W : List (Int × Int)} (h : Sp t gens side q u k p r W) :
    ∀ J : Nat → Nat → Prop, Fo t.length p r → inW t.length W → KerR t.length r J → (∀ a b, J a b → a < t.length ∧ b < t.length ∧ Cgr t side Q a b) → (∀ w ∈ W, Cgr t side Q w.1.toNat w.2.toNat) →
      (∀ a b, J a b → ∀ g ∈ gens, (side ≠ 2 → Eg (fun a b => J a b ∨ ((a : Int), (b : Int)) ∈ W) (en t g.toNat a) (en t g.toNat b)) ∧ (side ≠ 1 → Eg (fun a b => J a b ∨ ((a : Int), (b : Int)) ∈ W) (en t a g.toNat) (en t b g.toNat))) →
      Fo t.length q u ∧ ∃ J' : Nat → Nat → Prop, KerR t.length u J' ∧ (∀ a b, J a b → J' a b) ∧ (∀ a b : Nat, ((a : Int), (b : Int)) ∈ W → Eg J' a b) ∧ (∀ a b, J' a b → a < t.length ∧ b < t.length ∧ Cgr t side Q a b) ∧
        (∀ a b, J' a b → ∀ g ∈ gens, (side ≠ 2 → Eg J' (en t g.toNat a) (en t g.toNat b)) ∧ (side ≠ 1 → Eg J' (en t a g.toNat) (en t b g.toNat))) := by
  induction h with
  | done =>
    intro J hf _ hk hJ _ hc
    refine ⟨hf, J, hk, fun _ _ h => h, fun a b h => (nomatch h), hJ, fun a b h g hgm => ?_⟩
    have := hc a b h g hgm
    have e : (fun a b : Nat => J a b ∨ ((a : Int), (b : Int)) ∈ ([] : List (Int × Int))) = J := by
      funext a b; simp
    rwa [e] at this
  | step h ih =>
    rename_i k p r W x y
    intro J hf hW hk hJ hQ hc
    have hxy := hW ((x : Int), (y : Int)) (by simp)
    have hx : x < t.length := by have := hxy.1.2; simp at this; omega
    have hy : y < t.length := by have := hxy.2.2; simp at this; omega
    have hQxy : Cgr t side Q x y := by simpa using hQ ((x : Int), (y : Int)) (by simp)
    have hWl := (inW_app.1 hW).1
    by_cases e : r x = r y
    · have hJxy : Eg J x y := (hk x y hx hy).1 e
      have e1 : jnR r x y = r := if_pos e
      rw [e1, if_pos e, List.append_nil] at ih
      rw [e1] at h
      have hf' := jn_fo hf hx hy
      rw [e1] at hf'
      have up : ∀ a b, Eg (fun a b => J a b ∨ ((a : Int), (b : Int)) ∈ W ++ [((x : Int), (y : Int))]) a b → Eg (fun a b => J a b ∨ ((a : Int), (b : Int)) ∈ W) a b := fun a b k => k.mono fun a b h => by
        rcases h with h | h
        · exact .rel (.inl h)
        · rcases List.mem_append.1 h with h | h
          · exact .rel (.inr h)
          · rw [List.mem_singleton] at h
            have : a = x ∧ b = y := by rw [Prod.mk.injEq] at h; omega
            obtain ⟨rfl, rfl⟩ := this
            exact hJxy.mono fun a b h => .rel (.inl h)
      obtain ⟨hfo, J', h1, h2, h3, h4, h5⟩ := ih J hf' hWl hk hJ (fun w hw => hQ w (List.mem_append_left _ hw)) fun a b h g hgm => ⟨fun h0 => up _ _ ((hc a b h g hgm).1 h0), fun h0 => up _ _ ((hc a b h g hgm).2 h0)⟩
      refine ⟨hfo, J', h1, h2, fun a b h => ?_, h4, h5⟩
      rcases List.mem_append.1 h with h | h
      · exact h3 a b h
      · rw [List.mem_singleton] at h
        have : a = x ∧ b = y := by rw [Prod.mk.injEq] at h; omega
        obtain ⟨rfl, rfl⟩ := this
        exact hJxy.mono fun a b h => .rel (h2 a b h)
    · rw [if_neg e] at ih
      have hin : inW t.length (W ++ puL t side x y gens) := inW_app.2 ⟨hWl, puL_in hs hg hx hy⟩
      have up : ∀ a b, Eg (fun a b => J a b ∨ ((a : Int), (b : Int)) ∈ W ++ [((x : Int), (y : Int))]) a b → Eg (fun a b => orP J x y a b ∨ ((a : Int), (b : Int)) ∈ W ++ puL t side x y gens) a b := fun a b k => k.mono fun a b h => by
        rcases h with h | h
        · exact .rel (.inl (.inl h))
        · rcases List.mem_append.1 h with h | h
          · exact .rel (.inr (List.mem_append_left _ h))
          · rw [List.mem_singleton] at h
            have : a = x ∧ b = y := by rw [Prod.mk.injEq] at h; omega
            exact .rel (.inl (.inr this))
      obtain ⟨hfo, J', h1, h2, h3, h4, h5⟩ := ih (orP J x y) (jn_fo hf hx hy) hin (jn_ker hk hx hy) (fun a b h => by
          rcases h with h | ⟨rfl, rfl⟩
          · exact hJ a b h
          · exact ⟨hx, hy, hQxy⟩) (fun w hw => by
          rcases List.mem_append.1 hw with hw | hw
          · exact hQ w (List.mem_append_left _ hw)
          · obtain ⟨g, hgm, h⟩ := mem_puL.1 hw
            have hgl := hg g hgm
            rcases h with ⟨h0, rfl⟩ | ⟨h0, rfl⟩
            · simpa using Cgr.left h0 (by omega) hx hy hQxy
            · simpa using Cgr.right h0 (by omega) hx hy hQxy) fun a b h g hgm => by
          rcases h with h | ⟨rfl, rfl⟩
          · exact ⟨fun h0 => up _ _ ((hc a b h g hgm).1 h0), fun h0 => up _ _ ((hc a b h g hgm).2 h0)⟩
          · exact ⟨fun h0 => .rel (.inr (List.mem_append_right _ (mem_puL.2 ⟨g, hgm, .inl ⟨h0, rfl⟩⟩))), fun h0 => .rel (.inr (List.mem_append_right _ (mem_puL.2 ⟨g, hgm, .inr ⟨h0, rfl⟩⟩)))⟩
      refine ⟨hfo, J', h1, fun a b h => h2 a b (.inl h), fun a b h => ?_, h4, h5⟩
      rcases List.mem_append.1 h with h | h
      · exact h3 a b (List.mem_append_left _ h)
      · rw [List.mem_singleton] at h
        have : a = x ∧ b = y := by rw [Prod.mk.injEq] at h; omega
        obtain ⟨rfl, rfl⟩ := this
        exact .rel (h2 a b (.inr ⟨rfl, rfl⟩))
end
end Go.Proofs.Ytjlkhjgnfnfmgaa
end
section
/- Plain: the partition that a relation generates; lists of pairs. -/
namespace Go.Proofs.Ytjlkhjgnfnfmgaa
open Go Go.AM
def relP (l : List (Int × Int)) (a b : Nat) : Prop := ((a : Int), (b : Int)) ∈ l
theorem relP_lt {n : Nat} {l : List (Int × Int)} (h : inW n l) {a b : Nat} (hr : relP l a b) : a < n ∧ b < n := by
  have := h _ hr
  simp only at this
  omega
end Go.Proofs.Ytjlkhjgnfnfmgaa
end
section
/- Plain: how the reference closes a partition under products. -/
namespace Go.Proofs.Ytjlkhjgnfnfmgaa
open Go Go.AM
theorem nodup_sub {α : Type} [DecidableEq α] : ∀ {A B : List α}, A.Nodup → (∀ x ∈ A, x ∈ B) → A.length ≤ B.length
  | [], _, _, _ => Nat.zero_le _
  | a :: A, B, hA, h => by
    have ha := h a (by simp)
    have hn := List.nodup_cons.1 hA
    have := nodup_sub (B := B.erase a) hn.2 fun x hx => (List.mem_erase_of_ne fun e => by subst e; exact hn.1 hx).2 (h x (List.mem_cons_of_mem _ hx))
    have hl := List.length_erase_of_mem ha
    have hp := List.length_pos_of_mem ha
    simp only [List.length_cons]; omega
end Go.Proofs.Ytjlkhjgnfnfmgaa
end
section
/- The idempotent power of an element: plain. -/
namespace Go.Proofs.Ytjlkhjgnfnfmgaa
variable {t : List (List Int)}
theorem pw_per (h : Semi t) {x i p : Nat} (hx : x < t.length) (e : pwN t x i = pwN t x (i + p)) : ∀ k, i ≤ k → pwN t x k = pwN t x (k + p) := by
  intro k hk
  obtain ⟨d, rfl⟩ : ∃ d, k = i + d := ⟨k - i, by omega⟩
  clear hk
  induction d with
  | zero => exact e
  | succ d ih =>
    have e1 : pwN t x (i + (d + 1)) = en t (pwN t x (i + d)) x := rfl
    have e2 : pwN t x (i + (d + 1) + p) = en t (pwN t x (i + d + p)) x := by
      rw [show i + (d + 1) + p = (i + d + p) + 1 by omega]; rfl
    rw [e1, e2, ih]
theorem pw_mul (h : Semi t) {x i p : Nat} (hx : x < t.length) (e : pwN t x i = pwN t x (i + p)) {k : Nat} (hk : i ≤ k) : ∀ m, pwN t x k = pwN t x (k + m * p)
  | 0 => by rw [Nat.zero_mul]; rfl
  | m + 1 => by
    rw [pw_mul h hx e hk m, pw_per h hx e (k + m * p) (by omega), Nat.succ_mul, Nat.add_assoc]
theorem pw_idem (h : Semi t) {x : Nat} (hx : x < t.length) : ∃ k, k < t.length ∧ en t (pwN t x k) (pwN t x k) = pwN t x k := by
  have hd : ∃ i j, i < j ∧ j ≤ t.length ∧ pwN t x i = pwN t x j := by
    refine Classical.byContradiction fun hno => ?_
    have hn : ((List.range (t.length + 1)).map (pwN t x)).Nodup := by
      rw [List.nodup_iff_pairwise_ne, List.pairwise_map]
      refine List.Pairwise.imp_of_mem ?_ (List.pairwise_lt_range (n := t.length + 1))
      intro a b ha hb hab e
      exact hno ⟨a, b, hab, by have := List.mem_range.1 hb; omega, e⟩
    have := nodup_sub hn (B := List.range t.length) fun y hy => by
      obtain ⟨k, _, rfl⟩ := List.mem_map.1 hy
      exact List.mem_range.2 (pwN_lt h hx k)
    simp at this
    omega
  obtain ⟨i, j, hij, hj, e⟩ := hd
  obtain ⟨p, hp, rfl⟩ : ∃ p, 0 < p ∧ j = i + p := ⟨j - i, by omega, by omega⟩
  have hm := Nat.div_add_mod (i + p) p
  have hr := Nat.mod_lt (i + p) hp
  have hq : (i + p) / p * p = i + p - (i + p) % p := by rw [Nat.mul_comm]; omega
  refine ⟨(i + p) / p * p - 1, by omega, ?_⟩
  rw [pwN_add h hx, show (i + p) / p * p - 1 + ((i + p) / p * p - 1) + 1 = ((i + p) / p * p - 1) + (i + p) / p * p by omega]
  exact (pw_mul h hx e (by omega) _).symm
theorem pw_pow (h : Semi t) {x a : Nat} (hx : x < t.length) (e : en t (pwN t x a) (pwN t x a) = pwN t x a) : ∀ m, pwN t x (a + m * (a + 1)) = pwN t x a
  | 0 => by rw [Nat.zero_mul]; rfl
  | m + 1 => by
    rw [show a + (m + 1) * (a + 1) = (a + m * (a + 1)) + a + 1 by rw [Nat.succ_mul]; omega, ← pwN_add h hx, pw_pow h hx e m, e]
theorem pw_uni (h : Semi t) {x a b : Nat} (hx : x < t.length) (ea : en t (pwN t x a) (pwN t x a) = pwN t x a) (eb : en t (pwN t x b) (pwN t x b) = pwN t x b) : pwN t x a = pwN t x b := by
  have h1 := pw_pow h hx ea b
  have h2 := pw_pow h hx eb a
  have e : a + b * (a + 1) = b + a * (b + 1) := by rw [Nat.mul_add, Nat.mul_add, Nat.mul_comm]; omega
  rw [← h1, ← h2, e]
end Go.Proofs.Ytjlkhjgnfnfmgaa
end
