import Derived.Test.YteopelpnpdbbcaaRefCg
import Derived.Test.YteopelpnpdbbcaaGroup
import Derived.Test.YteopelpnpdbbcaaEqvLaw
import Derived.Test.YteopelpnpdbbcaaAmRet
section
/- Plain: the congruence that pairs generate; how the forest of congr makes it. -/
namespace Go.Proofs.Yteopelpnpdbbcaa
open Go Go.AM
inductive Cgr (t : List (List Int)) (side : Int) (R : Nat → Nat → Prop) : Nat → Nat → Prop
  | rel {a b : Nat} (h : R a b) : Cgr t side R a b
  | refl (a : Nat) : Cgr t side R a a
  | symm {a b : Nat} (h : Cgr t side R a b) : Cgr t side R b a
  | trans {a b c : Nat} (h : Cgr t side R a b) (h' : Cgr t side R b c) : Cgr t side R a c
  | left {a b s : Nat} (h0 : side ≠ 2) (hs : s < t.length) (ha : a < t.length) (hb : b < t.length) (h : Cgr t side R a b) : Cgr t side R (en t s a) (en t s b)
  | right {a b s : Nat} (h0 : side ≠ 1) (hs : s < t.length) (ha : a < t.length) (hb : b < t.length) (h : Cgr t side R a b) : Cgr t side R (en t a s) (en t b s)
theorem Cgr.least {t : List (List Int)} {side : Int} {R Q : Nat → Nat → Prop} (hr : ∀ a, Q a a) (hs : ∀ a b, Q a b → Q b a) (ht : ∀ a b c, Q a b → Q b c → Q a c) (h : ∀ a b, R a b → Q a b)
    (hl : side ≠ 2 → ∀ a b s, s < t.length → a < t.length → b < t.length → Q a b → Q (en t s a) (en t s b)) (hR : side ≠ 1 → ∀ a b s, s < t.length → a < t.length → b < t.length → Q a b → Q (en t a s) (en t b s)) {a b : Nat} (e : Cgr t side R a b) : Q a b := by
  induction e with
  | rel h1 => exact h _ _ h1
  | refl a => exact hr a
  | symm _ ih => exact hs _ _ ih
  | trans _ _ i1 i2 => exact ht _ _ _ i1 i2
  | left h0 h1 h2 h3 _ ih => exact hl h0 _ _ _ h1 h2 h3 ih
  | right h0 h1 h2 h3 _ ih => exact hR h0 _ _ _ h1 h2 h3 ih
noncomputable def cgrB (t : List (List Int)) (side : Int) (R : Nat → Nat → Prop) (a b : Nat) : Bool := @decide (Cgr t side R a b) (Classical.propDecidable _)
theorem cgrB_true {t : List (List Int)} {side : Int} {R : Nat → Nat → Prop} {a b : Nat} : cgrB t side R a b = true ↔ Cgr t side R a b := by unfold cgrB; exact @decide_eq_true_iff _ (Classical.propDecidable _)
theorem cgr_pre (t : List (List Int)) (side : Int) (R : Nat → Nat → Prop) : Pre t.length (cgrB t side R) :=
  pre_of (fun x _ => cgrB_true.2 (.refl x)) fun _ _ _ _ _ _ h h' => cgrB_true.2 ((cgrB_true.1 h).trans (cgrB_true.1 h'))
noncomputable def genP (t : List (List Int)) (side : Int) (R : Nat → Nat → Prop) : List Int := clsL t.length (cgrB t side R)
section
variable {t : List (List Int)} {side : Int} {R : Nat → Nat → Prop}
theorem genP_len : (genP t side R).length = t.length := clsL_len _ _
theorem genP_canon : canon (genP t side R) = genP t side R := canon_idem _
theorem genP_iff {a b : Nat} (ha : a < t.length) (hb : b < t.length) : (genP t side R).getD a 0 = (genP t side R).getD b 0 ↔ Cgr t side R a b := by
  unfold genP
  rw [clsL_iff (cgr_pre t side R) ha hb, cgrB_true, cgrB_true]
  exact ⟨fun h => h.1, fun h => ⟨h, h.symm⟩⟩
theorem genP_cg (hs : Sh t) : Cg t (genP t side R) side := fun x y s hx hy hsl e => by
  have e := (genP_iff hx hy).1 e
  exact ⟨fun h0 => (genP_iff (hs.ent hsl hx).2 (hs.ent hsl hy).2).2 (.left h0 hsl hx hy e), fun h0 => (genP_iff (hs.ent hx hsl).2 (hs.ent hy hsl).2).2 (.right h0 hsl hx hy e)⟩
theorem genP_valid (hs : Sh t) : validP (genP t side R) := ⟨by rw [genP_len]; have := hs.most; omega, genP_canon⟩
theorem genP_is (h : Semi t) (h0 : 0 ≤ side ∧ side ≤ 2) : IsCg t (genP t side R) side := ⟨h, genP_len, genP_valid h.toSh, h0, genP_cg h.toSh⟩
theorem Cgr.sub {p : List Int} (hR : ∀ a b, R a b → p.getD a 0 = p.getD b 0) (hg : Cg t p side) {a b : Nat} (e : Cgr t side R a b) : p.getD a 0 = p.getD b 0 :=
  e.least (Q := fun a b => p.getD a 0 = p.getD b 0) (fun _ => rfl) (fun _ _ h => h.symm) (fun _ _ _ h h' => h.trans h') hR
    (fun h0 a b s hs ha hb h => (hg a b s ha hb hs h).1 h0) (fun h0 a b s hs ha hb h => (hg a b s ha hb hs h).2 h0)
theorem genP_of {p : List Int} (hl : p.length = t.length) (h1 : ∀ a b, a < t.length → b < t.length → p.getD a 0 = p.getD b 0 → Cgr t side R a b) (hR : ∀ a b, R a b → p.getD a 0 = p.getD b 0) (hg : Cg t p side) : canon p = genP t side R := by
  refine ker_clsL (cgr_pre t side R) hl fun a b ha hb => ?_
  rw [cgrB_true, cgrB_true]
  exact ⟨fun e => ⟨h1 a b ha hb e, (h1 a b ha hb e).symm⟩, fun e => e.1.sub hR hg⟩
end
/-! ### From generators to all elements -/
section
variable {t : List (List Int)} {side : Int}
theorem eg_gens {J : Nat → Nat → Prop} (hs : Semi t) (hJ : ∀ a b, J a b → a < t.length ∧ b < t.length) {gens : List Int} (hg : ∀ g ∈ gens, 0 ≤ g ∧ g < (t.length : Int))
    (hc : ∀ a b, J a b → ∀ g ∈ gens, (side ≠ 2 → Eg J (en t g.toNat a) (en t g.toNat b)) ∧ (side ≠ 1 → Eg J (en t a g.toNat) (en t b g.toNat))) {s : Nat} (m : Mk t gens s) :
    ∀ a b, a < t.length → b < t.length → Eg J a b → (side ≠ 2 → Eg J (en t s a) (en t s b)) ∧ (side ≠ 1 → Eg J (en t a s) (en t b s)) := by
  have hS := hs.toSh
  have base : ∀ g ∈ gens, ∀ a b, Eg J a b → (side ≠ 2 → Eg J (en t g.toNat a) (en t g.toNat b)) ∧ (side ≠ 1 → Eg J (en t a g.toNat) (en t b g.toNat)) := fun g hgm a b e =>
    e.least (Q := fun a b => (side ≠ 2 → Eg J (en t g.toNat a) (en t g.toNat b)) ∧ (side ≠ 1 → Eg J (en t a g.toNat) (en t b g.toNat))) (fun _ => ⟨fun _ => .refl _, fun _ => .refl _⟩) (fun _ _ h => ⟨fun h0 => (h.1 h0).symm, fun h0 => (h.2 h0).symm⟩)
      (fun _ _ _ h h' => ⟨fun h0 => (h.1 h0).trans (h'.1 h0), fun h0 => (h.2 h0).trans (h'.2 h0)⟩) fun a b h => hc a b h g hgm
  have key : ∀ {s : Nat}, Mk t gens s → s < t.length ∧ ∀ a b, a < t.length → b < t.length → Eg J a b → (side ≠ 2 → Eg J (en t s a) (en t s b)) ∧ (side ≠ 1 → Eg J (en t a s) (en t b s)) := fun {s} m => by
    induction m with
    | gen h => exact ⟨by have := hg _ h; omega, fun a b _ _ e => base _ h a b e⟩
    | mul ha hb i1 i2 =>
      rename_i u v
      refine ⟨(hS.ent i1.1 i2.1).2, fun a b hal hbl e => ⟨fun h0 => ?_, fun h0 => ?_⟩⟩
      · rw [assoc3 hs.assoc i1.1 i2.1 hal, assoc3 hs.assoc i1.1 i2.1 hbl]
        exact (i1.2 _ _ (hS.ent i2.1 hal).2 (hS.ent i2.1 hbl).2 ((i2.2 a b hal hbl e).1 h0)).1 h0
      · rw [← assoc3 hs.assoc hal i1.1 i2.1, ← assoc3 hs.assoc hbl i1.1 i2.1]
        exact (i2.2 _ _ (hS.ent hal i1.1).2 (hS.ent hbl i1.1).2 ((i1.2 a b hal hbl e).2 h0)).2 h0
  exact (key m).2
end
/-! ### The forest: joined or not; the number of classes -/
def rtB (r : Nat → Nat) (i : Nat) : Bool := decide (r i = i)
def cntR (n : Nat) (r : Nat → Nat) : Nat := ((List.range n).filter (rtB r)).length
theorem cnt_del {P : Nat → Bool} {M : Nat} : ∀ {n : Nat}, M < n → P M = true → ((List.range n).filter fun i => P i && decide (i ≠ M)).length + 1 = ((List.range n).filter P).length := by
  have no : ∀ n, n ≤ M → ((List.range n).filter fun i => P i && decide (i ≠ M)) = (List.range n).filter P := fun n hn =>
    List.filter_congr fun x hx => by
      have := List.mem_range.1 hx
      have : x ≠ M := by omega
      simp [this]
  intro n
  induction n with
  | zero => intro h; omega
  | succ n ih =>
    intro h hp
    rw [List.range_succ, List.filter_append, List.filter_append, List.length_append, List.length_append]
    by_cases e : M = n
    · subst e
      rw [no M (Nat.le_refl _)]
      simp [hp]
    · have := ih (by omega) hp
      have hn : (decide (n ≠ M)) = true := decide_eq_true (fun h => e h.symm)
      have : ([n].filter fun i => P i && decide (i ≠ M)) = [n].filter P := by
        simp only [List.filter_cons, hn, Bool.and_true, List.filter_nil]
      rw [this]; omega
theorem cnt_union {n : Nat} {p : List Int} {r : Nat → Nat} (h : Fo n p r) {i j : Nat} (hi : i < n) (hj : j < n) (hne : r i ≠ r j) : cntR n (ufR r i j) + 1 = cntR n r := by
  have hM : max (r i) (r j) < n := by have := h.rlt hi; have := h.rlt hj; omega
  have hr : r (max (r i) (r j)) = max (r i) (r j) ∧ r (min (r i) (r j)) = min (r i) (r j) := by
    have h1 := h.rr hi
    have h2 := h.rr hj
    rcases Nat.le_total (r i) (r j) with e | e
    · rw [Nat.max_eq_right e, Nat.min_eq_left e]; exact ⟨h2, h1⟩
    · rw [Nat.max_eq_left e, Nat.min_eq_right e]; exact ⟨h1, h2⟩
  have hlt : min (r i) (r j) < max (r i) (r j) := by omega
  have := cnt_del (P := rtB r) hM (by unfold rtB; exact decide_eq_true hr.1)
  unfold cntR
  rw [← this]
  congr 1
  refine congrArg List.length (List.filter_congr fun k hk => ?_)
  unfold rtB ufR
  generalize max (r i) (r j) = M at *
  generalize min (r i) (r j) = m at *
  by_cases e : r k = M
  · rw [if_pos e]
    have h1 : ¬ m = k := fun e2 => by rw [← e2, hr.2] at e; omega
    by_cases h2 : k = M
    · simp [h1, h2]
      intro; omega
    · have h3 : ¬ r k = k := fun e2 => h2 (by omega)
      simp [h1, h3]
  · rw [if_neg e]
    have h2 : k ≠ M := fun e2 => e (by rw [e2]; exact hr.1)
    simp [h2]
theorem cnt_le (n : Nat) (r : Nat → Nat) : cntR n r ≤ n := by
  have := List.length_filter_le (rtB r) (List.range n)
  rw [List.length_range] at this
  exact this
theorem cnt_id (n : Nat) : cntR n id = n := by
  unfold cntR
  rw [List.filter_eq_self.2 fun x _ => by unfold rtB; exact decide_eq_true rfl, List.length_range]
def fn2L (p : List Int) (i j : Nat) : List Int := fndL (j + 1) (fndL (i + 1) p i) j
theorem fn2_fo {n : Nat} {p : List Int} {r : Nat → Nat} (h : Fo n p r) {i j : Nat} (hi : i < n) (hj : j < n) : Fo n (fn2L p i j) r := fndL_fo _ (fndL_fo _ h hi) hj
def jnP (r : Nat → Nat) (p : List Int) (i j : Nat) : List Int := if r i = r j then fn2L p i j else ufL r p i j
def jnR (r : Nat → Nat) (i j : Nat) : Nat → Nat := if r i = r j then r else ufR r i j
theorem jn_fo {n : Nat} {p : List Int} {r : Nat → Nat} (h : Fo n p r) {i j : Nat} (hi : i < n) (hj : j < n) : Fo n (jnP r p i j) (jnR r i j) := by
  unfold jnP jnR
  by_cases e : r i = r j
  · rw [if_pos e, if_pos e]; exact fn2_fo h hi hj
  · rw [if_neg e, if_neg e]; exact h.union hi hj
theorem jn_ker {n : Nat} {r : Nat → Nat} {R : Nat → Nat → Prop} (h : KerR n r R) {i j : Nat} (hi : i < n) (hj : j < n) : KerR n (jnR r i j) (orP R i j) := by
  unfold jnR
  by_cases e : r i = r j
  · rw [if_pos e]
    intro a b ha hb
    rw [h a b ha hb]
    refine ⟨fun k => k.mono fun a b h => .rel (.inl h), fun k => k.mono fun a b h => ?_⟩
    rcases h with h | ⟨rfl, rfl⟩
    · exact .rel h
    · exact (h a b hi hj).1 e
  · rw [if_neg e]; exact h.union hi hj
theorem jn_cnt {n : Nat} {p : List Int} {r : Nat → Nat} (h : Fo n p r) {i j : Nat} (hi : i < n) (hj : j < n) : cntR n (jnR r i j) + (if r i = r j then 0 else 1) = cntR n r := by
  unfold jnR
  by_cases e : r i = r j
  · rw [if_pos e, if_pos e, Nat.add_zero]
  · rw [if_neg e, if_neg e]; exact cnt_union h hi hj e
/-! ### The spreading of joined pairs -/
def puL (t : List (List Int)) (side : Int) (x y : Nat) (gens : List Int) : List (Int × Int) :=
  gens.flatMap fun g => (if side ≠ 2 then [((en t g.toNat x : Int), (en t g.toNat y : Int))] else []) ++ (if side ≠ 1 then [((en t x g.toNat : Int), (en t y g.toNat : Int))] else [])
theorem puL_snoc (t : List (List Int)) (side : Int) (x y : Nat) (gens : List Int) (g : Int) : puL t side x y (gens ++ [g]) = puL t side x y gens ++ ((if side ≠ 2 then [((en t g.toNat x : Int), (en t g.toNat y : Int))] else []) ++ (if side ≠ 1 then [((en t x g.toNat : Int), (en t y g.toNat : Int))] else [])) := by
  simp [puL]
theorem puL_len (t : List (List Int)) (side : Int) (x y : Nat) (gens : List Int) : (puL t side x y gens).length ≤ 2 * gens.length := by
  induction gens with
  | nil => simp [puL]
  | cons g l ih =>
    have e : puL t side x y (g :: l) = ((if side ≠ 2 then [((en t g.toNat x : Int), (en t g.toNat y : Int))] else []) ++ (if side ≠ 1 then [((en t x g.toNat : Int), (en t y g.toNat : Int))] else [])) ++ puL t side x y l := by simp [puL]
    rw [e, List.length_append, List.length_append, List.length_cons]
    have h1 : (if side ≠ 2 then [((en t g.toNat x : Int), (en t g.toNat y : Int))] else []).length ≤ 1 := by split <;> simp
    have h2 : (if side ≠ 1 then [((en t x g.toNat : Int), (en t y g.toNat : Int))] else []).length ≤ 1 := by split <;> simp
    omega
theorem mem_puL {t : List (List Int)} {side : Int} {x y : Nat} {gens : List Int} {q : Int × Int} : q ∈ puL t side x y gens ↔ ∃ g ∈ gens, (side ≠ 2 ∧ q = ((en t g.toNat x : Int), (en t g.toNat y : Int))) ∨ (side ≠ 1 ∧ q = ((en t x g.toNat : Int), (en t y g.toNat : Int))) := by
  unfold puL
  rw [List.mem_flatMap]
  refine exists_congr fun g => and_congr Iff.rfl ?_
  rw [List.mem_append]
  refine or_congr ?_ ?_
  · split
    · rename_i h; rw [List.mem_singleton]; exact ⟨fun e => ⟨h, e⟩, fun e => e.2⟩
    · rename_i h; exact ⟨fun e => (nomatch e), fun e => absurd e.1 h⟩
  · split
    · rename_i h; rw [List.mem_singleton]; exact ⟨fun e => ⟨h, e⟩, fun e => e.2⟩
    · rename_i h; exact ⟨fun e => (nomatch e), fun e => absurd e.1 h⟩
inductive Sp (t : List (List Int)) (gens : List Int) (side : Int) (q : List Int) (u : Nat → Nat) : Nat → List Int → (Nat → Nat) → List (Int × Int) → Prop
  | done : Sp t gens side q u 0 q u []
  | step {k : Nat} {p : List Int} {r : Nat → Nat} {W : List (Int × Int)} {x y : Nat} (h : Sp t gens side q u k (jnP r p x y) (jnR r x y) (W ++ (if r x = r y then [] else puL t side x y gens))) : Sp t gens side q u (k + 1) p r (W ++ [((x : Int), (y : Int))])
theorem Sp.inv {t : List (List Int)} {gens : List Int} {side : Int} {q p : List Int} {u r : Nat → Nat} {k : Nat} {W : List (Int × Int)} (h : Sp t gens side q u k p r W) :
    (W = [] ∧ p = q ∧ r = u) ∨ ∃ (j x y : Nat) (V : List (Int × Int)), k = j + 1 ∧ W = V ++ [((x : Int), (y : Int))] ∧ Sp t gens side q u j (jnP r p x y) (jnR r x y) (V ++ (if r x = r y then [] else puL t side x y gens)) := by
  cases h with
  | done => exact .inl ⟨rfl, rfl, rfl⟩
  | step h => exact .inr ⟨_, _, _, _, rfl, rfl, h⟩
theorem Sp.top {t : List (List Int)} {gens : List Int} {side : Int} {q p : List Int} {u r : Nat → Nat} {k : Nat} {W : List (Int × Int)} (h : Sp t gens side q u k p r W) (h0 : 0 < W.length) :
    ∃ j, k = j + 1 ∧ Sp t gens side q u j (jnP r p (W.getD (W.length - 1) (0, 0)).1.toNat (W.getD (W.length - 1) (0, 0)).2.toNat) (jnR r (W.getD (W.length - 1) (0, 0)).1.toNat (W.getD (W.length - 1) (0, 0)).2.toNat)
      (W.take (W.length - 1) ++ (if r (W.getD (W.length - 1) (0, 0)).1.toNat = r (W.getD (W.length - 1) (0, 0)).2.toNat then [] else puL t side (W.getD (W.length - 1) (0, 0)).1.toNat (W.getD (W.length - 1) (0, 0)).2.toNat gens)) := by
  rcases h.inv with ⟨rfl, _⟩ | ⟨j, x, y, V, hk, rfl, hs⟩
  · simp at h0
  · have e1 : (V ++ [((x : Int), (y : Int))]).length - 1 = V.length := by simp
    have e2 : (V ++ [((x : Int), (y : Int))]).getD V.length (0, 0) = ((x : Int), (y : Int)) := by simp [List.getD]
    have e3 : (V ++ [((x : Int), (y : Int))]).take V.length = V := by simp
    rw [e1, e2, e3]
    exact ⟨j, hk, by simpa using hs⟩
theorem Sp.bot {t : List (List Int)} {gens : List Int} {side : Int} {q p : List Int} {u r : Nat → Nat} {k : Nat} {W : List (Int × Int)} (h : Sp t gens side q u k p r W) (h0 : W.length = 0) : p = q ∧ r = u := by
  rcases h.inv with ⟨_, h1, h2⟩ | ⟨j, x, y, V, hk, rfl, hs⟩
  · exact ⟨h1, h2⟩
  · simp at h0
def inW (n : Nat) (W : List (Int × Int)) : Prop := ∀ q ∈ W, (0 ≤ q.1 ∧ q.1 < (n : Int)) ∧ 0 ≤ q.2 ∧ q.2 < (n : Int)
theorem puL_in {t : List (List Int)} {side : Int} {x y : Nat} {gens : List Int} (hs : Sh t) (hg : ∀ g ∈ gens, 0 ≤ g ∧ g < (t.length : Int)) (hx : x < t.length) (hy : y < t.length) : inW t.length (puL t side x y gens) := fun q hq => by
  obtain ⟨g, hgm, h⟩ := mem_puL.1 hq
  have hgl := hg g hgm
  have e1 := (hs.ent (x := g.toNat) (by omega) hx).2
  have e2 := (hs.ent (x := g.toNat) (by omega) hy).2
  have e3 := (hs.ent (y := g.toNat) hx (by omega)).2
  have e4 := (hs.ent (y := g.toNat) hy (by omega)).2
  rcases h with ⟨_, rfl⟩ | ⟨_, rfl⟩
  · exact ⟨⟨by omega, by omega⟩, by omega, by omega⟩
  · exact ⟨⟨by omega, by omega⟩, by omega, by omega⟩
theorem inW_app {n : Nat} {V W : List (Int × Int)} : inW n (V ++ W) ↔ inW n V ∧ inW n W :=
  ⟨fun h => ⟨fun q hq => h q (List.mem_append_left _ hq), fun q hq => h q (List.mem_append_right _ hq)⟩, fun h q hq => (List.mem_append.1 hq).elim (h.1 q) (h.2 q)⟩
theorem snoc_cases {α : Type} : ∀ (W : List α), W = [] ∨ ∃ V x, W = V ++ [x]
  | [] => .inl rfl
  | a :: l => .inr ⟨(a :: l).dropLast, (a :: l).getLast (by simp), (List.dropLast_concat_getLast (by simp)).symm⟩
section
variable {t : List (List Int)} {gens : List Int} {side : Int}
theorem sp_ex (hs : Sh t) (hg : ∀ g ∈ gens, 0 ≤ g ∧ g < (t.length : Int)) : ∀ (m : Nat) (p : List Int) (r : Nat → Nat) (W : List (Int × Int)), Fo t.length p r → inW t.length W → (2 * gens.length + 1) * cntR t.length r + W.length ≤ m → ∃ q u k, Sp t gens side q u k p r W := by
  intro m
  induction m with
  | zero =>
    intro p r W hf hW hm
    have := List.eq_nil_of_length_eq_zero (show W.length = 0 by omega)
    subst this
    exact ⟨p, r, 0, .done⟩
  | succ m ih =>
    intro p r W hf hW hm
    rcases snoc_cases W with rfl | ⟨V, ⟨a, b⟩, rfl⟩
    · exact ⟨p, r, 0, .done⟩
    have hq := hW (a, b) (by simp)
    have hq : (0 ≤ a ∧ a < (t.length : Int)) ∧ 0 ≤ b ∧ b < (t.length : Int) := hq
    obtain ⟨x, rfl⟩ : ∃ x : Nat, a = (x : Int) := ⟨a.toNat, by omega⟩
    obtain ⟨y, rfl⟩ : ∃ y : Nat, b = (y : Int) := ⟨b.toNat, by omega⟩
    have hx : x < t.length := by omega
    have hy : y < t.length := by omega
    have hc := jn_cnt hf hx hy
    have hV := (inW_app.1 hW).1
    rw [List.length_append, List.length_singleton] at hm
    have hp := puL_len t side x y gens
    obtain ⟨q, u, k, h⟩ := ih (jnP r p x y) (jnR r x y) (V ++ (if r x = r y then [] else puL t side x y gens)) (jn_fo hf hx hy) (inW_app.2 ⟨hV, by
      split
      · intro q hq; cases hq
      · exact puL_in hs hg hx hy⟩) (by
      rw [List.length_append]
      by_cases e : r x = r y
      · rw [if_pos e] at hc ⊢
        rw [Nat.add_zero] at hc
        rw [hc]; simp; omega
      · rw [if_neg e] at hc ⊢
        rw [← hc, Nat.mul_add] at hm
        omega)
    exact ⟨q, u, k + 1, .step h⟩
theorem Sp.law {Q : Nat → Nat → Prop} (hs : Sh t) (hg : ∀ g ∈ gens, 0 ≤ g ∧ g < (t.length : Int)) {q : List Int} {u : Nat → Nat} {k : Nat} {p : List Int} {r : Nat → Nat} {W : List (Int × Int)} (h : Sp t gens side q u k p r W) :
    ∀ J : Nat → Nat → Prop, Fo t.length p r → inW t.length W → KerR t.length r J → (∀ a b, J a b → a < t.length ∧ b < t.length ∧ Cgr t side Q a b) → (∀ w ∈ W, Cgr t side Q w.1.toNat w.2.toNat) →
      (∀ a b, J a b → ∀ g ∈ gens, (side ≠ 2 → Eg (fun a b => J a b ∨ ((a : Int), (b : Int)) ∈ W) (en t g.toNat a) (en t g.toNat b)) ∧ (side ≠ 1 → Eg (fun a b => J a b ∨ ((a : Int), (b : Int)) ∈ W) (en t a g.toNat) (en t b g.toNat))) →
      Fo t.length q u ∧ ∃ J' : Nat → Nat → Prop, KerR t.length u J' ∧ (∀ a b, J a b → J' a b) ∧ (∀ a b : Nat, ((a : Int), (b : Int)) ∈ W → Eg J' a b) ∧ (∀ a b, J' a b → a < t.length ∧ b < t.length ∧ Cgr t side Q a b) ∧
        (∀ a b, J' a b → ∀ g ∈ gens, (side ≠ 2 → Eg J' (en t g.toNat a) (en t g.toNat b)) ∧ (side ≠ 1 → Eg J' (en t a g.toNat) (en t b g.toNat))) := by
  induction h with
  | done =>
    intro J hf _ hk hJ _ hc
    refine ⟨hf, J, hk, fun _ _ h => h, fun a b h => (nomatch h), hJ, fun a b h g hgm => ?_⟩
    have := hc a b h g hgm
    have e : (fun a b : Nat => J a b ∨ ((a : Int), (b : Int)) ∈ ([] : List (Int × Int))) = J := by
      funext a b; simp
    rwa [e] at this
  | step h ih =>
    rename_i k p r W x y
    intro J hf hW hk hJ hQ hc
    have hxy := hW ((x : Int), (y : Int)) (by simp)
    have hx : x < t.length := by have := hxy.1.2; simp at this; omega
    have hy : y < t.length := by have := hxy.2.2; simp at this; omega
    have hQxy : Cgr t side Q x y := by simpa using hQ ((x : Int), (y : Int)) (by simp)
    have hWl := (inW_app.1 hW).1
    by_cases e : r x = r y
    · have hJxy : Eg J x y := (hk x y hx hy).1 e
      have e1 : jnR r x y = r := if_pos e
      rw [e1, if_pos e, List.append_nil] at ih
      rw [e1] at h
      have hf' := jn_fo hf hx hy
      rw [e1] at hf'
      have up : ∀ a b, Eg (fun a b => J a b ∨ ((a : Int), (b : Int)) ∈ W ++ [((x : Int), (y : Int))]) a b → Eg (fun a b => J a b ∨ ((a : Int), (b : Int)) ∈ W) a b := fun a b k => k.mono fun a b h => by
        rcases h with h | h
        · exact .rel (.inl h)
        · rcases List.mem_append.1 h with h | h
          · exact .rel (.inr h)
          · rw [List.mem_singleton] at h
            have : a = x ∧ b = y := by rw [Prod.mk.injEq] at h; omega
            obtain ⟨rfl, rfl⟩ := this
            exact hJxy.mono fun a b h => .rel (.inl h)
      obtain ⟨hfo, J', h1, h2, h3, h4, h5⟩ := ih J hf' hWl hk hJ (fun w hw => hQ w (List.mem_append_left _ hw)) fun a b h g hgm => ⟨fun h0 => up _ _ ((hc a b h g hgm).1 h0), fun h0 => up _ _ ((hc a b h g hgm).2 h0)⟩
      refine ⟨hfo, J', h1, h2, fun a b h => ?_, h4, h5⟩
      rcases List.mem_append.1 h with h | h
      · exact h3 a b h
      · rw [List.mem_singleton] at h
        have : a = x ∧ b = y := by rw [Prod.mk.injEq] at h; omega
        obtain ⟨rfl, rfl⟩ := this
        exact hJxy.mono fun a b h => .rel (h2 a b h)
    · rw [if_neg e] at ih
      have hin : inW t.length (W ++ puL t side x y gens) := inW_app.2 ⟨hWl, puL_in hs hg hx hy⟩
      have up : ∀ a b, Eg (fun a b => J a b ∨ ((a : Int), (b : Int)) ∈ W ++ [((x : Int), (y : Int))]) a b → Eg (fun a b => orP J x y a b ∨ ((a : Int), (b : Int)) ∈ W ++ puL t side x y gens) a b := fun a b k => k.mono fun a b h => by
        rcases h with h | h
        · exact .rel (.inl (.inl h))
        · rcases List.mem_append.1 h with h | h
          · exact .rel (.inr (List.mem_append_left _ h))
          · rw [List.mem_singleton] at h
            have : a = x ∧ b = y := by rw [Prod.mk.injEq] at h; omega
            exact .rel (.inl (.inr this))
      obtain ⟨hfo, J', h1, h2, h3, h4, h5⟩ := ih (orP J x y) (jn_fo hf hx hy) hin (jn_ker hk hx hy) (fun a b h => by
          rcases h with h | ⟨rfl, rfl⟩
          · exact hJ a b h
          · exact ⟨hx, hy, hQxy⟩) (fun w hw => by
          rcases List.mem_append.1 hw with hw | hw
          · exact hQ w (List.mem_append_left _ hw)
          · obtain ⟨g, hgm, h⟩ := mem_puL.1 hw
            have hgl := hg g hgm
            rcases h with ⟨h0, rfl⟩ | ⟨h0, rfl⟩
            · simpa using Cgr.left h0 (by omega) hx hy hQxy
            · simpa using Cgr.right h0 (by omega) hx hy hQxy) fun a b h g hgm => by
          rcases h with h | ⟨rfl, rfl⟩
          · exact ⟨fun h0 => up _ _ ((hc a b h g hgm).1 h0), fun h0 => up _ _ ((hc a b h g hgm).2 h0)⟩
          · exact ⟨fun h0 => .rel (.inr (List.mem_append_right _ (mem_puL.2 ⟨g, hgm, .inl ⟨h0, rfl⟩⟩))), fun h0 => .rel (.inr (List.mem_append_right _ (mem_puL.2 ⟨g, hgm, .inr ⟨h0, rfl⟩⟩)))⟩
      refine ⟨hfo, J', h1, fun a b h => h2 a b (.inl h), fun a b h => ?_, h4, h5⟩
      rcases List.mem_append.1 h with h | h
      · exact h3 a b (List.mem_append_left _ h)
      · rw [List.mem_singleton] at h
        have : a = x ∧ b = y := by rw [Prod.mk.injEq] at h; omega
        obtain ⟨rfl, rfl⟩ := this
        exact .rel (h2 a b (.inr ⟨rfl, rfl⟩))
end
end Go.Proofs.Yteopelpnpdbbcaa
end
section
/- Plain: the partition that a relation generates; lists of pairs. -/
namespace Go.Proofs.Yteopelpnpdbbcaa
open Go Go.AM
noncomputable def egB (R : Nat → Nat → Prop) (a b : Nat) : Bool := @decide (Eg R a b) (Classical.propDecidable _)
theorem egB_true {R : Nat → Nat → Prop} {a b : Nat} : egB R a b = true ↔ Eg R a b := by unfold egB; exact @decide_eq_true_iff _ (Classical.propDecidable _)
theorem eg_pre (n : Nat) (R : Nat → Nat → Prop) : Pre n (egB R) := pre_of (fun x _ => egB_true.2 (.refl x)) fun _ _ _ _ _ _ h h' => egB_true.2 ((egB_true.1 h).trans (egB_true.1 h'))
noncomputable def eqP (n : Nat) (R : Nat → Nat → Prop) : List Int := clsL n (egB R)
theorem eqP_len {n : Nat} {R : Nat → Nat → Prop} : (eqP n R).length = n := clsL_len _ _
theorem eqP_canon {n : Nat} {R : Nat → Nat → Prop} : canon (eqP n R) = eqP n R := canon_idem _
theorem eqP_valid {n : Nat} {R : Nat → Nat → Prop} (h : n ≤ 4096) : validP (eqP n R) := ⟨by rw [eqP_len]; exact h, eqP_canon⟩
theorem eqP_iff {n : Nat} {R : Nat → Nat → Prop} {a b : Nat} (ha : a < n) (hb : b < n) : (eqP n R).getD a 0 = (eqP n R).getD b 0 ↔ Eg R a b := by
  unfold eqP
  rw [clsL_iff (eg_pre n R) ha hb, egB_true, egB_true]
  exact ⟨fun h => h.1, fun h => ⟨h, h.symm⟩⟩
theorem eqP_of {n : Nat} {p : List Int} {R : Nat → Nat → Prop} (h : KerOf n p R) : canon p = eqP n R :=
  ker_clsL (eg_pre n R) h.1 fun a b ha hb => by
    rw [egB_true, egB_true, h.2 a b ha hb]
    exact ⟨fun h => ⟨h, h.symm⟩, fun h => h.1⟩
theorem KerR.congr {n : Nat} {r : Nat → Nat} {R R' : Nat → Nat → Prop} (h : KerR n r R) (h1 : ∀ a b, R a b → Eg R' a b) (h2 : ∀ a b, R' a b → Eg R a b) : KerR n r R' :=
  fun a b ha hb => (h a b ha hb).trans ⟨Eg.mono h1, Eg.mono h2⟩
def relP (l : List (Int × Int)) (a b : Nat) : Prop := ((a : Int), (b : Int)) ∈ l
theorem relP_lt {n : Nat} {l : List (Int × Int)} (h : inW n l) {a b : Nat} (hr : relP l a b) : a < n ∧ b < n := by
  have := h _ hr
  simp only at this
  omega
end Go.Proofs.Yteopelpnpdbbcaa
end
section
/- Plain: how the reference closes a partition under products. -/
namespace Go.Proofs.Yteopelpnpdbbcaa
open Go Go.AM
theorem nodup_sub {α : Type} [DecidableEq α] : ∀ {A B : List α}, A.Nodup → (∀ x ∈ A, x ∈ B) → A.length ≤ B.length
  | [], _, _, _ => Nat.zero_le _
  | a :: A, B, hA, h => by
    have ha := h a (by simp)
    have hn := List.nodup_cons.1 hA
    have := nodup_sub (B := B.erase a) hn.2 fun x hx => (List.mem_erase_of_ne fun e => by subst e; exact hn.1 hx).2 (h x (List.mem_cons_of_mem _ hx))
    have hl := List.length_erase_of_mem ha
    have hp := List.length_pos_of_mem ha
    simp only [List.length_cons]; omega
end Go.Proofs.Yteopelpnpdbbcaa
end
section
/- Ideals of a table: plain. -/
namespace Go.Proofs.Yteopelpnpdbbcaa
open Go Go.AM
open Classical
def inT (t : List (List Int)) (l : List Int) : Prop := ∀ x ∈ l, 0 ≤ x ∧ x < (t.length : Int)
instance (t : List (List Int)) (l : List Int) : Decidable (inT t l) := by unfold inT; infer_instance
end Go.Proofs.Yteopelpnpdbbcaa
end
section
/- Orders by a comparison; sorted lists; the lexicographic order and the order by size. Plain. -/
namespace Go.Proofs.Yteopelpnpdbbcaa
open Go Go.AM
structure TotC {α : Type} (c : α → α → Int) : Prop where
  swap : ∀ a b, c b a = - c a b
  eq : ∀ a b, c a b = 0 → a = b
  trans : ∀ a b d, c a b < 0 → c b d < 0 → c a d < 0
theorem TotC.self {α : Type} {c : α → α → Int} (h : TotC c) (a : α) : c a a = 0 := by have := h.swap a a; omega
def cmpI (a b : Int) : Int := if a < b then -1 else if b < a then 1 else 0
theorem cmpI_tot : TotC cmpI where
  swap a b := by unfold cmpI; split <;> split <;> (try split) <;> omega
  eq a b := by unfold cmpI; split <;> (try split) <;> omega
  trans a b d := by unfold cmpI; intro h1 h2; split at h1 <;> (try split at h1) <;> split at h2 <;> (try split at h2) <;> first | omega | (rw [if_pos (by omega)]; omega)
def cmpL : List Int → List Int → Int
  | [], [] => 0 | [], _ :: _ => -1 | _ :: _, [] => 1 | a :: l, b :: m => if cmpI a b ≠ 0 then cmpI a b else cmpL l m
theorem cmpL_swap : ∀ a b : List Int, cmpL b a = - cmpL a b
  | [], [] => rfl
  | [], _ :: _ => rfl
  | _ :: _, [] => rfl
  | a :: l, b :: m => by
    have e := cmpI_tot.swap a b
    have ih := cmpL_swap l m
    simp only [cmpL]
    by_cases h : cmpI a b = 0
    · rw [if_neg (by omega), if_neg (by omega), ih]
    · rw [if_pos (by omega), if_pos h, e]
theorem cmpL_eq : ∀ a b : List Int, cmpL a b = 0 → a = b
  | [], [], _ => rfl
  | [], _ :: _, h => by simp [cmpL] at h
  | _ :: _, [], h => by simp [cmpL] at h
  | a :: l, b :: m, h => by
    simp only [cmpL] at h
    by_cases h0 : cmpI a b = 0
    · rw [if_neg (by omega)] at h
      rw [cmpI_tot.eq a b h0, cmpL_eq l m h]
    · rw [if_pos h0] at h; exact absurd h h0
theorem cmpL_trans : ∀ a b d : List Int, cmpL a b < 0 → cmpL b d < 0 → cmpL a d < 0
  | [], [], _, h, _ => by simp [cmpL] at h
  | [], _ :: _, [], _, h => by simp [cmpL] at h
  | [], _ :: _, _ :: _, _, _ => by simp [cmpL]
  | _ :: _, [], _, h, _ => by simp [cmpL] at h
  | _ :: _, _ :: _, [], _, h => by simp [cmpL] at h
  | a :: l, b :: m, d :: n, h1, h2 => by
    simp only [cmpL] at h1 h2 ⊢
    have ih := cmpL_trans l m n
    by_cases e1 : cmpI a b = 0
    · rw [if_neg (by omega)] at h1
      obtain rfl := cmpI_tot.eq a b e1
      by_cases e2 : cmpI a d = 0
      · rw [if_neg (by omega)] at h2 ⊢; exact ih h1 h2
      · rw [if_pos e2] at h2 ⊢; exact h2
    · rw [if_pos e1] at h1
      by_cases e2 : cmpI b d = 0
      · obtain rfl := cmpI_tot.eq b d e2
        rw [if_pos e1]; exact h1
      · rw [if_pos e2] at h2
        have := cmpI_tot.trans a b d h1 h2
        rw [if_pos (by omega)]; exact this
theorem cmpL_tot : TotC cmpL := ⟨cmpL_swap, cmpL_eq, cmpL_trans⟩
def Srt {α : Type} (c : α → α → Int) (l : List α) : Prop := l.Pairwise fun a b => c a b < 0
def srt {α : Type} (c : α → α → Int) (l : List α) : List α := l.mergeSort fun a b => decide (c a b ≤ 0)
section
variable {α : Type} {c : α → α → Int}
theorem Srt.nodup (h : TotC c) {l : List α} (hs : Srt c l) : l.Nodup := hs.imp fun {a b} hab e => by subst e; have := h.self a; omega
theorem le_trans' (h : TotC c) {a b d : α} (h1 : c a b ≤ 0) (h2 : c b d ≤ 0) : c a d ≤ 0 := by
  by_cases e1 : c a b = 0
  · obtain rfl := h.eq _ _ e1; exact h2
  · by_cases e2 : c b d = 0
    · obtain rfl := h.eq _ _ e2; exact h1
    · have := h.trans a b d (by omega) (by omega); omega
theorem srt_perm (l : List α) : (srt c l).Perm l := List.mergeSort_perm _ _
theorem srt_mem {l : List α} {x : α} : x ∈ srt c l ↔ x ∈ l := (srt_perm l).mem_iff
theorem srt_len (l : List α) : (srt c l).length = l.length := (srt_perm l).length_eq
theorem srt_le (h : TotC c) (l : List α) : (srt c l).Pairwise fun a b => c a b ≤ 0 := by
  have := List.pairwise_mergeSort (le := fun a b => decide (c a b ≤ 0)) (fun a b d h1 h2 => decide_eq_true (le_trans' h (of_decide_eq_true h1) (of_decide_eq_true h2)))
    (fun a b => by
      have := h.swap a b
      by_cases h0 : c a b ≤ 0
      · simp [h0]
      · have : c b a ≤ 0 := by omega
        simp [this]) l
  exact this.imp fun {a b} hab => of_decide_eq_true hab
theorem srt_srt (h : TotC c) {l : List α} (hn : l.Nodup) : Srt c (srt c l) := by
  have h1 := srt_le h l
  have h2 : (srt c l).Nodup := (srt_perm l).nodup_iff.2 hn
  have := h1.and h2
  refine this.imp fun {a b} hab => ?_
  have : c a b ≠ 0 := fun e => hab.2 (h.eq _ _ e)
  omega
theorem perm_sorted (h : TotC c) : ∀ {l m : List α}, l.Pairwise (fun a b => c a b ≤ 0) → m.Pairwise (fun a b => c a b ≤ 0) → l.Perm m → l = m
  | [], m, _, _, hp => by rw [List.nil_perm.1 hp]
  | a :: l, [], _, _, hp => by have := hp.length_eq; simp at this
  | a :: l, b :: m, h1, h2, hp => by
    have h1' := List.pairwise_cons.1 h1
    have h2' := List.pairwise_cons.1 h2
    have e : a = b := by
      have ha : a ∈ b :: m := hp.mem_iff.1 (by simp)
      have hb : b ∈ a :: l := hp.mem_iff.2 (by simp)
      rcases List.mem_cons.1 ha with e | ha
      · exact e
      · rcases List.mem_cons.1 hb with e | hb
        · exact e.symm
        · have g1 := h2'.1 a ha
          have g2 := h1'.1 b hb
          have := h.swap a b
          exact h.eq _ _ (by omega)
    subst e
    rw [perm_sorted h h1'.2 h2'.2 hp.cons_inv]
theorem srt_uniq (h : TotC c) {l m : List α} (hm : m.Pairwise fun a b => c a b ≤ 0) (hp : m.Perm l) : srt c l = m :=
  perm_sorted h (srt_le h l) hm ((srt_perm l).trans hp.symm)
theorem sorted_uniq (h : TotC c) {l m : List α} (hl : Srt c l) (hm : Srt c m) (he : ∀ x, x ∈ l ↔ x ∈ m) : l = m :=
  perm_sorted h (hl.imp fun h => by omega) (hm.imp fun h => by omega) ((List.perm_ext_iff_of_nodup (hl.nodup h) (hm.nodup h)).2 he)
end
theorem cmpL_at : ∀ {a b : List Int} {i : Nat}, (∀ j, j < i → a.getD j 0 = b.getD j 0) → i ≤ a.length → i ≤ b.length → cmpL a b = cmpL (a.drop i) (b.drop i)
  | a, b, 0, _, _, _ => by simp
  | [], _, i + 1, _, h, _ => by simp at h
  | _ :: _, [], i + 1, _, _, h => by simp at h
  | x :: a, y :: b, i + 1, h, h1, h2 => by
    have e : x = y := by simpa using h 0 (by omega)
    subst e
    rw [List.drop_succ_cons, List.drop_succ_cons, ← cmpL_at (a := a) (b := b) (i := i) (fun j hj => by simpa using h (j + 1) (by omega)) (by simpa using h1) (by simpa using h2)]
    simp [cmpL, cmpI_tot.self]
theorem cmpL_here {a b : List Int} {i : Nat} (h : ∀ j, j < i → a.getD j 0 = b.getD j 0) (h1 : i < a.length) (h2 : i < b.length) (hne : a.getD i 0 ≠ b.getD i 0) : cmpL a b = cmpI (a.getD i 0) (b.getD i 0) := by
  rw [cmpL_at h (by omega) (by omega), List.drop_eq_getElem_cons h1, List.drop_eq_getElem_cons h2]
  rw [getD_eq h1, getD_eq h2] at *
  simp only [cmpL]
  rw [if_pos fun e => hne (cmpI_tot.eq _ _ e)]
theorem cmpL_end {a b : List Int} {i : Nat} (h : ∀ j, j < i → a.getD j 0 = b.getD j 0) (h1 : i ≤ a.length) (h2 : i ≤ b.length) (he : i = a.length ∨ i = b.length) : cmpL a b = cmpI a.length b.length := by
  rw [cmpL_at h h1 h2]
  unfold cmpI
  rcases he with he | he
  · rw [List.drop_of_length_le (by omega)]
    cases hb : b.drop i with
    | nil =>
      have := congrArg List.length hb
      simp at this
      rw [if_neg (by omega), if_neg (by omega)]; rfl
    | cons =>
      have := congrArg List.length hb
      simp at this
      rw [if_pos (by omega)]; rfl
  · rw [show b.drop i = [] from List.drop_of_length_le (by omega)]
    cases ha : a.drop i with
    | nil =>
      have := congrArg List.length ha
      simp at this
      rw [if_neg (by omega), if_neg (by omega)]; rfl
    | cons =>
      have := congrArg List.length ha
      simp at this
      rw [if_neg (by omega), if_pos (by omega)]; rfl
end Go.Proofs.Yteopelpnpdbbcaa
end
section
/- Plain: subgroups, what elements generate, conjugates, cosets. -/
namespace Go.Proofs.Yteopelpnpdbbcaa
section
/-! ### Subgroups -/
end
/-! ### Generating, step by step -/
theorem nodup_len {n : Nat} {l : List Int} (hn : l.Nodup) (h : ∀ x ∈ l, 0 ≤ x ∧ x < (n : Int)) : l.length ≤ n := by
  have := hn.length_le_of_subset (l₂ := disI n) fun x hx => mem_disI.2 (h x hx)
  rwa [disI_len] at this
/-! ### What was collected -/
/-! ### Closing under products, pass by pass -/
/-! ### The reference's lists -/
end Go.Proofs.Yteopelpnpdbbcaa
end
section
/- The abstract machine: a slice that is lent, taken as a stack from the start. -/
namespace Go.AM
open Go
def stkB : Blk → Blk
  | .vec 0 r [] => .stk r.len r | b => b
def stk1 (k : Nat) : Store → Store
  | [] => []
  | (j, b) :: S => match Nat.beq j k with
    | true => (j, stkB b) :: S
    | false => (j, b) :: stk1 k S
theorem find_stk (k : Nat) : ∀ (S : Store) (j : Nat), findS (stk1 k S) j = if j = k then (findS S k).map stkB else findS S j
  | [], j => by simp [stk1, findS]
  | (i, b) :: S, j => by
    have ih := find_stk k S j
    cases hb : Nat.beq i k with
    | true =>
      have hik : i = k := beq_iff'.1 hb
      subst hik
      have e : stk1 i ((i, b) :: S) = (i, stkB b) :: S := by
        show (match Nat.beq i i with | true => _ | false => _) = _
        rw [hb]
      rw [e]
      have hii : Nat.beq i i = true := beq_iff'.2 rfl
      by_cases hj : j = i
      · subst hj; simp [findS, hii]
      · have : Nat.beq i j = false := by
          cases h : Nat.beq i j with
          | true => exact absurd (beq_iff'.1 h).symm hj
          | false => rfl
        simp [findS, this, hj]
    | false =>
      have e : stk1 k ((i, b) :: S) = (i, b) :: stk1 k S := by
        show (match Nat.beq i k with | true => _ | false => _) = _
        rw [hb]
      rw [e]
      have hki : Nat.beq i k = false := hb
      cases h : Nat.beq i j with
      | true =>
        have : i = j := beq_iff'.1 h
        subst this
        have hik : i ≠ k := beq_false hb
        simp [findS, h, hik]
      | false =>
        simp only [findS, h, hki]
        exact ih
section
variable {P : Program} {TY : List TyE} {M0 : Base} {w0 w : World} {ρ : Env} {M : Msk} {S : Store}
def stE (k : Nat) (ρ : Env) : Env := fun j => if j = k then (match ρ k with | some (.sl o) => some (.st o o) | x => x) else ρ j
theorem stE_view (k : Nat) (ρ : Env) : View ρ (stE k ρ) := by
  refine ⟨fun j o h => ?_, fun j off v h => ?_⟩
  · by_cases e : j = k
    · subst e
      cases hr : ρ j with
      | none => rw [hr] at h; cases h
      | some x => rw [hr] at h; cases x <;> simp only [stE, if_pos, hr] <;> exact h
    · simp only [stE, e, if_false]; exact h
  · by_cases e : j = k
    · subst e
      cases hr : ρ j with
      | none => rw [hr] at h; cases h
      | some x => rw [hr] at h; cases x <;> simp only [stE, if_pos, hr] <;> first | exact h | cases h
    · simp only [stE, e, if_false]; exact h
theorem stE_has {k j b : Nat} (h : hasB (stE k ρ) j b) : hasB ρ j b := by
  by_cases e : j = k
  · subst e
    unfold hasB at h ⊢
    cases hr : ρ j with
    | none => simp [stE, hr] at h
    | some x =>
      cases x <;> simp only [stE, if_pos, hr] at h <;> first | exact h | exact h.elim id id
  · unfold hasB at h ⊢
    simp only [stE, e, if_false] at h; exact h
theorem St.toStk (st : St M0 w0 ρ M S w) {k : Nat} {r : RO} (hf : findS S k = some (.vec 0 r [])) : St M0 w0 (stE k ρ) M (stk1 k S) w := by
  have hv := stE_view k ρ
  refine ⟨fun j => ?_, fun j B hB => ?_, fun i j b hi hj => st.inj i j b (stE_has hi) (stE_has hj), st.mlt, st.stp, st.sub, st.old, fun j b h => st.fresh j b (stE_has h), fun j o hl ho => ?_⟩
  · rw [find_stk]
    by_cases e : j = k
    · subst e
      rw [if_pos rfl, Option.isSome_map, ← st.dom j]
      simp only [stE, if_pos]
      cases ρ j with
      | none => rfl
      | some x => cases x <;> rfl
    · rw [if_neg e, ← st.dom j]
      simp only [stE, e, if_false]
  · rw [find_stk] at hB
    by_cases e : j = k
    · subst e
      rw [if_pos rfl, hf] at hB
      have hB : Blk.stk r.len r = B := by simpa [stkB] using hB
      subst hB
      obtain ⟨⟨o, h1, h2⟩, _⟩ := st.blk j _ hf
      refine ⟨o, o, by simp [stE, h1], h2.view hv, ?_⟩
      obtain ⟨h3, h4, h5, _, h6⟩ := h2
      refine ⟨h3, h4, h5, ?_⟩
      cases hb : o.blk with
      | none => simp only [hb] at h6 ⊢; exact h6
      | some b =>
        simp only [hb] at h6 ⊢
        obtain ⟨h7, cs, ty, h8, h9, h10, _⟩ := h6
        exact ⟨h7, cs, ty, h8, h9, fun off => by rw [h10 off]; simp⟩
    · rw [if_neg e] at hB
      have := st.blk j B hB
      have he : stE k ρ j = ρ j := by simp [stE, e]
      cases B with
      | vec wm r ov => obtain ⟨⟨o, h1, h2⟩, h3⟩ := this; exact ⟨⟨o, by rw [he]; exact h1, h2.view hv⟩, h3⟩
      | box l => obtain ⟨b, h1, cs, ty, h2, h3, h4⟩ := this; exact ⟨b, by rw [he]; exact h1, cs, ty, h2, h3, h4.imp fun _ _ => RepC.view hv⟩
      | map kd vk m => obtain ⟨b, h1, h2⟩ := this; exact ⟨b, by rw [he]; exact h1, h2⟩
      | deep r hole => obtain ⟨o, rows, h1, h2⟩ := this; exact ⟨o, rows, by rw [he]; exact h1, h2⟩
      | stk n r => obtain ⟨o, cur, h1, h2, h3⟩ := this; exact ⟨o, cur, by rw [he]; exact h1, h2.view hv, h3⟩
      | jnk n z => obtain ⟨o, h1, h2⟩ := this; exact ⟨o, by rw [he]; exact h1, h2⟩
  · by_cases e : j = k
    · subst e
      cases hr : ρ j with
      | none => simp [stE, hr] at ho
      | some x =>
        have := st.pin j x hl hr
        cases x <;> simp only [stE, if_pos, hr, Option.some.injEq] at ho <;> subst ho <;> exact this
    · simp only [stE, e, if_false] at ho; exact st.pin j o hl ho
theorem fnS_of_ex (hty : TyOk P TY) {F : Spec} (hF : SpecOk P F) (hm : P.follows .mixedOrders = true) {f : FuncId} {fn : Func} (hf : P.funcs[f]? = some fn) (hname : fn.name ≠ "runtime.NumGoroutine") (hb : fn.body.isSome = true)
    {args : List AV} {S1 : Store} {ret : AV} {S2 : Store} {k : Nat} {r : RO} (hk : findS S1 k = some (.vec 0 r [])) (h : factsL args → fnMK TY F fn args (stk1 k S1) ret S2) : FnM P f args S1 ret S2 := by
  refine ⟨⟨fn, hf, hname, hb⟩, fun ρ M w vs st hv => ?_⟩
  have h := h (facts_L hv)
  obtain ⟨c, hc⟩ := Option.isSome_iff_exists.1 hb
  simp only [fnMK, hc] at h
  refine calls_of_wp hf hc ?_
  have hvl : args.length = vs.length := hv.length
  refine exK_sound hty hF hm c h (M0 := lentBase ρ M) (w0 := w) (ρ := stE k ρ) (M := M) (st.toStk hk)
    ⟨rfl, ?_, fun i => ?_⟩ fun e a w' hE => ?_
  · simp [evalF_app, len_repl, drop_eq, hvl]
  · rw [nth_app]
    split
    · rename_i hi
      obtain ⟨v, h1, h2⟩ := hv.get i hi
      have : (vs.toArray ++ Array.replicate (fn.ntmps - vs.toArray.size) undef).getD i undef = v := by
        rw [Array.getD_eq_getD_getElem?, Array.getElem?_append_left (by simp; omega)]
        simp [h1]
      rw [this]; exact h2.view (stE_view k ρ)
    · rw [nth_repl]; trivial
  · obtain ⟨ρ', M', T, S, h1, st, tm, _⟩ := hE
    cases e with
    | exit i => exact h1.elim
    | normal =>
      obtain ⟨T', S', ρ2, g1, g2, g3, _⟩ := unstk_sound h1 st tm
      exact endM_sound hty g2 g3 g1
    | ret =>
      obtain ⟨T', S', ρ2, g1, g2, g3, _⟩ := unstk_sound h1 st tm
      exact endM_sound hty g2 g3 g1
end
end Go.AM
end
