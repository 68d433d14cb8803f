import Derived.Test.YtagdbfklniiabaaReesLaw
import Derived.Test.YtagdbfklniiabaaEqvLaw
import Derived.Test.YtagdbfklniiabaaGrpLaw
section
/- The reference's partitions (semigroupref03) and relations of Green (semigroupref15): contracts. -/
namespace Go.Proofs.Ytagdbfklniiabaa
open Go Go.AM
set_option maxRecDepth 100000
theorem rcanon_fn (p : List Int) : QF 44 [.ro (.ints .i64 p)] (.new (.ints .i64 (if p.length ≤ 4096 then canon p else []))) := mkQ Try.func44 (by decide +kernel) rfl (Nat.le_of_ble_eq_true rfl) fun _ => by
  refine And.intro (fun h1 => ?_) (fun h1 => ?_)
  · refine And.intro ?_ trivial
    rw [if_neg (by omega)]; rfl
  rw [if_pos (by omega)]
  refine And.intro (by omega) ?_
  refine And.intro (by omega) ?_
  refine Exists.intro [] <| lp3 (fun (i : Nat) (_ : List Int) (m : List (List Int × Int)) => [(19, .int .i64 i), (4, .int .i64 m.length)]) (fun _ q m => [(15, .vec 0 (.ints .i64 q) []), (16, .map (.int .i64) (some .i64) m)]) (fun i q m => CanInv (fun x => [x]) 0 p i q m) (fun i _ _ => p.length - i) 0 (List.replicate p.length 0) [] .start (by repeat' first | refine And.intro ?_ ?_ | exact True.intro | (show (_ : Int) = (_ : Int); omega) | omega | exact rfl | (simp only [RO.len]; omega)) ?_
  intro i q m H
  have hle := H.le
  have hlen := H.len
  have hml := H.mle
  refine And.intro (fun h2 => ?_) (fun h2 => ?_)
  · have hil : i < p.length := by omega
    refine And.intro (by omega) ?_
    refine And.intro (fun h3 => ?_) (fun h3 => ?_)
    · obtain ⟨e1, e2⟩ := H.isNew key1 hil h3
      have e3 : (setM m [p.getD i 0] m.length).length = m.length + 1 := by
        have : getM m [p.getD i 0] = none := by
          have h3 : (!(getM m [p.getD i 0]).isSome) = true := h3
          cases hg : getM m [p.getD i 0] with
          | none => rfl
          | some v => rw [hg] at h3; cases h3
        rw [setM_new this]; simp
      refine And.intro (by omega) ?_
      refine And.intro (by omega) ?_
      refine And.intro (by omega) ?_
      refine And.intro (by omega) ?_
      refine nx (i + 1, q.set i m.length, setM m [p.getD i 0] m.length) (H.next hil e1 e2) (show p.length - (i + 1) < p.length - i by omega) ?_
      refine And.intro (And.intro rfl (And.intro ?_ trivial)) ?_
      · show (m.length : Int) + 1 = ((setM m [p.getD i 0] m.length).length : Int)
        rw [e3]; rfl
      · repeat' first | refine And.intro ?_ ?_ | exact True.intro | (show (_ : Int) = (_ : Int); omega) | omega | exact rfl | (simp only [RO.len]; omega)
    · obtain ⟨e1, e2⟩ := H.isOld key1 hil h3
      refine And.intro (by omega) ?_
      refine And.intro (by omega) ?_
      refine And.intro (by omega) ?_
      exact nx (i + 1, q.set i _, m) (H.next hil e1 e2) (show p.length - (i + 1) < p.length - i by omega) (by repeat' first | refine And.intro ?_ ?_ | exact True.intro | (show (_ : Int) = (_ : Int); omega) | omega | exact rfl | (simp only [RO.len]; omega))
  · refine And.intro ?_ trivial
    refine And.intro (by omega) ?_
    rw [H.done (by omega)]
def setB (n : Nat) (f : Nat → Bool) : List Bool := (List.range n).map f
theorem setB_len (n : Nat) (f : Nat → Bool) : (setB n f).length = n := by simp [setB]
theorem setB_get {n : Nat} {f : Nat → Bool} {x : Nat} (hx : x < n) : (setB n f).getD x false = f x := by
  unfold setB
  rw [List.getD, List.getElem?_map, List.getElem?_range hx]; rfl
theorem setB_of {n : Nat} {f : Nat → Bool} {r : List Bool} (hl : r.length = n) (h : ∀ x, x < n → r.getD x false = f x) : r = setB n f := by
  refine List.ext_getElem (by rw [hl, setB_len]) fun j h1 h2 => ?_
  rw [← getD_eq (d := false) h1, ← getD_eq (d := false) h2, h j (by omega), setB_get (by omega)]
theorem setB_next {n i : Nat} {f : Nat → Bool} {r : List Bool} (hl : r.length = n) (h : ∀ x, x < n → r.getD x false = f x) (hi : i < n) : (r.set i true).length = n ∧ ∀ x, x < n → (r.set i true).getD x false = (f x || decide (x = i)) := by
  refine ⟨by rw [List.length_set]; exact hl, fun x hx => ?_⟩
  by_cases hxi : x = i
  · subst hxi; rw [getD_set_eq (by omega)]; simp
  · rw [getD_set_ne (Ne.symm hxi), h x hx]; simp [hxi]
theorem rep_false (n x : Nat) : (List.replicate n false).getD x false = false := by
  simp only [List.getD, List.getElem?_replicate]; split <;> rfl
theorem rset_k (l : List Int) (n : Nat) (hn : n ≤ 400) (hl : l.length ≤ 140737488355328) : fnK TY SP Try.f84 [.ro (.ints .i64 l), .int .i64 n] (.new (.bools (setB n fun x => l.contains (x : Int)))) := by
  refine And.intro (by omega) ?_
  refine And.intro (by omega) ?_
  refine Exists.intro [] <| lp2 (fun (i : Nat) (_ : List Bool) => [(12, .int .i64 i)]) (fun _ r => [(9, .vec 0 (.bools r) [])]) (fun i r => i ≤ l.length ∧ r.length = n ∧ ∀ x, x < n → r.getD x false = (l.take i).contains (x : Int)) (fun i _ => l.length - i) 0 (List.replicate n false) ⟨Nat.zero_le _, by simp, fun x hx => by rw [rep_false]; simp⟩ (by repeat' first | refine And.intro ?_ ?_ | exact True.intro | (show (_ : Int) = (_ : Int); omega) | omega | exact rfl | (simp only [RO.len]; omega)) ?_
  rintro i r ⟨hi, hr, hs⟩
  refine And.intro (fun h1 => ?_) (fun h1 => ?_)
  · have hil : i < l.length := by omega
    have skip : ¬ (0 ≤ l.getD i 0 ∧ l.getD i 0 < n) → ∀ x, x < n → r.getD x false = (l.take (i + 1)).contains (x : Int) := fun hno x hx => by
      rw [hs x hx, take_snoc (d := 0) hil, Bool.eq_iff_iff]
      simp only [List.contains_iff_mem, List.mem_append, List.mem_singleton]
      constructor
      · exact .inl
      · rintro (h | h)
        · exact h
        · omega
    refine And.intro (by omega) ?_
    refine And.intro (fun h2 => ?_) (fun h2 => ?_)
    · have h2 : 0 ≤ l.getD i 0 := h2
      refine And.intro (fun h3 => ?_) (fun h3 => ?_)
      · have h3 : l.getD i 0 < (n : Int) := h3
        refine And.intro (show 0 ≤ l.getD i 0 ∧ l.getD i 0 < (r.length : Int) by omega) ?_
        refine And.intro (show (0 : Int) ≤ l.getD i 0 by omega) ?_
        refine And.intro (by omega) ?_
        have hnx := setB_next hr hs (i := (l.getD i 0).toNat) (by omega)
        refine nx (i + 1, r.set (l.getD i 0).toNat true) ⟨by omega, hnx.1, fun x hx => ?_⟩ (show l.length - (i + 1) < l.length - i by omega) (by repeat' first | refine And.intro ?_ ?_ | exact True.intro | (show (_ : Int) = (_ : Int); omega) | omega | exact rfl | (simp only [RO.len]; omega))
        rw [hnx.2 x hx, take_snoc (d := 0) hil, Bool.eq_iff_iff]
        simp only [Bool.or_eq_true, decide_eq_true_eq, List.contains_iff_mem, List.mem_append, List.mem_singleton]
        exact or_congr Iff.rfl ⟨fun h => by omega, fun h => by omega⟩
      · have h3 : (n : Int) ≤ l.getD i 0 := h3
        refine And.intro (by omega) ?_
        exact nx (i + 1, r) ⟨by omega, hr, skip (by omega)⟩ (show l.length - (i + 1) < l.length - i by omega) (by repeat' first | refine And.intro ?_ ?_ | exact True.intro | (show (_ : Int) = (_ : Int); omega) | omega | exact rfl | (simp only [RO.len]; omega))
    · have h2 : l.getD i 0 < 0 := h2
      refine And.intro (by omega) ?_
      exact nx (i + 1, r) ⟨by omega, hr, skip (by omega)⟩ (show l.length - (i + 1) < l.length - i by omega) (by repeat' first | refine And.intro ?_ ?_ | exact True.intro | (show (_ : Int) = (_ : Int); omega) | omega | exact rfl | (simp only [RO.len]; omega))
  · refine And.intro ?_ trivial
    refine And.intro rfl ?_
    rw [setB_of hr fun x hx => by rw [hs x hx, List.take_of_length_le (by omega)]]
theorem rset_fn (l : List Int) (n : Nat) (hn : n ≤ 400) : QF 84 [.ro (.ints .i64 l), .int .i64 n] (.new (.bools (setB n fun x => l.contains (x : Int)))) := mkQ Try.func84 (by decide +kernel) rfl (Nat.le_of_ble_eq_true rfl) fun hf => rset_k l n hn hf.1.1
end Go.Proofs.Ytagdbfklniiabaa
end
section
/- The reference of Rees matrix semigroups: its contracts. -/
namespace Go.Proofs.Ytagdbfklniiabaa
open Go Go.AM
set_option maxRecDepth 100000
theorem same_k (a b : List Int) (ha : a.length ≤ 140737488355328) (_hb : b.length ≤ 140737488355328) : fnK TY SP Try.f12 [.ro (.ints .i64 a), .ro (.ints .i64 b)] (.bool (.v (decide (a = b)))) := by
  refine And.intro (fun h1 => ?_) (fun h1 => ?_)
  · refine And.intro ?_ trivial
    show false = decide (a = b)
    rw [decide_eq_false (fun e => h1 (by rw [e]))]
  refine Exists.intro [] <| lp (X := Nat) (fun k => [(13, .int .i64 k)]) (fun _ => []) (fun k => k ≤ a.length ∧ ∀ j, j < k → a.getD j 0 = b.getD j 0) (fun k => a.length - k) 0 ⟨Nat.zero_le _, by omega⟩ (by repeat' first | refine And.intro ?_ ?_ | exact True.intro | (show (_ : Int) = (_ : Int); omega) | omega | exact rfl | (simp only [RO.len]; omega)) ?_
  intro k hk
  refine And.intro (fun h2 => ?_) (fun h2 => ?_)
  · refine Or.inl <| Exists.intro [false, false, false, false, false, false, false, false, false] (And.intro (by decide +kernel) ?_)
    refine And.intro (by omega) ?_
    refine And.intro (by omega) ?_
    refine And.intro (fun h3 => ?_) (fun h3 => ?_)
    · refine And.intro ?_ trivial
      show false = decide (a = b)
      rw [decide_eq_false (fun e => h3 (by rw [e]))]
    · refine And.intro (by omega) ?_
      refine nx (k + 1) ⟨by omega, fun j hj => ?_⟩ (show a.length - (k + 1) < a.length - k by omega) (by repeat' first | refine And.intro ?_ ?_ | exact True.intro | (show (_ : Int) = (_ : Int); omega) | omega | exact rfl | (simp only [RO.len]; omega))
      by_cases hjk : j < k
      · exact hk.2 j hjk
      · have : j = k := by omega
        rw [this]; exact h3
  · refine And.intro ?_ trivial
    show true = decide (a = b)
    rw [decide_eq_true (ext_getD 0 (by omega) fun i hi => hk.2 i (by omega))]
theorem same_fn (a b : List Int) : QF 12 [.ro (.ints .i64 a), .ro (.ints .i64 b)] (.bool (.v (decide (a = b)))) := mkQ Try.func12 (by decide +kernel) rfl (Nat.le_of_ble_eq_true rfl) fun hf => same_k a b hf.1.1 hf.2.1.1
end Go.Proofs.Ytagdbfklniiabaa
end
section
section
/- Plain: congruences of a table. -/
namespace Go.Proofs.Ytagdbfklniiabaa
def CgA (t : List (List Int)) (p : List Int) (side : Int) (x y s : Nat) : Prop :=
  (side ≠ 2 → p.getD (en t s x) 0 = p.getD (en t s y) 0) ∧ (side ≠ 1 → p.getD (en t x s) 0 = p.getD (en t y s) 0)
def Cg (t : List (List Int)) (p : List Int) (side : Int) : Prop := ∀ x y s, x < t.length → y < t.length → s < t.length → p.getD x 0 = p.getD y 0 → CgA t p side x y s
structure IsCg (t : List (List Int)) (p : List Int) (side : Int) : Prop where
  semi : Semi t
  len : p.length = t.length
  val : validP p
  sd : 0 ≤ side ∧ side ≤ 2
  cg : Cg t p side
end Go.Proofs.Ytagdbfklniiabaa
end
section
/- Package congr: which partitions are congruences: contract. -/
namespace Go.Proofs.Ytagdbfklniiabaa
open Go Go.AM
set_option maxRecDepth 100000
end Go.Proofs.Ytagdbfklniiabaa
end
section
/- The references of chapters 3 and 19: valid partitions, congruences: contracts. -/
namespace Go.Proofs.Ytagdbfklniiabaa
open Go Go.AM
set_option maxRecDepth 100000
end Go.Proofs.Ytagdbfklniiabaa
end
end
section
/- Plain: the congruence that pairs generate; how the forest of congr makes it. -/
namespace Go.Proofs.Ytagdbfklniiabaa
open Go Go.AM
inductive Cgr (t : List (List Int)) (side : Int) (R : Nat → Nat → Prop) : Nat → Nat → Prop
  | rel {a b : Nat} (h : R a b) : Cgr t side R a b
  | refl (a : Nat) : Cgr t side R a a
  | symm {a b : Nat} (h : Cgr t side R a b) : Cgr t side R b a
  | trans {a b c : Nat} (h : Cgr t side R a b) (h' : Cgr t side R b c) : Cgr t side R a c
  | left {a b s : Nat} (h0 : side ≠ 2) (hs : s < t.length) (ha : a < t.length) (hb : b < t.length) (h : Cgr t side R a b) : Cgr t side R (en t s a) (en t s b)
  | right {a b s : Nat} (h0 : side ≠ 1) (hs : s < t.length) (ha : a < t.length) (hb : b < t.length) (h : Cgr t side R a b) : Cgr t side R (en t a s) (en t b s)
theorem Cgr.least {t : List (List Int)} {side : Int} {R Q : Nat → Nat → Prop} (hr : ∀ a, Q a a) (hs : ∀ a b, Q a b → Q b a) (ht : ∀ a b c, Q a b → Q b c → Q a c) (h : ∀ a b, R a b → Q a b)
    (hl : side ≠ 2 → ∀ a b s, s < t.length → a < t.length → b < t.length → Q a b → Q (en t s a) (en t s b)) (hR : side ≠ 1 → ∀ a b s, s < t.length → a < t.length → b < t.length → Q a b → Q (en t a s) (en t b s)) {a b : Nat} (e : Cgr t side R a b) : Q a b := by
  induction e with
  | rel h1 => exact h _ _ h1
  | refl a => exact hr a
  | symm _ ih => exact hs _ _ ih
  | trans _ _ i1 i2 => exact ht _ _ _ i1 i2
  | left h0 h1 h2 h3 _ ih => exact hl h0 _ _ _ h1 h2 h3 ih
  | right h0 h1 h2 h3 _ ih => exact hR h0 _ _ _ h1 h2 h3 ih
noncomputable def cgrB (t : List (List Int)) (side : Int) (R : Nat → Nat → Prop) (a b : Nat) : Bool := @decide (Cgr t side R a b) (Classical.propDecidable _)
theorem cgrB_true {t : List (List Int)} {side : Int} {R : Nat → Nat → Prop} {a b : Nat} : cgrB t side R a b = true ↔ Cgr t side R a b := by unfold cgrB; exact @decide_eq_true_iff _ (Classical.propDecidable _)
theorem cgr_pre (t : List (List Int)) (side : Int) (R : Nat → Nat → Prop) : Pre t.length (cgrB t side R) :=
  pre_of (fun x _ => cgrB_true.2 (.refl x)) fun _ _ _ _ _ _ h h' => cgrB_true.2 ((cgrB_true.1 h).trans (cgrB_true.1 h'))
noncomputable def genP (t : List (List Int)) (side : Int) (R : Nat → Nat → Prop) : List Int := clsL t.length (cgrB t side R)
section
variable {t : List (List Int)} {side : Int} {R : Nat → Nat → Prop}
theorem genP_len : (genP t side R).length = t.length := clsL_len _ _
theorem genP_canon : canon (genP t side R) = genP t side R := canon_idem _
theorem genP_iff {a b : Nat} (ha : a < t.length) (hb : b < t.length) : (genP t side R).getD a 0 = (genP t side R).getD b 0 ↔ Cgr t side R a b := by
  unfold genP
  rw [clsL_iff (cgr_pre t side R) ha hb, cgrB_true, cgrB_true]
  exact ⟨fun h => h.1, fun h => ⟨h, h.symm⟩⟩
theorem genP_cg (hs : Sh t) : Cg t (genP t side R) side := fun x y s hx hy hsl e => by
  have e := (genP_iff hx hy).1 e
  exact ⟨fun h0 => (genP_iff (hs.ent hsl hx).2 (hs.ent hsl hy).2).2 (.left h0 hsl hx hy e), fun h0 => (genP_iff (hs.ent hx hsl).2 (hs.ent hy hsl).2).2 (.right h0 hsl hx hy e)⟩
theorem genP_valid (hs : Sh t) : validP (genP t side R) := ⟨by rw [genP_len]; have := hs.most; omega, genP_canon⟩
theorem genP_is (h : Semi t) (h0 : 0 ≤ side ∧ side ≤ 2) : IsCg t (genP t side R) side := ⟨h, genP_len, genP_valid h.toSh, h0, genP_cg h.toSh⟩
theorem Cgr.sub {p : List Int} (hR : ∀ a b, R a b → p.getD a 0 = p.getD b 0) (hg : Cg t p side) {a b : Nat} (e : Cgr t side R a b) : p.getD a 0 = p.getD b 0 :=
  e.least (Q := fun a b => p.getD a 0 = p.getD b 0) (fun _ => rfl) (fun _ _ h => h.symm) (fun _ _ _ h h' => h.trans h') hR
    (fun h0 a b s hs ha hb h => (hg a b s ha hb hs h).1 h0) (fun h0 a b s hs ha hb h => (hg a b s ha hb hs h).2 h0)
theorem genP_of {p : List Int} (hl : p.length = t.length) (h1 : ∀ a b, a < t.length → b < t.length → p.getD a 0 = p.getD b 0 → Cgr t side R a b) (hR : ∀ a b, R a b → p.getD a 0 = p.getD b 0) (hg : Cg t p side) : canon p = genP t side R := by
  refine ker_clsL (cgr_pre t side R) hl fun a b ha hb => ?_
  rw [cgrB_true, cgrB_true]
  exact ⟨fun e => ⟨h1 a b ha hb e, (h1 a b ha hb e).symm⟩, fun e => e.1.sub hR hg⟩
end
/-! ### From generators to all elements -/
/-! ### The forest: joined or not; the number of classes -/
/-! ### The spreading of joined pairs -/
def inW (n : Nat) (W : List (Int × Int)) : Prop := ∀ q ∈ W, (0 ≤ q.1 ∧ q.1 < (n : Int)) ∧ 0 ≤ q.2 ∧ q.2 < (n : Int)
end Go.Proofs.Ytagdbfklniiabaa
end
section
/- Plain: the partition that a relation generates; lists of pairs. -/
namespace Go.Proofs.Ytagdbfklniiabaa
open Go Go.AM
noncomputable def egB (R : Nat → Nat → Prop) (a b : Nat) : Bool := @decide (Eg R a b) (Classical.propDecidable _)
theorem egB_true {R : Nat → Nat → Prop} {a b : Nat} : egB R a b = true ↔ Eg R a b := by unfold egB; exact @decide_eq_true_iff _ (Classical.propDecidable _)
theorem eg_pre (n : Nat) (R : Nat → Nat → Prop) : Pre n (egB R) := pre_of (fun x _ => egB_true.2 (.refl x)) fun _ _ _ _ _ _ h h' => egB_true.2 ((egB_true.1 h).trans (egB_true.1 h'))
noncomputable def eqP (n : Nat) (R : Nat → Nat → Prop) : List Int := clsL n (egB R)
theorem eqP_len {n : Nat} {R : Nat → Nat → Prop} : (eqP n R).length = n := clsL_len _ _
theorem eqP_iff {n : Nat} {R : Nat → Nat → Prop} {a b : Nat} (ha : a < n) (hb : b < n) : (eqP n R).getD a 0 = (eqP n R).getD b 0 ↔ Eg R a b := by
  unfold eqP
  rw [clsL_iff (eg_pre n R) ha hb, egB_true, egB_true]
  exact ⟨fun h => h.1, fun h => ⟨h, h.symm⟩⟩
theorem eqP_of {n : Nat} {p : List Int} {R : Nat → Nat → Prop} (h : KerOf n p R) : canon p = eqP n R :=
  ker_clsL (eg_pre n R) h.1 fun a b ha hb => by
    rw [egB_true, egB_true, h.2 a b ha hb]
    exact ⟨fun h => ⟨h, h.symm⟩, fun h => h.1⟩
def relP (l : List (Int × Int)) (a b : Nat) : Prop := ((a : Int), (b : Int)) ∈ l
def orR (R : Nat → Nat → Prop) (l : List (Int × Int)) (a b : Nat) : Prop := R a b ∨ relP l a b
theorem relP_lt {n : Nat} {l : List (Int × Int)} (h : inW n l) {a b : Nat} (hr : relP l a b) : a < n ∧ b < n := by
  have := h _ hr
  simp only at this
  omega
end Go.Proofs.Ytagdbfklniiabaa
end
section
/- Plain: how the reference closes a partition under products. -/
namespace Go.Proofs.Ytagdbfklniiabaa
open Go Go.AM
theorem nodup_sub {α : Type} [DecidableEq α] : ∀ {A B : List α}, A.Nodup → (∀ x ∈ A, x ∈ B) → A.length ≤ B.length
  | [], _, _, _ => Nat.zero_le _
  | a :: A, B, hA, h => by
    have ha := h a (by simp)
    have hn := List.nodup_cons.1 hA
    have := nodup_sub (B := B.erase a) hn.2 fun x hx => (List.mem_erase_of_ne fun e => by subst e; exact hn.1 hx).2 (h x (List.mem_cons_of_mem _ hx))
    have hl := List.length_erase_of_mem ha
    have hp := List.length_pos_of_mem ha
    simp only [List.length_cons]; omega
theorem mrg_less {p : List Int} {a b : Nat} (ha : a < p.length) (hb : b < p.length) (hne : p.getD a 0 ≠ p.getD b 0) : classN (mrgL p a b) < classN p := by
  have hm : ∀ x ∈ mrgL p a b, x ∈ p ∧ x ≠ p.getD b 0 := fun x hx => by
    obtain ⟨k, hk, rfl⟩ := mem_getD 0 hx
    rw [mrgL_len] at hk
    rw [mrgL_get hk]
    by_cases e : p.getD k 0 = p.getD b 0
    · rw [if_pos e]; exact ⟨getD_mem ha, hne⟩
    · rw [if_neg e]; exact ⟨getD_mem hk, e⟩
  have := nodup_sub (A := p.getD b 0 :: firsts (mrgL p a b)) (B := firsts p) (List.nodup_cons.2 ⟨fun h => (hm _ (mem_firsts.1 h)).2 rfl, firsts_nodup _⟩) fun x hx => by
    rcases List.mem_cons.1 hx with rfl | hx
    · exact mem_firsts.2 (getD_mem hb)
    · exact mem_firsts.2 (hm x (mem_firsts.1 hx)).1
  simp only [List.length_cons] at this
  exact this
structure RcB (t : List (List Int)) (side : Int) (R : Nat → Nat → Prop) (p : List Int) : Prop where
  len : p.length = t.length
  up : ∀ a b, a < t.length → b < t.length → p.getD a 0 = p.getD b 0 → Cgr t side R a b
  lo : ∀ a b, R a b → a < t.length ∧ b < t.length ∧ p.getD a 0 = p.getD b 0
section
variable {t : List (List Int)} {side : Int} {R : Nat → Nat → Prop} {p p0 : List Int} {ch : Bool} {x y s : Nat}
theorem RcB.mrg (h : RcB t side R p) {a b : Nat} (ha : a < t.length) (hb : b < t.length) (e : Cgr t side R a b) : RcB t side R (mrgL p a b) := by
  have hl := h.len
  refine ⟨by rw [mrgL_len]; exact hl, fun i j hi hj e2 => ?_, fun i j hR => ?_⟩
  · rw [mrgL_get (by omega), mrgL_get (by omega)] at e2
    by_cases e3 : p.getD i 0 = p.getD b 0 <;> by_cases e4 : p.getD j 0 = p.getD b 0
    · exact (h.up i b hi hb e3).trans (h.up j b hj hb e4).symm
    · rw [if_pos e3, if_neg e4] at e2
      exact (h.up i b hi hb e3).trans (e.symm.trans (h.up a j ha hj e2))
    · rw [if_neg e3, if_pos e4] at e2
      exact (h.up i a hi ha e2).trans (e.trans (h.up b j hb hj e4.symm))
    · rw [if_neg e3, if_neg e4] at e2
      exact h.up i j hi hj e2
  · have k := h.lo i j hR
    refine ⟨k.1, k.2.1, ?_⟩
    rw [mrgL_get (by omega), mrgL_get (by omega), k.2.2]
structure RcI (t : List (List Int)) (side : Int) (R : Nat → Nat → Prop) (p0 p : List Int) (ch : Bool) (x y s : Nat) : Prop where
  b : RcB t side R p
  cd : ch = true → classN p < classN p0
  eq : ch = false → p = p0
  cl : ch = false → ∀ x' y' s', x' < t.length → y' < x' → s' < t.length → (x' < x ∨ (x' = x ∧ y' < y) ∨ (x' = x ∧ y' = y ∧ s' < s)) → p0.getD x' 0 = p0.getD y' 0 → CgA t p0 side x' y' s'
theorem RcI.start (h : RcB t side R p) : RcI t side R p p false 0 0 0 := ⟨h, (fun h => by cases h), fun _ => rfl, fun _ x' y' s' _ _ _ h => by omega⟩
theorem RcI.le (h : RcI t side R p0 p ch x y s) : classN p ≤ classN p0 := by
  cases hc : ch with
  | true => exact Nat.le_of_lt (h.cd hc)
  | false => rw [h.eq hc]; exact Nat.le_refl _
theorem RcI.mrg (h : RcI t side R p0 p ch x y s) {a b : Nat} (ha : a < t.length) (hb : b < t.length) (e : Cgr t side R a b) (hne : p.getD a 0 ≠ p.getD b 0) (x' y' s' : Nat) : RcI t side R p0 (mrgL p a b) true x' y' s' :=
  ⟨h.b.mrg ha hb e, fun _ => Nat.lt_of_lt_of_le (mrg_less (by rw [h.b.len]; exact ha) (by rw [h.b.len]; exact hb) hne) h.le, fun h => (by cases h), fun h => (by cases h)⟩
theorem RcI.chd (h : RcI t side R p0 p true x y s) (x' y' s' : Nat) : RcI t side R p0 p true x' y' s' := ⟨h.b, h.cd, h.eq, fun h => (by cases h)⟩
theorem RcI.okS (h : RcI t side R p0 p ch x y s) (hg : CgA t p side x y s) : RcI t side R p0 p ch x y (s + 1) :=
  ⟨h.b, h.cd, h.eq, fun hc x' y' s' h1 h2 h3 h4 h5 => by
    by_cases e : x' = x ∧ y' = y ∧ s' = s
    · obtain ⟨rfl, rfl, rfl⟩ := e
      rw [← h.eq hc]; exact hg
    · exact h.cl hc x' y' s' h1 h2 h3 (by omega) h5⟩
theorem RcI.endS (h : RcI t side R p0 p ch x y s) (hs : t.length ≤ s ∨ p.getD x 0 ≠ p.getD y 0) : RcI t side R p0 p ch x (y + 1) 0 :=
  ⟨h.b, h.cd, h.eq, fun hc x' y' s' h1 h2 h3 h4 h5 => by
    by_cases e : x' = x ∧ y' = y
    · rcases hs with hs | hs
      · exact h.cl hc x' y' s' h1 h2 h3 (by omega) h5
      · rw [e.1, e.2, ← h.eq hc] at h5; exact absurd h5 hs
    · exact h.cl hc x' y' s' h1 h2 h3 (by omega) h5⟩
theorem RcI.endY (h : RcI t side R p0 p ch x y 0) (hy : x ≤ y) : RcI t side R p0 p ch (x + 1) 0 0 :=
  ⟨h.b, h.cd, h.eq, fun hc x' y' s' h1 h2 h3 h4 h5 => h.cl hc x' y' s' h1 h2 h3 (by omega) h5⟩
theorem RcI.done (h : RcI t side R p0 p false x y 0) (hx : t.length ≤ x) : canon p = genP t side R := by
  have e := h.eq rfl
  subst e
  refine genP_of h.b.len h.b.up (fun a b hR => (h.b.lo a b hR).2.2) fun a b s ha hb hs e => ?_
  have key : ∀ a b, a < t.length → b < a → p.getD a 0 = p.getD b 0 → CgA t p side a b s := fun a b ha hb e => h.cl rfl a b s ha hb hs (.inl (by omega)) e
  rcases Nat.lt_trichotomy a b with hab | hab | hab
  · have := key b a hb hab e.symm
    exact ⟨fun h0 => (this.1 h0).symm, fun h0 => (this.2 h0).symm⟩
  · subst hab; exact ⟨fun _ => rfl, fun _ => rfl⟩
  · exact key a b ha hab e
theorem RcB.ofPairs {l : List (Int × Int)} (hl : inW t.length l) : RcB t side (relP l) (eqP t.length (relP l)) :=
  ⟨eqP_len, fun a b ha hb e => ((eqP_iff ha hb).1 e).least .refl (fun _ _ => .symm) (fun _ _ _ => .trans) fun a b h => .rel h,
    fun a b hR => by have := relP_lt hl hR; exact ⟨this.1, this.2, (eqP_iff this.1 this.2).2 (.rel hR)⟩⟩
end
end Go.Proofs.Ytagdbfklniiabaa
end
section
/- The idempotent power of an element: plain. -/
namespace Go.Proofs.Ytagdbfklniiabaa
variable {t : List (List Int)}
theorem pw_per (h : Semi t) {x i p : Nat} (hx : x < t.length) (e : pwN t x i = pwN t x (i + p)) : ∀ k, i ≤ k → pwN t x k = pwN t x (k + p) := by
  intro k hk
  obtain ⟨d, rfl⟩ : ∃ d, k = i + d := ⟨k - i, by omega⟩
  clear hk
  induction d with
  | zero => exact e
  | succ d ih =>
    have e1 : pwN t x (i + (d + 1)) = en t (pwN t x (i + d)) x := rfl
    have e2 : pwN t x (i + (d + 1) + p) = en t (pwN t x (i + d + p)) x := by
      rw [show i + (d + 1) + p = (i + d + p) + 1 by omega]; rfl
    rw [e1, e2, ih]
theorem pw_mul (h : Semi t) {x i p : Nat} (hx : x < t.length) (e : pwN t x i = pwN t x (i + p)) {k : Nat} (hk : i ≤ k) : ∀ m, pwN t x k = pwN t x (k + m * p)
  | 0 => by rw [Nat.zero_mul]; rfl
  | m + 1 => by
    rw [pw_mul h hx e hk m, pw_per h hx e (k + m * p) (by omega), Nat.succ_mul, Nat.add_assoc]
theorem pw_idem (h : Semi t) {x : Nat} (hx : x < t.length) : ∃ k, k < t.length ∧ en t (pwN t x k) (pwN t x k) = pwN t x k := by
  have hd : ∃ i j, i < j ∧ j ≤ t.length ∧ pwN t x i = pwN t x j := by
    refine Classical.byContradiction fun hno => ?_
    have hn : ((List.range (t.length + 1)).map (pwN t x)).Nodup := by
      rw [List.nodup_iff_pairwise_ne, List.pairwise_map]
      refine List.Pairwise.imp_of_mem ?_ (List.pairwise_lt_range (n := t.length + 1))
      intro a b ha hb hab e
      exact hno ⟨a, b, hab, by have := List.mem_range.1 hb; omega, e⟩
    have := nodup_sub hn (B := List.range t.length) fun y hy => by
      obtain ⟨k, _, rfl⟩ := List.mem_map.1 hy
      exact List.mem_range.2 (pwN_lt h hx k)
    simp at this
    omega
  obtain ⟨i, j, hij, hj, e⟩ := hd
  obtain ⟨p, hp, rfl⟩ : ∃ p, 0 < p ∧ j = i + p := ⟨j - i, by omega, by omega⟩
  have hm := Nat.div_add_mod (i + p) p
  have hr := Nat.mod_lt (i + p) hp
  have hq : (i + p) / p * p = i + p - (i + p) % p := by rw [Nat.mul_comm]; omega
  refine ⟨(i + p) / p * p - 1, by omega, ?_⟩
  rw [pwN_add h hx, show (i + p) / p * p - 1 + ((i + p) / p * p - 1) + 1 = ((i + p) / p * p - 1) + (i + p) / p * p by omega]
  exact (pw_mul h hx e (by omega) _).symm
theorem pw_pow (h : Semi t) {x a : Nat} (hx : x < t.length) (e : en t (pwN t x a) (pwN t x a) = pwN t x a) : ∀ m, pwN t x (a + m * (a + 1)) = pwN t x a
  | 0 => by rw [Nat.zero_mul]; rfl
  | m + 1 => by
    rw [show a + (m + 1) * (a + 1) = (a + m * (a + 1)) + a + 1 by rw [Nat.succ_mul]; omega, ← pwN_add h hx, pw_pow h hx e m, e]
theorem pw_uni (h : Semi t) {x a b : Nat} (hx : x < t.length) (ea : en t (pwN t x a) (pwN t x a) = pwN t x a) (eb : en t (pwN t x b) (pwN t x b) = pwN t x b) : pwN t x a = pwN t x b := by
  have h1 := pw_pow h hx ea b
  have h2 := pw_pow h hx eb a
  have e : a + b * (a + 1) = b + a * (b + 1) := by rw [Nat.mul_add, Nat.mul_add, Nat.mul_comm]; omega
  rw [← h1, ← h2, e]
end Go.Proofs.Ytagdbfklniiabaa
end
