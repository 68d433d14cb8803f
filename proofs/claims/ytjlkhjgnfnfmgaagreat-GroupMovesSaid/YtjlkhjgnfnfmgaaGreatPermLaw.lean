import Derived.Test.YtjlkhjgnfnfmgaaGreatOrd
section
/- Plain: a forest of parents, none above its child's number: roots, halving, union. -/
namespace Go.Proofs.YtjlkhjgnfnfmgaaGreat
structure Fo (n : Nat) (p : List Int) (r : Nat → Nat) : Prop where
  len : p.length = n
  le : ∀ i, i < n → 0 ≤ p.getD i 0 ∧ p.getD i 0 ≤ (i : Int)
  par : ∀ i, i < n → r (p.getD i 0).toNat = r i
  fix : ∀ i, i < n → p.getD i 0 = (i : Int) → r i = i
def halfL (p : List Int) (i : Nat) : List Int := p.set i (p.getD (p.getD i 0).toNat 0)
def fndL : Nat → List Int → Nat → List Int
  | 0, p, _ => p
  | f + 1, p, i => if p.getD i 0 = (i : Int) then p else fndL f (halfL p i) ((halfL p i).getD i 0).toNat
theorem Fo.rle {n : Nat} {p : List Int} {r : Nat → Nat} (h : Fo n p r) : ∀ m i, i < m → i < n → r i ≤ i := by
  intro m
  induction m with
  | zero => intro i hi; omega
  | succ m ih =>
    intro i hi hn
    by_cases e : p.getD i 0 = (i : Int)
    · rw [h.fix i hn e]; exact Nat.le_refl _
    · have := h.le i hn
      have h1 := ih (p.getD i 0).toNat (by omega) (by omega)
      rw [h.par i hn] at h1; omega
theorem Fo.root {n : Nat} {p : List Int} {r : Nat → Nat} (h : Fo n p r) : ∀ m i, i < m → i < n → p.getD (r i) 0 = (r i : Int) := by
  intro m
  induction m with
  | zero => intro i hi; omega
  | succ m ih =>
    intro i hi hn
    by_cases e : p.getD i 0 = (i : Int)
    · rw [h.fix i hn e]; exact e
    · have := h.le i hn
      have h1 := ih (p.getD i 0).toNat (by omega) (by omega)
      rwa [h.par i hn] at h1
theorem Fo.rlt {n : Nat} {p : List Int} {r : Nat → Nat} (h : Fo n p r) {i : Nat} (hi : i < n) : r i < n := Nat.lt_of_le_of_lt (h.rle (i + 1) i (by omega) hi) hi
theorem Fo.rr {n : Nat} {p : List Int} {r : Nat → Nat} (h : Fo n p r) {i : Nat} (hi : i < n) : r (r i) = r i := h.fix _ (h.rlt hi) (h.root (i + 1) i (by omega) hi)
theorem Fo.half {n : Nat} {p : List Int} {r : Nat → Nat} (h : Fo n p r) {i : Nat} (hi : i < n) : Fo n (halfL p i) r := by
  have h0 := h.le i hi
  have h1 := h.le (p.getD i 0).toNat (by omega)
  have hl := h.len
  have hg : ∀ k, (halfL p i).getD k 0 = if k = i then p.getD (p.getD i 0).toNat 0 else p.getD k 0 := fun k => by
    unfold halfL
    by_cases e : k = i
    · subst e; rw [getD_set_eq (by omega), if_pos rfl]
    · rw [getD_set_ne (Ne.symm e), if_neg e]
  refine ⟨by unfold halfL; rw [List.length_set]; exact h.len, fun k hk => ?_, fun k hk => ?_, fun k hk e => ?_⟩
  · rw [hg]
    by_cases e : k = i
    · subst e; rw [if_pos rfl]; omega
    · rw [if_neg e]; exact h.le k hk
  · rw [hg]
    by_cases e : k = i
    · subst e; rw [if_pos rfl, h.par _ (by omega), h.par _ hk]
    · rw [if_neg e]; exact h.par k hk
  · rw [hg] at e
    by_cases e1 : k = i
    · subst e1; rw [if_pos rfl] at e; exact h.fix k hk (by omega)
    · rw [if_neg e1] at e; exact h.fix k hk e
theorem fndL_fo {n : Nat} {r : Nat → Nat} : ∀ (f : Nat) {p : List Int} {i : Nat}, Fo n p r → i < n → Fo n (fndL f p i) r
  | 0, _, _, h, _ => h
  | f + 1, p, i, h, hi => by
    unfold fndL
    split
    · exact h
    · have := (h.half hi).le i hi
      exact fndL_fo f (h.half hi) (by omega)
theorem half_lt {n : Nat} {p : List Int} {r : Nat → Nat} (h : Fo n p r) {i : Nat} (hi : i < n) (e : p.getD i 0 ≠ (i : Int)) : ((halfL p i).getD i 0).toNat < i := by
  have h0 := h.le i hi
  have h1 := h.le (p.getD i 0).toNat (by omega)
  have hl := h.len
  unfold halfL
  rw [getD_set_eq (by omega)]; omega
theorem fndL_fuel {n : Nat} {r : Nat → Nat} : ∀ (f g : Nat) {p : List Int} {i : Nat}, Fo n p r → i < n → i < f → i < g → fndL f p i = fndL g p i
  | 0, _, _, _, _, _, hf, _ => by omega
  | _ + 1, 0, _, _, _, _, _, hg => by omega
  | f + 1, g + 1, p, i, h, hi, hf, hg => by
    unfold fndL
    split
    · rfl
    · rename_i e
      have := half_lt h hi e
      exact fndL_fuel f g (h.half hi) (by omega) (by omega) (by omega)
def ufR (r : Nat → Nat) (i j : Nat) : Nat → Nat := fun k => if r k = max (r i) (r j) then min (r i) (r j) else r k
def ufL (r : Nat → Nat) (p : List Int) (i j : Nat) : List Int := (fndL (j + 1) (fndL (i + 1) p i) j).set (max (r i) (r j)) ((min (r i) (r j) : Nat) : Int)
theorem Fo.union {n : Nat} {p : List Int} {r : Nat → Nat} (h : Fo n p r) {i j : Nat} (hi : i < n) (hj : j < n) : Fo n (ufL r p i j) (ufR r i j) := by
  have h2 := fndL_fo (j + 1) (fndL_fo (i + 1) h hi) hj
  unfold ufL
  revert h2
  generalize fndL (j + 1) (fndL (i + 1) p i) j = q
  intro h2
  have ri := h2.rlt hi
  have rj := h2.rlt hj
  have rri := h2.rr hi
  have rrj := h2.rr hj
  have hl := h2.len
  have hm : max (r i) (r j) < n := by omega
  have rm : r (max (r i) (r j)) = max (r i) (r j) := by
    rcases Nat.le_total (r i) (r j) with e | e
    · rw [Nat.max_eq_right e]; exact rrj
    · rw [Nat.max_eq_left e]; exact rri
  have rn : r (min (r i) (r j)) = min (r i) (r j) := by
    rcases Nat.le_total (r i) (r j) with e | e
    · rw [Nat.min_eq_left e]; exact rri
    · rw [Nat.min_eq_right e]; exact rrj
  have hle : min (r i) (r j) ≤ max (r i) (r j) := by omega
  generalize hM : max (r i) (r j) = M at *
  generalize hN : min (r i) (r j) = N at *
  have hg : ∀ k, (q.set M (N : Int)).getD k 0 = if k = M then (N : Int) else q.getD k 0 := fun k => by
    by_cases e : k = M
    · subst e; rw [getD_set_eq (by omega), if_pos rfl]
    · rw [getD_set_ne (Ne.symm e), if_neg e]
  have hu : ∀ k, ufR r i j k = if r k = M then N else r k := fun k => by unfold ufR; rw [hM, hN]
  refine ⟨by rw [List.length_set]; exact hl, fun k hk => ?_, fun k hk => ?_, fun k hk e => ?_⟩
  · rw [hg]
    by_cases e : k = M
    · rw [if_pos e]; omega
    · rw [if_neg e]; exact h2.le k hk
  · rw [hg, hu, hu]
    by_cases e : k = M
    · subst e
      rw [if_pos rfl, Int.toNat_natCast, rn, rm, if_pos rfl]
      split <;> rfl
    · rw [if_neg e, h2.par k hk]
  · rw [hg] at e
    rw [hu]
    by_cases e1 : k = M
    · subst e1
      rw [if_pos rfl] at e
      rw [rm, if_pos rfl]; omega
    · rw [if_neg e1] at e
      have := h2.fix k hk e
      rw [this, if_neg e1]
def KerR (n : Nat) (r : Nat → Nat) (R : Nat → Nat → Prop) : Prop := ∀ a b, a < n → b < n → (r a = r b ↔ Eg R a b)
theorem KerR.union {n : Nat} {r : Nat → Nat} {R : Nat → Nat → Prop} (h : KerR n r R) {i j : Nat} (hi : i < n) (hj : j < n) : KerR n (ufR r i j) (orP R i j) := fun a b ha hb => by
  rw [eg_or, ← h a b ha hb, ← h a i ha hi, ← h j b hj hb, ← h a j ha hj, ← h i b hi hb]
  unfold ufR
  have m1 : max (r i) (r j) = r i ∧ min (r i) (r j) = r j ∨ max (r i) (r j) = r j ∧ min (r i) (r j) = r i := by omega
  generalize r a = x; generalize r b = y
  revert m1
  generalize r i = u; generalize r j = v; generalize max u v = M; generalize min u v = N
  intro m1
  split <;> split <;> omega
theorem Fo.dis (n : Nat) : Fo n (disI n) id :=
  ⟨disI_len n, fun i hi => by rw [disI_get hi]; omega, fun i hi => by rw [disI_get hi]; simp, fun i _ _ => rfl⟩
theorem KerR.dis (n : Nat) : KerR n id fun _ _ => False := fun a b _ _ =>
  ⟨fun e => by have e : a = b := e; subst e; exact .refl _, fun e => e.least (Q := fun a b => id a = id b) (fun _ => rfl) (fun _ _ e => e.symm) (fun _ _ _ e f => e.trans f) fun _ _ f => f.elim⟩
def fndA (p : List Int) : Nat → List Int
  | 0 => p
  | k + 1 => fndL (k + 1) (fndA p k) k
theorem fndA_fo {n : Nat} {p : List Int} {r : Nat → Nat} (h : Fo n p r) : ∀ k, k ≤ n → Fo n (fndA p k) r
  | 0, _ => h
  | k + 1, hk => fndL_fo (k + 1) (fndA_fo h k (by omega)) hk
def rtL (n : Nat) (r : Nat → Nat) : List Int := (List.range n).map fun i => (r i : Int)
theorem rtL_len (n : Nat) (r : Nat → Nat) : (rtL n r).length = n := by simp [rtL]
theorem rtL_get {n : Nat} {r : Nat → Nat} {i : Nat} (h : i < n) : (rtL n r).getD i 0 = (r i : Int) := by simp [rtL, List.getD, h]
theorem KerR.ker {n : Nat} {r : Nat → Nat} {R : Nat → Nat → Prop} (h : KerR n r R) : KerOf n (rtL n r) R :=
  ⟨rtL_len n r, fun a b ha hb => by rw [rtL_get ha, rtL_get hb, ← h a b ha hb]; omega⟩
def prR (r : Nat → Nat) : List (Int × Int) → Nat → Nat
  | [] => r
  | x :: l => prR (ufR r x.1.toNat x.2.toNat) l
end Go.Proofs.YtjlkhjgnfnfmgaaGreat
end
section
/- Plain: the congruence that pairs generate; how the forest of congr makes it. -/
namespace Go.Proofs.YtjlkhjgnfnfmgaaGreat
open Go Go.AM
/-! ### From generators to all elements -/
/-! ### The forest: joined or not; the number of classes -/
/-! ### The spreading of joined pairs -/
def inW (n : Nat) (W : List (Int × Int)) : Prop := ∀ q ∈ W, (0 ≤ q.1 ∧ q.1 < (n : Int)) ∧ 0 ≤ q.2 ∧ q.2 < (n : Int)
end Go.Proofs.YtjlkhjgnfnfmgaaGreat
end
section
/- Plain: the partition that a relation generates; lists of pairs. -/
namespace Go.Proofs.YtjlkhjgnfnfmgaaGreat
open Go Go.AM
noncomputable def egB (R : Nat → Nat → Prop) (a b : Nat) : Bool := @decide (Eg R a b) (Classical.propDecidable _)
theorem egB_true {R : Nat → Nat → Prop} {a b : Nat} : egB R a b = true ↔ Eg R a b := by unfold egB; exact @decide_eq_true_iff _ (Classical.propDecidable _)
theorem eg_pre (n : Nat) (R : Nat → Nat → Prop) : Pre n (egB R) := pre_of (fun x _ => egB_true.2 (.refl x)) fun _ _ _ _ _ _ h h' => egB_true.2 ((egB_true.1 h).trans (egB_true.1 h'))
noncomputable def eqP (n : Nat) (R : Nat → Nat → Prop) : List Int := clsL n (egB R)
theorem eqP_len {n : Nat} {R : Nat → Nat → Prop} : (eqP n R).length = n := clsL_len _ _
theorem eqP_iff {n : Nat} {R : Nat → Nat → Prop} {a b : Nat} (ha : a < n) (hb : b < n) : (eqP n R).getD a 0 = (eqP n R).getD b 0 ↔ Eg R a b := by
  unfold eqP
  rw [clsL_iff (eg_pre n R) ha hb, egB_true, egB_true]
  exact ⟨fun h => h.1, fun h => ⟨h, h.symm⟩⟩
theorem eqP_of {n : Nat} {p : List Int} {R : Nat → Nat → Prop} (h : KerOf n p R) : canon p = eqP n R :=
  ker_clsL (eg_pre n R) h.1 fun a b ha hb => by
    rw [egB_true, egB_true, h.2 a b ha hb]
    exact ⟨fun h => ⟨h, h.symm⟩, fun h => h.1⟩
theorem KerR.congr {n : Nat} {r : Nat → Nat} {R R' : Nat → Nat → Prop} (h : KerR n r R) (h1 : ∀ a b, R a b → Eg R' a b) (h2 : ∀ a b, R' a b → Eg R a b) : KerR n r R' :=
  fun a b ha hb => (h a b ha hb).trans ⟨Eg.mono h1, Eg.mono h2⟩
def relP (l : List (Int × Int)) (a b : Nat) : Prop := ((a : Int), (b : Int)) ∈ l
def orR (R : Nat → Nat → Prop) (l : List (Int × Int)) (a b : Nat) : Prop := R a b ∨ relP l a b
theorem prR_ker {n : Nat} : ∀ (l : List (Int × Int)) (r : Nat → Nat) (R : Nat → Nat → Prop), KerR n r R → inW n l → KerR n (prR r l) (orR R l)
  | [], r, R, h, _ => h.congr (fun a b h => .rel (.inl h)) fun a b h => h.elim .rel fun h => nomatch h
  | x :: l, r, R, h, hW => by
    have hx := hW x (by simp)
    have hl : inW n l := fun q hq => hW q (List.mem_cons_of_mem _ hq)
    refine (prR_ker l (ufR r x.1.toNat x.2.toNat) (orP R x.1.toNat x.2.toNat) (h.union (by omega) (by omega)) hl).congr (fun a b h => .rel ?_) fun a b h => .rel ?_
    · rcases h with (h | ⟨rfl, rfl⟩) | h
      · exact .inl h
      · refine .inr ?_
        show (_, _) ∈ _
        rw [Int.toNat_of_nonneg hx.1.1, Int.toNat_of_nonneg hx.2.1]
        exact List.mem_cons_self
      · exact .inr (List.mem_cons_of_mem _ h)
    · rcases h with h | h
      · exact .inl (.inl h)
      · rcases List.mem_cons.1 h with h | h
        · exact .inl (.inr ⟨by rw [← h]; rfl, by rw [← h]; rfl⟩)
        · exact .inr h
theorem pairs_eqP {n : Nat} {l : List (Int × Int)} (h : inW n l) : canon (rtL n (prR id l)) = eqP n (relP l) :=
  eqP_of (((prR_ker l id (fun _ _ => False) (KerR.dis n) h).congr (fun a b h => h.elim (fun f => f.elim) .rel) fun _a _b h => .rel (.inr h)).ker)
end Go.Proofs.YtjlkhjgnfnfmgaaGreat
end
section
/- Plain: how the reference closes a partition under products. -/
namespace Go.Proofs.YtjlkhjgnfnfmgaaGreat
open Go Go.AM
theorem nodup_sub {α : Type} [DecidableEq α] : ∀ {A B : List α}, A.Nodup → (∀ x ∈ A, x ∈ B) → A.length ≤ B.length
  | [], _, _, _ => Nat.zero_le _
  | a :: A, B, hA, h => by
    have ha := h a (by simp)
    have hn := List.nodup_cons.1 hA
    have := nodup_sub (B := B.erase a) hn.2 fun x hx => (List.mem_erase_of_ne fun e => by subst e; exact hn.1 hx).2 (h x (List.mem_cons_of_mem _ hx))
    have hl := List.length_erase_of_mem ha
    have hp := List.length_pos_of_mem ha
    simp only [List.length_cons]; omega
end Go.Proofs.YtjlkhjgnfnfmgaaGreat
end
section
/- Rees matrix semigroups, in plain words: nothing of the program stands here. -/
namespace Go.Proofs.YtjlkhjgnfnfmgaaGreat
open Classical
theorem take_snoc {α : Type} {l : List α} {i : Nat} {d : α} (h : i < l.length) : l.take (i + 1) = l.take i ++ [l.getD i d] := by
  rw [List.take_succ_eq_append_getElem h]; simp [List.getD, h]
theorem ext_getD {α : Type} {l m : List α} (d : α) (hl : l.length = m.length) (h : ∀ i, i < l.length → l.getD i d = m.getD i d) : l = m := by
  refine List.ext_getElem hl fun i h1 h2 => ?_
  have := h i h1
  simpa [List.getD, h1, h2] using this
end Go.Proofs.YtjlkhjgnfnfmgaaGreat
end
section
/- Plain: permutations, and the group that some of them generate. -/
namespace Go.Proofs.YtjlkhjgnfnfmgaaGreat
open Go Go.AM
structure Perm (n : Nat) (p : List Int) : Prop where
  len : p.length = n
  rng : ∀ x ∈ p, 0 ≤ x ∧ x < (n : Int)
  nd : p.Nodup
def cmpP (f g : List Int) : List Int := f.map fun y => g.getD y.toNat 0
section
variable {n : Nat} {f g h : List Int}
theorem cmpP_len : (cmpP f g).length = f.length := by simp [cmpP]
theorem cmpP_get {i : Nat} (hi : i < f.length) : (cmpP f g).getD i 0 = g.getD (f.getD i 0).toNat 0 := by simp [cmpP, List.getD, hi]
theorem Perm.at (hf : Perm n f) {i : Nat} (hi : i < n) : 0 ≤ f.getD i 0 ∧ f.getD i 0 < (n : Int) := hf.rng _ (getD_mem (by rw [hf.len]; exact hi))
theorem nodup_inj {l : List Int} (hl : l.Nodup) {i j : Nat} (hi : i < l.length) (hj : j < l.length) (e : l.getD i 0 = l.getD j 0) : i = j := by
  rw [getD_eq hi, getD_eq hj] at e
  exact (List.getElem_inj hl).1 e
theorem perm_dis (n : Nat) : Perm n (disI n) := ⟨disI_len n, fun x hx => mem_disI.1 hx, by
  refine List.nodup_iff_pairwise_ne.2 (List.pairwise_iff_getElem.2 fun a b ha hb hab => ?_)
  simp [disI]
  omega⟩
theorem Perm.cmp (hf : Perm n f) (hg : Perm n g) : Perm n (cmpP f g) := by
  refine ⟨by rw [cmpP_len, hf.len], fun x hx => ?_, ?_⟩
  · obtain ⟨y, hy, rfl⟩ := List.mem_map.1 hx
    have := hf.rng y hy
    exact hg.at (by omega)
  · refine List.nodup_iff_pairwise_ne.2 (List.pairwise_iff_getElem.2 fun a b ha hb hab e => ?_)
    have hla : a < f.length := by rw [cmpP_len] at ha; exact ha
    have hlb : b < f.length := by rw [cmpP_len] at hb; exact hb
    have e : (cmpP f g).getD a 0 = (cmpP f g).getD b 0 := by rw [getD_eq ha, getD_eq hb]; exact e
    rw [cmpP_get hla, cmpP_get hlb] at e
    have h1 := hf.at (i := a) (by rw [← hf.len]; exact hla)
    have h2 := hf.at (i := b) (by rw [← hf.len]; exact hlb)
    have h3 := nodup_inj hg.nd (by rw [hg.len]; omega) (by rw [hg.len]; omega) e
    have h4 := nodup_inj hf.nd hla hlb (by omega)
    omega
theorem cmpP_assoc (hf : Perm n f) (hg : Perm n g) : cmpP (cmpP f g) h = cmpP f (cmpP g h) := by
  refine ext_getD 0 (by rw [cmpP_len, cmpP_len, cmpP_len]) fun i hi => ?_
  rw [cmpP_len, cmpP_len] at hi
  have h1 := hf.at (i := i) (by rw [← hf.len]; exact hi)
  rw [cmpP_get (by rw [cmpP_len]; exact hi), cmpP_get hi, cmpP_get hi, cmpP_get (by rw [hg.len]; omega)]
theorem dis_cmp (hg : Perm n g) : cmpP (disI n) g = g := by
  refine ext_getD 0 (by rw [cmpP_len, disI_len, hg.len]) fun i hi => ?_
  rw [cmpP_len, disI_len] at hi
  rw [cmpP_get (by rw [disI_len]; exact hi), disI_get hi, Int.toNat_natCast]
theorem cmp_dis (hf : Perm n f) : cmpP f (disI n) = f := by
  refine ext_getD 0 (by rw [cmpP_len]) fun i hi => ?_
  rw [cmpP_len] at hi
  have h1 := hf.at (i := i) (by rw [← hf.len]; exact hi)
  rw [cmpP_get hi, disI_get (by omega)]; omega
end
inductive Wd (n : Nat) (G : List (List Int)) : List Int → Prop
  | one : Wd n G (disI n)
  | mul {f g : List Int} (h : Wd n G f) (hg : g ∈ G) : Wd n G (cmpP f g)
section
variable {n : Nat} {G H E : List (List Int)}
theorem Wd.perm (hG : ∀ g ∈ G, Perm n g) {f : List Int} (h : Wd n G f) : Perm n f := by
  induction h with
  | one => exact perm_dis n
  | mul _ hg ih => exact ih.cmp (hG _ hg)
theorem Wd.gen (hG : ∀ g ∈ G, Perm n g) {g : List Int} (hg : g ∈ G) : Wd n G g := by
  have := Wd.mul (Wd.one (n := n) (G := G)) hg
  rw [dis_cmp (hG g hg)] at this; exact this
theorem Wd.mono (hs : ∀ g ∈ G, g ∈ H) {f : List Int} (h : Wd n G f) : Wd n H f := by
  induction h with
  | one => exact .one
  | mul _ hg ih => exact .mul ih (hs _ hg)
theorem Wd.cmp (hG : ∀ g ∈ G, Perm n g) {f g : List Int} (hf : Wd n G f) (hg : Wd n G g) : Wd n G (cmpP f g) := by
  induction hg with
  | one => rw [cmp_dis (hf.perm hG)]; exact hf
  | mul h1 h2 ih => rw [← cmpP_assoc (hf.perm hG) (h1.perm hG)]; exact .mul ih h2
theorem Wd.least {Q : List Int → Prop} (h0 : Q (disI n)) (h1 : ∀ f g, Q f → g ∈ G → Q (cmpP f g)) {f : List Int} (h : Wd n G f) : Q f := by
  induction h with
  | one => exact h0
  | mul _ hg ih => exact h1 _ _ ih hg
theorem Wd.all {U : List (List Int)} (hU : ∀ g ∈ U, Perm n g) (hE : ∀ f ∈ E, Perm n f) (h0 : disI n ∈ E) (h1 : ∀ f ∈ E, ∀ g ∈ U, cmpP f g ∈ E) (hG : ∀ g ∈ G, Wd n U g) {f : List Int} (h : Wd n G f) : f ∈ E := by
  have key : ∀ g, Wd n U g → ∀ f ∈ E, cmpP f g ∈ E := fun g hg => by
    induction hg with
    | one => exact fun f hf => by rw [cmp_dis (hE f hf)]; exact hf
    | mul h2 h3 ih => exact fun f hf => by rw [← cmpP_assoc (hE f hf) (h2.perm hU)]; exact h1 _ (ih f hf) _ h3
  exact Wd.least h0 (fun f g hf hg => key g (hG g hg) f hf) h
end
def arrL (n : Nat) : Nat → List (List Int)
  | 0 => [[]]
  | k + 1 => (arrL n k).flatMap fun l => ((disI n).filter fun x => decide (x ∉ l)).map fun x => x :: l
theorem mem_arr {n : Nat} : ∀ {l : List Int}, l.Nodup → (∀ x ∈ l, 0 ≤ x ∧ x < (n : Int)) → l ∈ arrL n l.length
  | [], _, _ => List.mem_singleton.2 rfl
  | a :: l, hn, hr => by
    rw [List.nodup_cons] at hn
    refine List.mem_flatMap.2 ⟨l, mem_arr hn.2 fun x hx => hr x (List.mem_cons_of_mem _ hx), List.mem_map.2 ⟨a, List.mem_filter.2 ⟨mem_disI.2 (hr a (List.mem_cons_self ..)), decide_eq_true hn.1⟩, rfl⟩⟩
theorem arr_few : ∀ n, n ≤ 5 → (arrL n n).length ≤ 120 := by decide +kernel
theorem perms_few {n : Nat} (hn : n ≤ 5) {E : List (List Int)} (hd : E.Nodup) (hE : ∀ p ∈ E, Perm n p) : E.length ≤ 120 := by
  refine Nat.le_trans (nodup_sub hd (B := arrL n n) fun p hp => ?_) (arr_few n hn)
  have := mem_arr (hE p hp).nd (hE p hp).rng
  rw [(hE p hp).len] at this; exact this
noncomputable def wdB (n : Nat) (G : List (List Int)) (p : List Int) : Bool := @decide (Wd n G p) (Classical.propDecidable _)
theorem wdB_true {n : Nat} {G : List (List Int)} {p : List Int} : wdB n G p = true ↔ Wd n G p := by unfold wdB; exact @decide_eq_true_iff _ (Classical.propDecidable _)
noncomputable def grpL (n : Nat) (G : List (List Int)) : List (List Int) := srt cmpL (firsts ((arrL n n).filter (wdB n G)))
theorem mem_grp {n : Nat} {G : List (List Int)} (hG : ∀ g ∈ G, Perm n g) {p : List Int} : p ∈ grpL n G ↔ Wd n G p := by
  unfold grpL
  rw [srt_mem, mem_firsts, List.mem_filter, wdB_true]
  refine ⟨fun h => h.2, fun h => ⟨?_, h⟩⟩
  have hp := h.perm hG
  have := mem_arr hp.nd hp.rng
  rw [hp.len] at this; exact this
theorem grp_srt {n : Nat} {G : List (List Int)} : Srt cmpL (grpL n G) := srt_srt cmpL_tot (firsts_nodup _)
theorem grp_of {n : Nat} {G E : List (List Int)} (hG : ∀ g ∈ G, Perm n g) (hd : E.Nodup) (hE : ∀ p, p ∈ E ↔ Wd n G p) : srt cmpL E = grpL n G :=
  srt_of cmpL_tot hd grp_srt fun p => by rw [hE, mem_grp hG]
end Go.Proofs.YtjlkhjgnfnfmgaaGreat
end
