/- Plain: the greatest congruence in a partition; how the splitter of congr makes it. -/
import Derived.Test.YteopelpnpdbbcaaCgrLaw
import Derived.Test.YteopelpnpdbbcaaReesLaw
namespace Go.Proofs.Yteopelpnpdbbcaa
open Go Go.AM

section
variable {t : List (List Int)} {p : List Int}
/-- No context tells x from y. -/
structure Syn (t : List (List Int)) (p : List Int) (x y : Nat) : Prop where
  own : p.getD x 0 = p.getD y 0
  one : ∀ u, u < t.length → p.getD (en t u x) 0 = p.getD (en t u y) 0 ∧ p.getD (en t x u) 0 = p.getD (en t y u) 0
  two : ∀ u v, u < t.length → v < t.length → p.getD (en t (en t u x) v) 0 = p.getD (en t (en t u y) v) 0
theorem Syn.refl (x : Nat) : Syn t p x x := ⟨rfl, fun _ _ => ⟨rfl, rfl⟩, fun _ _ _ _ => rfl⟩
theorem Syn.symm {x y : Nat} (h : Syn t p x y) : Syn t p y x := ⟨h.own.symm, fun u hu => ⟨(h.one u hu).1.symm, (h.one u hu).2.symm⟩, fun u v hu hv => (h.two u v hu hv).symm⟩
theorem Syn.trans {x y z : Nat} (h : Syn t p x y) (h' : Syn t p y z) : Syn t p x z :=
  ⟨h.own.trans h'.own, fun u hu => ⟨(h.one u hu).1.trans (h'.one u hu).1, (h.one u hu).2.trans (h'.one u hu).2⟩, fun u v hu hv => (h.two u v hu hv).trans (h'.two u v hu hv)⟩
end

/-! ### The splitter -/
section
variable {α : Type} [DecidableEq α]
def idxD (l : List α) (q : α) : Nat := l.idxOf q
theorem firsts_in {l : List α} {x : α} (h : x ∈ l) : firsts (l ++ [x]) = firsts l := by rw [firsts_snoc, if_pos h]
theorem firsts_out {l : List α} {x : α} (h : x ∉ l) : firsts (l ++ [x]) = firsts l ++ [x] := by rw [firsts_snoc, if_neg h]
theorem canon_in {l : List α} {d : α} {i : Nat} (h : i < l.length) (hm : l.getD i d ∈ l.take i) : (canon l).getD i 0 = (idxD (firsts (l.take i)) (l.getD i d) : Nat) := by rw [canon_at (d := d) h, if_pos hm]; rfl
theorem canon_out {l : List α} {d : α} {i : Nat} (h : i < l.length) (hm : l.getD i d ∉ l.take i) : (canon l).getD i 0 = ((firsts (l.take i)).length : Nat) := by rw [canon_at (d := d) h, if_neg hm]
theorem idxD_in {l m : List α} {q : α} (h : q ∈ l) : idxD (l ++ m) q = idxD l q := by unfold idxD; rw [List.idxOf_append, if_pos h]
theorem idxD_out {l : List α} {q : α} (h : q ∉ l) : idxD (l ++ [q]) q = l.length := by unfold idxD; rw [List.idxOf_append, if_neg h]; simp
end
/-- The pairs of an element's number and its image's. -/
def spP (c im : List Int) : List (Int × Int) := (List.range c.length).map fun x => (c.getD x 0, c.getD (im.getD x 0).toNat 0)
def spC (c im : List Int) : List Int := canon (spP c im)
theorem spP_len (c im : List Int) : (spP c im).length = c.length := by simp [spP]
theorem spP_get {c im : List Int} {x : Nat} (h : x < c.length) : (spP c im).getD x (0, 0) = (c.getD x 0, c.getD (im.getD x 0).toNat 0) := by simp [spP, List.getD, h]
/-- The first k pairs' different ones. -/
def spF (c im : List Int) (k : Nat) : List (Int × Int) := firsts ((spP c im).take k)
def codN (n : Nat) (q : Int × Int) : Nat := (q.1 * n + q.2).toNat
/-- The marks and the labels after k elements. -/
def spM (c im : List Int) (round : Int) (M L : List Int) : Nat → List Int × List Int
  | 0 => (M, L)
  | k + 1 => if (spM c im round M L k).1.getD (codN c.length ((spP c im).getD k (0, 0))) 0 = round then spM c im round M L k
    else ((spM c im round M L k).1.set (codN c.length ((spP c im).getD k (0, 0))) round, (spM c im round M L k).2.set (codN c.length ((spP c im).getD k (0, 0))) ((spF c im k).length : Int))
theorem cod_inj {n : Nat} {q q' : Int × Int} (h : 0 ≤ q.1 ∧ 0 ≤ q.2 ∧ q.2 < (n : Int)) (h' : 0 ≤ q'.1 ∧ 0 ≤ q'.2 ∧ q'.2 < (n : Int)) (e : codN n q = codN n q') : q = q' := by
  unfold codN at e
  have p1 : 0 ≤ q.1 * (n : Int) := Int.mul_nonneg h.1 (by omega)
  have p2 : 0 ≤ q'.1 * (n : Int) := Int.mul_nonneg h'.1 (by omega)
  have e : q.1 * (n : Int) + q.2 = q'.1 * (n : Int) + q'.2 := by omega
  have hn : (n : Int) ≠ 0 := by omega
  have e1 : (q.1 * (n : Int) + q.2) / (n : Int) = q.1 := by
    rw [Int.add_comm, Int.add_mul_ediv_right _ _ hn, Int.ediv_eq_zero_of_lt h.2.1 h.2.2]; omega
  have e2 : (q'.1 * (n : Int) + q'.2) / (n : Int) = q'.1 := by
    rw [Int.add_comm, Int.add_mul_ediv_right _ _ hn, Int.ediv_eq_zero_of_lt h'.2.1 h'.2.2]; omega
  have e3 : q.1 = q'.1 := by rw [← e1, ← e2, e]
  rw [e3] at e
  exact Prod.ext e3 (by omega)
/-- What the marks and labels say. -/
structure SpI (c im : List Int) (round : Int) (M L : List Int) (k : Nat) : Prop where
  lm : M.length = c.length * c.length
  ll : L.length = c.length * c.length
  hi : ∀ x ∈ M, x ≤ round
  lo : ∀ x ∈ M, 0 ≤ x
  lab : ∀ x ∈ L, 0 ≤ x ∧ x ≤ (c.length : Int)
  mar : ∀ q : Int × Int, 0 ≤ q.1 → q.1 < (c.length : Int) → 0 ≤ q.2 → q.2 < (c.length : Int) → (M.getD (codN c.length q) 0 = round ↔ q ∈ (spP c im).take k)
  la : ∀ q : Int × Int, q ∈ (spP c im).take k → L.getD (codN c.length q) 0 = (idxD (spF c im k) q : Nat)
section
variable {c im : List Int} {round : Int} {M L : List Int} {k : Nat}
theorem cod_lt {n : Nat} {q : Int × Int} (h1 : 0 ≤ q.1) (h2 : q.1 < (n : Int)) (h3 : 0 ≤ q.2) (h4 : q.2 < (n : Int)) : codN n q < n * n ∧ (codN n q : Int) = q.1 * n + q.2 := by
  unfold codN
  have p1 : 0 ≤ q.1 * (n : Int) := Int.mul_nonneg h1 (by omega)
  have p2 : q.1 * (n : Int) ≤ ((n : Int) - 1) * n := Int.mul_le_mul_of_nonneg_right (by omega) (by omega)
  rw [Int.sub_mul] at p2
  have : ((n * n : Nat) : Int) = (n : Int) * n := by exact Int.natCast_mul n n
  omega
theorem SpI.start (hm : M.length = c.length * c.length) (hl : L.length = c.length * c.length) (hlt : ∀ x ∈ M, x < round) (hlo : ∀ x ∈ M, 0 ≤ x) (hL : ∀ x ∈ L, 0 ≤ x ∧ x ≤ (c.length : Int)) : SpI c im round M L 0 := by
  refine ⟨hm, hl, fun x hx => by have := hlt x hx; omega, hlo, hL, fun q h1 h2 h3 h4 => ?_, fun q h => by simp at h⟩
  have := hlt _ (getD_mem (d := 0) (i := codN c.length q) (l := M) (by rw [hm]; exact (cod_lt h1 h2 h3 h4).1))
  simp only [List.take_zero, List.not_mem_nil, iff_false]
  omega
theorem spP_in (hc : ∀ x ∈ c, 0 ≤ x ∧ x < (c.length : Int)) (him : ∀ x, x < c.length → 0 ≤ im.getD x 0 ∧ im.getD x 0 < (c.length : Int)) {q : Int × Int} (h : q ∈ spP c im) : (0 ≤ q.1 ∧ q.1 < (c.length : Int)) ∧ 0 ≤ q.2 ∧ q.2 < (c.length : Int) := by
  obtain ⟨x, hx, rfl⟩ := mem_getD (0, 0) h
  rw [spP_len] at hx
  rw [spP_get hx]
  have := him x hx
  exact ⟨hc _ (getD_mem hx), hc _ (getD_mem (by omega))⟩
theorem SpI.next (hc : ∀ x ∈ c, 0 ≤ x ∧ x < (c.length : Int)) (him : ∀ x, x < c.length → 0 ≤ im.getD x 0 ∧ im.getD x 0 < (c.length : Int)) (hr : 0 ≤ round) (h : SpI c im round (spM c im round M L k).1 (spM c im round M L k).2 k) (hk : k < c.length) :
    SpI c im round (spM c im round M L (k + 1)).1 (spM c im round M L (k + 1)).2 (k + 1) ∧ (spM c im round M L (k + 1)).2.getD (codN c.length ((spP c im).getD k (0, 0))) 0 = (spC c im).getD k 0 ∧
      ((spM c im round M L k).1.getD (codN c.length ((spP c im).getD k (0, 0))) 0 = round → spF c im (k + 1) = spF c im k) ∧ ((spM c im round M L k).1.getD (codN c.length ((spP c im).getD k (0, 0))) 0 ≠ round → (spF c im (k + 1)).length = (spF c im k).length + 1) := by
  have hkl : k < (spP c im).length := by rw [spP_len]; exact hk
  have hq := spP_in hc him (getD_mem (d := (0, 0)) hkl)
  have htk := take_get (d := ((0 : Int), (0 : Int))) hkl
  have hcan := canon_in (d := ((0 : Int), (0 : Int))) hkl
  have hcan' := canon_out (d := ((0 : Int), (0 : Int))) hkl
  have hmk := h.mar _ hq.1.1 hq.1.2 hq.2.1 hq.2.2
  have hcod := cod_lt hq.1.1 hq.1.2 hq.2.1 hq.2.2
  have hF : (spP c im).getD k (0, 0) ∈ (spP c im).take k → spF c im (k + 1) = spF c im k := fun h => by
    show firsts ((spP c im).take (k + 1)) = _
    rw [htk, firsts_in h]; rfl
  have hF' : (spP c im).getD k (0, 0) ∉ (spP c im).take k → spF c im (k + 1) = spF c im k ++ [(spP c im).getD k (0, 0)] := fun h => by
    show firsts ((spP c im).take (k + 1)) = _
    rw [htk, firsts_out h]; rfl
  have hFl : (spF c im k).length ≤ c.length := by
    have := firsts_le ((spP c im).take k)
    rw [List.length_take, spP_len] at this
    unfold spF; omega
  have hsub : ∀ q : Int × Int, q ∈ (spP c im).take k → (0 ≤ q.1 ∧ q.1 < (c.length : Int)) ∧ 0 ≤ q.2 ∧ q.2 < (c.length : Int) := fun q h => spP_in hc him (List.mem_of_mem_take h)
  revert hcan hcan' hmk hcod hF hF'
  generalize hqk : (spP c im).getD k (0, 0) = qk at *
  intro hcan hcan' hmk hcod hF hF'
  by_cases e : (spM c im round M L k).1.getD (codN c.length qk) 0 = round
  · have hin := hmk.1 e
    have e1 : spM c im round M L (k + 1) = spM c im round M L k := by
      show (if _ then _ else _) = _
      rw [hqk, if_pos e]
    have hF := hF hin
    have hcan := hcan hin
    rw [e1]
    have hm : ∀ q, q ∈ (spP c im).take (k + 1) ↔ q ∈ (spP c im).take k := fun q => by
      rw [htk, List.mem_append, List.mem_singleton]
      exact ⟨fun h => h.elim id fun h => h ▸ hin, .inl⟩
    refine ⟨⟨h.lm, h.ll, h.hi, h.lo, h.lab, fun q h1 h2 h3 h4 => (h.mar q h1 h2 h3 h4).trans (hm q).symm, fun q hq => ?_⟩, ?_, fun _ => hF, fun h => absurd e h⟩
    · rw [hF]; exact h.la q ((hm q).1 hq)
    · unfold spC; rw [h.la _ hin]; exact hcan.symm
  · have hin : ¬ qk ∈ (spP c im).take k := fun h => e (hmk.2 h)
    have e1 : spM c im round M L (k + 1) = ((spM c im round M L k).1.set (codN c.length qk) round, (spM c im round M L k).2.set (codN c.length qk) ((spF c im k).length : Int)) := by
      show (if _ then _ else _) = _
      rw [hqk, if_neg e]
    have hF := hF' hin
    have hcan := hcan' hin
    rw [e1]
    have hm : ∀ q, q ∈ (spP c im).take (k + 1) ↔ q ∈ (spP c im).take k ∨ q = qk := fun q => by
      rw [htk, List.mem_append, List.mem_singleton]
    have hlm := h.lm
    have hll := h.ll
    have hset : ∀ (l : List Int) (v : Int), l.length = c.length * c.length → ∀ q : Int × Int, 0 ≤ q.1 → q.1 < (c.length : Int) → 0 ≤ q.2 → q.2 < (c.length : Int) → (l.set (codN c.length qk) v).getD (codN c.length q) 0 = if q = qk then v else l.getD (codN c.length q) 0 := fun l v hl q h1 h2 h3 h4 => by
      by_cases e2 : q = qk
      · subst e2; rw [getD_set_eq (by rw [hl]; exact hcod.1), if_pos rfl]
      · rw [getD_set_ne (fun e3 => e2 (cod_inj ⟨h1, h3, h4⟩ ⟨hq.1.1, hq.2.1, hq.2.2⟩ e3.symm)), if_neg e2]
    refine ⟨⟨by rw [List.length_set]; exact hlm, by rw [List.length_set]; exact hll, fun x hx => ?_, fun x hx => ?_, fun x hx => ?_, fun q h1 h2 h3 h4 => ?_, fun q hqm => ?_⟩, ?_, fun h => absurd h e, fun _ => by rw [hF]; simp⟩
    · rcases List.mem_or_eq_of_mem_set hx with hx | rfl
      · exact h.hi x hx
      · omega
    · rcases List.mem_or_eq_of_mem_set hx with hx | rfl
      · exact h.lo x hx
      · omega
    · rcases List.mem_or_eq_of_mem_set hx with hx | rfl
      · exact h.lab x hx
      · omega
    · rw [hset _ _ hlm q h1 h2 h3 h4, hm]
      by_cases e2 : q = qk
      · rw [if_pos e2]; exact ⟨fun _ => .inr e2, fun _ => rfl⟩
      · rw [if_neg e2, h.mar q h1 h2 h3 h4]; exact ⟨.inl, fun h => h.elim id fun h => absurd h e2⟩
    · have hr : (0 ≤ q.1 ∧ q.1 < (c.length : Int)) ∧ 0 ≤ q.2 ∧ q.2 < (c.length : Int) := ((hm q).1 hqm).elim (hsub q) fun h => h ▸ hq
      rw [hset _ _ hll q hr.1.1 hr.1.2 hr.2.1 hr.2.2, hF]
      by_cases e2 : q = qk
      · subst e2
        rw [if_pos rfl, idxD_out (l := spF c im k) (fun h => hin (mem_firsts.1 h))]
      · rw [if_neg e2]
        have hm2 := ((hm q).1 hqm).elim id fun h => absurd h e2
        rw [h.la q hm2, idxD_in (l := spF c im k) (mem_firsts.2 hm2)]
    · rw [hset _ _ hll qk hq.1.1 hq.1.2 hq.2.1 hq.2.2, if_pos rfl]
      unfold spC; exact hcan.symm
end
/-! ### Counting -/
end Go.Proofs.Yteopelpnpdbbcaa
