import Derived.Test.YtkbhgnbnnbengaaCgrLaw
import Derived.Test.YtkbhgnbnnbengaaReesLaw
import Derived.Test.YtkbhgnbnnbengaaRefRees
import Derived.Test.YtkbhgnbnnbengaaGroup
section
/- Plain: the greatest congruence in a partition; how the splitter of congr makes it. -/
namespace Go.Proofs.Ytkbhgnbnnbengaa
open Go Go.AM
section
variable {t : List (List Int)} {p : List Int}
structure Syn (t : List (List Int)) (p : List Int) (x y : Nat) : Prop where
  own : p.getD x 0 = p.getD y 0
  one : ∀ u, u < t.length → p.getD (en t u x) 0 = p.getD (en t u y) 0 ∧ p.getD (en t x u) 0 = p.getD (en t y u) 0
  two : ∀ u v, u < t.length → v < t.length → p.getD (en t (en t u x) v) 0 = p.getD (en t (en t u y) v) 0
theorem Syn.refl (x : Nat) : Syn t p x x := ⟨rfl, fun _ _ => ⟨rfl, rfl⟩, fun _ _ _ _ => rfl⟩
theorem Syn.symm {x y : Nat} (h : Syn t p x y) : Syn t p y x := ⟨h.own.symm, fun u hu => ⟨(h.one u hu).1.symm, (h.one u hu).2.symm⟩, fun u v hu hv => (h.two u v hu hv).symm⟩
theorem Syn.trans {x y z : Nat} (h : Syn t p x y) (h' : Syn t p y z) : Syn t p x z :=
  ⟨h.own.trans h'.own, fun u hu => ⟨(h.one u hu).1.trans (h'.one u hu).1, (h.one u hu).2.trans (h'.one u hu).2⟩, fun u v hu hv => (h.two u v hu hv).trans (h'.two u v hu hv)⟩
noncomputable def synB (t : List (List Int)) (p : List Int) (x y : Nat) : Bool := @decide (Syn t p x y) (Classical.propDecidable _)
theorem synB_true {x y : Nat} : synB t p x y = true ↔ Syn t p x y := by unfold synB; exact @decide_eq_true_iff _ (Classical.propDecidable _)
theorem syn_pre (t : List (List Int)) (p : List Int) : Pre t.length (synB t p) :=
  pre_of (fun x _ => synB_true.2 (.refl x)) fun _ _ _ _ _ _ h h' => synB_true.2 ((synB_true.1 h).trans (synB_true.1 h'))
noncomputable def synP (t : List (List Int)) (p : List Int) : List Int := clsL t.length (synB t p)
theorem synP_len : (synP t p).length = t.length := clsL_len _ _
theorem synP_canon : canon (synP t p) = synP t p := canon_idem _
theorem synP_iff {a b : Nat} (ha : a < t.length) (hb : b < t.length) : (synP t p).getD a 0 = (synP t p).getD b 0 ↔ Syn t p a b := by
  unfold synP
  rw [clsL_iff (syn_pre t p) ha hb, synB_true, synB_true]
  exact ⟨fun h => h.1, fun h => ⟨h, h.symm⟩⟩
theorem syn_cg (h : Semi t) {x y s : Nat} (hx : x < t.length) (hy : y < t.length) (hs : s < t.length) (e : Syn t p x y) : Syn t p (en t s x) (en t s y) ∧ Syn t p (en t x s) (en t y s) := by
  have hS := h.toSh
  have a3 := fun {x y z : Nat} => assoc3 h.assoc (x := x) (y := y) (z := z)
  refine ⟨⟨(e.one s hs).1, fun u hu => ⟨?_, ?_⟩, fun u v hu hv => ?_⟩, ⟨(e.one s hs).2, fun u hu => ⟨?_, ?_⟩, fun u v hu hv => ?_⟩⟩
  · rw [← a3 hu hs hx, ← a3 hu hs hy]; exact (e.one _ (hS.ent hu hs).2).1
  · exact e.two s u hs hu
  · rw [← a3 hu hs hx, ← a3 hu hs hy]; exact e.two _ v (hS.ent hu hs).2 hv
  · rw [← a3 hu hx hs, ← a3 hu hy hs]; exact e.two u s hu hs
  · rw [a3 hx hs hu, a3 hy hs hu]; exact (e.one _ (hS.ent hs hu).2).2
  · rw [← a3 hu hx hs, ← a3 hu hy hs, a3 (hS.ent hu hx).2 hs hv, a3 (hS.ent hu hy).2 hs hv]; exact e.two u _ hu (hS.ent hs hv).2
theorem synP_cg (h : Semi t) : Cg t (synP t p) 0 := fun x y s hx hy hs e => by
  have hS := h.toSh
  have := syn_cg (p := p) h hx hy hs ((synP_iff hx hy).1 e)
  exact ⟨fun _ => (synP_iff (hS.ent hs hx).2 (hS.ent hs hy).2).2 this.1, fun _ => (synP_iff (hS.ent hx hs).2 (hS.ent hy hs).2).2 this.2⟩
theorem synP_valid (hs : Sh t) : validP (synP t p) := ⟨by rw [synP_len]; have := hs.most; omega, synP_canon⟩
theorem synP_is (h : Semi t) : IsCg t (synP t p) 0 := ⟨h, synP_len, synP_valid h.toSh, ⟨by omega, by omega⟩, synP_cg h⟩
theorem syn_great (hs : Sh t) {q : List Int} (hq : Cg t q 0) (hr : ∀ x y, x < t.length → y < t.length → q.getD x 0 = q.getD y 0 → p.getD x 0 = p.getD y 0) {x y : Nat} (hx : x < t.length) (hy : y < t.length) (e : q.getD x 0 = q.getD y 0) : Syn t p x y := by
  have l := fun {x y s : Nat} (hx : x < t.length) (hy : y < t.length) (hs : s < t.length) e => (hq x y s hx hy hs e).1 (by decide)
  have r := fun {x y s : Nat} (hx : x < t.length) (hy : y < t.length) (hs : s < t.length) e => (hq x y s hx hy hs e).2 (by decide)
  exact ⟨hr x y hx hy e, fun u hu => ⟨hr _ _ (hs.ent hu hx).2 (hs.ent hu hy).2 (l hx hy hu e), hr _ _ (hs.ent hx hu).2 (hs.ent hy hu).2 (r hx hy hu e)⟩,
    fun u v hu hv => hr _ _ (hs.ent (hs.ent hu hx).2 hv).2 (hs.ent (hs.ent hu hy).2 hv).2 (r (hs.ent hu hx).2 (hs.ent hu hy).2 hv (l hx hy hu e))⟩
theorem synP_of (h : Semi t) {c : List Int} (hl : c.length = t.length) (h1 : ∀ x y, x < t.length → y < t.length → c.getD x 0 = c.getD y 0 → p.getD x 0 = p.getD y 0) (h2 : ∀ x y, x < t.length → y < t.length → Syn t p x y → c.getD x 0 = c.getD y 0) (h3 : Cg t c 0) : canon c = synP t p := by
  refine ker_clsL (syn_pre t p) hl fun a b ha hb => ?_
  rw [synB_true, synB_true]
  exact ⟨fun e => ⟨syn_great h.toSh h3 h1 ha hb e, (syn_great h.toSh h3 h1 ha hb e).symm⟩, fun e => h2 a b ha hb e.1⟩
end
/-! ### The splitter -/
section
variable {α : Type} [DecidableEq α]
def idxD (l : List α) (q : α) : Nat := l.idxOf q
theorem firsts_in {l : List α} {x : α} (h : x ∈ l) : firsts (l ++ [x]) = firsts l := by rw [firsts_snoc, if_pos h]
theorem firsts_out {l : List α} {x : α} (h : x ∉ l) : firsts (l ++ [x]) = firsts l ++ [x] := by rw [firsts_snoc, if_neg h]
theorem canon_in {l : List α} {d : α} {i : Nat} (h : i < l.length) (hm : l.getD i d ∈ l.take i) : (canon l).getD i 0 = (idxD (firsts (l.take i)) (l.getD i d) : Nat) := by rw [canon_at (d := d) h, if_pos hm]; rfl
theorem canon_out {l : List α} {d : α} {i : Nat} (h : i < l.length) (hm : l.getD i d ∉ l.take i) : (canon l).getD i 0 = ((firsts (l.take i)).length : Nat) := by rw [canon_at (d := d) h, if_neg hm]
theorem idxD_in {l m : List α} {q : α} (h : q ∈ l) : idxD (l ++ m) q = idxD l q := by unfold idxD; rw [List.idxOf_append, if_pos h]
theorem idxD_out {l : List α} {q : α} (h : q ∉ l) : idxD (l ++ [q]) q = l.length := by unfold idxD; rw [List.idxOf_append, if_neg h]; simp
end
def spP (c im : List Int) : List (Int × Int) := (List.range c.length).map fun x => (c.getD x 0, c.getD (im.getD x 0).toNat 0)
def spC (c im : List Int) : List Int := canon (spP c im)
theorem spP_len (c im : List Int) : (spP c im).length = c.length := by simp [spP]
theorem spC_len (c im : List Int) : (spC c im).length = c.length := by unfold spC; rw [canon_length, spP_len]
theorem spP_get {c im : List Int} {x : Nat} (h : x < c.length) : (spP c im).getD x (0, 0) = (c.getD x 0, c.getD (im.getD x 0).toNat 0) := by simp [spP, List.getD, h]
theorem spC_iff {c im : List Int} {x y : Nat} (hx : x < c.length) (hy : y < c.length) : (spC c im).getD x 0 = (spC c im).getD y 0 ↔ c.getD x 0 = c.getD y 0 ∧ c.getD (im.getD x 0).toNat 0 = c.getD (im.getD y 0).toNat 0 := by
  unfold spC
  rw [canon_eq_iff (d := (0, 0)) (by rw [spP_len]; exact hx) (by rw [spP_len]; exact hy), spP_get hx, spP_get hy, Prod.mk.injEq]
def spF (c im : List Int) (k : Nat) : List (Int × Int) := firsts ((spP c im).take k)
def codN (n : Nat) (q : Int × Int) : Nat := (q.1 * n + q.2).toNat
def spM (c im : List Int) (round : Int) (M L : List Int) : Nat → List Int × List Int
  | 0 => (M, L)
  | k + 1 => if (spM c im round M L k).1.getD (codN c.length ((spP c im).getD k (0, 0))) 0 = round then spM c im round M L k
    else ((spM c im round M L k).1.set (codN c.length ((spP c im).getD k (0, 0))) round, (spM c im round M L k).2.set (codN c.length ((spP c im).getD k (0, 0))) ((spF c im k).length : Int))
theorem cod_inj {n : Nat} {q q' : Int × Int} (h : 0 ≤ q.1 ∧ 0 ≤ q.2 ∧ q.2 < (n : Int)) (h' : 0 ≤ q'.1 ∧ 0 ≤ q'.2 ∧ q'.2 < (n : Int)) (e : codN n q = codN n q') : q = q' := by
  unfold codN at e
  have p1 : 0 ≤ q.1 * (n : Int) := Int.mul_nonneg h.1 (by omega)
  have p2 : 0 ≤ q'.1 * (n : Int) := Int.mul_nonneg h'.1 (by omega)
  have e : q.1 * (n : Int) + q.2 = q'.1 * (n : Int) + q'.2 := by omega
  have hn : (n : Int) ≠ 0 := by omega
  have e1 : (q.1 * (n : Int) + q.2) / (n : Int) = q.1 := by
    rw [Int.add_comm, Int.add_mul_ediv_right _ _ hn, Int.ediv_eq_zero_of_lt h.2.1 h.2.2]; omega
  have e2 : (q'.1 * (n : Int) + q'.2) / (n : Int) = q'.1 := by
    rw [Int.add_comm, Int.add_mul_ediv_right _ _ hn, Int.ediv_eq_zero_of_lt h'.2.1 h'.2.2]; omega
  have e3 : q.1 = q'.1 := by rw [← e1, ← e2, e]
  rw [e3] at e
  exact Prod.ext e3 (by omega)
structure SpI (c im : List Int) (round : Int) (M L : List Int) (k : Nat) : Prop where
  lm : M.length = c.length * c.length
  ll : L.length = c.length * c.length
  hi : ∀ x ∈ M, x ≤ round
  lo : ∀ x ∈ M, 0 ≤ x
  lab : ∀ x ∈ L, 0 ≤ x ∧ x ≤ (c.length : Int)
  mar : ∀ q : Int × Int, 0 ≤ q.1 → q.1 < (c.length : Int) → 0 ≤ q.2 → q.2 < (c.length : Int) → (M.getD (codN c.length q) 0 = round ↔ q ∈ (spP c im).take k)
  la : ∀ q : Int × Int, q ∈ (spP c im).take k → L.getD (codN c.length q) 0 = (idxD (spF c im k) q : Nat)
section
variable {c im : List Int} {round : Int} {M L : List Int} {k : Nat}
theorem cod_lt {n : Nat} {q : Int × Int} (h1 : 0 ≤ q.1) (h2 : q.1 < (n : Int)) (h3 : 0 ≤ q.2) (h4 : q.2 < (n : Int)) : codN n q < n * n ∧ (codN n q : Int) = q.1 * n + q.2 := by
  unfold codN
  have p1 : 0 ≤ q.1 * (n : Int) := Int.mul_nonneg h1 (by omega)
  have p2 : q.1 * (n : Int) ≤ ((n : Int) - 1) * n := Int.mul_le_mul_of_nonneg_right (by omega) (by omega)
  rw [Int.sub_mul] at p2
  have : ((n * n : Nat) : Int) = (n : Int) * n := by exact Int.natCast_mul n n
  omega
theorem SpI.start (hm : M.length = c.length * c.length) (hl : L.length = c.length * c.length) (hlt : ∀ x ∈ M, x < round) (hlo : ∀ x ∈ M, 0 ≤ x) (hL : ∀ x ∈ L, 0 ≤ x ∧ x ≤ (c.length : Int)) : SpI c im round M L 0 := by
  refine ⟨hm, hl, fun x hx => by have := hlt x hx; omega, hlo, hL, fun q h1 h2 h3 h4 => ?_, fun q h => by simp at h⟩
  have := hlt _ (getD_mem (d := 0) (i := codN c.length q) (l := M) (by rw [hm]; exact (cod_lt h1 h2 h3 h4).1))
  simp only [List.take_zero, List.not_mem_nil, iff_false]
  omega
theorem spP_in (hc : ∀ x ∈ c, 0 ≤ x ∧ x < (c.length : Int)) (him : ∀ x, x < c.length → 0 ≤ im.getD x 0 ∧ im.getD x 0 < (c.length : Int)) {q : Int × Int} (h : q ∈ spP c im) : (0 ≤ q.1 ∧ q.1 < (c.length : Int)) ∧ 0 ≤ q.2 ∧ q.2 < (c.length : Int) := by
  obtain ⟨x, hx, rfl⟩ := mem_getD (0, 0) h
  rw [spP_len] at hx
  rw [spP_get hx]
  have := him x hx
  exact ⟨hc _ (getD_mem hx), hc _ (getD_mem (by omega))⟩
theorem SpI.next (hc : ∀ x ∈ c, 0 ≤ x ∧ x < (c.length : Int)) (him : ∀ x, x < c.length → 0 ≤ im.getD x 0 ∧ im.getD x 0 < (c.length : Int)) (hr : 0 ≤ round) (h : SpI c im round (spM c im round M L k).1 (spM c im round M L k).2 k) (hk : k < c.length) :
    SpI c im round (spM c im round M L (k + 1)).1 (spM c im round M L (k + 1)).2 (k + 1) ∧ (spM c im round M L (k + 1)).2.getD (codN c.length ((spP c im).getD k (0, 0))) 0 = (spC c im).getD k 0 ∧
      ((spM c im round M L k).1.getD (codN c.length ((spP c im).getD k (0, 0))) 0 = round → spF c im (k + 1) = spF c im k) ∧ ((spM c im round M L k).1.getD (codN c.length ((spP c im).getD k (0, 0))) 0 ≠ round → (spF c im (k + 1)).length = (spF c im k).length + 1) := by
  have hkl : k < (spP c im).length := by rw [spP_len]; exact hk
  have hq := spP_in hc him (getD_mem (d := (0, 0)) hkl)
  have htk := take_get (d := ((0 : Int), (0 : Int))) hkl
  have hcan := canon_in (d := ((0 : Int), (0 : Int))) hkl
  have hcan' := canon_out (d := ((0 : Int), (0 : Int))) hkl
  have hmk := h.mar _ hq.1.1 hq.1.2 hq.2.1 hq.2.2
  have hcod := cod_lt hq.1.1 hq.1.2 hq.2.1 hq.2.2
  have hF : (spP c im).getD k (0, 0) ∈ (spP c im).take k → spF c im (k + 1) = spF c im k := fun h => by
    show firsts ((spP c im).take (k + 1)) = _
    rw [htk, firsts_in h]; rfl
  have hF' : (spP c im).getD k (0, 0) ∉ (spP c im).take k → spF c im (k + 1) = spF c im k ++ [(spP c im).getD k (0, 0)] := fun h => by
    show firsts ((spP c im).take (k + 1)) = _
    rw [htk, firsts_out h]; rfl
  have hFl : (spF c im k).length ≤ c.length := by
    have := firsts_le ((spP c im).take k)
    rw [List.length_take, spP_len] at this
    unfold spF; omega
  have hsub : ∀ q : Int × Int, q ∈ (spP c im).take k → (0 ≤ q.1 ∧ q.1 < (c.length : Int)) ∧ 0 ≤ q.2 ∧ q.2 < (c.length : Int) := fun q h => spP_in hc him (List.mem_of_mem_take h)
  revert hcan hcan' hmk hcod hF hF'
  generalize hqk : (spP c im).getD k (0, 0) = qk at *
  intro hcan hcan' hmk hcod hF hF'
  by_cases e : (spM c im round M L k).1.getD (codN c.length qk) 0 = round
  · have hin := hmk.1 e
    have e1 : spM c im round M L (k + 1) = spM c im round M L k := by
      show (if _ then _ else _) = _
      rw [hqk, if_pos e]
    have hF := hF hin
    have hcan := hcan hin
    rw [e1]
    have hm : ∀ q, q ∈ (spP c im).take (k + 1) ↔ q ∈ (spP c im).take k := fun q => by
      rw [htk, List.mem_append, List.mem_singleton]
      exact ⟨fun h => h.elim id fun h => h ▸ hin, .inl⟩
    refine ⟨⟨h.lm, h.ll, h.hi, h.lo, h.lab, fun q h1 h2 h3 h4 => (h.mar q h1 h2 h3 h4).trans (hm q).symm, fun q hq => ?_⟩, ?_, fun _ => hF, fun h => absurd e h⟩
    · rw [hF]; exact h.la q ((hm q).1 hq)
    · unfold spC; rw [h.la _ hin]; exact hcan.symm
  · have hin : ¬ qk ∈ (spP c im).take k := fun h => e (hmk.2 h)
    have e1 : spM c im round M L (k + 1) = ((spM c im round M L k).1.set (codN c.length qk) round, (spM c im round M L k).2.set (codN c.length qk) ((spF c im k).length : Int)) := by
      show (if _ then _ else _) = _
      rw [hqk, if_neg e]
    have hF := hF' hin
    have hcan := hcan' hin
    rw [e1]
    have hm : ∀ q, q ∈ (spP c im).take (k + 1) ↔ q ∈ (spP c im).take k ∨ q = qk := fun q => by
      rw [htk, List.mem_append, List.mem_singleton]
    have hlm := h.lm
    have hll := h.ll
    have hset : ∀ (l : List Int) (v : Int), l.length = c.length * c.length → ∀ q : Int × Int, 0 ≤ q.1 → q.1 < (c.length : Int) → 0 ≤ q.2 → q.2 < (c.length : Int) → (l.set (codN c.length qk) v).getD (codN c.length q) 0 = if q = qk then v else l.getD (codN c.length q) 0 := fun l v hl q h1 h2 h3 h4 => by
      by_cases e2 : q = qk
      · subst e2; rw [getD_set_eq (by rw [hl]; exact hcod.1), if_pos rfl]
      · rw [getD_set_ne (fun e3 => e2 (cod_inj ⟨h1, h3, h4⟩ ⟨hq.1.1, hq.2.1, hq.2.2⟩ e3.symm)), if_neg e2]
    refine ⟨⟨by rw [List.length_set]; exact hlm, by rw [List.length_set]; exact hll, fun x hx => ?_, fun x hx => ?_, fun x hx => ?_, fun q h1 h2 h3 h4 => ?_, fun q hqm => ?_⟩, ?_, fun h => absurd h e, fun _ => by rw [hF]; simp⟩
    · rcases List.mem_or_eq_of_mem_set hx with hx | rfl
      · exact h.hi x hx
      · omega
    · rcases List.mem_or_eq_of_mem_set hx with hx | rfl
      · exact h.lo x hx
      · omega
    · rcases List.mem_or_eq_of_mem_set hx with hx | rfl
      · exact h.lab x hx
      · omega
    · rw [hset _ _ hlm q h1 h2 h3 h4, hm]
      by_cases e2 : q = qk
      · rw [if_pos e2]; exact ⟨fun _ => .inr e2, fun _ => rfl⟩
      · rw [if_neg e2, h.mar q h1 h2 h3 h4]; exact ⟨.inl, fun h => h.elim id fun h => absurd h e2⟩
    · have hr : (0 ≤ q.1 ∧ q.1 < (c.length : Int)) ∧ 0 ≤ q.2 ∧ q.2 < (c.length : Int) := ((hm q).1 hqm).elim (hsub q) fun h => h ▸ hq
      rw [hset _ _ hll q hr.1.1 hr.1.2 hr.2.1 hr.2.2, hF]
      by_cases e2 : q = qk
      · subst e2
        rw [if_pos rfl, idxD_out (l := spF c im k) (fun h => hin (mem_firsts.1 h))]
      · rw [if_neg e2]
        have hm2 := ((hm q).1 hqm).elim id fun h => absurd h e2
        rw [h.la q hm2, idxD_in (l := spF c im k) (mem_firsts.2 hm2)]
    · rw [hset _ _ hll qk hq.1.1 hq.1.2 hq.2.1 hq.2.2, if_pos rfl]
      unfold spC; exact hcan.symm
theorem SpI.upto (hc : ∀ x ∈ c, 0 ≤ x ∧ x < (c.length : Int)) (him : ∀ x, x < c.length → 0 ≤ im.getD x 0 ∧ im.getD x 0 < (c.length : Int)) (hr : 0 ≤ round) (h : SpI c im round M L 0) : ∀ k, k ≤ c.length → SpI c im round (spM c im round M L k).1 (spM c im round M L k).2 k
  | 0, _ => h
  | k + 1, hk => (SpI.next hc him hr (SpI.upto hc him hr h k (by omega)) (by omega)).1
end
/-! ### Counting -/
theorem canon_idemG {α : Type} [DecidableEq α] (d : α) (l : List α) : canon (canon l) = canon l :=
  canon_congr (d := 0) (e := d) (canon_length l) fun i j hi hj => by
    rw [canon_length] at hi hj
    exact canon_eq_iff hi hj
theorem classN_canonG {α : Type} [DecidableEq α] (d : α) (l : List α) : classN (canon l) = (firsts l).length := by
  have hv := valid_range (canon_idemG d l)
  have h1 : classN (canon l) ≤ (firsts l).length := by
    rcases Nat.eq_zero_or_pos (classN (canon l)) with e | e
    · omega
    · have hm := (hv ((classN (canon l) : Int) - 1)).1 ⟨by omega, by omega⟩
      obtain ⟨i, hi, hx⟩ := mem_getD 0 hm
      rw [canon_length] at hi
      have := canon_lt hi
      omega
  have h2 : (firsts l).length ≤ classN (canon l) := by
    rcases Nat.eq_zero_or_pos (firsts l).length with e | e
    · omega
    · have hm : (firsts l)[(firsts l).length - 1] ∈ l := mem_firsts.1 (List.getElem_mem _)
      have hx : (((firsts l).length - 1 : Nat) : Int) ∈ canon l := by
        unfold canon
        refine List.mem_map.2 ⟨_, hm, ?_⟩
        rw [(firsts_nodup l).idxOf_getElem]
      have := (hv _).2 hx
      omega
  omega
theorem spF_all (c im : List Int) : (spF c im c.length).length = classN (spC c im) := by
  unfold spF spC
  rw [List.take_of_length_le (by rw [spP_len]; exact Nat.le_refl _), classN_canonG (0, 0)]
theorem spC_canon (c im : List Int) : canon (spC c im) = spC c im := canon_idemG (0, 0) _
theorem same_count {c d : List Int} (hc : canon c = c) (hd : canon d = d) (hl : c.length = d.length) (hr : ∀ x y, x < c.length → y < c.length → d.getD x 0 = d.getD y 0 → c.getD x 0 = c.getD y 0) : classN c ≤ classN d ∧ (classN c = classN d → d = c) := by
  have hle : ∀ i, i ≤ c.length → (firsts (c.take i)).length ≤ (firsts (d.take i)).length ∧ ((firsts (c.take i)).length = (firsts (d.take i)).length → ∀ x y, x < i → y < i → c.getD x 0 = c.getD y 0 → d.getD x 0 = d.getD y 0) := by
    intro i
    induction i with
    | zero => intro _; exact ⟨by simp [firsts], fun _ x y hx => absurd hx (Nat.not_lt_zero _)⟩
    | succ i ih =>
      intro hi
      have ih := ih (by omega)
      have tc := take_get (d := (0 : Int)) (l := c) (i := i) (by omega)
      have td := take_get (d := (0 : Int)) (l := d) (i := i) (by omega)
      have memt : ∀ {l : List Int} {v : Int}, i < l.length → (v ∈ l.take i ↔ ∃ j, j < i ∧ l.getD j 0 = v) := fun {l v} hil => by
        constructor
        · intro h
          obtain ⟨j, hj, he⟩ := mem_getD 0 h
          rw [List.length_take] at hj
          have hji : j < i := by omega
          exact ⟨j, hji, by rw [← he]; simp [List.getD, hji]⟩
        · rintro ⟨j, hj, rfl⟩
          have : (l.take i).getD j 0 = l.getD j 0 := by simp [List.getD, hj]
          rw [← this]; exact getD_mem (by rw [List.length_take]; omega)
      rw [tc, td, firsts_snoc, firsts_snoc]
      by_cases h1 : d.getD i 0 ∈ d.take i
      · obtain ⟨j, hj, he⟩ := (memt (by omega)).1 h1
        have h2 : c.getD i 0 ∈ c.take i := (memt (by omega)).2 ⟨j, hj, hr j i (by omega) (by omega) he⟩
        rw [if_pos h1, if_pos h2]
        refine ⟨ih.1, fun e x y hx hy hxy => ?_⟩
        have hcj := hr j i (by omega) (by omega) he
        have step : ∀ z, z < i → c.getD z 0 = c.getD i 0 → d.getD z 0 = d.getD i 0 := fun z hz hzi => (ih.2 e z j hz hj (hzi.trans hcj.symm)).trans he
        rcases Nat.lt_or_ge x i with hxi | hxi <;> rcases Nat.lt_or_ge y i with hyi | hyi
        · exact ih.2 e x y hxi hyi hxy
        · obtain rfl : y = i := by omega
          exact step x hxi hxy
        · obtain rfl : x = i := by omega
          exact (step y hyi hxy.symm).symm
        · obtain rfl : x = i := by omega
          obtain rfl : y = x := by omega
          rfl
      · rw [if_neg h1]
        by_cases h2 : c.getD i 0 ∈ c.take i
        · rw [if_pos h2, List.length_append, List.length_singleton]
          exact ⟨by omega, fun e => by omega⟩
        · rw [if_neg h2]
          simp only [List.length_append, List.length_singleton]
          refine ⟨by omega, fun e x y hx hy hxy => ?_⟩
          have ih2 := ih.2 (by omega)
          have no : ∀ z, z < i → c.getD z 0 ≠ c.getD i 0 := fun z hz hzi => h2 ((memt (by omega)).2 ⟨z, hz, hzi⟩)
          rcases Nat.lt_or_ge x i with hxi | hxi <;> rcases Nat.lt_or_ge y i with hyi | hyi
          · exact ih2 x y hxi hyi hxy
          · obtain rfl : y = i := by omega
            exact absurd hxy (no x hxi)
          · obtain rfl : x = i := by omega
            exact absurd hxy.symm (no y hyi)
          · obtain rfl : x = i := by omega
            obtain rfl : y = x := by omega
            rfl
  have := hle c.length (Nat.le_refl _)
  rw [List.take_length, hl, List.take_length] at this
  refine ⟨this.1, fun e => ?_⟩
  rw [← hc, ← hd]
  exact (canon_congr (d := 0) (e := 0) hl fun i j hi hj => ⟨fun h => this.2 e i j (by omega) (by omega) h, fun h => hr i j hi hj h⟩).symm
end Go.Proofs.Ytkbhgnbnnbengaa
end
section
/- Package subdirect: the meets of a list's ends, and the list without what is superfluous: contracts. -/
namespace Go.Proofs.Ytkbhgnbnnbengaa
open Go Go.AM
set_option maxRecDepth 100000
theorem ptriv_fn (n : Nat) (hn : n ≤ 4096) : QF 22 [.int .i64 n] (.new (.ints .i64 (List.replicate n 0))) := mkQ Try.func22 (by decide +kernel) rfl (Nat.le_of_ble_eq_true rfl) fun _ => by
  refine And.intro (fun h1 => ?_) (fun _ => ?_)
  · have h1 : (n : Int) < 0 := h1
    omega
  refine And.intro (fun h1 => ?_) (fun _ => ?_)
  · have h1 : 4096 < (n : Int) := h1
    omega
  refine And.intro (by omega) ?_
  refine And.intro (by omega) ?_
  refine And.intro (And.intro (by simp [RO.len]) ?_) trivial
  show RO.ints .i64 (List.replicate (n : Int).toNat 0) = RO.ints .i64 (List.replicate n 0)
  rw [Int.toNat_natCast]
def Pt (n : Nat) (p : List Int) : Prop := p.length = n ∧ validP p
def mtP (p q : List Int) : List Int := canon (p.zip q)
def mtL (n : Nat) (l : List (List Int)) : List Int := l.foldr mtP (List.replicate n 0)
theorem Pt.triv {n : Nat} (hn : n ≤ 4096) : Pt n (List.replicate n 0) :=
  ⟨List.length_replicate, by rw [List.length_replicate]; omega, canon_fix.2 fun i _ => by
    have : (List.replicate n (0 : Int)).getD i 0 = 0 := by simp only [List.getD, List.getElem?_replicate]; split <;> rfl
    unfold stepOk; rw [this]; omega⟩
theorem Pt.mt {n : Nat} {p q : List Int} (hp : Pt n p) (hq : Pt n q) : Pt n (mtP p q) := by
  have hl : (mtP p q).length = n := by unfold mtP; rw [canon_length, List.length_zip, hp.1, hq.1]; omega
  exact ⟨hl, by rw [hl]; have := hp.2.1; have := hp.1; omega, canon_idemG (0, 0) _⟩
theorem Pt.mtL {n : Nat} (hn : n ≤ 4096) : ∀ {l : List (List Int)}, (∀ p ∈ l, Pt n p) → Pt n (mtL n l)
  | [], _ => Pt.triv hn
  | _ :: _, h => (h _ (List.mem_cons_self ..)).mt (Pt.mtL hn fun q hq => h q (List.mem_cons_of_mem _ hq))
theorem pmt_fn {n : Nat} {p q : List Int} (hp : Pt n p) (hq : Pt n q) : QF 23 [.ro (.ints .i64 p), .ro (.ints .i64 q)] (.new (.ints .i64 (mtP p q))) := by
  have h := pmeet_fn p q
  rw [if_pos ⟨hp.1.trans hq.1.symm, hp.2, hq.2⟩] at h
  exact h
def sfxL (n : Nat) (l : List (List Int)) : List (List Int) := (List.range (l.length + 1)).map fun i => mtL n (l.drop i)
theorem sfx_len (n : Nat) (l : List (List Int)) : (sfxL n l).length = l.length + 1 := by simp [sfxL]
theorem sfx_get (n : Nat) (l : List (List Int)) {i : Nat} (hi : i ≤ l.length) : (sfxL n l).getD i [] = mtL n (l.drop i) := by
  have : i < l.length + 1 := by omega
  simp [sfxL, List.getD, this]
theorem mtL_drop (n : Nat) (l : List (List Int)) {i : Nat} (hi : i < l.length) : mtL n (l.drop i) = mtP (l.getD i []) (mtL n (l.drop (i + 1))) := by
  rw [List.drop_eq_getElem_cons hi, getD_eq hi]; rfl
set_option maxHeartbeats 1000000 in
theorem ssfx_fn (n : Nat) (l : List (List Int)) (h0 : 0 < n) (hn : n ≤ 4096) (hl : l.length ≤ 4096) (hp : ∀ p ∈ l, Pt n p) : QF 44 [.int .i64 n, .ro (.rows .i64 l)] (.new (.rows .i64 (sfxL n l))) := mkQ Try.func44 (by decide +kernel) rfl (Nat.le_of_ble_eq_true rfl) fun _ => by
  have hd : ∀ i, ∀ p ∈ l.drop i, Pt n p := fun i p h => hp p (List.mem_of_mem_drop h)
  refine And.intro (by omega) ?_
  refine And.intro (by omega) ?_
  refine And.intro (by omega) ?_
  refine Or.inr (Or.inr ?_)
  refine Or.inl (cq (ptriv_fn n hn) (And.intro rfl trivial) ?_)
  have hr : (List.replicate ((l.length : Int) + 1).toNat ([] : List Int)).length = l.length + 1 := by rw [List.length_replicate]; omega
  refine And.intro (show 0 ≤ (l.length : Int) ∧ (l.length : Int) < ((List.replicate ((l.length : Int) + 1).toNat ([] : List Int)).length : Int) by omega) ?_
  refine And.intro (by omega) ?_
  refine And.intro (by omega) ?_
  have hne : ∀ p, Pt n p → p ≠ [] := fun p h e => by have := h.1; rw [e] at this; simp at this; omega
  refine Exists.intro [11, 15, 16, 24, 30, 35, 36, 10015, 10035] <| lp2 (fun (k : Nat) (_ : List (List Int)) => [(6, .int .i64 ((k : Int) - 1))]) (fun _ M => [(10, .vec 0 (.nrows .i64 M) [])]) (fun k M => k ≤ l.length ∧ M.length = l.length + 1 ∧ ∀ j, k ≤ j → j ≤ l.length → M.getD j [] = mtL n (l.drop j)) (fun k _ => k) l.length ((List.replicate ((l.length : Int) + 1).toNat []).set l.length (List.replicate n 0)) ⟨Nat.le_refl _, by rw [List.length_set]; exact hr, fun j h1 h2 => ?_⟩ ?_ ?_
  · have e : j = l.length := by omega
    subst e
    rw [getD_set_eq (by omega), List.drop_length]; rfl
  · repeat' first | refine And.intro ?_ ?_ | exact True.intro | exact hne _ (Pt.triv hn) | (show (_ : Int) = (_ : Int); omega) | omega | exact rfl
  rintro k M ⟨hk, hM, hMj⟩
  refine And.intro (fun h1 => ?_) (fun h1 => ?_)
  · have h1 : 0 ≤ (k : Int) - 1 := h1
    have hkl : k - 1 < l.length := by omega
    have ek : ((k : Int) - 1).toNat = k - 1 := by omega
    have ek2 : ((k : Int) - 1 + 1).toNat = k := by omega
    have hMk := hMj k (Nat.le_refl _) hk
    have hPk : Pt n (mtL n (l.drop k)) := Pt.mtL hn (hd k)
    have hPp : Pt n (l.getD (k - 1) []) := hp _ (getD_mem (d := []) hkl)
    refine Or.inl ?_
    refine Exists.intro (List.replicate 11 false ++ [true, false, true]) (And.intro (by decide +kernel) ?_)
    refine And.intro (show 0 ≤ (k : Int) - 1 ∧ (k : Int) - 1 < (l.length : Int) by omega) ?_
    refine And.intro (show -9223372036854775808 ≤ (k : Int) - 1 + 1 ∧ (k : Int) - 1 + 1 ≤ 9223372036854775807 by omega) ?_
    refine And.intro (show 0 ≤ (k : Int) - 1 + 1 ∧ (k : Int) - 1 + 1 < (M.length : Int) by omega) ?_
    refine And.intro (fun h2 => ?_) (fun _ => ?_)
    · have h2 : M.getD ((k : Int) - 1 + 1).toNat [] = [] := h2
      rw [ek2, hMk] at h2
      exact absurd h2 (hne _ hPk)
    refine Or.inl (cq (pmt_fn (n := n) (p := l.getD ((k : Int) - 1).toNat []) (q := M.getD ((k : Int) - 1 + 1).toNat []) (by rw [ek]; exact hPp) (by rw [ek2, hMk]; exact hPk)) (And.intro rfl (And.intro rfl trivial)) ?_)
    refine And.intro (show 0 ≤ (k : Int) - 1 ∧ (k : Int) - 1 < (M.length : Int) by omega) ?_
    refine And.intro (by omega) ?_
    refine And.intro (by omega) ?_
    have em : mtP (l.getD ((k : Int) - 1).toNat []) (M.getD ((k : Int) - 1 + 1).toNat []) = mtL n (l.drop (k - 1)) := by
      rw [ek, ek2, hMk, mtL_drop n l hkl, show k - 1 + 1 = k by omega]
    refine nx (k - 1, M.set ((k : Int) - 1).toNat (mtP (l.getD ((k : Int) - 1).toNat []) (M.getD ((k : Int) - 1 + 1).toNat []))) ⟨by omega, by rw [List.length_set]; exact hM, fun j h2 h3 => ?_⟩ (show k - 1 < k by omega) ?_
    · rw [em, ek]
      by_cases e : j = k - 1
      · subst e; rw [getD_set_eq (by omega)]
      · rw [getD_set_ne (Ne.symm e)]; exact hMj j (by omega) h3
    · repeat' first | refine And.intro ?_ ?_ | exact True.intro | (rw [em]; exact hne _ (Pt.mtL hn (hd _))) | (show (_ : Int) = (_ : Int); omega) | omega | exact rfl
  · have h1 : (k : Int) - 1 < 0 := h1
    refine And.intro (And.intro (by omega) ?_) trivial
    show RO.rows .i64 M = RO.rows .i64 (sfxL n l)
    congr 1
    refine ext_getD [] (by rw [hM, sfx_len]) fun i hi => ?_
    rw [sfx_get n l (by omega)]
    exact hMj i (by omega) (by omega)
def redL (n : Nat) : List Int → List (List Int) → List (List Int)
  | _, [] => []
  | b, p :: l => if classN (mtP b (mtL n l)) = n then redL n b l else p :: redL n (mtP b p) l
theorem redL_drop (n : Nat) (b : List Int) (l : List (List Int)) {i : Nat} (hi : i < l.length) : redL n b (l.drop i) = if classN (mtP b (mtL n (l.drop (i + 1)))) = n then redL n b (l.drop (i + 1)) else l.getD i [] :: redL n (mtP b (l.getD i [])) (l.drop (i + 1)) := by
  rw [List.drop_eq_getElem_cons hi, getD_eq hi]; rfl
set_option maxHeartbeats 1000000 in
theorem sred_fn (n : Nat) (l : List (List Int)) (h0 : 0 < n) (hn : n ≤ 4096) (hl : l.length ≤ 4096) (hp : ∀ p ∈ l, Pt n p) : QF 45 [.int .i64 n, .ro (.rows .i64 l)] (.ro (.rows .i64 (redL n (List.replicate n 0) l))) := mkQ Try.func45 (by decide +kernel) rfl (Nat.le_of_ble_eq_true rfl) fun _ => by
  have hd : ∀ i, ∀ p ∈ l.drop i, Pt n p := fun i p h => hp p (List.mem_of_mem_drop h)
  refine Or.inl (cq (ssfx_fn n l h0 hn hl hp) (And.intro rfl (And.intro rfl trivial)) ?_)
  refine Or.inl (cq (ptriv_fn n hn) (And.intro rfl trivial) ?_)
  refine Exists.intro [14, 22, 28, 36, 38, 10014, 10028, 10038] <| lp3 (fun (i : Nat) (_ : List (List Int)) (b : List Int) => [(17, .int .i64 i), (5, .vec 35), (7, .ro (.ints .i64 b))]) (fun _ K _ => [(35, .vec 0 (.rows .i64 K) [])]) (fun i K b => i ≤ l.length ∧ K.length ≤ i ∧ Pt n b ∧ K ++ redL n b (l.drop i) = redL n (List.replicate n 0) l) (fun i _ _ => l.length - i) 0 [] (List.replicate n 0) ⟨Nat.zero_le _, Nat.le_refl _, Pt.triv hn, rfl⟩ (by repeat' first | refine And.intro ?_ ?_ | exact True.intro | (show (_ : Int) = (_ : Int); omega) | omega | exact rfl | (simp only [RO.len]; omega)) ?_
  rintro i K b ⟨hi, hK, hb, he⟩
  refine And.intro (fun h1 => ?_) (fun h1 => ?_)
  · have h1 : (i : Int) < (l.length : Int) := h1
    have hil : i < l.length := by omega
    have hPp : Pt n (l.getD i []) := hp _ (getD_mem (d := []) hil)
    have hst := redL_drop n b l hil
    have hs1 := sfx_get n l (i := i + 1) (by omega)
    have hsl := sfx_len n l
    have hPs : Pt n (mtL n (l.drop (i + 1))) := Pt.mtL hn (hd _)
    have ei : ((i : Int) + 1).toNat = i + 1 := by omega
    have hPs2 : Pt n ((sfxL n l).getD ((i : Int) + 1).toNat []) := by rw [ei, hs1]; exact hPs
    have hcn : classN (mtP b ((sfxL n l).getD ((i : Int) + 1).toNat [])) ≤ n := by
      have := firsts_le (mtP b ((sfxL n l).getD ((i : Int) + 1).toNat []))
      rw [(hb.mt hPs2).1] at this; exact this
    have hKl : (K ++ [l.getD (i : Int).toNat []]).length = K.length + 1 := by simp
    refine And.intro (by omega) ?_
    refine And.intro (show -9223372036854775808 ≤ (i : Int) + 1 ∧ (i : Int) + 1 ≤ 9223372036854775807 by omega) ?_
    refine And.intro (show 0 ≤ (i : Int) + 1 ∧ (i : Int) + 1 < ((sfxL n l).length : Int) by omega) ?_
    refine Or.inl (cq (pmt_fn hb hPs2) (And.intro rfl (And.intro rfl trivial)) ?_)
    refine Or.inl (cq (scnt_fn _ (hb.mt hPs2).2) (And.intro rfl trivial) ?_)
    refine And.intro (fun h2 => ?_) (fun h2 => ?_)
    · have h2 : ((classN (mtP b ((sfxL n l).getD ((i : Int) + 1).toNat [])) : Nat) : Int) = (n : Int) := h2
      rw [ei, hs1] at h2
      rw [if_pos (by omega)] at hst
      refine And.intro (by omega) ?_
      exact nx (i + 1, K, b) ⟨by omega, by omega, hb, by rw [← he, hst]⟩ (show l.length - (i + 1) < l.length - i by omega) (by repeat' first | refine And.intro ?_ ?_ | exact True.intro | (show (_ : Int) = (_ : Int); omega) | omega | exact rfl | (simp only [RO.len]; omega))
    · have h2 : ¬ ((classN (mtP b ((sfxL n l).getD ((i : Int) + 1).toNat [])) : Nat) : Int) = (n : Int) := h2
      rw [ei, hs1] at h2
      rw [if_neg (by omega)] at hst
      refine And.intro (by omega) ?_
      refine Or.inl (cq (pmt_fn hb hPp) (And.intro rfl (And.intro rfl trivial)) ?_)
      refine And.intro (by omega) ?_
      exact nx (i + 1, K ++ [l.getD i []], mtP b (l.getD i [])) ⟨by omega, by rw [List.length_append, List.length_singleton]; omega, hb.mt hPp, by rw [← he, hst, List.append_assoc]; rfl⟩ (show l.length - (i + 1) < l.length - i by omega) (by repeat' first | refine And.intro ?_ ?_ | exact True.intro | (show (_ : Int) = (_ : Int); omega) | omega | exact rfl | (simp only [RO.len]; omega))
  · have h1 : (l.length : Int) ≤ (i : Int) := h1
    have e : K = redL n (List.replicate n 0) l := by rw [← he, List.drop_of_length_le (by omega)]; simp [redL]
    refine And.intro ?_ trivial
    refine And.intro trivial ?_
    show RO.rows .i64 K = RO.rows .i64 _
    rw [e]
end Go.Proofs.Ytkbhgnbnnbengaa
end
section
/- Plain: the partition that a relation generates; lists of pairs. -/
namespace Go.Proofs.Ytkbhgnbnnbengaa
open Go Go.AM
noncomputable def egB (R : Nat → Nat → Prop) (a b : Nat) : Bool := @decide (Eg R a b) (Classical.propDecidable _)
theorem egB_true {R : Nat → Nat → Prop} {a b : Nat} : egB R a b = true ↔ Eg R a b := by unfold egB; exact @decide_eq_true_iff _ (Classical.propDecidable _)
theorem eg_pre (n : Nat) (R : Nat → Nat → Prop) : Pre n (egB R) := pre_of (fun x _ => egB_true.2 (.refl x)) fun _ _ _ _ _ _ h h' => egB_true.2 ((egB_true.1 h).trans (egB_true.1 h'))
noncomputable def eqP (n : Nat) (R : Nat → Nat → Prop) : List Int := clsL n (egB R)
theorem eqP_len {n : Nat} {R : Nat → Nat → Prop} : (eqP n R).length = n := clsL_len _ _
theorem eqP_canon {n : Nat} {R : Nat → Nat → Prop} : canon (eqP n R) = eqP n R := canon_idem _
theorem eqP_valid {n : Nat} {R : Nat → Nat → Prop} (h : n ≤ 4096) : validP (eqP n R) := ⟨by rw [eqP_len]; exact h, eqP_canon⟩
theorem eqP_iff {n : Nat} {R : Nat → Nat → Prop} {a b : Nat} (ha : a < n) (hb : b < n) : (eqP n R).getD a 0 = (eqP n R).getD b 0 ↔ Eg R a b := by
  unfold eqP
  rw [clsL_iff (eg_pre n R) ha hb, egB_true, egB_true]
  exact ⟨fun h => h.1, fun h => ⟨h, h.symm⟩⟩
theorem eqP_of {n : Nat} {p : List Int} {R : Nat → Nat → Prop} (h : KerOf n p R) : canon p = eqP n R :=
  ker_clsL (eg_pre n R) h.1 fun a b ha hb => by
    rw [egB_true, egB_true, h.2 a b ha hb]
    exact ⟨fun h => ⟨h, h.symm⟩, fun h => h.1⟩
theorem KerR.congr {n : Nat} {r : Nat → Nat} {R R' : Nat → Nat → Prop} (h : KerR n r R) (h1 : ∀ a b, R a b → Eg R' a b) (h2 : ∀ a b, R' a b → Eg R a b) : KerR n r R' :=
  fun a b ha hb => (h a b ha hb).trans ⟨Eg.mono h1, Eg.mono h2⟩
def relP (l : List (Int × Int)) (a b : Nat) : Prop := ((a : Int), (b : Int)) ∈ l
def orR (R : Nat → Nat → Prop) (l : List (Int × Int)) (a b : Nat) : Prop := R a b ∨ relP l a b
theorem prR_ker {n : Nat} : ∀ (l : List (Int × Int)) (r : Nat → Nat) (R : Nat → Nat → Prop), KerR n r R → inW n l → KerR n (prR r l) (orR R l)
  | [], r, R, h, _ => h.congr (fun a b h => .rel (.inl h)) fun a b h => h.elim .rel fun h => nomatch h
  | x :: l, r, R, h, hW => by
    have hx := hW x (by simp)
    have hl : inW n l := fun q hq => hW q (List.mem_cons_of_mem _ hq)
    refine (prR_ker l (ufR r x.1.toNat x.2.toNat) (orP R x.1.toNat x.2.toNat) (h.union (by omega) (by omega)) hl).congr (fun a b h => .rel ?_) fun a b h => .rel ?_
    · rcases h with (h | ⟨rfl, rfl⟩) | h
      · exact .inl h
      · refine .inr ?_
        show (_, _) ∈ _
        rw [Int.toNat_of_nonneg hx.1.1, Int.toNat_of_nonneg hx.2.1]
        exact List.mem_cons_self
      · exact .inr (List.mem_cons_of_mem _ h)
    · rcases h with h | h
      · exact .inl (.inl h)
      · rcases List.mem_cons.1 h with h | h
        · exact .inl (.inr ⟨by rw [← h]; rfl, by rw [← h]; rfl⟩)
        · exact .inr h
theorem pairs_eqP {n : Nat} {l : List (Int × Int)} (h : inW n l) : canon (rtL n (prR id l)) = eqP n (relP l) :=
  eqP_of (((prR_ker l id (fun _ _ => False) (KerR.dis n) h).congr (fun a b h => h.elim (fun f => f.elim) .rel) fun a b h => .rel (.inr h)).ker)
end Go.Proofs.Ytkbhgnbnnbengaa
end
section
/- Plain: how the reference closes a partition under products. -/
namespace Go.Proofs.Ytkbhgnbnnbengaa
open Go Go.AM
theorem nodup_sub {α : Type} [DecidableEq α] : ∀ {A B : List α}, A.Nodup → (∀ x ∈ A, x ∈ B) → A.length ≤ B.length
  | [], _, _, _ => Nat.zero_le _
  | a :: A, B, hA, h => by
    have ha := h a (by simp)
    have hn := List.nodup_cons.1 hA
    have := nodup_sub (B := B.erase a) hn.2 fun x hx => (List.mem_erase_of_ne fun e => by subst e; exact hn.1 hx).2 (h x (List.mem_cons_of_mem _ hx))
    have hl := List.length_erase_of_mem ha
    have hp := List.length_pos_of_mem ha
    simp only [List.length_cons]; omega
end Go.Proofs.Ytkbhgnbnnbengaa
end
section
/- The reference's relations of Green (semigroupref15): contracts; the class of a table (semigroupref17). -/
namespace Go.Proofs.Ytkbhgnbnnbengaa
open Go Go.AM
set_option maxRecDepth 100000
def rowsB (n : Nat) (e : Nat → Nat → Bool) : List (List Bool) := (List.range n).map fun x => setB n (e x)
end Go.Proofs.Ytkbhgnbnnbengaa
end
section
/- Ideals of a table: plain. -/
namespace Go.Proofs.Ytkbhgnbnnbengaa
open Go Go.AM
open Classical
def inT (t : List (List Int)) (l : List Int) : Prop := ∀ x ∈ l, 0 ≤ x ∧ x < (t.length : Int)
instance (t : List (List Int)) (l : List Int) : Decidable (inT t l) := by unfold inT; infer_instance
end Go.Proofs.Ytkbhgnbnnbengaa
end
section
/- Orders by a comparison; sorted lists; the lexicographic order and the order by size. Plain. -/
namespace Go.Proofs.Ytkbhgnbnnbengaa
open Go Go.AM
structure TotC {α : Type} (c : α → α → Int) : Prop where
  swap : ∀ a b, c b a = - c a b
  eq : ∀ a b, c a b = 0 → a = b
  trans : ∀ a b d, c a b < 0 → c b d < 0 → c a d < 0
theorem TotC.self {α : Type} {c : α → α → Int} (h : TotC c) (a : α) : c a a = 0 := by have := h.swap a a; omega
def cmpI (a b : Int) : Int := if a < b then -1 else if b < a then 1 else 0
theorem cmpI_tot : TotC cmpI where
  swap a b := by unfold cmpI; split <;> split <;> (try split) <;> omega
  eq a b := by unfold cmpI; split <;> (try split) <;> omega
  trans a b d := by unfold cmpI; intro h1 h2; split at h1 <;> (try split at h1) <;> split at h2 <;> (try split at h2) <;> first | omega | (rw [if_pos (by omega)]; omega)
def cmpL : List Int → List Int → Int
  | [], [] => 0 | [], _ :: _ => -1 | _ :: _, [] => 1 | a :: l, b :: m => if cmpI a b ≠ 0 then cmpI a b else cmpL l m
theorem cmpL_swap : ∀ a b : List Int, cmpL b a = - cmpL a b
  | [], [] => rfl
  | [], _ :: _ => rfl
  | _ :: _, [] => rfl
  | a :: l, b :: m => by
    have e := cmpI_tot.swap a b
    have ih := cmpL_swap l m
    simp only [cmpL]
    by_cases h : cmpI a b = 0
    · rw [if_neg (by omega), if_neg (by omega), ih]
    · rw [if_pos (by omega), if_pos h, e]
theorem cmpL_eq : ∀ a b : List Int, cmpL a b = 0 → a = b
  | [], [], _ => rfl
  | [], _ :: _, h => by simp [cmpL] at h
  | _ :: _, [], h => by simp [cmpL] at h
  | a :: l, b :: m, h => by
    simp only [cmpL] at h
    by_cases h0 : cmpI a b = 0
    · rw [if_neg (by omega)] at h
      rw [cmpI_tot.eq a b h0, cmpL_eq l m h]
    · rw [if_pos h0] at h; exact absurd h h0
theorem cmpL_trans : ∀ a b d : List Int, cmpL a b < 0 → cmpL b d < 0 → cmpL a d < 0
  | [], [], _, h, _ => by simp [cmpL] at h
  | [], _ :: _, [], _, h => by simp [cmpL] at h
  | [], _ :: _, _ :: _, _, _ => by simp [cmpL]
  | _ :: _, [], _, h, _ => by simp [cmpL] at h
  | _ :: _, _ :: _, [], _, h => by simp [cmpL] at h
  | a :: l, b :: m, d :: n, h1, h2 => by
    simp only [cmpL] at h1 h2 ⊢
    have ih := cmpL_trans l m n
    by_cases e1 : cmpI a b = 0
    · rw [if_neg (by omega)] at h1
      obtain rfl := cmpI_tot.eq a b e1
      by_cases e2 : cmpI a d = 0
      · rw [if_neg (by omega)] at h2 ⊢; exact ih h1 h2
      · rw [if_pos e2] at h2 ⊢; exact h2
    · rw [if_pos e1] at h1
      by_cases e2 : cmpI b d = 0
      · obtain rfl := cmpI_tot.eq b d e2
        rw [if_pos e1]; exact h1
      · rw [if_pos e2] at h2
        have := cmpI_tot.trans a b d h1 h2
        rw [if_pos (by omega)]; exact this
theorem cmpL_tot : TotC cmpL := ⟨cmpL_swap, cmpL_eq, cmpL_trans⟩
def Srt {α : Type} (c : α → α → Int) (l : List α) : Prop := l.Pairwise fun a b => c a b < 0
def srt {α : Type} (c : α → α → Int) (l : List α) : List α := l.mergeSort fun a b => decide (c a b ≤ 0)
section
variable {α : Type} {c : α → α → Int}
theorem Srt.nodup (h : TotC c) {l : List α} (hs : Srt c l) : l.Nodup := hs.imp fun {a b} hab e => by subst e; have := h.self a; omega
theorem le_trans' (h : TotC c) {a b d : α} (h1 : c a b ≤ 0) (h2 : c b d ≤ 0) : c a d ≤ 0 := by
  by_cases e1 : c a b = 0
  · obtain rfl := h.eq _ _ e1; exact h2
  · by_cases e2 : c b d = 0
    · obtain rfl := h.eq _ _ e2; exact h1
    · have := h.trans a b d (by omega) (by omega); omega
theorem srt_perm (l : List α) : (srt c l).Perm l := List.mergeSort_perm _ _
theorem srt_mem {l : List α} {x : α} : x ∈ srt c l ↔ x ∈ l := (srt_perm l).mem_iff
theorem srt_len (l : List α) : (srt c l).length = l.length := (srt_perm l).length_eq
theorem srt_le (h : TotC c) (l : List α) : (srt c l).Pairwise fun a b => c a b ≤ 0 := by
  have := List.pairwise_mergeSort (le := fun a b => decide (c a b ≤ 0)) (fun a b d h1 h2 => decide_eq_true (le_trans' h (of_decide_eq_true h1) (of_decide_eq_true h2)))
    (fun a b => by
      have := h.swap a b
      by_cases h0 : c a b ≤ 0
      · simp [h0]
      · have : c b a ≤ 0 := by omega
        simp [this]) l
  exact this.imp fun {a b} hab => of_decide_eq_true hab
theorem srt_srt (h : TotC c) {l : List α} (hn : l.Nodup) : Srt c (srt c l) := by
  have h1 := srt_le h l
  have h2 : (srt c l).Nodup := (srt_perm l).nodup_iff.2 hn
  have := h1.and h2
  refine this.imp fun {a b} hab => ?_
  have : c a b ≠ 0 := fun e => hab.2 (h.eq _ _ e)
  omega
theorem perm_sorted (h : TotC c) : ∀ {l m : List α}, l.Pairwise (fun a b => c a b ≤ 0) → m.Pairwise (fun a b => c a b ≤ 0) → l.Perm m → l = m
  | [], m, _, _, hp => by rw [List.nil_perm.1 hp]
  | a :: l, [], _, _, hp => by have := hp.length_eq; simp at this
  | a :: l, b :: m, h1, h2, hp => by
    have h1' := List.pairwise_cons.1 h1
    have h2' := List.pairwise_cons.1 h2
    have e : a = b := by
      have ha : a ∈ b :: m := hp.mem_iff.1 (by simp)
      have hb : b ∈ a :: l := hp.mem_iff.2 (by simp)
      rcases List.mem_cons.1 ha with e | ha
      · exact e
      · rcases List.mem_cons.1 hb with e | hb
        · exact e.symm
        · have g1 := h2'.1 a ha
          have g2 := h1'.1 b hb
          have := h.swap a b
          exact h.eq _ _ (by omega)
    subst e
    rw [perm_sorted h h1'.2 h2'.2 hp.cons_inv]
theorem sorted_uniq (h : TotC c) {l m : List α} (hl : Srt c l) (hm : Srt c m) (he : ∀ x, x ∈ l ↔ x ∈ m) : l = m :=
  perm_sorted h (hl.imp fun h => by omega) (hm.imp fun h => by omega) ((List.perm_ext_iff_of_nodup (hl.nodup h) (hm.nodup h)).2 he)
end
end Go.Proofs.Ytkbhgnbnnbengaa
end
section
/- Plain: subgroups, what elements generate, conjugates, cosets. -/
namespace Go.Proofs.Ytkbhgnbnnbengaa
section
/-! ### Subgroups -/
end
/-! ### Generating, step by step -/
theorem nodup_len {n : Nat} {l : List Int} (hn : l.Nodup) (h : ∀ x ∈ l, 0 ≤ x ∧ x < (n : Int)) : l.length ≤ n := by
  have := hn.length_le_of_subset (l₂ := disI n) fun x hx => mem_disI.2 (h x hx)
  rwa [disI_len] at this
/-! ### What was collected -/
/-! ### Closing under products, pass by pass -/
/-! ### The reference's lists -/
end Go.Proofs.Ytkbhgnbnnbengaa
end
