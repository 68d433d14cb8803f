import Derived.Test.YtjlkhjgnfnfmgaaIdpLaw
import Derived.Test.YtjlkhjgnfnfmgaaRefCg
import Derived.Test.YtjlkhjgnfnfmgaaAmRet
import Derived.Test.YtjlkhjgnfnfmgaaForLaw
import Derived.Test.YtjlkhjgnfnfmgaaGroup
section
/- Plain: the greatest congruence in a partition; how the splitter of congr makes it. -/
namespace Go.Proofs.Ytjlkhjgnfnfmgaa
open Go Go.AM
section
variable {t : List (List Int)} {p : List Int}
structure Syn (t : List (List Int)) (p : List Int) (x y : Nat) : Prop where
  own : p.getD x 0 = p.getD y 0
  one : ∀ u, u < t.length → p.getD (en t u x) 0 = p.getD (en t u y) 0 ∧ p.getD (en t x u) 0 = p.getD (en t y u) 0
  two : ∀ u v, u < t.length → v < t.length → p.getD (en t (en t u x) v) 0 = p.getD (en t (en t u y) v) 0
theorem Syn.refl (x : Nat) : Syn t p x x := ⟨rfl, fun _ _ => ⟨rfl, rfl⟩, fun _ _ _ _ => rfl⟩
theorem Syn.symm {x y : Nat} (h : Syn t p x y) : Syn t p y x := ⟨h.own.symm, fun u hu => ⟨(h.one u hu).1.symm, (h.one u hu).2.symm⟩, fun u v hu hv => (h.two u v hu hv).symm⟩
theorem Syn.trans {x y z : Nat} (h : Syn t p x y) (h' : Syn t p y z) : Syn t p x z :=
  ⟨h.own.trans h'.own, fun u hu => ⟨(h.one u hu).1.trans (h'.one u hu).1, (h.one u hu).2.trans (h'.one u hu).2⟩, fun u v hu hv => (h.two u v hu hv).trans (h'.two u v hu hv)⟩
noncomputable def synB (t : List (List Int)) (p : List Int) (x y : Nat) : Bool := @decide (Syn t p x y) (Classical.propDecidable _)
theorem synB_true {x y : Nat} : synB t p x y = true ↔ Syn t p x y := by unfold synB; exact @decide_eq_true_iff _ (Classical.propDecidable _)
theorem syn_pre (t : List (List Int)) (p : List Int) : Pre t.length (synB t p) :=
  pre_of (fun x _ => synB_true.2 (.refl x)) fun _ _ _ _ _ _ h h' => synB_true.2 ((synB_true.1 h).trans (synB_true.1 h'))
noncomputable def synP (t : List (List Int)) (p : List Int) : List Int := clsL t.length (synB t p)
theorem synP_len : (synP t p).length = t.length := clsL_len _ _
theorem synP_canon : canon (synP t p) = synP t p := canon_idem _
theorem synP_iff {a b : Nat} (ha : a < t.length) (hb : b < t.length) : (synP t p).getD a 0 = (synP t p).getD b 0 ↔ Syn t p a b := by
  unfold synP
  rw [clsL_iff (syn_pre t p) ha hb, synB_true, synB_true]
  exact ⟨fun h => h.1, fun h => ⟨h, h.symm⟩⟩
theorem syn_cg (h : Semi t) {x y s : Nat} (hx : x < t.length) (hy : y < t.length) (hs : s < t.length) (e : Syn t p x y) : Syn t p (en t s x) (en t s y) ∧ Syn t p (en t x s) (en t y s) := by
  have hS := h.toSh
  have a3 := fun {x y z : Nat} => assoc3 h.assoc (x := x) (y := y) (z := z)
  refine ⟨⟨(e.one s hs).1, fun u hu => ⟨?_, ?_⟩, fun u v hu hv => ?_⟩, ⟨(e.one s hs).2, fun u hu => ⟨?_, ?_⟩, fun u v hu hv => ?_⟩⟩
  · rw [← a3 hu hs hx, ← a3 hu hs hy]; exact (e.one _ (hS.ent hu hs).2).1
  · exact e.two s u hs hu
  · rw [← a3 hu hs hx, ← a3 hu hs hy]; exact e.two _ v (hS.ent hu hs).2 hv
  · rw [← a3 hu hx hs, ← a3 hu hy hs]; exact e.two u s hu hs
  · rw [a3 hx hs hu, a3 hy hs hu]; exact (e.one _ (hS.ent hs hu).2).2
  · rw [← a3 hu hx hs, ← a3 hu hy hs, a3 (hS.ent hu hx).2 hs hv, a3 (hS.ent hu hy).2 hs hv]; exact e.two u _ hu (hS.ent hs hv).2
theorem synP_cg (h : Semi t) : Cg t (synP t p) 0 := fun x y s hx hy hs e => by
  have hS := h.toSh
  have := syn_cg (p := p) h hx hy hs ((synP_iff hx hy).1 e)
  exact ⟨fun _ => (synP_iff (hS.ent hs hx).2 (hS.ent hs hy).2).2 this.1, fun _ => (synP_iff (hS.ent hx hs).2 (hS.ent hy hs).2).2 this.2⟩
theorem synP_valid (hs : Sh t) : validP (synP t p) := ⟨by rw [synP_len]; have := hs.most; omega, synP_canon⟩
theorem synP_is (h : Semi t) : IsCg t (synP t p) 0 := ⟨h, synP_len, synP_valid h.toSh, ⟨by omega, by omega⟩, synP_cg h⟩
theorem syn_great (hs : Sh t) {q : List Int} (hq : Cg t q 0) (hr : ∀ x y, x < t.length → y < t.length → q.getD x 0 = q.getD y 0 → p.getD x 0 = p.getD y 0) {x y : Nat} (hx : x < t.length) (hy : y < t.length) (e : q.getD x 0 = q.getD y 0) : Syn t p x y := by
  have l := fun {x y s : Nat} (hx : x < t.length) (hy : y < t.length) (hs : s < t.length) e => (hq x y s hx hy hs e).1 (by decide)
  have r := fun {x y s : Nat} (hx : x < t.length) (hy : y < t.length) (hs : s < t.length) e => (hq x y s hx hy hs e).2 (by decide)
  exact ⟨hr x y hx hy e, fun u hu => ⟨hr _ _ (hs.ent hu hx).2 (hs.ent hu hy).2 (l hx hy hu e), hr _ _ (hs.ent hx hu).2 (hs.ent hy hu).2 (r hx hy hu e)⟩,
    fun u v hu hv => hr _ _ (hs.ent (hs.ent hu hx).2 hv).2 (hs.ent (hs.ent hu hy).2 hv).2 (r (hs.ent hu hx).2 (hs.ent hu hy).2 hv (l hx hy hu e))⟩
theorem synP_of (h : Semi t) {c : List Int} (hl : c.length = t.length) (h1 : ∀ x y, x < t.length → y < t.length → c.getD x 0 = c.getD y 0 → p.getD x 0 = p.getD y 0) (h2 : ∀ x y, x < t.length → y < t.length → Syn t p x y → c.getD x 0 = c.getD y 0) (h3 : Cg t c 0) : canon c = synP t p := by
  refine ker_clsL (syn_pre t p) hl fun a b ha hb => ?_
  rw [synB_true, synB_true]
  exact ⟨fun e => ⟨syn_great h.toSh h3 h1 ha hb e, (syn_great h.toSh h3 h1 ha hb e).symm⟩, fun e => h2 a b ha hb e.1⟩
theorem synP_congr (hs : Sh t) {q : List Int} (h : ∀ x y, x < t.length → y < t.length → (p.getD x 0 = p.getD y 0 ↔ q.getD x 0 = q.getD y 0)) : synP t p = synP t q := by
  have key : ∀ {p q : List Int}, (∀ x y, x < t.length → y < t.length → (p.getD x 0 = p.getD y 0 ↔ q.getD x 0 = q.getD y 0)) → ∀ a b, a < t.length → b < t.length → Syn t p a b → Syn t q a b := fun {p q} h a b ha hb e =>
    ⟨(h a b ha hb).1 e.own, fun u hu => ⟨(h _ _ (hs.ent hu ha).2 (hs.ent hu hb).2).1 (e.one u hu).1, (h _ _ (hs.ent ha hu).2 (hs.ent hb hu).2).1 (e.one u hu).2⟩,
      fun u v hu hv => (h _ _ (hs.ent (hs.ent hu ha).2 hv).2 (hs.ent (hs.ent hu hb).2 hv).2).1 (e.two u v hu hv)⟩
  rw [← synP_canon (p := p), ← synP_canon (p := q)]
  refine ker_canon synP_len synP_len fun a b ha hb => ?_
  rw [synP_iff ha hb, synP_iff ha hb]
  exact ⟨key h a b ha hb, key (fun x y hx hy => (h x y hx hy).symm) a b ha hb⟩
end
/-! ### The splitter -/
section
variable {α : Type} [DecidableEq α]
def idxD (l : List α) (q : α) : Nat := l.idxOf q
theorem firsts_in {l : List α} {x : α} (h : x ∈ l) : firsts (l ++ [x]) = firsts l := by rw [firsts_snoc, if_pos h]
theorem firsts_out {l : List α} {x : α} (h : x ∉ l) : firsts (l ++ [x]) = firsts l ++ [x] := by rw [firsts_snoc, if_neg h]
theorem canon_in {l : List α} {d : α} {i : Nat} (h : i < l.length) (hm : l.getD i d ∈ l.take i) : (canon l).getD i 0 = (idxD (firsts (l.take i)) (l.getD i d) : Nat) := by rw [canon_at (d := d) h, if_pos hm]; rfl
theorem canon_out {l : List α} {d : α} {i : Nat} (h : i < l.length) (hm : l.getD i d ∉ l.take i) : (canon l).getD i 0 = ((firsts (l.take i)).length : Nat) := by rw [canon_at (d := d) h, if_neg hm]
theorem idxD_in {l m : List α} {q : α} (h : q ∈ l) : idxD (l ++ m) q = idxD l q := by unfold idxD; rw [List.idxOf_append, if_pos h]
theorem idxD_out {l : List α} {q : α} (h : q ∉ l) : idxD (l ++ [q]) q = l.length := by unfold idxD; rw [List.idxOf_append, if_neg h]; simp
end
def spP (c im : List Int) : List (Int × Int) := (List.range c.length).map fun x => (c.getD x 0, c.getD (im.getD x 0).toNat 0)
def spC (c im : List Int) : List Int := canon (spP c im)
theorem spP_len (c im : List Int) : (spP c im).length = c.length := by simp [spP]
theorem spC_len (c im : List Int) : (spC c im).length = c.length := by unfold spC; rw [canon_length, spP_len]
theorem spP_get {c im : List Int} {x : Nat} (h : x < c.length) : (spP c im).getD x (0, 0) = (c.getD x 0, c.getD (im.getD x 0).toNat 0) := by simp [spP, List.getD, h]
theorem spC_iff {c im : List Int} {x y : Nat} (hx : x < c.length) (hy : y < c.length) : (spC c im).getD x 0 = (spC c im).getD y 0 ↔ c.getD x 0 = c.getD y 0 ∧ c.getD (im.getD x 0).toNat 0 = c.getD (im.getD y 0).toNat 0 := by
  unfold spC
  rw [canon_eq_iff (d := (0, 0)) (by rw [spP_len]; exact hx) (by rw [spP_len]; exact hy), spP_get hx, spP_get hy, Prod.mk.injEq]
def spF (c im : List Int) (k : Nat) : List (Int × Int) := firsts ((spP c im).take k)
def codN (n : Nat) (q : Int × Int) : Nat := (q.1 * n + q.2).toNat
def spM (c im : List Int) (round : Int) (M L : List Int) : Nat → List Int × List Int
  | 0 => (M, L)
  | k + 1 => if (spM c im round M L k).1.getD (codN c.length ((spP c im).getD k (0, 0))) 0 = round then spM c im round M L k
    else ((spM c im round M L k).1.set (codN c.length ((spP c im).getD k (0, 0))) round, (spM c im round M L k).2.set (codN c.length ((spP c im).getD k (0, 0))) ((spF c im k).length : Int))
theorem cod_inj {n : Nat} {q q' : Int × Int} (h : 0 ≤ q.1 ∧ 0 ≤ q.2 ∧ q.2 < (n : Int)) (h' : 0 ≤ q'.1 ∧ 0 ≤ q'.2 ∧ q'.2 < (n : Int)) (e : codN n q = codN n q') : q = q' := by
  unfold codN at e
  have p1 : 0 ≤ q.1 * (n : Int) := Int.mul_nonneg h.1 (by omega)
  have p2 : 0 ≤ q'.1 * (n : Int) := Int.mul_nonneg h'.1 (by omega)
  have e : q.1 * (n : Int) + q.2 = q'.1 * (n : Int) + q'.2 := by omega
  have hn : (n : Int) ≠ 0 := by omega
  have e1 : (q.1 * (n : Int) + q.2) / (n : Int) = q.1 := by
    rw [Int.add_comm, Int.add_mul_ediv_right _ _ hn, Int.ediv_eq_zero_of_lt h.2.1 h.2.2]; omega
  have e2 : (q'.1 * (n : Int) + q'.2) / (n : Int) = q'.1 := by
    rw [Int.add_comm, Int.add_mul_ediv_right _ _ hn, Int.ediv_eq_zero_of_lt h'.2.1 h'.2.2]; omega
  have e3 : q.1 = q'.1 := by rw [← e1, ← e2, e]
  rw [e3] at e
  exact Prod.ext e3 (by omega)
structure SpI (c im : List Int) (round : Int) (M L : List Int) (k : Nat) : Prop where
  lm : M.length = c.length * c.length
  ll : L.length = c.length * c.length
  hi : ∀ x ∈ M, x ≤ round
  lo : ∀ x ∈ M, 0 ≤ x
  lab : ∀ x ∈ L, 0 ≤ x ∧ x ≤ (c.length : Int)
  mar : ∀ q : Int × Int, 0 ≤ q.1 → q.1 < (c.length : Int) → 0 ≤ q.2 → q.2 < (c.length : Int) → (M.getD (codN c.length q) 0 = round ↔ q ∈ (spP c im).take k)
  la : ∀ q : Int × Int, q ∈ (spP c im).take k → L.getD (codN c.length q) 0 = (idxD (spF c im k) q : Nat)
section
variable {c im : List Int} {round : Int} {M L : List Int} {k : Nat}
theorem cod_lt {n : Nat} {q : Int × Int} (h1 : 0 ≤ q.1) (h2 : q.1 < (n : Int)) (h3 : 0 ≤ q.2) (h4 : q.2 < (n : Int)) : codN n q < n * n ∧ (codN n q : Int) = q.1 * n + q.2 := by
  unfold codN
  have p1 : 0 ≤ q.1 * (n : Int) := Int.mul_nonneg h1 (by omega)
  have p2 : q.1 * (n : Int) ≤ ((n : Int) - 1) * n := Int.mul_le_mul_of_nonneg_right (by omega) (by omega)
  rw [Int.sub_mul] at p2
  have : ((n * n : Nat) : Int) = (n : Int) * n := by exact Int.natCast_mul n n
  omega
theorem SpI.start (hm : M.length = c.length * c.length) (hl : L.length = c.length * c.length) (hlt : ∀ x ∈ M, x < round) (hlo : ∀ x ∈ M, 0 ≤ x) (hL : ∀ x ∈ L, 0 ≤ x ∧ x ≤ (c.length : Int)) : SpI c im round M L 0 := by
  refine ⟨hm, hl, fun x hx => by have := hlt x hx; omega, hlo, hL, fun q h1 h2 h3 h4 => ?_, fun q h => by simp at h⟩
  have := hlt _ (getD_mem (d := 0) (i := codN c.length q) (l := M) (by rw [hm]; exact (cod_lt h1 h2 h3 h4).1))
  simp only [List.take_zero, List.not_mem_nil, iff_false]
  omega
theorem spP_in (hc : ∀ x ∈ c, 0 ≤ x ∧ x < (c.length : Int)) (him : ∀ x, x < c.length → 0 ≤ im.getD x 0 ∧ im.getD x 0 < (c.length : Int)) {q : Int × Int} (h : q ∈ spP c im) : (0 ≤ q.1 ∧ q.1 < (c.length : Int)) ∧ 0 ≤ q.2 ∧ q.2 < (c.length : Int) := by
  obtain ⟨x, hx, rfl⟩ := mem_getD (0, 0) h
  rw [spP_len] at hx
  rw [spP_get hx]
  have := him x hx
  exact ⟨hc _ (getD_mem hx), hc _ (getD_mem (by omega))⟩
theorem SpI.next (hc : ∀ x ∈ c, 0 ≤ x ∧ x < (c.length : Int)) (him : ∀ x, x < c.length → 0 ≤ im.getD x 0 ∧ im.getD x 0 < (c.length : Int)) (hr : 0 ≤ round) (h : SpI c im round (spM c im round M L k).1 (spM c im round M L k).2 k) (hk : k < c.length) :
    SpI c im round (spM c im round M L (k + 1)).1 (spM c im round M L (k + 1)).2 (k + 1) ∧ (spM c im round M L (k + 1)).2.getD (codN c.length ((spP c im).getD k (0, 0))) 0 = (spC c im).getD k 0 ∧
      ((spM c im round M L k).1.getD (codN c.length ((spP c im).getD k (0, 0))) 0 = round → spF c im (k + 1) = spF c im k) ∧ ((spM c im round M L k).1.getD (codN c.length ((spP c im).getD k (0, 0))) 0 ≠ round → (spF c im (k + 1)).length = (spF c im k).length + 1) := by
  have hkl : k < (spP c im).length := by rw [spP_len]; exact hk
  have hq := spP_in hc him (getD_mem (d := (0, 0)) hkl)
  have htk := take_get (d := ((0 : Int), (0 : Int))) hkl
  have hcan := canon_in (d := ((0 : Int), (0 : Int))) hkl
  have hcan' := canon_out (d := ((0 : Int), (0 : Int))) hkl
  have hmk := h.mar _ hq.1.1 hq.1.2 hq.2.1 hq.2.2
  have hcod := cod_lt hq.1.1 hq.1.2 hq.2.1 hq.2.2
  have hF : (spP c im).getD k (0, 0) ∈ (spP c im).take k → spF c im (k + 1) = spF c im k := fun h => by
    show firsts ((spP c im).take (k + 1)) = _
    rw [htk, firsts_in h]; rfl
  have hF' : (spP c im).getD k (0, 0) ∉ (spP c im).take k → spF c im (k + 1) = spF c im k ++ [(spP c im).getD k (0, 0)] := fun h => by
    show firsts ((spP c im).take (k + 1)) = _
    rw [htk, firsts_out h]; rfl
  have hFl : (spF c im k).length ≤ c.length := by
    have := firsts_le ((spP c im).take k)
    rw [List.length_take, spP_len] at this
    unfold spF; omega
  have hsub : ∀ q : Int × Int, q ∈ (spP c im).take k → (0 ≤ q.1 ∧ q.1 < (c.length : Int)) ∧ 0 ≤ q.2 ∧ q.2 < (c.length : Int) := fun q h => spP_in hc him (List.mem_of_mem_take h)
  revert hcan hcan' hmk hcod hF hF'
  generalize hqk : (spP c im).getD k (0, 0) = qk at *
  intro hcan hcan' hmk hcod hF hF'
  by_cases e : (spM c im round M L k).1.getD (codN c.length qk) 0 = round
  · have hin := hmk.1 e
    have e1 : spM c im round M L (k + 1) = spM c im round M L k := by
      show (if _ then _ else _) = _
      rw [hqk, if_pos e]
    have hF := hF hin
    have hcan := hcan hin
    rw [e1]
    have hm : ∀ q, q ∈ (spP c im).take (k + 1) ↔ q ∈ (spP c im).take k := fun q => by
      rw [htk, List.mem_append, List.mem_singleton]
      exact ⟨fun h => h.elim id fun h => h ▸ hin, .inl⟩
    refine ⟨⟨h.lm, h.ll, h.hi, h.lo, h.lab, fun q h1 h2 h3 h4 => (h.mar q h1 h2 h3 h4).trans (hm q).symm, fun q hq => ?_⟩, ?_, fun _ => hF, fun h => absurd e h⟩
    · rw [hF]; exact h.la q ((hm q).1 hq)
    · unfold spC; rw [h.la _ hin]; exact hcan.symm
  · have hin : ¬ qk ∈ (spP c im).take k := fun h => e (hmk.2 h)
    have e1 : spM c im round M L (k + 1) = ((spM c im round M L k).1.set (codN c.length qk) round, (spM c im round M L k).2.set (codN c.length qk) ((spF c im k).length : Int)) := by
      show (if _ then _ else _) = _
      rw [hqk, if_neg e]
    have hF := hF' hin
    have hcan := hcan' hin
    rw [e1]
    have hm : ∀ q, q ∈ (spP c im).take (k + 1) ↔ q ∈ (spP c im).take k ∨ q = qk := fun q => by
      rw [htk, List.mem_append, List.mem_singleton]
    have hlm := h.lm
    have hll := h.ll
    have hset : ∀ (l : List Int) (v : Int), l.length = c.length * c.length → ∀ q : Int × Int, 0 ≤ q.1 → q.1 < (c.length : Int) → 0 ≤ q.2 → q.2 < (c.length : Int) → (l.set (codN c.length qk) v).getD (codN c.length q) 0 = if q = qk then v else l.getD (codN c.length q) 0 := fun l v hl q h1 h2 h3 h4 => by
      by_cases e2 : q = qk
      · subst e2; rw [getD_set_eq (by rw [hl]; exact hcod.1), if_pos rfl]
      · rw [getD_set_ne (fun e3 => e2 (cod_inj ⟨h1, h3, h4⟩ ⟨hq.1.1, hq.2.1, hq.2.2⟩ e3.symm)), if_neg e2]
    refine ⟨⟨by rw [List.length_set]; exact hlm, by rw [List.length_set]; exact hll, fun x hx => ?_, fun x hx => ?_, fun x hx => ?_, fun q h1 h2 h3 h4 => ?_, fun q hqm => ?_⟩, ?_, fun h => absurd h e, fun _ => by rw [hF]; simp⟩
    · rcases List.mem_or_eq_of_mem_set hx with hx | rfl
      · exact h.hi x hx
      · omega
    · rcases List.mem_or_eq_of_mem_set hx with hx | rfl
      · exact h.lo x hx
      · omega
    · rcases List.mem_or_eq_of_mem_set hx with hx | rfl
      · exact h.lab x hx
      · omega
    · rw [hset _ _ hlm q h1 h2 h3 h4, hm]
      by_cases e2 : q = qk
      · rw [if_pos e2]; exact ⟨fun _ => .inr e2, fun _ => rfl⟩
      · rw [if_neg e2, h.mar q h1 h2 h3 h4]; exact ⟨.inl, fun h => h.elim id fun h => absurd h e2⟩
    · have hr : (0 ≤ q.1 ∧ q.1 < (c.length : Int)) ∧ 0 ≤ q.2 ∧ q.2 < (c.length : Int) := ((hm q).1 hqm).elim (hsub q) fun h => h ▸ hq
      rw [hset _ _ hll q hr.1.1 hr.1.2 hr.2.1 hr.2.2, hF]
      by_cases e2 : q = qk
      · subst e2
        rw [if_pos rfl, idxD_out (l := spF c im k) (fun h => hin (mem_firsts.1 h))]
      · rw [if_neg e2]
        have hm2 := ((hm q).1 hqm).elim id fun h => absurd h e2
        rw [h.la q hm2, idxD_in (l := spF c im k) (mem_firsts.2 hm2)]
    · rw [hset _ _ hll qk hq.1.1 hq.1.2 hq.2.1 hq.2.2, if_pos rfl]
      unfold spC; exact hcan.symm
theorem SpI.upto (hc : ∀ x ∈ c, 0 ≤ x ∧ x < (c.length : Int)) (him : ∀ x, x < c.length → 0 ≤ im.getD x 0 ∧ im.getD x 0 < (c.length : Int)) (hr : 0 ≤ round) (h : SpI c im round M L 0) : ∀ k, k ≤ c.length → SpI c im round (spM c im round M L k).1 (spM c im round M L k).2 k
  | 0, _ => h
  | k + 1, hk => (SpI.next hc him hr (SpI.upto hc him hr h k (by omega)) (by omega)).1
end
/-! ### Counting -/
theorem canon_idemG {α : Type} [DecidableEq α] (d : α) (l : List α) : canon (canon l) = canon l :=
  canon_congr (d := 0) (e := d) (canon_length l) fun i j hi hj => by
    rw [canon_length] at hi hj
    exact canon_eq_iff hi hj
theorem classN_canonG {α : Type} [DecidableEq α] (d : α) (l : List α) : classN (canon l) = (firsts l).length := by
  have hv := valid_range (canon_idemG d l)
  have h1 : classN (canon l) ≤ (firsts l).length := by
    rcases Nat.eq_zero_or_pos (classN (canon l)) with e | e
    · omega
    · have hm := (hv ((classN (canon l) : Int) - 1)).1 ⟨by omega, by omega⟩
      obtain ⟨i, hi, hx⟩ := mem_getD 0 hm
      rw [canon_length] at hi
      have := canon_lt hi
      omega
  have h2 : (firsts l).length ≤ classN (canon l) := by
    rcases Nat.eq_zero_or_pos (firsts l).length with e | e
    · omega
    · have hm : (firsts l)[(firsts l).length - 1] ∈ l := mem_firsts.1 (List.getElem_mem _)
      have hx : (((firsts l).length - 1 : Nat) : Int) ∈ canon l := by
        unfold canon
        refine List.mem_map.2 ⟨_, hm, ?_⟩
        rw [(firsts_nodup l).idxOf_getElem]
      have := (hv _).2 hx
      omega
  omega
theorem spF_all (c im : List Int) : (spF c im c.length).length = classN (spC c im) := by
  unfold spF spC
  rw [List.take_of_length_le (by rw [spP_len]; exact Nat.le_refl _), classN_canonG (0, 0)]
theorem spC_canon (c im : List Int) : canon (spC c im) = spC c im := canon_idemG (0, 0) _
theorem same_count {c d : List Int} (hc : canon c = c) (hd : canon d = d) (hl : c.length = d.length) (hr : ∀ x y, x < c.length → y < c.length → d.getD x 0 = d.getD y 0 → c.getD x 0 = c.getD y 0) : classN c ≤ classN d ∧ (classN c = classN d → d = c) := by
  have hle : ∀ i, i ≤ c.length → (firsts (c.take i)).length ≤ (firsts (d.take i)).length ∧ ((firsts (c.take i)).length = (firsts (d.take i)).length → ∀ x y, x < i → y < i → c.getD x 0 = c.getD y 0 → d.getD x 0 = d.getD y 0) := by
    intro i
    induction i with
    | zero => intro _; exact ⟨by simp [firsts], fun _ x y hx => absurd hx (Nat.not_lt_zero _)⟩
    | succ i ih =>
      intro hi
      have ih := ih (by omega)
      have tc := take_get (d := (0 : Int)) (l := c) (i := i) (by omega)
      have td := take_get (d := (0 : Int)) (l := d) (i := i) (by omega)
      have memt : ∀ {l : List Int} {v : Int}, i < l.length → (v ∈ l.take i ↔ ∃ j, j < i ∧ l.getD j 0 = v) := fun {l v} hil => by
        constructor
        · intro h
          obtain ⟨j, hj, he⟩ := mem_getD 0 h
          rw [List.length_take] at hj
          have hji : j < i := by omega
          exact ⟨j, hji, by rw [← he]; simp [List.getD, hji]⟩
        · rintro ⟨j, hj, rfl⟩
          have : (l.take i).getD j 0 = l.getD j 0 := by simp [List.getD, hj]
          rw [← this]; exact getD_mem (by rw [List.length_take]; omega)
      rw [tc, td, firsts_snoc, firsts_snoc]
      by_cases h1 : d.getD i 0 ∈ d.take i
      · obtain ⟨j, hj, he⟩ := (memt (by omega)).1 h1
        have h2 : c.getD i 0 ∈ c.take i := (memt (by omega)).2 ⟨j, hj, hr j i (by omega) (by omega) he⟩
        rw [if_pos h1, if_pos h2]
        refine ⟨ih.1, fun e x y hx hy hxy => ?_⟩
        have hcj := hr j i (by omega) (by omega) he
        have step : ∀ z, z < i → c.getD z 0 = c.getD i 0 → d.getD z 0 = d.getD i 0 := fun z hz hzi => (ih.2 e z j hz hj (hzi.trans hcj.symm)).trans he
        rcases Nat.lt_or_ge x i with hxi | hxi <;> rcases Nat.lt_or_ge y i with hyi | hyi
        · exact ih.2 e x y hxi hyi hxy
        · obtain rfl : y = i := by omega
          exact step x hxi hxy
        · obtain rfl : x = i := by omega
          exact (step y hyi hxy.symm).symm
        · obtain rfl : x = i := by omega
          obtain rfl : y = x := by omega
          rfl
      · rw [if_neg h1]
        by_cases h2 : c.getD i 0 ∈ c.take i
        · rw [if_pos h2, List.length_append, List.length_singleton]
          exact ⟨by omega, fun e => by omega⟩
        · rw [if_neg h2]
          simp only [List.length_append, List.length_singleton]
          refine ⟨by omega, fun e x y hx hy hxy => ?_⟩
          have ih2 := ih.2 (by omega)
          have no : ∀ z, z < i → c.getD z 0 ≠ c.getD i 0 := fun z hz hzi => h2 ((memt (by omega)).2 ⟨z, hz, hzi⟩)
          rcases Nat.lt_or_ge x i with hxi | hxi <;> rcases Nat.lt_or_ge y i with hyi | hyi
          · exact ih2 x y hxi hyi hxy
          · obtain rfl : y = i := by omega
            exact absurd hxy (no x hxi)
          · obtain rfl : x = i := by omega
            exact absurd hxy.symm (no y hyi)
          · obtain rfl : x = i := by omega
            obtain rfl : y = x := by omega
            rfl
  have := hle c.length (Nat.le_refl _)
  rw [List.take_length, hl, List.take_length] at this
  refine ⟨this.1, fun e => ?_⟩
  rw [← hc, ← hd]
  exact (canon_congr (d := 0) (e := 0) hl fun i j hi hj => ⟨fun h => this.2 e i j (by omega) (by omega) h, fun h => hr i j hi hj h⟩).symm
end Go.Proofs.Ytjlkhjgnfnfmgaa
end
section
/- The abstract machine: a slice that is lent, taken as a stack from the start. -/
namespace Go.AM
open Go
def stkB : Blk → Blk
  | .vec 0 r [] => .stk r.len r | b => b
def stk1 (k : Nat) : Store → Store
  | [] => []
  | (j, b) :: S => match Nat.beq j k with
    | true => (j, stkB b) :: S
    | false => (j, b) :: stk1 k S
theorem find_stk (k : Nat) : ∀ (S : Store) (j : Nat), findS (stk1 k S) j = if j = k then (findS S k).map stkB else findS S j
  | [], j => by simp [stk1, findS]
  | (i, b) :: S, j => by
    have ih := find_stk k S j
    cases hb : Nat.beq i k with
    | true =>
      have hik : i = k := beq_iff'.1 hb
      subst hik
      have e : stk1 i ((i, b) :: S) = (i, stkB b) :: S := by
        show (match Nat.beq i i with | true => _ | false => _) = _
        rw [hb]
      rw [e]
      have hii : Nat.beq i i = true := beq_iff'.2 rfl
      by_cases hj : j = i
      · subst hj; simp [findS]
      · have : Nat.beq i j = false := by
          cases h : Nat.beq i j with
          | true => exact absurd (beq_iff'.1 h).symm hj
          | false => rfl
        simp [findS, this, hj]
    | false =>
      have e : stk1 k ((i, b) :: S) = (i, b) :: stk1 k S := by
        show (match Nat.beq i k with | true => _ | false => _) = _
        rw [hb]
      rw [e]
      have hki : Nat.beq i k = false := hb
      cases h : Nat.beq i j with
      | true =>
        have : i = j := beq_iff'.1 h
        subst this
        have hik : i ≠ k := beq_false hb
        simp [findS, hik]
      | false =>
        simp only [findS, h, hki]
        exact ih
section
variable {P : Program} {TY : List TyE} {M0 : Base} {w0 w : World} {ρ : Env} {M : Msk} {S : Store}
def stE (k : Nat) (ρ : Env) : Env := fun j => if j = k then (match ρ k with | some (.sl o) => some (.st o o) | x => x) else ρ j
theorem stE_view (k : Nat) (ρ : Env) : View ρ (stE k ρ) := by
  refine ⟨fun j o h => ?_, fun j off v h => ?_⟩
  · by_cases e : j = k
    · subst e
      cases hr : ρ j with
      | none => rw [hr] at h; cases h
      | some x => rw [hr] at h; cases x <;> simp only [stE, if_pos, hr] <;> exact h
    · simp only [stE, e, if_false]; exact h
  · by_cases e : j = k
    · subst e
      cases hr : ρ j with
      | none => rw [hr] at h; cases h
      | some x => rw [hr] at h; cases x <;> simp only [stE, if_pos, hr] <;> first | exact h | cases h
    · simp only [stE, e, if_false]; exact h
theorem stE_has {k j b : Nat} (h : hasB (stE k ρ) j b) : hasB ρ j b := by
  by_cases e : j = k
  · subst e
    unfold hasB at h ⊢
    cases hr : ρ j with
    | none => simp [stE, hr] at h
    | some x =>
      cases x <;> simp only [stE, if_pos, hr] at h <;> first | exact h | exact h.elim id id
  · unfold hasB at h ⊢
    simp only [stE, e, if_false] at h; exact h
theorem St.toStk (st : St M0 w0 ρ M S w) {k : Nat} {r : RO} (hf : findS S k = some (.vec 0 r [])) : St M0 w0 (stE k ρ) M (stk1 k S) w := by
  have hv := stE_view k ρ
  refine ⟨fun j => ?_, fun j B hB => ?_, fun i j b hi hj => st.inj i j b (stE_has hi) (stE_has hj), st.mlt, st.stp, st.sub, st.old, fun j b h => st.fresh j b (stE_has h), fun j o hl ho => ?_⟩
  · rw [find_stk]
    by_cases e : j = k
    · subst e
      rw [if_pos rfl, Option.isSome_map, ← st.dom j]
      simp only [stE, if_pos]
      cases ρ j with
      | none => rfl
      | some x => cases x <;> rfl
    · rw [if_neg e, ← st.dom j]
      simp only [stE, e, if_false]
  · rw [find_stk] at hB
    by_cases e : j = k
    · subst e
      rw [if_pos rfl, hf] at hB
      have hB : Blk.stk r.len r = B := by simpa [stkB] using hB
      subst hB
      obtain ⟨⟨o, h1, h2⟩, _⟩ := st.blk j _ hf
      refine ⟨o, o, by simp [stE, h1], h2.view hv, ?_⟩
      obtain ⟨h3, h4, h5, _, h6⟩ := h2
      refine ⟨h3, h4, h5, ?_⟩
      cases hb : o.blk with
      | none => simp only [hb] at h6 ⊢; exact h6
      | some b =>
        simp only [hb] at h6 ⊢
        obtain ⟨h7, cs, ty, h8, h9, h10, _⟩ := h6
        exact ⟨h7, cs, ty, h8, h9, fun off => by rw [h10 off]; simp⟩
    · rw [if_neg e] at hB
      have := st.blk j B hB
      have he : stE k ρ j = ρ j := by simp [stE, e]
      cases B with
      | vec wm r ov => obtain ⟨⟨o, h1, h2⟩, h3⟩ := this; exact ⟨⟨o, by rw [he]; exact h1, h2.view hv⟩, h3⟩
      | box l => obtain ⟨b, h1, cs, ty, h2, h3, h4⟩ := this; exact ⟨b, by rw [he]; exact h1, cs, ty, h2, h3, h4.imp fun _ _ => RepC.view hv⟩
      | map kd vk m => obtain ⟨b, h1, h2⟩ := this; exact ⟨b, by rw [he]; exact h1, h2⟩
      | deep r hole => obtain ⟨o, rows, h1, h2⟩ := this; exact ⟨o, rows, by rw [he]; exact h1, h2⟩
      | stk n r => obtain ⟨o, cur, h1, h2, h3⟩ := this; exact ⟨o, cur, by rw [he]; exact h1, h2.view hv, h3⟩
      | jnk n z => obtain ⟨o, h1, h2⟩ := this; exact ⟨o, by rw [he]; exact h1, h2⟩
  · by_cases e : j = k
    · subst e
      cases hr : ρ j with
      | none => simp [stE, hr] at ho
      | some x =>
        have := st.pin j x hl hr
        cases x <;> simp only [stE, if_pos, hr, Option.some.injEq] at ho <;> subst ho <;> exact this
    · simp only [stE, e, if_false] at ho; exact st.pin j o hl ho
theorem fnS_of_ex (hty : TyOk P TY) {F : Spec} (hF : SpecOk P F) (hm : P.follows .mixedOrders = true) {f : FuncId} {fn : Func} (hf : P.funcs[f]? = some fn) (hname : fn.name ≠ "runtime.NumGoroutine") (hb : fn.body.isSome = true)
    {args : List AV} {S1 : Store} {ret : AV} {S2 : Store} {k : Nat} {r : RO} (hk : findS S1 k = some (.vec 0 r [])) (h : factsL args → fnMK TY F fn args (stk1 k S1) ret S2) : FnM P f args S1 ret S2 := by
  refine ⟨⟨fn, hf, hname, hb⟩, fun ρ M w vs st hv => ?_⟩
  have h := h (facts_L hv)
  obtain ⟨c, hc⟩ := Option.isSome_iff_exists.1 hb
  simp only [fnMK, hc] at h
  refine calls_of_wp hf hc ?_
  have hvl : args.length = vs.length := hv.length
  refine exK_sound hty hF hm c h (M0 := lentBase ρ M) (w0 := w) (ρ := stE k ρ) (M := M) (st.toStk hk)
    ⟨rfl, ?_, fun i => ?_⟩ fun e a w' hE => ?_
  · simp [evalF_app, len_repl, drop_eq, hvl]
  · rw [nth_app]
    split
    · rename_i hi
      obtain ⟨v, h1, h2⟩ := hv.get i hi
      have : (vs.toArray ++ Array.replicate (fn.ntmps - vs.toArray.size) undef).getD i undef = v := by
        rw [Array.getD_eq_getD_getElem?, Array.getElem?_append_left (by simp; omega)]
        simp [h1]
      rw [this]; exact h2.view (stE_view k ρ)
    · rw [nth_repl]; trivial
  · obtain ⟨ρ', M', T, S, h1, st, tm, _⟩ := hE
    cases e with
    | exit i => exact h1.elim
    | normal =>
      obtain ⟨T', S', ρ2, g1, g2, g3, _⟩ := unstk_sound h1 st tm
      exact endM_sound hty g2 g3 g1
    | ret =>
      obtain ⟨T', S', ρ2, g1, g2, g3, _⟩ := unstk_sound h1 st tm
      exact endM_sound hty g2 g3 g1
end
end Go.AM
end
section
/- More idioms of stepping: loops with five to nine things that change. -/
namespace Go.Proofs.Ytjlkhjgnfnfmgaa
open Go Go.AM
abbrev un5 {A B C D E : Type} {γ : Sort _} (f : A → B → C → D → E → γ) (p : A × B × C × D × E) : γ := match p with | (a, b, c, d, e) => f a b c d e
theorem lp5 {A B C D E5 : Type} (U : A → B → C → D → E5 → List (Nat × AV)) (V : A → B → C → D → E5 → Store) (ok : A → B → C → D → E5 → Prop) (μ : A → B → C → D → E5 → Nat) (a0 : A) (b0 : B) (c0 : C) (d0 : D) (e0 : E5) {E Bd : (Y : Type) → (Y → List (Nat × AV)) → (Y → Store) → (Y → Prop) → (Y → Nat) → Y → Prop}
    (h0 : ok a0 b0 c0 d0 e0) (h1 : E (A × B × C × D × E5) (un5 U) (un5 V) (un5 ok) (un5 μ) (a0, b0, c0, d0, e0)) (h2 : ∀ a b c d e, ok a b c d e → Bd (A × B × C × D × E5) (un5 U) (un5 V) (un5 ok) (un5 μ) (a, b, c, d, e)) :
    ∃ (X : Type) (U : X → List (Nat × AV)) (V : X → Store) (ok : X → Prop) (μ : X → Nat) (x0 : X), (ok x0 ∧ E X U V ok μ x0) ∧ ∀ x, ok x → Bd X U V ok μ x :=
  ⟨A × B × C × D × E5, un5 U, un5 V, un5 ok, un5 μ, (a0, b0, c0, d0, e0), ⟨h0, h1⟩, fun (a, b, c, d, e) h => h2 a b c d e h⟩
abbrev un7 {A B C D E F G : Type} {γ : Sort _} (f : A → B → C → D → E → F → G → γ) (p : A × B × C × D × E × F × G) : γ := match p with | (a, b, c, d, e, g, h) => f a b c d e g h
theorem lp7 {A B C D E5 F6 G7 : Type} (U : A → B → C → D → E5 → F6 → G7 → List (Nat × AV)) (V : A → B → C → D → E5 → F6 → G7 → Store) (ok : A → B → C → D → E5 → F6 → G7 → Prop) (μ : A → B → C → D → E5 → F6 → G7 → Nat) (a0 : A) (b0 : B) (c0 : C) (d0 : D) (e0 : E5) (f0 : F6) (g0 : G7) {E Bd : (Y : Type) → (Y → List (Nat × AV)) → (Y → Store) → (Y → Prop) → (Y → Nat) → Y → Prop}
    (h0 : ok a0 b0 c0 d0 e0 f0 g0) (h1 : E (A × B × C × D × E5 × F6 × G7) (un7 U) (un7 V) (un7 ok) (un7 μ) (a0, b0, c0, d0, e0, f0, g0)) (h2 : ∀ a b c d e f g, ok a b c d e f g → Bd (A × B × C × D × E5 × F6 × G7) (un7 U) (un7 V) (un7 ok) (un7 μ) (a, b, c, d, e, f, g)) :
    ∃ (X : Type) (U : X → List (Nat × AV)) (V : X → Store) (ok : X → Prop) (μ : X → Nat) (x0 : X), (ok x0 ∧ E X U V ok μ x0) ∧ ∀ x, ok x → Bd X U V ok μ x :=
  ⟨A × B × C × D × E5 × F6 × G7, un7 U, un7 V, un7 ok, un7 μ, (a0, b0, c0, d0, e0, f0, g0), ⟨h0, h1⟩, fun (a, b, c, d, e, f, g) h => h2 a b c d e f g h⟩
theorem mkS {f : FuncId} {fn : Func} {args : List AV} {S1 S2 : Store} {ret : AV} (k : Nat) {r : RO} (hk : findS S1 k = some (.vec 0 r [])) (hf : Try.prog.funcs[f]? = some fn) (hn : fn.name ≠ "runtime.NumGoroutine") (hb : fn.body.isSome = true)
    (h : factsL args → fnMK TY SP fn args (stk1 k S1) ret S2) : MF f args S1 ret S2 := fnS_of_ex tyOk (specOf_ok _) mixed hf hn hb hk h
end Go.Proofs.Ytjlkhjgnfnfmgaa
end
section
/- The reference's generated congruence: contract. -/
namespace Go.Proofs.Ytjlkhjgnfnfmgaa
open Go Go.AM
set_option maxRecDepth 100000
def b1 (b : Bool) : Nat := match b with | true => 1 | false => 0
end Go.Proofs.Ytjlkhjgnfnfmgaa
end
section
/- Plain: the quotient of a table by a congruence. -/
namespace Go.Proofs.Ytjlkhjgnfnfmgaa
open Go Go.AM
def hdN (p : List Int) (c : Nat) : Nat := (((classes (classN p) p).getD c []).getD 0 0).toNat
def quoR (t : List (List Int)) (p : List Int) (c : Nat) : List Int := (List.range (classN p)).map fun d => p.getD (en t (hdN p c) (hdN p d)) 0
def quoL (t : List (List Int)) (p : List Int) : List (List Int) := (List.range (classN p)).map fun c => quoR t p c
section
variable {t : List (List Int)} {p : List Int}
theorem cls_pos (hp : canon p = p) {c : Nat} (hc : c < classN p) : 0 < ((classes (classN p) p).getD c []).length := by
  have hm := (valid_range hp (c : Int)).1 ⟨by omega, by omega⟩
  obtain ⟨i, hi, he⟩ := mem_getD 0 hm
  have := (mem_classes (p := p) hc (x := (i : Int))).2 ⟨by omega, by omega, by rw [Int.toNat_natCast]; exact he⟩
  exact List.length_pos_of_mem this
theorem hd_at (hp : canon p = p) {c : Nat} (hc : c < classN p) : hdN p c < p.length ∧ p.getD (hdN p c) 0 = (c : Int) ∧ ((classes (classN p) p).getD c []).getD 0 0 = (hdN p c : Int) := by
  have hm := (mem_classes hc).1 (getD_mem (d := 0) (cls_pos hp hc))
  unfold hdN
  exact ⟨by omega, hm.2.2, by omega⟩
theorem cls_lt (hp : canon p = p) {x : Nat} (hx : x < p.length) : 0 ≤ p.getD x 0 ∧ (p.getD x 0).toNat < classN p ∧ p.getD x 0 = ((p.getD x 0).toNat : Int) := by
  have := (valid_range hp (p.getD x 0)).2 (getD_mem hx)
  omega
theorem quoR_len {c : Nat} : (quoR t p c).length = classN p := by simp [quoR]
theorem quoR_get {c d : Nat} (hd : d < classN p) : (quoR t p c).getD d 0 = p.getD (en t (hdN p c) (hdN p d)) 0 := by simp [quoR, List.getD, hd]
theorem quoL_len : (quoL t p).length = classN p := by simp [quoL]
theorem quoL_get {c : Nat} (hc : c < classN p) : (quoL t p).getD c [] = quoR t p c := by simp [quoL, List.getD, hc]
theorem cg_both (_hs : Sh t) (_hl : p.length = t.length) (hg : Cg t p 0) {x y x' y' : Nat} (hx : x < t.length) (hy : y < t.length) (hx' : x' < t.length) (hy' : y' < t.length) (h1 : p.getD x 0 = p.getD x' 0) (h2 : p.getD y 0 = p.getD y' 0) :
    p.getD (en t x y) 0 = p.getD (en t x' y') 0 :=
  ((hg x x' y hx hx' hy h1).2 (by decide)).trans ((hg y y' x' hy hy' hx' h2).1 (by decide))
theorem quo_hom (hs : Sh t) (hl : p.length = t.length) (hp : canon p = p) (hg : Cg t p 0) {x y : Nat} (hx : x < t.length) (hy : y < t.length) :
    ((quoL t p).getD (p.getD x 0).toNat []).getD (p.getD y 0).toNat 0 = p.getD (en t x y) 0 := by
  have h1 := cls_lt hp (x := x) (by omega)
  have h2 := cls_lt hp (x := y) (by omega)
  have k1 := hd_at hp h1.2.1
  have k2 := hd_at hp h2.2.1
  rw [quoL_get h1.2.1, quoR_get h2.2.1]
  exact (cg_both hs hl hg hx hy (by omega) (by omega) (by omega) (by omega)).symm
theorem quo_en_hom (hs : Sh t) (hl : p.length = t.length) (hp : canon p = p) (hg : Cg t p 0) {x y : Nat} (hx : x < t.length) (hy : y < t.length) :
    en (quoL t p) (p.getD x 0).toNat (p.getD y 0).toNat = (p.getD (en t x y) 0).toNat := by
  unfold en; rw [quo_hom hs hl hp hg hx hy]; rfl
theorem cls_some (hs : Sh t) (hl : p.length = t.length) : 0 < classN p := by
  have := hs.pos
  cases p with
  | nil => simp at hl; omega
  | cons a l =>
    have hm : a ∈ firsts (a :: l) := mem_firsts.2 (by simp)
    exact List.length_pos_of_mem hm
theorem quo_sh (hs : Sh t) (hl : p.length = t.length) (hp : canon p = p) : Sh (quoL t p) := by
  have hle : classN p ≤ p.length := firsts_le p
  have hm := hs.most
  refine ⟨by rw [quoL_len]; exact cls_some hs hl, by rw [quoL_len]; omega, fun r hr => ?_⟩
  obtain ⟨c, hc, rfl⟩ := mem_getD [] hr
  rw [quoL_len] at hc
  rw [quoL_get hc]
  refine ⟨by rw [quoR_len, quoL_len], fun x hx => ?_⟩
  obtain ⟨d, hd, rfl⟩ := mem_getD 0 hx
  rw [quoR_len] at hd
  rw [quoR_get hd, quoL_len]
  have k1 := hd_at hp hc
  have k2 := hd_at hp hd
  have k3 := cls_lt hp (x := en t (hdN p c) (hdN p d)) (by rw [hl]; exact (hs.ent (by omega) (by omega)).2)
  omega
theorem cls_rep (hl : p.length = t.length) (hp : canon p = p) {c : Nat} (hc : c < classN p) : ∃ x, x < t.length ∧ (p.getD x 0).toNat = c := by
  have k := hd_at hp hc
  exact ⟨hdN p c, by omega, by omega⟩
theorem quo_semi (hs : Semi t) (hl : p.length = t.length) (hp : canon p = p) (hg : Cg t p 0) : Semi (quoL t p) := by
  refine ⟨quo_sh hs.toSh hl hp, fun b hb a c ha hc => ?_⟩
  rw [quoL_len] at hb ha hc
  obtain ⟨x, hx, rfl⟩ := cls_rep hl hp ha
  obtain ⟨y, hy, rfl⟩ := cls_rep hl hp hb
  obtain ⟨z, hz, rfl⟩ := cls_rep hl hp hc
  have hS := hs.toSh
  rw [quo_en_hom hS hl hp hg hx hy, quo_en_hom hS hl hp hg hy hz, quo_en_hom hS hl hp hg (hS.ent hx hy).2 hz, quo_en_hom hS hl hp hg hx (hS.ent hy hz).2, assoc3 hs.assoc hx hy hz]
/-! ### How the rows are filled -/
def QuoIn (t : List (List Int)) (p : List Int) (i : Nat) (l : List (List Int)) : Prop :=
  l.length = classN p ∧ ∀ c, c < classN p → ((∃ x, x < i ∧ p.getD x 0 = (c : Int)) → l.getD c [] = quoR t p c) ∧ ((∀ x, x < i → p.getD x 0 ≠ (c : Int)) → l.getD c [] = [])
theorem QuoIn.start : QuoIn t p 0 (List.replicate (classN p) []) := ⟨by simp, fun c hc => ⟨fun ⟨x, hx, _⟩ => absurd hx (Nat.not_lt_zero _), fun _ => by simp [List.getD, hc]⟩⟩
theorem QuoIn.old (hp : canon p = p) {i : Nat} {l : List (List Int)} (h : QuoIn t p i l) (hi : i < p.length) (hn : l.getD (p.getD i 0).toNat [] ≠ []) : QuoIn t p (i + 1) l := by
  have hc := cls_lt hp hi
  have hsome : ∃ x, x < i ∧ p.getD x 0 = p.getD i 0 := Classical.byContradiction fun hne => hn ((h.2 _ hc.2.1).2 fun x hx e => hne ⟨x, hx, by rw [e]; exact hc.2.2.symm⟩)
  refine ⟨h.1, fun c hcc => ⟨fun ⟨x, hx, he⟩ => (h.2 c hcc).1 ?_, fun hno => (h.2 c hcc).2 fun x hx => hno x (by omega)⟩⟩
  by_cases hxi : x < i
  · exact ⟨x, hxi, he⟩
  · have : x = i := by omega
    subst this
    obtain ⟨y, hy, hye⟩ := hsome
    exact ⟨y, hy, hye.trans he⟩
theorem QuoIn.new (hp : canon p = p) {i : Nat} {l : List (List Int)} (h : QuoIn t p i l) (hi : i < p.length) {r : List Int} (hr : r = quoR t p (p.getD i 0).toNat) : QuoIn t p (i + 1) (l.set (p.getD i 0).toNat r) := by
  have hc := cls_lt hp hi
  have hlt : (p.getD i 0).toNat < l.length := by rw [h.1]; exact hc.2.1
  refine ⟨by rw [List.length_set]; exact h.1, fun c hcc => ?_⟩
  rw [getD_set _ _ _ _ _ hlt]
  by_cases e : c = (p.getD i 0).toNat
  · subst e
    rw [if_pos rfl]
    exact ⟨fun _ => hr, fun hno => absurd hc.2.2 (hno i (by omega))⟩
  · rw [if_neg e]
    refine ⟨fun ⟨x, hx, he⟩ => (h.2 c hcc).1 ⟨x, ?_, he⟩, fun hno => (h.2 c hcc).2 fun x hx => hno x (by omega)⟩
    rcases Nat.lt_or_ge x i with hxi | hxi
    · exact hxi
    · have : x = i := by omega
      subst this
      omega
theorem QuoIn.done (hp : canon p = p) {l : List (List Int)} {i : Nat} (h : QuoIn t p i l) (hi : p.length ≤ i) : l = quoL t p := by
  refine ext_getD [] (by rw [h.1, quoL_len]) fun c hc => ?_
  rw [h.1] at hc
  rw [quoL_get hc]
  have k := hd_at hp hc
  exact (h.2 c hc).1 ⟨hdN p c, by omega, k.2.1⟩
def RowIn (t : List (List Int)) (p : List Int) (i j : Nat) (r : List Int) : Prop :=
  r.length = classN p ∧ ∀ d, d < classN p → (∃ y, y < j ∧ p.getD y 0 = (d : Int)) → r.getD d 0 = p.getD (en t i (hdN p d)) 0
theorem RowIn.start {i : Nat} : RowIn t p i 0 (List.replicate (classN p) 0) := ⟨by simp, fun d _ ⟨y, hy, _⟩ => absurd hy (Nat.not_lt_zero _)⟩
theorem RowIn.next (hs : Sh t) (hl : p.length = t.length) (hp : canon p = p) (hg : Cg t p 0) {i j : Nat} {r : List Int} (h : RowIn t p i j r) (hi : i < t.length) (hj : j < p.length) : RowIn t p i (j + 1) (r.set (p.getD j 0).toNat (p.getD (en t i j) 0)) := by
  have hc := cls_lt hp hj
  have hlt : (p.getD j 0).toNat < r.length := by rw [h.1]; exact hc.2.1
  refine ⟨by rw [List.length_set]; exact h.1, fun d hd ⟨y, hy, he⟩ => ?_⟩
  rw [getD_set _ _ _ _ _ hlt]
  by_cases e : d = (p.getD j 0).toNat
  · subst e
    rw [if_pos rfl]
    have k := hd_at hp hd
    exact cg_both hs hl hg hi (by omega) hi (by omega) rfl (by rw [k.2.1]; exact hc.2.2)
  · rw [if_neg e]
    refine h.2 d hd ⟨y, ?_, he⟩
    rcases Nat.lt_or_ge y j with hyj | hyj
    · exact hyj
    · have : y = j := by omega
      subst this
      omega
theorem RowIn.done (hs : Sh t) (hl : p.length = t.length) (hp : canon p = p) (hg : Cg t p 0) {i j : Nat} {r : List Int} (h : RowIn t p i j r) (hi : i < t.length) (hj : p.length ≤ j) : r = quoR t p (p.getD i 0).toNat := by
  have hc := cls_lt hp (x := i) (by omega)
  refine ext_getD 0 (by rw [h.1, quoR_len]) fun d hd => ?_
  rw [h.1] at hd
  have k := hd_at hp hd
  have k2 := hd_at hp hc.2.1
  rw [h.2 d hd ⟨hdN p d, by omega, k.2.1⟩, quoR_get hd]
  exact cg_both hs hl hg hi (by omega) (by omega) (by omega) (by rw [k2.2.1]; exact hc.2.2) rfl
end
end Go.Proofs.Ytjlkhjgnfnfmgaa
end
section
/- The reference's relations of Green (semigroupref15): contracts; the class of a table (semigroupref17). -/
namespace Go.Proofs.Ytjlkhjgnfnfmgaa
open Go Go.AM
set_option maxRecDepth 100000
def rowsB (n : Nat) (e : Nat → Nat → Bool) : List (List Bool) := (List.range n).map fun x => setB n (e x)
end Go.Proofs.Ytjlkhjgnfnfmgaa
end
section
/- The members of a set; regular matrices, by the reference. -/
namespace Go.Proofs.Ytjlkhjgnfnfmgaa
open Go Go.AM
set_option maxRecDepth 100000
def memTo (l : List Bool) (k : Nat) : List Int := ((List.range k).filter fun i => l.getD i false).map fun i : Nat => (i : Int)
def memV (l : List Bool) : List Int := memTo l l.length
theorem memTo_len {l : List Bool} {k : Nat} : (memTo l k).length ≤ k := by
  unfold memTo; rw [List.length_map]
  exact Nat.le_trans (List.length_filter_le _ _) (by simp)
end Go.Proofs.Ytjlkhjgnfnfmgaa
end
section
/- Ideals of a table: plain. -/
namespace Go.Proofs.Ytjlkhjgnfnfmgaa
open Go Go.AM
open Classical
theorem memV_mem {l : List Bool} {x : Int} : x ∈ memV l ↔ ∃ i : Nat, i < l.length ∧ l.getD i false = true ∧ x = (i : Int) := by
  unfold memV memTo
  simp only [List.mem_map, List.mem_filter, List.mem_range]
  constructor
  · rintro ⟨i, ⟨h1, h2⟩, rfl⟩; exact ⟨i, h1, h2, rfl⟩
  · rintro ⟨i, h1, h2, rfl⟩; exact ⟨i, ⟨h1, h2⟩, rfl⟩
def ascV (n : Nat) (f : Nat → Bool) : List Int := memV (setB n f)
theorem ascV_mem {n : Nat} {f : Nat → Bool} {x : Int} : x ∈ ascV n f ↔ ∃ i : Nat, i < n ∧ f i = true ∧ x = (i : Int) := by
  unfold ascV
  rw [memV_mem, setB_len]
  constructor
  · rintro ⟨i, h1, h2, h3⟩; rw [setB_get h1] at h2; exact ⟨i, h1, h2, h3⟩
  · rintro ⟨i, h1, h2, h3⟩; exact ⟨i, h1, by rw [setB_get h1]; exact h2, h3⟩
theorem ascV_len (n : Nat) (f : Nat → Bool) : (ascV n f).length ≤ n := by
  have h := memTo_len (l := setB n f) (k := (setB n f).length)
  rw [setB_len] at h
  unfold ascV memV
  rw [setB_len]; exact h
def inT (t : List (List Int)) (l : List Int) : Prop := ∀ x ∈ l, 0 ≤ x ∧ x < (t.length : Int)
instance (t : List (List Int)) (l : List Int) : Decidable (inT t l) := by unfold inT; infer_instance
def Asc (l : List Int) : Prop := ∀ i, i + 1 < l.length → l.getD i 0 < l.getD (i + 1) 0
end Go.Proofs.Ytjlkhjgnfnfmgaa
end
