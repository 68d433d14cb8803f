import Derived.Test.YtpanlghofeebhaaIdealLaw
import Derived.Test.YtpanlghofeebhaaEqvLaw
import Derived.Test.YtpanlghofeebhaaGroup
section
/- Plain: the greatest congruence in a partition; how the splitter of congr makes it. -/
namespace Go.Proofs.Ytpanlghofeebhaa
open Go Go.AM
section
variable {t : List (List Int)} {p : List Int}
structure Syn (t : List (List Int)) (p : List Int) (x y : Nat) : Prop where
  own : p.getD x 0 = p.getD y 0
  one : ∀ u, u < t.length → p.getD (en t u x) 0 = p.getD (en t u y) 0 ∧ p.getD (en t x u) 0 = p.getD (en t y u) 0
  two : ∀ u v, u < t.length → v < t.length → p.getD (en t (en t u x) v) 0 = p.getD (en t (en t u y) v) 0
theorem Syn.refl (x : Nat) : Syn t p x x := ⟨rfl, fun _ _ => ⟨rfl, rfl⟩, fun _ _ _ _ => rfl⟩
theorem Syn.symm {x y : Nat} (h : Syn t p x y) : Syn t p y x := ⟨h.own.symm, fun u hu => ⟨(h.one u hu).1.symm, (h.one u hu).2.symm⟩, fun u v hu hv => (h.two u v hu hv).symm⟩
theorem Syn.trans {x y z : Nat} (h : Syn t p x y) (h' : Syn t p y z) : Syn t p x z :=
  ⟨h.own.trans h'.own, fun u hu => ⟨(h.one u hu).1.trans (h'.one u hu).1, (h.one u hu).2.trans (h'.one u hu).2⟩, fun u v hu hv => (h.two u v hu hv).trans (h'.two u v hu hv)⟩
noncomputable def synB (t : List (List Int)) (p : List Int) (x y : Nat) : Bool := @decide (Syn t p x y) (Classical.propDecidable _)
theorem synB_true {x y : Nat} : synB t p x y = true ↔ Syn t p x y := by unfold synB; exact @decide_eq_true_iff _ (Classical.propDecidable _)
theorem syn_pre (t : List (List Int)) (p : List Int) : Pre t.length (synB t p) :=
  pre_of (fun x _ => synB_true.2 (.refl x)) fun _ _ _ _ _ _ h h' => synB_true.2 ((synB_true.1 h).trans (synB_true.1 h'))
noncomputable def synP (t : List (List Int)) (p : List Int) : List Int := clsL t.length (synB t p)
theorem synP_len : (synP t p).length = t.length := clsL_len _ _
theorem synP_canon : canon (synP t p) = synP t p := canon_idem _
theorem synP_iff {a b : Nat} (ha : a < t.length) (hb : b < t.length) : (synP t p).getD a 0 = (synP t p).getD b 0 ↔ Syn t p a b := by
  unfold synP
  rw [clsL_iff (syn_pre t p) ha hb, synB_true, synB_true]
  exact ⟨fun h => h.1, fun h => ⟨h, h.symm⟩⟩
theorem syn_cg (h : Semi t) {x y s : Nat} (hx : x < t.length) (hy : y < t.length) (hs : s < t.length) (e : Syn t p x y) : Syn t p (en t s x) (en t s y) ∧ Syn t p (en t x s) (en t y s) := by
  have hS := h.toSh
  have a3 := fun {x y z : Nat} => assoc3 h.assoc (x := x) (y := y) (z := z)
  refine ⟨⟨(e.one s hs).1, fun u hu => ⟨?_, ?_⟩, fun u v hu hv => ?_⟩, ⟨(e.one s hs).2, fun u hu => ⟨?_, ?_⟩, fun u v hu hv => ?_⟩⟩
  · rw [← a3 hu hs hx, ← a3 hu hs hy]; exact (e.one _ (hS.ent hu hs).2).1
  · exact e.two s u hs hu
  · rw [← a3 hu hs hx, ← a3 hu hs hy]; exact e.two _ v (hS.ent hu hs).2 hv
  · rw [← a3 hu hx hs, ← a3 hu hy hs]; exact e.two u s hu hs
  · rw [a3 hx hs hu, a3 hy hs hu]; exact (e.one _ (hS.ent hs hu).2).2
  · rw [← a3 hu hx hs, ← a3 hu hy hs, a3 (hS.ent hu hx).2 hs hv, a3 (hS.ent hu hy).2 hs hv]; exact e.two u _ hu (hS.ent hs hv).2
theorem synP_cg (h : Semi t) : Cg t (synP t p) 0 := fun x y s hx hy hs e => by
  have hS := h.toSh
  have := syn_cg (p := p) h hx hy hs ((synP_iff hx hy).1 e)
  exact ⟨fun _ => (synP_iff (hS.ent hs hx).2 (hS.ent hs hy).2).2 this.1, fun _ => (synP_iff (hS.ent hx hs).2 (hS.ent hy hs).2).2 this.2⟩
theorem synP_valid (hs : Sh t) : validP (synP t p) := ⟨by rw [synP_len]; have := hs.most; omega, synP_canon⟩
theorem synP_is (h : Semi t) : IsCg t (synP t p) 0 := ⟨h, synP_len, synP_valid h.toSh, ⟨by omega, by omega⟩, synP_cg h⟩
theorem syn_great (hs : Sh t) {q : List Int} (hq : Cg t q 0) (hr : ∀ x y, x < t.length → y < t.length → q.getD x 0 = q.getD y 0 → p.getD x 0 = p.getD y 0) {x y : Nat} (hx : x < t.length) (hy : y < t.length) (e : q.getD x 0 = q.getD y 0) : Syn t p x y := by
  have l := fun {x y s : Nat} (hx : x < t.length) (hy : y < t.length) (hs : s < t.length) e => (hq x y s hx hy hs e).1 (by decide)
  have r := fun {x y s : Nat} (hx : x < t.length) (hy : y < t.length) (hs : s < t.length) e => (hq x y s hx hy hs e).2 (by decide)
  exact ⟨hr x y hx hy e, fun u hu => ⟨hr _ _ (hs.ent hu hx).2 (hs.ent hu hy).2 (l hx hy hu e), hr _ _ (hs.ent hx hu).2 (hs.ent hy hu).2 (r hx hy hu e)⟩,
    fun u v hu hv => hr _ _ (hs.ent (hs.ent hu hx).2 hv).2 (hs.ent (hs.ent hu hy).2 hv).2 (r (hs.ent hu hx).2 (hs.ent hu hy).2 hv (l hx hy hu e))⟩
theorem synP_of (h : Semi t) {c : List Int} (hl : c.length = t.length) (h1 : ∀ x y, x < t.length → y < t.length → c.getD x 0 = c.getD y 0 → p.getD x 0 = p.getD y 0) (h2 : ∀ x y, x < t.length → y < t.length → Syn t p x y → c.getD x 0 = c.getD y 0) (h3 : Cg t c 0) : canon c = synP t p := by
  refine ker_clsL (syn_pre t p) hl fun a b ha hb => ?_
  rw [synB_true, synB_true]
  exact ⟨fun e => ⟨syn_great h.toSh h3 h1 ha hb e, (syn_great h.toSh h3 h1 ha hb e).symm⟩, fun e => h2 a b ha hb e.1⟩
theorem synP_congr (hs : Sh t) {q : List Int} (h : ∀ x y, x < t.length → y < t.length → (p.getD x 0 = p.getD y 0 ↔ q.getD x 0 = q.getD y 0)) : synP t p = synP t q := by
  have key : ∀ {p q : List Int}, (∀ x y, x < t.length → y < t.length → (p.getD x 0 = p.getD y 0 ↔ q.getD x 0 = q.getD y 0)) → ∀ a b, a < t.length → b < t.length → Syn t p a b → Syn t q a b := fun {p q} h a b ha hb e =>
    ⟨(h a b ha hb).1 e.own, fun u hu => ⟨(h _ _ (hs.ent hu ha).2 (hs.ent hu hb).2).1 (e.one u hu).1, (h _ _ (hs.ent ha hu).2 (hs.ent hb hu).2).1 (e.one u hu).2⟩,
      fun u v hu hv => (h _ _ (hs.ent (hs.ent hu ha).2 hv).2 (hs.ent (hs.ent hu hb).2 hv).2).1 (e.two u v hu hv)⟩
  rw [← synP_canon (p := p), ← synP_canon (p := q)]
  refine ker_canon synP_len synP_len fun a b ha hb => ?_
  rw [synP_iff ha hb, synP_iff ha hb]
  exact ⟨key h a b ha hb, key (fun x y hx hy => (h x y hx hy).symm) a b ha hb⟩
end
/-! ### The splitter -/
section
variable {α : Type} [DecidableEq α]
def idxD (l : List α) (q : α) : Nat := l.idxOf q
theorem firsts_in {l : List α} {x : α} (h : x ∈ l) : firsts (l ++ [x]) = firsts l := by rw [firsts_snoc, if_pos h]
theorem firsts_out {l : List α} {x : α} (h : x ∉ l) : firsts (l ++ [x]) = firsts l ++ [x] := by rw [firsts_snoc, if_neg h]
theorem canon_in {l : List α} {d : α} {i : Nat} (h : i < l.length) (hm : l.getD i d ∈ l.take i) : (canon l).getD i 0 = (idxD (firsts (l.take i)) (l.getD i d) : Nat) := by rw [canon_at (d := d) h, if_pos hm]; rfl
theorem canon_out {l : List α} {d : α} {i : Nat} (h : i < l.length) (hm : l.getD i d ∉ l.take i) : (canon l).getD i 0 = ((firsts (l.take i)).length : Nat) := by rw [canon_at (d := d) h, if_neg hm]
theorem idxD_in {l m : List α} {q : α} (h : q ∈ l) : idxD (l ++ m) q = idxD l q := by unfold idxD; rw [List.idxOf_append, if_pos h]
theorem idxD_out {l : List α} {q : α} (h : q ∉ l) : idxD (l ++ [q]) q = l.length := by unfold idxD; rw [List.idxOf_append, if_neg h]; simp
end
def spP (c im : List Int) : List (Int × Int) := (List.range c.length).map fun x => (c.getD x 0, c.getD (im.getD x 0).toNat 0)
def spC (c im : List Int) : List Int := canon (spP c im)
theorem spP_len (c im : List Int) : (spP c im).length = c.length := by simp [spP]
theorem spC_len (c im : List Int) : (spC c im).length = c.length := by unfold spC; rw [canon_length, spP_len]
theorem spP_get {c im : List Int} {x : Nat} (h : x < c.length) : (spP c im).getD x (0, 0) = (c.getD x 0, c.getD (im.getD x 0).toNat 0) := by simp [spP, List.getD, h]
theorem spC_iff {c im : List Int} {x y : Nat} (hx : x < c.length) (hy : y < c.length) : (spC c im).getD x 0 = (spC c im).getD y 0 ↔ c.getD x 0 = c.getD y 0 ∧ c.getD (im.getD x 0).toNat 0 = c.getD (im.getD y 0).toNat 0 := by
  unfold spC
  rw [canon_eq_iff (d := (0, 0)) (by rw [spP_len]; exact hx) (by rw [spP_len]; exact hy), spP_get hx, spP_get hy, Prod.mk.injEq]
def spF (c im : List Int) (k : Nat) : List (Int × Int) := firsts ((spP c im).take k)
def codN (n : Nat) (q : Int × Int) : Nat := (q.1 * n + q.2).toNat
def spM (c im : List Int) (round : Int) (M L : List Int) : Nat → List Int × List Int
  | 0 => (M, L)
  | k + 1 => if (spM c im round M L k).1.getD (codN c.length ((spP c im).getD k (0, 0))) 0 = round then spM c im round M L k
    else ((spM c im round M L k).1.set (codN c.length ((spP c im).getD k (0, 0))) round, (spM c im round M L k).2.set (codN c.length ((spP c im).getD k (0, 0))) ((spF c im k).length : Int))
theorem cod_inj {n : Nat} {q q' : Int × Int} (h : 0 ≤ q.1 ∧ 0 ≤ q.2 ∧ q.2 < (n : Int)) (h' : 0 ≤ q'.1 ∧ 0 ≤ q'.2 ∧ q'.2 < (n : Int)) (e : codN n q = codN n q') : q = q' := by
  unfold codN at e
  have p1 : 0 ≤ q.1 * (n : Int) := Int.mul_nonneg h.1 (by omega)
  have p2 : 0 ≤ q'.1 * (n : Int) := Int.mul_nonneg h'.1 (by omega)
  have e : q.1 * (n : Int) + q.2 = q'.1 * (n : Int) + q'.2 := by omega
  have hn : (n : Int) ≠ 0 := by omega
  have e1 : (q.1 * (n : Int) + q.2) / (n : Int) = q.1 := by
    rw [Int.add_comm, Int.add_mul_ediv_right _ _ hn, Int.ediv_eq_zero_of_lt h.2.1 h.2.2]; omega
  have e2 : (q'.1 * (n : Int) + q'.2) / (n : Int) = q'.1 := by
    rw [Int.add_comm, Int.add_mul_ediv_right _ _ hn, Int.ediv_eq_zero_of_lt h'.2.1 h'.2.2]; omega
  have e3 : q.1 = q'.1 := by rw [← e1, ← e2, e]
  rw [e3] at e
  exact Prod.ext e3 (by omega)
structure SpI (c im : List Int) (round : Int) (M L : List Int) (k : Nat) : Prop where
  lm : M.length = c.length * c.length
  ll : L.length = c.length * c.length
  hi : ∀ x ∈ M, x ≤ round
  lo : ∀ x ∈ M, 0 ≤ x
  lab : ∀ x ∈ L, 0 ≤ x ∧ x ≤ (c.length : Int)
  mar : ∀ q : Int × Int, 0 ≤ q.1 → q.1 < (c.length : Int) → 0 ≤ q.2 → q.2 < (c.length : Int) → (M.getD (codN c.length q) 0 = round ↔ q ∈ (spP c im).take k)
  la : ∀ q : Int × Int, q ∈ (spP c im).take k → L.getD (codN c.length q) 0 = (idxD (spF c im k) q : Nat)
section
variable {c im : List Int} {round : Int} {M L : List Int} {k : Nat}
theorem cod_lt {n : Nat} {q : Int × Int} (h1 : 0 ≤ q.1) (h2 : q.1 < (n : Int)) (h3 : 0 ≤ q.2) (h4 : q.2 < (n : Int)) : codN n q < n * n ∧ (codN n q : Int) = q.1 * n + q.2 := by
  unfold codN
  have p1 : 0 ≤ q.1 * (n : Int) := Int.mul_nonneg h1 (by omega)
  have p2 : q.1 * (n : Int) ≤ ((n : Int) - 1) * n := Int.mul_le_mul_of_nonneg_right (by omega) (by omega)
  rw [Int.sub_mul] at p2
  have : ((n * n : Nat) : Int) = (n : Int) * n := by exact Int.natCast_mul n n
  omega
theorem SpI.start (hm : M.length = c.length * c.length) (hl : L.length = c.length * c.length) (hlt : ∀ x ∈ M, x < round) (hlo : ∀ x ∈ M, 0 ≤ x) (hL : ∀ x ∈ L, 0 ≤ x ∧ x ≤ (c.length : Int)) : SpI c im round M L 0 := by
  refine ⟨hm, hl, fun x hx => by have := hlt x hx; omega, hlo, hL, fun q h1 h2 h3 h4 => ?_, fun q h => by simp at h⟩
  have := hlt _ (getD_mem (d := 0) (i := codN c.length q) (l := M) (by rw [hm]; exact (cod_lt h1 h2 h3 h4).1))
  simp only [List.take_zero, List.not_mem_nil, iff_false]
  omega
theorem spP_in (hc : ∀ x ∈ c, 0 ≤ x ∧ x < (c.length : Int)) (him : ∀ x, x < c.length → 0 ≤ im.getD x 0 ∧ im.getD x 0 < (c.length : Int)) {q : Int × Int} (h : q ∈ spP c im) : (0 ≤ q.1 ∧ q.1 < (c.length : Int)) ∧ 0 ≤ q.2 ∧ q.2 < (c.length : Int) := by
  obtain ⟨x, hx, rfl⟩ := mem_getD (0, 0) h
  rw [spP_len] at hx
  rw [spP_get hx]
  have := him x hx
  exact ⟨hc _ (getD_mem hx), hc _ (getD_mem (by omega))⟩
theorem SpI.next (hc : ∀ x ∈ c, 0 ≤ x ∧ x < (c.length : Int)) (him : ∀ x, x < c.length → 0 ≤ im.getD x 0 ∧ im.getD x 0 < (c.length : Int)) (hr : 0 ≤ round) (h : SpI c im round (spM c im round M L k).1 (spM c im round M L k).2 k) (hk : k < c.length) :
    SpI c im round (spM c im round M L (k + 1)).1 (spM c im round M L (k + 1)).2 (k + 1) ∧ (spM c im round M L (k + 1)).2.getD (codN c.length ((spP c im).getD k (0, 0))) 0 = (spC c im).getD k 0 ∧
      ((spM c im round M L k).1.getD (codN c.length ((spP c im).getD k (0, 0))) 0 = round → spF c im (k + 1) = spF c im k) ∧ ((spM c im round M L k).1.getD (codN c.length ((spP c im).getD k (0, 0))) 0 ≠ round → (spF c im (k + 1)).length = (spF c im k).length + 1) := by
  have hkl : k < (spP c im).length := by rw [spP_len]; exact hk
  have hq := spP_in hc him (getD_mem (d := (0, 0)) hkl)
  have htk := take_get (d := ((0 : Int), (0 : Int))) hkl
  have hcan := canon_in (d := ((0 : Int), (0 : Int))) hkl
  have hcan' := canon_out (d := ((0 : Int), (0 : Int))) hkl
  have hmk := h.mar _ hq.1.1 hq.1.2 hq.2.1 hq.2.2
  have hcod := cod_lt hq.1.1 hq.1.2 hq.2.1 hq.2.2
  have hF : (spP c im).getD k (0, 0) ∈ (spP c im).take k → spF c im (k + 1) = spF c im k := fun h => by
    show firsts ((spP c im).take (k + 1)) = _
    rw [htk, firsts_in h]; rfl
  have hF' : (spP c im).getD k (0, 0) ∉ (spP c im).take k → spF c im (k + 1) = spF c im k ++ [(spP c im).getD k (0, 0)] := fun h => by
    show firsts ((spP c im).take (k + 1)) = _
    rw [htk, firsts_out h]; rfl
  have hFl : (spF c im k).length ≤ c.length := by
    have := firsts_le ((spP c im).take k)
    rw [List.length_take, spP_len] at this
    unfold spF; omega
  have hsub : ∀ q : Int × Int, q ∈ (spP c im).take k → (0 ≤ q.1 ∧ q.1 < (c.length : Int)) ∧ 0 ≤ q.2 ∧ q.2 < (c.length : Int) := fun q h => spP_in hc him (List.mem_of_mem_take h)
  revert hcan hcan' hmk hcod hF hF'
  generalize hqk : (spP c im).getD k (0, 0) = qk at *
  intro hcan hcan' hmk hcod hF hF'
  by_cases e : (spM c im round M L k).1.getD (codN c.length qk) 0 = round
  · have hin := hmk.1 e
    have e1 : spM c im round M L (k + 1) = spM c im round M L k := by
      show (if _ then _ else _) = _
      rw [hqk, if_pos e]
    have hF := hF hin
    have hcan := hcan hin
    rw [e1]
    have hm : ∀ q, q ∈ (spP c im).take (k + 1) ↔ q ∈ (spP c im).take k := fun q => by
      rw [htk, List.mem_append, List.mem_singleton]
      exact ⟨fun h => h.elim id fun h => h ▸ hin, .inl⟩
    refine ⟨⟨h.lm, h.ll, h.hi, h.lo, h.lab, fun q h1 h2 h3 h4 => (h.mar q h1 h2 h3 h4).trans (hm q).symm, fun q hq => ?_⟩, ?_, fun _ => hF, fun h => absurd e h⟩
    · rw [hF]; exact h.la q ((hm q).1 hq)
    · unfold spC; rw [h.la _ hin]; exact hcan.symm
  · have hin : ¬ qk ∈ (spP c im).take k := fun h => e (hmk.2 h)
    have e1 : spM c im round M L (k + 1) = ((spM c im round M L k).1.set (codN c.length qk) round, (spM c im round M L k).2.set (codN c.length qk) ((spF c im k).length : Int)) := by
      show (if _ then _ else _) = _
      rw [hqk, if_neg e]
    have hF := hF' hin
    have hcan := hcan' hin
    rw [e1]
    have hm : ∀ q, q ∈ (spP c im).take (k + 1) ↔ q ∈ (spP c im).take k ∨ q = qk := fun q => by
      rw [htk, List.mem_append, List.mem_singleton]
    have hlm := h.lm
    have hll := h.ll
    have hset : ∀ (l : List Int) (v : Int), l.length = c.length * c.length → ∀ q : Int × Int, 0 ≤ q.1 → q.1 < (c.length : Int) → 0 ≤ q.2 → q.2 < (c.length : Int) → (l.set (codN c.length qk) v).getD (codN c.length q) 0 = if q = qk then v else l.getD (codN c.length q) 0 := fun l v hl q h1 h2 h3 h4 => by
      by_cases e2 : q = qk
      · subst e2; rw [getD_set_eq (by rw [hl]; exact hcod.1), if_pos rfl]
      · rw [getD_set_ne (fun e3 => e2 (cod_inj ⟨h1, h3, h4⟩ ⟨hq.1.1, hq.2.1, hq.2.2⟩ e3.symm)), if_neg e2]
    refine ⟨⟨by rw [List.length_set]; exact hlm, by rw [List.length_set]; exact hll, fun x hx => ?_, fun x hx => ?_, fun x hx => ?_, fun q h1 h2 h3 h4 => ?_, fun q hqm => ?_⟩, ?_, fun h => absurd h e, fun _ => by rw [hF]; simp⟩
    · rcases List.mem_or_eq_of_mem_set hx with hx | rfl
      · exact h.hi x hx
      · omega
    · rcases List.mem_or_eq_of_mem_set hx with hx | rfl
      · exact h.lo x hx
      · omega
    · rcases List.mem_or_eq_of_mem_set hx with hx | rfl
      · exact h.lab x hx
      · omega
    · rw [hset _ _ hlm q h1 h2 h3 h4, hm]
      by_cases e2 : q = qk
      · rw [if_pos e2]; exact ⟨fun _ => .inr e2, fun _ => rfl⟩
      · rw [if_neg e2, h.mar q h1 h2 h3 h4]; exact ⟨.inl, fun h => h.elim id fun h => absurd h e2⟩
    · have hr : (0 ≤ q.1 ∧ q.1 < (c.length : Int)) ∧ 0 ≤ q.2 ∧ q.2 < (c.length : Int) := ((hm q).1 hqm).elim (hsub q) fun h => h ▸ hq
      rw [hset _ _ hll q hr.1.1 hr.1.2 hr.2.1 hr.2.2, hF]
      by_cases e2 : q = qk
      · subst e2
        rw [if_pos rfl, idxD_out (l := spF c im k) (fun h => hin (mem_firsts.1 h))]
      · rw [if_neg e2]
        have hm2 := ((hm q).1 hqm).elim id fun h => absurd h e2
        rw [h.la q hm2, idxD_in (l := spF c im k) (mem_firsts.2 hm2)]
    · rw [hset _ _ hll qk hq.1.1 hq.1.2 hq.2.1 hq.2.2, if_pos rfl]
      unfold spC; exact hcan.symm
theorem SpI.upto (hc : ∀ x ∈ c, 0 ≤ x ∧ x < (c.length : Int)) (him : ∀ x, x < c.length → 0 ≤ im.getD x 0 ∧ im.getD x 0 < (c.length : Int)) (hr : 0 ≤ round) (h : SpI c im round M L 0) : ∀ k, k ≤ c.length → SpI c im round (spM c im round M L k).1 (spM c im round M L k).2 k
  | 0, _ => h
  | k + 1, hk => (SpI.next hc him hr (SpI.upto hc him hr h k (by omega)) (by omega)).1
end
/-! ### Counting -/
theorem canon_idemG {α : Type} [DecidableEq α] (d : α) (l : List α) : canon (canon l) = canon l :=
  canon_congr (d := 0) (e := d) (canon_length l) fun i j hi hj => by
    rw [canon_length] at hi hj
    exact canon_eq_iff hi hj
theorem classN_canonG {α : Type} [DecidableEq α] (d : α) (l : List α) : classN (canon l) = (firsts l).length := by
  have hv := valid_range (canon_idemG d l)
  have h1 : classN (canon l) ≤ (firsts l).length := by
    rcases Nat.eq_zero_or_pos (classN (canon l)) with e | e
    · omega
    · have hm := (hv ((classN (canon l) : Int) - 1)).1 ⟨by omega, by omega⟩
      obtain ⟨i, hi, hx⟩ := mem_getD 0 hm
      rw [canon_length] at hi
      have := canon_lt hi
      omega
  have h2 : (firsts l).length ≤ classN (canon l) := by
    rcases Nat.eq_zero_or_pos (firsts l).length with e | e
    · omega
    · have hm : (firsts l)[(firsts l).length - 1] ∈ l := mem_firsts.1 (List.getElem_mem _)
      have hx : (((firsts l).length - 1 : Nat) : Int) ∈ canon l := by
        unfold canon
        refine List.mem_map.2 ⟨_, hm, ?_⟩
        rw [(firsts_nodup l).idxOf_getElem]
      have := (hv _).2 hx
      omega
  omega
theorem spF_all (c im : List Int) : (spF c im c.length).length = classN (spC c im) := by
  unfold spF spC
  rw [List.take_of_length_le (by rw [spP_len]; exact Nat.le_refl _), classN_canonG (0, 0)]
theorem spC_canon (c im : List Int) : canon (spC c im) = spC c im := canon_idemG (0, 0) _
theorem same_count {c d : List Int} (hc : canon c = c) (hd : canon d = d) (hl : c.length = d.length) (hr : ∀ x y, x < c.length → y < c.length → d.getD x 0 = d.getD y 0 → c.getD x 0 = c.getD y 0) : classN c ≤ classN d ∧ (classN c = classN d → d = c) := by
  have hle : ∀ i, i ≤ c.length → (firsts (c.take i)).length ≤ (firsts (d.take i)).length ∧ ((firsts (c.take i)).length = (firsts (d.take i)).length → ∀ x y, x < i → y < i → c.getD x 0 = c.getD y 0 → d.getD x 0 = d.getD y 0) := by
    intro i
    induction i with
    | zero => intro _; exact ⟨by simp [firsts], fun _ x y hx => absurd hx (Nat.not_lt_zero _)⟩
    | succ i ih =>
      intro hi
      have ih := ih (by omega)
      have tc := take_get (d := (0 : Int)) (l := c) (i := i) (by omega)
      have td := take_get (d := (0 : Int)) (l := d) (i := i) (by omega)
      have memt : ∀ {l : List Int} {v : Int}, i < l.length → (v ∈ l.take i ↔ ∃ j, j < i ∧ l.getD j 0 = v) := fun {l v} hil => by
        constructor
        · intro h
          obtain ⟨j, hj, he⟩ := mem_getD 0 h
          rw [List.length_take] at hj
          have hji : j < i := by omega
          exact ⟨j, hji, by rw [← he]; simp [List.getD, hji]⟩
        · rintro ⟨j, hj, rfl⟩
          have : (l.take i).getD j 0 = l.getD j 0 := by simp [List.getD, hj]
          rw [← this]; exact getD_mem (by rw [List.length_take]; omega)
      rw [tc, td, firsts_snoc, firsts_snoc]
      by_cases h1 : d.getD i 0 ∈ d.take i
      · obtain ⟨j, hj, he⟩ := (memt (by omega)).1 h1
        have h2 : c.getD i 0 ∈ c.take i := (memt (by omega)).2 ⟨j, hj, hr j i (by omega) (by omega) he⟩
        rw [if_pos h1, if_pos h2]
        refine ⟨ih.1, fun e x y hx hy hxy => ?_⟩
        have hcj := hr j i (by omega) (by omega) he
        have step : ∀ z, z < i → c.getD z 0 = c.getD i 0 → d.getD z 0 = d.getD i 0 := fun z hz hzi => (ih.2 e z j hz hj (hzi.trans hcj.symm)).trans he
        rcases Nat.lt_or_ge x i with hxi | hxi <;> rcases Nat.lt_or_ge y i with hyi | hyi
        · exact ih.2 e x y hxi hyi hxy
        · obtain rfl : y = i := by omega
          exact step x hxi hxy
        · obtain rfl : x = i := by omega
          exact (step y hyi hxy.symm).symm
        · obtain rfl : x = i := by omega
          obtain rfl : y = x := by omega
          rfl
      · rw [if_neg h1]
        by_cases h2 : c.getD i 0 ∈ c.take i
        · rw [if_pos h2, List.length_append, List.length_singleton]
          exact ⟨by omega, fun e => by omega⟩
        · rw [if_neg h2]
          simp only [List.length_append, List.length_singleton]
          refine ⟨by omega, fun e x y hx hy hxy => ?_⟩
          have ih2 := ih.2 (by omega)
          have no : ∀ z, z < i → c.getD z 0 ≠ c.getD i 0 := fun z hz hzi => h2 ((memt (by omega)).2 ⟨z, hz, hzi⟩)
          rcases Nat.lt_or_ge x i with hxi | hxi <;> rcases Nat.lt_or_ge y i with hyi | hyi
          · exact ih2 x y hxi hyi hxy
          · obtain rfl : y = i := by omega
            exact absurd hxy (no x hxi)
          · obtain rfl : x = i := by omega
            exact absurd hxy.symm (no y hyi)
          · obtain rfl : x = i := by omega
            obtain rfl : y = x := by omega
            rfl
  have := hle c.length (Nat.le_refl _)
  rw [List.take_length, hl, List.take_length] at this
  refine ⟨this.1, fun e => ?_⟩
  rw [← hc, ← hd]
  exact (canon_congr (d := 0) (e := 0) hl fun i j hi hj => ⟨fun h => this.2 e i j (by omega) (by omega) h, fun h => hr i j hi hj h⟩).symm
end Go.Proofs.Ytpanlghofeebhaa
end
section
/- The reference: classes made one; nothing joined: contracts. -/
namespace Go.Proofs.Ytpanlghofeebhaa
open Go Go.AM
set_option maxRecDepth 100000
theorem merge_fn (p : List Int) (i j : Nat) (hi : i < p.length) (hj : j < p.length) (hp : p.length ≤ 4096) : MF 109 [.vec 1000, .int .i64 i, .int .i64 j] [(1000, .vec 0 (.ints .i64 p) [])] (.tup []) [(1000, .vec 0 (.ints .i64 (mrgL p i j)) [])] := mkM Try.func109 (by decide +kernel) rfl (Nat.le_of_ble_eq_true rfl) fun _ => by
  refine Or.inl ?_
  refine Exists.intro [false, false, false, false, false, false, false, false, false, false] (And.intro (by decide +kernel) ?_)
  refine And.intro (by omega) ?_
  refine And.intro (by omega) ?_
  refine Exists.intro [] <| lp2 (fun (k : Nat) (_ : List Int) => [(19, .int .i64 k)]) (fun _ q => [(1000, .vec 0 (.ints .i64 q) [])]) (fun k q => k ≤ p.length ∧ q.length = p.length ∧ ∀ x, x < p.length → q.getD x 0 = if x < k then (mrgL p i j).getD x 0 else p.getD x 0) (fun k _ => p.length - k) 0 p ⟨Nat.zero_le _, rfl, fun x hx => by rw [if_neg (Nat.not_lt_zero _)]⟩ (by repeat' first | refine And.intro ?_ ?_ | exact True.intro | (show (_ : Int) = (_ : Int); omega) | omega | exact rfl | (simp only [RO.len]; omega)) ?_
  rintro k q ⟨hk, hq, hv⟩
  refine And.intro (fun h1 => ?_) (fun h1 => ?_)
  · have h1 : (k : Int) < (p.length : Int) := h1
    have hkl : k < p.length := by omega
    have hqk := hv k hkl
    rw [if_neg (Nat.lt_irrefl k)] at hqk
    have hmk := mrgL_get (p := p) (i := i) (j := j) hkl
    have nxt : ∀ (r : List Int), (∀ x, x < p.length → r.getD x 0 = if x = k then (mrgL p i j).getD k 0 else q.getD x 0) → ∀ x, x < p.length → r.getD x 0 = if x < k + 1 then (mrgL p i j).getD x 0 else p.getD x 0 := fun r hr x hx => by
      rw [hr x hx]
      by_cases e : x = k
      · subst e; rw [if_pos rfl, if_pos (by omega)]
      · rw [if_neg e, hv x hx]
        by_cases e2 : x < k
        · rw [if_pos e2, if_pos (by omega)]
        · rw [if_neg e2, if_neg (by omega)]
    refine And.intro (show 0 ≤ (k : Int) ∧ (k : Int) < (q.length : Int) by omega) ?_
    refine And.intro (fun h2 => ?_) (fun h2 => ?_)
    · have h2 : q.getD k 0 = p.getD j 0 := h2
      refine And.intro (show 0 ≤ (k : Int) ∧ (k : Int) < (q.length : Int) by omega) ?_
      refine And.intro (by omega) ?_
      refine And.intro (by omega) ?_
      refine nx (k + 1, q.set k (p.getD i 0)) ⟨by omega, by rw [List.length_set]; exact hq, nxt _ fun x hx => ?_⟩ (show p.length - (k + 1) < p.length - k by omega) (by repeat' first | refine And.intro ?_ ?_ | exact True.intro | (show (_ : Int) = (_ : Int); omega) | omega | exact rfl | (simp only [RO.len]; omega))
      by_cases e : x = k
      · subst e; rw [getD_set_eq (by omega), if_pos rfl, hmk, if_pos (hqk ▸ h2)]
      · rw [getD_set_ne (Ne.symm e), if_neg e]
    · have h2 : q.getD k 0 ≠ p.getD j 0 := h2
      refine And.intro (by omega) ?_
      refine nx (k + 1, q) ⟨by omega, hq, nxt _ fun x hx => ?_⟩ (show p.length - (k + 1) < p.length - k by omega) (by repeat' first | refine And.intro ?_ ?_ | exact True.intro | (show (_ : Int) = (_ : Int); omega) | omega | exact rfl | (simp only [RO.len]; omega))
      by_cases e : x = k
      · subst e; rw [if_pos rfl, hmk, if_neg (hqk ▸ h2)]; exact hqk
      · rw [if_neg e]
  · have h1 : (p.length : Int) ≤ (k : Int) := h1
    refine And.intro ?_ trivial
    refine And.intro (And.intro (by omega) ?_) trivial
    refine congrArg (RO.ints .i64) (ext_getD 0 (by rw [mrgL_len]; exact hq) fun x hx => ?_)
    rw [hv x (by omega), if_pos (by omega)]
theorem rdis_fn (n : Nat) (hn : n ≤ 4096) : QF 69 [.int .i64 n] (.new (.ints .i64 (disI n))) := mkQ Try.func69 (by decide +kernel) rfl (Nat.le_of_ble_eq_true rfl) fun _ => by
  refine And.intro (by omega) ?_
  refine And.intro (by omega) ?_
  refine Exists.intro [] <| lp2 (fun (k : Nat) (_ : List Int) => [(9, .int .i64 k)]) (fun _ L => [(6, .vec 0 (.ints .i64 L) [])]) (fun k L => k ≤ n ∧ L.length = n ∧ ∀ j, j < k → L.getD j 0 = (j : Int)) (fun k _ => n - k) 0 (List.replicate n 0) ⟨Nat.zero_le _, by simp, by omega⟩ (by repeat' first | refine And.intro ?_ ?_ | exact True.intro | (show (_ : Int) = (_ : Int); omega) | omega | exact rfl | (simp; omega)) ?_
  rintro k L ⟨hk, hL, hj⟩
  refine And.intro (fun h1 => ?_) (fun h1 => ?_)
  · have h1 : (k : Int) < ((List.replicate ((n : Nat) : Int).toNat (0 : Int)).length : Int) := h1
    rw [List.length_replicate, Int.toNat_natCast] at h1
    have hkl : k < n := by omega
    refine And.intro (show 0 ≤ (k : Int) ∧ (k : Int) < (L.length : Int) by omega) ?_
    refine And.intro (by omega) ?_
    refine And.intro (by omega) ?_
    refine nx (k + 1, L.set k (k : Int)) ⟨by omega, by rw [List.length_set]; exact hL, fun j hj' => ?_⟩ (show n - (k + 1) < n - k by omega) (by repeat' first | refine And.intro ?_ ?_ | exact True.intro | (show (_ : Int) = (_ : Int); omega) | omega | exact rfl | (simp only [RO.len]; omega))
    by_cases e : j = k
    · subst e; rw [getD_set_eq (by omega)]
    · rw [getD_set_ne (Ne.symm e)]; exact hj j (by omega)
  · have h1 : ((List.replicate ((n : Nat) : Int).toNat (0 : Int)).length : Int) ≤ (k : Int) := h1
    rw [List.length_replicate, Int.toNat_natCast] at h1
    refine And.intro (And.intro (by omega) ?_) trivial
    refine congrArg (RO.ints .i64) (ext_getD 0 (by rw [disI_len]; exact hL) fun j hj' => ?_)
    rw [hj j (by omega), disI_get (by omega)]
end Go.Proofs.Ytpanlghofeebhaa
end
section
/- Package congr: the forest: contracts. -/
namespace Go.Proofs.Ytpanlghofeebhaa
open Go Go.AM
set_option maxRecDepth 100000
abbrev foS (p : List Int) (c : Int) : Store := [(1000, .box [.vec 1001, .int .i64 c]), (1001, .vec 0 (.ints .i64 p) [])]
theorem cfind_fn (n : Nat) (p : List Int) (r : Nat → Nat) (c : Int) (i : Nat) (h : Fo n p r) (hi : i < n) (hn : n ≤ 4096) : MF 98 [.ptr 1000 0, .int .i64 i] (foS p c) (.int .i64 (r i : Nat)) (foS (fndL (i + 1) p i) c) := mkM Try.func98 (by decide +kernel) rfl (Nat.le_of_ble_eq_true rfl) fun _ => by
  refine Exists.intro [] <| lp2 (fun (j : Nat) (_ : List Int) => [(1, .int .i64 j)]) (fun _ q => [(1001, .vec 0 (.ints .i64 q) [])]) (fun j q => j < n ∧ Fo n q r ∧ r j = r i ∧ fndL (j + 1) q j = fndL (i + 1) p i) (fun j _ => j) i p ⟨hi, h, rfl, rfl⟩ (by repeat' first | refine And.intro ?_ ?_ | exact True.intro | (show (_ : Int) = (_ : Int); omega) | omega | exact rfl | (simp only [RO.len]; omega)) ?_
  rintro j q ⟨hj, hq, hr, hf⟩
  have hjl := hq.len
  have hle := hq.le j hj
  have hgg := hq.le (q.getD j 0).toNat (by omega)
  refine And.intro (by omega) ?_
  refine And.intro (fun h1 => ?_) (fun h1 => ?_)
  · have h1 : q.getD j 0 ≠ (j : Int) := h1
    have hl := half_lt hq hj h1
    have hqh := hq.half hj
    have hlh := hqh.le j hj
    have hlen := hqh.len
    refine Or.inl ?_
    refine Exists.intro [false, false, false, false, false, false, false, false, false, false, false, false, false, false, false, false, false, false, false, true] (And.intro (by decide +kernel) ?_)
    refine And.intro (by omega) ?_
    refine And.intro (by simp only [Int.toNat_natCast]; omega) ?_
    refine And.intro (by omega) ?_
    refine And.intro (by omega) ?_
    refine And.intro (by simp; omega) ?_
    have ej : (((halfL q j).getD j 0).toNat : Int) = (halfL q j).getD j 0 := by omega
    refine nx (((halfL q j).getD j 0).toNat, halfL q j) ⟨by omega, hqh, (hqh.par j hj).trans hr, ?_⟩ hl (by repeat' first | refine And.intro ?_ ?_ | exact True.intro | exact ej.symm | exact rfl | repeat' first | refine And.intro ?_ ?_ | exact True.intro | (show (_ : Int) = (_ : Int); omega) | omega | exact rfl | (simp only [RO.len]; omega))
    rw [← hf, fndL.eq_2 q j j, if_neg h1]
    exact fndL_fuel _ _ hqh (by omega) (by omega) (by omega)
  · have h1 : q.getD j 0 = (j : Int) := h1
    have e : q = fndL (i + 1) p i := by rw [← hf]; unfold fndL; rw [if_pos h1]
    refine And.intro (And.intro (by repeat' first | refine And.intro ?_ ?_ | exact True.intro | (show (_ : Int) = (_ : Int); omega) | omega | exact rfl | (simp only [RO.len]; omega)) (And.intro (And.intro (by omega) (congrArg (RO.ints .i64) e)) trivial)) ?_
    · show (j : Int) = (r i : Nat)
      rw [← hr, hq.fix j hj h1]
theorem cjoin_fn (n : Nat) (p : List Int) (r : Nat → Nat) (i j : Nat) (h : Fo n p r) (hi : i < n) (hj : j < n) (hn : n ≤ 4096) : MF 55 [.ptr 1000 0, .int .i64 i, .int .i64 j] (foS p (cntR n r)) (.bool (.v (decide (r i ≠ r j)))) (foS (jnP r p i j) (cntR n (jnR r i j))) := mkM Try.func55 (by decide +kernel) rfl (Nat.le_of_ble_eq_true rfl) fun _ => by
  have h1 := fndL_fo (i + 1) h hi
  have h2 := fndL_fo (j + 1) h1 hj
  have hl := h2.len
  have ri := h.rlt hi
  have rj := h.rlt hj
  have hc := jn_cnt h hi hj
  have hcl := cnt_le n r
  refine Or.inr (Or.inl (cm [] [(1000, 1000), (1001, 1001)] (cfind_fn n p r (cntR n r) i h hi hn) ?_))
  refine And.intro (by repeat' first | refine And.intro ?_ ?_ | exact True.intro | (show (_ : Int) = (_ : Int); omega) | omega | exact rfl | (simp only [RO.len]; omega)) ?_
  refine Or.inr (Or.inl (cm [] [(1000, 1000), (1001, 1001)] (cfind_fn n (fndL (i + 1) p i) r (cntR n r) j h1 hj hn) ?_))
  refine And.intro (by repeat' first | refine And.intro ?_ ?_ | exact True.intro | (show (_ : Int) = (_ : Int); omega) | omega | exact rfl | (simp only [RO.len]; omega)) ?_
  refine And.intro (fun h1 => ?_) (fun h1 => ?_)
  · have h1 : (r i : Int) = (r j : Int) := h1
    have h1 : r i = r j := by omega
    rw [if_pos h1] at hc
    have e : fndL (j + 1) (fndL (i + 1) p i) j = jnP r p i j := (if_pos h1).symm
    refine And.intro (And.intro (And.intro (by repeat' first | refine And.intro ?_ ?_ | exact True.intro | (show (_ : Int) = (_ : Int); omega) | omega | exact rfl | (simp only [RO.len]; omega)) (And.intro ?_ trivial)) (And.intro (And.intro (by omega) (congrArg (RO.ints .i64) e)) trivial)) ?_
    · show (cntR n r : Int) = (cntR n (jnR r i j) : Int)
      omega
    · exact (decide_eq_false fun h2 => h2 h1).symm
  · have h1 : (r i : Int) ≠ (r j : Int) := h1
    have h1 : r i ≠ r j := by omega
    rw [if_neg h1] at hc
    have e : (fndL (j + 1) (fndL (i + 1) p i) j).set (max (r i : Int) (r j : Int)).toNat (min (r i : Int) (r j : Int)) = jnP r p i j := by
      unfold jnP ufL
      rw [if_neg h1, show (max (r i : Int) (r j : Int)).toNat = max (r i) (r j) by omega, show min (r i : Int) (r j : Int) = ((min (r i) (r j) : Nat) : Int) by omega]
    refine And.intro (by omega) ?_
    refine And.intro (by omega) ?_
    refine And.intro (by omega) ?_
    refine And.intro (And.intro (And.intro (by repeat' first | refine And.intro ?_ ?_ | exact True.intro | (show (_ : Int) = (_ : Int); omega) | omega | exact rfl | (simp only [RO.len]; omega)) (And.intro ?_ trivial)) (And.intro (And.intro (by omega) (congrArg (RO.ints .i64) e)) trivial)) ?_
    · show (cntR n r : Int) - 1 = (cntR n (jnR r i j) : Int)
      omega
    · exact (decide_eq_true h1).symm
theorem creset_fn (n : Nat) (p : List Int) (c : Int) (hl : p.length = n) (hn : n ≤ 4096) : MF 67 [.ptr 1000 0] (foS p c) (.tup []) (foS (disI n) n) := mkM Try.func67 (by decide +kernel) rfl (Nat.le_of_ble_eq_true rfl) fun _ => by
  refine Exists.intro [] <| lp2 (fun (j : Nat) (_ : List Int) => [(8, .int .i64 j)]) (fun _ q => [(1001, .vec 0 (.ints .i64 q) [])]) (fun j q => j ≤ n ∧ q.length = n ∧ ∀ k, k < j → q.getD k 0 = (k : Int)) (fun j _ => n - j) 0 p ⟨Nat.zero_le _, hl, fun k h => by omega⟩ (by repeat' first | refine And.intro ?_ ?_ | exact True.intro | (show (_ : Int) = (_ : Int); omega) | omega | exact rfl | (simp only [RO.len]; omega)) ?_
  rintro j q ⟨hj, hq, hk⟩
  refine And.intro (fun h1 => ?_) (fun h1 => ?_)
  · have h1 : (j : Int) < (p.length : Int) := h1
    refine And.intro (by omega) ?_
    refine And.intro (by omega) ?_
    refine And.intro (by omega) ?_
    refine nx (j + 1, q.set j (j : Int)) ⟨by omega, by rw [List.length_set]; exact hq, fun k hkj => ?_⟩ (show n - (j + 1) < n - j by omega) (by repeat' first | refine And.intro ?_ ?_ | exact True.intro | (show (_ : Int) = (_ : Int); omega) | omega | exact rfl | (simp only [RO.len]; omega))
    by_cases e : k = j
    · subst e; rw [getD_set_eq (by omega)]
    · rw [getD_set_ne (Ne.symm e)]; exact hk k (by omega)
  · have h1 : (p.length : Int) ≤ (j : Int) := h1
    have e : q = disI n := ext_getD 0 (by rw [disI_len]; exact hq) fun k hk' => by rw [hk k (by omega), disI_get (by omega)]
    refine And.intro (And.intro (And.intro (by repeat' first | refine And.intro ?_ ?_ | exact True.intro | (show (_ : Int) = (_ : Int); omega) | omega | exact rfl | (simp only [RO.len]; omega)) (And.intro (show (q.length : Int) = (n : Int) by omega) trivial)) (And.intro (And.intro (by omega) (congrArg (RO.ints .i64) e)) trivial)) trivial
theorem cnew_fn (n : Nat) (hn : n ≤ 4096) : MF 49 [.int .i64 n] [] (.ptr 7 0) [(7, .box [.vec 5, .int .i64 n]), (5, .vec 0 (.ints .i64 (disI n)) [])] := mkM Try.func49 (by decide +kernel) rfl (Nat.le_of_ble_eq_true rfl) fun _ => by
  refine And.intro (by omega) ?_
  refine And.intro (by omega) ?_
  refine Or.inr (Or.inl (cm [] [(1000, 7), (1001, 5)] (creset_fn n (List.replicate n 0) 0 (by simp) hn) ?_))
  refine And.intro (by repeat' first | refine And.intro ?_ ?_ | exact True.intro | (show (_ : Int) = (_ : Int); omega) | omega | exact rfl | (simp only [RO.len]; omega)) ?_
  exact And.intro (And.intro (And.intro (by repeat' first | refine And.intro ?_ ?_ | exact True.intro | (show (_ : Int) = (_ : Int); omega) | omega | exact rfl | (simp only [RO.len]; omega)) (And.intro rfl trivial)) (And.intro (And.intro (by omega) rfl) trivial)) (by repeat' first | refine And.intro ?_ ?_ | exact True.intro | (show (_ : Int) = (_ : Int); omega) | omega | exact rfl | (simp only [RO.len]; omega))
theorem cpart_fn (n : Nat) (p : List Int) (r : Nat → Nat) (c : Int) (h : Fo n p r) (hn : n ≤ 4096) : MF 53 [.ptr 1000 0] (foS p c) (.vec 12) ((12, .vec 0 (.ints .i64 (canon (rtL n r))) []) :: foS (fndA p n) c) := mkM Try.func53 (by decide +kernel) rfl (Nat.le_of_ble_eq_true rfl) fun _ => by
  have hpl := h.len
  have hrl := rtL_len n r
  refine And.intro (by omega) ?_
  refine And.intro (by omega) ?_
  refine Exists.intro [] <| lp2 (fun (k : Nat) (_ : List Int) => [(15, .int .i64 k), (4, .int .i64 ((firsts ((rtL n r).take k)).length : Int))]) (fun k L => [(1001, .vec 0 (.ints .i64 (fndA p k)) []), (12, .vec 0 (.ints .i64 L) [])]) (fun k L => k ≤ n ∧ L.length = n ∧ ∀ j, j < k → L.getD j 0 = (canon (rtL n r)).getD j 0) (fun k _ => n - k) 0 (List.replicate n 0) ⟨Nat.zero_le _, by simp, by omega⟩ (by repeat' first | refine And.intro ?_ ?_ | exact True.intro | (show (_ : Int) = (_ : Int); omega) | omega | exact rfl | (simp; omega)) ?_
  rintro k L ⟨hk, hL, hj⟩
  have hfo := fndA_fo h k hk
  have hfl := hfo.len
  have hfs : (firsts ((rtL n r).take k)).length ≤ k := by
    have := firsts_le ((rtL n r).take k)
    rw [List.length_take] at this; omega
  refine And.intro (fun h1 => ?_) (fun h1 => ?_)
  · have h1 : (k : Int) < ((List.replicate (p.length : Int).toNat (0 : Int)).length : Int) := h1
    rw [List.length_replicate] at h1
    have hkl : k < n := by omega
    have hle := h.rle (k + 1) k (by omega) hkl
    have hgk := rtL_get (r := r) hkl
    have htk := take_get (d := (0 : Int)) (l := rtL n r) (i := k) (by omega)
    refine Or.inr (Or.inl (cm [] [(1000, 1000), (1001, 1001)] (cfind_fn n (fndA p k) r c k hfo hkl hn) ?_))
    refine And.intro (by repeat' first | refine And.intro ?_ ?_ | exact True.intro | (show (_ : Int) = (_ : Int); omega) | omega | exact rfl | (simp only [RO.len]; omega)) ?_
    refine And.intro (fun h1 => ?_) (fun h1 => ?_)
    · have h1 : (r k : Int) = (k : Int) := h1
      have hrk : r k = k := by omega
      have hno : (rtL n r).getD k 0 ∉ (rtL n r).take k := fun hm => by
        obtain ⟨z, hz, hv⟩ := mem_getD 0 hm
        rw [List.length_take] at hz
        have hzk : z < k := by omega
        have hv : (rtL n r).getD z 0 = (rtL n r).getD k 0 := by rw [← hv]; simp [List.getD, hzk]
        rw [rtL_get (by omega), hgk] at hv
        have := h.rle (z + 1) z (by omega) (by omega)
        omega
      have hc1 := canon_out (d := (0 : Int)) (l := rtL n r) (i := k) (by omega) hno
      have hf1 : (firsts ((rtL n r).take (k + 1))).length = (firsts ((rtL n r).take k)).length + 1 := by rw [htk, firsts_out hno]; simp
      refine And.intro (by omega) ?_
      refine And.intro (by omega) ?_
      refine And.intro (by omega) ?_
      refine And.intro (by omega) ?_
      refine nx (k + 1, L.set k ((firsts ((rtL n r).take k)).length : Int)) ⟨by omega, by rw [List.length_set]; exact hL, fun j hjk => ?_⟩ (show n - (k + 1) < n - k by omega) (by repeat' first | refine And.intro ?_ ?_ | exact True.intro | (show (_ : Int) = (_ : Int); omega) | omega | exact rfl | (simp only [RO.len]; omega))
      by_cases e : j = k
      · subst e; rw [getD_set_eq (by omega)]; exact hc1.symm
      · rw [getD_set_ne (Ne.symm e)]; exact hj j (by omega)
    · have h1 : (r k : Int) ≠ (k : Int) := h1
      have hrk : r k < k := by omega
      have hgr := rtL_get (r := r) (i := r k) (n := n) (by omega)
      have hrr := h.rr hkl
      have hin : (rtL n r).getD k 0 ∈ (rtL n r).take k := by
        have : ((rtL n r).take k).getD (r k) 0 = (rtL n r).getD k 0 := by
          rw [hgk, ← hrr, ← hgr]; simp [List.getD, hrk, hrr]
        rw [← this]
        exact getD_mem (by rw [List.length_take]; omega)
      have hf1 : (firsts ((rtL n r).take (k + 1))).length = (firsts ((rtL n r).take k)).length := by rw [htk, firsts_in hin]
      have hc1 : (canon (rtL n r)).getD (r k) 0 = (canon (rtL n r)).getD k 0 := (canon_eq_iff (d := 0) (by omega) (by omega)).2 (by rw [hgr, hgk, hrr])
      refine And.intro (by omega) ?_
      refine And.intro (by omega) ?_
      refine And.intro (by omega) ?_
      refine And.intro (by omega) ?_
      refine nx (k + 1, L.set k (L.getD (r k) 0)) ⟨by omega, by rw [List.length_set]; exact hL, fun j hjk => ?_⟩ (show n - (k + 1) < n - k by omega) (by repeat' first | refine And.intro ?_ ?_ | exact True.intro | (show (_ : Int) = (_ : Int); omega) | omega | exact rfl | (simp only [RO.len]; omega))
      by_cases e : j = k
      · subst e; rw [getD_set_eq (by omega), hj _ hrk]; exact hc1
      · rw [getD_set_ne (Ne.symm e)]; exact hj j (by omega)
  · have h1 : ((List.replicate (p.length : Int).toNat (0 : Int)).length : Int) ≤ (k : Int) := h1
    rw [List.length_replicate] at h1
    obtain rfl : k = n := by omega
    have e : L = canon (rtL k r) := ext_getD 0 (by rw [canon_length, rtL_len]; exact hL) fun x hx => hj x (by omega)
    refine And.intro (And.intro (And.intro (by omega) (congrArg (RO.ints .i64) e)) (And.intro (And.intro (by repeat' first | refine And.intro ?_ ?_ | exact True.intro | (show (_ : Int) = (_ : Int); omega) | omega | exact rfl | (simp only [RO.len]; omega)) (And.intro rfl trivial)) (And.intro (And.intro (by omega) rfl) trivial))) (by repeat' first | refine And.intro ?_ ?_ | exact True.intro | (show (_ : Int) = (_ : Int); omega) | omega | exact rfl | (simp only [RO.len]; omega))
end Go.Proofs.Ytpanlghofeebhaa
end
