/- Plain: Lagrange: each coset has as many elements as the subgroup. -/
import Derived.Test.YtdjbbjjmjopofaaGreatSgpLaw
namespace Go.Proofs.YtdjbbjjmjopofaaGreat
variable {t : List (List Int)} {l : List Int}
theorem cosL_canon (t : List (List Int)) (l : List Int) : canon (cosL t l) = cosL t l := canon_idem _
theorem cos_mem (h : Grp t) (hl : ClL t l) {c : Nat} (hc : c < classN (cosL t l)) : ∃ x0, x0 < t.length ∧ ∀ y : Int, y ∈ (classes (classN (cosL t l)) (cosL t l)).getD c [] ↔ ∃ a, a < t.length ∧ setI l a = true ∧ y = ((en t x0 a : Nat) : Int) := by
  have hf := fst_of (cosL_canon t l) hc
  have hx : fstC (cosL t l) c < t.length := by have := hf.2.2.1; rwa [cosL_len] at this
  refine ⟨fstC (cosL t l) c, hx, fun y => ?_⟩
  rw [mem_classes hc, cosL_len]
  constructor
  · rintro ⟨h0, h1, h2⟩
    have hy : y.toNat < t.length := by omega
    obtain ⟨a, ha, hs, e⟩ := (cosE_iff h hx hy).1 ((cosL_iff hl h hx hy).1 (hf.2.2.2.trans h2.symm))
    exact ⟨a, ha, hs, by omega⟩
  · rintro ⟨a, ha, hs, rfl⟩
    have he := (h.toSh.ent hx ha).2
    refine ⟨by omega, by omega, ?_⟩
    rw [Int.toNat_natCast, ← hf.2.2.2]
    exact ((cosL_iff hl h hx he).2 ((cosE_iff h hx he).2 ⟨a, ha, hs, rfl⟩)).symm
theorem cos_size (h : Grp t) (hl : ClL t l) {c : Nat} (hc : c < classN (cosL t l)) : ((classes (classN (cosL t l)) (cosL t l)).getD c []).length = l.length := by
  obtain ⟨x0, hx, hm⟩ := cos_mem h hl hc
  have hnl : l.Nodup := (pairwise_adj hl.asc).imp fun {a b} hab e => by omega
  have hcan : ∀ a b, a < t.length → b < t.length → en t x0 a = en t x0 b → a = b := fun a b ha hb e => by
    have h1 := inv_mul_cancel h hx ha
    have h2 := inv_mul_cancel h hx hb
    rw [e] at h1; exact h1.symm.trans h2
  have hn : (l.map fun a => ((en t x0 a.toNat : Nat) : Int)).Nodup := List.pairwise_map.2 (hnl.imp_of_mem fun {a b} ha hb hab e => hab (by
    have ra := hl.ins a ha
    have rb := hl.ins b hb
    have := hcan a.toNat b.toNat (by omega) (by omega) (by omega)
    omega))
  have hnc : ((classes (classN (cosL t l)) (cosL t l)).getD c []).Nodup := by
    rw [classes_getD hc]
    exact List.pairwise_map.2 ((List.nodup_range.filter _).imp fun {a b} hab e => hab (by omega))
  have hp : ((classes (classN (cosL t l)) (cosL t l)).getD c []).Perm (l.map fun a => ((en t x0 a.toNat : Nat) : Int)) := (List.perm_ext_iff_of_nodup hnc hn).2 fun y => by
    rw [hm, List.mem_map]
    constructor
    · rintro ⟨a, ha, hs, rfl⟩
      exact ⟨(a : Int), setI_iff.1 hs, by rw [Int.toNat_natCast]⟩
    · rintro ⟨a, ha, rfl⟩
      have ra := hl.ins a ha
      exact ⟨a.toNat, by omega, setI_iff.2 (by rw [Int.toNat_of_nonneg ra.1]; exact ha), rfl⟩
  have := hp.length_eq
  rwa [List.length_map] at this
theorem cls_count {n : Nat} {p : List Int} (hp : p.length = n) {m : Nat} : ∀ k : Nat, (∀ c : Nat, c < k → ((List.range n).filter fun i => p.getD i 0 = (c : Int)).length = m) → (∀ i, i < n → 0 ≤ p.getD i 0) → ((List.range n).filter fun i => decide (p.getD i 0 < (k : Int))).length = k * m
  | 0, _, h0 => by
    rw [Nat.zero_mul, List.length_eq_zero_iff, List.filter_eq_nil_iff]
    intro i hi
    have := h0 i (List.mem_range.1 hi)
    rw [decide_eq_true_iff]; omega
  | k + 1, hc, h0 => by
    have ih := cls_count hp k (fun c hk => hc c (by omega)) h0
    have e := hc k (by omega)
    have hsum : ∀ L : List Nat, (L.filter fun i => decide (p.getD i 0 < ((k + 1 : Nat) : Int))).length = (L.filter fun i => decide (p.getD i 0 < (k : Int))).length + (L.filter fun i => p.getD i 0 = (k : Int)).length := by
      intro L
      induction L with
      | nil => rfl
      | cons a L ih =>
        simp only [List.filter_cons, decide_eq_true_eq]
        by_cases e1 : p.getD a 0 < (k : Int)
        · rw [if_pos (by omega), if_pos e1, if_neg (by omega), List.length_cons, List.length_cons, ih]; omega
        · by_cases e2 : p.getD a 0 = (k : Int)
          · rw [if_pos (by omega), if_neg e1, if_pos e2, List.length_cons, List.length_cons, ih]; omega
          · rw [if_neg (by omega), if_neg e1, if_neg e2, ih]
    rw [hsum, ih, e, Nat.succ_mul]
theorem lagrange (h : Grp t) (hl : ClL t l) : t.length = classN (cosL t l) * l.length := by
  have hr : ∀ i, i < t.length → 0 ≤ (cosL t l).getD i 0 ∧ (cosL t l).getD i 0 < classN (cosL t l) := fun i hi =>
    (valid_range (cosL_canon t l) _).2 (getD_mem (by rw [cosL_len]; exact hi))
  have := cls_count (p := cosL t l) (cosL_len t l) (m := l.length) (classN (cosL t l)) (fun c hc => by
    have e := cos_size h hl hc
    rw [classes_getD hc, List.length_map, cosL_len] at e; exact e) (fun i hi => (hr i hi).1)
  rw [← this, List.filter_eq_self.2 fun i hi => decide_eq_true (hr i (List.mem_range.1 hi)).2, List.length_range]
end Go.Proofs.YtdjbbjjmjopofaaGreat
