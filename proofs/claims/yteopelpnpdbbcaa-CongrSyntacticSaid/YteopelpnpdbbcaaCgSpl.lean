/- Package congr: the splitter: contract. -/
import Derived.Test.YteopelpnpdbbcaaSynLaw
import Derived.Test.YteopelpnpdbbcaaLp
namespace Go.Proofs.Yteopelpnpdbbcaa
open Go Go.AM
set_option maxRecDepth 100000
/-- The splitter in memory. -/
abbrev spS (a b : Nat) (c s : List Int) (cnt rnd : Int) (M L im : List Int) : Store :=
  [(1000, .box [.vec a, .vec b, .int .i64 cnt, .int .i64 rnd, .vec 1003, .vec 1004]), (a, .vec 0 (.ints .i64 c) []), (b, .vec 0 (.ints .i64 s) []), (1003, .vec 0 (.ints .i64 M) []), (1004, .vec 0 (.ints .i64 L) []), (1005, .vec 0 (.ints .i64 im) [])]
/-- What the splitter asks. -/
structure SpQ (c s : List Int) (rnd : Int) (M L im : List Int) : Prop where
  n : c.length ≤ 400
  sl : s.length = c.length
  cin : ∀ x ∈ c, 0 ≤ x ∧ x < (c.length : Int)
  il : im.length = c.length
  iin : ∀ x, x < c.length → 0 ≤ im.getD x 0 ∧ im.getD x 0 < (c.length : Int)
  ml : M.length = c.length * c.length
  ll : L.length = c.length * c.length
  mlt : ∀ x ∈ M, 0 ≤ x ∧ x ≤ rnd
  lab : ∀ x ∈ L, 0 ≤ x ∧ x ≤ (c.length : Int)
  r0 : 0 ≤ rnd ∧ rnd ≤ 1000000000
set_option maxHeartbeats 1000000 in
theorem csplit_k (c s : List Int) (cnt rnd : Int) (M L im : List Int) (h : SpQ c s rnd M L im) : fnMK TY SP Try.f105 [.ptr 1000 0, .vec 1005] (spS 1001 1002 c s cnt rnd M L im) (.tup [])
    ([(1000, .box [.vec 1002, .vec 1001, .int .i64 (classN (spC c im) : Nat), .int .i64 (rnd + 1), .vec 1003, .vec 1004]), (1001, .vec 0 (.ints .i64 c) []), (1002, .vec 0 (.ints .i64 (spC c im)) []), (1003, .vec 0 (.ints .i64 (spM c im (rnd + 1) M L c.length).1) []), (1004, .vec 0 (.ints .i64 (spM c im (rnd + 1) M L c.length).2) []), (1005, .vec 0 (.ints .i64 im) [])]) := by
  have hn := h.n
  have hsl := h.sl
  have hil := h.il
  have hr0 := h.r0
  have hst : SpI c im (rnd + 1) M L 0 := SpI.start h.ml h.ll (fun x hx => by have := h.mlt x hx; omega) (fun x hx => (h.mlt x hx).1) h.lab
  have hup := SpI.upto h.cin h.iin (by omega) hst
  refine And.intro (by omega) ?_
  refine Exists.intro [] <| lp2 (fun (k : Nat) (_ : List Int) => [(27, .int .i64 k)]) (fun k N => [(1000, .box [.vec 1001, .vec 1002, .int .i64 ((spF c im k).length : Nat), .int .i64 (rnd + 1), .vec 1003, .vec 1004]), (1002, .vec 0 (.ints .i64 N) []), (1003, .vec 0 (.ints .i64 (spM c im (rnd + 1) M L k).1) []), (1004, .vec 0 (.ints .i64 (spM c im (rnd + 1) M L k).2) [])]) (fun k N => k ≤ c.length ∧ N.length = c.length ∧ ∀ j, j < k → N.getD j 0 = (spC c im).getD j 0) (fun k _ => c.length - k) 0 s ⟨Nat.zero_le _, hsl, fun j h => absurd h (Nat.not_lt_zero _)⟩ (by repeat' first | refine And.intro ?_ ?_ | exact True.intro | (show (_ : Int) = (_ : Int); omega) | omega | exact rfl | (simp only [RO.len]; omega)) ?_
  rintro k N ⟨hk, hN, hNj⟩
  have hI := hup k hk
  refine And.intro (fun h1 => ?_) (fun h1 => ?_)
  · have h1 : (k : Int) < (c.length : Int) := h1
    have hkl : k < c.length := by omega
    have hq := spP_get (im := im) hkl
    have hck := h.cin _ (getD_mem (d := 0) hkl)
    have hik := h.iin k hkl
    have hci := h.cin _ (getD_mem (d := 0) (l := c) (i := (im.getD k 0).toNat) (by omega))
    have hcod := cod_lt (q := (c.getD k 0, c.getD (im.getD k 0).toNat 0)) hck.1 hck.2 hci.1 hci.2
    have hnx := hI.next h.cin h.iin (by omega) hkl
    rw [hq] at hnx
    have hml := hI.lm
    have hll := hI.ll
    have hE : (codN c.length (c.getD k 0, c.getD (im.getD k 0).toNat 0) : Int) = c.getD k 0 * (c.length : Int) + c.getD (im.getD k 0).toNat 0 := hcod.2
    have hEr : 0 ≤ c.getD k 0 * (c.length : Int) + c.getD (im.getD k 0).toNat 0 ∧ c.getD k 0 * (c.length : Int) + c.getD (im.getD k 0).toNat 0 < ((c.length * c.length : Nat) : Int) := by omega
    have hcc : c.length * c.length ≤ 160000 := Nat.mul_le_mul (show c.length ≤ 400 from hn) hn
    have hEt : (c.getD k 0 * (c.length : Int) + c.getD (im.getD k 0).toNat 0).toNat = codN c.length (c.getD k 0, c.getD (im.getD k 0).toNat 0) := rfl
    have hmul : 0 ≤ c.getD k 0 * (c.length : Int) := Int.mul_nonneg hck.1 (by omega)
    have hfl : (spF c im k).length ≤ k := by
      have := firsts_le ((spP c im).take k)
      rw [List.length_take] at this
      unfold spF; omega
    have hstep : spM c im (rnd + 1) M L (k + 1) = if (spM c im (rnd + 1) M L k).1.getD (codN c.length ((spP c im).getD k (0, 0))) 0 = rnd + 1 then spM c im (rnd + 1) M L k
      else ((spM c im (rnd + 1) M L k).1.set (codN c.length ((spP c im).getD k (0, 0))) (rnd + 1), (spM c im (rnd + 1) M L k).2.set (codN c.length ((spP c im).getD k (0, 0))) ((spF c im k).length : Int)) := rfl
    rw [hq] at hstep
    refine And.intro (by omega) ?_
    refine Or.inl ?_
    refine Exists.intro [false, false, false, false, false, false, false, false, false, false, false, false, false, false, false, false, false, false, false] (And.intro (by decide +kernel) ?_)
    refine And.intro (show -9223372036854775808 ≤ c.getD k 0 * (c.length : Int) ∧ c.getD k 0 * (c.length : Int) ≤ 9223372036854775807 by omega) ?_
    refine And.intro (by omega) ?_
    refine And.intro (show 0 ≤ im.getD k 0 ∧ im.getD k 0 < (c.length : Int) by omega) ?_
    refine And.intro (show -9223372036854775808 ≤ c.getD k 0 * (c.length : Int) + c.getD (im.getD k 0).toNat 0 ∧ c.getD k 0 * (c.length : Int) + c.getD (im.getD k 0).toNat 0 ≤ 9223372036854775807 by omega) ?_
    refine Or.inl ?_
    refine Exists.intro [false, false, false, false, false, false, false, false, false, false, false, false] (And.intro (by decide +kernel) ?_)
    refine And.intro (show 0 ≤ c.getD k 0 * (c.length : Int) + c.getD (im.getD k 0).toNat 0 ∧ c.getD k 0 * (c.length : Int) + c.getD (im.getD k 0).toNat 0 < (((spM c im (rnd + 1) M L k).1.length : Nat) : Int) by rw [hml]; exact hEr) ?_
    refine And.intro (fun h2 => ?_) (fun h2 => ?_)
    · have h2 : (spM c im (rnd + 1) M L k).1.getD (c.getD k 0 * (c.length : Int) + c.getD (im.getD k 0).toNat 0).toNat 0 ≠ rnd + 1 := h2
      rw [hEt] at h2
      have hF := hnx.2.2.2 h2
      rw [if_neg h2, ← hEt] at hstep
      have hM1 : (spM c im (rnd + 1) M L k).1.set (c.getD k 0 * (c.length : Int) + c.getD (im.getD k 0).toNat 0).toNat (rnd + 1) = (spM c im (rnd + 1) M L (k + 1)).1 := by rw [hstep]
      have hL1 : (spM c im (rnd + 1) M L k).2.set (c.getD k 0 * (c.length : Int) + c.getD (im.getD k 0).toNat 0).toNat ((spF c im k).length : Int) = (spM c im (rnd + 1) M L (k + 1)).2 := by rw [hstep]
      have hlab := hnx.2.1
      rw [← hL1, ← hEt] at hlab
      have hF1 : ((spF c im k).length : Int) + 1 = ((spF c im (k + 1)).length : Nat) := by omega
      refine Or.inl ?_
      refine Exists.intro [false, false, false, false, false, false, false, false, false, false, true] (And.intro (by decide +kernel) ?_)
      refine And.intro (show 0 ≤ c.getD k 0 * (c.length : Int) + c.getD (im.getD k 0).toNat 0 ∧ c.getD k 0 * (c.length : Int) + c.getD (im.getD k 0).toNat 0 < (((spM c im (rnd + 1) M L k).1.length : Nat) : Int) by rw [hml]; exact hEr) ?_
      refine And.intro (show ((0 : Nat) : Int) ≤ c.getD k 0 * (c.length : Int) + c.getD (im.getD k 0).toNat 0 by omega) ?_
      refine Or.inl ?_
      refine Exists.intro [false, false, false, false, false, false, false, false, false, false, true] (And.intro (by decide +kernel) ?_)
      refine And.intro (show 0 ≤ c.getD k 0 * (c.length : Int) + c.getD (im.getD k 0).toNat 0 ∧ c.getD k 0 * (c.length : Int) + c.getD (im.getD k 0).toNat 0 < (((spM c im (rnd + 1) M L k).2.length : Nat) : Int) by rw [hll]; exact hEr) ?_
      refine And.intro (show ((0 : Nat) : Int) ≤ c.getD k 0 * (c.length : Int) + c.getD (im.getD k 0).toNat 0 by omega) ?_
      refine And.intro (show -9223372036854775808 ≤ ((spF c im k).length : Int) + 1 ∧ ((spF c im k).length : Int) + 1 ≤ 9223372036854775807 by omega) ?_
      refine And.intro (show 0 ≤ c.getD k 0 * (c.length : Int) + c.getD (im.getD k 0).toNat 0 ∧ c.getD k 0 * (c.length : Int) + c.getD (im.getD k 0).toNat 0 < ((((spM c im (rnd + 1) M L k).2.set (c.getD k 0 * (c.length : Int) + c.getD (im.getD k 0).toNat 0).toNat ((spF c im k).length : Int)).length : Nat) : Int) by rw [List.length_set, hll]; exact hEr) ?_
      refine And.intro (show 0 ≤ (k : Int) ∧ (k : Int) < (N.length : Int) by omega) ?_
      refine And.intro (by omega) ?_
      refine And.intro (by omega) ?_
      refine nx (k + 1, N.set k (((spM c im (rnd + 1) M L k).2.set (c.getD k 0 * (c.length : Int) + c.getD (im.getD k 0).toNat 0).toNat ((spF c im k).length : Int)).getD (c.getD k 0 * (c.length : Int) + c.getD (im.getD k 0).toNat 0).toNat 0)) ⟨by omega, by rw [List.length_set]; exact hN, fun j hj => ?_⟩ (show c.length - (k + 1) < c.length - k by omega) (by repeat' first | refine And.intro ?_ ?_ | exact True.intro | exact congrArg (RO.ints .i64) hM1 | exact congrArg (RO.ints .i64) hL1 | exact hF1 | (show (_ : Int) = (_ : Int); omega) | omega | exact rfl | (simp only [RO.len]; omega))
      by_cases e : j = k
      · subst e; rw [getD_set_eq (by omega)]; exact hlab
      · rw [getD_set_ne (Ne.symm e)]; exact hNj j (by omega)
    · have h2 : (spM c im (rnd + 1) M L k).1.getD (c.getD k 0 * (c.length : Int) + c.getD (im.getD k 0).toNat 0).toNat 0 = rnd + 1 := h2
      rw [hEt] at h2
      have hF := hnx.2.2.1 h2
      rw [if_pos h2] at hstep
      have hM1 : (spM c im (rnd + 1) M L k).1 = (spM c im (rnd + 1) M L (k + 1)).1 := by rw [hstep]
      have hL1 : (spM c im (rnd + 1) M L k).2 = (spM c im (rnd + 1) M L (k + 1)).2 := by rw [hstep]
      have hlab := hnx.2.1
      rw [← hL1, ← hEt] at hlab
      have hF1 : ((spF c im k).length : Int) = ((spF c im (k + 1)).length : Nat) := by rw [hF]
      refine And.intro (show 0 ≤ c.getD k 0 * (c.length : Int) + c.getD (im.getD k 0).toNat 0 ∧ c.getD k 0 * (c.length : Int) + c.getD (im.getD k 0).toNat 0 < (((spM c im (rnd + 1) M L k).2.length : Nat) : Int) by rw [hll]; exact hEr) ?_
      refine And.intro (show 0 ≤ (k : Int) ∧ (k : Int) < (N.length : Int) by omega) ?_
      refine And.intro (by omega) ?_
      refine And.intro (by omega) ?_
      refine nx (k + 1, N.set k ((spM c im (rnd + 1) M L k).2.getD (c.getD k 0 * (c.length : Int) + c.getD (im.getD k 0).toNat 0).toNat 0)) ⟨by omega, by rw [List.length_set]; exact hN, fun j hj => ?_⟩ (show c.length - (k + 1) < c.length - k by omega) (by repeat' first | refine And.intro ?_ ?_ | exact True.intro | exact congrArg (RO.ints .i64) hM1 | exact congrArg (RO.ints .i64) hL1 | exact hF1 | (show (_ : Int) = (_ : Int); omega) | omega | exact rfl | (simp only [RO.len]; omega))
      by_cases e : j = k
      · subst e; rw [getD_set_eq (by omega)]; exact hlab
      · rw [getD_set_ne (Ne.symm e)]; exact hNj j (by omega)
  · have h1 : (c.length : Int) ≤ (k : Int) := h1
    have hkn : k = c.length := by omega
    have hNd : N = spC c im := ext_getD 0 (by rw [spC_len]; exact hN) fun j hj => hNj j (by omega)
    have hM1 : (spM c im (rnd + 1) M L k).1 = (spM c im (rnd + 1) M L c.length).1 := by rw [hkn]
    have hL1 : (spM c im (rnd + 1) M L k).2 = (spM c im (rnd + 1) M L c.length).2 := by rw [hkn]
    have hF1 : ((spF c im k).length : Int) = (classN (spC c im) : Nat) := by rw [hkn, spF_all]
    repeat' first | refine And.intro ?_ ?_ | exact True.intro | exact congrArg (RO.ints .i64) hNd | exact congrArg (RO.ints .i64) hM1 | exact congrArg (RO.ints .i64) hL1 | exact hF1 | (show (_ : Int) = (_ : Int); omega) | omega | exact rfl
theorem csplit_fn (c s : List Int) (cnt rnd : Int) (M L im : List Int) (h : SpQ c s rnd M L im) : MF 105 [.ptr 1000 0, .vec 1005] (spS 1001 1002 c s cnt rnd M L im) (.tup [])
    ([(1000, .box [.vec 1002, .vec 1001, .int .i64 (classN (spC c im) : Nat), .int .i64 (rnd + 1), .vec 1003, .vec 1004]), (1001, .vec 0 (.ints .i64 c) []), (1002, .vec 0 (.ints .i64 (spC c im)) []), (1003, .vec 0 (.ints .i64 (spM c im (rnd + 1) M L c.length).1) []), (1004, .vec 0 (.ints .i64 (spM c im (rnd + 1) M L c.length).2) []), (1005, .vec 0 (.ints .i64 im) [])]) := mkM Try.func105 (by decide +kernel) rfl (Nat.le_of_ble_eq_true rfl) fun _ => csplit_k c s cnt rnd M L im h
/-- What the next one asks. -/
theorem SpQ.next {c s : List Int} {rnd : Int} {M L im im2 : List Int} (h : SpQ c s rnd M L im) (hr : rnd + 1 ≤ 1000000000) (hl : im2.length = c.length) (hi : ∀ x, x < c.length → 0 ≤ im2.getD x 0 ∧ im2.getD x 0 < (c.length : Int)) :
    SpQ (spC c im) c (rnd + 1) (spM c im (rnd + 1) M L c.length).1 (spM c im (rnd + 1) M L c.length).2 im2 := by
  have hr0 := h.r0
  have hst : SpI c im (rnd + 1) M L 0 := SpI.start h.ml h.ll (fun x hx => by have := h.mlt x hx; omega) (fun x hx => (h.mlt x hx).1) h.lab
  have hI := SpI.upto h.cin h.iin (by omega) hst c.length (Nat.le_refl _)
  have hle : (firsts (spP c im)).length ≤ c.length := by have := firsts_le (spP c im); rw [spP_len] at this; exact this
  refine ⟨by rw [spC_len]; exact h.n, by rw [spC_len], fun x hx => ?_, by rw [spC_len]; exact hl, fun x hx => ?_, by rw [spC_len]; exact hI.lm, by rw [spC_len]; exact hI.ll, fun x hx => ⟨hI.lo x hx, hI.hi x hx⟩, fun x hx => by rw [spC_len]; exact hI.lab x hx, by omega⟩
  · obtain ⟨j, hj, rfl⟩ := mem_getD 0 hx
    unfold spC at hj ⊢
    rw [canon_length] at hj
    have := canon_lt hj
    rw [canon_length, spP_len]; omega
  · rw [spC_len] at hx ⊢; exact hi x hx
end Go.Proofs.Yteopelpnpdbbcaa
