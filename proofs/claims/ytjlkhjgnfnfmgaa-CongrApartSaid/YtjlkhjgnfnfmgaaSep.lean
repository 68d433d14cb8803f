import Derived.Test.YtjlkhjgnfnfmgaaClone
import Derived.Test.YtjlkhjgnfnfmgaaForLaw
import Derived.Test.YtjlkhjgnfnfmgaaRefCg
import Derived.Test.YtjlkhjgnfnfmgaaIdealLaw
import Derived.Shelf.SlSortCmp.Whole1
import Derived.Test.YtjlkhjgnfnfmgaaLay
import Derived.Test.YtjlkhjgnfnfmgaaCgFor
import Derived.Shelf.Sort.Plain
import Derived.Shelf.Slices.CompactI
import Derived.Lib.SlicesCompact
import Derived.Test.YtjlkhjgnfnfmgaaGroup
import Derived.Test.YtjlkhjgnfnfmgaaIdpLaw
section
/- Rees coordinates of a J-class with an idempotent: what they are, and that they are right. Plain; no program. -/
namespace Go.Proofs.Ytjlkhjgnfnfmgaa
open Go Go.AM
section
variable (t : List (List Int)) (j e : Nat)
abbrev jcl (x : Nat) : Int := (classJ t).getD x 0
end
structure Coo (t : List (List Int)) (j e : Nat) : Prop where
  semi : Semi t
  hj : j < numJ t
  he : e < t.length
  ee : en t e e = e
  ej : jcl t e = j
namespace Coo
end Coo
end Go.Proofs.Ytjlkhjgnfnfmgaa
end
section
/- Package congr: the splitter: contract. -/
namespace Go.Proofs.Ytjlkhjgnfnfmgaa
open Go Go.AM
set_option maxRecDepth 100000
abbrev spS (a b : Nat) (c s : List Int) (cnt rnd : Int) (M L im : List Int) : Store :=
  [(1000, .box [.vec a, .vec b, .int .i64 cnt, .int .i64 rnd, .vec 1003, .vec 1004]), (a, .vec 0 (.ints .i64 c) []), (b, .vec 0 (.ints .i64 s) []), (1003, .vec 0 (.ints .i64 M) []), (1004, .vec 0 (.ints .i64 L) []), (1005, .vec 0 (.ints .i64 im) [])]
structure SpQ (c s : List Int) (rnd : Int) (M L im : List Int) : Prop where
  n : c.length ≤ 400
  sl : s.length = c.length
  cin : ∀ x ∈ c, 0 ≤ x ∧ x < (c.length : Int)
  il : im.length = c.length
  iin : ∀ x, x < c.length → 0 ≤ im.getD x 0 ∧ im.getD x 0 < (c.length : Int)
  ml : M.length = c.length * c.length
  ll : L.length = c.length * c.length
  mlt : ∀ x ∈ M, 0 ≤ x ∧ x ≤ rnd
  lab : ∀ x ∈ L, 0 ≤ x ∧ x ≤ (c.length : Int)
  r0 : 0 ≤ rnd ∧ rnd ≤ 1000000000
set_option maxHeartbeats 1000000 in
theorem csplit_fn (c s : List Int) (cnt rnd : Int) (M L im : List Int) (h : SpQ c s rnd M L im) : MF 137 [.ptr 1000 0, .vec 1005] (spS 1001 1002 c s cnt rnd M L im) (.tup [])
    ([(1000, .box [.vec 1002, .vec 1001, .int .i64 (classN (spC c im) : Nat), .int .i64 (rnd + 1), .vec 1003, .vec 1004]), (1001, .vec 0 (.ints .i64 c) []), (1002, .vec 0 (.ints .i64 (spC c im)) []), (1003, .vec 0 (.ints .i64 (spM c im (rnd + 1) M L c.length).1) []), (1004, .vec 0 (.ints .i64 (spM c im (rnd + 1) M L c.length).2) []), (1005, .vec 0 (.ints .i64 im) [])]) := mkM Try.func137 (by decide +kernel) rfl (Nat.le_of_ble_eq_true rfl) fun _ => by
  have hn := h.n
  have hsl := h.sl
  have hil := h.il
  have hr0 := h.r0
  have hst : SpI c im (rnd + 1) M L 0 := SpI.start h.ml h.ll (fun x hx => by have := h.mlt x hx; omega) (fun x hx => (h.mlt x hx).1) h.lab
  have hup := SpI.upto h.cin h.iin (by omega) hst
  refine And.intro (by omega) ?_
  refine Exists.intro [] <| lp2 (fun (k : Nat) (_ : List Int) => [(27, .int .i64 k)]) (fun k N => [(1000, .box [.vec 1001, .vec 1002, .int .i64 ((spF c im k).length : Nat), .int .i64 (rnd + 1), .vec 1003, .vec 1004]), (1002, .vec 0 (.ints .i64 N) []), (1003, .vec 0 (.ints .i64 (spM c im (rnd + 1) M L k).1) []), (1004, .vec 0 (.ints .i64 (spM c im (rnd + 1) M L k).2) [])]) (fun k N => k ≤ c.length ∧ N.length = c.length ∧ ∀ j, j < k → N.getD j 0 = (spC c im).getD j 0) (fun k _ => c.length - k) 0 s ⟨Nat.zero_le _, hsl, fun j h => absurd h (Nat.not_lt_zero _)⟩ (by repeat' first | refine And.intro ?_ ?_ | exact True.intro | (show (_ : Int) = (_ : Int); omega) | omega | exact rfl | (simp only [RO.len]; omega)) ?_
  rintro k N ⟨hk, hN, hNj⟩
  have hI := hup k hk
  refine And.intro (fun h1 => ?_) (fun h1 => ?_)
  · have h1 : (k : Int) < (c.length : Int) := h1
    have hkl : k < c.length := by omega
    have hq := spP_get (im := im) hkl
    have hck := h.cin _ (getD_mem (d := 0) hkl)
    have hik := h.iin k hkl
    have hci := h.cin _ (getD_mem (d := 0) (l := c) (i := (im.getD k 0).toNat) (by omega))
    have hcod := cod_lt (q := (c.getD k 0, c.getD (im.getD k 0).toNat 0)) hck.1 hck.2 hci.1 hci.2
    have hnx := hI.next h.cin h.iin (by omega) hkl
    rw [hq] at hnx
    have hml := hI.lm
    have hll := hI.ll
    have hE : (codN c.length (c.getD k 0, c.getD (im.getD k 0).toNat 0) : Int) = c.getD k 0 * (c.length : Int) + c.getD (im.getD k 0).toNat 0 := hcod.2
    have hEr : 0 ≤ c.getD k 0 * (c.length : Int) + c.getD (im.getD k 0).toNat 0 ∧ c.getD k 0 * (c.length : Int) + c.getD (im.getD k 0).toNat 0 < ((c.length * c.length : Nat) : Int) := by omega
    have hcc : c.length * c.length ≤ 160000 := Nat.mul_le_mul (show c.length ≤ 400 from hn) hn
    have hEt : (c.getD k 0 * (c.length : Int) + c.getD (im.getD k 0).toNat 0).toNat = codN c.length (c.getD k 0, c.getD (im.getD k 0).toNat 0) := rfl
    have hmul : 0 ≤ c.getD k 0 * (c.length : Int) := Int.mul_nonneg hck.1 (by omega)
    have hfl : (spF c im k).length ≤ k := by
      have := firsts_le ((spP c im).take k)
      rw [List.length_take] at this
      unfold spF; omega
    have hstep : spM c im (rnd + 1) M L (k + 1) = if (spM c im (rnd + 1) M L k).1.getD (codN c.length ((spP c im).getD k (0, 0))) 0 = rnd + 1 then spM c im (rnd + 1) M L k
      else ((spM c im (rnd + 1) M L k).1.set (codN c.length ((spP c im).getD k (0, 0))) (rnd + 1), (spM c im (rnd + 1) M L k).2.set (codN c.length ((spP c im).getD k (0, 0))) ((spF c im k).length : Int)) := rfl
    rw [hq] at hstep
    refine And.intro (by omega) ?_
    refine Or.inl ?_
    refine Exists.intro [false, false, false, false, false, false, false, false, false, false, false, false, false, false, false, false, false, false, false] (And.intro (by decide +kernel) ?_)
    refine And.intro (show -9223372036854775808 ≤ c.getD k 0 * (c.length : Int) ∧ c.getD k 0 * (c.length : Int) ≤ 9223372036854775807 by omega) ?_
    refine And.intro (by omega) ?_
    refine And.intro (show 0 ≤ im.getD k 0 ∧ im.getD k 0 < (c.length : Int) by omega) ?_
    refine And.intro (show -9223372036854775808 ≤ c.getD k 0 * (c.length : Int) + c.getD (im.getD k 0).toNat 0 ∧ c.getD k 0 * (c.length : Int) + c.getD (im.getD k 0).toNat 0 ≤ 9223372036854775807 by omega) ?_
    refine Or.inl ?_
    refine Exists.intro [false, false, false, false, false, false, false, false, false, false, false, false] (And.intro (by decide +kernel) ?_)
    refine And.intro (show 0 ≤ c.getD k 0 * (c.length : Int) + c.getD (im.getD k 0).toNat 0 ∧ c.getD k 0 * (c.length : Int) + c.getD (im.getD k 0).toNat 0 < (((spM c im (rnd + 1) M L k).1.length : Nat) : Int) by rw [hml]; exact hEr) ?_
    refine And.intro (fun h2 => ?_) (fun h2 => ?_)
    · have h2 : (spM c im (rnd + 1) M L k).1.getD (c.getD k 0 * (c.length : Int) + c.getD (im.getD k 0).toNat 0).toNat 0 ≠ rnd + 1 := h2
      rw [hEt] at h2
      have hF := hnx.2.2.2 h2
      rw [if_neg h2, ← hEt] at hstep
      have hM1 : (spM c im (rnd + 1) M L k).1.set (c.getD k 0 * (c.length : Int) + c.getD (im.getD k 0).toNat 0).toNat (rnd + 1) = (spM c im (rnd + 1) M L (k + 1)).1 := by rw [hstep]
      have hL1 : (spM c im (rnd + 1) M L k).2.set (c.getD k 0 * (c.length : Int) + c.getD (im.getD k 0).toNat 0).toNat ((spF c im k).length : Int) = (spM c im (rnd + 1) M L (k + 1)).2 := by rw [hstep]
      have hlab := hnx.2.1
      rw [← hL1, ← hEt] at hlab
      have hF1 : ((spF c im k).length : Int) + 1 = ((spF c im (k + 1)).length : Nat) := by omega
      refine Or.inl ?_
      refine Exists.intro [false, false, false, false, false, false, false, false, false, false, true] (And.intro (by decide +kernel) ?_)
      refine And.intro (show 0 ≤ c.getD k 0 * (c.length : Int) + c.getD (im.getD k 0).toNat 0 ∧ c.getD k 0 * (c.length : Int) + c.getD (im.getD k 0).toNat 0 < (((spM c im (rnd + 1) M L k).1.length : Nat) : Int) by rw [hml]; exact hEr) ?_
      refine And.intro (show ((0 : Nat) : Int) ≤ c.getD k 0 * (c.length : Int) + c.getD (im.getD k 0).toNat 0 by omega) ?_
      refine Or.inl ?_
      refine Exists.intro [false, false, false, false, false, false, false, false, false, false, true] (And.intro (by decide +kernel) ?_)
      refine And.intro (show 0 ≤ c.getD k 0 * (c.length : Int) + c.getD (im.getD k 0).toNat 0 ∧ c.getD k 0 * (c.length : Int) + c.getD (im.getD k 0).toNat 0 < (((spM c im (rnd + 1) M L k).2.length : Nat) : Int) by rw [hll]; exact hEr) ?_
      refine And.intro (show ((0 : Nat) : Int) ≤ c.getD k 0 * (c.length : Int) + c.getD (im.getD k 0).toNat 0 by omega) ?_
      refine And.intro (show -9223372036854775808 ≤ ((spF c im k).length : Int) + 1 ∧ ((spF c im k).length : Int) + 1 ≤ 9223372036854775807 by omega) ?_
      refine And.intro (show 0 ≤ c.getD k 0 * (c.length : Int) + c.getD (im.getD k 0).toNat 0 ∧ c.getD k 0 * (c.length : Int) + c.getD (im.getD k 0).toNat 0 < ((((spM c im (rnd + 1) M L k).2.set (c.getD k 0 * (c.length : Int) + c.getD (im.getD k 0).toNat 0).toNat ((spF c im k).length : Int)).length : Nat) : Int) by rw [List.length_set, hll]; exact hEr) ?_
      refine And.intro (show 0 ≤ (k : Int) ∧ (k : Int) < (N.length : Int) by omega) ?_
      refine And.intro (by omega) ?_
      refine And.intro (by omega) ?_
      refine nx (k + 1, N.set k (((spM c im (rnd + 1) M L k).2.set (c.getD k 0 * (c.length : Int) + c.getD (im.getD k 0).toNat 0).toNat ((spF c im k).length : Int)).getD (c.getD k 0 * (c.length : Int) + c.getD (im.getD k 0).toNat 0).toNat 0)) ⟨by omega, by rw [List.length_set]; exact hN, fun j hj => ?_⟩ (show c.length - (k + 1) < c.length - k by omega) (by repeat' first | refine And.intro ?_ ?_ | exact True.intro | exact congrArg (RO.ints .i64) hM1 | exact congrArg (RO.ints .i64) hL1 | exact hF1 | (show (_ : Int) = (_ : Int); omega) | omega | exact rfl | (simp only [RO.len]; omega))
      by_cases e : j = k
      · subst e; rw [getD_set_eq (by omega)]; exact hlab
      · rw [getD_set_ne (Ne.symm e)]; exact hNj j (by omega)
    · have h2 : (spM c im (rnd + 1) M L k).1.getD (c.getD k 0 * (c.length : Int) + c.getD (im.getD k 0).toNat 0).toNat 0 = rnd + 1 := h2
      rw [hEt] at h2
      have hF := hnx.2.2.1 h2
      rw [if_pos h2] at hstep
      have hM1 : (spM c im (rnd + 1) M L k).1 = (spM c im (rnd + 1) M L (k + 1)).1 := by rw [hstep]
      have hL1 : (spM c im (rnd + 1) M L k).2 = (spM c im (rnd + 1) M L (k + 1)).2 := by rw [hstep]
      have hlab := hnx.2.1
      rw [← hL1, ← hEt] at hlab
      have hF1 : ((spF c im k).length : Int) = ((spF c im (k + 1)).length : Nat) := by rw [hF]
      refine And.intro (show 0 ≤ c.getD k 0 * (c.length : Int) + c.getD (im.getD k 0).toNat 0 ∧ c.getD k 0 * (c.length : Int) + c.getD (im.getD k 0).toNat 0 < (((spM c im (rnd + 1) M L k).2.length : Nat) : Int) by rw [hll]; exact hEr) ?_
      refine And.intro (show 0 ≤ (k : Int) ∧ (k : Int) < (N.length : Int) by omega) ?_
      refine And.intro (by omega) ?_
      refine And.intro (by omega) ?_
      refine nx (k + 1, N.set k ((spM c im (rnd + 1) M L k).2.getD (c.getD k 0 * (c.length : Int) + c.getD (im.getD k 0).toNat 0).toNat 0)) ⟨by omega, by rw [List.length_set]; exact hN, fun j hj => ?_⟩ (show c.length - (k + 1) < c.length - k by omega) (by repeat' first | refine And.intro ?_ ?_ | exact True.intro | exact congrArg (RO.ints .i64) hM1 | exact congrArg (RO.ints .i64) hL1 | exact hF1 | (show (_ : Int) = (_ : Int); omega) | omega | exact rfl | (simp only [RO.len]; omega))
      by_cases e : j = k
      · subst e; rw [getD_set_eq (by omega)]; exact hlab
      · rw [getD_set_ne (Ne.symm e)]; exact hNj j (by omega)
  · have h1 : (c.length : Int) ≤ (k : Int) := h1
    have hkn : k = c.length := by omega
    have hNd : N = spC c im := ext_getD 0 (by rw [spC_len]; exact hN) fun j hj => hNj j (by omega)
    have hM1 : (spM c im (rnd + 1) M L k).1 = (spM c im (rnd + 1) M L c.length).1 := by rw [hkn]
    have hL1 : (spM c im (rnd + 1) M L k).2 = (spM c im (rnd + 1) M L c.length).2 := by rw [hkn]
    have hF1 : ((spF c im k).length : Int) = (classN (spC c im) : Nat) := by rw [hkn, spF_all]
    repeat' first | refine And.intro ?_ ?_ | exact True.intro | exact congrArg (RO.ints .i64) hNd | exact congrArg (RO.ints .i64) hM1 | exact congrArg (RO.ints .i64) hL1 | exact hF1 | (show (_ : Int) = (_ : Int); omega) | omega | exact rfl
theorem SpQ.next {c s : List Int} {rnd : Int} {M L im im2 : List Int} (h : SpQ c s rnd M L im) (hr : rnd + 1 ≤ 1000000000) (hl : im2.length = c.length) (hi : ∀ x, x < c.length → 0 ≤ im2.getD x 0 ∧ im2.getD x 0 < (c.length : Int)) :
    SpQ (spC c im) c (rnd + 1) (spM c im (rnd + 1) M L c.length).1 (spM c im (rnd + 1) M L c.length).2 im2 := by
  have hr0 := h.r0
  have hst : SpI c im (rnd + 1) M L 0 := SpI.start h.ml h.ll (fun x hx => by have := h.mlt x hx; omega) (fun x hx => (h.mlt x hx).1) h.lab
  have hI := SpI.upto h.cin h.iin (by omega) hst c.length (Nat.le_refl _)
  have hle : (firsts (spP c im)).length ≤ c.length := by have := firsts_le (spP c im); rw [spP_len] at this; exact this
  refine ⟨by rw [spC_len]; exact h.n, by rw [spC_len], fun x hx => ?_, by rw [spC_len]; exact hl, fun x hx => ?_, by rw [spC_len]; exact hI.lm, by rw [spC_len]; exact hI.ll, fun x hx => ⟨hI.lo x hx, hI.hi x hx⟩, fun x hx => by rw [spC_len]; exact hI.lab x hx, by omega⟩
  · obtain ⟨j, hj, rfl⟩ := mem_getD 0 hx
    unfold spC at hj ⊢
    rw [canon_length] at hj
    have := canon_lt hj
    rw [canon_length, spP_len]; omega
  · rw [spC_len] at hx ⊢; exact hi x hx
end Go.Proofs.Ytjlkhjgnfnfmgaa
end
section
/- Package congr: the coarsest congruence in a partition: contract. -/
namespace Go.Proofs.Ytjlkhjgnfnfmgaa
open Go Go.AM
set_option maxRecDepth 100000
theorem csq_fn (t : List (List Int)) (h : Sh t) : QF 130 [.ro (.rows .i64 t)] (.bool (.lit true)) := mkQ Try.func130 (by decide +kernel) rfl (Nat.le_of_ble_eq_true rfl) fun _ => by
  have hmost := h.most
  have hpos := h.pos
  refine And.intro (fun h1 => absurd (show (t.length : Int) = 0 from h1) (by omega)) (fun _ => ?_)
  refine And.intro (fun h1 => absurd (show (400 : Int) < (t.length : Int) from h1) (by omega)) (fun _ => ?_)
  refine Exists.intro [] <| lp (X := Nat) (fun x => [(17, .int .i64 x)]) (fun _ => []) (fun x => x ≤ t.length) (fun x => t.length - x) 0 (Nat.zero_le _) (by repeat' first | refine And.intro ?_ ?_ | exact True.intro | (show (_ : Int) = (_ : Int); omega) | omega | exact rfl | (simp only [RO.len]; omega)) ?_
  intro x hx
  refine And.intro (fun h1 => ?_) (fun h1 => ?_)
  · have h1 : (x : Int) < (t.length : Int) := h1
    have hxl : x < t.length := by omega
    have r1 := h.len hxl
    refine And.intro (by omega) ?_
    refine And.intro (fun h2 => absurd (show ((t.getD x []).length : Int) = (t.length : Int) by rw [r1]) h2) (fun _ => ?_)
    refine Exists.intro [] <| lp (X := Nat) (fun y => [(28, .int .i64 y)]) (fun _ => []) (fun y => y ≤ t.length) (fun y => t.length - y) 0 (Nat.zero_le _) (by repeat' first | refine And.intro ?_ ?_ | exact True.intro | (show (_ : Int) = (_ : Int); omega) | omega | exact rfl | (simp only [RO.len]; omega)) ?_
    intro y hy
    refine And.intro (fun h3 => ?_) (fun h3 => ?_)
    · have h3 : (y : Int) < ((t.getD x []).length : Int) := h3
      have e1 := h.ent hxl (y := y) (by omega)
      refine And.intro (by omega) ?_
      refine And.intro (fun h4 => absurd (show (t.getD x []).getD y 0 < 0 from h4) (by omega)) (fun _ => ?_)
      refine And.intro (fun h4 => absurd (show (t.length : Int) ≤ (t.getD x []).getD y 0 from h4) (by omega)) (fun _ => ?_)
      refine And.intro (by omega) ?_
      exact nx (y + 1) (show y + 1 ≤ _ by omega) (show t.length - (y + 1) < t.length - y by omega) (by repeat' first | refine And.intro ?_ ?_ | exact True.intro | (show (_ : Int) = (_ : Int); omega) | omega | exact rfl | (simp only [RO.len]; omega))
    · have h3 : ((t.getD x []).length : Int) ≤ (y : Int) := h3
      refine And.intro (by omega) ?_
      exact nx (x + 1) (show x + 1 ≤ _ by omega) (show t.length - (x + 1) < t.length - x by omega) (by repeat' first | refine And.intro ?_ ?_ | exact True.intro | (show (_ : Int) = (_ : Int); omega) | omega | exact rfl | (simp only [RO.len]; omega))
  · exact And.intro rfl trivial
/-! ### Plain: the splitting comes to an end -/
section
variable {t : List (List Int)} {p c c0 s im : List Int} {rnd rnd0 : Int} {M L : List Int} {gens : List Int} {i : Nat}
theorem cg_of_gens (hs : Semi t) (hg : Spans t gens) (h : ∀ g ∈ gens, ∀ x y, x < t.length → y < t.length → c.getD x 0 = c.getD y 0 → c.getD (en t g.toNat x) 0 = c.getD (en t g.toNat y) 0 ∧ c.getD (en t x g.toNat) 0 = c.getD (en t y g.toNat) 0) : Cg t c 0 := by
  have hS := hs.toSh
  have key : ∀ {s : Nat}, Mk t gens s → s < t.length ∧ ∀ x y, x < t.length → y < t.length → c.getD x 0 = c.getD y 0 → c.getD (en t s x) 0 = c.getD (en t s y) 0 ∧ c.getD (en t x s) 0 = c.getD (en t y s) 0 := fun {s} m => by
    induction m with
    | gen hm => exact ⟨by have := hg.el _ hm; omega, h _ hm⟩
    | mul ha hb i1 i2 =>
      refine ⟨(hS.ent i1.1 i2.1).2, fun x y hx hy e => ⟨?_, ?_⟩⟩
      · rw [assoc3 hs.assoc i1.1 i2.1 hx, assoc3 hs.assoc i1.1 i2.1 hy]
        exact (i1.2 _ _ (hS.ent i2.1 hx).2 (hS.ent i2.1 hy).2 (i2.2 x y hx hy e).1).1
      · rw [← assoc3 hs.assoc hx i1.1 i2.1, ← assoc3 hs.assoc hy i1.1 i2.1]
        exact (i2.2 _ _ (hS.ent hx i1.1).2 (hS.ent hy i1.1).2 (i1.2 x y hx hy e).2).2
  exact fun x y s hx hy hsl e => ⟨fun _ => ((key (hg.all s hsl)).2 x y hx hy e).1, fun _ => ((key (hg.all s hsl)).2 x y hx hy e).2⟩
structure CoB (t : List (List Int)) (p c : List Int) : Prop where
  cl : c.length = t.length
  cn : canon c = c
  ref : ∀ x y, x < t.length → y < t.length → c.getD x 0 = c.getD y 0 → p.getD x 0 = p.getD y 0
  syn : ∀ x y, x < t.length → y < t.length → Syn t p x y → c.getD x 0 = c.getD y 0
structure CoG (t : List (List Int)) (p c0 c : List Int) (gens : List Int) (i : Nat) : Prop extends CoB t p c where
  fin : ∀ x y, x < t.length → y < t.length → c.getD x 0 = c.getD y 0 → c0.getD x 0 = c0.getD y 0
  st : ∀ g ∈ gens.take i, ∀ x y, x < t.length → y < t.length → c.getD x 0 = c.getD y 0 → c0.getD (en t g.toNat x) 0 = c0.getD (en t g.toNat y) 0 ∧ c0.getD (en t x g.toNat) 0 = c0.getD (en t y g.toNat) 0
theorem CoG.start (h : CoB t p c) : CoG t p c c gens 0 := ⟨h, fun _ _ _ _ e => e, fun g hg => by simp at hg⟩
theorem CoG.next (hs : Semi t) (hg : ∀ g ∈ gens, 0 ≤ g ∧ g < (t.length : Int)) (h : CoG t p c0 c gens i) (hi : i < gens.length) {a b : List Int} (ha : ∀ x, x < t.length → (a.getD x 0).toNat = en t (gens.getD i 0).toNat x) (hb : ∀ x, x < t.length → (b.getD x 0).toNat = en t x (gens.getD i 0).toNat) :
    CoG t p c0 (spC (spC c a) b) gens (i + 1) := by
  have hS := hs.toSh
  have hgr := hg _ (getD_mem (d := 0) hi)
  have hgl : (gens.getD i 0).toNat < t.length := by omega
  have hcl := h.cl
  have l1 : (spC c a).length = t.length := by rw [spC_len]; exact hcl
  have l2 : (spC (spC c a) b).length = t.length := by rw [spC_len]; exact l1
  have k1 : ∀ x y, x < t.length → y < t.length → ((spC c a).getD x 0 = (spC c a).getD y 0 ↔ c.getD x 0 = c.getD y 0 ∧ c.getD (en t (gens.getD i 0).toNat x) 0 = c.getD (en t (gens.getD i 0).toNat y) 0) := fun x y hx hy => by
    rw [spC_iff (by omega) (by omega), ha x hx, ha y hy]
  have k2 : ∀ x y, x < t.length → y < t.length → ((spC (spC c a) b).getD x 0 = (spC (spC c a) b).getD y 0 ↔ (spC c a).getD x 0 = (spC c a).getD y 0 ∧ (spC c a).getD (en t x (gens.getD i 0).toNat) 0 = (spC c a).getD (en t y (gens.getD i 0).toNat) 0) := fun x y hx hy => by
    rw [spC_iff (by omega) (by omega), hb x hx, hb y hy]
  have down : ∀ x y, x < t.length → y < t.length → (spC (spC c a) b).getD x 0 = (spC (spC c a) b).getD y 0 → c.getD x 0 = c.getD y 0 ∧ c.getD (en t (gens.getD i 0).toNat x) 0 = c.getD (en t (gens.getD i 0).toNat y) 0 ∧ c.getD (en t x (gens.getD i 0).toNat) 0 = c.getD (en t y (gens.getD i 0).toNat) 0 := fun x y hx hy e => by
    have e1 := (k2 x y hx hy).1 e
    have e2 := (k1 x y hx hy).1 e1.1
    have e3 := (k1 _ _ (hS.ent hx hgl).2 (hS.ent hy hgl).2).1 e1.2
    exact ⟨e2.1, e2.2, e3.1⟩
  refine ⟨⟨l2, spC_canon _ _, fun x y hx hy e => h.ref x y hx hy (down x y hx hy e).1, fun x y hx hy e => ?_⟩, fun x y hx hy e => h.fin x y hx hy (down x y hx hy e).1, fun g hgm x y hx hy e => ?_⟩
  · have up : ∀ x y, x < t.length → y < t.length → Syn t p x y → (spC c a).getD x 0 = (spC c a).getD y 0 := fun x y hx hy e =>
      (k1 x y hx hy).2 ⟨h.syn x y hx hy e, h.syn _ _ (hS.ent hgl hx).2 (hS.ent hgl hy).2 (syn_cg hs hx hy hgl e).1⟩
    exact (k2 x y hx hy).2 ⟨up x y hx hy e, up _ _ (hS.ent hx hgl).2 (hS.ent hy hgl).2 (syn_cg hs hx hy hgl e).2⟩
  · have hd := down x y hx hy e
    rw [take_get (d := 0) hi] at hgm
    rcases List.mem_append.1 hgm with hgm | hgm
    · exact h.st g hgm x y hx hy hd.1
    · rw [List.mem_singleton] at hgm
      subst hgm
      exact ⟨h.fin _ _ (hS.ent hgl hx).2 (hS.ent hgl hy).2 hd.2.1, h.fin _ _ (hS.ent hx hgl).2 (hS.ent hy hgl).2 hd.2.2⟩
theorem CoG.done (hs : Semi t) (hg : Spans t gens) (h : CoG t p c0 c gens i) (h0 : CoB t p c0) (hi : gens.length ≤ i) : classN c0 ≤ classN c ∧ (classN c0 = classN c → c = synP t p) := by
  have hc := same_count h0.cn h.cn (by rw [h0.cl, h.cl]) (fun x y hx hy e => h.fin x y (by rw [h0.cl] at hx; exact hx) (by rw [h0.cl] at hy; exact hy) e)
  refine ⟨hc.1, fun e => ?_⟩
  have e := hc.2 e
  have hst := h.st
  rw [List.take_of_length_le hi] at hst
  rw [← e] at hst
  rw [← h.cn]
  exact synP_of hs h.cl h.ref h.syn (cg_of_gens hs hg hst)
end
def b0 (b : Bool) : Nat := match b with | true => 0 | false => 1
set_option maxHeartbeats 2000000 in
theorem ccoa_fn (t : List (List Int)) (p : List Int) (hs : Semi t) (hl : p.length = t.length) (hv : validP p) : QF 64 [.ro (.rows .i64 t), .ro (.ints .i64 p)] (.new (.ints .i64 (synP t p))) := mkQ Try.func64 (by decide +kernel) rfl (Nat.le_of_ble_eq_true rfl) fun _ => by
  have hS := hs.toSh
  have hmost := hs.most
  refine Or.inl (cq (csq_fn t hS) (And.intro rfl trivial) ?_)
  refine And.intro (fun h1 => absurd (show (p.length : Int) = (t.length : Int) by omega) h1) (fun _ => ?_)
  refine Or.inl (cq (pvalid_fn p) (And.intro rfl trivial) ?_)
  refine And.intro (fun h2 => ?_) (fun _ => ?_)
  · have h2 : (!decide (validP p)) = true := h2
    rw [decide_eq_true hv] at h2; cases h2
  have hnn : (t.length : Int) * (t.length : Int) = ((t.length * t.length : Nat) : Int) := by rw [Int.natCast_mul]
  have hn2 : t.length * t.length ≤ 160000 := Nat.mul_le_mul (show t.length ≤ 400 from hmost) hmost
  refine Or.inl ?_
  refine Exists.intro [false, false, false, false, false, false, false, false, false, false, false, false, false, false, true] (And.intro (by decide +kernel) ?_)
  refine cq (cloneI_fn p (by omega)) (And.intro rfl trivial) ?_
  refine And.intro (by omega) ?_
  refine And.intro (by omega) ?_
  refine And.intro (by omega) ?_
  refine And.intro (by omega) ?_
  refine And.intro (by omega) ?_
  refine And.intro (by omega) ?_
  refine And.intro (by omega) ?_
  refine And.intro (by omega) ?_
  refine Or.inl (cq (pcount_fn p) (And.intro rfl trivial) ?_)
  refine Or.inr (Or.inr (ce (cgens_fn t hS) (And.intro rfl trivial) ?_))
  intro gens hg
  refine And.intro (by omega) ?_
  refine And.intro (by omega) ?_
  have ecn : (if validP p then ((classN p : Nat) : Int) else 0) = (classN p : Nat) := if_pos hv
  have hpos := hS.pos
  have hcp : 0 < classN p := cls_some hS hl
  have zr : ∀ n, ∀ x ∈ List.replicate n (0 : Int), x = 0 := fun n x hx => List.eq_of_mem_replicate hx
  have zg : ∀ (n x : Nat), (List.replicate n (0 : Int)).getD x 0 = 0 := fun n x => by simp only [List.getD, List.getElem?_replicate]; split <;> rfl
  have hB0 : CoB t p p := ⟨hl, hv.2, fun _ _ _ _ e => e, fun _ _ _ _ e => e.own⟩
  have hQ0 : SpQ p (List.replicate (t.length : Int).toNat 0) 0 (List.replicate ((t.length : Int) * (t.length : Int)).toNat 0) (List.replicate ((t.length : Int) * (t.length : Int)).toNat 0) (List.replicate (t.length : Int).toNat 0) :=
    ⟨by omega, by simp; omega, fun x hx => by
      obtain ⟨j, hj, rfl⟩ := mem_getD 0 hx
      have := cls_lt hv.2 hj
      have hle : classN p ≤ p.length := firsts_le p
      omega, by simp; omega, fun x hx => by rw [zg]; omega, by rw [List.length_replicate, hnn, Int.toNat_natCast, hl], by rw [List.length_replicate, hnn, Int.toNat_natCast, hl], fun x hx => by rw [zr _ x hx]; omega, fun x hx => by rw [zr _ x hx]; omega, by omega⟩
  refine Exists.intro [] <| lp7 (fun (b : Int) (_ _ : List Int) (_ : Int) (_ _ _ : List Int) => [(9, .int .i64 b)]) (fun _ c s rnd M L im => [(6, .box [.vec 31, .vec 33, .int .i64 (classN c : Nat), .int .i64 rnd, .vec 37, .vec 41]), (31, .vec 0 (.ints .i64 c) []), (33, .vec 0 (.ints .i64 s) []), (37, .vec 0 (.ints .i64 M) []), (41, .vec 0 (.ints .i64 L) []), (49, .vec 0 (.ints .i64 im) [])]) (fun b c s rnd M L im => SpQ c s rnd M L im ∧ CoB t p c ∧ (b ≠ (classN c : Int) → rnd ≤ 800 * (classN c : Int)) ∧ (b = (classN c : Int) → c = synP t p)) (fun b c _ _ _ _ _ => 2 * (t.length - classN c) + b0 (decide (b = (classN c : Int)))) 0 p _ 0 _ _ _ ⟨hQ0, hB0, fun _ => by omega, fun h => by omega⟩ (by repeat' first | refine And.intro ?_ ?_ | exact True.intro | exact ecn | (show (_ : Int) = (_ : Int); omega) | omega | exact rfl) ?_
  rintro b c s rnd M L im ⟨hQ, hB, hrb, hbs⟩
  have hcl := hB.cl
  have hcle : classN c ≤ t.length := by rw [← hcl]; exact firsts_le c
  refine And.intro (fun h1 => ?_) (fun h1 => ?_)
  · have h1 : b ≠ (classN c : Int) := h1
    have hr1 := hrb h1
    refine Exists.intro [] <| lp7 (fun (i : Nat) (_ _ : List Int) (_ : Int) (_ _ _ : List Int) => [(58, .int .i64 i)]) (fun _ d s2 rd M2 L2 im2 => [(6, .box [.vec 31, .vec 33, .int .i64 (classN d : Nat), .int .i64 rd, .vec 37, .vec 41]), (31, .vec 0 (.ints .i64 d) []), (33, .vec 0 (.ints .i64 s2) []), (37, .vec 0 (.ints .i64 M2) []), (41, .vec 0 (.ints .i64 L2) []), (49, .vec 0 (.ints .i64 im2) [])]) (fun i d s2 rd M2 L2 im2 => i ≤ gens.length ∧ SpQ d s2 rd M2 L2 im2 ∧ CoG t p c d gens i ∧ rd ≤ rnd + 2 * (i : Int)) (fun i _ _ _ _ _ _ => gens.length - i) 0 c s rnd M L im ⟨Nat.zero_le _, hQ, CoG.start hB, by omega⟩ (by repeat' first | refine And.intro ?_ ?_ | exact True.intro | (show (_ : Int) = (_ : Int); omega) | omega | exact rfl | (simp only [RO.len]; omega)) ?_
    rintro i d s2 rd M2 L2 im2 ⟨hi, hQ2, hG, hrd⟩
    have hdl := hG.cl
    have hdn : classN d ≤ t.length := by rw [← hdl]; exact firsts_le d
    refine And.intro (fun h2 => ?_) (fun h2 => ?_)
    · have h2 : (i : Int) < (gens.length : Int) := h2
      have hil : i < gens.length := by omega
      have hgr := hg.1.el _ (getD_mem (d := 0) hil)
      have hgl : (gens.getD i 0).toNat < t.length := by omega
      have r1 := hS.len hgl
      have ha : ∀ x, x < t.length → ((t.getD (gens.getD i 0).toNat []).getD x 0).toNat = en t (gens.getD i 0).toNat x := fun x hx => rfl
      have hai : ∀ x, x < d.length → 0 ≤ (t.getD (gens.getD i 0).toNat []).getD x 0 ∧ (t.getD (gens.getD i 0).toNat []).getD x 0 < (d.length : Int) := fun x hx => by have := hS.ent hgl (y := x) (by omega); omega
      have hQa : SpQ d s2 rd M2 L2 (t.getD (gens.getD i 0).toNat []) := { hQ2 with il := by omega, iin := hai }
      refine And.intro (by omega) ?_
      refine And.intro (show 0 ≤ gens.getD i 0 ∧ gens.getD i 0 < (t.length : Int) by omega) ?_
      refine And.intro (show im2.length = (t.getD (gens.getD i 0).toNat []).length by rw [r1, ← hdl]; exact hQ2.il) ?_
      refine Or.inr (Or.inl (cm [] [(1000, 6), (1001, 31), (1002, 33), (1003, 37), (1004, 41), (1005, 49)] (csplit_fn d s2 (classN d : Nat) rd M2 L2 (t.getD (gens.getD i 0).toNat []) hQa) ?_))
      refine And.intro (by repeat' first | refine And.intro ?_ ?_ | exact True.intro | (show (_ : Int) = (_ : Int); omega) | omega | exact rfl | (simp only [RO.len]; omega)) ?_
      refine Exists.intro [] <| lp2 (fun (x : Nat) (_ : List Int) => [(72, .int .i64 x)]) (fun _ I => [(49, .vec 0 (.ints .i64 I) [])]) (fun x I => x ≤ t.length ∧ I.length = t.length ∧ ∀ x', x' < x → I.getD x' 0 = (t.getD x' []).getD (gens.getD i 0).toNat 0) (fun x _ => t.length - x) 0 (t.getD (gens.getD i 0).toNat []) ⟨Nat.zero_le _, r1, fun x h => absurd h (Nat.not_lt_zero _)⟩ (by repeat' first | refine And.intro ?_ ?_ | exact True.intro | (show (_ : Int) = (_ : Int); omega) | omega | exact rfl | (simp only [RO.len]; omega)) ?_
      rintro x I ⟨hx, hIl, hI⟩
      refine And.intro (fun h3 => ?_) (fun h3 => ?_)
      · have h3 : (x : Int) < (t.length : Int) := h3
        have hxl : x < t.length := by omega
        have r2 := hS.len hxl
        refine And.intro (by omega) ?_
        refine And.intro (show 0 ≤ gens.getD i 0 ∧ gens.getD i 0 < ((t.getD x []).length : Int) by omega) ?_
        refine And.intro (show 0 ≤ (x : Int) ∧ (x : Int) < (I.length : Int) by omega) ?_
        refine And.intro (by omega) ?_
        refine And.intro (by omega) ?_
        refine nx (x + 1, I.set x ((t.getD x []).getD (gens.getD i 0).toNat 0)) ⟨by omega, by rw [List.length_set]; exact hIl, fun x' hx' => ?_⟩ (show t.length - (x + 1) < t.length - x by omega) (by repeat' first | refine And.intro ?_ ?_ | exact True.intro | (show (_ : Int) = (_ : Int); omega) | omega | exact rfl | (simp only [RO.len]; omega))
        by_cases e : x' = x
        · subst e; rw [getD_set_eq (by omega)]
        · rw [getD_set_ne (Ne.symm e)]; exact hI x' (by omega)
      · have h3 : (t.length : Int) ≤ (x : Int) := h3
        have hb : ∀ y, y < t.length → (I.getD y 0).toNat = en t y (gens.getD i 0).toNat := fun y hy => by rw [hI y (by omega)]; rfl
        have hbi : ∀ y, y < d.length → 0 ≤ I.getD y 0 ∧ I.getD y 0 < (d.length : Int) := fun y hy => by
          rw [hI y (by omega)]
          have := hS.ent (x := y) (y := (gens.getD i 0).toNat) (by omega) hgl
          omega
        have hQb := hQa.next (im2 := I) (by omega) (by omega) hbi
        have hQc := hQb.next (im2 := I) (by omega) (by rw [spC_len]; omega) (fun y hy => by rw [spC_len] at hy ⊢; exact hbi y hy)
        refine Or.inr (Or.inl (cm [] [(1000, 6), (1001, 33), (1002, 31), (1003, 37), (1004, 41), (1005, 49)] (csplit_fn (spC d (t.getD (gens.getD i 0).toNat [])) d (classN (spC d (t.getD (gens.getD i 0).toNat [])) : Nat) (rd + 1) (spM d (t.getD (gens.getD i 0).toNat []) (rd + 1) M2 L2 d.length).1 (spM d (t.getD (gens.getD i 0).toNat []) (rd + 1) M2 L2 d.length).2 I hQb) ?_))
        refine And.intro (by repeat' first | refine And.intro ?_ ?_ | exact True.intro | (show (_ : Int) = (_ : Int); omega) | omega | exact rfl | (simp only [RO.len]; omega)) ?_
        refine And.intro (by omega) ?_
        exact nx (i + 1, spC (spC d (t.getD (gens.getD i 0).toNat [])) I, spC d (t.getD (gens.getD i 0).toNat []), rd + 1 + 1, _, _, I) ⟨by omega, hQc, hG.next hs hg.1.el hil ha hb, by omega⟩ (show gens.length - (i + 1) < gens.length - i by omega) (by repeat' first | refine And.intro ?_ ?_ | exact True.intro | (show (_ : Int) = (_ : Int); omega) | omega | exact rfl | (simp only [RO.len]; omega))
    · have h2 : (gens.length : Int) ≤ (i : Int) := h2
      have hdn2 := hG.done hs hg.1 hB (by omega)
      refine nx ((classN c : Int), d, s2, rd, M2, L2, im2) ⟨hQ2, hG.toCoB, fun h4 => by omega, fun h4 => hdn2.2 (by omega)⟩ ?_ (by repeat' first | refine And.intro ?_ ?_ | exact True.intro | (show (_ : Int) = (_ : Int); omega) | omega | exact rfl | (simp only [RO.len]; omega))
      show 2 * (t.length - classN d) + b0 (decide ((classN c : Int) = (classN d : Int))) < 2 * (t.length - classN c) + b0 (decide (b = (classN c : Int)))
      rw [decide_eq_false h1]
      show _ < 2 * (t.length - classN c) + 1
      by_cases e : classN c = classN d
      · rw [decide_eq_true (by omega)]
        show 2 * (t.length - classN d) + 0 < _
        omega
      · rw [decide_eq_false (by omega)]
        show 2 * (t.length - classN d) + 1 < _
        omega
  · have h1 : b = (classN c : Int) := h1
    refine And.intro (And.intro (by omega) ?_) trivial
    show RO.ints .i64 c = _
    rw [hbs h1]
end Go.Proofs.Ytjlkhjgnfnfmgaa
end
section
/- slices.SortFunc over rows of integers: from the shelf's contract to the abstract machine's. -/
namespace Go.Proofs.Ytjlkhjgnfnfmgaa
open Go Go.AM Go.Sort Go.Lib
def RowV (w : World) (M : Msk) : Type := { v : Value // ∃ m : List Int, SlI w M .i64 m v }
instance (w : World) (M : Msk) : Inhabited (RowV w M) := ⟨⟨.slice none 0 0, [], Nat.zero_le _, none, 0, rfl, Nat.le_refl _, .inl rfl⟩⟩
end Go.Proofs.Ytjlkhjgnfnfmgaa
end
section
/- Coarser congruences with irreducible quotients: plain laws. -/
namespace Go.Proofs.Ytjlkhjgnfnfmgaa
open Go Go.AM
theorem Eg.map {R S : Nat → Nat → Prop} {f : Nat → Nat} (h : ∀ a b, R a b → Eg S (f a) (f b)) {a b : Nat} (e : Eg R a b) : Eg S (f a) (f b) :=
  Eg.least (Q := fun a b => Eg S (f a) (f b)) (fun a => .refl (f a)) (fun _ _ h => h.symm) (fun _ _ _ h h' => h.trans h') h e
end Go.Proofs.Ytjlkhjgnfnfmgaa
end
section
/- Plain: the greatest congruence that keeps idempotents apart. -/
namespace Go.Proofs.Ytjlkhjgnfnfmgaa
open Go Go.AM
section
variable {t : List (List Int)} {p : List Int}
def idmP (t : List (List Int)) (x : Nat) : Prop := en t x x = x
noncomputable def ipN (t : List (List Int)) (x : Nat) : Nat := @dite _ (∃ k, idmP t (pwN t x k)) (Classical.propDecidable _) (fun h => pwN t x (Classical.choose h)) fun _ => x
theorem ip_of (h : Semi t) {x k : Nat} (hx : x < t.length) (e : idmP t (pwN t x k)) : ipN t x = pwN t x k := by
  have hex : ∃ k, idmP t (pwN t x k) := ⟨k, e⟩
  have e1 : ipN t x = pwN t x (Classical.choose hex) := dif_pos hex
  rw [e1]
  exact pw_uni h hx (Classical.choose_spec hex) e
theorem ip_ex (h : Semi t) {x : Nat} (hx : x < t.length) : ∃ k, k < t.length ∧ idmP t (pwN t x k) ∧ ipN t x = pwN t x k := by
  obtain ⟨k, hk, e⟩ := pw_idem h hx
  exact ⟨k, hk, e, ip_of h hx e⟩
theorem ip_lt (h : Semi t) {x : Nat} (hx : x < t.length) : ipN t x < t.length := by
  obtain ⟨k, _, _, e⟩ := ip_ex h hx
  rw [e]; exact pwN_lt h hx k
theorem ip_idm (h : Semi t) {x : Nat} (hx : x < t.length) : idmP t (ipN t x) := by
  obtain ⟨k, _, e1, e⟩ := ip_ex h hx
  rw [e]; exact e1
theorem ip_self (h : Semi t) {x : Nat} (hx : x < t.length) (e : idmP t x) : ipN t x = x := ip_of (k := 0) h hx e
noncomputable def ipL (t : List (List Int)) : List Int := (List.range t.length).map fun x => (ipN t x : Int)
theorem ipL_len : (ipL t).length = t.length := by simp [ipL]
theorem ipL_get {x : Nat} (h : x < t.length) : (ipL t).getD x 0 = (ipN t x : Int) := by simp [ipL, List.getD, h]
def Sep (t : List (List Int)) (p : List Int) : Prop := ∀ x y, x < t.length → y < t.length → idmP t x → idmP t y → p.getD x 0 = p.getD y 0 → x = y
theorem pw_cg (h : Semi t) (hp : Cg t p 0) {x y : Nat} (hx : x < t.length) (hy : y < t.length) (e : p.getD x 0 = p.getD y 0) : ∀ k, p.getD (pwN t x k) 0 = p.getD (pwN t y k) 0
  | 0 => e
  | k + 1 => ((hp _ _ x (pwN_lt h hx k) (pwN_lt h hy k) hx (pw_cg h hp hx hy e k)).2 (by decide)).trans ((hp x y _ hx hy (pwN_lt h hy k) e).1 (by decide))
theorem sep_iff (h : Semi t) (hp : Cg t p 0) : Sep t p ↔ Sub t.length p (ipL t) := by
  constructor
  · intro hs x y hx hy e
    rw [ipL_get hx, ipL_get hy]
    obtain ⟨a, _, ea, e1⟩ := ip_ex h hx
    obtain ⟨b, _, eb, e2⟩ := ip_ex h hy
    have k1 := pw_pow h hx ea b
    have k2 := pw_pow h hy eb a
    have k3 : b + a * (b + 1) = a + b * (a + 1) := by rw [Nat.mul_add, Nat.mul_add, Nat.mul_comm a b]; omega
    rw [k3] at k2
    have := pw_cg h hp hx hy e (a + b * (a + 1))
    rw [k1, k2, ← e1, ← e2] at this
    rw [hs _ _ (ip_lt h hx) (ip_lt h hy) (ip_idm h hx) (ip_idm h hy) this]
  · intro hs x y hx hy ix iy e
    have := hs x y hx hy e
    rw [ipL_get hx, ipL_get hy, ip_self h hx ix, ip_self h hy iy] at this
    omega
noncomputable def sepP (t : List (List Int)) : List Int := synP t (ipL t)
theorem sepP_is (h : Semi t) : IsCg t (sepP t) 0 := synP_is h
theorem sepP_sep (h : Semi t) : Sep t (sepP t) := (sep_iff h (sepP_is h).cg).2 fun _ _ hx hy e => ((synP_iff hx hy).1 e).own
theorem sep_sub (h : Semi t) (hp : Cg t p 0) : Sep t p ↔ Sub t.length p (sepP t) := by
  constructor
  · intro hs x y hx hy e
    exact (synP_iff hx hy).2 (syn_great h.toSh hp (fun a b ha hb e => (sep_iff h hp).1 hs a b ha hb e) hx hy e)
  · intro hs x y hx hy ix iy e
    exact sepP_sep h x y hx hy ix iy (hs x y hx hy e)
end
end Go.Proofs.Ytjlkhjgnfnfmgaa
end
section
/- congr.Separating; the reference's Idempotents, Separates, Join, Rees, Separating: contracts. -/
namespace Go.Proofs.Ytjlkhjgnfnfmgaa
open Go Go.AM
set_option maxRecDepth 100000
theorem cSep_fn (t : List (List Int)) (hs : Semi t) : QF 18 [.ro (.rows .i64 t)] (.new (.ints .i64 (sepP t))) := mkQ Try.func18 (by decide +kernel) rfl (Nat.le_of_ble_eq_true rfl) fun _ => by
  have hmost := hs.most
  have hS := hs.toSh
  refine Or.inl (cq (valid_fn t) (And.intro rfl trivial) ?_)
  refine And.intro (fun h1 => absurd (valid_zero.2 hs) h1) (fun _ => ?_)
  refine And.intro (by omega) ?_
  refine And.intro (by omega) ?_
  refine Exists.intro [] <| lp2 (fun (x : Nat) (_ : List Int) => [(14, .int .i64 x)]) (fun _ L => [(11, .vec 0 (.ints .i64 L) [])]) (fun x L => x ≤ t.length ∧ L.length = t.length ∧ ∀ y, y < x → L.getD y 0 = (ipN t y : Int)) (fun x _ => t.length - x) 0 (List.replicate t.length 0) ⟨Nat.zero_le _, by simp, fun y h => absurd h (Nat.not_lt_zero _)⟩ (by repeat' first | refine And.intro ?_ ?_ | exact True.intro | (show (_ : Int) = (_ : Int); omega) | omega | exact rfl | (simp only [RO.len]; omega)) ?_
  rintro x L ⟨hx, hL, hLy⟩
  refine And.intro (fun h2 => ?_) (fun h2 => ?_)
  · have h2 : (x : Int) < (t.length : Int) := h2
    have hxl : x < t.length := by omega
    obtain ⟨k0, hk0, hid, _⟩ := ip_ex hs hxl
    refine Exists.intro [] <| lp (X := Nat) (fun k => [(5, .int .i64 (pwN t x k))]) (fun _ => []) (fun k => k ≤ k0) (fun k => k0 - k) 0 (Nat.zero_le _) (by repeat' first | refine And.intro ?_ ?_ | exact True.intro | (show (_ : Int) = (_ : Int); omega) | omega | exact rfl | (simp only [RO.len]; omega)) ?_
    rintro k hk
    have hpl := pwN_lt hs hxl k
    have hent := hS.ent hpl hpl
    have hrl := hS.len hpl
    refine And.intro (show 0 ≤ (pwN t x k : Int) ∧ (pwN t x k : Int) < (t.length : Int) by omega) ?_
    refine And.intro (show 0 ≤ (pwN t x k : Int) ∧ (pwN t x k : Int) < ((t.getD (pwN t x k) []).length : Int) by omega) ?_
    refine And.intro (fun h3 => ?_) (fun h3 => ?_)
    · have h3 : ¬ (t.getD (pwN t x k) []).getD (pwN t x k) 0 = (pwN t x k : Int) := h3
      rw [hent.1] at h3
      have hne : k ≠ k0 := fun e => h3 (by subst e; exact congrArg _ hid)
      have hent2 := hS.ent hpl hxl
      refine And.intro (show 0 ≤ (pwN t x k : Int) ∧ (pwN t x k : Int) < (t.length : Int) by omega) ?_
      refine And.intro (show 0 ≤ (x : Int) ∧ (x : Int) < ((t.getD (pwN t x k) []).length : Int) by omega) ?_
      exact nx (k + 1) (show k + 1 ≤ k0 by omega) (show k0 - (k + 1) < k0 - k by omega) (by repeat' first | refine And.intro ?_ ?_ | exact True.intro | exact hent2.1 | omega | exact rfl)
    · have h3 : (t.getD (pwN t x k) []).getD (pwN t x k) 0 = (pwN t x k : Int) := h3
      rw [hent.1] at h3
      have hip := ip_of hs hxl (k := k) (by unfold idmP; omega)
      refine And.intro (show 0 ≤ (x : Int) ∧ (x : Int) < (L.length : Int) by omega) ?_
      refine And.intro (by omega) ?_
      refine And.intro (by omega) ?_
      refine nx (x + 1, L.set x (pwN t x k : Int)) ⟨by omega, by rw [List.length_set]; exact hL, fun y hy => ?_⟩ (show t.length - (x + 1) < t.length - x by omega) (by repeat' first | refine And.intro ?_ ?_ | exact True.intro | (show (_ : Int) = (_ : Int); omega) | omega | exact rfl | (simp only [RO.len]; omega))
      by_cases e : y = x
      · subst e; rw [getD_set_eq (by omega), hip]
      · rw [getD_set_ne (Ne.symm e)]; exact hLy y (by omega)
  · have h2 : (t.length : Int) ≤ (x : Int) := h2
    have e : L = ipL t := ext_getD 0 (by rw [ipL_len]; exact hL) fun y hy => by rw [hLy y (by omega), ipL_get (by omega)]
    have ec : (if L.length ≤ 4096 then canon L else []) = canon (ipL t) := by rw [if_pos (by omega), e]
    have hcl : (canon (ipL t)).length = t.length := by rw [canon_length, ipL_len]
    have hcv : validP (canon (ipL t)) := ⟨by omega, canon_idem _⟩
    have hsy : synP t (canon (ipL t)) = sepP t := synP_congr hS fun a b ha hb => canon_eq_iff (by rw [ipL_len]; omega) (by rw [ipL_len]; omega)
    have hco := ccoa_fn t (canon (ipL t)) hs hcl hcv
    rw [hsy, ← ec] at hco
    refine Or.inl (cq (Canonical_fn L) (And.intro rfl trivial) ?_)
    refine Or.inl (cq hco (And.intro rfl (And.intro rfl trivial)) ?_)
    exact And.intro (And.intro (by omega) rfl) trivial
end Go.Proofs.Ytjlkhjgnfnfmgaa
end
