import Derived.Test.YtagdbfklniiabaaSgpLaw
import Derived.Test.YtagdbfklniiabaaEqvLaw
import Derived.Test.YtagdbfklniiabaaReesLaw
import Derived.Test.YtagdbfklniiabaaRefCgG
import Derived.Test.YtagdbfklniiabaaClone
import Derived.Shelf.SlSortCmp.Whole1
import Derived.Test.YtagdbfklniiabaaLay
import Derived.Test.YtagdbfklniiabaaIdpLaw
import Derived.Shelf.Sort.Plain
import Derived.Shelf.Slices.CompactI
import Derived.Lib.SlicesCompact
section
/- Rees coordinates of a J-class with an idempotent: what they are, and that they are right. Plain; no program. -/
namespace Go.Proofs.Ytagdbfklniiabaa
open Go Go.AM
section
variable (t : List (List Int)) (j e : Nat)
abbrev jcl (x : Nat) : Int := (classJ t).getD x 0
end
structure Coo (t : List (List Int)) (j e : Nat) : Prop where
  semi : Semi t
  hj : j < numJ t
  he : e < t.length
  ee : en t e e = e
  ej : jcl t e = j
namespace Coo
end Coo
end Go.Proofs.Ytagdbfklniiabaa
end
section
/- Package congr: the splitter: contract. -/
namespace Go.Proofs.Ytagdbfklniiabaa
open Go Go.AM
set_option maxRecDepth 100000
abbrev spS (a b : Nat) (c s : List Int) (cnt rnd : Int) (M L im : List Int) : Store :=
  [(1000, .box [.vec a, .vec b, .int .i64 cnt, .int .i64 rnd, .vec 1003, .vec 1004]), (a, .vec 0 (.ints .i64 c) []), (b, .vec 0 (.ints .i64 s) []), (1003, .vec 0 (.ints .i64 M) []), (1004, .vec 0 (.ints .i64 L) []), (1005, .vec 0 (.ints .i64 im) [])]
structure SpQ (c s : List Int) (rnd : Int) (M L im : List Int) : Prop where
  n : c.length ≤ 400
  sl : s.length = c.length
  cin : ∀ x ∈ c, 0 ≤ x ∧ x < (c.length : Int)
  il : im.length = c.length
  iin : ∀ x, x < c.length → 0 ≤ im.getD x 0 ∧ im.getD x 0 < (c.length : Int)
  ml : M.length = c.length * c.length
  ll : L.length = c.length * c.length
  mlt : ∀ x ∈ M, 0 ≤ x ∧ x ≤ rnd
  lab : ∀ x ∈ L, 0 ≤ x ∧ x ≤ (c.length : Int)
  r0 : 0 ≤ rnd ∧ rnd ≤ 1000000000
set_option maxHeartbeats 1000000 in
theorem csplit_fn (c s : List Int) (cnt rnd : Int) (M L im : List Int) (h : SpQ c s rnd M L im) : MF 80 [.ptr 1000 0, .vec 1005] (spS 1001 1002 c s cnt rnd M L im) (.tup [])
    ([(1000, .box [.vec 1002, .vec 1001, .int .i64 (classN (spC c im) : Nat), .int .i64 (rnd + 1), .vec 1003, .vec 1004]), (1001, .vec 0 (.ints .i64 c) []), (1002, .vec 0 (.ints .i64 (spC c im)) []), (1003, .vec 0 (.ints .i64 (spM c im (rnd + 1) M L c.length).1) []), (1004, .vec 0 (.ints .i64 (spM c im (rnd + 1) M L c.length).2) []), (1005, .vec 0 (.ints .i64 im) [])]) := mkM Try.func80 (by decide +kernel) rfl (Nat.le_of_ble_eq_true rfl) fun _ => by
  have hn := h.n
  have hsl := h.sl
  have hil := h.il
  have hr0 := h.r0
  have hst : SpI c im (rnd + 1) M L 0 := SpI.start h.ml h.ll (fun x hx => by have := h.mlt x hx; omega) (fun x hx => (h.mlt x hx).1) h.lab
  have hup := SpI.upto h.cin h.iin (by omega) hst
  refine And.intro (by omega) ?_
  refine Exists.intro [] <| lp2 (fun (k : Nat) (_ : List Int) => [(27, .int .i64 k)]) (fun k N => [(1000, .box [.vec 1001, .vec 1002, .int .i64 ((spF c im k).length : Nat), .int .i64 (rnd + 1), .vec 1003, .vec 1004]), (1002, .vec 0 (.ints .i64 N) []), (1003, .vec 0 (.ints .i64 (spM c im (rnd + 1) M L k).1) []), (1004, .vec 0 (.ints .i64 (spM c im (rnd + 1) M L k).2) [])]) (fun k N => k ≤ c.length ∧ N.length = c.length ∧ ∀ j, j < k → N.getD j 0 = (spC c im).getD j 0) (fun k _ => c.length - k) 0 s ⟨Nat.zero_le _, hsl, fun j h => absurd h (Nat.not_lt_zero _)⟩ (by repeat' first | refine And.intro ?_ ?_ | exact True.intro | (show (_ : Int) = (_ : Int); omega) | omega | exact rfl | (simp only [RO.len]; omega)) ?_
  rintro k N ⟨hk, hN, hNj⟩
  have hI := hup k hk
  refine And.intro (fun h1 => ?_) (fun h1 => ?_)
  · have h1 : (k : Int) < (c.length : Int) := h1
    have hkl : k < c.length := by omega
    have hq := spP_get (im := im) hkl
    have hck := h.cin _ (getD_mem (d := 0) hkl)
    have hik := h.iin k hkl
    have hci := h.cin _ (getD_mem (d := 0) (l := c) (i := (im.getD k 0).toNat) (by omega))
    have hcod := cod_lt (q := (c.getD k 0, c.getD (im.getD k 0).toNat 0)) hck.1 hck.2 hci.1 hci.2
    have hnx := hI.next h.cin h.iin (by omega) hkl
    rw [hq] at hnx
    have hml := hI.lm
    have hll := hI.ll
    have hE : (codN c.length (c.getD k 0, c.getD (im.getD k 0).toNat 0) : Int) = c.getD k 0 * (c.length : Int) + c.getD (im.getD k 0).toNat 0 := hcod.2
    have hEr : 0 ≤ c.getD k 0 * (c.length : Int) + c.getD (im.getD k 0).toNat 0 ∧ c.getD k 0 * (c.length : Int) + c.getD (im.getD k 0).toNat 0 < ((c.length * c.length : Nat) : Int) := by omega
    have hcc : c.length * c.length ≤ 160000 := Nat.mul_le_mul (show c.length ≤ 400 from hn) hn
    have hEt : (c.getD k 0 * (c.length : Int) + c.getD (im.getD k 0).toNat 0).toNat = codN c.length (c.getD k 0, c.getD (im.getD k 0).toNat 0) := rfl
    have hmul : 0 ≤ c.getD k 0 * (c.length : Int) := Int.mul_nonneg hck.1 (by omega)
    have hfl : (spF c im k).length ≤ k := by
      have := firsts_le ((spP c im).take k)
      rw [List.length_take] at this
      unfold spF; omega
    have hstep : spM c im (rnd + 1) M L (k + 1) = if (spM c im (rnd + 1) M L k).1.getD (codN c.length ((spP c im).getD k (0, 0))) 0 = rnd + 1 then spM c im (rnd + 1) M L k
      else ((spM c im (rnd + 1) M L k).1.set (codN c.length ((spP c im).getD k (0, 0))) (rnd + 1), (spM c im (rnd + 1) M L k).2.set (codN c.length ((spP c im).getD k (0, 0))) ((spF c im k).length : Int)) := rfl
    rw [hq] at hstep
    refine And.intro (by omega) ?_
    refine Or.inl ?_
    refine Exists.intro [false, false, false, false, false, false, false, false, false, false, false, false, false, false, false, false, false, false, false] (And.intro (by decide +kernel) ?_)
    refine And.intro (show -9223372036854775808 ≤ c.getD k 0 * (c.length : Int) ∧ c.getD k 0 * (c.length : Int) ≤ 9223372036854775807 by omega) ?_
    refine And.intro (by omega) ?_
    refine And.intro (show 0 ≤ im.getD k 0 ∧ im.getD k 0 < (c.length : Int) by omega) ?_
    refine And.intro (show -9223372036854775808 ≤ c.getD k 0 * (c.length : Int) + c.getD (im.getD k 0).toNat 0 ∧ c.getD k 0 * (c.length : Int) + c.getD (im.getD k 0).toNat 0 ≤ 9223372036854775807 by omega) ?_
    refine Or.inl ?_
    refine Exists.intro [false, false, false, false, false, false, false, false, false, false, false, false] (And.intro (by decide +kernel) ?_)
    refine And.intro (show 0 ≤ c.getD k 0 * (c.length : Int) + c.getD (im.getD k 0).toNat 0 ∧ c.getD k 0 * (c.length : Int) + c.getD (im.getD k 0).toNat 0 < (((spM c im (rnd + 1) M L k).1.length : Nat) : Int) by rw [hml]; exact hEr) ?_
    refine And.intro (fun h2 => ?_) (fun h2 => ?_)
    · have h2 : (spM c im (rnd + 1) M L k).1.getD (c.getD k 0 * (c.length : Int) + c.getD (im.getD k 0).toNat 0).toNat 0 ≠ rnd + 1 := h2
      rw [hEt] at h2
      have hF := hnx.2.2.2 h2
      rw [if_neg h2, ← hEt] at hstep
      have hM1 : (spM c im (rnd + 1) M L k).1.set (c.getD k 0 * (c.length : Int) + c.getD (im.getD k 0).toNat 0).toNat (rnd + 1) = (spM c im (rnd + 1) M L (k + 1)).1 := by rw [hstep]
      have hL1 : (spM c im (rnd + 1) M L k).2.set (c.getD k 0 * (c.length : Int) + c.getD (im.getD k 0).toNat 0).toNat ((spF c im k).length : Int) = (spM c im (rnd + 1) M L (k + 1)).2 := by rw [hstep]
      have hlab := hnx.2.1
      rw [← hL1, ← hEt] at hlab
      have hF1 : ((spF c im k).length : Int) + 1 = ((spF c im (k + 1)).length : Nat) := by omega
      refine Or.inl ?_
      refine Exists.intro [false, false, false, false, false, false, false, false, false, false, true] (And.intro (by decide +kernel) ?_)
      refine And.intro (show 0 ≤ c.getD k 0 * (c.length : Int) + c.getD (im.getD k 0).toNat 0 ∧ c.getD k 0 * (c.length : Int) + c.getD (im.getD k 0).toNat 0 < (((spM c im (rnd + 1) M L k).1.length : Nat) : Int) by rw [hml]; exact hEr) ?_
      refine And.intro (show ((0 : Nat) : Int) ≤ c.getD k 0 * (c.length : Int) + c.getD (im.getD k 0).toNat 0 by omega) ?_
      refine Or.inl ?_
      refine Exists.intro [false, false, false, false, false, false, false, false, false, false, true] (And.intro (by decide +kernel) ?_)
      refine And.intro (show 0 ≤ c.getD k 0 * (c.length : Int) + c.getD (im.getD k 0).toNat 0 ∧ c.getD k 0 * (c.length : Int) + c.getD (im.getD k 0).toNat 0 < (((spM c im (rnd + 1) M L k).2.length : Nat) : Int) by rw [hll]; exact hEr) ?_
      refine And.intro (show ((0 : Nat) : Int) ≤ c.getD k 0 * (c.length : Int) + c.getD (im.getD k 0).toNat 0 by omega) ?_
      refine And.intro (show -9223372036854775808 ≤ ((spF c im k).length : Int) + 1 ∧ ((spF c im k).length : Int) + 1 ≤ 9223372036854775807 by omega) ?_
      refine And.intro (show 0 ≤ c.getD k 0 * (c.length : Int) + c.getD (im.getD k 0).toNat 0 ∧ c.getD k 0 * (c.length : Int) + c.getD (im.getD k 0).toNat 0 < ((((spM c im (rnd + 1) M L k).2.set (c.getD k 0 * (c.length : Int) + c.getD (im.getD k 0).toNat 0).toNat ((spF c im k).length : Int)).length : Nat) : Int) by rw [List.length_set, hll]; exact hEr) ?_
      refine And.intro (show 0 ≤ (k : Int) ∧ (k : Int) < (N.length : Int) by omega) ?_
      refine And.intro (by omega) ?_
      refine And.intro (by omega) ?_
      refine nx (k + 1, N.set k (((spM c im (rnd + 1) M L k).2.set (c.getD k 0 * (c.length : Int) + c.getD (im.getD k 0).toNat 0).toNat ((spF c im k).length : Int)).getD (c.getD k 0 * (c.length : Int) + c.getD (im.getD k 0).toNat 0).toNat 0)) ⟨by omega, by rw [List.length_set]; exact hN, fun j hj => ?_⟩ (show c.length - (k + 1) < c.length - k by omega) (by repeat' first | refine And.intro ?_ ?_ | exact True.intro | exact congrArg (RO.ints .i64) hM1 | exact congrArg (RO.ints .i64) hL1 | exact hF1 | (show (_ : Int) = (_ : Int); omega) | omega | exact rfl | (simp only [RO.len]; omega))
      by_cases e : j = k
      · subst e; rw [getD_set_eq (by omega)]; exact hlab
      · rw [getD_set_ne (Ne.symm e)]; exact hNj j (by omega)
    · have h2 : (spM c im (rnd + 1) M L k).1.getD (c.getD k 0 * (c.length : Int) + c.getD (im.getD k 0).toNat 0).toNat 0 = rnd + 1 := h2
      rw [hEt] at h2
      have hF := hnx.2.2.1 h2
      rw [if_pos h2] at hstep
      have hM1 : (spM c im (rnd + 1) M L k).1 = (spM c im (rnd + 1) M L (k + 1)).1 := by rw [hstep]
      have hL1 : (spM c im (rnd + 1) M L k).2 = (spM c im (rnd + 1) M L (k + 1)).2 := by rw [hstep]
      have hlab := hnx.2.1
      rw [← hL1, ← hEt] at hlab
      have hF1 : ((spF c im k).length : Int) = ((spF c im (k + 1)).length : Nat) := by rw [hF]
      refine And.intro (show 0 ≤ c.getD k 0 * (c.length : Int) + c.getD (im.getD k 0).toNat 0 ∧ c.getD k 0 * (c.length : Int) + c.getD (im.getD k 0).toNat 0 < (((spM c im (rnd + 1) M L k).2.length : Nat) : Int) by rw [hll]; exact hEr) ?_
      refine And.intro (show 0 ≤ (k : Int) ∧ (k : Int) < (N.length : Int) by omega) ?_
      refine And.intro (by omega) ?_
      refine And.intro (by omega) ?_
      refine nx (k + 1, N.set k ((spM c im (rnd + 1) M L k).2.getD (c.getD k 0 * (c.length : Int) + c.getD (im.getD k 0).toNat 0).toNat 0)) ⟨by omega, by rw [List.length_set]; exact hN, fun j hj => ?_⟩ (show c.length - (k + 1) < c.length - k by omega) (by repeat' first | refine And.intro ?_ ?_ | exact True.intro | exact congrArg (RO.ints .i64) hM1 | exact congrArg (RO.ints .i64) hL1 | exact hF1 | (show (_ : Int) = (_ : Int); omega) | omega | exact rfl | (simp only [RO.len]; omega))
      by_cases e : j = k
      · subst e; rw [getD_set_eq (by omega)]; exact hlab
      · rw [getD_set_ne (Ne.symm e)]; exact hNj j (by omega)
  · have h1 : (c.length : Int) ≤ (k : Int) := h1
    have hkn : k = c.length := by omega
    have hNd : N = spC c im := ext_getD 0 (by rw [spC_len]; exact hN) fun j hj => hNj j (by omega)
    have hM1 : (spM c im (rnd + 1) M L k).1 = (spM c im (rnd + 1) M L c.length).1 := by rw [hkn]
    have hL1 : (spM c im (rnd + 1) M L k).2 = (spM c im (rnd + 1) M L c.length).2 := by rw [hkn]
    have hF1 : ((spF c im k).length : Int) = (classN (spC c im) : Nat) := by rw [hkn, spF_all]
    repeat' first | refine And.intro ?_ ?_ | exact True.intro | exact congrArg (RO.ints .i64) hNd | exact congrArg (RO.ints .i64) hM1 | exact congrArg (RO.ints .i64) hL1 | exact hF1 | (show (_ : Int) = (_ : Int); omega) | omega | exact rfl
theorem SpQ.next {c s : List Int} {rnd : Int} {M L im im2 : List Int} (h : SpQ c s rnd M L im) (hr : rnd + 1 ≤ 1000000000) (hl : im2.length = c.length) (hi : ∀ x, x < c.length → 0 ≤ im2.getD x 0 ∧ im2.getD x 0 < (c.length : Int)) :
    SpQ (spC c im) c (rnd + 1) (spM c im (rnd + 1) M L c.length).1 (spM c im (rnd + 1) M L c.length).2 im2 := by
  have hr0 := h.r0
  have hst : SpI c im (rnd + 1) M L 0 := SpI.start h.ml h.ll (fun x hx => by have := h.mlt x hx; omega) (fun x hx => (h.mlt x hx).1) h.lab
  have hI := SpI.upto h.cin h.iin (by omega) hst c.length (Nat.le_refl _)
  have hle : (firsts (spP c im)).length ≤ c.length := by have := firsts_le (spP c im); rw [spP_len] at this; exact this
  refine ⟨by rw [spC_len]; exact h.n, by rw [spC_len], fun x hx => ?_, by rw [spC_len]; exact hl, fun x hx => ?_, by rw [spC_len]; exact hI.lm, by rw [spC_len]; exact hI.ll, fun x hx => ⟨hI.lo x hx, hI.hi x hx⟩, fun x hx => by rw [spC_len]; exact hI.lab x hx, by omega⟩
  · obtain ⟨j, hj, rfl⟩ := mem_getD 0 hx
    unfold spC at hj ⊢
    rw [canon_length] at hj
    have := canon_lt hj
    rw [canon_length, spP_len]; omega
  · rw [spC_len] at hx ⊢; exact hi x hx
end Go.Proofs.Ytagdbfklniiabaa
end
section
/- Package congr: the coarsest congruence in a partition: contract. -/
namespace Go.Proofs.Ytagdbfklniiabaa
open Go Go.AM
set_option maxRecDepth 100000
theorem csq_fn (t : List (List Int)) (h : Sh t) : QF 78 [.ro (.rows .i64 t)] (.bool (.lit true)) := mkQ Try.func78 (by decide +kernel) rfl (Nat.le_of_ble_eq_true rfl) fun _ => by
  have hmost := h.most
  have hpos := h.pos
  refine And.intro (fun h1 => absurd (show (t.length : Int) = 0 from h1) (by omega)) (fun _ => ?_)
  refine And.intro (fun h1 => absurd (show (400 : Int) < (t.length : Int) from h1) (by omega)) (fun _ => ?_)
  refine Exists.intro [] <| lp (X := Nat) (fun x => [(17, .int .i64 x)]) (fun _ => []) (fun x => x ≤ t.length) (fun x => t.length - x) 0 (Nat.zero_le _) (by repeat' first | refine And.intro ?_ ?_ | exact True.intro | (show (_ : Int) = (_ : Int); omega) | omega | exact rfl | (simp only [RO.len]; omega)) ?_
  intro x hx
  refine And.intro (fun h1 => ?_) (fun h1 => ?_)
  · have h1 : (x : Int) < (t.length : Int) := h1
    have hxl : x < t.length := by omega
    have r1 := h.len hxl
    refine And.intro (by omega) ?_
    refine And.intro (fun h2 => absurd (show ((t.getD x []).length : Int) = (t.length : Int) by rw [r1]) h2) (fun _ => ?_)
    refine Exists.intro [] <| lp (X := Nat) (fun y => [(28, .int .i64 y)]) (fun _ => []) (fun y => y ≤ t.length) (fun y => t.length - y) 0 (Nat.zero_le _) (by repeat' first | refine And.intro ?_ ?_ | exact True.intro | (show (_ : Int) = (_ : Int); omega) | omega | exact rfl | (simp only [RO.len]; omega)) ?_
    intro y hy
    refine And.intro (fun h3 => ?_) (fun h3 => ?_)
    · have h3 : (y : Int) < ((t.getD x []).length : Int) := h3
      have e1 := h.ent hxl (y := y) (by omega)
      refine And.intro (by omega) ?_
      refine And.intro (fun h4 => absurd (show (t.getD x []).getD y 0 < 0 from h4) (by omega)) (fun _ => ?_)
      refine And.intro (fun h4 => absurd (show (t.length : Int) ≤ (t.getD x []).getD y 0 from h4) (by omega)) (fun _ => ?_)
      refine And.intro (by omega) ?_
      exact nx (y + 1) (show y + 1 ≤ _ by omega) (show t.length - (y + 1) < t.length - y by omega) (by repeat' first | refine And.intro ?_ ?_ | exact True.intro | (show (_ : Int) = (_ : Int); omega) | omega | exact rfl | (simp only [RO.len]; omega))
    · have h3 : ((t.getD x []).length : Int) ≤ (y : Int) := h3
      refine And.intro (by omega) ?_
      exact nx (x + 1) (show x + 1 ≤ _ by omega) (show t.length - (x + 1) < t.length - x by omega) (by repeat' first | refine And.intro ?_ ?_ | exact True.intro | (show (_ : Int) = (_ : Int); omega) | omega | exact rfl | (simp only [RO.len]; omega))
  · exact And.intro rfl trivial
/-! ### Plain: the splitting comes to an end -/
section
variable {t : List (List Int)} {p c c0 s im : List Int} {rnd rnd0 : Int} {M L : List Int} {gens : List Int} {i : Nat}
theorem cg_of_gens (hs : Semi t) (hg : Spans t gens) (h : ∀ g ∈ gens, ∀ x y, x < t.length → y < t.length → c.getD x 0 = c.getD y 0 → c.getD (en t g.toNat x) 0 = c.getD (en t g.toNat y) 0 ∧ c.getD (en t x g.toNat) 0 = c.getD (en t y g.toNat) 0) : Cg t c 0 := by
  have hS := hs.toSh
  have key : ∀ {s : Nat}, Mk t gens s → s < t.length ∧ ∀ x y, x < t.length → y < t.length → c.getD x 0 = c.getD y 0 → c.getD (en t s x) 0 = c.getD (en t s y) 0 ∧ c.getD (en t x s) 0 = c.getD (en t y s) 0 := fun {s} m => by
    induction m with
    | gen hm => exact ⟨by have := hg.el _ hm; omega, h _ hm⟩
    | mul ha hb i1 i2 =>
      refine ⟨(hS.ent i1.1 i2.1).2, fun x y hx hy e => ⟨?_, ?_⟩⟩
      · rw [assoc3 hs.assoc i1.1 i2.1 hx, assoc3 hs.assoc i1.1 i2.1 hy]
        exact (i1.2 _ _ (hS.ent i2.1 hx).2 (hS.ent i2.1 hy).2 (i2.2 x y hx hy e).1).1
      · rw [← assoc3 hs.assoc hx i1.1 i2.1, ← assoc3 hs.assoc hy i1.1 i2.1]
        exact (i2.2 _ _ (hS.ent hx i1.1).2 (hS.ent hy i1.1).2 (i1.2 x y hx hy e).2).2
  exact fun x y s hx hy hsl e => ⟨fun _ => ((key (hg.all s hsl)).2 x y hx hy e).1, fun _ => ((key (hg.all s hsl)).2 x y hx hy e).2⟩
structure CoB (t : List (List Int)) (p c : List Int) : Prop where
  cl : c.length = t.length
  cn : canon c = c
  ref : ∀ x y, x < t.length → y < t.length → c.getD x 0 = c.getD y 0 → p.getD x 0 = p.getD y 0
  syn : ∀ x y, x < t.length → y < t.length → Syn t p x y → c.getD x 0 = c.getD y 0
structure CoG (t : List (List Int)) (p c0 c : List Int) (gens : List Int) (i : Nat) : Prop extends CoB t p c where
  fin : ∀ x y, x < t.length → y < t.length → c.getD x 0 = c.getD y 0 → c0.getD x 0 = c0.getD y 0
  st : ∀ g ∈ gens.take i, ∀ x y, x < t.length → y < t.length → c.getD x 0 = c.getD y 0 → c0.getD (en t g.toNat x) 0 = c0.getD (en t g.toNat y) 0 ∧ c0.getD (en t x g.toNat) 0 = c0.getD (en t y g.toNat) 0
theorem CoG.start (h : CoB t p c) : CoG t p c c gens 0 := ⟨h, fun _ _ _ _ e => e, fun g hg => by simp at hg⟩
theorem CoG.next (hs : Semi t) (hg : ∀ g ∈ gens, 0 ≤ g ∧ g < (t.length : Int)) (h : CoG t p c0 c gens i) (hi : i < gens.length) {a b : List Int} (ha : ∀ x, x < t.length → (a.getD x 0).toNat = en t (gens.getD i 0).toNat x) (hb : ∀ x, x < t.length → (b.getD x 0).toNat = en t x (gens.getD i 0).toNat) :
    CoG t p c0 (spC (spC c a) b) gens (i + 1) := by
  have hS := hs.toSh
  have hgr := hg _ (getD_mem (d := 0) hi)
  have hgl : (gens.getD i 0).toNat < t.length := by omega
  have hcl := h.cl
  have l1 : (spC c a).length = t.length := by rw [spC_len]; exact hcl
  have l2 : (spC (spC c a) b).length = t.length := by rw [spC_len]; exact l1
  have k1 : ∀ x y, x < t.length → y < t.length → ((spC c a).getD x 0 = (spC c a).getD y 0 ↔ c.getD x 0 = c.getD y 0 ∧ c.getD (en t (gens.getD i 0).toNat x) 0 = c.getD (en t (gens.getD i 0).toNat y) 0) := fun x y hx hy => by
    rw [spC_iff (by omega) (by omega), ha x hx, ha y hy]
  have k2 : ∀ x y, x < t.length → y < t.length → ((spC (spC c a) b).getD x 0 = (spC (spC c a) b).getD y 0 ↔ (spC c a).getD x 0 = (spC c a).getD y 0 ∧ (spC c a).getD (en t x (gens.getD i 0).toNat) 0 = (spC c a).getD (en t y (gens.getD i 0).toNat) 0) := fun x y hx hy => by
    rw [spC_iff (by omega) (by omega), hb x hx, hb y hy]
  have down : ∀ x y, x < t.length → y < t.length → (spC (spC c a) b).getD x 0 = (spC (spC c a) b).getD y 0 → c.getD x 0 = c.getD y 0 ∧ c.getD (en t (gens.getD i 0).toNat x) 0 = c.getD (en t (gens.getD i 0).toNat y) 0 ∧ c.getD (en t x (gens.getD i 0).toNat) 0 = c.getD (en t y (gens.getD i 0).toNat) 0 := fun x y hx hy e => by
    have e1 := (k2 x y hx hy).1 e
    have e2 := (k1 x y hx hy).1 e1.1
    have e3 := (k1 _ _ (hS.ent hx hgl).2 (hS.ent hy hgl).2).1 e1.2
    exact ⟨e2.1, e2.2, e3.1⟩
  refine ⟨⟨l2, spC_canon _ _, fun x y hx hy e => h.ref x y hx hy (down x y hx hy e).1, fun x y hx hy e => ?_⟩, fun x y hx hy e => h.fin x y hx hy (down x y hx hy e).1, fun g hgm x y hx hy e => ?_⟩
  · have up : ∀ x y, x < t.length → y < t.length → Syn t p x y → (spC c a).getD x 0 = (spC c a).getD y 0 := fun x y hx hy e =>
      (k1 x y hx hy).2 ⟨h.syn x y hx hy e, h.syn _ _ (hS.ent hgl hx).2 (hS.ent hgl hy).2 (syn_cg hs hx hy hgl e).1⟩
    exact (k2 x y hx hy).2 ⟨up x y hx hy e, up _ _ (hS.ent hx hgl).2 (hS.ent hy hgl).2 (syn_cg hs hx hy hgl e).2⟩
  · have hd := down x y hx hy e
    rw [take_get (d := 0) hi] at hgm
    rcases List.mem_append.1 hgm with hgm | hgm
    · exact h.st g hgm x y hx hy hd.1
    · rw [List.mem_singleton] at hgm
      subst hgm
      exact ⟨h.fin _ _ (hS.ent hgl hx).2 (hS.ent hgl hy).2 hd.2.1, h.fin _ _ (hS.ent hx hgl).2 (hS.ent hy hgl).2 hd.2.2⟩
theorem CoG.done (hs : Semi t) (hg : Spans t gens) (h : CoG t p c0 c gens i) (h0 : CoB t p c0) (hi : gens.length ≤ i) : classN c0 ≤ classN c ∧ (classN c0 = classN c → c = synP t p) := by
  have hc := same_count h0.cn h.cn (by rw [h0.cl, h.cl]) (fun x y hx hy e => h.fin x y (by rw [h0.cl] at hx; exact hx) (by rw [h0.cl] at hy; exact hy) e)
  refine ⟨hc.1, fun e => ?_⟩
  have e := hc.2 e
  have hst := h.st
  rw [List.take_of_length_le hi] at hst
  rw [← e] at hst
  rw [← h.cn]
  exact synP_of hs h.cl h.ref h.syn (cg_of_gens hs hg hst)
end
def b0 (b : Bool) : Nat := match b with | true => 0 | false => 1
set_option maxHeartbeats 2000000 in
theorem ccoa_fn (t : List (List Int)) (p : List Int) (hs : Semi t) (hl : p.length = t.length) (hv : validP p) : QF 37 [.ro (.rows .i64 t), .ro (.ints .i64 p)] (.new (.ints .i64 (synP t p))) := mkQ Try.func37 (by decide +kernel) rfl (Nat.le_of_ble_eq_true rfl) fun _ => by
  have hS := hs.toSh
  have hmost := hs.most
  refine Or.inl (cq (csq_fn t hS) (And.intro rfl trivial) ?_)
  refine And.intro (fun h1 => absurd (show (p.length : Int) = (t.length : Int) by omega) h1) (fun _ => ?_)
  refine Or.inl (cq (pvalid_fn p) (And.intro rfl trivial) ?_)
  refine And.intro (fun h2 => ?_) (fun _ => ?_)
  · have h2 : (!decide (validP p)) = true := h2
    rw [decide_eq_true hv] at h2; cases h2
  have hnn : (t.length : Int) * (t.length : Int) = ((t.length * t.length : Nat) : Int) := by rw [Int.natCast_mul]
  have hn2 : t.length * t.length ≤ 160000 := Nat.mul_le_mul (show t.length ≤ 400 from hmost) hmost
  refine Or.inl ?_
  refine Exists.intro [false, false, false, false, false, false, false, false, false, false, false, false, false, false, true] (And.intro (by decide +kernel) ?_)
  refine cq (cloneI_fn p (by omega)) (And.intro rfl trivial) ?_
  refine And.intro (by omega) ?_
  refine And.intro (by omega) ?_
  refine And.intro (by omega) ?_
  refine And.intro (by omega) ?_
  refine And.intro (by omega) ?_
  refine And.intro (by omega) ?_
  refine And.intro (by omega) ?_
  refine And.intro (by omega) ?_
  refine Or.inl (cq (pcount_fn p) (And.intro rfl trivial) ?_)
  refine Or.inr (Or.inr (ce (cgens_fn t hS) (And.intro rfl trivial) ?_))
  intro gens hg
  refine And.intro (by omega) ?_
  refine And.intro (by omega) ?_
  have ecn : (if validP p then ((classN p : Nat) : Int) else 0) = (classN p : Nat) := if_pos hv
  have hpos := hS.pos
  have hcp : 0 < classN p := cls_some hS hl
  have zr : ∀ n, ∀ x ∈ List.replicate n (0 : Int), x = 0 := fun n x hx => List.eq_of_mem_replicate hx
  have zg : ∀ (n x : Nat), (List.replicate n (0 : Int)).getD x 0 = 0 := fun n x => by simp only [List.getD, List.getElem?_replicate]; split <;> rfl
  have hB0 : CoB t p p := ⟨hl, hv.2, fun _ _ _ _ e => e, fun _ _ _ _ e => e.own⟩
  have hQ0 : SpQ p (List.replicate (t.length : Int).toNat 0) 0 (List.replicate ((t.length : Int) * (t.length : Int)).toNat 0) (List.replicate ((t.length : Int) * (t.length : Int)).toNat 0) (List.replicate (t.length : Int).toNat 0) :=
    ⟨by omega, by simp; omega, fun x hx => by
      obtain ⟨j, hj, rfl⟩ := mem_getD 0 hx
      have := cls_lt hv.2 hj
      have hle : classN p ≤ p.length := firsts_le p
      omega, by simp; omega, fun x hx => by rw [zg]; omega, by rw [List.length_replicate, hnn, Int.toNat_natCast, hl], by rw [List.length_replicate, hnn, Int.toNat_natCast, hl], fun x hx => by rw [zr _ x hx]; omega, fun x hx => by rw [zr _ x hx]; omega, by omega⟩
  refine Exists.intro [] <| lp7 (fun (b : Int) (_ _ : List Int) (_ : Int) (_ _ _ : List Int) => [(9, .int .i64 b)]) (fun _ c s rnd M L im => [(6, .box [.vec 31, .vec 33, .int .i64 (classN c : Nat), .int .i64 rnd, .vec 37, .vec 41]), (31, .vec 0 (.ints .i64 c) []), (33, .vec 0 (.ints .i64 s) []), (37, .vec 0 (.ints .i64 M) []), (41, .vec 0 (.ints .i64 L) []), (49, .vec 0 (.ints .i64 im) [])]) (fun b c s rnd M L im => SpQ c s rnd M L im ∧ CoB t p c ∧ (b ≠ (classN c : Int) → rnd ≤ 800 * (classN c : Int)) ∧ (b = (classN c : Int) → c = synP t p)) (fun b c _ _ _ _ _ => 2 * (t.length - classN c) + b0 (decide (b = (classN c : Int)))) 0 p _ 0 _ _ _ ⟨hQ0, hB0, fun _ => by omega, fun h => by omega⟩ (by repeat' first | refine And.intro ?_ ?_ | exact True.intro | exact ecn | (show (_ : Int) = (_ : Int); omega) | omega | exact rfl) ?_
  rintro b c s rnd M L im ⟨hQ, hB, hrb, hbs⟩
  have hcl := hB.cl
  have hcle : classN c ≤ t.length := by rw [← hcl]; exact firsts_le c
  refine And.intro (fun h1 => ?_) (fun h1 => ?_)
  · have h1 : b ≠ (classN c : Int) := h1
    have hr1 := hrb h1
    refine Exists.intro [] <| lp7 (fun (i : Nat) (_ _ : List Int) (_ : Int) (_ _ _ : List Int) => [(58, .int .i64 i)]) (fun _ d s2 rd M2 L2 im2 => [(6, .box [.vec 31, .vec 33, .int .i64 (classN d : Nat), .int .i64 rd, .vec 37, .vec 41]), (31, .vec 0 (.ints .i64 d) []), (33, .vec 0 (.ints .i64 s2) []), (37, .vec 0 (.ints .i64 M2) []), (41, .vec 0 (.ints .i64 L2) []), (49, .vec 0 (.ints .i64 im2) [])]) (fun i d s2 rd M2 L2 im2 => i ≤ gens.length ∧ SpQ d s2 rd M2 L2 im2 ∧ CoG t p c d gens i ∧ rd ≤ rnd + 2 * (i : Int)) (fun i _ _ _ _ _ _ => gens.length - i) 0 c s rnd M L im ⟨Nat.zero_le _, hQ, CoG.start hB, by omega⟩ (by repeat' first | refine And.intro ?_ ?_ | exact True.intro | (show (_ : Int) = (_ : Int); omega) | omega | exact rfl | (simp only [RO.len]; omega)) ?_
    rintro i d s2 rd M2 L2 im2 ⟨hi, hQ2, hG, hrd⟩
    have hdl := hG.cl
    have hdn : classN d ≤ t.length := by rw [← hdl]; exact firsts_le d
    refine And.intro (fun h2 => ?_) (fun h2 => ?_)
    · have h2 : (i : Int) < (gens.length : Int) := h2
      have hil : i < gens.length := by omega
      have hgr := hg.1.el _ (getD_mem (d := 0) hil)
      have hgl : (gens.getD i 0).toNat < t.length := by omega
      have r1 := hS.len hgl
      have ha : ∀ x, x < t.length → ((t.getD (gens.getD i 0).toNat []).getD x 0).toNat = en t (gens.getD i 0).toNat x := fun x hx => rfl
      have hai : ∀ x, x < d.length → 0 ≤ (t.getD (gens.getD i 0).toNat []).getD x 0 ∧ (t.getD (gens.getD i 0).toNat []).getD x 0 < (d.length : Int) := fun x hx => by have := hS.ent hgl (y := x) (by omega); omega
      have hQa : SpQ d s2 rd M2 L2 (t.getD (gens.getD i 0).toNat []) := { hQ2 with il := by omega, iin := hai }
      refine And.intro (by omega) ?_
      refine And.intro (show 0 ≤ gens.getD i 0 ∧ gens.getD i 0 < (t.length : Int) by omega) ?_
      refine And.intro (show im2.length = (t.getD (gens.getD i 0).toNat []).length by rw [r1, ← hdl]; exact hQ2.il) ?_
      refine Or.inr (Or.inl (cm [] [(1000, 6), (1001, 31), (1002, 33), (1003, 37), (1004, 41), (1005, 49)] (csplit_fn d s2 (classN d : Nat) rd M2 L2 (t.getD (gens.getD i 0).toNat []) hQa) ?_))
      refine And.intro (by repeat' first | refine And.intro ?_ ?_ | exact True.intro | (show (_ : Int) = (_ : Int); omega) | omega | exact rfl | (simp only [RO.len]; omega)) ?_
      refine Exists.intro [] <| lp2 (fun (x : Nat) (_ : List Int) => [(72, .int .i64 x)]) (fun _ I => [(49, .vec 0 (.ints .i64 I) [])]) (fun x I => x ≤ t.length ∧ I.length = t.length ∧ ∀ x', x' < x → I.getD x' 0 = (t.getD x' []).getD (gens.getD i 0).toNat 0) (fun x _ => t.length - x) 0 (t.getD (gens.getD i 0).toNat []) ⟨Nat.zero_le _, r1, fun x h => absurd h (Nat.not_lt_zero _)⟩ (by repeat' first | refine And.intro ?_ ?_ | exact True.intro | (show (_ : Int) = (_ : Int); omega) | omega | exact rfl | (simp only [RO.len]; omega)) ?_
      rintro x I ⟨hx, hIl, hI⟩
      refine And.intro (fun h3 => ?_) (fun h3 => ?_)
      · have h3 : (x : Int) < (t.length : Int) := h3
        have hxl : x < t.length := by omega
        have r2 := hS.len hxl
        refine And.intro (by omega) ?_
        refine And.intro (show 0 ≤ gens.getD i 0 ∧ gens.getD i 0 < ((t.getD x []).length : Int) by omega) ?_
        refine And.intro (show 0 ≤ (x : Int) ∧ (x : Int) < (I.length : Int) by omega) ?_
        refine And.intro (by omega) ?_
        refine And.intro (by omega) ?_
        refine nx (x + 1, I.set x ((t.getD x []).getD (gens.getD i 0).toNat 0)) ⟨by omega, by rw [List.length_set]; exact hIl, fun x' hx' => ?_⟩ (show t.length - (x + 1) < t.length - x by omega) (by repeat' first | refine And.intro ?_ ?_ | exact True.intro | (show (_ : Int) = (_ : Int); omega) | omega | exact rfl | (simp only [RO.len]; omega))
        by_cases e : x' = x
        · subst e; rw [getD_set_eq (by omega)]
        · rw [getD_set_ne (Ne.symm e)]; exact hI x' (by omega)
      · have h3 : (t.length : Int) ≤ (x : Int) := h3
        have hb : ∀ y, y < t.length → (I.getD y 0).toNat = en t y (gens.getD i 0).toNat := fun y hy => by rw [hI y (by omega)]; rfl
        have hbi : ∀ y, y < d.length → 0 ≤ I.getD y 0 ∧ I.getD y 0 < (d.length : Int) := fun y hy => by
          rw [hI y (by omega)]
          have := hS.ent (x := y) (y := (gens.getD i 0).toNat) (by omega) hgl
          omega
        have hQb := hQa.next (im2 := I) (by omega) (by omega) hbi
        have hQc := hQb.next (im2 := I) (by omega) (by rw [spC_len]; omega) (fun y hy => by rw [spC_len] at hy ⊢; exact hbi y hy)
        refine Or.inr (Or.inl (cm [] [(1000, 6), (1001, 33), (1002, 31), (1003, 37), (1004, 41), (1005, 49)] (csplit_fn (spC d (t.getD (gens.getD i 0).toNat [])) d (classN (spC d (t.getD (gens.getD i 0).toNat [])) : Nat) (rd + 1) (spM d (t.getD (gens.getD i 0).toNat []) (rd + 1) M2 L2 d.length).1 (spM d (t.getD (gens.getD i 0).toNat []) (rd + 1) M2 L2 d.length).2 I hQb) ?_))
        refine And.intro (by repeat' first | refine And.intro ?_ ?_ | exact True.intro | (show (_ : Int) = (_ : Int); omega) | omega | exact rfl | (simp only [RO.len]; omega)) ?_
        refine And.intro (by omega) ?_
        exact nx (i + 1, spC (spC d (t.getD (gens.getD i 0).toNat [])) I, spC d (t.getD (gens.getD i 0).toNat []), rd + 1 + 1, _, _, I) ⟨by omega, hQc, hG.next hs hg.1.el hil ha hb, by omega⟩ (show gens.length - (i + 1) < gens.length - i by omega) (by repeat' first | refine And.intro ?_ ?_ | exact True.intro | (show (_ : Int) = (_ : Int); omega) | omega | exact rfl | (simp only [RO.len]; omega))
    · have h2 : (gens.length : Int) ≤ (i : Int) := h2
      have hdn2 := hG.done hs hg.1 hB (by omega)
      refine nx ((classN c : Int), d, s2, rd, M2, L2, im2) ⟨hQ2, hG.toCoB, fun h4 => by omega, fun h4 => hdn2.2 (by omega)⟩ ?_ (by repeat' first | refine And.intro ?_ ?_ | exact True.intro | (show (_ : Int) = (_ : Int); omega) | omega | exact rfl | (simp only [RO.len]; omega))
      show 2 * (t.length - classN d) + b0 (decide ((classN c : Int) = (classN d : Int))) < 2 * (t.length - classN c) + b0 (decide (b = (classN c : Int)))
      rw [decide_eq_false h1]
      show _ < 2 * (t.length - classN c) + 1
      by_cases e : classN c = classN d
      · rw [decide_eq_true (by omega)]
        show 2 * (t.length - classN d) + 0 < _
        omega
      · rw [decide_eq_false (by omega)]
        show 2 * (t.length - classN d) + 1 < _
        omega
  · have h1 : b = (classN c : Int) := h1
    refine And.intro (And.intro (by omega) ?_) trivial
    show RO.ints .i64 c = _
    rw [hbs h1]
end Go.Proofs.Ytagdbfklniiabaa
end
section
/- slices.SortFunc over rows of integers: from the shelf's contract to the abstract machine's. -/
namespace Go.Proofs.Ytagdbfklniiabaa
open Go Go.AM Go.Sort Go.Lib
def RowV (w : World) (M : Msk) : Type := { v : Value // ∃ m : List Int, SlI w M .i64 m v }
instance (w : World) (M : Msk) : Inhabited (RowV w M) := ⟨⟨.slice none 0 0, [], Nat.zero_le _, none, 0, rfl, Nat.le_refl _, .inl rfl⟩⟩
end Go.Proofs.Ytagdbfklniiabaa
end
section
/- Subdirect decompositions, in plain words: when a list holds nothing superfluous. -/
namespace Go.Proofs.Ytagdbfklniiabaa
open Go Go.AM
def kerP (p : List Int) (x y : Nat) : Prop := p.getD x 0 = p.getD y 0
end Go.Proofs.Ytagdbfklniiabaa
end
section
/- The join of two partitions by a forest: plain laws. -/
namespace Go.Proofs.Ytagdbfklniiabaa
def JoR (n : Nat) (p q : List Int) (a b : Nat) : Prop := a < n ∧ b < n ∧ (p.getD a 0 = p.getD b 0 ∨ q.getD a 0 = q.getD b 0)
noncomputable def joB (n : Nat) (p q : List Int) (a b : Nat) : Bool := @decide (Eg (JoR n p q) a b) (Classical.propDecidable _)
theorem joB_true {n : Nat} {p q : List Int} {a b : Nat} : joB n p q a b = true ↔ Eg (JoR n p q) a b := by unfold joB; exact @decide_eq_true_iff _ (Classical.propDecidable _)
noncomputable def joP (n : Nat) (p q : List Int) : List Int := clsL n (joB n p q)
theorem jo_pre (n : Nat) (p q : List Int) : Pre n (joB n p q) :=
  pre_of (fun x _ => joB_true.2 (.refl x)) fun _ _ _ _ _ _ h h' => joB_true.2 ((joB_true.1 h).trans (joB_true.1 h'))
theorem joP_len {n : Nat} {p q : List Int} : (joP n p q).length = n := clsL_len _ _
theorem joP_canon {n : Nat} {p q : List Int} : canon (joP n p q) = joP n p q := canon_idem _
theorem joP_iff {n : Nat} {p q : List Int} {a b : Nat} (ha : a < n) (hb : b < n) : (joP n p q).getD a 0 = (joP n p q).getD b 0 ↔ Eg (JoR n p q) a b := by
  unfold joP
  rw [clsL_iff (jo_pre n p q) ha hb, joB_true, joB_true]
  exact ⟨fun h => h.1, fun h => ⟨h, h.symm⟩⟩
end Go.Proofs.Ytagdbfklniiabaa
end
section
/- Coarser congruences with irreducible quotients: plain laws. -/
namespace Go.Proofs.Ytagdbfklniiabaa
open Go Go.AM
theorem Eg.map {R S : Nat → Nat → Prop} {f : Nat → Nat} (h : ∀ a b, R a b → Eg S (f a) (f b)) {a b : Nat} (e : Eg R a b) : Eg S (f a) (f b) :=
  Eg.least (Q := fun a b => Eg S (f a) (f b)) (fun a => .refl (f a)) (fun _ _ h => h.symm) (fun _ _ _ h h' => h.trans h') h e
section
variable {t : List (List Int)} {p q : List Int}
theorem joP_cg (hp : IsCg t p 0) (hq : IsCg t q 0) : IsCg t (joP t.length p q) 0 := by
  have hS := hp.semi.toSh
  refine ⟨hp.semi, joP_len, ⟨by rw [joP_len]; have := hS.most; omega, joP_canon⟩, by decide, fun x y s hx hy hs e => ?_⟩
  have e := (joP_iff hx hy).1 e
  have step : ∀ {f : Nat → Nat}, (∀ a, a < t.length → f a < t.length) → (∀ a b, a < t.length → b < t.length → p.getD a 0 = p.getD b 0 → p.getD (f a) 0 = p.getD (f b) 0) → (∀ a b, a < t.length → b < t.length → q.getD a 0 = q.getD b 0 → q.getD (f a) 0 = q.getD (f b) 0) → Eg (JoR t.length p q) (f x) (f y) := fun hf h1 h2 =>
    Eg.map (fun a b ⟨ha, hb, h⟩ => .rel ⟨hf a ha, hf b hb, h.imp (h1 a b ha hb) (h2 a b ha hb)⟩) e
  refine ⟨fun _ => (joP_iff (hS.ent hs hx).2 (hS.ent hs hy).2).2 ?_, fun _ => (joP_iff (hS.ent hx hs).2 (hS.ent hy hs).2).2 ?_⟩
  · exact step (f := fun a => en t s a) (fun a ha => (hS.ent hs ha).2) (fun a b ha hb h => (hp.cg a b s ha hb hs h).1 (by decide)) fun a b ha hb h => (hq.cg a b s ha hb hs h).1 (by decide)
  · exact step (f := fun a => en t a s) (fun a ha => (hS.ent ha hs).2) (fun a b ha hb h => (hp.cg a b s ha hb hs h).2 (by decide)) fun a b ha hb h => (hq.cg a b s ha hb hs h).2 (by decide)
theorem dis_ker {n x y : Nat} (hx : x < n) (hy : y < n) (e : kerP (disI n) x y) : x = y := by
  unfold kerP at e
  rw [disI_get hx, disI_get hy] at e
  omega
theorem dis_pt {n : Nat} (hn : n ≤ 4096) : Pt n (disI n) := ⟨disI_len n, by rw [disI_len]; exact hn, by
  refine canon_fix.2 fun i hi => ?_
  rw [disI_len] at hi
  refine ⟨by rw [disI_get hi]; omega, ?_⟩
  rw [disI_get hi]
  have hd : ((disI n).take i).Nodup := by
    refine List.nodup_iff_pairwise_ne.2 (List.pairwise_iff_getElem.2 fun a b ha hb hab => ?_)
    simp [disI]
    omega
  have := nodup_sub hd (B := firsts ((disI n).take i)) fun v hv => mem_firsts.2 hv
  rw [List.length_take, disI_len] at this
  omega⟩
theorem dis_cg (h : Semi t) : IsCg t (disI t.length) 0 :=
  ⟨h, disI_len _, (dis_pt (by have := h.most; omega)).2, by decide, fun x y s hx hy _ e => by
    obtain rfl := dis_ker hx hy e
    exact ⟨fun _ => rfl, fun _ => rfl⟩⟩
end
end Go.Proofs.Ytagdbfklniiabaa
end
