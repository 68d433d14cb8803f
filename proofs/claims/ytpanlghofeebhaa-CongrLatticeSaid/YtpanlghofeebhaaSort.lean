import Derived.Test.YtpanlghofeebhaaSgpLaw
import Derived.Test.YtpanlghofeebhaaEqvLaw
import Derived.Test.YtpanlghofeebhaaRefRees
import Derived.Test.YtpanlghofeebhaaSynLaw
import Derived.Test.YtpanlghofeebhaaQuoLaw
import Derived.Shelf.SlSortCmp.Whole1
import Derived.Test.YtpanlghofeebhaaLay
section
/- Rees coordinates of a J-class with an idempotent: what they are, and that they are right. Plain; no program. -/
namespace Go.Proofs.Ytpanlghofeebhaa
open Go Go.AM
section
variable (t : List (List Int)) (j e : Nat)
abbrev jcl (x : Nat) : Int := (classJ t).getD x 0
end
structure Coo (t : List (List Int)) (j e : Nat) : Prop where
  semi : Semi t
  hj : j < numJ t
  he : e < t.length
  ee : en t e e = e
  ej : jcl t e = j
namespace Coo
end Coo
end Go.Proofs.Ytpanlghofeebhaa
end
section
/- Package congr: the splitter: contract. -/
namespace Go.Proofs.Ytpanlghofeebhaa
open Go Go.AM
set_option maxRecDepth 100000
abbrev spS (a b : Nat) (c s : List Int) (cnt rnd : Int) (M L im : List Int) : Store :=
  [(1000, .box [.vec a, .vec b, .int .i64 cnt, .int .i64 rnd, .vec 1003, .vec 1004]), (a, .vec 0 (.ints .i64 c) []), (b, .vec 0 (.ints .i64 s) []), (1003, .vec 0 (.ints .i64 M) []), (1004, .vec 0 (.ints .i64 L) []), (1005, .vec 0 (.ints .i64 im) [])]
structure SpQ (c s : List Int) (rnd : Int) (M L im : List Int) : Prop where
  n : c.length ≤ 400
  sl : s.length = c.length
  cin : ∀ x ∈ c, 0 ≤ x ∧ x < (c.length : Int)
  il : im.length = c.length
  iin : ∀ x, x < c.length → 0 ≤ im.getD x 0 ∧ im.getD x 0 < (c.length : Int)
  ml : M.length = c.length * c.length
  ll : L.length = c.length * c.length
  mlt : ∀ x ∈ M, 0 ≤ x ∧ x ≤ rnd
  lab : ∀ x ∈ L, 0 ≤ x ∧ x ≤ (c.length : Int)
  r0 : 0 ≤ rnd ∧ rnd ≤ 1000000000
set_option maxHeartbeats 1000000 in
theorem csplit_fn (c s : List Int) (cnt rnd : Int) (M L im : List Int) (h : SpQ c s rnd M L im) : MF 127 [.ptr 1000 0, .vec 1005] (spS 1001 1002 c s cnt rnd M L im) (.tup [])
    ([(1000, .box [.vec 1002, .vec 1001, .int .i64 (classN (spC c im) : Nat), .int .i64 (rnd + 1), .vec 1003, .vec 1004]), (1001, .vec 0 (.ints .i64 c) []), (1002, .vec 0 (.ints .i64 (spC c im)) []), (1003, .vec 0 (.ints .i64 (spM c im (rnd + 1) M L c.length).1) []), (1004, .vec 0 (.ints .i64 (spM c im (rnd + 1) M L c.length).2) []), (1005, .vec 0 (.ints .i64 im) [])]) := mkM Try.func127 (by decide +kernel) rfl (Nat.le_of_ble_eq_true rfl) fun _ => by
  have hn := h.n
  have hsl := h.sl
  have hil := h.il
  have hr0 := h.r0
  have hst : SpI c im (rnd + 1) M L 0 := SpI.start h.ml h.ll (fun x hx => by have := h.mlt x hx; omega) (fun x hx => (h.mlt x hx).1) h.lab
  have hup := SpI.upto h.cin h.iin (by omega) hst
  refine And.intro (by omega) ?_
  refine Exists.intro [] <| lp2 (fun (k : Nat) (_ : List Int) => [(27, .int .i64 k)]) (fun k N => [(1000, .box [.vec 1001, .vec 1002, .int .i64 ((spF c im k).length : Nat), .int .i64 (rnd + 1), .vec 1003, .vec 1004]), (1002, .vec 0 (.ints .i64 N) []), (1003, .vec 0 (.ints .i64 (spM c im (rnd + 1) M L k).1) []), (1004, .vec 0 (.ints .i64 (spM c im (rnd + 1) M L k).2) [])]) (fun k N => k ≤ c.length ∧ N.length = c.length ∧ ∀ j, j < k → N.getD j 0 = (spC c im).getD j 0) (fun k _ => c.length - k) 0 s ⟨Nat.zero_le _, hsl, fun j h => absurd h (Nat.not_lt_zero _)⟩ (by repeat' first | refine And.intro ?_ ?_ | exact True.intro | (show (_ : Int) = (_ : Int); omega) | omega | exact rfl | (simp only [RO.len]; omega)) ?_
  rintro k N ⟨hk, hN, hNj⟩
  have hI := hup k hk
  refine And.intro (fun h1 => ?_) (fun h1 => ?_)
  · have h1 : (k : Int) < (c.length : Int) := h1
    have hkl : k < c.length := by omega
    have hq := spP_get (im := im) hkl
    have hck := h.cin _ (getD_mem (d := 0) hkl)
    have hik := h.iin k hkl
    have hci := h.cin _ (getD_mem (d := 0) (l := c) (i := (im.getD k 0).toNat) (by omega))
    have hcod := cod_lt (q := (c.getD k 0, c.getD (im.getD k 0).toNat 0)) hck.1 hck.2 hci.1 hci.2
    have hnx := hI.next h.cin h.iin (by omega) hkl
    rw [hq] at hnx
    have hml := hI.lm
    have hll := hI.ll
    have hE : (codN c.length (c.getD k 0, c.getD (im.getD k 0).toNat 0) : Int) = c.getD k 0 * (c.length : Int) + c.getD (im.getD k 0).toNat 0 := hcod.2
    have hEr : 0 ≤ c.getD k 0 * (c.length : Int) + c.getD (im.getD k 0).toNat 0 ∧ c.getD k 0 * (c.length : Int) + c.getD (im.getD k 0).toNat 0 < ((c.length * c.length : Nat) : Int) := by omega
    have hcc : c.length * c.length ≤ 160000 := Nat.mul_le_mul (show c.length ≤ 400 from hn) hn
    have hEt : (c.getD k 0 * (c.length : Int) + c.getD (im.getD k 0).toNat 0).toNat = codN c.length (c.getD k 0, c.getD (im.getD k 0).toNat 0) := rfl
    have hmul : 0 ≤ c.getD k 0 * (c.length : Int) := Int.mul_nonneg hck.1 (by omega)
    have hfl : (spF c im k).length ≤ k := by
      have := firsts_le ((spP c im).take k)
      rw [List.length_take] at this
      unfold spF; omega
    have hstep : spM c im (rnd + 1) M L (k + 1) = if (spM c im (rnd + 1) M L k).1.getD (codN c.length ((spP c im).getD k (0, 0))) 0 = rnd + 1 then spM c im (rnd + 1) M L k
      else ((spM c im (rnd + 1) M L k).1.set (codN c.length ((spP c im).getD k (0, 0))) (rnd + 1), (spM c im (rnd + 1) M L k).2.set (codN c.length ((spP c im).getD k (0, 0))) ((spF c im k).length : Int)) := rfl
    rw [hq] at hstep
    refine And.intro (by omega) ?_
    refine Or.inl ?_
    refine Exists.intro [false, false, false, false, false, false, false, false, false, false, false, false, false, false, false, false, false, false, false] (And.intro (by decide +kernel) ?_)
    refine And.intro (show -9223372036854775808 ≤ c.getD k 0 * (c.length : Int) ∧ c.getD k 0 * (c.length : Int) ≤ 9223372036854775807 by omega) ?_
    refine And.intro (by omega) ?_
    refine And.intro (show 0 ≤ im.getD k 0 ∧ im.getD k 0 < (c.length : Int) by omega) ?_
    refine And.intro (show -9223372036854775808 ≤ c.getD k 0 * (c.length : Int) + c.getD (im.getD k 0).toNat 0 ∧ c.getD k 0 * (c.length : Int) + c.getD (im.getD k 0).toNat 0 ≤ 9223372036854775807 by omega) ?_
    refine Or.inl ?_
    refine Exists.intro [false, false, false, false, false, false, false, false, false, false, false, false] (And.intro (by decide +kernel) ?_)
    refine And.intro (show 0 ≤ c.getD k 0 * (c.length : Int) + c.getD (im.getD k 0).toNat 0 ∧ c.getD k 0 * (c.length : Int) + c.getD (im.getD k 0).toNat 0 < (((spM c im (rnd + 1) M L k).1.length : Nat) : Int) by rw [hml]; exact hEr) ?_
    refine And.intro (fun h2 => ?_) (fun h2 => ?_)
    · have h2 : (spM c im (rnd + 1) M L k).1.getD (c.getD k 0 * (c.length : Int) + c.getD (im.getD k 0).toNat 0).toNat 0 ≠ rnd + 1 := h2
      rw [hEt] at h2
      have hF := hnx.2.2.2 h2
      rw [if_neg h2, ← hEt] at hstep
      have hM1 : (spM c im (rnd + 1) M L k).1.set (c.getD k 0 * (c.length : Int) + c.getD (im.getD k 0).toNat 0).toNat (rnd + 1) = (spM c im (rnd + 1) M L (k + 1)).1 := by rw [hstep]
      have hL1 : (spM c im (rnd + 1) M L k).2.set (c.getD k 0 * (c.length : Int) + c.getD (im.getD k 0).toNat 0).toNat ((spF c im k).length : Int) = (spM c im (rnd + 1) M L (k + 1)).2 := by rw [hstep]
      have hlab := hnx.2.1
      rw [← hL1, ← hEt] at hlab
      have hF1 : ((spF c im k).length : Int) + 1 = ((spF c im (k + 1)).length : Nat) := by omega
      refine Or.inl ?_
      refine Exists.intro [false, false, false, false, false, false, false, false, false, false, true] (And.intro (by decide +kernel) ?_)
      refine And.intro (show 0 ≤ c.getD k 0 * (c.length : Int) + c.getD (im.getD k 0).toNat 0 ∧ c.getD k 0 * (c.length : Int) + c.getD (im.getD k 0).toNat 0 < (((spM c im (rnd + 1) M L k).1.length : Nat) : Int) by rw [hml]; exact hEr) ?_
      refine And.intro (show ((0 : Nat) : Int) ≤ c.getD k 0 * (c.length : Int) + c.getD (im.getD k 0).toNat 0 by omega) ?_
      refine Or.inl ?_
      refine Exists.intro [false, false, false, false, false, false, false, false, false, false, true] (And.intro (by decide +kernel) ?_)
      refine And.intro (show 0 ≤ c.getD k 0 * (c.length : Int) + c.getD (im.getD k 0).toNat 0 ∧ c.getD k 0 * (c.length : Int) + c.getD (im.getD k 0).toNat 0 < (((spM c im (rnd + 1) M L k).2.length : Nat) : Int) by rw [hll]; exact hEr) ?_
      refine And.intro (show ((0 : Nat) : Int) ≤ c.getD k 0 * (c.length : Int) + c.getD (im.getD k 0).toNat 0 by omega) ?_
      refine And.intro (show -9223372036854775808 ≤ ((spF c im k).length : Int) + 1 ∧ ((spF c im k).length : Int) + 1 ≤ 9223372036854775807 by omega) ?_
      refine And.intro (show 0 ≤ c.getD k 0 * (c.length : Int) + c.getD (im.getD k 0).toNat 0 ∧ c.getD k 0 * (c.length : Int) + c.getD (im.getD k 0).toNat 0 < ((((spM c im (rnd + 1) M L k).2.set (c.getD k 0 * (c.length : Int) + c.getD (im.getD k 0).toNat 0).toNat ((spF c im k).length : Int)).length : Nat) : Int) by rw [List.length_set, hll]; exact hEr) ?_
      refine And.intro (show 0 ≤ (k : Int) ∧ (k : Int) < (N.length : Int) by omega) ?_
      refine And.intro (by omega) ?_
      refine And.intro (by omega) ?_
      refine nx (k + 1, N.set k (((spM c im (rnd + 1) M L k).2.set (c.getD k 0 * (c.length : Int) + c.getD (im.getD k 0).toNat 0).toNat ((spF c im k).length : Int)).getD (c.getD k 0 * (c.length : Int) + c.getD (im.getD k 0).toNat 0).toNat 0)) ⟨by omega, by rw [List.length_set]; exact hN, fun j hj => ?_⟩ (show c.length - (k + 1) < c.length - k by omega) (by repeat' first | refine And.intro ?_ ?_ | exact True.intro | exact congrArg (RO.ints .i64) hM1 | exact congrArg (RO.ints .i64) hL1 | exact hF1 | (show (_ : Int) = (_ : Int); omega) | omega | exact rfl | (simp only [RO.len]; omega))
      by_cases e : j = k
      · subst e; rw [getD_set_eq (by omega)]; exact hlab
      · rw [getD_set_ne (Ne.symm e)]; exact hNj j (by omega)
    · have h2 : (spM c im (rnd + 1) M L k).1.getD (c.getD k 0 * (c.length : Int) + c.getD (im.getD k 0).toNat 0).toNat 0 = rnd + 1 := h2
      rw [hEt] at h2
      have hF := hnx.2.2.1 h2
      rw [if_pos h2] at hstep
      have hM1 : (spM c im (rnd + 1) M L k).1 = (spM c im (rnd + 1) M L (k + 1)).1 := by rw [hstep]
      have hL1 : (spM c im (rnd + 1) M L k).2 = (spM c im (rnd + 1) M L (k + 1)).2 := by rw [hstep]
      have hlab := hnx.2.1
      rw [← hL1, ← hEt] at hlab
      have hF1 : ((spF c im k).length : Int) = ((spF c im (k + 1)).length : Nat) := by rw [hF]
      refine And.intro (show 0 ≤ c.getD k 0 * (c.length : Int) + c.getD (im.getD k 0).toNat 0 ∧ c.getD k 0 * (c.length : Int) + c.getD (im.getD k 0).toNat 0 < (((spM c im (rnd + 1) M L k).2.length : Nat) : Int) by rw [hll]; exact hEr) ?_
      refine And.intro (show 0 ≤ (k : Int) ∧ (k : Int) < (N.length : Int) by omega) ?_
      refine And.intro (by omega) ?_
      refine And.intro (by omega) ?_
      refine nx (k + 1, N.set k ((spM c im (rnd + 1) M L k).2.getD (c.getD k 0 * (c.length : Int) + c.getD (im.getD k 0).toNat 0).toNat 0)) ⟨by omega, by rw [List.length_set]; exact hN, fun j hj => ?_⟩ (show c.length - (k + 1) < c.length - k by omega) (by repeat' first | refine And.intro ?_ ?_ | exact True.intro | exact congrArg (RO.ints .i64) hM1 | exact congrArg (RO.ints .i64) hL1 | exact hF1 | (show (_ : Int) = (_ : Int); omega) | omega | exact rfl | (simp only [RO.len]; omega))
      by_cases e : j = k
      · subst e; rw [getD_set_eq (by omega)]; exact hlab
      · rw [getD_set_ne (Ne.symm e)]; exact hNj j (by omega)
  · have h1 : (c.length : Int) ≤ (k : Int) := h1
    have hkn : k = c.length := by omega
    have hNd : N = spC c im := ext_getD 0 (by rw [spC_len]; exact hN) fun j hj => hNj j (by omega)
    have hM1 : (spM c im (rnd + 1) M L k).1 = (spM c im (rnd + 1) M L c.length).1 := by rw [hkn]
    have hL1 : (spM c im (rnd + 1) M L k).2 = (spM c im (rnd + 1) M L c.length).2 := by rw [hkn]
    have hF1 : ((spF c im k).length : Int) = (classN (spC c im) : Nat) := by rw [hkn, spF_all]
    repeat' first | refine And.intro ?_ ?_ | exact True.intro | exact congrArg (RO.ints .i64) hNd | exact congrArg (RO.ints .i64) hM1 | exact congrArg (RO.ints .i64) hL1 | exact hF1 | (show (_ : Int) = (_ : Int); omega) | omega | exact rfl
theorem SpQ.next {c s : List Int} {rnd : Int} {M L im im2 : List Int} (h : SpQ c s rnd M L im) (hr : rnd + 1 ≤ 1000000000) (hl : im2.length = c.length) (hi : ∀ x, x < c.length → 0 ≤ im2.getD x 0 ∧ im2.getD x 0 < (c.length : Int)) :
    SpQ (spC c im) c (rnd + 1) (spM c im (rnd + 1) M L c.length).1 (spM c im (rnd + 1) M L c.length).2 im2 := by
  have hr0 := h.r0
  have hst : SpI c im (rnd + 1) M L 0 := SpI.start h.ml h.ll (fun x hx => by have := h.mlt x hx; omega) (fun x hx => (h.mlt x hx).1) h.lab
  have hI := SpI.upto h.cin h.iin (by omega) hst c.length (Nat.le_refl _)
  have hle : (firsts (spP c im)).length ≤ c.length := by have := firsts_le (spP c im); rw [spP_len] at this; exact this
  refine ⟨by rw [spC_len]; exact h.n, by rw [spC_len], fun x hx => ?_, by rw [spC_len]; exact hl, fun x hx => ?_, by rw [spC_len]; exact hI.lm, by rw [spC_len]; exact hI.ll, fun x hx => ⟨hI.lo x hx, hI.hi x hx⟩, fun x hx => by rw [spC_len]; exact hI.lab x hx, by omega⟩
  · obtain ⟨j, hj, rfl⟩ := mem_getD 0 hx
    unfold spC at hj ⊢
    rw [canon_length] at hj
    have := canon_lt hj
    rw [canon_length, spP_len]; omega
  · rw [spC_len] at hx ⊢; exact hi x hx
end Go.Proofs.Ytpanlghofeebhaa
end
section
/- Package congr: the coarsest congruence in a partition: contract. -/
namespace Go.Proofs.Ytpanlghofeebhaa
open Go Go.AM
set_option maxRecDepth 100000
theorem csq_fn (t : List (List Int)) (h : Sh t) : QF 106 [.ro (.rows .i64 t)] (.bool (.lit true)) := mkQ Try.func106 (by decide +kernel) rfl (Nat.le_of_ble_eq_true rfl) fun _ => by
  have hmost := h.most
  have hpos := h.pos
  refine And.intro (fun h1 => absurd (show (t.length : Int) = 0 from h1) (by omega)) (fun _ => ?_)
  refine And.intro (fun h1 => absurd (show (400 : Int) < (t.length : Int) from h1) (by omega)) (fun _ => ?_)
  refine Exists.intro [] <| lp (X := Nat) (fun x => [(17, .int .i64 x)]) (fun _ => []) (fun x => x ≤ t.length) (fun x => t.length - x) 0 (Nat.zero_le _) (by repeat' first | refine And.intro ?_ ?_ | exact True.intro | (show (_ : Int) = (_ : Int); omega) | omega | exact rfl | (simp only [RO.len]; omega)) ?_
  intro x hx
  refine And.intro (fun h1 => ?_) (fun h1 => ?_)
  · have h1 : (x : Int) < (t.length : Int) := h1
    have hxl : x < t.length := by omega
    have r1 := h.len hxl
    refine And.intro (by omega) ?_
    refine And.intro (fun h2 => absurd (show ((t.getD x []).length : Int) = (t.length : Int) by rw [r1]) h2) (fun _ => ?_)
    refine Exists.intro [] <| lp (X := Nat) (fun y => [(28, .int .i64 y)]) (fun _ => []) (fun y => y ≤ t.length) (fun y => t.length - y) 0 (Nat.zero_le _) (by repeat' first | refine And.intro ?_ ?_ | exact True.intro | (show (_ : Int) = (_ : Int); omega) | omega | exact rfl | (simp only [RO.len]; omega)) ?_
    intro y hy
    refine And.intro (fun h3 => ?_) (fun h3 => ?_)
    · have h3 : (y : Int) < ((t.getD x []).length : Int) := h3
      have e1 := h.ent hxl (y := y) (by omega)
      refine And.intro (by omega) ?_
      refine And.intro (fun h4 => absurd (show (t.getD x []).getD y 0 < 0 from h4) (by omega)) (fun _ => ?_)
      refine And.intro (fun h4 => absurd (show (t.length : Int) ≤ (t.getD x []).getD y 0 from h4) (by omega)) (fun _ => ?_)
      refine And.intro (by omega) ?_
      exact nx (y + 1) (show y + 1 ≤ _ by omega) (show t.length - (y + 1) < t.length - y by omega) (by repeat' first | refine And.intro ?_ ?_ | exact True.intro | (show (_ : Int) = (_ : Int); omega) | omega | exact rfl | (simp only [RO.len]; omega))
    · have h3 : ((t.getD x []).length : Int) ≤ (y : Int) := h3
      refine And.intro (by omega) ?_
      exact nx (x + 1) (show x + 1 ≤ _ by omega) (show t.length - (x + 1) < t.length - x by omega) (by repeat' first | refine And.intro ?_ ?_ | exact True.intro | (show (_ : Int) = (_ : Int); omega) | omega | exact rfl | (simp only [RO.len]; omega))
  · exact And.intro rfl trivial
/-! ### Plain: the splitting comes to an end -/
section
variable {t : List (List Int)} {p c c0 s im : List Int} {rnd rnd0 : Int} {M L : List Int} {gens : List Int} {i : Nat}
theorem cg_of_gens (hs : Semi t) (hg : Spans t gens) (h : ∀ g ∈ gens, ∀ x y, x < t.length → y < t.length → c.getD x 0 = c.getD y 0 → c.getD (en t g.toNat x) 0 = c.getD (en t g.toNat y) 0 ∧ c.getD (en t x g.toNat) 0 = c.getD (en t y g.toNat) 0) : Cg t c 0 := by
  have hS := hs.toSh
  have key : ∀ {s : Nat}, Mk t gens s → s < t.length ∧ ∀ x y, x < t.length → y < t.length → c.getD x 0 = c.getD y 0 → c.getD (en t s x) 0 = c.getD (en t s y) 0 ∧ c.getD (en t x s) 0 = c.getD (en t y s) 0 := fun {s} m => by
    induction m with
    | gen hm => exact ⟨by have := hg.el _ hm; omega, h _ hm⟩
    | mul ha hb i1 i2 =>
      refine ⟨(hS.ent i1.1 i2.1).2, fun x y hx hy e => ⟨?_, ?_⟩⟩
      · rw [assoc3 hs.assoc i1.1 i2.1 hx, assoc3 hs.assoc i1.1 i2.1 hy]
        exact (i1.2 _ _ (hS.ent i2.1 hx).2 (hS.ent i2.1 hy).2 (i2.2 x y hx hy e).1).1
      · rw [← assoc3 hs.assoc hx i1.1 i2.1, ← assoc3 hs.assoc hy i1.1 i2.1]
        exact (i2.2 _ _ (hS.ent hx i1.1).2 (hS.ent hy i1.1).2 (i1.2 x y hx hy e).2).2
  exact fun x y s hx hy hsl e => ⟨fun _ => ((key (hg.all s hsl)).2 x y hx hy e).1, fun _ => ((key (hg.all s hsl)).2 x y hx hy e).2⟩
structure CoB (t : List (List Int)) (p c : List Int) : Prop where
  cl : c.length = t.length
  cn : canon c = c
  ref : ∀ x y, x < t.length → y < t.length → c.getD x 0 = c.getD y 0 → p.getD x 0 = p.getD y 0
  syn : ∀ x y, x < t.length → y < t.length → Syn t p x y → c.getD x 0 = c.getD y 0
structure CoG (t : List (List Int)) (p c0 c : List Int) (gens : List Int) (i : Nat) : Prop extends CoB t p c where
  fin : ∀ x y, x < t.length → y < t.length → c.getD x 0 = c.getD y 0 → c0.getD x 0 = c0.getD y 0
  st : ∀ g ∈ gens.take i, ∀ x y, x < t.length → y < t.length → c.getD x 0 = c.getD y 0 → c0.getD (en t g.toNat x) 0 = c0.getD (en t g.toNat y) 0 ∧ c0.getD (en t x g.toNat) 0 = c0.getD (en t y g.toNat) 0
theorem CoG.start (h : CoB t p c) : CoG t p c c gens 0 := ⟨h, fun _ _ _ _ e => e, fun g hg => by simp at hg⟩
theorem CoG.next (hs : Semi t) (hg : ∀ g ∈ gens, 0 ≤ g ∧ g < (t.length : Int)) (h : CoG t p c0 c gens i) (hi : i < gens.length) {a b : List Int} (ha : ∀ x, x < t.length → (a.getD x 0).toNat = en t (gens.getD i 0).toNat x) (hb : ∀ x, x < t.length → (b.getD x 0).toNat = en t x (gens.getD i 0).toNat) :
    CoG t p c0 (spC (spC c a) b) gens (i + 1) := by
  have hS := hs.toSh
  have hgr := hg _ (getD_mem (d := 0) hi)
  have hgl : (gens.getD i 0).toNat < t.length := by omega
  have hcl := h.cl
  have l1 : (spC c a).length = t.length := by rw [spC_len]; exact hcl
  have l2 : (spC (spC c a) b).length = t.length := by rw [spC_len]; exact l1
  have k1 : ∀ x y, x < t.length → y < t.length → ((spC c a).getD x 0 = (spC c a).getD y 0 ↔ c.getD x 0 = c.getD y 0 ∧ c.getD (en t (gens.getD i 0).toNat x) 0 = c.getD (en t (gens.getD i 0).toNat y) 0) := fun x y hx hy => by
    rw [spC_iff (by omega) (by omega), ha x hx, ha y hy]
  have k2 : ∀ x y, x < t.length → y < t.length → ((spC (spC c a) b).getD x 0 = (spC (spC c a) b).getD y 0 ↔ (spC c a).getD x 0 = (spC c a).getD y 0 ∧ (spC c a).getD (en t x (gens.getD i 0).toNat) 0 = (spC c a).getD (en t y (gens.getD i 0).toNat) 0) := fun x y hx hy => by
    rw [spC_iff (by omega) (by omega), hb x hx, hb y hy]
  have down : ∀ x y, x < t.length → y < t.length → (spC (spC c a) b).getD x 0 = (spC (spC c a) b).getD y 0 → c.getD x 0 = c.getD y 0 ∧ c.getD (en t (gens.getD i 0).toNat x) 0 = c.getD (en t (gens.getD i 0).toNat y) 0 ∧ c.getD (en t x (gens.getD i 0).toNat) 0 = c.getD (en t y (gens.getD i 0).toNat) 0 := fun x y hx hy e => by
    have e1 := (k2 x y hx hy).1 e
    have e2 := (k1 x y hx hy).1 e1.1
    have e3 := (k1 _ _ (hS.ent hx hgl).2 (hS.ent hy hgl).2).1 e1.2
    exact ⟨e2.1, e2.2, e3.1⟩
  refine ⟨⟨l2, spC_canon _ _, fun x y hx hy e => h.ref x y hx hy (down x y hx hy e).1, fun x y hx hy e => ?_⟩, fun x y hx hy e => h.fin x y hx hy (down x y hx hy e).1, fun g hgm x y hx hy e => ?_⟩
  · have up : ∀ x y, x < t.length → y < t.length → Syn t p x y → (spC c a).getD x 0 = (spC c a).getD y 0 := fun x y hx hy e =>
      (k1 x y hx hy).2 ⟨h.syn x y hx hy e, h.syn _ _ (hS.ent hgl hx).2 (hS.ent hgl hy).2 (syn_cg hs hx hy hgl e).1⟩
    exact (k2 x y hx hy).2 ⟨up x y hx hy e, up _ _ (hS.ent hx hgl).2 (hS.ent hy hgl).2 (syn_cg hs hx hy hgl e).2⟩
  · have hd := down x y hx hy e
    rw [take_get (d := 0) hi] at hgm
    rcases List.mem_append.1 hgm with hgm | hgm
    · exact h.st g hgm x y hx hy hd.1
    · rw [List.mem_singleton] at hgm
      subst hgm
      exact ⟨h.fin _ _ (hS.ent hgl hx).2 (hS.ent hgl hy).2 hd.2.1, h.fin _ _ (hS.ent hx hgl).2 (hS.ent hy hgl).2 hd.2.2⟩
theorem CoG.done (hs : Semi t) (hg : Spans t gens) (h : CoG t p c0 c gens i) (h0 : CoB t p c0) (hi : gens.length ≤ i) : classN c0 ≤ classN c ∧ (classN c0 = classN c → c = synP t p) := by
  have hc := same_count h0.cn h.cn (by rw [h0.cl, h.cl]) (fun x y hx hy e => h.fin x y (by rw [h0.cl] at hx; exact hx) (by rw [h0.cl] at hy; exact hy) e)
  refine ⟨hc.1, fun e => ?_⟩
  have e := hc.2 e
  have hst := h.st
  rw [List.take_of_length_le hi] at hst
  rw [← e] at hst
  rw [← h.cn]
  exact synP_of hs h.cl h.ref h.syn (cg_of_gens hs hg hst)
end
def b0 (b : Bool) : Nat := match b with | true => 0 | false => 1
set_option maxHeartbeats 2000000 in
theorem ccoa_fn (t : List (List Int)) (p : List Int) (hs : Semi t) (hl : p.length = t.length) (hv : validP p) : QF 85 [.ro (.rows .i64 t), .ro (.ints .i64 p)] (.new (.ints .i64 (synP t p))) := mkQ Try.func85 (by decide +kernel) rfl (Nat.le_of_ble_eq_true rfl) fun _ => by
  have hS := hs.toSh
  have hmost := hs.most
  refine Or.inl (cq (csq_fn t hS) (And.intro rfl trivial) ?_)
  refine And.intro (fun h1 => absurd (show (p.length : Int) = (t.length : Int) by omega) h1) (fun _ => ?_)
  refine Or.inl (cq (pvalid_fn p) (And.intro rfl trivial) ?_)
  refine And.intro (fun h2 => ?_) (fun _ => ?_)
  · have h2 : (!decide (validP p)) = true := h2
    rw [decide_eq_true hv] at h2; cases h2
  have hnn : (t.length : Int) * (t.length : Int) = ((t.length * t.length : Nat) : Int) := by rw [Int.natCast_mul]
  have hn2 : t.length * t.length ≤ 160000 := Nat.mul_le_mul (show t.length ≤ 400 from hmost) hmost
  refine Or.inl ?_
  refine Exists.intro [false, false, false, false, false, false, false, false, false, false, false, false, false, false, true] (And.intro (by decide +kernel) ?_)
  refine cq (cloneI_fn p (by omega)) (And.intro rfl trivial) ?_
  refine And.intro (by omega) ?_
  refine And.intro (by omega) ?_
  refine And.intro (by omega) ?_
  refine And.intro (by omega) ?_
  refine And.intro (by omega) ?_
  refine And.intro (by omega) ?_
  refine And.intro (by omega) ?_
  refine And.intro (by omega) ?_
  refine Or.inl (cq (pcount_fn p) (And.intro rfl trivial) ?_)
  refine Or.inr (Or.inr (ce (cgens_fn t hS) (And.intro rfl trivial) ?_))
  intro gens hg
  refine And.intro (by omega) ?_
  refine And.intro (by omega) ?_
  have ecn : (if validP p then ((classN p : Nat) : Int) else 0) = (classN p : Nat) := if_pos hv
  have hpos := hS.pos
  have hcp : 0 < classN p := cls_some hS hl
  have zr : ∀ n, ∀ x ∈ List.replicate n (0 : Int), x = 0 := fun n x hx => List.eq_of_mem_replicate hx
  have zg : ∀ (n x : Nat), (List.replicate n (0 : Int)).getD x 0 = 0 := fun n x => by simp only [List.getD, List.getElem?_replicate]; split <;> rfl
  have hB0 : CoB t p p := ⟨hl, hv.2, fun _ _ _ _ e => e, fun _ _ _ _ e => e.own⟩
  have hQ0 : SpQ p (List.replicate (t.length : Int).toNat 0) 0 (List.replicate ((t.length : Int) * (t.length : Int)).toNat 0) (List.replicate ((t.length : Int) * (t.length : Int)).toNat 0) (List.replicate (t.length : Int).toNat 0) :=
    ⟨by omega, by simp; omega, fun x hx => by
      obtain ⟨j, hj, rfl⟩ := mem_getD 0 hx
      have := cls_lt hv.2 hj
      have hle : classN p ≤ p.length := firsts_le p
      omega, by simp; omega, fun x hx => by rw [zg]; omega, by rw [List.length_replicate, hnn, Int.toNat_natCast, hl], by rw [List.length_replicate, hnn, Int.toNat_natCast, hl], fun x hx => by rw [zr _ x hx]; omega, fun x hx => by rw [zr _ x hx]; omega, by omega⟩
  refine Exists.intro [] <| lp7 (fun (b : Int) (_ _ : List Int) (_ : Int) (_ _ _ : List Int) => [(9, .int .i64 b)]) (fun _ c s rnd M L im => [(6, .box [.vec 31, .vec 33, .int .i64 (classN c : Nat), .int .i64 rnd, .vec 37, .vec 41]), (31, .vec 0 (.ints .i64 c) []), (33, .vec 0 (.ints .i64 s) []), (37, .vec 0 (.ints .i64 M) []), (41, .vec 0 (.ints .i64 L) []), (49, .vec 0 (.ints .i64 im) [])]) (fun b c s rnd M L im => SpQ c s rnd M L im ∧ CoB t p c ∧ (b ≠ (classN c : Int) → rnd ≤ 800 * (classN c : Int)) ∧ (b = (classN c : Int) → c = synP t p)) (fun b c _ _ _ _ _ => 2 * (t.length - classN c) + b0 (decide (b = (classN c : Int)))) 0 p _ 0 _ _ _ ⟨hQ0, hB0, fun _ => by omega, fun h => by omega⟩ (by repeat' first | refine And.intro ?_ ?_ | exact True.intro | exact ecn | (show (_ : Int) = (_ : Int); omega) | omega | exact rfl) ?_
  rintro b c s rnd M L im ⟨hQ, hB, hrb, hbs⟩
  have hcl := hB.cl
  have hcle : classN c ≤ t.length := by rw [← hcl]; exact firsts_le c
  refine And.intro (fun h1 => ?_) (fun h1 => ?_)
  · have h1 : b ≠ (classN c : Int) := h1
    have hr1 := hrb h1
    refine Exists.intro [] <| lp7 (fun (i : Nat) (_ _ : List Int) (_ : Int) (_ _ _ : List Int) => [(58, .int .i64 i)]) (fun _ d s2 rd M2 L2 im2 => [(6, .box [.vec 31, .vec 33, .int .i64 (classN d : Nat), .int .i64 rd, .vec 37, .vec 41]), (31, .vec 0 (.ints .i64 d) []), (33, .vec 0 (.ints .i64 s2) []), (37, .vec 0 (.ints .i64 M2) []), (41, .vec 0 (.ints .i64 L2) []), (49, .vec 0 (.ints .i64 im2) [])]) (fun i d s2 rd M2 L2 im2 => i ≤ gens.length ∧ SpQ d s2 rd M2 L2 im2 ∧ CoG t p c d gens i ∧ rd ≤ rnd + 2 * (i : Int)) (fun i _ _ _ _ _ _ => gens.length - i) 0 c s rnd M L im ⟨Nat.zero_le _, hQ, CoG.start hB, by omega⟩ (by repeat' first | refine And.intro ?_ ?_ | exact True.intro | (show (_ : Int) = (_ : Int); omega) | omega | exact rfl | (simp only [RO.len]; omega)) ?_
    rintro i d s2 rd M2 L2 im2 ⟨hi, hQ2, hG, hrd⟩
    have hdl := hG.cl
    have hdn : classN d ≤ t.length := by rw [← hdl]; exact firsts_le d
    refine And.intro (fun h2 => ?_) (fun h2 => ?_)
    · have h2 : (i : Int) < (gens.length : Int) := h2
      have hil : i < gens.length := by omega
      have hgr := hg.1.el _ (getD_mem (d := 0) hil)
      have hgl : (gens.getD i 0).toNat < t.length := by omega
      have r1 := hS.len hgl
      have ha : ∀ x, x < t.length → ((t.getD (gens.getD i 0).toNat []).getD x 0).toNat = en t (gens.getD i 0).toNat x := fun x hx => rfl
      have hai : ∀ x, x < d.length → 0 ≤ (t.getD (gens.getD i 0).toNat []).getD x 0 ∧ (t.getD (gens.getD i 0).toNat []).getD x 0 < (d.length : Int) := fun x hx => by have := hS.ent hgl (y := x) (by omega); omega
      have hQa : SpQ d s2 rd M2 L2 (t.getD (gens.getD i 0).toNat []) := { hQ2 with il := by omega, iin := hai }
      refine And.intro (by omega) ?_
      refine And.intro (show 0 ≤ gens.getD i 0 ∧ gens.getD i 0 < (t.length : Int) by omega) ?_
      refine And.intro (show im2.length = (t.getD (gens.getD i 0).toNat []).length by rw [r1, ← hdl]; exact hQ2.il) ?_
      refine Or.inr (Or.inl (cm [] [(1000, 6), (1001, 31), (1002, 33), (1003, 37), (1004, 41), (1005, 49)] (csplit_fn d s2 (classN d : Nat) rd M2 L2 (t.getD (gens.getD i 0).toNat []) hQa) ?_))
      refine And.intro (by repeat' first | refine And.intro ?_ ?_ | exact True.intro | (show (_ : Int) = (_ : Int); omega) | omega | exact rfl | (simp only [RO.len]; omega)) ?_
      refine Exists.intro [] <| lp2 (fun (x : Nat) (_ : List Int) => [(72, .int .i64 x)]) (fun _ I => [(49, .vec 0 (.ints .i64 I) [])]) (fun x I => x ≤ t.length ∧ I.length = t.length ∧ ∀ x', x' < x → I.getD x' 0 = (t.getD x' []).getD (gens.getD i 0).toNat 0) (fun x _ => t.length - x) 0 (t.getD (gens.getD i 0).toNat []) ⟨Nat.zero_le _, r1, fun x h => absurd h (Nat.not_lt_zero _)⟩ (by repeat' first | refine And.intro ?_ ?_ | exact True.intro | (show (_ : Int) = (_ : Int); omega) | omega | exact rfl | (simp only [RO.len]; omega)) ?_
      rintro x I ⟨hx, hIl, hI⟩
      refine And.intro (fun h3 => ?_) (fun h3 => ?_)
      · have h3 : (x : Int) < (t.length : Int) := h3
        have hxl : x < t.length := by omega
        have r2 := hS.len hxl
        refine And.intro (by omega) ?_
        refine And.intro (show 0 ≤ gens.getD i 0 ∧ gens.getD i 0 < ((t.getD x []).length : Int) by omega) ?_
        refine And.intro (show 0 ≤ (x : Int) ∧ (x : Int) < (I.length : Int) by omega) ?_
        refine And.intro (by omega) ?_
        refine And.intro (by omega) ?_
        refine nx (x + 1, I.set x ((t.getD x []).getD (gens.getD i 0).toNat 0)) ⟨by omega, by rw [List.length_set]; exact hIl, fun x' hx' => ?_⟩ (show t.length - (x + 1) < t.length - x by omega) (by repeat' first | refine And.intro ?_ ?_ | exact True.intro | (show (_ : Int) = (_ : Int); omega) | omega | exact rfl | (simp only [RO.len]; omega))
        by_cases e : x' = x
        · subst e; rw [getD_set_eq (by omega)]
        · rw [getD_set_ne (Ne.symm e)]; exact hI x' (by omega)
      · have h3 : (t.length : Int) ≤ (x : Int) := h3
        have hb : ∀ y, y < t.length → (I.getD y 0).toNat = en t y (gens.getD i 0).toNat := fun y hy => by rw [hI y (by omega)]; rfl
        have hbi : ∀ y, y < d.length → 0 ≤ I.getD y 0 ∧ I.getD y 0 < (d.length : Int) := fun y hy => by
          rw [hI y (by omega)]
          have := hS.ent (x := y) (y := (gens.getD i 0).toNat) (by omega) hgl
          omega
        have hQb := hQa.next (im2 := I) (by omega) (by omega) hbi
        have hQc := hQb.next (im2 := I) (by omega) (by rw [spC_len]; omega) (fun y hy => by rw [spC_len] at hy ⊢; exact hbi y hy)
        refine Or.inr (Or.inl (cm [] [(1000, 6), (1001, 33), (1002, 31), (1003, 37), (1004, 41), (1005, 49)] (csplit_fn (spC d (t.getD (gens.getD i 0).toNat [])) d (classN (spC d (t.getD (gens.getD i 0).toNat [])) : Nat) (rd + 1) (spM d (t.getD (gens.getD i 0).toNat []) (rd + 1) M2 L2 d.length).1 (spM d (t.getD (gens.getD i 0).toNat []) (rd + 1) M2 L2 d.length).2 I hQb) ?_))
        refine And.intro (by repeat' first | refine And.intro ?_ ?_ | exact True.intro | (show (_ : Int) = (_ : Int); omega) | omega | exact rfl | (simp only [RO.len]; omega)) ?_
        refine And.intro (by omega) ?_
        exact nx (i + 1, spC (spC d (t.getD (gens.getD i 0).toNat [])) I, spC d (t.getD (gens.getD i 0).toNat []), rd + 1 + 1, _, _, I) ⟨by omega, hQc, hG.next hs hg.1.el hil ha hb, by omega⟩ (show gens.length - (i + 1) < gens.length - i by omega) (by repeat' first | refine And.intro ?_ ?_ | exact True.intro | (show (_ : Int) = (_ : Int); omega) | omega | exact rfl | (simp only [RO.len]; omega))
    · have h2 : (gens.length : Int) ≤ (i : Int) := h2
      have hdn2 := hG.done hs hg.1 hB (by omega)
      refine nx ((classN c : Int), d, s2, rd, M2, L2, im2) ⟨hQ2, hG.toCoB, fun h4 => by omega, fun h4 => hdn2.2 (by omega)⟩ ?_ (by repeat' first | refine And.intro ?_ ?_ | exact True.intro | (show (_ : Int) = (_ : Int); omega) | omega | exact rfl | (simp only [RO.len]; omega))
      show 2 * (t.length - classN d) + b0 (decide ((classN c : Int) = (classN d : Int))) < 2 * (t.length - classN c) + b0 (decide (b = (classN c : Int)))
      rw [decide_eq_false h1]
      show _ < 2 * (t.length - classN c) + 1
      by_cases e : classN c = classN d
      · rw [decide_eq_true (by omega)]
        show 2 * (t.length - classN d) + 0 < _
        omega
      · rw [decide_eq_false (by omega)]
        show 2 * (t.length - classN d) + 1 < _
        omega
  · have h1 : b = (classN c : Int) := h1
    refine And.intro (And.intro (by omega) ?_) trivial
    show RO.ints .i64 c = _
    rw [hbs h1]
end Go.Proofs.Ytpanlghofeebhaa
end
section
/- slices.SortFunc over rows of integers: from the shelf's contract to the abstract machine's. -/
namespace Go.Proofs.Ytpanlghofeebhaa
open Go Go.AM Go.Sort Go.Lib
def RowV (w : World) (M : Msk) : Type := { v : Value // ∃ m : List Int, SlI w M .i64 m v }
instance (w : World) (M : Msk) : Inhabited (RowV w M) := ⟨⟨.slice none 0 0, [], Nat.zero_le _, none, 0, rfl, Nat.le_refl _, .inl rfl⟩⟩
noncomputable def RowV.row {w : World} {M : Msk} (x : RowV w M) : List Int := Classical.choose x.2
theorem RowV.reads {w : World} {M : Msk} (x : RowV w M) : SlI w M .i64 x.row x.1 := Classical.choose_spec x.2
theorem sli_inj {w : World} {M : Msk} {k : IntKind} {l m : List Int} {v : Value} (h : SlI w M k l v) (h' : SlI w M k m v) : l = m := by
  obtain ⟨_, a, cap, rfl, _, h1⟩ := h
  obtain ⟨_, a', cap', hv, _, h2⟩ := h'
  have hl : l.length = m.length := by injection hv
  have ha : a = a' := by injection hv
  subst ha
  refine List.ext_getElem hl fun i hi hi' => ?_
  rcases h1 with h1 | ⟨b, off, rfl, h1⟩
  · omega
  · rcases h2 with h2 | ⟨b', off', he, h2⟩
    · omega
    · cases he
      obtain ⟨c, g1, _, g2, _⟩ := h1 i hi
      obtain ⟨c', g3, _, g4, _⟩ := h2 i hi'
      rw [g1] at g3; cases g3
      rw [g2] at g4
      rw [getD_eq hi, getD_eq hi'] at g4
      injection g4
theorem stp_grow {w w' : World} (h : Stp (fun _ _ => False) w w') : ∃ q os, w' = grow (w.drewN q) os := by
  obtain ⟨hsz, hb, ⟨⟨ho1, ho2⟩, ht, hd⟩⟩ := h
  have heap : ∀ b, b < w.heap.size → w'.heap[b]? = w.heap[b]? := fun b hlt => by
    rcases hb b hlt with h | ⟨cs, cs', ty, h1, h2, h3, h4⟩ | ⟨_, _, _, _, _, _, h⟩
    · exact h
    · rw [h1, h2]
      have : cs' = cs := Array.ext_getElem? fun i => h4 i (by simp)
      rw [this]
    · exact h.elim
  refine ⟨w'.drawn - w.drawn, w'.heap.extract w.heap.size w'.heap.size, ?_⟩
  have e1 : w'.heap = w.heap ++ w'.heap.extract w.heap.size w'.heap.size := by
    apply Array.ext_getElem?
    intro i
    rw [Array.getElem?_append]
    split
    · rename_i hi; exact heap i hi
    · rename_i hi
      rw [Array.getElem?_extract]
      split
      · rename_i hi'
        rw [show w.heap.size + (i - w.heap.size) = i by omega]
      · rename_i hi'
        exact Array.getElem?_eq_none (by omega)
  have e2 : w'.drawn = w.drawn + (w'.drawn - w.drawn) := by omega
  cases w with
  | mk heap tape drawn os output =>
  cases w' with
  | mk heap' tape' drawn' os' output' =>
  simp only [grow, World.drewN] at *
  subst ho1; subst ho2; subst ht
  congr 1
section
variable {w : World} {M : Msk} {b : Nat} {cs : Array Value} {ty : TypeId} (hb : w.heap[b]? = some (.cells cs ty (0, 0)))
include hb
theorem lt_of_block : b < w.heap.size := by
  rcases Nat.lt_or_ge b w.heap.size with h | h
  · exact h
  · rw [Array.getElem?_eq_none h] at hb; cases hb
theorem sortW_block {α : Type} [Inhabited α] (enc : α → Value) (m : Nat) (dk : Array α) (os : Array Obj) : (sortWorld enc w b 0 m dk os).heap[b]? = some (.cells (putCells enc 0 dk cs) ty (0, 0)) := by
  have hlt := lt_of_block hb
  show ((putRow enc (Sort.ahead w m) b 0 dk).heap ++ os)[b]? = _
  rw [Array.getElem?_append_left (by rw [size_putRow]; exact hlt)]
  show ((w.heap.modify b (onCells (putCells enc 0 dk))))[b]? = _
  rw [Array.getElem?_modify, if_pos rfl, hb]; rfl
omit hb in
theorem sortW_other {α : Type} [Inhabited α] (enc : α → Value) (m : Nat) (dk : Array α) (os : Array Obj) {b' : Nat} (hne : b' ≠ b) (hlt : b' < w.heap.size) : (sortWorld enc w b 0 m dk os).heap[b']? = w.heap[b']? := by
  show ((putRow enc (Sort.ahead w m) b 0 dk).heap ++ os)[b']? = _
  rw [Array.getElem?_append_left (by rw [size_putRow]; exact hlt)]
  show ((w.heap.modify b (onCells (putCells enc 0 dk))))[b']? = _
  rw [Array.getElem?_modify, if_neg (Ne.symm hne)]
omit hb in
theorem sortW_size {α : Type} [Inhabited α] (enc : α → Value) (m : Nat) (dk : Array α) (os : Array Obj) : (sortWorld enc w b 0 m dk os).heap.size = w.heap.size + os.size := by
  show ((putRow enc (Sort.ahead w m) b 0 dk).heap ++ os).size = _
  rw [Array.size_append, size_putRow]; rfl
omit hb in
theorem putCells_size {α : Type} [Inhabited α] (enc : α → Value) (d : Array α) : (putCells enc 0 d cs).size = cs.size := by simp [putCells]
omit hb in
theorem putCells_at {α : Type} [Inhabited α] (enc : α → Value) (d : Array α) {q : Nat} (hq : q < d.size) (hc : q < cs.size) : (putCells enc 0 d cs)[q]? = some (enc d[q]!) := by
  simp [putCells, hq, hc]
theorem sortW_stp {α : Type} [Inhabited α] (enc : α → Value) (m : Nat) (dk : Array α) (os : Array Obj) (hM : ∀ off, M b off ↔ off < cs.size) : Stp (fun b' off => b' = b ∧ M b' off) w (sortWorld enc w b 0 m dk os) := by
  refine ⟨by rw [sortW_size]; omega, fun b' hb' => ?_, ⟨⟨rfl, rfl⟩, rfl, ?_⟩⟩
  · by_cases e : b' = b
    · subst e
      refine .inr (.inl ⟨cs, _, ty, hb, sortW_block hb enc m dk os, putCells_size enc dk, fun off hn => ?_⟩)
      have : ¬ off < cs.size := fun h => hn ⟨rfl, (hM off).2 h⟩
      rw [Array.getElem?_eq_none (by rw [putCells_size]; omega), Array.getElem?_eq_none (by omega)]
    · exact .inl (sortW_other enc m dk os e hb')
  · show w.drawn ≤ w.drawn + m
    omega
end
theorem sortRows_m {g : FuncId} {c : List Int → List Int → Int} (hc : TotC c) (hg : ∀ a b, QF g [.ro (.ints .i64 a), .ro (.ints .i64 b)] (.int .i64 (c a b))) (l : List (List Int)) (hl : 0 < l.length) :
    MF 56 [.vec 1000, .fn g []] [(1000, .vec 0 (.rows .i64 l) [])] (.tup []) [(1000, .vec 0 (.rows .i64 (srt c l)) [])] := by
  refine ⟨⟨_, Try.func56, by decide +kernel, rfl⟩, fun ρ M w vs st hv => ?_⟩
  obtain ⟨⟨o, ho, hlen, hsz, hlb, _, hblk⟩, _⟩ := st.blk 1000 _ rfl
  have hlen : o.len = l.length := hlen
  have hsz : o.sz = 1 := hsz
  cases hob : o.blk with
  | none =>
    simp only [hob] at hblk
    have : l.length = 0 := hblk.1
    omega
  | some b =>
  simp only [hob] at hblk
  obtain ⟨hcap, cs, ty, hb, hcs, hM, hcell⟩ := hblk
  have hM : ∀ off, M b off ↔ off < cs.size := fun off => by rw [hM off]; omega
  have hcell : ∀ q, q < l.length → ∃ v, cs[q]? = some v ∧ SlI w M .i64 (l.getD q []) v := fun q hq => hcell q (by simpa [RO.cells, RO.len, RO.sz] using hq)
  have hcsl : l.length ≤ cs.size := by rw [hcs, hsz]; omega
  match vs, hv with
  | [v0, v1], ⟨h0, h1, _⟩ =>
  obtain ⟨o', ho', rfl⟩ := h0
  rw [ho] at ho'; cases ho'
  obtain ⟨ca, rfl, hca⟩ := h1
  have hca : ca = #[] := by
    obtain ⟨k⟩ := ca
    cases k with
    | nil => rfl
    | cons => exact hca.elim
  subst hca
  let enc : RowV w M → Value := fun x => x.1
  let cf : RowV w M → RowV w M → Int := fun x y => c x.row y.row
  have hex : ∀ q, ∃ x : RowV w M, q < l.length → cs[q]? = some x.1 ∧ x.row = l.getD q [] := fun q => by
    by_cases hq : q < l.length
    · obtain ⟨v, g1, g2⟩ := hcell q hq
      exact ⟨⟨v, _, g2⟩, fun _ => ⟨g1, sli_inj (RowV.reads _) g2⟩⟩
    · exact ⟨default, fun h => absurd h hq⟩
  let d : Array (RowV w M) := ((List.range l.length).map fun q => Classical.choose (hex q)).toArray
  have hds : d.size = l.length := by simp [d]
  have hd : ∀ q, q < l.length → cs[q]? = some (enc d[q]!) ∧ (d[q]!).row = l.getD q [] := fun q hq => by
    have : d[q]! = Classical.choose (hex q) := by simp [d, hq]
    rw [this]
    exact Classical.choose_spec (hex q) hq
  have hO : SWO (ltOf cf) := by
    refine ⟨fun x => ?_, fun x y z h1 h2 => ?_, fun x y z h1 h2 => ?_⟩
    · exact decide_eq_false (by have := hc.self x.row; show ¬ c x.row x.row < 0; omega)
    · simp only [ltOf, cf] at *
      exact decide_eq_true (hc.trans _ _ _ (of_decide_eq_true h1) (of_decide_eq_true h2))
    · simp only [ltOf, cf] at *
      have h1 := of_decide_eq_false h1
      have h2 := of_decide_eq_false h2
      refine decide_eq_false ?_
      have s1 := hc.swap x.row y.row
      have s2 := hc.swap y.row z.row
      have s3 := hc.swap x.row z.row
      have := le_trans' hc (a := z.row) (b := y.row) (d := x.row) (by omega) (by omega)
      omega
  have hlt := lt_of_block hb
  have hone : OneCell enc := fun x => by
    obtain ⟨_, a, cap, he, _⟩ := x.reads
    show x.1.oneCell' = true
    rw [he]; rfl
  have hH : Holds enc w b 0 d := fun j hj => by
    rw [hds] at hj
    refine ⟨by rw [Nat.zero_add, cell_of_heap hb]; exact (hd j hj).1, ?_⟩
    simp [World.frozen?, hb]
  have keep : ∀ m dk os, Keep w M (sortWorld enc w b 0 m dk os) M := fun m dk os b' off v h1 h2 => ⟨(sortW_stp hb enc m dk os hM).cell h1 fun h => h2 h.2, h2⟩
  have hcmp : CmpLays1 Try.prog g #[] enc cf b 0 d.size w := fun m os dk _ x y => by
    have hk := keep m dk os
    have hreads : RepL (RepT noEnv (sortWorld enc w b 0 m dk os) M) [.ro (.ints .i64 x.row), .ro (.ints .i64 y.row)] [enc x, enc y] :=
      ⟨rep_ints.2 (x.reads.keep hk), rep_ints.2 (y.reads.keep hk), trivial⟩
    have := (hg x.row y.row).2 M (sortWorld enc w b 0 m dk os) [enc x, enc y] (fun b' off hm => by rw [sortW_size]; have := st.mlt b' off hm; omega) hreads
    refine Calls.mono this fun e w' ⟨v, he, hs, _, _, _, hv⟩ => ?_
    obtain ⟨rfl, _⟩ : v = .int .i64 (c x.row y.row) ∧ _ := hv
    exact ⟨he, stp_grow hs⟩
  have eg : ∀ args w, (callFunc g args).run Try.prog w = .ok (.enter g args) w := by
    obtain ⟨fn, h1, h2, h3⟩ := (hg [] []).1
    obtain ⟨cd, hcd⟩ := Option.isSome_iff_exists.1 h3
    exact enters_of h1 (by simpa using h2) hcd
  have hcall := Any.slices_SortFunc sortL enc hone cf hO g #[] b 0 o.cap d w eg hcmp hH hlt (by rw [hds]; have : l.length ≤ 140737488355328 := hlb; omega)
  have hv0 : o.val = .slice (some ⟨b, 0, none⟩) d.size o.cap := by rw [Sl.val, hob, hds, hlen]; rfl
  rw [hv0]
  refine Calls.mono hcall fun e w' ⟨he, d', n, os, hp, hsrt, hw⟩ => ?_
  subst hw
  refine ⟨_, ρ, M, he, ?_, ⟨#[], rfl, trivial⟩⟩
  have hds' : d'.size = l.length := by rw [hp.1, hds]
  have hperm : d'.toList.Perm d.toList := by
    have := hp.2.2
    rw [← hp.1, Array.extract_size] at this
    rw [hp.1, Array.extract_size] at this
    exact this
  have hrow : d.toList.map RowV.row = l := by
    refine List.ext_getElem (by simp [hds]) fun i h1 h2 => ?_
    have := (hd i h2).2
    rw [getD_eq h2, getElem!_pos d i (by omega)] at this
    simpa using this
  have hl' : (d'.toList.map RowV.row).Perm l := by rw [← hrow]; exact hperm.map _
  have hsorted : (d'.toList.map RowV.row).Pairwise fun a b => c a b ≤ 0 := by
    rw [List.pairwise_map, List.pairwise_iff_getElem]
    intro i j hi hj hij
    have hi' : i < d'.size := by simpa using hi
    have hj' : j < d'.size := by simpa using hj
    have := hsrt i j (Nat.zero_le _) hij (by rw [hds]; omega)
    rw [getElem!_pos d' i hi', getElem!_pos d' j hj'] at this
    have := of_decide_eq_false this
    have sw := hc.swap (d'[i].row) (d'[j].row)
    have this : ¬ c (d'[j].row) (d'[i].row) < 0 := this
    show c (d'[i].row) (d'[j].row) ≤ 0
    omega
  have heq : srt c l = d'.toList.map RowV.row := srt_uniq hc hsorted hl'
  have hget : ∀ q, q < l.length → (srt c l).getD q [] = (d'[q]!).row := fun q hq => by
    rw [heq, getD_eq (by simp; omega), getElem!_pos d' q (by omega)]
    simp
  have hk := keep n d' os
  have hstp := sortW_stp hb enc n d' os hM
  refine ⟨fun k => by rw [st.dom k, find_cons, find_cons]; split <;> rfl, fun k B hB => ?_, st.inj, fun b' off hm => by rw [sortW_size]; have := st.mlt b' off hm; omega, ?_, st.sub, st.old, st.fresh, st.pin⟩
  · have hk1 : k = 1000 ∧ B = .vec 0 (.rows .i64 (srt c l)) [] := by
      rw [find_cons] at hB
      split at hB
      · rename_i e; cases hB; exact ⟨e.symm, rfl⟩
      · cases hB
    obtain ⟨rfl, rfl⟩ := hk1
    refine ⟨⟨o, ho, by rw [hlen]; exact (srt_len l).symm, hsz, by show (srt c l).length ≤ LB; rw [srt_len]; exact hlb, Nat.zero_le _, ?_⟩, .inl rfl⟩
    simp only [hob]
    refine ⟨hcap, putCells enc 0 d' cs, ty, sortW_block hb enc n d' os, by rw [putCells_size]; exact hcs, fun off => by rw [putCells_size, hM off]; omega, fun q hq => ?_⟩
    have hq : q < l.length := by simpa [RO.cells, RO.len, RO.sz, srt_len] using hq
    refine ⟨enc d'[q]!, putCells_at enc d' (by omega) (by omega), ?_⟩
    show SlI _ M .i64 ((srt c l).getD q []) (enc d'[q]!)
    rw [hget q hq]
    exact (d'[q]!).reads.keep hk
  · refine hstp.weaken fun b' off he => ?_
    obtain ⟨rfl, hm⟩ := he
    exact ⟨⟨1000, by simp [hasB, ho, Own.has, hob]⟩, hm⟩
end Go.Proofs.Ytpanlghofeebhaa
end
