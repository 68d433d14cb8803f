import Derived.Test.YtpanlghofeebhaaIdealLaw
import Derived.Test.YtpanlghofeebhaaClone
import Derived.Test.YtpanlghofeebhaaEqvLaw
import Derived.Lib.SlicesCompact
import Derived.Test.YtpanlghofeebhaaGroup
import Derived.Shelf.Sort.Plain
import Derived.Shelf.Slices.CompactI
import Derived.Test.YtpanlghofeebhaaLay
import Derived.Test.YtpanlghofeebhaaCgFor
section
/- Rees coordinates of a J-class with an idempotent: what they are, and that they are right. Plain; no program. -/
namespace Go.Proofs.Ytpanlghofeebhaa
open Go Go.AM
section
variable (t : List (List Int)) (j e : Nat)
abbrev jcl (x : Nat) : Int := (classJ t).getD x 0
end
structure Coo (t : List (List Int)) (j e : Nat) : Prop where
  semi : Semi t
  hj : j < numJ t
  he : e < t.length
  ee : en t e e = e
  ej : jcl t e = j
namespace Coo
end Coo
end Go.Proofs.Ytpanlghofeebhaa
end
section
/- The numbers of a class's rows and columns as a sort makes them; the least idempotent of a class; the first place in a list. Plain; no program. -/
namespace Go.Proofs.Ytpanlghofeebhaa
open Go Go.AM
def srtI (l : List Int) : List Int := l.mergeSort fun x y => decide (x ≤ y)
theorem srtI_perm (l : List Int) : (srtI l).Perm l := List.mergeSort_perm l _
theorem srtI_len (l : List Int) : (srtI l).length = l.length := (srtI_perm l).length_eq
theorem srtI_sorted (l : List Int) : (srtI l).Pairwise (· ≤ ·) := by
  have := List.pairwise_mergeSort (le := fun x y : Int => decide (x ≤ y)) (fun a b c h1 h2 => decide_eq_true (Int.le_trans (of_decide_eq_true h1) (of_decide_eq_true h2))) (fun a b => by
    rcases Int.le_total a b with h | h
    · simp [h]
    · simp [h]) l
  exact this.imp fun h => of_decide_eq_true h
end Go.Proofs.Ytpanlghofeebhaa
end
section
/- slices.Sort over integers: from the shelf's contract to the abstract machine's. -/
namespace Go.Proofs.Ytpanlghofeebhaa
open Go Go.AM Go.Sort Go.Lib Go.RowKit
def sortWd {α : Type} [Inhabited α] (enc : α → Value) (w : World) (b m : Nat) (dk : Array α) (os : Array Obj) : World := grow (putRow enc (Sort.ahead w m) b 0 dk) os
section
variable {w : World} {M : Msk} {b : Nat} {cs : Array Value} {ty : TypeId} (hb : w.heap[b]? = some (.cells cs ty (0, 0)))
include hb
theorem sI_lt : b < w.heap.size := by
  rcases Nat.lt_or_ge b w.heap.size with h | h
  · exact h
  · rw [Array.getElem?_eq_none h] at hb; cases hb
theorem sI_block {α : Type} [Inhabited α] (enc : α → Value) (m : Nat) (dk : Array α) (os : Array Obj) : (sortWd enc w b m dk os).heap[b]? = some (.cells (putCells enc 0 dk cs) ty (0, 0)) := by
  have hlt := sI_lt hb
  show ((putRow enc (Sort.ahead w m) b 0 dk).heap ++ os)[b]? = _
  rw [Array.getElem?_append_left (by rw [size_putRow]; exact hlt)]
  show ((w.heap.modify b (onCells (putCells enc 0 dk))))[b]? = _
  rw [Array.getElem?_modify, if_pos rfl, hb]; rfl
omit hb in
theorem sI_other {α : Type} [Inhabited α] (enc : α → Value) (m : Nat) (dk : Array α) (os : Array Obj) {b' : Nat} (hne : b' ≠ b) (hlt : b' < w.heap.size) : (sortWd enc w b m dk os).heap[b']? = w.heap[b']? := by
  show ((putRow enc (Sort.ahead w m) b 0 dk).heap ++ os)[b']? = _
  rw [Array.getElem?_append_left (by rw [size_putRow]; exact hlt)]
  show ((w.heap.modify b (onCells (putCells enc 0 dk))))[b']? = _
  rw [Array.getElem?_modify, if_neg (Ne.symm hne)]
omit hb in
theorem sI_size {α : Type} [Inhabited α] (enc : α → Value) (m : Nat) (dk : Array α) (os : Array Obj) : (sortWd enc w b m dk os).heap.size = w.heap.size + os.size := by
  show ((putRow enc (Sort.ahead w m) b 0 dk).heap ++ os).size = _
  rw [Array.size_append, size_putRow]; rfl
omit hb in
theorem sIp_size {α : Type} [Inhabited α] (enc : α → Value) (d : Array α) : (putCells enc 0 d cs).size = cs.size := by simp [putCells]
omit hb in
theorem sIp_at {α : Type} [Inhabited α] (enc : α → Value) (d : Array α) {q : Nat} (hq : q < d.size) (hc : q < cs.size) : (putCells enc 0 d cs)[q]? = some (enc d[q]!) := by
  simp [putCells, hq, hc]
theorem sI_stp {α : Type} [Inhabited α] (enc : α → Value) (m : Nat) (dk : Array α) (os : Array Obj) (hM : ∀ off, M b off ↔ off < cs.size) : Stp (fun b' off => b' = b ∧ M b' off) w (sortWd enc w b m dk os) := by
  refine ⟨by rw [sI_size]; omega, fun b' hb' => ?_, ⟨⟨rfl, rfl⟩, rfl, ?_⟩⟩
  · by_cases e : b' = b
    · subst e
      refine .inr (.inl ⟨cs, _, ty, hb, sI_block hb enc m dk os, sIp_size enc dk, fun off hn => ?_⟩)
      have : ¬ off < cs.size := fun h => hn ⟨rfl, (hM off).2 h⟩
      rw [Array.getElem?_eq_none (by rw [sIp_size]; omega), Array.getElem?_eq_none (by omega)]
    · exact .inl (sI_other enc m dk os e hb')
  · show w.drawn ≤ w.drawn + m
    omega
end
theorem sortI_m (l : List Int) (hl : 0 < l.length) :
    MF 116 [.vec 1000] [(1000, .vec 0 (.ints .i64 l) [])] (.tup []) [(1000, .vec 0 (.ints .i64 (srtI l)) [])] := by
  refine ⟨⟨_, Try.func116, by decide +kernel, rfl⟩, fun ρ M w vs st hv => ?_⟩
  obtain ⟨⟨o, ho, hlen, hsz, hlb, _, hblk⟩, _⟩ := st.blk 1000 _ rfl
  have hlen : o.len = l.length := hlen
  have hsz : o.sz = 1 := hsz
  cases hob : o.blk with
  | none =>
    simp only [hob] at hblk
    have : l.length = 0 := hblk.1
    omega
  | some b =>
  simp only [hob] at hblk
  obtain ⟨hcap, cs, ty, hb, hcs, hM, hcell0⟩ := hblk
  have hM : ∀ off, M b off ↔ off < cs.size := fun off => by rw [hM off]; omega
  have hcell : ∀ q, q < l.length → cs[q]? = some (.int .i64 (l.getD q 0)) := fun q hq => by
    obtain ⟨v, h1, h2⟩ := hcell0 q (by simpa [RO.cells, RO.len, RO.sz] using hq)
    have h2 : v = .int .i64 (l.getD q 0) := h2.1
    rw [h1, h2]
  have hcsl : l.length ≤ cs.size := by rw [hcs, hsz]; omega
  match vs, hv with
  | [v0], ⟨h0, _⟩ =>
  obtain ⟨o', ho', rfl⟩ := h0
  rw [ho] at ho'; cases ho'
  have hlt := sI_lt hb
  have hds : l.toArray.size = l.length := by simp
  have hH : Holds (Value.int .i64) w b 0 l.toArray := fun j hj => by
    rw [hds] at hj
    refine ⟨?_, ?_⟩
    · rw [Nat.zero_add, cell_of_heap hb]
      show cs[j]? = some (.int .i64 l.toArray[j]!)
      rw [hcell j hj, getD_eq hj]; simp [hj]
    · simp [World.frozen?, hb]
  have hcall := Any.slices_Sort_int sortI b 0 o.cap l w hH hlt (by have : l.length ≤ 140737488355328 := hlb; omega)
  have hv0 : o.val = .slice (some ⟨b, 0, none⟩) l.length o.cap := by rw [Sl.val, hob, hlen]; rfl
  rw [hv0]
  refine Calls.mono hcall fun e w' ⟨he, n, os, hw⟩ => ?_
  have hw : w' = sortWd (Value.int .i64) w b n (srtI l).toArray os := hw
  subst hw
  refine ⟨_, ρ, M, he, ?_, ⟨#[], rfl, trivial⟩⟩
  have hstp := sI_stp hb (Value.int .i64) n (srtI l).toArray os hM
  refine ⟨fun k => by rw [st.dom k, find_cons, find_cons]; split <;> rfl, fun k B hB => ?_, st.inj, fun b' off hm => by rw [sI_size]; have := st.mlt b' off hm; omega, ?_, st.sub, st.old, st.fresh, st.pin⟩
  · have hk1 : k = 1000 ∧ B = .vec 0 (.ints .i64 (srtI l)) [] := by
      rw [find_cons] at hB
      split at hB
      · rename_i e; cases hB; exact ⟨e.symm, rfl⟩
      · cases hB
    obtain ⟨rfl, rfl⟩ := hk1
    refine ⟨⟨o, ho, by rw [hlen]; exact (srtI_len l).symm, hsz, by show (srtI l).length ≤ LB; rw [srtI_len]; exact hlb, Nat.zero_le _, ?_⟩, .inl rfl⟩
    simp only [hob]
    refine ⟨hcap, putCells (Value.int .i64) 0 (srtI l).toArray cs, ty, sI_block hb (Value.int .i64) n (srtI l).toArray os, by rw [sIp_size]; exact hcs, fun off => by rw [sIp_size, hM off]; omega, fun q hq => ?_⟩
    have hq : q < l.length := by simpa [RO.cells, RO.len, RO.sz, srtI_len] using hq
    refine ⟨.int .i64 ((srtI l).toArray[q]!), sIp_at (Value.int .i64) (srtI l).toArray (by simp [srtI_len]; omega) (by omega), ?_⟩
    have hq' : q < (srtI l).length := by rw [srtI_len]; exact hq
    have e1 : (srtI l).toArray[q]! = (srtI l).getD q 0 := by rw [getD_eq hq']; simp [hq']
    rw [e1]
    obtain ⟨i, hi, he⟩ := mem_getD 0 ((srtI_perm l).mem_iff.1 (getD_mem (d := 0) hq'))
    obtain ⟨v, _, h2⟩ := hcell0 i (by simpa [RO.cells, RO.len, RO.sz] using hi)
    show Value.int .i64 ((srtI l).getD q 0) = Value.int .i64 ((srtI l).getD q 0) ∧ inK .i64 ((srtI l).getD q 0)
    rw [← he]
    exact ⟨rfl, h2.2⟩
  · refine hstp.weaken fun b' off he => ?_
    obtain ⟨rfl, hm⟩ := he
    exact ⟨⟨1000, by simp [hasB, ho, Own.has, hob]⟩, hm⟩
end Go.Proofs.Ytpanlghofeebhaa
end
section
/- Package congr: the splitter: contract. -/
namespace Go.Proofs.Ytpanlghofeebhaa
open Go Go.AM
set_option maxRecDepth 100000
abbrev spS (a b : Nat) (c s : List Int) (cnt rnd : Int) (M L im : List Int) : Store :=
  [(1000, .box [.vec a, .vec b, .int .i64 cnt, .int .i64 rnd, .vec 1003, .vec 1004]), (a, .vec 0 (.ints .i64 c) []), (b, .vec 0 (.ints .i64 s) []), (1003, .vec 0 (.ints .i64 M) []), (1004, .vec 0 (.ints .i64 L) []), (1005, .vec 0 (.ints .i64 im) [])]
structure SpQ (c s : List Int) (rnd : Int) (M L im : List Int) : Prop where
  n : c.length ≤ 400
  sl : s.length = c.length
  cin : ∀ x ∈ c, 0 ≤ x ∧ x < (c.length : Int)
  il : im.length = c.length
  iin : ∀ x, x < c.length → 0 ≤ im.getD x 0 ∧ im.getD x 0 < (c.length : Int)
  ml : M.length = c.length * c.length
  ll : L.length = c.length * c.length
  mlt : ∀ x ∈ M, 0 ≤ x ∧ x ≤ rnd
  lab : ∀ x ∈ L, 0 ≤ x ∧ x ≤ (c.length : Int)
  r0 : 0 ≤ rnd ∧ rnd ≤ 1000000000
set_option maxHeartbeats 1000000 in
theorem csplit_fn (c s : List Int) (cnt rnd : Int) (M L im : List Int) (h : SpQ c s rnd M L im) : MF 127 [.ptr 1000 0, .vec 1005] (spS 1001 1002 c s cnt rnd M L im) (.tup [])
    ([(1000, .box [.vec 1002, .vec 1001, .int .i64 (classN (spC c im) : Nat), .int .i64 (rnd + 1), .vec 1003, .vec 1004]), (1001, .vec 0 (.ints .i64 c) []), (1002, .vec 0 (.ints .i64 (spC c im)) []), (1003, .vec 0 (.ints .i64 (spM c im (rnd + 1) M L c.length).1) []), (1004, .vec 0 (.ints .i64 (spM c im (rnd + 1) M L c.length).2) []), (1005, .vec 0 (.ints .i64 im) [])]) := mkM Try.func127 (by decide +kernel) rfl (Nat.le_of_ble_eq_true rfl) fun _ => by
  have hn := h.n
  have hsl := h.sl
  have hil := h.il
  have hr0 := h.r0
  have hst : SpI c im (rnd + 1) M L 0 := SpI.start h.ml h.ll (fun x hx => by have := h.mlt x hx; omega) (fun x hx => (h.mlt x hx).1) h.lab
  have hup := SpI.upto h.cin h.iin (by omega) hst
  refine And.intro (by omega) ?_
  refine Exists.intro [] <| lp2 (fun (k : Nat) (_ : List Int) => [(27, .int .i64 k)]) (fun k N => [(1000, .box [.vec 1001, .vec 1002, .int .i64 ((spF c im k).length : Nat), .int .i64 (rnd + 1), .vec 1003, .vec 1004]), (1002, .vec 0 (.ints .i64 N) []), (1003, .vec 0 (.ints .i64 (spM c im (rnd + 1) M L k).1) []), (1004, .vec 0 (.ints .i64 (spM c im (rnd + 1) M L k).2) [])]) (fun k N => k ≤ c.length ∧ N.length = c.length ∧ ∀ j, j < k → N.getD j 0 = (spC c im).getD j 0) (fun k _ => c.length - k) 0 s ⟨Nat.zero_le _, hsl, fun j h => absurd h (Nat.not_lt_zero _)⟩ (by repeat' first | refine And.intro ?_ ?_ | exact True.intro | (show (_ : Int) = (_ : Int); omega) | omega | exact rfl | (simp only [RO.len]; omega)) ?_
  rintro k N ⟨hk, hN, hNj⟩
  have hI := hup k hk
  refine And.intro (fun h1 => ?_) (fun h1 => ?_)
  · have h1 : (k : Int) < (c.length : Int) := h1
    have hkl : k < c.length := by omega
    have hq := spP_get (im := im) hkl
    have hck := h.cin _ (getD_mem (d := 0) hkl)
    have hik := h.iin k hkl
    have hci := h.cin _ (getD_mem (d := 0) (l := c) (i := (im.getD k 0).toNat) (by omega))
    have hcod := cod_lt (q := (c.getD k 0, c.getD (im.getD k 0).toNat 0)) hck.1 hck.2 hci.1 hci.2
    have hnx := hI.next h.cin h.iin (by omega) hkl
    rw [hq] at hnx
    have hml := hI.lm
    have hll := hI.ll
    have hE : (codN c.length (c.getD k 0, c.getD (im.getD k 0).toNat 0) : Int) = c.getD k 0 * (c.length : Int) + c.getD (im.getD k 0).toNat 0 := hcod.2
    have hEr : 0 ≤ c.getD k 0 * (c.length : Int) + c.getD (im.getD k 0).toNat 0 ∧ c.getD k 0 * (c.length : Int) + c.getD (im.getD k 0).toNat 0 < ((c.length * c.length : Nat) : Int) := by omega
    have hcc : c.length * c.length ≤ 160000 := Nat.mul_le_mul (show c.length ≤ 400 from hn) hn
    have hEt : (c.getD k 0 * (c.length : Int) + c.getD (im.getD k 0).toNat 0).toNat = codN c.length (c.getD k 0, c.getD (im.getD k 0).toNat 0) := rfl
    have hmul : 0 ≤ c.getD k 0 * (c.length : Int) := Int.mul_nonneg hck.1 (by omega)
    have hfl : (spF c im k).length ≤ k := by
      have := firsts_le ((spP c im).take k)
      rw [List.length_take] at this
      unfold spF; omega
    have hstep : spM c im (rnd + 1) M L (k + 1) = if (spM c im (rnd + 1) M L k).1.getD (codN c.length ((spP c im).getD k (0, 0))) 0 = rnd + 1 then spM c im (rnd + 1) M L k
      else ((spM c im (rnd + 1) M L k).1.set (codN c.length ((spP c im).getD k (0, 0))) (rnd + 1), (spM c im (rnd + 1) M L k).2.set (codN c.length ((spP c im).getD k (0, 0))) ((spF c im k).length : Int)) := rfl
    rw [hq] at hstep
    refine And.intro (by omega) ?_
    refine Or.inl ?_
    refine Exists.intro [false, false, false, false, false, false, false, false, false, false, false, false, false, false, false, false, false, false, false] (And.intro (by decide +kernel) ?_)
    refine And.intro (show -9223372036854775808 ≤ c.getD k 0 * (c.length : Int) ∧ c.getD k 0 * (c.length : Int) ≤ 9223372036854775807 by omega) ?_
    refine And.intro (by omega) ?_
    refine And.intro (show 0 ≤ im.getD k 0 ∧ im.getD k 0 < (c.length : Int) by omega) ?_
    refine And.intro (show -9223372036854775808 ≤ c.getD k 0 * (c.length : Int) + c.getD (im.getD k 0).toNat 0 ∧ c.getD k 0 * (c.length : Int) + c.getD (im.getD k 0).toNat 0 ≤ 9223372036854775807 by omega) ?_
    refine Or.inl ?_
    refine Exists.intro [false, false, false, false, false, false, false, false, false, false, false, false] (And.intro (by decide +kernel) ?_)
    refine And.intro (show 0 ≤ c.getD k 0 * (c.length : Int) + c.getD (im.getD k 0).toNat 0 ∧ c.getD k 0 * (c.length : Int) + c.getD (im.getD k 0).toNat 0 < (((spM c im (rnd + 1) M L k).1.length : Nat) : Int) by rw [hml]; exact hEr) ?_
    refine And.intro (fun h2 => ?_) (fun h2 => ?_)
    · have h2 : (spM c im (rnd + 1) M L k).1.getD (c.getD k 0 * (c.length : Int) + c.getD (im.getD k 0).toNat 0).toNat 0 ≠ rnd + 1 := h2
      rw [hEt] at h2
      have hF := hnx.2.2.2 h2
      rw [if_neg h2, ← hEt] at hstep
      have hM1 : (spM c im (rnd + 1) M L k).1.set (c.getD k 0 * (c.length : Int) + c.getD (im.getD k 0).toNat 0).toNat (rnd + 1) = (spM c im (rnd + 1) M L (k + 1)).1 := by rw [hstep]
      have hL1 : (spM c im (rnd + 1) M L k).2.set (c.getD k 0 * (c.length : Int) + c.getD (im.getD k 0).toNat 0).toNat ((spF c im k).length : Int) = (spM c im (rnd + 1) M L (k + 1)).2 := by rw [hstep]
      have hlab := hnx.2.1
      rw [← hL1, ← hEt] at hlab
      have hF1 : ((spF c im k).length : Int) + 1 = ((spF c im (k + 1)).length : Nat) := by omega
      refine Or.inl ?_
      refine Exists.intro [false, false, false, false, false, false, false, false, false, false, true] (And.intro (by decide +kernel) ?_)
      refine And.intro (show 0 ≤ c.getD k 0 * (c.length : Int) + c.getD (im.getD k 0).toNat 0 ∧ c.getD k 0 * (c.length : Int) + c.getD (im.getD k 0).toNat 0 < (((spM c im (rnd + 1) M L k).1.length : Nat) : Int) by rw [hml]; exact hEr) ?_
      refine And.intro (show ((0 : Nat) : Int) ≤ c.getD k 0 * (c.length : Int) + c.getD (im.getD k 0).toNat 0 by omega) ?_
      refine Or.inl ?_
      refine Exists.intro [false, false, false, false, false, false, false, false, false, false, true] (And.intro (by decide +kernel) ?_)
      refine And.intro (show 0 ≤ c.getD k 0 * (c.length : Int) + c.getD (im.getD k 0).toNat 0 ∧ c.getD k 0 * (c.length : Int) + c.getD (im.getD k 0).toNat 0 < (((spM c im (rnd + 1) M L k).2.length : Nat) : Int) by rw [hll]; exact hEr) ?_
      refine And.intro (show ((0 : Nat) : Int) ≤ c.getD k 0 * (c.length : Int) + c.getD (im.getD k 0).toNat 0 by omega) ?_
      refine And.intro (show -9223372036854775808 ≤ ((spF c im k).length : Int) + 1 ∧ ((spF c im k).length : Int) + 1 ≤ 9223372036854775807 by omega) ?_
      refine And.intro (show 0 ≤ c.getD k 0 * (c.length : Int) + c.getD (im.getD k 0).toNat 0 ∧ c.getD k 0 * (c.length : Int) + c.getD (im.getD k 0).toNat 0 < ((((spM c im (rnd + 1) M L k).2.set (c.getD k 0 * (c.length : Int) + c.getD (im.getD k 0).toNat 0).toNat ((spF c im k).length : Int)).length : Nat) : Int) by rw [List.length_set, hll]; exact hEr) ?_
      refine And.intro (show 0 ≤ (k : Int) ∧ (k : Int) < (N.length : Int) by omega) ?_
      refine And.intro (by omega) ?_
      refine And.intro (by omega) ?_
      refine nx (k + 1, N.set k (((spM c im (rnd + 1) M L k).2.set (c.getD k 0 * (c.length : Int) + c.getD (im.getD k 0).toNat 0).toNat ((spF c im k).length : Int)).getD (c.getD k 0 * (c.length : Int) + c.getD (im.getD k 0).toNat 0).toNat 0)) ⟨by omega, by rw [List.length_set]; exact hN, fun j hj => ?_⟩ (show c.length - (k + 1) < c.length - k by omega) (by repeat' first | refine And.intro ?_ ?_ | exact True.intro | exact congrArg (RO.ints .i64) hM1 | exact congrArg (RO.ints .i64) hL1 | exact hF1 | (show (_ : Int) = (_ : Int); omega) | omega | exact rfl | (simp only [RO.len]; omega))
      by_cases e : j = k
      · subst e; rw [getD_set_eq (by omega)]; exact hlab
      · rw [getD_set_ne (Ne.symm e)]; exact hNj j (by omega)
    · have h2 : (spM c im (rnd + 1) M L k).1.getD (c.getD k 0 * (c.length : Int) + c.getD (im.getD k 0).toNat 0).toNat 0 = rnd + 1 := h2
      rw [hEt] at h2
      have hF := hnx.2.2.1 h2
      rw [if_pos h2] at hstep
      have hM1 : (spM c im (rnd + 1) M L k).1 = (spM c im (rnd + 1) M L (k + 1)).1 := by rw [hstep]
      have hL1 : (spM c im (rnd + 1) M L k).2 = (spM c im (rnd + 1) M L (k + 1)).2 := by rw [hstep]
      have hlab := hnx.2.1
      rw [← hL1, ← hEt] at hlab
      have hF1 : ((spF c im k).length : Int) = ((spF c im (k + 1)).length : Nat) := by rw [hF]
      refine And.intro (show 0 ≤ c.getD k 0 * (c.length : Int) + c.getD (im.getD k 0).toNat 0 ∧ c.getD k 0 * (c.length : Int) + c.getD (im.getD k 0).toNat 0 < (((spM c im (rnd + 1) M L k).2.length : Nat) : Int) by rw [hll]; exact hEr) ?_
      refine And.intro (show 0 ≤ (k : Int) ∧ (k : Int) < (N.length : Int) by omega) ?_
      refine And.intro (by omega) ?_
      refine And.intro (by omega) ?_
      refine nx (k + 1, N.set k ((spM c im (rnd + 1) M L k).2.getD (c.getD k 0 * (c.length : Int) + c.getD (im.getD k 0).toNat 0).toNat 0)) ⟨by omega, by rw [List.length_set]; exact hN, fun j hj => ?_⟩ (show c.length - (k + 1) < c.length - k by omega) (by repeat' first | refine And.intro ?_ ?_ | exact True.intro | exact congrArg (RO.ints .i64) hM1 | exact congrArg (RO.ints .i64) hL1 | exact hF1 | (show (_ : Int) = (_ : Int); omega) | omega | exact rfl | (simp only [RO.len]; omega))
      by_cases e : j = k
      · subst e; rw [getD_set_eq (by omega)]; exact hlab
      · rw [getD_set_ne (Ne.symm e)]; exact hNj j (by omega)
  · have h1 : (c.length : Int) ≤ (k : Int) := h1
    have hkn : k = c.length := by omega
    have hNd : N = spC c im := ext_getD 0 (by rw [spC_len]; exact hN) fun j hj => hNj j (by omega)
    have hM1 : (spM c im (rnd + 1) M L k).1 = (spM c im (rnd + 1) M L c.length).1 := by rw [hkn]
    have hL1 : (spM c im (rnd + 1) M L k).2 = (spM c im (rnd + 1) M L c.length).2 := by rw [hkn]
    have hF1 : ((spF c im k).length : Int) = (classN (spC c im) : Nat) := by rw [hkn, spF_all]
    repeat' first | refine And.intro ?_ ?_ | exact True.intro | exact congrArg (RO.ints .i64) hNd | exact congrArg (RO.ints .i64) hM1 | exact congrArg (RO.ints .i64) hL1 | exact hF1 | (show (_ : Int) = (_ : Int); omega) | omega | exact rfl
theorem SpQ.next {c s : List Int} {rnd : Int} {M L im im2 : List Int} (h : SpQ c s rnd M L im) (hr : rnd + 1 ≤ 1000000000) (hl : im2.length = c.length) (hi : ∀ x, x < c.length → 0 ≤ im2.getD x 0 ∧ im2.getD x 0 < (c.length : Int)) :
    SpQ (spC c im) c (rnd + 1) (spM c im (rnd + 1) M L c.length).1 (spM c im (rnd + 1) M L c.length).2 im2 := by
  have hr0 := h.r0
  have hst : SpI c im (rnd + 1) M L 0 := SpI.start h.ml h.ll (fun x hx => by have := h.mlt x hx; omega) (fun x hx => (h.mlt x hx).1) h.lab
  have hI := SpI.upto h.cin h.iin (by omega) hst c.length (Nat.le_refl _)
  have hle : (firsts (spP c im)).length ≤ c.length := by have := firsts_le (spP c im); rw [spP_len] at this; exact this
  refine ⟨by rw [spC_len]; exact h.n, by rw [spC_len], fun x hx => ?_, by rw [spC_len]; exact hl, fun x hx => ?_, by rw [spC_len]; exact hI.lm, by rw [spC_len]; exact hI.ll, fun x hx => ⟨hI.lo x hx, hI.hi x hx⟩, fun x hx => by rw [spC_len]; exact hI.lab x hx, by omega⟩
  · obtain ⟨j, hj, rfl⟩ := mem_getD 0 hx
    unfold spC at hj ⊢
    rw [canon_length] at hj
    have := canon_lt hj
    rw [canon_length, spP_len]; omega
  · rw [spC_len] at hx ⊢; exact hi x hx
end Go.Proofs.Ytpanlghofeebhaa
end
section
/- Plain: the quotient of a table by a congruence. -/
namespace Go.Proofs.Ytpanlghofeebhaa
open Go Go.AM
section
variable {t : List (List Int)} {p : List Int}
theorem cls_lt (hp : canon p = p) {x : Nat} (hx : x < p.length) : 0 ≤ p.getD x 0 ∧ (p.getD x 0).toNat < classN p ∧ p.getD x 0 = ((p.getD x 0).toNat : Int) := by
  have := (valid_range hp (p.getD x 0)).2 (getD_mem hx)
  omega
theorem cls_some (hs : Sh t) (hl : p.length = t.length) : 0 < classN p := by
  have := hs.pos
  cases p with
  | nil => simp at hl; omega
  | cons a l =>
    have hm : a ∈ firsts (a :: l) := mem_firsts.2 (by simp)
    exact List.length_pos_of_mem hm
/-! ### How the rows are filled -/
end
end Go.Proofs.Ytpanlghofeebhaa
end
section
/- Package congr: the coarsest congruence in a partition: contract. -/
namespace Go.Proofs.Ytpanlghofeebhaa
open Go Go.AM
set_option maxRecDepth 100000
theorem csq_fn (t : List (List Int)) (h : Sh t) : QF 106 [.ro (.rows .i64 t)] (.bool (.lit true)) := mkQ Try.func106 (by decide +kernel) rfl (Nat.le_of_ble_eq_true rfl) fun _ => by
  have hmost := h.most
  have hpos := h.pos
  refine And.intro (fun h1 => absurd (show (t.length : Int) = 0 from h1) (by omega)) (fun _ => ?_)
  refine And.intro (fun h1 => absurd (show (400 : Int) < (t.length : Int) from h1) (by omega)) (fun _ => ?_)
  refine Exists.intro [] <| lp (X := Nat) (fun x => [(17, .int .i64 x)]) (fun _ => []) (fun x => x ≤ t.length) (fun x => t.length - x) 0 (Nat.zero_le _) (by repeat' first | refine And.intro ?_ ?_ | exact True.intro | (show (_ : Int) = (_ : Int); omega) | omega | exact rfl | (simp only [RO.len]; omega)) ?_
  intro x hx
  refine And.intro (fun h1 => ?_) (fun h1 => ?_)
  · have h1 : (x : Int) < (t.length : Int) := h1
    have hxl : x < t.length := by omega
    have r1 := h.len hxl
    refine And.intro (by omega) ?_
    refine And.intro (fun h2 => absurd (show ((t.getD x []).length : Int) = (t.length : Int) by rw [r1]) h2) (fun _ => ?_)
    refine Exists.intro [] <| lp (X := Nat) (fun y => [(28, .int .i64 y)]) (fun _ => []) (fun y => y ≤ t.length) (fun y => t.length - y) 0 (Nat.zero_le _) (by repeat' first | refine And.intro ?_ ?_ | exact True.intro | (show (_ : Int) = (_ : Int); omega) | omega | exact rfl | (simp only [RO.len]; omega)) ?_
    intro y hy
    refine And.intro (fun h3 => ?_) (fun h3 => ?_)
    · have h3 : (y : Int) < ((t.getD x []).length : Int) := h3
      have e1 := h.ent hxl (y := y) (by omega)
      refine And.intro (by omega) ?_
      refine And.intro (fun h4 => absurd (show (t.getD x []).getD y 0 < 0 from h4) (by omega)) (fun _ => ?_)
      refine And.intro (fun h4 => absurd (show (t.length : Int) ≤ (t.getD x []).getD y 0 from h4) (by omega)) (fun _ => ?_)
      refine And.intro (by omega) ?_
      exact nx (y + 1) (show y + 1 ≤ _ by omega) (show t.length - (y + 1) < t.length - y by omega) (by repeat' first | refine And.intro ?_ ?_ | exact True.intro | (show (_ : Int) = (_ : Int); omega) | omega | exact rfl | (simp only [RO.len]; omega))
    · have h3 : ((t.getD x []).length : Int) ≤ (y : Int) := h3
      refine And.intro (by omega) ?_
      exact nx (x + 1) (show x + 1 ≤ _ by omega) (show t.length - (x + 1) < t.length - x by omega) (by repeat' first | refine And.intro ?_ ?_ | exact True.intro | (show (_ : Int) = (_ : Int); omega) | omega | exact rfl | (simp only [RO.len]; omega))
  · exact And.intro rfl trivial
/-! ### Plain: the splitting comes to an end -/
section
variable {t : List (List Int)} {p c c0 s im : List Int} {rnd rnd0 : Int} {M L : List Int} {gens : List Int} {i : Nat}
theorem cg_of_gens (hs : Semi t) (hg : Spans t gens) (h : ∀ g ∈ gens, ∀ x y, x < t.length → y < t.length → c.getD x 0 = c.getD y 0 → c.getD (en t g.toNat x) 0 = c.getD (en t g.toNat y) 0 ∧ c.getD (en t x g.toNat) 0 = c.getD (en t y g.toNat) 0) : Cg t c 0 := by
  have hS := hs.toSh
  have key : ∀ {s : Nat}, Mk t gens s → s < t.length ∧ ∀ x y, x < t.length → y < t.length → c.getD x 0 = c.getD y 0 → c.getD (en t s x) 0 = c.getD (en t s y) 0 ∧ c.getD (en t x s) 0 = c.getD (en t y s) 0 := fun {s} m => by
    induction m with
    | gen hm => exact ⟨by have := hg.el _ hm; omega, h _ hm⟩
    | mul ha hb i1 i2 =>
      refine ⟨(hS.ent i1.1 i2.1).2, fun x y hx hy e => ⟨?_, ?_⟩⟩
      · rw [assoc3 hs.assoc i1.1 i2.1 hx, assoc3 hs.assoc i1.1 i2.1 hy]
        exact (i1.2 _ _ (hS.ent i2.1 hx).2 (hS.ent i2.1 hy).2 (i2.2 x y hx hy e).1).1
      · rw [← assoc3 hs.assoc hx i1.1 i2.1, ← assoc3 hs.assoc hy i1.1 i2.1]
        exact (i2.2 _ _ (hS.ent hx i1.1).2 (hS.ent hy i1.1).2 (i1.2 x y hx hy e).2).2
  exact fun x y s hx hy hsl e => ⟨fun _ => ((key (hg.all s hsl)).2 x y hx hy e).1, fun _ => ((key (hg.all s hsl)).2 x y hx hy e).2⟩
structure CoB (t : List (List Int)) (p c : List Int) : Prop where
  cl : c.length = t.length
  cn : canon c = c
  ref : ∀ x y, x < t.length → y < t.length → c.getD x 0 = c.getD y 0 → p.getD x 0 = p.getD y 0
  syn : ∀ x y, x < t.length → y < t.length → Syn t p x y → c.getD x 0 = c.getD y 0
structure CoG (t : List (List Int)) (p c0 c : List Int) (gens : List Int) (i : Nat) : Prop extends CoB t p c where
  fin : ∀ x y, x < t.length → y < t.length → c.getD x 0 = c.getD y 0 → c0.getD x 0 = c0.getD y 0
  st : ∀ g ∈ gens.take i, ∀ x y, x < t.length → y < t.length → c.getD x 0 = c.getD y 0 → c0.getD (en t g.toNat x) 0 = c0.getD (en t g.toNat y) 0 ∧ c0.getD (en t x g.toNat) 0 = c0.getD (en t y g.toNat) 0
theorem CoG.start (h : CoB t p c) : CoG t p c c gens 0 := ⟨h, fun _ _ _ _ e => e, fun g hg => by simp at hg⟩
theorem CoG.next (hs : Semi t) (hg : ∀ g ∈ gens, 0 ≤ g ∧ g < (t.length : Int)) (h : CoG t p c0 c gens i) (hi : i < gens.length) {a b : List Int} (ha : ∀ x, x < t.length → (a.getD x 0).toNat = en t (gens.getD i 0).toNat x) (hb : ∀ x, x < t.length → (b.getD x 0).toNat = en t x (gens.getD i 0).toNat) :
    CoG t p c0 (spC (spC c a) b) gens (i + 1) := by
  have hS := hs.toSh
  have hgr := hg _ (getD_mem (d := 0) hi)
  have hgl : (gens.getD i 0).toNat < t.length := by omega
  have hcl := h.cl
  have l1 : (spC c a).length = t.length := by rw [spC_len]; exact hcl
  have l2 : (spC (spC c a) b).length = t.length := by rw [spC_len]; exact l1
  have k1 : ∀ x y, x < t.length → y < t.length → ((spC c a).getD x 0 = (spC c a).getD y 0 ↔ c.getD x 0 = c.getD y 0 ∧ c.getD (en t (gens.getD i 0).toNat x) 0 = c.getD (en t (gens.getD i 0).toNat y) 0) := fun x y hx hy => by
    rw [spC_iff (by omega) (by omega), ha x hx, ha y hy]
  have k2 : ∀ x y, x < t.length → y < t.length → ((spC (spC c a) b).getD x 0 = (spC (spC c a) b).getD y 0 ↔ (spC c a).getD x 0 = (spC c a).getD y 0 ∧ (spC c a).getD (en t x (gens.getD i 0).toNat) 0 = (spC c a).getD (en t y (gens.getD i 0).toNat) 0) := fun x y hx hy => by
    rw [spC_iff (by omega) (by omega), hb x hx, hb y hy]
  have down : ∀ x y, x < t.length → y < t.length → (spC (spC c a) b).getD x 0 = (spC (spC c a) b).getD y 0 → c.getD x 0 = c.getD y 0 ∧ c.getD (en t (gens.getD i 0).toNat x) 0 = c.getD (en t (gens.getD i 0).toNat y) 0 ∧ c.getD (en t x (gens.getD i 0).toNat) 0 = c.getD (en t y (gens.getD i 0).toNat) 0 := fun x y hx hy e => by
    have e1 := (k2 x y hx hy).1 e
    have e2 := (k1 x y hx hy).1 e1.1
    have e3 := (k1 _ _ (hS.ent hx hgl).2 (hS.ent hy hgl).2).1 e1.2
    exact ⟨e2.1, e2.2, e3.1⟩
  refine ⟨⟨l2, spC_canon _ _, fun x y hx hy e => h.ref x y hx hy (down x y hx hy e).1, fun x y hx hy e => ?_⟩, fun x y hx hy e => h.fin x y hx hy (down x y hx hy e).1, fun g hgm x y hx hy e => ?_⟩
  · have up : ∀ x y, x < t.length → y < t.length → Syn t p x y → (spC c a).getD x 0 = (spC c a).getD y 0 := fun x y hx hy e =>
      (k1 x y hx hy).2 ⟨h.syn x y hx hy e, h.syn _ _ (hS.ent hgl hx).2 (hS.ent hgl hy).2 (syn_cg hs hx hy hgl e).1⟩
    exact (k2 x y hx hy).2 ⟨up x y hx hy e, up _ _ (hS.ent hx hgl).2 (hS.ent hy hgl).2 (syn_cg hs hx hy hgl e).2⟩
  · have hd := down x y hx hy e
    rw [take_get (d := 0) hi] at hgm
    rcases List.mem_append.1 hgm with hgm | hgm
    · exact h.st g hgm x y hx hy hd.1
    · rw [List.mem_singleton] at hgm
      subst hgm
      exact ⟨h.fin _ _ (hS.ent hgl hx).2 (hS.ent hgl hy).2 hd.2.1, h.fin _ _ (hS.ent hx hgl).2 (hS.ent hy hgl).2 hd.2.2⟩
theorem CoG.done (hs : Semi t) (hg : Spans t gens) (h : CoG t p c0 c gens i) (h0 : CoB t p c0) (hi : gens.length ≤ i) : classN c0 ≤ classN c ∧ (classN c0 = classN c → c = synP t p) := by
  have hc := same_count h0.cn h.cn (by rw [h0.cl, h.cl]) (fun x y hx hy e => h.fin x y (by rw [h0.cl] at hx; exact hx) (by rw [h0.cl] at hy; exact hy) e)
  refine ⟨hc.1, fun e => ?_⟩
  have e := hc.2 e
  have hst := h.st
  rw [List.take_of_length_le hi] at hst
  rw [← e] at hst
  rw [← h.cn]
  exact synP_of hs h.cl h.ref h.syn (cg_of_gens hs hg hst)
end
def b0 (b : Bool) : Nat := match b with | true => 0 | false => 1
set_option maxHeartbeats 2000000 in
theorem ccoa_fn (t : List (List Int)) (p : List Int) (hs : Semi t) (hl : p.length = t.length) (hv : validP p) : QF 85 [.ro (.rows .i64 t), .ro (.ints .i64 p)] (.new (.ints .i64 (synP t p))) := mkQ Try.func85 (by decide +kernel) rfl (Nat.le_of_ble_eq_true rfl) fun _ => by
  have hS := hs.toSh
  have hmost := hs.most
  refine Or.inl (cq (csq_fn t hS) (And.intro rfl trivial) ?_)
  refine And.intro (fun h1 => absurd (show (p.length : Int) = (t.length : Int) by omega) h1) (fun _ => ?_)
  refine Or.inl (cq (pvalid_fn p) (And.intro rfl trivial) ?_)
  refine And.intro (fun h2 => ?_) (fun _ => ?_)
  · have h2 : (!decide (validP p)) = true := h2
    rw [decide_eq_true hv] at h2; cases h2
  have hnn : (t.length : Int) * (t.length : Int) = ((t.length * t.length : Nat) : Int) := by rw [Int.natCast_mul]
  have hn2 : t.length * t.length ≤ 160000 := Nat.mul_le_mul (show t.length ≤ 400 from hmost) hmost
  refine Or.inl ?_
  refine Exists.intro [false, false, false, false, false, false, false, false, false, false, false, false, false, false, true] (And.intro (by decide +kernel) ?_)
  refine cq (cloneI_fn p (by omega)) (And.intro rfl trivial) ?_
  refine And.intro (by omega) ?_
  refine And.intro (by omega) ?_
  refine And.intro (by omega) ?_
  refine And.intro (by omega) ?_
  refine And.intro (by omega) ?_
  refine And.intro (by omega) ?_
  refine And.intro (by omega) ?_
  refine And.intro (by omega) ?_
  refine Or.inl (cq (pcount_fn p) (And.intro rfl trivial) ?_)
  refine Or.inr (Or.inr (ce (cgens_fn t hS) (And.intro rfl trivial) ?_))
  intro gens hg
  refine And.intro (by omega) ?_
  refine And.intro (by omega) ?_
  have ecn : (if validP p then ((classN p : Nat) : Int) else 0) = (classN p : Nat) := if_pos hv
  have hpos := hS.pos
  have hcp : 0 < classN p := cls_some hS hl
  have zr : ∀ n, ∀ x ∈ List.replicate n (0 : Int), x = 0 := fun n x hx => List.eq_of_mem_replicate hx
  have zg : ∀ (n x : Nat), (List.replicate n (0 : Int)).getD x 0 = 0 := fun n x => by simp only [List.getD, List.getElem?_replicate]; split <;> rfl
  have hB0 : CoB t p p := ⟨hl, hv.2, fun _ _ _ _ e => e, fun _ _ _ _ e => e.own⟩
  have hQ0 : SpQ p (List.replicate (t.length : Int).toNat 0) 0 (List.replicate ((t.length : Int) * (t.length : Int)).toNat 0) (List.replicate ((t.length : Int) * (t.length : Int)).toNat 0) (List.replicate (t.length : Int).toNat 0) :=
    ⟨by omega, by simp; omega, fun x hx => by
      obtain ⟨j, hj, rfl⟩ := mem_getD 0 hx
      have := cls_lt hv.2 hj
      have hle : classN p ≤ p.length := firsts_le p
      omega, by simp; omega, fun x hx => by rw [zg]; omega, by rw [List.length_replicate, hnn, Int.toNat_natCast, hl], by rw [List.length_replicate, hnn, Int.toNat_natCast, hl], fun x hx => by rw [zr _ x hx]; omega, fun x hx => by rw [zr _ x hx]; omega, by omega⟩
  refine Exists.intro [] <| lp7 (fun (b : Int) (_ _ : List Int) (_ : Int) (_ _ _ : List Int) => [(9, .int .i64 b)]) (fun _ c s rnd M L im => [(6, .box [.vec 31, .vec 33, .int .i64 (classN c : Nat), .int .i64 rnd, .vec 37, .vec 41]), (31, .vec 0 (.ints .i64 c) []), (33, .vec 0 (.ints .i64 s) []), (37, .vec 0 (.ints .i64 M) []), (41, .vec 0 (.ints .i64 L) []), (49, .vec 0 (.ints .i64 im) [])]) (fun b c s rnd M L im => SpQ c s rnd M L im ∧ CoB t p c ∧ (b ≠ (classN c : Int) → rnd ≤ 800 * (classN c : Int)) ∧ (b = (classN c : Int) → c = synP t p)) (fun b c _ _ _ _ _ => 2 * (t.length - classN c) + b0 (decide (b = (classN c : Int)))) 0 p _ 0 _ _ _ ⟨hQ0, hB0, fun _ => by omega, fun h => by omega⟩ (by repeat' first | refine And.intro ?_ ?_ | exact True.intro | exact ecn | (show (_ : Int) = (_ : Int); omega) | omega | exact rfl) ?_
  rintro b c s rnd M L im ⟨hQ, hB, hrb, hbs⟩
  have hcl := hB.cl
  have hcle : classN c ≤ t.length := by rw [← hcl]; exact firsts_le c
  refine And.intro (fun h1 => ?_) (fun h1 => ?_)
  · have h1 : b ≠ (classN c : Int) := h1
    have hr1 := hrb h1
    refine Exists.intro [] <| lp7 (fun (i : Nat) (_ _ : List Int) (_ : Int) (_ _ _ : List Int) => [(58, .int .i64 i)]) (fun _ d s2 rd M2 L2 im2 => [(6, .box [.vec 31, .vec 33, .int .i64 (classN d : Nat), .int .i64 rd, .vec 37, .vec 41]), (31, .vec 0 (.ints .i64 d) []), (33, .vec 0 (.ints .i64 s2) []), (37, .vec 0 (.ints .i64 M2) []), (41, .vec 0 (.ints .i64 L2) []), (49, .vec 0 (.ints .i64 im2) [])]) (fun i d s2 rd M2 L2 im2 => i ≤ gens.length ∧ SpQ d s2 rd M2 L2 im2 ∧ CoG t p c d gens i ∧ rd ≤ rnd + 2 * (i : Int)) (fun i _ _ _ _ _ _ => gens.length - i) 0 c s rnd M L im ⟨Nat.zero_le _, hQ, CoG.start hB, by omega⟩ (by repeat' first | refine And.intro ?_ ?_ | exact True.intro | (show (_ : Int) = (_ : Int); omega) | omega | exact rfl | (simp only [RO.len]; omega)) ?_
    rintro i d s2 rd M2 L2 im2 ⟨hi, hQ2, hG, hrd⟩
    have hdl := hG.cl
    have hdn : classN d ≤ t.length := by rw [← hdl]; exact firsts_le d
    refine And.intro (fun h2 => ?_) (fun h2 => ?_)
    · have h2 : (i : Int) < (gens.length : Int) := h2
      have hil : i < gens.length := by omega
      have hgr := hg.1.el _ (getD_mem (d := 0) hil)
      have hgl : (gens.getD i 0).toNat < t.length := by omega
      have r1 := hS.len hgl
      have ha : ∀ x, x < t.length → ((t.getD (gens.getD i 0).toNat []).getD x 0).toNat = en t (gens.getD i 0).toNat x := fun x hx => rfl
      have hai : ∀ x, x < d.length → 0 ≤ (t.getD (gens.getD i 0).toNat []).getD x 0 ∧ (t.getD (gens.getD i 0).toNat []).getD x 0 < (d.length : Int) := fun x hx => by have := hS.ent hgl (y := x) (by omega); omega
      have hQa : SpQ d s2 rd M2 L2 (t.getD (gens.getD i 0).toNat []) := { hQ2 with il := by omega, iin := hai }
      refine And.intro (by omega) ?_
      refine And.intro (show 0 ≤ gens.getD i 0 ∧ gens.getD i 0 < (t.length : Int) by omega) ?_
      refine And.intro (show im2.length = (t.getD (gens.getD i 0).toNat []).length by rw [r1, ← hdl]; exact hQ2.il) ?_
      refine Or.inr (Or.inl (cm [] [(1000, 6), (1001, 31), (1002, 33), (1003, 37), (1004, 41), (1005, 49)] (csplit_fn d s2 (classN d : Nat) rd M2 L2 (t.getD (gens.getD i 0).toNat []) hQa) ?_))
      refine And.intro (by repeat' first | refine And.intro ?_ ?_ | exact True.intro | (show (_ : Int) = (_ : Int); omega) | omega | exact rfl | (simp only [RO.len]; omega)) ?_
      refine Exists.intro [] <| lp2 (fun (x : Nat) (_ : List Int) => [(72, .int .i64 x)]) (fun _ I => [(49, .vec 0 (.ints .i64 I) [])]) (fun x I => x ≤ t.length ∧ I.length = t.length ∧ ∀ x', x' < x → I.getD x' 0 = (t.getD x' []).getD (gens.getD i 0).toNat 0) (fun x _ => t.length - x) 0 (t.getD (gens.getD i 0).toNat []) ⟨Nat.zero_le _, r1, fun x h => absurd h (Nat.not_lt_zero _)⟩ (by repeat' first | refine And.intro ?_ ?_ | exact True.intro | (show (_ : Int) = (_ : Int); omega) | omega | exact rfl | (simp only [RO.len]; omega)) ?_
      rintro x I ⟨hx, hIl, hI⟩
      refine And.intro (fun h3 => ?_) (fun h3 => ?_)
      · have h3 : (x : Int) < (t.length : Int) := h3
        have hxl : x < t.length := by omega
        have r2 := hS.len hxl
        refine And.intro (by omega) ?_
        refine And.intro (show 0 ≤ gens.getD i 0 ∧ gens.getD i 0 < ((t.getD x []).length : Int) by omega) ?_
        refine And.intro (show 0 ≤ (x : Int) ∧ (x : Int) < (I.length : Int) by omega) ?_
        refine And.intro (by omega) ?_
        refine And.intro (by omega) ?_
        refine nx (x + 1, I.set x ((t.getD x []).getD (gens.getD i 0).toNat 0)) ⟨by omega, by rw [List.length_set]; exact hIl, fun x' hx' => ?_⟩ (show t.length - (x + 1) < t.length - x by omega) (by repeat' first | refine And.intro ?_ ?_ | exact True.intro | (show (_ : Int) = (_ : Int); omega) | omega | exact rfl | (simp only [RO.len]; omega))
        by_cases e : x' = x
        · subst e; rw [getD_set_eq (by omega)]
        · rw [getD_set_ne (Ne.symm e)]; exact hI x' (by omega)
      · have h3 : (t.length : Int) ≤ (x : Int) := h3
        have hb : ∀ y, y < t.length → (I.getD y 0).toNat = en t y (gens.getD i 0).toNat := fun y hy => by rw [hI y (by omega)]; rfl
        have hbi : ∀ y, y < d.length → 0 ≤ I.getD y 0 ∧ I.getD y 0 < (d.length : Int) := fun y hy => by
          rw [hI y (by omega)]
          have := hS.ent (x := y) (y := (gens.getD i 0).toNat) (by omega) hgl
          omega
        have hQb := hQa.next (im2 := I) (by omega) (by omega) hbi
        have hQc := hQb.next (im2 := I) (by omega) (by rw [spC_len]; omega) (fun y hy => by rw [spC_len] at hy ⊢; exact hbi y hy)
        refine Or.inr (Or.inl (cm [] [(1000, 6), (1001, 33), (1002, 31), (1003, 37), (1004, 41), (1005, 49)] (csplit_fn (spC d (t.getD (gens.getD i 0).toNat [])) d (classN (spC d (t.getD (gens.getD i 0).toNat [])) : Nat) (rd + 1) (spM d (t.getD (gens.getD i 0).toNat []) (rd + 1) M2 L2 d.length).1 (spM d (t.getD (gens.getD i 0).toNat []) (rd + 1) M2 L2 d.length).2 I hQb) ?_))
        refine And.intro (by repeat' first | refine And.intro ?_ ?_ | exact True.intro | (show (_ : Int) = (_ : Int); omega) | omega | exact rfl | (simp only [RO.len]; omega)) ?_
        refine And.intro (by omega) ?_
        exact nx (i + 1, spC (spC d (t.getD (gens.getD i 0).toNat [])) I, spC d (t.getD (gens.getD i 0).toNat []), rd + 1 + 1, _, _, I) ⟨by omega, hQc, hG.next hs hg.1.el hil ha hb, by omega⟩ (show gens.length - (i + 1) < gens.length - i by omega) (by repeat' first | refine And.intro ?_ ?_ | exact True.intro | (show (_ : Int) = (_ : Int); omega) | omega | exact rfl | (simp only [RO.len]; omega))
    · have h2 : (gens.length : Int) ≤ (i : Int) := h2
      have hdn2 := hG.done hs hg.1 hB (by omega)
      refine nx ((classN c : Int), d, s2, rd, M2, L2, im2) ⟨hQ2, hG.toCoB, fun h4 => by omega, fun h4 => hdn2.2 (by omega)⟩ ?_ (by repeat' first | refine And.intro ?_ ?_ | exact True.intro | (show (_ : Int) = (_ : Int); omega) | omega | exact rfl | (simp only [RO.len]; omega))
      show 2 * (t.length - classN d) + b0 (decide ((classN c : Int) = (classN d : Int))) < 2 * (t.length - classN c) + b0 (decide (b = (classN c : Int)))
      rw [decide_eq_false h1]
      show _ < 2 * (t.length - classN c) + 1
      by_cases e : classN c = classN d
      · rw [decide_eq_true (by omega)]
        show 2 * (t.length - classN d) + 0 < _
        omega
      · rw [decide_eq_false (by omega)]
        show 2 * (t.length - classN d) + 1 < _
        omega
  · have h1 : b = (classN c : Int) := h1
    refine And.intro (And.intro (by omega) ?_) trivial
    show RO.ints .i64 c = _
    rw [hbs h1]
end Go.Proofs.Ytpanlghofeebhaa
end
