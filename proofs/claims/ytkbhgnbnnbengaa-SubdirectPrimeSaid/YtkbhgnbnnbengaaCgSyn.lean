import Derived.Test.YtkbhgnbnnbengaaIdealLaw
import Derived.Test.YtkbhgnbnnbengaaClone
import Derived.Test.YtkbhgnbnnbengaaReesLaw
import Derived.Test.YtkbhgnbnnbengaaRefPart
import Derived.Lib.SlicesCompact
import Derived.Test.YtkbhgnbnnbengaaGroup
import Derived.Shelf.Sort.Plain
import Derived.Shelf.Slices.CompactI
import Derived.Test.YtkbhgnbnnbengaaLay
section
/- Rees coordinates of a J-class with an idempotent: what they are, and that they are right. Plain; no program. -/
namespace Go.Proofs.Ytkbhgnbnnbengaa
open Go Go.AM
section
variable (t : List (List Int)) (j e : Nat)
abbrev jcl (x : Nat) : Int := (classJ t).getD x 0
end
structure Coo (t : List (List Int)) (j e : Nat) : Prop where
  semi : Semi t
  hj : j < numJ t
  he : e < t.length
  ee : en t e e = e
  ej : jcl t e = j
namespace Coo
end Coo
end Go.Proofs.Ytkbhgnbnnbengaa
end
section
/- The numbers of a class's rows and columns as a sort makes them; the least idempotent of a class; the first place in a list. Plain; no program. -/
namespace Go.Proofs.Ytkbhgnbnnbengaa
open Go Go.AM
def srtI (l : List Int) : List Int := l.mergeSort fun x y => decide (x ≤ y)
theorem srtI_perm (l : List Int) : (srtI l).Perm l := List.mergeSort_perm l _
theorem srtI_len (l : List Int) : (srtI l).length = l.length := (srtI_perm l).length_eq
theorem srtI_sorted (l : List Int) : (srtI l).Pairwise (· ≤ ·) := by
  have := List.pairwise_mergeSort (le := fun x y : Int => decide (x ≤ y)) (fun a b c h1 h2 => decide_eq_true (Int.le_trans (of_decide_eq_true h1) (of_decide_eq_true h2))) (fun a b => by
    rcases Int.le_total a b with h | h
    · simp [h]
    · simp [h]) l
  exact this.imp fun h => of_decide_eq_true h
end Go.Proofs.Ytkbhgnbnnbengaa
end
section
/- slices.Sort over integers: from the shelf's contract to the abstract machine's. -/
namespace Go.Proofs.Ytkbhgnbnnbengaa
open Go Go.AM Go.Sort Go.Lib Go.RowKit
def sortWd {α : Type} [Inhabited α] (enc : α → Value) (w : World) (b m : Nat) (dk : Array α) (os : Array Obj) : World := grow (putRow enc (Sort.ahead w m) b 0 dk) os
section
variable {w : World} {M : Msk} {b : Nat} {cs : Array Value} {ty : TypeId} (hb : w.heap[b]? = some (.cells cs ty (0, 0)))
include hb
theorem sI_lt : b < w.heap.size := by
  rcases Nat.lt_or_ge b w.heap.size with h | h
  · exact h
  · rw [Array.getElem?_eq_none h] at hb; cases hb
theorem sI_block {α : Type} [Inhabited α] (enc : α → Value) (m : Nat) (dk : Array α) (os : Array Obj) : (sortWd enc w b m dk os).heap[b]? = some (.cells (putCells enc 0 dk cs) ty (0, 0)) := by
  have hlt := sI_lt hb
  show ((putRow enc (Sort.ahead w m) b 0 dk).heap ++ os)[b]? = _
  rw [Array.getElem?_append_left (by rw [size_putRow]; exact hlt)]
  show ((w.heap.modify b (onCells (putCells enc 0 dk))))[b]? = _
  rw [Array.getElem?_modify, if_pos rfl, hb]; rfl
omit hb in
theorem sI_other {α : Type} [Inhabited α] (enc : α → Value) (m : Nat) (dk : Array α) (os : Array Obj) {b' : Nat} (hne : b' ≠ b) (hlt : b' < w.heap.size) : (sortWd enc w b m dk os).heap[b']? = w.heap[b']? := by
  show ((putRow enc (Sort.ahead w m) b 0 dk).heap ++ os)[b']? = _
  rw [Array.getElem?_append_left (by rw [size_putRow]; exact hlt)]
  show ((w.heap.modify b (onCells (putCells enc 0 dk))))[b']? = _
  rw [Array.getElem?_modify, if_neg (Ne.symm hne)]
omit hb in
theorem sI_size {α : Type} [Inhabited α] (enc : α → Value) (m : Nat) (dk : Array α) (os : Array Obj) : (sortWd enc w b m dk os).heap.size = w.heap.size + os.size := by
  show ((putRow enc (Sort.ahead w m) b 0 dk).heap ++ os).size = _
  rw [Array.size_append, size_putRow]; rfl
omit hb in
theorem sIp_size {α : Type} [Inhabited α] (enc : α → Value) (d : Array α) : (putCells enc 0 d cs).size = cs.size := by simp [putCells]
omit hb in
theorem sIp_at {α : Type} [Inhabited α] (enc : α → Value) (d : Array α) {q : Nat} (hq : q < d.size) (hc : q < cs.size) : (putCells enc 0 d cs)[q]? = some (enc d[q]!) := by
  simp [putCells, hq, hc]
theorem sI_stp {α : Type} [Inhabited α] (enc : α → Value) (m : Nat) (dk : Array α) (os : Array Obj) (hM : ∀ off, M b off ↔ off < cs.size) : Stp (fun b' off => b' = b ∧ M b' off) w (sortWd enc w b m dk os) := by
  refine ⟨by rw [sI_size]; omega, fun b' hb' => ?_, ⟨⟨rfl, rfl⟩, rfl, ?_⟩⟩
  · by_cases e : b' = b
    · subst e
      refine .inr (.inl ⟨cs, _, ty, hb, sI_block hb enc m dk os, sIp_size enc dk, fun off hn => ?_⟩)
      have : ¬ off < cs.size := fun h => hn ⟨rfl, (hM off).2 h⟩
      rw [Array.getElem?_eq_none (by rw [sIp_size]; omega), Array.getElem?_eq_none (by omega)]
    · exact .inl (sI_other enc m dk os e hb')
  · show w.drawn ≤ w.drawn + m
    omega
end
theorem sortI_m (l : List Int) (hl : 0 < l.length) :
    MF 93 [.vec 1000] [(1000, .vec 0 (.ints .i64 l) [])] (.tup []) [(1000, .vec 0 (.ints .i64 (srtI l)) [])] := by
  refine ⟨⟨_, Try.func93, by decide +kernel, rfl⟩, fun ρ M w vs st hv => ?_⟩
  obtain ⟨⟨o, ho, hlen, hsz, hlb, _, hblk⟩, _⟩ := st.blk 1000 _ rfl
  have hlen : o.len = l.length := hlen
  have hsz : o.sz = 1 := hsz
  cases hob : o.blk with
  | none =>
    simp only [hob] at hblk
    have : l.length = 0 := hblk.1
    omega
  | some b =>
  simp only [hob] at hblk
  obtain ⟨hcap, cs, ty, hb, hcs, hM, hcell0⟩ := hblk
  have hM : ∀ off, M b off ↔ off < cs.size := fun off => by rw [hM off]; omega
  have hcell : ∀ q, q < l.length → cs[q]? = some (.int .i64 (l.getD q 0)) := fun q hq => by
    obtain ⟨v, h1, h2⟩ := hcell0 q (by simpa [RO.cells, RO.len, RO.sz] using hq)
    have h2 : v = .int .i64 (l.getD q 0) := h2.1
    rw [h1, h2]
  have hcsl : l.length ≤ cs.size := by rw [hcs, hsz]; omega
  match vs, hv with
  | [v0], ⟨h0, _⟩ =>
  obtain ⟨o', ho', rfl⟩ := h0
  rw [ho] at ho'; cases ho'
  have hlt := sI_lt hb
  have hds : l.toArray.size = l.length := by simp
  have hH : Holds (Value.int .i64) w b 0 l.toArray := fun j hj => by
    rw [hds] at hj
    refine ⟨?_, ?_⟩
    · rw [Nat.zero_add, cell_of_heap hb]
      show cs[j]? = some (.int .i64 l.toArray[j]!)
      rw [hcell j hj, getD_eq hj]; simp [hj]
    · simp [World.frozen?, hb]
  have hcall := Any.slices_Sort_int sortI b 0 o.cap l w hH hlt (by have : l.length ≤ 140737488355328 := hlb; omega)
  have hv0 : o.val = .slice (some ⟨b, 0, none⟩) l.length o.cap := by rw [Sl.val, hob, hlen]; rfl
  rw [hv0]
  refine Calls.mono hcall fun e w' ⟨he, n, os, hw⟩ => ?_
  have hw : w' = sortWd (Value.int .i64) w b n (srtI l).toArray os := hw
  subst hw
  refine ⟨_, ρ, M, he, ?_, ⟨#[], rfl, trivial⟩⟩
  have hstp := sI_stp hb (Value.int .i64) n (srtI l).toArray os hM
  refine ⟨fun k => by rw [st.dom k, find_cons, find_cons]; split <;> rfl, fun k B hB => ?_, st.inj, fun b' off hm => by rw [sI_size]; have := st.mlt b' off hm; omega, ?_, st.sub, st.old, st.fresh, st.pin⟩
  · have hk1 : k = 1000 ∧ B = .vec 0 (.ints .i64 (srtI l)) [] := by
      rw [find_cons] at hB
      split at hB
      · rename_i e; cases hB; exact ⟨e.symm, rfl⟩
      · cases hB
    obtain ⟨rfl, rfl⟩ := hk1
    refine ⟨⟨o, ho, by rw [hlen]; exact (srtI_len l).symm, hsz, by show (srtI l).length ≤ LB; rw [srtI_len]; exact hlb, Nat.zero_le _, ?_⟩, .inl rfl⟩
    simp only [hob]
    refine ⟨hcap, putCells (Value.int .i64) 0 (srtI l).toArray cs, ty, sI_block hb (Value.int .i64) n (srtI l).toArray os, by rw [sIp_size]; exact hcs, fun off => by rw [sIp_size, hM off]; omega, fun q hq => ?_⟩
    have hq : q < l.length := by simpa [RO.cells, RO.len, RO.sz, srtI_len] using hq
    refine ⟨.int .i64 ((srtI l).toArray[q]!), sIp_at (Value.int .i64) (srtI l).toArray (by simp [srtI_len]; omega) (by omega), ?_⟩
    have hq' : q < (srtI l).length := by rw [srtI_len]; exact hq
    have e1 : (srtI l).toArray[q]! = (srtI l).getD q 0 := by rw [getD_eq hq']; simp [hq']
    rw [e1]
    obtain ⟨i, hi, he⟩ := mem_getD 0 ((srtI_perm l).mem_iff.1 (getD_mem (d := 0) hq'))
    obtain ⟨v, _, h2⟩ := hcell0 i (by simpa [RO.cells, RO.len, RO.sz] using hi)
    show Value.int .i64 ((srtI l).getD q 0) = Value.int .i64 ((srtI l).getD q 0) ∧ inK .i64 ((srtI l).getD q 0)
    rw [← he]
    exact ⟨rfl, h2.2⟩
  · refine hstp.weaken fun b' off he => ?_
    obtain ⟨rfl, hm⟩ := he
    exact ⟨⟨1000, by simp [hasB, ho, Own.has, hob]⟩, hm⟩
end Go.Proofs.Ytkbhgnbnnbengaa
end
section
/- Package congr: the coarsest congruence in a partition: contract. -/
namespace Go.Proofs.Ytkbhgnbnnbengaa
open Go Go.AM
set_option maxRecDepth 100000
theorem csq_fn (t : List (List Int)) (h : Sh t) : QF 71 [.ro (.rows .i64 t)] (.bool (.lit true)) := mkQ Try.func71 (by decide +kernel) rfl (Nat.le_of_ble_eq_true rfl) fun _ => by
  have hmost := h.most
  have hpos := h.pos
  refine And.intro (fun h1 => absurd (show (t.length : Int) = 0 from h1) (by omega)) (fun _ => ?_)
  refine And.intro (fun h1 => absurd (show (400 : Int) < (t.length : Int) from h1) (by omega)) (fun _ => ?_)
  refine Exists.intro [] <| lp (X := Nat) (fun x => [(17, .int .i64 x)]) (fun _ => []) (fun x => x ≤ t.length) (fun x => t.length - x) 0 (Nat.zero_le _) (by repeat' first | refine And.intro ?_ ?_ | exact True.intro | (show (_ : Int) = (_ : Int); omega) | omega | exact rfl | (simp only [RO.len]; omega)) ?_
  intro x hx
  refine And.intro (fun h1 => ?_) (fun h1 => ?_)
  · have h1 : (x : Int) < (t.length : Int) := h1
    have hxl : x < t.length := by omega
    have r1 := h.len hxl
    refine And.intro (by omega) ?_
    refine And.intro (fun h2 => absurd (show ((t.getD x []).length : Int) = (t.length : Int) by rw [r1]) h2) (fun _ => ?_)
    refine Exists.intro [] <| lp (X := Nat) (fun y => [(28, .int .i64 y)]) (fun _ => []) (fun y => y ≤ t.length) (fun y => t.length - y) 0 (Nat.zero_le _) (by repeat' first | refine And.intro ?_ ?_ | exact True.intro | (show (_ : Int) = (_ : Int); omega) | omega | exact rfl | (simp only [RO.len]; omega)) ?_
    intro y hy
    refine And.intro (fun h3 => ?_) (fun h3 => ?_)
    · have h3 : (y : Int) < ((t.getD x []).length : Int) := h3
      have e1 := h.ent hxl (y := y) (by omega)
      refine And.intro (by omega) ?_
      refine And.intro (fun h4 => absurd (show (t.getD x []).getD y 0 < 0 from h4) (by omega)) (fun _ => ?_)
      refine And.intro (fun h4 => absurd (show (t.length : Int) ≤ (t.getD x []).getD y 0 from h4) (by omega)) (fun _ => ?_)
      refine And.intro (by omega) ?_
      exact nx (y + 1) (show y + 1 ≤ _ by omega) (show t.length - (y + 1) < t.length - y by omega) (by repeat' first | refine And.intro ?_ ?_ | exact True.intro | (show (_ : Int) = (_ : Int); omega) | omega | exact rfl | (simp only [RO.len]; omega))
    · have h3 : ((t.getD x []).length : Int) ≤ (y : Int) := h3
      refine And.intro (by omega) ?_
      exact nx (x + 1) (show x + 1 ≤ _ by omega) (show t.length - (x + 1) < t.length - x by omega) (by repeat' first | refine And.intro ?_ ?_ | exact True.intro | (show (_ : Int) = (_ : Int); omega) | omega | exact rfl | (simp only [RO.len]; omega))
  · exact And.intro rfl trivial
/-! ### Plain: the splitting comes to an end -/
end Go.Proofs.Ytkbhgnbnnbengaa
end
