import Derived.Test.YtpanlghofeebhaaGreatGrpLaw
import Derived.Test.YtpanlghofeebhaaGreatRefPart
import Derived.Lib.SlicesCompact
import Derived.Test.YtpanlghofeebhaaGreatEqvLaw
import Derived.Test.YtpanlghofeebhaaGreatMult
import Derived.Shelf.Sort.Plain
import Derived.Shelf.Slices.CompactI
import Derived.Test.YtpanlghofeebhaaGreatLay
import Derived.Test.YtpanlghofeebhaaGreatIdealLaw
import Derived.Test.YtpanlghofeebhaaGreatSgpLaw
section
/- Minimal one-sided ideals: plain. -/
namespace Go.Proofs.YtpanlghofeebhaaGreat
open Go Go.AM
def oneL (t : List (List Int)) (F : (Nat → Bool) → Nat → Bool) (x : Nat) : List Int := ascV t.length (F (setI [(x : Int)]))
end Go.Proofs.YtpanlghofeebhaaGreat
end
section
/- The kernel: its minimal one-sided ideals, and the groups where they meet: plain. -/
namespace Go.Proofs.YtpanlghofeebhaaGreat
open Go Go.AM
theorem sub_all {α : Type} [DecidableEq α] {A B : List α} (hA : A.Nodup) (h : ∀ x ∈ A, x ∈ B) (hl : B.length ≤ A.length) : ∀ x ∈ B, x ∈ A := fun x hx => by
  rcases Decidable.em (x ∈ A) with e | e
  · exact e
  · have : (x :: A).length ≤ B.length := (List.nodup_cons.2 ⟨e, hA⟩).length_le_of_subset fun y hy => by
      rcases List.mem_cons.1 hy with rfl | hy
      · exact hx
      · exact h y hy
    simp at this; omega
end Go.Proofs.YtpanlghofeebhaaGreat
end
section
/- Rees coordinates of a J-class with an idempotent: what they are, and that they are right. Plain; no program. -/
namespace Go.Proofs.YtpanlghofeebhaaGreat
open Go Go.AM
section
variable (t : List (List Int)) (j e : Nat)
abbrev jcl (x : Nat) : Int := (classJ t).getD x 0
end
structure Coo (t : List (List Int)) (j e : Nat) : Prop where
  semi : Semi t
  hj : j < numJ t
  he : e < t.length
  ee : en t e e = e
  ej : jcl t e = j
namespace Coo
end Coo
end Go.Proofs.YtpanlghofeebhaaGreat
end
section
/- The numbers of a class's rows and columns as a sort makes them; the least idempotent of a class; the first place in a list. Plain; no program. -/
namespace Go.Proofs.YtpanlghofeebhaaGreat
open Go Go.AM
def srtI (l : List Int) : List Int := l.mergeSort fun x y => decide (x ≤ y)
theorem srtI_perm (l : List Int) : (srtI l).Perm l := List.mergeSort_perm l _
theorem srtI_len (l : List Int) : (srtI l).length = l.length := (srtI_perm l).length_eq
theorem srtI_sorted (l : List Int) : (srtI l).Pairwise (· ≤ ·) := by
  have := List.pairwise_mergeSort (le := fun x y : Int => decide (x ≤ y)) (fun a b c h1 h2 => decide_eq_true (Int.le_trans (of_decide_eq_true h1) (of_decide_eq_true h2))) (fun a b => by
    rcases Int.le_total a b with h | h
    · simp [h]
    · simp [h]) l
  exact this.imp fun h => of_decide_eq_true h
def cpI (l : List Int) : List Int := Go.Lib.compact l
theorem cpI_len (l : List Int) : (cpI l).length ≤ l.length := by
  unfold cpI Go.Lib.compact Go.Lib.compactUpTo
  rw [List.length_map]
  refine Nat.le_trans (List.length_filter_le _ _) ?_
  simp
theorem cpI_mem (l : List Int) : ∀ x ∈ cpI l, x ∈ l := fun x hx => by
  unfold cpI Go.Lib.compact Go.Lib.compactUpTo at hx
  obtain ⟨j, hj, rfl⟩ := List.mem_map.1 hx
  have hj := List.mem_range.1 (List.mem_filter.1 hj).1
  simp [hj]
theorem cp_spec {l : List Int} (hs : l.Pairwise (· ≤ ·)) : ∀ m, m ≤ l.length → (Go.Lib.compactUpTo l.toArray m).Pairwise (· < ·) ∧ ∀ x, x ∈ Go.Lib.compactUpTo l.toArray m ↔ ∃ j, j < m ∧ l.getD j 0 = x := by
  intro m
  induction m with
  | zero => intro _; exact ⟨by simp [Go.Lib.compactUpTo], fun x => by simp [Go.Lib.compactUpTo]⟩
  | succ m ih =>
    intro hm
    obtain ⟨h1, h2⟩ := ih (by omega)
    have le : ∀ i j, i ≤ j → j < l.length → l.getD i 0 ≤ l.getD j 0 := fun i j hij hj => by
      rcases Nat.lt_or_ge i j with h | h
      · rw [getD_eq (by omega), getD_eq hj]; exact List.pairwise_iff_getElem.1 hs i j (by omega) hj h
      · rw [show i = j by omega]; exact Int.le_refl _
    have at_ : ∀ i, i < l.length → l.toArray[i]! = l.getD i 0 := fun i hi => by rw [getD_eq hi]; simp [hi]
    rw [Go.Lib.compactUpTo_succ]
    cases hk : Go.Lib.keeps l.toArray m with
    | true =>
      have hk' : m = 0 ∨ l.toArray[m]! ≠ l.toArray[m - 1]! := of_decide_eq_true hk
      rw [if_pos rfl, at_ m hm]
      refine ⟨?_, fun x => ?_⟩
      · rw [List.pairwise_append]
        refine ⟨h1, by simp, fun a ha b hb => ?_⟩
        have hb : b = l.getD m 0 := by simpa using hb
        obtain ⟨j, hj, rfl⟩ := (h2 a).1 ha
        have h3 := le j (m - 1) (by omega) (by omega)
        have h4 := le (m - 1) m (by omega) hm
        have h5 := hk'.resolve_left (by omega)
        rw [at_ m hm, at_ (m - 1) (by omega)] at h5
        omega
      · rw [List.mem_append, h2]
        constructor
        · rintro (⟨j, hj, e⟩ | e)
          · exact ⟨j, by omega, e⟩
          · exact ⟨m, by omega, by simpa using Eq.symm (by simpa using e)⟩
        · rintro ⟨j, hj, e⟩
          rcases Nat.lt_or_ge j m with h | h
          · exact .inl ⟨j, h, e⟩
          · obtain rfl : j = m := by omega
            exact .inr (by simp [← e])
    | false =>
      have hk' : ¬ (m = 0 ∨ l.toArray[m]! ≠ l.toArray[m - 1]!) := of_decide_eq_false hk
      have h0 : m ≠ 0 := fun e => hk' (.inl e)
      have h3 : l.getD m 0 = l.getD (m - 1) 0 := by
        have := Classical.not_not.1 fun h => hk' (.inr h)
        rw [at_ m hm, at_ (m - 1) (by omega)] at this; exact this
      rw [if_neg (by simp), List.append_nil]
      refine ⟨h1, fun x => ?_⟩
      rw [h2]
      constructor
      · rintro ⟨j, hj, e⟩; exact ⟨j, by omega, e⟩
      · rintro ⟨j, hj, e⟩
        rcases Nat.lt_or_ge j m with h | h
        · exact ⟨j, h, e⟩
        · obtain rfl : j = m := by omega
          exact ⟨j - 1, by omega, by rw [← h3]; exact e⟩
theorem cpsrt_mem (l : List Int) (x : Int) : x ∈ cpI (srtI l) ↔ x ∈ l := by
  unfold cpI Go.Lib.compact
  rw [(cp_spec (srtI_sorted l) _ (Nat.le_refl _)).2, ← (srtI_perm l).mem_iff]
  constructor
  · rintro ⟨j, hj, rfl⟩; exact getD_mem hj
  · intro h; exact mem_getD 0 h
def idxF (f : Int → Bool) (l : List Int) : Int := if l.findIdx f < l.length then ((l.findIdx f : Nat) : Int) else -1
def idmB (t : List (List Int)) (x : Int) : Bool := decide (en t x.toNat x.toNat = x.toNat)
def eI (t : List (List Int)) (j : Nat) : Int := idxF (idmB t) (elemsJ t j)
end Go.Proofs.YtpanlghofeebhaaGreat
end
section
/- slices.Sort over integers: from the shelf's contract to the abstract machine's. -/
namespace Go.Proofs.YtpanlghofeebhaaGreat
open Go Go.AM Go.Sort Go.Lib Go.RowKit
def sortWd {α : Type} [Inhabited α] (enc : α → Value) (w : World) (b m : Nat) (dk : Array α) (os : Array Obj) : World := grow (putRow enc (Sort.ahead w m) b 0 dk) os
section
variable {w : World} {M : Msk} {b : Nat} {cs : Array Value} {ty : TypeId} (hb : w.heap[b]? = some (.cells cs ty (0, 0)))
include hb
theorem sI_lt : b < w.heap.size := by
  rcases Nat.lt_or_ge b w.heap.size with h | h
  · exact h
  · rw [Array.getElem?_eq_none h] at hb; cases hb
theorem sI_block {α : Type} [Inhabited α] (enc : α → Value) (m : Nat) (dk : Array α) (os : Array Obj) : (sortWd enc w b m dk os).heap[b]? = some (.cells (putCells enc 0 dk cs) ty (0, 0)) := by
  have hlt := sI_lt hb
  show ((putRow enc (Sort.ahead w m) b 0 dk).heap ++ os)[b]? = _
  rw [Array.getElem?_append_left (by rw [size_putRow]; exact hlt)]
  show ((w.heap.modify b (onCells (putCells enc 0 dk))))[b]? = _
  rw [Array.getElem?_modify, if_pos rfl, hb]; rfl
omit hb in
theorem sI_other {α : Type} [Inhabited α] (enc : α → Value) (m : Nat) (dk : Array α) (os : Array Obj) {b' : Nat} (hne : b' ≠ b) (hlt : b' < w.heap.size) : (sortWd enc w b m dk os).heap[b']? = w.heap[b']? := by
  show ((putRow enc (Sort.ahead w m) b 0 dk).heap ++ os)[b']? = _
  rw [Array.getElem?_append_left (by rw [size_putRow]; exact hlt)]
  show ((w.heap.modify b (onCells (putCells enc 0 dk))))[b']? = _
  rw [Array.getElem?_modify, if_neg (Ne.symm hne)]
omit hb in
theorem sI_size {α : Type} [Inhabited α] (enc : α → Value) (m : Nat) (dk : Array α) (os : Array Obj) : (sortWd enc w b m dk os).heap.size = w.heap.size + os.size := by
  show ((putRow enc (Sort.ahead w m) b 0 dk).heap ++ os).size = _
  rw [Array.size_append, size_putRow]; rfl
omit hb in
theorem sIp_size {α : Type} [Inhabited α] (enc : α → Value) (d : Array α) : (putCells enc 0 d cs).size = cs.size := by simp [putCells]
omit hb in
theorem sIp_at {α : Type} [Inhabited α] (enc : α → Value) (d : Array α) {q : Nat} (hq : q < d.size) (hc : q < cs.size) : (putCells enc 0 d cs)[q]? = some (enc d[q]!) := by
  simp [putCells, hq, hc]
theorem sI_stp {α : Type} [Inhabited α] (enc : α → Value) (m : Nat) (dk : Array α) (os : Array Obj) (hM : ∀ off, M b off ↔ off < cs.size) : Stp (fun b' off => b' = b ∧ M b' off) w (sortWd enc w b m dk os) := by
  refine ⟨by rw [sI_size]; omega, fun b' hb' => ?_, ⟨⟨rfl, rfl⟩, rfl, ?_⟩⟩
  · by_cases e : b' = b
    · subst e
      refine .inr (.inl ⟨cs, _, ty, hb, sI_block hb enc m dk os, sIp_size enc dk, fun off hn => ?_⟩)
      have : ¬ off < cs.size := fun h => hn ⟨rfl, (hM off).2 h⟩
      rw [Array.getElem?_eq_none (by rw [sIp_size]; omega), Array.getElem?_eq_none (by omega)]
    · exact .inl (sI_other enc m dk os e hb')
  · show w.drawn ≤ w.drawn + m
    omega
end
theorem sortI_m (l : List Int) (hl : 0 < l.length) :
    MF 116 [.vec 1000] [(1000, .vec 0 (.ints .i64 l) [])] (.tup []) [(1000, .vec 0 (.ints .i64 (srtI l)) [])] := by
  refine ⟨⟨_, Tryz.func116, by decide +kernel, rfl⟩, fun ρ M w vs st hv => ?_⟩
  obtain ⟨⟨o, ho, hlen, hsz, hlb, _, hblk⟩, _⟩ := st.blk 1000 _ rfl
  have hlen : o.len = l.length := hlen
  have hsz : o.sz = 1 := hsz
  cases hob : o.blk with
  | none =>
    simp only [hob] at hblk
    have : l.length = 0 := hblk.1
    omega
  | some b =>
  simp only [hob] at hblk
  obtain ⟨hcap, cs, ty, hb, hcs, hM, hcell0⟩ := hblk
  have hM : ∀ off, M b off ↔ off < cs.size := fun off => by rw [hM off]; omega
  have hcell : ∀ q, q < l.length → cs[q]? = some (.int .i64 (l.getD q 0)) := fun q hq => by
    obtain ⟨v, h1, h2⟩ := hcell0 q (by simpa [RO.cells, RO.len, RO.sz] using hq)
    have h2 : v = .int .i64 (l.getD q 0) := h2.1
    rw [h1, h2]
  have hcsl : l.length ≤ cs.size := by rw [hcs, hsz]; omega
  match vs, hv with
  | [v0], ⟨h0, _⟩ =>
  obtain ⟨o', ho', rfl⟩ := h0
  rw [ho] at ho'; cases ho'
  have hlt := sI_lt hb
  have hds : l.toArray.size = l.length := by simp
  have hH : Holds (Value.int .i64) w b 0 l.toArray := fun j hj => by
    rw [hds] at hj
    refine ⟨?_, ?_⟩
    · rw [Nat.zero_add, cell_of_heap hb]
      show cs[j]? = some (.int .i64 l.toArray[j]!)
      rw [hcell j hj, getD_eq hj]; simp [hj]
    · simp [World.frozen?, hb]
  have hcall := Any.slices_Sort_int sortI b 0 o.cap l w hH hlt (by have : l.length ≤ 140737488355328 := hlb; omega)
  have hv0 : o.val = .slice (some ⟨b, 0, none⟩) l.length o.cap := by rw [Sl.val, hob, hlen]; rfl
  rw [hv0]
  refine Calls.mono hcall fun e w' ⟨he, n, os, hw⟩ => ?_
  have hw : w' = sortWd (Value.int .i64) w b n (srtI l).toArray os := hw
  subst hw
  refine ⟨_, ρ, M, he, ?_, ⟨#[], rfl, trivial⟩⟩
  have hstp := sI_stp hb (Value.int .i64) n (srtI l).toArray os hM
  refine ⟨fun k => by rw [st.dom k, find_cons, find_cons]; split <;> rfl, fun k B hB => ?_, st.inj, fun b' off hm => by rw [sI_size]; have := st.mlt b' off hm; omega, ?_, st.sub, st.old, st.fresh, st.pin⟩
  · have hk1 : k = 1000 ∧ B = .vec 0 (.ints .i64 (srtI l)) [] := by
      rw [find_cons] at hB
      split at hB
      · rename_i e; cases hB; exact ⟨e.symm, rfl⟩
      · cases hB
    obtain ⟨rfl, rfl⟩ := hk1
    refine ⟨⟨o, ho, by rw [hlen]; exact (srtI_len l).symm, hsz, by show (srtI l).length ≤ LB; rw [srtI_len]; exact hlb, Nat.zero_le _, ?_⟩, .inl rfl⟩
    simp only [hob]
    refine ⟨hcap, putCells (Value.int .i64) 0 (srtI l).toArray cs, ty, sI_block hb (Value.int .i64) n (srtI l).toArray os, by rw [sIp_size]; exact hcs, fun off => by rw [sIp_size, hM off]; omega, fun q hq => ?_⟩
    have hq : q < l.length := by simpa [RO.cells, RO.len, RO.sz, srtI_len] using hq
    refine ⟨.int .i64 ((srtI l).toArray[q]!), sIp_at (Value.int .i64) (srtI l).toArray (by simp [srtI_len]; omega) (by omega), ?_⟩
    have hq' : q < (srtI l).length := by rw [srtI_len]; exact hq
    have e1 : (srtI l).toArray[q]! = (srtI l).getD q 0 := by rw [getD_eq hq']; simp [hq']
    rw [e1]
    obtain ⟨i, hi, he⟩ := mem_getD 0 ((srtI_perm l).mem_iff.1 (getD_mem (d := 0) hq'))
    obtain ⟨v, _, h2⟩ := hcell0 i (by simpa [RO.cells, RO.len, RO.sz] using hi)
    show Value.int .i64 ((srtI l).getD q 0) = Value.int .i64 ((srtI l).getD q 0) ∧ inK .i64 ((srtI l).getD q 0)
    rw [← he]
    exact ⟨rfl, h2.2⟩
  · refine hstp.weaken fun b' off he => ?_
    obtain ⟨rfl, hm⟩ := he
    exact ⟨⟨1000, by simp [hasB, ho, Own.has, hob]⟩, hm⟩
theorem compactI_m (l : List Int) (hl : 0 < l.length) :
    MF 117 [.vec 1] [(1, .vec 0 (.ints .i64 l) [])] (.vec 1) [(1, .vec 0 (.ints .i64 (cpI l)) [])] := by
  refine ⟨⟨_, Tryz.func117, by decide +kernel, rfl⟩, fun ρ M w vs st hv => ?_⟩
  obtain ⟨⟨o, ho, hlen, hsz, hlb, _, hblk⟩, _⟩ := st.blk 1 _ rfl
  have hlen : o.len = l.length := hlen
  have hsz : o.sz = 1 := hsz
  have hdom : ∀ k, k ≠ 1 → ρ k = none := fun k hk => by
    have := st.dom k
    rw [find_cons, if_neg (Ne.symm hk)] at this
    cases hr : ρ k with
    | none => rfl
    | some _ => rw [hr] at this; cases this
  cases hob : o.blk with
  | none =>
    simp only [hob] at hblk
    have : l.length = 0 := hblk.1
    omega
  | some b =>
  simp only [hob] at hblk
  obtain ⟨hcap, cs, ty, hb, hcs, hM, hcell0⟩ := hblk
  have hM : ∀ off, M b off ↔ off < cs.size := fun off => by rw [hM off]; omega
  have hcell : ∀ q, q < l.length → cs[q]? = some (.int .i64 (l.getD q 0)) := fun q hq => by
    obtain ⟨v, h1, h2⟩ := hcell0 q (by simpa [RO.cells, RO.len, RO.sz] using hq)
    have h2 : v = .int .i64 (l.getD q 0) := h2.1
    rw [h1, h2]
  have hcsl : l.length ≤ cs.size := by rw [hcs, hsz]; omega
  match vs, hv with
  | [v0], ⟨h0, _⟩ =>
  obtain ⟨o', ho', rfl⟩ := h0
  rw [ho] at ho'; cases ho'
  have hlt := sI_lt hb
  have hds : l.toArray.size = l.length := by simp
  have hH : Holds (Value.int .i64) w b 0 l.toArray := fun j hj => by
    rw [hds] at hj
    refine ⟨?_, ?_⟩
    · rw [Nat.zero_add, cell_of_heap hb]
      show cs[j]? = some (.int .i64 l.toArray[j]!)
      rw [hcell j hj, getD_eq hj]; simp [hj]
    · simp [World.frozen?, hb]
  have hcall := Any.slices_Compact_int cpctI b 0 o.cap l w hH (by have : l.length ≤ 140737488355328 := hlb; omega) (by omega)
  have hv0 : o.val = .slice (some ⟨b, 0, none⟩) l.length o.cap := by rw [Sl.val, hob, hlen]; rfl
  rw [hv0]
  refine Calls.mono hcall fun e w' ⟨he, n, hw⟩ => ?_
  have hgrow : ∀ x : World, grow x #[] = x := fun x => by simp [grow]
  have hcl := cpI_len l
  have hmem := cpI_mem l
  have he : e = .returned (.slice (some ⟨b, 0, none⟩) (cpI l).length o.cap) := he
  have hw : w' = putRow (Value.int .i64) (Sort.ahead w n) b 0 (cpI l ++ List.replicate (l.length - (cpI l).length) 0).toArray := hw
  obtain ⟨A, hA⟩ : ∃ A, A = cpI l ++ List.replicate (l.length - (cpI l).length) 0 := ⟨_, rfl⟩
  rw [← hA] at hw
  have hall : A.length = l.length := by rw [hA]; simp; omega
  have hAq : ∀ q, q < (cpI l).length → A.getD q 0 = (cpI l).getD q 0 := fun q hq => by
    rw [hA, getD_eq hq, getD_eq (by rw [List.length_append]; omega), List.getElem_append_left hq]
  clear hA
  obtain ⟨C, hC⟩ : ∃ C, C = cpI l := ⟨_, rfl⟩
  rw [← hC] at hAq hmem hcl he ⊢
  clear hC
  have hw : w' = sortWd (Value.int .i64) w b n A.toArray #[] := by unfold sortWd; rw [hgrow]; exact hw
  subst hw
  have hstp := sI_stp hb (Value.int .i64) n A.toArray #[] hM
  refine ⟨_, fun k => if k = 1 then some (.sl { o with len := C.length }) else ρ k, M, he, ?_, ⟨{ o with len := C.length }, by simp [Own.sli], ?_⟩⟩
  · have hhas : ∀ k b', hasB (fun k => if k = 1 then some (.sl { o with len := C.length }) else ρ k) k b' → k = 1 ∧ b' = b := fun k b' h => by
      unfold hasB at h
      by_cases e : k = 1
      · refine ⟨e, ?_⟩
        simp only [e, if_true, Own.has, hob] at h
        exact (Option.some.inj h).symm
      · simp only [e, if_false, hdom k e] at h
    refine ⟨fun k => ?_, fun k B hB => ?_, fun k k' b' h1 h2 => by rw [(hhas k b' h1).1, (hhas k' b' h2).1], fun b' off hm => by rw [sI_size]; have := st.mlt b' off hm; omega, ?_, st.sub, st.old, fun k b' h => .inr ⟨1, by rw [(hhas k b' h).2]; simp [hasB, ho, Own.has, hob]⟩, fun k o2 hk h => ?_⟩
    · by_cases e : k = 1
      · simp [e, find_cons]
      · simp only [e, if_false, find_cons]; rw [if_neg (Ne.symm e), hdom k e]; rfl
    · have hk1 : k = 1 ∧ B = .vec 0 (.ints .i64 C) [] := by
        rw [find_cons] at hB
        split at hB
        · rename_i e; cases hB; exact ⟨e.symm, rfl⟩
        · cases hB
      obtain ⟨rfl, rfl⟩ := hk1
      refine ⟨⟨{ o with len := C.length }, by simp, rfl, hsz, by show C.length ≤ LB; exact Nat.le_trans hcl hlb, Nat.zero_le _, ?_⟩, .inl rfl⟩
      simp only [hob]
      refine ⟨by omega, putCells (Value.int .i64) 0 A.toArray cs, ty, sI_block hb (Value.int .i64) n A.toArray #[], by rw [sIp_size]; exact hcs, fun off => by rw [sIp_size, hM off]; omega, fun q hq => ?_⟩
      have hq : q < C.length := by simpa [RO.cells, RO.len, RO.sz] using hq
      refine ⟨.int .i64 (A.toArray[q]!), sIp_at (Value.int .i64) A.toArray (by rw [List.size_toArray, hall]; omega) (by omega), ?_⟩
      have e1 : A.toArray[q]! = C.getD q 0 := by
        rw [← hAq q hq, getD_eq (show q < A.length by omega), getElem!_pos A.toArray q (by rw [List.size_toArray, hall]; omega)]
        simp
      rw [e1]
      obtain ⟨i, hi, he⟩ := mem_getD 0 (hmem _ (getD_mem (d := 0) hq))
      obtain ⟨v, _, h2⟩ := hcell0 i (by simpa [RO.cells, RO.len, RO.sz] using hi)
      show Value.int .i64 (C.getD q 0) = Value.int .i64 (C.getD q 0) ∧ inK .i64 (C.getD q 0)
      rw [← he]
      exact ⟨rfl, h2.2⟩
    · refine hstp.weaken fun b' off he => ?_
      obtain ⟨rfl, hm⟩ := he
      exact ⟨⟨1, by simp [hasB, ho, Own.has, hob]⟩, hm⟩
    · have e : k ≠ 1 := fun e => by subst e; cases hk
      simp only [e, if_false, hdom k e] at h
      cases h
  · simp [Sl.val, hob]
end Go.Proofs.YtpanlghofeebhaaGreat
end
section
/- Is a numbering of a J-class an isomorphism onto a matrix semigroup? Plain; no program. -/
namespace Go.Proofs.YtpanlghofeebhaaGreat
open Go Go.AM
attribute [local instance] Classical.propDecidable
end Go.Proofs.YtpanlghofeebhaaGreat
end
section
/- The reference of ideals: its contracts (generated ideals, the kernel, which lists are ideals). -/
namespace Go.Proofs.YtpanlghofeebhaaGreat
open Go Go.AM
set_option maxRecDepth 100000
theorem rasc_k (t : List (List Int)) (l : List Int) (hll : l.length ≤ 140737488355328) : fnK TY SP Tryz.f56 [.ro (.rows .i64 t), .ro (.ints .i64 l)] (.bool (.v (ascB t l))) := by
  refine Exists.intro [] <| lp (X := Nat) (fun i => [(9, .int .i64 i)]) (fun _ => []) (fun i => AscTo t l i) (fun i => l.length - i) 0 .start (by repeat' first | refine And.intro ?_ ?_ | exact True.intro | (show (_ : Int) = (_ : Int); omega) | omega | exact rfl | (simp only [RO.len]; omega)) ?_
  intro i H
  have hi := H.le
  refine And.intro (fun h1 => ?_) (fun h1 => ?_)
  · have hil : i < l.length := by omega
    have no : ¬ (0 ≤ l.getD i 0 ∧ l.getD i 0 < (t.length : Int)) → false = ascB t l := fun hn => (ascB_false.2 fun hh => hn (hh.2.2 _ (getD_mem hil))).symm
    refine And.intro (by omega) ?_
    refine And.intro (fun h2 => ?_) (fun h2 => ?_)
    · have h2 : l.getD i 0 < 0 := h2
      exact And.intro (no (by omega)) trivial
    · have h2 : 0 ≤ l.getD i 0 := h2
      refine And.intro (fun h3 => ?_) (fun h3 => ?_)
      · have h3 : (t.length : Int) ≤ l.getD i 0 := h3
        exact And.intro (no (by omega)) trivial
      · have h3 : l.getD i 0 < (t.length : Int) := h3
        refine And.intro (fun h4 => ?_) (fun h4 => ?_)
        · refine And.intro (by omega) ?_
          refine And.intro (by omega) ?_
          have e1 : ((i : Int) - 1).toNat = i - 1 := by omega
          refine And.intro (fun h5 => ?_) (fun h5 => ?_)
          · have h5 : l.getD i 0 ≤ l.getD ((i : Int) - 1).toNat 0 := h5
            rw [e1] at h5
            refine And.intro ?_ trivial
            refine (ascB_false.2 fun hh => ?_).symm
            have := hh.2.1 (i - 1) (by omega)
            rw [show i - 1 + 1 = i by omega] at this
            omega
          · have h5 : l.getD ((i : Int) - 1).toNat 0 < l.getD i 0 := h5
            rw [e1] at h5
            refine And.intro (by omega) ?_
            exact nx (i + 1) (H.next hil h2 h3 fun _ => h5) (show l.length - (i + 1) < l.length - i by omega) (by repeat' first | refine And.intro ?_ ?_ | exact True.intro | (show (_ : Int) = (_ : Int); omega) | omega | exact rfl | (simp only [RO.len]; omega))
        · refine And.intro (by omega) ?_
          exact nx (i + 1) (H.next hil h2 h3 fun _ => by omega) (show l.length - (i + 1) < l.length - i by omega) (by repeat' first | refine And.intro ?_ ?_ | exact True.intro | (show (_ : Int) = (_ : Int); omega) | omega | exact rfl | (simp only [RO.len]; omega))
  · obtain ⟨hasc, hin⟩ := H.done (by omega)
    refine And.intro ?_ trivial
    show decide ((0 : Int) < (l.length : Int)) = ascB t l
    by_cases h0 : 0 < l.length
    · rw [ascB_true.2 ⟨h0, hasc, hin⟩]
      exact decide_eq_true (by omega)
    · rw [ascB_false.2 fun hh => h0 hh.1]
      exact decide_eq_false (by omega)
theorem rasc_fn (t : List (List Int)) (l : List Int) : QF 56 [.ro (.rows .i64 t), .ro (.ints .i64 l)] (.bool (.v (ascB t l))) := mkQ Tryz.func56 (by decide +kernel) rfl (Nat.le_of_ble_eq_true rfl) fun hf => rasc_k t l hf.2.1.1
end Go.Proofs.YtpanlghofeebhaaGreat
end
section
/- The reference's Sub of a closed ascending part, and the numbers of the classes that a list meets: contracts. -/
namespace Go.Proofs.YtpanlghofeebhaaGreat
open Go Go.AM
set_option maxRecDepth 100000
set_option maxHeartbeats 1000000
theorem rsub_fn (t : List (List Int)) (h : Semi t) (l : List Int) (hl : ClL t l) (hln : l.length ≤ t.length) : QF 32 [.ro (.rows .i64 t), .ro (.ints .i64 l)] (.tup [.ro (.rows .i64 (subT t l)), .int .i64 0]) := mkQ Tryz.func32 (by decide +kernel) rfl (Nat.le_of_ble_eq_true rfl) fun _ => by
  have hmost := h.most
  have hpos := hl.pos
  have hst := subT_len t l
  refine Or.inl (cq (rvalidate_fn t) (And.intro rfl trivial) ?_)
  refine And.intro (fun h1 => absurd (valid_zero.2 h) h1) (fun _ => ?_)
  refine Or.inl (cq (rasc_fn t l) (And.intro rfl (And.intro rfl trivial)) ?_)
  have hasc : ascB t l = true := ascB_true.2 ⟨hl.pos, hl.asc, hl.ins⟩
  refine And.intro (fun h1 => ?_) (fun _ => ?_)
  · rw [hasc] at h1; cases h1
  refine And.intro (by omega) ?_
  refine And.intro (by omega) ?_
  refine Exists.intro [] <| lp2 (fun (k : Nat) (_ : List Int) => [(31, .int .i64 k)]) (fun _ P => [(28, .vec 0 (.ints .i64 P) [])]) (fun k P => k ≤ t.length ∧ P.length = t.length ∧ ∀ y, y < k → P.getD y 0 = -1) (fun k _ => t.length - k) 0 (List.replicate t.length 0) ⟨Nat.zero_le _, by simp, by omega⟩ (by repeat' first | refine And.intro ?_ ?_ | exact True.intro | (show (_ : Int) = (_ : Int); omega) | omega | exact rfl | (simp; omega)) ?_
  rintro k P ⟨hk, hP, hPy⟩
  refine And.intro (fun h1 => ?_) (fun h1 => ?_)
  · have h1 : (k : Int) < ((List.replicate ((t.length : Nat) : Int).toNat (0 : Int)).length : Int) := h1
    rw [List.length_replicate, Int.toNat_natCast] at h1
    have hkl : k < t.length := by omega
    refine And.intro (by omega) ?_
    refine And.intro (by omega) ?_
    refine And.intro (by omega) ?_
    refine nx (k + 1, P.set k (-1)) ⟨by omega, by rw [List.length_set]; exact hP, fun y hy => ?_⟩ (show t.length - (k + 1) < t.length - k by omega) (by repeat' first | refine And.intro ?_ ?_ | exact True.intro | (show (_ : Int) = (_ : Int); omega) | omega | exact rfl | (simp only [RO.len]; omega))
    by_cases e : y = k
    · subst e; rw [getD_set_eq (by omega)]
    · rw [getD_set_ne (Ne.symm e)]; exact hPy y (by omega)
  have h1 : ((List.replicate ((t.length : Nat) : Int).toNat (0 : Int)).length : Int) ≤ (k : Int) := h1
  rw [List.length_replicate, Int.toNat_natCast] at h1
  refine Exists.intro [] <| lp2 (fun (k : Nat) (_ : List Int) => [(40, .int .i64 k)]) (fun _ P => [(28, .vec 0 (.ints .i64 P) [])]) (fun k P => k ≤ l.length ∧ P.length = t.length ∧ ∀ y, y < t.length → P.getD y 0 = posTo l k y) (fun k _ => l.length - k) 0 P ⟨Nat.zero_le _, hP, fun y hy => hPy y (by omega)⟩ (by repeat' first | refine And.intro ?_ ?_ | exact True.intro | (show (_ : Int) = (_ : Int); omega) | omega | exact rfl | (simp only [RO.len]; omega)) ?_
  rintro k P ⟨hk, hP, hPy⟩
  refine And.intro (fun h2 => ?_) (fun h2 => ?_)
  · have h2 : (k : Int) < (l.length : Int) := h2
    have hkl : k < l.length := by omega
    have hr : 0 ≤ l.getD k 0 ∧ l.getD k 0 < (t.length : Int) := hl.ins _ (getD_mem (d := 0) hkl)
    have nxt : ∀ y, y < t.length → (P.set (l.getD k 0).toNat (k : Int)).getD y 0 = posTo l (k + 1) y := fun y hy => by
      simp only [posTo]
      by_cases e : y = (l.getD k 0).toNat
      · rw [if_pos (by omega), e, getD_set_eq (by omega)]
      · rw [if_neg (by omega), getD_set_ne (Ne.symm e), hPy y hy]
    refine And.intro (by omega) ?_
    refine And.intro (by simp only [Int.toNat_natCast]; omega) ?_
    refine And.intro (by simp only [Int.toNat_natCast]; omega) ?_
    refine And.intro (by omega) ?_
    exact nx (k + 1, P.set (l.getD k 0).toNat (k : Int)) ⟨by omega, by rw [List.length_set]; exact hP, nxt⟩ (show l.length - (k + 1) < l.length - k by omega) (by repeat' first | refine And.intro ?_ ?_ | exact True.intro | (show (_ : Int) = (_ : Int); omega) | omega | exact rfl | (simp only [RO.len]; omega))
  have h2 : (l.length : Int) ≤ (k : Int) := h2
  have hkl : k = l.length := by omega
  refine Exists.intro [] <| lp2 (fun (i : Nat) (_ : Nat) => [(52, .int .i64 i), (11, .vec 90)]) (fun i _ => [(90, .vec 0 (.rows .i64 ((subT t l).take i)) [])]) (fun i _ => i ≤ l.length) (fun i _ => l.length - i) 0 0 (Nat.zero_le _) (by repeat' first | refine And.intro ?_ ?_ | exact True.intro | (show (_ : Int) = (_ : Int); omega) | omega | exact rfl | (simp only [RO.len]; omega)) ?_
  rintro i _ hi
  have htl : ((subT t l).take i).length = i := by rw [List.length_take, hst]; omega
  refine And.intro (fun h5 => ?_) (fun h5 => ?_)
  · have h5 : (i : Int) < (l.length : Int) := h5
    have hil : i < l.length := by omega
    have ei := hl.el hil
    have hrow := subT_row (t := t) hil
    have hrl : ((subT t l).getD i []).length = l.length := by rw [hrow]; simp
    refine And.intro (by omega) ?_
    refine Exists.intro [] <| lp2 (fun (j : Nat) (_ : Nat) => [(58, .int .i64 j), (14, .vec 85)]) (fun j _ => [(85, .vec 0 (.ints .i64 (((subT t l).getD i []).take j)) [])]) (fun j _ => j ≤ l.length) (fun j _ => l.length - j) 0 0 (Nat.zero_le _) (by repeat' first | refine And.intro ?_ ?_ | exact True.intro | (show (_ : Int) = (_ : Int); omega) | omega | exact rfl | (simp only [RO.len]; omega)) ?_
    rintro j _ hj
    have hjl' : (((subT t l).getD i []).take j).length = j := by rw [List.length_take, hrl]; omega
    refine And.intro (fun h6 => ?_) (fun h6 => ?_)
    · have h6 : (j : Int) < (l.length : Int) := h6
      have hjl : j < l.length := by omega
      have ej := hl.el hjl
      have he := h.toSh.ent ei.1 ej.1
      have hrw := h.toSh.len ei.1
      have hgi : (l.getD ((i : Nat) : Int).toNat 0).toNat = eL l i := by rw [Int.toNat_natCast]; rfl
      have hgj : (l.getD ((j : Nat) : Int).toNat 0).toNat = eL l j := by rw [Int.toNat_natCast]; rfl
      have hv : P.getD ((t.getD (l.getD ((i : Nat) : Int).toNat 0).toNat []).getD (l.getD ((j : Nat) : Int).toNat 0).toNat 0).toNat 0 = subV t l i j := by
        rw [hgi, hgj, he.1, Int.toNat_natCast, hPy _ he.2, hkl]; rfl
      have hp := pL_in (sub_in hl hil hjl)
      have hvp : 0 ≤ subV t l i j := by show 0 ≤ posTo l l.length _; omega
      have e1 : ((subT t l).getD i []).take (j + 1) = ((subT t l).getD i []).take j ++ [P.getD ((t.getD (l.getD ((i : Nat) : Int).toNat 0).toNat []).getD (l.getD ((j : Nat) : Int).toNat 0).toNat 0).toNat 0] := by
        rw [take_snoc (d := 0) (by omega), hv, hrow, map_range_getD _ _ _ _ hjl]
      refine And.intro (by omega) ?_
      refine And.intro (by simp only [Int.toNat_natCast]; omega) ?_
      refine And.intro (by rw [hgi]; simp only [Int.toNat_natCast]; omega) ?_
      refine And.intro (by rw [hgi, hgj, he.1]; omega) ?_
      refine And.intro (fun h7 => ?_) (fun h7 => ?_)
      · exfalso
        have h7 : P.getD ((t.getD (l.getD ((i : Nat) : Int).toNat 0).toNat []).getD (l.getD ((j : Nat) : Int).toNat 0).toNat 0).toNat 0 < 0 := h7
        rw [hv] at h7; omega
      refine And.intro (by simp only [Int.toNat_natCast]; omega) ?_
      refine And.intro (by rw [hgi]; simp only [Int.toNat_natCast]; omega) ?_
      refine And.intro (by rw [hgi, hgj, he.1]; omega) ?_
      refine And.intro (by simp only [List.length_append, List.length_cons, List.length_nil, hjl']; omega) ?_
      refine And.intro (by omega) ?_
      refine nx (j + 1, 0) (show j + 1 ≤ l.length by omega) (show l.length - (j + 1) < l.length - j by omega) ?_
      repeat' first | refine And.intro ?_ ?_ | exact True.intro | exact congrArg (RO.ints .i64) e1.symm | (show (_ : Int) = (_ : Int); omega) | omega | exact rfl
    · have h6 : (l.length : Int) ≤ (j : Int) := h6
      have er : ((subT t l).getD i []).take j = (subT t l).getD i [] := List.take_of_length_le (by omega)
      have e1 : (subT t l).take (i + 1) = (subT t l).take i ++ [((subT t l).getD i []).take j] := by rw [er]; exact take_snoc (d := []) (by omega)
      refine And.intro (by simp only [List.length_append, List.length_cons, List.length_nil, htl]; omega) ?_
      refine And.intro (by omega) ?_
      refine nx (i + 1, 0) (show i + 1 ≤ l.length by omega) (show l.length - (i + 1) < l.length - i by omega) ?_
      repeat' first | refine And.intro ?_ ?_ | exact True.intro | exact congrArg (RO.rows .i64) e1.symm | (show (_ : Int) = (_ : Int); omega) | omega | exact rfl
  · have h5 : (l.length : Int) ≤ (i : Int) := h5
    have e : (subT t l).take i = subT t l := List.take_of_length_le (by omega)
    rw [e]
    exact ⟨⟨trivial, rfl⟩, rfl, trivial⟩
end Go.Proofs.YtpanlghofeebhaaGreat
end
section
/- The reference: what elements generate: contract. -/
namespace Go.Proofs.YtpanlghofeebhaaGreat
open Go Go.AM
set_option maxRecDepth 100000
theorem rgen_fn (t : List (List Int)) (l : List Int) (hs : Sh t) (hl : inT t l) : QF 57 [.ro (.rows .i64 t), .ro (.ints .i64 l)] (.new (.ints .i64 (genL t l))) := mkQ Tryz.func57 (by decide +kernel) rfl (Nat.le_of_ble_eq_true rfl) fun _ => by
  have hm := hs.most
  refine Or.inl (cq (rset_fn l t.length hs.most) (And.intro rfl (And.intro rfl trivial)) ?_)
  have h0 : GnP t l (setB t.length fun x => l.contains (x : Int)) := ⟨setB_len _ _, fun y hy hh => by
      rw [setB_get hy] at hh
      have := Mk.gen (t := t) (List.contains_iff_mem.1 hh)
      rwa [Int.toNat_natCast] at this, fun g hg => by
      have := hl g hg
      rw [setB_get (by omega), List.contains_iff_mem, Int.toNat_of_nonneg this.1]; exact hg⟩
  refine Exists.intro [] <| lp2 (fun (_ : List Bool) (ch : Bool) => [(6, .bool (.v ch))]) (fun I _ => [(12, .vec 0 (.bools I) [])])
    (fun I ch => GnP t l I ∧ (ch = false → ∀ a b, a < t.length → b < t.length → I.getD a false = true → I.getD b false = true → I.getD (en t a b) false = true)) (fun I ch => 2 * (t.length - I.countP id) + ch.toNat) (setB t.length fun x => l.contains (x : Int)) true ⟨h0, fun h => by cases h⟩ (by repeat' first | refine And.intro ?_ ?_ | exact True.intro | (show (_ : Int) = (_ : Int); omega) | omega | exact rfl | (simp only [RO.len]; omega)) ?_
  rintro I ch ⟨hI, hcl⟩
  have hil := hI.len
  refine And.intro (fun h1 => ?_) (fun h1 => ?_)
  · have h1 : ch = true := h1
    refine Exists.intro [] <| lp3 (fun (x : Nat) (_ : List Bool) (ch : Bool) => [(16, .int .i64 x), (6, .bool (.v ch))]) (fun _ I _ => [(12, .vec 0 (.bools I) [])])
      (fun x J ch => x ≤ t.length ∧ GnQ t l I x 0 J ch) (fun x _ _ => t.length - x) 0 I false ⟨Nat.zero_le _, .start hI⟩ (by repeat' first | refine And.intro ?_ ?_ | exact True.intro | (show (_ : Int) = (_ : Int); omega) | omega | exact rfl | (simp only [RO.len]; omega)) ?_
    rintro x J ch' ⟨hx, hJ⟩
    refine And.intro (fun h2 => ?_) (fun h2 => ?_)
    · have h2 : (x : Int) < (t.length : Int) := h2
      have hxl : x < t.length := by omega
      have rx := hs.len hxl
      refine Exists.intro [] <| lp3 (fun (y : Nat) (_ : List Bool) (ch : Bool) => [(21, .int .i64 y), (6, .bool (.v ch))]) (fun _ I _ => [(12, .vec 0 (.bools I) [])])
        (fun y J ch => y ≤ t.length ∧ GnQ t l I x y J ch) (fun y _ _ => t.length - y) 0 J ch' ⟨Nat.zero_le _, hJ⟩ (by repeat' first | refine And.intro ?_ ?_ | exact True.intro | (show (_ : Int) = (_ : Int); omega) | omega | exact rfl | (simp only [RO.len]; omega)) ?_
      rintro y J ch' ⟨hy, hJ⟩
      have hjl := hJ.ok.len
      refine And.intro (fun h3 => ?_) (fun h3 => ?_)
      · have h3 : (y : Int) < (t.length : Int) := h3
        have hyl : y < t.length := by omega
        have e1 := hs.ent hxl hyl
        refine And.intro (show 0 ≤ (x : Int) ∧ (x : Int) < (J.length : Int) by omega) ?_
        refine And.intro (fun h4 => ?_) (fun h4 => ?_)
        · have h4 : J.getD x false = true := h4
          refine And.intro (show 0 ≤ (y : Int) ∧ (y : Int) < (J.length : Int) by omega) ?_
          refine And.intro (fun h5 => ?_) (fun h5 => ?_)
          · have h5 : J.getD y false = true := h5
            have i2 : 0 ≤ (y : Int) ∧ (y : Int) < ((t.getD x []).length : Int) := by omega
            have i3 : 0 ≤ (t.getD x []).getD y 0 ∧ (t.getD x []).getD y 0 < (J.length : Int) := by omega
            refine And.intro (by omega) ?_
            refine And.intro i2 ?_
            refine And.intro i3 ?_
            refine And.intro (fun h6 => ?_) (fun h6 => ?_)
            · have h6 : (!J.getD (en t x y) false) = true := h6
              refine And.intro (by omega) ?_
              refine And.intro i2 ?_
              refine And.intro i3 ?_
              refine And.intro i3.1 ?_
              refine And.intro (by omega) ?_
              exact nx (y + 1, J.set ((t.getD x []).getD y 0).toNat true, true) ⟨by omega, hJ.push hs hxl hyl h4 h5 (by simpa using h6)⟩ (show t.length - (y + 1) < t.length - y by omega) (by repeat' first | refine And.intro ?_ ?_ | exact True.intro | (show (_ : Int) = (_ : Int); omega) | omega | exact rfl | (simp only [RO.len]; omega))
            · have h6 : (!J.getD (en t x y) false) = false := h6
              refine And.intro (by omega) ?_
              exact nx (y + 1, J, ch') ⟨by omega, hJ.old fun _ _ => by simpa using h6⟩ (show t.length - (y + 1) < t.length - y by omega) (by repeat' first | refine And.intro ?_ ?_ | exact True.intro | (show (_ : Int) = (_ : Int); omega) | omega | exact rfl | (simp only [RO.len]; omega))
          · have h5 : J.getD y false = false := h5
            refine And.intro (by omega) ?_
            exact nx (y + 1, J, ch') ⟨by omega, hJ.old fun _ hh => by rw [h5] at hh; cases hh⟩ (show t.length - (y + 1) < t.length - y by omega) (by repeat' first | refine And.intro ?_ ?_ | exact True.intro | (show (_ : Int) = (_ : Int); omega) | omega | exact rfl | (simp only [RO.len]; omega))
        · have h4 : J.getD x false = false := h4
          refine And.intro (by omega) ?_
          exact nx (y + 1, J, ch') ⟨by omega, hJ.old fun hh _ => by rw [h4] at hh; cases hh⟩ (show t.length - (y + 1) < t.length - y by omega) (by repeat' first | refine And.intro ?_ ?_ | exact True.intro | (show (_ : Int) = (_ : Int); omega) | omega | exact rfl | (simp only [RO.len]; omega))
      · have h3 : (t.length : Int) ≤ (y : Int) := h3
        refine And.intro (by omega) ?_
        exact nx (x + 1, J, ch') ⟨by omega, hJ.row (by omega)⟩ (show t.length - (x + 1) < t.length - x by omega) (by repeat' first | refine And.intro ?_ ?_ | exact True.intro | (show (_ : Int) = (_ : Int); omega) | omega | exact rfl | (simp only [RO.len]; omega))
    · have h2 : (t.length : Int) ≤ (x : Int) := h2
      refine nx (J, ch') ⟨hJ.ok, fun hh a b ha hb => (hJ.no hh).2 a b (by omega) hb⟩ ?_ (by repeat' first | refine And.intro ?_ ?_ | exact True.intro | (show (_ : Int) = (_ : Int); omega) | omega | exact rfl | (simp only [RO.len]; omega))
      show 2 * (t.length - J.countP id) + ch'.toNat < 2 * (t.length - I.countP id) + ch.toNat
      have l1 : I.countP id ≤ t.length := by rw [← hil]; exact List.countP_le_length
      have l2 : J.countP id ≤ t.length := by rw [← hJ.ok.len]; exact List.countP_le_length
      rw [h1]
      cases ch' with
      | false => rw [(hJ.no rfl).1]; simp
      | true => have := hJ.yes rfl; simp; omega
  · have h1 : ch = false := h1
    refine Or.inl (cq (members_fn I (by omega)) (And.intro rfl trivial) ?_)
    refine And.intro (And.intro rfl ?_) trivial
    rw [hI.done hs hl (hcl h1)]; rfl
end Go.Proofs.YtpanlghofeebhaaGreat
end
section
/- The reference: classes made one; nothing joined: contracts. -/
namespace Go.Proofs.YtpanlghofeebhaaGreat
open Go Go.AM
set_option maxRecDepth 100000
theorem merge_fn (p : List Int) (i j : Nat) (hi : i < p.length) (hj : j < p.length) (hp : p.length ≤ 4096) : MF 88 [.vec 1000, .int .i64 i, .int .i64 j] [(1000, .vec 0 (.ints .i64 p) [])] (.tup []) [(1000, .vec 0 (.ints .i64 (mrgL p i j)) [])] := mkM Tryz.func88 (by decide +kernel) rfl (Nat.le_of_ble_eq_true rfl) fun _ => by
  refine Or.inl ?_
  refine Exists.intro [false, false, false, false, false, false, false, false, false, false] (And.intro (by decide +kernel) ?_)
  refine And.intro (by omega) ?_
  refine And.intro (by omega) ?_
  refine Exists.intro [] <| lp2 (fun (k : Nat) (_ : List Int) => [(19, .int .i64 k)]) (fun _ q => [(1000, .vec 0 (.ints .i64 q) [])]) (fun k q => k ≤ p.length ∧ q.length = p.length ∧ ∀ x, x < p.length → q.getD x 0 = if x < k then (mrgL p i j).getD x 0 else p.getD x 0) (fun k _ => p.length - k) 0 p ⟨Nat.zero_le _, rfl, fun x hx => by rw [if_neg (Nat.not_lt_zero _)]⟩ (by repeat' first | refine And.intro ?_ ?_ | exact True.intro | (show (_ : Int) = (_ : Int); omega) | omega | exact rfl | (simp only [RO.len]; omega)) ?_
  rintro k q ⟨hk, hq, hv⟩
  refine And.intro (fun h1 => ?_) (fun h1 => ?_)
  · have h1 : (k : Int) < (p.length : Int) := h1
    have hkl : k < p.length := by omega
    have hqk := hv k hkl
    rw [if_neg (Nat.lt_irrefl k)] at hqk
    have hmk := mrgL_get (p := p) (i := i) (j := j) hkl
    have nxt : ∀ (r : List Int), (∀ x, x < p.length → r.getD x 0 = if x = k then (mrgL p i j).getD k 0 else q.getD x 0) → ∀ x, x < p.length → r.getD x 0 = if x < k + 1 then (mrgL p i j).getD x 0 else p.getD x 0 := fun r hr x hx => by
      rw [hr x hx]
      by_cases e : x = k
      · subst e; rw [if_pos rfl, if_pos (by omega)]
      · rw [if_neg e, hv x hx]
        by_cases e2 : x < k
        · rw [if_pos e2, if_pos (by omega)]
        · rw [if_neg e2, if_neg (by omega)]
    refine And.intro (show 0 ≤ (k : Int) ∧ (k : Int) < (q.length : Int) by omega) ?_
    refine And.intro (fun h2 => ?_) (fun h2 => ?_)
    · have h2 : q.getD k 0 = p.getD j 0 := h2
      refine And.intro (show 0 ≤ (k : Int) ∧ (k : Int) < (q.length : Int) by omega) ?_
      refine And.intro (by omega) ?_
      refine And.intro (by omega) ?_
      refine nx (k + 1, q.set k (p.getD i 0)) ⟨by omega, by rw [List.length_set]; exact hq, nxt _ fun x hx => ?_⟩ (show p.length - (k + 1) < p.length - k by omega) (by repeat' first | refine And.intro ?_ ?_ | exact True.intro | (show (_ : Int) = (_ : Int); omega) | omega | exact rfl | (simp only [RO.len]; omega))
      by_cases e : x = k
      · subst e; rw [getD_set_eq (by omega), if_pos rfl, hmk, if_pos (hqk ▸ h2)]
      · rw [getD_set_ne (Ne.symm e), if_neg e]
    · have h2 : q.getD k 0 ≠ p.getD j 0 := h2
      refine And.intro (by omega) ?_
      refine nx (k + 1, q) ⟨by omega, hq, nxt _ fun x hx => ?_⟩ (show p.length - (k + 1) < p.length - k by omega) (by repeat' first | refine And.intro ?_ ?_ | exact True.intro | (show (_ : Int) = (_ : Int); omega) | omega | exact rfl | (simp only [RO.len]; omega))
      by_cases e : x = k
      · subst e; rw [if_pos rfl, hmk, if_neg (hqk ▸ h2)]; exact hqk
      · rw [if_neg e]
  · have h1 : (p.length : Int) ≤ (k : Int) := h1
    refine And.intro ?_ trivial
    refine And.intro (And.intro (by omega) ?_) trivial
    refine congrArg (RO.ints .i64) (ext_getD 0 (by rw [mrgL_len]; exact hq) fun x hx => ?_)
    rw [hv x (by omega), if_pos (by omega)]
theorem rdis_fn (n : Nat) (hn : n ≤ 4096) : QF 55 [.int .i64 n] (.new (.ints .i64 (disI n))) := mkQ Tryz.func55 (by decide +kernel) rfl (Nat.le_of_ble_eq_true rfl) fun _ => by
  refine And.intro (by omega) ?_
  refine And.intro (by omega) ?_
  refine Exists.intro [] <| lp2 (fun (k : Nat) (_ : List Int) => [(9, .int .i64 k)]) (fun _ L => [(6, .vec 0 (.ints .i64 L) [])]) (fun k L => k ≤ n ∧ L.length = n ∧ ∀ j, j < k → L.getD j 0 = (j : Int)) (fun k _ => n - k) 0 (List.replicate n 0) ⟨Nat.zero_le _, by simp, by omega⟩ (by repeat' first | refine And.intro ?_ ?_ | exact True.intro | (show (_ : Int) = (_ : Int); omega) | omega | exact rfl | (simp; omega)) ?_
  rintro k L ⟨hk, hL, hj⟩
  refine And.intro (fun h1 => ?_) (fun h1 => ?_)
  · have h1 : (k : Int) < ((List.replicate ((n : Nat) : Int).toNat (0 : Int)).length : Int) := h1
    rw [List.length_replicate, Int.toNat_natCast] at h1
    have hkl : k < n := by omega
    refine And.intro (show 0 ≤ (k : Int) ∧ (k : Int) < (L.length : Int) by omega) ?_
    refine And.intro (by omega) ?_
    refine And.intro (by omega) ?_
    refine nx (k + 1, L.set k (k : Int)) ⟨by omega, by rw [List.length_set]; exact hL, fun j hj' => ?_⟩ (show n - (k + 1) < n - k by omega) (by repeat' first | refine And.intro ?_ ?_ | exact True.intro | (show (_ : Int) = (_ : Int); omega) | omega | exact rfl | (simp only [RO.len]; omega))
    by_cases e : j = k
    · subst e; rw [getD_set_eq (by omega)]
    · rw [getD_set_ne (Ne.symm e)]; exact hj j (by omega)
  · have h1 : ((List.replicate ((n : Nat) : Int).toNat (0 : Int)).length : Int) ≤ (k : Int) := h1
    rw [List.length_replicate, Int.toNat_natCast] at h1
    refine And.intro (And.intro (by omega) ?_) trivial
    refine congrArg (RO.ints .i64) (ext_getD 0 (by rw [disI_len]; exact hL) fun j hj' => ?_)
    rw [hj j (by omega), disI_get (by omega)]
end Go.Proofs.YtpanlghofeebhaaGreat
end
