import Derived.Shelf.Sort.Plain
import Derived.Shelf.Slices.CompactI
import Derived.Test.YtpanlghofeebhaaLay
import Derived.Test.YtpanlghofeebhaaMult
import Derived.Test.YtpanlghofeebhaaNumLaw
import Derived.Test.YtpanlghofeebhaaOrd
import Derived.Test.YtpanlghofeebhaaReesLaw
import Derived.Test.YtpanlghofeebhaaRefPart
section
/- slices.Sort over integers: from the shelf's contract to the abstract machine's. -/
namespace Go.Proofs.Ytpanlghofeebhaa
open Go Go.AM Go.Sort Go.Lib Go.RowKit
def sortWd {α : Type} [Inhabited α] (enc : α → Value) (w : World) (b m : Nat) (dk : Array α) (os : Array Obj) : World := grow (putRow enc (Sort.ahead w m) b 0 dk) os
section
variable {w : World} {M : Msk} {b : Nat} {cs : Array Value} {ty : TypeId} (hb : w.heap[b]? = some (.cells cs ty (0, 0)))
include hb
theorem sI_lt : b < w.heap.size := by
  rcases Nat.lt_or_ge b w.heap.size with h | h
  · exact h
  · rw [Array.getElem?_eq_none h] at hb; cases hb
theorem sI_block {α : Type} [Inhabited α] (enc : α → Value) (m : Nat) (dk : Array α) (os : Array Obj) : (sortWd enc w b m dk os).heap[b]? = some (.cells (putCells enc 0 dk cs) ty (0, 0)) := by
  have hlt := sI_lt hb
  show ((putRow enc (Sort.ahead w m) b 0 dk).heap ++ os)[b]? = _
  rw [Array.getElem?_append_left (by rw [size_putRow]; exact hlt)]
  show ((w.heap.modify b (onCells (putCells enc 0 dk))))[b]? = _
  rw [Array.getElem?_modify, if_pos rfl, hb]; rfl
omit hb in
theorem sI_other {α : Type} [Inhabited α] (enc : α → Value) (m : Nat) (dk : Array α) (os : Array Obj) {b' : Nat} (hne : b' ≠ b) (hlt : b' < w.heap.size) : (sortWd enc w b m dk os).heap[b']? = w.heap[b']? := by
  show ((putRow enc (Sort.ahead w m) b 0 dk).heap ++ os)[b']? = _
  rw [Array.getElem?_append_left (by rw [size_putRow]; exact hlt)]
  show ((w.heap.modify b (onCells (putCells enc 0 dk))))[b']? = _
  rw [Array.getElem?_modify, if_neg (Ne.symm hne)]
omit hb in
theorem sI_size {α : Type} [Inhabited α] (enc : α → Value) (m : Nat) (dk : Array α) (os : Array Obj) : (sortWd enc w b m dk os).heap.size = w.heap.size + os.size := by
  show ((putRow enc (Sort.ahead w m) b 0 dk).heap ++ os).size = _
  rw [Array.size_append, size_putRow]; rfl
omit hb in
theorem sIp_size {α : Type} [Inhabited α] (enc : α → Value) (d : Array α) : (putCells enc 0 d cs).size = cs.size := by simp [putCells]
omit hb in
theorem sIp_at {α : Type} [Inhabited α] (enc : α → Value) (d : Array α) {q : Nat} (hq : q < d.size) (hc : q < cs.size) : (putCells enc 0 d cs)[q]? = some (enc d[q]!) := by
  simp [putCells, hq, hc]
theorem sI_stp {α : Type} [Inhabited α] (enc : α → Value) (m : Nat) (dk : Array α) (os : Array Obj) (hM : ∀ off, M b off ↔ off < cs.size) : Stp (fun b' off => b' = b ∧ M b' off) w (sortWd enc w b m dk os) := by
  refine ⟨by rw [sI_size]; omega, fun b' hb' => ?_, ⟨⟨rfl, rfl⟩, rfl, ?_⟩⟩
  · by_cases e : b' = b
    · subst e
      refine .inr (.inl ⟨cs, _, ty, hb, sI_block hb enc m dk os, sIp_size enc dk, fun off hn => ?_⟩)
      have : ¬ off < cs.size := fun h => hn ⟨rfl, (hM off).2 h⟩
      rw [Array.getElem?_eq_none (by rw [sIp_size]; omega), Array.getElem?_eq_none (by omega)]
    · exact .inl (sI_other enc m dk os e hb')
  · show w.drawn ≤ w.drawn + m
    omega
end
theorem sortI_m (l : List Int) (hl : 0 < l.length) :
    MF 116 [.vec 1000] [(1000, .vec 0 (.ints .i64 l) [])] (.tup []) [(1000, .vec 0 (.ints .i64 (srtI l)) [])] := by
  refine ⟨⟨_, Try.func116, by decide +kernel, rfl⟩, fun ρ M w vs st hv => ?_⟩
  obtain ⟨⟨o, ho, hlen, hsz, hlb, _, hblk⟩, _⟩ := st.blk 1000 _ rfl
  have hlen : o.len = l.length := hlen
  have hsz : o.sz = 1 := hsz
  cases hob : o.blk with
  | none =>
    simp only [hob] at hblk
    have : l.length = 0 := hblk.1
    omega
  | some b =>
  simp only [hob] at hblk
  obtain ⟨hcap, cs, ty, hb, hcs, hM, hcell0⟩ := hblk
  have hM : ∀ off, M b off ↔ off < cs.size := fun off => by rw [hM off]; omega
  have hcell : ∀ q, q < l.length → cs[q]? = some (.int .i64 (l.getD q 0)) := fun q hq => by
    obtain ⟨v, h1, h2⟩ := hcell0 q (by simpa [RO.cells, RO.len, RO.sz] using hq)
    have h2 : v = .int .i64 (l.getD q 0) := h2.1
    rw [h1, h2]
  have hcsl : l.length ≤ cs.size := by rw [hcs, hsz]; omega
  match vs, hv with
  | [v0], ⟨h0, _⟩ =>
  obtain ⟨o', ho', rfl⟩ := h0
  rw [ho] at ho'; cases ho'
  have hlt := sI_lt hb
  have hds : l.toArray.size = l.length := by simp
  have hH : Holds (Value.int .i64) w b 0 l.toArray := fun j hj => by
    rw [hds] at hj
    refine ⟨?_, ?_⟩
    · rw [Nat.zero_add, cell_of_heap hb]
      show cs[j]? = some (.int .i64 l.toArray[j]!)
      rw [hcell j hj, getD_eq hj]; simp [hj]
    · simp [World.frozen?, hb]
  have hcall := Any.slices_Sort_int sortI b 0 o.cap l w hH hlt (by have : l.length ≤ 140737488355328 := hlb; omega)
  have hv0 : o.val = .slice (some ⟨b, 0, none⟩) l.length o.cap := by rw [Sl.val, hob, hlen]; rfl
  rw [hv0]
  refine Calls.mono hcall fun e w' ⟨he, n, os, hw⟩ => ?_
  have hw : w' = sortWd (Value.int .i64) w b n (srtI l).toArray os := hw
  subst hw
  refine ⟨_, ρ, M, he, ?_, ⟨#[], rfl, trivial⟩⟩
  have hstp := sI_stp hb (Value.int .i64) n (srtI l).toArray os hM
  refine ⟨fun k => by rw [st.dom k, find_cons, find_cons]; split <;> rfl, fun k B hB => ?_, st.inj, fun b' off hm => by rw [sI_size]; have := st.mlt b' off hm; omega, ?_, st.sub, st.old, st.fresh, st.pin⟩
  · have hk1 : k = 1000 ∧ B = .vec 0 (.ints .i64 (srtI l)) [] := by
      rw [find_cons] at hB
      split at hB
      · rename_i e; cases hB; exact ⟨e.symm, rfl⟩
      · cases hB
    obtain ⟨rfl, rfl⟩ := hk1
    refine ⟨⟨o, ho, by rw [hlen]; exact (srtI_len l).symm, hsz, by show (srtI l).length ≤ LB; rw [srtI_len]; exact hlb, Nat.zero_le _, ?_⟩, .inl rfl⟩
    simp only [hob]
    refine ⟨hcap, putCells (Value.int .i64) 0 (srtI l).toArray cs, ty, sI_block hb (Value.int .i64) n (srtI l).toArray os, by rw [sIp_size]; exact hcs, fun off => by rw [sIp_size, hM off]; omega, fun q hq => ?_⟩
    have hq : q < l.length := by simpa [RO.cells, RO.len, RO.sz, srtI_len] using hq
    refine ⟨.int .i64 ((srtI l).toArray[q]!), sIp_at (Value.int .i64) (srtI l).toArray (by simp [srtI_len]; omega) (by omega), ?_⟩
    have hq' : q < (srtI l).length := by rw [srtI_len]; exact hq
    have e1 : (srtI l).toArray[q]! = (srtI l).getD q 0 := by rw [getD_eq hq']; simp [hq']
    rw [e1]
    obtain ⟨i, hi, he⟩ := mem_getD 0 ((srtI_perm l).mem_iff.1 (getD_mem (d := 0) hq'))
    obtain ⟨v, _, h2⟩ := hcell0 i (by simpa [RO.cells, RO.len, RO.sz] using hi)
    show Value.int .i64 ((srtI l).getD q 0) = Value.int .i64 ((srtI l).getD q 0) ∧ inK .i64 ((srtI l).getD q 0)
    rw [← he]
    exact ⟨rfl, h2.2⟩
  · refine hstp.weaken fun b' off he => ?_
    obtain ⟨rfl, hm⟩ := he
    exact ⟨⟨1000, by simp [hasB, ho, Own.has, hob]⟩, hm⟩
theorem compactI_m (l : List Int) (hl : 0 < l.length) :
    MF 117 [.vec 1] [(1, .vec 0 (.ints .i64 l) [])] (.vec 1) [(1, .vec 0 (.ints .i64 (cpI l)) [])] := by
  refine ⟨⟨_, Try.func117, by decide +kernel, rfl⟩, fun ρ M w vs st hv => ?_⟩
  obtain ⟨⟨o, ho, hlen, hsz, hlb, _, hblk⟩, _⟩ := st.blk 1 _ rfl
  have hlen : o.len = l.length := hlen
  have hsz : o.sz = 1 := hsz
  have hdom : ∀ k, k ≠ 1 → ρ k = none := fun k hk => by
    have := st.dom k
    rw [find_cons, if_neg (Ne.symm hk)] at this
    cases hr : ρ k with
    | none => rfl
    | some _ => rw [hr] at this; cases this
  cases hob : o.blk with
  | none =>
    simp only [hob] at hblk
    have : l.length = 0 := hblk.1
    omega
  | some b =>
  simp only [hob] at hblk
  obtain ⟨hcap, cs, ty, hb, hcs, hM, hcell0⟩ := hblk
  have hM : ∀ off, M b off ↔ off < cs.size := fun off => by rw [hM off]; omega
  have hcell : ∀ q, q < l.length → cs[q]? = some (.int .i64 (l.getD q 0)) := fun q hq => by
    obtain ⟨v, h1, h2⟩ := hcell0 q (by simpa [RO.cells, RO.len, RO.sz] using hq)
    have h2 : v = .int .i64 (l.getD q 0) := h2.1
    rw [h1, h2]
  have hcsl : l.length ≤ cs.size := by rw [hcs, hsz]; omega
  match vs, hv with
  | [v0], ⟨h0, _⟩ =>
  obtain ⟨o', ho', rfl⟩ := h0
  rw [ho] at ho'; cases ho'
  have hlt := sI_lt hb
  have hds : l.toArray.size = l.length := by simp
  have hH : Holds (Value.int .i64) w b 0 l.toArray := fun j hj => by
    rw [hds] at hj
    refine ⟨?_, ?_⟩
    · rw [Nat.zero_add, cell_of_heap hb]
      show cs[j]? = some (.int .i64 l.toArray[j]!)
      rw [hcell j hj, getD_eq hj]; simp [hj]
    · simp [World.frozen?, hb]
  have hcall := Any.slices_Compact_int cpctI b 0 o.cap l w hH (by have : l.length ≤ 140737488355328 := hlb; omega) (by omega)
  have hv0 : o.val = .slice (some ⟨b, 0, none⟩) l.length o.cap := by rw [Sl.val, hob, hlen]; rfl
  rw [hv0]
  refine Calls.mono hcall fun e w' ⟨he, n, hw⟩ => ?_
  have hgrow : ∀ x : World, grow x #[] = x := fun x => by simp [grow]
  have hcl := cpI_len l
  have hmem := cpI_mem l
  have he : e = .returned (.slice (some ⟨b, 0, none⟩) (cpI l).length o.cap) := he
  have hw : w' = putRow (Value.int .i64) (Sort.ahead w n) b 0 (cpI l ++ List.replicate (l.length - (cpI l).length) 0).toArray := hw
  obtain ⟨A, hA⟩ : ∃ A, A = cpI l ++ List.replicate (l.length - (cpI l).length) 0 := ⟨_, rfl⟩
  rw [← hA] at hw
  have hall : A.length = l.length := by rw [hA]; simp; omega
  have hAq : ∀ q, q < (cpI l).length → A.getD q 0 = (cpI l).getD q 0 := fun q hq => by
    rw [hA, getD_eq hq, getD_eq (by rw [List.length_append]; omega), List.getElem_append_left hq]
  clear hA
  obtain ⟨C, hC⟩ : ∃ C, C = cpI l := ⟨_, rfl⟩
  rw [← hC] at hAq hmem hcl he ⊢
  clear hC
  have hw : w' = sortWd (Value.int .i64) w b n A.toArray #[] := by unfold sortWd; rw [hgrow]; exact hw
  subst hw
  have hstp := sI_stp hb (Value.int .i64) n A.toArray #[] hM
  refine ⟨_, fun k => if k = 1 then some (.sl { o with len := C.length }) else ρ k, M, he, ?_, ⟨{ o with len := C.length }, by simp [Own.sli], ?_⟩⟩
  · have hhas : ∀ k b', hasB (fun k => if k = 1 then some (.sl { o with len := C.length }) else ρ k) k b' → k = 1 ∧ b' = b := fun k b' h => by
      unfold hasB at h
      by_cases e : k = 1
      · refine ⟨e, ?_⟩
        simp only [e, if_true, Own.has, hob] at h
        exact (Option.some.inj h).symm
      · simp only [e, if_false, hdom k e] at h
    refine ⟨fun k => ?_, fun k B hB => ?_, fun k k' b' h1 h2 => by rw [(hhas k b' h1).1, (hhas k' b' h2).1], fun b' off hm => by rw [sI_size]; have := st.mlt b' off hm; omega, ?_, st.sub, st.old, fun k b' h => .inr ⟨1, by rw [(hhas k b' h).2]; simp [hasB, ho, Own.has, hob]⟩, fun k o2 hk h => ?_⟩
    · by_cases e : k = 1
      · simp [e, find_cons]
      · simp only [e, if_false, find_cons]; rw [if_neg (Ne.symm e), hdom k e]; rfl
    · have hk1 : k = 1 ∧ B = .vec 0 (.ints .i64 C) [] := by
        rw [find_cons] at hB
        split at hB
        · rename_i e; cases hB; exact ⟨e.symm, rfl⟩
        · cases hB
      obtain ⟨rfl, rfl⟩ := hk1
      refine ⟨⟨{ o with len := C.length }, by simp, rfl, hsz, by show C.length ≤ LB; exact Nat.le_trans hcl hlb, Nat.zero_le _, ?_⟩, .inl rfl⟩
      simp only [hob]
      refine ⟨by omega, putCells (Value.int .i64) 0 A.toArray cs, ty, sI_block hb (Value.int .i64) n A.toArray #[], by rw [sIp_size]; exact hcs, fun off => by rw [sIp_size, hM off]; omega, fun q hq => ?_⟩
      have hq : q < C.length := by simpa [RO.cells, RO.len, RO.sz] using hq
      refine ⟨.int .i64 (A.toArray[q]!), sIp_at (Value.int .i64) A.toArray (by rw [List.size_toArray, hall]; omega) (by omega), ?_⟩
      have e1 : A.toArray[q]! = C.getD q 0 := by
        rw [← hAq q hq, getD_eq (show q < A.length by omega), getElem!_pos A.toArray q (by rw [List.size_toArray, hall]; omega)]
        simp
      rw [e1]
      obtain ⟨i, hi, he⟩ := mem_getD 0 (hmem _ (getD_mem (d := 0) hq))
      obtain ⟨v, _, h2⟩ := hcell0 i (by simpa [RO.cells, RO.len, RO.sz] using hi)
      show Value.int .i64 (C.getD q 0) = Value.int .i64 (C.getD q 0) ∧ inK .i64 (C.getD q 0)
      rw [← he]
      exact ⟨rfl, h2.2⟩
    · refine hstp.weaken fun b' off he => ?_
      obtain ⟨rfl, hm⟩ := he
      exact ⟨⟨1, by simp [hasB, ho, Own.has, hob]⟩, hm⟩
    · have e : k ≠ 1 := fun e => by subst e; cases hk
      simp only [e, if_false, hdom k e] at h
      cases h
  · simp [Sl.val, hob]
end Go.Proofs.Ytpanlghofeebhaa
end
section
/- The reference's classes (semigroupref15.Classes, Minimal, semigroupref17.class) and the program's (rees.open): contracts. -/
namespace Go.Proofs.Ytpanlghofeebhaa
open Go Go.AM
set_option maxRecDepth 100000
theorem cls_range {n : Nat} {e : Nat → Nat → Bool} (hn : n ≤ 400) : ∀ i, i < (clsL n e).length → 0 ≤ (clsL n e).getD i 0 ∧ (clsL n e).getD i 0 < 4096 := fun i hi => by
  have h1 := (valid_range (canon_idem (repsL n e)) ((clsL n e).getD i 0)).2 (getD_mem hi)
  have h2 := firsts_le (canon (repsL n e))
  rw [canon_length, repsL_len] at h2
  have h3 : classN (clsL n e) ≤ n := h2
  have h4 : (clsL n e).getD i 0 < classN (clsL n e) := h1.2
  exact ⟨h1.1, by omega⟩
theorem rgreen_fn (t : List (List Int)) (h : Semi t) : QF 80 [.ro (.rows .i64 t)] (greenA t) := mkQ Try.func80 (by decide +kernel) rfl (Nat.le_of_ble_eq_true rfl) fun _ => by
  have hpos := h.pos
  have hmost := h.most
  refine Or.inl (cq (ridealsR_fn t h.toSh) (And.intro rfl (And.intro rfl trivial)) ?_)
  refine Or.inl (cq (rmutual_fn t.length hmost _ (preR h)) (And.intro rfl trivial) ?_)
  refine Or.inl (cq (ridealsL_fn t h.toSh) (And.intro rfl (And.intro rfl trivial)) ?_)
  refine Or.inl (cq (rmutual_fn t.length hmost _ (preL h)) (And.intro rfl trivial) ?_)
  refine Or.inl (cq (ridealsJ_fn t h.toSh) (And.intro rfl (And.intro rfl trivial)) ?_)
  refine Or.inl (cq (rmutual_fn t.length hmost _ (preJ h)) (And.intro rfl trivial) ?_)
  refine Or.inl (cq (rmeet_fn (classR t) (classL t) (by rw [classR_len, classL_len]) (by rw [classR_len]; omega) (cls_range hmost) (cls_range hmost)) (And.intro rfl (And.intro rfl trivial)) ?_)
  refine Or.inl (cq (rclasses_fn (classJ t) (clsL_valid (by omega))) (And.intro rfl trivial) ?_)
  have hcl := classes_length (classN (classJ t)) (classJ t)
  have hnj : classN (classJ t) = numJ t := rfl
  have hle := numJ_le t
  have hbl := belowL_len t
  refine Exists.intro [] <| lp (X := Nat) (fun i => [(34, .int .i64 i)]) (fun i => [(63, .vec 0 (.brows ((belowL t).take i)) []), (3, .box [.vec 13, .vec 16, .ro (.ints .i64 (classJ t)), .vec 27, .vec 63])]) (fun i => i ≤ numJ t) (fun i => numJ t - i) 0 (Nat.zero_le _) (by repeat' first | refine And.intro ?_ ?_ | exact True.intro | (show (_ : Int) = (_ : Int); omega) | omega | exact rfl | (simp only [RO.len]; omega)) ?_
  intro i hi
  have hti : ((belowL t).take i).length = i := by rw [List.length_take, hbl]; omega
  refine And.intro (fun h1 => ?_) (fun h1 => ?_)
  · have hin : i < numJ t := by omega
    have hrow := belowL_row hin
    have hrl : ((belowL t).getD i []).length = numJ t := by rw [hrow]; simp
    refine And.intro (by omega) ?_
    refine Exists.intro [] <| lp (X := Nat) (fun j => [(40, .int .i64 j), (8, .vec 57)]) (fun j => [(57, .vec 0 (.bools (((belowL t).getD i []).take j)) [])]) (fun j => j ≤ numJ t) (fun j => numJ t - j) 0 (Nat.zero_le _) (by repeat' first | refine And.intro ?_ ?_ | exact True.intro | (show (_ : Int) = (_ : Int); omega) | omega | exact rfl | (simp only [RO.len]; omega)) ?_
    intro j hj
    have htj : (((belowL t).getD i []).take j).length = j := by rw [List.length_take, hrl]; omega
    refine And.intro (fun h2 => ?_) (fun h2 => ?_)
    · have hjn : j < numJ t := by omega
      have fi := fstJ hin
      have fj := fstJ hjn
      have hb := rowsB_len t.length (inJB t)
      have hr := setB_len t.length (inJB t (fstC (classJ t) j))
      rw [← rowsB_row fj.2.2.1] at hr
      refine And.intro (by omega) ?_
      refine Or.inl <| Exists.intro [false, false, false, false, false, false, false, false, false, false, false, false, false, true, true] (And.intro (by decide +kernel) ?_)
      refine And.intro (show 0 ≤ (0 : Int) ∧ (0 : Int) < (((classes (numJ t) (classJ t)).getD j []).length : Int) by omega) ?_
      refine And.intro (show 0 ≤ ((classes (numJ t) (classJ t)).getD j []).getD 0 0 ∧ ((classes (numJ t) (classJ t)).getD j []).getD 0 0 < ((rowsB t.length (inJB t)).length : Int) by omega) ?_
      refine And.intro (show 0 ≤ (0 : Int) ∧ (0 : Int) < (((classes (numJ t) (classJ t)).getD i []).length : Int) by omega) ?_
      refine And.intro (show 0 ≤ ((classes (numJ t) (classJ t)).getD i []).getD 0 0 ∧ ((classes (numJ t) (classJ t)).getD i []).getD 0 0 < (((rowsB t.length (inJB t)).getD (fstC (classJ t) j) []).length : Int) by omega) ?_
      refine And.intro (by rw [List.length_append, htj]; simp; omega) ?_
      refine And.intro (by omega) ?_
      refine nx (j + 1) (show j + 1 ≤ numJ t by omega) (show numJ t - (j + 1) < numJ t - j by omega) ?_
      refine And.intro (And.intro rfl (And.intro (And.intro rfl (And.intro trivial trivial)) trivial)) ?_
      have hv : ((rowsB t.length (inJB t)).getD (((classes (numJ t) (classJ t)).getD j []).getD 0 0).toNat []).getD (((classes (numJ t) (classJ t)).getD i []).getD 0 0).toNat false = ((belowL t).getD i []).getD j false := by
        rw [belowL_get hin hjn]
        exact rowsB_get fj.2.2.1 fi.2.2.1
      refine And.intro ?_ ?_
      · refine And.intro (And.intro (Nat.le_refl _) (Nat.zero_le _)) ?_
        show RO.bools (((belowL t).getD i []).take j ++ [((rowsB t.length (inJB t)).getD (((classes (numJ t) (classJ t)).getD j []).getD 0 0).toNat []).getD (((classes (numJ t) (classJ t)).getD i []).getD 0 0).toNat false]) = _
        rw [hv, ← take_snoc (by omega)]
      · repeat' first | refine And.intro ?_ ?_ | exact True.intro | (show (_ : Int) = (_ : Int); omega) | omega | exact rfl | (simp only [RO.len]; omega)
    · refine And.intro (by rw [List.length_append, hti]; simp; omega) ?_
      refine And.intro (by omega) ?_
      refine nx (i + 1) (show i + 1 ≤ numJ t by omega) (show numJ t - (i + 1) < numJ t - i by omega) ?_
      refine And.intro (And.intro rfl trivial) ?_
      have hrw : ((belowL t).getD i []).take j = (belowL t).getD i [] := List.take_of_length_le (by omega)
      refine And.intro ?_ ?_
      · refine And.intro (And.intro (Nat.le_refl _) (Nat.zero_le _)) ?_
        show RO.brows ((belowL t).take i ++ [((belowL t).getD i []).take j]) = _
        rw [hrw, ← take_snoc (by omega)]
      · repeat' first | refine And.intro ?_ ?_ | exact True.intro | (show (_ : Int) = (_ : Int); omega) | omega | exact rfl | (simp only [RO.len]; omega)
  · have hBB : (belowL t).take i = belowL t := List.take_of_length_le (by omega)
    refine And.intro ?_ trivial
    refine And.intro (And.intro trivial rfl) ?_
    refine And.intro (And.intro trivial rfl) ?_
    refine And.intro rfl ?_
    refine And.intro (And.intro trivial rfl) ?_
    refine And.intro (And.intro trivial ?_) trivial
    rw [hBB]
theorem rmin_fn (t : List (List Int)) (hm : t.length ≤ 400) (j : Nat) (hj : j < numJ t) : QF 82 [greenA t, .int .i64 j] (.bool (.v (minJ t j))) := mkQ Try.func82 (by decide +kernel) rfl (Nat.le_of_ble_eq_true rfl) fun _ => by
  have hbl := belowL_len t
  have hle := numJ_le t
  refine Exists.intro [] <| lp (X := Nat) (fun i => [(9, .int .i64 i)]) (fun _ => []) (fun i => i ≤ numJ t ∧ ∀ k, k < i → k ≠ j → inJB t (fstC (classJ t) j) (fstC (classJ t) k) = false) (fun i => numJ t - i) 0 ⟨Nat.zero_le _, fun k hk => absurd hk (Nat.not_lt_zero _)⟩ (by repeat' first | refine And.intro ?_ ?_ | exact True.intro | (show (_ : Int) = (_ : Int); omega) | omega | exact rfl | (simp only [RO.len]; omega)) ?_
  rintro i ⟨hi, hs⟩
  refine And.intro (fun h1 => ?_) (fun h1 => ?_)
  · have hin : i < numJ t := by omega
    have hrl : ((belowL t).getD i []).length = numJ t := by rw [belowL_row hin]; simp
    have hg := belowL_get (t := t) hin hj
    refine And.intro (fun h2 => ?_) (fun h2 => ?_)
    · have hij : i ≠ j := fun e => h2 (by rw [e])
      refine And.intro (by omega) ?_
      refine And.intro (show 0 ≤ (j : Int) ∧ (j : Int) < (((belowL t).getD i []).length : Int) by omega) ?_
      refine And.intro (fun h3 => ?_) (fun h3 => ?_)
      · have h3 : ((belowL t).getD i []).getD j false = true := h3
        rw [hg] at h3
        refine And.intro ?_ trivial
        show false = minJ t j
        cases hm : minJ t j
        · rfl
        · rw [minJ_iff.1 hm i hin hij] at h3; cases h3
      · have h3 : ((belowL t).getD i []).getD j false = false := h3
        rw [hg] at h3
        refine And.intro (by omega) ?_
        refine nx (i + 1) ⟨by omega, fun k hk hkj => ?_⟩ (show numJ t - (i + 1) < numJ t - i by omega) (by repeat' first | refine And.intro ?_ ?_ | exact True.intro | (show (_ : Int) = (_ : Int); omega) | omega | exact rfl | (simp only [RO.len]; omega))
        by_cases hki : k = i
        · rw [hki]; exact h3
        · exact hs k (by omega) hkj
    · have h2 : (i : Int) = (j : Int) := h2
      refine And.intro (by omega) ?_
      refine nx (i + 1) ⟨by omega, fun k hk hkj => ?_⟩ (show numJ t - (i + 1) < numJ t - i by omega) (by repeat' first | refine And.intro ?_ ?_ | exact True.intro | (show (_ : Int) = (_ : Int); omega) | omega | exact rfl | (simp only [RO.len]; omega))
      exact hs k (by omega) hkj
  · refine And.intro ?_ trivial
    show true = minJ t j
    exact (minJ_iff.2 fun k hk hkj => hs k (by omega) hkj).symm
theorem rclass_fn (t : List (List Int)) (h : Semi t) (j : Nat) (hj : j < numJ t) : QF 38 [.ro (.rows .i64 t), .int .i64 j] (.tup [.ro (.ints .i64 (elemsJ t j)), .bool (.v (minJ t j)), .int .i64 0]) := mkQ Try.func38 (by decide +kernel) rfl (Nat.le_of_ble_eq_true rfl) fun _ => by
  have hbl := belowL_len t
  have hmost := h.most
  refine Or.inl (cq (rvalidate_fn t) (And.intro rfl trivial) ?_)
  refine And.intro (fun h1 => absurd (valid_zero.2 h) h1) (fun h1 => ?_)
  refine Or.inl (cq (rgreen_fn t h) (And.intro rfl trivial) ?_)
  refine And.intro (fun h2 => by have h2 : (j : Int) < 0 := h2; omega) (fun h2 => ?_)
  refine And.intro (fun h3 => by have h3 : ((belowL t).length : Int) ≤ j := h3; omega) (fun h3 => ?_)
  refine Or.inl <| Exists.intro [false, false, false, false, false, false, false, false, false, false, false, false] (And.intro (by decide +kernel) ?_)
  refine cq (rclasses_fn (classJ t) (clsL_valid (by omega))) (And.intro rfl trivial) ?_
  have hcl := classes_length (classN (classJ t)) (classJ t)
  have hnj : classN (classJ t) = numJ t := rfl
  refine And.intro (by omega) ?_
  refine cq (rmin_fn t hmost j hj) (And.intro (by repeat' first | refine And.intro ?_ ?_ | exact True.intro | (show (_ : Int) = (_ : Int); omega) | omega | exact rfl | (simp only [RO.len]; omega)) (And.intro rfl trivial)) ?_
  exact And.intro rfl (And.intro rfl (And.intro rfl trivial))
noncomputable def openV (t : List (List Int)) (j : Int) : Int := if validV t = 0 then 1 else validV t
theorem openV_ne (t : List (List Int)) (j : Int) : openV t j ≠ 0 := by
  unfold openV
  split
  · decide
  · assumption
theorem rclass_no (t : List (List Int)) (j : Int) (h : ¬ (validV t = 0 ∧ 0 ≤ j ∧ j < numJ t)) : QF 38 [.ro (.rows .i64 t), .int .i64 j] (.tup [.nils, .bool (.lit false), .int .i64 (openV t j)]) := mkQ Try.func38 (by decide +kernel) rfl (Nat.le_of_ble_eq_true rfl) fun _ => by
  have hbl := belowL_len t
  refine Or.inl (cq (rvalidate_fn t) (And.intro rfl trivial) ?_)
  refine And.intro (fun h1 => ?_) (fun h1 => ?_)
  · have e : openV t j = validV t := by unfold openV; rw [if_neg h1]
    exact And.intro trivial (And.intro rfl (And.intro e.symm trivial))
  have h1 : validV t = 0 := h1
  have hs := valid_zero.1 h1
  have e : openV t j = 1 := by unfold openV; rw [if_pos h1]
  refine Or.inl (cq (rgreen_fn t hs) (And.intro rfl trivial) ?_)
  refine And.intro (fun h2 => ?_) (fun h2 => ?_)
  · exact And.intro trivial (And.intro rfl (And.intro e.symm trivial))
  refine And.intro (fun h3 => ?_) (fun h3 => ?_)
  · exact And.intro trivial (And.intro rfl (And.intro e.symm trivial))
  · have h3 : j < ((belowL t).length : Int) := h3
    exact absurd ⟨h1, h2, by omega⟩ h
abbrev openA (t : List (List Int)) (j : Nat) : AV := .agg [.ro (.ints .i64 (classR t)), .ro (.ints .i64 (classL t)), .ro (.ints .i64 (classJ t)), .ro (.ints .i64 (classH t)), .ro (.brows (belowL t)), .ro (.ints .i64 (elemsJ t j)), .ro (.bools (inJ t j)), .bool (.v (minJ t j))]
theorem copen_no (t : List (List Int)) (j : Int) (h : ¬ (validV t = 0 ∧ 0 ≤ j ∧ j < numJ t)) : QF 30 [.ro (.rows .i64 t), .int .i64 j] (.tup [.agg [.nils, .nils, .nils, .nils, .nils, .nils, .nils, .bool (.lit false)], .int .i64 (openV t j)]) := mkQ Try.func30 (by decide +kernel) rfl (Nat.le_of_ble_eq_true rfl) fun _ => by
  have hbl := belowL_len t
  refine Or.inl (cq (valid_fn t) (And.intro rfl trivial) ?_)
  refine And.intro (fun h1 => ?_) (fun h1 => ?_)
  · have e : openV t j = validV t := by unfold openV; rw [if_neg h1]
    exact And.intro (And.intro trivial (And.intro trivial (And.intro trivial (And.intro trivial (And.intro trivial (And.intro trivial (And.intro trivial (And.intro rfl trivial)))))))) (And.intro e.symm trivial)
  have h1 : validV t = 0 := h1
  have hs := valid_zero.1 h1
  have hmost := hs.most
  have e : openV t j = 1 := by unfold openV; rw [if_pos h1]
  refine Or.inl <| Exists.intro [false, false, false, false, false, false, false, true] (And.intro (by decide +kernel) ?_)
  refine cq (green_fn t hs) (And.intro rfl trivial) ?_
  refine And.intro (by omega) ?_
  refine And.intro (by omega) ?_
  refine And.intro (fun h2 => ?_) (fun h2 => ?_)
  · exact And.intro (And.intro trivial (And.intro trivial (And.intro trivial (And.intro trivial (And.intro trivial (And.intro trivial (And.intro trivial (And.intro rfl trivial)))))))) (And.intro e.symm trivial)
  refine And.intro (fun h3 => ?_) (fun h3 => ?_)
  · exact And.intro (And.intro trivial (And.intro trivial (And.intro trivial (And.intro trivial (And.intro trivial (And.intro trivial (And.intro trivial (And.intro rfl trivial)))))))) (And.intro e.symm trivial)
  · have h3 : j < ((belowL t).length : Int) := h3
    exact absurd ⟨h1, h2, by omega⟩ h
theorem elems_upTo {t : List (List Int)} {j : Nat} (hj : j < numJ t) : elemsJ t j = upTo (classJ t) t.length j := by
  rw [elemsJ_eq hj]; rfl
theorem copen_fn (t : List (List Int)) (h : Semi t) (j : Nat) (hj : j < numJ t) : QF 30 [.ro (.rows .i64 t), .int .i64 j] (.tup [openA t j, .int .i64 0]) := mkQ Try.func30 (by decide +kernel) rfl (Nat.le_of_ble_eq_true rfl) fun _ => by
  have hpos := h.pos
  have hmost := h.most
  have hbl := belowL_len t
  have hjl := classJ_len t
  have hle := numJ_le t
  refine Or.inl (cq (valid_fn t) (And.intro rfl trivial) ?_)
  refine And.intro (fun h1 => absurd (valid_zero.2 h) h1) (fun h1 => ?_)
  refine Or.inl <| Exists.intro [false, false, false, false, false, false, false, true] (And.intro (by decide +kernel) ?_)
  refine cq (green_fn t h) (And.intro rfl trivial) ?_
  refine And.intro (by omega) ?_
  refine And.intro (by omega) ?_
  refine And.intro (fun h2 => by have h2 : (j : Int) < 0 := h2; omega) (fun h2 => ?_)
  refine And.intro (fun h3 => by have h3 : ((belowL t).length : Int) ≤ j := h3; omega) (fun h3 => ?_)
  refine Exists.intro [] <| lp2 (fun (i : Nat) (_ : List Bool) => [(39, .int .i64 i)]) (fun i b => [(51, .vec 0 (.ints .i64 (upTo (classJ t) i j)) []), (22, .vec 0 (.bools b) []), (7, .box [.ro (.ints .i64 (classR t)), .ro (.ints .i64 (classL t)), .ro (.ints .i64 (classJ t)), .ro (.ints .i64 (classH t)), .ro (.brows (belowL t)), .vec 51, .vec 22, .bool (.lit true)])])
    (fun i b => i ≤ t.length ∧ b.length = t.length ∧ ∀ x, x < t.length → b.getD x false = (decide (x < i) && decide ((classJ t).getD x 0 = (j : Int)))) (fun i _ => t.length - i) 0 (List.replicate t.length false) ⟨Nat.zero_le _, by simp, fun x hx => by rw [rep_false]; simp⟩ (by repeat' first | refine And.intro ?_ ?_ | exact True.intro | (show (_ : Int) = (_ : Int); omega) | omega | exact rfl | (simp only [RO.len]; omega)) ?_
  rintro i b ⟨hi, hb, hs⟩
  have hul := upTo_le (classJ t) i j
  refine And.intro (fun h4 => ?_) (fun h4 => ?_)
  · have hil : i < t.length := by omega
    refine And.intro (by omega) ?_
    refine And.intro (fun h5 => ?_) (fun h5 => ?_)
    · have h5 : (classJ t).getD i 0 = (j : Int) := h5
      refine And.intro (by rw [List.length_append]; simp; omega) ?_
      refine And.intro (by omega) ?_
      refine And.intro (by omega) ?_
      refine And.intro (by omega) ?_
      refine nx (i + 1, b.set i true) ⟨by omega, by rw [List.length_set]; exact hb, fun x hx => ?_⟩ (show t.length - (i + 1) < t.length - i by omega) ?_
      · by_cases hxi : x = i
        · subst hxi; rw [getD_set_eq (by omega)]; simp only [h5, decide_true, Bool.and_true, Nat.lt_succ_self]
        · rw [getD_set_ne (Ne.symm hxi), hs x hx]
          have : (x < i + 1) ↔ x < i := by omega
          simp only [this]
      · refine And.intro (And.intro rfl trivial) ?_
        refine And.intro (And.intro (And.intro (by omega) (by simp only [RO.len]; omega)) ?_) ?_
        · exact congrArg (RO.ints .i64) (upTo_here h5).symm
        · repeat' first | refine And.intro ?_ ?_ | exact True.intro | (show (_ : Int) = (_ : Int); omega) | omega | exact rfl | (simp only [RO.len]; omega)
    · have h5 : (classJ t).getD i 0 ≠ (j : Int) := h5
      refine And.intro (by omega) ?_
      refine nx (i + 1, b) ⟨by omega, hb, fun x hx => ?_⟩ (show t.length - (i + 1) < t.length - i by omega) ?_
      · rw [hs x hx]
        by_cases hxi : x = i
        · subst hxi; simp only [h5, decide_false, Bool.and_false]
        · have : (x < i + 1) ↔ x < i := by omega
          simp only [this]
      · refine And.intro (And.intro rfl trivial) ?_
        refine And.intro (And.intro (And.intro (by omega) (by simp only [RO.len]; omega)) ?_) ?_
        · exact congrArg (RO.ints .i64) (upTo_there h5).symm
        · repeat' first | refine And.intro ?_ ?_ | exact True.intro | (show (_ : Int) = (_ : Int); omega) | omega | exact rfl | (simp only [RO.len]; omega)
  have hii : i = t.length := by omega
  have hbb : b = inJ t j := by
    refine List.ext_getElem (by rw [hb, inJ_len]) fun q h6 h7 => ?_
    rw [← getD_eq (d := false) h6, ← getD_eq (d := false) h7, hs q (by omega), inJ_get (by omega)]
    simp only [show q < i by omega, decide_true, Bool.true_and]
  have hee : upTo (classJ t) i j = elemsJ t j := by rw [elems_upTo hj, hii]
  refine Exists.intro [] <| lp (X := Nat) (fun k => [(62, .int .i64 k)]) (fun k => [(7, .box [.ro (.ints .i64 (classR t)), .ro (.ints .i64 (classL t)), .ro (.ints .i64 (classJ t)), .ro (.ints .i64 (classH t)), .ro (.brows (belowL t)), .vec 51, .vec 22, .bool (.v ((List.range k).all fun k => decide (k = j) || !(inJB t (fstC (classJ t) j) (fstC (classJ t) k))))])]) (fun k => k ≤ numJ t) (fun k => numJ t - k) 0 (Nat.zero_le _) (by repeat' first | refine And.intro ?_ ?_ | exact True.intro | (show (_ : Int) = (_ : Int); omega) | omega | exact rfl | (simp only [RO.len]; omega)) ?_
  intro k hk
  refine And.intro (fun h6 => ?_) (fun h6 => ?_)
  · have hkn : k < numJ t := by omega
    have hrl : ((belowL t).getD k []).length = numJ t := by rw [belowL_row hkn]; simp
    have hg := belowL_get (t := t) hkn hj
    have step : ∀ (b : Bool), (b = (decide (k = j) || !(inJB t (fstC (classJ t) j) (fstC (classJ t) k)))) → (List.range (k + 1)).all (fun k => decide (k = j) || !(inJB t (fstC (classJ t) j) (fstC (classJ t) k))) = ((List.range k).all (fun k => decide (k = j) || !(inJB t (fstC (classJ t) j) (fstC (classJ t) k))) && b) := fun b hb => by
      rw [List.range_succ, List.all_append, hb]; simp
    refine And.intro (by omega) ?_
    refine And.intro (fun h7 => ?_) (fun h7 => ?_)
    · have hkj : k ≠ j := fun e => h7 (by rw [e])
      refine And.intro (show 0 ≤ (j : Int) ∧ (j : Int) < (((belowL t).getD k []).length : Int) by omega) ?_
      refine And.intro (fun h8 => ?_) (fun h8 => ?_)
      · have h8 : ((belowL t).getD k []).getD j false = true := h8
        rw [hg] at h8
        refine And.intro (by omega) ?_
        have e := step false (by simp [hkj, h8])
        refine nx (k + 1) (show k + 1 ≤ numJ t by omega) (show numJ t - (k + 1) < numJ t - k by omega) ?_
        refine And.intro (And.intro rfl trivial) ?_
        refine And.intro (by repeat' first | refine And.intro ?_ ?_ | exact True.intro | (show (_ : Int) = (_ : Int); omega) | omega | exact rfl | (simp only [RO.len]; omega)) (And.intro ?_ (by repeat' first | refine And.intro ?_ ?_ | exact True.intro | (show (_ : Int) = (_ : Int); omega) | omega | exact rfl | (simp only [RO.len]; omega)))
        refine And.intro rfl (And.intro rfl (And.intro rfl (And.intro rfl (And.intro rfl (And.intro (And.intro rfl (And.intro trivial trivial)) (And.intro (And.intro rfl (And.intro trivial trivial)) (And.intro ?_ trivial)))))))
        show false = (List.range (k + 1)).all _
        rw [e]; simp
      · have h8 : ((belowL t).getD k []).getD j false = false := h8
        rw [hg] at h8
        refine And.intro (by omega) ?_
        have e := step true (by simp [h8])
        refine nx (k + 1) (show k + 1 ≤ numJ t by omega) (show numJ t - (k + 1) < numJ t - k by omega) ?_
        refine And.intro (And.intro rfl trivial) ?_
        refine And.intro (by repeat' first | refine And.intro ?_ ?_ | exact True.intro | (show (_ : Int) = (_ : Int); omega) | omega | exact rfl | (simp only [RO.len]; omega)) (And.intro ?_ (by repeat' first | refine And.intro ?_ ?_ | exact True.intro | (show (_ : Int) = (_ : Int); omega) | omega | exact rfl | (simp only [RO.len]; omega)))
        refine And.intro rfl (And.intro rfl (And.intro rfl (And.intro rfl (And.intro rfl (And.intro (And.intro rfl (And.intro trivial trivial)) (And.intro (And.intro rfl (And.intro trivial trivial)) (And.intro ?_ trivial)))))))
        show (List.range k).all _ = (List.range (k + 1)).all _
        rw [e]; simp
    · have h7 : (k : Int) = (j : Int) := h7
      refine And.intro (by omega) ?_
      have e := step true (by simp [show k = j by omega])
      refine nx (k + 1) (show k + 1 ≤ numJ t by omega) (show numJ t - (k + 1) < numJ t - k by omega) ?_
      refine And.intro (And.intro rfl trivial) ?_
      refine And.intro (by repeat' first | refine And.intro ?_ ?_ | exact True.intro | (show (_ : Int) = (_ : Int); omega) | omega | exact rfl | (simp only [RO.len]; omega)) (And.intro ?_ (by repeat' first | refine And.intro ?_ ?_ | exact True.intro | (show (_ : Int) = (_ : Int); omega) | omega | exact rfl | (simp only [RO.len]; omega)))
      refine And.intro rfl (And.intro rfl (And.intro rfl (And.intro rfl (And.intro rfl (And.intro (And.intro rfl (And.intro trivial trivial)) (And.intro (And.intro rfl (And.intro trivial trivial)) (And.intro ?_ trivial)))))))
      show (List.range k).all _ = (List.range (k + 1)).all _
      rw [e]; simp
  · have hkk : k = numJ t := by omega
    subst hkk
    refine And.intro ?_ (And.intro rfl trivial)
    refine And.intro rfl (And.intro rfl (And.intro rfl (And.intro rfl (And.intro rfl (And.intro (And.intro trivial ?_) (And.intro (And.intro trivial ?_) (And.intro rfl trivial)))))))
    · rw [hee]
    · rw [hbb]
end Go.Proofs.Ytpanlghofeebhaa
end
section
/- A Rees matrix semigroup is a semigroup. -/
namespace Go.Proofs.Ytpanlghofeebhaa
open Classical
def triI (n C : Int) (z : Bool) (i g l : Nat) : Int := numI n C z i g l
def pe (P : List (List Int)) (l i : Nat) : Int := (P.getD l []).getD i 0
end Go.Proofs.Ytpanlghofeebhaa
end
section
/- Is a numbering of a J-class an isomorphism onto a matrix semigroup? Plain; no program. -/
namespace Go.Proofs.Ytpanlghofeebhaa
open Go Go.AM
attribute [local instance] Classical.propDecidable
def mapAt (t : List (List Int)) (j : Nat) (b S : Int) (m : List Int) (x : Nat) : Prop :=
  ((classJ t).getD x 0 ≠ (j : Int) → m.getD x 0 = -1) ∧
  ((classJ t).getD x 0 = (j : Int) → b ≤ m.getD x 0 ∧ m.getD x 0 < S ∧ ∀ y, y < x → (classJ t).getD y 0 = (j : Int) → m.getD y 0 ≠ m.getD x 0)
def pairAt (t : List (List Int)) (j : Nat) (G : List (List Int)) (C : Int) (P : List (List Int)) (z : Bool) (m : List Int) (x y : Nat) : Prop :=
  ((classJ t).getD (en t x y) 0 = (j : Int) → mulI G C P z (m.getD x 0) (m.getD y 0) = m.getD (en t x y) 0) ∧
  ((classJ t).getD (en t x y) 0 ≠ (j : Int) → z = true ∧ mulI G C P z (m.getD x 0) (m.getD y 0) = 0)
def ChkPre (t : List (List Int)) (j : Int) (G : List (List Int)) (R C : Int) (P : List (List Int)) (z : Bool) (m : List Int) : Prop :=
  (validV t = 0 ∧ 0 ≤ j ∧ j < numJ t) ∧ reesV G R C P z = 0 ∧ z ≠ minJ t j.toNat ∧ m.length = t.length
def PairsTo (t : List (List Int)) (j : Nat) (G : List (List Int)) (C : Int) (P : List (List Int)) (z : Bool) (m : List Int) (k : Nat) : Prop :=
  ∀ a, a < k → ∀ b, b < (elemsJ t j).length → pairAt t j G C P z m ((elemsJ t j).getD a 0).toNat ((elemsJ t j).getD b 0).toNat
def ChkGood (t : List (List Int)) (j : Nat) (G : List (List Int)) (R C : Int) (P : List (List Int)) (z : Bool) (m : List Int) : Prop :=
  (∀ x, x < t.length → mapAt t j (zI z) (sizeI G.length R C z) m x) ∧ ((elemsJ t j).length : Int) = sizeI G.length R C z - zI z ∧ PairsTo t j G C P z m (elemsJ t j).length
noncomputable def chkB (t : List (List Int)) (j : Int) (G : List (List Int)) (R C : Int) (P : List (List Int)) (z : Bool) (m : List Int) : Bool :=
  decide (ChkPre t j G R C P z m ∧ ChkGood t j.toNat G R C P z m)
variable {t : List (List Int)} {j : Nat} {G : List (List Int)} {R C : Int} {P : List (List Int)} {z : Bool} {m : List Int}
theorem chk_pre {j : Int} (h : ¬ ChkPre t j G R C P z m) : false = chkB t j G R C P z m := by
  unfold chkB; rw [eq_comm, decide_eq_false_iff_not]; exact fun hh => h hh.1
theorem chk_bad (h : ¬ ChkGood t j G R C P z m) : false = chkB t (j : Int) G R C P z m := by
  unfold chkB; rw [eq_comm, decide_eq_false_iff_not, Int.toNat_natCast]; exact fun hh => h hh.2
theorem chk_map {x : Nat} (hx : x < t.length) (h : ¬ mapAt t j (zI z) (sizeI G.length R C z) m x) : false = chkB t (j : Int) G R C P z m := chk_bad fun hh => h (hh.1 x hx)
theorem chk_cnt (h : ((elemsJ t j).length : Int) ≠ sizeI G.length R C z - zI z) : false = chkB t (j : Int) G R C P z m := chk_bad fun hh => h hh.2.1
theorem chk_pair {a b : Nat} (ha : a < (elemsJ t j).length) (hb : b < (elemsJ t j).length) (h : ¬ pairAt t j G C P z m ((elemsJ t j).getD a 0).toNat ((elemsJ t j).getD b 0).toNat) : false = chkB t (j : Int) G R C P z m := chk_bad fun hh => h (hh.2.2 a ha b hb)
theorem chk_yes (hp : ChkPre t (j : Int) G R C P z m) (h : ChkGood t j G R C P z m) : true = chkB t (j : Int) G R C P z m := by
  unfold chkB; rw [eq_comm, decide_eq_true_iff, Int.toNat_natCast]; exact ⟨hp, h⟩
structure ChkInv (t : List (List Int)) (j : Nat) (b S : Int) (m : List Int) (i : Nat) (q : List Bool) : Prop where
  le : i ≤ t.length
  len : (q.length : Int) = S
  ok : ∀ x, x < i → mapAt t j b S m x
  met : ∀ v : Nat, v < q.length → (q.getD v false = true ↔ ∃ x, x < i ∧ (classJ t).getD x 0 = (j : Int) ∧ m.getD x 0 = v)
theorem ChkInv.start (b : Int) {S : Int} (hS : 0 ≤ S) : ChkInv t j b S m 0 (List.replicate S.toNat false) :=
  ⟨Nat.zero_le _, by rw [List.length_replicate]; omega, fun x hx => absurd hx (Nat.not_lt_zero _), fun v hv => by
    rw [List.length_replicate] at hv
    have : (List.replicate S.toNat false).getD v false = false := by simp [List.getD, hv]
    rw [this]
    exact ⟨fun h => Bool.noConfusion h, fun ⟨x, hx, _⟩ => absurd hx (Nat.not_lt_zero _)⟩⟩
theorem ChkInv.skip {b S : Int} {i : Nat} {q : List Bool} (h : ChkInv t j b S m i q) (hi : i < t.length) (hc : (classJ t).getD i 0 ≠ (j : Int)) (hm : m.getD i 0 = -1) : ChkInv t j b S m (i + 1) q :=
  ⟨by omega, h.len, fun x hx => by
    by_cases hxi : x = i
    · subst hxi; exact ⟨fun _ => hm, fun hh => absurd hh hc⟩
    · exact h.ok x (by omega), fun v hv => by
    rw [h.met v hv]
    constructor
    · rintro ⟨x, h1, h2, h3⟩; exact ⟨x, by omega, h2, h3⟩
    · rintro ⟨x, h1, h2, h3⟩
      refine ⟨x, ?_, h2, h3⟩
      have : x ≠ i := fun e => hc (e ▸ h2)
      omega⟩
theorem ChkInv.no1 {b S : Int} {i : Nat} (hc : (classJ t).getD i 0 ≠ (j : Int)) (hm : m.getD i 0 ≠ -1) : ¬ mapAt t j b S m i := fun h => hm (h.1 hc)
theorem ChkInv.no2 {b S : Int} {i : Nat} (hc : (classJ t).getD i 0 = (j : Int)) (hm : m.getD i 0 < b ∨ S ≤ m.getD i 0) : ¬ mapAt t j b S m i := fun h => by have := h.2 hc; omega
theorem ChkInv.no3 {b S : Int} (hb : 0 ≤ b) {i : Nat} {q : List Bool} (h : ChkInv t j b S m i q) (hc : (classJ t).getD i 0 = (j : Int)) (h1 : b ≤ m.getD i 0) (h2 : m.getD i 0 < S) (hq : q.getD (m.getD i 0).toNat false = true) : ¬ mapAt t j b S m i := fun hh => by
  have hl := h.len
  obtain ⟨x, hx, hcx, hmx⟩ := (h.met (m.getD i 0).toNat (by omega)).1 hq
  exact (hh.2 hc).2.2 x hx hcx (by omega)
theorem ChkInv.put {b S : Int} (hb : 0 ≤ b) {i : Nat} {q : List Bool} (h : ChkInv t j b S m i q) (hi : i < t.length) (hc : (classJ t).getD i 0 = (j : Int)) (h1 : b ≤ m.getD i 0) (h2 : m.getD i 0 < S) (hq : q.getD (m.getD i 0).toNat false = false) : ChkInv t j b S m (i + 1) (q.set (m.getD i 0).toNat true) := by
  have hl := h.len
  refine ⟨by omega, by rw [List.length_set]; exact hl, fun x hx => ?_, fun v hv => ?_⟩
  · by_cases hxi : x = i
    · subst hxi
      refine ⟨fun hh => absurd hc hh, fun _ => ⟨h1, h2, fun y hy hcy he => ?_⟩⟩
      have := (h.met (m.getD x 0).toNat (by omega)).2 ⟨y, hy, hcy, by omega⟩
      rw [hq] at this; cases this
    · exact h.ok x (by omega)
  · rw [List.length_set] at hv
    by_cases hvi : v = (m.getD i 0).toNat
    · subst hvi
      rw [getD_set_eq (by omega)]
      exact ⟨fun _ => ⟨i, by omega, hc, by omega⟩, fun _ => rfl⟩
    · rw [getD_set_ne (Ne.symm hvi), h.met v hv]
      constructor
      · rintro ⟨x, g1, g2, g3⟩; exact ⟨x, by omega, g2, g3⟩
      · rintro ⟨x, g1, g2, g3⟩
        refine ⟨x, ?_, g2, g3⟩
        have : x ≠ i := fun e => hvi (by subst e; omega)
        omega
theorem elems_get {a : Nat} (hj : j < numJ t) (ha : a < (elemsJ t j).length) : 0 ≤ (elemsJ t j).getD a 0 ∧ (elemsJ t j).getD a 0 < t.length ∧ (classJ t).getD ((elemsJ t j).getD a 0).toNat 0 = (j : Int) := (mem_elems hj).1 (getD_mem ha)
end Go.Proofs.Ytpanlghofeebhaa
end
