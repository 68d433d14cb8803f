import Derived.Shelf.SlSortCmp.Whole1
import Derived.Test.YtjlkhjgnfnfmgaaGreatLay
import Derived.Test.YtjlkhjgnfnfmgaaGreatOrd
import Derived.Test.YtjlkhjgnfnfmgaaGreatIdealLaw
import Derived.Test.YtjlkhjgnfnfmgaaGreatPermLaw
import Derived.Test.YtjlkhjgnfnfmgaaGreatGnLaw
section
/- slices.SortFunc over rows of integers: from the shelf's contract to the abstract machine's. -/
namespace Go.Proofs.YtjlkhjgnfnfmgaaGreat
open Go Go.AM Go.Sort Go.Lib
def RowV (w : World) (M : Msk) : Type := { v : Value // ∃ m : List Int, SlI w M .i64 m v }
instance (w : World) (M : Msk) : Inhabited (RowV w M) := ⟨⟨.slice none 0 0, [], Nat.zero_le _, none, 0, rfl, Nat.le_refl _, .inl rfl⟩⟩
noncomputable def RowV.row {w : World} {M : Msk} (x : RowV w M) : List Int := Classical.choose x.2
theorem RowV.reads {w : World} {M : Msk} (x : RowV w M) : SlI w M .i64 x.row x.1 := Classical.choose_spec x.2
theorem sli_inj {w : World} {M : Msk} {k : IntKind} {l m : List Int} {v : Value} (h : SlI w M k l v) (h' : SlI w M k m v) : l = m := by
  obtain ⟨_, a, cap, rfl, _, h1⟩ := h
  obtain ⟨_, a', cap', hv, _, h2⟩ := h'
  have hl : l.length = m.length := by injection hv
  have ha : a = a' := by injection hv
  subst ha
  refine List.ext_getElem hl fun i hi hi' => ?_
  rcases h1 with h1 | ⟨b, off, rfl, h1⟩
  · omega
  · rcases h2 with h2 | ⟨b', off', he, h2⟩
    · omega
    · cases he
      obtain ⟨c, g1, _, g2, _⟩ := h1 i hi
      obtain ⟨c', g3, _, g4, _⟩ := h2 i hi'
      rw [g1] at g3; cases g3
      rw [g2] at g4
      rw [getD_eq hi, getD_eq hi'] at g4
      injection g4
theorem stp_grow {w w' : World} (h : Stp (fun _ _ => False) w w') : ∃ q os, w' = grow (w.drewN q) os := by
  obtain ⟨hsz, hb, ⟨⟨ho1, ho2⟩, ht, hd⟩⟩ := h
  have heap : ∀ b, b < w.heap.size → w'.heap[b]? = w.heap[b]? := fun b hlt => by
    rcases hb b hlt with h | ⟨cs, cs', ty, h1, h2, h3, h4⟩ | ⟨_, _, _, _, _, _, h⟩
    · exact h
    · rw [h1, h2]
      have : cs' = cs := Array.ext_getElem? fun i => h4 i (by simp)
      rw [this]
    · exact h.elim
  refine ⟨w'.drawn - w.drawn, w'.heap.extract w.heap.size w'.heap.size, ?_⟩
  have e1 : w'.heap = w.heap ++ w'.heap.extract w.heap.size w'.heap.size := by
    apply Array.ext_getElem?
    intro i
    rw [Array.getElem?_append]
    split
    · rename_i hi; exact heap i hi
    · rename_i hi
      rw [Array.getElem?_extract]
      split
      · rename_i hi'
        rw [show w.heap.size + (i - w.heap.size) = i by omega]
      · rename_i hi'
        exact Array.getElem?_eq_none (by omega)
  have e2 : w'.drawn = w.drawn + (w'.drawn - w.drawn) := by omega
  cases w with
  | mk heap tape drawn os output =>
  cases w' with
  | mk heap' tape' drawn' os' output' =>
  simp only [grow, World.drewN] at *
  subst ho1; subst ho2; subst ht
  congr 1
section
variable {w : World} {M : Msk} {b : Nat} {cs : Array Value} {ty : TypeId} (hb : w.heap[b]? = some (.cells cs ty (0, 0)))
include hb
theorem lt_of_block : b < w.heap.size := by
  rcases Nat.lt_or_ge b w.heap.size with h | h
  · exact h
  · rw [Array.getElem?_eq_none h] at hb; cases hb
theorem sortW_block {α : Type} [Inhabited α] (enc : α → Value) (m : Nat) (dk : Array α) (os : Array Obj) : (sortWorld enc w b 0 m dk os).heap[b]? = some (.cells (putCells enc 0 dk cs) ty (0, 0)) := by
  have hlt := lt_of_block hb
  show ((putRow enc (Sort.ahead w m) b 0 dk).heap ++ os)[b]? = _
  rw [Array.getElem?_append_left (by rw [size_putRow]; exact hlt)]
  show ((w.heap.modify b (onCells (putCells enc 0 dk))))[b]? = _
  rw [Array.getElem?_modify, if_pos rfl, hb]; rfl
omit hb in
theorem sortW_other {α : Type} [Inhabited α] (enc : α → Value) (m : Nat) (dk : Array α) (os : Array Obj) {b' : Nat} (hne : b' ≠ b) (hlt : b' < w.heap.size) : (sortWorld enc w b 0 m dk os).heap[b']? = w.heap[b']? := by
  show ((putRow enc (Sort.ahead w m) b 0 dk).heap ++ os)[b']? = _
  rw [Array.getElem?_append_left (by rw [size_putRow]; exact hlt)]
  show ((w.heap.modify b (onCells (putCells enc 0 dk))))[b']? = _
  rw [Array.getElem?_modify, if_neg (Ne.symm hne)]
omit hb in
theorem sortW_size {α : Type} [Inhabited α] (enc : α → Value) (m : Nat) (dk : Array α) (os : Array Obj) : (sortWorld enc w b 0 m dk os).heap.size = w.heap.size + os.size := by
  show ((putRow enc (Sort.ahead w m) b 0 dk).heap ++ os).size = _
  rw [Array.size_append, size_putRow]; rfl
omit hb in
theorem putCells_size {α : Type} [Inhabited α] (enc : α → Value) (d : Array α) : (putCells enc 0 d cs).size = cs.size := by simp [putCells]
omit hb in
theorem putCells_at {α : Type} [Inhabited α] (enc : α → Value) (d : Array α) {q : Nat} (hq : q < d.size) (hc : q < cs.size) : (putCells enc 0 d cs)[q]? = some (enc d[q]!) := by
  simp [putCells, hq, hc]
theorem sortW_stp {α : Type} [Inhabited α] (enc : α → Value) (m : Nat) (dk : Array α) (os : Array Obj) (hM : ∀ off, M b off ↔ off < cs.size) : Stp (fun b' off => b' = b ∧ M b' off) w (sortWorld enc w b 0 m dk os) := by
  refine ⟨by rw [sortW_size]; omega, fun b' hb' => ?_, ⟨⟨rfl, rfl⟩, rfl, ?_⟩⟩
  · by_cases e : b' = b
    · subst e
      refine .inr (.inl ⟨cs, _, ty, hb, sortW_block hb enc m dk os, putCells_size enc dk, fun off hn => ?_⟩)
      have : ¬ off < cs.size := fun h => hn ⟨rfl, (hM off).2 h⟩
      rw [Array.getElem?_eq_none (by rw [putCells_size]; omega), Array.getElem?_eq_none (by omega)]
    · exact .inl (sortW_other enc m dk os e hb')
  · show w.drawn ≤ w.drawn + m
    omega
end
theorem sortRows_m {g : FuncId} {c : List Int → List Int → Int} (hc : TotC c) (hg : ∀ a b, QF g [.ro (.ints .i64 a), .ro (.ints .i64 b)] (.int .i64 (c a b))) (l : List (List Int)) (hl : 0 < l.length) :
    MF 43 [.vec 1000, .fn g []] [(1000, .vec 0 (.rows .i64 l) [])] (.tup []) [(1000, .vec 0 (.rows .i64 (srt c l)) [])] := by
  refine ⟨⟨_, Tryz.func43, by decide +kernel, rfl⟩, fun ρ M w vs st hv => ?_⟩
  obtain ⟨⟨o, ho, hlen, hsz, hlb, _, hblk⟩, _⟩ := st.blk 1000 _ rfl
  have hlen : o.len = l.length := hlen
  have hsz : o.sz = 1 := hsz
  cases hob : o.blk with
  | none =>
    simp only [hob] at hblk
    have : l.length = 0 := hblk.1
    omega
  | some b =>
  simp only [hob] at hblk
  obtain ⟨hcap, cs, ty, hb, hcs, hM, hcell⟩ := hblk
  have hM : ∀ off, M b off ↔ off < cs.size := fun off => by rw [hM off]; omega
  have hcell : ∀ q, q < l.length → ∃ v, cs[q]? = some v ∧ SlI w M .i64 (l.getD q []) v := fun q hq => hcell q (by simpa [RO.cells, RO.len, RO.sz] using hq)
  have hcsl : l.length ≤ cs.size := by rw [hcs, hsz]; omega
  match vs, hv with
  | [v0, v1], ⟨h0, h1, _⟩ =>
  obtain ⟨o', ho', rfl⟩ := h0
  rw [ho] at ho'; cases ho'
  obtain ⟨ca, rfl, hca⟩ := h1
  have hca : ca = #[] := by
    obtain ⟨k⟩ := ca
    cases k with
    | nil => rfl
    | cons => exact hca.elim
  subst hca
  let enc : RowV w M → Value := fun x => x.1
  let cf : RowV w M → RowV w M → Int := fun x y => c x.row y.row
  have hex : ∀ q, ∃ x : RowV w M, q < l.length → cs[q]? = some x.1 ∧ x.row = l.getD q [] := fun q => by
    by_cases hq : q < l.length
    · obtain ⟨v, g1, g2⟩ := hcell q hq
      exact ⟨⟨v, _, g2⟩, fun _ => ⟨g1, sli_inj (RowV.reads _) g2⟩⟩
    · exact ⟨default, fun h => absurd h hq⟩
  let d : Array (RowV w M) := ((List.range l.length).map fun q => Classical.choose (hex q)).toArray
  have hds : d.size = l.length := by simp [d]
  have hd : ∀ q, q < l.length → cs[q]? = some (enc d[q]!) ∧ (d[q]!).row = l.getD q [] := fun q hq => by
    have : d[q]! = Classical.choose (hex q) := by simp [d, hq]
    rw [this]
    exact Classical.choose_spec (hex q) hq
  have hO : SWO (ltOf cf) := by
    refine ⟨fun x => ?_, fun x y z h1 h2 => ?_, fun x y z h1 h2 => ?_⟩
    · exact decide_eq_false (by have := hc.self x.row; show ¬ c x.row x.row < 0; omega)
    · simp only [ltOf, cf] at *
      exact decide_eq_true (hc.trans _ _ _ (of_decide_eq_true h1) (of_decide_eq_true h2))
    · simp only [ltOf, cf] at *
      have h1 := of_decide_eq_false h1
      have h2 := of_decide_eq_false h2
      refine decide_eq_false ?_
      have s1 := hc.swap x.row y.row
      have s2 := hc.swap y.row z.row
      have s3 := hc.swap x.row z.row
      have := le_trans' hc (a := z.row) (b := y.row) (d := x.row) (by omega) (by omega)
      omega
  have hlt := lt_of_block hb
  have hone : OneCell enc := fun x => by
    obtain ⟨_, a, cap, he, _⟩ := x.reads
    show x.1.oneCell' = true
    rw [he]; rfl
  have hH : Holds enc w b 0 d := fun j hj => by
    rw [hds] at hj
    refine ⟨by rw [Nat.zero_add, cell_of_heap hb]; exact (hd j hj).1, ?_⟩
    simp [World.frozen?, hb]
  have keep : ∀ m dk os, Keep w M (sortWorld enc w b 0 m dk os) M := fun m dk os b' off v h1 h2 => ⟨(sortW_stp hb enc m dk os hM).cell h1 fun h => h2 h.2, h2⟩
  have hcmp : CmpLays1 Tryz.prog g #[] enc cf b 0 d.size w := fun m os dk _ x y => by
    have hk := keep m dk os
    have hreads : RepL (RepT noEnv (sortWorld enc w b 0 m dk os) M) [.ro (.ints .i64 x.row), .ro (.ints .i64 y.row)] [enc x, enc y] :=
      ⟨rep_ints.2 (x.reads.keep hk), rep_ints.2 (y.reads.keep hk), trivial⟩
    have := (hg x.row y.row).2 M (sortWorld enc w b 0 m dk os) [enc x, enc y] (fun b' off hm => by rw [sortW_size]; have := st.mlt b' off hm; omega) hreads
    refine Calls.mono this fun e w' ⟨v, he, hs, _, _, _, hv⟩ => ?_
    obtain ⟨rfl, _⟩ : v = .int .i64 (c x.row y.row) ∧ _ := hv
    exact ⟨he, stp_grow hs⟩
  have eg : ∀ args w, (callFunc g args).run Tryz.prog w = .ok (.enter g args) w := by
    obtain ⟨fn, h1, h2, h3⟩ := (hg [] []).1
    obtain ⟨cd, hcd⟩ := Option.isSome_iff_exists.1 h3
    exact enters_of h1 (by simpa using h2) hcd
  have hcall := Any.slices_SortFunc sortL enc hone cf hO g #[] b 0 o.cap d w eg hcmp hH hlt (by rw [hds]; have : l.length ≤ 140737488355328 := hlb; omega)
  have hv0 : o.val = .slice (some ⟨b, 0, none⟩) d.size o.cap := by rw [Sl.val, hob, hds, hlen]; rfl
  rw [hv0]
  refine Calls.mono hcall fun e w' ⟨he, d', n, os, hp, hsrt, hw⟩ => ?_
  subst hw
  refine ⟨_, ρ, M, he, ?_, ⟨#[], rfl, trivial⟩⟩
  have hds' : d'.size = l.length := by rw [hp.1, hds]
  have hperm : d'.toList.Perm d.toList := by
    have := hp.2.2
    rw [← hp.1, Array.extract_size] at this
    rw [hp.1, Array.extract_size] at this
    exact this
  have hrow : d.toList.map RowV.row = l := by
    refine List.ext_getElem (by simp [hds]) fun i h1 h2 => ?_
    have := (hd i h2).2
    rw [getD_eq h2, getElem!_pos d i (by omega)] at this
    simpa using this
  have hl' : (d'.toList.map RowV.row).Perm l := by rw [← hrow]; exact hperm.map _
  have hsorted : (d'.toList.map RowV.row).Pairwise fun a b => c a b ≤ 0 := by
    rw [List.pairwise_map, List.pairwise_iff_getElem]
    intro i j hi hj hij
    have hi' : i < d'.size := by simpa using hi
    have hj' : j < d'.size := by simpa using hj
    have := hsrt i j (Nat.zero_le _) hij (by rw [hds]; omega)
    rw [getElem!_pos d' i hi', getElem!_pos d' j hj'] at this
    have := of_decide_eq_false this
    have sw := hc.swap (d'[i].row) (d'[j].row)
    have this : ¬ c (d'[j].row) (d'[i].row) < 0 := this
    show c (d'[i].row) (d'[j].row) ≤ 0
    omega
  have heq : srt c l = d'.toList.map RowV.row := srt_uniq hc hsorted hl'
  have hget : ∀ q, q < l.length → (srt c l).getD q [] = (d'[q]!).row := fun q hq => by
    rw [heq, getD_eq (by simp; omega), getElem!_pos d' q (by omega)]
    simp
  have hk := keep n d' os
  have hstp := sortW_stp hb enc n d' os hM
  refine ⟨fun k => by rw [st.dom k, find_cons, find_cons]; split <;> rfl, fun k B hB => ?_, st.inj, fun b' off hm => by rw [sortW_size]; have := st.mlt b' off hm; omega, ?_, st.sub, st.old, st.fresh, st.pin⟩
  · have hk1 : k = 1000 ∧ B = .vec 0 (.rows .i64 (srt c l)) [] := by
      rw [find_cons] at hB
      split at hB
      · rename_i e; cases hB; exact ⟨e.symm, rfl⟩
      · cases hB
    obtain ⟨rfl, rfl⟩ := hk1
    refine ⟨⟨o, ho, by rw [hlen]; exact (srt_len l).symm, hsz, by show (srt c l).length ≤ LB; rw [srt_len]; exact hlb, Nat.zero_le _, ?_⟩, .inl rfl⟩
    simp only [hob]
    refine ⟨hcap, putCells enc 0 d' cs, ty, sortW_block hb enc n d' os, by rw [putCells_size]; exact hcs, fun off => by rw [putCells_size, hM off]; omega, fun q hq => ?_⟩
    have hq : q < l.length := by simpa [RO.cells, RO.len, RO.sz, srt_len] using hq
    refine ⟨enc d'[q]!, putCells_at enc d' (by omega) (by omega), ?_⟩
    show SlI _ M .i64 ((srt c l).getD q []) (enc d'[q]!)
    rw [hget q hq]
    exact (d'[q]!).reads.keep hk
  · refine hstp.weaken fun b' off he => ?_
    obtain ⟨rfl, hm⟩ := he
    exact ⟨⟨1000, by simp [hasB, ho, Own.has, hob]⟩, hm⟩
end Go.Proofs.YtjlkhjgnfnfmgaaGreat
end
section
/- Comparisons of numbers and of lists: contracts. -/
namespace Go.Proofs.YtjlkhjgnfnfmgaaGreat
open Go Go.AM
set_option maxRecDepth 100000
theorem isNaN_fn (a : Int) : QF 101 [.int .i64 a] (.bool (.lit false)) := mkQ Tryz.func101 (by decide +kernel) rfl (Nat.le_of_ble_eq_true rfl) fun _ => by
  refine And.intro ?_ trivial
  show decide (a ≠ a) = false
  simp
theorem compare_fn (a b : Int) : QF 56 [.int .i64 a, .int .i64 b] (.int .i64 (cmpI a b)) := mkQ Tryz.func56 (by decide +kernel) rfl (Nat.le_of_ble_eq_true rfl) fun _ => by
  refine Or.inl (cq (isNaN_fn a) (And.intro rfl trivial) ?_)
  refine Or.inl (cq (isNaN_fn b) (And.intro rfl trivial) ?_)
  unfold cmpI
  refine And.intro (fun h1 => ?_) (fun h1 => ?_)
  · exact And.intro (by rw [if_pos h1]; rfl) trivial
  · refine And.intro (fun h2 => ?_) (fun h2 => ?_)
    · exact And.intro (by rw [if_neg (by omega), if_pos h2]; rfl) trivial
    · exact And.intro (by rw [if_neg (by omega), if_neg (by omega)]; rfl) trivial
theorem compareL_k (a b : List Int) (ha : a.length ≤ 140737488355328) (hb : b.length ≤ 140737488355328) : fnK TY SP Tryz.f44 [.ro (.ints .i64 a), .ro (.ints .i64 b)] (.int .i64 (cmpL a b)) := by
  refine Exists.intro [] <| lp (X := Nat) (fun i => [(11, .int .i64 i)]) (fun _ => []) (fun i => (i ≤ a.length ∧ i ≤ b.length) ∧ ∀ j, j < i → a.getD j 0 = b.getD j 0) (fun i => a.length - i) 0 (by simp) (by repeat' first | refine And.intro ?_ ?_ | exact True.intro | (show (_ : Int) = (_ : Int); omega) | omega | exact rfl | (simp only [RO.len]; omega)) ?_
  rintro i ⟨⟨hi, hi2⟩, hs⟩
  refine And.intro (fun h1 => ?_) (fun h1 => ?_)
  · refine And.intro (by omega) ?_
    refine And.intro (fun h2 => ?_) (fun h2 => ?_)
    · refine And.intro ?_ trivial
      rw [cmpL_end hs hi hi2 (.inr (by omega))]
      unfold cmpI; rw [if_neg (by omega), if_pos (by omega)]; rfl
    · refine And.intro (by omega) ?_
      refine Or.inl (cq (compare_fn (a.getD i 0) (b.getD i 0)) (And.intro rfl (And.intro rfl trivial)) ?_)
      refine And.intro (fun h3 => ?_) (fun h3 => ?_)
      · refine And.intro ?_ trivial
        exact (cmpL_here hs (by omega) (by omega) fun e => h3 (by rw [e]; exact cmpI_tot.self _)).symm
      · refine And.intro (by omega) ?_
        refine nx (i + 1) ⟨⟨by omega, by omega⟩, fun j hj => ?_⟩ (show a.length - (i + 1) < a.length - i by omega) (by repeat' first | refine And.intro ?_ ?_ | exact True.intro | (show (_ : Int) = (_ : Int); omega) | omega | exact rfl | (simp only [RO.len]; omega))
        by_cases e : j = i
        · subst e; exact cmpI_tot.eq _ _ h3
        · exact hs j (by omega)
  · have e := cmpL_end hs hi hi2 (.inl (by omega))
    refine And.intro (fun h2 => ?_) (fun h2 => ?_)
    · refine And.intro ?_ trivial
      rw [e]; unfold cmpI; rw [if_pos h2]; rfl
    · refine And.intro ?_ trivial
      rw [e]; unfold cmpI; rw [if_neg (by omega), if_neg (by omega)]; rfl
theorem compareL_fn (a b : List Int) : QF 44 [.ro (.ints .i64 a), .ro (.ints .i64 b)] (.int .i64 (cmpL a b)) := mkQ Tryz.func44 (by decide +kernel) rfl (Nat.le_of_ble_eq_true rfl) fun hf => compareL_k a b hf.1.1 hf.2.1.1
end Go.Proofs.YtjlkhjgnfnfmgaaGreat
end
section
/- Lists of permutations; group.Generate: contracts. -/
namespace Go.Proofs.YtjlkhjgnfnfmgaaGreat
open Go Go.AM
set_option maxRecDepth 100000
def pmsP (l : List (List Int)) (n : Int) : Prop := ∀ f ∈ l, (f.length : Int) = n ∧ prmP f
noncomputable def pmsB (l : List (List Int)) (n : Int) : Bool := @decide (pmsP l n) (Classical.propDecidable _)
theorem pmsB_true {l : List (List Int)} {n : Int} : pmsB l n = true ↔ pmsP l n := by unfold pmsB; exact @decide_eq_true_iff _ (Classical.propDecidable _)
theorem pmsB_false {l : List (List Int)} {n : Int} : pmsB l n = false ↔ ¬ pmsP l n := by unfold pmsB; exact @decide_eq_false_iff_not _ (Classical.propDecidable _)
theorem gpms_k (l : List (List Int)) (n : Int) (hl : l.length ≤ 140737488355328) : fnK TY SP Tryz.f39 [.ro (.rows .i64 l), .int .i64 n] (.bool (.v (pmsB l n))) := by
  have no : ¬ pmsP l n → (BE.lit false).val = (BE.v (pmsB l n)).val := fun h => (pmsB_false.2 h).symm
  refine Exists.intro [] <| lp (X := Nat) (fun i => [(9, .int .i64 i)]) (fun _ => []) (fun i => i ≤ l.length ∧ ∀ j, j < i → ((l.getD j []).length : Int) = n ∧ prmP (l.getD j [])) (fun i => l.length - i) 0 ⟨Nat.zero_le _, fun j h => absurd h (Nat.not_lt_zero _)⟩ (by repeat' first | refine And.intro ?_ ?_ | exact True.intro | (show (_ : Int) = (_ : Int); omega) | omega | exact rfl | (simp only [RO.len]; omega)) ?_
  rintro i ⟨hi, hI⟩
  refine And.intro (fun h1 => ?_) (fun h1 => ?_)
  · have h1 : (i : Int) < (l.length : Int) := h1
    have hm := getD_mem (d := []) (l := l) (i := i) (by omega)
    refine And.intro (by omega) ?_
    refine And.intro (fun h2 => ?_) (fun h2 => ?_)
    · have h2 : ¬ ((l.getD i []).length : Int) = n := h2
      exact And.intro (no fun h => h2 (h _ hm).1) trivial
    have h2 : ((l.getD i []).length : Int) = n := h2
    refine Or.inl (cq (tperm_fn (l.getD i [])) (And.intro rfl trivial) ?_)
    refine And.intro (fun h3 => ?_) (fun h3 => ?_)
    · have h3 : (!prmB (l.getD i [])) = true := h3
      refine And.intro (no fun h => ?_) trivial
      rw [prmB_true.2 (h _ hm).2] at h3; cases h3
    have h3 : (!prmB (l.getD i [])) = false := h3
    refine And.intro (by omega) ?_
    refine nx (i + 1) ⟨by omega, fun j hj => ?_⟩ (show l.length - (i + 1) < l.length - i by omega) (by repeat' first | refine And.intro ?_ ?_ | exact True.intro | (show (_ : Int) = (_ : Int); omega) | omega | exact rfl | (simp only [RO.len]; omega))
    by_cases e : j = i
    · subst e; exact ⟨h2, prmB_true.1 (by simpa using h3)⟩
    · exact hI j (by omega)
  · have h1 : (l.length : Int) ≤ (i : Int) := h1
    refine And.intro ?_ trivial
    refine (pmsB_true.2 fun f hf => ?_).symm
    obtain ⟨j, hj, rfl⟩ := mem_getD [] hf
    exact hI j (by omega)
theorem gpms_fn (l : List (List Int)) (n : Int) : QF 39 [.ro (.rows .i64 l), .int .i64 n] (.bool (.v (pmsB l n))) := mkQ Tryz.func39 (by decide +kernel) rfl (Nat.le_of_ble_eq_true rfl) fun hf => gpms_k l n hf.1.1
noncomputable def mayV (l : List (List Int)) : Int := if l.length = 0 then 1 else if pmsB l (l.getD 0 []).length = true then 0 else 4
theorem may_zero {l : List (List Int)} : mayV l = 0 ↔ 0 < l.length ∧ pmsP l (l.getD 0 []).length := by
  unfold mayV
  split
  · rename_i h; exact ⟨fun h' => (by cases h'), fun h' => (by omega)⟩
  · split
    · rename_i h1 h2; exact ⟨fun _ => ⟨by omega, pmsB_true.1 h2⟩, fun _ => rfl⟩
    · rename_i h1 h2; exact ⟨fun h' => (by cases h'), fun h' => absurd (pmsB_true.2 h'.2) h2⟩
theorem rmay16_k (l : List (List Int)) (hl : l.length ≤ 140737488355328) : fnK TY SP Tryz.f9 [.ro (.rows .i64 l)] (.int .i64 (mayV l)) := by
  refine And.intro (fun h0 => ?_) (fun h0 => ?_)
  · have h0 : (l.length : Int) = 0 := h0
    exact And.intro (show (1 : Int) = mayV l by unfold mayV; rw [if_pos (by omega)]) trivial
  have h0 : ¬ (l.length : Int) = 0 := h0
  have no : ¬ pmsP l (l.getD 0 []).length → (4 : Int) = mayV l := fun h => by
    unfold mayV; rw [if_neg (by omega), if_neg (by rw [pmsB_true]; exact h)]
  refine Exists.intro [] <| lp (X := Nat) (fun i => [(10, .int .i64 i)]) (fun _ => []) (fun i => i ≤ l.length ∧ ∀ j, j < i → ((l.getD j []).length : Int) = ((l.getD 0 []).length : Int) ∧ prmP (l.getD j [])) (fun i => l.length - i) 0 ⟨Nat.zero_le _, fun j h => absurd h (Nat.not_lt_zero _)⟩ (by repeat' first | refine And.intro ?_ ?_ | exact True.intro | (show (_ : Int) = (_ : Int); omega) | omega | exact rfl | (simp only [RO.len]; omega)) ?_
  rintro i ⟨hi, hI⟩
  refine And.intro (fun h1 => ?_) (fun h1 => ?_)
  · have h1 : (i : Int) < (l.length : Int) := h1
    have hm := getD_mem (d := []) (l := l) (i := i) (by omega)
    refine And.intro (by omega) ?_
    refine Or.inl (cq (rperm_fn (l.getD i [])) (And.intro rfl trivial) ?_)
    refine And.intro (fun h3 => ?_) (fun h3 => ?_)
    · have h3 : (!prmB (l.getD i [])) = true := h3
      refine And.intro (no fun h => ?_) trivial
      rw [prmB_true.2 (h _ hm).2] at h3; cases h3
    have h3 : (!prmB (l.getD i [])) = false := h3
    refine And.intro (by omega) ?_
    refine And.intro (fun h2 => ?_) (fun h2 => ?_)
    · have h2 : ¬ ((l.getD i []).length : Int) = ((l.getD 0 []).length : Int) := h2
      exact And.intro (no fun h => h2 (h _ hm).1) trivial
    have h2 : ((l.getD i []).length : Int) = ((l.getD 0 []).length : Int) := h2
    refine And.intro (by omega) ?_
    refine nx (i + 1) ⟨by omega, fun j hj => ?_⟩ (show l.length - (i + 1) < l.length - i by omega) (by repeat' first | refine And.intro ?_ ?_ | exact True.intro | (show (_ : Int) = (_ : Int); omega) | omega | exact rfl | (simp only [RO.len]; omega))
    by_cases e : j = i
    · subst e; exact ⟨h2, prmB_true.1 (by simpa using h3)⟩
    · exact hI j (by omega)
  · have h1 : (l.length : Int) ≤ (i : Int) := h1
    refine And.intro ?_ trivial
    refine (may_zero.2 ⟨by omega, fun f hf => ?_⟩).symm
    obtain ⟨j, hj, rfl⟩ := mem_getD [] hf
    exact hI j (by omega)
theorem rmay16_fn (l : List (List Int)) : QF 9 [.ro (.rows .i64 l)] (.int .i64 (mayV l)) := mkQ Tryz.func9 (by decide +kernel) rfl (Nat.le_of_ble_eq_true rfl) fun hf => rmay16_k l hf.1.1
set_option maxHeartbeats 4000000 in
theorem ggen_fn (G : List (List Int)) (n : Nat) (h0 : 0 < G.length) (h8 : G.length ≤ 8) (h1 : 1 ≤ n) (h5 : n ≤ 5) (hG : ∀ f ∈ G, prmP f ∧ f.length = n) : QF 11 [.ro (.rows .i64 G)] (.tup [.new (.rows .i64 (grpL n G)), .int .i64 0]) := mkQ Tryz.func11 (by decide +kernel) rfl (Nat.le_of_ble_eq_true rfl) fun _ => by
  have hP : ∀ f ∈ G, Perm n f := fun f hf => (hG f hf).2 ▸ (hG f hf).1.perm
  have h00 := hG _ (getD_mem (d := []) h0)
  have hbyte : ∀ {f : List Int}, Perm n f → ∀ x ∈ f, 0 ≤ x ∧ x ≤ 255 := fun hf x hx => by have := hf.rng x hx; omega
  refine And.intro (fun h => absurd (show (G.length : Int) = 0 from h) (by omega)) (fun _ => ?_)
  refine And.intro (by omega) ?_
  refine Or.inl (cq (gpms_fn G ((G.getD 0 []).length : Int)) (And.intro rfl (And.intro rfl trivial)) ?_)
  refine And.intro (fun h => ?_) (fun _ => ?_)
  · have h : (!pmsB G ((G.getD 0 []).length : Int)) = true := h
    rw [pmsB_true.2 fun f hf => ⟨by rw [(hG f hf).2, h00.2], (hG f hf).1⟩] at h; cases h
  refine Or.inl (cq (tident_fn (G.getD 0 []).length (by omega) (by omega)) (And.intro rfl trivial) ?_)
  rw [h00.2]
  refine Or.inl (cq (gtext_fn (disI n) (by rw [disI_len]; omega) (hbyte (perm_dis n))) (And.intro rfl trivial) ?_)
  refine Exists.intro [30] <| lp3 (fun (k : Nat) (_ _ : List (List Int)) => [(37, .int .i64 k), (6, .vec 30), (8, .vec 48)]) (fun _ E U => [(30, .vec 0 (.rows .i64 E) []), (31, .map .str none (setO E)), (48, .vec 0 (.rows .i64 U) [])]) (fun k E U => k ≤ G.length ∧ U.length ≤ k ∧ GnI n G U E k) (fun k _ _ => G.length - k) 0 [disI n] [] ⟨Nat.zero_le _, Nat.le_refl _, GnI.start n G⟩ (by repeat' first | refine And.intro ?_ ?_ | exact True.intro | (show (_ : Int) = (_ : Int); omega) | omega | exact rfl | (simp only [RO.len]; omega)) ?_
  rintro k E U ⟨hk, hUk, hI⟩
  refine And.intro (fun h2 => ?_) (fun h2 => ?_)
  · have h2 : (k : Int) < (G.length : Int) := h2
    have hkl : k < G.length := by omega
    have hfk := hG _ (getD_mem (d := []) hkl)
    have hpk := hP _ (getD_mem (d := []) hkl)
    have hU : ∀ g ∈ U ++ [G.getD k []], Perm n g := fun g hg => (List.mem_append.1 hg).elim (fun hg => hP g (hI.us g hg)) fun hg => by rw [List.mem_singleton.1 hg]; exact hpk
    refine And.intro (by omega) ?_
    refine Or.inl (cq (gtext_fn (G.getD k []) (by omega) (hbyte hpk)) (And.intro rfl trivial) ?_)
    refine And.intro (fun h3 => ?_) (fun h3 => ?_)
    · have h3 : ((getM (setO E) (G.getD k [])).getD 0 : Int) ≠ 0 := h3
      have hin : G.getD k [] ∈ E := Classical.byContradiction fun hno => h3 (by rw [getM_setO, if_neg hno]; rfl)
      refine And.intro (by omega) ?_
      exact nx (k + 1, E, U) ⟨by omega, by omega, hI.skip hin⟩ (show G.length - (k + 1) < G.length - k by omega) (by repeat' first | refine And.intro ?_ ?_ | exact True.intro | (show (_ : Int) = (_ : Int); omega) | omega | exact rfl | (simp only [RO.len]; omega))
    have hUl : (U ++ [G.getD k []]).length = U.length + 1 := by simp
    refine And.intro (show ((U ++ [G.getD k []]).length : Int) ≤ 2199023255552 by omega) ?_
    refine Exists.intro [] <| lp2 (fun (i : Nat) (_ : List (List Int)) => [(11, .int .i64 i), (6, .vec 30)]) (fun _ F => [(30, .vec 0 (.rows .i64 F) []), (31, .map .str none (setO F))]) (fun i F => i ≤ F.length ∧ GnJ n (U ++ [G.getD k []]) F i 0 ∧ ∀ p ∈ E, p ∈ F) (fun i _ => 121 - i) 0 E ⟨Nat.zero_le _, hI.open, fun p hp => hp⟩ (by repeat' first | refine And.intro ?_ ?_ | exact True.intro | (show (_ : Int) = (_ : Int); omega) | omega | exact rfl | (simp only [RO.len]; omega)) ?_
    rintro i F ⟨hi, hJ, hEF⟩
    have hF := hJ.few h5 hU
    refine And.intro (fun h4 => ?_) (fun h4 => ?_)
    · have h4 : (i : Int) < (F.length : Int) := h4
      refine Exists.intro [50] <| lp2 (fun (m : Nat) (_ : List (List Int)) => [(57, .int .i64 m), (6, .vec 30)]) (fun _ H => [(30, .vec 0 (.rows .i64 H) []), (31, .map .str none (setO H))]) (fun m H => m ≤ (U ++ [G.getD k []]).length ∧ i < H.length ∧ GnJ n (U ++ [G.getD k []]) H i m ∧ ∀ p ∈ E, p ∈ H) (fun m _ => (U ++ [G.getD k []]).length - m) 0 F ⟨Nat.zero_le _, by omega, hJ, hEF⟩ (by repeat' first | refine And.intro ?_ ?_ | exact True.intro | (show (_ : Int) = (_ : Int); omega) | omega | exact rfl | (simp only [RO.len]; omega)) ?_
      rintro m H ⟨hm, hiH, hK, hEH⟩
      have hH := hK.few h5 hU
      refine And.intro (fun h6 => ?_) (fun h6 => ?_)
      · have h6 : (m : Int) < ((U ++ [G.getD k []]).length : Int) := h6
        have hml : m < (U ++ [G.getD k []]).length := by omega
        have hp1 := (hK.wd _ (getD_mem (d := []) hiH)).perm hU
        have hp2 := hU _ (getD_mem (d := []) hml)
        have hp3 := hp1.cmp hp2
        have hl1 := hp1.len
        have hl2 := hp2.len
        have hl3 := hp3.len
        have hml2 : (H ++ [cmpP (H.getD i []) ((U ++ [G.getD k []]).getD m [])]).length = H.length + 1 := by simp
        refine And.intro (by omega) ?_
        refine And.intro (by omega) ?_
        refine Or.inl (cq (gcomp_fn (H.getD i []) ((U ++ [G.getD k []]).getD m []) (by omega) (fun x hx => by have := hp1.rng x hx; omega)) (And.intro rfl (And.intro rfl trivial)) ?_)
        refine Or.inl (cq (gtext_fn (cmpP (H.getD i []) ((U ++ [G.getD k []]).getD m [])) (by omega) (hbyte hp3)) (And.intro rfl trivial) ?_)
        refine And.intro (fun h7 => ?_) (fun h7 => ?_)
        · have h7 : ((getM (setO H) (cmpP (H.getD i []) ((U ++ [G.getD k []]).getD m []))).getD 0 : Int) = 0 := h7
          have hno : cmpP (H.getD i []) ((U ++ [G.getD k []]).getD m []) ∉ H := fun hin => by rw [getM_setO, if_pos hin] at h7; exact absurd h7 (by decide)
          have hM := setM_setO hno
          have hK2 := hK.add hiH hml hno
          refine And.intro (show ((H ++ [cmpP (H.getD i []) ((U ++ [G.getD k []]).getD m [])]).length : Int) ≤ 2199023255552 by omega) ?_
          refine And.intro (by omega) ?_
          exact nx (m + 1, H ++ [cmpP (H.getD i []) ((U ++ [G.getD k []]).getD m [])]) ⟨by omega, by omega, hK2, fun p hp => List.mem_append_left _ (hEH p hp)⟩ (show (U ++ [G.getD k []]).length - (m + 1) < (U ++ [G.getD k []]).length - m by omega) (by repeat' first | refine And.intro ?_ ?_ | exact True.intro | exact hM | omega | exact rfl)
        · have h7 : ((getM (setO H) (cmpP (H.getD i []) ((U ++ [G.getD k []]).getD m []))).getD 0 : Int) ≠ 0 := h7
          have hin : cmpP (H.getD i []) ((U ++ [G.getD k []]).getD m []) ∈ H := Classical.byContradiction fun hno => h7 (by rw [getM_setO, if_neg hno]; rfl)
          refine And.intro (by omega) ?_
          exact nx (m + 1, H) ⟨by omega, hiH, hK.old hin, hEH⟩ (show (U ++ [G.getD k []]).length - (m + 1) < (U ++ [G.getD k []]).length - m by omega) (by repeat' first | refine And.intro ?_ ?_ | exact True.intro | (show (_ : Int) = (_ : Int); omega) | omega | exact rfl | (simp only [RO.len]; omega))
      · have h6 : ((U ++ [G.getD k []]).length : Int) ≤ (m : Int) := h6
        have hme : m = (U ++ [G.getD k []]).length := by omega
        subst hme
        refine And.intro (fun h7 => ?_) (fun _ => ?_)
        · have h7 : 2000 < (H.length : Int) := h7
          omega
        refine And.intro (by omega) ?_
        exact nx (i + 1, H) ⟨by omega, hK.row (Nat.le_refl _), hEH⟩ (show 121 - (i + 1) < 121 - i by omega) (by repeat' first | refine And.intro ?_ ?_ | exact True.intro | (show (_ : Int) = (_ : Int); omega) | omega | exact rfl | (simp only [RO.len]; omega))
    · have h4 : (F.length : Int) ≤ (i : Int) := h4
      refine And.intro (by omega) ?_
      exact nx (k + 1, F, U ++ [G.getD k []]) ⟨by omega, by omega, hI.shut hkl hP hJ (by omega) hEF⟩ (show G.length - (k + 1) < G.length - k by omega) (by repeat' first | refine And.intro ?_ ?_ | exact True.intro | (show (_ : Int) = (_ : Int); omega) | omega | exact rfl | (simp only [RO.len]; omega))
  · have h2 : (G.length : Int) ≤ (k : Int) := h2
    have hfin := hI.fin (by omega) hP
    have hpos : 0 < E.length := List.length_pos_of_mem hI.one
    have em : Go.Proofs.YtjlkhjgnfnfmgaaGreat.srt cmpL E = grpL n G := grp_of hP hI.nd hfin
    refine Or.inr (Or.inl (cm [] [(1000, 30)] (sortRows_m cmpL_tot compareL_fn E hpos) (And.intro (by repeat' first | refine And.intro ?_ ?_ | exact True.intro | (show (_ : Int) = (_ : Int); omega) | omega | exact rfl | (simp only [RO.len]; omega)) ?_)))
    repeat' first | refine And.intro ?_ ?_ | exact True.intro | exact congrArg (RO.rows .i64) em | omega | exact rfl
end Go.Proofs.YtjlkhjgnfnfmgaaGreat
end
section
/- Plain: orbits and blocks of permutations. -/
namespace Go.Proofs.YtjlkhjgnfnfmgaaGreat
open Go Go.AM
def imN (f : List Int) (a : Nat) : Nat := (f.getD a 0).toNat
theorem Perm.im {n : Nat} {f : List Int} (hf : Perm n f) {a : Nat} (ha : a < n) : imN f a < n ∧ f.getD a 0 = (imN f a : Int) := by
  have := hf.at ha
  unfold imN; omega
def OrR (n : Nat) (F : List (List Int)) (a b : Nat) : Prop := a < n ∧ ∃ f ∈ F, b = imN f a
noncomputable def orbP (n : Nat) (F : List (List Int)) : List Int := eqP n (OrR n F)
end Go.Proofs.YtjlkhjgnfnfmgaaGreat
end
section
/- The forest of partition: root, union, partition; FromPairs; Discrete: contracts. -/
namespace Go.Proofs.YtjlkhjgnfnfmgaaGreat
open Go Go.AM
set_option maxRecDepth 100000
theorem froot_fn (n : Nat) (p : List Int) (r : Nat → Nat) (i : Nat) (h : Fo n p r) (hi : i < n) (hn : n ≤ 4096) : MF 141 [.vec 1000, .int .i64 i] [(1000, .vec 0 (.ints .i64 p) [])] (.int .i64 (r i : Nat)) [(1000, .vec 0 (.ints .i64 (fndL (i + 1) p i)) [])] := mkM Tryz.func141 (by decide +kernel) rfl (Nat.le_of_ble_eq_true rfl) fun _ => by
  refine Exists.intro [] <| lp2 (fun (j : Nat) (_ : List Int) => [(1, .int .i64 j)]) (fun _ q => [(1000, .vec 0 (.ints .i64 q) [])]) (fun j q => j < n ∧ Fo n q r ∧ r j = r i ∧ fndL (j + 1) q j = fndL (i + 1) p i) (fun j _ => j) i p ⟨hi, h, rfl, rfl⟩ (by repeat' first | refine And.intro ?_ ?_ | exact True.intro | (show (_ : Int) = (_ : Int); omega) | omega | exact rfl | (simp only [RO.len]; omega)) ?_
  rintro j q ⟨hj, hq, hr, hf⟩
  have hjl := hq.len
  have hle := hq.le j hj
  have hgg := hq.le (q.getD j 0).toNat (by omega)
  refine And.intro (by omega) ?_
  refine And.intro (fun h1 => ?_) (fun h1 => ?_)
  · have h1 : q.getD j 0 ≠ (j : Int) := h1
    have hl := half_lt hq hj h1
    have hqh := hq.half hj
    have hlh := hqh.le j hj
    have hlen := hqh.len
    refine And.intro (by omega) ?_
    refine And.intro (show 0 ≤ q.getD j 0 ∧ q.getD j 0 < (q.length : Int) by omega) ?_
    refine And.intro (by omega) ?_
    refine And.intro (by omega) ?_
    refine And.intro (show 0 ≤ (j : Int) ∧ (j : Int) < ((q.set j (q.getD (q.getD j 0).toNat 0)).length : Int) by rw [List.length_set]; omega) ?_
    have ej : (((halfL q j).getD j 0).toNat : Int) = (halfL q j).getD j 0 := by omega
    refine nx (((halfL q j).getD j 0).toNat, halfL q j) ⟨by omega, hqh, (hqh.par j hj).trans hr, ?_⟩ hl (by repeat' first | refine And.intro ?_ ?_ | exact True.intro | exact ej.symm | exact rfl | repeat' first | refine And.intro ?_ ?_ | exact True.intro | (show (_ : Int) = (_ : Int); omega) | omega | exact rfl | (simp only [RO.len]; omega))
    rw [← hf, fndL.eq_2 q j j, if_neg h1]
    exact fndL_fuel _ _ hqh (by omega) (by omega) (by omega)
  · have h1 : q.getD j 0 = (j : Int) := h1
    refine And.intro ?_ ?_
    · refine And.intro (And.intro (by omega) ?_) trivial
      rw [← hf]; unfold fndL; rw [if_pos h1]
    · show (j : Int) = (r i : Nat)
      rw [← hr, hq.fix j hj h1]
theorem funion_fn (n : Nat) (p : List Int) (r : Nat → Nat) (i j : Nat) (h : Fo n p r) (hi : i < n) (hj : j < n) (hn : n ≤ 4096) : MF 95 [.vec 1000, .int .i64 i, .int .i64 j] [(1000, .vec 0 (.ints .i64 p) [])] (.tup []) [(1000, .vec 0 (.ints .i64 (ufL r p i j)) [])] := mkM Tryz.func95 (by decide +kernel) rfl (Nat.le_of_ble_eq_true rfl) fun _ => by
  have h1 := fndL_fo (i + 1) h hi
  refine Or.inr (Or.inl (cm [] [(1000, 1000)] (froot_fn n p r i h hi hn) ?_))
  refine And.intro (by repeat' first | refine And.intro ?_ ?_ | exact True.intro | (show (_ : Int) = (_ : Int); omega) | omega | exact rfl | (simp only [RO.len]; omega)) ?_
  refine Or.inr (Or.inl (cm [] [(1000, 1000)] (froot_fn n (fndL (i + 1) p i) r j h1 hj hn) ?_))
  refine And.intro (by repeat' first | refine And.intro ?_ ?_ | exact True.intro | (show (_ : Int) = (_ : Int); omega) | omega | exact rfl | (simp only [RO.len]; omega)) ?_
  have h2 := fndL_fo (j + 1) h1 hj
  have hl := h2.len
  have ri := h.rlt hi
  have rj := h.rlt hj
  refine And.intro (by omega) ?_
  refine And.intro (by omega) ?_
  refine And.intro (And.intro (And.intro (by omega) ?_) trivial) trivial
  refine congrArg (RO.ints .i64) ?_
  unfold ufL
  rw [show (max (r i : Int) (r j : Int)).toNat = max (r i) (r j) by omega, show min (r i : Int) (r j : Int) = ((min (r i) (r j) : Nat) : Int) by omega]
theorem fpart_fn (n : Nat) (p : List Int) (r : Nat → Nat) (h : Fo n p r) (hn : n ≤ 4096) : MF 96 [.vec 1000] [(1000, .vec 0 (.ints .i64 p) [])] (.vec 21) [(21, .vec 0 (.ints .i64 (canon (rtL n r))) []), (1000, .vec 0 (.ints .i64 (fndA p n)) [])] := mkM Tryz.func96 (by decide +kernel) rfl (Nat.le_of_ble_eq_true rfl) fun _ => by
  have hpl := h.len
  refine And.intro (by omega) ?_
  refine And.intro (by omega) ?_
  refine Exists.intro [] <| lp2 (fun (k : Nat) (_ : List Int) => [(10, .int .i64 k)]) (fun k L => [(1000, .vec 0 (.ints .i64 (fndA p k)) []), (7, .vec 0 (.ints .i64 L) [])]) (fun k L => k ≤ n ∧ L.length = n ∧ ∀ j, j < k → L.getD j 0 = (r j : Int)) (fun k _ => n - k) 0 (List.replicate n 0) ⟨Nat.zero_le _, by simp, by omega⟩ (by repeat' first | refine And.intro ?_ ?_ | exact True.intro | (show (_ : Int) = (_ : Int); omega) | omega | exact rfl | (simp; omega)) ?_
  rintro k L ⟨hk, hL, hj⟩
  have hfo := fndA_fo h k hk
  have hfl := hfo.len
  refine And.intro (fun h1 => ?_) (fun h1 => ?_)
  · have h1 : (k : Int) < (p.length : Int) := h1
    have hkl : k < n := by omega
    refine Or.inr (Or.inl (cm [] [(1000, 1000)] (froot_fn n (fndA p k) r k hfo hkl hn) ?_))
    refine And.intro (by repeat' first | refine And.intro ?_ ?_ | exact True.intro | (show (_ : Int) = (_ : Int); omega) | omega | exact rfl | (simp only [RO.len]; omega)) ?_
    refine And.intro (by omega) ?_
    refine And.intro (by omega) ?_
    refine And.intro (by omega) ?_
    refine nx (k + 1, L.set k (r k : Int)) ⟨by omega, by rw [List.length_set]; exact hL, fun j hj' => ?_⟩ (show n - (k + 1) < n - k by omega) (by repeat' first | refine And.intro ?_ ?_ | exact True.intro | (show (_ : Int) = (_ : Int); omega) | omega | exact rfl | (simp only [RO.len]; omega))
    by_cases e : j = k
    · subst e; rw [getD_set_eq (by omega)]
    · rw [getD_set_ne (Ne.symm e)]; exact hj j (by omega)
  · have h1 : (p.length : Int) ≤ (k : Int) := h1
    obtain rfl : k = n := by omega
    have eL : L = rtL k r := ext_getD 0 (by rw [rtL_len]; exact hL) fun x hx => by rw [hj x (by omega), rtL_get (by omega)]
    subst eL
    refine Or.inl (cq (canonI_fn (rtL k r) (by rw [rtL_len]; omega)) (And.intro rfl trivial) ?_)
    exact And.intro (And.intro (And.intro (by omega) rfl) (And.intro (And.intro (by omega) rfl) trivial)) (And.intro (by omega) (And.intro trivial trivial))
theorem pdis_fn (n : Nat) (hn : n ≤ 4096) : QF 140 [.int .i64 n] (.new (.ints .i64 (disI n))) := mkQ Tryz.func140 (by decide +kernel) rfl (Nat.le_of_ble_eq_true rfl) fun _ => by
  refine And.intro (fun h1 => absurd (show (n : Int) < 0 from h1) (by omega)) (fun _ => ?_)
  refine And.intro (fun h1 => absurd (show (4096 : Int) < (n : Int) from h1) (by omega)) (fun _ => ?_)
  refine And.intro (by omega) ?_
  refine And.intro (by omega) ?_
  refine Exists.intro [] <| lp2 (fun (k : Nat) (_ : List Int) => [(14, .int .i64 k)]) (fun _ L => [(12, .vec 0 (.ints .i64 L) [])]) (fun k L => k ≤ n ∧ L.length = n ∧ ∀ j, j < k → L.getD j 0 = (j : Int)) (fun k _ => n - k) 0 (List.replicate n 0) ⟨Nat.zero_le _, by simp, by omega⟩ (by repeat' first | refine And.intro ?_ ?_ | exact True.intro | (show (_ : Int) = (_ : Int); omega) | omega | exact rfl | (simp; omega)) ?_
  rintro k L ⟨hk, hL, hj⟩
  refine And.intro (fun h1 => ?_) (fun h1 => ?_)
  · have h1 : (k : Int) < (n : Int) := h1
    have hkl : k < n := by omega
    refine And.intro (show 0 ≤ (k : Int) ∧ (k : Int) < (L.length : Int) by omega) ?_
    refine And.intro (by omega) ?_
    refine And.intro (by omega) ?_
    refine nx (k + 1, L.set k (k : Int)) ⟨by omega, by rw [List.length_set]; exact hL, fun j hj' => ?_⟩ (show n - (k + 1) < n - k by omega) (by repeat' first | refine And.intro ?_ ?_ | exact True.intro | (show (_ : Int) = (_ : Int); omega) | omega | exact rfl | (simp only [RO.len]; omega))
    by_cases e : j = k
    · subst e; rw [getD_set_eq (by omega)]
    · rw [getD_set_ne (Ne.symm e)]; exact hj j (by omega)
  · have h1 : (n : Int) ≤ (k : Int) := h1
    refine And.intro (And.intro (by omega) ?_) trivial
    refine congrArg (RO.ints .i64) (ext_getD 0 (by rw [disI_len]; exact hL) fun j hj' => ?_)
    rw [hj j (by omega), disI_get (by omega)]
theorem fnew_fn (n : Nat) (hn : n ≤ 4096) : QF 94 [.int .i64 n] (.new (.ints .i64 (disI n))) := mkQ Tryz.func94 (by decide +kernel) rfl (Nat.le_of_ble_eq_true rfl) fun _ => by
  refine Or.inl (cq (pdis_fn n hn) (And.intro rfl trivial) ?_)
  exact And.intro (And.intro (by omega) rfl) trivial
theorem prR_snoc : ∀ (l : List (Int × Int)) (r : Nat → Nat) (x : Int × Int), prR r (l ++ [x]) = ufR (prR r l) x.1.toNat x.2.toNat
  | [], _, _ => rfl
  | _ :: l, _, x => prR_snoc l _ x
theorem fpairs_k (n : Nat) (hn : n ≤ 4096) (l : List (Int × Int)) (hll : l.length ≤ 140737488355328) (hl : ∀ x ∈ l, 0 ≤ x.1 ∧ x.1 < (n : Int) ∧ 0 ≤ x.2 ∧ x.2 < (n : Int)) : fnK TY SP Tryz.f48 [.int .i64 n, .ro (.pairs l)] (.new (.ints .i64 (canon (rtL n (prR id l))))) := by
  refine And.intro (fun h1 => absurd (show (n : Int) < 0 from h1) (by omega)) (fun _ => ?_)
  refine And.intro (fun h1 => absurd (show (4096 : Int) < (n : Int) from h1) (by omega)) (fun _ => ?_)
  refine Or.inl (cq (fnew_fn n hn) (And.intro rfl trivial) ?_)
  refine Exists.intro [] <| lp2 (fun (k : Nat) (_ : List Int) => [(18, .int .i64 k)]) (fun _ p => [(15, .vec 0 (.ints .i64 p) [])]) (fun k p => k ≤ l.length ∧ Fo n p (prR id (l.take k))) (fun k _ => l.length - k) 0 (disI n) ⟨Nat.zero_le _, by rw [List.take_zero]; exact Fo.dis n⟩ (by repeat' first | refine And.intro ?_ ?_ | exact True.intro | (show (_ : Int) = (_ : Int); omega) | omega | exact rfl | (simp only [RO.len]; omega)) ?_
  rintro k p ⟨hk, hp⟩
  have hpl := hp.len
  refine And.intro (fun h1 => ?_) (fun h1 => ?_)
  · have h1 : (k : Int) < (l.length : Int) := h1
    have hkl : k < l.length := by omega
    have hx := hl (l.getD k (0, 0)) (getD_mem hkl)
    have e1 : ((l.getD k (0, 0)).1.toNat : Int) = (l.getD k (0, 0)).1 := by omega
    have e2 : ((l.getD k (0, 0)).2.toNat : Int) = (l.getD k (0, 0)).2 := by omega
    have funion := funion_fn n p (prR id (l.take k)) (l.getD k (0, 0)).1.toNat (l.getD k (0, 0)).2.toNat hp (by omega) (by omega) hn
    rw [e1, e2] at funion
    have n10 : ¬ (1 : Int) = ((0 : Nat) : Int) := by omega
    have n01 : ¬ (0 : Int) = ((0 + 1 : Nat) : Int) := by omega
    refine And.intro (by omega) ?_
    refine And.intro (by omega) ?_
    refine And.intro (fun _ => ?_) (And.intro (fun h => absurd h n01) trivial)
    refine And.intro (by omega) ?_
    refine And.intro (fun h => absurd h n10) (And.intro (fun _ => ?_) trivial)
    refine And.intro (fun h4 => ?_) (fun _ => ?_)
    · have h4 : min (l.getD k (0, 0)).1 (l.getD k (0, 0)).2 < 0 := h4
      omega
    refine And.intro (by omega) ?_
    refine And.intro (fun _ => ?_) (And.intro (fun h => absurd h n01) trivial)
    refine And.intro (by omega) ?_
    refine And.intro (fun h => absurd h n10) (And.intro (fun _ => ?_) trivial)
    refine And.intro (fun h4 => ?_) (fun _ => ?_)
    · have h4 : (n : Int) ≤ max (l.getD k (0, 0)).1 (l.getD k (0, 0)).2 := h4
      omega
    refine And.intro (by omega) ?_
    refine And.intro (fun _ => ?_) (And.intro (fun h => absurd h n01) trivial)
    refine And.intro (by omega) ?_
    refine And.intro (fun h => absurd h n10) (And.intro (fun _ => ?_) trivial)
    refine Or.inr (Or.inl (cm [] [(1000, 15)] funion ?_))
    refine And.intro (by repeat' first | refine And.intro ?_ ?_ | exact True.intro | (show (_ : Int) = (_ : Int); omega) | omega | exact rfl | (simp only [RO.len]; omega)) ?_
    refine And.intro (by omega) ?_
    refine nx (k + 1, ufL (prR id (l.take k)) p (l.getD k (0, 0)).1.toNat (l.getD k (0, 0)).2.toNat) ⟨by omega, ?_⟩ (show l.length - (k + 1) < l.length - k by omega) (by repeat' first | refine And.intro ?_ ?_ | exact True.intro | (show (_ : Int) = (_ : Int); omega) | omega | exact rfl | (simp only [RO.len]; omega))
    rw [List.take_add_one, List.getElem?_eq_getElem hkl]
    rw [show (some l[k]).toList = [l[k]] from rfl, prR_snoc]
    have eg : l[k] = l.getD k (0, 0) := by rw [List.getD_eq_getElem?_getD, List.getElem?_eq_getElem hkl]; rfl
    rw [eg]
    exact hp.union (by omega) (by omega)
  · have h1 : (l.length : Int) ≤ (k : Int) := h1
    rw [List.take_of_length_le (by omega)] at hp
    refine Or.inr (Or.inl (cm [] [(1000, 15), (21, 301)] (fpart_fn n p (prR id l) hp hn) ?_))
    refine And.intro (by repeat' first | refine And.intro ?_ ?_ | exact True.intro | (show (_ : Int) = (_ : Int); omega) | omega | exact rfl | (simp only [RO.len]; omega)) ?_
    exact And.intro (And.intro (by omega) rfl) trivial
theorem fpairs_fn (n : Nat) (hn : n ≤ 4096) (l : List (Int × Int)) (hl : ∀ x ∈ l, 0 ≤ x.1 ∧ x.1 < (n : Int) ∧ 0 ≤ x.2 ∧ x.2 < (n : Int)) : QF 48 [.int .i64 n, .ro (.pairs l)] (.new (.ints .i64 (canon (rtL n (prR id l))))) := mkQ Tryz.func48 (by decide +kernel) rfl (Nat.le_of_ble_eq_true rfl) fun hf => fpairs_k n hn l hf.2.1.1 hl
end Go.Proofs.YtjlkhjgnfnfmgaaGreat
end
