import Derived.Test.YtpanlghofeebhaaClone
import Derived.Test.YtpanlghofeebhaaIdealLaw
import Derived.Shelf.SlSortCmp.Whole1
import Derived.Test.YtpanlghofeebhaaLay
section
/- Comparisons of numbers and of lists: contracts. -/
namespace Go.Proofs.Ytpanlghofeebhaa
open Go Go.AM
set_option maxRecDepth 100000
theorem isNaN_fn (a : Int) : QF 141 [.int .i64 a] (.bool (.lit false)) := mkQ Try.func141 (by decide +kernel) rfl (Nat.le_of_ble_eq_true rfl) fun _ => by
  refine And.intro ?_ trivial
  show decide (a ≠ a) = false
  simp
theorem compare_fn (a b : Int) : QF 101 [.int .i64 a, .int .i64 b] (.int .i64 (cmpI a b)) := mkQ Try.func101 (by decide +kernel) rfl (Nat.le_of_ble_eq_true rfl) fun _ => by
  refine Or.inl (cq (isNaN_fn a) (And.intro rfl trivial) ?_)
  refine Or.inl (cq (isNaN_fn b) (And.intro rfl trivial) ?_)
  unfold cmpI
  refine And.intro (fun h1 => ?_) (fun h1 => ?_)
  · exact And.intro (by rw [if_pos h1]; rfl) trivial
  · refine And.intro (fun h2 => ?_) (fun h2 => ?_)
    · exact And.intro (by rw [if_neg (by omega), if_pos h2]; rfl) trivial
    · exact And.intro (by rw [if_neg (by omega), if_neg (by omega)]; rfl) trivial
theorem compareL_k (a b : List Int) (ha : a.length ≤ 140737488355328) (hb : b.length ≤ 140737488355328) : fnK TY SP Try.f57 [.ro (.ints .i64 a), .ro (.ints .i64 b)] (.int .i64 (cmpL a b)) := by
  refine Exists.intro [] <| lp (X := Nat) (fun i => [(11, .int .i64 i)]) (fun _ => []) (fun i => (i ≤ a.length ∧ i ≤ b.length) ∧ ∀ j, j < i → a.getD j 0 = b.getD j 0) (fun i => a.length - i) 0 (by simp) (by repeat' first | refine And.intro ?_ ?_ | exact True.intro | (show (_ : Int) = (_ : Int); omega) | omega | exact rfl | (simp only [RO.len]; omega)) ?_
  rintro i ⟨⟨hi, hi2⟩, hs⟩
  refine And.intro (fun h1 => ?_) (fun h1 => ?_)
  · refine And.intro (by omega) ?_
    refine And.intro (fun h2 => ?_) (fun h2 => ?_)
    · refine And.intro ?_ trivial
      rw [cmpL_end hs hi hi2 (.inr (by omega))]
      unfold cmpI; rw [if_neg (by omega), if_pos (by omega)]; rfl
    · refine And.intro (by omega) ?_
      refine Or.inl (cq (compare_fn (a.getD i 0) (b.getD i 0)) (And.intro rfl (And.intro rfl trivial)) ?_)
      refine And.intro (fun h3 => ?_) (fun h3 => ?_)
      · refine And.intro ?_ trivial
        exact (cmpL_here hs (by omega) (by omega) fun e => h3 (by rw [e]; exact cmpI_tot.self _)).symm
      · refine And.intro (by omega) ?_
        refine nx (i + 1) ⟨⟨by omega, by omega⟩, fun j hj => ?_⟩ (show a.length - (i + 1) < a.length - i by omega) (by repeat' first | refine And.intro ?_ ?_ | exact True.intro | (show (_ : Int) = (_ : Int); omega) | omega | exact rfl | (simp only [RO.len]; omega))
        by_cases e : j = i
        · subst e; exact cmpI_tot.eq _ _ h3
        · exact hs j (by omega)
  · have e := cmpL_end hs hi hi2 (.inl (by omega))
    refine And.intro (fun h2 => ?_) (fun h2 => ?_)
    · refine And.intro ?_ trivial
      rw [e]; unfold cmpI; rw [if_pos h2]; rfl
    · refine And.intro ?_ trivial
      rw [e]; unfold cmpI; rw [if_neg (by omega), if_neg (by omega)]; rfl
theorem compareL_fn (a b : List Int) : QF 57 [.ro (.ints .i64 a), .ro (.ints .i64 b)] (.int .i64 (cmpL a b)) := mkQ Try.func57 (by decide +kernel) rfl (Nat.le_of_ble_eq_true rfl) fun hf => compareL_k a b hf.1.1 hf.2.1.1
theorem rLess_k (a b : List Int) (ha : a.length ≤ 140737488355328) (hb : b.length ≤ 140737488355328) : fnK TY SP Try.f15 [.ro (.ints .i64 a), .ro (.ints .i64 b)] (.bool (.v (decide (cmpL a b < 0)))) := by
  refine Exists.intro [] <| lp (X := Nat) (fun i => [(5, .int .i64 i)]) (fun _ => []) (fun i => (i ≤ a.length ∧ i ≤ b.length) ∧ ∀ j, j < i → a.getD j 0 = b.getD j 0) (fun i => a.length - i) 0 (by simp) (by repeat' first | refine And.intro ?_ ?_ | exact True.intro | (show (_ : Int) = (_ : Int); omega) | omega | exact rfl | (simp only [RO.len]; omega)) ?_
  rintro i ⟨⟨hi, hi2⟩, hs⟩
  have fin : i = a.length ∨ i = b.length → decide ((a.length : Int) < (b.length : Int)) = decide (cmpL a b < 0) := fun he => by
    rw [cmpL_end hs hi hi2 he]
    unfold cmpI
    refine decide_eq_decide.2 ?_
    split <;> (try split) <;> omega
  refine And.intro (fun h1 => ?_) (fun h1 => ?_)
  · refine And.intro (fun h2 => ?_) (fun h2 => ?_)
    · refine Or.inl <| Exists.intro [false, false, false, false, false, false, false, false, false] (And.intro (by decide +kernel) ?_)
      refine And.intro (by omega) ?_
      refine And.intro (by omega) ?_
      refine And.intro (fun h3 => ?_) (fun h3 => ?_)
      · have h3 : a.getD i 0 ≠ b.getD i 0 := h3
        refine Or.inl <| Exists.intro [false, false, false, false, false, false, false, false, false, false] (And.intro (by decide +kernel) ?_)
        refine And.intro (by omega) ?_
        refine And.intro (by omega) ?_
        refine And.intro ?_ trivial
        show decide (a.getD i 0 < b.getD i 0) = decide (cmpL a b < 0)
        rw [cmpL_here hs (by omega) (by omega) h3]
        unfold cmpI
        refine decide_eq_decide.2 ?_
        split <;> (try split) <;> omega
      · have h3 : a.getD i 0 = b.getD i 0 := h3
        refine And.intro (by omega) ?_
        refine nx (i + 1) ⟨⟨by omega, by omega⟩, fun j hj => ?_⟩ (show a.length - (i + 1) < a.length - i by omega) (by repeat' first | refine And.intro ?_ ?_ | exact True.intro | (show (_ : Int) = (_ : Int); omega) | omega | exact rfl | (simp only [RO.len]; omega))
        by_cases e : j = i
        · subst e; exact h3
        · exact hs j (by omega)
    · exact And.intro (fin (.inr (by omega))) trivial
  · exact And.intro (fin (.inl (by omega))) trivial
theorem rLess_fn (a b : List Int) : QF 15 [.ro (.ints .i64 a), .ro (.ints .i64 b)] (.bool (.v (decide (cmpL a b < 0)))) := mkQ Try.func15 (by decide +kernel) rfl (Nat.le_of_ble_eq_true rfl) fun hf => rLess_k a b hf.1.1 hf.2.1.1
def insSch : Sch :=
  let F : Sch := .br 7 (.br 11 (.fst 12 .done) .no) .no
  let A6 : Sch := .br 4 F .no
  .fst 1 (.fst 2 (.fst 3 (.fst 5 (.fst 8 (.fst 9 (.fst 10 (.br 0 (.br 4 (.br 6 F .no) (.br 6 A6 .no)) (.br 6 (.br 0 A6 .no) .no))))))))
end Go.Proofs.Ytpanlghofeebhaa
end
section
/- slices.SortFunc over rows of integers: from the shelf's contract to the abstract machine's. -/
namespace Go.Proofs.Ytpanlghofeebhaa
open Go Go.AM Go.Sort Go.Lib
def RowV (w : World) (M : Msk) : Type := { v : Value // ∃ m : List Int, SlI w M .i64 m v }
instance (w : World) (M : Msk) : Inhabited (RowV w M) := ⟨⟨.slice none 0 0, [], Nat.zero_le _, none, 0, rfl, Nat.le_refl _, .inl rfl⟩⟩
noncomputable def RowV.row {w : World} {M : Msk} (x : RowV w M) : List Int := Classical.choose x.2
theorem RowV.reads {w : World} {M : Msk} (x : RowV w M) : SlI w M .i64 x.row x.1 := Classical.choose_spec x.2
theorem sli_inj {w : World} {M : Msk} {k : IntKind} {l m : List Int} {v : Value} (h : SlI w M k l v) (h' : SlI w M k m v) : l = m := by
  obtain ⟨_, a, cap, rfl, _, h1⟩ := h
  obtain ⟨_, a', cap', hv, _, h2⟩ := h'
  have hl : l.length = m.length := by injection hv
  have ha : a = a' := by injection hv
  subst ha
  refine List.ext_getElem hl fun i hi hi' => ?_
  rcases h1 with h1 | ⟨b, off, rfl, h1⟩
  · omega
  · rcases h2 with h2 | ⟨b', off', he, h2⟩
    · omega
    · cases he
      obtain ⟨c, g1, _, g2, _⟩ := h1 i hi
      obtain ⟨c', g3, _, g4, _⟩ := h2 i hi'
      rw [g1] at g3; cases g3
      rw [g2] at g4
      rw [getD_eq hi, getD_eq hi'] at g4
      injection g4
theorem stp_grow {w w' : World} (h : Stp (fun _ _ => False) w w') : ∃ q os, w' = grow (w.drewN q) os := by
  obtain ⟨hsz, hb, ⟨⟨ho1, ho2⟩, ht, hd⟩⟩ := h
  have heap : ∀ b, b < w.heap.size → w'.heap[b]? = w.heap[b]? := fun b hlt => by
    rcases hb b hlt with h | ⟨cs, cs', ty, h1, h2, h3, h4⟩ | ⟨_, _, _, _, _, _, h⟩
    · exact h
    · rw [h1, h2]
      have : cs' = cs := Array.ext_getElem? fun i => h4 i (by simp)
      rw [this]
    · exact h.elim
  refine ⟨w'.drawn - w.drawn, w'.heap.extract w.heap.size w'.heap.size, ?_⟩
  have e1 : w'.heap = w.heap ++ w'.heap.extract w.heap.size w'.heap.size := by
    apply Array.ext_getElem?
    intro i
    rw [Array.getElem?_append]
    split
    · rename_i hi; exact heap i hi
    · rename_i hi
      rw [Array.getElem?_extract]
      split
      · rename_i hi'
        rw [show w.heap.size + (i - w.heap.size) = i by omega]
      · rename_i hi'
        exact Array.getElem?_eq_none (by omega)
  have e2 : w'.drawn = w.drawn + (w'.drawn - w.drawn) := by omega
  cases w with
  | mk heap tape drawn os output =>
  cases w' with
  | mk heap' tape' drawn' os' output' =>
  simp only [grow, World.drewN] at *
  subst ho1; subst ho2; subst ht
  congr 1
section
variable {w : World} {M : Msk} {b : Nat} {cs : Array Value} {ty : TypeId} (hb : w.heap[b]? = some (.cells cs ty (0, 0)))
include hb
theorem lt_of_block : b < w.heap.size := by
  rcases Nat.lt_or_ge b w.heap.size with h | h
  · exact h
  · rw [Array.getElem?_eq_none h] at hb; cases hb
theorem sortW_block {α : Type} [Inhabited α] (enc : α → Value) (m : Nat) (dk : Array α) (os : Array Obj) : (sortWorld enc w b 0 m dk os).heap[b]? = some (.cells (putCells enc 0 dk cs) ty (0, 0)) := by
  have hlt := lt_of_block hb
  show ((putRow enc (Sort.ahead w m) b 0 dk).heap ++ os)[b]? = _
  rw [Array.getElem?_append_left (by rw [size_putRow]; exact hlt)]
  show ((w.heap.modify b (onCells (putCells enc 0 dk))))[b]? = _
  rw [Array.getElem?_modify, if_pos rfl, hb]; rfl
omit hb in
theorem sortW_other {α : Type} [Inhabited α] (enc : α → Value) (m : Nat) (dk : Array α) (os : Array Obj) {b' : Nat} (hne : b' ≠ b) (hlt : b' < w.heap.size) : (sortWorld enc w b 0 m dk os).heap[b']? = w.heap[b']? := by
  show ((putRow enc (Sort.ahead w m) b 0 dk).heap ++ os)[b']? = _
  rw [Array.getElem?_append_left (by rw [size_putRow]; exact hlt)]
  show ((w.heap.modify b (onCells (putCells enc 0 dk))))[b']? = _
  rw [Array.getElem?_modify, if_neg (Ne.symm hne)]
omit hb in
theorem sortW_size {α : Type} [Inhabited α] (enc : α → Value) (m : Nat) (dk : Array α) (os : Array Obj) : (sortWorld enc w b 0 m dk os).heap.size = w.heap.size + os.size := by
  show ((putRow enc (Sort.ahead w m) b 0 dk).heap ++ os).size = _
  rw [Array.size_append, size_putRow]; rfl
omit hb in
theorem putCells_size {α : Type} [Inhabited α] (enc : α → Value) (d : Array α) : (putCells enc 0 d cs).size = cs.size := by simp [putCells]
omit hb in
theorem putCells_at {α : Type} [Inhabited α] (enc : α → Value) (d : Array α) {q : Nat} (hq : q < d.size) (hc : q < cs.size) : (putCells enc 0 d cs)[q]? = some (enc d[q]!) := by
  simp [putCells, hq, hc]
theorem sortW_stp {α : Type} [Inhabited α] (enc : α → Value) (m : Nat) (dk : Array α) (os : Array Obj) (hM : ∀ off, M b off ↔ off < cs.size) : Stp (fun b' off => b' = b ∧ M b' off) w (sortWorld enc w b 0 m dk os) := by
  refine ⟨by rw [sortW_size]; omega, fun b' hb' => ?_, ⟨⟨rfl, rfl⟩, rfl, ?_⟩⟩
  · by_cases e : b' = b
    · subst e
      refine .inr (.inl ⟨cs, _, ty, hb, sortW_block hb enc m dk os, putCells_size enc dk, fun off hn => ?_⟩)
      have : ¬ off < cs.size := fun h => hn ⟨rfl, (hM off).2 h⟩
      rw [Array.getElem?_eq_none (by rw [putCells_size]; omega), Array.getElem?_eq_none (by omega)]
    · exact .inl (sortW_other enc m dk os e hb')
  · show w.drawn ≤ w.drawn + m
    omega
end
theorem sortRows_m {g : FuncId} {c : List Int → List Int → Int} (hc : TotC c) (hg : ∀ a b, QF g [.ro (.ints .i64 a), .ro (.ints .i64 b)] (.int .i64 (c a b))) (l : List (List Int)) (hl : 0 < l.length) :
    MF 56 [.vec 1000, .fn g []] [(1000, .vec 0 (.rows .i64 l) [])] (.tup []) [(1000, .vec 0 (.rows .i64 (srt c l)) [])] := by
  refine ⟨⟨_, Try.func56, by decide +kernel, rfl⟩, fun ρ M w vs st hv => ?_⟩
  obtain ⟨⟨o, ho, hlen, hsz, hlb, _, hblk⟩, _⟩ := st.blk 1000 _ rfl
  have hlen : o.len = l.length := hlen
  have hsz : o.sz = 1 := hsz
  cases hob : o.blk with
  | none =>
    simp only [hob] at hblk
    have : l.length = 0 := hblk.1
    omega
  | some b =>
  simp only [hob] at hblk
  obtain ⟨hcap, cs, ty, hb, hcs, hM, hcell⟩ := hblk
  have hM : ∀ off, M b off ↔ off < cs.size := fun off => by rw [hM off]; omega
  have hcell : ∀ q, q < l.length → ∃ v, cs[q]? = some v ∧ SlI w M .i64 (l.getD q []) v := fun q hq => hcell q (by simpa [RO.cells, RO.len, RO.sz] using hq)
  have hcsl : l.length ≤ cs.size := by rw [hcs, hsz]; omega
  match vs, hv with
  | [v0, v1], ⟨h0, h1, _⟩ =>
  obtain ⟨o', ho', rfl⟩ := h0
  rw [ho] at ho'; cases ho'
  obtain ⟨ca, rfl, hca⟩ := h1
  have hca : ca = #[] := by
    obtain ⟨k⟩ := ca
    cases k with
    | nil => rfl
    | cons => exact hca.elim
  subst hca
  let enc : RowV w M → Value := fun x => x.1
  let cf : RowV w M → RowV w M → Int := fun x y => c x.row y.row
  have hex : ∀ q, ∃ x : RowV w M, q < l.length → cs[q]? = some x.1 ∧ x.row = l.getD q [] := fun q => by
    by_cases hq : q < l.length
    · obtain ⟨v, g1, g2⟩ := hcell q hq
      exact ⟨⟨v, _, g2⟩, fun _ => ⟨g1, sli_inj (RowV.reads _) g2⟩⟩
    · exact ⟨default, fun h => absurd h hq⟩
  let d : Array (RowV w M) := ((List.range l.length).map fun q => Classical.choose (hex q)).toArray
  have hds : d.size = l.length := by simp [d]
  have hd : ∀ q, q < l.length → cs[q]? = some (enc d[q]!) ∧ (d[q]!).row = l.getD q [] := fun q hq => by
    have : d[q]! = Classical.choose (hex q) := by simp [d, hq]
    rw [this]
    exact Classical.choose_spec (hex q) hq
  have hO : SWO (ltOf cf) := by
    refine ⟨fun x => ?_, fun x y z h1 h2 => ?_, fun x y z h1 h2 => ?_⟩
    · exact decide_eq_false (by have := hc.self x.row; show ¬ c x.row x.row < 0; omega)
    · simp only [ltOf, cf] at *
      exact decide_eq_true (hc.trans _ _ _ (of_decide_eq_true h1) (of_decide_eq_true h2))
    · simp only [ltOf, cf] at *
      have h1 := of_decide_eq_false h1
      have h2 := of_decide_eq_false h2
      refine decide_eq_false ?_
      have s1 := hc.swap x.row y.row
      have s2 := hc.swap y.row z.row
      have s3 := hc.swap x.row z.row
      have := le_trans' hc (a := z.row) (b := y.row) (d := x.row) (by omega) (by omega)
      omega
  have hlt := lt_of_block hb
  have hone : OneCell enc := fun x => by
    obtain ⟨_, a, cap, he, _⟩ := x.reads
    show x.1.oneCell' = true
    rw [he]; rfl
  have hH : Holds enc w b 0 d := fun j hj => by
    rw [hds] at hj
    refine ⟨by rw [Nat.zero_add, cell_of_heap hb]; exact (hd j hj).1, ?_⟩
    simp [World.frozen?, hb]
  have keep : ∀ m dk os, Keep w M (sortWorld enc w b 0 m dk os) M := fun m dk os b' off v h1 h2 => ⟨(sortW_stp hb enc m dk os hM).cell h1 fun h => h2 h.2, h2⟩
  have hcmp : CmpLays1 Try.prog g #[] enc cf b 0 d.size w := fun m os dk _ x y => by
    have hk := keep m dk os
    have hreads : RepL (RepT noEnv (sortWorld enc w b 0 m dk os) M) [.ro (.ints .i64 x.row), .ro (.ints .i64 y.row)] [enc x, enc y] :=
      ⟨rep_ints.2 (x.reads.keep hk), rep_ints.2 (y.reads.keep hk), trivial⟩
    have := (hg x.row y.row).2 M (sortWorld enc w b 0 m dk os) [enc x, enc y] (fun b' off hm => by rw [sortW_size]; have := st.mlt b' off hm; omega) hreads
    refine Calls.mono this fun e w' ⟨v, he, hs, _, _, _, hv⟩ => ?_
    obtain ⟨rfl, _⟩ : v = .int .i64 (c x.row y.row) ∧ _ := hv
    exact ⟨he, stp_grow hs⟩
  have eg : ∀ args w, (callFunc g args).run Try.prog w = .ok (.enter g args) w := by
    obtain ⟨fn, h1, h2, h3⟩ := (hg [] []).1
    obtain ⟨cd, hcd⟩ := Option.isSome_iff_exists.1 h3
    exact enters_of h1 (by simpa using h2) hcd
  have hcall := Any.slices_SortFunc sortL enc hone cf hO g #[] b 0 o.cap d w eg hcmp hH hlt (by rw [hds]; have : l.length ≤ 140737488355328 := hlb; omega)
  have hv0 : o.val = .slice (some ⟨b, 0, none⟩) d.size o.cap := by rw [Sl.val, hob, hds, hlen]; rfl
  rw [hv0]
  refine Calls.mono hcall fun e w' ⟨he, d', n, os, hp, hsrt, hw⟩ => ?_
  subst hw
  refine ⟨_, ρ, M, he, ?_, ⟨#[], rfl, trivial⟩⟩
  have hds' : d'.size = l.length := by rw [hp.1, hds]
  have hperm : d'.toList.Perm d.toList := by
    have := hp.2.2
    rw [← hp.1, Array.extract_size] at this
    rw [hp.1, Array.extract_size] at this
    exact this
  have hrow : d.toList.map RowV.row = l := by
    refine List.ext_getElem (by simp [hds]) fun i h1 h2 => ?_
    have := (hd i h2).2
    rw [getD_eq h2, getElem!_pos d i (by omega)] at this
    simpa using this
  have hl' : (d'.toList.map RowV.row).Perm l := by rw [← hrow]; exact hperm.map _
  have hsorted : (d'.toList.map RowV.row).Pairwise fun a b => c a b ≤ 0 := by
    rw [List.pairwise_map, List.pairwise_iff_getElem]
    intro i j hi hj hij
    have hi' : i < d'.size := by simpa using hi
    have hj' : j < d'.size := by simpa using hj
    have := hsrt i j (Nat.zero_le _) hij (by rw [hds]; omega)
    rw [getElem!_pos d' i hi', getElem!_pos d' j hj'] at this
    have := of_decide_eq_false this
    have sw := hc.swap (d'[i].row) (d'[j].row)
    have this : ¬ c (d'[j].row) (d'[i].row) < 0 := this
    show c (d'[i].row) (d'[j].row) ≤ 0
    omega
  have heq : srt c l = d'.toList.map RowV.row := srt_uniq hc hsorted hl'
  have hget : ∀ q, q < l.length → (srt c l).getD q [] = (d'[q]!).row := fun q hq => by
    rw [heq, getD_eq (by simp; omega), getElem!_pos d' q (by omega)]
    simp
  have hk := keep n d' os
  have hstp := sortW_stp hb enc n d' os hM
  refine ⟨fun k => by rw [st.dom k, find_cons, find_cons]; split <;> rfl, fun k B hB => ?_, st.inj, fun b' off hm => by rw [sortW_size]; have := st.mlt b' off hm; omega, ?_, st.sub, st.old, st.fresh, st.pin⟩
  · have hk1 : k = 1000 ∧ B = .vec 0 (.rows .i64 (srt c l)) [] := by
      rw [find_cons] at hB
      split at hB
      · rename_i e; cases hB; exact ⟨e.symm, rfl⟩
      · cases hB
    obtain ⟨rfl, rfl⟩ := hk1
    refine ⟨⟨o, ho, by rw [hlen]; exact (srt_len l).symm, hsz, by show (srt c l).length ≤ LB; rw [srt_len]; exact hlb, Nat.zero_le _, ?_⟩, .inl rfl⟩
    simp only [hob]
    refine ⟨hcap, putCells enc 0 d' cs, ty, sortW_block hb enc n d' os, by rw [putCells_size]; exact hcs, fun off => by rw [putCells_size, hM off]; omega, fun q hq => ?_⟩
    have hq : q < l.length := by simpa [RO.cells, RO.len, RO.sz, srt_len] using hq
    refine ⟨enc d'[q]!, putCells_at enc d' (by omega) (by omega), ?_⟩
    show SlI _ M .i64 ((srt c l).getD q []) (enc d'[q]!)
    rw [hget q hq]
    exact (d'[q]!).reads.keep hk
  · refine hstp.weaken fun b' off he => ?_
    obtain ⟨rfl, hm⟩ := he
    exact ⟨⟨1000, by simp [hasB, ho, Own.has, hob]⟩, hm⟩
end Go.Proofs.Ytpanlghofeebhaa
end
