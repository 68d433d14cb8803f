/- From contracts to the given statements: how the arguments read, before and after. -/
import Derived.Test.YteopelpnpdbbcaaBase
import Derived.Test.YteopelpnpdbbcaaRows
import Derived.Deep.Matrix
import Derived.Deep.Fields
import Derived.SizedLaws
import Derived.Carry
import Derived.WideKeyArgs
import Derived.ProofKit
import Derived.OpenShut
namespace Go.Proofs.Yteopelpnpdbbcaa
open Go Go.AM
open Go.ChangeShapes Go.WideShapes Go.ChangeAt Go.RowKit Go.Deep

def noM : Msk := fun _ _ => False

section
variable {H : Type} {enc : TypeId × Value → H} {P : Program} {w : World}

theorem wf_in {k : IntKind} {n : Int} (h : (Lit.int k n).wf = true) : inK k n := by
  simp only [Lit.wf, Bool.and_eq_true, decide_eq_true_eq] at h
  exact h

theorem weight_mem {e : TypeId} {d : DataW H} {x : Nat} : ∀ {l : List (DataW H)}, d ∈ l → x ∈ d.weights P e → x ∈ DataW.weightsAll P e l
  | [], h, _ => by cases h
  | c :: l, h, hx => by
    simp only [DataW.weightsAll, List.mem_append]
    rcases List.mem_cons.1 h with rfl | h
    · exact .inl hx
    · exact .inr (weight_mem h hx)

/-- A slice of slices of integers, as the machine reads it. -/
theorem rows_rep {t e q : TypeId} {n : Nat} {v : Value} {y : DataW H × List MemPlace} (ht : P.underlying t = some (.slice e)) (he : P.underlying e = some (.slice q)) (hq : P.underlying q = some (.int .i64)) (ce : P.cellsOf e = 1) (cq : P.cellsOf q = 1)
    (be : 1 ≤ P.bytesOf e) (bq : 1 ≤ P.bytesOf q) (h : DataW.trod enc P w 0 (fun _ => true) true n t [v] = some y) (hw : ∀ x ∈ y.1.weights P t, x ≤ reachBytes) : ∃ l, RepC noEnv w noM (.ro (.rows .i64 l)) v := by
  have hrb : reachBytes = 140737488351232 := rfl
  rcases open_int_rows ht he hq ce cq h with ⟨hv, _⟩ | ⟨a, len, cap, A, L, C, Z, hv, _, hl, hm, hy, hrows⟩
  · obtain rfl : v = .slice none 0 0 := by simpa using hv
    exact ⟨[], Nat.zero_le _, none, 0, rfl, Nat.le_refl _, .inl rfl⟩
  · obtain rfl : v = .slice (some a) len cap := by simpa using hv
    subst hy
    have hlen : len * P.bytesOf e ≤ reachBytes := by
      have := hw ((len + (cap - len)) * P.bytesOf e) (by simp [DataW.weights, ht])
      exact Nat.le_trans (Nat.mul_le_mul_right _ (by omega)) this
    have hlen1 : len ≤ reachBytes := Nat.le_trans (by have := Nat.mul_le_mul_left len be; omega) hlen
    have hL : ∀ r, r < len → L r ≤ reachBytes := fun r hr => by
      obtain ⟨_, h1, h2, h3, _, h4, _⟩ := hrows r (by omega)
      cases hA : A r with
      | none => have := h4 hA; omega
      | some a' =>
        have hx : (L r + ((Z r).length - L r)) * P.bytesOf q ≤ reachBytes := by
          refine hw _ ?_
          simp only [DataW.weights, ht, List.mem_cons, List.mem_append]
          refine .inr (.inl (weight_mem (d := intRow .i64 (A r) (L r) (Z r)) (List.mem_map.2 ⟨r, List.mem_range.2 hr, rfl⟩) ?_))
          rw [hA]
          simp [intRow, DataW.weights, he, lits]
          left
          rw [Nat.min_eq_left (by omega)]
        have h5 : L r * 1 ≤ (L r + ((Z r).length - L r)) * P.bytesOf q := Nat.mul_le_mul (by omega) bq
        omega
    refine ⟨(List.range len).map fun r => (Z r).take (L r), ?_⟩
    have hll : (RO.rows .i64 ((List.range len).map fun r => (Z r).take (L r))).len = len := by simp [RO.len]
    refine ⟨by rw [hll]; exact Nat.le_trans hlen1 (by rw [hrb]; decide), some a, cap, by rw [hll], by rw [hll]; exact hl, ?_⟩
    by_cases h0 : len = 0
    · exact .inl (by rw [RO.cells, hll, h0, Nat.zero_mul])
    have hcell0 := (hrows 0 (by omega)).1
    obtain ⟨b, off, spot⟩ := a
    have hspot : spot = none := by simpa [Addr.add] using World.cell?_spot hcell0
    subst hspot
    refine .inr ⟨b, off, rfl, fun r hr => ?_⟩
    have hr : r < len := by simpa [RO.cells, hll, RO.sz] using hr
    obtain ⟨h1, h2, h3, h4, h5, h6, h7⟩ := hrows r (by omega)
    refine ⟨.slice (A r) (L r) (C r), by rw [← add_plain]; exact h1, fun hh => hh, ?_⟩
    have hget : ((List.range len).map fun r => (Z r).take (L r)).getD r [] = (Z r).take (L r) := by simp [List.getD, hr]
    show SlI w noM .i64 (((List.range len).map fun r => (Z r).take (L r)).getD r []) _
    rw [hget]
    have hzl : ((Z r).take (L r)).length = L r := by rw [List.length_take]; omega
    refine ⟨by rw [hzl]; have := hL r hr; simp only [LB]; omega, A r, C r, by rw [hzl], by rw [hzl]; exact h2, ?_⟩
    by_cases hl0 : L r = 0
    · exact .inl (by rw [hzl, hl0])
    cases hA : A r with
    | none => have := h6 hA; omega
    | some a' =>
      obtain ⟨h8, h9⟩ := h7 a' hA
      obtain ⟨b', off', spot'⟩ := a'
      have hspot : spot' = none := by simpa [Addr.add] using World.cell?_spot (h9 0 (by omega))
      subst hspot
      refine .inr ⟨b', off', rfl, fun c hc => ?_⟩
      rw [hzl] at hc
      have hg2 : ((Z r).take (L r)).getD c 0 = (Z r).getD c 0 := by simp [List.getD, hc]
      refine ⟨.int .i64 ((Z r).getD c 0), by rw [← add_plain]; exact h9 c (by omega), fun hh => hh, by rw [hg2], ?_⟩
      rw [hg2]
      refine wf_in (h5 _ ?_)
      have : c < (Z r).length := by omega
      simp [List.getD, this]

/-- A list of integers, as the machine reads it. -/
theorem ints_rep {t e : TypeId} {n : Nat} {v : Value} {y : DataW H × List MemPlace} (ht : P.underlying t = some (.slice e)) (he : P.underlying e = some (.int .i64)) (ce : P.cellsOf e = 1)
    (be : 1 ≤ P.bytesOf e) (h : DataW.trod enc P w 0 (fun _ => true) true n t [v] = some y) (hw : ∀ x ∈ y.1.weights P t, x ≤ reachBytes) : ∃ l, RepC noEnv w noM (.ro (.ints .i64 l)) v := by
  have hrb : reachBytes = 140737488351232 := rfl
  rcases open_ints ht he ce h with ⟨hv, _⟩ | ⟨a, len, cap, zs, hv, _, hl, hm, hz, hy, hcell, hwf⟩
  · obtain rfl : v = .slice none 0 0 := by simpa using hv
    exact ⟨[], Nat.zero_le _, none, 0, rfl, Nat.le_refl _, .inl rfl⟩
  · obtain rfl : v = .slice (some a) len cap := by simpa using hv
    subst hy
    simp only [if_true] at hz
    have hlen : (len + (zs.length - len)) * P.bytesOf e ≤ reachBytes := hw _ (by simp [DataW.weights, ht, lits]; left; rw [Nat.min_eq_left (by omega)])
    have hlen1 : len * 1 ≤ (len + (zs.length - len)) * P.bytesOf e := Nat.mul_le_mul (by omega) be
    have hzl : (zs.take len).length = len := by rw [List.length_take]; omega
    refine ⟨zs.take len, by show (zs.take len).length ≤ _; rw [hzl]; simp only [LB]; omega, some a, cap, by show _ = Value.slice _ (zs.take len).length _; rw [hzl], by show (zs.take len).length ≤ _; rw [hzl]; exact hl, ?_⟩
    by_cases hl0 : len = 0
    · exact .inl (by simp [RO.cells, RO.len, hl0])
    obtain ⟨b, off, spot⟩ := a
    have hspot : spot = none := by simpa [Addr.add] using World.cell?_spot (hcell 0 (by omega))
    subst hspot
    refine .inr ⟨b, off, rfl, fun c hc => ?_⟩
    have hc : c < len := by simpa [RO.cells, RO.len, RO.sz, hzl] using hc
    have hg2 : (zs.take len).getD c 0 = zs.getD c 0 := by simp [List.getD, hc]
    refine ⟨.int .i64 (zs.getD c 0), by rw [← add_plain]; exact hcell c (by omega), fun hh => hh, by rw [hg2], ?_⟩
    rw [hg2]
    refine wf_in (hwf _ ?_)
    have : c < zs.length := by omega
    simp [List.getD, this]

theorem stp_heap {W W' : World} (hs : Stp (fun _ _ => False) W W') {b : Nat} (hb : b < W.heap.size) : W'.heap[b]? = W.heap[b]? := by
  rcases hs.2 b hb with h | ⟨cs, cs', ty, h1, h2, h3, h4⟩ | ⟨_, _, _, _, _, _, h⟩
  · exact h
  · rw [h1, h2]
    have : cs' = cs := Array.ext_getElem? fun i => h4 i (by simp)
    rw [this]
  · exact h.elim

/-- Behind a call that changes nothing: what was read reads as it did. -/
theorem stp_trod {t : TypeId} (hl : laidOutB P = true) (hr : P.readableRec t = true) (hrow : t < P.types.size) {W W' : World} {v : Value} {d : DataW H} {ps : List MemPlace}
    (h : DataW.Trod enc P W 0 (fun _ => true) true t v d ps) (hs : Stp (fun _ _ => False) W W') (hlt : ∀ x ∈ ps, x.block < W.heap.size) (sp : Nat → Bool) (hsp : ∀ x ∈ ps, sp x.block = true) :
    DataW.Trod enc P W' 0 sp true t v d ps :=
  WideElems.Trod_stays hl hr hrow h (fun x hx => by
    have hb := hlt x hx
    cases x with
    | cell b o => exact World.cell?_of_block (w := W) (stp_heap hs hb)
    | map b => exact stp_heap hs hb) hsp

theorem stp_kept {W W' : World} (hs : Stp (fun _ _ => False) W W') (may : MemPlace → Prop) : W.keptBut W' may := by
  refine ⟨hs.3.1.1, hs.3.1.2, fun i hi => ?_⟩
  rw [stp_heap hs hi]
  cases W.heap[i]? with
  | none => exact rfl
  | some o => cases o <;> first | exact ⟨rfl, rfl, rfl, fun _ _ => rfl⟩ | exact .inr ⟨rfl, rfl⟩ | exact rfl


theorem each_mem : ∀ {ts : List TypeId} {ds : List (DataW H)} {j : Nat} {t : TypeId} {d : DataW H} {x : Nat}, ts[j]? = some t → ds[j]? = some d → x ∈ d.weights P t → x ∈ DataW.weightsEach P ts ds
  | [], _, j, _, _, _, h, _, _ => by simp at h
  | _ :: _, [], j, _, _, _, _, h, _ => by simp at h
  | t :: ts, d :: ds, 0, t', d', x, h1, h2, hx => by
    simp at h1 h2
    subst h1; subst h2
    simp [DataW.weightsEach, hx]
  | t :: ts, d :: ds, j + 1, t', d', x, h1, h2, hx => by
    have := each_mem (ts := ts) (ds := ds) (j := j) (by simpa using h1) (by simpa using h2) hx
    simp [DataW.weightsEach, this]

/-- A Rees matrix semigroup, as the machine reads it. -/
theorem rees_rep {t tg te ti tb : TypeId} {r : Reach} {b0 : Nat} {f0 f1 f2 f3 f4 : Field} {v : Value} {d : DataW H} {p : List MemPlace} (hs : P.underlying t = some (.struct #[f0, f1, f2, f3, f4])) (hone : oneCellFields P #[f0, f1, f2, f3, f4] = true) (hC : P.cellsOf t = 5)
    (e0 : f0.type = tg) (e1 : f1.type = ti) (e2 : f2.type = ti) (e3 : f3.type = tg) (e4 : f4.type = tb)
    (hg : P.underlying tg = some (.slice te)) (he : P.underlying te = some (.slice ti)) (hi : P.underlying ti = some (.int .i64)) (hb : P.underlying tb = some .bool) (ce : P.cellsOf te = 1) (ci : P.cellsOf ti = 1) (be : 1 ≤ P.bytesOf te) (bi : 1 ≤ P.bytesOf ti)
    (hv : Value.okWide P w r b0 t v) (h : DataW.Trod enc P w 0 (fun _ => true) true t v d p) (hw : ∀ x ∈ d.weights P t, x ≤ reachBytes) :
    ∃ G R C Pm z, RepT noEnv w noM (.agg [.ro (.rows .i64 G), .int .i64 R, .int .i64 C, .ro (.rows .i64 Pm), .bool (.v z)]) v := by
  obtain ⟨cs, rfl, hsz⟩ := okWide_struct hs hv
  obtain ⟨l⟩ := cs
  have hl5 : l.length = 5 := by simpa [hC] using hsz
  obtain ⟨fuel, hf⟩ := h
  obtain ⟨xs, n, _, hx, _, hlen, hg2⟩ := DataW.trod_struct hs hf
  have hx5 : xs.length = 5 := by simpa using hlen
  have k0 := hone_of hone 0 f0 rfl
  have k1 := hone_of hone 1 f1 rfl
  have k2 := hone_of hone 2 f2 rfl
  have k3 := hone_of hone 3 f3 rfl
  have k4 := hone_of hone 4 f4 rfl
  match l, hl5, xs, hx5 with
  | [c0, c1, c2, c3, c4], _, [y0, y1, y2, y3, y4], _ =>
    have g0 : DataW.trod enc P w 0 (fun _ => true) true n f0.type [c0] = some y0 := by simpa [Value.cells, k0.1, k0.2] using hg2 0 f0 rfl
    have g1 : DataW.trod enc P w 0 (fun _ => true) true n f1.type [c1] = some y1 := by simpa [Value.cells, k1.1, k1.2] using hg2 1 f1 rfl
    have g2 : DataW.trod enc P w 0 (fun _ => true) true n f2.type [c2] = some y2 := by simpa [Value.cells, k2.1, k2.2] using hg2 2 f2 rfl
    have g3 : DataW.trod enc P w 0 (fun _ => true) true n f3.type [c3] = some y3 := by simpa [Value.cells, k3.1, k3.2] using hg2 3 f3 rfl
    have g4 : DataW.trod enc P w 0 (fun _ => true) true n f4.type [c4] = some y4 := by simpa [Value.cells, k4.1, k4.2] using hg2 4 f4 rfl
    simp only [Prod.mk.injEq] at hx
    have hd : d = .agg [y0.1, y1.1, y2.1, y3.1, y4.1] := by simpa using hx.1
    subst hd
    have hwe : ∀ x ∈ DataW.weightsEach P [f0.type, f1.type, f2.type, f3.type, f4.type] [y0.1, y1.1, y2.1, y3.1, y4.1], x ≤ reachBytes := fun x hxm => hw x (by simpa [DataW.weights, hs] using hxm)
    rw [e0] at g0 hwe; rw [e1] at g1 hwe; rw [e2] at g2 hwe; rw [e3] at g3 hwe; rw [e4] at g4 hwe
    obtain ⟨G, hG⟩ := rows_rep hg he hi ce ci be bi g0 fun x hxm => hwe x (each_mem (j := 0) rfl rfl hxm)
    obtain ⟨Pm, hP⟩ := rows_rep hg he hi ce ci be bi g3 fun x hxm => hwe x (each_mem (j := 3) rfl rfl hxm)
    obtain ⟨R, hR, _, wR⟩ := DataW.trod_int hi g1
    obtain ⟨C, hC', _, wC⟩ := DataW.trod_int hi g2
    obtain ⟨z, hz, _⟩ := DataW.trod_bool hb g4
    refine ⟨G, R, C, Pm, z, _, rfl, hG, ⟨by simpa using hR, wf_in wR⟩, ⟨by simpa using hC', wf_in wC⟩, hP, ?_, trivial⟩
    show c4 = .bool z
    simpa using hz

/-- A table, or a list, among the arguments. -/
theorem rows_arg {t e q : TypeId} {r : Reach} {b0 : Nat} {v : Value} {d : DataW H} {p : List MemPlace} (ht : P.underlying t = some (.slice e)) (he : P.underlying e = some (.slice q)) (hq : P.underlying q = some (.int .i64)) (ce : P.cellsOf e = 1) (cq : P.cellsOf q = 1)
    (be : 1 ≤ P.bytesOf e) (bq : 1 ≤ P.bytesOf q) (hv : Value.okWide P w r b0 t v) (h : DataW.Trod enc P w 0 (fun _ => true) true t v d p) (hw : ∀ x ∈ d.weights P t, x ≤ reachBytes) : ∃ l, RepT noEnv w noM (.ro (.rows .i64 l)) v := by
  obtain ⟨a, len, cap, rfl⟩ := okWide_slice ht hv
  obtain ⟨fuel, hf⟩ := h
  exact rows_rep ht he hq ce cq be bq (y := (d, p)) hf hw
theorem ints_arg {t e : TypeId} {r : Reach} {b0 : Nat} {v : Value} {d : DataW H} {p : List MemPlace} (ht : P.underlying t = some (.slice e)) (he : P.underlying e = some (.int .i64)) (ce : P.cellsOf e = 1)
    (be : 1 ≤ P.bytesOf e) (hv : Value.okWide P w r b0 t v) (h : DataW.Trod enc P w 0 (fun _ => true) true t v d p) (hw : ∀ x ∈ d.weights P t, x ≤ reachBytes) : ∃ l, RepT noEnv w noM (.ro (.ints .i64 l)) v := by
  obtain ⟨a, len, cap, rfl⟩ := okWide_slice ht hv
  obtain ⟨fuel, hf⟩ := h
  exact ints_rep ht he ce be (y := (d, p)) hf hw
end
end Go.Proofs.Yteopelpnpdbbcaa
