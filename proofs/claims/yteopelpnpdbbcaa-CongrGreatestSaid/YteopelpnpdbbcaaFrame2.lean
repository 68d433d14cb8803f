/- Arguments that are lists of pairs: how they read. -/
import Derived.Test.YteopelpnpdbbcaaFrame
namespace Go.Proofs.Yteopelpnpdbbcaa
open Go Go.AM
open Go.ChangeShapes Go.WideShapes Go.ChangeAt Go.RowKit Go.Deep
section
variable {H : Type} {enc : TypeId × Value → H} {P : Program} {w : World}
theorem trod_array2 {t e : TypeId} {fuel : Nat} {c0 c1 : Value} {x : DataW H × List MemPlace} (ht : P.underlying t = some (.array 2 e)) (hce : P.cellsOf e = 1)
    (h : DataW.trod enc P w 0 (fun _ => true) true fuel t [c0, c1] = some x) : ∃ y0 y1 n, DataW.trod enc P w 0 (fun _ => true) true n e [c0] = some y0 ∧ DataW.trod enc P w 0 (fun _ => true) true n e [c1] = some y1 ∧ x = (.agg [y0.1, y1.1], y0.2 ++ y1.2) := by
  cases fuel with
  | zero => simp [DataW.trod] at h
  | succ n =>
    unfold DataW.trod at h
    rw [ht] at h
    have r2 : List.range 2 = [0, 1] := rfl
    simp [r2, hce] at h
    obtain ⟨_, h⟩ := h
    cases h0 : DataW.trod enc P w 0 (fun _ => true) true n e [c0] with
    | none => simp [h0] at h
    | some y0 =>
      cases h1 : DataW.trod enc P w 0 (fun _ => true) true n e [c1] with
      | none => simp [h0, h1] at h
      | some y1 =>
        simp [h0, h1] at h
        exact ⟨y0, y1, n, h0, h1, h.symm⟩
theorem pairs_rep {t e q : TypeId} {n : Nat} {v : Value} {y : DataW H × List MemPlace} (ht : P.underlying t = some (.slice e)) (he : P.underlying e = some (.array 2 q)) (hq : P.underlying q = some (.int .i64)) (ce : P.cellsOf e = 2) (cq : P.cellsOf q = 1)
    (be : 1 ≤ P.bytesOf e) (h : DataW.trod enc P w 0 (fun _ => true) true n t [v] = some y) (hw : ∀ x ∈ y.1.weights P t, x ≤ reachBytes) : ∃ l, RepC noEnv w noM (.ro (.pairs l)) v := by
  have hrb : reachBytes = 140737488351232 := rfl
  rcases DataW.trod_slice ht h with ⟨hv, _⟩ | ⟨a, len, cap, elems, rest, n', _, hv, rfl, _, hl, hm, hlen, hel, _, _⟩
  · obtain rfl : v = .slice none 0 0 := by simpa using hv
    exact ⟨[], Nat.zero_le _, none, 0, rfl, Nat.le_refl _, .inl rfl⟩
  · obtain rfl : v = .slice (some a) len cap := by simpa using hv
    have hlen0 : (elems.length + rest.length) * P.bytesOf e ≤ reachBytes := hw _ (by simp [DataW.weights, ht])
    have hlen1 : len * 1 ≤ (elems.length + rest.length) * P.bytesOf e := Nat.mul_le_mul (by omega) be
    -- each element
    have each : ∀ i, i < len → ∃ z : Int × Int, w.cell? (a.add (i * 2)) = some (.int .i64 z.1) ∧ w.cell? ((a.add (i * 2)).add 1) = some (.int .i64 z.2) ∧ inK .i64 z.1 ∧ inK .i64 z.2 := fun i hi => by
      have h1 := hel i hi
      rw [List.getElem?_eq_getElem (by omega), ce, Option.bind_eq_some_iff] at h1
      obtain ⟨cs, h2, h3⟩ := h1
      obtain ⟨_, h4, h5⟩ := World.cells?_some h2
      match cs, h4 with
      | [c0, c1], _ =>
        obtain ⟨y0, y1, m, g0, g1, _⟩ := trod_array2 he cq h3
        obtain ⟨z0, e0, _, w0⟩ := DataW.trod_int hq g0
        obtain ⟨z1, e1, _, w1⟩ := DataW.trod_int hq g1
        have e0 : c0 = .int .i64 z0 := by simpa using e0
        have e1 : c1 = .int .i64 z1 := by simpa using e1
        have k0 := h5 0 (by omega)
        have k1 := h5 1 (by omega)
        rw [e0] at k0; rw [e1] at k1
        refine ⟨(z0, z1), by simpa [Addr.add] using k0, by simpa using k1, wf_in w0, wf_in w1⟩
    obtain ⟨z, hz⟩ := choose_lt each
    refine ⟨(List.range len).map z, ?_⟩
    have hll : ((List.range len).map z).length = len := by simp
    refine ⟨by show _ ≤ _; simp only [RO.len, hll, LB]; omega, some a, cap, by simp only [RO.len, hll], by simp only [RO.len, hll]; exact hl, ?_⟩
    by_cases hl0 : len = 0
    · exact .inl (by simp [RO.cells, RO.len, hl0])
    obtain ⟨b, off, spot⟩ := a
    have hspot : spot = none := by simpa [Addr.add] using World.cell?_spot (hz 0 (by omega)).1
    subst hspot
    refine .inr ⟨b, off, rfl, fun c hc => ?_⟩
    have hc : c < len * 2 := by simpa [RO.cells, RO.len, RO.sz] using hc
    have hci : c / 2 < len := by omega
    obtain ⟨z1, z2, z3, z4⟩ := hz (c / 2) hci
    have hg : ((List.range len).map z).getD (c / 2) (0, 0) = z (c / 2) := by simp [List.getD, hci]
    rw [add_plain] at z1 z2
    rw [add_plain] at z2
    by_cases h2 : c % 2 = 0
    · refine ⟨.int .i64 (z (c / 2)).1, by rw [show off + c = off + c / 2 * 2 by omega]; exact z1, fun hh => hh, ?_⟩
      simp only [CellP, hg, if_pos h2]
      exact ⟨trivial, z3⟩
    · refine ⟨.int .i64 (z (c / 2)).2, by rw [show off + c = off + c / 2 * 2 + 1 by omega]; exact z2, fun hh => hh, ?_⟩
      simp only [CellP, hg, if_neg h2]
      exact ⟨trivial, z4⟩
theorem pairs_arg {t e q : TypeId} {r : Reach} {b0 : Nat} {v : Value} {d : DataW H} {p : List MemPlace} (ht : P.underlying t = some (.slice e)) (he : P.underlying e = some (.array 2 q)) (hq : P.underlying q = some (.int .i64)) (ce : P.cellsOf e = 2) (cq : P.cellsOf q = 1)
    (be : 1 ≤ P.bytesOf e) (hv : Value.okWide P w r b0 t v) (h : DataW.Trod enc P w 0 (fun _ => true) true t v d p) (hw : ∀ x ∈ d.weights P t, x ≤ reachBytes) : ∃ l, RepT noEnv w noM (.ro (.pairs l)) v := by
  obtain ⟨a, len, cap, rfl⟩ := okWide_slice ht hv
  obtain ⟨fuel, hf⟩ := h
  exact pairs_rep ht he hq ce cq be (y := (d, p)) hf hw
theorem bools_rep {t e : TypeId} {n : Nat} {v : Value} {y : DataW H × List MemPlace} (ht : P.underlying t = some (.slice e)) (he : P.underlying e = some .bool) (ce : P.cellsOf e = 1)
    (be : 1 ≤ P.bytesOf e) (h : DataW.trod enc P w 0 (fun _ => true) true n t [v] = some y) (hw : ∀ x ∈ y.1.weights P t, x ≤ reachBytes) : ∃ l, RepC noEnv w noM (.ro (.bools l)) v := by
  have hrb : reachBytes = 140737488351232 := rfl
  rcases DataW.trod_slice ht h with ⟨hv, _⟩ | ⟨a, len, cap, elems, rest, n', _, hv, rfl, _, hl, hm, hlen, hel, _, _⟩
  · obtain rfl : v = .slice none 0 0 := by simpa using hv
    exact ⟨[], Nat.zero_le _, none, 0, rfl, Nat.le_refl _, .inl rfl⟩
  · obtain rfl : v = .slice (some a) len cap := by simpa using hv
    have hlen0 : (elems.length + rest.length) * P.bytesOf e ≤ reachBytes := hw _ (by simp [DataW.weights, ht])
    have hlen1 : len * 1 ≤ (elems.length + rest.length) * P.bytesOf e := Nat.mul_le_mul (by omega) be
    have each : ∀ i, i < len → ∃ z : Bool, w.cell? (a.add i) = some (.bool z) := fun i hi => by
      have h1 := hel i hi
      rw [List.getElem?_eq_getElem (by omega), ce, Nat.mul_one, Option.bind_eq_some_iff] at h1
      obtain ⟨cs, h2, h3⟩ := h1
      obtain ⟨_, h4, h5⟩ := World.cells?_some h2
      match cs, h4 with
      | [c0], _ =>
        obtain ⟨z0, e0, _⟩ := DataW.trod_bool he h3
        have e0 : c0 = .bool z0 := by simpa using e0
        have k0 := h5 0 (by omega)
        rw [e0] at k0
        exact ⟨z0, by simpa [Addr.add] using k0⟩
    obtain ⟨z, hz⟩ := choose_lt each
    refine ⟨(List.range len).map z, ?_⟩
    have hll : ((List.range len).map z).length = len := by simp
    refine ⟨by show _ ≤ _; simp only [RO.len, hll, LB]; omega, some a, cap, by simp only [RO.len, hll], by simp only [RO.len, hll]; exact hl, ?_⟩
    by_cases hl0 : len = 0
    · exact .inl (by simp [RO.cells, RO.len, hl0])
    obtain ⟨b, off, spot⟩ := a
    have hspot : spot = none := by simpa [Addr.add] using World.cell?_spot (hz 0 (by omega))
    subst hspot
    refine .inr ⟨b, off, rfl, fun c hc => ?_⟩
    have hc : c < len := by simpa [RO.cells, RO.len, RO.sz] using hc
    have z1 := hz c hc
    rw [add_plain] at z1
    have hg : ((List.range len).map z).getD c false = z c := by simp [List.getD, hc]
    exact ⟨_, z1, fun hh => hh, by simp only [CellP, hg]⟩
theorem bools_arg {t e : TypeId} {r : Reach} {b0 : Nat} {v : Value} {d : DataW H} {p : List MemPlace} (ht : P.underlying t = some (.slice e)) (he : P.underlying e = some .bool) (ce : P.cellsOf e = 1)
    (be : 1 ≤ P.bytesOf e) (hv : Value.okWide P w r b0 t v) (h : DataW.Trod enc P w 0 (fun _ => true) true t v d p) (hw : ∀ x ∈ d.weights P t, x ≤ reachBytes) : ∃ l, RepT noEnv w noM (.ro (.bools l)) v := by
  obtain ⟨a, len, cap, rfl⟩ := okWide_slice ht hv
  obtain ⟨fuel, hf⟩ := h
  exact bools_rep ht he ce be (y := (d, p)) hf hw
end
end Go.Proofs.Yteopelpnpdbbcaa
