/- Arguments that are lists of pairs: how they read. -/
import Derived.Test.YteopelpnpdbbcaaFrame
namespace Go.Proofs.Yteopelpnpdbbcaa
open Go Go.AM
open Go.ChangeShapes Go.WideShapes Go.ChangeAt Go.RowKit Go.Deep
section
variable {H : Type} {enc : TypeId × Value → H} {P : Program} {w : World}
theorem bools_rep {t e : TypeId} {n : Nat} {v : Value} {y : DataW H × List MemPlace} (ht : P.underlying t = some (.slice e)) (he : P.underlying e = some .bool) (ce : P.cellsOf e = 1)
    (be : 1 ≤ P.bytesOf e) (h : DataW.trod enc P w 0 (fun _ => true) true n t [v] = some y) (hw : ∀ x ∈ y.1.weights P t, x ≤ reachBytes) : ∃ l, RepC noEnv w noM (.ro (.bools l)) v := by
  have hrb : reachBytes = 140737488351232 := rfl
  rcases DataW.trod_slice ht h with ⟨hv, _⟩ | ⟨a, len, cap, elems, rest, n', _, hv, rfl, _, hl, hm, hlen, hel, _, _⟩
  · obtain rfl : v = .slice none 0 0 := by simpa using hv
    exact ⟨[], Nat.zero_le _, none, 0, rfl, Nat.le_refl _, .inl rfl⟩
  · obtain rfl : v = .slice (some a) len cap := by simpa using hv
    have hlen0 : (elems.length + rest.length) * P.bytesOf e ≤ reachBytes := hw _ (by simp [DataW.weights, ht])
    have hlen1 : len * 1 ≤ (elems.length + rest.length) * P.bytesOf e := Nat.mul_le_mul (by omega) be
    have each : ∀ i, i < len → ∃ z : Bool, w.cell? (a.add i) = some (.bool z) := fun i hi => by
      have h1 := hel i hi
      rw [List.getElem?_eq_getElem (by omega), ce, Nat.mul_one, Option.bind_eq_some_iff] at h1
      obtain ⟨cs, h2, h3⟩ := h1
      obtain ⟨_, h4, h5⟩ := World.cells?_some h2
      match cs, h4 with
      | [c0], _ =>
        obtain ⟨z0, e0, _⟩ := DataW.trod_bool he h3
        have e0 : c0 = .bool z0 := by simpa using e0
        have k0 := h5 0 (by omega)
        rw [e0] at k0
        exact ⟨z0, by simpa [Addr.add] using k0⟩
    obtain ⟨z, hz⟩ := choose_lt each
    refine ⟨(List.range len).map z, ?_⟩
    have hll : ((List.range len).map z).length = len := by simp
    refine ⟨by show _ ≤ _; simp only [RO.len, hll, LB]; omega, some a, cap, by simp only [RO.len, hll], by simp only [RO.len, hll]; exact hl, ?_⟩
    by_cases hl0 : len = 0
    · exact .inl (by simp [RO.cells, RO.len, hl0])
    obtain ⟨b, off, spot⟩ := a
    have hspot : spot = none := by simpa [Addr.add] using World.cell?_spot (hz 0 (by omega))
    subst hspot
    refine .inr ⟨b, off, rfl, fun c hc => ?_⟩
    have hc : c < len := by simpa [RO.cells, RO.len, RO.sz] using hc
    have z1 := hz c hc
    rw [add_plain] at z1
    have hg : ((List.range len).map z).getD c false = z c := by simp [List.getD, hc]
    exact ⟨_, z1, fun hh => hh, by simp only [CellP, hg]⟩
theorem bools_arg {t e : TypeId} {r : Reach} {b0 : Nat} {v : Value} {d : DataW H} {p : List MemPlace} (ht : P.underlying t = some (.slice e)) (he : P.underlying e = some .bool) (ce : P.cellsOf e = 1)
    (be : 1 ≤ P.bytesOf e) (hv : Value.okWide P w r b0 t v) (h : DataW.Trod enc P w 0 (fun _ => true) true t v d p) (hw : ∀ x ∈ d.weights P t, x ≤ reachBytes) : ∃ l, RepT noEnv w noM (.ro (.bools l)) v := by
  obtain ⟨a, len, cap, rfl⟩ := okWide_slice ht hv
  obtain ⟨fuel, hf⟩ := h
  exact bools_rep ht he ce be (y := (d, p)) hf hw
end
end Go.Proofs.Yteopelpnpdbbcaa
