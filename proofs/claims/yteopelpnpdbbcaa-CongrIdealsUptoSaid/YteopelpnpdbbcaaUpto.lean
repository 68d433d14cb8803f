/- For statements of the second form: what the bound on what comes in gives. -/
import Derived.Test.YteopelpnpdbbcaaFrame
import Derived.JoinedCond
import Derived.Deep.CondSized
namespace Go.Proofs.Yteopelpnpdbbcaa
open Go Go.AM
open Go.ChangeShapes Go.WideShapes Go.ChangeAt Go.RowKit Go.Deep

theorem bulk_one {H : Type} (d : DataW H) : 1 ≤ Rows.uptoBulk d := by
  cases d with
  | lit l => cases l <;> simp [Rows.uptoBulk]
  | nil => simp [Rows.uptoBulk]
  | ptr d => simp [Rows.uptoBulk]
  | slice elems spare => simp [Rows.uptoBulk]
  | agg parts => simp [Rows.uptoBulk]
  | iface t d => simp [Rows.uptoBulk]
  | map entries => simp [Rows.uptoBulk]
  | held h => simp [Rows.uptoBulk]
theorem bulk_part {H : Type} {d : DataW H} : ∀ {l : List (DataW H)}, d ∈ l → Rows.uptoBulk d ≤ Rows.uptoBulkAll l
  | x :: r, h => by
    simp only [Rows.uptoBulkAll]
    rcases List.mem_cons.1 h with e | e
    · subst e; omega
    · have := bulk_part e; omega
theorem bulk_len {H : Type} : ∀ (l : List (DataW H)), l.length ≤ Rows.uptoBulkAll l
  | [] => by simp
  | x :: r => by have := bulk_one x; have := bulk_len r; simp only [Rows.uptoBulkAll, List.length_cons]; omega
theorem slice_le {H : Type} (elems spare : List (DataW H)) : elems.length + spare.length + 1 ≤ Rows.uptoBulk (.slice elems spare) := by
  have h1 := bulk_len elems
  have h2 := bulk_len spare
  simp only [Rows.uptoBulk]
  omega
theorem bulk_bound {H : Type} {l : List (DataW H)} (hk : Rows.uptoSmall H l = true) : Rows.uptoBulkAll l ≤ 1048576 := of_decide_eq_true hk

section
variable {H : Type} {enc : TypeId × Value → H} {P : Program} {w : World}
/-- A list of integers, as the machine reads it. -/
theorem ints_repU {t e : TypeId} {n : Nat} {v : Value} {y : DataW H × List MemPlace} (ht : P.underlying t = some (.slice e)) (he : P.underlying e = some (.int .i64)) (ce : P.cellsOf e = 1)
    (be : 1 ≤ P.bytesOf e) (h : DataW.trod enc P w 0 (fun _ => true) true n t [v] = some y) (hw : ∀ x ∈ y.1.weights P t, x ≤ reachBytes) : ∃ l, RepC noEnv w noM (.ro (.ints .i64 l)) v ∧ l.length ≤ Rows.uptoBulk y.1 := by
  have hrb : reachBytes = 140737488351232 := rfl
  rcases open_ints ht he ce h with ⟨hv, _⟩ | ⟨a, len, cap, zs, hv, _, hl, hm, hz, hy, hcell, hwf⟩
  · obtain rfl : v = .slice none 0 0 := by simpa using hv
    exact ⟨[], ⟨Nat.zero_le _, none, 0, rfl, Nat.le_refl _, .inl rfl⟩, Nat.zero_le _⟩
  · obtain rfl : v = .slice (some a) len cap := by simpa using hv
    subst hy
    simp only [if_true] at hz
    have hlen : (len + (zs.length - len)) * P.bytesOf e ≤ reachBytes := hw _ (by simp [DataW.weights, ht, lits]; left; rw [Nat.min_eq_left (by omega)])
    have hlen1 : len * 1 ≤ (len + (zs.length - len)) * P.bytesOf e := Nat.mul_le_mul (by omega) be
    have hzl : (zs.take len).length = len := by rw [List.length_take]; omega
    have hbulk := slice_le (H := H) (lits .i64 (zs.take len)) (lits .i64 (zs.drop len))
    have hll : (lits (H := H) .i64 (zs.take len)).length = (zs.take len).length := by simp [lits]
    refine ⟨zs.take len, ?_, by show (zs.take len).length ≤ Rows.uptoBulk (.slice (lits .i64 (zs.take len)) (lits .i64 (zs.drop len))); omega⟩
    refine ⟨by show (zs.take len).length ≤ _; rw [hzl]; simp only [LB]; omega, some a, cap, by show _ = Value.slice _ (zs.take len).length _; rw [hzl], by show (zs.take len).length ≤ _; rw [hzl]; exact hl, ?_⟩
    by_cases hl0 : len = 0
    · exact .inl (by simp [RO.cells, RO.len, hl0])
    obtain ⟨b, off, spot⟩ := a
    have hspot : spot = none := by simpa [Addr.add] using World.cell?_spot (hcell 0 (by omega))
    subst hspot
    refine .inr ⟨b, off, rfl, fun c hc => ?_⟩
    have hc : c < len := by simpa [RO.cells, RO.len, RO.sz, hzl] using hc
    have hg2 : (zs.take len).getD c 0 = zs.getD c 0 := by simp [List.getD, hc]
    refine ⟨.int .i64 (zs.getD c 0), by rw [← add_plain]; exact hcell c (by omega), fun hh => hh, by rw [hg2], ?_⟩
    rw [hg2]
    refine wf_in (hwf _ ?_)
    have : c < zs.length := by omega
    simp [List.getD, this]

theorem ints_argU {t e : TypeId} {r : Reach} {b0 : Nat} {v : Value} {d : DataW H} {p : List MemPlace} (ht : P.underlying t = some (.slice e)) (he : P.underlying e = some (.int .i64)) (ce : P.cellsOf e = 1)
    (be : 1 ≤ P.bytesOf e) (hv : Value.okWide P w r b0 t v) (h : DataW.Trod enc P w 0 (fun _ => true) true t v d p) (hw : ∀ x ∈ d.weights P t, x ≤ reachBytes) : ∃ l, RepT noEnv w noM (.ro (.ints .i64 l)) v ∧ l.length ≤ Rows.uptoBulk d := by
  obtain ⟨a, len, cap, rfl⟩ := okWide_slice ht hv
  obtain ⟨fuel, hf⟩ := h
  exact ints_repU ht he ce be (y := (d, p)) hf hw
end
end Go.Proofs.Yteopelpnpdbbcaa
