/- mult.Zero where 0 is a zero: contract. -/
import Derived.Test.YtdmfhcppdpcceaaGreatCollLaw
import Derived.Test.YtdmfhcppdpcceaaGreatMult
namespace Go.Proofs.YtdmfhcppdpcceaaGreat
open Go Go.AM
set_option maxRecDepth 100000
set_option maxHeartbeats 1000000
def elemsL (n : Nat) : List Int := (List.range n).map fun i : Nat => (i : Int)
theorem elems_k (t : List (List Int)) (hn : t.length ≤ 400) : fnK TY SP Tryz.f53 [.ro (.rows .i64 t)] (.new (.ints .i64 (elemsL t.length))) := by
  refine And.intro (by omega) ?_
  refine And.intro (by omega) ?_
  refine Exists.intro [] <| lp2 (fun (k : Nat) (_ : List Int) => [(10, .int .i64 k)]) (fun _ L => [(7, .vec 0 (.ints .i64 L) [])]) (fun k L => k ≤ t.length ∧ L.length = t.length ∧ ∀ j, j < k → L.getD j 0 = (j : Int)) (fun k _ => t.length - k) 0 (List.replicate t.length 0) ⟨Nat.zero_le _, by simp, by omega⟩ (by repeat' first | refine And.intro ?_ ?_ | exact True.intro | (show (_ : Int) = (_ : Int); omega) | omega | exact rfl | (simp; omega)) ?_
  rintro k L ⟨hk, hL, hj⟩
  refine And.intro (fun h1 => ?_) (fun h1 => ?_)
  · have h1 : (k : Int) < ((List.replicate ((t.length : Nat) : Int).toNat (0 : Int)).length : Int) := h1
    rw [List.length_replicate, Int.toNat_natCast] at h1
    have hkl : k < t.length := by omega
    refine And.intro (show 0 ≤ (k : Int) ∧ (k : Int) < (L.length : Int) by omega) ?_
    refine And.intro (by omega) ?_
    refine And.intro (by omega) ?_
    refine nx (k + 1, L.set k (k : Int)) ⟨by omega, by rw [List.length_set]; exact hL, fun j hj' => ?_⟩ (show t.length - (k + 1) < t.length - k by omega) (by repeat' first | refine And.intro ?_ ?_ | exact True.intro | (show (_ : Int) = (_ : Int); omega) | omega | exact rfl | (simp only [RO.len]; omega))
    by_cases e : j = k
    · subst e; rw [getD_set_eq (by omega)]
    · rw [getD_set_ne (Ne.symm e)]; exact hj j (by omega)
  · have h1 : ((List.replicate ((t.length : Nat) : Int).toNat (0 : Int)).length : Int) ≤ (k : Int) := h1
    rw [List.length_replicate, Int.toNat_natCast] at h1
    refine And.intro (And.intro (by omega) ?_) trivial
    refine congrArg (RO.ints .i64) (ext_getD 0 (by simp [elemsL]; exact hL) fun j hj' => ?_)
    rw [hj j (by omega)]; unfold elemsL; rw [map_range_getD _ _ _ _ (by omega)]
theorem elems_fn (t : List (List Int)) (hn : t.length ≤ 400) : QF 53 [.ro (.rows .i64 t)] (.new (.ints .i64 (elemsL t.length))) := mkQ Tryz.func53 (by decide +kernel) rfl (Nat.le_of_ble_eq_true rfl) fun _ => elems_k t hn
theorem zeroC_k (t : List (List Int)) (h : Sh t) (x : Nat) (hx : x < t.length) : fnMK TY SP Tryz.f54 [.int .i64 x, .ptr 1000 0] [(1000, .box [.ro (.rows .i64 t)])] (.bool (.v (isZ t x))) [(1000, .box [.ro (.rows .i64 t)])] := by
  refine Exists.intro [] <| lp (X := Nat) (fun y => [(7, .int .i64 y)]) (fun _ => []) (fun y => y ≤ t.length ∧ ∀ z, z < y → en t x z = x ∧ en t z x = x) (fun y => t.length - y) 0 ⟨Nat.zero_le _, by omega⟩ (by repeat' first | refine And.intro ?_ ?_ | exact True.intro | (show (_ : Int) = (_ : Int); omega) | omega | exact rfl | (simp only [RO.len]; omega)) ?_
  rintro y ⟨hy, hz⟩
  refine And.intro (fun h1 => ?_) (fun h1 => ?_)
  · have h1 : (y : Int) < (t.length : Int) := h1
    have hyl : y < t.length := by omega
    have rx := h.len hx
    have ry := h.len hyl
    have e1 := h.ent hx hyl
    have e2 := h.ent hyl hx
    have hm := h.most
    have no : ¬ (en t x y = x ∧ en t y x = x) → (BE.lit false).val = (BE.v (isZ t x)).val := fun hn => by
      show false = isZ t x
      exact (Bool.eq_false_iff.2 fun hh => hn (isZ_iff.1 hh y hyl)).symm
    refine And.intro (by omega) ?_
    refine And.intro (show 0 ≤ (y : Int) ∧ (y : Int) < ((t.getD x []).length : Int) by omega) ?_
    refine And.intro (fun h2 => ?_) (fun h2 => ?_)
    · have h2 : (t.getD x []).getD y 0 ≠ (x : Int) := h2
      exact And.intro ⟨⟨rfl, trivial⟩, trivial⟩ (no fun hh => h2 (by omega))
    · have h2 : (t.getD x []).getD y 0 = (x : Int) := h2
      refine And.intro (by omega) ?_
      refine And.intro (show 0 ≤ (x : Int) ∧ (x : Int) < ((t.getD y []).length : Int) by omega) ?_
      refine And.intro (fun h3 => ?_) (fun h3 => ?_)
      · have h3 : (t.getD y []).getD x 0 ≠ (x : Int) := h3
        exact And.intro ⟨⟨rfl, trivial⟩, trivial⟩ (no fun hh => h3 (by omega))
      · have h3 : (t.getD y []).getD x 0 = (x : Int) := h3
        refine And.intro (by omega) ?_
        refine nx (y + 1) ⟨by omega, fun z hz' => ?_⟩ (show t.length - (y + 1) < t.length - y by omega) (by repeat' first | refine And.intro ?_ ?_ | exact True.intro | (show (_ : Int) = (_ : Int); omega) | omega | exact rfl | (simp only [RO.len]; omega))
        by_cases e : z = y
        · subst e; omega
        · exact hz z (by omega)
  · have h1 : (t.length : Int) ≤ (y : Int) := h1
    refine And.intro ⟨⟨rfl, trivial⟩, trivial⟩ ?_
    show true = isZ t x
    exact (isZ_iff.2 fun z hz' => hz z (by omega)).symm
theorem zeroC_fn (t : List (List Int)) (h : Sh t) (x : Nat) (hx : x < t.length) : MF 54 [.int .i64 x, .ptr 1000 0] [(1000, .box [.ro (.rows .i64 t)])] (.bool (.v (isZ t x))) [(1000, .box [.ro (.rows .i64 t)])] := mkM Tryz.func54 (by decide +kernel) rfl (Nat.le_of_ble_eq_true rfl) fun _ => zeroC_k t h x hx
theorem idx0_k (t : List (List Int)) (h : Sh t) (hz : isZ t 0 = true) : fnMK TY SP Tryz.f52 [.ro (.ints .i64 (elemsL t.length)), .fn 54 [.ptr 1000 0]] [(1000, .box [.ro (.rows .i64 t)])] (.int .i64 0) [(1000, .box [.ro (.rows .i64 t)])] := by
  have hp := h.pos
  have hel : (elemsL t.length).length = t.length := by simp [elemsL]
  refine Exists.intro [] <| lp (X := Nat) (fun y => [(8, .int .i64 y)]) (fun _ => []) (fun y => y = 0) (fun y => y) 0 rfl (by repeat' first | refine And.intro ?_ ?_ | exact True.intro | (show (_ : Int) = (_ : Int); omega) | omega | exact rfl | (simp only [RO.len]; omega)) ?_
  rintro y hy
  refine And.intro (fun h1 => ?_) (fun h1 => ?_)
  · have e0 : (elemsL t.length).getD y 0 = ((0 : Nat) : Int) := by unfold elemsL; rw [map_range_getD _ _ _ _ (by omega), hy]
    refine And.intro (by omega) ?_
    refine Or.inr (cm [] [(1000, 1000)] (zeroC_fn t h 0 hp) ?_)
    refine And.intro ?_ ?_
    · repeat' first | refine And.intro ?_ ?_ | exact True.intro | exact e0 | exact rfl
    refine And.intro (fun _ => ?_) (fun h2 => ?_)
    · exact And.intro ⟨⟨rfl, trivial⟩, trivial⟩ (by repeat' first | refine And.intro ?_ ?_ | exact True.intro | (show (_ : Int) = (_ : Int); omega) | omega | exact rfl | (simp only [RO.len]; omega))
    · have h2 : isZ t 0 = false := h2
      rw [hz] at h2; cases h2
  · exfalso
    have h1 : ((elemsL t.length).length : Int) ≤ (y : Int) := h1
    omega
theorem idx0_fn (t : List (List Int)) (h : Sh t) (hz : isZ t 0 = true) : MF 52 [.ro (.ints .i64 (elemsL t.length)), .fn 54 [.ptr 1000 0]] [(1000, .box [.ro (.rows .i64 t)])] (.int .i64 0) [(1000, .box [.ro (.rows .i64 t)])] := mkM Tryz.func52 (by decide +kernel) rfl (Nat.le_of_ble_eq_true rfl) fun _ => idx0_k t h hz
theorem mvalid_k (t : List (List Int)) : fnK TY SP Tryz.f51 [.ro (.rows .i64 t)] (.bool (.v (decide (validV t = 0)))) := by
  refine Or.inl (cq (valid_fn t) (And.intro rfl trivial) ?_)
  exact And.intro rfl trivial
theorem mvalid_fn (t : List (List Int)) : QF 51 [.ro (.rows .i64 t)] (.bool (.v (decide (validV t = 0)))) := mkQ Tryz.func51 (by decide +kernel) rfl (Nat.le_of_ble_eq_true rfl) fun _ => mvalid_k t
theorem zero_k (t : List (List Int)) (h : Semi t) (hz : isZ t 0 = true) : fnK TY SP Tryz.f27 [.ro (.rows .i64 t)] (.int .i64 0) := by
  have hv := valid_zero.2 h
  refine Or.inl (cq (mvalid_fn t) (And.intro rfl trivial) ?_)
  refine And.intro (fun h1 => ?_) (fun _ => ?_)
  · rw [decide_eq_true hv] at h1; cases h1
  refine Or.inl (cq (elems_fn t h.most) (And.intro rfl trivial) ?_)
  refine Or.inr (Or.inl (cm [7] [(1000, 1)] (idx0_fn t h.toSh hz) ?_))
  refine And.intro ?_ ?_
  · repeat' first | refine And.intro ?_ ?_ | exact True.intro | exact rfl
  exact And.intro (by repeat' first | refine And.intro ?_ ?_ | exact True.intro | (show (_ : Int) = (_ : Int); omega) | omega | exact rfl | (simp only [RO.len]; omega)) trivial
theorem zero_fn (t : List (List Int)) (h : Semi t) (hz : isZ t 0 = true) : QF 27 [.ro (.rows .i64 t)] (.int .i64 0) := mkQ Tryz.func27 (by decide +kernel) rfl (Nat.le_of_ble_eq_true rfl) fun _ => zero_k t h hz
end Go.Proofs.YtdmfhcppdpcceaaGreat
