/- Minimal one-sided ideals for any table; simple and 0-simple tables; the reference's: contracts. -/
import Derived.Test.YtdmfhcppdpcceaaGreatMin
import Derived.Test.YtdmfhcppdpcceaaGreatMin2Law
import Derived.Test.YtdmfhcppdpcceaaGreatRefIdeal
import Derived.Test.YtdmfhcppdpcceaaGreatGreen
import Derived.Test.YtdmfhcppdpcceaaGreatRefClass
import Derived.Test.YtdmfhcppdpcceaaGreatZero
namespace Go.Proofs.YtdmfhcppdpcceaaGreat
open Go Go.AM
set_option maxRecDepth 100000
set_option maxHeartbeats 1000000
theorem minL_no_k (t : List (List Int)) (h : ¬ Semi t) : fnK TY SP Tryz.f6 [.ro (.rows .i64 t)] .nils := by
  refine Or.inl (cq (valid_fn t) (And.intro rfl trivial) ?_)
  refine And.intro (fun _ => ?_) (fun h1 => absurd (valid_zero.1 h1) h)
  exact And.intro trivial trivial
theorem minL_no (t : List (List Int)) (h : ¬ Semi t) : QF 6 [.ro (.rows .i64 t)] .nils := mkQ Tryz.func6 (by decide +kernel) rfl (Nat.le_of_ble_eq_true rfl) fun _ => minL_no_k t h
theorem minR_no_k (t : List (List Int)) (h : ¬ Semi t) : fnK TY SP Tryz.f7 [.ro (.rows .i64 t)] .nils := by
  refine Or.inl (cq (valid_fn t) (And.intro rfl trivial) ?_)
  refine And.intro (fun _ => ?_) (fun h1 => absurd (valid_zero.1 h1) h)
  exact And.intro trivial trivial
theorem minR_no (t : List (List Int)) (h : ¬ Semi t) : QF 7 [.ro (.rows .i64 t)] .nils := mkQ Tryz.func7 (by decide +kernel) rfl (Nat.le_of_ble_eq_true rfl) fun _ => minR_no_k t h

theorem indexB_k (l : List Bool) (v : Bool) (hl : l.length ≤ 4096) : fnEK TY SP Tryz.f49 [.ro (.bools l), .bool (.v v)] (fun r : Int => .int .i64 r) (fun r => 0 ≤ r ↔ v ∈ l) := by
  refine Exists.intro [] <| lp (X := Nat) (fun k => [(8, .int .i64 k)]) (fun _ => []) (fun k => k ≤ l.length ∧ ∀ j, j < k → l.getD j false ≠ v) (fun k => l.length - k) 0 ⟨Nat.zero_le _, by omega⟩ (by repeat' first | refine And.intro ?_ ?_ | exact True.intro | (show (_ : Int) = (_ : Int); omega) | omega | exact rfl | (simp only [RO.len]; omega)) ?_
  rintro k ⟨hk, hj⟩
  refine And.intro (fun h1 => ?_) (fun h1 => ?_)
  · have h1 : (k : Int) < (l.length : Int) := h1
    have hkl : k < l.length := by omega
    refine And.intro (by omega) ?_
    refine And.intro (fun h2 => ?_) (fun h2 => ?_)
    · have h2 : (v == l.getD k false) = true := h2
      have h2 : v = l.getD k false := by simpa using h2
      refine Exists.intro (k : Int) (And.intro ⟨fun _ => by rw [h2]; exact getD_mem hkl, fun _ => by omega⟩ ⟨rfl, trivial⟩)
    · have h2 : (v == l.getD k false) = false := h2
      have h2 : ¬ v = l.getD k false := by simpa using h2
      refine And.intro (by omega) ?_
      refine nx (k + 1) ⟨by omega, fun j hj' => ?_⟩ (show l.length - (k + 1) < l.length - k by omega) (by repeat' first | refine And.intro ?_ ?_ | exact True.intro | (show (_ : Int) = (_ : Int); omega) | omega | exact rfl | (simp only [RO.len]; omega))
      by_cases e : j = k
      · subst e; exact fun he => h2 he.symm
      · exact hj j (by omega)
  · have h1 : (l.length : Int) ≤ (k : Int) := h1
    refine Exists.intro (-1) (And.intro ⟨fun h => by omega, fun hm => ?_⟩ ⟨rfl, trivial⟩)
    obtain ⟨i, hi, he⟩ := mem_getD false hm
    exact absurd he (hj i (by omega))
theorem indexB_fn (l : List Bool) (v : Bool) (hl : l.length ≤ 4096) : EF 49 [.ro (.bools l), .bool (.v v)] (fun r : Int => .int .i64 r) (fun r => 0 ≤ r ↔ v ∈ l) := mkE Tryz.func49 (by decide +kernel) rfl (Nat.le_of_ble_eq_true rfl) fun _ => indexB_k l v hl
theorem containsB_k (l : List Bool) (v : Bool) (hl : l.length ≤ 4096) : fnK TY SP Tryz.f25 [.ro (.bools l), .bool (.v v)] (.bool (.v (decide (v ∈ l)))) := by
  refine Or.inr (Or.inr (ce (indexB_fn l v hl) (And.intro rfl (And.intro rfl trivial)) ?_))
  intro r hr
  refine And.intro ?_ trivial
  show decide (0 ≤ r) = decide (v ∈ l)
  exact decide_eq_decide.2 hr
theorem containsB_fn (l : List Bool) (v : Bool) (hl : l.length ≤ 4096) : QF 25 [.ro (.bools l), .bool (.v v)] (.bool (.v (decide (v ∈ l)))) := mkQ Tryz.func25 (by decide +kernel) rfl (Nat.le_of_ble_eq_true rfl) fun _ => containsB_k l v hl
theorem simple_k (t : List (List Int)) : fnK TY SP Tryz.f8 [.ro (.rows .i64 t)] (.bool (.v (decide (validV t = 0) && decide ((ascV t.length (kerF t)).length = t.length)))) := by
  refine Or.inl (cq (valid_fn t) (And.intro rfl trivial) ?_)
  refine And.intro (fun h1 => ?_) (fun h1 => ?_)
  · have h1 : validV t = 0 := h1
    have h := valid_zero.1 h1
    have hm := h.most
    refine Or.inl (cq (kernel_fn t h.toSh h.pos) (And.intro rfl trivial) ?_)
    refine Or.inl (cq (containsB_fn (setB t.length (kerF t)) false (by rw [setB_len]; omega)) (And.intro (by repeat' first | refine And.intro ?_ ?_ | exact True.intro | (show (_ : Int) = (_ : Int); omega) | omega | exact rfl | (simp only [RO.len]; omega)) (And.intro (by repeat' first | refine And.intro ?_ ?_ | exact True.intro | (show (_ : Int) = (_ : Int); omega) | omega | exact rfl | (simp only [RO.len]; omega)) trivial)) ?_)
    refine And.intro ?_ trivial
    show (!decide (false ∈ setB t.length (kerF t))) = (decide (validV t = 0) && decide ((ascV t.length (kerF t)).length = t.length))
    rw [decide_eq_true h1, Bool.true_and, ← decide_not]
    refine decide_eq_decide.2 ?_
    rw [all_len]
    constructor
    · intro hn x hx
      cases hf : kerF t x with
      | true => rfl
      | false =>
        exfalso
        have := getD_mem (d := false) (l := setB t.length (kerF t)) (i := x) (by rw [setB_len]; exact hx)
        rw [setB_get hx, hf] at this; exact hn this
    · intro ha hm
      obtain ⟨i, hi, he⟩ := mem_getD false hm
      rw [setB_len] at hi
      rw [setB_get hi, ha i hi] at he; cases he
  · have h1 : validV t ≠ 0 := h1
    refine And.intro ?_ trivial
    show false = (decide (validV t = 0) && decide ((ascV t.length (kerF t)).length = t.length))
    rw [decide_eq_false h1, Bool.false_and]
theorem simple_fn (t : List (List Int)) : QF 8 [.ro (.rows .i64 t)] (.bool (.v (decide (validV t = 0) && decide ((ascV t.length (kerF t)).length = t.length)))) := mkQ Tryz.func8 (by decide +kernel) rfl (Nat.le_of_ble_eq_true rfl) fun _ => simple_k t

theorem idxz_k (t : List (List Int)) (h : Sh t) : fnMK TY SP Tryz.f52 [.ro (.ints .i64 (elemsL t.length)), .fn 54 [.ptr 1000 0]] [(1000, .box [.ro (.rows .i64 t)])] (.int .i64 (zeroI t)) [(1000, .box [.ro (.rows .i64 t)])] := by
  have hel : (elemsL t.length).length = t.length := by simp [elemsL]
  have hm := h.most
  refine Exists.intro [] <| lp (X := Nat) (fun y => [(8, .int .i64 y)]) (fun _ => []) (fun y => y ≤ t.length ∧ ∀ z, z < y → isZ t z = false) (fun y => t.length - y) 0 ⟨Nat.zero_le _, by omega⟩ (by repeat' first | refine And.intro ?_ ?_ | exact True.intro | (show (_ : Int) = (_ : Int); omega) | omega | exact rfl | (simp only [RO.len]; omega)) ?_
  rintro y ⟨hy, hz⟩
  refine And.intro (fun h1 => ?_) (fun h1 => ?_)
  · have h1 : (y : Int) < ((elemsL t.length).length : Int) := h1
    have hyl : y < t.length := by omega
    have e0 : (elemsL t.length).getD y 0 = (y : Int) := by unfold elemsL; rw [map_range_getD _ _ _ _ hyl]
    refine And.intro (by omega) ?_
    refine Or.inr (cm [] [(1000, 1000)] (zeroC_fn t h y hyl) ?_)
    refine And.intro ?_ ?_
    · repeat' first | refine And.intro ?_ ?_ | exact True.intro | exact e0 | exact rfl
    refine And.intro (fun h2 => ?_) (fun h2 => ?_)
    · have h2 : isZ t y = true := h2
      have e1 : (y : Int) = zeroI t := (zTo_at hz h2 hyl).symm
      refine And.intro ⟨⟨rfl, trivial⟩, trivial⟩ e1
    · have h2 : isZ t y = false := h2
      refine And.intro (by omega) ?_
      refine nx (y + 1) ⟨by omega, fun z hz' => ?_⟩ (show t.length - (y + 1) < t.length - y by omega) (by repeat' first | refine And.intro ?_ ?_ | exact True.intro | (show (_ : Int) = (_ : Int); omega) | omega | exact rfl | (simp only [RO.len]; omega))
      by_cases e : z = y
      · rw [e]; exact h2
      · exact hz z (by omega)
  · have h1 : ((elemsL t.length).length : Int) ≤ (y : Int) := h1
    have e1 : (-1 : Int) = zeroI t := (zTo_no fun z hz' => hz z (by omega)).symm
    exact And.intro ⟨⟨rfl, trivial⟩, trivial⟩ e1
theorem idxz_fn (t : List (List Int)) (h : Sh t) : MF 52 [.ro (.ints .i64 (elemsL t.length)), .fn 54 [.ptr 1000 0]] [(1000, .box [.ro (.rows .i64 t)])] (.int .i64 (zeroI t)) [(1000, .box [.ro (.rows .i64 t)])] := mkM Tryz.func52 (by decide +kernel) rfl (Nat.le_of_ble_eq_true rfl) fun _ => idxz_k t h
theorem zeroG_k (t : List (List Int)) (h : Semi t) : fnK TY SP Tryz.f27 [.ro (.rows .i64 t)] (.int .i64 (zeroI t)) := by
  have hv := valid_zero.2 h
  refine Or.inl (cq (mvalid_fn t) (And.intro rfl trivial) ?_)
  refine And.intro (fun h1 => ?_) (fun _ => ?_)
  · rw [decide_eq_true hv] at h1; cases h1
  refine Or.inl (cq (elems_fn t h.most) (And.intro rfl trivial) ?_)
  refine Or.inr (Or.inl (cm [7] [(1000, 1)] (idxz_fn t h.toSh) ?_))
  refine And.intro ?_ ?_
  · repeat' first | refine And.intro ?_ ?_ | exact True.intro | exact rfl
  exact And.intro (by repeat' first | refine And.intro ?_ ?_ | exact True.intro | (show (_ : Int) = (_ : Int); omega) | omega | exact rfl | (simp only [RO.len]; omega)) trivial
theorem zeroG_fn (t : List (List Int)) (h : Semi t) : QF 27 [.ro (.rows .i64 t)] (.int .i64 (zeroI t)) := mkQ Tryz.func27 (by decide +kernel) rfl (Nat.le_of_ble_eq_true rfl) fun _ => zeroG_k t h
theorem zeroG_no_k (t : List (List Int)) (h : ¬ Semi t) : fnK TY SP Tryz.f27 [.ro (.rows .i64 t)] (.int .i64 (-1)) := by
  refine Or.inl (cq (mvalid_fn t) (And.intro rfl trivial) ?_)
  refine And.intro (fun h1 => ?_) (fun h1 => ?_)
  · exact And.intro rfl trivial
  · have h1 : (!decide (validV t = 0)) = false := h1
    exact absurd (valid_zero.1 (by simpa using h1)) h
theorem zeroG_no (t : List (List Int)) (h : ¬ Semi t) : QF 27 [.ro (.rows .i64 t)] (.int .i64 (-1)) := mkQ Tryz.func27 (by decide +kernel) rfl (Nat.le_of_ble_eq_true rfl) fun _ => zeroG_no_k t h
theorem zsimple_no_k (t : List (List Int)) (h : ¬ Semi t) : fnK TY SP Tryz.f9 [.ro (.rows .i64 t)] (.bool (.lit false)) := by
  refine Or.inl (cq (zeroG_no t h) (And.intro rfl trivial) ?_)
  refine And.intro (fun h1 => ?_) (fun h1 => ?_)
  · exact And.intro rfl trivial
  · exfalso
    have h1 : (0 : Int) ≤ -1 := h1
    omega
theorem zsimple_no (t : List (List Int)) (h : ¬ Semi t) : QF 9 [.ro (.rows .i64 t)] (.bool (.lit false)) := mkQ Tryz.func9 (by decide +kernel) rfl (Nat.le_of_ble_eq_true rfl) fun _ => zsimple_no_k t h
theorem zsimple_k (t : List (List Int)) (h : Semi t) : fnK TY SP Tryz.f9 [.ro (.rows .i64 t)] (.bool (.v (zsB t))) := by
  have hm := h.most
  have hbl := belowL_len t
  refine Or.inl (cq (zeroG_fn t h) (And.intro rfl trivial) ?_)
  refine And.intro (fun h1 => ?_) (fun h1 => ?_)
  · have h1 : zeroI t < 0 := h1
    refine And.intro ?_ trivial
    show false = zsB t
    unfold zsB; rw [decide_eq_true h1]; rfl
  have h1 : 0 ≤ zeroI t := h1
  refine Or.inl (cq (green_fn t h) (And.intro rfl trivial) ?_)
  refine And.intro (fun h2 => ?_) (fun h2 => ?_)
  · have h2 : ((belowL t).length : Int) ≠ 2 := h2
    refine And.intro ?_ trivial
    show false = zsB t
    unfold zsB; rw [decide_eq_false (p := numJ t = 2) (by omega), Bool.and_false, Bool.false_and]
  have h2 : ((belowL t).length : Int) = 2 := h2
  have ez : zsB t = someNZ t := by
    unfold zsB; rw [decide_eq_true (p := numJ t = 2) (by omega), decide_eq_false (p := zeroI t < 0) (by omega)]; simp
  rw [ez]
  refine Exists.intro [] <| lp (X := Nat) (fun x => [(21, .int .i64 x)]) (fun _ => []) (fun x => x ≤ t.length ∧ ∀ a b, a < x → b < t.length → (en t a b : Int) = zeroI t) (fun x => t.length - x) 0 ⟨Nat.zero_le _, by omega⟩ (by repeat' first | refine And.intro ?_ ?_ | exact True.intro | (show (_ : Int) = (_ : Int); omega) | omega | exact rfl | (simp only [RO.len]; omega)) ?_
  rintro x ⟨hx, hxa⟩
  refine And.intro (fun h3 => ?_) (fun h3 => ?_)
  · have h3 : (x : Int) < (t.length : Int) := h3
    have hxl : x < t.length := by omega
    have hr := h.toSh.len hxl
    refine And.intro (by omega) ?_
    refine Exists.intro [] <| lp (X := Nat) (fun y => [(27, .int .i64 y)]) (fun _ => []) (fun y => y ≤ t.length ∧ ∀ b, b < y → (en t x b : Int) = zeroI t) (fun y => t.length - y) 0 ⟨Nat.zero_le _, by omega⟩ (by repeat' first | refine And.intro ?_ ?_ | exact True.intro | (show (_ : Int) = (_ : Int); omega) | omega | exact rfl | (simp only [RO.len]; omega)) ?_
    rintro y ⟨hy, hyb⟩
    refine And.intro (fun h4 => ?_) (fun h4 => ?_)
    · have h4 : (y : Int) < ((t.getD x []).length : Int) := h4
      have hyl : y < t.length := by omega
      have he := (h.toSh.ent hxl hyl).1
      refine And.intro (by omega) ?_
      refine And.intro (fun h5 => ?_) (fun h5 => ?_)
      · have h5 : (t.getD x []).getD y 0 ≠ zeroI t := h5
        refine And.intro ?_ trivial
        exact (someNZ_yes hxl hyl (by rw [← he]; exact h5)).symm
      · have h5 : (t.getD x []).getD y 0 = zeroI t := h5
        refine And.intro (by omega) ?_
        refine nx (y + 1) ⟨by omega, fun b hb => ?_⟩ (show t.length - (y + 1) < t.length - y by omega) (by repeat' first | refine And.intro ?_ ?_ | exact True.intro | (show (_ : Int) = (_ : Int); omega) | omega | exact rfl | (simp only [RO.len]; omega))
        by_cases e : b = y
        · rw [e, ← he, h5]
        · exact hyb b (by omega)
    · have h4 : ((t.getD x []).length : Int) ≤ (y : Int) := h4
      refine And.intro (by omega) ?_
      refine nx (x + 1) ⟨by omega, fun a b ha hb => ?_⟩ (show t.length - (x + 1) < t.length - x by omega) (by repeat' first | refine And.intro ?_ ?_ | exact True.intro | (show (_ : Int) = (_ : Int); omega) | omega | exact rfl | (simp only [RO.len]; omega))
      by_cases e : a = x
      · rw [e]; exact hyb b (by omega)
      · exact hxa a b (by omega) hb
  · have h3 : (t.length : Int) ≤ (x : Int) := h3
    refine And.intro ?_ trivial
    exact (someNZ_no fun a b ha hb => hxa a b (by omega) hb).symm
theorem zsimple_fn (t : List (List Int)) (h : Semi t) : QF 9 [.ro (.rows .i64 t)] (.bool (.v (zsB t))) := mkQ Tryz.func9 (by decide +kernel) rfl (Nat.le_of_ble_eq_true rfl) fun _ => zsimple_k t h
end Go.Proofs.YtdmfhcppdpcceaaGreat
