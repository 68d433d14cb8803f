/- Tables and groups, of the program and of the reference: their contracts. -/
import Derived.Test.YteopelpnpdbbcaaMult
namespace Go.Proofs.Yteopelpnpdbbcaa
open Go Go.AM
set_option maxRecDepth 100000

set_option maxHeartbeats 4000000 in
theorem rshape_k (t : List (List Int)) : fnK TY SP Try.f52 [.ro (.rows .i64 t)] (.int .i64 (shapeV t)) := shape_k t
theorem rshape_fn (t : List (List Int)) : QF 52 [.ro (.rows .i64 t)] (.int .i64 (shapeV t)) := mkQ Try.func52 (by decide +kernel) rfl (Nat.le_of_ble_eq_true rfl) fun _ => rshape_k t

theorem assoc_k (t : List (List Int)) : fnEK TY SP Try.f57 [.ro (.rows .i64 t)] (fun x : Int × Int × Int => .tup [.int .i64 x.1, .int .i64 x.2.1, .int .i64 x.2.2, .int .i64 (validV t)]) (fun _ => True) := by
  refine Or.inl (cq (rshape_fn t) (And.intro rfl trivial) ?_)
  refine And.intro (fun h1 => ?_) (fun h1 => ?_)
  · refine Exists.intro (0, 0, 0) (And.intro trivial ⟨rfl, rfl, rfl, ?_, trivial⟩)
    show shapeV t = validV t
    unfold validV; rw [if_pos h1]
  have hs := shape_zero.1 h1
  have hpos := hs.pos
  have hmost := hs.most
  refine Exists.intro [] <| lp (X := Nat) (fun x => [(17, .int .i64 x)]) (fun _ => []) (fun x => x ≤ t.length ∧ ∀ x' y z, x' < x → y < t.length → z < t.length → en t (en t x' y) z = en t x' (en t y z)) (fun x => t.length - x) 0 ⟨Nat.zero_le _, by omega⟩ ⟨⟨rfl, trivial⟩, trivial⟩ ?_
  intro x hx
  refine And.intro (fun h2 => ?_) (fun h2 => ?_)
  · refine Exists.intro [] <| lp (X := Nat) (fun y => [(22, .int .i64 y)]) (fun _ => []) (fun y => y ≤ t.length ∧ ∀ y' z, y' < y → z < t.length → en t (en t x y') z = en t x (en t y' z)) (fun y => t.length - y) 0 ⟨Nat.zero_le _, by omega⟩ ⟨⟨rfl, trivial⟩, trivial⟩ ?_
    intro y hy
    refine And.intro (fun h3 => ?_) (fun h3 => ?_)
    · refine Exists.intro [] <| lp (X := Nat) (fun z => [(27, .int .i64 z)]) (fun _ => []) (fun z => z ≤ t.length ∧ ∀ z', z' < z → en t (en t x y) z' = en t x (en t y z')) (fun z => t.length - z) 0 ⟨Nat.zero_le _, by omega⟩ ⟨⟨rfl, trivial⟩, trivial⟩ ?_
      intro z hz
      refine And.intro (fun h4 => ?_) (fun h4 => ?_)
      · have hxl : x < t.length := by omega
        have hyl : y < t.length := by omega
        have hzl : z < t.length := by omega
        have a1 := hs.ent hxl hyl
        have a2 := hs.ent a1.2 hzl
        have a3 := hs.ent hyl hzl
        have a4 := hs.ent hxl a3.2
        have l1 := hs.len hxl
        have l2 := hs.len hyl
        have l3 := hs.len a1.2
        refine Or.inl <| Exists.intro [false, false, false, false, false, false, false, false, false, false, false, false, false, false, false, false, false, false, false, false, false, false, false, false, false, false, false] (And.intro (by decide +kernel) ?_)
        refine And.intro (by omega) ?_
        refine And.intro (by simp only [Int.toNat_natCast]; omega) ?_
        refine And.intro (by simp only [Int.toNat_natCast]; omega) ?_
        refine And.intro (show 0 ≤ (z : Int) ∧ (z : Int) < ((t.getD (en t x y) []).length : Int) by omega) ?_
        refine And.intro (by omega) ?_
        refine And.intro (by omega) ?_
        refine And.intro (by simp only [Int.toNat_natCast]; omega) ?_
        refine And.intro (by simp only [Int.toNat_natCast]; omega) ?_
        refine And.intro (fun h5 => ?_) (fun h5 => ?_)
        · have h5 : (t.getD (en t x y) []).getD z 0 ≠ (t.getD x []).getD (en t y z) 0 := h5
          rw [a2.1, a4.1] at h5
          refine Exists.intro ((x : Int), (y : Int), (z : Int)) (And.intro trivial ⟨rfl, rfl, rfl, ?_, trivial⟩)
          show (5 : Int) = validV t
          unfold validV
          rw [if_neg (by omega), if_neg]
          intro ha
          exact h5 (congrArg _ (ha y hyl x z hxl hzl))
        · have h5 : (t.getD (en t x y) []).getD z 0 = (t.getD x []).getD (en t y z) 0 := h5
          rw [a2.1, a4.1] at h5
          refine And.intro (by omega) ?_
          refine nx (z + 1) ⟨by omega, fun z' hz' => ?_⟩ (show t.length - (z + 1) < t.length - z by omega) ⟨⟨rfl, trivial⟩, trivial⟩
          by_cases hzz : z' < z
          · exact hz.2 z' hzz
          · have : z' = z := by omega
            rw [this]; exact_mod_cast h5
      · refine And.intro (by omega) ?_
        refine nx (y + 1) ⟨by omega, fun y' z hy' hz' => ?_⟩ (show t.length - (y + 1) < t.length - y by omega) ⟨⟨rfl, trivial⟩, trivial⟩
        by_cases hyy : y' < y
        · exact hy.2 y' z hyy hz'
        · have : y' = y := by omega
          rw [this]; exact hz.2 z (by omega)
    · refine And.intro (by omega) ?_
      refine nx (x + 1) ⟨by omega, fun x' y z hx' hy' hz' => ?_⟩ (show t.length - (x + 1) < t.length - x by omega) ⟨⟨rfl, trivial⟩, trivial⟩
      by_cases hxx : x' < x
      · exact hx.2 x' y z hxx hy' hz'
      · have : x' = x := by omega
        rw [this]; exact hy.2 y z (by omega) hz'
  · refine Exists.intro (0, 0, 0) (And.intro trivial ⟨rfl, rfl, rfl, ?_, trivial⟩)
    show 0 = validV t
    symm
    rw [valid_zero]
    exact ⟨hs, fun g hg x y hx' hy' => hx.2 x g y (by omega) hg hy'⟩

theorem rvalidate_k (t : List (List Int)) : fnK TY SP Try.f22 [.ro (.rows .i64 t)] (.int .i64 (validV t)) := by
  refine Or.inr (Or.inr (ce (mkE Try.func57 (by decide +kernel) rfl (Nat.le_of_ble_eq_true rfl) fun _ => assoc_k t) (And.intro rfl trivial) fun x _ => ?_))
  exact And.intro rfl trivial
theorem rvalidate_fn (t : List (List Int)) : QF 22 [.ro (.rows .i64 t)] (.int .i64 (validV t)) := mkQ Try.func22 (by decide +kernel) rfl (Nat.le_of_ble_eq_true rfl) fun _ => rvalidate_k t

theorem rvalid_k (t : List (List Int)) : fnK TY SP Try.f18 [.ro (.rows .i64 t)] (.bool (.v (decide (validV t = 0)))) := by
  refine Or.inl (cq (rvalidate_fn t) (And.intro rfl trivial) ?_)
  exact And.intro rfl trivial
theorem rvalid_fn (t : List (List Int)) : QF 18 [.ro (.rows .i64 t)] (.bool (.v (decide (validV t = 0)))) := mkQ Try.func18 (by decide +kernel) rfl (Nat.le_of_ble_eq_true rfl) fun _ => rvalid_k t

end Go.Proofs.Yteopelpnpdbbcaa
