import Derived.Test.YtjlkhjgnfnfmgaaGreatLatLaw
import Derived.Test.YtjlkhjgnfnfmgaaGreatNewRo
/- Package group: the frame of a group; inverses and orders of elements: contracts. -/
namespace Go.Proofs.YtjlkhjgnfnfmgaaGreat
open Go Go.AM
set_option maxRecDepth 100000
noncomputable abbrev frA (t : List (List Int)) : AV := .agg [.ro (.rows .i64 t), .int .i64 (oneN t), .ro (.ints .i64 (invL t))]
theorem buildY_fn (t : List (List Int)) (h : Grp t) : QF 80 [.ro (.rows .i64 t)] (.tup [frA t, .bool (.lit true)]) := mkQ Tryz.func80 (by decide +kernel) rfl (Nat.le_of_ble_eq_true rfl) fun _ => by
  have hs := h.toSemi
  have hpos := hs.pos
  have hmost := hs.most
  obtain ⟨hone, hneu, hid⟩ := h.one
  refine Or.inl (cq (gid_fn t hs.toSh) (And.intro rfl trivial) ?_)
  refine And.intro (fun h1 => ?_) (fun h1 => ?_)
  · exact absurd h1 (by rw [hid]; omega)
  refine And.intro (by omega) ?_
  refine And.intro (by omega) ?_
  refine Exists.intro [] <| lp2 (fun (k : Nat) (iv : List Int) => [(19, .int .i64 k)]) (fun _ iv => [(16, .vec 0 (.ints .i64 iv) [])]) (fun k iv => k ≤ t.length ∧ iv.length = t.length ∧ ∀ x, x < k → iv.getD x 0 = (invN t x : Int)) (fun k _ => t.length - k) 0 (List.replicate t.length 0) ⟨Nat.zero_le _, by simp, by omega⟩ (by repeat' first | refine And.intro ?_ ?_ | exact True.intro | (show (_ : Int) = (_ : Int); omega) | omega | exact rfl | (simp only [RO.len]; omega)) ?_
  intro k iv hk
  refine And.intro (fun h3 => ?_) (fun h3 => ?_)
  · have hkl : k < t.length := by omega
    have l1 := hs.len hkl
    refine And.intro (by omega) ?_
    refine Or.inl (cq (index_fn (t.getD k []) (idV t)) (And.intro rfl (And.intro rfl trivial)) ?_)
    have hinv := h.ninv hkl
    have hidx : idxV (t.getD k []) (idV t) = (invN t k : Int) := by
      have a1 := hs.ent hkl hinv.1
      refine idx_of (by omega) (by rw [a1.1, hinv.2.1, hid]) fun j hj he => ?_
      have hjl : j < t.length := by omega
      have a2 := hs.ent hkl hjl
      have := h.inv_uniq hkl hjl (by rw [a2.1, hid] at he; omega)
      omega
    have l2 := hs.len hinv.1
    have a2 := hs.ent hinv.1 hkl
    have hN : (idxV (t.getD k []) (idV t)).toNat = invN t k := by rw [hidx]; exact Int.toNat_natCast _
    refine And.intro (fun h4 => ?_) (fun h4 => ?_)
    · exact absurd h4 (by rw [hidx]; omega)
    refine And.intro (by rw [hidx]; omega) ?_
    refine And.intro (by rw [hN]; omega) ?_
    refine And.intro (fun h5 => ?_) (fun h5 => ?_)
    · have h5 : (t.getD (idxV (t.getD k []) (idV t)).toNat []).getD k 0 ≠ idV t := h5
      exact absurd (by rw [hN, a2.1, hinv.2.2, hid]) h5
    · refine And.intro (by omega) ?_
      refine And.intro (by omega) ?_
      refine And.intro (by omega) ?_
      refine nx (k + 1, iv.set k (idxV (t.getD k []) (idV t))) ⟨by omega, by rw [List.length_set]; exact hk.2.1, fun x hx => ?_⟩ (show t.length - (k + 1) < t.length - k by omega) (by repeat' first | refine And.intro ?_ ?_ | exact True.intro | (show (_ : Int) = (_ : Int); omega) | omega | exact rfl | (simp only [RO.len]; omega))
      by_cases hxk : x = k
      · subst hxk; rw [getD_set_eq (by omega)]; exact hidx
      · rw [getD_set_ne (Ne.symm hxk)]; exact hk.2.2 x (by omega)
  · have hiv : iv = invL t := by
      refine List.ext_getElem (by rw [invL_len]; exact hk.2.1) fun x h1 h2 => ?_
      have := hk.2.2 x (by omega)
      rw [getD_eq h1] at this
      rw [this, ← invL_get (t := t) (by omega), getD_eq h2]
    exact And.intro (And.intro rfl (And.intro hid (And.intro (And.intro trivial (by rw [hiv])) trivial))) (And.intro rfl trivial)
theorem openY_fn (t : List (List Int)) (h : Grp t) : QF 50 [.ro (.rows .i64 t)] (.tup [frA t, .bool (.lit true)]) := mkQ Tryz.func50 (by decide +kernel) rfl (Nat.le_of_ble_eq_true rfl) fun _ => by
  refine Or.inl (cq (valid_fn t) (And.intro rfl trivial) ?_)
  refine And.intro (fun h1 => ?_) (fun h1 => ?_)
  · exact absurd (valid_zero.2 h.toSemi) h1
  · refine Or.inl (cq (buildY_fn t h) (And.intro rfl trivial) ?_)
    exact And.intro (And.intro rfl (And.intro rfl (And.intro rfl trivial))) (And.intro rfl trivial)
/-! ### The reference -/
end Go.Proofs.YtjlkhjgnfnfmgaaGreat
