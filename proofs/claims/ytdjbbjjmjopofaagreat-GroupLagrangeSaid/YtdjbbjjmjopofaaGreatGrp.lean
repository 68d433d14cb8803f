/- Package group: the frame of a group; inverses and orders of elements: contracts. -/
import Derived.Test.YtdjbbjjmjopofaaGreatGroup
import Derived.Test.YtdjbbjjmjopofaaGreatGrpLaw
namespace Go.Proofs.YtdjbbjjmjopofaaGreat
open Go Go.AM
set_option maxRecDepth 100000

/-- The frame of a group. -/
noncomputable abbrev frA (t : List (List Int)) : AV := .agg [.ro (.rows .i64 t), .int .i64 (oneN t), .ro (.ints .i64 (invL t))]

theorem buildY_k (t : List (List Int)) (h : Grp t) : fnK TY SP Tryz.f86 [.ro (.rows .i64 t)] (.tup [frA t, .bool (.lit true)]) := by
  have hs := h.toSemi
  have hpos := hs.pos
  have hmost := hs.most
  obtain ⟨hone, hneu, hid⟩ := h.one
  refine Or.inl (cq (gid_fn t hs.toSh) (And.intro rfl trivial) ?_)
  refine And.intro (fun h1 => ?_) (fun h1 => ?_)
  · exact absurd h1 (by rw [hid]; omega)
  refine And.intro (by omega) ?_
  refine And.intro (by omega) ?_
  refine Exists.intro [] <| lp2 (fun (k : Nat) (iv : List Int) => [(19, .int .i64 k)]) (fun _ iv => [(16, .vec 0 (.ints .i64 iv) [])]) (fun k iv => k ≤ t.length ∧ iv.length = t.length ∧ ∀ x, x < k → iv.getD x 0 = (invN t x : Int)) (fun k _ => t.length - k) 0 (List.replicate t.length 0) ⟨Nat.zero_le _, by simp, by omega⟩ (by repeat' first | refine And.intro ?_ ?_ | exact True.intro | (show (_ : Int) = (_ : Int); omega) | omega | exact rfl | (simp only [RO.len]; omega)) ?_
  intro k iv hk
  refine And.intro (fun h3 => ?_) (fun h3 => ?_)
  · have hkl : k < t.length := by omega
    have l1 := hs.len hkl
    refine And.intro (by omega) ?_
    refine Or.inl (cq (index_fn (t.getD k []) (idV t)) (And.intro rfl (And.intro rfl trivial)) ?_)
    have hinv := h.ninv hkl
    have hidx : idxV (t.getD k []) (idV t) = (invN t k : Int) := by
      have a1 := hs.ent hkl hinv.1
      refine idx_of (by omega) (by rw [a1.1, hinv.2.1, hid]) fun j hj he => ?_
      have hjl : j < t.length := by omega
      have a2 := hs.ent hkl hjl
      have := h.inv_uniq hkl hjl (by rw [a2.1, hid] at he; omega)
      omega
    have l2 := hs.len hinv.1
    have a2 := hs.ent hinv.1 hkl
    have hN : (idxV (t.getD k []) (idV t)).toNat = invN t k := by rw [hidx]; exact Int.toNat_natCast _
    refine And.intro (fun h4 => ?_) (fun h4 => ?_)
    · exact absurd h4 (by rw [hidx]; omega)
    refine And.intro (by rw [hidx]; omega) ?_
    refine And.intro (by rw [hN]; omega) ?_
    refine And.intro (fun h5 => ?_) (fun h5 => ?_)
    · have h5 : (t.getD (idxV (t.getD k []) (idV t)).toNat []).getD k 0 ≠ idV t := h5
      exact absurd (by rw [hN, a2.1, hinv.2.2, hid]) h5
    · refine And.intro (by omega) ?_
      refine And.intro (by omega) ?_
      refine And.intro (by omega) ?_
      refine nx (k + 1, iv.set k (idxV (t.getD k []) (idV t))) ⟨by omega, by rw [List.length_set]; exact hk.2.1, fun x hx => ?_⟩ (show t.length - (k + 1) < t.length - k by omega) (by repeat' first | refine And.intro ?_ ?_ | exact True.intro | (show (_ : Int) = (_ : Int); omega) | omega | exact rfl | (simp only [RO.len]; omega))
      by_cases hxk : x = k
      · subst hxk; rw [getD_set_eq (by omega)]; exact hidx
      · rw [getD_set_ne (Ne.symm hxk)]; exact hk.2.2 x (by omega)
  · have hiv : iv = invL t := by
      refine List.ext_getElem (by rw [invL_len]; exact hk.2.1) fun x h1 h2 => ?_
      have := hk.2.2 x (by omega)
      rw [getD_eq h1] at this
      rw [this, ← invL_get (t := t) (by omega), getD_eq h2]
    exact And.intro (And.intro rfl (And.intro hid (And.intro (And.intro trivial (by rw [hiv])) trivial))) (And.intro rfl trivial)
theorem buildY_fn (t : List (List Int)) (h : Grp t) : QF 86 [.ro (.rows .i64 t)] (.tup [frA t, .bool (.lit true)]) := mkQ Tryz.func86 (by decide +kernel) rfl (Nat.le_of_ble_eq_true rfl) fun _ => buildY_k t h
theorem openY_k (t : List (List Int)) (h : Grp t) : fnK TY SP Tryz.f68 [.ro (.rows .i64 t)] (.tup [frA t, .bool (.lit true)]) := by
  refine Or.inl (cq (valid_fn t) (And.intro rfl trivial) ?_)
  refine And.intro (fun h1 => ?_) (fun h1 => ?_)
  · exact absurd (valid_zero.2 h.toSemi) h1
  · refine Or.inl (cq (buildY_fn t h) (And.intro rfl trivial) ?_)
    exact And.intro (And.intro rfl (And.intro rfl (And.intro rfl trivial))) (And.intro rfl trivial)
theorem openY_fn (t : List (List Int)) (h : Grp t) : QF 68 [.ro (.rows .i64 t)] (.tup [frA t, .bool (.lit true)]) := mkQ Tryz.func68 (by decide +kernel) rfl (Nat.le_of_ble_eq_true rfl) fun _ => openY_k t h
theorem gord_k (t : List (List Int)) (h : Grp t) (x : Nat) (hx : x < t.length) : fnK TY SP Tryz.f19 [.ro (.rows .i64 t), .int .i64 x] (.int .i64 (ordN t x + 1)) := by
  have hs := h.toSemi
  have hmost := hs.most
  obtain ⟨hone, hneu, hid⟩ := h.one
  have ho := ord_spec h hx
  refine Or.inl (cq (openY_fn t h) (And.intro rfl trivial) ?_)
  refine And.intro (fun h1 => ?_) (fun h1 => ?_)
  · exfalso; omega
  refine And.intro (fun h2 => ?_) (fun h2 => ?_)
  · exfalso; omega
  refine Exists.intro [] <| lp (X := Nat) (fun j => [(7, .int .i64 (j + 1)), (8, .int .i64 (pwN t x j))]) (fun _ => [(5, .box [.ro (.rows .i64 t), .int .i64 (oneN t), .ro (.ints .i64 (invL t))])]) (fun j => j ≤ ordN t x) (fun j => ordN t x - j) 0 (Nat.zero_le _) (by repeat' first | refine And.intro ?_ ?_ | exact True.intro | (show (_ : Int) = (_ : Int); omega) | omega | exact rfl | (simp only [RO.len]; omega)) ?_
  intro j hj
  have hlt := pwN_lt hs hx j
  refine And.intro (fun h3 => ?_) (fun h3 => ?_)
  · have h3 : (pwN t x j : Int) ≠ (oneN t : Int) := h3
    have hjo : j < ordN t x := by
      rcases Nat.lt_or_ge j (ordN t x) with g | g
      · exact g
      · have : j = ordN t x := by omega
        rw [this, ho.2.1] at h3; exact absurd rfl h3
    have e1 := hs.ent hlt hx
    have r1 := hs.len hlt
    refine And.intro (by omega) ?_
    refine And.intro (by omega) ?_
    refine And.intro (show 0 ≤ (x : Int) ∧ (x : Int) < ((t.getD (pwN t x j) []).length : Int) by omega) ?_
    refine nx (j + 1) (show j + 1 ≤ ordN t x by omega) (show ordN t x - (j + 1) < ordN t x - j by omega) (And.intro (And.intro (show ((j : Int) + 1 + 1) = ((j + 1 : Nat) : Int) + 1 by omega) (And.intro (show (t.getD (pwN t x j) []).getD x 0 = ((en t (pwN t x j) x : Nat) : Int) from e1.1) trivial)) (by repeat' first | refine And.intro ?_ ?_ | exact True.intro | (show (_ : Int) = (_ : Int); omega) | omega | exact rfl | (simp only [RO.len]; omega)))
  · have h3 : (pwN t x j : Int) = (oneN t : Int) := h3
    refine And.intro ?_ trivial
    show (j : Int) + 1 = (ordN t x : Int) + 1
    have : ¬ j < ordN t x := fun g => ho.2.2 j g (by omega)
    omega
theorem gord_fn (t : List (List Int)) (h : Grp t) (x : Nat) (hx : x < t.length) : QF 19 [.ro (.rows .i64 t), .int .i64 x] (.int .i64 (ordN t x + 1)) := mkQ Tryz.func19 (by decide +kernel) rfl (Nat.le_of_ble_eq_true rfl) fun _ => gord_k t h x hx
/-! ### The reference -/

end Go.Proofs.YtdjbbjjmjopofaaGreat
