/- Package group: the frame of a group; inverses and orders of elements: contracts. -/
import Derived.Test.YtdjbbjjmjopofaaGreatGroup
import Derived.Test.YtdjbbjjmjopofaaGreatGrpLaw
namespace Go.Proofs.YtdjbbjjmjopofaaGreat
open Go Go.AM
set_option maxRecDepth 100000

/-- The frame of a group. -/
noncomputable abbrev frA (t : List (List Int)) : AV := .agg [.ro (.rows .i64 t), .int .i64 (oneN t), .ro (.ints .i64 (invL t))]

theorem buildY_k (t : List (List Int)) (h : Grp t) : fnK TY SP Tryz.f86 [.ro (.rows .i64 t)] (.tup [frA t, .bool (.lit true)]) := by
  have hs := h.toSemi
  have hpos := hs.pos
  have hmost := hs.most
  obtain ⟨hone, hneu, hid⟩ := h.one
  refine Or.inl (cq (gid_fn t hs.toSh) (And.intro rfl trivial) ?_)
  refine And.intro (fun h1 => ?_) (fun h1 => ?_)
  · exact absurd h1 (by rw [hid]; omega)
  refine And.intro (by omega) ?_
  refine And.intro (by omega) ?_
  refine Exists.intro [] <| lp2 (fun (k : Nat) (iv : List Int) => [(19, .int .i64 k)]) (fun _ iv => [(16, .vec 0 (.ints .i64 iv) [])]) (fun k iv => k ≤ t.length ∧ iv.length = t.length ∧ ∀ x, x < k → iv.getD x 0 = (invN t x : Int)) (fun k _ => t.length - k) 0 (List.replicate t.length 0) ⟨Nat.zero_le _, by simp, by omega⟩ (by repeat' first | refine And.intro ?_ ?_ | exact True.intro | (show (_ : Int) = (_ : Int); omega) | omega | exact rfl | (simp only [RO.len]; omega)) ?_
  intro k iv hk
  refine And.intro (fun h3 => ?_) (fun h3 => ?_)
  · have hkl : k < t.length := by omega
    have l1 := hs.len hkl
    refine And.intro (by omega) ?_
    refine Or.inl (cq (index_fn (t.getD k []) (idV t)) (And.intro rfl (And.intro rfl trivial)) ?_)
    have hinv := h.ninv hkl
    have hidx : idxV (t.getD k []) (idV t) = (invN t k : Int) := by
      have a1 := hs.ent hkl hinv.1
      refine idx_of (by omega) (by rw [a1.1, hinv.2.1, hid]) fun j hj he => ?_
      have hjl : j < t.length := by omega
      have a2 := hs.ent hkl hjl
      have := h.inv_uniq hkl hjl (by rw [a2.1, hid] at he; omega)
      omega
    have l2 := hs.len hinv.1
    have a2 := hs.ent hinv.1 hkl
    have hN : (idxV (t.getD k []) (idV t)).toNat = invN t k := by rw [hidx]; exact Int.toNat_natCast _
    refine And.intro (fun h4 => ?_) (fun h4 => ?_)
    · exact absurd h4 (by rw [hidx]; omega)
    refine And.intro (by rw [hidx]; omega) ?_
    refine And.intro (by rw [hN]; omega) ?_
    refine And.intro (fun h5 => ?_) (fun h5 => ?_)
    · have h5 : (t.getD (idxV (t.getD k []) (idV t)).toNat []).getD k 0 ≠ idV t := h5
      exact absurd (by rw [hN, a2.1, hinv.2.2, hid]) h5
    · refine And.intro (by omega) ?_
      refine And.intro (by omega) ?_
      refine And.intro (by omega) ?_
      refine nx (k + 1, iv.set k (idxV (t.getD k []) (idV t))) ⟨by omega, by rw [List.length_set]; exact hk.2.1, fun x hx => ?_⟩ (show t.length - (k + 1) < t.length - k by omega) (by repeat' first | refine And.intro ?_ ?_ | exact True.intro | (show (_ : Int) = (_ : Int); omega) | omega | exact rfl | (simp only [RO.len]; omega))
      by_cases hxk : x = k
      · subst hxk; rw [getD_set_eq (by omega)]; exact hidx
      · rw [getD_set_ne (Ne.symm hxk)]; exact hk.2.2 x (by omega)
  · have hiv : iv = invL t := by
      refine List.ext_getElem (by rw [invL_len]; exact hk.2.1) fun x h1 h2 => ?_
      have := hk.2.2 x (by omega)
      rw [getD_eq h1] at this
      rw [this, ← invL_get (t := t) (by omega), getD_eq h2]
    exact And.intro (And.intro rfl (And.intro hid (And.intro (And.intro trivial (by rw [hiv])) trivial))) (And.intro rfl trivial)
theorem buildY_fn (t : List (List Int)) (h : Grp t) : QF 86 [.ro (.rows .i64 t)] (.tup [frA t, .bool (.lit true)]) := mkQ Tryz.func86 (by decide +kernel) rfl (Nat.le_of_ble_eq_true rfl) fun _ => buildY_k t h
theorem openY_k (t : List (List Int)) (h : Grp t) : fnK TY SP Tryz.f68 [.ro (.rows .i64 t)] (.tup [frA t, .bool (.lit true)]) := by
  refine Or.inl (cq (valid_fn t) (And.intro rfl trivial) ?_)
  refine And.intro (fun h1 => ?_) (fun h1 => ?_)
  · exact absurd (valid_zero.2 h.toSemi) h1
  · refine Or.inl (cq (buildY_fn t h) (And.intro rfl trivial) ?_)
    exact And.intro (And.intro rfl (And.intro rfl (And.intro rfl trivial))) (And.intro rfl trivial)
theorem openY_fn (t : List (List Int)) (h : Grp t) : QF 68 [.ro (.rows .i64 t)] (.tup [frA t, .bool (.lit true)]) := mkQ Tryz.func68 (by decide +kernel) rfl (Nat.le_of_ble_eq_true rfl) fun _ => openY_k t h
theorem gord_k (t : List (List Int)) (h : Grp t) (x : Nat) (hx : x < t.length) : fnK TY SP Tryz.f19 [.ro (.rows .i64 t), .int .i64 x] (.int .i64 (ordN t x + 1)) := by
  have hs := h.toSemi
  have hmost := hs.most
  obtain ⟨hone, hneu, hid⟩ := h.one
  have ho := ord_spec h hx
  refine Or.inl (cq (openY_fn t h) (And.intro rfl trivial) ?_)
  refine And.intro (fun h1 => ?_) (fun h1 => ?_)
  · exfalso; omega
  refine And.intro (fun h2 => ?_) (fun h2 => ?_)
  · exfalso; omega
  refine Exists.intro [] <| lp (X := Nat) (fun j => [(7, .int .i64 (j + 1)), (8, .int .i64 (pwN t x j))]) (fun _ => [(5, .box [.ro (.rows .i64 t), .int .i64 (oneN t), .ro (.ints .i64 (invL t))])]) (fun j => j ≤ ordN t x) (fun j => ordN t x - j) 0 (Nat.zero_le _) (by repeat' first | refine And.intro ?_ ?_ | exact True.intro | (show (_ : Int) = (_ : Int); omega) | omega | exact rfl | (simp only [RO.len]; omega)) ?_
  intro j hj
  have hlt := pwN_lt hs hx j
  refine And.intro (fun h3 => ?_) (fun h3 => ?_)
  · have h3 : (pwN t x j : Int) ≠ (oneN t : Int) := h3
    have hjo : j < ordN t x := by
      rcases Nat.lt_or_ge j (ordN t x) with g | g
      · exact g
      · have : j = ordN t x := by omega
        rw [this, ho.2.1] at h3; exact absurd rfl h3
    have e1 := hs.ent hlt hx
    have r1 := hs.len hlt
    refine And.intro (by omega) ?_
    refine And.intro (by omega) ?_
    refine And.intro (show 0 ≤ (x : Int) ∧ (x : Int) < ((t.getD (pwN t x j) []).length : Int) by omega) ?_
    refine nx (j + 1) (show j + 1 ≤ ordN t x by omega) (show ordN t x - (j + 1) < ordN t x - j by omega) (And.intro (And.intro (show ((j : Int) + 1 + 1) = ((j + 1 : Nat) : Int) + 1 by omega) (And.intro (show (t.getD (pwN t x j) []).getD x 0 = ((en t (pwN t x j) x : Nat) : Int) from e1.1) trivial)) (by repeat' first | refine And.intro ?_ ?_ | exact True.intro | (show (_ : Int) = (_ : Int); omega) | omega | exact rfl | (simp only [RO.len]; omega)))
  · have h3 : (pwN t x j : Int) = (oneN t : Int) := h3
    refine And.intro ?_ trivial
    show (j : Int) + 1 = (ordN t x : Int) + 1
    have : ¬ j < ordN t x := fun g => ho.2.2 j g (by omega)
    omega
theorem gord_fn (t : List (List Int)) (h : Grp t) (x : Nat) (hx : x < t.length) : QF 19 [.ro (.rows .i64 t), .int .i64 x] (.int .i64 (ordN t x + 1)) := mkQ Tryz.func19 (by decide +kernel) rfl (Nat.le_of_ble_eq_true rfl) fun _ => gord_k t h x hx
theorem ginv_k (t : List (List Int)) (h : Grp t) (x : Nat) (hx : x < t.length) : fnK TY SP Tryz.f18 [.ro (.rows .i64 t), .int .i64 x] (.int .i64 (invN t x)) := by
  have hs := h.toSemi
  have hmost := hs.most
  have hl := invL_len (t := t)
  refine Or.inl (cq (openY_fn t h) (And.intro rfl trivial) ?_)
  refine And.intro (fun h1 => ?_) (fun h1 => ?_)
  · exfalso; omega
  refine And.intro (fun h2 => ?_) (fun h2 => ?_)
  · exfalso; omega
  refine And.intro (by omega) ?_
  exact And.intro (invL_get hx) trivial
theorem ginv_fn (t : List (List Int)) (h : Grp t) (x : Nat) (hx : x < t.length) : QF 18 [.ro (.rows .i64 t), .int .i64 x] (.int .i64 (invN t x)) := mkQ Tryz.func18 (by decide +kernel) rfl (Nat.le_of_ble_eq_true rfl) fun _ => ginv_k t h x hx

/-- No group, or no element: no inverse, no order. -/
theorem ginvN_k (t : List (List Int)) (x : Int) (h : ¬ (Grp t ∧ 0 ≤ x ∧ x < (t.length : Int))) : fnK TY SP Tryz.f18 [.ro (.rows .i64 t), .int .i64 x] (.int .i64 (-1)) := by
  refine Or.inl (cq (open_fn t) (And.intro rfl trivial) ?_)
  refine And.intro (fun _ => ?_) (fun h1 => ?_)
  · exact And.intro rfl trivial
  refine And.intro (fun _ => ?_) (fun h2 => ?_)
  · exact And.intro rfl trivial
  refine And.intro (fun _ => ?_) (fun h3 => ?_)
  · exact And.intro rfl trivial
  · exact absurd ⟨grpB_true.1 (by simpa using h1), h2, h3⟩ h
theorem ginvN_fn (t : List (List Int)) (x : Int) (h : ¬ (Grp t ∧ 0 ≤ x ∧ x < (t.length : Int))) : QF 18 [.ro (.rows .i64 t), .int .i64 x] (.int .i64 (-1)) := mkQ Tryz.func18 (by decide +kernel) rfl (Nat.le_of_ble_eq_true rfl) fun _ => ginvN_k t x h
theorem gordN_k (t : List (List Int)) (x : Int) (h : ¬ (Grp t ∧ 0 ≤ x ∧ x < (t.length : Int))) : fnK TY SP Tryz.f19 [.ro (.rows .i64 t), .int .i64 x] (.int .i64 0) := by
  refine Or.inl (cq (open_fn t) (And.intro rfl trivial) ?_)
  refine And.intro (fun _ => ?_) (fun h1 => ?_)
  · exact And.intro rfl trivial
  refine And.intro (fun _ => ?_) (fun h2 => ?_)
  · exact And.intro rfl trivial
  refine And.intro (fun _ => ?_) (fun h3 => ?_)
  · exact And.intro rfl trivial
  · exact absurd ⟨grpB_true.1 (by simpa using h1), h2, h3⟩ h
theorem gordN_fn (t : List (List Int)) (x : Int) (h : ¬ (Grp t ∧ 0 ≤ x ∧ x < (t.length : Int))) : QF 19 [.ro (.rows .i64 t), .int .i64 x] (.int .i64 0) := mkQ Tryz.func19 (by decide +kernel) rfl (Nat.le_of_ble_eq_true rfl) fun _ => gordN_k t x h

/-! ### The reference -/

theorem rinvY_fn (t : List (List Int)) (h : Grp t) (x : Nat) (hx : x < t.length) : EF 22 [.ro (.rows .i64 t), .int .i64 x] (fun v : Int => .int .i64 v) (fun v => v = (invN t x : Int)) := by
  have hr := rinv_fn t h.toSh (oneN t) x h.one.2.2 hx
  refine ⟨hr.1, fun M w vs hM hv => (hr.2 M w vs hM hv).mono fun e w' ⟨y, hy, hrest⟩ => ⟨y, ?_, hrest⟩⟩
  rcases hy with ⟨k, hk, hkl, hi⟩ | ⟨_, hno⟩
  · rw [hk, h.inv_uniq hx hkl hi.1]
  · exact absurd (h.ninv hx).2 (hno _ (h.ninv hx).1)
/-- The powers of an element, up to the identity. -/
noncomputable def pwL (t : List (List Int)) (x : Nat) (k : Nat) : List Int := (List.range k).map fun j => ((pwN t x j : Nat) : Int)
theorem pwL_len {t : List (List Int)} {x k : Nat} : (pwL t x k).length = k := by simp [pwL]
theorem pwL_get {t : List (List Int)} {x k j : Nat} (hj : j < k) : (pwL t x k).getD j 0 = (pwN t x j : Int) := by simp [pwL, List.getD, hj]
theorem pwL_succ {t : List (List Int)} {x k : Nat} : pwL t x (k + 1) = pwL t x k ++ [((pwN t x k : Nat) : Int)] := by simp [pwL, List.range_succ]
theorem rpow_k (t : List (List Int)) (h : Grp t) (x : Nat) (hx : x < t.length) : fnK TY SP Tryz.f71 [.ro (.rows .i64 t), .int .i64 x] (.tup [.ro (.ints .i64 (pwL t x (ordN t x + 1))), .int .i64 0]) := by
  have hs := h.toSemi
  have hmost := hs.most
  have ho := ord_spec h hx
  have e0 := hs.ent hx hx
  have r0 := hs.len hx
  have hl1 : pwL t x 1 = [(x : Int)] := rfl
  have found : ∀ k i, k ≤ ordN t x → i ≤ k → pwN t x i = pwN t x (k + 1) → k = ordN t x ∧ i = 0 := fun k i hk hik he => by
    have hko : k = ordN t x := Classical.byContradiction fun g => pw_inj h hx (by omega) (by omega) he
    refine ⟨hko, Classical.byContradiction fun g => ?_⟩
    have h1 : pwN t x i = pwN t x 0 := by rw [he, hko, pw_next h hx]; rfl
    exact pw_inj h hx (Nat.pos_of_ne_zero g) (by omega) h1.symm
  have left_ : ∀ k, k ≤ ordN t x → (∀ j, j < k + 1 → pwN t x j ≠ pwN t x (k + 1)) → k < ordN t x := fun k hk hj => by
    rcases Nat.lt_or_ge k (ordN t x) with g | g
    · exact g
    · have : k = ordN t x := by omega
      subst this
      exact absurd (pw_next h hx).symm (hj 0 (by omega))
  refine Exists.intro [10] <| lp (X := Nat) (fun k => [(6, .vec 10)]) (fun k => [(10, .vec 0 (.ints .i64 (pwL t x (k + 1))) [])]) (fun k => k ≤ ordN t x) (fun k => ordN t x - k) 0 (Nat.zero_le _) (by repeat' first | refine And.intro ?_ ?_ | exact True.intro | (show (_ : Int) = (_ : Int); omega) | omega | exact rfl | (simp only [RO.len]; omega)) ?_
  intro k hk
  have hlk := pwL_len (t := t) (x := x) (k := k + 1)
  have hlast : (pwL t x (k + 1)).getD (((pwL t x (k + 1)).length : Int) - 1).toNat 0 = (pwN t x k : Int) := by
    rw [hlk, show (((k + 1 : Nat) : Int) - 1).toNat = k by omega]; exact pwL_get (by omega)
  have hlt := pwN_lt hs hx k
  have e1 := hs.ent hlt hx
  have r1 := hs.len hlt
  refine And.intro (by omega) ?_
  refine And.intro (by omega) ?_
  refine And.intro (by rw [hlast]; omega) ?_
  refine And.intro (by rw [hlast, Int.toNat_natCast]; omega) ?_
  refine Exists.intro [] <| lp (X := Nat) (fun i => [(25, .int .i64 i)]) (fun _ => [(10, .vec 0 (.ints .i64 (pwL t x (k + 1))) [])]) (fun i => i ≤ k + 1 ∧ ∀ j, j < i → pwN t x j ≠ pwN t x (k + 1)) (fun i => k + 1 - i) 0 ⟨Nat.zero_le _, fun j hj => absurd hj (Nat.not_lt_zero _)⟩ (by repeat' first | refine And.intro ?_ ?_ | exact True.intro | (show (_ : Int) = (_ : Int); omega) | omega | exact rfl | (simp only [RO.len]; omega)) ?_
  rintro i ⟨hik, hne⟩
  have hval : (t.getD ((pwL t x (k + 1)).getD (((pwL t x (k + 1)).length : Int) - 1).toNat 0).toNat []).getD x 0 = (pwN t x (k + 1) : Int) := by
    rw [hlast, Int.toNat_natCast]; exact e1.1
  refine And.intro (fun h1 => ?_) (fun h1 => ?_)
  · have h1 : (i : Int) < ((pwL t x (k + 1)).length : Int) := h1
    have hgi := pwL_get (t := t) (x := x) (k := k + 1) (j := i) (by omega)
    refine And.intro (by omega) ?_
    refine And.intro (fun h2 => ?_) (fun h2 => ?_)
    · have h2 : (pwL t x (k + 1)).getD i 0 = (t.getD ((pwL t x (k + 1)).getD (((pwL t x (k + 1)).length : Int) - 1).toNat 0).toNat []).getD x 0 := h2
      have hf := found k i hk (by omega) (by rw [hgi, hval] at h2; omega)
      exact And.intro (And.intro trivial (by rw [← hf.1])) (And.intro (show (i : Int) = 0 by omega) trivial)
    · have h2 : (pwL t x (k + 1)).getD i 0 ≠ (t.getD ((pwL t x (k + 1)).getD (((pwL t x (k + 1)).length : Int) - 1).toNat 0).toNat []).getD x 0 := h2
      refine And.intro (by omega) ?_
      refine nx (i + 1) ⟨by omega, fun j hj => ?_⟩ (show k + 1 - (i + 1) < k + 1 - i by omega) (by repeat' first | refine And.intro ?_ ?_ | exact True.intro | (show (_ : Int) = (_ : Int); omega) | omega | exact rfl | (simp only [RO.len]; omega))
      by_cases e : j = i
      · subst e; rw [hgi, hval] at h2; omega
      · exact hne j (by omega)
  have h1 : ((pwL t x (k + 1)).length : Int) ≤ (i : Int) := h1
  have hkl := left_ k hk fun j hj => hne j (by omega)
  refine And.intro (by simp; omega) ?_
  refine nx (k + 1) (show k + 1 ≤ ordN t x by omega) (show ordN t x - (k + 1) < ordN t x - k by omega) ?_
  have hnew : RO.ints .i64 (pwL t x (k + 1) ++ [(t.getD ((pwL t x (k + 1)).getD (((pwL t x (k + 1)).length : Int) - 1).toNat 0).toNat []).getD x 0]) = RO.ints .i64 (pwL t x (k + 1 + 1)) := by rw [hval, pwL_succ (k := k + 1)]
  repeat' first | refine And.intro ?_ ?_ | exact True.intro | exact hnew | omega | exact rfl
theorem rpow_fn (t : List (List Int)) (h : Grp t) (x : Nat) (hx : x < t.length) : QF 71 [.ro (.rows .i64 t), .int .i64 x] (.tup [.ro (.ints .i64 (pwL t x (ordN t x + 1))), .int .i64 0]) := mkQ Tryz.func71 (by decide +kernel) rfl (Nat.le_of_ble_eq_true rfl) fun _ => rpow_k t h x hx
theorem rord_k (t : List (List Int)) (h : Grp t) (x : Nat) (hx : x < t.length) : fnK TY SP Tryz.f23 [.ro (.rows .i64 t), .int .i64 x] (.int .i64 (ordN t x + 1)) := by
  refine Or.inl (cq (rpow_fn t h x hx) (And.intro rfl (And.intro rfl trivial)) ?_)
  refine And.intro ?_ trivial
  show ((pwL t x (ordN t x + 1)).length : Int) = (ordN t x : Int) + 1
  rw [pwL_len]; omega
theorem rord_fn (t : List (List Int)) (h : Grp t) (x : Nat) (hx : x < t.length) : QF 23 [.ro (.rows .i64 t), .int .i64 x] (.int .i64 (ordN t x + 1)) := mkQ Tryz.func23 (by decide +kernel) rfl (Nat.le_of_ble_eq_true rfl) fun _ => rord_k t h x hx
end Go.Proofs.YtdjbbjjmjopofaaGreat
