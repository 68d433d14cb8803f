import Derived.Test.YtjlkhjgnfnfmgaaGreatOrb
import Derived.Test.YtjlkhjgnfnfmgaaGreatPerm
section
/- group.Blocks: contract. -/
namespace Go.Proofs.YtjlkhjgnfnfmgaaGreat
open Go Go.AM
set_option maxRecDepth 100000
theorem last_snoc {W : List (Int × Int)} (h : 0 < W.length) : W = W.take (W.length - 1) ++ [W.getD (W.length - 1) (0, 0)] := by
  have hl : W.length - 1 < W.length := by omega
  rw [getD_eq hl, ← List.take_succ_eq_append_getElem hl, Nat.sub_add_cancel h, List.take_length]
def MgI (c : List Int) (a b i : Nat) (D : List Int) : Prop := D.length = c.length ∧ ∀ j, j < c.length → D.getD j 0 = if j < i then (mrgL c a b).getD j 0 else c.getD j 0
theorem MgI.start (c : List Int) (a b : Nat) : MgI c a b 0 c := ⟨rfl, fun j _ => by rw [if_neg (by omega)]⟩
theorem MgI.cur {c D : List Int} {a b i : Nat} (h : MgI c a b i D) (hi : i < c.length) : D.getD i 0 = c.getD i 0 := by rw [h.2 i hi, if_neg (by omega)]
theorem MgI.yes {c D : List Int} {a b i : Nat} (h : MgI c a b i D) (hi : i < c.length) (e : c.getD i 0 = c.getD b 0) : MgI c a b (i + 1) (D.set i (c.getD a 0)) := by
  refine ⟨by rw [List.length_set]; exact h.1, fun j hj => ?_⟩
  by_cases ej : j = i
  · subst ej; rw [getD_set_eq (by rw [h.1]; exact hi), if_pos (by omega), mrgL_get hi, if_pos e]
  · rw [getD_set_ne (Ne.symm ej), h.2 j hj]
    by_cases hji : j < i
    · rw [if_pos hji, if_pos (by omega)]
    · rw [if_neg hji, if_neg (by omega)]
theorem MgI.no {c D : List Int} {a b i : Nat} (h : MgI c a b i D) (hi : i < c.length) (e : c.getD i 0 ≠ c.getD b 0) : MgI c a b (i + 1) D := by
  refine ⟨h.1, fun j hj => ?_⟩
  rw [h.2 j hj]
  by_cases ej : j = i
  · subst ej; rw [if_neg (by omega), if_pos (by omega), mrgL_get hi, if_neg e]
  · by_cases hji : j < i
    · rw [if_pos hji, if_pos (by omega)]
    · rw [if_neg hji, if_neg (by omega)]
theorem MgI.done {c D : List Int} {a b i : Nat} (h : MgI c a b i D) (hi : c.length ≤ i) : D = mrgL c a b :=
  ext_getD 0 (by rw [h.1, mrgL_len]) fun j hj => by rw [h.1] at hj; rw [h.2 j hj, if_pos (by omega)]
set_option maxHeartbeats 4000000 in
theorem gblk_fn (F : List (List Int)) (n x y : Nat) (h1 : 1 ≤ n) (h2 : n ≤ 32) (hF : pmsP F n) (hl : F.length ≤ 10) (hx : x < n) (hy : y < n) : QF 25 [.ro (.rows .i64 F), .int .i64 n, .int .i64 x, .int .i64 y] (.new (.ints .i64 (blkP n F x y))) := mkQ Tryz.func25 (by decide +kernel) rfl (Nat.le_of_ble_eq_true rfl) fun _ => by
  have hpm : ∀ f ∈ F, Perm n f := fun f hf => by
    have := hF f hf
    have e : f.length = n := by omega
    exact e ▸ this.2.perm
  refine And.intro (fun h => absurd (show (n : Int) < 1 from h) (by omega)) (fun _ => ?_)
  refine And.intro (fun h => absurd (show 32 < (n : Int) from h) (by omega)) (fun _ => ?_)
  refine Or.inl (cq (gpms_fn F n) (And.intro rfl (And.intro rfl trivial)) ?_)
  refine And.intro (fun h => ?_) (fun _ => ?_)
  · have h : (!pmsB F n) = true := h
    rw [pmsB_true.2 hF] at h; cases h
  refine And.intro (fun h => absurd (show (x : Int) < 0 from h) (by omega)) (fun _ => ?_)
  refine And.intro (fun h => absurd (show (n : Int) ≤ (x : Int) from h) (by omega)) (fun _ => ?_)
  refine And.intro (fun h => absurd (show (y : Int) < 0 from h) (by omega)) (fun _ => ?_)
  refine And.intro (fun h => absurd (show (n : Int) ≤ (y : Int) from h) (by omega)) (fun _ => ?_)
  have hst : (F.length + 1) * classN (disI n) + [((x : Int), (y : Int))].length ≤ 353 := by
    have h5 : classN (disI n) ≤ 32 := by have := firsts_le (disI n); rw [disI_len] at this; exact Nat.le_trans this h2
    have h6 : (F.length + 1) * classN (disI n) ≤ 11 * 32 := Nat.mul_le_mul (by omega) h5
    simp only [List.length_singleton]; omega
  refine Or.inl (cq (tident_fn n h1 h2) (And.intro rfl trivial) ?_)
  refine Exists.intro [53] <| lp2 (fun (_ : List Int) (_ : List (Int × Int)) => [(10, .vec 53)]) (fun c W => [(49, .vec 0 (.ints .i64 c) []), (53, .vec 0 (.pairs W) [])]) (fun c W => BkI n F x y c W ∧ (F.length + 1) * classN c + W.length ≤ 353) (fun c W => (F.length + 1) * classN c + W.length) (disI n) [((x : Int), (y : Int))] ⟨BkI.start hx hy, hst⟩ (by repeat' first | refine And.intro ?_ ?_ | exact True.intro | (show (_ : Int) = (_ : Int); omega) | omega | exact rfl | (simp only [RO.len]; omega)) ?_
  rintro c W ⟨hI, hM⟩
  have hcl := hI.len
  refine And.intro (fun h3 => ?_) (fun h3 => ?_)
  · have h3 : (W.length : Int) > 0 := h3
    have hW0 : 0 < W.length := by omega
    have e1 : ((W.length : Int) - 1).toNat = W.length - 1 := by omega
    have hws : W = W.take (W.length - 1) ++ [W.getD ((W.length : Int) - 1).toNat (0, 0)] := by rw [e1]; exact last_snoc hW0
    have hq := (hI.ws (W.getD ((W.length : Int) - 1).toNat (0, 0)) (by rw [e1]; exact getD_mem (by omega))).1
    refine And.intro (by omega) ?_
    refine And.intro (by omega) ?_
    refine And.intro (by omega) ?_
    refine And.intro (by omega) ?_
    refine Or.inr ?_
    refine Or.inr (Exists.intro .txt (And.intro (by decide +kernel) ?_))
    generalize hqe : W.getD ((W.length : Int) - 1).toNat (0, 0) = q at hws hq ⊢
    refine And.intro (by omega) (And.intro (fun _ => ?_) (And.intro (fun h => absurd h (by decide)) trivial))
    refine And.intro (show 0 ≤ q.1 ∧ q.1 < (c.length : Int) by omega) ?_
    refine And.intro (by omega) (And.intro (fun h => absurd h (by decide)) (And.intro (fun _ => ?_) trivial))
    refine And.intro (show 0 ≤ q.2 ∧ q.2 < (c.length : Int) by omega) ?_
    refine And.intro (fun h4 => ?_) (fun h4 => ?_)
    · have h4 : c.getD q.1.toNat 0 = c.getD q.2.toNat 0 := h4
      refine nx (c, W.take (W.length - 1)) ⟨(hws ▸ hI : BkI n F x y c (W.take (W.length - 1) ++ [q])).skip h4, by rw [List.length_take]; omega⟩ (show (F.length + 1) * classN c + (W.take (W.length - 1)).length < (F.length + 1) * classN c + W.length by rw [List.length_take]; omega) ?_
      have eW : (W.take ((W.length : Int) - 1).toNat).drop 0 = W.take (W.length - 1) := by rw [e1, List.drop_zero]
      repeat' first | refine And.intro ?_ ?_ | exact True.intro | exact congrArg RO.pairs eW | omega | exact rfl
    · have h4 : c.getD q.1.toNat 0 ≠ c.getD q.2.toNat 0 := h4
      have hI2 : BkI n F x y c (W.take (W.length - 1) ++ [q]) := hws ▸ hI
      have hq1 : q.1.toNat < n := by omega
      have hq2 : q.2.toNat < n := by omega
      have hls := mrg_less (p := c) (a := q.2.toNat) (b := q.1.toNat) (by omega) (by omega) (Ne.symm h4)
      have hms : (F.length + 1) * classN (mrgL c q.2.toNat q.1.toNat) + (F.length + 1) ≤ (F.length + 1) * classN c := by
        have := Nat.mul_le_mul_left (F.length + 1) (show classN (mrgL c q.2.toNat q.1.toNat) + 1 ≤ classN c by omega)
        rwa [Nat.mul_add, Nat.mul_one] at this
      refine Exists.intro [] <| lp2 (fun (i : Nat) (_ : List Int) => [(83, .int .i64 i)]) (fun _ D => [(49, .vec 0 (.ints .i64 D) [])]) (fun i D => i ≤ n ∧ MgI c q.2.toNat q.1.toNat i D) (fun i _ => n - i) 0 c ⟨Nat.zero_le _, MgI.start c _ _⟩ (by repeat' first | refine And.intro ?_ ?_ | exact True.intro | (show (_ : Int) = (_ : Int); omega) | omega | exact rfl | (simp only [RO.len]; omega)) ?_
      rintro i D ⟨hi, hD⟩
      have hDl := hD.1
      refine And.intro (fun h5 => ?_) (fun h5 => ?_)
      · have h5 : (i : Int) < (c.length : Int) := h5
        have hcur := hD.cur (by omega : i < c.length)
        refine And.intro (by omega) ?_
        refine And.intro (fun h6 => ?_) (fun h6 => ?_)
        · have h6 : D.getD i 0 = c.getD q.1.toNat 0 := h6
          refine And.intro (by omega) ?_
          refine And.intro (by omega) ?_
          refine And.intro (by omega) ?_
          exact nx (i + 1, D.set i (c.getD q.2.toNat 0)) ⟨by omega, hD.yes (by omega) (by rw [← hcur]; exact h6)⟩ (show n - (i + 1) < n - i by omega) (by repeat' first | refine And.intro ?_ ?_ | exact True.intro | (show (_ : Int) = (_ : Int); omega) | omega | exact rfl | (simp only [RO.len]; omega))
        · have h6 : D.getD i 0 ≠ c.getD q.1.toNat 0 := h6
          refine And.intro (by omega) ?_
          exact nx (i + 1, D) ⟨by omega, hD.no (by omega) (by rw [← hcur]; exact h6)⟩ (show n - (i + 1) < n - i by omega) (by repeat' first | refine And.intro ?_ ?_ | exact True.intro | (show (_ : Int) = (_ : Int); omega) | omega | exact rfl | (simp only [RO.len]; omega))
      · have h5 : (c.length : Int) ≤ (i : Int) := h5
        have hDe := hD.done (by omega)
        have eW : (W.take ((W.length : Int) - 1).toNat).drop 0 = W.take (W.length - 1) ++ (F.take 0).map fun f => (f.getD q.1.toNat 0, f.getD q.2.toNat 0) := by rw [e1, List.drop_zero]; simp
        refine Exists.intro [67] <| lp2 (fun (k : Nat) (_ : List (Int × Int)) => [(98, .int .i64 k), (10, .vec 53)]) (fun _ V => [(53, .vec 0 (.pairs V) [])]) (fun k V => k ≤ F.length ∧ V = W.take (W.length - 1) ++ (F.take k).map fun f => (f.getD q.1.toNat 0, f.getD q.2.toNat 0)) (fun k _ => F.length - k) 0 ((W.take ((W.length : Int) - 1).toNat).drop 0) ⟨Nat.zero_le _, eW⟩ (by repeat' first | refine And.intro ?_ ?_ | exact True.intro | (show (_ : Int) = (_ : Int); omega) | omega | exact rfl | (simp only [RO.len]; omega)) ?_
        rintro k V ⟨hk, hV⟩
        have hVl : V.length = W.length - 1 + k := by rw [hV]; simp; omega
        refine And.intro (fun h6 => ?_) (fun h6 => ?_)
        · have h6 : (k : Int) < (F.length : Int) := h6
          have hkl : k < F.length := by omega
          have hp := hpm _ (getD_mem (d := []) hkl)
          have hlen := hp.len
          refine And.intro (by omega) ?_
          refine Or.inl ?_
          refine Exists.intro [false, false, false, false, false, false, false, false, false, false, false, false, false, true, true] (And.intro (by decide +kernel) ?_)
          refine And.intro (by omega) (And.intro (fun _ => ?_) (And.intro (fun h => absurd h (by decide)) trivial))
          refine And.intro (show 0 ≤ q.1 ∧ q.1 < ((F.getD k []).length : Int) by omega) ?_
          refine And.intro (by omega) (And.intro (fun h => absurd h (by decide)) (And.intro (fun _ => ?_) trivial))
          refine And.intro (show 0 ≤ q.2 ∧ q.2 < ((F.getD k []).length : Int) by omega) ?_
          refine And.intro (by simp; omega) ?_
          refine And.intro (by omega) ?_
          refine nx (k + 1, V ++ [((F.getD k []).getD q.1.toNat 0, (F.getD k []).getD q.2.toNat 0)]) ⟨by omega, ?_⟩ (show F.length - (k + 1) < F.length - k by omega) (by repeat' first | refine And.intro ?_ ?_ | exact True.intro | (show (_ : Int) = (_ : Int); omega) | omega | exact rfl | (simp only [RO.len]; omega))
          rw [hV, List.take_succ_eq_append_getElem hkl, List.map_append, List.append_assoc, ← getD_eq (d := []) hkl]; rfl
        · have h6 : (F.length : Int) ≤ (k : Int) := h6
          have hke : k = F.length := by omega
          subst hke
          have hmul : (F.length + 1) * classN c ≤ 353 := by omega
          refine nx (mrgL c q.2.toNat q.1.toNat, V) ⟨?_, ?_⟩ ?_ ?_
          · rw [hV, List.take_length]; exact hI2.take hpm
          · rw [hVl]; omega
          · show (F.length + 1) * classN (mrgL c q.2.toNat q.1.toNat) + V.length < (F.length + 1) * classN c + W.length
            rw [hVl]; omega
          · repeat' first | refine And.intro ?_ ?_ | exact True.intro | exact congrArg (RO.ints .i64) hDe | omega | exact rfl
  · have h3 : (W.length : Int) ≤ 0 := h3
    have hW : W = [] := List.length_eq_zero_iff.1 (by omega)
    subst hW
    have hd := hI.done hpm hx hy
    refine Or.inl (cq (Canonical_fn c) (And.intro rfl trivial) ?_)
    refine And.intro (And.intro (by omega) ?_) trivial
    show RO.ints .i64 (if c.length ≤ 4096 then canon c else []) = RO.ints .i64 (blkP n F x y)
    rw [if_pos (by omega), hd]
theorem gblkN_fn (F : List (List Int)) (n x y : Int) (h : ¬ (ActP F n ∧ (0 ≤ x ∧ x < n) ∧ 0 ≤ y ∧ y < n)) : QF 25 [.ro (.rows .i64 F), .int .i64 n, .int .i64 x, .int .i64 y] .nils := mkQ Tryz.func25 (by decide +kernel) rfl (Nat.le_of_ble_eq_true rfl) fun _ => by
  refine And.intro (fun _ => And.intro trivial trivial) (fun h1 => ?_)
  have h1 : 1 ≤ n := h1
  refine And.intro (fun _ => And.intro trivial trivial) (fun h2 => ?_)
  have h2 : n ≤ 32 := h2
  refine Or.inl (cq (gpms_fn F n) (And.intro rfl (And.intro rfl trivial)) ?_)
  refine And.intro (fun _ => And.intro trivial trivial) (fun h3 => ?_)
  have h3 : (!pmsB F n) = false := h3
  rw [Bool.not_eq_false'] at h3
  refine And.intro (fun _ => And.intro trivial trivial) (fun h4 => ?_)
  have h4 : 0 ≤ x := h4
  refine And.intro (fun _ => And.intro trivial trivial) (fun h5 => ?_)
  have h5 : x < n := h5
  refine And.intro (fun _ => And.intro trivial trivial) (fun h6 => ?_)
  have h6 : 0 ≤ y := h6
  refine And.intro (fun _ => And.intro trivial trivial) (fun h7 => ?_)
  have h7 : y < n := h7
  exact absurd ⟨⟨⟨h1, h2⟩, pmsB_true.1 h3⟩, ⟨h4, h5⟩, h6, h7⟩ h
end Go.Proofs.YtjlkhjgnfnfmgaaGreat
end
section
/- The reference's orbits and blocks: contracts. -/
namespace Go.Proofs.YtjlkhjgnfnfmgaaGreat
open Go Go.AM
set_option maxRecDepth 100000
noncomputable def actB (l : List (List Int)) (n : Int) : Bool := @decide (ActP l n) (Classical.propDecidable _)
theorem actB_true {l : List (List Int)} {n : Int} : actB l n = true ↔ ActP l n := by unfold actB; exact @decide_eq_true_iff _ (Classical.propDecidable _)
theorem actB_false {l : List (List Int)} {n : Int} : actB l n = false ↔ ¬ ActP l n := by unfold actB; exact @decide_eq_false_iff_not _ (Classical.propDecidable _)
theorem rmayact_k (l : List (List Int)) (n : Int) (hl : l.length ≤ 140737488355328) : fnK TY SP Tryz.f26 [.ro (.rows .i64 l), .int .i64 n] (.bool (.v (actB l n))) := by
  have no : ¬ ActP l n → (BE.lit false).val = (BE.v (actB l n)).val := fun h => (actB_false.2 h).symm
  refine And.intro (fun h1 => ?_) (fun h1 => ?_)
  · have h1 : n < 1 := h1
    exact And.intro (no fun h => by have := h.1.1; omega) trivial
  have h1 : 1 ≤ n := h1
  refine And.intro (fun h2 => ?_) (fun h2 => ?_)
  · have h2 : 32 < n := h2
    exact And.intro (no fun h => by have := h.1.2; omega) trivial
  have h2 : n ≤ 32 := h2
  refine Exists.intro [] <| lp (X := Nat) (fun i => [(15, .int .i64 i)]) (fun _ => []) (fun i => i ≤ l.length ∧ ∀ j, j < i → ((l.getD j []).length : Int) = n ∧ prmP (l.getD j [])) (fun i => l.length - i) 0 ⟨Nat.zero_le _, fun j h => absurd h (Nat.not_lt_zero _)⟩ (by repeat' first | refine And.intro ?_ ?_ | exact True.intro | (show (_ : Int) = (_ : Int); omega) | omega | exact rfl | (simp only [RO.len]; omega)) ?_
  rintro i ⟨hi, hI⟩
  refine And.intro (fun h1 => ?_) (fun h1 => ?_)
  · have h1 : (i : Int) < (l.length : Int) := h1
    have hm := getD_mem (d := []) (l := l) (i := i) (by omega)
    refine And.intro (by omega) ?_
    refine And.intro (fun h2 => ?_) (fun h2 => ?_)
    · have h2 : ¬ ((l.getD i []).length : Int) = n := h2
      exact And.intro (no fun h => h2 (h.2 _ hm).1) trivial
    have h2 : ((l.getD i []).length : Int) = n := h2
    refine Or.inl (cq (rperm_fn (l.getD i [])) (And.intro rfl trivial) ?_)
    refine And.intro (fun h3 => ?_) (fun h3 => ?_)
    · have h3 : (!prmB (l.getD i [])) = true := h3
      refine And.intro (no fun h => ?_) trivial
      rw [prmB_true.2 (h.2 _ hm).2] at h3; cases h3
    have h3 : (!prmB (l.getD i [])) = false := h3
    refine And.intro (by omega) ?_
    refine nx (i + 1) ⟨by omega, fun j hj => ?_⟩ (show l.length - (i + 1) < l.length - i by omega) (by repeat' first | refine And.intro ?_ ?_ | exact True.intro | (show (_ : Int) = (_ : Int); omega) | omega | exact rfl | (simp only [RO.len]; omega))
    by_cases e : j = i
    · subst e; exact ⟨h2, prmB_true.1 (by simpa using h3)⟩
    · exact hI j (by omega)
  · have h1 : (l.length : Int) ≤ (i : Int) := h1
    refine And.intro ?_ trivial
    refine (actB_true.2 ⟨⟨by assumption, by assumption⟩, fun f hf => ?_⟩).symm
    obtain ⟨j, hj, rfl⟩ := mem_getD [] hf
    exact hI j (by omega)
theorem rmayact_fn (l : List (List Int)) (n : Int) : QF 26 [.ro (.rows .i64 l), .int .i64 n] (.bool (.v (actB l n))) := mkQ Tryz.func26 (by decide +kernel) rfl (Nat.le_of_ble_eq_true rfl) fun hf => rmayact_k l n hf.1.1
def OrU (n : Nat) (F : List (List Int)) (k i : Nat) (a b : Nat) : Prop := a < n ∧ ((∃ k', k' < k ∧ b = imN (F.getD k' []) a) ∨ (a < i ∧ b = imN (F.getD k []) a))
theorem OrU.next {n : Nat} {F : List (List Int)} {k i : Nat} (hi : i < n) : orP (OrU n F k i) i (imN (F.getD k []) i) = OrU n F k (i + 1) := by
  funext a b
  refine propext ⟨?_, ?_⟩
  · rintro (⟨ha, h | ⟨h1, h2⟩⟩ | ⟨rfl, rfl⟩)
    · exact ⟨ha, .inl h⟩
    · exact ⟨ha, .inr ⟨by omega, h2⟩⟩
    · exact ⟨hi, .inr ⟨by omega, rfl⟩⟩
  · rintro ⟨ha, h | ⟨h1, h2⟩⟩
    · exact .inl ⟨ha, .inl h⟩
    · by_cases e : a = i
      · subst e; exact .inr ⟨rfl, h2⟩
      · exact .inl ⟨ha, .inr ⟨by omega, h2⟩⟩
theorem OrU.row {n : Nat} {F : List (List Int)} {k : Nat} : OrU n F k n = OrU n F (k + 1) 0 := by
  funext a b
  refine propext ⟨?_, ?_⟩
  · rintro ⟨ha, ⟨k', h, e⟩ | ⟨_, h2⟩⟩
    · exact ⟨ha, .inl ⟨k', by omega, e⟩⟩
    · exact ⟨ha, .inl ⟨k, by omega, h2⟩⟩
  · rintro ⟨ha, ⟨k', h, e⟩ | ⟨h1, _⟩⟩
    · by_cases ek : k' = k
      · subst ek; exact ⟨ha, .inr ⟨ha, e⟩⟩
      · exact ⟨ha, .inl ⟨k', by omega, e⟩⟩
    · exact absurd h1 (Nat.not_lt_zero _)
theorem OrU.done {n : Nat} {F : List (List Int)} : OrU n F F.length 0 = OrR n F := by
  funext a b
  refine propext ⟨?_, ?_⟩
  · rintro ⟨ha, ⟨k', h, e⟩ | ⟨h1, _⟩⟩
    · exact ⟨ha, _, getD_mem h, e⟩
    · exact absurd h1 (Nat.not_lt_zero _)
  · rintro ⟨ha, f, hf, e⟩
    obtain ⟨k, hk, rfl⟩ := mem_getD [] hf
    exact ⟨ha, .inl ⟨k, hk, e⟩⟩
set_option maxHeartbeats 4000000 in
theorem rorb_fn (F : List (List Int)) (n : Nat) (h2 : n ≤ 32) (hF : pmsP F n) (hl : F.length ≤ 10) : QF 28 [.ro (.rows .i64 F), .int .i64 n] (.new (.ints .i64 (orbP n F))) := mkQ Tryz.func28 (by decide +kernel) rfl (Nat.le_of_ble_eq_true rfl) fun _ => by
  have hpm : ∀ f ∈ F, Perm n f := fun f hf => by
    have := hF f hf
    have e : f.length = n := by omega
    exact e ▸ this.2.perm
  refine Or.inl (cq (rdis_fn n (by omega)) (And.intro rfl trivial) ?_)
  refine Exists.intro [] <| lp2 (fun (k : Nat) (_ : List Int) => [(14, .int .i64 k)]) (fun _ c => [(11, .vec 0 (.ints .i64 c) [])]) (fun k c => k ≤ F.length ∧ KerOf n c (OrU n F k 0)) (fun k _ => F.length - k) 0 (disI n) ⟨Nat.zero_le _, KerOf.dis fun a b h => h.2.elim (fun ⟨_, h, _⟩ => absurd h (Nat.not_lt_zero _)) (fun h => absurd h.1 (Nat.not_lt_zero _))⟩ (by repeat' first | refine And.intro ?_ ?_ | exact True.intro | (show (_ : Int) = (_ : Int); omega) | omega | exact rfl | (simp only [RO.len]; omega)) ?_
  rintro k c ⟨hk, hK⟩
  refine And.intro (fun h3 => ?_) (fun h3 => ?_)
  · have h3 : (k : Int) < (F.length : Int) := h3
    have hkl : k < F.length := by omega
    have hp := hpm _ (getD_mem (d := []) hkl)
    have hlen := hp.len
    refine And.intro (by omega) ?_
    refine Exists.intro [] <| lp2 (fun (i : Nat) (_ : List Int) => [(20, .int .i64 i)]) (fun _ c => [(11, .vec 0 (.ints .i64 c) [])]) (fun i c => i ≤ n ∧ KerOf n c (OrU n F k i)) (fun i _ => n - i) 0 c ⟨Nat.zero_le _, hK⟩ (by repeat' first | refine And.intro ?_ ?_ | exact True.intro | (show (_ : Int) = (_ : Int); omega) | omega | exact rfl | (simp only [RO.len]; omega)) ?_
    rintro i c ⟨hi, hK⟩
    have hcl := hK.1
    refine And.intro (fun h4 => ?_) (fun h4 => ?_)
    · have h4 : (i : Int) < ((F.getD k []).length : Int) := h4
      have hin : i < n := by omega
      have him := hp.im hin
      refine And.intro (by omega) ?_
      refine Or.inr (Or.inl (cm [] [(1000, 11)] (merge_fn c i (imN (F.getD k []) i) (by omega) (by omega) (by omega)) ?_))
      refine And.intro ?_ ?_
      · repeat' first | refine And.intro ?_ ?_ | exact True.intro | exact him.2 | (show (_ : Int) = (_ : Int); omega) | omega | exact rfl
      refine And.intro (by omega) ?_
      exact nx (i + 1, mrgL c i (imN (F.getD k []) i)) ⟨by omega, OrU.next hin ▸ hK.mrg hin him.1⟩ (show n - (i + 1) < n - i by omega) (by repeat' first | refine And.intro ?_ ?_ | exact True.intro | (show (_ : Int) = (_ : Int); omega) | omega | exact rfl | (simp only [RO.len]; omega))
    · have h4 : ((F.getD k []).length : Int) ≤ (i : Int) := h4
      have hie : i = n := by omega
      subst hie
      refine And.intro (by omega) ?_
      exact nx (k + 1, c) ⟨by omega, OrU.row ▸ hK⟩ (show F.length - (k + 1) < F.length - k by omega) (by repeat' first | refine And.intro ?_ ?_ | exact True.intro | (show (_ : Int) = (_ : Int); omega) | omega | exact rfl | (simp only [RO.len]; omega))
  · have h3 : (F.length : Int) ≤ (k : Int) := h3
    have hke : k = F.length := by omega
    subst hke
    have hcl := hK.1
    refine Or.inl (cq (rcanon_fn c) (And.intro rfl trivial) ?_)
    refine And.intro (And.intro (by omega) ?_) trivial
    show RO.ints .i64 (if c.length ≤ 4096 then canon c else []) = RO.ints .i64 (orbP n F)
    rw [if_pos (by omega), eqP_of hK, OrU.done]; rfl
def ClB (n : Nat) (F : List (List Int)) (c : List Int) (k i j : Nat) : Prop := ∀ k' i' j', i' < n → j' < i' → (k' < k ∨ (k' = k ∧ (i' < i ∨ (i' = i ∧ j' < j)))) → c.getD i' 0 = c.getD j' 0 → c.getD (imN (F.getD k' []) i') 0 = c.getD (imN (F.getD k' []) j') 0
structure RbI (n : Nat) (F : List (List Int)) (x y : Nat) (c0 c : List Int) (ch : Bool) (k i j : Nat) : Prop where
  b : BrI n F x y c
  no : ch = false → c = c0 ∧ ClB n F c k i j
  yes : ch = true → classN c < classN c0
theorem RbI.start {n x y : Nat} {F : List (List Int)} {c : List Int} (h : BrI n F x y c) : RbI n F x y c c false 0 0 0 :=
  ⟨h, fun _ => ⟨rfl, fun k' i' j' _ _ h => by omega⟩, fun h => by cases h⟩
theorem RbI.old {n x y : Nat} {F : List (List Int)} {c0 c : List Int} {ch : Bool} {k i j : Nat} (h : RbI n F x y c0 c ch k i j) (e : c.getD i 0 = c.getD j 0 → c.getD (imN (F.getD k []) i) 0 = c.getD (imN (F.getD k []) j) 0) : RbI n F x y c0 c ch k i (j + 1) :=
  ⟨h.b, fun hc => ⟨(h.no hc).1, fun k' i' j' h1 h2 h3 => by
    by_cases e' : k' = k ∧ i' = i ∧ j' = j
    · obtain ⟨rfl, rfl, rfl⟩ := e'; exact e
    · exact (h.no hc).2 k' i' j' h1 h2 (by omega)⟩, h.yes⟩
theorem RbI.row {n x y : Nat} {F : List (List Int)} {c0 c : List Int} {ch : Bool} {k i j : Nat} (h : RbI n F x y c0 c ch k i j) (hj : i ≤ j) : RbI n F x y c0 c ch k (i + 1) 0 :=
  ⟨h.b, fun hc => ⟨(h.no hc).1, fun k' i' j' h1 h2 h3 => (h.no hc).2 k' i' j' h1 h2 (by omega)⟩, h.yes⟩
theorem RbI.fin {n x y : Nat} {F : List (List Int)} {c0 c : List Int} {ch : Bool} {k i j : Nat} (h : RbI n F x y c0 c ch k i j) (hi : n ≤ i) : RbI n F x y c0 c ch (k + 1) 0 0 :=
  ⟨h.b, fun hc => ⟨(h.no hc).1, fun k' i' j' h1 h2 h3 => (h.no hc).2 k' i' j' h1 h2 (by omega)⟩, h.yes⟩
theorem RbI.mrg {n x y : Nat} {F : List (List Int)} {c0 c : List Int} {ch : Bool} {k i j : Nat} (h : RbI n F x y c0 c ch k i j) (hF : ∀ f ∈ F, Perm n f) (hk : k < F.length) (hi : i < n) (hj : j < i) (hx : x < n) (hy : y < n) (e : c.getD i 0 = c.getD j 0) (hne : c.getD (imN (F.getD k []) i) 0 ≠ c.getD (imN (F.getD k []) j) 0) :
    RbI n F x y c0 (mrgL c (imN (F.getD k []) i) (imN (F.getD k []) j)) true k i (j + 1) := by
  have hf := getD_mem (d := []) hk
  have i1 := (hF _ hf).im hi
  have i2 := (hF _ hf).im (show j < n by omega)
  refine ⟨h.b.mrg i1.1 i2.1 hx hy (.map hf hi (by omega) (h.b.so i j hi (by omega) e)), (fun hc => by cases hc), fun _ => ?_⟩
  have hl := mrg_less (p := c) (a := imN (F.getD k []) i) (b := imN (F.getD k []) j) (by rw [h.b.len]; exact i1.1) (by rw [h.b.len]; exact i2.1) hne
  cases ch with
  | true => have := h.yes rfl; omega
  | false => rw [← (h.no rfl).1]; exact hl
def chN (b : Bool) : Nat := match b with | true => 1 | false => 0
set_option maxHeartbeats 8000000 in
theorem rblk_fn (F : List (List Int)) (n x y : Nat) (h2 : n ≤ 32) (hF : pmsP F n) (hl : F.length ≤ 10) (hx : x < n) (hy : y < n) : QF 29 [.ro (.rows .i64 F), .int .i64 n, .int .i64 x, .int .i64 y] (.new (.ints .i64 (blkP n F x y))) := mkQ Tryz.func29 (by decide +kernel) rfl (Nat.le_of_ble_eq_true rfl) fun _ => by
  have hpm : ∀ f ∈ F, Perm n f := fun f hf => by
    have := hF f hf
    have e : f.length = n := by omega
    exact e ▸ this.2.perm
  have hdl := disI_len n
  refine Or.inl (cq (rdis_fn n (by omega)) (And.intro rfl trivial) ?_)
  refine Or.inr (Or.inl (cm [] [(1000, 16)] (merge_fn (disI n) x y (by omega) (by omega) (by omega)) ?_))
  refine And.intro (by repeat' first | refine And.intro ?_ ?_ | exact True.intro | (show (_ : Int) = (_ : Int); omega) | omega | exact rfl | (simp only [RO.len]; omega)) ?_
  refine Exists.intro [] <| lp2 (fun (_ : List Int) (ch : Bool) => [(10, .bool (.v ch))]) (fun c _ => [(16, .vec 0 (.ints .i64 c) [])]) (fun c ch => BrI n F x y c ∧ (ch = false → ClB n F c F.length 0 0)) (fun c ch => 2 * classN c + chN ch) (mrgL (disI n) x y) true ⟨BrI.start hx hy, fun h => by cases h⟩ (by repeat' first | refine And.intro ?_ ?_ | exact True.intro | (show (_ : Int) = (_ : Int); omega) | omega | exact rfl | (simp only [RO.len]; omega)) ?_
  rintro c ch ⟨hB, hC⟩
  have hcl := hB.len
  refine And.intro (fun h3 => ?_) (fun h3 => ?_)
  · have h3 : ch = true := h3
    subst h3
    refine Exists.intro [] <| lp3 (fun (k : Nat) (_ : List Int) (ch : Bool) => [(24, .int .i64 k), (10, .bool (.v ch))]) (fun _ c _ => [(16, .vec 0 (.ints .i64 c) [])]) (fun k c' ch => k ≤ F.length ∧ RbI n F x y c c' ch k 0 0) (fun k _ _ => F.length - k) 0 c false ⟨Nat.zero_le _, RbI.start hB⟩ (by repeat' first | refine And.intro ?_ ?_ | exact True.intro | (show (_ : Int) = (_ : Int); omega) | omega | exact rfl | (simp only [RO.len]; omega)) ?_
    rintro k c1 ch1 ⟨hk, hI1⟩
    have hc1 := hI1.b.len
    refine And.intro (fun h4 => ?_) (fun h4 => ?_)
    · have h4 : (k : Int) < (F.length : Int) := h4
      have hkl : k < F.length := by omega
      have hp := hpm _ (getD_mem (d := []) hkl)
      have hlen := hp.len
      refine And.intro (by omega) ?_
      refine Exists.intro [] <| lp3 (fun (i : Nat) (_ : List Int) (ch : Bool) => [(30, .int .i64 i), (10, .bool (.v ch))]) (fun _ c _ => [(16, .vec 0 (.ints .i64 c) [])]) (fun i c' ch => i ≤ n ∧ RbI n F x y c c' ch k i 0) (fun i _ _ => n - i) 0 c1 ch1 ⟨Nat.zero_le _, hI1⟩ (by repeat' first | refine And.intro ?_ ?_ | exact True.intro | (show (_ : Int) = (_ : Int); omega) | omega | exact rfl | (simp only [RO.len]; omega)) ?_
      rintro i c2 ch2 ⟨hi, hI2⟩
      have hc2 := hI2.b.len
      refine And.intro (fun h5 => ?_) (fun h5 => ?_)
      · have h5 : (i : Int) < (c1.length : Int) := h5
        have hin : i < n := by omega
        have him := hp.im hin
        refine Exists.intro [] <| lp3 (fun (j : Nat) (_ : List Int) (ch : Bool) => [(14, .int .i64 j), (10, .bool (.v ch))]) (fun _ c _ => [(16, .vec 0 (.ints .i64 c) [])]) (fun j c' ch => j ≤ i ∧ RbI n F x y c c' ch k i j) (fun j _ _ => i - j) 0 c2 ch2 ⟨Nat.zero_le _, hI2⟩ (by repeat' first | refine And.intro ?_ ?_ | exact True.intro | (show (_ : Int) = (_ : Int); omega) | omega | exact rfl | (simp only [RO.len]; omega)) ?_
        rintro j c3 ch3 ⟨hj, hI3⟩
        have hc3 := hI3.b.len
        refine And.intro (fun h6 => ?_) (fun h6 => ?_)
        · have h6 : (j : Int) < (i : Int) := h6
          have h6' : j < i := by omega
          have hjm := hp.im (show j < n by omega)
          refine Or.inl ?_
          refine Exists.intro (List.replicate 26 false) (And.intro (by decide +kernel) ?_)
          refine And.intro (by omega) ?_
          refine And.intro (by omega) ?_
          refine And.intro (fun h7 => ?_) (fun h7 => ?_)
          · have h7 : c3.getD i 0 = c3.getD j 0 := h7
            refine And.intro (show 0 ≤ (i : Int) ∧ (i : Int) < ((F.getD k []).length : Int) by omega) ?_
            refine And.intro (show 0 ≤ (F.getD k []).getD i 0 ∧ (F.getD k []).getD i 0 < (c3.length : Int) by omega) ?_
            refine And.intro (show 0 ≤ (j : Int) ∧ (j : Int) < ((F.getD k []).length : Int) by omega) ?_
            refine And.intro (show 0 ≤ (F.getD k []).getD j 0 ∧ (F.getD k []).getD j 0 < (c3.length : Int) by omega) ?_
            refine And.intro (fun h8 => ?_) (fun h8 => ?_)
            · have h8 : c3.getD (imN (F.getD k []) i) 0 ≠ c3.getD (imN (F.getD k []) j) 0 := h8
              refine Or.inl ?_
              refine Exists.intro [false, false, false, false, false, false, false, false, false, true] (And.intro (by decide +kernel) ?_)
              refine And.intro (show 0 ≤ (i : Int) ∧ (i : Int) < ((F.getD k []).length : Int) by omega) ?_
              refine And.intro (show 0 ≤ (j : Int) ∧ (j : Int) < ((F.getD k []).length : Int) by omega) ?_
              refine Or.inr (Or.inl (cm [] [(1000, 16)] (merge_fn c3 (imN (F.getD k []) i) (imN (F.getD k []) j) (by omega) (by omega) (by omega)) ?_))
              refine And.intro ?_ ?_
              · repeat' first | refine And.intro ?_ ?_ | exact True.intro | exact him.2 | exact hjm.2 | omega | exact rfl
              refine And.intro (by omega) ?_
              exact nx (j + 1, mrgL c3 (imN (F.getD k []) i) (imN (F.getD k []) j), true) ⟨by omega, hI3.mrg hpm hkl hin h6' hx hy h7 h8⟩ (show i - (j + 1) < i - j by omega) (by repeat' first | refine And.intro ?_ ?_ | exact True.intro | (show (_ : Int) = (_ : Int); omega) | omega | exact rfl | (simp only [RO.len]; omega))
            · have h8 : c3.getD (imN (F.getD k []) i) 0 = c3.getD (imN (F.getD k []) j) 0 := h8
              refine And.intro (by omega) ?_
              exact nx (j + 1, c3, ch3) ⟨by omega, hI3.old fun _ => h8⟩ (show i - (j + 1) < i - j by omega) (by repeat' first | refine And.intro ?_ ?_ | exact True.intro | (show (_ : Int) = (_ : Int); omega) | omega | exact rfl | (simp only [RO.len]; omega))
          · have h7 : c3.getD i 0 ≠ c3.getD j 0 := h7
            refine And.intro (by omega) ?_
            exact nx (j + 1, c3, ch3) ⟨by omega, hI3.old fun e => absurd e h7⟩ (show i - (j + 1) < i - j by omega) (by repeat' first | refine And.intro ?_ ?_ | exact True.intro | (show (_ : Int) = (_ : Int); omega) | omega | exact rfl | (simp only [RO.len]; omega))
        · have h6 : (i : Int) ≤ (j : Int) := h6
          refine And.intro (by omega) ?_
          exact nx (i + 1, c3, ch3) ⟨by omega, hI3.row (by omega)⟩ (show n - (i + 1) < n - i by omega) (by repeat' first | refine And.intro ?_ ?_ | exact True.intro | (show (_ : Int) = (_ : Int); omega) | omega | exact rfl | (simp only [RO.len]; omega))
      · have h5 : (c1.length : Int) ≤ (i : Int) := h5
        refine And.intro (by omega) ?_
        exact nx (k + 1, c2, ch2) ⟨by omega, hI2.fin (by omega)⟩ (show F.length - (k + 1) < F.length - k by omega) (by repeat' first | refine And.intro ?_ ?_ | exact True.intro | (show (_ : Int) = (_ : Int); omega) | omega | exact rfl | (simp only [RO.len]; omega))
    · have h4 : (F.length : Int) ≤ (k : Int) := h4
      have hke : k = F.length := by omega
      subst hke
      refine nx (c1, ch1) ⟨hI1.b, fun h => (hI1.no h).2⟩ ?_ (by repeat' first | refine And.intro ?_ ?_ | exact True.intro | (show (_ : Int) = (_ : Int); omega) | omega | exact rfl | (simp only [RO.len]; omega))
      show 2 * classN c1 + chN ch1 < 2 * classN c + chN true
      cases ch1 with
      | true => have := hI1.yes rfl; simp only [chN]; omega
      | false => rw [(hI1.no rfl).1]; simp only [chN]; omega
  · have h3 : ch = false := h3
    subst h3
    have hd := hB.done (fun f hf i j hi hj e => by
      obtain ⟨k, hk, rfl⟩ := mem_getD [] hf
      exact hC rfl k i j hi hj (.inl hk) e)
    refine Or.inl (cq (rcanon_fn c) (And.intro rfl trivial) ?_)
    refine And.intro (And.intro (by omega) ?_) trivial
    show RO.ints .i64 (if c.length ≤ 4096 then canon c else []) = RO.ints .i64 (blkP n F x y)
    rw [if_pos (by omega), hd]
end Go.Proofs.YtjlkhjgnfnfmgaaGreat
end
