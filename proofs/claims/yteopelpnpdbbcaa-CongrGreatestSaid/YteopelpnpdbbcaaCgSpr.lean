/- Package congr: spread: contract. -/
import Derived.Test.YteopelpnpdbbcaaCgFor
import Derived.Test.YteopelpnpdbbcaaCgGen
namespace Go.Proofs.Yteopelpnpdbbcaa
open Go Go.AM
set_option maxRecDepth 100000
set_option maxHeartbeats 1000000 in
theorem cspr_k (t : List (List Int)) (gens : List Int) (side : Int) (hs : Sh t) (hg : ∀ g ∈ gens, 0 ≤ g ∧ g < (t.length : Int)) (hgl : gens.length ≤ t.length) (p q : List Int) (r u : Nat → Nat) (W : List (Int × Int)) (k : Nat) (hf : Fo t.length p r) (hW : inW t.length W) (hWl : W.length ≤ 1000) (h : Sp t gens side q u k p r W) :
    fnMK TY SP Try.f65 [.ptr 1000 0, .ro (.rows .i64 t), .ro (.ints .i64 gens), .vec 1002, .int .i64 side] (stk1 1002 ((1002, .vec 0 (.pairs W) []) :: foS p (cntR t.length r))) (.tup []) ((1002, .jnk W.length 2) :: foS q (cntR t.length u)) := by
  have hmost := hs.most
  have n10 : ¬ (1 : Int) = ((0 : Nat) : Int) := by omega
  have n01 : ¬ (0 : Int) = ((0 + 1 : Nat) : Int) := by omega
  have hb0 : W.length + 2 * gens.length * cntR t.length r ≤ 400000 := by
    have h1 := cnt_le t.length r
    have h2 : 2 * gens.length * cntR t.length r ≤ 800 * 400 := Nat.mul_le_mul (by omega) (by omega)
    omega
  refine Exists.intro [] <| lp4 (fun (_ : Nat) (_ : List Int) (_ : Nat → Nat) (_ : List (Int × Int)) => [(3, .vec 1002)]) (fun _ p r V => [(1002, .stk W.length (.pairs V)), (1000, .box [.vec 1001, .int .i64 (cntR t.length r)]), (1001, .vec 0 (.ints .i64 p) [])]) (fun k p r V => Sp t gens side q u k p r V ∧ Fo t.length p r ∧ inW t.length V ∧ V.length + 2 * gens.length * cntR t.length r ≤ 400000) (fun k _ _ _ => k) k p r W ⟨h, hf, hW, hb0⟩ (by repeat' first | refine And.intro ?_ ?_ | exact True.intro | (show (_ : Int) = (_ : Int); omega) | omega | exact rfl | (simp only [RO.len]; omega)) ?_
  rintro k p r V ⟨h, hf, hW, hb⟩
  refine And.intro (fun h1 => ?_) (fun h1 => ?_)
  · have h1 : (0 : Int) < (V.length : Int) := h1
    have hV0 : 0 < V.length := by omega
    obtain ⟨k2, hk2, hst⟩ := Sp.top h hV0
    have hlast := hW _ (getD_mem (d := ((0 : Int), (0 : Int))) (l := V) (i := V.length - 1) (by omega))
    obtain ⟨x, hxe⟩ : ∃ x : Nat, (x : Int) = (V.getD (V.length - 1) (0, 0)).1 := ⟨_, Int.toNat_of_nonneg hlast.1.1⟩
    obtain ⟨y, hye⟩ : ∃ y : Nat, (y : Int) = (V.getD (V.length - 1) (0, 0)).2 := ⟨_, Int.toNat_of_nonneg hlast.2.1⟩
    have hx : x < t.length := by omega
    have hy : y < t.length := by omega
    rw [← hxe, ← hye] at hst
    simp only [Int.toNat_natCast] at hst
    have hnl : ((V.length : Int) - 1).toNat = V.length - 1 := by omega
    have hx1 : pairJ 0 (V.getD ((V.length : Int) - 1).toNat (0, 0)) = (x : Int) := by rw [hnl]; exact hxe.symm
    have hy1 : pairJ (0 + 1) (V.getD ((V.length : Int) - 1).toNat (0, 0)) = (y : Int) := by rw [hnl]; exact hye.symm
    have hcut : (V.take ((V.length : Int) - 1).toNat).drop 0 = V.take (V.length - 1) := by rw [hnl]; rfl
    have hVt : inW t.length (V.take (V.length - 1)) := fun z hz => hW z (List.mem_of_mem_take hz)
    have hVl : (V.take (V.length - 1)).length = V.length - 1 := by rw [List.length_take]; omega
    have hc := jn_cnt hf hx hy
    have hfo := jn_fo hf hx hy
    refine Or.inl ?_
    refine Exists.intro [false, false, false, false, false, false, false, false, false, false, false, false, false, false, false, false] (And.intro (by decide +kernel) ?_)
    refine And.intro (by omega) ?_
    refine And.intro (show 0 ≤ (V.length : Int) - 1 ∧ (V.length : Int) - 1 < (V.length : Int) by omega) ?_
    refine And.intro (by omega) ?_
    refine And.intro (fun _ => ?_) (And.intro (fun h => absurd h n01) trivial)
    refine And.intro (by omega) ?_
    refine And.intro (show 0 ≤ (V.length : Int) - 1 ∧ (V.length : Int) - 1 < (V.length : Int) by omega) ?_
    refine And.intro (by omega) ?_
    refine And.intro (fun h => absurd h n10) (And.intro (fun _ => ?_) trivial)
    refine And.intro (by omega) ?_
    refine And.intro (show 0 ≤ (V.length : Int) - 1 ∧ (V.length : Int) - 1 ≤ (V.length : Int) by omega) ?_
    refine Or.inr (Or.inl (cm [] [(1000, 1000), (1001, 1001)] (cjoin_fn t.length p r x y hf hx hy (by omega)) ?_))
    refine And.intro (by repeat' first | refine And.intro ?_ ?_ | exact True.intro | exact hx1 | exact hy1 | (show (_ : Int) = (_ : Int); omega) | omega | exact rfl) ?_
    refine And.intro (fun h2 => ?_) (fun h2 => ?_)
    · have h2 : (!decide (r x ≠ r y)) = true := h2
      have h2 : r x = r y := by simpa using h2
      rw [if_pos h2, List.append_nil] at hst
      rw [if_pos h2] at hc
      exact nx (k2, jnP r p x y, jnR r x y, (V.take ((V.length : Int) - 1).toNat).drop 0) ⟨by rw [hcut]; exact hst, hfo, by rw [hcut]; exact hVt, by rw [hcut, hVl, ← Nat.add_zero (cntR t.length (jnR r x y)), hc]; omega⟩ (show k2 < k by omega) (by repeat' first | refine And.intro ?_ ?_ | exact True.intro | (show (_ : Int) = (_ : Int); omega) | omega | exact rfl | (simp only [RO.len]; omega))
    · have h2 : (!decide (r x ≠ r y)) = false := h2
      have h2 : r x ≠ r y := by simpa using h2
      rw [if_neg h2] at hst hc
      refine Exists.intro [10, 11, 14, 15, 16, 17, 18, 19, 20, 21, 22, 23, 24, 25, 26, 27, 28, 29, 30, 31, 32, 33, 34, 35, 36, 37, 38] <| lp2 (fun (j : Nat) (_ : List (Int × Int)) => [(43, .int .i64 j), (3, .vec 1002), (10, .int .i64 (x : Int)), (11, .int .i64 (y : Int))]) (fun _ B => [(1002, .stk W.length (.pairs B))]) (fun j B => j ≤ gens.length ∧ B = V.take (V.length - 1) ++ puL t side x y (gens.take j)) (fun j _ => gens.length - j) 0 ((V.take ((V.length : Int) - 1).toNat).drop 0) ⟨Nat.zero_le _, by rw [hcut]; simp [puL]⟩ (by repeat' first | refine And.intro ?_ ?_ | exact True.intro | exact hx1 | exact hy1 | (show (_ : Int) = (_ : Int); omega) | omega | exact rfl) ?_
      rintro j B ⟨hj, hB⟩
      have hpl := puL_len t side x y (gens.take j)
      have hBl : B.length ≤ 401000 := by
        have : (gens.take j).length ≤ gens.length := by rw [List.length_take]; omega
        rw [hB, List.length_append]; omega
      refine And.intro (fun h3 => ?_) (fun h3 => ?_)
      · have h3 : (j : Int) < (gens.length : Int) := h3
        have hjl : j < gens.length := by omega
        have htk := take_get (d := (0 : Int)) (l := gens) (i := j) hjl
        have hgr := hg _ (getD_mem (d := 0) hjl)
        have e1 := hs.ent (x := (gens.getD j 0).toNat) (y := x) (by omega) hx
        have e2 := hs.ent (x := (gens.getD j 0).toNat) (y := y) (by omega) hy
        have e3 := hs.ent (x := x) (y := (gens.getD j 0).toNat) hx (by omega)
        have e4 := hs.ent (x := y) (y := (gens.getD j 0).toNat) hy (by omega)
        have r1 := hs.len (x := (gens.getD j 0).toNat) (by omega)
        have r2 := hs.len hx
        have r3 := hs.len hy
        have hsn := puL_snoc t side x y (gens.take j) (gens.getD j 0)
        rw [← htk] at hsn
        refine And.intro (by omega) ?_
        refine And.intro (fun h4 => ?_) (fun h4 => ?_)
        · have h4 : side ≠ 2 := h4
          refine Or.inl ?_
          refine Exists.intro [false, false, false, false, false, false, false, false, false, false, false, false, false, false, false, false, false, true, true] (And.intro (by decide +kernel) ?_)
          refine And.intro (show 0 ≤ gens.getD j 0 ∧ gens.getD j 0 < (t.length : Int) by omega) ?_
          refine And.intro (show 0 ≤ (x : Int) ∧ (x : Int) < ((t.getD (gens.getD j 0).toNat []).length : Int) by omega) ?_
          refine And.intro (show 0 ≤ gens.getD j 0 ∧ gens.getD j 0 < (t.length : Int) by omega) ?_
          refine And.intro (show 0 ≤ (y : Int) ∧ (y : Int) < ((t.getD (gens.getD j 0).toNat []).length : Int) by omega) ?_
          refine And.intro (by simp; omega) ?_
          refine And.intro (fun h5 => ?_) (fun h5 => ?_)
          · have h5 : side ≠ 1 := h5
            refine Or.inl ?_
            refine Exists.intro [false, false, false, false, false, false, false, false, false, false, false, false, false, false, false, false, false, true, true] (And.intro (by decide +kernel) ?_)
            refine And.intro (show 0 ≤ (x : Int) ∧ (x : Int) < (t.length : Int) by omega) ?_
            refine And.intro (show 0 ≤ gens.getD j 0 ∧ gens.getD j 0 < ((t.getD x []).length : Int) by omega) ?_
            refine And.intro (show 0 ≤ (y : Int) ∧ (y : Int) < (t.length : Int) by omega) ?_
            refine And.intro (show 0 ≤ gens.getD j 0 ∧ gens.getD j 0 < ((t.getD y []).length : Int) by omega) ?_
            refine And.intro (by simp; omega) ?_
            refine And.intro (by omega) ?_
            refine nx (j + 1, (B ++ [((t.getD (gens.getD j 0).toNat []).getD x 0, (t.getD (gens.getD j 0).toNat []).getD y 0)]) ++ [((t.getD x []).getD (gens.getD j 0).toNat 0, (t.getD y []).getD (gens.getD j 0).toNat 0)]) ⟨by omega, ?_⟩ (show gens.length - (j + 1) < gens.length - j by omega) (by repeat' first | refine And.intro ?_ ?_ | exact True.intro | (show (_ : Int) = (_ : Int); omega) | omega | exact rfl | (simp only [RO.len]; omega))
            show (B ++ [((t.getD (gens.getD j 0).toNat []).getD x 0, (t.getD (gens.getD j 0).toNat []).getD y 0)]) ++ [((t.getD x []).getD (gens.getD j 0).toNat 0, (t.getD y []).getD (gens.getD j 0).toNat 0)] = _
            rw [hsn, hB, if_pos h4, if_pos h5, e1.1, e2.1, e3.1, e4.1]; simp
          · have h5 : side = 1 := h5
            refine And.intro (by omega) ?_
            refine nx (j + 1, B ++ [((t.getD (gens.getD j 0).toNat []).getD x 0, (t.getD (gens.getD j 0).toNat []).getD y 0)]) ⟨by omega, ?_⟩ (show gens.length - (j + 1) < gens.length - j by omega) (by repeat' first | refine And.intro ?_ ?_ | exact True.intro | (show (_ : Int) = (_ : Int); omega) | omega | exact rfl | (simp only [RO.len]; omega))
            show B ++ [((t.getD (gens.getD j 0).toNat []).getD x 0, (t.getD (gens.getD j 0).toNat []).getD y 0)] = _
            rw [hsn, hB, if_pos h4, if_neg (fun h => h h5), e1.1, e2.1]; simp
        · have h4 : side = 2 := h4
          refine And.intro (fun h5 => ?_) (fun h5 => ?_)
          · have h5 : side ≠ 1 := h5
            refine Or.inl ?_
            refine Exists.intro [false, false, false, false, false, false, false, false, false, false, false, false, false, false, false, false, false, true, true] (And.intro (by decide +kernel) ?_)
            refine And.intro (show 0 ≤ (x : Int) ∧ (x : Int) < (t.length : Int) by omega) ?_
            refine And.intro (show 0 ≤ gens.getD j 0 ∧ gens.getD j 0 < ((t.getD x []).length : Int) by omega) ?_
            refine And.intro (show 0 ≤ (y : Int) ∧ (y : Int) < (t.length : Int) by omega) ?_
            refine And.intro (show 0 ≤ gens.getD j 0 ∧ gens.getD j 0 < ((t.getD y []).length : Int) by omega) ?_
            refine And.intro (by simp; omega) ?_
            refine And.intro (by omega) ?_
            refine nx (j + 1, B ++ [((t.getD x []).getD (gens.getD j 0).toNat 0, (t.getD y []).getD (gens.getD j 0).toNat 0)]) ⟨by omega, ?_⟩ (show gens.length - (j + 1) < gens.length - j by omega) (by repeat' first | refine And.intro ?_ ?_ | exact True.intro | (show (_ : Int) = (_ : Int); omega) | omega | exact rfl | (simp only [RO.len]; omega))
            show B ++ [((t.getD x []).getD (gens.getD j 0).toNat 0, (t.getD y []).getD (gens.getD j 0).toNat 0)] = _
            rw [hsn, hB, if_neg (fun h => h h4), if_pos h5, e3.1, e4.1]; simp
          · have h5 : side = 1 := h5
            omega
      · have h3 : (gens.length : Int) ≤ (j : Int) := h3
        have hjg : gens.take j = gens := List.take_of_length_le (by omega)
        rw [hjg] at hB hpl
        exact nx (k2, jnP r p x y, jnR r x y, B) ⟨by rw [hB]; exact hst, hfo, by rw [hB]; exact inW_app.2 ⟨hVt, puL_in hs hg hx hy⟩, by rw [← hc, Nat.mul_add] at hb; rw [hB, List.length_append, hVl]; omega⟩ (show k2 < k by omega) (by repeat' first | refine And.intro ?_ ?_ | exact True.intro | (show (_ : Int) = (_ : Int); omega) | omega | exact rfl | (simp only [RO.len]; omega))
  · have h1 : (V.length : Int) ≤ (0 : Int) := h1
    have hbt := h.bot (by omega)
    refine And.intro (And.intro (And.intro (by omega) rfl) (And.intro (And.intro (by repeat' first | refine And.intro ?_ ?_ | exact True.intro | (show (_ : Int) = (_ : Int); omega) | omega | exact rfl | (simp only [RO.len]; omega)) (And.intro ?_ trivial)) (And.intro (And.intro (by omega) (congrArg (RO.ints .i64) hbt.1)) trivial))) trivial
    show (cntR t.length r : Int) = (cntR t.length u : Int)
    rw [hbt.2]
theorem cspr_fn (t : List (List Int)) (gens : List Int) (side : Int) (hs : Sh t) (hg : ∀ g ∈ gens, 0 ≤ g ∧ g < (t.length : Int)) (hgl : gens.length ≤ t.length) (p q : List Int) (r u : Nat → Nat) (W : List (Int × Int)) (k : Nat) (hf : Fo t.length p r) (hW : inW t.length W) (hWl : W.length ≤ 1000) (h : Sp t gens side q u k p r W) :
    MF 65 [.ptr 1000 0, .ro (.rows .i64 t), .ro (.ints .i64 gens), .vec 1002, .int .i64 side] ((1002, .vec 0 (.pairs W) []) :: foS p (cntR t.length r)) (.tup []) ((1002, .jnk W.length 2) :: foS q (cntR t.length u)) := mkS 1002 rfl Try.func65 (by decide +kernel) rfl fun _ => cspr_k t gens side hs hg hgl p q r u W k hf hW hWl h
end Go.Proofs.Yteopelpnpdbbcaa
