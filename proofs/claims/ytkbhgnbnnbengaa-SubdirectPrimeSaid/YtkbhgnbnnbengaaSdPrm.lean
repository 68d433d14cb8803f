import Derived.Test.YtkbhgnbnnbengaaCgFor
import Derived.Test.YtkbhgnbnnbengaaClone
import Derived.Test.YtkbhgnbnnbengaaCgGnrLaw
import Derived.Test.YtkbhgnbnnbengaaForLaw
section
/- Package congr: spread: contract. -/
namespace Go.Proofs.Ytkbhgnbnnbengaa
open Go Go.AM
set_option maxRecDepth 100000
set_option maxHeartbeats 1000000 in
theorem cspr_k (t : List (List Int)) (gens : List Int) (side : Int) (hs : Sh t) (hg : ∀ g ∈ gens, 0 ≤ g ∧ g < (t.length : Int)) (hgl : gens.length ≤ t.length) (p q : List Int) (r u : Nat → Nat) (W : List (Int × Int)) (k : Nat) (hf : Fo t.length p r) (hW : inW t.length W) (hWl : W.length ≤ 1000) (h : Sp t gens side q u k p r W) :
    fnMK TY SP Try.f66 [.ptr 1000 0, .ro (.rows .i64 t), .ro (.ints .i64 gens), .vec 1002, .int .i64 side] (stk1 1002 ((1002, .vec 0 (.pairs W) []) :: foS p (cntR t.length r))) (.tup []) ((1002, .jnk W.length 2) :: foS q (cntR t.length u)) := by
  have hmost := hs.most
  have n10 : ¬ (1 : Int) = ((0 : Nat) : Int) := by omega
  have n01 : ¬ (0 : Int) = ((0 + 1 : Nat) : Int) := by omega
  have hb0 : W.length + 2 * gens.length * cntR t.length r ≤ 400000 := by
    have h1 := cnt_le t.length r
    have h2 : 2 * gens.length * cntR t.length r ≤ 800 * 400 := Nat.mul_le_mul (by omega) (by omega)
    omega
  refine Exists.intro [] <| lp4 (fun (_ : Nat) (_ : List Int) (_ : Nat → Nat) (_ : List (Int × Int)) => [(3, .vec 1002)]) (fun _ p r V => [(1002, .stk W.length (.pairs V)), (1000, .box [.vec 1001, .int .i64 (cntR t.length r)]), (1001, .vec 0 (.ints .i64 p) [])]) (fun k p r V => Sp t gens side q u k p r V ∧ Fo t.length p r ∧ inW t.length V ∧ V.length + 2 * gens.length * cntR t.length r ≤ 400000) (fun k _ _ _ => k) k p r W ⟨h, hf, hW, hb0⟩ (by repeat' first | refine And.intro ?_ ?_ | exact True.intro | (show (_ : Int) = (_ : Int); omega) | omega | exact rfl | (simp only [RO.len]; omega)) ?_
  rintro k p r V ⟨h, hf, hW, hb⟩
  refine And.intro (fun h1 => ?_) (fun h1 => ?_)
  · have h1 : (0 : Int) < (V.length : Int) := h1
    have hV0 : 0 < V.length := by omega
    obtain ⟨k2, hk2, hst⟩ := Sp.top h hV0
    have hlast := hW _ (getD_mem (d := ((0 : Int), (0 : Int))) (l := V) (i := V.length - 1) (by omega))
    obtain ⟨x, hxe⟩ : ∃ x : Nat, (x : Int) = (V.getD (V.length - 1) (0, 0)).1 := ⟨_, Int.toNat_of_nonneg hlast.1.1⟩
    obtain ⟨y, hye⟩ : ∃ y : Nat, (y : Int) = (V.getD (V.length - 1) (0, 0)).2 := ⟨_, Int.toNat_of_nonneg hlast.2.1⟩
    have hx : x < t.length := by omega
    have hy : y < t.length := by omega
    rw [← hxe, ← hye] at hst
    simp only [Int.toNat_natCast] at hst
    have hnl : ((V.length : Int) - 1).toNat = V.length - 1 := by omega
    have hx1 : pairJ 0 (V.getD ((V.length : Int) - 1).toNat (0, 0)) = (x : Int) := by rw [hnl]; exact hxe.symm
    have hy1 : pairJ (0 + 1) (V.getD ((V.length : Int) - 1).toNat (0, 0)) = (y : Int) := by rw [hnl]; exact hye.symm
    have hcut : (V.take ((V.length : Int) - 1).toNat).drop 0 = V.take (V.length - 1) := by rw [hnl]; rfl
    have hVt : inW t.length (V.take (V.length - 1)) := fun z hz => hW z (List.mem_of_mem_take hz)
    have hVl : (V.take (V.length - 1)).length = V.length - 1 := by rw [List.length_take]; omega
    have hc := jn_cnt hf hx hy
    have hfo := jn_fo hf hx hy
    refine Or.inl ?_
    refine Exists.intro [false, false, false, false, false, false, false, false, false, false, false, false, false, false, false, false] (And.intro (by decide +kernel) ?_)
    refine And.intro (by omega) ?_
    refine And.intro (show 0 ≤ (V.length : Int) - 1 ∧ (V.length : Int) - 1 < (V.length : Int) by omega) ?_
    refine And.intro (by omega) ?_
    refine And.intro (fun _ => ?_) (And.intro (fun h => absurd h n01) trivial)
    refine And.intro (by omega) ?_
    refine And.intro (show 0 ≤ (V.length : Int) - 1 ∧ (V.length : Int) - 1 < (V.length : Int) by omega) ?_
    refine And.intro (by omega) ?_
    refine And.intro (fun h => absurd h n10) (And.intro (fun _ => ?_) trivial)
    refine And.intro (by omega) ?_
    refine And.intro (show 0 ≤ (V.length : Int) - 1 ∧ (V.length : Int) - 1 ≤ (V.length : Int) by omega) ?_
    refine Or.inr (Or.inl (cm [] [(1000, 1000), (1001, 1001)] (cjoin_fn t.length p r x y hf hx hy (by omega)) ?_))
    refine And.intro (by repeat' first | refine And.intro ?_ ?_ | exact True.intro | exact hx1 | exact hy1 | (show (_ : Int) = (_ : Int); omega) | omega | exact rfl) ?_
    refine And.intro (fun h2 => ?_) (fun h2 => ?_)
    · have h2 : (!decide (r x ≠ r y)) = true := h2
      have h2 : r x = r y := by simpa using h2
      rw [if_pos h2, List.append_nil] at hst
      rw [if_pos h2] at hc
      exact nx (k2, jnP r p x y, jnR r x y, (V.take ((V.length : Int) - 1).toNat).drop 0) ⟨by rw [hcut]; exact hst, hfo, by rw [hcut]; exact hVt, by rw [hcut, hVl, ← Nat.add_zero (cntR t.length (jnR r x y)), hc]; omega⟩ (show k2 < k by omega) (by repeat' first | refine And.intro ?_ ?_ | exact True.intro | (show (_ : Int) = (_ : Int); omega) | omega | exact rfl | (simp only [RO.len]; omega))
    · have h2 : (!decide (r x ≠ r y)) = false := h2
      have h2 : r x ≠ r y := by simpa using h2
      rw [if_neg h2] at hst hc
      refine Exists.intro [10, 11, 14, 15, 16, 17, 18, 19, 20, 21, 22, 23, 24, 25, 26, 27, 28, 29, 30, 31, 32, 33, 34, 35, 36, 37, 38] <| lp2 (fun (j : Nat) (_ : List (Int × Int)) => [(43, .int .i64 j), (3, .vec 1002), (10, .int .i64 (x : Int)), (11, .int .i64 (y : Int))]) (fun _ B => [(1002, .stk W.length (.pairs B))]) (fun j B => j ≤ gens.length ∧ B = V.take (V.length - 1) ++ puL t side x y (gens.take j)) (fun j _ => gens.length - j) 0 ((V.take ((V.length : Int) - 1).toNat).drop 0) ⟨Nat.zero_le _, by rw [hcut]; simp [puL]⟩ (by repeat' first | refine And.intro ?_ ?_ | exact True.intro | exact hx1 | exact hy1 | (show (_ : Int) = (_ : Int); omega) | omega | exact rfl) ?_
      rintro j B ⟨hj, hB⟩
      have hpl := puL_len t side x y (gens.take j)
      have hBl : B.length ≤ 401000 := by
        have : (gens.take j).length ≤ gens.length := by rw [List.length_take]; omega
        rw [hB, List.length_append]; omega
      refine And.intro (fun h3 => ?_) (fun h3 => ?_)
      · have h3 : (j : Int) < (gens.length : Int) := h3
        have hjl : j < gens.length := by omega
        have htk := take_get (d := (0 : Int)) (l := gens) (i := j) hjl
        have hgr := hg _ (getD_mem (d := 0) hjl)
        have e1 := hs.ent (x := (gens.getD j 0).toNat) (y := x) (by omega) hx
        have e2 := hs.ent (x := (gens.getD j 0).toNat) (y := y) (by omega) hy
        have e3 := hs.ent (x := x) (y := (gens.getD j 0).toNat) hx (by omega)
        have e4 := hs.ent (x := y) (y := (gens.getD j 0).toNat) hy (by omega)
        have r1 := hs.len (x := (gens.getD j 0).toNat) (by omega)
        have r2 := hs.len hx
        have r3 := hs.len hy
        have hsn := puL_snoc t side x y (gens.take j) (gens.getD j 0)
        rw [← htk] at hsn
        refine And.intro (by omega) ?_
        refine And.intro (fun h4 => ?_) (fun h4 => ?_)
        · have h4 : side ≠ 2 := h4
          refine Or.inl ?_
          refine Exists.intro [false, false, false, false, false, false, false, false, false, false, false, false, false, false, false, false, false, true, true] (And.intro (by decide +kernel) ?_)
          refine And.intro (show 0 ≤ gens.getD j 0 ∧ gens.getD j 0 < (t.length : Int) by omega) ?_
          refine And.intro (show 0 ≤ (x : Int) ∧ (x : Int) < ((t.getD (gens.getD j 0).toNat []).length : Int) by omega) ?_
          refine And.intro (show 0 ≤ gens.getD j 0 ∧ gens.getD j 0 < (t.length : Int) by omega) ?_
          refine And.intro (show 0 ≤ (y : Int) ∧ (y : Int) < ((t.getD (gens.getD j 0).toNat []).length : Int) by omega) ?_
          refine And.intro (by simp; omega) ?_
          refine And.intro (fun h5 => ?_) (fun h5 => ?_)
          · have h5 : side ≠ 1 := h5
            refine Or.inl ?_
            refine Exists.intro [false, false, false, false, false, false, false, false, false, false, false, false, false, false, false, false, false, true, true] (And.intro (by decide +kernel) ?_)
            refine And.intro (show 0 ≤ (x : Int) ∧ (x : Int) < (t.length : Int) by omega) ?_
            refine And.intro (show 0 ≤ gens.getD j 0 ∧ gens.getD j 0 < ((t.getD x []).length : Int) by omega) ?_
            refine And.intro (show 0 ≤ (y : Int) ∧ (y : Int) < (t.length : Int) by omega) ?_
            refine And.intro (show 0 ≤ gens.getD j 0 ∧ gens.getD j 0 < ((t.getD y []).length : Int) by omega) ?_
            refine And.intro (by simp; omega) ?_
            refine And.intro (by omega) ?_
            refine nx (j + 1, (B ++ [((t.getD (gens.getD j 0).toNat []).getD x 0, (t.getD (gens.getD j 0).toNat []).getD y 0)]) ++ [((t.getD x []).getD (gens.getD j 0).toNat 0, (t.getD y []).getD (gens.getD j 0).toNat 0)]) ⟨by omega, ?_⟩ (show gens.length - (j + 1) < gens.length - j by omega) (by repeat' first | refine And.intro ?_ ?_ | exact True.intro | (show (_ : Int) = (_ : Int); omega) | omega | exact rfl | (simp only [RO.len]; omega))
            show (B ++ [((t.getD (gens.getD j 0).toNat []).getD x 0, (t.getD (gens.getD j 0).toNat []).getD y 0)]) ++ [((t.getD x []).getD (gens.getD j 0).toNat 0, (t.getD y []).getD (gens.getD j 0).toNat 0)] = _
            rw [hsn, hB, if_pos h4, if_pos h5, e1.1, e2.1, e3.1, e4.1]; simp
          · have h5 : side = 1 := h5
            refine And.intro (by omega) ?_
            refine nx (j + 1, B ++ [((t.getD (gens.getD j 0).toNat []).getD x 0, (t.getD (gens.getD j 0).toNat []).getD y 0)]) ⟨by omega, ?_⟩ (show gens.length - (j + 1) < gens.length - j by omega) (by repeat' first | refine And.intro ?_ ?_ | exact True.intro | (show (_ : Int) = (_ : Int); omega) | omega | exact rfl | (simp only [RO.len]; omega))
            show B ++ [((t.getD (gens.getD j 0).toNat []).getD x 0, (t.getD (gens.getD j 0).toNat []).getD y 0)] = _
            rw [hsn, hB, if_pos h4, if_neg (fun h => h h5), e1.1, e2.1]; simp
        · have h4 : side = 2 := h4
          refine And.intro (fun h5 => ?_) (fun h5 => ?_)
          · have h5 : side ≠ 1 := h5
            refine Or.inl ?_
            refine Exists.intro [false, false, false, false, false, false, false, false, false, false, false, false, false, false, false, false, false, true, true] (And.intro (by decide +kernel) ?_)
            refine And.intro (show 0 ≤ (x : Int) ∧ (x : Int) < (t.length : Int) by omega) ?_
            refine And.intro (show 0 ≤ gens.getD j 0 ∧ gens.getD j 0 < ((t.getD x []).length : Int) by omega) ?_
            refine And.intro (show 0 ≤ (y : Int) ∧ (y : Int) < (t.length : Int) by omega) ?_
            refine And.intro (show 0 ≤ gens.getD j 0 ∧ gens.getD j 0 < ((t.getD y []).length : Int) by omega) ?_
            refine And.intro (by simp; omega) ?_
            refine And.intro (by omega) ?_
            refine nx (j + 1, B ++ [((t.getD x []).getD (gens.getD j 0).toNat 0, (t.getD y []).getD (gens.getD j 0).toNat 0)]) ⟨by omega, ?_⟩ (show gens.length - (j + 1) < gens.length - j by omega) (by repeat' first | refine And.intro ?_ ?_ | exact True.intro | (show (_ : Int) = (_ : Int); omega) | omega | exact rfl | (simp only [RO.len]; omega))
            show B ++ [((t.getD x []).getD (gens.getD j 0).toNat 0, (t.getD y []).getD (gens.getD j 0).toNat 0)] = _
            rw [hsn, hB, if_neg (fun h => h h4), if_pos h5, e3.1, e4.1]; simp
          · have h5 : side = 1 := h5
            omega
      · have h3 : (gens.length : Int) ≤ (j : Int) := h3
        have hjg : gens.take j = gens := List.take_of_length_le (by omega)
        rw [hjg] at hB hpl
        exact nx (k2, jnP r p x y, jnR r x y, B) ⟨by rw [hB]; exact hst, hfo, by rw [hB]; exact inW_app.2 ⟨hVt, puL_in hs hg hx hy⟩, by rw [← hc, Nat.mul_add] at hb; rw [hB, List.length_append, hVl]; omega⟩ (show k2 < k by omega) (by repeat' first | refine And.intro ?_ ?_ | exact True.intro | (show (_ : Int) = (_ : Int); omega) | omega | exact rfl | (simp only [RO.len]; omega))
  · have h1 : (V.length : Int) ≤ (0 : Int) := h1
    have hbt := h.bot (by omega)
    refine And.intro (And.intro (And.intro (by omega) rfl) (And.intro (And.intro (by repeat' first | refine And.intro ?_ ?_ | exact True.intro | (show (_ : Int) = (_ : Int); omega) | omega | exact rfl | (simp only [RO.len]; omega)) (And.intro ?_ trivial)) (And.intro (And.intro (by omega) (congrArg (RO.ints .i64) hbt.1)) trivial))) trivial
    show (cntR t.length r : Int) = (cntR t.length u : Int)
    rw [hbt.2]
theorem cspr_fn (t : List (List Int)) (gens : List Int) (side : Int) (hs : Sh t) (hg : ∀ g ∈ gens, 0 ≤ g ∧ g < (t.length : Int)) (hgl : gens.length ≤ t.length) (p q : List Int) (r u : Nat → Nat) (W : List (Int × Int)) (k : Nat) (hf : Fo t.length p r) (hW : inW t.length W) (hWl : W.length ≤ 1000) (h : Sp t gens side q u k p r W) :
    MF 66 [.ptr 1000 0, .ro (.rows .i64 t), .ro (.ints .i64 gens), .vec 1002, .int .i64 side] ((1002, .vec 0 (.pairs W) []) :: foS p (cntR t.length r)) (.tup []) ((1002, .jnk W.length 2) :: foS q (cntR t.length u)) := mkS 1002 rfl Try.func66 (by decide +kernel) rfl fun _ => cspr_k t gens side hs hg hgl p q r u W k hf hW hWl h
end Go.Proofs.Ytkbhgnbnnbengaa
end
section
/- Package congr: Generated: contract. -/
namespace Go.Proofs.Ytkbhgnbnnbengaa
open Go Go.AM
set_option maxRecDepth 100000
set_option maxHeartbeats 4000000 in
theorem cgnr_k (t : List (List Int)) (l : List (Int × Int)) (side : Int) (hll : l.length ≤ 140737488355328) (hs : Semi t) (hl : inW t.length l) (h0 : 0 ≤ side ∧ side ≤ 2) : fnK TY SP Try.f34 [.ro (.rows .i64 t), .ro (.pairs l), .int .i64 side] (.new (.ints .i64 (genP t side (relP l)))) := by
  have hmost := hs.most
  have n10 : ¬ (1 : Int) = ((0 : Nat) : Int) := by omega
  have n01 : ¬ (0 : Int) = ((0 + 1 : Nat) : Int) := by omega
  refine And.intro (fun h1 => absurd (show side < 0 from h1) (by omega)) (fun _ => ?_)
  refine And.intro (fun h1 => absurd (show 2 < side from h1) (by omega)) (fun _ => ?_)
  refine Exists.intro [] <| lp (X := Nat) (fun i => [(22, .int .i64 i)]) (fun _ => []) (fun i => i ≤ l.length) (fun i => l.length - i) 0 (Nat.zero_le _) (by repeat' first | refine And.intro ?_ ?_ | exact True.intro | (show (_ : Int) = (_ : Int); omega) | omega | exact rfl | (simp only [RO.len]; omega)) ?_
  intro i hi
  refine And.intro (fun h1 => ?_) (fun h1 => ?_)
  · have h1 : (i : Int) < (l.length : Int) := h1
    have hq := hl _ (getD_mem (d := ((0 : Int), (0 : Int))) (l := l) (i := i) (by omega))
    refine And.intro (by omega) ?_
    refine And.intro (by omega) ?_
    refine And.intro (fun _ => ?_) (And.intro (fun h => absurd h n01) trivial)
    refine And.intro (by omega) ?_
    refine And.intro (fun h => absurd h n10) (And.intro (fun _ => ?_) trivial)
    refine And.intro (fun h2 => ?_) (fun _ => ?_)
    · have h2 : min (l.getD i (0, 0)).1 (l.getD i (0, 0)).2 < 0 := h2
      omega
    refine And.intro (by omega) ?_
    refine And.intro (fun _ => ?_) (And.intro (fun h => absurd h n01) trivial)
    refine And.intro (by omega) ?_
    refine And.intro (fun h => absurd h n10) (And.intro (fun _ => ?_) trivial)
    refine And.intro (fun h2 => ?_) (fun _ => ?_)
    · have h2 : (t.length : Int) ≤ max (l.getD i (0, 0)).1 (l.getD i (0, 0)).2 := h2
      omega
    refine And.intro (by omega) ?_
    exact nx (i + 1) (show i + 1 ≤ _ by omega) (show l.length - (i + 1) < l.length - i by omega) (by repeat' first | refine And.intro ?_ ?_ | exact True.intro | (show (_ : Int) = (_ : Int); omega) | omega | exact rfl | (simp only [RO.len]; omega))
  · refine Or.inl (cq (valid_fn t) (And.intro rfl trivial) ?_)
    refine And.intro (fun h2 => absurd (valid_zero.2 hs) h2) (fun _ => ?_)
    refine Or.inr (Or.inl (cm [] [(7, 501), (5, 502)] (cnew_fn t.length (by omega)) ?_))
    refine And.intro (by repeat' first | refine And.intro ?_ ?_ | exact True.intro | (show (_ : Int) = (_ : Int); omega) | omega | exact rfl | (simp only [RO.len]; omega)) ?_
    refine Or.inr (Or.inr (ce (cgens_fn t hs.toSh) (And.intro rfl trivial) ?_))
    intro gens hg
    refine Exists.intro [7777] ?_
    have hst0 := GrI.start t gens side l
    have hcd : ((t.length : Nat) : Int) = ((cntR t.length id : Nat) : Int) := by rw [cnt_id]
    refine And.intro (fun h1 => ?_) (fun h1 => ?_)
    · have h1 : ((0 : Nat) : Int) < (l.length : Int) := h1
      have hil : 0 < l.length := by omega
      have hq := hl _ (getD_mem (d := ((0 : Int), (0 : Int))) (l := l) (i := 0) hil)
      have hq1 : inW t.length [l.getD 0 (0, 0)] := fun z hz => by rw [List.mem_singleton] at hz; subst hz; exact hq
      obtain ⟨q, u, k, hsp⟩ := sp_ex (side := side) hs.toSh hg.1.el _ (disI t.length) id [l.getD 0 (0, 0)] hst0.fo hq1 (Nat.le_refl _)
      have hn := hst0.next hs.toSh hg.1.el hl hil hsp
      have hsq := And.intro hq1 hsp
      refine And.intro (by omega) ?_
      refine Or.inr (Exists.intro (.fst 0 (.br 1 (.br 2 (.br 3 (.br 4 (.br 5 .done .no) .no) .no) .no) (.br 2 (.br 1 (.br 3 (.br 4 (.br 5 .done .no) .no) .no) (.br 3 (.br 1 (.br 4 (.br 5 .done .no) .no) .no) .no)) .no))) (And.intro (by decide +kernel) ?_))
      refine And.intro ?_ (And.intro ?_ trivial)
      · refine And.intro rfl ?_
        refine And.intro ?_ trivial
        refine And.intro ?_ trivial
        refine And.intro ?_ trivial
        refine And.intro (by simp) ?_
        refine And.intro ?_ trivial
        refine Or.inr (Or.inl (cm [50] [(1000, 501), (1001, 502), (1002, 61)] (cspr_fn t gens side hs.toSh hg.1.el hg.2 (disI t.length) q (id) u [l.getD 0 (0, 0)] k hst0.fo hsq.1 (by simp) hsq.2) ?_))
        refine And.intro (by repeat' first | refine And.intro ?_ ?_ | exact True.intro | exact hcd | (show (_ : Int) = (_ : Int); omega) | omega | exact rfl) ?_
        refine And.intro (by omega) ?_
        refine Exists.intro [10013, 10060] <| lp3 (fun (i : Nat) (_ : List Int) (_ : Nat → Nat) => [(53, .int .i64 i), (11, .vec 61)]) (fun _ p r => [(61, .jnk 1 2), (501, .box [.vec 502, .int .i64 (cntR t.length r)]), (502, .vec 0 (.ints .i64 p) [])]) (fun i p r => i ≤ l.length ∧ GrI t gens side l i p r) (fun i _ _ => l.length - i) (0 + 1) q u ⟨by omega, hn⟩ (by repeat' first | refine And.intro ?_ ?_ | exact True.intro | (show (_ : Int) = (_ : Int); omega) | omega | exact rfl | (simp only [RO.len]; omega)) ?_
        rintro i p r ⟨hi, hgi⟩
        refine And.intro (fun h1 => ?_) (fun h1 => ?_)
        · have h1 : (i : Int) < (l.length : Int) := h1
          have hil : i < l.length := by omega
          have hq := hl _ (getD_mem (d := ((0 : Int), (0 : Int))) (l := l) (i := i) hil)
          have hq1 : inW t.length [l.getD i (0, 0)] := fun z hz => by rw [List.mem_singleton] at hz; subst hz; exact hq
          obtain ⟨q2, u2, k2, hsp2⟩ := sp_ex (side := side) hs.toSh hg.1.el _ p r [l.getD i (0, 0)] hgi.fo hq1 (Nat.le_refl _)
          have hn2 := hgi.next hs.toSh hg.1.el hl hil hsp2
          have hsq2 := And.intro hq1 hsp2
          refine And.intro (by omega) ?_
          refine Or.inr (Exists.intro (.fst 0 (.br 1 (.br 2 (.br 3 (.br 4 (.br 5 .done .no) .no) .no) .no) (.br 2 (.br 1 (.br 3 (.br 4 (.br 5 .done .no) .no) .no) (.br 3 (.br 1 (.br 4 (.br 5 .done .no) .no) .no) .no)) .no))) (And.intro (by decide +kernel) ?_))
          refine And.intro ?_ (And.intro ?_ trivial)
          · refine And.intro rfl ?_
            refine And.intro ?_ trivial
            refine And.intro ?_ trivial
            refine And.intro ?_ trivial
            refine And.intro (by simp) ?_
            refine And.intro ?_ trivial
            refine Or.inr (Or.inl (cm [50] [(1000, 501), (1001, 502), (1002, 61)] (cspr_fn t gens side hs.toSh hg.1.el hg.2 (p) q2 (r) u2 [l.getD i (0, 0)] k2 hgi.fo hsq2.1 (by simp) hsq2.2) ?_))
            refine And.intro (by repeat' first | refine And.intro ?_ ?_ | exact True.intro | (show (_ : Int) = (_ : Int); omega) | omega | exact rfl | (simp only [RO.len]; omega)) ?_
            refine And.intro (by omega) ?_
            exact nx (i + 1, q2, u2) ⟨by omega, hn2⟩ (show l.length - (i + 1) < l.length - i by omega) (by repeat' first | refine And.intro ?_ ?_ | exact True.intro | (show (_ : Int) = (_ : Int); omega) | omega | exact rfl | (simp only [RO.len]; omega))
          · refine And.intro ?_ (And.intro ?_ trivial)
            · refine And.intro rfl ?_
              refine And.intro ?_ trivial
              refine And.intro ?_ trivial
              refine And.intro (by simp) ?_
              refine And.intro ?_ trivial
              refine Or.inr (Or.inl (cm [50] [(1000, 501), (1001, 502), (1002, 61)] (cspr_fn t gens side hs.toSh hg.1.el hg.2 (p) q2 (r) u2 [l.getD i (0, 0)] k2 hgi.fo hsq2.1 (by simp) hsq2.2) ?_))
              refine And.intro (by repeat' first | refine And.intro ?_ ?_ | exact True.intro | (show (_ : Int) = (_ : Int); omega) | omega | exact rfl | (simp only [RO.len]; omega)) ?_
              refine And.intro (by omega) ?_
              exact nx (i + 1, q2, u2) ⟨by omega, hn2⟩ (show l.length - (i + 1) < l.length - i by omega) (by repeat' first | refine And.intro ?_ ?_ | exact True.intro | (show (_ : Int) = (_ : Int); omega) | omega | exact rfl | (simp only [RO.len]; omega))
            · refine And.intro ?_ trivial
              refine And.intro rfl ?_
              refine And.intro ?_ trivial
              refine And.intro (by simp) ?_
              refine And.intro ?_ trivial
              refine Or.inr (Or.inl (cm [50] [(1000, 501), (1001, 502), (1002, 61)] (cspr_fn t gens side hs.toSh hg.1.el hg.2 (p) q2 (r) u2 [l.getD i (0, 0)] k2 hgi.fo hsq2.1 (by simp) hsq2.2) ?_))
              refine And.intro (by repeat' first | refine And.intro ?_ ?_ | exact True.intro | (show (_ : Int) = (_ : Int); omega) | omega | exact rfl | (simp only [RO.len]; omega)) ?_
              refine And.intro (by omega) ?_
              exact nx (i + 1, q2, u2) ⟨by omega, hn2⟩ (show l.length - (i + 1) < l.length - i by omega) (by repeat' first | refine And.intro ?_ ?_ | exact True.intro | (show (_ : Int) = (_ : Int); omega) | omega | exact rfl | (simp only [RO.len]; omega))
        · have h1 : (l.length : Int) ≤ (i : Int) := h1
          have hdn := hgi.done hs hg.1 hl (by omega)
          refine Or.inr (Or.inl (cm [] [(1000, 501), (1001, 502), (12, 503)] (cpart_fn t.length (p) (r) (cntR t.length (r)) hgi.fo (by omega)) ?_))
          refine And.intro (by repeat' first | refine And.intro ?_ ?_ | exact True.intro | (show (_ : Int) = (_ : Int); omega) | omega | exact rfl | (simp only [RO.len]; omega)) ?_
          exact And.intro (And.intro (by omega) (congrArg (RO.ints .i64) hdn)) trivial
      · refine And.intro ?_ (And.intro ?_ trivial)
        · refine And.intro rfl ?_
          refine And.intro ?_ trivial
          refine And.intro ?_ trivial
          refine And.intro (by simp) ?_
          refine And.intro ?_ trivial
          refine Or.inr (Or.inl (cm [50] [(1000, 501), (1001, 502), (1002, 61)] (cspr_fn t gens side hs.toSh hg.1.el hg.2 (disI t.length) q (id) u [l.getD 0 (0, 0)] k hst0.fo hsq.1 (by simp) hsq.2) ?_))
          refine And.intro (by repeat' first | refine And.intro ?_ ?_ | exact True.intro | exact hcd | (show (_ : Int) = (_ : Int); omega) | omega | exact rfl) ?_
          refine And.intro (by omega) ?_
          refine Exists.intro [10013, 10060] <| lp3 (fun (i : Nat) (_ : List Int) (_ : Nat → Nat) => [(53, .int .i64 i), (11, .vec 61)]) (fun _ p r => [(61, .jnk 1 2), (501, .box [.vec 502, .int .i64 (cntR t.length r)]), (502, .vec 0 (.ints .i64 p) [])]) (fun i p r => i ≤ l.length ∧ GrI t gens side l i p r) (fun i _ _ => l.length - i) (0 + 1) q u ⟨by omega, hn⟩ (by repeat' first | refine And.intro ?_ ?_ | exact True.intro | (show (_ : Int) = (_ : Int); omega) | omega | exact rfl | (simp only [RO.len]; omega)) ?_
          rintro i p r ⟨hi, hgi⟩
          refine And.intro (fun h1 => ?_) (fun h1 => ?_)
          · have h1 : (i : Int) < (l.length : Int) := h1
            have hil : i < l.length := by omega
            have hq := hl _ (getD_mem (d := ((0 : Int), (0 : Int))) (l := l) (i := i) hil)
            have hq1 : inW t.length [l.getD i (0, 0)] := fun z hz => by rw [List.mem_singleton] at hz; subst hz; exact hq
            obtain ⟨q2, u2, k2, hsp2⟩ := sp_ex (side := side) hs.toSh hg.1.el _ p r [l.getD i (0, 0)] hgi.fo hq1 (Nat.le_refl _)
            have hn2 := hgi.next hs.toSh hg.1.el hl hil hsp2
            have hsq2 := And.intro hq1 hsp2
            refine And.intro (by omega) ?_
            refine Or.inr (Exists.intro (.fst 0 (.br 1 (.br 2 (.br 3 (.br 4 (.br 5 .done .no) .no) .no) .no) (.br 2 (.br 1 (.br 3 (.br 4 (.br 5 .done .no) .no) .no) (.br 3 (.br 1 (.br 4 (.br 5 .done .no) .no) .no) .no)) .no))) (And.intro (by decide +kernel) ?_))
            refine And.intro ?_ (And.intro ?_ trivial)
            · refine And.intro rfl ?_
              refine And.intro ?_ trivial
              refine And.intro ?_ trivial
              refine And.intro ?_ trivial
              refine And.intro (by simp) ?_
              refine And.intro ?_ trivial
              refine Or.inr (Or.inl (cm [50] [(1000, 501), (1001, 502), (1002, 61)] (cspr_fn t gens side hs.toSh hg.1.el hg.2 (p) q2 (r) u2 [l.getD i (0, 0)] k2 hgi.fo hsq2.1 (by simp) hsq2.2) ?_))
              refine And.intro (by repeat' first | refine And.intro ?_ ?_ | exact True.intro | (show (_ : Int) = (_ : Int); omega) | omega | exact rfl | (simp only [RO.len]; omega)) ?_
              refine And.intro (by omega) ?_
              exact nx (i + 1, q2, u2) ⟨by omega, hn2⟩ (show l.length - (i + 1) < l.length - i by omega) (by repeat' first | refine And.intro ?_ ?_ | exact True.intro | (show (_ : Int) = (_ : Int); omega) | omega | exact rfl | (simp only [RO.len]; omega))
            · refine And.intro ?_ (And.intro ?_ trivial)
              · refine And.intro rfl ?_
                refine And.intro ?_ trivial
                refine And.intro ?_ trivial
                refine And.intro (by simp) ?_
                refine And.intro ?_ trivial
                refine Or.inr (Or.inl (cm [50] [(1000, 501), (1001, 502), (1002, 61)] (cspr_fn t gens side hs.toSh hg.1.el hg.2 (p) q2 (r) u2 [l.getD i (0, 0)] k2 hgi.fo hsq2.1 (by simp) hsq2.2) ?_))
                refine And.intro (by repeat' first | refine And.intro ?_ ?_ | exact True.intro | (show (_ : Int) = (_ : Int); omega) | omega | exact rfl | (simp only [RO.len]; omega)) ?_
                refine And.intro (by omega) ?_
                exact nx (i + 1, q2, u2) ⟨by omega, hn2⟩ (show l.length - (i + 1) < l.length - i by omega) (by repeat' first | refine And.intro ?_ ?_ | exact True.intro | (show (_ : Int) = (_ : Int); omega) | omega | exact rfl | (simp only [RO.len]; omega))
              · refine And.intro ?_ trivial
                refine And.intro rfl ?_
                refine And.intro ?_ trivial
                refine And.intro (by simp) ?_
                refine And.intro ?_ trivial
                refine Or.inr (Or.inl (cm [50] [(1000, 501), (1001, 502), (1002, 61)] (cspr_fn t gens side hs.toSh hg.1.el hg.2 (p) q2 (r) u2 [l.getD i (0, 0)] k2 hgi.fo hsq2.1 (by simp) hsq2.2) ?_))
                refine And.intro (by repeat' first | refine And.intro ?_ ?_ | exact True.intro | (show (_ : Int) = (_ : Int); omega) | omega | exact rfl | (simp only [RO.len]; omega)) ?_
                refine And.intro (by omega) ?_
                exact nx (i + 1, q2, u2) ⟨by omega, hn2⟩ (show l.length - (i + 1) < l.length - i by omega) (by repeat' first | refine And.intro ?_ ?_ | exact True.intro | (show (_ : Int) = (_ : Int); omega) | omega | exact rfl | (simp only [RO.len]; omega))
          · have h1 : (l.length : Int) ≤ (i : Int) := h1
            have hdn := hgi.done hs hg.1 hl (by omega)
            refine Or.inr (Or.inl (cm [] [(1000, 501), (1001, 502), (12, 503)] (cpart_fn t.length (p) (r) (cntR t.length (r)) hgi.fo (by omega)) ?_))
            refine And.intro (by repeat' first | refine And.intro ?_ ?_ | exact True.intro | (show (_ : Int) = (_ : Int); omega) | omega | exact rfl | (simp only [RO.len]; omega)) ?_
            exact And.intro (And.intro (by omega) (congrArg (RO.ints .i64) hdn)) trivial
        · refine And.intro ?_ trivial
          refine And.intro rfl ?_
          refine And.intro ?_ trivial
          refine And.intro (by simp) ?_
          refine And.intro ?_ trivial
          refine Or.inr (Or.inl (cm [50] [(1000, 501), (1001, 502), (1002, 61)] (cspr_fn t gens side hs.toSh hg.1.el hg.2 (disI t.length) q (id) u [l.getD 0 (0, 0)] k hst0.fo hsq.1 (by simp) hsq.2) ?_))
          refine And.intro (by repeat' first | refine And.intro ?_ ?_ | exact True.intro | exact hcd | (show (_ : Int) = (_ : Int); omega) | omega | exact rfl) ?_
          refine And.intro (by omega) ?_
          refine Exists.intro [10013, 10060] <| lp3 (fun (i : Nat) (_ : List Int) (_ : Nat → Nat) => [(53, .int .i64 i), (11, .vec 61)]) (fun _ p r => [(61, .jnk 1 2), (501, .box [.vec 502, .int .i64 (cntR t.length r)]), (502, .vec 0 (.ints .i64 p) [])]) (fun i p r => i ≤ l.length ∧ GrI t gens side l i p r) (fun i _ _ => l.length - i) (0 + 1) q u ⟨by omega, hn⟩ (by repeat' first | refine And.intro ?_ ?_ | exact True.intro | (show (_ : Int) = (_ : Int); omega) | omega | exact rfl | (simp only [RO.len]; omega)) ?_
          rintro i p r ⟨hi, hgi⟩
          refine And.intro (fun h1 => ?_) (fun h1 => ?_)
          · have h1 : (i : Int) < (l.length : Int) := h1
            have hil : i < l.length := by omega
            have hq := hl _ (getD_mem (d := ((0 : Int), (0 : Int))) (l := l) (i := i) hil)
            have hq1 : inW t.length [l.getD i (0, 0)] := fun z hz => by rw [List.mem_singleton] at hz; subst hz; exact hq
            obtain ⟨q2, u2, k2, hsp2⟩ := sp_ex (side := side) hs.toSh hg.1.el _ p r [l.getD i (0, 0)] hgi.fo hq1 (Nat.le_refl _)
            have hn2 := hgi.next hs.toSh hg.1.el hl hil hsp2
            have hsq2 := And.intro hq1 hsp2
            refine And.intro (by omega) ?_
            refine Or.inr (Exists.intro (.fst 0 (.br 1 (.br 2 (.br 3 (.br 4 (.br 5 .done .no) .no) .no) .no) (.br 2 (.br 1 (.br 3 (.br 4 (.br 5 .done .no) .no) .no) (.br 3 (.br 1 (.br 4 (.br 5 .done .no) .no) .no) .no)) .no))) (And.intro (by decide +kernel) ?_))
            refine And.intro ?_ (And.intro ?_ trivial)
            · refine And.intro rfl ?_
              refine And.intro ?_ trivial
              refine And.intro ?_ trivial
              refine And.intro ?_ trivial
              refine And.intro (by simp) ?_
              refine And.intro ?_ trivial
              refine Or.inr (Or.inl (cm [50] [(1000, 501), (1001, 502), (1002, 61)] (cspr_fn t gens side hs.toSh hg.1.el hg.2 (p) q2 (r) u2 [l.getD i (0, 0)] k2 hgi.fo hsq2.1 (by simp) hsq2.2) ?_))
              refine And.intro (by repeat' first | refine And.intro ?_ ?_ | exact True.intro | (show (_ : Int) = (_ : Int); omega) | omega | exact rfl | (simp only [RO.len]; omega)) ?_
              refine And.intro (by omega) ?_
              exact nx (i + 1, q2, u2) ⟨by omega, hn2⟩ (show l.length - (i + 1) < l.length - i by omega) (by repeat' first | refine And.intro ?_ ?_ | exact True.intro | (show (_ : Int) = (_ : Int); omega) | omega | exact rfl | (simp only [RO.len]; omega))
            · refine And.intro ?_ (And.intro ?_ trivial)
              · refine And.intro rfl ?_
                refine And.intro ?_ trivial
                refine And.intro ?_ trivial
                refine And.intro (by simp) ?_
                refine And.intro ?_ trivial
                refine Or.inr (Or.inl (cm [50] [(1000, 501), (1001, 502), (1002, 61)] (cspr_fn t gens side hs.toSh hg.1.el hg.2 (p) q2 (r) u2 [l.getD i (0, 0)] k2 hgi.fo hsq2.1 (by simp) hsq2.2) ?_))
                refine And.intro (by repeat' first | refine And.intro ?_ ?_ | exact True.intro | (show (_ : Int) = (_ : Int); omega) | omega | exact rfl | (simp only [RO.len]; omega)) ?_
                refine And.intro (by omega) ?_
                exact nx (i + 1, q2, u2) ⟨by omega, hn2⟩ (show l.length - (i + 1) < l.length - i by omega) (by repeat' first | refine And.intro ?_ ?_ | exact True.intro | (show (_ : Int) = (_ : Int); omega) | omega | exact rfl | (simp only [RO.len]; omega))
              · refine And.intro ?_ trivial
                refine And.intro rfl ?_
                refine And.intro ?_ trivial
                refine And.intro (by simp) ?_
                refine And.intro ?_ trivial
                refine Or.inr (Or.inl (cm [50] [(1000, 501), (1001, 502), (1002, 61)] (cspr_fn t gens side hs.toSh hg.1.el hg.2 (p) q2 (r) u2 [l.getD i (0, 0)] k2 hgi.fo hsq2.1 (by simp) hsq2.2) ?_))
                refine And.intro (by repeat' first | refine And.intro ?_ ?_ | exact True.intro | (show (_ : Int) = (_ : Int); omega) | omega | exact rfl | (simp only [RO.len]; omega)) ?_
                refine And.intro (by omega) ?_
                exact nx (i + 1, q2, u2) ⟨by omega, hn2⟩ (show l.length - (i + 1) < l.length - i by omega) (by repeat' first | refine And.intro ?_ ?_ | exact True.intro | (show (_ : Int) = (_ : Int); omega) | omega | exact rfl | (simp only [RO.len]; omega))
          · have h1 : (l.length : Int) ≤ (i : Int) := h1
            have hdn := hgi.done hs hg.1 hl (by omega)
            refine Or.inr (Or.inl (cm [] [(1000, 501), (1001, 502), (12, 503)] (cpart_fn t.length (p) (r) (cntR t.length (r)) hgi.fo (by omega)) ?_))
            refine And.intro (by repeat' first | refine And.intro ?_ ?_ | exact True.intro | (show (_ : Int) = (_ : Int); omega) | omega | exact rfl | (simp only [RO.len]; omega)) ?_
            exact And.intro (And.intro (by omega) (congrArg (RO.ints .i64) hdn)) trivial
    · have h1 : (l.length : Int) ≤ ((0 : Nat) : Int) := h1
      have hdn := hst0.done hs hg.1 hl (by omega)
      refine Or.inr (Or.inl (cm [] [(1000, 501), (1001, 502), (12, 503)] (cpart_fn t.length (disI t.length) (id) (cntR t.length (id)) hst0.fo (by omega)) ?_))
      refine And.intro (by repeat' first | refine And.intro ?_ ?_ | exact True.intro | (show (_ : Int) = (_ : Int); omega) | omega | exact rfl | (simp only [RO.len]; omega)) ?_
      exact And.intro (And.intro (by omega) (congrArg (RO.ints .i64) hdn)) trivial
theorem cgnr_fn (t : List (List Int)) (l : List (Int × Int)) (side : Int) (hs : Semi t) (hl : inW t.length l) (h0 : 0 ≤ side ∧ side ≤ 2) : QF 34 [.ro (.rows .i64 t), .ro (.pairs l), .int .i64 side] (.new (.ints .i64 (genP t side (relP l)))) := mkQ Try.func34 (by decide +kernel) rfl (Nat.le_of_ble_eq_true rfl) fun hf => cgnr_k t l side hf.2.1.1 hs hl h0
end Go.Proofs.Ytkbhgnbnnbengaa
end
section
/- The statement SubdirectPrime: the walk. -/
namespace Go.Proofs.Ytkbhgnbnnbengaa
open Go Go.AM
set_option maxRecDepth 100000
theorem pair_in {n : Nat} {x y : Int} (hx : 0 ≤ x ∧ x < (n : Int)) (hy : 0 ≤ y ∧ y < (n : Int)) : inW n [(x, y)] := fun q hq => by rw [List.mem_singleton] at hq; subst hq; exact ⟨hx, hy⟩
theorem gen_joins {t : List (List Int)} {x y : Int} (hx : 0 ≤ x ∧ x < (t.length : Int)) (hy : 0 ≤ y ∧ y < (t.length : Int)) (hne : x ≠ y) : Joins t.length (genP t 0 (relP [(x, y)])) :=
  ⟨x.toNat, y.toNat, by omega, by omega, by omega, (genP_iff (by omega) (by omega)).2 (.rel (List.mem_singleton.2 (by rw [Int.toNat_of_nonneg hx.1, Int.toNat_of_nonneg hy.1])))⟩
theorem irr_below {t p : List (List Int)} {q : List Int} (_ : p = t) (h : Irr t) (hM : MinsOk t) (hq : IsCg t q 0) (hj : Joins t.length q) : Sub t.length ((minsL t).getD 0 []) q := by
  obtain ⟨m, hm, hs⟩ := hM.bel q hq hj
  obtain ⟨i, hi, rfl⟩ := mem_getD [] hm
  have : i = 0 := by have := h.2; omega
  subst this; exact hs
set_option maxHeartbeats 1000000 in
theorem sdPrm_fn (t : List (List Int)) (a0 a1 b0 b1 : Int) : QF 9 [.ro (.rows .i64 t), .agg [.int .i64 a0, .int .i64 a1], .agg [.int .i64 b0, .int .i64 b1]] (.bool (.lit true)) := mkQ Try.func9 (by decide +kernel) rfl (Nat.le_of_ble_eq_true rfl) fun _ => by
  refine Or.inl (cq (small22_fn t 8) (And.intro rfl (And.intro rfl trivial)) ?_)
  refine And.intro (fun _ => ?_) (fun h1 => ?_)
  · refine Or.inl (cq awake22_fn trivial ?_)
    exact And.intro rfl trivial
  have h1 : (!decide ((t.length : Int) ≤ 8 ∧ validV t = 0)) = false := h1
  have h1 : (t.length : Int) ≤ 8 ∧ validV t = 0 := by simpa using h1
  have hs := valid_zero.1 h1.2
  have hn := h1.1
  refine And.intro (by omega) (And.intro (fun _ => ?_) (And.intro (fun h9 => absurd (show (0 : Int) = 1 from h9) (by decide)) trivial))
  refine And.intro (by omega) (And.intro (fun h9 => absurd (show (1 : Int) = 0 from h9) (by decide)) (And.intro (fun _ => ?_) trivial))
  refine And.intro (by omega) (And.intro (fun _ => ?_) (And.intro (fun h9 => absurd (show (0 : Int) = 1 from h9) (by decide)) trivial))
  refine And.intro (by omega) (And.intro (fun h9 => absurd (show (1 : Int) = 0 from h9) (by decide)) (And.intro (fun _ => ?_) trivial))
  refine Or.inl (cq (rin_fn t [a0, a1, b0, b1]) (And.intro rfl (And.intro rfl trivial)) ?_)
  refine And.intro (fun _ => ?_) (fun h2 => ?_)
  · refine Or.inl (cq awake22_fn trivial ?_)
    exact And.intro rfl trivial
  have h2 : (!decide (∀ z ∈ [a0, a1, b0, b1], 0 ≤ z ∧ z < (t.length : Int))) = false := h2
  have h2 : ∀ z ∈ [a0, a1, b0, b1], 0 ≤ z ∧ z < (t.length : Int) := of_decide_eq_true (by simpa using h2)
  have ha0 := h2 a0 (by simp)
  have ha1 := h2 a1 (by simp)
  have hb0 := h2 b0 (by simp)
  have hb1 := h2 b1 (by simp)
  refine And.intro (by omega) (And.intro (fun _ => ?_) (And.intro (fun h9 => absurd (show (0 : Int) = 1 from h9) (by decide)) trivial))
  refine And.intro (by omega) (And.intro (fun h9 => absurd (show (1 : Int) = 0 from h9) (by decide)) (And.intro (fun _ => ?_) trivial))
  refine And.intro (fun _ => ?_) (fun h3 => ?_)
  · refine Or.inl (cq awake22_fn trivial ?_)
    exact And.intro rfl trivial
  have h3 : ¬ a0 = a1 := h3
  refine And.intro (by omega) (And.intro (fun _ => ?_) (And.intro (fun h9 => absurd (show (0 : Int) = 1 from h9) (by decide)) trivial))
  refine And.intro (by omega) (And.intro (fun h9 => absurd (show (1 : Int) = 0 from h9) (by decide)) (And.intro (fun _ => ?_) trivial))
  refine And.intro (fun _ => ?_) (fun h4 => ?_)
  · refine Or.inl (cq awake22_fn trivial ?_)
    exact And.intro rfl trivial
  have h4 : ¬ b0 = b1 := h4
  have hpP := genP_is (R := relP [(a0, a1)]) hs (side := 0) (by decide)
  have hqP := genP_is (R := relP [(b0, b1)]) hs (side := 0) (by decide)
  have hpl := hpP.len
  have hqlen := hqP.len
  have h2n : 2 ≤ t.length := by omega
  have h64 : t.length * t.length ≤ 64 := Nat.mul_le_mul (show t.length ≤ 8 by omega) (show t.length ≤ 8 by omega)
  have hja := gen_joins ha0 ha1 h3
  have hjb := gen_joins hb0 hb1 h4
  have hin1 := pair_in ha0 ha1
  have hin2 := pair_in hb0 hb1
  have hcp := pcount_fn (mtP (genP t 0 (relP [(a0, a1)])) (genP t 0 (relP [(b0, b1)])))
  have hPt := hpP.pt.mt hqP.pt
  rw [if_pos hPt.2] at hcp
  by_cases hI : Irr t
  · refine Or.inl (cq (sirr1_fn t hI (by omega)) (And.intro rfl trivial) ?_)
    refine Or.inr (Or.inr (ce (cminE_fn t hs h2n (by omega)) (And.intro rfl trivial) ?_))
    intro _ hM
    have hM : MinsOk t := hM
    have hl1 := hI.2
    have hmm := (hM.mem _).1 (getD_mem (d := []) (l := minsL t) (i := 0) (by omega))
    refine Or.inl ?_
    refine Exists.intro (List.replicate 10 false) (And.intro (by decide +kernel) ?_)
    refine Exists.intro _ (Exists.intro _ (And.intro (cgnr_fn t [(a0, a1)] 0 hs hin1 (by omega)) (And.intro (And.intro rfl (And.intro rfl (And.intro rfl trivial))) ?_)))
    refine Exists.intro _ (Exists.intro _ (And.intro (cgnr_fn t [(b0, b1)] 0 hs hin2 (by omega)) (And.intro (And.intro rfl (And.intro rfl (And.intro rfl trivial))) ?_)))
    refine And.intro (fun h => ?_) (fun _ => ?_)
    · have h : ¬ ((genP t 0 (relP [(a0, a1)])).length : Int) = (t.length : Int) := h
      omega
    refine And.intro (fun h => ?_) (fun _ => ?_)
    · have h : ¬ ((genP t 0 (relP [(b0, b1)])).length : Int) = (t.length : Int) := h
      omega
    refine And.intro (fun h => ?_) (fun _ => ?_)
    · have h : (!(true == decide (((minsL t).length : Int) = 1))) = true := h
      rw [decide_eq_true (by omega)] at h; exact absurd h (by decide)
    refine And.intro (show 0 ≤ (0 : Int) ∧ (0 : Int) < ((minsL t).length : Int) by omega) ?_
    refine Or.inl (cq (same_fn ((minsL t).getD 0 []) ((minsL t).getD 0 [])) (And.intro rfl (And.intro rfl trivial)) ?_)
    have hsA := irr_below rfl hI hM hpP hja
    have hsB := irr_below rfl hI hM hqP hjb
    have hrA : rfB ((minsL t).getD 0 []) (genP t 0 (relP [(a0, a1)])) = true := (rf_sub2 hmm.cg.len).2 hsA
    have hrB : rfB ((minsL t).getD 0 []) (genP t 0 (relP [(b0, b1)])) = true := (rf_sub2 hmm.cg.len).2 hsB
    refine And.intro (fun _ => ?_) (fun h => absurd h (by show ¬ decide _ = false; rw [decide_eq_true rfl]; decide))
    refine Or.inl (cq (prefn_fn ((minsL t).getD 0 []) (genP t 0 (relP [(a0, a1)])) hmm.cg.val hpP.val (by rw [hmm.cg.len, hpl])) (And.intro rfl (And.intro rfl trivial)) ?_)
    refine And.intro (fun _ => ?_) (fun h => absurd (h.symm.trans hrA) (by decide))
    refine Or.inl (cq (prefn_fn ((minsL t).getD 0 []) (genP t 0 (relP [(b0, b1)])) hmm.cg.val hqP.val (by rw [hmm.cg.len, hqlen])) (And.intro rfl (And.intro rfl trivial)) ?_)
    refine And.intro (fun _ => ?_) (fun h => absurd (h.symm.trans hrB) (by decide))
    refine Or.inl (cq (pmt_fn hpP.pt hqP.pt) (And.intro rfl (And.intro rfl trivial)) ?_)
    refine Or.inl (cq hcp (And.intro rfl trivial) ?_)
    have hlt : classN (mtP (genP t 0 (relP [(a0, a1)])) (genP t 0 (relP [(b0, b1)]))) < t.length := by
      have hle : classN (mtP (genP t 0 (relP [(a0, a1)])) (genP t 0 (relP [(b0, b1)]))) ≤ t.length := by rw [← hPt.1]; exact firsts_le _
      refine Nat.lt_of_le_of_ne hle fun e => ?_
      obtain ⟨u, v, hu, hv, hne, huv⟩ := hmm.jo
      exact hne ((cls_disc hPt).1 e u v hu hv ((mtP_ker hpP.pt hqP.pt hu hv).2 ⟨hsA u v hu hv huv, hsB u v hu hv huv⟩))
    refine And.intro (fun _ => ?_) (fun h => ?_)
    · refine Or.inl (cq awake22_fn trivial ?_)
      exact And.intro rfl trivial
    · have h : (t.length : Int) ≤ ((classN (mtP (genP t 0 (relP [(a0, a1)])) (genP t 0 (relP [(b0, b1)]))) : Nat) : Int) := h
      omega
  · have hl1 : ¬ (minsL t).length = 1 := fun h => hI ⟨hs, h⟩
    refine Or.inl (cq (sirr0_fn t hI (fun _ => by omega)) (And.intro rfl trivial) ?_)
    refine Or.inr (Or.inr (ce (cminE_fn t hs h2n (by omega)) (And.intro rfl trivial) ?_))
    intro _ hM
    refine Or.inl ?_
    refine Exists.intro (List.replicate 10 false) (And.intro (by decide +kernel) ?_)
    refine Exists.intro _ (Exists.intro _ (And.intro (cgnr_fn t [(a0, a1)] 0 hs hin1 (by omega)) (And.intro (And.intro rfl (And.intro rfl (And.intro rfl trivial))) ?_)))
    refine Exists.intro _ (Exists.intro _ (And.intro (cgnr_fn t [(b0, b1)] 0 hs hin2 (by omega)) (And.intro (And.intro rfl (And.intro rfl (And.intro rfl trivial))) ?_)))
    refine And.intro (fun h => ?_) (fun _ => ?_)
    · have h : ¬ ((genP t 0 (relP [(a0, a1)])).length : Int) = (t.length : Int) := h
      omega
    refine And.intro (fun h => ?_) (fun _ => ?_)
    · have h : ¬ ((genP t 0 (relP [(b0, b1)])).length : Int) = (t.length : Int) := h
      omega
    refine And.intro (fun h => ?_) (fun _ => ?_)
    · have h : (!(false == decide (((minsL t).length : Int) = 1))) = true := h
      rw [decide_eq_false (by omega)] at h; exact absurd h (by decide)
    refine And.intro (fun _ => ?_) (fun h => absurd rfl h)
    refine Or.inl (cq awake22_fn trivial ?_)
    exact And.intro rfl trivial
end Go.Proofs.Ytkbhgnbnnbengaa
end
