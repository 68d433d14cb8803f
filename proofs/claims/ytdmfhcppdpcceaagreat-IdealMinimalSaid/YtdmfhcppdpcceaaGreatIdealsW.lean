/- ideal.Ideals: the walk. -/
import Derived.Test.YtdmfhcppdpcceaaGreatIdeals
import Derived.Test.YtdmfhcppdpcceaaGreatSort
namespace Go.Proofs.YtdmfhcppdpcceaaGreat
open Go Go.AM
set_option maxRecDepth 100000

theorem map_mk {n : Nat} {F : List (List Int)} {i : Nat} (hi : i < F.length) : (F.map (mkI n)).getD (i : Int).toNat [] = mkI n (F.getD i []) := by
  rw [Int.toNat_natCast, getD_eq (by simpa using hi), getD_eq hi, List.getElem_map]
theorem seen_take {n : Nat} {F : List (List Int)} {k : Nat} (hF : ∀ s ∈ F, ascV n (setI s) = s) (hn : F.Nodup) (hk : k < F.length) : setM (seenM n (F.take k)) (mkI n (F.getD k [])) 1 = seenM n (F.take (k + 1)) := by
  rw [take_snoc (d := []) hk]
  refine seen_set (fun s hs => hF s (List.mem_of_mem_take hs)) (hF _ (getD_mem hk)) fun hm => ?_
  obtain ⟨j, hj, e⟩ := mem_getD [] hm
  rw [List.length_take] at hj
  have e2 : (F.take k).getD j [] = F.getD j [] := by simp [List.getD, show j < k by omega]
  rw [e2] at e
  have := (List.pairwise_iff_getElem.1 hn) j k (by omega) hk (by omega)
  rw [getD_eq (by omega), getD_eq hk] at e
  exact this e

set_option maxHeartbeats 2000000 in
theorem ideals_k (t : List (List Int)) (h : Semi t) (hn : t.length ≤ 9) : fnK TY SP Tryz.f17 [.ro (.rows .i64 t)] (.tup [.new (.rows .i64 (idsL t)), .int .i64 0]) := by
  have hbl := baseTo_len t t.length
  have hbself := baseTo_self h (Nat.le_refl t.length)
  have hbnd : (baseTo t t.length).Nodup := firsts_nodup _
  refine Or.inl (cq (valid_fn t) (And.intro rfl trivial) ?_)
  refine And.intro (fun h1 => absurd (valid_zero.2 h) h1) (fun _ => ?_)
  refine Or.inl (cq (principals_fn t h hn) (And.intro rfl trivial) ?_)
  refine Or.inl (cq (cloneM_fn ((baseTo t t.length).map (mkI t.length)) (by rw [List.length_map]; omega)) (And.intro rfl trivial) ?_)
  refine Exists.intro [] <| lp (X := Nat) (fun k => [(29, .int .i64 k)]) (fun k => [(26, .map (.arr 7 .u64) none (seenM t.length ((baseTo t t.length).take k)))]) (fun k => k ≤ (baseTo t t.length).length) (fun k => (baseTo t t.length).length - k) 0 (Nat.zero_le _) (by repeat' first | refine And.intro ?_ ?_ | exact True.intro | (show (_ : Int) = (_ : Int); omega) | omega | exact rfl | (simp only [RO.len]; omega)) ?_
  intro k hk
  refine And.intro (fun h1 => ?_) (fun h1 => ?_)
  · have h1 : (k : Int) < (((baseTo t t.length).map (mkI t.length)).length : Int) := h1
    rw [List.length_map] at h1
    have hkl : k < (baseTo t t.length).length := by omega
    have e := map_mk (n := t.length) hkl
    have hs := seen_take hbself hbnd hkl
    refine And.intro (show 0 ≤ (k : Int) ∧ (k : Int) < (((baseTo t t.length).map (mkI t.length)).length : Int) by rw [List.length_map]; omega) ?_
    refine And.intro (by omega) ?_
    have hs' : setM (seenM t.length ((baseTo t t.length).take k)) [(((baseTo t t.length).map (mkI t.length)).getD (k : Int).toNat []).getD 0 0, (((baseTo t t.length).map (mkI t.length)).getD (k : Int).toNat []).getD 1 0, (((baseTo t t.length).map (mkI t.length)).getD (k : Int).toNat []).getD 2 0, (((baseTo t t.length).map (mkI t.length)).getD (k : Int).toNat []).getD 3 0, (((baseTo t t.length).map (mkI t.length)).getD (k : Int).toNat []).getD 4 0, (((baseTo t t.length).map (mkI t.length)).getD (k : Int).toNat []).getD 5 0, (((baseTo t t.length).map (mkI t.length)).getD (k : Int).toNat []).getD 6 0] 1 = seenM t.length ((baseTo t t.length).take (k + 1)) := by
      rw [e]; exact hs
    refine nx (k + 1) (by omega) (show (baseTo t t.length).length - (k + 1) < (baseTo t t.length).length - k by omega) ?_
    repeat' first | refine And.intro ?_ ?_ | exact True.intro | exact hs' | (show (_ : Int) = (_ : Int); omega) | omega | exact rfl
  · have h1 : (((baseTo t t.length).map (mkI t.length)).length : Int) ≤ (k : Int) := h1
    rw [List.length_map] at h1
    have htk : (baseTo t t.length).take k = baseTo t t.length := List.take_of_length_le (by omega)
    have hs0 : seenM t.length ((baseTo t t.length).take k) = seenM t.length (baseTo t t.length) := by rw [htk]
    refine Exists.intro [25] <| lp2 (fun (i : Nat) (F : List (List Int)) => [(10, .int .i64 i), (6, .vec 25)]) (fun i F => [(26, .map (.arr 7 .u64) none (seenM t.length F)), (25, .vec 0 (.arrs 5 .u64 (F.map (mkI t.length))) [])]) (fun i F => GenInv t F i 0) (fun i _ => 600 - i) 0 (baseTo t t.length) (.start h) (by repeat' first | refine And.intro ?_ ?_ | exact True.intro | exact hs0 | (show (_ : Int) = (_ : Int); omega) | omega | exact rfl) ?_
    intro i F H
    have hF := H.len hn
    have hile := H.ile
    refine And.intro (fun h2 => ?_) (fun h2 => ?_)
    · have h2 : (i : Int) < ((F.map (mkI t.length)).length : Int) := h2
      rw [List.length_map] at h2
      refine Exists.intro [25, 37] <| lp2 (fun (k : Nat) (F : List (List Int)) => [(44, .int .i64 k), (6, .vec 25)]) (fun k F => [(26, .map (.arr 7 .u64) none (seenM t.length F)), (25, .vec 0 (.arrs 5 .u64 (F.map (mkI t.length))) [])]) (fun k F => GenInv t F i k ∧ i < F.length) (fun k _ => (baseTo t t.length).length - k) 0 F ⟨H, by omega⟩ (by repeat' first | refine And.intro ?_ ?_ | exact True.intro | (show (_ : Int) = (_ : Int); omega) | omega | exact rfl | (simp only [RO.len]; omega)) ?_
      rintro k F ⟨H, hi⟩
      have hF := H.len hn
      have hkle := H.kle
      have hself := H.self
      refine And.intro (fun h3 => ?_) (fun h3 => ?_)
      · have h3 : (k : Int) < (((baseTo t t.length).map (mkI t.length)).length : Int) := h3
        rw [List.length_map] at h3
        have hkl : k < (baseTo t t.length).length := by omega
        have harg1 : leT [] [] (.agg (aggL 7 .u64 ((F.map (mkI t.length)).getD (i : Int).toNat []) 0)) (mkA (wd (setI (F.getD i [])) t.length : Nat)) := mk_args (map_mk hi)
        have harg2 : leT [] [] (.agg (aggL 7 .u64 (((baseTo t t.length).map (mkI t.length)).getD (k : Int).toNat []) 0)) (mkA (wd (setI ((baseTo t t.length).getD k [])) t.length : Nat)) := mk_args (map_mk hkl)
        have hun := H.un h hi hkl
        have hg := seen_get hself hun.self
        rw [mkI_un] at hg
        refine And.intro (show 0 ≤ (k : Int) ∧ (k : Int) < (((baseTo t t.length).map (mkI t.length)).length : Int) by rw [List.length_map]; omega) ?_
        refine Or.inl <| Exists.intro [false, false, false, false, false, false, false, true] (And.intro (by decide +kernel) ?_)
        refine And.intro (show 0 ≤ (i : Int) ∧ (i : Int) < ((F.map (mkI t.length)).length : Int) by rw [List.length_map]; omega) ?_
        refine cq (union_fn t.length hn (setI (F.getD i [])) (setI ((baseTo t t.length).getD k []))) (And.intro harg1 (And.intro harg2 trivial)) ?_
        refine And.intro (fun h4 => ?_) (fun h4 => ?_)
        · have hno : unL t.length (F.getD i []) ((baseTo t t.length).getD k []) ∉ F := fun hm => by
            have h4 : (getM (seenM t.length F) [((wd (fun x => setI (F.getD i []) x || setI ((baseTo t t.length).getD k []) x) t.length : Nat) : Int), 0, 0, 0, 0, 0, 0]).getD 0 = 0 := h4
            rw [hg, if_pos hm] at h4; cases h4
          have H2 := H.new h hi hkl hno
          have hF2 := H2.len hn
          have hs := seen_set hself hun.self hno
          rw [mkI_un] at hs
          have hm : F.map (mkI t.length) ++ [[((wd (fun x => setI (F.getD i []) x || setI ((baseTo t t.length).getD k []) x) t.length : Nat) : Int), 0, 0, 0, 0, 0, 0]] = (F ++ [unL t.length (F.getD i []) ((baseTo t t.length).getD k [])]).map (mkI t.length) := by rw [List.map_append, ← mkI_un]; rfl
          have hml := congrArg List.length hm
          rw [List.length_map] at hml
          refine And.intro (by omega) ?_
          refine And.intro (fun h5 => ?_) (fun h5 => ?_)
          · exfalso
            have h5 : (2000 : Int) < ((F.map (mkI t.length) ++ [[((wd (fun x => setI (F.getD i []) x || setI ((baseTo t t.length).getD k []) x) t.length : Nat) : Int), 0, 0, 0, 0, 0, 0]]).length : Int) := h5
            omega
          · refine And.intro (by omega) ?_
            refine nx (k + 1, F ++ [unL t.length (F.getD i []) ((baseTo t t.length).getD k [])]) ⟨H2, by simp; omega⟩ (show (baseTo t t.length).length - (k + 1) < (baseTo t t.length).length - k by omega) ?_
            repeat' first | refine And.intro ?_ ?_ | exact True.intro | exact hs | exact congrArg (RO.arrs 5 .u64) hm | (show (_ : Int) = (_ : Int); omega) | omega | exact rfl
        · have hyes : unL t.length (F.getD i []) ((baseTo t t.length).getD k []) ∈ F := Classical.byContradiction fun hm => by
            have h4 : (getM (seenM t.length F) [((wd (fun x => setI (F.getD i []) x || setI ((baseTo t t.length).getD k []) x) t.length : Nat) : Int), 0, 0, 0, 0, 0, 0]).getD 0 ≠ 0 := h4
            rw [hg, if_neg hm] at h4; exact h4 rfl
          refine And.intro (fun h5 => ?_) (fun h5 => ?_)
          · exfalso
            have h5 : (2000 : Int) < ((F.map (mkI t.length)).length : Int) := h5
            rw [List.length_map] at h5
            omega
          · refine And.intro (by omega) ?_
            exact nx (k + 1, F) ⟨H.old hkl hyes, hi⟩ (show (baseTo t t.length).length - (k + 1) < (baseTo t t.length).length - k by omega) (by repeat' first | refine And.intro ?_ ?_ | exact True.intro | (show (_ : Int) = (_ : Int); omega) | omega | exact rfl | (simp only [RO.len]; omega))
      · have h3 : (((baseTo t t.length).map (mkI t.length)).length : Int) ≤ (k : Int) := h3
        rw [List.length_map] at h3
        refine And.intro (by omega) ?_
        exact nx (i + 1, F) (H.next hi (by omega)) (show 600 - (i + 1) < 600 - i by omega) (by repeat' first | refine And.intro ?_ ?_ | exact True.intro | (show (_ : Int) = (_ : Int); omega) | omega | exact rfl | (simp only [RO.len]; omega))
    · have h2 : ((F.map (mkI t.length)).length : Int) ≤ (i : Int) := h2
      have hlm : (F.map (mkI t.length)).length = F.length := List.length_map _
      have hall := H.all h (by omega)
      have hpos : 0 < F.length := List.length_pos_of_mem (H.base _ (baseTo_mem.2 ⟨0, h.pos, rfl⟩))
      refine And.intro (by omega) ?_
      refine And.intro (by rw [hlm]; omega) ?_
      refine Or.inl ?_
      refine Exists.intro [] <| lp2 (fun (j : Nat) (_ : List (List Int)) => [(73, .int .i64 j)]) (fun _ R => [(70, .vec 0 (.rows .i64 R) [])]) (fun j R => j ≤ F.length ∧ R.length = F.length ∧ ∀ q, q < j → R.getD q [] = F.getD q []) (fun j _ => F.length - j) 0 (List.replicate (F.map (mkI t.length)).length []) ⟨Nat.zero_le _, by simp, fun q hq => absurd hq (Nat.not_lt_zero _)⟩ (by repeat' first | refine And.intro ?_ ?_ | exact True.intro | (show (_ : Int) = (_ : Int); omega) | omega | exact rfl | (simp only [RO.len]; omega)) ?_
      rintro j R ⟨hj, hR, hRq⟩
      refine And.intro (fun h3 => ?_) (fun h3 => ?_)
      · have h3 : (j : Int) < ((F.map (mkI t.length)).length : Int) := h3
        have hjl : j < F.length := by omega
        have harg : leT [] [] (.agg (aggL 7 .u64 ((F.map (mkI t.length)).getD (j : Int).toNat []) 0)) (mkA (wd (setI (F.getD j [])) t.length : Nat)) := mk_args (map_mk hjl)
        refine And.intro (show 0 ≤ (j : Int) ∧ (j : Int) < ((F.map (mkI t.length)).length : Int) by omega) ?_
        refine Or.inl (cq (elements_fn t.length hn (setI (F.getD j []))) (And.intro harg (And.intro rfl trivial)) ?_)
        refine And.intro (show 0 ≤ (j : Int) ∧ (j : Int) < (R.length : Int) by omega) ?_
        refine And.intro (by omega) ?_
        refine And.intro (by omega) ?_
        refine nx (j + 1, R.set j (F.getD j [])) ⟨by omega, by rw [List.length_set]; exact hR, fun q hq => ?_⟩ (show F.length - (j + 1) < F.length - j by omega) ?_
        · by_cases e : q = j
          · subst e; rw [getD_set_eq (by omega)]
          · rw [getD_set_ne (Ne.symm e)]; exact hRq q (by omega)
        · have e : R.set (j : Int).toNat (ascV t.length (setI (F.getD j []))) = R.set j (F.getD j []) := by rw [Int.toNat_natCast, H.self _ (getD_mem hjl)]
          repeat' first | refine And.intro ?_ ?_ | exact True.intro | exact congrArg (RO.rows .i64) e | (show (_ : Int) = (_ : Int); omega) | (simp only [RO.len, List.length_set]; omega) | omega | exact rfl
      · have h3 : ((F.map (mkI t.length)).length : Int) ≤ (j : Int) := h3
        have hRF : R = F := ext_getD [] hR fun q hq => hRq q (by omega)
        subst hRF
        refine Or.inr (Or.inl (cm [] [(1000, 70)] (sortRows_m cmpS_tot icmp_fn R hpos) (And.intro (by repeat' first | refine And.intro ?_ ?_ | exact True.intro | (show (_ : Int) = (_ : Int); omega) | omega | exact rfl | (simp only [RO.len]; omega)) ?_)))
        exact And.intro (And.intro rfl (congrArg (RO.rows .i64) hall)) (by repeat' first | refine And.intro ?_ ?_ | exact True.intro | (show (_ : Int) = (_ : Int); omega) | omega | exact rfl | (simp only [RO.len]; omega))
theorem ideals_fn (t : List (List Int)) (h : Semi t) (hn : t.length ≤ 9) : QF 17 [.ro (.rows .i64 t)] (.tup [.new (.rows .i64 (idsL t)), .int .i64 0]) := mkQ Tryz.func17 (by decide +kernel) rfl (Nat.le_of_ble_eq_true rfl) fun _ => ideals_k t h hn
theorem ideals_no_k (t : List (List Int)) (h : ¬ Semi t) : fnK TY SP Tryz.f17 [.ro (.rows .i64 t)] (.tup [.nils, .int .i64 (validV t)]) := by
  refine Or.inl (cq (valid_fn t) (And.intro rfl trivial) ?_)
  refine And.intro (fun _ => ?_) (fun h1 => absurd (valid_zero.1 h1) h)
  exact And.intro trivial (And.intro rfl trivial)
theorem ideals_no (t : List (List Int)) (h : ¬ Semi t) : QF 17 [.ro (.rows .i64 t)] (.tup [.nils, .int .i64 (validV t)]) := mkQ Tryz.func17 (by decide +kernel) rfl (Nat.le_of_ble_eq_true rfl) fun _ => ideals_no_k t h
end Go.Proofs.YtdmfhcppdpcceaaGreat
