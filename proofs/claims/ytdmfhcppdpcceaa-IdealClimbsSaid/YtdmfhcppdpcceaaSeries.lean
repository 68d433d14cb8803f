/- ideal.Series: contract. -/
import Derived.Test.YtdmfhcppdpcceaaSerLaw
import Derived.Test.YtdmfhcppdpcceaaGreen
import Derived.Test.YtdmfhcppdpcceaaIdeal
namespace Go.Proofs.Ytdmfhcppdpcceaa
open Go Go.AM
set_option maxRecDepth 100000
set_option maxHeartbeats 2000000
theorem series_k (t : List (List Int)) (h : Semi t) : fnK TY SP Try.f42 [.ro (.rows .i64 t)] (.ro (.rows .i64 (serV t))) := by
  have hsh := h.toSh
  have hmost := h.most
  have hJ := numJ_le t
  have hcl := classJ_len t
  have hbl := belowL_len t
  refine Or.inl (cq (valid_fn t) (And.intro rfl trivial) ?_)
  refine And.intro (fun h1 => absurd (valid_zero.2 h) h1) (fun _ => ?_)
  refine Or.inl (cq (green_fn t h) (And.intro rfl trivial) ?_)
  refine And.intro (by omega) ?_
  refine And.intro (by omega) ?_
  refine Exists.intro [] <| lp2 (fun (i : Nat) (_ : List Int) => [(27, .int .i64 i)]) (fun _ O => [(24, .vec 0 (.ints .i64 O) [])]) (fun i O => i ≤ numJ t ∧ O.length = numJ t ∧ ∀ y, y < numJ t → O.getD y 0 = if y < i then (cntO t (us t 0) y (numJ t) : Int) else 0) (fun i _ => numJ t - i) 0 (List.replicate (belowL t).length 0) ⟨Nat.zero_le _, by simp [hbl], fun y hy => by simp [hbl, hy]⟩ (by repeat' first | refine And.intro ?_ ?_ | exact True.intro | (show (_ : Int) = (_ : Int); omega) | omega | exact rfl | (simp only [RO.len]; omega)) ?_
  rintro i O ⟨hi, hO, hOy⟩
  refine And.intro (fun h1 => ?_) (fun h1 => ?_)
  · have h1 : (i : Int) < ((belowL t).length : Int) := h1
    have hil : i < numJ t := by omega
    refine Exists.intro [] <| lp2 (fun (j : Nat) (_ : List Int) => [(32, .int .i64 j)]) (fun _ O => [(24, .vec 0 (.ints .i64 O) [])]) (fun j O => j ≤ numJ t ∧ O.length = numJ t ∧ ∀ y, y < numJ t → O.getD y 0 = if y < i then (cntO t (us t 0) y (numJ t) : Int) else if y = i then (cntO t (us t 0) i j : Int) else 0) (fun j _ => numJ t - j) 0 O ⟨Nat.zero_le _, hO, fun y hy => by rw [hOy y hy]; by_cases e : y < i <;> by_cases e2 : y = i <;> simp [e, e2, cntO]⟩ (by repeat' first | refine And.intro ?_ ?_ | exact True.intro | (show (_ : Int) = (_ : Int); omega) | omega | exact rfl | (simp only [RO.len]; omega)) ?_
    rintro j O ⟨hj, hO, hOy⟩
    refine And.intro (fun h2 => ?_) (fun h2 => ?_)
    · have h2 : (j : Int) < ((belowL t).length : Int) := h2
      have hjl : j < numJ t := by omega
      have hb := bel_get (t := t) hjl hil
      have hbr : ((belowL t).getD j []).length = numJ t := by rw [belowL_row hjl]; simp
      have hu0 := us_zero_get t j
      have hOi := hOy i hil
      rw [if_neg (by omega), if_pos rfl] at hOi
      have hle := cntO_le t (us t 0) i j
      refine And.intro (fun h3 => ?_) (fun h3 => ?_)
      · have h3 : (j : Int) ≠ (i : Int) := h3
        refine And.intro (by omega) ?_
        refine And.intro (show 0 ≤ (i : Int) ∧ (i : Int) < (((belowL t).getD j []).length : Int) by omega) ?_
        refine And.intro (fun h4 => ?_) (fun h4 => ?_)
        · have h4 : ((belowL t).getD j []).getD i false = true := h4
          rw [hb] at h4
          refine And.intro (by omega) ?_
          refine And.intro (show -9223372036854775808 ≤ O.getD i 0 + 1 ∧ O.getD i 0 + 1 ≤ 9223372036854775807 by omega) ?_
          refine And.intro (by omega) ?_
          refine And.intro (by omega) ?_
          refine And.intro (by omega) ?_
          refine nx (j + 1, O.set i (O.getD i 0 + 1)) ⟨by omega, by rw [List.length_set]; exact hO, fun y hy => ?_⟩ (show numJ t - (j + 1) < numJ t - j by omega) (by repeat' first | refine And.intro ?_ ?_ | exact True.intro | (show (_ : Int) = (_ : Int); omega) | omega | exact rfl | (simp only [RO.len]; omega))
          by_cases e : y = i
          · subst e
            rw [getD_set_eq (by omega), if_neg (by omega), if_pos rfl, hOi]
            simp only [cntO]; rw [if_pos ⟨by omega, hu0, h4⟩]; omega
          · rw [getD_set_ne (Ne.symm e), hOy y hy, if_neg e, if_neg e]
        · have h4 : ((belowL t).getD j []).getD i false = false := h4
          rw [hb] at h4
          refine And.intro (by omega) ?_
          refine nx (j + 1, O) ⟨by omega, hO, fun y hy => ?_⟩ (show numJ t - (j + 1) < numJ t - j by omega) (by repeat' first | refine And.intro ?_ ?_ | exact True.intro | (show (_ : Int) = (_ : Int); omega) | omega | exact rfl | (simp only [RO.len]; omega))
          rw [hOy y hy]
          by_cases e : y = i
          · subst e
            have e3 : cntO t (us t 0) y (j + 1) = cntO t (us t 0) y j := by simp only [cntO]; rw [if_neg (fun hh : j ≠ y ∧ (us t 0).getD j false = false ∧ bel t j y = true => by rw [h4] at hh; cases hh.2.2)]; rfl
            rw [e3]
          · rw [if_neg e, if_neg e]
      · have h3 : (j : Int) = (i : Int) := h3
        refine And.intro (by omega) ?_
        refine nx (j + 1, O) ⟨by omega, hO, fun y hy => ?_⟩ (show numJ t - (j + 1) < numJ t - j by omega) (by repeat' first | refine And.intro ?_ ?_ | exact True.intro | (show (_ : Int) = (_ : Int); omega) | omega | exact rfl | (simp only [RO.len]; omega))
        rw [hOy y hy]
        by_cases e : y = i
        · subst e
          have e3 : cntO t (us t 0) y (j + 1) = cntO t (us t 0) y j := by simp only [cntO]; rw [if_neg (fun hh : j ≠ y ∧ (us t 0).getD j false = false ∧ bel t j y = true => hh.1 (by omega))]; rfl
          rw [e3]
        · rw [if_neg e, if_neg e]
    · have h2 : ((belowL t).length : Int) ≤ (j : Int) := h2
      refine And.intro (by omega) ?_
      refine nx (i + 1, O) ⟨by omega, hO, fun y hy => ?_⟩ (show numJ t - (i + 1) < numJ t - i by omega) (by repeat' first | refine And.intro ?_ ?_ | exact True.intro | (show (_ : Int) = (_ : Int); omega) | omega | exact rfl | (simp only [RO.len]; omega))
      rw [hOy y hy]
      by_cases e : y < i
      · rw [if_pos e, if_pos (by omega)]
      · rw [if_neg e]
        by_cases e2 : y = i
        · rw [if_pos e2, if_pos (by omega), e2, show j = numJ t by omega]
        · rw [if_neg e2, if_neg (by omega)]
  · have h1 : ((belowL t).length : Int) ≤ (i : Int) := h1
    have hOe : O = openL t (us t 0) := ext_getD 0 (by rw [openL_len]; exact hO) fun y hy => by rw [hOy y (by omega), if_pos (by omega), openL_get (by omega)]
    subst hOe
    refine And.intro (by omega) ?_
    refine And.intro (by omega) ?_
    refine And.intro (by omega) ?_
    refine And.intro (by omega) ?_
    have e0 : List.replicate (((belowL t).length : Nat) : Int).toNat false = us t 0 := by rw [Int.toNat_natCast, hbl]; rfl
    have e1 : List.replicate ((t.length : Nat) : Int).toNat false = setB t.length (inS t (us t 0)) := by
      refine ext_getD false (by simp [setB]) fun x hx => ?_
      rw [Int.toNat_natCast, List.length_replicate] at hx
      rw [setB_get hx]; unfold inS; rw [us_zero_get]; simp [hx]
    refine Exists.intro [] <| lp (X := Nat) (fun s => [(63, .int .i64 s), (8, .vec 130)]) (fun s => [(24, .vec 0 (.ints .i64 (openL t (us t s))) []), (57, .vec 0 (.bools (setB t.length (inS t (us t s)))) []), (60, .vec 0 (.bools (us t s)) []), (130, .vec 0 (.rows .i64 ((serV t).take s)) [])]) (fun s => s ≤ numJ t) (fun s => numJ t - s) 0 (Nat.zero_le _) (by repeat' first | refine And.intro ?_ ?_ | exact True.intro | exact congrArg RO.bools e0 | exact congrArg RO.bools e1 | (show (_ : Int) = (_ : Int); omega) | omega | exact rfl) ?_
    intro s hs
    have hul := us_len t s
    have hol := openL_len t (us t s)
    refine And.intro (fun h2 => ?_) (fun h2 => ?_)
    · have h2 : (s : Int) < ((belowL t).length : Int) := h2
      have hsl : s < numJ t := by omega
      have hn := us_next h hsl
      refine Exists.intro [] <| lp (X := Nat) (fun c => [(11, .int .i64 c)]) (fun _ => []) (fun c => c ≤ nxJ t (us t s)) (fun c => nxJ t (us t s) - c) 0 (Nat.zero_le _) (by repeat' first | refine And.intro ?_ ?_ | exact True.intro | (show (_ : Int) = (_ : Int); omega) | omega | exact rfl | (simp only [RO.len]; omega)) ?_
      intro c hc
      have hog := openL_get (t := t) (u := us t s) (i := c) (by omega)
      have hun := okN_cnt.1 hn.2.2.1
      refine And.intro (by omega) ?_
      refine And.intro (fun h3 => ?_) (fun h3 => ?_)
      · have h3 : (us t s).getD c false = true := h3
        have hne : c ≠ nxJ t (us t s) := fun e => by rw [e, hun.1] at h3; cases h3
        refine And.intro (by omega) ?_
        refine nx (c + 1) (show c + 1 ≤ nxJ t (us t s) by omega) (show nxJ t (us t s) - (c + 1) < nxJ t (us t s) - c by omega) (by repeat' first | refine And.intro ?_ ?_ | exact True.intro | (show (_ : Int) = (_ : Int); omega) | omega | exact rfl | (simp only [RO.len]; omega))
      have h3 : (us t s).getD c false = false := h3
      refine And.intro (by omega) ?_
      refine And.intro (fun h4 => ?_) (fun h4 => ?_)
      · have h4 : 0 < (openL t (us t s)).getD c 0 := h4
        have hne : c ≠ nxJ t (us t s) := fun e => by rw [hog, e, hun.2] at h4; exact absurd h4 (by decide)
        refine And.intro (by omega) ?_
        refine nx (c + 1) (show c + 1 ≤ nxJ t (us t s) by omega) (show nxJ t (us t s) - (c + 1) < nxJ t (us t s) - c by omega) (by repeat' first | refine And.intro ?_ ?_ | exact True.intro | (show (_ : Int) = (_ : Int); omega) | omega | exact rfl | (simp only [RO.len]; omega))
      have h4 : (openL t (us t s)).getD c 0 ≤ 0 := h4
      have hcn : c = nxJ t (us t s) := by
        rcases Nat.lt_or_ge c (nxJ t (us t s)) with e | e
        · have hk := hn.2.2.2 c e
          have : okN t (us t s) c = true := okN_cnt.2 ⟨h3, by omega⟩
          rw [this] at hk; cases hk
        · omega
      subst hcn
      have hset := fun y => cntO_set (t := t) (i := y) (u := us t s) (c := nxJ t (us t s)) (by omega) hun.1 (numJ t)
      have hus : (us t s).set (nxJ t (us t s)) true = us t (s + 1) := rfl
      rw [hus] at hset
      have hul1 := us_len t (s + 1)
      refine And.intro (by omega) ?_
      refine And.intro (by omega) ?_
      refine Exists.intro [] <| lp2 (fun (j : Nat) (_ : List Int) => [(83, .int .i64 j)]) (fun _ O => [(24, .vec 0 (.ints .i64 O) []), (60, .vec 0 (.bools (us t (s + 1))) [])]) (fun j O => j ≤ numJ t ∧ O.length = numJ t ∧ ∀ y, y < numJ t → O.getD y 0 = if y < j then (cntO t (us t (s + 1)) y (numJ t) : Int) else (cntO t (us t s) y (numJ t) : Int)) (fun j _ => numJ t - j) 0 (openL t (us t s)) ⟨Nat.zero_le _, hol, fun y hy => by rw [openL_get hy]; rfl⟩ (by repeat' first | refine And.intro ?_ ?_ | exact True.intro | (show (_ : Int) = (_ : Int); omega) | omega | exact rfl | (simp only [RO.len]; omega)) ?_
      rintro j O ⟨hj, hO, hOy⟩
      refine And.intro (fun h5 => ?_) (fun h5 => ?_)
      · have h5 : (j : Int) < ((belowL t).length : Int) := h5
        have hjl : j < numJ t := by omega
        have hb := bel_get (t := t) (k := nxJ t (us t s)) (i := j) hn.2.1 hjl
        have hbr : ((belowL t).getD (nxJ t (us t s)) []).length = numJ t := by rw [belowL_row hn.2.1]; simp
        have hOj := hOy j hjl
        rw [if_neg (by omega)] at hOj
        have hsj := hset j
        have hle := cntO_le t (us t s) j (numJ t)
        have step : ∀ O' : List Int, O'.length = numJ t → O'.getD j 0 = (cntO t (us t (s + 1)) j (numJ t) : Int) → (∀ y, y < numJ t → y ≠ j → O'.getD y 0 = O.getD y 0) → ∀ y, y < numJ t → O'.getD y 0 = if y < j + 1 then (cntO t (us t (s + 1)) y (numJ t) : Int) else (cntO t (us t s) y (numJ t) : Int) := fun O' _ g1 g2 y hy => by
          by_cases e : y = j
          · subst e; rw [g1, if_pos (by omega)]
          · rw [g2 y hy e, hOy y hy]
            by_cases e2 : y < j
            · rw [if_pos e2, if_pos (by omega)]
            · rw [if_neg e2, if_neg (by omega)]
        refine And.intro (fun h6 => ?_) (fun h6 => ?_)
        · have h6 : (j : Int) ≠ (nxJ t (us t s) : Int) := h6
          refine And.intro (by omega) ?_
          refine And.intro (by simp only [Int.toNat_natCast]; omega) ?_
          refine And.intro (fun h7 => ?_) (fun h7 => ?_)
          · have h7 : ((belowL t).getD (nxJ t (us t s)) []).getD j false = true := h7
            rw [hb] at h7
            rw [if_pos ⟨hn.2.1, by omega, h7⟩] at hsj
            refine And.intro (by omega) ?_
            refine And.intro (by simp only [Int.toNat_natCast]; omega) ?_
            refine And.intro (by omega) ?_
            refine And.intro (by omega) ?_
            refine And.intro (by omega) ?_
            exact nx (j + 1, O.set j (O.getD j 0 - 1)) ⟨by omega, by rw [List.length_set]; exact hO, step _ (by rw [List.length_set]; exact hO) (by rw [getD_set_eq (by omega)]; omega) fun y _ hne => getD_set_ne (Ne.symm hne)⟩ (show numJ t - (j + 1) < numJ t - j by omega) (by repeat' first | refine And.intro ?_ ?_ | exact True.intro | (show (_ : Int) = (_ : Int); omega) | omega | exact rfl | (simp only [RO.len]; omega))
          · have h7 : ((belowL t).getD (nxJ t (us t s)) []).getD j false = false := h7
            rw [hb] at h7
            rw [if_neg (fun hh => by rw [h7] at hh; cases hh.2.2)] at hsj
            refine And.intro (by omega) ?_
            exact nx (j + 1, O) ⟨by omega, hO, step O hO (by omega) fun y _ _ => rfl⟩ (show numJ t - (j + 1) < numJ t - j by omega) (by repeat' first | refine And.intro ?_ ?_ | exact True.intro | (show (_ : Int) = (_ : Int); omega) | omega | exact rfl | (simp only [RO.len]; omega))
        · have h6 : (j : Int) = (nxJ t (us t s) : Int) := h6
          rw [if_neg (fun hh => hh.2.1 (by omega))] at hsj
          refine And.intro (by omega) ?_
          exact nx (j + 1, O) ⟨by omega, hO, step O hO (by omega) fun y _ _ => rfl⟩ (show numJ t - (j + 1) < numJ t - j by omega) (by repeat' first | refine And.intro ?_ ?_ | exact True.intro | (show (_ : Int) = (_ : Int); omega) | omega | exact rfl | (simp only [RO.len]; omega))
      · have h5 : ((belowL t).length : Int) ≤ (j : Int) := h5
        have hOe : O = openL t (us t (s + 1)) := ext_getD 0 (by rw [openL_len]; exact hO) fun y hy => by rw [hOy y (by omega), if_pos (by omega), openL_get (by omega)]
        subst hOe
        refine Exists.intro [] <| lp2 (fun (x : Nat) (_ : List Bool) => [(108, .int .i64 x)]) (fun _ I => [(57, .vec 0 (.bools I) [])]) (fun x I => x ≤ t.length ∧ I.length = t.length ∧ ∀ y, y < t.length → I.getD y false = if y < x then inS t (us t (s + 1)) y else inS t (us t s) y) (fun x _ => t.length - x) 0 (setB t.length (inS t (us t s))) ⟨Nat.zero_le _, setB_len _ _, fun y hy => by rw [setB_get hy]; rfl⟩ (by repeat' first | refine And.intro ?_ ?_ | exact True.intro | (show (_ : Int) = (_ : Int); omega) | omega | exact rfl | (simp only [RO.len]; omega)) ?_
        rintro x I ⟨hx, hI, hIy⟩
        refine And.intro (fun h6 => ?_) (fun h6 => ?_)
        · have h6 : (x : Int) < ((classJ t).length : Int) := h6
          have hxl : x < t.length := by omega
          have hcx := classJ_lt t hxl
          have hin := inS_next h hsl hxl
          have hIx := hIy x hxl
          rw [if_neg (by omega)] at hIx
          have stepx : ∀ b : Bool, b = inS t (us t (s + 1)) x → ∀ y, y < t.length → (I.set x b).getD y false = if y < x + 1 then inS t (us t (s + 1)) y else inS t (us t s) y := fun b g1 y hy => by
            by_cases e : y = x
            · subst e; rw [getD_set_eq (by omega), if_pos (by omega), g1]
            · rw [getD_set_ne (Ne.symm e), hIy y hy]
              by_cases e2 : y < x
              · rw [if_pos e2, if_pos (by omega)]
              · rw [if_neg e2, if_neg (by omega)]
          refine And.intro (by omega) ?_
          refine And.intro (by omega) ?_
          refine And.intro (fun h7 => ?_) (fun h7 => ?_)
          · have h7 : I.getD x false = true := h7
            refine And.intro (by omega) ?_
            refine And.intro (by omega) ?_
            refine And.intro (by omega) ?_
            exact nx (x + 1, I.set x true) ⟨by omega, by rw [List.length_set]; exact hI, stepx true (by rw [hin, ← hIx, h7]; rfl)⟩ (show t.length - (x + 1) < t.length - x by omega) (by repeat' first | refine And.intro ?_ ?_ | exact True.intro | (show (_ : Int) = (_ : Int); omega) | omega | exact rfl | (simp only [RO.len]; omega))
          · have h7 : I.getD x false = false := h7
            refine And.intro (by omega) ?_
            refine And.intro (by omega) ?_
            refine And.intro (by omega) ?_
            exact nx (x + 1, I.set x (decide ((classJ t).getD x 0 = (nxJ t (us t s) : Int)))) ⟨by omega, by rw [List.length_set]; exact hI, stepx _ (by rw [hin, ← hIx, h7]; rfl)⟩ (show t.length - (x + 1) < t.length - x by omega) (by repeat' first | refine And.intro ?_ ?_ | exact True.intro | (show (_ : Int) = (_ : Int); omega) | omega | exact rfl | (simp only [RO.len]; omega))
        · have h6 : ((classJ t).length : Int) ≤ (x : Int) := h6
          have hIe : I = setB t.length (inS t (us t (s + 1))) := ext_getD false (by rw [setB_len]; exact hI) fun y hy => by rw [hIy y (by omega), if_pos (by omega), setB_get (by omega)]
          subst hIe
          have hl := setB_len t.length (inS t (us t (s + 1)))
          refine Or.inl (cq (ilist_fn (setB t.length (inS t (us t (s + 1)))) (by omega)) (And.intro rfl trivial) ?_)
          have ek : (serV t).take s ++ [memV (setB t.length (inS t (us t (s + 1))))] = (serV t).take (s + 1) := by
            rw [take_snoc (d := []) (by rw [serV_len]; exact hsl), serV_get hsl]; rfl
          refine And.intro (by simp; omega) ?_
          refine And.intro (by omega) ?_
          refine nx (s + 1) (show s + 1 ≤ numJ t by omega) (show numJ t - (s + 1) < numJ t - s by omega) ?_
          repeat' first | refine And.intro ?_ ?_ | exact True.intro | exact congrArg (RO.rows .i64) ek | (show (_ : Int) = (_ : Int); omega) | omega | exact rfl
    · have h2 : ((belowL t).length : Int) ≤ (s : Int) := h2
      refine And.intro (And.intro trivial ?_) trivial
      show RO.rows .i64 ((serV t).take s) = RO.rows .i64 (serV t)
      rw [List.take_of_length_le (by rw [serV_len]; omega)]
theorem series_fn (t : List (List Int)) (h : Semi t) : QF 42 [.ro (.rows .i64 t)] (.ro (.rows .i64 (serV t))) := mkQ Try.func42 (by decide +kernel) rfl (Nat.le_of_ble_eq_true rfl) fun _ => series_k t h
theorem series_no_k (t : List (List Int)) (h : ¬ Semi t) : fnK TY SP Try.f42 [.ro (.rows .i64 t)] .nils := by
  have hz : validV t ≠ 0 := fun e => h (valid_zero.1 e)
  refine Or.inl (cq (valid_fn t) (And.intro rfl trivial) ?_)
  refine And.intro (fun _ => ?_) (fun h1 => absurd h1 hz)
  exact ⟨trivial, trivial⟩
theorem series_no (t : List (List Int)) (h : ¬ Semi t) : QF 42 [.ro (.rows .i64 t)] .nils := mkQ Try.func42 (by decide +kernel) rfl (Nat.le_of_ble_eq_true rfl) fun _ => series_no_k t h
end Go.Proofs.Ytdmfhcppdpcceaa
