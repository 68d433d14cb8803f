import Derived.Test.YtpanlghofeebhaaChk
import Derived.Test.YtpanlghofeebhaaOrd
import Derived.Test.YtpanlghofeebhaaMult
import Derived.Test.YtpanlghofeebhaaReesLaw
import Derived.Test.YtpanlghofeebhaaReesAwake
import Derived.Test.YtpanlghofeebhaaCoo
section
/- The reference's Check. -/
namespace Go.Proofs.Ytpanlghofeebhaa
open Go Go.AM
set_option maxRecDepth 100000
set_option maxHeartbeats 1000000 in
theorem rchk_ok (t : List (List Int)) (j : Nat) (G : List (List Int)) (R C : Int) (P : List (List Int)) (z : Bool) (m : List Int) (h : Semi t) (hj : j < numJ t) (hr : Rees G R C P z) (hz : z ≠ minJ t j) (hm : m.length = t.length) :
    fnK TY SP Try.f11 [.ro (.rows .i64 t), .int .i64 j, rav G R C P z, .ro (.ints .i64 m)] (.bool (.v (chkB t j G R C P z m))) := by
  have hmost := h.most
  have hsz := hr.le
  have hzc := z_cases z
  have hsd : sizeI G.length R C z = G.length * R * C + zI z := rfl
  have hpos := size_pos (z := z) hsz.1 hsz.2.2.1 hsz.2.2.2.2.1
  have hel := elems_le hj
  have hS := chk_size hsz.2.2.2.2.2.2.2.2.2 hzc hsd
  have hin : ∀ x, x < t.length → (setB t.length fun x => (elemsJ t j).contains (x : Int)).getD x false = decide ((classJ t).getD x 0 = (j : Int)) := fun x hx => by
    rw [setB_get (f := fun x => (elemsJ t j).contains (x : Int)) hx]
    have : (elemsJ t j).contains (x : Int) = true ↔ (classJ t).getD x 0 = (j : Int) := by
      rw [List.contains_iff_mem, mem_elems hj, Int.toNat_natCast]
      exact ⟨fun hh => hh.2.2, fun hh => ⟨by omega, by omega, hh⟩⟩
    rw [Bool.eq_iff_iff, this, decide_eq_true_iff]
  have hsl := setB_len t.length fun x => (elemsJ t j).contains (x : Int)
  clear hsz hsd
  refine Or.inl (cq (rclass_fn t h j hj) (And.intro rfl (And.intro rfl trivial)) ?_)
  refine Or.inl <| Exists.intro [false, false, false, false, false, false, false, false, false, false, false, false, false, false, false, false, false, false, false, false, false, false, false, false, false, false, false, false, false, false] (And.intro (by decide +kernel) ?_)
  refine And.intro (fun h1 => absurd rfl h1) (fun _ => ?_)
  refine cq (rval_fn G R C P z) (And.intro (by repeat' first | refine And.intro ?_ ?_ | exact True.intro | (show (_ : Int) = (_ : Int); omega) | omega | exact rfl | (simp only [RO.len]; omega)) trivial) ?_
  rw [rees_zero.2 hr]
  refine And.intro (fun h1 => absurd rfl h1) (fun _ => ?_)
  refine And.intro (fun h1 => absurd (eq_of_beq (show (z == minJ t j) = true from h1)) hz) (fun _ => ?_)
  refine And.intro (fun h2 => absurd (show (m.length : Int) = t.length by omega) h2) (fun _ => ?_)
  refine cq (rsize_fn G R C P z hr) (And.intro (by repeat' first | refine And.intro ?_ ?_ | exact True.intro | (show (_ : Int) = (_ : Int); omega) | omega | exact rfl | (simp only [RO.len]; omega)) trivial) ?_
  refine cq (base_fn G R C P z) (And.intro (by repeat' first | refine And.intro ?_ ?_ | exact True.intro | (show (_ : Int) = (_ : Int); omega) | omega | exact rfl | (simp only [RO.len]; omega)) trivial) ?_
  refine And.intro (by omega) ?_
  refine And.intro (fun h1 => ?_) (fun h1 => ?_)
  · exact And.intro (chk_cnt (show ((elemsJ t j).length : Int) ≠ sizeI G.length R C z - zI z from h1)) trivial
  have hcn : ((elemsJ t j).length : Int) = sizeI G.length R C z - zI z := h1
  refine Or.inl <| Exists.intro [false, false, false, false, false, false, false, false, false] (And.intro (by decide +kernel) ?_)
  refine cq (rset_fn (elemsJ t j) t.length (by omega)) (And.intro rfl (And.intro rfl trivial)) ?_
  refine cq (rsize_fn G R C P z hr) (And.intro (by repeat' first | refine And.intro ?_ ?_ | exact True.intro | (show (_ : Int) = (_ : Int); omega) | omega | exact rfl | (simp only [RO.len]; omega)) trivial) ?_
  refine And.intro (by omega) ?_
  refine And.intro (by omega) ?_
  refine Exists.intro [] <| lp2 (fun (i : Nat) (_ : List Bool) => [(66, .int .i64 i)]) (fun _ q => [(63, .vec 0 (.bools q) [])]) (fun i q => ChkInv t j (zI z) (sizeI G.length R C z) m i q) (fun i _ => t.length - i) 0 (List.replicate (sizeI G.length R C z).toNat false) (.start _ (by omega)) (by repeat' first | refine And.intro ?_ ?_ | exact True.intro | (show (_ : Int) = (_ : Int); omega) | omega | exact rfl | (simp only [RO.len]; omega)) ?_
  intro i q H
  have hq := H.len
  have hle := H.le
  refine And.intro (fun h1 => ?_) (fun h1 => ?_)
  · have hi : i < t.length := by have h1 : (i : Int) < t.length := h1; omega
    have eg := hin i hi
    refine And.intro (show 0 ≤ (i : Int) ∧ (i : Int) < ((setB t.length fun x => (elemsJ t j).contains (x : Int)).length : Int) by omega) ?_
    refine And.intro (fun h2 => ?_) (fun h2 => ?_)
    · have h2 : (!(setB t.length fun x => (elemsJ t j).contains (x : Int)).getD i false) = true := h2
      rw [eg] at h2
      have hc : (classJ t).getD i 0 ≠ (j : Int) := by simpa using h2
      refine And.intro (show 0 ≤ (i : Int) ∧ (i : Int) < (m.length : Int) by omega) ?_
      refine And.intro (fun h3 => ?_) (fun h3 => ?_)
      · exact And.intro (chk_map hi (ChkInv.no1 hc (show m.getD i 0 ≠ -1 from h3))) trivial
      · refine And.intro (by omega) ?_
        exact nx (i + 1, q) (H.skip hi hc (show m.getD i 0 = -1 from h3)) (show t.length - (i + 1) < t.length - i by omega) (by repeat' first | refine And.intro ?_ ?_ | exact True.intro | (show (_ : Int) = (_ : Int); omega) | omega | exact rfl | (simp only [RO.len]; omega))
    · have h2 : (!(setB t.length fun x => (elemsJ t j).contains (x : Int)).getD i false) = false := h2
      rw [eg] at h2
      have hc : (classJ t).getD i 0 = (j : Int) := by simpa using h2
      refine Or.inl <| Exists.intro [false, false, false, false, false, false, false, false, false, false, false, false, false, false, false, false, false, false, false, false, false, false, false, false, false] (And.intro (by decide +kernel) ?_)
      refine And.intro (show 0 ≤ (i : Int) ∧ (i : Int) < (m.length : Int) by omega) ?_
      refine cq (base_fn G R C P z) (And.intro (by repeat' first | refine And.intro ?_ ?_ | exact True.intro | (show (_ : Int) = (_ : Int); omega) | omega | exact rfl | (simp only [RO.len]; omega)) trivial) ?_
      refine And.intro (fun h3 => ?_) (fun h3 => ?_)
      · exact And.intro (chk_map hi (ChkInv.no2 hc (Or.inl (show m.getD i 0 < zI z from h3)))) trivial
      have h3 : zI z ≤ m.getD i 0 := h3
      refine And.intro (show 0 ≤ (i : Int) ∧ (i : Int) < (m.length : Int) by omega) ?_
      refine cq (rsize_fn G R C P z hr) (And.intro (by repeat' first | refine And.intro ?_ ?_ | exact True.intro | (show (_ : Int) = (_ : Int); omega) | omega | exact rfl | (simp only [RO.len]; omega)) trivial) ?_
      refine And.intro (fun h4 => ?_) (fun h4 => ?_)
      · exact And.intro (chk_map hi (ChkInv.no2 hc (Or.inr (show sizeI G.length R C z ≤ m.getD i 0 from h4)))) trivial
      have h4 : m.getD i 0 < sizeI G.length R C z := h4
      refine And.intro (show 0 ≤ (i : Int) ∧ (i : Int) < (m.length : Int) by omega) ?_
      refine And.intro (show 0 ≤ m.getD i 0 ∧ m.getD i 0 < (q.length : Int) by omega) ?_
      refine And.intro (fun h5 => ?_) (fun h5 => ?_)
      · exact And.intro (chk_map hi (H.no3 (by omega) hc h3 h4 h5)) trivial
      · refine And.intro (show 0 ≤ (i : Int) ∧ (i : Int) < (m.length : Int) by omega) ?_
        refine And.intro (show 0 ≤ m.getD i 0 ∧ m.getD i 0 < (q.length : Int) by omega) ?_
        refine And.intro (by omega) ?_
        refine And.intro (by omega) ?_
        exact nx (i + 1, q.set (m.getD i 0).toNat true) (H.put (by omega) hi hc h3 h4 h5) (show t.length - (i + 1) < t.length - i by omega) (by repeat' first | refine And.intro ?_ ?_ | exact True.intro | (show (_ : Int) = (_ : Int); omega) | omega | exact rfl | (simp only [RO.len]; omega))
  · have hall : ∀ x, x < t.length → mapAt t j (zI z) (sizeI G.length R C z) m x := fun x hx => H.ok x (by have h1 : (t.length : Int) ≤ i := h1; omega)
    clear H hq hle
    refine Exists.intro [] <| lp (X := Nat) (fun a => [(113, .int .i64 a)]) (fun _ => []) (fun a => a ≤ (elemsJ t j).length ∧ PairsTo t j G C P z m a) (fun a => (elemsJ t j).length - a) 0 ⟨Nat.zero_le _, fun k hk => absurd hk (Nat.not_lt_zero _)⟩ (by repeat' first | refine And.intro ?_ ?_ | exact True.intro | (show (_ : Int) = (_ : Int); omega) | omega | exact rfl | (simp only [RO.len]; omega)) ?_
    rintro a ⟨han, hps⟩
    refine And.intro (fun h3 => ?_) (fun h3 => ?_)
    · have ha : a < (elemsJ t j).length := by omega
      have ga := elems_get hj ha
      have ax : ((elemsJ t j).getD a 0).toNat < t.length := by omega
      have ma := (hall _ ax).2 ga.2.2
      refine And.intro (by omega) ?_
      refine Exists.intro [] <| lp (X := Nat) (fun b => [(119, .int .i64 b)]) (fun _ => []) (fun b => b ≤ (elemsJ t j).length ∧ ∀ c, c < b → pairAt t j G C P z m ((elemsJ t j).getD a 0).toNat ((elemsJ t j).getD c 0).toNat) (fun b => (elemsJ t j).length - b) 0 ⟨Nat.zero_le _, fun k hk => absurd hk (Nat.not_lt_zero _)⟩ (by repeat' first | refine And.intro ?_ ?_ | exact True.intro | (show (_ : Int) = (_ : Int); omega) | omega | exact rfl | (simp only [RO.len]; omega)) ?_
      rintro b ⟨hbn, hpc⟩
      refine And.intro (fun h4 => ?_) (fun h4 => ?_)
      · have hb : b < (elemsJ t j).length := by omega
        have gb := elems_get hj hb
        have ay : ((elemsJ t j).getD b 0).toNat < t.length := by omega
        have mb := (hall _ ay).2 gb.2.2
        have hrl := h.toSh.len ax
        have e1 := h.toSh.ent ax ay
        have eg := hin _ e1.2
        have hmu : (if 0 ≤ m.getD ((elemsJ t j).getD a 0).toNat 0 ∧ m.getD ((elemsJ t j).getD a 0).toNat 0 < sizeI G.length R C z ∧ 0 ≤ m.getD ((elemsJ t j).getD b 0).toNat 0 ∧ m.getD ((elemsJ t j).getD b 0).toNat 0 < sizeI G.length R C z then mulI G C P z (m.getD ((elemsJ t j).getD a 0).toNat 0) (m.getD ((elemsJ t j).getD b 0).toNat 0) else -1) = mulI G C P z (m.getD ((elemsJ t j).getD a 0).toNat 0) (m.getD ((elemsJ t j).getD b 0).toNat 0) := if_pos ⟨by omega, by omega, by omega, by omega⟩
        have hmf := rmul_fn G R C P z hr (m.getD ((elemsJ t j).getD a 0).toNat 0) (m.getD ((elemsJ t j).getD b 0).toNat 0)
        rw [hmu] at hmf
        refine And.intro (by omega) ?_
        refine Or.inl <| Exists.intro [false, false, false, false, false, false, false, false, false, false, false] (And.intro (by decide +kernel) ?_)
        refine And.intro (show 0 ≤ ((elemsJ t j).getD a 0) ∧ ((elemsJ t j).getD a 0) < (m.length : Int) by omega) ?_
        refine And.intro (show 0 ≤ ((elemsJ t j).getD b 0) ∧ ((elemsJ t j).getD b 0) < (m.length : Int) by omega) ?_
        refine cq hmf (And.intro (by repeat' first | refine And.intro ?_ ?_ | exact True.intro | (show (_ : Int) = (_ : Int); omega) | omega | exact rfl | (simp only [RO.len]; omega)) (And.intro rfl (And.intro rfl trivial))) ?_
        refine And.intro (show 0 ≤ ((elemsJ t j).getD a 0) ∧ ((elemsJ t j).getD a 0) < (t.length : Int) by omega) ?_
        refine And.intro (show 0 ≤ ((elemsJ t j).getD b 0) ∧ ((elemsJ t j).getD b 0) < ((t.getD ((elemsJ t j).getD a 0).toNat []).length : Int) by omega) ?_
        refine And.intro (show 0 ≤ (t.getD ((elemsJ t j).getD a 0).toNat []).getD ((elemsJ t j).getD b 0).toNat 0 ∧ (t.getD ((elemsJ t j).getD a 0).toNat []).getD ((elemsJ t j).getD b 0).toNat 0 < ((setB t.length fun x => (elemsJ t j).contains (x : Int)).length : Int) by omega) ?_
        refine And.intro (fun h5 => ?_) (fun h5 => ?_)
        · have h5 : (setB t.length fun x => (elemsJ t j).contains (x : Int)).getD (en t ((elemsJ t j).getD a 0).toNat ((elemsJ t j).getD b 0).toNat) false = true := h5
          rw [eg, decide_eq_true_eq] at h5
          refine And.intro (show 0 ≤ ((elemsJ t j).getD a 0) ∧ ((elemsJ t j).getD a 0) < (t.length : Int) by omega) ?_
          refine And.intro (show 0 ≤ ((elemsJ t j).getD b 0) ∧ ((elemsJ t j).getD b 0) < ((t.getD ((elemsJ t j).getD a 0).toNat []).length : Int) by omega) ?_
          refine And.intro (show 0 ≤ (t.getD ((elemsJ t j).getD a 0).toNat []).getD ((elemsJ t j).getD b 0).toNat 0 ∧ (t.getD ((elemsJ t j).getD a 0).toNat []).getD ((elemsJ t j).getD b 0).toNat 0 < (m.length : Int) by omega) ?_
          refine And.intro (fun h6 => ?_) (fun h6 => ?_)
          · exact And.intro (chk_pair ha hb fun hh => h6 (hh.1 h5)) trivial
          refine And.intro (show 0 ≤ ((elemsJ t j).getD a 0) ∧ ((elemsJ t j).getD a 0) < (t.length : Int) by omega) ?_
          refine And.intro (show 0 ≤ ((elemsJ t j).getD b 0) ∧ ((elemsJ t j).getD b 0) < ((t.getD ((elemsJ t j).getD a 0).toNat []).length : Int) by omega) ?_
          refine And.intro (show 0 ≤ (t.getD ((elemsJ t j).getD a 0).toNat []).getD ((elemsJ t j).getD b 0).toNat 0 ∧ (t.getD ((elemsJ t j).getD a 0).toNat []).getD ((elemsJ t j).getD b 0).toNat 0 < ((setB t.length fun x => (elemsJ t j).contains (x : Int)).length : Int) by omega) ?_
          refine And.intro (fun h7 => by have h7 : (!(setB t.length fun x => (elemsJ t j).contains (x : Int)).getD (en t ((elemsJ t j).getD a 0).toNat ((elemsJ t j).getD b 0).toNat) false) = true := h7; rw [eg, decide_eq_true h5] at h7; cases h7) (fun _ => ?_)
          refine And.intro (by omega) ?_
          refine nx (b + 1) ⟨by omega, fun c hc => ?_⟩ (show (elemsJ t j).length - (b + 1) < (elemsJ t j).length - b by omega) (by repeat' first | refine And.intro ?_ ?_ | exact True.intro | (show (_ : Int) = (_ : Int); omega) | omega | exact rfl | (simp only [RO.len]; omega))
          by_cases hcb : c = b
          · rw [hcb]; exact ⟨fun _ => h6, fun hh => absurd h5 hh⟩
          · exact hpc c (by omega)
        · have h5 : (setB t.length fun x => (elemsJ t j).contains (x : Int)).getD (en t ((elemsJ t j).getD a 0).toNat ((elemsJ t j).getD b 0).toNat) false = false := h5
          rw [eg, decide_eq_false_iff_not] at h5
          refine And.intro (show 0 ≤ ((elemsJ t j).getD a 0) ∧ ((elemsJ t j).getD a 0) < (t.length : Int) by omega) ?_
          refine And.intro (show 0 ≤ ((elemsJ t j).getD b 0) ∧ ((elemsJ t j).getD b 0) < ((t.getD ((elemsJ t j).getD a 0).toNat []).length : Int) by omega) ?_
          refine And.intro (show 0 ≤ (t.getD ((elemsJ t j).getD a 0).toNat []).getD ((elemsJ t j).getD b 0).toNat 0 ∧ (t.getD ((elemsJ t j).getD a 0).toNat []).getD ((elemsJ t j).getD b 0).toNat 0 < ((setB t.length fun x => (elemsJ t j).contains (x : Int)).length : Int) by omega) ?_
          refine And.intro (fun _ => ?_) (fun h7 => by have h7 : (!(setB t.length fun x => (elemsJ t j).contains (x : Int)).getD (en t ((elemsJ t j).getD a 0).toNat ((elemsJ t j).getD b 0).toNat) false) = false := h7; rw [eg, decide_eq_false h5] at h7; cases h7)
          refine And.intro (fun h6 => ?_) (fun h6 => ?_)
          · exact And.intro (chk_pair ha hb fun hh => h6 (hh.2 h5).2) trivial
          refine And.intro (fun hw => ?_) (fun hw => ?_)
          · have hw : (!z) = true := hw
            exact And.intro (chk_pair ha hb fun hh => by rw [(hh.2 h5).1] at hw; cases hw) trivial
          have hw : (!z) = false := hw
          refine And.intro (by omega) ?_
          refine nx (b + 1) ⟨by omega, fun c hc => ?_⟩ (show (elemsJ t j).length - (b + 1) < (elemsJ t j).length - b by omega) (by repeat' first | refine And.intro ?_ ?_ | exact True.intro | (show (_ : Int) = (_ : Int); omega) | omega | exact rfl | (simp only [RO.len]; omega))
          by_cases hcb : c = b
          · rw [hcb]; exact ⟨fun hh => absurd hh h5, fun _ => ⟨by simpa using hw, h6⟩⟩
          · exact hpc c (by omega)
      · refine And.intro (by omega) ?_
        refine nx (a + 1) ⟨by omega, fun c hc => ?_⟩ (show (elemsJ t j).length - (a + 1) < (elemsJ t j).length - a by omega) (by repeat' first | refine And.intro ?_ ?_ | exact True.intro | (show (_ : Int) = (_ : Int); omega) | omega | exact rfl | (simp only [RO.len]; omega))
        by_cases hca : c = a
        · rw [hca]; exact fun d hd => hpc d (by omega)
        · exact hps c (by omega)
    · have hae : a = (elemsJ t j).length := by omega
      rw [hae] at hps
      exact And.intro (chk_yes (chk_ok h hj hr hz hm) ⟨hall, hcn, hps⟩) trivial
theorem rchk_fn (t : List (List Int)) (j : Int) (G : List (List Int)) (R C : Int) (P : List (List Int)) (z : Bool) (m : List Int) :
    QF 11 [.ro (.rows .i64 t), .int .i64 j, rav G R C P z, .ro (.ints .i64 m)] (.bool (.v (chkB t j G R C P z m))) := mkQ Try.func11 (by decide +kernel) rfl (Nat.le_of_ble_eq_true rfl) fun _ => by
  by_cases hp : validV t = 0 ∧ 0 ≤ j ∧ j < numJ t
  · obtain ⟨k, rfl⟩ : ∃ k : Nat, j = (k : Int) := ⟨j.toNat, by omega⟩
    have h := valid_zero.1 hp.1
    have hj : k < numJ t := by omega
    by_cases hr : reesV G R C P z = 0
    · by_cases hz : z = minJ t k
      · refine Or.inl (cq (rclass_fn t h k hj) (And.intro rfl (And.intro rfl trivial)) ?_)
        refine Or.inl <| Exists.intro [false, false, false, false, false, false, false, false, false, false, false, false, false, false, false, false, false, false, false, false, false, false, false, false, false, false, false, false, false, false] (And.intro (by decide +kernel) ?_)
        refine And.intro (fun h1 => absurd rfl h1) (fun _ => ?_)
        refine cq (rval_fn G R C P z) (And.intro (by repeat' first | refine And.intro ?_ ?_ | exact True.intro | (show (_ : Int) = (_ : Int); omega) | omega | exact rfl | (simp only [RO.len]; omega)) trivial) ?_
        refine And.intro (fun h1 => absurd hr h1) (fun _ => ?_)
        refine And.intro (fun _ => ?_) (fun h1 => absurd (show (z == minJ t k) = false from h1) (by rw [hz]; simp))
        exact And.intro (chk_pre fun hh => hh.2.2.1 hz) trivial
      · by_cases hm : m.length = t.length
        · exact rchk_ok t k G R C P z m h hj (rees_zero.1 hr) hz hm
        · refine Or.inl (cq (rclass_fn t h k hj) (And.intro rfl (And.intro rfl trivial)) ?_)
          refine Or.inl <| Exists.intro [false, false, false, false, false, false, false, false, false, false, false, false, false, false, false, false, false, false, false, false, false, false, false, false, false, false, false, false, false, false] (And.intro (by decide +kernel) ?_)
          refine And.intro (fun h1 => absurd rfl h1) (fun _ => ?_)
          refine cq (rval_fn G R C P z) (And.intro (by repeat' first | refine And.intro ?_ ?_ | exact True.intro | (show (_ : Int) = (_ : Int); omega) | omega | exact rfl | (simp only [RO.len]; omega)) trivial) ?_
          refine And.intro (fun h1 => absurd hr h1) (fun _ => ?_)
          refine And.intro (fun h1 => absurd (eq_of_beq (show (z == minJ t k) = true from h1)) hz) (fun _ => ?_)
          refine And.intro (fun _ => ?_) (fun h1 => absurd (show (m.length : Int) = (t.length : Int) from h1) (by omega))
          exact And.intro (chk_pre fun hh => hm hh.2.2.2) trivial
    · refine Or.inl (cq (rclass_fn t h k hj) (And.intro rfl (And.intro rfl trivial)) ?_)
      refine Or.inl <| Exists.intro [false, false, false, false, false, false, false, false, false, false, false, false, false, false, false, false, false, false, false, false, false, false, false, false, false, false, false, false, false, false] (And.intro (by decide +kernel) ?_)
      refine And.intro (fun h1 => absurd rfl h1) (fun _ => ?_)
      refine cq (rval_fn G R C P z) (And.intro (by repeat' first | refine And.intro ?_ ?_ | exact True.intro | (show (_ : Int) = (_ : Int); omega) | omega | exact rfl | (simp only [RO.len]; omega)) trivial) ?_
      refine And.intro (fun _ => ?_) (fun h1 => absurd h1 hr)
      exact And.intro (chk_pre fun hh => hr hh.2.1) trivial
  · refine Or.inl (cq (rclass_no t j hp) (And.intro rfl (And.intro rfl trivial)) ?_)
    refine Or.inl <| Exists.intro [false, false, false, false, false, false, false, false, false, false, false, false, false, false, false, false, false, false, false, false, false, false, false, false, false, false, false, false, false, false] (And.intro (by decide +kernel) ?_)
    refine And.intro (fun _ => ?_) (fun h1 => absurd h1 (openV_ne t j))
    exact And.intro (chk_pre fun hh => hp hh.1) trivial
end Go.Proofs.Ytpanlghofeebhaa
end
section
/- What is handed over as owned may be taken as read only. -/
namespace Go.Proofs.Ytpanlghofeebhaa
open Go Go.AM
theorem mf_of_q {f : FuncId} {args : List AV} {e : BE} (h : QF f args (.bool e)) : MF f args [] (.bool e) [] := by
  refine ⟨h.1, fun ρ M w vs st hv => ?_⟩
  have hρ : ρ = noEnv := funext fun k => by
    have := st.dom k
    cases hk : ρ k with
    | none => rfl
    | some o => rw [hk] at this; cases this
  subst hρ
  refine (h.2 M w vs st.mlt hv).mono fun e w' ⟨v, he, hs, M', h1, h2, hr⟩ => ⟨v, noEnv, M', he, ?_, hr⟩
  have no : ∀ k b, ¬ hasB noEnv k b := fun k b hb => hb
  refine ⟨fun _ => rfl, fun _ _ hB => ?_, fun k k' b hb => (no k b hb).elim, h2, ?_, fun b off hb hm => (h1 b off hb).1 hm, fun b off hb _ hm => (h1 b off hb).2 hm, fun k b hb => (no k b hb).elim, fun k o _ ho => ?_⟩
  · cases hB
  · exact ⟨hs.1, fun b hb => (hs.2 b hb).imp id fun h => h.imp (fun ⟨cs, cs', ty, g1, g2, g3, g4⟩ => ⟨cs, cs', ty, g1, g2, g3, fun i _ => g4 i (fun hf => hf)⟩) fun ⟨_, _, _, _, _, _, hf⟩ => hf.elim, hs.3⟩
  · cases ho
end Go.Proofs.Ytpanlghofeebhaa
end
section
/- ReesTurned, the walk: it returns true. -/
namespace Go.Proofs.Ytpanlghofeebhaa
open Go Go.AM
set_option maxRecDepth 100000
set_option maxHeartbeats 1000000
theorem tmod_bndT (a : Int) {n : Int} (h : 0 < n) : -n < a.tmod n ∧ a.tmod n < n :=
  ⟨by have := Int.lt_tmod_of_pos a h; omega, Int.tmod_lt_of_pos a h⟩
theorem schShr2 {TY : List TyE} {F : Go.AM.Spec} {ops : List Oper} {t : Sch} {T0 T : List AV} {S0 S S' : Store} {Q : List AV → Store → Prop} (h : ∀ K : List AV → Store → Prop, K T S → K T S' → schK TY F ops t T0 S0 K) (hq : Q T S) (hq' : Q T S') : schK TY F ops t T0 S0 Q := h Q hq hq'
theorem reesTrn_k (t : List (List Int)) (j what at' to : Int) (hat : -9223372036854775808 ≤ at' ∧ at' ≤ 9223372036854775807) : fnK TY SPD Try.f3 [.ro (.rows .i64 t), .int .i64 j, .int .i64 what, .int .i64 at', .int .i64 to] (.bool (.lit true)) := by
  refine Or.inl (cq (small_fn t 14) (And.intro rfl (And.intro rfl trivial)) ?_)
  refine And.intro (fun h1 => ?_) (fun h1 => ?_)
  · exact Or.inl (cq awake_fn trivial (And.intro rfl trivial))
  have hv0 : (t.length : Int) ≤ 14 ∧ validV t = 0 := by
    by_cases hh : (t.length : Int) ≤ 14 ∧ validV t = 0
    · exact hh
    · rw [decide_eq_false hh] at h1; cases h1
  by_cases hv : validV t = 0 ∧ 0 ≤ j ∧ j < numJ t
  · obtain ⟨n, rfl⟩ : ∃ n : Nat, j = n := ⟨j.toNat, by omega⟩
    have h := valid_zero.1 hv.1
    have hn : n < numJ t := by omega
    cases hr : (regL t).getD n false with
    | true =>
      have c := (eJ_ok h hn hr).2.2.2.1
      have hcr := cR_le c
      have hcc := cC_le c
      have hel := elems_le hn
      have hmost := h.most
      have hml := cooM_len t n (eJ t n)
      refine Or.inl (cq (coo_fn t h n hn hr) (And.intro rfl (And.intro rfl trivial)) ?_)
      have hpl := cooP_len t n (eJ t n)
      have cc0 := c.posC
      have hrows := c.rees_rows
      refine And.intro (fun h => absurd rfl h) (fun _ => ?_)
      refine And.intro (fun h => absurd (congrArg (fun k : Nat => (k : Int)) hml) h) (fun _ => ?_)
      refine And.intro (fun h => absurd (show (((cooP t n (eJ t n)).length : Nat) : Int) < 1 from h) (by omega)) (fun _ => ?_)
      refine Or.inr (Exists.intro (.fst 2 (.br 0 (.br 1 (.br 3 (.br 4 (.br 5 (.fst 6 .done) .no) .no) (.br 4 (.br 3 (.br 5 (.fst 6 .done) .no) .no) .no)) (.br 4 (.br 1 (.br 3 (.br 5 (.fst 6 .done) .no) .no) .no) .no)) (.br 1 (.br 0 (.br 3 (.br 4 (.br 5 (.fst 6 .done) .no) .no) (.br 4 (.br 3 (.br 5 (.fst 6 .done) .no) .no) .no)) (.br 3 (.br 0 (.br 4 (.br 5 (.fst 6 .done) .no) .no) (.br 4 (.br 0 (.br 5 (.fst 6 .done) .no) .no) .no)) (.br 4 (.br 0 (.br 3 (.br 5 (.fst 6 .done) .no) .no) (.br 3 (.br 0 (.br 5 (.fst 6 .done) .no) .no) .no)) .no))) (.br 4 (.br 0 (.br 1 (.br 3 (.br 5 (.fst 6 .done) .no) .no) .no) (.br 1 (.br 0 (.br 3 (.br 5 (.fst 6 .done) .no) .no) (.br 3 (.br 0 (.br 5 (.fst 6 .done) .no) .no) .no)) .no)) .no)))) (And.intro (by decide +kernel) ?_))
      have happ : (([] ++ cooM t n (eJ t n) : List Int).length : Int) ≤ 17592186044416 := by rw [List.nil_append]; omega
      have hlen : (([] ++ cooM t n (eJ t n) : List Int).length : Int) = (t.length : Int) := by rw [List.nil_append, hml]
      have hL : (0 : Int) < (([] ++ cooM t n (eJ t n) : List Int).length : Int) := by omega
      have hLb := tmod_bndT at' hL
      have hLr : -9223372036854775808 ≤ at'.tmod (([] ++ cooM t n (eJ t n) : List Int).length : Int) + (([] ++ cooM t n (eJ t n) : List Int).length : Int) ∧ at'.tmod (([] ++ cooM t n (eJ t n) : List Int).length : Int) + (([] ++ cooM t n (eJ t n) : List Int).length : Int) ≤ 9223372036854775807 := by omega
      have hL2 : (0 : Int) ≤ at'.tmod (([] ++ cooM t n (eJ t n) : List Int).length : Int) + (([] ++ cooM t n (eJ t n) : List Int).length : Int) ∧ (0 : Int) < (([] ++ cooM t n (eJ t n) : List Int).length : Int) := ⟨by omega, hL⟩
      have hLi : (0 : Int) ≤ (at'.tmod (([] ++ cooM t n (eJ t n) : List Int).length : Int) + (([] ++ cooM t n (eJ t n) : List Int).length : Int)) % (([] ++ cooM t n (eJ t n) : List Int).length : Int) ∧ (at'.tmod (([] ++ cooM t n (eJ t n) : List Int).length : Int) + (([] ++ cooM t n (eJ t n) : List Int).length : Int)) % (([] ++ cooM t n (eJ t n) : List Int).length : Int) < (([] ++ cooM t n (eJ t n) : List Int).length : Int) := ⟨Int.emod_nonneg _ (by omega), Int.emod_lt_of_pos _ hL⟩
      have hC : (0 : Int) < ((cooP t n (eJ t n)).length : Int) := by omega
      have hCb := tmod_bndT at' hC
      have hCr : -9223372036854775808 ≤ at'.tmod ((cooP t n (eJ t n)).length : Int) + ((cooP t n (eJ t n)).length : Int) ∧ at'.tmod ((cooP t n (eJ t n)).length : Int) + ((cooP t n (eJ t n)).length : Int) ≤ 9223372036854775807 := by omega
      have hC2 : (0 : Int) ≤ at'.tmod ((cooP t n (eJ t n)).length : Int) + ((cooP t n (eJ t n)).length : Int) ∧ (0 : Int) < ((cooP t n (eJ t n)).length : Int) := ⟨by omega, hC⟩
      have hCi : (0 : Int) ≤ (at'.tmod ((cooP t n (eJ t n)).length : Int) + ((cooP t n (eJ t n)).length : Int)) % ((cooP t n (eJ t n)).length : Int) ∧ (at'.tmod ((cooP t n (eJ t n)).length : Int) + ((cooP t n (eJ t n)).length : Int)) % ((cooP t n (eJ t n)).length : Int) < ((cooP t n (eJ t n)).length : Int) := ⟨Int.emod_nonneg _ (by omega), Int.emod_lt_of_pos _ hC⟩
      apply schShr2
      · intro K hK hK'
        repeat' first
          | exact hK
          | exact hK'
          | exact True.intro
          | refine And.intro happ ?_
          | refine And.intro ?_ ?_
      all_goals
        refine Or.inr (Or.inl (cm [] [(17, 58)] (rcopyD_fn (cooP t n (eJ t n)) (by omega) (by omega) (fun p hp => by have := hrows p hp; omega)) ?_))
        refine And.intro (by repeat' first | refine And.intro ?_ ?_ | exact True.intro | (show (_ : Int) = (_ : Int); omega) | omega | exact rfl | (simp only [RO.len]; omega)) ?_
        refine And.intro (fun h2 => ?_) (fun h2 => ?_)
        · refine Or.inr (And.intro hL ?_)
          refine And.intro hLr ?_
          refine Or.inl (And.intro hL2 ?_)
          refine And.intro hLi ?_
          refine And.intro hLi.1 ?_
          refine Or.inl <| Exists.intro [false, false, false, false, false, false, false, false, false, false, false, false, false, false, false] (And.intro (by decide +kernel) ?_)
          refine cq (chk_fn t n (cooG t n (eJ t n)) (cR t n) (cC t n) (cooP t n (eJ t n)) (!minJ t n) (([] ++ cooM t n (eJ t n) : List Int).set ((at'.tmod (([] ++ cooM t n (eJ t n) : List Int).length : Int) + (([] ++ cooM t n (eJ t n) : List Int).length : Int)) % (([] ++ cooM t n (eJ t n) : List Int).length : Int)).toNat to)) (And.intro rfl (And.intro rfl (And.intro (by repeat' first | refine And.intro ?_ ?_ | exact True.intro | (show (_ : Int) = (_ : Int); omega) | omega | exact rfl | (simp only [RO.len]; omega)) (And.intro rfl trivial)))) ?_
          refine cq (rchk_fn t n (cooG t n (eJ t n)) (cR t n) (cC t n) (cooP t n (eJ t n)) (!minJ t n) (([] ++ cooM t n (eJ t n) : List Int).set ((at'.tmod (([] ++ cooM t n (eJ t n) : List Int).length : Int) + (([] ++ cooM t n (eJ t n) : List Int).length : Int)) % (([] ++ cooM t n (eJ t n) : List Int).length : Int)).toNat to)) (And.intro rfl (And.intro rfl (And.intro (by repeat' first | refine And.intro ?_ ?_ | exact True.intro | (show (_ : Int) = (_ : Int); omega) | omega | exact rfl | (simp only [RO.len]; omega)) (And.intro rfl trivial)))) ?_
          refine And.intro (fun h3 => ?_) (fun h3 => absurd h3 (by simp [BE.val]))
          refine cq awake_fn trivial ?_
          exact And.intro rfl trivial
        · refine And.intro (fun h3 => ?_) (fun h3 => ?_)
          · refine Or.inl <| Exists.intro [false, false, false, false, false, false, false, false, false, false, false, false, false, false, false, false, true, false] (And.intro (by decide +kernel) ?_)
            refine Or.inr (And.intro hC ?_)
            refine And.intro hCr ?_
            refine Or.inl (And.intro hC2 ?_)
            refine And.intro hCi ?_
            refine And.intro (fun h5 => ?_) (fun h5 => ?_)
            · refine And.intro (show (0 : Int) ≤ 0 ∧ (0 : Int) < _ from And.intro (Int.le_refl 0) h5) ?_
              refine And.intro (by omega) ?_
              refine Or.inr (Exists.intro (.fst 0 (.fst 1 (.fst 3 (.fst 5 (.fst 6 (.fst 8 (.br 2 (.br 4 (.br 7 (.br 9 (.br 10 (.fst 11 (.br 12 (.br 13 (.fst 14 .done) .no) .no)) .no) .no) .no) (.br 7 (.br 4 (.br 9 (.br 10 (.fst 11 (.br 12 (.br 13 (.fst 14 .done) .no) .no)) .no) .no) .no) .no)) (.br 7 (.br 2 (.br 4 (.br 9 (.br 10 (.fst 11 (.br 12 (.br 13 (.fst 14 .done) .no) .no)) .no) .no) .no) .no) .no)))))))) (And.intro (by decide +kernel) ?_))
              refine And.intro ?_ (And.intro ?_ True.intro)
              · refine And.intro ?_ (And.intro ?_ True.intro)
                · refine Or.inr (Or.inl (cm [95, 58, 53] [] (mf_of_q (chk_fn t n (cooG t n (eJ t n)) (cR t n) (cC t n) ((cooP t n (eJ t n)).set ((at'.tmod ((cooP t n (eJ t n)).length : Int) + ((cooP t n (eJ t n)).length : Int)) % ((cooP t n (eJ t n)).length : Int)).toNat (List.set ((cooP t n (eJ t n)).getD ((at'.tmod ((cooP t n (eJ t n)).length : Int) + ((cooP t n (eJ t n)).length : Int)) % ((cooP t n (eJ t n)).length : Int)).toNat []) 0 to)) (!minJ t n) ([] ++ cooM t n (eJ t n)))) ?_))
                  refine And.intro (by repeat' first | refine And.intro ?_ ?_ | exact True.intro | (show (_ : Int) = (_ : Int); omega) | omega | exact rfl | (simp only [RO.len]; omega)) ?_
                  refine And.intro ?_ True.intro
                  refine And.intro ?_ True.intro
                  refine Or.inl (cq (rchk_fn t n (cooG t n (eJ t n)) (cR t n) (cC t n) ((cooP t n (eJ t n)).set ((at'.tmod ((cooP t n (eJ t n)).length : Int) + ((cooP t n (eJ t n)).length : Int)) % ((cooP t n (eJ t n)).length : Int)).toNat (List.set ((cooP t n (eJ t n)).getD ((at'.tmod ((cooP t n (eJ t n)).length : Int) + ((cooP t n (eJ t n)).length : Int)) % ((cooP t n (eJ t n)).length : Int)).toNat []) 0 to)) (!minJ t n) ([] ++ cooM t n (eJ t n))) (And.intro rfl (And.intro rfl (And.intro (by repeat' first | refine And.intro ?_ ?_ | exact True.intro | (show (_ : Int) = (_ : Int); omega) | omega | exact rfl | (simp only [RO.len]; omega)) (And.intro rfl trivial)))) ?_)
                  refine And.intro ?_ True.intro
                  refine And.intro ?_ True.intro
                  refine And.intro (fun h3 => ?_) (fun h3 => absurd h3 (by simp [BE.val]))
                  refine Or.inl (cq awake_fn trivial ?_)
                  refine And.intro ?_ True.intro
                  exact And.intro rfl trivial
                · refine And.intro ?_ True.intro
                  refine Or.inr (Or.inl (cm [95, 58, 53] [] (mf_of_q (chk_fn t n (cooG t n (eJ t n)) (cR t n) (cC t n) ((cooP t n (eJ t n)).set ((at'.tmod ((cooP t n (eJ t n)).length : Int) + ((cooP t n (eJ t n)).length : Int)) % ((cooP t n (eJ t n)).length : Int)).toNat (List.set ((cooP t n (eJ t n)).getD ((at'.tmod ((cooP t n (eJ t n)).length : Int) + ((cooP t n (eJ t n)).length : Int)) % ((cooP t n (eJ t n)).length : Int)).toNat []) 0 to)) (!minJ t n) ([] ++ cooM t n (eJ t n)))) ?_))
                  refine And.intro (by repeat' first | refine And.intro ?_ ?_ | exact True.intro | (show (_ : Int) = (_ : Int); omega) | omega | exact rfl | (simp only [RO.len]; omega)) ?_
                  refine And.intro ?_ True.intro
                  refine Or.inl (cq (rchk_fn t n (cooG t n (eJ t n)) (cR t n) (cC t n) ((cooP t n (eJ t n)).set ((at'.tmod ((cooP t n (eJ t n)).length : Int) + ((cooP t n (eJ t n)).length : Int)) % ((cooP t n (eJ t n)).length : Int)).toNat (List.set ((cooP t n (eJ t n)).getD ((at'.tmod ((cooP t n (eJ t n)).length : Int) + ((cooP t n (eJ t n)).length : Int)) % ((cooP t n (eJ t n)).length : Int)).toNat []) 0 to)) (!minJ t n) ([] ++ cooM t n (eJ t n))) (And.intro rfl (And.intro rfl (And.intro (by repeat' first | refine And.intro ?_ ?_ | exact True.intro | (show (_ : Int) = (_ : Int); omega) | omega | exact rfl | (simp only [RO.len]; omega)) (And.intro rfl trivial)))) ?_)
                  refine And.intro ?_ True.intro
                  refine And.intro ?_ True.intro
                  refine And.intro (fun h3 => ?_) (fun h3 => absurd h3 (by simp [BE.val]))
                  refine Or.inl (cq awake_fn trivial ?_)
                  refine And.intro ?_ True.intro
                  exact And.intro rfl trivial
              · refine And.intro ?_ True.intro
                refine And.intro ?_ True.intro
                refine Or.inr (Or.inl (cm [95, 58, 53] [] (mf_of_q (chk_fn t n (cooG t n (eJ t n)) (cR t n) (cC t n) ((cooP t n (eJ t n)).set ((at'.tmod ((cooP t n (eJ t n)).length : Int) + ((cooP t n (eJ t n)).length : Int)) % ((cooP t n (eJ t n)).length : Int)).toNat (List.set ((cooP t n (eJ t n)).getD ((at'.tmod ((cooP t n (eJ t n)).length : Int) + ((cooP t n (eJ t n)).length : Int)) % ((cooP t n (eJ t n)).length : Int)).toNat []) 0 to)) (!minJ t n) ([] ++ cooM t n (eJ t n)))) ?_))
                refine And.intro (by repeat' first | refine And.intro ?_ ?_ | exact True.intro | (show (_ : Int) = (_ : Int); omega) | omega | exact rfl | (simp only [RO.len]; omega)) ?_
                refine And.intro ?_ True.intro
                refine Or.inl (cq (rchk_fn t n (cooG t n (eJ t n)) (cR t n) (cC t n) ((cooP t n (eJ t n)).set ((at'.tmod ((cooP t n (eJ t n)).length : Int) + ((cooP t n (eJ t n)).length : Int)) % ((cooP t n (eJ t n)).length : Int)).toNat (List.set ((cooP t n (eJ t n)).getD ((at'.tmod ((cooP t n (eJ t n)).length : Int) + ((cooP t n (eJ t n)).length : Int)) % ((cooP t n (eJ t n)).length : Int)).toNat []) 0 to)) (!minJ t n) ([] ++ cooM t n (eJ t n))) (And.intro rfl (And.intro rfl (And.intro (by repeat' first | refine And.intro ?_ ?_ | exact True.intro | (show (_ : Int) = (_ : Int); omega) | omega | exact rfl | (simp only [RO.len]; omega)) (And.intro rfl trivial)))) ?_)
                refine And.intro ?_ True.intro
                refine And.intro ?_ True.intro
                refine And.intro (fun h3 => ?_) (fun h3 => absurd h3 (by simp [BE.val]))
                refine Or.inl (cq awake_fn trivial ?_)
                refine And.intro ?_ True.intro
                exact And.intro rfl trivial
            · refine Or.inr (Exists.intro (.fst 0 (.fst 1 (.fst 3 (.fst 5 (.fst 6 (.fst 8 (.br 2 (.br 4 (.br 7 (.br 9 (.br 10 (.fst 11 (.br 12 (.br 13 (.fst 14 .done) .no) .no)) .no) .no) .no) (.br 7 (.br 4 (.br 9 (.br 10 (.fst 11 (.br 12 (.br 13 (.fst 14 .done) .no) .no)) .no) .no) .no) .no)) (.br 7 (.br 2 (.br 4 (.br 9 (.br 10 (.fst 11 (.br 12 (.br 13 (.fst 14 .done) .no) .no)) .no) .no) .no) .no) .no)))))))) (And.intro (by decide +kernel) ?_))
              refine And.intro ?_ (And.intro ?_ True.intro)
              · refine And.intro ?_ (And.intro ?_ True.intro)
                · refine Or.inr (Or.inl (cm [95, 58, 53] [] (mf_of_q (chk_fn t n (cooG t n (eJ t n)) (cR t n) (cC t n) ((cooP t n (eJ t n)).set ((at'.tmod ((cooP t n (eJ t n)).length : Int) + ((cooP t n (eJ t n)).length : Int)) % ((cooP t n (eJ t n)).length : Int)).toNat ((cooP t n (eJ t n)).getD ((at'.tmod ((cooP t n (eJ t n)).length : Int) + ((cooP t n (eJ t n)).length : Int)) % ((cooP t n (eJ t n)).length : Int)).toNat [])) (!minJ t n) ([] ++ cooM t n (eJ t n)))) ?_))
                  refine And.intro (by repeat' first | refine And.intro ?_ ?_ | exact True.intro | (show (_ : Int) = (_ : Int); omega) | omega | exact rfl | (simp only [RO.len]; omega)) ?_
                  refine And.intro ?_ True.intro
                  refine And.intro ?_ True.intro
                  refine Or.inl (cq (rchk_fn t n (cooG t n (eJ t n)) (cR t n) (cC t n) ((cooP t n (eJ t n)).set ((at'.tmod ((cooP t n (eJ t n)).length : Int) + ((cooP t n (eJ t n)).length : Int)) % ((cooP t n (eJ t n)).length : Int)).toNat ((cooP t n (eJ t n)).getD ((at'.tmod ((cooP t n (eJ t n)).length : Int) + ((cooP t n (eJ t n)).length : Int)) % ((cooP t n (eJ t n)).length : Int)).toNat [])) (!minJ t n) ([] ++ cooM t n (eJ t n))) (And.intro rfl (And.intro rfl (And.intro (by repeat' first | refine And.intro ?_ ?_ | exact True.intro | (show (_ : Int) = (_ : Int); omega) | omega | exact rfl | (simp only [RO.len]; omega)) (And.intro rfl trivial)))) ?_)
                  refine And.intro ?_ True.intro
                  refine And.intro ?_ True.intro
                  refine And.intro (fun h3 => ?_) (fun h3 => absurd h3 (by simp [BE.val]))
                  refine Or.inl (cq awake_fn trivial ?_)
                  refine And.intro ?_ True.intro
                  exact And.intro rfl trivial
                · refine And.intro ?_ True.intro
                  refine Or.inr (Or.inl (cm [95, 58, 53] [] (mf_of_q (chk_fn t n (cooG t n (eJ t n)) (cR t n) (cC t n) ((cooP t n (eJ t n)).set ((at'.tmod ((cooP t n (eJ t n)).length : Int) + ((cooP t n (eJ t n)).length : Int)) % ((cooP t n (eJ t n)).length : Int)).toNat ((cooP t n (eJ t n)).getD ((at'.tmod ((cooP t n (eJ t n)).length : Int) + ((cooP t n (eJ t n)).length : Int)) % ((cooP t n (eJ t n)).length : Int)).toNat [])) (!minJ t n) ([] ++ cooM t n (eJ t n)))) ?_))
                  refine And.intro (by repeat' first | refine And.intro ?_ ?_ | exact True.intro | (show (_ : Int) = (_ : Int); omega) | omega | exact rfl | (simp only [RO.len]; omega)) ?_
                  refine And.intro ?_ True.intro
                  refine Or.inl (cq (rchk_fn t n (cooG t n (eJ t n)) (cR t n) (cC t n) ((cooP t n (eJ t n)).set ((at'.tmod ((cooP t n (eJ t n)).length : Int) + ((cooP t n (eJ t n)).length : Int)) % ((cooP t n (eJ t n)).length : Int)).toNat ((cooP t n (eJ t n)).getD ((at'.tmod ((cooP t n (eJ t n)).length : Int) + ((cooP t n (eJ t n)).length : Int)) % ((cooP t n (eJ t n)).length : Int)).toNat [])) (!minJ t n) ([] ++ cooM t n (eJ t n))) (And.intro rfl (And.intro rfl (And.intro (by repeat' first | refine And.intro ?_ ?_ | exact True.intro | (show (_ : Int) = (_ : Int); omega) | omega | exact rfl | (simp only [RO.len]; omega)) (And.intro rfl trivial)))) ?_)
                  refine And.intro ?_ True.intro
                  refine And.intro ?_ True.intro
                  refine And.intro (fun h3 => ?_) (fun h3 => absurd h3 (by simp [BE.val]))
                  refine Or.inl (cq awake_fn trivial ?_)
                  refine And.intro ?_ True.intro
                  exact And.intro rfl trivial
              · refine And.intro ?_ True.intro
                refine And.intro ?_ True.intro
                refine Or.inr (Or.inl (cm [95, 58, 53] [] (mf_of_q (chk_fn t n (cooG t n (eJ t n)) (cR t n) (cC t n) ((cooP t n (eJ t n)).set ((at'.tmod ((cooP t n (eJ t n)).length : Int) + ((cooP t n (eJ t n)).length : Int)) % ((cooP t n (eJ t n)).length : Int)).toNat ((cooP t n (eJ t n)).getD ((at'.tmod ((cooP t n (eJ t n)).length : Int) + ((cooP t n (eJ t n)).length : Int)) % ((cooP t n (eJ t n)).length : Int)).toNat [])) (!minJ t n) ([] ++ cooM t n (eJ t n)))) ?_))
                refine And.intro (by repeat' first | refine And.intro ?_ ?_ | exact True.intro | (show (_ : Int) = (_ : Int); omega) | omega | exact rfl | (simp only [RO.len]; omega)) ?_
                refine And.intro ?_ True.intro
                refine Or.inl (cq (rchk_fn t n (cooG t n (eJ t n)) (cR t n) (cC t n) ((cooP t n (eJ t n)).set ((at'.tmod ((cooP t n (eJ t n)).length : Int) + ((cooP t n (eJ t n)).length : Int)) % ((cooP t n (eJ t n)).length : Int)).toNat ((cooP t n (eJ t n)).getD ((at'.tmod ((cooP t n (eJ t n)).length : Int) + ((cooP t n (eJ t n)).length : Int)) % ((cooP t n (eJ t n)).length : Int)).toNat [])) (!minJ t n) ([] ++ cooM t n (eJ t n))) (And.intro rfl (And.intro rfl (And.intro (by repeat' first | refine And.intro ?_ ?_ | exact True.intro | (show (_ : Int) = (_ : Int); omega) | omega | exact rfl | (simp only [RO.len]; omega)) (And.intro rfl trivial)))) ?_)
                refine And.intro ?_ True.intro
                refine And.intro ?_ True.intro
                refine And.intro (fun h3 => ?_) (fun h3 => absurd h3 (by simp [BE.val]))
                refine Or.inl (cq awake_fn trivial ?_)
                refine And.intro ?_ True.intro
                exact And.intro rfl trivial
          · refine And.intro (fun h4 => ?_) (fun h4 => ?_)
            · refine Or.inl <| Exists.intro [false, false, false, false, false, false, false, false, false, false, false, false, false, false, false] (And.intro (by decide +kernel) ?_)
              refine cq (chk_fn t n (cooG t n (eJ t n)) (cR t n) (cC t n) (cooP t n (eJ t n)) (!!minJ t n) ([] ++ cooM t n (eJ t n))) (And.intro rfl (And.intro rfl (And.intro (by repeat' first | refine And.intro ?_ ?_ | exact True.intro | (show (_ : Int) = (_ : Int); omega) | omega | exact rfl | (simp only [RO.len]; omega)) (And.intro rfl trivial)))) ?_
              refine cq (rchk_fn t n (cooG t n (eJ t n)) (cR t n) (cC t n) (cooP t n (eJ t n)) (!!minJ t n) ([] ++ cooM t n (eJ t n))) (And.intro rfl (And.intro rfl (And.intro (by repeat' first | refine And.intro ?_ ?_ | exact True.intro | (show (_ : Int) = (_ : Int); omega) | omega | exact rfl | (simp only [RO.len]; omega)) (And.intro rfl trivial)))) ?_
              refine And.intro (fun h3 => ?_) (fun h3 => absurd h3 (by simp [BE.val]))
              refine cq awake_fn trivial ?_
              exact And.intro rfl trivial
            · refine Or.inl <| Exists.intro [false, false, false, false, false, false, false, false, false, false, false, false, false, false, false] (And.intro (by decide +kernel) ?_)
              refine cq (chk_fn t n (cooG t n (eJ t n)) (cR t n) (cC t n) (cooP t n (eJ t n)) (!minJ t n) ([] ++ cooM t n (eJ t n))) (And.intro rfl (And.intro rfl (And.intro (by repeat' first | refine And.intro ?_ ?_ | exact True.intro | (show (_ : Int) = (_ : Int); omega) | omega | exact rfl | (simp only [RO.len]; omega)) (And.intro rfl trivial)))) ?_
              refine cq (rchk_fn t n (cooG t n (eJ t n)) (cR t n) (cC t n) (cooP t n (eJ t n)) (!minJ t n) ([] ++ cooM t n (eJ t n))) (And.intro rfl (And.intro rfl (And.intro (by repeat' first | refine And.intro ?_ ?_ | exact True.intro | (show (_ : Int) = (_ : Int); omega) | omega | exact rfl | (simp only [RO.len]; omega)) (And.intro rfl trivial)))) ?_
              refine And.intro (fun h3 => ?_) (fun h3 => absurd h3 (by simp [BE.val]))
              refine cq awake_fn trivial ?_
              exact And.intro rfl trivial
    | false =>
      refine Or.inl (cq (coo_none t h n hn hr) (And.intro rfl (And.intro rfl trivial)) ?_)
      refine And.intro (fun _ => ?_) (fun h => absurd h (by omega))
      refine And.intro (fun h => absurd h (by omega)) (fun _ => ?_)
      refine And.intro (fun _ => ?_) (fun h => absurd rfl h)
      exact Or.inl (cq awake_fn trivial (And.intro rfl trivial))
  · refine Or.inl (cq (coo_no t j hv) (And.intro rfl (And.intro rfl trivial)) ?_)
    have ho : openV t j = 1 := by unfold openV; rw [if_pos hv0.2]
    rw [ho]
    refine And.intro (fun _ => ?_) (fun h => absurd h (by omega))
    refine And.intro (fun _ => ?_) (fun h => absurd rfl h)
    exact Or.inl (cq awake_fn trivial (And.intro rfl trivial))
theorem reesTrn_fn (t : List (List Int)) (j what at' to : Int) : QF 3 [.ro (.rows .i64 t), .int .i64 j, .int .i64 what, .int .i64 at', .int .i64 to] (.bool (.lit true)) :=
  mkQD Try.func3 (by decide +kernel) rfl (Nat.le_of_ble_eq_true rfl) fun hf => reesTrn_k t j what at' to hf.2.2.2.1
end Go.Proofs.Ytpanlghofeebhaa
end
