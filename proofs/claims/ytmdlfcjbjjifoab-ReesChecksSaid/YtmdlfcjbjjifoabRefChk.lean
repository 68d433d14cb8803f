/- The reference's Check. -/
import Derived.Test.YtmdlfcjbjjifoabChk
import Derived.Test.YtmdlfcjbjjifoabRefRees
namespace Go.Proofs.Ytmdlfcjbjjifoab
open Go Go.AM
set_option maxRecDepth 100000

set_option maxHeartbeats 1000000 in
theorem rchk_ok (t : List (List Int)) (j : Nat) (G : List (List Int)) (R C : Int) (P : List (List Int)) (z : Bool) (m : List Int) (h : Semi t) (hj : j < numJ t) (hr : Rees G R C P z) (hz : z ≠ minJ t j) (hm : m.length = t.length) :
    fnK TY SP Try.f7 [.ro (.rows .i64 t), .int .i64 j, rav G R C P z, .ro (.ints .i64 m)] (.bool (.v (chkB t j G R C P z m))) := by
  have hmost := h.most
  have hsz := hr.le
  have hzc := z_cases z
  have hsd : sizeI G.length R C z = G.length * R * C + zI z := rfl
  have hpos := size_pos (z := z) hsz.1 hsz.2.2.1 hsz.2.2.2.2.1
  have hel := elems_le hj
  have hS := chk_size hsz.2.2.2.2.2.2.2.2.2 hzc hsd
  have hin : ∀ x, x < t.length → (setB t.length fun x => (elemsJ t j).contains (x : Int)).getD x false = decide ((classJ t).getD x 0 = (j : Int)) := fun x hx => by
    rw [setB_get (f := fun x => (elemsJ t j).contains (x : Int)) hx]
    have : (elemsJ t j).contains (x : Int) = true ↔ (classJ t).getD x 0 = (j : Int) := by
      rw [List.contains_iff_mem, mem_elems hj, Int.toNat_natCast]
      exact ⟨fun hh => hh.2.2, fun hh => ⟨by omega, by omega, hh⟩⟩
    rw [Bool.eq_iff_iff, this, decide_eq_true_iff]
  have hsl := setB_len t.length fun x => (elemsJ t j).contains (x : Int)
  clear hsz hsd
  refine Or.inl (cq (rclass_fn t h j hj) (And.intro rfl (And.intro rfl trivial)) ?_)
  refine Exists.intro [false, false, false, false, false, false, false, false, false, false, false, false, false, false, false, false, false, false, false, false, false, false, false, false, false, false, false, false, false, false] (And.intro (by decide +kernel) ?_)
  refine And.intro (fun h1 => absurd rfl h1) (fun _ => ?_)
  refine cq (rval_fn G R C P z) (And.intro (by repeat' first | refine And.intro ?_ ?_ | exact True.intro | (show (_ : Int) = (_ : Int); omega) | omega | exact rfl | (simp only [RO.len]; omega)) trivial) ?_
  rw [rees_zero.2 hr]
  refine And.intro (fun h1 => absurd rfl h1) (fun _ => ?_)
  refine And.intro (fun h1 => absurd (eq_of_beq (show (z == minJ t j) = true from h1)) hz) (fun _ => ?_)
  refine And.intro (fun h2 => absurd (show (m.length : Int) = t.length by omega) h2) (fun _ => ?_)
  refine cq (rsize_fn G R C P z hr) (And.intro (by repeat' first | refine And.intro ?_ ?_ | exact True.intro | (show (_ : Int) = (_ : Int); omega) | omega | exact rfl | (simp only [RO.len]; omega)) trivial) ?_
  refine cq (base_fn G R C P z) (And.intro (by repeat' first | refine And.intro ?_ ?_ | exact True.intro | (show (_ : Int) = (_ : Int); omega) | omega | exact rfl | (simp only [RO.len]; omega)) trivial) ?_
  refine And.intro (by omega) ?_
  refine And.intro (fun h1 => ?_) (fun h1 => ?_)
  · exact And.intro (chk_cnt (show ((elemsJ t j).length : Int) ≠ sizeI G.length R C z - zI z from h1)) trivial
  have hcn : ((elemsJ t j).length : Int) = sizeI G.length R C z - zI z := h1
  refine Exists.intro [false, false, false, false, false, false, false, false, false] (And.intro (by decide +kernel) ?_)
  refine cq (rset_fn (elemsJ t j) t.length (by omega)) (And.intro rfl (And.intro rfl trivial)) ?_
  refine cq (rsize_fn G R C P z hr) (And.intro (by repeat' first | refine And.intro ?_ ?_ | exact True.intro | (show (_ : Int) = (_ : Int); omega) | omega | exact rfl | (simp only [RO.len]; omega)) trivial) ?_
  refine And.intro (by omega) ?_
  refine And.intro (by omega) ?_
  refine Exists.intro [] <| lp2 (fun (i : Nat) (_ : List Bool) => [(66, .int .i64 i)]) (fun _ q => [(63, .vec 0 (.bools q) [])]) (fun i q => ChkInv t j (zI z) (sizeI G.length R C z) m i q) (fun i _ => t.length - i) 0 (List.replicate (sizeI G.length R C z).toNat false) (.start _ (by omega)) (by repeat' first | refine And.intro ?_ ?_ | exact True.intro | (show (_ : Int) = (_ : Int); omega) | omega | exact rfl | (simp only [RO.len]; omega)) ?_
  intro i q H
  have hq := H.len
  have hle := H.le
  refine And.intro (fun h1 => ?_) (fun h1 => ?_)
  · have hi : i < t.length := by have h1 : (i : Int) < t.length := h1; omega
    have eg := hin i hi
    refine And.intro (show 0 ≤ (i : Int) ∧ (i : Int) < ((setB t.length fun x => (elemsJ t j).contains (x : Int)).length : Int) by omega) ?_
    refine And.intro (fun h2 => ?_) (fun h2 => ?_)
    · have h2 : (!(setB t.length fun x => (elemsJ t j).contains (x : Int)).getD i false) = true := h2
      rw [eg] at h2
      have hc : (classJ t).getD i 0 ≠ (j : Int) := by simpa using h2
      refine And.intro (show 0 ≤ (i : Int) ∧ (i : Int) < (m.length : Int) by omega) ?_
      refine And.intro (fun h3 => ?_) (fun h3 => ?_)
      · exact And.intro (chk_map hi (ChkInv.no1 hc (show m.getD i 0 ≠ -1 from h3))) trivial
      · refine And.intro (by omega) ?_
        exact nx (i + 1, q) (H.skip hi hc (show m.getD i 0 = -1 from h3)) (show t.length - (i + 1) < t.length - i by omega) (by repeat' first | refine And.intro ?_ ?_ | exact True.intro | (show (_ : Int) = (_ : Int); omega) | omega | exact rfl | (simp only [RO.len]; omega))
    · have h2 : (!(setB t.length fun x => (elemsJ t j).contains (x : Int)).getD i false) = false := h2
      rw [eg] at h2
      have hc : (classJ t).getD i 0 = (j : Int) := by simpa using h2
      refine Exists.intro [false, false, false, false, false, false, false, false, false, false, false, false, false, false, false, false, false, false, false, false, false, false, false, false, false] (And.intro (by decide +kernel) ?_)
      refine And.intro (show 0 ≤ (i : Int) ∧ (i : Int) < (m.length : Int) by omega) ?_
      refine cq (base_fn G R C P z) (And.intro (by repeat' first | refine And.intro ?_ ?_ | exact True.intro | (show (_ : Int) = (_ : Int); omega) | omega | exact rfl | (simp only [RO.len]; omega)) trivial) ?_
      refine And.intro (fun h3 => ?_) (fun h3 => ?_)
      · exact And.intro (chk_map hi (ChkInv.no2 hc (Or.inl (show m.getD i 0 < zI z from h3)))) trivial
      have h3 : zI z ≤ m.getD i 0 := h3
      refine And.intro (show 0 ≤ (i : Int) ∧ (i : Int) < (m.length : Int) by omega) ?_
      refine cq (rsize_fn G R C P z hr) (And.intro (by repeat' first | refine And.intro ?_ ?_ | exact True.intro | (show (_ : Int) = (_ : Int); omega) | omega | exact rfl | (simp only [RO.len]; omega)) trivial) ?_
      refine And.intro (fun h4 => ?_) (fun h4 => ?_)
      · exact And.intro (chk_map hi (ChkInv.no2 hc (Or.inr (show sizeI G.length R C z ≤ m.getD i 0 from h4)))) trivial
      have h4 : m.getD i 0 < sizeI G.length R C z := h4
      refine And.intro (show 0 ≤ (i : Int) ∧ (i : Int) < (m.length : Int) by omega) ?_
      refine And.intro (show 0 ≤ m.getD i 0 ∧ m.getD i 0 < (q.length : Int) by omega) ?_
      refine And.intro (fun h5 => ?_) (fun h5 => ?_)
      · exact And.intro (chk_map hi (H.no3 (by omega) hc h3 h4 h5)) trivial
      · refine And.intro (show 0 ≤ (i : Int) ∧ (i : Int) < (m.length : Int) by omega) ?_
        refine And.intro (show 0 ≤ m.getD i 0 ∧ m.getD i 0 < (q.length : Int) by omega) ?_
        refine And.intro (by omega) ?_
        refine And.intro (by omega) ?_
        exact nx (i + 1, q.set (m.getD i 0).toNat true) (H.put (by omega) hi hc h3 h4 h5) (show t.length - (i + 1) < t.length - i by omega) (by repeat' first | refine And.intro ?_ ?_ | exact True.intro | (show (_ : Int) = (_ : Int); omega) | omega | exact rfl | (simp only [RO.len]; omega))
  · have hall : ∀ x, x < t.length → mapAt t j (zI z) (sizeI G.length R C z) m x := fun x hx => H.ok x (by have h1 : (t.length : Int) ≤ i := h1; omega)
    clear H hq hle
    refine Exists.intro [] <| lp (X := Nat) (fun a => [(113, .int .i64 a)]) (fun _ => []) (fun a => a ≤ (elemsJ t j).length ∧ PairsTo t j G C P z m a) (fun a => (elemsJ t j).length - a) 0 ⟨Nat.zero_le _, fun k hk => absurd hk (Nat.not_lt_zero _)⟩ (by repeat' first | refine And.intro ?_ ?_ | exact True.intro | (show (_ : Int) = (_ : Int); omega) | omega | exact rfl | (simp only [RO.len]; omega)) ?_
    rintro a ⟨han, hps⟩
    refine And.intro (fun h3 => ?_) (fun h3 => ?_)
    · have ha : a < (elemsJ t j).length := by omega
      have ga := elems_get hj ha
      have ax : ((elemsJ t j).getD a 0).toNat < t.length := by omega
      have ma := (hall _ ax).2 ga.2.2
      refine And.intro (by omega) ?_
      refine Exists.intro [] <| lp (X := Nat) (fun b => [(119, .int .i64 b)]) (fun _ => []) (fun b => b ≤ (elemsJ t j).length ∧ ∀ c, c < b → pairAt t j G C P z m ((elemsJ t j).getD a 0).toNat ((elemsJ t j).getD c 0).toNat) (fun b => (elemsJ t j).length - b) 0 ⟨Nat.zero_le _, fun k hk => absurd hk (Nat.not_lt_zero _)⟩ (by repeat' first | refine And.intro ?_ ?_ | exact True.intro | (show (_ : Int) = (_ : Int); omega) | omega | exact rfl | (simp only [RO.len]; omega)) ?_
      rintro b ⟨hbn, hpc⟩
      refine And.intro (fun h4 => ?_) (fun h4 => ?_)
      · have hb : b < (elemsJ t j).length := by omega
        have gb := elems_get hj hb
        have ay : ((elemsJ t j).getD b 0).toNat < t.length := by omega
        have mb := (hall _ ay).2 gb.2.2
        have hrl := h.toSh.len ax
        have e1 := h.toSh.ent ax ay
        have eg := hin _ e1.2
        have hmu : (if 0 ≤ m.getD ((elemsJ t j).getD a 0).toNat 0 ∧ m.getD ((elemsJ t j).getD a 0).toNat 0 < sizeI G.length R C z ∧ 0 ≤ m.getD ((elemsJ t j).getD b 0).toNat 0 ∧ m.getD ((elemsJ t j).getD b 0).toNat 0 < sizeI G.length R C z then mulI G C P z (m.getD ((elemsJ t j).getD a 0).toNat 0) (m.getD ((elemsJ t j).getD b 0).toNat 0) else -1) = mulI G C P z (m.getD ((elemsJ t j).getD a 0).toNat 0) (m.getD ((elemsJ t j).getD b 0).toNat 0) := if_pos ⟨by omega, by omega, by omega, by omega⟩
        have hmf := rmul_fn G R C P z hr (m.getD ((elemsJ t j).getD a 0).toNat 0) (m.getD ((elemsJ t j).getD b 0).toNat 0)
        rw [hmu] at hmf
        refine And.intro (by omega) ?_
        refine Exists.intro [false, false, false, false, false, false, false, false, false, false, false] (And.intro (by decide +kernel) ?_)
        refine And.intro (show 0 ≤ ((elemsJ t j).getD a 0) ∧ ((elemsJ t j).getD a 0) < (m.length : Int) by omega) ?_
        refine And.intro (show 0 ≤ ((elemsJ t j).getD b 0) ∧ ((elemsJ t j).getD b 0) < (m.length : Int) by omega) ?_
        refine cq hmf (And.intro (by repeat' first | refine And.intro ?_ ?_ | exact True.intro | (show (_ : Int) = (_ : Int); omega) | omega | exact rfl | (simp only [RO.len]; omega)) (And.intro rfl (And.intro rfl trivial))) ?_
        refine And.intro (show 0 ≤ ((elemsJ t j).getD a 0) ∧ ((elemsJ t j).getD a 0) < (t.length : Int) by omega) ?_
        refine And.intro (show 0 ≤ ((elemsJ t j).getD b 0) ∧ ((elemsJ t j).getD b 0) < ((t.getD ((elemsJ t j).getD a 0).toNat []).length : Int) by omega) ?_
        refine And.intro (show 0 ≤ (t.getD ((elemsJ t j).getD a 0).toNat []).getD ((elemsJ t j).getD b 0).toNat 0 ∧ (t.getD ((elemsJ t j).getD a 0).toNat []).getD ((elemsJ t j).getD b 0).toNat 0 < ((setB t.length fun x => (elemsJ t j).contains (x : Int)).length : Int) by omega) ?_
        refine And.intro (fun h5 => ?_) (fun h5 => ?_)
        · have h5 : (setB t.length fun x => (elemsJ t j).contains (x : Int)).getD (en t ((elemsJ t j).getD a 0).toNat ((elemsJ t j).getD b 0).toNat) false = true := h5
          rw [eg, decide_eq_true_eq] at h5
          refine And.intro (show 0 ≤ ((elemsJ t j).getD a 0) ∧ ((elemsJ t j).getD a 0) < (t.length : Int) by omega) ?_
          refine And.intro (show 0 ≤ ((elemsJ t j).getD b 0) ∧ ((elemsJ t j).getD b 0) < ((t.getD ((elemsJ t j).getD a 0).toNat []).length : Int) by omega) ?_
          refine And.intro (show 0 ≤ (t.getD ((elemsJ t j).getD a 0).toNat []).getD ((elemsJ t j).getD b 0).toNat 0 ∧ (t.getD ((elemsJ t j).getD a 0).toNat []).getD ((elemsJ t j).getD b 0).toNat 0 < (m.length : Int) by omega) ?_
          refine And.intro (fun h6 => ?_) (fun h6 => ?_)
          · exact And.intro (chk_pair ha hb fun hh => h6 (hh.1 h5)) trivial
          refine And.intro (show 0 ≤ ((elemsJ t j).getD a 0) ∧ ((elemsJ t j).getD a 0) < (t.length : Int) by omega) ?_
          refine And.intro (show 0 ≤ ((elemsJ t j).getD b 0) ∧ ((elemsJ t j).getD b 0) < ((t.getD ((elemsJ t j).getD a 0).toNat []).length : Int) by omega) ?_
          refine And.intro (show 0 ≤ (t.getD ((elemsJ t j).getD a 0).toNat []).getD ((elemsJ t j).getD b 0).toNat 0 ∧ (t.getD ((elemsJ t j).getD a 0).toNat []).getD ((elemsJ t j).getD b 0).toNat 0 < ((setB t.length fun x => (elemsJ t j).contains (x : Int)).length : Int) by omega) ?_
          refine And.intro (fun h7 => by have h7 : (!(setB t.length fun x => (elemsJ t j).contains (x : Int)).getD (en t ((elemsJ t j).getD a 0).toNat ((elemsJ t j).getD b 0).toNat) false) = true := h7; rw [eg, decide_eq_true h5] at h7; cases h7) (fun _ => ?_)
          refine And.intro (by omega) ?_
          refine nx (b + 1) ⟨by omega, fun c hc => ?_⟩ (show (elemsJ t j).length - (b + 1) < (elemsJ t j).length - b by omega) (by repeat' first | refine And.intro ?_ ?_ | exact True.intro | (show (_ : Int) = (_ : Int); omega) | omega | exact rfl | (simp only [RO.len]; omega))
          by_cases hcb : c = b
          · rw [hcb]; exact ⟨fun _ => h6, fun hh => absurd h5 hh⟩
          · exact hpc c (by omega)
        · have h5 : (setB t.length fun x => (elemsJ t j).contains (x : Int)).getD (en t ((elemsJ t j).getD a 0).toNat ((elemsJ t j).getD b 0).toNat) false = false := h5
          rw [eg, decide_eq_false_iff_not] at h5
          refine And.intro (show 0 ≤ ((elemsJ t j).getD a 0) ∧ ((elemsJ t j).getD a 0) < (t.length : Int) by omega) ?_
          refine And.intro (show 0 ≤ ((elemsJ t j).getD b 0) ∧ ((elemsJ t j).getD b 0) < ((t.getD ((elemsJ t j).getD a 0).toNat []).length : Int) by omega) ?_
          refine And.intro (show 0 ≤ (t.getD ((elemsJ t j).getD a 0).toNat []).getD ((elemsJ t j).getD b 0).toNat 0 ∧ (t.getD ((elemsJ t j).getD a 0).toNat []).getD ((elemsJ t j).getD b 0).toNat 0 < ((setB t.length fun x => (elemsJ t j).contains (x : Int)).length : Int) by omega) ?_
          refine And.intro (fun _ => ?_) (fun h7 => by have h7 : (!(setB t.length fun x => (elemsJ t j).contains (x : Int)).getD (en t ((elemsJ t j).getD a 0).toNat ((elemsJ t j).getD b 0).toNat) false) = false := h7; rw [eg, decide_eq_false h5] at h7; cases h7)
          refine And.intro (fun h6 => ?_) (fun h6 => ?_)
          · exact And.intro (chk_pair ha hb fun hh => h6 (hh.2 h5).2) trivial
          refine And.intro (fun hw => ?_) (fun hw => ?_)
          · have hw : (!z) = true := hw
            exact And.intro (chk_pair ha hb fun hh => by rw [(hh.2 h5).1] at hw; cases hw) trivial
          have hw : (!z) = false := hw
          refine And.intro (by omega) ?_
          refine nx (b + 1) ⟨by omega, fun c hc => ?_⟩ (show (elemsJ t j).length - (b + 1) < (elemsJ t j).length - b by omega) (by repeat' first | refine And.intro ?_ ?_ | exact True.intro | (show (_ : Int) = (_ : Int); omega) | omega | exact rfl | (simp only [RO.len]; omega))
          by_cases hcb : c = b
          · rw [hcb]; exact ⟨fun hh => absurd hh h5, fun _ => ⟨by simpa using hw, h6⟩⟩
          · exact hpc c (by omega)
      · refine And.intro (by omega) ?_
        refine nx (a + 1) ⟨by omega, fun c hc => ?_⟩ (show (elemsJ t j).length - (a + 1) < (elemsJ t j).length - a by omega) (by repeat' first | refine And.intro ?_ ?_ | exact True.intro | (show (_ : Int) = (_ : Int); omega) | omega | exact rfl | (simp only [RO.len]; omega))
        by_cases hca : c = a
        · rw [hca]; exact fun d hd => hpc d (by omega)
        · exact hps c (by omega)
    · have hae : a = (elemsJ t j).length := by omega
      rw [hae] at hps
      exact And.intro (chk_yes (chk_ok h hj hr hz hm) ⟨hall, hcn, hps⟩) trivial
theorem rchk_k (t : List (List Int)) (j : Int) (G : List (List Int)) (R C : Int) (P : List (List Int)) (z : Bool) (m : List Int) :
    fnK TY SP Try.f7 [.ro (.rows .i64 t), .int .i64 j, rav G R C P z, .ro (.ints .i64 m)] (.bool (.v (chkB t j G R C P z m))) := by
  by_cases hp : validV t = 0 ∧ 0 ≤ j ∧ j < numJ t
  · obtain ⟨k, rfl⟩ : ∃ k : Nat, j = (k : Int) := ⟨j.toNat, by omega⟩
    have h := valid_zero.1 hp.1
    have hj : k < numJ t := by omega
    by_cases hr : reesV G R C P z = 0
    · by_cases hz : z = minJ t k
      · refine Or.inl (cq (rclass_fn t h k hj) (And.intro rfl (And.intro rfl trivial)) ?_)
        refine Exists.intro [false, false, false, false, false, false, false, false, false, false, false, false, false, false, false, false, false, false, false, false, false, false, false, false, false, false, false, false, false, false] (And.intro (by decide +kernel) ?_)
        refine And.intro (fun h1 => absurd rfl h1) (fun _ => ?_)
        refine cq (rval_fn G R C P z) (And.intro (by repeat' first | refine And.intro ?_ ?_ | exact True.intro | (show (_ : Int) = (_ : Int); omega) | omega | exact rfl | (simp only [RO.len]; omega)) trivial) ?_
        refine And.intro (fun h1 => absurd hr h1) (fun _ => ?_)
        refine And.intro (fun _ => ?_) (fun h1 => absurd (show (z == minJ t k) = false from h1) (by rw [hz]; simp))
        exact And.intro (chk_pre fun hh => hh.2.2.1 hz) trivial
      · by_cases hm : m.length = t.length
        · exact rchk_ok t k G R C P z m h hj (rees_zero.1 hr) hz hm
        · refine Or.inl (cq (rclass_fn t h k hj) (And.intro rfl (And.intro rfl trivial)) ?_)
          refine Exists.intro [false, false, false, false, false, false, false, false, false, false, false, false, false, false, false, false, false, false, false, false, false, false, false, false, false, false, false, false, false, false] (And.intro (by decide +kernel) ?_)
          refine And.intro (fun h1 => absurd rfl h1) (fun _ => ?_)
          refine cq (rval_fn G R C P z) (And.intro (by repeat' first | refine And.intro ?_ ?_ | exact True.intro | (show (_ : Int) = (_ : Int); omega) | omega | exact rfl | (simp only [RO.len]; omega)) trivial) ?_
          refine And.intro (fun h1 => absurd hr h1) (fun _ => ?_)
          refine And.intro (fun h1 => absurd (eq_of_beq (show (z == minJ t k) = true from h1)) hz) (fun _ => ?_)
          refine And.intro (fun _ => ?_) (fun h1 => absurd (show (m.length : Int) = (t.length : Int) from h1) (by omega))
          exact And.intro (chk_pre fun hh => hm hh.2.2.2) trivial
    · refine Or.inl (cq (rclass_fn t h k hj) (And.intro rfl (And.intro rfl trivial)) ?_)
      refine Exists.intro [false, false, false, false, false, false, false, false, false, false, false, false, false, false, false, false, false, false, false, false, false, false, false, false, false, false, false, false, false, false] (And.intro (by decide +kernel) ?_)
      refine And.intro (fun h1 => absurd rfl h1) (fun _ => ?_)
      refine cq (rval_fn G R C P z) (And.intro (by repeat' first | refine And.intro ?_ ?_ | exact True.intro | (show (_ : Int) = (_ : Int); omega) | omega | exact rfl | (simp only [RO.len]; omega)) trivial) ?_
      refine And.intro (fun _ => ?_) (fun h1 => absurd h1 hr)
      exact And.intro (chk_pre fun hh => hr hh.2.1) trivial
  · refine Or.inl (cq (rclass_no t j hp) (And.intro rfl (And.intro rfl trivial)) ?_)
    refine Exists.intro [false, false, false, false, false, false, false, false, false, false, false, false, false, false, false, false, false, false, false, false, false, false, false, false, false, false, false, false, false, false] (And.intro (by decide +kernel) ?_)
    refine And.intro (fun _ => ?_) (fun h1 => absurd h1 (openV_ne t j))
    exact And.intro (chk_pre fun hh => hp hh.1) trivial
theorem rchk_fn (t : List (List Int)) (j : Int) (G : List (List Int)) (R C : Int) (P : List (List Int)) (z : Bool) (m : List Int) :
    QF 7 [.ro (.rows .i64 t), .int .i64 j, rav G R C P z, .ro (.ints .i64 m)] (.bool (.v (chkB t j G R C P z m))) := mkQ Try.func7 (by decide +kernel) rfl (Nat.le_of_ble_eq_true rfl) fun _ => rchk_k t j G R C P z m
end Go.Proofs.Ytmdlfcjbjjifoab
