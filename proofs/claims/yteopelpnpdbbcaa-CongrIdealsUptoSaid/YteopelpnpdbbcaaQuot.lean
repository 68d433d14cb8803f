import Derived.Test.YteopelpnpdbbcaaQuotLaw
import Derived.Test.YteopelpnpdbbcaaIdealLaw
import Derived.Test.YteopelpnpdbbcaaGroup
import Derived.Test.YteopelpnpdbbcaaIdeal
/- ideal.Quotient and its reference: contracts. -/
namespace Go.Proofs.Yteopelpnpdbbcaa
open Go Go.AM
set_option maxRecDepth 100000
set_option maxHeartbeats 1000000 in
theorem iquot_k (t : List (List Int)) (h : Semi t) (l : List Int) (hl : IdL t l) : fnK TY SP Try.f47 [.ro (.rows .i64 t), .ro (.ints .i64 l)] (.tup [.ro (.rows .i64 (quotQ t l)), .ro (.ints .i64 (clsQ t l)), .int .i64 0]) := by
  have hmost := h.most
  have hpos := hl.1
  have hsl := setB_len t.length (setI l)
  have hrl := restQ_len t l
  refine Or.inl (cq (valid_fn t) (And.intro rfl trivial) ?_)
  refine And.intro (fun h1 => absurd (valid_zero.2 h) h1) (fun _ => ?_)
  refine Or.inl (cq (isIdeal_fn t h.toSh l) (And.intro rfl (And.intro rfl trivial)) ?_)
  refine And.intro (fun h1 => ?_) (fun _ => ?_)
  · rw [idB_true.2 hl] at h1; cases h1
  refine Or.inl (cq (marked_fn t.length l (by omega) hl.2.2.1) (And.intro rfl (And.intro rfl trivial)) ?_)
  refine And.intro (by omega) ?_
  refine And.intro (by omega) ?_
  refine And.intro (by omega) ?_
  refine Exists.intro [36] <| lp2 (fun (x : Nat) (_ : List Int) => [(39, .int .i64 x), (10, .vec 36)]) (fun x C => [(32, .vec 0 (.ints .i64 C) []), (36, .vec 0 (.ints .i64 (restTo t l x)) [])]) (fun x C => x ≤ t.length ∧ C.length = t.length ∧ ∀ y, y < t.length → C.getD y 0 = if y < x then clsV t l y else 0) (fun x _ => t.length - x) 0 (List.replicate t.length 0) ⟨Nat.zero_le _, by simp, fun y hy => by simp [hy]⟩ (by repeat' first | refine And.intro ?_ ?_ | exact True.intro | (show (_ : Int) = (_ : Int); omega) | omega | exact rfl | (simp only [RO.len]; omega)) ?_
  rintro x C ⟨hx, hC, hCy⟩
  have hnl := nonTo_len t l x
  have hrt : (restTo t l x).length = (nonTo t l x).length + 1 := rfl
  refine And.intro (fun h1 => ?_) (fun h1 => ?_)
  · have hxl : x < t.length := by omega
    refine And.intro (by omega) ?_
    refine And.intro (fun h2 => ?_) (fun h2 => ?_)
    · have h2 : setI l x = false := by
        have h2 : (!(setB t.length (setI l)).getD x false) = true := h2
        rw [setB_get hxl] at h2; simpa using h2
      have e : restTo t l x ++ [(x : Int)] = restTo t l (x + 1) := by unfold restTo; rw [nonTo_yes hxl h2]; rfl
      refine And.intro (by omega) ?_
      refine And.intro (by omega) ?_
      refine And.intro (by rw [List.length_append, List.length_singleton]; omega) ?_
      refine And.intro (by omega) ?_
      refine nx (x + 1, C.set x (((restTo t l x).length : Nat) : Int)) ⟨by omega, by rw [List.length_set]; exact hC, fun y hy => ?_⟩ (show t.length - (x + 1) < t.length - x by omega) ?_
      · by_cases e1 : y = x
        · subst e1
          rw [getD_set_eq (by omega), if_pos (by omega)]
          unfold clsV; rw [if_neg (by simp [h2]), hrt]
        · rw [getD_set_ne (Ne.symm e1), hCy y hy]
          by_cases e2 : y < x
          · rw [if_pos e2, if_pos (by omega)]
          · rw [if_neg e2, if_neg (by omega)]
      · repeat' first | refine And.intro ?_ ?_ | exact True.intro | exact congrArg (RO.ints .i64) e | (show (_ : Int) = (_ : Int); omega) | omega | exact rfl
    · have h2 : setI l x = true := by
        have h2 : (!(setB t.length (setI l)).getD x false) = false := h2
        rw [setB_get hxl] at h2; simpa using h2
      have e : restTo t l x = restTo t l (x + 1) := by unfold restTo; rw [nonTo_no hxl h2]
      refine And.intro (by omega) ?_
      refine nx (x + 1, C) ⟨by omega, hC, fun y hy => ?_⟩ (show t.length - (x + 1) < t.length - x by omega) ?_
      · rw [hCy y hy]
        by_cases e1 : y = x
        · subst e1
          rw [if_neg (by omega), if_pos (by omega)]
          unfold clsV; rw [if_pos h2]
        · by_cases e2 : y < x
          · rw [if_pos e2, if_pos (by omega)]
          · rw [if_neg e2, if_neg (by omega)]
      · repeat' first | refine And.intro ?_ ?_ | exact True.intro | exact congrArg (RO.ints .i64) e | (show (_ : Int) = (_ : Int); omega) | omega | exact rfl
  · have hxn : x = t.length := by omega
    subst hxn
    have hCe : C = clsQ t l := ext_getD 0 (by rw [clsQ_len]; exact hC) fun y hy => by rw [hCy y (by omega), if_pos (by omega), clsQ_get (by omega)]
    subst hCe
    have hcl := clsQ_len t l
    refine And.intro (by omega) ?_
    refine And.intro (show ((restQ t l).length : Int) ≤ 2199023255552 by omega) ?_
    refine Or.inl ?_
    refine Exists.intro [] <| lp2 (fun (i : Nat) (_ : List (List Int)) => [(62, .int .i64 i)]) (fun _ Q => [(59, .vec 0 (.rows .i64 Q) [])]) (fun i Q => i ≤ (restQ t l).length ∧ Q.length = (restQ t l).length ∧ ∀ j, j < i → Q.getD j [] = (quotQ t l).getD j []) (fun i _ => (restQ t l).length - i) 0 (List.replicate (restQ t l).length []) ⟨Nat.zero_le _, by simp, by omega⟩ (by repeat' first | refine And.intro ?_ ?_ | exact True.intro | (show (_ : Int) = (_ : Int); omega) | omega | exact rfl | (simp only [RO.len]; omega)) ?_
    rintro i Q ⟨hi, hQ, hQj⟩
    refine And.intro (fun h2 => ?_) (fun h2 => ?_)
    · have h2 : (i : Int) < ((restQ t l).length : Int) := h2
      have hil : i < (restQ t l).length := by omega
      have gi := restQ_get hl hil
      refine And.intro (show 0 ≤ (i : Int) ∧ (i : Int) < ((restQ t l).length : Int) by omega) ?_
      refine And.intro (by omega) ?_
      refine And.intro (show ((restQ t l).length : Int) ≤ 17592186044416 by omega) ?_
      refine And.intro (by omega) ?_
      refine And.intro (by omega) ?_
      refine Exists.intro [] <| lp2 (fun (k : Nat) (_ : List Int) => [(75, .int .i64 k)]) (fun _ r => [(71, .vec 0 (.ints .i64 r) [])]) (fun k r => k ≤ (restQ t l).length ∧ r.length = (restQ t l).length ∧ ∀ j, j < k → r.getD j 0 = quotV t l i j) (fun k _ => (restQ t l).length - k) 0 (List.replicate (restQ t l).length 0) ⟨Nat.zero_le _, by simp, by omega⟩ (by repeat' first | refine And.intro ?_ ?_ | exact True.intro | (show (_ : Int) = (_ : Int); omega) | omega | exact rfl | (simp; omega)) ?_
      rintro k r ⟨hk, hr, hrj⟩
      refine And.intro (fun h3 => ?_) (fun h3 => ?_)
      · have h3 : (k : Int) < ((restQ t l).length : Int) := h3
        have hkl : k < (restQ t l).length := by omega
        have gk := restQ_get hl hkl
        have he := h.toSh.ent (x := ((restQ t l).getD i 0).toNat) (y := ((restQ t l).getD k 0).toNat) (by omega) (by omega)
        have hrow := h.toSh.len (x := ((restQ t l).getD i 0).toNat) (by omega)
        have hcl := clsQ_len t l
        have hv : (clsQ t l).getD ((t.getD ((restQ t l).getD i 0).toNat []).getD ((restQ t l).getD k 0).toNat 0).toNat 0 = quotV t l i k := by
          rw [he.1, Int.toNat_natCast, clsQ_get he.2]; rfl
        refine And.intro (by omega) ?_
        refine Or.inl ?_
        refine Exists.intro [false, false, false, false, false, false, false, false, false, false, false, false, false, false, false, false, true] (And.intro (by decide +kernel) ?_)
        refine And.intro (by omega) ?_
        refine And.intro (fun _ => ?_) (fun h4 => absurd rfl h4)
        refine And.intro (show 0 ≤ (restQ t l).getD i 0 ∧ (restQ t l).getD i 0 < (t.length : Int) from ⟨gi.1, gi.2.1⟩) ?_
        refine And.intro (show 0 ≤ (restQ t l).getD k 0 ∧ (restQ t l).getD k 0 < ((t.getD ((restQ t l).getD i 0).toNat []).length : Int) by rw [hrow]; exact ⟨gk.1, gk.2.1⟩) ?_
        refine And.intro (show 0 ≤ (t.getD ((restQ t l).getD i 0).toNat []).getD ((restQ t l).getD k 0).toNat 0 ∧ (t.getD ((restQ t l).getD i 0).toNat []).getD ((restQ t l).getD k 0).toNat 0 < ((clsQ t l).length : Int) by rw [he.1, hcl]; omega) ?_
        refine And.intro (by omega) ?_
        refine And.intro (by omega) ?_
        refine And.intro (by omega) ?_
        refine nx (k + 1, r.set k (quotV t l i k)) ⟨by omega, by rw [List.length_set]; exact hr, fun j hj => ?_⟩ (show (restQ t l).length - (k + 1) < (restQ t l).length - k by omega) ?_
        · by_cases e1 : j = k
          · subst e1; rw [getD_set_eq (by omega)]
          · rw [getD_set_ne (Ne.symm e1)]; exact hrj j (by omega)
        · repeat' first | refine And.intro ?_ ?_ | exact True.intro | exact congrArg (fun v => RO.ints .i64 (r.set k v)) hv | (show (_ : Int) = (_ : Int); omega) | omega | exact rfl
      · have h3 : ((restQ t l).length : Int) ≤ (k : Int) := h3
        have e : r = (quotQ t l).getD i [] := by
          rw [quotQ_row hil]
          refine ext_getD 0 (by simp; exact hr) fun j hj => ?_
          rw [hrj j (by omega), map_range_getD _ _ _ _ (by omega)]
        refine And.intro (by omega) ?_
        refine nx (i + 1, Q.set i r) ⟨by omega, by rw [List.length_set]; exact hQ, fun j hj => ?_⟩ (show (restQ t l).length - (i + 1) < (restQ t l).length - i by omega) (by repeat' first | refine And.intro ?_ ?_ | exact True.intro | (show (_ : Int) = (_ : Int); omega) | omega | exact rfl | (simp only [RO.len]; omega))
        by_cases e1 : j = i
        · subst e1; rw [getD_set_eq (by omega), e]
        · rw [getD_set_ne (Ne.symm e1)]; exact hQj j (by omega)
    · have h2 : ((restQ t l).length : Int) ≤ (i : Int) := h2
      have e : Q = quotQ t l := ext_getD [] (by rw [quotQ_len]; exact hQ) fun j hj => hQj j (by omega)
      subst e
      exact ⟨⟨trivial, rfl⟩, ⟨trivial, rfl⟩, rfl, trivial⟩
theorem iquot_fn (t : List (List Int)) (h : Semi t) (l : List Int) (hl : IdL t l) : QF 47 [.ro (.rows .i64 t), .ro (.ints .i64 l)] (.tup [.ro (.rows .i64 (quotQ t l)), .ro (.ints .i64 (clsQ t l)), .int .i64 0]) := mkQ Try.func47 (by decide +kernel) rfl (Nat.le_of_ble_eq_true rfl) fun _ => iquot_k t h l hl
end Go.Proofs.Yteopelpnpdbbcaa
