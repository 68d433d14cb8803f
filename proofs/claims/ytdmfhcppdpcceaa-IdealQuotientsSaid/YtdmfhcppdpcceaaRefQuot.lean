/- ideal.the reference of Quotient: contracts. -/
import Derived.Test.YtdmfhcppdpcceaaQuotLaw
import Derived.Test.YtdmfhcppdpcceaaRefIdeal
namespace Go.Proofs.Ytdmfhcppdpcceaa
open Go Go.AM
set_option maxRecDepth 100000
set_option maxHeartbeats 1000000 in
theorem rquot_k (t : List (List Int)) (h : Semi t) (l : List Int) (hl : IdL t l) : fnK TY SP Try.f35 [.ro (.rows .i64 t), .ro (.ints .i64 l)] (.tup [.ro (.rows .i64 (quotQ t l)), .ro (.ints .i64 (clsQ t l)), .int .i64 0]) := by
  have hmost := h.most
  have hpos := hl.1
  have hsl : (setB t.length fun x => l.contains (x : Int)).length = t.length := setB_len t.length (setI l)
  have hrl := restQ_len t l
  refine Or.inl (cq (rvalidate_fn t) (And.intro rfl trivial) ?_)
  refine And.intro (fun h1 => absurd (valid_zero.2 h) h1) (fun _ => ?_)
  refine Or.inl (cq (rIsIdeal_fn t h l) (And.intro rfl (And.intro rfl trivial)) ?_)
  refine And.intro (fun h1 => ?_) (fun _ => ?_)
  · rw [idB_true.2 hl] at h1; cases h1
  refine Or.inl ?_
  refine Exists.intro [false, false, false, false, false, false, false, false, false, false, false, false, false, false] (And.intro (by decide +kernel) ?_)
  refine cq (rset_fn l t.length (by omega)) (And.intro rfl (And.intro rfl trivial)) ?_
  refine And.intro (by omega) ?_
  refine And.intro (by omega) ?_
  refine And.intro (by omega) ?_
  refine Exists.intro [38] <| lp2 (fun (x : Nat) (_ : List Int) => [(41, .int .i64 x), (10, .vec 38)]) (fun x C => [(34, .vec 0 (.ints .i64 C) []), (38, .vec 0 (.ints .i64 (restTo t l x)) [])]) (fun x C => x ≤ t.length ∧ C.length = t.length ∧ ∀ y, y < t.length → C.getD y 0 = if y < x then clsV t l y else 0) (fun x _ => t.length - x) 0 (List.replicate t.length 0) ⟨Nat.zero_le _, by simp, fun y hy => by simp [hy]⟩ (by repeat' first | refine And.intro ?_ ?_ | exact True.intro | (show (_ : Int) = (_ : Int); omega) | omega | exact rfl | (simp only [RO.len]; omega)) ?_
  rintro x C ⟨hx, hC, hCy⟩
  have hnl := nonTo_len t l x
  have hrt : (restTo t l x).length = (nonTo t l x).length + 1 := rfl
  refine And.intro (fun h1 => ?_) (fun h1 => ?_)
  · have hxl : x < t.length := by omega
    refine And.intro (by omega) ?_
    refine And.intro (fun h2 => ?_) (fun h2 => ?_)
    · have h2 : setI l x = false := by
        have h2 : (!(setB t.length (setI l)).getD x false) = true := h2
        rw [setB_get hxl] at h2; simpa using h2
      have e : restTo t l x ++ [(x : Int)] = restTo t l (x + 1) := by unfold restTo; rw [nonTo_yes hxl h2]; rfl
      refine And.intro (by omega) ?_
      refine And.intro (by omega) ?_
      refine And.intro (by rw [List.length_append, List.length_singleton]; omega) ?_
      refine And.intro (by omega) ?_
      refine nx (x + 1, C.set x (((restTo t l x).length : Nat) : Int)) ⟨by omega, by rw [List.length_set]; exact hC, fun y hy => ?_⟩ (show t.length - (x + 1) < t.length - x by omega) ?_
      · by_cases e1 : y = x
        · subst e1
          rw [getD_set_eq (by omega), if_pos (by omega)]
          unfold clsV; rw [if_neg (by simp [h2]), hrt]
        · rw [getD_set_ne (Ne.symm e1), hCy y hy]
          by_cases e2 : y < x
          · rw [if_pos e2, if_pos (by omega)]
          · rw [if_neg e2, if_neg (by omega)]
      · repeat' first | refine And.intro ?_ ?_ | exact True.intro | exact congrArg (RO.ints .i64) e | (show (_ : Int) = (_ : Int); omega) | omega | exact rfl
    · have h2 : setI l x = true := by
        have h2 : (!(setB t.length (setI l)).getD x false) = false := h2
        rw [setB_get hxl] at h2; simpa using h2
      have e : restTo t l x = restTo t l (x + 1) := by unfold restTo; rw [nonTo_no hxl h2]
      refine And.intro (by omega) ?_
      refine nx (x + 1, C) ⟨by omega, hC, fun y hy => ?_⟩ (show t.length - (x + 1) < t.length - x by omega) ?_
      · rw [hCy y hy]
        by_cases e1 : y = x
        · subst e1
          rw [if_neg (by omega), if_pos (by omega)]
          unfold clsV; rw [if_pos h2]
        · by_cases e2 : y < x
          · rw [if_pos e2, if_pos (by omega)]
          · rw [if_neg e2, if_neg (by omega)]
      · repeat' first | refine And.intro ?_ ?_ | exact True.intro | exact congrArg (RO.ints .i64) e | (show (_ : Int) = (_ : Int); omega) | omega | exact rfl
  · have hxn : x = t.length := by omega
    subst hxn
    have hCe : C = clsQ t l := ext_getD 0 (by rw [clsQ_len]; exact hC) fun y hy => by rw [hCy y (by omega), if_pos (by omega), clsQ_get (by omega)]
    subst hCe
    have hcl := clsQ_len t l
    have hql := quotQ_len t l
    refine Exists.intro [] <| lp (X := Nat) (fun i => [(61, .int .i64 i), (12, .vec 97)]) (fun i => [(97, .vec 0 (.rows .i64 ((quotQ t l).take i)) [])]) (fun i => i ≤ (restQ t l).length) (fun i => (restQ t l).length - i) 0 (Nat.zero_le _) (by repeat' first | refine And.intro ?_ ?_ | exact True.intro | (show (_ : Int) = (_ : Int); omega) | omega | exact rfl | (simp only [RO.len]; omega)) ?_
    intro i hi
    have hti : ((quotQ t l).take i).length = i := by rw [List.length_take, quotQ_len]; omega
    refine And.intro (fun h5 => ?_) (fun h5 => ?_)
    · have h5 : (i : Int) < ((restQ t l).length : Int) := h5
      have hil : i < (restQ t l).length := by omega
      have gi := restQ_get hl hil
      have hrow := quotQ_row (t := t) (l := l) hil
      have hrl0 : ((quotQ t l).getD i []).length = (restQ t l).length := by rw [hrow]; simp
      refine And.intro (show 0 ≤ (i : Int) ∧ (i : Int) < ((restQ t l).length : Int) by omega) ?_
      refine Exists.intro [] <| lp (X := Nat) (fun k => [(68, .int .i64 k), (15, .vec 92)]) (fun k => [(92, .vec 0 (.ints .i64 (((quotQ t l).getD i []).take k)) [])]) (fun k => k ≤ (restQ t l).length) (fun k => (restQ t l).length - k) 0 (Nat.zero_le _) (by repeat' first | refine And.intro ?_ ?_ | exact True.intro | (show (_ : Int) = (_ : Int); omega) | omega | exact rfl | (simp only [RO.len]; omega)) ?_
      intro k hk
      have htk : (((quotQ t l).getD i []).take k).length = k := by rw [List.length_take, hrl0]; omega
      refine And.intro (fun h6 => ?_) (fun h6 => ?_)
      · have h6 : (k : Int) < ((restQ t l).length : Int) := h6
        have hkl : k < (restQ t l).length := by omega
        have gk := restQ_get hl hkl
        have he := h.toSh.ent (x := ((restQ t l).getD i 0).toNat) (y := ((restQ t l).getD k 0).toNat) (by omega) (by omega)
        have hrw := h.toSh.len (x := ((restQ t l).getD i 0).toNat) (by omega)
        have hv : (clsQ t l).getD ((t.getD ((restQ t l).getD i 0).toNat []).getD ((restQ t l).getD k 0).toNat 0).toNat 0 = quotV t l i k := by
          rw [he.1, Int.toNat_natCast, clsQ_get he.2]; rfl
        have snoc : ∀ v, quotV t l i k = v → RO.ints .i64 (((quotQ t l).getD i []).take k ++ [v]) = RO.ints .i64 (((quotQ t l).getD i []).take (k + 1)) := fun v hv => by
          rw [take_snoc (d := 0) (by omega), hrow, map_range_getD _ _ _ _ hkl, hv]
        refine And.intro (by omega) ?_
        refine And.intro (fun h7 => ?_) (fun h7 => ?_)
        · refine And.intro (fun h8 => ?_) (fun h8 => ?_)
          · refine And.intro (show 0 ≤ (restQ t l).getD i 0 ∧ (restQ t l).getD i 0 < (t.length : Int) from ⟨gi.1, gi.2.1⟩) ?_
            refine And.intro (show 0 ≤ (restQ t l).getD k 0 ∧ (restQ t l).getD k 0 < ((t.getD ((restQ t l).getD i 0).toNat []).length : Int) by rw [hrw]; exact ⟨gk.1, gk.2.1⟩) ?_
            refine And.intro (show 0 ≤ (t.getD ((restQ t l).getD i 0).toNat []).getD ((restQ t l).getD k 0).toNat 0 ∧ (t.getD ((restQ t l).getD i 0).toNat []).getD ((restQ t l).getD k 0).toNat 0 < ((clsQ t l).length : Int) by rw [he.1, hcl]; omega) ?_
            refine And.intro (by simp; omega) ?_
            refine And.intro (by omega) ?_
            refine nx (k + 1) (show k + 1 ≤ (restQ t l).length by omega) (show (restQ t l).length - (k + 1) < (restQ t l).length - k by omega) ?_
            repeat' first | refine And.intro ?_ ?_ | exact True.intro | exact snoc _ hv.symm | (show (_ : Int) = (_ : Int); omega) | omega | exact rfl
          · have h8 : (k : Int) ≤ 0 := h8
            have hz := quotV_zero h.toSh hl hil hkl (Or.inr (by omega))
            refine And.intro (by simp; omega) ?_
            refine And.intro (by omega) ?_
            refine nx (k + 1) (show k + 1 ≤ (restQ t l).length by omega) (show (restQ t l).length - (k + 1) < (restQ t l).length - k by omega) ?_
            repeat' first | refine And.intro ?_ ?_ | exact True.intro | exact snoc _ hz | (show (_ : Int) = (_ : Int); omega) | omega | exact rfl
        · have h7 : (i : Int) ≤ 0 := h7
          have hz := quotV_zero h.toSh hl hil hkl (Or.inl (by omega))
          refine And.intro (by simp; omega) ?_
          refine And.intro (by omega) ?_
          refine nx (k + 1) (show k + 1 ≤ (restQ t l).length by omega) (show (restQ t l).length - (k + 1) < (restQ t l).length - k by omega) ?_
          repeat' first | refine And.intro ?_ ?_ | exact True.intro | exact snoc _ hz | (show (_ : Int) = (_ : Int); omega) | omega | exact rfl
      · have h6 : ((restQ t l).length : Int) ≤ (k : Int) := h6
        have e : RO.rows .i64 ((quotQ t l).take i ++ [((quotQ t l).getD i []).take k]) = RO.rows .i64 ((quotQ t l).take (i + 1)) := by
          rw [take_snoc (d := []) (by omega), List.take_of_length_le (l := (quotQ t l).getD i []) (by omega)]
        refine And.intro (by simp; omega) ?_
        refine And.intro (by omega) ?_
        refine nx (i + 1) (show i + 1 ≤ (restQ t l).length by omega) (show (restQ t l).length - (i + 1) < (restQ t l).length - i by omega) ?_
        repeat' first | refine And.intro ?_ ?_ | exact True.intro | exact e | (show (_ : Int) = (_ : Int); omega) | omega | exact rfl
    · have h5 : ((restQ t l).length : Int) ≤ (i : Int) := h5
      refine And.intro (And.intro trivial ?_) ⟨⟨trivial, rfl⟩, rfl, trivial⟩
      show RO.rows .i64 ((quotQ t l).take i) = RO.rows .i64 (quotQ t l)
      rw [List.take_of_length_le (by omega)]
theorem rquot_fn (t : List (List Int)) (h : Semi t) (l : List Int) (hl : IdL t l) : QF 35 [.ro (.rows .i64 t), .ro (.ints .i64 l)] (.tup [.ro (.rows .i64 (quotQ t l)), .ro (.ints .i64 (clsQ t l)), .int .i64 0]) := mkQ Try.func35 (by decide +kernel) rfl (Nat.le_of_ble_eq_true rfl) fun _ => rquot_k t h l hl
theorem rquot_no_k (t : List (List Int)) (h : ¬ Semi t) (l : List Int) : fnK TY SP Try.f35 [.ro (.rows .i64 t), .ro (.ints .i64 l)] (.tup [.nils, .nils, .int .i64 (validV t)]) := by
  have hz : validV t ≠ 0 := fun e => h (valid_zero.1 e)
  refine Or.inl (cq (rvalidate_fn t) (And.intro rfl trivial) ?_)
  refine And.intro (fun _ => ?_) (fun h1 => absurd h1 hz)
  exact ⟨trivial, trivial, rfl, trivial⟩
theorem rquot_no (t : List (List Int)) (h : ¬ Semi t) (l : List Int) : QF 35 [.ro (.rows .i64 t), .ro (.ints .i64 l)] (.tup [.nils, .nils, .int .i64 (validV t)]) := mkQ Try.func35 (by decide +kernel) rfl (Nat.le_of_ble_eq_true rfl) fun _ => rquot_no_k t h l
theorem rquot_bad_k (t : List (List Int)) (h : Semi t) (l : List Int) (hl : ¬ IdL t l) : fnK TY SP Try.f35 [.ro (.rows .i64 t), .ro (.ints .i64 l)] (.tup [.nils, .nils, .int .i64 1]) := by
  refine Or.inl (cq (rvalidate_fn t) (And.intro rfl trivial) ?_)
  refine And.intro (fun h1 => absurd (valid_zero.2 h) h1) (fun _ => ?_)
  refine Or.inl (cq (rIsIdeal_fn t h l) (And.intro rfl (And.intro rfl trivial)) ?_)
  refine And.intro (fun _ => ?_) (fun h1 => ?_)
  · exact ⟨trivial, trivial, rfl, trivial⟩
  · rw [idB_false.2 hl] at h1; cases h1
theorem rquot_bad (t : List (List Int)) (h : Semi t) (l : List Int) (hl : ¬ IdL t l) : QF 35 [.ro (.rows .i64 t), .ro (.ints .i64 l)] (.tup [.nils, .nils, .int .i64 1]) := mkQ Try.func35 (by decide +kernel) rfl (Nat.le_of_ble_eq_true rfl) fun _ => rquot_bad_k t h l hl
end Go.Proofs.Ytdmfhcppdpcceaa
